/- slices.Clone and slices.DeleteFunc of events: a copy of one's own; the row cut to what the predicate leaves. No condition. -/
import Derived.Test.YtfbpjhhcpockfaaEvRow
import Derived.Lib.SliceRun
import Derived.Laws.IdiomCopy
set_option linter.unusedVariables false
set_option linter.unusedSimpArgs false
namespace Go.Proofs.Ytfbpjhhcpockfaa
open Go.RowKit Go.Shelf

theorem info_ev : (Try.prog.info? 35).map (fun i => (i.zero, i.size, i.bytes)) = some (some (.agg #[.int .i64 0, .int .i64 0, .int .i64 0, .int .i64 0, .int .i64 0, .int .i64 0, .int .i64 0, .int .i64 0, .int .i64 0, .string ⟨#[]⟩, .int .i64 0, .string ⟨#[]⟩]), 12, 112) := by kernel_rfl
theorem evCells_one (L : List Ev) : ∀ u ∈ evCells L, u.oneCell' = true := by
  intro u hu
  simp only [evCells, List.mem_flatten, List.mem_map] at hu
  obtain ⟨l, ⟨e, _, rfl⟩, hu⟩ := hu
  simp only [Ev.cells, List.mem_cons, List.not_mem_nil, or_false] at hu
  rcases hu with rfl | rfl | rfl | rfl | rfl | rfl | rfl | rfl | rfl | rfl | rfl | rfl <;> rfl

theorem clone_any (A : Option Addr) (n c : Nat) (L : List Ev) (w : World) (hR : RdEv w A n L) (hbig : n ≤ 1000000000) :
    Calls Try.prog 45 #[.slice A n c] w fun e w' => ∃ v, e = .returned v ∧ w'.ownsRow w.heap.size 35 12 v n (evCells L) ∧ Below w.heap.size w w' := by
  have q : ∀ (w : World) (a : Option Addr) (n c n' c' : Nat), (binOp .eql 28 (.slice a n c) (.slice none n' c')).run Try.prog w = .ok (.bool a.isNone) w := fun w a n c n' c' => Lib.run_eql_slice_nil w _ _ a n c n' c' Try.underlying28
  rcases A with _ | ad
  · have hcs : evCells L = [] := by
      rcases hh : evCells L with _ | ⟨x, l⟩
      · rfl
      · obtain ⟨b, o, e, _⟩ := hR.2.2.2 (by rw [hh]; simp)
        cases e
    have hn : n = 0 := by have := hR.2.1; rw [hcs] at this; simp at this; omega
    subst hn
    have H := Lib.hid (show w.ownsRow w.heap.size 35 12 (.slice none 0 0) 0 (evCells L) by rw [hcs]; exact World.ownsRow_nil _ _ _ _)
    clear hR hcs
    go_enter Try.func45, Try.ntmps45
    go_wp2
    go_ret
    exact ⟨_, rfl, H.out, Below.refl _ _⟩
  · have HL := World.ownsRow_lit (base := w.heap.size) (e := 35) (size := 12) w #[] 0 (Nat.le_refl _) (by simp [maxLen]) rfl
    have HBA := (Below.refl w.heap.size w).alloc (Nat.le_refl _) (.cells #[] 35)
    have HR := Lib.hid (hR.2.below HBA)
    clear hR
    go_enter Try.func45, Try.ntmps45
    go_wp2_with (at_builtin; refine wpList_append_rd (w0 := w) w.heap.size rfl _ _ 28 35 _ 12 112 rfl Try.underlying28 info_ev rfl (by decide) (by decide) _ 0 [] (some ad) n c (evCells L) rfl rfl HL HR.out (evCells_one _) HBA (by simp) (by omega) ?_)
    intro v4 w4 hown hb4 _ _
    try simp only [Nat.zero_add, List.nil_append] at hown
    have HO := Lib.hid hown
    have HB := Lib.hid hb4
    clear hown hb4 HL HBA HR
    go_wp2
    go_ret
    exact ⟨_, rfl, HO.out, HB.out⟩

/-- 'clear' of elements of several cells. -/
theorem run_clear_k {P : Program} (w : World) (t e ty : TypeId) (z : Value) (size : Nat) (ht : P.underlying t = some (.slice e)) (hv : ∀ w, (zeroValue e).run P w = .ok z w) (hz : z.cells.size = size) (b o n c : Nat) (hn : 0 < n)
    (hc : ∀ j, j < n * size → (w.cell? ⟨b, o + j, none⟩).isSome = true) (hf : ∀ j, j < n * size → w.frozen? ⟨b, o + j, none⟩ = false) (h1 : ∀ v ∈ (Builtin.zeroCells z.cells n).toList, v.oneCell' = true) :
    ∃ zs : List Value, zs.length = n * size ∧ ∀ ty, (Builtin.clear_ #[t] ty #[.slice (some ⟨b, o, none⟩) n c]).run P w = .ok (.tuple #[]) (w.setCells b o zs) := by
  have hl : (Builtin.zeroCells z.cells n).toList.length = n * size := by simp [size_zeroCells, hz]
  refine ⟨(Builtin.zeroCells z.cells n).toList, hl, fun ty => ?_⟩
  have hst := run_storeCells_cells (P := P) b o (Builtin.zeroCells z.cells n).toList 0 w (by intro j hj; rw [hl] at hj; simpa using hc j hj) (by intro j hj; rw [hl] at hj; simpa using hf j hj) h1
  simp only [Nat.add_zero] at hst
  obtain ⟨m, rfl⟩ : ∃ m, n = m + 1 := ⟨n - 1, by omega⟩
  simp [Builtin.clear_, run_underlying ht, hv, hst]
theorem mem_zeroCells (cs : Array Value) (n : Nat) (h : ∀ v ∈ cs.toList, v.oneCell' = true) (h0 : 0 < cs.size) : ∀ v ∈ (Builtin.zeroCells cs n).toList, v.oneCell' = true := by
  intro v hv
  simp only [Builtin.zeroCells, Array.toList_map, List.mem_map] at hv
  obtain ⟨i, _, rfl⟩ := hv
  have hi : i % cs.size < cs.size := Nat.mod_lt _ h0
  rw [getElem!_pos cs (i % cs.size) hi]
  exact h _ (by simp)

theorem info_ev_parts : ∃ i, Try.prog.info? 35 = some i ∧ i.size = 12 := by
  obtain ⟨i, hi, h⟩ := Option.map_eq_some_iff.1 info_ev
  simp only [Prod.mk.injEq] at h
  exact ⟨i, hi, h.2.1⟩
/-- clear of a row of events. -/
theorem clear_ev (w : World) (b o n c : Nat) (hn : 0 < n) (hc : ∀ j, j < n * 12 → (w.cell? ⟨b, o + j, none⟩).isSome = true) (hf : ∀ j, j < n * 12 → w.frozen? ⟨b, o + j, none⟩ = false) :
    ∃ zs : List Value, zs.length = n * 12 ∧ ∀ ty, (Builtin.clear_ #[28] ty #[.slice (some ⟨b, o, none⟩) n c]).run Try.prog w = .ok (.tuple #[]) (w.setCells b o zs) := by
  have hz : ∀ w, (zeroValue 35).run Try.prog w = .ok (.agg #[.int .i64 0, .int .i64 0, .int .i64 0, .int .i64 0, .int .i64 0, .int .i64 0, .int .i64 0, .int .i64 0, .int .i64 0, .string ⟨#[]⟩, .int .i64 0, .string ⟨#[]⟩]) w := Try.zeroValue35
  refine run_clear_k (P := Try.prog) w 28 35 0 _ 12 Try.underlying28 hz rfl b o n c hn hc hf (mem_zeroCells _ _ ?_ ?_)
  · intro v hv
    simp only [Value.cells, List.mem_cons, List.not_mem_nil, or_false] at hv
    rcases hv with rfl | rfl | rfl | rfl | rfl | rfl | rfl | rfl | rfl | rfl | rfl | rfl <;> rfl
  · simp [Value.cells]
/-- The block of a row, whatever it holds. -/
def Blk (g cap : Nat) (W : World) : Prop := ∃ cur, W.heap[g]? = some (.cells cur 35 (0, 0)) ∧ cur.size = cap * 12
theorem Blk.some_ {g cap : Nat} {W : World} (h : Blk g cap W) (i : Nat) (hi : i < cap * 12) : (W.cell? ⟨g, i, none⟩).isSome = true := by
  obtain ⟨cur, hg, hs⟩ := h
  simp [World.cell?, hg, hs, hi]
theorem Blk.frozen {g cap : Nat} {W : World} (h : Blk g cap W) (i : Nat) : W.frozen? ⟨g, i, none⟩ = false := by
  obtain ⟨cur, hg, hs⟩ := h
  simp [World.frozen?, hg]
theorem Blk.lt {g cap : Nat} {W : World} (h : Blk g cap W) : g < W.heap.size := by
  obtain ⟨cur, hg, hs⟩ := h
  exact (Array.getElem?_eq_some_iff.1 hg).1
theorem Blk.next {g cap : Nat} {W W1 : World} (h : Blk g cap W) (hb : Below W.heap.size W W1) : Blk g cap W1 := by
  have hl := h.lt
  obtain ⟨cur, hg, hs⟩ := h
  exact ⟨cur, (hb.block g hl).trans hg, hs⟩
theorem Blk.set {g cap : Nat} {W : World} (h : Blk g cap W) (i : Nat) (v : Value) : Blk g cap (W.setCell ⟨g, i, none⟩ v) := by
  obtain ⟨cur, hg, hs⟩ := h
  exact ⟨cur.setIfInBounds i v, by simp [World.setCell, Array.getElem?_modify, hg], by simpa using hs⟩
theorem Blk.sets {g cap : Nat} : ∀ (vs : List Value) (o : Nat) (W : World), Blk g cap W → Blk g cap (W.setCells g o vs)
  | [], _, _, h => h
  | v :: r, o, W, h => Blk.sets r (o + 1) _ (h.set o v)
/-- These events lie in block g from place a on. -/
def EvAt (g q : Nat) (e : Ev) (W : World) : Prop := ∀ t u, e.cells[t]? = some u → W.cell? ⟨g, q * 12 + t, none⟩ = some u
theorem EvAt.next {g q : Nat} {e : Ev} {W W1 : World} (h : EvAt g q e W) (hb : Below W.heap.size W W1) : EvAt g q e W1 := fun t u hu => by
  have := h t u hu
  exact (hb.cell (p := ⟨g, q * 12 + t, none⟩) (World.block_lt_of_cell? _ _ this)).trans this
theorem EvAt.out {g q o : Nat} {e : Ev} {W : World} {vs : List Value} (h : EvAt g q e W) (ho : q * 12 + 12 ≤ o ∨ o + vs.length ≤ q * 12) : EvAt g q e (W.setCells g o vs) := fun t u hu => by
  have ht : t < 12 := by have := (List.getElem?_eq_some_iff.1 hu).1; simpa [Ev.cells] using this
  rw [World.cell?_setCells_out g vs o W _ (fun _ _ => by dsimp only; omega)]
  exact h t u hu
theorem row_of_at {g cap base m : Nat} {M : List Ev} {W : World} (hB : Blk g cap W) (hb : base ≤ g) (hm : M.length = m) (hmc : m ≤ cap) (hcap : cap ≤ maxLen) (h : ∀ q e, M[q]? = some e → EvAt g q e W) :
    W.ownsRow base 35 12 (.slice (some ⟨g, 0, none⟩) m cap) m (evCells M) := by
  obtain ⟨cur, hg, hs⟩ := hB
  have hl : (evCells M).length = m * 12 := by rw [evCells_length, hm]
  refine ⟨hl, .inr ⟨g, cap, cur, rfl, hb, hg, hmc, hcap, hs, ?_⟩⟩
  apply List.ext_getElem?
  intro i
  by_cases hi : i < m * 12
  · obtain ⟨e, he⟩ : ∃ e, M[i / 12]? = some e := ⟨M[i / 12]'(by omega), List.getElem?_eq_getElem (by omega)⟩
    obtain ⟨u, hu⟩ : ∃ u, e.cells[i % 12]? = some u := ⟨e.cells[i % 12]'(by rw [Ev.cells_length]; omega), List.getElem?_eq_getElem _⟩
    have h1 := evCells_at M (i / 12) e (i % 12) u he hu
    have h2 := h (i / 12) e he (i % 12) u hu
    rw [show i / 12 * 12 + i % 12 = i by omega] at h1 h2
    rw [h1, List.getElem?_take_of_lt hi]
    simpa [World.cell?, hg] using h2
  · rw [List.getElem?_eq_none (by rw [List.length_take]; omega), List.getElem?_eq_none (by omega)]

theorem below_sets {base g : Nat} : ∀ {vs : List Value} {o : Nat} {w0 W : World}, Below base w0 W → base ≤ g → Below base w0 (W.setCells g o vs)
  | [], _, _, _, h, _ => h
  | v :: r, o, _, W, h, hg => below_sets (vs := r) (o := o + 1) (Below.setCell h (p := ⟨g, o, none⟩) hg v) hg
/-- What a row becomes while events are struck out of it: i kept of the first j. -/
structure DelInv (base g cap : Nat) (L : List Ev) (p : Ev → Bool) (w0 : World) (i j : Nat) (W : World) : Prop where
  below : Below base w0 W
  blk : Blk g cap W
  len : ((L.take j).filter fun x => !p x).length = i
  lt : i < j
  low : ∀ q e, ((L.take j).filter fun x => !p x)[q]? = some e → EvAt g q e W
  high : ∀ q e, j ≤ q → L[q]? = some e → EvAt g q e W
theorem DelInv.next {base g cap i j : Nat} {L : List Ev} {p : Ev → Bool} {w0 W W1 : World} (h : DelInv base g cap L p w0 i j W) (hw : base ≤ W.heap.size) (hb : Below W.heap.size W W1) : DelInv base g cap L p w0 i j W1 :=
  ⟨h.below.trans (hb.mono hw), h.blk.next hb, h.len, h.lt, fun q e he => (h.low q e he).next hb, fun q e hq he => (h.high q e hq he).next hb⟩
theorem take_snoc {L : List Ev} {j : Nat} {x : Ev} (hx : L[j]? = some x) : L.take (j + 1) = L.take j ++ [x] := by
  rw [List.take_add_one, hx]; rfl
theorem DelInv.skip {base g cap i j : Nat} {L : List Ev} {p : Ev → Bool} {w0 W : World} {x : Ev} (h : DelInv base g cap L p w0 i j W) (hx : L[j]? = some x) (hp : p x = true) : DelInv base g cap L p w0 i (j + 1) W := by
  have e : ((L.take (j + 1)).filter fun x => !p x) = ((L.take j).filter fun x => !p x) := by rw [take_snoc hx, List.filter_append]; simp [hp]
  exact ⟨h.below, h.blk, by rw [e]; exact h.len, by have := h.lt; omega, fun q y hy => h.low q y (by rw [← e]; exact hy), fun q y hq hy => h.high q y (by omega) hy⟩
theorem DelInv.keep {base g cap i j : Nat} {L : List Ev} {p : Ev → Bool} {w0 W : World} {x : Ev} (h : DelInv base g cap L p w0 i j W) (hx : L[j]? = some x) (hp : p x = false) (hbg : base ≤ g) (hic : i < cap) : DelInv base g cap L p w0 (i + 1) (j + 1) (W.setCells g (i * 12) x.cells) := by
  have e : ((L.take (j + 1)).filter fun x => !p x) = ((L.take j).filter fun x => !p x) ++ [x] := by rw [take_snoc hx, List.filter_append]; simp [hp]
  have hlt := h.lt
  refine ⟨?_, h.blk.sets _ _ _, by rw [e]; simp [h.len], by omega, ?_, ?_⟩
  · exact below_sets h.below hbg
  · intro q y hy
    rw [e] at hy
    by_cases hq : q < i
    · rw [List.getElem?_append_left (by rw [h.len]; exact hq)] at hy
      exact (h.low q y hy).out (.inl (by omega))
    · rw [List.getElem?_append_right (by rw [h.len]; omega), h.len] at hy
      have hqi : q - i = 0 := by have := (List.getElem?_eq_some_iff.1 hy).1; simp at this; omega
      rw [hqi] at hy
      simp at hy
      subst hy
      have : q = i := by omega
      subst this
      intro t u hu
      have ht := (List.getElem?_eq_some_iff.1 hu)
      obtain ⟨ht, rfl⟩ := ht
      exact World.cell?_setCells_in g _ _ W (fun a ha => h.blk.some_ _ (by rw [Ev.cells_length] at ha; omega)) t ht
  · intro q y hq hy
    refine (h.high q y (by omega) hy).out (.inr ?_)
    rw [Ev.cells_length]
    omega

theorem first_cases (p : Ev → Bool) (L : List Ev) : ((∀ (j : Nat) (y : Ev), L[j]? = some y → p y = false) ∧ firstAt p L 0 = -1) ∨ ∃ (k : Nat) (x : Ev), L[k]? = some x ∧ p x = true ∧ (∀ (j : Nat) (y : Ev), j < k → L[j]? = some y → p y = false) ∧ firstAt p L 0 = (k : Int) := by
  induction L with
  | nil => exact .inl ⟨fun j y h => by simp at h, rfl⟩
  | cons z L ih =>
    by_cases hz : p z = true
    · exact .inr ⟨0, z, rfl, hz, fun j y hj => absurd hj (Nat.not_lt_zero _), by simp [firstAt, hz]⟩
    · have hz' : p z = false := by simpa using hz
      rcases ih with ⟨h1, _⟩ | ⟨k, x, hx, hpx, hno, _⟩
      · have hall : ∀ (j : Nat) (y : Ev), (z :: L)[j]? = some y → p y = false := by
          intro j y hy
          cases j with
          | zero => simp at hy; subst hy; exact hz'
          | succ j => exact h1 j y (by simpa using hy)
        exact .inl ⟨hall, firstAt_miss p _ 0 hall⟩
      · have hno' : ∀ (j : Nat) (y : Ev), j < k + 1 → (z :: L)[j]? = some y → p y = false := by
          intro j y hj hy
          cases j with
          | zero => simp at hy; subst hy; exact hz'
          | succ j => exact hno j y (by omega) (by simpa using hy)
        exact .inr ⟨k + 1, x, by simpa using hx, hpx, hno', by rw [firstAt_hit p x (z :: L) (k + 1) 0 hno' (by simpa using hx) hpx]; simp⟩
theorem filter_none (p : Ev → Bool) (L : List Ev) (h : ∀ (j : Nat) (y : Ev), L[j]? = some y → p y = false) : (L.filter fun x => !p x) = L := by
  rw [List.filter_eq_self]
  intro y hy
  obtain ⟨j, hj⟩ := List.getElem?_of_mem hy
  simp [h j y hj]
/-- A predicate that holds in each world whose old blocks, below a mark, are as they were. -/
def PredM (base g : Nat) (lb : Array Value) (p : Ev → Bool) (w0 : World) : Prop :=
  (∀ args w, (callFunc g args).run Try.prog w = .ok (.enter g args) w) ∧ ∀ (W : World) (x : Ev), Below base w0 W → Calls Try.prog g (#[x.v] ++ lb) W fun e w' => e = .returned (.bool (p x)) ∧ Below W.heap.size W w'
theorem PredM.pred {base g : Nat} {lb : Array Value} {p : Ev → Bool} {w0 W : World} (h : PredM base g lb p w0) (hb : Below base w0 W) (hw : base ≤ W.heap.size) : PredB g lb p W :=
  ⟨h.1, fun W1 x h1 => h.2 W1 x (hb.trans (h1.mono hw))⟩

/-- 'x[m:]' of a block's row. -/
theorem run_rest_at {P : Program} (t e : TypeId) (kl : IntKind) {i : TypeInfo} (size : Nat) (ht : P.underlying t = some (.slice e)) (hi : P.info? e = some i) (hs : i.size = size) (G n c m r1 r2 : Nat) (hm : m ≤ n) (hc : m < c) (e1 : r1 = n - m) (e2 : r2 = c - m) (W : World) :
    (Instr.slice t (.slice (some ⟨G, 0, none⟩) n c) (some (.int kl (m : Int))) none none).run P W = .ok (.slice (some ⟨G, m * size, none⟩) r1 r2) W := by
  have hel : P.elem t = e := by simp [Program.elem, ht]
  have hu : P.underlying t = some (.slice (P.elem t)) := by rw [hel]; exact ht
  have hne : ¬ c = m := by omega
  rw [run_slice_l W t _ n c hu kl (m : Int) (Int.natCast_nonneg _) (by omega), hel]
  simp [sizeOf, typeInfo, hi, sliced, Result.andThen, hne, hs, add_at, e1, e2]
set_option maxHeartbeats 4000000 in
theorem delete_any (g : Nat) (lb : Array Value) (p : Ev → Bool) (base : Nat) (w0 : World) (v : Value) (n : Nat) (L : List Ev) (w : World) (hp : PredM base g lb p w0) (hO : w.ownsRow base 35 12 v n (evCells L)) (hL : L.length = n) (hb : Below base w0 w) (hbase : base ≤ w0.heap.size) :
    Calls Try.prog 44 #[v, .func (.func g) #[] lb] w fun e w' => ∃ v', e = .returned v' ∧ w'.ownsRow base 35 12 v' (L.filter fun x => !p x).length (evCells (L.filter fun x => !p x)) ∧ Below base w w' := by
  have hbw : base ≤ w.heap.size := Nat.le_trans hbase hb.size
  obtain ⟨A, c, rfl, hnc, hRd⟩ := Rd.own hO
  have hn := hRd.2.1
  have hI := index_any g lb p A n c L w (hp.pred hb hbw) ⟨hL, hRd⟩
  rcases first_cases p L with ⟨hno, he⟩ | ⟨k, x, hx, hpx, hno, he⟩
  · rw [he] at hI
    have HO := Lib.hid hO
    have HI := Lib.hid hI
    rw [filter_none p L hno, hL]
    clear hno hI hO hp hb hRd hL he
    go_enter Try.func44, Try.ntmps44
    go_wp2_with fail
    refine HI.out.mono ?_
    rintro e w1 ⟨rfl, hb1⟩
    have HO1 := Lib.hid (own_below HO.out hb1)
    have HB1 := Lib.hid (hb1.mono hbw)
    clear hb1
    go_wp2_with fail
    go_ret
    exact ⟨_, rfl, HO1.out, HB1.out⟩
  · have hkn : k < n := by have := (List.getElem?_eq_some_iff.1 hx).1; omega
    have hnp : 0 < n := by omega
    obtain ⟨G, cap, hv, hbg, hGlt, hncap⟩ := own_cases hO hnp
    injection hv with e1 e2 e3
    subst e1 e3
    have hcm : c ≤ maxLen ∧ Blk G c w := by
      rcases hO.2 with ⟨h, _⟩ | ⟨g', cap', cur, h, _, hg, _, hm, hs, _⟩
      · cases h
      · injection h with e1 e2 e3
        injection e1 with e1
        injection e1 with e1
        subst e1 e3
        exact ⟨hm, cur, hg, hs⟩
    have HAT := Lib.hid (show ∀ q e, L[q]? = some e → EvAt G q e w by
      intro q e hq t u hu
      obtain ⟨b, o, hA, _, hcc⟩ := RdEv.at_ ⟨hL, hRd⟩ q e hq
      injection hA with hA
      injection hA with h1 h2
      subst h1 h2
      have := hcc t u hu
      rwa [Nat.zero_add] at this)
    have h0 : DelInv base G c L p w k (k + 1) w := by
      have ef : ((L.take (k + 1)).filter fun x => !p x) = L.take k := by
        rw [take_snoc hx, List.filter_append]
        have : ([x].filter fun x => !p x) = [] := by simp [hpx]
        rw [this, List.append_nil, List.filter_eq_self]
        intro y hy
        obtain ⟨j, hj⟩ := List.getElem?_of_mem hy
        have hjk : j < k := by have := (List.getElem?_eq_some_iff.1 hj).1; simp at this; omega
        rw [List.getElem?_take_of_lt hjk] at hj
        simp [hno j y hjk hj]
      refine ⟨Below.refl _ _, hcm.2, by rw [ef, List.length_take]; omega, by omega, ?_, fun q e _ he => HAT.out q e he⟩
      intro q e he
      rw [ef] at he
      have hqk : q < k := by have := (List.getElem?_eq_some_iff.1 he).1; simp at this; omega
      rw [List.getElem?_take_of_lt hqk] at he
      exact HAT.out q e he
    rw [he] at hI
    have HI := Lib.hid hI
    have H0 := Lib.hid h0
    have HP := Lib.hid hp
    have HB := Lib.hid hb
    have HCM := Lib.hid hcm.1
    have HL := Lib.hid hL
    have eg := hp.1
    have hk1 : ((k : Int) == -1) = false := by simp
    have hk2 : IntKind.i64.wrap ((k : Int) + 1) = ((k + 1 : Nat) : Int) := by rw [IntWalk.i64_in _ (by omega)]; omega
    clear hI h0 hno hp hO hb hRd hL he hcm hx hpx HAT
    go_enter Try.func44, Try.ntmps44
    go_wp2_with fail
    refine HI.out.mono ?_
    rintro e w1 ⟨rfl, hb1⟩
    have H1 := Lib.hid (H0.out.next hbw hb1)
    clear hb1 HI H0
    go_wp2_with fail
    go_loopw [5, 6] (fun i j wr => ∃ a b : Nat, b ≤ n ∧ i = .int .i64 a ∧ j = .int .i64 b ∧ DelInv base G c L p w a b wr) (fun _ j _ => n - (intOf j).toNat)
    case atStart => exact ⟨k, k + 1, by omega, rfl, by go_num, H1.out⟩
    case round =>
      obtain ⟨a, b, hbn, rfl, rfl, hD⟩ := hrel
      have hab := hD.lt
      have hbr := hD.below
      have hbase' : base ≤ wr.heap.size := Nat.le_trans hbw hbr.size
      by_cases hlt : b < n
      · obtain ⟨x, hx⟩ : ∃ x, L[b]? = some x := ⟨L[b]'(by rw [HL.out]; exact hlt), List.getElem?_eq_getElem _⟩
        have hcc := hD.high b x (Nat.le_refl _) hx
        have HC := Lib.hid (fun W (h : Below base w W) => HP.out.2 W x (HB.out.trans h))
        obtain ⟨px, hpx⟩ : ∃ t, t = p x := ⟨_, rfl⟩
        rw [← hpx] at HC
        have HPX := Lib.hid hpx
        have HX := Lib.hid hx
        have HD := Lib.hid hD
        clear hpx hx hD
        obtain ⟨r', n', d0, d1, d2, d3, d4, hh', k', key', lab', val'⟩ := x
        unfold Ev.v Ev.cells at HC
        dsimp only at HC
        have u0 : wr.cell? ⟨G, b * 12, none⟩ = some (.int .i64 r') := hcc 0 _ rfl
        have u1 : wr.cell? ⟨G, b * 12 + 1, none⟩ = some (.int .i64 n') := hcc 1 _ rfl
        have u2 : wr.cell? ⟨G, b * 12 + 2, none⟩ = some (.int .i64 d0) := hcc 2 _ rfl
        have u3 : wr.cell? ⟨G, b * 12 + 3, none⟩ = some (.int .i64 d1) := hcc 3 _ rfl
        have u4 : wr.cell? ⟨G, b * 12 + 4, none⟩ = some (.int .i64 d2) := hcc 4 _ rfl
        have u5 : wr.cell? ⟨G, b * 12 + 5, none⟩ = some (.int .i64 d3) := hcc 5 _ rfl
        have u6 : wr.cell? ⟨G, b * 12 + 6, none⟩ = some (.int .i64 d4) := hcc 6 _ rfl
        have u7 : wr.cell? ⟨G, b * 12 + 7, none⟩ = some (.int .i64 hh') := hcc 7 _ rfl
        have u8 : wr.cell? ⟨G, b * 12 + 8, none⟩ = some (.int .i64 k') := hcc 8 _ rfl
        have u9 : wr.cell? ⟨G, b * 12 + 9, none⟩ = some (.string key') := hcc 9 _ rfl
        have u10 : wr.cell? ⟨G, b * 12 + 10, none⟩ = some (.int .i64 lab') := hcc 10 _ rfl
        have u11 : wr.cell? ⟨G, b * 12 + 11, none⟩ = some (.string val') := hcc 11 _ rfl
        have hGl : G < wr.heap.size := HD.out.blk.lt
        have j1 : (b : Int) < (n : Int) := by omega
        have j2 : (0 : Int) ≤ (b : Int) := by omega
        have j3 : (a : Int) < (n : Int) := by omega
        have j4 : (0 : Int) ≤ (a : Int) := by omega
        have HBR := Lib.hid hbr
        clear hcc hbr
        go_wp2_with fail
        go_at_fn g
        refine (HC.out _ (HBR.out.alloc hbase' _)).mono ?_
        rintro e w2 ⟨rfl, hb2⟩
        have hX := (At.new wr #[.int .i64 r', .int .i64 n', .int .i64 d0, .int .i64 d1, .int .i64 d2, .int .i64 d3, .int .i64 d4, .int .i64 hh', .int .i64 k', .string key', .int .i64 lab', .string val'] 35).next hb2
        have hB2 := ((Below.refl wr.heap.size wr).alloc (Nat.le_refl _) _).trans (hb2.mono (by simp))
        have hD2 := HD.out.next hbase' hB2
        have hz2 := hB2.size
        have hBk := hD2.blk
        have HD2 := Lib.hid hD2
        have x0 := hX.cell 0 rfl
        have x1 := hX.cell 1 rfl
        have x2 := hX.cell 2 rfl
        have x3 := hX.cell 3 rfl
        have x4 := hX.cell 4 rfl
        have x5 := hX.cell 5 rfl
        have x6 := hX.cell 6 rfl
        have x7 := hX.cell 7 rfl
        have x8 := hX.cell 8 rfl
        have x9 := hX.cell 9 rfl
        have x10 := hX.cell 10 rfl
        have x11 := hX.cell 11 rfl
        clear hb2 hB2 hD2 hX HC HD u0 u1 u2 u3 u4 u5 u6 u7 u8 u9 u10 u11
        cases px
        · have hac : a < c := by omega
          obtain ⟨o0, y0⟩ := Option.isSome_iff_exists.1 (hBk.some_ (a * 12) (by omega))
          have f0 := hBk.frozen (a * 12)
          obtain ⟨o1, y1⟩ := Option.isSome_iff_exists.1 (hBk.some_ (a * 12 + 1) (by omega))
          have f1 := hBk.frozen (a * 12 + 1)
          obtain ⟨o2, y2⟩ := Option.isSome_iff_exists.1 (hBk.some_ (a * 12 + 2) (by omega))
          have f2 := hBk.frozen (a * 12 + 2)
          obtain ⟨o3, y3⟩ := Option.isSome_iff_exists.1 (hBk.some_ (a * 12 + 3) (by omega))
          have f3 := hBk.frozen (a * 12 + 3)
          obtain ⟨o4, y4⟩ := Option.isSome_iff_exists.1 (hBk.some_ (a * 12 + 4) (by omega))
          have f4 := hBk.frozen (a * 12 + 4)
          obtain ⟨o5, y5⟩ := Option.isSome_iff_exists.1 (hBk.some_ (a * 12 + 5) (by omega))
          have f5 := hBk.frozen (a * 12 + 5)
          obtain ⟨o6, y6⟩ := Option.isSome_iff_exists.1 (hBk.some_ (a * 12 + 6) (by omega))
          have f6 := hBk.frozen (a * 12 + 6)
          obtain ⟨o7, y7⟩ := Option.isSome_iff_exists.1 (hBk.some_ (a * 12 + 7) (by omega))
          have f7 := hBk.frozen (a * 12 + 7)
          obtain ⟨o8, y8⟩ := Option.isSome_iff_exists.1 (hBk.some_ (a * 12 + 8) (by omega))
          have f8 := hBk.frozen (a * 12 + 8)
          obtain ⟨o9, y9⟩ := Option.isSome_iff_exists.1 (hBk.some_ (a * 12 + 9) (by omega))
          have f9 := hBk.frozen (a * 12 + 9)
          obtain ⟨o10, y10⟩ := Option.isSome_iff_exists.1 (hBk.some_ (a * 12 + 10) (by omega))
          have f10 := hBk.frozen (a * 12 + 10)
          obtain ⟨o11, y11⟩ := Option.isSome_iff_exists.1 (hBk.some_ (a * 12 + 11) (by omega))
          have f11 := hBk.frozen (a * 12 + 11)
          clear hBk
          go_wp2_with fail
          go_roundw
          case measure => (simp [intOf]; omega)
          case rel =>
            have hk := HD2.out.keep HX.out HPX.out.symm hbg hac
            simp only [Ev.cells, World.setCells, Nat.add_assoc, Nat.reduceAdd] at hk
            exact ⟨a + 1, b + 1, by omega, by go_num, by go_num, hk⟩
        · clear hBk
          go_wp2_with fail
          go_roundw
          case measure => (simp [intOf]; omega)
          case rel => exact ⟨a, b + 1, by omega, rfl, by go_num, HD2.out.skip HX.out HPX.out.symm⟩
      · have hbn' : b = n := by omega
        subst hbn'
        have hne : ¬ (b : Int) < (b : Int) := by omega
        have e : L.take b = L := List.take_of_length_le (by rw [HL.out]; omega)
        have hac : a < c := by omega
        have hBk := hD.blk
        obtain ⟨nb, hnb⟩ : ∃ q, q = b - a := ⟨_, rfl⟩
        obtain ⟨nc, hnc'⟩ : ∃ q, q = c - a := ⟨_, rfl⟩
        obtain ⟨zs, hzl, hcl⟩ := clear_ev wr G (a * 12) nb nc (by omega) (fun j hj => hBk.some_ _ (by omega)) (fun j hj => hBk.frozen _)
        obtain ⟨i0, hi0, hi1⟩ : ∃ i, Try.prog.info? 35 = some i ∧ i.size = 12 := info_ev_parts
        have hsl1 := fun W => run_rest_at (P := Try.prog) 28 35 .i64 12 Try.underlying28 hi0 hi1 G b c a nb nc (by omega) hac hnb hnc' W
        have hsl2 := fun W => run_cut (P := Try.prog) 28 35 .i64 Try.underlying28 hi0 (some ⟨G, 0, none⟩) b c a (by omega) W
        have HD := Lib.hid hD
        have HZ := Lib.hid hzl
        have HE := Lib.hid e
        have HNB := Lib.hid hnb
        clear hBk hD hzl e hi0 hi1 hbr hnb hnc'
        go_wp2_with fail
        go_ret
        have hD := HD.out
        have hzl := HZ.out
        have el : (L.filter fun x => !p x).length = a := by have := hD.len; rw [HE.out] at this; exact this
        rw [el]
        refine ⟨_, rfl, row_of_at (hD.blk.sets zs (a * 12) wr) hbg el (by omega) HCM.out ?_, below_sets hD.below hbg⟩
        intro q e he
        have hq : q < a := by have := (List.getElem?_eq_some_iff.1 he).1; omega
        refine (hD.low q e (by rw [HE.out]; exact he)).out (.inl (by omega))
end Go.Proofs.Ytfbpjhhcpockfaa
