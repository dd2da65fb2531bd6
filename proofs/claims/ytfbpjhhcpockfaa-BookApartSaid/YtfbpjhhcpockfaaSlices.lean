/- Slices that are read, and slices that a call owns: the laws that the walks of this seat use. No condition. -/
import Derived.Test.YtfbpjhhcpockfaaWords
import Derived.Maps.AppendAt
import Derived.Laws.BytesArg
import Derived.Deep.AppendLies
set_option linter.unusedVariables false
set_option linter.unusedSimpArgs false
namespace Go.Proofs.Ytfbpjhhcpockfaa
open Go.RowKit

/-- A slice that is read: 'n' elements of 'size' cells each, the cells 'cs'; nil and empty ones alike. -/
def Rd (w : World) (A : Option Addr) (n size : Nat) (cs : List Value) : Prop :=
  cs.length = n * size ∧ n ≤ 9223372036854775807 ∧ (cs ≠ [] → ∃ b o, A = some ⟨b, o, none⟩ ∧ ∀ j u, cs[j]? = some u → w.cell? ⟨b, o + j, none⟩ = some u)

theorem add_at (b o j : Nat) : (⟨b, o, none⟩ : Addr).add j = ⟨b, o + j, none⟩ := by unfold Addr.add; split <;> simp_all
theorem Rd.below {w w1 : World} {A : Option Addr} {n size : Nat} {cs : List Value} (h : Rd w A n size cs) (hb : Below w.heap.size w w1) : Rd w1 A n size cs :=
  ⟨h.1, h.2.1, fun hne => by
    obtain ⟨b, o, e, hc⟩ := h.2.2 hne
    exact ⟨b, o, e, fun j u hj => by
      have h1 := hc j u hj
      rw [hb.cell (p := ⟨b, o + j, none⟩) (World.block_lt_of_cell? w _ h1)]
      exact h1⟩⟩
theorem Rd.nil (w : World) (A : Option Addr) (size : Nat) : Rd w A 0 size [] := ⟨by simp, by omega, fun h => absurd rfl h⟩
theorem Rd.at_ {w : World} {A : Option Addr} {n size : Nat} {cs : List Value} (h : Rd w A n size cs) (hn : cs ≠ []) : ∃ b o, A = some ⟨b, o, none⟩ ∧ ∀ j u, cs[j]? = some u → w.cell? ⟨b, o + j, none⟩ = some u := h.2.2 hn
theorem Rd.take_ {w : World} {A : Option Addr} {n size : Nat} {cs : List Value} (h : Rd w A n size cs) (k : Nat) (hk : k ≤ n) : Rd w A k size (cs.take (k * size)) := by
  refine ⟨by rw [List.length_take, h.1]; exact Nat.min_eq_left (Nat.mul_le_mul_right _ hk), by have := h.2.1; omega, fun hne => ?_⟩
  have hne' : cs ≠ [] := fun e => hne (by rw [e]; simp)
  obtain ⟨b, o, e, hc⟩ := h.2.2 hne'
  refine ⟨b, o, e, fun j u hj => hc j u ?_⟩
  rw [List.getElem?_take] at hj
  split at hj
  · exact hj
  · cases hj
theorem Rd.drop_ {w : World} {A : Option Addr} {n c size : Nat} {cs : List Value} (h : Rd w A n size cs) (k : Nat) (hk : k ≤ n) (hc : n ≤ c) : Rd w (if c = k then A else A.map (·.add (k * size))) (n - k) size (cs.drop (k * size)) := by
  refine ⟨by rw [List.length_drop, h.1, Nat.sub_mul], by have := h.2.1; omega, fun hne => ?_⟩
  have hne' : cs ≠ [] := fun e => hne (by rw [e]; simp)
  have hlt : k < n := by
    rcases Nat.lt_or_ge k n with h1 | h1
    · exact h1
    · exfalso; apply hne; apply List.drop_eq_nil_of_le; rw [h.1]; exact Nat.mul_le_mul_right _ h1
  obtain ⟨b, o, e, hcell⟩ := h.2.2 hne'
  rw [if_neg (by omega), e]
  refine ⟨b, o + k * size, by rw [Option.map_some, add_at], fun j u hj => ?_⟩
  rw [List.getElem?_drop] at hj
  rw [Nat.add_assoc]
  exact hcell _ u hj
theorem Rd.own {w : World} {base n size : Nat} {e : TypeId} {v : Value} {xs : List Value} (h : w.ownsRow base e size v n xs) : ∃ A c, v = .slice A n c ∧ n ≤ c ∧ Rd w A n size xs := by
  have h2 := h.2
  rcases h2 with ⟨rfl, rfl⟩ | ⟨g, cap, cur, rfl, hb, hg, hnc, hcm, hcs, ht⟩
  · have : xs = [] := List.eq_nil_of_length_eq_zero (by rw [h.1]; omega)
    subst this
    exact ⟨none, 0, rfl, Nat.le_refl _, Rd.nil _ _ _⟩
  · refine ⟨_, cap, rfl, hnc, h.1, by simp only [maxLen] at hcm; omega, fun hne => ⟨g, 0, rfl, fun j u hj => ?_⟩⟩
    have := h.cells (g := g) rfl j u hj
    rwa [add_at] at this
theorem Rd.owns {w : World} {base n c size : Nat} {e : TypeId} {A : Option Addr} {xs : List Value} (h : w.ownsRow base e size (.slice A n c) n xs) : n ≤ c ∧ Rd w A n size xs := by
  obtain ⟨A', c', hv, h1, h2⟩ := Rd.own h
  injection hv with e1 e2 e3
  subst e1 e3
  exact ⟨h1, h2⟩
/-- Is it nil, or does it lead into a block? (What a law on a slice's value wants.) -/
theorem own_cases {w : World} {base n size : Nat} {e : TypeId} {v : Value} {xs : List Value} (h : w.ownsRow base e size v n xs) (hn : 0 < n) : ∃ g cap, v = .slice (some ⟨g, 0, none⟩) n cap ∧ base ≤ g ∧ g < w.heap.size ∧ n ≤ cap := by
  rcases h.2 with ⟨rfl, rfl⟩ | ⟨g, cap, cur, rfl, hb, hg, hnc, hcm, hcs, ht⟩
  · omega
  · exact ⟨g, cap, rfl, hb, (Array.getElem?_eq_some_iff.1 hg).1, hnc⟩
theorem own_below {w w1 : World} {base n size : Nat} {e : TypeId} {v : Value} {xs : List Value} (h : w.ownsRow base e size v n xs) (hb : Below w.heap.size w w1) : w1.ownsRow base e size v n xs :=
  h.kept (row := none) ⟨hb.os, hb.tape, hb.output, hb.size, fun i hi _ => hb.block i hi⟩ (by cases v.ownBlock <;> simp)
theorem own_mono {w : World} {base base' n size : Nat} {e : TypeId} {v : Value} {xs : List Value} (h : w.ownsRow base e size v n xs) (hb : base' ≤ base) : w.ownsRow base' e size v n xs := by
  refine ⟨h.1, ?_⟩
  rcases h.2 with h' | ⟨g, cap, cur, hv, hbg, r⟩
  · exact .inl h'
  · exact .inr ⟨g, cap, cur, hv, by omega, r⟩
theorem own_base {w : World} {base n size : Nat} {e : TypeId} {v : Value} {xs : List Value} (h : w.ownsRow base e size v n xs) : ∀ k, v.ownBlock = some k → base ≤ k := fun k hk => (h.lt k hk).1

theorem add_zero_map (A : Option Addr) : A.map (·.add 0) = A := by cases A <;> simp [Addr.add]
/-- 'x[:k]' keeps the address. -/
theorem run_cut {P : Program} (t e : TypeId) (kl : IntKind) {i : TypeInfo} (ht : P.underlying t = some (.slice e)) (hi : P.info? e = some i) (A : Option Addr) (n c m : Nat) (hm : m ≤ c) (W : World) :
    (Instr.slice t (.slice A n c) none (some (.int kl (m : Int))) none).run P W = .ok (.slice A m c) W := by
  have hel : P.elem t = e := by simp [Program.elem, ht]
  have hu : P.underlying t = some (.slice (P.elem t)) := by rw [hel]; exact ht
  rw [run_slice_h W t A n c hu kl (m : Int) (Int.natCast_nonneg _) (by omega), hel]
  simp [sizeOf, typeInfo, hi, sliced, Result.andThen, add_zero_map]
/-- 'x[k:]': an address that the walk need not look into. -/
theorem run_rest {P : Program} (t e : TypeId) (kl : IntKind) {i : TypeInfo} (ht : P.underlying t = some (.slice e)) (hi : P.info? e = some i) (A : Option Addr) (n c m : Nat) (hm : m ≤ n) :
    ∃ A' : Option Addr, (∀ W : World, (Instr.slice t (.slice A n c) (some (.int kl (m : Int))) none none).run P W = .ok (.slice A' (n - m) (c - m)) W) ∧
      ∀ (w : World) (cs : List Value), n ≤ c → Rd w A n i.size cs → Rd w A' (n - m) i.size (cs.drop (m * i.size)) := by
  have hel : P.elem t = e := by simp [Program.elem, ht]
  have hu : P.underlying t = some (.slice (P.elem t)) := by rw [hel]; exact ht
  refine ⟨if c = m then A else A.map (·.add (m * i.size)), fun W => ?_, fun w cs hc h => h.drop_ m hm hc⟩
  rw [run_slice_l W t A n c hu kl (m : Int) (Int.natCast_nonneg _) (by omega), hel]
  simp [sizeOf, typeInfo, hi, sliced, Result.andThen]
/-- 'string(x)' of bytes that are read. -/
def nums (k : IntKind) (xs : List Int) : List Value := xs.map fun x => .int k x
theorem nums_length (k : IntKind) (xs : List Int) : (nums k xs).length = xs.length := by simp [nums]
theorem run_string {P : Program} (src dst e : TypeId) (hs : P.underlying src = some (.slice e)) (he : P.underlying e = some (.int .u8)) (hd : P.underlying dst = some .string) {w : World} {A : Option Addr} {n c : Nat} {xs : List Int}
    (h : Rd w A n 1 (nums .u8 xs)) : (convert src dst (.slice A n c)).run P w = .ok (.string (strOfNums xs)) w := by
  have hl : xs.length = n := by have := h.1; simpa [nums] using this
  by_cases hne : nums .u8 xs = []
  · have hx : xs = [] := by simpa [nums] using hne
    subst hx
    obtain rfl : n = 0 := by simpa using hl.symm
    rcases A with _ | ad
    · exact run_convert_bytes_nil w src e hs he 0 c dst hd
    · rw [run_convert_bytes_string w src dst e (some ad) 0 c hs he hd]
      simp [Conv.bytesToString, loadCells, loadCellsFrom, strOfNums]
      rfl
  · obtain ⟨b, o, rfl, hc⟩ := h.2.2 hne
    refine run_convert_bytes_arg w src e hs he b o n c xs hl (fun i hi => ?_) dst hd
    exact hc i _ (by simp [nums, List.getElem?_eq_getElem (show i < xs.length by omega), List.getD_eq_getElem?_getD])
section
variable {P : Program} {ops : Array Oper} {rest : List Oper} {o : Oper} {a : Act} {Q : Exit → Act → World → Prop}
/-- append(v, x...): v nil or owned, x a slice that is read. -/
theorem wpList_append_rd {w0 W : World} (base : Nat) (hgd : o.guard = none) (s x : Operand) (t e : TypeId) (z : Value) (size bytes : Nat)
    (ho : o.op = .call { callee := .builtin .append, args := #[s, x], argTypes := #[t, t] })
    (ht : P.underlying t = some (.slice e)) (hinfo : (P.info? e).map (fun i => (i.zero, i.size, i.bytes)) = some (some z, size, bytes)) (hz : z.cells.size = size) (hs0 : 0 < size) (hb0 : 0 < bytes)
    (v : Value) (n : Nat) (xs : List Value) (A : Option Addr) (m c : Nat) (cs : List Value) (hs : a.eval s = v) (hx : a.eval x = .slice A m c)
    (HO : W.ownsRow base e size v n xs) (HR : Rd W A m size cs) (h1 : ∀ u ∈ cs, u.oneCell' = true) (HB : Below base w0 W) (hbase : base ≤ W.heap.size) (hl : (n + m) * bytes ≤ 140737488355328)
    (h : ∀ v1 w1, w1.ownsRow base e size v1 (n + m) (xs ++ cs) → Below base w0 w1 → W.grownBy w1 v.ownBlock → (v1.ownBlock = v.ownBlock ∨ v1.ownBlock = some W.heap.size) → wpList P ops Q rest (a.put o.dst v1) w1) :
    wpList P ops Q (o :: rest) a W := by
  obtain ⟨i0, hi, hzz⟩ := Option.map_eq_some_iff.1 hinfo
  simp only [Prod.mk.injEq] at hzz
  obtain ⟨hz0, hz1, hz2⟩ := hzz
  have hlen : n + m ≤ 140737488355328 := Nat.le_trans (Nat.le_mul_of_pos_right _ hb0) hl
  have hrun : ∃ v1 w1, (Builtin.append_ #[t, t] o.type #[v, .slice A m c]).run P W = .ok v1 w1 ∧ w1.ownsRow base e size v1 (n + m) (xs ++ cs) ∧ W.grownBy w1 v.ownBlock ∧ (v1.ownBlock = v.ownBlock ∨ v1.ownBlock = some W.heap.size) := by
    by_cases hne : cs = []
    · subst hne
      have hm : m = 0 := by
        have h0 : 0 = m * size := by simpa using HR.1
        rcases Nat.mul_eq_zero.1 h0.symm with h | h
        · exact h
        · omega
      subst hm
      rcases A with _ | ad
      · refine ⟨v, W, ?_, by simpa using HO, World.grownBy.refl W _, .inl rfl⟩
        rcases HO.2 with ⟨rfl, hn⟩ | ⟨g, cap, cur, rfl, _, _, hnc, _⟩
        · simp [Builtin.append_, run_underlying ht, sizeOf, typeInfo, hi, Builtin.lenOf, Builtin.firstCells]
        · simp [Builtin.append_, run_underlying ht, sizeOf, typeInfo, hi, Builtin.lenOf, Builtin.firstCells, hnc, storeCells]
      · obtain ⟨v1, w1, hr, h2, h3, _, h5⟩ := run_append_own_at (P := P) W base t o.type e i0 z size bytes ht hi hz0 hz1 hz2 hz hs0 v n xs HO ad 0 c [] (by simp) (by simp) (by simp) (by simp only [maxLen]; omega) hl hbase
        exact ⟨v1, w1, hr, h2, h3, h5⟩
    · obtain ⟨b, off, rfl, hc⟩ := HR.2.2 hne
      obtain ⟨v1, w1, hr, h2, h3, _, h5⟩ := run_append_own_at (P := P) W base t o.type e i0 z size bytes ht hi hz0 hz1 hz2 hz hs0 v n xs HO ⟨b, off, none⟩ m c cs HR.1 (fun j u hj => by rw [add_at]; exact hc j u hj) h1 (by simp only [maxLen]; omega) hl hbase
      exact ⟨v1, w1, hr, h2, h3, h5⟩
  obtain ⟨v1, w1, hr, hown, hg, hat⟩ := hrun
  refine wpList_plain hgd fun K hK => ?_
  unfold Oper.wp execOp
  simp only [ho, resolve, invoke, builtin, Sem.run_bind, Sem.run_pure, Result.andThen_ok, List.map_toArray, List.map_cons, List.map_nil, hs, hx, hr]
  exact hK _ _ (h v1 w1 hown (HB.grown hg hbase (own_base HO)) hg hat)
/-- append(v, x), x one element, which lies in a new block of its own. -/
theorem wpList_append_one {w0 W : World} (base : Nat) (hgd : o.guard = none) (s x : Operand) (t e : TypeId) (z : Value) (size bytes : Nat)
    (ho : o.op = .call { callee := .builtin .append, args := #[s, x], argTypes := #[t, t] })
    (ht : P.underlying t = some (.slice e)) (hinfo : (P.info? e).map (fun i => (i.zero, i.size, i.bytes)) = some (some z, size, bytes)) (hz : z.cells.size = size) (hs0 : 0 < size) (hb0 : 0 < bytes)
    (v : Value) (n : Nat) (xs : List Value) (cs : Array Value) (hs : a.eval s = v) (hx : a.eval x = .slice (some ⟨W.heap.size, 0, none⟩) 1 1)
    (HO : W.ownsRow base e size v n xs) (hcs : cs.size = size) (h1 : ∀ u ∈ cs.toList, u.oneCell' = true) (HB : Below base w0 W) (hbase : base ≤ W.heap.size) (hl : (n + 1) * bytes ≤ 140737488355328)
    (h : ∀ v1 w1, w1.ownsRow base e size v1 (n + 1) (xs ++ cs.toList) → Below base w0 w1 → W.grownBy w1 v.ownBlock → (v1.ownBlock = v.ownBlock ∨ v1.ownBlock = some (W.heap.size + 1)) → wpList P ops Q rest (a.put o.dst v1) w1) :
    wpList P ops Q (o :: rest) a (W.alloc (.cells cs e)) := by
  have hR : Rd (W.alloc (.cells cs e)) (some ⟨W.heap.size, 0, none⟩) 1 size cs.toList := by
    refine ⟨by simp [hcs], by omega, fun _ => ⟨_, _, rfl, fun j u hj => ?_⟩⟩
    have := World.news_of_block (cs := cs) (t := e) (fr := (0, 0)) (heap_alloc_new W _) j u (by simpa using hj)
    rwa [add_at] at this
  refine wpList_append_rd (w0 := w0) base hgd s x t e z size bytes ho ht hinfo hz hs0 hb0 v n xs _ 1 1 cs.toList hs hx (HO.alloc _) hR h1 (HB.alloc hbase _) (by simp; omega) hl ?_
  intro v1 w1 g1 g2 g3 g4
  exact h v1 w1 g1 g2 (World.grownBy.trans (World.grownBy_alloc W _ _) g3) (by simpa using g4)
end
end Go.Proofs.Ytfbpjhhcpockfaa
