/- maps.Values of a map of contacts, and slices.Collect of it: the pointers, in whatever order. No condition. -/
import Derived.Test.YtfbpjhhcpockfaaOfPlain
import Derived.RangeFuncBox
import Derived.Shelf.SlIter.AllValues
set_option linter.unusedVariables false
set_option linter.unusedSimpArgs false
namespace Go.Proofs.Ytfbpjhhcpockfaa
open Go.RowKit Go.Shelf Go.Maps Go.Sort
attribute [local go_sem] Oper.semAt_some

def pb (pt : Str → Option Nat) (s : Str) : Nat := (pt s).getD 0
def encP (pt : Str → Option Nat) (s : Str) : Value := .pointer (some ⟨pb pt s, 0, none⟩)
/-- Who has come: each key once. -/
def Got (pt : Str → Option Nat) (left : Lit → Bool) (ss : List Str) : Prop := ss.Nodup ∧ ∀ s, s ∈ ss ↔ ((pt s).isSome = true ∧ left (.string s) = false)
/-- All have come. -/
def All (pt : Str → Option Nat) (ss : List Str) : Prop := ss.Nodup ∧ ∀ s, s ∈ ss ↔ (pt s).isSome = true
theorem Got.step {pt : Str → Option Nat} {left : Lit → Bool} {ss : List Str} {x : Str} (h : Got pt left ss) (hx : left (.string x) = true) (hp : (pt x).isSome = true) : Got pt (fun z => left z && !z.sameKey (.string x)) (ss ++ [x]) := by
  refine ⟨?_, fun s => ?_⟩
  · rw [List.nodup_append]
    refine ⟨h.1, by simp, ?_⟩
    rintro a ha b hb rfl
    simp at hb
    subst hb
    have := (h.2 a).1 ha
    rw [hx] at this
    cases this.2
  · by_cases e : s = x
    · subst e
      simp [hp, Lit.sameKey]
    · have hne : (Lit.string s).sameKey (.string x) = false := sameKey_ne (by simpa using e)
      simp only [List.mem_append, List.mem_singleton, hne]
      rw [h.2 s]
      simp [e]
theorem Got.all {pt : Str → Option Nat} {left : Lit → Bool} {ss : List Str} (h : Got pt left ss) (hl : ∀ kl, left kl = false) : All pt ss := ⟨h.1, fun s => by rw [h.2 s, hl]; simp⟩
variable {pt : Str → Option Nat}
theorem info_ptr : (Try.prog.info? 66).map (fun i => (i.zero, i.size, i.bytes)) = some (some (.pointer none), 1, 8) := by kernel_rfl

set_option maxRecDepth 100000 in
set_option maxHeartbeats 1000000 in
/-- maps.Values's iterator. -/
theorem values1_in (F : Fence) (n : Nat) (h8 : F.fn 54) (hro : F.round = none) (hn : 1 ≤ n) (l Bm b nn : Nat) (D0 : DataW Value) (hpt : ∀ kl, ptF pt kl = mget D0 kl) (J Jx : List Str → World → Prop)
    (hY : ∀ pre x W, J pre W → pre.length < Maps.size D0 → YieldAt F (n - 1) Try.prog l #[encP pt x] W fun e W' =>
      (e = .returned (.bool true) ∧ J (pre ++ [x]) W' ∧ KeepsWalks W W') ∨ (e = .returned (.bool false) ∧ Jx (pre ++ [x]) W'))
    (W : World) (hJ : AbidesFrom W.heap.size J) (hm : W.cell? ⟨Bm, 0, none⟩ = some (.map (some b))) (hown : W.ownsMap Try.prog 9 Rv b nn D0) (h0 : J [] W) :
    CallsIn F n Try.prog 54 #[.func (.yield l) #[] #[], .pointer (some ⟨Bm, 0, none⟩)] W fun e W' => (∃ v, e = .returned v) ∧
      ((∃ xs, (All pt xs ∧ xs.length ≤ Maps.size D0) ∧ J xs W') ∨ (∃ pre, True ∧ Jx pre W')) := by
  refine callsIn_of_wp Try.func54 rfl h8 ?_ hro
  simp only [Try.ntmps54, List.size_toArray, List.length_cons, List.length_nil, Nat.reduceAdd, Nat.reduceSub, Array.replicate_succ, Array.replicate_zero, List.push_toArray, List.append_toArray, List.nil_append, List.cons_append]
  have HP := Lib.hid hpt
  clear hpt
  gi_wp2_with (first
    | (gi_at_range; refine wpListIn_range_own _ rfl _ 65 rfl 9 66 keyed_str Try.underlying65 _ b nn _ rfl hown ?_; intro w0 hrg0 hg0 hs0)
    | gi_in)
  go_frame
  have hst : Got pt (has D0) [] := ⟨by simp, fun s => by
    rw [has_iff hown, ← HP.out]
    simp only [ptF]
    cases pt s <;> simp⟩
  have HST := Lib.hid hst
  clear hst
  gi_loopw [4] (fun _ wr => ∃ (left : Lit → Bool) (cnt : Nat) (ps : List Str), wr.ranges Try.prog 9 Rv b W.heap.size nn D0 left cnt ∧ ps.length + cnt ≤ Maps.size D0 ∧ Got pt left ps ∧ J ps wr)
    (fun _ wr => wr.rangeLeft b W.heap.size)
  case atStart =>
    exact ⟨_, _, [], hrg0, by simp, HST.out, hJ [] W w0 none h0 hg0 (fun r e => by cases e)⟩
  case round =>
    obtain ⟨left, cnt, ps, hrg, hcs, hC, hJs⟩ := hrel
    gi_wp2_with (first
      | (gi_at_next; refine wpListIn_next_ranges _ rfl _ rfl 9 keyed_str Rv encStr id (fun key kl hk => by obtain ⟨x, hx, _⟩ := Maps.keyOf_str Try.underlying9 hk; exact ⟨x, hx⟩) (fun v y hv => ⟨v, rfl⟩) b W.heap.size nn _ _ _ rfl hrg ?_ ?_)
      | gi_in)
    · intro hc0 hl0
      have HA := Lib.hid (hC.all hl0)
      clear hC hl0
      gi_wp2
      go_end0
      exact ⟨⟨_, rfl⟩, .inl ⟨ps, ⟨HA.out, by omega⟩, hJs⟩⟩
    · intro x c kl yd yp w2 cnt2 hkey hlk hv hat hrg2 hlt hg2 hs2 hen
      obtain ⟨x', ex, rfl, _⟩ := Maps.keyOf_str Try.underlying9 hkey
      obtain rfl : x = x' := encStr_inj ex
      have hyd : yd = .held c := by have := Rv_inv hv; exact (Prod.mk.inj this).1
      subst hyd
      have hg : ptF pt (.string x) = some c := by rw [HP.out]; unfold mget; rw [hat]
      obtain ⟨C, hC1, hC2⟩ : ∃ C, pt x = some C ∧ .pointer (some ⟨C, 0, none⟩) = c := by
        simp only [ptF] at hg
        cases hh : pt x with
        | none => rw [hh] at hg; cases hg
        | some C => rw [hh] at hg; injection hg with hg; exact ⟨C, rfl, hg⟩
      have hcE : c = encP pt x := by rw [← hC2]; unfold encP pb; rw [hC1]; rfl
      subst hcE
      have hC3 : Got pt (fun z => left z && !z.sameKey (.string x)) (ps ++ [x]) := hC.step hlk (by rw [hC1]; rfl)
      have hJ2 : J ps w2 := hJ ps wr w2 (some W.heap.size) hJs hg2 (fun r e => by cases e; exact ⟨Nat.le_refl _, hrg.iter_walk⟩)
      obtain ⟨fn, tmps, assign, body, hy, hR⟩ := hY ps x w2 hJ2 (by omega)
      have HC3 := Lib.hid hC3
      clear hs2 hC hC1 hC2 hg hC3 hv hat
      unfold encP at hy hen
      gi_wp2
      refine hR.mono ?_
      rintro e W3 (⟨rfl, hJ3, hk3⟩ | ⟨rfl, hJx3⟩)
      · gi_wp2
        have hrg3 := hrg2.of_walks hk3
        go_roundw
        case rel => exact ⟨_, cnt2, ps ++ [x], hrg3, by simp; omega, HC3.out, hJ3⟩
        case measure => rw [hrg3.left_eq, hrg.left_eq]; exact hlt
      · gi_wp2
        refine bodyPost_ret (results_none rfl _ _ _) rfl ?_
        exact ⟨⟨_, rfl⟩, .inr ⟨ps ++ [x], trivial, hJx3⟩⟩
theorem values_stops (F : Fence) (n : Nat) (h7 : F.fn 54) (hro : F.round = none) (hn : 1 ≤ n) (Bm b nn : Nat) (D0 : DataW Value) (hpt : ∀ kl, ptF pt kl = mget D0 kl) (w : World) (hBm : Bm < w.heap.size)
    (hm : w.cell? ⟨Bm, 0, none⟩ = some (.map (some b))) (hown : w.ownsMap Try.prog 9 Rv b nn D0) :
    SeqStopsK F n Try.prog 54 #[.pointer (some ⟨Bm, 0, none⟩)] (fun s => #[encP pt s]) KeepsWalks (fun xs => All pt xs ∧ xs.length ≤ Maps.size D0) (fun _ => True) (Maps.size D0) w := fun l J Jx W hW hJ _ hY h0 => by
  have hown' : W.ownsMap Try.prog 9 Rv b nn D0 := by
    have hbl := hown.lt
    obtain ⟨es, clock, hb, Ft, hs, hD⟩ := hown
    exact ⟨es, clock, (hW.block b hbl).trans hb, Ft, hs, hD⟩
  exact values1_in F n h7 hro hn l Bm b nn D0 hpt J Jx hY W hJ ((hW.cell (p := ⟨Bm, 0, none⟩) hBm).trans hm) hown' h0
theorem size_le {w : World} {k : TypeId} {b nn : Nat} {D : DataW Value} (h : w.ownsMap Try.prog k Rv b nn D) : Maps.size D ≤ nn := by
  obtain ⟨es, clock, _, _, hs, rfl⟩ := h
  rw [size_eq, length_sorted]
  simpa using hs
theorem values_any (mb : Option Nat) (w : World) : Calls Try.prog 30 #[.map mb] w fun e w' => e = .returned (.func (.func 54) #[] #[.pointer (some ⟨w.heap.size, 0, none⟩)]) ∧ w' = w.alloc (.cells #[.map mb] 65) := by
  go_enter Try.func30, Try.ntmps30
  go_wp2
  go_ret
  exact ⟨rfl, rfl⟩

set_option maxRecDepth 100000 in
set_option maxHeartbeats 2000000 in
theorem appendSeq_in (F : Fence) (n : Nat) (h3 : F.fn 63) (h5 : F.fn 54) (hro : F.round = none) (hn : 3 ≤ n) (Bm b nn : Nat) (D0 : DataW Value) (hpt : ∀ kl, ptF pt kl = mget D0 kl) (w : World) (hBm : Bm < w.heap.size)
    (hm : w.cell? ⟨Bm, 0, none⟩ = some (.map (some b))) (hown : w.ownsMap Try.prog 9 Rv b nn D0) (hbig : nn ≤ 1000000000) :
    CallsIn F n Try.prog 63 #[.slice none 0 0, .func (.func 54) #[] #[.pointer (some ⟨Bm, 0, none⟩)]] w fun e W' =>
      ∃ v ss, e = .returned v ∧ (All pt ss ∧ ss.length ≤ nn) ∧ W'.ownsRow w.heap.size 66 1 v ss.length (ss.map (encP pt)) ∧ Below w.heap.size w W' := by
  have h1 : 1 ≤ n := by omega
  obtain ⟨i0, hi, hz0, hz1, hz2⟩ := info_parts info_ptr
  have hsz := size_le hown
  refine callsIn_of_wp_marks Try.func63 rfl h3 ?_ hro
  simp only [Try.ntmps63, List.size_toArray, List.length_cons, List.length_nil, Nat.reduceAdd, Nat.reduceSub, Array.replicate_succ, Array.replicate_zero, List.push_toArray, List.append_toArray, List.nil_append, List.cons_append]
  have HM := Lib.hid hm
  have HOW := Lib.hid hown
  have HP := Lib.hid hpt
  clear hm hown hpt
  gi_wp2
  have bO := Boxed.new w 75 (.slice none 0 0)
  have hB0 : Below w.heap.size w (w.alloc (.cells #[.slice none 0 0] 75)) := (Below.refl _ w).alloc (Nat.le_refl _) _
  refine wpIn_rangeFunc_ownG hro h1 (gf := 54) (lb := #[.pointer (some ⟨Bm, 0, none⟩)]) rfl h5 (enters_of Try.func54 (by kernel_rfl) rfl)
    (values_stops F (n - 1) h5 hro (by omega) Bm b nn D0 HP.out _ hBm HM.out HOW.out) walksK_t walksK_b hB0 (fun _ => rfl)
    (fun pre W => (∃ v, Boxed W w.heap.size 75 v ∧ W.ownsRow w.heap.size 66 1 v pre.length (pre.map (encP pt)) ∧ True) ∧ Below w.heap.size w W)
    (fun _ _ _ => False)
    (OwnFrom.and (Own.from (holdsRow_own w.heap.size w.heap.size 75 66 1 (fun pre : List Str => pre.length) (fun pre : List Str => pre.map (encP pt)) (fun _ _ => True)) _) (ownFrom_below (Nat.le_refl _) (by simp)))
    (fun _ _ _ _ _ hs _ _ => hs)
    ⟨⟨_, bO, World.ownsRow_nil _ _ _ _, trivial⟩, hB0⟩
    (fun x => { tmps := #[.slice none 0 0, .func (.func 54) #[] #[.pointer (some ⟨Bm, 0, none⟩)], .pointer (some ⟨w.heap.size, 0, none⟩), undef, .slice none 0 0, encP pt x, .func (.func 54) #[] #[.pointer (some ⟨Bm, 0, none⟩)], encP pt x, undef, undef, undef, undef, undef], defers := [] }) ?assign ?body ?done ?stop
  case assign =>
    intro l x W K hK
    gi_wp2
    exact hK
  case body =>
    rintro l pre x W ⟨⟨v, hv, hrow, _⟩, hB⟩ hlt
    have hc := hv.cell
    unfold encP
    gi_wp2_with (gi_at_builtin; refine wpListIn_append_own _ rfl _ _ 75 rfl w.heap.size 66 i0 (.pointer none) 1 8 Try.underlying75 hi hz0 hz1 hz2 rfl (by decide) _ _ _ rfl (hrow.alloc _) ⟨W.heap.size, 0, none⟩ 1 1 [.pointer (some ⟨pb pt x, 0, none⟩)] rfl rfl (cell_one_new _ _ _) (by simp [Value.oneCell']) (by unfold maxLen; omega) (by omega) (by have := hB.size; simp; omega) ?_; intro v' w1 hown' hgrow _; obtain ⟨g', cap', rfl⟩ := ownsRow_succ hown'; obtain ⟨hv1, hv2, hr2, hk2, hb2⟩ := hv.appended (by decide) hrow hB.size (Nat.le_refl _) hown' hgrow; have hc1 := hv1.cell; have hf1 := hv1.frozen)
    exact ⟨hk2.from _, hk2.walks, ⟨_, hv2, by rw [List.map_append, List.length_append]; exact hr2, trivial⟩, hB.trans hb2⟩
  case done =>
    rintro D ys W hD hall ⟨⟨v, hv, hrow, _⟩, hB⟩ hK
    have hc := hv.cell
    gi_wp2
    refine ⟨by simp, .inl ⟨_, _, rfl, run_takeDeferred hK, ?_⟩⟩
    exact ⟨_, results_tmp rfl _ _ _, v, ys, rfl, ⟨hall.1, by have := hall.2; omega⟩, ownsRow_putObj hrow _ hK rfl, hB.trans (belowK_b (w := w) (Nat.le_refl _) W D _ _ (by simp at hD; omega) hK rfl rfl)⟩
  case stop =>
    rintro D c pre W _ _ h _
    exact h.elim
theorem appendSeq_any (Bm b nn : Nat) (w : World) (hm : w.cell? ⟨Bm, 0, none⟩ = some (.map (some b))) (hM : MapV w 9 b nn (ptF pt)) (hbig : nn ≤ 1000000000) :
    Calls Try.prog 63 #[.slice none 0 0, .func (.func 54) #[] #[.pointer (some ⟨Bm, 0, none⟩)]] w fun e W' =>
      ∃ v ss, e = .returned v ∧ (All pt ss ∧ ss.length ≤ nn) ∧ W'.ownsRow w.heap.size 66 1 v ss.length (ss.map (encP pt)) ∧ Below w.heap.size w W' := by
  obtain ⟨D0, hown, hpt⟩ := hM
  refine (callsIn_wide (n := 3)).1 ?_
  exact appendSeq_in Fence.wide 3 trivial trivial rfl (by omega) Bm b nn D0 hpt w (World.block_lt_of_cell? w _ hm) hm hown hbig
theorem collect_any (Bm b nn : Nat) (w : World) (hm : w.cell? ⟨Bm, 0, none⟩ = some (.map (some b))) (hM : MapV w 9 b nn (ptF pt)) (hbig : nn ≤ 1000000000) :
    Calls Try.prog 52 #[.func (.func 54) #[] #[.pointer (some ⟨Bm, 0, none⟩)]] w fun e W' =>
      ∃ v ss, e = .returned v ∧ (All pt ss ∧ ss.length ≤ nn) ∧ W'.ownsRow w.heap.size 66 1 v ss.length (ss.map (encP pt)) ∧ Below w.heap.size w W' := by
  have HC := Lib.hid (appendSeq_any Bm b nn w hm hM hbig)
  clear hm hM
  go_enter Try.func52, Try.ntmps52
  go_wp2_with fail
  refine HC.out.mono ?_
  rintro e w1 ⟨v, ss, rfl, h1, h2, h3⟩
  have H := Lib.hid (And.intro h1 (And.intro h2 h3))
  clear h1 h2 h3
  go_wp2_with fail
  go_ret
  exact ⟨_, ss, rfl, H.out⟩
end Go.Proofs.Ytfbpjhhcpockfaa
