/- script.Steps gives the steps that the plain words of ScriptPlain say, one for each eight bytes, in a row of its own; it lays new blocks alone. Conditions: bytes are bytes, 4000 at most; the tables hold what the package's text lays. -/
import Derived.Test.YtdabndoojkdicaaDoorChunk
import Derived.Test.YtdabndoojkdicaaDoorScriptStep
set_option linter.unusedVariables false
set_option linter.unusedSimpArgs false
namespace Go.Proofs.YtdabndoojkdicaaDoor
open Go.RowKit Go.Shelf
attribute [local go_sem] Oper.semAt_some gives Gives

def clampN (n : Int) : Int := if n < 1 then 1 else if 5 < n then 5 else n
theorem clampN_range (n : Int) : 1 ≤ clampN n ∧ clampN n ≤ 5 := by unfold clampN; split <;> (try split) <;> omega
def b8At (bs : List Int) (k : Nat) : B8 := ⟨bs.getD (8 * k) 0, bs.getD (8 * k + 1) 0, bs.getD (8 * k + 2) 0, bs.getD (8 * k + 3) 0, bs.getD (8 * k + 4) 0, bs.getD (8 * k + 5) 0, bs.getD (8 * k + 6) 0, bs.getD (8 * k + 7) 0⟩
/-- The steps of these parts. -/
def stepsIn (n : Int) (bs : List Int) (pre : List Nat) : List Stp := (pre.filter fun k => decide (8 * k + 8 ≤ bs.length)).map fun k => stepOf n (b8At bs k)
def stepCells (l : List Stp) : List Value := l.flatMap Stp.cells
theorem stepsIn_snoc (n : Int) (bs : List Int) (pre : List Nat) (x : Nat) : stepsIn n bs (pre ++ [x]) = stepsIn n bs pre ++ if 8 * x + 8 ≤ bs.length then [stepOf n (b8At bs x)] else [] := by
  unfold stepsIn
  by_cases h : 8 * x + 8 ≤ bs.length <;> simp [List.filter_append, h]
theorem stepCells_snoc (l : List Stp) (s : Stp) : stepCells (l ++ [s]) = stepCells l ++ s.cells := by simp [stepCells]
theorem stepsIn_le (n : Int) (bs : List Int) (pre : List Nat) : (stepsIn n bs pre).length ≤ pre.length := by
  unfold stepsIn
  rw [List.length_map]
  exact List.length_filter_le _ _
theorem b8At_ok {bs : List Int} (hb : ∀ x ∈ bs, 0 ≤ x ∧ x ≤ 255) (k : Nat) : (b8At bs k).ok := by
  have h : ∀ i, 0 ≤ bs.getD i 0 ∧ bs.getD i 0 ≤ 255 := by
    intro i
    rw [List.getD_eq_getElem?_getD]
    cases hi : bs[i]? with
    | none => simp
    | some y => exact hb y (List.mem_of_getElem? hi)
  exact ⟨h _, h _, h _, h _, h _, h _, h _, h _⟩
theorem info_step : (Tryd.prog.info? 31).map (fun i => (i.zero, i.size, i.bytes)) = some (some (.agg #[.int .i64 0, .int .i64 0, .int .i64 0, .string ⟨#[]⟩, .int .i64 0, .string ⟨#[]⟩, .int .i64 0, .int .i64 0, .int .u32 0, .int .i64 0]), 10, 96) := by kernel_rfl

set_option maxRecDepth 100000 in
set_option maxHeartbeats 4000000 in
theorem steps23_any (n : Int) (A : Option Addr) (len cap : Nat) (bs : List Int) (w : World) (hR : Rd w A len 1 (nums .u8 bs)) (hb : ∀ x ∈ bs, 0 ≤ x ∧ x ≤ 255) (hc : len ≤ cap) (h4 : len ≤ 4000) (hT : Tabs w) :
    Calls Tryd.prog 7 #[.int .i64 n, .slice A len cap] w fun e w' => ∃ v, e = .returned v ∧ w'.ownsRow w.heap.size 31 10 v (stepsIn (clampN n) bs (List.range (parts len))).length (stepCells (stepsIn (clampN n) bs (List.range (parts len)))) ∧ Below w.heap.size w w' := by
  refine callsIn_wide (n := 3) |>.1 ?_
  refine callsIn_of_wp_marks Tryd.func7 rfl trivial ?_ rfl
  simp only [Tryd.ntmps7, List.size_toArray, List.length_cons, List.length_nil, Nat.reduceAdd, Nat.reduceSub, Array.replicate_succ, Array.replicate_zero, List.push_toArray, List.append_toArray, List.nil_append, List.cons_append]
  have hcl := clampN_range n
  obtain ⟨q, hq⟩ : ∃ q, (if n < 1 then (1 : Int) else n) = q := ⟨_, rfl⟩
  have hcn : (if (5 : Int) < q then (5 : Int) else q) = clampN n := by rw [← hq]; unfold clampN; repeat' split <;> omega
  gi_wp2_with (refine ⟨trivial, ?_⟩; gi_at_call 9; refine (callsIn_wide.2 (chunk_any A len cap _)).mono ?_; rintro e w' ⟨rfl, rfl⟩)
  have hlen : bs.length = len := by have := hR.1; simpa [nums] using this
  have hRD := Lib.hid hR
  have HBS := Lib.hid hb
  have HT := Lib.hid hT
  have HLEN := Lib.hid hlen
  clear hR hb hT hlen hcn hq
  refine wpIn_rangeFunc_ownF rfl (by decide) (gf := 15) (lb := #[.pointer (some ⟨w.heap.size + 1 + 1, 0, none⟩), .pointer (some ⟨w.heap.size + 1 + 1 + 1, 0, none⟩)]) rfl trivial (enters_of Tryd.func15 (by kernel_rfl) rfl)
    (chunk_stops 2 (w.heap.size + 1 + 1) (w.heap.size + 1 + 1 + 1) A len cap hc (by omega) _ (by simp [go_sem]) (by simp [go_sem]) (by simp) (by simp)) KpC.trans
    (fun W l o o' hl ho _ _ => ⟨fun b hb => World.putObj_heap_other (by simp at hl; omega), by simp⟩) (Below.refl _ _) (fun _ => rfl)
    (fun pre W => ((∃ v, Boxed W (w.heap.size + 1) 25 v ∧ W.ownsRow (w.heap.size + 4) 31 10 v (stepsIn (clampN n) bs pre).length (stepCells (stepsIn (clampN n) bs pre)) ∧ True) ∧ W.cell? ⟨w.heap.size, 0, none⟩ = some (.int .i64 (clampN n)) ∧ w.heap.size + 4 ≤ W.heap.size) ∧ Below w.heap.size w W)
    (fun _ _ _ => False)
    (OwnFrom.and (OwnFrom.and (Own.from (holdsRow_own (w.heap.size + 4) (w.heap.size + 1) 25 31 10 (fun pre => (stepsIn (clampN n) bs pre).length) (fun pre => stepCells (stepsIn (clampN n) bs pre)) (fun _ _ => True)) _) (Own.from (fun s A B row hs hg hr => ⟨cell_kept hs.1 hg hr, Nat.le_trans hs.2 hg.size⟩) _)) (ownFrom_below (Nat.le_refl _) (by simp; omega)))
    (fun _ _ _ _ _ hs _ _ => hs)
    ⟨⟨⟨.slice none 0 0, ?b0, World.ownsRow_nil _ _ _ _, trivial⟩, by simp [go_sem], by simp⟩, (by (repeat (first | exact Below.refl _ _ | assumption | (refine Below.drew ?_) | (refine below_drewN ?_ _) | (refine Below.alloc ?_ (by first | omega | (simp; done) | (simp; omega)) _) | (refine Below.setCell ?_ (by first | omega | (simp; done) | (simp; omega)) _))))⟩
    (fun x => { tmps := #[.int .i64 n, .slice A len cap, .pointer (some ⟨w.heap.size, 0, none⟩), undef, .slice none 0 0, .pointer (some ⟨w.heap.size + 1, 0, none⟩), partV A len x, .int .i64 n, .int .i64 q, .int .i64 (clampN n), .slice A len cap,
      .func (.func 15) #[] #[.pointer (some ⟨w.heap.size + 1 + 1, 0, none⟩), .pointer (some ⟨w.heap.size + 1 + 1 + 1, 0, none⟩)], partV A len x, undef, undef, undef, undef, undef, undef, undef, undef, undef, undef, undef, undef], defers := [] }) ?assign ?body ?done ?stop
  case b0 =>
    have h := ((Boxed.new (w.alloc (Obj.cells #[.int .i64 (clampN n)] 3)) 25 (.slice none 0 0)).alloc (Obj.cells #[.slice A len cap] 22)).alloc (Obj.cells #[.int .i64 8] 3)
    rw [World.size_alloc] at h
    exact h
  case assign =>
    intro l x W K hK
    gi_wp2
    exact hK
  case body =>
    rintro l pre x W ⟨⟨⟨v, hv, hrow, _⟩, hn, h4W⟩, hB⟩ hpre
    by_cases hx : 8 * x + 8 ≤ len
    · have hb8 := b8At_ok HBS.out x
      have hne : nums .u8 bs ≠ [] := by
        intro e
        have h1 := HLEN.out
        have h2 : bs = [] := by simpa [nums] using e
        rw [h2] at h1
        simp at h1
        omega
      obtain ⟨b, o, hA, hcs⟩ := hRD.out.at_ hne
      subst hA
      have hpv : partV (some ⟨b, o, none⟩) len x = .slice (some ⟨b, o + 8 * x, none⟩) 8 8 := by
        unfold partV
        rw [show partLen len x = 8 by unfold partLen; omega, Option.map_some, add_at]
      rw [hpv]
      have hby : ∀ i, i < 8 → W.cell? ⟨b, o + 8 * x + i, none⟩ = some (.int .u8 (bs.getD (8 * x + i) 0)) := by
        intro i hi
        have hlt : 8 * x + i < bs.length := by rw [HLEN.out]; omega
        have h1 := hcs (8 * x + i) (.int .u8 (bs.getD (8 * x + i) 0)) (by simp [nums, List.getElem?_eq_getElem hlt, List.getD_eq_getElem?_getD])
        rw [← Nat.add_assoc] at h1
        exact (hB.cell (p := ⟨b, o + 8 * x + i, none⟩) (World.block_lt_of_cell? w _ h1)).trans h1
      have hblt : b < W.heap.size := by
        have := World.block_lt_of_cell? W _ (hby 0 (by omega))
        exact this
      have v0 := hby 0 (by omega)
      have v1 := hby 1 (by omega)
      have v2 := hby 2 (by omega)
      have v3 := hby 3 (by omega)
      have v4 := hby 4 (by omega)
      have v5 := hby 5 (by omega)
      have v6 := hby 6 (by omega)
      have v7 := hby 7 (by omega)
      simp only [Nat.add_zero] at v0
      have hcv := hv.cell
      have hlv := hv.lt
      have hln := World.block_lt_of_cell? W _ hn
      have hstep := fun W' (h : Tabs W') => step23_any (clampN n) (b8At bs x) hb8 hcl.1 hcl.2 W' h
      obtain ⟨s, hs⟩ : ∃ s, s = stepOf (clampN n) (b8At bs x) := ⟨_, rfl⟩
      rw [← hs] at hstep
      unfold Stp.v Stp.cells B8.val b8At at hstep
      dsimp only at hstep
      have HS := Lib.hid hstep
      have HSS := Lib.hid hs
      clear hstep hs
      have HT' := Lib.hid (HT.out.below hB)
      have HV := Lib.hid hv
      have HROW := Lib.hid hrow
      have HBW := Lib.hid hB
      clear hpv hby hcs hv hrow hB hb8
      gi_wp2
      have hrc := regrown_cell W
      refine wpIn_region_line 7 (wide_round _ _) (by kernel_rfl) (by kernel_rfl) (by kernel_rfl) ?_
      apply line_fix
      case now => (intro vs w' R hG hn hR; have hR' := Lib.hid hR; clear hR hn; obtain ⟨⟨dq, osq⟩, rfl⟩ := regrown_of_below hG; clear hG; go_simp; exact hR'.out _ (Below.refl _ _))
      case hangs => exact fun _ _ _ => rfl
      case hR => exact fun _ _ => ⟨_, Below.refl _ _⟩
      (try simp only [Act.put, List.setIfInBounds_toArray, List.set_cons_zero, List.set_cons_succ])
      apply line_fix
      case now => (intro vs w' R hG hn hR; have hR' := Lib.hid hR; clear hR hn; obtain ⟨⟨dq, osq⟩, rfl⟩ := regrown_of_below hG; clear hG; go_simp; exact hR'.out _ (Below.refl _ _))
      case hangs => exact fun _ _ _ => rfl
      case hR => exact fun _ _ => ⟨_, Below.refl _ _⟩
      (try simp only [Act.put, List.setIfInBounds_toArray, List.set_cons_zero, List.set_cons_succ])
      apply line_fix
      case now => (intro vs w' R hG hn hR; have hR' := Lib.hid hR; clear hR hn; obtain ⟨⟨dq, osq⟩, rfl⟩ := regrown_of_below hG; clear hG; go_simp; exact hR'.out _ (Below.refl _ _))
      case hangs => exact fun _ _ _ => rfl
      case hR => exact fun _ _ => ⟨_, Below.refl _ _⟩
      (try simp only [Act.put, List.setIfInBounds_toArray, List.set_cons_zero, List.set_cons_succ])
      apply line_fix
      case now => (intro vs w' R hG hn hR; have hR' := Lib.hid hR; clear hR hn; obtain ⟨⟨dq, osq⟩, rfl⟩ := regrown_of_below hG; clear hG; go_simp; exact hR'.out _ (Below.refl _ _))
      case hangs => exact fun _ _ _ => rfl
      case hR => exact fun _ _ => ⟨_, Below.refl _ _⟩
      (try simp only [Act.put, List.setIfInBounds_toArray, List.set_cons_zero, List.set_cons_succ])
      apply line_fix
      case now => (intro vs w' R hG hn hR; have hR' := Lib.hid hR; clear hR hn; obtain ⟨⟨dq, osq⟩, rfl⟩ := regrown_of_below hG; clear hG; go_simp; exact hR'.out _ (Below.refl _ _))
      case hangs => exact fun _ _ _ => rfl
      case hR => exact fun _ _ => ⟨_, Below.refl _ _⟩
      (try simp only [Act.put, List.setIfInBounds_toArray, List.set_cons_zero, List.set_cons_succ])
      apply line_fix
      case now => (intro vs w' R hG hn hR; have hR' := Lib.hid hR; have hn' := Lib.hid hn; clear hR hn; replace hG : Below _ _ _ := hG; skip; go_simp; refine (HS.out _ (HT'.out.below hG)).mono ?_; rintro e w'' ⟨rfl, hb⟩; exact ⟨_, rfl, hR'.out _ hb⟩)
      case hangs => exact fun _ _ _ => rfl
      case hR => exact fun _ _ => ⟨_, Below.refl _ _⟩
      (try simp only [Act.put, List.setIfInBounds_toArray, List.set_cons_zero, List.set_cons_succ])
      apply line_var (Φ := fun _ v w => ∃ g, v = .slice (some ⟨g, 0, none⟩) 1 1 ∧ At w g [.int .i64 s.kind, .int .i64 s.r, .int .i64 s.ek, .string s.key, .int .i64 s.lab, .string s.val, .int .i64 s.at_, .int .i64 s.bit, .int .u32 s.mask, .int .i64 s.keep])
      case keep => (rintro _ v w w' ⟨g, e, h⟩ hb; exact ⟨g, e, h.next hb⟩)
      case hangs => exact fun _ _ _ => rfl
      case now => (intro vs w' R hG hn hR; have hR' := Lib.hid hR; have hn' := Lib.hid hn; clear hR hn; replace hG : Below _ _ _ := hG; refine ⟨rfl, ?_⟩; go_simp; exact hR'.out _ _ ⟨_, rfl, At.new _ _ _⟩ ((Below.refl _ _).alloc (Nat.le_refl _) _))
      (try simp only [Act.put, List.setIfInBounds_toArray, List.set_cons_zero, List.set_cons_succ])
      refine line_last (fun vs w5 hG hk => ?_)
      replace hG : Below _ _ _ := hG
      obtain ⟨⟨g, e6, ag⟩, _⟩ := hk
      dsimp only at e6
      generalize vs 6 = v66 at *
      subst e6
      have hown5 := own_below HROW.out hG
      have hn5 := (hG.cell (p := ⟨w.heap.size, 0, none⟩) hln).trans hn
      have hv5 : Boxed w5 (w.heap.size + 1) 25 v := (hG.block _ hlv).trans HV.out
      obtain ⟨i0, hi, hzz⟩ := Option.map_eq_some_iff.1 info_step
      simp only [Prod.mk.injEq] at hzz
      obtain ⟨hz0, hz1, hz2⟩ := hzz
      have hcnt := stepsIn_le (clampN n) bs pre
      have hpl : parts len ≤ 501 := by unfold parts; omega
      have hszW := HBW.out.size
      have h45 : w.heap.size + 4 ≤ w5.heap.size := by have := hG.size; omega
      refine wpListIn_append_own w5 rfl _ _ 25 rfl (w.heap.size + 4) 31 i0 _ 10 96 Tryd.underlying25 hi hz0 hz1 hz2 rfl (by decide) v (stepsIn (clampN n) bs pre).length (stepCells (stepsIn (clampN n) bs pre)) rfl hown5 ⟨g, 0, none⟩ 1 1 [.int .i64 s.kind, .int .i64 s.r, .int .i64 s.ek, .string s.key, .int .i64 s.lab, .string s.val, .int .i64 s.at_, .int .i64 s.bit, .int .u32 s.mask, .int .i64 s.keep] rfl rfl (fun j u hj => by rw [add_at, Nat.zero_add]; exact ag.cell j hj) (by simp [Value.oneCell']) (by simp only [maxLen]; omega) (by omega) h45 ?_
      intro v' w6 hown6 hg6 _
      obtain ⟨g', cap', rfl⟩ := ownsRow_succ hown6
      have hrb : ∀ k, v.ownBlock = some k → w.heap.size + 4 ≤ k := own_base hown5
      have hv6 : Boxed w6 (w.heap.size + 1) 25 v := (hg6.block _ hv5.lt (fun e => by have := hrb _ e.symm; omega)).trans hv5
      have hn6 : w6.cell? ⟨w.heap.size, 0, none⟩ = some (.int .i64 (clampN n)) := by
        have := World.cell?_of_block (w := w5) (w' := w6) (a := ⟨w.heap.size, 0, none⟩) (hg6.block _ (World.block_lt_of_cell? _ _ hn5) (fun e => by have := hrb _ e.symm; dsimp only at this; omega))
        rw [this]; exact hn5
      have hc6 := hv6.cell
      have hf6 := hv6.frozen
      gi_wp2
      have hlt1 : w.heap.size + 1 < w.heap.size + 4 := by omega
      have hfar : ∀ k, k < w.heap.size + 4 → k ≠ w.heap.size + 1 → (w6.setCell ⟨w.heap.size + 1, 0, none⟩ (.slice (some ⟨g', 0, none⟩) ((stepsIn (clampN n) bs pre).length + 1) cap')).heap[k]? = W.heap[k]? := by
        intro k hk hk1
        have e1 : w6.heap[k]? = W.heap[k]? := (hg6.block k (by omega) (fun e => by have := hrb _ e.symm; omega)).trans (hG.block k (by omega))
        rw [← e1]
        simp [World.setCell, Array.getElem?_modify, Ne.symm hk1]
      refine ⟨?_, ⟨fun k hk => hfar k (by omega) (by omega), by have h1 := hG.size; have h2 := hg6.size; simp; omega⟩, ⟨⟨_, hv6.set _, ?_, trivial⟩, ?_, by have h1 := hG.size; have h2 := hg6.size; simp; omega⟩, ?_⟩
      · refine KeepsOthers.trans ⟨hG.size, fun k ob hk _ => (hG.block k (Array.getElem?_eq_some_iff.1 hk).1).trans hk⟩ (KeepsOthers.trans (KeepsOthers.of_grownBy hg6 fun k ob ek hk => ?_) (KeepsOthers.setCell _ _ _))
        rcases hown5.2 with ⟨rfl, _⟩ | ⟨gg, cap, cur, rfl, _, hgb, _⟩
        · simp [Value.ownBlock] at ek
        · obtain rfl : gg = k := by simpa [Value.ownBlock] using ek
          rw [hgb] at hk; cases hk; rfl
      · rw [stepsIn_snoc, if_pos (by rw [HLEN.out]; exact hx), stepCells_snoc, List.length_append, ← HSS.out]
        exact ownsRow_setCell_below hown6 hlt1 _
      · rw [World.cell?_of_block (a := ⟨w.heap.size, 0, none⟩) (hfar w.heap.size (by omega) (by omega))]
        exact hn
      · refine Below.setCell ?_ (by dsimp only; omega) _
        refine HBW.out.trans ((hG.mono (by omega)).trans ?_)
        exact ⟨hg6.os, hg6.tape, hg6.output, hg6.size, fun k hk => hg6.block k (by omega) (fun e => by have := hrb _ e.symm; omega)⟩
    · have hm : ¬ partLen len x = 8 := by unfold partLen; omega
      obtain ⟨m, hmd⟩ : ∃ m, partLen len x = m := ⟨_, rfl⟩
      have hm8 : ((m : Int) == 8) = false := by rw [hmd] at hm; simp; omega
      unfold partV
      rw [hmd]
      have HV := Lib.hid hv
      have HROW := Lib.hid hrow
      clear hm hmd hv hrow
      gi_wp2
      refine ⟨KeepsOthers.refl _, KpC.refl _ _ _, ⟨⟨v, HV.out, ?_, trivial⟩, hn, h4W⟩, hB⟩
      rw [stepsIn_snoc, if_neg (by rw [HLEN.out]; exact hx), List.append_nil]
      exact HROW.out
  case done =>
    rintro D ys W hD rfl ⟨⟨⟨v, hv, hrow, _⟩, hn⟩, hB⟩ hK
    have hcv := hv.cell
    have HROW := Lib.hid hrow
    have HBB := Lib.hid hB
    clear hrow hB
    gi_wp2
    refine ⟨by simp, .inl ⟨_, _, rfl, run_takeDeferred hK, ?_⟩⟩
    exact ⟨_, results_tmp rfl _ _ _, v, rfl, own_mono (ownsRow_putObj HROW.out _ hK rfl) (by omega), HBB.out.trans (belowK_b (w := w) (Nat.le_refl _) W D _ _ (by simp at hD; omega) hK rfl rfl)⟩
  case stop =>
    rintro D c pre W _ _ h _
    exact h.elim
end Go.Proofs.YtdabndoojkdicaaDoor
