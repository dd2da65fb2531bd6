/- The reference's Has, Join and Height. Conditions: of Height: heights far from a number's end. -/
import Derived.Test.YtfbpjhhcpockfaaOfPlain
import Derived.Lib.QuietBelow
set_option linter.unusedVariables false
set_option linter.unusedSimpArgs false
namespace Go.Proofs.Ytfbpjhhcpockfaa
open Go.RowKit Go.Shelf Go.Maps
attribute [local go_sem] gives Gives

def clkL (h : Nat → Int) : List Value := [.int .i64 (h 0), .int .i64 (h 1), .int .i64 (h 2), .int .i64 (h 3), .int .i64 (h 4)]
def clkV (h : Nat → Int) : Value := .agg #[.int .i64 (h 0), .int .i64 (h 1), .int .i64 (h 2), .int .i64 (h 3), .int .i64 (h 4)]
def hasF (h : Nat → Int) (r n : Int) : Bool := hasB (h 0) (h 1) (h 2) (h 3) (h 4) r n
set_option maxHeartbeats 1000000 in
theorem refHas_any (h : Nat → Int) (r n : Int) (w : World) : Calls Try.prog 35 #[clkV h, .int .i64 r, .int .i64 n] w fun e w' => e = .returned (.bool (hasF h r n)) ∧ Below w.heap.size w w' := by
  unfold hasF clkV
  generalize h 0 = c0
  generalize h 1 = c1
  generalize h 2 = c2
  generalize h 3 = c3
  generalize h 4 = c4
  by_cases h0 : 0 ≤ r
  · by_cases h5 : r < 5
    · by_cases hn : 1 ≤ n
      · have hr : r = 0 ∨ r = 1 ∨ r = 2 ∨ r = 3 ∨ r = 4 := by omega
        have hb : hasB c0 c1 c2 c3 c4 r n = decide (n ≤ pickC c0 c1 c2 c3 c4 r) := by
          have : 0 < n := by omega
          unfold hasB; simp [h0, h5, this]
        rw [hb]
        clear hb h0 h5
        rcases hr with rfl | rfl | rfl | rfl | rfl
        all_goals
          go_enter Try.func35, Try.ntmps35
          go_wp2_with fail
          go_ret
          exact ⟨ret_bool (by simp [pickC]), (by (repeat (first | exact Below.refl _ _ | assumption | (refine Below.drew ?_) | (refine below_drewN ?_ _) | (refine Below.alloc ?_ (by first | omega | (simp; done) | (simp; omega)) _) | (refine Below.setCell ?_ (by first | omega | (simp; done) | (simp; omega)) _))))⟩
      · have hb : hasB c0 c1 c2 c3 c4 r n = false := by
          have : ¬ 0 < n := by omega
          unfold hasB; simp [this]
        rw [hb]
        clear hb
        go_enter Try.func35, Try.ntmps35
        go_wp2_with fail
        go_ret
        exact ⟨rfl, (by (repeat (first | exact Below.refl _ _ | assumption | (refine Below.drew ?_) | (refine below_drewN ?_ _) | (refine Below.alloc ?_ (by first | omega | (simp; done) | (simp; omega)) _) | (refine Below.setCell ?_ (by first | omega | (simp; done) | (simp; omega)) _))))⟩
    · have hb : hasB c0 c1 c2 c3 c4 r n = false := by unfold hasB; simp [h5]
      rw [hb]
      clear hb
      go_enter Try.func35, Try.ntmps35
      go_wp2_with fail
      go_ret
      exact ⟨rfl, (by (repeat (first | exact Below.refl _ _ | assumption | (refine Below.drew ?_) | (refine below_drewN ?_ _) | (refine Below.alloc ?_ (by first | omega | (simp; done) | (simp; omega)) _) | (refine Below.setCell ?_ (by first | omega | (simp; done) | (simp; omega)) _))))⟩
  · have hb : hasB c0 c1 c2 c3 c4 r n = false := by unfold hasB; simp [h0]
    rw [hb]
    clear hb
    go_enter Try.func35, Try.ntmps35
    go_wp2_with fail
    go_ret
    exact ⟨rfl, (by (repeat (first | exact Below.refl _ _ | assumption | (refine Below.drew ?_) | (refine below_drewN ?_ _) | (refine Below.alloc ?_ (by first | omega | (simp; done) | (simp; omega)) _) | (refine Below.setCell ?_ (by first | omega | (simp; done) | (simp; omega)) _))))⟩

/-- Join: what has been joined of k places. -/
def joinF (h g : Nat → Int) : Nat → Int := fun i => if h i < g i then g i else h i
def jn (h g : Nat → Int) (k : Nat) : Nat → Int := fun i => if i < k then (if h i < g i then g i else h i) else 0
theorem jn_all (h g : Nat → Int) : clkV (jn h g 5) = clkV (joinF h g) := by simp [clkV, jn, joinF]
set_option maxRecDepth 100000 in
set_option maxHeartbeats 4000000 in
theorem join_any (h g : Nat → Int) (w : World) : Calls Try.prog 24 #[clkV h, clkV g] w fun e w' => e = .returned (clkV (joinF h g)) ∧ Below w.heap.size w w' := by
  rw [← jn_all]
  obtain ⟨W0, hW0⟩ : ∃ W0, W0 = (((w.alloc (.cells (clkL h).toArray 33)).alloc (.cells (clkL g).toArray 33)).alloc (.cells (clkL fun _ => 0).toArray 33)).alloc (.cells (clkL fun _ => 0).toArray 33) := ⟨_, rfl⟩
  have hA0 : At W0 w.heap.size (clkL h) ∧ At W0 (w.heap.size + 1) (clkL g) ∧ At W0 (w.heap.size + 2) (clkL fun _ => 0) ∧ At W0 (w.heap.size + 3) (clkL (jn h g 0)) ∧ Below w.heap.size w W0 := by
    rw [hW0]
    refine ⟨(((At.new w _ _).alloc _).alloc _).alloc _, ?_, ?_, ?_, ((((Below.refl _ _).alloc (Nat.le_refl _) _).alloc (by simp) _).alloc (by simp; omega) _).alloc (by simp; omega) _⟩
    · have := ((At.new (w.alloc (.cells (clkL h).toArray 33)) (clkL g).toArray 33).alloc (.cells (clkL fun _ => 0).toArray 33)).alloc (.cells (clkL fun _ => 0).toArray 33)
      simpa using this
    · have := (At.new ((w.alloc (.cells (clkL h).toArray 33)).alloc (.cells (clkL g).toArray 33)) (clkL fun _ => 0).toArray 33).alloc (.cells (clkL fun _ => 0).toArray 33)
      simpa using this
    · have := At.new (((w.alloc (.cells (clkL h).toArray 33)).alloc (.cells (clkL g).toArray 33)).alloc (.cells (clkL fun _ => 0).toArray 33)) (clkL fun _ => 0).toArray 33
      have e : clkL (jn h g 0) = clkL fun _ => 0 := by simp [clkL, jn]
      rw [e]
      simpa using this
  have HA := Lib.hid hA0
  have HW := Lib.hid hW0
  clear hA0 hW0
  unfold clkV
  go_enter Try.func24, Try.ntmps24
  go_upto_region 2 with (fail)
  refine wp_world (fun W => At W w.heap.size (clkL h) ∧ At W (w.heap.size + 1) (clkL g) ∧ At W (w.heap.size + 2) (clkL fun _ => 0) ∧ At W (w.heap.size + 3) (clkL (jn h g 0)) ∧ Below w.heap.size w W) (by have := HA.out; rw [HW.out] at this; exact this) ?_
  clear HA HW W0
  rintro W1 HA
  have HA := Lib.hid HA
  go_wp2_with fail
  go_loopw [6] (fun i wr => ∃ k : Nat, k ≤ 5 ∧ i = .int .i64 k ∧ At wr w.heap.size (clkL h) ∧ At wr (w.heap.size + 1) (clkL g) ∧ At wr (w.heap.size + 2) (clkL fun _ => 0) ∧ At wr (w.heap.size + 3) (clkL (jn h g k)) ∧ Below w.heap.size w wr) (fun i _ => 5 - (intOf i).toNat)
  case atStart => exact ⟨0, by omega, rfl, HA.out⟩
  case round =>
    obtain ⟨k, hk, rfl, h0, h1, h2, h3, hb⟩ := hrel
    have l0 := h0.lt
    have l1 := h1.lt
    have l2 := h2.lt
    have l3 := h3.lt
    have HR := Lib.hid (And.intro h0 (And.intro h1 (And.intro h2 (And.intro h3 hb))))
    unfold clkL at h0 h1 h2 h3
    have a0 := h0.cell 0 rfl
    have a1 := h0.cell 1 rfl
    have a2 := h0.cell 2 rfl
    have a3 := h0.cell 3 rfl
    have a4 := h0.cell 4 rfl
    have b0 := h1.cell 0 rfl
    have b1 := h1.cell 1 rfl
    have b2 := h1.cell 2 rfl
    have b3 := h1.cell 3 rfl
    have b4 := h1.cell 4 rfl
    have f2 := fun i => h2.frozen i
    rcases (show k = 0 ∨ k = 1 ∨ k = 2 ∨ k = 3 ∨ k = 4 ∨ k = 5 by omega) with rfl | rfl | rfl | rfl | rfl | rfl
    · have hrc := regrown_cell wr
      clear h0 h1 h2 h3 hb f2
      go_upto_region 5 with (fail)
      refine wp_region_line 9 (by kernel_rfl) (by kernel_rfl) ?_
      apply line_fix
      case now => (intro vs w' R hG hn hR; have hR' := Lib.hid hR; clear hR hn; obtain ⟨⟨dq, osq⟩, rfl⟩ := regrown_of_below hG; clear hG; go_simp; exact hR'.out _ (Below.refl _ _))
      case hangs => exact fun _ _ _ => rfl
      case hR => exact fun _ _ => ⟨_, Below.refl _ _⟩
      (try simp only [Act.put, List.setIfInBounds_toArray, List.set_cons_zero, List.set_cons_succ])
      apply line_fix
      case now => (intro vs w' R hG hn hR; have hR' := Lib.hid hR; clear hR hn; obtain ⟨⟨dq, osq⟩, rfl⟩ := regrown_of_below hG; clear hG; go_simp; exact hR'.out _ (Below.refl _ _))
      case hangs => exact fun _ _ _ => rfl
      case hR => exact fun _ _ => ⟨_, Below.refl _ _⟩
      (try simp only [Act.put, List.setIfInBounds_toArray, List.set_cons_zero, List.set_cons_succ])
      apply line_fix
      case now => (intro vs w' R hG hn hR; have hR' := Lib.hid hR; clear hR hn; obtain ⟨⟨dq, osq⟩, rfl⟩ := regrown_of_below hG; clear hG; go_simp; exact hR'.out _ (Below.refl _ _))
      case hangs => exact fun _ _ _ => rfl
      case hR => exact fun _ _ => ⟨_, Below.refl _ _⟩
      (try simp only [Act.put, List.setIfInBounds_toArray, List.set_cons_zero, List.set_cons_succ])
      apply line_fix
      case now => (intro vs w' R hG hn hR; have hR' := Lib.hid hR; clear hR hn; obtain ⟨⟨dq, osq⟩, rfl⟩ := regrown_of_below hG; clear hG; go_simp; exact hR'.out _ (Below.refl _ _))
      case hangs => exact fun _ _ _ => rfl
      case hR => exact fun _ _ => ⟨_, Below.refl _ _⟩
      (try simp only [Act.put, List.setIfInBounds_toArray, List.set_cons_zero, List.set_cons_succ])
      apply line_fix
      case now => (intro vs w' R hG hn hR; have hR' := Lib.hid hR; clear hR hn; obtain ⟨⟨dq, osq⟩, rfl⟩ := regrown_of_below hG; clear hG; go_simp; exact hR'.out _ (Below.refl _ _))
      case hangs => exact fun _ _ _ => rfl
      case hR => exact fun _ _ => ⟨_, Below.refl _ _⟩
      (try simp only [Act.put, List.setIfInBounds_toArray, List.set_cons_zero, List.set_cons_succ])
      apply line_fix
      case now => (intro vs w' R hG hn hR; have hR' := Lib.hid hR; clear hR hn; obtain ⟨⟨dq, osq⟩, rfl⟩ := regrown_of_below hG; clear hG; go_simp; exact hR'.out _ (Below.refl _ _))
      case hangs => exact fun _ _ _ => rfl
      case hR => exact fun _ _ => ⟨_, Below.refl _ _⟩
      (try simp only [Act.put, List.setIfInBounds_toArray, List.set_cons_zero, List.set_cons_succ])
      apply line_fix
      case now => (intro vs w' R hG hn hR; have hR' := Lib.hid hR; clear hR hn; obtain ⟨⟨dq, osq⟩, rfl⟩ := regrown_of_below hG; clear hG; go_simp; exact hR'.out _ (Below.refl _ _))
      case hangs => exact fun _ _ _ => rfl
      case hR => exact fun _ _ => ⟨_, Below.refl _ _⟩
      (try simp only [Act.put, List.setIfInBounds_toArray, List.set_cons_zero, List.set_cons_succ])
      apply line_fix
      case now => (intro vs w' R hG hn hR; have hR' := Lib.hid hR; clear hR hn; obtain ⟨⟨dq, osq⟩, rfl⟩ := regrown_of_below hG; clear hG; go_simp; exact hR'.out _ (Below.refl _ _))
      case hangs => exact fun _ _ _ => rfl
      case hR => exact fun _ _ => ⟨_, Below.refl _ _⟩
      (try simp only [Act.put, List.setIfInBounds_toArray, List.set_cons_zero, List.set_cons_succ])
      apply line_fix
      case now => (intro vs w' R hG hn hR; have hR' := Lib.hid hR; clear hR hn; obtain ⟨⟨dq, osq⟩, rfl⟩ := regrown_of_below hG; clear hG; go_simp; exact hR'.out _ (Below.refl _ _))
      case hangs => exact fun _ _ _ => rfl
      case hR => exact fun _ _ => ⟨_, Below.refl _ _⟩
      (try simp only [Act.put, List.setIfInBounds_toArray, List.set_cons_zero, List.set_cons_succ])
      refine line_last (fun vs W9 hG9 _ => ?_)
      replace hG9 : Below _ _ _ := hG9
      have h3 := HR.out.2.2.2.1.next hG9
      have HG := Lib.hid hG9
      unfold clkL at h3
      have cz := h3.cell 0 rfl
      have fz := h3.frozen 0
      clear h3 hG9 hrc
      go_wp2_with fail
      go_roundw
      case measure => simp [intOf]
      case rel =>
        obtain ⟨h0, h1, h2, h3, hb⟩ := HR.out
        refine ⟨0 + 1, by omega, by go_num, (h0.next HG.out).other _ (by omega), (h1.next HG.out).other _ (by omega), (h2.next HG.out).other _ (by omega), ?_, (below_next hb HG.out).setCell (show w.heap.size ≤ _ by dsimp only; omega) _⟩
        have h4 := (h3.next HG.out).set 0 (.int .i64 (if h 0 < g 0 then g 0 else h 0))
        have e : (clkL (jn h g 0)).set 0 (.int .i64 (if h 0 < g 0 then g 0 else h 0)) = clkL (jn h g (0 + 1)) := by simp [clkL, jn]
        rw [e] at h4
        exact h4
    · have hrc := regrown_cell wr
      clear h0 h1 h2 h3 hb f2
      go_upto_region 5 with (fail)
      refine wp_region_line 9 (by kernel_rfl) (by kernel_rfl) ?_
      apply line_fix
      case now => (intro vs w' R hG hn hR; have hR' := Lib.hid hR; clear hR hn; obtain ⟨⟨dq, osq⟩, rfl⟩ := regrown_of_below hG; clear hG; go_simp; exact hR'.out _ (Below.refl _ _))
      case hangs => exact fun _ _ _ => rfl
      case hR => exact fun _ _ => ⟨_, Below.refl _ _⟩
      (try simp only [Act.put, List.setIfInBounds_toArray, List.set_cons_zero, List.set_cons_succ])
      apply line_fix
      case now => (intro vs w' R hG hn hR; have hR' := Lib.hid hR; clear hR hn; obtain ⟨⟨dq, osq⟩, rfl⟩ := regrown_of_below hG; clear hG; go_simp; exact hR'.out _ (Below.refl _ _))
      case hangs => exact fun _ _ _ => rfl
      case hR => exact fun _ _ => ⟨_, Below.refl _ _⟩
      (try simp only [Act.put, List.setIfInBounds_toArray, List.set_cons_zero, List.set_cons_succ])
      apply line_fix
      case now => (intro vs w' R hG hn hR; have hR' := Lib.hid hR; clear hR hn; obtain ⟨⟨dq, osq⟩, rfl⟩ := regrown_of_below hG; clear hG; go_simp; exact hR'.out _ (Below.refl _ _))
      case hangs => exact fun _ _ _ => rfl
      case hR => exact fun _ _ => ⟨_, Below.refl _ _⟩
      (try simp only [Act.put, List.setIfInBounds_toArray, List.set_cons_zero, List.set_cons_succ])
      apply line_fix
      case now => (intro vs w' R hG hn hR; have hR' := Lib.hid hR; clear hR hn; obtain ⟨⟨dq, osq⟩, rfl⟩ := regrown_of_below hG; clear hG; go_simp; exact hR'.out _ (Below.refl _ _))
      case hangs => exact fun _ _ _ => rfl
      case hR => exact fun _ _ => ⟨_, Below.refl _ _⟩
      (try simp only [Act.put, List.setIfInBounds_toArray, List.set_cons_zero, List.set_cons_succ])
      apply line_fix
      case now => (intro vs w' R hG hn hR; have hR' := Lib.hid hR; clear hR hn; obtain ⟨⟨dq, osq⟩, rfl⟩ := regrown_of_below hG; clear hG; go_simp; exact hR'.out _ (Below.refl _ _))
      case hangs => exact fun _ _ _ => rfl
      case hR => exact fun _ _ => ⟨_, Below.refl _ _⟩
      (try simp only [Act.put, List.setIfInBounds_toArray, List.set_cons_zero, List.set_cons_succ])
      apply line_fix
      case now => (intro vs w' R hG hn hR; have hR' := Lib.hid hR; clear hR hn; obtain ⟨⟨dq, osq⟩, rfl⟩ := regrown_of_below hG; clear hG; go_simp; exact hR'.out _ (Below.refl _ _))
      case hangs => exact fun _ _ _ => rfl
      case hR => exact fun _ _ => ⟨_, Below.refl _ _⟩
      (try simp only [Act.put, List.setIfInBounds_toArray, List.set_cons_zero, List.set_cons_succ])
      apply line_fix
      case now => (intro vs w' R hG hn hR; have hR' := Lib.hid hR; clear hR hn; obtain ⟨⟨dq, osq⟩, rfl⟩ := regrown_of_below hG; clear hG; go_simp; exact hR'.out _ (Below.refl _ _))
      case hangs => exact fun _ _ _ => rfl
      case hR => exact fun _ _ => ⟨_, Below.refl _ _⟩
      (try simp only [Act.put, List.setIfInBounds_toArray, List.set_cons_zero, List.set_cons_succ])
      apply line_fix
      case now => (intro vs w' R hG hn hR; have hR' := Lib.hid hR; clear hR hn; obtain ⟨⟨dq, osq⟩, rfl⟩ := regrown_of_below hG; clear hG; go_simp; exact hR'.out _ (Below.refl _ _))
      case hangs => exact fun _ _ _ => rfl
      case hR => exact fun _ _ => ⟨_, Below.refl _ _⟩
      (try simp only [Act.put, List.setIfInBounds_toArray, List.set_cons_zero, List.set_cons_succ])
      apply line_fix
      case now => (intro vs w' R hG hn hR; have hR' := Lib.hid hR; clear hR hn; obtain ⟨⟨dq, osq⟩, rfl⟩ := regrown_of_below hG; clear hG; go_simp; exact hR'.out _ (Below.refl _ _))
      case hangs => exact fun _ _ _ => rfl
      case hR => exact fun _ _ => ⟨_, Below.refl _ _⟩
      (try simp only [Act.put, List.setIfInBounds_toArray, List.set_cons_zero, List.set_cons_succ])
      refine line_last (fun vs W9 hG9 _ => ?_)
      replace hG9 : Below _ _ _ := hG9
      have h3 := HR.out.2.2.2.1.next hG9
      have HG := Lib.hid hG9
      unfold clkL at h3
      have cz := h3.cell 1 rfl
      have fz := h3.frozen 1
      clear h3 hG9 hrc
      go_wp2_with fail
      go_roundw
      case measure => simp [intOf]
      case rel =>
        obtain ⟨h0, h1, h2, h3, hb⟩ := HR.out
        refine ⟨1 + 1, by omega, by go_num, (h0.next HG.out).other _ (by omega), (h1.next HG.out).other _ (by omega), (h2.next HG.out).other _ (by omega), ?_, (below_next hb HG.out).setCell (show w.heap.size ≤ _ by dsimp only; omega) _⟩
        have h4 := (h3.next HG.out).set 1 (.int .i64 (if h 1 < g 1 then g 1 else h 1))
        have e : (clkL (jn h g 1)).set 1 (.int .i64 (if h 1 < g 1 then g 1 else h 1)) = clkL (jn h g (1 + 1)) := by simp [clkL, jn]
        rw [e] at h4
        exact h4
    · have hrc := regrown_cell wr
      clear h0 h1 h2 h3 hb f2
      go_upto_region 5 with (fail)
      refine wp_region_line 9 (by kernel_rfl) (by kernel_rfl) ?_
      apply line_fix
      case now => (intro vs w' R hG hn hR; have hR' := Lib.hid hR; clear hR hn; obtain ⟨⟨dq, osq⟩, rfl⟩ := regrown_of_below hG; clear hG; go_simp; exact hR'.out _ (Below.refl _ _))
      case hangs => exact fun _ _ _ => rfl
      case hR => exact fun _ _ => ⟨_, Below.refl _ _⟩
      (try simp only [Act.put, List.setIfInBounds_toArray, List.set_cons_zero, List.set_cons_succ])
      apply line_fix
      case now => (intro vs w' R hG hn hR; have hR' := Lib.hid hR; clear hR hn; obtain ⟨⟨dq, osq⟩, rfl⟩ := regrown_of_below hG; clear hG; go_simp; exact hR'.out _ (Below.refl _ _))
      case hangs => exact fun _ _ _ => rfl
      case hR => exact fun _ _ => ⟨_, Below.refl _ _⟩
      (try simp only [Act.put, List.setIfInBounds_toArray, List.set_cons_zero, List.set_cons_succ])
      apply line_fix
      case now => (intro vs w' R hG hn hR; have hR' := Lib.hid hR; clear hR hn; obtain ⟨⟨dq, osq⟩, rfl⟩ := regrown_of_below hG; clear hG; go_simp; exact hR'.out _ (Below.refl _ _))
      case hangs => exact fun _ _ _ => rfl
      case hR => exact fun _ _ => ⟨_, Below.refl _ _⟩
      (try simp only [Act.put, List.setIfInBounds_toArray, List.set_cons_zero, List.set_cons_succ])
      apply line_fix
      case now => (intro vs w' R hG hn hR; have hR' := Lib.hid hR; clear hR hn; obtain ⟨⟨dq, osq⟩, rfl⟩ := regrown_of_below hG; clear hG; go_simp; exact hR'.out _ (Below.refl _ _))
      case hangs => exact fun _ _ _ => rfl
      case hR => exact fun _ _ => ⟨_, Below.refl _ _⟩
      (try simp only [Act.put, List.setIfInBounds_toArray, List.set_cons_zero, List.set_cons_succ])
      apply line_fix
      case now => (intro vs w' R hG hn hR; have hR' := Lib.hid hR; clear hR hn; obtain ⟨⟨dq, osq⟩, rfl⟩ := regrown_of_below hG; clear hG; go_simp; exact hR'.out _ (Below.refl _ _))
      case hangs => exact fun _ _ _ => rfl
      case hR => exact fun _ _ => ⟨_, Below.refl _ _⟩
      (try simp only [Act.put, List.setIfInBounds_toArray, List.set_cons_zero, List.set_cons_succ])
      apply line_fix
      case now => (intro vs w' R hG hn hR; have hR' := Lib.hid hR; clear hR hn; obtain ⟨⟨dq, osq⟩, rfl⟩ := regrown_of_below hG; clear hG; go_simp; exact hR'.out _ (Below.refl _ _))
      case hangs => exact fun _ _ _ => rfl
      case hR => exact fun _ _ => ⟨_, Below.refl _ _⟩
      (try simp only [Act.put, List.setIfInBounds_toArray, List.set_cons_zero, List.set_cons_succ])
      apply line_fix
      case now => (intro vs w' R hG hn hR; have hR' := Lib.hid hR; clear hR hn; obtain ⟨⟨dq, osq⟩, rfl⟩ := regrown_of_below hG; clear hG; go_simp; exact hR'.out _ (Below.refl _ _))
      case hangs => exact fun _ _ _ => rfl
      case hR => exact fun _ _ => ⟨_, Below.refl _ _⟩
      (try simp only [Act.put, List.setIfInBounds_toArray, List.set_cons_zero, List.set_cons_succ])
      apply line_fix
      case now => (intro vs w' R hG hn hR; have hR' := Lib.hid hR; clear hR hn; obtain ⟨⟨dq, osq⟩, rfl⟩ := regrown_of_below hG; clear hG; go_simp; exact hR'.out _ (Below.refl _ _))
      case hangs => exact fun _ _ _ => rfl
      case hR => exact fun _ _ => ⟨_, Below.refl _ _⟩
      (try simp only [Act.put, List.setIfInBounds_toArray, List.set_cons_zero, List.set_cons_succ])
      apply line_fix
      case now => (intro vs w' R hG hn hR; have hR' := Lib.hid hR; clear hR hn; obtain ⟨⟨dq, osq⟩, rfl⟩ := regrown_of_below hG; clear hG; go_simp; exact hR'.out _ (Below.refl _ _))
      case hangs => exact fun _ _ _ => rfl
      case hR => exact fun _ _ => ⟨_, Below.refl _ _⟩
      (try simp only [Act.put, List.setIfInBounds_toArray, List.set_cons_zero, List.set_cons_succ])
      refine line_last (fun vs W9 hG9 _ => ?_)
      replace hG9 : Below _ _ _ := hG9
      have h3 := HR.out.2.2.2.1.next hG9
      have HG := Lib.hid hG9
      unfold clkL at h3
      have cz := h3.cell 2 rfl
      have fz := h3.frozen 2
      clear h3 hG9 hrc
      go_wp2_with fail
      go_roundw
      case measure => simp [intOf]
      case rel =>
        obtain ⟨h0, h1, h2, h3, hb⟩ := HR.out
        refine ⟨2 + 1, by omega, by go_num, (h0.next HG.out).other _ (by omega), (h1.next HG.out).other _ (by omega), (h2.next HG.out).other _ (by omega), ?_, (below_next hb HG.out).setCell (show w.heap.size ≤ _ by dsimp only; omega) _⟩
        have h4 := (h3.next HG.out).set 2 (.int .i64 (if h 2 < g 2 then g 2 else h 2))
        have e : (clkL (jn h g 2)).set 2 (.int .i64 (if h 2 < g 2 then g 2 else h 2)) = clkL (jn h g (2 + 1)) := by simp [clkL, jn]
        rw [e] at h4
        exact h4
    · have hrc := regrown_cell wr
      clear h0 h1 h2 h3 hb f2
      go_upto_region 5 with (fail)
      refine wp_region_line 9 (by kernel_rfl) (by kernel_rfl) ?_
      apply line_fix
      case now => (intro vs w' R hG hn hR; have hR' := Lib.hid hR; clear hR hn; obtain ⟨⟨dq, osq⟩, rfl⟩ := regrown_of_below hG; clear hG; go_simp; exact hR'.out _ (Below.refl _ _))
      case hangs => exact fun _ _ _ => rfl
      case hR => exact fun _ _ => ⟨_, Below.refl _ _⟩
      (try simp only [Act.put, List.setIfInBounds_toArray, List.set_cons_zero, List.set_cons_succ])
      apply line_fix
      case now => (intro vs w' R hG hn hR; have hR' := Lib.hid hR; clear hR hn; obtain ⟨⟨dq, osq⟩, rfl⟩ := regrown_of_below hG; clear hG; go_simp; exact hR'.out _ (Below.refl _ _))
      case hangs => exact fun _ _ _ => rfl
      case hR => exact fun _ _ => ⟨_, Below.refl _ _⟩
      (try simp only [Act.put, List.setIfInBounds_toArray, List.set_cons_zero, List.set_cons_succ])
      apply line_fix
      case now => (intro vs w' R hG hn hR; have hR' := Lib.hid hR; clear hR hn; obtain ⟨⟨dq, osq⟩, rfl⟩ := regrown_of_below hG; clear hG; go_simp; exact hR'.out _ (Below.refl _ _))
      case hangs => exact fun _ _ _ => rfl
      case hR => exact fun _ _ => ⟨_, Below.refl _ _⟩
      (try simp only [Act.put, List.setIfInBounds_toArray, List.set_cons_zero, List.set_cons_succ])
      apply line_fix
      case now => (intro vs w' R hG hn hR; have hR' := Lib.hid hR; clear hR hn; obtain ⟨⟨dq, osq⟩, rfl⟩ := regrown_of_below hG; clear hG; go_simp; exact hR'.out _ (Below.refl _ _))
      case hangs => exact fun _ _ _ => rfl
      case hR => exact fun _ _ => ⟨_, Below.refl _ _⟩
      (try simp only [Act.put, List.setIfInBounds_toArray, List.set_cons_zero, List.set_cons_succ])
      apply line_fix
      case now => (intro vs w' R hG hn hR; have hR' := Lib.hid hR; clear hR hn; obtain ⟨⟨dq, osq⟩, rfl⟩ := regrown_of_below hG; clear hG; go_simp; exact hR'.out _ (Below.refl _ _))
      case hangs => exact fun _ _ _ => rfl
      case hR => exact fun _ _ => ⟨_, Below.refl _ _⟩
      (try simp only [Act.put, List.setIfInBounds_toArray, List.set_cons_zero, List.set_cons_succ])
      apply line_fix
      case now => (intro vs w' R hG hn hR; have hR' := Lib.hid hR; clear hR hn; obtain ⟨⟨dq, osq⟩, rfl⟩ := regrown_of_below hG; clear hG; go_simp; exact hR'.out _ (Below.refl _ _))
      case hangs => exact fun _ _ _ => rfl
      case hR => exact fun _ _ => ⟨_, Below.refl _ _⟩
      (try simp only [Act.put, List.setIfInBounds_toArray, List.set_cons_zero, List.set_cons_succ])
      apply line_fix
      case now => (intro vs w' R hG hn hR; have hR' := Lib.hid hR; clear hR hn; obtain ⟨⟨dq, osq⟩, rfl⟩ := regrown_of_below hG; clear hG; go_simp; exact hR'.out _ (Below.refl _ _))
      case hangs => exact fun _ _ _ => rfl
      case hR => exact fun _ _ => ⟨_, Below.refl _ _⟩
      (try simp only [Act.put, List.setIfInBounds_toArray, List.set_cons_zero, List.set_cons_succ])
      apply line_fix
      case now => (intro vs w' R hG hn hR; have hR' := Lib.hid hR; clear hR hn; obtain ⟨⟨dq, osq⟩, rfl⟩ := regrown_of_below hG; clear hG; go_simp; exact hR'.out _ (Below.refl _ _))
      case hangs => exact fun _ _ _ => rfl
      case hR => exact fun _ _ => ⟨_, Below.refl _ _⟩
      (try simp only [Act.put, List.setIfInBounds_toArray, List.set_cons_zero, List.set_cons_succ])
      apply line_fix
      case now => (intro vs w' R hG hn hR; have hR' := Lib.hid hR; clear hR hn; obtain ⟨⟨dq, osq⟩, rfl⟩ := regrown_of_below hG; clear hG; go_simp; exact hR'.out _ (Below.refl _ _))
      case hangs => exact fun _ _ _ => rfl
      case hR => exact fun _ _ => ⟨_, Below.refl _ _⟩
      (try simp only [Act.put, List.setIfInBounds_toArray, List.set_cons_zero, List.set_cons_succ])
      refine line_last (fun vs W9 hG9 _ => ?_)
      replace hG9 : Below _ _ _ := hG9
      have h3 := HR.out.2.2.2.1.next hG9
      have HG := Lib.hid hG9
      unfold clkL at h3
      have cz := h3.cell 3 rfl
      have fz := h3.frozen 3
      clear h3 hG9 hrc
      go_wp2_with fail
      go_roundw
      case measure => simp [intOf]
      case rel =>
        obtain ⟨h0, h1, h2, h3, hb⟩ := HR.out
        refine ⟨3 + 1, by omega, by go_num, (h0.next HG.out).other _ (by omega), (h1.next HG.out).other _ (by omega), (h2.next HG.out).other _ (by omega), ?_, (below_next hb HG.out).setCell (show w.heap.size ≤ _ by dsimp only; omega) _⟩
        have h4 := (h3.next HG.out).set 3 (.int .i64 (if h 3 < g 3 then g 3 else h 3))
        have e : (clkL (jn h g 3)).set 3 (.int .i64 (if h 3 < g 3 then g 3 else h 3)) = clkL (jn h g (3 + 1)) := by simp [clkL, jn]
        rw [e] at h4
        exact h4
    · have hrc := regrown_cell wr
      clear h0 h1 h2 h3 hb f2
      go_upto_region 5 with (fail)
      refine wp_region_line 9 (by kernel_rfl) (by kernel_rfl) ?_
      apply line_fix
      case now => (intro vs w' R hG hn hR; have hR' := Lib.hid hR; clear hR hn; obtain ⟨⟨dq, osq⟩, rfl⟩ := regrown_of_below hG; clear hG; go_simp; exact hR'.out _ (Below.refl _ _))
      case hangs => exact fun _ _ _ => rfl
      case hR => exact fun _ _ => ⟨_, Below.refl _ _⟩
      (try simp only [Act.put, List.setIfInBounds_toArray, List.set_cons_zero, List.set_cons_succ])
      apply line_fix
      case now => (intro vs w' R hG hn hR; have hR' := Lib.hid hR; clear hR hn; obtain ⟨⟨dq, osq⟩, rfl⟩ := regrown_of_below hG; clear hG; go_simp; exact hR'.out _ (Below.refl _ _))
      case hangs => exact fun _ _ _ => rfl
      case hR => exact fun _ _ => ⟨_, Below.refl _ _⟩
      (try simp only [Act.put, List.setIfInBounds_toArray, List.set_cons_zero, List.set_cons_succ])
      apply line_fix
      case now => (intro vs w' R hG hn hR; have hR' := Lib.hid hR; clear hR hn; obtain ⟨⟨dq, osq⟩, rfl⟩ := regrown_of_below hG; clear hG; go_simp; exact hR'.out _ (Below.refl _ _))
      case hangs => exact fun _ _ _ => rfl
      case hR => exact fun _ _ => ⟨_, Below.refl _ _⟩
      (try simp only [Act.put, List.setIfInBounds_toArray, List.set_cons_zero, List.set_cons_succ])
      apply line_fix
      case now => (intro vs w' R hG hn hR; have hR' := Lib.hid hR; clear hR hn; obtain ⟨⟨dq, osq⟩, rfl⟩ := regrown_of_below hG; clear hG; go_simp; exact hR'.out _ (Below.refl _ _))
      case hangs => exact fun _ _ _ => rfl
      case hR => exact fun _ _ => ⟨_, Below.refl _ _⟩
      (try simp only [Act.put, List.setIfInBounds_toArray, List.set_cons_zero, List.set_cons_succ])
      apply line_fix
      case now => (intro vs w' R hG hn hR; have hR' := Lib.hid hR; clear hR hn; obtain ⟨⟨dq, osq⟩, rfl⟩ := regrown_of_below hG; clear hG; go_simp; exact hR'.out _ (Below.refl _ _))
      case hangs => exact fun _ _ _ => rfl
      case hR => exact fun _ _ => ⟨_, Below.refl _ _⟩
      (try simp only [Act.put, List.setIfInBounds_toArray, List.set_cons_zero, List.set_cons_succ])
      apply line_fix
      case now => (intro vs w' R hG hn hR; have hR' := Lib.hid hR; clear hR hn; obtain ⟨⟨dq, osq⟩, rfl⟩ := regrown_of_below hG; clear hG; go_simp; exact hR'.out _ (Below.refl _ _))
      case hangs => exact fun _ _ _ => rfl
      case hR => exact fun _ _ => ⟨_, Below.refl _ _⟩
      (try simp only [Act.put, List.setIfInBounds_toArray, List.set_cons_zero, List.set_cons_succ])
      apply line_fix
      case now => (intro vs w' R hG hn hR; have hR' := Lib.hid hR; clear hR hn; obtain ⟨⟨dq, osq⟩, rfl⟩ := regrown_of_below hG; clear hG; go_simp; exact hR'.out _ (Below.refl _ _))
      case hangs => exact fun _ _ _ => rfl
      case hR => exact fun _ _ => ⟨_, Below.refl _ _⟩
      (try simp only [Act.put, List.setIfInBounds_toArray, List.set_cons_zero, List.set_cons_succ])
      apply line_fix
      case now => (intro vs w' R hG hn hR; have hR' := Lib.hid hR; clear hR hn; obtain ⟨⟨dq, osq⟩, rfl⟩ := regrown_of_below hG; clear hG; go_simp; exact hR'.out _ (Below.refl _ _))
      case hangs => exact fun _ _ _ => rfl
      case hR => exact fun _ _ => ⟨_, Below.refl _ _⟩
      (try simp only [Act.put, List.setIfInBounds_toArray, List.set_cons_zero, List.set_cons_succ])
      apply line_fix
      case now => (intro vs w' R hG hn hR; have hR' := Lib.hid hR; clear hR hn; obtain ⟨⟨dq, osq⟩, rfl⟩ := regrown_of_below hG; clear hG; go_simp; exact hR'.out _ (Below.refl _ _))
      case hangs => exact fun _ _ _ => rfl
      case hR => exact fun _ _ => ⟨_, Below.refl _ _⟩
      (try simp only [Act.put, List.setIfInBounds_toArray, List.set_cons_zero, List.set_cons_succ])
      refine line_last (fun vs W9 hG9 _ => ?_)
      replace hG9 : Below _ _ _ := hG9
      have h3 := HR.out.2.2.2.1.next hG9
      have HG := Lib.hid hG9
      unfold clkL at h3
      have cz := h3.cell 4 rfl
      have fz := h3.frozen 4
      clear h3 hG9 hrc
      go_wp2_with fail
      go_roundw
      case measure => simp [intOf]
      case rel =>
        obtain ⟨h0, h1, h2, h3, hb⟩ := HR.out
        refine ⟨4 + 1, by omega, by go_num, (h0.next HG.out).other _ (by omega), (h1.next HG.out).other _ (by omega), (h2.next HG.out).other _ (by omega), ?_, (below_next hb HG.out).setCell (show w.heap.size ≤ _ by dsimp only; omega) _⟩
        have h4 := (h3.next HG.out).set 4 (.int .i64 (if h 4 < g 4 then g 4 else h 4))
        have e : (clkL (jn h g 4)).set 4 (.int .i64 (if h 4 < g 4 then g 4 else h 4)) = clkL (jn h g (4 + 1)) := by simp [clkL, jn]
        rw [e] at h4
        exact h4
    · have hz : (5 : Nat) = 5 := rfl
      have c0 := h2.cell 0 rfl
      have c1 := h2.cell 1 rfl
      have c2 := h2.cell 2 rfl
      have c3 := h2.cell 3 rfl
      have c4 := h2.cell 4 rfl
      have d0 := h3.cell 0 rfl
      have d1 := h3.cell 1 rfl
      have d2 := h3.cell 2 rfl
      have d3 := h3.cell 3 rfl
      have d4 := h3.cell 4 rfl
      have g0 := h2.frozen 0
      have g1 := h2.frozen 1
      have g2 := h2.frozen 2
      have g3 := h2.frozen 3
      have g4 := h2.frozen 4
      clear h0 h1 h2 h3 hb f2
      go_wp2_with fail
      refine bodyPost_ret (v := clkV (jn h g 5)) (by simp [results, Try.results24, go_sem, clkV, *]) rfl ⟨rfl, ?_⟩
      have hb := HR.out.2.2.2.2
      exact (by (repeat (first | exact Below.refl _ _ | assumption | (refine Below.drew ?_) | (refine below_drewN ?_ _) | (refine Below.alloc ?_ (by first | omega | (simp; done) | (simp; omega)) _) | (refine Below.setCell ?_ (by first | omega | (simp; done) | (simp; omega)) _))))
end Go.Proofs.Ytfbpjhhcpockfaa
