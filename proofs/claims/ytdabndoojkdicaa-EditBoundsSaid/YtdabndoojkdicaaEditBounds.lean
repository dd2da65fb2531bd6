/- The law EditBounds returns true at each config and byte, and turns nothing that was there. Condition: a config's numbers are ints, the byte is one. -/
import Derived.Test.YtdabndoojkdicaaConfig
set_option linter.unusedVariables false
set_option linter.unusedSimpArgs false
namespace Go.Proofs.Ytdabndoojkdicaa
open Go.RowKit

theorem may6_any (f0 f1 f2 f3 f4 f5 : Int) (w : World) : Calls Try.prog 24 #[.agg #[.int .i64 f0, .int .i64 f1, .int .i64 f2, .int .i64 f3, .int .i64 f4, .int .i64 f5]] w fun e w' => e = .returned (.bool (Cfg.may ⟨f0, f1, f2, f3, f4, f5⟩)) ∧ Below w.heap.size w w' := may_any ⟨f0, f1, f2, f3, f4, f5⟩ w
theorem fit_may (c : Cfg) : c.fit.may = true := by
  unfold Cfg.fit Cfg.may
  rw [decide_eq_true_iff]
  dsimp only
  omega

set_option maxHeartbeats 8000000 in
theorem editBounds_walk (c : Cfg) (b : Int) (hc : c.ok) (b0 : 0 ≤ b) (b1 : b ≤ 255) (w : World) : Calls Try.prog 8 #[c.val, .int .u8 b] w fun e w' => e = .returned (.bool true) ∧ Below w.heap.size w w' := by
  have HF := Lib.hid (fun w => fit11_any c w hc)
  have hm := fit_may c
  generalize c.fit = F at *
  obtain ⟨N, W, Q, H, L, P⟩ := c
  obtain ⟨f0, f1, f2, f3, f4, f5⟩ := F
  unfold Cfg.val at *
  dsimp only at HF ⊢
  have hb : b % 6 = 0 ∨ b % 6 = 1 ∨ b % 6 = 2 ∨ b % 6 = 3 ∨ b % 6 = 4 ∨ b % 6 = 5 := by omega
  have hm' := hm
  unfold Cfg.may at hm'
  rw [decide_eq_true_iff] at hm'
  dsimp only at hm'
  have HM' := Lib.hid hm'
  clear hm' hc
  rcases hb with hb | hb | hb | hb | hb | hb
  · have m1 : Cfg.may ⟨1, f1, f2, f3, f4, f5⟩ = true := by have := HM'.out; unfold Cfg.may; rw [decide_eq_true_iff]; dsimp only; omega
    have m2 : Cfg.may ⟨5, f1, f2, f3, f4, f5⟩ = true := by have := HM'.out; unfold Cfg.may; rw [decide_eq_true_iff]; dsimp only; omega
    have m3 : Cfg.may ⟨0, f1, f2, f3, f4, f5⟩ = false := by unfold Cfg.may; rw [decide_eq_false_iff_not]; dsimp only; omega
    have m4 : Cfg.may ⟨6, f1, f2, f3, f4, f5⟩ = false := by unfold Cfg.may; rw [decide_eq_false_iff_not]; dsimp only; omega
    have HS : Hid (∀ (v : Int) (w : World), Calls Try.prog 25 #[.agg #[.int .i64 f0, .int .i64 f1, .int .i64 f2, .int .i64 f3, .int .i64 f4, .int .i64 f5], .int .i64 0, .int .i64 v] w fun e w' => e = .returned (.agg #[.int .i64 v, .int .i64 f1, .int .i64 f2, .int .i64 f3, .int .i64 f4, .int .i64 f5]) ∧ Below w.heap.size w w') := fun v w => set_any ⟨f0, f1, f2, f3, f4, f5⟩ 0 v (by decide) w
    go_enter Try.func8, Try.ntmps8
    go_wp2_with fail
    refine (shown11_any _).mono ?_
    rintro e w1 ⟨rfl, hb1⟩
    obtain ⟨hb1c, hb1f⟩ := bcell hb1
    have hb1n := below_next (w := w) (by (repeat (first | exact Below.refl _ _ | assumption | (refine Below.drew ?_) | (refine below_drewN ?_ _) | (refine Below.alloc ?_ (by first | omega | (simp; done) | (simp; omega)) _) | (refine Below.setCell ?_ (by first | omega | (simp; done) | (simp; omega)) _)))) hb1
    have hb1z : w.heap.size < w1.heap.size := by have := hb1.size; first | omega | (simp at this; omega)
    go_wp2_with fail
    refine (HF.out _).mono ?_
    rintro e w2 ⟨rfl, hb2⟩
    obtain ⟨hb2c, hb2f⟩ := bcell hb2
    have hb2n := below_next (w := w) (by (repeat (first | exact Below.refl _ _ | assumption | (refine Below.drew ?_) | (refine below_drewN ?_ _) | (refine Below.alloc ?_ (by first | omega | (simp; done) | (simp; omega)) _) | (refine Below.setCell ?_ (by first | omega | (simp; done) | (simp; omega)) _)))) hb2
    have hb2z : w.heap.size < w2.heap.size := by have := hb2.size; first | omega | (simp at this; omega)
    have hrc := fun w2 => regrown_cell w2
    go_wp2_with fail
    refine wp_region_quiet_below (by kernel_rfl) (by kernel_rfl) ?_
    repeat (any_goals (first | go_big_quiet_step (first | (go_at_call 24; exact Calls.regrown_of (may6_any _ _ _ _ _ _ _)) | (go_at_call 25; exact Calls.regrown_of (HS.out _ _))) | quiet_step (first | (go_at_call 24; exact Calls.regrown_of (may6_any _ _ _ _ _ _ _)) | (go_at_call 25; exact Calls.regrown_of (HS.out _ _)))))
    refine wpQuiet_nil ?_
    intro _ hw'
    obtain ⟨⟨dq, osq⟩, hw''⟩ := hw'
    subst hw''
    go_wp2_with fail
    go_ret
    exact ⟨rfl, (below_next (w := w) (by (repeat (first | exact Below.refl _ _ | assumption | (refine Below.drew ?_) | (refine below_drewN ?_ _) | (refine Below.alloc ?_ (by first | omega | (simp; done) | (simp; omega)) _) | (refine Below.setCell ?_ (by first | omega | (simp; done) | (simp; omega)) _)))) (below_regrown _ dq osq))⟩
  · have m1 : Cfg.may ⟨f0, 1, f2, f3, f4, f5⟩ = true := by have := HM'.out; unfold Cfg.may; rw [decide_eq_true_iff]; dsimp only; omega
    have m2 : Cfg.may ⟨f0, 4, f2, f3, f4, f5⟩ = true := by have := HM'.out; unfold Cfg.may; rw [decide_eq_true_iff]; dsimp only; omega
    have m3 : Cfg.may ⟨f0, 0, f2, f3, f4, f5⟩ = false := by unfold Cfg.may; rw [decide_eq_false_iff_not]; dsimp only; omega
    have m4 : Cfg.may ⟨f0, 5, f2, f3, f4, f5⟩ = false := by unfold Cfg.may; rw [decide_eq_false_iff_not]; dsimp only; omega
    have HS : Hid (∀ (v : Int) (w : World), Calls Try.prog 25 #[.agg #[.int .i64 f0, .int .i64 f1, .int .i64 f2, .int .i64 f3, .int .i64 f4, .int .i64 f5], .int .i64 1, .int .i64 v] w fun e w' => e = .returned (.agg #[.int .i64 f0, .int .i64 v, .int .i64 f2, .int .i64 f3, .int .i64 f4, .int .i64 f5]) ∧ Below w.heap.size w w') := fun v w => set_any ⟨f0, f1, f2, f3, f4, f5⟩ 1 v (by decide) w
    go_enter Try.func8, Try.ntmps8
    go_wp2_with fail
    refine (shown11_any _).mono ?_
    rintro e w1 ⟨rfl, hb1⟩
    obtain ⟨hb1c, hb1f⟩ := bcell hb1
    have hb1n := below_next (w := w) (by (repeat (first | exact Below.refl _ _ | assumption | (refine Below.drew ?_) | (refine below_drewN ?_ _) | (refine Below.alloc ?_ (by first | omega | (simp; done) | (simp; omega)) _) | (refine Below.setCell ?_ (by first | omega | (simp; done) | (simp; omega)) _)))) hb1
    have hb1z : w.heap.size < w1.heap.size := by have := hb1.size; first | omega | (simp at this; omega)
    go_wp2_with fail
    refine (HF.out _).mono ?_
    rintro e w2 ⟨rfl, hb2⟩
    obtain ⟨hb2c, hb2f⟩ := bcell hb2
    have hb2n := below_next (w := w) (by (repeat (first | exact Below.refl _ _ | assumption | (refine Below.drew ?_) | (refine below_drewN ?_ _) | (refine Below.alloc ?_ (by first | omega | (simp; done) | (simp; omega)) _) | (refine Below.setCell ?_ (by first | omega | (simp; done) | (simp; omega)) _)))) hb2
    have hb2z : w.heap.size < w2.heap.size := by have := hb2.size; first | omega | (simp at this; omega)
    have hrc := fun w2 => regrown_cell w2
    go_wp2_with fail
    refine wp_region_quiet_below (by kernel_rfl) (by kernel_rfl) ?_
    repeat (any_goals (first | go_big_quiet_step (first | (go_at_call 24; exact Calls.regrown_of (may6_any _ _ _ _ _ _ _)) | (go_at_call 25; exact Calls.regrown_of (HS.out _ _))) | quiet_step (first | (go_at_call 24; exact Calls.regrown_of (may6_any _ _ _ _ _ _ _)) | (go_at_call 25; exact Calls.regrown_of (HS.out _ _)))))
    refine wpQuiet_nil ?_
    intro _ hw'
    obtain ⟨⟨dq, osq⟩, hw''⟩ := hw'
    subst hw''
    go_wp2_with fail
    go_ret
    exact ⟨rfl, (below_next (w := w) (by (repeat (first | exact Below.refl _ _ | assumption | (refine Below.drew ?_) | (refine below_drewN ?_ _) | (refine Below.alloc ?_ (by first | omega | (simp; done) | (simp; omega)) _) | (refine Below.setCell ?_ (by first | omega | (simp; done) | (simp; omega)) _)))) (below_regrown _ dq osq))⟩
  · have m1 : Cfg.may ⟨f0, f1, 1, f3, f4, f5⟩ = true := by have := HM'.out; unfold Cfg.may; rw [decide_eq_true_iff]; dsimp only; omega
    have m2 : Cfg.may ⟨f0, f1, 8, f3, f4, f5⟩ = true := by have := HM'.out; unfold Cfg.may; rw [decide_eq_true_iff]; dsimp only; omega
    have m3 : Cfg.may ⟨f0, f1, 0, f3, f4, f5⟩ = false := by unfold Cfg.may; rw [decide_eq_false_iff_not]; dsimp only; omega
    have m4 : Cfg.may ⟨f0, f1, 9, f3, f4, f5⟩ = false := by unfold Cfg.may; rw [decide_eq_false_iff_not]; dsimp only; omega
    have HS : Hid (∀ (v : Int) (w : World), Calls Try.prog 25 #[.agg #[.int .i64 f0, .int .i64 f1, .int .i64 f2, .int .i64 f3, .int .i64 f4, .int .i64 f5], .int .i64 2, .int .i64 v] w fun e w' => e = .returned (.agg #[.int .i64 f0, .int .i64 f1, .int .i64 v, .int .i64 f3, .int .i64 f4, .int .i64 f5]) ∧ Below w.heap.size w w') := fun v w => set_any ⟨f0, f1, f2, f3, f4, f5⟩ 2 v (by decide) w
    go_enter Try.func8, Try.ntmps8
    go_wp2_with fail
    refine (shown11_any _).mono ?_
    rintro e w1 ⟨rfl, hb1⟩
    obtain ⟨hb1c, hb1f⟩ := bcell hb1
    have hb1n := below_next (w := w) (by (repeat (first | exact Below.refl _ _ | assumption | (refine Below.drew ?_) | (refine below_drewN ?_ _) | (refine Below.alloc ?_ (by first | omega | (simp; done) | (simp; omega)) _) | (refine Below.setCell ?_ (by first | omega | (simp; done) | (simp; omega)) _)))) hb1
    have hb1z : w.heap.size < w1.heap.size := by have := hb1.size; first | omega | (simp at this; omega)
    go_wp2_with fail
    refine (HF.out _).mono ?_
    rintro e w2 ⟨rfl, hb2⟩
    obtain ⟨hb2c, hb2f⟩ := bcell hb2
    have hb2n := below_next (w := w) (by (repeat (first | exact Below.refl _ _ | assumption | (refine Below.drew ?_) | (refine below_drewN ?_ _) | (refine Below.alloc ?_ (by first | omega | (simp; done) | (simp; omega)) _) | (refine Below.setCell ?_ (by first | omega | (simp; done) | (simp; omega)) _)))) hb2
    have hb2z : w.heap.size < w2.heap.size := by have := hb2.size; first | omega | (simp at this; omega)
    have hrc := fun w2 => regrown_cell w2
    go_wp2_with fail
    refine wp_region_quiet_below (by kernel_rfl) (by kernel_rfl) ?_
    repeat (any_goals (first | go_big_quiet_step (first | (go_at_call 24; exact Calls.regrown_of (may6_any _ _ _ _ _ _ _)) | (go_at_call 25; exact Calls.regrown_of (HS.out _ _))) | quiet_step (first | (go_at_call 24; exact Calls.regrown_of (may6_any _ _ _ _ _ _ _)) | (go_at_call 25; exact Calls.regrown_of (HS.out _ _)))))
    refine wpQuiet_nil ?_
    intro _ hw'
    obtain ⟨⟨dq, osq⟩, hw''⟩ := hw'
    subst hw''
    go_wp2_with fail
    go_ret
    exact ⟨rfl, (below_next (w := w) (by (repeat (first | exact Below.refl _ _ | assumption | (refine Below.drew ?_) | (refine below_drewN ?_ _) | (refine Below.alloc ?_ (by first | omega | (simp; done) | (simp; omega)) _) | (refine Below.setCell ?_ (by first | omega | (simp; done) | (simp; omega)) _)))) (below_regrown _ dq osq))⟩
  · have m1 : Cfg.may ⟨f0, f1, f2, 1, f4, f5⟩ = true := by have := HM'.out; unfold Cfg.may; rw [decide_eq_true_iff]; dsimp only; omega
    have m2 : Cfg.may ⟨f0, f1, f2, 20, f4, f5⟩ = true := by have := HM'.out; unfold Cfg.may; rw [decide_eq_true_iff]; dsimp only; omega
    have m3 : Cfg.may ⟨f0, f1, f2, 0, f4, f5⟩ = false := by unfold Cfg.may; rw [decide_eq_false_iff_not]; dsimp only; omega
    have m4 : Cfg.may ⟨f0, f1, f2, 21, f4, f5⟩ = false := by unfold Cfg.may; rw [decide_eq_false_iff_not]; dsimp only; omega
    have HS : Hid (∀ (v : Int) (w : World), Calls Try.prog 25 #[.agg #[.int .i64 f0, .int .i64 f1, .int .i64 f2, .int .i64 f3, .int .i64 f4, .int .i64 f5], .int .i64 3, .int .i64 v] w fun e w' => e = .returned (.agg #[.int .i64 f0, .int .i64 f1, .int .i64 f2, .int .i64 v, .int .i64 f4, .int .i64 f5]) ∧ Below w.heap.size w w') := fun v w => set_any ⟨f0, f1, f2, f3, f4, f5⟩ 3 v (by decide) w
    go_enter Try.func8, Try.ntmps8
    go_wp2_with fail
    refine (shown11_any _).mono ?_
    rintro e w1 ⟨rfl, hb1⟩
    obtain ⟨hb1c, hb1f⟩ := bcell hb1
    have hb1n := below_next (w := w) (by (repeat (first | exact Below.refl _ _ | assumption | (refine Below.drew ?_) | (refine below_drewN ?_ _) | (refine Below.alloc ?_ (by first | omega | (simp; done) | (simp; omega)) _) | (refine Below.setCell ?_ (by first | omega | (simp; done) | (simp; omega)) _)))) hb1
    have hb1z : w.heap.size < w1.heap.size := by have := hb1.size; first | omega | (simp at this; omega)
    go_wp2_with fail
    refine (HF.out _).mono ?_
    rintro e w2 ⟨rfl, hb2⟩
    obtain ⟨hb2c, hb2f⟩ := bcell hb2
    have hb2n := below_next (w := w) (by (repeat (first | exact Below.refl _ _ | assumption | (refine Below.drew ?_) | (refine below_drewN ?_ _) | (refine Below.alloc ?_ (by first | omega | (simp; done) | (simp; omega)) _) | (refine Below.setCell ?_ (by first | omega | (simp; done) | (simp; omega)) _)))) hb2
    have hb2z : w.heap.size < w2.heap.size := by have := hb2.size; first | omega | (simp at this; omega)
    have hrc := fun w2 => regrown_cell w2
    go_wp2_with fail
    refine wp_region_quiet_below (by kernel_rfl) (by kernel_rfl) ?_
    repeat (any_goals (first | go_big_quiet_step (first | (go_at_call 24; exact Calls.regrown_of (may6_any _ _ _ _ _ _ _)) | (go_at_call 25; exact Calls.regrown_of (HS.out _ _))) | quiet_step (first | (go_at_call 24; exact Calls.regrown_of (may6_any _ _ _ _ _ _ _)) | (go_at_call 25; exact Calls.regrown_of (HS.out _ _)))))
    refine wpQuiet_nil ?_
    intro _ hw'
    obtain ⟨⟨dq, osq⟩, hw''⟩ := hw'
    subst hw''
    go_wp2_with fail
    go_ret
    exact ⟨rfl, (below_next (w := w) (by (repeat (first | exact Below.refl _ _ | assumption | (refine Below.drew ?_) | (refine below_drewN ?_ _) | (refine Below.alloc ?_ (by first | omega | (simp; done) | (simp; omega)) _) | (refine Below.setCell ?_ (by first | omega | (simp; done) | (simp; omega)) _)))) (below_regrown _ dq osq))⟩
  · have m1 : Cfg.may ⟨f0, f1, f2, f3, 1, f5⟩ = true := by have := HM'.out; unfold Cfg.may; rw [decide_eq_true_iff]; dsimp only; omega
    have m2 : Cfg.may ⟨f0, f1, f2, f3, 4, f5⟩ = true := by have := HM'.out; unfold Cfg.may; rw [decide_eq_true_iff]; dsimp only; omega
    have m3 : Cfg.may ⟨f0, f1, f2, f3, 0, f5⟩ = false := by unfold Cfg.may; rw [decide_eq_false_iff_not]; dsimp only; omega
    have m4 : Cfg.may ⟨f0, f1, f2, f3, 5, f5⟩ = false := by unfold Cfg.may; rw [decide_eq_false_iff_not]; dsimp only; omega
    have HS : Hid (∀ (v : Int) (w : World), Calls Try.prog 25 #[.agg #[.int .i64 f0, .int .i64 f1, .int .i64 f2, .int .i64 f3, .int .i64 f4, .int .i64 f5], .int .i64 4, .int .i64 v] w fun e w' => e = .returned (.agg #[.int .i64 f0, .int .i64 f1, .int .i64 f2, .int .i64 f3, .int .i64 v, .int .i64 f5]) ∧ Below w.heap.size w w') := fun v w => set_any ⟨f0, f1, f2, f3, f4, f5⟩ 4 v (by decide) w
    go_enter Try.func8, Try.ntmps8
    go_wp2_with fail
    refine (shown11_any _).mono ?_
    rintro e w1 ⟨rfl, hb1⟩
    obtain ⟨hb1c, hb1f⟩ := bcell hb1
    have hb1n := below_next (w := w) (by (repeat (first | exact Below.refl _ _ | assumption | (refine Below.drew ?_) | (refine below_drewN ?_ _) | (refine Below.alloc ?_ (by first | omega | (simp; done) | (simp; omega)) _) | (refine Below.setCell ?_ (by first | omega | (simp; done) | (simp; omega)) _)))) hb1
    have hb1z : w.heap.size < w1.heap.size := by have := hb1.size; first | omega | (simp at this; omega)
    go_wp2_with fail
    refine (HF.out _).mono ?_
    rintro e w2 ⟨rfl, hb2⟩
    obtain ⟨hb2c, hb2f⟩ := bcell hb2
    have hb2n := below_next (w := w) (by (repeat (first | exact Below.refl _ _ | assumption | (refine Below.drew ?_) | (refine below_drewN ?_ _) | (refine Below.alloc ?_ (by first | omega | (simp; done) | (simp; omega)) _) | (refine Below.setCell ?_ (by first | omega | (simp; done) | (simp; omega)) _)))) hb2
    have hb2z : w.heap.size < w2.heap.size := by have := hb2.size; first | omega | (simp at this; omega)
    have hrc := fun w2 => regrown_cell w2
    go_wp2_with fail
    refine wp_region_quiet_below (by kernel_rfl) (by kernel_rfl) ?_
    repeat (any_goals (first | go_big_quiet_step (first | (go_at_call 24; exact Calls.regrown_of (may6_any _ _ _ _ _ _ _)) | (go_at_call 25; exact Calls.regrown_of (HS.out _ _))) | quiet_step (first | (go_at_call 24; exact Calls.regrown_of (may6_any _ _ _ _ _ _ _)) | (go_at_call 25; exact Calls.regrown_of (HS.out _ _)))))
    refine wpQuiet_nil ?_
    intro _ hw'
    obtain ⟨⟨dq, osq⟩, hw''⟩ := hw'
    subst hw''
    go_wp2_with fail
    go_ret
    exact ⟨rfl, (below_next (w := w) (by (repeat (first | exact Below.refl _ _ | assumption | (refine Below.drew ?_) | (refine below_drewN ?_ _) | (refine Below.alloc ?_ (by first | omega | (simp; done) | (simp; omega)) _) | (refine Below.setCell ?_ (by first | omega | (simp; done) | (simp; omega)) _)))) (below_regrown _ dq osq))⟩
  · have m1 : Cfg.may ⟨f0, f1, f2, f3, f4, 1⟩ = true := by have := HM'.out; unfold Cfg.may; rw [decide_eq_true_iff]; dsimp only; omega
    have m2 : Cfg.may ⟨f0, f1, f2, f3, f4, 3⟩ = true := by have := HM'.out; unfold Cfg.may; rw [decide_eq_true_iff]; dsimp only; omega
    have m3 : Cfg.may ⟨f0, f1, f2, f3, f4, 0⟩ = false := by unfold Cfg.may; rw [decide_eq_false_iff_not]; dsimp only; omega
    have m4 : Cfg.may ⟨f0, f1, f2, f3, f4, 4⟩ = false := by unfold Cfg.may; rw [decide_eq_false_iff_not]; dsimp only; omega
    have HS : Hid (∀ (v : Int) (w : World), Calls Try.prog 25 #[.agg #[.int .i64 f0, .int .i64 f1, .int .i64 f2, .int .i64 f3, .int .i64 f4, .int .i64 f5], .int .i64 5, .int .i64 v] w fun e w' => e = .returned (.agg #[.int .i64 f0, .int .i64 f1, .int .i64 f2, .int .i64 f3, .int .i64 f4, .int .i64 v]) ∧ Below w.heap.size w w') := fun v w => set_any ⟨f0, f1, f2, f3, f4, f5⟩ 5 v (by decide) w
    go_enter Try.func8, Try.ntmps8
    go_wp2_with fail
    refine (shown11_any _).mono ?_
    rintro e w1 ⟨rfl, hb1⟩
    obtain ⟨hb1c, hb1f⟩ := bcell hb1
    have hb1n := below_next (w := w) (by (repeat (first | exact Below.refl _ _ | assumption | (refine Below.drew ?_) | (refine below_drewN ?_ _) | (refine Below.alloc ?_ (by first | omega | (simp; done) | (simp; omega)) _) | (refine Below.setCell ?_ (by first | omega | (simp; done) | (simp; omega)) _)))) hb1
    have hb1z : w.heap.size < w1.heap.size := by have := hb1.size; first | omega | (simp at this; omega)
    go_wp2_with fail
    refine (HF.out _).mono ?_
    rintro e w2 ⟨rfl, hb2⟩
    obtain ⟨hb2c, hb2f⟩ := bcell hb2
    have hb2n := below_next (w := w) (by (repeat (first | exact Below.refl _ _ | assumption | (refine Below.drew ?_) | (refine below_drewN ?_ _) | (refine Below.alloc ?_ (by first | omega | (simp; done) | (simp; omega)) _) | (refine Below.setCell ?_ (by first | omega | (simp; done) | (simp; omega)) _)))) hb2
    have hb2z : w.heap.size < w2.heap.size := by have := hb2.size; first | omega | (simp at this; omega)
    have hrc := fun w2 => regrown_cell w2
    go_wp2_with fail
    refine wp_region_quiet_below (by kernel_rfl) (by kernel_rfl) ?_
    repeat (any_goals (first | go_big_quiet_step (first | (go_at_call 24; exact Calls.regrown_of (may6_any _ _ _ _ _ _ _)) | (go_at_call 25; exact Calls.regrown_of (HS.out _ _))) | quiet_step (first | (go_at_call 24; exact Calls.regrown_of (may6_any _ _ _ _ _ _ _)) | (go_at_call 25; exact Calls.regrown_of (HS.out _ _)))))
    refine wpQuiet_nil ?_
    intro _ hw'
    obtain ⟨⟨dq, osq⟩, hw''⟩ := hw'
    subst hw''
    go_wp2_with fail
    go_ret
    exact ⟨rfl, (below_next (w := w) (by (repeat (first | exact Below.refl _ _ | assumption | (refine Below.drew ?_) | (refine below_drewN ?_ _) | (refine Below.alloc ?_ (by first | omega | (simp; done) | (simp; omega)) _) | (refine Below.setCell ?_ (by first | omega | (simp; done) | (simp; omega)) _)))) (below_regrown _ dq osq))⟩
end Go.Proofs.Ytdabndoojkdicaa
