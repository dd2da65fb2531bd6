/- Configs: May, Fit and 'set' answer what plain functions say; the head of layer 11's statements is true. They lay new blocks alone. No condition but that a config's numbers are ints. -/
import Derived.Test.YtdabndoojkdicaaCheck
import Derived.Test.YtdabndoojkdicaaFitPlain
set_option linter.unusedVariables false
set_option linter.unusedSimpArgs false
namespace Go.Proofs.Ytdabndoojkdicaa
open Go.RowKit

/-- A config. -/
structure Cfg where
  N : Int
  W : Int
  Q : Int
  H : Int
  L : Int
  P : Int
def Cfg.val (c : Cfg) : Value := .agg #[.int .i64 c.N, .int .i64 c.W, .int .i64 c.Q, .int .i64 c.H, .int .i64 c.L, .int .i64 c.P]
def Cfg.may (c : Cfg) : Bool := decide (1 ≤ c.N ∧ c.N ≤ 5 ∧ 1 ≤ c.W ∧ c.W ≤ 4 ∧ 1 ≤ c.Q ∧ c.Q ≤ 8 ∧ 1 ≤ c.H ∧ c.H ≤ 20 ∧ 1 ≤ c.L ∧ c.L ≤ 4 ∧ 1 ≤ c.P ∧ c.P ≤ 3)
def Cfg.fit (c : Cfg) : Cfg := ⟨1 + c.N % 5, 1 + c.W % 4, 1 + c.Q % 8, 1 + c.H % 20, 1 + c.L % 4, 1 + c.P % 3⟩
def Cfg.ok (c : Cfg) : Prop := -9223372036854775808 ≤ c.N ∧ c.N ≤ 9223372036854775807 ∧ -9223372036854775808 ≤ c.W ∧ c.W ≤ 9223372036854775807 ∧ -9223372036854775808 ≤ c.Q ∧ c.Q ≤ 9223372036854775807 ∧
  -9223372036854775808 ≤ c.H ∧ c.H ≤ 9223372036854775807 ∧ -9223372036854775808 ≤ c.L ∧ c.L ≤ 9223372036854775807 ∧ -9223372036854775808 ≤ c.P ∧ c.P ≤ 9223372036854775807

set_option maxHeartbeats 4000000 in
theorem may_any (c : Cfg) (w : World) : Calls Try.prog 24 #[c.val] w fun e w' => e = .returned (.bool c.may) ∧ Below w.heap.size w w' := by
  obtain ⟨N, W, Q, H, L, P⟩ := c
  have i0 : ∀ w, (Instr.index 60 (.agg #[.int .i64 N, .int .i64 5, .int .i64 W, .int .i64 4, .int .i64 Q, .int .i64 8, .int .i64 H, .int .i64 20, .int .i64 L, .int .i64 4, .int .i64 P, .int .i64 3]) (.int .i64 0)).run Try.prog w = .ok (.agg #[.int .i64 N, .int .i64 5]) w := fun _ => by kernel_rfl
  have i1 : ∀ w, (Instr.index 60 (.agg #[.int .i64 N, .int .i64 5, .int .i64 W, .int .i64 4, .int .i64 Q, .int .i64 8, .int .i64 H, .int .i64 20, .int .i64 L, .int .i64 4, .int .i64 P, .int .i64 3]) (.int .i64 1)).run Try.prog w = .ok (.agg #[.int .i64 W, .int .i64 4]) w := fun _ => by kernel_rfl
  have i2 : ∀ w, (Instr.index 60 (.agg #[.int .i64 N, .int .i64 5, .int .i64 W, .int .i64 4, .int .i64 Q, .int .i64 8, .int .i64 H, .int .i64 20, .int .i64 L, .int .i64 4, .int .i64 P, .int .i64 3]) (.int .i64 2)).run Try.prog w = .ok (.agg #[.int .i64 Q, .int .i64 8]) w := fun _ => by kernel_rfl
  have i3 : ∀ w, (Instr.index 60 (.agg #[.int .i64 N, .int .i64 5, .int .i64 W, .int .i64 4, .int .i64 Q, .int .i64 8, .int .i64 H, .int .i64 20, .int .i64 L, .int .i64 4, .int .i64 P, .int .i64 3]) (.int .i64 3)).run Try.prog w = .ok (.agg #[.int .i64 H, .int .i64 20]) w := fun _ => by kernel_rfl
  have i4 : ∀ w, (Instr.index 60 (.agg #[.int .i64 N, .int .i64 5, .int .i64 W, .int .i64 4, .int .i64 Q, .int .i64 8, .int .i64 H, .int .i64 20, .int .i64 L, .int .i64 4, .int .i64 P, .int .i64 3]) (.int .i64 4)).run Try.prog w = .ok (.agg #[.int .i64 L, .int .i64 4]) w := fun _ => by kernel_rfl
  have i5 : ∀ w, (Instr.index 60 (.agg #[.int .i64 N, .int .i64 5, .int .i64 W, .int .i64 4, .int .i64 Q, .int .i64 8, .int .i64 H, .int .i64 20, .int .i64 L, .int .i64 4, .int .i64 P, .int .i64 3]) (.int .i64 5)).run Try.prog w = .ok (.agg #[.int .i64 P, .int .i64 3]) w := fun _ => by kernel_rfl
  unfold Cfg.val
  go_enter Try.func24, Try.ntmps24
  go_wp2
  go_loopw [24] (fun i wr => ∃ k : Nat, k ≤ 6 ∧ i = .int .i64 k ∧ (0 < k → 1 ≤ N ∧ N ≤ 5) ∧ (1 < k → 1 ≤ W ∧ W ≤ 4) ∧ (2 < k → 1 ≤ Q ∧ Q ≤ 8) ∧ (3 < k → 1 ≤ H ∧ H ≤ 20) ∧ (4 < k → 1 ≤ L ∧ L ≤ 4) ∧ (5 < k → 1 ≤ P ∧ P ≤ 3) ∧ Below w.heap.size w wr) (fun i _ => 6 - (intOf i).toNat)
  case atStart => exact ⟨0, by omega, rfl, by omega, by omega, by omega, by omega, by omega, by omega, (by (repeat (first | exact Below.refl _ _ | assumption | (refine Below.drew ?_) | (refine below_drewN ?_ _) | (refine Below.alloc ?_ (by first | omega | (simp; done) | (simp; omega)) _) | (refine Below.setCell ?_ (by first | omega | (simp; done) | (simp; omega)) _))))⟩
  case round =>
    obtain ⟨k, hk, rfl, c0, c1, c2, c3, c4, c5, hb⟩ := hrel
    have hz := hb.size
    have hcs : k = 0 ∨ k = 1 ∨ k = 2 ∨ k = 3 ∨ k = 4 ∨ k = 5 ∨ k = 6 := by omega
    have C0 := Lib.hid c0
    have C1 := Lib.hid c1
    have C2 := Lib.hid c2
    have C3 := Lib.hid c3
    have C4 := Lib.hid c4
    have C5 := Lib.hid c5
    clear c0 c1 c2 c3 c4 c5
    rcases hcs with rfl | rfl | rfl | rfl | rfl | rfl | rfl
    · clear i1 i2 i3 i4 i5
      by_cases h1 : N < 1
      · have HM := Lib.hid (show Cfg.may ⟨N, W, Q, H, L, P⟩ = false by unfold Cfg.may; rw [decide_eq_false_iff_not]; dsimp only; omega)
        go_wp2
        go_ret
        exact ⟨ret_bool HM.out.symm, (by (repeat (first | exact Below.refl _ _ | assumption | (refine Below.drew ?_) | (refine below_drewN ?_ _) | (refine Below.alloc ?_ (by first | omega | (simp; done) | (simp; omega)) _) | (refine Below.setCell ?_ (by first | omega | (simp; done) | (simp; omega)) _))))⟩
      · by_cases h2 : 5 < N
        · have HM := Lib.hid (show Cfg.may ⟨N, W, Q, H, L, P⟩ = false by unfold Cfg.may; rw [decide_eq_false_iff_not]; dsimp only; omega)
          go_wp2
          go_ret
          exact ⟨ret_bool HM.out.symm, (by (repeat (first | exact Below.refl _ _ | assumption | (refine Below.drew ?_) | (refine below_drewN ?_ _) | (refine Below.alloc ?_ (by first | omega | (simp; done) | (simp; omega)) _) | (refine Below.setCell ?_ (by first | omega | (simp; done) | (simp; omega)) _))))⟩
        · go_wp2
          go_roundw
          case rel => exact ⟨1, by omega, rfl, fun _ => ⟨by omega, by omega⟩, by omega, by omega, by omega, by omega, by omega, (by (repeat (first | exact Below.refl _ _ | assumption | (refine Below.drew ?_) | (refine below_drewN ?_ _) | (refine Below.alloc ?_ (by first | omega | (simp; done) | (simp; omega)) _) | (refine Below.setCell ?_ (by first | omega | (simp; done) | (simp; omega)) _))))⟩
          case measure => simp [intOf]
    · clear i0 i2 i3 i4 i5
      by_cases h1 : W < 1
      · have HM := Lib.hid (show Cfg.may ⟨N, W, Q, H, L, P⟩ = false by unfold Cfg.may; rw [decide_eq_false_iff_not]; dsimp only; omega)
        go_wp2
        go_ret
        exact ⟨ret_bool HM.out.symm, (by (repeat (first | exact Below.refl _ _ | assumption | (refine Below.drew ?_) | (refine below_drewN ?_ _) | (refine Below.alloc ?_ (by first | omega | (simp; done) | (simp; omega)) _) | (refine Below.setCell ?_ (by first | omega | (simp; done) | (simp; omega)) _))))⟩
      · by_cases h2 : 4 < W
        · have HM := Lib.hid (show Cfg.may ⟨N, W, Q, H, L, P⟩ = false by unfold Cfg.may; rw [decide_eq_false_iff_not]; dsimp only; omega)
          go_wp2
          go_ret
          exact ⟨ret_bool HM.out.symm, (by (repeat (first | exact Below.refl _ _ | assumption | (refine Below.drew ?_) | (refine below_drewN ?_ _) | (refine Below.alloc ?_ (by first | omega | (simp; done) | (simp; omega)) _) | (refine Below.setCell ?_ (by first | omega | (simp; done) | (simp; omega)) _))))⟩
        · go_wp2
          go_roundw
          case rel => exact ⟨2, by omega, rfl, fun _ => C0.out (by omega), fun _ => ⟨by omega, by omega⟩, by omega, by omega, by omega, by omega, (by (repeat (first | exact Below.refl _ _ | assumption | (refine Below.drew ?_) | (refine below_drewN ?_ _) | (refine Below.alloc ?_ (by first | omega | (simp; done) | (simp; omega)) _) | (refine Below.setCell ?_ (by first | omega | (simp; done) | (simp; omega)) _))))⟩
          case measure => simp [intOf]
    · clear i0 i1 i3 i4 i5
      by_cases h1 : Q < 1
      · have HM := Lib.hid (show Cfg.may ⟨N, W, Q, H, L, P⟩ = false by unfold Cfg.may; rw [decide_eq_false_iff_not]; dsimp only; omega)
        go_wp2
        go_ret
        exact ⟨ret_bool HM.out.symm, (by (repeat (first | exact Below.refl _ _ | assumption | (refine Below.drew ?_) | (refine below_drewN ?_ _) | (refine Below.alloc ?_ (by first | omega | (simp; done) | (simp; omega)) _) | (refine Below.setCell ?_ (by first | omega | (simp; done) | (simp; omega)) _))))⟩
      · by_cases h2 : 8 < Q
        · have HM := Lib.hid (show Cfg.may ⟨N, W, Q, H, L, P⟩ = false by unfold Cfg.may; rw [decide_eq_false_iff_not]; dsimp only; omega)
          go_wp2
          go_ret
          exact ⟨ret_bool HM.out.symm, (by (repeat (first | exact Below.refl _ _ | assumption | (refine Below.drew ?_) | (refine below_drewN ?_ _) | (refine Below.alloc ?_ (by first | omega | (simp; done) | (simp; omega)) _) | (refine Below.setCell ?_ (by first | omega | (simp; done) | (simp; omega)) _))))⟩
        · go_wp2
          go_roundw
          case rel => exact ⟨3, by omega, rfl, fun _ => C0.out (by omega), fun _ => C1.out (by omega), fun _ => ⟨by omega, by omega⟩, by omega, by omega, by omega, (by (repeat (first | exact Below.refl _ _ | assumption | (refine Below.drew ?_) | (refine below_drewN ?_ _) | (refine Below.alloc ?_ (by first | omega | (simp; done) | (simp; omega)) _) | (refine Below.setCell ?_ (by first | omega | (simp; done) | (simp; omega)) _))))⟩
          case measure => simp [intOf]
    · clear i0 i1 i2 i4 i5
      by_cases h1 : H < 1
      · have HM := Lib.hid (show Cfg.may ⟨N, W, Q, H, L, P⟩ = false by unfold Cfg.may; rw [decide_eq_false_iff_not]; dsimp only; omega)
        go_wp2
        go_ret
        exact ⟨ret_bool HM.out.symm, (by (repeat (first | exact Below.refl _ _ | assumption | (refine Below.drew ?_) | (refine below_drewN ?_ _) | (refine Below.alloc ?_ (by first | omega | (simp; done) | (simp; omega)) _) | (refine Below.setCell ?_ (by first | omega | (simp; done) | (simp; omega)) _))))⟩
      · by_cases h2 : 20 < H
        · have HM := Lib.hid (show Cfg.may ⟨N, W, Q, H, L, P⟩ = false by unfold Cfg.may; rw [decide_eq_false_iff_not]; dsimp only; omega)
          go_wp2
          go_ret
          exact ⟨ret_bool HM.out.symm, (by (repeat (first | exact Below.refl _ _ | assumption | (refine Below.drew ?_) | (refine below_drewN ?_ _) | (refine Below.alloc ?_ (by first | omega | (simp; done) | (simp; omega)) _) | (refine Below.setCell ?_ (by first | omega | (simp; done) | (simp; omega)) _))))⟩
        · go_wp2
          go_roundw
          case rel => exact ⟨4, by omega, rfl, fun _ => C0.out (by omega), fun _ => C1.out (by omega), fun _ => C2.out (by omega), fun _ => ⟨by omega, by omega⟩, by omega, by omega, (by (repeat (first | exact Below.refl _ _ | assumption | (refine Below.drew ?_) | (refine below_drewN ?_ _) | (refine Below.alloc ?_ (by first | omega | (simp; done) | (simp; omega)) _) | (refine Below.setCell ?_ (by first | omega | (simp; done) | (simp; omega)) _))))⟩
          case measure => simp [intOf]
    · clear i0 i1 i2 i3 i5
      by_cases h1 : L < 1
      · have HM := Lib.hid (show Cfg.may ⟨N, W, Q, H, L, P⟩ = false by unfold Cfg.may; rw [decide_eq_false_iff_not]; dsimp only; omega)
        go_wp2
        go_ret
        exact ⟨ret_bool HM.out.symm, (by (repeat (first | exact Below.refl _ _ | assumption | (refine Below.drew ?_) | (refine below_drewN ?_ _) | (refine Below.alloc ?_ (by first | omega | (simp; done) | (simp; omega)) _) | (refine Below.setCell ?_ (by first | omega | (simp; done) | (simp; omega)) _))))⟩
      · by_cases h2 : 4 < L
        · have HM := Lib.hid (show Cfg.may ⟨N, W, Q, H, L, P⟩ = false by unfold Cfg.may; rw [decide_eq_false_iff_not]; dsimp only; omega)
          go_wp2
          go_ret
          exact ⟨ret_bool HM.out.symm, (by (repeat (first | exact Below.refl _ _ | assumption | (refine Below.drew ?_) | (refine below_drewN ?_ _) | (refine Below.alloc ?_ (by first | omega | (simp; done) | (simp; omega)) _) | (refine Below.setCell ?_ (by first | omega | (simp; done) | (simp; omega)) _))))⟩
        · go_wp2
          go_roundw
          case rel => exact ⟨5, by omega, rfl, fun _ => C0.out (by omega), fun _ => C1.out (by omega), fun _ => C2.out (by omega), fun _ => C3.out (by omega), fun _ => ⟨by omega, by omega⟩, by omega, (by (repeat (first | exact Below.refl _ _ | assumption | (refine Below.drew ?_) | (refine below_drewN ?_ _) | (refine Below.alloc ?_ (by first | omega | (simp; done) | (simp; omega)) _) | (refine Below.setCell ?_ (by first | omega | (simp; done) | (simp; omega)) _))))⟩
          case measure => simp [intOf]
    · clear i0 i1 i2 i3 i4
      by_cases h1 : P < 1
      · have HM := Lib.hid (show Cfg.may ⟨N, W, Q, H, L, P⟩ = false by unfold Cfg.may; rw [decide_eq_false_iff_not]; dsimp only; omega)
        go_wp2
        go_ret
        exact ⟨ret_bool HM.out.symm, (by (repeat (first | exact Below.refl _ _ | assumption | (refine Below.drew ?_) | (refine below_drewN ?_ _) | (refine Below.alloc ?_ (by first | omega | (simp; done) | (simp; omega)) _) | (refine Below.setCell ?_ (by first | omega | (simp; done) | (simp; omega)) _))))⟩
      · by_cases h2 : 3 < P
        · have HM := Lib.hid (show Cfg.may ⟨N, W, Q, H, L, P⟩ = false by unfold Cfg.may; rw [decide_eq_false_iff_not]; dsimp only; omega)
          go_wp2
          go_ret
          exact ⟨ret_bool HM.out.symm, (by (repeat (first | exact Below.refl _ _ | assumption | (refine Below.drew ?_) | (refine below_drewN ?_ _) | (refine Below.alloc ?_ (by first | omega | (simp; done) | (simp; omega)) _) | (refine Below.setCell ?_ (by first | omega | (simp; done) | (simp; omega)) _))))⟩
        · go_wp2
          go_roundw
          case rel => exact ⟨6, by omega, rfl, fun _ => C0.out (by omega), fun _ => C1.out (by omega), fun _ => C2.out (by omega), fun _ => C3.out (by omega), fun _ => C4.out (by omega), fun _ => ⟨by omega, by omega⟩, (by (repeat (first | exact Below.refl _ _ | assumption | (refine Below.drew ?_) | (refine below_drewN ?_ _) | (refine Below.alloc ?_ (by first | omega | (simp; done) | (simp; omega)) _) | (refine Below.setCell ?_ (by first | omega | (simp; done) | (simp; omega)) _))))⟩
          case measure => simp [intOf]
    · have HM := Lib.hid (show Cfg.may ⟨N, W, Q, H, L, P⟩ = true by
        have g0 := C0.out (by omega); have g1 := C1.out (by omega); have g2 := C2.out (by omega); have g3 := C3.out (by omega); have g4 := C4.out (by omega); have g5 := C5.out (by omega)
        unfold Cfg.may; rw [decide_eq_true_iff]; dsimp only; omega)
      clear i0 i1 i2 i3 i4 i5
      go_wp2
      go_ret
      exact ⟨ret_bool HM.out.symm, hb⟩

set_option maxHeartbeats 1000000 in
theorem fit11_any (c : Cfg) (w : World) (hc : c.ok) : Calls Try.prog 23 #[c.val] w fun e w' => e = .returned c.fit.val ∧ Below w.heap.size w w' := by
  obtain ⟨N, W, Q, H, L, P⟩ := c
  unfold Cfg.ok at hc
  dsimp only at hc
  obtain ⟨a0, a1, a2, a3, a4, a5, a6, a7, a8, a9, a10, a11⟩ := hc
  obtain ⟨n1, n2, n3⟩ := tmod_range N 5 (by omega)
  obtain ⟨w1, w2, w3⟩ := tmod_range W 4 (by omega)
  obtain ⟨q1, q2, q3⟩ := tmod_range Q 8 (by omega)
  obtain ⟨h1, h2, h3⟩ := tmod_range H 20 (by omega)
  obtain ⟨l1, l2, l3⟩ := tmod_range L 4 (by omega)
  obtain ⟨p1, p2, p3⟩ := tmod_range P 3 (by omega)
  unfold Cfg.val
  go_enter Try.func23, Try.ntmps23
  go_wp2
  refine bodyPost_ret (v := .agg #[.int .i64 (1 + N % 5), .int .i64 (1 + W % 4), .int .i64 (1 + Q % 8), .int .i64 (1 + H % 20), .int .i64 (1 + L % 4), .int .i64 (1 + P % 3)]) (by simp [results, Try.results23, go_sem]) rfl ⟨rfl, (by (repeat (first | exact Below.refl _ _ | assumption | (refine Below.drew ?_) | (refine below_drewN ?_ _) | (refine Below.alloc ?_ (by first | omega | (simp; done) | (simp; omega)) _) | (refine Below.setCell ?_ (by first | omega | (simp; done) | (simp; omega)) _))))⟩

def Cfg.set (c : Cfg) (which : Nat) (v : Int) : Cfg := match which with | 0 => { c with N := v } | 1 => { c with W := v } | 2 => { c with Q := v } | 3 => { c with H := v } | 4 => { c with L := v } | _ => { c with P := v }
set_option maxHeartbeats 1000000 in
theorem set_any (c : Cfg) (which : Nat) (v : Int) (hw : which < 6) (w : World) : Calls Try.prog 25 #[c.val, .int .i64 which, .int .i64 v] w fun e w' => e = .returned (c.set which v).val ∧ Below w.heap.size w w' := by
  obtain ⟨N, W, Q, H, L, P⟩ := c
  have hcs : which = 0 ∨ which = 1 ∨ which = 2 ∨ which = 3 ∨ which = 4 ∨ which = 5 := by omega
  unfold Cfg.val
  rcases hcs with rfl | rfl | rfl | rfl | rfl | rfl
  · go_enter Try.func25, Try.ntmps25
    go_wp2
    go_goals
    refine bodyPost_ret (v := .agg #[.int .i64 v, .int .i64 W, .int .i64 Q, .int .i64 H, .int .i64 L, .int .i64 P]) (by simp [results, Try.results25, go_sem]) rfl ⟨rfl, (by (repeat (first | exact Below.refl _ _ | assumption | (refine Below.drew ?_) | (refine below_drewN ?_ _) | (refine Below.alloc ?_ (by first | omega | (simp; done) | (simp; omega)) _) | (refine Below.setCell ?_ (by first | omega | (simp; done) | (simp; omega)) _))))⟩
  · go_enter Try.func25, Try.ntmps25
    go_wp2
    refine bodyPost_ret (v := .agg #[.int .i64 N, .int .i64 v, .int .i64 Q, .int .i64 H, .int .i64 L, .int .i64 P]) (by simp [results, Try.results25, go_sem]) rfl ⟨rfl, (by (repeat (first | exact Below.refl _ _ | assumption | (refine Below.drew ?_) | (refine below_drewN ?_ _) | (refine Below.alloc ?_ (by first | omega | (simp; done) | (simp; omega)) _) | (refine Below.setCell ?_ (by first | omega | (simp; done) | (simp; omega)) _))))⟩
  · go_enter Try.func25, Try.ntmps25
    go_wp2
    refine bodyPost_ret (v := .agg #[.int .i64 N, .int .i64 W, .int .i64 v, .int .i64 H, .int .i64 L, .int .i64 P]) (by simp [results, Try.results25, go_sem]) rfl ⟨rfl, (by (repeat (first | exact Below.refl _ _ | assumption | (refine Below.drew ?_) | (refine below_drewN ?_ _) | (refine Below.alloc ?_ (by first | omega | (simp; done) | (simp; omega)) _) | (refine Below.setCell ?_ (by first | omega | (simp; done) | (simp; omega)) _))))⟩
  · go_enter Try.func25, Try.ntmps25
    go_wp2
    refine bodyPost_ret (v := .agg #[.int .i64 N, .int .i64 W, .int .i64 Q, .int .i64 v, .int .i64 L, .int .i64 P]) (by simp [results, Try.results25, go_sem]) rfl ⟨rfl, (by (repeat (first | exact Below.refl _ _ | assumption | (refine Below.drew ?_) | (refine below_drewN ?_ _) | (refine Below.alloc ?_ (by first | omega | (simp; done) | (simp; omega)) _) | (refine Below.setCell ?_ (by first | omega | (simp; done) | (simp; omega)) _))))⟩
  · go_enter Try.func25, Try.ntmps25
    go_wp2
    refine bodyPost_ret (v := .agg #[.int .i64 N, .int .i64 W, .int .i64 Q, .int .i64 H, .int .i64 v, .int .i64 P]) (by simp [results, Try.results25, go_sem]) rfl ⟨rfl, (by (repeat (first | exact Below.refl _ _ | assumption | (refine Below.drew ?_) | (refine below_drewN ?_ _) | (refine Below.alloc ?_ (by first | omega | (simp; done) | (simp; omega)) _) | (refine Below.setCell ?_ (by first | omega | (simp; done) | (simp; omega)) _))))⟩
  · go_enter Try.func25, Try.ntmps25
    go_wp2
    refine bodyPost_ret (v := .agg #[.int .i64 N, .int .i64 W, .int .i64 Q, .int .i64 H, .int .i64 L, .int .i64 v]) (by simp [results, Try.results25, go_sem]) rfl ⟨rfl, (by (repeat (first | exact Below.refl _ _ | assumption | (refine Below.drew ?_) | (refine below_drewN ?_ _) | (refine Below.alloc ?_ (by first | omega | (simp; done) | (simp; omega)) _) | (refine Below.setCell ?_ (by first | omega | (simp; done) | (simp; omega)) _))))⟩

theorem shown11_any (w : World) : Calls Try.prog 22 #[] w fun e w' => e = .returned (.bool true) ∧ Below w.heap.size w w' := by
  have k1 := Lib.hid (show checkE 0 0 [] 3 ⟨#[99, 121]⟩ 0 ⟨#[49]⟩ = 14 by decide +kernel)
  have k2 := Lib.hid (show Cfg.may ⟨5, 4, 8, 20, 4, 3⟩ = true by decide)
  have k3 := Lib.hid (show Cfg.may ⟨0, 0, 0, 0, 0, 0⟩ = false by decide)
  go_enter Try.func22, Try.ntmps22
  go_wp2_with fail
  refine (check_any 0 0 0 0 0 0 none 0 0 [] _ _ _ _ _ (RdCons.nil _ _) (by decide +kernel) (by decide +kernel)).mono ?_
  rintro e w1 ⟨rfl, hb⟩
  rw [k1.out]
  go_wp2_with fail
  refine (may_any ⟨5, 4, 8, 20, 4, 3⟩ _).mono ?_
  rintro e w2 ⟨rfl, hb2⟩
  rw [k2.out]
  go_wp2_with fail
  refine (may_any ⟨0, 0, 0, 0, 0, 0⟩ _).mono ?_
  rintro e w3 ⟨rfl, hb3⟩
  rw [k3.out]
  go_wp2_with fail
  go_ret
  exact ⟨rfl, below_next (below_next hb hb2) hb3⟩

theorem few11_any (A : Option Addr) (n c : Nat) (L : List Con) (w : World) (hR : RdCons w A n L) (hc : n ≤ c) :
    Calls Try.prog 27 #[.slice A n c] w fun e w' => e = .returned (.slice A (min n 10) c) ∧ w = w' := by
  have hm := hR.le
  obtain ⟨m, hmd⟩ : ∃ m, m = min n 10 := ⟨_, rfl⟩
  have hmin : (if (10 : Int) < (n : Int) then (10 : Int) else (n : Int)) = (m : Int) := by split <;> omega
  have hmc : m ≤ c := by omega
  obtain ⟨i5, hi5⟩ : ∃ i, Try.prog.info? 51 = some i := ⟨_, rfl⟩
  have hsl := fun W => run_cut (P := Try.prog) 46 51 .i64 Try.underlying46 hi5 A n c m hmc W
  have HM := Lib.hid hmd
  rw [← hmd]
  clear hmd hi5
  go_enter Try.func27, Try.ntmps27
  go_wp2
  go_ret
  exact ⟨rfl, rfl⟩
end Go.Proofs.Ytdabndoojkdicaa
