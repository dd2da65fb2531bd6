/- cmp.Compare and cmp.Or of numbers; stamp.Less. No condition. -/
import Derived.Test.YtfbpjhhcpockfaaWords
import Derived.Test.YtfbpjhhcpockfaaCells
import Derived.Test.YtfbpjhhcpockfaaWorld
import Derived.Test.YtfbpjhhcpockfaaOrder
import Derived.Deep.DeepCutAuto
set_option linter.unusedVariables false
set_option linter.unusedSimpArgs false
namespace Go.Proofs.Ytfbpjhhcpockfaa
open Go.RowKit

theorem nan_any (x : Int) (w : World) : Calls Try.prog 77 #[.int .i64 x] w fun e w' => e = .returned (.bool false) ∧ w = w' := by
  go_enter Try.func77, Try.ntmps77
  go_wp2
  go_ret
  exact ⟨ret_bool (by simp), rfl⟩
def cmpI (x y : Int) : Int := if x < y then -1 else if y < x then 1 else 0
theorem cmp_any (x y : Int) (w : World) : Calls Try.prog 62 #[.int .i64 x, .int .i64 y] w fun e w' => e = .returned (.int .i64 (cmpI x y)) ∧ w = w' := by
  go_enter Try.func62, Try.ntmps62
  go_wp2_with fail
  refine (nan_any _ _).mono ?_
  rintro e w' ⟨rfl, rfl⟩
  go_wp2_with fail
  refine (nan_any _ _).mono ?_
  rintro e w' ⟨rfl, rfl⟩
  go_wp2
  all_goals (go_ret; refine ⟨ret_int ?_, rfl⟩; unfold cmpI; (repeat' split) <;> omega)
theorem or_any (b : Nat) (x y : Int) (w : World) (h0 : w.cell? ⟨b, 0, none⟩ = some (.int .i64 x)) (h1 : w.cell? ⟨b, 1, none⟩ = some (.int .i64 y)) :
    Calls Try.prog 61 #[.slice (some ⟨b, 0, none⟩) 2 2] w fun e w' => e = .returned (.int .i64 (if x = 0 then y else x)) ∧ w = w' := by
  go_enter Try.func61, Try.ntmps61
  go_wp2_with fail
  go_loop [5, 8] (fun _ i => i = .int .i64 0 ∨ (i = .int .i64 1 ∧ x = 0) ∨ (i = .int .i64 2 ∧ x = 0 ∧ y = 0)) (fun _ i => 2 - (intOf i).toNat)
  case atStart => exact .inl rfl
  case round =>
    rcases hrel with rfl | ⟨rfl, rfl⟩ | ⟨rfl, rfl, rfl⟩
    · by_cases hx : x = 0
      · subst hx
        go_wp2_with fail
        go_round
        case measure => simp [intOf]
        case rel => exact .inr (.inl (by simp))
      · have hx' : (x != 0) = true := by simpa using hx
        have HX := Lib.hid hx
        clear hx
        go_wp2_with fail
        go_ret
        exact ⟨ret_int (by first | rfl | rw [if_neg HX.out] | simp [HX.out]), rfl⟩
    · by_cases hy : y = 0
      · subst hy
        go_wp2_with fail
        go_round
        case measure => simp [intOf]
        case rel => exact .inr (.inr (by simp))
      · have hy' : (y != 0) = true := by simpa using hy
        clear hy
        go_wp2_with fail
        go_ret
        exact ⟨ret_int (by simp), rfl⟩
    · go_wp2_with fail
      go_ret
      exact ⟨ret_int (by simp), rfl⟩

def lessS (h r h' r' : Int) : Bool := decide (h < h' ∨ (h = h' ∧ r < r'))
theorem cmp_below (x y : Int) (w : World) : Calls Try.prog 62 #[.int .i64 x, .int .i64 y] w fun e w' => e = .returned (.int .i64 (cmpI x y)) ∧ Below w.heap.size w w' :=
  (cmp_any x y w).mono fun _ _ ⟨he, hw⟩ => ⟨he, by rw [← hw]; exact Below.refl _ _⟩
theorem or_below (b : Nat) (x y : Int) (w : World) (h : At w b [.int .i64 x, .int .i64 y]) : Calls Try.prog 61 #[.slice (some ⟨b, 0, none⟩) 2 2] w fun e w' => e = .returned (.int .i64 (if x = 0 then y else x)) ∧ Below w.heap.size w w' :=
  (or_any b x y w (h.cell 0 rfl) (h.cell 1 rfl)).mono fun _ _ ⟨he, hw⟩ => ⟨he, by rw [← hw]; exact Below.refl _ _⟩
attribute [local go_sem] gives Gives
theorem guard73 : Try.prog.eqGuardType Try.prog.depth 73 = false := by kernel_rfl
theorem held73 : Try.prog.stoodInHeld 73 = false := by kernel_rfl
theorem neq_stamp (h r h' r' : Int) (W : World) : (binOp .neq 73 (.agg #[.int .i64 h, .int .i64 r]) (.agg #[.int .i64 h', .int .i64 r'])).run Try.prog W = .ok (.bool (!(decide (h = h') && decide (r = r')))) W := by
  have h1 := guard73
  have h2 := held73
  by_cases e1 : h = h' <;> by_cases e2 : r = r' <;> simp [go_sem, h1, h2, e1, e2]
set_option maxRecDepth 20000 in
set_option maxHeartbeats 4000000 in
theorem less_any (x y x' y' : Int) (w : World) : Calls Try.prog 51 #[.agg #[.int .i64 x, .int .i64 y], .agg #[.int .i64 x', .int .i64 y']] w fun e w' => e = .returned (.bool (lessS x y x' y')) ∧ Below w.heap.size w w' := by
  have hne := fun W => neq_stamp x y x' y' W
  obtain ⟨d, hd⟩ : ∃ d, d = (!(decide (x = x') && decide (y = y'))) := ⟨_, rfl⟩
  rw [← hd] at hne
  have HD := Lib.hid hd
  clear hd
  have hF : ∀ W1, W1 = (w.alloc (.cells #[.int .i64 x, .int .i64 y] 73)).alloc (.cells #[.int .i64 x', .int .i64 y'] 73) →
      At W1 w.heap.size [.int .i64 x, .int .i64 y] ∧ At W1 (w.heap.size + 1) [.int .i64 x', .int .i64 y'] ∧ Below w.heap.size w W1 := by
    rintro W1 rfl
    refine ⟨(At.new w _ _).alloc _, ?_, ((Below.refl w.heap.size w).alloc (Nat.le_refl _) _).alloc (by simp) _⟩
    have := At.new (w.alloc (.cells #[.int .i64 x, .int .i64 y] 73)) #[.int .i64 x', .int .i64 y'] 73
    simpa using this
  go_enter Try.func51, Try.ntmps51
  go_upto_region 1 with (fail)
  refine wp_world (fun W1 => At W1 w.heap.size [.int .i64 x, .int .i64 y] ∧ At W1 (w.heap.size + 1) [.int .i64 x', .int .i64 y'] ∧ Below w.heap.size w W1) (hF _ rfl) ?_
  clear hF
  rintro W ⟨h1, h2, hbW⟩
  have l1 := h1.lt
  have l2 := h2.lt
  have u0 := h1.cell 0 rfl
  have u1 := h1.cell 1 rfl
  have v0 := h2.cell 0 rfl
  have v1 := h2.cell 1 rfl
  have HB := Lib.hid hbW
  have hrc := regrown_cell W
  clear h1 h2 hbW
  cases d
  · refine wp_region_line 18 (by kernel_rfl) (by kernel_rfl) ?_
    repeat (apply line_fix; (case now => (intro vs w' R hG hn hR; have hR' := Lib.hid hR; clear hR hn; obtain ⟨⟨dq, osq⟩, rfl⟩ := regrown_of_below hG; clear hG; go_simp; exact hR'.out _ (Below.refl _ _))); (case hangs => exact fun _ _ _ => rfl); (case hR => exact fun _ _ => ⟨_, Below.refl _ _⟩); (try simp only [Act.put, List.setIfInBounds_toArray, List.set_cons_zero, List.set_cons_succ]))
    refine line_last (fun vs w9 hG _ => ?_)
    replace hG : Below _ _ _ := hG
    have HG := Lib.hid (below_next HB.out hG)
    clear hrc hG
    go_wp2_with fail
    go_ret
    refine ⟨ret_bool ?_, HG.out⟩
    have := HD.out
    unfold lessS
    simp at this
    simp; omega
  · refine wp_region_line 18 (by kernel_rfl) (by kernel_rfl) ?_
    apply line_fix
    case now => (intro vs w' R hG hn hR; have hR' := Lib.hid hR; clear hR hn; obtain ⟨⟨dq, osq⟩, rfl⟩ := regrown_of_below hG; clear hG; go_simp; exact hR'.out _ (Below.refl _ _))
    case hangs => exact fun _ _ _ => rfl
    case hR => exact fun _ _ => ⟨_, Below.refl _ _⟩
    (try simp only [Act.put, List.setIfInBounds_toArray, List.set_cons_zero, List.set_cons_succ])
    apply line_fix
    case now => (intro vs w' R hG hn hR; have hR' := Lib.hid hR; clear hR hn; obtain ⟨⟨dq, osq⟩, rfl⟩ := regrown_of_below hG; clear hG; go_simp; exact hR'.out _ (Below.refl _ _))
    case hangs => exact fun _ _ _ => rfl
    case hR => exact fun _ _ => ⟨_, Below.refl _ _⟩
    (try simp only [Act.put, List.setIfInBounds_toArray, List.set_cons_zero, List.set_cons_succ])
    apply line_fix
    case now => (intro vs w' R hG hn hR; have hR' := Lib.hid hR; clear hR hn; obtain ⟨⟨dq, osq⟩, rfl⟩ := regrown_of_below hG; clear hG; go_simp; exact hR'.out _ (Below.refl _ _))
    case hangs => exact fun _ _ _ => rfl
    case hR => exact fun _ _ => ⟨_, Below.refl _ _⟩
    (try simp only [Act.put, List.setIfInBounds_toArray, List.set_cons_zero, List.set_cons_succ])
    apply line_fix
    case now => (intro vs w' R hG hn hR; have hR' := Lib.hid hR; clear hR hn; obtain ⟨⟨dq, osq⟩, rfl⟩ := regrown_of_below hG; clear hG; go_simp; exact hR'.out _ (Below.refl _ _))
    case hangs => exact fun _ _ _ => rfl
    case hR => exact fun _ _ => ⟨_, Below.refl _ _⟩
    (try simp only [Act.put, List.setIfInBounds_toArray, List.set_cons_zero, List.set_cons_succ])
    apply line_fix
    case now => (intro vs w' R hG hn hR; have hR' := Lib.hid hR; clear hR hn; obtain ⟨⟨dq, osq⟩, rfl⟩ := regrown_of_below hG; clear hG; go_simp; exact hR'.out _ (Below.refl _ _))
    case hangs => exact fun _ _ _ => rfl
    case hR => exact fun _ _ => ⟨_, Below.refl _ _⟩
    (try simp only [Act.put, List.setIfInBounds_toArray, List.set_cons_zero, List.set_cons_succ])
    apply line_fix
    case now => (intro vs w' R hG hn hR; have hR' := Lib.hid hR; clear hR hn; obtain ⟨⟨dq, osq⟩, rfl⟩ := regrown_of_below hG; clear hG; go_simp; exact hR'.out _ (Below.refl _ _))
    case hangs => exact fun _ _ _ => rfl
    case hR => exact fun _ _ => ⟨_, Below.refl _ _⟩
    (try simp only [Act.put, List.setIfInBounds_toArray, List.set_cons_zero, List.set_cons_succ])
    apply line_fix
    case now => (intro vs w' R hG hn hR; have hR' := Lib.hid hR; clear hR hn; obtain ⟨⟨dq, osq⟩, rfl⟩ := regrown_of_below hG; clear hG; go_simp; exact hR'.out _ (Below.refl _ _))
    case hangs => exact fun _ _ _ => rfl
    case hR => exact fun _ _ => ⟨_, Below.refl _ _⟩
    (try simp only [Act.put, List.setIfInBounds_toArray, List.set_cons_zero, List.set_cons_succ])
    apply line_fix
    case now => (intro vs w' R hG hn hR; have hR' := Lib.hid hR; clear hR hn; obtain ⟨⟨dq, osq⟩, rfl⟩ := regrown_of_below hG; clear hG; go_simp; exact hR'.out _ (Below.refl _ _))
    case hangs => exact fun _ _ _ => rfl
    case hR => exact fun _ _ => ⟨_, Below.refl _ _⟩
    (try simp only [Act.put, List.setIfInBounds_toArray, List.set_cons_zero, List.set_cons_succ])
    apply line_fix
    case now => (intro vs w' R hG hn hR; have hR' := Lib.hid hR; have hn' := Lib.hid hn; clear hR hn; replace hG : Below _ _ _ := hG; skip; go_simp; refine (cmp_below _ _ _).mono ?_; rintro e w'' ⟨rfl, hb⟩; exact ⟨_, rfl, hR'.out _ hb⟩)
    case hangs => exact fun _ _ _ => rfl
    case hR => exact fun _ _ => ⟨_, Below.refl _ _⟩
    (try simp only [Act.put, List.setIfInBounds_toArray, List.set_cons_zero, List.set_cons_succ])
    apply line_fix
    case now => (intro vs w' R hG hn hR; have hR' := Lib.hid hR; clear hR hn; obtain ⟨⟨dq, osq⟩, rfl⟩ := regrown_of_below hG; clear hG; go_simp; exact hR'.out _ (Below.refl _ _))
    case hangs => exact fun _ _ _ => rfl
    case hR => exact fun _ _ => ⟨_, Below.refl _ _⟩
    (try simp only [Act.put, List.setIfInBounds_toArray, List.set_cons_zero, List.set_cons_succ])
    apply line_fix
    case now => (intro vs w' R hG hn hR; have hR' := Lib.hid hR; clear hR hn; obtain ⟨⟨dq, osq⟩, rfl⟩ := regrown_of_below hG; clear hG; go_simp; exact hR'.out _ (Below.refl _ _))
    case hangs => exact fun _ _ _ => rfl
    case hR => exact fun _ _ => ⟨_, Below.refl _ _⟩
    (try simp only [Act.put, List.setIfInBounds_toArray, List.set_cons_zero, List.set_cons_succ])
    apply line_fix
    case now => (intro vs w' R hG hn hR; have hR' := Lib.hid hR; clear hR hn; obtain ⟨⟨dq, osq⟩, rfl⟩ := regrown_of_below hG; clear hG; go_simp; exact hR'.out _ (Below.refl _ _))
    case hangs => exact fun _ _ _ => rfl
    case hR => exact fun _ _ => ⟨_, Below.refl _ _⟩
    (try simp only [Act.put, List.setIfInBounds_toArray, List.set_cons_zero, List.set_cons_succ])
    apply line_fix
    case now => (intro vs w' R hG hn hR; have hR' := Lib.hid hR; clear hR hn; obtain ⟨⟨dq, osq⟩, rfl⟩ := regrown_of_below hG; clear hG; go_simp; exact hR'.out _ (Below.refl _ _))
    case hangs => exact fun _ _ _ => rfl
    case hR => exact fun _ _ => ⟨_, Below.refl _ _⟩
    (try simp only [Act.put, List.setIfInBounds_toArray, List.set_cons_zero, List.set_cons_succ])
    apply line_fix
    case now => (intro vs w' R hG hn hR; have hR' := Lib.hid hR; have hn' := Lib.hid hn; clear hR hn; replace hG : Below _ _ _ := hG; skip; go_simp; refine (cmp_below _ _ _).mono ?_; rintro e w'' ⟨rfl, hb⟩; exact ⟨_, rfl, hR'.out _ hb⟩)
    case hangs => exact fun _ _ _ => rfl
    case hR => exact fun _ _ => ⟨_, Below.refl _ _⟩
    (try simp only [Act.put, List.setIfInBounds_toArray, List.set_cons_zero, List.set_cons_succ])
    apply line_var (Φ := fun _ v w => ∃ g, v = .slice (some ⟨g, 0, none⟩) 2 2 ∧ At w g [.int .i64 (cmpI x x'), .int .i64 (cmpI y y')])
    case keep => (rintro _ v w w' ⟨g, e, h⟩ hb; exact ⟨g, e, h.next hb⟩)
    case hangs => exact fun _ _ _ => rfl
    case now => (intro vs w' R hG hn hR; have hR' := Lib.hid hR; have hn' := Lib.hid hn; clear hR hn; replace hG : Below _ _ _ := hG; refine ⟨rfl, ?_⟩; go_simp; exact hR'.out _ _ ⟨_, rfl, At.new _ _ _⟩ ((Below.refl _ _).alloc (Nat.le_refl _) _))
    (try simp only [Act.put, List.setIfInBounds_toArray, List.set_cons_zero, List.set_cons_succ])
    apply line_fix
    case now => (intro vs w' R hG hn hR; have hR' := Lib.hid hR; have hn' := Lib.hid hn; clear hR hn; replace hG : Below _ _ _ := hG; obtain ⟨gb, e8, a8⟩ := hn'.out.1 (by kernel_rfl); dsimp only at e8; go_simp; refine (or_below gb _ _ _ a8).mono ?_; rintro e w'' ⟨rfl, hb⟩; exact ⟨_, rfl, hR'.out _ hb⟩)
    case hangs => exact fun _ _ _ => rfl
    case hR => exact fun _ _ => ⟨_, Below.refl _ _⟩
    (try simp only [Act.put, List.setIfInBounds_toArray, List.set_cons_zero, List.set_cons_succ])
    apply line_fix
    case now => (intro vs w' R hG hn hR; have hR' := Lib.hid hR; clear hR hn; obtain ⟨⟨dq, osq⟩, rfl⟩ := regrown_of_below hG; clear hG; go_simp; exact hR'.out _ (Below.refl _ _))
    case hangs => exact fun _ _ _ => rfl
    case hR => exact fun _ _ => ⟨_, Below.refl _ _⟩
    (try simp only [Act.put, List.setIfInBounds_toArray, List.set_cons_zero, List.set_cons_succ])
    apply line_fix
    case now => (intro vs w' R hG hn hR; have hR' := Lib.hid hR; clear hR hn; obtain ⟨⟨dq, osq⟩, rfl⟩ := regrown_of_below hG; clear hG; go_simp; exact hR'.out _ (Below.refl _ _))
    case hangs => exact fun _ _ _ => rfl
    case hR => exact fun _ _ => ⟨_, Below.refl _ _⟩
    (try simp only [Act.put, List.setIfInBounds_toArray, List.set_cons_zero, List.set_cons_succ])
    refine line_last (fun vs w9 hG _ => ?_)
    replace hG : Below _ _ _ := hG
    have HG := Lib.hid (below_next HB.out hG)
    clear hrc hG
    go_wp2_with fail
    all_goals
      go_ret
      refine ⟨ret_bool ?_, HG.out⟩
      have := HD.out
      unfold lessS cmpI at *
      simp at this
      repeat' split at *
      all_goals (first | (simp at *; omega) | (exfalso; omega) | (simp; omega))
end Go.Proofs.Ytfbpjhhcpockfaa
