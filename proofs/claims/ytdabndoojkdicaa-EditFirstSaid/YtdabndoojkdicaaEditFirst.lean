/- The law EditFirst returns true at each config, contacts and edit, and turns nothing that was there. Conditions: a text's length is an int; the contacts are read as RdCons tells. -/
import Derived.Test.YtdabndoojkdicaaConfig
set_option linter.unusedVariables false
set_option linter.unusedSimpArgs false
namespace Go.Proofs.Ytdabndoojkdicaa
open Go.RowKit

theorem check_told {cL cP : Int} {L : List Con} {k : Int} {key : ByteArray} {l : Int} {v : ByteArray} (h : editE k key l v ≠ 0) : checkE cL cP L k key l v = editE k key l v := by
  unfold checkE
  rw [if_pos h]
theorem check_five {cL cP : Int} {L : List Con} {k : Int} {key : ByteArray} {l : Int} {v : ByteArray} (h : editE k key l v = 0) :
    checkE cL cP L k key l v = 0 ∨ checkE cL cP L k key l v = 13 ∨ checkE cL cP L k key l v = 14 ∨ checkE cL cP L k key l v = 15 ∨ checkE cL cP L k key l v = 16 := by
  unfold checkE
  rw [if_neg (by simp [h])]
  unfold createE
  cases L.find? (sameK key) <;> (dsimp only; repeat' split) <;> simp

set_option maxHeartbeats 8000000 in
theorem editFirst_walk (cf : Cfg) (A : Option Addr) (n c : Nat) (L : List Con) (k : Int) (key : ByteArray) (l : Int) (v : ByteArray) (w : World) (hR : RdCons w A n L) (hc : n ≤ c)
    (hk : key.size ≤ 9223372036854775807) (hv : v.size ≤ 9223372036854775807) :
    Calls Try.prog 11 #[cf.val, .slice A n c, .agg #[.int .i64 k, .string key, .int .i64 l, .string v]] w fun e w' => e = .returned (.bool true) ∧ Below w.heap.size w w' := by
  obtain ⟨cN, cW, cQ, cH, cL, cP⟩ := cf
  unfold Cfg.val
  dsimp only
  have HE := Lib.hid (fun w => redit_any k key l v w hk hv)
  have HF := Lib.hid (fun (w2 : World) (hb : Below w.heap.size w w2) => few11_any A n c L w2 (hR.below hb) hc)
  have HC := Lib.hid (fun (w2 : World) (hb : Below w.heap.size w w2) => check_any cN cW cQ cH cL cP A (min n 10) c (L.take 10) k key l v w2 (by have := ((hR.below hb).take_ (min n 10) (by omega)); rwa [show L.take (min n 10) = L.take 10 by rw [← hR.length]; rw [List.take_eq_take_iff]; omega] at this) hk hv)
  by_cases h0 : editE k key l v = 0
  · have h5 := check_five (cL := cL) (cP := cP) (L := L.take 10) h0
    rw [h0] at HE
    generalize checkE cL cP (L.take 10) k key l v = g at HC h5
    clear h0 hR hc hk hv
    rcases h5 with rfl | rfl | rfl | rfl | rfl <;>
    · go_enter Try.func11, Try.ntmps11
      go_wp2_with fail
      refine (shown11_any _).mono ?_
      rintro e w1 ⟨rfl, hb1⟩
      obtain ⟨hb1c, hb1f⟩ := bcell hb1
      have hb1n := below_next (w := w) (by (repeat (first | exact Below.refl _ _ | assumption | (refine Below.drew ?_) | (refine below_drewN ?_ _) | (refine Below.alloc ?_ (by first | omega | (simp; done) | (simp; omega)) _) | (refine Below.setCell ?_ (by first | omega | (simp; done) | (simp; omega)) _)))) hb1
      have hb1z : w.heap.size < w1.heap.size := by have := hb1.size; first | omega | (simp at this; omega)
      go_wp2_with fail
      have z1 : w.heap.size + 1 < w1.heap.size := by have := hb1.size; first | omega | (simp at this; omega)
      refine (HE.out _).mono ?_
      rintro e w1' ⟨rfl, hb1'⟩
      obtain ⟨hb1'c, hb1'f⟩ := bcell hb1'
      have hb1'n := below_next (w := w) (by (repeat (first | exact Below.refl _ _ | assumption | (refine Below.drew ?_) | (refine below_drewN ?_ _) | (refine Below.alloc ?_ (by first | omega | (simp; done) | (simp; omega)) _) | (refine Below.setCell ?_ (by first | omega | (simp; done) | (simp; omega)) _)))) hb1'
      have hb1'z : w.heap.size < w1'.heap.size := by have := hb1'.size; first | omega | (simp at this; omega)
      go_wp2_with fail
      have y1 : w.heap.size + 1 < w1'.heap.size := by have := hb1'.size; first | omega | (simp at this; omega)
      have hrc := fun w2 => regrown_cell w2
      go_wp2_with fail
      refine wp_region_quiet_below (by kernel_rfl) (by kernel_rfl) ?_
      repeat (any_goals (first | go_big_quiet_step (first | (go_at_call 26; exact Calls.regrown_of (HC.out _ (below_next hb1'n (below_regrown _ _ _)))) | (go_at_call 27; exact regrown_same (HF.out _ (below_next hb1'n (below_regrown _ _ _))))) | quiet_step (first | (go_at_call 26; exact Calls.regrown_of (HC.out _ (below_next hb1'n (below_regrown _ _ _)))) | (go_at_call 27; exact regrown_same (HF.out _ (below_next hb1'n (below_regrown _ _ _)))))))
      refine wpQuiet_nil ?_
      intro _ hw'
      obtain ⟨⟨dq, osq⟩, hw''⟩ := hw'
      subst hw''
      go_wp2_with fail
      go_ret
      exact ⟨rfl, (below_next (w := w) (by (repeat (first | exact Below.refl _ _ | assumption | (refine Below.drew ?_) | (refine below_drewN ?_ _) | (refine Below.alloc ?_ (by first | omega | (simp; done) | (simp; omega)) _) | (refine Below.setCell ?_ (by first | omega | (simp; done) | (simp; omega)) _)))) (below_regrown _ dq osq))⟩
  · have hc' := check_told (cL := cL) (cP := cP) (L := L.take 10) h0
    rw [hc'] at HC
    generalize editE k key l v = g at *
    have ne : (g == 0) = false := by simpa using h0
    have ns : (g == g) = true := by simp
    have nf : (g != 0) = true := by simpa using h0
    have NE := Lib.hid ne
    clear h0 hc' hR hc hk hv
    go_enter Try.func11, Try.ntmps11
    go_wp2_with fail
    refine (shown11_any _).mono ?_
    rintro e w1 ⟨rfl, hb1⟩
    obtain ⟨hb1c, hb1f⟩ := bcell hb1
    have hb1n := below_next (w := w) (by (repeat (first | exact Below.refl _ _ | assumption | (refine Below.drew ?_) | (refine below_drewN ?_ _) | (refine Below.alloc ?_ (by first | omega | (simp; done) | (simp; omega)) _) | (refine Below.setCell ?_ (by first | omega | (simp; done) | (simp; omega)) _)))) hb1
    have hb1z : w.heap.size < w1.heap.size := by have := hb1.size; first | omega | (simp at this; omega)
    go_wp2_with fail
    have z1 : w.heap.size + 1 < w1.heap.size := by have := hb1.size; first | omega | (simp at this; omega)
    refine (HE.out _).mono ?_
    rintro e w1' ⟨rfl, hb1'⟩
    obtain ⟨hb1'c, hb1'f⟩ := bcell hb1'
    have hb1'n := below_next (w := w) (by (repeat (first | exact Below.refl _ _ | assumption | (refine Below.drew ?_) | (refine below_drewN ?_ _) | (refine Below.alloc ?_ (by first | omega | (simp; done) | (simp; omega)) _) | (refine Below.setCell ?_ (by first | omega | (simp; done) | (simp; omega)) _)))) hb1'
    have hb1'z : w.heap.size < w1'.heap.size := by have := hb1'.size; first | omega | (simp at this; omega)
    go_wp2_with fail
    have y1 : w.heap.size + 1 < w1'.heap.size := by have := hb1'.size; first | omega | (simp at this; omega)
    have hrc := fun w2 => regrown_cell w2
    go_wp2_with fail
    refine wp_region_quiet_below (by kernel_rfl) (by kernel_rfl) ?_
    repeat (any_goals (first | go_big_quiet_step (first | (go_at_call 26; exact Calls.regrown_of (HC.out _ (below_next hb1'n (below_regrown _ _ _)))) | (go_at_call 27; exact regrown_same (HF.out _ (below_next hb1'n (below_regrown _ _ _))))) | quiet_step (first | (go_at_call 26; exact Calls.regrown_of (HC.out _ (below_next hb1'n (below_regrown _ _ _)))) | (go_at_call 27; exact regrown_same (HF.out _ (below_next hb1'n (below_regrown _ _ _)))))))
    refine wpQuiet_nil ?_
    intro _ hw'
    obtain ⟨⟨dq, osq⟩, hw''⟩ := hw'
    subst hw''
    go_wp2_with fail
    go_ret
    exact ⟨rfl, (below_next (w := w) (by (repeat (first | exact Below.refl _ _ | assumption | (refine Below.drew ?_) | (refine below_drewN ?_ _) | (refine Below.alloc ?_ (by first | omega | (simp; done) | (simp; omega)) _) | (refine Below.setCell ?_ (by first | omega | (simp; done) | (simp; omega)) _)))) (below_regrown _ dq osq))⟩
end Go.Proofs.Ytdabndoojkdicaa
