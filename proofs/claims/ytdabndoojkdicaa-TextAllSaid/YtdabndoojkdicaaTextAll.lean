/- The law TextAll returns true at each edit, and turns nothing that was there. Condition: a text's length is an int. -/
import Derived.Test.YtdabndoojkdicaaTextRef
set_option linter.unusedVariables false
set_option linter.unusedSimpArgs false
namespace Go.Proofs.Ytdabndoojkdicaa
open Go.RowKit

set_option maxHeartbeats 1000000 in
theorem textAll_walk (k : Int) (key : ByteArray) (l : Int) (v : ByteArray) (w : World) (hk : key.size ≤ 9223372036854775807) (hv : v.size ≤ 9223372036854775807) :
    Calls Try.prog 5 #[.agg #[.int .i64 k, .string key, .int .i64 l, .string v]] w fun e w' => e = .returned (.bool true) ∧ Below w.heap.size w w' := by
  go_enter Try.func5, Try.ntmps5
  go_wp2_with fail
  refine (shown05_any _).mono ?_
  rintro e w1 ⟨rfl, hb⟩
  obtain ⟨hbc, hbf⟩ := bcell hb
  have hz : w.heap.size < w1.heap.size := by have := hb.size; simp at this; omega
  have hrc := regrown_cell w1
  go_wp2_with fail
  refine wp_region_quiet_below (by kernel_rfl) (by kernel_rfl) ?_
  repeat (any_goals (first | go_big_quiet_step (first | (go_at_call 13; exact Calls.regrown_of (key_any _ _ hk)) | (go_at_call 15; exact regrown_same (rkey_any _ _ hk)) | (go_at_call 16; exact regrown_same (label_any _ _)) | (go_at_call 17; exact regrown_same (rlabel_any _ _)) | (go_at_call 14; exact regrown_same (value_any _ _ hv)) | (go_at_call 18; exact regrown_same (rvalue_any _ _ hv)) | (go_at_call 19; exact Calls.regrown_of (edit_any _ _ _ _ _ hk hv)) | (go_at_call 20; exact Calls.regrown_of (redit_any _ _ _ _ _ hk hv))) | quiet_step (first | (go_at_call 13; exact Calls.regrown_of (key_any _ _ hk)) | (go_at_call 15; exact regrown_same (rkey_any _ _ hk)) | (go_at_call 16; exact regrown_same (label_any _ _)) | (go_at_call 17; exact regrown_same (rlabel_any _ _)) | (go_at_call 14; exact regrown_same (value_any _ _ hv)) | (go_at_call 18; exact regrown_same (rvalue_any _ _ hv)) | (go_at_call 19; exact Calls.regrown_of (edit_any _ _ _ _ _ hk hv)) | (go_at_call 20; exact Calls.regrown_of (redit_any _ _ _ _ _ hk hv)))))
  refine wpQuiet_nil ?_
  intro _ hw'
  obtain ⟨⟨dq, osq⟩, hw''⟩ := hw'
  subst hw''
  go_wp2
  go_ret
  exact ⟨rfl, ((Below.refl _ _).alloc (Nat.le_refl _) _).trans ((hb.mono (by simp)).trans ((below_regrown w1 dq osq).mono (Nat.le_of_lt hz)))⟩
end Go.Proofs.Ytdabndoojkdicaa
