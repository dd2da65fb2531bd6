/- The law TextValues returns true at all bytes, and turns nothing that was there. No condition. -/
import Derived.Test.YtdabndoojkdicaaTextRef
import Derived.Test.YtdabndoojkdicaaSlices
set_option linter.unusedVariables false
set_option linter.unusedSimpArgs false
namespace Go.Proofs.Ytdabndoojkdicaa
open Go.RowKit

set_option maxHeartbeats 1000000 in
theorem textValues_walk (A : Option Addr) (len cap : Nat) (xs : List Int) (w : World) (hR : Rd w A len 1 (nums .u8 xs)) :
    Calls Try.prog 4 #[.slice A len cap] w fun e w' => e = .returned (.bool true) ∧ Below w.heap.size w w' := by
  have hl : xs.length = len := by have := hR.1; simpa [nums] using this
  have hm := hR.2.1
  have hsz : (strOfNums xs).size = len := by rw [strOfNums_size, hl]
  have HS := Lib.hid hsz
  have HR := Lib.hid hR
  clear hsz hR
  by_cases h0 : len = 0
  · have hv := Lib.hid (show valueE (strOfNums xs) = 12 by unfold valueE; rw [HS.out, if_neg (by omega)])
    have g0 : ((len : Int) == 0) = true := by simp; omega
    have hl0 := Lib.hid hl
    clear hl h0
    go_enter Try.func4, Try.ntmps4
    go_wp2_with fail
    refine (shown05_any _).mono ?_
    rintro e w1 ⟨rfl, hb⟩
    obtain ⟨hbc, hbf⟩ := bcell hb
    have hcv := run_string (P := Try.prog) 22 9 5 Try.underlying22 Try.underlying5 Try.underlying9 (c := cap) (HR.out.below hb)
    go_wp2_with fail
    refine (value_any _ _ (by rw [HS.out]; exact hm)).mono ?_
    rintro e w' ⟨rfl, rfl⟩
    rw [hv.out]
    go_wp2_with fail
    go_ret
    exact ⟨rfl, hb⟩
  · have g0 : ((len : Int) == 0) = false := by simp; omega
    by_cases h12 : 12 < len
    · have hv := Lib.hid (show valueE (strOfNums xs) = 12 by unfold valueE; rw [HS.out, if_neg (by omega)])
      have hl0 := Lib.hid hl
      clear hl
      go_enter Try.func4, Try.ntmps4
      go_wp2_with fail
      refine (shown05_any _).mono ?_
      rintro e w1 ⟨rfl, hb⟩
      obtain ⟨hbc, hbf⟩ := bcell hb
      have hcv := run_string (P := Try.prog) 22 9 5 Try.underlying22 Try.underlying5 Try.underlying9 (c := cap) (HR.out.below hb)
      go_wp2_with fail
      refine (value_any _ _ (by rw [HS.out]; exact hm)).mono ?_
      rintro e w' ⟨rfl, rfl⟩
      rw [hv.out]
      go_wp2_with fail
      go_ret
      exact ⟨rfl, hb⟩
    · have hv := Lib.hid (show valueE (strOfNums xs) = 0 by unfold valueE; rw [HS.out, if_pos (by omega)])
      have hl0 := Lib.hid hl
      clear hl
      go_enter Try.func4, Try.ntmps4
      go_wp2_with fail
      refine (shown05_any _).mono ?_
      rintro e w1 ⟨rfl, hb⟩
      obtain ⟨hbc, hbf⟩ := bcell hb
      have hcv := run_string (P := Try.prog) 22 9 5 Try.underlying22 Try.underlying5 Try.underlying9 (c := cap) (HR.out.below hb)
      go_wp2_with fail
      refine (value_any _ _ (by rw [HS.out]; exact hm)).mono ?_
      rintro e w' ⟨rfl, rfl⟩
      rw [hv.out]
      go_wp2_with fail
      go_ret
      exact ⟨rfl, hb⟩
end Go.Proofs.Ytdabndoojkdicaa
