/- The law TextFirst returns true at each edit and byte, and turns nothing that was there. Condition: the edit's texts have at most 2^47 bytes. -/
import Derived.Test.YtdabndoojkdicaaTextMade
set_option linter.unusedVariables false
set_option linter.unusedSimpArgs false
namespace Go.Proofs.Ytdabndoojkdicaa
open Go.RowKit

theorem editE_long {K : Int} {key : ByteArray} {l : Int} {v : ByteArray} (h : editE K key l v = 0) (h1 : 1 ≤ K) (h2 : K ≤ 5) (hk : keyB key = true) : editE K key l ⟨#[116, 104, 105, 114, 116, 101, 101, 110, 32, 98, 121, 116, 101]⟩ = 12 := by
  by_cases h3 : K ≤ 2
  · rw [edit_bare h1 h3 hk] at h ⊢
    unfold bareE at *
    by_cases hl : (l != 0) = true
    · rw [if_pos hl] at h; cases h
    · rw [if_neg hl, if_pos (by decide +kernel)]
  · rw [edit_full (by omega) h2 hk] at h ⊢
    by_cases hl : labelE l ≠ 0
    · rw [if_pos hl] at h; cases h
    · rw [if_neg hl]; decide +kernel
theorem editE_label {K : Int} {key : ByteArray} (h1 : 1 ≤ K) (h2 : K ≤ 5) (hk : keyB key = true) (v : ByteArray) : editE K key 2 v = 11 := by
  by_cases h3 : K ≤ 2
  · rw [edit_bare h1 h3 hk]
    rfl
  · rw [edit_full (by omega) h2 hk]
    rfl
set_option maxHeartbeats 4000000 in
theorem textFirst_walk (k : Int) (key : ByteArray) (l : Int) (v : ByteArray) (b : Int) (w : World) (hk0 : -9223372036854775808 ≤ k) (hk1 : k ≤ 9223372036854775807)
    (hk : key.size ≤ 140737488351232) (hv : v.size ≤ 140737488351232) (hb0 : 0 ≤ b) (hb1 : b ≤ 255) :
    Calls Try.prog 6 #[.agg #[.int .i64 k, .string key, .int .i64 l, .string v], .int .u8 b] w fun e w' => e = .returned (.bool true) ∧ Below w.heap.size w w' := by
  have good := Lib.hid (fit_good k key l v)
  have hks := fitKey_size key
  have hvs := fitValue_size k v
  have HF := Lib.hid (fun w => fit_any k key l v w hk0 hk1 hk hv)
  obtain ⟨r1, r2⟩ := fitKind_range k
  have hkb := Lib.hid (show keyB (fitKey key) = true from key3_good _)
  generalize fitKind k = K at *
  generalize fitKey key = KEY at *
  generalize fitLabel k l = LAB at *
  generalize fitValue k v = VAL at *
  have e8 : Hid (editE K KEY LAB ⟨#[116, 104, 105, 114, 116, 101, 101, 110, 32, 98, 121, 116, 101]⟩ = 12) := editE_long good.out r1 r2 hkb.out
  have e4 : Hid (∀ val, editE K KEY 2 val = 11) := fun val => editE_label r1 r2 hkb.out val
  have e2 : Hid (∀ lab val, editE K ⟨#[97, 49]⟩ lab val = 10) := fun lab val => by
    unfold editE; rw [if_neg (by omega), if_pos (by decide +kernel)]
  have e10 : Hid (∀ key lab val, editE 0 key lab val = 1) := fun key lab val => by
    unfold editE; rw [if_pos (by omega)]
  have e16 : Hid (∀ key lab val, editE 6 key lab val = 1) := fun key lab val => by
    unfold editE; rw [if_pos (by omega)]
  have hx : bits .and .u8 (b / 16) 1 = 0 ∨ bits .and .u8 (b / 16) 1 = 1 := by
    have h := bits_mask .u8 8 (by decide) wraps_u8 1 (by decide) (b / 16) (by omega) (by omega)
    simp at h
    omega
  cases h8 : (bits .and .u8 b 8 != 0)
  all_goals cases h4 : (bits .and .u8 b 4 != 0)
  all_goals cases h2 : (bits .and .u8 b 2 != 0)
  all_goals cases h1 : (bits .and .u8 b 1 != 0)
  all_goals (try (rcases hx with hx | hx))
  all_goals
    go_enter Try.func6, Try.ntmps6
    go_wp2_with fail
    refine (shown05_any _).mono ?_
    rintro e w1 ⟨rfl, hb⟩
    obtain ⟨hbc, hbf⟩ := bcell hb
    have hbn := below_next (w := w) (by (repeat (first | exact Below.refl _ _ | assumption | (refine Below.drew ?_) | (refine Below.alloc ?_ (by first | omega | (simp; done) | (simp; omega)) _) | (refine Below.setCell ?_ (by first | omega | (simp; done) | (simp; omega)) _)))) hb
    have hbz : w.heap.size < w1.heap.size := by have := hb.size; first | omega | (simp at this; omega)
    go_wp2_with fail
    refine (HF.out _).mono ?_
    rintro e w2 ⟨rfl, hb2⟩
    obtain ⟨hb2c, hb2f⟩ := bcell hb2
    have hb2n := below_next (w := w) (by (repeat (first | exact Below.refl _ _ | assumption | (refine Below.drew ?_) | (refine Below.alloc ?_ (by first | omega | (simp; done) | (simp; omega)) _) | (refine Below.setCell ?_ (by first | omega | (simp; done) | (simp; omega)) _)))) hb2
    have hb2z : w.heap.size < w2.heap.size := by have := hb2.size; first | omega | (simp at this; omega)
    go_wp2_with fail
    refine (edit_any _ _ _ _ _ (by first | decide +kernel | omega) (by first | decide +kernel | omega)).mono ?_
    rintro e w3 ⟨rfl, hb3⟩
    obtain ⟨hb3c, hb3f⟩ := bcell hb3
    have hb3n := below_next (w := w) (by (repeat (first | exact Below.refl _ _ | assumption | (refine Below.drew ?_) | (refine Below.alloc ?_ (by first | omega | (simp; done) | (simp; omega)) _) | (refine Below.setCell ?_ (by first | omega | (simp; done) | (simp; omega)) _)))) hb3
    have hb3z : w.heap.size < w3.heap.size := by have := hb3.size; first | omega | (simp at this; omega)
    first | rw [e10.out] | rw [e16.out] | rw [e2.out] | rw [e4.out] | rw [e8.out] | rw [good.out]
    go_wp2_with fail
    go_ret
    exact ⟨rfl, hb3n⟩
end Go.Proofs.Ytdabndoojkdicaa
