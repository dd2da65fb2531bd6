/- The law TextMade returns true at each edit, label and value, and turns nothing that was there. Condition: the edit's texts have at most 2^47 bytes. -/
import Derived.Test.YtdabndoojkdicaaTextRef
import Derived.Test.YtdabndoojkdicaaFit
set_option linter.unusedVariables false
set_option linter.unusedSimpArgs false
namespace Go.Proofs.Ytdabndoojkdicaa
open Go.RowKit

theorem key3_good (n : Nat) : keyB (key3 n) = true := by
  unfold key3
  split <;> try split
  all_goals decide +kernel
theorem val4_size (n : Nat) : 1 ≤ (val4 n).size ∧ (val4 n).size ≤ 12 := by
  unfold val4
  split <;> try split <;> try split
  all_goals decide +kernel
theorem fitKey_size (key : ByteArray) : (fitKey key).size ≤ 3 := by
  unfold fitKey key3
  split <;> try split
  all_goals decide +kernel
theorem fitValue_size (k : Int) (v : ByteArray) : (fitValue k v).size ≤ 12 := by
  unfold fitValue
  split
  · decide +kernel
  · exact (val4_size _).2
/-- An edit that 'Fit' made may be. -/
theorem fit_good (k : Int) (key : ByteArray) (l : Int) (v : ByteArray) : editE (fitKind k) (fitKey key) (fitLabel k l) (fitValue k v) = 0 := by
  obtain ⟨h1, h2⟩ := fitKind_range k
  have h3 : keyB (fitKey key) = true := key3_good _
  unfold editE
  rw [if_neg (by omega), if_neg (by rw [h3]; decide)]
  by_cases h : fitKind k ≤ 2
  · rw [if_pos h]
    have e1 : fitLabel k l = 0 := by unfold fitLabel; rw [if_pos h]
    have e2 : fitValue k v = ⟨#[]⟩ := by unfold fitValue; rw [if_pos h]
    rw [e1, e2]
    decide +kernel
  · have e1 : labelE (fitLabel k l) = 0 := by unfold fitLabel labelE; rw [if_neg h, if_pos (by omega)]
    have e2 : valueE (fitValue k v) = 0 := by
      unfold fitValue valueE
      rw [if_neg h, if_pos (val4_size _)]
    rw [if_neg h, e1, e2]
    rfl
/-- What may be done with a kind and a key that may. -/
theorem edit_bare {K : Int} {key : ByteArray} (h1 : 1 ≤ K) (h2 : K ≤ 2) (hk : keyB key = true) (l : Int) (v : ByteArray) : editE K key l v = bareE l v := by
  unfold editE
  rw [if_neg (by omega), if_neg (by rw [hk]; decide), if_pos h2]
theorem edit_full {K : Int} {key : ByteArray} (h1 : 3 ≤ K) (h2 : K ≤ 5) (hk : keyB key = true) (l : Int) (v : ByteArray) : editE K key l v = if labelE l ≠ 0 then 11 else valueE v := by
  unfold editE
  rw [if_neg (by omega), if_neg (by rw [hk]; decide), if_neg (by omega)]

set_option maxHeartbeats 2000000 in
theorem textMade_walk (k : Int) (key : ByteArray) (l : Int) (v : ByteArray) (lab : Int) (val : ByteArray) (w : World) (hk0 : -9223372036854775808 ≤ k) (hk1 : k ≤ 9223372036854775807)
    (hk : key.size ≤ 140737488351232) (hv : v.size ≤ 140737488351232) (hval : val.size ≤ 9223372036854775807) :
    Calls Try.prog 7 #[.agg #[.int .i64 k, .string key, .int .i64 l, .string v], .int .i64 lab, .string val] w fun e w' => e = .returned (.bool true) ∧ Below w.heap.size w w' := by
  have good := Lib.hid (fit_good k key l v)
  have hks := fitKey_size key
  have hvs := fitValue_size k v
  have HF := Lib.hid (fun w => fit_any k key l v w hk0 hk1 hk hv)
  obtain ⟨r1, r2⟩ := fitKind_range k
  have hkb := Lib.hid (show keyB (fitKey key) = true from key3_good _)
  generalize fitKind k = K at *
  generalize fitKey key = KEY at *
  generalize fitLabel k l = LAB at *
  generalize fitValue k v = VAL at *
  have he := Lib.hid (empty_iff val)
  by_cases hv0 : val.size = 0
  · have g : val.toList.isEmpty = true := by rw [he.out]; simp [hv0]
    have G := Lib.hid g
    have hval1 : ¬ 1 ≤ val.size := by omega
    have HV := Lib.hid (show valueE val = 12 by unfold valueE; rw [if_neg (by omega)])
    clear hv0
    by_cases hK : K ≤ 2
    · have hy := Lib.hid (edit_bare r1 hK hkb.out lab val)
      have hK' : K = 1 ∨ K = 2 := by omega
      by_cases hl : lab = 0
      · subst hl
        rcases hK' with rfl | rfl
        all_goals
          have hy' := Lib.hid (show editE _ KEY 0 val = 0 by rw [hy.out]; simp [bareE, G.out])
          go_enter Try.func7, Try.ntmps7
          go_wp2_with fail
          refine (shown05_any _).mono ?_
          rintro e w1 ⟨rfl, hb⟩
          obtain ⟨hbc, hbf⟩ := bcell hb
          have hbn := below_next (w := w) (by (repeat (first | exact Below.refl _ _ | assumption | (refine Below.drew ?_) | (refine below_drewN ?_ _) | (refine Below.alloc ?_ (by first | omega | (simp; done) | (simp; omega)) _) | (refine Below.setCell ?_ (by first | omega | (simp; done) | (simp; omega)) _)))) hb
          have hbz : w.heap.size < w1.heap.size := by have := hb.size; first | omega | (simp at this; omega)
          go_wp2_with fail
          refine (HF.out _).mono ?_
          rintro e w2 ⟨rfl, hb2⟩
          obtain ⟨hb2c, hb2f⟩ := bcell hb2
          have hb2n := below_next (w := w) (by (repeat (first | exact Below.refl _ _ | assumption | (refine Below.drew ?_) | (refine below_drewN ?_ _) | (refine Below.alloc ?_ (by first | omega | (simp; done) | (simp; omega)) _) | (refine Below.setCell ?_ (by first | omega | (simp; done) | (simp; omega)) _)))) hb2
          have hb2z : w.heap.size < w2.heap.size := by have := hb2.size; first | omega | (simp at this; omega)
          go_wp2_with fail
          refine (edit_any _ _ _ _ _ (by omega) (by omega)).mono ?_
          rintro e w3 ⟨rfl, hb3⟩
          obtain ⟨hb3c, hb3f⟩ := bcell hb3
          have hb3n := below_next (w := w) (by (repeat (first | exact Below.refl _ _ | assumption | (refine Below.drew ?_) | (refine below_drewN ?_ _) | (refine Below.alloc ?_ (by first | omega | (simp; done) | (simp; omega)) _) | (refine Below.setCell ?_ (by first | omega | (simp; done) | (simp; omega)) _)))) hb3
          have hb3z : w.heap.size < w3.heap.size := by have := hb3.size; first | omega | (simp at this; omega)
          rw [good.out]
          have hz3 : w2.heap.size + 1 < w3.heap.size := by have := hb3.size; simp at this; omega
          go_wp2_with fail
          refine (edit_any _ _ _ _ _ (by omega) (by omega)).mono ?_
          rintro e w4 ⟨rfl, hb4⟩
          obtain ⟨hb4c, hb4f⟩ := bcell hb4
          have hb4n := below_next (w := w) (by (repeat (first | exact Below.refl _ _ | assumption | (refine Below.drew ?_) | (refine below_drewN ?_ _) | (refine Below.alloc ?_ (by first | omega | (simp; done) | (simp; omega)) _) | (refine Below.setCell ?_ (by first | omega | (simp; done) | (simp; omega)) _)))) hb4
          have hb4z : w.heap.size < w4.heap.size := by have := hb4.size; first | omega | (simp at this; omega)
          rw [hy'.out]
          go_wp2_with fail
          go_ret
          exact ⟨rfl, hb4n⟩
      · have hl0 : (lab == 0) = false := by simpa using hl
        rcases hK' with rfl | rfl
        all_goals
          have hy' := Lib.hid (show editE _ KEY lab val = 11 by rw [hy.out]; simp [bareE, hl])
          go_enter Try.func7, Try.ntmps7
          go_wp2_with fail
          refine (shown05_any _).mono ?_
          rintro e w1 ⟨rfl, hb⟩
          obtain ⟨hbc, hbf⟩ := bcell hb
          have hbn := below_next (w := w) (by (repeat (first | exact Below.refl _ _ | assumption | (refine Below.drew ?_) | (refine below_drewN ?_ _) | (refine Below.alloc ?_ (by first | omega | (simp; done) | (simp; omega)) _) | (refine Below.setCell ?_ (by first | omega | (simp; done) | (simp; omega)) _)))) hb
          have hbz : w.heap.size < w1.heap.size := by have := hb.size; first | omega | (simp at this; omega)
          go_wp2_with fail
          refine (HF.out _).mono ?_
          rintro e w2 ⟨rfl, hb2⟩
          obtain ⟨hb2c, hb2f⟩ := bcell hb2
          have hb2n := below_next (w := w) (by (repeat (first | exact Below.refl _ _ | assumption | (refine Below.drew ?_) | (refine below_drewN ?_ _) | (refine Below.alloc ?_ (by first | omega | (simp; done) | (simp; omega)) _) | (refine Below.setCell ?_ (by first | omega | (simp; done) | (simp; omega)) _)))) hb2
          have hb2z : w.heap.size < w2.heap.size := by have := hb2.size; first | omega | (simp at this; omega)
          go_wp2_with fail
          refine (edit_any _ _ _ _ _ (by omega) (by omega)).mono ?_
          rintro e w3 ⟨rfl, hb3⟩
          obtain ⟨hb3c, hb3f⟩ := bcell hb3
          have hb3n := below_next (w := w) (by (repeat (first | exact Below.refl _ _ | assumption | (refine Below.drew ?_) | (refine below_drewN ?_ _) | (refine Below.alloc ?_ (by first | omega | (simp; done) | (simp; omega)) _) | (refine Below.setCell ?_ (by first | omega | (simp; done) | (simp; omega)) _)))) hb3
          have hb3z : w.heap.size < w3.heap.size := by have := hb3.size; first | omega | (simp at this; omega)
          rw [good.out]
          have hz3 : w2.heap.size + 1 < w3.heap.size := by have := hb3.size; simp at this; omega
          go_wp2_with fail
          refine (edit_any _ _ _ _ _ (by omega) (by omega)).mono ?_
          rintro e w4 ⟨rfl, hb4⟩
          obtain ⟨hb4c, hb4f⟩ := bcell hb4
          have hb4n := below_next (w := w) (by (repeat (first | exact Below.refl _ _ | assumption | (refine Below.drew ?_) | (refine below_drewN ?_ _) | (refine Below.alloc ?_ (by first | omega | (simp; done) | (simp; omega)) _) | (refine Below.setCell ?_ (by first | omega | (simp; done) | (simp; omega)) _)))) hb4
          have hb4z : w.heap.size < w4.heap.size := by have := hb4.size; first | omega | (simp at this; omega)
          rw [hy'.out]
          go_wp2_with fail
          go_ret
          exact ⟨rfl, hb4n⟩
    · have hy := Lib.hid (edit_full (show 3 ≤ K by omega) r2 hkb.out lab val)
      have g1 : (K == 1) = false := by simp; omega
      have g2 : (K == 2) = false := by simp; omega
      by_cases hl : lab = 0
      · subst hl
        have hy' := Lib.hid (show editE K KEY 0 val = 12 by rw [hy.out, HV.out]; decide)
        go_enter Try.func7, Try.ntmps7
        go_wp2_with fail
        refine (shown05_any _).mono ?_
        rintro e w1 ⟨rfl, hb⟩
        obtain ⟨hbc, hbf⟩ := bcell hb
        have hbn := below_next (w := w) (by (repeat (first | exact Below.refl _ _ | assumption | (refine Below.drew ?_) | (refine below_drewN ?_ _) | (refine Below.alloc ?_ (by first | omega | (simp; done) | (simp; omega)) _) | (refine Below.setCell ?_ (by first | omega | (simp; done) | (simp; omega)) _)))) hb
        have hbz : w.heap.size < w1.heap.size := by have := hb.size; first | omega | (simp at this; omega)
        go_wp2_with fail
        refine (HF.out _).mono ?_
        rintro e w2 ⟨rfl, hb2⟩
        obtain ⟨hb2c, hb2f⟩ := bcell hb2
        have hb2n := below_next (w := w) (by (repeat (first | exact Below.refl _ _ | assumption | (refine Below.drew ?_) | (refine below_drewN ?_ _) | (refine Below.alloc ?_ (by first | omega | (simp; done) | (simp; omega)) _) | (refine Below.setCell ?_ (by first | omega | (simp; done) | (simp; omega)) _)))) hb2
        have hb2z : w.heap.size < w2.heap.size := by have := hb2.size; first | omega | (simp at this; omega)
        go_wp2_with fail
        refine (edit_any _ _ _ _ _ (by omega) (by omega)).mono ?_
        rintro e w3 ⟨rfl, hb3⟩
        obtain ⟨hb3c, hb3f⟩ := bcell hb3
        have hb3n := below_next (w := w) (by (repeat (first | exact Below.refl _ _ | assumption | (refine Below.drew ?_) | (refine below_drewN ?_ _) | (refine Below.alloc ?_ (by first | omega | (simp; done) | (simp; omega)) _) | (refine Below.setCell ?_ (by first | omega | (simp; done) | (simp; omega)) _)))) hb3
        have hb3z : w.heap.size < w3.heap.size := by have := hb3.size; first | omega | (simp at this; omega)
        rw [good.out]
        have hz3 : w2.heap.size + 1 < w3.heap.size := by have := hb3.size; simp at this; omega
        go_wp2_with fail
        refine (edit_any _ _ _ _ _ (by omega) (by omega)).mono ?_
        rintro e w4 ⟨rfl, hb4⟩
        obtain ⟨hb4c, hb4f⟩ := bcell hb4
        have hb4n := below_next (w := w) (by (repeat (first | exact Below.refl _ _ | assumption | (refine Below.drew ?_) | (refine below_drewN ?_ _) | (refine Below.alloc ?_ (by first | omega | (simp; done) | (simp; omega)) _) | (refine Below.setCell ?_ (by first | omega | (simp; done) | (simp; omega)) _)))) hb4
        have hb4z : w.heap.size < w4.heap.size := by have := hb4.size; first | omega | (simp at this; omega)
        rw [hy'.out]
        go_wp2_with fail
        go_ret
        exact ⟨rfl, hb4n⟩
      · have hl0 : (lab == 0) = false := by simpa using hl
        by_cases hl1 : lab = 1
        · subst hl1
          have hy' := Lib.hid (show editE K KEY 1 val = 12 by rw [hy.out, HV.out]; decide)
          go_enter Try.func7, Try.ntmps7
          go_wp2_with fail
          refine (shown05_any _).mono ?_
          rintro e w1 ⟨rfl, hb⟩
          obtain ⟨hbc, hbf⟩ := bcell hb
          have hbn := below_next (w := w) (by (repeat (first | exact Below.refl _ _ | assumption | (refine Below.drew ?_) | (refine below_drewN ?_ _) | (refine Below.alloc ?_ (by first | omega | (simp; done) | (simp; omega)) _) | (refine Below.setCell ?_ (by first | omega | (simp; done) | (simp; omega)) _)))) hb
          have hbz : w.heap.size < w1.heap.size := by have := hb.size; first | omega | (simp at this; omega)
          go_wp2_with fail
          refine (HF.out _).mono ?_
          rintro e w2 ⟨rfl, hb2⟩
          obtain ⟨hb2c, hb2f⟩ := bcell hb2
          have hb2n := below_next (w := w) (by (repeat (first | exact Below.refl _ _ | assumption | (refine Below.drew ?_) | (refine below_drewN ?_ _) | (refine Below.alloc ?_ (by first | omega | (simp; done) | (simp; omega)) _) | (refine Below.setCell ?_ (by first | omega | (simp; done) | (simp; omega)) _)))) hb2
          have hb2z : w.heap.size < w2.heap.size := by have := hb2.size; first | omega | (simp at this; omega)
          go_wp2_with fail
          refine (edit_any _ _ _ _ _ (by omega) (by omega)).mono ?_
          rintro e w3 ⟨rfl, hb3⟩
          obtain ⟨hb3c, hb3f⟩ := bcell hb3
          have hb3n := below_next (w := w) (by (repeat (first | exact Below.refl _ _ | assumption | (refine Below.drew ?_) | (refine below_drewN ?_ _) | (refine Below.alloc ?_ (by first | omega | (simp; done) | (simp; omega)) _) | (refine Below.setCell ?_ (by first | omega | (simp; done) | (simp; omega)) _)))) hb3
          have hb3z : w.heap.size < w3.heap.size := by have := hb3.size; first | omega | (simp at this; omega)
          rw [good.out]
          have hz3 : w2.heap.size + 1 < w3.heap.size := by have := hb3.size; simp at this; omega
          go_wp2_with fail
          refine (edit_any _ _ _ _ _ (by omega) (by omega)).mono ?_
          rintro e w4 ⟨rfl, hb4⟩
          obtain ⟨hb4c, hb4f⟩ := bcell hb4
          have hb4n := below_next (w := w) (by (repeat (first | exact Below.refl _ _ | assumption | (refine Below.drew ?_) | (refine below_drewN ?_ _) | (refine Below.alloc ?_ (by first | omega | (simp; done) | (simp; omega)) _) | (refine Below.setCell ?_ (by first | omega | (simp; done) | (simp; omega)) _)))) hb4
          have hb4z : w.heap.size < w4.heap.size := by have := hb4.size; first | omega | (simp at this; omega)
          rw [hy'.out]
          go_wp2_with fail
          go_ret
          exact ⟨rfl, hb4n⟩
        · have hl2 : (lab == 1) = false := by simpa using hl1
          have hy' := Lib.hid (show editE K KEY lab val = 11 by rw [hy.out]; rw [show labelE lab = 11 by unfold labelE; rw [if_neg (by omega)]]; rfl)
          go_enter Try.func7, Try.ntmps7
          go_wp2_with fail
          refine (shown05_any _).mono ?_
          rintro e w1 ⟨rfl, hb⟩
          obtain ⟨hbc, hbf⟩ := bcell hb
          have hbn := below_next (w := w) (by (repeat (first | exact Below.refl _ _ | assumption | (refine Below.drew ?_) | (refine below_drewN ?_ _) | (refine Below.alloc ?_ (by first | omega | (simp; done) | (simp; omega)) _) | (refine Below.setCell ?_ (by first | omega | (simp; done) | (simp; omega)) _)))) hb
          have hbz : w.heap.size < w1.heap.size := by have := hb.size; first | omega | (simp at this; omega)
          go_wp2_with fail
          refine (HF.out _).mono ?_
          rintro e w2 ⟨rfl, hb2⟩
          obtain ⟨hb2c, hb2f⟩ := bcell hb2
          have hb2n := below_next (w := w) (by (repeat (first | exact Below.refl _ _ | assumption | (refine Below.drew ?_) | (refine below_drewN ?_ _) | (refine Below.alloc ?_ (by first | omega | (simp; done) | (simp; omega)) _) | (refine Below.setCell ?_ (by first | omega | (simp; done) | (simp; omega)) _)))) hb2
          have hb2z : w.heap.size < w2.heap.size := by have := hb2.size; first | omega | (simp at this; omega)
          go_wp2_with fail
          refine (edit_any _ _ _ _ _ (by omega) (by omega)).mono ?_
          rintro e w3 ⟨rfl, hb3⟩
          obtain ⟨hb3c, hb3f⟩ := bcell hb3
          have hb3n := below_next (w := w) (by (repeat (first | exact Below.refl _ _ | assumption | (refine Below.drew ?_) | (refine below_drewN ?_ _) | (refine Below.alloc ?_ (by first | omega | (simp; done) | (simp; omega)) _) | (refine Below.setCell ?_ (by first | omega | (simp; done) | (simp; omega)) _)))) hb3
          have hb3z : w.heap.size < w3.heap.size := by have := hb3.size; first | omega | (simp at this; omega)
          rw [good.out]
          have hz3 : w2.heap.size + 1 < w3.heap.size := by have := hb3.size; simp at this; omega
          go_wp2_with fail
          refine (edit_any _ _ _ _ _ (by omega) (by omega)).mono ?_
          rintro e w4 ⟨rfl, hb4⟩
          obtain ⟨hb4c, hb4f⟩ := bcell hb4
          have hb4n := below_next (w := w) (by (repeat (first | exact Below.refl _ _ | assumption | (refine Below.drew ?_) | (refine below_drewN ?_ _) | (refine Below.alloc ?_ (by first | omega | (simp; done) | (simp; omega)) _) | (refine Below.setCell ?_ (by first | omega | (simp; done) | (simp; omega)) _)))) hb4
          have hb4z : w.heap.size < w4.heap.size := by have := hb4.size; first | omega | (simp at this; omega)
          rw [hy'.out]
          go_wp2_with fail
          go_ret
          exact ⟨rfl, hb4n⟩
  · have g : val.toList.isEmpty = false := by rw [he.out]; simp [hv0]
    have G := Lib.hid g
    have hval1 : 1 ≤ val.size := by omega
    clear hv0
    by_cases hK : K ≤ 2
    · have hy := Lib.hid (edit_bare r1 hK hkb.out lab val)
      have hK' : K = 1 ∨ K = 2 := by omega
      by_cases hl : lab = 0
      · subst hl
        rcases hK' with rfl | rfl
        all_goals
          have hy' := Lib.hid (show editE _ KEY 0 val = 12 by rw [hy.out]; simp [bareE, G.out])
          go_enter Try.func7, Try.ntmps7
          go_wp2_with fail
          refine (shown05_any _).mono ?_
          rintro e w1 ⟨rfl, hb⟩
          obtain ⟨hbc, hbf⟩ := bcell hb
          have hbn := below_next (w := w) (by (repeat (first | exact Below.refl _ _ | assumption | (refine Below.drew ?_) | (refine below_drewN ?_ _) | (refine Below.alloc ?_ (by first | omega | (simp; done) | (simp; omega)) _) | (refine Below.setCell ?_ (by first | omega | (simp; done) | (simp; omega)) _)))) hb
          have hbz : w.heap.size < w1.heap.size := by have := hb.size; first | omega | (simp at this; omega)
          go_wp2_with fail
          refine (HF.out _).mono ?_
          rintro e w2 ⟨rfl, hb2⟩
          obtain ⟨hb2c, hb2f⟩ := bcell hb2
          have hb2n := below_next (w := w) (by (repeat (first | exact Below.refl _ _ | assumption | (refine Below.drew ?_) | (refine below_drewN ?_ _) | (refine Below.alloc ?_ (by first | omega | (simp; done) | (simp; omega)) _) | (refine Below.setCell ?_ (by first | omega | (simp; done) | (simp; omega)) _)))) hb2
          have hb2z : w.heap.size < w2.heap.size := by have := hb2.size; first | omega | (simp at this; omega)
          go_wp2_with fail
          refine (edit_any _ _ _ _ _ (by omega) (by omega)).mono ?_
          rintro e w3 ⟨rfl, hb3⟩
          obtain ⟨hb3c, hb3f⟩ := bcell hb3
          have hb3n := below_next (w := w) (by (repeat (first | exact Below.refl _ _ | assumption | (refine Below.drew ?_) | (refine below_drewN ?_ _) | (refine Below.alloc ?_ (by first | omega | (simp; done) | (simp; omega)) _) | (refine Below.setCell ?_ (by first | omega | (simp; done) | (simp; omega)) _)))) hb3
          have hb3z : w.heap.size < w3.heap.size := by have := hb3.size; first | omega | (simp at this; omega)
          rw [good.out]
          have hz3 : w2.heap.size + 1 < w3.heap.size := by have := hb3.size; simp at this; omega
          go_wp2_with fail
          refine (edit_any _ _ _ _ _ (by omega) (by omega)).mono ?_
          rintro e w4 ⟨rfl, hb4⟩
          obtain ⟨hb4c, hb4f⟩ := bcell hb4
          have hb4n := below_next (w := w) (by (repeat (first | exact Below.refl _ _ | assumption | (refine Below.drew ?_) | (refine below_drewN ?_ _) | (refine Below.alloc ?_ (by first | omega | (simp; done) | (simp; omega)) _) | (refine Below.setCell ?_ (by first | omega | (simp; done) | (simp; omega)) _)))) hb4
          have hb4z : w.heap.size < w4.heap.size := by have := hb4.size; first | omega | (simp at this; omega)
          rw [hy'.out]
          go_wp2_with fail
          go_ret
          exact ⟨rfl, hb4n⟩
      · have hl0 : (lab == 0) = false := by simpa using hl
        rcases hK' with rfl | rfl
        all_goals
          have hy' := Lib.hid (show editE _ KEY lab val = 11 by rw [hy.out]; simp [bareE, hl])
          go_enter Try.func7, Try.ntmps7
          go_wp2_with fail
          refine (shown05_any _).mono ?_
          rintro e w1 ⟨rfl, hb⟩
          obtain ⟨hbc, hbf⟩ := bcell hb
          have hbn := below_next (w := w) (by (repeat (first | exact Below.refl _ _ | assumption | (refine Below.drew ?_) | (refine below_drewN ?_ _) | (refine Below.alloc ?_ (by first | omega | (simp; done) | (simp; omega)) _) | (refine Below.setCell ?_ (by first | omega | (simp; done) | (simp; omega)) _)))) hb
          have hbz : w.heap.size < w1.heap.size := by have := hb.size; first | omega | (simp at this; omega)
          go_wp2_with fail
          refine (HF.out _).mono ?_
          rintro e w2 ⟨rfl, hb2⟩
          obtain ⟨hb2c, hb2f⟩ := bcell hb2
          have hb2n := below_next (w := w) (by (repeat (first | exact Below.refl _ _ | assumption | (refine Below.drew ?_) | (refine below_drewN ?_ _) | (refine Below.alloc ?_ (by first | omega | (simp; done) | (simp; omega)) _) | (refine Below.setCell ?_ (by first | omega | (simp; done) | (simp; omega)) _)))) hb2
          have hb2z : w.heap.size < w2.heap.size := by have := hb2.size; first | omega | (simp at this; omega)
          go_wp2_with fail
          refine (edit_any _ _ _ _ _ (by omega) (by omega)).mono ?_
          rintro e w3 ⟨rfl, hb3⟩
          obtain ⟨hb3c, hb3f⟩ := bcell hb3
          have hb3n := below_next (w := w) (by (repeat (first | exact Below.refl _ _ | assumption | (refine Below.drew ?_) | (refine below_drewN ?_ _) | (refine Below.alloc ?_ (by first | omega | (simp; done) | (simp; omega)) _) | (refine Below.setCell ?_ (by first | omega | (simp; done) | (simp; omega)) _)))) hb3
          have hb3z : w.heap.size < w3.heap.size := by have := hb3.size; first | omega | (simp at this; omega)
          rw [good.out]
          have hz3 : w2.heap.size + 1 < w3.heap.size := by have := hb3.size; simp at this; omega
          go_wp2_with fail
          refine (edit_any _ _ _ _ _ (by omega) (by omega)).mono ?_
          rintro e w4 ⟨rfl, hb4⟩
          obtain ⟨hb4c, hb4f⟩ := bcell hb4
          have hb4n := below_next (w := w) (by (repeat (first | exact Below.refl _ _ | assumption | (refine Below.drew ?_) | (refine below_drewN ?_ _) | (refine Below.alloc ?_ (by first | omega | (simp; done) | (simp; omega)) _) | (refine Below.setCell ?_ (by first | omega | (simp; done) | (simp; omega)) _)))) hb4
          have hb4z : w.heap.size < w4.heap.size := by have := hb4.size; first | omega | (simp at this; omega)
          rw [hy'.out]
          go_wp2_with fail
          go_ret
          exact ⟨rfl, hb4n⟩
    · have hy := Lib.hid (edit_full (show 3 ≤ K by omega) r2 hkb.out lab val)
      have g1 : (K == 1) = false := by simp; omega
      have g2 : (K == 2) = false := by simp; omega
      by_cases h12 : val.size ≤ 12
      · have HV := Lib.hid (show valueE val = 0 by unfold valueE; rw [if_pos ⟨hval1, h12⟩])
        have hd : decide ((val.size : Int) ≤ 12) = true := by simp; omega
        by_cases hl : lab = 0
        · subst hl
          have hy' := Lib.hid (show editE K KEY 0 val = 0 by rw [hy.out, HV.out]; decide)
          go_enter Try.func7, Try.ntmps7
          go_wp2_with fail
          refine (shown05_any _).mono ?_
          rintro e w1 ⟨rfl, hb⟩
          obtain ⟨hbc, hbf⟩ := bcell hb
          have hbn := below_next (w := w) (by (repeat (first | exact Below.refl _ _ | assumption | (refine Below.drew ?_) | (refine below_drewN ?_ _) | (refine Below.alloc ?_ (by first | omega | (simp; done) | (simp; omega)) _) | (refine Below.setCell ?_ (by first | omega | (simp; done) | (simp; omega)) _)))) hb
          have hbz : w.heap.size < w1.heap.size := by have := hb.size; first | omega | (simp at this; omega)
          go_wp2_with fail
          refine (HF.out _).mono ?_
          rintro e w2 ⟨rfl, hb2⟩
          obtain ⟨hb2c, hb2f⟩ := bcell hb2
          have hb2n := below_next (w := w) (by (repeat (first | exact Below.refl _ _ | assumption | (refine Below.drew ?_) | (refine below_drewN ?_ _) | (refine Below.alloc ?_ (by first | omega | (simp; done) | (simp; omega)) _) | (refine Below.setCell ?_ (by first | omega | (simp; done) | (simp; omega)) _)))) hb2
          have hb2z : w.heap.size < w2.heap.size := by have := hb2.size; first | omega | (simp at this; omega)
          go_wp2_with fail
          refine (edit_any _ _ _ _ _ (by omega) (by omega)).mono ?_
          rintro e w3 ⟨rfl, hb3⟩
          obtain ⟨hb3c, hb3f⟩ := bcell hb3
          have hb3n := below_next (w := w) (by (repeat (first | exact Below.refl _ _ | assumption | (refine Below.drew ?_) | (refine below_drewN ?_ _) | (refine Below.alloc ?_ (by first | omega | (simp; done) | (simp; omega)) _) | (refine Below.setCell ?_ (by first | omega | (simp; done) | (simp; omega)) _)))) hb3
          have hb3z : w.heap.size < w3.heap.size := by have := hb3.size; first | omega | (simp at this; omega)
          rw [good.out]
          have hz3 : w2.heap.size + 1 < w3.heap.size := by have := hb3.size; simp at this; omega
          go_wp2_with fail
          refine (edit_any _ _ _ _ _ (by omega) (by omega)).mono ?_
          rintro e w4 ⟨rfl, hb4⟩
          obtain ⟨hb4c, hb4f⟩ := bcell hb4
          have hb4n := below_next (w := w) (by (repeat (first | exact Below.refl _ _ | assumption | (refine Below.drew ?_) | (refine below_drewN ?_ _) | (refine Below.alloc ?_ (by first | omega | (simp; done) | (simp; omega)) _) | (refine Below.setCell ?_ (by first | omega | (simp; done) | (simp; omega)) _)))) hb4
          have hb4z : w.heap.size < w4.heap.size := by have := hb4.size; first | omega | (simp at this; omega)
          rw [hy'.out]
          go_wp2_with fail
          go_ret
          exact ⟨rfl, hb4n⟩
        · have hl0 : (lab == 0) = false := by simpa using hl
          by_cases hl1 : lab = 1
          · subst hl1
            have hy' := Lib.hid (show editE K KEY 1 val = 0 by rw [hy.out, HV.out]; decide)
            go_enter Try.func7, Try.ntmps7
            go_wp2_with fail
            refine (shown05_any _).mono ?_
            rintro e w1 ⟨rfl, hb⟩
            obtain ⟨hbc, hbf⟩ := bcell hb
            have hbn := below_next (w := w) (by (repeat (first | exact Below.refl _ _ | assumption | (refine Below.drew ?_) | (refine below_drewN ?_ _) | (refine Below.alloc ?_ (by first | omega | (simp; done) | (simp; omega)) _) | (refine Below.setCell ?_ (by first | omega | (simp; done) | (simp; omega)) _)))) hb
            have hbz : w.heap.size < w1.heap.size := by have := hb.size; first | omega | (simp at this; omega)
            go_wp2_with fail
            refine (HF.out _).mono ?_
            rintro e w2 ⟨rfl, hb2⟩
            obtain ⟨hb2c, hb2f⟩ := bcell hb2
            have hb2n := below_next (w := w) (by (repeat (first | exact Below.refl _ _ | assumption | (refine Below.drew ?_) | (refine below_drewN ?_ _) | (refine Below.alloc ?_ (by first | omega | (simp; done) | (simp; omega)) _) | (refine Below.setCell ?_ (by first | omega | (simp; done) | (simp; omega)) _)))) hb2
            have hb2z : w.heap.size < w2.heap.size := by have := hb2.size; first | omega | (simp at this; omega)
            go_wp2_with fail
            refine (edit_any _ _ _ _ _ (by omega) (by omega)).mono ?_
            rintro e w3 ⟨rfl, hb3⟩
            obtain ⟨hb3c, hb3f⟩ := bcell hb3
            have hb3n := below_next (w := w) (by (repeat (first | exact Below.refl _ _ | assumption | (refine Below.drew ?_) | (refine below_drewN ?_ _) | (refine Below.alloc ?_ (by first | omega | (simp; done) | (simp; omega)) _) | (refine Below.setCell ?_ (by first | omega | (simp; done) | (simp; omega)) _)))) hb3
            have hb3z : w.heap.size < w3.heap.size := by have := hb3.size; first | omega | (simp at this; omega)
            rw [good.out]
            have hz3 : w2.heap.size + 1 < w3.heap.size := by have := hb3.size; simp at this; omega
            go_wp2_with fail
            refine (edit_any _ _ _ _ _ (by omega) (by omega)).mono ?_
            rintro e w4 ⟨rfl, hb4⟩
            obtain ⟨hb4c, hb4f⟩ := bcell hb4
            have hb4n := below_next (w := w) (by (repeat (first | exact Below.refl _ _ | assumption | (refine Below.drew ?_) | (refine below_drewN ?_ _) | (refine Below.alloc ?_ (by first | omega | (simp; done) | (simp; omega)) _) | (refine Below.setCell ?_ (by first | omega | (simp; done) | (simp; omega)) _)))) hb4
            have hb4z : w.heap.size < w4.heap.size := by have := hb4.size; first | omega | (simp at this; omega)
            rw [hy'.out]
            go_wp2_with fail
            go_ret
            exact ⟨rfl, hb4n⟩
          · have hl2 : (lab == 1) = false := by simpa using hl1
            have hy' := Lib.hid (show editE K KEY lab val = 11 by rw [hy.out]; rw [show labelE lab = 11 by unfold labelE; rw [if_neg (by omega)]]; rfl)
            go_enter Try.func7, Try.ntmps7
            go_wp2_with fail
            refine (shown05_any _).mono ?_
            rintro e w1 ⟨rfl, hb⟩
            obtain ⟨hbc, hbf⟩ := bcell hb
            have hbn := below_next (w := w) (by (repeat (first | exact Below.refl _ _ | assumption | (refine Below.drew ?_) | (refine below_drewN ?_ _) | (refine Below.alloc ?_ (by first | omega | (simp; done) | (simp; omega)) _) | (refine Below.setCell ?_ (by first | omega | (simp; done) | (simp; omega)) _)))) hb
            have hbz : w.heap.size < w1.heap.size := by have := hb.size; first | omega | (simp at this; omega)
            go_wp2_with fail
            refine (HF.out _).mono ?_
            rintro e w2 ⟨rfl, hb2⟩
            obtain ⟨hb2c, hb2f⟩ := bcell hb2
            have hb2n := below_next (w := w) (by (repeat (first | exact Below.refl _ _ | assumption | (refine Below.drew ?_) | (refine below_drewN ?_ _) | (refine Below.alloc ?_ (by first | omega | (simp; done) | (simp; omega)) _) | (refine Below.setCell ?_ (by first | omega | (simp; done) | (simp; omega)) _)))) hb2
            have hb2z : w.heap.size < w2.heap.size := by have := hb2.size; first | omega | (simp at this; omega)
            go_wp2_with fail
            refine (edit_any _ _ _ _ _ (by omega) (by omega)).mono ?_
            rintro e w3 ⟨rfl, hb3⟩
            obtain ⟨hb3c, hb3f⟩ := bcell hb3
            have hb3n := below_next (w := w) (by (repeat (first | exact Below.refl _ _ | assumption | (refine Below.drew ?_) | (refine below_drewN ?_ _) | (refine Below.alloc ?_ (by first | omega | (simp; done) | (simp; omega)) _) | (refine Below.setCell ?_ (by first | omega | (simp; done) | (simp; omega)) _)))) hb3
            have hb3z : w.heap.size < w3.heap.size := by have := hb3.size; first | omega | (simp at this; omega)
            rw [good.out]
            have hz3 : w2.heap.size + 1 < w3.heap.size := by have := hb3.size; simp at this; omega
            go_wp2_with fail
            refine (edit_any _ _ _ _ _ (by omega) (by omega)).mono ?_
            rintro e w4 ⟨rfl, hb4⟩
            obtain ⟨hb4c, hb4f⟩ := bcell hb4
            have hb4n := below_next (w := w) (by (repeat (first | exact Below.refl _ _ | assumption | (refine Below.drew ?_) | (refine below_drewN ?_ _) | (refine Below.alloc ?_ (by first | omega | (simp; done) | (simp; omega)) _) | (refine Below.setCell ?_ (by first | omega | (simp; done) | (simp; omega)) _)))) hb4
            have hb4z : w.heap.size < w4.heap.size := by have := hb4.size; first | omega | (simp at this; omega)
            rw [hy'.out]
            go_wp2_with fail
            go_ret
            exact ⟨rfl, hb4n⟩
      · have HV := Lib.hid (show valueE val = 12 by unfold valueE; rw [if_neg (by omega)])
        have hd : decide ((val.size : Int) ≤ 12) = false := by simp; omega
        by_cases hl : lab = 0
        · subst hl
          have hy' := Lib.hid (show editE K KEY 0 val = 12 by rw [hy.out, HV.out]; decide)
          go_enter Try.func7, Try.ntmps7
          go_wp2_with fail
          refine (shown05_any _).mono ?_
          rintro e w1 ⟨rfl, hb⟩
          obtain ⟨hbc, hbf⟩ := bcell hb
          have hbn := below_next (w := w) (by (repeat (first | exact Below.refl _ _ | assumption | (refine Below.drew ?_) | (refine below_drewN ?_ _) | (refine Below.alloc ?_ (by first | omega | (simp; done) | (simp; omega)) _) | (refine Below.setCell ?_ (by first | omega | (simp; done) | (simp; omega)) _)))) hb
          have hbz : w.heap.size < w1.heap.size := by have := hb.size; first | omega | (simp at this; omega)
          go_wp2_with fail
          refine (HF.out _).mono ?_
          rintro e w2 ⟨rfl, hb2⟩
          obtain ⟨hb2c, hb2f⟩ := bcell hb2
          have hb2n := below_next (w := w) (by (repeat (first | exact Below.refl _ _ | assumption | (refine Below.drew ?_) | (refine below_drewN ?_ _) | (refine Below.alloc ?_ (by first | omega | (simp; done) | (simp; omega)) _) | (refine Below.setCell ?_ (by first | omega | (simp; done) | (simp; omega)) _)))) hb2
          have hb2z : w.heap.size < w2.heap.size := by have := hb2.size; first | omega | (simp at this; omega)
          go_wp2_with fail
          refine (edit_any _ _ _ _ _ (by omega) (by omega)).mono ?_
          rintro e w3 ⟨rfl, hb3⟩
          obtain ⟨hb3c, hb3f⟩ := bcell hb3
          have hb3n := below_next (w := w) (by (repeat (first | exact Below.refl _ _ | assumption | (refine Below.drew ?_) | (refine below_drewN ?_ _) | (refine Below.alloc ?_ (by first | omega | (simp; done) | (simp; omega)) _) | (refine Below.setCell ?_ (by first | omega | (simp; done) | (simp; omega)) _)))) hb3
          have hb3z : w.heap.size < w3.heap.size := by have := hb3.size; first | omega | (simp at this; omega)
          rw [good.out]
          have hz3 : w2.heap.size + 1 < w3.heap.size := by have := hb3.size; simp at this; omega
          go_wp2_with fail
          refine (edit_any _ _ _ _ _ (by omega) (by omega)).mono ?_
          rintro e w4 ⟨rfl, hb4⟩
          obtain ⟨hb4c, hb4f⟩ := bcell hb4
          have hb4n := below_next (w := w) (by (repeat (first | exact Below.refl _ _ | assumption | (refine Below.drew ?_) | (refine below_drewN ?_ _) | (refine Below.alloc ?_ (by first | omega | (simp; done) | (simp; omega)) _) | (refine Below.setCell ?_ (by first | omega | (simp; done) | (simp; omega)) _)))) hb4
          have hb4z : w.heap.size < w4.heap.size := by have := hb4.size; first | omega | (simp at this; omega)
          rw [hy'.out]
          go_wp2_with fail
          go_ret
          exact ⟨rfl, hb4n⟩
        · have hl0 : (lab == 0) = false := by simpa using hl
          by_cases hl1 : lab = 1
          · subst hl1
            have hy' := Lib.hid (show editE K KEY 1 val = 12 by rw [hy.out, HV.out]; decide)
            go_enter Try.func7, Try.ntmps7
            go_wp2_with fail
            refine (shown05_any _).mono ?_
            rintro e w1 ⟨rfl, hb⟩
            obtain ⟨hbc, hbf⟩ := bcell hb
            have hbn := below_next (w := w) (by (repeat (first | exact Below.refl _ _ | assumption | (refine Below.drew ?_) | (refine below_drewN ?_ _) | (refine Below.alloc ?_ (by first | omega | (simp; done) | (simp; omega)) _) | (refine Below.setCell ?_ (by first | omega | (simp; done) | (simp; omega)) _)))) hb
            have hbz : w.heap.size < w1.heap.size := by have := hb.size; first | omega | (simp at this; omega)
            go_wp2_with fail
            refine (HF.out _).mono ?_
            rintro e w2 ⟨rfl, hb2⟩
            obtain ⟨hb2c, hb2f⟩ := bcell hb2
            have hb2n := below_next (w := w) (by (repeat (first | exact Below.refl _ _ | assumption | (refine Below.drew ?_) | (refine below_drewN ?_ _) | (refine Below.alloc ?_ (by first | omega | (simp; done) | (simp; omega)) _) | (refine Below.setCell ?_ (by first | omega | (simp; done) | (simp; omega)) _)))) hb2
            have hb2z : w.heap.size < w2.heap.size := by have := hb2.size; first | omega | (simp at this; omega)
            go_wp2_with fail
            refine (edit_any _ _ _ _ _ (by omega) (by omega)).mono ?_
            rintro e w3 ⟨rfl, hb3⟩
            obtain ⟨hb3c, hb3f⟩ := bcell hb3
            have hb3n := below_next (w := w) (by (repeat (first | exact Below.refl _ _ | assumption | (refine Below.drew ?_) | (refine below_drewN ?_ _) | (refine Below.alloc ?_ (by first | omega | (simp; done) | (simp; omega)) _) | (refine Below.setCell ?_ (by first | omega | (simp; done) | (simp; omega)) _)))) hb3
            have hb3z : w.heap.size < w3.heap.size := by have := hb3.size; first | omega | (simp at this; omega)
            rw [good.out]
            have hz3 : w2.heap.size + 1 < w3.heap.size := by have := hb3.size; simp at this; omega
            go_wp2_with fail
            refine (edit_any _ _ _ _ _ (by omega) (by omega)).mono ?_
            rintro e w4 ⟨rfl, hb4⟩
            obtain ⟨hb4c, hb4f⟩ := bcell hb4
            have hb4n := below_next (w := w) (by (repeat (first | exact Below.refl _ _ | assumption | (refine Below.drew ?_) | (refine below_drewN ?_ _) | (refine Below.alloc ?_ (by first | omega | (simp; done) | (simp; omega)) _) | (refine Below.setCell ?_ (by first | omega | (simp; done) | (simp; omega)) _)))) hb4
            have hb4z : w.heap.size < w4.heap.size := by have := hb4.size; first | omega | (simp at this; omega)
            rw [hy'.out]
            go_wp2_with fail
            go_ret
            exact ⟨rfl, hb4n⟩
          · have hl2 : (lab == 1) = false := by simpa using hl1
            have hy' := Lib.hid (show editE K KEY lab val = 11 by rw [hy.out]; rw [show labelE lab = 11 by unfold labelE; rw [if_neg (by omega)]]; rfl)
            go_enter Try.func7, Try.ntmps7
            go_wp2_with fail
            refine (shown05_any _).mono ?_
            rintro e w1 ⟨rfl, hb⟩
            obtain ⟨hbc, hbf⟩ := bcell hb
            have hbn := below_next (w := w) (by (repeat (first | exact Below.refl _ _ | assumption | (refine Below.drew ?_) | (refine below_drewN ?_ _) | (refine Below.alloc ?_ (by first | omega | (simp; done) | (simp; omega)) _) | (refine Below.setCell ?_ (by first | omega | (simp; done) | (simp; omega)) _)))) hb
            have hbz : w.heap.size < w1.heap.size := by have := hb.size; first | omega | (simp at this; omega)
            go_wp2_with fail
            refine (HF.out _).mono ?_
            rintro e w2 ⟨rfl, hb2⟩
            obtain ⟨hb2c, hb2f⟩ := bcell hb2
            have hb2n := below_next (w := w) (by (repeat (first | exact Below.refl _ _ | assumption | (refine Below.drew ?_) | (refine below_drewN ?_ _) | (refine Below.alloc ?_ (by first | omega | (simp; done) | (simp; omega)) _) | (refine Below.setCell ?_ (by first | omega | (simp; done) | (simp; omega)) _)))) hb2
            have hb2z : w.heap.size < w2.heap.size := by have := hb2.size; first | omega | (simp at this; omega)
            go_wp2_with fail
            refine (edit_any _ _ _ _ _ (by omega) (by omega)).mono ?_
            rintro e w3 ⟨rfl, hb3⟩
            obtain ⟨hb3c, hb3f⟩ := bcell hb3
            have hb3n := below_next (w := w) (by (repeat (first | exact Below.refl _ _ | assumption | (refine Below.drew ?_) | (refine below_drewN ?_ _) | (refine Below.alloc ?_ (by first | omega | (simp; done) | (simp; omega)) _) | (refine Below.setCell ?_ (by first | omega | (simp; done) | (simp; omega)) _)))) hb3
            have hb3z : w.heap.size < w3.heap.size := by have := hb3.size; first | omega | (simp at this; omega)
            rw [good.out]
            have hz3 : w2.heap.size + 1 < w3.heap.size := by have := hb3.size; simp at this; omega
            go_wp2_with fail
            refine (edit_any _ _ _ _ _ (by omega) (by omega)).mono ?_
            rintro e w4 ⟨rfl, hb4⟩
            obtain ⟨hb4c, hb4f⟩ := bcell hb4
            have hb4n := below_next (w := w) (by (repeat (first | exact Below.refl _ _ | assumption | (refine Below.drew ?_) | (refine below_drewN ?_ _) | (refine Below.alloc ?_ (by first | omega | (simp; done) | (simp; omega)) _) | (refine Below.setCell ?_ (by first | omega | (simp; done) | (simp; omega)) _)))) hb4
            have hb4z : w.heap.size < w4.heap.size := by have := hb4.size; first | omega | (simp at this; omega)
            rw [hy'.out]
            go_wp2_with fail
            go_ret
            exact ⟨rfl, hb4n⟩
end Go.Proofs.Ytdabndoojkdicaa
