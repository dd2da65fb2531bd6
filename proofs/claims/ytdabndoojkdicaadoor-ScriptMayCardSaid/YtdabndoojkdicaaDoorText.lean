/- The functions Key, Label, Value, bare and Edit of package text answer what the plain functions of Words say, and lay new blocks alone. Condition: a text's length is an int. -/
import Derived.Test.YtdabndoojkdicaaDoorWords
set_option linter.unusedVariables false
set_option linter.unusedSimpArgs false
namespace Go.Proofs.YtdabndoojkdicaaDoor
open Go.RowKit

theorem decode_byteB {s : ByteArray} {k : Nat} (h : k < s.size) : byteB s[k] = (decide (97 ≤ ((Utf8.decode s k).1 : Int)) && decide (((Utf8.decode s k).1 : Int) ≤ 122)) := by
  by_cases ha : (s[k]'h).toNat < 128
  · rw [decode_ascii s k h ha]
    rw [Bool.eq_iff_iff]; simp [byteB]; omega
  · have := (decode_high s k h (by omega)).1
    rw [Bool.eq_iff_iff]; simp [byteB]; omega
theorem decode_width {s : ByteArray} {k : Nat} (h : k < s.size) (hb : byteB s[k] = true) : (Utf8.decode s k).2 = 1 := by
  have : (s[k]'h).toNat < 128 := by simp [byteB] at hb; omega
  rw [decode_ascii s k h this]

set_option maxHeartbeats 400000 in
theorem key_any (s : ByteArray) (w : World) (hs : s.size ≤ 9223372036854775807) : Calls Tryd.prog 11 #[.string s] w fun e w' => e = .returned (.int .i64 (keyE s)) ∧ Below w.heap.size w w' := by
  by_cases hsz : s.size < 1 ∨ 8 < s.size
  · have hk := Lib.hid (keyE_bad_size hsz)
    rcases hsz with h | h
    · go_enter Tryd.func11, Tryd.ntmps11
      go_wp2
      go_ret
      exact ⟨ret_int hk.out.symm, Below.refl _ _⟩
    · have h' : ¬ s.size < 1 := by omega
      go_enter Tryd.func11, Tryd.ntmps11
      go_wp2
      go_ret
      exact ⟨ret_int hk.out.symm, Below.refl _ _⟩
  · have h1 : ¬ s.size < 1 := by omega
    have h2 : ¬ 8 < s.size := by omega
    clear hsz
    go_enter Tryd.func11, Tryd.ntmps11
    go_wp2
    go_loopw [4] (fun _ w' => ∃ (pos : Nat), w' = w.iter s pos ∧ (s.data.toList.take pos).all byteB = true) (fun _ w' => s.size - w'.iterPos w.heap.size)
    case atStart => exact ⟨0, rfl, rfl⟩
    case round =>
      obtain ⟨pos, rfl, hall⟩ := hrel
      have hall := Lib.hid hall
      rename_i hall0
      clear hall0
      by_cases hp : pos < s.size
      · have hnx : ∀ ty, (Instr.next (.pointer (some ⟨w.heap.size, 0, none⟩)) true ty).run Tryd.prog (w.iter s pos) = _ := fun ty => run_next_any w s pos ty hp
        have hb := decode_byteB hp
        by_cases hc : byteB s[pos] = true
        · have hwd := decode_width hp hc
          rw [hc] at hb
          have hb1 : ¬ ((Utf8.decode s pos).1 : Int) < 97 := by simp at hb; omega
          have hb2 : ¬ 122 < ((Utf8.decode s pos).1 : Int) := by simp at hb; omega
          have hts := Lib.hid (all_take_succ s pos hp)
          have hc' := Lib.hid hc
          have hwd' := Lib.hid hwd
          clear hb hwd hc
          go_wp2
          go_roundw
          case rel => exact ⟨pos + 1, by rw [hwd'.out], by rw [hts.out, hall.out, hc'.out]; rfl⟩
          case measure => rw [hwd'.out]; simp; omega
        · have hk := Lib.hid (keyE_bad hp (by simpa using hc))
          rw [show byteB s[pos] = false by simpa using hc] at hb
          clear hc
          by_cases hb1 : ((Utf8.decode s pos).1 : Int) < 97
          · clear hb
            go_wp2
            go_ret
            exact ⟨ret_int hk.out.symm, below_iter _ _ _⟩
          · have hb2 : 122 < ((Utf8.decode s pos).1 : Int) := by simp at hb; omega
            clear hb
            go_wp2
            go_ret
            exact ⟨ret_int hk.out.symm, below_iter _ _ _⟩
      · have hnx : ∀ ty, (Instr.next (.pointer (some ⟨w.heap.size, 0, none⟩)) true ty).run Tryd.prog (w.iter s pos) = _ := fun ty => run_next_end w s pos ty hp
        have hk := Lib.hid (keyE_good (s := s) (k := pos) (by omega) (by omega) (by omega) hall.out)
        go_wp2
        go_ret
        exact ⟨ret_int hk.out.symm, below_iter _ _ _⟩

theorem label_any (n : Int) (w : World) : Calls Tryd.prog 13 #[.int .i64 n] w fun e w' => e = .returned (.int .i64 (labelE n)) ∧ w = w' := by
  go_enter Tryd.func13, Tryd.ntmps13
  go_wp2
  all_goals (go_ret; refine ⟨ret_int ?_, rfl⟩; unfold labelE; (repeat' split) <;> omega)
theorem value_any (s : ByteArray) (w : World) (hs : s.size ≤ 9223372036854775807) : Calls Tryd.prog 14 #[.string s] w fun e w' => e = .returned (.int .i64 (valueE s)) ∧ w = w' := by
  go_enter Tryd.func14, Tryd.ntmps14
  go_wp2
  all_goals (go_ret; refine ⟨ret_int ?_, rfl⟩; unfold valueE; (repeat' split) <;> omega)
theorem bare_any (k : Int) (key : ByteArray) (l : Int) (v : ByteArray) (w : World) :
    Calls Tryd.prog 12 #[.agg #[.int .i64 k, .string key, .int .i64 l, .string v]] w fun e w' => e = .returned (.int .i64 (bareE l v)) ∧ Below w.heap.size w w' := by
  go_enter Tryd.func12, Tryd.ntmps12
  go_wp2
  all_goals (go_ret; refine ⟨ret_int (by simp [bareE, *]), (by (repeat (first | exact Below.refl _ _ | assumption | (refine Below.drew ?_) | (refine below_drewN ?_ _) | (refine Below.alloc ?_ (by first | omega | (simp; done) | (simp; omega)) _) | (refine Below.setCell ?_ (by first | omega | (simp; done) | (simp; omega)) _))))⟩)
set_option maxHeartbeats 1000000 in
theorem edit_any (k : Int) (key : ByteArray) (l : Int) (v : ByteArray) (w : World) (hk : key.size ≤ 9223372036854775807) (hv : v.size ≤ 9223372036854775807) :
    Calls Tryd.prog 8 #[.agg #[.int .i64 k, .string key, .int .i64 l, .string v]] w fun e w' => e = .returned (.int .i64 (editE k key l v)) ∧ Below w.heap.size w w' := by
  by_cases h1 : k < 1
  · have H := Lib.hid (show editE k key l v = 1 by simp [editE, h1])
    go_enter Tryd.func8, Tryd.ntmps8
    go_wp2
    go_ret
    exact ⟨ret_int H.out.symm, (by (repeat (first | exact Below.refl _ _ | assumption | (refine Below.drew ?_) | (refine below_drewN ?_ _) | (refine Below.alloc ?_ (by first | omega | (simp; done) | (simp; omega)) _) | (refine Below.setCell ?_ (by first | omega | (simp; done) | (simp; omega)) _))))⟩
  by_cases h2 : 5 < k
  · have H := Lib.hid (show editE k key l v = 1 by simp [editE, h2])
    go_enter Tryd.func8, Tryd.ntmps8
    go_wp2
    go_ret
    exact ⟨ret_int H.out.symm, (by (repeat (first | exact Below.refl _ _ | assumption | (refine Below.drew ?_) | (refine below_drewN ?_ _) | (refine Below.alloc ?_ (by first | omega | (simp; done) | (simp; omega)) _) | (refine Below.setCell ?_ (by first | omega | (simp; done) | (simp; omega)) _))))⟩
  rcases keyE_cases key with ⟨hb, he⟩ | ⟨hb, he⟩
  · by_cases h3 : k ≤ 2
    · have H := Lib.hid (show editE k key l v = bareE l v by simp [editE, h1, h2, h3, hb])
      have HE := Lib.hid he
      clear he hb
      go_enter Tryd.func8, Tryd.ntmps8
      go_wp2_with fail
      refine (key_any _ _ hk).mono ?_
      rintro e w1 ⟨rfl, hb⟩
      obtain ⟨hbc, hbf⟩ := bcell hb
      rw [HE.out]
      go_wp2_with fail
      refine (bare_any _ _ _ _ _).mono ?_
      rintro e w2 ⟨rfl, hb2⟩
      obtain ⟨hb2c, hb2f⟩ := bcell hb2
      go_wp2_with fail
      go_ret
      exact ⟨ret_int H.out.symm, ((Below.refl _ _).alloc (Nat.le_refl _) _).trans ((hb.mono (by simp)).trans (hb2.mono (by have := hb.size; simp at this; omega)))⟩
    · rcases labelE_cases l with hl | hl
      · have H := Lib.hid (show editE k key l v = valueE v by simp [editE, h1, h2, h3, hb, hl])
        have HE := Lib.hid he
        have HL := Lib.hid hl
        clear he hb hl
        go_enter Tryd.func8, Tryd.ntmps8
        go_wp2_with fail
        refine (key_any _ _ hk).mono ?_
        rintro e w1 ⟨rfl, hb⟩
        obtain ⟨hbc, hbf⟩ := bcell hb
        have hz : w.heap.size < w1.heap.size := by have := hb.size; simp at this; omega
        rw [HE.out]
        go_wp2_with fail
        refine (label_any _ _).mono ?_
        rintro e w' ⟨rfl, rfl⟩
        rw [HL.out]
        go_wp2_with fail
        refine (value_any _ _ hv).mono ?_
        rintro e w' ⟨rfl, rfl⟩
        go_wp2_with fail
        go_ret
        exact ⟨ret_int H.out.symm, ((Below.refl _ _).alloc (Nat.le_refl _) _).trans (hb.mono (by simp))⟩
      · have H := Lib.hid (show editE k key l v = 11 by simp [editE, h1, h2, h3, hb, hl])
        have HE := Lib.hid he
        have HL := Lib.hid hl
        clear he hb hl
        go_enter Tryd.func8, Tryd.ntmps8
        go_wp2_with fail
        refine (key_any _ _ hk).mono ?_
        rintro e w1 ⟨rfl, hb⟩
        obtain ⟨hbc, hbf⟩ := bcell hb
        rw [HE.out]
        go_wp2_with fail
        refine (label_any _ _).mono ?_
        rintro e w' ⟨rfl, rfl⟩
        rw [HL.out]
        go_wp2_with fail
        go_ret
        exact ⟨ret_int H.out.symm, ((Below.refl _ _).alloc (Nat.le_refl _) _).trans (hb.mono (by simp))⟩
  · have H := Lib.hid (show editE k key l v = 10 by simp [editE, h1, h2, hb])
    have HE := Lib.hid he
    clear he hb
    go_enter Tryd.func8, Tryd.ntmps8
    go_wp2_with fail
    refine (key_any _ _ hk).mono ?_
    rintro e w1 ⟨rfl, hb⟩
    obtain ⟨hbc, hbf⟩ := bcell hb
    rw [HE.out]
    go_wp2_with fail
    go_ret
    exact ⟨ret_int H.out.symm, ((Below.refl _ _).alloc (Nat.le_refl _) _).trans (hb.mono (by simp))⟩
end Go.Proofs.YtdabndoojkdicaaDoor
