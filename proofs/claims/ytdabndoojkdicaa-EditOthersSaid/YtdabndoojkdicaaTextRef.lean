/- The functions of the reference of layer 5, and the head of its statements, answer what the plain functions of Words say. Condition: a text's length is an int. -/
import Derived.Test.YtdabndoojkdicaaText
set_option linter.unusedVariables false
set_option linter.unusedSimpArgs false
namespace Go.Proofs.Ytdabndoojkdicaa
open Go.RowKit

set_option maxHeartbeats 400000 in
theorem rkey_any (s : ByteArray) (w : World) (hs : s.size ≤ 9223372036854775807) : Calls Try.prog 15 #[.string s] w fun e w' => e = .returned (.int .i64 (keyE s)) ∧ w = w' := by
  by_cases hsz : s.size < 1 ∨ 8 < s.size
  · have hk := Lib.hid (keyE_bad_size hsz)
    rcases hsz with h | h
    · go_enter Try.func15, Try.ntmps15
      go_wp2
      go_ret
      exact ⟨ret_int hk.out.symm, rfl⟩
    · have h' : ¬ s.size < 1 := by omega
      go_enter Try.func15, Try.ntmps15
      go_wp2
      go_ret
      exact ⟨ret_int hk.out.symm, rfl⟩
  · have h1 : ¬ s.size < 1 := by omega
    have h2 : ¬ 8 < s.size := by omega
    clear hsz
    go_enter Try.func15, Try.ntmps15
    go_wp2
    go_loop [3] (fun i => ∃ (pos : Nat), i = .int .i64 pos ∧ (s.data.toList.take pos).all byteB = true) (fun i => s.size - (intOf i).toNat)
    case atStart => exact ⟨0, rfl, rfl⟩
    case round =>
      obtain ⟨pos, rfl, hall⟩ := hrel
      have HA := Lib.hid hall
      clear hall
      by_cases hp : pos < s.size
      · have hts := Lib.hid (all_take_succ s pos hp)
        by_cases hb1 : (s[pos].toNat : Int) < 97
        · have hk := Lib.hid (keyE_bad hp (by simp [byteB]; omega))
          go_wp2
          go_ret
          exact ⟨ret_int hk.out.symm, rfl⟩
        by_cases hb2 : 122 < (s[pos].toNat : Int)
        · have hk := Lib.hid (keyE_bad hp (by simp [byteB]; omega))
          go_wp2
          go_ret
          exact ⟨ret_int hk.out.symm, rfl⟩
        have hc' := Lib.hid (show byteB s[pos] = true by simp [byteB]; omega)
        go_wp2
        go_round
        case rel => exact ⟨pos + 1, by go_num, by rw [hts.out, HA.out, hc'.out]; rfl⟩
        case measure => simp [intOf]; omega
      · have hk := Lib.hid (keyE_good (s := s) (k := pos) (by omega) (by omega) (by omega) HA.out)
        go_wp2
        go_ret
        exact ⟨ret_int hk.out.symm, rfl⟩
theorem rlabel_any (n : Int) (w : World) : Calls Try.prog 17 #[.int .i64 n] w fun e w' => e = .returned (.int .i64 (labelE n)) ∧ w = w' := by
  by_cases h0 : n = 0
  · subst h0
    go_enter Try.func17, Try.ntmps17
    go_wp2
    go_ret
    exact ⟨rfl, rfl⟩
  by_cases h1 : n = 1
  · subst h1
    go_enter Try.func17, Try.ntmps17
    go_wp2
    go_ret
    exact ⟨rfl, rfl⟩
  have H := Lib.hid (show labelE n = 11 by unfold labelE; rw [if_neg (by omega)])
  have g0 : (n == 0) = false := by simpa using h0
  have g1 : (n == 1) = false := by simpa using h1
  go_enter Try.func17, Try.ntmps17
  go_wp2
  go_ret
  exact ⟨ret_int H.out.symm, rfl⟩
theorem rvalue_any (s : ByteArray) (w : World) (hs : s.size ≤ 9223372036854775807) : Calls Try.prog 18 #[.string s] w fun e w' => e = .returned (.int .i64 (valueE s)) ∧ w = w' := by
  go_enter Try.func18, Try.ntmps18
  go_wp2
  all_goals (go_ret; refine ⟨ret_int ?_, rfl⟩; unfold valueE; (repeat' split) <;> omega)
set_option maxHeartbeats 1000000 in
theorem redit_any (k : Int) (key : ByteArray) (l : Int) (v : ByteArray) (w : World) (hk : key.size ≤ 9223372036854775807) (hv : v.size ≤ 9223372036854775807) :
    Calls Try.prog 20 #[.agg #[.int .i64 k, .string key, .int .i64 l, .string v]] w fun e w' => e = .returned (.int .i64 (editE k key l v)) ∧ Below w.heap.size w w' := by
  by_cases h1 : k < 1
  · have H := Lib.hid (show editE k key l v = 1 by simp [editE, h1])
    go_enter Try.func20, Try.ntmps20
    go_wp2
    go_ret
    exact ⟨ret_int H.out.symm, (by (repeat (first | exact Below.refl _ _ | assumption | (refine Below.drew ?_) | (refine below_drewN ?_ _) | (refine Below.alloc ?_ (by first | omega | (simp; done) | (simp; omega)) _) | (refine Below.setCell ?_ (by first | omega | (simp; done) | (simp; omega)) _))))⟩
  by_cases h2 : 5 < k
  · have H := Lib.hid (show editE k key l v = 1 by simp [editE, h2])
    go_enter Try.func20, Try.ntmps20
    go_wp2
    go_ret
    exact ⟨ret_int H.out.symm, (by (repeat (first | exact Below.refl _ _ | assumption | (refine Below.drew ?_) | (refine below_drewN ?_ _) | (refine Below.alloc ?_ (by first | omega | (simp; done) | (simp; omega)) _) | (refine Below.setCell ?_ (by first | omega | (simp; done) | (simp; omega)) _))))⟩
  rcases keyE_cases key with ⟨hb, he⟩ | ⟨hb, he⟩
  · by_cases h3 : k ≤ 2
    · have H := Lib.hid (show editE k key l v = bareE l v by simp [editE, h1, h2, h3, hb])
      have HE := Lib.hid he
      clear he hb
      have h4 : k = 1 ∨ k = 2 := by omega
      rcases h4 with rfl | rfl
      all_goals
        go_enter Try.func20, Try.ntmps20
        go_wp2_with fail
        refine (rkey_any _ _ hk).mono ?_
        rintro e w' ⟨rfl, rfl⟩
        rw [HE.out]
        go_wp2
        all_goals (go_ret; refine ⟨ret_int (by rw [H.out]; simp [bareE, *]), (by (repeat (first | exact Below.refl _ _ | assumption | (refine Below.drew ?_) | (refine below_drewN ?_ _) | (refine Below.alloc ?_ (by first | omega | (simp; done) | (simp; omega)) _) | (refine Below.setCell ?_ (by first | omega | (simp; done) | (simp; omega)) _))))⟩)
    · have g1 : (k == 1) = false := by simp; omega
      have g2 : (k == 2) = false := by simp; omega
      rcases labelE_cases l with hl | hl
      · have H := Lib.hid (show editE k key l v = valueE v by simp [editE, h1, h2, h3, hb, hl])
        have HE := Lib.hid he
        have HL := Lib.hid hl
        clear he hb hl
        go_enter Try.func20, Try.ntmps20
        go_wp2_with fail
        refine (rkey_any _ _ hk).mono ?_
        rintro e w' ⟨rfl, rfl⟩
        rw [HE.out]
        go_wp2_with fail
        refine (rlabel_any _ _).mono ?_
        rintro e w' ⟨rfl, rfl⟩
        rw [HL.out]
        go_wp2_with fail
        refine (rvalue_any _ _ hv).mono ?_
        rintro e w' ⟨rfl, rfl⟩
        go_wp2_with fail
        go_ret
        exact ⟨ret_int H.out.symm, (by (repeat (first | exact Below.refl _ _ | assumption | (refine Below.drew ?_) | (refine below_drewN ?_ _) | (refine Below.alloc ?_ (by first | omega | (simp; done) | (simp; omega)) _) | (refine Below.setCell ?_ (by first | omega | (simp; done) | (simp; omega)) _))))⟩
      · have H := Lib.hid (show editE k key l v = 11 by simp [editE, h1, h2, h3, hb, hl])
        have HE := Lib.hid he
        have HL := Lib.hid hl
        clear he hb hl
        go_enter Try.func20, Try.ntmps20
        go_wp2_with fail
        refine (rkey_any _ _ hk).mono ?_
        rintro e w' ⟨rfl, rfl⟩
        rw [HE.out]
        go_wp2_with fail
        refine (rlabel_any _ _).mono ?_
        rintro e w' ⟨rfl, rfl⟩
        rw [HL.out]
        go_wp2_with fail
        go_ret
        exact ⟨ret_int H.out.symm, (by (repeat (first | exact Below.refl _ _ | assumption | (refine Below.drew ?_) | (refine below_drewN ?_ _) | (refine Below.alloc ?_ (by first | omega | (simp; done) | (simp; omega)) _) | (refine Below.setCell ?_ (by first | omega | (simp; done) | (simp; omega)) _))))⟩
  · have H := Lib.hid (show editE k key l v = 10 by simp [editE, h1, h2, hb])
    have HE := Lib.hid he
    clear he hb
    go_enter Try.func20, Try.ntmps20
    go_wp2_with fail
    refine (rkey_any _ _ hk).mono ?_
    rintro e w' ⟨rfl, rfl⟩
    rw [HE.out]
    go_wp2_with fail
    go_ret
    exact ⟨ret_int H.out.symm, (by (repeat (first | exact Below.refl _ _ | assumption | (refine Below.drew ?_) | (refine below_drewN ?_ _) | (refine Below.alloc ?_ (by first | omega | (simp; done) | (simp; omega)) _) | (refine Below.setCell ?_ (by first | omega | (simp; done) | (simp; omega)) _))))⟩

theorem shown05_any (w : World) : Calls Try.prog 12 #[] w fun e w' => e = .returned (.bool true) ∧ Below w.heap.size w w' := by
  have k1 := Lib.hid (show keyE ⟨#[97, 110, 110]⟩ = 0 by decide +kernel)
  have k2 := Lib.hid (show keyE ⟨#[65, 110, 110]⟩ = 10 by decide +kernel)
  have k3 := Lib.hid (show valueE ⟨#[]⟩ = 12 by decide +kernel)
  go_enter Try.func12, Try.ntmps12
  go_wp2_with fail
  refine (key_any _ _ (by decide +kernel)).mono ?_
  rintro e w1 ⟨rfl, hb⟩
  obtain ⟨hbc, hbf⟩ := bcell hb
  rw [k1.out]
  go_wp2_with fail
  refine (key_any _ _ (by decide +kernel)).mono ?_
  rintro e w2 ⟨rfl, hb2⟩
  obtain ⟨hb2c, hb2f⟩ := bcell hb2
  rw [k2.out]
  go_wp2_with fail
  refine (value_any _ _ (by decide +kernel)).mono ?_
  rintro e w' ⟨rfl, rfl⟩
  rw [k3.out]
  go_wp2_with fail
  go_ret
  exact ⟨rfl, hb.trans (hb2.mono hb.size)⟩
end Go.Proofs.Ytdabndoojkdicaa
