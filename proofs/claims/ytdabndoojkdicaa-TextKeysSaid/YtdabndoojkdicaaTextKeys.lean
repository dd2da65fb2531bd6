/- The law TextKeys returns true at all bytes, each odd byte and place, and turns nothing that was there. No condition. -/
import Derived.Test.YtdabndoojkdicaaTextRef
import Derived.Test.YtdabndoojkdicaaTextKeysPlain
set_option linter.unusedVariables false
set_option linter.unusedSimpArgs false
namespace Go.Proofs.Ytdabndoojkdicaa
open Go.RowKit

theorem info_u8 : (Try.prog.info? 5).map (fun i => (i.zero, i.size, i.bytes)) = some (some (.int .u8 0), 1, 1) := by kernel_rfl
theorem nums_one (k : IntKind) (xs : List Int) : ∀ u ∈ nums k xs, u.oneCell' = true := by
  intro u hu
  simp only [nums, List.mem_map] at hu
  obtain ⟨q, _, rfl⟩ := hu
  rfl

set_option maxHeartbeats 4000000 in
theorem textKeys_walk (A : Option Addr) (len cap : Nat) (xs : List Int) (odd pl : Int) (w : World) (hR : Rd w A len 1 (nums .u8 xs)) (hx : ∀ x ∈ xs, 0 ≤ x ∧ x ≤ 255) (hlc : len ≤ cap)
    (o0 : 0 ≤ odd) (o1 : odd ≤ 255) (p0 : 0 ≤ pl) (p1 : pl ≤ 255) :
    Calls Try.prog 3 #[.slice A len cap, .int .u8 odd, .int .u8 pl] w fun e w' => e = .returned (.bool true) ∧ Below w.heap.size w w' := by
  have hm := hR.2.1
  obtain ⟨m, hmd⟩ : ∃ m, m = min len 8 := ⟨_, rfl⟩
  have hm1 : m ≤ len := by omega
  have hm8 : m ≤ 8 := by omega
  have hmin : (if (8 : Int) < (len : Int) then (8 : Int) else (len : Int)) = (m : Int) := by split <;> omega
  obtain ⟨ys, hys⟩ : ∃ ys, ys = xs.take m := ⟨_, rfl⟩
  have hyl : ys.length = m := by
    have := hR.1
    rw [hys, List.length_take]
    simp [nums] at this
    omega
  have hR2 := hR.take_ m hm1
  rw [show (nums .u8 xs).take (m * 1) = nums .u8 ys by rw [hys]; simp [nums, List.map_take]] at hR2
  have hx' : ∀ k, k < m → 0 ≤ ys.getD k 0 ∧ ys.getD k 0 ≤ 255 := by
    intro k hk
    have h1 : ys[k]? = some (ys.getD k 0) := by rw [List.getD_eq_getElem?_getD, List.getElem?_eq_getElem (by omega)]; rfl
    have h2 : ys.getD k 0 ∈ ys := List.mem_of_getElem? h1
    exact hx _ (List.mem_of_mem_take (i := m) (by rw [← hys]; exact h2))
  have HR := Lib.hid hR2
  have HYL := Lib.hid hyl
  have HX := Lib.hid hx'
  obtain ⟨i5, hi5, _, hs5, _⟩ := info_parts info_u8
  have hsl := fun W => run_cut (P := Try.prog) 22 5 .i64 Try.underlying22 hi5 A len cap m (by omega) W
  have HI := Lib.hid hi5
  have HS := Lib.hid hs5
  clear hmd hR hR2 hys hyl hx hx' hi5 hs5
  go_enter Try.func3, Try.ntmps3
  go_wp2_with fail
  refine (shown05_any _).mono ?_
  rintro e w1 ⟨rfl, hb⟩
  obtain ⟨hbc, hbf⟩ := bcell hb
  have HL := World.ownsRow_lit (base := w.heap.size) (e := 5) (size := 1) w1 #[] 0 hb.size (by simp [maxLen]) rfl
  go_wp2_with (at_builtin; refine wpList_append_rd (w0 := w) w.heap.size rfl _ _ 22 5 _ 1 1 rfl Try.underlying22 info_u8 rfl (by decide) (by decide) _ 0 [] A m cap (nums .u8 ys) rfl rfl HL (Rd.below (HR.out.below hb) ((Below.refl _ _).alloc (Nat.le_refl _) _)) (nums_one _ _) (hb.alloc hb.size _) (by simp; have := hb.size; omega) (by omega) ?_)
  intro v2 w2 hown hb2 _ _
  try simp only [Nat.zero_add, List.nil_append] at hown
  clear HL
  by_cases h0 : m = 0
  · subst h0
    obtain ⟨A1, c1, hv2, _, hR1⟩ := Rd.own hown
    have hys0 : ys = [] := List.eq_nil_of_length_eq_zero HYL.out
    subst hys0
    subst hv2
    have K1 := Lib.hid (show keyE (strOfNums []) = 10 by rw [keyE_of [] (by simp), if_neg (by simp)])
    have K2 := Lib.hid (show keyE (⟨#[97, 98, 99, 100, 101, 102, 103, 104]⟩ ++ strOfNums []) = 0 by rw [keyE_long _ [] (by decide) (by decide +kernel), if_pos (by simp)])
    have hzle : (strOfNums []).size ≤ 8 := by rw [strOfNums_size]; simp
    have hcv := run_string (P := Try.prog) 22 9 5 Try.underlying22 Try.underlying5 Try.underlying9 (c := c1) (xs := []) hR1
    obtain ⟨S, hS⟩ : ∃ S, S = strOfNums [] := ⟨_, rfl⟩
    rw [← hS] at K1 K2 hzle hcv
    have HSS := Lib.hid hS
    clear hS
    clear HX HR HYL hown hsl hmin
    go_wp2_with fail
    go_loop [9] (fun i => i = .int .i64 0) (fun _ => 0)
    case atStart => rfl
    case round =>
      subst hrel
      go_wp2_with fail
      refine (key_any _ _ (by omega)).mono ?_
      rintro e w4 ⟨rfl, hb4⟩
      rw [K1.out]
      have hcv4 := run_string (P := Try.prog) 22 9 5 Try.underlying22 Try.underlying5 Try.underlying9 (c := c1) (xs := []) (hR1.below hb4)
      rw [← HSS.out] at hcv4
      clear hcv
      go_wp2_with fail
      refine (key_any _ _ (by rw [ByteArray.size_append]; have : (ByteArray.mk #[97, 98, 99, 100, 101, 102, 103, 104]).size = 8 := by decide
                              omega)).mono ?_
      rintro e w5 ⟨rfl, hb5⟩
      rw [K2.out]
      go_wp2_with fail
      go_ret
      exact ⟨rfl, below_next (below_next hb2 hb4) hb5⟩
  · obtain ⟨g, cap2, hv2, hg, hgl, hgc⟩ := own_cases hown (by omega)
    subst hv2
    have HO := Lib.hid hown
    clear hown
    go_wp2_with fail
    go_loopw [9] (fun i wr => ∃ k : Nat, k ≤ m ∧ i = .int .i64 k ∧ wr.ownsRow w.heap.size 5 1 (.slice (some ⟨g, 0, none⟩) m cap2) m (nums .u8 (made ys k)) ∧ Below w.heap.size w wr) (fun i _ => m - (intOf i).toNat)
    case atStart => exact ⟨0, by omega, rfl, by rw [made_zero]; exact HO.out, hb2⟩
    case round =>
      obtain ⟨k, hk, rfl, hownk, hbk⟩ := hrel
      by_cases hlt : k < m
      · have hc : wr.cell? ⟨g, k, none⟩ = some (.int .u8 (ys.getD k 0)) := by
          rw [hownk.cellAt k (by omega)]
          exact made_at ys k (by rw [HYL.out]; exact hlt)
        have hf := hownk.frozenAt k
        obtain ⟨hs1, hs2⟩ := hownk.stored k (.int .u8 (97 + ys.getD k 0 % 26))
        rw [made_set ys k (by rw [HYL.out]; exact hlt)] at hs1
        have HS1 := Lib.hid hs1
        obtain ⟨x0, x1⟩ := HX.out k hlt
        clear hs1 hs2 hownk
        generalize ys.getD k 0 = x at *
        go_wp2_with fail
        go_roundw
        case rel => exact ⟨k + 1, by omega, by go_num, HS1.out, hbk.setCell hg _⟩
        case measure => simp [intOf]; omega
      · obtain rfl : k = m := by omega
        rw [made_all ys k (by rw [HYL.out]; omega)] at hownk
        have hzl : (ys.map lt26).length = k := by rw [List.length_map, HYL.out]
        have hzr : ∀ z ∈ ys.map lt26, 97 ≤ z ∧ z ≤ 122 := by
          intro z hz
          obtain ⟨y, hy, rfl⟩ := List.mem_map.1 hz
          unfold lt26
          omega
        generalize ys.map lt26 = zs at *
        have K1 := Lib.hid (show keyE (strOfNums zs) = 0 by rw [keyE_of zs hzr, if_pos (by omega)])
        have K2 := Lib.hid (show keyE (⟨#[97, 98, 99, 100, 101, 102, 103, 104]⟩ ++ strOfNums zs) = 10 by rw [keyE_long _ zs (by decide) (by decide +kernel), if_neg (by omega)])
        have K3 := Lib.hid (keyE_odd zs hzr (by omega) (by omega))
        have hzs : (strOfNums zs).size = k := by rw [strOfNums_size, hzl]
        have hR3 := (Rd.owns hownk).2
        have HO2 := Lib.hid hownk
        have ZS := Lib.hid hzs
        have ZL := Lib.hid hzl
        obtain ⟨p, hp⟩ : ∃ p : Nat, pl % (k : Int) = p := ⟨(pl % k).toNat, by have := Int.emod_nonneg pl (show (k : Int) ≠ 0 by omega); omega⟩
        have hpk : p < k := by have := Int.emod_lt_of_pos pl (show (0 : Int) < k by omega); omega
        have hk0 : ((k : Int) == 0) = false := by simp; omega
        clear HO HX HR HYL hownk hzl hzr hzs
        have hcv := run_string (P := Try.prog) 22 9 5 Try.underlying22 Try.underlying5 Try.underlying9 (c := cap2) hR3
        go_wp2_with fail
        refine (key_any _ _ (by rw [ZS.out]; omega)).mono ?_
        rintro e w4 ⟨rfl, hb4⟩
        rw [K1.out]
        have hcv4 := run_string (P := Try.prog) 22 9 5 Try.underlying22 Try.underlying5 Try.underlying9 (c := cap2) (hR3.below hb4)
        have hbn4 := below_next hbk hb4
        have HO4 := Lib.hid (own_below HO2.out hb4)
        clear hcv hR3
        have hzle : (strOfNums zs).size ≤ 8 := by rw [ZS.out]; exact hm8
        go_wp2_with fail
        refine (key_any _ _ (by rw [ByteArray.size_append, ZS.out]; have : (ByteArray.mk #[97, 98, 99, 100, 101, 102, 103, 104]).size = 8 := by decide
                                omega)).mono ?_
        rintro e w5 ⟨rfl, hb5⟩
        rw [K2.out]
        have hbn5 := below_next hbn4 hb5
        have hown5 := own_below HO4.out hb5
        have hc5 : w5.cell? ⟨g, p, none⟩ = some (.int .u8 (zs.getD p 0)) := by
          rw [hown5.cellAt p (by omega)]
          simp [nums, List.getElem?_eq_getElem (show p < zs.length by rw [ZL.out]; exact hpk), List.getD_eq_getElem?_getD]
        have hf5 := hown5.frozenAt p
        obtain ⟨hs1, _⟩ := hown5.stored p (.int .u8 odd)
        rw [show (nums .u8 zs).set p (.int .u8 odd) = nums .u8 (zs.set p odd) by simp [nums, List.map_set]] at hs1
        have hR6 := (Rd.owns hs1).2
        have hcv6 := run_string (P := Try.prog) 22 9 5 Try.underlying22 Try.underlying5 Try.underlying9 (c := cap2) hR6
        have K3' := Lib.hid (K3.out p (by rw [ZL.out]; exact hpk) odd o0 o1)
        have hb6 := hbn5.setCell (p := ⟨g, p, none⟩) hg (.int .u8 odd)
        have HO6 := Lib.hid hown5
        clear hcv4 hR6 hown5 hs1
        by_cases hodd : 97 ≤ odd
        · by_cases hodd2 : odd ≤ 122
          · have K4 := Lib.hid (show keyE (strOfNums (zs.set p odd)) = 0 by rw [K3'.out, if_pos ⟨hodd, hodd2⟩])
            go_wp2_with fail
            refine (key_any _ _ (by rw [strOfNums_size, List.length_set, ZL.out]; omega)).mono ?_
            rintro e w7 ⟨rfl, hb7⟩
            rw [K4.out]
            go_wp2_with fail
            go_ret
            exact ⟨ret_bool (by simp [hodd, hodd2]), below_next hb6 hb7⟩
          · have K4 := Lib.hid (show keyE (strOfNums (zs.set p odd)) = 10 by rw [K3'.out, if_neg (by omega)])
            go_wp2_with fail
            refine (key_any _ _ (by rw [strOfNums_size, List.length_set, ZL.out]; omega)).mono ?_
            rintro e w7 ⟨rfl, hb7⟩
            rw [K4.out]
            go_wp2_with fail
            go_ret
            exact ⟨ret_bool (by first | (simp; omega) | simp [hodd]), below_next hb6 hb7⟩
        · have K4 := Lib.hid (show keyE (strOfNums (zs.set p odd)) = 10 by rw [K3'.out, if_neg (by omega)])
          go_wp2_with fail
          refine (key_any _ _ (by rw [strOfNums_size, List.length_set, ZL.out]; omega)).mono ?_
          rintro e w7 ⟨rfl, hb7⟩
          rw [K4.out]
          go_wp2_with fail
          go_ret
          exact ⟨ret_bool (by first | (simp; omega) | simp [hodd]), below_next hb6 hb7⟩
end Go.Proofs.Ytdabndoojkdicaa
