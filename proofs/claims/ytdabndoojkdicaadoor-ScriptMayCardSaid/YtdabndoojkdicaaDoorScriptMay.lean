/- The law ScriptMay returns true at each number and both rows of bytes, and turns nothing that was there. Conditions: bytes are bytes; the tables hold what the package's text lays. -/
import Derived.Test.YtdabndoojkdicaaDoorScriptMayPlain
import Derived.Deep.DeepCutAuto
set_option linter.unusedVariables false
set_option linter.unusedSimpArgs false
namespace Go.Proofs.YtdabndoojkdicaaDoor
open Go.RowKit
attribute [local go_sem] gives Gives

theorem info_u8' : (Tryd.prog.info? 5).map (fun i => (i.zero, i.size, i.bytes)) = some (some (.int .u8 0), 1, 1) := by kernel_rfl
theorem nums_u8_one (xs : List Int) : ∀ u ∈ nums .u8 xs, u.oneCell' = true := by
  intro u hu
  simp only [nums, List.mem_map] at hu
  obtain ⟨x, _, rfl⟩ := hu
  rfl
theorem nums_append (xs ys : List Int) : nums .u8 xs ++ nums .u8 ys = nums .u8 (xs ++ ys) := by simp [nums]

set_option maxRecDepth 20000 in
set_option maxHeartbeats 8000000 in
theorem scriptMay_walk (nn : Int) (A : Option Addr) (n c : Nat) (bs : List Int) (B : Option Addr) (n' c' : Nat) (bs' : List Int) (w : World) (hR : Rd w A n 1 (nums .u8 bs)) (hb : ∀ x ∈ bs, 0 ≤ x ∧ x ≤ 255) (hc : n ≤ c)
    (hR' : Rd w B n' 1 (nums .u8 bs')) (hb' : ∀ x ∈ bs', 0 ≤ x ∧ x ≤ 255) (hc' : n' ≤ c') (hT : Tabs w) :
    Calls Tryd.prog 4 #[.int .i64 nn, .slice A n c, .slice B n' c'] w fun e w' => e = .returned (.bool true) ∧ Below w.heap.size w w' := by
  have hlen : bs.length = n := by have := hR.1; simpa [nums] using this
  have hlen' : bs'.length = n' := by have := hR'.1; simpa [nums] using this
  have hn := hR.2.1
  have hn' := hR'.2.1
  obtain ⟨m, hm⟩ : ∃ m, m = min n 400 := ⟨_, rfl⟩
  obtain ⟨y, hy⟩ : ∃ y, y = min n' 400 := ⟨_, rfl⟩
  have HF := Lib.hid (fun W => few23_any A n c W hn hc)
  have HG := Lib.hid (fun W => few23_any B n' c' W hn' hc')
  rw [← hm] at HF
  rw [← hy] at HG
  have hmn : m ≤ n := by omega
  have hyn : y ≤ n' := by omega
  have hm4 : m ≤ 400 := by omega
  have hy4 : y ≤ 400 := by omega
  obtain ⟨p, hp⟩ : ∃ p, p = m / 8 := ⟨_, rfl⟩
  obtain ⟨x, hx⟩ : ∃ x, x = p * 8 := ⟨_, rfl⟩
  have hxm : x ≤ m := by omega
  have x1 : (m : Int) / 8 * 8 = (x : Int) := by omega
  have x2 : (x : Int) / 8 = (p : Int) := by omega
  obtain ⟨q, hq⟩ : ∃ q, q = y / 8 := ⟨_, rfl⟩
  have y2 : (y : Int) / 8 = (q : Int) := by omega
  obtain ⟨i0, hi0⟩ : ∃ i, Tryd.prog.info? 5 = some i := ⟨_, rfl⟩
  have s1 := fun W => run_cut (P := Tryd.prog) 22 5 .i64 Tryd.underlying22 hi0 A m c x (by omega) W
  obtain ⟨bx, hbx0⟩ : ∃ l, l = bs.take x := ⟨_, rfl⟩
  obtain ⟨by_, hby0⟩ : ∃ l, l = bs'.take y := ⟨_, rfl⟩
  have hRx := hR.bytes x (by omega)
  have hRy := hR'.bytes y (by omega)
  rw [← hbx0] at hRx
  rw [← hby0] at hRy
  have lx : bx.length = x := by rw [hbx0, List.length_take]; omega
  have ly : by_.length = y := by rw [hby0, List.length_take]; omega
  have hbx : ∀ z ∈ bx, 0 ≤ z ∧ z ≤ 255 := fun z hz => hb z (List.mem_of_mem_take (i := x) (by rw [← hbx0]; exact hz))
  have hby : ∀ z ∈ by_, 0 ≤ z ∧ z ≤ 255 := fun z hz => hb' z (List.mem_of_mem_take (i := y) (by rw [← hby0]; exact hz))
  have hbxy : ∀ z ∈ bx ++ by_, 0 ≤ z ∧ z ≤ 255 := fun z hz => (List.mem_append.1 hz).elim (hbx z) (hby z)
  obtain ⟨k, hk⟩ : ∃ k, k = clampN nn := ⟨_, rfl⟩
  have hk5 : 1 ≤ k ∧ k ≤ 5 := by rw [hk]; exact clampN_range nn
  obtain ⟨L1, hL1⟩ : ∃ L, L = allSteps k bx := ⟨_, rfl⟩
  obtain ⟨L2, hL2⟩ : ∃ L, L = allSteps k by_ := ⟨_, rfl⟩
  obtain ⟨L3, hL3⟩ : ∃ L, L = allSteps k (bx ++ by_) := ⟨_, rfl⟩
  have e1 : L1.length = p := by rw [hL1, allSteps_length, lx]; omega
  have e2 : L2.length = q := by rw [hL2, allSteps_length, ly]; omega
  have e3 : L3.length = p + q := by rw [hL3, allSteps_length, List.length_append, lx, ly]; omega
  have HS1 := Lib.hid (fun W (h : Below w.heap.size w W) => steps_any nn A x c bx W (hRx.below h) hbx (by omega) (by omega) (hT.below h) L1 (by rw [hL1, hk]; exact stepsIn_all _ _ _ lx))
  have HS2 := Lib.hid (fun W (h : Below w.heap.size w W) => steps_any nn B y c' by_ W (hRy.below h) hby (by omega) (by omega) (hT.below h) L2 (by rw [hL2, hk]; exact stepsIn_all _ _ _ ly))
  have HS3 := Lib.hid (fun W D d (h : Below w.heap.size w W) (h1 : Rd W D (x + y) 1 (nums .u8 (bx ++ by_))) (h2 : x + y ≤ d) => steps_any nn D (x + y) d (bx ++ by_) W h1 hbxy h2 (by omega) (hT.below h) L3 (by rw [hL3, hk]; exact stepsIn_all _ _ _ (by rw [List.length_append, lx, ly])))
  rw [e1] at HS1
  rw [e2] at HS2
  rw [e3] at HS3
  have HAT := Lib.hid (show ∀ i, i < p + q → ∃ s, L3[i]? = some s ∧ s.may k ∧ (i < p → L1[i]? = some s) ∧ (p ≤ i → L2[i - p]? = some s) by
    intro i hi
    obtain ⟨s, hs⟩ : ∃ s, L3[i]? = some s := ⟨L3[i]'(by omega), List.getElem?_eq_getElem (by omega)⟩
    refine ⟨s, hs, ?_, fun h => ?_, fun h => ?_⟩
    · rw [hk]
      exact all_may nn _ hbxy i s (by rw [← hk, ← hL3]; exact hs)
    · rw [hL1, ← all_left k bx by_ p (by omega) i h, ← hL3]; exact hs
    · rw [hL2, ← all_right k bx by_ p (by omega) i h (by omega), ← hL3]; exact hs)
  obtain ⟨qn, hqn⟩ : ∃ q, (if nn < 1 then (1 : Int) else nn) = q := ⟨_, rfl⟩
  have hcn : (if (5 : Int) < qn then (5 : Int) else qn) = k := by rw [← hqn, hk]; unfold clampN; repeat' split <;> omega
  have HT := Lib.hid hT
  have HRX := Lib.hid hRx
  have HRY := Lib.hid hRy
  have HX8 := Lib.hid hx
  have hp4 : p ≤ 50 := by omega
  have hq4 : q ≤ 50 := by omega
  have hx4 : x ≤ 400 := by omega
  clear hL1 hL2 hL3 e1 e2 e3 lx ly hbx hby hbxy hbx0 hby0 hRx hRy hx hp hq hT hlen hlen' hm hy hb hb' hi0 hR hR' hk
  go_enter Tryd.func4, Tryd.ntmps4
  go_wp2_with fail
  refine (shown23_any _ HT.out).mono ?_
  rintro e w1' ⟨rfl, hb1n⟩
  go_wp2_with fail
  refine (HF.out _).mono ?_
  rintro e w' ⟨rfl, rfl⟩
  go_wp2_with fail
  refine (HG.out _).mono ?_
  rintro e w' ⟨rfl, rfl⟩
  go_wp2_with fail
  refine (HS1.out _ hb1n).mono ?_
  rintro e w2 ⟨A1, c1, rfl, hc1, hRS1, hb2⟩
  have hb2n := below_next hb1n hb2
  go_wp2_with fail
  refine (HS2.out _ hb2n).mono ?_
  rintro e w3 ⟨A2, c2, rfl, hc2, hRS2, hb3⟩
  have hb3n := below_next hb2n hb3
  have HRS1 := Lib.hid (hRS1.below hb3)
  have HRS2 := Lib.hid hRS2
  have HB3 := Lib.hid hb3n
  clear hRS1 hRS2 hb1n hb2 hb2n hb3 hb3n
  have HL := World.ownsRow_lit (base := w3.heap.size) (e := 5) (size := 1) w3 #[] 0 (Nat.le_refl _) (by simp [maxLen]) rfl
  have HBA := (Below.refl w3.heap.size w3).alloc (Nat.le_refl _) (.cells #[] 5)
  have hz := HB3.out.size
  go_wp2_with (at_builtin; refine wpList_append_rd (w0 := w3) w3.heap.size rfl _ _ 22 5 _ 1 1 rfl Tryd.underlying22 info_u8' rfl (by decide) (by decide) _ 0 [] A x c (nums .u8 bx) rfl rfl HL ((HRX.out.below HB3.out).below HBA) (nums_u8_one _) HBA (by simp) (by omega) ?_)
  intro v4 w4 hown hb4 _ _
  try simp only [Nat.zero_add, List.nil_append] at hown
  go_wp2_with (at_builtin; refine wpList_append_rd (w0 := w3) w3.heap.size rfl _ _ 22 5 _ 1 1 rfl Tryd.underlying22 info_u8' rfl (by decide) (by decide) _ x (nums .u8 bx) B y c' (nums .u8 by_) rfl rfl hown ((HRY.out.below HB3.out).below hb4) (nums_u8_one _) hb4 hb4.size (by omega) ?_)
  intro v5 w5 hown2 hb5 _ _
  rw [nums_append] at hown2
  obtain ⟨D, d, rfl, hd, hRD⟩ := Rd.own hown2
  have hb5n := below_next HB3.out hb5
  go_wp2_with fail
  refine (HS3.out w5 D d hb5n hRD hd).mono ?_
  rintro e w6 ⟨A3, c3, rfl, hc3, hRS3, hb6⟩
  have HRS3 := Lib.hid hRS3
  have hb36 := below_next hb5 hb6
  have HR1 := Lib.hid (HRS1.out.below hb36)
  have HR2 := Lib.hid (HRS2.out.below hb36)
  have HB6 := Lib.hid (below_next HB3.out hb36)
  clear hRS3 hb36 hb6 hb5n hRD hown2 hb5 hown hb4 HL HBA hz hd
  go_wp2_with fail
  go_loopw [14] (fun i wr => ∃ j : Nat, j ≤ p + q ∧ i = .int .i64 j ∧ Below w6.heap.size w6 wr) (fun i _ => p + q - (intOf i).toNat)
  case atStart => exact ⟨0, by omega, rfl, Below.refl _ _⟩
  case round =>
    obtain ⟨j, hj, rfl, hbr⟩ := hrel
    by_cases hjq : j < p + q
    · obtain ⟨⟨sk, sr, ek, key, lab, val, sa, sb, sm, sp⟩, hs3, hmay, hs1, hs2⟩ := HAT.out j hjq
      obtain ⟨b3, o3, hA3, hl3, hcc3⟩ := (HRS3.out.below hbr).at_ j _ hs3
      subst hA3
      have u0 : wr.cell? ⟨b3, o3 + j * 10, none⟩ = some (.int .i64 sk) := hcc3 0 _ rfl
      have u1 : wr.cell? ⟨b3, o3 + j * 10 + 1, none⟩ = some (.int .i64 sr) := hcc3 1 _ rfl
      have u2 : wr.cell? ⟨b3, o3 + j * 10 + 2, none⟩ = some (.int .i64 ek) := hcc3 2 _ rfl
      have u3 : wr.cell? ⟨b3, o3 + j * 10 + 3, none⟩ = some (.string key) := hcc3 3 _ rfl
      have u4 : wr.cell? ⟨b3, o3 + j * 10 + 4, none⟩ = some (.int .i64 lab) := hcc3 4 _ rfl
      have u5 : wr.cell? ⟨b3, o3 + j * 10 + 5, none⟩ = some (.string val) := hcc3 5 _ rfl
      have u6 : wr.cell? ⟨b3, o3 + j * 10 + 6, none⟩ = some (.int .i64 sa) := hcc3 6 _ rfl
      have u7 : wr.cell? ⟨b3, o3 + j * 10 + 7, none⟩ = some (.int .i64 sb) := hcc3 7 _ rfl
      have u8 : wr.cell? ⟨b3, o3 + j * 10 + 8, none⟩ = some (.int .u32 sm) := hcc3 8 _ rfl
      have u9 : wr.cell? ⟨b3, o3 + j * 10 + 9, none⟩ = some (.int .i64 sp) := hcc3 9 _ rfl
      have j2 : (j : Int) < ((p + q : Nat) : Int) := by omega
      have j3 : (0 : Int) ≤ (j : Int) := by omega
      have HBR := Lib.hid hbr
      have HS1' := Lib.hid hs1
      have HS2' := Lib.hid hs2
      have hne := fun W => neq_step ⟨sk, sr, ek, key, lab, val, sa, sb, sm, sp⟩ W
      unfold Stp.v Stp.cells at hne
      (try dsimp only at hne)
      unfold Stp.may at hmay
      dsimp only at hmay
      clear hcc3 hbr hs3 hs1 hs2
      have hgo : (sk = 0 ∧ ¬ sr < 0 ∧ ¬ k ≤ sr ∧ editE ek key lab val = 0 ∧ key.size ≤ 8 ∧ val.size ≤ 12) ∨
          ((ek = 0 ∧ key = ⟨#[]⟩ ∧ lab = 0 ∧ val = ⟨#[]⟩) ∧ (sk == 0) = false ∧ (sk != 0) = true ∧ ¬ sk < 0 ∧ ¬ 11 < sk ∧ ¬ sr < 0 ∧ ((¬ 8 ≤ sk ∧ ¬ k ≤ sr) ∨ (8 ≤ sk ∧ sk ≤ 10 ∧ ¬ k ≤ sr) ∨ (8 ≤ sk ∧ ¬ sk ≤ 10 ∧ ¬ k ≤ sr) ∨ (8 ≤ sk ∧ sk ≤ 10 ∧ sr = 5 ∧ k ≤ 5))) := by
        rcases hmay with ⟨a0, a1, a2, a3, a4, a5⟩ | ⟨⟨z0, z1, z2, z3⟩, k1, k2, r0, hr⟩
        · exact .inl ⟨a0, by omega, by omega, a3, a4, a5⟩
        · refine .inr ⟨⟨z0, z1, z2, z3⟩, by simp; omega, by simp; omega, by omega, by omega, by omega, ?_⟩
          rcases hr with hr | hr
          · by_cases h8 : 8 ≤ sk
            · by_cases h10 : sk ≤ 10
              · exact .inr (.inl ⟨h8, h10, by omega⟩)
              · exact .inr (.inr (.inl ⟨h8, h10, by omega⟩))
            · exact .inl ⟨h8, by omega⟩
          · exact .inr (.inr (.inr ⟨hr.1, hr.2.1, hr.2.2, by omega⟩))
      clear hmay
      rcases hgo with ⟨rfl, hr0, hrk, he, hks, hvs⟩ | ⟨⟨rfl, rfl, rfl, rfl⟩, ke, kn, k0, k11, hr0, hgo⟩
      · have HE := Lib.hid he
        clear he
        go_wp2_with fail
        refine (edit_any _ _ _ _ _ (by omega) (by omega)).mono ?_
        rintro e w7 ⟨rfl, hb7⟩
        rw [HE.out]
        have aS := (At.new wr _ _).next hb7
        have hbW := (((Below.refl wr.heap.size wr).alloc (Nat.le_refl _) _).trans (hb7.mono (by simp)))
        have m0 := aS.cell 0 rfl
        have m1 := aS.cell 1 rfl
        have m2 := aS.cell 2 rfl
        have m3 := aS.cell 3 rfl
        have m4 := aS.cell 4 rfl
        have m5 := aS.cell 5 rfl
        have m6 := aS.cell 6 rfl
        have m7 := aS.cell 7 rfl
        have m8 := aS.cell 8 rfl
        have m9 := aS.cell 9 rfl
        go_upto_region 18 with (fail)
        clear hb7 m0 m1 m2 m3 m4 m5 m6 m7 m8 m9
        have hbr := Lib.hid (HBR.out.trans (hbW.mono HBR.out.size))
        have m0 := aS.cell 0 rfl
        have m1 := aS.cell 1 rfl
        have m2 := aS.cell 2 rfl
        have m3 := aS.cell 3 rfl
        have m4 := aS.cell 4 rfl
        have m5 := aS.cell 5 rfl
        have m6 := aS.cell 6 rfl
        have m7 := aS.cell 7 rfl
        have m8 := aS.cell 8 rfl
        have m9 := aS.cell 9 rfl
        have hrc := regrown_cell w7
        have hsz : wr.heap.size < w7.heap.size := aS.lt
        have hbW' := Lib.hid hbW
        clear hbW aS
        by_cases hjp : j < p
        · obtain ⟨b1, o1, hA1, hl1, hcc1⟩ := (HR1.out.below hbr.out).at_ j _ (HS1'.out hjp)
          subst hA1
          have v0 : w7.cell? ⟨b1, o1 + j * 10, none⟩ = some (.int .i64 0) := hcc1 0 _ rfl
          have v1 : w7.cell? ⟨b1, o1 + j * 10 + 1, none⟩ = some (.int .i64 sr) := hcc1 1 _ rfl
          have v2 : w7.cell? ⟨b1, o1 + j * 10 + 2, none⟩ = some (.int .i64 ek) := hcc1 2 _ rfl
          have v3 : w7.cell? ⟨b1, o1 + j * 10 + 3, none⟩ = some (.string key) := hcc1 3 _ rfl
          have v4 : w7.cell? ⟨b1, o1 + j * 10 + 4, none⟩ = some (.int .i64 lab) := hcc1 4 _ rfl
          have v5 : w7.cell? ⟨b1, o1 + j * 10 + 5, none⟩ = some (.string val) := hcc1 5 _ rfl
          have v6 : w7.cell? ⟨b1, o1 + j * 10 + 6, none⟩ = some (.int .i64 sa) := hcc1 6 _ rfl
          have v7 : w7.cell? ⟨b1, o1 + j * 10 + 7, none⟩ = some (.int .i64 sb) := hcc1 7 _ rfl
          have v8 : w7.cell? ⟨b1, o1 + j * 10 + 8, none⟩ = some (.int .u32 sm) := hcc1 8 _ rfl
          have v9 : w7.cell? ⟨b1, o1 + j * 10 + 9, none⟩ = some (.int .i64 sp) := hcc1 9 _ rfl
          have i1 : (j : Int) < (p : Int) := by omega
          have i4 : ¬ p ≤ j := by omega
          clear hcc1
          refine wp_region_line 29 (by kernel_rfl) (by kernel_rfl) ?_
          repeat (apply line_fix; (case now => (intro vs w' R hG hn hR; have hR' := Lib.hid hR; clear hR hn; obtain ⟨⟨dq, osq⟩, rfl⟩ := regrown_of_below hG; clear hG; go_simp; exact hR'.out _ (Below.refl _ _))); (case hangs => exact fun _ _ _ => rfl); (case hR => exact fun _ _ => ⟨_, Below.refl _ _⟩); (try simp only [Act.put, List.setIfInBounds_toArray, List.set_cons_zero, List.set_cons_succ]))
          refine line_last (fun vs w9 hG _ => ?_)
          replace hG : Below _ _ _ := hG
          clear hrc
          go_wp2_with fail
          go_roundw
          case measure => (simp [intOf]; omega)
          case rel => exact ⟨j + 1, by omega, by go_num, hbr.out.trans (hG.mono hbr.out.size)⟩
        · obtain ⟨t, ht⟩ : ∃ t, t = j - p := ⟨_, rfl⟩
          have i6 : (t : Int) < (q : Int) := by omega
          have i7 : (0 : Int) ≤ (t : Int) := by omega
          have i3 : (j : Int) - (p : Int) = (t : Int) := by omega
          have i5 : IntKind.i64.wrap (t : Int) = (t : Int) := IntWalk.i64_in _ (by omega)
          have HS2'' := HS2'.out (by omega)
          rw [← ht] at HS2''
          obtain ⟨b1, o1, hA1, hl1, hcc1⟩ := (HR2.out.below hbr.out).at_ t _ HS2''
          subst hA1
          have v0 : w7.cell? ⟨b1, o1 + t * 10, none⟩ = some (.int .i64 0) := hcc1 0 _ rfl
          have v1 : w7.cell? ⟨b1, o1 + t * 10 + 1, none⟩ = some (.int .i64 sr) := hcc1 1 _ rfl
          have v2 : w7.cell? ⟨b1, o1 + t * 10 + 2, none⟩ = some (.int .i64 ek) := hcc1 2 _ rfl
          have v3 : w7.cell? ⟨b1, o1 + t * 10 + 3, none⟩ = some (.string key) := hcc1 3 _ rfl
          have v4 : w7.cell? ⟨b1, o1 + t * 10 + 4, none⟩ = some (.int .i64 lab) := hcc1 4 _ rfl
          have v5 : w7.cell? ⟨b1, o1 + t * 10 + 5, none⟩ = some (.string val) := hcc1 5 _ rfl
          have v6 : w7.cell? ⟨b1, o1 + t * 10 + 6, none⟩ = some (.int .i64 sa) := hcc1 6 _ rfl
          have v7 : w7.cell? ⟨b1, o1 + t * 10 + 7, none⟩ = some (.int .i64 sb) := hcc1 7 _ rfl
          have v8 : w7.cell? ⟨b1, o1 + t * 10 + 8, none⟩ = some (.int .u32 sm) := hcc1 8 _ rfl
          have v9 : w7.cell? ⟨b1, o1 + t * 10 + 9, none⟩ = some (.int .i64 sp) := hcc1 9 _ rfl
          have i1 : ¬ (j : Int) < (p : Int) := by omega
          have i2 : (p : Int) ≤ (j : Int) := by omega
          have i4 : p ≤ j := by omega
          clear HS2'' ht
          clear hcc1
          refine wp_region_line 29 (by kernel_rfl) (by kernel_rfl) ?_
          repeat (apply line_fix; (case now => (intro vs w' R hG hn hR; have hR' := Lib.hid hR; clear hR hn; obtain ⟨⟨dq, osq⟩, rfl⟩ := regrown_of_below hG; clear hG; go_simp; exact hR'.out _ (Below.refl _ _))); (case hangs => exact fun _ _ _ => rfl); (case hR => exact fun _ _ => ⟨_, Below.refl _ _⟩); (try simp only [Act.put, List.setIfInBounds_toArray, List.set_cons_zero, List.set_cons_succ]))
          refine line_last (fun vs w9 hG _ => ?_)
          replace hG : Below _ _ _ := hG
          clear hrc
          go_wp2_with fail
          go_roundw
          case measure => (simp [intOf]; omega)
          case rel => exact ⟨j + 1, by omega, by go_num, hbr.out.trans (hG.mono hbr.out.size)⟩
      · have hz := neq_edit0
        rcases hgo with ⟨h8, hrk⟩ | ⟨h8, h10, hrk⟩ | ⟨h8, h10, hrk⟩ | ⟨h8, h10, rfl, hk5'⟩
        all_goals go_upto_region 18 with (fail)
        · refine wp_world (fun W => At W wr.heap.size [.int .i64 sk, .int .i64 _, .int .i64 0, .string ⟨#[]⟩, .int .i64 0, .string ⟨#[]⟩, .int .i64 sa, .int .i64 sb, .int .u32 sm, .int .i64 sp] ∧ Below wr.heap.size wr W) ⟨At.new wr _ _, (Below.refl wr.heap.size wr).alloc (Nat.le_refl _) _⟩ ?_
          rintro W ⟨aS, hbW⟩
          have hbr := Lib.hid (HBR.out.trans (hbW.mono HBR.out.size))
          have m0 := aS.cell 0 rfl
          have m1 := aS.cell 1 rfl
          have m2 := aS.cell 2 rfl
          have m3 := aS.cell 3 rfl
          have m4 := aS.cell 4 rfl
          have m5 := aS.cell 5 rfl
          have m6 := aS.cell 6 rfl
          have m7 := aS.cell 7 rfl
          have m8 := aS.cell 8 rfl
          have m9 := aS.cell 9 rfl
          have hrc := regrown_cell W
          have hsz : wr.heap.size < W.heap.size := aS.lt
          have hbW' := Lib.hid hbW
          clear hbW aS
          by_cases hjp : j < p
          · obtain ⟨b1, o1, hA1, hl1, hcc1⟩ := (HR1.out.below hbr.out).at_ j _ (HS1'.out hjp)
            subst hA1
            have v0 : W.cell? ⟨b1, o1 + j * 10, none⟩ = some (.int .i64 sk) := hcc1 0 _ rfl
            have v1 : W.cell? ⟨b1, o1 + j * 10 + 1, none⟩ = some (.int .i64 sr) := hcc1 1 _ rfl
            have v2 : W.cell? ⟨b1, o1 + j * 10 + 2, none⟩ = some (.int .i64 0) := hcc1 2 _ rfl
            have v3 : W.cell? ⟨b1, o1 + j * 10 + 3, none⟩ = some (.string ⟨#[]⟩) := hcc1 3 _ rfl
            have v4 : W.cell? ⟨b1, o1 + j * 10 + 4, none⟩ = some (.int .i64 0) := hcc1 4 _ rfl
            have v5 : W.cell? ⟨b1, o1 + j * 10 + 5, none⟩ = some (.string ⟨#[]⟩) := hcc1 5 _ rfl
            have v6 : W.cell? ⟨b1, o1 + j * 10 + 6, none⟩ = some (.int .i64 sa) := hcc1 6 _ rfl
            have v7 : W.cell? ⟨b1, o1 + j * 10 + 7, none⟩ = some (.int .i64 sb) := hcc1 7 _ rfl
            have v8 : W.cell? ⟨b1, o1 + j * 10 + 8, none⟩ = some (.int .u32 sm) := hcc1 8 _ rfl
            have v9 : W.cell? ⟨b1, o1 + j * 10 + 9, none⟩ = some (.int .i64 sp) := hcc1 9 _ rfl
            have i1 : (j : Int) < (p : Int) := by omega
            have i4 : ¬ p ≤ j := by omega
            clear hcc1
            refine wp_region_line 29 (by kernel_rfl) (by kernel_rfl) ?_
            repeat (apply line_fix; (case now => (intro vs w' R hG hn hR; have hR' := Lib.hid hR; clear hR hn; obtain ⟨⟨dq, osq⟩, rfl⟩ := regrown_of_below hG; clear hG; go_simp; exact hR'.out _ (Below.refl _ _))); (case hangs => exact fun _ _ _ => rfl); (case hR => exact fun _ _ => ⟨_, Below.refl _ _⟩); (try simp only [Act.put, List.setIfInBounds_toArray, List.set_cons_zero, List.set_cons_succ]))
            refine line_last (fun vs w9 hG _ => ?_)
            replace hG : Below _ _ _ := hG
            clear hrc
            go_wp2_with fail
            go_roundw
            case measure => (simp [intOf]; omega)
            case rel => exact ⟨j + 1, by omega, by go_num, hbr.out.trans (hG.mono hbr.out.size)⟩
          · obtain ⟨t, ht⟩ : ∃ t, t = j - p := ⟨_, rfl⟩
            have i6 : (t : Int) < (q : Int) := by omega
            have i7 : (0 : Int) ≤ (t : Int) := by omega
            have i3 : (j : Int) - (p : Int) = (t : Int) := by omega
            have i5 : IntKind.i64.wrap (t : Int) = (t : Int) := IntWalk.i64_in _ (by omega)
            have HS2'' := HS2'.out (by omega)
            rw [← ht] at HS2''
            obtain ⟨b1, o1, hA1, hl1, hcc1⟩ := (HR2.out.below hbr.out).at_ t _ HS2''
            subst hA1
            have v0 : W.cell? ⟨b1, o1 + t * 10, none⟩ = some (.int .i64 sk) := hcc1 0 _ rfl
            have v1 : W.cell? ⟨b1, o1 + t * 10 + 1, none⟩ = some (.int .i64 sr) := hcc1 1 _ rfl
            have v2 : W.cell? ⟨b1, o1 + t * 10 + 2, none⟩ = some (.int .i64 0) := hcc1 2 _ rfl
            have v3 : W.cell? ⟨b1, o1 + t * 10 + 3, none⟩ = some (.string ⟨#[]⟩) := hcc1 3 _ rfl
            have v4 : W.cell? ⟨b1, o1 + t * 10 + 4, none⟩ = some (.int .i64 0) := hcc1 4 _ rfl
            have v5 : W.cell? ⟨b1, o1 + t * 10 + 5, none⟩ = some (.string ⟨#[]⟩) := hcc1 5 _ rfl
            have v6 : W.cell? ⟨b1, o1 + t * 10 + 6, none⟩ = some (.int .i64 sa) := hcc1 6 _ rfl
            have v7 : W.cell? ⟨b1, o1 + t * 10 + 7, none⟩ = some (.int .i64 sb) := hcc1 7 _ rfl
            have v8 : W.cell? ⟨b1, o1 + t * 10 + 8, none⟩ = some (.int .u32 sm) := hcc1 8 _ rfl
            have v9 : W.cell? ⟨b1, o1 + t * 10 + 9, none⟩ = some (.int .i64 sp) := hcc1 9 _ rfl
            have i1 : ¬ (j : Int) < (p : Int) := by omega
            have i2 : (p : Int) ≤ (j : Int) := by omega
            have i4 : p ≤ j := by omega
            clear HS2'' ht
            clear hcc1
            refine wp_region_line 29 (by kernel_rfl) (by kernel_rfl) ?_
            repeat (apply line_fix; (case now => (intro vs w' R hG hn hR; have hR' := Lib.hid hR; clear hR hn; obtain ⟨⟨dq, osq⟩, rfl⟩ := regrown_of_below hG; clear hG; go_simp; exact hR'.out _ (Below.refl _ _))); (case hangs => exact fun _ _ _ => rfl); (case hR => exact fun _ _ => ⟨_, Below.refl _ _⟩); (try simp only [Act.put, List.setIfInBounds_toArray, List.set_cons_zero, List.set_cons_succ]))
            refine line_last (fun vs w9 hG _ => ?_)
            replace hG : Below _ _ _ := hG
            clear hrc
            go_wp2_with fail
            go_roundw
            case measure => (simp [intOf]; omega)
            case rel => exact ⟨j + 1, by omega, by go_num, hbr.out.trans (hG.mono hbr.out.size)⟩
        · refine wp_world (fun W => At W wr.heap.size [.int .i64 sk, .int .i64 _, .int .i64 0, .string ⟨#[]⟩, .int .i64 0, .string ⟨#[]⟩, .int .i64 sa, .int .i64 sb, .int .u32 sm, .int .i64 sp] ∧ Below wr.heap.size wr W) ⟨At.new wr _ _, (Below.refl wr.heap.size wr).alloc (Nat.le_refl _) _⟩ ?_
          rintro W ⟨aS, hbW⟩
          have hbr := Lib.hid (HBR.out.trans (hbW.mono HBR.out.size))
          have m0 := aS.cell 0 rfl
          have m1 := aS.cell 1 rfl
          have m2 := aS.cell 2 rfl
          have m3 := aS.cell 3 rfl
          have m4 := aS.cell 4 rfl
          have m5 := aS.cell 5 rfl
          have m6 := aS.cell 6 rfl
          have m7 := aS.cell 7 rfl
          have m8 := aS.cell 8 rfl
          have m9 := aS.cell 9 rfl
          have hrc := regrown_cell W
          have hsz : wr.heap.size < W.heap.size := aS.lt
          have hbW' := Lib.hid hbW
          clear hbW aS
          by_cases hjp : j < p
          · obtain ⟨b1, o1, hA1, hl1, hcc1⟩ := (HR1.out.below hbr.out).at_ j _ (HS1'.out hjp)
            subst hA1
            have v0 : W.cell? ⟨b1, o1 + j * 10, none⟩ = some (.int .i64 sk) := hcc1 0 _ rfl
            have v1 : W.cell? ⟨b1, o1 + j * 10 + 1, none⟩ = some (.int .i64 sr) := hcc1 1 _ rfl
            have v2 : W.cell? ⟨b1, o1 + j * 10 + 2, none⟩ = some (.int .i64 0) := hcc1 2 _ rfl
            have v3 : W.cell? ⟨b1, o1 + j * 10 + 3, none⟩ = some (.string ⟨#[]⟩) := hcc1 3 _ rfl
            have v4 : W.cell? ⟨b1, o1 + j * 10 + 4, none⟩ = some (.int .i64 0) := hcc1 4 _ rfl
            have v5 : W.cell? ⟨b1, o1 + j * 10 + 5, none⟩ = some (.string ⟨#[]⟩) := hcc1 5 _ rfl
            have v6 : W.cell? ⟨b1, o1 + j * 10 + 6, none⟩ = some (.int .i64 sa) := hcc1 6 _ rfl
            have v7 : W.cell? ⟨b1, o1 + j * 10 + 7, none⟩ = some (.int .i64 sb) := hcc1 7 _ rfl
            have v8 : W.cell? ⟨b1, o1 + j * 10 + 8, none⟩ = some (.int .u32 sm) := hcc1 8 _ rfl
            have v9 : W.cell? ⟨b1, o1 + j * 10 + 9, none⟩ = some (.int .i64 sp) := hcc1 9 _ rfl
            have i1 : (j : Int) < (p : Int) := by omega
            have i4 : ¬ p ≤ j := by omega
            clear hcc1
            refine wp_region_line 29 (by kernel_rfl) (by kernel_rfl) ?_
            repeat (apply line_fix; (case now => (intro vs w' R hG hn hR; have hR' := Lib.hid hR; clear hR hn; obtain ⟨⟨dq, osq⟩, rfl⟩ := regrown_of_below hG; clear hG; go_simp; exact hR'.out _ (Below.refl _ _))); (case hangs => exact fun _ _ _ => rfl); (case hR => exact fun _ _ => ⟨_, Below.refl _ _⟩); (try simp only [Act.put, List.setIfInBounds_toArray, List.set_cons_zero, List.set_cons_succ]))
            refine line_last (fun vs w9 hG _ => ?_)
            replace hG : Below _ _ _ := hG
            clear hrc
            go_wp2_with fail
            go_roundw
            case measure => (simp [intOf]; omega)
            case rel => exact ⟨j + 1, by omega, by go_num, hbr.out.trans (hG.mono hbr.out.size)⟩
          · obtain ⟨t, ht⟩ : ∃ t, t = j - p := ⟨_, rfl⟩
            have i6 : (t : Int) < (q : Int) := by omega
            have i7 : (0 : Int) ≤ (t : Int) := by omega
            have i3 : (j : Int) - (p : Int) = (t : Int) := by omega
            have i5 : IntKind.i64.wrap (t : Int) = (t : Int) := IntWalk.i64_in _ (by omega)
            have HS2'' := HS2'.out (by omega)
            rw [← ht] at HS2''
            obtain ⟨b1, o1, hA1, hl1, hcc1⟩ := (HR2.out.below hbr.out).at_ t _ HS2''
            subst hA1
            have v0 : W.cell? ⟨b1, o1 + t * 10, none⟩ = some (.int .i64 sk) := hcc1 0 _ rfl
            have v1 : W.cell? ⟨b1, o1 + t * 10 + 1, none⟩ = some (.int .i64 sr) := hcc1 1 _ rfl
            have v2 : W.cell? ⟨b1, o1 + t * 10 + 2, none⟩ = some (.int .i64 0) := hcc1 2 _ rfl
            have v3 : W.cell? ⟨b1, o1 + t * 10 + 3, none⟩ = some (.string ⟨#[]⟩) := hcc1 3 _ rfl
            have v4 : W.cell? ⟨b1, o1 + t * 10 + 4, none⟩ = some (.int .i64 0) := hcc1 4 _ rfl
            have v5 : W.cell? ⟨b1, o1 + t * 10 + 5, none⟩ = some (.string ⟨#[]⟩) := hcc1 5 _ rfl
            have v6 : W.cell? ⟨b1, o1 + t * 10 + 6, none⟩ = some (.int .i64 sa) := hcc1 6 _ rfl
            have v7 : W.cell? ⟨b1, o1 + t * 10 + 7, none⟩ = some (.int .i64 sb) := hcc1 7 _ rfl
            have v8 : W.cell? ⟨b1, o1 + t * 10 + 8, none⟩ = some (.int .u32 sm) := hcc1 8 _ rfl
            have v9 : W.cell? ⟨b1, o1 + t * 10 + 9, none⟩ = some (.int .i64 sp) := hcc1 9 _ rfl
            have i1 : ¬ (j : Int) < (p : Int) := by omega
            have i2 : (p : Int) ≤ (j : Int) := by omega
            have i4 : p ≤ j := by omega
            clear HS2'' ht
            clear hcc1
            refine wp_region_line 29 (by kernel_rfl) (by kernel_rfl) ?_
            repeat (apply line_fix; (case now => (intro vs w' R hG hn hR; have hR' := Lib.hid hR; clear hR hn; obtain ⟨⟨dq, osq⟩, rfl⟩ := regrown_of_below hG; clear hG; go_simp; exact hR'.out _ (Below.refl _ _))); (case hangs => exact fun _ _ _ => rfl); (case hR => exact fun _ _ => ⟨_, Below.refl _ _⟩); (try simp only [Act.put, List.setIfInBounds_toArray, List.set_cons_zero, List.set_cons_succ]))
            refine line_last (fun vs w9 hG _ => ?_)
            replace hG : Below _ _ _ := hG
            clear hrc
            go_wp2_with fail
            go_roundw
            case measure => (simp [intOf]; omega)
            case rel => exact ⟨j + 1, by omega, by go_num, hbr.out.trans (hG.mono hbr.out.size)⟩
        · refine wp_world (fun W => At W wr.heap.size [.int .i64 sk, .int .i64 _, .int .i64 0, .string ⟨#[]⟩, .int .i64 0, .string ⟨#[]⟩, .int .i64 sa, .int .i64 sb, .int .u32 sm, .int .i64 sp] ∧ Below wr.heap.size wr W) ⟨At.new wr _ _, (Below.refl wr.heap.size wr).alloc (Nat.le_refl _) _⟩ ?_
          rintro W ⟨aS, hbW⟩
          have hbr := Lib.hid (HBR.out.trans (hbW.mono HBR.out.size))
          have m0 := aS.cell 0 rfl
          have m1 := aS.cell 1 rfl
          have m2 := aS.cell 2 rfl
          have m3 := aS.cell 3 rfl
          have m4 := aS.cell 4 rfl
          have m5 := aS.cell 5 rfl
          have m6 := aS.cell 6 rfl
          have m7 := aS.cell 7 rfl
          have m8 := aS.cell 8 rfl
          have m9 := aS.cell 9 rfl
          have hrc := regrown_cell W
          have hsz : wr.heap.size < W.heap.size := aS.lt
          have hbW' := Lib.hid hbW
          clear hbW aS
          by_cases hjp : j < p
          · obtain ⟨b1, o1, hA1, hl1, hcc1⟩ := (HR1.out.below hbr.out).at_ j _ (HS1'.out hjp)
            subst hA1
            have v0 : W.cell? ⟨b1, o1 + j * 10, none⟩ = some (.int .i64 sk) := hcc1 0 _ rfl
            have v1 : W.cell? ⟨b1, o1 + j * 10 + 1, none⟩ = some (.int .i64 sr) := hcc1 1 _ rfl
            have v2 : W.cell? ⟨b1, o1 + j * 10 + 2, none⟩ = some (.int .i64 0) := hcc1 2 _ rfl
            have v3 : W.cell? ⟨b1, o1 + j * 10 + 3, none⟩ = some (.string ⟨#[]⟩) := hcc1 3 _ rfl
            have v4 : W.cell? ⟨b1, o1 + j * 10 + 4, none⟩ = some (.int .i64 0) := hcc1 4 _ rfl
            have v5 : W.cell? ⟨b1, o1 + j * 10 + 5, none⟩ = some (.string ⟨#[]⟩) := hcc1 5 _ rfl
            have v6 : W.cell? ⟨b1, o1 + j * 10 + 6, none⟩ = some (.int .i64 sa) := hcc1 6 _ rfl
            have v7 : W.cell? ⟨b1, o1 + j * 10 + 7, none⟩ = some (.int .i64 sb) := hcc1 7 _ rfl
            have v8 : W.cell? ⟨b1, o1 + j * 10 + 8, none⟩ = some (.int .u32 sm) := hcc1 8 _ rfl
            have v9 : W.cell? ⟨b1, o1 + j * 10 + 9, none⟩ = some (.int .i64 sp) := hcc1 9 _ rfl
            have i1 : (j : Int) < (p : Int) := by omega
            have i4 : ¬ p ≤ j := by omega
            clear hcc1
            refine wp_region_line 29 (by kernel_rfl) (by kernel_rfl) ?_
            repeat (apply line_fix; (case now => (intro vs w' R hG hn hR; have hR' := Lib.hid hR; clear hR hn; obtain ⟨⟨dq, osq⟩, rfl⟩ := regrown_of_below hG; clear hG; go_simp; exact hR'.out _ (Below.refl _ _))); (case hangs => exact fun _ _ _ => rfl); (case hR => exact fun _ _ => ⟨_, Below.refl _ _⟩); (try simp only [Act.put, List.setIfInBounds_toArray, List.set_cons_zero, List.set_cons_succ]))
            refine line_last (fun vs w9 hG _ => ?_)
            replace hG : Below _ _ _ := hG
            clear hrc
            go_wp2_with fail
            go_roundw
            case measure => (simp [intOf]; omega)
            case rel => exact ⟨j + 1, by omega, by go_num, hbr.out.trans (hG.mono hbr.out.size)⟩
          · obtain ⟨t, ht⟩ : ∃ t, t = j - p := ⟨_, rfl⟩
            have i6 : (t : Int) < (q : Int) := by omega
            have i7 : (0 : Int) ≤ (t : Int) := by omega
            have i3 : (j : Int) - (p : Int) = (t : Int) := by omega
            have i5 : IntKind.i64.wrap (t : Int) = (t : Int) := IntWalk.i64_in _ (by omega)
            have HS2'' := HS2'.out (by omega)
            rw [← ht] at HS2''
            obtain ⟨b1, o1, hA1, hl1, hcc1⟩ := (HR2.out.below hbr.out).at_ t _ HS2''
            subst hA1
            have v0 : W.cell? ⟨b1, o1 + t * 10, none⟩ = some (.int .i64 sk) := hcc1 0 _ rfl
            have v1 : W.cell? ⟨b1, o1 + t * 10 + 1, none⟩ = some (.int .i64 sr) := hcc1 1 _ rfl
            have v2 : W.cell? ⟨b1, o1 + t * 10 + 2, none⟩ = some (.int .i64 0) := hcc1 2 _ rfl
            have v3 : W.cell? ⟨b1, o1 + t * 10 + 3, none⟩ = some (.string ⟨#[]⟩) := hcc1 3 _ rfl
            have v4 : W.cell? ⟨b1, o1 + t * 10 + 4, none⟩ = some (.int .i64 0) := hcc1 4 _ rfl
            have v5 : W.cell? ⟨b1, o1 + t * 10 + 5, none⟩ = some (.string ⟨#[]⟩) := hcc1 5 _ rfl
            have v6 : W.cell? ⟨b1, o1 + t * 10 + 6, none⟩ = some (.int .i64 sa) := hcc1 6 _ rfl
            have v7 : W.cell? ⟨b1, o1 + t * 10 + 7, none⟩ = some (.int .i64 sb) := hcc1 7 _ rfl
            have v8 : W.cell? ⟨b1, o1 + t * 10 + 8, none⟩ = some (.int .u32 sm) := hcc1 8 _ rfl
            have v9 : W.cell? ⟨b1, o1 + t * 10 + 9, none⟩ = some (.int .i64 sp) := hcc1 9 _ rfl
            have i1 : ¬ (j : Int) < (p : Int) := by omega
            have i2 : (p : Int) ≤ (j : Int) := by omega
            have i4 : p ≤ j := by omega
            clear HS2'' ht
            clear hcc1
            refine wp_region_line 29 (by kernel_rfl) (by kernel_rfl) ?_
            repeat (apply line_fix; (case now => (intro vs w' R hG hn hR; have hR' := Lib.hid hR; clear hR hn; obtain ⟨⟨dq, osq⟩, rfl⟩ := regrown_of_below hG; clear hG; go_simp; exact hR'.out _ (Below.refl _ _))); (case hangs => exact fun _ _ _ => rfl); (case hR => exact fun _ _ => ⟨_, Below.refl _ _⟩); (try simp only [Act.put, List.setIfInBounds_toArray, List.set_cons_zero, List.set_cons_succ]))
            refine line_last (fun vs w9 hG _ => ?_)
            replace hG : Below _ _ _ := hG
            clear hrc
            go_wp2_with fail
            go_roundw
            case measure => (simp [intOf]; omega)
            case rel => exact ⟨j + 1, by omega, by go_num, hbr.out.trans (hG.mono hbr.out.size)⟩
        · refine wp_world (fun W => At W wr.heap.size [.int .i64 sk, .int .i64 _, .int .i64 0, .string ⟨#[]⟩, .int .i64 0, .string ⟨#[]⟩, .int .i64 sa, .int .i64 sb, .int .u32 sm, .int .i64 sp] ∧ Below wr.heap.size wr W) ⟨At.new wr _ _, (Below.refl wr.heap.size wr).alloc (Nat.le_refl _) _⟩ ?_
          rintro W ⟨aS, hbW⟩
          have hbr := Lib.hid (HBR.out.trans (hbW.mono HBR.out.size))
          have m0 := aS.cell 0 rfl
          have m1 := aS.cell 1 rfl
          have m2 := aS.cell 2 rfl
          have m3 := aS.cell 3 rfl
          have m4 := aS.cell 4 rfl
          have m5 := aS.cell 5 rfl
          have m6 := aS.cell 6 rfl
          have m7 := aS.cell 7 rfl
          have m8 := aS.cell 8 rfl
          have m9 := aS.cell 9 rfl
          have hrc := regrown_cell W
          have hsz : wr.heap.size < W.heap.size := aS.lt
          have hbW' := Lib.hid hbW
          clear hbW aS
          by_cases hjp : j < p
          · obtain ⟨b1, o1, hA1, hl1, hcc1⟩ := (HR1.out.below hbr.out).at_ j _ (HS1'.out hjp)
            subst hA1
            have v0 : W.cell? ⟨b1, o1 + j * 10, none⟩ = some (.int .i64 sk) := hcc1 0 _ rfl
            have v1 : W.cell? ⟨b1, o1 + j * 10 + 1, none⟩ = some (.int .i64 5) := hcc1 1 _ rfl
            have v2 : W.cell? ⟨b1, o1 + j * 10 + 2, none⟩ = some (.int .i64 0) := hcc1 2 _ rfl
            have v3 : W.cell? ⟨b1, o1 + j * 10 + 3, none⟩ = some (.string ⟨#[]⟩) := hcc1 3 _ rfl
            have v4 : W.cell? ⟨b1, o1 + j * 10 + 4, none⟩ = some (.int .i64 0) := hcc1 4 _ rfl
            have v5 : W.cell? ⟨b1, o1 + j * 10 + 5, none⟩ = some (.string ⟨#[]⟩) := hcc1 5 _ rfl
            have v6 : W.cell? ⟨b1, o1 + j * 10 + 6, none⟩ = some (.int .i64 sa) := hcc1 6 _ rfl
            have v7 : W.cell? ⟨b1, o1 + j * 10 + 7, none⟩ = some (.int .i64 sb) := hcc1 7 _ rfl
            have v8 : W.cell? ⟨b1, o1 + j * 10 + 8, none⟩ = some (.int .u32 sm) := hcc1 8 _ rfl
            have v9 : W.cell? ⟨b1, o1 + j * 10 + 9, none⟩ = some (.int .i64 sp) := hcc1 9 _ rfl
            have i1 : (j : Int) < (p : Int) := by omega
            have i4 : ¬ p ≤ j := by omega
            clear hcc1
            refine wp_region_line 29 (by kernel_rfl) (by kernel_rfl) ?_
            repeat (apply line_fix; (case now => (intro vs w' R hG hn hR; have hR' := Lib.hid hR; clear hR hn; obtain ⟨⟨dq, osq⟩, rfl⟩ := regrown_of_below hG; clear hG; go_simp; exact hR'.out _ (Below.refl _ _))); (case hangs => exact fun _ _ _ => rfl); (case hR => exact fun _ _ => ⟨_, Below.refl _ _⟩); (try simp only [Act.put, List.setIfInBounds_toArray, List.set_cons_zero, List.set_cons_succ]))
            refine line_last (fun vs w9 hG _ => ?_)
            replace hG : Below _ _ _ := hG
            clear hrc
            go_wp2_with fail
            go_roundw
            case measure => (simp [intOf]; omega)
            case rel => exact ⟨j + 1, by omega, by go_num, hbr.out.trans (hG.mono hbr.out.size)⟩
          · obtain ⟨t, ht⟩ : ∃ t, t = j - p := ⟨_, rfl⟩
            have i6 : (t : Int) < (q : Int) := by omega
            have i7 : (0 : Int) ≤ (t : Int) := by omega
            have i3 : (j : Int) - (p : Int) = (t : Int) := by omega
            have i5 : IntKind.i64.wrap (t : Int) = (t : Int) := IntWalk.i64_in _ (by omega)
            have HS2'' := HS2'.out (by omega)
            rw [← ht] at HS2''
            obtain ⟨b1, o1, hA1, hl1, hcc1⟩ := (HR2.out.below hbr.out).at_ t _ HS2''
            subst hA1
            have v0 : W.cell? ⟨b1, o1 + t * 10, none⟩ = some (.int .i64 sk) := hcc1 0 _ rfl
            have v1 : W.cell? ⟨b1, o1 + t * 10 + 1, none⟩ = some (.int .i64 5) := hcc1 1 _ rfl
            have v2 : W.cell? ⟨b1, o1 + t * 10 + 2, none⟩ = some (.int .i64 0) := hcc1 2 _ rfl
            have v3 : W.cell? ⟨b1, o1 + t * 10 + 3, none⟩ = some (.string ⟨#[]⟩) := hcc1 3 _ rfl
            have v4 : W.cell? ⟨b1, o1 + t * 10 + 4, none⟩ = some (.int .i64 0) := hcc1 4 _ rfl
            have v5 : W.cell? ⟨b1, o1 + t * 10 + 5, none⟩ = some (.string ⟨#[]⟩) := hcc1 5 _ rfl
            have v6 : W.cell? ⟨b1, o1 + t * 10 + 6, none⟩ = some (.int .i64 sa) := hcc1 6 _ rfl
            have v7 : W.cell? ⟨b1, o1 + t * 10 + 7, none⟩ = some (.int .i64 sb) := hcc1 7 _ rfl
            have v8 : W.cell? ⟨b1, o1 + t * 10 + 8, none⟩ = some (.int .u32 sm) := hcc1 8 _ rfl
            have v9 : W.cell? ⟨b1, o1 + t * 10 + 9, none⟩ = some (.int .i64 sp) := hcc1 9 _ rfl
            have i1 : ¬ (j : Int) < (p : Int) := by omega
            have i2 : (p : Int) ≤ (j : Int) := by omega
            have i4 : p ≤ j := by omega
            clear HS2'' ht
            clear hcc1
            refine wp_region_line 29 (by kernel_rfl) (by kernel_rfl) ?_
            repeat (apply line_fix; (case now => (intro vs w' R hG hn hR; have hR' := Lib.hid hR; clear hR hn; obtain ⟨⟨dq, osq⟩, rfl⟩ := regrown_of_below hG; clear hG; go_simp; exact hR'.out _ (Below.refl _ _))); (case hangs => exact fun _ _ _ => rfl); (case hR => exact fun _ _ => ⟨_, Below.refl _ _⟩); (try simp only [Act.put, List.setIfInBounds_toArray, List.set_cons_zero, List.set_cons_succ]))
            refine line_last (fun vs w9 hG _ => ?_)
            replace hG : Below _ _ _ := hG
            clear hrc
            go_wp2_with fail
            go_roundw
            case measure => (simp [intOf]; omega)
            case rel => exact ⟨j + 1, by omega, by go_num, hbr.out.trans (hG.mono hbr.out.size)⟩
    · have hjq' : ¬ (j : Int) < ((p + q : Nat) : Int) := by omega
      go_wp2
      go_ret
      exact ⟨rfl, HB6.out.trans (hbr.mono HB6.out.size)⟩
end Go.Proofs.YtdabndoojkdicaaDoor
