/- The law ScriptTails returns true at each bytes, cut and number, and turns nothing that was there. Conditions: bytes are bytes; the tables hold what the package's text lays. -/
import Derived.Test.YtdabndoojkdicaaDoorScriptLaw
set_option linter.unusedVariables false
set_option linter.unusedSimpArgs false
namespace Go.Proofs.YtdabndoojkdicaaDoor
open Go.RowKit
attribute [local go_sem] gives Gives

theorem filter_range (m : Nat) : (List.range (parts m)).filter (fun k => decide (8 * k + 8 ≤ m)) = List.range (m / 8) := by
  have h0 : (List.range (m / 8)).filter (fun k => decide (8 * k + 8 ≤ m)) = List.range (m / 8) := by
    rw [List.filter_eq_self]
    intro k hk
    have := List.mem_range.1 hk
    simp
    omega
  have hp : parts m = m / 8 ∨ parts m = m / 8 + 1 := by unfold parts; omega
  rcases hp with h | h
  · rw [h]; exact h0
  · rw [h, List.range_succ, List.filter_append, h0]
    have : ¬ 8 * (m / 8) + 8 ≤ m := by omega
    simp [this]
/-- All steps of these bytes. -/
def allSteps (n : Int) (bs : List Int) : List Stp := (List.range (bs.length / 8)).map fun k => stepOf n (b8At bs k)
theorem stepsIn_all (n : Int) (bs : List Int) (len : Nat) (h : bs.length = len) : allSteps n bs = stepsIn n bs (List.range (parts len)) := by
  unfold allSteps stepsIn
  rw [← h, filter_range]
theorem allSteps_length (n : Int) (bs : List Int) : (allSteps n bs).length = bs.length / 8 := by simp [allSteps]
theorem allSteps_at (n : Int) (bs : List Int) (i : Nat) (h : i < bs.length / 8) : (allSteps n bs)[i]? = some (stepOf n (b8At bs i)) := by simp [allSteps, h]
theorem b8At_take (bs : List Int) (m k : Nat) (h : 8 * k + 8 ≤ m) : b8At (bs.take m) k = b8At bs k := by
  have : ∀ i, i < m → (bs.take m).getD i 0 = bs.getD i 0 := by
    intro i hi
    rw [List.getD_eq_getElem?_getD, List.getD_eq_getElem?_getD, List.getElem?_take_of_lt hi]
  unfold b8At
  rw [this _ (by omega), this _ (by omega), this _ (by omega), this _ (by omega), this _ (by omega), this _ (by omega), this _ (by omega), this _ (by omega)]
theorem clampN_twice (n : Int) : clampN (clampN n) = clampN n := by
  have := clampN_range n
  generalize clampN n = m at *
  unfold clampN
  rw [if_neg (by omega), if_neg (by omega)]
theorem nums_take (bs : List Int) (m : Nat) : nums .u8 (bs.take m) = (nums .u8 bs).take m := by simp [nums, List.map_take]
theorem Rd.bytes {w : World} {A : Option Addr} {n : Nat} {bs : List Int} (h : Rd w A n 1 (nums .u8 bs)) (m : Nat) (hm : m ≤ n) : Rd w A m 1 (nums .u8 (bs.take m)) := by
  have := h.take_ m hm
  rwa [Nat.mul_one, ← nums_take] at this

set_option maxHeartbeats 4000000 in
theorem scriptTails_walk (A : Option Addr) (n c : Nat) (bs : List Int) (cut nn : Int) (w : World) (hR : Rd w A n 1 (nums .u8 bs)) (hb : ∀ x ∈ bs, 0 ≤ x ∧ x ≤ 255) (hc : n ≤ c) (c0 : 0 ≤ cut) (c1 : cut ≤ 255) (hT : Tabs w) :
    Calls Tryd.prog 3 #[.slice A n c, .int .u8 cut, .int .i64 nn] w fun e w' => e = .returned (.bool true) ∧ Below w.heap.size w w' := by
  have hlen : bs.length = n := by have := hR.1; simpa [nums] using this
  have hn := hR.2.1
  obtain ⟨m, hm⟩ : ∃ m, m = min n 400 := ⟨_, rfl⟩
  have HF := Lib.hid (fun W => few23_any A n c W hn hc)
  rw [← hm] at HF
  have hmn : m ≤ n := by omega
  have hm4 : m ≤ 400 := by omega
  obtain ⟨x, hx⟩ : ∃ x, x = m / 8 * 8 := ⟨_, rfl⟩
  have hxm : x ≤ m := by omega
  have x1 : (m : Int) / 8 * 8 = (x : Int) := by omega
  obtain ⟨k, hk⟩ : ∃ k : Nat, (if (x : Int) < cut % 8 then (x : Int) else cut % 8) = (k : Int) := ⟨(if (x : Int) < cut % 8 then (x : Int) else cut % 8).toNat, by split <;> omega⟩
  have hkx : k ≤ x := by split at hk <;> omega
  have hk7 : k ≤ 7 := by split at hk <;> omega
  obtain ⟨y, hy⟩ : ∃ y, y = x - k := ⟨_, rfl⟩
  have y1 : (x : Int) - (k : Int) = (y : Int) := by omega
  have hyx : y ≤ x := by omega
  have w0 : IntKind.i64.wrap cut = cut := IntWalk.i64_in _ (by omega)
  have w1 : cut.tmod 8 = cut % 8 := Int.tmod_eq_emod_of_nonneg c0
  obtain ⟨i0, hi0⟩ : ∃ i, Tryd.prog.info? 5 = some i := ⟨_, rfl⟩
  have s1 := fun W => run_cut (P := Tryd.prog) 22 5 .i64 Tryd.underlying22 hi0 A m c x (by omega) W
  have s2 := fun W => run_cut (P := Tryd.prog) 22 5 .i64 Tryd.underlying22 hi0 A x c y (by omega) W
  obtain ⟨L1, hL1⟩ : ∃ L, L = allSteps (clampN nn) (bs.take x) := ⟨_, rfl⟩
  obtain ⟨L2, hL2⟩ : ∃ L, L = allSteps (clampN nn) (bs.take y) := ⟨_, rfl⟩
  have lx : (bs.take x).length = x := by rw [List.length_take]; omega
  have ly : (bs.take y).length = y := by rw [List.length_take]; omega
  have hbx : ∀ z ∈ bs.take x, 0 ≤ z ∧ z ≤ 255 := fun z hz => hb z (List.mem_of_mem_take hz)
  have hby : ∀ z ∈ bs.take y, 0 ≤ z ∧ z ≤ 255 := fun z hz => hb z (List.mem_of_mem_take hz)
  have HS1 := Lib.hid (fun W (h : Below w.heap.size w W) => steps_any nn A x c (bs.take x) W ((hR.bytes x (by omega)).below h) hbx (by omega) (by omega) (hT.below h) L1 (by rw [hL1]; exact stepsIn_all _ _ _ lx))
  have HS2 := Lib.hid (fun W (h : Below w.heap.size w W) => steps_any (clampN nn) A y c (bs.take y) W ((hR.bytes y (by omega)).below h) hby (by omega) (by omega) (hT.below h) L2 (by rw [hL2, clampN_twice]; exact stepsIn_all _ _ _ ly))
  have HT := Lib.hid hT
  have e1 : L1.length = x / 8 := by rw [hL1, allSteps_length, lx]
  have e2 : L2.length = y / 8 := by rw [hL2, allSteps_length, ly]
  have HSAME := Lib.hid (show ∀ i, i < y / 8 → ∃ s, L1[i]? = some s ∧ L2[i]? = some s by
    intro i hi
    refine ⟨stepOf (clampN nn) (b8At bs i), ?_, ?_⟩
    · rw [hL1, allSteps_at _ _ _ (by rw [lx]; omega), b8At_take _ _ _ (by omega)]
    · rw [hL2, allSteps_at _ _ _ (by rw [ly]; omega), b8At_take _ _ _ (by omega)])
  obtain ⟨p, hp⟩ : ∃ p, p = L1.length := ⟨_, rfl⟩
  obtain ⟨q, hq⟩ : ∃ q, q = L2.length := ⟨_, rfl⟩
  rw [← hp] at HS1 e1
  rw [← hq] at HS2 e2
  have hpq : (k = 0 ∧ q = p) ∨ (0 < k ∧ q + 1 = p) := by omega
  rw [← e2] at HSAME
  have E1 := Lib.hid e1
  have E2 := Lib.hid e2
  have HQ := Lib.hid hq
  have HP := Lib.hid hp
  obtain ⟨qn, hqn⟩ : ∃ q, (if nn < 1 then (1 : Int) else nn) = q := ⟨_, rfl⟩
  have hcn : (if (5 : Int) < qn then (5 : Int) else qn) = clampN nn := by rw [← hqn]; unfold clampN; repeat' split <;> omega
  have hp4 : p ≤ 50 := by omega
  have HPQ := Lib.hid hpq
  clear hL1 hL2 lx ly hbx hby e1 e2 hp hq hT hlen hm hx hy hpq hb hi0
  have hgo : (¬ 0 < (k : Int) ∧ ((q : Int) != (p : Int)) = false) ∨ (0 < (k : Int) ∧ (p : Int) - 1 = (q : Int)) := by
    rcases HPQ.out with ⟨h1, h2⟩ | ⟨h1, h2⟩
    · exact .inl ⟨by omega, by rw [h2]; simp⟩
    · exact .inr ⟨by omega, by omega⟩
  rcases hgo with ⟨k0, kq⟩ | ⟨k0, kq⟩
  all_goals
    go_enter Tryd.func3, Tryd.ntmps3
    go_wp2_with fail
    refine (shown23_any _ HT.out).mono ?_
    rintro e w1' ⟨rfl, hb1n⟩
    go_wp2_with fail
    refine (HF.out _).mono ?_
    rintro e w' ⟨rfl, rfl⟩
    go_wp2_with fail
    refine (HS1.out _ hb1n).mono ?_
    rintro e w2 ⟨A2, c2, rfl, hc2, hRS2, hb2⟩
    have hb2n := below_next hb1n hb2
    go_wp2_with fail
    refine (HS2.out _ hb2n).mono ?_
    rintro e w3 ⟨A3, c3, rfl, hc3, hRS3, hb3⟩
    have hb3n := below_next hb2n hb3
    have hRS2' := hRS2.below hb3
    have H1 := Lib.hid hRS2'
    have H2 := Lib.hid hRS3
    have HB3 := Lib.hid hb3n
    clear hRS2 hRS2' hRS3 hb1n hb2 hb2n hb3 hb3n
    go_wp2_with fail
    go_loopw [13] (fun i wr => ∃ j : Nat, j ≤ q ∧ i = .int .i64 j ∧ Below w3.heap.size w3 wr) (fun i _ => q - (intOf i).toNat)
    case atStart => exact ⟨0, by omega, rfl, Below.refl _ _⟩
    case round =>
      obtain ⟨j, hj, rfl, hbr⟩ := hrel
      have hqp : q ≤ p := by have := HPQ.out; omega
      by_cases hjq : j < q
      · obtain ⟨s, hs1, hs2⟩ := HSAME.out j hjq
        obtain ⟨b1, o1, hA1, hl1, hcc1⟩ := (H1.out.below hbr).at_ j s hs1
        obtain ⟨b2, o2, hA2, hl2, hcc2⟩ := (H2.out.below hbr).at_ j s hs2
        subst hA1 hA2
        have u0 : wr.cell? ⟨b1, o1 + j * 10, none⟩ = some (.int .i64 s.kind) := hcc1 0 _ rfl
        have u1 : wr.cell? ⟨b1, o1 + j * 10 + 1, none⟩ = some (.int .i64 s.r) := hcc1 1 _ rfl
        have u2 : wr.cell? ⟨b1, o1 + j * 10 + 2, none⟩ = some (.int .i64 s.ek) := hcc1 2 _ rfl
        have u3 : wr.cell? ⟨b1, o1 + j * 10 + 3, none⟩ = some (.string s.key) := hcc1 3 _ rfl
        have u4 : wr.cell? ⟨b1, o1 + j * 10 + 4, none⟩ = some (.int .i64 s.lab) := hcc1 4 _ rfl
        have u5 : wr.cell? ⟨b1, o1 + j * 10 + 5, none⟩ = some (.string s.val) := hcc1 5 _ rfl
        have u6 : wr.cell? ⟨b1, o1 + j * 10 + 6, none⟩ = some (.int .i64 s.at_) := hcc1 6 _ rfl
        have u7 : wr.cell? ⟨b1, o1 + j * 10 + 7, none⟩ = some (.int .i64 s.bit) := hcc1 7 _ rfl
        have u8 : wr.cell? ⟨b1, o1 + j * 10 + 8, none⟩ = some (.int .u32 s.mask) := hcc1 8 _ rfl
        have u9 : wr.cell? ⟨b1, o1 + j * 10 + 9, none⟩ = some (.int .i64 s.keep) := hcc1 9 _ rfl
        have v0 : wr.cell? ⟨b2, o2 + j * 10, none⟩ = some (.int .i64 s.kind) := hcc2 0 _ rfl
        have v1 : wr.cell? ⟨b2, o2 + j * 10 + 1, none⟩ = some (.int .i64 s.r) := hcc2 1 _ rfl
        have v2 : wr.cell? ⟨b2, o2 + j * 10 + 2, none⟩ = some (.int .i64 s.ek) := hcc2 2 _ rfl
        have v3 : wr.cell? ⟨b2, o2 + j * 10 + 3, none⟩ = some (.string s.key) := hcc2 3 _ rfl
        have v4 : wr.cell? ⟨b2, o2 + j * 10 + 4, none⟩ = some (.int .i64 s.lab) := hcc2 4 _ rfl
        have v5 : wr.cell? ⟨b2, o2 + j * 10 + 5, none⟩ = some (.string s.val) := hcc2 5 _ rfl
        have v6 : wr.cell? ⟨b2, o2 + j * 10 + 6, none⟩ = some (.int .i64 s.at_) := hcc2 6 _ rfl
        have v7 : wr.cell? ⟨b2, o2 + j * 10 + 7, none⟩ = some (.int .i64 s.bit) := hcc2 7 _ rfl
        have v8 : wr.cell? ⟨b2, o2 + j * 10 + 8, none⟩ = some (.int .u32 s.mask) := hcc2 8 _ rfl
        have v9 : wr.cell? ⟨b2, o2 + j * 10 + 9, none⟩ = some (.int .i64 s.keep) := hcc2 9 _ rfl
        have hne := fun W => neq_step s W
        unfold Stp.v Stp.cells at hne
        (try dsimp only at hne)
        have j1 : (j : Int) < (q : Int) := by omega
        have j2 : (j : Int) < (p : Int) := by omega
        have j3 : (0 : Int) ≤ (j : Int) := by omega
        have HBR := Lib.hid hbr
        clear hcc1 hcc2 hs1 hs2 hbr
        go_wp2
        have hrc := regrown_cell wr
        refine wp_region_line 8 (by kernel_rfl) (by kernel_rfl) ?_
        apply line_fix
        case now => (intro vs w' R hG hn hR; have hR' := Lib.hid hR; clear hR hn; obtain ⟨⟨dq, osq⟩, rfl⟩ := regrown_of_below hG; clear hG; go_simp; exact hR'.out _ (Below.refl _ _))
        case hangs => exact fun _ _ _ => rfl
        case hR => exact fun _ _ => ⟨_, Below.refl _ _⟩
        (try simp only [Act.put, List.setIfInBounds_toArray, List.set_cons_zero, List.set_cons_succ])
        apply line_fix
        case now => (intro vs w' R hG hn hR; have hR' := Lib.hid hR; clear hR hn; obtain ⟨⟨dq, osq⟩, rfl⟩ := regrown_of_below hG; clear hG; go_simp; exact hR'.out _ (Below.refl _ _))
        case hangs => exact fun _ _ _ => rfl
        case hR => exact fun _ _ => ⟨_, Below.refl _ _⟩
        (try simp only [Act.put, List.setIfInBounds_toArray, List.set_cons_zero, List.set_cons_succ])
        apply line_fix
        case now => (intro vs w' R hG hn hR; have hR' := Lib.hid hR; clear hR hn; obtain ⟨⟨dq, osq⟩, rfl⟩ := regrown_of_below hG; clear hG; go_simp; exact hR'.out _ (Below.refl _ _))
        case hangs => exact fun _ _ _ => rfl
        case hR => exact fun _ _ => ⟨_, Below.refl _ _⟩
        (try simp only [Act.put, List.setIfInBounds_toArray, List.set_cons_zero, List.set_cons_succ])
        apply line_fix
        case now => (intro vs w' R hG hn hR; have hR' := Lib.hid hR; clear hR hn; obtain ⟨⟨dq, osq⟩, rfl⟩ := regrown_of_below hG; clear hG; go_simp; exact hR'.out _ (Below.refl _ _))
        case hangs => exact fun _ _ _ => rfl
        case hR => exact fun _ _ => ⟨_, Below.refl _ _⟩
        (try simp only [Act.put, List.setIfInBounds_toArray, List.set_cons_zero, List.set_cons_succ])
        apply line_fix
        case now => (intro vs w' R hG hn hR; have hR' := Lib.hid hR; clear hR hn; obtain ⟨⟨dq, osq⟩, rfl⟩ := regrown_of_below hG; clear hG; go_simp; exact hR'.out _ (Below.refl _ _))
        case hangs => exact fun _ _ _ => rfl
        case hR => exact fun _ _ => ⟨_, Below.refl _ _⟩
        (try simp only [Act.put, List.setIfInBounds_toArray, List.set_cons_zero, List.set_cons_succ])
        apply line_fix
        case now => (intro vs w' R hG hn hR; have hR' := Lib.hid hR; clear hR hn; obtain ⟨⟨dq, osq⟩, rfl⟩ := regrown_of_below hG; clear hG; go_simp; exact hR'.out _ (Below.refl _ _))
        case hangs => exact fun _ _ _ => rfl
        case hR => exact fun _ _ => ⟨_, Below.refl _ _⟩
        (try simp only [Act.put, List.setIfInBounds_toArray, List.set_cons_zero, List.set_cons_succ])
        apply line_fix
        case now => (intro vs w' R hG hn hR; have hR' := Lib.hid hR; clear hR hn; obtain ⟨⟨dq, osq⟩, rfl⟩ := regrown_of_below hG; clear hG; go_simp; exact hR'.out _ (Below.refl _ _))
        case hangs => exact fun _ _ _ => rfl
        case hR => exact fun _ _ => ⟨_, Below.refl _ _⟩
        (try simp only [Act.put, List.setIfInBounds_toArray, List.set_cons_zero, List.set_cons_succ])
        apply line_fix
        case now => (intro vs w' R hG hn hR; have hR' := Lib.hid hR; clear hR hn; obtain ⟨⟨dq, osq⟩, rfl⟩ := regrown_of_below hG; clear hG; go_simp; exact hR'.out _ (Below.refl _ _))
        case hangs => exact fun _ _ _ => rfl
        case hR => exact fun _ _ => ⟨_, Below.refl _ _⟩
        (try simp only [Act.put, List.setIfInBounds_toArray, List.set_cons_zero, List.set_cons_succ])
        refine line_last (fun vs w5 hG _ => ?_)
        replace hG : Below _ _ _ := hG
        clear hrc
        go_wp2_with fail
        go_roundw
        case measure => (simp [intOf]; omega)
        case rel => exact ⟨j + 1, by omega, by go_num, HBR.out.trans (hG.mono HBR.out.size)⟩
      · have hjq' : ¬ (j : Int) < (q : Int) := by omega
        go_wp2
        go_ret
        exact ⟨rfl, HB3.out.trans (hbr.mono HB3.out.size)⟩
end Go.Proofs.YtdabndoojkdicaaDoor
