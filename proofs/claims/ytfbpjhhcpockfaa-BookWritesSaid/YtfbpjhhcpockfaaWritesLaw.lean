/- BookWrites: the walk of the whole law. No condition. -/
import Derived.Test.YtfbpjhhcpockfaaWrites
import Derived.Test.YtfbpjhhcpockfaaOrder
import Derived.IntWalk
set_option linter.unusedVariables false
set_option linter.unusedSimpArgs false
namespace Go.Proofs.Ytfbpjhhcpockfaa
open Go.RowKit Go.Shelf Go.Maps
attribute [local go_sem] gives Gives
theorem sets_len (many : Nat → Nat) (h : ∀ r, many r < 8) : ∀ j, (setsW many j).length ≤ 7 * j
  | 0 => by simp [setsW]
  | j + 1 => by
    have := sets_len many h j
    have := h j
    unfold setsW blockW
    simp
    omega
theorem sets_ok (many : Nat → Nat) (h : ∀ r, many r < 8) (j : Nat) : ∀ e ∈ listW many j, e.ok := by
  intro e he
  rcases List.mem_cons.1 he with rfl | he
  · exact ev_ok _ (by decide) (by decide) (by decide)
  · obtain ⟨r, k, _, _, rfl⟩ := mem_sets j he
    exact ev_ok _ (by show cyB.size ≤ 1000; decide) (by show (2 : Nat) ≤ 1000; decide) (by show (Lit.int .i64 0).wf = true; decide)
set_option maxRecDepth 100000 in
set_option maxHeartbeats 4000000 in
theorem bookWrites_walk (n : Nat → Nat) (hn : ∀ i, n i < 256) (w : World) :
    Calls Try.prog 5 #[.agg #[.int .u8 (n 0), .int .u8 (n 1), .int .u8 (n 2), .int .u8 (n 3), .int .u8 (n 4)]] w fun e w' => e = .returned (.bool true) ∧ Below w.heap.size w w' := by
  obtain ⟨many, hmany⟩ : ∃ many : Nat → Nat, many = fun r => n r % 8 := ⟨_, rfl⟩
  have hm8 : ∀ r, many r < 8 := fun r => by rw [hmany]; exact Nat.mod_lt _ (by decide)
  obtain ⟨w1, hw1⟩ : ∃ w1, w1 = w.alloc (.cells #[.int .u8 (n 0), .int .u8 (n 1), .int .u8 (n 2), .int .u8 (n 3), .int .u8 (n 4)] 51) := ⟨_, rfl⟩
  have hb1 : Below w.heap.size w w1 := by rw [hw1]; exact (Below.refl _ _).alloc (Nat.le_refl _) _
  have hA1 : At w1 w.heap.size [.int .u8 (n 0), .int .u8 (n 1), .int .u8 (n 2), .int .u8 (n 3), .int .u8 (n 4)] := by rw [hw1]; exact At.new _ _ _
  have HW1 := Lib.hid hw1
  have H1 := Lib.hid (And.intro hb1 hA1)
  have HM := Lib.hid hmany
  clear hw1 hb1 hA1 hmany
  go_enter Try.func5, Try.ntmps5
  go_upto_region 1 with (fail)
  rw [← HW1.out]
  go_wp2_with fail
  refine (shown09_any w1).mono ?_
  rintro e w2 ⟨rfl, hb2⟩
  obtain ⟨w3, hw3⟩ : ∃ w3, w3 = w2.alloc (.cells one1.cells.toArray 35) := ⟨_, rfl⟩
  have hb3 : Below w2.heap.size w2 w3 := by rw [hw3]; exact (Below.refl _ _).alloc (Nat.le_refl _) _
  have hA3 := (H1.out.2.next hb2).next hb3
  have hsz1 := H1.out.2.lt
  have hsz2 := hb2.size
  have hO3 : w3.ownsRow (w.heap.size + 1) 35 12 (.slice (some ⟨w2.heap.size, 0, none⟩) 1 1) 1 (evCells (listW many 0)) := by
    rw [hw3]
    have := World.ownsRow_lit (base := w.heap.size + 1) (e := 35) (size := 12) w2 one1.cells.toArray 1 (by omega) (by unfold maxLen; decide) rfl
    simpa [listW, setsW, evCells] using this
  have hB3 : Below w.heap.size w w3 := below_next (below_next H1.out.1 hb2) hb3
  have HW3 := Lib.hid hw3
  have H3 := Lib.hid (And.intro hA3 (And.intro hO3 hB3))
  have lB : w.heap.size < w3.heap.size := hA3.lt
  clear hw3 hb3 hb2 hA3 hO3 hB3
  go_wp2_with fail
  simp only [Ev.cells, one1, cyB] at HW3
  try rw [← HW3.out]
  go_loopw [4, 5, 6, 7] (fun v bi hi i wr => ∃ j : Nat, j ≤ 5 ∧ i = .int .i64 j ∧ bi = .int .i64 (bestW many j).1 ∧ hi = .int .i64 ((bestW many j).2 : Nat) ∧ wr.ownsRow (w.heap.size + 1) 35 12 v (1 + (setsW many j).length) (evCells (listW many j)) ∧ Below (w.heap.size + 1) w3 wr) (fun _ _ _ i _ => 5 - (intOf i).toNat)
  case atStart => exact ⟨0, by omega, rfl, rfl, rfl, H3.out.2.1, Below.refl _ _⟩
  case round =>
    obtain ⟨j, hj, rfl, rfl, rfl, hO, hb⟩ := hrel
    have hbr := bestW_range many j
    have hbn : bestW many (j + 1) = if (bestW many j).2 ≤ many j ∧ 0 < many j then ((j : Int), many j) else bestW many j := rfl
    have hlen := sets_len many hm8 j
    obtain ⟨q, hq⟩ : ∃ q, q = bestW many j := ⟨_, rfl⟩
    rw [← hq] at hbr hbn
    have HQ := Lib.hid hq
    have HBN := Lib.hid hbn
    have HO := Lib.hid hO
    have HB := Lib.hid hb
    have hsz := hb.size
    rw [← hq]
    clear hq hbn hO hb
    obtain ⟨bi, hi⟩ := q
    dsimp only at hbr
    by_cases hj5 : j < 5
    · have hA := H3.out.1.below HB.out (by omega)
      have cj : wr.cell? ⟨w.heap.size, j, none⟩ = some (.int .u8 (n j : Nat)) := by
        rcases (show j = 0 ∨ j = 1 ∨ j = 2 ∨ j = 3 ∨ j = 4 by omega) with rfl | rfl | rfl | rfl | rfl
        · exact hA.cell 0 rfl
        · exact hA.cell 1 rfl
        · exact hA.cell 2 rfl
        · exact hA.cell 3 rfl
        · exact hA.cell 4 rfl
      have hnj : ((n j : Nat) : Int) < 256 := by have := hn j; omega
      have hx : ((n j : Nat) : Int) % 8 = ((many j : Nat) : Int) := by rw [HM.out]; show _ = ((n j % 8 : Nat) : Int); omega
      have hx8 := hm8 j
      clear hA
      go_wp2_with fail
      refine wr_loop2 _ (j : Int) j (many j) (1 + (setsW many j).length) (w.heap.size + 1) rfl hj5 hx8 u4 (listW many j) wr _ _ _ _ _ _ _ _ _ _ _ _ _ _ _ _ _ _ _ _ _ _ _ _ _ _ _ _ _ _ _ _ _ _ _ _ _ _ _ _ _ _ _ _ _ _ _ _ _ _ _ _ _ _ _ _ _ _ _ _ _ _ _ _ _ _ _ _ _ _ _ _ _ _ _ _ _ _ _ _ _ _ _ _ _ _ _ _ _ _ _ _ _ _ _ _ HO.out (by omega) (by omega) ?_
      intro x9 x10 x24 x25 x26 x27 x28 x29 x30 x31 x32 x33 x34 x35 x36 x37 x38 x39 x40 x41 x42 x43 x44 x45 x46 x47 x48 x49 x50 x51 x52 x53 x54 x55 x56 x57 x58 v4 w4 hO4 hb4
      have hO5 : w4.ownsRow (w.heap.size + 1) 35 12 v4 (1 + (setsW many (j + 1)).length) (evCells (listW many (j + 1))) := by
        have e1 : listW many j ++ blockW j (many j) = listW many (j + 1) := rfl
        have e2 : 1 + (setsW many j).length + many j = 1 + (setsW many (j + 1)).length := by
          have e3 : setsW many (j + 1) = setsW many j ++ blockW j (many j) := rfl
          rw [e3]; unfold blockW; simp; omega
        rw [← e1, ← e2]
        exact hO4
      have HO5 := Lib.hid hO5
      have HB5 := Lib.hid (HB.out.trans hb4)
      clear hO4 hb4 hO5 cj hnj hx
      by_cases c1 : hi ≤ many j
      · by_cases c2 : 0 < many j
        · have d1 : decide (hi ≤ many j) = true := by simpa using c1
          have d2 : decide (0 < many j) = true := by simpa using c2
          have HC := Lib.hid (And.intro c1 c2)
          clear c1 c2
          go_wp2_with fail
          go_roundw
          case measure => simp [intOf]; omega
          case rel => exact ⟨j + 1, by omega, by go_num, by rw [HBN.out, if_pos HC.out], by rw [HBN.out, if_pos HC.out], HO5.out, HB5.out⟩
        · have d1 : decide (hi ≤ many j) = true := by simpa using c1
          have d2 : decide (0 < many j) = false := by simpa using c2
          have HC := Lib.hid (show ¬ (hi ≤ many j ∧ 0 < many j) from fun h => c2 h.2)
          clear c1 c2
          go_wp2_with fail
          go_roundw
          case measure => simp [intOf]; omega
          case rel => exact ⟨j + 1, by omega, by go_num, by rw [HBN.out, if_neg HC.out], by rw [HBN.out, if_neg HC.out], HO5.out, HB5.out⟩
      · have d1 : decide (hi ≤ many j) = false := by simpa using c1
        have HC := Lib.hid (show ¬ (hi ≤ many j ∧ 0 < many j) from fun h => c1 h.1)
        clear c1
        go_wp2_with fail
        go_roundw
        case measure => simp [intOf]; omega
        case rel => exact ⟨j + 1, by omega, by go_num, by rw [HBN.out, if_neg HC.out], by rw [HBN.out, if_neg HC.out], HO5.out, HB5.out⟩
    · have hj' : j = 5 := by omega
      subst hj'
      clear hj5
      obtain ⟨ct, hct, hno, hyes⟩ := shown_W many 5
      rw [← HQ.out] at hno hyes
      obtain ⟨A, c, rfl, hc, hRd⟩ := Rd.own HO.out
      have hL : (listW many 5).length = 1 + (setsW many 5).length := by unfold listW; simp; omega
      have HOF := Lib.hid (of_any A (1 + (setsW many 5).length) c (listW many 5) wr ⟨hL, hRd⟩ (sets_ok many hm8 5) (by omega))
      rw [hct] at HOF
      have HNY := Lib.hid (And.intro hno hyes)
      clear hct hno hyes hRd hL
      have hne : ¬ ((5 : Nat) : Int) < 5 := by decide
      have HBW := Lib.hid (H3.out.2.2.trans (HB.out.mono (by omega)))
      go_wp2_with fail
      refine HOF.out.mono ?_
      rintro e w5 ⟨A5, c5, rfl, hc5, hR5, hb5⟩
      obtain ⟨b, o, A0, d0, A1, d1, hA5, hlt5, hcc, _⟩ := hR5.at_ 0 ct rfl
      subst hA5
      have x1 : w5.cell? ⟨b, o + 1, none⟩ = some (.bool ct.h0) := by simpa using hcc 1 _ rfl
      have x3 : w5.cell? ⟨b, o + 3, none⟩ = some (.string ct.f0) := by simpa using hcc 3 _ rfl
      have HB5 := Lib.hid (HBW.out.trans (hb5.mono (by have := HBW.out.size; omega)))
      have hl1 : ([ct] : List Ct).length = 1 := rfl
      rw [hl1] at hc5 ⊢
      clear hR5 hcc hb5 HOF hc5 hl1
      by_cases hneg : bi < 0
      · have d1' : decide (bi < 0) = true := by simpa using hneg
        have h0 := HNY.out.1 hneg
        rw [h0] at x1
        clear hneg h0
        go_wp2_with fail
        go_ret
        exact ⟨rfl, HB5.out⟩
      · have d1' : decide (bi < 0) = false := by simpa using hneg
        have hf0 := HNY.out.2 (by show (0 : Int) ≤ bi; omega)
        replace hf0 : ct.f0 = (evW bi.toNat (hi - 1)).value := hf0
        obtain ⟨g1, g2, g3, i, g4, g5, g6⟩ : 0 ≤ bi ∧ bi < ((5 : Nat) : Int) ∧ 0 < hi ∧ ∃ i, i < 5 ∧ hi = many i ∧ bi = (i : Int) := by
          rcases hbr with ⟨h, _⟩ | h
          · have h' : bi = -1 := h
            omega
          · exact h
        have hi8 : hi < 8 := by rw [g5]; exact hm8 i
        rw [hf0] at x3
        have HV := Lib.hid (show (evW bi.toNat (hi - 1)).value = strOfNums [97 + bi, 48 + (hi : Int) - 1] by
          have e1 : (97 + bi).toNat = 97 + bi.toNat := by omega
          have e2 : (48 + (hi : Int) - 1).toNat = 48 + (hi - 1) := by omega
          simp [evW, strOfNums, e1, e2])
        rw [HV.out] at x3
        clear hf0 g5 g6 g4 hbr
        obtain ⟨str, hstr⟩ : ∃ str, str = strOfNums [97 + bi, 48 + (hi : Int) - 1] := ⟨_, rfl⟩
        rw [← hstr] at x3
        have HSTR := Lib.hid hstr
        clear hstr
        have q1 : IntKind.i64.wrap (97 + bi) = 97 + bi := IntWalk.i64_in _ (by omega)
        have q2 : IntKind.u8.wrap (97 + bi) = 97 + bi := by simp [IntKind.wrap, IntKind.bits, IntKind.signed]; omega
        have q3 : IntKind.i64.wrap (48 + (hi : Int)) = 48 + (hi : Int) := IntWalk.i64_in _ (by omega)
        have q4 : IntKind.i64.wrap (48 + (hi : Int) - 1) = 48 + (hi : Int) - 1 := IntWalk.i64_in _ (by omega)
        have q5 : IntKind.u8.wrap (48 + (hi : Int) - 1) = 48 + (hi : Int) - 1 := by simp [IntKind.wrap, IntKind.bits, IntKind.signed]; omega
        have Q := Lib.hid (And.intro q1 (And.intro q2 (And.intro q3 (And.intro q4 q5))))
        clear q1 q2 q3 q4 q5 hneg
        go_wp2_with fail
        obtain ⟨q1, q2, q3, q4, q5⟩ := Q.out
        refine wp_region_line 16 (by kernel_rfl) (by kernel_rfl) ?_
        apply line_fix
        case now => (intro vs w' R hG hn hR; have hR' := Lib.hid hR; replace hG : Below _ _ _ := hG; clear hR hn; skip; clear hG; go_simp; exact hR'.out _ (Below.refl _ _))
        case hangs => exact fun _ _ _ => rfl
        case hR => exact fun _ _ => ⟨_, Below.refl _ _⟩
        (try simp only [Act.put, List.setIfInBounds_toArray, List.set_cons_zero, List.set_cons_succ])
        apply line_fix
        case now => (intro vs w' R hG hn hR; have hR' := Lib.hid hR; replace hG : Below _ _ _ := hG; clear hR hn; skip; clear hG; go_simp; exact hR'.out _ (Below.refl _ _))
        case hangs => exact fun _ _ _ => rfl
        case hR => exact fun _ _ => ⟨_, Below.refl _ _⟩
        (try simp only [Act.put, List.setIfInBounds_toArray, List.set_cons_zero, List.set_cons_succ])
        apply line_fix
        case now => (intro vs w' R hG hn hR; have hR' := Lib.hid hR; replace hG : Below _ _ _ := hG; clear hR hn; skip; clear hG; go_simp; exact hR'.out _ (Below.refl _ _))
        case hangs => exact fun _ _ _ => rfl
        case hR => exact fun _ _ => ⟨_, Below.refl _ _⟩
        (try simp only [Act.put, List.setIfInBounds_toArray, List.set_cons_zero, List.set_cons_succ])
        apply line_fix
        case now => (intro vs w' R hG hn hR; have hR' := Lib.hid hR; replace hG : Below _ _ _ := hG; clear hR hn; skip; clear hG; go_simp; exact hR'.out _ (Below.refl _ _))
        case hangs => exact fun _ _ _ => rfl
        case hR => exact fun _ _ => ⟨_, Below.refl _ _⟩
        (try simp only [Act.put, List.setIfInBounds_toArray, List.set_cons_zero, List.set_cons_succ])
        apply line_fix
        case now => (intro vs w' R hG hn hR; have hR' := Lib.hid hR; replace hG : Below _ _ _ := hG; clear hR hn; have e1 := (hG.cell (p := ⟨b, o + 3, none⟩) hlt5).trans x3; clear hG; go_simp; exact hR'.out _ (Below.refl _ _))
        case hangs => exact fun _ _ _ => rfl
        case hR => exact fun _ _ => ⟨_, Below.refl _ _⟩
        (try simp only [Act.put, List.setIfInBounds_toArray, List.set_cons_zero, List.set_cons_succ])
        apply line_fix
        case now => (intro vs w' R hG hn hR; have hR' := Lib.hid hR; replace hG : Below _ _ _ := hG; clear hR hn; skip; clear hG; go_simp; exact hR'.out _ (Below.refl _ _))
        case hangs => exact fun _ _ _ => rfl
        case hR => exact fun _ _ => ⟨_, Below.refl _ _⟩
        (try simp only [Act.put, List.setIfInBounds_toArray, List.set_cons_zero, List.set_cons_succ])
        apply line_fix
        case now => (intro vs w' R hG hn hR; have hR' := Lib.hid hR; replace hG : Below _ _ _ := hG; clear hR hn; skip; clear hG; go_simp; exact hR'.out _ (Below.refl _ _))
        case hangs => exact fun _ _ _ => rfl
        case hR => exact fun _ _ => ⟨_, Below.refl _ _⟩
        (try simp only [Act.put, List.setIfInBounds_toArray, List.set_cons_zero, List.set_cons_succ])
        apply line_fix
        case now => (intro vs w' R hG hn hR; have hR' := Lib.hid hR; replace hG : Below _ _ _ := hG; clear hR hn; skip; clear hG; go_simp; exact hR'.out _ (Below.refl _ _))
        case hangs => exact fun _ _ _ => rfl
        case hR => exact fun _ _ => ⟨_, Below.refl _ _⟩
        (try simp only [Act.put, List.setIfInBounds_toArray, List.set_cons_zero, List.set_cons_succ])
        apply line_fix
        case now => (intro vs w' R hG hn hR; have hR' := Lib.hid hR; replace hG : Below _ _ _ := hG; clear hR hn; skip; clear hG; go_simp; exact hR'.out _ (Below.refl _ _))
        case hangs => exact fun _ _ _ => rfl
        case hR => exact fun _ _ => ⟨_, Below.refl _ _⟩
        (try simp only [Act.put, List.setIfInBounds_toArray, List.set_cons_zero, List.set_cons_succ])
        apply line_fix
        case now => (intro vs w' R hG hn hR; have hR' := Lib.hid hR; replace hG : Below _ _ _ := hG; clear hR hn; skip; clear hG; go_simp; exact hR'.out _ (Below.refl _ _))
        case hangs => exact fun _ _ _ => rfl
        case hR => exact fun _ _ => ⟨_, Below.refl _ _⟩
        (try simp only [Act.put, List.setIfInBounds_toArray, List.set_cons_zero, List.set_cons_succ])
        apply line_fix
        case now => (intro vs w' R hG hn hR; have hR' := Lib.hid hR; replace hG : Below _ _ _ := hG; clear hR hn; skip; clear hG; go_simp; exact hR'.out _ (Below.refl _ _))
        case hangs => exact fun _ _ _ => rfl
        case hR => exact fun _ _ => ⟨_, Below.refl _ _⟩
        (try simp only [Act.put, List.setIfInBounds_toArray, List.set_cons_zero, List.set_cons_succ])
        apply line_fix
        case now => (intro vs w' R hG hn hR; have hR' := Lib.hid hR; replace hG : Below _ _ _ := hG; clear hR hn; skip; clear hG; go_simp; exact hR'.out _ (Below.refl _ _))
        case hangs => exact fun _ _ _ => rfl
        case hR => exact fun _ _ => ⟨_, Below.refl _ _⟩
        (try simp only [Act.put, List.setIfInBounds_toArray, List.set_cons_zero, List.set_cons_succ])
        apply line_var (Φ := fun _ v w => ∃ g, v = .slice (some ⟨g, 0, none⟩) 2 2 ∧ At w g [.int .u8 (97 + bi), .int .u8 (48 + (hi : Int) - 1)])
        case keep => (rintro _ v w w' ⟨b, e, h⟩ hp; exact ⟨b, e, h.next hp⟩)
        case hangs => exact fun _ _ _ => rfl
        case now =>
          intro vs w' R hG hn hR
          have hR' := Lib.hid hR
          clear hR hn hG
          refine ⟨rfl, ?_⟩
          go_simp
          exact hR'.out _ _ ⟨_, rfl, At.new _ _ _⟩ ((Below.refl _ _).alloc (Nat.le_refl _) _)
        (try simp only [Act.put, List.setIfInBounds_toArray, List.set_cons_zero, List.set_cons_succ])
        apply line_fix (c := fun _ => .string str)
        case now =>
          intro vs w' R hG hn hR
          have hR' := Lib.hid hR
          obtain ⟨g, e12, a12⟩ := hn.1 (by kernel_rfl)
          have hrun := run_string (P := Try.prog) 52 9 5 Try.underlying52 Try.underlying5 Try.underlying9 (c := 2) (xs := [97 + bi, 48 + (hi : Int) - 1]) (a12.rd (n := 2) (size := 1) rfl (by decide))
          rw [← HSTR.out] at hrun
          clear hR hn hG
          go_simp
          exact hR'.out _ (Below.refl _ _)
        case hangs => exact fun _ _ _ => rfl
        case hR => exact fun _ _ => ⟨_, Below.refl _ _⟩
        (try simp only [Act.put, List.setIfInBounds_toArray, List.set_cons_zero, List.set_cons_succ])
        apply line_fix
        case now => (intro vs w' R hG hn hR; have hR' := Lib.hid hR; replace hG : Below _ _ _ := hG; clear hR hn; skip; clear hG; go_simp; exact hR'.out _ (Below.refl _ _))
        case hangs => exact fun _ _ _ => rfl
        case hR => exact fun _ _ => ⟨_, Below.refl _ _⟩
        (try simp only [Act.put, List.setIfInBounds_toArray, List.set_cons_zero, List.set_cons_succ])
        apply line_fix
        case now => (intro vs w' R hG hn hR; have hR' := Lib.hid hR; replace hG : Below _ _ _ := hG; clear hR hn; skip; clear hG; go_simp; exact hR'.out _ (Below.refl _ _))
        case hangs => exact fun _ _ _ => rfl
        case hR => exact fun _ _ => ⟨_, Below.refl _ _⟩
        (try simp only [Act.put, List.setIfInBounds_toArray, List.set_cons_zero, List.set_cons_succ])
        refine line_last (fun vs W9 hG9 _ => ?_)
        replace hG9 : Below _ _ _ := hG9
        have HB9 := Lib.hid (HB5.out.trans (hG9.mono (by have := HB5.out.size; omega)))
        clear hG9
        go_wp2_with fail
        go_ret
        exact ⟨ret_bool (by simp), HB9.out⟩
end Go.Proofs.Ytfbpjhhcpockfaa
