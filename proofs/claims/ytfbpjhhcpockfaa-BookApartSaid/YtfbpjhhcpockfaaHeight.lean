/- The reference's Height. Condition: heights from 0 to 10^9. -/
import Derived.Test.YtfbpjhhcpockfaaRef8
set_option linter.unusedVariables false
set_option linter.unusedSimpArgs false
namespace Go.Proofs.Ytfbpjhhcpockfaa
open Go.RowKit Go.Shelf Go.Maps
def hStep (h : Nat → Int) (s : Int × Bool) (x : Ev) : Int × Bool := if hasF h x.r x.n = true ∧ (s.2 = false ∨ s.1 < x.height) then (x.height, true) else s
def hFold (h : Nat → Int) (L : List Ev) : Int × Bool := L.foldl (hStep h) (0, false)
def heightR (h : Nat → Int) (L : List Ev) : Int := (hFold h L).1 + 1
theorem hFold_snoc {h : Nat → Int} {L : List Ev} {j : Nat} {x : Ev} (hx : L[j]? = some x) : hFold h (L.take (j + 1)) = hStep h (hFold h (L.take j)) x := by
  unfold hFold
  rw [take_snoc hx, List.foldl_append]
  rfl
theorem hFold_bound (h : Nat → Int) {B : Int} (hB : 0 ≤ B) : ∀ (L : List Ev) (s : Int × Bool), (∀ x ∈ L, 0 ≤ x.height ∧ x.height ≤ B) → 0 ≤ s.1 ∧ s.1 ≤ B → 0 ≤ (L.foldl (hStep h) s).1 ∧ (L.foldl (hStep h) s).1 ≤ B
  | [], s, _, hs => hs
  | x :: L, s, hL, hs => by
    refine hFold_bound h hB L _ (fun y hy => hL y (List.mem_cons_of_mem _ hy)) ?_
    unfold hStep
    split
    · exact hL x (List.mem_cons_self ..)
    · exact hs
theorem heightR_bound (h : Nat → Int) {B : Int} (hB : 0 ≤ B) (L : List Ev) (hL : ∀ x ∈ L, 0 ≤ x.height ∧ x.height ≤ B) : 1 ≤ heightR h L ∧ heightR h L ≤ B + 1 := by
  have := hFold_bound h hB L (0, false) hL ⟨Int.le_refl 0, hB⟩
  unfold heightR hFold
  omega
set_option maxRecDepth 100000 in
set_option maxHeartbeats 4000000 in
theorem height_any (A : Option Addr) (n c : Nat) (L : List Ev) (h : Nat → Int) (w : World) (hR : RdEv w A n L) (hn : n ≤ 1000000000) (hH : ∀ x ∈ L, 0 ≤ x.height ∧ x.height ≤ 1000000000) :
    Calls Try.prog 17 #[.slice A n c, clkV h] w fun e w' => e = .returned (.int .i64 (heightR h L)) ∧ Below w.heap.size w w' := by
  have HR := Lib.hid (fun (W : World) (hb : Below w.heap.size w W) => hR.below hb)
  have HL := Lib.hid hR.1
  have HE := Lib.hid (At.new w (clkL h).toArray 33)
  have HB := Lib.hid ((Below.refl w.heap.size w).alloc (Nat.le_refl _) (.cells (clkL h).toArray 33))
  have HP := Lib.hid (fun r n W => refHas_any h r n W)
  have HBD := Lib.hid (fun j => hFold_bound h (B := 1000000000) (by decide) (L.take j) (0, false) (fun x hx => hH x (List.mem_of_mem_take hx)) (by decide))
  clear hR hH
  unfold clkV at *
  go_enter Try.func17, Try.ntmps17
  go_wp2_with fail
  go_loopw [5, 6, 7] (fun v q i wr => ∃ j : Nat, j ≤ n ∧ i = .int .i64 j ∧ v = .int .i64 (hFold h (L.take j)).1 ∧ q = .bool (hFold h (L.take j)).2 ∧ At wr w.heap.size (clkL h) ∧ Below w.heap.size w wr) (fun _ _ i _ => n - (intOf i).toNat)
  case atStart => exact ⟨0, by omega, rfl, rfl, rfl, HE.out, HB.out⟩
  case round =>
    obtain ⟨j, hj, rfl, rfl, rfl, hE, hbr⟩ := hrel
    obtain ⟨s, hs⟩ : ∃ s, s = hFold h (L.take j) := ⟨_, rfl⟩
    have hsb : 0 ≤ s.1 ∧ s.1 ≤ 1000000000 := by rw [hs]; exact HBD.out j
    have HS := Lib.hid hs
    rw [← hs]
    clear hs
    obtain ⟨s1, s2⟩ := s
    dsimp only at hsb ⊢
    by_cases hjn : j < n
    · obtain ⟨x, hx⟩ : ∃ x, L[j]? = some x := ⟨L[j]'(by rw [HL.out]; exact hjn), List.getElem?_eq_getElem _⟩
      have hR' := HR.out wr hbr
      obtain ⟨b, o, hA, hlt, hcc⟩ := hR'.at_ j x hx
      subst hA
      have v0 : wr.cell? ⟨b, o + j * 12, none⟩ = some (.int .i64 x.r) := hcc 0 _ rfl
      have v1 : wr.cell? ⟨b, o + j * 12 + 1, none⟩ = some (.int .i64 x.n) := hcc 1 _ rfl
      have v2 : wr.cell? ⟨b, o + j * 12 + 2, none⟩ = some (.int .i64 x.c0) := hcc 2 _ rfl
      have v3 : wr.cell? ⟨b, o + j * 12 + 3, none⟩ = some (.int .i64 x.c1) := hcc 3 _ rfl
      have v4 : wr.cell? ⟨b, o + j * 12 + 4, none⟩ = some (.int .i64 x.c2) := hcc 4 _ rfl
      have v5 : wr.cell? ⟨b, o + j * 12 + 5, none⟩ = some (.int .i64 x.c3) := hcc 5 _ rfl
      have v6 : wr.cell? ⟨b, o + j * 12 + 6, none⟩ = some (.int .i64 x.c4) := hcc 6 _ rfl
      have v7 : wr.cell? ⟨b, o + j * 12 + 7, none⟩ = some (.int .i64 x.height) := hcc 7 _ rfl
      have v8 : wr.cell? ⟨b, o + j * 12 + 8, none⟩ = some (.int .i64 x.kind) := hcc 8 _ rfl
      have v9 : wr.cell? ⟨b, o + j * 12 + 9, none⟩ = some (.string x.key) := hcc 9 _ rfl
      have v10 : wr.cell? ⟨b, o + j * 12 + 10, none⟩ = some (.int .i64 x.label) := hcc 10 _ rfl
      have v11 : wr.cell? ⟨b, o + j * 12 + 11, none⟩ = some (.string x.value) := hcc 11 _ rfl
      have HN := Lib.hid (show hFold h (L.take (j + 1)) = hStep h (s1, s2) x by rw [hFold_snoc hx, ← HS.out])
      have lE := hE.lt
      have HE1 := Lib.hid hE
      have HB1 := Lib.hid hbr
      have hst : hStep h (s1, s2) x = if hasF h x.r x.n = true ∧ (s2 = false ∨ s1 < x.height) then (x.height, true) else (s1, s2) := rfl
      obtain ⟨q, hq⟩ : ∃ q, q = hasF h x.r x.n := ⟨_, rfl⟩
      have HPX := Lib.hid (fun W => HP.out x.r x.n W)
      rw [← hq] at hst HPX
      have hrc := regrown_cell wr
      unfold clkL at hE
      have y0 := hE.cell 0 rfl
      have y1 := hE.cell 1 rfl
      have y2 := hE.cell 2 rfl
      have y3 := hE.cell 3 rfl
      have y4 := hE.cell 4 rfl
      clear hcc hR' hx hE hbr hq
      go_wp2_with fail
      refine wp_region_quiet_below (by kernel_rfl) (by kernel_rfl) ?_
      repeat (any_goals (first | go_big_quiet_step ((go_at_call 35; exact Calls.regrown_of (HPX.out _))) | quiet_step ((go_at_call 35; exact Calls.regrown_of (HPX.out _)))))
      refine wpQuiet_nil ?_
      intro _ hw'
      obtain ⟨⟨dq, osq⟩, hw''⟩ := hw'
      subst hw''
      have hbq := below_next HB1.out (below_regrown wr dq osq)
      have HE2 := Lib.hid (HE1.out.next (below_regrown wr dq osq))
      have HBQ := Lib.hid hbq
      have e3 : (Sort.grow (redrawn wr dq) osq).cell? ⟨b, o + j * 12 + 7, none⟩ = some (.int .i64 x.height) := by rw [hrc _ _ _ _ hlt]; exact v7
      clear hbq
      cases q
      · have HST := Lib.hid (show hStep h (s1, s2) x = (s1, s2) by rw [hst]; simp)
        clear hst
        go_wp2_with fail
        go_roundw
        case measure => simp [intOf]; omega
        case rel => exact ⟨j + 1, by omega, by go_num, by rw [HN.out, HST.out], by rw [HN.out, HST.out], HE2.out, HBQ.out⟩
      · cases s2
        · have HST := Lib.hid (show hStep h (s1, false) x = (x.height, true) by rw [hst]; simp)
          clear hst
          go_wp2_with fail
          go_roundw
          case measure => simp [intOf]; omega
          case rel => exact ⟨j + 1, by omega, by go_num, by rw [HN.out, HST.out], by rw [HN.out, HST.out], HE2.out, HBQ.out⟩
        · by_cases hlt2 : s1 < x.height
          · have HST := Lib.hid (show hStep h (s1, true) x = (x.height, true) by rw [hst]; simp [hlt2])
            clear hst
            go_wp2_with fail
            go_roundw
            case measure => simp [intOf]; omega
            case rel => exact ⟨j + 1, by omega, by go_num, by rw [HN.out, HST.out], by rw [HN.out, HST.out], HE2.out, HBQ.out⟩
          · have HST := Lib.hid (show hStep h (s1, true) x = (s1, true) by rw [hst]; simp [hlt2])
            clear hst
            go_wp2_with fail
            go_roundw
            case measure => simp [intOf]; omega
            case rel => exact ⟨j + 1, by omega, by go_num, by rw [HN.out, HST.out], by rw [HN.out, HST.out], HE2.out, HBQ.out⟩
    · have hjn' : j = n := by omega
      subst hjn'
      have hne : ¬ (j : Int) < (j : Int) := by omega
      have HE2 := Lib.hid (show heightR h L = s1 + 1 by
        have e : L.take j = L := List.take_of_length_le (by rw [HL.out]; omega)
        have := HS.out
        rw [e] at this
        unfold heightR
        rw [← this])
      have HB1 := Lib.hid hbr
      clear hE hbr
      go_wp2_with fail
      go_ret
      rw [HE2.out]
      exact ⟨rfl, HB1.out⟩
end Go.Proofs.Ytfbpjhhcpockfaa
