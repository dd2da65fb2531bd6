/- The document's example: kithlaw09's shown is true. No condition. -/
import Derived.Test.YtfbpjhhcpockfaaOf
import Derived.Test.YtfbpjhhcpockfaaBookPlain
set_option linter.unusedVariables false
set_option linter.unusedSimpArgs false
namespace Go.Proofs.Ytfbpjhhcpockfaa
open Go.RowKit Go.Shelf Go.Maps
theorem one_any (w : World) : Calls Try.prog 23 #[] w fun e w' => e = .returned (.slice (some ⟨w.heap.size, 0, none⟩) 4 4) ∧ RdEv w' (some ⟨w.heap.size, 0, none⟩) 4 oneL ∧ Below w.heap.size w w' := by
  have hF : ∀ W, W = w.alloc (.cells (evCells oneL).toArray 35) → RdEv W (some ⟨w.heap.size, 0, none⟩) 4 oneL ∧ Below w.heap.size w W := by
    rintro W rfl
    exact ⟨⟨rfl, (At.new w (evCells oneL).toArray 35).rd rfl (by decide)⟩, (Below.refl _ _).alloc (Nat.le_refl _) _⟩
  have HF := Lib.hid hF
  clear hF
  go_enter Try.func23, Try.ntmps23
  go_wp2_with fail
  go_ret
  exact ⟨rfl, HF.out _ rfl⟩
theorem RdEv.take_ {w : World} {A : Option Addr} {n : Nat} {L : List Ev} (h : RdEv w A n L) (k : Nat) (hk : k ≤ n) : RdEv w A k (L.take k) := by
  refine ⟨by rw [List.length_take, h.1]; omega, ?_⟩
  have := h.2.take_ k hk
  have e : ∀ (L : List Ev) (k : Nat), (evCells L).take (k * 12) = evCells (L.take k) := by
    intro L
    induction L with
    | nil => intro k; simp [evCells]
    | cons e L ih =>
      intro k
      cases k with
      | zero => simp [evCells]
      | succ k =>
        show (e.cells ++ evCells L).take ((k + 1) * 12) = e.cells ++ evCells (L.take k)
        have hl : e.cells.length = 12 := rfl
        rw [List.take_append, hl, List.take_of_length_le (by omega), show (k + 1) * 12 - 12 = k * 12 by omega, ih k]
  rw [e] at this
  exact this
set_option maxHeartbeats 4000000 in
theorem shown09_any (w : World) : Calls Try.prog 9 #[] w fun e w' => e = .returned (.bool true) ∧ Below w.heap.size w w' := by
  go_enter Try.func9, Try.ntmps9
  go_wp2_with fail
  refine (one_any w).mono ?_
  rintro e w1 ⟨rfl, hR1, hb1⟩
  have HO1 := Lib.hid (of_any _ 4 4 oneL w1 hR1 oneL_ok (by decide))
  have HB1 := Lib.hid hb1
  rw [ofL_one] at HO1
  clear hR1 hb1
  go_wp2_with fail
  refine HO1.out.mono ?_
  rintro e w2 ⟨A2, c2, rfl, hc2, hR2, hb2⟩
  have HB2 := Lib.hid (below_next HB1.out hb2)
  have HR2 := Lib.hid hR2
  clear hc2 hR2 hb2
  go_wp2_with fail
  refine (one_any w2).mono ?_
  rintro e w3 ⟨rfl, hR3, hb3⟩
  have HB3 := Lib.hid (below_next HB2.out hb3)
  have HR3 := Lib.hid (HR2.out.below hb3)
  have HO3 := Lib.hid (of_any _ 2 4 twoL w3 (hR3.take_ 2 (by decide)) (fun e he => oneL_ok e (by simp [oneL]; simp [twoL] at he; rcases he with h | h <;> simp [h])) (by decide))
  rw [ofL_two] at HO3
  clear hR3 hb3
  go_wp2_with fail
  refine HO3.out.mono ?_
  rintro e w4 ⟨A4, c4, rfl, hc4, hR4, hb4⟩
  have HB4 := Lib.hid (below_next HB3.out hb4)
  obtain ⟨b, o, A0, d0, A1, d1, hA2, hlt2, hcc2, _⟩ := (HR3.out.below hb4).at_ 0 _ rfl
  obtain ⟨b', o', A0', d0', A1', d1', hA4, hlt4, hcc4, _⟩ := hR4.at_ 0 _ rfl
  subst hA2 hA4
  have x0 : w4.cell? ⟨b, o, none⟩ = some (.string cyB) := hcc2 0 _ rfl
  have x1 : w4.cell? ⟨b, o + 1, none⟩ = some (.bool false) := hcc2 1 _ rfl
  have y1 : w4.cell? ⟨b', o' + 1, none⟩ = some (.bool true) := hcc4 1 _ rfl
  have y3 : w4.cell? ⟨b', o' + 3, none⟩ = some (.string ⟨#[49]⟩) := hcc4 3 _ rfl
  unfold cyB at x0
  clear hcc2 hcc4 hR4 hb4 hc4
  go_wp2_with fail
  go_ret
  exact ⟨rfl, HB4.out⟩
end Go.Proofs.Ytfbpjhhcpockfaa
