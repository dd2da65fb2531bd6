/- Events that came in are read as RdEv tells, and may lie in memory. No condition. -/
import Derived.Test.YtfbpjhhcpockfaaLeafB
import Derived.Test.YtfbpjhhcpockfaaOfPlain
set_option linter.unusedVariables false
set_option linter.unusedSimpArgs false
namespace Go.Proofs.Ytfbpjhhcpockfaa
open Go.ChangeShapes Go.WideShapes Go.RowKit

theorem cellsOf_ev : Try.prog.cellsOf 35 = 12 := by kernel_rfl
theorem evs_at : ∀ (L : List Ev) (j : Nat) (u : Value), (evCells L)[j]? = some u → ∃ e, L[j / 12]? = some e ∧ e.cells[j % 12]? = some u
  | [], j, u, h => by simp [evCells] at h
  | e :: L, j, u, h => by
    have h12 : e.cells.length = 12 := rfl
    have hc : evCells (e :: L) = e.cells ++ evCells L := by simp [evCells]
    rw [hc] at h
    by_cases hj : j < 12
    · rw [List.getElem?_append_left (by omega)] at h
      exact ⟨e, by rw [Nat.div_eq_of_lt hj]; rfl, by rw [Nat.mod_eq_of_lt hj]; exact h⟩
    · rw [List.getElem?_append_right (by omega), h12] at h
      obtain ⟨e', h1, h2⟩ := evs_at L (j - 12) u h
      refine ⟨e', ?_, ?_⟩
      · rw [show j / 12 = (j - 12) / 12 + 1 by omega]; simpa using h1
      · rwa [show j % 12 = (j - 12) % 12 by omega]
section
variable {H : Type} {enc : TypeId × Value → H} {w : World} {base : Nat} {spare : Nat → Bool} {held : Bool} {r : Reach} {b0 : Nat} {v : Value} {d : DataW H} {p : List MemPlace}
set_option maxRecDepth 100000 in
/-- The cells of one event. -/
theorem open_ev {fuel : Nat} {cs : List Value} {x : DataW H × List MemPlace} (hl : cs.length = 12) (h : DataW.trod enc Try.prog w base spare held fuel 35 cs = some x) : ∃ e : Ev, cs = e.cells ∧ e.ok := by
  obtain ⟨z0, e0, _⟩ := int_at 3 (i := 0) Try.underlying3 (by kernel_rfl) h
  obtain ⟨z1, e1, _⟩ := int_at 3 (i := 1) Try.underlying3 (by kernel_rfl) h
  obtain ⟨z2, e2, _⟩ := int_at 3 (i := 2) Try.underlying3 (by kernel_rfl) h
  obtain ⟨z3, e3, _⟩ := int_at 3 (i := 3) Try.underlying3 (by kernel_rfl) h
  obtain ⟨z4, e4, _⟩ := int_at 3 (i := 4) Try.underlying3 (by kernel_rfl) h
  obtain ⟨z5, e5, _⟩ := int_at 3 (i := 5) Try.underlying3 (by kernel_rfl) h
  obtain ⟨z6, e6, _⟩ := int_at 3 (i := 6) Try.underlying3 (by kernel_rfl) h
  obtain ⟨z7, e7, _⟩ := int_at 3 (i := 7) Try.underlying3 (by kernel_rfl) h
  obtain ⟨z8, e8, _⟩ := int_at 3 (i := 8) Try.underlying3 (by kernel_rfl) h
  obtain ⟨z9, e9, w9, _⟩ := string_at 3 (i := 9) Try.underlying9 (by kernel_rfl) h
  obtain ⟨z10, e10, w10⟩ := int_at 3 (i := 10) Try.underlying3 (by kernel_rfl) h
  obtain ⟨z11, e11, w11, _⟩ := string_at 3 (i := 11) Try.underlying9 (by kernel_rfl) h
  refine ⟨⟨z0, z1, z2, z3, z4, z5, z6, z7, z8, z9, z10, z11⟩, ?_, w9, w11, w10⟩
  rcases cs with _ | ⟨a0, _ | ⟨a1, _ | ⟨a2, _ | ⟨a3, _ | ⟨a4, _ | ⟨a5, _ | ⟨a6, _ | ⟨a7, _ | ⟨a8, _ | ⟨a9, _ | ⟨a10, _ | ⟨a11, _ | ⟨a12, l⟩⟩⟩⟩⟩⟩⟩⟩⟩⟩⟩⟩⟩ <;> simp at hl e0 e1 e2 e3 e4 e5 e6 e7 e8 e9 e10 e11
  subst e0 e1 e2 e3 e4 e5 e6 e7 e8 e9 e10 e11
  rfl
set_option maxRecDepth 100000 in
/-- Events that came in. -/
theorem open_evs (hv : Value.okWide Try.prog w r b0 28 v) (h : DataW.Trod enc Try.prog w base spare held 28 v d p) :
    ∃ (A : Option Addr) (n c : Nat) (L : List Ev), v = .slice A n c ∧ RdEv w A n L ∧ n ≤ c ∧ n ≤ 9223372036854775807 ∧ ∀ x ∈ L, x.ok := by
  obtain ⟨A, len, cap, rfl⟩ := okWide_slice Try.underlying28 hv
  obtain ⟨fuel, hf⟩ := h
  rcases Go.Deep.open_slice Try.underlying28 hf with ⟨e1, _⟩ | ⟨a, l, c, m, n, D, Pl, e1, hb, hl, hm, hmm, hx, hi⟩
  · simp [Value.cells] at e1
    obtain ⟨rfl, rfl, rfl⟩ := e1
    exact ⟨none, 0, 0, [], rfl, ⟨rfl, rfl, by decide, fun h => absurd rfl h⟩, Nat.le_refl _, by decide, by simp⟩
  · simp [Value.cells] at e1
    obtain ⟨rfl, rfl, rfl⟩ := e1
    have hlm : len ≤ m := by rw [hmm]; split <;> omega
    have hlen : len ≤ 9223372036854775807 := by simp only [maxLen] at hm; omega
    have H1 : ∀ i, i < len → ∃ e : Ev, (∀ j u, e.cells[j]? = some u → w.cell? ((a.add (i * 12)).add j) = some u) ∧ e.ok := by
      intro i hil
      obtain ⟨cs', hc, ht'⟩ := hi i (by omega)
      rw [cellsOf_ev] at hc
      obtain ⟨_, hcl, hat⟩ := World.cells?_some hc
      obtain ⟨e, rfl, he⟩ := open_ev hcl ht'
      refine ⟨e, fun j u hj => ?_, he⟩
      have hj12 := (List.getElem?_eq_some_iff.1 hj).1
      rw [hat j (by rw [Ev.cells_length] at hj12; exact hj12)]; exact hj
    obtain ⟨L, hkl, hkp⟩ := list_of len H1
    refine ⟨some a, len, cap, L, rfl, ⟨hkl, ⟨?_, hlen, fun hne => ?_⟩⟩, hl, hlen, fun x hx => ?_⟩
    · rw [evCells_length, hkl]
    · have hpos : 0 < L.length := by
        rcases Nat.eq_zero_or_pos L.length with h | h
        · exfalso; apply hne; rw [List.eq_nil_of_length_eq_zero h]; rfl
        · exact h
      obtain ⟨b, off, spot⟩ := a
      have hk0 := hkp 0 _ (List.getElem?_eq_getElem hpos)
      have h00 := hk0.1 0 _ rfl
      have hspot : spot = none := by
        have := World.cell?_spot h00
        unfold Addr.add at this
        cases spot <;> simp_all
      subst hspot
      refine ⟨b, off, rfl, fun j u hj => ?_⟩
      obtain ⟨e, h1, h2⟩ := evs_at L j u hj
      have := (hkp _ e h1).1 _ u h2
      rw [add_at, add_at] at this
      rwa [show off + j / 12 * 12 + j % 12 = off + j by omega] at this
    · obtain ⟨i, hi', e4⟩ := List.mem_iff_getElem.1 hx
      exact (hkp i x (by rw [List.getElem?_eq_getElem hi', e4])).2
end
end Go.Proofs.Ytfbpjhhcpockfaa
