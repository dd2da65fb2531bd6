/- Choices that came in are read as RdCh tells, and their texts fit. No condition. -/
import Derived.Test.YtfbpjhhcpockfaaLeafB
import Derived.Test.YtfbpjhhcpockfaaMakePlain
set_option linter.unusedVariables false
set_option linter.unusedSimpArgs false
namespace Go.Proofs.Ytfbpjhhcpockfaa
open Go.ChangeShapes Go.WideShapes Go.RowKit

theorem cellsOf_ch : Try.prog.cellsOf 26 = 7 := by kernel_rfl
theorem chs_at : ∀ (L : List Cho) (j : Nat) (u : Value), (chCells L)[j]? = some u → ∃ e, L[j / 7]? = some e ∧ e.cells[j % 7]? = some u
  | [], j, u, h => by simp [chCells] at h
  | e :: L, j, u, h => by
    have h12 : e.cells.length = 7 := rfl
    have hc : chCells (e :: L) = e.cells ++ chCells L := by simp [chCells]
    rw [hc] at h
    by_cases hj : j < 7
    · rw [List.getElem?_append_left (by omega)] at h
      exact ⟨e, by rw [Nat.div_eq_of_lt hj]; rfl, by rw [Nat.mod_eq_of_lt hj]; exact h⟩
    · rw [List.getElem?_append_right (by omega), h12] at h
      obtain ⟨e', h1, h2⟩ := chs_at L (j - 7) u h
      refine ⟨e', ?_, ?_⟩
      · rw [show j / 7 = (j - 7) / 7 + 1 by omega]; simpa using h1
      · rwa [show j % 7 = (j - 7) % 7 by omega]
theorem bounds_u8' {a : Int} (h : (Lit.int .u8 a).wf = true) : 0 ≤ a ∧ a ≤ 255 := by
  simpa [Lit.wf, IntKind.min, IntKind.max, IntKind.signed, IntKind.bits] using h
theorem bounds_i64' {a : Int} (h : (Lit.int .i64 a).wf = true) : -9223372036854775808 ≤ a ∧ a ≤ 9223372036854775807 := by
  simpa [Lit.wf, IntKind.min, IntKind.max, IntKind.signed, IntKind.bits] using h
section
variable {H : Type} {enc : TypeId × Value → H} {w : World} {base : Nat} {spare : Nat → Bool} {held : Bool} {r : Reach} {b0 : Nat} {v : Value} {d : DataW H} {p : List MemPlace}
set_option maxRecDepth 100000 in
/-- The cells of one choice. -/
theorem open_ch {fuel : Nat} {cs : List Value} {x : DataW H × List MemPlace} (hl : cs.length = 7) (h : DataW.trod enc Try.prog w base spare held fuel 26 cs = some x) (hw : ∀ q ∈ x.1.weights Try.prog 26, q ≤ 140737488351232) : ∃ e : Cho, cs = e.cells ∧ e.fits := by
  obtain ⟨z0, e0, w0⟩ := int_at 3 (i := 0) Try.underlying5 (by kernel_rfl) h
  obtain ⟨z1, e1, w1⟩ := int_at 3 (i := 1) Try.underlying5 (by kernel_rfl) h
  obtain ⟨z2, e2⟩ := bool_at 3 (i := 2) Try.underlying4 (by kernel_rfl) h
  obtain ⟨z3, e3, w3⟩ := int_at 3 (i := 3) Try.underlying3 (by kernel_rfl) h
  obtain ⟨z4, e4, _, w4⟩ := string_at 3 (i := 4) Try.underlying9 (by kernel_rfl) h
  obtain ⟨z5, e5, w5⟩ := int_at 3 (i := 5) Try.underlying3 (by kernel_rfl) h
  obtain ⟨z6, e6, _, w6⟩ := string_at 3 (i := 6) Try.underlying9 (by kernel_rfl) h
  have q0 := bounds_u8' w0
  have q1 := bounds_u8' w1
  have q3 := bounds_i64' w3
  have q5 := bounds_i64' w5
  have r0 : ((z0.toNat : Nat) : Int) = z0 := by omega
  have r1 : ((z1.toNat : Nat) : Int) = z1 := by omega
  refine ⟨⟨z0.toNat, z1.toNat, z2, z3, z4, z5, z6⟩, ?_, ⟨by show z0.toNat < 256; omega, by show z1.toNat < 256; omega, q3.1, q3.2, hw _ w4, q5.1, q5.2, hw _ w6⟩⟩
  unfold Cho.cells
  dsimp only
  rw [r0, r1]
  rcases cs with _ | ⟨a0, _ | ⟨a1, _ | ⟨a2, _ | ⟨a3, _ | ⟨a4, _ | ⟨a5, _ | ⟨a6, _ | ⟨a7, l⟩⟩⟩⟩⟩⟩⟩⟩ <;> simp at hl e0 e1 e2 e3 e4 e5 e6
  subst e0 e1 e2 e3 e4 e5 e6
  rfl
set_option maxRecDepth 100000 in
/-- Choices that came in. -/
theorem open_chs (hv : Value.okWide Try.prog w r b0 22 v) (h : DataW.Trod enc Try.prog w base spare held 22 v d p) (hw : ∀ q ∈ d.weights Try.prog 22, q ≤ 140737488351232) :
    ∃ (A : Option Addr) (n c : Nat) (L : List Cho), v = .slice A n c ∧ RdCh w A n L ∧ n ≤ c ∧ n ≤ 9223372036854775807 ∧ ∀ x ∈ L, x.fits := by
  obtain ⟨A, len, cap, rfl⟩ := okWide_slice Try.underlying22 hv
  obtain ⟨fuel, hf⟩ := h
  rcases Go.Deep.open_slice Try.underlying22 hf with ⟨e1, _⟩ | ⟨a, l, c, m, n, D, Pl, e1, hb, hl, hm, hmm, hx, hi⟩
  · simp [Value.cells] at e1
    obtain ⟨rfl, rfl, rfl⟩ := e1
    exact ⟨none, 0, 0, [], rfl, ⟨rfl, rfl, by decide, fun h => absurd rfl h⟩, Nat.le_refl _, by decide, by simp⟩
  · simp [Value.cells] at e1
    obtain ⟨rfl, rfl, rfl⟩ := e1
    have hlm : len ≤ m := by rw [hmm]; split <;> omega
    have hlen : len ≤ 9223372036854775807 := by simp only [maxLen] at hm; omega
    simp only [Prod.mk.injEq] at hx
    have hd := hx.1
    have H1 : ∀ i, i < len → ∃ e : Cho, (∀ j u, e.cells[j]? = some u → w.cell? ((a.add (i * 7)).add j) = some u) ∧ e.fits := by
      intro i hil
      obtain ⟨cs', hc, ht'⟩ := hi i (by omega)
      rw [cellsOf_ch] at hc
      obtain ⟨_, hcl, hat⟩ := World.cells?_some hc
      obtain ⟨e, rfl, he⟩ := open_ch hcl ht' (fun q hq => hw q (by
        rw [hd]
        simp only [DataW.weights, Try.underlying22]
        exact List.mem_cons_of_mem _ (List.mem_append_left _ (weights_all _ (D i) (List.mem_map_of_mem (List.mem_range.2 hil)) hq))))
      refine ⟨e, fun j u hj => ?_, he⟩
      have hj7 := (List.getElem?_eq_some_iff.1 hj).1
      rw [hat j (by simpa [Cho.cells] using hj7)]; exact hj
    obtain ⟨L, hkl, hkp⟩ := list_of len H1
    refine ⟨some a, len, cap, L, rfl, ⟨hkl, ⟨?_, hlen, fun hne => ?_⟩⟩, hl, hlen, fun x hx => ?_⟩
    · rw [chCells_length, hkl]
    · have hpos : 0 < L.length := by
        rcases Nat.eq_zero_or_pos L.length with h | h
        · exfalso; apply hne; rw [List.eq_nil_of_length_eq_zero h]; rfl
        · exact h
      obtain ⟨b, off, spot⟩ := a
      have hk0 := hkp 0 _ (List.getElem?_eq_getElem hpos)
      have h00 := hk0.1 0 _ rfl
      have hspot : spot = none := by
        have := World.cell?_spot h00
        unfold Addr.add at this
        cases spot <;> simp_all
      subst hspot
      refine ⟨b, off, rfl, fun j u hj => ?_⟩
      obtain ⟨e, h1, h2⟩ := chs_at L j u hj
      have := (hkp _ e h1).1 _ u h2
      rw [add_at, add_at] at this
      rwa [show off + j / 7 * 7 + j % 7 = off + j by omega] at this
    · obtain ⟨i, hi', e4⟩ := List.mem_iff_getElem.1 hx
      exact (hkp i x (by rw [List.getElem?_eq_getElem hi', e4])).2
end
end Go.Proofs.Ytfbpjhhcpockfaa
