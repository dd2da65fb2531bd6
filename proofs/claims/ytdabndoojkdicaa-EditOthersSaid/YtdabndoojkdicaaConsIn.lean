/- Contacts that came in are read as RdCons tells, and their texts are no longer than what any memory has room for. No condition. -/
import Derived.Test.YtdabndoojkdicaaLeaf
set_option linter.unusedVariables false
set_option linter.unusedSimpArgs false
namespace Go.Proofs.Ytdabndoojkdicaa
open Go.ChangeShapes Go.WideShapes Go.RowKit

theorem cellsOf_con : Try.prog.cellsOf 51 = 7 := by kernel_rfl
/-- A contact whose texts fit. -/
def Con.fits (c : Con) (R : Nat) : Prop := c.key.size ≤ R ∧ c.f0.size ≤ R ∧ c.f1.size ≤ R ∧ (∀ s ∈ c.s0, s.size ≤ R) ∧ ∀ s ∈ c.s1, s.size ≤ R

theorem cons_of {w : World} : ∀ (K : List (List Value)) (L : List Con), K.length = L.length → (∀ (i : Nat) (k : List Value) (c : Con), K[i]? = some k → L[i]? = some c → ConAt w k c) → Cons w K.flatten L
  | [], [], _, _ => .nil
  | [], _ :: _, h, _ => by simp at h
  | _ :: _, [], h, _ => by simp at h
  | k :: K, c :: L, h, hp => by
    rw [List.flatten_cons]
    exact .cons (hp 0 k c rfl rfl) (cons_of K L (by simpa using h) fun i k' c' h1 h2 => hp (i + 1) k' c' (by simpa using h1) (by simpa using h2))
theorem flat_at : ∀ (K : List (List Value)), (∀ k ∈ K, k.length = 7) → ∀ (j : Nat) (u : Value), K.flatten[j]? = some u → ∃ k, K[j / 7]? = some k ∧ k[j % 7]? = some u
  | [], _, _, _, h => by simp at h
  | k :: K, hk, j, u, h => by
    have h7 := hk k (List.mem_cons_self ..)
    rw [List.flatten_cons] at h
    by_cases hj : j < 7
    · rw [List.getElem?_append_left (by omega)] at h
      exact ⟨k, by rw [Nat.div_eq_of_lt hj]; rfl, by rw [Nat.mod_eq_of_lt hj]; exact h⟩
    · rw [List.getElem?_append_right (by omega), h7] at h
      obtain ⟨k', h1, h2⟩ := flat_at K (fun x hx => hk x (List.mem_cons_of_mem _ hx)) (j - 7) u h
      refine ⟨k', ?_, ?_⟩
      · rw [show j / 7 = (j - 7) / 7 + 1 by omega]; simpa using h1
      · rwa [show j % 7 = (j - 7) % 7 by omega]
theorem flat_length : ∀ (K : List (List Value)), (∀ k ∈ K, k.length = 7) → K.flatten.length = K.length * 7
  | [], _ => rfl
  | k :: K, hk => by
    rw [List.flatten_cons, List.length_append, hk k (List.mem_cons_self ..), flat_length K fun x hx => hk x (List.mem_cons_of_mem _ hx), List.length_cons]
    omega

section
variable {H : Type} {enc : TypeId × Value → H} {w : World} {base : Nat} {spare : Nat → Bool} {held : Bool} {r : Reach} {b0 : Nat} {v : Value} {d : DataW H} {p : List MemPlace}
/-- The cells of one contact. -/
theorem open_con {fuel : Nat} {cs : List Value} {x : DataW H × List MemPlace} {R : Nat} (hl : cs.length = 7) (h : DataW.trod enc Try.prog w base spare held fuel 51 cs = some x) (hw : ∀ q ∈ x.1.weights Try.prog 51, q ≤ R) :
    ∃ c : Con, ConAt w cs c ∧ c.fits R := by
  obtain ⟨z0, e0, _, w0⟩ := string_at 3 (i := 0) Try.underlying9 (by kernel_rfl) h
  obtain ⟨z1, e1⟩ := bool_at 3 (i := 1) Try.underlying4 (by kernel_rfl) h
  obtain ⟨z2, e2⟩ := bool_at 3 (i := 2) Try.underlying4 (by kernel_rfl) h
  obtain ⟨z3, e3, _, w3⟩ := string_at 3 (i := 3) Try.underlying9 (by kernel_rfl) h
  obtain ⟨z4, e4, _, w4⟩ := string_at 3 (i := 4) Try.underlying9 (by kernel_rfl) h
  obtain ⟨m5, v5, y5, e5, h5, q5⟩ := leaf_of 3 (i := 5) (u := 48) (by kernel_rfl) h
  obtain ⟨m6, v6, y6, e6, h6, q6⟩ := leaf_of 3 (i := 6) (u := 48) (by kernel_rfl) h
  obtain ⟨A0, n0, c0, l0, rfl, r0, k0, x0⟩ := open_strs Try.underlying48 Try.underlying9 (by kernel_rfl) h5
  obtain ⟨A1, n1, c1, l1, rfl, r1, k1, x1⟩ := open_strs Try.underlying48 Try.underlying9 (by kernel_rfl) h6
  refine ⟨⟨z0, z1, z2, z3, z4, l0, l1⟩, ⟨A0, n0, c0, A1, n1, c1, ?_, r0, k0, r1, k1⟩, hw _ w0, hw _ w3, hw _ w4, fun s hs => hw _ (q5 _ (x0 s hs)), fun s hs => hw _ (q6 _ (x1 s hs))⟩
  rcases cs with _ | ⟨a0, _ | ⟨a1, _ | ⟨a2, _ | ⟨a3, _ | ⟨a4, _ | ⟨a5, _ | ⟨a6, _ | ⟨a7, l⟩⟩⟩⟩⟩⟩⟩⟩ <;> simp at hl e0 e1 e2 e3 e4 e5 e6
  subst e0 e1 e2 e3 e4 e5 e6
  rfl

/-- Contacts that came in. -/
theorem open_cons {R : Nat} (hv : Value.okWide Try.prog w r b0 46 v) (h : DataW.Trod enc Try.prog w base spare held 46 v d p) (hw : ∀ q ∈ d.weights Try.prog 46, q ≤ R) :
    ∃ (A : Option Addr) (n c : Nat) (L : List Con), v = .slice A n c ∧ RdCons w A n L ∧ n ≤ c ∧ ∀ x ∈ L, x.fits R := by
  obtain ⟨A, len, cap, rfl⟩ := okWide_slice Try.underlying46 hv
  obtain ⟨fuel, hf⟩ := h
  rcases Go.Deep.open_slice Try.underlying46 hf with ⟨e1, _⟩ | ⟨a, l, c, m, n, D, Pl, e1, hb, hl, hm, hmm, hx, hi⟩
  · simp [Value.cells] at e1
    obtain ⟨rfl, rfl, rfl⟩ := e1
    exact ⟨none, 0, 0, [], rfl, RdCons.nil _ _, Nat.le_refl _, by simp⟩
  · simp [Value.cells] at e1
    obtain ⟨rfl, rfl, rfl⟩ := e1
    have hlm : len ≤ m := by rw [hmm]; split <;> omega
    simp only [Prod.mk.injEq] at hx
    have hd := hx.1
    have H1 : ∀ i, i < len → ∃ kc : List Value × Con, (∀ j u, kc.1[j]? = some u → w.cell? ((a.add (i * 7)).add j) = some u) ∧ kc.1.length = 7 ∧ ConAt w kc.1 kc.2 ∧ kc.2.fits R := by
      intro i hil
      obtain ⟨cs', hc, ht'⟩ := hi i (by omega)
      rw [cellsOf_con] at hc
      obtain ⟨_, hcl, hat⟩ := World.cells?_some hc
      obtain ⟨k, hk, hf⟩ := open_con (R := R) hcl ht' (fun q hq => hw q (by
        rw [hd]
        simp only [DataW.weights, Try.underlying46]
        exact List.mem_cons_of_mem _ (List.mem_append_left _ (weights_all _ (D i) (List.mem_map_of_mem (List.mem_range.2 hil)) hq))))
      refine ⟨(cs', k), fun j u hj => ?_, hcl, hk, hf⟩
      have hj7 := (List.getElem?_eq_some_iff.1 hj).1
      dsimp only at hj hj7
      rw [hat j (by omega)]; exact hj
    obtain ⟨KC, hkl, hkp⟩ := list_of len H1
    have hK : ∀ (i : Nat) (k : List Value) (c : Con), (KC.map (·.1))[i]? = some k → (KC.map (·.2))[i]? = some c → KC[i]? = some (k, c) := by
      intro i k c h1 h2
      simp only [List.getElem?_map, Option.map_eq_some_iff] at h1 h2
      obtain ⟨x, hx1, rfl⟩ := h1
      obtain ⟨y, hy1, rfl⟩ := h2
      rw [hx1] at hy1
      cases hy1
      exact hx1
    have h7 : ∀ k ∈ KC.map (·.1), k.length = 7 := by
      intro k hk
      obtain ⟨x, hx1, rfl⟩ := List.mem_map.1 hk
      obtain ⟨i, hi', e4⟩ := List.mem_iff_getElem.1 hx1
      exact (hkp i x (by rw [List.getElem?_eq_getElem hi', e4])).2.1
    refine ⟨some a, len, cap, KC.map (·.2), rfl, ⟨⟨(KC.map (·.1)).flatten, ⟨?_, by simp only [maxLen] at hm; omega, fun hne => ?_⟩, cons_of _ _ (by simp) fun i k c h1 h2 => (hkp i _ (hK i k c h1 h2)).2.2.1⟩⟩, hl, fun x hx => ?_⟩
    · rw [flat_length _ h7]; simp [hkl]
    · have hpos : 0 < KC.length := by
        rcases Nat.eq_zero_or_pos KC.length with h | h
        · exfalso; apply hne; rw [List.eq_nil_of_length_eq_zero h]; rfl
        · exact h
      obtain ⟨b, off, spot⟩ := a
      have hk0 := hkp 0 _ (List.getElem?_eq_getElem hpos)
      have h00 := hk0.1 0 _ (List.getElem?_eq_getElem (by rw [hk0.2.1]; omega))
      have hspot : spot = none := by
        have := World.cell?_spot h00
        unfold Addr.add at this
        cases spot <;> simp_all
      subst hspot
      refine ⟨b, off, rfl, fun j u hj => ?_⟩
      obtain ⟨k, hk1, hk2⟩ := flat_at _ h7 j u hj
      simp only [List.getElem?_map, Option.map_eq_some_iff] at hk1
      obtain ⟨x, hx1, rfl⟩ := hk1
      have := (hkp _ x hx1).1 _ u hk2
      rw [add_at, add_at] at this
      rwa [show off + j / 7 * 7 + j % 7 = off + j by omega] at this
    · obtain ⟨y, hy1, rfl⟩ := List.mem_map.1 hx
      obtain ⟨i, hi', e4⟩ := List.mem_iff_getElem.1 hy1
      exact (hkp i y (by rw [List.getElem?_eq_getElem hi', e4])).2.2.2
end
end Go.Proofs.Ytdabndoojkdicaa
