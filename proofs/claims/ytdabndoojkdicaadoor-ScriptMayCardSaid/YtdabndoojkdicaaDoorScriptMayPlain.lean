/- Plain facts behind ScriptMay: steps of bytes behind others; what a step may be. No condition. -/
import Derived.Test.YtdabndoojkdicaaDoorScriptTails
import Derived.Test.YtdabndoojkdicaaDoorText
set_option linter.unusedVariables false
set_option linter.unusedSimpArgs false
namespace Go.Proofs.YtdabndoojkdicaaDoor
open Go.RowKit

theorem getD_left (x y : List Int) (i : Nat) (h : i < x.length) : (x ++ y).getD i 0 = x.getD i 0 := by
  rw [List.getD_eq_getElem?_getD, List.getD_eq_getElem?_getD, List.getElem?_append_left h]
theorem getD_right (x y : List Int) (i j : Nat) (h : i = x.length + j) : (x ++ y).getD i 0 = y.getD j 0 := by
  rw [List.getD_eq_getElem?_getD, List.getD_eq_getElem?_getD, List.getElem?_append_right (by omega), show i - x.length = j by omega]
theorem b8At_left (x y : List Int) (k : Nat) (h : 8 * k + 8 ≤ x.length) : b8At (x ++ y) k = b8At x k := by
  have g := fun i hi => getD_left x y i hi
  unfold b8At
  rw [g _ (by omega), g _ (by omega), g _ (by omega), g _ (by omega), g _ (by omega), g _ (by omega), g _ (by omega), g _ (by omega)]
theorem b8At_right (x y : List Int) (k j : Nat) (h : 8 * k = x.length + 8 * j) : b8At (x ++ y) k = b8At y j := by
  have g := fun i j hi => getD_right x y i j hi
  unfold b8At
  rw [g _ (8 * j) (by omega), g _ (8 * j + 1) (by omega), g _ (8 * j + 2) (by omega), g _ (8 * j + 3) (by omega), g _ (8 * j + 4) (by omega), g _ (8 * j + 5) (by omega), g _ (8 * j + 6) (by omega), g _ (8 * j + 7) (by omega)]
theorem all_left (n : Int) (x y : List Int) (a : Nat) (ha : x.length = 8 * a) (i : Nat) (hi : i < a) : (allSteps n (x ++ y))[i]? = (allSteps n x)[i]? := by
  rw [allSteps_at _ _ _ (by rw [List.length_append]; omega), allSteps_at _ _ _ (by omega), b8At_left _ _ _ (by omega)]
theorem all_right (n : Int) (x y : List Int) (a : Nat) (ha : x.length = 8 * a) (i : Nat) (hi : a ≤ i) (hl : i < a + y.length / 8) : (allSteps n (x ++ y))[i]? = (allSteps n y)[i - a]? := by
  rw [allSteps_at _ _ _ (by rw [List.length_append]; omega), allSteps_at _ _ _ (by omega), b8At_right _ _ _ (i - a) (by omega)]
theorem keyB_T (i : Nat) : keyB (keyT i) = true := by
  unfold keyT
  split <;> decide
/-- What a step may be. -/
def Stp.may (n : Int) (s : Stp) : Prop :=
  (s.kind = 0 ∧ 0 ≤ s.r ∧ s.r < n ∧ editE s.ek s.key s.lab s.val = 0 ∧ s.key.size ≤ 8 ∧ s.val.size ≤ 12) ∨
  ((s.ek = 0 ∧ s.key = ⟨#[]⟩ ∧ s.lab = 0 ∧ s.val = ⟨#[]⟩) ∧ 0 < s.kind ∧ s.kind ≤ 11 ∧ 0 ≤ s.r ∧ (s.r < n ∨ 8 ≤ s.kind ∧ s.kind ≤ 10 ∧ s.r = 5))
theorem ed_may (b : B8) (hb : b.ok) : editE (edK b) (edKey b) (edL b) (edV b) = 0 := by
  obtain ⟨h0, h1, h2, h3, h4, h5, h6, h7⟩ := hb
  have e := keyB_T (b.b3 % 4).toNat
  have vs := valT_size (b.b4 / 2 % 4).toNat
  have hk : 1 ≤ edK b ∧ edK b ≤ 5 := by unfold edK; omega
  unfold edL edV edKey
  generalize edK b = k at *
  generalize keyT (b.b3 % 4).toNat = kk at *
  generalize valT (b.b4 / 2 % 4).toNat = vv at *
  unfold editE
  rw [if_neg (by omega), if_neg (by simp [e])]
  by_cases hd : k ≤ 2
  · rw [if_pos hd, if_neg (by omega), if_neg (by omega)]
    simp [bareE, empty_iff]
  · have hl : labelE (b.b4 % 2) = 0 := by unfold labelE; rw [if_pos (by omega)]
    have hd2 : 2 < k := by omega
    rw [if_neg hd, if_pos hd2, if_pos hd2, hl, if_neg (by simp)]
    unfold valueE
    rw [if_pos (by omega)]
theorem edV_size (b : B8) : (edV b).size ≤ 12 := by
  have vs := valT_size (b.b4 / 2 % 4).toNat
  unfold edV
  split
  · omega
  · decide
theorem stepOf_may (n : Int) (hn : 1 ≤ n ∧ n ≤ 5) (b : B8) (hb : b.ok) : (stepOf n b).may n := by
  have m1 := Int.emod_nonneg b.b1 (show n ≠ 0 by omega)
  have m2 := Int.emod_lt_of_pos b.b1 (show 0 < n by omega)
  have m3 := Int.emod_nonneg b.b1 (show n + 1 ≠ 0 by omega)
  have m4 := Int.emod_lt_of_pos b.b1 (show 0 < n + 1 by omega)
  have kc := kindT_cases (b.b0 % 16).toNat
  have em := ed_may b hb
  have ks := keyT_size (b.b3 % 4).toNat
  have vs := edV_size b
  unfold stepOf Stp.may
  generalize hk : stKind b = k
  unfold stKind at hk
  rw [hk] at kc
  dsimp only
  by_cases k0 : k = 0
  · rw [if_pos k0]
    exact .inl ⟨rfl, m1, m2, em, by show (edKey b).size ≤ 8; unfold edKey; omega, vs⟩
  · rw [if_neg k0]
    right
    by_cases k7 : k = 7
    · rw [if_pos k7]
      exact ⟨⟨rfl, rfl, rfl, rfl⟩, by dsimp only; omega, by dsimp only; omega, m1, .inl m2⟩
    rw [if_neg k7]
    by_cases k4 : 4 ≤ k ∧ k ≤ 6
    · rw [if_pos k4]
      exact ⟨⟨rfl, rfl, rfl, rfl⟩, by dsimp only; omega, by dsimp only; omega, m1, .inl m2⟩
    rw [if_neg k4]
    by_cases k8 : 8 ≤ k ∧ k ≤ 10
    · rw [if_pos k8]
      refine ⟨⟨rfl, rfl, rfl, rfl⟩, by dsimp only; omega, by dsimp only; omega, ?_, ?_⟩
      · dsimp only; split <;> omega
      · dsimp only
        split
        · exact .inr ⟨k8.1, k8.2, rfl⟩
        · exact .inl (by omega)
    rw [if_neg k8]
    exact ⟨⟨rfl, rfl, rfl, rfl⟩, by dsimp only; omega, by dsimp only; omega, m1, .inl m2⟩
theorem all_may (n : Int) (bs : List Int) (h : ∀ x ∈ bs, 0 ≤ x ∧ x ≤ 255) (i : Nat) (s : Stp) (hs : (allSteps (clampN n) bs)[i]? = some s) : s.may (clampN n) := by
  have hi : i < (allSteps (clampN n) bs).length := (List.getElem?_eq_some_iff.1 hs).1
  rw [allSteps_length] at hi
  rw [allSteps_at _ _ _ hi] at hs
  cases hs
  exact stepOf_may _ (clampN_range n) _ (b8At_ok h _)
/-- The empty edit. -/
theorem neq_edit0 (W : World) : (binOp .neq 28 (.agg #[.int .i64 0, .string ⟨#[]⟩, .int .i64 0, .string ⟨#[]⟩]) (.agg #[.int .i64 0, .string ⟨#[]⟩, .int .i64 0, .string ⟨#[]⟩])).run Tryd.prog W = .ok (.bool false) W := by
  have h3 := guard28
  have h4 := held28
  simp [go_sem, h3, h4]
end Go.Proofs.YtdabndoojkdicaaDoor
