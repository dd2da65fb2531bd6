/- A slice of bytes among the arguments, opened as one list of numbers. No condition. -/
import Derived.Test.YtdabndoojkdicaaDoorSlices
import Derived.ProofKit
import Derived.OpenShut
set_option linter.unusedVariables false
set_option linter.unusedSimpArgs false
namespace Go.Proofs.YtdabndoojkdicaaDoor
open Go.ChangeShapes Go.WideShapes Go.ChangeAt Go.RowKit

theorem open_bytes {H : Type} {enc : TypeId × Value → H} {P : Program} {w : World} {r : Reach} {b0 t e : TypeId} {v : Value} {d : DataW H} {p : List MemPlace}
    (ht : P.underlying t = some (.slice e)) (he : P.underlying e = some (.int .u8)) (hc : P.cellsOf e = 1) (hv : Value.okWide P w r b0 t v) (h : DataW.Trod enc P w 0 (fun _ => true) true t v d p) :
    ∃ (A : Option Addr) (n c : Nat) (bs : List Int), v = .slice A n c ∧ n ≤ c ∧ Rd w A n 1 (nums .u8 bs) ∧ (∀ x ∈ bs, 0 ≤ x ∧ x ≤ 255) := by
  obtain ⟨A, n, c, rfl⟩ := Go.WideShapes.okWide_slice ht hv
  obtain ⟨fuel, hf⟩ := h
  rcases open_ints ht he hc hf with ⟨hcs, _⟩ | ⟨a, len, cap, zs, hcs, _, hle, hmax, hall, _, hcell, hwf⟩
  · simp [Value.cells] at hcs
    obtain ⟨rfl, rfl, rfl⟩ := hcs
    exact ⟨none, 0, 0, [], rfl, Nat.le_refl _, Rd.nil _ _ _, fun x hx => by cases hx⟩
  · simp [Value.cells] at hcs
    obtain ⟨rfl, rfl, rfl⟩ := hcs
    simp only [if_true] at hall
    refine ⟨some a, n, c, zs.take n, rfl, hle, ⟨?_, ?_, ?_⟩, ?_⟩
    · simp [nums, hall]; omega
    · simp [maxLen] at hmax; omega
    · intro hne
      have hn : 0 < n := by
        rcases Nat.eq_zero_or_pos n with h0 | h0
        · subst h0; simp [nums] at hne
        · exact h0
      obtain ⟨b, off, rfl, hc'⟩ := Go.ints_at hcell (by omega)
      refine ⟨b, off, rfl, fun j u hu => ?_⟩
      simp only [nums, List.getElem?_map, Option.map_eq_some_iff] at hu
      obtain ⟨x, hx, rfl⟩ := hu
      have hjn : j < n := by have := (List.getElem?_eq_some_iff.1 hx).1; simp at this; omega
      rw [List.getElem?_take_of_lt hjn] at hx
      rw [hc' j (by omega), List.getD_eq_getElem?_getD, hx]; rfl
    · intro x hx
      have := hwf x (List.mem_of_mem_take hx)
      simpa [Lit.wf, IntKind.min, IntKind.max, IntKind.signed, IntKind.bits] using this
end Go.Proofs.YtdabndoojkdicaaDoor
