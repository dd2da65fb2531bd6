/- What a value made of structs and arrays holds at each of its cells is read as that cell's own type says. No condition. -/
import Derived.Test.YtfbpjhhcpockfaaRowB
import Derived.Test.YtfbpjhhcpockfaaSlices
import Derived.Deep.Slices
set_option linter.unusedVariables false
set_option linter.unusedSimpArgs false
namespace Go.Proofs.Ytfbpjhhcpockfaa
open Go.ChangeShapes Go.WideShapes Go.RowKit

/-- The type that stands at cell i of a value of type t. -/
def leafAt (P : Program) : Nat → TypeId → Nat → Option TypeId
  | 0, _, _ => none
  | n + 1, t, i => match P.underlying t with
    | some (.struct fs) => (fs.find? fun f => decide (f.offset ≤ i) && decide (i < f.offset + P.cellsOf f.type)).bind fun f => leafAt P n f.type (i - f.offset)
    | some (.array k e) => if i / P.cellsOf e < k then leafAt P n e (i % P.cellsOf e) else none
    | some .bool => if i = 0 then some t else none
    | some (.int _) => if i = 0 then some t else none
    | some .string => if i = 0 then some t else none
    | some (.slice _) => if i = 0 then some t else none
    | _ => none

theorem part_at {cs : List Value} {o k j : Nat} {v : Value} (h : ((cs.drop o).take k)[j]? = some v) : cs[o + j]? = some v := by
  rw [List.getElem?_take] at h
  split at h
  · rw [List.getElem?_drop] at h; exact h
  · cases h
theorem weights_each {H : Type} {P : Program} {q : Nat} : ∀ (ts : List TypeId) (ds : List (DataW H)) (j : Nat) (t : TypeId) (d : DataW H), ts[j]? = some t → ds[j]? = some d → q ∈ d.weights P t → q ∈ DataW.weightsEach P ts ds
  | [], _, _, _, _, h, _, _ => by simp at h
  | _ :: _, [], _, _, _, _, h, _ => by simp at h
  | t :: ts, d :: ds, 0, _, _, h1, h2, hq => by
    simp at h1 h2
    subst h1 h2
    rw [DataW.weightsEach]
    exact List.mem_append_left _ hq
  | t :: ts, d :: ds, j + 1, u, e, h1, h2, hq => by
    rw [DataW.weightsEach]
    exact List.mem_append_right _ (weights_each ts ds j u e (by simpa using h1) (by simpa using h2) hq)
theorem weights_all {H : Type} {P : Program} {q : Nat} {e : TypeId} : ∀ (ds : List (DataW H)) (d : DataW H), d ∈ ds → q ∈ d.weights P e → q ∈ DataW.weightsAll P e ds
  | [], _, h, _ => by cases h
  | d :: ds, x, h, hq => by
    rw [DataW.weightsAll]
    rcases List.mem_cons.1 h with rfl | h
    · exact List.mem_append_left _ hq
    · exact List.mem_append_right _ (weights_all ds x h hq)

theorem leaf_of {H : Type} {enc : TypeId × Value → H} {P : Program} {w : World} {base : Nat} {spare : Nat → Bool} {held : Bool} :
    ∀ (n : Nat) {t u : TypeId} {i fuel : Nat} {cs : List Value} {x : DataW H × List MemPlace}, leafAt P n t i = some u → DataW.trod enc P w base spare held fuel t cs = some x →
      ∃ (m : Nat) (v : Value) (y : DataW H × List MemPlace), cs[i]? = some v ∧ DataW.trod enc P w base spare held m u [v] = some y ∧ ∀ q ∈ y.1.weights P u, q ∈ x.1.weights P t
  | 0, _, _, _, _, _, _, h, _ => by cases h
  | n + 1, t, u, i, fuel, cs, x, h, hx => by
    unfold leafAt at h
    split at h
    · rename_i fs ht
      obtain ⟨xs, m, _, ex, _, hl, hf⟩ := DataW.trod_struct ht hx
      rw [Option.bind_eq_some_iff] at h
      obtain ⟨f, hfind, h⟩ := h
      have hp := Array.find?_some hfind
      have hm := Array.mem_of_find?_eq_some hfind
      simp only [Bool.and_eq_true, decide_eq_true_eq] at hp
      obtain ⟨j, hj, e⟩ := Array.mem_iff_getElem.1 hm
      have hj' : fs[j]? = some f := by rw [Array.getElem?_eq_getElem hj, e]
      have h1 := hf j f hj'
      rw [List.getElem?_eq_getElem (show j < xs.length by omega)] at h1
      obtain ⟨m', v, y, hv, hy, hq⟩ := leaf_of n h h1
      refine ⟨m', v, y, ?_, hy, fun q hq' => ?_⟩
      · have := part_at hv
        rwa [show f.offset + (i - f.offset) = i by omega] at this
      · subst ex
        simp only [DataW.weights, ht]
        refine weights_each _ _ j f.type (xs[j]'(by omega)).1 (by simp [hj']) (by simp [hl, hj]) (hq q hq')
    · rename_i k e ht
      obtain ⟨xs, m, _, ex, _, hl, hf⟩ := DataW.trod_array ht hx
      split at h
      · rename_i hk
        have h1 := hf _ hk
        rw [List.getElem?_eq_getElem (show i / P.cellsOf e < xs.length by omega)] at h1
        obtain ⟨m', v, y, hv, hy, hq⟩ := leaf_of n h h1
        refine ⟨m', v, y, ?_, hy, fun q hq' => ?_⟩
        · have := part_at hv
          rwa [Nat.mul_comm, Nat.div_add_mod] at this
        · subst ex
          simp only [DataW.weights, ht]
          exact weights_all _ (xs[i / P.cellsOf e]'(by omega)).1 (List.mem_map_of_mem (List.getElem_mem _)) (hq q hq')
      · cases h
    · rename_i ht
      split at h
      · rename_i hi
        obtain ⟨b, rfl, _⟩ := DataW.trod_bool ht hx
        cases h
        exact ⟨fuel, _, _, by rw [hi]; rfl, hx, fun q hq => hq⟩
      · cases h
    · rename_i k ht
      split at h
      · rename_i hi
        obtain ⟨b, rfl, _⟩ := DataW.trod_int ht hx
        cases h
        exact ⟨fuel, _, _, by rw [hi]; rfl, hx, fun q hq => hq⟩
      · cases h
    · rename_i ht
      split at h
      · rename_i hi
        obtain ⟨b, rfl, _⟩ := DataW.trod_string ht hx
        cases h
        exact ⟨fuel, _, _, by rw [hi]; rfl, hx, fun q hq => hq⟩
      · cases h
    · rename_i e ht
      split at h
      · rename_i hi
        cases h
        rcases DataW.trod_slice ht hx with ⟨rfl, _⟩ | ⟨a, len, cap, _, _, _, _, rfl, _⟩
        · exact ⟨fuel, _, _, by rw [hi]; rfl, hx, fun q hq => hq⟩
        · exact ⟨fuel, _, _, by rw [hi]; rfl, hx, fun q hq => hq⟩
      · cases h
    · cases h

section
variable {H : Type} {enc : TypeId × Value → H} {w : World} {base : Nat} {spare : Nat → Bool} {held : Bool} {r : Reach} {b0 : Nat} {v : Value} {d : DataW H} {p : List MemPlace}
theorem int_at {P : Program} {t u : TypeId} {k : IntKind} {i fuel : Nat} {cs : List Value} {x : DataW H × List MemPlace} (n : Nat) (hu : P.underlying u = some (.int k)) (hl : leafAt P n t i = some u) (h : DataW.trod enc P w base spare held fuel t cs = some x) :
    ∃ z, cs[i]? = some (.int k z) ∧ (Lit.int k z).wf = true := by
  obtain ⟨m, v, y, hv, hy, hq⟩ := leaf_of n hl h
  obtain ⟨z, e, _, hw⟩ := DataW.trod_int hu hy
  simp at e
  subst e
  exact ⟨z, hv, hw⟩
theorem bool_at {P : Program} {t u : TypeId} {i fuel : Nat} {cs : List Value} {x : DataW H × List MemPlace} (n : Nat) (hu : P.underlying u = some .bool) (hl : leafAt P n t i = some u) (h : DataW.trod enc P w base spare held fuel t cs = some x) :
    ∃ z, cs[i]? = some (.bool z) := by
  obtain ⟨m, v, y, hv, hy, hq⟩ := leaf_of n hl h
  obtain ⟨z, e, _⟩ := DataW.trod_bool hu hy
  simp at e
  subst e
  exact ⟨z, hv⟩
theorem string_at {P : Program} {t u : TypeId} {i fuel : Nat} {cs : List Value} {x : DataW H × List MemPlace} (n : Nat) (hu : P.underlying u = some .string) (hl : leafAt P n t i = some u) (h : DataW.trod enc P w base spare held fuel t cs = some x) :
    ∃ z : ByteArray, cs[i]? = some (.string z) ∧ z.size ≤ maxLen ∧ z.size ∈ x.1.weights P t := by
  obtain ⟨m, v, y, hv, hy, hq⟩ := leaf_of n hl h
  obtain ⟨z, e, ey, hw⟩ := DataW.trod_string hu hy
  simp at e
  subst e
  refine ⟨z, hv, hw, hq _ ?_⟩
  rw [ey]
  simp [DataW.weights]
/-- From one by one to a list. -/
theorem list_of {α : Type} {p : Nat → α → Prop} : ∀ (n : Nat), (∀ i, i < n → ∃ x, p i x) → ∃ l : List α, l.length = n ∧ ∀ i x, l[i]? = some x → p i x
  | 0, _ => ⟨[], rfl, by simp⟩
  | n + 1, h => by
    obtain ⟨l, hl, hp⟩ := list_of n fun i hi => h i (by omega)
    obtain ⟨x, hx⟩ := h n (by omega)
    refine ⟨l ++ [x], by simp [hl], fun i y hy => ?_⟩
    rcases Nat.lt_trichotomy i n with hi | hi | hi
    · rw [List.getElem?_append_left (by omega)] at hy; exact hp i y hy
    · subst hi
      rw [List.getElem?_append_right (by omega), hl, Nat.sub_self] at hy
      simp at hy
      rw [← hy]; exact hx
    · have := (List.getElem?_eq_some_iff.1 hy).1
      simp at this
      omega
/-- An array is its cells. -/
theorem wide_array {P : Program} {t e : TypeId} {n : Nat} (ht : P.underlying t = some (.array n e)) (h : Value.okWide P w r b0 t v) : ∃ cs, v = .agg cs ∧ cs.size = P.cellsOf t := by
  simp only [Value.okWide, ht] at h
  obtain ⟨cs, h1, h2, _⟩ := h
  exact ⟨cs, h1, h2⟩
end
end Go.Proofs.Ytfbpjhhcpockfaa
