/- What a value made of structs and arrays holds at each of its cells is read as that cell's own type says; a config that came in. No condition. -/
import Derived.Test.YtdabndoojkdicaaRow
import Derived.Test.YtdabndoojkdicaaConfig
import Derived.Deep.Slices
set_option linter.unusedVariables false
set_option linter.unusedSimpArgs false
namespace Go.Proofs.Ytdabndoojkdicaa
open Go.ChangeShapes Go.WideShapes Go.RowKit

/-- The type that stands at cell i of a value of type t. -/
def leafAt (P : Program) : Nat → TypeId → Nat → Option TypeId
  | 0, _, _ => none
  | n + 1, t, i => match P.underlying t with
    | some (.struct fs) => (fs.find? fun f => decide (f.offset ≤ i) && decide (i < f.offset + P.cellsOf f.type)).bind fun f => leafAt P n f.type (i - f.offset)
    | some (.array k e) => if i / P.cellsOf e < k then leafAt P n e (i % P.cellsOf e) else none
    | some .bool => if i = 0 then some t else none
    | some (.int _) => if i = 0 then some t else none
    | some .string => if i = 0 then some t else none
    | some (.slice _) => if i = 0 then some t else none
    | _ => none

theorem part_at {cs : List Value} {o k j : Nat} {v : Value} (h : ((cs.drop o).take k)[j]? = some v) : cs[o + j]? = some v := by
  rw [List.getElem?_take] at h
  split at h
  · rw [List.getElem?_drop] at h; exact h
  · cases h
theorem weights_each {H : Type} {P : Program} {q : Nat} : ∀ (ts : List TypeId) (ds : List (DataW H)) (j : Nat) (t : TypeId) (d : DataW H), ts[j]? = some t → ds[j]? = some d → q ∈ d.weights P t → q ∈ DataW.weightsEach P ts ds
  | [], _, _, _, _, h, _, _ => by simp at h
  | _ :: _, [], _, _, _, _, h, _ => by simp at h
  | t :: ts, d :: ds, 0, _, _, h1, h2, hq => by
    simp at h1 h2
    subst h1 h2
    rw [DataW.weightsEach]
    exact List.mem_append_left _ hq
  | t :: ts, d :: ds, j + 1, u, e, h1, h2, hq => by
    rw [DataW.weightsEach]
    exact List.mem_append_right _ (weights_each ts ds j u e (by simpa using h1) (by simpa using h2) hq)
theorem weights_all {H : Type} {P : Program} {q : Nat} {e : TypeId} : ∀ (ds : List (DataW H)) (d : DataW H), d ∈ ds → q ∈ d.weights P e → q ∈ DataW.weightsAll P e ds
  | [], _, h, _ => by cases h
  | d :: ds, x, h, hq => by
    rw [DataW.weightsAll]
    rcases List.mem_cons.1 h with rfl | h
    · exact List.mem_append_left _ hq
    · exact List.mem_append_right _ (weights_all ds x h hq)

theorem leaf_of {H : Type} {enc : TypeId × Value → H} {P : Program} {w : World} {base : Nat} {spare : Nat → Bool} {held : Bool} :
    ∀ (n : Nat) {t u : TypeId} {i fuel : Nat} {cs : List Value} {x : DataW H × List MemPlace}, leafAt P n t i = some u → DataW.trod enc P w base spare held fuel t cs = some x →
      ∃ (m : Nat) (v : Value) (y : DataW H × List MemPlace), cs[i]? = some v ∧ DataW.trod enc P w base spare held m u [v] = some y ∧ ∀ q ∈ y.1.weights P u, q ∈ x.1.weights P t
  | 0, _, _, _, _, _, _, h, _ => by cases h
  | n + 1, t, u, i, fuel, cs, x, h, hx => by
    unfold leafAt at h
    split at h
    · rename_i fs ht
      obtain ⟨xs, m, _, ex, _, hl, hf⟩ := DataW.trod_struct ht hx
      rw [Option.bind_eq_some_iff] at h
      obtain ⟨f, hfind, h⟩ := h
      have hp := Array.find?_some hfind
      have hm := Array.mem_of_find?_eq_some hfind
      simp only [Bool.and_eq_true, decide_eq_true_eq] at hp
      obtain ⟨j, hj, e⟩ := Array.mem_iff_getElem.1 hm
      have hj' : fs[j]? = some f := by rw [Array.getElem?_eq_getElem hj, e]
      have h1 := hf j f hj'
      rw [List.getElem?_eq_getElem (show j < xs.length by omega)] at h1
      obtain ⟨m', v, y, hv, hy, hq⟩ := leaf_of n h h1
      refine ⟨m', v, y, ?_, hy, fun q hq' => ?_⟩
      · have := part_at hv
        rwa [show f.offset + (i - f.offset) = i by omega] at this
      · subst ex
        simp only [DataW.weights, ht]
        refine weights_each _ _ j f.type (xs[j]'(by omega)).1 (by simp [hj']) (by simp [hl, hj]) (hq q hq')
    · rename_i k e ht
      obtain ⟨xs, m, _, ex, _, hl, hf⟩ := DataW.trod_array ht hx
      split at h
      · rename_i hk
        have h1 := hf _ hk
        rw [List.getElem?_eq_getElem (show i / P.cellsOf e < xs.length by omega)] at h1
        obtain ⟨m', v, y, hv, hy, hq⟩ := leaf_of n h h1
        refine ⟨m', v, y, ?_, hy, fun q hq' => ?_⟩
        · have := part_at hv
          rwa [Nat.mul_comm, Nat.div_add_mod] at this
        · subst ex
          simp only [DataW.weights, ht]
          exact weights_all _ (xs[i / P.cellsOf e]'(by omega)).1 (List.mem_map_of_mem (List.getElem_mem _)) (hq q hq')
      · cases h
    · rename_i ht
      split at h
      · rename_i hi
        obtain ⟨b, rfl, _⟩ := DataW.trod_bool ht hx
        cases h
        exact ⟨fuel, _, _, by rw [hi]; rfl, hx, fun q hq => hq⟩
      · cases h
    · rename_i k ht
      split at h
      · rename_i hi
        obtain ⟨b, rfl, _⟩ := DataW.trod_int ht hx
        cases h
        exact ⟨fuel, _, _, by rw [hi]; rfl, hx, fun q hq => hq⟩
      · cases h
    · rename_i ht
      split at h
      · rename_i hi
        obtain ⟨b, rfl, _⟩ := DataW.trod_string ht hx
        cases h
        exact ⟨fuel, _, _, by rw [hi]; rfl, hx, fun q hq => hq⟩
      · cases h
    · rename_i e ht
      split at h
      · rename_i hi
        cases h
        rcases DataW.trod_slice ht hx with ⟨rfl, _⟩ | ⟨a, len, cap, _, _, _, _, rfl, _⟩
        · exact ⟨fuel, _, _, by rw [hi]; rfl, hx, fun q hq => hq⟩
        · exact ⟨fuel, _, _, by rw [hi]; rfl, hx, fun q hq => hq⟩
      · cases h
    · cases h

section
variable {H : Type} {enc : TypeId × Value → H} {w : World} {base : Nat} {spare : Nat → Bool} {held : Bool} {r : Reach} {b0 : Nat} {v : Value} {d : DataW H} {p : List MemPlace}
theorem int_at {P : Program} {t u : TypeId} {k : IntKind} {i fuel : Nat} {cs : List Value} {x : DataW H × List MemPlace} (n : Nat) (hu : P.underlying u = some (.int k)) (hl : leafAt P n t i = some u) (h : DataW.trod enc P w base spare held fuel t cs = some x) :
    ∃ z, cs[i]? = some (.int k z) ∧ (Lit.int k z).wf = true := by
  obtain ⟨m, v, y, hv, hy, hq⟩ := leaf_of n hl h
  obtain ⟨z, e, _, hw⟩ := DataW.trod_int hu hy
  simp at e
  subst e
  exact ⟨z, hv, hw⟩
theorem bool_at {P : Program} {t u : TypeId} {i fuel : Nat} {cs : List Value} {x : DataW H × List MemPlace} (n : Nat) (hu : P.underlying u = some .bool) (hl : leafAt P n t i = some u) (h : DataW.trod enc P w base spare held fuel t cs = some x) :
    ∃ z, cs[i]? = some (.bool z) := by
  obtain ⟨m, v, y, hv, hy, hq⟩ := leaf_of n hl h
  obtain ⟨z, e, _⟩ := DataW.trod_bool hu hy
  simp at e
  subst e
  exact ⟨z, hv⟩
theorem string_at {P : Program} {t u : TypeId} {i fuel : Nat} {cs : List Value} {x : DataW H × List MemPlace} (n : Nat) (hu : P.underlying u = some .string) (hl : leafAt P n t i = some u) (h : DataW.trod enc P w base spare held fuel t cs = some x) :
    ∃ z : ByteArray, cs[i]? = some (.string z) ∧ z.size ≤ maxLen ∧ z.size ∈ x.1.weights P t := by
  obtain ⟨m, v, y, hv, hy, hq⟩ := leaf_of n hl h
  obtain ⟨z, e, ey, hw⟩ := DataW.trod_string hu hy
  simp at e
  subst e
  refine ⟨z, hv, hw, hq _ ?_⟩
  rw [ey]
  simp [DataW.weights]
/-- From one by one to a list. -/
theorem list_of {α : Type} {p : Nat → α → Prop} : ∀ (n : Nat), (∀ i, i < n → ∃ x, p i x) → ∃ l : List α, l.length = n ∧ ∀ i x, l[i]? = some x → p i x
  | 0, _ => ⟨[], rfl, by simp⟩
  | n + 1, h => by
    obtain ⟨l, hl, hp⟩ := list_of n fun i hi => h i (by omega)
    obtain ⟨x, hx⟩ := h n (by omega)
    refine ⟨l ++ [x], by simp [hl], fun i y hy => ?_⟩
    rcases Nat.lt_trichotomy i n with hi | hi | hi
    · rw [List.getElem?_append_left (by omega)] at hy; exact hp i y hy
    · subst hi
      rw [List.getElem?_append_right (by omega), hl, Nat.sub_self] at hy
      simp at hy
      rw [← hy]; exact hx
    · have := (List.getElem?_eq_some_iff.1 hy).1
      simp at this
      omega
/-- Texts in a row that came in. -/
theorem open_strs {t e : TypeId} {fuel : Nat} {x : DataW H × List MemPlace} {P : Program} (ht : P.underlying t = some (.slice e)) (he : P.underlying e = some .string) (hone : P.cellsOf e = 1) (h : DataW.trod enc P w base spare held fuel t [v] = some x) :
    ∃ (A : Option Addr) (n c : Nat) (l : List ByteArray), v = .slice A n c ∧ Rd w A n 1 (strs l) ∧ n ≤ c ∧ ∀ s ∈ l, s.size ∈ x.1.weights P t := by
  rcases Go.Deep.open_slice ht h with ⟨e1, _⟩ | ⟨a, len, cap, m, n, D, Pl, e1, hb, hl, hm, hmm, hx, hi⟩
  · simp at e1
    subst e1
    exact ⟨none, 0, 0, [], rfl, Rd.nil _ _ _, Nat.le_refl _, by simp⟩
  · simp at e1
    subst e1
    have hlm : len ≤ m := by rw [hmm]; split <;> omega
    have H1 : ∀ i, i < len → ∃ s : ByteArray, w.cell? (a.add i) = some (.string s) ∧ s.size ∈ (D i).weights P e := by
      intro i hil
      obtain ⟨cs', hc, ht'⟩ := hi i (by omega)
      rw [hone, Nat.mul_one] at hc
      obtain ⟨s, e2, e3, _⟩ := DataW.trod_string he ht'
      obtain ⟨_, hcl, hat⟩ := World.cells?_some hc
      have h0 := hat 0 (by omega)
      rw [e2] at h0
      refine ⟨s, ?_, ?_⟩
      · have hz : (a.add i).add 0 = a.add i := by unfold Addr.add; simp
        rw [hz] at h0; simpa using h0
      · have := congrArg Prod.fst e3
        dsimp only at this
        rw [this]; simp [DataW.weights]
    obtain ⟨l, hll, hlp⟩ := list_of len H1
    refine ⟨some a, len, cap, l, rfl, ⟨by simp [strs, hll], by simp only [maxLen] at hm; omega, fun hne => ?_⟩, hl, ?_⟩
    · have hpos : 0 < l.length := by
        rcases Nat.eq_zero_or_pos l.length with h | h
        · exfalso; apply hne; rw [List.eq_nil_of_length_eq_zero h]; rfl
        · exact h
      obtain ⟨b, off, spot⟩ := a
      have hspot : spot = none := by
        have := (hlp 0 _ (List.getElem?_eq_getElem hpos)).1
        simpa [Addr.add] using World.cell?_spot this
      subst hspot
      refine ⟨b, off, rfl, fun j u hj => ?_⟩
      simp only [strs, List.getElem?_map, Option.map_eq_some_iff] at hj
      obtain ⟨s, hs, rfl⟩ := hj
      have := (hlp j s hs).1
      rwa [add_at] at this
    · intro s hs
      obtain ⟨i, hi', e4⟩ := List.mem_iff_getElem.1 hs
      have hil : i < len := by omega
      have := (hlp i s (by rw [List.getElem?_eq_getElem hi', e4])).2
      rw [hx]
      simp only [DataW.weights, ht]
      refine List.mem_cons_of_mem _ (List.mem_append_left _ (weights_all _ (D i) (List.mem_map_of_mem (List.mem_range.2 hil)) this))
/-- A config that came in. -/
theorem open_cfg (hv : Value.okWide Try.prog w r b0 38 v) (h : DataW.Trod enc Try.prog w base spare held 38 v d p) : ∃ c : Cfg, v = c.val ∧ c.ok := by
  obtain ⟨cs, rfl, hs⟩ := okWide_struct Try.underlying38 hv
  obtain ⟨fuel, hf⟩ := h
  obtain ⟨z0, e0, w0⟩ := int_at 3 (i := 0) Try.underlying3 (by kernel_rfl) hf
  obtain ⟨z1, e1, w1⟩ := int_at 3 (i := 1) Try.underlying3 (by kernel_rfl) hf
  obtain ⟨z2, e2, w2⟩ := int_at 3 (i := 2) Try.underlying3 (by kernel_rfl) hf
  obtain ⟨z3, e3, w3⟩ := int_at 3 (i := 3) Try.underlying3 (by kernel_rfl) hf
  obtain ⟨z4, e4, w4⟩ := int_at 3 (i := 4) Try.underlying3 (by kernel_rfl) hf
  obtain ⟨z5, e5, w5⟩ := int_at 3 (i := 5) Try.underlying3 (by kernel_rfl) hf
  rw [show Try.prog.cellsOf 38 = 6 by kernel_rfl] at hs
  refine ⟨⟨z0, z1, z2, z3, z4, z5⟩, ?_, ?_⟩
  · obtain ⟨l⟩ := cs
    rcases l with _ | ⟨a0, _ | ⟨a1, _ | ⟨a2, _ | ⟨a3, _ | ⟨a4, _ | ⟨a5, _ | ⟨a6, l⟩⟩⟩⟩⟩⟩⟩ <;> simp [Value.cells] at hs e0 e1 e2 e3 e4 e5
    subst e0 e1 e2 e3 e4 e5
    rfl
  · have r0 := wf_range w0
    have r1 := wf_range w1
    have r2 := wf_range w2
    have r3 := wf_range w3
    have r4 := wf_range w4
    have r5 := wf_range w5
    exact ⟨r0.1, r0.2, r1.1, r1.2, r2.1, r2.2, r3.1, r3.2, r4.1, r4.2, r5.1, r5.2⟩
end
end Go.Proofs.Ytdabndoojkdicaa
