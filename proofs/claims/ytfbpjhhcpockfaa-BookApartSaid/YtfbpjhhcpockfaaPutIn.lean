/- A region that stores one value ahead of its last operation. No condition. -/
import Derived.Test.YtfbpjhhcpockfaaCells
set_option linter.unusedVariables false
set_option linter.unusedSimpArgs false
namespace Go.Proofs.Ytfbpjhhcpockfaa
open Go.RowKit
/-! A region that stores one value ahead of its last operation. -/
/-- Block b holds these cells, of elements of this type, and may be written. -/
def AtT (w : World) (b : Nat) (t : TypeId) (vs : List Value) : Prop := w.heap[b]? = some (.cells vs.toArray t (0, 0))
theorem AtT.at_ {w : World} {b : Nat} {t : TypeId} {vs : List Value} (h : AtT w b t vs) : At w b vs := ⟨t, h⟩
theorem AtT.set {w : World} {b : Nat} {t : TypeId} {vs : List Value} (h : AtT w b t vs) (i : Nat) (v : Value) : AtT (w.setCell ⟨b, i, none⟩ v) b t (vs.set i v) := by
  unfold AtT at h ⊢
  simp [World.setCell, Array.getElem?_modify, h]
/-- Nothing has turned but cell k of block S, which may hold x now; and new blocks. -/
structure PutIn (S k : Nat) (x : Value) (w w' : World) : Prop where
  os : w'.os = w.os
  tape : w'.tape = w.tape
  output : w'.output = w.output
  size : w.heap.size ≤ w'.heap.size
  far : ∀ b, b < w.heap.size → b ≠ S → w'.heap[b]? = w.heap[b]?
  here : ∀ t vs, AtT w S t vs → AtT w' S t vs ∨ AtT w' S t (vs.set k x)
theorem PutIn.refl (S k : Nat) (x : Value) (w : World) : PutIn S k x w w := ⟨rfl, rfl, rfl, Nat.le_refl _, fun _ _ _ => rfl, fun _ _ h => .inl h⟩
theorem PutIn.trans {S k : Nat} {x : Value} {w w1 w2 : World} (h : PutIn S k x w w1) (h' : PutIn S k x w1 w2) : PutIn S k x w w2 :=
  ⟨h'.os.trans h.os, h'.tape.trans h.tape, h'.output.trans h.output, Nat.le_trans h.size h'.size, fun b hb hne => (h'.far b (Nat.lt_of_lt_of_le hb h.size) hne).trans (h.far b hb hne), fun t vs ha => by
    rcases h.here t vs ha with h1 | h1
    · exact h'.here t vs h1
    · rcases h'.here t _ h1 with h2 | h2
      · exact .inr h2
      · rw [List.set_set] at h2; exact .inr h2⟩
theorem PutIn.cell {S k : Nat} {x : Value} {w w' : World} (h : PutIn S k x w w') (b o : Nat) (hb : b < w.heap.size) (hne : b ≠ S) : w'.cell? ⟨b, o, none⟩ = w.cell? ⟨b, o, none⟩ := by
  have := h.far b hb hne
  simp [World.cell?, this]
theorem PutIn.set {S k : Nat} {x : Value} {w : World} : PutIn S k x w (w.setCell ⟨S, k, none⟩ x) :=
  ⟨rfl, rfl, rfl, by simp, fun b hb hne => by simp [World.setCell, Array.getElem?_modify, Ne.symm hne], fun t vs ha => .inr (ha.set k x)⟩
theorem PutIn.drew (S k : Nat) (x : Value) (w : World) : PutIn S k x w { w with drawn := w.drawn + 1 } := ⟨rfl, rfl, rfl, Nat.le_refl _, fun _ _ _ => rfl, fun _ _ h => .inl h⟩
theorem PutIn.below {S k B : Nat} {x : Value} {w w' : World} (h : PutIn S k x w w') (hB : B ≤ S) (hBw : B ≤ w.heap.size) : Below B w w' :=
  ⟨h.os, h.tape, h.output, h.size, fun b hb => h.far b (by omega) (by omega)⟩
theorem PutIn.of_below {S k : Nat} {x : Value} {w w' : World} (h : Below w.heap.size w w') : PutIn S k x w w' := ⟨h.os, h.tape, h.output, h.size, fun b hb _ => h.block b hb, fun t vs ha => .inl ((h.block S (Array.getElem?_eq_some_iff.1 ha).1).trans ha)⟩
theorem PutIn.hereA {S k : Nat} {x : Value} {w w' : World} {vs : List Value} (h : PutIn S k x w w') (ha : At w S vs) : At w' S vs ∨ At w' S (vs.set k x) := by
  obtain ⟨t, ht⟩ := ha
  rcases h.here t vs ht with h1 | h1
  · exact .inl ⟨t, h1⟩
  · exact .inr ⟨t, h1⟩
theorem PutIn.at_ {S k b : Nat} {x : Value} {w w' : World} {vs : List Value} (h : PutIn S k x w w') (ha : At w b vs) (hne : b ≠ S) : At w' b vs := by
  have hl := ha.lt
  obtain ⟨t, ht⟩ := ha
  exact ⟨t, (h.far b hl hne).trans ht⟩
end Go.Proofs.Ytfbpjhhcpockfaa
