/- Contacts in memory, read: what their cells hold. No condition. -/
import Derived.Test.YtdabndoojkdicaaSlices
set_option linter.unusedVariables false
set_option linter.unusedSimpArgs false
namespace Go.Proofs.Ytdabndoojkdicaa
open Go.RowKit

/-- A contact: its key, which fields are set, the fields, the sets. -/
structure Con where
  key : ByteArray
  h0 : Bool
  h1 : Bool
  f0 : ByteArray
  f1 : ByteArray
  s0 : List ByteArray
  s1 : List ByteArray

def strs (l : List ByteArray) : List Value := l.map .string
theorem strs_length (l : List ByteArray) : (strs l).length = l.length := by simp [strs]
theorem strs_one (l : List ByteArray) : ∀ u ∈ strs l, u.oneCell' = true := by
  intro u hu
  simp only [strs, List.mem_map] at hu
  obtain ⟨q, _, rfl⟩ := hu
  rfl
/-- The seven cells of a contact. -/
def ConAt (w : World) (cells : List Value) (c : Con) : Prop :=
  ∃ A0 n0 c0 A1 n1 c1, cells = [.string c.key, .bool c.h0, .bool c.h1, .string c.f0, .string c.f1, .slice A0 n0 c0, .slice A1 n1 c1] ∧
    Rd w A0 n0 1 (strs c.s0) ∧ n0 ≤ c0 ∧ Rd w A1 n1 1 (strs c.s1) ∧ n1 ≤ c1
theorem ConAt.below {w w1 : World} {cells : List Value} {c : Con} (h : ConAt w cells c) (hb : Below w.heap.size w w1) : ConAt w1 cells c := by
  obtain ⟨A0, n0, c0, A1, n1, c1, e, r0, k0, r1, k1⟩ := h
  exact ⟨A0, n0, c0, A1, n1, c1, e, r0.below hb, k0, r1.below hb, k1⟩
theorem ConAt.length {w : World} {cells : List Value} {c : Con} (h : ConAt w cells c) : cells.length = 7 := by
  obtain ⟨A0, n0, c0, A1, n1, c1, e, _⟩ := h
  rw [e]; rfl
theorem ConAt.one {w : World} {cells : List Value} {c : Con} (h : ConAt w cells c) : ∀ u ∈ cells, u.oneCell' = true := by
  obtain ⟨A0, n0, c0, A1, n1, c1, e, _⟩ := h
  rw [e]
  intro u hu
  simp at hu
  rcases hu with rfl | rfl | rfl | rfl | rfl | rfl | rfl <;> rfl
/-- The cells 'cs' are those of the contacts 'L'. -/
inductive Cons (w : World) : List Value → List Con → Prop
  | nil : Cons w [] []
  | cons {cells cs : List Value} {c : Con} {L : List Con} : ConAt w cells c → Cons w cs L → Cons w (cells ++ cs) (c :: L)
theorem Cons.kept {w w1 : World} {cs : List Value} {L : List Con} (h : Cons w cs L) (hb : Below w.heap.size w w1) : Cons w1 cs L := by
  induction h with
  | nil => exact .nil
  | cons h1 _ ih => exact .cons (h1.below hb) ih
theorem Cons.length {w : World} {cs : List Value} {L : List Con} (h : Cons w cs L) : cs.length = L.length * 7 := by
  induction h with
  | nil => rfl
  | cons h1 _ ih => rw [List.length_append, h1.length, ih, List.length_cons]; omega
theorem Cons.one {w : World} {cs : List Value} {L : List Con} (h : Cons w cs L) : ∀ u ∈ cs, u.oneCell' = true := by
  induction h with
  | nil => intro u hu; cases hu
  | cons h1 _ ih =>
    intro u hu
    rcases List.mem_append.1 hu with h | h
    · exact h1.one u h
    · exact ih u h
theorem Cons.snoc {w : World} {cs cells : List Value} {L : List Con} {c : Con} (h : Cons w cs L) (h1 : ConAt w cells c) : Cons w (cs ++ cells) (L ++ [c]) := by
  induction h with
  | nil => simpa using Cons.cons h1 .nil
  | cons g1 _ ih => rw [List.append_assoc]; exact .cons g1 ih
theorem Cons.append {w : World} {cs ds : List Value} {L M : List Con} (h : Cons w cs L) (h1 : Cons w ds M) : Cons w (cs ++ ds) (L ++ M) := by
  induction h with
  | nil => simpa using h1
  | cons g1 _ ih => rw [List.append_assoc]; exact .cons g1 ih
theorem Cons.at_ {w : World} {cs : List Value} {L : List Con} (h : Cons w cs L) : ∀ (i : Nat) (c : Con), L[i]? = some c → ConAt w ((cs.drop (i * 7)).take 7) c := by
  induction h with
  | nil => intro i c hi; simp at hi
  | @cons cells cs c0 L h1 _ ih =>
    intro i c hi
    have hl := h1.length
    cases i with
    | zero =>
      simp at hi
      subst hi
      rw [Nat.zero_mul, List.drop_zero, List.take_append_of_le_length (by omega), List.take_of_length_le (by omega)]
      exact h1
    | succ i =>
      have := ih i c (by simpa using hi)
      rw [show (i + 1) * 7 = cells.length + i * 7 by omega, List.drop_append, List.drop_eq_nil_of_le (by omega), List.nil_append, Nat.add_sub_cancel_left]
      exact this
theorem Cons.take_ {w : World} {cs : List Value} {L : List Con} (h : Cons w cs L) : ∀ k, Cons w (cs.take (k * 7)) (L.take k) := by
  induction h with
  | nil => intro k; simp; exact .nil
  | @cons cells cs c0 L h1 _ ih =>
    intro k
    have hl := h1.length
    cases k with
    | zero => simp; exact .nil
    | succ k =>
      rw [show (k + 1) * 7 = cells.length + k * 7 by omega, List.take_append, List.take_succ_cons, List.take_of_length_le (by omega), Nat.add_sub_cancel_left]
      exact .cons h1 (ih k)
/-- Contacts that are read. -/
structure RdCons (w : World) (A : Option Addr) (n : Nat) (L : List Con) : Prop where
  cells : ∃ cs, Rd w A n 7 cs ∧ Cons w cs L
theorem RdCons.below {w w1 : World} {A : Option Addr} {n : Nat} {L : List Con} (h : RdCons w A n L) (hb : Below w.heap.size w w1) : RdCons w1 A n L := by
  obtain ⟨cs, h1, h2⟩ := h.cells
  exact ⟨cs, h1.below hb, h2.kept hb⟩
theorem RdCons.length {w : World} {A : Option Addr} {n : Nat} {L : List Con} (h : RdCons w A n L) : L.length = n := by
  obtain ⟨cs, h1, h2⟩ := h.cells
  have := h1.1
  have := h2.length
  omega
theorem RdCons.le {w : World} {A : Option Addr} {n : Nat} {L : List Con} (h : RdCons w A n L) : n ≤ 9223372036854775807 := by
  obtain ⟨cs, h1, h2⟩ := h.cells
  exact h1.2.1
theorem RdCons.nil (w : World) (A : Option Addr) : RdCons w A 0 [] := ⟨[], Rd.nil _ _ _, .nil⟩
theorem RdCons.take_ {w : World} {A : Option Addr} {n : Nat} {L : List Con} (h : RdCons w A n L) (k : Nat) (hk : k ≤ n) : RdCons w A k (L.take k) := by
  obtain ⟨cs, h1, h2⟩ := h.cells
  exact ⟨_, h1.take_ k hk, h2.take_ k⟩
/-- The i-th contact, cell by cell. -/
theorem RdCons.at_ {w : World} {A : Option Addr} {n : Nat} {L : List Con} (h : RdCons w A n L) (i : Nat) (c : Con) (hi : L[i]? = some c) :
    ∃ b o A0 n0 c0 A1 n1 c1, A = some ⟨b, o, none⟩ ∧ b < w.heap.size ∧ w.cell? ⟨b, o + i * 7, none⟩ = some (.string c.key) ∧ w.cell? ⟨b, o + i * 7 + 1, none⟩ = some (.bool c.h0) ∧ w.cell? ⟨b, o + i * 7 + 2, none⟩ = some (.bool c.h1) ∧
      w.cell? ⟨b, o + i * 7 + 3, none⟩ = some (.string c.f0) ∧ w.cell? ⟨b, o + i * 7 + 4, none⟩ = some (.string c.f1) ∧ w.cell? ⟨b, o + i * 7 + 5, none⟩ = some (.slice A0 n0 c0) ∧ w.cell? ⟨b, o + i * 7 + 6, none⟩ = some (.slice A1 n1 c1) ∧
      Rd w A0 n0 1 (strs c.s0) ∧ n0 ≤ c0 ∧ Rd w A1 n1 1 (strs c.s1) ∧ n1 ≤ c1 := by
  obtain ⟨cs, h1, h2⟩ := h.cells
  have hlt := (List.getElem?_eq_some_iff.1 hi).1
  have hcl := h2.length
  have hne : cs ≠ [] := fun e => by rw [e] at hcl; simp at hcl; omega
  obtain ⟨b, o, e, hc⟩ := h1.2.2 hne
  obtain ⟨A0, n0, c0, A1, n1, c1, e7, r0, k0, r1, k1⟩ := h2.at_ i c hi
  have key : ∀ j u, [Value.string c.key, .bool c.h0, .bool c.h1, .string c.f0, .string c.f1, .slice A0 n0 c0, .slice A1 n1 c1][j]? = some u → w.cell? ⟨b, o + (i * 7 + j), none⟩ = some u := by
    intro j u hj
    apply hc
    rw [← e7, List.getElem?_take] at hj
    split at hj
    · rw [List.getElem?_drop] at hj
      exact hj
    · cases hj
  have g0 := key 0 _ rfl
  refine ⟨b, o, A0, n0, c0, A1, n1, c1, e, World.block_lt_of_cell? w _ g0, by simpa using g0, ?_, ?_, ?_, ?_, ?_, ?_, r0, k0, r1, k1⟩
  · exact key 1 _ rfl
  · exact key 2 _ rfl
  · exact key 3 _ rfl
  · exact key 4 _ rfl
  · exact key 5 _ rfl
  · exact key 6 _ rfl

/-- The place of the first one that is so; -1: none. -/
def ixOf {α : Type} (p : α → Bool) (L : List α) : Int := match L.findIdx? p with | some i => (i : Int) | none => -1
theorem ix_hit {α : Type} {p : α → Bool} {L : List α} {k : Nat} {x : α} (hx : L[k]? = some x) (hp : p x = true) (h : ∀ (j : Nat) (y : α), j < k → L[j]? = some y → p y = false) : ixOf p L = k := by
  have : L.findIdx? p = some k := by
    rw [List.findIdx?_eq_some_iff_getElem]
    obtain ⟨hk, e⟩ := List.getElem?_eq_some_iff.1 hx
    refine ⟨hk, by rw [e]; exact hp, fun j hj => ?_⟩
    rw [h j _ hj (List.getElem?_eq_getElem (by omega))]
    decide
  unfold ixOf
  rw [this]
theorem ix_miss {α : Type} {p : α → Bool} {L : List α} (h : ∀ (j : Nat) (y : α), L[j]? = some y → p y = false) : ixOf p L = -1 := by
  have : L.findIdx? p = none := by
    rw [List.findIdx?_eq_none_iff]
    intro x hx
    obtain ⟨j, hj⟩ := List.getElem?_of_mem hx
    exact h j x hj
  unfold ixOf
  rw [this]
theorem ix_cases {α : Type} (p : α → Bool) (L : List α) : (∃ (k : Nat) (x : α), L[k]? = some x ∧ p x = true ∧ (∀ (j : Nat) (y : α), j < k → L[j]? = some y → p y = false) ∧ ixOf p L = k ∧ L.find? p = some x) ∨ ((∀ x ∈ L, p x = false) ∧ ixOf p L = -1 ∧ L.find? p = none) := by
  cases h : L.findIdx? p with
  | none =>
    right
    rw [List.findIdx?_eq_none_iff] at h
    refine ⟨h, by unfold ixOf; rw [List.findIdx?_eq_none_iff.2 h], ?_⟩
    rw [List.find?_eq_none]
    intro x hx
    rw [h x hx]
    decide
  | some k =>
    left
    have h' := h
    rw [List.findIdx?_eq_some_iff_getElem] at h
    obtain ⟨hk, hp, hall⟩ := h
    refine ⟨k, L[k], List.getElem?_eq_getElem hk, hp, fun j y hj hy => ?_, by unfold ixOf; rw [h'], ?_⟩
    · obtain ⟨hjl, e⟩ := List.getElem?_eq_some_iff.1 hy
      have := hall j hj
      rw [e] at this
      simpa using this
    · rw [List.find?_eq_some_iff_getElem]
      exact ⟨hp, k, hk, rfl, fun j hj => by simpa using hall j hj⟩
end Go.Proofs.Ytdabndoojkdicaa
