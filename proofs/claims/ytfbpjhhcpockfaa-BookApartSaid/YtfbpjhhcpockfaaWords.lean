/- Small words of this seat: what a key, a label, a value and an edit may be, as plain functions; laws on worlds. No condition. -/
import Derived.Test.YtfbpjhhcpockfaaProg
import Derived.WalkKit
import Derived.WalkLawsBesides
import Derived.WalkSpells
import Derived.Lib.Hide
import Derived.Lib.Strings
import Derived.Deep.QuietTactic
import Derived.BigQuiet
import Derived.Lib.QuietBelow
import Derived.StillTailTactics
set_option linter.unusedVariables false
set_option linter.unusedSimpArgs false
namespace Go.Proofs.Ytfbpjhhcpockfaa
open Go.RowKit

/-- Cells and marks below a mark read as they did. -/
theorem bcell {W w1 : World} (hb : Below W.heap.size W w1) : (∀ b o, b < W.heap.size → w1.cell? ⟨b, o, none⟩ = W.cell? ⟨b, o, none⟩) ∧ (∀ b o, b < W.heap.size → w1.frozen? ⟨b, o, none⟩ = W.frozen? ⟨b, o, none⟩) :=
  ⟨fun b o h => hb.cell (p := ⟨b, o, none⟩) h, fun b o h => hb.frozen (p := ⟨b, o, none⟩) h⟩
/-- In a world with more draws and blocks behind it. -/
theorem regrown_cell (w : World) : ∀ d os b o, b < w.heap.size → (Sort.grow (redrawn w d) os).cell? ⟨b, o, none⟩ = w.cell? ⟨b, o, none⟩ :=
  fun d os _ _ h => (below_regrown w d os).cell h
/-- A callee that turns nothing, met there. -/
theorem regrown_same {P : Program} {f : FuncId} {args : Array Value} {w : World} {d : Nat} {os : Array Obj} {v : Value}
    (h : Calls P f args (Sort.grow (redrawn w d) os) fun e w' => e = .returned v ∧ Sort.grow (redrawn w d) os = w') : Calls P f args (Sort.grow (redrawn w d) os) fun e w'' => e = .returned v ∧ ∃ p : Regrown, w'' = Sort.grow (redrawn w p.d) p.os :=
  h.mono fun _ _ ⟨he, hw⟩ => ⟨he, ⟨d, os⟩, hw.symm⟩
theorem ret_int {k : IntKind} {a b : Int} (h : a = b) : Ending.returned (.int k a) = .returned (.int k b) := by rw [h]
theorem ret_bool {a b : Bool} (h : a = b) : Ending.returned (.bool a) = .returned (.bool b) := by rw [h]
theorem below_drewN {B : Nat} {w W : World} (h : Below B w W) (n : Nat) : Below B w (W.drewN n) := ⟨h.os, h.tape, h.output, h.size, h.block⟩
theorem below_next {w W W1 : World} (h : Below w.heap.size w W) (hb : Below W.heap.size W W1) : Below w.heap.size w W1 := h.trans (hb.mono h.size)
theorem below_iter (w : World) (s : ByteArray) (p : Nat) : Below w.heap.size w (w.iter s p) := (Below.refl _ _).alloc (Nat.le_refl _) _

theorem and_one_i64 (E : Int) : bits .and .i64 E 1 = E % 2 := by
  show IntKind.i64.wrap ((BitVec.ofInt 64 E &&& BitVec.ofInt 64 1).toNat : Int) = _
  have h1 : (BitVec.ofInt 64 (1 : Int)).toNat = 1 := by decide
  rw [BitVec.toNat_and, h1, Nat.and_one_is_mod, BitVec.toNat_ofInt, IntKind.wrap_i64]
  have h2 : (((E % ((2 ^ 64 : Nat) : Int)).toNat % 2 : Nat) : Int) = E % 2 := by omega
  rw [h2]
  omega
theorem empty_iff (v : ByteArray) : v.toList.isEmpty = decide (v.size = 0) := by
  rw [Lib.toList_data]
  cases h : v.data.toList with
  | nil =>
    have : v.data.toList.length = 0 := by rw [h]; rfl
    have h2 : v.size = 0 := by simpa using this
    simp [h2]
  | cons a l =>
    have : v.data.toList.length = l.length + 1 := by rw [h]; rfl
    have h2 : v.size = l.length + 1 := by simpa using this
    simp [h2]
/-! Texts: the document's words. -/
def byteB (c : UInt8) : Bool := decide (97 ≤ c.toNat) && decide (c.toNat ≤ 122)
def keyB (s : ByteArray) : Bool := decide (1 ≤ s.size) && decide (s.size ≤ 8) && s.data.toList.all byteB
def keyE (s : ByteArray) : Int := if keyB s = true then 0 else 10
def labelE (n : Int) : Int := if 0 ≤ n ∧ n ≤ 1 then 0 else 11
def valueE (s : ByteArray) : Int := if 1 ≤ s.size ∧ s.size ≤ 12 then 0 else 12
def bareE (l : Int) (v : ByteArray) : Int := if (l != 0) = true then 11 else if (!v.toList.isEmpty) = true then 12 else 0
def editE (k : Int) (key : ByteArray) (l : Int) (v : ByteArray) : Int :=
  if k < 1 ∨ 5 < k then 1 else if keyB key = false then 10 else
  if k ≤ 2 then bareE l v else if labelE l ≠ 0 then 11 else valueE v

theorem keyE_cases (s : ByteArray) : (keyB s = true ∧ keyE s = 0) ∨ (keyB s = false ∧ keyE s = 10) := by
  unfold keyE; cases keyB s <;> simp
theorem labelE_cases (n : Int) : labelE n = 0 ∨ labelE n = 11 := by unfold labelE; split <;> simp
theorem all_take_succ (s : ByteArray) (k : Nat) (h : k < s.size) : (s.data.toList.take (k + 1)).all byteB = ((s.data.toList.take k).all byteB && byteB s[k]) := by
  have hk : k < s.data.toList.length := by simpa using h
  rw [List.take_succ_eq_append_getElem hk, List.all_append]
  simp
  rfl
theorem keyE_bad_size {s : ByteArray} (h : s.size < 1 ∨ 8 < s.size) : keyE s = 10 := by
  unfold keyE keyB
  rw [if_neg]
  simp
  intro h1 h2
  omega
theorem keyE_bad {s : ByteArray} {k : Nat} (h : k < s.size) (hb : byteB s[k] = false) : keyE s = 10 := by
  unfold keyE
  rw [if_neg]
  unfold keyB
  intro h1
  simp only [Bool.and_eq_true, List.all_eq_true] at h1
  have := h1.2 s[k] (Array.mem_toList_iff.2 (Array.getElem_mem (xs := s.data) h))
  rw [hb] at this
  cases this
theorem keyE_good {s : ByteArray} {k : Nat} (h1 : 1 ≤ s.size) (h8 : s.size ≤ 8) (hk : s.size ≤ k) (ha : (s.data.toList.take k).all byteB = true) : keyE s = 0 := by
  unfold keyE keyB
  rw [List.take_of_length_le (by simpa using hk)] at ha
  rw [if_pos]
  simp [h1, h8, ha]
end Go.Proofs.Ytfbpjhhcpockfaa
