/- What a step's eight bytes stand for, in plain words; the three tables. No condition. -/
import Derived.Test.YtdabndoojkdicaaDoorWords
import Derived.Test.YtdabndoojkdicaaDoorCells
set_option linter.unusedVariables false
set_option linter.unusedSimpArgs false
namespace Go.Proofs.YtdabndoojkdicaaDoor
open Go.RowKit

/-- Eight bytes. -/
structure B8 where
  b0 : Int
  b1 : Int
  b2 : Int
  b3 : Int
  b4 : Int
  b5 : Int
  b6 : Int
  b7 : Int
def B8.val (b : B8) : Value := .agg #[.int .u8 b.b0, .int .u8 b.b1, .int .u8 b.b2, .int .u8 b.b3, .int .u8 b.b4, .int .u8 b.b5, .int .u8 b.b6, .int .u8 b.b7]
def B8.ok (b : B8) : Prop := (0 ≤ b.b0 ∧ b.b0 ≤ 255) ∧ (0 ≤ b.b1 ∧ b.b1 ≤ 255) ∧ (0 ≤ b.b2 ∧ b.b2 ≤ 255) ∧ (0 ≤ b.b3 ∧ b.b3 ≤ 255) ∧ (0 ≤ b.b4 ∧ b.b4 ≤ 255) ∧ (0 ≤ b.b5 ∧ b.b5 ≤ 255) ∧ (0 ≤ b.b6 ∧ b.b6 ≤ 255) ∧ (0 ≤ b.b7 ∧ b.b7 ≤ 255)
def kindT (i : Nat) : Int := match i with | 5 => 1 | 6 => 2 | 7 => 3 | 8 => 4 | 9 => 5 | 10 => 6 | 11 => 7 | 12 => 8 | 13 => 9 | 14 => 10 | 15 => 11 | _ => 0
def keyT (i : Nat) : ByteArray := match i with | 0 => ⟨#[97, 110, 110]⟩ | 1 => ⟨#[98, 111, 98]⟩ | 2 => ⟨#[99, 121]⟩ | _ => ⟨#[100, 105]⟩
def valT (i : Nat) : ByteArray := match i with | 0 => ⟨#[49]⟩ | 1 => ⟨#[50, 50]⟩ | 2 => ⟨#[255]⟩ | _ => ⟨#[116, 119, 101, 108, 118, 101, 32, 98, 121, 116, 101, 115]⟩
/-- The package's tables, as its text lays them. -/
structure Tabs (w : World) : Prop where
  kinds : ∀ i, i < 16 → w.cell? ⟨0, i, none⟩ = some (.int .i64 (kindT i))
  keys : ∀ i, i < 4 → w.cell? ⟨1, i, none⟩ = some (.string (keyT i))
  vals : ∀ i, i < 4 → w.cell? ⟨2, i, none⟩ = some (.string (valT i))
  size : 3 ≤ w.heap.size
theorem Tabs.below {w w1 : World} (h : Tabs w) (hb : Below w.heap.size w w1) : Tabs w1 :=
  ⟨fun i hi => (hb.cell (p := ⟨0, i, none⟩) (by have := h.size; dsimp only; omega)).trans (h.kinds i hi), fun i hi => (hb.cell (p := ⟨1, i, none⟩) (by have := h.size; dsimp only; omega)).trans (h.keys i hi),
   fun i hi => (hb.cell (p := ⟨2, i, none⟩) (by have := h.size; dsimp only; omega)).trans (h.vals i hi), by have := h.size; have := hb.size; omega⟩
/-- A step. -/
structure Stp where
  kind : Int
  r : Int
  ek : Int
  key : ByteArray
  lab : Int
  val : ByteArray
  at_ : Int
  bit : Int
  mask : Int
  keep : Int
def Stp.cells (s : Stp) : List Value := [.int .i64 s.kind, .int .i64 s.r, .int .i64 s.ek, .string s.key, .int .i64 s.lab, .string s.val, .int .i64 s.at_, .int .i64 s.bit, .int .u32 s.mask, .int .i64 s.keep]
def Stp.v (s : Stp) : Value := .agg s.cells.toArray
def edK (b : B8) : Int := 1 + b.b2 % 5
def edKey (b : B8) : ByteArray := keyT (b.b3 % 4).toNat
def edL (b : B8) : Int := if 2 < edK b then b.b4 % 2 else 0
def edV (b : B8) : ByteArray := if 2 < edK b then valT (b.b4 / 2 % 4).toNat else ⟨#[]⟩
def stKind (b : B8) : Int := kindT (b.b0 % 16).toNat
def stMask (b : B8) : Int := (b.b7 + 1) * 2 ^ (b.b2 % 24).toNat
def stepOf (n : Int) (b : B8) : Stp :=
  let k := stKind b
  if k = 0 then ⟨0, b.b1 % n, edK b, edKey b, edL b, edV b, 0, 0, 0, 0⟩
  else if k = 7 then ⟨7, b.b1 % n, 0, ⟨#[]⟩, 0, ⟨#[]⟩, b.b5 % 8, b.b6 + b.b3 * 256, stMask b, 0⟩
  else if 4 ≤ k ∧ k ≤ 6 then ⟨k, b.b1 % n, 0, ⟨#[]⟩, 0, ⟨#[]⟩, b.b5 % 8, 0, 0, 0⟩
  else if 8 ≤ k ∧ k ≤ 10 then ⟨k, if b.b1 % (n + 1) = n then 5 else b.b1 % (n + 1), 0, ⟨#[]⟩, 0, ⟨#[]⟩, 0, 0, 0, if k = 10 then b.b6 else 0⟩
  else ⟨k, b.b1 % n, 0, ⟨#[]⟩, 0, ⟨#[]⟩, 0, 0, 0, 0⟩
theorem kindT_cases (i : Nat) : kindT i = 0 ∨ kindT i = 1 ∨ kindT i = 2 ∨ kindT i = 3 ∨ kindT i = 4 ∨ kindT i = 5 ∨ kindT i = 6 ∨ kindT i = 7 ∨ kindT i = 8 ∨ kindT i = 9 ∨ kindT i = 10 ∨ kindT i = 11 := by
  unfold kindT
  split <;> simp
theorem keyT_size (i : Nat) : 1 ≤ (keyT i).size ∧ (keyT i).size ≤ 3 := by unfold keyT; split <;> decide
theorem valT_size (i : Nat) : 1 ≤ (valT i).size ∧ (valT i).size ≤ 12 := by unfold valT; split <;> decide

/-! A region that stores one value ahead of its last operation. -/
/-- Nothing has turned but cell k of block S, which may hold x now; and new blocks. -/
structure PutIn (S k : Nat) (x : Value) (w w' : World) : Prop where
  os : w'.os = w.os
  tape : w'.tape = w.tape
  output : w'.output = w.output
  size : w.heap.size ≤ w'.heap.size
  far : ∀ b, b < w.heap.size → b ≠ S → w'.heap[b]? = w.heap[b]?
  here : ∀ vs, At w S vs → At w' S vs ∨ At w' S (vs.set k x)
theorem PutIn.refl (S k : Nat) (x : Value) (w : World) : PutIn S k x w w := ⟨rfl, rfl, rfl, Nat.le_refl _, fun _ _ _ => rfl, fun _ h => .inl h⟩
theorem PutIn.trans {S k : Nat} {x : Value} {w w1 w2 : World} (h : PutIn S k x w w1) (h' : PutIn S k x w1 w2) : PutIn S k x w w2 :=
  ⟨h'.os.trans h.os, h'.tape.trans h.tape, h'.output.trans h.output, Nat.le_trans h.size h'.size, fun b hb hne => (h'.far b (Nat.lt_of_lt_of_le hb h.size) hne).trans (h.far b hb hne), fun vs ha => by
    rcases h.here vs ha with h1 | h1
    · exact h'.here vs h1
    · rcases h'.here _ h1 with h2 | h2
      · exact .inr h2
      · rw [List.set_set] at h2; exact .inr h2⟩
theorem PutIn.cell {S k : Nat} {x : Value} {w w' : World} (h : PutIn S k x w w') (b o : Nat) (hb : b < w.heap.size) (hne : b ≠ S) : w'.cell? ⟨b, o, none⟩ = w.cell? ⟨b, o, none⟩ := by
  have := h.far b hb hne
  simp [World.cell?, this]
theorem PutIn.set {S k : Nat} {x : Value} {w : World} : PutIn S k x w (w.setCell ⟨S, k, none⟩ x) :=
  ⟨rfl, rfl, rfl, by simp, fun b hb hne => by simp [World.setCell, Array.getElem?_modify, Ne.symm hne], fun vs ha => .inr (ha.set k x)⟩
theorem PutIn.drew (S k : Nat) (x : Value) (w : World) : PutIn S k x w { w with drawn := w.drawn + 1 } := ⟨rfl, rfl, rfl, Nat.le_refl _, fun _ _ _ => rfl, fun _ h => .inl h⟩
theorem PutIn.below {S k B : Nat} {x : Value} {w w' : World} (h : PutIn S k x w w') (hB : B ≤ S) (hBw : B ≤ w.heap.size) : Below B w w' :=
  ⟨h.os, h.tape, h.output, h.size, fun b hb => h.far b (by omega) (by omega)⟩
theorem mask_small (b7 b2 : Int) (h7 : 0 ≤ b7 ∧ b7 ≤ 255) (h2 : 0 ≤ b2) : (b7 + 1) * 2 ^ (b2 % 24).toNat % 4294967296 = (b7 + 1) * 2 ^ (b2 % 24).toNat := by
  have hk : (b2 % 24).toNat ≤ 23 := by omega
  have hp : 2 ^ (b2 % 24).toNat ≤ 2 ^ 23 := Nat.pow_le_pow_right (by decide) hk
  obtain ⟨m, hm2⟩ : ∃ m : Nat, b7 + 1 = m := ⟨(b7 + 1).toNat, by omega⟩
  have hmm : m * 2 ^ (b2 % 24).toNat ≤ 256 * 2 ^ 23 := Nat.mul_le_mul (by omega) hp
  rw [hm2]
  have : ((m : Int) * 2 ^ (b2 % 24).toNat) = ((m * 2 ^ (b2 % 24).toNat : Nat) : Int) := by simp
  rw [this]
  omega
theorem shift_mask (P : Program) (b7 b2 : Int) (h7 : 0 ≤ b7 ∧ b7 ≤ 255) (h2 : 0 ≤ b2) (W : World) : (Op.shift .shl .u32 (b7 + 1) .u8 (b2 % 24)).run P W = .ok (.int .u32 ((b7 + 1) * 2 ^ (b2 % 24).toNat)) W := by
  unfold Op.shift
  have hk : (b2 % 24).toNat ≤ 23 := by omega
  rw [if_neg (by omega)]
  have hm : min (b2 % 24).toNat IntKind.u32.bits = (b2 % 24).toNat := by show min _ 32 = _; omega
  simp only [hm]
  have hp : 2 ^ (b2 % 24).toNat ≤ 2 ^ 23 := Nat.pow_le_pow_right (by decide) hk
  have hp1 : 0 < 2 ^ (b2 % 24).toNat := Nat.pow_pos (by decide)
  obtain ⟨m, hm2⟩ : ∃ m : Nat, b7 + 1 = m := ⟨(b7 + 1).toNat, by omega⟩
  have hmm : m * 2 ^ (b2 % 24).toNat ≤ 256 * 2 ^ 23 := Nat.mul_le_mul (by omega) hp
  have hw : IntKind.u32.wrap ((b7 + 1) * 2 ^ (b2 % 24).toNat) = (b7 + 1) * 2 ^ (b2 % 24).toNat := by
    rw [hm2]
    have : ((m : Int) * 2 ^ (b2 % 24).toNat) = ((m * 2 ^ (b2 % 24).toNat : Nat) : Int) := by simp
    rw [this]
    simp only [IntKind.wrap, IntKind.bits, IntKind.signed]
    simp
    omega
  rw [hw]
  rfl
/-! The world under a letter. -/
theorem wp_world {P : Program} {c : Code} {Q : Exit → Act → World → Prop} {a : Act} {w : World} (Φ : World → Prop) (h : Φ w) (k : ∀ W, Φ W → c.wp P Q a W) : c.wp P Q a w := k w h
theorem calls_world {P : Program} {f : FuncId} {args : Array Value} {w : World} {R : Ending → World → Prop} (Φ : World → Prop) (h : Φ w) (k : ∀ W, Φ W → Calls P f args W R) : Calls P f args w R := k w h
theorem wpList_world {P : Program} {ops : Array Oper} {l : List Oper} {Q : Exit → Act → World → Prop} {a : Act} {w : World} (Φ : World → Prop) (h : Φ w) (k : ∀ W, Φ W → wpList P ops Q l a W) : wpList P ops Q l a w := k w h
end Go.Proofs.YtdabndoojkdicaaDoor
