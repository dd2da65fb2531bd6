/- What the laws on scripts share: rows of steps that are read; the head 'shown', the cut 'few', '==' of steps. No condition beyond those of Steps. -/
import Derived.Test.YtdabndoojkdicaaDoorSteps
import Derived.Laws.StructEq
set_option linter.unusedVariables false
set_option linter.unusedSimpArgs false
namespace Go.Proofs.YtdabndoojkdicaaDoor
open Go.RowKit

/-- A row of steps that is read. -/
def RdSteps (w : World) (A : Option Addr) (k : Nat) (L : List Stp) : Prop := L.length = k ∧ Rd w A k 10 (stepCells L)
theorem RdSteps.below {w w1 : World} {A : Option Addr} {k : Nat} {L : List Stp} (h : RdSteps w A k L) (hb : Below w.heap.size w w1) : RdSteps w1 A k L := ⟨h.1, h.2.below hb⟩
theorem stepCells_at : ∀ (L : List Stp) (i : Nat) (s : Stp) (j : Nat) (u : Value), L[i]? = some s → s.cells[j]? = some u → (stepCells L)[i * 10 + j]? = some u
  | [], _, _, _, _, h, _ => by simp at h
  | t :: L, 0, s, j, u, h, hu => by
    simp at h
    subst h
    have hj : j < 10 := by have := (List.getElem?_eq_some_iff.1 hu).1; simpa [Stp.cells] using this
    show (t.cells ++ stepCells L)[0 * 10 + j]? = some u
    rw [Nat.zero_mul, Nat.zero_add, List.getElem?_append_left (by simp [Stp.cells]; omega)]
    exact hu
  | t :: L, i + 1, s, j, u, h, hu => by
    show (t.cells ++ stepCells L)[(i + 1) * 10 + j]? = some u
    have h10 : t.cells.length = 10 := rfl
    rw [List.getElem?_append_right (by omega), h10, show (i + 1) * 10 + j - 10 = i * 10 + j by omega]
    exact stepCells_at L i s j u (by simpa using h) hu
/-- The i-th step, cell by cell. -/
theorem RdSteps.at_ {w : World} {A : Option Addr} {k : Nat} {L : List Stp} (h : RdSteps w A k L) (i : Nat) (s : Stp) (hi : L[i]? = some s) :
    ∃ b o, A = some ⟨b, o, none⟩ ∧ b < w.heap.size ∧ ∀ j u, s.cells[j]? = some u → w.cell? ⟨b, o + i * 10 + j, none⟩ = some u := by
  have h1 := fun j u hu => stepCells_at L i s j u hi hu
  have hne : stepCells L ≠ [] := fun e => by have := h1 0 _ rfl; rw [e] at this; simp at this
  obtain ⟨b, o, hA, hc⟩ := h.2.at_ hne
  have h2 : ∀ j u, s.cells[j]? = some u → w.cell? ⟨b, o + i * 10 + j, none⟩ = some u := fun j u hu => by
    have := hc _ u (h1 j u hu)
    rwa [← Nat.add_assoc] at this
  exact ⟨b, o, hA, World.block_lt_of_cell? w _ (h2 0 _ rfl), h2⟩
/-- Steps' answer, as a row that is read. -/
theorem steps_any (n : Int) (A : Option Addr) (len cap : Nat) (bs : List Int) (w : World) (hR : Rd w A len 1 (nums .u8 bs)) (hb : ∀ x ∈ bs, 0 ≤ x ∧ x ≤ 255) (hc : len ≤ cap) (h4 : len ≤ 4000) (hT : Tabs w) (L : List Stp) (hL : L = stepsIn (clampN n) bs (List.range (parts len))) :
    Calls Tryd.prog 7 #[.int .i64 n, .slice A len cap] w fun e w' => ∃ A' c', e = .returned (.slice A' L.length c') ∧ L.length ≤ c' ∧ RdSteps w' A' L.length L ∧ Below w.heap.size w w' :=
  (steps23_any n A len cap bs w hR hb hc h4 hT).mono fun e w' ⟨v, he, ho, hbw⟩ => by
    rw [← hL] at ho
    obtain ⟨A', c', rfl, h1, h2⟩ := Rd.own ho
    exact ⟨A', c', he, h1, ⟨rfl, h2⟩, hbw⟩

/-! '==' of steps. -/
def Stp.same (s t : Stp) : Bool := decide (s.kind = t.kind) && decide (s.r = t.r) && (decide (s.ek = t.ek) && decide (s.key = t.key) && decide (s.lab = t.lab) && decide (s.val = t.val)) && decide (s.at_ = t.at_) && decide (s.bit = t.bit) && decide (s.mask = t.mask) && decide (s.keep = t.keep)
theorem guard31 : Tryd.prog.eqGuardType Tryd.prog.depth 31 = false := by kernel_rfl
theorem guard28 : Tryd.prog.eqGuardType Tryd.prog.depth 28 = false := by kernel_rfl
theorem held31 : Tryd.prog.stoodInHeld 31 = false := by kernel_rfl
theorem held28 : Tryd.prog.stoodInHeld 28 = false := by kernel_rfl
theorem neq_step (s : Stp) (W : World) : (binOp .neq 31 s.v s.v).run Tryd.prog W = .ok (.bool false) W := by
  unfold Stp.v Stp.cells
  have h1 := guard31
  have h2 := held31
  have h3 := guard28
  have h4 := held28
  simp [go_sem, h1, h2, h3, h4]
theorem eql_step (s : Stp) (W : World) : (binOp .eql 31 s.v s.v).run Tryd.prog W = .ok (.bool true) W := by
  unfold Stp.v Stp.cells
  have h1 := guard31
  have h2 := held31
  have h3 := guard28
  have h4 := held28
  simp [go_sem, h1, h2, h3, h4]
def step0 : Stp := ⟨0, 1, 1, ⟨#[99, 121]⟩, 0, ⟨#[]⟩, 0, 0, 0, 0⟩

set_option maxHeartbeats 1000000 in
theorem shown23_any (w : World) (hT : Tabs w) : Calls Tryd.prog 5 #[] w fun e w' => e = .returned (.bool true) ∧ Below w.heap.size w w' := by
  have HT := Lib.hid hT
  have heq := fun W => eql_step step0 W
  unfold Stp.v Stp.cells step0 at heq
  dsimp only at heq
  clear hT
  go_enter Tryd.func5, Tryd.ntmps5
  go_wp2_with fail
  refine (steps_any 2 _ 8 8 [0, 1, 0, 2, 0, 0, 0, 0] _ (rd_block w #[.int .u8 0, .int .u8 1, .int .u8 0, .int .u8 2, .int .u8 0, .int .u8 0, .int .u8 0, .int .u8 0] 5 rfl (by decide)) (by decide) (by decide) (by decide) (HT.out.below ((Below.refl _ _).alloc (Nat.le_refl _) _)) [step0] (by kernel_rfl)).mono ?_
  rintro e w2 ⟨A2, c2, rfl, hc2, hRS, hb2⟩
  obtain ⟨b, o, hA, hlt, hcell⟩ := hRS.at_ 0 step0 rfl
  subst hA
  have hbn := Lib.hid (below_next (w := w) (by (repeat (first | exact Below.refl _ _ | assumption | (refine Below.drew ?_) | (refine below_drewN ?_ _) | (refine Below.alloc ?_ (by first | omega | (simp; done) | (simp; omega)) _) | (refine Below.setCell ?_ (by first | omega | (simp; done) | (simp; omega)) _)))) hb2)
  have x0 : w2.cell? ⟨b, o + 0 * 10 + 0, none⟩ = some (.int .i64 0) := hcell 0 _ rfl
  have x1 : w2.cell? ⟨b, o + 0 * 10 + 1, none⟩ = some (.int .i64 1) := hcell 1 _ rfl
  have x2 : w2.cell? ⟨b, o + 0 * 10 + 2, none⟩ = some (.int .i64 1) := hcell 2 _ rfl
  have x3 : w2.cell? ⟨b, o + 0 * 10 + 3, none⟩ = some (.string ⟨#[99, 121]⟩) := hcell 3 _ rfl
  have x4 : w2.cell? ⟨b, o + 0 * 10 + 4, none⟩ = some (.int .i64 0) := hcell 4 _ rfl
  have x5 : w2.cell? ⟨b, o + 0 * 10 + 5, none⟩ = some (.string ⟨#[]⟩) := hcell 5 _ rfl
  have x6 : w2.cell? ⟨b, o + 0 * 10 + 6, none⟩ = some (.int .i64 0) := hcell 6 _ rfl
  have x7 : w2.cell? ⟨b, o + 0 * 10 + 7, none⟩ = some (.int .i64 0) := hcell 7 _ rfl
  have x8 : w2.cell? ⟨b, o + 0 * 10 + 8, none⟩ = some (.int .u32 0) := hcell 8 _ rfl
  have x9 : w2.cell? ⟨b, o + 0 * 10 + 9, none⟩ = some (.int .i64 0) := hcell 9 _ rfl
  simp only [Nat.zero_mul, Nat.add_zero] at x0 x1 x2 x3 x4 x5 x6 x7 x8 x9
  clear hcell hRS hb2
  go_wp2_with fail
  go_ret
  exact ⟨rfl, hbn.out⟩

theorem few23_any (A : Option Addr) (n c : Nat) (w : World) (hn : n ≤ 9223372036854775807) (hc : n ≤ c) :
    Calls Tryd.prog 6 #[.slice A n c] w fun e w' => e = .returned (.slice A (min n 400) c) ∧ w = w' := by
  obtain ⟨m, hmd⟩ : ∃ m, m = min n 400 := ⟨_, rfl⟩
  have hmin : (if (400 : Int) < (n : Int) then (400 : Int) else (n : Int)) = (m : Int) := by split <;> omega
  have hmc : m ≤ c := by omega
  obtain ⟨i5, hi5⟩ : ∃ i, Tryd.prog.info? 5 = some i := ⟨_, rfl⟩
  have hsl := fun W => run_cut (P := Tryd.prog) 22 5 .i64 Tryd.underlying22 hi5 A n c m hmc W
  have HM := Lib.hid hmd
  rw [← hmd]
  clear hmd hi5
  go_enter Tryd.func6, Tryd.ntmps6
  go_wp2
  go_ret
  exact ⟨rfl, rfl⟩
end Go.Proofs.YtdabndoojkdicaaDoor
