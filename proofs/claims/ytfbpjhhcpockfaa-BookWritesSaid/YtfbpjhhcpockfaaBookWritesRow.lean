/- The statement BookWritesSaid: for each array of five bytes the law BookWrites returns true, and its argument reads as it did. No condition. -/
import Derived.Test.YtfbpjhhcpockfaaWritesLaw
import Derived.Test.YtfbpjhhcpockfaaLeafB
set_option linter.unusedVariables false
set_option linter.unusedSimpArgs false
namespace Go.Proofs.Ytfbpjhhcpockfaa
open Go.ChangeShapes Go.WideShapes Go.ChangeAt Go.RowKit

section
variable {H : Type} {enc : TypeId × Value → H} {w : World} {base : Nat} {spare : Nat → Bool} {held : Bool} {r : Reach} {b0 : Nat} {v : Value} {d : DataW H} {p : List MemPlace}
theorem bounds_u8 {a : Int} (h : (Lit.int .u8 a).wf = true) : 0 ≤ a ∧ a ≤ 255 := by
  simpa [Lit.wf, IntKind.min, IntKind.max, IntKind.signed, IntKind.bits] using h
set_option maxRecDepth 100000 in
/-- Five bytes that came in. -/
theorem open_bytes5 (hv : Value.okWide Try.prog w r b0 51 v) (h : DataW.Trod enc Try.prog w base spare held 51 v d p) :
    ∃ n : Nat → Nat, v = .agg #[.int .u8 (n 0), .int .u8 (n 1), .int .u8 (n 2), .int .u8 (n 3), .int .u8 (n 4)] ∧ ∀ i, n i < 256 := by
  obtain ⟨cs, rfl, hs⟩ := wide_array Try.underlying51 hv
  obtain ⟨fuel, hf⟩ := h
  obtain ⟨z0, e0, w0⟩ := int_at 3 (i := 0) Try.underlying5 (by kernel_rfl) hf
  obtain ⟨z1, e1, w1⟩ := int_at 3 (i := 1) Try.underlying5 (by kernel_rfl) hf
  obtain ⟨z2, e2, w2⟩ := int_at 3 (i := 2) Try.underlying5 (by kernel_rfl) hf
  obtain ⟨z3, e3, w3⟩ := int_at 3 (i := 3) Try.underlying5 (by kernel_rfl) hf
  obtain ⟨z4, e4, w4⟩ := int_at 3 (i := 4) Try.underlying5 (by kernel_rfl) hf
  rw [show Try.prog.cellsOf 51 = 5 by kernel_rfl] at hs
  have r0 := bounds_u8 w0
  have r1 := bounds_u8 w1
  have r2 := bounds_u8 w2
  have r3 := bounds_u8 w3
  have r4 := bounds_u8 w4
  refine ⟨fun i => if i = 0 then z0.toNat else if i = 1 then z1.toNat else if i = 2 then z2.toNat else if i = 3 then z3.toNat else z4.toNat, ?_, fun i => by dsimp only; split <;> (try split) <;> (try split) <;> (try split) <;> omega⟩
  have q0 : ((z0.toNat : Nat) : Int) = z0 := by omega
  have q1 : ((z1.toNat : Nat) : Int) = z1 := by omega
  have q2 : ((z2.toNat : Nat) : Int) = z2 := by omega
  have q3 : ((z3.toNat : Nat) : Int) = z3 := by omega
  have q4 : ((z4.toNat : Nat) : Int) = z4 := by omega
  obtain ⟨l⟩ := cs
  rcases l with _ | ⟨a0, _ | ⟨a1, _ | ⟨a2, _ | ⟨a3, _ | ⟨a4, _ | ⟨a5, l⟩⟩⟩⟩⟩⟩ <;> simp [Value.cells] at hs e0 e1 e2 e3 e4
  subst e0 e1 e2 e3 e4
  simp only [if_true, if_false, q0, q1, q2, q3, q4, show (1 : Nat) ≠ 0 by decide, show (2 : Nat) ≠ 0 by decide, show (2 : Nat) ≠ 1 by decide, show (3 : Nat) ≠ 0 by decide, show (3 : Nat) ≠ 1 by decide, show (3 : Nat) ≠ 2 by decide, show (4 : Nat) ≠ 0 by decide, show (4 : Nat) ≠ 1 by decide, show (4 : Nat) ≠ 2 by decide, show (4 : Nat) ≠ 3 by decide]
end
set_option maxRecDepth 100000 in
theorem bookWrites_lifted (os : Os) (started : os.Started) (H : Type) (enc : TypeId × Value → H) :
    ReturnsInHanded {} Try.checked os 5 .any (Rows.bookWritesSpec.pre6 enc Try.prog Try.f5 Rows.bookWritesRow.domain false) (Rows.bookWritesSpec.post enc Try.prog Try.f5 false true false false) := by
  refine returnsInHanded_of_change_sized (C := Try.checked) own started (by kernel_rfl) Try.func5
    (ChangeSpec.witness6 (enc := enc) (C := Try.checked) false ⟨#[], #[.agg #[.int .u8 0, .int .u8 0, .int .u8 0, .int .u8 0, .int .u8 0]], []⟩ 8 (by kernel_rfl) (by kernel_rfl) (by kernel_rfl) (by kernel_rfl)) ?_
  intro W base args ds gs before hval0 hW hcnd hsz0 _
  have hsz : (DataW.weightsEach Try.prog (Try.f5.params.toList ++ Rows.bookWritesSpec.plain.varTypes Try.prog) (ds ++ gs)).all (· ≤ reachBytes) = true := hsz0
  clear hsz0
  have hval : ∀ (j : Nat) t v, Try.f5.params[j]? = some t → args[j]? = some v → Value.okWide Try.prog W .any base t v := hval0
  have hW' := hW
  obtain ⟨p, q, hA0, hV, rfl, hfz, hnd⟩ := hW
  have hA : DataW.TrodAll enc Try.prog W 0 (fun _ => true) true Try.f5.params.toList args.toList ds p := hA0
  rw [Try.params5] at hA hval hsz
  obtain ⟨v0, d0, rfl, rfl, h0⟩ := trodAll_one hA
  obtain ⟨n, rfl, hn⟩ := open_bytes5 (hval 0 51 v0 rfl rfl) h0
  clear hA0 hval0 hA hval h0 hsz
  refine (bookWrites_walk n hn W).mono fun e W' ⟨he, bel⟩ => ?_
  subst he
  exact ⟨_, rfl, law_post rfl rfl (by kernel_rfl) (fun _ => rfl) hW' bel⟩
theorem bookWrites_holds : Rows.BookWritesSaid :=
  OpenClaim.holds_of_wide 5 Try.f5 rfl rfl rfl rfl rfl rfl rfl ⟨rfl, rfl, rfl, rfl, rfl⟩ rfl rfl rfl rfl rfl (by kernel_rfl) Try.func5 (by kernel_rfl)
    (of_decide_eq_true (by kernel_rfl)) (by unfold Func.isWrapper; first | (rw [if_pos (by decide +kernel)]; kernel_rfl) | (rw [if_neg (by decide +kernel)]; exact ⟨rfl, rfl⟩))
    (fun os started H enc _ => bookWrites_lifted os started H enc)
end Go.Proofs.Ytfbpjhhcpockfaa
