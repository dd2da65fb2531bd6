/- The statement EditThereSaid: for each edit, two bools and four bytes the law EditThere returns true, and its arguments read as they did. No condition. -/
import Derived.Test.YtdabndoojkdicaaEditThere
import Derived.Test.YtdabndoojkdicaaLeaf
set_option linter.unusedVariables false
set_option linter.unusedSimpArgs false
namespace Go.Proofs.Ytdabndoojkdicaa
open Go.ChangeShapes Go.WideShapes Go.ChangeAt Go.RowKit

section
variable {H : Type} {enc : TypeId × Value → H} {w : World} {base : Nat} {spare : Nat → Bool} {held : Bool} {r : Reach} {b0 : Nat} {v : Value} {d : DataW H} {p : List MemPlace}
/-- An array is its cells. -/
theorem wide_array {P : Program} {t e : TypeId} {n : Nat} (ht : P.underlying t = some (.array n e)) (h : Value.okWide P w r b0 t v) : ∃ cs, v = .agg cs ∧ cs.size = P.cellsOf t := by
  simp only [Value.okWide, ht] at h
  obtain ⟨cs, h1, h2, _⟩ := h
  exact ⟨cs, h1, h2⟩
/-- Two bools that came in. -/
theorem open_bools2 (hv : Value.okWide Try.prog w r b0 44 v) (h : DataW.Trod enc Try.prog w base spare held 44 v d p) : ∃ a b : Bool, v = .agg #[.bool a, .bool b] := by
  obtain ⟨cs, rfl, hs⟩ := wide_array Try.underlying44 hv
  obtain ⟨fuel, hf⟩ := h
  obtain ⟨z0, e0⟩ := bool_at 3 (i := 0) Try.underlying4 (by kernel_rfl) hf
  obtain ⟨z1, e1⟩ := bool_at 3 (i := 1) Try.underlying4 (by kernel_rfl) hf
  rw [show Try.prog.cellsOf 44 = 2 by kernel_rfl] at hs
  refine ⟨z0, z1, ?_⟩
  obtain ⟨l⟩ := cs
  rcases l with _ | ⟨a0, _ | ⟨a1, _ | ⟨a2, l⟩⟩⟩ <;> simp [Value.cells] at hs e0 e1
  subst e0 e1
  rfl
/-- Four bytes that came in. -/
theorem open_bytes4 (hv : Value.okWide Try.prog w r b0 45 v) (h : DataW.Trod enc Try.prog w base spare held 45 v d p) :
    ∃ a b c e : Int, v = .agg #[.int .u8 a, .int .u8 b, .int .u8 c, .int .u8 e] ∧ (0 ≤ a ∧ a ≤ 255) ∧ (0 ≤ b ∧ b ≤ 255) ∧ (0 ≤ c ∧ c ≤ 255) ∧ (0 ≤ e ∧ e ≤ 255) := by
  obtain ⟨cs, rfl, hs⟩ := wide_array Try.underlying45 hv
  obtain ⟨fuel, hf⟩ := h
  obtain ⟨z0, e0, w0⟩ := int_at 3 (i := 0) Try.underlying5 (by kernel_rfl) hf
  obtain ⟨z1, e1, w1⟩ := int_at 3 (i := 1) Try.underlying5 (by kernel_rfl) hf
  obtain ⟨z2, e2, w2⟩ := int_at 3 (i := 2) Try.underlying5 (by kernel_rfl) hf
  obtain ⟨z3, e3, w3⟩ := int_at 3 (i := 3) Try.underlying5 (by kernel_rfl) hf
  rw [show Try.prog.cellsOf 45 = 4 by kernel_rfl] at hs
  refine ⟨z0, z1, z2, z3, ?_, bounds_u8 w0, bounds_u8 w1, bounds_u8 w2, bounds_u8 w3⟩
  obtain ⟨l⟩ := cs
  rcases l with _ | ⟨a0, _ | ⟨a1, _ | ⟨a2, _ | ⟨a3, _ | ⟨a4, l⟩⟩⟩⟩⟩ <;> simp [Value.cells] at hs e0 e1 e2 e3
  subst e0 e1 e2 e3
  rfl
end

set_option maxRecDepth 100000 in
theorem editThere_lifted (os : Os) (started : os.Started) (H : Type) (enc : TypeId × Value → H) :
    ReturnsInHanded {} Try.checked os 9 .any (Rows.editThereSpec.pre6 enc Try.prog Try.f9 Rows.editThereRow.domain false) (Rows.editThereSpec.post enc Try.prog Try.f9 false true false false) := by
  refine returnsInHanded_of_change_sized (C := Try.checked) own started (by kernel_rfl) Try.func9
    (ChangeSpec.witness6 (enc := enc) (C := Try.checked) false ⟨#[], #[.agg #[.int .i64 0, .string ⟨#[]⟩, .int .i64 0, .string ⟨#[]⟩], .agg #[.bool false, .bool false], .agg #[.int .u8 0, .int .u8 0, .int .u8 0, .int .u8 0]], []⟩ 8 (by kernel_rfl) (by kernel_rfl) (by kernel_rfl) (by kernel_rfl)) ?_
  intro W base args ds gs before hval0 hW hcnd hsz0 _
  have hsz : (DataW.weightsEach Try.prog (Try.f9.params.toList ++ Rows.editThereSpec.plain.varTypes Try.prog) (ds ++ gs)).all (· ≤ reachBytes) = true := hsz0
  clear hsz0
  have hval : ∀ (j : Nat) t v, Try.f9.params[j]? = some t → args[j]? = some v → Value.okWide Try.prog W .any base t v := hval0
  have hW' := hW
  obtain ⟨p, q, hA0, hV, rfl, hfz, hnd⟩ := hW
  have hA : DataW.TrodAll enc Try.prog W 0 (fun _ => true) true Try.f9.params.toList args.toList ds p := hA0
  rw [Try.params9] at hA hval hsz
  obtain ⟨v0, v1, v2, d0, d1, d2, p0, p1, p2, rfl, rfl, rfl, h0, h1, h2⟩ := trodAll_three hA
  obtain ⟨k, key, l, s, rfl, rfl, wk, hk, wl, hs⟩ := open_edit (hval 0 29 v0 rfl rfl) h0
  obtain ⟨th, ha, rfl⟩ := open_bools2 (hval 1 44 v1 rfl rfl) h1
  obtain ⟨n0, n1, n2, n3, rfl, r0, r1, r2, r3⟩ := open_bytes4 (hval 2 45 v2 rfl rfl) h2
  obtain ⟨hk', hs'⟩ := edit_reach hsz
  obtain ⟨k0, k1⟩ := wf_range wk
  clear hA0 hval0 hA hval h0 hsz
  refine (editThere_walk k key l s th ha n0 n1 n2 n3 W k0 k1 hk' hs' r0.1 r0.2 r1.1 r1.2 r2.1 r2.2 r3.1 r3.2).mono fun e W' ⟨he, bel⟩ => ?_
  subst he
  exact ⟨_, rfl, law_post rfl rfl (by kernel_rfl) (fun _ => rfl) hW' bel⟩
theorem editThere_holds : Rows.EditThereSaid :=
  OpenClaim.holds_of_wide 9 Try.f9 rfl rfl rfl rfl rfl rfl rfl ⟨rfl, rfl, rfl, rfl, rfl⟩ rfl rfl rfl rfl rfl (by kernel_rfl) Try.func9 (by kernel_rfl)
    (of_decide_eq_true (by kernel_rfl)) (by unfold Func.isWrapper; first | (rw [if_pos (by decide +kernel)]; kernel_rfl) | (rw [if_neg (by decide +kernel)]; exact ⟨rfl, rfl⟩))
    (fun os started H enc _ => editThere_lifted os started H enc)
end Go.Proofs.Ytdabndoojkdicaa
