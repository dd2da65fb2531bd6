/- The statement EditOthersSaid: for each config, edit and contacts the law EditOthers returns true, and its arguments read as they did. No condition. -/
import Derived.Test.YtdabndoojkdicaaEditOthers
import Derived.Test.YtdabndoojkdicaaConsIn
set_option linter.unusedVariables false
set_option linter.unusedSimpArgs false
namespace Go.Proofs.Ytdabndoojkdicaa
open Go.ChangeShapes Go.WideShapes Go.ChangeAt Go.RowKit

set_option maxRecDepth 100000 in
theorem editOthers_lifted (os : Os) (started : os.Started) (H : Type) (enc : TypeId × Value → H) :
    ReturnsInHanded {} Try.checked os 10 .any (Rows.editOthersSpec.pre6 enc Try.prog Try.f10 Rows.editOthersRow.domain false) (Rows.editOthersSpec.post enc Try.prog Try.f10 false true false false) := by
  refine returnsInHanded_of_change_sized (C := Try.checked) own started (by kernel_rfl) Try.func10
    (ChangeSpec.witness6 (enc := enc) (C := Try.checked) false ⟨#[], #[.agg #[.int .i64 0, .int .i64 0, .int .i64 0, .int .i64 0, .int .i64 0, .int .i64 0], .agg #[.int .i64 0, .string ⟨#[]⟩, .int .i64 0, .string ⟨#[]⟩], .slice none 0 0], []⟩ 8 (by kernel_rfl) (by kernel_rfl) (by kernel_rfl) (by kernel_rfl)) ?_
  intro W base args ds gs before hval0 hW hcnd hsz0 _
  have hsz : (DataW.weightsEach Try.prog (Try.f10.params.toList ++ Rows.editOthersSpec.plain.varTypes Try.prog) (ds ++ gs)).all (· ≤ reachBytes) = true := hsz0
  clear hsz0
  have hval : ∀ (j : Nat) t v, Try.f10.params[j]? = some t → args[j]? = some v → Value.okWide Try.prog W .any base t v := hval0
  have hW' := hW
  obtain ⟨p, q, hA0, hV, rfl, hfz, hnd⟩ := hW
  have hA : DataW.TrodAll enc Try.prog W 0 (fun _ => true) true Try.f10.params.toList args.toList ds p := hA0
  rw [Try.params10] at hA hval hsz
  obtain ⟨v0, v1, v2, d0, d1, d2, p0, p1, p2, rfl, rfl, rfl, h0, h1, h2⟩ := trodAll_three hA
  obtain ⟨c, rfl, hc⟩ := open_cfg (hval 0 38 v0 rfl rfl) h0
  obtain ⟨k, key, l, s, rfl, rfl, wk, hk, wl, hs⟩ := open_edit (hval 1 29 v1 rfl rfl) h1
  obtain ⟨A, n, cp, L, rfl, hR, hnc, hf⟩ := open_cons (hval 2 46 v2 rfl rfl) h2 (fun q hq => of_decide_eq_true (List.all_eq_true.1 hsz q (weights_each _ _ 2 _ _ rfl rfl hq)))
  have hw : ∀ q ∈ DataW.weights Try.prog 29 (.agg [.lit (.int .i64 k), .lit (.string key.data.toList), .lit (.int .i64 l), .lit (.string s.data.toList)] : DataW H), q ≤ 140737488351232 :=
    fun q hq => of_decide_eq_true (List.all_eq_true.1 hsz q (weights_each _ _ 1 _ _ rfl rfl hq))
  have hk' := hw key.size (by simp [DataW.weights, DataW.weightsEach, Try.underlying29])
  have hs' := hw s.size (by simp [DataW.weights, DataW.weightsEach, Try.underlying29])
  obtain ⟨k0, k1⟩ := wf_range wk
  clear hA0 hval0 hA hval h0 hsz hw
  refine (editOthers_walk c k key l s A n cp L W hc k0 k1 hk' hs' hR hnc (fun x hx => (hf x hx).1)).mono fun e W' ⟨he, bel⟩ => ?_
  subst he
  exact ⟨_, rfl, law_post rfl rfl (by kernel_rfl) (fun _ => rfl) hW' bel⟩
theorem editOthers_holds : Rows.EditOthersSaid :=
  OpenClaim.holds_of_wide 10 Try.f10 rfl rfl rfl rfl rfl rfl rfl ⟨rfl, rfl, rfl, rfl, rfl⟩ rfl rfl rfl rfl rfl (by kernel_rfl) Try.func10 (by kernel_rfl)
    (of_decide_eq_true (by kernel_rfl)) (by unfold Func.isWrapper; first | (rw [if_pos (by decide +kernel)]; kernel_rfl) | (rw [if_neg (by decide +kernel)]; exact ⟨rfl, rfl⟩))
    (fun os started H enc _ => editOthers_lifted os started H enc)
end Go.Proofs.Ytdabndoojkdicaa
