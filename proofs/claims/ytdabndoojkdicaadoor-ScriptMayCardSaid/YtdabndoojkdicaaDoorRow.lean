/- What each row of this seat asks behind its walk, and how an edit that came in is opened. No condition. -/
import Derived.Test.YtdabndoojkdicaaDoorRows
import Derived.Test.YtdabndoojkdicaaDoorWords
import Derived.ProofKit
import Derived.OpenShut
import Derived.JoinedCond
import Derived.SizedLaws
import Derived.Lib.SmallJoins
set_option linter.unusedVariables false
set_option linter.unusedSimpArgs false
namespace Go.Proofs.YtdabndoojkdicaaDoor
open Go.ChangeShapes Go.WideShapes Go.ChangeAt Go.RowKit

theorem own : ownKnob Tryd.prog.godebug = none := by kernel_rfl
theorem laidOut : laidOutB Tryd.prog = true := by kernel_rfl

/-- All that was handed in reads as it did, where only new blocks were laid. -/
theorem trodAll_below {H : Type} {enc : TypeId × Value → H} {P : Program} (hl : laidOutB P = true) {W W' : World} (hb : Below W.heap.size W W') :
    ∀ (ts : List TypeId) (vs : List Value) (ds : List (DataW H)) (ps : List MemPlace), (ts.all fun t => P.readableRec t && decide (t < P.types.size)) = true →
      DataW.TrodAll enc P W 0 (fun _ => true) true ts vs ds ps → DataW.TrodAll enc P W' 0 (fun b => decide (b < W.heap.size)) true ts vs ds ps
  | [], [], [], _, _, h => h
  | t :: ts, v :: vs, d :: ds, ps, hr, h => by
    obtain ⟨p, q, h1, h2, e⟩ := h
    simp only [List.all_cons, Bool.and_eq_true, decide_eq_true_eq] at hr
    have hlt : ∀ x ∈ p, x.block < W.heap.size := by obtain ⟨m, hm⟩ := h1; exact DataW.trod_lt m _ _ _ hm
    exact ⟨p, q, Below.trod hl hr.1.1 hr.1.2 h1 hb hlt, trodAll_below hl hb ts vs ds q hr.2 h2, e⟩
  | [], _ :: _, _, _, _, h => by simp [DataW.TrodAll] at h
  | [], [], _ :: _, _, _, h => by simp [DataW.TrodAll] at h
  | _ :: _, [], _, _, _, h => by simp [DataW.TrodAll] at h
  | _ :: _, _ :: _, [], _, _, h => by simp [DataW.TrodAll] at h

/-- What a law's row asks behind the walk: true, and nothing that was there has turned. -/
theorem law_post {H : Type} {enc : TypeId × Value → H} {fn : Func} {s : ChangeSpec} {W W' : World} {args : Array Value} {ds gs : List (DataW H)} {before : List MemPlace}
    (hv : s.vars = []) (hres : fn.resultTypes = #[4]) (hr : (fn.params.toList.all fun t => Tryd.prog.readableRec t && decide (t < Tryd.prog.types.size)) = true)
    (hfn : ds.length = fn.params.size → s.fn H ds = { results := [.lit (.bool true)], args := ds })
    (hW : DataW.Whole enc Tryd.prog fn.params.toList s.vars false W args.toList ds gs before) (hb : Below W.heap.size W W') :
    s.post enc Tryd.prog fn false true false false W args (.bool true) W' := by
  have hW0 := hW
  obtain ⟨p, q, hA, hV, rfl, hfz, hnd⟩ := hW
  rw [hv] at hV
  obtain ⟨rfl, rfl⟩ := trodVars_none hV
  have hlen : ∀ (ts : List TypeId) (vs : List Value) (ds : List (DataW H)) (ps : List MemPlace), DataW.TrodAll enc Tryd.prog W 0 (fun _ => true) true ts vs ds ps → ds.length = ts.length := by
    intro ts
    induction ts with
    | nil => intro vs ds ps h; cases vs <;> cases ds <;> simp [DataW.TrodAll] at h; rfl
    | cons t ts ih =>
      intro vs ds ps h
      cases vs with
      | nil => simp [DataW.TrodAll] at h
      | cons v vs =>
        cases ds with
        | nil => simp [DataW.TrodAll] at h
        | cons d ds =>
          obtain ⟨p', q', _, h2, _⟩ := h
          simp [ih _ _ _ h2]
  have hf := hfn (by rw [hlen _ _ _ _ hA]; simp)
  refine ⟨ds, [], _, [], p, [], hW0, ?_, ?_, ?_, hb.frame _, fun h => by cases h⟩
  · rw [List.append_nil, hf, hres]
    exact trodAll_mk1 (shut_bool Tryd.underlying4 true)
  · rw [List.append_nil, hf]
    exact trodAll_below laidOut hb _ _ _ _ hr hA
  · rw [List.append_nil, hf, hv]
    exact rfl

/-- An edit that came in. -/
theorem open_edit {H : Type} {enc : TypeId × Value → H} {w : World} {base : Nat} {spare : Nat → Bool} {held : Bool} {r : Reach} {b0 : Nat} {v : Value} {d : DataW H} {p : List MemPlace}
    (hv : Value.okWide Tryd.prog w r b0 28 v) (h : DataW.Trod enc Tryd.prog w base spare held 28 v d p) :
    ∃ (k : Int) (key : ByteArray) (l : Int) (s : ByteArray), v = .agg #[.int .i64 k, .string key, .int .i64 l, .string s] ∧
      d = .agg [.lit (.int .i64 k), .lit (.string key.data.toList), .lit (.int .i64 l), .lit (.string s.data.toList)] ∧ (Lit.int .i64 k).wf = true ∧ key.size ≤ 9223372036854775807 ∧ (Lit.int .i64 l).wf = true ∧ s.size ≤ 9223372036854775807 := by
  obtain ⟨v0, v1, v2, v3, y0, y1, y2, y3, n, rfl, rfl, _, h0, h1, h2, h3⟩ := Go.Joins.open_agg4 Tryd.underlying28 (by kernel_rfl) (by kernel_rfl) hv h
  obtain ⟨k, e0, rfl, wk⟩ := DataW.trod_int Tryd.underlying3 h0
  obtain ⟨key, e1, rfl, wkey⟩ := DataW.trod_string Tryd.underlying9 h1
  obtain ⟨l, e2, rfl, wl⟩ := DataW.trod_int Tryd.underlying3 h2
  obtain ⟨s, e3, rfl, ws⟩ := DataW.trod_string Tryd.underlying9 h3
  simp at e0 e1 e2 e3
  subst e0 e1 e2 e3
  exact ⟨k, key, l, s, rfl, rfl, wk, by simpa [maxLen] using wkey, wl, by simpa [maxLen] using ws⟩
/-- The reach of an edit's texts. -/
theorem edit_reach {H : Type} {ts : List TypeId} {ds : List (DataW H)} {k l : Int} {key s : ByteArray}
    (h : (DataW.weightsEach Tryd.prog (28 :: ts) (.agg [.lit (.int .i64 k), .lit (.string key.data.toList), .lit (.int .i64 l), .lit (.string s.data.toList)] :: ds)).all (· ≤ reachBytes) = true) : key.size ≤ 140737488351232 ∧ s.size ≤ 140737488351232 := by
  simp [DataW.weightsEach, DataW.weights, Tryd.underlying28, reachBytes] at h
  exact ⟨of_decide_eq_true h.1, of_decide_eq_true h.2.1⟩
theorem wf_range {n : Int} (h : (Lit.int .i64 n).wf = true) : -9223372036854775808 ≤ n ∧ n ≤ 9223372036854775807 := by
  simpa [Lit.wf, IntKind.min, IntKind.max, IntKind.signed, IntKind.bits] using h
end Go.Proofs.YtdabndoojkdicaaDoor
