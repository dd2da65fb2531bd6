/- What the laid variables give the walks: the three tables. No condition. -/
import Derived.Test.YtdabndoojkdicaaDoorScriptPlain
import Derived.Test.YtdabndoojkdicaaDoorRow
import Derived.LaidMore
import Derived.MakeChecks
import Derived.Deep.Slices
set_option linter.unusedVariables false
set_option linter.unusedSimpArgs false
namespace Go.Proofs.YtdabndoojkdicaaDoor
open Go.ChangeShapes Go.WideShapes Go.ChangeAt Go.RowKit

theorem part_one {cs : List Value} {i : Nat} {v : Value} (h : (cs.drop (i * 1)).take 1 = [v]) : cs[i]? = some v := by
  have h0 : ((cs.drop (i * 1)).take 1)[0]? = some v := by rw [h]; rfl
  rw [List.getElem?_take] at h0
  simp at h0
  exact h0
section
variable {H : Type} {enc : TypeId × Value → H} {P : Program} {w : World} {base fuel : Nat} {spare : Nat → Bool} {held : Bool} {t e : TypeId} {n : Nat} {cs : List Value} {L : List (DataW H)} {ps : List MemPlace}
theorem arr_int {k : IntKind} (ht : P.underlying t = some (.array n e)) (he : P.underlying e = some (.int k)) (hc : P.cellsOf e = 1) (h : DataW.trod enc P w base spare held fuel t cs = some (.agg L, ps)) (i : Nat) (z : Int) (hi : L[i]? = some (.lit (.int k z))) : cs[i]? = some (.int k z) := by
  obtain ⟨xs, m, _, ex, _, hl, hf⟩ := DataW.trod_array ht h
  simp only [Prod.mk.injEq, DataW.agg.injEq] at ex
  rw [ex.1, List.getElem?_map, Option.map_eq_some_iff] at hi
  obtain ⟨x, hx, hx1⟩ := hi
  have hin : i < n := by have := (List.getElem?_eq_some_iff.1 hx).1; omega
  have h1 := hf i hin
  rw [hx] at h1
  obtain ⟨y, e1, e2, _⟩ := DataW.trod_int he h1
  rw [e2] at hx1
  simp only [DataW.lit.injEq, Lit.int.injEq, true_and] at hx1
  rw [hc] at e1
  rw [← hx1]
  exact part_one e1
theorem arr_str (ht : P.underlying t = some (.array n e)) (he : P.underlying e = some .string) (hc : P.cellsOf e = 1) (h : DataW.trod enc P w base spare held fuel t cs = some (.agg L, ps)) (i : Nat) (z : List UInt8) (hi : L[i]? = some (.lit (.string z))) : cs[i]? = some (.string ⟨z.toArray⟩) := by
  obtain ⟨xs, m, _, ex, _, hl, hf⟩ := DataW.trod_array ht h
  simp only [Prod.mk.injEq, DataW.agg.injEq] at ex
  rw [ex.1, List.getElem?_map, Option.map_eq_some_iff] at hi
  obtain ⟨x, hx, hx1⟩ := hi
  have hin : i < n := by have := (List.getElem?_eq_some_iff.1 hx).1; omega
  have h1 := hf i hin
  rw [hx] at h1
  obtain ⟨y, e1, e2, _⟩ := DataW.trod_string he h1
  rw [e2] at hx1
  simp only [DataW.lit.injEq, Lit.string.injEq] at hx1
  rw [hc] at e1
  rw [← hx1]
  simpa using part_one e1
end

abbrev laid3 : List (String × DataW Unit) := [("kith/script.kinds", Rows.laid_kith_script_kinds), ("kith/script.keys", Rows.laid_kith_script_keys), ("kith/script.values", Rows.laid_kith_script_values)]
theorem gK : Tryd.prog.globalNamed "kith/script.kinds" = some 0 := by kernel_rfl
theorem gY : Tryd.prog.globalNamed "kith/script.keys" = some 1 := by kernel_rfl
theorem gV : Tryd.prog.globalNamed "kith/script.values" = some 2 := by kernel_rfl
theorem tK : (Tryd.prog.globals[0]?).map (·.type) = some 44 := by kernel_rfl
theorem tY : (Tryd.prog.globals[1]?).map (·.type) = some 47 := by kernel_rfl
theorem tV : (Tryd.prog.globals[2]?).map (·.type) = some 47 := by kernel_rfl

/-- WHAT THE CONDITION GIVES THE WALKS. -/
theorem tabs_of_laid {W : World} (h : laidMetH Tryd.prog laid3 W) : Tabs W := by
  rw [MakeChecks.laidMetH_plain _ _ _ (by kernel_rfl)] at h
  obtain ⟨ps, ⟨g0, t0, cs0, f0, p0, q0, hg0, ht0, hv0, hd0, ⟨g1, t1, cs1, f1, p1, q1, hg1, ht1, hv1, hd1, ⟨g2, t2, cs2, f2, p2, q2, hg2, ht2, hv2, hd2, _, _⟩, _⟩, _⟩, _, _⟩ := h
  obtain rfl := Option.some.inj (gK.symm.trans hg0)
  obtain rfl := Option.some.inj (gY.symm.trans hg1)
  obtain rfl := Option.some.inj (gV.symm.trans hg2)
  obtain rfl := Option.some.inj (tK.symm.trans ht0)
  obtain rfl := Option.some.inj (tY.symm.trans ht1)
  obtain rfl := Option.some.inj (tV.symm.trans ht2)
  have c3 : Tryd.prog.cellsOf 3 = 1 := by kernel_rfl
  have c9 : Tryd.prog.cellsOf 9 = 1 := by kernel_rfl
  have k0 : ∀ i, i < 16 → W.cell? ⟨0, i, none⟩ = some (.int .i64 (kindT i)) := by
    intro i hi
    rw [World.var?_cell hg0 hv0 i]
    have := arr_int Tryd.underlying44 Tryd.underlying3 c3 hd0 i (kindT i) (by
      have hcs : i = 0 ∨ i = 1 ∨ i = 2 ∨ i = 3 ∨ i = 4 ∨ i = 5 ∨ i = 6 ∨ i = 7 ∨ i = 8 ∨ i = 9 ∨ i = 10 ∨ i = 11 ∨ i = 12 ∨ i = 13 ∨ i = 14 ∨ i = 15 := by omega
      rcases hcs with rfl | rfl | rfl | rfl | rfl | rfl | rfl | rfl | rfl | rfl | rfl | rfl | rfl | rfl | rfl | rfl <;> rfl)
    simpa using this
  have k1 : ∀ i, i < 4 → W.cell? ⟨1, i, none⟩ = some (.string (keyT i)) := by
    intro i hi
    rw [World.var?_cell hg1 hv1 i]
    have hcs : i = 0 ∨ i = 1 ∨ i = 2 ∨ i = 3 := by omega
    rcases hcs with rfl | rfl | rfl | rfl
    · simpa [keyT] using arr_str Tryd.underlying47 Tryd.underlying9 c9 hd1 0 [97, 110, 110] rfl
    · simpa [keyT] using arr_str Tryd.underlying47 Tryd.underlying9 c9 hd1 1 [98, 111, 98] rfl
    · simpa [keyT] using arr_str Tryd.underlying47 Tryd.underlying9 c9 hd1 2 [99, 121] rfl
    · simpa [keyT] using arr_str Tryd.underlying47 Tryd.underlying9 c9 hd1 3 [100, 105] rfl
  have k2 : ∀ i, i < 4 → W.cell? ⟨2, i, none⟩ = some (.string (valT i)) := by
    intro i hi
    rw [World.var?_cell hg2 hv2 i]
    have hcs : i = 0 ∨ i = 1 ∨ i = 2 ∨ i = 3 := by omega
    rcases hcs with rfl | rfl | rfl | rfl
    · simpa [valT] using arr_str Tryd.underlying47 Tryd.underlying9 c9 hd2 0 [49] rfl
    · simpa [valT] using arr_str Tryd.underlying47 Tryd.underlying9 c9 hd2 1 [50, 50] rfl
    · simpa [valT] using arr_str Tryd.underlying47 Tryd.underlying9 c9 hd2 2 [255] rfl
    · simpa [valT] using arr_str Tryd.underlying47 Tryd.underlying9 c9 hd2 3 [116, 119, 101, 108, 118, 101, 32, 98, 121, 116, 101, 115] rfl
  exact ⟨k0, k1, k2, by have := World.block_lt_of_cell? _ _ (k2 0 (by omega)); dsimp only at this; omega⟩

/-- The door's own heap meets the condition. -/
theorem door_met (os : Os) (args : Array Value) : laidMetH Tryd.prog laid3 ((World.doorLaid Tryd.prog 24 os).forCall (fun _ _ => 0) ⟨#[], args, []⟩).memory :=
  laidMetH_of_parts3 (fuel := 8) (laidMet_of_run' 8 (by kernel_rfl) (by kernel_rfl)) (by kernel_rfl) (by kernel_rfl)
end Go.Proofs.YtdabndoojkdicaaDoor
