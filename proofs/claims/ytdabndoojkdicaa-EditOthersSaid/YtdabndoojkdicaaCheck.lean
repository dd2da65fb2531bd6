/- edit.Check answers what 'checkE' says, and lays new blocks alone. Conditions: texts' lengths are ints; the contacts are read as RdCons tells. -/
import Derived.Test.YtdabndoojkdicaaEdit
import Derived.Recover
import Derived.Laws.Pointers
import Derived.Deep.RegionHeld3
set_option linter.unusedVariables false
set_option linter.unusedSimpArgs false
namespace Go.Proofs.Ytdabndoojkdicaa
open Go.RowKit

def setOf (c : Con) (l : Int) : List ByteArray := if l = 0 then c.s0 else c.s1
def checkE (cL cP : Int) (L : List Con) (k : Int) (key : ByteArray) (l : Int) (v : ByteArray) : Int :=
  if editE k key l v ≠ 0 then editE k key l v else
  match L.find? (sameK key) with
  | none => if k = 1 then createE cL L.length false else 14
  | some c => if k = 1 then createE cL L.length true else
      if k = 4 ∧ cP ≤ (setOf c l).length then 15 else if k = 5 ∧ (setOf c l).any (sameS v) = false then 16 else 0

theorem edit_zero {k : Int} {key : ByteArray} {l : Int} {v : ByteArray} (h : editE k key l v = 0) : 1 ≤ k ∧ k ≤ 5 ∧ (l = 0 ∨ l = 1) := by
  unfold editE at h
  by_cases h1 : k < 1 ∨ 5 < k
  · rw [if_pos h1] at h; cases h
  rw [if_neg h1] at h
  by_cases h2 : keyB key = false
  · rw [if_pos h2] at h; cases h
  rw [if_neg h2] at h
  refine ⟨by omega, by omega, ?_⟩
  by_cases h3 : k ≤ 2
  · rw [if_pos h3] at h
    unfold bareE at h
    by_cases h4 : (l != 0) = true
    · rw [if_pos h4] at h; cases h
    · left; simpa using h4
  · rw [if_neg h3] at h
    by_cases h4 : labelE l ≠ 0
    · rw [if_pos h4] at h; cases h
    · unfold labelE at h4
      by_cases h5 : 0 ≤ l ∧ l ≤ 1
      · omega
      · rw [if_neg h5] at h4; exact absurd (by decide) h4

/-- The deferred function: what is told of a Remove. -/
theorem lit2_any (ke : Nat) (kind : Int) (there : Bool) (te ee : Nat) (x : Int) (w : World) (h1 : w.cell? ⟨ke, 0, none⟩ = some (.int .i64 kind)) (h2 : w.cell? ⟨te, 0, none⟩ = some (.bool there)) (h3 : w.cell? ⟨ee, 0, none⟩ = some (.int .i64 x)) (h4 : w.frozen? ⟨ee, 0, none⟩ = false) :
    CallsD Try.prog 33 #[.pointer (some ⟨ke, 0, none⟩), .pointer (some ⟨te, 0, none⟩), .pointer (some ⟨ee, 0, none⟩)] .returning w fun e u' w' =>
      u' = .returning ∧ (e = .returned (.tuple #[]) ∧ w' = if kind = 5 ∧ there = false then w.setCell ⟨ee, 0, none⟩ (.int .i64 16) else w) := by
  by_cases hk : kind = 5
  · subst hk
    cases there
    · have H : Hid (w.setCell ⟨ee, 0, none⟩ (.int .i64 16) = if (5 : Int) = 5 ∧ false = false then w.setCell ⟨ee, 0, none⟩ (.int .i64 16) else w) := by show _ = _; rw [if_pos ⟨rfl, rfl⟩]
      rw [← H.out]
      go_enter_d Try.func33, Try.ntmps33
      go_wp2
      go_end0
      exact ⟨rfl, rfl⟩
    · rw [if_neg (by simp)]
      go_enter_d Try.func33, Try.ntmps33
      go_wp2
      go_end0
      exact ⟨rfl, rfl⟩
  · have hk' : (kind == 5) = false := by simpa using hk
    rw [if_neg (by simp [hk])]
    go_enter_d Try.func33, Try.ntmps33
    go_wp2
    go_end0
    exact ⟨rfl, rfl⟩

set_option maxHeartbeats 4000000 in
theorem check_any (cN cW cQ cH cL cP : Int) (A : Option Addr) (n c : Nat) (L : List Con) (k : Int) (key : ByteArray) (l : Int) (v : ByteArray) (w : World)
    (hR : RdCons w A n L) (hk : key.size ≤ 9223372036854775807) (hv : v.size ≤ 9223372036854775807) :
    Calls Try.prog 26 #[.agg #[.int .i64 cN, .int .i64 cW, .int .i64 cQ, .int .i64 cH, .int .i64 cL, .int .i64 cP], .slice A n c, .agg #[.int .i64 k, .string key, .int .i64 l, .string v]] w fun e w' =>
      e = .returned (.int .i64 (checkE cL cP L k key l v)) ∧ Below w.heap.size w w' := by
  have hmf : ∀ (fn : Fn) (first cap : Array Value) (w : World), (Instr.makeFunc fn first cap).run Try.prog w = .ok (.func fn first cap) w := fun _ _ _ _ => rfl
  have hlen := Lib.hid hR.length
  have HE := Lib.hid (fun w => edit_any k key l v w hk hv)
  obtain ⟨x, hx⟩ : ∃ x, x = editE k key l v := ⟨_, rfl⟩
  rw [← hx] at HE
  by_cases h0 : x = 0
  · subst h0
    obtain ⟨k1, k5, hl⟩ := edit_zero hx.symm
    have HX := Lib.hid hx
    clear hx
    rcases ix_cases (sameK key) L with ⟨i, y, hy, _, _, hix, hfi⟩ | ⟨_, hix, hfi⟩
    · have HIX := Lib.hid hix
      have HF := Lib.hid hfi
      have hi0 : (0 : Int) ≤ (i : Int) := by omega
      have hil : i < L.length := (List.getElem?_eq_some_iff.1 hy).1
      rw [hlen.out] at hil
      have hil' : (i : Int) < (n : Int) := by omega
      clear hix hfi
      by_cases hk1 : k = 1
      · subst hk1
        have H := Lib.hid (show checkE cL cP L 1 key l v = createE cL n true by unfold checkE; rw [← HX.out, if_neg (by decide), HF.out, ← hlen.out]; rfl)
        go_enter_defers Try.func26, Try.ntmps26
        go_wp2_with fail
        refine (HE.out _).mono ?_
        rintro e w1 ⟨rfl, hb⟩
        obtain ⟨hbc, hbf⟩ := bcell hb
        have hbn := below_next (w := w) (by (repeat (first | exact Below.refl _ _ | assumption | (refine Below.drew ?_) | (refine below_drewN ?_ _) | (refine Below.alloc ?_ (by first | omega | (simp; done) | (simp; omega)) _) | (refine Below.setCell ?_ (by first | omega | (simp; done) | (simp; omega)) _)))) hb
        have z0 : w.heap.size < w1.heap.size := by have := hb.size; first | omega | (simp at this; omega)
        have z1 : w.heap.size + 1 < w1.heap.size := by have := hb.size; first | omega | (simp at this; omega)
        have z2 : w.heap.size + 1 + 1 < w1.heap.size := by have := hb.size; first | omega | (simp at this; omega)
        go_wp2_with fail
        refine (indexFunc_any A n c L _ key _ (hR.below hbn) (by simp [hbc, go_sem]) (by omega)).mono ?_
        rintro e w2 ⟨rfl, hb2⟩
        rw [HIX.out]
        obtain ⟨hb2c, hb2f⟩ := bcell hb2
        have hb2n := below_next hbn hb2
        have y0 : w.heap.size < w2.heap.size := by have := hb2.size; first | omega | (simp at this; omega)
        have y1 : w.heap.size + 1 < w2.heap.size := by have := hb2.size; first | omega | (simp at this; omega)
        have y2 : w.heap.size + 1 + 1 < w2.heap.size := by have := hb2.size; first | omega | (simp at this; omega)
        go_wp2_with fail
        refine (create_any _ _ _ _ _ _ _ _ _).mono ?_
        rintro e w3 ⟨rfl, hb3⟩
        obtain ⟨hb3c, hb3f⟩ := bcell hb3
        have hb3n := below_next hb2n hb3
        have x0 : w.heap.size < w3.heap.size := by have := hb3.size; first | omega | (simp at this; omega)
        have x1 : w.heap.size + 1 < w3.heap.size := by have := hb3.size; first | omega | (simp at this; omega)
        have x2 : w.heap.size + 1 + 1 < w3.heap.size := by have := hb3.size; first | omega | (simp at this; omega)
        go_wp2_with fail
        refine ⟨.int .i64 (createE cL n true), by simp [results, Try.results26, go_sem, hb3c, hb2c, hbc, z2, y2], ret_int H.out.symm, ?_⟩
        exact hb3n.setCell (by simp; omega) _
      · have hk1' : (k == 1) = false := by simpa using hk1
        rcases hl with rfl | rfl
        · by_cases hk4 : k = 4
          · have hk4' : (k == 4) = true := by simpa using hk4
            by_cases hq : cP ≤ (y.s0.length : Int)
            · have H := Lib.hid (show checkE cL cP L k key 0 v = if k = 5 ∧ y.s0.any (sameS v) = false then 16 else 15 by unfold checkE; rw [← HX.out, if_neg (by decide), HF.out]; show (if k = 1 then _ else _) = _; rw [if_neg hk1]; rw [if_pos ⟨hk4, hq⟩, if_neg (by omega)])
              clear hk4
              go_enter_defers Try.func26, Try.ntmps26
              go_wp2_with fail
              refine (HE.out _).mono ?_
              rintro e w1 ⟨rfl, hb⟩
              obtain ⟨hbc, hbf⟩ := bcell hb
              have hbn := below_next (w := w) (by (repeat (first | exact Below.refl _ _ | assumption | (refine Below.drew ?_) | (refine below_drewN ?_ _) | (refine Below.alloc ?_ (by first | omega | (simp; done) | (simp; omega)) _) | (refine Below.setCell ?_ (by first | omega | (simp; done) | (simp; omega)) _)))) hb
              have z0 : w.heap.size < w1.heap.size := by have := hb.size; first | omega | (simp at this; omega)
              have z1 : w.heap.size + 1 < w1.heap.size := by have := hb.size; first | omega | (simp at this; omega)
              have z2 : w.heap.size + 1 + 1 < w1.heap.size := by have := hb.size; first | omega | (simp at this; omega)
              go_wp2_with fail
              refine (indexFunc_any A n c L _ key _ (hR.below hbn) (by simp [hbc, go_sem]) (by omega)).mono ?_
              rintro e w2 ⟨rfl, hb2⟩
              rw [HIX.out]
              obtain ⟨hb2c, hb2f⟩ := bcell hb2
              have hb2n := below_next hbn hb2
              have y0 : w.heap.size < w2.heap.size := by have := hb2.size; first | omega | (simp at this; omega)
              have y1 : w.heap.size + 1 < w2.heap.size := by have := hb2.size; first | omega | (simp at this; omega)
              have y2 : w.heap.size + 1 + 1 < w2.heap.size := by have := hb2.size; first | omega | (simp at this; omega)
              obtain ⟨b, o, A0, n0, c0, A1, n1, c1, hA, hb', g0, g1, g2, g3, g4, g5, g6, r0, q0, r1, q1⟩ := (hR.below hb2n).at_ i y hy
              have HC := Lib.hid (fun w2 (h : Below _ _ w2) => contains_any A0 n0 c0 y.s0 v w2 (r0.below h))
              have hls : y.s0.length = n0 := by have := r0.1; simpa [strs] using this
              have E0 : w2.cell? ⟨w.heap.size + 1, 0, none⟩ = some (.int .i64 k) := by simp [hb2c, hbc, z1, go_sem]
              have E2 : w2.cell? ⟨w.heap.size + 1, 2, none⟩ = some (.int .i64 0) := by simp [hb2c, hbc, z1, go_sem]
              have E3 : w2.cell? ⟨w.heap.size + 1, 3, none⟩ = some (.string v) := by simp [hb2c, hbc, z1, go_sem]
              have EE : w2.cell? ⟨w.heap.size + 1 + 1, 0, none⟩ = some (.int .i64 0) := by simp [hb2c, hbc, z2, go_sem]
              have EF : w2.frozen? ⟨w.heap.size + 1 + 1, 0, none⟩ = false := by simp [hb2f, hbf, z2, go_sem]
              have EP : w2.cell? ⟨w.heap.size, 5, none⟩ = some (.int .i64 cP) := by simp [hb2c, hbc, z0, go_sem]
              have gS : w2.cell? ⟨b, o + i * 7 + 5, none⟩ = some (.slice A0 n0 c0) := by first | exact g5 | exact g6
              subst hA
              have HR := Lib.hid hR
              have HY := Lib.hid hy
              have HLS := Lib.hid hls
              clear hb2c hb2f hbc hbf r0 r1 hR hy hls
              go_wp2_with fail
              go_region_held3 (fun w' => w'.cell? ⟨w.heap.size + 1, 2, none⟩ = some (.int .i64 0) ∧ w'.cell? ⟨w.heap.size + 1, 3, none⟩ = some (.string v) ∧ w'.cell? ⟨b, o + i * 7 + 5, none⟩ = some (.slice A0 n0 c0)) (go_keep) (first | (go_at_call 32; refine (HC.out _ ?_).mono ?_; (repeat (first | exact Below.refl _ _ | assumption | (refine Below.drew ?_) | (refine below_drewN ?_ _) | (refine Below.alloc ?_ (by first | omega | (simp; done) | (simp; omega)) _) | (refine Below.setCell ?_ (by first | omega | (simp; done) | (simp; omega)) _))); rintro e w' ⟨rfl, rfl⟩))
              all_goals
                have hq1 : cP ≤ (n0 : Int) := by rw [← HLS.out]; omega
                go_wp2_with fail
                go_quiet (fail)
                go_wp2_with fail
                refine leaves_cons (f := 33) (args := #[.pointer (some ⟨w.heap.size + 1, 0, none⟩), .pointer (some ⟨w2.heap.size, 0, none⟩), .pointer (some ⟨w.heap.size + 1 + 1, 0, none⟩)]) (by simp) (by simp [go_sem]) ?_
                refine (lit2_any _ k (y.s0.any (sameS v)) _ _ 15 _ (by simp [go_sem, E0, y1]) (by simp [go_sem, show ¬ w.heap.size + 1 + 1 = w2.heap.size by omega]) (by simp [go_sem, EE, y2]) (by simp [go_sem, EF, y2])).mono ?_
                rintro e u' w3 ⟨rfl, rfl, hw3⟩
                show ∃ _, _
                by_cases hq : k = 5 ∧ y.s0.any (sameS v) = false
                · rw [if_pos hq] at hw3
                  have hc16 : w3.cell? ⟨w.heap.size + 1 + 1, 0, none⟩ = some (.int .i64 16) := by rw [hw3]; exact World.cell?_setCell_same' _ _ _ (by simp [go_sem, EE, y2])
                  subst hw3
                  refine ⟨.int .i64 16, by simp [hc16, results, Try.results26, go_sem, EE, y2], ret_int (by rw [H.out, if_pos hq]), ?_⟩
                  exact (by (repeat (first | exact Below.refl _ _ | assumption | (refine Below.drew ?_) | (refine below_drewN ?_ _) | (refine Below.alloc ?_ (by first | omega | (simp; done) | (simp; omega)) _) | (refine Below.setCell ?_ (by first | omega | (simp; done) | (simp; omega)) _))))
                · rw [if_neg hq] at hw3
                  subst hw3
                  refine ⟨.int .i64 15, by simp [results, Try.results26, go_sem, EE, y2], ret_int (by rw [H.out, if_neg hq]), ?_⟩
                  exact (by (repeat (first | exact Below.refl _ _ | assumption | (refine Below.drew ?_) | (refine below_drewN ?_ _) | (refine Below.alloc ?_ (by first | omega | (simp; done) | (simp; omega)) _) | (refine Below.setCell ?_ (by first | omega | (simp; done) | (simp; omega)) _))))
            · have H := Lib.hid (show checkE cL cP L k key 0 v = if k = 5 ∧ y.s0.any (sameS v) = false then 16 else 0 by unfold checkE; rw [← HX.out, if_neg (by decide), HF.out]; show (if k = 1 then _ else _) = _; rw [if_neg hk1]; rw [if_neg (fun h => hq h.2)]; rfl)
              clear hk4
              go_enter_defers Try.func26, Try.ntmps26
              go_wp2_with fail
              refine (HE.out _).mono ?_
              rintro e w1 ⟨rfl, hb⟩
              obtain ⟨hbc, hbf⟩ := bcell hb
              have hbn := below_next (w := w) (by (repeat (first | exact Below.refl _ _ | assumption | (refine Below.drew ?_) | (refine below_drewN ?_ _) | (refine Below.alloc ?_ (by first | omega | (simp; done) | (simp; omega)) _) | (refine Below.setCell ?_ (by first | omega | (simp; done) | (simp; omega)) _)))) hb
              have z0 : w.heap.size < w1.heap.size := by have := hb.size; first | omega | (simp at this; omega)
              have z1 : w.heap.size + 1 < w1.heap.size := by have := hb.size; first | omega | (simp at this; omega)
              have z2 : w.heap.size + 1 + 1 < w1.heap.size := by have := hb.size; first | omega | (simp at this; omega)
              go_wp2_with fail
              refine (indexFunc_any A n c L _ key _ (hR.below hbn) (by simp [hbc, go_sem]) (by omega)).mono ?_
              rintro e w2 ⟨rfl, hb2⟩
              rw [HIX.out]
              obtain ⟨hb2c, hb2f⟩ := bcell hb2
              have hb2n := below_next hbn hb2
              have y0 : w.heap.size < w2.heap.size := by have := hb2.size; first | omega | (simp at this; omega)
              have y1 : w.heap.size + 1 < w2.heap.size := by have := hb2.size; first | omega | (simp at this; omega)
              have y2 : w.heap.size + 1 + 1 < w2.heap.size := by have := hb2.size; first | omega | (simp at this; omega)
              obtain ⟨b, o, A0, n0, c0, A1, n1, c1, hA, hb', g0, g1, g2, g3, g4, g5, g6, r0, q0, r1, q1⟩ := (hR.below hb2n).at_ i y hy
              have HC := Lib.hid (fun w2 (h : Below _ _ w2) => contains_any A0 n0 c0 y.s0 v w2 (r0.below h))
              have hls : y.s0.length = n0 := by have := r0.1; simpa [strs] using this
              have E0 : w2.cell? ⟨w.heap.size + 1, 0, none⟩ = some (.int .i64 k) := by simp [hb2c, hbc, z1, go_sem]
              have E2 : w2.cell? ⟨w.heap.size + 1, 2, none⟩ = some (.int .i64 0) := by simp [hb2c, hbc, z1, go_sem]
              have E3 : w2.cell? ⟨w.heap.size + 1, 3, none⟩ = some (.string v) := by simp [hb2c, hbc, z1, go_sem]
              have EE : w2.cell? ⟨w.heap.size + 1 + 1, 0, none⟩ = some (.int .i64 0) := by simp [hb2c, hbc, z2, go_sem]
              have EF : w2.frozen? ⟨w.heap.size + 1 + 1, 0, none⟩ = false := by simp [hb2f, hbf, z2, go_sem]
              have EP : w2.cell? ⟨w.heap.size, 5, none⟩ = some (.int .i64 cP) := by simp [hb2c, hbc, z0, go_sem]
              have gS : w2.cell? ⟨b, o + i * 7 + 5, none⟩ = some (.slice A0 n0 c0) := by first | exact g5 | exact g6
              subst hA
              have HR := Lib.hid hR
              have HY := Lib.hid hy
              have HLS := Lib.hid hls
              clear hb2c hb2f hbc hbf r0 r1 hR hy hls
              go_wp2_with fail
              go_region_held3 (fun w' => w'.cell? ⟨w.heap.size + 1, 2, none⟩ = some (.int .i64 0) ∧ w'.cell? ⟨w.heap.size + 1, 3, none⟩ = some (.string v) ∧ w'.cell? ⟨b, o + i * 7 + 5, none⟩ = some (.slice A0 n0 c0)) (go_keep) (first | (go_at_call 32; refine (HC.out _ ?_).mono ?_; (repeat (first | exact Below.refl _ _ | assumption | (refine Below.drew ?_) | (refine below_drewN ?_ _) | (refine Below.alloc ?_ (by first | omega | (simp; done) | (simp; omega)) _) | (refine Below.setCell ?_ (by first | omega | (simp; done) | (simp; omega)) _))); rintro e w' ⟨rfl, rfl⟩))
              all_goals
                have hq1 : ¬ cP ≤ (n0 : Int) := by rw [← HLS.out]; omega
                go_wp2_with fail
                go_quiet (fail)
                go_wp2_with fail
                refine leaves_cons (f := 33) (args := #[.pointer (some ⟨w.heap.size + 1, 0, none⟩), .pointer (some ⟨w2.heap.size, 0, none⟩), .pointer (some ⟨w.heap.size + 1 + 1, 0, none⟩)]) (by simp) (by simp [go_sem]) ?_
                refine (lit2_any _ k (y.s0.any (sameS v)) _ _ 0 _ (by simp [go_sem, E0, y1]) (by simp [go_sem, show ¬ w.heap.size + 1 + 1 = w2.heap.size by omega]) (by simp [go_sem, EE, y2]) (by simp [go_sem, EF, y2])).mono ?_
                rintro e u' w3 ⟨rfl, rfl, hw3⟩
                show ∃ _, _
                by_cases hq : k = 5 ∧ y.s0.any (sameS v) = false
                · rw [if_pos hq] at hw3
                  have hc16 : w3.cell? ⟨w.heap.size + 1 + 1, 0, none⟩ = some (.int .i64 16) := by rw [hw3]; exact World.cell?_setCell_same' _ _ _ (by simp [go_sem, EE, y2])
                  subst hw3
                  refine ⟨.int .i64 16, by simp [hc16, results, Try.results26, go_sem, EE, y2], ret_int (by rw [H.out, if_pos hq]), ?_⟩
                  exact (by (repeat (first | exact Below.refl _ _ | assumption | (refine Below.drew ?_) | (refine below_drewN ?_ _) | (refine Below.alloc ?_ (by first | omega | (simp; done) | (simp; omega)) _) | (refine Below.setCell ?_ (by first | omega | (simp; done) | (simp; omega)) _))))
                · rw [if_neg hq] at hw3
                  subst hw3
                  refine ⟨.int .i64 0, by simp [results, Try.results26, go_sem, EE, y2], ret_int (by rw [H.out, if_neg hq]), ?_⟩
                  exact (by (repeat (first | exact Below.refl _ _ | assumption | (refine Below.drew ?_) | (refine below_drewN ?_ _) | (refine Below.alloc ?_ (by first | omega | (simp; done) | (simp; omega)) _) | (refine Below.setCell ?_ (by first | omega | (simp; done) | (simp; omega)) _))))
          · have hk4' : (k == 4) = false := by simpa using hk4
            have H := Lib.hid (show checkE cL cP L k key 0 v = if k = 5 ∧ y.s0.any (sameS v) = false then 16 else 0 by unfold checkE; rw [← HX.out, if_neg (by decide), HF.out]; show (if k = 1 then _ else _) = _; rw [if_neg hk1]; rw [if_neg (fun h => hk4 h.1)]; rfl)
            go_enter_defers Try.func26, Try.ntmps26
            go_wp2_with fail
            refine (HE.out _).mono ?_
            rintro e w1 ⟨rfl, hb⟩
            obtain ⟨hbc, hbf⟩ := bcell hb
            have hbn := below_next (w := w) (by (repeat (first | exact Below.refl _ _ | assumption | (refine Below.drew ?_) | (refine below_drewN ?_ _) | (refine Below.alloc ?_ (by first | omega | (simp; done) | (simp; omega)) _) | (refine Below.setCell ?_ (by first | omega | (simp; done) | (simp; omega)) _)))) hb
            have z0 : w.heap.size < w1.heap.size := by have := hb.size; first | omega | (simp at this; omega)
            have z1 : w.heap.size + 1 < w1.heap.size := by have := hb.size; first | omega | (simp at this; omega)
            have z2 : w.heap.size + 1 + 1 < w1.heap.size := by have := hb.size; first | omega | (simp at this; omega)
            go_wp2_with fail
            refine (indexFunc_any A n c L _ key _ (hR.below hbn) (by simp [hbc, go_sem]) (by omega)).mono ?_
            rintro e w2 ⟨rfl, hb2⟩
            rw [HIX.out]
            obtain ⟨hb2c, hb2f⟩ := bcell hb2
            have hb2n := below_next hbn hb2
            have y0 : w.heap.size < w2.heap.size := by have := hb2.size; first | omega | (simp at this; omega)
            have y1 : w.heap.size + 1 < w2.heap.size := by have := hb2.size; first | omega | (simp at this; omega)
            have y2 : w.heap.size + 1 + 1 < w2.heap.size := by have := hb2.size; first | omega | (simp at this; omega)
            obtain ⟨b, o, A0, n0, c0, A1, n1, c1, hA, hb', g0, g1, g2, g3, g4, g5, g6, r0, q0, r1, q1⟩ := (hR.below hb2n).at_ i y hy
            have HC := Lib.hid (fun w2 (h : Below _ _ w2) => contains_any A0 n0 c0 y.s0 v w2 (r0.below h))
            have hls : y.s0.length = n0 := by have := r0.1; simpa [strs] using this
            have E0 : w2.cell? ⟨w.heap.size + 1, 0, none⟩ = some (.int .i64 k) := by simp [hb2c, hbc, z1, go_sem]
            have E2 : w2.cell? ⟨w.heap.size + 1, 2, none⟩ = some (.int .i64 0) := by simp [hb2c, hbc, z1, go_sem]
            have E3 : w2.cell? ⟨w.heap.size + 1, 3, none⟩ = some (.string v) := by simp [hb2c, hbc, z1, go_sem]
            have EE : w2.cell? ⟨w.heap.size + 1 + 1, 0, none⟩ = some (.int .i64 0) := by simp [hb2c, hbc, z2, go_sem]
            have EF : w2.frozen? ⟨w.heap.size + 1 + 1, 0, none⟩ = false := by simp [hb2f, hbf, z2, go_sem]
            have EP : w2.cell? ⟨w.heap.size, 5, none⟩ = some (.int .i64 cP) := by simp [hb2c, hbc, z0, go_sem]
            have gS : w2.cell? ⟨b, o + i * 7 + 5, none⟩ = some (.slice A0 n0 c0) := by first | exact g5 | exact g6
            subst hA
            have HR := Lib.hid hR
            have HY := Lib.hid hy
            have HLS := Lib.hid hls
            clear hb2c hb2f hbc hbf r0 r1 hR hy hls
            go_wp2_with fail
            go_region_held3 (fun w' => w'.cell? ⟨w.heap.size + 1, 2, none⟩ = some (.int .i64 0) ∧ w'.cell? ⟨w.heap.size + 1, 3, none⟩ = some (.string v) ∧ w'.cell? ⟨b, o + i * 7 + 5, none⟩ = some (.slice A0 n0 c0)) (go_keep) (first | (go_at_call 32; refine (HC.out _ ?_).mono ?_; (repeat (first | exact Below.refl _ _ | assumption | (refine Below.drew ?_) | (refine below_drewN ?_ _) | (refine Below.alloc ?_ (by first | omega | (simp; done) | (simp; omega)) _) | (refine Below.setCell ?_ (by first | omega | (simp; done) | (simp; omega)) _))); rintro e w' ⟨rfl, rfl⟩))
            all_goals
              go_wp2_with fail
              go_quiet (fail)
              go_wp2_with fail
              refine leaves_cons (f := 33) (args := #[.pointer (some ⟨w.heap.size + 1, 0, none⟩), .pointer (some ⟨w2.heap.size, 0, none⟩), .pointer (some ⟨w.heap.size + 1 + 1, 0, none⟩)]) (by simp) (by simp [go_sem]) ?_
              refine (lit2_any _ k (y.s0.any (sameS v)) _ _ 0 _ (by simp [go_sem, E0, y1]) (by simp [go_sem, show ¬ w.heap.size + 1 + 1 = w2.heap.size by omega]) (by simp [go_sem, EE, y2]) (by simp [go_sem, EF, y2])).mono ?_
              rintro e u' w3 ⟨rfl, rfl, hw3⟩
              show ∃ _, _
              by_cases hq : k = 5 ∧ y.s0.any (sameS v) = false
              · rw [if_pos hq] at hw3
                have hc16 : w3.cell? ⟨w.heap.size + 1 + 1, 0, none⟩ = some (.int .i64 16) := by rw [hw3]; exact World.cell?_setCell_same' _ _ _ (by simp [go_sem, EE, y2])
                subst hw3
                refine ⟨.int .i64 16, by simp [hc16, results, Try.results26, go_sem, EE, y2], ret_int (by rw [H.out, if_pos hq]), ?_⟩
                exact (by (repeat (first | exact Below.refl _ _ | assumption | (refine Below.drew ?_) | (refine below_drewN ?_ _) | (refine Below.alloc ?_ (by first | omega | (simp; done) | (simp; omega)) _) | (refine Below.setCell ?_ (by first | omega | (simp; done) | (simp; omega)) _))))
              · rw [if_neg hq] at hw3
                subst hw3
                refine ⟨.int .i64 0, by simp [results, Try.results26, go_sem, EE, y2], ret_int (by rw [H.out, if_neg hq]), ?_⟩
                exact (by (repeat (first | exact Below.refl _ _ | assumption | (refine Below.drew ?_) | (refine below_drewN ?_ _) | (refine Below.alloc ?_ (by first | omega | (simp; done) | (simp; omega)) _) | (refine Below.setCell ?_ (by first | omega | (simp; done) | (simp; omega)) _))))
        · by_cases hk4 : k = 4
          · have hk4' : (k == 4) = true := by simpa using hk4
            by_cases hq : cP ≤ (y.s1.length : Int)
            · have H := Lib.hid (show checkE cL cP L k key 1 v = if k = 5 ∧ y.s1.any (sameS v) = false then 16 else 15 by unfold checkE; rw [← HX.out, if_neg (by decide), HF.out]; show (if k = 1 then _ else _) = _; rw [if_neg hk1]; rw [if_pos ⟨hk4, hq⟩, if_neg (by omega)])
              clear hk4
              go_enter_defers Try.func26, Try.ntmps26
              go_wp2_with fail
              refine (HE.out _).mono ?_
              rintro e w1 ⟨rfl, hb⟩
              obtain ⟨hbc, hbf⟩ := bcell hb
              have hbn := below_next (w := w) (by (repeat (first | exact Below.refl _ _ | assumption | (refine Below.drew ?_) | (refine below_drewN ?_ _) | (refine Below.alloc ?_ (by first | omega | (simp; done) | (simp; omega)) _) | (refine Below.setCell ?_ (by first | omega | (simp; done) | (simp; omega)) _)))) hb
              have z0 : w.heap.size < w1.heap.size := by have := hb.size; first | omega | (simp at this; omega)
              have z1 : w.heap.size + 1 < w1.heap.size := by have := hb.size; first | omega | (simp at this; omega)
              have z2 : w.heap.size + 1 + 1 < w1.heap.size := by have := hb.size; first | omega | (simp at this; omega)
              go_wp2_with fail
              refine (indexFunc_any A n c L _ key _ (hR.below hbn) (by simp [hbc, go_sem]) (by omega)).mono ?_
              rintro e w2 ⟨rfl, hb2⟩
              rw [HIX.out]
              obtain ⟨hb2c, hb2f⟩ := bcell hb2
              have hb2n := below_next hbn hb2
              have y0 : w.heap.size < w2.heap.size := by have := hb2.size; first | omega | (simp at this; omega)
              have y1 : w.heap.size + 1 < w2.heap.size := by have := hb2.size; first | omega | (simp at this; omega)
              have y2 : w.heap.size + 1 + 1 < w2.heap.size := by have := hb2.size; first | omega | (simp at this; omega)
              obtain ⟨b, o, A0, n0, c0, A1, n1, c1, hA, hb', g0, g1, g2, g3, g4, g5, g6, r0, q0, r1, q1⟩ := (hR.below hb2n).at_ i y hy
              have HC := Lib.hid (fun w2 (h : Below _ _ w2) => contains_any A1 n1 c1 y.s1 v w2 (r1.below h))
              have hls : y.s1.length = n1 := by have := r1.1; simpa [strs] using this
              have E0 : w2.cell? ⟨w.heap.size + 1, 0, none⟩ = some (.int .i64 k) := by simp [hb2c, hbc, z1, go_sem]
              have E2 : w2.cell? ⟨w.heap.size + 1, 2, none⟩ = some (.int .i64 1) := by simp [hb2c, hbc, z1, go_sem]
              have E3 : w2.cell? ⟨w.heap.size + 1, 3, none⟩ = some (.string v) := by simp [hb2c, hbc, z1, go_sem]
              have EE : w2.cell? ⟨w.heap.size + 1 + 1, 0, none⟩ = some (.int .i64 0) := by simp [hb2c, hbc, z2, go_sem]
              have EF : w2.frozen? ⟨w.heap.size + 1 + 1, 0, none⟩ = false := by simp [hb2f, hbf, z2, go_sem]
              have EP : w2.cell? ⟨w.heap.size, 5, none⟩ = some (.int .i64 cP) := by simp [hb2c, hbc, z0, go_sem]
              have gS : w2.cell? ⟨b, o + i * 7 + 5 + 1, none⟩ = some (.slice A1 n1 c1) := by first | exact g5 | exact g6
              subst hA
              have HR := Lib.hid hR
              have HY := Lib.hid hy
              have HLS := Lib.hid hls
              clear hb2c hb2f hbc hbf r0 r1 hR hy hls
              go_wp2_with fail
              go_region_held3 (fun w' => w'.cell? ⟨w.heap.size + 1, 2, none⟩ = some (.int .i64 1) ∧ w'.cell? ⟨w.heap.size + 1, 3, none⟩ = some (.string v) ∧ w'.cell? ⟨b, o + i * 7 + 5 + 1, none⟩ = some (.slice A1 n1 c1)) (go_keep) (first | (go_at_call 32; refine (HC.out _ ?_).mono ?_; (repeat (first | exact Below.refl _ _ | assumption | (refine Below.drew ?_) | (refine below_drewN ?_ _) | (refine Below.alloc ?_ (by first | omega | (simp; done) | (simp; omega)) _) | (refine Below.setCell ?_ (by first | omega | (simp; done) | (simp; omega)) _))); rintro e w' ⟨rfl, rfl⟩))
              all_goals
                have hq1 : cP ≤ (n1 : Int) := by rw [← HLS.out]; omega
                go_wp2_with fail
                go_quiet (fail)
                go_wp2_with fail
                refine leaves_cons (f := 33) (args := #[.pointer (some ⟨w.heap.size + 1, 0, none⟩), .pointer (some ⟨w2.heap.size, 0, none⟩), .pointer (some ⟨w.heap.size + 1 + 1, 0, none⟩)]) (by simp) (by simp [go_sem]) ?_
                refine (lit2_any _ k (y.s1.any (sameS v)) _ _ 15 _ (by simp [go_sem, E0, y1]) (by simp [go_sem, show ¬ w.heap.size + 1 + 1 = w2.heap.size by omega]) (by simp [go_sem, EE, y2]) (by simp [go_sem, EF, y2])).mono ?_
                rintro e u' w3 ⟨rfl, rfl, hw3⟩
                show ∃ _, _
                by_cases hq : k = 5 ∧ y.s1.any (sameS v) = false
                · rw [if_pos hq] at hw3
                  have hc16 : w3.cell? ⟨w.heap.size + 1 + 1, 0, none⟩ = some (.int .i64 16) := by rw [hw3]; exact World.cell?_setCell_same' _ _ _ (by simp [go_sem, EE, y2])
                  subst hw3
                  refine ⟨.int .i64 16, by simp [hc16, results, Try.results26, go_sem, EE, y2], ret_int (by rw [H.out, if_pos hq]), ?_⟩
                  exact (by (repeat (first | exact Below.refl _ _ | assumption | (refine Below.drew ?_) | (refine below_drewN ?_ _) | (refine Below.alloc ?_ (by first | omega | (simp; done) | (simp; omega)) _) | (refine Below.setCell ?_ (by first | omega | (simp; done) | (simp; omega)) _))))
                · rw [if_neg hq] at hw3
                  subst hw3
                  refine ⟨.int .i64 15, by simp [results, Try.results26, go_sem, EE, y2], ret_int (by rw [H.out, if_neg hq]), ?_⟩
                  exact (by (repeat (first | exact Below.refl _ _ | assumption | (refine Below.drew ?_) | (refine below_drewN ?_ _) | (refine Below.alloc ?_ (by first | omega | (simp; done) | (simp; omega)) _) | (refine Below.setCell ?_ (by first | omega | (simp; done) | (simp; omega)) _))))
            · have H := Lib.hid (show checkE cL cP L k key 1 v = if k = 5 ∧ y.s1.any (sameS v) = false then 16 else 0 by unfold checkE; rw [← HX.out, if_neg (by decide), HF.out]; show (if k = 1 then _ else _) = _; rw [if_neg hk1]; rw [if_neg (fun h => hq h.2)]; rfl)
              clear hk4
              go_enter_defers Try.func26, Try.ntmps26
              go_wp2_with fail
              refine (HE.out _).mono ?_
              rintro e w1 ⟨rfl, hb⟩
              obtain ⟨hbc, hbf⟩ := bcell hb
              have hbn := below_next (w := w) (by (repeat (first | exact Below.refl _ _ | assumption | (refine Below.drew ?_) | (refine below_drewN ?_ _) | (refine Below.alloc ?_ (by first | omega | (simp; done) | (simp; omega)) _) | (refine Below.setCell ?_ (by first | omega | (simp; done) | (simp; omega)) _)))) hb
              have z0 : w.heap.size < w1.heap.size := by have := hb.size; first | omega | (simp at this; omega)
              have z1 : w.heap.size + 1 < w1.heap.size := by have := hb.size; first | omega | (simp at this; omega)
              have z2 : w.heap.size + 1 + 1 < w1.heap.size := by have := hb.size; first | omega | (simp at this; omega)
              go_wp2_with fail
              refine (indexFunc_any A n c L _ key _ (hR.below hbn) (by simp [hbc, go_sem]) (by omega)).mono ?_
              rintro e w2 ⟨rfl, hb2⟩
              rw [HIX.out]
              obtain ⟨hb2c, hb2f⟩ := bcell hb2
              have hb2n := below_next hbn hb2
              have y0 : w.heap.size < w2.heap.size := by have := hb2.size; first | omega | (simp at this; omega)
              have y1 : w.heap.size + 1 < w2.heap.size := by have := hb2.size; first | omega | (simp at this; omega)
              have y2 : w.heap.size + 1 + 1 < w2.heap.size := by have := hb2.size; first | omega | (simp at this; omega)
              obtain ⟨b, o, A0, n0, c0, A1, n1, c1, hA, hb', g0, g1, g2, g3, g4, g5, g6, r0, q0, r1, q1⟩ := (hR.below hb2n).at_ i y hy
              have HC := Lib.hid (fun w2 (h : Below _ _ w2) => contains_any A1 n1 c1 y.s1 v w2 (r1.below h))
              have hls : y.s1.length = n1 := by have := r1.1; simpa [strs] using this
              have E0 : w2.cell? ⟨w.heap.size + 1, 0, none⟩ = some (.int .i64 k) := by simp [hb2c, hbc, z1, go_sem]
              have E2 : w2.cell? ⟨w.heap.size + 1, 2, none⟩ = some (.int .i64 1) := by simp [hb2c, hbc, z1, go_sem]
              have E3 : w2.cell? ⟨w.heap.size + 1, 3, none⟩ = some (.string v) := by simp [hb2c, hbc, z1, go_sem]
              have EE : w2.cell? ⟨w.heap.size + 1 + 1, 0, none⟩ = some (.int .i64 0) := by simp [hb2c, hbc, z2, go_sem]
              have EF : w2.frozen? ⟨w.heap.size + 1 + 1, 0, none⟩ = false := by simp [hb2f, hbf, z2, go_sem]
              have EP : w2.cell? ⟨w.heap.size, 5, none⟩ = some (.int .i64 cP) := by simp [hb2c, hbc, z0, go_sem]
              have gS : w2.cell? ⟨b, o + i * 7 + 5 + 1, none⟩ = some (.slice A1 n1 c1) := by first | exact g5 | exact g6
              subst hA
              have HR := Lib.hid hR
              have HY := Lib.hid hy
              have HLS := Lib.hid hls
              clear hb2c hb2f hbc hbf r0 r1 hR hy hls
              go_wp2_with fail
              go_region_held3 (fun w' => w'.cell? ⟨w.heap.size + 1, 2, none⟩ = some (.int .i64 1) ∧ w'.cell? ⟨w.heap.size + 1, 3, none⟩ = some (.string v) ∧ w'.cell? ⟨b, o + i * 7 + 5 + 1, none⟩ = some (.slice A1 n1 c1)) (go_keep) (first | (go_at_call 32; refine (HC.out _ ?_).mono ?_; (repeat (first | exact Below.refl _ _ | assumption | (refine Below.drew ?_) | (refine below_drewN ?_ _) | (refine Below.alloc ?_ (by first | omega | (simp; done) | (simp; omega)) _) | (refine Below.setCell ?_ (by first | omega | (simp; done) | (simp; omega)) _))); rintro e w' ⟨rfl, rfl⟩))
              all_goals
                have hq1 : ¬ cP ≤ (n1 : Int) := by rw [← HLS.out]; omega
                go_wp2_with fail
                go_quiet (fail)
                go_wp2_with fail
                refine leaves_cons (f := 33) (args := #[.pointer (some ⟨w.heap.size + 1, 0, none⟩), .pointer (some ⟨w2.heap.size, 0, none⟩), .pointer (some ⟨w.heap.size + 1 + 1, 0, none⟩)]) (by simp) (by simp [go_sem]) ?_
                refine (lit2_any _ k (y.s1.any (sameS v)) _ _ 0 _ (by simp [go_sem, E0, y1]) (by simp [go_sem, show ¬ w.heap.size + 1 + 1 = w2.heap.size by omega]) (by simp [go_sem, EE, y2]) (by simp [go_sem, EF, y2])).mono ?_
                rintro e u' w3 ⟨rfl, rfl, hw3⟩
                show ∃ _, _
                by_cases hq : k = 5 ∧ y.s1.any (sameS v) = false
                · rw [if_pos hq] at hw3
                  have hc16 : w3.cell? ⟨w.heap.size + 1 + 1, 0, none⟩ = some (.int .i64 16) := by rw [hw3]; exact World.cell?_setCell_same' _ _ _ (by simp [go_sem, EE, y2])
                  subst hw3
                  refine ⟨.int .i64 16, by simp [hc16, results, Try.results26, go_sem, EE, y2], ret_int (by rw [H.out, if_pos hq]), ?_⟩
                  exact (by (repeat (first | exact Below.refl _ _ | assumption | (refine Below.drew ?_) | (refine below_drewN ?_ _) | (refine Below.alloc ?_ (by first | omega | (simp; done) | (simp; omega)) _) | (refine Below.setCell ?_ (by first | omega | (simp; done) | (simp; omega)) _))))
                · rw [if_neg hq] at hw3
                  subst hw3
                  refine ⟨.int .i64 0, by simp [results, Try.results26, go_sem, EE, y2], ret_int (by rw [H.out, if_neg hq]), ?_⟩
                  exact (by (repeat (first | exact Below.refl _ _ | assumption | (refine Below.drew ?_) | (refine below_drewN ?_ _) | (refine Below.alloc ?_ (by first | omega | (simp; done) | (simp; omega)) _) | (refine Below.setCell ?_ (by first | omega | (simp; done) | (simp; omega)) _))))
          · have hk4' : (k == 4) = false := by simpa using hk4
            have H := Lib.hid (show checkE cL cP L k key 1 v = if k = 5 ∧ y.s1.any (sameS v) = false then 16 else 0 by unfold checkE; rw [← HX.out, if_neg (by decide), HF.out]; show (if k = 1 then _ else _) = _; rw [if_neg hk1]; rw [if_neg (fun h => hk4 h.1)]; rfl)
            go_enter_defers Try.func26, Try.ntmps26
            go_wp2_with fail
            refine (HE.out _).mono ?_
            rintro e w1 ⟨rfl, hb⟩
            obtain ⟨hbc, hbf⟩ := bcell hb
            have hbn := below_next (w := w) (by (repeat (first | exact Below.refl _ _ | assumption | (refine Below.drew ?_) | (refine below_drewN ?_ _) | (refine Below.alloc ?_ (by first | omega | (simp; done) | (simp; omega)) _) | (refine Below.setCell ?_ (by first | omega | (simp; done) | (simp; omega)) _)))) hb
            have z0 : w.heap.size < w1.heap.size := by have := hb.size; first | omega | (simp at this; omega)
            have z1 : w.heap.size + 1 < w1.heap.size := by have := hb.size; first | omega | (simp at this; omega)
            have z2 : w.heap.size + 1 + 1 < w1.heap.size := by have := hb.size; first | omega | (simp at this; omega)
            go_wp2_with fail
            refine (indexFunc_any A n c L _ key _ (hR.below hbn) (by simp [hbc, go_sem]) (by omega)).mono ?_
            rintro e w2 ⟨rfl, hb2⟩
            rw [HIX.out]
            obtain ⟨hb2c, hb2f⟩ := bcell hb2
            have hb2n := below_next hbn hb2
            have y0 : w.heap.size < w2.heap.size := by have := hb2.size; first | omega | (simp at this; omega)
            have y1 : w.heap.size + 1 < w2.heap.size := by have := hb2.size; first | omega | (simp at this; omega)
            have y2 : w.heap.size + 1 + 1 < w2.heap.size := by have := hb2.size; first | omega | (simp at this; omega)
            obtain ⟨b, o, A0, n0, c0, A1, n1, c1, hA, hb', g0, g1, g2, g3, g4, g5, g6, r0, q0, r1, q1⟩ := (hR.below hb2n).at_ i y hy
            have HC := Lib.hid (fun w2 (h : Below _ _ w2) => contains_any A1 n1 c1 y.s1 v w2 (r1.below h))
            have hls : y.s1.length = n1 := by have := r1.1; simpa [strs] using this
            have E0 : w2.cell? ⟨w.heap.size + 1, 0, none⟩ = some (.int .i64 k) := by simp [hb2c, hbc, z1, go_sem]
            have E2 : w2.cell? ⟨w.heap.size + 1, 2, none⟩ = some (.int .i64 1) := by simp [hb2c, hbc, z1, go_sem]
            have E3 : w2.cell? ⟨w.heap.size + 1, 3, none⟩ = some (.string v) := by simp [hb2c, hbc, z1, go_sem]
            have EE : w2.cell? ⟨w.heap.size + 1 + 1, 0, none⟩ = some (.int .i64 0) := by simp [hb2c, hbc, z2, go_sem]
            have EF : w2.frozen? ⟨w.heap.size + 1 + 1, 0, none⟩ = false := by simp [hb2f, hbf, z2, go_sem]
            have EP : w2.cell? ⟨w.heap.size, 5, none⟩ = some (.int .i64 cP) := by simp [hb2c, hbc, z0, go_sem]
            have gS : w2.cell? ⟨b, o + i * 7 + 5 + 1, none⟩ = some (.slice A1 n1 c1) := by first | exact g5 | exact g6
            subst hA
            have HR := Lib.hid hR
            have HY := Lib.hid hy
            have HLS := Lib.hid hls
            clear hb2c hb2f hbc hbf r0 r1 hR hy hls
            go_wp2_with fail
            go_region_held3 (fun w' => w'.cell? ⟨w.heap.size + 1, 2, none⟩ = some (.int .i64 1) ∧ w'.cell? ⟨w.heap.size + 1, 3, none⟩ = some (.string v) ∧ w'.cell? ⟨b, o + i * 7 + 5 + 1, none⟩ = some (.slice A1 n1 c1)) (go_keep) (first | (go_at_call 32; refine (HC.out _ ?_).mono ?_; (repeat (first | exact Below.refl _ _ | assumption | (refine Below.drew ?_) | (refine below_drewN ?_ _) | (refine Below.alloc ?_ (by first | omega | (simp; done) | (simp; omega)) _) | (refine Below.setCell ?_ (by first | omega | (simp; done) | (simp; omega)) _))); rintro e w' ⟨rfl, rfl⟩))
            all_goals
              go_wp2_with fail
              go_quiet (fail)
              go_wp2_with fail
              refine leaves_cons (f := 33) (args := #[.pointer (some ⟨w.heap.size + 1, 0, none⟩), .pointer (some ⟨w2.heap.size, 0, none⟩), .pointer (some ⟨w.heap.size + 1 + 1, 0, none⟩)]) (by simp) (by simp [go_sem]) ?_
              refine (lit2_any _ k (y.s1.any (sameS v)) _ _ 0 _ (by simp [go_sem, E0, y1]) (by simp [go_sem, show ¬ w.heap.size + 1 + 1 = w2.heap.size by omega]) (by simp [go_sem, EE, y2]) (by simp [go_sem, EF, y2])).mono ?_
              rintro e u' w3 ⟨rfl, rfl, hw3⟩
              show ∃ _, _
              by_cases hq : k = 5 ∧ y.s1.any (sameS v) = false
              · rw [if_pos hq] at hw3
                have hc16 : w3.cell? ⟨w.heap.size + 1 + 1, 0, none⟩ = some (.int .i64 16) := by rw [hw3]; exact World.cell?_setCell_same' _ _ _ (by simp [go_sem, EE, y2])
                subst hw3
                refine ⟨.int .i64 16, by simp [hc16, results, Try.results26, go_sem, EE, y2], ret_int (by rw [H.out, if_pos hq]), ?_⟩
                exact (by (repeat (first | exact Below.refl _ _ | assumption | (refine Below.drew ?_) | (refine below_drewN ?_ _) | (refine Below.alloc ?_ (by first | omega | (simp; done) | (simp; omega)) _) | (refine Below.setCell ?_ (by first | omega | (simp; done) | (simp; omega)) _))))
              · rw [if_neg hq] at hw3
                subst hw3
                refine ⟨.int .i64 0, by simp [results, Try.results26, go_sem, EE, y2], ret_int (by rw [H.out, if_neg hq]), ?_⟩
                exact (by (repeat (first | exact Below.refl _ _ | assumption | (refine Below.drew ?_) | (refine below_drewN ?_ _) | (refine Below.alloc ?_ (by first | omega | (simp; done) | (simp; omega)) _) | (refine Below.setCell ?_ (by first | omega | (simp; done) | (simp; omega)) _))))
    · have HIX := Lib.hid hix
      have HF := Lib.hid hfi
      clear hix hfi
      by_cases hk1 : k = 1
      · subst hk1
        have H := Lib.hid (show checkE cL cP L 1 key l v = createE cL n false by unfold checkE; rw [← HX.out, if_neg (by decide), HF.out, ← hlen.out]; rfl)
        go_enter_defers Try.func26, Try.ntmps26
        go_wp2_with fail
        refine (HE.out _).mono ?_
        rintro e w1 ⟨rfl, hb⟩
        obtain ⟨hbc, hbf⟩ := bcell hb
        have hbn := below_next (w := w) (by (repeat (first | exact Below.refl _ _ | assumption | (refine Below.drew ?_) | (refine below_drewN ?_ _) | (refine Below.alloc ?_ (by first | omega | (simp; done) | (simp; omega)) _) | (refine Below.setCell ?_ (by first | omega | (simp; done) | (simp; omega)) _)))) hb
        have z0 : w.heap.size < w1.heap.size := by have := hb.size; first | omega | (simp at this; omega)
        have z1 : w.heap.size + 1 < w1.heap.size := by have := hb.size; first | omega | (simp at this; omega)
        have z2 : w.heap.size + 1 + 1 < w1.heap.size := by have := hb.size; first | omega | (simp at this; omega)
        go_wp2_with fail
        refine (indexFunc_any A n c L _ key _ (hR.below hbn) (by simp [hbc, go_sem]) (by omega)).mono ?_
        rintro e w2 ⟨rfl, hb2⟩
        rw [HIX.out]
        obtain ⟨hb2c, hb2f⟩ := bcell hb2
        have hb2n := below_next hbn hb2
        have y0 : w.heap.size < w2.heap.size := by have := hb2.size; first | omega | (simp at this; omega)
        have y1 : w.heap.size + 1 < w2.heap.size := by have := hb2.size; first | omega | (simp at this; omega)
        have y2 : w.heap.size + 1 + 1 < w2.heap.size := by have := hb2.size; first | omega | (simp at this; omega)
        go_wp2_with fail
        refine (create_any _ _ _ _ _ _ _ _ _).mono ?_
        rintro e w3 ⟨rfl, hb3⟩
        obtain ⟨hb3c, hb3f⟩ := bcell hb3
        have hb3n := below_next hb2n hb3
        have x0 : w.heap.size < w3.heap.size := by have := hb3.size; first | omega | (simp at this; omega)
        have x1 : w.heap.size + 1 < w3.heap.size := by have := hb3.size; first | omega | (simp at this; omega)
        have x2 : w.heap.size + 1 + 1 < w3.heap.size := by have := hb3.size; first | omega | (simp at this; omega)
        go_wp2_with fail
        refine ⟨.int .i64 (createE cL n false), by simp [results, Try.results26, go_sem, hb3c, hb2c, hbc, z2, y2], ret_int H.out.symm, ?_⟩
        exact hb3n.setCell (by simp; omega) _
      · have H := Lib.hid (show checkE cL cP L k key l v = 14 by unfold checkE; rw [← HX.out, if_neg (by decide), HF.out]; exact if_neg hk1)
        have hk1' : (k == 1) = false := by simpa using hk1
        go_enter_defers Try.func26, Try.ntmps26
        go_wp2_with fail
        refine (HE.out _).mono ?_
        rintro e w1 ⟨rfl, hb⟩
        obtain ⟨hbc, hbf⟩ := bcell hb
        have hbn := below_next (w := w) (by (repeat (first | exact Below.refl _ _ | assumption | (refine Below.drew ?_) | (refine below_drewN ?_ _) | (refine Below.alloc ?_ (by first | omega | (simp; done) | (simp; omega)) _) | (refine Below.setCell ?_ (by first | omega | (simp; done) | (simp; omega)) _)))) hb
        have z0 : w.heap.size < w1.heap.size := by have := hb.size; first | omega | (simp at this; omega)
        have z1 : w.heap.size + 1 < w1.heap.size := by have := hb.size; first | omega | (simp at this; omega)
        have z2 : w.heap.size + 1 + 1 < w1.heap.size := by have := hb.size; first | omega | (simp at this; omega)
        go_wp2_with fail
        refine (indexFunc_any A n c L _ key _ (hR.below hbn) (by simp [hbc, go_sem]) (by omega)).mono ?_
        rintro e w2 ⟨rfl, hb2⟩
        rw [HIX.out]
        obtain ⟨hb2c, hb2f⟩ := bcell hb2
        have hb2n := below_next hbn hb2
        have y0 : w.heap.size < w2.heap.size := by have := hb2.size; first | omega | (simp at this; omega)
        have y1 : w.heap.size + 1 < w2.heap.size := by have := hb2.size; first | omega | (simp at this; omega)
        have y2 : w.heap.size + 1 + 1 < w2.heap.size := by have := hb2.size; first | omega | (simp at this; omega)
        go_wp2_with fail
        refine ⟨.int .i64 14, by simp [results, Try.results26, go_sem, hb2c, hbc, z2], ret_int H.out.symm, ?_⟩
        exact hb2n.setCell (by simp; omega) _
  · have H := Lib.hid (show checkE cL cP L k key l v = x by unfold checkE; rw [← hx, if_pos h0])
    have hx0 : (x != 0) = true := by rw [bne_iff_ne]; exact h0
    clear hx
    go_enter_defers Try.func26, Try.ntmps26
    go_wp2_with fail
    refine (HE.out _).mono ?_
    rintro e w1 ⟨rfl, hb⟩
    obtain ⟨hbc, hbf⟩ := bcell hb
    have hbn := below_next (w := w) (by (repeat (first | exact Below.refl _ _ | assumption | (refine Below.drew ?_) | (refine below_drewN ?_ _) | (refine Below.alloc ?_ (by first | omega | (simp; done) | (simp; omega)) _) | (refine Below.setCell ?_ (by first | omega | (simp; done) | (simp; omega)) _)))) hb
    have z0 : w.heap.size < w1.heap.size := by have := hb.size; first | omega | (simp at this; omega)
    have z1 : w.heap.size + 1 < w1.heap.size := by have := hb.size; first | omega | (simp at this; omega)
    have z2 : w.heap.size + 1 + 1 < w1.heap.size := by have := hb.size; first | omega | (simp at this; omega)
    go_wp2_with fail
    refine ⟨.int .i64 x, by simp [results, Try.results26, go_sem, hbc], ret_int H.out.symm, ?_⟩
    exact hbn.setCell (by simp; omega) _
end Go.Proofs.Ytdabndoojkdicaa
