/- slices.Sort and slices.Compact of a row of strings that the call owns. No condition. -/
import Derived.Test.YtfbpjhhcpockfaaSorted
import Derived.Lib.RowBridge
set_option linter.unusedVariables false
set_option linter.unusedSimpArgs false
namespace Go.Proofs.Ytfbpjhhcpockfaa
open Go.RowKit Go.Shelf Go.Maps

theorem strV_enc : strV = encStr := rfl
def leS (x y : Str) : Bool := decide (x ≤ y)
def cutV : Value → Nat → Value
  | .slice a _ c, m => .slice a m c
  | v, _ => v
theorem cutV_block (v : Value) (m : Nat) : (cutV v m).ownBlock = v.ownBlock := by
  cases v with
  | slice a n c => cases a <;> rfl
  | _ => rfl
theorem compact_len (zs : List Str) : (Lib.compact zs).length ≤ zs.length := Lib.compact_length_le zs
theorem sortStr_any (base : Nat) (v : Value) (zs : List Str) (w : World) (hO : w.ownsRow base 9 1 v zs.length (zs.map strV)) (hbig : zs.length ≤ 1000000000) :
    Calls Try.prog 33 #[v] w fun e w' => e = .returned (.tuple #[]) ∧ w'.ownsRow base 9 1 v zs.length ((zs.mergeSort leS).map strV) ∧ Kept (fun i => v.ownBlock = some i) w w' := by
  by_cases h0 : zs = []
  · subst h0
    obtain ⟨A, c, rfl, _, _⟩ := Rd.own hO
    refine (Any.slices_Sort_string_none Try.lays190 A c w).mono ?_
    rintro e w' ⟨rfl, rfl⟩
    exact ⟨rfl, by simpa using hO, Kept.refl _ _⟩
  · have hp : 0 < zs.length := List.length_pos_iff.2 h0
    rcases hO.2 with ⟨_, h⟩ | ⟨g, cap, cur, rfl, hbg, hg, hnc, hcm, hcs, htk⟩
    · omega
    have hH : Go.Sort.Holds encStr w g 0 zs.toArray := holds_of encStr hg (by simpa [strV_enc] using htk)
    refine Calls.mono (Any.slices_Sort_string Try.lays190 g 0 cap zs w hH (Array.getElem?_eq_some_iff.1 hg).1 (by omega)) ?_
    rintro e w' ⟨rfl, n, os, rfl⟩
    refine ⟨rfl, ?_, ?_⟩
    · exact own_put encStr (ts := zs.mergeSort fun x y => decide (x ≤ y)) (by simp) hbg hg hnc hcm hcs
    · exact Kept.of_grown (grown_put encStr _) (fun i _ e => e)
theorem compact_any (base : Nat) (v : Value) (zs : List Str) (w : World) (hO : w.ownsRow base 9 1 v zs.length (zs.map strV)) (hbig : zs.length ≤ 1000000000) :
    Calls Try.prog 34 #[v] w fun e w' => e = .returned (cutV v (Lib.compact zs).length) ∧ w'.ownsRow base 9 1 (cutV v (Lib.compact zs).length) (Lib.compact zs).length ((Lib.compact zs).map strV) ∧ Kept (fun i => v.ownBlock = some i) w w' := by
  by_cases h0 : zs = []
  · subst h0
    obtain ⟨A, c, rfl, _, _⟩ := Rd.own hO
    refine (Any.slices_Compact_string_empty Try.lays194 A c w).mono ?_
    rintro e w' ⟨rfl, rfl⟩
    exact ⟨rfl, hO, Kept.refl _ _⟩
  · have hp : 0 < zs.length := List.length_pos_iff.2 h0
    rcases hO.2 with ⟨_, h⟩ | ⟨g, cap, cur, rfl, hbg, hg, hnc, hcm, hcs, htk⟩
    · omega
    have hH : Go.Sort.Holds encStr w g 0 zs.toArray := holds_of encStr hg (by simpa [strV_enc] using htk)
    refine Calls.mono (Any.slices_Compact_string Try.lays194 g 0 cap zs w hH (by omega) hnc) ?_
    rintro e w' ⟨rfl, q, rfl⟩
    have hcl := compact_len zs
    obtain ⟨ts, hts⟩ : ∃ ts, ts = Lib.compact zs ++ List.replicate (zs.length - (Lib.compact zs).length) ([] : Str) := ⟨_, rfl⟩
    have htl : ts.length = zs.length := by rw [hts]; simp; omega
    rw [← hts]
    have hown := own_put encStr (w := w) (base := base) (g := g) (cap := cap) (n := q) (k := zs.length) (os := #[]) (ts := ts) htl hbg hg hnc hcm hcs
    rw [Go.Sort.grow_empty] at hown
    refine ⟨rfl, ?_, ?_⟩
    · rcases hown.2 with ⟨h, _⟩ | ⟨g', cap', cur', h, h1, h2, h3, h4, h5, h6⟩
      · cases h
      · cases h
        refine ⟨by simp, .inr ⟨g, cap, cur', rfl, h1, h2, by omega, h4, h5, ?_⟩⟩
        have : cur'.toList.take ((Lib.compact zs).length * 1) = (cur'.toList.take (zs.length * 1)).take ((Lib.compact zs).length * 1) := by rw [List.take_take]; congr 1; omega
        rw [this, h6, hts, List.map_append, List.take_left' (by simp)]
        rfl
    · have := grown_put encStr (w := w) (g := g) (n := q) (os := #[]) ts.toArray
      rw [Go.Sort.grow_empty] at this
      exact Kept.of_grown this (fun i _ e => e)
end Go.Proofs.Ytfbpjhhcpockfaa
