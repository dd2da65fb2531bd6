/- The functions of package edit, and those of package slices that it calls, answer what plain functions say; they lay new blocks alone. Conditions: a text's length is an int; slices are read as Cons tells. -/
import Derived.Test.YtdabndoojkdicaaTextRef
import Derived.Test.YtdabndoojkdicaaCons
import Derived.Defers
set_option linter.unusedVariables false
set_option linter.unusedSimpArgs false
namespace Go.Proofs.Ytdabndoojkdicaa
open Go.RowKit

def sameS (v : ByteArray) (s : ByteArray) : Bool := v.toList == s.toList
def sameK (key : ByteArray) (c : Con) : Bool := c.key.toList == key.toList

set_option maxHeartbeats 400000 in
theorem index_any (A : Option Addr) (n c : Nat) (l : List ByteArray) (v : ByteArray) (w : World) (hR : Rd w A n 1 (strs l)) :
    Calls Try.prog 34 #[.slice A n c, .string v] w fun e w' => e = .returned (.int .i64 (ixOf (sameS v) l)) ∧ w = w' := by
  have hl : l.length = n := by have := hR.1; simpa [strs] using this
  have hm := hR.2.1
  go_enter Try.func34, Try.ntmps34
  go_wp2
  go_loop [8] (fun i => ∃ k : Nat, k ≤ n ∧ i = .int .i64 k ∧ ∀ j y, j < k → l[j]? = some y → sameS v y = false) (fun i => n - (intOf i).toNat)
  case atStart => exact ⟨0, by omega, rfl, fun j y hj => by omega⟩
  case round =>
    obtain ⟨k, hk, rfl, hall⟩ := hrel
    have HA := Lib.hid hall
    clear hall
    by_cases hlt : k < n
    · obtain ⟨x, hx⟩ : ∃ x, l[k]? = some x := ⟨l[k], List.getElem?_eq_getElem (by omega)⟩
      have hs : (strs l)[k]? = some (.string x) := by simp [strs, hx]
      obtain ⟨b, o, hA, hc⟩ := hR.2.2 (fun e => by rw [e] at hs; simp at hs)
      subst hA
      have hcell := hc k _ hs
      have hk' : (k : Int) < (n : Int) := by omega
      have HX := Lib.hid hx
      clear hx hs hc hR
      by_cases hp : sameS v x = true
      · have hp' : (v.toList == x.toList) = true := hp
        have H := Lib.hid (ix_hit HX.out hp HA.out)
        clear hp
        go_wp2
        go_ret
        exact ⟨ret_int H.out.symm, rfl⟩
      · have hp' : (v.toList == x.toList) = false := by simpa [sameS] using hp
        have HP := Lib.hid (show sameS v x = false from hp')
        clear hp
        go_wp2
        go_round
        case rel =>
          refine ⟨k + 1, by omega, by go_num, fun j y hj hy => ?_⟩
          rcases Nat.lt_or_ge j k with h | h
          · exact HA.out j y h hy
          · obtain rfl : j = k := by omega
            rw [HX.out] at hy
            cases hy
            exact HP.out
        case measure => simp [intOf]; omega
    · have H := Lib.hid (ix_miss (p := sameS v) (L := l) fun j y hy => HA.out j y (by have := (List.getElem?_eq_some_iff.1 hy).1; omega) hy)
      have hk' : ¬ (k : Int) < (n : Int) := by omega
      go_wp2
      go_ret
      exact ⟨ret_int H.out.symm, rfl⟩

theorem contains_any (A : Option Addr) (n c : Nat) (l : List ByteArray) (v : ByteArray) (w : World) (hR : Rd w A n 1 (strs l)) :
    Calls Try.prog 32 #[.slice A n c, .string v] w fun e w' => e = .returned (.bool (l.any (sameS v))) ∧ w = w' := by
  have H : Hid (decide (0 ≤ ixOf (sameS v) l) = l.any (sameS v)) := by
    show _ = _
    rcases ix_cases (sameS v) l with ⟨k, x, hx, hp, _, e, _⟩ | ⟨h, e, _⟩
    · rw [e]
      have : l.any (sameS v) = true := List.any_eq_true.2 ⟨x, List.mem_of_getElem? hx, hp⟩
      rw [this]
      simp
    · rw [e]
      have : l.any (sameS v) = false := by rw [List.any_eq_false]; intro x hx; rw [h x hx]; decide
      rw [this]
      rfl
  go_enter Try.func32, Try.ntmps32
  go_wp2_with fail
  refine (index_any _ _ _ l _ _ hR).mono ?_
  rintro e w' ⟨rfl, rfl⟩
  go_wp2_with fail
  go_ret
  exact ⟨ret_bool H.out, rfl⟩

def createE (cL many : Int) (there : Bool) : Int := if there = true then 13 else if cL ≤ many then 15 else 0
theorem create_any (cN cW cQ cH cL cP many : Int) (there : Bool) (w : World) :
    Calls Try.prog 31 #[.agg #[.int .i64 cN, .int .i64 cW, .int .i64 cQ, .int .i64 cH, .int .i64 cL, .int .i64 cP], .int .i64 many, .bool there] w fun e w' =>
      e = .returned (.int .i64 (createE cL many there)) ∧ Below w.heap.size w w' := by
  cases there
  · by_cases h : cL ≤ many
    · have H := Lib.hid (show (15 : Int) = createE cL many false by unfold createE; rw [if_neg (by decide), if_pos h])
      go_enter Try.func31, Try.ntmps31
      go_wp2
      go_ret
      exact ⟨ret_int H.out, (by (repeat (first | exact Below.refl _ _ | assumption | (refine Below.drew ?_) | (refine below_drewN ?_ _) | (refine Below.alloc ?_ (by first | omega | (simp; done) | (simp; omega)) _) | (refine Below.setCell ?_ (by first | omega | (simp; done) | (simp; omega)) _))))⟩
    · have H := Lib.hid (show (0 : Int) = createE cL many false by unfold createE; rw [if_neg (by decide), if_neg h])
      go_enter Try.func31, Try.ntmps31
      go_wp2
      go_ret
      exact ⟨ret_int H.out, (by (repeat (first | exact Below.refl _ _ | assumption | (refine Below.drew ?_) | (refine below_drewN ?_ _) | (refine Below.alloc ?_ (by first | omega | (simp; done) | (simp; omega)) _) | (refine Below.setCell ?_ (by first | omega | (simp; done) | (simp; omega)) _))))⟩
  · go_enter Try.func31, Try.ntmps31
    go_wp2
    go_ret
    exact ⟨rfl, (by (repeat (first | exact Below.refl _ _ | assumption | (refine Below.drew ?_) | (refine below_drewN ?_ _) | (refine Below.alloc ?_ (by first | omega | (simp; done) | (simp; omega)) _) | (refine Below.setCell ?_ (by first | omega | (simp; done) | (simp; omega)) _))))⟩

/-- What IndexFunc is handed: has this contact that key? -/
theorem lit1_any (x : Con) (A0 A1 : Option Addr) (n0 c0 n1 c1 b : Nat) (key : ByteArray) (w : World) (hk : w.cell? ⟨b, 1, none⟩ = some (.string key)) (hb : b < w.heap.size) :
    Calls Try.prog 30 #[.agg #[.string x.key, .bool x.h0, .bool x.h1, .string x.f0, .string x.f1, .slice A0 n0 c0, .slice A1 n1 c1], .pointer (some ⟨b, 0, none⟩)] w fun e w' => e = .returned (.bool (sameK key x)) ∧ Below w.heap.size w w' := by
  go_enter Try.func30, Try.ntmps30
  go_wp2
  go_ret
  exact ⟨rfl, (by (repeat (first | exact Below.refl _ _ | assumption | (refine Below.drew ?_) | (refine below_drewN ?_ _) | (refine Below.alloc ?_ (by first | omega | (simp; done) | (simp; omega)) _) | (refine Below.setCell ?_ (by first | omega | (simp; done) | (simp; omega)) _))))⟩

set_option maxHeartbeats 1000000 in
theorem indexFunc_any (A : Option Addr) (n c : Nat) (L : List Con) (b : Nat) (key : ByteArray) (w : World) (hR : RdCons w A n L) (hk : w.cell? ⟨b, 1, none⟩ = some (.string key)) (hb : b < w.heap.size) :
    Calls Try.prog 29 #[.slice A n c, .func (.func 30) #[] #[.pointer (some ⟨b, 0, none⟩)]] w fun e w' => e = .returned (.int .i64 (ixOf (sameK key) L)) ∧ Below w.heap.size w w' := by
  have hl := hR.length
  have hm := hR.le
  go_enter Try.func29, Try.ntmps29
  go_wp2
  go_loopw [8] (fun i wr => ∃ k : Nat, k ≤ n ∧ i = .int .i64 k ∧ (∀ j y, j < k → L[j]? = some y → sameK key y = false) ∧ Below w.heap.size w wr) (fun i _ => n - (intOf i).toNat)
  case atStart => exact ⟨0, by omega, rfl, fun j y hj => by omega, Below.refl _ _⟩
  case round =>
    obtain ⟨k, hk', rfl, hall, hbr⟩ := hrel
    have HA := Lib.hid hall
    clear hall
    by_cases hlt : k < n
    · obtain ⟨x, hx⟩ : ∃ x, L[k]? = some x := ⟨L[k], List.getElem?_eq_getElem (by omega)⟩
      have HX := Lib.hid hx
      obtain ⟨b2, o2, A0, n0, c0, A1, n1, c1, hA, hb2, g0, g1, g2, g3, g4, g5, g6, r0, k0, r1, k1⟩ := (hR.below hbr).at_ k x hx
      subst hA
      have hkr : wr.cell? ⟨b, 1, none⟩ = some (.string key) := by rw [hbr.cell (p := ⟨b, 1, none⟩) hb]; exact hk
      have hbr' : b < wr.heap.size := Nat.lt_of_lt_of_le hb hbr.size
      have hk2 : (k : Int) < (n : Int) := by omega
      have HL := Lib.hid (lit1_any x A0 A1 n0 c0 n1 c1 b key wr hkr hbr')
      have HR := Lib.hid hR
      clear hx hR r0 r1 hk hkr
      go_wp2_with fail
      refine HL.out.mono ?_
      rintro e w2 ⟨rfl, hb3⟩
      have hbn := below_next hbr hb3
      cases hp : sameK key x
      · have HP := Lib.hid hp
        clear hp
        go_wp2_with fail
        go_roundw
        case rel =>
          refine ⟨k + 1, by omega, by go_num, fun j y hj hy => ?_, hbn⟩
          rcases Nat.lt_or_ge j k with h | h
          · exact HA.out j y h hy
          · obtain rfl : j = k := by omega
            rw [HX.out] at hy
            cases hy
            exact HP.out
        case measure => simp [intOf]; omega
      · have H := Lib.hid (ix_hit HX.out hp HA.out)
        clear hp
        go_wp2_with fail
        go_ret
        exact ⟨ret_int H.out.symm, hbn⟩
    · have H := Lib.hid (ix_miss (p := sameK key) (L := L) fun j y hy => HA.out j y (by have := (List.getElem?_eq_some_iff.1 hy).1; omega) hy)
      have hk2 : ¬ (k : Int) < (n : Int) := by omega
      go_wp2
      go_ret
      exact ⟨ret_int H.out.symm, hbr⟩
end Go.Proofs.Ytdabndoojkdicaa
