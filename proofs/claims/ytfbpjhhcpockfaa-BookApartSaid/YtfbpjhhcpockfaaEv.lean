/- Events as plain structures; clock.Has, event.Below, book's sameKey, sameLabel, sameValue by what they give. No condition. -/
import Derived.Test.YtfbpjhhcpockfaaWords
import Derived.Test.YtfbpjhhcpockfaaCells
set_option linter.unusedVariables false
set_option linter.unusedSimpArgs false
namespace Go.Proofs.Ytfbpjhhcpockfaa
open Go.RowKit

/-- An event. -/
structure Ev where
  r : Int
  n : Int
  c0 : Int
  c1 : Int
  c2 : Int
  c3 : Int
  c4 : Int
  height : Int
  kind : Int
  key : ByteArray
  label : Int
  value : ByteArray
instance : Inhabited Ev := ⟨⟨0, 0, 0, 0, 0, 0, 0, 0, 0, ⟨#[]⟩, 0, ⟨#[]⟩⟩⟩
def Ev.cells (e : Ev) : List Value := [.int .i64 e.r, .int .i64 e.n, .int .i64 e.c0, .int .i64 e.c1, .int .i64 e.c2, .int .i64 e.c3, .int .i64 e.c4, .int .i64 e.height, .int .i64 e.kind, .string e.key, .int .i64 e.label, .string e.value]
def Ev.v (e : Ev) : Value := .agg e.cells.toArray
theorem Ev.cells_length (e : Ev) : e.cells.length = 12 := rfl
/-- A clock's place. -/
def pickC (c0 c1 c2 c3 c4 r : Int) : Int := if r = 0 then c0 else if r = 1 then c1 else if r = 2 then c2 else if r = 3 then c3 else c4
def hasB (c0 c1 c2 c3 c4 r n : Int) : Bool := decide (0 ≤ r) && decide (r < 5) && decide (0 < n) && decide (n ≤ pickC c0 c1 c2 c3 c4 r)
/-- a was seen where b was made. -/
def Ev.below (a b : Ev) : Bool := hasB b.c0 b.c1 b.c2 b.c3 b.c4 a.r a.n
def Ev.sameKey (a b : Ev) : Bool := a.key.toList == b.key.toList
def Ev.sameLabel (a b : Ev) : Bool := a.sameKey b && (a.label == b.label)
def Ev.sameValue (a b : Ev) : Bool := a.sameLabel b && (a.value.toList == b.value.toList)

theorem is_any (r : Int) (w : World) : Calls Try.prog 76 #[.int .i64 r] w fun e w' => e = .returned (.bool (decide (0 ≤ r) && decide (r < 5))) ∧ w = w' := by
  go_enter Try.func76, Try.ntmps76
  go_wp2
  all_goals (go_ret; refine ⟨ret_bool ?_, rfl⟩; simp; omega)
theorem has_any (c0 c1 c2 c3 c4 r n : Int) (w : World) : Calls Try.prog 60 #[.agg #[.int .i64 c0, .int .i64 c1, .int .i64 c2, .int .i64 c3, .int .i64 c4], .int .i64 r, .int .i64 n] w fun e w' => e = .returned (.bool (hasB c0 c1 c2 c3 c4 r n)) ∧ Below w.heap.size w w' := by
  by_cases h : 0 ≤ r ∧ r < 5
  · have hi : (decide (0 ≤ r) && decide (r < 5)) = true := by simp; omega
    by_cases hn : 0 < n
    · have hr : r = 0 ∨ r = 1 ∨ r = 2 ∨ r = 3 ∨ r = 4 := by omega
      have hb : hasB c0 c1 c2 c3 c4 r n = decide (n ≤ pickC c0 c1 c2 c3 c4 r) := by unfold hasB; rw [hi]; simp [hn]
      rw [hb]
      clear hb h
      rcases hr with rfl | rfl | rfl | rfl | rfl
      all_goals
        clear hi
        go_enter Try.func60, Try.ntmps60
        go_wp2_with fail
        refine (is_any _ _).mono ?_
        rintro e w' ⟨rfl, rfl⟩
        go_wp2_with fail
        go_ret
        exact ⟨ret_bool (by simp [pickC]), (by (repeat (first | exact Below.refl _ _ | assumption | (refine Below.drew ?_) | (refine below_drewN ?_ _) | (refine Below.alloc ?_ (by first | omega | (simp; done) | (simp; omega)) _) | (refine Below.setCell ?_ (by first | omega | (simp; done) | (simp; omega)) _))))⟩
    · have hb : hasB c0 c1 c2 c3 c4 r n = false := by unfold hasB; simp [hn]
      rw [hb]
      have HI := Lib.hid hi
      clear hi hb h
      go_enter Try.func60, Try.ntmps60
      go_wp2_with fail
      refine (is_any _ _).mono ?_
      rintro e w' ⟨rfl, rfl⟩
      rw [HI.out]
      go_wp2_with fail
      go_ret
      exact ⟨rfl, (by (repeat (first | exact Below.refl _ _ | assumption | (refine Below.drew ?_) | (refine below_drewN ?_ _) | (refine Below.alloc ?_ (by first | omega | (simp; done) | (simp; omega)) _) | (refine Below.setCell ?_ (by first | omega | (simp; done) | (simp; omega)) _))))⟩
  · have hi : (decide (0 ≤ r) && decide (r < 5)) = false := by simp; omega
    have hb : hasB c0 c1 c2 c3 c4 r n = false := by unfold hasB; rw [hi]; simp
    rw [hb]
    have HI := Lib.hid hi
    clear hi hb h
    go_enter Try.func60, Try.ntmps60
    go_wp2_with fail
    refine (is_any _ _).mono ?_
    rintro e w' ⟨rfl, rfl⟩
    rw [HI.out]
    go_wp2_with fail
    go_ret
    exact ⟨rfl, (by (repeat (first | exact Below.refl _ _ | assumption | (refine Below.drew ?_) | (refine below_drewN ?_ _) | (refine Below.alloc ?_ (by first | omega | (simp; done) | (simp; omega)) _) | (refine Below.setCell ?_ (by first | omega | (simp; done) | (simp; omega)) _))))⟩
theorem below_any (a b : Ev) (w : World) : Calls Try.prog 50 #[a.v, b.v] w fun e w' => e = .returned (.bool (a.below b)) ∧ Below w.heap.size w w' := by
  obtain ⟨r, n, c0, c1, c2, c3, c4, hh, k, key, lab, val⟩ := a
  obtain ⟨r', n', d0, d1, d2, d3, d4, hh', k', key', lab', val'⟩ := b
  unfold Ev.v Ev.cells Ev.below
  dsimp only
  go_enter Try.func50, Try.ntmps50
  go_wp2_with fail
  refine (has_any _ _ _ _ _ _ _ _).mono ?_
  rintro e w1 ⟨rfl, hb⟩
  obtain ⟨hbc, hbf⟩ := bcell hb
  go_wp2_with fail
  go_ret
  exact ⟨rfl, (((Below.refl _ _).alloc (Nat.le_refl _) _).alloc (by simp) _).trans (hb.mono (by simp; omega))⟩
theorem sameKey_any (a b : Ev) (w : World) : Calls Try.prog 43 #[a.v, b.v] w fun e w' => e = .returned (.bool (a.sameKey b)) ∧ Below w.heap.size w w' := by
  obtain ⟨r, n, c0, c1, c2, c3, c4, hh, k, key, lab, val⟩ := a
  obtain ⟨r', n', d0, d1, d2, d3, d4, hh', k', key', lab', val'⟩ := b
  unfold Ev.v Ev.cells Ev.sameKey
  dsimp only
  go_enter Try.func43, Try.ntmps43
  go_wp2
  go_ret
  exact ⟨rfl, ((Below.refl _ _).alloc (Nat.le_refl _) _).alloc (by simp) _⟩
theorem sameLabel_any (a b : Ev) (w : World) : Calls Try.prog 36 #[a.v, b.v] w fun e w' => e = .returned (.bool (a.sameLabel b)) ∧ Below w.heap.size w w' := by
  have H := Lib.hid (fun W => sameKey_any a b W)
  have hd : a.sameLabel b = (a.sameKey b && (a.label == b.label)) := rfl
  rw [hd]
  clear hd
  generalize a.sameKey b = s at *
  obtain ⟨r, n, c0, c1, c2, c3, c4, hh, k, key, lab, val⟩ := a
  obtain ⟨r', n', d0, d1, d2, d3, d4, hh', k', key', lab', val'⟩ := b
  unfold Ev.v Ev.cells at *
  (try dsimp only at *)
  go_enter Try.func36, Try.ntmps36
  go_wp2_with fail
  refine (H.out _).mono ?_
  rintro e w1 ⟨rfl, hb⟩
  have hcc := fun i => hb.cell (p := ⟨w.heap.size, i, none⟩) (by simp; omega)
  have hcd := fun i => hb.cell (p := ⟨w.heap.size + 1, i, none⟩) (by simp)
  have hB := Lib.hid ((((Below.refl w.heap.size w).alloc (Nat.le_refl _) _).alloc (by simp) _).trans (hb.mono (by simp; omega)))
  clear hb H
  cases s
  all_goals
    go_wp2_with fail
    go_ret
    exact ⟨ret_bool (by simp), hB.out⟩
theorem sameValue_any (a b : Ev) (w : World) : Calls Try.prog 37 #[a.v, b.v] w fun e w' => e = .returned (.bool (a.sameValue b)) ∧ Below w.heap.size w w' := by
  have H := Lib.hid (fun W => sameLabel_any a b W)
  have hd : a.sameValue b = (a.sameLabel b && (a.value.toList == b.value.toList)) := rfl
  rw [hd]
  clear hd
  generalize a.sameLabel b = s at *
  obtain ⟨r, n, c0, c1, c2, c3, c4, hh, k, key, lab, val⟩ := a
  obtain ⟨r', n', d0, d1, d2, d3, d4, hh', k', key', lab', val'⟩ := b
  unfold Ev.v Ev.cells at *
  (try dsimp only at *)
  go_enter Try.func37, Try.ntmps37
  go_wp2_with fail
  refine (H.out _).mono ?_
  rintro e w1 ⟨rfl, hb⟩
  have hcc := fun i => hb.cell (p := ⟨w.heap.size, i, none⟩) (by simp; omega)
  have hcd := fun i => hb.cell (p := ⟨w.heap.size + 1, i, none⟩) (by simp)
  have hB := Lib.hid ((((Below.refl w.heap.size w).alloc (Nat.le_refl _) _).alloc (by simp) _).trans (hb.mono (by simp; omega)))
  clear hb H
  cases s
  all_goals
    go_wp2_with fail
    go_ret
    exact ⟨ret_bool (by simp), hB.out⟩
end Go.Proofs.Ytfbpjhhcpockfaa
