/- stamp.Last: the place of the latest stamp. No condition. -/
import Derived.Test.YtfbpjhhcpockfaaStamp
set_option linter.unusedVariables false
set_option linter.unusedSimpArgs false
namespace Go.Proofs.Ytfbpjhhcpockfaa
open Go.RowKit
attribute [local go_sem] gives Gives

abbrev St := Int × Int
def stCells (L : List St) : List Value := (L.map fun s => [Value.int .i64 s.1, Value.int .i64 s.2]).flatten
theorem stCells_at : ∀ (L : List St) (i : Nat) (s : St), L[i]? = some s → (stCells L)[i * 2]? = some (.int .i64 s.1) ∧ (stCells L)[i * 2 + 1]? = some (.int .i64 s.2)
  | [], _, _, h => by simp at h
  | t :: L, 0, s, h => by
    simp at h
    subst h
    exact ⟨rfl, rfl⟩
  | t :: L, i + 1, s, h => by
    have := stCells_at L i s (by simpa using h)
    rw [show (i + 1) * 2 = i * 2 + 1 + 1 by omega]
    exact this
/-- A row of stamps that is read. -/
def RdSt (w : World) (A : Option Addr) (n : Nat) (L : List St) : Prop := L.length = n ∧ Rd w A n 2 (stCells L)
theorem RdSt.below {w w1 : World} {A : Option Addr} {n : Nat} {L : List St} (h : RdSt w A n L) (hb : Below w.heap.size w w1) : RdSt w1 A n L := ⟨h.1, h.2.below hb⟩
theorem RdSt.at_ {w : World} {A : Option Addr} {k : Nat} {L : List St} (h : RdSt w A k L) (i : Nat) (s : St) (hi : L[i]? = some s) :
    ∃ b o, A = some ⟨b, o, none⟩ ∧ b < w.heap.size ∧ w.cell? ⟨b, o + i * 2, none⟩ = some (.int .i64 s.1) ∧ w.cell? ⟨b, o + i * 2 + 1, none⟩ = some (.int .i64 s.2) := by
  have h1 := stCells_at L i s hi
  have hne : stCells L ≠ [] := fun e => by have := h1.1; rw [e] at this; simp at this
  obtain ⟨b, o, hA, hc⟩ := h.2.at_ hne
  have c0 := hc _ _ h1.1
  have c1 := hc _ _ h1.2
  rw [← Nat.add_assoc] at c1
  exact ⟨b, o, hA, World.block_lt_of_cell? w _ c0, c0, c1⟩
def ltS (s t : St) : Bool := lessS s.1 s.2 t.1 t.2
def laterAt (L : List St) (k : Int) (s : St) : Bool := match L[k.toNat]? with | some t => ltS t s | none => false
/-- The place of the latest of the first i. -/
def lastUpTo (L : List St) : Nat → Int
  | 0 => -1
  | i + 1 => match L[i]? with
    | some s => if lastUpTo L i < 0 ∨ laterAt L (lastUpTo L i) s = true then (i : Int) else lastUpTo L i
    | none => lastUpTo L i
theorem lastUpTo_range (L : List St) : ∀ i, -1 ≤ lastUpTo L i ∧ lastUpTo L i < i ∧ (0 ≤ lastUpTo L i → (lastUpTo L i).toNat < L.length)
  | 0 => by simp [lastUpTo]
  | i + 1 => by
    have ih := lastUpTo_range L i
    unfold lastUpTo
    split
    · rename_i s hs
      have hl := (List.getElem?_eq_some_iff.1 hs).1
      split
      · refine ⟨by omega, by omega, fun _ => by simpa using hl⟩
      · exact ⟨ih.1, by omega, ih.2.2⟩
    · exact ⟨ih.1, by omega, ih.2.2⟩
def lastS (L : List St) : Int := lastUpTo L L.length
set_option maxHeartbeats 2000000 in
theorem last_any (A : Option Addr) (n c : Nat) (L : List St) (w : World) (hR : RdSt w A n L) (hbig : n ≤ 1000000000) :
    Calls Try.prog 28 #[.slice A n c] w fun e w' => e = .returned (.int .i64 (lastS L)) ∧ Below w.heap.size w w' := by
  have HR := Lib.hid hR
  have HL := Lib.hid hR.1
  clear hR
  go_enter Try.func28, Try.ntmps28
  go_wp2_with fail
  go_loopw [3, 8] (fun l i wr => ∃ j : Nat, j ≤ n ∧ i = .int .i64 j ∧ l = .int .i64 (lastUpTo L j) ∧ Below w.heap.size w wr) (fun _ i _ => n - (intOf i).toNat)
  case atStart => exact ⟨0, by omega, rfl, rfl, Below.refl _ _⟩
  case round =>
    obtain ⟨j, hj, rfl, rfl, hbr⟩ := hrel
    by_cases hjn : j < n
    · obtain ⟨x, hx⟩ : ∃ x, L[j]? = some x := ⟨L[j]'(by rw [HL.out]; exact hjn), List.getElem?_eq_getElem _⟩
      obtain ⟨b, o, hA, hlt, hc0, hc1⟩ := (HR.out.below hbr).at_ j x hx
      subst hA
      obtain ⟨x0, x1⟩ := x
      dsimp only at hc0 hc1
      have hnext : lastUpTo L (j + 1) = if lastUpTo L j < 0 ∨ laterAt L (lastUpTo L j) (x0, x1) = true then (j : Int) else lastUpTo L j := by
        rw [lastUpTo, hx]
      have hrg := lastUpTo_range L j
      generalize hl : lastUpTo L j = l at *
      obtain ⟨W, hW⟩ : ∃ W, W = wr.alloc (.cells #[.int .i64 x0, .int .i64 x1] 73) := ⟨_, rfl⟩
      have hWb : Below wr.heap.size wr W := by rw [hW]; exact (Below.refl _ _).alloc (Nat.le_refl _) _
      have hbW := below_next hbr hWb
      have HBW := Lib.hid hbW
      have HN := Lib.hid hnext
      have hcW : ∀ b' i, b' < wr.heap.size → W.cell? ⟨b', i, none⟩ = wr.cell? ⟨b', i, none⟩ := fun b' i h => hWb.cell (p := ⟨b', i, none⟩) h
      have hX : At W wr.heap.size [.int .i64 x0, .int .i64 x1] := by rw [hW]; exact At.new _ _ _
      by_cases hneg : l < 0
      · have hd : decide (l < 0) = true := by simpa using hneg
        rw [if_pos (.inl hneg)] at hnext
        have HN := Lib.hid hnext
        clear hnext hl hrg hx hbr hWb hbW hcW hX
        go_upto_region 5 with (fail)
        rw [← hW]
        go_quiet (fail)
        have HB2 := Lib.hid (below_drewN HBW.out nq)
        clear hW
        go_wp2_with fail
        go_roundw
        case measure => simp [intOf]; omega
        case rel => exact ⟨j + 1, by omega, by go_num, by rw [HN.out], HB2.out⟩
      · obtain ⟨q, hq⟩ : ∃ q : Nat, l = (q : Int) := ⟨l.toNat, by omega⟩
        obtain ⟨hr1, hr2, hr3⟩ := hrg
        subst hq
        have hqL : q < L.length := by have := hr3 (by omega); simpa using this
        obtain ⟨⟨t0, t1⟩, ht⟩ : ∃ t, L[q]? = some t := ⟨L[q], List.getElem?_eq_getElem hqL⟩
        obtain ⟨b', o', hA', hlt', hd0, hd1⟩ := (HR.out.below hbr).at_ q (t0, t1) ht
        injection hA' with hA'
        injection hA' with e1 e2
        subst e1 e2
        dsimp only at hd0 hd1
        have hla : laterAt L (q : Int) (x0, x1) = lessS t0 t1 x0 x1 := by unfold laterAt ltS; simp [ht]
        rw [hla] at hnext
        obtain ⟨lt, hlt2⟩ : ∃ t, t = lessS t0 t1 x0 x1 := ⟨_, rfl⟩
        rw [← hlt2] at hnext
        have HC := Lib.hid (fun W => less_any t0 t1 x0 x1 W)
        rw [← hlt2] at HC
        have hqn : q < n := by have := HL.out; omega
        have c0 := (hcW b (o + q * 2) hlt).trans hd0
        have c1 := (hcW b (o + q * 2 + 1) hlt).trans hd1
        have i0 : (0 : Int) ≤ (q : Int) := by omega
        have i1 : (q : Int) < (n : Int) := by omega
        have hbW2 : b < W.heap.size := Nat.lt_of_lt_of_le hlt hWb.size
        have hz : wr.heap.size < W.heap.size := by rw [hW]; simp
        have xx0 := hX.cell 0 rfl
        have xx1 := hX.cell 1 rfl
        have hnext' : lastUpTo L (j + 1) = if lt = true then (j : Int) else (q : Int) := by
          rw [hnext]
          cases lt <;> simp
          intro h; omega
        have HN := Lib.hid hnext'
        clear hnext hnext' hla hlt2 hl hr1 hr2 hr3 ht hx hbr hWb hbW hcW hX hqL
        go_upto_region 5 with (fail)
        rw [← hW]
        clear hW hc0 hc1 hd0 hd1 hneg
        have hd : decide ((q : Int) < 0) = false := by simp
        have hrc := regrown_cell W
        refine wp_region_quiet_below (by kernel_rfl) (by kernel_rfl) ?_
        repeat (any_goals (first | go_big_quiet_step ((go_at_call 51; exact Calls.regrown_of (HC.out _))) | quiet_step ((go_at_call 51; exact Calls.regrown_of (HC.out _)))))
        refine wpQuiet_nil ?_
        intro _ hw'
        obtain ⟨⟨dq, osq⟩, hw''⟩ := hw'
        subst hw''
        have HB2 := Lib.hid (below_next HBW.out (below_regrown W dq osq))
        clear hrc c0 c1 xx0 xx1
        cases lt
        all_goals
          go_wp2_with fail
          go_roundw
          case measure => simp [intOf]; omega
          case rel => exact ⟨j + 1, by omega, by go_num, by rw [HN.out]; rfl, HB2.out⟩
    · have hjn' : j = n := by omega
      subst hjn'
      have hne : ¬ (j : Int) < (j : Int) := by omega
      have e : lastS L = lastUpTo L j := by unfold lastS; rw [HL.out]
      have HE := Lib.hid e
      clear e
      go_wp2_with fail
      go_ret
      exact ⟨ret_int HE.out.symm, hbr⟩
end Go.Proofs.Ytfbpjhhcpockfaa
