/- slices.Chunk of bytes, eight at a time: the function that it gives hands on each eight (and what is left) in turn. Conditions: the slice's length is an int. -/
import Derived.Test.YtdabndoojkdicaaDoorScriptPlain
import Derived.Test.YtdabndoojkdicaaDoorOrderIn
import Derived.RangeFuncNested
import Derived.RangeFuncBound
import Derived.RangeFuncCalls
import Derived.RangeFuncLeaves
import Derived.Shelf.Abstract
import Derived.Shelf.RegionOpen
import Derived.WalkKit
import Derived.OwnWalkIn
import Derived.TacticsInMore
import Derived.LoopNIn
import Derived.LoopIn
import Derived.IntWalk
import Derived.Outline
set_option linter.unusedVariables false
set_option linter.unusedSimpArgs false
namespace Go.Proofs.YtdabndoojkdicaaDoor
open Go.RowKit Go.Shelf
attribute [local go_sem] Oper.semAt_some gives Gives

theorem chunk_any (A : Option Addr) (n c : Nat) (w : World) : Calls Tryd.prog 9 #[.slice A n c, .int .i64 8] w fun e w' =>
    e = .returned (.func (.func 15) #[] #[.pointer (some ⟨w.heap.size, 0, none⟩), .pointer (some ⟨w.heap.size + 1, 0, none⟩)]) ∧ w' = (w.alloc (.cells #[.slice A n c] 22)).alloc (.cells #[.int .i64 8] 3) := by
  go_enter Tryd.func9, Tryd.ntmps9
  go_wp2
  go_ret
  exact ⟨rfl, rfl⟩

theorem info_u8 : (Tryd.prog.info? 5).map (·.size) = some 1 := by kernel_rfl
theorem run_cut3 {P : Program} (t e : TypeId) {i : TypeInfo} (ht : P.underlying t = some (.slice e)) (hi : P.info? e = some i) (h1 : i.size = 1) (A : Option Addr) (n c l x : Nat) (hx : 0 < x) (h : l + x ≤ c) (W : World) :
    (Instr.slice t (.slice A n c) (some (.int .i64 (l : Int))) (some (.int .i64 ((l : Int) + (x : Int)))) (some (.int .i64 ((l : Int) + (x : Int))))).run P W = .ok (.slice (A.map (·.add l)) x x) W := by
  have hel : P.elem t = e := by simp [Program.elem, ht]
  have hu : P.underlying t = some (.slice (P.elem t)) := by rw [hel]; exact ht
  rw [run_slice_lhm W t A n c hu .i64 .i64 .i64 (l : Int) ((l : Int) + x) ((l : Int) + x) (by omega) (by omega) (by omega) (by omega), hel]
  have e1 : ((l : Int) + (x : Int)).toNat = l + x := by omega
  have e2 : ¬ l + x = l := by omega
  simp [sizeOf, typeInfo, hi, sliced, Result.andThen, h1, e1, e2]
  omega
/-- What a round may not turn: the two boxes that the iterator reads. -/
def KpC (Bs Bn : Nat) (W W' : World) : Prop := (∀ b, b = Bs ∨ b = Bn → W'.heap[b]? = W.heap[b]?) ∧ W.heap.size ≤ W'.heap.size
theorem KpC.cell {Bs Bn : Nat} {W W' : World} (h : KpC Bs Bn W W') (b : Nat) (hb : b = Bs ∨ b = Bn) : W'.cell? ⟨b, 0, none⟩ = W.cell? ⟨b, 0, none⟩ := by simp [World.cell?, h.1 b hb]
theorem KpC.refl (Bs Bn : Nat) (W : World) : KpC Bs Bn W W := ⟨fun _ _ => rfl, Nat.le_refl _⟩
theorem KpC.trans {Bs Bn : Nat} {A B C : World} (h : KpC Bs Bn A B) (k : KpC Bs Bn B C) : KpC Bs Bn A C := ⟨fun b hb => (k.1 b hb).trans (h.1 b hb), Nat.le_trans h.2 k.2⟩
theorem KpC.of_below {Bs Bn N : Nat} {A B : World} (h : Below N A B) (hs : Bs < N) (hn : Bn < N) : KpC Bs Bn A B := ⟨fun b hb => h.block b (by rcases hb with rfl | rfl <;> assumption), h.size⟩
/-- How long the part from i on is. -/
def partLen (n k : Nat) : Nat := min 8 (n - 8 * k)
/-- The k-th part. -/
def partV (A : Option Addr) (n k : Nat) : Value := .slice (A.map (·.add (8 * k))) (partLen n k) (partLen n k)
def parts (n : Nat) : Nat := (n + 7) / 8

set_option maxHeartbeats 2000000 in
theorem chunk1_in (m : Nat) (l Bs Bn : Nat) (A : Option Addr) (n c : Nat) (hc : n ≤ c) (hn : n ≤ 9223372036854775800) (J Jx : List Nat → World → Prop) (W : World) (hJa : AbidesFrom W.heap.size J)
    (hY : ∀ pre x W, J pre W → pre.length < parts n → YieldAt Fence.wide (m - 1) Tryd.prog l #[partV A n x] W fun e W' =>
      (e = .returned (.bool true) ∧ J (pre ++ [x]) W' ∧ KpC Bs Bn W W') ∨ (e = .returned (.bool false) ∧ Jx (pre ++ [x]) W'))
    (hBs : W.cell? ⟨Bs, 0, none⟩ = some (.slice A n c)) (hBn : W.cell? ⟨Bn, 0, none⟩ = some (.int .i64 8)) (hls : Bs < W.heap.size) (hln : Bn < W.heap.size) (h0 : J [] W) :
    CallsIn Fence.wide m Tryd.prog 15 #[.func (.yield l) #[] #[], .pointer (some ⟨Bs, 0, none⟩), .pointer (some ⟨Bn, 0, none⟩)] W fun e W' => (∃ v, e = .returned v) ∧
      ((∃ ys, ys = List.range (parts n) ∧ J ys W') ∨ (∃ pre, pre <+: List.range (parts n) ∧ Jx pre W')) := by
  refine callsIn_of_wp Tryd.func15 rfl trivial ?_ rfl
  simp only [Tryd.ntmps15, List.size_toArray, List.length_cons, List.length_nil, Nat.reduceAdd, Nat.reduceSub, Array.replicate_succ, Array.replicate_zero, List.push_toArray, List.append_toArray, List.nil_append, List.cons_append]
  gi_wp2
  gi_loopw [4] (fun i wr => ∃ k : Nat, k ≤ parts n ∧ i = .int .i64 (8 * k) ∧ J (List.range k) wr ∧ KpC Bs Bn W wr) (fun i wr => parts n * 8 + 8 - (intOf i).toNat)
  case atStart => exact ⟨0, Nat.zero_le _, rfl, h0, KpC.refl _ _ _⟩
  case round =>
    obtain ⟨k, hk, rfl, hJ, hb⟩ := hrel
    have cBs := (hb.cell Bs (.inl rfl)).trans hBs
    have cBn := (hb.cell Bn (.inr rfl)).trans hBn
    have lBs : Bs < wr.heap.size := by have := hb.2; omega
    have lBn : Bn < wr.heap.size := by have := hb.2; omega
    by_cases hlt : 8 * k < n
    · have hkp : k < parts n := by unfold parts; omega
      have hlt' : 8 * (k : Int) < (n : Int) := by omega
      obtain ⟨i0, hi0⟩ : ∃ i, Tryd.prog.info? 5 = some i := ⟨_, rfl⟩
      obtain ⟨e, he⟩ : ∃ e, e = partLen n k := ⟨_, rfl⟩
      have he8 : e ≤ 8 := by rw [he]; unfold partLen; omega
      have hen : 8 * k + e ≤ n := by rw [he]; unfold partLen; omega
      obtain ⟨A', hs1, _⟩ := run_rest (P := Tryd.prog) 22 5 .i64 Tryd.underlying22 hi0 A n c (8 * k) (by omega)
      obtain ⟨L, hL⟩ : ∃ L, L = n - 8 * k := ⟨_, rfl⟩
      have hL1 : L ≤ n := by omega
      rw [← hL] at hs1
      simp only [Int.natCast_mul, Int.cast_ofNat_Int] at hs1
      have hmin : (if (L : Int) < 8 then (L : Int) else 8) = (e : Int) := by rw [he]; unfold partLen; split <;> omega
      have hs2 : ∀ W, (Instr.slice 22 (.slice A n c) (some (.int .i64 (8 * (k : Int)))) (some (.int .i64 (8 * (k : Int) + (e : Int)))) (some (.int .i64 (8 * (k : Int) + (e : Int))))).run Tryd.prog W = .ok (.slice (A.map (·.add (8 * k))) e e) W := by
        intro W
        have he1 : 0 < e := by rw [he]; unfold partLen; omega
        have := run_cut3 (P := Tryd.prog) 22 5 Tryd.underlying22 hi0 (by have := info_u8; rw [hi0] at this; simpa using this) A n c (8 * k) e he1 (by omega) W
        simp only [Int.natCast_mul, Int.cast_ofNat_Int] at this
        exact this
      have HE := Lib.hid he
      have HL := Lib.hid hL
      clear he hL hi0
      gi_wp2
      have hrc := regrown_cell wr
      refine wpIn_region_line 6 (wide_plain _) (by kernel_rfl) (by kernel_rfl) (by kernel_rfl) ?_
      apply line_fix
      case now => (intro vs w' R hG hn hR; have hR' := Lib.hid hR; clear hR hn; obtain ⟨⟨dq, osq⟩, rfl⟩ := regrown_of_below hG; clear hG; go_simp; exact hR'.out _ (Below.refl _ _))
      case hangs => exact fun _ _ _ => rfl
      case hR => exact fun _ _ => ⟨_, Below.refl _ _⟩
      (try simp only [Act.put, List.setIfInBounds_toArray, List.set_cons_zero, List.set_cons_succ])
      apply line_fix
      case now => (intro vs w' R hG hn hR; have hR' := Lib.hid hR; clear hR hn; obtain ⟨⟨dq, osq⟩, rfl⟩ := regrown_of_below hG; clear hG; go_simp; exact hR'.out _ (Below.refl _ _))
      case hangs => exact fun _ _ _ => rfl
      case hR => exact fun _ _ => ⟨_, Below.refl _ _⟩
      (try simp only [Act.put, List.setIfInBounds_toArray, List.set_cons_zero, List.set_cons_succ])
      apply line_fix
      case now => (intro vs w' R hG hn hR; have hR' := Lib.hid hR; clear hR hn; obtain ⟨⟨dq, osq⟩, rfl⟩ := regrown_of_below hG; clear hG; go_simp; exact hR'.out _ (Below.refl _ _))
      case hangs => exact fun _ _ _ => rfl
      case hR => exact fun _ _ => ⟨_, Below.refl _ _⟩
      (try simp only [Act.put, List.setIfInBounds_toArray, List.set_cons_zero, List.set_cons_succ])
      apply line_fix
      case now => (intro vs w' R hG hn hR; have hR' := Lib.hid hR; clear hR hn; obtain ⟨⟨dq, osq⟩, rfl⟩ := regrown_of_below hG; clear hG; go_simp; exact hR'.out _ (Below.refl _ _))
      case hangs => exact fun _ _ _ => rfl
      case hR => exact fun _ _ => ⟨_, Below.refl _ _⟩
      (try simp only [Act.put, List.setIfInBounds_toArray, List.set_cons_zero, List.set_cons_succ])
      apply line_fix
      case now => (intro vs w' R hG hn hR; have hR' := Lib.hid hR; clear hR hn; obtain ⟨⟨dq, osq⟩, rfl⟩ := regrown_of_below hG; clear hG; go_simp; exact hR'.out _ (Below.refl _ _))
      case hangs => exact fun _ _ _ => rfl
      case hR => exact fun _ _ => ⟨_, Below.refl _ _⟩
      (try simp only [Act.put, List.setIfInBounds_toArray, List.set_cons_zero, List.set_cons_succ])
      apply line_fix
      case now => (intro vs w' R hG hn hR; have hR' := Lib.hid hR; clear hR hn; obtain ⟨⟨dq, osq⟩, rfl⟩ := regrown_of_below hG; clear hG; go_simp; exact hR'.out _ (Below.refl _ _))
      case hangs => exact fun _ _ _ => rfl
      case hR => exact fun _ _ => ⟨_, Below.refl _ _⟩
      (try simp only [Act.put, List.setIfInBounds_toArray, List.set_cons_zero, List.set_cons_succ])
      refine line_last (fun vs w5 hG _ => ?_)
      replace hG : Below _ _ _ := hG
      have hJ5 := hJa (List.range k) wr w5 none hJ ⟨hG.os, hG.tape, hG.output, hG.size, fun i hi _ => hG.block i hi⟩ (fun r e => by cases e)
      obtain ⟨fn, tmps, assign, body, hy, hR⟩ := hY (List.range k) k w5 hJ5 (by simp; omega)
      unfold partV at hy
      rw [← HE.out] at hy
      (try dsimp only at hy)
      have cBs5 := (hG.cell (p := ⟨Bs, 0, none⟩) lBs).trans cBs
      have cBn5 := (hG.cell (p := ⟨Bn, 0, none⟩) lBn).trans cBn
      have hb5 := Lib.hid (hb.trans (KpC.of_below hG lBs lBn))
      clear hJ5 hJ hG hb hrc
      gi_wp2
      refine ⟨fun h => absurd h (by decide), ?_⟩
      refine hR.mono ?_
      rintro e' W' (⟨rfl, hJ', hk'⟩ | ⟨rfl, hJx'⟩)
      · have cBs' := (hk'.cell Bs (.inl rfl)).trans cBs5
        have cBn' := (hk'.cell Bn (.inr rfl)).trans cBn5
        have HJ := Lib.hid hJ'
        have HK := Lib.hid hk'
        clear hJ' hk' hy hR
        gi_wp2
        go_roundw
        case rel => exact ⟨k + 1, by omega, by go_num, by rw [List.range_succ]; exact HJ.out, hb5.out.trans HK.out⟩
        case measure => simp [intOf]; omega
      · have HJ := Lib.hid hJx'
        clear hJx' hy hR
        gi_wp2
        refine bodyPost_ret (results_none rfl _ _ _) rfl ?_
        exact ⟨⟨_, rfl⟩, .inr ⟨List.range k ++ [k], by
          rw [← List.range_succ]
          have := List.take_prefix (k + 1) (List.range (parts n))
          rwa [List.take_range, Nat.min_eq_left (by omega)] at this, HJ.out⟩⟩
    · have hlt' : ¬ 8 * (k : Int) < (n : Int) := by omega
      have hkk : k = parts n := by unfold parts at *; omega
      have HJ := Lib.hid hJ
      have HKK := Lib.hid hkk
      clear hJ hkk
      gi_wp2
      go_end0
      exact ⟨⟨_, rfl⟩, .inl (by rw [← HKK.out]; exact HJ.out)⟩
/-- **The function that Chunk gives hands on the parts, in turn.** -/
theorem chunk_stops (m : Nat) (Bs Bn : Nat) (A : Option Addr) (n c : Nat) (hc : n ≤ c) (hn : n ≤ 9223372036854775800) (w : World) (hBs : w.cell? ⟨Bs, 0, none⟩ = some (.slice A n c)) (hBn : w.cell? ⟨Bn, 0, none⟩ = some (.int .i64 8)) (hls : Bs < w.heap.size) (hln : Bn < w.heap.size) :
    SeqStopsK Fence.wide m Tryd.prog 15 #[.pointer (some ⟨Bs, 0, none⟩), .pointer (some ⟨Bn, 0, none⟩)] (fun x : Nat => #[partV A n x]) (KpC Bs Bn) (fun ys => ys = List.range (parts n)) (fun pre => pre <+: List.range (parts n)) (parts n) w := fun l J Jx W hW hJ _ hY h0 =>
  chunk1_in m l Bs Bn A n c hc hn J Jx W hJ hY ((hW.cell (p := ⟨Bs, 0, none⟩) hls).trans hBs) ((hW.cell (p := ⟨Bn, 0, none⟩) hln).trans hBn) (by have := hW.size; omega) (by have := hW.size; omega) h0
end Go.Proofs.YtdabndoojkdicaaDoor
