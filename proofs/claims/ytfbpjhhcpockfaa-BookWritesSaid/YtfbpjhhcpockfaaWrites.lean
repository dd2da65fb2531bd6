/- BookWrites: the walk. No condition. -/
import Derived.Test.YtfbpjhhcpockfaaWritesPlain
import Derived.Test.YtfbpjhhcpockfaaBookShown
set_option linter.unusedVariables false
set_option linter.unusedSimpArgs false
namespace Go.Proofs.Ytfbpjhhcpockfaa
open Go.RowKit Go.Shelf Go.Maps
noncomputable def wrB1 : Code := loopOf Try.f5.body 0
noncomputable def wrB2 : Code := loopOf Try.f5.body 1
theorem str2 (w : World) (a b : Int) : (convert 52 9 (.slice (some ⟨w.heap.size, 0, none⟩) 2 2)).run Try.prog (w.alloc (.cells #[.int .u8 a, .int .u8 b] 5)) = .ok (.string (strOfNums [a, b])) (w.alloc (.cells #[.int .u8 a, .int .u8 b] 5)) :=
  run_string 52 9 5 Try.underlying52 Try.underlying5 Try.underlying9 ((At.new w #[.int .u8 a, .int .u8 b] 5).rd rfl (by decide))
theorem evCells_one' (e : Ev) : evCells [e] = e.cells := by simp [evCells]
theorem evW_cells0 (k : Nat) : (evW 0 k).cells = [.int .i64 0, .int .i64 ((k : Int) + 2), .int .i64 ((k : Int) + 2 - 1), .int .i64 (0), .int .i64 (0), .int .i64 (0), .int .i64 (0), .int .i64 ((k : Int) + 2), .int .i64 3, .string ⟨#[99, 121]⟩, .int .i64 0, .string (strOfNums [97, 48 + (k : Int)])] := by
  have h1 : (48 + (k : Int)).toNat = 48 + k := by omega
  have h2 : (k : Int) + 2 - 1 = k + 1 := by omega
  simp [evW, Ev.cells, strOfNums, cyB, h1, h2]
theorem evW_cells1 (k : Nat) : (evW 1 k).cells = [.int .i64 1, .int .i64 ((k : Int) + 1), .int .i64 (1), .int .i64 ((k : Int)), .int .i64 (0), .int .i64 (0), .int .i64 (0), .int .i64 ((k : Int) + 2), .int .i64 3, .string ⟨#[99, 121]⟩, .int .i64 0, .string (strOfNums [98, 48 + (k : Int)])] := by
  have h1 : (48 + (k : Int)).toNat = 48 + k := by omega
  have h2 : (k : Int) + 2 - 1 = k + 1 := by omega
  simp [evW, Ev.cells, strOfNums, cyB, h1, h2]
theorem evW_cells2 (k : Nat) : (evW 2 k).cells = [.int .i64 2, .int .i64 ((k : Int) + 1), .int .i64 (1), .int .i64 (0), .int .i64 ((k : Int)), .int .i64 (0), .int .i64 (0), .int .i64 ((k : Int) + 2), .int .i64 3, .string ⟨#[99, 121]⟩, .int .i64 0, .string (strOfNums [99, 48 + (k : Int)])] := by
  have h1 : (48 + (k : Int)).toNat = 48 + k := by omega
  have h2 : (k : Int) + 2 - 1 = k + 1 := by omega
  simp [evW, Ev.cells, strOfNums, cyB, h1, h2]
theorem evW_cells3 (k : Nat) : (evW 3 k).cells = [.int .i64 3, .int .i64 ((k : Int) + 1), .int .i64 (1), .int .i64 (0), .int .i64 (0), .int .i64 ((k : Int)), .int .i64 (0), .int .i64 ((k : Int) + 2), .int .i64 3, .string ⟨#[99, 121]⟩, .int .i64 0, .string (strOfNums [100, 48 + (k : Int)])] := by
  have h1 : (48 + (k : Int)).toNat = 48 + k := by omega
  have h2 : (k : Int) + 2 - 1 = k + 1 := by omega
  simp [evW, Ev.cells, strOfNums, cyB, h1, h2]
theorem evW_cells4 (k : Nat) : (evW 4 k).cells = [.int .i64 4, .int .i64 ((k : Int) + 1), .int .i64 (1), .int .i64 (0), .int .i64 (0), .int .i64 (0), .int .i64 ((k : Int)), .int .i64 ((k : Int) + 2), .int .i64 3, .string ⟨#[99, 121]⟩, .int .i64 0, .string (strOfNums [101, 48 + (k : Int)])] := by
  have h1 : (48 + (k : Int)).toNat = 48 + k := by omega
  have h2 : (k : Int) + 2 - 1 = k + 1 := by omega
  simp [evW, Ev.cells, strOfNums, cyB, h1, h2]
theorem block_snoc (L0 : List Ev) (r k : Nat) : evCells (L0 ++ blockW r (k + 1)) = evCells (L0 ++ blockW r k) ++ (evW r k).cells := by
  have e : blockW r (k + 1) = blockW r k ++ [evW r k] := by unfold blockW; rw [List.range_succ, List.map_append]; rfl
  rw [e, ← List.append_assoc, evCells_append, evCells_one']
set_option maxRecDepth 100000 in
set_option maxHeartbeats 4000000 in
theorem wr_loop2 (Q : Exit → Act → World → Prop) (ri : Int) (r m n0 base : Nat) (hri : ri = (r : Int)) (hr : r < 5) (hm : m < 8) (v0 : Value) (L0 : List Ev) (w : World) (u0 u1 u2 u3 u5 u6 u10 u11 u12 u13 u14 u15 u16 u17 u18 u19 u20 u21 u22 u23 u24 u25 u26 u27 u28 u29 u30 u31 u32 u33 u34 u35 u36 u37 u38 u39 u40 u41 u42 u43 u44 u45 u46 u47 u48 u49 u50 u51 u52 u53 u54 u55 u56 u57 u58 u59 u60 u61 u62 u63 u64 u65 u66 u67 u68 u69 u70 u71 u72 u73 u74 u75 u76 u77 u78 u79 u80 u81 u82 u83 u84 u85 u86 u87 u88 u89 u90 u91 u92 u93 u94 u95 u96 u97 u98 u99 : Value)
    (hO : w.ownsRow base 35 12 v0 n0 (evCells L0)) (hbase : base ≤ w.heap.size) (hn0 : n0 ≤ 100)
    (hexit : ∀ (x9 x10 x24 x25 x26 x27 x28 x29 x30 x31 x32 x33 x34 x35 x36 x37 x38 x39 x40 x41 x42 x43 x44 x45 x46 x47 x48 x49 x50 x51 x52 x53 x54 x55 x56 x57 x58 v : Value) (w' : World), w'.ownsRow base 35 12 v (n0 + m) (evCells (L0 ++ blockW r m)) → Below base w w' →
      Q (.exit 2) ⟨(List.toArray (u0 :: u1 :: u2 :: u3 :: v :: u5 :: u6 :: .int .i64 ri :: .int .i64 m :: x9 :: x10 :: u11 :: u12 :: u13 :: u14 :: u15 :: u16 :: u17 :: u18 :: u19 :: u20 :: u21 :: u22 :: u23 :: x24 :: x25 :: x26 :: x27 :: x28 :: x29 :: x30 :: x31 :: x32 :: x33 :: x34 :: x35 :: x36 :: x37 :: x38 :: x39 :: x40 :: x41 :: x42 :: x43 :: x44 :: x45 :: x46 :: x47 :: x48 :: x49 :: x50 :: x51 :: x52 :: x53 :: x54 :: x55 :: x56 :: x57 :: x58 :: u59 :: u60 :: u61 :: u62 :: u63 :: u64 :: u65 :: u66 :: u67 :: u68 :: u69 :: u70 :: u71 :: u72 :: u73 :: u74 :: u75 :: u76 :: u77 :: u78 :: u79 :: u80 :: u81 :: u82 :: u83 :: u84 :: u85 :: u86 :: u87 :: u88 :: u89 :: u90 :: u91 :: u92 :: u93 :: u94 :: u95 :: u96 :: u97 :: u98 :: u99 :: [])), []⟩ w') :
    Code.wp Try.prog (.loop wrB2) Q ⟨(List.toArray (u0 :: u1 :: u2 :: u3 :: v0 :: u5 :: u6 :: .int .i64 ri :: .int .i64 m :: .int .i64 0 :: u10 :: u11 :: u12 :: u13 :: u14 :: u15 :: u16 :: u17 :: u18 :: u19 :: u20 :: u21 :: u22 :: u23 :: u24 :: u25 :: u26 :: u27 :: u28 :: u29 :: u30 :: u31 :: u32 :: u33 :: u34 :: u35 :: u36 :: u37 :: u38 :: u39 :: u40 :: u41 :: u42 :: u43 :: u44 :: u45 :: u46 :: u47 :: u48 :: u49 :: u50 :: u51 :: u52 :: u53 :: u54 :: u55 :: u56 :: u57 :: u58 :: u59 :: u60 :: u61 :: u62 :: u63 :: u64 :: u65 :: u66 :: u67 :: u68 :: u69 :: u70 :: u71 :: u72 :: u73 :: u74 :: u75 :: u76 :: u77 :: u78 :: u79 :: u80 :: u81 :: u82 :: u83 :: u84 :: u85 :: u86 :: u87 :: u88 :: u89 :: u90 :: u91 :: u92 :: u93 :: u94 :: u95 :: u96 :: u97 :: u98 :: u99 :: [])), []⟩ w := by
  conv => arg 2; arg 1; whnf
  have HX := Lib.hid hexit
  have HO := Lib.hid hO
  have HRI := Lib.hid hri
  clear hexit hO hri
  go_loopw [4, 9] (fun v i wr => ∃ k : Nat, k ≤ m ∧ i = .int .i64 k ∧ wr.ownsRow base 35 12 v (n0 + k) (evCells (L0 ++ blockW r k)) ∧ Below base w wr) (fun _ i _ => m - (intOf i).toNat)
  case atStart => exact ⟨0, by omega, rfl, by simpa [blockW] using HO.out, Below.refl _ _⟩
  case round =>
    obtain ⟨k, hk, rfl, hO, hb⟩ := hrel
    have HO := Lib.hid hO
    have HB := Lib.hid hb
    have hsz := hb.size
    clear hO hb
    by_cases hkm : k < m
    · have hst := fun a => str2 wr a (48 + (k : Int))
      have HBK := Lib.hid (show ∀ (a b : Obj) (cs : Array Value) (W : World), W = ((wr.alloc a).alloc b).alloc (.cells cs 35) → W.ownsRow base 35 12 u4 (n0 + k) (evCells (L0 ++ blockW r k)) ∧ (cs.size = 12 → Rd W (some ⟨wr.heap.size + 2, 0, none⟩) 1 12 cs.toList) ∧ Below base w W ∧ base ≤ W.heap.size from by
        rintro a b cs W rfl
        refine ⟨own_below HO.out ((((Below.refl _ _).alloc (Nat.le_refl _) _).alloc (by simp) _).alloc (by simp; omega) _), fun hcs => ?_, ((HB.out.alloc (by omega) _).alloc (by simp; omega) _).alloc (by simp; omega) _, by simp; omega⟩
        have := (At.new ((wr.alloc a).alloc b) cs 35).rd (n := 1) (size := 12) (by simpa using hcs) (by decide)
        simpa using this)
      clear HO
      rcases (show r = 0 ∨ r = 1 ∨ r = 2 ∨ r = 3 ∨ r = 4 by omega) with rfl | rfl | rfl | rfl | rfl
      · have hri0 : ri = 0 := HRI.out
        clear HRI
        subst hri0
        go_wp2_with (at_builtin; refine wpList_append_rd (w0 := w) base rfl _ _ 28 35 _ 12 112 rfl Try.underlying28 info_ev rfl (by decide) (by decide) u4 (n0 + k) (evCells (L0 ++ blockW 0 k)) (some ⟨wr.heap.size + 2, 0, none⟩) 1 1 _ (by rfl) (by rfl) (HBK.out _ _ _ _ rfl).1 ((HBK.out _ _ _ _ rfl).2.1 rfl) (by simp [Value.oneCell']) (HBK.out _ _ _ _ rfl).2.2.1 (HBK.out _ _ _ _ rfl).2.2.2 (by omega) ?_)
        intro v1 w2 hO2 hb2 hg2 hl2
        have HH2 := Lib.hid (And.intro hO2 hb2)
        clear hO2 hb2 hg2 hl2
        go_wp2_with fail
        go_roundw
        case measure => simp [intOf]; omega
        case rel =>
          refine ⟨k + 1, by omega, by go_num, ?_, HH2.out.2⟩
          have hO2 := HH2.out.1
          rw [block_snoc]
          have e := evW_cells0 k
          rw [e]
          exact hO2
      · have hri0 : ri = 1 := HRI.out
        clear HRI
        subst hri0
        go_wp2_with (at_builtin; refine wpList_append_rd (w0 := w) base rfl _ _ 28 35 _ 12 112 rfl Try.underlying28 info_ev rfl (by decide) (by decide) u4 (n0 + k) (evCells (L0 ++ blockW 1 k)) (some ⟨wr.heap.size + 2, 0, none⟩) 1 1 _ (by rfl) (by rfl) (HBK.out _ _ _ _ rfl).1 ((HBK.out _ _ _ _ rfl).2.1 rfl) (by simp [Value.oneCell']) (HBK.out _ _ _ _ rfl).2.2.1 (HBK.out _ _ _ _ rfl).2.2.2 (by omega) ?_)
        intro v1 w2 hO2 hb2 hg2 hl2
        have HH2 := Lib.hid (And.intro hO2 hb2)
        clear hO2 hb2 hg2 hl2
        go_wp2_with fail
        go_roundw
        case measure => simp [intOf]; omega
        case rel =>
          refine ⟨k + 1, by omega, by go_num, ?_, HH2.out.2⟩
          have hO2 := HH2.out.1
          rw [block_snoc]
          have e := evW_cells1 k
          rw [e]
          exact hO2
      · have hri0 : ri = 2 := HRI.out
        clear HRI
        subst hri0
        go_wp2_with (at_builtin; refine wpList_append_rd (w0 := w) base rfl _ _ 28 35 _ 12 112 rfl Try.underlying28 info_ev rfl (by decide) (by decide) u4 (n0 + k) (evCells (L0 ++ blockW 2 k)) (some ⟨wr.heap.size + 2, 0, none⟩) 1 1 _ (by rfl) (by rfl) (HBK.out _ _ _ _ rfl).1 ((HBK.out _ _ _ _ rfl).2.1 rfl) (by simp [Value.oneCell']) (HBK.out _ _ _ _ rfl).2.2.1 (HBK.out _ _ _ _ rfl).2.2.2 (by omega) ?_)
        intro v1 w2 hO2 hb2 hg2 hl2
        have HH2 := Lib.hid (And.intro hO2 hb2)
        clear hO2 hb2 hg2 hl2
        go_wp2_with fail
        go_roundw
        case measure => simp [intOf]; omega
        case rel =>
          refine ⟨k + 1, by omega, by go_num, ?_, HH2.out.2⟩
          have hO2 := HH2.out.1
          rw [block_snoc]
          have e := evW_cells2 k
          rw [e]
          exact hO2
      · have hri0 : ri = 3 := HRI.out
        clear HRI
        subst hri0
        go_wp2_with (at_builtin; refine wpList_append_rd (w0 := w) base rfl _ _ 28 35 _ 12 112 rfl Try.underlying28 info_ev rfl (by decide) (by decide) u4 (n0 + k) (evCells (L0 ++ blockW 3 k)) (some ⟨wr.heap.size + 2, 0, none⟩) 1 1 _ (by rfl) (by rfl) (HBK.out _ _ _ _ rfl).1 ((HBK.out _ _ _ _ rfl).2.1 rfl) (by simp [Value.oneCell']) (HBK.out _ _ _ _ rfl).2.2.1 (HBK.out _ _ _ _ rfl).2.2.2 (by omega) ?_)
        intro v1 w2 hO2 hb2 hg2 hl2
        have HH2 := Lib.hid (And.intro hO2 hb2)
        clear hO2 hb2 hg2 hl2
        go_wp2_with fail
        go_roundw
        case measure => simp [intOf]; omega
        case rel =>
          refine ⟨k + 1, by omega, by go_num, ?_, HH2.out.2⟩
          have hO2 := HH2.out.1
          rw [block_snoc]
          have e := evW_cells3 k
          rw [e]
          exact hO2
      · have hri0 : ri = 4 := HRI.out
        clear HRI
        subst hri0
        go_wp2_with (at_builtin; refine wpList_append_rd (w0 := w) base rfl _ _ 28 35 _ 12 112 rfl Try.underlying28 info_ev rfl (by decide) (by decide) u4 (n0 + k) (evCells (L0 ++ blockW 4 k)) (some ⟨wr.heap.size + 2, 0, none⟩) 1 1 _ (by rfl) (by rfl) (HBK.out _ _ _ _ rfl).1 ((HBK.out _ _ _ _ rfl).2.1 rfl) (by simp [Value.oneCell']) (HBK.out _ _ _ _ rfl).2.2.1 (HBK.out _ _ _ _ rfl).2.2.2 (by omega) ?_)
        intro v1 w2 hO2 hb2 hg2 hl2
        have HH2 := Lib.hid (And.intro hO2 hb2)
        clear hO2 hb2 hg2 hl2
        go_wp2_with fail
        go_roundw
        case measure => simp [intOf]; omega
        case rel =>
          refine ⟨k + 1, by omega, by go_num, ?_, HH2.out.2⟩
          have hO2 := HH2.out.1
          rw [block_snoc]
          have e := evW_cells4 k
          rw [e]
          exact hO2
    · have hjn' : k = m := by omega
      subst hjn'
      have hne : ¬ (k : Int) < (k : Int) := by omega
      go_wp2_with fail
      exact HX.out _ _ _ _ _ _ _ _ _ _ _ _ _ _ _ _ _ _ _ _ _ _ _ _ _ _ _ _ _ _ _ _ _ _ _ _ _ _ _ HO.out HB.out
end Go.Proofs.Ytfbpjhhcpockfaa
