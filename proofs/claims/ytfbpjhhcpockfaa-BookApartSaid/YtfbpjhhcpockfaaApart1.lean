/- BookApart's loop. No condition. -/
import Derived.Test.YtfbpjhhcpockfaaApartPlain
import Derived.Test.YtfbpjhhcpockfaaMake
set_option linter.unusedVariables false
set_option linter.unusedSimpArgs false
namespace Go.Proofs.Ytfbpjhhcpockfaa
open Go.RowKit Go.Shelf Go.Maps
noncomputable def apB1 : Code := loopOf Try.f7.body 0
structure ApAt (w0 w : World) (v9 v10 : Value) (L1 L2 : List Ev) : Prop where
  own1 : w.ownsRow w0.heap.size 35 12 v9 L1.length (evCells L1)
  own2 : w.ownsRow w0.heap.size 35 12 v10 L2.length (evCells L2)
  apart : ∀ g, v9.ownBlock = some g → v10.ownBlock ≠ some g
  below : Below w0.heap.size w0 w
theorem ApAt.next {w0 w w1 : World} {v9 v10 : Value} {L1 L2 : List Ev} (h : ApAt w0 w v9 v10 L1 L2) (hb : Below w.heap.size w w1) : ApAt w0 w1 v9 v10 L1 L2 := ⟨own_next h.own1 hb, own_next h.own2 hb, h.apart, below_next h.below hb⟩
theorem ApAt.put1 {w0 w w2 : World} {v9 v10 v1 : Value} {L1 L2 : List Ev} {x : Ev} (h : ApAt w0 w v9 v10 L1 L2) (hO : w2.ownsRow w0.heap.size 35 12 v1 (L1.length + 1) (evCells L1 ++ x.cells)) (hg : w.grownBy w2 v9.ownBlock) (hb : Below w0.heap.size w0 w2) (hl : v1.ownBlock = v9.ownBlock ∨ v1.ownBlock = some w.heap.size) :
    ApAt w0 w2 v1 v10 (L1 ++ [x]) L2 := by
  have e1 : evCells (L1 ++ [x]) = evCells L1 ++ x.cells := by simp [evCells]
  refine ⟨by rw [e1, List.length_append]; exact hO, own_keep h.own2 (Kept.of_grown (S := fun i => v9.ownBlock = some i) hg (fun _ _ e => e)) (fun g hg' e => h.apart g e hg'), fun g hg1 hg2 => ?_, hb⟩
  rcases hl with e | e
  · rw [e] at hg1; exact h.apart g hg1 hg2
  · rw [e] at hg1
    injection hg1 with hg1
    have := (h.own2.lt g hg2).2
    omega
theorem ApAt.flip {w0 w : World} {v9 v10 : Value} {L1 L2 : List Ev} (h : ApAt w0 w v9 v10 L1 L2) : ApAt w0 w v10 v9 L2 L1 := ⟨h.own2, h.own1, fun g h1 h2 => h.apart g h2 h1, h.below⟩
theorem own_snoc {E : List Ev} {j : Nat} {x : Ev} (hx : E[j]? = some x) (s : Str) : ownE s (E.take (j + 1)) = ownE s (E.take j) ++ (if x.k = s then [x] else []) := by
  unfold ownE sub
  rw [take_snoc hx, List.filter_append]
  by_cases h : x.k = s <;> simp [h]
theorem oth_snoc {E : List Ev} {j : Nat} {x : Ev} (hx : E[j]? = some x) (s : Str) : oth s (E.take (j + 1)) = oth s (E.take j) ++ (if x.k = s then [] else [x]) := by
  unfold oth sub
  rw [take_snoc hx, List.filter_append]
  by_cases h : x.k = s <;> simp [h]
theorem own_len (s : Str) (L : List Ev) : (ownE s L).length ≤ L.length := List.length_filter_le _ _
theorem oth_len (s : Str) (L : List Ev) : (oth s L).length ≤ L.length := List.length_filter_le _ _
set_option maxRecDepth 100000 in
set_option maxHeartbeats 4000000 in
theorem ap_loop1 (Q : Exit → Act → World → Prop) (A : Option Addr) (m cA : Nat) (E : List Ev) (s : ByteArray) (w0 w : World) (u0 u1 u2 u3 u4 u5 u7 u9 u10 u12 u13 u14 u15 u16 u17 u18 u19 u20 u21 u22 u23 u24 u25 u26 u27 u28 u29 u30 u31 u32 u33 u34 u35 u36 u37 u38 u39 u40 u41 u42 u43 u44 u45 u46 u47 u48 u49 u50 u51 u52 u53 u54 u55 u56 u57 u58 u59 u60 u61 u62 u63 u64 u65 u66 u67 u68 u69 u70 u71 u72 u73 u74 u75 u76 u77 u78 u79 u80 u81 u82 u83 u84 u85 u86 u87 u88 u89 u90 u91 u92 u93 u94 u95 u96 u97 u98 u99 u100 u101 : Value)
    (hR : RdEv w0 A m E) (hm : m ≤ 1000000) (h0 : ApAt w0 w u9 u10 [] [])
    (hexit : ∀ (x11 x25 x26 x27 x28 x29 x30 x31 x32 x33 x34 x35 x36 x37 x38 x39 x40 x41 x42 x43 x44 x45 x46 x47 x48 x49 x50 x51 v9 v10 : Value) (w' : World), ApAt w0 w' v9 v10 (oth s.data.toList E) (ownE s.data.toList E) →
      Q (.exit 0) ⟨(List.toArray (u0 :: u1 :: u2 :: u3 :: u4 :: u5 :: .slice A m cA :: u7 :: .string s :: v9 :: v10 :: x11 :: u12 :: u13 :: u14 :: u15 :: u16 :: u17 :: u18 :: u19 :: u20 :: u21 :: u22 :: u23 :: u24 :: x25 :: x26 :: x27 :: x28 :: x29 :: x30 :: x31 :: x32 :: x33 :: x34 :: x35 :: x36 :: x37 :: x38 :: x39 :: x40 :: x41 :: x42 :: x43 :: x44 :: x45 :: x46 :: x47 :: x48 :: x49 :: x50 :: x51 :: u52 :: u53 :: u54 :: u55 :: u56 :: u57 :: u58 :: u59 :: u60 :: u61 :: u62 :: u63 :: u64 :: u65 :: u66 :: u67 :: u68 :: u69 :: u70 :: u71 :: u72 :: u73 :: u74 :: u75 :: u76 :: u77 :: u78 :: u79 :: u80 :: u81 :: u82 :: u83 :: u84 :: u85 :: u86 :: u87 :: u88 :: u89 :: u90 :: u91 :: u92 :: u93 :: u94 :: u95 :: u96 :: u97 :: u98 :: u99 :: u100 :: u101 :: [])), []⟩ w') :
    Code.wp Try.prog (.loop apB1) Q ⟨(List.toArray (u0 :: u1 :: u2 :: u3 :: u4 :: u5 :: .slice A m cA :: u7 :: .string s :: u9 :: u10 :: .int .i64 0 :: u12 :: u13 :: u14 :: u15 :: u16 :: u17 :: u18 :: u19 :: u20 :: u21 :: u22 :: u23 :: u24 :: u25 :: u26 :: u27 :: u28 :: u29 :: u30 :: u31 :: u32 :: u33 :: u34 :: u35 :: u36 :: u37 :: u38 :: u39 :: u40 :: u41 :: u42 :: u43 :: u44 :: u45 :: u46 :: u47 :: u48 :: u49 :: u50 :: u51 :: u52 :: u53 :: u54 :: u55 :: u56 :: u57 :: u58 :: u59 :: u60 :: u61 :: u62 :: u63 :: u64 :: u65 :: u66 :: u67 :: u68 :: u69 :: u70 :: u71 :: u72 :: u73 :: u74 :: u75 :: u76 :: u77 :: u78 :: u79 :: u80 :: u81 :: u82 :: u83 :: u84 :: u85 :: u86 :: u87 :: u88 :: u89 :: u90 :: u91 :: u92 :: u93 :: u94 :: u95 :: u96 :: u97 :: u98 :: u99 :: u100 :: u101 :: [])), []⟩ w := by
  conv => arg 2; arg 1; whnf
  have HX := Lib.hid hexit
  have HR := Lib.hid (fun (W : World) (h : Below w0.heap.size w0 W) => hR.below h)
  have HL := Lib.hid hR.1
  have H0 := Lib.hid h0
  clear hexit hR h0
  go_loopw [9, 10, 11] (fun v9 v10 i wr => ∃ j : Nat, j ≤ m ∧ i = .int .i64 j ∧ ApAt w0 wr v9 v10 (oth s.data.toList (E.take j)) (ownE s.data.toList (E.take j))) (fun _ _ i _ => m - (intOf i).toNat)
  case atStart => exact ⟨0, by omega, rfl, by simpa [oth, ownE, sub] using H0.out⟩
  case round =>
    obtain ⟨j, hj, rfl, hA⟩ := hrel
    by_cases hjm : j < m
    · obtain ⟨x, hx⟩ : ∃ x, E[j]? = some x := ⟨E[j]'(by rw [HL.out]; exact hjm), List.getElem?_eq_getElem _⟩
      have hR' := HR.out wr hA.below
      obtain ⟨b, o, eA, hlt, hcc⟩ := hR'.at_ j x hx
      subst eA
      have v0 : wr.cell? ⟨b, o + j * 12, none⟩ = some (.int .i64 x.r) := hcc 0 _ rfl
      have v1 : wr.cell? ⟨b, o + j * 12 + 1, none⟩ = some (.int .i64 x.n) := hcc 1 _ rfl
      have v2 : wr.cell? ⟨b, o + j * 12 + 2, none⟩ = some (.int .i64 x.c0) := hcc 2 _ rfl
      have v3 : wr.cell? ⟨b, o + j * 12 + 3, none⟩ = some (.int .i64 x.c1) := hcc 3 _ rfl
      have v4 : wr.cell? ⟨b, o + j * 12 + 4, none⟩ = some (.int .i64 x.c2) := hcc 4 _ rfl
      have v5 : wr.cell? ⟨b, o + j * 12 + 5, none⟩ = some (.int .i64 x.c3) := hcc 5 _ rfl
      have v6 : wr.cell? ⟨b, o + j * 12 + 6, none⟩ = some (.int .i64 x.c4) := hcc 6 _ rfl
      have v7 : wr.cell? ⟨b, o + j * 12 + 7, none⟩ = some (.int .i64 x.height) := hcc 7 _ rfl
      have v8 : wr.cell? ⟨b, o + j * 12 + 8, none⟩ = some (.int .i64 x.kind) := hcc 8 _ rfl
      have v9 : wr.cell? ⟨b, o + j * 12 + 9, none⟩ = some (.string x.key) := hcc 9 _ rfl
      have v10 : wr.cell? ⟨b, o + j * 12 + 10, none⟩ = some (.int .i64 x.label) := hcc 10 _ rfl
      have v11 : wr.cell? ⟨b, o + j * 12 + 11, none⟩ = some (.string x.value) := hcc 11 _ rfl
      have h1 := own_snoc hx s.data.toList
      have h2 := oth_snoc hx s.data.toList
      have hl1 := own_len s.data.toList (E.take j)
      have hl2 := oth_len s.data.toList (E.take j)
      have hl3 : (E.take j).length ≤ j := List.length_take_le _ _
      have hsz : w0.heap.size ≤ wr.heap.size := hA.below.size
      obtain ⟨L1, e1⟩ : ∃ L1, L1 = oth s.data.toList (E.take j) := ⟨_, rfl⟩
      obtain ⟨L2, e2⟩ : ∃ L2, L2 = ownE s.data.toList (E.take j) := ⟨_, rfl⟩
      rw [← e1] at hA h2 hl2
      rw [← e2] at hA h1 hl1
      have HBK := Lib.hid (show ∀ W, W = wr.alloc (.cells x.cells.toArray 35) → ApAt w0 W u9 u10 L1 L2 ∧ Rd W (some ⟨wr.heap.size, 0, none⟩) 1 12 x.cells ∧ w0.heap.size ≤ W.heap.size by
        rintro W rfl
        exact ⟨hA.next ((Below.refl _ _).alloc (Nat.le_refl _) _), (At.new wr x.cells.toArray 35).rd (n := 1) (size := 12) rfl (by decide), by simp; omega⟩)
      have hkk : (x.key.toList == s.toList) = (x.k == s.data.toList) := by rw [data_toList, data_toList]
      by_cases hk : x.k = s.data.toList
      · have hq : (x.key.toList == s.toList) = true := by rw [hkk]; simpa using hk
        have HN := Lib.hid (And.intro (show ownE s.data.toList (E.take (j + 1)) = L2 ++ [x] by rw [h1, if_pos hk]) (show oth s.data.toList (E.take (j + 1)) = L1 by rw [h2, if_pos hk, List.append_nil]))
        clear hcc hR' hA h1 h2 e1 e2 hkk hk hx
        go_wp2_with (at_builtin; refine wpList_append_rd (w0 := w0) w0.heap.size rfl _ _ 28 35 _ 12 112 rfl Try.underlying28 info_ev rfl (by decide) (by decide) u10 L2.length (evCells L2) (some ⟨wr.heap.size, 0, none⟩) 1 1 x.cells (by rfl) (by rfl) (HBK.out _ rfl).1.own2 (HBK.out _ rfl).2.1 (by simp [Ev.cells, Value.oneCell']) (HBK.out _ rfl).1.below (HBK.out _ rfl).2.2 (by omega) ?_)
        intro v1 w2 hO2 hb2 hg2 hl2'
        have HH2 := Lib.hid ((HBK.out _ rfl).1.flip.put1 hO2 hg2 hb2 (by simpa using hl2'))
        clear hO2 hb2 hg2 hl2'
        go_wp2_with fail
        go_roundw
        case measure => simp [intOf]; omega
        case rel => exact ⟨j + 1, by omega, by go_num, by rw [HN.out.1, HN.out.2]; exact HH2.out.flip⟩
      · have hq : (x.key.toList == s.toList) = false := by rw [hkk]; simpa using hk
        have HN := Lib.hid (And.intro (show ownE s.data.toList (E.take (j + 1)) = L2 by rw [h1, if_neg hk, List.append_nil]) (show oth s.data.toList (E.take (j + 1)) = L1 ++ [x] by rw [h2, if_neg hk]))
        clear hcc hR' hA h1 h2 e1 e2 hkk hk hx
        go_wp2_with (at_builtin; refine wpList_append_rd (w0 := w0) w0.heap.size rfl _ _ 28 35 _ 12 112 rfl Try.underlying28 info_ev rfl (by decide) (by decide) u9 L1.length (evCells L1) (some ⟨wr.heap.size, 0, none⟩) 1 1 x.cells (by rfl) (by rfl) (HBK.out _ rfl).1.own1 (HBK.out _ rfl).2.1 (by simp [Ev.cells, Value.oneCell']) (HBK.out _ rfl).1.below (HBK.out _ rfl).2.2 (by omega) ?_)
        intro v1 w2 hO2 hb2 hg2 hl2'
        have HH2 := Lib.hid ((HBK.out _ rfl).1.put1 hO2 hg2 hb2 (by simpa using hl2'))
        clear hO2 hb2 hg2 hl2'
        go_wp2_with fail
        go_roundw
        case measure => simp [intOf]; omega
        case rel => exact ⟨j + 1, by omega, by go_num, by rw [HN.out.1, HN.out.2]; exact HH2.out⟩
    · have hjm' : j = m := by omega
      subst hjm'
      have hne : ¬ (j : Int) < (j : Int) := by omega
      have e : E.take j = E := List.take_of_length_le (by rw [HL.out]; omega)
      rw [e] at hA
      have HA := Lib.hid hA
      clear hA
      go_wp2_with fail
      exact HX.out _ _ _ _ _ _ _ _ _ _ _ _ _ _ _ _ _ _ _ _ _ _ _ _ _ _ _ _ _ _ _ HA.out
end Go.Proofs.Ytfbpjhhcpockfaa
