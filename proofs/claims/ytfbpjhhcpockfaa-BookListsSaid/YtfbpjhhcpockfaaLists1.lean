/- BookLists' outer loop: over the contacts. No condition. -/
import Derived.Test.YtfbpjhhcpockfaaLists2
set_option linter.unusedVariables false
set_option linter.unusedSimpArgs false
namespace Go.Proofs.Ytfbpjhhcpockfaa
open Go.RowKit Go.Shelf Go.Maps
noncomputable def blB1 : Code := loopOf Try.f6.body 0
set_option maxRecDepth 100000 in
set_option maxHeartbeats 4000000 in
theorem bl_loop1 (Q : Exit → Act → World → Prop) (A A5 : Option Addr) (m cA n5 c5 : Nat) (M : List Ev) (cts : List Ct) (w : World) (u0 u1 u2 u3 u7 u8 u9 u10 u11 u12 u13 u14 u15 u16 u17 u18 u19 u20 u21 u22 u23 u24 u25 u26 u27 u28 u29 u30 u31 u32 u33 u34 u35 u36 u37 u38 u39 u40 u41 u42 u43 u44 u45 u46 u47 u48 u49 u50 u51 u52 u53 u54 u55 u56 u57 u58 u59 u60 u61 u62 u63 u64 u65 u66 u67 u68 u69 u70 u71 u72 u73 u74 u75 u76 u77 u78 u79 u80 u81 u82 u83 u84 u85 u86 u87 u88 u89 u90 u91 u92 u93 u94 u95 u96 u97 u98 u99 u100 u101 u102 u103 u104 u105 u106 u107 u108 u109 u110 u111 u112 u113 u114 u115 u116 u117 u118 u119 u120 u121 u122 u123 u124 u125 u126 u127 u128 u129 u130 u131 u132 u133 u134 u135 u136 u137 u138 u139 u140 u141 u142 u143 u144 u145 u146 u147 u148 : Value)
    (hR : RdEv w A m M) (hm : m ≤ 1000000000) (hC : RdCts w A5 n5 cts) (hn5 : n5 ≤ 1000000000) (hF : ∀ c ∈ cts, FairC M c) (hrise : ∀ i c d, cts[i]? = some c → cts[i + 1]? = some d → c.key < d.key) (hlen : ∀ c ∈ cts, ∀ l, (c.s l).length ≤ 1000000000)
    (hexit : ∀ (x2 x6 x7 x8 x9 x37 x38 x39 x40 x41 x42 x43 x44 x45 x46 x47 x48 x49 x50 x51 x52 x53 x54 x55 x56 x57 x58 x59 x60 x61 x62 x63 x64 x65 x66 x67 x68 x69 x70 x71 x72 x73 x74 x75 x76 x77 x78 x79 x80 x81 x82 x83 x84 x85 x86 x87 x88 x89 x90 x91 x92 x93 x94 x95 x96 x97 x98 x99 x100 x101 x102 x103 x104 x105 x106 x107 x108 x109 x110 x111 x112 x113 x114 x115 x116 x117 x118 x119 x120 x121 x122 x123 x124 x125 x126 x127 x128 x129 x130 x131 x132 x133 x134 x135 x136 x137 x138 x139 x140 x141 x142 x143 x144 x145 x146 x147 : Value) (w' : World), Below w.heap.size w w' →
      Q (.exit 0) ⟨(List.toArray (u0 :: u1 :: x2 :: u3 :: .slice A m cA :: .slice A5 n5 c5 :: x6 :: x7 :: x8 :: x9 :: u10 :: u11 :: u12 :: u13 :: u14 :: u15 :: u16 :: u17 :: u18 :: u19 :: u20 :: u21 :: u22 :: u23 :: u24 :: u25 :: u26 :: u27 :: u28 :: u29 :: u30 :: u31 :: u32 :: u33 :: u34 :: u35 :: u36 :: x37 :: x38 :: x39 :: x40 :: x41 :: x42 :: x43 :: x44 :: x45 :: x46 :: x47 :: x48 :: x49 :: x50 :: x51 :: x52 :: x53 :: x54 :: x55 :: x56 :: x57 :: x58 :: x59 :: x60 :: x61 :: x62 :: x63 :: x64 :: x65 :: x66 :: x67 :: x68 :: x69 :: x70 :: x71 :: x72 :: x73 :: x74 :: x75 :: x76 :: x77 :: x78 :: x79 :: x80 :: x81 :: x82 :: x83 :: x84 :: x85 :: x86 :: x87 :: x88 :: x89 :: x90 :: x91 :: x92 :: x93 :: x94 :: x95 :: x96 :: x97 :: x98 :: x99 :: x100 :: x101 :: x102 :: x103 :: x104 :: x105 :: x106 :: x107 :: x108 :: x109 :: x110 :: x111 :: x112 :: x113 :: x114 :: x115 :: x116 :: x117 :: x118 :: x119 :: x120 :: x121 :: x122 :: x123 :: x124 :: x125 :: x126 :: x127 :: x128 :: x129 :: x130 :: x131 :: x132 :: x133 :: x134 :: x135 :: x136 :: x137 :: x138 :: x139 :: x140 :: x141 :: x142 :: x143 :: x144 :: x145 :: x146 :: x147 :: u148 :: [])), []⟩ w') :
    Code.wp Try.prog (.loop blB1) Q ⟨(List.toArray (u0 :: u1 :: u2 :: u3 :: .slice A m cA :: .slice A5 n5 c5 :: .int .i64 0 :: u7 :: u8 :: u9 :: u10 :: u11 :: u12 :: u13 :: u14 :: u15 :: u16 :: u17 :: u18 :: u19 :: u20 :: u21 :: u22 :: u23 :: u24 :: u25 :: u26 :: u27 :: u28 :: u29 :: u30 :: u31 :: u32 :: u33 :: u34 :: u35 :: u36 :: u37 :: u38 :: u39 :: u40 :: u41 :: u42 :: u43 :: u44 :: u45 :: u46 :: u47 :: u48 :: u49 :: u50 :: u51 :: u52 :: u53 :: u54 :: u55 :: u56 :: u57 :: u58 :: u59 :: u60 :: u61 :: u62 :: u63 :: u64 :: u65 :: u66 :: u67 :: u68 :: u69 :: u70 :: u71 :: u72 :: u73 :: u74 :: u75 :: u76 :: u77 :: u78 :: u79 :: u80 :: u81 :: u82 :: u83 :: u84 :: u85 :: u86 :: u87 :: u88 :: u89 :: u90 :: u91 :: u92 :: u93 :: u94 :: u95 :: u96 :: u97 :: u98 :: u99 :: u100 :: u101 :: u102 :: u103 :: u104 :: u105 :: u106 :: u107 :: u108 :: u109 :: u110 :: u111 :: u112 :: u113 :: u114 :: u115 :: u116 :: u117 :: u118 :: u119 :: u120 :: u121 :: u122 :: u123 :: u124 :: u125 :: u126 :: u127 :: u128 :: u129 :: u130 :: u131 :: u132 :: u133 :: u134 :: u135 :: u136 :: u137 :: u138 :: u139 :: u140 :: u141 :: u142 :: u143 :: u144 :: u145 :: u146 :: u147 :: u148 :: [])), []⟩ w := by
  conv => arg 2; arg 1; whnf
  have HW := Lib.hid (fun (e : Ev) (W : World) (h : Below w.heap.size w W) => wrote_yes A m cA M e W (hR.below h) hm)
  have HR := Lib.hid (fun (W : World) (h : Below w.heap.size w W) => hR.below h)
  have HC := Lib.hid (fun (W : World) (h : Below w.heap.size w W) => hC.below h)
  have HX := Lib.hid hexit
  have HF := Lib.hid hF
  have HN := Lib.hid hlen
  have HL := Lib.hid hC.1
  have HRS := Lib.hid hrise
  clear hexit hR hC hF hlen hrise
  go_loopw [6] (fun i wr => ∃ j : Nat, j ≤ n5 ∧ i = .int .i64 j ∧ Below w.heap.size w wr) (fun i _ => n5 - (intOf i).toNat)
  case atStart => exact ⟨0, by omega, rfl, Below.refl _ _⟩
  case round =>
    obtain ⟨j, hj, rfl, hbr⟩ := hrel
    by_cases hjn : j < n5
    · obtain ⟨c, hc⟩ : ∃ c, cts[j]? = some c := ⟨cts[j]'(by rw [HL.out]; exact hjn), List.getElem?_eq_getElem _⟩
      have hCr := HC.out wr hbr
      obtain ⟨b, o, A0, c0, A1, c1, hA, hlt, hcc, hl0, hl1, hr0, hr1⟩ := hCr.at_ j c hc
      subst hA
      have v0 := hcc 0 _ rfl
      have v1 := hcc 1 _ rfl
      have v2 := hcc 2 _ rfl
      have v3 := hcc 3 _ rfl
      have v4 := hcc 4 _ rfl
      have v5 := hcc 5 _ rfl
      have v6 := hcc 6 _ rfl
      rw [Nat.add_zero] at v0
      have hsz : w.heap.size ≤ wr.heap.size := hbr.size
      have hcm : c ∈ cts := List.mem_of_getElem? hc
      have hKK : ∀ W, W = wr.alloc (.cells (ctV c A0 A1 c0 c1).toArray 46) → At W wr.heap.size (ctV c A0 A1 c0 c1) ∧ Below w.heap.size w W ∧ Rd W A0 c.s0.length 1 (c.s0.map strV) ∧ Rd W A1 c.s1.length 1 (c.s1.map strV) ∧ b < W.heap.size ∧ Below wr.heap.size wr W := by
        rintro W rfl
        have hb1 : Below wr.heap.size wr (wr.alloc (.cells (ctV c A0 A1 c0 c1).toArray 46)) := (Below.refl _ _).alloc (Nat.le_refl _) _
        exact ⟨At.new _ _ _, below_next hbr hb1, hr0.below hb1, hr1.below hb1, by simp; omega, hb1⟩
      have HKK := Lib.hid hKK
      have HFC := Lib.hid (HF.out c hcm)
      have HNC := Lib.hid (HN.out c hcm)
      have hl0' := hl0
      have hl1' := hl1
      rcases Nat.eq_zero_or_pos j with h0 | hpos
      · subst h0
        rw [Nat.zero_mul, Nat.add_zero] at v0 v1 v2 v3 v4 v5 v6
        clear hcc hCr hc hcm hr0 hr1 hbr
        go_upto_region 10 with (fail)
        refine wp_world (fun W => At W wr.heap.size (ctV c A0 A1 c0 c1) ∧ Below w.heap.size w W ∧ Rd W A0 c.s0.length 1 (c.s0.map strV) ∧ Rd W A1 c.s1.length 1 (c.s1.map strV) ∧ b < W.heap.size ∧ Below wr.heap.size wr W) (HKK.out _ rfl) ?_
        rintro W1 ⟨hK1, hb1, hq0, hq1, hbl, h1b⟩
        skip
        have lK := hK1.lt
        have hK2 := hK1
        unfold ctV at hK2
        have y0 := hK2.cell 0 rfl
        have y1 := hK2.cell 1 rfl
        have y2 := hK2.cell 2 rfl
        have y3 := hK2.cell 3 rfl
        have y4 := hK2.cell 4 rfl
        have y5 := hK2.cell 5 rfl
        have y6 := hK2.cell 6 rfl
        have hrc := fun w2 => regrown_cell w2
        have HWR := Lib.hid (fun d os => HW.out _ (Sort.grow (redrawn W1 d) os) (below_next hb1 (below_regrown _ _ _)) HFC.out.key)
        have H1 := Lib.hid (And.intro hK1 (And.intro hb1 (And.intro hq0 hq1)))
        clear hK1 hK2 hb1 hq0 hq1 h1b v0 v1 v2 v3 v4 v5 v6
        go_wp2_with fail
        refine wp_region_quiet_below (by kernel_rfl) (by kernel_rfl) ?_
        repeat (any_goals (first | go_big_quiet_step ((go_at_call 20; exact Calls.regrown_of (HWR.out _ _))) | quiet_step ((go_at_call 20; exact Calls.regrown_of (HWR.out _ _)))))
        refine wpQuiet_nil ?_
        intro _ hw'
        obtain ⟨⟨dq, osq⟩, hw''⟩ := hw'
        subst hw''
        have hbq := below_regrown W1 dq osq
        go_wp2_with fail
        refine bl_loop2 _ A A0 A1 m cA wr.heap.size c0 c1 M c _ _ _ _ _ _ _ _ _ _ _ _ _ _ _ _ _ _ _ _ _ _ _ _ _ _ _ _ _ _ _ _ _ _ _ _ _ _ _ _ _ _ _ _ _ _ _ _ _ _ _ _ _ _ _ _ _ _ _ _ _ _ _ _ _ _ _ _ _ _ _ _ _ _ _ _ _ _ _ _ _ _ _ _ _ _ _ _ _ _ _ _ _ _ _ _ _ _ _ _ _ _ _ _ _ _ _ _ _ _ _ _ _ _ _ _ _ _ _ _ _ _ _ _ _ _ _ _ _ _ _ _ _ _ _ _ _ _ _ _ _ _ _ _ _ _ _ (HR.out _ (below_next H1.out.2.1 hbq)) hm (H1.out.1.next hbq) (H1.out.2.2.1.below hbq) (H1.out.2.2.2.below hbq) hl0' hl1' HFC.out HNC.out ?_
        intro x2 x8 x9 x68 x69 x70 x71 x72 x73 x74 x75 x76 x77 x78 x79 x80 x81 x82 x83 x84 x85 x86 x87 x88 x89 x90 x91 x92 x93 x94 x95 x96 x97 x98 x99 x100 x101 x102 x103 x104 x105 x106 x107 x108 x109 x110 x111 x112 x113 x114 x115 x116 x117 x118 x119 x120 x121 x122 x123 x124 x125 x126 x127 x128 x129 x130 x131 x132 x133 x134 x135 x136 x137 x138 x139 x140 x141 x142 x143 x144 x145 x146 x147 w3 hb3
        have HB3 := Lib.hid (below_next (below_next H1.out.2.1 hbq) hb3)
        clear hb3 hbq
        go_wp2_with fail
        go_roundw
        case measure => simp [intOf]; omega
        case rel => exact ⟨0 + 1, by omega, by go_num, HB3.out⟩
      · obtain ⟨i, rfl⟩ : ∃ i, j = i + 1 := ⟨j - 1, by omega⟩
        obtain ⟨d, hd⟩ : ∃ d, cts[i]? = some d := ⟨cts[i]'(by rw [HL.out]; omega), List.getElem?_eq_getElem _⟩
        obtain ⟨b', o', A0', c0', A1', c1', hA', hlt', hcc', _, _, _, _⟩ := hCr.at_ i d hd
        have hA'' : b' = b ∧ o' = o := by
          injection hA' with hA'
          injection hA' with h1 h2
          exact ⟨h1.symm, h2.symm⟩
        obtain ⟨rfl, rfl⟩ := hA''
        have z0 := hcc' 0 _ rfl
        rw [Nat.add_zero] at z0
        have hg := geq_false (HRS.out i d c hd hc)
        have HZ := Lib.hid z0
        clear hcc hCr hc hcm hr0 hr1 hbr hcc' hd hA' hlt' z0
        go_upto_region 10 with (fail)
        refine wp_world (fun W => At W wr.heap.size (ctV c A0 A1 c0 c1) ∧ Below w.heap.size w W ∧ Rd W A0 c.s0.length 1 (c.s0.map strV) ∧ Rd W A1 c.s1.length 1 (c.s1.map strV) ∧ b' < W.heap.size ∧ Below wr.heap.size wr W) (HKK.out _ rfl) ?_
        rintro W1 ⟨hK1, hb1, hq0, hq1, hbl, h1b⟩
        have z1 := (h1b.cell hlt).trans HZ.out
        have lK := hK1.lt
        have hK2 := hK1
        unfold ctV at hK2
        have y0 := hK2.cell 0 rfl
        have y1 := hK2.cell 1 rfl
        have y2 := hK2.cell 2 rfl
        have y3 := hK2.cell 3 rfl
        have y4 := hK2.cell 4 rfl
        have y5 := hK2.cell 5 rfl
        have y6 := hK2.cell 6 rfl
        have hrc := fun w2 => regrown_cell w2
        have HWR := Lib.hid (fun d os => HW.out _ (Sort.grow (redrawn W1 d) os) (below_next hb1 (below_regrown _ _ _)) HFC.out.key)
        have H1 := Lib.hid (And.intro hK1 (And.intro hb1 (And.intro hq0 hq1)))
        clear hK1 hK2 hb1 hq0 hq1 h1b v0 v1 v2 v3 v4 v5 v6
        go_wp2_with fail
        refine wp_region_quiet_below (by kernel_rfl) (by kernel_rfl) ?_
        repeat (any_goals (first | go_big_quiet_step ((go_at_call 20; exact Calls.regrown_of (HWR.out _ _))) | quiet_step ((go_at_call 20; exact Calls.regrown_of (HWR.out _ _)))))
        refine wpQuiet_nil ?_
        intro _ hw'
        obtain ⟨⟨dq, osq⟩, hw''⟩ := hw'
        subst hw''
        have hbq := below_regrown W1 dq osq
        go_wp2_with fail
        refine bl_loop2 _ A A0 A1 m cA wr.heap.size c0 c1 M c _ _ _ _ _ _ _ _ _ _ _ _ _ _ _ _ _ _ _ _ _ _ _ _ _ _ _ _ _ _ _ _ _ _ _ _ _ _ _ _ _ _ _ _ _ _ _ _ _ _ _ _ _ _ _ _ _ _ _ _ _ _ _ _ _ _ _ _ _ _ _ _ _ _ _ _ _ _ _ _ _ _ _ _ _ _ _ _ _ _ _ _ _ _ _ _ _ _ _ _ _ _ _ _ _ _ _ _ _ _ _ _ _ _ _ _ _ _ _ _ _ _ _ _ _ _ _ _ _ _ _ _ _ _ _ _ _ _ _ _ _ _ _ _ _ _ _ (HR.out _ (below_next H1.out.2.1 hbq)) hm (H1.out.1.next hbq) (H1.out.2.2.1.below hbq) (H1.out.2.2.2.below hbq) hl0' hl1' HFC.out HNC.out ?_
        intro x2 x8 x9 x68 x69 x70 x71 x72 x73 x74 x75 x76 x77 x78 x79 x80 x81 x82 x83 x84 x85 x86 x87 x88 x89 x90 x91 x92 x93 x94 x95 x96 x97 x98 x99 x100 x101 x102 x103 x104 x105 x106 x107 x108 x109 x110 x111 x112 x113 x114 x115 x116 x117 x118 x119 x120 x121 x122 x123 x124 x125 x126 x127 x128 x129 x130 x131 x132 x133 x134 x135 x136 x137 x138 x139 x140 x141 x142 x143 x144 x145 x146 x147 w3 hb3
        have HB3 := Lib.hid (below_next (below_next H1.out.2.1 hbq) hb3)
        clear hb3 hbq
        go_wp2_with fail
        go_roundw
        case measure => simp [intOf]; omega
        case rel => exact ⟨i + 1 + 1, by omega, by go_num, HB3.out⟩
    · have hjn' : j = n5 := by omega
      subst hjn'
      have HBR := Lib.hid hbr
      clear hbr
      go_wp2_with fail
      exact HX.out _ _ _ _ _ _ _ _ _ _ _ _ _ _ _ _ _ _ _ _ _ _ _ _ _ _ _ _ _ _ _ _ _ _ _ _ _ _ _ _ _ _ _ _ _ _ _ _ _ _ _ _ _ _ _ _ _ _ _ _ _ _ _ _ _ _ _ _ _ _ _ _ _ _ _ _ _ _ _ _ _ _ _ _ _ _ _ _ _ _ _ _ _ _ _ _ _ _ _ _ _ _ _ _ _ _ _ _ _ _ _ _ _ _ _ _ _ HBR.out
end Go.Proofs.Ytfbpjhhcpockfaa
