/- BookLists' middle loop: over the labels of a contact. No condition. -/
import Derived.Test.YtfbpjhhcpockfaaLists3
set_option linter.unusedVariables false
set_option linter.unusedSimpArgs false
namespace Go.Proofs.Ytfbpjhhcpockfaa
open Go.RowKit Go.Shelf Go.Maps
noncomputable def blB2 : Code := loopOf Try.f6.body 1
set_option maxRecDepth 100000 in
set_option maxHeartbeats 4000000 in
theorem bl_loop2 (Q : Exit → Act → World → Prop) (A A0 A1 : Option Addr) (m cA K c0 c1 : Nat) (M : List Ev) (c : Ct) (w : World) (u0 u1 u2 u3 u5 u6 u9 u10 u11 u12 u13 u14 u15 u16 u17 u18 u19 u20 u21 u22 u23 u24 u25 u26 u27 u28 u29 u30 u31 u32 u33 u34 u35 u36 u37 u38 u39 u40 u41 u42 u43 u44 u45 u46 u47 u48 u49 u50 u51 u52 u53 u54 u55 u56 u57 u58 u59 u60 u61 u62 u63 u64 u65 u66 u67 u68 u69 u70 u71 u72 u73 u74 u75 u76 u77 u78 u79 u80 u81 u82 u83 u84 u85 u86 u87 u88 u89 u90 u91 u92 u93 u94 u95 u96 u97 u98 u99 u100 u101 u102 u103 u104 u105 u106 u107 u108 u109 u110 u111 u112 u113 u114 u115 u116 u117 u118 u119 u120 u121 u122 u123 u124 u125 u126 u127 u128 u129 u130 u131 u132 u133 u134 u135 u136 u137 u138 u139 u140 u141 u142 u143 u144 u145 u146 u147 u148 : Value)
    (hR : RdEv w A m M) (hm : m ≤ 1000000000) (hK : At w K (ctV c A0 A1 c0 c1)) (h0 : Rd w A0 c.s0.length 1 (c.s0.map strV)) (h1 : Rd w A1 c.s1.length 1 (c.s1.map strV)) (hlc0 : c.s0.length ≤ c0) (hlc1 : c.s1.length ≤ c1) (hF : FairC M c) (hlen : ∀ l, (c.s l).length ≤ 1000000000)
    (hexit : ∀ (x2 x8 x9 x68 x69 x70 x71 x72 x73 x74 x75 x76 x77 x78 x79 x80 x81 x82 x83 x84 x85 x86 x87 x88 x89 x90 x91 x92 x93 x94 x95 x96 x97 x98 x99 x100 x101 x102 x103 x104 x105 x106 x107 x108 x109 x110 x111 x112 x113 x114 x115 x116 x117 x118 x119 x120 x121 x122 x123 x124 x125 x126 x127 x128 x129 x130 x131 x132 x133 x134 x135 x136 x137 x138 x139 x140 x141 x142 x143 x144 x145 x146 x147 : Value) (w' : World), Below w.heap.size w w' →
      Q (.exit 2) ⟨(List.toArray (u0 :: u1 :: x2 :: u3 :: .slice A m cA :: u5 :: u6 :: .pointer (some ⟨K, 0, none⟩) :: x8 :: x9 :: u10 :: u11 :: u12 :: u13 :: u14 :: u15 :: u16 :: u17 :: u18 :: u19 :: u20 :: u21 :: u22 :: u23 :: u24 :: u25 :: u26 :: u27 :: u28 :: u29 :: u30 :: u31 :: u32 :: u33 :: u34 :: u35 :: u36 :: u37 :: u38 :: u39 :: u40 :: u41 :: u42 :: u43 :: u44 :: u45 :: u46 :: u47 :: u48 :: u49 :: u50 :: u51 :: u52 :: u53 :: u54 :: u55 :: u56 :: u57 :: u58 :: u59 :: u60 :: u61 :: u62 :: u63 :: u64 :: u65 :: u66 :: u67 :: x68 :: x69 :: x70 :: x71 :: x72 :: x73 :: x74 :: x75 :: x76 :: x77 :: x78 :: x79 :: x80 :: x81 :: x82 :: x83 :: x84 :: x85 :: x86 :: x87 :: x88 :: x89 :: x90 :: x91 :: x92 :: x93 :: x94 :: x95 :: x96 :: x97 :: x98 :: x99 :: x100 :: x101 :: x102 :: x103 :: x104 :: x105 :: x106 :: x107 :: x108 :: x109 :: x110 :: x111 :: x112 :: x113 :: x114 :: x115 :: x116 :: x117 :: x118 :: x119 :: x120 :: x121 :: x122 :: x123 :: x124 :: x125 :: x126 :: x127 :: x128 :: x129 :: x130 :: x131 :: x132 :: x133 :: x134 :: x135 :: x136 :: x137 :: x138 :: x139 :: x140 :: x141 :: x142 :: x143 :: x144 :: x145 :: x146 :: x147 :: u148 :: [])), []⟩ w') :
    Code.wp Try.prog (.loop blB2) Q ⟨(List.toArray (u0 :: u1 :: u2 :: u3 :: .slice A m cA :: u5 :: u6 :: .pointer (some ⟨K, 0, none⟩) :: .int .i64 0 :: u9 :: u10 :: u11 :: u12 :: u13 :: u14 :: u15 :: u16 :: u17 :: u18 :: u19 :: u20 :: u21 :: u22 :: u23 :: u24 :: u25 :: u26 :: u27 :: u28 :: u29 :: u30 :: u31 :: u32 :: u33 :: u34 :: u35 :: u36 :: u37 :: u38 :: u39 :: u40 :: u41 :: u42 :: u43 :: u44 :: u45 :: u46 :: u47 :: u48 :: u49 :: u50 :: u51 :: u52 :: u53 :: u54 :: u55 :: u56 :: u57 :: u58 :: u59 :: u60 :: u61 :: u62 :: u63 :: u64 :: u65 :: u66 :: u67 :: u68 :: u69 :: u70 :: u71 :: u72 :: u73 :: u74 :: u75 :: u76 :: u77 :: u78 :: u79 :: u80 :: u81 :: u82 :: u83 :: u84 :: u85 :: u86 :: u87 :: u88 :: u89 :: u90 :: u91 :: u92 :: u93 :: u94 :: u95 :: u96 :: u97 :: u98 :: u99 :: u100 :: u101 :: u102 :: u103 :: u104 :: u105 :: u106 :: u107 :: u108 :: u109 :: u110 :: u111 :: u112 :: u113 :: u114 :: u115 :: u116 :: u117 :: u118 :: u119 :: u120 :: u121 :: u122 :: u123 :: u124 :: u125 :: u126 :: u127 :: u128 :: u129 :: u130 :: u131 :: u132 :: u133 :: u134 :: u135 :: u136 :: u137 :: u138 :: u139 :: u140 :: u141 :: u142 :: u143 :: u144 :: u145 :: u146 :: u147 :: u148 :: [])), []⟩ w := by
  conv => arg 2; arg 1; whnf
  have HW := Lib.hid (fun (e : Ev) (W : World) (h : Below w.heap.size w W) => wrote_yes A m cA M e W (hR.below h) hm)
  have HR := Lib.hid (fun (W : World) (h : Below w.heap.size w W) => hR.below h)
  have HK := Lib.hid (fun (W : World) (h : Below w.heap.size w W) => hK.next h)
  have H0 := Lib.hid (fun (W : World) (h : Below w.heap.size w W) => h0.below h)
  have H1 := Lib.hid (fun (W : World) (h : Below w.heap.size w W) => h1.below h)
  have HX := Lib.hid hexit
  have HF := Lib.hid hF
  have HN := Lib.hid hlen
  clear hexit hR hK h0 h1 hF hlen
  go_loopw [8] (fun i wr => ∃ l : Nat, l ≤ 2 ∧ i = .int .i64 l ∧ Below w.heap.size w wr) (fun i _ => 2 - (intOf i).toNat)
  case atStart => exact ⟨0, by omega, rfl, Below.refl _ _⟩
  case round =>
    obtain ⟨l, hl, rfl, hbr⟩ := hrel
    have hKr := HK.out wr hbr
    have lK := hKr.lt
    unfold ctV at hKr
    have y0 := hKr.cell 0 rfl
    have y1 := hKr.cell 1 rfl
    have y2 := hKr.cell 2 rfl
    have y3 := hKr.cell 3 rfl
    have y4 := hKr.cell 4 rfl
    have y5 := hKr.cell 5 rfl
    have y6 := hKr.cell 6 rfl
    have hrc := fun w2 => regrown_cell w2
    have HWR := Lib.hid (fun d os e h => HW.out e (Sort.grow (redrawn wr d) os) (below_next hbr (below_regrown _ _ _)) h)
    have HBR := Lib.hid hbr
    have HE : ∀ l, l < 2 → c.h l = false → c.f l = ⟨#[]⟩ := HF.out.empty
    have HV : ∀ l : Nat, l < 2 → c.h l = true → M.any (wroteE (evQ 3 (ba c.key) l (c.f l))) = true := HF.out.field
    have e0 : c.h 0 = c.h0 ∧ c.f 0 = c.f0 := ⟨rfl, rfl⟩
    have e1 : c.h 1 = c.h1 ∧ c.f 1 = c.f1 := ⟨rfl, rfl⟩
    have hE0 := HE 0 (by decide)
    have hE1 := HE 1 (by decide)
    have hV0 := HV 0 (by decide)
    have hV1 := HV 1 (by decide)
    rw [e0.1, e0.2] at hE0 hV0
    rw [e1.1, e1.2] at hE1 hV1
    clear hKr hbr HE HV e0 e1
    rcases (show l = 0 ∨ l = 1 ∨ l = 2 by omega) with rfl | rfl | rfl
    · clear hE1 hV1
      cases hb : c.h0
      · have fe := hE0 hb
        rw [hb] at y1
        rw [fe] at y3
        clear hE0 hV0 hb
        go_wp2_with fail
        refine wp_region_quiet_below (by kernel_rfl) (by kernel_rfl) ?_
        repeat (any_goals (first | go_big_quiet_step (fail) | quiet_step (fail)))
        refine wpQuiet_nil ?_
        intro _ hw'
        obtain ⟨⟨dq, osq⟩, hw''⟩ := hw'
        subst hw''
        go_wp2_with fail
        have hbq := below_next HBR.out (below_regrown wr dq osq)
        refine bl_loop3 _ A A0 A1 m cA K c0 c1 M c 0 _ rfl (by decide) _ _ _ _ _ _ _ _ _ _ _ _ _ _ _ _ _ _ _ _ _ _ _ _ _ _ _ _ _ _ _ _ _ _ _ _ _ _ _ _ _ _ _ _ _ _ _ _ _ _ _ _ _ _ _ _ _ _ _ _ _ _ _ _ _ _ _ _ _ _ _ _ _ _ _ _ _ _ _ _ _ _ _ _ _ _ _ _ _ _ _ _ _ _ _ _ _ _ _ _ _ _ _ _ _ _ _ _ _ _ _ _ _ _ _ _ _ _ _ _ _ _ _ _ _ _ _ _ _ _ _ _ _ _ _ _ _ _ _ _ _ _ _ _ _ _ (HR.out _ hbq) hm (HK.out _ hbq) (H0.out _ hbq) (H1.out _ hbq) hlc0 hlc1 HF.out HN.out ?_
        intro x2 x9 x103 x104 x105 x106 x107 x108 x109 x110 x111 x112 x113 x114 x115 x116 x117 x118 x119 x120 x121 x122 x123 x124 x125 x126 x127 x128 x129 x130 x131 x132 x133 x134 x135 x136 x137 x138 x139 x140 x141 x142 x143 x144 x145 x146 x147 w3 hb3
        have HB3 := Lib.hid (below_next hbq hb3)
        clear hb3 hbq
        go_wp2_with fail
        go_roundw
        case measure => simp [intOf]
        case rel => exact ⟨0 + 1, by omega, by go_num, HB3.out⟩
      · have fv := hV0 hb
        have HWR2 := Lib.hid (fun d os => HWR.out d os _ fv)
        rw [hb] at y1
        clear hE0 hV0 hb fv
        go_wp2_with fail
        refine wp_region_quiet_below (by kernel_rfl) (by kernel_rfl) ?_
        repeat (any_goals (first | go_big_quiet_step ((go_at_call 20; exact Calls.regrown_of (HWR2.out _ _))) | quiet_step ((go_at_call 20; exact Calls.regrown_of (HWR2.out _ _)))))
        refine wpQuiet_nil ?_
        intro _ hw'
        obtain ⟨⟨dq, osq⟩, hw''⟩ := hw'
        subst hw''
        go_wp2_with fail
        have hbq := below_next HBR.out (below_regrown wr dq osq)
        refine bl_loop3 _ A A0 A1 m cA K c0 c1 M c 0 _ rfl (by decide) _ _ _ _ _ _ _ _ _ _ _ _ _ _ _ _ _ _ _ _ _ _ _ _ _ _ _ _ _ _ _ _ _ _ _ _ _ _ _ _ _ _ _ _ _ _ _ _ _ _ _ _ _ _ _ _ _ _ _ _ _ _ _ _ _ _ _ _ _ _ _ _ _ _ _ _ _ _ _ _ _ _ _ _ _ _ _ _ _ _ _ _ _ _ _ _ _ _ _ _ _ _ _ _ _ _ _ _ _ _ _ _ _ _ _ _ _ _ _ _ _ _ _ _ _ _ _ _ _ _ _ _ _ _ _ _ _ _ _ _ _ _ _ _ _ _ (HR.out _ hbq) hm (HK.out _ hbq) (H0.out _ hbq) (H1.out _ hbq) hlc0 hlc1 HF.out HN.out ?_
        intro x2 x9 x103 x104 x105 x106 x107 x108 x109 x110 x111 x112 x113 x114 x115 x116 x117 x118 x119 x120 x121 x122 x123 x124 x125 x126 x127 x128 x129 x130 x131 x132 x133 x134 x135 x136 x137 x138 x139 x140 x141 x142 x143 x144 x145 x146 x147 w3 hb3
        have HB3 := Lib.hid (below_next hbq hb3)
        clear hb3 hbq
        go_wp2_with fail
        go_roundw
        case measure => simp [intOf]
        case rel => exact ⟨0 + 1, by omega, by go_num, HB3.out⟩
    · clear hE0 hV0
      cases hb : c.h1
      · have fe := hE1 hb
        rw [hb] at y2
        rw [fe] at y4
        clear hE1 hV1 hb
        go_wp2_with fail
        refine wp_region_quiet_below (by kernel_rfl) (by kernel_rfl) ?_
        repeat (any_goals (first | go_big_quiet_step (fail) | quiet_step (fail)))
        refine wpQuiet_nil ?_
        intro _ hw'
        obtain ⟨⟨dq, osq⟩, hw''⟩ := hw'
        subst hw''
        go_wp2_with fail
        have hbq := below_next HBR.out (below_regrown wr dq osq)
        refine bl_loop3 _ A A0 A1 m cA K c0 c1 M c 1 _ rfl (by decide) _ _ _ _ _ _ _ _ _ _ _ _ _ _ _ _ _ _ _ _ _ _ _ _ _ _ _ _ _ _ _ _ _ _ _ _ _ _ _ _ _ _ _ _ _ _ _ _ _ _ _ _ _ _ _ _ _ _ _ _ _ _ _ _ _ _ _ _ _ _ _ _ _ _ _ _ _ _ _ _ _ _ _ _ _ _ _ _ _ _ _ _ _ _ _ _ _ _ _ _ _ _ _ _ _ _ _ _ _ _ _ _ _ _ _ _ _ _ _ _ _ _ _ _ _ _ _ _ _ _ _ _ _ _ _ _ _ _ _ _ _ _ _ _ _ _ (HR.out _ hbq) hm (HK.out _ hbq) (H0.out _ hbq) (H1.out _ hbq) hlc0 hlc1 HF.out HN.out ?_
        intro x2 x9 x103 x104 x105 x106 x107 x108 x109 x110 x111 x112 x113 x114 x115 x116 x117 x118 x119 x120 x121 x122 x123 x124 x125 x126 x127 x128 x129 x130 x131 x132 x133 x134 x135 x136 x137 x138 x139 x140 x141 x142 x143 x144 x145 x146 x147 w3 hb3
        have HB3 := Lib.hid (below_next hbq hb3)
        clear hb3 hbq
        go_wp2_with fail
        go_roundw
        case measure => simp [intOf]
        case rel => exact ⟨1 + 1, by omega, by go_num, HB3.out⟩
      · have fv := hV1 hb
        have HWR2 := Lib.hid (fun d os => HWR.out d os _ fv)
        rw [hb] at y2
        clear hE1 hV1 hb fv
        go_wp2_with fail
        refine wp_region_quiet_below (by kernel_rfl) (by kernel_rfl) ?_
        repeat (any_goals (first | go_big_quiet_step ((go_at_call 20; exact Calls.regrown_of (HWR2.out _ _))) | quiet_step ((go_at_call 20; exact Calls.regrown_of (HWR2.out _ _)))))
        refine wpQuiet_nil ?_
        intro _ hw'
        obtain ⟨⟨dq, osq⟩, hw''⟩ := hw'
        subst hw''
        go_wp2_with fail
        have hbq := below_next HBR.out (below_regrown wr dq osq)
        refine bl_loop3 _ A A0 A1 m cA K c0 c1 M c 1 _ rfl (by decide) _ _ _ _ _ _ _ _ _ _ _ _ _ _ _ _ _ _ _ _ _ _ _ _ _ _ _ _ _ _ _ _ _ _ _ _ _ _ _ _ _ _ _ _ _ _ _ _ _ _ _ _ _ _ _ _ _ _ _ _ _ _ _ _ _ _ _ _ _ _ _ _ _ _ _ _ _ _ _ _ _ _ _ _ _ _ _ _ _ _ _ _ _ _ _ _ _ _ _ _ _ _ _ _ _ _ _ _ _ _ _ _ _ _ _ _ _ _ _ _ _ _ _ _ _ _ _ _ _ _ _ _ _ _ _ _ _ _ _ _ _ _ _ _ _ _ (HR.out _ hbq) hm (HK.out _ hbq) (H0.out _ hbq) (H1.out _ hbq) hlc0 hlc1 HF.out HN.out ?_
        intro x2 x9 x103 x104 x105 x106 x107 x108 x109 x110 x111 x112 x113 x114 x115 x116 x117 x118 x119 x120 x121 x122 x123 x124 x125 x126 x127 x128 x129 x130 x131 x132 x133 x134 x135 x136 x137 x138 x139 x140 x141 x142 x143 x144 x145 x146 x147 w3 hb3
        have HB3 := Lib.hid (below_next hbq hb3)
        clear hb3 hbq
        go_wp2_with fail
        go_roundw
        case measure => simp [intOf]
        case rel => exact ⟨1 + 1, by omega, by go_num, HB3.out⟩
    · go_wp2_with fail
      exact HX.out _ _ _ _ _ _ _ _ _ _ _ _ _ _ _ _ _ _ _ _ _ _ _ _ _ _ _ _ _ _ _ _ _ _ _ _ _ _ _ _ _ _ _ _ _ _ _ _ _ _ _ _ _ _ _ _ _ _ _ _ _ _ _ _ _ _ _ _ _ _ _ _ _ _ _ _ _ _ _ _ _ _ _ _ HBR.out
end Go.Proofs.Ytfbpjhhcpockfaa
