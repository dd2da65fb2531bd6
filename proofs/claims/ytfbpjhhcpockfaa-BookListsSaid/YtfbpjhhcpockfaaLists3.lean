/- BookLists' innermost loop: over the values of a set. No condition. -/
import Derived.Test.YtfbpjhhcpockfaaListsPlain
import Derived.Lib.QuietBelow
set_option linter.unusedVariables false
set_option linter.unusedSimpArgs false
namespace Go.Proofs.Ytfbpjhhcpockfaa
open Go.RowKit Go.Shelf Go.Maps
noncomputable def blB3 : Code := loopOf Try.f6.body 2
/-- wrote, asked for what was written. -/
theorem wrote_yes (A : Option Addr) (n c : Nat) (L : List Ev) (e : Ev) (w : World) (hR : RdEv w A n L) (hn : n ≤ 1000000000) (h : L.any (wroteE e) = true) :
    Calls Try.prog 20 #[.slice A n c, e.v] w fun r w' => r = .returned (.bool true) ∧ Below w.heap.size w w' := by
  refine (wrote_any A n c L e w hR hn).mono ?_
  rintro r w' ⟨rfl, hb⟩
  exact ⟨by rw [h], hb⟩
theorem row_cell {w : World} {A : Option Addr} {S : List Str} (h : Rd w A S.length 1 (S.map strV)) {j : Nat} {x : Str} (hx : S[j]? = some x) :
    ∃ b o, A = some ⟨b, o, none⟩ ∧ ∀ (i : Nat) (y : Str), S[i]? = some y → w.cell? ⟨b, o + i, none⟩ = some (.string (ba y)) := by
  have hne : S.map strV ≠ [] := fun e => by
    have := congrArg List.length e
    have h2 := (List.getElem?_eq_some_iff.1 hx).1
    simp at this
    rw [this] at h2
    simp at h2
  obtain ⟨b, o, hA, hc⟩ := h.at_ hne
  exact ⟨b, o, hA, fun i y hy => hc i _ (by rw [List.getElem?_map, hy]; rfl)⟩
set_option maxRecDepth 100000 in
set_option maxHeartbeats 4000000 in
theorem bl_loop3 (Q : Exit → Act → World → Prop) (A A0 A1 : Option Addr) (m cA K c0 c1 : Nat) (M : List Ev) (c : Ct) (l : Nat) (ri : Int) (hri : ri = (l : Int)) (hl : l = 0 ∨ l = 1) (w : World) (u0 u1 u2 u3 u5 u6 u10 u11 u12 u13 u14 u15 u16 u17 u18 u19 u20 u21 u22 u23 u24 u25 u26 u27 u28 u29 u30 u31 u32 u33 u34 u35 u36 u37 u38 u39 u40 u41 u42 u43 u44 u45 u46 u47 u48 u49 u50 u51 u52 u53 u54 u55 u56 u57 u58 u59 u60 u61 u62 u63 u64 u65 u66 u67 u68 u69 u70 u71 u72 u73 u74 u75 u76 u77 u78 u79 u80 u81 u82 u83 u84 u85 u86 u87 u88 u89 u90 u91 u92 u93 u94 u95 u96 u97 u98 u99 u100 u101 u102 u103 u104 u105 u106 u107 u108 u109 u110 u111 u112 u113 u114 u115 u116 u117 u118 u119 u120 u121 u122 u123 u124 u125 u126 u127 u128 u129 u130 u131 u132 u133 u134 u135 u136 u137 u138 u139 u140 u141 u142 u143 u144 u145 u146 u147 u148 : Value)
    (hR : RdEv w A m M) (hm : m ≤ 1000000000) (hK : At w K (ctV c A0 A1 c0 c1)) (h0 : Rd w A0 c.s0.length 1 (c.s0.map strV)) (h1 : Rd w A1 c.s1.length 1 (c.s1.map strV)) (hlc0 : c.s0.length ≤ c0) (hlc1 : c.s1.length ≤ c1) (hF : FairC M c) (hlen : ∀ l, (c.s l).length ≤ 1000000000)
    (hexit : ∀ (x2 x9 x103 x104 x105 x106 x107 x108 x109 x110 x111 x112 x113 x114 x115 x116 x117 x118 x119 x120 x121 x122 x123 x124 x125 x126 x127 x128 x129 x130 x131 x132 x133 x134 x135 x136 x137 x138 x139 x140 x141 x142 x143 x144 x145 x146 x147 : Value) (w' : World), Below w.heap.size w w' →
      Q (.exit 4) ⟨(List.toArray (u0 :: u1 :: x2 :: u3 :: .slice A m cA :: u5 :: u6 :: .pointer (some ⟨K, 0, none⟩) :: .int .i64 ri :: x9 :: u10 :: u11 :: u12 :: u13 :: u14 :: u15 :: u16 :: u17 :: u18 :: u19 :: u20 :: u21 :: u22 :: u23 :: u24 :: u25 :: u26 :: u27 :: u28 :: u29 :: u30 :: u31 :: u32 :: u33 :: u34 :: u35 :: u36 :: u37 :: u38 :: u39 :: u40 :: u41 :: u42 :: u43 :: u44 :: u45 :: u46 :: u47 :: u48 :: u49 :: u50 :: u51 :: u52 :: u53 :: u54 :: u55 :: u56 :: u57 :: u58 :: u59 :: u60 :: u61 :: u62 :: u63 :: u64 :: u65 :: u66 :: u67 :: u68 :: u69 :: u70 :: u71 :: u72 :: u73 :: u74 :: u75 :: u76 :: u77 :: u78 :: u79 :: u80 :: u81 :: u82 :: u83 :: u84 :: u85 :: u86 :: u87 :: u88 :: u89 :: u90 :: u91 :: u92 :: u93 :: u94 :: u95 :: u96 :: u97 :: u98 :: u99 :: u100 :: u101 :: u102 :: x103 :: x104 :: x105 :: x106 :: x107 :: x108 :: x109 :: x110 :: x111 :: x112 :: x113 :: x114 :: x115 :: x116 :: x117 :: x118 :: x119 :: x120 :: x121 :: x122 :: x123 :: x124 :: x125 :: x126 :: x127 :: x128 :: x129 :: x130 :: x131 :: x132 :: x133 :: x134 :: x135 :: x136 :: x137 :: x138 :: x139 :: x140 :: x141 :: x142 :: x143 :: x144 :: x145 :: x146 :: x147 :: u148 :: [])), []⟩ w') :
    Code.wp Try.prog (.loop blB3) Q ⟨(List.toArray (u0 :: u1 :: u2 :: u3 :: .slice A m cA :: u5 :: u6 :: .pointer (some ⟨K, 0, none⟩) :: .int .i64 ri :: .int .i64 0 :: u10 :: u11 :: u12 :: u13 :: u14 :: u15 :: u16 :: u17 :: u18 :: u19 :: u20 :: u21 :: u22 :: u23 :: u24 :: u25 :: u26 :: u27 :: u28 :: u29 :: u30 :: u31 :: u32 :: u33 :: u34 :: u35 :: u36 :: u37 :: u38 :: u39 :: u40 :: u41 :: u42 :: u43 :: u44 :: u45 :: u46 :: u47 :: u48 :: u49 :: u50 :: u51 :: u52 :: u53 :: u54 :: u55 :: u56 :: u57 :: u58 :: u59 :: u60 :: u61 :: u62 :: u63 :: u64 :: u65 :: u66 :: u67 :: u68 :: u69 :: u70 :: u71 :: u72 :: u73 :: u74 :: u75 :: u76 :: u77 :: u78 :: u79 :: u80 :: u81 :: u82 :: u83 :: u84 :: u85 :: u86 :: u87 :: u88 :: u89 :: u90 :: u91 :: u92 :: u93 :: u94 :: u95 :: u96 :: u97 :: u98 :: u99 :: u100 :: u101 :: u102 :: u103 :: u104 :: u105 :: u106 :: u107 :: u108 :: u109 :: u110 :: u111 :: u112 :: u113 :: u114 :: u115 :: u116 :: u117 :: u118 :: u119 :: u120 :: u121 :: u122 :: u123 :: u124 :: u125 :: u126 :: u127 :: u128 :: u129 :: u130 :: u131 :: u132 :: u133 :: u134 :: u135 :: u136 :: u137 :: u138 :: u139 :: u140 :: u141 :: u142 :: u143 :: u144 :: u145 :: u146 :: u147 :: u148 :: [])), []⟩ w := by
  conv => arg 2; arg 1; whnf
  have HW := Lib.hid (fun (e : Ev) (W : World) (h : Below w.heap.size w W) => wrote_yes A m cA M e W (hR.below h) hm)
  have HK := Lib.hid (fun (W : World) (h : Below w.heap.size w W) => hK.next h)
  have HX := Lib.hid hexit
  have HF := Lib.hid hF
  rcases hl with rfl | rfl
  · subst hri
    have HS := Lib.hid (fun (W : World) (h : Below w.heap.size w W) => h0.below h)
    have hlen' : c.s0.length ≤ 1000000000 := hlen 0
    clear hexit hR hK h0 h1 hF hlen
    go_loopw [9] (fun i wr => ∃ j : Nat, j ≤ c.s0.length ∧ i = .int .i64 j ∧ Below w.heap.size w wr) (fun i _ => c.s0.length - (intOf i).toNat)
    case atStart => exact ⟨0, by omega, rfl, Below.refl _ _⟩
    case round =>
      obtain ⟨j, hj, rfl, hbr⟩ := hrel
      have hKr := HK.out wr hbr
      have lK := hKr.lt
      unfold ctV at hKr
      have y0 := hKr.cell 0 rfl
      have y1 := hKr.cell 1 rfl
      have y2 := hKr.cell 2 rfl
      have y3 := hKr.cell 3 rfl
      have y4 := hKr.cell 4 rfl
      have y5 := hKr.cell 5 rfl
      have y6 := hKr.cell 6 rfl
      by_cases hjn : j < c.s0.length
      · obtain ⟨x, hx⟩ : ∃ x, c.s0[j]? = some x := ⟨c.s0[j]'hjn, List.getElem?_eq_getElem _⟩
        obtain ⟨b, o, hA, hcc⟩ := row_cell (HS.out wr hbr) hx
        have vx := hcc j x hx
        have lb : b < wr.heap.size := World.block_lt_of_cell? wr _ vx
        have hrc := fun w2 => regrown_cell w2
        have HWR := Lib.hid (fun d os => HW.out (evQ 4 (ba c.key) ((0 : Nat) : Int) (ba x)) (Sort.grow (redrawn wr d) os) (below_next hbr (below_regrown _ _ _)) (HF.out.value 0 (by decide) x (List.mem_of_getElem? hx)))
        have HBR := Lib.hid hbr
        rcases Nat.eq_zero_or_pos j with h0 | hpos
        · subst h0
          clear hKr hcc hbr hx
          subst hA
          have vx0 := vx
          rw [Nat.add_zero] at vx0
          go_wp2_with fail
          refine wp_region_quiet_below (by kernel_rfl) (by kernel_rfl) ?_
          repeat (any_goals (first | go_big_quiet_step ((go_at_call 20; exact Calls.regrown_of (HWR.out _ _))) | quiet_step ((go_at_call 20; exact Calls.regrown_of (HWR.out _ _)))))
          refine wpQuiet_nil ?_
          intro _ hw'
          obtain ⟨⟨dq, osq⟩, hw''⟩ := hw'
          subst hw''
          go_wp2_with fail
          go_roundw
          case measure => simp [intOf]; omega
          case rel => exact ⟨0 + 1, by omega, by go_num, below_next HBR.out (below_regrown _ _ _)⟩
        · obtain ⟨i, rfl⟩ : ∃ i, j = i + 1 := ⟨j - 1, by omega⟩
          obtain ⟨x', hx'⟩ : ∃ x, c.s0[i]? = some x := ⟨c.s0[i]'(by omega), List.getElem?_eq_getElem _⟩
          have vx' := hcc i x' hx'
          have hg := geq_false (rise_of (HF.out.rise 0 (by decide)) hjn hx' hx)
          clear hKr hcc hbr hx hx'
          subst hA
          go_wp2_with fail
          refine wp_region_quiet_below (by kernel_rfl) (by kernel_rfl) ?_
          repeat (any_goals (first | go_big_quiet_step ((go_at_call 20; exact Calls.regrown_of (HWR.out _ _))) | quiet_step ((go_at_call 20; exact Calls.regrown_of (HWR.out _ _)))))
          refine wpQuiet_nil ?_
          intro _ hw'
          obtain ⟨⟨dq, osq⟩, hw''⟩ := hw'
          subst hw''
          go_wp2_with fail
          go_roundw
          case measure => simp [intOf]; omega
          case rel => exact ⟨i + 1 + 1, by omega, by go_num, below_next HBR.out (below_regrown _ _ _)⟩
      · have hjn' : j = c.s0.length := by omega
        subst hjn'
        have HBR := Lib.hid hbr
        clear hKr hbr
        go_wp2_with fail
        exact HX.out _ _ _ _ _ _ _ _ _ _ _ _ _ _ _ _ _ _ _ _ _ _ _ _ _ _ _ _ _ _ _ _ _ _ _ _ _ _ _ _ _ _ _ _ _ _ _ _ HBR.out
  · subst hri
    have HS := Lib.hid (fun (W : World) (h : Below w.heap.size w W) => h1.below h)
    have hlen' : c.s1.length ≤ 1000000000 := hlen 1
    clear hexit hR hK h0 h1 hF hlen
    go_loopw [9] (fun i wr => ∃ j : Nat, j ≤ c.s1.length ∧ i = .int .i64 j ∧ Below w.heap.size w wr) (fun i _ => c.s1.length - (intOf i).toNat)
    case atStart => exact ⟨0, by omega, rfl, Below.refl _ _⟩
    case round =>
      obtain ⟨j, hj, rfl, hbr⟩ := hrel
      have hKr := HK.out wr hbr
      have lK := hKr.lt
      unfold ctV at hKr
      have y0 := hKr.cell 0 rfl
      have y1 := hKr.cell 1 rfl
      have y2 := hKr.cell 2 rfl
      have y3 := hKr.cell 3 rfl
      have y4 := hKr.cell 4 rfl
      have y5 := hKr.cell 5 rfl
      have y6 := hKr.cell 6 rfl
      by_cases hjn : j < c.s1.length
      · obtain ⟨x, hx⟩ : ∃ x, c.s1[j]? = some x := ⟨c.s1[j]'hjn, List.getElem?_eq_getElem _⟩
        obtain ⟨b, o, hA, hcc⟩ := row_cell (HS.out wr hbr) hx
        have vx := hcc j x hx
        have lb : b < wr.heap.size := World.block_lt_of_cell? wr _ vx
        have hrc := fun w2 => regrown_cell w2
        have HWR := Lib.hid (fun d os => HW.out (evQ 4 (ba c.key) ((1 : Nat) : Int) (ba x)) (Sort.grow (redrawn wr d) os) (below_next hbr (below_regrown _ _ _)) (HF.out.value 1 (by decide) x (List.mem_of_getElem? hx)))
        have HBR := Lib.hid hbr
        rcases Nat.eq_zero_or_pos j with h0 | hpos
        · subst h0
          clear hKr hcc hbr hx
          subst hA
          have vx0 := vx
          rw [Nat.add_zero] at vx0
          go_wp2_with fail
          refine wp_region_quiet_below (by kernel_rfl) (by kernel_rfl) ?_
          repeat (any_goals (first | go_big_quiet_step ((go_at_call 20; exact Calls.regrown_of (HWR.out _ _))) | quiet_step ((go_at_call 20; exact Calls.regrown_of (HWR.out _ _)))))
          refine wpQuiet_nil ?_
          intro _ hw'
          obtain ⟨⟨dq, osq⟩, hw''⟩ := hw'
          subst hw''
          go_wp2_with fail
          go_roundw
          case measure => simp [intOf]; omega
          case rel => exact ⟨0 + 1, by omega, by go_num, below_next HBR.out (below_regrown _ _ _)⟩
        · obtain ⟨i, rfl⟩ : ∃ i, j = i + 1 := ⟨j - 1, by omega⟩
          obtain ⟨x', hx'⟩ : ∃ x, c.s1[i]? = some x := ⟨c.s1[i]'(by omega), List.getElem?_eq_getElem _⟩
          have vx' := hcc i x' hx'
          have hg := geq_false (rise_of (HF.out.rise 1 (by decide)) hjn hx' hx)
          clear hKr hcc hbr hx hx'
          subst hA
          go_wp2_with fail
          refine wp_region_quiet_below (by kernel_rfl) (by kernel_rfl) ?_
          repeat (any_goals (first | go_big_quiet_step ((go_at_call 20; exact Calls.regrown_of (HWR.out _ _))) | quiet_step ((go_at_call 20; exact Calls.regrown_of (HWR.out _ _)))))
          refine wpQuiet_nil ?_
          intro _ hw'
          obtain ⟨⟨dq, osq⟩, hw''⟩ := hw'
          subst hw''
          go_wp2_with fail
          go_roundw
          case measure => simp [intOf]; omega
          case rel => exact ⟨i + 1 + 1, by omega, by go_num, below_next HBR.out (below_regrown _ _ _)⟩
      · have hjn' : j = c.s1.length := by omega
        subst hjn'
        have HBR := Lib.hid hbr
        clear hKr hbr
        go_wp2_with fail
        exact HX.out _ _ _ _ _ _ _ _ _ _ _ _ _ _ _ _ _ _ _ _ _ _ _ _ _ _ _ _ _ _ _ _ _ _ _ _ _ _ _ _ _ _ _ _ _ _ _ _ HBR.out
end Go.Proofs.Ytfbpjhhcpockfaa
