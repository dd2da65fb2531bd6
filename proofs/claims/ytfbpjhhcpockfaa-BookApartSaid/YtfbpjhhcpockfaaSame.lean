/- The reference's Same of two rows that tell the same contacts: true. No condition. -/
import Derived.Test.YtfbpjhhcpockfaaListsPlain
import Derived.Lib.QuietBelow
import Derived.Laws.StructEq
set_option linter.unusedVariables false
set_option linter.unusedSimpArgs false
namespace Go.Proofs.Ytfbpjhhcpockfaa
open Go.RowKit Go.Shelf Go.Maps
theorem row_cell' {w : World} {A : Option Addr} {S : List Str} (h : Rd w A S.length 1 (S.map strV)) {j : Nat} {x : Str} (hx : S[j]? = some x) :
    ∃ b o, A = some ⟨b, o, none⟩ ∧ ∀ (i : Nat) (y : Str), S[i]? = some y → w.cell? ⟨b, o + i, none⟩ = some (.string (ba y)) := by
  have hne : S.map strV ≠ [] := fun e => by
    have := congrArg List.length e
    have h2 := (List.getElem?_eq_some_iff.1 hx).1
    simp at this
    rw [this] at h2
    simp at h2
  obtain ⟨b, o, hA, hc⟩ := h.at_ hne
  exact ⟨b, o, hA, fun i y hy => hc i _ (by rw [List.getElem?_map, hy]; rfl)⟩
@[go_sem] theorem eq_has (a b c d : Bool) (w : World) : (Op.equalIn 10000 41 (.agg #[.bool a, .bool b]) (.agg #[.bool c, .bool d])).run Try.prog w = .ok (a == c && b == d) w := by
  have u3 := Try.underlying4
  rw [show (10000 : Nat) = 9999 + 1 from rfl, Op.equalIn]
  simp only [Sem.run_bind, run_underlying Try.underlying41, Result.andThen_ok]
  simp only [Std.Legacy.Range.forIn_eq_forIn_range', Std.Legacy.Range.size, Nat.sub_zero, Nat.add_sub_cancel, Nat.div_one, List.range'_succ, List.range'_zero, List.forIn_cons, List.forIn_nil]
  go_simp
  cases a <;> cases b <;> cases c <;> cases d <;> simp
@[go_sem] theorem eq_field (a b : ByteArray) (w : World) : (Op.equalIn 10000 42 (.agg #[.string a, .string b]) (.agg #[.string a, .string b])).run Try.prog w = .ok true w := by
  have u3 := Try.underlying9
  rw [show (10000 : Nat) = 9999 + 1 from rfl, Op.equalIn]
  simp only [Sem.run_bind, run_underlying Try.underlying42, Result.andThen_ok]
  simp only [Std.Legacy.Range.forIn_eq_forIn_range', Std.Legacy.Range.size, Nat.sub_zero, Nat.add_sub_cancel, Nat.div_one, List.range'_succ, List.range'_zero, List.forIn_cons, List.forIn_nil]
  go_simp
noncomputable def smB1 : Code := loopOf Try.f15.body 0
noncomputable def smB2 : Code := loopOf Try.f15.body 1
noncomputable def smB3 : Code := loopOf Try.f15.body 2
set_option maxRecDepth 100000 in
set_option maxHeartbeats 4000000 in
theorem sm_loop3 (Q : Exit → Act → World → Prop) (A B : Option Addr) (n cA cB i : Nat) (cs : List Ct) (c : Ct) (l : Nat) (ri : Int) (hri : ri = (l : Int)) (hl : l = 0 ∨ l = 1) (w : World) (u2 u3 u4 u8 u9 u10 u11 u12 u13 u14 u15 u16 u17 u18 u19 u20 u21 u22 u23 u24 u25 u26 u27 u28 u29 u30 u31 u32 u33 u34 u35 u36 u37 u38 u39 u40 u41 u42 u43 u44 u45 u46 u47 u48 u49 u50 u51 u52 u53 u54 u55 u56 u57 u58 u59 u60 u61 u62 u63 u64 u65 u66 u67 u68 u69 u70 u71 u72 u73 u74 u75 u76 u77 u78 u79 u80 u81 u82 u83 u84 u85 u86 u87 u88 u89 u90 u91 u92 u93 u94 u95 u96 u97 u98 u99 u100 u101 u102 u103 u104 u105 u106 u107 u108 u109 : Value)
    (hA : RdCts w A n cs) (hB : RdCts w B n cs) (hn : n ≤ 1000000000) (hlen : ∀ c ∈ cs, ∀ l, (c.s l).length ≤ 1000000000) (hi : i < n) (hc : cs[i]? = some c)
    (hexit : ∀ (x4 x7 x77 x78 x79 x80 x81 x82 x83 x84 x85 x86 x87 x88 x89 x90 x91 x92 x93 x94 x95 x96 x97 x98 x99 x100 x101 x102 x103 x104 x105 x106 x107 x108 x109 : Value) (w' : World), Below w.heap.size w w' →
      Q (.exit 4) ⟨(List.toArray (.slice A n cA :: .slice B n cB :: u2 :: u3 :: x4 :: .int .i64 i :: .int .i64 ri :: x7 :: u8 :: u9 :: u10 :: u11 :: u12 :: u13 :: u14 :: u15 :: u16 :: u17 :: u18 :: u19 :: u20 :: u21 :: u22 :: u23 :: u24 :: u25 :: u26 :: u27 :: u28 :: u29 :: u30 :: u31 :: u32 :: u33 :: u34 :: u35 :: u36 :: u37 :: u38 :: u39 :: u40 :: u41 :: u42 :: u43 :: u44 :: u45 :: u46 :: u47 :: u48 :: u49 :: u50 :: u51 :: u52 :: u53 :: u54 :: u55 :: u56 :: u57 :: u58 :: u59 :: u60 :: u61 :: u62 :: u63 :: u64 :: u65 :: u66 :: u67 :: u68 :: u69 :: u70 :: u71 :: u72 :: u73 :: u74 :: u75 :: u76 :: x77 :: x78 :: x79 :: x80 :: x81 :: x82 :: x83 :: x84 :: x85 :: x86 :: x87 :: x88 :: x89 :: x90 :: x91 :: x92 :: x93 :: x94 :: x95 :: x96 :: x97 :: x98 :: x99 :: x100 :: x101 :: x102 :: x103 :: x104 :: x105 :: x106 :: x107 :: x108 :: x109 :: [])), []⟩ w') :
    Code.wp Try.prog (.loop smB3) Q ⟨(List.toArray (.slice A n cA :: .slice B n cB :: u2 :: u3 :: u4 :: .int .i64 i :: .int .i64 ri :: .int .i64 0 :: u8 :: u9 :: u10 :: u11 :: u12 :: u13 :: u14 :: u15 :: u16 :: u17 :: u18 :: u19 :: u20 :: u21 :: u22 :: u23 :: u24 :: u25 :: u26 :: u27 :: u28 :: u29 :: u30 :: u31 :: u32 :: u33 :: u34 :: u35 :: u36 :: u37 :: u38 :: u39 :: u40 :: u41 :: u42 :: u43 :: u44 :: u45 :: u46 :: u47 :: u48 :: u49 :: u50 :: u51 :: u52 :: u53 :: u54 :: u55 :: u56 :: u57 :: u58 :: u59 :: u60 :: u61 :: u62 :: u63 :: u64 :: u65 :: u66 :: u67 :: u68 :: u69 :: u70 :: u71 :: u72 :: u73 :: u74 :: u75 :: u76 :: u77 :: u78 :: u79 :: u80 :: u81 :: u82 :: u83 :: u84 :: u85 :: u86 :: u87 :: u88 :: u89 :: u90 :: u91 :: u92 :: u93 :: u94 :: u95 :: u96 :: u97 :: u98 :: u99 :: u100 :: u101 :: u102 :: u103 :: u104 :: u105 :: u106 :: u107 :: u108 :: u109 :: [])), []⟩ w := by
  conv => arg 2; arg 1; whnf
  have HA := Lib.hid (fun (W : World) (h : Below w.heap.size w W) => hA.below h)
  have HB := Lib.hid (fun (W : World) (h : Below w.heap.size w W) => hB.below h)
  have HX := Lib.hid hexit
  have HC := Lib.hid hc
  have hcm := List.mem_of_getElem? hc
  have hlen' := hlen c hcm l
  have hii : (i : Int) < (n : Int) := by omega
  clear hexit hA hB hlen hcm hc
  rcases hl with rfl | rfl
  · subst hri
    go_loopw [7] (fun v wr => ∃ j : Nat, j ≤ c.s0.length ∧ v = .int .i64 j ∧ Below w.heap.size w wr) (fun v _ => c.s0.length - (intOf v).toNat)
    case atStart => exact ⟨0, by omega, rfl, Below.refl _ _⟩
    case round =>
      obtain ⟨j, hj, rfl, hbr⟩ := hrel
      have HBR := Lib.hid hbr
      obtain ⟨b, o, A0, c0, A1, c1, eA, hltA, hcA, hl0, hl1, x0, x1⟩ := (HA.out wr hbr).at_ i c HC.out
      obtain ⟨b', o', B0, d0, B1, d1, eB, hltB, hcB, hm0, hm1, y0, y1⟩ := (HB.out wr hbr).at_ i c HC.out
      subst eA eB
      have a5 := hcA 5 _ rfl
      have b5 := hcB 5 _ rfl
      have hrc := fun w2 => regrown_cell w2
      have hlen2 : c.s0.length ≤ 1000000000 := hlen'
      by_cases hjn : j < c.s0.length
      · obtain ⟨x, hx⟩ : ∃ x, c.s0[j]? = some x := ⟨c.s0[j]'hjn, List.getElem?_eq_getElem _⟩
        obtain ⟨g, p, eg, hg⟩ := row_cell' x0 hx
        obtain ⟨g', p', eg', hg'⟩ := row_cell' y0 hx
        subst eg eg'
        have z0 := hg j x hx
        have z1 := hg' j x hx
        have lg : g < wr.heap.size := World.block_lt_of_cell? wr _ z0
        have lg' : g' < wr.heap.size := World.block_lt_of_cell? wr _ z1
        clear hcA hcB hbr x0 x1 y0 y1 hg hg' hx
        go_wp2_with fail
        refine wp_region_quiet_below (by kernel_rfl) (by kernel_rfl) ?_
        repeat (any_goals (first | go_big_quiet_step (fail) | quiet_step (fail)))
        refine wpQuiet_nil ?_
        intro _ hw'
        obtain ⟨⟨dq, osq⟩, hw''⟩ := hw'
        subst hw''
        go_wp2_with fail
        go_roundw
        case measure => simp [intOf]; omega
        case rel => exact ⟨j + 1, by omega, by go_num, below_next HBR.out (below_regrown wr dq osq)⟩
      · have hjn' : j = c.s0.length := by omega
        subst hjn'
        clear hcA hcB hbr x0 x1 y0 y1
        go_wp2_with fail
        exact HX.out _ _ _ _ _ _ _ _ _ _ _ _ _ _ _ _ _ _ _ _ _ _ _ _ _ _ _ _ _ _ _ _ _ _ _ _ HBR.out
  · subst hri
    go_loopw [7] (fun v wr => ∃ j : Nat, j ≤ c.s1.length ∧ v = .int .i64 j ∧ Below w.heap.size w wr) (fun v _ => c.s1.length - (intOf v).toNat)
    case atStart => exact ⟨0, by omega, rfl, Below.refl _ _⟩
    case round =>
      obtain ⟨j, hj, rfl, hbr⟩ := hrel
      have HBR := Lib.hid hbr
      obtain ⟨b, o, A0, c0, A1, c1, eA, hltA, hcA, hl0, hl1, x0, x1⟩ := (HA.out wr hbr).at_ i c HC.out
      obtain ⟨b', o', B0, d0, B1, d1, eB, hltB, hcB, hm0, hm1, y0, y1⟩ := (HB.out wr hbr).at_ i c HC.out
      subst eA eB
      have a5 := hcA 6 _ rfl
      have b5 := hcB 6 _ rfl
      have hrc := fun w2 => regrown_cell w2
      have hlen2 : c.s1.length ≤ 1000000000 := hlen'
      by_cases hjn : j < c.s1.length
      · obtain ⟨x, hx⟩ : ∃ x, c.s1[j]? = some x := ⟨c.s1[j]'hjn, List.getElem?_eq_getElem _⟩
        obtain ⟨g, p, eg, hg⟩ := row_cell' x1 hx
        obtain ⟨g', p', eg', hg'⟩ := row_cell' y1 hx
        subst eg eg'
        have z0 := hg j x hx
        have z1 := hg' j x hx
        have lg : g < wr.heap.size := World.block_lt_of_cell? wr _ z0
        have lg' : g' < wr.heap.size := World.block_lt_of_cell? wr _ z1
        clear hcA hcB hbr x0 x1 y0 y1 hg hg' hx
        go_wp2_with fail
        refine wp_region_quiet_below (by kernel_rfl) (by kernel_rfl) ?_
        repeat (any_goals (first | go_big_quiet_step (fail) | quiet_step (fail)))
        refine wpQuiet_nil ?_
        intro _ hw'
        obtain ⟨⟨dq, osq⟩, hw''⟩ := hw'
        subst hw''
        go_wp2_with fail
        go_roundw
        case measure => simp [intOf]; omega
        case rel => exact ⟨j + 1, by omega, by go_num, below_next HBR.out (below_regrown wr dq osq)⟩
      · have hjn' : j = c.s1.length := by omega
        subst hjn'
        clear hcA hcB hbr x0 x1 y0 y1
        go_wp2_with fail
        exact HX.out _ _ _ _ _ _ _ _ _ _ _ _ _ _ _ _ _ _ _ _ _ _ _ _ _ _ _ _ _ _ _ _ _ _ _ _ HBR.out
set_option maxRecDepth 100000 in
set_option maxHeartbeats 4000000 in
theorem sm_loop2 (Q : Exit → Act → World → Prop) (A B : Option Addr) (n cA cB i : Nat) (cs : List Ct) (c : Ct) (w : World) (u2 u3 u4 u7 u8 u9 u10 u11 u12 u13 u14 u15 u16 u17 u18 u19 u20 u21 u22 u23 u24 u25 u26 u27 u28 u29 u30 u31 u32 u33 u34 u35 u36 u37 u38 u39 u40 u41 u42 u43 u44 u45 u46 u47 u48 u49 u50 u51 u52 u53 u54 u55 u56 u57 u58 u59 u60 u61 u62 u63 u64 u65 u66 u67 u68 u69 u70 u71 u72 u73 u74 u75 u76 u77 u78 u79 u80 u81 u82 u83 u84 u85 u86 u87 u88 u89 u90 u91 u92 u93 u94 u95 u96 u97 u98 u99 u100 u101 u102 u103 u104 u105 u106 u107 u108 u109 : Value)
    (hA : RdCts w A n cs) (hB : RdCts w B n cs) (hn : n ≤ 1000000000) (hlen : ∀ c ∈ cs, ∀ l, (c.s l).length ≤ 1000000000) (hi : i < n) (hc : cs[i]? = some c)
    (hexit : ∀ (x4 x6 x7 x56 x57 x58 x59 x60 x61 x62 x63 x64 x65 x66 x67 x68 x69 x70 x71 x72 x73 x74 x75 x76 x77 x78 x79 x80 x81 x82 x83 x84 x85 x86 x87 x88 x89 x90 x91 x92 x93 x94 x95 x96 x97 x98 x99 x100 x101 x102 x103 x104 x105 x106 x107 x108 x109 : Value) (w' : World), Below w.heap.size w w' →
      Q (.exit 2) ⟨(List.toArray (.slice A n cA :: .slice B n cB :: u2 :: u3 :: x4 :: .int .i64 i :: x6 :: x7 :: u8 :: u9 :: u10 :: u11 :: u12 :: u13 :: u14 :: u15 :: u16 :: u17 :: u18 :: u19 :: u20 :: u21 :: u22 :: u23 :: u24 :: u25 :: u26 :: u27 :: u28 :: u29 :: u30 :: u31 :: u32 :: u33 :: u34 :: u35 :: u36 :: u37 :: u38 :: u39 :: u40 :: u41 :: u42 :: u43 :: u44 :: u45 :: u46 :: u47 :: u48 :: u49 :: u50 :: u51 :: u52 :: u53 :: u54 :: u55 :: x56 :: x57 :: x58 :: x59 :: x60 :: x61 :: x62 :: x63 :: x64 :: x65 :: x66 :: x67 :: x68 :: x69 :: x70 :: x71 :: x72 :: x73 :: x74 :: x75 :: x76 :: x77 :: x78 :: x79 :: x80 :: x81 :: x82 :: x83 :: x84 :: x85 :: x86 :: x87 :: x88 :: x89 :: x90 :: x91 :: x92 :: x93 :: x94 :: x95 :: x96 :: x97 :: x98 :: x99 :: x100 :: x101 :: x102 :: x103 :: x104 :: x105 :: x106 :: x107 :: x108 :: x109 :: [])), []⟩ w') :
    Code.wp Try.prog (.loop smB2) Q ⟨(List.toArray (.slice A n cA :: .slice B n cB :: u2 :: u3 :: u4 :: .int .i64 i :: .int .i64 0 :: u7 :: u8 :: u9 :: u10 :: u11 :: u12 :: u13 :: u14 :: u15 :: u16 :: u17 :: u18 :: u19 :: u20 :: u21 :: u22 :: u23 :: u24 :: u25 :: u26 :: u27 :: u28 :: u29 :: u30 :: u31 :: u32 :: u33 :: u34 :: u35 :: u36 :: u37 :: u38 :: u39 :: u40 :: u41 :: u42 :: u43 :: u44 :: u45 :: u46 :: u47 :: u48 :: u49 :: u50 :: u51 :: u52 :: u53 :: u54 :: u55 :: u56 :: u57 :: u58 :: u59 :: u60 :: u61 :: u62 :: u63 :: u64 :: u65 :: u66 :: u67 :: u68 :: u69 :: u70 :: u71 :: u72 :: u73 :: u74 :: u75 :: u76 :: u77 :: u78 :: u79 :: u80 :: u81 :: u82 :: u83 :: u84 :: u85 :: u86 :: u87 :: u88 :: u89 :: u90 :: u91 :: u92 :: u93 :: u94 :: u95 :: u96 :: u97 :: u98 :: u99 :: u100 :: u101 :: u102 :: u103 :: u104 :: u105 :: u106 :: u107 :: u108 :: u109 :: [])), []⟩ w := by
  conv => arg 2; arg 1; whnf
  have HA := Lib.hid (fun (W : World) (h : Below w.heap.size w W) => hA.below h)
  have HB := Lib.hid (fun (W : World) (h : Below w.heap.size w W) => hB.below h)
  have HX := Lib.hid hexit
  have HC := Lib.hid hc
  have HN := Lib.hid hlen
  have hii : (i : Int) < (n : Int) := by omega
  clear hexit hA hB hlen hc
  go_loopw [6] (fun v wr => ∃ l : Nat, l ≤ 2 ∧ v = .int .i64 l ∧ Below w.heap.size w wr) (fun v _ => 2 - (intOf v).toNat)
  case atStart => exact ⟨0, by omega, rfl, Below.refl _ _⟩
  case round =>
    obtain ⟨l, hl, rfl, hbr⟩ := hrel
    have HBR := Lib.hid hbr
    obtain ⟨b, o, A0, c0, A1, c1, eA, hltA, hcA, hl0, hl1, _, _⟩ := (HA.out wr hbr).at_ i c HC.out
    obtain ⟨b', o', B0, d0, B1, d1, eB, hltB, hcB, hm0, hm1, _, _⟩ := (HB.out wr hbr).at_ i c HC.out
    subst eA eB
    have a5 : wr.cell? ⟨b, o + i * 7 + 5, none⟩ = some (.slice A0 c.s0.length c0) := hcA 5 _ rfl
    have a6 : wr.cell? ⟨b, o + i * 7 + 6, none⟩ = some (.slice A1 c.s1.length c1) := hcA 6 _ rfl
    have b5 : wr.cell? ⟨b', o' + i * 7 + 5, none⟩ = some (.slice B0 c.s0.length d0) := hcB 5 _ rfl
    have b6 : wr.cell? ⟨b', o' + i * 7 + 6, none⟩ = some (.slice B1 c.s1.length d1) := hcB 6 _ rfl
    have hrc := fun w2 => regrown_cell w2
    clear hcA hcB hbr
    rcases (show l = 0 ∨ l = 1 ∨ l = 2 by omega) with rfl | rfl | rfl
    · go_wp2_with fail
      refine wp_region_quiet_below (by kernel_rfl) (by kernel_rfl) ?_
      repeat (any_goals (first | go_big_quiet_step (fail) | quiet_step (fail)))
      refine wpQuiet_nil ?_
      intro _ hw'
      obtain ⟨⟨dq, osq⟩, hw''⟩ := hw'
      subst hw''
      go_wp2_with fail
      have hbq := below_next HBR.out (below_regrown wr dq osq)
      refine sm_loop3 _ _ _ n cA cB i cs c 0 _ rfl (by decide) _ _ _ _ _ _ _ _ _ _ _ _ _ _ _ _ _ _ _ _ _ _ _ _ _ _ _ _ _ _ _ _ _ _ _ _ _ _ _ _ _ _ _ _ _ _ _ _ _ _ _ _ _ _ _ _ _ _ _ _ _ _ _ _ _ _ _ _ _ _ _ _ _ _ _ _ _ _ _ _ _ _ _ _ _ _ _ _ _ _ _ _ _ _ _ _ _ _ _ _ _ _ _ _ _ _ (HA.out _ hbq) (HB.out _ hbq) hn HN.out hi HC.out ?_
      intro x4 x7 x77 x78 x79 x80 x81 x82 x83 x84 x85 x86 x87 x88 x89 x90 x91 x92 x93 x94 x95 x96 x97 x98 x99 x100 x101 x102 x103 x104 x105 x106 x107 x108 x109 w3 hb3
      have HB3 := Lib.hid (below_next hbq hb3)
      clear hb3 hbq
      go_wp2_with fail
      go_roundw
      case measure => simp [intOf]
      case rel => exact ⟨0 + 1, by omega, by go_num, HB3.out⟩
    · go_wp2_with fail
      refine wp_region_quiet_below (by kernel_rfl) (by kernel_rfl) ?_
      repeat (any_goals (first | go_big_quiet_step (fail) | quiet_step (fail)))
      refine wpQuiet_nil ?_
      intro _ hw'
      obtain ⟨⟨dq, osq⟩, hw''⟩ := hw'
      subst hw''
      go_wp2_with fail
      have hbq := below_next HBR.out (below_regrown wr dq osq)
      refine sm_loop3 _ _ _ n cA cB i cs c 1 _ rfl (by decide) _ _ _ _ _ _ _ _ _ _ _ _ _ _ _ _ _ _ _ _ _ _ _ _ _ _ _ _ _ _ _ _ _ _ _ _ _ _ _ _ _ _ _ _ _ _ _ _ _ _ _ _ _ _ _ _ _ _ _ _ _ _ _ _ _ _ _ _ _ _ _ _ _ _ _ _ _ _ _ _ _ _ _ _ _ _ _ _ _ _ _ _ _ _ _ _ _ _ _ _ _ _ _ _ _ _ (HA.out _ hbq) (HB.out _ hbq) hn HN.out hi HC.out ?_
      intro x4 x7 x77 x78 x79 x80 x81 x82 x83 x84 x85 x86 x87 x88 x89 x90 x91 x92 x93 x94 x95 x96 x97 x98 x99 x100 x101 x102 x103 x104 x105 x106 x107 x108 x109 w3 hb3
      have HB3 := Lib.hid (below_next hbq hb3)
      clear hb3 hbq
      go_wp2_with fail
      go_roundw
      case measure => simp [intOf]
      case rel => exact ⟨1 + 1, by omega, by go_num, HB3.out⟩
    · go_wp2_with fail
      exact HX.out _ _ _ _ _ _ _ _ _ _ _ _ _ _ _ _ _ _ _ _ _ _ _ _ _ _ _ _ _ _ _ _ _ _ _ _ _ _ _ _ _ _ _ _ _ _ _ _ _ _ _ _ _ _ _ _ _ _ HBR.out
set_option maxRecDepth 100000 in
set_option maxHeartbeats 4000000 in
theorem same_yes (A B : Option Addr) (n cA cB : Nat) (cs : List Ct) (w : World) (hA : RdCts w A n cs) (hB : RdCts w B n cs) (hn : n ≤ 1000000000) (hlen : ∀ c ∈ cs, ∀ l, (c.s l).length ≤ 1000000000) :
    Calls Try.prog 15 #[.slice A n cA, .slice B n cB] w fun e w' => e = .returned (.bool true) ∧ Below w.heap.size w w' := by
  have HA := Lib.hid (fun (W : World) (h : Below w.heap.size w W) => hA.below h)
  have HB := Lib.hid (fun (W : World) (h : Below w.heap.size w W) => hB.below h)
  have HN := Lib.hid hlen
  have HL := Lib.hid hA.1
  clear hA hB hlen
  go_enter Try.func15, Try.ntmps15
  go_wp2_with fail
  go_loopw [5] (fun v wr => ∃ j : Nat, j ≤ n ∧ v = .int .i64 j ∧ Below w.heap.size w wr) (fun v _ => n - (intOf v).toNat)
  case atStart => exact ⟨0, by omega, rfl, Below.refl _ _⟩
  case round =>
    obtain ⟨j, hj, rfl, hbr⟩ := hrel
    by_cases hjn : j < n
    · obtain ⟨c, hc⟩ : ∃ c, cs[j]? = some c := ⟨cs[j]'(by rw [HL.out]; exact hjn), List.getElem?_eq_getElem _⟩
      have HBR := Lib.hid hbr
      have HC := Lib.hid hc
      obtain ⟨b, o, A0, c0, A1, c1, eA, hltA, hcA, hl0, hl1, _, _⟩ := (HA.out wr hbr).at_ j c hc
      obtain ⟨b', o', B0, d0, B1, d1, eB, hltB, hcB, hm0, hm1, _, _⟩ := (HB.out wr hbr).at_ j c hc
      subst eA eB
      have a0 := hcA 0 _ rfl
      have a1 := hcA 1 _ rfl
      have a2 := hcA 2 _ rfl
      have a3 := hcA 3 _ rfl
      have a4 := hcA 4 _ rfl
      have b0 := hcB 0 _ rfl
      have b1 := hcB 1 _ rfl
      have b2 := hcB 2 _ rfl
      have b3 := hcB 3 _ rfl
      have b4 := hcB 4 _ rfl
      rw [Nat.add_zero] at a0 b0
      have hrc := fun w2 => regrown_cell w2
      clear hcA hcB hbr hc
      go_wp2_with fail
      refine wp_region_quiet_below (by kernel_rfl) (by kernel_rfl) ?_
      repeat (any_goals (first | go_big_quiet_step (fail) | quiet_step (fail)))
      refine wpQuiet_nil ?_
      intro _ hw'
      obtain ⟨⟨dq, osq⟩, hw''⟩ := hw'
      subst hw''
      go_wp2_with fail
      have hbq := below_next HBR.out (below_regrown wr dq osq)
      refine sm_loop2 _ _ _ n cA cB j cs c _ _ _ _ _ _ _ _ _ _ _ _ _ _ _ _ _ _ _ _ _ _ _ _ _ _ _ _ _ _ _ _ _ _ _ _ _ _ _ _ _ _ _ _ _ _ _ _ _ _ _ _ _ _ _ _ _ _ _ _ _ _ _ _ _ _ _ _ _ _ _ _ _ _ _ _ _ _ _ _ _ _ _ _ _ _ _ _ _ _ _ _ _ _ _ _ _ _ _ _ _ _ _ _ _ _ _ (HA.out _ hbq) (HB.out _ hbq) hn HN.out hjn HC.out ?_
      intro x4 x6 x7 x56 x57 x58 x59 x60 x61 x62 x63 x64 x65 x66 x67 x68 x69 x70 x71 x72 x73 x74 x75 x76 x77 x78 x79 x80 x81 x82 x83 x84 x85 x86 x87 x88 x89 x90 x91 x92 x93 x94 x95 x96 x97 x98 x99 x100 x101 x102 x103 x104 x105 x106 x107 x108 x109 w3 hb3
      have HB3 := Lib.hid (below_next hbq hb3)
      clear hb3 hbq
      go_wp2_with fail
      go_roundw
      case measure => simp [intOf]; omega
      case rel => exact ⟨j + 1, by omega, by go_num, HB3.out⟩
    · have hjn' : j = n := by omega
      subst hjn'
      have hne : ¬ (j : Int) < (j : Int) := by omega
      have HBR := Lib.hid hbr
      clear hbr
      go_wp2_with fail
      go_ret
      exact ⟨rfl, HBR.out⟩
end Go.Proofs.Ytfbpjhhcpockfaa
