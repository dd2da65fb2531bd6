/- book.Of's statement that strikes the doubles of a set: a region that draws its order. No condition. -/
import Derived.Test.YtfbpjhhcpockfaaStrs
import Derived.Test.YtfbpjhhcpockfaaOrderK
import Derived.Test.YtfbpjhhcpockfaaOf5r
set_option linter.unusedVariables false
set_option linter.unusedSimpArgs false
namespace Go.Proofs.Ytfbpjhhcpockfaa
open Go.RowKit Go.Shelf Go.Maps
attribute [local go_sem] gives Gives
noncomputable def ofR41 : Code := regOf Try.f13.body 41
set_option maxRecDepth 100000 in
set_option maxHeartbeats 4000000 in
theorem of_r41 (Q : Exit → Act → World → Prop) (C base : Nat) (key : ByteArray) (st : CtS) (l : Int) (v0 : Value) (zs : List Str) (w : World) (u0 u1 u2 u3 u4 u5 u6 u7 u8 u9 u10 u11 u12 u13 u14 u15 u16 u17 u18 u19 u20 u23 u24 u25 u26 u27 u28 u29 u30 u31 u32 u33 u34 u35 u36 u37 u38 u39 u40 u41 u42 u43 u44 u45 u46 u47 u48 u49 u50 u51 u52 u53 u54 u55 u56 u57 u58 u59 u60 u61 u62 u63 u64 u65 u66 u67 u68 u69 u70 u71 u72 u73 u74 u75 u76 u77 u78 u79 u80 u81 u82 u83 u84 u85 u86 u87 u88 u89 u90 u91 u92 u93 u94 u95 u96 u97 u98 u99 u100 u101 u102 u103 u104 u105 u106 u107 u108 u109 u110 u111 u112 u113 u114 u115 u116 u117 u118 u119 u120 u121 u122 u123 u124 u125 u126 u127 u128 u129 u130 u131 u132 u133 u134 u135 u136 u137 u138 u139 u140 u141 u142 u143 u144 u145 u146 u147 u148 u149 u150 u151 u152 u153 u154 u155 u156 u157 u158 u159 u160 u161 u162 u163 u164 u165 u166 u167 u168 u169 u170 u171 u172 u173 u174 u175 u176 u177 u178 u179 u180 u181 u182 u183 u184 u185 u186 u187 u188 : Value)
    (hC : At w C (ctCells key st)) (hl : l = 0 ∨ l = 1) (hv0 : slotS st l = v0) (hown : w.ownsRow base 9 1 v0 zs.length (zs.map strV)) (hgC : v0.ownBlock ≠ some C) (hbig : zs.length ≤ 1000000000)
    (hexit : ∀ (x168 x169 x170 x171 x172 x173 x174 x175 x176 x177 x178 x179 : Value) (w' : World), w'.ownsRow base 9 1 (cutV v0 (Lib.compact zs).length) (Lib.compact zs).length ((Lib.compact zs).map strV) →
      At w' C (ctCells key (setS st l (cutV v0 (Lib.compact zs).length))) → Kept (fun i => i = C ∨ v0.ownBlock = some i) w w' →
      Q .normal ⟨(List.toArray (u0 :: u1 :: u2 :: u3 :: u4 :: u5 :: u6 :: u7 :: u8 :: u9 :: u10 :: u11 :: u12 :: u13 :: u14 :: u15 :: u16 :: u17 :: u18 :: u19 :: u20 :: .pointer (some ⟨C, 0, none⟩) :: .int .i64 l :: u23 :: u24 :: u25 :: u26 :: u27 :: u28 :: u29 :: u30 :: u31 :: u32 :: u33 :: u34 :: u35 :: u36 :: u37 :: u38 :: u39 :: u40 :: u41 :: u42 :: u43 :: u44 :: u45 :: u46 :: u47 :: u48 :: u49 :: u50 :: u51 :: u52 :: u53 :: u54 :: u55 :: u56 :: u57 :: u58 :: u59 :: u60 :: u61 :: u62 :: u63 :: u64 :: u65 :: u66 :: u67 :: u68 :: u69 :: u70 :: u71 :: u72 :: u73 :: u74 :: u75 :: u76 :: u77 :: u78 :: u79 :: u80 :: u81 :: u82 :: u83 :: u84 :: u85 :: u86 :: u87 :: u88 :: u89 :: u90 :: u91 :: u92 :: u93 :: u94 :: u95 :: u96 :: u97 :: u98 :: u99 :: u100 :: u101 :: u102 :: u103 :: u104 :: u105 :: u106 :: u107 :: u108 :: u109 :: u110 :: u111 :: u112 :: u113 :: u114 :: u115 :: u116 :: u117 :: u118 :: u119 :: u120 :: u121 :: u122 :: u123 :: u124 :: u125 :: u126 :: u127 :: u128 :: u129 :: u130 :: u131 :: u132 :: u133 :: u134 :: u135 :: u136 :: u137 :: u138 :: u139 :: u140 :: u141 :: u142 :: u143 :: u144 :: u145 :: u146 :: u147 :: u148 :: u149 :: u150 :: u151 :: u152 :: u153 :: u154 :: u155 :: u156 :: u157 :: u158 :: u159 :: u160 :: u161 :: u162 :: u163 :: u164 :: u165 :: u166 :: u167 :: x168 :: x169 :: x170 :: x171 :: x172 :: x173 :: x174 :: x175 :: x176 :: x177 :: x178 :: x179 :: u180 :: u181 :: u182 :: u183 :: u184 :: u185 :: u186 :: u187 :: u188 :: [])), []⟩ w') :
    Code.wp Try.prog ofR41 Q ⟨(List.toArray (u0 :: u1 :: u2 :: u3 :: u4 :: u5 :: u6 :: u7 :: u8 :: u9 :: u10 :: u11 :: u12 :: u13 :: u14 :: u15 :: u16 :: u17 :: u18 :: u19 :: u20 :: .pointer (some ⟨C, 0, none⟩) :: .int .i64 l :: u23 :: u24 :: u25 :: u26 :: u27 :: u28 :: u29 :: u30 :: u31 :: u32 :: u33 :: u34 :: u35 :: u36 :: u37 :: u38 :: u39 :: u40 :: u41 :: u42 :: u43 :: u44 :: u45 :: u46 :: u47 :: u48 :: u49 :: u50 :: u51 :: u52 :: u53 :: u54 :: u55 :: u56 :: u57 :: u58 :: u59 :: u60 :: u61 :: u62 :: u63 :: u64 :: u65 :: u66 :: u67 :: u68 :: u69 :: u70 :: u71 :: u72 :: u73 :: u74 :: u75 :: u76 :: u77 :: u78 :: u79 :: u80 :: u81 :: u82 :: u83 :: u84 :: u85 :: u86 :: u87 :: u88 :: u89 :: u90 :: u91 :: u92 :: u93 :: u94 :: u95 :: u96 :: u97 :: u98 :: u99 :: u100 :: u101 :: u102 :: u103 :: u104 :: u105 :: u106 :: u107 :: u108 :: u109 :: u110 :: u111 :: u112 :: u113 :: u114 :: u115 :: u116 :: u117 :: u118 :: u119 :: u120 :: u121 :: u122 :: u123 :: u124 :: u125 :: u126 :: u127 :: u128 :: u129 :: u130 :: u131 :: u132 :: u133 :: u134 :: u135 :: u136 :: u137 :: u138 :: u139 :: u140 :: u141 :: u142 :: u143 :: u144 :: u145 :: u146 :: u147 :: u148 :: u149 :: u150 :: u151 :: u152 :: u153 :: u154 :: u155 :: u156 :: u157 :: u158 :: u159 :: u160 :: u161 :: u162 :: u163 :: u164 :: u165 :: u166 :: u167 :: u168 :: u169 :: u170 :: u171 :: u172 :: u173 :: u174 :: u175 :: u176 :: u177 :: u178 :: u179 :: u180 :: u181 :: u182 :: u183 :: u184 :: u185 :: u186 :: u187 :: u188 :: [])), []⟩ w := by
  obtain ⟨A, cc, rfl, _, _⟩ := Rd.own hown
  have lC := hC.lt
  have HX := Lib.hid hexit
  have HC := Lib.hid hC
  have HOWN := Lib.hid hown
  clear hexit hC hown
  obtain ⟨h0, h1, s0, s1, t0, t1⟩ := st
  rcases hl with rfl | rfl
  · have e0 : t0 = .slice A zs.length cc := hv0
    subst e0
    clear hv0
    conv => arg 2; whnf
    refine wp_region_line_anyK (κ := 8) (G := fun b w' => Kept (fun i => (Value.slice A zs.length cc).ownBlock = some i) w w' ∧ (if b = true then w'.ownsRow base 9 1 (.slice A (Lib.compact zs).length cc) (Lib.compact zs).length ((Lib.compact zs).map strV) else w'.ownsRow base 9 1 (Value.slice A zs.length cc) zs.length (zs.map strV))) (E := fun _ _ _ => True) 12 (by kernel_rfl) (by kernel_rfl) (by decide) (fun _ _ _ => trivial) ⟨⟨rfl, rfl, rfl, Nat.le_refl _, fun _ _ _ => rfl⟩, HOWN.out⟩ ?_
    apply lineK_fix (by decide)
    case now => (intro b vs w' R hG hn hR; have hR' := Lib.hid hR; have HG := Lib.hid hG; clear hR hn; skip; refine ⟨rfl, ?_⟩; go_simp; exact hR'.out _ trivial HG.out)
    case hangs => exact fun _ _ _ => rfl
    (try simp only [Act.put, List.setIfInBounds_toArray, List.set_cons_zero, List.set_cons_succ])
    apply lineK_fix (by decide)
    case now => (intro b vs w' R hG hn hR; have hR' := Lib.hid hR; have HG := Lib.hid hG; clear hR hn; skip; refine ⟨rfl, ?_⟩; go_simp; exact hR'.out _ trivial HG.out)
    case hangs => exact fun _ _ _ => rfl
    (try simp only [Act.put, List.setIfInBounds_toArray, List.set_cons_zero, List.set_cons_succ])
    apply lineK_fix (by decide)
    case now => (intro b vs w' R hG hn hR; have hR' := Lib.hid hR; have HG := Lib.hid hG; clear hR hn; skip; refine ⟨rfl, ?_⟩; go_simp; exact hR'.out _ trivial HG.out)
    case hangs => exact fun _ _ _ => rfl
    (try simp only [Act.put, List.setIfInBounds_toArray, List.set_cons_zero, List.set_cons_succ])
    apply lineK_fix (by decide)
    case now => (intro b vs w' R hG hn hR; have hR' := Lib.hid hR; have HG := Lib.hid hG; clear hR hn; skip; refine ⟨rfl, ?_⟩; go_simp; exact hR'.out _ trivial HG.out)
    case hangs => exact fun _ _ _ => rfl
    (try simp only [Act.put, List.setIfInBounds_toArray, List.set_cons_zero, List.set_cons_succ])
    apply lineK_fix (by decide)
    case now => (intro b vs w' R hG hn hR; have hR' := Lib.hid hR; have HG := Lib.hid hG; clear hR hn; skip; refine ⟨rfl, ?_⟩; go_simp; exact hR'.out _ trivial HG.out)
    case hangs => exact fun _ _ _ => rfl
    (try simp only [Act.put, List.setIfInBounds_toArray, List.set_cons_zero, List.set_cons_succ])
    apply lineK_fix (by decide)
    case now => (intro b vs w' R hG hn hR; have hR' := Lib.hid hR; have HG := Lib.hid hG; clear hR hn; skip; refine ⟨rfl, ?_⟩; go_simp; exact hR'.out _ trivial HG.out)
    case hangs => exact fun _ _ _ => rfl
    (try simp only [Act.put, List.setIfInBounds_toArray, List.set_cons_zero, List.set_cons_succ])
    apply lineK_fix (by decide)
    case now => (intro b vs w' R hG hn hR; have hR' := Lib.hid hR; have HG := Lib.hid hG; clear hR hn; skip; refine ⟨rfl, ?_⟩; go_simp; exact hR'.out _ trivial HG.out)
    case hangs => exact fun _ _ _ => rfl
    (try simp only [Act.put, List.setIfInBounds_toArray, List.set_cons_zero, List.set_cons_succ])
    apply lineK_fix (by decide)
    case now => (intro b vs w' R hG hn hR; have hR' := Lib.hid hR; have HG := Lib.hid hG; clear hR hn; have e1 := (HC.out.keep hG.1 hgC).cell 5 rfl; refine ⟨rfl, ?_⟩; go_simp; exact hR'.out _ trivial HG.out)
    case hangs => exact fun _ _ _ => rfl
    (try simp only [Act.put, List.setIfInBounds_toArray, List.set_cons_zero, List.set_cons_succ])
    apply lineK_one (by decide)
    case now =>
      intro vs w' R hG hn hR
      have hR' := Lib.hid hR
      have HG := Lib.hid hG
      clear hR hn hG
      refine ⟨rfl, ?_⟩
      go_simp
      refine (compact_any base (Value.slice A zs.length cc) zs w' HG.out.2 hbig).mono ?_
      rintro e w'' ⟨rfl, h1, h2⟩
      exact ⟨.slice A (Lib.compact zs).length cc, rfl, hR'.out _ trivial ⟨HG.out.1.trans h2, h1⟩⟩
    case hangs => exact fun _ _ _ => rfl
    (try simp only [Act.put, List.setIfInBounds_toArray, List.set_cons_zero, List.set_cons_succ])
    apply lineK_fix (by decide)
    case now => (intro b vs w' R hG hn hR; have hR' := Lib.hid hR; have HG := Lib.hid hG; clear hR hn; skip; refine ⟨rfl, ?_⟩; go_simp; exact hR'.out _ trivial HG.out)
    case hangs => exact fun _ _ _ => rfl
    (try simp only [Act.put, List.setIfInBounds_toArray, List.set_cons_zero, List.set_cons_succ])
    apply lineK_fix (by decide)
    case now => (intro b vs w' R hG hn hR; have hR' := Lib.hid hR; have HG := Lib.hid hG; clear hR hn; skip; refine ⟨rfl, ?_⟩; go_simp; exact hR'.out _ trivial HG.out)
    case hangs => exact fun _ _ _ => rfl
    (try simp only [Act.put, List.setIfInBounds_toArray, List.set_cons_zero, List.set_cons_succ])
    apply lineK_fix (by decide)
    case now => (intro b vs w' R hG hn hR; have hR' := Lib.hid hR; have HG := Lib.hid hG; clear hR hn; skip; refine ⟨rfl, ?_⟩; go_simp; exact hR'.out _ trivial HG.out)
    case hangs => exact fun _ _ _ => rfl
    (try simp only [Act.put, List.setIfInBounds_toArray, List.set_cons_zero, List.set_cons_succ])
    refine lineK_last (fun vs W4 hG4 _ => ?_)
    have hC4 := HC.out.keep hG4.1 hgC
    have z2 := hC4.cell 5 rfl
    have z2f := hC4.frozen 5
    have HC4 := Lib.hid hC4
    have HG4 := Lib.hid hG4
    clear hG4 hC4
    go_wp2_with fail
    refine HX.out _ _ _ _ _ _ _ _ _ _ _ _ _ ?_ (HC4.out.set 5 _) ?_
    · refine own_keep HG4.out.2 ((Kept.refl (· = C) _).setCell (fun _ => rfl) 5 _) ?_
      intro g hg e
      rw [cutV_block] at hg
      exact hgC (by rw [← e]; exact hg)
    · refine (HG4.out.1.mono ?_).setCell (fun _ => .inl rfl) _ _
      intro i _ e
      exact .inr e
  · have e0 : t1 = .slice A zs.length cc := hv0
    subst e0
    clear hv0
    conv => arg 2; whnf
    refine wp_region_line_anyK (κ := 8) (G := fun b w' => Kept (fun i => (Value.slice A zs.length cc).ownBlock = some i) w w' ∧ (if b = true then w'.ownsRow base 9 1 (.slice A (Lib.compact zs).length cc) (Lib.compact zs).length ((Lib.compact zs).map strV) else w'.ownsRow base 9 1 (Value.slice A zs.length cc) zs.length (zs.map strV))) (E := fun _ _ _ => True) 12 (by kernel_rfl) (by kernel_rfl) (by decide) (fun _ _ _ => trivial) ⟨⟨rfl, rfl, rfl, Nat.le_refl _, fun _ _ _ => rfl⟩, HOWN.out⟩ ?_
    apply lineK_fix (by decide)
    case now => (intro b vs w' R hG hn hR; have hR' := Lib.hid hR; have HG := Lib.hid hG; clear hR hn; skip; refine ⟨rfl, ?_⟩; go_simp; exact hR'.out _ trivial HG.out)
    case hangs => exact fun _ _ _ => rfl
    (try simp only [Act.put, List.setIfInBounds_toArray, List.set_cons_zero, List.set_cons_succ])
    apply lineK_fix (by decide)
    case now => (intro b vs w' R hG hn hR; have hR' := Lib.hid hR; have HG := Lib.hid hG; clear hR hn; skip; refine ⟨rfl, ?_⟩; go_simp; exact hR'.out _ trivial HG.out)
    case hangs => exact fun _ _ _ => rfl
    (try simp only [Act.put, List.setIfInBounds_toArray, List.set_cons_zero, List.set_cons_succ])
    apply lineK_fix (by decide)
    case now => (intro b vs w' R hG hn hR; have hR' := Lib.hid hR; have HG := Lib.hid hG; clear hR hn; skip; refine ⟨rfl, ?_⟩; go_simp; exact hR'.out _ trivial HG.out)
    case hangs => exact fun _ _ _ => rfl
    (try simp only [Act.put, List.setIfInBounds_toArray, List.set_cons_zero, List.set_cons_succ])
    apply lineK_fix (by decide)
    case now => (intro b vs w' R hG hn hR; have hR' := Lib.hid hR; have HG := Lib.hid hG; clear hR hn; skip; refine ⟨rfl, ?_⟩; go_simp; exact hR'.out _ trivial HG.out)
    case hangs => exact fun _ _ _ => rfl
    (try simp only [Act.put, List.setIfInBounds_toArray, List.set_cons_zero, List.set_cons_succ])
    apply lineK_fix (by decide)
    case now => (intro b vs w' R hG hn hR; have hR' := Lib.hid hR; have HG := Lib.hid hG; clear hR hn; skip; refine ⟨rfl, ?_⟩; go_simp; exact hR'.out _ trivial HG.out)
    case hangs => exact fun _ _ _ => rfl
    (try simp only [Act.put, List.setIfInBounds_toArray, List.set_cons_zero, List.set_cons_succ])
    apply lineK_fix (by decide)
    case now => (intro b vs w' R hG hn hR; have hR' := Lib.hid hR; have HG := Lib.hid hG; clear hR hn; skip; refine ⟨rfl, ?_⟩; go_simp; exact hR'.out _ trivial HG.out)
    case hangs => exact fun _ _ _ => rfl
    (try simp only [Act.put, List.setIfInBounds_toArray, List.set_cons_zero, List.set_cons_succ])
    apply lineK_fix (by decide)
    case now => (intro b vs w' R hG hn hR; have hR' := Lib.hid hR; have HG := Lib.hid hG; clear hR hn; skip; refine ⟨rfl, ?_⟩; go_simp; exact hR'.out _ trivial HG.out)
    case hangs => exact fun _ _ _ => rfl
    (try simp only [Act.put, List.setIfInBounds_toArray, List.set_cons_zero, List.set_cons_succ])
    apply lineK_fix (by decide)
    case now => (intro b vs w' R hG hn hR; have hR' := Lib.hid hR; have HG := Lib.hid hG; clear hR hn; have e1 := (HC.out.keep hG.1 hgC).cell 6 rfl; refine ⟨rfl, ?_⟩; go_simp; exact hR'.out _ trivial HG.out)
    case hangs => exact fun _ _ _ => rfl
    (try simp only [Act.put, List.setIfInBounds_toArray, List.set_cons_zero, List.set_cons_succ])
    apply lineK_one (by decide)
    case now =>
      intro vs w' R hG hn hR
      have hR' := Lib.hid hR
      have HG := Lib.hid hG
      clear hR hn hG
      refine ⟨rfl, ?_⟩
      go_simp
      refine (compact_any base (Value.slice A zs.length cc) zs w' HG.out.2 hbig).mono ?_
      rintro e w'' ⟨rfl, h1, h2⟩
      exact ⟨.slice A (Lib.compact zs).length cc, rfl, hR'.out _ trivial ⟨HG.out.1.trans h2, h1⟩⟩
    case hangs => exact fun _ _ _ => rfl
    (try simp only [Act.put, List.setIfInBounds_toArray, List.set_cons_zero, List.set_cons_succ])
    apply lineK_fix (by decide)
    case now => (intro b vs w' R hG hn hR; have hR' := Lib.hid hR; have HG := Lib.hid hG; clear hR hn; skip; refine ⟨rfl, ?_⟩; go_simp; exact hR'.out _ trivial HG.out)
    case hangs => exact fun _ _ _ => rfl
    (try simp only [Act.put, List.setIfInBounds_toArray, List.set_cons_zero, List.set_cons_succ])
    apply lineK_fix (by decide)
    case now => (intro b vs w' R hG hn hR; have hR' := Lib.hid hR; have HG := Lib.hid hG; clear hR hn; skip; refine ⟨rfl, ?_⟩; go_simp; exact hR'.out _ trivial HG.out)
    case hangs => exact fun _ _ _ => rfl
    (try simp only [Act.put, List.setIfInBounds_toArray, List.set_cons_zero, List.set_cons_succ])
    apply lineK_fix (by decide)
    case now => (intro b vs w' R hG hn hR; have hR' := Lib.hid hR; have HG := Lib.hid hG; clear hR hn; skip; refine ⟨rfl, ?_⟩; go_simp; exact hR'.out _ trivial HG.out)
    case hangs => exact fun _ _ _ => rfl
    (try simp only [Act.put, List.setIfInBounds_toArray, List.set_cons_zero, List.set_cons_succ])
    refine lineK_last (fun vs W4 hG4 _ => ?_)
    have hC4 := HC.out.keep hG4.1 hgC
    have z2 := hC4.cell 6 rfl
    have z2f := hC4.frozen 6
    have HC4 := Lib.hid hC4
    have HG4 := Lib.hid hG4
    clear hG4 hC4
    go_wp2_with fail
    refine HX.out _ _ _ _ _ _ _ _ _ _ _ _ _ ?_ (HC4.out.set 6 _) ?_
    · refine own_keep HG4.out.2 ((Kept.refl (· = C) _).setCell (fun _ => rfl) 6 _) ?_
      intro g hg e
      rw [cutV_block] at hg
      exact hgC (by rw [← e]; exact hg)
    · refine (HG4.out.1.mono ?_).setCell (fun _ => .inl rfl) _ _
      intro i _ e
      exact .inr e
end Go.Proofs.Ytfbpjhhcpockfaa
