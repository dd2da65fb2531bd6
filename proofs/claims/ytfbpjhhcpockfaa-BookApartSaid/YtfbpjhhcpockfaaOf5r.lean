/- book.Of's statement that adds a value to a set: a region that draws its order. No condition. -/
import Derived.Test.YtfbpjhhcpockfaaOf4
import Derived.ArgAppend
import Derived.Deep.AppendLies
set_option linter.unusedVariables false
set_option linter.unusedSimpArgs false
namespace Go.Proofs.Ytfbpjhhcpockfaa
open Go.RowKit Go.Shelf Go.Maps
attribute [local go_sem] gives Gives
noncomputable def ofR31 : Code := regOf Try.f13.body 31
theorem info_str : (Try.prog.info? 9).map (fun i => (i.zero, i.size, i.bytes)) = some (some (.string ⟨#[]⟩), 1, 16) := by kernel_rfl
def setS (st : CtS) (l : Int) (v : Value) : CtS := if l = 0 then { st with s0 := v } else { st with s1 := v }
def slotS (st : CtS) (l : Int) : Value := if l = 0 then st.s0 else st.s1
/-- append to a row that is nil or full: a new row. -/
theorem append_new (w : World) (base : Nat) (v0 : Value) (n : Nat) (xs : List Value) (hown : w.ownsRow base 9 1 v0 n xs) (hfull : v0 = .slice none 0 0 ∨ ∃ g, v0 = .slice (some ⟨g, 0, none⟩) n n) (hbig : n ≤ 1000000000)
    (W : World) (hW : Below w.heap.size w W) (b : Nat) (y : Value) (hy : y.oneCell' = true) (hb : At W b [y]) :
    ∃ v1 w1, (Builtin.append_ #[43, 43] 43 #[v0, .slice (some ⟨b, 0, none⟩) 1 1]).run Try.prog W = .ok v1 w1 ∧ w1.ownsRow W.heap.size 9 1 v1 (n + 1) (xs ++ [y]) ∧ Below W.heap.size W w1 := by
  obtain ⟨i0, hi0, hz0, hz1, hz2⟩ := info_parts info_str
  have hown' := own_below hown hW
  rcases hfull with rfl | ⟨g, rfl⟩
  · have hn : n = 0 ∧ xs = [] := by
      rcases hown.2 with ⟨_, h⟩ | ⟨g, cap, cur, h, _⟩
      · subst h; exact ⟨rfl, List.eq_nil_of_length_eq_zero (by simpa using hown.1)⟩
      · cases h
    obtain ⟨rfl, rfl⟩ := hn
    obtain ⟨v1, w1, hr, h2, h3, _, h5⟩ := run_append_own_at (P := Try.prog) W W.heap.size 43 43 9 i0 (.string ⟨#[]⟩) 1 16 Try.underlying43 hi0 hz0 hz1 hz2 rfl (by decide) (.slice none 0 0) 0 [] (World.ownsRow_nil _ _ _ _) ⟨b, 0, none⟩ 1 1 [y] (by simp) (fun j u hj => by rw [add_at, Nat.zero_add]; exact hb.cell j hj) (by simpa using hy) (by decide) (by decide) (Nat.le_refl _)
    exact ⟨v1, w1, hr, by simpa using h2, ⟨h3.os, h3.tape, h3.output, h3.size, fun k hk => h3.block k hk (by simp [Value.ownBlock])⟩⟩
  · obtain ⟨v1, w1, hr, h2, h3⟩ := run_append_arg_grows (P := Try.prog) W 43 43 9 i0 (.string ⟨#[]⟩) 1 16 Try.underlying43 hi0 hz0 hz1 hz2 rfl (by decide) ⟨g, 0, none⟩ n n xs hown'.1 (fun j u hj => hown'.cells (g := g) rfl j u hj) ⟨b, 0, none⟩ 1 1 [y] (by simp) (fun j u hj => by rw [add_at, Nat.zero_add]; exact hb.cell j hj) (by omega) (by unfold maxLen; omega) (by omega)
    exact ⟨v1, w1, hr, h2, ⟨h3.os, h3.tape, h3.output, h3.size, fun k hk => h3.block k hk (by simp)⟩⟩

set_option maxRecDepth 100000 in
set_option maxHeartbeats 4000000 in
theorem of_r31 (Q : Exit → Act → World → Prop) (F C base n : Nat) (key : ByteArray) (st : CtS) (x : Ev) (v0 : Value) (xs : List Value) (w : World) (u0 u1 u2 u3 u4 u5 u6 u7 u8 u9 u10 u11 u12 u13 u14 u15 u16 u19 u20 u21 u22 u23 u24 u25 u26 u27 u28 u29 u30 u31 u32 u33 u34 u35 u36 u37 u38 u39 u40 u41 u42 u43 u44 u45 u46 u47 u48 u49 u50 u51 u52 u53 u54 u55 u56 u57 u58 u59 u60 u61 u62 u63 u64 u65 u66 u67 u68 u69 u70 u71 u72 u73 u74 u75 u76 u77 u78 u79 u80 u81 u82 u83 u84 u85 u86 u87 u88 u89 u90 u91 u92 u93 u94 u95 u96 u97 u98 u99 u100 u101 u102 u103 u104 u105 u106 u107 u108 u109 u110 u111 u112 u113 u114 u115 u116 u117 u118 u119 u120 u121 u122 u123 u124 u125 u126 u127 u128 u129 u130 u131 u132 u133 u134 u135 u136 u137 u138 u139 u140 u141 u142 u143 u144 u145 u146 u147 u148 u149 u150 u151 u152 u153 u154 u155 u156 u157 u158 u159 u160 u161 u162 u163 u164 u165 u166 u167 u168 u169 u170 u171 u172 u173 u174 u175 u176 u177 u178 u179 u180 u181 u182 u183 u184 u185 u186 u187 u188 : Value)
    (hF : At w F x.cells) (hC : At w C (ctCells key st)) (hl : x.label = 0 ∨ x.label = 1) (hv0 : slotS st x.label = v0) (hown : w.ownsRow base 9 1 v0 n xs) (hgC : v0.ownBlock ≠ some C) (hgF : v0.ownBlock ≠ some F) (hFC : F ≠ C) (hbase : base ≤ w.heap.size) (hbig : n ≤ 1000000000)
    (hexit : ∀ (x132 x133 x134 x135 x136 x137 x138 x139 x140 x141 x142 x143 x144 x145 x146 x147 x148 : Value) (w' : World) (v1 : Value), w'.ownsRow base 9 1 v1 (n + 1) (xs ++ [.string x.value]) → (v1.ownBlock = v0.ownBlock ∨ ∃ g, v1.ownBlock = some g ∧ w.heap.size ≤ g) →
      At w' C (ctCells key (setS st x.label v1)) → Kept (fun i => i = C ∨ v0.ownBlock = some i) w w' →
      Q .normal ⟨(List.toArray (u0 :: u1 :: u2 :: u3 :: u4 :: u5 :: u6 :: u7 :: u8 :: u9 :: u10 :: u11 :: u12 :: u13 :: u14 :: u15 :: u16 :: .pointer (some ⟨F, 0, none⟩) :: .pointer (some ⟨C, 0, none⟩) :: u19 :: u20 :: u21 :: u22 :: u23 :: u24 :: u25 :: u26 :: u27 :: u28 :: u29 :: u30 :: u31 :: u32 :: u33 :: u34 :: u35 :: u36 :: u37 :: u38 :: u39 :: u40 :: u41 :: u42 :: u43 :: u44 :: u45 :: u46 :: u47 :: u48 :: u49 :: u50 :: u51 :: u52 :: u53 :: u54 :: u55 :: u56 :: u57 :: u58 :: u59 :: u60 :: u61 :: u62 :: u63 :: u64 :: u65 :: u66 :: u67 :: u68 :: u69 :: u70 :: u71 :: u72 :: u73 :: u74 :: u75 :: u76 :: u77 :: u78 :: u79 :: u80 :: u81 :: u82 :: u83 :: u84 :: u85 :: u86 :: u87 :: u88 :: u89 :: u90 :: u91 :: u92 :: u93 :: u94 :: u95 :: u96 :: u97 :: u98 :: u99 :: u100 :: u101 :: u102 :: u103 :: u104 :: u105 :: u106 :: u107 :: u108 :: u109 :: u110 :: u111 :: u112 :: u113 :: u114 :: u115 :: u116 :: u117 :: u118 :: u119 :: u120 :: u121 :: u122 :: u123 :: u124 :: u125 :: u126 :: u127 :: u128 :: u129 :: u130 :: u131 :: x132 :: x133 :: x134 :: x135 :: x136 :: x137 :: x138 :: x139 :: x140 :: x141 :: x142 :: x143 :: x144 :: x145 :: x146 :: x147 :: x148 :: u149 :: u150 :: u151 :: u152 :: u153 :: u154 :: u155 :: u156 :: u157 :: u158 :: u159 :: u160 :: u161 :: u162 :: u163 :: u164 :: u165 :: u166 :: u167 :: u168 :: u169 :: u170 :: u171 :: u172 :: u173 :: u174 :: u175 :: u176 :: u177 :: u178 :: u179 :: u180 :: u181 :: u182 :: u183 :: u184 :: u185 :: u186 :: u187 :: u188 :: [])), []⟩ w') :
    Code.wp Try.prog ofR31 Q ⟨(List.toArray (u0 :: u1 :: u2 :: u3 :: u4 :: u5 :: u6 :: u7 :: u8 :: u9 :: u10 :: u11 :: u12 :: u13 :: u14 :: u15 :: u16 :: .pointer (some ⟨F, 0, none⟩) :: .pointer (some ⟨C, 0, none⟩) :: u19 :: u20 :: u21 :: u22 :: u23 :: u24 :: u25 :: u26 :: u27 :: u28 :: u29 :: u30 :: u31 :: u32 :: u33 :: u34 :: u35 :: u36 :: u37 :: u38 :: u39 :: u40 :: u41 :: u42 :: u43 :: u44 :: u45 :: u46 :: u47 :: u48 :: u49 :: u50 :: u51 :: u52 :: u53 :: u54 :: u55 :: u56 :: u57 :: u58 :: u59 :: u60 :: u61 :: u62 :: u63 :: u64 :: u65 :: u66 :: u67 :: u68 :: u69 :: u70 :: u71 :: u72 :: u73 :: u74 :: u75 :: u76 :: u77 :: u78 :: u79 :: u80 :: u81 :: u82 :: u83 :: u84 :: u85 :: u86 :: u87 :: u88 :: u89 :: u90 :: u91 :: u92 :: u93 :: u94 :: u95 :: u96 :: u97 :: u98 :: u99 :: u100 :: u101 :: u102 :: u103 :: u104 :: u105 :: u106 :: u107 :: u108 :: u109 :: u110 :: u111 :: u112 :: u113 :: u114 :: u115 :: u116 :: u117 :: u118 :: u119 :: u120 :: u121 :: u122 :: u123 :: u124 :: u125 :: u126 :: u127 :: u128 :: u129 :: u130 :: u131 :: u132 :: u133 :: u134 :: u135 :: u136 :: u137 :: u138 :: u139 :: u140 :: u141 :: u142 :: u143 :: u144 :: u145 :: u146 :: u147 :: u148 :: u149 :: u150 :: u151 :: u152 :: u153 :: u154 :: u155 :: u156 :: u157 :: u158 :: u159 :: u160 :: u161 :: u162 :: u163 :: u164 :: u165 :: u166 :: u167 :: u168 :: u169 :: u170 :: u171 :: u172 :: u173 :: u174 :: u175 :: u176 :: u177 :: u178 :: u179 :: u180 :: u181 :: u182 :: u183 :: u184 :: u185 :: u186 :: u187 :: u188 :: [])), []⟩ w := by
  have f11 : w.cell? ⟨F, 11, none⟩ = some (.string x.value) := hF.cell 11 rfl
  have f10' : w.cell? ⟨F, 10, none⟩ = some (.int .i64 x.label) := hF.cell 10 rfl
  have lF := hF.lt
  have lC := hC.lt
  have HX := Lib.hid hexit
  have HC := Lib.hid hC
  have HOWN := Lib.hid hown
  by_cases hroom : ∃ g cap, v0 = .slice (some ⟨g, 0, none⟩) n cap ∧ n < cap
  · obtain ⟨g, cap, rfl, hcap⟩ := hroom
    obtain ⟨cur, hbg, hcur, hcm, hcs, htk⟩ : ∃ cur : Array Value, base ≤ g ∧ AtT w g 9 cur.toList ∧ cap ≤ maxLen ∧ cur.size = cap * 1 ∧ cur.toList.take (n * 1) = xs := by
      rcases hown.2 with ⟨h, _⟩ | ⟨g', cap', cur, h, h1, h2, _, h3, h4, h5⟩
      · cases h
      · cases h
        exact ⟨cur, h1, h2, h3, h4, h5⟩
    have HCUR := Lib.hid (show AtT w g 9 cur.toList ∧ cur.size = cap from ⟨hcur, by omega⟩)
    have HCM := Lib.hid hcm
    have HTK := Lib.hid htk
    have lg : g < w.heap.size := (Array.getElem?_eq_some_iff.1 hcur).1
    have hCg : C ≠ g := fun e => hgC (by rw [e]; rfl)
    have hFg : F ≠ g := fun e => hgF (by rw [e]; rfl)
    obtain ⟨i0, hi0, hz0, hz1, hz2⟩ := info_parts info_str
    clear hcur hcm hcs htk hexit hC hown hF
    obtain ⟨h0, h1, s0, s1, t0, t1⟩ := st
    rcases hl with hl | hl
    · rw [hl] at f10' hv0
      have f10 := f10'
      have c5 : w.cell? ⟨C, 5, none⟩ = some (.slice (some ⟨g, 0, none⟩) n cap) := by rw [← hv0]; exact HC.out.cell 5 rfl
      rw [hl] at HX
      clear f10' hl hv0
      conv => arg 2; whnf
      refine wp_region_line_any (G := PutIn g n (.string x.value) w) (E := PutIn g n (.string x.value)) 16 (by kernel_rfl) (by kernel_rfl) (fun w _ => PutIn.refl _ _ _ _) (fun _ _ h1 h2 => h1.trans h2) (PutIn.drew _ _ _ _) ?_
      apply line_fix
      case now => (intro vs w' R hG hn hR; have hR' := Lib.hid hR; clear hR hn; skip; clear hG; go_simp; exact hR'.out _ (PutIn.refl _ _ _ _))
      case hangs => exact fun _ _ _ => rfl
      case hR => exact fun _ _ => ⟨_, PutIn.refl _ _ _ _⟩
      (try simp only [Act.put, List.setIfInBounds_toArray, List.set_cons_zero, List.set_cons_succ])
      apply line_fix
      case now => (intro vs w' R hG hn hR; have hR' := Lib.hid hR; clear hR hn; skip; clear hG; go_simp; exact hR'.out _ (PutIn.refl _ _ _ _))
      case hangs => exact fun _ _ _ => rfl
      case hR => exact fun _ _ => ⟨_, PutIn.refl _ _ _ _⟩
      (try simp only [Act.put, List.setIfInBounds_toArray, List.set_cons_zero, List.set_cons_succ])
      apply line_fix
      case now => (intro vs w' R hG hn hR; have hR' := Lib.hid hR; clear hR hn; have e1 := (hG.cell F 10 lF hFg).trans f10; clear hG; go_simp; exact hR'.out _ (PutIn.refl _ _ _ _))
      case hangs => exact fun _ _ _ => rfl
      case hR => exact fun _ _ => ⟨_, PutIn.refl _ _ _ _⟩
      (try simp only [Act.put, List.setIfInBounds_toArray, List.set_cons_zero, List.set_cons_succ])
      apply line_fix
      case now => (intro vs w' R hG hn hR; have hR' := Lib.hid hR; clear hR hn; skip; clear hG; go_simp; exact hR'.out _ (PutIn.refl _ _ _ _))
      case hangs => exact fun _ _ _ => rfl
      case hR => exact fun _ _ => ⟨_, PutIn.refl _ _ _ _⟩
      (try simp only [Act.put, List.setIfInBounds_toArray, List.set_cons_zero, List.set_cons_succ])
      apply line_fix
      case now => (intro vs w' R hG hn hR; have hR' := Lib.hid hR; clear hR hn; skip; clear hG; go_simp; exact hR'.out _ (PutIn.refl _ _ _ _))
      case hangs => exact fun _ _ _ => rfl
      case hR => exact fun _ _ => ⟨_, PutIn.refl _ _ _ _⟩
      (try simp only [Act.put, List.setIfInBounds_toArray, List.set_cons_zero, List.set_cons_succ])
      apply line_fix
      case now => (intro vs w' R hG hn hR; have hR' := Lib.hid hR; clear hR hn; have e1 := (hG.cell F 10 lF hFg).trans f10; clear hG; go_simp; exact hR'.out _ (PutIn.refl _ _ _ _))
      case hangs => exact fun _ _ _ => rfl
      case hR => exact fun _ _ => ⟨_, PutIn.refl _ _ _ _⟩
      (try simp only [Act.put, List.setIfInBounds_toArray, List.set_cons_zero, List.set_cons_succ])
      apply line_fix
      case now => (intro vs w' R hG hn hR; have hR' := Lib.hid hR; clear hR hn; skip; clear hG; go_simp; exact hR'.out _ (PutIn.refl _ _ _ _))
      case hangs => exact fun _ _ _ => rfl
      case hR => exact fun _ _ => ⟨_, PutIn.refl _ _ _ _⟩
      (try simp only [Act.put, List.setIfInBounds_toArray, List.set_cons_zero, List.set_cons_succ])
      apply line_fix
      case now => (intro vs w' R hG hn hR; have hR' := Lib.hid hR; clear hR hn; skip; clear hG; go_simp; exact hR'.out _ (PutIn.refl _ _ _ _))
      case hangs => exact fun _ _ _ => rfl
      case hR => exact fun _ _ => ⟨_, PutIn.refl _ _ _ _⟩
      (try simp only [Act.put, List.setIfInBounds_toArray, List.set_cons_zero, List.set_cons_succ])
      apply line_fix
      case now => (intro vs w' R hG hn hR; have hR' := Lib.hid hR; clear hR hn; skip; clear hG; go_simp; exact hR'.out _ (PutIn.refl _ _ _ _))
      case hangs => exact fun _ _ _ => rfl
      case hR => exact fun _ _ => ⟨_, PutIn.refl _ _ _ _⟩
      (try simp only [Act.put, List.setIfInBounds_toArray, List.set_cons_zero, List.set_cons_succ])
      apply line_fix
      case now => (intro vs w' R hG hn hR; have hR' := Lib.hid hR; clear hR hn; have e1 := (hG.cell C 5 lC hCg).trans c5; clear hG; go_simp; exact hR'.out _ (PutIn.refl _ _ _ _))
      case hangs => exact fun _ _ _ => rfl
      case hR => exact fun _ _ => ⟨_, PutIn.refl _ _ _ _⟩
      (try simp only [Act.put, List.setIfInBounds_toArray, List.set_cons_zero, List.set_cons_succ])
      apply line_fix
      case now => (intro vs w' R hG hn hR; have hR' := Lib.hid hR; clear hR hn; skip; clear hG; go_simp; exact hR'.out _ (PutIn.refl _ _ _ _))
      case hangs => exact fun _ _ _ => rfl
      case hR => exact fun _ _ => ⟨_, PutIn.refl _ _ _ _⟩
      (try simp only [Act.put, List.setIfInBounds_toArray, List.set_cons_zero, List.set_cons_succ])
      apply line_fix
      case now => (intro vs w' R hG hn hR; have hR' := Lib.hid hR; clear hR hn; have e1 := (hG.cell F 11 lF hFg).trans f11; clear hG; go_simp; exact hR'.out _ (PutIn.refl _ _ _ _))
      case hangs => exact fun _ _ _ => rfl
      case hR => exact fun _ _ => ⟨_, PutIn.refl _ _ _ _⟩
      (try simp only [Act.put, List.setIfInBounds_toArray, List.set_cons_zero, List.set_cons_succ])
      apply line_var (Φ := fun _ v w => ∃ b, v = .slice (some ⟨b, 0, none⟩) 1 1 ∧ At w b [.string x.value] ∧ b ≠ g)
      case keep => (rintro _ v w w' ⟨b, e, h, hne⟩ hp; exact ⟨b, e, hp.at_ h hne, hne⟩)
      case hangs => exact fun _ _ _ => rfl
      case now =>
        intro vs w' R hG hn hR
        have hR' := Lib.hid hR
        have hgl : g < w'.heap.size := Nat.lt_of_lt_of_le lg hG.size
        clear hR hn hG
        refine ⟨rfl, ?_⟩
        go_simp
        exact hR'.out _ _ ⟨_, rfl, At.new _ _ _, by omega⟩ (PutIn.of_below ((Below.refl _ _).alloc (Nat.le_refl _) _))
      (try simp only [Act.put, List.setIfInBounds_toArray, List.set_cons_zero, List.set_cons_succ])
      apply line_var (Φ := fun _ v w => v = .slice (some ⟨g, 0, none⟩) (n + 1) cap ∧ AtT w g 9 (cur.toList.set n (.string x.value)))
      case keep => (rintro _ v w w' ⟨e, h⟩ hp; refine ⟨e, ?_⟩; rcases hp.here _ _ h with h1 | h1; exact h1; rw [List.set_set] at h1; exact h1)
      case hangs => exact fun _ _ _ => rfl
      case now =>
        intro vs w' R hG hn hR
        have hR' := Lib.hid hR
        obtain ⟨b, eb, ab, hbg⟩ := hn.1 (by kernel_rfl)
        have hcur := HCUR.out.1
        have hAt : ∃ cur', AtT w' g 9 cur' ∧ cur'.length = cap ∧ cur'.set n (.string x.value) = cur.toList.set n (.string x.value) := by
          rcases hG.here _ _ hcur with h1 | h1
          · exact ⟨_, h1, by simpa using HCUR.out.2, rfl⟩
          · exact ⟨_, h1, by simpa using HCUR.out.2, by rw [List.set_set]⟩
        obtain ⟨cur', hA, hlen, hset⟩ := hAt
        have hrun := run_append_room_cells (P := Try.prog) w' 43 43 9 i0 Try.underlying43 hi0 g 0 n cap ⟨b, 0, none⟩ 1 1 [.string x.value] (by simp [hz1]) (fun j u hj => by rw [add_at, Nat.zero_add]; exact ab.cell j hj) (by simp [Value.oneCell']) (by omega)
          (fun j hj => by
            have hj' : j = 0 := by simpa using hj
            subst hj'
            rw [hz1]
            have hn' : n < cur'.length := by omega
            have := hA.at_.cell n (List.getElem?_eq_getElem hn')
            simp [this])
          (fun j hj => by
            have hj' : j = 0 := by simpa using hj
            subst hj'
            rw [hz1]
            exact hA.at_.frozen _)
        have hsc : w'.setCells g (0 + n * i0.size) [.string x.value] = w'.setCell ⟨g, n, none⟩ (.string x.value) := by rw [hz1]; simp [World.setCells]
        rw [hsc] at hrun
        clear hR hn hG
        refine ⟨rfl, ?_⟩
        refine gives_append rfl rfl eb hrun (hR'.out _ _ ⟨rfl, ?_⟩ PutIn.set)
        rw [← hset]
        exact hA.set n _
      (try simp only [Act.put, List.setIfInBounds_toArray, List.set_cons_zero, List.set_cons_succ])
      apply line_fix
      case now => (intro vs w' R hG hn hR; have hR' := Lib.hid hR; clear hR hn; skip; clear hG; go_simp; exact hR'.out _ (PutIn.refl _ _ _ _))
      case hangs => exact fun _ _ _ => rfl
      case hR => exact fun _ _ => ⟨_, PutIn.refl _ _ _ _⟩
      (try simp only [Act.put, List.setIfInBounds_toArray, List.set_cons_zero, List.set_cons_succ])
      apply line_fix
      case now => (intro vs w' R hG hn hR; have hR' := Lib.hid hR; clear hR hn; skip; clear hG; go_simp; exact hR'.out _ (PutIn.refl _ _ _ _))
      case hangs => exact fun _ _ _ => rfl
      case hR => exact fun _ _ => ⟨_, PutIn.refl _ _ _ _⟩
      (try simp only [Act.put, List.setIfInBounds_toArray, List.set_cons_zero, List.set_cons_succ])
      refine line_last (fun vs W4 hG4 hk => ?_)
      obtain ⟨⟨e13, a13⟩, _⟩ := hk
      dsimp only at e13 a13
      have hK4 := Lib.hid hG4.kept
      have z1 := (hG4.cell F 10 lF hFg).trans f10
      have z2 := (hG4.cell C 5 lC hCg).trans c5
      have hC4 := hG4.at_ HC.out hCg
      have z2f := hC4.frozen 5
      have HC4 := Lib.hid hC4
      have HA13 := Lib.hid a13
      clear hG4 hC4 a13
      go_wp2_with fail
      refine HX.out _ _ _ _ _ _ _ _ _ _ _ _ _ _ _ _ _ _ (.slice (some ⟨g, 0, none⟩) (n + 1) cap) ?_ (.inl rfl) (HC4.out.set 5 _) ?_
      · refine ⟨by rw [List.length_append, HOWN.out.1]; simp, .inr ⟨g, cap, (cur.toList.set n (.string x.value)).toArray, rfl, hbg, ?_, by omega, HCM.out, by simpa using HCUR.out.2, ?_⟩⟩
        · have hne : C ≠ g := hCg
          have := HA13.out
          unfold AtT at this
          rw [heap_setCell_ne _ _ _ _ _ hne]
          exact this
        · have ht := HTK.out
          have hcl : n < cur.toList.length := by have := HCUR.out.2; simp; omega
          simp only [Nat.mul_one] at ht ⊢
          rw [List.take_succ_eq_append_getElem (by simpa using hcl)]
          simp [List.take_set_of_le, ht]
      · refine (hK4.out.mono ?_).setCell (fun _ => .inl rfl) _ _
        rintro i _ rfl
        exact .inr rfl
    · rw [hl] at f10' hv0
      have f10 := f10'
      have c5 : w.cell? ⟨C, 6, none⟩ = some (.slice (some ⟨g, 0, none⟩) n cap) := by rw [← hv0]; exact HC.out.cell 6 rfl
      rw [hl] at HX
      clear f10' hl hv0
      conv => arg 2; whnf
      refine wp_region_line_any (G := PutIn g n (.string x.value) w) (E := PutIn g n (.string x.value)) 16 (by kernel_rfl) (by kernel_rfl) (fun w _ => PutIn.refl _ _ _ _) (fun _ _ h1 h2 => h1.trans h2) (PutIn.drew _ _ _ _) ?_
      apply line_fix
      case now => (intro vs w' R hG hn hR; have hR' := Lib.hid hR; clear hR hn; skip; clear hG; go_simp; exact hR'.out _ (PutIn.refl _ _ _ _))
      case hangs => exact fun _ _ _ => rfl
      case hR => exact fun _ _ => ⟨_, PutIn.refl _ _ _ _⟩
      (try simp only [Act.put, List.setIfInBounds_toArray, List.set_cons_zero, List.set_cons_succ])
      apply line_fix
      case now => (intro vs w' R hG hn hR; have hR' := Lib.hid hR; clear hR hn; skip; clear hG; go_simp; exact hR'.out _ (PutIn.refl _ _ _ _))
      case hangs => exact fun _ _ _ => rfl
      case hR => exact fun _ _ => ⟨_, PutIn.refl _ _ _ _⟩
      (try simp only [Act.put, List.setIfInBounds_toArray, List.set_cons_zero, List.set_cons_succ])
      apply line_fix
      case now => (intro vs w' R hG hn hR; have hR' := Lib.hid hR; clear hR hn; have e1 := (hG.cell F 10 lF hFg).trans f10; clear hG; go_simp; exact hR'.out _ (PutIn.refl _ _ _ _))
      case hangs => exact fun _ _ _ => rfl
      case hR => exact fun _ _ => ⟨_, PutIn.refl _ _ _ _⟩
      (try simp only [Act.put, List.setIfInBounds_toArray, List.set_cons_zero, List.set_cons_succ])
      apply line_fix
      case now => (intro vs w' R hG hn hR; have hR' := Lib.hid hR; clear hR hn; skip; clear hG; go_simp; exact hR'.out _ (PutIn.refl _ _ _ _))
      case hangs => exact fun _ _ _ => rfl
      case hR => exact fun _ _ => ⟨_, PutIn.refl _ _ _ _⟩
      (try simp only [Act.put, List.setIfInBounds_toArray, List.set_cons_zero, List.set_cons_succ])
      apply line_fix
      case now => (intro vs w' R hG hn hR; have hR' := Lib.hid hR; clear hR hn; skip; clear hG; go_simp; exact hR'.out _ (PutIn.refl _ _ _ _))
      case hangs => exact fun _ _ _ => rfl
      case hR => exact fun _ _ => ⟨_, PutIn.refl _ _ _ _⟩
      (try simp only [Act.put, List.setIfInBounds_toArray, List.set_cons_zero, List.set_cons_succ])
      apply line_fix
      case now => (intro vs w' R hG hn hR; have hR' := Lib.hid hR; clear hR hn; have e1 := (hG.cell F 10 lF hFg).trans f10; clear hG; go_simp; exact hR'.out _ (PutIn.refl _ _ _ _))
      case hangs => exact fun _ _ _ => rfl
      case hR => exact fun _ _ => ⟨_, PutIn.refl _ _ _ _⟩
      (try simp only [Act.put, List.setIfInBounds_toArray, List.set_cons_zero, List.set_cons_succ])
      apply line_fix
      case now => (intro vs w' R hG hn hR; have hR' := Lib.hid hR; clear hR hn; skip; clear hG; go_simp; exact hR'.out _ (PutIn.refl _ _ _ _))
      case hangs => exact fun _ _ _ => rfl
      case hR => exact fun _ _ => ⟨_, PutIn.refl _ _ _ _⟩
      (try simp only [Act.put, List.setIfInBounds_toArray, List.set_cons_zero, List.set_cons_succ])
      apply line_fix
      case now => (intro vs w' R hG hn hR; have hR' := Lib.hid hR; clear hR hn; skip; clear hG; go_simp; exact hR'.out _ (PutIn.refl _ _ _ _))
      case hangs => exact fun _ _ _ => rfl
      case hR => exact fun _ _ => ⟨_, PutIn.refl _ _ _ _⟩
      (try simp only [Act.put, List.setIfInBounds_toArray, List.set_cons_zero, List.set_cons_succ])
      apply line_fix
      case now => (intro vs w' R hG hn hR; have hR' := Lib.hid hR; clear hR hn; skip; clear hG; go_simp; exact hR'.out _ (PutIn.refl _ _ _ _))
      case hangs => exact fun _ _ _ => rfl
      case hR => exact fun _ _ => ⟨_, PutIn.refl _ _ _ _⟩
      (try simp only [Act.put, List.setIfInBounds_toArray, List.set_cons_zero, List.set_cons_succ])
      apply line_fix
      case now => (intro vs w' R hG hn hR; have hR' := Lib.hid hR; clear hR hn; have e1 := (hG.cell C 6 lC hCg).trans c5; clear hG; go_simp; exact hR'.out _ (PutIn.refl _ _ _ _))
      case hangs => exact fun _ _ _ => rfl
      case hR => exact fun _ _ => ⟨_, PutIn.refl _ _ _ _⟩
      (try simp only [Act.put, List.setIfInBounds_toArray, List.set_cons_zero, List.set_cons_succ])
      apply line_fix
      case now => (intro vs w' R hG hn hR; have hR' := Lib.hid hR; clear hR hn; skip; clear hG; go_simp; exact hR'.out _ (PutIn.refl _ _ _ _))
      case hangs => exact fun _ _ _ => rfl
      case hR => exact fun _ _ => ⟨_, PutIn.refl _ _ _ _⟩
      (try simp only [Act.put, List.setIfInBounds_toArray, List.set_cons_zero, List.set_cons_succ])
      apply line_fix
      case now => (intro vs w' R hG hn hR; have hR' := Lib.hid hR; clear hR hn; have e1 := (hG.cell F 11 lF hFg).trans f11; clear hG; go_simp; exact hR'.out _ (PutIn.refl _ _ _ _))
      case hangs => exact fun _ _ _ => rfl
      case hR => exact fun _ _ => ⟨_, PutIn.refl _ _ _ _⟩
      (try simp only [Act.put, List.setIfInBounds_toArray, List.set_cons_zero, List.set_cons_succ])
      apply line_var (Φ := fun _ v w => ∃ b, v = .slice (some ⟨b, 0, none⟩) 1 1 ∧ At w b [.string x.value] ∧ b ≠ g)
      case keep => (rintro _ v w w' ⟨b, e, h, hne⟩ hp; exact ⟨b, e, hp.at_ h hne, hne⟩)
      case hangs => exact fun _ _ _ => rfl
      case now =>
        intro vs w' R hG hn hR
        have hR' := Lib.hid hR
        have hgl : g < w'.heap.size := Nat.lt_of_lt_of_le lg hG.size
        clear hR hn hG
        refine ⟨rfl, ?_⟩
        go_simp
        exact hR'.out _ _ ⟨_, rfl, At.new _ _ _, by omega⟩ (PutIn.of_below ((Below.refl _ _).alloc (Nat.le_refl _) _))
      (try simp only [Act.put, List.setIfInBounds_toArray, List.set_cons_zero, List.set_cons_succ])
      apply line_var (Φ := fun _ v w => v = .slice (some ⟨g, 0, none⟩) (n + 1) cap ∧ AtT w g 9 (cur.toList.set n (.string x.value)))
      case keep => (rintro _ v w w' ⟨e, h⟩ hp; refine ⟨e, ?_⟩; rcases hp.here _ _ h with h1 | h1; exact h1; rw [List.set_set] at h1; exact h1)
      case hangs => exact fun _ _ _ => rfl
      case now =>
        intro vs w' R hG hn hR
        have hR' := Lib.hid hR
        obtain ⟨b, eb, ab, hbg⟩ := hn.1 (by kernel_rfl)
        have hcur := HCUR.out.1
        have hAt : ∃ cur', AtT w' g 9 cur' ∧ cur'.length = cap ∧ cur'.set n (.string x.value) = cur.toList.set n (.string x.value) := by
          rcases hG.here _ _ hcur with h1 | h1
          · exact ⟨_, h1, by simpa using HCUR.out.2, rfl⟩
          · exact ⟨_, h1, by simpa using HCUR.out.2, by rw [List.set_set]⟩
        obtain ⟨cur', hA, hlen, hset⟩ := hAt
        have hrun := run_append_room_cells (P := Try.prog) w' 43 43 9 i0 Try.underlying43 hi0 g 0 n cap ⟨b, 0, none⟩ 1 1 [.string x.value] (by simp [hz1]) (fun j u hj => by rw [add_at, Nat.zero_add]; exact ab.cell j hj) (by simp [Value.oneCell']) (by omega)
          (fun j hj => by
            have hj' : j = 0 := by simpa using hj
            subst hj'
            rw [hz1]
            have hn' : n < cur'.length := by omega
            have := hA.at_.cell n (List.getElem?_eq_getElem hn')
            simp [this])
          (fun j hj => by
            have hj' : j = 0 := by simpa using hj
            subst hj'
            rw [hz1]
            exact hA.at_.frozen _)
        have hsc : w'.setCells g (0 + n * i0.size) [.string x.value] = w'.setCell ⟨g, n, none⟩ (.string x.value) := by rw [hz1]; simp [World.setCells]
        rw [hsc] at hrun
        clear hR hn hG
        refine ⟨rfl, ?_⟩
        refine gives_append rfl rfl eb hrun (hR'.out _ _ ⟨rfl, ?_⟩ PutIn.set)
        rw [← hset]
        exact hA.set n _
      (try simp only [Act.put, List.setIfInBounds_toArray, List.set_cons_zero, List.set_cons_succ])
      apply line_fix
      case now => (intro vs w' R hG hn hR; have hR' := Lib.hid hR; clear hR hn; skip; clear hG; go_simp; exact hR'.out _ (PutIn.refl _ _ _ _))
      case hangs => exact fun _ _ _ => rfl
      case hR => exact fun _ _ => ⟨_, PutIn.refl _ _ _ _⟩
      (try simp only [Act.put, List.setIfInBounds_toArray, List.set_cons_zero, List.set_cons_succ])
      apply line_fix
      case now => (intro vs w' R hG hn hR; have hR' := Lib.hid hR; clear hR hn; skip; clear hG; go_simp; exact hR'.out _ (PutIn.refl _ _ _ _))
      case hangs => exact fun _ _ _ => rfl
      case hR => exact fun _ _ => ⟨_, PutIn.refl _ _ _ _⟩
      (try simp only [Act.put, List.setIfInBounds_toArray, List.set_cons_zero, List.set_cons_succ])
      refine line_last (fun vs W4 hG4 hk => ?_)
      obtain ⟨⟨e13, a13⟩, _⟩ := hk
      dsimp only at e13 a13
      have hK4 := Lib.hid hG4.kept
      have z1 := (hG4.cell F 10 lF hFg).trans f10
      have z2 := (hG4.cell C 6 lC hCg).trans c5
      have hC4 := hG4.at_ HC.out hCg
      have z2f := hC4.frozen 6
      have HC4 := Lib.hid hC4
      have HA13 := Lib.hid a13
      clear hG4 hC4 a13
      go_wp2_with fail
      refine HX.out _ _ _ _ _ _ _ _ _ _ _ _ _ _ _ _ _ _ (.slice (some ⟨g, 0, none⟩) (n + 1) cap) ?_ (.inl rfl) (HC4.out.set 6 _) ?_
      · refine ⟨by rw [List.length_append, HOWN.out.1]; simp, .inr ⟨g, cap, (cur.toList.set n (.string x.value)).toArray, rfl, hbg, ?_, by omega, HCM.out, by simpa using HCUR.out.2, ?_⟩⟩
        · have hne : C ≠ g := hCg
          have := HA13.out
          unfold AtT at this
          rw [heap_setCell_ne _ _ _ _ _ hne]
          exact this
        · have ht := HTK.out
          have hcl : n < cur.toList.length := by have := HCUR.out.2; simp; omega
          simp only [Nat.mul_one] at ht ⊢
          rw [List.take_succ_eq_append_getElem (by simpa using hcl)]
          simp [List.take_set_of_le, ht]
      · refine (hK4.out.mono ?_).setCell (fun _ => .inl rfl) _ _
        rintro i _ rfl
        exact .inr rfl
  · have hfull : v0 = .slice none 0 0 ∨ ∃ g, v0 = .slice (some ⟨g, 0, none⟩) n n := by
      rcases hown.2 with ⟨h, _⟩ | ⟨g', cap', cur, h, h1, h2, h3, _⟩
      · exact .inl h
      · refine .inr ⟨g', ?_⟩
        have : cap' = n := by
          rcases Nat.lt_or_ge n cap' with h' | h'
          · exact absurd ⟨g', cap', h, h'⟩ hroom
          · omega
        rw [h, this]
    have HAP := Lib.hid (fun (W : World) (hW : Below w.heap.size w W) (b : Nat) (hb : At W b [.string x.value]) => append_new w base v0 n xs hown hfull hbig W hW b (.string x.value) rfl hb)
    clear hexit hC hown hF hroom hfull
    obtain ⟨h0, h1, s0, s1, t0, t1⟩ := st
    rcases hl with hl | hl
    · rw [hl] at f10' hv0
      have f10 := f10'
      have c5 : w.cell? ⟨C, 5, none⟩ = some v0 := by rw [← hv0]; exact HC.out.cell 5 rfl
      rw [hl] at HX
      clear f10' hl hv0
      conv => arg 2; whnf
      refine wp_region_line 16 (by kernel_rfl) (by kernel_rfl) ?_
      apply line_fix
      case now => (intro vs w' R hG hn hR; have hR' := Lib.hid hR; replace hG : Below _ _ _ := hG; clear hR hn; skip; clear hG; go_simp; exact hR'.out _ (Below.refl _ _))
      case hangs => exact fun _ _ _ => rfl
      case hR => exact fun _ _ => ⟨_, Below.refl _ _⟩
      (try simp only [Act.put, List.setIfInBounds_toArray, List.set_cons_zero, List.set_cons_succ])
      apply line_fix
      case now => (intro vs w' R hG hn hR; have hR' := Lib.hid hR; replace hG : Below _ _ _ := hG; clear hR hn; skip; clear hG; go_simp; exact hR'.out _ (Below.refl _ _))
      case hangs => exact fun _ _ _ => rfl
      case hR => exact fun _ _ => ⟨_, Below.refl _ _⟩
      (try simp only [Act.put, List.setIfInBounds_toArray, List.set_cons_zero, List.set_cons_succ])
      apply line_fix
      case now => (intro vs w' R hG hn hR; have hR' := Lib.hid hR; replace hG : Below _ _ _ := hG; clear hR hn; have e1 := (hG.cell (p := ⟨F, 10, none⟩) lF).trans f10; clear hG; go_simp; exact hR'.out _ (Below.refl _ _))
      case hangs => exact fun _ _ _ => rfl
      case hR => exact fun _ _ => ⟨_, Below.refl _ _⟩
      (try simp only [Act.put, List.setIfInBounds_toArray, List.set_cons_zero, List.set_cons_succ])
      apply line_fix
      case now => (intro vs w' R hG hn hR; have hR' := Lib.hid hR; replace hG : Below _ _ _ := hG; clear hR hn; skip; clear hG; go_simp; exact hR'.out _ (Below.refl _ _))
      case hangs => exact fun _ _ _ => rfl
      case hR => exact fun _ _ => ⟨_, Below.refl _ _⟩
      (try simp only [Act.put, List.setIfInBounds_toArray, List.set_cons_zero, List.set_cons_succ])
      apply line_fix
      case now => (intro vs w' R hG hn hR; have hR' := Lib.hid hR; replace hG : Below _ _ _ := hG; clear hR hn; skip; clear hG; go_simp; exact hR'.out _ (Below.refl _ _))
      case hangs => exact fun _ _ _ => rfl
      case hR => exact fun _ _ => ⟨_, Below.refl _ _⟩
      (try simp only [Act.put, List.setIfInBounds_toArray, List.set_cons_zero, List.set_cons_succ])
      apply line_fix
      case now => (intro vs w' R hG hn hR; have hR' := Lib.hid hR; replace hG : Below _ _ _ := hG; clear hR hn; have e1 := (hG.cell (p := ⟨F, 10, none⟩) lF).trans f10; clear hG; go_simp; exact hR'.out _ (Below.refl _ _))
      case hangs => exact fun _ _ _ => rfl
      case hR => exact fun _ _ => ⟨_, Below.refl _ _⟩
      (try simp only [Act.put, List.setIfInBounds_toArray, List.set_cons_zero, List.set_cons_succ])
      apply line_fix
      case now => (intro vs w' R hG hn hR; have hR' := Lib.hid hR; replace hG : Below _ _ _ := hG; clear hR hn; skip; clear hG; go_simp; exact hR'.out _ (Below.refl _ _))
      case hangs => exact fun _ _ _ => rfl
      case hR => exact fun _ _ => ⟨_, Below.refl _ _⟩
      (try simp only [Act.put, List.setIfInBounds_toArray, List.set_cons_zero, List.set_cons_succ])
      apply line_fix
      case now => (intro vs w' R hG hn hR; have hR' := Lib.hid hR; replace hG : Below _ _ _ := hG; clear hR hn; skip; clear hG; go_simp; exact hR'.out _ (Below.refl _ _))
      case hangs => exact fun _ _ _ => rfl
      case hR => exact fun _ _ => ⟨_, Below.refl _ _⟩
      (try simp only [Act.put, List.setIfInBounds_toArray, List.set_cons_zero, List.set_cons_succ])
      apply line_fix
      case now => (intro vs w' R hG hn hR; have hR' := Lib.hid hR; replace hG : Below _ _ _ := hG; clear hR hn; skip; clear hG; go_simp; exact hR'.out _ (Below.refl _ _))
      case hangs => exact fun _ _ _ => rfl
      case hR => exact fun _ _ => ⟨_, Below.refl _ _⟩
      (try simp only [Act.put, List.setIfInBounds_toArray, List.set_cons_zero, List.set_cons_succ])
      apply line_fix
      case now => (intro vs w' R hG hn hR; have hR' := Lib.hid hR; replace hG : Below _ _ _ := hG; clear hR hn; have e1 := (hG.cell (p := ⟨C, 5, none⟩) lC).trans c5; clear hG; go_simp; exact hR'.out _ (Below.refl _ _))
      case hangs => exact fun _ _ _ => rfl
      case hR => exact fun _ _ => ⟨_, Below.refl _ _⟩
      (try simp only [Act.put, List.setIfInBounds_toArray, List.set_cons_zero, List.set_cons_succ])
      apply line_fix
      case now => (intro vs w' R hG hn hR; have hR' := Lib.hid hR; replace hG : Below _ _ _ := hG; clear hR hn; skip; clear hG; go_simp; exact hR'.out _ (Below.refl _ _))
      case hangs => exact fun _ _ _ => rfl
      case hR => exact fun _ _ => ⟨_, Below.refl _ _⟩
      (try simp only [Act.put, List.setIfInBounds_toArray, List.set_cons_zero, List.set_cons_succ])
      apply line_fix
      case now => (intro vs w' R hG hn hR; have hR' := Lib.hid hR; replace hG : Below _ _ _ := hG; clear hR hn; have e1 := (hG.cell (p := ⟨F, 11, none⟩) lF).trans f11; clear hG; go_simp; exact hR'.out _ (Below.refl _ _))
      case hangs => exact fun _ _ _ => rfl
      case hR => exact fun _ _ => ⟨_, Below.refl _ _⟩
      (try simp only [Act.put, List.setIfInBounds_toArray, List.set_cons_zero, List.set_cons_succ])
      apply line_var (Φ := fun _ v w => ∃ b, v = .slice (some ⟨b, 0, none⟩) 1 1 ∧ At w b [.string x.value])
      case keep => (rintro _ v w w' ⟨b, e, h⟩ hp; exact ⟨b, e, h.next hp⟩)
      case hangs => exact fun _ _ _ => rfl
      case now =>
        intro vs w' R hG hn hR
        have hR' := Lib.hid hR
        clear hR hn hG
        refine ⟨rfl, ?_⟩
        go_simp
        exact hR'.out _ _ ⟨_, rfl, At.new _ _ _⟩ ((Below.refl _ _).alloc (Nat.le_refl _) _)
      (try simp only [Act.put, List.setIfInBounds_toArray, List.set_cons_zero, List.set_cons_succ])
      apply line_var (Φ := fun _ v w' => ∃ g cap, v = .slice (some ⟨g, 0, none⟩) (n + 1) cap ∧ w'.ownsRow w.heap.size 9 1 v (n + 1) (xs ++ [.string x.value]))
      case keep => (rintro _ v w w' ⟨g, cap, e, h⟩ hp; exact ⟨g, cap, e, own_below h hp⟩)
      case hangs => exact fun _ _ _ => rfl
      case now =>
        intro vs w' R hG hn hR
        have hR' := Lib.hid hR
        replace hG : Below _ _ _ := hG
        obtain ⟨b, eb, ab⟩ := hn.1 (by kernel_rfl)
        obtain ⟨v1, w1, h1, h2, h3⟩ := HAP.out w' hG b ab
        have hsz := hG.size
        clear hR hn hG
        obtain ⟨g, cap, rfl, _, _⟩ := h2.form (by omega)
        refine ⟨rfl, ?_⟩
        exact gives_append rfl rfl eb h1 (hR'.out _ _ ⟨g, cap, rfl, own_mono h2 hsz⟩ h3)
      (try simp only [Act.put, List.setIfInBounds_toArray, List.set_cons_zero, List.set_cons_succ])
      apply line_fix
      case now => (intro vs w' R hG hn hR; have hR' := Lib.hid hR; replace hG : Below _ _ _ := hG; clear hR hn; skip; clear hG; go_simp; exact hR'.out _ (Below.refl _ _))
      case hangs => exact fun _ _ _ => rfl
      case hR => exact fun _ _ => ⟨_, Below.refl _ _⟩
      (try simp only [Act.put, List.setIfInBounds_toArray, List.set_cons_zero, List.set_cons_succ])
      apply line_fix
      case now => (intro vs w' R hG hn hR; have hR' := Lib.hid hR; replace hG : Below _ _ _ := hG; clear hR hn; skip; clear hG; go_simp; exact hR'.out _ (Below.refl _ _))
      case hangs => exact fun _ _ _ => rfl
      case hR => exact fun _ _ => ⟨_, Below.refl _ _⟩
      (try simp only [Act.put, List.setIfInBounds_toArray, List.set_cons_zero, List.set_cons_succ])
      refine line_last (fun vs W4 hG4 hk => ?_)
      replace hG4 : Below _ _ _ := hG4
      obtain ⟨⟨g, cap, e13, a13⟩, _⟩ := hk
      dsimp only at e13 a13
      rw [e13] at a13
      have z1 := (hG4.cell (p := ⟨F, 10, none⟩) lF).trans f10
      have z2 := (hG4.cell (p := ⟨C, 5, none⟩) lC).trans c5
      have hC4 := HC.out.next hG4
      have z2f := hC4.frozen 5
      have HC4 := Lib.hid hC4
      have HA13 := Lib.hid a13
      have HG4 := Lib.hid hG4
      clear hG4 hC4 a13
      go_wp2_with fail
      refine HX.out _ _ _ _ _ _ _ _ _ _ _ _ _ _ _ _ _ _ (.slice (some ⟨g, 0, none⟩) (n + 1) cap) ?_ (.inr ⟨g, rfl, (HA13.out.lt g rfl).1⟩) (HC4.out.set 5 _) ?_
      · refine own_mono (own_keep HA13.out ((Kept.refl (· = C) _).setCell (fun _ => rfl) 5 (.slice (some ⟨g, 0, none⟩) (n + 1) cap)) ?_) hbase
        intro g' hg' e
        have := (HA13.out.lt g' hg').1
        omega
      · exact (Kept.of_below _ HG4.out).setCell (fun _ => .inl rfl) _ _
    · rw [hl] at f10' hv0
      have f10 := f10'
      have c5 : w.cell? ⟨C, 6, none⟩ = some v0 := by rw [← hv0]; exact HC.out.cell 6 rfl
      rw [hl] at HX
      clear f10' hl hv0
      conv => arg 2; whnf
      refine wp_region_line 16 (by kernel_rfl) (by kernel_rfl) ?_
      apply line_fix
      case now => (intro vs w' R hG hn hR; have hR' := Lib.hid hR; replace hG : Below _ _ _ := hG; clear hR hn; skip; clear hG; go_simp; exact hR'.out _ (Below.refl _ _))
      case hangs => exact fun _ _ _ => rfl
      case hR => exact fun _ _ => ⟨_, Below.refl _ _⟩
      (try simp only [Act.put, List.setIfInBounds_toArray, List.set_cons_zero, List.set_cons_succ])
      apply line_fix
      case now => (intro vs w' R hG hn hR; have hR' := Lib.hid hR; replace hG : Below _ _ _ := hG; clear hR hn; skip; clear hG; go_simp; exact hR'.out _ (Below.refl _ _))
      case hangs => exact fun _ _ _ => rfl
      case hR => exact fun _ _ => ⟨_, Below.refl _ _⟩
      (try simp only [Act.put, List.setIfInBounds_toArray, List.set_cons_zero, List.set_cons_succ])
      apply line_fix
      case now => (intro vs w' R hG hn hR; have hR' := Lib.hid hR; replace hG : Below _ _ _ := hG; clear hR hn; have e1 := (hG.cell (p := ⟨F, 10, none⟩) lF).trans f10; clear hG; go_simp; exact hR'.out _ (Below.refl _ _))
      case hangs => exact fun _ _ _ => rfl
      case hR => exact fun _ _ => ⟨_, Below.refl _ _⟩
      (try simp only [Act.put, List.setIfInBounds_toArray, List.set_cons_zero, List.set_cons_succ])
      apply line_fix
      case now => (intro vs w' R hG hn hR; have hR' := Lib.hid hR; replace hG : Below _ _ _ := hG; clear hR hn; skip; clear hG; go_simp; exact hR'.out _ (Below.refl _ _))
      case hangs => exact fun _ _ _ => rfl
      case hR => exact fun _ _ => ⟨_, Below.refl _ _⟩
      (try simp only [Act.put, List.setIfInBounds_toArray, List.set_cons_zero, List.set_cons_succ])
      apply line_fix
      case now => (intro vs w' R hG hn hR; have hR' := Lib.hid hR; replace hG : Below _ _ _ := hG; clear hR hn; skip; clear hG; go_simp; exact hR'.out _ (Below.refl _ _))
      case hangs => exact fun _ _ _ => rfl
      case hR => exact fun _ _ => ⟨_, Below.refl _ _⟩
      (try simp only [Act.put, List.setIfInBounds_toArray, List.set_cons_zero, List.set_cons_succ])
      apply line_fix
      case now => (intro vs w' R hG hn hR; have hR' := Lib.hid hR; replace hG : Below _ _ _ := hG; clear hR hn; have e1 := (hG.cell (p := ⟨F, 10, none⟩) lF).trans f10; clear hG; go_simp; exact hR'.out _ (Below.refl _ _))
      case hangs => exact fun _ _ _ => rfl
      case hR => exact fun _ _ => ⟨_, Below.refl _ _⟩
      (try simp only [Act.put, List.setIfInBounds_toArray, List.set_cons_zero, List.set_cons_succ])
      apply line_fix
      case now => (intro vs w' R hG hn hR; have hR' := Lib.hid hR; replace hG : Below _ _ _ := hG; clear hR hn; skip; clear hG; go_simp; exact hR'.out _ (Below.refl _ _))
      case hangs => exact fun _ _ _ => rfl
      case hR => exact fun _ _ => ⟨_, Below.refl _ _⟩
      (try simp only [Act.put, List.setIfInBounds_toArray, List.set_cons_zero, List.set_cons_succ])
      apply line_fix
      case now => (intro vs w' R hG hn hR; have hR' := Lib.hid hR; replace hG : Below _ _ _ := hG; clear hR hn; skip; clear hG; go_simp; exact hR'.out _ (Below.refl _ _))
      case hangs => exact fun _ _ _ => rfl
      case hR => exact fun _ _ => ⟨_, Below.refl _ _⟩
      (try simp only [Act.put, List.setIfInBounds_toArray, List.set_cons_zero, List.set_cons_succ])
      apply line_fix
      case now => (intro vs w' R hG hn hR; have hR' := Lib.hid hR; replace hG : Below _ _ _ := hG; clear hR hn; skip; clear hG; go_simp; exact hR'.out _ (Below.refl _ _))
      case hangs => exact fun _ _ _ => rfl
      case hR => exact fun _ _ => ⟨_, Below.refl _ _⟩
      (try simp only [Act.put, List.setIfInBounds_toArray, List.set_cons_zero, List.set_cons_succ])
      apply line_fix
      case now => (intro vs w' R hG hn hR; have hR' := Lib.hid hR; replace hG : Below _ _ _ := hG; clear hR hn; have e1 := (hG.cell (p := ⟨C, 6, none⟩) lC).trans c5; clear hG; go_simp; exact hR'.out _ (Below.refl _ _))
      case hangs => exact fun _ _ _ => rfl
      case hR => exact fun _ _ => ⟨_, Below.refl _ _⟩
      (try simp only [Act.put, List.setIfInBounds_toArray, List.set_cons_zero, List.set_cons_succ])
      apply line_fix
      case now => (intro vs w' R hG hn hR; have hR' := Lib.hid hR; replace hG : Below _ _ _ := hG; clear hR hn; skip; clear hG; go_simp; exact hR'.out _ (Below.refl _ _))
      case hangs => exact fun _ _ _ => rfl
      case hR => exact fun _ _ => ⟨_, Below.refl _ _⟩
      (try simp only [Act.put, List.setIfInBounds_toArray, List.set_cons_zero, List.set_cons_succ])
      apply line_fix
      case now => (intro vs w' R hG hn hR; have hR' := Lib.hid hR; replace hG : Below _ _ _ := hG; clear hR hn; have e1 := (hG.cell (p := ⟨F, 11, none⟩) lF).trans f11; clear hG; go_simp; exact hR'.out _ (Below.refl _ _))
      case hangs => exact fun _ _ _ => rfl
      case hR => exact fun _ _ => ⟨_, Below.refl _ _⟩
      (try simp only [Act.put, List.setIfInBounds_toArray, List.set_cons_zero, List.set_cons_succ])
      apply line_var (Φ := fun _ v w => ∃ b, v = .slice (some ⟨b, 0, none⟩) 1 1 ∧ At w b [.string x.value])
      case keep => (rintro _ v w w' ⟨b, e, h⟩ hp; exact ⟨b, e, h.next hp⟩)
      case hangs => exact fun _ _ _ => rfl
      case now =>
        intro vs w' R hG hn hR
        have hR' := Lib.hid hR
        clear hR hn hG
        refine ⟨rfl, ?_⟩
        go_simp
        exact hR'.out _ _ ⟨_, rfl, At.new _ _ _⟩ ((Below.refl _ _).alloc (Nat.le_refl _) _)
      (try simp only [Act.put, List.setIfInBounds_toArray, List.set_cons_zero, List.set_cons_succ])
      apply line_var (Φ := fun _ v w' => ∃ g cap, v = .slice (some ⟨g, 0, none⟩) (n + 1) cap ∧ w'.ownsRow w.heap.size 9 1 v (n + 1) (xs ++ [.string x.value]))
      case keep => (rintro _ v w w' ⟨g, cap, e, h⟩ hp; exact ⟨g, cap, e, own_below h hp⟩)
      case hangs => exact fun _ _ _ => rfl
      case now =>
        intro vs w' R hG hn hR
        have hR' := Lib.hid hR
        replace hG : Below _ _ _ := hG
        obtain ⟨b, eb, ab⟩ := hn.1 (by kernel_rfl)
        obtain ⟨v1, w1, h1, h2, h3⟩ := HAP.out w' hG b ab
        have hsz := hG.size
        clear hR hn hG
        obtain ⟨g, cap, rfl, _, _⟩ := h2.form (by omega)
        refine ⟨rfl, ?_⟩
        exact gives_append rfl rfl eb h1 (hR'.out _ _ ⟨g, cap, rfl, own_mono h2 hsz⟩ h3)
      (try simp only [Act.put, List.setIfInBounds_toArray, List.set_cons_zero, List.set_cons_succ])
      apply line_fix
      case now => (intro vs w' R hG hn hR; have hR' := Lib.hid hR; replace hG : Below _ _ _ := hG; clear hR hn; skip; clear hG; go_simp; exact hR'.out _ (Below.refl _ _))
      case hangs => exact fun _ _ _ => rfl
      case hR => exact fun _ _ => ⟨_, Below.refl _ _⟩
      (try simp only [Act.put, List.setIfInBounds_toArray, List.set_cons_zero, List.set_cons_succ])
      apply line_fix
      case now => (intro vs w' R hG hn hR; have hR' := Lib.hid hR; replace hG : Below _ _ _ := hG; clear hR hn; skip; clear hG; go_simp; exact hR'.out _ (Below.refl _ _))
      case hangs => exact fun _ _ _ => rfl
      case hR => exact fun _ _ => ⟨_, Below.refl _ _⟩
      (try simp only [Act.put, List.setIfInBounds_toArray, List.set_cons_zero, List.set_cons_succ])
      refine line_last (fun vs W4 hG4 hk => ?_)
      replace hG4 : Below _ _ _ := hG4
      obtain ⟨⟨g, cap, e13, a13⟩, _⟩ := hk
      dsimp only at e13 a13
      rw [e13] at a13
      have z1 := (hG4.cell (p := ⟨F, 10, none⟩) lF).trans f10
      have z2 := (hG4.cell (p := ⟨C, 6, none⟩) lC).trans c5
      have hC4 := HC.out.next hG4
      have z2f := hC4.frozen 6
      have HC4 := Lib.hid hC4
      have HA13 := Lib.hid a13
      have HG4 := Lib.hid hG4
      clear hG4 hC4 a13
      go_wp2_with fail
      refine HX.out _ _ _ _ _ _ _ _ _ _ _ _ _ _ _ _ _ _ (.slice (some ⟨g, 0, none⟩) (n + 1) cap) ?_ (.inr ⟨g, rfl, (HA13.out.lt g rfl).1⟩) (HC4.out.set 6 _) ?_
      · refine own_mono (own_keep HA13.out ((Kept.refl (· = C) _).setCell (fun _ => rfl) 6 (.slice (some ⟨g, 0, none⟩) (n + 1) cap)) ?_) hbase
        intro g' hg' e
        have := (HA13.out.lt g' hg').1
        omega
      · exact (Kept.of_below _ HG4.out).setCell (fun _ => .inl rfl) _ _
end Go.Proofs.Ytfbpjhhcpockfaa
