/- book.Of's second loop: the writes that count, by key and label. No condition. -/
import Derived.Test.YtfbpjhhcpockfaaGroups
set_option linter.unusedVariables false
set_option linter.unusedSimpArgs false
namespace Go.Proofs.Ytfbpjhhcpockfaa
open Go.RowKit Go.Shelf Go.Maps
noncomputable def ofB2 : Code := loopOf Try.f13.body 1
/-- The events of a key and label. -/
def grp (L : List Ev) (s : Str) (l : Int) : List Ev := L.filter fun e => e.k == s && e.label == l
theorem grp_snoc {L : List Ev} {j : Nat} {x : Ev} (hx : L[j]? = some x) : grp (L.take (j + 1)) = fun s l => if s = x.k ∧ l = x.label then grp (L.take j) s l ++ [x] else grp (L.take j) s l := by
  funext s l
  unfold grp
  rw [take_snoc hx, List.filter_append]
  by_cases h : s = x.k ∧ l = x.label
  · obtain ⟨rfl, rfl⟩ := h
    simp
  · have : (x.k == s && x.label == l) = false := by
      simp only [Bool.and_eq_false_iff, beq_eq_false_iff_ne]
      by_cases h1 : x.k = s
      · exact .inr fun h2 => h ⟨h1.symm, h2.symm⟩
      · exact .inl h1
    simp [h, this]
theorem grp_len (L : List Ev) (j : Nat) (s : Str) (l : Int) : (grp (L.take j) s l).length ≤ j := Nat.le_trans (List.length_filter_le _ _) (List.length_take_le _ _)
set_option maxRecDepth 100000 in
set_option maxHeartbeats 2000000 in
theorem of_loop2 (Q : Exit → Act → World → Prop) (A : Option Addr) (n c B base : Nat) (L : List Ev) (w : World) (u0 u1 u2 u3 u4 u5 u7 u8 u9 u10 u11 u12 u13 u14 u15 u16 u17 u18 u19 u20 u21 u22 u23 u24 u25 u26 u27 u28 u29 u30 u31 u32 u33 u34 u35 u36 u37 u38 u39 u40 u44 u45 u46 u47 u48 u49 u50 u51 u52 u53 u54 u55 u56 u57 u58 u59 u60 u61 u62 u63 u64 u65 u66 u67 u68 u69 u70 u71 u72 u73 u74 u75 u76 u77 u78 u79 u80 u81 u82 u83 u84 u85 u86 u87 u88 u89 u90 u91 u92 u93 u94 u95 u96 u97 u98 u99 u100 u101 u102 u103 u104 u105 u106 u107 u108 u109 u110 u111 u112 u113 u114 u115 u116 u117 u118 u119 u120 u121 u122 u123 u124 u125 u126 u127 u128 u129 u130 u131 u132 u133 u134 u135 u136 u137 u138 u139 u140 u141 u142 u143 u144 u145 u146 u147 u148 u149 u150 u151 u152 u153 u154 u155 u156 u157 u158 u159 u160 u161 u162 u163 u164 u165 u166 u167 u168 u169 u170 u171 u172 u173 u174 u175 u176 u177 u178 u179 u180 u181 u182 u183 u184 u185 u186 u187 u188 : Value)
    (hR : RdEv w A n L) (hok : ∀ e ∈ L, e.ok) (hbig : n ≤ 1000000000) (hM : GroupsAt w B 0 base (fun _ => none) (fun _ _ => [])) (hbase : w.heap.size = base)
    (hexit : ∀ (x8 x9 x43 x44 x45 x46 x47 x48 x49 x50 x51 x52 x53 x54 x55 x56 x57 x58 x59 x60 : Value) (w' : World) (gr : Lit → Option Value), GroupsAt w' B n base gr (grp L) → Kept (· = B) w w' →
      Q (.exit 2) ⟨(List.toArray (u0 :: u1 :: u2 :: u3 :: u4 :: u5 :: .map (some B) :: u7 :: x8 :: x9 :: u10 :: u11 :: u12 :: u13 :: u14 :: u15 :: u16 :: u17 :: u18 :: u19 :: u20 :: u21 :: u22 :: u23 :: u24 :: u25 :: u26 :: u27 :: u28 :: u29 :: u30 :: u31 :: u32 :: u33 :: u34 :: u35 :: u36 :: u37 :: u38 :: u39 :: u40 :: .slice A n c :: .int .i64 n :: x43 :: x44 :: x45 :: x46 :: x47 :: x48 :: x49 :: x50 :: x51 :: x52 :: x53 :: x54 :: x55 :: x56 :: x57 :: x58 :: x59 :: x60 :: u61 :: u62 :: u63 :: u64 :: u65 :: u66 :: u67 :: u68 :: u69 :: u70 :: u71 :: u72 :: u73 :: u74 :: u75 :: u76 :: u77 :: u78 :: u79 :: u80 :: u81 :: u82 :: u83 :: u84 :: u85 :: u86 :: u87 :: u88 :: u89 :: u90 :: u91 :: u92 :: u93 :: u94 :: u95 :: u96 :: u97 :: u98 :: u99 :: u100 :: u101 :: u102 :: u103 :: u104 :: u105 :: u106 :: u107 :: u108 :: u109 :: u110 :: u111 :: u112 :: u113 :: u114 :: u115 :: u116 :: u117 :: u118 :: u119 :: u120 :: u121 :: u122 :: u123 :: u124 :: u125 :: u126 :: u127 :: u128 :: u129 :: u130 :: u131 :: u132 :: u133 :: u134 :: u135 :: u136 :: u137 :: u138 :: u139 :: u140 :: u141 :: u142 :: u143 :: u144 :: u145 :: u146 :: u147 :: u148 :: u149 :: u150 :: u151 :: u152 :: u153 :: u154 :: u155 :: u156 :: u157 :: u158 :: u159 :: u160 :: u161 :: u162 :: u163 :: u164 :: u165 :: u166 :: u167 :: u168 :: u169 :: u170 :: u171 :: u172 :: u173 :: u174 :: u175 :: u176 :: u177 :: u178 :: u179 :: u180 :: u181 :: u182 :: u183 :: u184 :: u185 :: u186 :: u187 :: u188 :: [])), []⟩ w') :
    Code.wp Try.prog (.loop ofB2) Q ⟨(List.toArray (u0 :: u1 :: u2 :: u3 :: u4 :: u5 :: .map (some B) :: u7 :: u8 :: u9 :: u10 :: u11 :: u12 :: u13 :: u14 :: u15 :: u16 :: u17 :: u18 :: u19 :: u20 :: u21 :: u22 :: u23 :: u24 :: u25 :: u26 :: u27 :: u28 :: u29 :: u30 :: u31 :: u32 :: u33 :: u34 :: u35 :: u36 :: u37 :: u38 :: u39 :: u40 :: .slice A n c :: .int .i64 n :: .int .i64 0 :: u44 :: u45 :: u46 :: u47 :: u48 :: u49 :: u50 :: u51 :: u52 :: u53 :: u54 :: u55 :: u56 :: u57 :: u58 :: u59 :: u60 :: u61 :: u62 :: u63 :: u64 :: u65 :: u66 :: u67 :: u68 :: u69 :: u70 :: u71 :: u72 :: u73 :: u74 :: u75 :: u76 :: u77 :: u78 :: u79 :: u80 :: u81 :: u82 :: u83 :: u84 :: u85 :: u86 :: u87 :: u88 :: u89 :: u90 :: u91 :: u92 :: u93 :: u94 :: u95 :: u96 :: u97 :: u98 :: u99 :: u100 :: u101 :: u102 :: u103 :: u104 :: u105 :: u106 :: u107 :: u108 :: u109 :: u110 :: u111 :: u112 :: u113 :: u114 :: u115 :: u116 :: u117 :: u118 :: u119 :: u120 :: u121 :: u122 :: u123 :: u124 :: u125 :: u126 :: u127 :: u128 :: u129 :: u130 :: u131 :: u132 :: u133 :: u134 :: u135 :: u136 :: u137 :: u138 :: u139 :: u140 :: u141 :: u142 :: u143 :: u144 :: u145 :: u146 :: u147 :: u148 :: u149 :: u150 :: u151 :: u152 :: u153 :: u154 :: u155 :: u156 :: u157 :: u158 :: u159 :: u160 :: u161 :: u162 :: u163 :: u164 :: u165 :: u166 :: u167 :: u168 :: u169 :: u170 :: u171 :: u172 :: u173 :: u174 :: u175 :: u176 :: u177 :: u178 :: u179 :: u180 :: u181 :: u182 :: u183 :: u184 :: u185 :: u186 :: u187 :: u188 :: [])), []⟩ w := by
  conv => arg 2; arg 1; whnf
  obtain ⟨es, clock, hmh⟩ := hM.map.heap
  have hRr := Lib.hid (fun (W : World) (h : Kept (· = B) w W) => hR.keep h (fun b o e hne => hR.2.not_map hmh b o e hne))
  have HX := Lib.hid hexit
  have HM := Lib.hid hM
  have HL := Lib.hid hR.1
  have HOK := Lib.hid hok
  have HBS := Lib.hid hbase
  have hbase' : base ≤ w.heap.size := by omega
  clear hM hexit hR hok hmh hbase
  go_loopw [43] (fun i wr => ∃ j : Nat, j ≤ n ∧ i = .int .i64 j ∧ ∃ gr : Lit → Option Value, GroupsAt wr B j base gr (grp (L.take j)) ∧ Kept (· = B) w wr) (fun i _ => n - (intOf i).toNat)
  case atStart => exact ⟨0, by omega, rfl, _, HM.out, Kept.refl _ _⟩
  case round =>
    obtain ⟨j, hj, rfl, gr, hG, hbr⟩ := hrel
    by_cases hjn : j < n
    · obtain ⟨x, hx⟩ : ∃ x, L[j]? = some x := ⟨L[j]'(by rw [HL.out]; exact hjn), List.getElem?_eq_getElem _⟩
      have hR' := hRr.out wr hbr
      obtain ⟨b, o, hA, hlt, hcc⟩ := hR'.at_ j x hx
      subst hA
      have v0 : wr.cell? ⟨b, o + j * 12, none⟩ = some (.int .i64 x.r) := hcc 0 _ rfl
      have v1 : wr.cell? ⟨b, o + j * 12 + 1, none⟩ = some (.int .i64 x.n) := hcc 1 _ rfl
      have v2 : wr.cell? ⟨b, o + j * 12 + 2, none⟩ = some (.int .i64 x.c0) := hcc 2 _ rfl
      have v3 : wr.cell? ⟨b, o + j * 12 + 3, none⟩ = some (.int .i64 x.c1) := hcc 3 _ rfl
      have v4 : wr.cell? ⟨b, o + j * 12 + 4, none⟩ = some (.int .i64 x.c2) := hcc 4 _ rfl
      have v5 : wr.cell? ⟨b, o + j * 12 + 5, none⟩ = some (.int .i64 x.c3) := hcc 5 _ rfl
      have v6 : wr.cell? ⟨b, o + j * 12 + 6, none⟩ = some (.int .i64 x.c4) := hcc 6 _ rfl
      have v7 : wr.cell? ⟨b, o + j * 12 + 7, none⟩ = some (.int .i64 x.height) := hcc 7 _ rfl
      have v8 : wr.cell? ⟨b, o + j * 12 + 8, none⟩ = some (.int .i64 x.kind) := hcc 8 _ rfl
      have v9 : wr.cell? ⟨b, o + j * 12 + 9, none⟩ = some (.string x.key) := hcc 9 _ rfl
      have v10 : wr.cell? ⟨b, o + j * 12 + 10, none⟩ = some (.int .i64 x.label) := hcc 10 _ rfl
      have v11 : wr.cell? ⟨b, o + j * 12 + 11, none⟩ = some (.string x.value) := hcc 11 _ rfl
      obtain ⟨hk, hv, hl⟩ := HOK.out x (List.mem_of_getElem? hx)
      have hok : okKey x.k x.label := ⟨by simpa [Ev.k] using hk, hl⟩
      have hkey : keyOf Try.prog 70 (.agg #[.string x.key, .int .i64 x.label]) = some (klf x.k x.label) := by
        have := key_field hok
        unfold keyV at this
        rwa [ba_of] at this
      have hsz : base ≤ wr.heap.size := by have := hbr.size; omega
      have hz : ∀ u, (zeroValue 28).run Try.prog u = .ok (.slice none 0 0) u := Try.zeroValue28
      obtain ⟨v0, hv0⟩ : ∃ v0, (gr (klf x.k x.label)).getD (.slice none 0 0) = v0 := ⟨_, rfl⟩
      have HK1 : ∀ W, W = ((wr.alloc (.cells x.cells.toArray 35)).alloc (.cells #[.string x.key, .int .i64 x.label] 70)).alloc (.cells x.cells.toArray 35) → GroupsAt W B j base gr (grp (L.take j)) ∧ At W (wr.heap.size + 2) x.cells ∧ Kept (· = B) w W ∧ W.heap.size = wr.heap.size + 3 := by
        rintro W rfl
        refine ⟨hG.next ((((Below.refl _ _).alloc (Nat.le_refl _) _).alloc (by simp) _).alloc (by simp; omega) _), ?_, ((hbr.alloc _).alloc _).alloc _, by simp⟩
        have := At.new ((wr.alloc (.cells x.cells.toArray 35)).alloc (.cells #[.string x.key, .int .i64 x.label] 70)) x.cells.toArray 35
        simpa using this
      have HBK := Lib.hid HK1
      have HX2 := Lib.hid hx
      have HV0 := Lib.hid hv0
      have HO := Lib.hid hok
      have hgl := grp_len L j x.k x.label
      clear hG hbr hcc hR' HK1 hk hv hl hx hv0 hok
      go_wp2_with (refine wpl_entry rfl _ _ 67 rfl 70 28 law_field Try.underlying67 hz B j gr rfl (HBK.out _ rfl).1.map (by unfold maxLen; omega) _ _ rfl hkey v0 HV0.out ?_)
      intro st w1 hG1 hs1 hback
      obtain ⟨h1, h2, h3, h4⟩ := HBK.out _ rfl
      obtain ⟨es', clock', hmh'⟩ := h1.map.heap
      have own0 := h1.at_ HO.out
      rw [HV0.out] at own0
      have hB0 := own_not_map own0 hmh'
      have own1 : w1.ownsRow base 35 12 v0 (grp (L.take j) x.k x.label).length (evCells (grp (L.take j) x.k x.label)) := own_keep own0 (Kept.of_grown (S := fun i => i = B) hG1 (fun i _ e => by injection e with e; exact e.symm)) (fun g hg e => hB0 (by rw [hg, e]))
      have rd1 : Rd w1 (some ⟨wr.heap.size + 2, 0, none⟩) 1 12 x.cells := (h2.grown hG1 (fun e => h1.map.ne_at h2 (by injection e with e; exact e.symm))).rd rfl (by decide)
      have hBlt := h1.map.lt
      obtain ⟨xs, hxs⟩ : ∃ xs, xs = evCells (grp (L.take j) x.k x.label) := ⟨_, rfl⟩
      obtain ⟨m, hm⟩ : ∃ m, m = (grp (L.take j) x.k x.label).length := ⟨_, rfl⟩
      rw [← hxs, ← hm] at own1
      rw [← hm] at hgl
      have hsz1 : base ≤ w1.heap.size := by omega
      have HH := Lib.hid (And.intro h1 (And.intro hG1 (And.intro hback (And.intro h4 (And.intro h3 (And.intro hxs (And.intro hm (And.intro hB0 (And.intro hs1 hBlt)))))))))
      clear h1 h2 h3 hG1 hback h4 hxs hm hB0 hmh' own0 hs1 hBlt
      go_wp2_with (at_builtin; refine wpList_append_rd (w0 := w1) base rfl _ _ 28 35 _ 12 112 rfl Try.underlying28 info_ev rfl (by decide) (by decide) v0 m xs (some ⟨wr.heap.size + 2, 0, none⟩) 1 1 x.cells (by rfl) (by rfl) own1 rd1 (by simp [Ev.cells, Value.oneCell']) (Below.refl _ _) hsz1 (by omega) ?_)
      intro v1 w2 hO2 hb2 hg2 hl2
      have HH2 := Lib.hid (And.intro hO2 (And.intro hb2 (And.intro hg2 hl2)))
      clear hO2 hb2 hg2 hl2 own1 rd1
      obtain ⟨h1, hG1, hback, h4, h3, hxs, hm, hB0, hs1, hBlt⟩ := HH.out
      have hst := hback w2 v1 (HH2.out.2.2.1.block B (by omega) (fun e => hB0 e.symm))
      clear h1 hG1 hback h4 h3 hxs hm hB0 hs1 hBlt
      have HST := Lib.hid hst
      clear hst
      go_wp2_with (refine wpl_entryStore rfl _ _ _ 67 rfl B st v1 rfl rfl rfl _ HST.out ?_)
      intro w3 hM3 hG3
      have HH3 := Lib.hid (And.intro hM3 hG3)
      clear hM3 hG3 HST
      go_wp2_with fail
      go_roundw
      case measure => simp [intOf]; omega
      case rel =>
        obtain ⟨hM3, hG3⟩ := HH3.out
        obtain ⟨hO2, hb2, hg2, hl2⟩ := HH2.out
        obtain ⟨h1, hG1, hback, h4, h3, hxs, hm, hB0, hs1, hBlt⟩ := HH.out
        refine ⟨j + 1, by omega, by go_num, setF gr (klf x.k x.label) v1, ?_, ?_⟩
        · rw [grp_snoc HX2.out]
          refine h1.put x HO.out HV0.out hG1 hg2 (by rw [← hm, ← hxs]; exact hO2) ?_ hM3 hG3
          rcases hl2 with e | e
          · exact .inl e
          · exact .inr ⟨_, e, by omega⟩
        · refine (((h3.grown hG1 ?_).grown hg2 ?_).grown hG3 ?_)
          · intro i _ e; injection e with e; exact e.symm
          · intro i hi e
            have := (HH2.out.2.2.1)
            have h0 := h1.at_ HO.out
            rw [HV0.out] at h0
            have := (h0.lt i e).1
            have := HBS.out
            omega
          · intro i _ e; injection e with e; exact e.symm
    · have hjn' : j = n := by omega
      subst hjn'
      have hne : ¬ (j : Int) < (j : Int) := by omega
      have e : L.take j = L := List.take_of_length_le (by rw [HL.out]; omega)
      rw [e] at hG
      go_wp2_with fail
      exact HX.out _ _ _ _ _ _ _ _ _ _ _ _ _ _ _ _ _ _ _ _ _ gr hG hbr
end Go.Proofs.Ytfbpjhhcpockfaa
