/- book.Of's fifth loop: the additions that count. No condition. -/
import Derived.Test.YtfbpjhhcpockfaaOf5r
import Derived.Test.YtfbpjhhcpockfaaOf3
set_option linter.unusedVariables false
set_option linter.unusedSimpArgs false
namespace Go.Proofs.Ytfbpjhhcpockfaa
open Go.RowKit Go.Shelf Go.Maps
noncomputable def ofB5 : Code := loopOf Try.f13.body 4
def is01 (l : Int) : Prop := l = 0 ∨ l = 1
def valV (L : List Ev) : List Value := L.map fun e => .string e.value
structure At5 (w wr : World) (B1 n1 base : Nat) (pt : Str → Option Nat) (st0 st : Str → CtS) (M : Str → Int → List Ev) : Prop where
  book : BookAt wr B1 n1 base pt st
  same : ∀ s, (st s).h0 = (st0 s).h0 ∧ (st s).h1 = (st0 s).h1 ∧ (st s).f0 = (st0 s).f0 ∧ (st s).f1 = (st0 s).f1
  rows : ∀ s c, pt s = some c → ∀ l, is01 l → wr.ownsRow w.heap.size 9 1 (slotS (st s) l) (M s l).length (valV (M s l))
  apart : ∀ s c s' c', pt s = some c → pt s' = some c' → ∀ l l', is01 l → is01 l' → (s ≠ s' ∨ l ≠ l') → ∀ g, (slotS (st s) l).ownBlock = some g → (slotS (st s') l').ownBlock ≠ some g
  kept : Kept (fun i => ∃ s, pt s = some i) w wr
theorem slot_set (st : CtS) (l l' : Int) (v : Value) (hl : is01 l) (hl' : is01 l') : slotS (setS st l v) l' = if l' = l then v else slotS st l' := by
  rcases hl with rfl | rfl <;> rcases hl' with rfl | rfl <;> simp [slotS, setS]
theorem At5.next {w wr w1 : World} {B1 n1 base : Nat} {pt : Str → Option Nat} {st0 st : Str → CtS} {M : Str → Int → List Ev} (h : At5 w wr B1 n1 base pt st0 st M) (hb : Below wr.heap.size wr w1) : At5 w w1 B1 n1 base pt st0 st M :=
  ⟨h.book.next hb, h.same, fun s c hc l hl => own_below (h.rows s c hc l hl) hb, h.apart, h.kept.below hb⟩
theorem At5.skip {w wr : World} {B1 n1 base : Nat} {pt : Str → Option Nat} {st0 st : Str → CtS} {L : List Ev} {j : Nat} {x : Ev} (h : At5 w wr B1 n1 base pt st0 st (grp (L.take j))) (hx : L[j]? = some x) (hl : ¬ is01 x.label) : At5 w wr B1 n1 base pt st0 st (grp (L.take (j + 1))) := by
  refine ⟨h.book, h.same, fun s c hc l hl' => ?_, h.apart, h.kept⟩
  have e : grp (L.take (j + 1)) s l = grp (L.take j) s l := by
    rw [grp_snoc hx]
    dsimp only
    rw [if_neg]
    rintro ⟨_, rfl⟩
    exact hl hl'
  rw [e]
  exact h.rows s c hc l hl'
theorem At5.put {w wr w1 : World} {B1 n1 base : Nat} {pt : Str → Option Nat} {st0 st : Str → CtS} {L : List Ev} {j : Nat} {x : Ev} {C : Nat} {v1 : Value} (h : At5 w wr B1 n1 base pt st0 st (grp (L.take j))) (hx : L[j]? = some x) (hl : is01 x.label) (hC : pt x.k = some C) (hlow : ∀ s c, pt s = some c → c < w.heap.size)
    (hown : w1.ownsRow w.heap.size 9 1 v1 ((grp (L.take j) x.k x.label).length + 1) (valV (grp (L.take j) x.k x.label) ++ [.string x.value]))
    (hloc : v1.ownBlock = (slotS (st x.k) x.label).ownBlock ∨ ∃ g, v1.ownBlock = some g ∧ wr.heap.size ≤ g) (hCt : At w1 C (ctCells (ba x.k) (setS (st x.k) x.label v1))) (hk : Kept (fun i => i = C ∨ (slotS (st x.k) x.label).ownBlock = some i) wr w1) :
    At5 w w1 B1 n1 base pt st0 (fun s => if s = x.k then setS (st s) x.label v1 else st s) (grp (L.take (j + 1))) := by
  have hrow0 := h.rows x.k C hC x.label hl
  have hCl := hlow x.k C hC
  have hslot : ∀ s l, is01 l → slotS (if s = x.k then setS (st s) x.label v1 else st s) l = if s = x.k ∧ l = x.label then v1 else slotS (st s) l := fun s l hl' => by
    by_cases e : s = x.k
    · subst e
      rw [if_pos rfl, slot_set _ _ _ _ hl hl']
      by_cases e2 : l = x.label <;> simp [e2]
    · simp [e]
  have hgB1 : B1 ≠ C := fun e => h.book.map.ne_at (h.book.at_ x.k C hC).2 e.symm
  obtain ⟨es, clock, hm⟩ := h.book.map.heap
  have hgrow : ∀ g, (slotS (st x.k) x.label).ownBlock = some g → w.heap.size ≤ g ∧ g < wr.heap.size := fun g hg => hrow0.lt g hg
  refine ⟨⟨h.book.map.keep hk ?_, fun s c hc => ⟨(h.book.at_ s c hc).1, ?_⟩⟩, fun s => ?_, fun s c hc l hl' => ?_, fun s c s' c' hc hc' l l' hl1 hl2 hne g hg => ?_, ?_⟩
  · rintro (e | e)
    · exact hgB1 e
    · exact own_not_map hrow0 hm e
  · by_cases e : s = x.k
    · subst e
      have : c = C := by rw [hC] at hc; injection hc with hc; exact hc.symm
      subst this
      simp only [if_true]
      exact hCt
    · rw [if_neg e]
      refine (h.book.at_ s c hc).2.keep hk ?_
      rintro (e' | e')
      · subst e'
        exact e (h.book.inj hc hC)
      · have := (hgrow c e').1
        have := hlow s c hc
        omega
  · have := h.same s
    by_cases e : s = x.k
    · subst e
      simp only [if_true]
      unfold setS
      split <;> exact this
    · rw [if_neg e]; exact this
  · rw [hslot s l hl', grp_snoc hx]
    dsimp only
    by_cases e : s = x.k ∧ l = x.label
    · obtain ⟨rfl, rfl⟩ := e
      rw [if_pos ⟨rfl, rfl⟩, if_pos ⟨rfl, rfl⟩]
      simpa [valV] using hown
    · rw [if_neg e, if_neg e]
      have hr := h.rows s c hc l hl'
      refine own_keep hr hk ?_
      rintro g hg (e' | e')
      · have := (hr.lt g hg).1
        omega
      · refine h.apart s c x.k C hc hC l x.label hl' hl ?_ g hg e'
        by_cases e1 : s = x.k
        · exact .inr fun e2 => e ⟨e1, e2⟩
        · exact .inl e1
  · rw [hslot s l hl1] at hg
    rw [hslot s' l' hl2]
    have nw : ∀ (s : Str) (c : Nat) (l : Int), pt s = some c → is01 l → ¬ (s = x.k ∧ l = x.label) → ∀ g, v1.ownBlock = some g → (slotS (st s) l).ownBlock ≠ some g := fun s c l hc hl' hn g hg e => by
      rcases hloc with h1 | ⟨g', h1, h2⟩
      · rw [h1] at hg
        refine h.apart x.k C s c hC hc x.label l hl hl' ?_ g hg e
        by_cases e1 : x.k = s
        · exact .inr fun e2 => hn ⟨e1.symm, e2.symm⟩
        · exact .inl e1
      · rw [h1] at hg
        injection hg with hg
        subst hg
        have := ((h.rows s c hc l hl').lt _ e).2
        omega
    by_cases e : s = x.k ∧ l = x.label
    · rw [if_pos e] at hg
      have e' : ¬ (s' = x.k ∧ l' = x.label) := by
        rintro ⟨rfl, rfl⟩
        obtain ⟨rfl, rfl⟩ := e
        rcases hne with h | h <;> exact h rfl
      rw [if_neg e']
      exact nw s' c' l' hc' hl2 e' g hg
    · rw [if_neg e] at hg
      by_cases e' : s' = x.k ∧ l' = x.label
      · rw [if_pos e']
        intro e2
        exact nw s c l hc hl1 e g e2 hg
      · rw [if_neg e']
        exact h.apart s c s' c' hc hc' l l' hl1 hl2 hne g hg
  · refine h.kept.then hk ?_
    rintro i hi (rfl | e)
    · exact ⟨x.k, hC⟩
    · have := (hgrow i e).1
      omega
set_option maxRecDepth 100000 in
set_option maxHeartbeats 4000000 in
theorem of_loop5 (Q : Exit → Act → World → Prop) (A : Option Addr) (n c B1 n1 base : Nat) (L : List Ev) (pt : Str → Option Nat) (st0 : Str → CtS) (w : World) (u0 u1 u2 u4 u5 u6 u7 u8 u9 u10 u11 u12 u13 u14 u15 u16 u17 u18 u19 u20 u21 u22 u23 u24 u25 u26 u27 u28 u29 u30 u31 u32 u33 u34 u35 u36 u37 u38 u39 u40 u41 u42 u43 u44 u45 u46 u47 u48 u49 u50 u51 u52 u53 u54 u55 u56 u57 u58 u59 u60 u61 u62 u63 u64 u65 u66 u67 u68 u69 u70 u71 u72 u73 u74 u75 u76 u77 u78 u79 u80 u81 u82 u83 u84 u85 u86 u87 u88 u89 u90 u91 u92 u93 u94 u95 u96 u97 u98 u99 u100 u101 u102 u103 u104 u105 u106 u107 u108 u109 u110 u111 u112 u113 u117 u118 u119 u120 u121 u122 u123 u124 u125 u126 u127 u128 u129 u130 u131 u132 u133 u134 u135 u136 u137 u138 u139 u140 u141 u142 u143 u144 u145 u146 u147 u148 u149 u150 u151 u152 u153 u154 u155 u156 u157 u158 u159 u160 u161 u162 u163 u164 u165 u166 u167 u168 u169 u170 u171 u172 u173 u174 u175 u176 u177 u178 u179 u180 u181 u182 u183 u184 u185 u186 u187 u188 : Value)
    (hR : RdEv w A n L) (hok : ∀ e ∈ L, e.ok) (hcov : ∀ e ∈ L, (pt e.k).isSome = true) (hbig : n ≤ 1000000000) (hlow : ∀ s c, pt s = some c → c < w.heap.size) (hA : ∀ b o s, A = some ⟨b, o, none⟩ → pt s ≠ some b) (h0 : At5 w w B1 n1 base pt st0 st0 (fun _ _ => []))
    (hexit : ∀ (x17 x18 x116 x117 x118 x119 x120 x121 x122 x123 x124 x125 x126 x127 x128 x129 x130 x131 x132 x133 x134 x135 x136 x137 x138 x139 x140 x141 x142 x143 x144 x145 x146 x147 x148 x149 : Value) (w' : World) (st : Str → CtS), At5 w w' B1 n1 base pt st0 st (grp L) →
      Q (.exit 8) ⟨(List.toArray (u0 :: u1 :: u2 :: .map (some B1) :: u4 :: u5 :: u6 :: u7 :: u8 :: u9 :: u10 :: u11 :: u12 :: u13 :: u14 :: u15 :: u16 :: x17 :: x18 :: u19 :: u20 :: u21 :: u22 :: u23 :: u24 :: u25 :: u26 :: u27 :: u28 :: u29 :: u30 :: u31 :: u32 :: u33 :: u34 :: u35 :: u36 :: u37 :: u38 :: u39 :: u40 :: u41 :: u42 :: u43 :: u44 :: u45 :: u46 :: u47 :: u48 :: u49 :: u50 :: u51 :: u52 :: u53 :: u54 :: u55 :: u56 :: u57 :: u58 :: u59 :: u60 :: u61 :: u62 :: u63 :: u64 :: u65 :: u66 :: u67 :: u68 :: u69 :: u70 :: u71 :: u72 :: u73 :: u74 :: u75 :: u76 :: u77 :: u78 :: u79 :: u80 :: u81 :: u82 :: u83 :: u84 :: u85 :: u86 :: u87 :: u88 :: u89 :: u90 :: u91 :: u92 :: u93 :: u94 :: u95 :: u96 :: u97 :: u98 :: u99 :: u100 :: u101 :: u102 :: u103 :: u104 :: u105 :: u106 :: u107 :: u108 :: u109 :: u110 :: u111 :: u112 :: u113 :: .slice A n c :: .int .i64 n :: x116 :: x117 :: x118 :: x119 :: x120 :: x121 :: x122 :: x123 :: x124 :: x125 :: x126 :: x127 :: x128 :: x129 :: x130 :: x131 :: x132 :: x133 :: x134 :: x135 :: x136 :: x137 :: x138 :: x139 :: x140 :: x141 :: x142 :: x143 :: x144 :: x145 :: x146 :: x147 :: x148 :: x149 :: u150 :: u151 :: u152 :: u153 :: u154 :: u155 :: u156 :: u157 :: u158 :: u159 :: u160 :: u161 :: u162 :: u163 :: u164 :: u165 :: u166 :: u167 :: u168 :: u169 :: u170 :: u171 :: u172 :: u173 :: u174 :: u175 :: u176 :: u177 :: u178 :: u179 :: u180 :: u181 :: u182 :: u183 :: u184 :: u185 :: u186 :: u187 :: u188 :: [])), []⟩ w') :
    Code.wp Try.prog (.loop ofB5) Q ⟨(List.toArray (u0 :: u1 :: u2 :: .map (some B1) :: u4 :: u5 :: u6 :: u7 :: u8 :: u9 :: u10 :: u11 :: u12 :: u13 :: u14 :: u15 :: u16 :: u17 :: u18 :: u19 :: u20 :: u21 :: u22 :: u23 :: u24 :: u25 :: u26 :: u27 :: u28 :: u29 :: u30 :: u31 :: u32 :: u33 :: u34 :: u35 :: u36 :: u37 :: u38 :: u39 :: u40 :: u41 :: u42 :: u43 :: u44 :: u45 :: u46 :: u47 :: u48 :: u49 :: u50 :: u51 :: u52 :: u53 :: u54 :: u55 :: u56 :: u57 :: u58 :: u59 :: u60 :: u61 :: u62 :: u63 :: u64 :: u65 :: u66 :: u67 :: u68 :: u69 :: u70 :: u71 :: u72 :: u73 :: u74 :: u75 :: u76 :: u77 :: u78 :: u79 :: u80 :: u81 :: u82 :: u83 :: u84 :: u85 :: u86 :: u87 :: u88 :: u89 :: u90 :: u91 :: u92 :: u93 :: u94 :: u95 :: u96 :: u97 :: u98 :: u99 :: u100 :: u101 :: u102 :: u103 :: u104 :: u105 :: u106 :: u107 :: u108 :: u109 :: u110 :: u111 :: u112 :: u113 :: .slice A n c :: .int .i64 n :: .int .i64 0 :: u117 :: u118 :: u119 :: u120 :: u121 :: u122 :: u123 :: u124 :: u125 :: u126 :: u127 :: u128 :: u129 :: u130 :: u131 :: u132 :: u133 :: u134 :: u135 :: u136 :: u137 :: u138 :: u139 :: u140 :: u141 :: u142 :: u143 :: u144 :: u145 :: u146 :: u147 :: u148 :: u149 :: u150 :: u151 :: u152 :: u153 :: u154 :: u155 :: u156 :: u157 :: u158 :: u159 :: u160 :: u161 :: u162 :: u163 :: u164 :: u165 :: u166 :: u167 :: u168 :: u169 :: u170 :: u171 :: u172 :: u173 :: u174 :: u175 :: u176 :: u177 :: u178 :: u179 :: u180 :: u181 :: u182 :: u183 :: u184 :: u185 :: u186 :: u187 :: u188 :: [])), []⟩ w := by
  conv => arg 2; arg 1; whnf
  have hRr := Lib.hid (fun (W : World) (h : Kept (fun i => ∃ s, pt s = some i) w W) => hR.keep h (fun b o e _ hs => by obtain ⟨s, hs⟩ := hs; exact hA b o s e hs))
  have HX := Lib.hid hexit
  have H0 := Lib.hid h0
  have HL := Lib.hid hR.1
  have HOK := Lib.hid hok
  have HCOV := Lib.hid hcov
  have HLOW := Lib.hid hlow
  clear h0 hexit hR hok hcov hlow hA
  go_loopw [116] (fun i wr => ∃ j : Nat, j ≤ n ∧ i = .int .i64 j ∧ ∃ st, At5 w wr B1 n1 base pt st0 st (grp (L.take j))) (fun i _ => n - (intOf i).toNat)
  case atStart => exact ⟨0, by omega, rfl, _, H0.out⟩
  case round =>
    obtain ⟨j, hj, rfl, st, hG⟩ := hrel
    by_cases hjn : j < n
    · obtain ⟨x, hx⟩ : ∃ x, L[j]? = some x := ⟨L[j]'(by rw [HL.out]; exact hjn), List.getElem?_eq_getElem _⟩
      have hR' := hRr.out wr hG.kept
      obtain ⟨b, o, hA, hlt, hcc⟩ := hR'.at_ j x hx
      subst hA
      have v0 : wr.cell? ⟨b, o + j * 12, none⟩ = some (.int .i64 x.r) := hcc 0 _ rfl
      have v1 : wr.cell? ⟨b, o + j * 12 + 1, none⟩ = some (.int .i64 x.n) := hcc 1 _ rfl
      have v2 : wr.cell? ⟨b, o + j * 12 + 2, none⟩ = some (.int .i64 x.c0) := hcc 2 _ rfl
      have v3 : wr.cell? ⟨b, o + j * 12 + 3, none⟩ = some (.int .i64 x.c1) := hcc 3 _ rfl
      have v4 : wr.cell? ⟨b, o + j * 12 + 4, none⟩ = some (.int .i64 x.c2) := hcc 4 _ rfl
      have v5 : wr.cell? ⟨b, o + j * 12 + 5, none⟩ = some (.int .i64 x.c3) := hcc 5 _ rfl
      have v6 : wr.cell? ⟨b, o + j * 12 + 6, none⟩ = some (.int .i64 x.c4) := hcc 6 _ rfl
      have v7 : wr.cell? ⟨b, o + j * 12 + 7, none⟩ = some (.int .i64 x.height) := hcc 7 _ rfl
      have v8 : wr.cell? ⟨b, o + j * 12 + 8, none⟩ = some (.int .i64 x.kind) := hcc 8 _ rfl
      have v9 : wr.cell? ⟨b, o + j * 12 + 9, none⟩ = some (.string x.key) := hcc 9 _ rfl
      have v10 : wr.cell? ⟨b, o + j * 12 + 10, none⟩ = some (.int .i64 x.label) := hcc 10 _ rfl
      have v11 : wr.cell? ⟨b, o + j * 12 + 11, none⟩ = some (.string x.value) := hcc 11 _ rfl
      obtain ⟨hk, hv, hl⟩ := HOK.out x (List.mem_of_getElem? hx)
      have hkey := key_str hk
      obtain ⟨C, hC⟩ : ∃ C, pt x.k = some C := Option.isSome_iff_exists.1 (HCOV.out x (List.mem_of_getElem? hx))
      have hv0 : (ptF pt (.string x.key.data.toList)).getD (.pointer none) = .pointer (some ⟨C, 0, none⟩) := by
        have : pt x.key.data.toList = some C := hC
        simp [ptF, this]
      have HKV := Lib.hid (And.intro hkey hv0)
      obtain ⟨W, hW⟩ : ∃ W, W = wr.alloc (.cells x.cells.toArray 35) := ⟨_, rfl⟩
      have hWb : Below wr.heap.size wr W := by rw [hW]; exact (Below.refl _ _).alloc (Nat.le_refl _) _
      have hF : At W wr.heap.size x.cells := by rw [hW]; exact At.new _ _ _
      have hWs : W.heap.size = wr.heap.size + 1 := by rw [hW]; simp
      have hA5 := hG.next hWb
      have HW := Lib.hid hW
      have HF := Lib.hid hF
      have HA5 := Lib.hid hA5
      have HC := Lib.hid hC
      have HX2 := Lib.hid hx
      have HWS := Lib.hid hWs
      have hsz := hG.kept.size
      have hgl := grp_len L j x.k x.label
      have lC := hG.book.lt hC
      have HG := Lib.hid hG
      have HWB := Lib.hid hWb
      have f0 := hF.cell 0 rfl
      have f1 := hF.cell 1 rfl
      have f2 := hF.cell 2 rfl
      have f3 := hF.cell 3 rfl
      have f4 := hF.cell 4 rfl
      have f5 := hF.cell 5 rfl
      have f6 := hF.cell 6 rfl
      have f7 := hF.cell 7 rfl
      have f8 := hF.cell 8 rfl
      have f9 := hF.cell 9 rfl
      have f10 := hF.cell 10 rfl
      have f11 := hF.cell 11 rfl
      have lF := hF.lt
      clear hG hcc hR' hk hv hl hx hkey hv0 hC hF hW hA5 hWs hWb
      by_cases hl0 : x.label < 0
      · have d1 : decide (0 ≤ x.label) = false := by simpa using hl0
        have HFAR := Lib.hid (show ¬ is01 x.label from fun h => by rcases h with h | h <;> omega)
        go_upto_region 29 with (fail)
        simp only [Ev.cells] at HW
        rw [← HW.out]
        go_wp2_with (refine wpl_look rfl _ _ 65 rfl 9 66 keyed_str Try.underlying65 (Try.zeroValue66 _) B1 n1 (ptF pt) (by rfl) HA5.out.book.map _ (.string x.key.data.toList) (by rfl) HKV.out.1 _ HKV.out.2 ?_)
        go_roundw
        case measure => simp [intOf]; omega
        case rel => exact ⟨j + 1, by omega, by go_num, st, HA5.out.skip HX2.out HFAR.out⟩
      · have d1 : decide (0 ≤ x.label) = true := by simp; omega
        by_cases hl2 : 2 ≤ x.label
        · have d2 : decide (x.label < 2) = false := by simpa using hl2
          have HFAR := Lib.hid (show ¬ is01 x.label from fun h => by rcases h with h | h <;> omega)
          go_upto_region 29 with (fail)
          simp only [Ev.cells] at HW
          rw [← HW.out]
          go_wp2_with (refine wpl_look rfl _ _ 65 rfl 9 66 keyed_str Try.underlying65 (Try.zeroValue66 _) B1 n1 (ptF pt) (by rfl) HA5.out.book.map _ (.string x.key.data.toList) (by rfl) HKV.out.1 _ HKV.out.2 ?_)
          go_roundw
          case measure => simp [intOf]; omega
          case rel => exact ⟨j + 1, by omega, by go_num, st, HA5.out.skip HX2.out HFAR.out⟩
        · have d2 : decide (x.label < 2) = true := by simp; omega
          have HIN := Lib.hid (show is01 x.label by unfold is01; omega)
          clear hl0 hl2
          go_upto_region 29 with (fail)
          simp only [Ev.cells] at HW
          rw [← HW.out]
          go_wp2_with (refine wpl_look rfl _ _ 65 rfl 9 66 keyed_str Try.underlying65 (Try.zeroValue66 _) B1 n1 (ptF pt) (by rfl) HA5.out.book.map _ (.string x.key.data.toList) (by rfl) HKV.out.1 _ HKV.out.2 ?_)
          have hr0 := HA5.out.rows x.k C HC.out x.label HIN.out
          have hb0 := HG.out.rows x.k C HC.out x.label HIN.out
          have hCl := HLOW.out x.k C HC.out
          have hws := HWS.out
          have hWn : w.heap.size ≤ W.heap.size := by omega
          have hgC : (slotS (st x.k) x.label).ownBlock ≠ some C := fun e => by have := (hr0.lt C e).1; omega
          have hgF : (slotS (st x.k) x.label).ownBlock ≠ some wr.heap.size := fun e => by have := (hb0.lt _ e).2; omega
          have HZ := Lib.hid (And.intro hr0 (And.intro hgC (And.intro hgF hWn)))
          have hFC : wr.heap.size ≠ C := by omega
          clear hr0 hb0 hws hgC hgF hWn
          refine of_r31 _ wr.heap.size C w.heap.size (grp (L.take j) x.k x.label).length (ba x.k) (st x.k) x (slotS (st x.k) x.label) (valV (grp (L.take j) x.k x.label)) W _ _ _ _ _ _ _ _ _ _ _ _ _ _ _ _ _ _ _ _ _ _ _ _ _ _ _ _ _ _ _ _ _ _ _ _ _ _ _ _ _ _ _ _ _ _ _ _ _ _ _ _ _ _ _ _ _ _ _ _ _ _ _ _ _ _ _ _ _ _ _ _ _ _ _ _ _ _ _ _ _ _ _ _ _ _ _ _ _ _ _ _ _ _ _ _ _ _ _ _ _ _ _ _ _ _ _ _ _ _ _ _ _ _ _ _ _ _ _ _ _ _ _ _ _ _ _ _ _ _ _ _ _ _ _ _ _ _ _ _ _ _ _ _ _ _ _ _ _ _ _ _ _ _ _ _ _ _ _ _ _ _ _ _ _ _ _ _ _ _ _ _ _ _ _ _ _ _ _ _ _ _ _ _ _ _ _ HF.out (HA5.out.book.at_ x.k C HC.out).2 HIN.out rfl HZ.out.1 HZ.out.2.1 HZ.out.2.2.1 hFC HZ.out.2.2.2 (by omega) ?_
          intro x132 x133 x134 x135 x136 x137 x138 x139 x140 x141 x142 x143 x144 x145 x146 x147 x148 w3 v1 hO3 hl3 hC3 hk3
          have HH3 := Lib.hid (And.intro hO3 (And.intro hl3 (And.intro hC3 hk3)))
          clear hO3 hl3 hC3 hk3
          go_wp2_with fail
          go_roundw
          case measure => simp [intOf]; omega
          case rel =>
            obtain ⟨hO3, hl3, hC3, hk3⟩ := HH3.out
            exact ⟨j + 1, by omega, by go_num, _, HA5.out.put HX2.out HIN.out HC.out HLOW.out hO3 hl3 hC3 hk3⟩
    · have hjn' : j = n := by omega
      subst hjn'
      have hne : ¬ (j : Int) < (j : Int) := by omega
      have e : L.take j = L := List.take_of_length_le (by rw [HL.out]; omega)
      rw [e] at hG
      have HG := Lib.hid hG
      clear hG e
      go_wp2_with fail
      exact HX.out _ _ _ _ _ _ _ _ _ _ _ _ _ _ _ _ _ _ _ _ _ _ _ _ _ _ _ _ _ _ _ _ _ _ _ _ _ st HG.out
end Go.Proofs.Ytfbpjhhcpockfaa
