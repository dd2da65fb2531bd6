/- book.Of's inner loop over a contact's sets: they are sorted, and their doubles struck. No condition. -/
import Derived.Test.YtfbpjhhcpockfaaOf7r
import Derived.Test.YtfbpjhhcpockfaaOf5
set_option linter.unusedVariables false
set_option linter.unusedSimpArgs false
namespace Go.Proofs.Ytfbpjhhcpockfaa
open Go.RowKit Go.Shelf Go.Maps
noncomputable def ofB7 : Code := loopOf Try.f13.body 6
def srt (zs : List Str) : List Str := Lib.compact (zs.mergeSort leS)
def curV (vals : Str → Int → List Str) (d : Str → Int → Bool) (s : Str) (l : Int) : List Str := if d s l = true then srt (vals s l) else vals s l
def turn6 (pt : Str → Option Nat) (st0 : Str → CtS) (i : Nat) : Prop := (∃ s, pt s = some i) ∨ ∃ s l, (pt s).isSome = true ∧ is01 l ∧ (slotS (st0 s) l).ownBlock = some i
structure At6 (w wr : World) (B1 n1 base b3 : Nat) (pt : Str → Option Nat) (st0 st : Str → CtS) (vals : Str → Int → List Str) (d : Str → Int → Bool) : Prop where
  book : BookAt wr B1 n1 base pt st
  same : ∀ s, (st s).h0 = (st0 s).h0 ∧ (st s).h1 = (st0 s).h1 ∧ (st s).f0 = (st0 s).f0 ∧ (st s).f1 = (st0 s).f1
  blk : ∀ s l, is01 l → (slotS (st s) l).ownBlock = (slotS (st0 s) l).ownBlock
  rows : ∀ s c, pt s = some c → ∀ l, is01 l → wr.ownsRow b3 9 1 (slotS (st s) l) (curV vals d s l).length ((curV vals d s l).map strV)
  kept : Kept (turn6 pt st0) w wr
/-- Rows of unlike sets lie apart. -/
def Apart6 (pt : Str → Option Nat) (st0 : Str → CtS) : Prop := ∀ s c s' c', pt s = some c → pt s' = some c' → ∀ l l', is01 l → is01 l' → (s ≠ s' ∨ l ≠ l') → ∀ g, (slotS (st0 s) l).ownBlock = some g → (slotS (st0 s') l').ownBlock ≠ some g
def dk (d : Str → Int → Bool) (s : Str) (k : Int) (s' : Str) (l : Int) : Bool := d s' l || (decide (s' = s) && decide (l < k))
theorem At6.put {w wr w2 w3 : World} {B1 n1 base b3 C : Nat} {pt : Str → Option Nat} {st0 st : Str → CtS} {vals : Str → Int → List Str} {d d' : Str → Int → Bool} {s : Str} {l : Int} (h : At6 w wr B1 n1 base b3 pt st0 st vals d) (hap : Apart6 pt st0) (hl : is01 l) (hC : pt s = some C) (hlow : ∀ s c, pt s = some c → c < b3)
    (hd' : ∀ s' l', is01 l' → d' s' l' = if s' = s ∧ l' = l then true else d s' l') (hk2 : Kept (fun i => (slotS (st s) l).ownBlock = some i) wr w2)
    (hO3 : w3.ownsRow b3 9 1 (cutV (slotS (st s) l) (srt (vals s l)).length) (srt (vals s l)).length ((srt (vals s l)).map strV)) (hC3 : At w3 C (ctCells (ba s) (setS (st s) l (cutV (slotS (st s) l) (srt (vals s l)).length)))) (hk3 : Kept (fun i => i = C ∨ (slotS (st s) l).ownBlock = some i) w2 w3) :
    At6 w w3 B1 n1 base b3 pt st0 (fun x => if x = s then setS (st x) l (cutV (slotS (st s) l) (srt (vals s l)).length) else st x) vals d' := by
  have hrow0 := h.rows s C hC l hl
  have hk : Kept (fun i => i = C ∨ (slotS (st s) l).ownBlock = some i) wr w3 := (hk2.mono (fun i _ e => .inr e)).trans hk3
  obtain ⟨es, clock, hm⟩ := h.book.map.heap
  have hslot : ∀ s' l', is01 l' → slotS (if s' = s then setS (st s') l (cutV (slotS (st s) l) (srt (vals s l)).length) else st s') l' = if s' = s ∧ l' = l then cutV (slotS (st s) l) (srt (vals s l)).length else slotS (st s') l' := fun s' l' hl' => by
    by_cases e : s' = s
    · subst e
      rw [if_pos rfl, slot_set _ _ _ _ hl hl']
      by_cases e2 : l' = l <;> simp [e2]
    · simp [e]
  refine ⟨⟨h.book.map.keep hk ?_, fun s' c hc => ⟨(h.book.at_ s' c hc).1, ?_⟩⟩, fun s' => ?_, fun s' l' hl' => ?_, fun s' c hc l' hl' => ?_, ?_⟩
  · rintro (e | e)
    · exact h.book.map.ne_at (h.book.at_ s C hC).2 e.symm
    · exact own_not_map hrow0 hm e
  · by_cases e : s' = s
    · subst e
      have : c = C := by rw [hC] at hc; injection hc with hc; exact hc.symm
      subst this
      simp only [if_true]
      exact hC3
    · rw [if_neg e]
      refine (h.book.at_ s' c hc).2.keep hk ?_
      rintro (e' | e')
      · subst e'
        exact e (h.book.inj hc hC)
      · have := (hrow0.lt c e').1
        have := hlow s' c hc
        omega
  · have := h.same s'
    by_cases e : s' = s
    · subst e
      simp only [if_true]
      unfold setS
      split <;> exact this
    · rw [if_neg e]; exact this
  · rw [hslot s' l' hl']
    by_cases e : s' = s ∧ l' = l
    · obtain ⟨rfl, rfl⟩ := e
      rw [if_pos ⟨rfl, rfl⟩, cutV_block]
      exact h.blk _ _ hl'
    · rw [if_neg e]
      exact h.blk s' l' hl'
  · rw [hslot s' l' hl']
    unfold curV
    rw [hd' s' l' hl']
    by_cases e : s' = s ∧ l' = l
    · obtain ⟨rfl, rfl⟩ := e
      simp only [and_self, if_true]
      exact hO3
    · rw [if_neg e, if_neg e]
      have hr := h.rows s' c hc l' hl'
      refine own_keep hr hk ?_
      rintro g hg (e' | e')
      · have h1 := (hr.lt g hg).1
        have h2 := hlow s C hC
        omega
      · rw [h.blk _ _ hl'] at hg
        rw [h.blk _ _ hl] at e'
        refine hap s' c s C hc hC l' l hl' hl ?_ g hg e'
        by_cases e1 : s' = s
        · exact .inr fun e2 => e ⟨e1, e2⟩
        · exact .inl e1
  · refine h.kept.then hk ?_
    rintro i hi (rfl | e)
    · exact .inl ⟨s, hC⟩
    · exact .inr ⟨s, l, by rw [hC]; rfl, hl, by rw [← h.blk _ _ hl]; exact e⟩
set_option maxRecDepth 100000 in
set_option maxHeartbeats 4000000 in
theorem of_loop7 (Q : Exit → Act → World → Prop) (w0 : World) (B1 n1 base b3 C : Nat) (pt : Str → Option Nat) (st0 st : Str → CtS) (vals : Str → Int → List Str) (d : Str → Int → Bool) (s : Str) (w : World) (u0 u1 u2 u3 u4 u5 u6 u7 u8 u9 u10 u11 u12 u13 u14 u15 u16 u17 u18 u19 u20 u22 u23 u24 u25 u26 u27 u28 u29 u30 u31 u32 u33 u34 u35 u36 u37 u38 u39 u40 u41 u42 u43 u44 u45 u46 u47 u48 u49 u50 u51 u52 u53 u54 u55 u56 u57 u58 u59 u60 u61 u62 u63 u64 u65 u66 u67 u68 u69 u70 u71 u72 u73 u74 u75 u76 u77 u78 u79 u80 u81 u82 u83 u84 u85 u86 u87 u88 u89 u90 u91 u92 u93 u94 u95 u96 u97 u98 u99 u100 u101 u102 u103 u104 u105 u106 u107 u108 u109 u110 u111 u112 u113 u114 u115 u116 u117 u118 u119 u120 u121 u122 u123 u124 u125 u126 u127 u128 u129 u130 u131 u132 u133 u134 u135 u136 u137 u138 u139 u140 u141 u142 u143 u144 u145 u146 u147 u148 u149 u150 u151 u152 u153 u154 u155 u156 u157 u159 u160 u161 u162 u163 u164 u165 u166 u167 u168 u169 u170 u171 u172 u173 u174 u175 u176 u177 u178 u179 u180 u181 u182 u183 u184 u185 u186 u187 u188 : Value)
    (h0 : At6 w0 w B1 n1 base b3 pt st0 st vals d) (hap : Apart6 pt st0) (hC : pt s = some C) (hlow : ∀ s c, pt s = some c → c < b3) (hbig : ∀ s l, (vals s l).length ≤ 1000000000) (hd : ∀ l, d s l = false)
    (hexit : ∀ (x22 x158 x159 x160 x161 x162 x163 x164 x165 x166 x167 x168 x169 x170 x171 x172 x173 x174 x175 x176 x177 x178 x179 x180 : Value) (w' : World) (st' : Str → CtS), At6 w0 w' B1 n1 base b3 pt st0 st' vals (dk d s 2) →
      (∀ x, x ≠ s → st' x = st x) → Q (.exit 12) ⟨(List.toArray (u0 :: u1 :: u2 :: u3 :: u4 :: u5 :: u6 :: u7 :: u8 :: u9 :: u10 :: u11 :: u12 :: u13 :: u14 :: u15 :: u16 :: u17 :: u18 :: u19 :: u20 :: .pointer (some ⟨C, 0, none⟩) :: x22 :: u23 :: u24 :: u25 :: u26 :: u27 :: u28 :: u29 :: u30 :: u31 :: u32 :: u33 :: u34 :: u35 :: u36 :: u37 :: u38 :: u39 :: u40 :: u41 :: u42 :: u43 :: u44 :: u45 :: u46 :: u47 :: u48 :: u49 :: u50 :: u51 :: u52 :: u53 :: u54 :: u55 :: u56 :: u57 :: u58 :: u59 :: u60 :: u61 :: u62 :: u63 :: u64 :: u65 :: u66 :: u67 :: u68 :: u69 :: u70 :: u71 :: u72 :: u73 :: u74 :: u75 :: u76 :: u77 :: u78 :: u79 :: u80 :: u81 :: u82 :: u83 :: u84 :: u85 :: u86 :: u87 :: u88 :: u89 :: u90 :: u91 :: u92 :: u93 :: u94 :: u95 :: u96 :: u97 :: u98 :: u99 :: u100 :: u101 :: u102 :: u103 :: u104 :: u105 :: u106 :: u107 :: u108 :: u109 :: u110 :: u111 :: u112 :: u113 :: u114 :: u115 :: u116 :: u117 :: u118 :: u119 :: u120 :: u121 :: u122 :: u123 :: u124 :: u125 :: u126 :: u127 :: u128 :: u129 :: u130 :: u131 :: u132 :: u133 :: u134 :: u135 :: u136 :: u137 :: u138 :: u139 :: u140 :: u141 :: u142 :: u143 :: u144 :: u145 :: u146 :: u147 :: u148 :: u149 :: u150 :: u151 :: u152 :: u153 :: u154 :: u155 :: u156 :: u157 :: x158 :: x159 :: x160 :: x161 :: x162 :: x163 :: x164 :: x165 :: x166 :: x167 :: x168 :: x169 :: x170 :: x171 :: x172 :: x173 :: x174 :: x175 :: x176 :: x177 :: x178 :: x179 :: x180 :: u181 :: u182 :: u183 :: u184 :: u185 :: u186 :: u187 :: u188 :: [])), []⟩ w') :
    Code.wp Try.prog (.loop ofB7) Q ⟨(List.toArray (u0 :: u1 :: u2 :: u3 :: u4 :: u5 :: u6 :: u7 :: u8 :: u9 :: u10 :: u11 :: u12 :: u13 :: u14 :: u15 :: u16 :: u17 :: u18 :: u19 :: u20 :: .pointer (some ⟨C, 0, none⟩) :: u22 :: u23 :: u24 :: u25 :: u26 :: u27 :: u28 :: u29 :: u30 :: u31 :: u32 :: u33 :: u34 :: u35 :: u36 :: u37 :: u38 :: u39 :: u40 :: u41 :: u42 :: u43 :: u44 :: u45 :: u46 :: u47 :: u48 :: u49 :: u50 :: u51 :: u52 :: u53 :: u54 :: u55 :: u56 :: u57 :: u58 :: u59 :: u60 :: u61 :: u62 :: u63 :: u64 :: u65 :: u66 :: u67 :: u68 :: u69 :: u70 :: u71 :: u72 :: u73 :: u74 :: u75 :: u76 :: u77 :: u78 :: u79 :: u80 :: u81 :: u82 :: u83 :: u84 :: u85 :: u86 :: u87 :: u88 :: u89 :: u90 :: u91 :: u92 :: u93 :: u94 :: u95 :: u96 :: u97 :: u98 :: u99 :: u100 :: u101 :: u102 :: u103 :: u104 :: u105 :: u106 :: u107 :: u108 :: u109 :: u110 :: u111 :: u112 :: u113 :: u114 :: u115 :: u116 :: u117 :: u118 :: u119 :: u120 :: u121 :: u122 :: u123 :: u124 :: u125 :: u126 :: u127 :: u128 :: u129 :: u130 :: u131 :: u132 :: u133 :: u134 :: u135 :: u136 :: u137 :: u138 :: u139 :: u140 :: u141 :: u142 :: u143 :: u144 :: u145 :: u146 :: u147 :: u148 :: u149 :: u150 :: u151 :: u152 :: u153 :: u154 :: u155 :: u156 :: u157 :: .int .i64 0 :: u159 :: u160 :: u161 :: u162 :: u163 :: u164 :: u165 :: u166 :: u167 :: u168 :: u169 :: u170 :: u171 :: u172 :: u173 :: u174 :: u175 :: u176 :: u177 :: u178 :: u179 :: u180 :: u181 :: u182 :: u183 :: u184 :: u185 :: u186 :: u187 :: u188 :: [])), []⟩ w := by
  conv => arg 2; arg 1; whnf
  have HX := Lib.hid hexit
  have H0 := Lib.hid h0
  have HAP := Lib.hid hap
  have HLOW := Lib.hid hlow
  have HBIG := Lib.hid hbig
  have lC := h0.book.lt hC
  have dk0 : ∀ s' l', is01 l' → dk d s 0 s' l' = d s' l' := fun s' l' hl' => by
    unfold dk
    rcases hl' with rfl | rfl <;> simp
  have h0' : At6 w0 w B1 n1 base b3 pt st0 st vals (dk d s 0) := ⟨h0.book, h0.same, h0.blk, fun s' c hc l hl => by
    have e : curV vals (dk d s 0) s' l = curV vals d s' l := by unfold curV; rw [dk0 s' l hl]
    rw [e]
    exact h0.rows s' c hc l hl, h0.kept⟩
  have H0' := Lib.hid h0'
  clear hexit h0 hap hlow hbig h0' dk0
  go_loopw [158] (fun i wr => ∃ k : Nat, k ≤ 2 ∧ i = .int .i64 k ∧ ∃ st', At6 w0 wr B1 n1 base b3 pt st0 st' vals (dk d s k) ∧ ∀ x, x ≠ s → st' x = st x) (fun i _ => 2 - (intOf i).toNat)
  case atStart => exact ⟨0, by omega, rfl, st, H0'.out, fun _ _ => rfl⟩
  case round =>
    obtain ⟨k, hk, rfl, hst⟩ := hrel
    rcases (show k = 0 ∨ k = 1 ∨ k = 2 by omega) with rfl | rfl | rfl
    · replace hst : ∃ st', At6 w0 wr B1 n1 base b3 pt st0 st' vals (dk d s 0) ∧ ∀ x, x ≠ s → st' x = st x := hst
      obtain ⟨st1, hA, hoth⟩ := hst
      have hrow := hA.rows s C hC 0 (by unfold is01; decide)
      have hcur : curV vals (dk d s 0) s 0 = vals s 0 := by unfold curV dk; simp [hd]
      rw [hcur] at hrow
      have hbC : (slotS (st1 s) 0).ownBlock ≠ some C := fun e => by have h1 := (hrow.lt C e).1; have h2 := HLOW.out s C hC; omega
      have hat := (hA.book.at_ s C hC).2
      have c5 : wr.cell? ⟨C, 5, none⟩ = some (slotS (st1 s) 0) := hat.cell 5 rfl
      obtain ⟨v0, hv0⟩ : ∃ v0, v0 = slotS (st1 s) 0 := ⟨_, rfl⟩
      rw [← hv0] at c5 hrow hbC
      have HA := Lib.hid hA
      have HROW := Lib.hid hrow
      have HAT := Lib.hid hat
      have HV0 := Lib.hid hv0
      have hbz := HBIG.out s 0
      clear hA hrow hat hv0 hcur
      go_wp2_with fail
      refine (sortStr_any b3 v0 (vals s 0) wr HROW.out hbz).mono ?_
      rintro e w2 ⟨rfl, hO2, hk2⟩
      have hat2 := HAT.out.keep hk2 hbC
      have HAT2 := Lib.hid hat2
      have HO2 := Lib.hid hO2
      have HK2 := Lib.hid hk2
      clear hat2 hO2 hk2 c5
      go_wp2_with fail
      refine of_r41 _ C b3 (ba s) (st1 s) 0 v0 ((vals s 0).mergeSort leS) w2 _ _ _ _ _ _ _ _ _ _ _ _ _ _ _ _ _ _ _ _ _ _ _ _ _ _ _ _ _ _ _ _ _ _ _ _ _ _ _ _ _ _ _ _ _ _ _ _ _ _ _ _ _ _ _ _ _ _ _ _ _ _ _ _ _ _ _ _ _ _ _ _ _ _ _ _ _ _ _ _ _ _ _ _ _ _ _ _ _ _ _ _ _ _ _ _ _ _ _ _ _ _ _ _ _ _ _ _ _ _ _ _ _ _ _ _ _ _ _ _ _ _ _ _ _ _ _ _ _ _ _ _ _ _ _ _ _ _ _ _ _ _ _ _ _ _ _ _ _ _ _ _ _ _ _ _ _ _ _ _ _ _ _ _ _ _ _ _ _ _ _ _ _ _ _ _ _ _ _ _ _ _ _ _ _ _ _ HAT2.out (by decide) HV0.out.symm (by have := HO2.out; simpa using this) hbC (by simpa using hbz) ?_
      intro x168 x169 x170 x171 x172 x173 x174 x175 x176 x177 x178 x179 w3 hO3 hC3 hk3
      have HH3 := Lib.hid (And.intro hO3 (And.intro hC3 hk3))
      clear hO3 hC3 hk3
      go_wp2_with fail
      go_roundw
      case measure => simp [intOf]
      case rel =>
        obtain ⟨hO3, hC3, hk3⟩ := HH3.out
        have e0 := HV0.out
        subst e0
        exact ⟨1, by omega, rfl, _, HA.out.put HAP.out (by unfold is01; decide) hC HLOW.out (fun s' l' hl' => by
          unfold dk
          by_cases e1 : s' = s
          · subst e1
            rcases hl' with rfl | rfl <;> simp [hd]
          · simp [e1]) HK2.out hO3 hC3 hk3, fun x hx => by rw [if_neg hx]; exact hoth x hx⟩
    · replace hst : ∃ st', At6 w0 wr B1 n1 base b3 pt st0 st' vals (dk d s 1) ∧ ∀ x, x ≠ s → st' x = st x := hst
      obtain ⟨st1, hA, hoth⟩ := hst
      have hrow := hA.rows s C hC 1 (by unfold is01; decide)
      have hcur : curV vals (dk d s 1) s 1 = vals s 1 := by unfold curV dk; simp [hd]
      rw [hcur] at hrow
      have hbC : (slotS (st1 s) 1).ownBlock ≠ some C := fun e => by have h1 := (hrow.lt C e).1; have h2 := HLOW.out s C hC; omega
      have hat := (hA.book.at_ s C hC).2
      have c5 : wr.cell? ⟨C, 6, none⟩ = some (slotS (st1 s) 1) := hat.cell 6 rfl
      obtain ⟨v0, hv0⟩ : ∃ v0, v0 = slotS (st1 s) 1 := ⟨_, rfl⟩
      rw [← hv0] at c5 hrow hbC
      have HA := Lib.hid hA
      have HROW := Lib.hid hrow
      have HAT := Lib.hid hat
      have HV0 := Lib.hid hv0
      have hbz := HBIG.out s 1
      clear hA hrow hat hv0 hcur
      go_wp2_with fail
      refine (sortStr_any b3 v0 (vals s 1) wr HROW.out hbz).mono ?_
      rintro e w2 ⟨rfl, hO2, hk2⟩
      have hat2 := HAT.out.keep hk2 hbC
      have HAT2 := Lib.hid hat2
      have HO2 := Lib.hid hO2
      have HK2 := Lib.hid hk2
      clear hat2 hO2 hk2 c5
      go_wp2_with fail
      refine of_r41 _ C b3 (ba s) (st1 s) 1 v0 ((vals s 1).mergeSort leS) w2 _ _ _ _ _ _ _ _ _ _ _ _ _ _ _ _ _ _ _ _ _ _ _ _ _ _ _ _ _ _ _ _ _ _ _ _ _ _ _ _ _ _ _ _ _ _ _ _ _ _ _ _ _ _ _ _ _ _ _ _ _ _ _ _ _ _ _ _ _ _ _ _ _ _ _ _ _ _ _ _ _ _ _ _ _ _ _ _ _ _ _ _ _ _ _ _ _ _ _ _ _ _ _ _ _ _ _ _ _ _ _ _ _ _ _ _ _ _ _ _ _ _ _ _ _ _ _ _ _ _ _ _ _ _ _ _ _ _ _ _ _ _ _ _ _ _ _ _ _ _ _ _ _ _ _ _ _ _ _ _ _ _ _ _ _ _ _ _ _ _ _ _ _ _ _ _ _ _ _ _ _ _ _ _ _ _ _ HAT2.out (by decide) HV0.out.symm (by have := HO2.out; simpa using this) hbC (by simpa using hbz) ?_
      intro x168 x169 x170 x171 x172 x173 x174 x175 x176 x177 x178 x179 w3 hO3 hC3 hk3
      have HH3 := Lib.hid (And.intro hO3 (And.intro hC3 hk3))
      clear hO3 hC3 hk3
      go_wp2_with fail
      go_roundw
      case measure => simp [intOf]
      case rel =>
        obtain ⟨hO3, hC3, hk3⟩ := HH3.out
        have e0 := HV0.out
        subst e0
        exact ⟨2, by omega, rfl, _, HA.out.put HAP.out (by unfold is01; decide) hC HLOW.out (fun s' l' hl' => by
          unfold dk
          by_cases e1 : s' = s
          · subst e1
            rcases hl' with rfl | rfl <;> simp [hd]
          · simp [e1]) HK2.out hO3 hC3 hk3, fun x hx => by rw [if_neg hx]; exact hoth x hx⟩
    · replace hst : ∃ st', At6 w0 wr B1 n1 base b3 pt st0 st' vals (dk d s 2) ∧ ∀ x, x ≠ s → st' x = st x := hst
      obtain ⟨st1, hA, hoth⟩ := hst
      have HA := Lib.hid (And.intro hA hoth)
      clear hA hoth
      go_wp2_with fail
      exact HX.out _ _ _ _ _ _ _ _ _ _ _ _ _ _ _ _ _ _ _ _ _ _ _ _ _ st1 HA.out.1 HA.out.2
end Go.Proofs.Ytfbpjhhcpockfaa
