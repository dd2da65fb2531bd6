/- book.Of's third loop: of each field the write that is shown. No condition. -/
import Derived.Test.YtfbpjhhcpockfaaOf3r
import Derived.Test.YtfbpjhhcpockfaaOf2
set_option linter.unusedVariables false
set_option linter.unusedSimpArgs false
namespace Go.Proofs.Ytfbpjhhcpockfaa
open Go.RowKit Go.Shelf Go.Maps
noncomputable def ofB3 : Code := loopOf Try.f13.body 2
theorem keyed_field : Keyed Try.prog 70 := Keyed.of_law law_field
/-- Is a field set (those that are still to come are not)? And to what? -/
def hB (M : Str → Int → List Ev) (left : Lit → Bool) (s : Str) (l : Int) : Bool := !(M s l).isEmpty && !left (klf s l)
def valOf (L : List Ev) : ByteArray := match lastEv L with | some e => e.value | none => ⟨#[]⟩
def fB (M : Str → Int → List Ev) (left : Lit → Bool) (s : Str) (l : Int) : ByteArray := if hB M left s l = true then valOf (M s l) else ⟨#[]⟩
def cstate (M : Str → Int → List Ev) (left : Lit → Bool) (s : Str) : CtS := ⟨hB M left s 0, hB M left s 1, fB M left s 0, fB M left s 1, .slice none 0 0, .slice none 0 0⟩
theorem wf01 : (Lit.int .i64 0).wf = true ∧ (Lit.int .i64 1).wf = true := by decide
theorem cstate_start {M : Str → Int → List Ev} {left : Lit → Bool} {s : Str} (h0 : M s 0 ≠ [] → left (klf s 0) = true) (h1 : M s 1 ≠ [] → left (klf s 1) = true) : cstate M left s = blank := by
  have a : ∀ l, (M s l ≠ [] → left (klf s l) = true) → hB M left s l = false := fun l h => by
    unfold hB
    cases e : M s l with
    | nil => rfl
    | cons x r => rw [h (by rw [e]; simp)]; simp
  unfold cstate fB
  rw [a 0 h0, a 1 h1]
  rfl
theorem sameKey_klf {s s' : Str} {l l' : Int} (h : okKey s l) (h' : okKey s' l') : (klf s l).sameKey (klf s' l') = decide (s = s' ∧ l = l') := by
  by_cases e : s = s' ∧ l = l'
  · obtain ⟨rfl, rfl⟩ := e
    simp [klf, Lit.sameKey]
  · rw [sameKey_ne (fun ek => e (klf_inj h h' ek))]
    simp [e]
/-- One more key has come. -/
theorem cstate_other {M : Str → Int → List Ev} {left : Lit → Bool} {s s' : Str} {l : Int} (h : okKey s l) (hs : s'.length ≤ maxLen) (hne : s' ≠ s ∨ (l ≠ 0 ∧ l ≠ 1)) : cstate M (fun z => left z && !z.sameKey (klf s l)) s' = cstate M left s' := by
  have a : ∀ l', (Lit.int .i64 l').wf = true → (l' = 0 ∨ l' = 1) → hB M (fun z => left z && !z.sameKey (klf s l)) s' l' = hB M left s' l' := fun l' hw hl => by
    unfold hB
    dsimp only
    rw [sameKey_klf ⟨hs, hw⟩ h]
    have : ¬ (s' = s ∧ l' = l) := by
      rintro ⟨e1, e2⟩
      rcases hne with h1 | ⟨h1, h2⟩
      · exact h1 e1
      · rcases hl with rfl | rfl
        · exact h1 e2.symm
        · exact h2 e2.symm
    simp [this]
  unfold cstate fB
  rw [a 0 wf01.1 (.inl rfl), a 1 wf01.2 (.inr rfl)]
theorem cstate_set {M : Str → Int → List Ev} {left : Lit → Bool} {s : Str} {l : Int} (h : okKey s l) (hl : l = 0 ∨ l = 1) (hM : M s l ≠ []) {x : Ev} (hx : lastEv (M s l) = some x) : cstate M (fun z => left z && !z.sameKey (klf s l)) s = setC (cstate M left s) l x.value := by
  have hv : valOf (M s l) = x.value := by unfold valOf; rw [hx]
  have a : hB M (fun z => left z && !z.sameKey (klf s l)) s l = true := by
    unfold hB
    dsimp only
    rw [sameKey_klf h h]
    cases e : M s l with
    | nil => exact absurd e hM
    | cons y r => simp
  have b : ∀ l', (Lit.int .i64 l').wf = true → l' ≠ l → hB M (fun z => left z && !z.sameKey (klf s l)) s l' = hB M left s l' := fun l' hw hne => by
    unfold hB
    dsimp only
    rw [sameKey_klf ⟨h.1, hw⟩ h]
    simp [hne]
  rcases hl with rfl | rfl
  · have b1 := b 1 wf01.2 (by omega)
    unfold cstate fB setC
    rw [a, b1, hv]
    simp
  · have b1 := b 0 wf01.1 (by omega)
    unfold cstate fB setC
    rw [a, b1, hv]
    simp
theorem BookAt.congr {w : World} {B n base : Nat} {pt : Str → Option Nat} {st st' : Str → CtS} (h : BookAt w B n base pt st) (e : ∀ s c, pt s = some c → st' s = st s) : BookAt w B n base pt st' :=
  ⟨h.map, fun s c hc => by rw [e s c hc]; exact h.at_ s c hc⟩
theorem BookAt.keep {S : Nat → Prop} {w w1 : World} {B n base : Nat} {pt : Str → Option Nat} {st : Str → CtS} (h : BookAt w B n base pt st) (k : Kept S w w1) (hB : ¬ S B) (hS : ∀ s c, pt s = some c → ¬ S c) : BookAt w1 B n base pt st :=
  ⟨h.map.keep k hB, fun s c hc => ⟨(h.at_ s c hc).1, (h.at_ s c hc).2.keep k (hS s c hc)⟩⟩
/-- Keys of one block are one. -/
theorem BookAt.inj {w : World} {B n base : Nat} {pt : Str → Option Nat} {st : Str → CtS} (h : BookAt w B n base pt st) {s s' : Str} {c : Nat} (hs : pt s = some c) (hs' : pt s' = some c) : s = s' := by
  have h1 := (h.at_ s c hs).2.cell 0 rfl
  have h2 := (h.at_ s' c hs').2.cell 0 rfl
  rw [h1] at h2
  simp at h2
  rw [← of_ba s, h2, of_ba]
theorem GroupsAt.keep {S : Nat → Prop} {w w1 : World} {B n base : Nat} {gr : Lit → Option Value} {M : Str → Int → List Ev} (h : GroupsAt w B n base gr M) (k : Kept S w w1) (hB : ¬ S B) (hS : ∀ v n xs, w.ownsRow base 35 12 v n xs → ∀ g, v.ownBlock = some g → ¬ S g) : GroupsAt w1 B n base gr M :=
  ⟨h.map.keep k hB, h.keys, fun s l ho hm => by obtain ⟨v, h1, h2⟩ := h.rows s l ho hm; exact ⟨v, h1, own_keep h2 k (hS v _ _ h2)⟩, h.mem⟩
/-- What the loop may turn: the iterator, and contacts. -/
def turn3 (r : Nat) (pt : Str → Option Nat) (i : Nat) : Prop := i = r ∨ ∃ s, pt s = some i
/-- What stands at the head of each round. -/
structure At3 (w wr : World) (B1 n1 base B2 n2 base2 r : Nat) (pt : Str → Option Nat) (gr : Lit → Option Value) (M : Str → Int → List Ev) (left : Lit → Bool) (cnt : Nat) : Prop where
  book : BookAt wr B1 n1 base pt (cstate M left)
  groups : GroupsAt wr B2 n2 base2 gr M
  range : RangeV wr 70 B2 r n2 gr left cnt
  kept : Kept (turn3 r pt) w wr
set_option maxRecDepth 100000 in
set_option maxHeartbeats 4000000 in
theorem of_loop3 (Q : Exit → Act → World → Prop) (B1 n1 base B2 n2 base2 r cnt : Nat) (pt : Str → Option Nat) (gr : Lit → Option Value) (M : Str → Int → List Ev) (w : World) (u0 u1 u2 u4 u5 u6 u7 u8 u9 u10 u11 u12 u13 u14 u15 u16 u17 u18 u19 u20 u21 u22 u23 u24 u25 u26 u27 u28 u29 u30 u31 u32 u33 u34 u35 u36 u37 u38 u39 u40 u41 u42 u43 u44 u45 u46 u47 u48 u49 u50 u51 u52 u53 u54 u55 u56 u57 u58 u59 u60 u61 u63 u64 u65 u66 u67 u68 u69 u70 u71 u72 u73 u74 u75 u76 u77 u78 u79 u80 u81 u82 u83 u84 u85 u86 u87 u88 u89 u90 u91 u92 u93 u94 u95 u96 u97 u98 u99 u100 u101 u102 u103 u104 u105 u106 u107 u108 u109 u110 u111 u112 u113 u114 u115 u116 u117 u118 u119 u120 u121 u122 u123 u124 u125 u126 u127 u128 u129 u130 u131 u132 u133 u134 u135 u136 u137 u138 u139 u140 u141 u142 u143 u144 u145 u146 u147 u148 u149 u150 u151 u152 u153 u154 u155 u156 u157 u158 u159 u160 u161 u162 u163 u164 u165 u166 u167 u168 u169 u170 u171 u172 u173 u174 u175 u176 u177 u178 u179 u180 u181 u182 u183 u184 u185 u186 u187 u188 : Value)
    (h0 : At3 w w B1 n1 base B2 n2 base2 r pt gr M (fun kl => (gr kl).isSome) cnt) (hlow : ∀ s c, pt s = some c → c < base2 ∧ s.length ≤ maxLen) (hcov : ∀ s l, M s l ≠ [] → (pt s).isSome = true) (hlen : ∀ s l, (M s l).length ≤ 1000000000)
    (hexit : ∀ (x10 x11 x12 x14 x15 x63 x64 x65 x66 x67 x68 x69 x70 x71 x72 x73 x74 x75 x76 x77 x78 x79 x80 x81 x82 x83 x84 x85 x86 x87 x88 x89 x90 x91 x92 x93 x94 x95 x96 x97 x98 x99 x100 x101 x102 x103 x104 x105 x106 x107 x108 x109 x110 x111 x112 : Value) (w' : World), BookAt w' B1 n1 base pt (cstate M (fun _ => false)) → Kept (turn3 r pt) w w' →
      Q (.exit 4) ⟨(List.toArray (u0 :: u1 :: u2 :: .map (some B1) :: u4 :: u5 :: u6 :: u7 :: u8 :: u9 :: x10 :: x11 :: x12 :: u13 :: x14 :: x15 :: u16 :: u17 :: u18 :: u19 :: u20 :: u21 :: u22 :: u23 :: u24 :: u25 :: u26 :: u27 :: u28 :: u29 :: u30 :: u31 :: u32 :: u33 :: u34 :: u35 :: u36 :: u37 :: u38 :: u39 :: u40 :: u41 :: u42 :: u43 :: u44 :: u45 :: u46 :: u47 :: u48 :: u49 :: u50 :: u51 :: u52 :: u53 :: u54 :: u55 :: u56 :: u57 :: u58 :: u59 :: u60 :: u61 :: .pointer (some ⟨r, 0, none⟩) :: x63 :: x64 :: x65 :: x66 :: x67 :: x68 :: x69 :: x70 :: x71 :: x72 :: x73 :: x74 :: x75 :: x76 :: x77 :: x78 :: x79 :: x80 :: x81 :: x82 :: x83 :: x84 :: x85 :: x86 :: x87 :: x88 :: x89 :: x90 :: x91 :: x92 :: x93 :: x94 :: x95 :: x96 :: x97 :: x98 :: x99 :: x100 :: x101 :: x102 :: x103 :: x104 :: x105 :: x106 :: x107 :: x108 :: x109 :: x110 :: x111 :: x112 :: u113 :: u114 :: u115 :: u116 :: u117 :: u118 :: u119 :: u120 :: u121 :: u122 :: u123 :: u124 :: u125 :: u126 :: u127 :: u128 :: u129 :: u130 :: u131 :: u132 :: u133 :: u134 :: u135 :: u136 :: u137 :: u138 :: u139 :: u140 :: u141 :: u142 :: u143 :: u144 :: u145 :: u146 :: u147 :: u148 :: u149 :: u150 :: u151 :: u152 :: u153 :: u154 :: u155 :: u156 :: u157 :: u158 :: u159 :: u160 :: u161 :: u162 :: u163 :: u164 :: u165 :: u166 :: u167 :: u168 :: u169 :: u170 :: u171 :: u172 :: u173 :: u174 :: u175 :: u176 :: u177 :: u178 :: u179 :: u180 :: u181 :: u182 :: u183 :: u184 :: u185 :: u186 :: u187 :: u188 :: [])), []⟩ w') :
    Code.wp Try.prog (.loop ofB3) Q ⟨(List.toArray (u0 :: u1 :: u2 :: .map (some B1) :: u4 :: u5 :: u6 :: u7 :: u8 :: u9 :: u10 :: u11 :: u12 :: u13 :: u14 :: u15 :: u16 :: u17 :: u18 :: u19 :: u20 :: u21 :: u22 :: u23 :: u24 :: u25 :: u26 :: u27 :: u28 :: u29 :: u30 :: u31 :: u32 :: u33 :: u34 :: u35 :: u36 :: u37 :: u38 :: u39 :: u40 :: u41 :: u42 :: u43 :: u44 :: u45 :: u46 :: u47 :: u48 :: u49 :: u50 :: u51 :: u52 :: u53 :: u54 :: u55 :: u56 :: u57 :: u58 :: u59 :: u60 :: u61 :: .pointer (some ⟨r, 0, none⟩) :: u63 :: u64 :: u65 :: u66 :: u67 :: u68 :: u69 :: u70 :: u71 :: u72 :: u73 :: u74 :: u75 :: u76 :: u77 :: u78 :: u79 :: u80 :: u81 :: u82 :: u83 :: u84 :: u85 :: u86 :: u87 :: u88 :: u89 :: u90 :: u91 :: u92 :: u93 :: u94 :: u95 :: u96 :: u97 :: u98 :: u99 :: u100 :: u101 :: u102 :: u103 :: u104 :: u105 :: u106 :: u107 :: u108 :: u109 :: u110 :: u111 :: u112 :: u113 :: u114 :: u115 :: u116 :: u117 :: u118 :: u119 :: u120 :: u121 :: u122 :: u123 :: u124 :: u125 :: u126 :: u127 :: u128 :: u129 :: u130 :: u131 :: u132 :: u133 :: u134 :: u135 :: u136 :: u137 :: u138 :: u139 :: u140 :: u141 :: u142 :: u143 :: u144 :: u145 :: u146 :: u147 :: u148 :: u149 :: u150 :: u151 :: u152 :: u153 :: u154 :: u155 :: u156 :: u157 :: u158 :: u159 :: u160 :: u161 :: u162 :: u163 :: u164 :: u165 :: u166 :: u167 :: u168 :: u169 :: u170 :: u171 :: u172 :: u173 :: u174 :: u175 :: u176 :: u177 :: u178 :: u179 :: u180 :: u181 :: u182 :: u183 :: u184 :: u185 :: u186 :: u187 :: u188 :: [])), []⟩ w := by
  conv => arg 2; arg 1; whnf
  have HX := Lib.hid hexit
  have H0 := Lib.hid h0
  have HLOW := Lib.hid hlow
  have HCOV := Lib.hid hcov
  have HLEN := Lib.hid hlen
  clear hexit h0 hlow hcov hlen
  go_loopw [] (fun wr => ∃ left cnt, At3 w wr B1 n1 base B2 n2 base2 r pt gr M left cnt) (fun wr => wr.rangeLeft B2 r)
  case atStart => exact ⟨_, _, H0.out⟩
  case round =>
    obtain ⟨left, cnt, hA3⟩ := hrel
    have HA := Lib.hid hA3
    have hle := hA3.range.left_eq
    have HLE := Lib.hid hle
    clear hA3 hle
    go_wp2_with (refine wpl_next rfl _ rfl 70 keyed_field B2 r n2 gr left cnt (by rfl) HA.out.range ?_ ?_)
    · intro hc0 hl0
      have hb := HA.out.book
      have hk := HA.out.kept
      have e : left = fun _ => false := funext hl0
      rw [e] at hb
      have HB := Lib.hid hb
      have HK := Lib.hid hk
      clear hb hk e hc0 hl0
      go_wp2_with fail
      exact HX.out _ _ _ _ _ _ _ _ _ _ _ _ _ _ _ _ _ _ _ _ _ _ _ _ _ _ _ _ _ _ _ _ _ _ _ _ _ _ _ _ _ _ _ _ _ _ _ _ _ _ _ _ _ _ _ _ HB.out HK.out
    · intro key v kl w1 cnt1 hkey hleft hgr hrg1 hcnt hg1 hs1 hen
      obtain ⟨s, l, hok, ekl, hne⟩ := HA.out.groups.keys kl v hgr
      subst ekl
      have hkv : key = keyV s l := law_field.inj hkey (key_field hok)
      subst hkv
      obtain ⟨v', hv', hown⟩ := HA.out.groups.rows s l hok hne
      rw [hgr] at hv'
      injection hv' with hv'
      subst hv'
      obtain ⟨A, c, rfl, hnc, hRd⟩ := Rd.own hown
      -- the world behind the step, and the box of the key
      obtain ⟨im, is, ie, ic, hiter⟩ := HA.out.range.iter
      have hB2 : B2 ≠ r := HA.out.range.ne.symm
      obtain ⟨es1, clock1, hm1⟩ := HA.out.book.map.heap
      have hB1 : B1 ≠ r := by rintro rfl; rw [hm1] at hiter; cases hiter
      have hcr : ∀ s c, pt s = some c → c ≠ r := fun s c hc => ((HA.out.book.at_ s c hc).2).not_iter hiter
      have hrows : ∀ v n xs, wr.ownsRow base2 35 12 v n xs → ∀ g, v.ownBlock = some g → g ≠ r := fun v n xs hv g hg => by
        rcases hv.2 with ⟨rfl, _⟩ | ⟨g', cap, cur, rfl, _, hg', _⟩
        · simp [Value.ownBlock] at hg
        · injection hg with hg
          subst hg
          rintro rfl
          rw [hg'] at hiter
          cases hiter
      have hk1 : Kept (· = r) wr w1 := Kept.of_grown hg1 (fun i _ e => by injection e with e; exact e.symm)
      have HW : ∀ W, W = w1.alloc (.cells #[.string (ba s), .int .i64 l] 70) →
          BookAt W B1 n1 base pt (cstate M left) ∧ GroupsAt W B2 n2 base2 gr M ∧ RangeV W 70 B2 r n2 gr (fun z => left z && !z.sameKey (klf s l)) cnt1 ∧ Kept (turn3 r pt) w W ∧ RdEv W A (M s l).length (M s l) ∧ At W w1.heap.size [.string (ba s), .int .i64 l] ∧ (Instr.entry (.pointer (some ⟨r, 0, none⟩))).run Try.prog w1 = .ok (.tuple #[keyV s l, .slice A (M s l).length c]) w1 := by
        rintro W rfl
        have hb : Below w1.heap.size w1 (w1.alloc (.cells #[.string (ba s), .int .i64 l] 70)) := (Below.refl _ _).alloc (Nat.le_refl _) _
        refine ⟨(HA.out.book.keep hk1 hB1 (fun s c hc => hcr s c hc)).next hb, (HA.out.groups.keep hk1 hB2 (fun v n xs hv g hg => hrows v n xs hv g hg)).next hb, hrg1.next hb, ?_, ?_, At.new _ _ _, hen⟩
        · exact (HA.out.kept.grown hg1 (fun i _ e => by injection e with e; exact .inl e.symm)).alloc _
        · refine ⟨rfl, ((hRd.keep hk1 ?_).below hb)⟩
          rintro b o rfl _
          exact hrows _ _ _ hown b rfl
      have HWh := Lib.hid HW
      have hln := HLEN.out s l
      have HCN := Lib.hid hcnt
      have HOK := Lib.hid hok
      have HNE := Lib.hid hne
      have HLF := Lib.hid hleft
      have HHR := Lib.hid (And.intro hB1 (And.intro hcr hrows))
      have hlr := hrg1.lt
      have HOW := Lib.hid hown
      have HS1 := Lib.hid hs1
      unfold keyV at hen
      clear HW hkey hleft hgr hrg1 hcnt hg1 hs1 hk1 hrows hcr hiter hm1 hB1 hB2 hown hRd hok hne hnc
      by_cases hl0 : l < 0
      · have d1 : decide (l < 0) = true := by simpa using hl0
        have HFAR := Lib.hid (show l ≠ 0 ∧ l ≠ 1 from ⟨by omega, by omega⟩)
        go_wp2_with fail
        refine ⟨⟨fun z => left z && !z.sameKey (klf s l), cnt1, ?_⟩, ?_⟩
        · obtain ⟨hb, hg, hr, hk, _, _, _⟩ := HWh.out _ rfl
          exact ⟨hb.congr (fun s' c' hc' => (cstate_other HOK.out (HLOW.out s' c' hc').2 (.inr HFAR.out))), hg, hr, hk⟩
        · have := (HWh.out _ rfl).2.2.1.left_eq
          rw [this, HLE.out]
          exact HCN.out
      · have d1 : decide (l < 0) = false := by simpa using hl0
        by_cases hl2 : 2 ≤ l
        · have d2 : decide (2 ≤ l) = true := by simpa using hl2
          have HFAR := Lib.hid (show l ≠ 0 ∧ l ≠ 1 from ⟨by omega, by omega⟩)
          go_wp2_with fail
          refine ⟨⟨fun z => left z && !z.sameKey (klf s l), cnt1, ?_⟩, ?_⟩
          · obtain ⟨hb, hg, hr, hk, _, _, _⟩ := HWh.out _ rfl
            exact ⟨hb.congr (fun s' c' hc' => (cstate_other HOK.out (HLOW.out s' c' hc').2 (.inr HFAR.out))), hg, hr, hk⟩
          · have := (HWh.out _ rfl).2.2.1.left_eq
            rw [this, HLE.out]
            exact HCN.out
        · have d2 : decide (2 ≤ l) = false := by simpa using hl2
          have HIN := Lib.hid (show l = 0 ∨ l = 1 by omega)
          obtain ⟨C, hC⟩ : ∃ C, pt s = some C := Option.isSome_iff_exists.1 (HCOV.out s l HNE.out)
          have HPC := Lib.hid hC
          obtain ⟨q, x, hq, hql, hqx, hqe⟩ := lastEv_some (M s l) HNE.out
          have HQ := Lib.hid (And.intro hq (And.intro hql (And.intro hqx hqe)))
          clear hC hq hql hqx hqe hl0 hl2
          obtain ⟨hb, hg, hr, hk, hrd, hfb, _⟩ := HWh.out _ rfl
          have HB := Lib.hid hb
          have HG := Lib.hid hg
          have HR := Lib.hid hr
          have HK := Lib.hid hk
          have HRD := Lib.hid hrd
          have HFB := Lib.hid hfb
          clear hb hg hr hk hrd hfb
          obtain ⟨W, hW⟩ : ∃ W, W = w1.alloc (.cells #[.string (ba s), .int .i64 l] 70) := ⟨_, rfl⟩
          have HWE := Lib.hid hW
          rw [← hW] at HB HG HR HK HRD HFB
          clear hW HWh
          go_wp2_with fail
          rw [← HWE.out]
          refine of_loop4 _ A (M s l).length c (M s l) W _ _ _ _ _ _ _ _ _ _ _ _ _ _ _ _ _ _ _ _ _ _ _ _ _ _ _ _ _ _ _ _ _ _ _ _ _ _ _ _ _ _ _ _ _ _ _ _ _ _ _ _ _ _ _ _ _ _ _ _ _ _ _ _ _ _ _ _ _ _ _ _ _ _ _ _ _ _ _ _ _ _ _ _ _ _ _ _ _ _ _ _ _ _ _ _ _ _ _ _ _ _ _ _ _ _ _ _ _ _ _ _ _ _ _ _ _ _ _ _ _ _ _ _ _ _ _ _ _ _ _ _ _ _ _ _ _ _ _ _ _ _ _ _ _ _ _ _ _ _ _ _ _ _ _ _ _ _ _ _ _ _ _ _ _ _ _ _ _ _ _ _ _ _ _ _ _ _ _ _ _ _ _ _ _ HRD.out hln ?_
          intro x14 x78 x79 x80 x81 x82 x83 x84 x85 x86 x87 x88 x89 x90 vS w2 hS hb2
          obtain ⟨AS, cS, rfl, hcS, hRS⟩ := Rd.own hS
          have hCW : C < w1.heap.size := by
            have h1 := HA.out.book.lt HPC.out
            have h2 := HS1.out
            omega
          have hWs : W.heap.size = w1.heap.size + 1 := by rw [HWE.out]; simp
          have hSC : ∀ b o, AS = some ⟨b, o, none⟩ → b ≠ C := by
            rintro b o rfl
            have := (hS.lt b rfl).1
            omega
          have hAC : ∀ b o, A = some ⟨b, o, none⟩ → b ≠ C := by
            rintro b o rfl
            have h1 := (HOW.out.lt b rfl).1
            have h2 := (HLOW.out s C HPC.out).1
            omega
          have HBK2 := Lib.hid (HB.out.next hb2)
          have HG2 := Lib.hid (HG.out.next hb2)
          have HR2 := Lib.hid (HR.out.next hb2)
          have HK2 := Lib.hid (HK.out.below hb2)
          have HRD2 := Lib.hid (HRD.out.below hb2)
          have hfb2 := HFB.out.next hb2
          have f0 := hfb2.cell 0 rfl
          have HFB2 := Lib.hid hfb2
          have HRS := Lib.hid (show RdSt w2 AS (M s l).length (stOf (M s l)) from ⟨by simp [stOf], hRS⟩)
          have hkey : keyOf Try.prog 9 (.string (ba s)) = some (.string s) := by
            have := key_str (s := ba s) (by have := HOK.out.1; unfold ba; simpa [ByteArray.size] using this)
            rwa [of_ba] at this
          have hv0 : (ptF pt (.string s)).getD (.pointer none) = .pointer (some ⟨C, 0, none⟩) := by simp [ptF, HPC.out]
          have HKV := Lib.hid (And.intro hkey hv0)
          have HNC := Lib.hid (And.intro hSC (And.intro hAC (And.intro hCW hWs)))
          clear hS hb2 hcS hRS hCW hWs hSC hAC hfb2 hkey hv0
          go_wp2_with (refine wpl_look rfl _ _ 65 rfl 9 66 keyed_str Try.underlying65 (Try.zeroValue66 _) B1 n1 (ptF pt) (by rfl) HBK2.out.map _ (.string s) (by rfl) HKV.out.1 _ HKV.out.2 ?_)
          go_wp2_with fail
          refine of_r25 _ A AS (M s l).length c (M s l).length cS w1.heap.size C (ba s) (ba s) l HIN.out (cstate M left s) (M s l) q x w2 _ _ _ _ _ _ _ _ _ _ _ _ _ _ _ _ _ _ _ _ _ _ _ _ _ _ _ _ _ _ _ _ _ _ _ _ _ _ _ _ _ _ _ _ _ _ _ _ _ _ _ _ _ _ _ _ _ _ _ _ _ _ _ _ _ _ _ _ _ _ _ _ _ _ _ _ _ _ _ _ _ _ _ _ _ _ _ _ _ _ _ _ _ _ _ _ _ _ _ _ _ _ _ _ _ _ _ _ _ _ _ _ _ _ _ _ _ _ _ _ _ _ _ _ _ _ _ _ _ _ _ _ _ _ _ _ _ _ _ _ _ _ _ _ _ _ _ _ _ _ _ _ _ _ _ _ _ _ _ _ _ _ _ _ _ _ _ _ _ _ _ _ _ _ _ _ _ _ _ _ _ _ _ _ _ HRD2.out HRS.out HQ.out.1 HQ.out.2.2.1 hln hln HFB2.out (HBK2.out.at_ s C HPC.out).2 (by have := HNC.out.2.2.1; omega) HNC.out.2.1 HNC.out.1 ?_
          intro x95 x96 x97 x98 x99 x100 x101 x102 x103 x104 x105 x106 x107 x108 x109 x110 x111 x112 w3 hC3 hk3
          have HC3 := Lib.hid hC3
          have HK3 := Lib.hid hk3
          clear hC3 hk3 f0
          go_wp2_with fail
          have hB2C : B2 ≠ C := fun e => HG2.out.map.ne_at (HBK2.out.at_ s C HPC.out).2 e.symm
          have hB1C : B1 ≠ C := fun e => HBK2.out.map.ne_at (HBK2.out.at_ s C HPC.out).2 e.symm
          have hrC : r ≠ C := fun e => HHR.out.2.1 s C HPC.out e.symm
          have hrng : RangeV w3 70 B2 r n2 gr (fun z => left z && !z.sameKey (klf s l)) cnt1 := HR2.out.keep HK3.out hB2C hrC
          refine ⟨⟨fun z => left z && !z.sameKey (klf s l), cnt1, ⟨⟨HBK2.out.map.keep HK3.out hB1C, fun s' c' hc' => ⟨(HBK2.out.at_ s' c' hc').1, ?_⟩⟩, HG2.out.keep HK3.out hB2C ?_, hrng, ?_⟩⟩, ?_⟩
          · by_cases e : s' = s
            · subst e
              have hcc : c' = C := by have := HPC.out; rw [hc'] at this; injection this
              subst hcc
              rw [cstate_set HOK.out HIN.out HNE.out HQ.out.2.2.2]
              exact HC3.out
            · have hne : c' ≠ C := by
                rintro rfl
                exact e (HBK2.out.inj hc' HPC.out)
              rw [cstate_other HOK.out (HLOW.out s' c' hc').2 (.inl e)]
              exact (HBK2.out.at_ s' c' hc').2.keep HK3.out hne
          · intro v n xs hv g hg e
            have h1 := (hv.lt g hg).1
            have h2 := (HLOW.out s C HPC.out).1
            omega
          · exact HK2.out.then HK3.out (fun i _ e => .inr ⟨s, by rw [HPC.out, e]⟩)
          · rw [hrng.left_eq, HLE.out]
            exact HCN.out
end Go.Proofs.Ytfbpjhhcpockfaa
