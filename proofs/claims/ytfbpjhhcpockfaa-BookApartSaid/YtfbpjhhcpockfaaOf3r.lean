/- book.Of's statement that sets a field: a region that draws its order. No condition. -/
import Derived.Test.YtfbpjhhcpockfaaOf4
set_option linter.unusedVariables false
set_option linter.unusedSimpArgs false
namespace Go.Proofs.Ytfbpjhhcpockfaa
open Go.RowKit Go.Shelf Go.Maps
attribute [local go_sem] gives Gives
noncomputable def ofR25 : Code := regOf Try.f13.body 25
theorem last_nonneg (L : List St) : ∀ i, 0 < i → i ≤ L.length → 0 ≤ lastUpTo L i
  | 0, h, _ => absurd h (Nat.lt_irrefl _)
  | i + 1, _, h => by
    have hx : L[i]? = some L[i] := List.getElem?_eq_getElem (by omega)
    rw [lastUpTo, hx]
    dsimp only
    split
    · omega
    · rename_i h'
      simp only [not_or] at h'
      omega
/-- The write that is shown. -/
def lastEv (L : List Ev) : Option Ev := L[(lastS (stOf L)).toNat]?
theorem lastEv_some (L : List Ev) (hne : L ≠ []) : ∃ (q : Nat) (x : Ev), lastS (stOf L) = (q : Int) ∧ q < L.length ∧ L[q]? = some x ∧ lastEv L = some x := by
  have hl : (stOf L).length = L.length := by simp [stOf]
  have h0 : 0 < L.length := List.length_pos_iff.2 hne
  have h1 := last_nonneg (stOf L) (stOf L).length (by omega) (Nat.le_refl _)
  obtain ⟨h2, h3, h4⟩ := lastUpTo_range (stOf L) (stOf L).length
  obtain ⟨q, hq⟩ : ∃ q : Nat, lastS (stOf L) = q := ⟨(lastS (stOf L)).toNat, by unfold lastS; omega⟩
  have hq' : lastUpTo (stOf L) (stOf L).length = q := hq
  have hql : q < L.length := by omega
  refine ⟨q, L[q], hq, hql, List.getElem?_eq_getElem hql, ?_⟩
  unfold lastEv
  rw [hq]
  simp [hql]
def setC (st : CtS) (l : Int) (v : ByteArray) : CtS := if l = 0 then { st with h0 := true, f0 := v } else { st with h1 := true, f1 := v }

set_option maxRecDepth 100000 in
set_option maxHeartbeats 4000000 in
theorem of_r25 (Q : Exit → Act → World → Prop) (A AS : Option Addr) (n c nS cS F C : Nat) (key key2 : ByteArray) (l : Int) (hl : l = 0 ∨ l = 1) (st : CtS) (L : List Ev) (q : Nat) (x : Ev) (w : World) (u0 u1 u2 u3 u4 u5 u6 u7 u8 u9 u13 u14 u16 u17 u18 u19 u20 u21 u22 u23 u24 u25 u26 u27 u28 u29 u30 u31 u32 u33 u34 u35 u36 u37 u38 u39 u40 u41 u42 u43 u44 u45 u46 u47 u48 u49 u50 u51 u52 u53 u54 u55 u56 u57 u58 u59 u60 u61 u62 u63 u64 u65 u66 u67 u68 u69 u70 u71 u72 u73 u74 u75 u76 u77 u78 u79 u80 u81 u82 u83 u84 u85 u86 u87 u88 u89 u90 u91 u92 u93 u94 u95 u96 u97 u98 u99 u100 u101 u102 u103 u104 u105 u106 u107 u108 u109 u110 u111 u112 u113 u114 u115 u116 u117 u118 u119 u120 u121 u122 u123 u124 u125 u126 u127 u128 u129 u130 u131 u132 u133 u134 u135 u136 u137 u138 u139 u140 u141 u142 u143 u144 u145 u146 u147 u148 u149 u150 u151 u152 u153 u154 u155 u156 u157 u158 u159 u160 u161 u162 u163 u164 u165 u166 u167 u168 u169 u170 u171 u172 u173 u174 u175 u176 u177 u178 u179 u180 u181 u182 u183 u184 u185 u186 u187 u188 : Value)
    (hR : RdEv w A n L) (hS : RdSt w AS nS (stOf L)) (hq : lastS (stOf L) = (q : Int)) (hx : L[q]? = some x) (hbig : n ≤ 1000000000) (hbigS : nS ≤ 1000000000) (hF : At w F [.string key, .int .i64 l]) (hC : At w C (ctCells key2 st)) (hFC : F ≠ C) (hAC : ∀ b o, A = some ⟨b, o, none⟩ → b ≠ C) (hSC : ∀ b o, AS = some ⟨b, o, none⟩ → b ≠ C)
    (hexit : ∀ (x95 x96 x97 x98 x99 x100 x101 x102 x103 x104 x105 x106 x107 x108 x109 x110 x111 x112 : Value) (w' : World), At w' C (ctCells key2 (setC st l x.value)) → Kept (· = C) w w' →
      Q .normal ⟨(List.toArray (u0 :: u1 :: u2 :: u3 :: u4 :: u5 :: u6 :: u7 :: u8 :: u9 :: .pointer (some ⟨F, 0, none⟩) :: .slice A n c :: .slice AS nS cS :: u13 :: u14 :: .pointer (some ⟨C, 0, none⟩) :: u16 :: u17 :: u18 :: u19 :: u20 :: u21 :: u22 :: u23 :: u24 :: u25 :: u26 :: u27 :: u28 :: u29 :: u30 :: u31 :: u32 :: u33 :: u34 :: u35 :: u36 :: u37 :: u38 :: u39 :: u40 :: u41 :: u42 :: u43 :: u44 :: u45 :: u46 :: u47 :: u48 :: u49 :: u50 :: u51 :: u52 :: u53 :: u54 :: u55 :: u56 :: u57 :: u58 :: u59 :: u60 :: u61 :: u62 :: u63 :: u64 :: u65 :: u66 :: u67 :: u68 :: u69 :: u70 :: u71 :: u72 :: u73 :: u74 :: u75 :: u76 :: u77 :: u78 :: u79 :: u80 :: u81 :: u82 :: u83 :: u84 :: u85 :: u86 :: u87 :: u88 :: u89 :: u90 :: u91 :: u92 :: u93 :: u94 :: x95 :: x96 :: x97 :: x98 :: x99 :: x100 :: x101 :: x102 :: x103 :: x104 :: x105 :: x106 :: x107 :: x108 :: x109 :: x110 :: x111 :: x112 :: u113 :: u114 :: u115 :: u116 :: u117 :: u118 :: u119 :: u120 :: u121 :: u122 :: u123 :: u124 :: u125 :: u126 :: u127 :: u128 :: u129 :: u130 :: u131 :: u132 :: u133 :: u134 :: u135 :: u136 :: u137 :: u138 :: u139 :: u140 :: u141 :: u142 :: u143 :: u144 :: u145 :: u146 :: u147 :: u148 :: u149 :: u150 :: u151 :: u152 :: u153 :: u154 :: u155 :: u156 :: u157 :: u158 :: u159 :: u160 :: u161 :: u162 :: u163 :: u164 :: u165 :: u166 :: u167 :: u168 :: u169 :: u170 :: u171 :: u172 :: u173 :: u174 :: u175 :: u176 :: u177 :: u178 :: u179 :: u180 :: u181 :: u182 :: u183 :: u184 :: u185 :: u186 :: u187 :: u188 :: [])), []⟩ w') :
    Code.wp Try.prog ofR25 Q ⟨(List.toArray (u0 :: u1 :: u2 :: u3 :: u4 :: u5 :: u6 :: u7 :: u8 :: u9 :: .pointer (some ⟨F, 0, none⟩) :: .slice A n c :: .slice AS nS cS :: u13 :: u14 :: .pointer (some ⟨C, 0, none⟩) :: u16 :: u17 :: u18 :: u19 :: u20 :: u21 :: u22 :: u23 :: u24 :: u25 :: u26 :: u27 :: u28 :: u29 :: u30 :: u31 :: u32 :: u33 :: u34 :: u35 :: u36 :: u37 :: u38 :: u39 :: u40 :: u41 :: u42 :: u43 :: u44 :: u45 :: u46 :: u47 :: u48 :: u49 :: u50 :: u51 :: u52 :: u53 :: u54 :: u55 :: u56 :: u57 :: u58 :: u59 :: u60 :: u61 :: u62 :: u63 :: u64 :: u65 :: u66 :: u67 :: u68 :: u69 :: u70 :: u71 :: u72 :: u73 :: u74 :: u75 :: u76 :: u77 :: u78 :: u79 :: u80 :: u81 :: u82 :: u83 :: u84 :: u85 :: u86 :: u87 :: u88 :: u89 :: u90 :: u91 :: u92 :: u93 :: u94 :: u95 :: u96 :: u97 :: u98 :: u99 :: u100 :: u101 :: u102 :: u103 :: u104 :: u105 :: u106 :: u107 :: u108 :: u109 :: u110 :: u111 :: u112 :: u113 :: u114 :: u115 :: u116 :: u117 :: u118 :: u119 :: u120 :: u121 :: u122 :: u123 :: u124 :: u125 :: u126 :: u127 :: u128 :: u129 :: u130 :: u131 :: u132 :: u133 :: u134 :: u135 :: u136 :: u137 :: u138 :: u139 :: u140 :: u141 :: u142 :: u143 :: u144 :: u145 :: u146 :: u147 :: u148 :: u149 :: u150 :: u151 :: u152 :: u153 :: u154 :: u155 :: u156 :: u157 :: u158 :: u159 :: u160 :: u161 :: u162 :: u163 :: u164 :: u165 :: u166 :: u167 :: u168 :: u169 :: u170 :: u171 :: u172 :: u173 :: u174 :: u175 :: u176 :: u177 :: u178 :: u179 :: u180 :: u181 :: u182 :: u183 :: u184 :: u185 :: u186 :: u187 :: u188 :: [])), []⟩ w := by
  obtain ⟨b, o, hA, hlt, hcc⟩ := hR.at_ q x hx
  have hbC := hAC b o hA
  subst hA
  have hqn : q < n := by have := (List.getElem?_eq_some_iff.1 hx).1; have := hR.1; omega
  have cv := hcc 11 _ rfl
  have f0 := hF.cell 0 rfl
  have f1 := hF.cell 1 rfl
  have lF := hF.lt
  have lC := hC.lt
  have HKS := Lib.hid (fun (W : World) (h : PutIn C 1 (.bool true) w W ∨ PutIn C 2 (.bool true) w W) => (show RdSt W AS nS (stOf L) from ⟨hS.1, hS.2.keep (S := (· = C)) (h.elim PutIn.kept PutIn.kept) (fun b o e _ => hSC b o e)⟩))
  have HX := Lib.hid hexit
  have HS := Lib.hid hS
  have HQ := Lib.hid hq
  have HC := Lib.hid hC
  have HSC := Lib.hid hSC
  clear hexit hS hq hR hx hF hC hAC hSC hcc
  have i0 : (0 : Int) ≤ (q : Int) := by omega
  have i1 : (q : Int) < (n : Int) := by omega
  have HKS1 := Lib.hid (fun (W : World) (h : PutIn C 1 (.bool true) w W) => HKS.out W (.inl h))
  have HKS2 := Lib.hid (fun (W : World) (h : PutIn C 2 (.bool true) w W) => HKS.out W (.inr h))
  obtain ⟨h0, h1, s0, s1, t0, t1⟩ := st
  clear HS HSC HKS
  rcases hl with rfl | rfl
  · have HKS := HKS1
    clear HKS1 HKS2
    conv => arg 2; whnf
    refine wp_region_line_any (G := PutIn C 1 (.bool true) w) (E := PutIn C 1 (.bool true)) 18 (by kernel_rfl) (by kernel_rfl) (fun w _ => PutIn.refl _ _ _ _) (fun _ _ h1 h2 => h1.trans h2) (PutIn.drew _ _ _ _) ?_
    apply line_fix
    case now => (intro vs w' R hG hn hR; have hR' := Lib.hid hR; clear hR hn; skip; clear hG; go_simp; exact hR'.out _ (PutIn.refl _ _ _ _))
    case hangs => exact fun _ _ _ => rfl
    case hR => exact fun _ _ => ⟨_, PutIn.refl _ _ _ _⟩
    (try simp only [Act.put, List.setIfInBounds_toArray, List.set_cons_zero, List.set_cons_succ])
    apply line_fix
    case now => (intro vs w' R hG hn hR; have hR' := Lib.hid hR; clear hR hn; skip; clear hG; go_simp; exact hR'.out _ (PutIn.refl _ _ _ _))
    case hangs => exact fun _ _ _ => rfl
    case hR => exact fun _ _ => ⟨_, PutIn.refl _ _ _ _⟩
    (try simp only [Act.put, List.setIfInBounds_toArray, List.set_cons_zero, List.set_cons_succ])
    apply line_fix
    case now => (intro vs w' R hG hn hR; have hR' := Lib.hid hR; clear hR hn; have e1 := (hG.cell F 1 lF hFC).trans f1; clear hG; go_simp; exact hR'.out _ (PutIn.refl _ _ _ _))
    case hangs => exact fun _ _ _ => rfl
    case hR => exact fun _ _ => ⟨_, PutIn.refl _ _ _ _⟩
    (try simp only [Act.put, List.setIfInBounds_toArray, List.set_cons_zero, List.set_cons_succ])
    apply line_fix
    case now => (intro vs w' R hG hn hR; have hR' := Lib.hid hR; clear hR hn; skip; clear hG; go_simp; exact hR'.out _ (PutIn.refl _ _ _ _))
    case hangs => exact fun _ _ _ => rfl
    case hR => exact fun _ _ => ⟨_, PutIn.refl _ _ _ _⟩
    (try simp only [Act.put, List.setIfInBounds_toArray, List.set_cons_zero, List.set_cons_succ])
    apply line_fix
    case now => (intro vs w' R hG hn hR; have hR' := Lib.hid hR; clear hR hn; skip; clear hG; go_simp; exact hR'.out _ (PutIn.refl _ _ _ _))
    case hangs => exact fun _ _ _ => rfl
    case hR => exact fun _ _ => ⟨_, PutIn.refl _ _ _ _⟩
    (try simp only [Act.put, List.setIfInBounds_toArray, List.set_cons_zero, List.set_cons_succ])
    apply line_fix
    case now => (intro vs w' R hG hn hR; have hR' := Lib.hid hR; clear hR hn; have e1 := (hG.cell F 1 lF hFC).trans f1; clear hG; go_simp; exact hR'.out _ (PutIn.refl _ _ _ _))
    case hangs => exact fun _ _ _ => rfl
    case hR => exact fun _ _ => ⟨_, PutIn.refl _ _ _ _⟩
    (try simp only [Act.put, List.setIfInBounds_toArray, List.set_cons_zero, List.set_cons_succ])
    apply line_fix
    case now => (intro vs w' R hG hn hR; have hR' := Lib.hid hR; clear hR hn; skip; clear hG; go_simp; exact hR'.out _ (PutIn.refl _ _ _ _))
    case hangs => exact fun _ _ _ => rfl
    case hR => exact fun _ _ => ⟨_, PutIn.refl _ _ _ _⟩
    (try simp only [Act.put, List.setIfInBounds_toArray, List.set_cons_zero, List.set_cons_succ])
    apply line_fix
    case now => (intro vs w' R hG hn hR; have hR' := Lib.hid hR; clear hR hn; skip; clear hG; go_simp; exact hR'.out _ (PutIn.refl _ _ _ _))
    case hangs => exact fun _ _ _ => rfl
    case hR => exact fun _ _ => ⟨_, PutIn.refl _ _ _ _⟩
    (try simp only [Act.put, List.setIfInBounds_toArray, List.set_cons_zero, List.set_cons_succ])
    apply line_fix
    case now =>
      intro vs w' R hG hn hR
      have hR' := Lib.hid hR
      clear hR hn
      have hS' : RdSt w' AS nS (stOf L) := HKS.out w' hG
      clear hG
      go_simp
      refine (last_any AS nS cS (stOf L) w' hS' hbigS).mono ?_
      rintro e w'' ⟨rfl, hb⟩
      rw [HQ.out]
      exact ⟨_, rfl, hR'.out _ (PutIn.of_below hb)⟩
    case hangs => exact fun _ _ _ => rfl
    case hR => exact fun _ _ => ⟨_, PutIn.refl _ _ _ _⟩
    (try simp only [Act.put, List.setIfInBounds_toArray, List.set_cons_zero, List.set_cons_succ])
    apply line_fix
    case now => (intro vs w' R hG hn hR; have hR' := Lib.hid hR; clear hR hn; skip; clear hG; go_simp; exact hR'.out _ (PutIn.refl _ _ _ _))
    case hangs => exact fun _ _ _ => rfl
    case hR => exact fun _ _ => ⟨_, PutIn.refl _ _ _ _⟩
    (try simp only [Act.put, List.setIfInBounds_toArray, List.set_cons_zero, List.set_cons_succ])
    apply line_fix
    case now => (intro vs w' R hG hn hR; have hR' := Lib.hid hR; clear hR hn; skip; clear hG; go_simp; exact hR'.out _ (PutIn.refl _ _ _ _))
    case hangs => exact fun _ _ _ => rfl
    case hR => exact fun _ _ => ⟨_, PutIn.refl _ _ _ _⟩
    (try simp only [Act.put, List.setIfInBounds_toArray, List.set_cons_zero, List.set_cons_succ])
    apply line_fix
    case now => (intro vs w' R hG hn hR; have hR' := Lib.hid hR; clear hR hn; have e2 := (hG.cell b (o + q * 12 + 11) hlt hbC).trans cv; clear hG; go_simp; exact hR'.out _ (PutIn.refl _ _ _ _))
    case hangs => exact fun _ _ _ => rfl
    case hR => exact fun _ _ => ⟨_, PutIn.refl _ _ _ _⟩
    (try simp only [Act.put, List.setIfInBounds_toArray, List.set_cons_zero, List.set_cons_succ])
    apply line_fix
    case now => (intro vs w' R hG hn hR; have hR' := Lib.hid hR; clear hR hn; skip; clear hG; go_simp; exact hR'.out _ (PutIn.refl _ _ _ _))
    case hangs => exact fun _ _ _ => rfl
    case hR => exact fun _ _ => ⟨_, PutIn.refl _ _ _ _⟩
    (try simp only [Act.put, List.setIfInBounds_toArray, List.set_cons_zero, List.set_cons_succ])
    apply line_fix
    case now => (intro vs w' R hG hn hR; have hR' := Lib.hid hR; clear hR hn; skip; clear hG; go_simp; exact hR'.out _ (PutIn.refl _ _ _ _))
    case hangs => exact fun _ _ _ => rfl
    case hR => exact fun _ _ => ⟨_, PutIn.refl _ _ _ _⟩
    (try simp only [Act.put, List.setIfInBounds_toArray, List.set_cons_zero, List.set_cons_succ])
    apply line_fix
    case now => (intro vs w' R hG hn hR; have hR' := Lib.hid hR; clear hR hn; skip; clear hG; go_simp; exact hR'.out _ (PutIn.refl _ _ _ _))
    case hangs => exact fun _ _ _ => rfl
    case hR => exact fun _ _ => ⟨_, PutIn.refl _ _ _ _⟩
    (try simp only [Act.put, List.setIfInBounds_toArray, List.set_cons_zero, List.set_cons_succ])
    apply line_var (Φ := fun _ _ w => At w C [.string key2, .bool true, .bool h1, .string s0, .string s1, t0, t1])
    case keep => (intro _ _ w w' h hp; rcases hp.hereA h with h1 | h1 <;> exact h1)
    case hangs => exact fun _ _ _ => rfl
    case now =>
      intro vs w' R hG hn hR
      have hR' := Lib.hid hR
      clear hR hn
      have hA : ∃ z, At w' C [.string key2, z, .bool h1, .string s0, .string s1, t0, t1] := by rcases hG.hereA HC.out with h1 | h1 <;> exact ⟨_, h1⟩
      obtain ⟨z, hA⟩ := hA
      have z2 := hA.cell 1 rfl
      have z2f := hA.frozen 1
      refine ⟨rfl, ?_⟩
      go_simp
      exact hR'.out _ _ (hA.set 1 _) PutIn.set
    (try simp only [Act.put, List.setIfInBounds_toArray, List.set_cons_zero, List.set_cons_succ])
    apply line_fix
    case now => (intro vs w' R hG hn hR; have hR' := Lib.hid hR; clear hR hn; skip; clear hG; go_simp; exact hR'.out _ (PutIn.refl _ _ _ _))
    case hangs => exact fun _ _ _ => rfl
    case hR => exact fun _ _ => ⟨_, PutIn.refl _ _ _ _⟩
    (try simp only [Act.put, List.setIfInBounds_toArray, List.set_cons_zero, List.set_cons_succ])
    apply line_fix
    case now => (intro vs w' R hG hn hR; have hR' := Lib.hid hR; clear hR hn; skip; clear hG; go_simp; exact hR'.out _ (PutIn.refl _ _ _ _))
    case hangs => exact fun _ _ _ => rfl
    case hR => exact fun _ _ => ⟨_, PutIn.refl _ _ _ _⟩
    (try simp only [Act.put, List.setIfInBounds_toArray, List.set_cons_zero, List.set_cons_succ])
    refine line_last (fun vs W4 hG4 hk => ?_)
    obtain ⟨aG4, _⟩ := hk
    dsimp only at aG4
    have hK4 := Lib.hid hG4.kept
    have e1 := (hG4.cell F 1 lF hFC).trans f1
    have z3 := aG4.cell 3 rfl
    have z3f := aG4.frozen 3
    have HA4 := Lib.hid aG4
    clear hG4 aG4
    go_wp2_with fail
    refine HX.out _ _ _ _ _ _ _ _ _ _ _ _ _ _ _ _ _ _ _ (HA4.out.set 3 (.string x.value)) (hK4.out.setCell (fun _ => rfl) _ _)
  · have HKS := HKS2
    clear HKS1 HKS2
    conv => arg 2; whnf
    refine wp_region_line_any (G := PutIn C 2 (.bool true) w) (E := PutIn C 2 (.bool true)) 18 (by kernel_rfl) (by kernel_rfl) (fun w _ => PutIn.refl _ _ _ _) (fun _ _ h1 h2 => h1.trans h2) (PutIn.drew _ _ _ _) ?_
    apply line_fix
    case now => (intro vs w' R hG hn hR; have hR' := Lib.hid hR; clear hR hn; skip; clear hG; go_simp; exact hR'.out _ (PutIn.refl _ _ _ _))
    case hangs => exact fun _ _ _ => rfl
    case hR => exact fun _ _ => ⟨_, PutIn.refl _ _ _ _⟩
    (try simp only [Act.put, List.setIfInBounds_toArray, List.set_cons_zero, List.set_cons_succ])
    apply line_fix
    case now => (intro vs w' R hG hn hR; have hR' := Lib.hid hR; clear hR hn; skip; clear hG; go_simp; exact hR'.out _ (PutIn.refl _ _ _ _))
    case hangs => exact fun _ _ _ => rfl
    case hR => exact fun _ _ => ⟨_, PutIn.refl _ _ _ _⟩
    (try simp only [Act.put, List.setIfInBounds_toArray, List.set_cons_zero, List.set_cons_succ])
    apply line_fix
    case now => (intro vs w' R hG hn hR; have hR' := Lib.hid hR; clear hR hn; have e1 := (hG.cell F 1 lF hFC).trans f1; clear hG; go_simp; exact hR'.out _ (PutIn.refl _ _ _ _))
    case hangs => exact fun _ _ _ => rfl
    case hR => exact fun _ _ => ⟨_, PutIn.refl _ _ _ _⟩
    (try simp only [Act.put, List.setIfInBounds_toArray, List.set_cons_zero, List.set_cons_succ])
    apply line_fix
    case now => (intro vs w' R hG hn hR; have hR' := Lib.hid hR; clear hR hn; skip; clear hG; go_simp; exact hR'.out _ (PutIn.refl _ _ _ _))
    case hangs => exact fun _ _ _ => rfl
    case hR => exact fun _ _ => ⟨_, PutIn.refl _ _ _ _⟩
    (try simp only [Act.put, List.setIfInBounds_toArray, List.set_cons_zero, List.set_cons_succ])
    apply line_fix
    case now => (intro vs w' R hG hn hR; have hR' := Lib.hid hR; clear hR hn; skip; clear hG; go_simp; exact hR'.out _ (PutIn.refl _ _ _ _))
    case hangs => exact fun _ _ _ => rfl
    case hR => exact fun _ _ => ⟨_, PutIn.refl _ _ _ _⟩
    (try simp only [Act.put, List.setIfInBounds_toArray, List.set_cons_zero, List.set_cons_succ])
    apply line_fix
    case now => (intro vs w' R hG hn hR; have hR' := Lib.hid hR; clear hR hn; have e1 := (hG.cell F 1 lF hFC).trans f1; clear hG; go_simp; exact hR'.out _ (PutIn.refl _ _ _ _))
    case hangs => exact fun _ _ _ => rfl
    case hR => exact fun _ _ => ⟨_, PutIn.refl _ _ _ _⟩
    (try simp only [Act.put, List.setIfInBounds_toArray, List.set_cons_zero, List.set_cons_succ])
    apply line_fix
    case now => (intro vs w' R hG hn hR; have hR' := Lib.hid hR; clear hR hn; skip; clear hG; go_simp; exact hR'.out _ (PutIn.refl _ _ _ _))
    case hangs => exact fun _ _ _ => rfl
    case hR => exact fun _ _ => ⟨_, PutIn.refl _ _ _ _⟩
    (try simp only [Act.put, List.setIfInBounds_toArray, List.set_cons_zero, List.set_cons_succ])
    apply line_fix
    case now => (intro vs w' R hG hn hR; have hR' := Lib.hid hR; clear hR hn; skip; clear hG; go_simp; exact hR'.out _ (PutIn.refl _ _ _ _))
    case hangs => exact fun _ _ _ => rfl
    case hR => exact fun _ _ => ⟨_, PutIn.refl _ _ _ _⟩
    (try simp only [Act.put, List.setIfInBounds_toArray, List.set_cons_zero, List.set_cons_succ])
    apply line_fix
    case now =>
      intro vs w' R hG hn hR
      have hR' := Lib.hid hR
      clear hR hn
      have hS' : RdSt w' AS nS (stOf L) := HKS.out w' hG
      clear hG
      go_simp
      refine (last_any AS nS cS (stOf L) w' hS' hbigS).mono ?_
      rintro e w'' ⟨rfl, hb⟩
      rw [HQ.out]
      exact ⟨_, rfl, hR'.out _ (PutIn.of_below hb)⟩
    case hangs => exact fun _ _ _ => rfl
    case hR => exact fun _ _ => ⟨_, PutIn.refl _ _ _ _⟩
    (try simp only [Act.put, List.setIfInBounds_toArray, List.set_cons_zero, List.set_cons_succ])
    apply line_fix
    case now => (intro vs w' R hG hn hR; have hR' := Lib.hid hR; clear hR hn; skip; clear hG; go_simp; exact hR'.out _ (PutIn.refl _ _ _ _))
    case hangs => exact fun _ _ _ => rfl
    case hR => exact fun _ _ => ⟨_, PutIn.refl _ _ _ _⟩
    (try simp only [Act.put, List.setIfInBounds_toArray, List.set_cons_zero, List.set_cons_succ])
    apply line_fix
    case now => (intro vs w' R hG hn hR; have hR' := Lib.hid hR; clear hR hn; skip; clear hG; go_simp; exact hR'.out _ (PutIn.refl _ _ _ _))
    case hangs => exact fun _ _ _ => rfl
    case hR => exact fun _ _ => ⟨_, PutIn.refl _ _ _ _⟩
    (try simp only [Act.put, List.setIfInBounds_toArray, List.set_cons_zero, List.set_cons_succ])
    apply line_fix
    case now => (intro vs w' R hG hn hR; have hR' := Lib.hid hR; clear hR hn; have e2 := (hG.cell b (o + q * 12 + 11) hlt hbC).trans cv; clear hG; go_simp; exact hR'.out _ (PutIn.refl _ _ _ _))
    case hangs => exact fun _ _ _ => rfl
    case hR => exact fun _ _ => ⟨_, PutIn.refl _ _ _ _⟩
    (try simp only [Act.put, List.setIfInBounds_toArray, List.set_cons_zero, List.set_cons_succ])
    apply line_fix
    case now => (intro vs w' R hG hn hR; have hR' := Lib.hid hR; clear hR hn; skip; clear hG; go_simp; exact hR'.out _ (PutIn.refl _ _ _ _))
    case hangs => exact fun _ _ _ => rfl
    case hR => exact fun _ _ => ⟨_, PutIn.refl _ _ _ _⟩
    (try simp only [Act.put, List.setIfInBounds_toArray, List.set_cons_zero, List.set_cons_succ])
    apply line_fix
    case now => (intro vs w' R hG hn hR; have hR' := Lib.hid hR; clear hR hn; skip; clear hG; go_simp; exact hR'.out _ (PutIn.refl _ _ _ _))
    case hangs => exact fun _ _ _ => rfl
    case hR => exact fun _ _ => ⟨_, PutIn.refl _ _ _ _⟩
    (try simp only [Act.put, List.setIfInBounds_toArray, List.set_cons_zero, List.set_cons_succ])
    apply line_fix
    case now => (intro vs w' R hG hn hR; have hR' := Lib.hid hR; clear hR hn; skip; clear hG; go_simp; exact hR'.out _ (PutIn.refl _ _ _ _))
    case hangs => exact fun _ _ _ => rfl
    case hR => exact fun _ _ => ⟨_, PutIn.refl _ _ _ _⟩
    (try simp only [Act.put, List.setIfInBounds_toArray, List.set_cons_zero, List.set_cons_succ])
    apply line_var (Φ := fun _ _ w => At w C [.string key2, .bool h0, .bool true, .string s0, .string s1, t0, t1])
    case keep => (intro _ _ w w' h hp; rcases hp.hereA h with h1 | h1 <;> exact h1)
    case hangs => exact fun _ _ _ => rfl
    case now =>
      intro vs w' R hG hn hR
      have hR' := Lib.hid hR
      clear hR hn
      have hA : ∃ z, At w' C [.string key2, .bool h0, z, .string s0, .string s1, t0, t1] := by rcases hG.hereA HC.out with h1 | h1 <;> exact ⟨_, h1⟩
      obtain ⟨z, hA⟩ := hA
      have z2 := hA.cell 2 rfl
      have z2f := hA.frozen 2
      refine ⟨rfl, ?_⟩
      go_simp
      exact hR'.out _ _ (hA.set 2 _) PutIn.set
    (try simp only [Act.put, List.setIfInBounds_toArray, List.set_cons_zero, List.set_cons_succ])
    apply line_fix
    case now => (intro vs w' R hG hn hR; have hR' := Lib.hid hR; clear hR hn; skip; clear hG; go_simp; exact hR'.out _ (PutIn.refl _ _ _ _))
    case hangs => exact fun _ _ _ => rfl
    case hR => exact fun _ _ => ⟨_, PutIn.refl _ _ _ _⟩
    (try simp only [Act.put, List.setIfInBounds_toArray, List.set_cons_zero, List.set_cons_succ])
    apply line_fix
    case now => (intro vs w' R hG hn hR; have hR' := Lib.hid hR; clear hR hn; skip; clear hG; go_simp; exact hR'.out _ (PutIn.refl _ _ _ _))
    case hangs => exact fun _ _ _ => rfl
    case hR => exact fun _ _ => ⟨_, PutIn.refl _ _ _ _⟩
    (try simp only [Act.put, List.setIfInBounds_toArray, List.set_cons_zero, List.set_cons_succ])
    refine line_last (fun vs W4 hG4 hk => ?_)
    obtain ⟨aG4, _⟩ := hk
    dsimp only at aG4
    have hK4 := Lib.hid hG4.kept
    have e1 := (hG4.cell F 1 lF hFC).trans f1
    have z3 := aG4.cell 4 rfl
    have z3f := aG4.frozen 4
    have HA4 := Lib.hid aG4
    clear hG4 aG4
    go_wp2_with fail
    refine HX.out _ _ _ _ _ _ _ _ _ _ _ _ _ _ _ _ _ _ _ (HA4.out.set 4 (.string x.value)) (hK4.out.setCell (fun _ => rfl) _ _)
end Go.Proofs.Ytfbpjhhcpockfaa
