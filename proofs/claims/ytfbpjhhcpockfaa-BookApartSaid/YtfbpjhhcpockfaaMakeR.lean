/- Make's regions that draw their order. No condition. -/
import Derived.Test.YtfbpjhhcpockfaaMakePlain
import Derived.Test.YtfbpjhhcpockfaaFit
set_option linter.unusedVariables false
set_option linter.unusedSimpArgs false
namespace Go.Proofs.Ytfbpjhhcpockfaa
open Go.RowKit Go.Shelf Go.Maps
attribute [local go_sem] gives Gives
noncomputable def mkR8 : Code := regOf Try.f10.body 8
noncomputable def mkR10 : Code := regOf Try.f10.body 10
noncomputable def mkR11 : Code := regOf Try.f10.body 11
theorem five_cells {w : World} {HB : Nat} {H : Nat → Nat → Int} (h : At w HB (hCells H)) {q : Nat} (hq : q < 5) :
    w.cell? ⟨HB, q * 5, none⟩ = some (.int .i64 (H q 0)) ∧ w.cell? ⟨HB, q * 5 + 1, none⟩ = some (.int .i64 (H q 1)) ∧ w.cell? ⟨HB, q * 5 + 2, none⟩ = some (.int .i64 (H q 2)) ∧ w.cell? ⟨HB, q * 5 + 3, none⟩ = some (.int .i64 (H q 3)) ∧ w.cell? ⟨HB, q * 5 + 4, none⟩ = some (.int .i64 (H q 4)) :=
  ⟨h.cell _ (by have := hCells_at H hq (show 0 < 5 by decide); rwa [Nat.add_zero] at this), h.cell _ (hCells_at H hq (by decide)), h.cell _ (hCells_at H hq (by decide)), h.cell _ (hCells_at H hq (by decide)), h.cell _ (hCells_at H hq (by decide))⟩
set_option maxRecDepth 100000 in
set_option maxHeartbeats 4000000 in
theorem mk_r8 (Q : Exit → Act → World → Prop) (A : Option Addr) (n c HB j q : Nat) (L : List Cho) (x : Cho) (H : Nat → Nat → Int) (w : World) (u1 u2 u3 u7 u8 u9 u10 u11 u12 u13 u14 u15 u16 u17 u18 u19 u20 u21 u22 u23 u24 u25 u26 u27 u28 u29 u30 u31 u32 u33 u34 u35 u36 u37 u38 u39 u40 u41 u42 u43 u44 u45 u46 u47 u48 u49 u50 u51 u52 u53 u54 u55 u56 u57 u58 u59 u60 u61 u62 u63 u64 u65 u66 u67 u68 u69 u70 u71 u72 u73 u74 u75 u76 u77 u78 u79 u80 u81 u82 u83 u84 u85 u86 : Value)
    (hR : RdCh w A n L) (hx : L[j]? = some x) (hf : x.f < 256) (hj : j < n) (hn : n ≤ 1000000000) (hH : At w HB (hCells H)) (hq : q < 5)
    (hexit : ∀ (x28 x29 x30 x31 x32 x33 x34 x35 x36 x37 x38 x39 x40 x41 x42 : Value) (w' : World), At w' HB (hCells (setRow H q (joinF (H q) (H (x.f % 5))))) → Kept (· = HB) w w' →
      Q .normal ⟨(List.toArray (.slice A n c :: u1 :: u2 :: u3 :: .pointer (some ⟨HB, 0, none⟩) :: .int .i64 j :: .int .i64 q :: u7 :: u8 :: u9 :: u10 :: u11 :: u12 :: u13 :: u14 :: u15 :: u16 :: u17 :: u18 :: u19 :: u20 :: u21 :: u22 :: u23 :: u24 :: u25 :: u26 :: u27 :: x28 :: x29 :: x30 :: x31 :: x32 :: x33 :: x34 :: x35 :: x36 :: x37 :: x38 :: x39 :: x40 :: x41 :: x42 :: u43 :: u44 :: u45 :: u46 :: u47 :: u48 :: u49 :: u50 :: u51 :: u52 :: u53 :: u54 :: u55 :: u56 :: u57 :: u58 :: u59 :: u60 :: u61 :: u62 :: u63 :: u64 :: u65 :: u66 :: u67 :: u68 :: u69 :: u70 :: u71 :: u72 :: u73 :: u74 :: u75 :: u76 :: u77 :: u78 :: u79 :: u80 :: u81 :: u82 :: u83 :: u84 :: u85 :: u86 :: [])), []⟩ w') :
    Code.wp Try.prog mkR8 Q ⟨(List.toArray (.slice A n c :: u1 :: u2 :: u3 :: .pointer (some ⟨HB, 0, none⟩) :: .int .i64 j :: .int .i64 q :: u7 :: u8 :: u9 :: u10 :: u11 :: u12 :: u13 :: u14 :: u15 :: u16 :: u17 :: u18 :: u19 :: u20 :: u21 :: u22 :: u23 :: u24 :: u25 :: u26 :: u27 :: u28 :: u29 :: u30 :: u31 :: u32 :: u33 :: u34 :: u35 :: u36 :: u37 :: u38 :: u39 :: u40 :: u41 :: u42 :: u43 :: u44 :: u45 :: u46 :: u47 :: u48 :: u49 :: u50 :: u51 :: u52 :: u53 :: u54 :: u55 :: u56 :: u57 :: u58 :: u59 :: u60 :: u61 :: u62 :: u63 :: u64 :: u65 :: u66 :: u67 :: u68 :: u69 :: u70 :: u71 :: u72 :: u73 :: u74 :: u75 :: u76 :: u77 :: u78 :: u79 :: u80 :: u81 :: u82 :: u83 :: u84 :: u85 :: u86 :: [])), []⟩ w := by
  conv => arg 2; whnf
  obtain ⟨p, hp⟩ : ∃ p, p = x.f % 5 := ⟨_, rfl⟩
  have hp5 : p < 5 := by omega
  obtain ⟨b, o, hA, hlt, hcc⟩ := hR.at_ j x hx
  subst hA
  have v1 : w.cell? ⟨b, o + j * 7 + 1, none⟩ = some (.int .u8 x.f) := hcc 1 _ rfl
  obtain ⟨a0, a1, a2, a3, a4⟩ := five_cells hH hq
  obtain ⟨b0, b1, b2, b3, b4⟩ := five_cells hH hp5
  have lH := hH.lt
  have HX := Lib.hid hexit
  have HH := Lib.hid hH
  have hwf : IntKind.i64.wrap (x.f : Int) = (x.f : Int) := IntWalk.i64_in _ (by omega)
  have hpf : (x.f : Int).tmod 5 = (p : Int) := by rw [Int.tmod_eq_emod_of_nonneg (by omega)]; omega
  have HJ := Lib.hid (fun W => join_any (H q) (H p) W)
  rw [← hp] at HX
  have hrc := regrown_cell w
  have hqi : (q : Int) < 5 := by omega
  have hpi : (p : Int) < 5 := by omega
  have hji : (j : Int) < (n : Int) := by omega
  clear hcc hR hx hH hexit hp
  refine wp_region_line 15 (by kernel_rfl) (by kernel_rfl) ?_
  apply line_fix
  case now => (intro vs w' R hG hn hR; have hR' := Lib.hid hR; clear hR hn; obtain ⟨⟨dq, osq⟩, rfl⟩ := regrown_of_below hG; clear hG; go_simp; exact hR'.out _ (Below.refl _ _))
  case hangs => exact fun _ _ _ => rfl
  case hR => exact fun _ _ => ⟨_, Below.refl _ _⟩
  (try simp only [Act.put, List.setIfInBounds_toArray, List.set_cons_zero, List.set_cons_succ])
  apply line_fix
  case now => (intro vs w' R hG hn hR; have hR' := Lib.hid hR; clear hR hn; obtain ⟨⟨dq, osq⟩, rfl⟩ := regrown_of_below hG; clear hG; go_simp; exact hR'.out _ (Below.refl _ _))
  case hangs => exact fun _ _ _ => rfl
  case hR => exact fun _ _ => ⟨_, Below.refl _ _⟩
  (try simp only [Act.put, List.setIfInBounds_toArray, List.set_cons_zero, List.set_cons_succ])
  apply line_fix
  case now => (intro vs w' R hG hn hR; have hR' := Lib.hid hR; clear hR hn; obtain ⟨⟨dq, osq⟩, rfl⟩ := regrown_of_below hG; clear hG; go_simp; exact hR'.out _ (Below.refl _ _))
  case hangs => exact fun _ _ _ => rfl
  case hR => exact fun _ _ => ⟨_, Below.refl _ _⟩
  (try simp only [Act.put, List.setIfInBounds_toArray, List.set_cons_zero, List.set_cons_succ])
  apply line_fix
  case now => (intro vs w' R hG hn hR; have hR' := Lib.hid hR; clear hR hn; obtain ⟨⟨dq, osq⟩, rfl⟩ := regrown_of_below hG; clear hG; go_simp; exact hR'.out _ (Below.refl _ _))
  case hangs => exact fun _ _ _ => rfl
  case hR => exact fun _ _ => ⟨_, Below.refl _ _⟩
  (try simp only [Act.put, List.setIfInBounds_toArray, List.set_cons_zero, List.set_cons_succ])
  apply line_fix
  case now => (intro vs w' R hG hn hR; have hR' := Lib.hid hR; clear hR hn; obtain ⟨⟨dq, osq⟩, rfl⟩ := regrown_of_below hG; clear hG; go_simp; exact hR'.out _ (Below.refl _ _))
  case hangs => exact fun _ _ _ => rfl
  case hR => exact fun _ _ => ⟨_, Below.refl _ _⟩
  (try simp only [Act.put, List.setIfInBounds_toArray, List.set_cons_zero, List.set_cons_succ])
  apply line_fix
  case now => (intro vs w' R hG hn hR; have hR' := Lib.hid hR; clear hR hn; obtain ⟨⟨dq, osq⟩, rfl⟩ := regrown_of_below hG; clear hG; go_simp; exact hR'.out _ (Below.refl _ _))
  case hangs => exact fun _ _ _ => rfl
  case hR => exact fun _ _ => ⟨_, Below.refl _ _⟩
  (try simp only [Act.put, List.setIfInBounds_toArray, List.set_cons_zero, List.set_cons_succ])
  apply line_fix
  case now => (intro vs w' R hG hn hR; have hR' := Lib.hid hR; clear hR hn; obtain ⟨⟨dq, osq⟩, rfl⟩ := regrown_of_below hG; clear hG; go_simp; exact hR'.out _ (Below.refl _ _))
  case hangs => exact fun _ _ _ => rfl
  case hR => exact fun _ _ => ⟨_, Below.refl _ _⟩
  (try simp only [Act.put, List.setIfInBounds_toArray, List.set_cons_zero, List.set_cons_succ])
  apply line_fix
  case now => (intro vs w' R hG hn hR; have hR' := Lib.hid hR; clear hR hn; obtain ⟨⟨dq, osq⟩, rfl⟩ := regrown_of_below hG; clear hG; go_simp; exact hR'.out _ (Below.refl _ _))
  case hangs => exact fun _ _ _ => rfl
  case hR => exact fun _ _ => ⟨_, Below.refl _ _⟩
  (try simp only [Act.put, List.setIfInBounds_toArray, List.set_cons_zero, List.set_cons_succ])
  apply line_fix
  case now => (intro vs w' R hG hn hR; have hR' := Lib.hid hR; clear hR hn; obtain ⟨⟨dq, osq⟩, rfl⟩ := regrown_of_below hG; clear hG; go_simp; exact hR'.out _ (Below.refl _ _))
  case hangs => exact fun _ _ _ => rfl
  case hR => exact fun _ _ => ⟨_, Below.refl _ _⟩
  (try simp only [Act.put, List.setIfInBounds_toArray, List.set_cons_zero, List.set_cons_succ])
  apply line_fix
  case now => (intro vs w' R hG hn hR; have hR' := Lib.hid hR; clear hR hn; obtain ⟨⟨dq, osq⟩, rfl⟩ := regrown_of_below hG; clear hG; go_simp; exact hR'.out _ (Below.refl _ _))
  case hangs => exact fun _ _ _ => rfl
  case hR => exact fun _ _ => ⟨_, Below.refl _ _⟩
  (try simp only [Act.put, List.setIfInBounds_toArray, List.set_cons_zero, List.set_cons_succ])
  apply line_fix
  case now => (intro vs w' R hG hn hR; have hR' := Lib.hid hR; clear hR hn; obtain ⟨⟨dq, osq⟩, rfl⟩ := regrown_of_below hG; clear hG; go_simp; exact hR'.out _ (Below.refl _ _))
  case hangs => exact fun _ _ _ => rfl
  case hR => exact fun _ _ => ⟨_, Below.refl _ _⟩
  (try simp only [Act.put, List.setIfInBounds_toArray, List.set_cons_zero, List.set_cons_succ])
  apply line_fix
  case now => (intro vs w' R hG hn hR; have hR' := Lib.hid hR; clear hR hn; obtain ⟨⟨dq, osq⟩, rfl⟩ := regrown_of_below hG; clear hG; go_simp; exact hR'.out _ (Below.refl _ _))
  case hangs => exact fun _ _ _ => rfl
  case hR => exact fun _ _ => ⟨_, Below.refl _ _⟩
  (try simp only [Act.put, List.setIfInBounds_toArray, List.set_cons_zero, List.set_cons_succ])
  apply line_fix
  case now => (intro vs w' R hG hn hR; have hR' := Lib.hid hR; clear hR hn; obtain ⟨⟨dq, osq⟩, rfl⟩ := regrown_of_below hG; clear hG; go_simp; exact hR'.out _ (Below.refl _ _))
  case hangs => exact fun _ _ _ => rfl
  case hR => exact fun _ _ => ⟨_, Below.refl _ _⟩
  (try simp only [Act.put, List.setIfInBounds_toArray, List.set_cons_zero, List.set_cons_succ])
  apply line_fix
  case now => (intro vs w' R hG hn hR; have hR' := Lib.hid hR; have hn' := Lib.hid hn; clear hR hn; replace hG : Below _ _ _ := hG; skip; go_simp; refine (HJ.out _).mono ?_; rintro e w'' ⟨rfl, hb⟩; exact ⟨_, rfl, hR'.out _ hb⟩)
  case hangs => exact fun _ _ _ => rfl
  case hR => exact fun _ _ => ⟨_, Below.refl _ _⟩
  (try simp only [Act.put, List.setIfInBounds_toArray, List.set_cons_zero, List.set_cons_succ])
  apply line_fix
  case now => (intro vs w' R hG hn hR; have hR' := Lib.hid hR; clear hR hn; obtain ⟨⟨dq, osq⟩, rfl⟩ := regrown_of_below hG; clear hG; go_simp; exact hR'.out _ (Below.refl _ _))
  case hangs => exact fun _ _ _ => rfl
  case hR => exact fun _ _ => ⟨_, Below.refl _ _⟩
  (try simp only [Act.put, List.setIfInBounds_toArray, List.set_cons_zero, List.set_cons_succ])
  refine line_last (fun vs W9 hG9 _ => ?_)
  replace hG9 : Below _ _ _ := hG9
  have h9 := HH.out.next hG9
  have hb9 := below_next (Below.refl _ _) hG9
  have HA9 := Lib.hid h9
  have HB9 := Lib.hid hb9
  obtain ⟨d0, d1, d2, d3, d4⟩ := five_cells h9 hq
  have f0 := h9.frozen (q * 5)
  have f1 := h9.frozen (q * 5 + 1)
  have f2 := h9.frozen (q * 5 + 2)
  have f3 := h9.frozen (q * 5 + 3)
  have f4 := h9.frozen (q * 5 + 4)
  unfold clkV
  clear hG9 h9 hb9 a0 a1 a2 a3 a4 b0 b1 b2 b3 b4 hrc
  go_wp2_with fail
  refine HX.out _ _ _ _ _ _ _ _ _ _ _ _ _ _ _ _ ?_ ?_
  · have h5 := ((((HA9.out.set (q * 5) (.int .i64 (joinF (H q) (H p) 0))).set (q * 5 + 1) (.int .i64 (joinF (H q) (H p) 1))).set (q * 5 + 2) (.int .i64 (joinF (H q) (H p) 2))).set (q * 5 + 3) (.int .i64 (joinF (H q) (H p) 3))).set (q * 5 + 4) (.int .i64 (joinF (H q) (H p) 4))
    rw [set_five H hq] at h5
    exact h5
  · exact (((((Kept.of_below (· = HB) HB9.out).setCell (fun _ => rfl) _ _).setCell (fun _ => rfl) _ _).setCell (fun _ => rfl) _ _).setCell (fun _ => rfl) _ _).setCell (fun _ => rfl) _ _
set_option maxRecDepth 100000 in
set_option maxHeartbeats 4000000 in
theorem mk_r11 (Q : Exit → Act → World → Prop) (HB q : Nat) (H : Nat → Nat → Int) (w : World) (u0 u1 u2 u3 u5 u7 u8 u9 u10 u11 u12 u13 u14 u15 u16 u17 u18 u19 u20 u21 u22 u23 u24 u25 u26 u27 u28 u29 u30 u31 u32 u33 u34 u35 u36 u37 u38 u39 u40 u41 u42 u43 u44 u45 u46 u47 u48 u49 u50 u51 u52 u53 u54 u55 u56 u57 u58 u59 u60 u61 u62 u63 u64 u65 u66 u67 u68 u69 u70 u71 u72 u73 u74 u75 u76 u77 u78 u79 u80 u81 u82 u83 u84 u85 u86 : Value)
    (hH : At w HB (hCells H)) (hq : q < 5) (hb : 0 ≤ H q q ∧ H q q ≤ 1000000000)
    (hexit : ∀ (x76 x77 x78 x79 x80 x81 x82 x83 x84 x85 : Value) (w' : World), At w' HB (hCells (setOne H q q (H q q + 1))) → Kept (· = HB) w w' →
      Q .normal ⟨(List.toArray (u0 :: u1 :: u2 :: u3 :: .pointer (some ⟨HB, 0, none⟩) :: u5 :: .int .i64 q :: u7 :: u8 :: u9 :: u10 :: u11 :: u12 :: u13 :: u14 :: u15 :: u16 :: u17 :: u18 :: u19 :: u20 :: u21 :: u22 :: u23 :: u24 :: u25 :: u26 :: u27 :: u28 :: u29 :: u30 :: u31 :: u32 :: u33 :: u34 :: u35 :: u36 :: u37 :: u38 :: u39 :: u40 :: u41 :: u42 :: u43 :: u44 :: u45 :: u46 :: u47 :: u48 :: u49 :: u50 :: u51 :: u52 :: u53 :: u54 :: u55 :: u56 :: u57 :: u58 :: u59 :: u60 :: u61 :: u62 :: u63 :: u64 :: u65 :: u66 :: u67 :: u68 :: u69 :: u70 :: u71 :: u72 :: u73 :: u74 :: u75 :: x76 :: x77 :: x78 :: x79 :: x80 :: x81 :: x82 :: x83 :: x84 :: x85 :: u86 :: [])), []⟩ w') :
    Code.wp Try.prog mkR11 Q ⟨(List.toArray (u0 :: u1 :: u2 :: u3 :: .pointer (some ⟨HB, 0, none⟩) :: u5 :: .int .i64 q :: u7 :: u8 :: u9 :: u10 :: u11 :: u12 :: u13 :: u14 :: u15 :: u16 :: u17 :: u18 :: u19 :: u20 :: u21 :: u22 :: u23 :: u24 :: u25 :: u26 :: u27 :: u28 :: u29 :: u30 :: u31 :: u32 :: u33 :: u34 :: u35 :: u36 :: u37 :: u38 :: u39 :: u40 :: u41 :: u42 :: u43 :: u44 :: u45 :: u46 :: u47 :: u48 :: u49 :: u50 :: u51 :: u52 :: u53 :: u54 :: u55 :: u56 :: u57 :: u58 :: u59 :: u60 :: u61 :: u62 :: u63 :: u64 :: u65 :: u66 :: u67 :: u68 :: u69 :: u70 :: u71 :: u72 :: u73 :: u74 :: u75 :: u76 :: u77 :: u78 :: u79 :: u80 :: u81 :: u82 :: u83 :: u84 :: u85 :: u86 :: [])), []⟩ w := by
  conv => arg 2; whnf
  have a0 : w.cell? ⟨HB, q * 5 + q, none⟩ = some (.int .i64 (H q q)) := hH.cell _ (hCells_at H hq hq)
  have lH := hH.lt
  have HX := Lib.hid hexit
  have HH := Lib.hid hH
  have hwf : IntKind.i64.wrap (H q q + 1) = H q q + 1 := IntWalk.i64_in _ (by omega)
  have hrc := regrown_cell w
  have hqi : (q : Int) < 5 := by omega
  clear hH hexit
  refine wp_region_line 10 (by kernel_rfl) (by kernel_rfl) ?_
  apply line_fix
  case now => (intro vs w' R hG hn hR; have hR' := Lib.hid hR; clear hR hn; obtain ⟨⟨dq, osq⟩, rfl⟩ := regrown_of_below hG; clear hG; go_simp; exact hR'.out _ (Below.refl _ _))
  case hangs => exact fun _ _ _ => rfl
  case hR => exact fun _ _ => ⟨_, Below.refl _ _⟩
  (try simp only [Act.put, List.setIfInBounds_toArray, List.set_cons_zero, List.set_cons_succ])
  apply line_fix
  case now => (intro vs w' R hG hn hR; have hR' := Lib.hid hR; clear hR hn; obtain ⟨⟨dq, osq⟩, rfl⟩ := regrown_of_below hG; clear hG; go_simp; exact hR'.out _ (Below.refl _ _))
  case hangs => exact fun _ _ _ => rfl
  case hR => exact fun _ _ => ⟨_, Below.refl _ _⟩
  (try simp only [Act.put, List.setIfInBounds_toArray, List.set_cons_zero, List.set_cons_succ])
  apply line_fix
  case now => (intro vs w' R hG hn hR; have hR' := Lib.hid hR; clear hR hn; obtain ⟨⟨dq, osq⟩, rfl⟩ := regrown_of_below hG; clear hG; go_simp; exact hR'.out _ (Below.refl _ _))
  case hangs => exact fun _ _ _ => rfl
  case hR => exact fun _ _ => ⟨_, Below.refl _ _⟩
  (try simp only [Act.put, List.setIfInBounds_toArray, List.set_cons_zero, List.set_cons_succ])
  apply line_fix
  case now => (intro vs w' R hG hn hR; have hR' := Lib.hid hR; clear hR hn; obtain ⟨⟨dq, osq⟩, rfl⟩ := regrown_of_below hG; clear hG; go_simp; exact hR'.out _ (Below.refl _ _))
  case hangs => exact fun _ _ _ => rfl
  case hR => exact fun _ _ => ⟨_, Below.refl _ _⟩
  (try simp only [Act.put, List.setIfInBounds_toArray, List.set_cons_zero, List.set_cons_succ])
  apply line_fix
  case now => (intro vs w' R hG hn hR; have hR' := Lib.hid hR; clear hR hn; obtain ⟨⟨dq, osq⟩, rfl⟩ := regrown_of_below hG; clear hG; go_simp; exact hR'.out _ (Below.refl _ _))
  case hangs => exact fun _ _ _ => rfl
  case hR => exact fun _ _ => ⟨_, Below.refl _ _⟩
  (try simp only [Act.put, List.setIfInBounds_toArray, List.set_cons_zero, List.set_cons_succ])
  apply line_fix
  case now => (intro vs w' R hG hn hR; have hR' := Lib.hid hR; clear hR hn; obtain ⟨⟨dq, osq⟩, rfl⟩ := regrown_of_below hG; clear hG; go_simp; exact hR'.out _ (Below.refl _ _))
  case hangs => exact fun _ _ _ => rfl
  case hR => exact fun _ _ => ⟨_, Below.refl _ _⟩
  (try simp only [Act.put, List.setIfInBounds_toArray, List.set_cons_zero, List.set_cons_succ])
  apply line_fix
  case now => (intro vs w' R hG hn hR; have hR' := Lib.hid hR; clear hR hn; obtain ⟨⟨dq, osq⟩, rfl⟩ := regrown_of_below hG; clear hG; go_simp; exact hR'.out _ (Below.refl _ _))
  case hangs => exact fun _ _ _ => rfl
  case hR => exact fun _ _ => ⟨_, Below.refl _ _⟩
  (try simp only [Act.put, List.setIfInBounds_toArray, List.set_cons_zero, List.set_cons_succ])
  apply line_fix
  case now => (intro vs w' R hG hn hR; have hR' := Lib.hid hR; clear hR hn; obtain ⟨⟨dq, osq⟩, rfl⟩ := regrown_of_below hG; clear hG; go_simp; exact hR'.out _ (Below.refl _ _))
  case hangs => exact fun _ _ _ => rfl
  case hR => exact fun _ _ => ⟨_, Below.refl _ _⟩
  (try simp only [Act.put, List.setIfInBounds_toArray, List.set_cons_zero, List.set_cons_succ])
  apply line_fix
  case now => (intro vs w' R hG hn hR; have hR' := Lib.hid hR; clear hR hn; obtain ⟨⟨dq, osq⟩, rfl⟩ := regrown_of_below hG; clear hG; go_simp; exact hR'.out _ (Below.refl _ _))
  case hangs => exact fun _ _ _ => rfl
  case hR => exact fun _ _ => ⟨_, Below.refl _ _⟩
  (try simp only [Act.put, List.setIfInBounds_toArray, List.set_cons_zero, List.set_cons_succ])
  apply line_fix
  case now => (intro vs w' R hG hn hR; have hR' := Lib.hid hR; clear hR hn; obtain ⟨⟨dq, osq⟩, rfl⟩ := regrown_of_below hG; clear hG; go_simp; exact hR'.out _ (Below.refl _ _))
  case hangs => exact fun _ _ _ => rfl
  case hR => exact fun _ _ => ⟨_, Below.refl _ _⟩
  (try simp only [Act.put, List.setIfInBounds_toArray, List.set_cons_zero, List.set_cons_succ])
  refine line_last (fun vs W9 hG9 _ => ?_)
  replace hG9 : Below _ _ _ := hG9
  have h9 := HH.out.next hG9
  have HA9 := Lib.hid h9
  have HB9 := Lib.hid (below_next (Below.refl _ _) hG9)
  have d0 : W9.cell? ⟨HB, q * 5 + q, none⟩ = some (.int .i64 (H q q)) := h9.cell _ (hCells_at H hq hq)
  have f0 := h9.frozen (q * 5 + q)
  clear hG9 h9 a0 hrc
  go_wp2_with fail
  refine HX.out _ _ _ _ _ _ _ _ _ _ _ ?_ ?_
  · have h5 := HA9.out.set (q * 5 + q) (.int .i64 (H q q + 1))
    rw [set_one H hq hq] at h5
    exact h5
  · exact (Kept.of_below (· = HB) HB9.out).setCell (fun _ => rfl) _ _
set_option maxRecDepth 100000 in
set_option maxHeartbeats 4000000 in
theorem mk_r10 (Q : Exit → Act → World → Prop) (A : Option Addr) (m cc base HB E q : Nat) (out : List Ev) (H : Nat → Nat → Int) (x : Cho) (w : World) (u0 u1 u2 u5 u8 u9 u10 u11 u12 u13 u14 u15 u16 u17 u18 u19 u20 u21 u22 u23 u24 u25 u26 u27 u28 u29 u30 u31 u32 u33 u34 u35 u36 u37 u38 u39 u40 u41 u42 u43 u44 u45 u46 u47 u48 u49 u50 u51 u52 u53 u54 u55 u56 u57 u58 u59 u60 u61 u62 u63 u64 u65 u66 u67 u68 u69 u70 u71 u72 u73 u74 u75 u76 u77 u78 u79 u80 u81 u82 u83 u84 u85 u86 : Value)
    (hO : w.ownsRow base 35 12 (.slice A m cc) m (evCells out)) (hlen : out.length = m) (hm : m ≤ 1000000000) (hbase : base ≤ w.heap.size) (hht : ∀ x ∈ out, 0 ≤ x.height ∧ x.height ≤ 1000000000)
    (hH : At w HB (hCells H)) (hE : At w E [.int .i64 (fitKind x.kind), .string (fitKey x.key), .int .i64 (fitLabel x.kind x.label), .string (fitValue x.kind x.value)]) (hq : q < 5) (hb : 0 ≤ H q q ∧ H q q ≤ 1000000000)
    (hexit : ∀ (x49 x50 x51 x52 x53 x54 x55 x56 x57 x58 x59 x60 x61 x62 x63 x64 x65 x66 x67 x68 x69 x70 x71 x72 x73 x74 x75 v : Value) (w' : World), w'.ownsRow base 35 12 v (m + 1) (evCells (out ++ [evOf out H q x])) → Kept (fun i => (Value.slice A m cc).ownBlock = some i) w w' → (∀ g, v.ownBlock = some g → (Value.slice A m cc).ownBlock = some g ∨ w.heap.size ≤ g) →
      Q .normal ⟨(List.toArray (u0 :: u1 :: u2 :: v :: .pointer (some ⟨HB, 0, none⟩) :: u5 :: .int .i64 q :: .pointer (some ⟨E, 0, none⟩) :: u8 :: u9 :: u10 :: u11 :: u12 :: u13 :: u14 :: u15 :: u16 :: u17 :: u18 :: u19 :: u20 :: u21 :: u22 :: u23 :: u24 :: u25 :: u26 :: u27 :: u28 :: u29 :: u30 :: u31 :: u32 :: u33 :: u34 :: u35 :: u36 :: u37 :: u38 :: u39 :: u40 :: u41 :: u42 :: u43 :: u44 :: u45 :: u46 :: u47 :: u48 :: x49 :: x50 :: x51 :: x52 :: x53 :: x54 :: x55 :: x56 :: x57 :: x58 :: x59 :: x60 :: x61 :: x62 :: x63 :: x64 :: x65 :: x66 :: x67 :: x68 :: x69 :: x70 :: x71 :: x72 :: x73 :: x74 :: x75 :: u76 :: u77 :: u78 :: u79 :: u80 :: u81 :: u82 :: u83 :: u84 :: u85 :: u86 :: [])), []⟩ w') :
    Code.wp Try.prog mkR10 Q ⟨(List.toArray (u0 :: u1 :: u2 :: .slice A m cc :: .pointer (some ⟨HB, 0, none⟩) :: u5 :: .int .i64 q :: .pointer (some ⟨E, 0, none⟩) :: u8 :: u9 :: u10 :: u11 :: u12 :: u13 :: u14 :: u15 :: u16 :: u17 :: u18 :: u19 :: u20 :: u21 :: u22 :: u23 :: u24 :: u25 :: u26 :: u27 :: u28 :: u29 :: u30 :: u31 :: u32 :: u33 :: u34 :: u35 :: u36 :: u37 :: u38 :: u39 :: u40 :: u41 :: u42 :: u43 :: u44 :: u45 :: u46 :: u47 :: u48 :: u49 :: u50 :: u51 :: u52 :: u53 :: u54 :: u55 :: u56 :: u57 :: u58 :: u59 :: u60 :: u61 :: u62 :: u63 :: u64 :: u65 :: u66 :: u67 :: u68 :: u69 :: u70 :: u71 :: u72 :: u73 :: u74 :: u75 :: u76 :: u77 :: u78 :: u79 :: u80 :: u81 :: u82 :: u83 :: u84 :: u85 :: u86 :: [])), []⟩ w := by
  conv => arg 2; whnf
  obtain ⟨A', c', e, _, hRd⟩ := Rd.own hO
  injection e with e1 e2 e3
  subst e1 e3
  have HE := Lib.hid (fun (W : World) (h : Below w.heap.size w W) => height_any A m cc out (H q) W ⟨hlen, hRd.below h⟩ hm hht)
  obtain ⟨a0, a1, a2, a3, a4⟩ := five_cells hH hq
  have aq : w.cell? ⟨HB, q * 5 + q, none⟩ = some (.int .i64 (H q q)) := hH.cell _ (hCells_at H hq hq)
  have lH := hH.lt
  have lE := hE.lt
  have z0 := hE.cell 0 rfl
  have z1 := hE.cell 1 rfl
  have z2 := hE.cell 2 rfl
  have z3 := hE.cell 3 rfl
  have HX := Lib.hid hexit
  have HO := Lib.hid hO
  have hwf : IntKind.i64.wrap (H q q + 1) = H q q + 1 := IntWalk.i64_in _ (by omega)
  have hrc := regrown_cell w
  have hqi : (q : Int) < 5 := by omega
  have HEV := Lib.hid (show evOf out H q x = ⟨q, H q q + 1, H q 0, H q 1, H q 2, H q 3, H q 4, heightR (H q) out, fitKind x.kind, fitKey x.key, fitLabel x.kind x.label, fitValue x.kind x.value⟩ from rfl)
  generalize fitKind x.kind = k1 at *
  generalize fitKey x.key = k2 at *
  generalize fitLabel x.kind x.label = k3' at *
  generalize fitValue x.kind x.value = k4' at *
  clear hH hexit hE hRd hO hht
  refine wp_region_line 26 (by kernel_rfl) (by kernel_rfl) ?_
  apply line_fix
  case now => (intro vs w' R hG hn hR; have hR' := Lib.hid hR; clear hR hn; obtain ⟨⟨dq, osq⟩, rfl⟩ := regrown_of_below hG; clear hG; go_simp; exact hR'.out _ (Below.refl _ _))
  case hangs => exact fun _ _ _ => rfl
  case hR => exact fun _ _ => ⟨_, Below.refl _ _⟩
  (try simp only [Act.put, List.setIfInBounds_toArray, List.set_cons_zero, List.set_cons_succ])
  apply line_fix
  case now => (intro vs w' R hG hn hR; have hR' := Lib.hid hR; clear hR hn; obtain ⟨⟨dq, osq⟩, rfl⟩ := regrown_of_below hG; clear hG; go_simp; exact hR'.out _ (Below.refl _ _))
  case hangs => exact fun _ _ _ => rfl
  case hR => exact fun _ _ => ⟨_, Below.refl _ _⟩
  (try simp only [Act.put, List.setIfInBounds_toArray, List.set_cons_zero, List.set_cons_succ])
  apply line_fix
  case now => (intro vs w' R hG hn hR; have hR' := Lib.hid hR; clear hR hn; obtain ⟨⟨dq, osq⟩, rfl⟩ := regrown_of_below hG; clear hG; go_simp; exact hR'.out _ (Below.refl _ _))
  case hangs => exact fun _ _ _ => rfl
  case hR => exact fun _ _ => ⟨_, Below.refl _ _⟩
  (try simp only [Act.put, List.setIfInBounds_toArray, List.set_cons_zero, List.set_cons_succ])
  apply line_fix
  case now => (intro vs w' R hG hn hR; have hR' := Lib.hid hR; clear hR hn; obtain ⟨⟨dq, osq⟩, rfl⟩ := regrown_of_below hG; clear hG; go_simp; exact hR'.out _ (Below.refl _ _))
  case hangs => exact fun _ _ _ => rfl
  case hR => exact fun _ _ => ⟨_, Below.refl _ _⟩
  (try simp only [Act.put, List.setIfInBounds_toArray, List.set_cons_zero, List.set_cons_succ])
  apply line_fix
  case now => (intro vs w' R hG hn hR; have hR' := Lib.hid hR; clear hR hn; obtain ⟨⟨dq, osq⟩, rfl⟩ := regrown_of_below hG; clear hG; go_simp; exact hR'.out _ (Below.refl _ _))
  case hangs => exact fun _ _ _ => rfl
  case hR => exact fun _ _ => ⟨_, Below.refl _ _⟩
  (try simp only [Act.put, List.setIfInBounds_toArray, List.set_cons_zero, List.set_cons_succ])
  apply line_fix
  case now => (intro vs w' R hG hn hR; have hR' := Lib.hid hR; clear hR hn; obtain ⟨⟨dq, osq⟩, rfl⟩ := regrown_of_below hG; clear hG; go_simp; exact hR'.out _ (Below.refl _ _))
  case hangs => exact fun _ _ _ => rfl
  case hR => exact fun _ _ => ⟨_, Below.refl _ _⟩
  (try simp only [Act.put, List.setIfInBounds_toArray, List.set_cons_zero, List.set_cons_succ])
  apply line_fix
  case now => (intro vs w' R hG hn hR; have hR' := Lib.hid hR; clear hR hn; obtain ⟨⟨dq, osq⟩, rfl⟩ := regrown_of_below hG; clear hG; go_simp; exact hR'.out _ (Below.refl _ _))
  case hangs => exact fun _ _ _ => rfl
  case hR => exact fun _ _ => ⟨_, Below.refl _ _⟩
  (try simp only [Act.put, List.setIfInBounds_toArray, List.set_cons_zero, List.set_cons_succ])
  apply line_fix
  case now => (intro vs w' R hG hn hR; have hR' := Lib.hid hR; clear hR hn; obtain ⟨⟨dq, osq⟩, rfl⟩ := regrown_of_below hG; clear hG; go_simp; exact hR'.out _ (Below.refl _ _))
  case hangs => exact fun _ _ _ => rfl
  case hR => exact fun _ _ => ⟨_, Below.refl _ _⟩
  (try simp only [Act.put, List.setIfInBounds_toArray, List.set_cons_zero, List.set_cons_succ])
  apply line_fix
  case now => (intro vs w' R hG hn hR; have hR' := Lib.hid hR; clear hR hn; obtain ⟨⟨dq, osq⟩, rfl⟩ := regrown_of_below hG; clear hG; go_simp; exact hR'.out _ (Below.refl _ _))
  case hangs => exact fun _ _ _ => rfl
  case hR => exact fun _ _ => ⟨_, Below.refl _ _⟩
  (try simp only [Act.put, List.setIfInBounds_toArray, List.set_cons_zero, List.set_cons_succ])
  apply line_fix
  case now => (intro vs w' R hG hn hR; have hR' := Lib.hid hR; clear hR hn; obtain ⟨⟨dq, osq⟩, rfl⟩ := regrown_of_below hG; clear hG; go_simp; exact hR'.out _ (Below.refl _ _))
  case hangs => exact fun _ _ _ => rfl
  case hR => exact fun _ _ => ⟨_, Below.refl _ _⟩
  (try simp only [Act.put, List.setIfInBounds_toArray, List.set_cons_zero, List.set_cons_succ])
  apply line_fix
  case now => (intro vs w' R hG hn hR; have hR' := Lib.hid hR; clear hR hn; obtain ⟨⟨dq, osq⟩, rfl⟩ := regrown_of_below hG; clear hG; go_simp; exact hR'.out _ (Below.refl _ _))
  case hangs => exact fun _ _ _ => rfl
  case hR => exact fun _ _ => ⟨_, Below.refl _ _⟩
  (try simp only [Act.put, List.setIfInBounds_toArray, List.set_cons_zero, List.set_cons_succ])
  apply line_fix
  case now => (intro vs w' R hG hn hR; have hR' := Lib.hid hR; clear hR hn; obtain ⟨⟨dq, osq⟩, rfl⟩ := regrown_of_below hG; clear hG; go_simp; exact hR'.out _ (Below.refl _ _))
  case hangs => exact fun _ _ _ => rfl
  case hR => exact fun _ _ => ⟨_, Below.refl _ _⟩
  (try simp only [Act.put, List.setIfInBounds_toArray, List.set_cons_zero, List.set_cons_succ])
  apply line_fix
  case now => (intro vs w' R hG hn hR; have hR' := Lib.hid hR; clear hR hn; obtain ⟨⟨dq, osq⟩, rfl⟩ := regrown_of_below hG; clear hG; go_simp; exact hR'.out _ (Below.refl _ _))
  case hangs => exact fun _ _ _ => rfl
  case hR => exact fun _ _ => ⟨_, Below.refl _ _⟩
  (try simp only [Act.put, List.setIfInBounds_toArray, List.set_cons_zero, List.set_cons_succ])
  apply line_fix
  case now => (intro vs w' R hG hn hR; have hR' := Lib.hid hR; clear hR hn; obtain ⟨⟨dq, osq⟩, rfl⟩ := regrown_of_below hG; clear hG; go_simp; exact hR'.out _ (Below.refl _ _))
  case hangs => exact fun _ _ _ => rfl
  case hR => exact fun _ _ => ⟨_, Below.refl _ _⟩
  (try simp only [Act.put, List.setIfInBounds_toArray, List.set_cons_zero, List.set_cons_succ])
  apply line_fix
  case now => (intro vs w' R hG hn hR; have hR' := Lib.hid hR; clear hR hn; obtain ⟨⟨dq, osq⟩, rfl⟩ := regrown_of_below hG; clear hG; go_simp; exact hR'.out _ (Below.refl _ _))
  case hangs => exact fun _ _ _ => rfl
  case hR => exact fun _ _ => ⟨_, Below.refl _ _⟩
  (try simp only [Act.put, List.setIfInBounds_toArray, List.set_cons_zero, List.set_cons_succ])
  apply line_fix
  case now => (intro vs w' R hG hn hR; have hR' := Lib.hid hR; have hn' := Lib.hid hn; clear hR hn; replace hG : Below _ _ _ := hG; skip; go_simp; refine (HE.out _ hG).mono ?_; rintro e w'' ⟨rfl, hb⟩; exact ⟨_, rfl, hR'.out _ hb⟩)
  case hangs => exact fun _ _ _ => rfl
  case hR => exact fun _ _ => ⟨_, Below.refl _ _⟩
  (try simp only [Act.put, List.setIfInBounds_toArray, List.set_cons_zero, List.set_cons_succ])
  apply line_fix
  case now => (intro vs w' R hG hn hR; have hR' := Lib.hid hR; clear hR hn; obtain ⟨⟨dq, osq⟩, rfl⟩ := regrown_of_below hG; clear hG; go_simp; exact hR'.out _ (Below.refl _ _))
  case hangs => exact fun _ _ _ => rfl
  case hR => exact fun _ _ => ⟨_, Below.refl _ _⟩
  (try simp only [Act.put, List.setIfInBounds_toArray, List.set_cons_zero, List.set_cons_succ])
  apply line_fix
  case now => (intro vs w' R hG hn hR; have hR' := Lib.hid hR; clear hR hn; obtain ⟨⟨dq, osq⟩, rfl⟩ := regrown_of_below hG; clear hG; go_simp; exact hR'.out _ (Below.refl _ _))
  case hangs => exact fun _ _ _ => rfl
  case hR => exact fun _ _ => ⟨_, Below.refl _ _⟩
  (try simp only [Act.put, List.setIfInBounds_toArray, List.set_cons_zero, List.set_cons_succ])
  apply line_fix
  case now => (intro vs w' R hG hn hR; have hR' := Lib.hid hR; clear hR hn; obtain ⟨⟨dq, osq⟩, rfl⟩ := regrown_of_below hG; clear hG; go_simp; exact hR'.out _ (Below.refl _ _))
  case hangs => exact fun _ _ _ => rfl
  case hR => exact fun _ _ => ⟨_, Below.refl _ _⟩
  (try simp only [Act.put, List.setIfInBounds_toArray, List.set_cons_zero, List.set_cons_succ])
  apply line_fix
  case now => (intro vs w' R hG hn hR; have hR' := Lib.hid hR; clear hR hn; obtain ⟨⟨dq, osq⟩, rfl⟩ := regrown_of_below hG; clear hG; go_simp; exact hR'.out _ (Below.refl _ _))
  case hangs => exact fun _ _ _ => rfl
  case hR => exact fun _ _ => ⟨_, Below.refl _ _⟩
  (try simp only [Act.put, List.setIfInBounds_toArray, List.set_cons_zero, List.set_cons_succ])
  apply line_fix
  case now => (intro vs w' R hG hn hR; have hR' := Lib.hid hR; clear hR hn; obtain ⟨⟨dq, osq⟩, rfl⟩ := regrown_of_below hG; clear hG; go_simp; exact hR'.out _ (Below.refl _ _))
  case hangs => exact fun _ _ _ => rfl
  case hR => exact fun _ _ => ⟨_, Below.refl _ _⟩
  (try simp only [Act.put, List.setIfInBounds_toArray, List.set_cons_zero, List.set_cons_succ])
  apply line_fix
  case now => (intro vs w' R hG hn hR; have hR' := Lib.hid hR; clear hR hn; obtain ⟨⟨dq, osq⟩, rfl⟩ := regrown_of_below hG; clear hG; go_simp; exact hR'.out _ (Below.refl _ _))
  case hangs => exact fun _ _ _ => rfl
  case hR => exact fun _ _ => ⟨_, Below.refl _ _⟩
  (try simp only [Act.put, List.setIfInBounds_toArray, List.set_cons_zero, List.set_cons_succ])
  apply line_fix
  case now => (intro vs w' R hG hn hR; have hR' := Lib.hid hR; clear hR hn; obtain ⟨⟨dq, osq⟩, rfl⟩ := regrown_of_below hG; clear hG; go_simp; exact hR'.out _ (Below.refl _ _))
  case hangs => exact fun _ _ _ => rfl
  case hR => exact fun _ _ => ⟨_, Below.refl _ _⟩
  (try simp only [Act.put, List.setIfInBounds_toArray, List.set_cons_zero, List.set_cons_succ])
  apply line_fix
  case now => (intro vs w' R hG hn hR; have hR' := Lib.hid hR; clear hR hn; obtain ⟨⟨dq, osq⟩, rfl⟩ := regrown_of_below hG; clear hG; go_simp; exact hR'.out _ (Below.refl _ _))
  case hangs => exact fun _ _ _ => rfl
  case hR => exact fun _ _ => ⟨_, Below.refl _ _⟩
  (try simp only [Act.put, List.setIfInBounds_toArray, List.set_cons_zero, List.set_cons_succ])
  apply line_fix
  case now => (intro vs w' R hG hn hR; have hR' := Lib.hid hR; clear hR hn; obtain ⟨⟨dq, osq⟩, rfl⟩ := regrown_of_below hG; clear hG; go_simp; exact hR'.out _ (Below.refl _ _))
  case hangs => exact fun _ _ _ => rfl
  case hR => exact fun _ _ => ⟨_, Below.refl _ _⟩
  (try simp only [Act.put, List.setIfInBounds_toArray, List.set_cons_zero, List.set_cons_succ])
  apply line_var (Φ := fun _ v w => ∃ g, v = .slice (some ⟨g, 0, none⟩) 1 1 ∧ At w g (evOf out H q x).cells)
  case keep => (rintro _ v w w' ⟨b, e, h⟩ hp; exact ⟨b, e, h.next hp⟩)
  case hangs => exact fun _ _ _ => rfl
  case now =>
    intro vs w' R hG hn hR
    have hR' := Lib.hid hR
    clear hR hn hG
    refine ⟨rfl, ?_⟩
    rw [HEV.out] at hR'
    unfold Ev.cells at hR'
    go_simp
    exact hR'.out _ _ ⟨_, rfl, At.new _ _ _⟩ ((Below.refl _ _).alloc (Nat.le_refl _) _)
  (try simp only [Act.put, List.setIfInBounds_toArray, List.set_cons_zero, List.set_cons_succ])
  refine line_last (fun vs W9 hG9 hk => ?_)
  obtain ⟨aG, _⟩ := hk
  dsimp only at aG
  obtain ⟨g, eg, hg⟩ := aG
  rw [eg]
  replace hG9 : Below _ _ _ := hG9
  have hO9 := own_next HO.out hG9
  have hsz9 := hG9.size
  have HB9 := Lib.hid hG9
  have HRD := Lib.hid (hg.rd (n := 1) (size := 12) rfl (by decide))
  have HO9 := Lib.hid hO9
  have HLN := Lib.hid hlen
  clear hG9 hO9 hg a0 a1 a2 a3 a4 aq hrc z0 z1 z2 z3 hlen
  go_wp2_with (at_builtin; refine wpList_append_rd (w0 := W9) base rfl _ _ 28 35 _ 12 112 rfl Try.underlying28 info_ev rfl (by decide) (by decide) (.slice A m cc) m (evCells out) (some ⟨g, 0, none⟩) 1 1 (evOf out H q x).cells (by rfl) (by rfl) HO9.out HRD.out (by simp [Ev.cells, Value.oneCell']) (Below.refl _ _) (by omega) (by omega) ?_)
  intro v1 w2 hO2 hb2 hg2 hl2
  have HH2 := Lib.hid (And.intro hO2 (And.intro hb2 (And.intro hg2 hl2)))
  clear hO2 hb2 hg2 hl2
  go_wp2_with fail
  obtain ⟨hO2, hb2, hg2, hl2⟩ := HH2.out
  refine HX.out _ _ _ _ _ _ _ _ _ _ _ _ _ _ _ _ _ _ _ _ _ _ _ _ _ _ _ v1 _ ?_ ?_ ?_
  · have e1 : evCells [evOf out H q x] = (evOf out H q x).cells := by simp [evCells]
    rw [evCells_append, e1]; exact hO2
  · exact (Kept.of_below _ HB9.out).grown hg2 (fun i _ e => e)
  · intro g' hg'
    rcases hl2 with e | e
    · rw [e] at hg'; exact .inl hg'
    · rw [e] at hg'
      injection hg' with hg'
      exact .inr (by omega)
end Go.Proofs.Ytfbpjhhcpockfaa
