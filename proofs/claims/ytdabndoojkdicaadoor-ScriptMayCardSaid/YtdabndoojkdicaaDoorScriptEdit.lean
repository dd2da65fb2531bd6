/- script.edit answers what the plain words of ScriptPlain say, and lays new blocks alone. Conditions: bytes are bytes; the tables hold what the package's text lays. -/
import Derived.Test.YtdabndoojkdicaaDoorScriptPlain
import Derived.Test.YtdabndoojkdicaaDoorOrder
import Derived.Outline
import Derived.IntWalk
set_option linter.unusedVariables false
set_option linter.unusedSimpArgs false
namespace Go.Proofs.YtdabndoojkdicaaDoor
open Go.RowKit
attribute [local go_sem] gives Gives

set_option maxHeartbeats 4000000 in
theorem edit23_any (b : B8) (hb : b.ok) (w : World) (hT : Tabs w) : Calls Tryd.prog 16 #[b.val] w fun e w' =>
    e = .returned (.agg #[.int .i64 (edK b), .string (edKey b), .int .i64 (edL b), .string (edV b)]) ∧ Below w.heap.size w w' := by
  have HB := Lib.hid hb
  obtain ⟨c0, c1, c2, c3, c4, c5, c6, c7⟩ := hb
  have hk := hT.keys (b.b3 % 4).toNat (by omega)
  have hv := hT.vals (b.b4 / 2 % 4).toNat (by omega)
  have hsz := hT.size
  have k0 : 0 ≤ b.b3 % 4 := by omega
  have k1 : b.b3 % 4 < 4 := by omega
  have K1 := Lib.hid (show edK b = 1 + b.b2 % 5 from rfl)
  have K2 := Lib.hid (show edKey b = keyT (b.b3 % 4).toNat from rfl)
  have K3 := Lib.hid (show edL b = if 2 < edK b then b.b4 % 2 else 0 from rfl)
  have K4 := Lib.hid (show edV b = if 2 < edK b then valT (b.b4 / 2 % 4).toNat else ⟨#[]⟩ from rfl)
  rw [← K2.out] at hk
  generalize edK b = EK at *
  generalize edKey b = EKEY at *
  generalize edL b = EL at *
  generalize edV b = EV at *
  obtain ⟨b0, b1, b2, b3, b4, b5, b6, b7⟩ := b
  unfold B8.val
  dsimp only at *
  have a1 : IntKind.i64.wrap b3 = b3 := IntWalk.i64_in _ (by omega)
  have a2 : b3.tmod 4 = b3 % 4 := Int.tmod_eq_emod_of_nonneg (by omega)
  have a3 : b2.tmod 5 = b2 % 5 := Int.tmod_eq_emod_of_nonneg (by omega)
  have a4 : IntKind.i64.wrap (b2 % 5) = b2 % 5 := IntWalk.i64_in _ (by omega)
  have a5 : IntKind.i64.wrap (1 + b2 % 5) = 1 + b2 % 5 := IntWalk.i64_in _ (by omega)
  have a6 : b4.tmod 2 = b4 % 2 := Int.tmod_eq_emod_of_nonneg (by omega)
  have a7 : IntKind.i64.wrap (b4 % 2) = b4 % 2 := IntWalk.i64_in _ (by omega)
  have a8 : b4.tdiv 2 = b4 / 2 := Int.tdiv_eq_ediv_of_nonneg (by omega)
  have a9 : IntKind.i64.wrap (b4 / 2) = b4 / 2 := IntWalk.i64_in _ (by omega)
  have a10 : (b4 / 2).tmod 4 = b4 / 2 % 4 := Int.tmod_eq_emod_of_nonneg (by omega)
  have a11 : IntKind.u8.wrap (b4 / 2) = b4 / 2 := by simp [IntKind.wrap_u8]; omega
  have k2 : 0 ≤ b4 / 2 % 4 := by omega
  have k3 : b4 / 2 % 4 < 4 := by omega
  go_enter Tryd.func16, Tryd.ntmps16
  go_wp2_with fail
  obtain ⟨W1, hW1⟩ : ∃ W, W = (w.alloc (Obj.cells #[.int .u8 b0, .int .u8 b1, .int .u8 b2, .int .u8 b3, .int .u8 b4, .int .u8 b5, .int .u8 b6, .int .u8 b7] 40)).alloc (Obj.cells #[.int .i64 0, .string ⟨#[]⟩, .int .i64 0, .string ⟨#[]⟩] 28) := ⟨_, rfl⟩
  rw [← hW1]
  have aB : At W1 w.heap.size [.int .u8 b0, .int .u8 b1, .int .u8 b2, .int .u8 b3, .int .u8 b4, .int .u8 b5, .int .u8 b6, .int .u8 b7] := by rw [hW1]; exact (At.new _ _ _).alloc _
  have aR : At W1 (w.heap.size + 1) [.int .i64 0, .string ⟨#[]⟩, .int .i64 0, .string ⟨#[]⟩] := by
    rw [hW1]
    have := At.new (w.alloc (Obj.cells #[.int .u8 b0, .int .u8 b1, .int .u8 b2, .int .u8 b3, .int .u8 b4, .int .u8 b5, .int .u8 b6, .int .u8 b7] 40)) #[.int .i64 0, .string ⟨#[]⟩, .int .i64 0, .string ⟨#[]⟩] 28
    simpa using this
  have hbW : Below w.heap.size w W1 := by rw [hW1]; exact (by (repeat (first | exact Below.refl _ _ | assumption | (refine Below.drew ?_) | (refine below_drewN ?_ _) | (refine Below.alloc ?_ (by first | omega | (simp; done) | (simp; omega)) _) | (refine Below.setCell ?_ (by first | omega | (simp; done) | (simp; omega)) _))))
  have hs1 : W1.heap.size = w.heap.size + 2 := by rw [hW1]; simp
  clear hW1
  have hk1 := (hbW.cell (p := ⟨1, (b3 % 4).toNat, none⟩) (by dsimp only; omega)).trans hk
  have hv1 := (hbW.cell (p := ⟨2, (b4 / 2 % 4).toNat, none⟩) (by dsimp only; omega)).trans hv
  have EB := Lib.hid hbW
  have HT := Lib.hid hT
  have x0 := aB.cell 0 rfl
  have x1 := aB.cell 1 rfl
  have x2 := aB.cell 2 rfl
  have x3 := aB.cell 3 rfl
  have x4 := aB.cell 4 rfl
  have x5 := aB.cell 5 rfl
  have x6 := aB.cell 6 rfl
  have x7 := aB.cell 7 rfl
  have lB := aB.lt
  have l1 : 1 < W1.heap.size := by omega
  have l2 : 2 < W1.heap.size := by omega
  have AB := Lib.hid aB
  have AR := Lib.hid aR
  clear hk hv hbW hT aB aR
  have hrc := regrown_cell W1
  refine wp_region_line 13 (by kernel_rfl) (by kernel_rfl) ?_
  apply line_fix
  case now => (intro vs w' R hG hn hR; have hR' := Lib.hid hR; clear hR hn; obtain ⟨⟨dq, osq⟩, rfl⟩ := regrown_of_below hG; clear hG; go_simp; exact hR'.out _ (Below.refl _ _))
  case hangs => exact fun _ _ _ => rfl
  case hR => exact fun _ _ => ⟨_, Below.refl _ _⟩
  (try simp only [Act.put, List.setIfInBounds_toArray, List.set_cons_zero, List.set_cons_succ])
  apply line_fix
  case now => (intro vs w' R hG hn hR; have hR' := Lib.hid hR; clear hR hn; obtain ⟨⟨dq, osq⟩, rfl⟩ := regrown_of_below hG; clear hG; go_simp; exact hR'.out _ (Below.refl _ _))
  case hangs => exact fun _ _ _ => rfl
  case hR => exact fun _ _ => ⟨_, Below.refl _ _⟩
  (try simp only [Act.put, List.setIfInBounds_toArray, List.set_cons_zero, List.set_cons_succ])
  apply line_fix
  case now => (intro vs w' R hG hn hR; have hR' := Lib.hid hR; clear hR hn; obtain ⟨⟨dq, osq⟩, rfl⟩ := regrown_of_below hG; clear hG; go_simp; exact hR'.out _ (Below.refl _ _))
  case hangs => exact fun _ _ _ => rfl
  case hR => exact fun _ _ => ⟨_, Below.refl _ _⟩
  (try simp only [Act.put, List.setIfInBounds_toArray, List.set_cons_zero, List.set_cons_succ])
  apply line_fix
  case now => (intro vs w' R hG hn hR; have hR' := Lib.hid hR; clear hR hn; obtain ⟨⟨dq, osq⟩, rfl⟩ := regrown_of_below hG; clear hG; go_simp; exact hR'.out _ (Below.refl _ _))
  case hangs => exact fun _ _ _ => rfl
  case hR => exact fun _ _ => ⟨_, Below.refl _ _⟩
  (try simp only [Act.put, List.setIfInBounds_toArray, List.set_cons_zero, List.set_cons_succ])
  apply line_fix
  case now => (intro vs w' R hG hn hR; have hR' := Lib.hid hR; clear hR hn; obtain ⟨⟨dq, osq⟩, rfl⟩ := regrown_of_below hG; clear hG; go_simp; exact hR'.out _ (Below.refl _ _))
  case hangs => exact fun _ _ _ => rfl
  case hR => exact fun _ _ => ⟨_, Below.refl _ _⟩
  (try simp only [Act.put, List.setIfInBounds_toArray, List.set_cons_zero, List.set_cons_succ])
  apply line_fix
  case now => (intro vs w' R hG hn hR; have hR' := Lib.hid hR; clear hR hn; obtain ⟨⟨dq, osq⟩, rfl⟩ := regrown_of_below hG; clear hG; go_simp; exact hR'.out _ (Below.refl _ _))
  case hangs => exact fun _ _ _ => rfl
  case hR => exact fun _ _ => ⟨_, Below.refl _ _⟩
  (try simp only [Act.put, List.setIfInBounds_toArray, List.set_cons_zero, List.set_cons_succ])
  apply line_fix
  case now => (intro vs w' R hG hn hR; have hR' := Lib.hid hR; clear hR hn; obtain ⟨⟨dq, osq⟩, rfl⟩ := regrown_of_below hG; clear hG; go_simp; exact hR'.out _ (Below.refl _ _))
  case hangs => exact fun _ _ _ => rfl
  case hR => exact fun _ _ => ⟨_, Below.refl _ _⟩
  (try simp only [Act.put, List.setIfInBounds_toArray, List.set_cons_zero, List.set_cons_succ])
  apply line_fix
  case now => (intro vs w' R hG hn hR; have hR' := Lib.hid hR; clear hR hn; obtain ⟨⟨dq, osq⟩, rfl⟩ := regrown_of_below hG; clear hG; go_simp; exact hR'.out _ (Below.refl _ _))
  case hangs => exact fun _ _ _ => rfl
  case hR => exact fun _ _ => ⟨_, Below.refl _ _⟩
  (try simp only [Act.put, List.setIfInBounds_toArray, List.set_cons_zero, List.set_cons_succ])
  apply line_fix
  case now => (intro vs w' R hG hn hR; have hR' := Lib.hid hR; clear hR hn; obtain ⟨⟨dq, osq⟩, rfl⟩ := regrown_of_below hG; clear hG; go_simp; exact hR'.out _ (Below.refl _ _))
  case hangs => exact fun _ _ _ => rfl
  case hR => exact fun _ _ => ⟨_, Below.refl _ _⟩
  (try simp only [Act.put, List.setIfInBounds_toArray, List.set_cons_zero, List.set_cons_succ])
  apply line_fix
  case now => (intro vs w' R hG hn hR; have hR' := Lib.hid hR; clear hR hn; obtain ⟨⟨dq, osq⟩, rfl⟩ := regrown_of_below hG; clear hG; go_simp; exact hR'.out _ (Below.refl _ _))
  case hangs => exact fun _ _ _ => rfl
  case hR => exact fun _ _ => ⟨_, Below.refl _ _⟩
  (try simp only [Act.put, List.setIfInBounds_toArray, List.set_cons_zero, List.set_cons_succ])
  apply line_fix
  case now => (intro vs w' R hG hn hR; have hR' := Lib.hid hR; clear hR hn; obtain ⟨⟨dq, osq⟩, rfl⟩ := regrown_of_below hG; clear hG; go_simp; exact hR'.out _ (Below.refl _ _))
  case hangs => exact fun _ _ _ => rfl
  case hR => exact fun _ _ => ⟨_, Below.refl _ _⟩
  (try simp only [Act.put, List.setIfInBounds_toArray, List.set_cons_zero, List.set_cons_succ])
  apply line_fix
  case now => (intro vs w' R hG hn hR; have hR' := Lib.hid hR; clear hR hn; obtain ⟨⟨dq, osq⟩, rfl⟩ := regrown_of_below hG; clear hG; go_simp; exact hR'.out _ (Below.refl _ _))
  case hangs => exact fun _ _ _ => rfl
  case hR => exact fun _ _ => ⟨_, Below.refl _ _⟩
  (try simp only [Act.put, List.setIfInBounds_toArray, List.set_cons_zero, List.set_cons_succ])
  apply line_var (Φ := fun _ v w => ∃ g, v = .pointer (some ⟨g, 0, none⟩) ∧ At w g [.int .i64 0, .string ⟨#[]⟩, .int .i64 0, .string ⟨#[]⟩] ∧ W1.heap.size ≤ g)
  case keep => (rintro _ v w w' ⟨g, e, h, h'⟩ hb; exact ⟨g, e, h.next hb, h'⟩)
  case hangs => exact fun _ _ _ => rfl
  case now => (intro vs w' R hG hn hR; have hR' := Lib.hid hR; have hn' := Lib.hid hn; clear hR hn; replace hG : Below _ _ _ := hG; refine ⟨rfl, ?_⟩; go_simp; exact hR'.out _ _ ⟨_, rfl, At.new _ _ _, hG.size⟩ ((Below.refl _ _).alloc (Nat.le_refl _) _))
  (try simp only [Act.put, List.setIfInBounds_toArray, List.set_cons_zero, List.set_cons_succ])
  refine line_last (fun vs W2 hG hk => ?_)
  replace hG : Below _ _ _ := hG
  obtain ⟨⟨g, e3, ag, hg⟩, _⟩ := hk
  dsimp only at e3
  generalize vs 12 = v12 at *
  subst e3
  have y0 := ag.cell 0 rfl
  have y1 := ag.cell 1 rfl
  have y2 := ag.cell 2 rfl
  have y3 := ag.cell 3 rfl
  have f0 := ag.frozen 0
  have f1 := ag.frozen 1
  have f2 := ag.frozen 2
  have f3 := ag.frozen 3
  have AG := Lib.hid ag
  clear ag
  have aR2 := AR.out.next hG
  have aB2 := AB.out.next hG
  have hv2 := (hG.cell (p := ⟨2, (b4 / 2 % 4).toNat, none⟩) (by dsimp only; omega)).trans hv1
  have r0 := aR2.cell 0 rfl
  have r1 := aR2.cell 1 rfl
  have r2 := aR2.cell 2 rfl
  have r3 := aR2.cell 3 rfl
  have h0 := aR2.frozen 0
  have h1 := aR2.frozen 1
  have h2 := aR2.frozen 2
  have h3 := aR2.frozen 3
  have hz2 := hG.size
  have hgR : g ≠ w.heap.size + 1 := by omega
  have hgR' : ¬ w.heap.size + 1 = g := by omega
  have AR2 := Lib.hid aR2
  have AB2 := Lib.hid aB2
  clear aR2 aB2 hrc x0 x1 x2 x3 x4 x5 x6 x7 hk1 hv1
  by_cases hgt : 2 < 1 + b2 % 5
  · have eL := K3.out
    have eV := K4.out
    rw [K1.out, if_pos hgt] at eL eV
    rw [← eV] at hv2
    have EEL := Lib.hid eL
    have EEV := Lib.hid eV
    have EEK := Lib.hid K1.out
    clear eL eV
    go_wp2
    obtain ⟨W3, hW3⟩ : ∃ W, W = (((W2.setCell ⟨g, 0, none⟩ (.int .i64 (1 + b2 % 5))).setCell ⟨g, 1, none⟩ (.string EKEY)).setCell ⟨g, 2, none⟩ (.int .i64 0)).setCell ⟨g, 3, none⟩ (.string ⟨#[]⟩) := ⟨_, rfl⟩
    rw [← hW3]
    have aG : At W3 g [.int .i64 (1 + b2 % 5), .string EKEY, .int .i64 0, .string ⟨#[]⟩] := by rw [hW3]; exact (((AG.out.set 0 _).set 1 _).set 2 _).set 3 _
    have aB : At W3 w.heap.size [.int .u8 b0, .int .u8 b1, .int .u8 b2, .int .u8 b3, .int .u8 b4, .int .u8 b5, .int .u8 b6, .int .u8 b7] := by rw [hW3]; exact (((AB2.out.other _ (by omega)).other _ (by omega)).other _ (by omega)).other _ (by omega)
    have aR : At W3 (w.heap.size + 1) [.int .i64 0, .string ⟨#[]⟩, .int .i64 0, .string ⟨#[]⟩] := by rw [hW3]; exact (((AR2.out.other _ (by omega)).other _ (by omega)).other _ (by omega)).other _ (by omega)
    have hv3 : W3.cell? ⟨2, (b4 / 2 % 4).toNat, none⟩ = some (.string EV) := by
      rw [hW3]
      have n2 : ¬ g = 2 := by omega
      simp [go_sem, n2, hv2]
    have hz3 : W3.heap.size = W2.heap.size := by rw [hW3]; simp
    have hbW3 : Below w.heap.size w W3 := by
      have hBW2 := EB.out.trans (hG.mono (by omega))
      rw [hW3]
      refine ((((hBW2.setCell ?_ _).setCell ?_ _).setCell ?_ _).setCell ?_ _) <;> (dsimp only; omega)
    clear hW3 hv2 r0 r1 r2 r3 h0 h1 h2 h3 f0 f1 f2 f3 y0 y1 y2 y3
    have lG := aG.lt
    have x4 := aB.cell 4 rfl
    refine wp_region_line_any (G := PutIn g 2 (.int .i64 (b4 % 2)) W3) (E := PutIn g 2 (.int .i64 (b4 % 2))) 14 (by kernel_rfl) (by kernel_rfl) (fun w _ => PutIn.refl _ _ _ _) (fun _ _ h1 h2 => h1.trans h2) (PutIn.drew _ _ _ _) ?_
    apply line_fix
    case now => (intro vs w' R hG hn hR; have hR' := Lib.hid hR; clear hR hn; skip; clear hG; go_simp; exact hR'.out _ (PutIn.refl _ _ _ _))
    case hangs => exact fun _ _ _ => rfl
    case hR => exact fun _ _ => ⟨_, PutIn.refl _ _ _ _⟩
    (try simp only [Act.put, List.setIfInBounds_toArray, List.set_cons_zero, List.set_cons_succ])
    apply line_fix
    case now => (intro vs w' R hG hn hR; have hR' := Lib.hid hR; clear hR hn; have e4 := (hG.cell w.heap.size 4 (by omega) (by omega)).trans x4; clear hG; go_simp; exact hR'.out _ (PutIn.refl _ _ _ _))
    case hangs => exact fun _ _ _ => rfl
    case hR => exact fun _ _ => ⟨_, PutIn.refl _ _ _ _⟩
    (try simp only [Act.put, List.setIfInBounds_toArray, List.set_cons_zero, List.set_cons_succ])
    apply line_fix
    case now => (intro vs w' R hG hn hR; have hR' := Lib.hid hR; clear hR hn; skip; clear hG; go_simp; exact hR'.out _ (PutIn.refl _ _ _ _))
    case hangs => exact fun _ _ _ => rfl
    case hR => exact fun _ _ => ⟨_, PutIn.refl _ _ _ _⟩
    (try simp only [Act.put, List.setIfInBounds_toArray, List.set_cons_zero, List.set_cons_succ])
    apply line_fix
    case now => (intro vs w' R hG hn hR; have hR' := Lib.hid hR; clear hR hn; skip; clear hG; go_simp; exact hR'.out _ (PutIn.refl _ _ _ _))
    case hangs => exact fun _ _ _ => rfl
    case hR => exact fun _ _ => ⟨_, PutIn.refl _ _ _ _⟩
    (try simp only [Act.put, List.setIfInBounds_toArray, List.set_cons_zero, List.set_cons_succ])
    apply line_fix
    case now => (intro vs w' R hG hn hR; have hR' := Lib.hid hR; clear hR hn; skip; clear hG; go_simp; exact hR'.out _ (PutIn.refl _ _ _ _))
    case hangs => exact fun _ _ _ => rfl
    case hR => exact fun _ _ => ⟨_, PutIn.refl _ _ _ _⟩
    (try simp only [Act.put, List.setIfInBounds_toArray, List.set_cons_zero, List.set_cons_succ])
    apply line_fix
    case now => (intro vs w' R hG hn hR; have hR' := Lib.hid hR; clear hR hn; have e4 := (hG.cell w.heap.size 4 (by omega) (by omega)).trans x4; clear hG; go_simp; exact hR'.out _ (PutIn.refl _ _ _ _))
    case hangs => exact fun _ _ _ => rfl
    case hR => exact fun _ _ => ⟨_, PutIn.refl _ _ _ _⟩
    (try simp only [Act.put, List.setIfInBounds_toArray, List.set_cons_zero, List.set_cons_succ])
    apply line_fix
    case now => (intro vs w' R hG hn hR; have hR' := Lib.hid hR; clear hR hn; skip; clear hG; go_simp; exact hR'.out _ (PutIn.refl _ _ _ _))
    case hangs => exact fun _ _ _ => rfl
    case hR => exact fun _ _ => ⟨_, PutIn.refl _ _ _ _⟩
    (try simp only [Act.put, List.setIfInBounds_toArray, List.set_cons_zero, List.set_cons_succ])
    apply line_fix
    case now => (intro vs w' R hG hn hR; have hR' := Lib.hid hR; clear hR hn; skip; clear hG; go_simp; exact hR'.out _ (PutIn.refl _ _ _ _))
    case hangs => exact fun _ _ _ => rfl
    case hR => exact fun _ _ => ⟨_, PutIn.refl _ _ _ _⟩
    (try simp only [Act.put, List.setIfInBounds_toArray, List.set_cons_zero, List.set_cons_succ])
    apply line_fix
    case now => (intro vs w' R hG hn hR; have hR' := Lib.hid hR; clear hR hn; skip; clear hG; go_simp; exact hR'.out _ (PutIn.refl _ _ _ _))
    case hangs => exact fun _ _ _ => rfl
    case hR => exact fun _ _ => ⟨_, PutIn.refl _ _ _ _⟩
    (try simp only [Act.put, List.setIfInBounds_toArray, List.set_cons_zero, List.set_cons_succ])
    apply line_fix
    case now => (intro vs w' R hG hn hR; have hR' := Lib.hid hR; clear hR hn; skip; clear hG; go_simp; exact hR'.out _ (PutIn.refl _ _ _ _))
    case hangs => exact fun _ _ _ => rfl
    case hR => exact fun _ _ => ⟨_, PutIn.refl _ _ _ _⟩
    (try simp only [Act.put, List.setIfInBounds_toArray, List.set_cons_zero, List.set_cons_succ])
    apply line_fix
    case now => (intro vs w' R hG hn hR; have hR' := Lib.hid hR; clear hR hn; have ev := (hG.cell 2 (b4 / 2 % 4).toNat (by omega) (by omega)).trans hv3; clear hG; go_simp; exact hR'.out _ (PutIn.refl _ _ _ _))
    case hangs => exact fun _ _ _ => rfl
    case hR => exact fun _ _ => ⟨_, PutIn.refl _ _ _ _⟩
    (try simp only [Act.put, List.setIfInBounds_toArray, List.set_cons_zero, List.set_cons_succ])
    apply line_fix
    case now => (intro vs w' R hG hn hR; have hR' := Lib.hid hR; clear hR hn; skip; clear hG; go_simp; exact hR'.out _ (PutIn.refl _ _ _ _))
    case hangs => exact fun _ _ _ => rfl
    case hR => exact fun _ _ => ⟨_, PutIn.refl _ _ _ _⟩
    (try simp only [Act.put, List.setIfInBounds_toArray, List.set_cons_zero, List.set_cons_succ])
    apply line_var (Φ := fun _ _ w => At w g [.int .i64 (1 + b2 % 5), .string EKEY, .int .i64 (b4 % 2), .string ⟨#[]⟩])
    case keep => (intro _ _ w w' h hp; rcases hp.here _ h with h1 | h1 <;> exact h1)
    case hangs => exact fun _ _ _ => rfl
    case now =>
      intro vs w' R hG hn hR
      have hR' := Lib.hid hR
      clear hR hn
      have hA : ∃ z, At w' g [.int .i64 (1 + b2 % 5), .string EKEY, z, .string ⟨#[]⟩] := by rcases hG.here _ aG with h1 | h1 <;> exact ⟨_, h1⟩
      obtain ⟨z, hA⟩ := hA
      have z2 := hA.cell 2 rfl
      have z2f := hA.frozen 2
      refine ⟨rfl, ?_⟩
      go_simp
      exact hR'.out _ _ (hA.set 2 _) PutIn.set
    (try simp only [Act.put, List.setIfInBounds_toArray, List.set_cons_zero, List.set_cons_succ])
    apply line_fix
    case now => (intro vs w' R hG hn hR; have hR' := Lib.hid hR; clear hR hn; skip; clear hG; go_simp; exact hR'.out _ (PutIn.refl _ _ _ _))
    case hangs => exact fun _ _ _ => rfl
    case hR => exact fun _ _ => ⟨_, PutIn.refl _ _ _ _⟩
    (try simp only [Act.put, List.setIfInBounds_toArray, List.set_cons_zero, List.set_cons_succ])
    refine line_last (fun vs W4 hG4 hk => ?_)
    obtain ⟨aG4, _⟩ := hk
    dsimp only at aG4
    have hBW4 : Below w.heap.size w W4 := hbW3.trans (hG4.below (by omega) (by omega))
    have aR4 : At W4 (w.heap.size + 1) [.int .i64 0, .string ⟨#[]⟩, .int .i64 0, .string ⟨#[]⟩] := by
      obtain ⟨t, ht⟩ := aR
      exact ⟨t, (hG4.far _ (by omega) (by omega)).trans ht⟩
    have r0 := aR4.cell 0 rfl
    have r1 := aR4.cell 1 rfl
    have r2 := aR4.cell 2 rfl
    have r3 := aR4.cell 3 rfl
    have h0 := aR4.frozen 0
    have h1 := aR4.frozen 1
    have h2 := aR4.frozen 2
    have h3 := aR4.frozen 3
    have y0 := aG4.cell 0 rfl
    have y1 := aG4.cell 1 rfl
    have y2 := aG4.cell 2 rfl
    have y3 := aG4.cell 3 rfl
    have f0 := aG4.frozen 0
    have f1 := aG4.frozen 1
    have f2 := aG4.frozen 2
    have f3 := aG4.frozen 3
    clear aR4 aG4 aR aG aB
    go_wp2_with fail
    refine bodyPost_ret (v := .agg #[.int .i64 (1 + b2 % 5), .string EKEY, .int .i64 (b4 % 2), .string EV]) (by simp [results, Tryd.results16, go_sem, hgR, hgR', r0, r1, r2, r3, y0, y1, y2, y3]) rfl ⟨by rw [EEK.out, EEL.out], ?_⟩
    refine (((((hBW4.setCell ?_ _).setCell ?_ _).setCell ?_ _).setCell ?_ _).setCell ?_ _) <;> (dsimp only; omega)
  · have eL := K3.out
    have eV := K4.out
    rw [K1.out, if_neg hgt] at eL eV
    have EEL := Lib.hid eL
    have EEV := Lib.hid eV
    have EEK := Lib.hid K1.out
    clear eL eV
    go_wp2
    refine bodyPost_ret (v := .agg #[.int .i64 (1 + b2 % 5), .string EKEY, .int .i64 0, .string ⟨#[]⟩]) (by simp [results, Tryd.results16, go_sem, hgR, hgR', r0, r1, r2, r3, y0, y1, y2, y3]) rfl ⟨by rw [EEK.out, EEL.out, EEV.out], ?_⟩
    have hBW2 := EB.out.trans (hG.mono (by omega))
    refine ((((((((hBW2.setCell ?_ _).setCell ?_ _).setCell ?_ _).setCell ?_ _).setCell ?_ _).setCell ?_ _).setCell ?_ _).setCell ?_ _) <;> (dsimp only; omega)
end Go.Proofs.YtdabndoojkdicaaDoor
