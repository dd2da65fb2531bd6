/- script.step answers what the plain words of ScriptPlain say, and lays new blocks alone. Conditions: bytes are bytes; there is a replica; the tables hold what the package's text lays. -/
import Derived.Test.YtdabndoojkdicaaDoorScriptEdit
import Derived.Deep.DeepCutAuto
set_option linter.unusedVariables false
set_option linter.unusedSimpArgs false
namespace Go.Proofs.YtdabndoojkdicaaDoor
open Go.RowKit
attribute [local go_sem] gives Gives

set_option maxHeartbeats 8000000 in
theorem step23_any (n : Int) (b : B8) (hb : b.ok) (hn1 : 1 ≤ n) (hn5 : n ≤ 5) (w : World) (hT : Tabs w) : Calls Tryd.prog 10 #[.int .i64 n, b.val] w fun e w' => e = .returned (stepOf n b).v ∧ Below w.heap.size w w' := by
  have HB := Lib.hid hb
  obtain ⟨c0, c1, c2, c3, c4, c5, c6, c7⟩ := hb
  have hk := hT.kinds (b.b0 % 16).toNat (by omega)
  have hsz := hT.size
  have HE := Lib.hid (fun W (h : Tabs W) => edit23_any b HB.out W h)
  obtain ⟨κ, hκ⟩ : ∃ κ, κ = stKind b := ⟨_, rfl⟩
  have hcs := kindT_cases (b.b0 % 16).toNat
  rw [show kindT (b.b0 % 16).toNat = stKind b from rfl, ← hκ] at hk hcs
  have EK := Lib.hid hκ
  have HCS := Lib.hid hcs
  clear hκ hcs
  obtain ⟨v, hv⟩ : ∃ v, v = (stepOf n b).v := ⟨_, rfl⟩
  have EV := Lib.hid hv
  rw [← hv]
  clear hv
  obtain ⟨ek, hek⟩ : ∃ k, k = edK b := ⟨_, rfl⟩
  obtain ⟨ekey, hekey⟩ : ∃ k, k = edKey b := ⟨_, rfl⟩
  obtain ⟨el, hel⟩ : ∃ k, k = edL b := ⟨_, rfl⟩
  obtain ⟨ev, hev⟩ : ∃ k, k = edV b := ⟨_, rfl⟩
  rw [← hek, ← hekey, ← hel, ← hev] at HE
  have FK := Lib.hid hek
  have FKEY := Lib.hid hekey
  have FL := Lib.hid hel
  have FV := Lib.hid hev
  clear hek hekey hel hev
  obtain ⟨b0, b1, b2, b3, b4, b5, b6, b7⟩ := b
  unfold B8.val at *
  dsimp only at *
  have n0 : ¬ n = 0 := by omega
  have n1 : ¬ n + 1 = 0 := by omega
  have k0 : 0 ≤ b0 % 16 := by omega
  have k1 : b0 % 16 < 16 := by omega
  have w0 : IntKind.i64.wrap b0 = b0 := IntWalk.i64_in _ (by omega)
  have w1 : IntKind.i64.wrap b1 = b1 := IntWalk.i64_in _ (by omega)
  have w3 : IntKind.i64.wrap b3 = b3 := IntWalk.i64_in _ (by omega)
  have w6 : IntKind.i64.wrap b6 = b6 := IntWalk.i64_in _ (by omega)
  have a1 : b0.tmod 16 = b0 % 16 := Int.tmod_eq_emod_of_nonneg (by omega)
  have a2 : b1.tmod n = b1 % n := Int.tmod_eq_emod_of_nonneg (by omega)
  have a3 : b1.tmod (n + 1) = b1 % (n + 1) := Int.tmod_eq_emod_of_nonneg (by omega)
  have a4 : b5.tmod 8 = b5 % 8 := Int.tmod_eq_emod_of_nonneg (by omega)
  have a5 : IntKind.i64.wrap (b5 % 8) = b5 % 8 := IntWalk.i64_in _ (by omega)
  have a6 : IntKind.i64.wrap (n + 1) = n + 1 := IntWalk.i64_in _ (by omega)
  go_enter Tryd.func10, Tryd.ntmps10
  go_wp2_with fail
  refine wp_world (fun W => At W w.heap.size [.int .u8 b0, .int .u8 b1, .int .u8 b2, .int .u8 b3, .int .u8 b4, .int .u8 b5, .int .u8 b6, .int .u8 b7] ∧ At W (w.heap.size + 1) [.int .i64 0, .int .i64 0, .int .i64 0, .string ⟨#[]⟩, .int .i64 0, .string ⟨#[]⟩, .int .i64 0, .int .i64 0, .int .u32 0, .int .i64 0] ∧ Below w.heap.size w W ∧ W.heap.size = w.heap.size + 2) ⟨(At.new _ _ _).alloc _, by simpa using At.new (w.alloc (Obj.cells #[.int .u8 b0, .int .u8 b1, .int .u8 b2, .int .u8 b3, .int .u8 b4, .int .u8 b5, .int .u8 b6, .int .u8 b7] 40)) #[.int .i64 0, .int .i64 0, .int .i64 0, .string ⟨#[]⟩, .int .i64 0, .string ⟨#[]⟩, .int .i64 0, .int .i64 0, .int .u32 0, .int .i64 0] 31, (by (repeat (first | exact Below.refl _ _ | assumption | (refine Below.drew ?_) | (refine below_drewN ?_ _) | (refine Below.alloc ?_ (by first | omega | (simp; done) | (simp; omega)) _) | (refine Below.setCell ?_ (by first | omega | (simp; done) | (simp; omega)) _)))), by simp⟩ ?_
  rintro W1 ⟨aB, aR, hbW, hs1⟩
  have hk1 := (hbW.cell (p := ⟨0, (b0 % 16).toNat, none⟩) (by dsimp only; omega)).trans hk
  have HB1 := Lib.hid hbW
  have HT := Lib.hid hT
  have x0 := aB.cell 0 rfl
  have x1 := aB.cell 1 rfl
  have x2 := aB.cell 2 rfl
  have x3 := aB.cell 3 rfl
  have x4 := aB.cell 4 rfl
  have x5 := aB.cell 5 rfl
  have x6 := aB.cell 6 rfl
  have x7 := aB.cell 7 rfl
  have lB := aB.lt
  have l0 : 0 < W1.heap.size := by omega
  have AB := Lib.hid aB
  have AR := Lib.hid aR
  clear hk hbW hT aB aR
  have hrc := regrown_cell W1
  refine wp_region_line 13 (by kernel_rfl) (by kernel_rfl) ?_
  apply line_fix
  case now => (intro vs w' R hG hn hR; have hR' := Lib.hid hR; clear hR hn; obtain ⟨⟨dq, osq⟩, rfl⟩ := regrown_of_below hG; clear hG; go_simp; exact hR'.out _ (Below.refl _ _))
  case hangs => exact fun _ _ _ => rfl
  case hR => exact fun _ _ => ⟨_, Below.refl _ _⟩
  (try simp only [Act.put, List.setIfInBounds_toArray, List.set_cons_zero, List.set_cons_succ])
  apply line_fix
  case now => (intro vs w' R hG hn hR; have hR' := Lib.hid hR; clear hR hn; obtain ⟨⟨dq, osq⟩, rfl⟩ := regrown_of_below hG; clear hG; go_simp; exact hR'.out _ (Below.refl _ _))
  case hangs => exact fun _ _ _ => rfl
  case hR => exact fun _ _ => ⟨_, Below.refl _ _⟩
  (try simp only [Act.put, List.setIfInBounds_toArray, List.set_cons_zero, List.set_cons_succ])
  apply line_fix
  case now => (intro vs w' R hG hn hR; have hR' := Lib.hid hR; clear hR hn; obtain ⟨⟨dq, osq⟩, rfl⟩ := regrown_of_below hG; clear hG; go_simp; exact hR'.out _ (Below.refl _ _))
  case hangs => exact fun _ _ _ => rfl
  case hR => exact fun _ _ => ⟨_, Below.refl _ _⟩
  (try simp only [Act.put, List.setIfInBounds_toArray, List.set_cons_zero, List.set_cons_succ])
  apply line_fix
  case now => (intro vs w' R hG hn hR; have hR' := Lib.hid hR; clear hR hn; obtain ⟨⟨dq, osq⟩, rfl⟩ := regrown_of_below hG; clear hG; go_simp; exact hR'.out _ (Below.refl _ _))
  case hangs => exact fun _ _ _ => rfl
  case hR => exact fun _ _ => ⟨_, Below.refl _ _⟩
  (try simp only [Act.put, List.setIfInBounds_toArray, List.set_cons_zero, List.set_cons_succ])
  apply line_fix
  case now => (intro vs w' R hG hn hR; have hR' := Lib.hid hR; clear hR hn; obtain ⟨⟨dq, osq⟩, rfl⟩ := regrown_of_below hG; clear hG; go_simp; exact hR'.out _ (Below.refl _ _))
  case hangs => exact fun _ _ _ => rfl
  case hR => exact fun _ _ => ⟨_, Below.refl _ _⟩
  (try simp only [Act.put, List.setIfInBounds_toArray, List.set_cons_zero, List.set_cons_succ])
  apply line_fix
  case now => (intro vs w' R hG hn hR; have hR' := Lib.hid hR; clear hR hn; obtain ⟨⟨dq, osq⟩, rfl⟩ := regrown_of_below hG; clear hG; go_simp; exact hR'.out _ (Below.refl _ _))
  case hangs => exact fun _ _ _ => rfl
  case hR => exact fun _ _ => ⟨_, Below.refl _ _⟩
  (try simp only [Act.put, List.setIfInBounds_toArray, List.set_cons_zero, List.set_cons_succ])
  apply line_fix
  case now => (intro vs w' R hG hn hR; have hR' := Lib.hid hR; clear hR hn; obtain ⟨⟨dq, osq⟩, rfl⟩ := regrown_of_below hG; clear hG; go_simp; exact hR'.out _ (Below.refl _ _))
  case hangs => exact fun _ _ _ => rfl
  case hR => exact fun _ _ => ⟨_, Below.refl _ _⟩
  (try simp only [Act.put, List.setIfInBounds_toArray, List.set_cons_zero, List.set_cons_succ])
  apply line_fix
  case now => (intro vs w' R hG hn hR; have hR' := Lib.hid hR; clear hR hn; obtain ⟨⟨dq, osq⟩, rfl⟩ := regrown_of_below hG; clear hG; go_simp; exact hR'.out _ (Below.refl _ _))
  case hangs => exact fun _ _ _ => rfl
  case hR => exact fun _ _ => ⟨_, Below.refl _ _⟩
  (try simp only [Act.put, List.setIfInBounds_toArray, List.set_cons_zero, List.set_cons_succ])
  apply line_fix
  case now => (intro vs w' R hG hn hR; have hR' := Lib.hid hR; clear hR hn; obtain ⟨⟨dq, osq⟩, rfl⟩ := regrown_of_below hG; clear hG; go_simp; exact hR'.out _ (Below.refl _ _))
  case hangs => exact fun _ _ _ => rfl
  case hR => exact fun _ _ => ⟨_, Below.refl _ _⟩
  (try simp only [Act.put, List.setIfInBounds_toArray, List.set_cons_zero, List.set_cons_succ])
  apply line_fix
  case now => (intro vs w' R hG hn hR; have hR' := Lib.hid hR; clear hR hn; obtain ⟨⟨dq, osq⟩, rfl⟩ := regrown_of_below hG; clear hG; go_simp; exact hR'.out _ (Below.refl _ _))
  case hangs => exact fun _ _ _ => rfl
  case hR => exact fun _ _ => ⟨_, Below.refl _ _⟩
  (try simp only [Act.put, List.setIfInBounds_toArray, List.set_cons_zero, List.set_cons_succ])
  apply line_fix
  case now => (intro vs w' R hG hn hR; have hR' := Lib.hid hR; clear hR hn; obtain ⟨⟨dq, osq⟩, rfl⟩ := regrown_of_below hG; clear hG; go_simp; exact hR'.out _ (Below.refl _ _))
  case hangs => exact fun _ _ _ => rfl
  case hR => exact fun _ _ => ⟨_, Below.refl _ _⟩
  (try simp only [Act.put, List.setIfInBounds_toArray, List.set_cons_zero, List.set_cons_succ])
  apply line_fix
  case now => (intro vs w' R hG hn hR; have hR' := Lib.hid hR; clear hR hn; obtain ⟨⟨dq, osq⟩, rfl⟩ := regrown_of_below hG; clear hG; go_simp; exact hR'.out _ (Below.refl _ _))
  case hangs => exact fun _ _ _ => rfl
  case hR => exact fun _ _ => ⟨_, Below.refl _ _⟩
  (try simp only [Act.put, List.setIfInBounds_toArray, List.set_cons_zero, List.set_cons_succ])
  apply line_var (Φ := fun _ v w => ∃ g, v = .pointer (some ⟨g, 0, none⟩) ∧ At w g [.int .i64 0, .int .i64 0, .int .i64 0, .string ⟨#[]⟩, .int .i64 0, .string ⟨#[]⟩, .int .i64 0, .int .i64 0, .int .u32 0, .int .i64 0] ∧ W1.heap.size ≤ g)
  case keep => (rintro _ v w w' ⟨g, e, h, h'⟩ hb; exact ⟨g, e, h.next hb, h'⟩)
  case hangs => exact fun _ _ _ => rfl
  case now => (intro vs w' R hG hn hR; have hR' := Lib.hid hR; have hn' := Lib.hid hn; clear hR hn; replace hG : Below _ _ _ := hG; refine ⟨rfl, ?_⟩; go_simp; exact hR'.out _ _ ⟨_, rfl, At.new _ _ _, hG.size⟩ ((Below.refl _ _).alloc (Nat.le_refl _) _))
  (try simp only [Act.put, List.setIfInBounds_toArray, List.set_cons_zero, List.set_cons_succ])
  refine line_last (fun vs W2 hG hk => ?_)
  replace hG : Below _ _ _ := hG
  obtain ⟨⟨g, e3, ag, hg⟩, _⟩ := hk
  dsimp only at e3
  generalize vs 12 = v12 at *
  subst e3
  have y0 := ag.cell 0 rfl
  have y1 := ag.cell 1 rfl
  have y2 := ag.cell 2 rfl
  have y3 := ag.cell 3 rfl
  have y4 := ag.cell 4 rfl
  have y5 := ag.cell 5 rfl
  have y6 := ag.cell 6 rfl
  have y7 := ag.cell 7 rfl
  have y8 := ag.cell 8 rfl
  have y9 := ag.cell 9 rfl
  have f0 := ag.frozen 0
  have f1 := ag.frozen 1
  have f2 := ag.frozen 2
  have f3 := ag.frozen 3
  have f4 := ag.frozen 4
  have f5 := ag.frozen 5
  have f6 := ag.frozen 6
  have f7 := ag.frozen 7
  have f8 := ag.frozen 8
  have f9 := ag.frozen 9
  have aR2 := AR.out.next hG
  have aB2 := AB.out.next hG
  have r0 := aR2.cell 0 rfl
  have r1 := aR2.cell 1 rfl
  have r2 := aR2.cell 2 rfl
  have r3 := aR2.cell 3 rfl
  have r4 := aR2.cell 4 rfl
  have r5 := aR2.cell 5 rfl
  have r6 := aR2.cell 6 rfl
  have r7 := aR2.cell 7 rfl
  have r8 := aR2.cell 8 rfl
  have r9 := aR2.cell 9 rfl
  have q0 := aR2.frozen 0
  have q1 := aR2.frozen 1
  have q2 := aR2.frozen 2
  have q3 := aR2.frozen 3
  have q4 := aR2.frozen 4
  have q5 := aR2.frozen 5
  have q6 := aR2.frozen 6
  have q7 := aR2.frozen 7
  have q8 := aR2.frozen 8
  have q9 := aR2.frozen 9
  have hBW2 : Below w.heap.size w W2 := HB1.out.trans (hG.mono (by omega))
  have hz2 := hG.size
  have hgR : g ≠ w.heap.size + 1 := by omega
  have hgR' : ¬ w.heap.size + 1 = g := by omega
  have hgB : g ≠ w.heap.size := by omega
  have hgB' : ¬ w.heap.size = g := by omega
  have z0 := aB2.cell 0 rfl
  have z1 := aB2.cell 1 rfl
  have z5 := aB2.cell 5 rfl
  have z6 := aB2.cell 6 rfl
  have AG2 := Lib.hid ag
  have AB2 := Lib.hid aB2
  have AR2 := Lib.hid aR2
  have BW2 := Lib.hid hBW2
  clear ag aB2 aR2 hBW2 hrc hk1 x0 x1 x2 x3 x4 x5 x6 x7
  have hgW : w.heap.size ≤ g := by omega
  rcases HCS.out with rfl | rfl | rfl | rfl | rfl | rfl | rfl | rfl | rfl | rfl | rfl | rfl
  · go_upto_region 4 with (fail)
    refine wp_world (fun W => At W g [.int .i64 0, .int .i64 (b1 % n), .int .i64 0, .string ⟨#[]⟩, .int .i64 0, .string ⟨#[]⟩, .int .i64 0, .int .i64 0, .int .u32 0, .int .i64 0] ∧ At W w.heap.size [.int .u8 b0, .int .u8 b1, .int .u8 b2, .int .u8 b3, .int .u8 b4, .int .u8 b5, .int .u8 b6, .int .u8 b7] ∧ At W (w.heap.size + 1) [.int .i64 0, .int .i64 0, .int .i64 0, .string ⟨#[]⟩, .int .i64 0, .string ⟨#[]⟩, .int .i64 0, .int .i64 0, .int .u32 0, .int .i64 0] ∧ Below w.heap.size w W ∧ W.heap.size = W2.heap.size) ⟨((((((((((AG2.out.set 0 _).set 1 _).set 2 _).set 3 _).set 4 _).set 5 _).set 6 _).set 7 _).set 8 _).set 9 _), ((((((((((AB2.out.other _ hgB).other _ hgB).other _ hgB).other _ hgB).other _ hgB).other _ hgB).other _ hgB).other _ hgB).other _ hgB).other _ hgB), ((((((((((AR2.out.other _ hgR).other _ hgR).other _ hgR).other _ hgR).other _ hgR).other _ hgR).other _ hgR).other _ hgR).other _ hgR).other _ hgR), ((((((((((BW2.out.setCell hgW _).setCell hgW _).setCell hgW _).setCell hgW _).setCell hgW _).setCell hgW _).setCell hgW _).setCell hgW _).setCell hgW _).setCell hgW _), by simp⟩ ?_
    rintro W3 ⟨aG, aB3, aR3, hBW3, hz3⟩
    clear y0 f0 r0 q0 y1 f1 r1 q1 y2 f2 r2 q2 y3 f3 r3 q3 y4 f4 r4 q4 y5 f5 r5 q5 y6 f6 r6 q6 y7 f7 r7 q7 y8 f8 r8 q8 y9 f9 r9 q9 z0 z1 z5 z6
    have y0 := aG.cell 0 rfl
    have y1 := aG.cell 1 rfl
    have y2 := aG.cell 2 rfl
    have y3 := aG.cell 3 rfl
    have y4 := aG.cell 4 rfl
    have y5 := aG.cell 5 rfl
    have y6 := aG.cell 6 rfl
    have y7 := aG.cell 7 rfl
    have y8 := aG.cell 8 rfl
    have y9 := aG.cell 9 rfl
    have f0 := aG.frozen 0
    have f1 := aG.frozen 1
    have f2 := aG.frozen 2
    have f3 := aG.frozen 3
    have f4 := aG.frozen 4
    have f5 := aG.frozen 5
    have f6 := aG.frozen 6
    have f7 := aG.frozen 7
    have f8 := aG.frozen 8
    have f9 := aG.frozen 9
    have r0 := aR3.cell 0 rfl
    have r1 := aR3.cell 1 rfl
    have r2 := aR3.cell 2 rfl
    have r3 := aR3.cell 3 rfl
    have r4 := aR3.cell 4 rfl
    have r5 := aR3.cell 5 rfl
    have r6 := aR3.cell 6 rfl
    have r7 := aR3.cell 7 rfl
    have r8 := aR3.cell 8 rfl
    have r9 := aR3.cell 9 rfl
    have q0 := aR3.frozen 0
    have q1 := aR3.frozen 1
    have q2 := aR3.frozen 2
    have q3 := aR3.frozen 3
    have q4 := aR3.frozen 4
    have q5 := aR3.frozen 5
    have q6 := aR3.frozen 6
    have q7 := aR3.frozen 7
    have q8 := aR3.frozen 8
    have q9 := aR3.frozen 9
    have z1 := aB3.cell 1 rfl
    have z5 := aB3.cell 5 rfl
    have z6 := aB3.cell 6 rfl
    have x0 := aB3.cell 0 rfl
    have x1 := aB3.cell 1 rfl
    have x2 := aB3.cell 2 rfl
    have x3 := aB3.cell 3 rfl
    have x4 := aB3.cell 4 rfl
    have x5 := aB3.cell 5 rfl
    have x6 := aB3.cell 6 rfl
    have x7 := aB3.cell 7 rfl
    have BW3 := Lib.hid hBW3
    have AG3 := Lib.hid aG
    have AB3 := Lib.hid aB3
    have AR3 := Lib.hid aR3
    clear aG aB3 aR3 hBW3
    go_wp2_with fail
    refine (HE.out _ (HT.out.below BW3.out)).mono ?_
    rintro e W5 ⟨rfl, hb5⟩
    have aG5 := AG3.out.next hb5
    have aR5 := AR3.out.next hb5
    have BW5 := Lib.hid (BW3.out.trans (hb5.mono BW3.out.size))
    clear y0 f0 r0 q0 y1 f1 r1 q1 y2 f2 r2 q2 y3 f3 r3 q3 y4 f4 r4 q4 y5 f5 r5 q5 y6 f6 r6 q6 y7 f7 r7 q7 y8 f8 r8 q8 y9 f9 r9 q9
    have y0 := aG5.cell 0 rfl
    have y1 := aG5.cell 1 rfl
    have y2 := aG5.cell 2 rfl
    have y3 := aG5.cell 3 rfl
    have y4 := aG5.cell 4 rfl
    have y5 := aG5.cell 5 rfl
    have y6 := aG5.cell 6 rfl
    have y7 := aG5.cell 7 rfl
    have y8 := aG5.cell 8 rfl
    have y9 := aG5.cell 9 rfl
    have f0 := aG5.frozen 0
    have f1 := aG5.frozen 1
    have f2 := aG5.frozen 2
    have f3 := aG5.frozen 3
    have f4 := aG5.frozen 4
    have f5 := aG5.frozen 5
    have f6 := aG5.frozen 6
    have f7 := aG5.frozen 7
    have f8 := aG5.frozen 8
    have f9 := aG5.frozen 9
    have r0 := aR5.cell 0 rfl
    have r1 := aR5.cell 1 rfl
    have r2 := aR5.cell 2 rfl
    have r3 := aR5.cell 3 rfl
    have r4 := aR5.cell 4 rfl
    have r5 := aR5.cell 5 rfl
    have r6 := aR5.cell 6 rfl
    have r7 := aR5.cell 7 rfl
    have r8 := aR5.cell 8 rfl
    have r9 := aR5.cell 9 rfl
    have q0 := aR5.frozen 0
    have q1 := aR5.frozen 1
    have q2 := aR5.frozen 2
    have q3 := aR5.frozen 3
    have q4 := aR5.frozen 4
    have q5 := aR5.frozen 5
    have q6 := aR5.frozen 6
    have q7 := aR5.frozen 7
    have q8 := aR5.frozen 8
    have q9 := aR5.frozen 9
    clear aG5 aR5
    go_wp2
    refine bodyPost_ret (v := .agg #[.int .i64 0, .int .i64 (b1 % n), .int .i64 ek, .string ekey, .int .i64 el, .string ev, .int .i64 0, .int .i64 0, .int .u32 0, .int .i64 0]) (by simp [results, Tryd.results10, go_sem, hgR, hgR', r0, r1, r2, r3, r4, r5, r6, r7, r8, r9, y0, y1, y2, y3, y4, y5, y6, y7, y8, y9]) rfl ⟨?_, ?_⟩
    · rw [EV.out]; simp [Stp.v, Stp.cells, stepOf, ← EK.out, ← FK.out, ← FKEY.out, ← FL.out, ← FV.out]
    · (repeat (with_reducible apply Below.setCell)) <;> first | exact BW5.out | (dsimp only; omega)
  · go_wp2
    refine bodyPost_ret (v := .agg #[.int .i64 1, .int .i64 (b1 % n), .int .i64 0, .string ⟨#[]⟩, .int .i64 0, .string ⟨#[]⟩, .int .i64 0, .int .i64 0, .int .u32 0, .int .i64 0]) (by simp [results, Tryd.results10, go_sem, hgR, hgR', r0, r1, r2, r3, r4, r5, r6, r7, r8, r9, y0, y1, y2, y3, y4, y5, y6, y7, y8, y9]) rfl ⟨?_, ?_⟩
    · rw [EV.out]; simp [Stp.v, Stp.cells, stepOf, ← EK.out]
    · (repeat (with_reducible apply Below.setCell)) <;> first | exact BW2.out | (dsimp only; omega)
  · go_wp2
    refine bodyPost_ret (v := .agg #[.int .i64 2, .int .i64 (b1 % n), .int .i64 0, .string ⟨#[]⟩, .int .i64 0, .string ⟨#[]⟩, .int .i64 0, .int .i64 0, .int .u32 0, .int .i64 0]) (by simp [results, Tryd.results10, go_sem, hgR, hgR', r0, r1, r2, r3, r4, r5, r6, r7, r8, r9, y0, y1, y2, y3, y4, y5, y6, y7, y8, y9]) rfl ⟨?_, ?_⟩
    · rw [EV.out]; simp [Stp.v, Stp.cells, stepOf, ← EK.out]
    · (repeat (with_reducible apply Below.setCell)) <;> first | exact BW2.out | (dsimp only; omega)
  · go_wp2
    refine bodyPost_ret (v := .agg #[.int .i64 3, .int .i64 (b1 % n), .int .i64 0, .string ⟨#[]⟩, .int .i64 0, .string ⟨#[]⟩, .int .i64 0, .int .i64 0, .int .u32 0, .int .i64 0]) (by simp [results, Tryd.results10, go_sem, hgR, hgR', r0, r1, r2, r3, r4, r5, r6, r7, r8, r9, y0, y1, y2, y3, y4, y5, y6, y7, y8, y9]) rfl ⟨?_, ?_⟩
    · rw [EV.out]; simp [Stp.v, Stp.cells, stepOf, ← EK.out]
    · (repeat (with_reducible apply Below.setCell)) <;> first | exact BW2.out | (dsimp only; omega)
  · go_upto_region 11 with (fail)
    refine wp_world (fun W => At W g [.int .i64 4, .int .i64 (b1 % n), .int .i64 0, .string ⟨#[]⟩, .int .i64 0, .string ⟨#[]⟩, .int .i64 0, .int .i64 0, .int .u32 0, .int .i64 0] ∧ At W w.heap.size [.int .u8 b0, .int .u8 b1, .int .u8 b2, .int .u8 b3, .int .u8 b4, .int .u8 b5, .int .u8 b6, .int .u8 b7] ∧ At W (w.heap.size + 1) [.int .i64 0, .int .i64 0, .int .i64 0, .string ⟨#[]⟩, .int .i64 0, .string ⟨#[]⟩, .int .i64 0, .int .i64 0, .int .u32 0, .int .i64 0] ∧ Below w.heap.size w W ∧ W.heap.size = W2.heap.size) ⟨((((((((((AG2.out.set 0 _).set 1 _).set 2 _).set 3 _).set 4 _).set 5 _).set 6 _).set 7 _).set 8 _).set 9 _), ((((((((((AB2.out.other _ hgB).other _ hgB).other _ hgB).other _ hgB).other _ hgB).other _ hgB).other _ hgB).other _ hgB).other _ hgB).other _ hgB), ((((((((((AR2.out.other _ hgR).other _ hgR).other _ hgR).other _ hgR).other _ hgR).other _ hgR).other _ hgR).other _ hgR).other _ hgR).other _ hgR), ((((((((((BW2.out.setCell hgW _).setCell hgW _).setCell hgW _).setCell hgW _).setCell hgW _).setCell hgW _).setCell hgW _).setCell hgW _).setCell hgW _).setCell hgW _), by simp⟩ ?_
    rintro W3 ⟨aG, aB3, aR3, hBW3, hz3⟩
    clear y0 f0 r0 q0 y1 f1 r1 q1 y2 f2 r2 q2 y3 f3 r3 q3 y4 f4 r4 q4 y5 f5 r5 q5 y6 f6 r6 q6 y7 f7 r7 q7 y8 f8 r8 q8 y9 f9 r9 q9 z0 z1 z5 z6
    have y0 := aG.cell 0 rfl
    have y1 := aG.cell 1 rfl
    have y2 := aG.cell 2 rfl
    have y3 := aG.cell 3 rfl
    have y4 := aG.cell 4 rfl
    have y5 := aG.cell 5 rfl
    have y6 := aG.cell 6 rfl
    have y7 := aG.cell 7 rfl
    have y8 := aG.cell 8 rfl
    have y9 := aG.cell 9 rfl
    have f0 := aG.frozen 0
    have f1 := aG.frozen 1
    have f2 := aG.frozen 2
    have f3 := aG.frozen 3
    have f4 := aG.frozen 4
    have f5 := aG.frozen 5
    have f6 := aG.frozen 6
    have f7 := aG.frozen 7
    have f8 := aG.frozen 8
    have f9 := aG.frozen 9
    have r0 := aR3.cell 0 rfl
    have r1 := aR3.cell 1 rfl
    have r2 := aR3.cell 2 rfl
    have r3 := aR3.cell 3 rfl
    have r4 := aR3.cell 4 rfl
    have r5 := aR3.cell 5 rfl
    have r6 := aR3.cell 6 rfl
    have r7 := aR3.cell 7 rfl
    have r8 := aR3.cell 8 rfl
    have r9 := aR3.cell 9 rfl
    have q0 := aR3.frozen 0
    have q1 := aR3.frozen 1
    have q2 := aR3.frozen 2
    have q3 := aR3.frozen 3
    have q4 := aR3.frozen 4
    have q5 := aR3.frozen 5
    have q6 := aR3.frozen 6
    have q7 := aR3.frozen 7
    have q8 := aR3.frozen 8
    have q9 := aR3.frozen 9
    have z1 := aB3.cell 1 rfl
    have z5 := aB3.cell 5 rfl
    have z6 := aB3.cell 6 rfl
    have BW3 := Lib.hid hBW3
    have AG3 := Lib.hid aG
    have AB3 := Lib.hid aB3
    have AR3 := Lib.hid aR3
    clear aG aB3 aR3 hBW3
    go_wp2
    refine bodyPost_ret (v := .agg #[.int .i64 4, .int .i64 (b1 % n), .int .i64 0, .string ⟨#[]⟩, .int .i64 0, .string ⟨#[]⟩, .int .i64 (b5 % 8), .int .i64 0, .int .u32 0, .int .i64 0]) (by simp [results, Tryd.results10, go_sem, hgR, hgR', r0, r1, r2, r3, r4, r5, r6, r7, r8, r9, y0, y1, y2, y3, y4, y5, y6, y7, y8, y9]) rfl ⟨?_, ?_⟩
    · rw [EV.out]; simp [Stp.v, Stp.cells, stepOf, ← EK.out]
    · (repeat (with_reducible apply Below.setCell)) <;> first | exact BW3.out | (dsimp only; omega)
  · go_upto_region 11 with (fail)
    refine wp_world (fun W => At W g [.int .i64 5, .int .i64 (b1 % n), .int .i64 0, .string ⟨#[]⟩, .int .i64 0, .string ⟨#[]⟩, .int .i64 0, .int .i64 0, .int .u32 0, .int .i64 0] ∧ At W w.heap.size [.int .u8 b0, .int .u8 b1, .int .u8 b2, .int .u8 b3, .int .u8 b4, .int .u8 b5, .int .u8 b6, .int .u8 b7] ∧ At W (w.heap.size + 1) [.int .i64 0, .int .i64 0, .int .i64 0, .string ⟨#[]⟩, .int .i64 0, .string ⟨#[]⟩, .int .i64 0, .int .i64 0, .int .u32 0, .int .i64 0] ∧ Below w.heap.size w W ∧ W.heap.size = W2.heap.size) ⟨((((((((((AG2.out.set 0 _).set 1 _).set 2 _).set 3 _).set 4 _).set 5 _).set 6 _).set 7 _).set 8 _).set 9 _), ((((((((((AB2.out.other _ hgB).other _ hgB).other _ hgB).other _ hgB).other _ hgB).other _ hgB).other _ hgB).other _ hgB).other _ hgB).other _ hgB), ((((((((((AR2.out.other _ hgR).other _ hgR).other _ hgR).other _ hgR).other _ hgR).other _ hgR).other _ hgR).other _ hgR).other _ hgR).other _ hgR), ((((((((((BW2.out.setCell hgW _).setCell hgW _).setCell hgW _).setCell hgW _).setCell hgW _).setCell hgW _).setCell hgW _).setCell hgW _).setCell hgW _).setCell hgW _), by simp⟩ ?_
    rintro W3 ⟨aG, aB3, aR3, hBW3, hz3⟩
    clear y0 f0 r0 q0 y1 f1 r1 q1 y2 f2 r2 q2 y3 f3 r3 q3 y4 f4 r4 q4 y5 f5 r5 q5 y6 f6 r6 q6 y7 f7 r7 q7 y8 f8 r8 q8 y9 f9 r9 q9 z0 z1 z5 z6
    have y0 := aG.cell 0 rfl
    have y1 := aG.cell 1 rfl
    have y2 := aG.cell 2 rfl
    have y3 := aG.cell 3 rfl
    have y4 := aG.cell 4 rfl
    have y5 := aG.cell 5 rfl
    have y6 := aG.cell 6 rfl
    have y7 := aG.cell 7 rfl
    have y8 := aG.cell 8 rfl
    have y9 := aG.cell 9 rfl
    have f0 := aG.frozen 0
    have f1 := aG.frozen 1
    have f2 := aG.frozen 2
    have f3 := aG.frozen 3
    have f4 := aG.frozen 4
    have f5 := aG.frozen 5
    have f6 := aG.frozen 6
    have f7 := aG.frozen 7
    have f8 := aG.frozen 8
    have f9 := aG.frozen 9
    have r0 := aR3.cell 0 rfl
    have r1 := aR3.cell 1 rfl
    have r2 := aR3.cell 2 rfl
    have r3 := aR3.cell 3 rfl
    have r4 := aR3.cell 4 rfl
    have r5 := aR3.cell 5 rfl
    have r6 := aR3.cell 6 rfl
    have r7 := aR3.cell 7 rfl
    have r8 := aR3.cell 8 rfl
    have r9 := aR3.cell 9 rfl
    have q0 := aR3.frozen 0
    have q1 := aR3.frozen 1
    have q2 := aR3.frozen 2
    have q3 := aR3.frozen 3
    have q4 := aR3.frozen 4
    have q5 := aR3.frozen 5
    have q6 := aR3.frozen 6
    have q7 := aR3.frozen 7
    have q8 := aR3.frozen 8
    have q9 := aR3.frozen 9
    have z1 := aB3.cell 1 rfl
    have z5 := aB3.cell 5 rfl
    have z6 := aB3.cell 6 rfl
    have BW3 := Lib.hid hBW3
    have AG3 := Lib.hid aG
    have AB3 := Lib.hid aB3
    have AR3 := Lib.hid aR3
    clear aG aB3 aR3 hBW3
    go_wp2
    refine bodyPost_ret (v := .agg #[.int .i64 5, .int .i64 (b1 % n), .int .i64 0, .string ⟨#[]⟩, .int .i64 0, .string ⟨#[]⟩, .int .i64 (b5 % 8), .int .i64 0, .int .u32 0, .int .i64 0]) (by simp [results, Tryd.results10, go_sem, hgR, hgR', r0, r1, r2, r3, r4, r5, r6, r7, r8, r9, y0, y1, y2, y3, y4, y5, y6, y7, y8, y9]) rfl ⟨?_, ?_⟩
    · rw [EV.out]; simp [Stp.v, Stp.cells, stepOf, ← EK.out]
    · (repeat (with_reducible apply Below.setCell)) <;> first | exact BW3.out | (dsimp only; omega)
  · go_upto_region 11 with (fail)
    refine wp_world (fun W => At W g [.int .i64 6, .int .i64 (b1 % n), .int .i64 0, .string ⟨#[]⟩, .int .i64 0, .string ⟨#[]⟩, .int .i64 0, .int .i64 0, .int .u32 0, .int .i64 0] ∧ At W w.heap.size [.int .u8 b0, .int .u8 b1, .int .u8 b2, .int .u8 b3, .int .u8 b4, .int .u8 b5, .int .u8 b6, .int .u8 b7] ∧ At W (w.heap.size + 1) [.int .i64 0, .int .i64 0, .int .i64 0, .string ⟨#[]⟩, .int .i64 0, .string ⟨#[]⟩, .int .i64 0, .int .i64 0, .int .u32 0, .int .i64 0] ∧ Below w.heap.size w W ∧ W.heap.size = W2.heap.size) ⟨((((((((((AG2.out.set 0 _).set 1 _).set 2 _).set 3 _).set 4 _).set 5 _).set 6 _).set 7 _).set 8 _).set 9 _), ((((((((((AB2.out.other _ hgB).other _ hgB).other _ hgB).other _ hgB).other _ hgB).other _ hgB).other _ hgB).other _ hgB).other _ hgB).other _ hgB), ((((((((((AR2.out.other _ hgR).other _ hgR).other _ hgR).other _ hgR).other _ hgR).other _ hgR).other _ hgR).other _ hgR).other _ hgR).other _ hgR), ((((((((((BW2.out.setCell hgW _).setCell hgW _).setCell hgW _).setCell hgW _).setCell hgW _).setCell hgW _).setCell hgW _).setCell hgW _).setCell hgW _).setCell hgW _), by simp⟩ ?_
    rintro W3 ⟨aG, aB3, aR3, hBW3, hz3⟩
    clear y0 f0 r0 q0 y1 f1 r1 q1 y2 f2 r2 q2 y3 f3 r3 q3 y4 f4 r4 q4 y5 f5 r5 q5 y6 f6 r6 q6 y7 f7 r7 q7 y8 f8 r8 q8 y9 f9 r9 q9 z0 z1 z5 z6
    have y0 := aG.cell 0 rfl
    have y1 := aG.cell 1 rfl
    have y2 := aG.cell 2 rfl
    have y3 := aG.cell 3 rfl
    have y4 := aG.cell 4 rfl
    have y5 := aG.cell 5 rfl
    have y6 := aG.cell 6 rfl
    have y7 := aG.cell 7 rfl
    have y8 := aG.cell 8 rfl
    have y9 := aG.cell 9 rfl
    have f0 := aG.frozen 0
    have f1 := aG.frozen 1
    have f2 := aG.frozen 2
    have f3 := aG.frozen 3
    have f4 := aG.frozen 4
    have f5 := aG.frozen 5
    have f6 := aG.frozen 6
    have f7 := aG.frozen 7
    have f8 := aG.frozen 8
    have f9 := aG.frozen 9
    have r0 := aR3.cell 0 rfl
    have r1 := aR3.cell 1 rfl
    have r2 := aR3.cell 2 rfl
    have r3 := aR3.cell 3 rfl
    have r4 := aR3.cell 4 rfl
    have r5 := aR3.cell 5 rfl
    have r6 := aR3.cell 6 rfl
    have r7 := aR3.cell 7 rfl
    have r8 := aR3.cell 8 rfl
    have r9 := aR3.cell 9 rfl
    have q0 := aR3.frozen 0
    have q1 := aR3.frozen 1
    have q2 := aR3.frozen 2
    have q3 := aR3.frozen 3
    have q4 := aR3.frozen 4
    have q5 := aR3.frozen 5
    have q6 := aR3.frozen 6
    have q7 := aR3.frozen 7
    have q8 := aR3.frozen 8
    have q9 := aR3.frozen 9
    have z1 := aB3.cell 1 rfl
    have z5 := aB3.cell 5 rfl
    have z6 := aB3.cell 6 rfl
    have BW3 := Lib.hid hBW3
    have AG3 := Lib.hid aG
    have AB3 := Lib.hid aB3
    have AR3 := Lib.hid aR3
    clear aG aB3 aR3 hBW3
    go_wp2
    refine bodyPost_ret (v := .agg #[.int .i64 6, .int .i64 (b1 % n), .int .i64 0, .string ⟨#[]⟩, .int .i64 0, .string ⟨#[]⟩, .int .i64 (b5 % 8), .int .i64 0, .int .u32 0, .int .i64 0]) (by simp [results, Tryd.results10, go_sem, hgR, hgR', r0, r1, r2, r3, r4, r5, r6, r7, r8, r9, y0, y1, y2, y3, y4, y5, y6, y7, y8, y9]) rfl ⟨?_, ?_⟩
    · rw [EV.out]; simp [Stp.v, Stp.cells, stepOf, ← EK.out]
    · (repeat (with_reducible apply Below.setCell)) <;> first | exact BW3.out | (dsimp only; omega)
  · go_upto_region 6 with (fail)
    refine wp_world (fun W => At W g [.int .i64 7, .int .i64 (b1 % n), .int .i64 0, .string ⟨#[]⟩, .int .i64 0, .string ⟨#[]⟩, .int .i64 0, .int .i64 0, .int .u32 0, .int .i64 0] ∧ At W w.heap.size [.int .u8 b0, .int .u8 b1, .int .u8 b2, .int .u8 b3, .int .u8 b4, .int .u8 b5, .int .u8 b6, .int .u8 b7] ∧ At W (w.heap.size + 1) [.int .i64 0, .int .i64 0, .int .i64 0, .string ⟨#[]⟩, .int .i64 0, .string ⟨#[]⟩, .int .i64 0, .int .i64 0, .int .u32 0, .int .i64 0] ∧ Below w.heap.size w W ∧ W.heap.size = W2.heap.size) ⟨((((((((((AG2.out.set 0 _).set 1 _).set 2 _).set 3 _).set 4 _).set 5 _).set 6 _).set 7 _).set 8 _).set 9 _), ((((((((((AB2.out.other _ hgB).other _ hgB).other _ hgB).other _ hgB).other _ hgB).other _ hgB).other _ hgB).other _ hgB).other _ hgB).other _ hgB), ((((((((((AR2.out.other _ hgR).other _ hgR).other _ hgR).other _ hgR).other _ hgR).other _ hgR).other _ hgR).other _ hgR).other _ hgR).other _ hgR), ((((((((((BW2.out.setCell hgW _).setCell hgW _).setCell hgW _).setCell hgW _).setCell hgW _).setCell hgW _).setCell hgW _).setCell hgW _).setCell hgW _).setCell hgW _), by simp⟩ ?_
    rintro W3 ⟨aG, aB3, aR3, hBW3, hz3⟩
    clear y0 f0 r0 q0 y1 f1 r1 q1 y2 f2 r2 q2 y3 f3 r3 q3 y4 f4 r4 q4 y5 f5 r5 q5 y6 f6 r6 q6 y7 f7 r7 q7 y8 f8 r8 q8 y9 f9 r9 q9 z0 z1 z5 z6
    have y0 := aG.cell 0 rfl
    have y1 := aG.cell 1 rfl
    have y2 := aG.cell 2 rfl
    have y3 := aG.cell 3 rfl
    have y4 := aG.cell 4 rfl
    have y5 := aG.cell 5 rfl
    have y6 := aG.cell 6 rfl
    have y7 := aG.cell 7 rfl
    have y8 := aG.cell 8 rfl
    have y9 := aG.cell 9 rfl
    have f0 := aG.frozen 0
    have f1 := aG.frozen 1
    have f2 := aG.frozen 2
    have f3 := aG.frozen 3
    have f4 := aG.frozen 4
    have f5 := aG.frozen 5
    have f6 := aG.frozen 6
    have f7 := aG.frozen 7
    have f8 := aG.frozen 8
    have f9 := aG.frozen 9
    have r0 := aR3.cell 0 rfl
    have r1 := aR3.cell 1 rfl
    have r2 := aR3.cell 2 rfl
    have r3 := aR3.cell 3 rfl
    have r4 := aR3.cell 4 rfl
    have r5 := aR3.cell 5 rfl
    have r6 := aR3.cell 6 rfl
    have r7 := aR3.cell 7 rfl
    have r8 := aR3.cell 8 rfl
    have r9 := aR3.cell 9 rfl
    have q0 := aR3.frozen 0
    have q1 := aR3.frozen 1
    have q2 := aR3.frozen 2
    have q3 := aR3.frozen 3
    have q4 := aR3.frozen 4
    have q5 := aR3.frozen 5
    have q6 := aR3.frozen 6
    have q7 := aR3.frozen 7
    have q8 := aR3.frozen 8
    have q9 := aR3.frozen 9
    have z1 := aB3.cell 1 rfl
    have z5 := aB3.cell 5 rfl
    have z6 := aB3.cell 6 rfl
    have z2 := aB3.cell 2 rfl
    have z3 := aB3.cell 3 rfl
    have z7 := aB3.cell 7 rfl
    have hlB := aB3.lt
    have hlG := aG.lt
    have hlR := aR3.lt
    have BW3 := Lib.hid hBW3
    have AG3 := Lib.hid aG
    have AB3 := Lib.hid aB3
    have AR3 := Lib.hid aR3
    clear aG aB3 aR3 hBW3
    clear y0 f0 r0 q0 y1 f1 r1 q1 y2 f2 r2 q2 y3 f3 r3 q3 y4 f4 r4 q4 y5 f5 r5 q5 y6 f6 r6 q6 y7 f7 r7 q7 y8 f8 r8 q8 y9 f9 r9 q9
    have s1 : IntKind.i64.wrap (b3 * 256) = b3 * 256 := IntWalk.i64_in _ (by omega)
    have s2 : IntKind.i64.wrap (b6 + b3 * 256) = b6 + b3 * 256 := IntWalk.i64_in _ (by omega)
    have s3 : IntKind.u32.wrap b7 = b7 := by simp [IntKind.wrap, IntKind.bits, IntKind.signed]; omega
    have s4 : IntKind.u32.wrap (b7 + 1) = b7 + 1 := by simp [IntKind.wrap, IntKind.bits, IntKind.signed]; omega
    have s5 : b2.tmod 24 = b2 % 24 := Int.tmod_eq_emod_of_nonneg (by omega)
    have s6 := fun W => shift_mask Tryd.prog b7 b2 (by omega) (by omega) W
    refine wp_region_line_any (G := PutIn g 7 (.int .i64 (b6 + b3 * 256)) W3) (E := PutIn g 7 (.int .i64 (b6 + b3 * 256))) 19 (by kernel_rfl) (by kernel_rfl) (fun w _ => PutIn.refl _ _ _ _) (fun _ _ h1 h2 => h1.trans h2) (PutIn.drew _ _ _ _) ?_
    apply line_fix
    case now => (intro vs w' R hG hn hR; have hR' := Lib.hid hR; clear hR hn; skip; clear hG; go_simp; exact hR'.out _ (PutIn.refl _ _ _ _))
    case hangs => exact fun _ _ _ => rfl
    case hR => exact fun _ _ => ⟨_, PutIn.refl _ _ _ _⟩
    (try simp only [Act.put, List.setIfInBounds_toArray, List.set_cons_zero, List.set_cons_succ])
    apply line_fix
    case now => (intro vs w' R hG hn hR; have hR' := Lib.hid hR; clear hR hn; have e6 := (hG.cell w.heap.size 6 hlB hgB').trans z6; clear hG; go_simp; exact hR'.out _ (PutIn.refl _ _ _ _))
    case hangs => exact fun _ _ _ => rfl
    case hR => exact fun _ _ => ⟨_, PutIn.refl _ _ _ _⟩
    (try simp only [Act.put, List.setIfInBounds_toArray, List.set_cons_zero, List.set_cons_succ])
    apply line_fix
    case now => (intro vs w' R hG hn hR; have hR' := Lib.hid hR; clear hR hn; skip; clear hG; go_simp; exact hR'.out _ (PutIn.refl _ _ _ _))
    case hangs => exact fun _ _ _ => rfl
    case hR => exact fun _ _ => ⟨_, PutIn.refl _ _ _ _⟩
    (try simp only [Act.put, List.setIfInBounds_toArray, List.set_cons_zero, List.set_cons_succ])
    apply line_fix
    case now => (intro vs w' R hG hn hR; have hR' := Lib.hid hR; clear hR hn; skip; clear hG; go_simp; exact hR'.out _ (PutIn.refl _ _ _ _))
    case hangs => exact fun _ _ _ => rfl
    case hR => exact fun _ _ => ⟨_, PutIn.refl _ _ _ _⟩
    (try simp only [Act.put, List.setIfInBounds_toArray, List.set_cons_zero, List.set_cons_succ])
    apply line_fix
    case now => (intro vs w' R hG hn hR; have hR' := Lib.hid hR; clear hR hn; have e3 := (hG.cell w.heap.size 3 hlB hgB').trans z3; clear hG; go_simp; exact hR'.out _ (PutIn.refl _ _ _ _))
    case hangs => exact fun _ _ _ => rfl
    case hR => exact fun _ _ => ⟨_, PutIn.refl _ _ _ _⟩
    (try simp only [Act.put, List.setIfInBounds_toArray, List.set_cons_zero, List.set_cons_succ])
    apply line_fix
    case now => (intro vs w' R hG hn hR; have hR' := Lib.hid hR; clear hR hn; skip; clear hG; go_simp; exact hR'.out _ (PutIn.refl _ _ _ _))
    case hangs => exact fun _ _ _ => rfl
    case hR => exact fun _ _ => ⟨_, PutIn.refl _ _ _ _⟩
    (try simp only [Act.put, List.setIfInBounds_toArray, List.set_cons_zero, List.set_cons_succ])
    apply line_fix
    case now => (intro vs w' R hG hn hR; have hR' := Lib.hid hR; clear hR hn; skip; clear hG; go_simp; exact hR'.out _ (PutIn.refl _ _ _ _))
    case hangs => exact fun _ _ _ => rfl
    case hR => exact fun _ _ => ⟨_, PutIn.refl _ _ _ _⟩
    (try simp only [Act.put, List.setIfInBounds_toArray, List.set_cons_zero, List.set_cons_succ])
    apply line_fix
    case now => (intro vs w' R hG hn hR; have hR' := Lib.hid hR; clear hR hn; skip; clear hG; go_simp; exact hR'.out _ (PutIn.refl _ _ _ _))
    case hangs => exact fun _ _ _ => rfl
    case hR => exact fun _ _ => ⟨_, PutIn.refl _ _ _ _⟩
    (try simp only [Act.put, List.setIfInBounds_toArray, List.set_cons_zero, List.set_cons_succ])
    apply line_fix
    case now => (intro vs w' R hG hn hR; have hR' := Lib.hid hR; clear hR hn; skip; clear hG; go_simp; exact hR'.out _ (PutIn.refl _ _ _ _))
    case hangs => exact fun _ _ _ => rfl
    case hR => exact fun _ _ => ⟨_, PutIn.refl _ _ _ _⟩
    (try simp only [Act.put, List.setIfInBounds_toArray, List.set_cons_zero, List.set_cons_succ])
    apply line_fix
    case now => (intro vs w' R hG hn hR; have hR' := Lib.hid hR; clear hR hn; have e7 := (hG.cell w.heap.size 7 hlB hgB').trans z7; clear hG; go_simp; exact hR'.out _ (PutIn.refl _ _ _ _))
    case hangs => exact fun _ _ _ => rfl
    case hR => exact fun _ _ => ⟨_, PutIn.refl _ _ _ _⟩
    (try simp only [Act.put, List.setIfInBounds_toArray, List.set_cons_zero, List.set_cons_succ])
    apply line_fix
    case now => (intro vs w' R hG hn hR; have hR' := Lib.hid hR; clear hR hn; skip; clear hG; go_simp; exact hR'.out _ (PutIn.refl _ _ _ _))
    case hangs => exact fun _ _ _ => rfl
    case hR => exact fun _ _ => ⟨_, PutIn.refl _ _ _ _⟩
    (try simp only [Act.put, List.setIfInBounds_toArray, List.set_cons_zero, List.set_cons_succ])
    apply line_fix
    case now => (intro vs w' R hG hn hR; have hR' := Lib.hid hR; clear hR hn; skip; clear hG; go_simp; exact hR'.out _ (PutIn.refl _ _ _ _))
    case hangs => exact fun _ _ _ => rfl
    case hR => exact fun _ _ => ⟨_, PutIn.refl _ _ _ _⟩
    (try simp only [Act.put, List.setIfInBounds_toArray, List.set_cons_zero, List.set_cons_succ])
    apply line_fix
    case now => (intro vs w' R hG hn hR; have hR' := Lib.hid hR; clear hR hn; skip; clear hG; go_simp; exact hR'.out _ (PutIn.refl _ _ _ _))
    case hangs => exact fun _ _ _ => rfl
    case hR => exact fun _ _ => ⟨_, PutIn.refl _ _ _ _⟩
    (try simp only [Act.put, List.setIfInBounds_toArray, List.set_cons_zero, List.set_cons_succ])
    apply line_fix
    case now => (intro vs w' R hG hn hR; have hR' := Lib.hid hR; clear hR hn; have e2 := (hG.cell w.heap.size 2 hlB hgB').trans z2; clear hG; go_simp; exact hR'.out _ (PutIn.refl _ _ _ _))
    case hangs => exact fun _ _ _ => rfl
    case hR => exact fun _ _ => ⟨_, PutIn.refl _ _ _ _⟩
    (try simp only [Act.put, List.setIfInBounds_toArray, List.set_cons_zero, List.set_cons_succ])
    apply line_fix
    case now => (intro vs w' R hG hn hR; have hR' := Lib.hid hR; clear hR hn; skip; clear hG; go_simp; exact hR'.out _ (PutIn.refl _ _ _ _))
    case hangs => exact fun _ _ _ => rfl
    case hR => exact fun _ _ => ⟨_, PutIn.refl _ _ _ _⟩
    (try simp only [Act.put, List.setIfInBounds_toArray, List.set_cons_zero, List.set_cons_succ])
    apply line_fix
    case now => (intro vs w' R hG hn hR; have hR' := Lib.hid hR; clear hR hn; skip; clear hG; go_simp; exact hR'.out _ (PutIn.refl _ _ _ _))
    case hangs => exact fun _ _ _ => rfl
    case hR => exact fun _ _ => ⟨_, PutIn.refl _ _ _ _⟩
    (try simp only [Act.put, List.setIfInBounds_toArray, List.set_cons_zero, List.set_cons_succ])
    apply line_fix
    case now => (intro vs w' R hG hn hR; have hR' := Lib.hid hR; clear hR hn; skip; clear hG; go_simp; exact hR'.out _ (PutIn.refl _ _ _ _))
    case hangs => exact fun _ _ _ => rfl
    case hR => exact fun _ _ => ⟨_, PutIn.refl _ _ _ _⟩
    (try simp only [Act.put, List.setIfInBounds_toArray, List.set_cons_zero, List.set_cons_succ])
    apply line_var (Φ := fun _ _ w => At w g [.int .i64 7, .int .i64 (b1 % n), .int .i64 0, .string ⟨#[]⟩, .int .i64 0, .string ⟨#[]⟩, .int .i64 0, .int .i64 (b6 + b3 * 256), .int .u32 0, .int .i64 0])
    case keep => (intro _ _ w w' h hp; rcases hp.here _ h with h1 | h1 <;> exact h1)
    case hangs => exact fun _ _ _ => rfl
    case now =>
      intro vs w' R hG hn hR
      have hR' := Lib.hid hR
      clear hR hn
      have hA : ∃ z, At w' g [.int .i64 7, .int .i64 (b1 % n), .int .i64 0, .string ⟨#[]⟩, .int .i64 0, .string ⟨#[]⟩, .int .i64 0, z, .int .u32 0, .int .i64 0] := by rcases hG.here _ AG3.out with h1 | h1 <;> exact ⟨_, h1⟩
      obtain ⟨z, hA⟩ := hA
      have y7 := hA.cell 7 rfl
      have f7 := hA.frozen 7
      refine ⟨rfl, ?_⟩
      go_simp
      exact hR'.out _ _ (hA.set 7 _) PutIn.set
    (try simp only [Act.put, List.setIfInBounds_toArray, List.set_cons_zero, List.set_cons_succ])
    apply line_fix
    case now => (intro vs w' R hG hn hR; have hR' := Lib.hid hR; clear hR hn; skip; clear hG; go_simp; exact hR'.out _ (PutIn.refl _ _ _ _))
    case hangs => exact fun _ _ _ => rfl
    case hR => exact fun _ _ => ⟨_, PutIn.refl _ _ _ _⟩
    (try simp only [Act.put, List.setIfInBounds_toArray, List.set_cons_zero, List.set_cons_succ])
    refine line_last (fun vs W4 hG4 hk => ?_)
    obtain ⟨aG4, _⟩ := hk
    dsimp only at aG4
    have BW4 := Lib.hid (BW3.out.trans (hG4.below hgW (by omega)))
    have aR4 : At W4 (w.heap.size + 1) [.int .i64 0, .int .i64 0, .int .i64 0, .string ⟨#[]⟩, .int .i64 0, .string ⟨#[]⟩, .int .i64 0, .int .i64 0, .int .u32 0, .int .i64 0] := by
      obtain ⟨t, ht⟩ := AR3.out
      exact ⟨t, (hG4.far _ hlR hgR').trans ht⟩
    have z5' := (hG4.cell w.heap.size 5 hlB hgB').trans z5
    have y0 := aG4.cell 0 rfl
    have y1 := aG4.cell 1 rfl
    have y2 := aG4.cell 2 rfl
    have y3 := aG4.cell 3 rfl
    have y4 := aG4.cell 4 rfl
    have y5 := aG4.cell 5 rfl
    have y6 := aG4.cell 6 rfl
    have y7 := aG4.cell 7 rfl
    have y8 := aG4.cell 8 rfl
    have y9 := aG4.cell 9 rfl
    have f0 := aG4.frozen 0
    have f1 := aG4.frozen 1
    have f2 := aG4.frozen 2
    have f3 := aG4.frozen 3
    have f4 := aG4.frozen 4
    have f5 := aG4.frozen 5
    have f6 := aG4.frozen 6
    have f7 := aG4.frozen 7
    have f8 := aG4.frozen 8
    have f9 := aG4.frozen 9
    have r0 := aR4.cell 0 rfl
    have r1 := aR4.cell 1 rfl
    have r2 := aR4.cell 2 rfl
    have r3 := aR4.cell 3 rfl
    have r4 := aR4.cell 4 rfl
    have r5 := aR4.cell 5 rfl
    have r6 := aR4.cell 6 rfl
    have r7 := aR4.cell 7 rfl
    have r8 := aR4.cell 8 rfl
    have r9 := aR4.cell 9 rfl
    have q0 := aR4.frozen 0
    have q1 := aR4.frozen 1
    have q2 := aR4.frozen 2
    have q3 := aR4.frozen 3
    have q4 := aR4.frozen 4
    have q5 := aR4.frozen 5
    have q6 := aR4.frozen 6
    have q7 := aR4.frozen 7
    have q8 := aR4.frozen 8
    have q9 := aR4.frozen 9
    clear aG4 aR4 hG4 z1 z2 z3 z5 z6 z7 s6
    have ms := mask_small b7 b2 (by omega) (by omega)
    go_wp2
    refine bodyPost_ret (v := .agg #[.int .i64 7, .int .i64 (b1 % n), .int .i64 0, .string ⟨#[]⟩, .int .i64 0, .string ⟨#[]⟩, .int .i64 (b5 % 8), .int .i64 (b6 + b3 * 256), .int .u32 ((b7 + 1) * 2 ^ (b2 % 24).toNat), .int .i64 0]) (by simp [results, Tryd.results10, go_sem, ms, hgR, hgR', r0, r1, r2, r3, r4, r5, r6, r7, r8, r9, y0, y1, y2, y3, y4, y5, y6, y7, y8, y9]) rfl ⟨?_, ?_⟩
    · rw [EV.out]; simp [Stp.v, Stp.cells, stepOf, stMask, ← EK.out]
    · (repeat (with_reducible apply Below.setCell)) <;> first | exact BW4.out | (dsimp only; omega)
  · go_upto_region 15 with (fail)
    refine wp_world (fun W => At W g [.int .i64 8, .int .i64 (b1 % n), .int .i64 0, .string ⟨#[]⟩, .int .i64 0, .string ⟨#[]⟩, .int .i64 0, .int .i64 0, .int .u32 0, .int .i64 0] ∧ At W w.heap.size [.int .u8 b0, .int .u8 b1, .int .u8 b2, .int .u8 b3, .int .u8 b4, .int .u8 b5, .int .u8 b6, .int .u8 b7] ∧ At W (w.heap.size + 1) [.int .i64 0, .int .i64 0, .int .i64 0, .string ⟨#[]⟩, .int .i64 0, .string ⟨#[]⟩, .int .i64 0, .int .i64 0, .int .u32 0, .int .i64 0] ∧ Below w.heap.size w W ∧ W.heap.size = W2.heap.size) ⟨((((((((((AG2.out.set 0 _).set 1 _).set 2 _).set 3 _).set 4 _).set 5 _).set 6 _).set 7 _).set 8 _).set 9 _), ((((((((((AB2.out.other _ hgB).other _ hgB).other _ hgB).other _ hgB).other _ hgB).other _ hgB).other _ hgB).other _ hgB).other _ hgB).other _ hgB), ((((((((((AR2.out.other _ hgR).other _ hgR).other _ hgR).other _ hgR).other _ hgR).other _ hgR).other _ hgR).other _ hgR).other _ hgR).other _ hgR), ((((((((((BW2.out.setCell hgW _).setCell hgW _).setCell hgW _).setCell hgW _).setCell hgW _).setCell hgW _).setCell hgW _).setCell hgW _).setCell hgW _).setCell hgW _), by simp⟩ ?_
    rintro W3 ⟨aG, aB3, aR3, hBW3, hz3⟩
    clear y0 f0 r0 q0 y1 f1 r1 q1 y2 f2 r2 q2 y3 f3 r3 q3 y4 f4 r4 q4 y5 f5 r5 q5 y6 f6 r6 q6 y7 f7 r7 q7 y8 f8 r8 q8 y9 f9 r9 q9 z0 z1 z5 z6
    have y0 := aG.cell 0 rfl
    have y1 := aG.cell 1 rfl
    have y2 := aG.cell 2 rfl
    have y3 := aG.cell 3 rfl
    have y4 := aG.cell 4 rfl
    have y5 := aG.cell 5 rfl
    have y6 := aG.cell 6 rfl
    have y7 := aG.cell 7 rfl
    have y8 := aG.cell 8 rfl
    have y9 := aG.cell 9 rfl
    have f0 := aG.frozen 0
    have f1 := aG.frozen 1
    have f2 := aG.frozen 2
    have f3 := aG.frozen 3
    have f4 := aG.frozen 4
    have f5 := aG.frozen 5
    have f6 := aG.frozen 6
    have f7 := aG.frozen 7
    have f8 := aG.frozen 8
    have f9 := aG.frozen 9
    have r0 := aR3.cell 0 rfl
    have r1 := aR3.cell 1 rfl
    have r2 := aR3.cell 2 rfl
    have r3 := aR3.cell 3 rfl
    have r4 := aR3.cell 4 rfl
    have r5 := aR3.cell 5 rfl
    have r6 := aR3.cell 6 rfl
    have r7 := aR3.cell 7 rfl
    have r8 := aR3.cell 8 rfl
    have r9 := aR3.cell 9 rfl
    have q0 := aR3.frozen 0
    have q1 := aR3.frozen 1
    have q2 := aR3.frozen 2
    have q3 := aR3.frozen 3
    have q4 := aR3.frozen 4
    have q5 := aR3.frozen 5
    have q6 := aR3.frozen 6
    have q7 := aR3.frozen 7
    have q8 := aR3.frozen 8
    have q9 := aR3.frozen 9
    have z1 := aB3.cell 1 rfl
    have z5 := aB3.cell 5 rfl
    have z6 := aB3.cell 6 rfl
    have BW3 := Lib.hid hBW3
    have AG3 := Lib.hid aG
    have AB3 := Lib.hid aB3
    have AR3 := Lib.hid aR3
    clear aG aB3 aR3 hBW3
    by_cases hm : b1 % (n + 1) = n
    · have hm' : (b1 % (n + 1) == n) = true := by simpa using hm
      have HM := Lib.hid hm
      clear hm
      go_wp2
      refine bodyPost_ret (v := .agg #[.int .i64 8, .int .i64 5, .int .i64 0, .string ⟨#[]⟩, .int .i64 0, .string ⟨#[]⟩, .int .i64 0, .int .i64 0, .int .u32 0, .int .i64 0]) (by simp [results, Tryd.results10, go_sem, hgR, hgR', r0, r1, r2, r3, r4, r5, r6, r7, r8, r9, y0, y1, y2, y3, y4, y5, y6, y7, y8, y9]) rfl ⟨?_, ?_⟩
      · rw [EV.out]; simp [Stp.v, Stp.cells, stepOf, ← EK.out, HM.out]
      · (repeat (with_reducible apply Below.setCell)) <;> first | exact BW3.out | (dsimp only; omega)
    · have hm' : (b1 % (n + 1) == n) = false := by simpa using hm
      have HM := Lib.hid hm
      clear hm
      go_wp2
      refine bodyPost_ret (v := .agg #[.int .i64 8, .int .i64 (b1 % (n + 1)), .int .i64 0, .string ⟨#[]⟩, .int .i64 0, .string ⟨#[]⟩, .int .i64 0, .int .i64 0, .int .u32 0, .int .i64 0]) (by simp [results, Tryd.results10, go_sem, hgR, hgR', r0, r1, r2, r3, r4, r5, r6, r7, r8, r9, y0, y1, y2, y3, y4, y5, y6, y7, y8, y9]) rfl ⟨?_, ?_⟩
      · rw [EV.out]; simp [Stp.v, Stp.cells, stepOf, ← EK.out, HM.out]
      · (repeat (with_reducible apply Below.setCell)) <;> first | exact BW3.out | (dsimp only; omega)
  · go_upto_region 15 with (fail)
    refine wp_world (fun W => At W g [.int .i64 9, .int .i64 (b1 % n), .int .i64 0, .string ⟨#[]⟩, .int .i64 0, .string ⟨#[]⟩, .int .i64 0, .int .i64 0, .int .u32 0, .int .i64 0] ∧ At W w.heap.size [.int .u8 b0, .int .u8 b1, .int .u8 b2, .int .u8 b3, .int .u8 b4, .int .u8 b5, .int .u8 b6, .int .u8 b7] ∧ At W (w.heap.size + 1) [.int .i64 0, .int .i64 0, .int .i64 0, .string ⟨#[]⟩, .int .i64 0, .string ⟨#[]⟩, .int .i64 0, .int .i64 0, .int .u32 0, .int .i64 0] ∧ Below w.heap.size w W ∧ W.heap.size = W2.heap.size) ⟨((((((((((AG2.out.set 0 _).set 1 _).set 2 _).set 3 _).set 4 _).set 5 _).set 6 _).set 7 _).set 8 _).set 9 _), ((((((((((AB2.out.other _ hgB).other _ hgB).other _ hgB).other _ hgB).other _ hgB).other _ hgB).other _ hgB).other _ hgB).other _ hgB).other _ hgB), ((((((((((AR2.out.other _ hgR).other _ hgR).other _ hgR).other _ hgR).other _ hgR).other _ hgR).other _ hgR).other _ hgR).other _ hgR).other _ hgR), ((((((((((BW2.out.setCell hgW _).setCell hgW _).setCell hgW _).setCell hgW _).setCell hgW _).setCell hgW _).setCell hgW _).setCell hgW _).setCell hgW _).setCell hgW _), by simp⟩ ?_
    rintro W3 ⟨aG, aB3, aR3, hBW3, hz3⟩
    clear y0 f0 r0 q0 y1 f1 r1 q1 y2 f2 r2 q2 y3 f3 r3 q3 y4 f4 r4 q4 y5 f5 r5 q5 y6 f6 r6 q6 y7 f7 r7 q7 y8 f8 r8 q8 y9 f9 r9 q9 z0 z1 z5 z6
    have y0 := aG.cell 0 rfl
    have y1 := aG.cell 1 rfl
    have y2 := aG.cell 2 rfl
    have y3 := aG.cell 3 rfl
    have y4 := aG.cell 4 rfl
    have y5 := aG.cell 5 rfl
    have y6 := aG.cell 6 rfl
    have y7 := aG.cell 7 rfl
    have y8 := aG.cell 8 rfl
    have y9 := aG.cell 9 rfl
    have f0 := aG.frozen 0
    have f1 := aG.frozen 1
    have f2 := aG.frozen 2
    have f3 := aG.frozen 3
    have f4 := aG.frozen 4
    have f5 := aG.frozen 5
    have f6 := aG.frozen 6
    have f7 := aG.frozen 7
    have f8 := aG.frozen 8
    have f9 := aG.frozen 9
    have r0 := aR3.cell 0 rfl
    have r1 := aR3.cell 1 rfl
    have r2 := aR3.cell 2 rfl
    have r3 := aR3.cell 3 rfl
    have r4 := aR3.cell 4 rfl
    have r5 := aR3.cell 5 rfl
    have r6 := aR3.cell 6 rfl
    have r7 := aR3.cell 7 rfl
    have r8 := aR3.cell 8 rfl
    have r9 := aR3.cell 9 rfl
    have q0 := aR3.frozen 0
    have q1 := aR3.frozen 1
    have q2 := aR3.frozen 2
    have q3 := aR3.frozen 3
    have q4 := aR3.frozen 4
    have q5 := aR3.frozen 5
    have q6 := aR3.frozen 6
    have q7 := aR3.frozen 7
    have q8 := aR3.frozen 8
    have q9 := aR3.frozen 9
    have z1 := aB3.cell 1 rfl
    have z5 := aB3.cell 5 rfl
    have z6 := aB3.cell 6 rfl
    have BW3 := Lib.hid hBW3
    have AG3 := Lib.hid aG
    have AB3 := Lib.hid aB3
    have AR3 := Lib.hid aR3
    clear aG aB3 aR3 hBW3
    by_cases hm : b1 % (n + 1) = n
    · have hm' : (b1 % (n + 1) == n) = true := by simpa using hm
      have HM := Lib.hid hm
      clear hm
      go_wp2
      refine bodyPost_ret (v := .agg #[.int .i64 9, .int .i64 5, .int .i64 0, .string ⟨#[]⟩, .int .i64 0, .string ⟨#[]⟩, .int .i64 0, .int .i64 0, .int .u32 0, .int .i64 0]) (by simp [results, Tryd.results10, go_sem, hgR, hgR', r0, r1, r2, r3, r4, r5, r6, r7, r8, r9, y0, y1, y2, y3, y4, y5, y6, y7, y8, y9]) rfl ⟨?_, ?_⟩
      · rw [EV.out]; simp [Stp.v, Stp.cells, stepOf, ← EK.out, HM.out]
      · (repeat (with_reducible apply Below.setCell)) <;> first | exact BW3.out | (dsimp only; omega)
    · have hm' : (b1 % (n + 1) == n) = false := by simpa using hm
      have HM := Lib.hid hm
      clear hm
      go_wp2
      refine bodyPost_ret (v := .agg #[.int .i64 9, .int .i64 (b1 % (n + 1)), .int .i64 0, .string ⟨#[]⟩, .int .i64 0, .string ⟨#[]⟩, .int .i64 0, .int .i64 0, .int .u32 0, .int .i64 0]) (by simp [results, Tryd.results10, go_sem, hgR, hgR', r0, r1, r2, r3, r4, r5, r6, r7, r8, r9, y0, y1, y2, y3, y4, y5, y6, y7, y8, y9]) rfl ⟨?_, ?_⟩
      · rw [EV.out]; simp [Stp.v, Stp.cells, stepOf, ← EK.out, HM.out]
      · (repeat (with_reducible apply Below.setCell)) <;> first | exact BW3.out | (dsimp only; omega)
  · go_upto_region 15 with (fail)
    refine wp_world (fun W => At W g [.int .i64 10, .int .i64 (b1 % n), .int .i64 0, .string ⟨#[]⟩, .int .i64 0, .string ⟨#[]⟩, .int .i64 0, .int .i64 0, .int .u32 0, .int .i64 0] ∧ At W w.heap.size [.int .u8 b0, .int .u8 b1, .int .u8 b2, .int .u8 b3, .int .u8 b4, .int .u8 b5, .int .u8 b6, .int .u8 b7] ∧ At W (w.heap.size + 1) [.int .i64 0, .int .i64 0, .int .i64 0, .string ⟨#[]⟩, .int .i64 0, .string ⟨#[]⟩, .int .i64 0, .int .i64 0, .int .u32 0, .int .i64 0] ∧ Below w.heap.size w W ∧ W.heap.size = W2.heap.size) ⟨((((((((((AG2.out.set 0 _).set 1 _).set 2 _).set 3 _).set 4 _).set 5 _).set 6 _).set 7 _).set 8 _).set 9 _), ((((((((((AB2.out.other _ hgB).other _ hgB).other _ hgB).other _ hgB).other _ hgB).other _ hgB).other _ hgB).other _ hgB).other _ hgB).other _ hgB), ((((((((((AR2.out.other _ hgR).other _ hgR).other _ hgR).other _ hgR).other _ hgR).other _ hgR).other _ hgR).other _ hgR).other _ hgR).other _ hgR), ((((((((((BW2.out.setCell hgW _).setCell hgW _).setCell hgW _).setCell hgW _).setCell hgW _).setCell hgW _).setCell hgW _).setCell hgW _).setCell hgW _).setCell hgW _), by simp⟩ ?_
    rintro W3 ⟨aG, aB3, aR3, hBW3, hz3⟩
    clear y0 f0 r0 q0 y1 f1 r1 q1 y2 f2 r2 q2 y3 f3 r3 q3 y4 f4 r4 q4 y5 f5 r5 q5 y6 f6 r6 q6 y7 f7 r7 q7 y8 f8 r8 q8 y9 f9 r9 q9 z0 z1 z5 z6
    have y0 := aG.cell 0 rfl
    have y1 := aG.cell 1 rfl
    have y2 := aG.cell 2 rfl
    have y3 := aG.cell 3 rfl
    have y4 := aG.cell 4 rfl
    have y5 := aG.cell 5 rfl
    have y6 := aG.cell 6 rfl
    have y7 := aG.cell 7 rfl
    have y8 := aG.cell 8 rfl
    have y9 := aG.cell 9 rfl
    have f0 := aG.frozen 0
    have f1 := aG.frozen 1
    have f2 := aG.frozen 2
    have f3 := aG.frozen 3
    have f4 := aG.frozen 4
    have f5 := aG.frozen 5
    have f6 := aG.frozen 6
    have f7 := aG.frozen 7
    have f8 := aG.frozen 8
    have f9 := aG.frozen 9
    have r0 := aR3.cell 0 rfl
    have r1 := aR3.cell 1 rfl
    have r2 := aR3.cell 2 rfl
    have r3 := aR3.cell 3 rfl
    have r4 := aR3.cell 4 rfl
    have r5 := aR3.cell 5 rfl
    have r6 := aR3.cell 6 rfl
    have r7 := aR3.cell 7 rfl
    have r8 := aR3.cell 8 rfl
    have r9 := aR3.cell 9 rfl
    have q0 := aR3.frozen 0
    have q1 := aR3.frozen 1
    have q2 := aR3.frozen 2
    have q3 := aR3.frozen 3
    have q4 := aR3.frozen 4
    have q5 := aR3.frozen 5
    have q6 := aR3.frozen 6
    have q7 := aR3.frozen 7
    have q8 := aR3.frozen 8
    have q9 := aR3.frozen 9
    have z1 := aB3.cell 1 rfl
    have z5 := aB3.cell 5 rfl
    have z6 := aB3.cell 6 rfl
    have BW3 := Lib.hid hBW3
    have AG3 := Lib.hid aG
    have AB3 := Lib.hid aB3
    have AR3 := Lib.hid aR3
    clear aG aB3 aR3 hBW3
    by_cases hm : b1 % (n + 1) = n
    · have hm' : (b1 % (n + 1) == n) = true := by simpa using hm
      have HM := Lib.hid hm
      clear hm
      go_wp2
      refine bodyPost_ret (v := .agg #[.int .i64 10, .int .i64 5, .int .i64 0, .string ⟨#[]⟩, .int .i64 0, .string ⟨#[]⟩, .int .i64 0, .int .i64 0, .int .u32 0, .int .i64 b6]) (by simp [results, Tryd.results10, go_sem, hgR, hgR', r0, r1, r2, r3, r4, r5, r6, r7, r8, r9, y0, y1, y2, y3, y4, y5, y6, y7, y8, y9]) rfl ⟨?_, ?_⟩
      · rw [EV.out]; simp [Stp.v, Stp.cells, stepOf, ← EK.out, HM.out]
      · (repeat (with_reducible apply Below.setCell)) <;> first | exact BW3.out | (dsimp only; omega)
    · have hm' : (b1 % (n + 1) == n) = false := by simpa using hm
      have HM := Lib.hid hm
      clear hm
      go_wp2
      refine bodyPost_ret (v := .agg #[.int .i64 10, .int .i64 (b1 % (n + 1)), .int .i64 0, .string ⟨#[]⟩, .int .i64 0, .string ⟨#[]⟩, .int .i64 0, .int .i64 0, .int .u32 0, .int .i64 b6]) (by simp [results, Tryd.results10, go_sem, hgR, hgR', r0, r1, r2, r3, r4, r5, r6, r7, r8, r9, y0, y1, y2, y3, y4, y5, y6, y7, y8, y9]) rfl ⟨?_, ?_⟩
      · rw [EV.out]; simp [Stp.v, Stp.cells, stepOf, ← EK.out, HM.out]
      · (repeat (with_reducible apply Below.setCell)) <;> first | exact BW3.out | (dsimp only; omega)
  · go_wp2
    refine bodyPost_ret (v := .agg #[.int .i64 11, .int .i64 (b1 % n), .int .i64 0, .string ⟨#[]⟩, .int .i64 0, .string ⟨#[]⟩, .int .i64 0, .int .i64 0, .int .u32 0, .int .i64 0]) (by simp [results, Tryd.results10, go_sem, hgR, hgR', r0, r1, r2, r3, r4, r5, r6, r7, r8, r9, y0, y1, y2, y3, y4, y5, y6, y7, y8, y9]) rfl ⟨?_, ?_⟩
    · rw [EV.out]; simp [Stp.v, Stp.cells, stepOf, ← EK.out]
    · (repeat (with_reducible apply Below.setCell)) <;> first | exact BW2.out | (dsimp only; omega)
end Go.Proofs.YtdabndoojkdicaaDoor
