/- book's above, live and counting: what they give of any events. No condition. -/
import Derived.Test.YtfbpjhhcpockfaaEvDelete
import Derived.Deep.DeepCutAuto
set_option linter.unusedVariables false
set_option linter.unusedSimpArgs false
namespace Go.Proofs.Ytfbpjhhcpockfaa
open Go.RowKit Go.Shelf

theorem pred_above1 (kind : Int) (so : Ev → Ev → Bool) (g : Nat) (hg : SoAt g so) (K E : Nat) (e : Ev) (w : World) (hK : At w K [.int .i64 kind, .func (.func g) #[] #[]]) (hE : At w E e.cells) :
    PredB 58 #[.pointer (some ⟨K, 0, none⟩), .pointer (some ⟨E, 0, none⟩)] (abv kind so e) w :=
  ⟨enters_of Try.func58 (by kernel_rfl) rfl, fun W x hb => above1_any kind so g hg K E e x W (hK.next hb) (hE.next hb)⟩
set_option maxHeartbeats 1000000 in
theorem above_any (kind : Int) (so : Ev → Ev → Bool) (g : Nat) (hg : SoAt g so) (A : Option Addr) (n c : Nat) (L : List Ev) (e : Ev) (w : World) (hR : RdEv w A n L) :
    Calls Try.prog 38 #[.agg #[.int .i64 kind, .func (.func g) #[] #[]], .slice A n c, e.v] w fun r w' => r = .returned (.bool (L.any (abv kind so e))) ∧ Below w.heap.size w w' := by
  have HB := (((Below.refl w.heap.size w).alloc (Nat.le_refl _) (.cells #[.int .i64 kind, .func (.func g) #[] #[]] 88)).alloc (by simp) (.cells e.cells.toArray 35))
  have hK := (At.new w #[.int .i64 kind, .func (.func g) #[] #[]] 88).alloc (.cells e.cells.toArray 35)
  have hE := At.new (w.alloc (.cells #[.int .i64 kind, .func (.func g) #[] #[]] 88)) e.cells.toArray 35
  have hC := contains_any _ _ _ A n c L _ (pred_above1 kind so g hg _ _ e _ hK (by simpa using hE)) (hR.below HB)
  generalize L.any (abv kind so e) = t at *
  have HC := Lib.hid hC
  have HBB := Lib.hid HB
  clear hC HB hK hE hR hg
  obtain ⟨r, n0, c0, c1, c2, c3, c4, hh, k, key, lab, val⟩ := e
  unfold Ev.v Ev.cells at *
  (try dsimp only at *)
  go_enter Try.func38, Try.ntmps38
  go_wp2_with fail
  refine HC.out.mono ?_
  rintro e w1 ⟨rfl, hb⟩
  have HX := Lib.hid (below_next HBB.out hb)
  clear hb
  go_wp2_with fail
  go_ret
  exact ⟨rfl, HX.out⟩

/-- What live strikes. -/
def dead (L : List Ev) (e : Ev) : Bool := (e.kind != 1) || L.any (abv 2 Ev.sameKey e)
def liveL (L : List Ev) : List Ev := L.filter fun e => !dead L e
set_option maxHeartbeats 1000000 in
theorem live1_any (A : Option Addr) (n c : Nat) (L : List Ev) (K B : Nat) (e : Ev) (w : World) (hK : At w K [.int .i64 2, .func (.func 43) #[] #[]]) (hB : At w B [.slice A n c]) (hR : RdEv w A n L) :
    Calls Try.prog 46 #[e.v, .pointer (some ⟨K, 0, none⟩), .pointer (some ⟨B, 0, none⟩)] w fun r w' => r = .returned (.bool (dead L e)) ∧ Below w.heap.size w w' := by
  have hd : dead L e = ((e.kind != 1) || L.any (abv 2 Ev.sameKey e)) := rfl
  rw [hd]
  clear hd
  have HB1 := (Below.refl w.heap.size w).alloc (Nat.le_refl _) (.cells e.cells.toArray 35)
  have HC := Lib.hid (above_any 2 Ev.sameKey _ so_key A n c L e _ (hR.below HB1))
  have HBB := Lib.hid HB1
  generalize L.any (abv 2 Ev.sameKey e) = t at *
  have lK := hK.lt
  have lB := hB.lt
  have u0 := hK.cell 0 rfl
  have u1 := hK.cell 1 rfl
  have v0 := hB.cell 0 rfl
  clear HB1 hR hK hB
  obtain ⟨r, n0, c0, c1, c2, c3, c4, hh, k, key, lab, val⟩ := e
  unfold Ev.v Ev.cells at *
  (try dsimp only at *)
  by_cases hk : k = 1
  · subst hk
    go_enter Try.func46, Try.ntmps46
    go_wp2_with fail
    refine HC.out.mono ?_
    rintro e w1 ⟨rfl, hb⟩
    have HX := Lib.hid (below_next HBB.out hb)
    clear hb
    go_wp2_with fail
    go_ret
    exact ⟨ret_bool (by simp), HX.out⟩
  · have hk' : (k != 1) = true := by simpa using hk
    clear hk
    go_enter Try.func46, Try.ntmps46
    go_wp2_with fail
    go_ret
    exact ⟨ret_bool (by simp [hk']), HBB.out⟩
theorem PredB.mark {g : Nat} {lb : Array Value} {p : Ev → Bool} {w : World} (h : PredB g lb p w) : PredM w.heap.size g lb p w := h

set_option maxHeartbeats 1000000 in
theorem live_any (A : Option Addr) (n c : Nat) (L : List Ev) (w : World) (hR : RdEv w A n L) (hbig : n ≤ 1000000000) :
    Calls Try.prog 26 #[.slice A n c] w fun r w' => ∃ v, r = .returned v ∧ w'.ownsRow w.heap.size 35 12 v (liveL L).length (evCells (liveL L)) ∧ Below w.heap.size w w' := by
  obtain ⟨w2, hw2⟩ : ∃ w2, w2 = (w.alloc (.cells #[.slice A n c] 28)).alloc (.cells #[.int .i64 2, .func (.func 43) #[] #[]] 88) := ⟨_, rfl⟩
  have HB2 : Below w.heap.size w w2 := by rw [hw2]; exact ((Below.refl w.heap.size w).alloc (Nat.le_refl _) _).alloc (by simp) _
  have hB : At w2 w.heap.size [.slice A n c] := by rw [hw2]; exact (At.new w _ _).alloc _
  have hK : At w2 (w.heap.size + 1) [.int .i64 2, .func (.func 43) #[] #[]] := by
    rw [hw2]
    have := At.new (w.alloc (.cells #[.slice A n c] 28)) #[.int .i64 2, .func (.func 43) #[] #[]] 88
    simpa using this
  have hP : PredB 46 #[.pointer (some ⟨w.heap.size + 1, 0, none⟩), .pointer (some ⟨w.heap.size, 0, none⟩)] (dead L) w2 :=
    ⟨enters_of Try.func46 (by kernel_rfl) rfl, fun W x hb => live1_any A n c L _ _ x W (hK.next hb) (hB.next hb) ((hR.below HB2).below hb)⟩
  have HC := Lib.hid (clone_any A n c L w2 (hR.below HB2) hbig)
  have HD := Lib.hid (fun v W (hO : W.ownsRow w2.heap.size 35 12 v n (evCells L)) (hb : Below w2.heap.size w2 W) => delete_any _ _ (dead L) w2.heap.size w2 v n L W hP.mark hO hR.1 hb (Nat.le_refl _))
  have HBB := Lib.hid HB2
  have HW := Lib.hid hw2
  have HA := Lib.hid (And.intro hB hK)
  clear hP hK hB HB2 hR hw2
  have hst := fun (W : World) (a : Addr) => run_store Try.prog W a (.func (.func 43) #[] #[]) .plain rfl
  go_enter Try.func26, Try.ntmps26
  go_upto_region 2 with (fail)
  clear hst
  rw [← HW.out]
  have cB := HA.out.1.cell 0 rfl
  go_wp2_with fail
  refine HC.out.mono ?_
  rintro e w3 ⟨v, rfl, hO, hb3⟩
  have HO3 := Lib.hid hO
  have HB3 := Lib.hid hb3
  clear hO hb3 cB
  go_wp2_with fail
  refine (HD.out v w3 HO3.out HB3.out).mono ?_
  rintro e w4 ⟨v4, rfl, hO4, hb4⟩
  have HO4 := Lib.hid (own_mono hO4 HBB.out.size)
  have HB4 := Lib.hid ((HBB.out.trans (HB3.out.mono HBB.out.size)).trans (hb4.mono HBB.out.size))
  clear hO4 hb4
  go_wp2_with fail
  go_ret
  exact ⟨_, rfl, HO4.out, HB4.out⟩
end Go.Proofs.Ytfbpjhhcpockfaa
