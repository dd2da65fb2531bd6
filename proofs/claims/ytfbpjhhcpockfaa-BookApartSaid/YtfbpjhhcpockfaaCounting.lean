/- book's counting: what it gives of any events. No condition. -/
import Derived.Test.YtfbpjhhcpockfaaLive
import Derived.Test.YtfbpjhhcpockfaaWorld
set_option linter.unusedVariables false
set_option linter.unusedSimpArgs false
namespace Go.Proofs.Ytfbpjhhcpockfaa
open Go.RowKit Go.Shelf

/-- c is a create below e, of its key. -/
def under (e c : Ev) : Bool := c.sameKey e && c.below e
set_option maxHeartbeats 1000000 in
theorem counting11_any (E : Nat) (e c : Ev) (w : World) (hE : At w E e.cells) :
    Calls Try.prog 49 #[c.v, .pointer (some ⟨E, 0, none⟩)] w fun r w' => r = .returned (.bool (under e c)) ∧ Below w.heap.size w w' := by
  have hd : under e c = ((c.key.toList == e.key.toList) && c.below e) := rfl
  rw [hd]
  clear hd
  have HC := Lib.hid (fun W => below_any c e W)
  generalize c.below e = t at *
  have lE := hE.lt
  have v0 := hE.cell 0 rfl
  have v1 := hE.cell 1 rfl
  have v2 := hE.cell 2 rfl
  have v3 := hE.cell 3 rfl
  have v4 := hE.cell 4 rfl
  have v5 := hE.cell 5 rfl
  have v6 := hE.cell 6 rfl
  have v7 := hE.cell 7 rfl
  have v8 := hE.cell 8 rfl
  have v9 := hE.cell 9 rfl
  have v10 := hE.cell 10 rfl
  have v11 := hE.cell 11 rfl
  clear hE
  obtain ⟨r, n, c0, c1, c2, c3, c4, hh, k, key, lab, val⟩ := e
  obtain ⟨r', n', d0, d1, d2, d3, d4, hh', k', key', lab', val'⟩ := c
  unfold Ev.v Ev.cells at *
  (try dsimp only at *)
  by_cases hk : (key'.toList == key.toList) = true
  · go_enter Try.func49, Try.ntmps49
    go_wp2_with fail
    refine (HC.out _).mono ?_
    rintro e w1 ⟨rfl, hb⟩
    have HX := Lib.hid (((Below.refl w.heap.size w).alloc (Nat.le_refl _) _).trans (hb.mono (by simp)))
    clear hb
    go_wp2_with fail
    go_ret
    exact ⟨ret_bool (by simp [hk]), HX.out⟩
  · have hk' : (key'.toList == key.toList) = false := by simpa using hk
    clear hk
    go_enter Try.func49, Try.ntmps49
    go_wp2_with fail
    go_ret
    exact ⟨ret_bool (by simp [hk']), (by (repeat (first | exact Below.refl _ _ | assumption | (refine Below.drew ?_) | (refine below_drewN ?_ _) | (refine Below.alloc ?_ (by first | omega | (simp; done) | (simp; omega)) _) | (refine Below.setCell ?_ (by first | omega | (simp; done) | (simp; omega)) _))))⟩

theorem pred_under (E : Nat) (e : Ev) (w : World) (hE : At w E e.cells) : PredB 49 #[.pointer (some ⟨E, 0, none⟩)] (under e) w :=
  ⟨enters_of Try.func49 (by kernel_rfl) rfl, fun W x hb => counting11_any E e x W (hE.next hb)⟩
/-- What counting strikes. -/
def idle (kind : Int) (L : List Ev) (e : Ev) : Bool := (e.kind != kind) || ((kind == 4) && L.any (abv 5 Ev.sameValue e)) || !(liveL L).any (under e)
def countL (kind : Int) (L : List Ev) : List Ev := L.filter fun e => !idle kind L e
set_option maxHeartbeats 4000000 in
theorem counting1_any (kind : Int) (A A' : Option Addr) (n c n' c' : Nat) (L : List Ev) (Q K B C : Nat) (e : Ev) (w : World) (hQ : At w Q [.int .i64 kind]) (hK : At w K [.int .i64 5, .func (.func 37) #[] #[]]) (hB : At w B [.slice A n c]) (hC : At w C [.slice A' n' c'])
    (hR : RdEv w A n L) (hR' : RdEv w A' n' (liveL L)) :
    Calls Try.prog 47 #[e.v, .pointer (some ⟨Q, 0, none⟩), .pointer (some ⟨K, 0, none⟩), .pointer (some ⟨B, 0, none⟩), .pointer (some ⟨C, 0, none⟩)] w fun r w' => r = .returned (.bool (idle kind L e)) ∧ Below w.heap.size w w' := by
  have hd : idle kind L e = ((e.kind != kind) || ((kind == 4) && L.any (abv 5 Ev.sameValue e)) || !(liveL L).any (under e)) := rfl
  rw [hd]
  clear hd
  have HB1 := (Below.refl w.heap.size w).alloc (Nat.le_refl _) (.cells e.cells.toArray 35)
  have hE := At.new w e.cells.toArray 35
  have H1 := Lib.hid (above_any 5 Ev.sameValue _ so_value A n c L e _ (hR.below HB1))
  have H2 := Lib.hid (fun W (hb : Below w.heap.size w W) (hE : At W w.heap.size e.cells) => contains_any _ _ _ A' n' c' (liveL L) W (pred_under w.heap.size e W hE) (hR'.below hb))
  have HE := Lib.hid hE
  have HBB := Lib.hid HB1
  have HQ := Lib.hid hQ
  have HK := Lib.hid hK
  have HB := Lib.hid hB
  have HC := Lib.hid hC
  generalize L.any (abv 5 Ev.sameValue e) = s at *
  generalize (liveL L).any (under e) = t at *
  have lQ := hQ.lt
  have lK := hK.lt
  have lB := hB.lt
  have lC := hC.lt
  have a0 := hQ.cell 0 rfl
  have u0 := hK.cell 0 rfl
  have u1 := hK.cell 1 rfl
  have v0 := hB.cell 0 rfl
  have y0 := hC.cell 0 rfl
  clear HB1 hE hR hR' hK hB hC hQ
  obtain ⟨r, n0, c0, c1, c2, c3, c4, hh, k, key, lab, val⟩ := e
  unfold Ev.v Ev.cells at *
  (try dsimp only at *)
  by_cases hk : k = kind
  · subst hk
    by_cases h4 : k = 4
    · subst h4
      go_enter Try.func47, Try.ntmps47
      go_wp2_with fail
      refine H1.out.mono ?_
      rintro e w1 ⟨rfl, hb⟩
      have hE1 := HE.out.next hb
      have hBB := below_next HBB.out hb
      have HE1 := Lib.hid hE1
      have HX := Lib.hid hBB
      have yC := (HC.out.next hBB).cell 0 rfl
      clear hb hE1 hBB
      cases s
      · go_wp2_with fail
        refine (H2.out _ HX.out HE1.out).mono ?_
        rintro e w2 ⟨rfl, hb2⟩
        have HX2 := Lib.hid (below_next HX.out hb2)
        clear hb2
        go_wp2_with fail
        go_ret
        exact ⟨ret_bool (by simp), HX2.out⟩
      · go_wp2_with fail
        go_ret
        exact ⟨ret_bool (by simp), HX.out⟩
    · have h4' : (k == 4) = false := by simpa using h4
      clear h4
      go_enter Try.func47, Try.ntmps47
      go_wp2_with fail
      refine (H2.out _ HBB.out HE.out).mono ?_
      rintro e w2 ⟨rfl, hb2⟩
      have HX2 := Lib.hid (below_next HBB.out hb2)
      clear hb2
      go_wp2_with fail
      go_ret
      exact ⟨ret_bool (by simp [h4']), HX2.out⟩
  · have hk' : (k != kind) = true := by simpa using hk
    clear hk
    go_enter Try.func47, Try.ntmps47
    go_wp2_with fail
    go_ret
    exact ⟨ret_bool (by simp [hk']), HBB.out⟩

set_option maxHeartbeats 2000000 in
theorem counting_any (kind : Int) (A : Option Addr) (n c : Nat) (L : List Ev) (w : World) (hR : RdEv w A n L) (hbig : n ≤ 1000000000) :
    Calls Try.prog 27 #[.slice A n c, .int .i64 kind] w fun r w' => ∃ v, r = .returned v ∧ w'.ownsRow w.heap.size 35 12 v (countL kind L).length (evCells (countL kind L)) ∧ Below w.heap.size w w' := by
  obtain ⟨w2, hw2⟩ : ∃ w2, w2 = (w.alloc (.cells #[.slice A n c] 28)).alloc (.cells #[.int .i64 kind] 3) := ⟨_, rfl⟩
  have HB2 : Below w.heap.size w w2 := by rw [hw2]; exact ((Below.refl w.heap.size w).alloc (Nat.le_refl _) _).alloc (by simp) _
  have hB : At w2 w.heap.size [.slice A n c] := by rw [hw2]; exact (At.new w _ _).alloc _
  have hQ : At w2 (w.heap.size + 1) [.int .i64 kind] := by
    rw [hw2]
    have := At.new (w.alloc (.cells #[.slice A n c] 28)) #[.int .i64 kind] 3
    simpa using this
  have hs2 : w2.heap.size = w.heap.size + 2 := by rw [hw2]; simp
  have HL := Lib.hid (live_any A n c L w2 (hR.below HB2) hbig)
  have HR := Lib.hid (hR.below HB2)
  have HBB := Lib.hid HB2
  have HW := Lib.hid hw2
  have HA := Lib.hid (And.intro hB hQ)
  have HS := Lib.hid hs2
  clear hB hQ HB2 hR hw2 hs2
  have hst := fun (W : World) (a : Addr) => run_store Try.prog W a (.func (.func 37) #[] #[]) .plain rfl
  go_enter Try.func27, Try.ntmps27
  go_upto_region 1 with (fail)
  rw [← HW.out]
  have cB := HA.out.1.cell 0 rfl
  go_wp2_with fail
  refine HL.out.mono ?_
  rintro e w3 ⟨v, rfl, hO, hb3⟩
  obtain ⟨A', c', rfl, hc', hRd⟩ := Rd.own hO
  have HO := Lib.hid hRd
  have HB3 := Lib.hid hb3
  clear hO hb3 cB hRd
  go_upto_region 2 with (fail)
  clear hst
  have hF : ∀ W1, W1 = (w3.alloc (.cells #[.slice A' (liveL L).length c'] 28)).alloc (.cells #[.int .i64 5, .func (.func 37) #[] #[]] 88) →
      At W1 w3.heap.size [.slice A' (liveL L).length c'] ∧ At W1 (w3.heap.size + 1) [.int .i64 5, .func (.func 37) #[] #[]] ∧ Below w3.heap.size w3 W1 := by
    rintro W1 rfl
    refine ⟨(At.new w3 _ _).alloc _, ?_, ((Below.refl w3.heap.size w3).alloc (Nat.le_refl _) _).alloc (by simp) _⟩
    have := At.new (w3.alloc (.cells #[.slice A' (liveL L).length c'] 28)) #[.int .i64 5, .func (.func 37) #[] #[]] 88
    simpa using this
  refine wp_world (fun W1 => At W1 w3.heap.size [.slice A' (liveL L).length c'] ∧ At W1 (w3.heap.size + 1) [.int .i64 5, .func (.func 37) #[] #[]] ∧ Below w3.heap.size w3 W1) (hF _ rfl) ?_
  clear hF
  rintro W1 ⟨hC, hK, hb31⟩
  have hb21 := below_next HB3.out hb31
  have hB1 := HA.out.1.next hb21
  have hQ1 := HA.out.2.next hb21
  have hR1 := HR.out.below hb21
  have hR1' : RdEv W1 A' (liveL L).length (liveL L) := ⟨rfl, HO.out.below hb31⟩
  have hP : PredB 47 #[.pointer (some ⟨w.heap.size + 1, 0, none⟩), .pointer (some ⟨w3.heap.size + 1, 0, none⟩), .pointer (some ⟨w.heap.size, 0, none⟩), .pointer (some ⟨w3.heap.size, 0, none⟩)] (idle kind L) W1 :=
    ⟨enters_of Try.func47 (by kernel_rfl) rfl, fun W x hb => counting1_any kind A A' n c _ c' L _ _ _ _ x W (hQ1.next hb) (hK.next hb) (hB1.next hb) (hC.next hb) (hR1.below hb) (hR1'.below hb)⟩
  have HC := Lib.hid (clone_any A n c L W1 hR1 hbig)
  have HD := Lib.hid (fun v W (hO : W.ownsRow W1.heap.size 35 12 v n (evCells L)) (hb : Below W1.heap.size W1 W) => delete_any _ _ (idle kind L) W1.heap.size W1 v n L W hP.mark hO hR1.1 hb (Nat.le_refl _))
  have HB1 := Lib.hid (below_next HBB.out hb21)
  have cB := hB1.cell 0 rfl
  clear hP hK hC hQ1 hB1 hR1 hR1' hb31 hb21 HO
  go_wp2_with fail
  refine HC.out.mono ?_
  rintro e w5 ⟨v, rfl, hO, hb5⟩
  have HO5 := Lib.hid hO
  have HB5 := Lib.hid hb5
  clear hO hb5 cB
  go_wp2_with fail
  refine (HD.out v w5 HO5.out HB5.out).mono ?_
  rintro e w6 ⟨v6, rfl, hO6, hb6⟩
  have HO6 := Lib.hid (own_mono hO6 HB1.out.size)
  have HB6 := Lib.hid ((HB1.out.trans (HB5.out.mono HB1.out.size)).trans (hb6.mono HB1.out.size))
  clear hO6 hb6
  go_wp2_with fail
  go_ret
  exact ⟨_, rfl, HO6.out, HB6.out⟩
end Go.Proofs.Ytfbpjhhcpockfaa
