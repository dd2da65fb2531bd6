/- The law EditOthers returns true at each config, edit and contacts, and turns nothing that was there. Conditions: texts' lengths are within a memory's reach; the contacts are read as RdCons tells. -/
import Derived.Test.YtdabndoojkdicaaConfig
import Derived.Test.YtdabndoojkdicaaOthersPlain
import Derived.Test.YtdabndoojkdicaaCells
import Derived.Test.YtdabndoojkdicaaAnyOrder
import Derived.Outline
import Derived.Deep.AppendLies
set_option linter.unusedVariables false
set_option linter.unusedSimpArgs false
namespace Go.Proofs.Ytdabndoojkdicaa
open Go.RowKit
attribute [local go_sem] gives Gives

theorem info_con' : (Try.prog.info? 51).map (fun i => (i.zero, i.size, i.bytes)) = some (some (.agg #[.string ⟨#[]⟩, .bool false, .bool false, .string ⟨#[]⟩, .string ⟨#[]⟩, .slice none 0 0, .slice none 0 0]), 7, 104) := by kernel_rfl

set_option maxHeartbeats 8000000 in
set_option maxRecDepth 100000 in
theorem editOthers_walk (cf : Cfg) (k : Int) (key : ByteArray) (l : Int) (v : ByteArray) (A : Option Addr) (n c : Nat) (L : List Con) (w : World) (hok : cf.ok) (hk0 : -9223372036854775808 ≤ k) (hk1 : k ≤ 9223372036854775807)
    (hk : key.size ≤ 140737488351232) (hv : v.size ≤ 140737488351232) (hR : RdCons w A n L) (hc : n ≤ c) (hLs : ∀ x ∈ L, x.key.size ≤ 140737488351232) :
    Calls Try.prog 10 #[cf.val, .agg #[.int .i64 k, .string key, .int .i64 l, .string v], .slice A n c] w fun e w' => e = .returned (.bool true) ∧ Below w.heap.size w w' := by
  have good := Lib.hid (fit_good k key l v)
  have HF := Lib.hid (fun w => fit_any k key l v w hk0 hk1 hk hv)
  have HG := Lib.hid (fun w => fit11_any cf w hok)
  have hkr := fitKind_range k
  have HK := Lib.hid (fitKey_minus key)
  have hl : fitLabel k l = 0 ∨ fitLabel k l = 1 := by unfold fitLabel; split <;> omega
  have hks := fitKey_size key
  have hvs := fitValue_size k v
  obtain ⟨cN, cW, cQ, cH, cL, cP⟩ := cf
  unfold Cfg.val at *
  unfold Cfg.fit at HG
  dsimp only at *
  generalize 1 + cN % 5 = dN at *
  generalize 1 + cW % 4 = dW at *
  generalize 1 + cQ % 8 = dQ at *
  generalize 1 + cH % 20 = dH at *
  generalize 1 + cL % 4 = dL at *
  generalize 1 + cP % 3 = dP at *
  generalize fitKind k = K at *
  generalize fitKey key = KEY at *
  generalize fitLabel k l = LAB at *
  generalize fitValue k v = VAL at *
  clear hk0 hk1 hk hv hok
  have hRn := hR.le
  have hn := Lib.hid hR.length
  rcases hl with rfl | rfl
  · go_enter Try.func10, Try.ntmps10
    go_wp2_with fail
    refine (shown11_any _).mono ?_
    rintro e w1 ⟨rfl, hb1⟩
    obtain ⟨hb1c, hb1f⟩ := bcell hb1
    have hb1n := below_next (w := w) (by (repeat (first | exact Below.refl _ _ | assumption | (refine Below.drew ?_) | (refine below_drewN ?_ _) | (refine Below.alloc ?_ (by first | omega | (simp; done) | (simp; omega)) _) | (refine Below.setCell ?_ (by first | omega | (simp; done) | (simp; omega)) _)))) hb1
    have hb1z : w.heap.size < w1.heap.size := by have := hb1.size; first | omega | (simp at this; omega)
    have z1 : w.heap.size + 1 < w1.heap.size := by have := hb1.size; first | omega | (simp at this; omega)
    go_wp2_with fail
    refine (HG.out _).mono ?_
    rintro e w2 ⟨rfl, hb2⟩
    obtain ⟨hb2c, hb2f⟩ := bcell hb2
    have hb2n := below_next (w := w) (by (repeat (first | exact Below.refl _ _ | assumption | (refine Below.drew ?_) | (refine below_drewN ?_ _) | (refine Below.alloc ?_ (by first | omega | (simp; done) | (simp; omega)) _) | (refine Below.setCell ?_ (by first | omega | (simp; done) | (simp; omega)) _)))) hb2
    have hb2z : w.heap.size < w2.heap.size := by have := hb2.size; first | omega | (simp at this; omega)
    have y1 : w.heap.size + 1 < w2.heap.size := by have := hb2.size; first | omega | (simp at this; omega)
    go_wp2_with fail
    refine (HF.out _).mono ?_
    rintro e w3 ⟨rfl, hb3⟩
    obtain ⟨hb3c, hb3f⟩ := bcell hb3
    have hb3n := below_next (w := w) (by (repeat (first | exact Below.refl _ _ | assumption | (refine Below.drew ?_) | (refine below_drewN ?_ _) | (refine Below.alloc ?_ (by first | omega | (simp; done) | (simp; omega)) _) | (refine Below.setCell ?_ (by first | omega | (simp; done) | (simp; omega)) _)))) hb3
    have hb3z : w.heap.size < w3.heap.size := by have := hb3.size; first | omega | (simp at this; omega)
    go_wp2_with fail
    obtain ⟨W0, hW0⟩ : ∃ W, W = ((w3.alloc (Obj.cells #[.int .i64 K, .string KEY, .int .i64 0, .string VAL] 29)).alloc (Obj.cells #[.string KEY, .bool false, .bool false, .string ⟨#[]⟩, .string ⟨#[]⟩, .slice none 0 0, .slice none 0 0] 51)).alloc (Obj.cells #[] 51) := ⟨_, rfl⟩
    have hsz : W0.heap.size = w3.heap.size + 3 := by rw [hW0]; simp
    have aX : At W0 w3.heap.size [.int .i64 K, .string KEY, .int .i64 0, .string VAL] := by rw [hW0]; exact ((At.new _ _ _).alloc _).alloc _
    have aM : At W0 (w3.heap.size + 1) [.string KEY, .bool false, .bool false, .string ⟨#[]⟩, .string ⟨#[]⟩, .slice none 0 0, .slice none 0 0] := by
      rw [hW0]
      have := (At.new (w3.alloc (Obj.cells #[.int .i64 K, .string KEY, .int .i64 0, .string VAL] 29)) #[.string KEY, .bool false, .bool false, .string ⟨#[]⟩, .string ⟨#[]⟩, .slice none 0 0, .slice none 0 0] 51).alloc (Obj.cells #[] 51)
      simpa using this
    have aD : At W0 w2.heap.size [.int .i64 dN, .int .i64 dW, .int .i64 dQ, .int .i64 dH, .int .i64 dL, .int .i64 dP] := by
      rw [hW0]
      exact ((((At.new w2 _ _).next hb3).alloc _).alloc _).alloc _
    have hbW : Below w.heap.size w W0 := by rw [hW0]; exact (by (repeat (first | exact Below.refl _ _ | assumption | (refine Below.drew ?_) | (refine below_drewN ?_ _) | (refine Below.alloc ?_ (by first | omega | (simp; done) | (simp; omega)) _) | (refine Below.setCell ?_ (by first | omega | (simp; done) | (simp; omega)) _))))
    have HL : W0.ownsRow (w3.heap.size + 2) 51 7 (.slice (some ⟨w3.heap.size + 1 + 1, 0, none⟩) 0 0) 0 [] := by
      rw [hW0]
      have := World.ownsRow_lit (base := w3.heap.size + 2) (e := 51) (size := 7) ((w3.alloc (Obj.cells #[.int .i64 K, .string KEY, .int .i64 0, .string VAL] 29)).alloc (Obj.cells #[.string KEY, .bool false, .bool false, .string ⟨#[]⟩, .string ⟨#[]⟩, .slice none 0 0, .slice none 0 0] 51)) #[] 0 (by simp) (by simp [maxLen]) rfl
      simpa using this
    rw [← hW0]
    have hDX : w2.heap.size < w3.heap.size := by have := hb3.size; simp at this; omega
    have hwD : w.heap.size ≤ w2.heap.size := hb2n.size
    clear hW0 hb1 hb1c hb1f hb1n hb1z hb2 hb2c hb2f hb2n hb2z hb3 hb3c hb3f hb3n hb3z HF HG z1 y1
    generalize w3.heap.size = X at *
    generalize w2.heap.size = D at *
    clear w1 w2 w3
    obtain ⟨q, hq⟩ : ∃ q, q = min n 10 := ⟨_, rfl⟩
    have hqn : q ≤ n := by omega
    have hq10 : q ≤ 10 := by omega
    have HQ := Lib.hid hq
    clear hq
    go_loopw [11, 12] (fun r i wr => ∃ (j : Nat) (cs : List Value) (A0 : Option Addr) (n0 c0 : Nat), j ≤ q ∧ i = .int .i64 j ∧ wr.ownsRow (X + 2) 51 7 r j cs ∧ Cons w cs ((L.take j).map minus) ∧
      At wr (X + 1) [.string KEY, .bool false, .bool false, .string ⟨#[]⟩, .string ⟨#[]⟩, .slice A0 n0 c0, .slice none 0 0] ∧ Rd w A0 n0 1 (strs (lastSet L 0 j)) ∧ n0 ≤ c0 ∧ Below (X + 1) W0 wr) (fun _ i _ => q - (intOf i).toNat)
    case atStart => exact ⟨0, [], none, 0, 0, by omega, rfl, HL, .nil, aM, Rd.nil _ _ _, Nat.le_refl _, Below.refl _ _⟩
    case round =>
      obtain ⟨j, cs, A0, n0, c0, hj, rfl, hown, hcons, aM', hset, hnc, hbj⟩ := hrel
      have hszr := hbj.size
      clear aM
      by_cases hlt : j < q
      · have hjL : j < L.length := by rw [hn.out]; omega
        obtain ⟨y, hy⟩ : ∃ y, L[j]? = some y := ⟨_, List.getElem?_eq_getElem hjL⟩
        have hbwr : Below w.heap.size w wr := hbW.trans (hbj.mono (by omega))
        obtain ⟨b, o, B0, m0, d0, B1, m1, d1, hA, hbl, g0, g1, g2, g3, g4, g5, g6, r0, q0, r1, q1⟩ := hR.at_ j y hy
        replace g0 := (hbwr.cell (p := ⟨b, o + j * 7, none⟩) hbl).trans g0
        replace g1 := (hbwr.cell (p := ⟨b, o + j * 7 + 1, none⟩) hbl).trans g1
        replace g2 := (hbwr.cell (p := ⟨b, o + j * 7 + 2, none⟩) hbl).trans g2
        replace g3 := (hbwr.cell (p := ⟨b, o + j * 7 + 3, none⟩) hbl).trans g3
        replace g4 := (hbwr.cell (p := ⟨b, o + j * 7 + 4, none⟩) hbl).trans g4
        replace g5 := (hbwr.cell (p := ⟨b, o + j * 7 + 5, none⟩) hbl).trans g5
        replace g6 := (hbwr.cell (p := ⟨b, o + j * 7 + 6, none⟩) hbl).trans g6
        subst hA
        have hys := hLs y (List.mem_of_getElem? hy)
        have HY := Lib.hid hy
        have HR := Lib.hid hR
        have HLS := Lib.hid hLs
        have hj1 : (j : Int) < (n : Int) := by omega
        have hj2 : (j : Int) < 10 := by omega
        clear hy hR hLs hbW hbwr
        have ER0 := Lib.hid r0
        have ER1 := Lib.hid r1
        have ESET := Lib.hid hset
        have ECONS := Lib.hid hcons
        have EM := Lib.hid aM'
        have ED := Lib.hid aD
        have EX := Lib.hid aX
        have EB := Lib.hid hbj
        have EO := Lib.hid hown
        clear r0 r1 hset hcons aM' aD aX hbj hown HL
        go_wp2_with (at_builtin; go_loud (refine wpList_append_elem (w0 := wr) (X + 2) (wr.heap.size + 1) (by simp) rfl _ _ 46 51 _ 7 104 rfl Try.underlying46 info_con' rfl (by decide) (by decide) _ j cs _ (by rfl) (by rfl) (EO.out.alloc _) (by rfl) (by simp [Value.oneCell']) ((Below.refl _ _).alloc (by omega) _) (by simp; omega) (by omega) ?_))
        intro r1' w4 hown2 hb4 hg4 _
        have aM4 := (EM.out.alloc _).grown hg4 (fun e => by have := own_base EO.out _ e; omega)
        have aX4 := (EX.out.below EB.out (by omega)).below hb4 (by omega)
        have x2 := aX4.cell 2 rfl
        have m5 := aM4.cell 5 rfl
        have m5f := aM4.frozen 5
        have y5 := (hb4.cell (p := ⟨b, o + j * 7 + 5, none⟩) (by dsimp only; omega)).trans g5
        have hrc := regrown_cell w4
        have lX := aX4.lt
        have lM := aM4.lt
        have lb : b < w4.heap.size := by have := hb4.size; omega
        clear g0 g1 g2 g3 g4 g5 g6
        go_wp2
        refine wp_region_line 12 (by kernel_rfl) (by kernel_rfl) ?_
        repeat (apply line_fix; (case now => (intro vs w' R hG hn hR; have hR' := Lib.hid hR; clear hR hn; obtain ⟨⟨dq, osq⟩, rfl⟩ := regrown_of_below hG; clear hG; go_simp; exact hR'.out _ (Below.refl _ _))); (case hangs => exact fun _ _ _ => rfl); (case hR => exact fun _ _ => ⟨_, Below.refl _ _⟩); (try simp only [Act.put, List.setIfInBounds_toArray, List.set_cons_zero, List.set_cons_succ]))
        refine line_last (fun vs w5 hG5 _ => ?_)
        replace hG5 : Below w4.heap.size w4 w5 := hG5
        replace aM4 := aM4.next hG5
        clear m5 m5f x2 y5 hrc
        have m5 := aM4.cell 5 rfl
        have m5f := aM4.frozen 5
        go_wp2_with fail
        go_roundw
        case measure => (simp [intOf]; omega)
        case rel =>
          refine ⟨j + 1, _, B0, m0, d0, by omega, by go_num, ownsRow_setCell_below (own_below hown2 hG5) (Nat.lt_succ_self (X + 1)) _, ?_, aM4.set 5 _, ?_, q0, ?_⟩
          · rw [List.take_add_one, HY.out, List.map_append]
            exact ECONS.out.snoc ⟨B0, m0, d0, B1, m1, d1, rfl, ER0.out, q0, ER1.out, q1⟩
          · show Rd w B0 m0 1 (strs ((L[j]?).elim [] fun c => setOf c 0))
            rw [HY.out]
            exact ER0.out
          · exact ((EB.out.trans ((hb4.mono (by omega)).trans (hG5.mono (by omega)))).setCell (Nat.le_refl _) _)
      · obtain rfl : j = q := by omega
        clear HL
        obtain ⟨RA, rc, rfl, hrc', hRr⟩ := Rd.own hown
        have hbwr : Below w.heap.size w wr := hbW.trans (hbj.mono (by omega))
        replace aX := aX.below hbj (by omega)
        replace aD := aD.below hbj (by omega)
        have m0 := aM'.cell 0 rfl
        have m1 := aM'.cell 1 rfl
        have m2 := aM'.cell 2 rfl
        have m3 := aM'.cell 3 rfl
        have m4 := aM'.cell 4 rfl
        have m5 := aM'.cell 5 rfl
        have m6 := aM'.cell 6 rfl
        have lM := aM'.lt
        have EM := Lib.hid aM'
        have EX := Lib.hid aX
        have ED := Lib.hid aD
        have ER := Lib.hid hRr
        have EO := Lib.hid hown
        have ES := Lib.hid hset
        have EC := Lib.hid hcons
        have EL := Lib.hid hLs
        have EB := Lib.hid hbwr
        clear aM' aX aD hRr hown hset hcons hLs hR hbj hbwr hbW
        have hgo : ¬ (j : Int) < (n : Int) ∨ ((j : Int) < (n : Int) ∧ ¬ (j : Int) < 10) := by have := HQ.out; omega
        rcases hgo with hgo | ⟨hgo, hgo'⟩
        all_goals
          go_wp2
          have hrc := regrown_cell wr
          refine wp_region_line 5 (by kernel_rfl) (by kernel_rfl) ?_
          apply line_var (Φ := fun _ v w => ∃ g, v = .slice (some ⟨g, 0, none⟩) 0 0 ∧ w.ownsRow wr.heap.size 51 7 v 0 [])
          case keep => (rintro _ v w w' ⟨g, e, h⟩ hb; exact ⟨g, e, own_below h hb⟩)
          case hangs => exact fun _ _ _ => rfl
          case now => (intro vs w' R hG hn hR; have hR' := Lib.hid hR; have hn' := Lib.hid hn; clear hR hn; replace hG : Below _ _ _ := hG; refine ⟨rfl, ?_⟩; go_simp; exact hR'.out _ _ ⟨_, rfl, own_empty _ _ _ (by have := hG.size; omega)⟩ ((Below.refl _ _).alloc (Nat.le_refl _) _))
          (try simp only [Act.put, List.setIfInBounds_toArray, List.set_cons_zero, List.set_cons_succ])
          apply line_fix
          case now => (intro vs w' R hG hn hR; have hR' := Lib.hid hR; clear hR hn; obtain ⟨⟨dq, osq⟩, rfl⟩ := regrown_of_below hG; clear hG; go_simp; exact hR'.out _ (Below.refl _ _))
          case hangs => exact fun _ _ _ => rfl
          case hR => exact fun _ _ => ⟨_, Below.refl _ _⟩
          (try simp only [Act.put, List.setIfInBounds_toArray, List.set_cons_zero, List.set_cons_succ])
          apply line_var (Φ := fun _ v w => w.ownsRow wr.heap.size 51 7 v j cs)
          case keep => (exact fun _ v w w' h hb => own_below h hb)
          case hangs => exact fun _ _ _ => rfl
          case now => (intro vs w' R hG hn hR; have hR' := Lib.hid hR; have hn' := Lib.hid hn; clear hR hn; replace hG : Below _ _ _ := hG; refine ⟨rfl, ?_⟩; obtain ⟨g, e0, hO⟩ := hn'.out.1 (by kernel_rfl); rw [e0] at hO; obtain ⟨v1, w1, h1, h2, h3⟩ := run_append_full (P := Try.prog) wr.heap.size 46 46 51 _ 7 104 Try.underlying46 info_con' rfl (by decide) (by decide) g 0 [] RA j rc cs hO (ER.out.below hG) (by have := hG.size; omega) (by omega); refine gives_append rfl e0 rfl h1 (hR'.out _ _ ?_ h3); simpa using h2)
          (try simp only [Act.put, List.setIfInBounds_toArray, List.set_cons_zero, List.set_cons_succ])
          apply line_fix
          case now => (intro vs w' R hG hn hR; have hR' := Lib.hid hR; clear hR hn; obtain ⟨⟨dq, osq⟩, rfl⟩ := regrown_of_below hG; clear hG; go_simp; exact hR'.out _ (Below.refl _ _))
          case hangs => exact fun _ _ _ => rfl
          case hR => exact fun _ _ => ⟨_, Below.refl _ _⟩
          (try simp only [Act.put, List.setIfInBounds_toArray, List.set_cons_zero, List.set_cons_succ])
          apply line_var (Φ := fun _ v w => ∃ g, v = .slice (some ⟨g, 0, none⟩) 1 1 ∧ At w g [.string KEY, .bool false, .bool false, .string ⟨#[]⟩, .string ⟨#[]⟩, .slice A0 n0 c0, .slice none 0 0])
          case keep => (rintro _ v w w' ⟨g, e, h⟩ hb; exact ⟨g, e, h.next hb⟩)
          case hangs => exact fun _ _ _ => rfl
          case now => (intro vs w' R hG hn hR; have hR' := Lib.hid hR; have hn' := Lib.hid hn; clear hR hn; replace hG : Below _ _ _ := hG; refine ⟨rfl, ?_⟩; go_simp; exact hR'.out _ _ ⟨_, rfl, At.new _ _ _⟩ ((Below.refl _ _).alloc (Nat.le_refl _) _))
          (try simp only [Act.put, List.setIfInBounds_toArray, List.set_cons_zero, List.set_cons_succ])
          refine line_last (fun vs w5 hG hk => ?_)
          replace hG : Below _ _ _ := hG
          obtain ⟨⟨g4, e4, a4⟩, hO2, _⟩ := hk
          dsimp only at e4 hO2
          generalize vs 2 = v2 at *
          generalize vs 4 = v4 at *
          subst e4
          go_wp2_with (at_builtin; refine wpList_append_rd (w0 := w5) wr.heap.size rfl _ _ 46 51 _ 7 104 rfl Try.underlying46 info_con' rfl (by decide) (by decide) v2 j cs (some ⟨g4, 0, none⟩) 1 1 [.string KEY, .bool false, .bool false, .string ⟨#[]⟩, .string ⟨#[]⟩, .slice A0 n0 c0, .slice none 0 0] (by rfl) (by rfl) hO2 (a4.rd rfl (by decide)) (by simp [Value.oneCell']) (Below.refl _ _) (by have := hG.size; omega) (by omega) ?_)
          intro v6 w6 hO6 hb6 hg6 _
          have aM6 := (EM.out.next hG).grown hg6 (fun e => by have := own_base hO2 _ e; omega)
          have aX6 := (EX.out.next hG).grown hg6 (fun e => by have := own_base hO2 _ e; omega)
          have aD6 := (ED.out.next hG).grown hg6 (fun e => by have := own_base hO2 _ e; omega)
          clear m0 m1 m2 m3 m4 m5 m6 hrc
          have m0 := aM6.cell 0 rfl
          have m1 := aM6.cell 1 rfl
          have m2 := aM6.cell 2 rfl
          have m3 := aM6.cell 3 rfl
          have m4 := aM6.cell 4 rfl
          have m5 := aM6.cell 5 rfl
          have m6 := aM6.cell 6 rfl
          have x2 := aX6.cell 2 rfl
          have lM6 := aM6.lt
          have lX6 := aX6.lt
          have EM6 := Lib.hid aM6
          have EX6 := Lib.hid aX6
          have ED6 := Lib.hid aD6
          have EO6 := Lib.hid hO6
          have EO2 := Lib.hid hO2
          clear aM6 aX6 aD6 hO6 hO2 a4
          go_wp2_with fail
          obtain ⟨W7, hW7⟩ : ∃ W, W = (w6.alloc (Obj.cells #[.string KEY, .bool true, .bool true, .string ⟨#[]⟩, .string ⟨#[]⟩, .slice A0 n0 c0, .slice (some ⟨w6.heap.size + 1, 0, none⟩) 4 4] 51)).alloc (Obj.cells #[.string ⟨#[112]⟩, .string ⟨#[113]⟩, .string ⟨#[114]⟩, .string ⟨#[115]⟩] 9) := ⟨_, rfl⟩
          rw [← hW7]
          have aF : At W7 w6.heap.size [.string KEY, .bool true, .bool true, .string ⟨#[]⟩, .string ⟨#[]⟩, .slice A0 n0 c0, .slice (some ⟨w6.heap.size + 1, 0, none⟩) 4 4] := by rw [hW7]; exact (At.new _ _ _).alloc _
          have aS : At W7 (w6.heap.size + 1) [.string ⟨#[112]⟩, .string ⟨#[113]⟩, .string ⟨#[114]⟩, .string ⟨#[115]⟩] := by
            rw [hW7]
            have := At.new (w6.alloc (Obj.cells #[.string KEY, .bool true, .bool true, .string ⟨#[]⟩, .string ⟨#[]⟩, .slice A0 n0 c0, .slice (some ⟨w6.heap.size + 1, 0, none⟩) 4 4] 51)) #[.string ⟨#[112]⟩, .string ⟨#[113]⟩, .string ⟨#[114]⟩, .string ⟨#[115]⟩] 9
            simpa using this
          have aM : At W7 (X + 1) [.string KEY, .bool false, .bool false, .string ⟨#[]⟩, .string ⟨#[]⟩, .slice A0 n0 c0, .slice none 0 0] := by rw [hW7]; exact (EM6.out.alloc _).alloc _
          have aX : At W7 X [.int .i64 K, .string KEY, .int .i64 0, .string VAL] := by rw [hW7]; exact (EX6.out.alloc _).alloc _
          have aD : At W7 D [.int .i64 dN, .int .i64 dW, .int .i64 dQ, .int .i64 dH, .int .i64 dL, .int .i64 dP] := by rw [hW7]; exact (ED6.out.alloc _).alloc _
          have hb67 : Below w6.heap.size w6 W7 := by rw [hW7]; exact (by (repeat (first | exact Below.refl _ _ | assumption | (refine Below.drew ?_) | (refine below_drewN ?_ _) | (refine Below.alloc ?_ (by first | omega | (simp; done) | (simp; omega)) _) | (refine Below.setCell ?_ (by first | omega | (simp; done) | (simp; omega)) _))))
          clear hW7
          have hbr6 : Below wr.heap.size wr w6 := hG.trans hb6
          have hbr7 : Below wr.heap.size wr W7 := hbr6.trans (hb67.mono hbr6.size)
          have hbw7 : Below w.heap.size w W7 := EB.out.trans (hbr7.mono EB.out.size)
          -- what the four calls say
          obtain ⟨g, hg⟩ : ∃ g, g = checkE dL dP [mine KEY 0 (lastSet L 0 j)] K KEY 0 VAL := ⟨_, rfl⟩
          obtain ⟨A6, c6, hv6, hc6, hR6⟩ := Rd.own EO6.out
          subst hv6
          have hcs7 : Cons W7 cs ((L.take j).map minus) := EC.out.kept hbw7
          have hset7 := ES.out.below hbw7
          have hmine : ConAt W7 [.string KEY, .bool false, .bool false, .string ⟨#[]⟩, .string ⟨#[]⟩, .slice A0 n0 c0, .slice none 0 0] (mine KEY 0 (lastSet L 0 j)) := ⟨A0, n0, c0, none, 0, 0, rfl, hset7, hnc, Rd.nil _ _ _, Nat.le_refl _⟩
          have hfull : ConAt W7 [.string KEY, .bool true, .bool true, .string ⟨#[]⟩, .string ⟨#[]⟩, .slice A0 n0 c0, .slice (some ⟨w6.heap.size + 1, 0, none⟩) 4 4] (fullCon KEY 0 (lastSet L 0 j) [⟨#[112]⟩, ⟨#[113]⟩, ⟨#[114]⟩, ⟨#[115]⟩]) :=
            ⟨A0, n0, c0, some ⟨w6.heap.size + 1, 0, none⟩, 4, 4, rfl, hset7, hnc, aS.rd rfl (by decide), Nat.le_refl _⟩
          have HCW := Lib.hid (fun w2 (h : Below W7.heap.size W7 w2) => (others_with (cL := dL) (cP := dP) good.out HK.out (L.take j) (lastSet L 0 j)).trans hg.symm ▸ check_any dN dW dQ dH dL dP A6 (j + 1) c6 ((L.take j).map minus ++ [mine KEY 0 (lastSet L 0 j)]) K KEY 0 VAL w2 ((RdCons.mk ⟨_, hR6.below (hb67.mono (Nat.le_refl _)), hcs7.snoc hmine⟩ : RdCons W7 A6 (j + 1) _).below h) (by omega) (by omega))
          have HCM := Lib.hid (fun w2 (h : Below W7.heap.size W7 w2) gb (ha : At w2 gb [.string KEY, .bool false, .bool false, .string ⟨#[]⟩, .string ⟨#[]⟩, .slice A0 n0 c0, .slice none 0 0]) => hg.symm ▸ check_any dN dW dQ dH dL dP (some ⟨gb, 0, none⟩) 1 1 [mine KEY 0 (lastSet L 0 j)] K KEY 0 VAL w2 ⟨_, ha.rd rfl (by decide), Cons.cons (hmine.below h) .nil⟩ (by omega) (by omega))
          have HCF := Lib.hid (fun w2 (h : Below W7.heap.size W7 w2) gb (ha : At w2 gb [.string KEY, .bool true, .bool true, .string ⟨#[]⟩, .string ⟨#[]⟩, .slice A0 n0 c0, .slice (some ⟨w6.heap.size + 1, 0, none⟩) 4 4]) => (others_full (cL := dL) (cP := dP) good.out (lastSet L 0 j) [⟨#[112]⟩, ⟨#[113]⟩, ⟨#[114]⟩, ⟨#[115]⟩]).trans hg.symm ▸ check_any dN dW dQ dH dL dP (some ⟨gb, 0, none⟩) 1 1 [fullCon KEY 0 (lastSet L 0 j) [⟨#[112]⟩, ⟨#[113]⟩, ⟨#[114]⟩, ⟨#[115]⟩]] K KEY 0 VAL w2 ⟨_, ha.rd rfl (by decide), Cons.cons (hfull.below h) .nil⟩ (by omega) (by omega))
          have HCN := Lib.hid (fun (hK1 : K ≠ 1) w2 (h : Below W7.heap.size W7 w2) => others_none (cL := dL) (cP := dP) good.out HK.out (L.take j) hK1 ▸ check_any dN dW dQ dH dL dP RA j rc ((L.take j).map minus) K KEY 0 VAL w2 ((RdCons.mk ⟨_, ER.out.below hbr7, hcs7⟩ : RdCons W7 RA j _).below h) (by omega) (by omega))
          have hfin : Below w.heap.size w W7 := hbw7
          have lF := aF.lt
          have lM7 := aM.lt
          have lX7 := aX.lt
          have lD7 := aD.lt
          clear m0 m1 m2 m3 m4 m5 m6 x2
          have f0 := aF.cell 0 rfl
          have f1 := aF.cell 1 rfl
          have f2 := aF.cell 2 rfl
          have f3 := aF.cell 3 rfl
          have f4 := aF.cell 4 rfl
          have f5 := aF.cell 5 rfl
          have f6 := aF.cell 6 rfl
          have m0 := aM.cell 0 rfl
          have m1 := aM.cell 1 rfl
          have m2 := aM.cell 2 rfl
          have m3 := aM.cell 3 rfl
          have m4 := aM.cell 4 rfl
          have m5 := aM.cell 5 rfl
          have m6 := aM.cell 6 rfl
          have x0 := aX.cell 0 rfl
          have x1 := aX.cell 1 rfl
          have x2 := aX.cell 2 rfl
          have x3 := aX.cell 3 rfl
          have d0 := aD.cell 0 rfl
          have d1 := aD.cell 1 rfl
          have d2 := aD.cell 2 rfl
          have d3 := aD.cell 3 rfl
          have d4 := aD.cell 4 rfl
          have d5 := aD.cell 5 rfl
          have EH := Lib.hid hfin
          clear aF aS aM aX aD hb67 hbr6 hbr7 hbw7 hfin hcs7 hset7 hmine hfull hR6 hb6 hG
          generalize hg0 : g = g0 at *
          clear hg0
          have hrc := regrown_cell W7
          have gg : (g0 == g0) = true := by simp
          by_cases hK1 : K = 1
          · subst hK1
            refine wp_region_line 38 (by kernel_rfl) (by kernel_rfl) ?_
            apply line_fix
            case now => (intro vs w' R hG hn hR; have hR' := Lib.hid hR; clear hR hn; obtain ⟨⟨dq, osq⟩, rfl⟩ := regrown_of_below hG; clear hG; go_simp; exact hR'.out _ (Below.refl _ _))
            case hangs => exact fun _ _ _ => rfl
            case hR => exact fun _ _ => ⟨_, Below.refl _ _⟩
            (try simp only [Act.put, List.setIfInBounds_toArray, List.set_cons_zero, List.set_cons_succ])
            apply line_fix
            case now => (intro vs w' R hG hn hR; have hR' := Lib.hid hR; clear hR hn; obtain ⟨⟨dq, osq⟩, rfl⟩ := regrown_of_below hG; clear hG; go_simp; exact hR'.out _ (Below.refl _ _))
            case hangs => exact fun _ _ _ => rfl
            case hR => exact fun _ _ => ⟨_, Below.refl _ _⟩
            (try simp only [Act.put, List.setIfInBounds_toArray, List.set_cons_zero, List.set_cons_succ])
            apply line_fix
            case now => (intro vs w' R hG hn hR; have hR' := Lib.hid hR; clear hR hn; obtain ⟨⟨dq, osq⟩, rfl⟩ := regrown_of_below hG; clear hG; go_simp; exact hR'.out _ (Below.refl _ _))
            case hangs => exact fun _ _ _ => rfl
            case hR => exact fun _ _ => ⟨_, Below.refl _ _⟩
            (try simp only [Act.put, List.setIfInBounds_toArray, List.set_cons_zero, List.set_cons_succ])
            apply line_fix
            case now => (intro vs w' R hG hn hR; have hR' := Lib.hid hR; clear hR hn; obtain ⟨⟨dq, osq⟩, rfl⟩ := regrown_of_below hG; clear hG; go_simp; exact hR'.out _ (Below.refl _ _))
            case hangs => exact fun _ _ _ => rfl
            case hR => exact fun _ _ => ⟨_, Below.refl _ _⟩
            (try simp only [Act.put, List.setIfInBounds_toArray, List.set_cons_zero, List.set_cons_succ])
            apply line_fix
            case now => (intro vs w' R hG hn hR; have hR' := Lib.hid hR; clear hR hn; obtain ⟨⟨dq, osq⟩, rfl⟩ := regrown_of_below hG; clear hG; go_simp; exact hR'.out _ (Below.refl _ _))
            case hangs => exact fun _ _ _ => rfl
            case hR => exact fun _ _ => ⟨_, Below.refl _ _⟩
            (try simp only [Act.put, List.setIfInBounds_toArray, List.set_cons_zero, List.set_cons_succ])
            apply line_fix
            case now => (intro vs w' R hG hn hR; have hR' := Lib.hid hR; have hn' := Lib.hid hn; clear hR hn; replace hG : Below _ _ _ := hG; skip; go_simp; refine (HCW.out _ hG).mono ?_; rintro e w'' ⟨rfl, hb⟩; exact ⟨_, rfl, hR'.out _ hb⟩)
            case hangs => exact fun _ _ _ => rfl
            case hR => exact fun _ _ => ⟨_, Below.refl _ _⟩
            (try simp only [Act.put, List.setIfInBounds_toArray, List.set_cons_zero, List.set_cons_succ])
            apply line_fix
            case now => (intro vs w' R hG hn hR; have hR' := Lib.hid hR; clear hR hn; obtain ⟨⟨dq, osq⟩, rfl⟩ := regrown_of_below hG; clear hG; go_simp; exact hR'.out _ (Below.refl _ _))
            case hangs => exact fun _ _ _ => rfl
            case hR => exact fun _ _ => ⟨_, Below.refl _ _⟩
            (try simp only [Act.put, List.setIfInBounds_toArray, List.set_cons_zero, List.set_cons_succ])
            apply line_fix
            case now => (intro vs w' R hG hn hR; have hR' := Lib.hid hR; clear hR hn; obtain ⟨⟨dq, osq⟩, rfl⟩ := regrown_of_below hG; clear hG; go_simp; exact hR'.out _ (Below.refl _ _))
            case hangs => exact fun _ _ _ => rfl
            case hR => exact fun _ _ => ⟨_, Below.refl _ _⟩
            (try simp only [Act.put, List.setIfInBounds_toArray, List.set_cons_zero, List.set_cons_succ])
            apply line_var (Φ := fun _ v w => ∃ g, v = .slice (some ⟨g, 0, none⟩) 1 1 ∧ At w g [.string KEY, .bool false, .bool false, .string ⟨#[]⟩, .string ⟨#[]⟩, .slice A0 n0 c0, .slice none 0 0])
            case keep => (rintro _ v w w' ⟨g, e, h⟩ hb; exact ⟨g, e, h.next hb⟩)
            case hangs => exact fun _ _ _ => rfl
            case now => (intro vs w' R hG hn hR; have hR' := Lib.hid hR; have hn' := Lib.hid hn; clear hR hn; replace hG : Below _ _ _ := hG; refine ⟨rfl, ?_⟩; go_simp; exact hR'.out _ _ ⟨_, rfl, At.new _ _ _⟩ ((Below.refl _ _).alloc (Nat.le_refl _) _))
            (try simp only [Act.put, List.setIfInBounds_toArray, List.set_cons_zero, List.set_cons_succ])
            apply line_fix
            case now => (intro vs w' R hG hn hR; have hR' := Lib.hid hR; clear hR hn; obtain ⟨⟨dq, osq⟩, rfl⟩ := regrown_of_below hG; clear hG; go_simp; exact hR'.out _ (Below.refl _ _))
            case hangs => exact fun _ _ _ => rfl
            case hR => exact fun _ _ => ⟨_, Below.refl _ _⟩
            (try simp only [Act.put, List.setIfInBounds_toArray, List.set_cons_zero, List.set_cons_succ])
            apply line_fix
            case now => (intro vs w' R hG hn hR; have hR' := Lib.hid hR; have hn' := Lib.hid hn; clear hR hn; replace hG : Below _ _ _ := hG; obtain ⟨gb, e8, a8⟩ := hn'.out.1 (by kernel_rfl); dsimp only at e8; go_simp; refine (HCM.out _ hG gb a8).mono ?_; rintro e w'' ⟨rfl, hb⟩; exact ⟨_, rfl, hR'.out _ hb⟩)
            case hangs => exact fun _ _ _ => rfl
            case hR => exact fun _ _ => ⟨_, Below.refl _ _⟩
            (try simp only [Act.put, List.setIfInBounds_toArray, List.set_cons_zero, List.set_cons_succ])
            apply line_fix
            case now => (intro vs w' R hG hn hR; have hR' := Lib.hid hR; clear hR hn; obtain ⟨⟨dq, osq⟩, rfl⟩ := regrown_of_below hG; clear hG; go_simp; exact hR'.out _ (Below.refl _ _))
            case hangs => exact fun _ _ _ => rfl
            case hR => exact fun _ _ => ⟨_, Below.refl _ _⟩
            (try simp only [Act.put, List.setIfInBounds_toArray, List.set_cons_zero, List.set_cons_succ])
            apply line_fix
            case now => (intro vs w' R hG hn hR; have hR' := Lib.hid hR; clear hR hn; obtain ⟨⟨dq, osq⟩, rfl⟩ := regrown_of_below hG; clear hG; go_simp; exact hR'.out _ (Below.refl _ _))
            case hangs => exact fun _ _ _ => rfl
            case hR => exact fun _ _ => ⟨_, Below.refl _ _⟩
            (try simp only [Act.put, List.setIfInBounds_toArray, List.set_cons_zero, List.set_cons_succ])
            apply line_fix
            case now => (intro vs w' R hG hn hR; have hR' := Lib.hid hR; clear hR hn; obtain ⟨⟨dq, osq⟩, rfl⟩ := regrown_of_below hG; clear hG; go_simp; exact hR'.out _ (Below.refl _ _))
            case hangs => exact fun _ _ _ => rfl
            case hR => exact fun _ _ => ⟨_, Below.refl _ _⟩
            (try simp only [Act.put, List.setIfInBounds_toArray, List.set_cons_zero, List.set_cons_succ])
            apply line_fix
            case now => (intro vs w' R hG hn hR; have hR' := Lib.hid hR; clear hR hn; obtain ⟨⟨dq, osq⟩, rfl⟩ := regrown_of_below hG; clear hG; go_simp; exact hR'.out _ (Below.refl _ _))
            case hangs => exact fun _ _ _ => rfl
            case hR => exact fun _ _ => ⟨_, Below.refl _ _⟩
            (try simp only [Act.put, List.setIfInBounds_toArray, List.set_cons_zero, List.set_cons_succ])
            apply line_fix
            case now => (intro vs w' R hG hn hR; have hR' := Lib.hid hR; clear hR hn; obtain ⟨⟨dq, osq⟩, rfl⟩ := regrown_of_below hG; clear hG; go_simp; exact hR'.out _ (Below.refl _ _))
            case hangs => exact fun _ _ _ => rfl
            case hR => exact fun _ _ => ⟨_, Below.refl _ _⟩
            (try simp only [Act.put, List.setIfInBounds_toArray, List.set_cons_zero, List.set_cons_succ])
            apply line_var (Φ := fun _ v w => ∃ g, v = .slice (some ⟨g, 0, none⟩) 1 1 ∧ At w g [.string KEY, .bool true, .bool true, .string ⟨#[]⟩, .string ⟨#[]⟩, .slice A0 n0 c0, .slice (some ⟨w6.heap.size + 1, 0, none⟩) 4 4])
            case keep => (rintro _ v w w' ⟨g, e, h⟩ hb; exact ⟨g, e, h.next hb⟩)
            case hangs => exact fun _ _ _ => rfl
            case now => (intro vs w' R hG hn hR; have hR' := Lib.hid hR; have hn' := Lib.hid hn; clear hR hn; replace hG : Below _ _ _ := hG; refine ⟨rfl, ?_⟩; go_simp; exact hR'.out _ _ ⟨_, rfl, At.new _ _ _⟩ ((Below.refl _ _).alloc (Nat.le_refl _) _))
            (try simp only [Act.put, List.setIfInBounds_toArray, List.set_cons_zero, List.set_cons_succ])
            apply line_fix
            case now => (intro vs w' R hG hn hR; have hR' := Lib.hid hR; clear hR hn; obtain ⟨⟨dq, osq⟩, rfl⟩ := regrown_of_below hG; clear hG; go_simp; exact hR'.out _ (Below.refl _ _))
            case hangs => exact fun _ _ _ => rfl
            case hR => exact fun _ _ => ⟨_, Below.refl _ _⟩
            (try simp only [Act.put, List.setIfInBounds_toArray, List.set_cons_zero, List.set_cons_succ])
            apply line_fix
            case now => (intro vs w' R hG hn hR; have hR' := Lib.hid hR; have hn' := Lib.hid hn; clear hR hn; replace hG : Below _ _ _ := hG; obtain ⟨gb, e8, a8⟩ := hn'.out.1 (by kernel_rfl); dsimp only at e8; go_simp; refine (HCF.out _ hG gb a8).mono ?_; rintro e w'' ⟨rfl, hb⟩; exact ⟨_, rfl, hR'.out _ hb⟩)
            case hangs => exact fun _ _ _ => rfl
            case hR => exact fun _ _ => ⟨_, Below.refl _ _⟩
            (try simp only [Act.put, List.setIfInBounds_toArray, List.set_cons_zero, List.set_cons_succ])
            apply line_fix
            case now => (intro vs w' R hG hn hR; have hR' := Lib.hid hR; clear hR hn; obtain ⟨⟨dq, osq⟩, rfl⟩ := regrown_of_below hG; clear hG; go_simp; exact hR'.out _ (Below.refl _ _))
            case hangs => exact fun _ _ _ => rfl
            case hR => exact fun _ _ => ⟨_, Below.refl _ _⟩
            (try simp only [Act.put, List.setIfInBounds_toArray, List.set_cons_zero, List.set_cons_succ])
            apply line_fix
            case now => (intro vs w' R hG hn hR; have hR' := Lib.hid hR; clear hR hn; obtain ⟨⟨dq, osq⟩, rfl⟩ := regrown_of_below hG; clear hG; go_simp; exact hR'.out _ (Below.refl _ _))
            case hangs => exact fun _ _ _ => rfl
            case hR => exact fun _ _ => ⟨_, Below.refl _ _⟩
            (try simp only [Act.put, List.setIfInBounds_toArray, List.set_cons_zero, List.set_cons_succ])
            apply line_var (Φ := fun _ v w => ∃ g, v = .slice (some ⟨g, 0, none⟩) 1 1 ∧ At w g [.string KEY, .bool false, .bool false, .string ⟨#[]⟩, .string ⟨#[]⟩, .slice A0 n0 c0, .slice none 0 0])
            case keep => (rintro _ v w w' ⟨g, e, h⟩ hb; exact ⟨g, e, h.next hb⟩)
            case hangs => exact fun _ _ _ => rfl
            case now => (intro vs w' R hG hn hR; have hR' := Lib.hid hR; have hn' := Lib.hid hn; clear hR hn; replace hG : Below _ _ _ := hG; refine ⟨rfl, ?_⟩; go_simp; exact hR'.out _ _ ⟨_, rfl, At.new _ _ _⟩ ((Below.refl _ _).alloc (Nat.le_refl _) _))
            (try simp only [Act.put, List.setIfInBounds_toArray, List.set_cons_zero, List.set_cons_succ])
            apply line_fix
            case now => (intro vs w' R hG hn hR; have hR' := Lib.hid hR; clear hR hn; obtain ⟨⟨dq, osq⟩, rfl⟩ := regrown_of_below hG; clear hG; go_simp; exact hR'.out _ (Below.refl _ _))
            case hangs => exact fun _ _ _ => rfl
            case hR => exact fun _ _ => ⟨_, Below.refl _ _⟩
            (try simp only [Act.put, List.setIfInBounds_toArray, List.set_cons_zero, List.set_cons_succ])
            apply line_fix
            case now => (intro vs w' R hG hn hR; have hR' := Lib.hid hR; have hn' := Lib.hid hn; clear hR hn; replace hG : Below _ _ _ := hG; obtain ⟨gb, e8, a8⟩ := hn'.out.1 (by kernel_rfl); dsimp only at e8; go_simp; refine (HCM.out _ hG gb a8).mono ?_; rintro e w'' ⟨rfl, hb⟩; exact ⟨_, rfl, hR'.out _ hb⟩)
            case hangs => exact fun _ _ _ => rfl
            case hR => exact fun _ _ => ⟨_, Below.refl _ _⟩
            (try simp only [Act.put, List.setIfInBounds_toArray, List.set_cons_zero, List.set_cons_succ])
            apply line_fix
            case now => (intro vs w' R hG hn hR; have hR' := Lib.hid hR; clear hR hn; obtain ⟨⟨dq, osq⟩, rfl⟩ := regrown_of_below hG; clear hG; go_simp; exact hR'.out _ (Below.refl _ _))
            case hangs => exact fun _ _ _ => rfl
            case hR => exact fun _ _ => ⟨_, Below.refl _ _⟩
            (try simp only [Act.put, List.setIfInBounds_toArray, List.set_cons_zero, List.set_cons_succ])
            apply line_fix
            case now => (intro vs w' R hG hn hR; have hR' := Lib.hid hR; clear hR hn; obtain ⟨⟨dq, osq⟩, rfl⟩ := regrown_of_below hG; clear hG; go_simp; exact hR'.out _ (Below.refl _ _))
            case hangs => exact fun _ _ _ => rfl
            case hR => exact fun _ _ => ⟨_, Below.refl _ _⟩
            (try simp only [Act.put, List.setIfInBounds_toArray, List.set_cons_zero, List.set_cons_succ])
            apply line_fix
            case now => (intro vs w' R hG hn hR; have hR' := Lib.hid hR; clear hR hn; obtain ⟨⟨dq, osq⟩, rfl⟩ := regrown_of_below hG; clear hG; go_simp; exact hR'.out _ (Below.refl _ _))
            case hangs => exact fun _ _ _ => rfl
            case hR => exact fun _ _ => ⟨_, Below.refl _ _⟩
            (try simp only [Act.put, List.setIfInBounds_toArray, List.set_cons_zero, List.set_cons_succ])
            apply line_fix
            case now => (intro vs w' R hG hn hR; have hR' := Lib.hid hR; clear hR hn; obtain ⟨⟨dq, osq⟩, rfl⟩ := regrown_of_below hG; clear hG; go_simp; exact hR'.out _ (Below.refl _ _))
            case hangs => exact fun _ _ _ => rfl
            case hR => exact fun _ _ => ⟨_, Below.refl _ _⟩
            (try simp only [Act.put, List.setIfInBounds_toArray, List.set_cons_zero, List.set_cons_succ])
            apply line_fix
            case now => (intro vs w' R hG hn hR; have hR' := Lib.hid hR; clear hR hn; obtain ⟨⟨dq, osq⟩, rfl⟩ := regrown_of_below hG; clear hG; go_simp; exact hR'.out _ (Below.refl _ _))
            case hangs => exact fun _ _ _ => rfl
            case hR => exact fun _ _ => ⟨_, Below.refl _ _⟩
            (try simp only [Act.put, List.setIfInBounds_toArray, List.set_cons_zero, List.set_cons_succ])
            apply line_fix
            case now => (intro vs w' R hG hn hR; have hR' := Lib.hid hR; clear hR hn; obtain ⟨⟨dq, osq⟩, rfl⟩ := regrown_of_below hG; clear hG; go_simp; exact hR'.out _ (Below.refl _ _))
            case hangs => exact fun _ _ _ => rfl
            case hR => exact fun _ _ => ⟨_, Below.refl _ _⟩
            (try simp only [Act.put, List.setIfInBounds_toArray, List.set_cons_zero, List.set_cons_succ])
            apply line_fix
            case now => (intro vs w' R hG hn hR; have hR' := Lib.hid hR; clear hR hn; obtain ⟨⟨dq, osq⟩, rfl⟩ := regrown_of_below hG; clear hG; go_simp; exact hR'.out _ (Below.refl _ _))
            case hangs => exact fun _ _ _ => rfl
            case hR => exact fun _ _ => ⟨_, Below.refl _ _⟩
            (try simp only [Act.put, List.setIfInBounds_toArray, List.set_cons_zero, List.set_cons_succ])
            apply line_fix
            case now => (intro vs w' R hG hn hR; have hR' := Lib.hid hR; clear hR hn; obtain ⟨⟨dq, osq⟩, rfl⟩ := regrown_of_below hG; clear hG; go_simp; exact hR'.out _ (Below.refl _ _))
            case hangs => exact fun _ _ _ => rfl
            case hR => exact fun _ _ => ⟨_, Below.refl _ _⟩
            (try simp only [Act.put, List.setIfInBounds_toArray, List.set_cons_zero, List.set_cons_succ])
            apply line_fix
            case now => (intro vs w' R hG hn hR; have hR' := Lib.hid hR; clear hR hn; obtain ⟨⟨dq, osq⟩, rfl⟩ := regrown_of_below hG; clear hG; go_simp; exact hR'.out _ (Below.refl _ _))
            case hangs => exact fun _ _ _ => rfl
            case hR => exact fun _ _ => ⟨_, Below.refl _ _⟩
            (try simp only [Act.put, List.setIfInBounds_toArray, List.set_cons_zero, List.set_cons_succ])
            apply line_fix
            case now => (intro vs w' R hG hn hR; have hR' := Lib.hid hR; clear hR hn; obtain ⟨⟨dq, osq⟩, rfl⟩ := regrown_of_below hG; clear hG; go_simp; exact hR'.out _ (Below.refl _ _))
            case hangs => exact fun _ _ _ => rfl
            case hR => exact fun _ _ => ⟨_, Below.refl _ _⟩
            (try simp only [Act.put, List.setIfInBounds_toArray, List.set_cons_zero, List.set_cons_succ])
            apply line_fix
            case now => (intro vs w' R hG hn hR; have hR' := Lib.hid hR; clear hR hn; obtain ⟨⟨dq, osq⟩, rfl⟩ := regrown_of_below hG; clear hG; go_simp; exact hR'.out _ (Below.refl _ _))
            case hangs => exact fun _ _ _ => rfl
            case hR => exact fun _ _ => ⟨_, Below.refl _ _⟩
            (try simp only [Act.put, List.setIfInBounds_toArray, List.set_cons_zero, List.set_cons_succ])
            apply line_fix
            case now => (intro vs w' R hG hn hR; have hR' := Lib.hid hR; clear hR hn; obtain ⟨⟨dq, osq⟩, rfl⟩ := regrown_of_below hG; clear hG; go_simp; exact hR'.out _ (Below.refl _ _))
            case hangs => exact fun _ _ _ => rfl
            case hR => exact fun _ _ => ⟨_, Below.refl _ _⟩
            (try simp only [Act.put, List.setIfInBounds_toArray, List.set_cons_zero, List.set_cons_succ])
            apply line_fix
            case now => (intro vs w' R hG hn hR; have hR' := Lib.hid hR; clear hR hn; obtain ⟨⟨dq, osq⟩, rfl⟩ := regrown_of_below hG; clear hG; go_simp; exact hR'.out _ (Below.refl _ _))
            case hangs => exact fun _ _ _ => rfl
            case hR => exact fun _ _ => ⟨_, Below.refl _ _⟩
            (try simp only [Act.put, List.setIfInBounds_toArray, List.set_cons_zero, List.set_cons_succ])
            apply line_fix
            case now => (intro vs w' R hG hn hR; have hR' := Lib.hid hR; clear hR hn; obtain ⟨⟨dq, osq⟩, rfl⟩ := regrown_of_below hG; clear hG; go_simp; exact hR'.out _ (Below.refl _ _))
            case hangs => exact fun _ _ _ => rfl
            case hR => exact fun _ _ => ⟨_, Below.refl _ _⟩
            (try simp only [Act.put, List.setIfInBounds_toArray, List.set_cons_zero, List.set_cons_succ])
            refine line_last (fun vs w8 hG _ => ?_)
            replace hG : Below _ _ _ := hG
            go_wp2_with fail
            go_ret
            exact ⟨rfl, EH.out.trans (hG.mono EH.out.size)⟩
          · have hk1 : (K == 1) = false := by simpa using hK1
            replace hK1 := Lib.hid hK1
            refine wp_region_line 38 (by kernel_rfl) (by kernel_rfl) ?_
            apply line_fix
            case now => (intro vs w' R hG hn hR; have hR' := Lib.hid hR; clear hR hn; obtain ⟨⟨dq, osq⟩, rfl⟩ := regrown_of_below hG; clear hG; go_simp; exact hR'.out _ (Below.refl _ _))
            case hangs => exact fun _ _ _ => rfl
            case hR => exact fun _ _ => ⟨_, Below.refl _ _⟩
            (try simp only [Act.put, List.setIfInBounds_toArray, List.set_cons_zero, List.set_cons_succ])
            apply line_fix
            case now => (intro vs w' R hG hn hR; have hR' := Lib.hid hR; clear hR hn; obtain ⟨⟨dq, osq⟩, rfl⟩ := regrown_of_below hG; clear hG; go_simp; exact hR'.out _ (Below.refl _ _))
            case hangs => exact fun _ _ _ => rfl
            case hR => exact fun _ _ => ⟨_, Below.refl _ _⟩
            (try simp only [Act.put, List.setIfInBounds_toArray, List.set_cons_zero, List.set_cons_succ])
            apply line_fix
            case now => (intro vs w' R hG hn hR; have hR' := Lib.hid hR; clear hR hn; obtain ⟨⟨dq, osq⟩, rfl⟩ := regrown_of_below hG; clear hG; go_simp; exact hR'.out _ (Below.refl _ _))
            case hangs => exact fun _ _ _ => rfl
            case hR => exact fun _ _ => ⟨_, Below.refl _ _⟩
            (try simp only [Act.put, List.setIfInBounds_toArray, List.set_cons_zero, List.set_cons_succ])
            apply line_fix
            case now => (intro vs w' R hG hn hR; have hR' := Lib.hid hR; clear hR hn; obtain ⟨⟨dq, osq⟩, rfl⟩ := regrown_of_below hG; clear hG; go_simp; exact hR'.out _ (Below.refl _ _))
            case hangs => exact fun _ _ _ => rfl
            case hR => exact fun _ _ => ⟨_, Below.refl _ _⟩
            (try simp only [Act.put, List.setIfInBounds_toArray, List.set_cons_zero, List.set_cons_succ])
            apply line_fix
            case now => (intro vs w' R hG hn hR; have hR' := Lib.hid hR; clear hR hn; obtain ⟨⟨dq, osq⟩, rfl⟩ := regrown_of_below hG; clear hG; go_simp; exact hR'.out _ (Below.refl _ _))
            case hangs => exact fun _ _ _ => rfl
            case hR => exact fun _ _ => ⟨_, Below.refl _ _⟩
            (try simp only [Act.put, List.setIfInBounds_toArray, List.set_cons_zero, List.set_cons_succ])
            apply line_fix
            case now => (intro vs w' R hG hn hR; have hR' := Lib.hid hR; have hn' := Lib.hid hn; clear hR hn; replace hG : Below _ _ _ := hG; skip; go_simp; refine (HCW.out _ hG).mono ?_; rintro e w'' ⟨rfl, hb⟩; exact ⟨_, rfl, hR'.out _ hb⟩)
            case hangs => exact fun _ _ _ => rfl
            case hR => exact fun _ _ => ⟨_, Below.refl _ _⟩
            (try simp only [Act.put, List.setIfInBounds_toArray, List.set_cons_zero, List.set_cons_succ])
            apply line_fix
            case now => (intro vs w' R hG hn hR; have hR' := Lib.hid hR; clear hR hn; obtain ⟨⟨dq, osq⟩, rfl⟩ := regrown_of_below hG; clear hG; go_simp; exact hR'.out _ (Below.refl _ _))
            case hangs => exact fun _ _ _ => rfl
            case hR => exact fun _ _ => ⟨_, Below.refl _ _⟩
            (try simp only [Act.put, List.setIfInBounds_toArray, List.set_cons_zero, List.set_cons_succ])
            apply line_fix
            case now => (intro vs w' R hG hn hR; have hR' := Lib.hid hR; clear hR hn; obtain ⟨⟨dq, osq⟩, rfl⟩ := regrown_of_below hG; clear hG; go_simp; exact hR'.out _ (Below.refl _ _))
            case hangs => exact fun _ _ _ => rfl
            case hR => exact fun _ _ => ⟨_, Below.refl _ _⟩
            (try simp only [Act.put, List.setIfInBounds_toArray, List.set_cons_zero, List.set_cons_succ])
            apply line_var (Φ := fun _ v w => ∃ g, v = .slice (some ⟨g, 0, none⟩) 1 1 ∧ At w g [.string KEY, .bool false, .bool false, .string ⟨#[]⟩, .string ⟨#[]⟩, .slice A0 n0 c0, .slice none 0 0])
            case keep => (rintro _ v w w' ⟨g, e, h⟩ hb; exact ⟨g, e, h.next hb⟩)
            case hangs => exact fun _ _ _ => rfl
            case now => (intro vs w' R hG hn hR; have hR' := Lib.hid hR; have hn' := Lib.hid hn; clear hR hn; replace hG : Below _ _ _ := hG; refine ⟨rfl, ?_⟩; go_simp; exact hR'.out _ _ ⟨_, rfl, At.new _ _ _⟩ ((Below.refl _ _).alloc (Nat.le_refl _) _))
            (try simp only [Act.put, List.setIfInBounds_toArray, List.set_cons_zero, List.set_cons_succ])
            apply line_fix
            case now => (intro vs w' R hG hn hR; have hR' := Lib.hid hR; clear hR hn; obtain ⟨⟨dq, osq⟩, rfl⟩ := regrown_of_below hG; clear hG; go_simp; exact hR'.out _ (Below.refl _ _))
            case hangs => exact fun _ _ _ => rfl
            case hR => exact fun _ _ => ⟨_, Below.refl _ _⟩
            (try simp only [Act.put, List.setIfInBounds_toArray, List.set_cons_zero, List.set_cons_succ])
            apply line_fix
            case now => (intro vs w' R hG hn hR; have hR' := Lib.hid hR; have hn' := Lib.hid hn; clear hR hn; replace hG : Below _ _ _ := hG; obtain ⟨gb, e8, a8⟩ := hn'.out.1 (by kernel_rfl); dsimp only at e8; go_simp; refine (HCM.out _ hG gb a8).mono ?_; rintro e w'' ⟨rfl, hb⟩; exact ⟨_, rfl, hR'.out _ hb⟩)
            case hangs => exact fun _ _ _ => rfl
            case hR => exact fun _ _ => ⟨_, Below.refl _ _⟩
            (try simp only [Act.put, List.setIfInBounds_toArray, List.set_cons_zero, List.set_cons_succ])
            apply line_fix
            case now => (intro vs w' R hG hn hR; have hR' := Lib.hid hR; clear hR hn; obtain ⟨⟨dq, osq⟩, rfl⟩ := regrown_of_below hG; clear hG; go_simp; exact hR'.out _ (Below.refl _ _))
            case hangs => exact fun _ _ _ => rfl
            case hR => exact fun _ _ => ⟨_, Below.refl _ _⟩
            (try simp only [Act.put, List.setIfInBounds_toArray, List.set_cons_zero, List.set_cons_succ])
            apply line_fix
            case now => (intro vs w' R hG hn hR; have hR' := Lib.hid hR; clear hR hn; obtain ⟨⟨dq, osq⟩, rfl⟩ := regrown_of_below hG; clear hG; go_simp; exact hR'.out _ (Below.refl _ _))
            case hangs => exact fun _ _ _ => rfl
            case hR => exact fun _ _ => ⟨_, Below.refl _ _⟩
            (try simp only [Act.put, List.setIfInBounds_toArray, List.set_cons_zero, List.set_cons_succ])
            apply line_fix
            case now => (intro vs w' R hG hn hR; have hR' := Lib.hid hR; clear hR hn; obtain ⟨⟨dq, osq⟩, rfl⟩ := regrown_of_below hG; clear hG; go_simp; exact hR'.out _ (Below.refl _ _))
            case hangs => exact fun _ _ _ => rfl
            case hR => exact fun _ _ => ⟨_, Below.refl _ _⟩
            (try simp only [Act.put, List.setIfInBounds_toArray, List.set_cons_zero, List.set_cons_succ])
            apply line_fix
            case now => (intro vs w' R hG hn hR; have hR' := Lib.hid hR; clear hR hn; obtain ⟨⟨dq, osq⟩, rfl⟩ := regrown_of_below hG; clear hG; go_simp; exact hR'.out _ (Below.refl _ _))
            case hangs => exact fun _ _ _ => rfl
            case hR => exact fun _ _ => ⟨_, Below.refl _ _⟩
            (try simp only [Act.put, List.setIfInBounds_toArray, List.set_cons_zero, List.set_cons_succ])
            apply line_fix
            case now => (intro vs w' R hG hn hR; have hR' := Lib.hid hR; clear hR hn; obtain ⟨⟨dq, osq⟩, rfl⟩ := regrown_of_below hG; clear hG; go_simp; exact hR'.out _ (Below.refl _ _))
            case hangs => exact fun _ _ _ => rfl
            case hR => exact fun _ _ => ⟨_, Below.refl _ _⟩
            (try simp only [Act.put, List.setIfInBounds_toArray, List.set_cons_zero, List.set_cons_succ])
            apply line_var (Φ := fun _ v w => ∃ g, v = .slice (some ⟨g, 0, none⟩) 1 1 ∧ At w g [.string KEY, .bool true, .bool true, .string ⟨#[]⟩, .string ⟨#[]⟩, .slice A0 n0 c0, .slice (some ⟨w6.heap.size + 1, 0, none⟩) 4 4])
            case keep => (rintro _ v w w' ⟨g, e, h⟩ hb; exact ⟨g, e, h.next hb⟩)
            case hangs => exact fun _ _ _ => rfl
            case now => (intro vs w' R hG hn hR; have hR' := Lib.hid hR; have hn' := Lib.hid hn; clear hR hn; replace hG : Below _ _ _ := hG; refine ⟨rfl, ?_⟩; go_simp; exact hR'.out _ _ ⟨_, rfl, At.new _ _ _⟩ ((Below.refl _ _).alloc (Nat.le_refl _) _))
            (try simp only [Act.put, List.setIfInBounds_toArray, List.set_cons_zero, List.set_cons_succ])
            apply line_fix
            case now => (intro vs w' R hG hn hR; have hR' := Lib.hid hR; clear hR hn; obtain ⟨⟨dq, osq⟩, rfl⟩ := regrown_of_below hG; clear hG; go_simp; exact hR'.out _ (Below.refl _ _))
            case hangs => exact fun _ _ _ => rfl
            case hR => exact fun _ _ => ⟨_, Below.refl _ _⟩
            (try simp only [Act.put, List.setIfInBounds_toArray, List.set_cons_zero, List.set_cons_succ])
            apply line_fix
            case now => (intro vs w' R hG hn hR; have hR' := Lib.hid hR; have hn' := Lib.hid hn; clear hR hn; replace hG : Below _ _ _ := hG; obtain ⟨gb, e8, a8⟩ := hn'.out.1 (by kernel_rfl); dsimp only at e8; go_simp; refine (HCF.out _ hG gb a8).mono ?_; rintro e w'' ⟨rfl, hb⟩; exact ⟨_, rfl, hR'.out _ hb⟩)
            case hangs => exact fun _ _ _ => rfl
            case hR => exact fun _ _ => ⟨_, Below.refl _ _⟩
            (try simp only [Act.put, List.setIfInBounds_toArray, List.set_cons_zero, List.set_cons_succ])
            apply line_fix
            case now => (intro vs w' R hG hn hR; have hR' := Lib.hid hR; clear hR hn; obtain ⟨⟨dq, osq⟩, rfl⟩ := regrown_of_below hG; clear hG; go_simp; exact hR'.out _ (Below.refl _ _))
            case hangs => exact fun _ _ _ => rfl
            case hR => exact fun _ _ => ⟨_, Below.refl _ _⟩
            (try simp only [Act.put, List.setIfInBounds_toArray, List.set_cons_zero, List.set_cons_succ])
            apply line_fix
            case now => (intro vs w' R hG hn hR; have hR' := Lib.hid hR; clear hR hn; obtain ⟨⟨dq, osq⟩, rfl⟩ := regrown_of_below hG; clear hG; go_simp; exact hR'.out _ (Below.refl _ _))
            case hangs => exact fun _ _ _ => rfl
            case hR => exact fun _ _ => ⟨_, Below.refl _ _⟩
            (try simp only [Act.put, List.setIfInBounds_toArray, List.set_cons_zero, List.set_cons_succ])
            apply line_var (Φ := fun _ v w => ∃ g, v = .slice (some ⟨g, 0, none⟩) 1 1 ∧ At w g [.string KEY, .bool false, .bool false, .string ⟨#[]⟩, .string ⟨#[]⟩, .slice A0 n0 c0, .slice none 0 0])
            case keep => (rintro _ v w w' ⟨g, e, h⟩ hb; exact ⟨g, e, h.next hb⟩)
            case hangs => exact fun _ _ _ => rfl
            case now => (intro vs w' R hG hn hR; have hR' := Lib.hid hR; have hn' := Lib.hid hn; clear hR hn; replace hG : Below _ _ _ := hG; refine ⟨rfl, ?_⟩; go_simp; exact hR'.out _ _ ⟨_, rfl, At.new _ _ _⟩ ((Below.refl _ _).alloc (Nat.le_refl _) _))
            (try simp only [Act.put, List.setIfInBounds_toArray, List.set_cons_zero, List.set_cons_succ])
            apply line_fix
            case now => (intro vs w' R hG hn hR; have hR' := Lib.hid hR; clear hR hn; obtain ⟨⟨dq, osq⟩, rfl⟩ := regrown_of_below hG; clear hG; go_simp; exact hR'.out _ (Below.refl _ _))
            case hangs => exact fun _ _ _ => rfl
            case hR => exact fun _ _ => ⟨_, Below.refl _ _⟩
            (try simp only [Act.put, List.setIfInBounds_toArray, List.set_cons_zero, List.set_cons_succ])
            apply line_fix
            case now => (intro vs w' R hG hn hR; have hR' := Lib.hid hR; have hn' := Lib.hid hn; clear hR hn; replace hG : Below _ _ _ := hG; obtain ⟨gb, e8, a8⟩ := hn'.out.1 (by kernel_rfl); dsimp only at e8; go_simp; refine (HCM.out _ hG gb a8).mono ?_; rintro e w'' ⟨rfl, hb⟩; exact ⟨_, rfl, hR'.out _ hb⟩)
            case hangs => exact fun _ _ _ => rfl
            case hR => exact fun _ _ => ⟨_, Below.refl _ _⟩
            (try simp only [Act.put, List.setIfInBounds_toArray, List.set_cons_zero, List.set_cons_succ])
            apply line_fix
            case now => (intro vs w' R hG hn hR; have hR' := Lib.hid hR; clear hR hn; obtain ⟨⟨dq, osq⟩, rfl⟩ := regrown_of_below hG; clear hG; go_simp; exact hR'.out _ (Below.refl _ _))
            case hangs => exact fun _ _ _ => rfl
            case hR => exact fun _ _ => ⟨_, Below.refl _ _⟩
            (try simp only [Act.put, List.setIfInBounds_toArray, List.set_cons_zero, List.set_cons_succ])
            apply line_fix
            case now => (intro vs w' R hG hn hR; have hR' := Lib.hid hR; clear hR hn; obtain ⟨⟨dq, osq⟩, rfl⟩ := regrown_of_below hG; clear hG; go_simp; exact hR'.out _ (Below.refl _ _))
            case hangs => exact fun _ _ _ => rfl
            case hR => exact fun _ _ => ⟨_, Below.refl _ _⟩
            (try simp only [Act.put, List.setIfInBounds_toArray, List.set_cons_zero, List.set_cons_succ])
            apply line_fix
            case now => (intro vs w' R hG hn hR; have hR' := Lib.hid hR; clear hR hn; obtain ⟨⟨dq, osq⟩, rfl⟩ := regrown_of_below hG; clear hG; go_simp; exact hR'.out _ (Below.refl _ _))
            case hangs => exact fun _ _ _ => rfl
            case hR => exact fun _ _ => ⟨_, Below.refl _ _⟩
            (try simp only [Act.put, List.setIfInBounds_toArray, List.set_cons_zero, List.set_cons_succ])
            apply line_fix
            case now => (intro vs w' R hG hn hR; have hR' := Lib.hid hR; clear hR hn; obtain ⟨⟨dq, osq⟩, rfl⟩ := regrown_of_below hG; clear hG; go_simp; exact hR'.out _ (Below.refl _ _))
            case hangs => exact fun _ _ _ => rfl
            case hR => exact fun _ _ => ⟨_, Below.refl _ _⟩
            (try simp only [Act.put, List.setIfInBounds_toArray, List.set_cons_zero, List.set_cons_succ])
            apply line_fix
            case now => (intro vs w' R hG hn hR; have hR' := Lib.hid hR; clear hR hn; obtain ⟨⟨dq, osq⟩, rfl⟩ := regrown_of_below hG; clear hG; go_simp; exact hR'.out _ (Below.refl _ _))
            case hangs => exact fun _ _ _ => rfl
            case hR => exact fun _ _ => ⟨_, Below.refl _ _⟩
            (try simp only [Act.put, List.setIfInBounds_toArray, List.set_cons_zero, List.set_cons_succ])
            apply line_fix
            case now => (intro vs w' R hG hn hR; have hR' := Lib.hid hR; clear hR hn; obtain ⟨⟨dq, osq⟩, rfl⟩ := regrown_of_below hG; clear hG; go_simp; exact hR'.out _ (Below.refl _ _))
            case hangs => exact fun _ _ _ => rfl
            case hR => exact fun _ _ => ⟨_, Below.refl _ _⟩
            (try simp only [Act.put, List.setIfInBounds_toArray, List.set_cons_zero, List.set_cons_succ])
            apply line_fix
            case now => (intro vs w' R hG hn hR; have hR' := Lib.hid hR; clear hR hn; obtain ⟨⟨dq, osq⟩, rfl⟩ := regrown_of_below hG; clear hG; go_simp; exact hR'.out _ (Below.refl _ _))
            case hangs => exact fun _ _ _ => rfl
            case hR => exact fun _ _ => ⟨_, Below.refl _ _⟩
            (try simp only [Act.put, List.setIfInBounds_toArray, List.set_cons_zero, List.set_cons_succ])
            apply line_fix
            case now => (intro vs w' R hG hn hR; have hR' := Lib.hid hR; clear hR hn; obtain ⟨⟨dq, osq⟩, rfl⟩ := regrown_of_below hG; clear hG; go_simp; exact hR'.out _ (Below.refl _ _))
            case hangs => exact fun _ _ _ => rfl
            case hR => exact fun _ _ => ⟨_, Below.refl _ _⟩
            (try simp only [Act.put, List.setIfInBounds_toArray, List.set_cons_zero, List.set_cons_succ])
            apply line_fix
            case now => (intro vs w' R hG hn hR; have hR' := Lib.hid hR; clear hR hn; obtain ⟨⟨dq, osq⟩, rfl⟩ := regrown_of_below hG; clear hG; go_simp; exact hR'.out _ (Below.refl _ _))
            case hangs => exact fun _ _ _ => rfl
            case hR => exact fun _ _ => ⟨_, Below.refl _ _⟩
            (try simp only [Act.put, List.setIfInBounds_toArray, List.set_cons_zero, List.set_cons_succ])
            apply line_fix
            case now => (intro vs w' R hG hn hR; have hR' := Lib.hid hR; clear hR hn; obtain ⟨⟨dq, osq⟩, rfl⟩ := regrown_of_below hG; clear hG; go_simp; exact hR'.out _ (Below.refl _ _))
            case hangs => exact fun _ _ _ => rfl
            case hR => exact fun _ _ => ⟨_, Below.refl _ _⟩
            (try simp only [Act.put, List.setIfInBounds_toArray, List.set_cons_zero, List.set_cons_succ])
            apply line_fix
            case now => (intro vs w' R hG hn hR; have hR' := Lib.hid hR; have hn' := Lib.hid hn; clear hR hn; replace hG : Below _ _ _ := hG; skip; go_simp; refine (HCN.out hK1.out _ hG).mono ?_; rintro e w'' ⟨rfl, hb⟩; exact ⟨_, rfl, hR'.out _ hb⟩)
            case hangs => exact fun _ _ _ => rfl
            case hR => exact fun _ _ => ⟨_, Below.refl _ _⟩
            (try simp only [Act.put, List.setIfInBounds_toArray, List.set_cons_zero, List.set_cons_succ])
            apply line_fix
            case now => (intro vs w' R hG hn hR; have hR' := Lib.hid hR; clear hR hn; obtain ⟨⟨dq, osq⟩, rfl⟩ := regrown_of_below hG; clear hG; go_simp; exact hR'.out _ (Below.refl _ _))
            case hangs => exact fun _ _ _ => rfl
            case hR => exact fun _ _ => ⟨_, Below.refl _ _⟩
            (try simp only [Act.put, List.setIfInBounds_toArray, List.set_cons_zero, List.set_cons_succ])
            apply line_fix
            case now => (intro vs w' R hG hn hR; have hR' := Lib.hid hR; clear hR hn; obtain ⟨⟨dq, osq⟩, rfl⟩ := regrown_of_below hG; clear hG; go_simp; exact hR'.out _ (Below.refl _ _))
            case hangs => exact fun _ _ _ => rfl
            case hR => exact fun _ _ => ⟨_, Below.refl _ _⟩
            (try simp only [Act.put, List.setIfInBounds_toArray, List.set_cons_zero, List.set_cons_succ])
            apply line_fix
            case now => (intro vs w' R hG hn hR; have hR' := Lib.hid hR; clear hR hn; obtain ⟨⟨dq, osq⟩, rfl⟩ := regrown_of_below hG; clear hG; go_simp; exact hR'.out _ (Below.refl _ _))
            case hangs => exact fun _ _ _ => rfl
            case hR => exact fun _ _ => ⟨_, Below.refl _ _⟩
            (try simp only [Act.put, List.setIfInBounds_toArray, List.set_cons_zero, List.set_cons_succ])
            refine line_last (fun vs w8 hG _ => ?_)
            replace hG : Below _ _ _ := hG
            go_wp2_with fail
            go_ret
            exact ⟨rfl, EH.out.trans (hG.mono EH.out.size)⟩
  · go_enter Try.func10, Try.ntmps10
    go_wp2_with fail
    refine (shown11_any _).mono ?_
    rintro e w1 ⟨rfl, hb1⟩
    obtain ⟨hb1c, hb1f⟩ := bcell hb1
    have hb1n := below_next (w := w) (by (repeat (first | exact Below.refl _ _ | assumption | (refine Below.drew ?_) | (refine below_drewN ?_ _) | (refine Below.alloc ?_ (by first | omega | (simp; done) | (simp; omega)) _) | (refine Below.setCell ?_ (by first | omega | (simp; done) | (simp; omega)) _)))) hb1
    have hb1z : w.heap.size < w1.heap.size := by have := hb1.size; first | omega | (simp at this; omega)
    have z1 : w.heap.size + 1 < w1.heap.size := by have := hb1.size; first | omega | (simp at this; omega)
    go_wp2_with fail
    refine (HG.out _).mono ?_
    rintro e w2 ⟨rfl, hb2⟩
    obtain ⟨hb2c, hb2f⟩ := bcell hb2
    have hb2n := below_next (w := w) (by (repeat (first | exact Below.refl _ _ | assumption | (refine Below.drew ?_) | (refine below_drewN ?_ _) | (refine Below.alloc ?_ (by first | omega | (simp; done) | (simp; omega)) _) | (refine Below.setCell ?_ (by first | omega | (simp; done) | (simp; omega)) _)))) hb2
    have hb2z : w.heap.size < w2.heap.size := by have := hb2.size; first | omega | (simp at this; omega)
    have y1 : w.heap.size + 1 < w2.heap.size := by have := hb2.size; first | omega | (simp at this; omega)
    go_wp2_with fail
    refine (HF.out _).mono ?_
    rintro e w3 ⟨rfl, hb3⟩
    obtain ⟨hb3c, hb3f⟩ := bcell hb3
    have hb3n := below_next (w := w) (by (repeat (first | exact Below.refl _ _ | assumption | (refine Below.drew ?_) | (refine below_drewN ?_ _) | (refine Below.alloc ?_ (by first | omega | (simp; done) | (simp; omega)) _) | (refine Below.setCell ?_ (by first | omega | (simp; done) | (simp; omega)) _)))) hb3
    have hb3z : w.heap.size < w3.heap.size := by have := hb3.size; first | omega | (simp at this; omega)
    go_wp2_with fail
    obtain ⟨W0, hW0⟩ : ∃ W, W = ((w3.alloc (Obj.cells #[.int .i64 K, .string KEY, .int .i64 1, .string VAL] 29)).alloc (Obj.cells #[.string KEY, .bool false, .bool false, .string ⟨#[]⟩, .string ⟨#[]⟩, .slice none 0 0, .slice none 0 0] 51)).alloc (Obj.cells #[] 51) := ⟨_, rfl⟩
    have hsz : W0.heap.size = w3.heap.size + 3 := by rw [hW0]; simp
    have aX : At W0 w3.heap.size [.int .i64 K, .string KEY, .int .i64 1, .string VAL] := by rw [hW0]; exact ((At.new _ _ _).alloc _).alloc _
    have aM : At W0 (w3.heap.size + 1) [.string KEY, .bool false, .bool false, .string ⟨#[]⟩, .string ⟨#[]⟩, .slice none 0 0, .slice none 0 0] := by
      rw [hW0]
      have := (At.new (w3.alloc (Obj.cells #[.int .i64 K, .string KEY, .int .i64 1, .string VAL] 29)) #[.string KEY, .bool false, .bool false, .string ⟨#[]⟩, .string ⟨#[]⟩, .slice none 0 0, .slice none 0 0] 51).alloc (Obj.cells #[] 51)
      simpa using this
    have aD : At W0 w2.heap.size [.int .i64 dN, .int .i64 dW, .int .i64 dQ, .int .i64 dH, .int .i64 dL, .int .i64 dP] := by
      rw [hW0]
      exact ((((At.new w2 _ _).next hb3).alloc _).alloc _).alloc _
    have hbW : Below w.heap.size w W0 := by rw [hW0]; exact (by (repeat (first | exact Below.refl _ _ | assumption | (refine Below.drew ?_) | (refine below_drewN ?_ _) | (refine Below.alloc ?_ (by first | omega | (simp; done) | (simp; omega)) _) | (refine Below.setCell ?_ (by first | omega | (simp; done) | (simp; omega)) _))))
    have HL : W0.ownsRow (w3.heap.size + 2) 51 7 (.slice (some ⟨w3.heap.size + 1 + 1, 0, none⟩) 0 0) 0 [] := by
      rw [hW0]
      have := World.ownsRow_lit (base := w3.heap.size + 2) (e := 51) (size := 7) ((w3.alloc (Obj.cells #[.int .i64 K, .string KEY, .int .i64 1, .string VAL] 29)).alloc (Obj.cells #[.string KEY, .bool false, .bool false, .string ⟨#[]⟩, .string ⟨#[]⟩, .slice none 0 0, .slice none 0 0] 51)) #[] 0 (by simp) (by simp [maxLen]) rfl
      simpa using this
    rw [← hW0]
    have hDX : w2.heap.size < w3.heap.size := by have := hb3.size; simp at this; omega
    have hwD : w.heap.size ≤ w2.heap.size := hb2n.size
    clear hW0 hb1 hb1c hb1f hb1n hb1z hb2 hb2c hb2f hb2n hb2z hb3 hb3c hb3f hb3n hb3z HF HG z1 y1
    generalize w3.heap.size = X at *
    generalize w2.heap.size = D at *
    clear w1 w2 w3
    obtain ⟨q, hq⟩ : ∃ q, q = min n 10 := ⟨_, rfl⟩
    have hqn : q ≤ n := by omega
    have hq10 : q ≤ 10 := by omega
    have HQ := Lib.hid hq
    clear hq
    go_loopw [11, 12] (fun r i wr => ∃ (j : Nat) (cs : List Value) (A0 : Option Addr) (n0 c0 : Nat), j ≤ q ∧ i = .int .i64 j ∧ wr.ownsRow (X + 2) 51 7 r j cs ∧ Cons w cs ((L.take j).map minus) ∧
      At wr (X + 1) [.string KEY, .bool false, .bool false, .string ⟨#[]⟩, .string ⟨#[]⟩, .slice none 0 0, .slice A0 n0 c0] ∧ Rd w A0 n0 1 (strs (lastSet L 1 j)) ∧ n0 ≤ c0 ∧ Below (X + 1) W0 wr) (fun _ i _ => q - (intOf i).toNat)
    case atStart => exact ⟨0, [], none, 0, 0, by omega, rfl, HL, .nil, aM, Rd.nil _ _ _, Nat.le_refl _, Below.refl _ _⟩
    case round =>
      obtain ⟨j, cs, A0, n0, c0, hj, rfl, hown, hcons, aM', hset, hnc, hbj⟩ := hrel
      have hszr := hbj.size
      clear aM
      by_cases hlt : j < q
      · have hjL : j < L.length := by rw [hn.out]; omega
        obtain ⟨y, hy⟩ : ∃ y, L[j]? = some y := ⟨_, List.getElem?_eq_getElem hjL⟩
        have hbwr : Below w.heap.size w wr := hbW.trans (hbj.mono (by omega))
        obtain ⟨b, o, B0, m0, d0, B1, m1, d1, hA, hbl, g0, g1, g2, g3, g4, g5, g6, r0, q0, r1, q1⟩ := hR.at_ j y hy
        replace g0 := (hbwr.cell (p := ⟨b, o + j * 7, none⟩) hbl).trans g0
        replace g1 := (hbwr.cell (p := ⟨b, o + j * 7 + 1, none⟩) hbl).trans g1
        replace g2 := (hbwr.cell (p := ⟨b, o + j * 7 + 2, none⟩) hbl).trans g2
        replace g3 := (hbwr.cell (p := ⟨b, o + j * 7 + 3, none⟩) hbl).trans g3
        replace g4 := (hbwr.cell (p := ⟨b, o + j * 7 + 4, none⟩) hbl).trans g4
        replace g5 := (hbwr.cell (p := ⟨b, o + j * 7 + 5, none⟩) hbl).trans g5
        replace g6 := (hbwr.cell (p := ⟨b, o + j * 7 + 6, none⟩) hbl).trans g6
        subst hA
        have hys := hLs y (List.mem_of_getElem? hy)
        have HY := Lib.hid hy
        have HR := Lib.hid hR
        have HLS := Lib.hid hLs
        have hj1 : (j : Int) < (n : Int) := by omega
        have hj2 : (j : Int) < 10 := by omega
        clear hy hR hLs hbW hbwr
        have ER0 := Lib.hid r0
        have ER1 := Lib.hid r1
        have ESET := Lib.hid hset
        have ECONS := Lib.hid hcons
        have EM := Lib.hid aM'
        have ED := Lib.hid aD
        have EX := Lib.hid aX
        have EB := Lib.hid hbj
        have EO := Lib.hid hown
        clear r0 r1 hset hcons aM' aD aX hbj hown HL
        go_wp2_with (at_builtin; go_loud (refine wpList_append_elem (w0 := wr) (X + 2) (wr.heap.size + 1) (by simp) rfl _ _ 46 51 _ 7 104 rfl Try.underlying46 info_con' rfl (by decide) (by decide) _ j cs _ (by rfl) (by rfl) (EO.out.alloc _) (by rfl) (by simp [Value.oneCell']) ((Below.refl _ _).alloc (by omega) _) (by simp; omega) (by omega) ?_))
        intro r1' w4 hown2 hb4 hg4 _
        have aM4 := (EM.out.alloc _).grown hg4 (fun e => by have := own_base EO.out _ e; omega)
        have aX4 := (EX.out.below EB.out (by omega)).below hb4 (by omega)
        have x2 := aX4.cell 2 rfl
        have m5 := aM4.cell 6 rfl
        have m5f := aM4.frozen 6
        have y5 := (hb4.cell (p := ⟨b, o + j * 7 + 6, none⟩) (by dsimp only; omega)).trans g6
        have hrc := regrown_cell w4
        have lX := aX4.lt
        have lM := aM4.lt
        have lb : b < w4.heap.size := by have := hb4.size; omega
        clear g0 g1 g2 g3 g4 g5 g6
        go_wp2
        refine wp_region_line 12 (by kernel_rfl) (by kernel_rfl) ?_
        repeat (apply line_fix; (case now => (intro vs w' R hG hn hR; have hR' := Lib.hid hR; clear hR hn; obtain ⟨⟨dq, osq⟩, rfl⟩ := regrown_of_below hG; clear hG; go_simp; exact hR'.out _ (Below.refl _ _))); (case hangs => exact fun _ _ _ => rfl); (case hR => exact fun _ _ => ⟨_, Below.refl _ _⟩); (try simp only [Act.put, List.setIfInBounds_toArray, List.set_cons_zero, List.set_cons_succ]))
        refine line_last (fun vs w5 hG5 _ => ?_)
        replace hG5 : Below w4.heap.size w4 w5 := hG5
        replace aM4 := aM4.next hG5
        clear m5 m5f x2 y5 hrc
        have m5 := aM4.cell 6 rfl
        have m5f := aM4.frozen 6
        go_wp2_with fail
        go_roundw
        case measure => (simp [intOf]; omega)
        case rel =>
          refine ⟨j + 1, _, B1, m1, d1, by omega, by go_num, ownsRow_setCell_below (own_below hown2 hG5) (Nat.lt_succ_self (X + 1)) _, ?_, aM4.set 6 _, ?_, q1, ?_⟩
          · rw [List.take_add_one, HY.out, List.map_append]
            exact ECONS.out.snoc ⟨B0, m0, d0, B1, m1, d1, rfl, ER0.out, q0, ER1.out, q1⟩
          · show Rd w B1 m1 1 (strs ((L[j]?).elim [] fun c => setOf c 1))
            rw [HY.out]
            exact ER1.out
          · exact ((EB.out.trans ((hb4.mono (by omega)).trans (hG5.mono (by omega)))).setCell (Nat.le_refl _) _)
      · obtain rfl : j = q := by omega
        clear HL
        obtain ⟨RA, rc, rfl, hrc', hRr⟩ := Rd.own hown
        have hbwr : Below w.heap.size w wr := hbW.trans (hbj.mono (by omega))
        replace aX := aX.below hbj (by omega)
        replace aD := aD.below hbj (by omega)
        have m0 := aM'.cell 0 rfl
        have m1 := aM'.cell 1 rfl
        have m2 := aM'.cell 2 rfl
        have m3 := aM'.cell 3 rfl
        have m4 := aM'.cell 4 rfl
        have m5 := aM'.cell 5 rfl
        have m6 := aM'.cell 6 rfl
        have lM := aM'.lt
        have EM := Lib.hid aM'
        have EX := Lib.hid aX
        have ED := Lib.hid aD
        have ER := Lib.hid hRr
        have EO := Lib.hid hown
        have ES := Lib.hid hset
        have EC := Lib.hid hcons
        have EL := Lib.hid hLs
        have EB := Lib.hid hbwr
        clear aM' aX aD hRr hown hset hcons hLs hR hbj hbwr hbW
        have hgo : ¬ (j : Int) < (n : Int) ∨ ((j : Int) < (n : Int) ∧ ¬ (j : Int) < 10) := by have := HQ.out; omega
        rcases hgo with hgo | ⟨hgo, hgo'⟩
        all_goals
          go_wp2
          have hrc := regrown_cell wr
          refine wp_region_line 5 (by kernel_rfl) (by kernel_rfl) ?_
          apply line_var (Φ := fun _ v w => ∃ g, v = .slice (some ⟨g, 0, none⟩) 0 0 ∧ w.ownsRow wr.heap.size 51 7 v 0 [])
          case keep => (rintro _ v w w' ⟨g, e, h⟩ hb; exact ⟨g, e, own_below h hb⟩)
          case hangs => exact fun _ _ _ => rfl
          case now => (intro vs w' R hG hn hR; have hR' := Lib.hid hR; have hn' := Lib.hid hn; clear hR hn; replace hG : Below _ _ _ := hG; refine ⟨rfl, ?_⟩; go_simp; exact hR'.out _ _ ⟨_, rfl, own_empty _ _ _ (by have := hG.size; omega)⟩ ((Below.refl _ _).alloc (Nat.le_refl _) _))
          (try simp only [Act.put, List.setIfInBounds_toArray, List.set_cons_zero, List.set_cons_succ])
          apply line_fix
          case now => (intro vs w' R hG hn hR; have hR' := Lib.hid hR; clear hR hn; obtain ⟨⟨dq, osq⟩, rfl⟩ := regrown_of_below hG; clear hG; go_simp; exact hR'.out _ (Below.refl _ _))
          case hangs => exact fun _ _ _ => rfl
          case hR => exact fun _ _ => ⟨_, Below.refl _ _⟩
          (try simp only [Act.put, List.setIfInBounds_toArray, List.set_cons_zero, List.set_cons_succ])
          apply line_var (Φ := fun _ v w => w.ownsRow wr.heap.size 51 7 v j cs)
          case keep => (exact fun _ v w w' h hb => own_below h hb)
          case hangs => exact fun _ _ _ => rfl
          case now => (intro vs w' R hG hn hR; have hR' := Lib.hid hR; have hn' := Lib.hid hn; clear hR hn; replace hG : Below _ _ _ := hG; refine ⟨rfl, ?_⟩; obtain ⟨g, e0, hO⟩ := hn'.out.1 (by kernel_rfl); rw [e0] at hO; obtain ⟨v1, w1, h1, h2, h3⟩ := run_append_full (P := Try.prog) wr.heap.size 46 46 51 _ 7 104 Try.underlying46 info_con' rfl (by decide) (by decide) g 0 [] RA j rc cs hO (ER.out.below hG) (by have := hG.size; omega) (by omega); refine gives_append rfl e0 rfl h1 (hR'.out _ _ ?_ h3); simpa using h2)
          (try simp only [Act.put, List.setIfInBounds_toArray, List.set_cons_zero, List.set_cons_succ])
          apply line_fix
          case now => (intro vs w' R hG hn hR; have hR' := Lib.hid hR; clear hR hn; obtain ⟨⟨dq, osq⟩, rfl⟩ := regrown_of_below hG; clear hG; go_simp; exact hR'.out _ (Below.refl _ _))
          case hangs => exact fun _ _ _ => rfl
          case hR => exact fun _ _ => ⟨_, Below.refl _ _⟩
          (try simp only [Act.put, List.setIfInBounds_toArray, List.set_cons_zero, List.set_cons_succ])
          apply line_var (Φ := fun _ v w => ∃ g, v = .slice (some ⟨g, 0, none⟩) 1 1 ∧ At w g [.string KEY, .bool false, .bool false, .string ⟨#[]⟩, .string ⟨#[]⟩, .slice none 0 0, .slice A0 n0 c0])
          case keep => (rintro _ v w w' ⟨g, e, h⟩ hb; exact ⟨g, e, h.next hb⟩)
          case hangs => exact fun _ _ _ => rfl
          case now => (intro vs w' R hG hn hR; have hR' := Lib.hid hR; have hn' := Lib.hid hn; clear hR hn; replace hG : Below _ _ _ := hG; refine ⟨rfl, ?_⟩; go_simp; exact hR'.out _ _ ⟨_, rfl, At.new _ _ _⟩ ((Below.refl _ _).alloc (Nat.le_refl _) _))
          (try simp only [Act.put, List.setIfInBounds_toArray, List.set_cons_zero, List.set_cons_succ])
          refine line_last (fun vs w5 hG hk => ?_)
          replace hG : Below _ _ _ := hG
          obtain ⟨⟨g4, e4, a4⟩, hO2, _⟩ := hk
          dsimp only at e4 hO2
          generalize vs 2 = v2 at *
          generalize vs 4 = v4 at *
          subst e4
          go_wp2_with (at_builtin; refine wpList_append_rd (w0 := w5) wr.heap.size rfl _ _ 46 51 _ 7 104 rfl Try.underlying46 info_con' rfl (by decide) (by decide) v2 j cs (some ⟨g4, 0, none⟩) 1 1 [.string KEY, .bool false, .bool false, .string ⟨#[]⟩, .string ⟨#[]⟩, .slice none 0 0, .slice A0 n0 c0] (by rfl) (by rfl) hO2 (a4.rd rfl (by decide)) (by simp [Value.oneCell']) (Below.refl _ _) (by have := hG.size; omega) (by omega) ?_)
          intro v6 w6 hO6 hb6 hg6 _
          have aM6 := (EM.out.next hG).grown hg6 (fun e => by have := own_base hO2 _ e; omega)
          have aX6 := (EX.out.next hG).grown hg6 (fun e => by have := own_base hO2 _ e; omega)
          have aD6 := (ED.out.next hG).grown hg6 (fun e => by have := own_base hO2 _ e; omega)
          clear m0 m1 m2 m3 m4 m5 m6 hrc
          have m0 := aM6.cell 0 rfl
          have m1 := aM6.cell 1 rfl
          have m2 := aM6.cell 2 rfl
          have m3 := aM6.cell 3 rfl
          have m4 := aM6.cell 4 rfl
          have m5 := aM6.cell 5 rfl
          have m6 := aM6.cell 6 rfl
          have x2 := aX6.cell 2 rfl
          have lM6 := aM6.lt
          have lX6 := aX6.lt
          have EM6 := Lib.hid aM6
          have EX6 := Lib.hid aX6
          have ED6 := Lib.hid aD6
          have EO6 := Lib.hid hO6
          have EO2 := Lib.hid hO2
          clear aM6 aX6 aD6 hO6 hO2 a4
          go_wp2_with fail
          obtain ⟨W7, hW7⟩ : ∃ W, W = (w6.alloc (Obj.cells #[.string KEY, .bool true, .bool true, .string ⟨#[]⟩, .string ⟨#[]⟩, .slice (some ⟨w6.heap.size + 1, 0, none⟩) 4 4, .slice A0 n0 c0] 51)).alloc (Obj.cells #[.string ⟨#[112]⟩, .string ⟨#[113]⟩, .string ⟨#[114]⟩, .string ⟨#[115]⟩] 9) := ⟨_, rfl⟩
          rw [← hW7]
          have aF : At W7 w6.heap.size [.string KEY, .bool true, .bool true, .string ⟨#[]⟩, .string ⟨#[]⟩, .slice (some ⟨w6.heap.size + 1, 0, none⟩) 4 4, .slice A0 n0 c0] := by rw [hW7]; exact (At.new _ _ _).alloc _
          have aS : At W7 (w6.heap.size + 1) [.string ⟨#[112]⟩, .string ⟨#[113]⟩, .string ⟨#[114]⟩, .string ⟨#[115]⟩] := by
            rw [hW7]
            have := At.new (w6.alloc (Obj.cells #[.string KEY, .bool true, .bool true, .string ⟨#[]⟩, .string ⟨#[]⟩, .slice (some ⟨w6.heap.size + 1, 0, none⟩) 4 4, .slice A0 n0 c0] 51)) #[.string ⟨#[112]⟩, .string ⟨#[113]⟩, .string ⟨#[114]⟩, .string ⟨#[115]⟩] 9
            simpa using this
          have aM : At W7 (X + 1) [.string KEY, .bool false, .bool false, .string ⟨#[]⟩, .string ⟨#[]⟩, .slice none 0 0, .slice A0 n0 c0] := by rw [hW7]; exact (EM6.out.alloc _).alloc _
          have aX : At W7 X [.int .i64 K, .string KEY, .int .i64 1, .string VAL] := by rw [hW7]; exact (EX6.out.alloc _).alloc _
          have aD : At W7 D [.int .i64 dN, .int .i64 dW, .int .i64 dQ, .int .i64 dH, .int .i64 dL, .int .i64 dP] := by rw [hW7]; exact (ED6.out.alloc _).alloc _
          have hb67 : Below w6.heap.size w6 W7 := by rw [hW7]; exact (by (repeat (first | exact Below.refl _ _ | assumption | (refine Below.drew ?_) | (refine below_drewN ?_ _) | (refine Below.alloc ?_ (by first | omega | (simp; done) | (simp; omega)) _) | (refine Below.setCell ?_ (by first | omega | (simp; done) | (simp; omega)) _))))
          clear hW7
          have hbr6 : Below wr.heap.size wr w6 := hG.trans hb6
          have hbr7 : Below wr.heap.size wr W7 := hbr6.trans (hb67.mono hbr6.size)
          have hbw7 : Below w.heap.size w W7 := EB.out.trans (hbr7.mono EB.out.size)
          -- what the four calls say
          obtain ⟨g, hg⟩ : ∃ g, g = checkE dL dP [mine KEY 1 (lastSet L 1 j)] K KEY 1 VAL := ⟨_, rfl⟩
          obtain ⟨A6, c6, hv6, hc6, hR6⟩ := Rd.own EO6.out
          subst hv6
          have hcs7 : Cons W7 cs ((L.take j).map minus) := EC.out.kept hbw7
          have hset7 := ES.out.below hbw7
          have hmine : ConAt W7 [.string KEY, .bool false, .bool false, .string ⟨#[]⟩, .string ⟨#[]⟩, .slice none 0 0, .slice A0 n0 c0] (mine KEY 1 (lastSet L 1 j)) := ⟨none, 0, 0, A0, n0, c0, rfl, Rd.nil _ _ _, Nat.le_refl _, hset7, hnc⟩
          have hfull : ConAt W7 [.string KEY, .bool true, .bool true, .string ⟨#[]⟩, .string ⟨#[]⟩, .slice (some ⟨w6.heap.size + 1, 0, none⟩) 4 4, .slice A0 n0 c0] (fullCon KEY 1 (lastSet L 1 j) [⟨#[112]⟩, ⟨#[113]⟩, ⟨#[114]⟩, ⟨#[115]⟩]) :=
            ⟨some ⟨w6.heap.size + 1, 0, none⟩, 4, 4, A0, n0, c0, rfl, aS.rd rfl (by decide), Nat.le_refl _, hset7, hnc⟩
          have HCW := Lib.hid (fun w2 (h : Below W7.heap.size W7 w2) => (others_with (cL := dL) (cP := dP) good.out HK.out (L.take j) (lastSet L 1 j)).trans hg.symm ▸ check_any dN dW dQ dH dL dP A6 (j + 1) c6 ((L.take j).map minus ++ [mine KEY 1 (lastSet L 1 j)]) K KEY 1 VAL w2 ((RdCons.mk ⟨_, hR6.below (hb67.mono (Nat.le_refl _)), hcs7.snoc hmine⟩ : RdCons W7 A6 (j + 1) _).below h) (by omega) (by omega))
          have HCM := Lib.hid (fun w2 (h : Below W7.heap.size W7 w2) gb (ha : At w2 gb [.string KEY, .bool false, .bool false, .string ⟨#[]⟩, .string ⟨#[]⟩, .slice none 0 0, .slice A0 n0 c0]) => hg.symm ▸ check_any dN dW dQ dH dL dP (some ⟨gb, 0, none⟩) 1 1 [mine KEY 1 (lastSet L 1 j)] K KEY 1 VAL w2 ⟨_, ha.rd rfl (by decide), Cons.cons (hmine.below h) .nil⟩ (by omega) (by omega))
          have HCF := Lib.hid (fun w2 (h : Below W7.heap.size W7 w2) gb (ha : At w2 gb [.string KEY, .bool true, .bool true, .string ⟨#[]⟩, .string ⟨#[]⟩, .slice (some ⟨w6.heap.size + 1, 0, none⟩) 4 4, .slice A0 n0 c0]) => (others_full (cL := dL) (cP := dP) good.out (lastSet L 1 j) [⟨#[112]⟩, ⟨#[113]⟩, ⟨#[114]⟩, ⟨#[115]⟩]).trans hg.symm ▸ check_any dN dW dQ dH dL dP (some ⟨gb, 0, none⟩) 1 1 [fullCon KEY 1 (lastSet L 1 j) [⟨#[112]⟩, ⟨#[113]⟩, ⟨#[114]⟩, ⟨#[115]⟩]] K KEY 1 VAL w2 ⟨_, ha.rd rfl (by decide), Cons.cons (hfull.below h) .nil⟩ (by omega) (by omega))
          have HCN := Lib.hid (fun (hK1 : K ≠ 1) w2 (h : Below W7.heap.size W7 w2) => others_none (cL := dL) (cP := dP) good.out HK.out (L.take j) hK1 ▸ check_any dN dW dQ dH dL dP RA j rc ((L.take j).map minus) K KEY 1 VAL w2 ((RdCons.mk ⟨_, ER.out.below hbr7, hcs7⟩ : RdCons W7 RA j _).below h) (by omega) (by omega))
          have hfin : Below w.heap.size w W7 := hbw7
          have lF := aF.lt
          have lM7 := aM.lt
          have lX7 := aX.lt
          have lD7 := aD.lt
          clear m0 m1 m2 m3 m4 m5 m6 x2
          have f0 := aF.cell 0 rfl
          have f1 := aF.cell 1 rfl
          have f2 := aF.cell 2 rfl
          have f3 := aF.cell 3 rfl
          have f4 := aF.cell 4 rfl
          have f5 := aF.cell 5 rfl
          have f6 := aF.cell 6 rfl
          have m0 := aM.cell 0 rfl
          have m1 := aM.cell 1 rfl
          have m2 := aM.cell 2 rfl
          have m3 := aM.cell 3 rfl
          have m4 := aM.cell 4 rfl
          have m5 := aM.cell 5 rfl
          have m6 := aM.cell 6 rfl
          have x0 := aX.cell 0 rfl
          have x1 := aX.cell 1 rfl
          have x2 := aX.cell 2 rfl
          have x3 := aX.cell 3 rfl
          have d0 := aD.cell 0 rfl
          have d1 := aD.cell 1 rfl
          have d2 := aD.cell 2 rfl
          have d3 := aD.cell 3 rfl
          have d4 := aD.cell 4 rfl
          have d5 := aD.cell 5 rfl
          have EH := Lib.hid hfin
          clear aF aS aM aX aD hb67 hbr6 hbr7 hbw7 hfin hcs7 hset7 hmine hfull hR6 hb6 hG
          generalize hg0 : g = g0 at *
          clear hg0
          have hrc := regrown_cell W7
          have gg : (g0 == g0) = true := by simp
          by_cases hK1 : K = 1
          · subst hK1
            refine wp_region_line 38 (by kernel_rfl) (by kernel_rfl) ?_
            apply line_fix
            case now => (intro vs w' R hG hn hR; have hR' := Lib.hid hR; clear hR hn; obtain ⟨⟨dq, osq⟩, rfl⟩ := regrown_of_below hG; clear hG; go_simp; exact hR'.out _ (Below.refl _ _))
            case hangs => exact fun _ _ _ => rfl
            case hR => exact fun _ _ => ⟨_, Below.refl _ _⟩
            (try simp only [Act.put, List.setIfInBounds_toArray, List.set_cons_zero, List.set_cons_succ])
            apply line_fix
            case now => (intro vs w' R hG hn hR; have hR' := Lib.hid hR; clear hR hn; obtain ⟨⟨dq, osq⟩, rfl⟩ := regrown_of_below hG; clear hG; go_simp; exact hR'.out _ (Below.refl _ _))
            case hangs => exact fun _ _ _ => rfl
            case hR => exact fun _ _ => ⟨_, Below.refl _ _⟩
            (try simp only [Act.put, List.setIfInBounds_toArray, List.set_cons_zero, List.set_cons_succ])
            apply line_fix
            case now => (intro vs w' R hG hn hR; have hR' := Lib.hid hR; clear hR hn; obtain ⟨⟨dq, osq⟩, rfl⟩ := regrown_of_below hG; clear hG; go_simp; exact hR'.out _ (Below.refl _ _))
            case hangs => exact fun _ _ _ => rfl
            case hR => exact fun _ _ => ⟨_, Below.refl _ _⟩
            (try simp only [Act.put, List.setIfInBounds_toArray, List.set_cons_zero, List.set_cons_succ])
            apply line_fix
            case now => (intro vs w' R hG hn hR; have hR' := Lib.hid hR; clear hR hn; obtain ⟨⟨dq, osq⟩, rfl⟩ := regrown_of_below hG; clear hG; go_simp; exact hR'.out _ (Below.refl _ _))
            case hangs => exact fun _ _ _ => rfl
            case hR => exact fun _ _ => ⟨_, Below.refl _ _⟩
            (try simp only [Act.put, List.setIfInBounds_toArray, List.set_cons_zero, List.set_cons_succ])
            apply line_fix
            case now => (intro vs w' R hG hn hR; have hR' := Lib.hid hR; clear hR hn; obtain ⟨⟨dq, osq⟩, rfl⟩ := regrown_of_below hG; clear hG; go_simp; exact hR'.out _ (Below.refl _ _))
            case hangs => exact fun _ _ _ => rfl
            case hR => exact fun _ _ => ⟨_, Below.refl _ _⟩
            (try simp only [Act.put, List.setIfInBounds_toArray, List.set_cons_zero, List.set_cons_succ])
            apply line_fix
            case now => (intro vs w' R hG hn hR; have hR' := Lib.hid hR; have hn' := Lib.hid hn; clear hR hn; replace hG : Below _ _ _ := hG; skip; go_simp; refine (HCW.out _ hG).mono ?_; rintro e w'' ⟨rfl, hb⟩; exact ⟨_, rfl, hR'.out _ hb⟩)
            case hangs => exact fun _ _ _ => rfl
            case hR => exact fun _ _ => ⟨_, Below.refl _ _⟩
            (try simp only [Act.put, List.setIfInBounds_toArray, List.set_cons_zero, List.set_cons_succ])
            apply line_fix
            case now => (intro vs w' R hG hn hR; have hR' := Lib.hid hR; clear hR hn; obtain ⟨⟨dq, osq⟩, rfl⟩ := regrown_of_below hG; clear hG; go_simp; exact hR'.out _ (Below.refl _ _))
            case hangs => exact fun _ _ _ => rfl
            case hR => exact fun _ _ => ⟨_, Below.refl _ _⟩
            (try simp only [Act.put, List.setIfInBounds_toArray, List.set_cons_zero, List.set_cons_succ])
            apply line_fix
            case now => (intro vs w' R hG hn hR; have hR' := Lib.hid hR; clear hR hn; obtain ⟨⟨dq, osq⟩, rfl⟩ := regrown_of_below hG; clear hG; go_simp; exact hR'.out _ (Below.refl _ _))
            case hangs => exact fun _ _ _ => rfl
            case hR => exact fun _ _ => ⟨_, Below.refl _ _⟩
            (try simp only [Act.put, List.setIfInBounds_toArray, List.set_cons_zero, List.set_cons_succ])
            apply line_var (Φ := fun _ v w => ∃ g, v = .slice (some ⟨g, 0, none⟩) 1 1 ∧ At w g [.string KEY, .bool false, .bool false, .string ⟨#[]⟩, .string ⟨#[]⟩, .slice none 0 0, .slice A0 n0 c0])
            case keep => (rintro _ v w w' ⟨g, e, h⟩ hb; exact ⟨g, e, h.next hb⟩)
            case hangs => exact fun _ _ _ => rfl
            case now => (intro vs w' R hG hn hR; have hR' := Lib.hid hR; have hn' := Lib.hid hn; clear hR hn; replace hG : Below _ _ _ := hG; refine ⟨rfl, ?_⟩; go_simp; exact hR'.out _ _ ⟨_, rfl, At.new _ _ _⟩ ((Below.refl _ _).alloc (Nat.le_refl _) _))
            (try simp only [Act.put, List.setIfInBounds_toArray, List.set_cons_zero, List.set_cons_succ])
            apply line_fix
            case now => (intro vs w' R hG hn hR; have hR' := Lib.hid hR; clear hR hn; obtain ⟨⟨dq, osq⟩, rfl⟩ := regrown_of_below hG; clear hG; go_simp; exact hR'.out _ (Below.refl _ _))
            case hangs => exact fun _ _ _ => rfl
            case hR => exact fun _ _ => ⟨_, Below.refl _ _⟩
            (try simp only [Act.put, List.setIfInBounds_toArray, List.set_cons_zero, List.set_cons_succ])
            apply line_fix
            case now => (intro vs w' R hG hn hR; have hR' := Lib.hid hR; have hn' := Lib.hid hn; clear hR hn; replace hG : Below _ _ _ := hG; obtain ⟨gb, e8, a8⟩ := hn'.out.1 (by kernel_rfl); dsimp only at e8; go_simp; refine (HCM.out _ hG gb a8).mono ?_; rintro e w'' ⟨rfl, hb⟩; exact ⟨_, rfl, hR'.out _ hb⟩)
            case hangs => exact fun _ _ _ => rfl
            case hR => exact fun _ _ => ⟨_, Below.refl _ _⟩
            (try simp only [Act.put, List.setIfInBounds_toArray, List.set_cons_zero, List.set_cons_succ])
            apply line_fix
            case now => (intro vs w' R hG hn hR; have hR' := Lib.hid hR; clear hR hn; obtain ⟨⟨dq, osq⟩, rfl⟩ := regrown_of_below hG; clear hG; go_simp; exact hR'.out _ (Below.refl _ _))
            case hangs => exact fun _ _ _ => rfl
            case hR => exact fun _ _ => ⟨_, Below.refl _ _⟩
            (try simp only [Act.put, List.setIfInBounds_toArray, List.set_cons_zero, List.set_cons_succ])
            apply line_fix
            case now => (intro vs w' R hG hn hR; have hR' := Lib.hid hR; clear hR hn; obtain ⟨⟨dq, osq⟩, rfl⟩ := regrown_of_below hG; clear hG; go_simp; exact hR'.out _ (Below.refl _ _))
            case hangs => exact fun _ _ _ => rfl
            case hR => exact fun _ _ => ⟨_, Below.refl _ _⟩
            (try simp only [Act.put, List.setIfInBounds_toArray, List.set_cons_zero, List.set_cons_succ])
            apply line_fix
            case now => (intro vs w' R hG hn hR; have hR' := Lib.hid hR; clear hR hn; obtain ⟨⟨dq, osq⟩, rfl⟩ := regrown_of_below hG; clear hG; go_simp; exact hR'.out _ (Below.refl _ _))
            case hangs => exact fun _ _ _ => rfl
            case hR => exact fun _ _ => ⟨_, Below.refl _ _⟩
            (try simp only [Act.put, List.setIfInBounds_toArray, List.set_cons_zero, List.set_cons_succ])
            apply line_fix
            case now => (intro vs w' R hG hn hR; have hR' := Lib.hid hR; clear hR hn; obtain ⟨⟨dq, osq⟩, rfl⟩ := regrown_of_below hG; clear hG; go_simp; exact hR'.out _ (Below.refl _ _))
            case hangs => exact fun _ _ _ => rfl
            case hR => exact fun _ _ => ⟨_, Below.refl _ _⟩
            (try simp only [Act.put, List.setIfInBounds_toArray, List.set_cons_zero, List.set_cons_succ])
            apply line_fix
            case now => (intro vs w' R hG hn hR; have hR' := Lib.hid hR; clear hR hn; obtain ⟨⟨dq, osq⟩, rfl⟩ := regrown_of_below hG; clear hG; go_simp; exact hR'.out _ (Below.refl _ _))
            case hangs => exact fun _ _ _ => rfl
            case hR => exact fun _ _ => ⟨_, Below.refl _ _⟩
            (try simp only [Act.put, List.setIfInBounds_toArray, List.set_cons_zero, List.set_cons_succ])
            apply line_var (Φ := fun _ v w => ∃ g, v = .slice (some ⟨g, 0, none⟩) 1 1 ∧ At w g [.string KEY, .bool true, .bool true, .string ⟨#[]⟩, .string ⟨#[]⟩, .slice (some ⟨w6.heap.size + 1, 0, none⟩) 4 4, .slice A0 n0 c0])
            case keep => (rintro _ v w w' ⟨g, e, h⟩ hb; exact ⟨g, e, h.next hb⟩)
            case hangs => exact fun _ _ _ => rfl
            case now => (intro vs w' R hG hn hR; have hR' := Lib.hid hR; have hn' := Lib.hid hn; clear hR hn; replace hG : Below _ _ _ := hG; refine ⟨rfl, ?_⟩; go_simp; exact hR'.out _ _ ⟨_, rfl, At.new _ _ _⟩ ((Below.refl _ _).alloc (Nat.le_refl _) _))
            (try simp only [Act.put, List.setIfInBounds_toArray, List.set_cons_zero, List.set_cons_succ])
            apply line_fix
            case now => (intro vs w' R hG hn hR; have hR' := Lib.hid hR; clear hR hn; obtain ⟨⟨dq, osq⟩, rfl⟩ := regrown_of_below hG; clear hG; go_simp; exact hR'.out _ (Below.refl _ _))
            case hangs => exact fun _ _ _ => rfl
            case hR => exact fun _ _ => ⟨_, Below.refl _ _⟩
            (try simp only [Act.put, List.setIfInBounds_toArray, List.set_cons_zero, List.set_cons_succ])
            apply line_fix
            case now => (intro vs w' R hG hn hR; have hR' := Lib.hid hR; have hn' := Lib.hid hn; clear hR hn; replace hG : Below _ _ _ := hG; obtain ⟨gb, e8, a8⟩ := hn'.out.1 (by kernel_rfl); dsimp only at e8; go_simp; refine (HCF.out _ hG gb a8).mono ?_; rintro e w'' ⟨rfl, hb⟩; exact ⟨_, rfl, hR'.out _ hb⟩)
            case hangs => exact fun _ _ _ => rfl
            case hR => exact fun _ _ => ⟨_, Below.refl _ _⟩
            (try simp only [Act.put, List.setIfInBounds_toArray, List.set_cons_zero, List.set_cons_succ])
            apply line_fix
            case now => (intro vs w' R hG hn hR; have hR' := Lib.hid hR; clear hR hn; obtain ⟨⟨dq, osq⟩, rfl⟩ := regrown_of_below hG; clear hG; go_simp; exact hR'.out _ (Below.refl _ _))
            case hangs => exact fun _ _ _ => rfl
            case hR => exact fun _ _ => ⟨_, Below.refl _ _⟩
            (try simp only [Act.put, List.setIfInBounds_toArray, List.set_cons_zero, List.set_cons_succ])
            apply line_fix
            case now => (intro vs w' R hG hn hR; have hR' := Lib.hid hR; clear hR hn; obtain ⟨⟨dq, osq⟩, rfl⟩ := regrown_of_below hG; clear hG; go_simp; exact hR'.out _ (Below.refl _ _))
            case hangs => exact fun _ _ _ => rfl
            case hR => exact fun _ _ => ⟨_, Below.refl _ _⟩
            (try simp only [Act.put, List.setIfInBounds_toArray, List.set_cons_zero, List.set_cons_succ])
            apply line_var (Φ := fun _ v w => ∃ g, v = .slice (some ⟨g, 0, none⟩) 1 1 ∧ At w g [.string KEY, .bool false, .bool false, .string ⟨#[]⟩, .string ⟨#[]⟩, .slice none 0 0, .slice A0 n0 c0])
            case keep => (rintro _ v w w' ⟨g, e, h⟩ hb; exact ⟨g, e, h.next hb⟩)
            case hangs => exact fun _ _ _ => rfl
            case now => (intro vs w' R hG hn hR; have hR' := Lib.hid hR; have hn' := Lib.hid hn; clear hR hn; replace hG : Below _ _ _ := hG; refine ⟨rfl, ?_⟩; go_simp; exact hR'.out _ _ ⟨_, rfl, At.new _ _ _⟩ ((Below.refl _ _).alloc (Nat.le_refl _) _))
            (try simp only [Act.put, List.setIfInBounds_toArray, List.set_cons_zero, List.set_cons_succ])
            apply line_fix
            case now => (intro vs w' R hG hn hR; have hR' := Lib.hid hR; clear hR hn; obtain ⟨⟨dq, osq⟩, rfl⟩ := regrown_of_below hG; clear hG; go_simp; exact hR'.out _ (Below.refl _ _))
            case hangs => exact fun _ _ _ => rfl
            case hR => exact fun _ _ => ⟨_, Below.refl _ _⟩
            (try simp only [Act.put, List.setIfInBounds_toArray, List.set_cons_zero, List.set_cons_succ])
            apply line_fix
            case now => (intro vs w' R hG hn hR; have hR' := Lib.hid hR; have hn' := Lib.hid hn; clear hR hn; replace hG : Below _ _ _ := hG; obtain ⟨gb, e8, a8⟩ := hn'.out.1 (by kernel_rfl); dsimp only at e8; go_simp; refine (HCM.out _ hG gb a8).mono ?_; rintro e w'' ⟨rfl, hb⟩; exact ⟨_, rfl, hR'.out _ hb⟩)
            case hangs => exact fun _ _ _ => rfl
            case hR => exact fun _ _ => ⟨_, Below.refl _ _⟩
            (try simp only [Act.put, List.setIfInBounds_toArray, List.set_cons_zero, List.set_cons_succ])
            apply line_fix
            case now => (intro vs w' R hG hn hR; have hR' := Lib.hid hR; clear hR hn; obtain ⟨⟨dq, osq⟩, rfl⟩ := regrown_of_below hG; clear hG; go_simp; exact hR'.out _ (Below.refl _ _))
            case hangs => exact fun _ _ _ => rfl
            case hR => exact fun _ _ => ⟨_, Below.refl _ _⟩
            (try simp only [Act.put, List.setIfInBounds_toArray, List.set_cons_zero, List.set_cons_succ])
            apply line_fix
            case now => (intro vs w' R hG hn hR; have hR' := Lib.hid hR; clear hR hn; obtain ⟨⟨dq, osq⟩, rfl⟩ := regrown_of_below hG; clear hG; go_simp; exact hR'.out _ (Below.refl _ _))
            case hangs => exact fun _ _ _ => rfl
            case hR => exact fun _ _ => ⟨_, Below.refl _ _⟩
            (try simp only [Act.put, List.setIfInBounds_toArray, List.set_cons_zero, List.set_cons_succ])
            apply line_fix
            case now => (intro vs w' R hG hn hR; have hR' := Lib.hid hR; clear hR hn; obtain ⟨⟨dq, osq⟩, rfl⟩ := regrown_of_below hG; clear hG; go_simp; exact hR'.out _ (Below.refl _ _))
            case hangs => exact fun _ _ _ => rfl
            case hR => exact fun _ _ => ⟨_, Below.refl _ _⟩
            (try simp only [Act.put, List.setIfInBounds_toArray, List.set_cons_zero, List.set_cons_succ])
            apply line_fix
            case now => (intro vs w' R hG hn hR; have hR' := Lib.hid hR; clear hR hn; obtain ⟨⟨dq, osq⟩, rfl⟩ := regrown_of_below hG; clear hG; go_simp; exact hR'.out _ (Below.refl _ _))
            case hangs => exact fun _ _ _ => rfl
            case hR => exact fun _ _ => ⟨_, Below.refl _ _⟩
            (try simp only [Act.put, List.setIfInBounds_toArray, List.set_cons_zero, List.set_cons_succ])
            apply line_fix
            case now => (intro vs w' R hG hn hR; have hR' := Lib.hid hR; clear hR hn; obtain ⟨⟨dq, osq⟩, rfl⟩ := regrown_of_below hG; clear hG; go_simp; exact hR'.out _ (Below.refl _ _))
            case hangs => exact fun _ _ _ => rfl
            case hR => exact fun _ _ => ⟨_, Below.refl _ _⟩
            (try simp only [Act.put, List.setIfInBounds_toArray, List.set_cons_zero, List.set_cons_succ])
            apply line_fix
            case now => (intro vs w' R hG hn hR; have hR' := Lib.hid hR; clear hR hn; obtain ⟨⟨dq, osq⟩, rfl⟩ := regrown_of_below hG; clear hG; go_simp; exact hR'.out _ (Below.refl _ _))
            case hangs => exact fun _ _ _ => rfl
            case hR => exact fun _ _ => ⟨_, Below.refl _ _⟩
            (try simp only [Act.put, List.setIfInBounds_toArray, List.set_cons_zero, List.set_cons_succ])
            apply line_fix
            case now => (intro vs w' R hG hn hR; have hR' := Lib.hid hR; clear hR hn; obtain ⟨⟨dq, osq⟩, rfl⟩ := regrown_of_below hG; clear hG; go_simp; exact hR'.out _ (Below.refl _ _))
            case hangs => exact fun _ _ _ => rfl
            case hR => exact fun _ _ => ⟨_, Below.refl _ _⟩
            (try simp only [Act.put, List.setIfInBounds_toArray, List.set_cons_zero, List.set_cons_succ])
            apply line_fix
            case now => (intro vs w' R hG hn hR; have hR' := Lib.hid hR; clear hR hn; obtain ⟨⟨dq, osq⟩, rfl⟩ := regrown_of_below hG; clear hG; go_simp; exact hR'.out _ (Below.refl _ _))
            case hangs => exact fun _ _ _ => rfl
            case hR => exact fun _ _ => ⟨_, Below.refl _ _⟩
            (try simp only [Act.put, List.setIfInBounds_toArray, List.set_cons_zero, List.set_cons_succ])
            apply line_fix
            case now => (intro vs w' R hG hn hR; have hR' := Lib.hid hR; clear hR hn; obtain ⟨⟨dq, osq⟩, rfl⟩ := regrown_of_below hG; clear hG; go_simp; exact hR'.out _ (Below.refl _ _))
            case hangs => exact fun _ _ _ => rfl
            case hR => exact fun _ _ => ⟨_, Below.refl _ _⟩
            (try simp only [Act.put, List.setIfInBounds_toArray, List.set_cons_zero, List.set_cons_succ])
            apply line_fix
            case now => (intro vs w' R hG hn hR; have hR' := Lib.hid hR; clear hR hn; obtain ⟨⟨dq, osq⟩, rfl⟩ := regrown_of_below hG; clear hG; go_simp; exact hR'.out _ (Below.refl _ _))
            case hangs => exact fun _ _ _ => rfl
            case hR => exact fun _ _ => ⟨_, Below.refl _ _⟩
            (try simp only [Act.put, List.setIfInBounds_toArray, List.set_cons_zero, List.set_cons_succ])
            apply line_fix
            case now => (intro vs w' R hG hn hR; have hR' := Lib.hid hR; clear hR hn; obtain ⟨⟨dq, osq⟩, rfl⟩ := regrown_of_below hG; clear hG; go_simp; exact hR'.out _ (Below.refl _ _))
            case hangs => exact fun _ _ _ => rfl
            case hR => exact fun _ _ => ⟨_, Below.refl _ _⟩
            (try simp only [Act.put, List.setIfInBounds_toArray, List.set_cons_zero, List.set_cons_succ])
            apply line_fix
            case now => (intro vs w' R hG hn hR; have hR' := Lib.hid hR; clear hR hn; obtain ⟨⟨dq, osq⟩, rfl⟩ := regrown_of_below hG; clear hG; go_simp; exact hR'.out _ (Below.refl _ _))
            case hangs => exact fun _ _ _ => rfl
            case hR => exact fun _ _ => ⟨_, Below.refl _ _⟩
            (try simp only [Act.put, List.setIfInBounds_toArray, List.set_cons_zero, List.set_cons_succ])
            apply line_fix
            case now => (intro vs w' R hG hn hR; have hR' := Lib.hid hR; clear hR hn; obtain ⟨⟨dq, osq⟩, rfl⟩ := regrown_of_below hG; clear hG; go_simp; exact hR'.out _ (Below.refl _ _))
            case hangs => exact fun _ _ _ => rfl
            case hR => exact fun _ _ => ⟨_, Below.refl _ _⟩
            (try simp only [Act.put, List.setIfInBounds_toArray, List.set_cons_zero, List.set_cons_succ])
            apply line_fix
            case now => (intro vs w' R hG hn hR; have hR' := Lib.hid hR; clear hR hn; obtain ⟨⟨dq, osq⟩, rfl⟩ := regrown_of_below hG; clear hG; go_simp; exact hR'.out _ (Below.refl _ _))
            case hangs => exact fun _ _ _ => rfl
            case hR => exact fun _ _ => ⟨_, Below.refl _ _⟩
            (try simp only [Act.put, List.setIfInBounds_toArray, List.set_cons_zero, List.set_cons_succ])
            refine line_last (fun vs w8 hG _ => ?_)
            replace hG : Below _ _ _ := hG
            go_wp2_with fail
            go_ret
            exact ⟨rfl, EH.out.trans (hG.mono EH.out.size)⟩
          · have hk1 : (K == 1) = false := by simpa using hK1
            replace hK1 := Lib.hid hK1
            refine wp_region_line 38 (by kernel_rfl) (by kernel_rfl) ?_
            apply line_fix
            case now => (intro vs w' R hG hn hR; have hR' := Lib.hid hR; clear hR hn; obtain ⟨⟨dq, osq⟩, rfl⟩ := regrown_of_below hG; clear hG; go_simp; exact hR'.out _ (Below.refl _ _))
            case hangs => exact fun _ _ _ => rfl
            case hR => exact fun _ _ => ⟨_, Below.refl _ _⟩
            (try simp only [Act.put, List.setIfInBounds_toArray, List.set_cons_zero, List.set_cons_succ])
            apply line_fix
            case now => (intro vs w' R hG hn hR; have hR' := Lib.hid hR; clear hR hn; obtain ⟨⟨dq, osq⟩, rfl⟩ := regrown_of_below hG; clear hG; go_simp; exact hR'.out _ (Below.refl _ _))
            case hangs => exact fun _ _ _ => rfl
            case hR => exact fun _ _ => ⟨_, Below.refl _ _⟩
            (try simp only [Act.put, List.setIfInBounds_toArray, List.set_cons_zero, List.set_cons_succ])
            apply line_fix
            case now => (intro vs w' R hG hn hR; have hR' := Lib.hid hR; clear hR hn; obtain ⟨⟨dq, osq⟩, rfl⟩ := regrown_of_below hG; clear hG; go_simp; exact hR'.out _ (Below.refl _ _))
            case hangs => exact fun _ _ _ => rfl
            case hR => exact fun _ _ => ⟨_, Below.refl _ _⟩
            (try simp only [Act.put, List.setIfInBounds_toArray, List.set_cons_zero, List.set_cons_succ])
            apply line_fix
            case now => (intro vs w' R hG hn hR; have hR' := Lib.hid hR; clear hR hn; obtain ⟨⟨dq, osq⟩, rfl⟩ := regrown_of_below hG; clear hG; go_simp; exact hR'.out _ (Below.refl _ _))
            case hangs => exact fun _ _ _ => rfl
            case hR => exact fun _ _ => ⟨_, Below.refl _ _⟩
            (try simp only [Act.put, List.setIfInBounds_toArray, List.set_cons_zero, List.set_cons_succ])
            apply line_fix
            case now => (intro vs w' R hG hn hR; have hR' := Lib.hid hR; clear hR hn; obtain ⟨⟨dq, osq⟩, rfl⟩ := regrown_of_below hG; clear hG; go_simp; exact hR'.out _ (Below.refl _ _))
            case hangs => exact fun _ _ _ => rfl
            case hR => exact fun _ _ => ⟨_, Below.refl _ _⟩
            (try simp only [Act.put, List.setIfInBounds_toArray, List.set_cons_zero, List.set_cons_succ])
            apply line_fix
            case now => (intro vs w' R hG hn hR; have hR' := Lib.hid hR; have hn' := Lib.hid hn; clear hR hn; replace hG : Below _ _ _ := hG; skip; go_simp; refine (HCW.out _ hG).mono ?_; rintro e w'' ⟨rfl, hb⟩; exact ⟨_, rfl, hR'.out _ hb⟩)
            case hangs => exact fun _ _ _ => rfl
            case hR => exact fun _ _ => ⟨_, Below.refl _ _⟩
            (try simp only [Act.put, List.setIfInBounds_toArray, List.set_cons_zero, List.set_cons_succ])
            apply line_fix
            case now => (intro vs w' R hG hn hR; have hR' := Lib.hid hR; clear hR hn; obtain ⟨⟨dq, osq⟩, rfl⟩ := regrown_of_below hG; clear hG; go_simp; exact hR'.out _ (Below.refl _ _))
            case hangs => exact fun _ _ _ => rfl
            case hR => exact fun _ _ => ⟨_, Below.refl _ _⟩
            (try simp only [Act.put, List.setIfInBounds_toArray, List.set_cons_zero, List.set_cons_succ])
            apply line_fix
            case now => (intro vs w' R hG hn hR; have hR' := Lib.hid hR; clear hR hn; obtain ⟨⟨dq, osq⟩, rfl⟩ := regrown_of_below hG; clear hG; go_simp; exact hR'.out _ (Below.refl _ _))
            case hangs => exact fun _ _ _ => rfl
            case hR => exact fun _ _ => ⟨_, Below.refl _ _⟩
            (try simp only [Act.put, List.setIfInBounds_toArray, List.set_cons_zero, List.set_cons_succ])
            apply line_var (Φ := fun _ v w => ∃ g, v = .slice (some ⟨g, 0, none⟩) 1 1 ∧ At w g [.string KEY, .bool false, .bool false, .string ⟨#[]⟩, .string ⟨#[]⟩, .slice none 0 0, .slice A0 n0 c0])
            case keep => (rintro _ v w w' ⟨g, e, h⟩ hb; exact ⟨g, e, h.next hb⟩)
            case hangs => exact fun _ _ _ => rfl
            case now => (intro vs w' R hG hn hR; have hR' := Lib.hid hR; have hn' := Lib.hid hn; clear hR hn; replace hG : Below _ _ _ := hG; refine ⟨rfl, ?_⟩; go_simp; exact hR'.out _ _ ⟨_, rfl, At.new _ _ _⟩ ((Below.refl _ _).alloc (Nat.le_refl _) _))
            (try simp only [Act.put, List.setIfInBounds_toArray, List.set_cons_zero, List.set_cons_succ])
            apply line_fix
            case now => (intro vs w' R hG hn hR; have hR' := Lib.hid hR; clear hR hn; obtain ⟨⟨dq, osq⟩, rfl⟩ := regrown_of_below hG; clear hG; go_simp; exact hR'.out _ (Below.refl _ _))
            case hangs => exact fun _ _ _ => rfl
            case hR => exact fun _ _ => ⟨_, Below.refl _ _⟩
            (try simp only [Act.put, List.setIfInBounds_toArray, List.set_cons_zero, List.set_cons_succ])
            apply line_fix
            case now => (intro vs w' R hG hn hR; have hR' := Lib.hid hR; have hn' := Lib.hid hn; clear hR hn; replace hG : Below _ _ _ := hG; obtain ⟨gb, e8, a8⟩ := hn'.out.1 (by kernel_rfl); dsimp only at e8; go_simp; refine (HCM.out _ hG gb a8).mono ?_; rintro e w'' ⟨rfl, hb⟩; exact ⟨_, rfl, hR'.out _ hb⟩)
            case hangs => exact fun _ _ _ => rfl
            case hR => exact fun _ _ => ⟨_, Below.refl _ _⟩
            (try simp only [Act.put, List.setIfInBounds_toArray, List.set_cons_zero, List.set_cons_succ])
            apply line_fix
            case now => (intro vs w' R hG hn hR; have hR' := Lib.hid hR; clear hR hn; obtain ⟨⟨dq, osq⟩, rfl⟩ := regrown_of_below hG; clear hG; go_simp; exact hR'.out _ (Below.refl _ _))
            case hangs => exact fun _ _ _ => rfl
            case hR => exact fun _ _ => ⟨_, Below.refl _ _⟩
            (try simp only [Act.put, List.setIfInBounds_toArray, List.set_cons_zero, List.set_cons_succ])
            apply line_fix
            case now => (intro vs w' R hG hn hR; have hR' := Lib.hid hR; clear hR hn; obtain ⟨⟨dq, osq⟩, rfl⟩ := regrown_of_below hG; clear hG; go_simp; exact hR'.out _ (Below.refl _ _))
            case hangs => exact fun _ _ _ => rfl
            case hR => exact fun _ _ => ⟨_, Below.refl _ _⟩
            (try simp only [Act.put, List.setIfInBounds_toArray, List.set_cons_zero, List.set_cons_succ])
            apply line_fix
            case now => (intro vs w' R hG hn hR; have hR' := Lib.hid hR; clear hR hn; obtain ⟨⟨dq, osq⟩, rfl⟩ := regrown_of_below hG; clear hG; go_simp; exact hR'.out _ (Below.refl _ _))
            case hangs => exact fun _ _ _ => rfl
            case hR => exact fun _ _ => ⟨_, Below.refl _ _⟩
            (try simp only [Act.put, List.setIfInBounds_toArray, List.set_cons_zero, List.set_cons_succ])
            apply line_fix
            case now => (intro vs w' R hG hn hR; have hR' := Lib.hid hR; clear hR hn; obtain ⟨⟨dq, osq⟩, rfl⟩ := regrown_of_below hG; clear hG; go_simp; exact hR'.out _ (Below.refl _ _))
            case hangs => exact fun _ _ _ => rfl
            case hR => exact fun _ _ => ⟨_, Below.refl _ _⟩
            (try simp only [Act.put, List.setIfInBounds_toArray, List.set_cons_zero, List.set_cons_succ])
            apply line_fix
            case now => (intro vs w' R hG hn hR; have hR' := Lib.hid hR; clear hR hn; obtain ⟨⟨dq, osq⟩, rfl⟩ := regrown_of_below hG; clear hG; go_simp; exact hR'.out _ (Below.refl _ _))
            case hangs => exact fun _ _ _ => rfl
            case hR => exact fun _ _ => ⟨_, Below.refl _ _⟩
            (try simp only [Act.put, List.setIfInBounds_toArray, List.set_cons_zero, List.set_cons_succ])
            apply line_var (Φ := fun _ v w => ∃ g, v = .slice (some ⟨g, 0, none⟩) 1 1 ∧ At w g [.string KEY, .bool true, .bool true, .string ⟨#[]⟩, .string ⟨#[]⟩, .slice (some ⟨w6.heap.size + 1, 0, none⟩) 4 4, .slice A0 n0 c0])
            case keep => (rintro _ v w w' ⟨g, e, h⟩ hb; exact ⟨g, e, h.next hb⟩)
            case hangs => exact fun _ _ _ => rfl
            case now => (intro vs w' R hG hn hR; have hR' := Lib.hid hR; have hn' := Lib.hid hn; clear hR hn; replace hG : Below _ _ _ := hG; refine ⟨rfl, ?_⟩; go_simp; exact hR'.out _ _ ⟨_, rfl, At.new _ _ _⟩ ((Below.refl _ _).alloc (Nat.le_refl _) _))
            (try simp only [Act.put, List.setIfInBounds_toArray, List.set_cons_zero, List.set_cons_succ])
            apply line_fix
            case now => (intro vs w' R hG hn hR; have hR' := Lib.hid hR; clear hR hn; obtain ⟨⟨dq, osq⟩, rfl⟩ := regrown_of_below hG; clear hG; go_simp; exact hR'.out _ (Below.refl _ _))
            case hangs => exact fun _ _ _ => rfl
            case hR => exact fun _ _ => ⟨_, Below.refl _ _⟩
            (try simp only [Act.put, List.setIfInBounds_toArray, List.set_cons_zero, List.set_cons_succ])
            apply line_fix
            case now => (intro vs w' R hG hn hR; have hR' := Lib.hid hR; have hn' := Lib.hid hn; clear hR hn; replace hG : Below _ _ _ := hG; obtain ⟨gb, e8, a8⟩ := hn'.out.1 (by kernel_rfl); dsimp only at e8; go_simp; refine (HCF.out _ hG gb a8).mono ?_; rintro e w'' ⟨rfl, hb⟩; exact ⟨_, rfl, hR'.out _ hb⟩)
            case hangs => exact fun _ _ _ => rfl
            case hR => exact fun _ _ => ⟨_, Below.refl _ _⟩
            (try simp only [Act.put, List.setIfInBounds_toArray, List.set_cons_zero, List.set_cons_succ])
            apply line_fix
            case now => (intro vs w' R hG hn hR; have hR' := Lib.hid hR; clear hR hn; obtain ⟨⟨dq, osq⟩, rfl⟩ := regrown_of_below hG; clear hG; go_simp; exact hR'.out _ (Below.refl _ _))
            case hangs => exact fun _ _ _ => rfl
            case hR => exact fun _ _ => ⟨_, Below.refl _ _⟩
            (try simp only [Act.put, List.setIfInBounds_toArray, List.set_cons_zero, List.set_cons_succ])
            apply line_fix
            case now => (intro vs w' R hG hn hR; have hR' := Lib.hid hR; clear hR hn; obtain ⟨⟨dq, osq⟩, rfl⟩ := regrown_of_below hG; clear hG; go_simp; exact hR'.out _ (Below.refl _ _))
            case hangs => exact fun _ _ _ => rfl
            case hR => exact fun _ _ => ⟨_, Below.refl _ _⟩
            (try simp only [Act.put, List.setIfInBounds_toArray, List.set_cons_zero, List.set_cons_succ])
            apply line_var (Φ := fun _ v w => ∃ g, v = .slice (some ⟨g, 0, none⟩) 1 1 ∧ At w g [.string KEY, .bool false, .bool false, .string ⟨#[]⟩, .string ⟨#[]⟩, .slice none 0 0, .slice A0 n0 c0])
            case keep => (rintro _ v w w' ⟨g, e, h⟩ hb; exact ⟨g, e, h.next hb⟩)
            case hangs => exact fun _ _ _ => rfl
            case now => (intro vs w' R hG hn hR; have hR' := Lib.hid hR; have hn' := Lib.hid hn; clear hR hn; replace hG : Below _ _ _ := hG; refine ⟨rfl, ?_⟩; go_simp; exact hR'.out _ _ ⟨_, rfl, At.new _ _ _⟩ ((Below.refl _ _).alloc (Nat.le_refl _) _))
            (try simp only [Act.put, List.setIfInBounds_toArray, List.set_cons_zero, List.set_cons_succ])
            apply line_fix
            case now => (intro vs w' R hG hn hR; have hR' := Lib.hid hR; clear hR hn; obtain ⟨⟨dq, osq⟩, rfl⟩ := regrown_of_below hG; clear hG; go_simp; exact hR'.out _ (Below.refl _ _))
            case hangs => exact fun _ _ _ => rfl
            case hR => exact fun _ _ => ⟨_, Below.refl _ _⟩
            (try simp only [Act.put, List.setIfInBounds_toArray, List.set_cons_zero, List.set_cons_succ])
            apply line_fix
            case now => (intro vs w' R hG hn hR; have hR' := Lib.hid hR; have hn' := Lib.hid hn; clear hR hn; replace hG : Below _ _ _ := hG; obtain ⟨gb, e8, a8⟩ := hn'.out.1 (by kernel_rfl); dsimp only at e8; go_simp; refine (HCM.out _ hG gb a8).mono ?_; rintro e w'' ⟨rfl, hb⟩; exact ⟨_, rfl, hR'.out _ hb⟩)
            case hangs => exact fun _ _ _ => rfl
            case hR => exact fun _ _ => ⟨_, Below.refl _ _⟩
            (try simp only [Act.put, List.setIfInBounds_toArray, List.set_cons_zero, List.set_cons_succ])
            apply line_fix
            case now => (intro vs w' R hG hn hR; have hR' := Lib.hid hR; clear hR hn; obtain ⟨⟨dq, osq⟩, rfl⟩ := regrown_of_below hG; clear hG; go_simp; exact hR'.out _ (Below.refl _ _))
            case hangs => exact fun _ _ _ => rfl
            case hR => exact fun _ _ => ⟨_, Below.refl _ _⟩
            (try simp only [Act.put, List.setIfInBounds_toArray, List.set_cons_zero, List.set_cons_succ])
            apply line_fix
            case now => (intro vs w' R hG hn hR; have hR' := Lib.hid hR; clear hR hn; obtain ⟨⟨dq, osq⟩, rfl⟩ := regrown_of_below hG; clear hG; go_simp; exact hR'.out _ (Below.refl _ _))
            case hangs => exact fun _ _ _ => rfl
            case hR => exact fun _ _ => ⟨_, Below.refl _ _⟩
            (try simp only [Act.put, List.setIfInBounds_toArray, List.set_cons_zero, List.set_cons_succ])
            apply line_fix
            case now => (intro vs w' R hG hn hR; have hR' := Lib.hid hR; clear hR hn; obtain ⟨⟨dq, osq⟩, rfl⟩ := regrown_of_below hG; clear hG; go_simp; exact hR'.out _ (Below.refl _ _))
            case hangs => exact fun _ _ _ => rfl
            case hR => exact fun _ _ => ⟨_, Below.refl _ _⟩
            (try simp only [Act.put, List.setIfInBounds_toArray, List.set_cons_zero, List.set_cons_succ])
            apply line_fix
            case now => (intro vs w' R hG hn hR; have hR' := Lib.hid hR; clear hR hn; obtain ⟨⟨dq, osq⟩, rfl⟩ := regrown_of_below hG; clear hG; go_simp; exact hR'.out _ (Below.refl _ _))
            case hangs => exact fun _ _ _ => rfl
            case hR => exact fun _ _ => ⟨_, Below.refl _ _⟩
            (try simp only [Act.put, List.setIfInBounds_toArray, List.set_cons_zero, List.set_cons_succ])
            apply line_fix
            case now => (intro vs w' R hG hn hR; have hR' := Lib.hid hR; clear hR hn; obtain ⟨⟨dq, osq⟩, rfl⟩ := regrown_of_below hG; clear hG; go_simp; exact hR'.out _ (Below.refl _ _))
            case hangs => exact fun _ _ _ => rfl
            case hR => exact fun _ _ => ⟨_, Below.refl _ _⟩
            (try simp only [Act.put, List.setIfInBounds_toArray, List.set_cons_zero, List.set_cons_succ])
            apply line_fix
            case now => (intro vs w' R hG hn hR; have hR' := Lib.hid hR; clear hR hn; obtain ⟨⟨dq, osq⟩, rfl⟩ := regrown_of_below hG; clear hG; go_simp; exact hR'.out _ (Below.refl _ _))
            case hangs => exact fun _ _ _ => rfl
            case hR => exact fun _ _ => ⟨_, Below.refl _ _⟩
            (try simp only [Act.put, List.setIfInBounds_toArray, List.set_cons_zero, List.set_cons_succ])
            apply line_fix
            case now => (intro vs w' R hG hn hR; have hR' := Lib.hid hR; clear hR hn; obtain ⟨⟨dq, osq⟩, rfl⟩ := regrown_of_below hG; clear hG; go_simp; exact hR'.out _ (Below.refl _ _))
            case hangs => exact fun _ _ _ => rfl
            case hR => exact fun _ _ => ⟨_, Below.refl _ _⟩
            (try simp only [Act.put, List.setIfInBounds_toArray, List.set_cons_zero, List.set_cons_succ])
            apply line_fix
            case now => (intro vs w' R hG hn hR; have hR' := Lib.hid hR; clear hR hn; obtain ⟨⟨dq, osq⟩, rfl⟩ := regrown_of_below hG; clear hG; go_simp; exact hR'.out _ (Below.refl _ _))
            case hangs => exact fun _ _ _ => rfl
            case hR => exact fun _ _ => ⟨_, Below.refl _ _⟩
            (try simp only [Act.put, List.setIfInBounds_toArray, List.set_cons_zero, List.set_cons_succ])
            apply line_fix
            case now => (intro vs w' R hG hn hR; have hR' := Lib.hid hR; clear hR hn; obtain ⟨⟨dq, osq⟩, rfl⟩ := regrown_of_below hG; clear hG; go_simp; exact hR'.out _ (Below.refl _ _))
            case hangs => exact fun _ _ _ => rfl
            case hR => exact fun _ _ => ⟨_, Below.refl _ _⟩
            (try simp only [Act.put, List.setIfInBounds_toArray, List.set_cons_zero, List.set_cons_succ])
            apply line_fix
            case now => (intro vs w' R hG hn hR; have hR' := Lib.hid hR; clear hR hn; obtain ⟨⟨dq, osq⟩, rfl⟩ := regrown_of_below hG; clear hG; go_simp; exact hR'.out _ (Below.refl _ _))
            case hangs => exact fun _ _ _ => rfl
            case hR => exact fun _ _ => ⟨_, Below.refl _ _⟩
            (try simp only [Act.put, List.setIfInBounds_toArray, List.set_cons_zero, List.set_cons_succ])
            apply line_fix
            case now => (intro vs w' R hG hn hR; have hR' := Lib.hid hR; have hn' := Lib.hid hn; clear hR hn; replace hG : Below _ _ _ := hG; skip; go_simp; refine (HCN.out hK1.out _ hG).mono ?_; rintro e w'' ⟨rfl, hb⟩; exact ⟨_, rfl, hR'.out _ hb⟩)
            case hangs => exact fun _ _ _ => rfl
            case hR => exact fun _ _ => ⟨_, Below.refl _ _⟩
            (try simp only [Act.put, List.setIfInBounds_toArray, List.set_cons_zero, List.set_cons_succ])
            apply line_fix
            case now => (intro vs w' R hG hn hR; have hR' := Lib.hid hR; clear hR hn; obtain ⟨⟨dq, osq⟩, rfl⟩ := regrown_of_below hG; clear hG; go_simp; exact hR'.out _ (Below.refl _ _))
            case hangs => exact fun _ _ _ => rfl
            case hR => exact fun _ _ => ⟨_, Below.refl _ _⟩
            (try simp only [Act.put, List.setIfInBounds_toArray, List.set_cons_zero, List.set_cons_succ])
            apply line_fix
            case now => (intro vs w' R hG hn hR; have hR' := Lib.hid hR; clear hR hn; obtain ⟨⟨dq, osq⟩, rfl⟩ := regrown_of_below hG; clear hG; go_simp; exact hR'.out _ (Below.refl _ _))
            case hangs => exact fun _ _ _ => rfl
            case hR => exact fun _ _ => ⟨_, Below.refl _ _⟩
            (try simp only [Act.put, List.setIfInBounds_toArray, List.set_cons_zero, List.set_cons_succ])
            apply line_fix
            case now => (intro vs w' R hG hn hR; have hR' := Lib.hid hR; clear hR hn; obtain ⟨⟨dq, osq⟩, rfl⟩ := regrown_of_below hG; clear hG; go_simp; exact hR'.out _ (Below.refl _ _))
            case hangs => exact fun _ _ _ => rfl
            case hR => exact fun _ _ => ⟨_, Below.refl _ _⟩
            (try simp only [Act.put, List.setIfInBounds_toArray, List.set_cons_zero, List.set_cons_succ])
            refine line_last (fun vs w8 hG _ => ?_)
            replace hG : Below _ _ _ := hG
            go_wp2_with fail
            go_ret
            exact ⟨rfl, EH.out.trans (hG.mono EH.out.size)⟩
end Go.Proofs.Ytdabndoojkdicaa
