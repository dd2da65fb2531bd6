/- BookApart: the walk. Condition: texts of at most 2^47 bytes (the reach of a row). -/
import Derived.Test.YtfbpjhhcpockfaaApart1
import Derived.Test.YtfbpjhhcpockfaaBookShown
set_option linter.unusedVariables false
set_option linter.unusedSimpArgs false
namespace Go.Proofs.Ytfbpjhhcpockfaa
open Go.RowKit Go.Shelf Go.Maps
theorem mkL_bounds (L : List Cho) (h : L.length ≤ 40) : (mkL L).length ≤ 40 ∧ ∀ e ∈ mkL L, e.ok := by
  have := mk_ok L
  exact ⟨by have := this.len; unfold mkL; omega, this.ok⟩
theorem sub_ok {P : Str → Bool} {L : List Ev} (h : ∀ e ∈ L, e.ok) : ∀ e ∈ sub P L, e.ok := fun e he => h e (List.mem_filter.1 he).1
theorem of_len_le (L : List Ev) : (ofL L).length ≤ L.length := Nat.le_trans (of_le_size L) (sizeL_le L)
theorem sets_len' {L : List Ev} {c : Ct} (h : c ∈ ofL L) (l : Nat) : (c.s l).length ≤ L.length := by
  obtain ⟨s, hs, rfl⟩ := List.mem_map.1 h
  have hv : ∀ l : Int, (srt (vE L s l)).length ≤ L.length := fun l => by
    have a := compact_len ((vE L s l).mergeSort leS)
    have b : ((vE L s l).mergeSort leS).length = (vE L s l).length := List.length_mergeSort _
    have c : (vE L s l).length = (grp (countL 4 L) s l).length := by unfold vE; rw [List.length_map]
    have d := grp_le (countL 4 L) s l
    have e := count_len 4 L
    unfold srt
    omega
  unfold Ct.s
  split
  · exact hv 0
  · exact hv 1
set_option maxRecDepth 100000 in
set_option maxHeartbeats 8000000 in
theorem bookApart_walk (A : Option Addr) (n c k : Nat) (L : List Cho) (w : World) (hR : RdCh w A n L) (hF : ∀ x ∈ L, x.fits) (hnc : n ≤ c) (hn : n ≤ 9223372036854775807) (hk : k < 256) :
    Calls Try.prog 7 #[.slice A n c, .int .u8 k] w fun e w' => e = .returned (.bool true) ∧ Below w.heap.size w w' := by
  obtain ⟨m, hm⟩ : ∃ m, m = min n 40 := ⟨_, rfl⟩
  obtain ⟨M, hM⟩ : ∃ M, M = L.take m := ⟨_, rfl⟩
  have hRM : RdCh w A m M := by rw [hM]; exact hR.take_ m (by omega)
  have hFM : ∀ x ∈ M, x.fits := fun x hx => hF x (by rw [hM] at hx; exact List.mem_of_mem_take hx)
  have hMl : M.length ≤ 40 := by rw [hRM.1]; omega
  have HS := Lib.hid (fun W => short_any A n c W hnc hn)
  rw [← hm] at HS
  have HMK := Lib.hid (fun W (h : Below w.heap.size w W) => make_any A m c M W (hRM.below h) (by omega) hFM)
  obtain ⟨hE40, hEok⟩ := mkL_bounds M hMl
  obtain ⟨E, hE⟩ : ∃ E, E = mkL M := ⟨_, rfl⟩
  rw [← hE] at HMK hE40 hEok
  have HOK := Lib.hid hEok
  clear hR hF hRM hFM hM hMl hm hE hEok
  go_enter Try.func7, Try.ntmps7
  go_wp2_with fail
  refine (shown09_any _).mono ?_
  rintro e w1 ⟨rfl, hb1⟩
  have HB1 := Lib.hid hb1
  clear hb1
  go_wp2_with fail
  refine (HS.out _).mono ?_
  rintro e w1' ⟨rfl, rfl⟩
  go_wp2_with fail
  refine (HMK.out _ HB1.out).mono ?_
  rintro e w2 ⟨v2, rfl, hO2, hb2⟩
  obtain ⟨A2, c2, rfl, hc2, hRd2⟩ := Rd.own hO2
  have HB2 := Lib.hid (below_next HB1.out hb2)
  have HR2 := Lib.hid (show RdEv w2 A2 E.length E from ⟨rfl, hRd2⟩)
  clear hb2 hO2 hRd2 HMK
  have hwf8 : IntKind.u8.wrap (k : Int) = (k : Int) := by simp [IntKind.wrap, IntKind.bits, IntKind.signed]; omega
  obtain ⟨q, hq⟩ : ∃ q, q = k % 3 := ⟨_, rfl⟩
  have hmod : (k : Int).tmod 3 = (q : Int) := by rw [Int.tmod_eq_emod_of_nonneg (by omega)]; omega
  rcases (show q = 0 ∨ q = 1 ∨ q = 2 by omega) with rfl | rfl | rfl
  · have hz := hk
    clear hq
    go_upto_region 5 with (fail)
    refine wp_world (fun W => Below w2.heap.size w2 W) ((Below.refl _ _).alloc (Nat.le_refl _) _) ?_
    rintro w3 hb3
    generalize (⟨#[97, 110, 110]⟩ : ByteArray) = s
    have HB3 := Lib.hid (below_next HB2.out hb3)
    have HR3 := Lib.hid (HR2.out.below hb3)
    clear hb3
    have H0 := Lib.hid (show ∀ W, W = (w3.alloc (.cells #[] 35)).alloc (.cells #[] 35) → ApAt w3 W (.slice (some ⟨w3.heap.size, 0, none⟩) 0 0) (.slice (some ⟨w3.heap.size + 1, 0, none⟩) 0 0) [] [] by
      rintro W rfl
      have h1 : Below w3.heap.size w3 (w3.alloc (.cells #[] 35)) := (Below.refl _ _).alloc (Nat.le_refl _) _
      have h2 : Below (w3.alloc (.cells #[] 35)).heap.size (w3.alloc (.cells #[] 35)) ((w3.alloc (.cells #[] 35)).alloc (.cells #[] 35)) := (Below.refl _ _).alloc (Nat.le_refl _) _
      refine ⟨own_next (own_empty w3 35 12 (Nat.le_refl _)) h2, ?_, ?_, below_next h1 h2⟩
      · have := own_empty (base := w3.heap.size) (w3.alloc (.cells #[] 35)) 35 12 (by simp)
        simpa [evCells] using this
      · intro g h1 h2
        simp [Value.ownBlock] at h1 h2
        omega)
    obtain ⟨o, ho⟩ : ∃ o, o = (ofL (oth s.data.toList E)).length := ⟨_, rfl⟩
    obtain ⟨m1, hm1⟩ : ∃ m1, m1 = (ofL (ownE s.data.toList E)).length := ⟨_, rfl⟩
    have hsp : (ofL E).length = o + m1 := by rw [ho, hm1]; exact of_split s.data.toList E
    obtain ⟨so, hso⟩ : ∃ so, so = sizeL (oth s.data.toList E) := ⟨_, rfl⟩
    obtain ⟨sn, hsn⟩ : ∃ sn, sn = sizeL (ownE s.data.toList E) := ⟨_, rfl⟩
    have hss : sizeL E = sn + so := by rw [hso, hsn]; exact size_split s.data.toList E
    have hbut := of_oth s.data.toList E
    have hm1le : m1 ≤ 1 := by rw [hm1]; exact own_le s.data.toList E
    have hol := oth_len s.data.toList E
    have hnl := own_len s.data.toList E
    have hole : o ≤ 40 := by have := of_len_le E; omega
    have hsle : sn + so ≤ 40 := by have := sizeL_le E; omega
    have hkey : ∀ c ∈ ofL (ownE s.data.toList E), ba c.key = s := fun c hc => by rw [own_key hc, ba_of]
    have hsl : ∀ c ∈ ofL (oth s.data.toList E), ∀ l, (c.s l).length ≤ 1000000000 := fun c hc l => by have := sets_len' hc l; omega
    have HOO := Lib.hid (show ∀ e ∈ oth s.data.toList E, e.ok from sub_ok HOK.out)
    have HON := Lib.hid (show ∀ e ∈ ownE s.data.toList E, e.ok from sub_ok HOK.out)
    obtain ⟨O, hO⟩ : ∃ O, O = oth s.data.toList E := ⟨_, rfl⟩
    obtain ⟨N, hN⟩ : ∃ N, N = ownE s.data.toList E := ⟨_, rfl⟩
    rw [← hO] at ho hso hbut hol hsl HOO
    rw [← hN] at hm1 hsn hnl hkey HON
    have HH := Lib.hid (And.intro ho (And.intro hm1 (And.intro hbut (And.intro hkey (And.intro hsl (And.intro hO hN))))))
    have HOE := Lib.hid (fun W (h : RdEv W A2 E.length E) => of_any A2 E.length c2 E W h HOK.out (by omega))
    rw [hsp] at HOE
    have HSE := Lib.hid (fun W (h : RdEv W A2 E.length E) => size_any A2 E.length c2 E W h (by omega))
    rw [hss] at HSE
    have HOF := Lib.hid (fun A c W (h : RdEv W A O.length O) => of_any A O.length c O W h HOO.out (by omega))
    rw [← ho] at HOF
    have HSO := Lib.hid (fun A c W (h : RdEv W A O.length O) => size_any A O.length c O W h (by omega))
    rw [← hso] at HSO
    have HNF := Lib.hid (fun A c W (h : RdEv W A N.length N) => of_any A N.length c N W h HON.out (by omega))
    rw [← hm1] at HNF
    have HSN := Lib.hid (fun A c W (h : RdEv W A N.length N) => size_any A N.length c N W h (by omega))
    rw [← hsn] at HSN
    have HWO := Lib.hid (fun A c W (h : RdCts W A (o + m1) (ofL E)) => without_any A (o + m1) c (ofL E) s W h (by omega))
    rw [← hbut, ← ho] at HWO
    have HSM := Lib.hid (fun A B cA cB W (h : RdCts W A o (ofL O)) (h' : RdCts W B o (ofL O)) => same_yes A B o cA cB (ofL O) W h h' (by omega) hsl)
    clear ho hm1 hsp hso hsn hss hbut hkey hsl hO hN
    go_wp2_with fail
    refine ap_loop1 _ A2 E.length c2 E s w3 _ _ _ _ _ _ _ _ _ _ _ _ _ _ _ _ _ _ _ _ _ _ _ _ _ _ _ _ _ _ _ _ _ _ _ _ _ _ _ _ _ _ _ _ _ _ _ _ _ _ _ _ _ _ _ _ _ _ _ _ _ _ _ _ _ _ _ _ _ _ _ _ _ _ _ _ _ _ _ _ _ _ _ _ _ _ _ _ _ _ _ _ _ _ _ _ _ _ _ _ HR3.out (by omega) (H0.out _ rfl) ?_
    intro x11 x25 x26 x27 x28 x29 x30 x31 x32 x33 x34 x35 x36 x37 x38 x39 x40 x41 x42 x43 x44 x45 x46 x47 x48 x49 x50 x51 v9 v10 w5 hA5
    rw [← HH.out.2.2.2.2.2.1, ← HH.out.2.2.2.2.2.2] at hA5
    obtain ⟨A9, c9, rfl, hc9, hRd9⟩ := Rd.own hA5.own1
    obtain ⟨A10, c10, rfl, hc10, hRd10⟩ := Rd.own hA5.own2
    have HB5 := Lib.hid (below_next HB3.out hA5.below)
    have HR5 := Lib.hid (And.intro (HR3.out.below hA5.below) (And.intro (show RdEv w5 A9 O.length O from ⟨rfl, hRd9⟩) (show RdEv w5 A10 N.length N from ⟨rfl, hRd10⟩)))
    clear hA5 hRd9 hRd10 H0
    go_wp2_with fail
    refine (HOE.out _ HR5.out.1).mono ?_
    rintro e w6 ⟨A12, c12, rfl, hc12, hC12, hb6⟩
    have HK6 := Lib.hid (And.intro hb6 hC12)
    clear hb6 hC12
    go_wp2_with fail
    refine (HNF.out A10 c10 _ (HR5.out.2.2.below HK6.out.1)).mono ?_
    rintro e w7 ⟨A13, c13, rfl, hc13, hC13, hb7⟩
    have HK7 := Lib.hid (And.intro (below_next HK6.out.1 hb7) (And.intro (HK6.out.2.below hb7) hC13))
    clear hb7 hC13
    rcases (show m1 = 0 ∨ m1 = 1 by omega) with rfl | rfl
    · go_wp2_with fail
      refine (HWO.out A12 c12 _ HK7.out.2.1).mono ?_
      rintro e w8 ⟨A76, c76, rfl, hC76, hb8⟩
      have HK8 := Lib.hid (And.intro (below_next HK7.out.1 hb8) hC76)
      clear hb8 hC76
      go_wp2_with fail
      refine (HOF.out A9 c9 _ (HR5.out.2.1.below HK8.out.1)).mono ?_
      rintro e w9 ⟨A78, c78, rfl, hc78, hC78, hb9⟩
      have HK9 := Lib.hid (And.intro (below_next HK8.out.1 hb9) (And.intro (HK8.out.2.below hb9) hC78))
      clear hb9 hC78
      go_wp2_with fail
      refine (HSM.out A76 A78 c76 c78 _ HK9.out.2.1 HK9.out.2.2).mono ?_
      rintro e w10 ⟨rfl, hb10⟩
      have HK10 := Lib.hid (below_next HK9.out.1 hb10)
      clear hb10
      go_wp2_with fail
      refine (HOF.out A9 c9 _ (HR5.out.2.1.below HK10.out)).mono ?_
      rintro e w11 ⟨A85, c85, rfl, hc85, hC85, hb11⟩
      have HK11 := Lib.hid (below_next HK10.out hb11)
      clear hb11 hC85
      go_wp2_with fail
      refine (HSE.out _ (HR5.out.1.below HK11.out)).mono ?_
      rintro e w12 ⟨rfl, hb12⟩
      have HK12 := Lib.hid (below_next HK11.out hb12)
      clear hb12
      go_wp2_with fail
      refine (HSN.out A10 c10 _ (HR5.out.2.2.below HK12.out)).mono ?_
      rintro e w13 ⟨rfl, hb13⟩
      have HK13 := Lib.hid (below_next HK12.out hb13)
      clear hb13
      go_wp2_with fail
      refine (HSO.out A9 c9 _ (HR5.out.2.1.below HK13.out)).mono ?_
      rintro e w14 ⟨rfl, hb14⟩
      have HK14 := Lib.hid (below_next HK13.out hb14)
      clear hb14
      go_wp2_with fail
      go_ret
      exact ⟨ret_bool (by simp), below_next HB5.out HK14.out⟩
    · obtain ⟨ct, hct⟩ : ∃ ct, (ofL N)[0]? = some ct := ⟨(ofL N)[0]'(by rw [← HH.out.2.1]; decide), List.getElem?_eq_getElem _⟩
      obtain ⟨b, p, B0, d0, B1, d1, eA, hlt, hcc, _, _, _, _⟩ := HK7.out.2.2.at_ 0 ct hct
      subst eA
      have z0 : w7.cell? ⟨b, p, none⟩ = some (.string s) := by
        have := hcc 0 _ rfl
        rw [HH.out.2.2.2.1 ct (List.mem_of_getElem? hct)] at this
        simpa using this
      clear hcc hct
      go_wp2_with fail
      refine (HWO.out A12 c12 _ HK7.out.2.1).mono ?_
      rintro e w8 ⟨A76, c76, rfl, hC76, hb8⟩
      have HK8 := Lib.hid (And.intro (below_next HK7.out.1 hb8) hC76)
      clear hb8 hC76
      go_wp2_with fail
      refine (HOF.out A9 c9 _ (HR5.out.2.1.below HK8.out.1)).mono ?_
      rintro e w9 ⟨A78, c78, rfl, hc78, hC78, hb9⟩
      have HK9 := Lib.hid (And.intro (below_next HK8.out.1 hb9) (And.intro (HK8.out.2.below hb9) hC78))
      clear hb9 hC78
      go_wp2_with fail
      refine (HSM.out A76 A78 c76 c78 _ HK9.out.2.1 HK9.out.2.2).mono ?_
      rintro e w10 ⟨rfl, hb10⟩
      have HK10 := Lib.hid (below_next HK9.out.1 hb10)
      clear hb10
      go_wp2_with fail
      refine (HOF.out A9 c9 _ (HR5.out.2.1.below HK10.out)).mono ?_
      rintro e w11 ⟨A85, c85, rfl, hc85, hC85, hb11⟩
      have HK11 := Lib.hid (below_next HK10.out hb11)
      clear hb11 hC85
      go_wp2_with fail
      refine (HSE.out _ (HR5.out.1.below HK11.out)).mono ?_
      rintro e w12 ⟨rfl, hb12⟩
      have HK12 := Lib.hid (below_next HK11.out hb12)
      clear hb12
      go_wp2_with fail
      refine (HSN.out A10 c10 _ (HR5.out.2.2.below HK12.out)).mono ?_
      rintro e w13 ⟨rfl, hb13⟩
      have HK13 := Lib.hid (below_next HK12.out hb13)
      clear hb13
      go_wp2_with fail
      refine (HSO.out A9 c9 _ (HR5.out.2.1.below HK13.out)).mono ?_
      rintro e w14 ⟨rfl, hb14⟩
      have HK14 := Lib.hid (below_next HK13.out hb14)
      clear hb14
      go_wp2_with fail
      go_ret
      exact ⟨ret_bool (by simp), below_next HB5.out HK14.out⟩
  · have hz := hk
    clear hq
    go_upto_region 5 with (fail)
    refine wp_world (fun W => Below w2.heap.size w2 W) ((Below.refl _ _).alloc (Nat.le_refl _) _) ?_
    rintro w3 hb3
    generalize (⟨#[98, 111, 98]⟩ : ByteArray) = s
    have HB3 := Lib.hid (below_next HB2.out hb3)
    have HR3 := Lib.hid (HR2.out.below hb3)
    clear hb3
    have H0 := Lib.hid (show ∀ W, W = (w3.alloc (.cells #[] 35)).alloc (.cells #[] 35) → ApAt w3 W (.slice (some ⟨w3.heap.size, 0, none⟩) 0 0) (.slice (some ⟨w3.heap.size + 1, 0, none⟩) 0 0) [] [] by
      rintro W rfl
      have h1 : Below w3.heap.size w3 (w3.alloc (.cells #[] 35)) := (Below.refl _ _).alloc (Nat.le_refl _) _
      have h2 : Below (w3.alloc (.cells #[] 35)).heap.size (w3.alloc (.cells #[] 35)) ((w3.alloc (.cells #[] 35)).alloc (.cells #[] 35)) := (Below.refl _ _).alloc (Nat.le_refl _) _
      refine ⟨own_next (own_empty w3 35 12 (Nat.le_refl _)) h2, ?_, ?_, below_next h1 h2⟩
      · have := own_empty (base := w3.heap.size) (w3.alloc (.cells #[] 35)) 35 12 (by simp)
        simpa [evCells] using this
      · intro g h1 h2
        simp [Value.ownBlock] at h1 h2
        omega)
    obtain ⟨o, ho⟩ : ∃ o, o = (ofL (oth s.data.toList E)).length := ⟨_, rfl⟩
    obtain ⟨m1, hm1⟩ : ∃ m1, m1 = (ofL (ownE s.data.toList E)).length := ⟨_, rfl⟩
    have hsp : (ofL E).length = o + m1 := by rw [ho, hm1]; exact of_split s.data.toList E
    obtain ⟨so, hso⟩ : ∃ so, so = sizeL (oth s.data.toList E) := ⟨_, rfl⟩
    obtain ⟨sn, hsn⟩ : ∃ sn, sn = sizeL (ownE s.data.toList E) := ⟨_, rfl⟩
    have hss : sizeL E = sn + so := by rw [hso, hsn]; exact size_split s.data.toList E
    have hbut := of_oth s.data.toList E
    have hm1le : m1 ≤ 1 := by rw [hm1]; exact own_le s.data.toList E
    have hol := oth_len s.data.toList E
    have hnl := own_len s.data.toList E
    have hole : o ≤ 40 := by have := of_len_le E; omega
    have hsle : sn + so ≤ 40 := by have := sizeL_le E; omega
    have hkey : ∀ c ∈ ofL (ownE s.data.toList E), ba c.key = s := fun c hc => by rw [own_key hc, ba_of]
    have hsl : ∀ c ∈ ofL (oth s.data.toList E), ∀ l, (c.s l).length ≤ 1000000000 := fun c hc l => by have := sets_len' hc l; omega
    have HOO := Lib.hid (show ∀ e ∈ oth s.data.toList E, e.ok from sub_ok HOK.out)
    have HON := Lib.hid (show ∀ e ∈ ownE s.data.toList E, e.ok from sub_ok HOK.out)
    obtain ⟨O, hO⟩ : ∃ O, O = oth s.data.toList E := ⟨_, rfl⟩
    obtain ⟨N, hN⟩ : ∃ N, N = ownE s.data.toList E := ⟨_, rfl⟩
    rw [← hO] at ho hso hbut hol hsl HOO
    rw [← hN] at hm1 hsn hnl hkey HON
    have HH := Lib.hid (And.intro ho (And.intro hm1 (And.intro hbut (And.intro hkey (And.intro hsl (And.intro hO hN))))))
    have HOE := Lib.hid (fun W (h : RdEv W A2 E.length E) => of_any A2 E.length c2 E W h HOK.out (by omega))
    rw [hsp] at HOE
    have HSE := Lib.hid (fun W (h : RdEv W A2 E.length E) => size_any A2 E.length c2 E W h (by omega))
    rw [hss] at HSE
    have HOF := Lib.hid (fun A c W (h : RdEv W A O.length O) => of_any A O.length c O W h HOO.out (by omega))
    rw [← ho] at HOF
    have HSO := Lib.hid (fun A c W (h : RdEv W A O.length O) => size_any A O.length c O W h (by omega))
    rw [← hso] at HSO
    have HNF := Lib.hid (fun A c W (h : RdEv W A N.length N) => of_any A N.length c N W h HON.out (by omega))
    rw [← hm1] at HNF
    have HSN := Lib.hid (fun A c W (h : RdEv W A N.length N) => size_any A N.length c N W h (by omega))
    rw [← hsn] at HSN
    have HWO := Lib.hid (fun A c W (h : RdCts W A (o + m1) (ofL E)) => without_any A (o + m1) c (ofL E) s W h (by omega))
    rw [← hbut, ← ho] at HWO
    have HSM := Lib.hid (fun A B cA cB W (h : RdCts W A o (ofL O)) (h' : RdCts W B o (ofL O)) => same_yes A B o cA cB (ofL O) W h h' (by omega) hsl)
    clear ho hm1 hsp hso hsn hss hbut hkey hsl hO hN
    go_wp2_with fail
    refine ap_loop1 _ A2 E.length c2 E s w3 _ _ _ _ _ _ _ _ _ _ _ _ _ _ _ _ _ _ _ _ _ _ _ _ _ _ _ _ _ _ _ _ _ _ _ _ _ _ _ _ _ _ _ _ _ _ _ _ _ _ _ _ _ _ _ _ _ _ _ _ _ _ _ _ _ _ _ _ _ _ _ _ _ _ _ _ _ _ _ _ _ _ _ _ _ _ _ _ _ _ _ _ _ _ _ _ _ _ _ _ HR3.out (by omega) (H0.out _ rfl) ?_
    intro x11 x25 x26 x27 x28 x29 x30 x31 x32 x33 x34 x35 x36 x37 x38 x39 x40 x41 x42 x43 x44 x45 x46 x47 x48 x49 x50 x51 v9 v10 w5 hA5
    rw [← HH.out.2.2.2.2.2.1, ← HH.out.2.2.2.2.2.2] at hA5
    obtain ⟨A9, c9, rfl, hc9, hRd9⟩ := Rd.own hA5.own1
    obtain ⟨A10, c10, rfl, hc10, hRd10⟩ := Rd.own hA5.own2
    have HB5 := Lib.hid (below_next HB3.out hA5.below)
    have HR5 := Lib.hid (And.intro (HR3.out.below hA5.below) (And.intro (show RdEv w5 A9 O.length O from ⟨rfl, hRd9⟩) (show RdEv w5 A10 N.length N from ⟨rfl, hRd10⟩)))
    clear hA5 hRd9 hRd10 H0
    go_wp2_with fail
    refine (HOE.out _ HR5.out.1).mono ?_
    rintro e w6 ⟨A12, c12, rfl, hc12, hC12, hb6⟩
    have HK6 := Lib.hid (And.intro hb6 hC12)
    clear hb6 hC12
    go_wp2_with fail
    refine (HNF.out A10 c10 _ (HR5.out.2.2.below HK6.out.1)).mono ?_
    rintro e w7 ⟨A13, c13, rfl, hc13, hC13, hb7⟩
    have HK7 := Lib.hid (And.intro (below_next HK6.out.1 hb7) (And.intro (HK6.out.2.below hb7) hC13))
    clear hb7 hC13
    rcases (show m1 = 0 ∨ m1 = 1 by omega) with rfl | rfl
    · go_wp2_with fail
      refine (HWO.out A12 c12 _ HK7.out.2.1).mono ?_
      rintro e w8 ⟨A76, c76, rfl, hC76, hb8⟩
      have HK8 := Lib.hid (And.intro (below_next HK7.out.1 hb8) hC76)
      clear hb8 hC76
      go_wp2_with fail
      refine (HOF.out A9 c9 _ (HR5.out.2.1.below HK8.out.1)).mono ?_
      rintro e w9 ⟨A78, c78, rfl, hc78, hC78, hb9⟩
      have HK9 := Lib.hid (And.intro (below_next HK8.out.1 hb9) (And.intro (HK8.out.2.below hb9) hC78))
      clear hb9 hC78
      go_wp2_with fail
      refine (HSM.out A76 A78 c76 c78 _ HK9.out.2.1 HK9.out.2.2).mono ?_
      rintro e w10 ⟨rfl, hb10⟩
      have HK10 := Lib.hid (below_next HK9.out.1 hb10)
      clear hb10
      go_wp2_with fail
      refine (HOF.out A9 c9 _ (HR5.out.2.1.below HK10.out)).mono ?_
      rintro e w11 ⟨A85, c85, rfl, hc85, hC85, hb11⟩
      have HK11 := Lib.hid (below_next HK10.out hb11)
      clear hb11 hC85
      go_wp2_with fail
      refine (HSE.out _ (HR5.out.1.below HK11.out)).mono ?_
      rintro e w12 ⟨rfl, hb12⟩
      have HK12 := Lib.hid (below_next HK11.out hb12)
      clear hb12
      go_wp2_with fail
      refine (HSN.out A10 c10 _ (HR5.out.2.2.below HK12.out)).mono ?_
      rintro e w13 ⟨rfl, hb13⟩
      have HK13 := Lib.hid (below_next HK12.out hb13)
      clear hb13
      go_wp2_with fail
      refine (HSO.out A9 c9 _ (HR5.out.2.1.below HK13.out)).mono ?_
      rintro e w14 ⟨rfl, hb14⟩
      have HK14 := Lib.hid (below_next HK13.out hb14)
      clear hb14
      go_wp2_with fail
      go_ret
      exact ⟨ret_bool (by simp), below_next HB5.out HK14.out⟩
    · obtain ⟨ct, hct⟩ : ∃ ct, (ofL N)[0]? = some ct := ⟨(ofL N)[0]'(by rw [← HH.out.2.1]; decide), List.getElem?_eq_getElem _⟩
      obtain ⟨b, p, B0, d0, B1, d1, eA, hlt, hcc, _, _, _, _⟩ := HK7.out.2.2.at_ 0 ct hct
      subst eA
      have z0 : w7.cell? ⟨b, p, none⟩ = some (.string s) := by
        have := hcc 0 _ rfl
        rw [HH.out.2.2.2.1 ct (List.mem_of_getElem? hct)] at this
        simpa using this
      clear hcc hct
      go_wp2_with fail
      refine (HWO.out A12 c12 _ HK7.out.2.1).mono ?_
      rintro e w8 ⟨A76, c76, rfl, hC76, hb8⟩
      have HK8 := Lib.hid (And.intro (below_next HK7.out.1 hb8) hC76)
      clear hb8 hC76
      go_wp2_with fail
      refine (HOF.out A9 c9 _ (HR5.out.2.1.below HK8.out.1)).mono ?_
      rintro e w9 ⟨A78, c78, rfl, hc78, hC78, hb9⟩
      have HK9 := Lib.hid (And.intro (below_next HK8.out.1 hb9) (And.intro (HK8.out.2.below hb9) hC78))
      clear hb9 hC78
      go_wp2_with fail
      refine (HSM.out A76 A78 c76 c78 _ HK9.out.2.1 HK9.out.2.2).mono ?_
      rintro e w10 ⟨rfl, hb10⟩
      have HK10 := Lib.hid (below_next HK9.out.1 hb10)
      clear hb10
      go_wp2_with fail
      refine (HOF.out A9 c9 _ (HR5.out.2.1.below HK10.out)).mono ?_
      rintro e w11 ⟨A85, c85, rfl, hc85, hC85, hb11⟩
      have HK11 := Lib.hid (below_next HK10.out hb11)
      clear hb11 hC85
      go_wp2_with fail
      refine (HSE.out _ (HR5.out.1.below HK11.out)).mono ?_
      rintro e w12 ⟨rfl, hb12⟩
      have HK12 := Lib.hid (below_next HK11.out hb12)
      clear hb12
      go_wp2_with fail
      refine (HSN.out A10 c10 _ (HR5.out.2.2.below HK12.out)).mono ?_
      rintro e w13 ⟨rfl, hb13⟩
      have HK13 := Lib.hid (below_next HK12.out hb13)
      clear hb13
      go_wp2_with fail
      refine (HSO.out A9 c9 _ (HR5.out.2.1.below HK13.out)).mono ?_
      rintro e w14 ⟨rfl, hb14⟩
      have HK14 := Lib.hid (below_next HK13.out hb14)
      clear hb14
      go_wp2_with fail
      go_ret
      exact ⟨ret_bool (by simp), below_next HB5.out HK14.out⟩
  · have hz := hk
    clear hq
    go_upto_region 5 with (fail)
    refine wp_world (fun W => Below w2.heap.size w2 W) ((Below.refl _ _).alloc (Nat.le_refl _) _) ?_
    rintro w3 hb3
    generalize (⟨#[99, 121]⟩ : ByteArray) = s
    have HB3 := Lib.hid (below_next HB2.out hb3)
    have HR3 := Lib.hid (HR2.out.below hb3)
    clear hb3
    have H0 := Lib.hid (show ∀ W, W = (w3.alloc (.cells #[] 35)).alloc (.cells #[] 35) → ApAt w3 W (.slice (some ⟨w3.heap.size, 0, none⟩) 0 0) (.slice (some ⟨w3.heap.size + 1, 0, none⟩) 0 0) [] [] by
      rintro W rfl
      have h1 : Below w3.heap.size w3 (w3.alloc (.cells #[] 35)) := (Below.refl _ _).alloc (Nat.le_refl _) _
      have h2 : Below (w3.alloc (.cells #[] 35)).heap.size (w3.alloc (.cells #[] 35)) ((w3.alloc (.cells #[] 35)).alloc (.cells #[] 35)) := (Below.refl _ _).alloc (Nat.le_refl _) _
      refine ⟨own_next (own_empty w3 35 12 (Nat.le_refl _)) h2, ?_, ?_, below_next h1 h2⟩
      · have := own_empty (base := w3.heap.size) (w3.alloc (.cells #[] 35)) 35 12 (by simp)
        simpa [evCells] using this
      · intro g h1 h2
        simp [Value.ownBlock] at h1 h2
        omega)
    obtain ⟨o, ho⟩ : ∃ o, o = (ofL (oth s.data.toList E)).length := ⟨_, rfl⟩
    obtain ⟨m1, hm1⟩ : ∃ m1, m1 = (ofL (ownE s.data.toList E)).length := ⟨_, rfl⟩
    have hsp : (ofL E).length = o + m1 := by rw [ho, hm1]; exact of_split s.data.toList E
    obtain ⟨so, hso⟩ : ∃ so, so = sizeL (oth s.data.toList E) := ⟨_, rfl⟩
    obtain ⟨sn, hsn⟩ : ∃ sn, sn = sizeL (ownE s.data.toList E) := ⟨_, rfl⟩
    have hss : sizeL E = sn + so := by rw [hso, hsn]; exact size_split s.data.toList E
    have hbut := of_oth s.data.toList E
    have hm1le : m1 ≤ 1 := by rw [hm1]; exact own_le s.data.toList E
    have hol := oth_len s.data.toList E
    have hnl := own_len s.data.toList E
    have hole : o ≤ 40 := by have := of_len_le E; omega
    have hsle : sn + so ≤ 40 := by have := sizeL_le E; omega
    have hkey : ∀ c ∈ ofL (ownE s.data.toList E), ba c.key = s := fun c hc => by rw [own_key hc, ba_of]
    have hsl : ∀ c ∈ ofL (oth s.data.toList E), ∀ l, (c.s l).length ≤ 1000000000 := fun c hc l => by have := sets_len' hc l; omega
    have HOO := Lib.hid (show ∀ e ∈ oth s.data.toList E, e.ok from sub_ok HOK.out)
    have HON := Lib.hid (show ∀ e ∈ ownE s.data.toList E, e.ok from sub_ok HOK.out)
    obtain ⟨O, hO⟩ : ∃ O, O = oth s.data.toList E := ⟨_, rfl⟩
    obtain ⟨N, hN⟩ : ∃ N, N = ownE s.data.toList E := ⟨_, rfl⟩
    rw [← hO] at ho hso hbut hol hsl HOO
    rw [← hN] at hm1 hsn hnl hkey HON
    have HH := Lib.hid (And.intro ho (And.intro hm1 (And.intro hbut (And.intro hkey (And.intro hsl (And.intro hO hN))))))
    have HOE := Lib.hid (fun W (h : RdEv W A2 E.length E) => of_any A2 E.length c2 E W h HOK.out (by omega))
    rw [hsp] at HOE
    have HSE := Lib.hid (fun W (h : RdEv W A2 E.length E) => size_any A2 E.length c2 E W h (by omega))
    rw [hss] at HSE
    have HOF := Lib.hid (fun A c W (h : RdEv W A O.length O) => of_any A O.length c O W h HOO.out (by omega))
    rw [← ho] at HOF
    have HSO := Lib.hid (fun A c W (h : RdEv W A O.length O) => size_any A O.length c O W h (by omega))
    rw [← hso] at HSO
    have HNF := Lib.hid (fun A c W (h : RdEv W A N.length N) => of_any A N.length c N W h HON.out (by omega))
    rw [← hm1] at HNF
    have HSN := Lib.hid (fun A c W (h : RdEv W A N.length N) => size_any A N.length c N W h (by omega))
    rw [← hsn] at HSN
    have HWO := Lib.hid (fun A c W (h : RdCts W A (o + m1) (ofL E)) => without_any A (o + m1) c (ofL E) s W h (by omega))
    rw [← hbut, ← ho] at HWO
    have HSM := Lib.hid (fun A B cA cB W (h : RdCts W A o (ofL O)) (h' : RdCts W B o (ofL O)) => same_yes A B o cA cB (ofL O) W h h' (by omega) hsl)
    clear ho hm1 hsp hso hsn hss hbut hkey hsl hO hN
    go_wp2_with fail
    refine ap_loop1 _ A2 E.length c2 E s w3 _ _ _ _ _ _ _ _ _ _ _ _ _ _ _ _ _ _ _ _ _ _ _ _ _ _ _ _ _ _ _ _ _ _ _ _ _ _ _ _ _ _ _ _ _ _ _ _ _ _ _ _ _ _ _ _ _ _ _ _ _ _ _ _ _ _ _ _ _ _ _ _ _ _ _ _ _ _ _ _ _ _ _ _ _ _ _ _ _ _ _ _ _ _ _ _ _ _ _ _ HR3.out (by omega) (H0.out _ rfl) ?_
    intro x11 x25 x26 x27 x28 x29 x30 x31 x32 x33 x34 x35 x36 x37 x38 x39 x40 x41 x42 x43 x44 x45 x46 x47 x48 x49 x50 x51 v9 v10 w5 hA5
    rw [← HH.out.2.2.2.2.2.1, ← HH.out.2.2.2.2.2.2] at hA5
    obtain ⟨A9, c9, rfl, hc9, hRd9⟩ := Rd.own hA5.own1
    obtain ⟨A10, c10, rfl, hc10, hRd10⟩ := Rd.own hA5.own2
    have HB5 := Lib.hid (below_next HB3.out hA5.below)
    have HR5 := Lib.hid (And.intro (HR3.out.below hA5.below) (And.intro (show RdEv w5 A9 O.length O from ⟨rfl, hRd9⟩) (show RdEv w5 A10 N.length N from ⟨rfl, hRd10⟩)))
    clear hA5 hRd9 hRd10 H0
    go_wp2_with fail
    refine (HOE.out _ HR5.out.1).mono ?_
    rintro e w6 ⟨A12, c12, rfl, hc12, hC12, hb6⟩
    have HK6 := Lib.hid (And.intro hb6 hC12)
    clear hb6 hC12
    go_wp2_with fail
    refine (HNF.out A10 c10 _ (HR5.out.2.2.below HK6.out.1)).mono ?_
    rintro e w7 ⟨A13, c13, rfl, hc13, hC13, hb7⟩
    have HK7 := Lib.hid (And.intro (below_next HK6.out.1 hb7) (And.intro (HK6.out.2.below hb7) hC13))
    clear hb7 hC13
    rcases (show m1 = 0 ∨ m1 = 1 by omega) with rfl | rfl
    · go_wp2_with fail
      refine (HWO.out A12 c12 _ HK7.out.2.1).mono ?_
      rintro e w8 ⟨A76, c76, rfl, hC76, hb8⟩
      have HK8 := Lib.hid (And.intro (below_next HK7.out.1 hb8) hC76)
      clear hb8 hC76
      go_wp2_with fail
      refine (HOF.out A9 c9 _ (HR5.out.2.1.below HK8.out.1)).mono ?_
      rintro e w9 ⟨A78, c78, rfl, hc78, hC78, hb9⟩
      have HK9 := Lib.hid (And.intro (below_next HK8.out.1 hb9) (And.intro (HK8.out.2.below hb9) hC78))
      clear hb9 hC78
      go_wp2_with fail
      refine (HSM.out A76 A78 c76 c78 _ HK9.out.2.1 HK9.out.2.2).mono ?_
      rintro e w10 ⟨rfl, hb10⟩
      have HK10 := Lib.hid (below_next HK9.out.1 hb10)
      clear hb10
      go_wp2_with fail
      refine (HOF.out A9 c9 _ (HR5.out.2.1.below HK10.out)).mono ?_
      rintro e w11 ⟨A85, c85, rfl, hc85, hC85, hb11⟩
      have HK11 := Lib.hid (below_next HK10.out hb11)
      clear hb11 hC85
      go_wp2_with fail
      refine (HSE.out _ (HR5.out.1.below HK11.out)).mono ?_
      rintro e w12 ⟨rfl, hb12⟩
      have HK12 := Lib.hid (below_next HK11.out hb12)
      clear hb12
      go_wp2_with fail
      refine (HSN.out A10 c10 _ (HR5.out.2.2.below HK12.out)).mono ?_
      rintro e w13 ⟨rfl, hb13⟩
      have HK13 := Lib.hid (below_next HK12.out hb13)
      clear hb13
      go_wp2_with fail
      refine (HSO.out A9 c9 _ (HR5.out.2.1.below HK13.out)).mono ?_
      rintro e w14 ⟨rfl, hb14⟩
      have HK14 := Lib.hid (below_next HK13.out hb14)
      clear hb14
      go_wp2_with fail
      go_ret
      exact ⟨ret_bool (by simp), below_next HB5.out HK14.out⟩
    · obtain ⟨ct, hct⟩ : ∃ ct, (ofL N)[0]? = some ct := ⟨(ofL N)[0]'(by rw [← HH.out.2.1]; decide), List.getElem?_eq_getElem _⟩
      obtain ⟨b, p, B0, d0, B1, d1, eA, hlt, hcc, _, _, _, _⟩ := HK7.out.2.2.at_ 0 ct hct
      subst eA
      have z0 : w7.cell? ⟨b, p, none⟩ = some (.string s) := by
        have := hcc 0 _ rfl
        rw [HH.out.2.2.2.1 ct (List.mem_of_getElem? hct)] at this
        simpa using this
      clear hcc hct
      go_wp2_with fail
      refine (HWO.out A12 c12 _ HK7.out.2.1).mono ?_
      rintro e w8 ⟨A76, c76, rfl, hC76, hb8⟩
      have HK8 := Lib.hid (And.intro (below_next HK7.out.1 hb8) hC76)
      clear hb8 hC76
      go_wp2_with fail
      refine (HOF.out A9 c9 _ (HR5.out.2.1.below HK8.out.1)).mono ?_
      rintro e w9 ⟨A78, c78, rfl, hc78, hC78, hb9⟩
      have HK9 := Lib.hid (And.intro (below_next HK8.out.1 hb9) (And.intro (HK8.out.2.below hb9) hC78))
      clear hb9 hC78
      go_wp2_with fail
      refine (HSM.out A76 A78 c76 c78 _ HK9.out.2.1 HK9.out.2.2).mono ?_
      rintro e w10 ⟨rfl, hb10⟩
      have HK10 := Lib.hid (below_next HK9.out.1 hb10)
      clear hb10
      go_wp2_with fail
      refine (HOF.out A9 c9 _ (HR5.out.2.1.below HK10.out)).mono ?_
      rintro e w11 ⟨A85, c85, rfl, hc85, hC85, hb11⟩
      have HK11 := Lib.hid (below_next HK10.out hb11)
      clear hb11 hC85
      go_wp2_with fail
      refine (HSE.out _ (HR5.out.1.below HK11.out)).mono ?_
      rintro e w12 ⟨rfl, hb12⟩
      have HK12 := Lib.hid (below_next HK11.out hb12)
      clear hb12
      go_wp2_with fail
      refine (HSN.out A10 c10 _ (HR5.out.2.2.below HK12.out)).mono ?_
      rintro e w13 ⟨rfl, hb13⟩
      have HK13 := Lib.hid (below_next HK12.out hb13)
      clear hb13
      go_wp2_with fail
      refine (HSO.out A9 c9 _ (HR5.out.2.1.below HK13.out)).mono ?_
      rintro e w14 ⟨rfl, hb14⟩
      have HK14 := Lib.hid (below_next HK13.out hb14)
      clear hb14
      go_wp2_with fail
      go_ret
      exact ⟨ret_bool (by simp), below_next HB5.out HK14.out⟩
end Go.Proofs.Ytfbpjhhcpockfaa
