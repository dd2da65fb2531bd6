/- book.Of: what it gives of any events. No condition. -/
import Derived.Test.YtfbpjhhcpockfaaOfL
import Derived.Test.YtfbpjhhcpockfaaOf3
import Derived.Test.YtfbpjhhcpockfaaOf2
set_option linter.unusedVariables false
set_option linter.unusedSimpArgs false
namespace Go.Proofs.Ytfbpjhhcpockfaa
open Go.RowKit Go.Shelf Go.Maps

theorem live_sub {L : List Ev} {e : Ev} (h : e ∈ liveL L) : e ∈ L := (List.mem_filter.1 h).1
theorem count_sub {k : Int} {L : List Ev} {e : Ev} (h : e ∈ countL k L) : e ∈ L := (List.mem_filter.1 h).1
theorem count_keyed {k : Int} {L : List Ev} {e : Ev} (h : e ∈ countL k L) : keyed (liveL L) e.k = true := by
  have h2 := (List.mem_filter.1 h).2
  unfold idle at h2
  simp only [Bool.not_or, Bool.not_not, Bool.and_eq_true] at h2
  obtain ⟨c, hc, hu⟩ := List.any_eq_true.1 h2.2
  unfold keyed
  refine List.any_eq_true.2 ⟨c, hc, ?_⟩
  unfold under at hu
  simp only [Bool.and_eq_true] at hu
  have := hu.1
  unfold Ev.sameKey at this
  rw [data_toList, data_toList] at this
  exact this
theorem live_len (L : List Ev) : (liveL L).length ≤ L.length := List.length_filter_le _ _
theorem count_len (k : Int) (L : List Ev) : (countL k L).length ≤ L.length := List.length_filter_le _ _
theorem grp_le (L : List Ev) (s : Str) (l : Int) : (grp L s l).length ≤ L.length := List.length_filter_le _ _
theorem keyed_ok {L : List Ev} (hok : ∀ e ∈ L, e.ok) {s : Str} (h : keyed (liveL L) s = true) : s.length ≤ maxLen := by
  obtain ⟨e, he, hs⟩ := List.any_eq_true.1 h
  have := (hok e (live_sub he)).1
  have e1 : e.k = s := by simpa using hs
  rw [← e1]
  simpa [Ev.k] using this
set_option maxRecDepth 100000 in
set_option maxHeartbeats 4000000 in
theorem of_any (A : Option Addr) (n c : Nat) (L : List Ev) (w : World) (hR : RdEv w A n L) (hok : ∀ e ∈ L, e.ok) (hbig : n ≤ 1000000000) :
    Calls Try.prog 13 #[.slice A n c] w fun e w' => ∃ A' c', e = .returned (.slice A' (ofL L).length c') ∧ (ofL L).length ≤ c' ∧ RdCts w' A' (ofL L).length (ofL L) ∧ Below w.heap.size w w' := by
  have hmm := @run_makeMap Try.prog
  obtain ⟨w1, hw1⟩ : ∃ w1, w1 = w.alloc (.map #[] 0) := ⟨_, rfl⟩
  have hb1 : Below w.heap.size w w1 := by rw [hw1]; exact (Below.refl w.heap.size w).alloc (Nat.le_refl _) _
  have hs1 : w1.heap.size = w.heap.size + 1 := by rw [hw1]; simp
  have hM1 : BookAt w1 w.heap.size 0 w.heap.size (fun _ => none) (fun _ => blank) := by rw [hw1]; exact BookAt.start w _ _
  have HL := Lib.hid (live_any A n c L w1 (hR.below hb1) hbig)
  have HC := Lib.hid (fun (k : Int) (W : World) (h : Below w.heap.size w W) => counting_any k A n c L W (hR.below h) hbig)
  have HOK := Lib.hid hok
  have HN := Lib.hid hR.1
  have H1 := Lib.hid (And.intro hb1 (And.intro hs1 hM1))
  have HW1 := Lib.hid hw1
  clear hR hok hw1 hb1 hs1 hM1
  go_enter Try.func13, Try.ntmps13
  go_upto_region 2 with (fail)
  rw [← HW1.out]
  go_wp2_with fail
  refine HL.out.mono ?_
  rintro e w3 ⟨v, rfl, hO, hb3⟩
  obtain ⟨A', c', rfl, hc', hRd⟩ := Rd.own hO
  have hll := live_len L
  rw [HN.out] at hll
  have H3 := Lib.hid (And.intro hRd hb3)
  clear hO hb3 hRd hmm
  go_wp2_with fail
  have hbk3 : BookAt w3 w.heap.size 0 w.heap.size (fun _ => none) (fun _ => blank) := H1.out.2.2.next H3.out.2
  have hsz3 := H3.out.2.size
  have HLE := Lib.hid (show ∀ e ∈ liveL L, e.ok from fun e he => HOK.out e (live_sub he))
  have HRL := Lib.hid (show RdEv w3 A' (liveL L).length (liveL L) from ⟨rfl, H3.out.1⟩)
  have hs1 := H1.out.2.1
  refine of_loop1 _ A' (liveL L).length c' w.heap.size w.heap.size (liveL L) w3 _ _ _ _ _ _ _ _ _ _ _ _ _ _ _ _ _ _ _ _ _ _ _ _ _ _ _ _ _ _ _ _ _ _ _ _ _ _ _ _ _ _ _ _ _ _ _ _ _ _ _ _ _ _ _ _ _ _ _ _ _ _ _ _ _ _ _ _ _ _ _ _ _ _ _ _ _ _ _ _ _ _ _ _ _ _ _ _ _ _ _ _ _ _ _ _ _ _ _ _ _ _ _ _ _ _ _ _ _ _ _ _ _ _ _ _ _ _ _ _ _ _ _ _ _ _ _ _ _ _ _ _ _ _ _ _ _ _ _ _ _ _ _ _ _ _ _ _ _ _ _ _ _ _ _ _ _ _ _ _ _ _ _ _ _ _ _ _ _ _ _ _ _ _ _ _ _ _ _ _ _ _ _ _ _ HRL.out HLE.out (by omega) hbk3 (by omega) ?_
  intro x5 x27 x28 x29 x30 x31 x32 x33 x34 x35 x36 x37 x38 w4 pt hBk4 hpt hk4
  have hb04 : Below w.heap.size w w4 := hk4.toBelow (H1.out.1.trans (H3.out.2.mono (by omega))) (by omega) (fun i e => by omega)
  have hmm := @run_makeMap Try.prog
  obtain ⟨w5, hw5⟩ : ∃ w5, w5 = w4.alloc (.map #[] 0) := ⟨_, rfl⟩
  have hb45 : Below w4.heap.size w4 w5 := by rw [hw5]; exact (Below.refl _ _).alloc (Nat.le_refl _) _
  have hs5 : w5.heap.size = w4.heap.size + 1 := by rw [hw5]; simp
  have hsz4 := hk4.size
  have hM5 : ∀ base, GroupsAt w5 w4.heap.size 0 base (fun _ => none) (fun _ _ => []) := by rw [hw5]; exact fun base => GroupsAt.start w4 base
  have hb05 : Below w.heap.size w w5 := hb04.trans (hb45.mono (by omega))
  have H4 := Lib.hid (And.intro hBk4 (And.intro hpt (And.intro hb04 (And.intro hb45 (And.intro hM5 (And.intro hb05 hs5))))))
  have HW5 := Lib.hid hw5
  have HC5 := Lib.hid (HC.out 3 w5 hb05)
  clear hBk4 hpt hk4 hb04 hw5 hb45 hM5 hb05 hbk3
  go_upto_region 8 with (fail)
  rw [← HW5.out]
  clear hmm
  go_wp2_with fail
  refine HC5.out.mono ?_
  rintro e w6 ⟨v6, rfl, hO6, hb6⟩
  obtain ⟨A6, c6, rfl, hc6, hRd6⟩ := Rd.own hO6
  have hcl := count_len 3 L
  rw [HN.out] at hcl
  have H6 := Lib.hid (And.intro hRd6 hb6)
  have hsz6 := hb6.size
  have HRC := Lib.hid (show RdEv w6 A6 (countL 3 L).length (countL 3 L) from ⟨rfl, hRd6⟩)
  have HOC := Lib.hid (show ∀ e ∈ countL 3 L, e.ok from fun e he => HOK.out e (count_sub he))
  clear hO6 hb6 hRd6
  go_wp2_with fail
  refine of_loop2 _ A6 (countL 3 L).length c6 w4.heap.size w6.heap.size (countL 3 L) w6 _ _ _ _ _ _ _ _ _ _ _ _ _ _ _ _ _ _ _ _ _ _ _ _ _ _ _ _ _ _ _ _ _ _ _ _ _ _ _ _ _ _ _ _ _ _ _ _ _ _ _ _ _ _ _ _ _ _ _ _ _ _ _ _ _ _ _ _ _ _ _ _ _ _ _ _ _ _ _ _ _ _ _ _ _ _ _ _ _ _ _ _ _ _ _ _ _ _ _ _ _ _ _ _ _ _ _ _ _ _ _ _ _ _ _ _ _ _ _ _ _ _ _ _ _ _ _ _ _ _ _ _ _ _ _ _ _ _ _ _ _ _ _ _ _ _ _ _ _ _ _ _ _ _ _ _ _ _ _ _ _ _ _ _ _ _ _ _ _ _ _ _ _ _ _ _ _ _ _ _ _ _ _ _ _ HRC.out HOC.out (by omega) ((H4.out.2.2.2.2.1 w6.heap.size).next H6.out.2) rfl ?_
  intro x8 x9 x43 x44 x45 x46 x47 x48 x49 x50 x51 x52 x53 x54 x55 x56 x57 x58 x59 x60 w7 gr hG7 hk7
  have HG7 := Lib.hid hG7
  have HK7 := Lib.hid hk7
  have hsz7 := hk7.size
  clear hG7 hk7
  go_wp2_with (refine wpl_range rfl _ 67 rfl 70 28 keyed_field Try.underlying67 w4.heap.size (countL 3 L).length gr (by rfl) HG7.out.map ?_)
  intro w8 cnt hrg8 hg8 hs8
  have hb78 : Below w7.heap.size w7 w8 := ⟨hg8.os, hg8.tape, hg8.output, hg8.size, fun i hi => hg8.block i hi (by simp)⟩
  obtain ⟨M, hM⟩ : ∃ M, M = grp (countL 3 L) := ⟨_, rfl⟩
  rw [← hM] at HG7
  have hpt := H4.out.2.1
  have hlow4 : ∀ s c, pt s = some c → c < w4.heap.size := fun s c hc => H4.out.1.lt hc
  have hs5' := H4.out.2.2.2.2.2.2
  have hbk8 : BookAt w8 w.heap.size (liveL L).length w.heap.size pt (fun _ => blank) :=
    ((((H4.out.1.next H4.out.2.2.2.1).next H6.out.2).keep HK7.out (by omega) (fun s c hc e => by have := hlow4 s c hc; omega)).next hb78)
  have hokk : ∀ s c, pt s = some c → s.length ≤ maxLen := fun s c hc => keyed_ok HOK.out (by rw [← hpt s, hc]; rfl)
  have hleft : ∀ s l, okKey s l → M s l ≠ [] → (gr (klf s l)).isSome = true := fun s l ho hm => by
    obtain ⟨v, hv, _⟩ := HG7.out.rows s l ho hm
    rw [hv]; rfl
  have h3 : At3 w8 w8 w.heap.size (liveL L).length w.heap.size w4.heap.size (countL 3 L).length w6.heap.size w7.heap.size pt gr M (fun kl => (gr kl).isSome) cnt :=
    ⟨hbk8.congr (fun s c hc => cstate_start (fun hm => hleft s 0 ⟨hokk s c hc, wf01.1⟩ hm) (fun hm => hleft s 1 ⟨hokk s c hc, wf01.2⟩ hm)), HG7.out.next hb78, hrg8, Kept.refl _ _⟩
  have hcov : ∀ s l, M s l ≠ [] → (pt s).isSome = true := fun s l hm => by
    obtain ⟨e, r, he⟩ : ∃ e r, M s l = e :: r := by
      cases hh : M s l with
      | nil => exact absurd hh hm
      | cons e r => exact ⟨e, r, rfl⟩
    have hmem := HG7.out.mem s l e (by rw [he]; simp)
    have he2 : e ∈ countL 3 L := by
      have : e ∈ grp (countL 3 L) s l := by rw [← hM, he]; simp
      exact (List.mem_filter.1 this).1
    rw [hpt, ← hmem.1]
    exact count_keyed he2
  have hlen : ∀ s l, (M s l).length ≤ 1000000000 := fun s l => by
    rw [hM]
    have := grp_le (countL 3 L) s l
    omega
  have hb08 : Below w.heap.size w w8 := by
    have b6 := H4.out.2.2.2.2.2.1.trans (H6.out.2.mono (by omega))
    exact (HK7.out.toBelow b6 (by omega) (fun i e => by omega)).trans (hb78.mono (by omega))
  have H8 := Lib.hid (And.intro h3 (And.intro hb08 (And.intro hlow4 (And.intro hpt (And.intro hs8 (And.intro hs5' hM))))))
  have HLOW := Lib.hid (show ∀ s c, pt s = some c → c < w6.heap.size ∧ s.length ≤ maxLen from fun s c hc => ⟨by have := hlow4 s c hc; omega, hokk s c hc⟩)
  have HCOV := Lib.hid hcov
  have HLEN := Lib.hid hlen
  clear hb78 hpt hlow4 hbk8 hokk hleft h3 hcov hlen hb08 hrg8 hg8 hM hs5' hs8
  go_wp2_with fail
  refine of_loop3 _ w.heap.size (liveL L).length w.heap.size w4.heap.size (countL 3 L).length w6.heap.size w7.heap.size cnt pt gr M w8 _ _ _ _ _ _ _ _ _ _ _ _ _ _ _ _ _ _ _ _ _ _ _ _ _ _ _ _ _ _ _ _ _ _ _ _ _ _ _ _ _ _ _ _ _ _ _ _ _ _ _ _ _ _ _ _ _ _ _ _ _ _ _ _ _ _ _ _ _ _ _ _ _ _ _ _ _ _ _ _ _ _ _ _ _ _ _ _ _ _ _ _ _ _ _ _ _ _ _ _ _ _ _ _ _ _ _ _ _ _ _ _ _ _ _ _ _ _ _ _ _ _ _ _ _ _ _ _ _ _ _ _ _ _ _ _ _ _ _ _ _ _ _ _ _ _ _ _ _ _ _ _ _ _ _ _ _ _ _ _ _ _ _ _ _ _ _ _ _ _ _ _ _ _ _ _ _ _ _ _ _ _ _ _ _ _ _ H8.out.1 HLOW.out HCOV.out HLEN.out ?_
  intro x10 x11 x12 x14 x15 x63 x64 x65 x66 x67 x68 x69 x70 x71 x72 x73 x74 x75 x76 x77 x78 x79 x80 x81 x82 x83 x84 x85 x86 x87 x88 x89 x90 x91 x92 x93 x94 x95 x96 x97 x98 x99 x100 x101 x102 x103 x104 x105 x106 x107 x108 x109 x110 x111 x112 w9 hBk9 hk9
  have hsz8 := H8.out.2.2.2.2.1
  have hsz9 := hk9.size
  have hb09 : Below w.heap.size w w9 := hk9.toBelow H8.out.2.1 (by omega) (fun i hi => by
    rcases hi with rfl | ⟨s, hs⟩
    · omega
    · exact (hBk9.at_ s i hs).1)
  have HC9 := Lib.hid (HC.out 4 w9 hb09)
  have H9 := Lib.hid (And.intro hBk9 hb09)
  clear hBk9 hk9 hb09
  go_wp2_with fail
  refine HC9.out.mono ?_
  rintro e w10 ⟨v10, rfl, hO10, hb10⟩
  obtain ⟨A10, c10, rfl, hc10, hRd10⟩ := Rd.own hO10
  have hcl4 := count_len 4 L
  rw [HN.out] at hcl4
  have hsz10 := hb10.size
  have hlow10 : ∀ s c, pt s = some c → c < w10.heap.size := fun s c hc => by
    have := (HLOW.out s c hc).1
    omega
  have hA10 : ∀ b o s, A10 = some ⟨b, o, none⟩ → pt s ≠ some b := by
    rintro b o s rfl hs
    have h1 := (hO10.lt b rfl).1
    have h2 := H9.out.1.lt hs
    omega
  have h5 : At5 w10 w10 w.heap.size (liveL L).length w.heap.size pt (cstate M (fun _ => false)) (cstate M (fun _ => false)) (fun _ _ => []) := by
    have hnil : ∀ s l, slotS (cstate M (fun _ => false) s) l = .slice none 0 0 := fun s l => by unfold slotS cstate; split <;> rfl
    refine ⟨H9.out.1.next hb10, fun s => ⟨rfl, rfl, rfl, rfl⟩, fun s c hc l hl => ?_, fun s c s' c' _ _ l l' _ _ _ g hg => ?_, Kept.refl _ _⟩
    · rw [hnil]; exact World.ownsRow_nil _ _ _ _
    · rw [hnil] at hg; simp [Value.ownBlock] at hg
  have H10 := Lib.hid (And.intro h5 (And.intro hlow10 (And.intro hA10 (H9.out.2.trans (hb10.mono (by omega))))))
  have HR10 := Lib.hid (show RdEv w10 A10 (countL 4 L).length (countL 4 L) from ⟨rfl, hRd10⟩)
  have HO10 := Lib.hid (show ∀ e ∈ countL 4 L, e.ok from fun e he => HOK.out e (count_sub he))
  have HV10 := Lib.hid (show ∀ e ∈ countL 4 L, (pt e.k).isSome = true from fun e he => by rw [H8.out.2.2.2.1]; exact count_keyed he)
  clear hO10 hb10 hRd10 hlow10 hA10 h5
  go_wp2_with fail
  refine of_loop5 _ A10 (countL 4 L).length c10 w.heap.size (liveL L).length w.heap.size (countL 4 L) pt (cstate M (fun _ => false)) w10 _ _ _ _ _ _ _ _ _ _ _ _ _ _ _ _ _ _ _ _ _ _ _ _ _ _ _ _ _ _ _ _ _ _ _ _ _ _ _ _ _ _ _ _ _ _ _ _ _ _ _ _ _ _ _ _ _ _ _ _ _ _ _ _ _ _ _ _ _ _ _ _ _ _ _ _ _ _ _ _ _ _ _ _ _ _ _ _ _ _ _ _ _ _ _ _ _ _ _ _ _ _ _ _ _ _ _ _ _ _ _ _ _ _ _ _ _ _ _ _ _ _ _ _ _ _ _ _ _ _ _ _ _ _ _ _ _ _ _ _ _ _ _ _ _ _ _ _ _ _ _ _ _ _ _ _ _ _ _ _ _ _ _ _ _ _ _ _ _ _ _ _ _ _ _ _ _ _ _ _ _ _ _ _ _ HR10.out HO10.out HV10.out (by omega) H10.out.2.1 H10.out.2.2.1 H10.out.1 ?_
  intro x17 x18 x116 x117 x118 x119 x120 x121 x122 x123 x124 x125 x126 x127 x128 x129 x130 x131 x132 x133 x134 x135 x136 x137 x138 x139 x140 x141 x142 x143 x144 x145 x146 x147 x148 x149 w11 st hA5
  have HA5 := Lib.hid hA5
  have hsz11 := hA5.kept.size
  have hb011 : Below w.heap.size w w11 := hA5.kept.toBelow H10.out.2.2.2 (by omega) (fun i hi => by
    obtain ⟨s, hs⟩ := hi
    exact (hA5.book.at_ s i hs).1)
  have HB11 := Lib.hid hb011
  clear hA5 hb011
  go_wp2_with fail
  refine (values_any _ _).mono ?_
  rintro e w12 ⟨rfl, hw12⟩
  have hb12 : Below w11.heap.size w11 w12 := by rw [hw12]; exact (Below.refl _ _).alloc (Nat.le_refl _) _
  have hm12 : w12.cell? ⟨w11.heap.size, 0, none⟩ = some (.map (some w.heap.size)) := by rw [hw12]; exact (At.new w11 #[.map (some w.heap.size)] 65).cell 0 rfl
  have hs12 : w12.heap.size = w11.heap.size + 1 := by rw [hw12]; simp
  have hA12 := HA5.out.next hb12
  have hbk0 : BookAt w12 w.heap.size (liveL L).length 0 pt st := ⟨hA12.book.map, fun s c hc => ⟨Nat.zero_le _, (hA12.book.at_ s c hc).2⟩⟩
  have HSF := Lib.hid (sortedFunc_any (liveL L).length w.heap.size w11.heap.size st w12 hbk0 (fun s c hc => by have := H10.out.2.1 s c hc; omega) hm12 (by omega))
  have HA12 := Lib.hid hA12
  have HB12 := Lib.hid hb12
  clear hw12 hb12 hm12 hA12 hbk0
  go_wp2_with fail
  refine HSF.out.mono ?_
  rintro e w13 ⟨v13, ks, rfl, hall, hsrt, hkl, hO13, hb13⟩
  obtain ⟨A13, c13, rfl, hc13, hRd13⟩ := Rd.own hO13
  have hsz13 := hb13.size
  have hA13 := HA12.out.next hb13
  have hvv : ∀ s l, valV (grp (countL 4 L) s l) = (vE L s l).map strV := fun s l => by
    unfold valV vE
    rw [List.map_map]
    exact List.map_congr_left fun e _ => (strV_of e.value).symm
  have h6 : At6 w13 w13 w.heap.size (liveL L).length w.heap.size w10.heap.size pt st st (vE L) (fun _ _ => false) :=
    ⟨hA13.book, fun s => ⟨rfl, rfl, rfl, rfl⟩, fun s l _ => rfl, fun s c hc l hl => by
      have := hA13.rows s c hc l hl
      rw [hvv] at this
      have e : (vE L s l).length = (grp (countL 4 L) s l).length := by unfold vE; simp
      unfold curV
      simp only [Bool.false_eq_true, if_false]
      rw [e]
      exact this, Kept.refl _ _⟩
  have hap6 : Apart6 pt st := hA13.apart
  have hA13' : ∀ b o, A13 = some ⟨b, o, none⟩ → ¬ turn6 pt st b := by
    rintro b o rfl hT
    have h1 := (hO13.lt b rfl).1
    rcases hT with ⟨s, hs⟩ | ⟨s, l, hs, hl, hb⟩
    · have := H10.out.2.1 s b hs
      omega
    · obtain ⟨C, hC⟩ := Option.isSome_iff_exists.1 hs
      have := ((HA5.out.rows s C hC l hl).lt b hb).2
      omega
  have hvl : ∀ s l, (vE L s l).length ≤ 1000000000 := fun s l => by
    unfold vE
    rw [List.length_map]
    have := grp_le (countL 4 L) s l
    omega
  have H13 := Lib.hid (And.intro h6 (And.intro hap6 (And.intro hA13' (And.intro hvl (And.intro hall (And.intro hsrt (And.intro hRd13 (And.intro hA13.same ((HB11.out.trans (HB12.out.mono (by omega))).trans (hb13.mono (by omega)))))))))))
  clear hO13 hb13 hA13 h6 hap6 hA13' hvl hall hsrt hvv hRd13
  go_wp2_with fail
  refine of_loop6 _ A13 ks.length c13 w.heap.size (liveL L).length w.heap.size w10.heap.size pt st (vE L) ks w13 _ _ _ _ _ _ _ _ _ _ _ _ _ _ _ _ _ _ _ _ _ _ _ _ _ _ _ _ _ _ _ _ _ _ _ _ _ _ _ _ _ _ _ _ _ _ _ _ _ _ _ _ _ _ _ _ _ _ _ _ _ _ _ _ _ _ _ _ _ _ _ _ _ _ _ _ _ _ _ _ _ _ _ _ _ _ _ _ _ _ _ _ _ _ _ _ _ _ _ _ _ _ _ _ _ _ _ _ _ _ _ _ _ _ _ _ _ _ _ _ _ _ _ _ _ _ _ _ _ _ _ _ _ _ _ _ _ _ _ _ _ _ _ _ _ _ _ _ _ _ _ _ _ _ _ _ _ _ _ _ _ _ _ _ _ _ _ _ _ _ _ _ _ _ _ _ _ _ _ _ _ _ _ _ _ H13.out.1 H13.out.2.1 H10.out.2.1 (by omega) H13.out.2.2.2.1 H13.out.2.2.2.2.1 rfl (by omega) H13.out.2.2.2.2.2.2.1 H13.out.2.2.1 ?_
  intro x21 x22 x154 x155 x156 x157 x158 x159 x160 x161 x162 x163 x164 x165 x166 x167 x168 x169 x170 x171 x172 x173 x174 x175 x176 x177 x178 x179 x180 x181 x182 x183 x184 x185 x186 x187 v14 w14 st14 hA14 hO14
  obtain ⟨A14, c14, rfl, hc14, hRd14⟩ := Rd.own hO14
  have hks : ks = keysL L := keysL_of (pt := pt) H8.out.2.2.2.1 H13.out.2.2.2.2.1 H13.out.2.2.2.2.2.1
  have hlen : (ofL L).length = ks.length := by unfold ofL; rw [List.length_map, hks]
  have hM := H8.out.2.2.2.2.2.2
  have hsame : ∀ s, (st s).h0 = hE L s 0 ∧ (st s).h1 = hE L s 1 ∧ (st s).f0 = fE L s 0 ∧ (st s).f1 = fE L s 1 := fun s => by
    obtain ⟨a1, a2, a3, a4⟩ := H13.out.2.2.2.2.2.2.2.1 s
    have e : ∀ l, hB M (fun _ => false) s l = hE L s l := fun l => by unfold hB hE; rw [hM]; simp
    have e' : ∀ l, fB M (fun _ => false) s l = fE L s l := fun l => by unfold fB fE; rw [e, hM]
    rw [a1, a2, a3, a4]
    exact ⟨e 0, e 1, e' 0, e' 1⟩
  have hcts : CtsAt w14 (ofL L) (outCells ks st14) := by
    have := outCts hA14 hsame ks (fun s hs => ⟨(H13.out.2.2.2.2.1.2 s).1 hs, fun l => by simpa using hs⟩)
    unfold ofL
    rw [← hks]
    exact this
  have hb14 : Below w.heap.size w w14 := hA14.kept.toBelow H13.out.2.2.2.2.2.2.2.2 (by omega) (fun i hi => by
    rcases hi with ⟨s, hs⟩ | ⟨s, l, hs, hl, hb⟩
    · exact (HA5.out.book.at_ s i hs).1
    · obtain ⟨C, hC⟩ := Option.isSome_iff_exists.1 hs
      have := ((HA5.out.rows s C hC l hl).lt i hb).1
      omega)
  have HF := Lib.hid (And.intro hc14 (And.intro hRd14 (And.intro hlen (And.intro hcts hb14))))
  clear hA14 hO14 hc14 hRd14 hks hlen hM hsame hcts hb14
  go_wp2_with fail
  go_ret
  obtain ⟨h1, h2, h3, h4, h5⟩ := HF.out
  rw [h3]
  exact ⟨A14, c14, rfl, h1, ⟨h3, _, h2, h4⟩, h5⟩
end Go.Proofs.Ytfbpjhhcpockfaa
