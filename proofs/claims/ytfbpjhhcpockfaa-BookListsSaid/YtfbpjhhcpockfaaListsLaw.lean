/- BookLists: the walk. No condition. -/
import Derived.Test.YtfbpjhhcpockfaaLists1
set_option linter.unusedVariables false
set_option linter.unusedSimpArgs false
namespace Go.Proofs.Ytfbpjhhcpockfaa
open Go.RowKit Go.Shelf Go.Maps
theorem sets_len {L : List Ev} {c : Ct} (h : c ∈ ofL L) (l : Nat) : (c.s l).length ≤ L.length := by
  obtain ⟨s, hs, rfl⟩ := List.mem_map.1 h
  have hv : ∀ l : Int, (srt (vE L s l)).length ≤ L.length := fun l => by
    have a := compact_len ((vE L s l).mergeSort leS)
    have b : ((vE L s l).mergeSort leS).length = (vE L s l).length := List.length_mergeSort _
    have c : (vE L s l).length = (grp (countL 4 L) s l).length := by unfold vE; rw [List.length_map]
    have d := grp_le (countL 4 L) s l
    have e := count_len 4 L
    unfold srt
    omega
  unfold Ct.s
  split
  · exact hv 0
  · exact hv 1
set_option maxRecDepth 100000 in
set_option maxHeartbeats 4000000 in
theorem bookLists_walk (A : Option Addr) (n c : Nat) (L : List Ev) (w : World) (hR : RdEv w A n L) (hok : ∀ e ∈ L, e.ok) (hnc : n ≤ c) (hn : n ≤ 9223372036854775807) :
    Calls Try.prog 6 #[.slice A n c] w fun e w' => e = .returned (.bool true) ∧ Below w.heap.size w w' := by
  obtain ⟨m, hm⟩ : ∃ m, m = min n 30 := ⟨_, rfl⟩
  obtain ⟨M, hM⟩ : ∃ M, M = L.take m := ⟨_, rfl⟩
  have hRM : RdEv w A m M := by rw [hM]; exact hR.take_ m (by omega)
  have hokM : ∀ e ∈ M, e.ok := fun e he => hok e (by rw [hM] at he; exact List.mem_of_mem_take he)
  have hm30 : m ≤ 30 := by omega
  obtain ⟨a, ha⟩ : ∃ a, a = (ofL M).length := ⟨_, rfl⟩
  obtain ⟨s, hs⟩ : ∃ s, s = sizeL M := ⟨_, rfl⟩
  have HO := Lib.hid (fun W (h : Below w.heap.size w W) => of_any A m c M W (hRM.below h) hokM (by omega))
  have HS := Lib.hid (fun W (h : Below w.heap.size w W) => size_any A m c M W (hRM.below h) (by omega))
  have HW := Lib.hid (fun W => few_any A n c W hnc hn)
  have HR := Lib.hid (fun W (h : Below w.heap.size w W) => hRM.below h)
  have h1 : sizeL M ≤ m := by have := sizeL_le M; rw [hRM.1] at this; exact this
  have h2 := of_le_size M
  have h3 : (ofL M).length = 0 → sizeL M = 0 := size_zero
  have HL := Lib.hid (show ∀ c ∈ ofL M, ∀ l, (c.s l).length ≤ 1000000000 from fun c hc l => by have := sets_len hc l; rw [hRM.1] at this; omega)
  rw [← hm] at HW
  rw [← ha, ← hs] at h2 h3
  rw [← hs] at h1 HS
  rw [← ha] at HO
  have HA := Lib.hid ha
  clear hR hok hRM hokM hM ha hs hm
  go_enter Try.func6, Try.ntmps6
  go_wp2_with fail
  refine (shown09_any _).mono ?_
  rintro e w1 ⟨rfl, hb1⟩
  have HB1 := Lib.hid hb1
  clear hb1
  go_wp2_with fail
  refine (HW.out _).mono ?_
  rintro e w1' ⟨rfl, rfl⟩
  go_wp2_with fail
  refine (HO.out _ HB1.out).mono ?_
  rintro e w2 ⟨A5, c5, rfl, hc5, hC5, hb2⟩
  have HB2 := Lib.hid (below_next HB1.out hb2)
  have HC5 := Lib.hid hC5
  clear hb2 hC5
  rcases Nat.eq_zero_or_pos a with h0 | hpos
  · have hs0 := h3 h0
    subst h0 hs0
    go_wp2_with fail
    refine (HS.out _ HB2.out).mono ?_
    rintro e w3 ⟨rfl, hb3⟩
    have HB3 := Lib.hid (below_next HB2.out hb3)
    have HC5 := Lib.hid (HC5.out.below hb3)
    clear hb3
    go_wp2_with fail
    refine (HS.out _ HB3.out).mono ?_
    rintro e w4 ⟨rfl, hb3⟩
    have HB3 := Lib.hid (below_next HB3.out hb3)
    have HC5 := Lib.hid (HC5.out.below hb3)
    clear hb3
    go_wp2_with fail
    refine (HS.out _ HB3.out).mono ?_
    rintro e w4 ⟨rfl, hb3⟩
    have HB3 := Lib.hid (below_next HB3.out hb3)
    have HC5 := Lib.hid (HC5.out.below hb3)
    clear hb3
    go_wp2_with fail
    refine bl_loop1 _ A A5 m c _ c5 M (ofL M) w4 _ _ _ _ _ _ _ _ _ _ _ _ _ _ _ _ _ _ _ _ _ _ _ _ _ _ _ _ _ _ _ _ _ _ _ _ _ _ _ _ _ _ _ _ _ _ _ _ _ _ _ _ _ _ _ _ _ _ _ _ _ _ _ _ _ _ _ _ _ _ _ _ _ _ _ _ _ _ _ _ _ _ _ _ _ _ _ _ _ _ _ _ _ _ _ _ _ _ _ _ _ _ _ _ _ _ _ _ _ _ _ _ _ _ _ _ _ _ _ _ _ _ _ _ _ _ _ _ _ _ _ _ _ _ _ _ _ _ _ _ _ _ _ _ _ _ (HR.out _ HB3.out) (by omega) HC5.out (by omega) (fun c hc => fair_of hc) (fun i c d => key_rise) HL.out ?_
    intro x2 x6 x7 x8 x9 x37 x38 x39 x40 x41 x42 x43 x44 x45 x46 x47 x48 x49 x50 x51 x52 x53 x54 x55 x56 x57 x58 x59 x60 x61 x62 x63 x64 x65 x66 x67 x68 x69 x70 x71 x72 x73 x74 x75 x76 x77 x78 x79 x80 x81 x82 x83 x84 x85 x86 x87 x88 x89 x90 x91 x92 x93 x94 x95 x96 x97 x98 x99 x100 x101 x102 x103 x104 x105 x106 x107 x108 x109 x110 x111 x112 x113 x114 x115 x116 x117 x118 x119 x120 x121 x122 x123 x124 x125 x126 x127 x128 x129 x130 x131 x132 x133 x134 x135 x136 x137 x138 x139 x140 x141 x142 x143 x144 x145 x146 x147 w5 hb5
    have HB5 := Lib.hid (below_next HB3.out hb5)
    clear hb5
    go_wp2_with fail
    go_ret
    exact ⟨rfl, HB5.out⟩
  · clear h3
    have hne : ¬ (a : Int) = 0 := by omega
    have hne' : a ≠ 0 := by omega
    go_wp2_with fail
    refine (HS.out _ HB2.out).mono ?_
    rintro e w3 ⟨rfl, hb3⟩
    have HB3 := Lib.hid (below_next HB2.out hb3)
    have HC5 := Lib.hid (HC5.out.below hb3)
    clear hb3
    go_wp2_with fail
    refine (HS.out _ HB3.out).mono ?_
    rintro e w4 ⟨rfl, hb3⟩
    have HB3 := Lib.hid (below_next HB3.out hb3)
    have HC5 := Lib.hid (HC5.out.below hb3)
    clear hb3
    go_wp2_with fail
    refine bl_loop1 _ A A5 m c _ c5 M (ofL M) w4 _ _ _ _ _ _ _ _ _ _ _ _ _ _ _ _ _ _ _ _ _ _ _ _ _ _ _ _ _ _ _ _ _ _ _ _ _ _ _ _ _ _ _ _ _ _ _ _ _ _ _ _ _ _ _ _ _ _ _ _ _ _ _ _ _ _ _ _ _ _ _ _ _ _ _ _ _ _ _ _ _ _ _ _ _ _ _ _ _ _ _ _ _ _ _ _ _ _ _ _ _ _ _ _ _ _ _ _ _ _ _ _ _ _ _ _ _ _ _ _ _ _ _ _ _ _ _ _ _ _ _ _ _ _ _ _ _ _ _ _ _ _ _ _ _ _ (HR.out _ HB3.out) (by omega) HC5.out (by omega) (fun c hc => fair_of hc) (fun i c d => key_rise) HL.out ?_
    intro x2 x6 x7 x8 x9 x37 x38 x39 x40 x41 x42 x43 x44 x45 x46 x47 x48 x49 x50 x51 x52 x53 x54 x55 x56 x57 x58 x59 x60 x61 x62 x63 x64 x65 x66 x67 x68 x69 x70 x71 x72 x73 x74 x75 x76 x77 x78 x79 x80 x81 x82 x83 x84 x85 x86 x87 x88 x89 x90 x91 x92 x93 x94 x95 x96 x97 x98 x99 x100 x101 x102 x103 x104 x105 x106 x107 x108 x109 x110 x111 x112 x113 x114 x115 x116 x117 x118 x119 x120 x121 x122 x123 x124 x125 x126 x127 x128 x129 x130 x131 x132 x133 x134 x135 x136 x137 x138 x139 x140 x141 x142 x143 x144 x145 x146 x147 w5 hb5
    have HB5 := Lib.hid (below_next HB3.out hb5)
    clear hb5
    go_wp2_with fail
    go_ret
    exact ⟨rfl, HB5.out⟩
end Go.Proofs.Ytfbpjhhcpockfaa
