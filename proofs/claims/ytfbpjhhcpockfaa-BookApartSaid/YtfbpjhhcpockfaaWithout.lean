/- kithlaw09's without and short. No condition. -/
import Derived.Test.YtfbpjhhcpockfaaSame
import Derived.Test.YtfbpjhhcpockfaaMakePlain
set_option linter.unusedVariables false
set_option linter.unusedSimpArgs false
namespace Go.Proofs.Ytfbpjhhcpockfaa
open Go.RowKit Go.Shelf Go.Maps
theorem CtsAt.snoc {w : World} {c : Ct} {us : List Value} (hc : CtAt w c us) : ∀ {cs : List Ct} {vs : List Value}, CtsAt w cs vs → CtsAt w (cs ++ [c]) (vs ++ us)
  | _, _, .nil => by simpa using CtsAt.cons hc .nil
  | _, _, .cons h r => by rw [List.cons_append, List.append_assoc]; exact .cons h (r.snoc hc)
/-- All but those of a key. -/
def butL (cs : List Ct) (s : Str) : List Ct := cs.filter fun c => !(c.key == s)
theorem butL_snoc {cs : List Ct} {j : Nat} {c : Ct} (hc : cs[j]? = some c) (s : Str) : butL (cs.take (j + 1)) s = butL (cs.take j) s ++ (if c.key = s then [] else [c]) := by
  unfold butL
  rw [take_snocG hc, List.filter_append]
  by_cases h : c.key = s <;> simp [h]
theorem butL_le (cs : List Ct) (s : Str) : (butL cs s).length ≤ cs.length := List.length_filter_le _ _
set_option maxRecDepth 100000 in
set_option maxHeartbeats 4000000 in
theorem without_any (A : Option Addr) (n c : Nat) (cs : List Ct) (key : ByteArray) (w : World) (hR : RdCts w A n cs) (hn : n ≤ 1000000) :
    Calls Try.prog 16 #[.slice A n c, .string key] w fun e w' => ∃ A' c', e = .returned (.slice A' (butL cs key.data.toList).length c') ∧ RdCts w' A' (butL cs key.data.toList).length (butL cs key.data.toList) ∧ Below w.heap.size w w' := by
  have HR := Lib.hid hR
  have HL := Lib.hid hR.1
  have H0 := Lib.hid (And.intro (own_empty w 46 7 (Nat.le_refl w.heap.size)) ((Below.refl w.heap.size w).alloc (Nat.le_refl _) (.cells #[] 46)))
  clear hR
  go_enter Try.func16, Try.ntmps16
  go_wp2_with fail
  go_loopw [5, 6] (fun v i wr => ∃ (j : Nat) (vs : List Value), j ≤ n ∧ i = .int .i64 j ∧ wr.ownsRow w.heap.size 46 7 v (butL (cs.take j) key.data.toList).length vs ∧ CtsAt w (butL (cs.take j) key.data.toList) vs ∧ Below w.heap.size w wr) (fun _ i _ => n - (intOf i).toNat)
  case atStart => exact ⟨0, [], by omega, rfl, H0.out.1, .nil, H0.out.2⟩
  case round =>
    obtain ⟨j, vs, hj, rfl, hO, hC, hbr⟩ := hrel
    by_cases hjn : j < n
    · obtain ⟨x, hx⟩ : ∃ x, cs[j]? = some x := ⟨cs[j]'(by rw [HL.out]; exact hjn), List.getElem?_eq_getElem _⟩
      obtain ⟨b, o, A0, c0, A1, c1, eA, hlt, hcc, hl0, hl1, hr0, hr1⟩ := HR.out.at_ j x hx
      subst eA
      have HCT := Lib.hid (show CtAt w x (ctV x A0 A1 c0 c1) from ⟨A0, c0, A1, c1, rfl, hl0, hl1, hr0, hr1⟩)
      have hcell : ∀ k u, (ctV x A0 A1 c0 c1)[k]? = some u → wr.cell? ⟨b, o + j * 7 + k, none⟩ = some u := fun k u hu => (hbr.cell (p := ⟨b, o + j * 7 + k, none⟩) hlt).trans (hcc k u hu)
      have v0 := hcell 0 _ rfl
      have v1 := hcell 1 _ rfl
      have v2 := hcell 2 _ rfl
      have v3 := hcell 3 _ rfl
      have v4 := hcell 4 _ rfl
      have v5 := hcell 5 _ rfl
      have v6 := hcell 6 _ rfl
      rw [Nat.add_zero] at v0
      have hsn := butL_snoc hx key.data.toList
      have hle : (butL (cs.take j) key.data.toList).length ≤ j := Nat.le_trans (butL_le _ _) (List.length_take_le _ _)
      have hek : (ba x.key).toList = x.key := by rw [data_toList, of_ba]
      have hek2 : key.toList = key.data.toList := data_toList key
      obtain ⟨m, hm⟩ : ∃ m, m = (butL (cs.take j) key.data.toList).length := ⟨_, rfl⟩
      rw [← hm] at hO hle
      by_cases hk : x.key = key.data.toList
      · have hq : ((ba x.key).toList == key.toList) = true := by rw [hek, hek2]; simpa using hk
        have HN := Lib.hid (show butL (cs.take (j + 1)) key.data.toList = butL (cs.take j) key.data.toList by rw [hsn, if_pos hk, List.append_nil])
        have HK := Lib.hid (And.intro hO (And.intro hC (And.intro hbr hm)))
        clear hcc hcell hO hC hbr hsn hx hek hek2 hk hm hl0 hl1 hr0 hr1
        go_wp2_with fail
        go_roundw
        case measure => simp [intOf]; omega
        case rel => exact ⟨j + 1, vs, by omega, by go_num, by rw [HN.out, ← HK.out.2.2.2]; exact HK.out.1, by rw [HN.out]; exact HK.out.2.1, HK.out.2.2.1⟩
      · have hq : ((ba x.key).toList == key.toList) = false := by rw [hek, hek2]; simpa using hk
        have HN := Lib.hid (show butL (cs.take (j + 1)) key.data.toList = butL (cs.take j) key.data.toList ++ [x] by rw [hsn, if_neg hk])
        have hsz : w.heap.size ≤ wr.heap.size := hbr.size
        have HBK := Lib.hid (show ∀ W, W = wr.alloc (.cells (ctV x A0 A1 c0 c1).toArray 46) → W.ownsRow w.heap.size 46 7 u5 m vs ∧ Rd W (some ⟨wr.heap.size, 0, none⟩) 1 7 (ctV x A0 A1 c0 c1) ∧ Below w.heap.size w W ∧ w.heap.size ≤ W.heap.size by
          rintro W rfl
          refine ⟨own_next hO ((Below.refl _ _).alloc (Nat.le_refl _) _), (At.new wr (ctV x A0 A1 c0 c1).toArray 46).rd (n := 1) (size := 7) rfl (by decide), hbr.alloc hsz _, by simp; omega⟩)
        have HK := Lib.hid (And.intro hC hm)
        clear hcc hcell hO hC hbr hsn hx hek hek2 hk hm hl0 hl1 hr0 hr1
        go_wp2_with (at_builtin; refine wpList_append_rd (w0 := w) w.heap.size rfl _ _ 36 46 _ 7 104 rfl Try.underlying36 info_con rfl (by decide) (by decide) u5 m vs (some ⟨wr.heap.size, 0, none⟩) 1 1 (ctV x A0 A1 c0 c1) (by rfl) (by rfl) (HBK.out _ rfl).1 (HBK.out _ rfl).2.1 (by simp [ctV, Value.oneCell']) (HBK.out _ rfl).2.2.1 (HBK.out _ rfl).2.2.2 (by omega) ?_)
        intro w1 w2 hO2 hb2 _ _
        have HH2 := Lib.hid (And.intro hO2 hb2)
        clear hO2 hb2
        go_wp2_with fail
        go_roundw
        case measure => simp [intOf]; omega
        case rel => exact ⟨j + 1, vs ++ ctV x A0 A1 c0 c1, by omega, by go_num, by rw [HN.out, List.length_append, ← HK.out.2]; exact HH2.out.1, by rw [HN.out]; exact HK.out.1.snoc HCT.out, HH2.out.2⟩
    · have hjn' : j = n := by omega
      subst hjn'
      have hne : ¬ (j : Int) < (j : Int) := by omega
      have e : cs.take j = cs := List.take_of_length_le (by rw [HL.out]; omega)
      rw [e] at hO hC
      obtain ⟨A', c', rfl, _, hRd⟩ := Rd.own hO
      have HK := Lib.hid (And.intro hRd (And.intro hC hbr))
      clear hO hRd hC hbr
      go_wp2_with fail
      go_ret
      exact ⟨A', ⟨c', rfl⟩, ⟨rfl, vs, HK.out.1, HK.out.2.1.later HK.out.2.2⟩, HK.out.2.2⟩
theorem short_any (A : Option Addr) (n c : Nat) (w : World) (hnc : n ≤ c) (hn : n ≤ 9223372036854775807) :
    Calls Try.prog 11 #[.slice A n c] w fun r w' => r = .returned (.slice A (min n 40) c) ∧ w = w' := by
  go_enter Try.func11, Try.ntmps11
  go_wp2_with fail
  go_ret
  refine ⟨?_, rfl⟩
  show Ending.returned (Value.slice A (min (n : Int) 40).toNat c) = _
  rw [show (min (n : Int) 40).toNat = min n 40 by omega]
end Go.Proofs.Ytfbpjhhcpockfaa
