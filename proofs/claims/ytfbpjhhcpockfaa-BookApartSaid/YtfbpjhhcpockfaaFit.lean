/- The reference's Fit of an edit gives what FitPlain says. Condition: texts of at most 2^47 bytes (the reach of a row). -/
import Derived.Test.YtfbpjhhcpockfaaWords
import Derived.Test.YtfbpjhhcpockfaaFitPlain
set_option linter.unusedVariables false
set_option linter.unusedSimpArgs false
namespace Go.Proofs.Ytfbpjhhcpockfaa
open Go.RowKit

set_option maxHeartbeats 1000000 in
theorem fit_any (k : Int) (key : ByteArray) (l : Int) (v : ByteArray) (w : World) (hk0 : -9223372036854775808 ≤ k) (hk1 : k ≤ 9223372036854775807) (hk : key.size ≤ 140737488351232) (hv : v.size ≤ 140737488351232) :
    Calls Try.prog 25 #[.agg #[.int .i64 k, .string key, .int .i64 l, .string v]] w fun e w' => e = .returned (.agg #[.int .i64 (fitKind k), .string (fitKey key), .int .i64 (fitLabel k l), .string (fitValue k v)]) ∧ Below w.heap.size w w' := by
  go_enter Try.func25, Try.ntmps25
  go_wp2
  go_loop [5, 6] (fun n i => ∃ pos : Nat, pos ≤ key.size ∧ i = .int .i64 pos ∧ n = .int .i64 (sumB (key.data.toList.take pos) : Nat)) (fun _ i => key.size - (intOf i).toNat)
  case atStart => exact ⟨0, Nat.zero_le _, rfl, rfl⟩
  case round =>
    obtain ⟨pos, hp, rfl, rfl⟩ := hrel
    have hle := sumB_take_le key pos
    by_cases hlt : pos < key.size
    · have hs := Lib.hid (sumB_take_succ key pos hlt)
      have hb := key[pos].toNat_lt
      go_wp2
      go_round
      case rel => exact ⟨pos + 1, by omega, by go_num, by rw [hs.out]; go_num⟩
      case measure => simp [intOf]; omega
    · have he := Lib.hid (show key.data.toList.take pos = key.data.toList from List.take_of_length_le (by simp; omega))
      rw [he.out] at hle ⊢
      obtain ⟨n, hn⟩ : ∃ n, n = sumB key.data.toList := ⟨_, rfl⟩
      rw [← hn] at hle ⊢
      have HN := Lib.hid hn
      clear hn
      go_wp2
      go_loop [7, 8] (fun n i => ∃ pos : Nat, pos ≤ v.size ∧ i = .int .i64 pos ∧ n = .int .i64 (sumB (v.data.toList.take pos) : Nat)) (fun _ i => v.size - (intOf i).toNat)
      case atStart => exact ⟨0, Nat.zero_le _, rfl, rfl⟩
      case round =>
        obtain ⟨pos2, hp2, rfl, rfl⟩ := hrel
        have hle2 := sumB_take_le v pos2
        by_cases hlt2 : pos2 < v.size
        · have hs := Lib.hid (sumB_take_succ v pos2 hlt2)
          have hb := v[pos2].toNat_lt
          go_wp2
          go_round
          case rel => exact ⟨pos2 + 1, by omega, by go_num, by rw [hs.out]; go_num⟩
          case measure => simp [intOf]; omega
        · have he2 := Lib.hid (show v.data.toList.take pos2 = v.data.toList from List.take_of_length_le (by simp; omega))
          rw [he2.out] at hle2 ⊢
          obtain ⟨m, hm⟩ : ∃ m, m = sumB v.data.toList := ⟨_, rfl⟩
          rw [← hm] at hle2 ⊢
          have HM := Lib.hid hm
          clear hm
          obtain ⟨t1, t2, t3⟩ := tmod_range k 5 (by omega)
          have hl1 := and_one_i64 l
          have hn0 : (0 : Int) ≤ (n : Int) % 3 := by omega
          have hn1 : (n : Int) % 3 < 3 := by omega
          have hm0 : (0 : Int) ≤ (m : Int) % 4 := by omega
          have hm1 : (m : Int) % 4 < 4 := by omega
          have k3 := key3_at n
          have v4 := val4_at m
          by_cases hkind : 2 < 1 + k % 5
          · have H : Hid ((Value.agg #[.int .i64 (1 + k % 5), .string (key3 n), .int .i64 (l % 2), .string (val4 m)]) = .agg #[.int .i64 (fitKind k), .string (fitKey key), .int .i64 (fitLabel k l), .string (fitValue k v)]) := by
              have e : ¬ 1 + k % 5 ≤ 2 := by omega
              show _ = _
              simp only [fitKind, fitKey, fitLabel, fitValue, HN.out, HM.out, e, if_false]
            go_wp2
            go_region
            go_wp2
            refine bodyPost_ret (v := .agg #[.int .i64 (1 + k % 5), .string (key3 n), .int .i64 (l % 2), .string (val4 m)]) (by simp [results, Try.results25, go_sem]) rfl ⟨?_, (by (repeat (first | exact Below.refl _ _ | assumption | (refine Below.drew ?_) | (refine below_drewN ?_ _) | (refine Below.alloc ?_ (by first | omega | (simp; done) | (simp; omega)) _) | (refine Below.setCell ?_ (by first | omega | (simp; done) | (simp; omega)) _))))⟩
            rw [H.out]
          · have H : Hid ((Value.agg #[.int .i64 (1 + k % 5), .string (key3 n), .int .i64 0, .string ⟨#[]⟩]) = .agg #[.int .i64 (fitKind k), .string (fitKey key), .int .i64 (fitLabel k l), .string (fitValue k v)]) := by
              have e : 1 + k % 5 ≤ 2 := by omega
              show _ = _
              simp only [fitKind, fitKey, fitLabel, fitValue, HN.out, HM.out, e, if_true]
            go_wp2
            go_region
            go_wp2
            refine bodyPost_ret (v := .agg #[.int .i64 (1 + k % 5), .string (key3 n), .int .i64 0, .string ⟨#[]⟩]) (by simp [results, Try.results25, go_sem]) rfl ⟨?_, (by (repeat (first | exact Below.refl _ _ | assumption | (refine Below.drew ?_) | (refine below_drewN ?_ _) | (refine Below.alloc ?_ (by first | omega | (simp; done) | (simp; omega)) _) | (refine Below.setCell ?_ (by first | omega | (simp; done) | (simp; omega)) _))))⟩
            rw [H.out]
end Go.Proofs.Ytfbpjhhcpockfaa
