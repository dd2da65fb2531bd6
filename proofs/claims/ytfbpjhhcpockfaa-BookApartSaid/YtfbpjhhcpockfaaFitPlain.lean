/- What 'Fit' makes of an edit, in plain words, with its arithmetic. No condition. -/
import GoSem.Core.Value
set_option linter.unusedVariables false
set_option linter.unusedSimpArgs false
namespace Go.Proofs.Ytfbpjhhcpockfaa
open Go

/-! 'Fit' of an edit, in plain words. -/
def sumB (l : List UInt8) : Nat := (l.map (·.toNat)).sum
def fitKind (k : Int) : Int := 1 + k % 5
def key3 (n : Nat) : ByteArray := if n % 3 = 0 then ⟨#[97, 110, 110]⟩ else if n % 3 = 1 then ⟨#[98, 111, 98]⟩ else ⟨#[99, 121]⟩
def val4 (n : Nat) : ByteArray := if n % 4 = 0 then ⟨#[49]⟩ else if n % 4 = 1 then ⟨#[116, 119, 111]⟩ else if n % 4 = 2 then ⟨#[0, 255]⟩ else ⟨#[116, 119, 101, 108, 118, 101, 32, 98, 121, 116, 101, 115]⟩
def fitKey (key : ByteArray) : ByteArray := key3 (sumB key.data.toList)
def fitLabel (k l : Int) : Int := if fitKind k ≤ 2 then 0 else l % 2
def fitValue (k : Int) (v : ByteArray) : ByteArray := if fitKind k ≤ 2 then ⟨#[]⟩ else val4 (sumB v.data.toList)
theorem sumB_take_succ (s : ByteArray) (k : Nat) (h : k < s.size) : sumB (s.data.toList.take (k + 1)) = sumB (s.data.toList.take k) + s[k].toNat := by
  have hk : k < s.data.toList.length := by simpa using h
  unfold sumB
  rw [List.take_succ_eq_append_getElem hk, List.map_append, List.sum_append]
  simp
  rfl
theorem sumB_le (l : List UInt8) : sumB l ≤ 255 * l.length := by
  unfold sumB
  induction l with
  | nil => simp
  | cons c l ih => have := c.toNat_lt; simp only [List.map_cons, List.sum_cons, List.length_cons]; omega
theorem sumB_take_le (s : ByteArray) (k : Nat) : sumB (s.data.toList.take k) ≤ 255 * s.size := by
  have h1 := sumB_le (s.data.toList.take k)
  have h2 : (s.data.toList.take k).length ≤ s.size := by rw [List.length_take]; simp; omega
  omega
theorem fitKind_range (k : Int) : 1 ≤ fitKind k ∧ fitKind k ≤ 5 := by unfold fitKind; omega
theorem tmod_range (k n : Int) (hn : 0 < n) : -n < k.tmod n ∧ k.tmod n < n ∧ (k.tmod n + n) % n = k % n := by
  by_cases h : 0 ≤ k
  · rw [Int.tmod_eq_emod_of_nonneg h]
    have h1 := Int.emod_nonneg k (show n ≠ 0 by omega)
    have h2 := Int.emod_lt_of_pos k hn
    refine ⟨by omega, h2, ?_⟩
    rw [Int.add_emod_right, Int.emod_emod_of_dvd _ (Int.dvd_refl n)]
  · have e : k.tmod n = -((-k) % n) := by
      have : k = -(-k) := by omega
      rw [this, Int.neg_tmod, Int.tmod_eq_emod_of_nonneg (by omega)]
      simp
    have h1 := Int.emod_nonneg (-k) (show n ≠ 0 by omega)
    have h2 := Int.emod_lt_of_pos (-k) hn
    rw [e]
    refine ⟨by omega, by omega, ?_⟩
    rw [Int.add_emod_right]
    have h3 := Int.mul_ediv_add_emod (-k) n
    have h4 : -((-k) % n) = k + n * ((-k) / n) := by omega
    rw [h4, Int.add_mul_emod_self_left]
theorem fitKind_walk (k : Int) : 1 + (k.tmod 5 + 5).tmod 5 = fitKind k := by
  unfold fitKind
  obtain ⟨h1, h2, h3⟩ := tmod_range k 5 (by omega)
  rw [Int.tmod_eq_emod_of_nonneg (by omega), h3]
theorem key3_at (n : Nat) : (#[Value.string ⟨#[97, 110, 110]⟩, .string ⟨#[98, 111, 98]⟩, .string ⟨#[99, 121]⟩] : Array Value)[n % 3]? = some (.string (key3 n)) := by
  unfold key3
  have h : n % 3 = 0 ∨ n % 3 = 1 ∨ n % 3 = 2 := by omega
  rcases h with h | h | h <;> simp [h]
theorem val4_at (n : Nat) : (#[Value.string ⟨#[49]⟩, .string ⟨#[116, 119, 111]⟩, .string ⟨#[0, 255]⟩, .string ⟨#[116, 119, 101, 108, 118, 101, 32, 98, 121, 116, 101, 115]⟩] : Array Value)[n % 4]? = some (.string (val4 n)) := by
  unfold val4
  have h : n % 4 = 0 ∨ n % 4 = 1 ∨ n % 4 = 2 ∨ n % 4 = 3 := by omega
  rcases h with h | h | h | h <;> simp [h]
end Go.Proofs.Ytfbpjhhcpockfaa
