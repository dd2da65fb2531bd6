/- Plain facts on letters. No condition. -/
import Derived.Test.YtdabndoojkdicaaSlices
set_option linter.unusedVariables false
set_option linter.unusedSimpArgs false
namespace Go.Proofs.Ytdabndoojkdicaa

def lt26 (x : Int) : Int := 97 + x % 26
def made (ys : List Int) (k : Nat) : List Int := ys.mapIdx fun i x => if i < k then lt26 x else x
theorem made_length (ys : List Int) (k : Nat) : (made ys k).length = ys.length := by simp [made]
theorem made_zero (ys : List Int) : made ys 0 = ys := by
  apply List.ext_getElem?
  intro i
  simp [made]
theorem made_all (ys : List Int) (k : Nat) (h : ys.length ≤ k) : made ys k = ys.map lt26 := by
  apply List.ext_getElem?
  intro i
  simp only [made, List.getElem?_mapIdx, List.getElem?_map]
  by_cases hi : i < ys.length
  · rw [List.getElem?_eq_getElem hi]
    simp [show i < k by omega]
  · rw [List.getElem?_eq_none (by omega)]
    rfl
theorem made_at (ys : List Int) (k : Nat) (h : k < ys.length) : (nums .u8 (made ys k))[k]? = some (.int .u8 (ys.getD k 0)) := by
  simp [nums, made, List.getElem?_eq_getElem h, List.getD_eq_getElem?_getD]
theorem made_set (ys : List Int) (k : Nat) (h : k < ys.length) : (nums .u8 (made ys k)).set k (.int .u8 (97 + ys.getD k 0 % 26)) = nums .u8 (made ys (k + 1)) := by
  apply List.ext_getElem?
  intro i
  by_cases hik : i = k
  · subst hik
    rw [List.getElem?_set_self (by simp [nums, made, h])]
    simp [nums, made, List.getElem?_eq_getElem h, List.getD_eq_getElem?_getD, lt26]
  · rw [List.getElem?_set_ne (fun e => hik e.symm)]
    by_cases hi : i < ys.length
    · simp only [nums, made, List.getElem?_map, List.getElem?_mapIdx, List.getElem?_eq_getElem hi, Option.map_some]
      congr 2
      by_cases h1 : i < k
      · rw [if_pos h1, if_pos (by omega)]
      · rw [if_neg h1, if_neg (by omega)]
    · simp [nums, made, List.getElem?_eq_none (show ys.length ≤ i by omega)]
theorem byte_of (z : Int) (h0 : 0 ≤ z) (h1 : z ≤ 255) : byteB (UInt8.ofNat z.toNat) = (decide (97 ≤ z) && decide (z ≤ 122)) := by
  have : (UInt8.ofNat z.toNat).toNat = z.toNat := by
    rw [UInt8.toNat_ofNat']
    exact Nat.mod_eq_of_lt (by omega)
  unfold byteB
  rw [this, Bool.eq_iff_iff]
  simp
  omega
theorem keyE_of (zs : List Int) (h : ∀ z ∈ zs, 97 ≤ z ∧ z ≤ 122) : keyE (strOfNums zs) = if 1 ≤ zs.length ∧ zs.length ≤ 8 then 0 else 10 := by
  have ha : (strOfNums zs).data.toList.all byteB = true := by
    rw [strOfNums_data, List.all_map, List.all_eq_true]
    intro z hz
    obtain ⟨h1, h2⟩ := h z hz
    simp only [Function.comp]
    rw [byte_of z (by omega) (by omega)]
    simp [h1, h2]
  unfold keyE keyB
  rw [ha, strOfNums_size]
  by_cases h1 : 1 ≤ zs.length ∧ zs.length ≤ 8
  · rw [if_pos (by simp [h1]), if_pos h1]
  · rw [if_neg (by simpa using h1), if_neg h1]
theorem keyE_long (a : ByteArray) (zs : List Int) (h8 : a.size = 8) (hk : keyE a = 0) : keyE (a ++ strOfNums zs) = if zs.length = 0 then 0 else 10 := by
  by_cases h : zs.length = 0
  · have : zs = [] := List.eq_nil_of_length_eq_zero h
    subst this
    rw [if_pos h, show a ++ strOfNums [] = a from ?_]
    · exact hk
    · apply ByteArray.ext
      simp [strOfNums]
  · rw [if_neg h]
    apply keyE_bad_size
    rw [ByteArray.size_append, strOfNums_size]
    omega
theorem keyE_odd (zs : List Int) (h : ∀ z ∈ zs, 97 ≤ z ∧ z ≤ 122) (h1 : 1 ≤ zs.length) (h8 : zs.length ≤ 8) (p : Nat) (hp : p < zs.length) (odd : Int) (o0 : 0 ≤ odd) (o1 : odd ≤ 255) :
    keyE (strOfNums (zs.set p odd)) = if 97 ≤ odd ∧ odd ≤ 122 then 0 else 10 := by
  by_cases ho : 97 ≤ odd ∧ odd ≤ 122
  · rw [if_pos ho, keyE_of _ (fun z hz => ?_), if_pos (by simp; omega)]
    rcases List.mem_or_eq_of_mem_set hz with h2 | h2
    · exact h z h2
    · rw [h2]; exact ho
  · rw [if_neg ho]
    have hs : p < (strOfNums (zs.set p odd)).size := by rw [strOfNums_size]; simpa using hp
    refine keyE_bad hs ?_
    have e : (strOfNums (zs.set p odd))[p]'hs = UInt8.ofNat odd.toNat := by
      show (strOfNums (zs.set p odd)).data[p]'hs = _
      simp [strOfNums]
    rw [e, byte_of odd o0 o1]
    simp
    omega
end Go.Proofs.Ytdabndoojkdicaa
