/- The contacts that EditOthers lays, and what Check is to say of them, in plain words. No condition. -/
import Derived.Test.YtdabndoojkdicaaTherePlain
set_option linter.unusedVariables false
set_option linter.unusedSimpArgs false
namespace Go.Proofs.Ytdabndoojkdicaa
open Go.RowKit

def dash (s : ByteArray) : ByteArray := ⟨#[45]⟩ ++ s
/-- A contact of another key. -/
def minus (c : Con) : Con := { c with key := dash c.key }
/-- The set of the last one of the first k. -/
def lastSet (L : List Con) (l : Int) (k : Nat) : List ByteArray := match k with | 0 => [] | k + 1 => (L[k]?).elim [] fun c => setOf c l
/-- The contact whose other set, and fields, are filled. -/
def fullCon (key : ByteArray) (l : Int) (s o : List ByteArray) : Con := ⟨key, true, true, ⟨#[]⟩, ⟨#[]⟩, if l = 0 then s else o, if l = 0 then o else s⟩

theorem setOf_full (key : ByteArray) (l : Int) (s o : List ByteArray) : setOf (fullCon key l s o) l = s := by
  unfold setOf fullCon
  by_cases h : l = 0 <;> simp [h]
theorem key3_minus (n : Nat) (c : Con) : sameK (key3 n) (minus c) = false := by
  unfold sameK minus dash key3
  dsimp only
  rw [Lib.toList_data, Lib.toList_data]
  split <;> try split
  all_goals simp
theorem fitKey_minus (key : ByteArray) (c : Con) : sameK (fitKey key) (minus c) = false := key3_minus _ _
theorem find_minus {key : ByteArray} (h : ∀ c, sameK key (minus c) = false) (L M : List Con) : (L.map minus ++ M).find? (sameK key) = M.find? (sameK key) := by
  rw [List.find?_append]
  have h1 : (L.map minus).find? (sameK key) = none := by
    rw [List.find?_eq_none]
    intro c hc
    obtain ⟨j, _, rfl⟩ := List.mem_map.1 hc
    rw [h j]; decide
  rw [h1, Option.none_or]
section
variable {cL cP : Int} {k : Int} {key : ByteArray} {l : Int} {v : ByteArray} (good : editE k key l v = 0) (hk : ∀ c, sameK key (minus c) = false)
include good hk
theorem others_with (L : List Con) (s : List ByteArray) : checkE cL cP (L.map minus ++ [mine key l s]) k key l v = checkE cL cP [mine key l s] k key l v := by
  unfold checkE createE
  have hg : ¬ (editE k key l v ≠ 0) := by simp [good]
  simp only [if_neg hg]
  rw [find_minus hk]
  have h1 : [mine key l s].find? (sameK key) = some (mine key l s) := by simp [List.find?_cons, sameK, mine]
  rw [h1]
  simp
omit hk in
theorem others_full (s o : List ByteArray) : checkE cL cP [fullCon key l s o] k key l v = checkE cL cP [mine key l s] k key l v := by
  unfold checkE createE
  have hg : ¬ (editE k key l v ≠ 0) := by simp [good]
  simp only [if_neg hg]
  have h1 : [mine key l s].find? (sameK key) = some (mine key l s) := by simp [List.find?_cons, sameK, mine]
  have h2 : [fullCon key l s o].find? (sameK key) = some (fullCon key l s o) := by simp [List.find?_cons, sameK, fullCon]
  rw [h1, h2]
  simp only [setOf_mine, setOf_full]
  simp
theorem others_none (L : List Con) (h1 : k ≠ 1) : checkE cL cP (L.map minus) k key l v = 14 := by
  have h2 := find_minus hk L []
  rw [List.append_nil] at h2
  unfold checkE
  rw [if_neg (by simp [good]), h2]
  simp [h1]
end
end Go.Proofs.Ytdabndoojkdicaa
