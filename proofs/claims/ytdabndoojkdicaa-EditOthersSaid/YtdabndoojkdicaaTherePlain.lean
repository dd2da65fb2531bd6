/- The contacts that EditThere lays, and what Check is to say of them, in plain words. No condition. -/
import Derived.Test.YtdabndoojkdicaaCheck
import Derived.Test.YtdabndoojkdicaaTextMade
set_option linter.unusedVariables false
set_option linter.unusedSimpArgs false
namespace Go.Proofs.Ytdabndoojkdicaa
open Go.RowKit

/-- Another contact; another value. -/
def othKey (k : Nat) : ByteArray := strOfNums [122, 97 + (k : Int)]
def oth (k : Nat) : Con := ⟨othKey k, false, false, ⟨#[]⟩, ⟨#[]⟩, [], []⟩
def othCells (k : Nat) : List Value := (List.range k).flatMap fun j => [.string (othKey j), .bool false, .bool false, .string ⟨#[]⟩, .string ⟨#[]⟩, .slice none 0 0, .slice none 0 0]
def othVal (k : Nat) : ByteArray := strOfNums [61, 97 + (k : Int)]
/-- The contact itself, its set s at label l. -/
def mine (key : ByteArray) (l : Int) (s : List ByteArray) : Con := ⟨key, false, false, ⟨#[]⟩, ⟨#[]⟩, if l = 0 then s else [], if l = 0 then [] else s⟩
def setThere (m : Nat) (has : Bool) (v : ByteArray) : List ByteArray := (List.range m).map othVal ++ if has = true then [v] else []

theorem othCells_succ (k : Nat) : othCells (k + 1) = othCells k ++ [.string (othKey k), .bool false, .bool false, .string ⟨#[]⟩, .string ⟨#[]⟩, .slice none 0 0, .slice none 0 0] := by
  simp [othCells, List.range_succ]
theorem oth_cons (w : World) : ∀ k, Cons w (othCells k) ((List.range k).map oth)
  | 0 => .nil
  | k + 1 => by
    rw [othCells_succ, List.range_succ, List.map_append]
    exact (oth_cons w k).snoc ⟨none, 0, 0, none, 0, 0, rfl, Rd.nil _ _ _, Nat.le_refl _, Rd.nil _ _ _, Nat.le_refl _⟩
theorem strs_snoc (m : Nat) : strs ((List.range (m + 1)).map othVal) = strs ((List.range m).map othVal) ++ [.string (othVal m)] := by simp [strs, List.range_succ]
theorem set_length (m : Nat) (has : Bool) (v : ByteArray) : (setThere m has v).length = m + if has = true then 1 else 0 := by
  unfold setThere
  cases has <;> simp
theorem setOf_mine (key : ByteArray) (l : Int) (s : List ByteArray) : setOf (mine key l s) l = s := by
  unfold setOf mine
  by_cases h : l = 0 <;> simp [h]
theorem key3_oth (n k : Nat) : sameK (key3 n) (oth k) = false := by
  unfold sameK oth othKey key3
  dsimp only
  rw [Lib.toList_data, Lib.toList_data, strOfNums_data]
  split <;> try split
  all_goals simp <;> decide
theorem val4_oth (n k : Nat) : sameS (val4 n) (othVal k) = false := by
  unfold sameS othVal val4
  rw [Lib.toList_data, Lib.toList_data, strOfNums_data]
  split <;> try split <;> try split
  all_goals simp <;> decide
theorem fitKey_oth (key : ByteArray) (k : Nat) : sameK (fitKey key) (oth k) = false := key3_oth _ _
theorem fitValue_oth (k : Int) (v : ByteArray) (j : Nat) : sameS (fitValue k v) (othVal j) = false := by
  unfold fitValue
  split
  · unfold sameS othVal
    rw [Lib.toList_data, Lib.toList_data, strOfNums_data]
    simp
  · exact val4_oth _ _
theorem any_there {m : Nat} {has : Bool} {v : ByteArray} (h : ∀ j, sameS v (othVal j) = false) : (setThere m has v).any (sameS v) = has := by
  unfold setThere
  rw [List.any_append]
  have h1 : ((List.range m).map othVal).any (sameS v) = false := by
    rw [List.any_eq_false]
    intro s hs
    obtain ⟨j, _, rfl⟩ := List.mem_map.1 hs
    rw [h j]; decide
  rw [h1]
  cases has
  · rfl
  · simp [sameS]
theorem find_there {key : ByteArray} (h : ∀ j, sameK key (oth j) = false) (k : Nat) (M : List Con) : ((List.range k).map oth ++ M).find? (sameK key) = M.find? (sameK key) := by
  rw [List.find?_append]
  have h1 : ((List.range k).map oth).find? (sameK key) = none := by
    rw [List.find?_eq_none]
    intro c hc
    obtain ⟨j, _, rfl⟩ := List.mem_map.1 hc
    rw [h j]; decide
  rw [h1, Option.none_or]

section
variable {cL cP : Int} {k : Int} {key : ByteArray} {l : Int} {v : ByteArray} {o m : Nat} {has : Bool} (good : editE k key l v = 0) (hk : ∀ j, sameK key (oth j) = false) (hv : ∀ j, sameS v (othVal j) = false)
include good hk
theorem there_no : checkE cL cP ((List.range o).map oth) k key l v = if k = 1 then (if cL ≤ (o : Int) then 15 else 0) else 14 := by
  have h := find_there hk o []
  rw [List.append_nil] at h
  unfold checkE createE
  rw [if_neg (by simp [good]), h]
  simp
include hv
theorem there_yes : checkE cL cP ((List.range o).map oth ++ [mine key l (setThere m has v)]) k key l v =
    if k = 1 then 13 else if k = 4 ∧ cP ≤ ((m + if has = true then 1 else 0 : Nat) : Int) then 15 else if k = 5 ∧ has = false then 16 else 0 := by
  unfold checkE createE
  rw [if_neg (by simp [good]), find_there hk o _]
  have h1 : [mine key l (setThere m has v)].find? (sameK key) = some (mine key l (setThere m has v)) := by
    simp [List.find?_cons, sameK, mine]
  rw [h1]
  dsimp only
  rw [setOf_mine, any_there hv, set_length]
  simp
end
end Go.Proofs.Ytdabndoojkdicaa
