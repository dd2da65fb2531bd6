/- What the reference's Make gives of choices, in plain words, with its bounds; rows of choices that are read. No condition. -/
import Derived.Test.YtfbpjhhcpockfaaHeight
import Derived.Test.YtfbpjhhcpockfaaFitPlain
set_option linter.unusedVariables false
set_option linter.unusedSimpArgs false
namespace Go.Proofs.Ytfbpjhhcpockfaa
open Go.RowKit Go.Shelf Go.Maps

structure Cho where
  r : Nat
  f : Nat
  sync : Bool
  kind : Int
  key : ByteArray
  label : Int
  value : ByteArray
def Cho.cells (c : Cho) : List Value := [.int .u8 c.r, .int .u8 c.f, .bool c.sync, .int .i64 c.kind, .string c.key, .int .i64 c.label, .string c.value]
def Cho.fits (c : Cho) : Prop := c.r < 256 ∧ c.f < 256 ∧ -9223372036854775808 ≤ c.kind ∧ c.kind ≤ 9223372036854775807 ∧ c.key.size ≤ 140737488351232 ∧ -9223372036854775808 ≤ c.label ∧ c.label ≤ 9223372036854775807 ∧ c.value.size ≤ 140737488351232
def chCells (L : List Cho) : List Value := (L.map Cho.cells).flatten
def RdCh (w : World) (A : Option Addr) (n : Nat) (L : List Cho) : Prop := L.length = n ∧ Rd w A n 7 (chCells L)
theorem RdCh.below {w w1 : World} {A : Option Addr} {n : Nat} {L : List Cho} (h : RdCh w A n L) (hb : Below w.heap.size w w1) : RdCh w1 A n L := ⟨h.1, h.2.below hb⟩
theorem chCells_length (L : List Cho) : (chCells L).length = L.length * 7 := by
  induction L with
  | nil => rfl
  | cons x L ih => simp only [chCells, List.map_cons, List.flatten_cons, List.length_append, List.length_cons] at ih ⊢; rw [ih]; simp [Cho.cells]; omega
theorem chCells_append (L M : List Cho) : chCells (L ++ M) = chCells L ++ chCells M := by simp [chCells]
theorem chCells_at {L : List Cho} {j : Nat} {x : Cho} (hx : L[j]? = some x) (k : Nat) {u : Value} (hu : x.cells[k]? = some u) : (chCells L)[j * 7 + k]? = some u := by
  have hj := (List.getElem?_eq_some_iff.1 hx).1
  have hk := (List.getElem?_eq_some_iff.1 hu).1
  have e : L = L.take j ++ (x :: L.drop (j + 1)) := by
    have : L.drop j = x :: L.drop (j + 1) := by
      rw [List.drop_eq_getElem_cons hj]
      congr 1
      rw [List.getElem?_eq_getElem hj] at hx
      exact Option.some.inj hx
    rw [← this, List.take_append_drop]
  have hlen : (chCells (L.take j)).length = j * 7 := by rw [chCells_length, List.length_take, Nat.min_eq_left (Nat.le_of_lt hj)]
  rw [e, chCells_append, List.getElem?_append_right (by omega), hlen, show j * 7 + k - j * 7 = k by omega]
  have : chCells (x :: L.drop (j + 1)) = x.cells ++ chCells (L.drop (j + 1)) := by simp [chCells]
  rw [this, List.getElem?_append_left hk]
  exact hu
theorem RdCh.at_ {w : World} {A : Option Addr} {n : Nat} {L : List Cho} (h : RdCh w A n L) (j : Nat) (x : Cho) (hx : L[j]? = some x) :
    ∃ b o, A = some ⟨b, o, none⟩ ∧ b < w.heap.size ∧ ∀ k u, x.cells[k]? = some u → w.cell? ⟨b, o + j * 7 + k, none⟩ = some u := by
  have hne : chCells L ≠ [] := fun e => by have := chCells_at hx 0 rfl; rw [e] at this; simp at this
  obtain ⟨b, o, hA, hc⟩ := h.2.at_ hne
  have hcell : ∀ k u, x.cells[k]? = some u → w.cell? ⟨b, o + j * 7 + k, none⟩ = some u := fun k u hu => by
    have := hc _ u (chCells_at hx k hu)
    rwa [← Nat.add_assoc] at this
  exact ⟨b, o, hA, World.block_lt_of_cell? w _ (hcell 0 _ rfl), hcell⟩
theorem RdCh.take_ {w : World} {A : Option Addr} {n : Nat} {L : List Cho} (h : RdCh w A n L) (k : Nat) (hk : k ≤ n) : RdCh w A k (L.take k) := by
  refine ⟨by rw [List.length_take, h.1]; exact Nat.min_eq_left hk, ?_⟩
  have h2 := h.2.take_ k hk
  have e : (chCells L).take (k * 7) = chCells (L.take k) := by
    have hlen : (chCells (L.take k)).length = k * 7 := by rw [chCells_length, List.length_take, h.1, Nat.min_eq_left hk]
    have e2 : chCells L = chCells (L.take k) ++ chCells (L.drop k) := by rw [← chCells_append, List.take_append_drop]
    rw [e2, List.take_left' hlen]
  rwa [e] at h2

/-! The clocks of five replicas. -/
def hCells (H : Nat → Nat → Int) : List Value := (List.range 25).map fun i => .int .i64 (H (i / 5) (i % 5))
theorem hCells_at (H : Nat → Nat → Int) {q k : Nat} (hq : q < 5) (hk : k < 5) : (hCells H)[q * 5 + k]? = some (.int .i64 (H q k)) := by
  unfold hCells
  rw [List.getElem?_map, List.getElem?_range (by omega)]
  simp only [Option.map_some]
  rw [show (q * 5 + k) / 5 = q by omega, show (q * 5 + k) % 5 = k by omega]
theorem hCells_len (H : Nat → Nat → Int) : (hCells H).length = 25 := by simp [hCells]
theorem hCells_get (H : Nat → Nat → Int) (i : Nat) (h : i < (hCells H).length) : (hCells H)[i] = .int .i64 (H (i / 5) (i % 5)) := by simp [hCells]
theorem hCells_set (H H' : Nat → Nat → Int) {q k : Nat} (hq : q < 5) (hk : k < 5) (h : ∀ a b, a < 5 → b < 5 → H' a b = if a = q ∧ b = k then H' q k else H a b) : (hCells H).set (q * 5 + k) (.int .i64 (H' q k)) = hCells H' := by
  apply List.ext_getElem
  · simp [hCells]
  · intro i h1 h2
    have hi : i < 25 := by simpa [hCells] using h2
    have hh := h (i / 5) (i % 5) (by omega) (by omega)
    rw [List.getElem_set, hCells_get]
    split
    · rename_i e
      subst e
      rw [hCells_get, show (q * 5 + k) / 5 = q by omega, show (q * 5 + k) % 5 = k by omega]
    · rename_i e
      rw [hCells_get, hh, if_neg (by rintro ⟨h1, h2⟩; omega)]
def setRow (H : Nat → Nat → Int) (q : Nat) (g : Nat → Int) : Nat → Nat → Int := fun a => if a = q then g else H a
def setOne (H : Nat → Nat → Int) (q k : Nat) (v : Int) : Nat → Nat → Int := fun a b => if a = q ∧ b = k then v else H a b
theorem set_one (H : Nat → Nat → Int) {q k : Nat} (hq : q < 5) (hk : k < 5) (v : Int) : (hCells H).set (q * 5 + k) (.int .i64 v) = hCells (setOne H q k v) := by
  have e : setOne H q k v q k = v := by simp [setOne]
  have := hCells_set H (setOne H q k v) hq hk (fun a b _ _ => by rw [e]; rfl)
  rwa [e] at this
theorem hCells_congr {H H' : Nat → Nat → Int} (h : ∀ a b, a < 5 → b < 5 → H a b = H' a b) : hCells H = hCells H' := by
  unfold hCells
  refine List.map_congr_left fun i hi => ?_
  have : i < 25 := List.mem_range.1 hi
  rw [h _ _ (by omega) (by omega)]
theorem set_five (H : Nat → Nat → Int) {q : Nat} (hq : q < 5) (g : Nat → Int) :
    (((((hCells H).set (q * 5) (.int .i64 (g 0))).set (q * 5 + 1) (.int .i64 (g 1))).set (q * 5 + 2) (.int .i64 (g 2))).set (q * 5 + 3) (.int .i64 (g 3))).set (q * 5 + 4) (.int .i64 (g 4)) = hCells (setRow H q g) := by
  have e0 := set_one H hq (show 0 < 5 by decide) (g 0)
  rw [Nat.add_zero] at e0
  rw [e0, set_one _ hq (by decide), set_one _ hq (by decide), set_one _ hq (by decide), set_one _ hq (by decide)]
  refine hCells_congr fun a b ha hb => ?_
  unfold setRow setOne
  by_cases e : a = q
  · subst e
    rcases (show b = 0 ∨ b = 1 ∨ b = 2 ∨ b = 3 ∨ b = 4 by omega) with rfl | rfl | rfl | rfl | rfl <;> simp
  · simp [e]

/-! Make. -/
def evOf (out : List Ev) (H : Nat → Nat → Int) (q : Nat) (c : Cho) : Ev := ⟨q, H q q + 1, H q 0, H q 1, H q 2, H q 3, H q 4, heightR (H q) out, fitKind c.kind, fitKey c.key, fitLabel c.kind c.label, fitValue c.kind c.value⟩
def mkStep (s : List Ev × (Nat → Nat → Int)) (c : Cho) : List Ev × (Nat → Nat → Int) :=
  if c.sync = true then (s.1, setRow s.2 (c.r % 5) (joinF (s.2 (c.r % 5)) (s.2 (c.f % 5))))
  else (s.1 ++ [evOf s.1 s.2 (c.r % 5) c], setOne s.2 (c.r % 5) (c.r % 5) (s.2 (c.r % 5) (c.r % 5) + 1))
def mkS (L : List Cho) : List Ev × (Nat → Nat → Int) := L.foldl mkStep ([], fun _ _ => 0)
def mkL (L : List Cho) : List Ev := (mkS L).1
theorem mkS_append (L M : List Cho) : mkS (L ++ M) = M.foldl mkStep (mkS L) := by unfold mkS; rw [List.foldl_append]
theorem mkS_snoc {L : List Cho} {j : Nat} {x : Cho} (hx : L[j]? = some x) : mkS (L.take (j + 1)) = mkStep (mkS (L.take j)) x := by
  have e : L.take (j + 1) = L.take j ++ [x] := by
    obtain ⟨h1, h2⟩ := List.getElem?_eq_some_iff.1 hx
    rw [List.take_succ_eq_append_getElem h1, h2]
  rw [e, mkS_append]
  rfl
/-- What holds behind m choices. -/
structure MkOk (m : Nat) (s : List Ev × (Nat → Nat → Int)) : Prop where
  clock : ∀ a b, 0 ≤ s.2 a b ∧ s.2 a b ≤ m
  height : ∀ x ∈ s.1, 1 ≤ x.height ∧ x.height ≤ m
  len : s.1.length ≤ m
  ok : ∀ x ∈ s.1, x.ok
  rep : ∀ x ∈ s.1, 0 ≤ x.r ∧ x.r < 5
theorem MkOk.start : MkOk 0 ([], fun _ _ => 0) := ⟨fun _ _ => ⟨Int.le_refl _, Int.le_refl _⟩, by simp, Nat.le_refl _, by simp, by simp⟩
theorem fitKey_size (s : ByteArray) : (fitKey s).size ≤ maxLen := by
  unfold fitKey key3
  split <;> (try split) <;> decide
theorem fitValue_size (k : Int) (s : ByteArray) : (fitValue k s).size ≤ maxLen := by
  unfold fitValue val4
  split
  · decide
  · split <;> (try split) <;> (try split) <;> decide
theorem fitLabel_range (k l : Int) : 0 ≤ fitLabel k l ∧ fitLabel k l ≤ 1 := by unfold fitLabel; split <;> omega
theorem evOf_ok (out : List Ev) (H : Nat → Nat → Int) (q : Nat) (c : Cho) : (evOf out H q c).ok := by
  refine ⟨fitKey_size _, fitValue_size _ _, ?_⟩
  have := fitLabel_range c.kind c.label
  show (Lit.int .i64 (fitLabel c.kind c.label)).wf = true
  simp [Lit.wf, IntKind.min, IntKind.max, IntKind.signed, IntKind.bits]
  omega
theorem MkOk.step {m : Nat} {s : List Ev × (Nat → Nat → Int)} (h : MkOk m s) (c : Cho) : MkOk (m + 1) (mkStep s c) := by
  have hc : ∀ a b, 0 ≤ s.2 a b ∧ s.2 a b ≤ ((m + 1 : Nat) : Int) := fun a b => by have := h.clock a b; omega
  unfold mkStep
  split
  · refine ⟨fun a b => ?_, fun x hx => by have := h.height x hx; omega, Nat.le_succ_of_le h.len, h.ok, h.rep⟩
    dsimp only [setRow]
    split
    · unfold joinF
      split
      · exact hc _ _
      · exact hc _ _
    · exact hc _ _
  · refine ⟨fun a b => ?_, fun x hx => ?_, ?_, fun x hx => ?_, fun x hx => ?_⟩
    · dsimp only [setOne]
      split
      · have := h.clock (c.r % 5) (c.r % 5); omega
      · exact hc _ _
    · rcases List.mem_append.1 hx with h1 | h1
      · have := h.height x h1; omega
      · simp at h1
        subst h1
        have := heightR_bound (s.2 (c.r % 5)) (B := m) (by omega) s.1 (fun x hx => by have := h.height x hx; omega)
        show 1 ≤ heightR _ _ ∧ heightR _ _ ≤ _
        omega
    · have := h.len
      simp
      exact this
    · rcases List.mem_append.1 hx with h1 | h1
      · exact h.ok x h1
      · simp at h1; subst h1; exact evOf_ok _ _ _ _
    · rcases List.mem_append.1 hx with h1 | h1
      · exact h.rep x h1
      · simp at h1
        subst h1
        show (0 : Int) ≤ ((c.r % 5 : Nat) : Int) ∧ ((c.r % 5 : Nat) : Int) < 5
        omega
theorem mk_foldl : ∀ (L : List Cho) (m : Nat) (s : List Ev × (Nat → Nat → Int)), MkOk m s → MkOk (m + L.length) (L.foldl mkStep s)
  | [], m, s, h => h
  | c :: L, m, s, h => by
    have := mk_foldl L (m + 1) _ (h.step c)
    rw [List.length_cons, show m + (L.length + 1) = m + 1 + L.length by omega]
    exact this
theorem mk_ok (L : List Cho) : MkOk L.length (mkS L) := by
  have := mk_foldl L 0 _ MkOk.start
  rw [Nat.zero_add] at this
  exact this
end Go.Proofs.Ytfbpjhhcpockfaa
