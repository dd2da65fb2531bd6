/- BookWrites: the plain law: which write is shown. No condition. -/
import Derived.Test.YtfbpjhhcpockfaaBookPlain
set_option linter.unusedVariables false
set_option linter.unusedSimpArgs false
namespace Go.Proofs.Ytfbpjhhcpockfaa
open Go.RowKit Go.Shelf Go.Maps

/-- The latest of some writes, one after the other. -/
def later (acc : Option Ev) (e : Ev) : Option Ev := match acc with
  | none => some e
  | some l => if lessS l.height l.r e.height e.r = true then some e else some l
theorem stOf_at {L : List Ev} {q : Nat} {l : Ev} (h : L[q]? = some l) : (stOf L)[q]? = some (l.height, l.r) := by unfold stOf; rw [List.getElem?_map, h]; rfl
theorem lastUpTo_fold (L : List Ev) : ∀ i, i ≤ L.length → (lastUpTo (stOf L) i < 0 → (L.take i).foldl later none = none) ∧ (0 ≤ lastUpTo (stOf L) i → (L.take i).foldl later none = L[(lastUpTo (stOf L) i).toNat]?)
  | 0, _ => by simp [lastUpTo]
  | i + 1, h => by
    obtain ⟨h1, h2⟩ := lastUpTo_fold L i (by omega)
    have hx : L[i]? = some L[i] := List.getElem?_eq_getElem (by omega)
    have hs : (stOf L)[i]? = some (L[i].height, L[i].r) := stOf_at hx
    have hr := lastUpTo_range (stOf L) i
    rw [take_snoc hx, List.foldl_append]
    simp only [List.foldl_cons, List.foldl_nil]
    unfold lastUpTo
    rw [hs]
    dsimp only
    by_cases hn : lastUpTo (stOf L) i < 0
    · rw [h1 hn, if_pos (.inl hn)]
      refine ⟨fun h => by omega, fun _ => ?_⟩
      show some L[i] = _
      rw [Int.toNat_natCast, hx]
    · have hq : (lastUpTo (stOf L) i).toNat < L.length := by have := hr.2.2 (by omega); simpa [stOf] using this
      obtain ⟨l, hl⟩ : ∃ l, L[(lastUpTo (stOf L) i).toNat]? = some l := ⟨L[(lastUpTo (stOf L) i).toNat], List.getElem?_eq_getElem hq⟩
      have hl2 : (stOf L)[(lastUpTo (stOf L) i).toNat]? = some (l.height, l.r) := stOf_at hl
      rw [h2 (by omega), hl]
      have hla : laterAt (stOf L) (lastUpTo (stOf L) i) (L[i].height, L[i].r) = lessS l.height l.r L[i].height L[i].r := by unfold laterAt ltS; rw [hl2]
      rw [hla]
      by_cases hlt : lessS l.height l.r L[i].height L[i].r = true
      · rw [if_pos (.inr hlt)]
        refine ⟨fun h => by omega, fun _ => ?_⟩
        show later (some l) L[i] = _
        unfold later
        dsimp only
        rw [if_pos hlt, Int.toNat_natCast, hx]
      · rw [if_neg (by simp [hn, hlt])]
        refine ⟨fun h => absurd h hn, fun _ => ?_⟩
        show later (some l) L[i] = _
        unfold later
        dsimp only
        rw [if_neg hlt, hl]
theorem lastEv_fold (L : List Ev) (hne : L ≠ []) : lastEv L = L.foldl later none := by
  obtain ⟨q, x, hq, hql, hx, hl⟩ := lastEv_some L hne
  have hlen : (stOf L).length = L.length := by simp [stOf]
  obtain ⟨_, h2⟩ := lastUpTo_fold L L.length (Nat.le_refl _)
  have hq' : lastUpTo (stOf L) L.length = q := by rw [← hlen]; exact hq
  rw [List.take_length] at h2
  rw [h2 (by omega), hl, hq', Int.toNat_natCast, hx]
/-- The k-th write of replica r. -/
def evW (r k : Nat) : Ev := ⟨r, if r = 0 then k + 2 else k + 1, if r = 0 then k + 1 else 1, if r = 1 then k else 0, if r = 2 then k else 0, if r = 3 then k else 0, if r = 4 then k else 0, k + 2, 3, cyB, 0, ⟨#[UInt8.ofNat (97 + r), UInt8.ofNat (48 + k)]⟩⟩
def blockW (r m : Nat) : List Ev := (List.range m).map (evW r)
def setsW (many : Nat → Nat) : Nat → List Ev
  | 0 => []
  | j + 1 => setsW many j ++ blockW j (many j)
/-- Who is highest so far (-1: nobody), and how high. -/
def bestW (many : Nat → Nat) : Nat → Int × Nat
  | 0 => (-1, 0)
  | j + 1 => if (bestW many j).2 ≤ many j ∧ 0 < many j then ((j : Int), many j) else bestW many j
theorem bestW_range (many : Nat → Nat) : ∀ j, ((bestW many j).1 = -1 ∧ (bestW many j).2 = 0) ∨ (0 ≤ (bestW many j).1 ∧ (bestW many j).1 < j ∧ 0 < (bestW many j).2 ∧ ∃ i, i < j ∧ (bestW many j).2 = many i ∧ (bestW many j).1 = (i : Int))
  | 0 => .inl ⟨rfl, rfl⟩
  | j + 1 => by
    unfold bestW
    split
    · rename_i h
      exact .inr ⟨by dsimp only; omega, by dsimp only; omega, h.2, j, by omega, rfl, rfl⟩
    · rcases bestW_range many j with h | ⟨h1, h2, h3, i, h4, h5, h6⟩
      · exact .inl h
      · exact .inr ⟨h1, by omega, h3, i, by omega, h5, h6⟩
def accW (b : Int × Nat) : Option Ev := if b.1 < 0 then none else some (evW b.1.toNat (b.2 - 1))
theorem block_fold (r : Nat) (b : Int × Nat) (hb : (b.1 = -1 ∧ b.2 = 0) ∨ (0 ≤ b.1 ∧ b.1 < r ∧ 0 < b.2)) : ∀ m, (blockW r m).foldl later (accW b) = if b.2 ≤ m ∧ 0 < m then some (evW r (m - 1)) else accW b
  | 0 => by simp [blockW]
  | m + 1 => by
    have ih := block_fold r b hb m
    have e : blockW r (m + 1) = blockW r m ++ [evW r m] := by unfold blockW; rw [List.range_succ, List.map_append]; rfl
    rw [e, List.foldl_append, ih]
    simp only [List.foldl_cons, List.foldl_nil]
    by_cases h : b.2 ≤ m ∧ 0 < m
    · rw [if_pos h, if_pos (by omega)]
      show later (some (evW r (m - 1))) (evW r m) = _
      unfold later lessS evW
      simp
      omega
    · rw [if_neg h]
      rcases hb with ⟨h1, h2⟩ | ⟨h1, h2, h3⟩
      · have e1 : accW b = none := by unfold accW; rw [if_pos (by omega)]
        rw [e1, if_pos (by omega)]
        rfl
      · have e1 : accW b = some (evW b.1.toNat (b.2 - 1)) := by unfold accW; rw [if_neg (by omega)]
        rw [e1]
        show later (some (evW b.1.toNat (b.2 - 1))) (evW r m) = _
        have hle : lessS (evW b.1.toNat (b.2 - 1)).height (evW b.1.toNat (b.2 - 1)).r (evW r m).height (evW r m).r = decide (b.2 ≤ m + 1) := by
          unfold lessS evW
          simp only [decide_eq_decide]
          omega
        unfold later
        dsimp only
        rw [hle]
        by_cases h4 : b.2 ≤ m + 1
        · rw [if_pos (by simpa using h4), if_pos (by omega)]; simp
        · rw [if_neg (by simpa using h4), if_neg (by omega)]
theorem sets_fold (many : Nat → Nat) : ∀ j, (setsW many j).foldl later none = accW (bestW many j)
  | 0 => rfl
  | j + 1 => by
    unfold setsW
    rw [List.foldl_append, sets_fold many j, block_fold j (bestW many j) (by
      rcases bestW_range many j with h | ⟨h1, h2, h3, _⟩
      · exact .inl h
      · exact .inr ⟨h1, h2, h3⟩) (many j)]
    have hbs : bestW many (j + 1) = if (bestW many j).2 ≤ many j ∧ 0 < many j then ((j : Int), many j) else bestW many j := rfl
    rw [hbs]
    by_cases h : (bestW many j).2 ≤ many j ∧ 0 < many j
    · rw [if_pos h, if_pos h]
      unfold accW
      rw [if_neg (by simp)]
      simp
    · rw [if_neg h, if_neg h]
def listW (many : Nat → Nat) (j : Nat) : List Ev := one1 :: setsW many j
theorem mem_sets {many : Nat → Nat} {e : Ev} : ∀ j, e ∈ setsW many j → ∃ r k, r < j ∧ k < many r ∧ e = evW r k
  | 0, h => by simp [setsW] at h
  | j + 1, h => by
    unfold setsW at h
    rcases List.mem_append.1 h with h | h
    · obtain ⟨r, k, h1, h2, h3⟩ := mem_sets j h
      exact ⟨r, k, by omega, h2, h3⟩
    · unfold blockW at h
      obtain ⟨k, hk, rfl⟩ := List.mem_map.1 h
      exact ⟨j, k, by omega, List.mem_range.1 hk, rfl⟩
theorem evW_kind (r k : Nat) : (evW r k).kind = 3 ∧ (evW r k).k = cyK ∧ (evW r k).label = 0 := ⟨rfl, rfl, rfl⟩
theorem one1_below (r k : Nat) : one1.below (evW r k) = true := by
  unfold Ev.below hasB pickC one1 evW
  simp
  split <;> omega
theorem live_W (many : Nat → Nat) (j : Nat) : liveL (listW many j) = [one1] := by
  rw [live_k]
  have hnd : ∀ e ∈ listW many j, e.kind ≠ 2 := by
    intro e he
    rcases List.mem_cons.1 he with rfl | he
    · decide
    · obtain ⟨r, k, _, _, rfl⟩ := mem_sets j he
      intro h
      have : (3 : Int) = 2 := h
      omega
  have hany : ∀ e : Ev, ((listW many j).any fun x => (x.kind == 2) && (e.k == x.k) && e.below x) = false := by
    intro e
    rw [List.any_eq_false]
    intro x hx
    have := hnd x hx
    simp [this]
  have hd : ∀ e, deadK (listW many j) e = (e.kind != 1) := fun e => by unfold deadK; rw [hany]; simp
  unfold liveK
  simp only [hd]
  unfold listW
  have h1 : (one1.kind != 1) = false := rfl
  rw [List.filter_cons, if_pos (by rw [h1]; rfl)]
  congr 1
  rw [List.filter_eq_nil_iff]
  intro e he
  obtain ⟨r, k, _, _, rfl⟩ := mem_sets j he
  have : ((evW r k).kind != 1) = true := rfl
  rw [this]; simp
theorem count_W (many : Nat → Nat) (j : Nat) : countL 3 (listW many j) = setsW many j ∧ countL 4 (listW many j) = [] := by
  have hl : liveK (listW many j) = [one1] := by rw [← live_k]; exact live_W many j
  constructor
  · rw [count_k]
    unfold countK listW
    have h1 : idleK 3 (one1 :: setsW many j) one1 = true := rfl
    rw [List.filter_cons, if_neg (by rw [h1]; decide), List.filter_eq_self]
    intro e he
    obtain ⟨r, k, _, _, rfl⟩ := mem_sets j he
    have hl' : liveK (one1 :: setsW many j) = [one1] := hl
    have hb := one1_below r k
    have hk : (one1.k == (evW r k).k) = true := rfl
    have h3 : ((evW r k).kind != 3) = false := rfl
    have e : idleK 3 (one1 :: setsW many j) (evW r k) = false := by
      unfold idleK
      rw [hl', h3]
      simp only [List.any_cons, List.any_nil, hk, hb]
      rfl
    rw [e]; rfl
  · rw [count_k]
    unfold countK
    rw [List.filter_eq_nil_iff]
    intro e he
    have : (e.kind != 4) = true := by
      rcases List.mem_cons.1 he with rfl | he
      · rfl
      · obtain ⟨r, k, _, _, rfl⟩ := mem_sets j he
        rfl
    unfold idleK
    simp [this]
theorem grp_W (many : Nat → Nat) (j : Nat) : grp (setsW many j) cyK 0 = setsW many j := by
  unfold grp
  rw [List.filter_eq_self]
  intro e he
  obtain ⟨r, k, _, _, rfl⟩ := mem_sets j he
  rfl
theorem ofL_W (many : Nat → Nat) (j : Nat) : ∃ c, ofL (listW many j) = [c] ∧ c.h0 = !(setsW many j).isEmpty ∧ (setsW many j ≠ [] → c.f0 = valOf (setsW many j)) := by
  refine ⟨ctE (listW many j) cyK, ?_, ?_, ?_⟩
  · unfold ofL keysL
    rw [live_W]
    have hk : one1.k = cyK := rfl
    simp [dedup, hk]
  · unfold ctE hE
    dsimp only
    rw [(count_W many j).1, grp_W]
  · intro hne
    unfold ctE fE hE
    dsimp only
    rw [(count_W many j).1, grp_W, if_pos]
    simpa using hne
/-- What the law asks of the contact. -/
theorem shown_W (many : Nat → Nat) (j : Nat) : ∃ c, ofL (listW many j) = [c] ∧ ((bestW many j).1 < 0 → c.h0 = false) ∧ (0 ≤ (bestW many j).1 → c.f0 = (evW (bestW many j).1.toNat ((bestW many j).2 - 1)).value) := by
  obtain ⟨c, h1, h2, h3⟩ := ofL_W many j
  have hf := sets_fold many j
  refine ⟨c, h1, fun hb => ?_, fun hb => ?_⟩
  · have e : accW (bestW many j) = none := by unfold accW; rw [if_pos hb]
    rw [e] at hf
    have : setsW many j = [] := by
      rcases hh : setsW many j with _ | ⟨x, r⟩
      · rfl
      · exfalso
        have hne : setsW many j ≠ [] := by rw [hh]; simp
        rw [← lastEv_fold _ hne] at hf
        obtain ⟨q, y, _, _, _, hl⟩ := lastEv_some _ hne
        rw [hl] at hf
        cases hf
    rw [h2, this]; rfl
  · have e : accW (bestW many j) = some (evW (bestW many j).1.toNat ((bestW many j).2 - 1)) := by unfold accW; rw [if_neg (by omega)]
    rw [e] at hf
    have hne : setsW many j ≠ [] := by
      intro h0
      rw [h0] at hf
      cases hf
    rw [h3 hne]
    unfold valOf
    rw [lastEv_fold _ hne, hf]
end Go.Proofs.Ytfbpjhhcpockfaa
