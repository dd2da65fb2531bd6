/- What BookLists asks of the contacts of events, in plain Lean. No condition. -/
import Derived.Test.YtfbpjhhcpockfaaWrote
set_option linter.unusedVariables false
set_option linter.unusedSimpArgs false
namespace Go.Proofs.Ytfbpjhhcpockfaa
open Go.RowKit Go.Shelf Go.Maps

/-! A set's values rise. -/
theorem compactUpTo_lt (d : Array Str) (hs : ∀ i j, i ≤ j → j < d.size → leS d[i]! d[j]! = true) : ∀ m, m ≤ d.size → (Lib.compactUpTo d m).Pairwise (· < ·) ∧ ∀ s ∈ Lib.compactUpTo d m, leS s d[m - 1]! = true
  | 0, _ => by simp [Lib.compactUpTo]
  | m + 1, hm => by
    obtain ⟨h1, h2⟩ := compactUpTo_lt d hs m (by omega)
    rw [Lib.compactUpTo_succ]
    by_cases hk : Lib.keeps d m = true
    · rw [if_pos hk]
      refine ⟨List.pairwise_append.2 ⟨h1, by simp, fun a ha b hb => ?_⟩, fun s hs' => ?_⟩
      · simp at hb
        subst hb
        by_cases h0 : m = 0
        · subst h0; simp [Lib.compactUpTo] at ha
        · have ha' := h2 a ha
          have hne : d[m]! ≠ d[m - 1]! := by unfold Lib.keeps at hk; simp [h0] at hk; exact hk
          have hle := hs (m - 1) m (by omega) (by omega)
          unfold leS at ha' hle
          simp only [decide_eq_true_eq] at ha' hle
          rcases List.le_iff_lt_or_eq.1 hle with h | h
          · rcases List.le_iff_lt_or_eq.1 ha' with h' | h'
            · exact List.lt_trans h' h
            · rw [h']; exact h
          · exact absurd h.symm hne
      · rw [Nat.add_sub_cancel]
        rcases List.mem_append.1 hs' with h | h
        · by_cases h0 : m = 0
          · subst h0; simp [Lib.compactUpTo] at h
          · exact le_trans' _ _ _ (h2 s h) (hs (m - 1) m (by omega) (by omega))
        · simp at h; subst h; unfold leS; simp
    · rw [if_neg hk, List.append_nil]
      refine ⟨h1, fun s hs' => ?_⟩
      rw [Nat.add_sub_cancel]
      by_cases h0 : m = 0
      · subst h0; simp [Lib.compactUpTo] at hs'
      · exact le_trans' _ _ _ (h2 s hs') (hs (m - 1) m (by omega) (by omega))
theorem srt_lt (zs : List Str) : (srt zs).Pairwise (· < ·) := by
  unfold srt Lib.compact
  refine (compactUpTo_lt _ (fun i j hij hj => ?_) _ (by simp)).1
  have hp : (zs.mergeSort leS).Pairwise fun a b => leS a b = true := List.pairwise_mergeSort (fun a b c => le_trans' a b c) le_total _
  have hj' : j < (zs.mergeSort leS).length := by simpa using hj
  rw [getElem!_pos _ i (by simp at *; omega), getElem!_pos _ j (by simpa using hj)]
  simp only [List.getElem_toArray]
  rcases Nat.lt_or_eq_of_le hij with h | h
  · exact List.pairwise_iff_getElem.1 hp i j (by omega) hj' h
  · subst h; unfold leS; simp
theorem mem_srt {zs : List Str} {s : Str} (h : s ∈ srt zs) : s ∈ zs := by
  unfold srt Lib.compact Lib.compactUpTo at h
  obtain ⟨j, hj, rfl⟩ := List.mem_map.1 h
  have hj' : j < (zs.mergeSort leS).length := List.mem_range.1 (List.mem_filter.1 hj).1
  rw [getElem!_pos _ j (by simpa using hj')]
  simp only [List.getElem_toArray]
  exact (List.mergeSort_perm zs leS).mem_iff.1 (List.getElem_mem hj')
theorem rise_of {l : List Str} (h : l.Pairwise (· < ·)) {i : Nat} (hi : i + 1 < l.length) {a b : Str} (ha : l[i]? = some a) (hb : l[i + 1]? = some b) : a < b := by
  obtain ⟨h1, rfl⟩ := List.getElem?_eq_some_iff.1 ha
  obtain ⟨h2, rfl⟩ := List.getElem?_eq_some_iff.1 hb
  exact List.pairwise_iff_getElem.1 h i (i + 1) h1 h2 (by omega)

/-! What was written. -/
def evQ (kind : Int) (key : ByteArray) (label : Int) (value : ByteArray) : Ev := ⟨0, 0, 0, 0, 0, 0, 0, 0, kind, key, label, value⟩
theorem wrote_of {L : List Ev} {e x : Ev} (hx : x ∈ L) (hk : x.kind = e.kind) (hy : x.key.data.toList = e.key.data.toList) (h : e.kind = 1 ∨ x.label = e.label ∧ x.value.data.toList = e.value.data.toList) : L.any (wroteE e) = true := by
  refine List.any_eq_true.2 ⟨x, hx, ?_⟩
  unfold wroteE
  rw [data_toList, data_toList, data_toList, data_toList, hy, hk]
  rcases h with h | ⟨h1, h2⟩
  · simp [h]
  · simp [h1, h2]
theorem live_kind {L : List Ev} {e : Ev} (h : e ∈ liveL L) : e.kind = 1 := by
  have := (List.mem_filter.1 h).2
  unfold dead at this
  simp at this
  exact this.1
theorem count_kind {k : Int} {L : List Ev} {e : Ev} (h : e ∈ countL k L) : e.kind = k := by
  have := (List.mem_filter.1 h).2
  unfold idle at this
  simp at this
  exact this.1.1
theorem wrote_key {L : List Ev} {s : Str} (h : s ∈ keysL L) : L.any (wroteE (evQ 1 (ba s) 0 ⟨#[]⟩)) = true := by
  obtain ⟨e, he, hs⟩ := List.any_eq_true.1 ((mem_keysL L s).1 h)
  have hs' : e.k = s := by simpa using hs
  refine wrote_of (live_sub he) (live_kind he) ?_ (.inl rfl)
  rw [show (evQ 1 (ba s) 0 ⟨#[]⟩).key = ba s from rfl, of_ba]
  exact hs'
theorem mem_grp {L : List Ev} {s : Str} {l : Int} {e : Ev} (h : e ∈ grp L s l) : e ∈ L ∧ e.k = s ∧ e.label = l := by
  obtain ⟨h1, h2⟩ := List.mem_filter.1 h
  simp at h2
  exact ⟨h1, h2.1, h2.2⟩
theorem field_empty {L : List Ev} {s : Str} {l : Int} (h : hE L s l = false) : fE L s l = ⟨#[]⟩ := by unfold fE; rw [h]; simp
theorem wrote_field {L : List Ev} {s : Str} {l : Int} (h : hE L s l = true) : L.any (wroteE (evQ 3 (ba s) l (fE L s l))) = true := by
  have hne : grp (countL 3 L) s l ≠ [] := fun e => by unfold hE at h; rw [e] at h; simp at h
  obtain ⟨q, x, _, _, hx, hl⟩ := lastEv_some _ hne
  obtain ⟨h1, h2, h3⟩ := mem_grp (List.mem_of_getElem? hx)
  have hv : fE L s l = x.value := by unfold fE valOf; rw [if_pos h, hl]
  refine wrote_of (count_sub h1) (count_kind h1) ?_ (.inr ⟨h3, by rw [hv]; rfl⟩)
  rw [show (evQ 3 (ba s) l (fE L s l)).key = ba s from rfl, of_ba]
  exact h2
theorem wrote_value {L : List Ev} {s : Str} {l : Int} {x : Str} (h : x ∈ srt (vE L s l)) : L.any (wroteE (evQ 4 (ba s) l (ba x))) = true := by
  obtain ⟨e, he, rfl⟩ := List.mem_map.1 (mem_srt h)
  obtain ⟨h1, h2, h3⟩ := mem_grp he
  refine wrote_of (count_sub h1) (count_kind h1) ?_ (.inr ⟨h3, by rw [show ∀ a, (evQ 4 (ba s) l a).value = a from fun _ => rfl, of_ba]⟩)
  rw [show ∀ a, (evQ 4 (ba s) l a).key = ba s from fun _ => rfl, of_ba]
  exact h2

/-! How much there is. -/
theorem dedup_le : ∀ l : List Str, (dedup l).length ≤ l.length
  | [] => Nat.le_refl _
  | x :: l => by
    have := dedup_le l
    unfold dedup
    split <;> simp <;> omega
theorem keys_len (L : List Ev) : (keysL L).length ≤ (liveL L).length := by
  unfold keysL
  rw [List.length_mergeSort]
  exact Nat.le_trans (dedup_le _) (by simp)
theorem ofL_len (L : List Ev) : (ofL L).length = (keysL L).length := by unfold ofL; rw [List.length_map]
theorem of_le_size (L : List Ev) : (ofL L).length ≤ sizeL L := by
  have := keys_len L
  rw [ofL_len]
  unfold sizeL
  omega
theorem keyed_none {L : List Ev} (h : (ofL L).length = 0) (s : Str) : keyed (liveL L) s = false := by
  rw [ofL_len] at h
  have hn : keysL L = [] := List.length_eq_zero_iff.1 h
  cases hk : keyed (liveL L) s with
  | false => rfl
  | true => have := (mem_keysL L s).2 hk; rw [hn] at this; cases this
theorem size_zero {L : List Ev} (h : (ofL L).length = 0) : sizeL L = 0 := by
  have h1 : liveL L = [] := by
    cases e : liveL L with
    | nil => rfl
    | cons x r =>
      have := keyed_none h x.k
      rw [e] at this
      simp [keyed] at this
  have h2 : ∀ k, countL k L = [] := fun k => by
    cases e : countL k L with
    | nil => rfl
    | cons x r =>
      have := count_keyed (k := k) (L := L) (e := x) (by rw [e]; simp)
      rw [keyed_none h] at this
      cases this
  unfold sizeL
  rw [h1, h2, h2]
  rfl
theorem three_filters (p q r : Ev → Bool) : ∀ L : List Ev, (∀ e, p e = true → q e = false ∧ r e = false) → (∀ e, q e = true → r e = false) → (L.filter p).length + (L.filter q).length + (L.filter r).length ≤ L.length
  | [], _, _ => by simp
  | x :: L, h1, h2 => by
    have ih := three_filters p q r L h1 h2
    have a := h1 x
    have b := h2 x
    simp only [List.filter_cons]
    cases hp : p x <;> cases hq : q x <;> cases hr : r x <;> simp [hp, hq, hr] at a b ⊢ <;> omega
theorem sizeL_le (L : List Ev) : sizeL L ≤ L.length := by
  have e1 : ∀ (k : Int) (so : Ev → Ev → Bool), topL k so L (countL k L) = L.filter fun e => !idle k L e && !L.any (abv k so e) := fun k so => by
    unfold topL countL
    rw [List.filter_filter]
    congr 1
    funext e
    cases idle k L e <;> cases L.any (abv k so e) <;> rfl
  have e2 : ∀ k e, (!idle k L e) = true → e.kind = k := fun k e h => by
    unfold idle at h
    simp at h
    exact h.1.1
  have e3 : ∀ e, (!dead L e) = true → e.kind = 1 := fun e h => by
    unfold dead at h
    simp at h
    exact h.1
  unfold sizeL
  rw [e1, e1]
  refine three_filters _ _ _ L (fun e he => ?_) (fun e he => ?_)
  · have h1 := e3 e he
    constructor
    · cases h : (!idle 3 L e) with
      | false => rfl
      | true => have := e2 3 e h; omega
    · cases h : (!idle 4 L e) with
      | false => rfl
      | true => have := e2 4 e h; omega
  · have h1 : e.kind = 3 := e2 3 e (by simp at he ⊢; exact he.1)
    cases h : (!idle 4 L e) with
    | false => rfl
    | true => have := e2 4 e h; omega
/-! A contact by the number of a label. -/
def Ct.h (c : Ct) (l : Nat) : Bool := if l = 0 then c.h0 else c.h1
def Ct.f (c : Ct) (l : Nat) : ByteArray := if l = 0 then c.f0 else c.f1
def Ct.s (c : Ct) (l : Nat) : List Str := if l = 0 then c.s0 else c.s1
/-- What the law asks of a contact. -/
structure FairC (M : List Ev) (c : Ct) : Prop where
  key : M.any (wroteE (evQ 1 (ba c.key) 0 ⟨#[]⟩)) = true
  empty : ∀ l, l < 2 → c.h l = false → c.f l = ⟨#[]⟩
  field : ∀ l : Nat, l < 2 → c.h l = true → M.any (wroteE (evQ 3 (ba c.key) l (c.f l))) = true
  value : ∀ l : Nat, l < 2 → ∀ x ∈ c.s l, M.any (wroteE (evQ 4 (ba c.key) l (ba x))) = true
  rise : ∀ l, l < 2 → (c.s l).Pairwise (· < ·)
theorem fair_of {L : List Ev} {c : Ct} (h : c ∈ ofL L) : FairC L c := by
  obtain ⟨s, hs, rfl⟩ := List.mem_map.1 h
  have hh : ∀ l : Nat, l < 2 → (ctE L s).h l = hE L s l ∧ (ctE L s).f l = fE L s l ∧ (ctE L s).s l = srt (vE L s l) := fun l hl => by
    have : l = 0 ∨ l = 1 := by omega
    rcases this with rfl | rfl <;> exact ⟨rfl, rfl, rfl⟩
  refine ⟨wrote_key hs, fun l hl h => ?_, fun l hl h => ?_, fun l hl x hx => ?_, fun l hl => ?_⟩
  · rw [(hh l hl).1] at h; rw [(hh l hl).2.1]; exact field_empty h
  · rw [(hh l hl).1] at h; rw [(hh l hl).2.1]; exact wrote_field h
  · rw [(hh l hl).2.2] at hx; exact wrote_value hx
  · rw [(hh l hl).2.2]; exact srt_lt _
theorem key_rise {L : List Ev} {i : Nat} {c d : Ct} (hc : (ofL L)[i]? = some c) (hd : (ofL L)[i + 1]? = some d) : c.key < d.key := by
  have hk : (ofL L).map Ct.key = keysL L := by
    unfold ofL
    rw [List.map_map]
    exact List.map_id _
  have h1 := keysL_sorted L
  rw [← hk] at h1
  refine rise_of h1 (i := i) ?_ (by rw [List.getElem?_map, hc]; rfl) (by rw [List.getElem?_map, hd]; rfl)
  have := (List.getElem?_eq_some_iff.1 hd).1
  rw [List.length_map]
  exact this
theorem geq_false {a b : Str} (h : a < b) : Op.bytesLess (ba a).toList (ba b).toList = true := by
  rw [data_toList, data_toList, of_ba, of_ba, bl_eq]
  simpa using h
end Go.Proofs.Ytfbpjhhcpockfaa
