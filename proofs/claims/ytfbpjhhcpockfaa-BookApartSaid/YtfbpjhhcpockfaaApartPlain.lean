/- What events come to key by key, in plain Lean: of those of some keys alone it is what it is of all, of these keys. No condition. -/
import Derived.Test.YtfbpjhhcpockfaaListsPlain
import Derived.Test.YtfbpjhhcpockfaaWithout
set_option linter.unusedVariables false
set_option linter.unusedSimpArgs false
namespace Go.Proofs.Ytfbpjhhcpockfaa
open Go.RowKit Go.Shelf Go.Maps
def sub (P : Str → Bool) (L : List Ev) : List Ev := L.filter fun e => P e.k
variable {P : Str → Bool}
theorem any_sub {p : Ev → Bool} (h : ∀ x, p x = true → P x.k = true) (L : List Ev) : (sub P L).any p = L.any p := by
  unfold sub
  induction L with
  | nil => rfl
  | cons x L ih =>
    rw [List.filter_cons]
    cases hx : p x with
    | true => rw [if_pos (h x hx)]; simp [hx]
    | false =>
      split
      · rw [List.any_cons, ih, List.any_cons]
      · rw [ih, List.any_cons, hx, Bool.false_or]
theorem sub_filter {p q : Ev → Bool} (L : List Ev) (h : ∀ e, P e.k = true → p e = q e) : (sub P L).filter p = sub P (L.filter q) := by
  unfold sub
  rw [List.filter_filter, List.filter_filter]
  refine List.filter_congr fun e _ => ?_
  cases hp : P e.k with
  | true => rw [h e hp]; simp
  | false => simp
theorem key_k {a b : Ev} (h : a.sameKey b = true) : a.k = b.k := by
  unfold Ev.sameKey at h
  rw [data_toList, data_toList] at h
  simpa using h
theorem label_key {a b : Ev} (h : a.sameLabel b = true) : a.sameKey b = true := by unfold Ev.sameLabel at h; simp at h; exact h.1
theorem value_key {a b : Ev} (h : a.sameValue b = true) : a.sameKey b = true := by unfold Ev.sameValue at h; simp at h; exact label_key h.1
theorem abv_sub {so : Ev → Ev → Bool} (hso : ∀ a b, so a b = true → a.k = b.k) (kind : Int) {e : Ev} (he : P e.k = true) (L : List Ev) : (sub P L).any (abv kind so e) = L.any (abv kind so e) := by
  refine any_sub (fun x hx => ?_) L
  unfold abv at hx
  simp at hx
  rw [← hso e x hx.1.2]
  exact he
theorem live_of_sub (L : List Ev) : liveL (sub P L) = sub P (liveL L) := by
  unfold liveL
  refine sub_filter L fun e he => ?_
  unfold dead
  rw [abv_sub (fun a b h => key_k h) 2 he]
theorem count_of_sub (k : Int) (L : List Ev) : countL k (sub P L) = sub P (countL k L) := by
  unfold countL
  refine sub_filter L fun e he => ?_
  unfold idle
  rw [abv_sub (fun a b h => key_k (value_key h)) 5 he, live_of_sub, any_sub (P := P) (fun x hx => by
    unfold under at hx
    simp at hx
    rw [key_k hx.1]
    exact he)]
theorem top_of_sub {so : Ev → Ev → Bool} (hso : ∀ a b, so a b = true → a.k = b.k) (k : Int) (L M : List Ev) : topL k so (sub P L) (sub P M) = sub P (topL k so L M) := by
  unfold topL
  refine sub_filter M fun e he => ?_
  rw [abv_sub hso k he]
theorem split_len {α : Type} (p : α → Bool) : ∀ L : List α, (L.filter p).length + (L.filter fun x => !p x).length = L.length
  | [] => rfl
  | x :: L => by
    have := split_len p L
    simp only [List.filter_cons, List.length_cons]
    cases p x <;> simp <;> omega
def ownE (s : Str) (L : List Ev) : List Ev := sub (fun x => x == s) L
def oth (s : Str) (L : List Ev) : List Ev := sub (fun x => !(x == s)) L
theorem sub_len (s : Str) (L : List Ev) : (sub (fun x => x == s) L).length + (sub (fun x => !(x == s)) L).length = L.length := split_len (fun e : Ev => e.k == s) L
theorem size_split (s : Str) (L : List Ev) : sizeL L = sizeL (ownE s L) + sizeL (oth s L) := by
  unfold sizeL ownE oth
  rw [live_of_sub, live_of_sub, count_of_sub, count_of_sub, count_of_sub, count_of_sub, top_of_sub (fun a b h => key_k (label_key h)), top_of_sub (fun a b h => key_k (label_key h)), top_of_sub (fun a b h => key_k (value_key h)), top_of_sub (fun a b h => key_k (value_key h))]
  have a := sub_len s (liveL L)
  have b := sub_len s (topL 3 Ev.sameLabel L (countL 3 L))
  have c := sub_len s (topL 4 Ev.sameValue L (countL 4 L))
  omega
theorem keyed_sub (s : Str) (L : List Ev) : keyed (sub P L) s = (P s && keyed L s) := by
  unfold keyed sub
  rw [List.any_filter]
  cases hp : P s with
  | true =>
    rw [Bool.true_and]
    congr 1
    funext e
    cases h : (e.k == s) with
    | true => have : e.k = s := by simpa using h
              rw [this, hp]; rfl
    | false => rw [Bool.and_false]
  | false =>
    rw [Bool.false_and, List.any_eq_false]
    intro e _ h
    simp at h
    rw [h.2, hp] at h
    exact absurd h.1 (by simp)
theorem keys_of_sub (L : List Ev) : keysL (sub P L) = (keysL L).filter P := by
  refine lt_unique (keysL_sorted _) ((keysL_sorted L).filter _) fun s => ?_
  rw [mem_keysL, live_of_sub, keyed_sub, List.mem_filter, mem_keysL]
  simp [and_comm]
theorem grp_of_sub {s : Str} (hs : P s = true) (l : Int) (M : List Ev) : grp (sub P M) s l = grp M s l := by
  unfold grp sub
  rw [List.filter_filter]
  refine List.filter_congr fun e _ => ?_
  cases h : (e.k == s) with
  | true => have : e.k = s := by simpa using h
            rw [this, hs]; simp
  | false => simp
theorem ct_of_sub {s : Str} (hs : P s = true) (L : List Ev) : ctE (sub P L) s = ctE L s := by
  have h : ∀ l, hE (sub P L) s l = hE L s l := fun l => by unfold hE; rw [count_of_sub, grp_of_sub hs]
  have f : ∀ l, fE (sub P L) s l = fE L s l := fun l => by unfold fE; rw [h, count_of_sub, grp_of_sub hs]
  have v : ∀ l, vE (sub P L) s l = vE L s l := fun l => by unfold vE; rw [count_of_sub, grp_of_sub hs]
  unfold ctE
  rw [h, h, f, f, v, v]
theorem of_of_sub (L : List Ev) : ofL (sub P L) = (ofL L).filter fun c => P c.key := by
  unfold ofL
  rw [keys_of_sub, List.filter_map]
  refine List.map_congr_left fun s hs => ?_
  have hs2 := (List.mem_filter.1 hs).2
  exact ct_of_sub hs2 L
/-- All others are as they were. -/
theorem of_oth (s : Str) (L : List Ev) : ofL (oth s L) = butL (ofL L) s := by unfold oth butL; rw [of_of_sub]
theorem of_split (s : Str) (L : List Ev) : (ofL L).length = (ofL (oth s L)).length + (ofL (ownE s L)).length := by
  unfold oth ownE
  rw [of_of_sub, of_of_sub]
  have := split_len (fun c : Ct => c.key == s) (ofL L)
  omega
theorem own_key {s : Str} {L : List Ev} {c : Ct} (h : c ∈ ofL (ownE s L)) : c.key = s := by
  unfold ownE at h
  rw [of_of_sub] at h
  simpa using (List.mem_filter.1 h).2
theorem own_le (s : Str) (L : List Ev) : (ofL (ownE s L)).length ≤ 1 := by
  rcases Nat.lt_or_ge 1 (ofL (ownE s L)).length with h | h
  · exfalso
    obtain ⟨c, hc⟩ : ∃ c, (ofL (ownE s L))[0]? = some c := ⟨_, List.getElem?_eq_getElem (by omega)⟩
    obtain ⟨d, hd⟩ : ∃ d, (ofL (ownE s L))[0 + 1]? = some d := ⟨_, List.getElem?_eq_getElem (by omega)⟩
    have h1 := key_rise hc hd
    rw [own_key (List.mem_of_getElem? hc), own_key (List.mem_of_getElem? hd)] at h1
    exact List.lt_irrefl _ h1
  · exact h
end Go.Proofs.Ytfbpjhhcpockfaa
