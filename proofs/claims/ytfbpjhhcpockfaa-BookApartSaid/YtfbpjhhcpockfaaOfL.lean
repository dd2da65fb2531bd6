/- What a book is: contacts by key, as a plain function of events; rows of contacts that are read. No condition. -/
import Derived.Test.YtfbpjhhcpockfaaOf6
import Derived.Test.YtfbpjhhcpockfaaOf1
set_option linter.unusedVariables false
set_option linter.unusedSimpArgs false
namespace Go.Proofs.Ytfbpjhhcpockfaa
open Go.RowKit Go.Shelf Go.Maps

/-- A contact. -/
structure Ct where
  key : Str
  h0 : Bool
  h1 : Bool
  f0 : ByteArray
  f1 : ByteArray
  s0 : List Str
  s1 : List Str
def hE (L : List Ev) (s : Str) (l : Int) : Bool := !(grp (countL 3 L) s l).isEmpty
def fE (L : List Ev) (s : Str) (l : Int) : ByteArray := if hE L s l = true then valOf (grp (countL 3 L) s l) else ⟨#[]⟩
def vE (L : List Ev) (s : Str) (l : Int) : List Str := (grp (countL 4 L) s l).map fun e => e.value.data.toList
def ctE (L : List Ev) (s : Str) : Ct := ⟨s, hE L s 0, hE L s 1, fE L s 0, fE L s 1, srt (vE L s 0), srt (vE L s 1)⟩
def dedup : List Str → List Str
  | [] => []
  | x :: l => if x ∈ l then dedup l else x :: dedup l
theorem mem_dedup (s : Str) : ∀ l : List Str, s ∈ dedup l ↔ s ∈ l
  | [] => by simp [dedup]
  | x :: l => by
    unfold dedup
    split
    · rename_i h
      rw [mem_dedup s l]
      constructor
      · exact fun h => List.mem_cons_of_mem _ h
      · intro hs
        rcases List.mem_cons.1 hs with rfl | hs
        · exact h
        · exact hs
    · rw [List.mem_cons, List.mem_cons, mem_dedup s l]
theorem nodup_dedup : ∀ l : List Str, (dedup l).Nodup
  | [] => by simp [dedup]
  | x :: l => by
    unfold dedup
    split
    · exact nodup_dedup l
    · rename_i h
      refine List.nodup_cons.2 ⟨fun hm => h ((mem_dedup x l).1 hm), nodup_dedup l⟩
def keysL (L : List Ev) : List Str := (dedup ((liveL L).map Ev.k)).mergeSort leS
def ofL (L : List Ev) : List Ct := (keysL L).map (ctE L)
/-- Such a contact's cells. -/
def ctV (c : Ct) (A0 A1 : Option Addr) (c0 c1 : Nat) : List Value := [.string (ba c.key), .bool c.h0, .bool c.h1, .string c.f0, .string c.f1, .slice A0 c.s0.length c0, .slice A1 c.s1.length c1]
/-- Its cells, its sets read. -/
def CtAt (w : World) (c : Ct) (vs : List Value) : Prop := ∃ A0 c0 A1 c1, vs = ctV c A0 A1 c0 c1 ∧ c.s0.length ≤ c0 ∧ c.s1.length ≤ c1 ∧ Rd w A0 c.s0.length 1 (c.s0.map strV) ∧ Rd w A1 c.s1.length 1 (c.s1.map strV)
/-- A row of contacts that is read. -/
inductive CtsAt (w : World) : List Ct → List Value → Prop
  | nil : CtsAt w [] []
  | cons {c : Ct} {cs : List Ct} {vs ws : List Value} (h : CtAt w c vs) (r : CtsAt w cs ws) : CtsAt w (c :: cs) (vs ++ ws)
def RdCts (w : World) (A : Option Addr) (n : Nat) (cs : List Ct) : Prop := cs.length = n ∧ ∃ vs, Rd w A n 7 vs ∧ CtsAt w cs vs
theorem CtAt.below {w w1 : World} {c : Ct} {vs : List Value} (h : CtAt w c vs) (hb : Below w.heap.size w w1) : CtAt w1 c vs := by
  obtain ⟨A0, c0, A1, c1, e, h1, h2, h3, h4⟩ := h
  exact ⟨A0, c0, A1, c1, e, h1, h2, h3.below hb, h4.below hb⟩
theorem CtsAt.later {w w1 : World} {cs : List Ct} {vs : List Value} (h : CtsAt w cs vs) (hb : Below w.heap.size w w1) : CtsAt w1 cs vs := by
  induction h with
  | nil => exact .nil
  | cons h _ ih => exact .cons (h.below hb) ih
theorem RdCts.below {w w1 : World} {A : Option Addr} {n : Nat} {cs : List Ct} (h : RdCts w A n cs) (hb : Below w.heap.size w w1) : RdCts w1 A n cs := by
  obtain ⟨h1, vs, h2, h3⟩ := h
  exact ⟨h1, vs, h2.below hb, h3.later hb⟩
theorem CtsAt.at_ {w : World} : ∀ {cs : List Ct} {vs : List Value}, CtsAt w cs vs → ∀ (i : Nat) (c : Ct), cs[i]? = some c → ∃ us, CtAt w c us ∧ ∀ j u, us[j]? = some u → vs[i * 7 + j]? = some u
  | _, _, .nil, i, c, h => by simp at h
  | _, _, .cons (vs := vs) h r, 0, c, hi => by
    simp at hi
    subst hi
    refine ⟨vs, h, fun j u hj => ?_⟩
    have hl := (List.getElem?_eq_some_iff.1 hj).1
    rw [Nat.zero_mul, Nat.zero_add, List.getElem?_append_left hl]
    exact hj
  | _, _, .cons (vs := vs) h r, i + 1, c, hi => by
    obtain ⟨us, h1, h2⟩ := r.at_ i c (by simpa using hi)
    refine ⟨us, h1, fun j u hj => ?_⟩
    have h7 : vs.length = 7 := by
      obtain ⟨A0, c0, A1, c1, e, _⟩ := h
      rw [e]; rfl
    rw [List.getElem?_append_right (by omega), h7, show (i + 1) * 7 + j - 7 = i * 7 + j by omega]
    exact h2 j u hj
/-- One contact of such a row. -/
theorem RdCts.at_ {w : World} {A : Option Addr} {n : Nat} {cs : List Ct} (h : RdCts w A n cs) (i : Nat) (c : Ct) (hi : cs[i]? = some c) :
    ∃ b o A0 c0 A1 c1, A = some ⟨b, o, none⟩ ∧ b < w.heap.size ∧ (∀ j u, (ctV c A0 A1 c0 c1)[j]? = some u → w.cell? ⟨b, o + i * 7 + j, none⟩ = some u) ∧ c.s0.length ≤ c0 ∧ c.s1.length ≤ c1 ∧ Rd w A0 c.s0.length 1 (c.s0.map strV) ∧ Rd w A1 c.s1.length 1 (c.s1.map strV) := by
  obtain ⟨hn, vs, hR, hC⟩ := h
  obtain ⟨us, ⟨A0, c0, A1, c1, e, h1, h2, h3, h4⟩, h5⟩ := hC.at_ i c hi
  subst e
  have hne : vs ≠ [] := fun e => by have := h5 0 _ rfl; rw [e] at this; simp at this
  obtain ⟨b, o, hA, hc⟩ := hR.at_ hne
  have hcell : ∀ j u, (ctV c A0 A1 c0 c1)[j]? = some u → w.cell? ⟨b, o + i * 7 + j, none⟩ = some u := fun j u hu => by
    have := hc _ u (h5 j u hu)
    rwa [← Nat.add_assoc] at this
  exact ⟨b, o, A0, c0, A1, c1, hA, World.block_lt_of_cell? w _ (hcell 0 _ rfl), hcell, h1, h2, h3, h4⟩
/-! The keys. -/
theorem le_total (x y : Str) : (leS x y || leS y x) = true := by
  unfold leS
  rcases List.le_total x y with h | h <;> simp [h]
theorem le_trans' (x y z : Str) (h1 : leS x y = true) (h2 : leS y z = true) : leS x z = true := by
  unfold leS at *
  simp only [decide_eq_true_eq] at *
  exact List.le_trans h1 h2
theorem mem_keysL (L : List Ev) (s : Str) : s ∈ keysL L ↔ keyed (liveL L) s = true := by
  unfold keysL keyed
  rw [(List.mergeSort_perm _ _).mem_iff, mem_dedup]
  simp
theorem lt_unique : ∀ {a b : List Str}, a.Pairwise (· < ·) → b.Pairwise (· < ·) → (∀ s, s ∈ a ↔ s ∈ b) → a = b
  | [], [], _, _, _ => rfl
  | [], y :: b, _, _, h => by have := (h y).2 (by simp); cases this
  | x :: a, [], _, _, h => by have := (h x).1 (by simp); cases this
  | x :: a, y :: b, ha, hb, h => by
    obtain ⟨ha1, ha2⟩ := List.pairwise_cons.1 ha
    obtain ⟨hb1, hb2⟩ := List.pairwise_cons.1 hb
    have exy : x = y := by
      rcases List.mem_cons.1 ((h x).1 (by simp)) with e | hm
      · exact e
      · rcases List.mem_cons.1 ((h y).2 (by simp)) with e | hm'
        · exact e.symm
        · exact absurd (List.lt_trans (hb1 x hm) (ha1 y hm')) (List.lt_irrefl _)
    subst exy
    have : a = b := lt_unique ha2 hb2 fun s => by
      constructor
      · intro hs
        rcases List.mem_cons.1 ((h s).1 (by simp [hs])) with e | hm
        · subst e; exact absurd (ha1 s hs) (List.lt_irrefl _)
        · exact hm
      · intro hs
        rcases List.mem_cons.1 ((h s).2 (by simp [hs])) with e | hm
        · subst e; exact absurd (hb1 s hs) (List.lt_irrefl _)
        · exact hm
    rw [this]
theorem sorted_lt {l : List Str} (hs : l.Pairwise fun x y => leS x y = true) (hn : l.Nodup) : l.Pairwise (· < ·) := by
  have h2 : l.Pairwise fun x y => leS x y = true ∧ x ≠ y := hs.and hn
  refine h2.imp ?_
  rintro x y ⟨h1, hne⟩
  unfold leS at h1
  simp only [decide_eq_true_eq] at h1
  rcases List.le_iff_lt_or_eq.1 h1 with h | h
  · exact h
  · exact absurd h hne
theorem keysL_sorted (L : List Ev) : (keysL L).Pairwise (· < ·) := by
  refine sorted_lt (List.pairwise_mergeSort (fun a b c => le_trans' a b c) le_total _) ?_
  unfold keysL
  rw [(List.mergeSort_perm _ _).nodup_iff]
  exact nodup_dedup _
theorem keysL_of {L : List Ev} {pt : Str → Option Nat} {ks : List Str} (hpt : ∀ s, (pt s).isSome = keyed (liveL L) s) (hall : All pt ks) (hs : ks.Pairwise (· < ·)) : ks = keysL L :=
  lt_unique hs (keysL_sorted L) fun s => by rw [mem_keysL, hall.2 s, hpt s]
/-! Cells out of the walk. -/
theorem outCts {w : World} {L : List Ev} {B1 n1 base b3 : Nat} {pt : Str → Option Nat} {w0 : World} {st0 st : Str → CtS} {d : Str → Int → Bool} (h : At6 w0 w B1 n1 base b3 pt st0 st (vE L) d) (h0 : ∀ s, (st0 s).h0 = hE L s 0 ∧ (st0 s).h1 = hE L s 1 ∧ (st0 s).f0 = fE L s 0 ∧ (st0 s).f1 = fE L s 1) :
    ∀ ks : List Str, (∀ s ∈ ks, (pt s).isSome = true ∧ ∀ l, d s l = true) → CtsAt w (ks.map (ctE L)) (outCells ks st)
  | [], _ => .nil
  | s :: ks, hk => by
    obtain ⟨hp, hd⟩ := hk s (by simp)
    obtain ⟨C, hC⟩ := Option.isSome_iff_exists.1 hp
    have r0 := h.rows s C hC 0 (.inl rfl)
    have r1 := h.rows s C hC 1 (.inr rfl)
    have e0 : curV (vE L) d s 0 = srt (vE L s 0) := by unfold curV; rw [hd]; rfl
    have e1 : curV (vE L) d s 1 = srt (vE L s 1) := by unfold curV; rw [hd]; rfl
    rw [e0] at r0
    rw [e1] at r1
    obtain ⟨A0, c0, v0, l0, d0⟩ := Rd.own r0
    obtain ⟨A1, c1, v1, l1, d1⟩ := Rd.own r1
    have hc : CtAt w (ctE L s) (ctCells (ba s) (st s)) := by
      refine ⟨A0, c0, A1, c1, ?_, l0, l1, d0, d1⟩
      obtain ⟨a1, a2, a3, a4⟩ := h.same s
      obtain ⟨b1, b2, b3', b4⟩ := h0 s
      unfold ctCells ctV ctE
      have v0' : (st s).s0 = .slice A0 (srt (vE L s 0)).length c0 := v0
      have v1' : (st s).s1 = .slice A1 (srt (vE L s 1)).length c1 := v1
      rw [a1, a2, a3, a4, b1, b2, b3', b4, v0', v1']
    exact .cons hc (outCts h h0 ks fun x hx => hk x (by simp [hx]))
end Go.Proofs.Ytfbpjhhcpockfaa
