/- book.Of's second map: the writes by key and label, each group's events in a row of their own. No condition. -/
import Derived.Test.YtfbpjhhcpockfaaOfPlain
set_option linter.unusedVariables false
set_option linter.unusedSimpArgs false
namespace Go.Proofs.Ytfbpjhhcpockfaa
open Go.RowKit Go.Shelf Go.Maps
open Go.WideMaps (KeyLaw)

def okKey (s : Str) (l : Int) : Prop := s.length ≤ maxLen ∧ (Lit.int .i64 l).wf = true
def keyV (s : Str) (l : Int) : Value := .agg #[.string (ba s), .int .i64 l]
def klf (s : Str) (l : Int) : Lit := .string (keyBytes [.string s, .int .i64 l])
theorem types_size : Try.prog.types.size = 156 + 1 + 1 := by kernel_rfl
theorem field_type : Try.prog.keyType 70 = true := by kernel_rfl
theorem cells_field : Try.prog.cellsOf 70 = 2 := by kernel_rfl
theorem cells_str : Try.prog.cellsOf 9 = 1 := by kernel_rfl
theorem cells_int : Try.prog.cellsOf 3 = 1 := by kernel_rfl
theorem key_field {s : Str} {l : Int} (h : okKey s l) : keyOf Try.prog 70 (keyV s l) = some (klf s l) := by
  obtain ⟨h1, h2⟩ := h
  have h3 : (ba s).size ≤ maxLen := by unfold ba; simpa [ByteArray.size] using h1
  have hl : ∀ d, Try.prog.keyLits (d + 1) 9 [.string (ba s)] = some [.string s] := fun d => by
    simp [Program.keyLits, Try.underlying9, h3, of_ba]
  have hi : ∀ d, Try.prog.keyLits (d + 1) 3 [.int .i64 l] = some [.int .i64 l] := fun d => by
    simp [Program.keyLits, Try.underlying3, h2]
  unfold keyOf
  rw [Try.underlying70]
  dsimp only
  have hf : (keyV s l).formed Try.prog 70 = true := by simp [keyV, Value.formed, Try.underlying70, cells_field]
  rw [field_type, hf, types_size]
  simp only [Bool.and_self, if_true]
  unfold Program.keyLits
  rw [Try.underlying70]
  simp [keyV, Value.cells, cells_field, cells_str, cells_int, hl, hi, klf]
theorem klf_inj {s s' : Str} {l l' : Int} (h : okKey s l) (h' : okKey s' l') (e : klf s l = klf s' l') : s = s' ∧ l = l' := by
  have k1 := key_field h
  have k2 := key_field h'
  rw [← e] at k2
  have := law_field.inj k1 k2
  unfold keyV at this
  injection this with this
  simp at this
  refine ⟨?_, this.2⟩
  rw [← of_ba s, ← of_ba s', this.1]

theorem own_not_map {w : World} {base n size B : Nat} {e : TypeId} {v : Value} {xs : List Value} {es : Array MapEntry} {clock : Nat} (h : w.ownsRow base e size v n xs) (hm : w.heap[B]? = some (.map es clock)) : v.ownBlock ≠ some B := by
  rcases h.2 with ⟨rfl, _⟩ | ⟨g, cap, cur, rfl, _, hg, _⟩
  · simp [Value.ownBlock]
  · intro e
    injection e with e
    subst e
    rw [hm] at hg
    cases hg
/-- Rows of events of unlike keys or labels lie apart. -/
theorem own_apart {w : World} {base : Nat} {e : TypeId} {v v' : Value} {x x' : Ev} {L L' : List Ev} {n n' : Nat} (h : w.ownsRow base e 12 v n (evCells (x :: L))) (h' : w.ownsRow base e 12 v' n' (evCells (x' :: L'))) (hne : x.k ≠ x'.k ∨ x.label ≠ x'.label) : v.ownBlock ≠ v'.ownBlock := by
  rcases h.2 with ⟨rfl, rfl⟩ | ⟨g, cap, cur, rfl, _⟩
  · have := h.1; simp [evCells, Ev.cells] at this
  rcases h'.2 with ⟨rfl, rfl⟩ | ⟨g', cap', cur', rfl, _⟩
  · have := h'.1; simp [evCells, Ev.cells] at this
  intro e
  injection e with e
  subst e
  have a1 := h.cells (g := g) rfl 9 (.string x.key) rfl
  have a2 := h'.cells (g := g) rfl 9 (.string x'.key) rfl
  have b1 := h.cells (g := g) rfl 10 (.int .i64 x.label) rfl
  have b2 := h'.cells (g := g) rfl 10 (.int .i64 x'.label) rfl
  rw [a1] at a2
  rw [b1] at b2
  simp at a2 b2
  rcases hne with h | h
  · exact h (by unfold Ev.k; rw [a2])
  · exact h b2
structure GroupsAt (w : World) (B n base : Nat) (gr : Lit → Option Value) (M : Str → Int → List Ev) : Prop where
  map : MapV w 70 B n gr
  keys : ∀ kl v, gr kl = some v → ∃ s l, okKey s l ∧ kl = klf s l ∧ M s l ≠ []
  rows : ∀ s l, okKey s l → M s l ≠ [] → ∃ v, gr (klf s l) = some v ∧ w.ownsRow base 35 12 v (M s l).length (evCells (M s l))
  mem : ∀ s l e, e ∈ M s l → e.k = s ∧ e.label = l
theorem GroupsAt.next {w w1 : World} {B n base : Nat} {gr : Lit → Option Value} {M : Str → Int → List Ev} (h : GroupsAt w B n base gr M) (hb : Below w.heap.size w w1) : GroupsAt w1 B n base gr M :=
  ⟨h.map.next hb, h.keys, fun s l ho hm => by obtain ⟨v, h1, h2⟩ := h.rows s l ho hm; exact ⟨v, h1, own_below h2 hb⟩, h.mem⟩
theorem GroupsAt.start (w : World) (base : Nat) : GroupsAt (w.alloc (.map #[] 0)) w.heap.size 0 base (fun _ => none) (fun _ _ => []) :=
  ⟨MapV.made w 70, (fun kl v h => by cases h), (fun s l _ h => absurd rfl h), (fun s l e h => by cases h)⟩
/-- What the map gives at a key: the group's row, or nil. -/
theorem GroupsAt.at_ {w : World} {B n base : Nat} {gr : Lit → Option Value} {M : Str → Int → List Ev} (h : GroupsAt w B n base gr M) {s : Str} {l : Int} (ho : okKey s l) : w.ownsRow base 35 12 ((gr (klf s l)).getD (.slice none 0 0)) (M s l).length (evCells (M s l)) := by
  by_cases hm : M s l = []
  · have : gr (klf s l) = none := by
      cases e : gr (klf s l) with
      | none => rfl
      | some v =>
        obtain ⟨s', l', ho', ek, hm'⟩ := h.keys _ _ e
        obtain ⟨rfl, rfl⟩ := klf_inj ho ho' ek
        exact absurd hm hm'
    rw [this, hm]
    exact World.ownsRow_nil _ _ _ _
  · obtain ⟨v, h1, h2⟩ := h.rows s l ho hm
    rw [h1]
    exact h2
theorem GroupsAt.put {w w1 w2 w3 : World} {B n base : Nat} {gr : Lit → Option Value} {M : Str → Int → List Ev} (h : GroupsAt w B n base gr M) (x : Ev) (ho : okKey x.k x.label) {v0 v1 : Value} (e0 : (gr (klf x.k x.label)).getD (.slice none 0 0) = v0)
    (h1 : w.grownBy w1 (some B)) (h2 : w1.grownBy w2 v0.ownBlock) (hown : w2.ownsRow base 35 12 v1 ((M x.k x.label).length + 1) (evCells (M x.k x.label) ++ x.cells))
    (hloc : v1.ownBlock = v0.ownBlock ∨ ∃ g, v1.ownBlock = some g ∧ w.heap.size ≤ g) (hm : MapV w3 70 B (n + 1) (setF gr (klf x.k x.label) v1)) (h3 : w2.grownBy w3 (some B)) :
    GroupsAt w3 B (n + 1) base (setF gr (klf x.k x.label) v1) (fun s l => if s = x.k ∧ l = x.label then M s l ++ [x] else M s l) := by
  obtain ⟨es, clock, hmh⟩ := h.map.heap
  have hBlt : B < w.heap.size := h.map.lt
  have hrow := h.at_ ho
  rw [e0] at hrow
  have hB0 := own_not_map hrow hmh
  have hBv1 : v1.ownBlock ≠ some B := by
    rcases hloc with e | ⟨g, e, hg⟩
    · rw [e]; exact hB0
    · rw [e]; intro e'; injection e' with e'; omega
  have step : ∀ {a b : World} {row : Option Nat} {v : Value} {k : Nat} {xs : List Value}, a.ownsRow base 35 12 v k xs → a.grownBy b row → (∀ g, v.ownBlock = some g → row ≠ some g) → b.ownsRow base 35 12 v k xs := fun hv hg hn =>
    own_keep hv (Kept.of_grown (S := fun i => _ = some i) hg (fun i _ e => e)) hn
  refine ⟨hm, fun kl v hv => ?_, fun s l hsl hne => ?_, fun s l e he => ?_⟩
  · by_cases e : kl = klf x.k x.label
    · subst e
      exact ⟨x.k, x.label, ho, rfl, by simp⟩
    · rw [setF_other _ e] at hv
      obtain ⟨s, l, h1, h2, h3⟩ := h.keys kl v hv
      refine ⟨s, l, h1, h2, ?_⟩
      split
      · simp
      · exact h3
  · by_cases e : s = x.k ∧ l = x.label
    · obtain ⟨rfl, rfl⟩ := e
      refine ⟨v1, setF_same _ (law_field.str (key_field ho) |>.elim fun s hs => by rw [hs]; trivial) _, ?_⟩
      have hh := step hown h3 (fun g hg e => hBv1 (by rw [hg, ← e]))
      simpa [evCells_append, evCells] using hh
    · have hk : klf s l ≠ klf x.k x.label := fun ek => e (klf_inj hsl ho ek)
      rw [if_neg e] at hne ⊢
      obtain ⟨v, hv1, hv2⟩ := h.rows s l hsl hne
      refine ⟨v, by rw [setF_other _ hk]; exact hv1, ?_⟩
      have hB := own_not_map hv2 hmh
      have a1 := step hv2 h1 (fun g hg e => hB (by rw [hg, ← e]))
      have a2 := step a1 h2 (fun g hg e' => by
        by_cases hm0 : M x.k x.label = []
        · have := hrow.2
          rw [hm0] at this
          rcases this with ⟨e1, _⟩ | ⟨g', cap, cur, e1, _, hg', _⟩
          · rw [e1] at e'; simp [Value.ownBlock] at e'
          · -- a row of nothing at all: nil it is
            have hnil : gr (klf x.k x.label) = none := by
              cases eg : gr (klf x.k x.label) with
              | none => rfl
              | some u =>
                obtain ⟨s', l', ho', ek, hm'⟩ := h.keys _ _ eg
                obtain ⟨rfl, rfl⟩ := klf_inj ho ho' ek
                exact absurd hm0 hm'
            rw [hnil] at e0
            rw [← e0] at e1
            cases e1
        · obtain ⟨y, L, hy⟩ : ∃ y L, M x.k x.label = y :: L := by
            cases hh : M x.k x.label with
            | nil => exact absurd hh hm0
            | cons y L => exact ⟨y, L, rfl⟩
          obtain ⟨z, L', hz⟩ : ∃ z L', M s l = z :: L' := by
            cases hh : M s l with
            | nil => exact absurd hh hne
            | cons y L => exact ⟨y, L, rfl⟩
          have m1 := h.mem _ _ y (by rw [hy]; simp)
          have m2 := h.mem _ _ z (by rw [hz]; simp)
          rw [hy] at hrow
          rw [hz] at hv2
          refine own_apart hv2 hrow ?_ (by rw [hg, e'])
          by_cases h5 : z.k = y.k
          · refine .inr fun h6 => e ⟨?_, ?_⟩
            · rw [← m2.1, h5, m1.1]
            · rw [← m2.2, h6, m1.2]
          · exact .inl h5)
      exact step a2 h3 (fun g hg e => hB (by rw [hg, ← e]))
  · split at he
    · rename_i e'
      rcases List.mem_append.1 he with he | he
      · exact h.mem s l e he
      · simp at he
        subst he
        exact ⟨e'.1.symm, e'.2.symm⟩
    · exact h.mem s l e he
end Go.Proofs.Ytfbpjhhcpockfaa
