/- Rows of events that are read; slices.IndexFunc and ContainsFunc of them, whatever predicate that may lay blocks of its own. No condition. -/
import Derived.Test.YtfbpjhhcpockfaaAbove1
set_option linter.unusedVariables false
set_option linter.unusedSimpArgs false
namespace Go.Proofs.Ytfbpjhhcpockfaa
open Go.RowKit Go.Shelf

def evCells (L : List Ev) : List Value := (L.map Ev.cells).flatten
/-- A row of events that is read. -/
def RdEv (w : World) (A : Option Addr) (n : Nat) (L : List Ev) : Prop := L.length = n ∧ Rd w A n 12 (evCells L)
theorem RdEv.below {w w1 : World} {A : Option Addr} {n : Nat} {L : List Ev} (h : RdEv w A n L) (hb : Below w.heap.size w w1) : RdEv w1 A n L := ⟨h.1, h.2.below hb⟩
theorem evCells_length (L : List Ev) : (evCells L).length = L.length * 12 := by
  induction L with
  | nil => rfl
  | cons e L ih => show (e.cells ++ evCells L).length = _; rw [List.length_append, ih]; simp [Ev.cells]; omega
theorem evCells_append (L M : List Ev) : evCells (L ++ M) = evCells L ++ evCells M := by simp [evCells]
theorem evCells_at : ∀ (L : List Ev) (i : Nat) (s : Ev) (j : Nat) (u : Value), L[i]? = some s → s.cells[j]? = some u → (evCells L)[i * 12 + j]? = some u
  | [], _, _, _, _, h, _ => by simp at h
  | t :: L, 0, s, j, u, h, hu => by
    simp at h
    subst h
    have hj : j < 12 := by have := (List.getElem?_eq_some_iff.1 hu).1; simpa [Ev.cells] using this
    show (t.cells ++ evCells L)[0 * 12 + j]? = some u
    rw [Nat.zero_mul, Nat.zero_add, List.getElem?_append_left (by simp [Ev.cells]; omega)]
    exact hu
  | t :: L, i + 1, s, j, u, h, hu => by
    show (t.cells ++ evCells L)[(i + 1) * 12 + j]? = some u
    have h10 : t.cells.length = 12 := rfl
    rw [List.getElem?_append_right (by omega), h10, show (i + 1) * 12 + j - 12 = i * 12 + j by omega]
    exact evCells_at L i s j u (by simpa using h) hu
theorem RdEv.at_ {w : World} {A : Option Addr} {k : Nat} {L : List Ev} (h : RdEv w A k L) (i : Nat) (s : Ev) (hi : L[i]? = some s) :
    ∃ b o, A = some ⟨b, o, none⟩ ∧ b < w.heap.size ∧ ∀ j u, s.cells[j]? = some u → w.cell? ⟨b, o + i * 12 + j, none⟩ = some u := by
  have h1 := fun j u hu => evCells_at L i s j u hi hu
  have hne : evCells L ≠ [] := fun e => by have := h1 0 _ rfl; rw [e] at this; simp at this
  obtain ⟨b, o, hA, hc⟩ := h.2.at_ hne
  have h2 : ∀ j u, s.cells[j]? = some u → w.cell? ⟨b, o + i * 12 + j, none⟩ = some u := fun j u hu => by
    have := hc _ u (h1 j u hu)
    rwa [← Nat.add_assoc] at this
  exact ⟨b, o, hA, World.block_lt_of_cell? w _ (h2 0 _ rfl), h2⟩
/-- A predicate of events that may lay blocks of its own. -/
def PredB (g : Nat) (lb : Array Value) (p : Ev → Bool) (w : World) : Prop :=
  (∀ args w, (callFunc g args).run Try.prog w = .ok (.enter g args) w) ∧ ∀ (W : World) (x : Ev), Below w.heap.size w W → Calls Try.prog g (#[x.v] ++ lb) W fun e w' => e = .returned (.bool (p x)) ∧ Below W.heap.size W w'
theorem PredB.below {g : Nat} {lb : Array Value} {p : Ev → Bool} {w w1 : World} (h : PredB g lb p w) (hb : Below w.heap.size w w1) : PredB g lb p w1 :=
  ⟨h.1, fun W x hW => h.2 W x (below_next hb hW)⟩
/-- The first place. -/
def firstAt (p : Ev → Bool) : List Ev → Nat → Int
  | [], _ => -1
  | x :: L, i => if p x = true then (i : Int) else firstAt p L (i + 1)
theorem firstAt_hit (p : Ev → Bool) (x : Ev) : ∀ (L : List Ev) (k i : Nat), (∀ j y, j < k → L[j]? = some y → p y = false) → L[k]? = some x → p x = true → firstAt p L i = ((i + k : Nat) : Int)
  | [], k, i, _, hx, _ => by simp at hx
  | y :: L, 0, i, _, hx, hp => by simp at hx; subst hx; simp [firstAt, hp]
  | y :: L, k + 1, i, hf, hx, hp => by
    have h0 := hf 0 y (by omega) rfl
    rw [firstAt, if_neg (by simp [h0]), firstAt_hit p x L k (i + 1) (fun j z hj hz => hf (j + 1) z (by omega) (by simpa using hz)) (by simpa using hx) hp]
    omega
theorem firstAt_miss (p : Ev → Bool) : ∀ (L : List Ev) (i : Nat), (∀ (j : Nat) (y : Ev), L[j]? = some y → p y = false) → firstAt p L i = -1
  | [], _, _ => rfl
  | y :: L, i, h => by
    rw [firstAt, if_neg (by simp [h 0 y rfl]), firstAt_miss p L (i + 1) (fun j z hz => h (j + 1) z (by simpa using hz))]
theorem firstAt_any (p : Ev → Bool) : ∀ (L : List Ev) (i : Nat), decide (0 ≤ firstAt p L i) = L.any p
  | [], i => by simp [firstAt]
  | y :: L, i => by
    rw [firstAt, List.any_cons]
    by_cases h : p y = true
    · simp [h]
    · rw [if_neg h, firstAt_any p L (i + 1)]
      simp [h]

set_option maxHeartbeats 2000000 in
theorem index_any (g : Nat) (lb : Array Value) (p : Ev → Bool) (A : Option Addr) (n c : Nat) (L : List Ev) (w : World) (hp : PredB g lb p w) (hR : RdEv w A n L) :
    Calls Try.prog 59 #[.slice A n c, .func (.func g) #[] lb] w fun e w' => e = .returned (.int .i64 (firstAt p L 0)) ∧ Below w.heap.size w w' := by
  have eg := hp.1
  have hn := hR.2.2.1
  have hl := hR.1
  have HP := Lib.hid hp
  have HR := Lib.hid hR
  have HL := Lib.hid hl
  clear hp hR hl
  go_enter Try.func59, Try.ntmps59
  go_wp2_with fail
  go_loopw [5, 8] (fun _ i wr => ∃ j : Nat, j ≤ n ∧ i = .int .i64 j ∧ (∀ q y, q < j → L[q]? = some y → p y = false) ∧ Below w.heap.size w wr) (fun _ i _ => n - (intOf i).toNat)
  case atStart => exact ⟨0, by omega, rfl, fun q y hq _ => absurd hq (Nat.not_lt_zero _), Below.refl _ _⟩
  case round =>
    obtain ⟨j, hj, rfl, hno, hbr⟩ := hrel
    by_cases hjn : j < n
    · obtain ⟨x, hx⟩ : ∃ x, L[j]? = some x := ⟨L[j]'(by rw [HL.out]; exact hjn), List.getElem?_eq_getElem _⟩
      obtain ⟨b, o, hA, hlt, hcc⟩ := (HR.out.below hbr).at_ j x hx
      subst hA
      have HC := Lib.hid (HP.out.2 wr x hbr)
      obtain ⟨px, hpx⟩ : ∃ t, t = p x := ⟨_, rfl⟩
      rw [← hpx] at HC
      have HPX := Lib.hid hpx
      have HX := Lib.hid hx
      have HNO := Lib.hid hno
      have HBR := Lib.hid hbr
      clear hpx hx hno hbr
      obtain ⟨r', n', d0, d1, d2, d3, d4, hh', k', key', lab', val'⟩ := x
      unfold Ev.v Ev.cells at HC
      dsimp only at HC
      have u0 : wr.cell? ⟨b, o + j * 12, none⟩ = some (.int .i64 r') := hcc 0 _ rfl
      have u1 : wr.cell? ⟨b, o + j * 12 + 1, none⟩ = some (.int .i64 n') := hcc 1 _ rfl
      have u2 : wr.cell? ⟨b, o + j * 12 + 2, none⟩ = some (.int .i64 d0) := hcc 2 _ rfl
      have u3 : wr.cell? ⟨b, o + j * 12 + 3, none⟩ = some (.int .i64 d1) := hcc 3 _ rfl
      have u4 : wr.cell? ⟨b, o + j * 12 + 4, none⟩ = some (.int .i64 d2) := hcc 4 _ rfl
      have u5 : wr.cell? ⟨b, o + j * 12 + 5, none⟩ = some (.int .i64 d3) := hcc 5 _ rfl
      have u6 : wr.cell? ⟨b, o + j * 12 + 6, none⟩ = some (.int .i64 d4) := hcc 6 _ rfl
      have u7 : wr.cell? ⟨b, o + j * 12 + 7, none⟩ = some (.int .i64 hh') := hcc 7 _ rfl
      have u8 : wr.cell? ⟨b, o + j * 12 + 8, none⟩ = some (.int .i64 k') := hcc 8 _ rfl
      have u9 : wr.cell? ⟨b, o + j * 12 + 9, none⟩ = some (.string key') := hcc 9 _ rfl
      have u10 : wr.cell? ⟨b, o + j * 12 + 10, none⟩ = some (.int .i64 lab') := hcc 10 _ rfl
      have u11 : wr.cell? ⟨b, o + j * 12 + 11, none⟩ = some (.string val') := hcc 11 _ rfl
      have j1 : (j : Int) < (n : Int) := by omega
      have j2 : (0 : Int) ≤ (j : Int) := by omega
      clear hcc
      go_wp2_with fail
      go_at_fn g
      refine HC.out.mono ?_
      rintro e w2 ⟨rfl, hb2⟩
      have HB2 := Lib.hid (below_next HBR.out hb2)
      clear hb2 HC
      cases px
      · go_wp2_with fail
        go_roundw
        case measure => (simp [intOf]; omega)
        case rel =>
          refine ⟨j + 1, by omega, by go_num, fun q y hq hy => ?_, HB2.out⟩
          by_cases h : q = j
          · subst h
            rw [HX.out] at hy
            cases hy
            exact HPX.out.symm
          · exact HNO.out q y (by omega) hy
      · go_wp2_with fail
        go_ret
        refine ⟨ret_int ?_, HB2.out⟩
        rw [firstAt_hit p _ L j 0 HNO.out HX.out HPX.out.symm]
        simp
    · have hjq' : ¬ (j : Int) < (n : Int) := by omega
      have H := Lib.hid (firstAt_miss p L 0 (fun q y hy => hno q y (by have := (List.getElem?_eq_some_iff.1 hy).1; have := HL.out; omega) hy))
      go_wp2_with fail
      go_ret
      exact ⟨ret_int H.out.symm, hbr⟩
theorem contains_any (g : Nat) (lb : Array Value) (p : Ev → Bool) (A : Option Addr) (n c : Nat) (L : List Ev) (w : World) (hp : PredB g lb p w) (hR : RdEv w A n L) :
    Calls Try.prog 48 #[.slice A n c, .func (.func g) #[] lb] w fun e w' => e = .returned (.bool (L.any p)) ∧ Below w.heap.size w w' := by
  have H := Lib.hid (index_any g lb p A n c L w hp hR)
  have HE := Lib.hid (firstAt_any p L 0)
  generalize firstAt p L 0 = q at *
  rw [← HE.out]
  clear hp hR
  go_enter Try.func48, Try.ntmps48
  go_wp2_with fail
  refine H.out.mono ?_
  rintro e w1 ⟨rfl, hb⟩
  clear HE H
  go_wp2
  all_goals (go_ret; exact ⟨ret_bool (by simp; try omega), hb⟩)
end Go.Proofs.Ytfbpjhhcpockfaa
