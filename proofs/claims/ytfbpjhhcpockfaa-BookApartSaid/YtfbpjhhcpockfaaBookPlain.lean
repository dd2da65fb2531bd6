/- Plain laws on what lives and counts; the document's example. No condition. -/
import Derived.Test.YtfbpjhhcpockfaaOfL
set_option linter.unusedVariables false
set_option linter.unusedSimpArgs false
namespace Go.Proofs.Ytfbpjhhcpockfaa
open Go.RowKit Go.Shelf Go.Maps

theorem sameKey_k (a b : Ev) : a.sameKey b = (a.k == b.k) := by unfold Ev.sameKey Ev.k; rw [data_toList, data_toList]
theorem sameLabel_k (a b : Ev) : a.sameLabel b = ((a.k == b.k) && (a.label == b.label)) := by unfold Ev.sameLabel; rw [sameKey_k]
theorem sameValue_k (a b : Ev) : a.sameValue b = ((a.k == b.k) && (a.label == b.label) && (a.value.data.toList == b.value.data.toList)) := by unfold Ev.sameValue; rw [sameLabel_k, data_toList, data_toList]
/-- The same, by bytes' lists: such as the kernel reckons. -/
def deadK (L : List Ev) (e : Ev) : Bool := (e.kind != 1) || L.any fun x => (x.kind == 2) && (e.k == x.k) && e.below x
def liveK (L : List Ev) : List Ev := L.filter fun e => !deadK L e
theorem dead_k (L : List Ev) (e : Ev) : dead L e = deadK L e := by unfold dead deadK abv; simp only [sameKey_k]
theorem live_k (L : List Ev) : liveL L = liveK L := by unfold liveL liveK; simp only [dead_k]
def idleK (kind : Int) (L : List Ev) (e : Ev) : Bool := (e.kind != kind) || ((kind == 4) && L.any fun x => (x.kind == 5) && ((e.k == x.k) && (e.label == x.label) && (e.value.data.toList == x.value.data.toList)) && e.below x) || !(liveK L).any fun c => (c.k == e.k) && c.below e
def countK (kind : Int) (L : List Ev) : List Ev := L.filter fun e => !idleK kind L e
theorem count_k (kind : Int) (L : List Ev) : countL kind L = countK kind L := by
  unfold countL countK idle idleK abv under
  simp only [sameKey_k, sameValue_k, live_k]
def cyB : ByteArray := ⟨#[99, 121]⟩
def cyK : Str := [99, 121]
def one1 : Ev := ⟨0, 1, 0, 0, 0, 0, 0, 1, 1, cyB, 0, ⟨#[]⟩⟩
def one2 : Ev := ⟨1, 1, 1, 0, 0, 0, 0, 2, 3, cyB, 0, ⟨#[49]⟩⟩
def one3 : Ev := ⟨0, 2, 1, 0, 0, 0, 0, 2, 2, cyB, 0, ⟨#[]⟩⟩
def one4 : Ev := ⟨0, 3, 2, 0, 0, 0, 0, 3, 1, cyB, 0, ⟨#[]⟩⟩
def oneL : List Ev := [one1, one2, one3, one4]
def twoL : List Ev := [one1, one2]
theorem dedup_one (s : Str) : dedup [s] = [s] := by simp [dedup]
theorem srt_nil : srt [] = [] := by unfold srt; simp; rfl
theorem ofL_one : ofL oneL = [⟨cyK, false, false, ⟨#[]⟩, ⟨#[]⟩, [], []⟩] := by
  have hl : liveL oneL = [one4] := by rw [live_k]; rfl
  have h3 : countL 3 oneL = [] := by rw [count_k]; rfl
  have h4 : countL 4 oneL = [] := by rw [count_k]; rfl
  unfold ofL keysL
  rw [hl]
  unfold ctE hE fE vE hE
  rw [h3, h4]
  simp [dedup, grp, srt_nil]
  rfl
theorem ofL_two : ofL twoL = [⟨cyK, true, false, ⟨#[49]⟩, ⟨#[]⟩, [], []⟩] := by
  have hl : liveL twoL = [one1] := by rw [live_k]; rfl
  have h3 : countL 3 twoL = [one2] := by rw [count_k]; rfl
  have h4 : countL 4 twoL = [] := by rw [count_k]; rfl
  unfold ofL keysL
  rw [hl]
  unfold ctE hE fE vE hE
  rw [h3, h4]
  have g0 : grp [one2] [99, 121] 0 = [one2] := rfl
  have g1 : grp [one2] [99, 121] 1 = [] := rfl
  have hv : valOf [one2] = ⟨#[49]⟩ := rfl
  have hk : one1.k = [99, 121] := rfl
  have gn : ∀ s l, grp [] s l = [] := fun _ _ => rfl
  simp [dedup, hk, g0, g1, hv, srt_nil, gn]
  rfl
theorem ev_ok (e : Ev) (h1 : e.key.size ≤ 1000) (h2 : e.value.size ≤ 1000) (h3 : (Lit.int .i64 e.label).wf = true) : e.ok := ⟨by unfold maxLen; omega, by unfold maxLen; omega, h3⟩
theorem oneL_ok : ∀ e ∈ oneL, e.ok := by
  intro e he
  simp [oneL] at he
  rcases he with rfl | rfl | rfl | rfl
  all_goals exact ev_ok _ (by decide) (by decide) (by decide)
end Go.Proofs.Ytfbpjhhcpockfaa
