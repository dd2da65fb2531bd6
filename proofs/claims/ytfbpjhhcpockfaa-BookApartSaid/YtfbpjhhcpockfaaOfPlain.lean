/- What a book is, as plain functions of events; contacts as cells. No condition. -/
import Derived.Test.YtfbpjhhcpockfaaCounting
import Derived.Test.YtfbpjhhcpockfaaLast
import Derived.Test.YtfbpjhhcpockfaaKept
set_option linter.unusedVariables false
set_option linter.unusedSimpArgs false
namespace Go.Proofs.Ytfbpjhhcpockfaa
open Go.RowKit Go.Shelf Go.Maps

/-- The loops' bodies of a code, in the text's order, an inner one behind its outer one. -/
def loopsC : Code → List Code
  | .loop c => c :: loopsC c
  | .seq a b => loopsC a ++ loopsC b
  | .block _ c => loopsC c
  | .scope c => loopsC c
  | .cond _ a b => loopsC a ++ loopsC b
  | _ => []
def loopOf (f : Option Code) (i : Nat) : Code := ((loopsC (f.getD .skip))[i]?).getD .skip

/-- The regions of a code. -/
def regsC : Code → List (Nat × Code)
  | .region i ops d => [(i, .region i ops d)]
  | .seq a b => regsC a ++ regsC b
  | .cond _ a b => regsC a ++ regsC b
  | .block _ c => regsC c
  | .scope c => regsC c
  | .loop c => regsC c
  | _ => []
def regOf (f : Option Code) (i : Nat) : Code := (((regsC (f.getD .skip)).find? (fun p => p.1 == i)).map (·.2)).getD .skip
abbrev Str := List UInt8
def strV (s : Str) : Value := .string ⟨s.toArray⟩
theorem strV_of (s : ByteArray) : strV s.data.toList = .string s := by unfold strV; simp
/-- What a contact holds besides its key: its sets as slices. -/
structure CtS where
  h0 : Bool
  h1 : Bool
  f0 : ByteArray
  f1 : ByteArray
  s0 : Value
  s1 : Value
def blank : CtS := ⟨false, false, ⟨#[]⟩, ⟨#[]⟩, .slice none 0 0, .slice none 0 0⟩
def ctCells (key : ByteArray) (c : CtS) : List Value := [.string key, .bool c.h0, .bool c.h1, .string c.f0, .string c.f1, c.s0, c.s1]
def ba (s : Str) : ByteArray := ⟨s.toArray⟩
theorem ba_of (s : ByteArray) : ba s.data.toList = s := by unfold ba; simp
theorem of_ba (s : Str) : (ba s).data.toList = s := by unfold ba; simp
/-- An event that may lie in memory: a key and a value no longer than may be, numbers of their kind. -/
def Ev.ok (e : Ev) : Prop := e.key.size ≤ maxLen ∧ e.value.size ≤ maxLen ∧ (Lit.int .i64 e.label).wf = true
abbrev Ev.k (e : Ev) : Str := e.key.data.toList

/-- A map of contacts by key: pointers to blocks of their own. -/
def ptF (pt : Str → Option Nat) : Lit → Option Value
  | .string s => (pt s).map fun c => .pointer (some ⟨c, 0, none⟩)
  | _ => none
structure BookAt (w : World) (B n base : Nat) (pt : Str → Option Nat) (st : Str → CtS) : Prop where
  map : MapV w 9 B n (ptF pt)
  at_ : ∀ s c, pt s = some c → base ≤ c ∧ At w c (ctCells (ba s) (st s))
variable {w w1 : World} {B n base : Nat} {pt : Str → Option Nat} {st : Str → CtS}
theorem BookAt.next (h : BookAt w B n base pt st) (hb : Below w.heap.size w w1) : BookAt w1 B n base pt st := ⟨h.map.next hb, fun s c hc => ⟨(h.at_ s c hc).1, (h.at_ s c hc).2.next hb⟩⟩
theorem BookAt.mono (h : BookAt w B n base pt st) {n' : Nat} (hn : n ≤ n') : BookAt w B n' base pt st := ⟨h.map.mono hn, h.at_⟩
theorem BookAt.lt (h : BookAt w B n base pt st) {s : Str} {c : Nat} (hc : pt s = some c) : c < w.heap.size := (h.at_ s c hc).2.lt
theorem At.not_map {b : Nat} {vs : List Value} {es : Array MapEntry} {clock : Nat} (h : At w b vs) (hm : w.heap[b]? = some (.map es clock)) : False := by
  obtain ⟨t, h⟩ := h
  rw [h] at hm
  cases hm
theorem MapV.heap {k : TypeId} {b n : Nat} {f : Lit → Option Value} (h : MapV w k b n f) : ∃ es clock, w.heap[b]? = some (.map es clock) := by
  obtain ⟨D, ⟨es, clock, hb, _⟩, _⟩ := h
  exact ⟨es, clock, hb⟩
theorem MapV.ne_at {k : TypeId} {b n c : Nat} {f : Lit → Option Value} {vs : List Value} (h : MapV w k b n f) (ha : At w c vs) : c ≠ b := by
  rintro rfl
  obtain ⟨es, clock, hb⟩ := h.heap
  exact ha.not_map hb
theorem BookAt.start (w : World) (base : Nat) (st : Str → CtS) : BookAt (w.alloc (.map #[] 0)) w.heap.size 0 base (fun _ => none) st :=
  ⟨(MapV.made w 9).ext fun kl => by cases kl <;> rfl, fun s c hc => by cases hc⟩
/-- The pointer at a key. -/
theorem BookAt.look (h : BookAt w B n base pt st) {s : ByteArray} : (ptF pt) (.string s.data.toList) = (pt s.data.toList).map fun c => .pointer (some ⟨c, 0, none⟩) := rfl
/-- A store of a new block at a key. -/
theorem BookAt.put {c : Nat} {s : ByteArray} (h : BookAt w B n base pt (fun _ => blank)) (hc : At w c (ctCells s blank)) (hbc : base ≤ c) (hm : MapV w1 9 B (n + 1) (setF (ptF pt) (.string s.data.toList) (.pointer (some ⟨c, 0, none⟩)))) (hg : w.grownBy w1 (some B)) :
    BookAt w1 B (n + 1) base (fun x => if x = s.data.toList then some c else pt x) (fun _ => blank) := by
  have hne : ∀ d vs, At w d vs → some B ≠ some d := fun d vs hd e => h.map.ne_at hd (by injection e with e; exact e.symm)
  refine ⟨hm.ext fun kl => ?_, fun x d hd => ?_⟩
  · cases kl <;> simp [ptF, setF, Lit.sameKey]
    rename_i x
    by_cases e : x = s.data.toList <;> simp [e]
  · by_cases e : x = s.data.toList
    · subst e
      simp at hd
      subst hd
      rw [ba_of]
      exact ⟨hbc, hc.grown hg (hne _ _ hc)⟩
    · simp [e] at hd
      have := h.at_ x d hd
      exact ⟨this.1, this.2.grown hg (hne _ _ this.2)⟩
end Go.Proofs.Ytfbpjhhcpockfaa
