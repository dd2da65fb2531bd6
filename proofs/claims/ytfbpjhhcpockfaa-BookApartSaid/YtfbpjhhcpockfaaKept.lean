/- What a piece of a walk leaves alone: all old blocks but some. No condition. -/
import Derived.Test.YtfbpjhhcpockfaaCounting
import Derived.Test.YtfbpjhhcpockfaaMapV
import Derived.Test.YtfbpjhhcpockfaaPutIn
set_option linter.unusedVariables false
set_option linter.unusedSimpArgs false
namespace Go.Proofs.Ytfbpjhhcpockfaa
open Go.RowKit

/-- All blocks of w but those of S are as they were. -/
structure Kept (S : Nat → Prop) (w w1 : World) : Prop where
  os : w1.os = w.os
  tape : w1.tape = w.tape
  output : w1.output = w.output
  size : w.heap.size ≤ w1.heap.size
  block : ∀ i, i < w.heap.size → ¬ S i → w1.heap[i]? = w.heap[i]?
theorem Kept.refl (S : Nat → Prop) (w : World) : Kept S w w := ⟨rfl, rfl, rfl, Nat.le_refl _, fun _ _ _ => rfl⟩
theorem Kept.then {S S' : Nat → Prop} {a b c : World} (h : Kept S a b) (k : Kept S' b c) (hs : ∀ i, i < a.heap.size → S' i → S i) : Kept S a c :=
  ⟨k.os.trans h.os, k.tape.trans h.tape, k.output.trans h.output, Nat.le_trans h.size k.size, fun i hi hn => (k.block i (Nat.lt_of_lt_of_le hi h.size) (fun e => hn (hs i hi e))).trans (h.block i hi hn)⟩
theorem Kept.trans {S : Nat → Prop} {a b c : World} (h : Kept S a b) (k : Kept S b c) : Kept S a c := h.then k (fun _ _ e => e)
theorem Kept.mono {S S' : Nat → Prop} {a b : World} (h : Kept S a b) (hs : ∀ i, i < a.heap.size → S i → S' i) : Kept S' a b := ⟨h.os, h.tape, h.output, h.size, fun i hi hn => h.block i hi (fun e => hn (hs i hi e))⟩
theorem Kept.of_below (S : Nat → Prop) {w w1 : World} (h : Below w.heap.size w w1) : Kept S w w1 := ⟨h.os, h.tape, h.output, h.size, fun i hi _ => h.block i hi⟩
theorem Kept.of_grown {S : Nat → Prop} {w w1 : World} {row : Option Nat} (h : w.grownBy w1 row) (hs : ∀ i, i < w.heap.size → row = some i → S i) : Kept S w w1 := ⟨h.os, h.tape, h.output, h.size, fun i hi hn => h.block i hi (fun e => hn (hs i hi e.symm))⟩
theorem Kept.below {S : Nat → Prop} {a b c : World} (h : Kept S a b) (k : Below b.heap.size b c) : Kept S a c := h.trans (Kept.of_below S k)
theorem Kept.grown {S : Nat → Prop} {a b c : World} {row : Option Nat} (h : Kept S a b) (k : b.grownBy c row) (hs : ∀ i, i < a.heap.size → row = some i → S i) : Kept S a c := h.then (S' := fun i => row = some i) (Kept.of_grown k (fun _ _ e => e)) hs
theorem Kept.alloc {S : Nat → Prop} {a b : World} (h : Kept S a b) (o : Obj) : Kept S a (b.alloc o) := h.below ((Below.refl _ _).alloc (Nat.le_refl _) _)
theorem Kept.drew {S : Nat → Prop} {a b : World} (h : Kept S a b) : Kept S a b.drew := ⟨h.os, h.tape, h.output, h.size, h.block⟩
theorem Kept.setCell {S : Nat → Prop} {a b : World} (h : Kept S a b) {c : Nat} (hs : c < a.heap.size → S c) (i : Nat) (v : Value) : Kept S a (b.setCell ⟨c, i, none⟩ v) := by
  refine h.then (S' := fun j => j = c) ⟨rfl, rfl, rfl, by simp [World.setCell], fun j _ hn => heap_setCell_ne b c i v j (fun e => hn e.symm)⟩ ?_
  rintro j hj rfl
  exact hs hj
theorem Kept.toBelow {S : Nat → Prop} {B : Nat} {w0 w w1 : World} (h : Below B w0 w) (k : Kept S w w1) (hB : B ≤ w.heap.size) (hs : ∀ i, S i → B ≤ i) : Below B w0 w1 :=
  h.trans ⟨k.os, k.tape, k.output, k.size, fun i hi => k.block i (by omega) (fun e => by have := hs i e; omega)⟩
theorem At.keep {S : Nat → Prop} {w w1 : World} {b : Nat} {vs : List Value} (h : At w b vs) (k : Kept S w w1) (hn : ¬ S b) : At w1 b vs := by
  have hl := h.lt
  obtain ⟨t, h⟩ := h
  exact ⟨t, (k.block b hl hn).trans h⟩
theorem MapV.keep {S : Nat → Prop} {w w1 : World} {t : TypeId} {b n : Nat} {f : Lit → Option Value} (h : MapV w t b n f) (k : Kept S w w1) (hn : ¬ S b) : MapV w1 t b n f := h.block (k.block b h.lt hn)
theorem RangeV.keep {S : Nat → Prop} {w w1 : World} {t : TypeId} {b r n : Nat} {f : Lit → Option Value} {left : Lit → Bool} {cnt : Nat} (h : RangeV w t b r n f left cnt) (k : Kept S w w1) (hn : ¬ S b) (hr : ¬ S r) : RangeV w1 t b r n f left cnt :=
  h.block (k.block b h.map.lt hn) (k.block r h.lt hr)
theorem Rd.keep {S : Nat → Prop} {w w1 : World} {A : Option Addr} {n size : Nat} {cs : List Value} (h : Rd w A n size cs) (k : Kept S w w1) (hn : ∀ b o, A = some ⟨b, o, none⟩ → cs ≠ [] → ¬ S b) : Rd w1 A n size cs :=
  ⟨h.1, h.2.1, fun hne => by
    obtain ⟨b, o, e, hc⟩ := h.2.2 hne
    refine ⟨b, o, e, fun j u hj => ?_⟩
    have h1 := hc j u hj
    have hb := k.block b (World.block_lt_of_cell? w _ h1) (hn b o e hne)
    rw [World.cell?_of_block (a := ⟨b, o + j, none⟩) hb]
    exact h1⟩
theorem RdEv.keep {S : Nat → Prop} {w w1 : World} {A : Option Addr} {n : Nat} {L : List Ev} (h : RdEv w A n L) (k : Kept S w w1) (hn : ∀ b o, A = some ⟨b, o, none⟩ → evCells L ≠ [] → ¬ S b) : RdEv w1 A n L := ⟨h.1, h.2.keep k hn⟩
theorem own_keep {S : Nat → Prop} {w w1 : World} {base n size : Nat} {e : TypeId} {v : Value} {xs : List Value} (h : w.ownsRow base e size v n xs) (k : Kept S w w1) (hn : ∀ g, v.ownBlock = some g → ¬ S g) : w1.ownsRow base e size v n xs := by
  refine ⟨h.1, ?_⟩
  rcases h.2 with h' | ⟨g, cap, cur, hv, hbg, hg, r⟩
  · exact .inl h'
  · refine .inr ⟨g, cap, cur, hv, hbg, ?_, r⟩
    rw [k.block g (Array.getElem?_eq_some_iff.1 hg).1 (hn g (by rw [hv]; rfl))]
    exact hg
theorem cell_not_map {w : World} {b o : Nat} {u : Value} {es : Array MapEntry} {clock : Nat} (h : w.cell? ⟨b, o, none⟩ = some u) (hm : w.heap[b]? = some (.map es clock)) : False := by
  simp [World.cell?, hm] at h
theorem Rd.not_map {w : World} {A : Option Addr} {n size : Nat} {cs : List Value} (h : Rd w A n size cs) {B : Nat} {es : Array MapEntry} {clock : Nat} (hm : w.heap[B]? = some (.map es clock)) : ∀ b o, A = some ⟨b, o, none⟩ → cs ≠ [] → b ≠ B := by
  rintro b o rfl hne rfl
  obtain ⟨b', o', e, hc⟩ := h.2.2 hne
  injection e with e
  injection e with e1 e2
  subst e1 e2
  obtain ⟨u, r, hu⟩ : ∃ u r, cs = u :: r := by cases cs with | nil => exact absurd rfl hne | cons u r => exact ⟨u, r, rfl⟩
  subst hu
  exact cell_not_map (hc 0 u rfl) hm
theorem PutIn.kept {S k : Nat} {x : Value} {w w' : World} (h : PutIn S k x w w') : Kept (· = S) w w' := ⟨h.os, h.tape, h.output, h.size, h.far⟩
end Go.Proofs.Ytfbpjhhcpockfaa
