/- Maps that a call makes, their elements as they stand: what a look-up, a store, 'm[k] = append(m[k], ..)' and a range over them do. No condition. -/
import Derived.Test.YtfbpjhhcpockfaaCells
import Derived.Maps.RangeWalk
import Derived.WideKeyEntry
import Derived.DeepKeys4
set_option linter.unusedVariables false
set_option linter.unusedSimpArgs false
namespace Go.Proofs.Ytfbpjhhcpockfaa
open Go.RowKit Go.Maps
open Go.WideMaps (KeyLaw)
open Go.ChangeMaps (setBlock)
open Go.MapKept (stamped_iff)

/-- An element reads as itself. -/
def Rv (v : Value) : Option (DataW Value × List MemPlace) := some (.held v, [])
theorem Rv_inv {v : Value} {y : DataW Value × List MemPlace} (h : Rv v = some y) : y = (.held v, []) := (Option.some.inj h).symm
/-- What a map's datum has at a key. -/
def mget (D : DataW Value) (kl : Lit) : Option Value := match D.atKey kl .nil with | .held v => some v | _ => none
/-- A map of at most n entries in block b: what it has at each key. -/
def MapV (w : World) (k : TypeId) (b n : Nat) (f : Lit → Option Value) : Prop := ∃ D : DataW Value, w.ownsMap Try.prog k Rv b n D ∧ ∀ kl, f kl = mget D kl
/-- A range over it: who is still to come. -/
def RangeV (w : World) (k : TypeId) (b r n : Nat) (f : Lit → Option Value) (left : Lit → Bool) (cnt : Nat) : Prop := ∃ D : DataW Value, w.ranges Try.prog k Rv b r n D left cnt ∧ ∀ kl, f kl = mget D kl
def setF (f : Lit → Option Value) (kl : Lit) (v : Value) : Lit → Option Value := fun x => if x.sameKey kl then some v else f x
theorem setF_same (f : Lit → Option Value) {kl : Lit} (hk : WideAt.IsKeyLit kl) (v : Value) : setF f kl v kl = some v := by unfold setF; rw [if_pos (WideAt.sameKey_self hk)]
theorem setF_other (f : Lit → Option Value) {kl x : Lit} (h : x ≠ kl) (v : Value) : setF f kl v x = f x := by unfold setF; rw [if_neg (by rw [sameKey_ne h]; simp)]

theorem atKey_cases (es : List (Lit × DataW Value)) (kl : Lit) : (has (.map es) kl = false ∧ ∀ z, (DataW.map es).atKey kl z = z) ∨ (has (.map es) kl = true ∧ ∃ d, (∃ p ∈ es, p.2 = d) ∧ ∀ z, (DataW.map es).atKey kl z = d) := by
  rw [has_eq]
  unfold DataW.atKey
  dsimp only
  cases h : es.find? (fun p => p.1.sameKey kl) with
  | none =>
    refine .inl ⟨?_, fun z => rfl⟩
    rw [List.any_eq_false]
    intro p hp
    simpa using List.find?_eq_none.1 h p hp
  | some p =>
    refine .inr ⟨?_, p.2, ⟨p, List.mem_of_find?_eq_some h, rfl⟩, fun z => rfl⟩
    rw [List.any_eq_true]
    exact ⟨p, List.mem_of_find?_eq_some h, by simpa using List.find?_some h⟩

section
variable {w : World} {k : TypeId} {b n : Nat} {f : Lit → Option Value}
/-- Each element of such a map's datum is a value as it stands. -/
theorem owns_cases {D : DataW Value} (h : w.ownsMap Try.prog k Rv b n D) (kl : Lit) : (mget D kl = none ∧ has D kl = false ∧ ∀ z, D.atKey kl z = z) ∨ ∃ v, mget D kl = some v ∧ has D kl = true ∧ ∀ z, D.atKey kl z = .held v := by
  obtain ⟨es, clock, hb, F, hs, rfl⟩ := h
  rcases atKey_cases ((es.toList.map (WideElems.rg Try.prog k Rv)).foldr DataW.insert []) kl with ⟨h1, h2⟩ | ⟨h1, d, ⟨p, hp, hd⟩, h2⟩
  · exact .inl ⟨by unfold mget; rw [h2], h1, h2⟩
  · obtain ⟨x, hx, rfl⟩ := List.mem_map.1 (mem_sorted.1 hp)
    obtain ⟨y, hy⟩ := F.reads x hx
    obtain ⟨z, hz, hyz⟩ := WideElems.rd_val hy
    have hz' := Rv_inv hz
    have : d = .held x.val := by rw [← hd, WideElems.rg_of hy, hyz, hz']
    subst this
    exact .inr ⟨x.val, by unfold mget; rw [h2], h1, h2⟩
theorem MapV.made (w : World) (k : TypeId) : MapV (w.alloc (.map #[] 0)) k w.heap.size 0 (fun _ => none) := ⟨_, World.ownsMap_made w Try.prog k Rv, fun kl => rfl⟩
theorem MapV.lt (h : MapV w k b n f) : b < w.heap.size := by obtain ⟨D, h, _⟩ := h; exact h.lt
theorem MapV.mono (h : MapV w k b n f) {n' : Nat} (hn : n ≤ n') : MapV w k b n' f := by obtain ⟨D, h, e⟩ := h; exact ⟨D, h.mono hn, e⟩
theorem MapV.kept {w' : World} {row : Option Nat} (h : MapV w k b n f) (hg : w.grownBy w' row) (hne : some b ≠ row) : MapV w' k b n f := by obtain ⟨D, h, e⟩ := h; exact ⟨D, h.kept hg hne, e⟩
theorem MapV.alloc (h : MapV w k b n f) (o : Obj) : MapV (w.alloc o) k b n f := h.kept (World.grownBy_alloc w o none) (by simp)
theorem MapV.block {w' : World} (h : MapV w k b n f) (hb : w'.heap[b]? = w.heap[b]?) : MapV w' k b n f := by
  obtain ⟨D, ⟨es, clock, hh, F, hs, hD⟩, e⟩ := h
  exact ⟨D, ⟨es, clock, hb.trans hh, F, hs, hD⟩, e⟩
theorem MapV.below {w' : World} {B : Nat} (h : MapV w k b n f) (hb : Below B w w') (hB : b < B) : MapV w' k b n f := h.block (hb.block b hB)
theorem MapV.next {w' : World} (h : MapV w k b n f) (hb : Below w.heap.size w w') : MapV w' k b n f := h.below hb h.lt
theorem heap_setCell_ne (w : World) (c : Nat) (i : Nat) (v : Value) (b : Nat) (hne : c ≠ b) : (w.setCell ⟨c, i, none⟩ v).heap[b]? = w.heap[b]? := by
  simp [World.setCell, Array.getElem?_modify, hne]
theorem MapV.setCell (h : MapV w k b n f) (c i : Nat) (v : Value) (hne : c ≠ b) : MapV (w.setCell ⟨c, i, none⟩ v) k b n f := h.block (heap_setCell_ne w c i v b hne)
theorem MapV.ext {f' : Lit → Option Value} (h : MapV w k b n f) (e : ∀ kl, f' kl = f kl) : MapV w k b n f' := by obtain ⟨D, h, e'⟩ := h; exact ⟨D, h, fun kl => by rw [e, e']⟩
/-- 'm[k]'. -/
theorem MapV.look {t e : TypeId} (h : MapV w k b n f) (K : Keyed Try.prog k) (ht : Try.prog.underlying t = some (.map k e)) {z : Value} (hz : (zeroValue e).run Try.prog w = .ok z w) {key : Value} {kl : Lit} (hkey : keyOf Try.prog k key = some kl) :
    (Instr.lookup t (.map (some b)) key false).run Try.prog w = .ok ((f kl).getD z) w := by
  obtain ⟨D, h, e⟩ := h
  obtain ⟨v, ps, hrun, hv⟩ := h.lookup K ht hz (show Rv z = some (.held z, []) from rfl) hkey
  rw [hrun, e kl]
  have hv' := Rv_inv hv
  simp only [Prod.mk.injEq] at hv'
  rcases owns_cases h kl with ⟨h1, h2, h3⟩ | ⟨u, h1, h2, h3⟩
  · rw [h1]; rw [h3] at hv'; simp at hv'; rw [hv'.1]; rfl
  · rw [h1]; rw [h3] at hv'; simp at hv'; rw [hv'.1]; rfl
theorem mget_put {D : DataW Value} (hD : IsMap D) {kl : Lit} (hk : WideAt.IsKeyLit kl) (v : Value) (x : Lit) : mget (D.put kl (.held v)) x = if x.sameKey kl then some v else mget D x := by
  unfold mget
  by_cases e : x = kl
  · subst e
    rw [atKey_put_same hD hk, WideAt.sameKey_self hk]; rfl
  · rw [atKey_put_other e, sameKey_ne e]; rfl
theorem owns_isMap {D : DataW Value} (h : w.ownsMap Try.prog k Rv b n D) : IsMap D := by obtain ⟨es, clock, _, _, _, rfl⟩ := h; exact ⟨_, rfl⟩
theorem MapV.store {t e : TypeId} (h : MapV w k b n f) (K : Keyed Try.prog k) (ht : Try.prog.underlying t = some (.map k e)) (hn : n < maxLen) {key val : Value} {kl : Lit} (hkey : keyOf Try.prog k key = some kl) :
    ∃ w', (Instr.mapUpdate t (.map (some b)) key val).run Try.prog w = .ok () w' ∧ MapV w' k b (n + 1) (setF f kl val) ∧ w.grownBy w' (some b) := by
  obtain ⟨D, h, e⟩ := h
  obtain ⟨w', h1, h2, h3⟩ := h.update K ht hn hkey (show Rv val = some (.held val, []) from rfl)
  exact ⟨w', h1, ⟨_, h2, fun x => by rw [mget_put (owns_isMap h) (K.key hkey)]; unfold setF; rw [e]⟩, h3⟩
/-- 'm[k] = .. m[k] ..': the entry, and the way back. -/
theorem MapV.entry {t e : TypeId} (h : MapV w k b n f) (K : KeyLaw Try.prog k) (ht : Try.prog.underlying t = some (.map k e)) (hn : n < maxLen) {z : Value} (hz : ∀ u, (zeroValue e).run Try.prog u = .ok z u) {key : Value} {kl : Lit} (hkey : keyOf Try.prog k key = some kl) :
    ∃ (st : Value) (w1 : World), (Instr.mapEntry t (.map (some b)) key).run Try.prog w = .ok (.tuple #[(f kl).getD z, st]) w1 ∧ w.grownBy w1 (some b) ∧ w1.heap.size = w.heap.size ∧
      ∀ (w2 : World) (val : Value), w2.heap[b]? = w1.heap[b]? → ∃ w3, (Instr.entryStore t (.map (some b)) st val).run Try.prog w2 = .ok () w3 ∧ MapV w3 k b (n + 1) (setF f kl val) ∧ w2.grownBy w3 (some b) := by
  have hlook := h.look (Keyed.of_law K) ht (hz w) hkey
  obtain ⟨D, hm, eD⟩ := h
  have hm' := hm
  obtain ⟨es, clock, hb, F, hs, hD⟩ := hm
  obtain ⟨v0, st, es1, clock1, hrun, hv0, hback⟩ := WideElems.entry_then_store K ht hz hb F hkey
  have hg1 : w.grownBy (setBlock w b (.map es1 clock1)) (some b) := ⟨rfl, rfl, rfl, by simp [setBlock], fun i _ hi => ChangeMaps.heap_setBlock_other hb _ (fun e => hi (by rw [e]))⟩
  have ev : v0 = (f kl).getD z := by
    rcases Maps.fit_look false (Keyed.of_law K) ht (hz w) hb F hkey with ⟨hrun', hno, _⟩ | ⟨e0, y, hm0, h3, hrun', _, _, _⟩
    · have hr := hlook.symm.trans hrun'
      have hr1 : (f kl).getD z = z := (Result.ok.inj hr).1
      rcases hv0 with ⟨e0, he0, hk0, _⟩ | ⟨_, h0⟩
      · exact absurd hk0 (hno e0 he0)
      · rw [h0, hr1]
    · have hr := hlook.symm.trans hrun'
      rcases hv0 with ⟨e1, he1, hk1, h1⟩ | ⟨hno, _⟩
      · have := entry_eq_of_key ((stamped_iff es clock).1 F.stamped).2.2 he1 hm0 (hk1.trans h3.symm)
        rw [h1, this]
        exact (Result.ok.inj hr).1.symm
      · exact absurd h3 (hno e0 hm0)
  subst ev
  refine ⟨goInt st, _, hrun, hg1, by simp [setBlock], fun w2 val hw2 => ?_⟩
  have hw2' : w2.heap[b]? = some (.map es1 clock1) := hw2.trans (ChangeMaps.heap_setBlock_same hb _)
  obtain ⟨es', clock', h1, h2⟩ := hback w2 val hw2'
  obtain ⟨w', h3, h4, _⟩ := hm'.update (Keyed.of_law K) ht hn hkey (show Rv val = some (.held val, []) from rfl)
  rw [h2] at h3
  injection h3 with _ h3
  subst h3
  refine ⟨_, h1, ?_, ⟨rfl, rfl, rfl, by simp [setBlock], fun i _ hi => ChangeMaps.heap_setBlock_other hw2' _ (fun e => hi (by rw [e]))⟩⟩
  have hm2 : MapV (setBlock w b (.map es' clock')) k b (n + 1) (setF f kl val) := ⟨_, h4, fun x => by rw [mget_put (owns_isMap hm') ((Keyed.of_law K).key hkey)]; unfold setF; rw [eD]⟩
  exact hm2.block (by rw [ChangeMaps.heap_setBlock_same hw2' _, ChangeMaps.heap_setBlock_same hb _])
theorem RangeV.map {r : Nat} {left : Lit → Bool} {cnt : Nat} (h : RangeV w k b r n f left cnt) : MapV w k b n f := by obtain ⟨D, h, e⟩ := h; exact ⟨D, h.owns, e⟩
theorem RangeV.lt {r : Nat} {left : Lit → Bool} {cnt : Nat} (h : RangeV w k b r n f left cnt) : r < w.heap.size := by obtain ⟨D, h, e⟩ := h; exact h.lt
theorem RangeV.ne {r : Nat} {left : Lit → Bool} {cnt : Nat} (h : RangeV w k b r n f left cnt) : r ≠ b := by obtain ⟨D, h, e⟩ := h; exact h.ne
theorem RangeV.left_eq {r : Nat} {left : Lit → Bool} {cnt : Nat} (h : RangeV w k b r n f left cnt) : w.rangeLeft b r = cnt := by obtain ⟨D, h, e⟩ := h; exact h.left_eq
theorem RangeV.kept {w' : World} {row : Option Nat} {r : Nat} {left : Lit → Bool} {cnt : Nat} (h : RangeV w k b r n f left cnt) (hg : w.grownBy w' row) (hb : some b ≠ row) (hr : some r ≠ row) : RangeV w' k b r n f left cnt := by
  obtain ⟨D, h, e⟩ := h; exact ⟨D, h.kept hg hb hr, e⟩
theorem RangeV.block {w' : World} {r : Nat} {left : Lit → Bool} {cnt : Nat} (h : RangeV w k b r n f left cnt) (hb : w'.heap[b]? = w.heap[b]?) (hr : w'.heap[r]? = w.heap[r]?) : RangeV w' k b r n f left cnt := by
  obtain ⟨D, ⟨es, clock, since, seen, c0, h1, F, h2, h3, h4, h5⟩, e⟩ := h
  exact ⟨D, ⟨es, clock, since, seen, c0, hb.trans h1, F, h2, h3, hr.trans h4, h5⟩, e⟩
theorem RangeV.next {w' : World} {r : Nat} {left : Lit → Bool} {cnt : Nat} (h : RangeV w k b r n f left cnt) (hb : Below w.heap.size w w') : RangeV w' k b r n f left cnt := h.block (hb.block b h.map.lt) (hb.block r h.lt)
theorem RangeV.iter {r : Nat} {left : Lit → Bool} {cnt : Nat} (h : RangeV w k b r n f left cnt) : ∃ m s e c, w.heap[r]? = some (.mapIter m s e c) := by
  obtain ⟨D, ⟨es, clock, since, seen, c0, h1, F, h2, h3, h4, h5⟩, e⟩ := h
  exact ⟨_, _, _, _, h4⟩
theorem At.not_iter {w : World} {b r : Nat} {vs : List Value} {m : Option Nat} {s : Nat} {e : Array Nat} {c : Nat} (h : At w b vs) (hr : w.heap[r]? = some (.mapIter m s e c)) : b ≠ r := by
  rintro rfl
  obtain ⟨t, h⟩ := h
  rw [h] at hr
  cases hr
theorem has_iff {D : DataW Value} (h : w.ownsMap Try.prog k Rv b n D) (kl : Lit) : has D kl = (mget D kl).isSome := by
  rcases owns_cases h kl with ⟨h1, h2, h3⟩ | ⟨u, h1, h2, h3⟩
  · rw [h1, h2]; rfl
  · rw [h1, h2]; rfl
end

section
variable {ops : Array Oper} {rest : List Oper} {o : Oper} {a : Act} {Q : Exit → Act → World → Prop} {w : World}
theorem wpl_look (hg : o.guard = none) (m x : Operand) (t : TypeId) (hop : o.op = Op.lookup t m x false) (k e : TypeId) (K : Keyed Try.prog k) (ht : Try.prog.underlying t = some (.map k e)) {z : Value} (hz : (zeroValue e).run Try.prog w = .ok z w) (b n : Nat) (f : Lit → Option Value)
    (hm : a.eval m = .map (some b)) (h : MapV w k b n f) (key : Value) (kl : Lit) (hx : a.eval x = key) (hkey : keyOf Try.prog k key = some kl) (v0 : Value) (hv0 : (f kl).getD z = v0)
    (hK : wpList Try.prog ops Q rest (a.put o.dst v0) w) : wpList Try.prog ops Q (o :: rest) a w := by
  subst hv0
  refine wpList_plain hg fun K' hK' => ?_
  have hrun := h.look K ht hz hkey
  unfold Oper.wp
  simp [execOp, hop, hm, hx, hrun, Result.andThen]
  exact hK' _ _ hK
theorem wpl_store (hg : o.guard = none) (m x v : Operand) (t : TypeId) (hop : o.op = Op.mapUpdate t m x v) (k e : TypeId) (K : Keyed Try.prog k) (ht : Try.prog.underlying t = some (.map k e)) (b n : Nat) (f : Lit → Option Value)
    (hm : a.eval m = .map (some b)) (h : MapV w k b n f) (hn : n < maxLen) (key val : Value) (kl : Lit) (hx : a.eval x = key) (hv : a.eval v = val) (hkey : keyOf Try.prog k key = some kl)
    (hK : ∀ w', MapV w' k b (n + 1) (setF f kl val) → w.grownBy w' (some b) → wpList Try.prog ops Q rest (a.put o.dst undef) w') : wpList Try.prog ops Q (o :: rest) a w := by
  refine wpList_plain hg fun K' hK' => ?_
  obtain ⟨w', hrun, r1, r2⟩ := h.store (val := val) K ht hn hkey
  unfold Oper.wp
  simp [execOp, hop, hm, hx, hv, hrun, Result.andThen]
  exact hK' _ _ (hK w' r1 r2)
theorem wpl_entry (hg : o.guard = none) (m x : Operand) (t : TypeId) (hop : o.op = Op.mapEntry t m x) (k e : TypeId) (K : KeyLaw Try.prog k) (ht : Try.prog.underlying t = some (.map k e)) {z : Value} (hz : ∀ u, (zeroValue e).run Try.prog u = .ok z u) (b n : Nat) (f : Lit → Option Value)
    (hm : a.eval m = .map (some b)) (h : MapV w k b n f) (hn : n < maxLen) (key : Value) (kl : Lit) (hx : a.eval x = key) (hkey : keyOf Try.prog k key = some kl) (v0 : Value) (hv0 : (f kl).getD z = v0)
    (hK : ∀ (st : Value) (w1 : World), w.grownBy w1 (some b) → w1.heap.size = w.heap.size →
      (∀ (w2 : World) (val : Value), w2.heap[b]? = w1.heap[b]? → ∃ w3, (Instr.entryStore t (.map (some b)) st val).run Try.prog w2 = .ok () w3 ∧ MapV w3 k b (n + 1) (setF f kl val) ∧ w2.grownBy w3 (some b)) →
      wpList Try.prog ops Q rest (a.put o.dst (.tuple #[v0, st])) w1) : wpList Try.prog ops Q (o :: rest) a w := by
  subst hv0
  refine wpList_plain hg fun K' hK' => ?_
  obtain ⟨st, w1, hrun, h1, h2, h3⟩ := h.entry K ht hn hz hkey
  unfold Oper.wp
  simp [execOp, hop, hm, hx, hrun, Result.andThen]
  exact hK' _ _ (hK st w1 h1 h2 h3)
theorem wpl_entryStore (hg : o.guard = none) (m s v : Operand) (t : TypeId) (hop : o.op = Op.entryStore t m s v) (b : Nat) (st val : Value) (hm : a.eval m = .map (some b)) (hs : a.eval s = st) (hv : a.eval v = val) (Φ : World → Prop)
    (h : ∃ w3, (Instr.entryStore t (.map (some b)) st val).run Try.prog w = .ok () w3 ∧ Φ w3) (hK : ∀ w3, Φ w3 → wpList Try.prog ops Q rest (a.put o.dst undef) w3) : wpList Try.prog ops Q (o :: rest) a w := by
  refine wpList_plain hg fun K' hK' => ?_
  obtain ⟨w3, hrun, h3⟩ := h
  unfold Oper.wp
  simp [execOp, hop, hm, hs, hv, hrun, Result.andThen]
  exact hK' _ _ (hK w3 h3)
theorem wpl_range (hg : o.guard = none) (m : Operand) (t : TypeId) (hop : o.op = Op.range t m) (k e : TypeId) (K : Keyed Try.prog k) (ht : Try.prog.underlying t = some (.map k e)) (b n : Nat) (f : Lit → Option Value)
    (hm : a.eval m = .map (some b)) (h : MapV w k b n f)
    (hK : ∀ w' cnt, RangeV w' k b w.heap.size n f (fun kl => (f kl).isSome) cnt → w.grownBy w' none → w'.heap.size = w.heap.size + 1 → wpList Try.prog ops Q rest (a.put o.dst (.pointer (some ⟨w.heap.size, 0, none⟩))) w') :
    wpList Try.prog ops Q (o :: rest) a w := by
  obtain ⟨D, h, eD⟩ := h
  refine wpList_range_own w hg m t hop k e K ht Rv b n D hm h fun w' h1 h2 h3 => hK w' (size D) ⟨D, ?_, eD⟩ h2 h3
  have : (fun kl => (f kl).isSome) = has D := by funext kl; rw [eD, has_iff h]
  rw [this]
  exact h1
theorem wpl_next (hg : o.guard = none) (it : Operand) (hop : o.op = Op.next it false) (k : TypeId) (K : Keyed Try.prog k) (b r n : Nat) (f : Lit → Option Value) (left : Lit → Bool) (cnt : Nat)
    (hit : a.eval it = .pointer (some ⟨r, 0, none⟩)) (h : RangeV w k b r n f left cnt)
    (hDone : cnt = 0 → (∀ kl, left kl = false) → wpList Try.prog ops Q rest (a.put o.dst (.tuple #[.bool false])) w)
    (hMore : ∀ (key v : Value) (kl : Lit) (w' : World) (cnt' : Nat), keyOf Try.prog k key = some kl → left kl = true → f kl = some v → RangeV w' k b r n f (fun z => left z && !z.sameKey kl) cnt' → cnt' < cnt →
      w.grownBy w' (some r) → w'.heap.size = w.heap.size → (Instr.entry (.pointer (some ⟨r, 0, none⟩))).run Try.prog w' = .ok (.tuple #[key, v]) w' → wpList Try.prog ops Q rest (a.put o.dst (.tuple #[.bool true, key, v])) w') :
    wpList Try.prog ops Q (o :: rest) a w := by
  obtain ⟨D, h, eD⟩ := h
  refine wpList_next_ranges w hg it hop k K Rv id id (fun key _ _ => ⟨key, rfl⟩) (fun v _ _ => ⟨v, rfl⟩) b r n D left cnt hit h hDone ?_
  intro key v kl y w' cnt' hkey hl hv hat hr hlt hgr hsz hen
  refine hMore key v kl w' cnt' hkey hl ?_ ⟨D, hr, eD⟩ hlt hgr hsz hen
  rw [eD]
  have := Rv_inv hv
  unfold mget
  rw [hat, this]
  rfl
end
theorem keyed_str : Keyed Try.prog 9 := Maps.string_keyed Try.underlying9
theorem key_str {s : ByteArray} (h : s.size ≤ maxLen) : keyOf Try.prog 9 (.string s) = some (.string s.data.toList) := Go.WideMaps.keyOf_string_mk Try.underlying9 h
theorem laid_out : laidOutB Try.prog = true := by kernel_rfl
theorem law_field : KeyLaw Try.prog 70 := deep_law_laid laid_out (m := 5) (by omega) (of_decide_eq_true (by kernel_rfl)) (by kernel_rfl) (by kernel_rfl)
end Go.Proofs.Ytfbpjhhcpockfaa
