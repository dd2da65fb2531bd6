/- A block that is known whole: what its cells hold, and what becomes of it. No condition. -/
import Derived.Test.YtfbpjhhcpockfaaSlices
set_option linter.unusedVariables false
set_option linter.unusedSimpArgs false
namespace Go.Proofs.Ytfbpjhhcpockfaa
open Go.RowKit

/-- Block b holds these cells, and may be written. -/
def At (w : World) (b : Nat) (vs : List Value) : Prop := ∃ t, w.heap[b]? = some (.cells vs.toArray t (0, 0))
theorem At.cell {w : World} {b : Nat} {vs : List Value} (h : At w b vs) (i : Nat) {u : Value} (hi : vs[i]? = some u) : w.cell? ⟨b, i, none⟩ = some u := by
  obtain ⟨t, h⟩ := h
  simp [World.cell?, h, hi]
theorem At.frozen {w : World} {b : Nat} {vs : List Value} (h : At w b vs) (i : Nat) : w.frozen? ⟨b, i, none⟩ = false := by
  obtain ⟨t, h⟩ := h
  simp [World.frozen?, h]
theorem At.lt {w : World} {b : Nat} {vs : List Value} (h : At w b vs) : b < w.heap.size := by
  obtain ⟨t, h⟩ := h
  exact (Array.getElem?_eq_some_iff.1 h).1
theorem At.below {w w1 : World} {b B : Nat} {vs : List Value} (h : At w b vs) (hb : Below B w w1) (hB : b < B) : At w1 b vs := by
  obtain ⟨t, h⟩ := h
  exact ⟨t, by rw [hb.block b hB]; exact h⟩
theorem At.next {w w1 : World} {b : Nat} {vs : List Value} (h : At w b vs) (hb : Below w.heap.size w w1) : At w1 b vs := h.below hb h.lt
theorem At.new (w : World) (cs : Array Value) (t : TypeId) : At (w.alloc (.cells cs t)) w.heap.size cs.toList := ⟨t, heap_alloc_new w _⟩
theorem At.alloc {w : World} {b : Nat} {vs : List Value} (h : At w b vs) (o : Obj) : At (w.alloc o) b vs := h.next ((Below.refl _ _).alloc (Nat.le_refl _) _)
theorem At.drew {w : World} {b : Nat} {vs : List Value} (h : At w b vs) : At w.drew b vs := h
theorem At.drewN {w : World} {b : Nat} {vs : List Value} (h : At w b vs) (n : Nat) : At (w.drewN n) b vs := h
theorem At.set {w : World} {b : Nat} {vs : List Value} (h : At w b vs) (i : Nat) (v : Value) : At (w.setCell ⟨b, i, none⟩ v) b (vs.set i v) := by
  obtain ⟨t, h⟩ := h
  exact ⟨t, by simp [World.setCell, Array.getElem?_modify, h]⟩
theorem At.other {w : World} {b b' i : Nat} {vs : List Value} (h : At w b vs) (v : Value) (hne : b' ≠ b) : At (w.setCell ⟨b', i, none⟩ v) b vs := by
  obtain ⟨t, h⟩ := h
  exact ⟨t, by simp [World.setCell, Array.getElem?_modify, h, hne]⟩
theorem At.grown {w w1 : World} {b : Nat} {vs : List Value} {row : Option Nat} (h : At w b vs) (hg : w.grownBy w1 row) (hne : row ≠ some b) : At w1 b vs := by
  have hl := h.lt
  obtain ⟨t, h'⟩ := h
  exact ⟨t, by rw [hg.block b hl (fun e => hne e.symm)]; exact h'⟩
theorem rd_block (w : World) (cs : Array Value) (t : TypeId) {n : Nat} (h : cs.size = n) (hm : n ≤ 9223372036854775807) : Rd (w.alloc (.cells cs t)) (some ⟨w.heap.size, 0, none⟩) n 1 cs.toList := by
  refine ⟨by simp [h], hm, fun _ => ⟨_, _, rfl, fun j u hj => ?_⟩⟩
  have := World.news_of_block (cs := cs) (t := t) (fr := (0, 0)) (heap_alloc_new w _) j u hj
  rwa [add_at] at this

/-- wpList_append_one, the new block's number named. -/
theorem wpList_append_elem {P : Program} {ops : Array Oper} {rest : List Oper} {o : Oper} {a : Act} {Q : Exit → Act → World → Prop} {w0 W : World} (base H : Nat) (hH : W.heap.size = H) (hgd : o.guard = none) (s x : Operand) (t e : TypeId) (z : Value) (size bytes : Nat)
    (ho : o.op = .call { callee := .builtin .append, args := #[s, x], argTypes := #[t, t] })
    (ht : P.underlying t = some (.slice e)) (hinfo : (P.info? e).map (fun i => (i.zero, i.size, i.bytes)) = some (some z, size, bytes)) (hz : z.cells.size = size) (hs0 : 0 < size) (hb0 : 0 < bytes)
    (v : Value) (n : Nat) (xs : List Value) (cs : Array Value) (hs : a.eval s = v) (hx : a.eval x = .slice (some ⟨H, 0, none⟩) 1 1)
    (HO : W.ownsRow base e size v n xs) (hcs : cs.size = size) (h1 : ∀ u ∈ cs.toList, u.oneCell' = true) (HB : Below base w0 W) (hbase : base ≤ W.heap.size) (hl : (n + 1) * bytes ≤ 140737488355328)
    (h : ∀ v1 w1, w1.ownsRow base e size v1 (n + 1) (xs ++ cs.toList) → Below base w0 w1 → W.grownBy w1 v.ownBlock → (v1.ownBlock = v.ownBlock ∨ v1.ownBlock = some (W.heap.size + 1)) → wpList P ops Q rest (a.put o.dst v1) w1) :
    wpList P ops Q (o :: rest) a (W.alloc (.cells cs e)) := by
  subst hH
  exact wpList_append_one base hgd s x t e z size bytes ho ht hinfo hz hs0 hb0 v n xs cs hs hx HO hcs h1 HB hbase hl h

theorem At.rd {w : World} {b : Nat} {vs : List Value} (h : At w b vs) {n size : Nat} (hl : vs.length = n * size) (hn : n ≤ 9223372036854775807) : Rd w (some ⟨b, 0, none⟩) n size vs :=
  ⟨hl, hn, fun _ => ⟨b, 0, rfl, fun j u hj => by rw [Nat.zero_add]; exact h.cell j hj⟩⟩
theorem own_next {w w1 : World} {base n size : Nat} {e : TypeId} {v : Value} {xs : List Value} (h : w.ownsRow base e size v n xs) (hb : Below w.heap.size w w1) : w1.ownsRow base e size v n xs := own_below h hb
theorem own_empty (w : World) {base : Nat} (e : TypeId) (size : Nat) (hb : base ≤ w.heap.size) : (w.alloc (.cells #[] e)).ownsRow base e size (.slice (some ⟨w.heap.size, 0, none⟩) 0 0) 0 [] := by
  have := World.ownsRow_lit (base := base) (e := e) (size := size) w #[] 0 hb (by simp [maxLen]) (by simp)
  simpa using this
/-- append(v, x...), v full: whatever was there stands; x is read. -/
theorem run_append_full {P : Program} {W : World} (base : Nat) (t ty e : TypeId) (z : Value) (size bytes : Nat)
    (ht : P.underlying t = some (.slice e)) (hinfo : (P.info? e).map (fun i => (i.zero, i.size, i.bytes)) = some (some z, size, bytes)) (hz : z.cells.size = size) (hs0 : 0 < size) (hb0 : 0 < bytes)
    (g n : Nat) (xs : List Value) (A : Option Addr) (m c : Nat) (cs : List Value) (HO : W.ownsRow base e size (.slice (some ⟨g, 0, none⟩) n n) n xs) (HR : Rd W A m size cs) (hbase : base ≤ W.heap.size) (hl : (n + m) * bytes ≤ 140737488355328) :
    ∃ v1 w1, (Builtin.append_ #[t, t] ty #[.slice (some ⟨g, 0, none⟩) n n, .slice A m c]).run P W = .ok v1 w1 ∧ w1.ownsRow base e size v1 (n + m) (xs ++ cs) ∧ Below W.heap.size W w1 := by
  obtain ⟨i0, hi, hzz⟩ := Option.map_eq_some_iff.1 hinfo
  simp only [Prod.mk.injEq] at hzz
  obtain ⟨hz0, hz1, hz2⟩ := hzz
  have hlen : n + m ≤ 140737488355328 := Nat.le_trans (Nat.le_mul_of_pos_right _ hb0) hl
  by_cases hm : m = 0
  · subst hm
    have hcs : cs = [] := List.eq_nil_of_length_eq_zero (by simpa using HR.1)
    subst hcs
    refine ⟨_, W, ?_, by simpa using HO, Below.refl _ _⟩
    rcases A with _ | ad
    · simp [Builtin.append_, run_underlying ht, sizeOf, typeInfo, hi, Builtin.lenOf, Builtin.firstCells, storeCells]
    · simp [Builtin.append_, run_underlying ht, sizeOf, typeInfo, hi, Builtin.lenOf, Builtin.firstCells, loadCells, loadCellsFrom, storeCells]
  · have hne : cs ≠ [] := fun e => by
      have := HR.1
      rw [e] at this
      rcases Nat.mul_eq_zero.1 this.symm with h | h <;> omega
    obtain ⟨b, off, rfl, hc⟩ := HR.2.2 hne
    have holds : ∀ j u, xs[j]? = some u → W.cell? ((⟨g, 0, none⟩ : Addr).add j) = some u := HO.cells (g := g) rfl
    have hr := run_append_grow (P := P) W t ty e i0 z ht hi hz0 ⟨g, 0, none⟩ n n xs (by rw [hz1]; exact HO.1) holds ⟨b, off, none⟩ m c cs (by rw [hz1]; exact HR.1) (fun j u hj => by rw [add_at]; exact hc j u hj) (by omega) (by omega) (growslice_fits (by omega) (by rw [hz2]; exact hl))
    refine ⟨_, _, hr, ⟨by rw [List.length_append, HO.1, HR.1, Nat.add_mul], .inr ⟨W.heap.size, _, _, rfl, hbase, heap_alloc_new W.drew _, grownCap_ge W (n + m) n e, grownCap_le_maxLen W (n + m) n e (by simp only [maxLen]; omega), ?_, ?_⟩⟩, ((Below.refl _ _).drew).alloc (Nat.le_refl _) _⟩
    · have hge := grownCap_ge W (n + m) n e
      simp only [Array.size_append, List.size_toArray, size_zeroCells, hz, HO.1, HR.1, ← Nat.add_mul]
      congr 1
      omega
    · simp only [Array.toList_append, List.append_assoc]
      rw [← List.append_assoc, show (n + m) * size = (xs ++ cs).length by rw [List.length_append, HO.1, HR.1, Nat.add_mul]]
      exact List.take_left
end Go.Proofs.Ytfbpjhhcpockfaa
