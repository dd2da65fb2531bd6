/- The law EditThere returns true at each edit, two bools and four bytes, and turns nothing that was there. Conditions: the edit's numbers are ints, its texts fit a machine. -/
import Derived.Test.YtdabndoojkdicaaTherePlain
import Derived.Test.YtdabndoojkdicaaConfig
import Derived.Deep.AppendLies
import Derived.Deep.DeepCutAuto
import Derived.OneCell
set_option linter.unusedVariables false
set_option linter.unusedSimpArgs false
namespace Go.Proofs.Ytdabndoojkdicaa
open Go.RowKit

theorem info_con : (Try.prog.info? 51).map (fun i => (i.zero, i.size, i.bytes)) = some (some (.agg #[.string ⟨#[]⟩, .bool false, .bool false, .string ⟨#[]⟩, .string ⟨#[]⟩, .slice none 0 0, .slice none 0 0]), 7, 104) := by kernel_rfl
theorem info_str : (Try.prog.info? 9).map (fun i => (i.zero, i.size, i.bytes)) = some (some (.string ⟨#[]⟩), 1, 16) := by kernel_rfl

theorem rd_new (w : World) (cs : Array Value) (t : TypeId) {n : Nat} (h : cs.size = n) (hm : n ≤ 9223372036854775807) : Rd (w.alloc (.cells cs t)) (some ⟨w.heap.size, 0, none⟩) n 1 cs.toList := by
  refine ⟨by simp [h], hm, fun _ => ⟨_, _, rfl, fun j u hj => ?_⟩⟩
  have := World.news_of_block (cs := cs) (t := t) (fr := (0, 0)) (heap_alloc_new w _) j u hj
  rwa [add_at] at this

/-- wpList_append_one, the new block's number named. -/
theorem wpList_append_at {P : Program} {ops : Array Oper} {rest : List Oper} {o : Oper} {a : Act} {Q : Exit → Act → World → Prop} {w0 W : World} (base H : Nat) (hH : W.heap.size = H) (hgd : o.guard = none) (s x : Operand) (t e : TypeId) (z : Value) (size bytes : Nat)
    (ho : o.op = .call { callee := .builtin .append, args := #[s, x], argTypes := #[t, t] })
    (ht : P.underlying t = some (.slice e)) (hinfo : (P.info? e).map (fun i => (i.zero, i.size, i.bytes)) = some (some z, size, bytes)) (hz : z.cells.size = size) (hs0 : 0 < size) (hb0 : 0 < bytes)
    (v : Value) (n : Nat) (xs : List Value) (cs : Array Value) (hs : a.eval s = v) (hx : a.eval x = .slice (some ⟨H, 0, none⟩) 1 1)
    (HO : W.ownsRow base e size v n xs) (hcs : cs.size = size) (h1 : ∀ u ∈ cs.toList, u.oneCell' = true) (HB : Below base w0 W) (hbase : base ≤ W.heap.size) (hl : (n + 1) * bytes ≤ 140737488355328)
    (h : ∀ v1 w1, w1.ownsRow base e size v1 (n + 1) (xs ++ cs.toList) → Below base w0 w1 → W.grownBy w1 v.ownBlock → (v1.ownBlock = v.ownBlock ∨ v1.ownBlock = some (W.heap.size + 1)) → wpList P ops Q rest (a.put o.dst v1) w1) :
    wpList P ops Q (o :: rest) a (W.alloc (.cells cs e)) := by
  subst hH
  exact wpList_append_one base hgd s x t e z size bytes ho ht hinfo hz hs0 hb0 v n xs cs hs hx HO hcs h1 HB hbase hl h

set_option maxHeartbeats 8000000 in
set_option maxRecDepth 100000 in
theorem editThere_walk (k : Int) (key : ByteArray) (l : Int) (v : ByteArray) (there has : Bool) (n0 n1 n2 n3 : Int) (w : World) (hk0 : -9223372036854775808 ≤ k) (hk1 : k ≤ 9223372036854775807)
    (hk : key.size ≤ 140737488351232) (hv : v.size ≤ 140737488351232) (h0 : 0 ≤ n0) (g0 : n0 ≤ 255) (h1 : 0 ≤ n1) (g1 : n1 ≤ 255) (h2 : 0 ≤ n2) (g2 : n2 ≤ 255) (h3 : 0 ≤ n3) (g3 : n3 ≤ 255) :
    Calls Try.prog 9 #[.agg #[.int .i64 k, .string key, .int .i64 l, .string v], .agg #[.bool there, .bool has], .agg #[.int .u8 n0, .int .u8 n1, .int .u8 n2, .int .u8 n3]] w fun e w' => e = .returned (.bool true) ∧ Below w.heap.size w w' := by
  have good := Lib.hid (fit_good k key l v)
  have HF := Lib.hid (fun w => fit_any k key l v w hk0 hk1 hk hv)
  have hkr := fitKind_range k
  have HK := Lib.hid (fitKey_oth key)
  have HV := Lib.hid (fitValue_oth k v)
  have hl : fitLabel k l = 0 ∨ fitLabel k l = 1 := by unfold fitLabel; split <;> omega
  have hks := fitKey_size key
  have hvs := fitValue_size k v
  generalize fitKind k = K at *
  generalize fitKey key = KEY at *
  generalize fitLabel k l = LAB at *
  generalize fitValue k v = VAL at *
  clear hk0 hk1 hk hv
  obtain ⟨o, ho⟩ : ∃ o : Nat, n0 % 6 = o := ⟨(n0 % 6).toNat, by omega⟩
  obtain ⟨m, hm⟩ : ∃ m : Nat, n1 % 5 = m := ⟨(n1 % 5).toNat, by omega⟩
  have ho5 : o ≤ 5 := by omega
  have hm4 : m ≤ 4 := by omega
  have HO := Lib.hid ho
  have HM := Lib.hid hm
  clear ho hm
  rcases hl with rfl | rfl
  · go_enter Try.func9, Try.ntmps9
    go_wp2_with fail
    refine (shown11_any _).mono ?_
    rintro e w1 ⟨rfl, hb1⟩
    obtain ⟨hb1c, hb1f⟩ := bcell hb1
    have hb1n := below_next (w := w) (by (repeat (first | exact Below.refl _ _ | assumption | (refine Below.drew ?_) | (refine below_drewN ?_ _) | (refine Below.alloc ?_ (by first | omega | (simp; done) | (simp; omega)) _) | (refine Below.setCell ?_ (by first | omega | (simp; done) | (simp; omega)) _)))) hb1
    have hb1z : w.heap.size < w1.heap.size := by have := hb1.size; first | omega | (simp at this; omega)
    have z0 : w.heap.size < w1.heap.size := by have := hb1.size; first | omega | (simp at this; omega)
    have z1 : w.heap.size + 1 < w1.heap.size := by have := hb1.size; first | omega | (simp at this; omega)
    have z2 : w.heap.size + 1 + 1 < w1.heap.size := by have := hb1.size; first | omega | (simp at this; omega)
    go_wp2_with fail
    refine (HF.out _).mono ?_
    rintro e w2 ⟨rfl, hb2⟩
    obtain ⟨hb2c, hb2f⟩ := bcell hb2
    have hb2n := below_next (w := w) (by (repeat (first | exact Below.refl _ _ | assumption | (refine Below.drew ?_) | (refine below_drewN ?_ _) | (refine Below.alloc ?_ (by first | omega | (simp; done) | (simp; omega)) _) | (refine Below.setCell ?_ (by first | omega | (simp; done) | (simp; omega)) _)))) hb2
    have hb2z : w.heap.size < w2.heap.size := by have := hb2.size; first | omega | (simp at this; omega)
    have := HO.out
    have := HM.out
    go_wp2_with fail
    have hbW : Below w.heap.size w (w2.alloc (Obj.cells #[.int .i64 K, .string KEY, .int .i64 0, .string VAL] 29)) := (by (repeat (first | exact Below.refl _ _ | assumption | (refine Below.drew ?_) | (refine below_drewN ?_ _) | (refine Below.alloc ?_ (by first | omega | (simp; done) | (simp; omega)) _) | (refine Below.setCell ?_ (by first | omega | (simp; done) | (simp; omega)) _))))
    have X0 : (w2.alloc (Obj.cells #[.int .i64 K, .string KEY, .int .i64 0, .string VAL] 29)).cell? ⟨w2.heap.size, 0, none⟩ = some (.int .i64 K) := by simp [go_sem]
    have X1 : (w2.alloc (Obj.cells #[.int .i64 K, .string KEY, .int .i64 0, .string VAL] 29)).cell? ⟨w2.heap.size, 1, none⟩ = some (.string KEY) := by simp [go_sem]
    have X2 : (w2.alloc (Obj.cells #[.int .i64 K, .string KEY, .int .i64 0, .string VAL] 29)).cell? ⟨w2.heap.size, 2, none⟩ = some (.int .i64 0) := by simp [go_sem]
    have X3 : (w2.alloc (Obj.cells #[.int .i64 K, .string KEY, .int .i64 0, .string VAL] 29)).cell? ⟨w2.heap.size, 3, none⟩ = some (.string VAL) := by simp [go_sem]
    have hz12 : w1.heap.size < w2.heap.size := by have := hb2.size; simp at this; omega
    have C0 : (w2.alloc (Obj.cells #[.int .i64 K, .string KEY, .int .i64 0, .string VAL] 29)).cell? ⟨w1.heap.size, 0, none⟩ = some (.int .i64 0) := by simp [go_sem, hb2c, hz12]
    have C1 : (w2.alloc (Obj.cells #[.int .i64 K, .string KEY, .int .i64 0, .string VAL] 29)).cell? ⟨w1.heap.size, 1, none⟩ = some (.int .i64 0) := by simp [go_sem, hb2c, hz12]
    have C2 : (w2.alloc (Obj.cells #[.int .i64 K, .string KEY, .int .i64 0, .string VAL] 29)).cell? ⟨w1.heap.size, 2, none⟩ = some (.int .i64 0) := by simp [go_sem, hb2c, hz12]
    have C3 : (w2.alloc (Obj.cells #[.int .i64 K, .string KEY, .int .i64 0, .string VAL] 29)).cell? ⟨w1.heap.size, 3, none⟩ = some (.int .i64 0) := by simp [go_sem, hb2c, hz12]
    have C4 : (w2.alloc (Obj.cells #[.int .i64 K, .string KEY, .int .i64 0, .string VAL] 29)).cell? ⟨w1.heap.size, 4, none⟩ = some (.int .i64 (1 + n2 % 4)) := by simp [go_sem, hb2c, hz12]
    have C5 : (w2.alloc (Obj.cells #[.int .i64 K, .string KEY, .int .i64 0, .string VAL] 29)).cell? ⟨w1.heap.size, 5, none⟩ = some (.int .i64 (1 + n3 % 3)) := by simp [go_sem, hb2c, hz12]
    have hW0 : (w2.alloc (Obj.cells #[.int .i64 K, .string KEY, .int .i64 0, .string VAL] 29)).heap.size = w2.heap.size + 1 := by simp
    have hHW : w.heap.size < w2.heap.size := by omega
    clear hb1 hb1c hb1f hb1n hb1z hb2 hb2c hb2f hb2n hb2z z0 z1 z2 HF
    generalize (w2.alloc (Obj.cells #[.int .i64 K, .string KEY, .int .i64 0, .string VAL] 29)) = W0 at *
    generalize w2.heap.size = X at *
    generalize w1.heap.size = G at *
    clear w1 w2
    have HL := World.ownsRow_lit (base := X + 1) (e := 51) (size := 7) W0 #[] 0 (by omega) (by simp [maxLen]) rfl
    rw [hW0] at HL
    go_loopw [14, 15] (fun r i wr => ∃ j : Nat, j ≤ o ∧ i = .int .i64 j ∧ wr.ownsRow (X + 1) 51 7 r j (othCells j) ∧ Below (X + 1) W0 wr) (fun _ i _ => o - (intOf i).toNat)
    case atStart => exact ⟨0, by omega, rfl, HL, (Below.refl _ _).alloc (by omega) _⟩
    case round =>
      obtain ⟨j, hj, rfl, hown, hbj⟩ := hrel
      have hsz := hbj.size
      by_cases hlt : j < o
      · have hcv : (convert 22 9 (.slice (some ⟨wr.heap.size, 0, none⟩) 2 2)).run Try.prog (wr.alloc (.cells #[.int .u8 122, .int .u8 (97 + (j : Int))] 5)) = .ok (.string (othKey j)) (wr.alloc (.cells #[.int .u8 122, .int .u8 (97 + (j : Int))] 5)) :=
          run_string (P := Try.prog) 22 9 5 Try.underlying22 Try.underlying5 Try.underlying9 (c := 2) (xs := [122, 97 + (j : Int)]) (rd_new _ _ _ rfl (by simp))
        go_wp2_with (at_builtin; go_loud (refine wpList_append_at (w0 := W0) (X + 1) (wr.heap.size + 1) (by simp) rfl _ _ 46 51 _ 7 104 rfl Try.underlying46 info_con rfl (by decide) (by decide) _ j (othCells j) _ (by rfl) (by rfl) (hown.alloc _) (by rfl) (by simp [Value.oneCell']) (hbj.alloc (by omega) _) (by simp; omega) (by omega) ?_))
        intro r2 w3 hown2 hb3 _ _
        go_wp2_with fail
        go_roundw
        case rel => exact ⟨j + 1, by omega, by go_num, by rw [othCells_succ]; exact hown2, hb3⟩
        case measure => simp [intOf]; omega
      · obtain rfl : j = o := by omega
        have hbj' : Below W0.heap.size W0 wr := by rw [hW0]; exact hbj
        obtain ⟨hjc, hjf⟩ := bcell hbj'
        replace X0 := (hjc X 0 (by omega)).trans X0
        replace X1 := (hjc X 1 (by omega)).trans X1
        replace X2 := (hjc X 2 (by omega)).trans X2
        replace X3 := (hjc X 3 (by omega)).trans X3
        replace C0 := (hjc G 0 (by omega)).trans C0
        replace C1 := (hjc G 1 (by omega)).trans C1
        replace C2 := (hjc G 2 (by omega)).trans C2
        replace C3 := (hjc G 3 (by omega)).trans C3
        replace C4 := (hjc G 4 (by omega)).trans C4
        replace C5 := (hjc G 5 (by omega)).trans C5
        have hbw : Below w.heap.size w wr := below_next hbW hbj'
        clear hjc hjf hbj hbj' hbW HL
        have HOWN := Lib.hid hown
        clear hown
        go_wp2_with fail
        have hSX : X < wr.heap.size := by omega
        have hSG : G < wr.heap.size := by omega
        have P0 : (wr.alloc (Obj.cells #[.string KEY, .bool false, .bool false, .string ⟨#[]⟩, .string ⟨#[]⟩, .slice none 0 0, .slice none 0 0] 51)).cell? ⟨wr.heap.size, 0, none⟩ = some (.string KEY) := by simp [go_sem]
        have P1 : (wr.alloc (Obj.cells #[.string KEY, .bool false, .bool false, .string ⟨#[]⟩, .string ⟨#[]⟩, .slice none 0 0, .slice none 0 0] 51)).cell? ⟨wr.heap.size, 1, none⟩ = some (.bool false) := by simp [go_sem]
        have P2 : (wr.alloc (Obj.cells #[.string KEY, .bool false, .bool false, .string ⟨#[]⟩, .string ⟨#[]⟩, .slice none 0 0, .slice none 0 0] 51)).cell? ⟨wr.heap.size, 2, none⟩ = some (.bool false) := by simp [go_sem]
        have P3 : (wr.alloc (Obj.cells #[.string KEY, .bool false, .bool false, .string ⟨#[]⟩, .string ⟨#[]⟩, .slice none 0 0, .slice none 0 0] 51)).cell? ⟨wr.heap.size, 3, none⟩ = some (.string ⟨#[]⟩) := by simp [go_sem]
        have P4 : (wr.alloc (Obj.cells #[.string KEY, .bool false, .bool false, .string ⟨#[]⟩, .string ⟨#[]⟩, .slice none 0 0, .slice none 0 0] 51)).cell? ⟨wr.heap.size, 4, none⟩ = some (.string ⟨#[]⟩) := by simp [go_sem]
        have P5 : (wr.alloc (Obj.cells #[.string KEY, .bool false, .bool false, .string ⟨#[]⟩, .string ⟨#[]⟩, .slice none 0 0, .slice none 0 0] 51)).cell? ⟨wr.heap.size, 5, none⟩ = some (.slice none 0 0) := by simp [go_sem]
        have P6 : (wr.alloc (Obj.cells #[.string KEY, .bool false, .bool false, .string ⟨#[]⟩, .string ⟨#[]⟩, .slice none 0 0, .slice none 0 0] 51)).cell? ⟨wr.heap.size, 6, none⟩ = some (.slice none 0 0) := by simp [go_sem]
        have PF : (wr.alloc (Obj.cells #[.string KEY, .bool false, .bool false, .string ⟨#[]⟩, .string ⟨#[]⟩, .slice none 0 0, .slice none 0 0] 51)).frozen? ⟨wr.heap.size, 5, none⟩ = false := by simp [go_sem]
        replace X0 := (World.cell?_alloc_past (Obj.cells #[.string KEY, .bool false, .bool false, .string ⟨#[]⟩, .string ⟨#[]⟩, .slice none 0 0, .slice none 0 0] 51) _ _ hSX).trans X0
        replace X1 := (World.cell?_alloc_past (Obj.cells #[.string KEY, .bool false, .bool false, .string ⟨#[]⟩, .string ⟨#[]⟩, .slice none 0 0, .slice none 0 0] 51) _ _ hSX).trans X1
        replace X2 := (World.cell?_alloc_past (Obj.cells #[.string KEY, .bool false, .bool false, .string ⟨#[]⟩, .string ⟨#[]⟩, .slice none 0 0, .slice none 0 0] 51) _ _ hSX).trans X2
        replace X3 := (World.cell?_alloc_past (Obj.cells #[.string KEY, .bool false, .bool false, .string ⟨#[]⟩, .string ⟨#[]⟩, .slice none 0 0, .slice none 0 0] 51) _ _ hSX).trans X3
        replace C0 := (World.cell?_alloc_past (Obj.cells #[.string KEY, .bool false, .bool false, .string ⟨#[]⟩, .string ⟨#[]⟩, .slice none 0 0, .slice none 0 0] 51) _ _ hSG).trans C0
        replace C1 := (World.cell?_alloc_past (Obj.cells #[.string KEY, .bool false, .bool false, .string ⟨#[]⟩, .string ⟨#[]⟩, .slice none 0 0, .slice none 0 0] 51) _ _ hSG).trans C1
        replace C2 := (World.cell?_alloc_past (Obj.cells #[.string KEY, .bool false, .bool false, .string ⟨#[]⟩, .string ⟨#[]⟩, .slice none 0 0, .slice none 0 0] 51) _ _ hSG).trans C2
        replace C3 := (World.cell?_alloc_past (Obj.cells #[.string KEY, .bool false, .bool false, .string ⟨#[]⟩, .string ⟨#[]⟩, .slice none 0 0, .slice none 0 0] 51) _ _ hSG).trans C3
        replace C4 := (World.cell?_alloc_past (Obj.cells #[.string KEY, .bool false, .bool false, .string ⟨#[]⟩, .string ⟨#[]⟩, .slice none 0 0, .slice none 0 0] 51) _ _ hSG).trans C4
        replace C5 := (World.cell?_alloc_past (Obj.cells #[.string KEY, .bool false, .bool false, .string ⟨#[]⟩, .string ⟨#[]⟩, .slice none 0 0, .slice none 0 0] 51) _ _ hSG).trans C5
        have hbm : Below w.heap.size w (wr.alloc (Obj.cells #[.string KEY, .bool false, .bool false, .string ⟨#[]⟩, .string ⟨#[]⟩, .slice none 0 0, .slice none 0 0] 51)) := (by (repeat (first | exact Below.refl _ _ | assumption | (refine Below.drew ?_) | (refine below_drewN ?_ _) | (refine Below.alloc ?_ (by first | omega | (simp; done) | (simp; omega)) _) | (refine Below.setCell ?_ (by first | omega | (simp; done) | (simp; omega)) _))))
        have hWM : (wr.alloc (Obj.cells #[.string KEY, .bool false, .bool false, .string ⟨#[]⟩, .string ⟨#[]⟩, .slice none 0 0, .slice none 0 0] 51)).heap.size = wr.heap.size + 1 := by simp
        have hwS : w.heap.size < wr.heap.size := by omega
        have hOM : Below wr.heap.size wr (wr.alloc (Obj.cells #[.string KEY, .bool false, .bool false, .string ⟨#[]⟩, .string ⟨#[]⟩, .slice none 0 0, .slice none 0 0] 51)) := (Below.refl _ _).alloc (Nat.le_refl _) _
        clear hbw
        generalize (wr.alloc (Obj.cells #[.string KEY, .bool false, .bool false, .string ⟨#[]⟩, .string ⟨#[]⟩, .slice none 0 0, .slice none 0 0] 51)) = WM at *
        generalize hSe : wr.heap.size = S at *
        obtain ⟨i0, hi0, hz0, hz1, hz2⟩ := info_parts info_str
        have HI0 := Lib.hid hi0
        have HZ1 := Lib.hid hz1
        have HZ2 := Lib.hid hz2
        have HZ0 := Lib.hid hz0
        clear hi0 hz0 hz1 hz2
        go_loopw [17] (fun i wq => ∃ (q : Nat) (sv : Value), q ≤ m ∧ i = .int .i64 q ∧ wq.cell? ⟨S, 5, none⟩ = some sv ∧ wq.frozen? ⟨S, 5, none⟩ = false ∧ wq.ownsRow (S + 1) 9 1 sv q (strs ((List.range q).map othVal)) ∧
          wq.cell? ⟨S, 0, none⟩ = some (.string KEY) ∧ wq.cell? ⟨S, 1, none⟩ = some (.bool false) ∧ wq.cell? ⟨S, 2, none⟩ = some (.bool false) ∧ wq.cell? ⟨S, 3, none⟩ = some (.string ⟨#[]⟩) ∧ wq.cell? ⟨S, 4, none⟩ = some (.string ⟨#[]⟩) ∧ wq.cell? ⟨S, 6, none⟩ = some (.slice none 0 0) ∧
          Below S WM wq) (fun i _ => m - (intOf i).toNat)
        case atStart => exact ⟨0, _, by omega, rfl, P5, PF, World.ownsRow_nil _ _ _ _, P0, P1, P2, P3, P4, P6, Below.refl _ _⟩
        case round =>
          obtain ⟨q, sv, hq, rfl, c5, f5, hown, c0, c1, c2, c3, c4, c6, hbq⟩ := hrel
          have hsz := hbq.size
          have X2q := (hbq.cell (p := ⟨X, 2, none⟩) hSX).trans X2
          have nS : some S ≠ sv.ownBlock := fun h => by have := own_base hown _ h.symm; omega
          have nX : some X ≠ sv.ownBlock := fun h => by have := own_base hown _ h.symm; omega
          have hSw : S < wr.heap.size := by omega
          have hSw2 : S < wr.heap.size + 1 := by omega
          have hXw : X < wr.heap.size := by omega
          have hXw2 : X < wr.heap.size + 1 := by omega
          have WT := Lib.hid hWM
          by_cases hlt : q < m
          · have hwr : IntKind.u8.wrap (IntKind.i64.wrap (97 + (q : Int))) = 97 + (q : Int) := by rw [show IntKind.i64.wrap (97 + (q : Int)) = 97 + (q : Int) by rw [IntKind.wrap_i64]; omega, IntKind.wrap_u8]; omega
            have hrd : Rd (wr.alloc (.cells #[.int .u8 61, .int .u8 (97 + (q : Int))] 5)) (some ⟨wr.heap.size, 0, none⟩) 2 1 (nums .u8 [61, 97 + (q : Int)]) := rd_new _ _ _ rfl (by simp)
            have hcv1 : (convert 22 9 (.slice (some ⟨wr.heap.size, 0, none⟩) 2 2)).run Try.prog ((wr.alloc (.cells #[.int .u8 61, .int .u8 (97 + (q : Int))] 5)).drew) = .ok (.string (othVal q)) ((wr.alloc (.cells #[.int .u8 61, .int .u8 (97 + (q : Int))] 5)).drew) :=
              run_string (P := Try.prog) 22 9 5 Try.underlying22 Try.underlying5 Try.underlying9 (c := 2) (xs := [61, 97 + (q : Int)]) hrd
            have hnews : ∀ (j : Nat) (u : Value), [Value.string (othVal q)][j]? = some u → ((((wr.alloc (.cells #[.int .u8 61, .int .u8 (97 + (q : Int))] 5)).alloc (.cells #[.string (othVal q)] 9)).drew).cell? ((⟨wr.heap.size + 1, 0, none⟩ : Addr).add j)) = some u := by
              intro j u hj
              cases j with
              | zero => simp at hj; subst hj; rw [add_at]; simp [go_sem]
              | succ j => simp at hj
            have hA : (((wr.alloc (.cells #[.int .u8 61, .int .u8 (97 + (q : Int))] 5)).alloc (.cells #[.string (othVal q)] 9)).drew).ownsRow (S + 1) 9 1 sv q (strs ((List.range q).map othVal)) := ((hown.alloc _).alloc _).drew
            have h63 : q + 1 ≤ maxLen := by simp only [maxLen]; omega
            have hby : (q + 1) * 16 ≤ 140737488355328 := by omega
            have hH : (((wr.alloc (.cells #[.int .u8 61, .int .u8 (97 + (q : Int))] 5)).alloc (.cells #[.string (othVal q)] 9)).drew).heap.size = wr.heap.size + 2 := by simp
            have hbs : S + 1 ≤ (((wr.alloc (.cells #[.int .u8 61, .int .u8 (97 + (q : Int))] 5)).alloc (.cells #[.string (othVal q)] 9)).drew).heap.size := by rw [hH]; omega
            have h1c : ∀ u ∈ [Value.string (othVal q)], u.oneCell' = true := by simp [Value.oneCell']
            have hlS : S < (((wr.alloc (.cells #[.int .u8 61, .int .u8 (97 + (q : Int))] 5)).alloc (.cells #[.string (othVal q)] 9)).drew).heap.size := by rw [hH]; omega
            have hlX : X < (((wr.alloc (.cells #[.int .u8 61, .int .u8 (97 + (q : Int))] 5)).alloc (.cells #[.string (othVal q)] 9)).drew).heap.size := by rw [hH]; omega
            have hfz : (((wr.alloc (.cells #[.int .u8 61, .int .u8 (97 + (q : Int))] 5)).alloc (.cells #[.string (othVal q)] 9)).drew).frozen? ⟨S, 5, none⟩ = false := by simp [go_sem, hSw, hSw2, f5]
            have hcX : (((wr.alloc (.cells #[.int .u8 61, .int .u8 (97 + (q : Int))] 5)).alloc (.cells #[.string (othVal q)] 9)).drew).cell? ⟨X, 2, none⟩ = some (.int .i64 0) := by simp [go_sem, hXw, hXw2, X2q]
            have hcS : (((wr.alloc (.cells #[.int .u8 61, .int .u8 (97 + (q : Int))] 5)).alloc (.cells #[.string (othVal q)] 9)).drew).cell? ⟨S, 5, none⟩ = some sv := by simp [go_sem, hSw, hSw2, c5]
            have hBW : Below S WM (((wr.alloc (.cells #[.int .u8 61, .int .u8 (97 + (q : Int))] 5)).alloc (.cells #[.string (othVal q)] 9)).drew) := ((hbq.alloc (by omega) _).alloc (by simp; omega) _).drew
            have hbS : S ≤ (((wr.alloc (.cells #[.int .u8 61, .int .u8 (97 + (q : Int))] 5)).alloc (.cells #[.string (othVal q)] 9)).drew).heap.size := by omega
            have hob : ∀ k, sv.ownBlock = some k → S ≤ k := fun k hk => by have := own_base hown k hk; omega
            have hc0 : (((wr.alloc (.cells #[.int .u8 61, .int .u8 (97 + (q : Int))] 5)).alloc (.cells #[.string (othVal q)] 9)).drew).cell? ⟨S, 0, none⟩ = some (.string KEY) := by simp [go_sem, hSw, hSw2, c0]
            have hc1 : (((wr.alloc (.cells #[.int .u8 61, .int .u8 (97 + (q : Int))] 5)).alloc (.cells #[.string (othVal q)] 9)).drew).cell? ⟨S, 1, none⟩ = some (.bool false) := by simp [go_sem, hSw, hSw2, c1]
            have hc2 : (((wr.alloc (.cells #[.int .u8 61, .int .u8 (97 + (q : Int))] 5)).alloc (.cells #[.string (othVal q)] 9)).drew).cell? ⟨S, 2, none⟩ = some (.bool false) := by simp [go_sem, hSw, hSw2, c2]
            have hc3 : (((wr.alloc (.cells #[.int .u8 61, .int .u8 (97 + (q : Int))] 5)).alloc (.cells #[.string (othVal q)] 9)).drew).cell? ⟨S, 3, none⟩ = some (.string ⟨#[]⟩) := by simp [go_sem, hSw, hSw2, c3]
            have hc4 : (((wr.alloc (.cells #[.int .u8 61, .int .u8 (97 + (q : Int))] 5)).alloc (.cells #[.string (othVal q)] 9)).drew).cell? ⟨S, 4, none⟩ = some (.string ⟨#[]⟩) := by simp [go_sem, hSw, hSw2, c4]
            have hc6 : (((wr.alloc (.cells #[.int .u8 61, .int .u8 (97 + (q : Int))] 5)).alloc (.cells #[.string (othVal q)] 9)).drew).cell? ⟨S, 6, none⟩ = some (.slice none 0 0) := by simp [go_sem, hSw, hSw2, c6]
            have HST := Lib.hid hA
            clear hA
            have hlt' : (q : Int) < m := by omega
            clear hrd
            go_wp2_with fail
            refine wp_region_noPanic ?_
            refine wp_region_held_drew (S := fun w' => w'.cell? ⟨X, 2, none⟩ = some (.int .i64 0)) (by kernel_rfl) ?hS11 ?rest11
            case hS11 =>
              (try dsimp only)
              first | go_keep | assumption | (simp [go_sem, show ¬ S = X by omega, cX']; done)
            case rest11 =>
              intro hHeld
              refine wpAnyH_take (i := 0) (v := ?v1) rfl (by kernel_rfl) (by kernel_rfl) (by kernel_rfl) (fun _ _ _ h => h) (Or.inl ⟨by rfl, ?hy1⟩) (by assumption) ?_
              case hy1 => (intro w hSw; (try dsimp only at hSw); go_split_ands; go_simp <;> with_reducible rfl)
              (try simp only [Act.put, List.setIfInBounds_toArray, List.set_cons_zero, List.set_cons_succ])
              refine wpAnyH_take (i := 1) (v := ?v2) rfl (by kernel_rfl) (by kernel_rfl) (by kernel_rfl) (fun _ _ _ h => h) (Or.inl ⟨by rfl, ?hy2⟩) (by assumption) ?_
              case hy2 => (intro w hSw; (try dsimp only at hSw); go_split_ands; go_simp <;> with_reducible rfl)
              (try simp only [Act.put, List.setIfInBounds_toArray, List.set_cons_zero, List.set_cons_succ])
              refine wpAnyH_take (i := 2) (v := ?v3) rfl (by kernel_rfl) (by kernel_rfl) (by kernel_rfl) (fun _ _ _ h => h) (Or.inl ⟨by rfl, ?hy3⟩) (by assumption) ?_
              case hy3 => (intro w hSw; (try dsimp only at hSw); go_split_ands; go_simp <;> with_reducible rfl)
              (try simp only [Act.put, List.setIfInBounds_toArray, List.set_cons_zero, List.set_cons_succ])
              refine wpAnyH_take (i := 3) (v := ?v4) rfl (by kernel_rfl) (by kernel_rfl) (by kernel_rfl) (fun _ _ _ h => h) (Or.inl ⟨by rfl, ?hy4⟩) (by assumption) ?_
              case hy4 => (intro w hSw; (try dsimp only at hSw); go_split_ands; go_simp <;> with_reducible rfl)
              (try simp only [Act.put, List.setIfInBounds_toArray, List.set_cons_zero, List.set_cons_succ])
              refine wpAnyH_take (i := 4) (v := ?v5) rfl (by kernel_rfl) (by kernel_rfl) (by kernel_rfl) (fun _ _ _ h => h) (Or.inl ⟨by rfl, ?hy5⟩) (by assumption) ?_
              case hy5 => (intro w hSw; (try dsimp only at hSw); go_split_ands; go_simp <;> with_reducible rfl)
              (try simp only [Act.put, List.setIfInBounds_toArray, List.set_cons_zero, List.set_cons_succ])
              refine wpAnyH_take (i := 5) (v := ?v6) rfl (by kernel_rfl) (by kernel_rfl) (by kernel_rfl) (fun _ _ _ h => h) (Or.inl ⟨by rfl, ?hy6⟩) (by assumption) ?_
              case hy6 => (intro w hSw; (try dsimp only at hSw); go_split_ands; go_simp <;> with_reducible rfl)
              (try simp only [Act.put, List.setIfInBounds_toArray, List.set_cons_zero, List.set_cons_succ])
              refine wpAnyH_take (i := 7) (v := ?v7) rfl (by kernel_rfl) (by kernel_rfl) (by kernel_rfl) (fun _ _ _ h => h) (Or.inl ⟨by rfl, ?hy7⟩) (by assumption) ?_
              case hy7 => (intro w hSw; (try dsimp only at hSw); go_split_ands; go_simp <;> with_reducible rfl)
              (try simp only [Act.put, List.setIfInBounds_toArray, List.set_cons_zero, List.set_cons_succ])
              refine wpAnyH_take (i := 8) (v := ?v8) rfl (by kernel_rfl) (by kernel_rfl) (by kernel_rfl) (fun _ _ _ h => h) (Or.inl ⟨by rfl, ?hy8⟩) (by assumption) ?_
              case hy8 => (intro w hSw; (try dsimp only at hSw); go_split_ands; go_simp <;> with_reducible rfl)
              (try simp only [Act.put, List.setIfInBounds_toArray, List.set_cons_zero, List.set_cons_succ])
              refine wpAnyH_take (i := 9) (v := ?v9) rfl (by kernel_rfl) (by kernel_rfl) (by kernel_rfl) (fun _ _ _ h => h) (Or.inl ⟨by rfl, ?hy9⟩) (by assumption) ?_
              case hy9 => (intro w hSw; (try dsimp only at hSw); go_split_ands; go_simp <;> with_reducible rfl)
              (try simp only [Act.put, List.setIfInBounds_toArray, List.set_cons_zero, List.set_cons_succ])
              refine wpAnyH_take (i := 14) (v := ?v10) rfl (by kernel_rfl) (by kernel_rfl) (by kernel_rfl) (fun _ _ _ h => h) (Or.inl ⟨by rfl, ?hy10⟩) (by assumption) ?_
              case hy10 => (intro w hSw; (try dsimp only at hSw); go_split_ands; go_simp <;> with_reducible rfl)
              (try simp only [Act.put, List.setIfInBounds_toArray, List.set_cons_zero, List.set_cons_succ])
              refine wpAnyH_ready (rs := [6, 10]) (by kernel_rfl) (by simp) ?_
              refine AllReadyH.cons rfl (fun K hK => ?step35) ?more35
              case step35 =>
                go_simp
                refine hK.out _ _ ?hS35 ?rest35
                case hS35 =>
                  (try dsimp only)
                  first | go_keep | assumption | (simp [go_sem, show ¬ S = X by omega, cX']; done)
                case rest35 =>
                  clear hHeld
                  intro hHeld
                  clear hK K
                  (try simp only [Act.put, List.setIfInBounds_toArray, List.set_cons_zero, List.set_cons_succ])
                  refine wpAnyH_ready (rs := [10]) (by kernel_rfl) (by simp) ?_
                  refine AllReadyH.cons rfl (fun K hK => ?step17) ?more17
                  case step17 =>
                    go_simp
                    refine hK.out _ _ ?hS17 ?rest17
                    case hS17 =>
                      (try dsimp only)
                      first | go_keep | assumption | (simp [go_sem, show ¬ S = X by omega, cX']; done)
                    case rest17 =>
                      clear hHeld
                      intro hHeld
                      clear hK K
                      (try simp only [Act.put, List.setIfInBounds_toArray, List.set_cons_zero, List.set_cons_succ])
                      refine wpAnyH_ready (rs := [11]) (by kernel_rfl) (by simp) ?_
                      refine AllReadyH.cons rfl (fun K hK => ?step16) ?more16
                      case step16 =>
                        go_simp
                        refine hK.out _ _ ?hS16 ?rest16
                        case hS16 =>
                          (try dsimp only)
                          first | go_keep | assumption | (simp [go_sem, show ¬ S = X by omega, cX']; done)
                        case rest16 =>
                          clear hHeld
                          intro hHeld
                          clear hK K
                          (try simp only [Act.put, List.setIfInBounds_toArray, List.set_cons_zero, List.set_cons_succ])
                          refine wpAnyH_ready (rs := [12]) (by kernel_rfl) (by simp) ?_
                          refine AllReadyH.cons rfl (fun K hK => ?step15) ?more15
                          case step15 =>
                            go_simp
                            refine hK.out _ _ ?hS15 ?rest15
                            case hS15 =>
                              (try dsimp only)
                              first | go_keep | assumption | (simp [go_sem, show ¬ S = X by omega, cX']; done)
                            case rest15 =>
                              clear hHeld
                              intro hHeld
                              clear hK K
                              (try simp only [Act.put, List.setIfInBounds_toArray, List.set_cons_zero, List.set_cons_succ])
                              refine wpAnyH_ready (rs := [13]) (by kernel_rfl) (by simp) ?_
                              refine AllReadyH.cons rfl (fun K hK => ?step14) ?more14
                              case step14 =>
                                refine step_append_lies _ (by rfl) _ _ _ (by rfl) (S + 1) 9 i0 _ 1 16 Try.underlying48 HI0.out HZ0.out HZ1.out HZ2.out rfl Nat.one_pos sv q (strs ((List.range q).map othVal)) (by rfl) HST.out ⟨wr.heap.size + 1, 0, none⟩ 1 1 [.string (othVal q)] (by rfl) (by rfl) hnews h1c Nat.one_pos h63 hby hbs (wr.heap.size + 2) hH ?_
                                intro gg cap w1 hown1 hgrow hat hgl
                                have fz := (hgrow.frozen_far ⟨S, 5, none⟩ hlS nS).trans hfz
                                have cX' := (hgrow.cell_far ⟨X, 2, none⟩ hlX nX).trans hcX
                                have cS' := (hgrow.cell_far ⟨S, 5, none⟩ hlS nS).trans hcS
                                refine hK.out _ _ ?hS14 ?rest14
                                case hS14 =>
                                  (try dsimp only)
                                  first | go_keep | assumption | (simp [go_sem, show ¬ S = X by omega, cX']; done)
                                case rest14 =>
                                  clear hHeld
                                  intro hHeld
                                  clear hK K
                                  (try simp only [Act.put, List.setIfInBounds_toArray, List.set_cons_zero, List.set_cons_succ])
                                  refine wpAnyH_take (i := 15) (v := ?v12) rfl (by kernel_rfl) (by kernel_rfl) (by kernel_rfl) (fun _ _ _ h => h) (Or.inl ⟨by rfl, ?hy12⟩) (by assumption) ?_
                                  case hy12 => (intro w hSw; (try dsimp only at hSw); go_split_ands; go_simp <;> with_reducible rfl)
                                  (try simp only [Act.put, List.setIfInBounds_toArray, List.set_cons_zero, List.set_cons_succ])
                                  refine wpAnyH_ready (rs := [16]) (by kernel_rfl) (by simp) ?_
                                  refine AllReadyH.cons rfl (fun K hK => ?step13) ?more13
                                  case step13 =>
                                    go_simp
                                    refine hK.out _ _ ?hS13 ?rest13
                                    case hS13 =>
                                      (try dsimp only)
                                      first | go_keep | assumption | (simp [go_sem, show ¬ S = X by omega, cX']; done)
                                    case rest13 =>
                                      clear hHeld
                                      intro hHeld
                                      clear hK K
                                      (try simp only [Act.put, List.setIfInBounds_toArray, List.set_cons_zero, List.set_cons_succ])
                                      refine wpAnyH_done (by kernel_rfl) ?_ _
                                      refine NoPanic.normal ?_
                                      go_wp2_with fail
                                      go_roundw
                                      case measure => (simp [intOf]; omega)
                                      case rel =>
                                        refine ⟨q + 1, _, by omega, by go_num, World.cell?_setCell_same' _ _ _ (by rw [cS']; rfl), by simp [go_sem, fz], by rw [strs_snoc]; exact ownsRow_setCell_below hown1 (Nat.lt_succ_self S) _, ?_, ?_, ?_, ?_, ?_, ?_, (hBW.grown hgrow hbS hob).setCell (Nat.le_refl _) _⟩
                                        · simp [go_sem, (hgrow.cell_far ⟨S, 0, none⟩ hlS nS).trans hc0]
                                        · simp [go_sem, (hgrow.cell_far ⟨S, 1, none⟩ hlS nS).trans hc1]
                                        · simp [go_sem, (hgrow.cell_far ⟨S, 2, none⟩ hlS nS).trans hc2]
                                        · simp [go_sem, (hgrow.cell_far ⟨S, 3, none⟩ hlS nS).trans hc3]
                                        · simp [go_sem, (hgrow.cell_far ⟨S, 4, none⟩ hlS nS).trans hc4]
                                        · simp [go_sem, (hgrow.cell_far ⟨S, 6, none⟩ hlS nS).trans hc6]
                                  case more13 =>
                                    exact AllReadyH.nil
                              case more14 =>
                                exact AllReadyH.nil
                          case more15 =>
                            exact AllReadyH.nil
                      case more16 =>
                        exact AllReadyH.nil
                  case more17 =>
                    exact AllReadyH.nil
              case more35 =>
                refine AllReadyH.cons rfl (fun K hK => ?step36) ?more36
                case step36 =>
                  go_simp
                  refine hK.out _ _ ?hS36 ?rest36
                  case hS36 =>
                    (try dsimp only)
                    first | go_keep | assumption | (simp [go_sem, show ¬ S = X by omega, cX']; done)
                  case rest36 =>
                    clear hHeld
                    intro hHeld
                    clear hK K
                    (try simp only [Act.put, List.setIfInBounds_toArray, List.set_cons_zero, List.set_cons_succ])
                    refine wpAnyH_ready (rs := [6, 11]) (by kernel_rfl) (by simp) ?_
                    refine AllReadyH.cons rfl (fun K hK => ?step33) ?more33
                    case step33 =>
                      go_simp
                      refine hK.out _ _ ?hS33 ?rest33
                      case hS33 =>
                        (try dsimp only)
                        first | go_keep | assumption | (simp [go_sem, show ¬ S = X by omega, cX']; done)
                      case rest33 =>
                        clear hHeld
                        intro hHeld
                        clear hK K
                        (try simp only [Act.put, List.setIfInBounds_toArray, List.set_cons_zero, List.set_cons_succ])
                        refine wpAnyH_ready (rs := [11]) (by kernel_rfl) (by simp) ?_
                        refine AllReadyH.cons rfl (fun K hK => ?step22) ?more22
                        case step22 =>
                          go_simp
                          refine hK.out _ _ ?hS22 ?rest22
                          case hS22 =>
                            (try dsimp only)
                            first | go_keep | assumption | (simp [go_sem, show ¬ S = X by omega, cX']; done)
                          case rest22 =>
                            clear hHeld
                            intro hHeld
                            clear hK K
                            (try simp only [Act.put, List.setIfInBounds_toArray, List.set_cons_zero, List.set_cons_succ])
                            refine wpAnyH_ready (rs := [12]) (by kernel_rfl) (by simp) ?_
                            refine AllReadyH.cons rfl (fun K hK => ?step21) ?more21
                            case step21 =>
                              go_simp
                              refine hK.out _ _ ?hS21 ?rest21
                              case hS21 =>
                                (try dsimp only)
                                first | go_keep | assumption | (simp [go_sem, show ¬ S = X by omega, cX']; done)
                              case rest21 =>
                                clear hHeld
                                intro hHeld
                                clear hK K
                                (try simp only [Act.put, List.setIfInBounds_toArray, List.set_cons_zero, List.set_cons_succ])
                                refine wpAnyH_ready (rs := [13]) (by kernel_rfl) (by simp) ?_
                                refine AllReadyH.cons rfl (fun K hK => ?step20) ?more20
                                case step20 =>
                                  refine step_append_lies _ (by rfl) _ _ _ (by rfl) (S + 1) 9 i0 _ 1 16 Try.underlying48 HI0.out HZ0.out HZ1.out HZ2.out rfl Nat.one_pos sv q (strs ((List.range q).map othVal)) (by rfl) HST.out ⟨wr.heap.size + 1, 0, none⟩ 1 1 [.string (othVal q)] (by rfl) (by rfl) hnews h1c Nat.one_pos h63 hby hbs (wr.heap.size + 2) hH ?_
                                  intro gg cap w1 hown1 hgrow hat hgl
                                  have fz := (hgrow.frozen_far ⟨S, 5, none⟩ hlS nS).trans hfz
                                  have cX' := (hgrow.cell_far ⟨X, 2, none⟩ hlX nX).trans hcX
                                  have cS' := (hgrow.cell_far ⟨S, 5, none⟩ hlS nS).trans hcS
                                  refine hK.out _ _ ?hS20 ?rest20
                                  case hS20 =>
                                    (try dsimp only)
                                    first | go_keep | assumption | (simp [go_sem, show ¬ S = X by omega, cX']; done)
                                  case rest20 =>
                                    clear hHeld
                                    intro hHeld
                                    clear hK K
                                    (try simp only [Act.put, List.setIfInBounds_toArray, List.set_cons_zero, List.set_cons_succ])
                                    refine wpAnyH_take (i := 15) (v := ?v18) rfl (by kernel_rfl) (by kernel_rfl) (by kernel_rfl) (fun _ _ _ h => h) (Or.inl ⟨by rfl, ?hy18⟩) (by assumption) ?_
                                    case hy18 => (intro w hSw; (try dsimp only at hSw); go_split_ands; go_simp <;> with_reducible rfl)
                                    (try simp only [Act.put, List.setIfInBounds_toArray, List.set_cons_zero, List.set_cons_succ])
                                    refine wpAnyH_ready (rs := [16]) (by kernel_rfl) (by simp) ?_
                                    refine AllReadyH.cons rfl (fun K hK => ?step19) ?more19
                                    case step19 =>
                                      go_simp
                                      refine hK.out _ _ ?hS19 ?rest19
                                      case hS19 =>
                                        (try dsimp only)
                                        first | go_keep | assumption | (simp [go_sem, show ¬ S = X by omega, cX']; done)
                                      case rest19 =>
                                        clear hHeld
                                        intro hHeld
                                        clear hK K
                                        (try simp only [Act.put, List.setIfInBounds_toArray, List.set_cons_zero, List.set_cons_succ])
                                        refine wpAnyH_done (by kernel_rfl) ?_ _
                                        refine NoPanic.normal ?_
                                        go_wp2_with fail
                                        go_roundw
                                        case measure => (simp [intOf]; omega)
                                        case rel =>
                                          refine ⟨q + 1, _, by omega, by go_num, World.cell?_setCell_same' _ _ _ (by rw [cS']; rfl), by simp [go_sem, fz], by rw [strs_snoc]; exact ownsRow_setCell_below hown1 (Nat.lt_succ_self S) _, ?_, ?_, ?_, ?_, ?_, ?_, (hBW.grown hgrow hbS hob).setCell (Nat.le_refl _) _⟩
                                          · simp [go_sem, (hgrow.cell_far ⟨S, 0, none⟩ hlS nS).trans hc0]
                                          · simp [go_sem, (hgrow.cell_far ⟨S, 1, none⟩ hlS nS).trans hc1]
                                          · simp [go_sem, (hgrow.cell_far ⟨S, 2, none⟩ hlS nS).trans hc2]
                                          · simp [go_sem, (hgrow.cell_far ⟨S, 3, none⟩ hlS nS).trans hc3]
                                          · simp [go_sem, (hgrow.cell_far ⟨S, 4, none⟩ hlS nS).trans hc4]
                                          · simp [go_sem, (hgrow.cell_far ⟨S, 6, none⟩ hlS nS).trans hc6]
                                    case more19 =>
                                      exact AllReadyH.nil
                                case more20 =>
                                  exact AllReadyH.nil
                            case more21 =>
                              exact AllReadyH.nil
                        case more22 =>
                          exact AllReadyH.nil
                    case more33 =>
                      refine AllReadyH.cons rfl (fun K hK => ?step34) ?more34
                      case step34 =>
                        go_simp
                        refine hK.out _ _ ?hS34 ?rest34
                        case hS34 =>
                          (try dsimp only)
                          first | go_keep | assumption | (simp [go_sem, show ¬ S = X by omega, cX']; done)
                        case rest34 =>
                          clear hHeld
                          intro hHeld
                          clear hK K
                          (try simp only [Act.put, List.setIfInBounds_toArray, List.set_cons_zero, List.set_cons_succ])
                          refine wpAnyH_ready (rs := [6, 12]) (by kernel_rfl) (by simp) ?_
                          refine AllReadyH.cons rfl (fun K hK => ?step31) ?more31
                          case step31 =>
                            go_simp
                            refine hK.out _ _ ?hS31 ?rest31
                            case hS31 =>
                              (try dsimp only)
                              first | go_keep | assumption | (simp [go_sem, show ¬ S = X by omega, cX']; done)
                            case rest31 =>
                              clear hHeld
                              intro hHeld
                              clear hK K
                              (try simp only [Act.put, List.setIfInBounds_toArray, List.set_cons_zero, List.set_cons_succ])
                              refine wpAnyH_ready (rs := [12]) (by kernel_rfl) (by simp) ?_
                              refine AllReadyH.cons rfl (fun K hK => ?step26) ?more26
                              case step26 =>
                                go_simp
                                refine hK.out _ _ ?hS26 ?rest26
                                case hS26 =>
                                  (try dsimp only)
                                  first | go_keep | assumption | (simp [go_sem, show ¬ S = X by omega, cX']; done)
                                case rest26 =>
                                  clear hHeld
                                  intro hHeld
                                  clear hK K
                                  (try simp only [Act.put, List.setIfInBounds_toArray, List.set_cons_zero, List.set_cons_succ])
                                  refine wpAnyH_ready (rs := [13]) (by kernel_rfl) (by simp) ?_
                                  refine AllReadyH.cons rfl (fun K hK => ?step25) ?more25
                                  case step25 =>
                                    refine step_append_lies _ (by rfl) _ _ _ (by rfl) (S + 1) 9 i0 _ 1 16 Try.underlying48 HI0.out HZ0.out HZ1.out HZ2.out rfl Nat.one_pos sv q (strs ((List.range q).map othVal)) (by rfl) HST.out ⟨wr.heap.size + 1, 0, none⟩ 1 1 [.string (othVal q)] (by rfl) (by rfl) hnews h1c Nat.one_pos h63 hby hbs (wr.heap.size + 2) hH ?_
                                    intro gg cap w1 hown1 hgrow hat hgl
                                    have fz := (hgrow.frozen_far ⟨S, 5, none⟩ hlS nS).trans hfz
                                    have cX' := (hgrow.cell_far ⟨X, 2, none⟩ hlX nX).trans hcX
                                    have cS' := (hgrow.cell_far ⟨S, 5, none⟩ hlS nS).trans hcS
                                    refine hK.out _ _ ?hS25 ?rest25
                                    case hS25 =>
                                      (try dsimp only)
                                      first | go_keep | assumption | (simp [go_sem, show ¬ S = X by omega, cX']; done)
                                    case rest25 =>
                                      clear hHeld
                                      intro hHeld
                                      clear hK K
                                      (try simp only [Act.put, List.setIfInBounds_toArray, List.set_cons_zero, List.set_cons_succ])
                                      refine wpAnyH_take (i := 15) (v := ?v23) rfl (by kernel_rfl) (by kernel_rfl) (by kernel_rfl) (fun _ _ _ h => h) (Or.inl ⟨by rfl, ?hy23⟩) (by assumption) ?_
                                      case hy23 => (intro w hSw; (try dsimp only at hSw); go_split_ands; go_simp <;> with_reducible rfl)
                                      (try simp only [Act.put, List.setIfInBounds_toArray, List.set_cons_zero, List.set_cons_succ])
                                      refine wpAnyH_ready (rs := [16]) (by kernel_rfl) (by simp) ?_
                                      refine AllReadyH.cons rfl (fun K hK => ?step24) ?more24
                                      case step24 =>
                                        go_simp
                                        refine hK.out _ _ ?hS24 ?rest24
                                        case hS24 =>
                                          (try dsimp only)
                                          first | go_keep | assumption | (simp [go_sem, show ¬ S = X by omega, cX']; done)
                                        case rest24 =>
                                          clear hHeld
                                          intro hHeld
                                          clear hK K
                                          (try simp only [Act.put, List.setIfInBounds_toArray, List.set_cons_zero, List.set_cons_succ])
                                          refine wpAnyH_done (by kernel_rfl) ?_ _
                                          refine NoPanic.normal ?_
                                          go_wp2_with fail
                                          go_roundw
                                          case measure => (simp [intOf]; omega)
                                          case rel =>
                                            refine ⟨q + 1, _, by omega, by go_num, World.cell?_setCell_same' _ _ _ (by rw [cS']; rfl), by simp [go_sem, fz], by rw [strs_snoc]; exact ownsRow_setCell_below hown1 (Nat.lt_succ_self S) _, ?_, ?_, ?_, ?_, ?_, ?_, (hBW.grown hgrow hbS hob).setCell (Nat.le_refl _) _⟩
                                            · simp [go_sem, (hgrow.cell_far ⟨S, 0, none⟩ hlS nS).trans hc0]
                                            · simp [go_sem, (hgrow.cell_far ⟨S, 1, none⟩ hlS nS).trans hc1]
                                            · simp [go_sem, (hgrow.cell_far ⟨S, 2, none⟩ hlS nS).trans hc2]
                                            · simp [go_sem, (hgrow.cell_far ⟨S, 3, none⟩ hlS nS).trans hc3]
                                            · simp [go_sem, (hgrow.cell_far ⟨S, 4, none⟩ hlS nS).trans hc4]
                                            · simp [go_sem, (hgrow.cell_far ⟨S, 6, none⟩ hlS nS).trans hc6]
                                      case more24 =>
                                        exact AllReadyH.nil
                                  case more25 =>
                                    exact AllReadyH.nil
                              case more26 =>
                                exact AllReadyH.nil
                          case more31 =>
                            refine AllReadyH.cons rfl (fun K hK => ?step32) ?more32
                            case step32 =>
                              go_simp
                              refine hK.out _ _ ?hS32 ?rest32
                              case hS32 =>
                                (try dsimp only)
                                first | go_keep | assumption | (simp [go_sem, show ¬ S = X by omega, cX']; done)
                              case rest32 =>
                                clear hHeld
                                intro hHeld
                                clear hK K
                                (try simp only [Act.put, List.setIfInBounds_toArray, List.set_cons_zero, List.set_cons_succ])
                                refine wpAnyH_ready (rs := [6]) (by kernel_rfl) (by simp) ?_
                                refine AllReadyH.cons rfl (fun K hK => ?step30) ?more30
                                case step30 =>
                                  go_simp
                                  refine hK.out _ _ ?hS30 ?rest30
                                  case hS30 =>
                                    (try dsimp only)
                                    first | go_keep | assumption | (simp [go_sem, show ¬ S = X by omega, cX']; done)
                                  case rest30 =>
                                    clear hHeld
                                    intro hHeld
                                    clear hK K
                                    (try simp only [Act.put, List.setIfInBounds_toArray, List.set_cons_zero, List.set_cons_succ])
                                    refine wpAnyH_ready (rs := [13]) (by kernel_rfl) (by simp) ?_
                                    refine AllReadyH.cons rfl (fun K hK => ?step29) ?more29
                                    case step29 =>
                                      refine step_append_lies _ (by rfl) _ _ _ (by rfl) (S + 1) 9 i0 _ 1 16 Try.underlying48 HI0.out HZ0.out HZ1.out HZ2.out rfl Nat.one_pos sv q (strs ((List.range q).map othVal)) (by rfl) HST.out ⟨wr.heap.size + 1, 0, none⟩ 1 1 [.string (othVal q)] (by rfl) (by rfl) hnews h1c Nat.one_pos h63 hby hbs (wr.heap.size + 2) hH ?_
                                      intro gg cap w1 hown1 hgrow hat hgl
                                      have fz := (hgrow.frozen_far ⟨S, 5, none⟩ hlS nS).trans hfz
                                      have cX' := (hgrow.cell_far ⟨X, 2, none⟩ hlX nX).trans hcX
                                      have cS' := (hgrow.cell_far ⟨S, 5, none⟩ hlS nS).trans hcS
                                      refine hK.out _ _ ?hS29 ?rest29
                                      case hS29 =>
                                        (try dsimp only)
                                        first | go_keep | assumption | (simp [go_sem, show ¬ S = X by omega, cX']; done)
                                      case rest29 =>
                                        clear hHeld
                                        intro hHeld
                                        clear hK K
                                        (try simp only [Act.put, List.setIfInBounds_toArray, List.set_cons_zero, List.set_cons_succ])
                                        refine wpAnyH_take (i := 15) (v := ?v27) rfl (by kernel_rfl) (by kernel_rfl) (by kernel_rfl) (fun _ _ _ h => h) (Or.inl ⟨by rfl, ?hy27⟩) (by assumption) ?_
                                        case hy27 => (intro w hSw; (try dsimp only at hSw); go_split_ands; go_simp <;> with_reducible rfl)
                                        (try simp only [Act.put, List.setIfInBounds_toArray, List.set_cons_zero, List.set_cons_succ])
                                        refine wpAnyH_ready (rs := [16]) (by kernel_rfl) (by simp) ?_
                                        refine AllReadyH.cons rfl (fun K hK => ?step28) ?more28
                                        case step28 =>
                                          go_simp
                                          refine hK.out _ _ ?hS28 ?rest28
                                          case hS28 =>
                                            (try dsimp only)
                                            first | go_keep | assumption | (simp [go_sem, show ¬ S = X by omega, cX']; done)
                                          case rest28 =>
                                            clear hHeld
                                            intro hHeld
                                            clear hK K
                                            (try simp only [Act.put, List.setIfInBounds_toArray, List.set_cons_zero, List.set_cons_succ])
                                            refine wpAnyH_done (by kernel_rfl) ?_ _
                                            refine NoPanic.normal ?_
                                            go_wp2_with fail
                                            go_roundw
                                            case measure => (simp [intOf]; omega)
                                            case rel =>
                                              refine ⟨q + 1, _, by omega, by go_num, World.cell?_setCell_same' _ _ _ (by rw [cS']; rfl), by simp [go_sem, fz], by rw [strs_snoc]; exact ownsRow_setCell_below hown1 (Nat.lt_succ_self S) _, ?_, ?_, ?_, ?_, ?_, ?_, (hBW.grown hgrow hbS hob).setCell (Nat.le_refl _) _⟩
                                              · simp [go_sem, (hgrow.cell_far ⟨S, 0, none⟩ hlS nS).trans hc0]
                                              · simp [go_sem, (hgrow.cell_far ⟨S, 1, none⟩ hlS nS).trans hc1]
                                              · simp [go_sem, (hgrow.cell_far ⟨S, 2, none⟩ hlS nS).trans hc2]
                                              · simp [go_sem, (hgrow.cell_far ⟨S, 3, none⟩ hlS nS).trans hc3]
                                              · simp [go_sem, (hgrow.cell_far ⟨S, 4, none⟩ hlS nS).trans hc4]
                                              · simp [go_sem, (hgrow.cell_far ⟨S, 6, none⟩ hlS nS).trans hc6]
                                        case more28 =>
                                          exact AllReadyH.nil
                                    case more29 =>
                                      exact AllReadyH.nil
                                case more30 =>
                                  exact AllReadyH.nil
                            case more32 =>
                              exact AllReadyH.nil
                      case more34 =>
                        exact AllReadyH.nil
                case more36 =>
                  exact AllReadyH.nil
          · obtain rfl : q = m := by omega
            have X3q := (hbq.cell (p := ⟨X, 3, none⟩) hSX).trans X3
            go_upto_if 84 with fail
            go_cut [] (fun wx => ∃ sv2 : Value, wx.cell? ⟨S, 5, none⟩ = some sv2 ∧ wx.ownsRow (S + 1) 9 1 sv2 (q + if has = true then 1 else 0) (strs (setThere q has VAL)) ∧
              wx.cell? ⟨S, 0, none⟩ = some (.string KEY) ∧ wx.cell? ⟨S, 1, none⟩ = some (.bool false) ∧ wx.cell? ⟨S, 2, none⟩ = some (.bool false) ∧ wx.cell? ⟨S, 3, none⟩ = some (.string ⟨#[]⟩) ∧ wx.cell? ⟨S, 4, none⟩ = some (.string ⟨#[]⟩) ∧ wx.cell? ⟨S, 6, none⟩ = some (.slice none 0 0) ∧
              Below S WM wx)
            case first =>
              cases has
              · go_wp2_with fail
                go_meet
                case rel => exact ⟨sv, c5, by simpa [setThere] using hown, c0, c1, c2, c3, c4, c6, hbq⟩
              · have hnews : ∀ (j : Nat) (u : Value), [Value.string VAL][j]? = some u → (((wr.alloc (.cells #[.string VAL] 9)).drew).cell? ((⟨wr.heap.size, 0, none⟩ : Addr).add j)) = some u := by
                  intro j u hj
                  cases j with
                  | zero => simp at hj; subst hj; rw [add_at]; simp [go_sem]
                  | succ j => simp at hj
                have hA : ((wr.alloc (.cells #[.string VAL] 9)).drew).ownsRow (S + 1) 9 1 sv q (strs ((List.range q).map othVal)) := (hown.alloc _).drew
                have h63 : q + 1 ≤ maxLen := by simp only [maxLen]; omega
                have hby : (q + 1) * 16 ≤ 140737488355328 := by omega
                have hH : ((wr.alloc (.cells #[.string VAL] 9)).drew).heap.size = wr.heap.size + 1 := by simp
                have hbs : S + 1 ≤ ((wr.alloc (.cells #[.string VAL] 9)).drew).heap.size := by rw [hH]; omega
                have h1c : ∀ u ∈ [Value.string VAL], u.oneCell' = true := by simp [Value.oneCell']
                have hlS : S < ((wr.alloc (.cells #[.string VAL] 9)).drew).heap.size := by rw [hH]; omega
                have hlX : X < ((wr.alloc (.cells #[.string VAL] 9)).drew).heap.size := by rw [hH]; omega
                have hfz : ((wr.alloc (.cells #[.string VAL] 9)).drew).frozen? ⟨S, 5, none⟩ = false := by simp [go_sem, hSw, f5]
                have hcX : ((wr.alloc (.cells #[.string VAL] 9)).drew).cell? ⟨X, 2, none⟩ = some (.int .i64 0) := by simp [go_sem, hXw, X2q]
                have hcX3 : ((wr.alloc (.cells #[.string VAL] 9)).drew).cell? ⟨X, 3, none⟩ = some (.string VAL) := by simp [go_sem, hXw, X3q]
                have hcS : ((wr.alloc (.cells #[.string VAL] 9)).drew).cell? ⟨S, 5, none⟩ = some sv := by simp [go_sem, hSw, c5]
                have hBW : Below S WM ((wr.alloc (.cells #[.string VAL] 9)).drew) := ((hbq.alloc (by omega) _)).drew
                have hbS : S ≤ ((wr.alloc (.cells #[.string VAL] 9)).drew).heap.size := by omega
                have hob : ∀ k, sv.ownBlock = some k → S ≤ k := fun k hk => by have := own_base hown k hk; omega
                have hc0 : ((wr.alloc (.cells #[.string VAL] 9)).drew).cell? ⟨S, 0, none⟩ = some (.string KEY) := by simp [go_sem, hSw, c0]
                have hc1 : ((wr.alloc (.cells #[.string VAL] 9)).drew).cell? ⟨S, 1, none⟩ = some (.bool false) := by simp [go_sem, hSw, c1]
                have hc2 : ((wr.alloc (.cells #[.string VAL] 9)).drew).cell? ⟨S, 2, none⟩ = some (.bool false) := by simp [go_sem, hSw, c2]
                have hc3 : ((wr.alloc (.cells #[.string VAL] 9)).drew).cell? ⟨S, 3, none⟩ = some (.string ⟨#[]⟩) := by simp [go_sem, hSw, c3]
                have hc4 : ((wr.alloc (.cells #[.string VAL] 9)).drew).cell? ⟨S, 4, none⟩ = some (.string ⟨#[]⟩) := by simp [go_sem, hSw, c4]
                have hc6 : ((wr.alloc (.cells #[.string VAL] 9)).drew).cell? ⟨S, 6, none⟩ = some (.slice none 0 0) := by simp [go_sem, hSw, c6]
                have HST := Lib.hid hA
                clear hA
                go_wp2_with fail
                refine wp_region_noPanic ?_
                refine wp_region_held_drew (S := fun w' => w'.cell? ⟨X, 2, none⟩ = some (.int .i64 0) ∧ w'.cell? ⟨X, 3, none⟩ = some (.string VAL)) (by kernel_rfl) ?hS46 ?rest46
                case hS46 =>
                  (try dsimp only)
                  first | go_keep | (constructor <;> assumption) | (constructor <;> simp [go_sem, show ¬ S = X by omega, cX', cX3']; done)
                case rest46 =>
                  intro hHeld
                  refine wpAnyH_take (i := 0) (v := ?v37) rfl (by kernel_rfl) (by kernel_rfl) (by kernel_rfl) (fun _ _ _ h => h) (Or.inl ⟨by rfl, ?hy37⟩) (by assumption) ?_
                  case hy37 => (intro w hSw; (try dsimp only at hSw); go_split_ands; go_simp <;> with_reducible rfl)
                  (try simp only [Act.put, List.setIfInBounds_toArray, List.set_cons_zero, List.set_cons_succ])
                  refine wpAnyH_take (i := 1) (v := ?v38) rfl (by kernel_rfl) (by kernel_rfl) (by kernel_rfl) (fun _ _ _ h => h) (Or.inl ⟨by rfl, ?hy38⟩) (by assumption) ?_
                  case hy38 => (intro w hSw; (try dsimp only at hSw); go_split_ands; go_simp <;> with_reducible rfl)
                  (try simp only [Act.put, List.setIfInBounds_toArray, List.set_cons_zero, List.set_cons_succ])
                  refine wpAnyH_take (i := 2) (v := ?v39) rfl (by kernel_rfl) (by kernel_rfl) (by kernel_rfl) (fun _ _ _ h => h) (Or.inl ⟨by rfl, ?hy39⟩) (by assumption) ?_
                  case hy39 => (intro w hSw; (try dsimp only at hSw); go_split_ands; go_simp <;> with_reducible rfl)
                  (try simp only [Act.put, List.setIfInBounds_toArray, List.set_cons_zero, List.set_cons_succ])
                  refine wpAnyH_take (i := 3) (v := ?v40) rfl (by kernel_rfl) (by kernel_rfl) (by kernel_rfl) (fun _ _ _ h => h) (Or.inl ⟨by rfl, ?hy40⟩) (by assumption) ?_
                  case hy40 => (intro w hSw; (try dsimp only at hSw); go_split_ands; go_simp <;> with_reducible rfl)
                  (try simp only [Act.put, List.setIfInBounds_toArray, List.set_cons_zero, List.set_cons_succ])
                  refine wpAnyH_take (i := 4) (v := ?v41) rfl (by kernel_rfl) (by kernel_rfl) (by kernel_rfl) (fun _ _ _ h => h) (Or.inl ⟨by rfl, ?hy41⟩) (by assumption) ?_
                  case hy41 => (intro w hSw; (try dsimp only at hSw); go_split_ands; go_simp <;> with_reducible rfl)
                  (try simp only [Act.put, List.setIfInBounds_toArray, List.set_cons_zero, List.set_cons_succ])
                  refine wpAnyH_take (i := 5) (v := ?v42) rfl (by kernel_rfl) (by kernel_rfl) (by kernel_rfl) (fun _ _ _ h => h) (Or.inl ⟨by rfl, ?hy42⟩) (by assumption) ?_
                  case hy42 => (intro w hSw; (try dsimp only at hSw); go_split_ands; go_simp <;> with_reducible rfl)
                  (try simp only [Act.put, List.setIfInBounds_toArray, List.set_cons_zero, List.set_cons_succ])
                  refine wpAnyH_take (i := 7) (v := ?v43) rfl (by kernel_rfl) (by kernel_rfl) (by kernel_rfl) (fun _ _ _ h => h) (Or.inl ⟨by rfl, ?hy43⟩) (by assumption) ?_
                  case hy43 => (intro w hSw; (try dsimp only at hSw); go_split_ands; go_simp <;> with_reducible rfl)
                  (try simp only [Act.put, List.setIfInBounds_toArray, List.set_cons_zero, List.set_cons_succ])
                  refine wpAnyH_take (i := 8) (v := ?v44) rfl (by kernel_rfl) (by kernel_rfl) (by kernel_rfl) (fun _ _ _ h => h) (Or.inl ⟨by rfl, ?hy44⟩) (by assumption) ?_
                  case hy44 => (intro w hSw; (try dsimp only at hSw); go_split_ands; go_simp <;> with_reducible rfl)
                  (try simp only [Act.put, List.setIfInBounds_toArray, List.set_cons_zero, List.set_cons_succ])
                  refine wpAnyH_take (i := 11) (v := ?v45) rfl (by kernel_rfl) (by kernel_rfl) (by kernel_rfl) (fun _ _ _ h => h) (Or.inl ⟨by rfl, ?hy45⟩) (by assumption) ?_
                  case hy45 => (intro w hSw; (try dsimp only at hSw); go_split_ands; go_simp <;> with_reducible rfl)
                  (try simp only [Act.put, List.setIfInBounds_toArray, List.set_cons_zero, List.set_cons_succ])
                  refine wpAnyH_ready (rs := [6, 9]) (by kernel_rfl) (by simp) ?_
                  refine AllReadyH.cons rfl (fun K hK => ?step55) ?more55
                  case step55 =>
                    go_simp
                    refine hK.out _ _ ?hS55 ?rest55
                    case hS55 =>
                      (try dsimp only)
                      first | go_keep | (constructor <;> assumption) | (constructor <;> simp [go_sem, show ¬ S = X by omega, cX', cX3']; done)
                    case rest55 =>
                      clear hHeld
                      intro hHeld
                      clear hK K
                      (try simp only [Act.put, List.setIfInBounds_toArray, List.set_cons_zero, List.set_cons_succ])
                      refine wpAnyH_ready (rs := [9]) (by kernel_rfl) (by simp) ?_
                      refine AllReadyH.cons rfl (fun K hK => ?step50) ?more50
                      case step50 =>
                        go_simp
                        refine hK.out _ _ ?hS50 ?rest50
                        case hS50 =>
                          (try dsimp only)
                          first | go_keep | (constructor <;> assumption) | (constructor <;> simp [go_sem, show ¬ S = X by omega, cX', cX3']; done)
                        case rest50 =>
                          clear hHeld
                          intro hHeld
                          clear hK K
                          (try simp only [Act.put, List.setIfInBounds_toArray, List.set_cons_zero, List.set_cons_succ])
                          refine wpAnyH_ready (rs := [10]) (by kernel_rfl) (by simp) ?_
                          refine AllReadyH.cons rfl (fun K hK => ?step49) ?more49
                          case step49 =>
                            refine step_append_lies _ (by rfl) _ _ _ (by rfl) (S + 1) 9 i0 _ 1 16 Try.underlying48 HI0.out HZ0.out HZ1.out HZ2.out rfl Nat.one_pos sv q (strs ((List.range q).map othVal)) (by rfl) HST.out ⟨wr.heap.size, 0, none⟩ 1 1 [.string VAL] (by rfl) (by rfl) hnews h1c Nat.one_pos h63 hby hbs (wr.heap.size + 1) hH ?_
                            intro gg cap w1 hown1 hgrow hat hgl
                            have fz := (hgrow.frozen_far ⟨S, 5, none⟩ hlS nS).trans hfz
                            have cX' := (hgrow.cell_far ⟨X, 2, none⟩ hlX nX).trans hcX
                            have cX3' := (hgrow.cell_far ⟨X, 3, none⟩ hlX nX).trans hcX3
                            have cS' := (hgrow.cell_far ⟨S, 5, none⟩ hlS nS).trans hcS
                            refine hK.out _ _ ?hS49 ?rest49
                            case hS49 =>
                              (try dsimp only)
                              first | go_keep | (constructor <;> assumption) | (constructor <;> simp [go_sem, show ¬ S = X by omega, cX', cX3']; done)
                            case rest49 =>
                              clear hHeld
                              intro hHeld
                              clear hK K
                              (try simp only [Act.put, List.setIfInBounds_toArray, List.set_cons_zero, List.set_cons_succ])
                              refine wpAnyH_take (i := 12) (v := ?v47) rfl (by kernel_rfl) (by kernel_rfl) (by kernel_rfl) (fun _ _ _ h => h) (Or.inl ⟨by rfl, ?hy47⟩) (by assumption) ?_
                              case hy47 => (intro w hSw; (try dsimp only at hSw); go_split_ands; go_simp <;> with_reducible rfl)
                              (try simp only [Act.put, List.setIfInBounds_toArray, List.set_cons_zero, List.set_cons_succ])
                              refine wpAnyH_ready (rs := [13]) (by kernel_rfl) (by simp) ?_
                              refine AllReadyH.cons rfl (fun K hK => ?step48) ?more48
                              case step48 =>
                                go_simp
                                refine hK.out _ _ ?hS48 ?rest48
                                case hS48 =>
                                  (try dsimp only)
                                  first | go_keep | (constructor <;> assumption) | (constructor <;> simp [go_sem, show ¬ S = X by omega, cX', cX3']; done)
                                case rest48 =>
                                  clear hHeld
                                  intro hHeld
                                  clear hK K
                                  (try simp only [Act.put, List.setIfInBounds_toArray, List.set_cons_zero, List.set_cons_succ])
                                  refine wpAnyH_done (by kernel_rfl) ?_ _
                                  refine NoPanic.normal ?_
                                  go_wp2_with fail
                                  go_meet
                                  case rel =>
                                    refine ⟨_, World.cell?_setCell_same' _ _ _ (by rw [cS']; rfl), by simpa [setThere, strs] using ownsRow_setCell_below hown1 (Nat.lt_succ_self S) _, ?_, ?_, ?_, ?_, ?_, ?_, (hBW.grown hgrow hbS hob).setCell (Nat.le_refl _) _⟩
                                    · simp [go_sem, (hgrow.cell_far ⟨S, 0, none⟩ hlS nS).trans hc0]
                                    · simp [go_sem, (hgrow.cell_far ⟨S, 1, none⟩ hlS nS).trans hc1]
                                    · simp [go_sem, (hgrow.cell_far ⟨S, 2, none⟩ hlS nS).trans hc2]
                                    · simp [go_sem, (hgrow.cell_far ⟨S, 3, none⟩ hlS nS).trans hc3]
                                    · simp [go_sem, (hgrow.cell_far ⟨S, 4, none⟩ hlS nS).trans hc4]
                                    · simp [go_sem, (hgrow.cell_far ⟨S, 6, none⟩ hlS nS).trans hc6]
                              case more48 =>
                                exact AllReadyH.nil
                          case more49 =>
                            exact AllReadyH.nil
                      case more50 =>
                        exact AllReadyH.nil
                  case more55 =>
                    refine AllReadyH.cons rfl (fun K hK => ?step56) ?more56
                    case step56 =>
                      go_simp
                      refine hK.out _ _ ?hS56 ?rest56
                      case hS56 =>
                        (try dsimp only)
                        first | go_keep | (constructor <;> assumption) | (constructor <;> simp [go_sem, show ¬ S = X by omega, cX', cX3']; done)
                      case rest56 =>
                        clear hHeld
                        intro hHeld
                        clear hK K
                        (try simp only [Act.put, List.setIfInBounds_toArray, List.set_cons_zero, List.set_cons_succ])
                        refine wpAnyH_ready (rs := [6]) (by kernel_rfl) (by simp) ?_
                        refine AllReadyH.cons rfl (fun K hK => ?step54) ?more54
                        case step54 =>
                          go_simp
                          refine hK.out _ _ ?hS54 ?rest54
                          case hS54 =>
                            (try dsimp only)
                            first | go_keep | (constructor <;> assumption) | (constructor <;> simp [go_sem, show ¬ S = X by omega, cX', cX3']; done)
                          case rest54 =>
                            clear hHeld
                            intro hHeld
                            clear hK K
                            (try simp only [Act.put, List.setIfInBounds_toArray, List.set_cons_zero, List.set_cons_succ])
                            refine wpAnyH_ready (rs := [10]) (by kernel_rfl) (by simp) ?_
                            refine AllReadyH.cons rfl (fun K hK => ?step53) ?more53
                            case step53 =>
                              refine step_append_lies _ (by rfl) _ _ _ (by rfl) (S + 1) 9 i0 _ 1 16 Try.underlying48 HI0.out HZ0.out HZ1.out HZ2.out rfl Nat.one_pos sv q (strs ((List.range q).map othVal)) (by rfl) HST.out ⟨wr.heap.size, 0, none⟩ 1 1 [.string VAL] (by rfl) (by rfl) hnews h1c Nat.one_pos h63 hby hbs (wr.heap.size + 1) hH ?_
                              intro gg cap w1 hown1 hgrow hat hgl
                              have fz := (hgrow.frozen_far ⟨S, 5, none⟩ hlS nS).trans hfz
                              have cX' := (hgrow.cell_far ⟨X, 2, none⟩ hlX nX).trans hcX
                              have cX3' := (hgrow.cell_far ⟨X, 3, none⟩ hlX nX).trans hcX3
                              have cS' := (hgrow.cell_far ⟨S, 5, none⟩ hlS nS).trans hcS
                              refine hK.out _ _ ?hS53 ?rest53
                              case hS53 =>
                                (try dsimp only)
                                first | go_keep | (constructor <;> assumption) | (constructor <;> simp [go_sem, show ¬ S = X by omega, cX', cX3']; done)
                              case rest53 =>
                                clear hHeld
                                intro hHeld
                                clear hK K
                                (try simp only [Act.put, List.setIfInBounds_toArray, List.set_cons_zero, List.set_cons_succ])
                                refine wpAnyH_take (i := 12) (v := ?v51) rfl (by kernel_rfl) (by kernel_rfl) (by kernel_rfl) (fun _ _ _ h => h) (Or.inl ⟨by rfl, ?hy51⟩) (by assumption) ?_
                                case hy51 => (intro w hSw; (try dsimp only at hSw); go_split_ands; go_simp <;> with_reducible rfl)
                                (try simp only [Act.put, List.setIfInBounds_toArray, List.set_cons_zero, List.set_cons_succ])
                                refine wpAnyH_ready (rs := [13]) (by kernel_rfl) (by simp) ?_
                                refine AllReadyH.cons rfl (fun K hK => ?step52) ?more52
                                case step52 =>
                                  go_simp
                                  refine hK.out _ _ ?hS52 ?rest52
                                  case hS52 =>
                                    (try dsimp only)
                                    first | go_keep | (constructor <;> assumption) | (constructor <;> simp [go_sem, show ¬ S = X by omega, cX', cX3']; done)
                                  case rest52 =>
                                    clear hHeld
                                    intro hHeld
                                    clear hK K
                                    (try simp only [Act.put, List.setIfInBounds_toArray, List.set_cons_zero, List.set_cons_succ])
                                    refine wpAnyH_done (by kernel_rfl) ?_ _
                                    refine NoPanic.normal ?_
                                    go_wp2_with fail
                                    go_meet
                                    case rel =>
                                      refine ⟨_, World.cell?_setCell_same' _ _ _ (by rw [cS']; rfl), by simpa [setThere, strs] using ownsRow_setCell_below hown1 (Nat.lt_succ_self S) _, ?_, ?_, ?_, ?_, ?_, ?_, (hBW.grown hgrow hbS hob).setCell (Nat.le_refl _) _⟩
                                      · simp [go_sem, (hgrow.cell_far ⟨S, 0, none⟩ hlS nS).trans hc0]
                                      · simp [go_sem, (hgrow.cell_far ⟨S, 1, none⟩ hlS nS).trans hc1]
                                      · simp [go_sem, (hgrow.cell_far ⟨S, 2, none⟩ hlS nS).trans hc2]
                                      · simp [go_sem, (hgrow.cell_far ⟨S, 3, none⟩ hlS nS).trans hc3]
                                      · simp [go_sem, (hgrow.cell_far ⟨S, 4, none⟩ hlS nS).trans hc4]
                                      · simp [go_sem, (hgrow.cell_far ⟨S, 6, none⟩ hlS nS).trans hc6]
                                case more52 =>
                                  exact AllReadyH.nil
                            case more53 =>
                              exact AllReadyH.nil
                        case more54 =>
                          exact AllReadyH.nil
                    case more56 =>
                      exact AllReadyH.nil
            case rest =>
              obtain ⟨sv2, T5, own2, T0, T1, T2, T3, T4, T6, hbt⟩ := hcut
              obtain ⟨N2, hN2⟩ : ∃ N2 : Nat, N2 = q + if has = true then 1 else 0 := ⟨_, rfl⟩
              rw [← hN2] at own2
              have hN3 : N2 ≤ 5 := by rw [hN2]; split <;> omega
              have HN2 := Lib.hid hN2
              clear hN2
              have own1 := own_below HOWN.out (by rw [hSe]; exact hOM.trans hbt)
              have hbt' : Below w.heap.size w wc := hbm.trans (hbt.mono (by omega))
              have hzc : S < wc.heap.size := by have := hbt.size; omega
              have XS0 := (hbt.cell (p := ⟨X, 0, none⟩) hSX).trans X0
              have XS1 := (hbt.cell (p := ⟨X, 1, none⟩) hSX).trans X1
              have XS2 := (hbt.cell (p := ⟨X, 2, none⟩) hSX).trans X2
              have XS3 := (hbt.cell (p := ⟨X, 3, none⟩) hSX).trans X3
              have CS0 := (hbt.cell (p := ⟨G, 0, none⟩) hSG).trans C0
              have CS1 := (hbt.cell (p := ⟨G, 1, none⟩) hSG).trans C1
              have CS2 := (hbt.cell (p := ⟨G, 2, none⟩) hSG).trans C2
              have CS3 := (hbt.cell (p := ⟨G, 3, none⟩) hSG).trans C3
              have CS4 := (hbt.cell (p := ⟨G, 4, none⟩) hSG).trans C4
              have CS5 := (hbt.cell (p := ⟨G, 5, none⟩) hSG).trans C5
              clear X0 X1 X2 X3 C0 C1 C2 C3 C4 C5 X2q X3q c0 c1 c2 c3 c4 c5 c6 f5 hown
              cases there
              · obtain ⟨A, cc, hu, hcc, hR⟩ := Rd.own own1
                subst hu
                have hRC : RdCons wc A j ((List.range j).map oth) := ⟨⟨_, hR, oth_cons _ _⟩⟩
                have HNO := Lib.hid (there_no (cL := 1 + n2 % 4) (cP := 1 + n3 % 3) (o := j) good.out HK.out)
                have HCK := Lib.hid (check_any 0 0 0 0 (1 + n2 % 4) (1 + n3 % 3) A j cc _ K KEY 0 VAL wc hRC (by omega) (by omega))
                clear own1 own2 hR hRC T0 T1 T2 T3 T4 T5 T6
                by_cases hk1 : K = 1
                · subst hk1
                  by_cases hq2 : 1 + n2 % 4 ≤ (j : Int)
                  · have H := Lib.hid (show checkE (1 + n2 % 4) (1 + n3 % 3) ((List.range j).map oth) 1 KEY 0 VAL = 15 by rw [HNO.out, if_pos rfl, if_pos hq2])
                    go_wp2_with fail
                    refine HCK.out.mono ?_
                    rintro e w9 ⟨rfl, hb9⟩
                    rw [H.out]
                    go_wp2_with fail
                    go_ret
                    exact ⟨rfl, below_next hbt' hb9⟩
                  · have H := Lib.hid (show checkE (1 + n2 % 4) (1 + n3 % 3) ((List.range j).map oth) 1 KEY 0 VAL = 0 by rw [HNO.out, if_pos rfl, if_neg hq2])
                    go_wp2_with fail
                    refine HCK.out.mono ?_
                    rintro e w9 ⟨rfl, hb9⟩
                    rw [H.out]
                    go_wp2_with fail
                    go_ret
                    exact ⟨rfl, below_next hbt' hb9⟩
                · have H := Lib.hid (show checkE (1 + n2 % 4) (1 + n3 % 3) ((List.range j).map oth) K KEY 0 VAL = 14 by rw [HNO.out, if_neg hk1])
                  have hk1' : (K == 1) = false := by simpa using hk1
                  clear hk1
                  go_wp2_with fail
                  refine HCK.out.mono ?_
                  rintro e w9 ⟨rfl, hb9⟩
                  rw [H.out]
                  go_wp2_with fail
                  go_ret
                  exact ⟨rfl, below_next hbt' hb9⟩
              · obtain ⟨A2, k2, hu2, hk2, hR2⟩ := Rd.own own2
                subst hu2
                have hlt1 : ∀ g, u14.ownBlock = some g → g < S := fun g hg => by have := (HOWN.out.lt g hg).2; omega
                have hne2 : (Value.slice A2 N2 k2).ownBlock = none ∨ (Value.slice A2 N2 k2).ownBlock ≠ u14.ownBlock := by
                  rcases h : (Value.slice A2 N2 k2).ownBlock with _ | g
                  · exact .inl rfl
                  · refine .inr fun e => ?_
                    have e1 := own_base own2 g h
                    have e2 := hlt1 g e.symm
                    omega
                have nS1 : some S ≠ u14.ownBlock := fun h => by have := hlt1 S h.symm; omega
                have HYES := Lib.hid (there_yes (cL := 1 + n2 % 4) (cP := 1 + n3 % 3) (o := j) (m := q) (has := has) good.out HK.out HV.out)
                rw [← HN2.out] at HYES
                have HOW1 := Lib.hid own1
                have HOW2 := Lib.hid own2
                clear own1 own2
                go_wp2_with (at_builtin; go_loud (refine wpList_append_at (w0 := wc) (X + 1) wc.heap.size (by rfl) rfl _ _ 46 51 _ 7 104 rfl Try.underlying46 info_con rfl (by decide) (by decide) _ j (othCells j) _ (by rfl) (by rfl) HOW1.out (by rfl) (by simp [Value.oneCell']) (Below.refl _ _) (by omega) (by omega) ?_))
                intro r2 w3 own3 hb3 hg3 _
                obtain ⟨A3, k3, hu3, hk3, hR3⟩ := Rd.own own3
                subst hu3
                have hR2' := (Rd.owns (HOW2.out.kept hg3 hne2)).2
                have hRC : RdCons w3 A3 (j + 1) ((List.range j).map oth ++ [mine KEY 0 (setThere q has VAL)]) := ⟨⟨_, hR3, (oth_cons w3 j).snoc ⟨A2, _, k2, none, 0, 0, rfl, by simpa [mine] using hR2', hk2, Rd.nil _ _ _, Nat.le_refl _⟩⟩⟩
                have hbt3 : Below w.heap.size w w3 := hbt'.trans (hb3.mono (by omega))
                have hz3 : wc.heap.size ≤ w3.heap.size := hb3.size
                have TS5 := (hg3.cell_far ⟨S, 5, none⟩ hzc nS1).trans T5
                have XT0 := (hb3.cell (p := ⟨X, 0, none⟩) (Nat.lt_succ_self X)).trans XS0
                have XT1 := (hb3.cell (p := ⟨X, 1, none⟩) (Nat.lt_succ_self X)).trans XS1
                have XT2 := (hb3.cell (p := ⟨X, 2, none⟩) (Nat.lt_succ_self X)).trans XS2
                have XT3 := (hb3.cell (p := ⟨X, 3, none⟩) (Nat.lt_succ_self X)).trans XS3
                have hGX : G < X + 1 := by omega
                have CT0 := (hb3.cell (p := ⟨G, 0, none⟩) hGX).trans CS0
                have CT1 := (hb3.cell (p := ⟨G, 1, none⟩) hGX).trans CS1
                have CT2 := (hb3.cell (p := ⟨G, 2, none⟩) hGX).trans CS2
                have CT3 := (hb3.cell (p := ⟨G, 3, none⟩) hGX).trans CS3
                have CT4 := (hb3.cell (p := ⟨G, 4, none⟩) hGX).trans CS4
                have CT5 := (hb3.cell (p := ⟨G, 5, none⟩) hGX).trans CS5
                have HCK := Lib.hid (fun (w' : World) (h : Below w3.heap.size w3 w') => check_any 0 0 0 0 (1 + n2 % 4) (1 + n3 % 3) A3 (j + 1) k3 _ K KEY 0 VAL w' (hRC.below h) (by omega) (by omega))
                clear own3 hR2 hR2' hR3 hRC T0 T1 T2 T3 T4 T5 T6 XS0 XS1 XS2 XS3 CS0 CS1 CS2 CS3 CS4 CS5 hb3 hg3
                clear hne2
                have hkk : K = 1 ∨ K = 2 ∨ K = 3 ∨ K = 4 ∨ K = 5 := by omega
                rcases hkk with rfl | rfl | rfl | rfl | rfl
                · skip
                  have H := Lib.hid (show checkE (1 + n2 % 4) (1 + n3 % 3) ((List.range j).map oth ++ [mine KEY 0 (setThere q has VAL)]) 1 KEY 0 VAL = 13 by rw [HYES.out, if_pos rfl])
                  go_wp2_with fail
                  refine (HCK.out _ (by (repeat (first | exact Below.refl _ _ | assumption | (refine Below.drew ?_) | (refine below_drewN ?_ _) | (refine Below.alloc ?_ (by first | omega | (simp; done) | (simp; omega)) _) | (refine Below.setCell ?_ (by first | omega | (simp; done) | (simp; omega)) _))))).mono ?_
                  rintro e w9 ⟨rfl, hb9⟩
                  rw [H.out]
                  go_wp2_with fail
                  go_ret
                  exact ⟨rfl, below_next (w := w) (by (repeat (first | exact Below.refl _ _ | assumption | (refine Below.drew ?_) | (refine below_drewN ?_ _) | (refine Below.alloc ?_ (by first | omega | (simp; done) | (simp; omega)) _) | (refine Below.setCell ?_ (by first | omega | (simp; done) | (simp; omega)) _)))) hb9⟩
                · skip
                  have H := Lib.hid (show checkE (1 + n2 % 4) (1 + n3 % 3) ((List.range j).map oth ++ [mine KEY 0 (setThere q has VAL)]) 2 KEY 0 VAL = 0 by rw [HYES.out, if_neg (by decide), if_neg (fun h => by omega), if_neg (fun h => by omega)])
                  go_wp2_with fail
                  go_quiet (fail)
                  go_wp2_with fail
                  refine (HCK.out _ (by (repeat (first | exact Below.refl _ _ | assumption | (refine Below.drew ?_) | (refine below_drewN ?_ _) | (refine Below.alloc ?_ (by first | omega | (simp; done) | (simp; omega)) _) | (refine Below.setCell ?_ (by first | omega | (simp; done) | (simp; omega)) _))))).mono ?_
                  rintro e w9 ⟨rfl, hb9⟩
                  rw [H.out]
                  go_wp2_with fail
                  go_ret
                  exact ⟨rfl, below_next (w := w) (by (repeat (first | exact Below.refl _ _ | assumption | (refine Below.drew ?_) | (refine below_drewN ?_ _) | (refine Below.alloc ?_ (by first | omega | (simp; done) | (simp; omega)) _) | (refine Below.setCell ?_ (by first | omega | (simp; done) | (simp; omega)) _)))) hb9⟩
                · skip
                  have H := Lib.hid (show checkE (1 + n2 % 4) (1 + n3 % 3) ((List.range j).map oth ++ [mine KEY 0 (setThere q has VAL)]) 3 KEY 0 VAL = 0 by rw [HYES.out, if_neg (by decide), if_neg (fun h => by omega), if_neg (fun h => by omega)])
                  go_wp2_with fail
                  go_quiet (fail)
                  go_wp2_with fail
                  refine (HCK.out _ (by (repeat (first | exact Below.refl _ _ | assumption | (refine Below.drew ?_) | (refine below_drewN ?_ _) | (refine Below.alloc ?_ (by first | omega | (simp; done) | (simp; omega)) _) | (refine Below.setCell ?_ (by first | omega | (simp; done) | (simp; omega)) _))))).mono ?_
                  rintro e w9 ⟨rfl, hb9⟩
                  rw [H.out]
                  go_wp2_with fail
                  go_ret
                  exact ⟨rfl, below_next (w := w) (by (repeat (first | exact Below.refl _ _ | assumption | (refine Below.drew ?_) | (refine below_drewN ?_ _) | (refine Below.alloc ?_ (by first | omega | (simp; done) | (simp; omega)) _) | (refine Below.setCell ?_ (by first | omega | (simp; done) | (simp; omega)) _)))) hb9⟩
                · by_cases hq2 : 1 + n3 % 3 ≤ (N2 : Int)
                  · have hd : decide (1 + n3 % 3 ≤ (N2 : Int)) = true := decide_eq_true hq2
                    have H := Lib.hid (show checkE (1 + n2 % 4) (1 + n3 % 3) ((List.range j).map oth ++ [mine KEY 0 (setThere q has VAL)]) 4 KEY 0 VAL = 15 by rw [HYES.out, if_neg (by decide), if_pos ⟨rfl, hq2⟩])
                    go_wp2_with fail
                    go_quiet (fail)
                    go_wp2_with fail
                    refine (HCK.out _ (by (repeat (first | exact Below.refl _ _ | assumption | (refine Below.drew ?_) | (refine below_drewN ?_ _) | (refine Below.alloc ?_ (by first | omega | (simp; done) | (simp; omega)) _) | (refine Below.setCell ?_ (by first | omega | (simp; done) | (simp; omega)) _))))).mono ?_
                    rintro e w9 ⟨rfl, hb9⟩
                    rw [H.out]
                    go_wp2_with fail
                    go_ret
                    exact ⟨rfl, below_next (w := w) (by (repeat (first | exact Below.refl _ _ | assumption | (refine Below.drew ?_) | (refine below_drewN ?_ _) | (refine Below.alloc ?_ (by first | omega | (simp; done) | (simp; omega)) _) | (refine Below.setCell ?_ (by first | omega | (simp; done) | (simp; omega)) _)))) hb9⟩
                  · have hd : decide (1 + n3 % 3 ≤ (N2 : Int)) = false := decide_eq_false hq2
                    have H := Lib.hid (show checkE (1 + n2 % 4) (1 + n3 % 3) ((List.range j).map oth ++ [mine KEY 0 (setThere q has VAL)]) 4 KEY 0 VAL = 0 by rw [HYES.out, if_neg (by decide), if_neg (fun h => hq2 h.2), if_neg (fun h => by omega)])
                    go_wp2_with fail
                    go_quiet (fail)
                    go_wp2_with fail
                    refine (HCK.out _ (by (repeat (first | exact Below.refl _ _ | assumption | (refine Below.drew ?_) | (refine below_drewN ?_ _) | (refine Below.alloc ?_ (by first | omega | (simp; done) | (simp; omega)) _) | (refine Below.setCell ?_ (by first | omega | (simp; done) | (simp; omega)) _))))).mono ?_
                    rintro e w9 ⟨rfl, hb9⟩
                    rw [H.out]
                    go_wp2_with fail
                    go_ret
                    exact ⟨rfl, below_next (w := w) (by (repeat (first | exact Below.refl _ _ | assumption | (refine Below.drew ?_) | (refine below_drewN ?_ _) | (refine Below.alloc ?_ (by first | omega | (simp; done) | (simp; omega)) _) | (refine Below.setCell ?_ (by first | omega | (simp; done) | (simp; omega)) _)))) hb9⟩
                · cases has
                  · skip
                    have H := Lib.hid (show checkE (1 + n2 % 4) (1 + n3 % 3) ((List.range j).map oth ++ [mine KEY 0 (setThere q false VAL)]) 5 KEY 0 VAL = 16 by rw [HYES.out, if_neg (by decide), if_neg (fun h => by omega), if_pos ⟨rfl, rfl⟩])
                    go_wp2_with fail
                    go_quiet (fail)
                    go_wp2_with fail
                    refine (HCK.out _ (by (repeat (first | exact Below.refl _ _ | assumption | (refine Below.drew ?_) | (refine below_drewN ?_ _) | (refine Below.alloc ?_ (by first | omega | (simp; done) | (simp; omega)) _) | (refine Below.setCell ?_ (by first | omega | (simp; done) | (simp; omega)) _))))).mono ?_
                    rintro e w9 ⟨rfl, hb9⟩
                    rw [H.out]
                    go_wp2_with fail
                    go_ret
                    exact ⟨rfl, below_next (w := w) (by (repeat (first | exact Below.refl _ _ | assumption | (refine Below.drew ?_) | (refine below_drewN ?_ _) | (refine Below.alloc ?_ (by first | omega | (simp; done) | (simp; omega)) _) | (refine Below.setCell ?_ (by first | omega | (simp; done) | (simp; omega)) _)))) hb9⟩
                  · skip
                    have H := Lib.hid (show checkE (1 + n2 % 4) (1 + n3 % 3) ((List.range j).map oth ++ [mine KEY 0 (setThere q true VAL)]) 5 KEY 0 VAL = 0 by rw [HYES.out, if_neg (by decide), if_neg (fun h => by omega), if_neg (fun h => by cases h.2)])
                    go_wp2_with fail
                    go_quiet (fail)
                    go_wp2_with fail
                    refine (HCK.out _ (by (repeat (first | exact Below.refl _ _ | assumption | (refine Below.drew ?_) | (refine below_drewN ?_ _) | (refine Below.alloc ?_ (by first | omega | (simp; done) | (simp; omega)) _) | (refine Below.setCell ?_ (by first | omega | (simp; done) | (simp; omega)) _))))).mono ?_
                    rintro e w9 ⟨rfl, hb9⟩
                    rw [H.out]
                    go_wp2_with fail
                    go_ret
                    exact ⟨rfl, below_next (w := w) (by (repeat (first | exact Below.refl _ _ | assumption | (refine Below.drew ?_) | (refine below_drewN ?_ _) | (refine Below.alloc ?_ (by first | omega | (simp; done) | (simp; omega)) _) | (refine Below.setCell ?_ (by first | omega | (simp; done) | (simp; omega)) _)))) hb9⟩
  · go_enter Try.func9, Try.ntmps9
    go_wp2_with fail
    refine (shown11_any _).mono ?_
    rintro e w1 ⟨rfl, hb1⟩
    obtain ⟨hb1c, hb1f⟩ := bcell hb1
    have hb1n := below_next (w := w) (by (repeat (first | exact Below.refl _ _ | assumption | (refine Below.drew ?_) | (refine below_drewN ?_ _) | (refine Below.alloc ?_ (by first | omega | (simp; done) | (simp; omega)) _) | (refine Below.setCell ?_ (by first | omega | (simp; done) | (simp; omega)) _)))) hb1
    have hb1z : w.heap.size < w1.heap.size := by have := hb1.size; first | omega | (simp at this; omega)
    have z0 : w.heap.size < w1.heap.size := by have := hb1.size; first | omega | (simp at this; omega)
    have z1 : w.heap.size + 1 < w1.heap.size := by have := hb1.size; first | omega | (simp at this; omega)
    have z2 : w.heap.size + 1 + 1 < w1.heap.size := by have := hb1.size; first | omega | (simp at this; omega)
    go_wp2_with fail
    refine (HF.out _).mono ?_
    rintro e w2 ⟨rfl, hb2⟩
    obtain ⟨hb2c, hb2f⟩ := bcell hb2
    have hb2n := below_next (w := w) (by (repeat (first | exact Below.refl _ _ | assumption | (refine Below.drew ?_) | (refine below_drewN ?_ _) | (refine Below.alloc ?_ (by first | omega | (simp; done) | (simp; omega)) _) | (refine Below.setCell ?_ (by first | omega | (simp; done) | (simp; omega)) _)))) hb2
    have hb2z : w.heap.size < w2.heap.size := by have := hb2.size; first | omega | (simp at this; omega)
    have := HO.out
    have := HM.out
    go_wp2_with fail
    have hbW : Below w.heap.size w (w2.alloc (Obj.cells #[.int .i64 K, .string KEY, .int .i64 1, .string VAL] 29)) := (by (repeat (first | exact Below.refl _ _ | assumption | (refine Below.drew ?_) | (refine below_drewN ?_ _) | (refine Below.alloc ?_ (by first | omega | (simp; done) | (simp; omega)) _) | (refine Below.setCell ?_ (by first | omega | (simp; done) | (simp; omega)) _))))
    have X0 : (w2.alloc (Obj.cells #[.int .i64 K, .string KEY, .int .i64 1, .string VAL] 29)).cell? ⟨w2.heap.size, 0, none⟩ = some (.int .i64 K) := by simp [go_sem]
    have X1 : (w2.alloc (Obj.cells #[.int .i64 K, .string KEY, .int .i64 1, .string VAL] 29)).cell? ⟨w2.heap.size, 1, none⟩ = some (.string KEY) := by simp [go_sem]
    have X2 : (w2.alloc (Obj.cells #[.int .i64 K, .string KEY, .int .i64 1, .string VAL] 29)).cell? ⟨w2.heap.size, 2, none⟩ = some (.int .i64 1) := by simp [go_sem]
    have X3 : (w2.alloc (Obj.cells #[.int .i64 K, .string KEY, .int .i64 1, .string VAL] 29)).cell? ⟨w2.heap.size, 3, none⟩ = some (.string VAL) := by simp [go_sem]
    have hz12 : w1.heap.size < w2.heap.size := by have := hb2.size; simp at this; omega
    have C0 : (w2.alloc (Obj.cells #[.int .i64 K, .string KEY, .int .i64 1, .string VAL] 29)).cell? ⟨w1.heap.size, 0, none⟩ = some (.int .i64 0) := by simp [go_sem, hb2c, hz12]
    have C1 : (w2.alloc (Obj.cells #[.int .i64 K, .string KEY, .int .i64 1, .string VAL] 29)).cell? ⟨w1.heap.size, 1, none⟩ = some (.int .i64 0) := by simp [go_sem, hb2c, hz12]
    have C2 : (w2.alloc (Obj.cells #[.int .i64 K, .string KEY, .int .i64 1, .string VAL] 29)).cell? ⟨w1.heap.size, 2, none⟩ = some (.int .i64 0) := by simp [go_sem, hb2c, hz12]
    have C3 : (w2.alloc (Obj.cells #[.int .i64 K, .string KEY, .int .i64 1, .string VAL] 29)).cell? ⟨w1.heap.size, 3, none⟩ = some (.int .i64 0) := by simp [go_sem, hb2c, hz12]
    have C4 : (w2.alloc (Obj.cells #[.int .i64 K, .string KEY, .int .i64 1, .string VAL] 29)).cell? ⟨w1.heap.size, 4, none⟩ = some (.int .i64 (1 + n2 % 4)) := by simp [go_sem, hb2c, hz12]
    have C5 : (w2.alloc (Obj.cells #[.int .i64 K, .string KEY, .int .i64 1, .string VAL] 29)).cell? ⟨w1.heap.size, 5, none⟩ = some (.int .i64 (1 + n3 % 3)) := by simp [go_sem, hb2c, hz12]
    have hW0 : (w2.alloc (Obj.cells #[.int .i64 K, .string KEY, .int .i64 1, .string VAL] 29)).heap.size = w2.heap.size + 1 := by simp
    have hHW : w.heap.size < w2.heap.size := by omega
    clear hb1 hb1c hb1f hb1n hb1z hb2 hb2c hb2f hb2n hb2z z0 z1 z2 HF
    generalize (w2.alloc (Obj.cells #[.int .i64 K, .string KEY, .int .i64 1, .string VAL] 29)) = W0 at *
    generalize w2.heap.size = X at *
    generalize w1.heap.size = G at *
    clear w1 w2
    have HL := World.ownsRow_lit (base := X + 1) (e := 51) (size := 7) W0 #[] 0 (by omega) (by simp [maxLen]) rfl
    rw [hW0] at HL
    go_loopw [14, 15] (fun r i wr => ∃ j : Nat, j ≤ o ∧ i = .int .i64 j ∧ wr.ownsRow (X + 1) 51 7 r j (othCells j) ∧ Below (X + 1) W0 wr) (fun _ i _ => o - (intOf i).toNat)
    case atStart => exact ⟨0, by omega, rfl, HL, (Below.refl _ _).alloc (by omega) _⟩
    case round =>
      obtain ⟨j, hj, rfl, hown, hbj⟩ := hrel
      have hsz := hbj.size
      by_cases hlt : j < o
      · have hcv : (convert 22 9 (.slice (some ⟨wr.heap.size, 0, none⟩) 2 2)).run Try.prog (wr.alloc (.cells #[.int .u8 122, .int .u8 (97 + (j : Int))] 5)) = .ok (.string (othKey j)) (wr.alloc (.cells #[.int .u8 122, .int .u8 (97 + (j : Int))] 5)) :=
          run_string (P := Try.prog) 22 9 5 Try.underlying22 Try.underlying5 Try.underlying9 (c := 2) (xs := [122, 97 + (j : Int)]) (rd_new _ _ _ rfl (by simp))
        go_wp2_with (at_builtin; go_loud (refine wpList_append_at (w0 := W0) (X + 1) (wr.heap.size + 1) (by simp) rfl _ _ 46 51 _ 7 104 rfl Try.underlying46 info_con rfl (by decide) (by decide) _ j (othCells j) _ (by rfl) (by rfl) (hown.alloc _) (by rfl) (by simp [Value.oneCell']) (hbj.alloc (by omega) _) (by simp; omega) (by omega) ?_))
        intro r2 w3 hown2 hb3 _ _
        go_wp2_with fail
        go_roundw
        case rel => exact ⟨j + 1, by omega, by go_num, by rw [othCells_succ]; exact hown2, hb3⟩
        case measure => simp [intOf]; omega
      · obtain rfl : j = o := by omega
        have hbj' : Below W0.heap.size W0 wr := by rw [hW0]; exact hbj
        obtain ⟨hjc, hjf⟩ := bcell hbj'
        replace X0 := (hjc X 0 (by omega)).trans X0
        replace X1 := (hjc X 1 (by omega)).trans X1
        replace X2 := (hjc X 2 (by omega)).trans X2
        replace X3 := (hjc X 3 (by omega)).trans X3
        replace C0 := (hjc G 0 (by omega)).trans C0
        replace C1 := (hjc G 1 (by omega)).trans C1
        replace C2 := (hjc G 2 (by omega)).trans C2
        replace C3 := (hjc G 3 (by omega)).trans C3
        replace C4 := (hjc G 4 (by omega)).trans C4
        replace C5 := (hjc G 5 (by omega)).trans C5
        have hbw : Below w.heap.size w wr := below_next hbW hbj'
        clear hjc hjf hbj hbj' hbW HL
        have HOWN := Lib.hid hown
        clear hown
        go_wp2_with fail
        have hSX : X < wr.heap.size := by omega
        have hSG : G < wr.heap.size := by omega
        have P0 : (wr.alloc (Obj.cells #[.string KEY, .bool false, .bool false, .string ⟨#[]⟩, .string ⟨#[]⟩, .slice none 0 0, .slice none 0 0] 51)).cell? ⟨wr.heap.size, 0, none⟩ = some (.string KEY) := by simp [go_sem]
        have P1 : (wr.alloc (Obj.cells #[.string KEY, .bool false, .bool false, .string ⟨#[]⟩, .string ⟨#[]⟩, .slice none 0 0, .slice none 0 0] 51)).cell? ⟨wr.heap.size, 1, none⟩ = some (.bool false) := by simp [go_sem]
        have P2 : (wr.alloc (Obj.cells #[.string KEY, .bool false, .bool false, .string ⟨#[]⟩, .string ⟨#[]⟩, .slice none 0 0, .slice none 0 0] 51)).cell? ⟨wr.heap.size, 2, none⟩ = some (.bool false) := by simp [go_sem]
        have P3 : (wr.alloc (Obj.cells #[.string KEY, .bool false, .bool false, .string ⟨#[]⟩, .string ⟨#[]⟩, .slice none 0 0, .slice none 0 0] 51)).cell? ⟨wr.heap.size, 3, none⟩ = some (.string ⟨#[]⟩) := by simp [go_sem]
        have P4 : (wr.alloc (Obj.cells #[.string KEY, .bool false, .bool false, .string ⟨#[]⟩, .string ⟨#[]⟩, .slice none 0 0, .slice none 0 0] 51)).cell? ⟨wr.heap.size, 4, none⟩ = some (.string ⟨#[]⟩) := by simp [go_sem]
        have P5 : (wr.alloc (Obj.cells #[.string KEY, .bool false, .bool false, .string ⟨#[]⟩, .string ⟨#[]⟩, .slice none 0 0, .slice none 0 0] 51)).cell? ⟨wr.heap.size, 5, none⟩ = some (.slice none 0 0) := by simp [go_sem]
        have P6 : (wr.alloc (Obj.cells #[.string KEY, .bool false, .bool false, .string ⟨#[]⟩, .string ⟨#[]⟩, .slice none 0 0, .slice none 0 0] 51)).cell? ⟨wr.heap.size, 6, none⟩ = some (.slice none 0 0) := by simp [go_sem]
        have PF : (wr.alloc (Obj.cells #[.string KEY, .bool false, .bool false, .string ⟨#[]⟩, .string ⟨#[]⟩, .slice none 0 0, .slice none 0 0] 51)).frozen? ⟨wr.heap.size, 6, none⟩ = false := by simp [go_sem]
        replace X0 := (World.cell?_alloc_past (Obj.cells #[.string KEY, .bool false, .bool false, .string ⟨#[]⟩, .string ⟨#[]⟩, .slice none 0 0, .slice none 0 0] 51) _ _ hSX).trans X0
        replace X1 := (World.cell?_alloc_past (Obj.cells #[.string KEY, .bool false, .bool false, .string ⟨#[]⟩, .string ⟨#[]⟩, .slice none 0 0, .slice none 0 0] 51) _ _ hSX).trans X1
        replace X2 := (World.cell?_alloc_past (Obj.cells #[.string KEY, .bool false, .bool false, .string ⟨#[]⟩, .string ⟨#[]⟩, .slice none 0 0, .slice none 0 0] 51) _ _ hSX).trans X2
        replace X3 := (World.cell?_alloc_past (Obj.cells #[.string KEY, .bool false, .bool false, .string ⟨#[]⟩, .string ⟨#[]⟩, .slice none 0 0, .slice none 0 0] 51) _ _ hSX).trans X3
        replace C0 := (World.cell?_alloc_past (Obj.cells #[.string KEY, .bool false, .bool false, .string ⟨#[]⟩, .string ⟨#[]⟩, .slice none 0 0, .slice none 0 0] 51) _ _ hSG).trans C0
        replace C1 := (World.cell?_alloc_past (Obj.cells #[.string KEY, .bool false, .bool false, .string ⟨#[]⟩, .string ⟨#[]⟩, .slice none 0 0, .slice none 0 0] 51) _ _ hSG).trans C1
        replace C2 := (World.cell?_alloc_past (Obj.cells #[.string KEY, .bool false, .bool false, .string ⟨#[]⟩, .string ⟨#[]⟩, .slice none 0 0, .slice none 0 0] 51) _ _ hSG).trans C2
        replace C3 := (World.cell?_alloc_past (Obj.cells #[.string KEY, .bool false, .bool false, .string ⟨#[]⟩, .string ⟨#[]⟩, .slice none 0 0, .slice none 0 0] 51) _ _ hSG).trans C3
        replace C4 := (World.cell?_alloc_past (Obj.cells #[.string KEY, .bool false, .bool false, .string ⟨#[]⟩, .string ⟨#[]⟩, .slice none 0 0, .slice none 0 0] 51) _ _ hSG).trans C4
        replace C5 := (World.cell?_alloc_past (Obj.cells #[.string KEY, .bool false, .bool false, .string ⟨#[]⟩, .string ⟨#[]⟩, .slice none 0 0, .slice none 0 0] 51) _ _ hSG).trans C5
        have hbm : Below w.heap.size w (wr.alloc (Obj.cells #[.string KEY, .bool false, .bool false, .string ⟨#[]⟩, .string ⟨#[]⟩, .slice none 0 0, .slice none 0 0] 51)) := (by (repeat (first | exact Below.refl _ _ | assumption | (refine Below.drew ?_) | (refine below_drewN ?_ _) | (refine Below.alloc ?_ (by first | omega | (simp; done) | (simp; omega)) _) | (refine Below.setCell ?_ (by first | omega | (simp; done) | (simp; omega)) _))))
        have hWM : (wr.alloc (Obj.cells #[.string KEY, .bool false, .bool false, .string ⟨#[]⟩, .string ⟨#[]⟩, .slice none 0 0, .slice none 0 0] 51)).heap.size = wr.heap.size + 1 := by simp
        have hwS : w.heap.size < wr.heap.size := by omega
        have hOM : Below wr.heap.size wr (wr.alloc (Obj.cells #[.string KEY, .bool false, .bool false, .string ⟨#[]⟩, .string ⟨#[]⟩, .slice none 0 0, .slice none 0 0] 51)) := (Below.refl _ _).alloc (Nat.le_refl _) _
        clear hbw
        generalize (wr.alloc (Obj.cells #[.string KEY, .bool false, .bool false, .string ⟨#[]⟩, .string ⟨#[]⟩, .slice none 0 0, .slice none 0 0] 51)) = WM at *
        generalize hSe : wr.heap.size = S at *
        obtain ⟨i0, hi0, hz0, hz1, hz2⟩ := info_parts info_str
        have HI0 := Lib.hid hi0
        have HZ1 := Lib.hid hz1
        have HZ2 := Lib.hid hz2
        have HZ0 := Lib.hid hz0
        clear hi0 hz0 hz1 hz2
        go_loopw [17] (fun i wq => ∃ (q : Nat) (sv : Value), q ≤ m ∧ i = .int .i64 q ∧ wq.cell? ⟨S, 6, none⟩ = some sv ∧ wq.frozen? ⟨S, 6, none⟩ = false ∧ wq.ownsRow (S + 1) 9 1 sv q (strs ((List.range q).map othVal)) ∧
          wq.cell? ⟨S, 0, none⟩ = some (.string KEY) ∧ wq.cell? ⟨S, 1, none⟩ = some (.bool false) ∧ wq.cell? ⟨S, 2, none⟩ = some (.bool false) ∧ wq.cell? ⟨S, 3, none⟩ = some (.string ⟨#[]⟩) ∧ wq.cell? ⟨S, 4, none⟩ = some (.string ⟨#[]⟩) ∧ wq.cell? ⟨S, 5, none⟩ = some (.slice none 0 0) ∧
          Below S WM wq) (fun i _ => m - (intOf i).toNat)
        case atStart => exact ⟨0, _, by omega, rfl, P6, PF, World.ownsRow_nil _ _ _ _, P0, P1, P2, P3, P4, P5, Below.refl _ _⟩
        case round =>
          obtain ⟨q, sv, hq, rfl, c5, f5, hown, c0, c1, c2, c3, c4, c6, hbq⟩ := hrel
          have hsz := hbq.size
          have X2q := (hbq.cell (p := ⟨X, 2, none⟩) hSX).trans X2
          have nS : some S ≠ sv.ownBlock := fun h => by have := own_base hown _ h.symm; omega
          have nX : some X ≠ sv.ownBlock := fun h => by have := own_base hown _ h.symm; omega
          have hSw : S < wr.heap.size := by omega
          have hSw2 : S < wr.heap.size + 1 := by omega
          have hXw : X < wr.heap.size := by omega
          have hXw2 : X < wr.heap.size + 1 := by omega
          have WT := Lib.hid hWM
          by_cases hlt : q < m
          · have hwr : IntKind.u8.wrap (IntKind.i64.wrap (97 + (q : Int))) = 97 + (q : Int) := by rw [show IntKind.i64.wrap (97 + (q : Int)) = 97 + (q : Int) by rw [IntKind.wrap_i64]; omega, IntKind.wrap_u8]; omega
            have hrd : Rd (wr.alloc (.cells #[.int .u8 61, .int .u8 (97 + (q : Int))] 5)) (some ⟨wr.heap.size, 0, none⟩) 2 1 (nums .u8 [61, 97 + (q : Int)]) := rd_new _ _ _ rfl (by simp)
            have hcv1 : (convert 22 9 (.slice (some ⟨wr.heap.size, 0, none⟩) 2 2)).run Try.prog ((wr.alloc (.cells #[.int .u8 61, .int .u8 (97 + (q : Int))] 5)).drew) = .ok (.string (othVal q)) ((wr.alloc (.cells #[.int .u8 61, .int .u8 (97 + (q : Int))] 5)).drew) :=
              run_string (P := Try.prog) 22 9 5 Try.underlying22 Try.underlying5 Try.underlying9 (c := 2) (xs := [61, 97 + (q : Int)]) hrd
            have hnews : ∀ (j : Nat) (u : Value), [Value.string (othVal q)][j]? = some u → ((((wr.alloc (.cells #[.int .u8 61, .int .u8 (97 + (q : Int))] 5)).alloc (.cells #[.string (othVal q)] 9)).drew).cell? ((⟨wr.heap.size + 1, 0, none⟩ : Addr).add j)) = some u := by
              intro j u hj
              cases j with
              | zero => simp at hj; subst hj; rw [add_at]; simp [go_sem]
              | succ j => simp at hj
            have hA : (((wr.alloc (.cells #[.int .u8 61, .int .u8 (97 + (q : Int))] 5)).alloc (.cells #[.string (othVal q)] 9)).drew).ownsRow (S + 1) 9 1 sv q (strs ((List.range q).map othVal)) := ((hown.alloc _).alloc _).drew
            have h63 : q + 1 ≤ maxLen := by simp only [maxLen]; omega
            have hby : (q + 1) * 16 ≤ 140737488355328 := by omega
            have hH : (((wr.alloc (.cells #[.int .u8 61, .int .u8 (97 + (q : Int))] 5)).alloc (.cells #[.string (othVal q)] 9)).drew).heap.size = wr.heap.size + 2 := by simp
            have hbs : S + 1 ≤ (((wr.alloc (.cells #[.int .u8 61, .int .u8 (97 + (q : Int))] 5)).alloc (.cells #[.string (othVal q)] 9)).drew).heap.size := by rw [hH]; omega
            have h1c : ∀ u ∈ [Value.string (othVal q)], u.oneCell' = true := by simp [Value.oneCell']
            have hlS : S < (((wr.alloc (.cells #[.int .u8 61, .int .u8 (97 + (q : Int))] 5)).alloc (.cells #[.string (othVal q)] 9)).drew).heap.size := by rw [hH]; omega
            have hlX : X < (((wr.alloc (.cells #[.int .u8 61, .int .u8 (97 + (q : Int))] 5)).alloc (.cells #[.string (othVal q)] 9)).drew).heap.size := by rw [hH]; omega
            have hfz : (((wr.alloc (.cells #[.int .u8 61, .int .u8 (97 + (q : Int))] 5)).alloc (.cells #[.string (othVal q)] 9)).drew).frozen? ⟨S, 6, none⟩ = false := by simp [go_sem, hSw, hSw2, f5]
            have hcX : (((wr.alloc (.cells #[.int .u8 61, .int .u8 (97 + (q : Int))] 5)).alloc (.cells #[.string (othVal q)] 9)).drew).cell? ⟨X, 2, none⟩ = some (.int .i64 1) := by simp [go_sem, hXw, hXw2, X2q]
            have hcS : (((wr.alloc (.cells #[.int .u8 61, .int .u8 (97 + (q : Int))] 5)).alloc (.cells #[.string (othVal q)] 9)).drew).cell? ⟨S, 6, none⟩ = some sv := by simp [go_sem, hSw, hSw2, c5]
            have hBW : Below S WM (((wr.alloc (.cells #[.int .u8 61, .int .u8 (97 + (q : Int))] 5)).alloc (.cells #[.string (othVal q)] 9)).drew) := ((hbq.alloc (by omega) _).alloc (by simp; omega) _).drew
            have hbS : S ≤ (((wr.alloc (.cells #[.int .u8 61, .int .u8 (97 + (q : Int))] 5)).alloc (.cells #[.string (othVal q)] 9)).drew).heap.size := by omega
            have hob : ∀ k, sv.ownBlock = some k → S ≤ k := fun k hk => by have := own_base hown k hk; omega
            have hc0 : (((wr.alloc (.cells #[.int .u8 61, .int .u8 (97 + (q : Int))] 5)).alloc (.cells #[.string (othVal q)] 9)).drew).cell? ⟨S, 0, none⟩ = some (.string KEY) := by simp [go_sem, hSw, hSw2, c0]
            have hc1 : (((wr.alloc (.cells #[.int .u8 61, .int .u8 (97 + (q : Int))] 5)).alloc (.cells #[.string (othVal q)] 9)).drew).cell? ⟨S, 1, none⟩ = some (.bool false) := by simp [go_sem, hSw, hSw2, c1]
            have hc2 : (((wr.alloc (.cells #[.int .u8 61, .int .u8 (97 + (q : Int))] 5)).alloc (.cells #[.string (othVal q)] 9)).drew).cell? ⟨S, 2, none⟩ = some (.bool false) := by simp [go_sem, hSw, hSw2, c2]
            have hc3 : (((wr.alloc (.cells #[.int .u8 61, .int .u8 (97 + (q : Int))] 5)).alloc (.cells #[.string (othVal q)] 9)).drew).cell? ⟨S, 3, none⟩ = some (.string ⟨#[]⟩) := by simp [go_sem, hSw, hSw2, c3]
            have hc4 : (((wr.alloc (.cells #[.int .u8 61, .int .u8 (97 + (q : Int))] 5)).alloc (.cells #[.string (othVal q)] 9)).drew).cell? ⟨S, 4, none⟩ = some (.string ⟨#[]⟩) := by simp [go_sem, hSw, hSw2, c4]
            have hc6 : (((wr.alloc (.cells #[.int .u8 61, .int .u8 (97 + (q : Int))] 5)).alloc (.cells #[.string (othVal q)] 9)).drew).cell? ⟨S, 5, none⟩ = some (.slice none 0 0) := by simp [go_sem, hSw, hSw2, c6]
            have HST := Lib.hid hA
            clear hA
            have hlt' : (q : Int) < m := by omega
            clear hrd
            go_wp2_with fail
            refine wp_region_noPanic ?_
            refine wp_region_held_drew (S := fun w' => w'.cell? ⟨X, 2, none⟩ = some (.int .i64 1)) (by kernel_rfl) ?hS511 ?rest511
            case hS511 =>
              (try dsimp only)
              first | go_keep | assumption | (simp [go_sem, show ¬ S = X by omega, cX']; done)
            case rest511 =>
              intro hHeld
              refine wpAnyH_take (i := 0) (v := ?v501) rfl (by kernel_rfl) (by kernel_rfl) (by kernel_rfl) (fun _ _ _ h => h) (Or.inl ⟨by rfl, ?hy501⟩) (by assumption) ?_
              case hy501 => (intro w hSw; (try dsimp only at hSw); go_split_ands; go_simp <;> with_reducible rfl)
              (try simp only [Act.put, List.setIfInBounds_toArray, List.set_cons_zero, List.set_cons_succ])
              refine wpAnyH_take (i := 1) (v := ?v502) rfl (by kernel_rfl) (by kernel_rfl) (by kernel_rfl) (fun _ _ _ h => h) (Or.inl ⟨by rfl, ?hy502⟩) (by assumption) ?_
              case hy502 => (intro w hSw; (try dsimp only at hSw); go_split_ands; go_simp <;> with_reducible rfl)
              (try simp only [Act.put, List.setIfInBounds_toArray, List.set_cons_zero, List.set_cons_succ])
              refine wpAnyH_take (i := 2) (v := ?v503) rfl (by kernel_rfl) (by kernel_rfl) (by kernel_rfl) (fun _ _ _ h => h) (Or.inl ⟨by rfl, ?hy503⟩) (by assumption) ?_
              case hy503 => (intro w hSw; (try dsimp only at hSw); go_split_ands; go_simp <;> with_reducible rfl)
              (try simp only [Act.put, List.setIfInBounds_toArray, List.set_cons_zero, List.set_cons_succ])
              refine wpAnyH_take (i := 3) (v := ?v504) rfl (by kernel_rfl) (by kernel_rfl) (by kernel_rfl) (fun _ _ _ h => h) (Or.inl ⟨by rfl, ?hy504⟩) (by assumption) ?_
              case hy504 => (intro w hSw; (try dsimp only at hSw); go_split_ands; go_simp <;> with_reducible rfl)
              (try simp only [Act.put, List.setIfInBounds_toArray, List.set_cons_zero, List.set_cons_succ])
              refine wpAnyH_take (i := 4) (v := ?v505) rfl (by kernel_rfl) (by kernel_rfl) (by kernel_rfl) (fun _ _ _ h => h) (Or.inl ⟨by rfl, ?hy505⟩) (by assumption) ?_
              case hy505 => (intro w hSw; (try dsimp only at hSw); go_split_ands; go_simp <;> with_reducible rfl)
              (try simp only [Act.put, List.setIfInBounds_toArray, List.set_cons_zero, List.set_cons_succ])
              refine wpAnyH_take (i := 5) (v := ?v506) rfl (by kernel_rfl) (by kernel_rfl) (by kernel_rfl) (fun _ _ _ h => h) (Or.inl ⟨by rfl, ?hy506⟩) (by assumption) ?_
              case hy506 => (intro w hSw; (try dsimp only at hSw); go_split_ands; go_simp <;> with_reducible rfl)
              (try simp only [Act.put, List.setIfInBounds_toArray, List.set_cons_zero, List.set_cons_succ])
              refine wpAnyH_take (i := 7) (v := ?v507) rfl (by kernel_rfl) (by kernel_rfl) (by kernel_rfl) (fun _ _ _ h => h) (Or.inl ⟨by rfl, ?hy507⟩) (by assumption) ?_
              case hy507 => (intro w hSw; (try dsimp only at hSw); go_split_ands; go_simp <;> with_reducible rfl)
              (try simp only [Act.put, List.setIfInBounds_toArray, List.set_cons_zero, List.set_cons_succ])
              refine wpAnyH_take (i := 8) (v := ?v508) rfl (by kernel_rfl) (by kernel_rfl) (by kernel_rfl) (fun _ _ _ h => h) (Or.inl ⟨by rfl, ?hy508⟩) (by assumption) ?_
              case hy508 => (intro w hSw; (try dsimp only at hSw); go_split_ands; go_simp <;> with_reducible rfl)
              (try simp only [Act.put, List.setIfInBounds_toArray, List.set_cons_zero, List.set_cons_succ])
              refine wpAnyH_take (i := 9) (v := ?v509) rfl (by kernel_rfl) (by kernel_rfl) (by kernel_rfl) (fun _ _ _ h => h) (Or.inl ⟨by rfl, ?hy509⟩) (by assumption) ?_
              case hy509 => (intro w hSw; (try dsimp only at hSw); go_split_ands; go_simp <;> with_reducible rfl)
              (try simp only [Act.put, List.setIfInBounds_toArray, List.set_cons_zero, List.set_cons_succ])
              refine wpAnyH_take (i := 14) (v := ?v510) rfl (by kernel_rfl) (by kernel_rfl) (by kernel_rfl) (fun _ _ _ h => h) (Or.inl ⟨by rfl, ?hy510⟩) (by assumption) ?_
              case hy510 => (intro w hSw; (try dsimp only at hSw); go_split_ands; go_simp <;> with_reducible rfl)
              (try simp only [Act.put, List.setIfInBounds_toArray, List.set_cons_zero, List.set_cons_succ])
              refine wpAnyH_ready (rs := [6, 10]) (by kernel_rfl) (by simp) ?_
              refine AllReadyH.cons rfl (fun K hK => ?step535) ?more535
              case step535 =>
                go_simp
                refine hK.out _ _ ?hS535 ?rest535
                case hS535 =>
                  (try dsimp only)
                  first | go_keep | assumption | (simp [go_sem, show ¬ S = X by omega, cX']; done)
                case rest535 =>
                  clear hHeld
                  intro hHeld
                  clear hK K
                  (try simp only [Act.put, List.setIfInBounds_toArray, List.set_cons_zero, List.set_cons_succ])
                  refine wpAnyH_ready (rs := [10]) (by kernel_rfl) (by simp) ?_
                  refine AllReadyH.cons rfl (fun K hK => ?step517) ?more517
                  case step517 =>
                    go_simp
                    refine hK.out _ _ ?hS517 ?rest517
                    case hS517 =>
                      (try dsimp only)
                      first | go_keep | assumption | (simp [go_sem, show ¬ S = X by omega, cX']; done)
                    case rest517 =>
                      clear hHeld
                      intro hHeld
                      clear hK K
                      (try simp only [Act.put, List.setIfInBounds_toArray, List.set_cons_zero, List.set_cons_succ])
                      refine wpAnyH_ready (rs := [11]) (by kernel_rfl) (by simp) ?_
                      refine AllReadyH.cons rfl (fun K hK => ?step516) ?more516
                      case step516 =>
                        go_simp
                        refine hK.out _ _ ?hS516 ?rest516
                        case hS516 =>
                          (try dsimp only)
                          first | go_keep | assumption | (simp [go_sem, show ¬ S = X by omega, cX']; done)
                        case rest516 =>
                          clear hHeld
                          intro hHeld
                          clear hK K
                          (try simp only [Act.put, List.setIfInBounds_toArray, List.set_cons_zero, List.set_cons_succ])
                          refine wpAnyH_ready (rs := [12]) (by kernel_rfl) (by simp) ?_
                          refine AllReadyH.cons rfl (fun K hK => ?step515) ?more515
                          case step515 =>
                            go_simp
                            refine hK.out _ _ ?hS515 ?rest515
                            case hS515 =>
                              (try dsimp only)
                              first | go_keep | assumption | (simp [go_sem, show ¬ S = X by omega, cX']; done)
                            case rest515 =>
                              clear hHeld
                              intro hHeld
                              clear hK K
                              (try simp only [Act.put, List.setIfInBounds_toArray, List.set_cons_zero, List.set_cons_succ])
                              refine wpAnyH_ready (rs := [13]) (by kernel_rfl) (by simp) ?_
                              refine AllReadyH.cons rfl (fun K hK => ?step514) ?more514
                              case step514 =>
                                refine step_append_lies _ (by rfl) _ _ _ (by rfl) (S + 1) 9 i0 _ 1 16 Try.underlying48 HI0.out HZ0.out HZ1.out HZ2.out rfl Nat.one_pos sv q (strs ((List.range q).map othVal)) (by rfl) HST.out ⟨wr.heap.size + 1, 0, none⟩ 1 1 [.string (othVal q)] (by rfl) (by rfl) hnews h1c Nat.one_pos h63 hby hbs (wr.heap.size + 2) hH ?_
                                intro gg cap w1 hown1 hgrow hat hgl
                                have fz := (hgrow.frozen_far ⟨S, 6, none⟩ hlS nS).trans hfz
                                have cX' := (hgrow.cell_far ⟨X, 2, none⟩ hlX nX).trans hcX
                                have cS' := (hgrow.cell_far ⟨S, 6, none⟩ hlS nS).trans hcS
                                refine hK.out _ _ ?hS514 ?rest514
                                case hS514 =>
                                  (try dsimp only)
                                  first | go_keep | assumption | (simp [go_sem, show ¬ S = X by omega, cX']; done)
                                case rest514 =>
                                  clear hHeld
                                  intro hHeld
                                  clear hK K
                                  (try simp only [Act.put, List.setIfInBounds_toArray, List.set_cons_zero, List.set_cons_succ])
                                  refine wpAnyH_take (i := 15) (v := ?v512) rfl (by kernel_rfl) (by kernel_rfl) (by kernel_rfl) (fun _ _ _ h => h) (Or.inl ⟨by rfl, ?hy512⟩) (by assumption) ?_
                                  case hy512 => (intro w hSw; (try dsimp only at hSw); go_split_ands; go_simp <;> with_reducible rfl)
                                  (try simp only [Act.put, List.setIfInBounds_toArray, List.set_cons_zero, List.set_cons_succ])
                                  refine wpAnyH_ready (rs := [16]) (by kernel_rfl) (by simp) ?_
                                  refine AllReadyH.cons rfl (fun K hK => ?step513) ?more513
                                  case step513 =>
                                    go_simp
                                    refine hK.out _ _ ?hS513 ?rest513
                                    case hS513 =>
                                      (try dsimp only)
                                      first | go_keep | assumption | (simp [go_sem, show ¬ S = X by omega, cX']; done)
                                    case rest513 =>
                                      clear hHeld
                                      intro hHeld
                                      clear hK K
                                      (try simp only [Act.put, List.setIfInBounds_toArray, List.set_cons_zero, List.set_cons_succ])
                                      refine wpAnyH_done (by kernel_rfl) ?_ _
                                      refine NoPanic.normal ?_
                                      go_wp2_with fail
                                      go_roundw
                                      case measure => (simp [intOf]; omega)
                                      case rel =>
                                        refine ⟨q + 1, _, by omega, by go_num, World.cell?_setCell_same' _ _ _ (by rw [cS']; rfl), by simp [go_sem, fz], by rw [strs_snoc]; exact ownsRow_setCell_below hown1 (Nat.lt_succ_self S) _, ?_, ?_, ?_, ?_, ?_, ?_, (hBW.grown hgrow hbS hob).setCell (Nat.le_refl _) _⟩
                                        · simp [go_sem, (hgrow.cell_far ⟨S, 0, none⟩ hlS nS).trans hc0]
                                        · simp [go_sem, (hgrow.cell_far ⟨S, 1, none⟩ hlS nS).trans hc1]
                                        · simp [go_sem, (hgrow.cell_far ⟨S, 2, none⟩ hlS nS).trans hc2]
                                        · simp [go_sem, (hgrow.cell_far ⟨S, 3, none⟩ hlS nS).trans hc3]
                                        · simp [go_sem, (hgrow.cell_far ⟨S, 4, none⟩ hlS nS).trans hc4]
                                        · simp [go_sem, (hgrow.cell_far ⟨S, 5, none⟩ hlS nS).trans hc6]
                                  case more513 =>
                                    exact AllReadyH.nil
                              case more514 =>
                                exact AllReadyH.nil
                          case more515 =>
                            exact AllReadyH.nil
                      case more516 =>
                        exact AllReadyH.nil
                  case more517 =>
                    exact AllReadyH.nil
              case more535 =>
                refine AllReadyH.cons rfl (fun K hK => ?step536) ?more536
                case step536 =>
                  go_simp
                  refine hK.out _ _ ?hS536 ?rest536
                  case hS536 =>
                    (try dsimp only)
                    first | go_keep | assumption | (simp [go_sem, show ¬ S = X by omega, cX']; done)
                  case rest536 =>
                    clear hHeld
                    intro hHeld
                    clear hK K
                    (try simp only [Act.put, List.setIfInBounds_toArray, List.set_cons_zero, List.set_cons_succ])
                    refine wpAnyH_ready (rs := [6, 11]) (by kernel_rfl) (by simp) ?_
                    refine AllReadyH.cons rfl (fun K hK => ?step533) ?more533
                    case step533 =>
                      go_simp
                      refine hK.out _ _ ?hS533 ?rest533
                      case hS533 =>
                        (try dsimp only)
                        first | go_keep | assumption | (simp [go_sem, show ¬ S = X by omega, cX']; done)
                      case rest533 =>
                        clear hHeld
                        intro hHeld
                        clear hK K
                        (try simp only [Act.put, List.setIfInBounds_toArray, List.set_cons_zero, List.set_cons_succ])
                        refine wpAnyH_ready (rs := [11]) (by kernel_rfl) (by simp) ?_
                        refine AllReadyH.cons rfl (fun K hK => ?step522) ?more522
                        case step522 =>
                          go_simp
                          refine hK.out _ _ ?hS522 ?rest522
                          case hS522 =>
                            (try dsimp only)
                            first | go_keep | assumption | (simp [go_sem, show ¬ S = X by omega, cX']; done)
                          case rest522 =>
                            clear hHeld
                            intro hHeld
                            clear hK K
                            (try simp only [Act.put, List.setIfInBounds_toArray, List.set_cons_zero, List.set_cons_succ])
                            refine wpAnyH_ready (rs := [12]) (by kernel_rfl) (by simp) ?_
                            refine AllReadyH.cons rfl (fun K hK => ?step521) ?more521
                            case step521 =>
                              go_simp
                              refine hK.out _ _ ?hS521 ?rest521
                              case hS521 =>
                                (try dsimp only)
                                first | go_keep | assumption | (simp [go_sem, show ¬ S = X by omega, cX']; done)
                              case rest521 =>
                                clear hHeld
                                intro hHeld
                                clear hK K
                                (try simp only [Act.put, List.setIfInBounds_toArray, List.set_cons_zero, List.set_cons_succ])
                                refine wpAnyH_ready (rs := [13]) (by kernel_rfl) (by simp) ?_
                                refine AllReadyH.cons rfl (fun K hK => ?step520) ?more520
                                case step520 =>
                                  refine step_append_lies _ (by rfl) _ _ _ (by rfl) (S + 1) 9 i0 _ 1 16 Try.underlying48 HI0.out HZ0.out HZ1.out HZ2.out rfl Nat.one_pos sv q (strs ((List.range q).map othVal)) (by rfl) HST.out ⟨wr.heap.size + 1, 0, none⟩ 1 1 [.string (othVal q)] (by rfl) (by rfl) hnews h1c Nat.one_pos h63 hby hbs (wr.heap.size + 2) hH ?_
                                  intro gg cap w1 hown1 hgrow hat hgl
                                  have fz := (hgrow.frozen_far ⟨S, 6, none⟩ hlS nS).trans hfz
                                  have cX' := (hgrow.cell_far ⟨X, 2, none⟩ hlX nX).trans hcX
                                  have cS' := (hgrow.cell_far ⟨S, 6, none⟩ hlS nS).trans hcS
                                  refine hK.out _ _ ?hS520 ?rest520
                                  case hS520 =>
                                    (try dsimp only)
                                    first | go_keep | assumption | (simp [go_sem, show ¬ S = X by omega, cX']; done)
                                  case rest520 =>
                                    clear hHeld
                                    intro hHeld
                                    clear hK K
                                    (try simp only [Act.put, List.setIfInBounds_toArray, List.set_cons_zero, List.set_cons_succ])
                                    refine wpAnyH_take (i := 15) (v := ?v518) rfl (by kernel_rfl) (by kernel_rfl) (by kernel_rfl) (fun _ _ _ h => h) (Or.inl ⟨by rfl, ?hy518⟩) (by assumption) ?_
                                    case hy518 => (intro w hSw; (try dsimp only at hSw); go_split_ands; go_simp <;> with_reducible rfl)
                                    (try simp only [Act.put, List.setIfInBounds_toArray, List.set_cons_zero, List.set_cons_succ])
                                    refine wpAnyH_ready (rs := [16]) (by kernel_rfl) (by simp) ?_
                                    refine AllReadyH.cons rfl (fun K hK => ?step519) ?more519
                                    case step519 =>
                                      go_simp
                                      refine hK.out _ _ ?hS519 ?rest519
                                      case hS519 =>
                                        (try dsimp only)
                                        first | go_keep | assumption | (simp [go_sem, show ¬ S = X by omega, cX']; done)
                                      case rest519 =>
                                        clear hHeld
                                        intro hHeld
                                        clear hK K
                                        (try simp only [Act.put, List.setIfInBounds_toArray, List.set_cons_zero, List.set_cons_succ])
                                        refine wpAnyH_done (by kernel_rfl) ?_ _
                                        refine NoPanic.normal ?_
                                        go_wp2_with fail
                                        go_roundw
                                        case measure => (simp [intOf]; omega)
                                        case rel =>
                                          refine ⟨q + 1, _, by omega, by go_num, World.cell?_setCell_same' _ _ _ (by rw [cS']; rfl), by simp [go_sem, fz], by rw [strs_snoc]; exact ownsRow_setCell_below hown1 (Nat.lt_succ_self S) _, ?_, ?_, ?_, ?_, ?_, ?_, (hBW.grown hgrow hbS hob).setCell (Nat.le_refl _) _⟩
                                          · simp [go_sem, (hgrow.cell_far ⟨S, 0, none⟩ hlS nS).trans hc0]
                                          · simp [go_sem, (hgrow.cell_far ⟨S, 1, none⟩ hlS nS).trans hc1]
                                          · simp [go_sem, (hgrow.cell_far ⟨S, 2, none⟩ hlS nS).trans hc2]
                                          · simp [go_sem, (hgrow.cell_far ⟨S, 3, none⟩ hlS nS).trans hc3]
                                          · simp [go_sem, (hgrow.cell_far ⟨S, 4, none⟩ hlS nS).trans hc4]
                                          · simp [go_sem, (hgrow.cell_far ⟨S, 5, none⟩ hlS nS).trans hc6]
                                    case more519 =>
                                      exact AllReadyH.nil
                                case more520 =>
                                  exact AllReadyH.nil
                            case more521 =>
                              exact AllReadyH.nil
                        case more522 =>
                          exact AllReadyH.nil
                    case more533 =>
                      refine AllReadyH.cons rfl (fun K hK => ?step534) ?more534
                      case step534 =>
                        go_simp
                        refine hK.out _ _ ?hS534 ?rest534
                        case hS534 =>
                          (try dsimp only)
                          first | go_keep | assumption | (simp [go_sem, show ¬ S = X by omega, cX']; done)
                        case rest534 =>
                          clear hHeld
                          intro hHeld
                          clear hK K
                          (try simp only [Act.put, List.setIfInBounds_toArray, List.set_cons_zero, List.set_cons_succ])
                          refine wpAnyH_ready (rs := [6, 12]) (by kernel_rfl) (by simp) ?_
                          refine AllReadyH.cons rfl (fun K hK => ?step531) ?more531
                          case step531 =>
                            go_simp
                            refine hK.out _ _ ?hS531 ?rest531
                            case hS531 =>
                              (try dsimp only)
                              first | go_keep | assumption | (simp [go_sem, show ¬ S = X by omega, cX']; done)
                            case rest531 =>
                              clear hHeld
                              intro hHeld
                              clear hK K
                              (try simp only [Act.put, List.setIfInBounds_toArray, List.set_cons_zero, List.set_cons_succ])
                              refine wpAnyH_ready (rs := [12]) (by kernel_rfl) (by simp) ?_
                              refine AllReadyH.cons rfl (fun K hK => ?step526) ?more526
                              case step526 =>
                                go_simp
                                refine hK.out _ _ ?hS526 ?rest526
                                case hS526 =>
                                  (try dsimp only)
                                  first | go_keep | assumption | (simp [go_sem, show ¬ S = X by omega, cX']; done)
                                case rest526 =>
                                  clear hHeld
                                  intro hHeld
                                  clear hK K
                                  (try simp only [Act.put, List.setIfInBounds_toArray, List.set_cons_zero, List.set_cons_succ])
                                  refine wpAnyH_ready (rs := [13]) (by kernel_rfl) (by simp) ?_
                                  refine AllReadyH.cons rfl (fun K hK => ?step525) ?more525
                                  case step525 =>
                                    refine step_append_lies _ (by rfl) _ _ _ (by rfl) (S + 1) 9 i0 _ 1 16 Try.underlying48 HI0.out HZ0.out HZ1.out HZ2.out rfl Nat.one_pos sv q (strs ((List.range q).map othVal)) (by rfl) HST.out ⟨wr.heap.size + 1, 0, none⟩ 1 1 [.string (othVal q)] (by rfl) (by rfl) hnews h1c Nat.one_pos h63 hby hbs (wr.heap.size + 2) hH ?_
                                    intro gg cap w1 hown1 hgrow hat hgl
                                    have fz := (hgrow.frozen_far ⟨S, 6, none⟩ hlS nS).trans hfz
                                    have cX' := (hgrow.cell_far ⟨X, 2, none⟩ hlX nX).trans hcX
                                    have cS' := (hgrow.cell_far ⟨S, 6, none⟩ hlS nS).trans hcS
                                    refine hK.out _ _ ?hS525 ?rest525
                                    case hS525 =>
                                      (try dsimp only)
                                      first | go_keep | assumption | (simp [go_sem, show ¬ S = X by omega, cX']; done)
                                    case rest525 =>
                                      clear hHeld
                                      intro hHeld
                                      clear hK K
                                      (try simp only [Act.put, List.setIfInBounds_toArray, List.set_cons_zero, List.set_cons_succ])
                                      refine wpAnyH_take (i := 15) (v := ?v523) rfl (by kernel_rfl) (by kernel_rfl) (by kernel_rfl) (fun _ _ _ h => h) (Or.inl ⟨by rfl, ?hy523⟩) (by assumption) ?_
                                      case hy523 => (intro w hSw; (try dsimp only at hSw); go_split_ands; go_simp <;> with_reducible rfl)
                                      (try simp only [Act.put, List.setIfInBounds_toArray, List.set_cons_zero, List.set_cons_succ])
                                      refine wpAnyH_ready (rs := [16]) (by kernel_rfl) (by simp) ?_
                                      refine AllReadyH.cons rfl (fun K hK => ?step524) ?more524
                                      case step524 =>
                                        go_simp
                                        refine hK.out _ _ ?hS524 ?rest524
                                        case hS524 =>
                                          (try dsimp only)
                                          first | go_keep | assumption | (simp [go_sem, show ¬ S = X by omega, cX']; done)
                                        case rest524 =>
                                          clear hHeld
                                          intro hHeld
                                          clear hK K
                                          (try simp only [Act.put, List.setIfInBounds_toArray, List.set_cons_zero, List.set_cons_succ])
                                          refine wpAnyH_done (by kernel_rfl) ?_ _
                                          refine NoPanic.normal ?_
                                          go_wp2_with fail
                                          go_roundw
                                          case measure => (simp [intOf]; omega)
                                          case rel =>
                                            refine ⟨q + 1, _, by omega, by go_num, World.cell?_setCell_same' _ _ _ (by rw [cS']; rfl), by simp [go_sem, fz], by rw [strs_snoc]; exact ownsRow_setCell_below hown1 (Nat.lt_succ_self S) _, ?_, ?_, ?_, ?_, ?_, ?_, (hBW.grown hgrow hbS hob).setCell (Nat.le_refl _) _⟩
                                            · simp [go_sem, (hgrow.cell_far ⟨S, 0, none⟩ hlS nS).trans hc0]
                                            · simp [go_sem, (hgrow.cell_far ⟨S, 1, none⟩ hlS nS).trans hc1]
                                            · simp [go_sem, (hgrow.cell_far ⟨S, 2, none⟩ hlS nS).trans hc2]
                                            · simp [go_sem, (hgrow.cell_far ⟨S, 3, none⟩ hlS nS).trans hc3]
                                            · simp [go_sem, (hgrow.cell_far ⟨S, 4, none⟩ hlS nS).trans hc4]
                                            · simp [go_sem, (hgrow.cell_far ⟨S, 5, none⟩ hlS nS).trans hc6]
                                      case more524 =>
                                        exact AllReadyH.nil
                                  case more525 =>
                                    exact AllReadyH.nil
                              case more526 =>
                                exact AllReadyH.nil
                          case more531 =>
                            refine AllReadyH.cons rfl (fun K hK => ?step532) ?more532
                            case step532 =>
                              go_simp
                              refine hK.out _ _ ?hS532 ?rest532
                              case hS532 =>
                                (try dsimp only)
                                first | go_keep | assumption | (simp [go_sem, show ¬ S = X by omega, cX']; done)
                              case rest532 =>
                                clear hHeld
                                intro hHeld
                                clear hK K
                                (try simp only [Act.put, List.setIfInBounds_toArray, List.set_cons_zero, List.set_cons_succ])
                                refine wpAnyH_ready (rs := [6]) (by kernel_rfl) (by simp) ?_
                                refine AllReadyH.cons rfl (fun K hK => ?step530) ?more530
                                case step530 =>
                                  go_simp
                                  refine hK.out _ _ ?hS530 ?rest530
                                  case hS530 =>
                                    (try dsimp only)
                                    first | go_keep | assumption | (simp [go_sem, show ¬ S = X by omega, cX']; done)
                                  case rest530 =>
                                    clear hHeld
                                    intro hHeld
                                    clear hK K
                                    (try simp only [Act.put, List.setIfInBounds_toArray, List.set_cons_zero, List.set_cons_succ])
                                    refine wpAnyH_ready (rs := [13]) (by kernel_rfl) (by simp) ?_
                                    refine AllReadyH.cons rfl (fun K hK => ?step529) ?more529
                                    case step529 =>
                                      refine step_append_lies _ (by rfl) _ _ _ (by rfl) (S + 1) 9 i0 _ 1 16 Try.underlying48 HI0.out HZ0.out HZ1.out HZ2.out rfl Nat.one_pos sv q (strs ((List.range q).map othVal)) (by rfl) HST.out ⟨wr.heap.size + 1, 0, none⟩ 1 1 [.string (othVal q)] (by rfl) (by rfl) hnews h1c Nat.one_pos h63 hby hbs (wr.heap.size + 2) hH ?_
                                      intro gg cap w1 hown1 hgrow hat hgl
                                      have fz := (hgrow.frozen_far ⟨S, 6, none⟩ hlS nS).trans hfz
                                      have cX' := (hgrow.cell_far ⟨X, 2, none⟩ hlX nX).trans hcX
                                      have cS' := (hgrow.cell_far ⟨S, 6, none⟩ hlS nS).trans hcS
                                      refine hK.out _ _ ?hS529 ?rest529
                                      case hS529 =>
                                        (try dsimp only)
                                        first | go_keep | assumption | (simp [go_sem, show ¬ S = X by omega, cX']; done)
                                      case rest529 =>
                                        clear hHeld
                                        intro hHeld
                                        clear hK K
                                        (try simp only [Act.put, List.setIfInBounds_toArray, List.set_cons_zero, List.set_cons_succ])
                                        refine wpAnyH_take (i := 15) (v := ?v527) rfl (by kernel_rfl) (by kernel_rfl) (by kernel_rfl) (fun _ _ _ h => h) (Or.inl ⟨by rfl, ?hy527⟩) (by assumption) ?_
                                        case hy527 => (intro w hSw; (try dsimp only at hSw); go_split_ands; go_simp <;> with_reducible rfl)
                                        (try simp only [Act.put, List.setIfInBounds_toArray, List.set_cons_zero, List.set_cons_succ])
                                        refine wpAnyH_ready (rs := [16]) (by kernel_rfl) (by simp) ?_
                                        refine AllReadyH.cons rfl (fun K hK => ?step528) ?more528
                                        case step528 =>
                                          go_simp
                                          refine hK.out _ _ ?hS528 ?rest528
                                          case hS528 =>
                                            (try dsimp only)
                                            first | go_keep | assumption | (simp [go_sem, show ¬ S = X by omega, cX']; done)
                                          case rest528 =>
                                            clear hHeld
                                            intro hHeld
                                            clear hK K
                                            (try simp only [Act.put, List.setIfInBounds_toArray, List.set_cons_zero, List.set_cons_succ])
                                            refine wpAnyH_done (by kernel_rfl) ?_ _
                                            refine NoPanic.normal ?_
                                            go_wp2_with fail
                                            go_roundw
                                            case measure => (simp [intOf]; omega)
                                            case rel =>
                                              refine ⟨q + 1, _, by omega, by go_num, World.cell?_setCell_same' _ _ _ (by rw [cS']; rfl), by simp [go_sem, fz], by rw [strs_snoc]; exact ownsRow_setCell_below hown1 (Nat.lt_succ_self S) _, ?_, ?_, ?_, ?_, ?_, ?_, (hBW.grown hgrow hbS hob).setCell (Nat.le_refl _) _⟩
                                              · simp [go_sem, (hgrow.cell_far ⟨S, 0, none⟩ hlS nS).trans hc0]
                                              · simp [go_sem, (hgrow.cell_far ⟨S, 1, none⟩ hlS nS).trans hc1]
                                              · simp [go_sem, (hgrow.cell_far ⟨S, 2, none⟩ hlS nS).trans hc2]
                                              · simp [go_sem, (hgrow.cell_far ⟨S, 3, none⟩ hlS nS).trans hc3]
                                              · simp [go_sem, (hgrow.cell_far ⟨S, 4, none⟩ hlS nS).trans hc4]
                                              · simp [go_sem, (hgrow.cell_far ⟨S, 5, none⟩ hlS nS).trans hc6]
                                        case more528 =>
                                          exact AllReadyH.nil
                                    case more529 =>
                                      exact AllReadyH.nil
                                case more530 =>
                                  exact AllReadyH.nil
                            case more532 =>
                              exact AllReadyH.nil
                      case more534 =>
                        exact AllReadyH.nil
                case more536 =>
                  exact AllReadyH.nil
          · obtain rfl : q = m := by omega
            have X3q := (hbq.cell (p := ⟨X, 3, none⟩) hSX).trans X3
            go_upto_if 84 with fail
            go_cut [] (fun wx => ∃ sv2 : Value, wx.cell? ⟨S, 6, none⟩ = some sv2 ∧ wx.ownsRow (S + 1) 9 1 sv2 (q + if has = true then 1 else 0) (strs (setThere q has VAL)) ∧
              wx.cell? ⟨S, 0, none⟩ = some (.string KEY) ∧ wx.cell? ⟨S, 1, none⟩ = some (.bool false) ∧ wx.cell? ⟨S, 2, none⟩ = some (.bool false) ∧ wx.cell? ⟨S, 3, none⟩ = some (.string ⟨#[]⟩) ∧ wx.cell? ⟨S, 4, none⟩ = some (.string ⟨#[]⟩) ∧ wx.cell? ⟨S, 5, none⟩ = some (.slice none 0 0) ∧
              Below S WM wx)
            case first =>
              cases has
              · go_wp2_with fail
                go_meet
                case rel => exact ⟨sv, c5, by simpa [setThere] using hown, c0, c1, c2, c3, c4, c6, hbq⟩
              · have hnews : ∀ (j : Nat) (u : Value), [Value.string VAL][j]? = some u → (((wr.alloc (.cells #[.string VAL] 9)).drew).cell? ((⟨wr.heap.size, 0, none⟩ : Addr).add j)) = some u := by
                  intro j u hj
                  cases j with
                  | zero => simp at hj; subst hj; rw [add_at]; simp [go_sem]
                  | succ j => simp at hj
                have hA : ((wr.alloc (.cells #[.string VAL] 9)).drew).ownsRow (S + 1) 9 1 sv q (strs ((List.range q).map othVal)) := (hown.alloc _).drew
                have h63 : q + 1 ≤ maxLen := by simp only [maxLen]; omega
                have hby : (q + 1) * 16 ≤ 140737488355328 := by omega
                have hH : ((wr.alloc (.cells #[.string VAL] 9)).drew).heap.size = wr.heap.size + 1 := by simp
                have hbs : S + 1 ≤ ((wr.alloc (.cells #[.string VAL] 9)).drew).heap.size := by rw [hH]; omega
                have h1c : ∀ u ∈ [Value.string VAL], u.oneCell' = true := by simp [Value.oneCell']
                have hlS : S < ((wr.alloc (.cells #[.string VAL] 9)).drew).heap.size := by rw [hH]; omega
                have hlX : X < ((wr.alloc (.cells #[.string VAL] 9)).drew).heap.size := by rw [hH]; omega
                have hfz : ((wr.alloc (.cells #[.string VAL] 9)).drew).frozen? ⟨S, 6, none⟩ = false := by simp [go_sem, hSw, f5]
                have hcX : ((wr.alloc (.cells #[.string VAL] 9)).drew).cell? ⟨X, 2, none⟩ = some (.int .i64 1) := by simp [go_sem, hXw, X2q]
                have hcX3 : ((wr.alloc (.cells #[.string VAL] 9)).drew).cell? ⟨X, 3, none⟩ = some (.string VAL) := by simp [go_sem, hXw, X3q]
                have hcS : ((wr.alloc (.cells #[.string VAL] 9)).drew).cell? ⟨S, 6, none⟩ = some sv := by simp [go_sem, hSw, c5]
                have hBW : Below S WM ((wr.alloc (.cells #[.string VAL] 9)).drew) := ((hbq.alloc (by omega) _)).drew
                have hbS : S ≤ ((wr.alloc (.cells #[.string VAL] 9)).drew).heap.size := by omega
                have hob : ∀ k, sv.ownBlock = some k → S ≤ k := fun k hk => by have := own_base hown k hk; omega
                have hc0 : ((wr.alloc (.cells #[.string VAL] 9)).drew).cell? ⟨S, 0, none⟩ = some (.string KEY) := by simp [go_sem, hSw, c0]
                have hc1 : ((wr.alloc (.cells #[.string VAL] 9)).drew).cell? ⟨S, 1, none⟩ = some (.bool false) := by simp [go_sem, hSw, c1]
                have hc2 : ((wr.alloc (.cells #[.string VAL] 9)).drew).cell? ⟨S, 2, none⟩ = some (.bool false) := by simp [go_sem, hSw, c2]
                have hc3 : ((wr.alloc (.cells #[.string VAL] 9)).drew).cell? ⟨S, 3, none⟩ = some (.string ⟨#[]⟩) := by simp [go_sem, hSw, c3]
                have hc4 : ((wr.alloc (.cells #[.string VAL] 9)).drew).cell? ⟨S, 4, none⟩ = some (.string ⟨#[]⟩) := by simp [go_sem, hSw, c4]
                have hc6 : ((wr.alloc (.cells #[.string VAL] 9)).drew).cell? ⟨S, 5, none⟩ = some (.slice none 0 0) := by simp [go_sem, hSw, c6]
                have HST := Lib.hid hA
                clear hA
                go_wp2_with fail
                refine wp_region_noPanic ?_
                refine wp_region_held_drew (S := fun w' => w'.cell? ⟨X, 2, none⟩ = some (.int .i64 1) ∧ w'.cell? ⟨X, 3, none⟩ = some (.string VAL)) (by kernel_rfl) ?hS546 ?rest546
                case hS546 =>
                  (try dsimp only)
                  first | go_keep | (constructor <;> assumption) | (constructor <;> simp [go_sem, show ¬ S = X by omega, cX', cX3']; done)
                case rest546 =>
                  intro hHeld
                  refine wpAnyH_take (i := 0) (v := ?v537) rfl (by kernel_rfl) (by kernel_rfl) (by kernel_rfl) (fun _ _ _ h => h) (Or.inl ⟨by rfl, ?hy537⟩) (by assumption) ?_
                  case hy537 => (intro w hSw; (try dsimp only at hSw); go_split_ands; go_simp <;> with_reducible rfl)
                  (try simp only [Act.put, List.setIfInBounds_toArray, List.set_cons_zero, List.set_cons_succ])
                  refine wpAnyH_take (i := 1) (v := ?v538) rfl (by kernel_rfl) (by kernel_rfl) (by kernel_rfl) (fun _ _ _ h => h) (Or.inl ⟨by rfl, ?hy538⟩) (by assumption) ?_
                  case hy538 => (intro w hSw; (try dsimp only at hSw); go_split_ands; go_simp <;> with_reducible rfl)
                  (try simp only [Act.put, List.setIfInBounds_toArray, List.set_cons_zero, List.set_cons_succ])
                  refine wpAnyH_take (i := 2) (v := ?v539) rfl (by kernel_rfl) (by kernel_rfl) (by kernel_rfl) (fun _ _ _ h => h) (Or.inl ⟨by rfl, ?hy539⟩) (by assumption) ?_
                  case hy539 => (intro w hSw; (try dsimp only at hSw); go_split_ands; go_simp <;> with_reducible rfl)
                  (try simp only [Act.put, List.setIfInBounds_toArray, List.set_cons_zero, List.set_cons_succ])
                  refine wpAnyH_take (i := 3) (v := ?v540) rfl (by kernel_rfl) (by kernel_rfl) (by kernel_rfl) (fun _ _ _ h => h) (Or.inl ⟨by rfl, ?hy540⟩) (by assumption) ?_
                  case hy540 => (intro w hSw; (try dsimp only at hSw); go_split_ands; go_simp <;> with_reducible rfl)
                  (try simp only [Act.put, List.setIfInBounds_toArray, List.set_cons_zero, List.set_cons_succ])
                  refine wpAnyH_take (i := 4) (v := ?v541) rfl (by kernel_rfl) (by kernel_rfl) (by kernel_rfl) (fun _ _ _ h => h) (Or.inl ⟨by rfl, ?hy541⟩) (by assumption) ?_
                  case hy541 => (intro w hSw; (try dsimp only at hSw); go_split_ands; go_simp <;> with_reducible rfl)
                  (try simp only [Act.put, List.setIfInBounds_toArray, List.set_cons_zero, List.set_cons_succ])
                  refine wpAnyH_take (i := 5) (v := ?v542) rfl (by kernel_rfl) (by kernel_rfl) (by kernel_rfl) (fun _ _ _ h => h) (Or.inl ⟨by rfl, ?hy542⟩) (by assumption) ?_
                  case hy542 => (intro w hSw; (try dsimp only at hSw); go_split_ands; go_simp <;> with_reducible rfl)
                  (try simp only [Act.put, List.setIfInBounds_toArray, List.set_cons_zero, List.set_cons_succ])
                  refine wpAnyH_take (i := 7) (v := ?v543) rfl (by kernel_rfl) (by kernel_rfl) (by kernel_rfl) (fun _ _ _ h => h) (Or.inl ⟨by rfl, ?hy543⟩) (by assumption) ?_
                  case hy543 => (intro w hSw; (try dsimp only at hSw); go_split_ands; go_simp <;> with_reducible rfl)
                  (try simp only [Act.put, List.setIfInBounds_toArray, List.set_cons_zero, List.set_cons_succ])
                  refine wpAnyH_take (i := 8) (v := ?v544) rfl (by kernel_rfl) (by kernel_rfl) (by kernel_rfl) (fun _ _ _ h => h) (Or.inl ⟨by rfl, ?hy544⟩) (by assumption) ?_
                  case hy544 => (intro w hSw; (try dsimp only at hSw); go_split_ands; go_simp <;> with_reducible rfl)
                  (try simp only [Act.put, List.setIfInBounds_toArray, List.set_cons_zero, List.set_cons_succ])
                  refine wpAnyH_take (i := 11) (v := ?v545) rfl (by kernel_rfl) (by kernel_rfl) (by kernel_rfl) (fun _ _ _ h => h) (Or.inl ⟨by rfl, ?hy545⟩) (by assumption) ?_
                  case hy545 => (intro w hSw; (try dsimp only at hSw); go_split_ands; go_simp <;> with_reducible rfl)
                  (try simp only [Act.put, List.setIfInBounds_toArray, List.set_cons_zero, List.set_cons_succ])
                  refine wpAnyH_ready (rs := [6, 9]) (by kernel_rfl) (by simp) ?_
                  refine AllReadyH.cons rfl (fun K hK => ?step555) ?more555
                  case step555 =>
                    go_simp
                    refine hK.out _ _ ?hS555 ?rest555
                    case hS555 =>
                      (try dsimp only)
                      first | go_keep | (constructor <;> assumption) | (constructor <;> simp [go_sem, show ¬ S = X by omega, cX', cX3']; done)
                    case rest555 =>
                      clear hHeld
                      intro hHeld
                      clear hK K
                      (try simp only [Act.put, List.setIfInBounds_toArray, List.set_cons_zero, List.set_cons_succ])
                      refine wpAnyH_ready (rs := [9]) (by kernel_rfl) (by simp) ?_
                      refine AllReadyH.cons rfl (fun K hK => ?step550) ?more550
                      case step550 =>
                        go_simp
                        refine hK.out _ _ ?hS550 ?rest550
                        case hS550 =>
                          (try dsimp only)
                          first | go_keep | (constructor <;> assumption) | (constructor <;> simp [go_sem, show ¬ S = X by omega, cX', cX3']; done)
                        case rest550 =>
                          clear hHeld
                          intro hHeld
                          clear hK K
                          (try simp only [Act.put, List.setIfInBounds_toArray, List.set_cons_zero, List.set_cons_succ])
                          refine wpAnyH_ready (rs := [10]) (by kernel_rfl) (by simp) ?_
                          refine AllReadyH.cons rfl (fun K hK => ?step549) ?more549
                          case step549 =>
                            refine step_append_lies _ (by rfl) _ _ _ (by rfl) (S + 1) 9 i0 _ 1 16 Try.underlying48 HI0.out HZ0.out HZ1.out HZ2.out rfl Nat.one_pos sv q (strs ((List.range q).map othVal)) (by rfl) HST.out ⟨wr.heap.size, 0, none⟩ 1 1 [.string VAL] (by rfl) (by rfl) hnews h1c Nat.one_pos h63 hby hbs (wr.heap.size + 1) hH ?_
                            intro gg cap w1 hown1 hgrow hat hgl
                            have fz := (hgrow.frozen_far ⟨S, 6, none⟩ hlS nS).trans hfz
                            have cX' := (hgrow.cell_far ⟨X, 2, none⟩ hlX nX).trans hcX
                            have cX3' := (hgrow.cell_far ⟨X, 3, none⟩ hlX nX).trans hcX3
                            have cS' := (hgrow.cell_far ⟨S, 6, none⟩ hlS nS).trans hcS
                            refine hK.out _ _ ?hS549 ?rest549
                            case hS549 =>
                              (try dsimp only)
                              first | go_keep | (constructor <;> assumption) | (constructor <;> simp [go_sem, show ¬ S = X by omega, cX', cX3']; done)
                            case rest549 =>
                              clear hHeld
                              intro hHeld
                              clear hK K
                              (try simp only [Act.put, List.setIfInBounds_toArray, List.set_cons_zero, List.set_cons_succ])
                              refine wpAnyH_take (i := 12) (v := ?v547) rfl (by kernel_rfl) (by kernel_rfl) (by kernel_rfl) (fun _ _ _ h => h) (Or.inl ⟨by rfl, ?hy547⟩) (by assumption) ?_
                              case hy547 => (intro w hSw; (try dsimp only at hSw); go_split_ands; go_simp <;> with_reducible rfl)
                              (try simp only [Act.put, List.setIfInBounds_toArray, List.set_cons_zero, List.set_cons_succ])
                              refine wpAnyH_ready (rs := [13]) (by kernel_rfl) (by simp) ?_
                              refine AllReadyH.cons rfl (fun K hK => ?step548) ?more548
                              case step548 =>
                                go_simp
                                refine hK.out _ _ ?hS548 ?rest548
                                case hS548 =>
                                  (try dsimp only)
                                  first | go_keep | (constructor <;> assumption) | (constructor <;> simp [go_sem, show ¬ S = X by omega, cX', cX3']; done)
                                case rest548 =>
                                  clear hHeld
                                  intro hHeld
                                  clear hK K
                                  (try simp only [Act.put, List.setIfInBounds_toArray, List.set_cons_zero, List.set_cons_succ])
                                  refine wpAnyH_done (by kernel_rfl) ?_ _
                                  refine NoPanic.normal ?_
                                  go_wp2_with fail
                                  go_meet
                                  case rel =>
                                    refine ⟨_, World.cell?_setCell_same' _ _ _ (by rw [cS']; rfl), by simpa [setThere, strs] using ownsRow_setCell_below hown1 (Nat.lt_succ_self S) _, ?_, ?_, ?_, ?_, ?_, ?_, (hBW.grown hgrow hbS hob).setCell (Nat.le_refl _) _⟩
                                    · simp [go_sem, (hgrow.cell_far ⟨S, 0, none⟩ hlS nS).trans hc0]
                                    · simp [go_sem, (hgrow.cell_far ⟨S, 1, none⟩ hlS nS).trans hc1]
                                    · simp [go_sem, (hgrow.cell_far ⟨S, 2, none⟩ hlS nS).trans hc2]
                                    · simp [go_sem, (hgrow.cell_far ⟨S, 3, none⟩ hlS nS).trans hc3]
                                    · simp [go_sem, (hgrow.cell_far ⟨S, 4, none⟩ hlS nS).trans hc4]
                                    · simp [go_sem, (hgrow.cell_far ⟨S, 5, none⟩ hlS nS).trans hc6]
                              case more548 =>
                                exact AllReadyH.nil
                          case more549 =>
                            exact AllReadyH.nil
                      case more550 =>
                        exact AllReadyH.nil
                  case more555 =>
                    refine AllReadyH.cons rfl (fun K hK => ?step556) ?more556
                    case step556 =>
                      go_simp
                      refine hK.out _ _ ?hS556 ?rest556
                      case hS556 =>
                        (try dsimp only)
                        first | go_keep | (constructor <;> assumption) | (constructor <;> simp [go_sem, show ¬ S = X by omega, cX', cX3']; done)
                      case rest556 =>
                        clear hHeld
                        intro hHeld
                        clear hK K
                        (try simp only [Act.put, List.setIfInBounds_toArray, List.set_cons_zero, List.set_cons_succ])
                        refine wpAnyH_ready (rs := [6]) (by kernel_rfl) (by simp) ?_
                        refine AllReadyH.cons rfl (fun K hK => ?step554) ?more554
                        case step554 =>
                          go_simp
                          refine hK.out _ _ ?hS554 ?rest554
                          case hS554 =>
                            (try dsimp only)
                            first | go_keep | (constructor <;> assumption) | (constructor <;> simp [go_sem, show ¬ S = X by omega, cX', cX3']; done)
                          case rest554 =>
                            clear hHeld
                            intro hHeld
                            clear hK K
                            (try simp only [Act.put, List.setIfInBounds_toArray, List.set_cons_zero, List.set_cons_succ])
                            refine wpAnyH_ready (rs := [10]) (by kernel_rfl) (by simp) ?_
                            refine AllReadyH.cons rfl (fun K hK => ?step553) ?more553
                            case step553 =>
                              refine step_append_lies _ (by rfl) _ _ _ (by rfl) (S + 1) 9 i0 _ 1 16 Try.underlying48 HI0.out HZ0.out HZ1.out HZ2.out rfl Nat.one_pos sv q (strs ((List.range q).map othVal)) (by rfl) HST.out ⟨wr.heap.size, 0, none⟩ 1 1 [.string VAL] (by rfl) (by rfl) hnews h1c Nat.one_pos h63 hby hbs (wr.heap.size + 1) hH ?_
                              intro gg cap w1 hown1 hgrow hat hgl
                              have fz := (hgrow.frozen_far ⟨S, 6, none⟩ hlS nS).trans hfz
                              have cX' := (hgrow.cell_far ⟨X, 2, none⟩ hlX nX).trans hcX
                              have cX3' := (hgrow.cell_far ⟨X, 3, none⟩ hlX nX).trans hcX3
                              have cS' := (hgrow.cell_far ⟨S, 6, none⟩ hlS nS).trans hcS
                              refine hK.out _ _ ?hS553 ?rest553
                              case hS553 =>
                                (try dsimp only)
                                first | go_keep | (constructor <;> assumption) | (constructor <;> simp [go_sem, show ¬ S = X by omega, cX', cX3']; done)
                              case rest553 =>
                                clear hHeld
                                intro hHeld
                                clear hK K
                                (try simp only [Act.put, List.setIfInBounds_toArray, List.set_cons_zero, List.set_cons_succ])
                                refine wpAnyH_take (i := 12) (v := ?v551) rfl (by kernel_rfl) (by kernel_rfl) (by kernel_rfl) (fun _ _ _ h => h) (Or.inl ⟨by rfl, ?hy551⟩) (by assumption) ?_
                                case hy551 => (intro w hSw; (try dsimp only at hSw); go_split_ands; go_simp <;> with_reducible rfl)
                                (try simp only [Act.put, List.setIfInBounds_toArray, List.set_cons_zero, List.set_cons_succ])
                                refine wpAnyH_ready (rs := [13]) (by kernel_rfl) (by simp) ?_
                                refine AllReadyH.cons rfl (fun K hK => ?step552) ?more552
                                case step552 =>
                                  go_simp
                                  refine hK.out _ _ ?hS552 ?rest552
                                  case hS552 =>
                                    (try dsimp only)
                                    first | go_keep | (constructor <;> assumption) | (constructor <;> simp [go_sem, show ¬ S = X by omega, cX', cX3']; done)
                                  case rest552 =>
                                    clear hHeld
                                    intro hHeld
                                    clear hK K
                                    (try simp only [Act.put, List.setIfInBounds_toArray, List.set_cons_zero, List.set_cons_succ])
                                    refine wpAnyH_done (by kernel_rfl) ?_ _
                                    refine NoPanic.normal ?_
                                    go_wp2_with fail
                                    go_meet
                                    case rel =>
                                      refine ⟨_, World.cell?_setCell_same' _ _ _ (by rw [cS']; rfl), by simpa [setThere, strs] using ownsRow_setCell_below hown1 (Nat.lt_succ_self S) _, ?_, ?_, ?_, ?_, ?_, ?_, (hBW.grown hgrow hbS hob).setCell (Nat.le_refl _) _⟩
                                      · simp [go_sem, (hgrow.cell_far ⟨S, 0, none⟩ hlS nS).trans hc0]
                                      · simp [go_sem, (hgrow.cell_far ⟨S, 1, none⟩ hlS nS).trans hc1]
                                      · simp [go_sem, (hgrow.cell_far ⟨S, 2, none⟩ hlS nS).trans hc2]
                                      · simp [go_sem, (hgrow.cell_far ⟨S, 3, none⟩ hlS nS).trans hc3]
                                      · simp [go_sem, (hgrow.cell_far ⟨S, 4, none⟩ hlS nS).trans hc4]
                                      · simp [go_sem, (hgrow.cell_far ⟨S, 5, none⟩ hlS nS).trans hc6]
                                case more552 =>
                                  exact AllReadyH.nil
                            case more553 =>
                              exact AllReadyH.nil
                        case more554 =>
                          exact AllReadyH.nil
                    case more556 =>
                      exact AllReadyH.nil
            case rest =>
              obtain ⟨sv2, T5, own2, T0, T1, T2, T3, T4, T6, hbt⟩ := hcut
              obtain ⟨N2, hN2⟩ : ∃ N2 : Nat, N2 = q + if has = true then 1 else 0 := ⟨_, rfl⟩
              rw [← hN2] at own2
              have hN3 : N2 ≤ 5 := by rw [hN2]; split <;> omega
              have HN2 := Lib.hid hN2
              clear hN2
              have own1 := own_below HOWN.out (by rw [hSe]; exact hOM.trans hbt)
              have hbt' : Below w.heap.size w wc := hbm.trans (hbt.mono (by omega))
              have hzc : S < wc.heap.size := by have := hbt.size; omega
              have XS0 := (hbt.cell (p := ⟨X, 0, none⟩) hSX).trans X0
              have XS1 := (hbt.cell (p := ⟨X, 1, none⟩) hSX).trans X1
              have XS2 := (hbt.cell (p := ⟨X, 2, none⟩) hSX).trans X2
              have XS3 := (hbt.cell (p := ⟨X, 3, none⟩) hSX).trans X3
              have CS0 := (hbt.cell (p := ⟨G, 0, none⟩) hSG).trans C0
              have CS1 := (hbt.cell (p := ⟨G, 1, none⟩) hSG).trans C1
              have CS2 := (hbt.cell (p := ⟨G, 2, none⟩) hSG).trans C2
              have CS3 := (hbt.cell (p := ⟨G, 3, none⟩) hSG).trans C3
              have CS4 := (hbt.cell (p := ⟨G, 4, none⟩) hSG).trans C4
              have CS5 := (hbt.cell (p := ⟨G, 5, none⟩) hSG).trans C5
              clear X0 X1 X2 X3 C0 C1 C2 C3 C4 C5 X2q X3q c0 c1 c2 c3 c4 c5 c6 f5 hown
              cases there
              · obtain ⟨A, cc, hu, hcc, hR⟩ := Rd.own own1
                subst hu
                have hRC : RdCons wc A j ((List.range j).map oth) := ⟨⟨_, hR, oth_cons _ _⟩⟩
                have HNO := Lib.hid (there_no (cL := 1 + n2 % 4) (cP := 1 + n3 % 3) (o := j) good.out HK.out)
                have HCK := Lib.hid (check_any 0 0 0 0 (1 + n2 % 4) (1 + n3 % 3) A j cc _ K KEY 1 VAL wc hRC (by omega) (by omega))
                clear own1 own2 hR hRC T0 T1 T2 T3 T4 T5 T6
                by_cases hk1 : K = 1
                · subst hk1
                  by_cases hq2 : 1 + n2 % 4 ≤ (j : Int)
                  · have H := Lib.hid (show checkE (1 + n2 % 4) (1 + n3 % 3) ((List.range j).map oth) 1 KEY 1 VAL = 15 by rw [HNO.out, if_pos rfl, if_pos hq2])
                    go_wp2_with fail
                    refine HCK.out.mono ?_
                    rintro e w9 ⟨rfl, hb9⟩
                    rw [H.out]
                    go_wp2_with fail
                    go_ret
                    exact ⟨rfl, below_next hbt' hb9⟩
                  · have H := Lib.hid (show checkE (1 + n2 % 4) (1 + n3 % 3) ((List.range j).map oth) 1 KEY 1 VAL = 0 by rw [HNO.out, if_pos rfl, if_neg hq2])
                    go_wp2_with fail
                    refine HCK.out.mono ?_
                    rintro e w9 ⟨rfl, hb9⟩
                    rw [H.out]
                    go_wp2_with fail
                    go_ret
                    exact ⟨rfl, below_next hbt' hb9⟩
                · have H := Lib.hid (show checkE (1 + n2 % 4) (1 + n3 % 3) ((List.range j).map oth) K KEY 1 VAL = 14 by rw [HNO.out, if_neg hk1])
                  have hk1' : (K == 1) = false := by simpa using hk1
                  clear hk1
                  go_wp2_with fail
                  refine HCK.out.mono ?_
                  rintro e w9 ⟨rfl, hb9⟩
                  rw [H.out]
                  go_wp2_with fail
                  go_ret
                  exact ⟨rfl, below_next hbt' hb9⟩
              · obtain ⟨A2, k2, hu2, hk2, hR2⟩ := Rd.own own2
                subst hu2
                have hlt1 : ∀ g, u14.ownBlock = some g → g < S := fun g hg => by have := (HOWN.out.lt g hg).2; omega
                have hne2 : (Value.slice A2 N2 k2).ownBlock = none ∨ (Value.slice A2 N2 k2).ownBlock ≠ u14.ownBlock := by
                  rcases h : (Value.slice A2 N2 k2).ownBlock with _ | g
                  · exact .inl rfl
                  · refine .inr fun e => ?_
                    have e1 := own_base own2 g h
                    have e2 := hlt1 g e.symm
                    omega
                have nS1 : some S ≠ u14.ownBlock := fun h => by have := hlt1 S h.symm; omega
                have HYES := Lib.hid (there_yes (cL := 1 + n2 % 4) (cP := 1 + n3 % 3) (o := j) (m := q) (has := has) good.out HK.out HV.out)
                rw [← HN2.out] at HYES
                have HOW1 := Lib.hid own1
                have HOW2 := Lib.hid own2
                clear own1 own2
                go_wp2_with (at_builtin; go_loud (refine wpList_append_at (w0 := wc) (X + 1) wc.heap.size (by rfl) rfl _ _ 46 51 _ 7 104 rfl Try.underlying46 info_con rfl (by decide) (by decide) _ j (othCells j) _ (by rfl) (by rfl) HOW1.out (by rfl) (by simp [Value.oneCell']) (Below.refl _ _) (by omega) (by omega) ?_))
                intro r2 w3 own3 hb3 hg3 _
                obtain ⟨A3, k3, hu3, hk3, hR3⟩ := Rd.own own3
                subst hu3
                have hR2' := (Rd.owns (HOW2.out.kept hg3 hne2)).2
                have hRC : RdCons w3 A3 (j + 1) ((List.range j).map oth ++ [mine KEY 1 (setThere q has VAL)]) := ⟨⟨_, hR3, (oth_cons w3 j).snoc ⟨none, 0, 0, A2, _, k2, rfl, Rd.nil _ _ _, Nat.le_refl _, by simpa [mine] using hR2', hk2⟩⟩⟩
                have hbt3 : Below w.heap.size w w3 := hbt'.trans (hb3.mono (by omega))
                have hz3 : wc.heap.size ≤ w3.heap.size := hb3.size
                have TS5 := (hg3.cell_far ⟨S, 6, none⟩ hzc nS1).trans T5
                have XT0 := (hb3.cell (p := ⟨X, 0, none⟩) (Nat.lt_succ_self X)).trans XS0
                have XT1 := (hb3.cell (p := ⟨X, 1, none⟩) (Nat.lt_succ_self X)).trans XS1
                have XT2 := (hb3.cell (p := ⟨X, 2, none⟩) (Nat.lt_succ_self X)).trans XS2
                have XT3 := (hb3.cell (p := ⟨X, 3, none⟩) (Nat.lt_succ_self X)).trans XS3
                have hGX : G < X + 1 := by omega
                have CT0 := (hb3.cell (p := ⟨G, 0, none⟩) hGX).trans CS0
                have CT1 := (hb3.cell (p := ⟨G, 1, none⟩) hGX).trans CS1
                have CT2 := (hb3.cell (p := ⟨G, 2, none⟩) hGX).trans CS2
                have CT3 := (hb3.cell (p := ⟨G, 3, none⟩) hGX).trans CS3
                have CT4 := (hb3.cell (p := ⟨G, 4, none⟩) hGX).trans CS4
                have CT5 := (hb3.cell (p := ⟨G, 5, none⟩) hGX).trans CS5
                have HCK := Lib.hid (fun (w' : World) (h : Below w3.heap.size w3 w') => check_any 0 0 0 0 (1 + n2 % 4) (1 + n3 % 3) A3 (j + 1) k3 _ K KEY 1 VAL w' (hRC.below h) (by omega) (by omega))
                clear own3 hR2 hR2' hR3 hRC T0 T1 T2 T3 T4 T5 T6 XS0 XS1 XS2 XS3 CS0 CS1 CS2 CS3 CS4 CS5 hb3 hg3
                clear hne2
                have hkk : K = 1 ∨ K = 2 ∨ K = 3 ∨ K = 4 ∨ K = 5 := by omega
                rcases hkk with rfl | rfl | rfl | rfl | rfl
                · skip
                  have H := Lib.hid (show checkE (1 + n2 % 4) (1 + n3 % 3) ((List.range j).map oth ++ [mine KEY 1 (setThere q has VAL)]) 1 KEY 1 VAL = 13 by rw [HYES.out, if_pos rfl])
                  go_wp2_with fail
                  refine (HCK.out _ (by (repeat (first | exact Below.refl _ _ | assumption | (refine Below.drew ?_) | (refine below_drewN ?_ _) | (refine Below.alloc ?_ (by first | omega | (simp; done) | (simp; omega)) _) | (refine Below.setCell ?_ (by first | omega | (simp; done) | (simp; omega)) _))))).mono ?_
                  rintro e w9 ⟨rfl, hb9⟩
                  rw [H.out]
                  go_wp2_with fail
                  go_ret
                  exact ⟨rfl, below_next (w := w) (by (repeat (first | exact Below.refl _ _ | assumption | (refine Below.drew ?_) | (refine below_drewN ?_ _) | (refine Below.alloc ?_ (by first | omega | (simp; done) | (simp; omega)) _) | (refine Below.setCell ?_ (by first | omega | (simp; done) | (simp; omega)) _)))) hb9⟩
                · skip
                  have H := Lib.hid (show checkE (1 + n2 % 4) (1 + n3 % 3) ((List.range j).map oth ++ [mine KEY 1 (setThere q has VAL)]) 2 KEY 1 VAL = 0 by rw [HYES.out, if_neg (by decide), if_neg (fun h => by omega), if_neg (fun h => by omega)])
                  go_wp2_with fail
                  go_quiet (fail)
                  go_wp2_with fail
                  refine (HCK.out _ (by (repeat (first | exact Below.refl _ _ | assumption | (refine Below.drew ?_) | (refine below_drewN ?_ _) | (refine Below.alloc ?_ (by first | omega | (simp; done) | (simp; omega)) _) | (refine Below.setCell ?_ (by first | omega | (simp; done) | (simp; omega)) _))))).mono ?_
                  rintro e w9 ⟨rfl, hb9⟩
                  rw [H.out]
                  go_wp2_with fail
                  go_ret
                  exact ⟨rfl, below_next (w := w) (by (repeat (first | exact Below.refl _ _ | assumption | (refine Below.drew ?_) | (refine below_drewN ?_ _) | (refine Below.alloc ?_ (by first | omega | (simp; done) | (simp; omega)) _) | (refine Below.setCell ?_ (by first | omega | (simp; done) | (simp; omega)) _)))) hb9⟩
                · skip
                  have H := Lib.hid (show checkE (1 + n2 % 4) (1 + n3 % 3) ((List.range j).map oth ++ [mine KEY 1 (setThere q has VAL)]) 3 KEY 1 VAL = 0 by rw [HYES.out, if_neg (by decide), if_neg (fun h => by omega), if_neg (fun h => by omega)])
                  go_wp2_with fail
                  go_quiet (fail)
                  go_wp2_with fail
                  refine (HCK.out _ (by (repeat (first | exact Below.refl _ _ | assumption | (refine Below.drew ?_) | (refine below_drewN ?_ _) | (refine Below.alloc ?_ (by first | omega | (simp; done) | (simp; omega)) _) | (refine Below.setCell ?_ (by first | omega | (simp; done) | (simp; omega)) _))))).mono ?_
                  rintro e w9 ⟨rfl, hb9⟩
                  rw [H.out]
                  go_wp2_with fail
                  go_ret
                  exact ⟨rfl, below_next (w := w) (by (repeat (first | exact Below.refl _ _ | assumption | (refine Below.drew ?_) | (refine below_drewN ?_ _) | (refine Below.alloc ?_ (by first | omega | (simp; done) | (simp; omega)) _) | (refine Below.setCell ?_ (by first | omega | (simp; done) | (simp; omega)) _)))) hb9⟩
                · by_cases hq2 : 1 + n3 % 3 ≤ (N2 : Int)
                  · have hd : decide (1 + n3 % 3 ≤ (N2 : Int)) = true := decide_eq_true hq2
                    have H := Lib.hid (show checkE (1 + n2 % 4) (1 + n3 % 3) ((List.range j).map oth ++ [mine KEY 1 (setThere q has VAL)]) 4 KEY 1 VAL = 15 by rw [HYES.out, if_neg (by decide), if_pos ⟨rfl, hq2⟩])
                    go_wp2_with fail
                    go_quiet (fail)
                    go_wp2_with fail
                    refine (HCK.out _ (by (repeat (first | exact Below.refl _ _ | assumption | (refine Below.drew ?_) | (refine below_drewN ?_ _) | (refine Below.alloc ?_ (by first | omega | (simp; done) | (simp; omega)) _) | (refine Below.setCell ?_ (by first | omega | (simp; done) | (simp; omega)) _))))).mono ?_
                    rintro e w9 ⟨rfl, hb9⟩
                    rw [H.out]
                    go_wp2_with fail
                    go_ret
                    exact ⟨rfl, below_next (w := w) (by (repeat (first | exact Below.refl _ _ | assumption | (refine Below.drew ?_) | (refine below_drewN ?_ _) | (refine Below.alloc ?_ (by first | omega | (simp; done) | (simp; omega)) _) | (refine Below.setCell ?_ (by first | omega | (simp; done) | (simp; omega)) _)))) hb9⟩
                  · have hd : decide (1 + n3 % 3 ≤ (N2 : Int)) = false := decide_eq_false hq2
                    have H := Lib.hid (show checkE (1 + n2 % 4) (1 + n3 % 3) ((List.range j).map oth ++ [mine KEY 1 (setThere q has VAL)]) 4 KEY 1 VAL = 0 by rw [HYES.out, if_neg (by decide), if_neg (fun h => hq2 h.2), if_neg (fun h => by omega)])
                    go_wp2_with fail
                    go_quiet (fail)
                    go_wp2_with fail
                    refine (HCK.out _ (by (repeat (first | exact Below.refl _ _ | assumption | (refine Below.drew ?_) | (refine below_drewN ?_ _) | (refine Below.alloc ?_ (by first | omega | (simp; done) | (simp; omega)) _) | (refine Below.setCell ?_ (by first | omega | (simp; done) | (simp; omega)) _))))).mono ?_
                    rintro e w9 ⟨rfl, hb9⟩
                    rw [H.out]
                    go_wp2_with fail
                    go_ret
                    exact ⟨rfl, below_next (w := w) (by (repeat (first | exact Below.refl _ _ | assumption | (refine Below.drew ?_) | (refine below_drewN ?_ _) | (refine Below.alloc ?_ (by first | omega | (simp; done) | (simp; omega)) _) | (refine Below.setCell ?_ (by first | omega | (simp; done) | (simp; omega)) _)))) hb9⟩
                · cases has
                  · skip
                    have H := Lib.hid (show checkE (1 + n2 % 4) (1 + n3 % 3) ((List.range j).map oth ++ [mine KEY 1 (setThere q false VAL)]) 5 KEY 1 VAL = 16 by rw [HYES.out, if_neg (by decide), if_neg (fun h => by omega), if_pos ⟨rfl, rfl⟩])
                    go_wp2_with fail
                    go_quiet (fail)
                    go_wp2_with fail
                    refine (HCK.out _ (by (repeat (first | exact Below.refl _ _ | assumption | (refine Below.drew ?_) | (refine below_drewN ?_ _) | (refine Below.alloc ?_ (by first | omega | (simp; done) | (simp; omega)) _) | (refine Below.setCell ?_ (by first | omega | (simp; done) | (simp; omega)) _))))).mono ?_
                    rintro e w9 ⟨rfl, hb9⟩
                    rw [H.out]
                    go_wp2_with fail
                    go_ret
                    exact ⟨rfl, below_next (w := w) (by (repeat (first | exact Below.refl _ _ | assumption | (refine Below.drew ?_) | (refine below_drewN ?_ _) | (refine Below.alloc ?_ (by first | omega | (simp; done) | (simp; omega)) _) | (refine Below.setCell ?_ (by first | omega | (simp; done) | (simp; omega)) _)))) hb9⟩
                  · skip
                    have H := Lib.hid (show checkE (1 + n2 % 4) (1 + n3 % 3) ((List.range j).map oth ++ [mine KEY 1 (setThere q true VAL)]) 5 KEY 1 VAL = 0 by rw [HYES.out, if_neg (by decide), if_neg (fun h => by omega), if_neg (fun h => by cases h.2)])
                    go_wp2_with fail
                    go_quiet (fail)
                    go_wp2_with fail
                    refine (HCK.out _ (by (repeat (first | exact Below.refl _ _ | assumption | (refine Below.drew ?_) | (refine below_drewN ?_ _) | (refine Below.alloc ?_ (by first | omega | (simp; done) | (simp; omega)) _) | (refine Below.setCell ?_ (by first | omega | (simp; done) | (simp; omega)) _))))).mono ?_
                    rintro e w9 ⟨rfl, hb9⟩
                    rw [H.out]
                    go_wp2_with fail
                    go_ret
                    exact ⟨rfl, below_next (w := w) (by (repeat (first | exact Below.refl _ _ | assumption | (refine Below.drew ?_) | (refine below_drewN ?_ _) | (refine Below.alloc ?_ (by first | omega | (simp; done) | (simp; omega)) _) | (refine Below.setCell ?_ (by first | omega | (simp; done) | (simp; omega)) _)))) hb9⟩
end Go.Proofs.Ytdabndoojkdicaa
