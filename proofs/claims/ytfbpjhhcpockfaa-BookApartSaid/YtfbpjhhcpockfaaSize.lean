/- book.Size: what it gives of any events. No condition. -/
import Derived.Test.YtfbpjhhcpockfaaOfL
import Derived.Test.YtfbpjhhcpockfaaOf
set_option linter.unusedVariables false
set_option linter.unusedSimpArgs false
namespace Go.Proofs.Ytfbpjhhcpockfaa
open Go.RowKit Go.Shelf Go.Maps

/-- Those of M that none of L is above. -/
def topL (k : Int) (so : Ev → Ev → Bool) (L M : List Ev) : List Ev := M.filter fun e => !L.any (abv k so e)
def sizeL (L : List Ev) : Nat := (liveL L).length + (topL 3 Ev.sameLabel L (countL 3 L)).length + (topL 4 Ev.sameValue L (countL 4 L)).length
theorem topL_snoc {k : Int} {so : Ev → Ev → Bool} {L M : List Ev} {j : Nat} {x : Ev} (hx : M[j]? = some x) : (topL k so L (M.take (j + 1))).length = (topL k so L (M.take j)).length + (if L.any (abv k so x) = true then 0 else 1) := by
  unfold topL
  rw [take_snoc hx, List.filter_append, List.length_append]
  cases h : L.any (abv k so x) <;> simp [h]
theorem topL_le (k : Int) (so : Ev → Ev → Bool) (L M : List Ev) : (topL k so L M).length ≤ M.length := List.length_filter_le _ _

section
variable {ops : Array Oper} {rest : List Oper} {o : Oper} {a : Act} {Q : Exit → Act → World → Prop} {w : World}
theorem wpl_insert (hg : o.guard = none) (m x v : Operand) (t : TypeId) (hop : o.op = Op.insert t m x v) (k e : TypeId) (K : Keyed Try.prog k) (ht : Try.prog.underlying t = some (.map k e)) (b n : Nat) (f : Lit → Option Value)
    (hm : a.eval m = .map (some b)) (h : MapV w k b n f) (hn : n < maxLen) (key val : Value) (kl : Lit) (hx : a.eval x = key) (hv : a.eval v = val) (hkey : keyOf Try.prog k key = some kl)
    (hK : ∀ w', MapV w' k b (n + 1) (setF f kl val) → w.grownBy w' (some b) → wpList Try.prog ops Q rest (a.put o.dst undef) w') : wpList Try.prog ops Q (o :: rest) a w := by
  refine wpList_plain hg fun K' hK' => ?_
  obtain ⟨w', hrun, r1, r2⟩ := h.store (val := val) K ht hn hkey
  unfold Oper.wp
  simp [execOp, hop, hm, hx, hv, hrun, Result.andThen]
  exact hK' _ _ (hK w' r1 r2)
end
theorem keyed_int : Keyed Try.prog 3 := Maps.int_keyed Try.underlying3
theorem key_int {i : Int} (h : (Lit.int .i64 i).wf = true) : keyOf Try.prog 3 (.int .i64 i) = some (.int .i64 i) := Maps.keyOf_int_mk Try.underlying3 h
noncomputable def szB1 : Code := loopOf Try.f19.body 0
noncomputable def szB2 : Code := loopOf Try.f19.body 1
set_option maxRecDepth 100000 in
set_option maxHeartbeats 2000000 in
theorem size_loop2 (Q : Exit → Act → World → Prop) (kind : Int) (so : Ev → Ev → Bool) (g : Nat) (hg : SoAt g so) (A A' : Option Addr) (n c m c' K s : Nat) (L M : List Ev) (w : World) (u1 u2 u4 u5 u7 u8 u9 u10 u11 u12 u13 u14 u15 u16 u17 u18 u19 u20 u21 u22 u23 u24 u28 u29 u30 u31 u32 u33 u34 u35 u36 u37 u38 u39 : Value)
    (hR : RdEv w A n L) (hR' : RdEv w A' m M) (hK : At w K [.int .i64 kind, .func (.func g) #[] #[]]) (hm : m ≤ 1000000000) (hs : s ≤ 3000000000)
    (hexit : ∀ (x8 x27 x28 x29 x30 x31 x32 x33 x34 x35 x36 x37 x38 : Value) (w' : World), Below w.heap.size w w' →
      Q (.exit 2) ⟨(List.toArray (.slice A n c :: u1 :: u2 :: .int .i64 ((s + (topL kind so L M).length : Nat) : Int) :: u4 :: u5 :: .pointer (some ⟨K, 0, none⟩) :: u7 :: x8 :: u9 :: u10 :: u11 :: u12 :: u13 :: u14 :: u15 :: u16 :: u17 :: u18 :: u19 :: u20 :: u21 :: u22 :: u23 :: u24 :: .slice A' m c' :: .int .i64 m :: x27 :: x28 :: x29 :: x30 :: x31 :: x32 :: x33 :: x34 :: x35 :: x36 :: x37 :: x38 :: u39 :: [])), []⟩ w') :
    Code.wp Try.prog (.loop szB2) Q ⟨(List.toArray (.slice A n c :: u1 :: u2 :: .int .i64 s :: u4 :: u5 :: .pointer (some ⟨K, 0, none⟩) :: u7 :: u8 :: u9 :: u10 :: u11 :: u12 :: u13 :: u14 :: u15 :: u16 :: u17 :: u18 :: u19 :: u20 :: u21 :: u22 :: u23 :: u24 :: .slice A' m c' :: .int .i64 m :: .int .i64 0 :: u28 :: u29 :: u30 :: u31 :: u32 :: u33 :: u34 :: u35 :: u36 :: u37 :: u38 :: u39 :: [])), []⟩ w := by
  conv => arg 2; arg 1; whnf
  have HA := Lib.hid (fun (e : Ev) (W : World) (h : Below w.heap.size w W) => above_any kind so g hg A n c L e W (hR.below h))
  have hRr := Lib.hid (fun (W : World) (h : Below w.heap.size w W) => hR'.below h)
  have HK := Lib.hid (fun (W : World) (h : Below w.heap.size w W) => hK.next h)
  have HX := Lib.hid hexit
  have HL := Lib.hid hR'.1
  clear hexit hR hR' hK hg
  go_loopw [3, 27] (fun v i wr => ∃ j : Nat, j ≤ m ∧ i = .int .i64 j ∧ v = .int .i64 ((s + (topL kind so L (M.take j)).length : Nat) : Int) ∧ Below w.heap.size w wr) (fun _ i _ => m - (intOf i).toNat)
  case atStart => exact ⟨0, by omega, rfl, by simp [topL], Below.refl _ _⟩
  case round =>
    obtain ⟨j, hj, rfl, rfl, hbr⟩ := hrel
    have hle := topL_le kind so L (M.take j)
    have hle2 : (M.take j).length ≤ j := List.length_take_le _ _
    obtain ⟨t, ht⟩ : ∃ t, t = (topL kind so L (M.take j)).length := ⟨_, rfl⟩
    rw [← ht] at hle ⊢
    by_cases hjm : j < m
    · obtain ⟨x, hx⟩ : ∃ x, M[j]? = some x := ⟨M[j]'(by rw [HL.out]; exact hjm), List.getElem?_eq_getElem _⟩
      have hR' := hRr.out wr hbr
      obtain ⟨b, o, hA, hlt, hcc⟩ := hR'.at_ j x hx
      subst hA
      have v0 : wr.cell? ⟨b, o + j * 12, none⟩ = some (.int .i64 x.r) := hcc 0 _ rfl
      have v1 : wr.cell? ⟨b, o + j * 12 + 1, none⟩ = some (.int .i64 x.n) := hcc 1 _ rfl
      have v2 : wr.cell? ⟨b, o + j * 12 + 2, none⟩ = some (.int .i64 x.c0) := hcc 2 _ rfl
      have v3 : wr.cell? ⟨b, o + j * 12 + 3, none⟩ = some (.int .i64 x.c1) := hcc 3 _ rfl
      have v4 : wr.cell? ⟨b, o + j * 12 + 4, none⟩ = some (.int .i64 x.c2) := hcc 4 _ rfl
      have v5 : wr.cell? ⟨b, o + j * 12 + 5, none⟩ = some (.int .i64 x.c3) := hcc 5 _ rfl
      have v6 : wr.cell? ⟨b, o + j * 12 + 6, none⟩ = some (.int .i64 x.c4) := hcc 6 _ rfl
      have v7 : wr.cell? ⟨b, o + j * 12 + 7, none⟩ = some (.int .i64 x.height) := hcc 7 _ rfl
      have v8 : wr.cell? ⟨b, o + j * 12 + 8, none⟩ = some (.int .i64 x.kind) := hcc 8 _ rfl
      have v9 : wr.cell? ⟨b, o + j * 12 + 9, none⟩ = some (.string x.key) := hcc 9 _ rfl
      have v10 : wr.cell? ⟨b, o + j * 12 + 10, none⟩ = some (.int .i64 x.label) := hcc 10 _ rfl
      have v11 : wr.cell? ⟨b, o + j * 12 + 11, none⟩ = some (.string x.value) := hcc 11 _ rfl
      have hk := HK.out wr hbr
      have lK := hk.lt
      have y0 := hk.cell 0 rfl
      have y1 := hk.cell 1 rfl
      have hsz : w.heap.size ≤ wr.heap.size := hbr.size
      have HB1 := Lib.hid (hbr.alloc hsz (.cells x.cells.toArray 35))
      have HX2 := Lib.hid hx
      have HT := Lib.hid ht
      clear hcc hR' hx hk ht
      go_wp2_with fail
      refine (HA.out x _ HB1.out).mono ?_
      rintro e w2 ⟨rfl, hb2⟩
      have HB2 := Lib.hid (HB1.out.trans (hb2.mono (by simp; omega)))
      obtain ⟨q, hq⟩ : ∃ q, q = L.any (abv kind so x) := ⟨_, rfl⟩
      have HQ := Lib.hid hq
      rw [← hq]
      clear hb2 hq
      cases q
      · go_wp2_with fail
        go_roundw
        case measure => simp [intOf]; omega
        case rel =>
          refine ⟨j + 1, by omega, by go_num, ?_, HB2.out⟩
          rw [topL_snoc HX2.out, ← HQ.out, ← HT.out]
          simp
          omega
      · go_wp2_with fail
        go_roundw
        case measure => simp [intOf]; omega
        case rel =>
          refine ⟨j + 1, by omega, by go_num, ?_, HB2.out⟩
          rw [topL_snoc HX2.out, ← HQ.out, ← HT.out]
          simp
    · have hjm' : j = m := by omega
      subst hjm'
      have hne : ¬ (j : Int) < (j : Int) := by omega
      have e : M.take j = M := List.take_of_length_le (by rw [HL.out]; omega)
      rw [e] at ht
      rw [ht]
      go_wp2_with fail
      exact HX.out _ _ _ _ _ _ _ _ _ _ _ _ _ _ hbr

def fLabel : Value := .func (.func 36) #[] #[]
def fValue : Value := .func (.func 37) #[] #[]
def k3 : Lit := .int .i64 3
def k4 : Lit := .int .i64 4
def szF : Lit → Option Value := setF (setF (fun _ => none) k3 fLabel) k4 fValue
theorem isKey34 : WideAt.IsKeyLit k3 ∧ WideAt.IsKeyLit k4 := ⟨keyed_int.key (key_int (by decide)), keyed_int.key (key_int (by decide))⟩
theorem k34 : k3 ≠ k4 := by intro h; injection h with _ h; exact absurd h (by decide)
theorem szF3 : szF k3 = some fLabel := by unfold szF; rw [setF_other _ k34, setF_same _ isKey34.1]
theorem szF4 : szF k4 = some fValue := by unfold szF; rw [setF_same _ isKey34.2]
theorem szF_cases {kl : Lit} {v : Value} (h : szF kl = some v) : (kl = k3 ∧ v = fLabel) ∨ (kl = k4 ∧ v = fValue) := by
  by_cases e4 : kl = k4
  · subst e4; rw [szF4] at h; exact .inr ⟨rfl, (Option.some.inj h).symm⟩
  · by_cases e3 : kl = k3
    · subst e3; rw [szF3] at h; exact .inl ⟨rfl, (Option.some.inj h).symm⟩
    · unfold szF at h; rw [setF_other _ e4, setF_other _ e3] at h; cases h
def got (L : List Ev) (left : Lit → Bool) : Nat := (if left k3 = true then 0 else (topL 3 Ev.sameLabel L (countL 3 L)).length) + (if left k4 = true then 0 else (topL 4 Ev.sameValue L (countL 4 L)).length)
theorem got3 (L : List Ev) {left : Lit → Bool} (h : left k3 = true) : got L (fun z => left z && !z.sameKey k3) = got L left + (topL 3 Ev.sameLabel L (countL 3 L)).length := by
  have e1 : k3.sameKey k3 = true := by decide
  have e2 : k4.sameKey k3 = false := by decide
  unfold got
  simp only [h, e1, e2]
  simp
  omega
theorem got4 (L : List Ev) {left : Lit → Bool} (h : left k4 = true) : got L (fun z => left z && !z.sameKey k4) = got L left + (topL 4 Ev.sameValue L (countL 4 L)).length := by
  have e1 : k3.sameKey k4 = false := by decide
  have e2 : k4.sameKey k4 = true := by decide
  unfold got
  simp only [h, e1, e2]
  simp
theorem got_le (L : List Ev) (left : Lit → Bool) : got L left ≤ 2 * L.length := by
  unfold got
  have a := topL_le 3 Ev.sameLabel L (countL 3 L)
  have b := topL_le 4 Ev.sameValue L (countL 4 L)
  have c := count_len 3 L
  have d := count_len 4 L
  split <;> split <;> omega
set_option maxRecDepth 100000 in
set_option maxHeartbeats 2000000 in
theorem size_loop1 (Q : Exit → Act → World → Prop) (A : Option Addr) (n c B r cnt : Nat) (L : List Ev) (w0 w : World) (u1 u2 u4 u5 u6 u7 u8 u9 u10 u11 u12 u13 u15 u16 u17 u18 u19 u20 u21 u22 u23 u24 u25 u26 u27 u28 u29 u30 u31 u32 u33 u34 u35 u36 u37 u38 u39 : Value)
    (hR : RdEv w0 A n L) (hn : n ≤ 1000000000) (hb0 : Below w0.heap.size w0 w) (hr0 : w0.heap.size ≤ r) (hrg : RangeV w 3 B r 2 szF (fun kl => (szF kl).isSome) cnt)
    (hexit : ∀ (x4 x5 x6 x8 x15 x16 x17 x18 x19 x20 x21 x22 x23 x24 x25 x26 x27 x28 x29 x30 x31 x32 x33 x34 x35 x36 x37 x38 : Value) (w' : World), Below w0.heap.size w0 w' →
      Q (.exit 0) ⟨(List.toArray (.slice A n c :: u1 :: u2 :: .int .i64 (sizeL L : Nat) :: x4 :: x5 :: x6 :: u7 :: x8 :: u9 :: u10 :: u11 :: u12 :: u13 :: .pointer (some ⟨r, 0, none⟩) :: x15 :: x16 :: x17 :: x18 :: x19 :: x20 :: x21 :: x22 :: x23 :: x24 :: x25 :: x26 :: x27 :: x28 :: x29 :: x30 :: x31 :: x32 :: x33 :: x34 :: x35 :: x36 :: x37 :: x38 :: u39 :: [])), []⟩ w') :
    Code.wp Try.prog (.loop szB1) Q ⟨(List.toArray (.slice A n c :: u1 :: u2 :: .int .i64 ((liveL L).length : Nat) :: u4 :: u5 :: u6 :: u7 :: u8 :: u9 :: u10 :: u11 :: u12 :: u13 :: .pointer (some ⟨r, 0, none⟩) :: u15 :: u16 :: u17 :: u18 :: u19 :: u20 :: u21 :: u22 :: u23 :: u24 :: u25 :: u26 :: u27 :: u28 :: u29 :: u30 :: u31 :: u32 :: u33 :: u34 :: u35 :: u36 :: u37 :: u38 :: u39 :: [])), []⟩ w := by
  conv => arg 2; arg 1; whnf
  have HC := Lib.hid (fun (k : Int) (W : World) (h : Below w0.heap.size w0 W) => counting_any k A n c L W (hR.below h) hn)
  have HR := Lib.hid (fun (W : World) (h : Below w0.heap.size w0 W) => hR.below h)
  have HX := Lib.hid hexit
  have HL := Lib.hid hR.1
  have HRG := Lib.hid hrg
  have HB0 := Lib.hid hb0
  clear hexit hR hrg hb0
  go_loopw [3] (fun v wr => ∃ left cnt, v = .int .i64 (((liveL L).length + got L left : Nat) : Int) ∧ RangeV wr 3 B r 2 szF left cnt ∧ Below w0.heap.size w0 wr) (fun _ wr => wr.rangeLeft B r)
  case atStart => exact ⟨_, _, by unfold got; simp [szF3, szF4], HRG.out, HB0.out⟩
  case round =>
    obtain ⟨left, cnt, rfl, hrg, hbr⟩ := hrel
    have hgl := got_le L left
    have hll := live_len L
    rw [HL.out] at hgl hll
    have HR1 := Lib.hid hrg
    have HB1 := Lib.hid hbr
    have HLE := Lib.hid hrg.left_eq
    obtain ⟨s, hs⟩ : ∃ s, s = (liveL L).length + got L left := ⟨_, rfl⟩
    have hsb : s ≤ 3000000000 := by omega
    have HS := Lib.hid hs
    rw [← hs]
    clear hrg hbr hgl hll hs
    go_wp2_with (refine wpl_next rfl _ rfl 3 keyed_int B r 2 szF left cnt (by rfl) HR1.out ?_ ?_)
    · intro hc0 hl0
      have hh : s = sizeL L := by
        rw [HS.out]
        unfold sizeL got
        rw [hl0, hl0]
        simp
        omega
      subst hh
      go_wp2_with fail
      exact HX.out _ _ _ _ _ _ _ _ _ _ _ _ _ _ _ _ _ _ _ _ _ _ _ _ _ _ _ _ _ HB1.out
    · intro key v kl w1 cnt1 hkey hleft hf hrg1 hcnt hg1 hs1 hen
      have hb1 : Below w0.heap.size w0 w1 := Kept.toBelow (S := fun i => i = r) HB1.out (Kept.of_grown hg1 (fun i _ e => by injection e with e; exact e.symm)) HB1.out.size (fun i e => by omega)
      have HBW := Lib.hid hb1
      have HRW := Lib.hid hrg1
      have HCN := Lib.hid hcnt
      have hsz : w0.heap.size ≤ w1.heap.size := hb1.size
      have hcl3 := count_len 3 L
      have hcl4 := count_len 4 L
      rw [HL.out] at hcl3 hcl4
      have HLF := Lib.hid hleft
      rcases szF_cases hf with ⟨rfl, rfl⟩ | ⟨rfl, rfl⟩
      · have hkv : key = .int .i64 3 := keyed_int.inj hkey (key_int (i := 3) (by decide))
        subst hkv
        unfold fLabel at *
        clear hb1 hrg1 hcnt hkey hleft hf hg1 hs1
        have HBX := Lib.hid (fun (W : World) (h : W = w1.alloc (.cells #[.int .i64 3, .func (.func 36) #[] #[]] 88)) => (⟨by rw [h]; exact HBW.out.alloc hsz _, by rw [h]; exact At.new w1 _ _, by rw [h]; exact (Below.refl _ _).alloc (Nat.le_refl _) _⟩ : Below w0.heap.size w0 W ∧ At W w1.heap.size [.int .i64 3, .func (.func 36) #[] #[]] ∧ Below w1.heap.size w1 W))
        have hst := fun (W : World) (a : Addr) => run_store Try.prog W a (.func (.func 36) #[] #[]) .plain rfl
        go_wp2_with fail
        clear hst
        obtain ⟨b1, b2, b3⟩ := HBX.out _ rfl
        have HCC := Lib.hid (HC.out 3 _ b1)
        have HBB := Lib.hid (And.intro b1 (And.intro b2 b3))
        clear b1 b2 b3
        refine HCC.out.mono ?_
        rintro e w3 ⟨v3, rfl, hO3, hb3⟩
        obtain ⟨A3, c3, rfl, hc3, hRd3⟩ := Rd.own hO3
        have hb03 : Below w0.heap.size w0 w3 := HBB.out.1.trans (hb3.mono (by simp; omega))
        have HR3 := Lib.hid (And.intro (HR.out w3 hb03) (And.intro (show RdEv w3 A3 (countL 3 L).length (countL 3 L) from ⟨rfl, hRd3⟩) (And.intro (HBB.out.2.1.next hb3) (And.intro hb03 ((HRW.out.next HBB.out.2.2).next hb3)))))
        clear hO3 hb3 hRd3 hb03
        go_wp2_with fail
        refine size_loop2 _ 3 _ _ so_label A A3 n c (countL 3 L).length c3 w1.heap.size s L (countL 3 L) w3 _ _ _ _ _ _ _ _ _ _ _ _ _ _ _ _ _ _ _ _ _ _ _ _ _ _ _ _ _ _ _ _ _ _ HR3.out.1 HR3.out.2.1 HR3.out.2.2.1 (by omega) hsb ?_
        intro x8 x27 x28 x29 x30 x31 x32 x33 x34 x35 x36 x37 x38 w4 hb4
        have HB4 := Lib.hid hb4
        clear hb4
        go_wp2_with fail
        go_roundw
        case measure =>
          rw [(HR3.out.2.2.2.2.next HB4.out).left_eq, HLE.out]
          exact HCN.out
        case rel =>
          refine ⟨_, cnt1, ?_, HR3.out.2.2.2.2.next HB4.out, HR3.out.2.2.2.1.trans (HB4.out.mono HR3.out.2.2.2.1.size)⟩
          rw [got3 L HLF.out, HS.out]
          simp
          omega
      · have hkv : key = .int .i64 4 := keyed_int.inj hkey (key_int (i := 4) (by decide))
        subst hkv
        unfold fValue at *
        clear hb1 hrg1 hcnt hkey hleft hf hg1 hs1
        have HBX := Lib.hid (fun (W : World) (h : W = w1.alloc (.cells #[.int .i64 4, .func (.func 37) #[] #[]] 88)) => (⟨by rw [h]; exact HBW.out.alloc hsz _, by rw [h]; exact At.new w1 _ _, by rw [h]; exact (Below.refl _ _).alloc (Nat.le_refl _) _⟩ : Below w0.heap.size w0 W ∧ At W w1.heap.size [.int .i64 4, .func (.func 37) #[] #[]] ∧ Below w1.heap.size w1 W))
        have hst := fun (W : World) (a : Addr) => run_store Try.prog W a (.func (.func 37) #[] #[]) .plain rfl
        go_wp2_with fail
        clear hst
        obtain ⟨b1, b2, b3⟩ := HBX.out _ rfl
        have HCC := Lib.hid (HC.out 4 _ b1)
        have HBB := Lib.hid (And.intro b1 (And.intro b2 b3))
        clear b1 b2 b3
        refine HCC.out.mono ?_
        rintro e w3 ⟨v3, rfl, hO3, hb3⟩
        obtain ⟨A3, c3, rfl, hc3, hRd3⟩ := Rd.own hO3
        have hb03 : Below w0.heap.size w0 w3 := HBB.out.1.trans (hb3.mono (by simp; omega))
        have HR3 := Lib.hid (And.intro (HR.out w3 hb03) (And.intro (show RdEv w3 A3 (countL 4 L).length (countL 4 L) from ⟨rfl, hRd3⟩) (And.intro (HBB.out.2.1.next hb3) (And.intro hb03 ((HRW.out.next HBB.out.2.2).next hb3)))))
        clear hO3 hb3 hRd3 hb03
        go_wp2_with fail
        refine size_loop2 _ 4 _ _ so_value A A3 n c (countL 4 L).length c3 w1.heap.size s L (countL 4 L) w3 _ _ _ _ _ _ _ _ _ _ _ _ _ _ _ _ _ _ _ _ _ _ _ _ _ _ _ _ _ _ _ _ _ _ HR3.out.1 HR3.out.2.1 HR3.out.2.2.1 (by omega) hsb ?_
        intro x8 x27 x28 x29 x30 x31 x32 x33 x34 x35 x36 x37 x38 w4 hb4
        have HB4 := Lib.hid hb4
        clear hb4
        go_wp2_with fail
        go_roundw
        case measure =>
          rw [(HR3.out.2.2.2.2.next HB4.out).left_eq, HLE.out]
          exact HCN.out
        case rel =>
          refine ⟨_, cnt1, ?_, HR3.out.2.2.2.2.next HB4.out, HR3.out.2.2.2.1.trans (HB4.out.mono HR3.out.2.2.2.1.size)⟩
          rw [got4 L HLF.out, HS.out]
          simp
          omega
theorem below_grown {w w1 w2 : World} {b B : Nat} (h : Below B w w1) (hg : w1.grownBy w2 (some b)) (hB : B ≤ b) (hs : B ≤ w1.heap.size) : Below B w w2 :=
  Kept.toBelow (S := fun i => i = b) h (Kept.of_grown hg (fun i _ e => by injection e with e; exact e.symm)) hs (fun i e => by omega)
set_option maxRecDepth 100000 in
set_option maxHeartbeats 2000000 in
theorem size_any (A : Option Addr) (n c : Nat) (L : List Ev) (w : World) (hR : RdEv w A n L) (hn : n ≤ 1000000000) :
    Calls Try.prog 19 #[.slice A n c] w fun e w' => e = .returned (.int .i64 (sizeL L : Nat)) ∧ Below w.heap.size w w' := by
  have HL := Lib.hid (live_any A n c L w hR hn)
  have HR := Lib.hid hR
  have hll := live_len L
  rw [hR.1] at hll
  clear hR
  go_enter Try.func19, Try.ntmps19
  go_wp2_with fail
  refine HL.out.mono ?_
  rintro e w3 ⟨v, rfl, hO, hb3⟩
  obtain ⟨A', c', rfl, hc', hRd⟩ := Rd.own hO
  have HB3 := Lib.hid hb3
  have hsz : w.heap.size ≤ w3.heap.size := hb3.size
  clear hO hb3 hRd hc'
  have hmm := @run_makeMap Try.prog
  have HM := Lib.hid (MapV.made w3 3)
  have HBM := Lib.hid (HB3.out.alloc hsz (.map #[] 0))
  go_wp2_with (refine wpl_insert rfl _ _ _ 86 rfl 3 _ keyed_int Try.underlying86 w3.heap.size 0 (fun _ => none) (by rfl) HM.out (by unfold maxLen; omega) _ _ k3 rfl rfl (key_int (i := 3) (by decide)) ?_)
  intro w4 hM4 hg4
  have HM4 := Lib.hid hM4
  have HB4 := Lib.hid (below_grown HBM.out hg4 hsz (by simp; omega))
  clear hM4 hg4 hmm
  go_wp2_with (refine wpl_insert rfl _ _ _ 86 rfl 3 _ keyed_int Try.underlying86 w3.heap.size 1 _ (by rfl) HM4.out (by unfold maxLen; omega) _ _ k4 rfl rfl (key_int (i := 4) (by decide)) ?_)
  intro w5 hM5 hg5
  have HM5 := Lib.hid (show MapV w5 3 w3.heap.size 2 szF from hM5)
  have HB5 := Lib.hid (below_grown HB4.out hg5 hsz HB4.out.size)
  clear hM5 hg5
  go_wp2_with (refine wpl_range rfl _ 86 rfl 3 _ keyed_int Try.underlying86 w3.heap.size 2 szF (by rfl) HM5.out ?_)
  intro w6 cnt hr6 hg6 hs6
  have hb6 : Below w.heap.size w w6 := HB5.out.trans (⟨hg6.os, hg6.tape, hg6.output, hg6.size, fun i hi => hg6.block i (by have := HB5.out.size; omega) (by simp)⟩)
  have HB6 := Lib.hid hb6
  have HR6 := Lib.hid hr6
  clear hb6 hr6 hg6 hs6
  go_wp2_with fail
  refine size_loop1 _ A n c w3.heap.size w5.heap.size cnt L w w6 _ _ _ _ _ _ _ _ _ _ _ _ _ _ _ _ _ _ _ _ _ _ _ _ _ _ _ _ _ _ _ _ _ _ _ _ _ HR.out hn HB6.out HB5.out.size HR6.out ?_
  intro x4 x5 x6 x8 x15 x16 x17 x18 x19 x20 x21 x22 x23 x24 x25 x26 x27 x28 x29 x30 x31 x32 x33 x34 x35 x36 x37 x38 w7 hb7
  have HB7 := Lib.hid hb7
  clear hb7
  go_wp2_with fail
  go_ret
  exact ⟨rfl, HB7.out⟩
end Go.Proofs.Ytfbpjhhcpockfaa
