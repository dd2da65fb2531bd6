/- The reference's Make: the past that choices make. Condition: texts of at most 2^47 bytes (the reach of a row). -/
import Derived.Test.YtfbpjhhcpockfaaMakeR
import Derived.Deep.WholeRow
set_option linter.unusedVariables false
set_option linter.unusedSimpArgs false
namespace Go.Proofs.Ytfbpjhhcpockfaa
open Go.RowKit Go.Shelf Go.Maps
/-- What stands at the head of each round. -/
structure MkAt (w wr : World) (HB : Nat) (v : Value) (s : List Ev × (Nat → Nat → Int)) : Prop where
  own : wr.ownsRow w.heap.size 35 12 v s.1.length (evCells s.1)
  clocks : At wr HB (hCells s.2)
  apart : v.ownBlock ≠ some HB
  below : Below w.heap.size w wr
theorem MkAt.next {w wr w1 : World} {HB : Nat} {v : Value} {s : List Ev × (Nat → Nat → Int)} (h : MkAt w wr HB v s) (hb : Below wr.heap.size wr w1) : MkAt w w1 HB v s := ⟨own_next h.own hb, h.clocks.next hb, h.apart, below_next h.below hb⟩
def zeros25 : Array Value := #[.int .i64 0, .int .i64 0, .int .i64 0, .int .i64 0, .int .i64 0, .int .i64 0, .int .i64 0, .int .i64 0, .int .i64 0, .int .i64 0, .int .i64 0, .int .i64 0, .int .i64 0, .int .i64 0, .int .i64 0, .int .i64 0, .int .i64 0, .int .i64 0, .int .i64 0, .int .i64 0, .int .i64 0, .int .i64 0, .int .i64 0, .int .i64 0, .int .i64 0]
theorem zeros_eq : zeros25.toList = hCells fun _ _ => 0 := by kernel_rfl
theorem wpl_storeRow {P : Program} {ops : Array Oper} {rest : List Oper} {o : Oper} {a : Act} {Q : Exit → Act → World → Prop} {w : World} (hgd : o.guard = none) (ty : TypeId) (x y : Operand) (ho : o.op = .store ty x y) (g : Nat) (cells : Array Value)
    (hx : a.eval x = .pointer (some ⟨g, 0, none⟩)) (hy : a.eval y = .agg cells) (t : TypeId) (old : Array Value) (hg : w.heap[g]? = some (.cells old t (0, 0))) (hi : (P.info? ty).map (·.size) = some cells.size)
    (hold : old.size = cells.size) (h1 : cells.all (·.oneCell') = true) (h : wpList P ops Q rest (a.put o.dst undef) (w.setRow g cells)) : wpList P ops Q (o :: rest) a w :=
  wpList_plain hgd fun _ hK => wp_store_row ty x y ho g cells hx hy t old hg hi hold h1 (hK _ _ h)
set_option maxRecDepth 100000 in
set_option maxHeartbeats 4000000 in
theorem make_any (A : Option Addr) (n c : Nat) (L : List Cho) (w : World) (hR : RdCh w A n L) (hn : n ≤ 1000000000) (hF : ∀ x ∈ L, x.fits) :
    Calls Try.prog 10 #[.slice A n c] w fun e w' => ∃ v, e = .returned v ∧ w'.ownsRow w.heap.size 35 12 v (mkL L).length (evCells (mkL L)) ∧ Below w.heap.size w w' := by
  have HR := Lib.hid (fun (W : World) (h : Below w.heap.size w W) => hR.below h)
  have HL := Lib.hid hR.1
  have HF := Lib.hid hF
  have H0 : ∀ W, W = (w.alloc (.cells #[] 35)).alloc (.cells zeros25 62) → MkAt w W (w.heap.size + 1) (.slice (some ⟨w.heap.size, 0, none⟩) 0 0) (mkS (L.take 0)) := by
    rintro W rfl
    have e0 : mkS (L.take 0) = ([], fun _ _ => 0) := by simp [mkS]
    have h1 : Below w.heap.size w (w.alloc (.cells #[] 35)) := (Below.refl _ _).alloc (Nat.le_refl _) _
    have h2 : Below (w.alloc (.cells #[] 35)).heap.size (w.alloc (.cells #[] 35)) ((w.alloc (.cells #[] 35)).alloc (.cells zeros25 62)) := (Below.refl _ _).alloc (Nat.le_refl _) _
    rw [e0]
    refine ⟨own_next (own_empty w _ _ (Nat.le_refl _)) h2, ?_, by simp [Value.ownBlock], below_next h1 h2⟩
    have := At.new (w.alloc (.cells #[] 35)) zeros25 62
    rw [zeros_eq] at this
    simpa using this
  have H0 := Lib.hid H0
  clear hR hF
  go_enter Try.func10, Try.ntmps10
  have hlast : ((w.alloc (.cells #[] 35)).alloc (.cells zeros25 62)).heap[w.heap.size + 1]? = some (.cells zeros25 62 (0, 0)) := by
    have := heap_alloc_new (w.alloc (.cells #[] 35)) (.cells zeros25 62)
    simpa using this
  have HLA := Lib.hid hlast
  have HSR : ((w.alloc (.cells #[] 35)).alloc (.cells zeros25 62)).setRow (w.heap.size + 1) zeros25 = (w.alloc (.cells #[] 35)).alloc (.cells zeros25 62) := by
    have := World.setRow_alloc_new (w.alloc (.cells #[] 35)) zeros25 zeros25 62
    simpa using this
  have HSR := Lib.hid HSR
  clear hlast
  go_wp2_with (refine wpl_storeRow rfl 62 _ _ rfl (w.heap.size + 1) zeros25 rfl rfl 62 zeros25 HLA.out (by kernel_rfl) rfl (by kernel_rfl) ?_)
  refine wp_world (fun W => MkAt w W (w.heap.size + 1) (.slice (some ⟨w.heap.size, 0, none⟩) 0 0) (mkS (L.take 0))) (show MkAt w (((w.alloc (.cells #[] 35)).alloc (.cells zeros25 62)).setRow (w.heap.size + 1) zeros25) _ _ _ from by rw [HSR.out]; exact H0.out _ rfl) ?_
  rintro W1 h1
  have H1 := Lib.hid h1
  clear h1 H0 HLA HSR
  go_loopw [3, 5] (fun v i wr => ∃ j : Nat, j ≤ n ∧ i = .int .i64 j ∧ MkAt w wr (w.heap.size + 1) v (mkS (L.take j))) (fun _ i _ => n - (intOf i).toNat)
  case atStart => exact ⟨0, by omega, rfl, H1.out⟩
  case round =>
    obtain ⟨j, hj, rfl, hM⟩ := hrel
    by_cases hjn : j < n
    · obtain ⟨x, hx⟩ : ∃ x, L[j]? = some x := ⟨L[j]'(by rw [HL.out]; exact hjn), List.getElem?_eq_getElem _⟩
      have HSN := Lib.hid (show mkS (L.take (j + 1)) = mkStep (mkS (L.take j)) x from mkS_snoc hx)
      have hok := mk_ok (L.take j)
      have hlj : (L.take j).length ≤ j := List.length_take_le _ _
      obtain ⟨s, hs⟩ : ∃ s, s = mkS (L.take j) := ⟨_, rfl⟩
      rw [← hs] at hM HSN hok
      obtain ⟨out, H⟩ := s
      have hRr := HR.out wr hM.below
      obtain ⟨b, o, hA, hlt, hcc⟩ := hRr.at_ j x hx
      subst hA
      have v0 : wr.cell? ⟨b, o + j * 7, none⟩ = some (.int .u8 x.r) := hcc 0 _ rfl
      have v2 : wr.cell? ⟨b, o + j * 7 + 2, none⟩ = some (.bool x.sync) := hcc 2 _ rfl
      have v3 : wr.cell? ⟨b, o + j * 7 + 3, none⟩ = some (.int .i64 x.kind) := hcc 3 _ rfl
      have v4 : wr.cell? ⟨b, o + j * 7 + 4, none⟩ = some (.string x.key) := hcc 4 _ rfl
      have v5 : wr.cell? ⟨b, o + j * 7 + 5, none⟩ = some (.int .i64 x.label) := hcc 5 _ rfl
      have v6 : wr.cell? ⟨b, o + j * 7 + 6, none⟩ = some (.string x.value) := hcc 6 _ rfl
      obtain ⟨f1, f2, f3, f4, f5, f6, f7, f8⟩ := HF.out x (List.mem_of_getElem? hx)
      obtain ⟨q, hq⟩ : ∃ q, q = x.r % 5 := ⟨_, rfl⟩
      have hq5 : q < 5 := by omega
      have hwf : IntKind.i64.wrap (x.r : Int) = (x.r : Int) := IntWalk.i64_in _ (by omega)
      have hpf : (x.r : Int).tmod 5 = (q : Int) := by rw [Int.tmod_eq_emod_of_nonneg (by omega)]; omega
      have hlH := hM.clocks.lt
      have hHb : 0 ≤ H q q ∧ H q q ≤ 1000000000 := by
        have := hok.clock q q
        dsimp only at this
        omega
      have hht : ∀ x ∈ out, 0 ≤ x.height ∧ x.height ≤ 1000000000 := fun y hy => by
        have := hok.height y hy
        omega
      have hol : out.length ≤ 1000000000 := by
        have := hok.len
        dsimp only at this
        omega
      have HM := Lib.hid hM
      have HX2 := Lib.hid (And.intro hx (And.intro hht hRr))
      have HQ := Lib.hid hq
      cases hsync : x.sync
      · have HST := Lib.hid (show mkStep (out, H) x = (out ++ [evOf out H q x], setOne H q q (H q q + 1)) by unfold mkStep; rw [hsync]; simp [hq])
        rw [hsync] at v2
        clear hok hs hM hRr hcc hx hq hht hsync
        go_wp2_with fail
        refine (fit_any x.kind x.key x.label x.value _ f3 f4 f5 f8).mono ?_
        rintro e w2 ⟨rfl, hb2⟩
        have HM2 := Lib.hid (HM.out.next hb2)
        have hz2 := hb2.size
        have HE2 := Lib.hid (fun (W : World) (h : W = w2.alloc (.cells #[.int .i64 (fitKind x.kind), .string (fitKey x.key), .int .i64 (fitLabel x.kind x.label), .string (fitValue x.kind x.value)] 24)) => (by
          rw [h]
          exact ⟨HM2.out.next ((Below.refl _ _).alloc (Nat.le_refl _) _), At.new w2 _ _, by simp⟩ : MkAt w W (w.heap.size + 1) u3 (out, H) ∧ At W w2.heap.size [.int .i64 (fitKind x.kind), .string (fitKey x.key), .int .i64 (fitLabel x.kind x.label), .string (fitValue x.kind x.value)] ∧ w2.heap.size < W.heap.size))
        clear hb2 v0 v2 v3 v4 v5 v6
        go_upto_region 10 with (fail)
        refine wp_world (fun W => MkAt w W (w.heap.size + 1) u3 (out, H) ∧ At W w2.heap.size [.int .i64 (fitKind x.kind), .string (fitKey x.key), .int .i64 (fitLabel x.kind x.label), .string (fitValue x.kind x.value)] ∧ w2.heap.size < W.heap.size) (HE2.out _ rfl) ?_
        rintro W3 ⟨hM3, hE3, hz3⟩
        have HM3 := Lib.hid (And.intro hM3 hE3)
        clear hM3 hE3 HE2
        obtain ⟨A3, c3, e3, _, _⟩ := Rd.own HM3.out.1.own
        dsimp only at e3
        subst e3
        refine mk_r10 _ A3 out.length c3 w.heap.size (w.heap.size + 1) w2.heap.size q out H x W3 _ _ _ _ _ _ _ _ _ _ _ _ _ _ _ _ _ _ _ _ _ _ _ _ _ _ _ _ _ _ _ _ _ _ _ _ _ _ _ _ _ _ _ _ _ _ _ _ _ _ _ _ _ _ _ _ _ _ _ _ _ _ _ _ _ _ _ _ _ _ _ _ _ _ _ _ _ _ _ _ _ _ _ HM3.out.1.own rfl hol HM3.out.1.below.size HX2.out.2.1 HM3.out.1.clocks HM3.out.2 hq5 hHb ?_
        intro x49 x50 x51 x52 x53 x54 x55 x56 x57 x58 x59 x60 x61 x62 x63 x64 x65 x66 x67 x68 x69 x70 x71 x72 x73 x74 x75 v4 w4 hO4 hk4 ha4
        have h4 : MkAt w w4 (w.heap.size + 1) v4 (out ++ [evOf out H q x], H) := by
          refine ⟨by simpa using hO4, HM3.out.1.clocks.keep hk4 HM3.out.1.apart, fun e => ?_, Kept.toBelow HM3.out.1.below hk4 HM3.out.1.below.size (fun i hi => (HM3.out.1.own.lt i hi).1)⟩
          rcases ha4 _ e with e2 | e2
          · exact HM3.out.1.apart e2
          · omega
        have HM4 := Lib.hid h4
        clear hO4 hk4 ha4 h4
        go_upto_region 11 with (fail)
        refine mk_r11 _ (w.heap.size + 1) q H w4 _ _ _ _ _ _ _ _ _ _ _ _ _ _ _ _ _ _ _ _ _ _ _ _ _ _ _ _ _ _ _ _ _ _ _ _ _ _ _ _ _ _ _ _ _ _ _ _ _ _ _ _ _ _ _ _ _ _ _ _ _ _ _ _ _ _ _ _ _ _ _ _ _ _ _ _ _ _ _ _ _ _ _ _ _ HM4.out.clocks hq5 hHb ?_
        intro x76 x77 x78 x79 x80 x81 x82 x83 x84 x85 w5 hA5 hk5
        have h5 : MkAt w w5 (w.heap.size + 1) v4 (out ++ [evOf out H q x], setOne H q q (H q q + 1)) :=
          ⟨own_keep HM4.out.own hk5 (fun g hg e => HM4.out.apart (by rw [hg, e])), hA5, HM4.out.apart, Kept.toBelow HM4.out.below hk5 HM4.out.below.size (fun i hi => by omega)⟩
        have HM5 := Lib.hid h5
        clear hA5 hk5 h5
        go_wp2_with fail
        go_roundw
        case measure => simp [intOf]; omega
        case rel => exact ⟨j + 1, by omega, by go_num, by rw [HSN.out, HST.out]; exact HM5.out⟩
      · have HST := Lib.hid (show mkStep (out, H) x = (out, setRow H q (joinF (H q) (H (x.f % 5)))) by unfold mkStep; rw [hsync]; simp [hq])
        rw [hsync] at v2
        clear hok hs hM hRr hcc hx hq hht hsync
        go_upto_region 8 with (fail)
        refine mk_r8 _ (some ⟨b, o, none⟩) n c (w.heap.size + 1) j q L x H wr _ _ _ _ _ _ _ _ _ _ _ _ _ _ _ _ _ _ _ _ _ _ _ _ _ _ _ _ _ _ _ _ _ _ _ _ _ _ _ _ _ _ _ _ _ _ _ _ _ _ _ _ _ _ _ _ _ _ _ _ _ _ _ _ _ _ _ _ _ _ _ _ _ _ _ _ _ _ _ _ _ _ _ HX2.out.2.2 HX2.out.1 f2 hjn hn HM.out.clocks hq5 ?_
        intro x28 x29 x30 x31 x32 x33 x34 x35 x36 x37 x38 x39 x40 x41 x42 w4 hA4 hk4
        have h4 : MkAt w w4 (w.heap.size + 1) u3 (out, setRow H q (joinF (H q) (H (x.f % 5)))) :=
          ⟨own_keep HM.out.own hk4 (fun g hg e => HM.out.apart (by rw [hg, e])), hA4, HM.out.apart, Kept.toBelow HM.out.below hk4 HM.out.below.size (fun i hi => by omega)⟩
        have HM4 := Lib.hid h4
        clear hA4 hk4 h4
        go_wp2_with fail
        go_roundw
        case measure => simp [intOf]; omega
        case rel => exact ⟨j + 1, by omega, by go_num, by rw [HSN.out, HST.out]; exact HM4.out⟩
    · have hjn' : j = n := by omega
      subst hjn'
      have hne : ¬ (j : Int) < (j : Int) := by omega
      have e : L.take j = L := List.take_of_length_le (by rw [HL.out]; omega)
      rw [e] at hM
      have HM := Lib.hid hM
      clear hM
      go_wp2_with fail
      go_ret
      exact ⟨_, rfl, HM.out.own, HM.out.below⟩
end Go.Proofs.Ytfbpjhhcpockfaa
