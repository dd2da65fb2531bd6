/- book.Of's last loop: the contacts by key, each with its sets in order. No condition. -/
import Derived.Test.YtfbpjhhcpockfaaOf7
set_option linter.unusedVariables false
set_option linter.unusedSimpArgs false
namespace Go.Proofs.Ytfbpjhhcpockfaa
open Go.RowKit Go.Shelf Go.Maps
noncomputable def ofB6 : Code := loopOf Try.f13.body 5
theorem info_con : (Try.prog.info? 46).map (fun i => (i.zero, i.size, i.bytes)) = some (some (.agg #[.string ⟨#[]⟩, .bool false, .bool false, .string ⟨#[]⟩, .string ⟨#[]⟩, .slice none 0 0, .slice none 0 0]), 7, 104) := by kernel_rfl
theorem take_snocG {α : Type} {L : List α} {j : Nat} {x : α} (h : L[j]? = some x) : L.take (j + 1) = L.take j ++ [x] := by
  rw [List.take_add_one, h]
  rfl
def outCells (ks : List Str) (st : Str → CtS) : List Value := (ks.map fun s => ctCells (ba s) (st s)).flatten
theorem outCells_snoc {ks : List Str} {j : Nat} {s : Str} {st st' : Str → CtS} (hs : ks[j]? = some s) (hoth : ∀ x ∈ ks.take j, st' x = st x) : outCells (ks.take (j + 1)) st' = outCells (ks.take j) st ++ ctCells (ba s) (st' s) := by
  rw [take_snocG hs]
  unfold outCells
  have e : (ks.take j).map (fun s => ctCells (ba s) (st' s)) = (ks.take j).map (fun s => ctCells (ba s) (st s)) := List.map_congr_left fun x hx => by rw [hoth x hx]
  rw [List.map_append, List.flatten_append, e]
  simp
theorem slot_form {w : World} {base n : Nat} {v : Value} {xs : List Value} (h : w.ownsRow base 9 1 v n xs) : v.oneCell' = true := by
  obtain ⟨A, c, rfl, _⟩ := Rd.own h
  rfl
theorem At6.grow {w wr w1 : World} {B1 n1 base b3 : Nat} {pt : Str → Option Nat} {st0 st : Str → CtS} {vals : Str → Int → List Str} {d : Str → Int → Bool} {S : Nat → Prop} (h : At6 w wr B1 n1 base b3 pt st0 st vals d) (hT : ∀ i, turn6 pt st0 i → i < w.heap.size) (hB : B1 < w.heap.size) (k : Kept S wr w1) (hS : ∀ i, S i → w.heap.size ≤ i) : At6 w w1 B1 n1 base b3 pt st0 st vals d := by
  have hno : ∀ i, turn6 pt st0 i → ¬ S i := fun i hi hs => by
    have h1 := hT i hi
    have h2 := hS i hs
    omega
  refine ⟨h.book.keep k (fun hs => by have := hS _ hs; omega) (fun s c hc => hno c (.inl ⟨s, hc⟩)), h.same, h.blk, fun s c hc l hl => ?_, ?_⟩
  · refine own_keep (h.rows s c hc l hl) k (fun g hg => hno g ?_)
    rw [h.blk s l hl] at hg
    exact .inr ⟨s, l, by rw [hc]; rfl, hl, hg⟩
  · exact h.kept.then k (fun i hi hs => by have := hS i hs; omega)
theorem At6.congr {w wr : World} {B1 n1 base b3 : Nat} {pt : Str → Option Nat} {st0 st : Str → CtS} {vals : Str → Int → List Str} {d d' : Str → Int → Bool} (h : At6 w wr B1 n1 base b3 pt st0 st vals d) (e : ∀ s l, is01 l → d' s l = d s l) : At6 w wr B1 n1 base b3 pt st0 st vals d' :=
  ⟨h.book, h.same, h.blk, fun s c hc l hl => by
    have : curV vals d' s l = curV vals d s l := by unfold curV; rw [e s l hl]
    rw [this]
    exact h.rows s c hc l hl, h.kept⟩
theorem At6.after {w w0 wr : World} {B1 n1 base b3 : Nat} {pt : Str → Option Nat} {st0 st : Str → CtS} {vals : Str → Int → List Str} {d : Str → Int → Bool} (h : At6 w0 wr B1 n1 base b3 pt st0 st vals d) (k : Kept (turn6 pt st0) w w0) : At6 w wr B1 n1 base b3 pt st0 st vals d := ⟨h.book, h.same, h.blk, h.rows, k.trans h.kept⟩
set_option maxRecDepth 100000 in
set_option maxHeartbeats 4000000 in
theorem of_loop6 (Q : Exit → Act → World → Prop) (A : Option Addr) (n c B1 n1 base b3 : Nat) (pt : Str → Option Nat) (st0 : Str → CtS) (vals : Str → Int → List Str) (ks : List Str) (w : World) (u0 u1 u2 u3 u4 u5 u6 u7 u8 u9 u10 u11 u12 u13 u14 u15 u16 u17 u18 u20 u21 u22 u23 u24 u25 u26 u27 u28 u29 u30 u31 u32 u33 u34 u35 u36 u37 u38 u39 u40 u41 u42 u43 u44 u45 u46 u47 u48 u49 u50 u51 u52 u53 u54 u55 u56 u57 u58 u59 u60 u61 u62 u63 u64 u65 u66 u67 u68 u69 u70 u71 u72 u73 u74 u75 u76 u77 u78 u79 u80 u81 u82 u83 u84 u85 u86 u87 u88 u89 u90 u91 u92 u93 u94 u95 u96 u97 u98 u99 u100 u101 u102 u103 u104 u105 u106 u107 u108 u109 u110 u111 u112 u113 u114 u115 u116 u117 u118 u119 u120 u121 u122 u123 u124 u125 u126 u127 u128 u129 u130 u131 u132 u133 u134 u135 u136 u137 u138 u139 u140 u141 u142 u143 u144 u145 u146 u147 u148 u149 u150 u151 u155 u156 u157 u158 u159 u160 u161 u162 u163 u164 u165 u166 u167 u168 u169 u170 u171 u172 u173 u174 u175 u176 u177 u178 u179 u180 u181 u182 u183 u184 u185 u186 u187 u188 : Value)
    (h0 : At6 w w B1 n1 base b3 pt st0 st0 vals (fun _ _ => false)) (hap : Apart6 pt st0) (hlow : ∀ s c, pt s = some c → c < b3) (hb3 : b3 ≤ w.heap.size) (hbig : ∀ s l, (vals s l).length ≤ 1000000000) (hall : All pt ks) (hn : ks.length = n) (hbign : n ≤ 1000000000)
    (hR : Rd w A n 1 (ks.map (encP pt))) (hA : ∀ b o, A = some ⟨b, o, none⟩ → ¬ turn6 pt st0 b)
    (hexit : ∀ (x21 x22 x154 x155 x156 x157 x158 x159 x160 x161 x162 x163 x164 x165 x166 x167 x168 x169 x170 x171 x172 x173 x174 x175 x176 x177 x178 x179 x180 x181 x182 x183 x184 x185 x186 x187 v : Value) (w' : World) (st' : Str → CtS), At6 w w' B1 n1 base b3 pt st0 st' vals (fun s _ => decide (s ∈ ks)) →
      w'.ownsRow w.heap.size 46 7 v n (outCells ks st') → Q (.exit 10) ⟨(List.toArray (u0 :: u1 :: u2 :: u3 :: u4 :: u5 :: u6 :: u7 :: u8 :: u9 :: u10 :: u11 :: u12 :: u13 :: u14 :: u15 :: u16 :: u17 :: u18 :: v :: u20 :: x21 :: x22 :: u23 :: u24 :: u25 :: u26 :: u27 :: u28 :: u29 :: u30 :: u31 :: u32 :: u33 :: u34 :: u35 :: u36 :: u37 :: u38 :: u39 :: u40 :: u41 :: u42 :: u43 :: u44 :: u45 :: u46 :: u47 :: u48 :: u49 :: u50 :: u51 :: u52 :: u53 :: u54 :: u55 :: u56 :: u57 :: u58 :: u59 :: u60 :: u61 :: u62 :: u63 :: u64 :: u65 :: u66 :: u67 :: u68 :: u69 :: u70 :: u71 :: u72 :: u73 :: u74 :: u75 :: u76 :: u77 :: u78 :: u79 :: u80 :: u81 :: u82 :: u83 :: u84 :: u85 :: u86 :: u87 :: u88 :: u89 :: u90 :: u91 :: u92 :: u93 :: u94 :: u95 :: u96 :: u97 :: u98 :: u99 :: u100 :: u101 :: u102 :: u103 :: u104 :: u105 :: u106 :: u107 :: u108 :: u109 :: u110 :: u111 :: u112 :: u113 :: u114 :: u115 :: u116 :: u117 :: u118 :: u119 :: u120 :: u121 :: u122 :: u123 :: u124 :: u125 :: u126 :: u127 :: u128 :: u129 :: u130 :: u131 :: u132 :: u133 :: u134 :: u135 :: u136 :: u137 :: u138 :: u139 :: u140 :: u141 :: u142 :: u143 :: u144 :: u145 :: u146 :: u147 :: u148 :: u149 :: u150 :: u151 :: .slice A n c :: .int .i64 n :: x154 :: x155 :: x156 :: x157 :: x158 :: x159 :: x160 :: x161 :: x162 :: x163 :: x164 :: x165 :: x166 :: x167 :: x168 :: x169 :: x170 :: x171 :: x172 :: x173 :: x174 :: x175 :: x176 :: x177 :: x178 :: x179 :: x180 :: x181 :: x182 :: x183 :: x184 :: x185 :: x186 :: x187 :: u188 :: [])), []⟩ w') :
    Code.wp Try.prog (.loop ofB6) Q ⟨(List.toArray (u0 :: u1 :: u2 :: u3 :: u4 :: u5 :: u6 :: u7 :: u8 :: u9 :: u10 :: u11 :: u12 :: u13 :: u14 :: u15 :: u16 :: u17 :: u18 :: .slice none 0 0 :: u20 :: u21 :: u22 :: u23 :: u24 :: u25 :: u26 :: u27 :: u28 :: u29 :: u30 :: u31 :: u32 :: u33 :: u34 :: u35 :: u36 :: u37 :: u38 :: u39 :: u40 :: u41 :: u42 :: u43 :: u44 :: u45 :: u46 :: u47 :: u48 :: u49 :: u50 :: u51 :: u52 :: u53 :: u54 :: u55 :: u56 :: u57 :: u58 :: u59 :: u60 :: u61 :: u62 :: u63 :: u64 :: u65 :: u66 :: u67 :: u68 :: u69 :: u70 :: u71 :: u72 :: u73 :: u74 :: u75 :: u76 :: u77 :: u78 :: u79 :: u80 :: u81 :: u82 :: u83 :: u84 :: u85 :: u86 :: u87 :: u88 :: u89 :: u90 :: u91 :: u92 :: u93 :: u94 :: u95 :: u96 :: u97 :: u98 :: u99 :: u100 :: u101 :: u102 :: u103 :: u104 :: u105 :: u106 :: u107 :: u108 :: u109 :: u110 :: u111 :: u112 :: u113 :: u114 :: u115 :: u116 :: u117 :: u118 :: u119 :: u120 :: u121 :: u122 :: u123 :: u124 :: u125 :: u126 :: u127 :: u128 :: u129 :: u130 :: u131 :: u132 :: u133 :: u134 :: u135 :: u136 :: u137 :: u138 :: u139 :: u140 :: u141 :: u142 :: u143 :: u144 :: u145 :: u146 :: u147 :: u148 :: u149 :: u150 :: u151 :: .slice A n c :: .int .i64 n :: .int .i64 0 :: u155 :: u156 :: u157 :: u158 :: u159 :: u160 :: u161 :: u162 :: u163 :: u164 :: u165 :: u166 :: u167 :: u168 :: u169 :: u170 :: u171 :: u172 :: u173 :: u174 :: u175 :: u176 :: u177 :: u178 :: u179 :: u180 :: u181 :: u182 :: u183 :: u184 :: u185 :: u186 :: u187 :: u188 :: [])), []⟩ w := by
  conv => arg 2; arg 1; whnf
  have hturn : ∀ i, turn6 pt st0 i → i < w.heap.size := by
    rintro i (⟨s, hs⟩ | ⟨s, l, hs, hl, hi⟩)
    · exact h0.book.lt hs
    · obtain ⟨C, hC⟩ := Option.isSome_iff_exists.1 hs
      exact ((h0.rows s C hC l hl).lt i hi).2
  have HRr := Lib.hid (fun (W : World) (h : Kept (turn6 pt st0) w W) => hR.keep h (fun b o e _ => hA b o e))
  have HX := Lib.hid hexit
  have H0 := Lib.hid h0
  have HAP := Lib.hid hap
  have HLOW := Lib.hid hlow
  have HBIG := Lib.hid hbig
  have HALL := Lib.hid hall
  have HN := Lib.hid hn
  have HT := Lib.hid hturn
  clear hexit h0 hap hlow hbig hall hn hR hA hturn
  go_loopw [19, 154] (fun v i wr => ∃ j : Nat, j ≤ n ∧ i = .int .i64 j ∧ ∃ st', At6 w wr B1 n1 base b3 pt st0 st' vals (fun s _ => decide (s ∈ ks.take j)) ∧ wr.ownsRow w.heap.size 46 7 v j (outCells (ks.take j) st')) (fun _ i _ => n - (intOf i).toNat)
  case atStart =>
    refine ⟨0, by omega, rfl, st0, ?_, World.ownsRow_nil _ _ _ _⟩
    have := H0.out
    simpa using this
  case round =>
    obtain ⟨j, hj, rfl, st, hA, hO⟩ := hrel
    by_cases hjn : j < n
    · obtain ⟨s, hs⟩ : ∃ s, ks[j]? = some s := ⟨ks[j]'(by rw [HN.out]; exact hjn), List.getElem?_eq_getElem _⟩
      have hsmem : s ∈ ks := List.mem_of_getElem? hs
      obtain ⟨C, hC⟩ : ∃ C, pt s = some C := Option.isSome_iff_exists.1 ((HALL.out.2 s).1 hsmem)
      have hRd := HRr.out wr hA.kept
      have hne : ks.map (encP pt) ≠ [] := by
        intro e
        have : ks = [] := by simpa using e
        rw [this] at hsmem
        cases hsmem
      obtain ⟨b, o, hAe, hcc⟩ := hRd.at_ hne
      subst hAe
      have c0 : wr.cell? ⟨b, o + j, none⟩ = some (.pointer (some ⟨C, 0, none⟩)) := by
        refine hcc j _ ?_
        rw [List.getElem?_map, hs]
        simp [encP, pb, hC]
      have hnot : s ∉ ks.take j := fun hm => by
        obtain ⟨i, hi⟩ := List.getElem?_of_mem hm
        have hij : i < j := by
          have := (List.getElem?_eq_some_iff.1 hi).1
          simp at this; omega
        rw [List.getElem?_take_of_lt hij] at hi
        obtain ⟨h1, h1'⟩ := List.getElem?_eq_some_iff.1 hi
        obtain ⟨h2, h2'⟩ := List.getElem?_eq_some_iff.1 hs
        exact (List.pairwise_iff_getElem.1 HALL.out.1) i j h1 h2 hij (by rw [h1', h2'])
      have hd : ∀ l : Int, (fun (s : Str) (_ : Int) => decide (s ∈ ks.take j)) s l = false := fun l => by simpa using hnot
      have HA := Lib.hid hA
      have HO := Lib.hid hO
      have HS := Lib.hid hs
      have HC := Lib.hid hC
      have HD := Lib.hid hd
      have HNOT := Lib.hid hnot
      clear hA hO hs hC hRd hcc hd hnot hsmem hne
      go_wp2_with fail
      refine of_loop7 _ wr B1 n1 base b3 C pt st0 st vals (fun s _ => decide (s ∈ ks.take j)) s wr _ _ _ _ _ _ _ _ _ _ _ _ _ _ _ _ _ _ _ _ _ _ _ _ _ _ _ _ _ _ _ _ _ _ _ _ _ _ _ _ _ _ _ _ _ _ _ _ _ _ _ _ _ _ _ _ _ _ _ _ _ _ _ _ _ _ _ _ _ _ _ _ _ _ _ _ _ _ _ _ _ _ _ _ _ _ _ _ _ _ _ _ _ _ _ _ _ _ _ _ _ _ _ _ _ _ _ _ _ _ _ _ _ _ _ _ _ _ _ _ _ _ _ _ _ _ _ _ _ _ _ _ _ _ _ _ _ _ _ _ _ _ _ _ _ _ _ _ _ _ _ _ _ _ _ _ _ _ _ _ _ _ _ _ _ _ _ _ _ _ _ _ _ _ _ _ _ _ _ _ _ _ _ _ _ _ _ ⟨HA.out.book, HA.out.same, HA.out.blk, HA.out.rows, Kept.refl _ _⟩ HAP.out HC.out HLOW.out HBIG.out HD.out ?_
      intro x22 x158 x159 x160 x161 x162 x163 x164 x165 x166 x167 x168 x169 x170 x171 x172 x173 x174 x175 x176 x177 x178 x179 x180 w2 st1 hA2 hoth
      have hO2 := own_keep HO.out hA2.kept (fun g hg ht => by
        have h1 := (HO.out.lt g hg).1
        have h2 := HT.out g ht
        omega)
      have hat := (hA2.book.at_ s C HC.out).2
      have hlt2 := hat.lt
      have f0 := slot_form (hA2.rows s C HC.out 0 (.inl rfl))
      have f1 := slot_form (hA2.rows s C HC.out 1 (.inr rfl))
      have hwsz : w.heap.size ≤ w2.heap.size := Nat.le_trans HA.out.kept.size hA2.kept.size
      have HA2 := Lib.hid hA2
      have HO2 := Lib.hid hO2
      have HOTH := Lib.hid hoth
      have HAT := Lib.hid hat
      obtain ⟨cst, hcst⟩ : ∃ cst, cst = st1 s := ⟨_, rfl⟩
      obtain ⟨vs, hvs⟩ : ∃ vs, vs = ctCells (ba s) cst := ⟨_, rfl⟩
      have e0 : slotS (st1 s) 0 = cst.s0 := by rw [hcst]; rfl
      have e1 : slotS (st1 s) 1 = cst.s1 := by rw [hcst]; rfl
      rw [e0] at f0
      rw [e1] at f1
      rw [← hcst] at hat
      have HCST := Lib.hid hcst
      have y0 := hat.cell 0 rfl
      have y1 := hat.cell 1 rfl
      have y2 := hat.cell 2 rfl
      have y3 := hat.cell 3 rfl
      have y4 := hat.cell 4 rfl
      have y5 := hat.cell 5 rfl
      have y6 := hat.cell 6 rfl
      obtain ⟨m0, m1, m2, m3, m4, m5⟩ := cst
      dsimp only at y0 y1 y2 y3 y4 y5 y6 f0 f1
      have HK1 : ∀ W, W = w2.alloc (.cells #[.string (ba s), .bool m0, .bool m1, .string m2, .string m3, m4, m5] 46) → W.ownsRow w.heap.size 46 7 u19 j (outCells (ks.take j) st) ∧ Rd W (some ⟨w2.heap.size, 0, none⟩) 1 7 [.string (ba s), .bool m0, .bool m1, .string m2, .string m3, m4, m5] ∧ w.heap.size ≤ W.heap.size ∧ Below w2.heap.size w2 W := by
        rintro W rfl
        exact ⟨own_below hO2 ((Below.refl _ _).alloc (Nat.le_refl _) _), (At.new w2 #[.string (ba s), .bool m0, .bool m1, .string m2, .string m3, m4, m5] 46).rd rfl (by decide), by simp; omega, (Below.refl _ _).alloc (Nat.le_refl _) _⟩
      have HBK := Lib.hid HK1
      have hone : ∀ u ∈ ([.string (ba s), .bool m0, .bool m1, .string m2, .string m3, m4, m5] : List Value), u.oneCell' = true := by
        intro u hu
        simp at hu
        rcases hu with rfl | rfl | rfl | rfl | rfl | rfl | rfl
        all_goals first | rfl | assumption
      have HONE := Lib.hid hone
      clear hA2 hO2 hoth hat hcst hvs vs e0 e1 HK1 hone
      go_wp2_with (at_builtin; refine wpList_append_rd (w0 := w2) w.heap.size rfl _ _ 36 46 _ 7 104 rfl Try.underlying36 info_con rfl (by decide) (by decide) u19 j (outCells (ks.take j) st) (some ⟨w2.heap.size, 0, none⟩) 1 1 [.string (ba s), .bool m0, .bool m1, .string m2, .string m3, m4, m5] (by rfl) (by rfl) (HBK.out _ rfl).1 (HBK.out _ rfl).2.1 HONE.out ((Below.refl _ _).alloc hwsz _) (HBK.out _ rfl).2.2.1 (by omega) ?_)
      intro v1 w3 hO3 hb3' hg3 hl3
      have HH3 := Lib.hid (And.intro hO3 (And.intro hb3' (And.intro hg3 hl3)))
      clear hO3 hb3' hg3 hl3 y0 y1 y2 y3 y4 y5 y6 f0 f1
      go_wp2_with fail
      go_roundw
      case measure => simp [intOf]; omega
      case rel =>
        obtain ⟨hO3, hb3', hg3, hl3⟩ := HH3.out
        have hK3 : Kept (fun i => u19.ownBlock = some i) w2 w3 := (Kept.of_below _ (HBK.out _ rfl).2.2.2).trans (Kept.of_grown hg3 (fun i _ e => e))
        have hA3 := (HA2.out.after HA.out.kept).grow HT.out H0.out.book.map.lt hK3 (fun i e => (HO.out.lt i e).1)
        refine ⟨j + 1, by omega, by go_num, st1, hA3.congr (fun s' l hl => ?_), ?_⟩
        · rw [take_snocG HS.out]
          have h2 : decide (l < 2) = true := by rcases hl with rfl | rfl <;> rfl
          unfold dk
          rw [h2, Bool.and_true]
          simp [List.mem_append]
        · rw [outCells_snoc HS.out (fun x hx => HOTH.out x (fun e => HNOT.out (by rw [← e]; exact hx))), ← HCST.out]
          exact hO3
    · have hjn' : j = n := by omega
      subst hjn'
      have hne : ¬ (j : Int) < (j : Int) := by omega
      have e : ks.take j = ks := List.take_of_length_le (by rw [HN.out]; omega)
      rw [e] at hA hO
      have HG := Lib.hid (And.intro hA hO)
      clear hA hO e
      go_wp2_with fail
      exact HX.out _ _ _ _ _ _ _ _ _ _ _ _ _ _ _ _ _ _ _ _ _ _ _ _ _ _ _ _ _ _ _ _ _ _ _ _ _ _ st HG.out.1 HG.out.2
end Go.Proofs.Ytfbpjhhcpockfaa
