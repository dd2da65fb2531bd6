/- book.Of's inner loop over the writes of one key and label: their stamps. No condition. -/
import Derived.Test.YtfbpjhhcpockfaaGroups
set_option linter.unusedVariables false
set_option linter.unusedSimpArgs false
namespace Go.Proofs.Ytfbpjhhcpockfaa
open Go.RowKit Go.Shelf Go.Maps
noncomputable def ofB4 : Code := loopOf Try.f13.body 3
theorem info_stamp : (Try.prog.info? 73).map (fun i => (i.zero, i.size, i.bytes)) = some (some (.agg #[.int .i64 0, .int .i64 0]), 2, 16) := by kernel_rfl
def stOf (L : List Ev) : List St := L.map fun e => (e.height, e.r)
theorem stCells_snoc {L : List Ev} {j : Nat} {x : Ev} (hx : L[j]? = some x) : stCells (stOf (L.take (j + 1))) = stCells (stOf (L.take j)) ++ [.int .i64 x.height, .int .i64 x.r] := by
  rw [take_snoc hx]; simp [stOf, stCells]
set_option maxRecDepth 100000 in
set_option maxHeartbeats 2000000 in
theorem of_loop4 (Q : Exit → Act → World → Prop) (A : Option Addr) (n c : Nat) (L : List Ev) (w : World) (u0 u1 u2 u3 u4 u5 u6 u7 u8 u9 u10 u11 u13 u14 u15 u16 u17 u18 u19 u20 u21 u22 u23 u24 u25 u26 u27 u28 u29 u30 u31 u32 u33 u34 u35 u36 u37 u38 u39 u40 u41 u42 u43 u44 u45 u46 u47 u48 u49 u50 u51 u52 u53 u54 u55 u56 u57 u58 u59 u60 u61 u62 u63 u64 u65 u66 u67 u68 u69 u70 u71 u72 u73 u74 u75 u79 u80 u81 u82 u83 u84 u85 u86 u87 u88 u89 u90 u91 u92 u93 u94 u95 u96 u97 u98 u99 u100 u101 u102 u103 u104 u105 u106 u107 u108 u109 u110 u111 u112 u113 u114 u115 u116 u117 u118 u119 u120 u121 u122 u123 u124 u125 u126 u127 u128 u129 u130 u131 u132 u133 u134 u135 u136 u137 u138 u139 u140 u141 u142 u143 u144 u145 u146 u147 u148 u149 u150 u151 u152 u153 u154 u155 u156 u157 u158 u159 u160 u161 u162 u163 u164 u165 u166 u167 u168 u169 u170 u171 u172 u173 u174 u175 u176 u177 u178 u179 u180 u181 u182 u183 u184 u185 u186 u187 u188 : Value)
    (hR : RdEv w A n L) (hbig : n ≤ 1000000000)
    (hexit : ∀ (x14 x78 x79 x80 x81 x82 x83 x84 x85 x86 x87 x88 x89 x90 v : Value) (w' : World), w'.ownsRow w.heap.size 73 2 v n (stCells (stOf L)) → Below w.heap.size w w' →
      Q (.exit 6) ⟨(List.toArray (u0 :: u1 :: u2 :: u3 :: u4 :: u5 :: u6 :: u7 :: u8 :: u9 :: u10 :: u11 :: v :: u13 :: x14 :: u15 :: u16 :: u17 :: u18 :: u19 :: u20 :: u21 :: u22 :: u23 :: u24 :: u25 :: u26 :: u27 :: u28 :: u29 :: u30 :: u31 :: u32 :: u33 :: u34 :: u35 :: u36 :: u37 :: u38 :: u39 :: u40 :: u41 :: u42 :: u43 :: u44 :: u45 :: u46 :: u47 :: u48 :: u49 :: u50 :: u51 :: u52 :: u53 :: u54 :: u55 :: u56 :: u57 :: u58 :: u59 :: u60 :: u61 :: u62 :: u63 :: u64 :: u65 :: u66 :: u67 :: u68 :: u69 :: u70 :: u71 :: u72 :: u73 :: u74 :: u75 :: .slice A n c :: .int .i64 n :: x78 :: x79 :: x80 :: x81 :: x82 :: x83 :: x84 :: x85 :: x86 :: x87 :: x88 :: x89 :: x90 :: u91 :: u92 :: u93 :: u94 :: u95 :: u96 :: u97 :: u98 :: u99 :: u100 :: u101 :: u102 :: u103 :: u104 :: u105 :: u106 :: u107 :: u108 :: u109 :: u110 :: u111 :: u112 :: u113 :: u114 :: u115 :: u116 :: u117 :: u118 :: u119 :: u120 :: u121 :: u122 :: u123 :: u124 :: u125 :: u126 :: u127 :: u128 :: u129 :: u130 :: u131 :: u132 :: u133 :: u134 :: u135 :: u136 :: u137 :: u138 :: u139 :: u140 :: u141 :: u142 :: u143 :: u144 :: u145 :: u146 :: u147 :: u148 :: u149 :: u150 :: u151 :: u152 :: u153 :: u154 :: u155 :: u156 :: u157 :: u158 :: u159 :: u160 :: u161 :: u162 :: u163 :: u164 :: u165 :: u166 :: u167 :: u168 :: u169 :: u170 :: u171 :: u172 :: u173 :: u174 :: u175 :: u176 :: u177 :: u178 :: u179 :: u180 :: u181 :: u182 :: u183 :: u184 :: u185 :: u186 :: u187 :: u188 :: [])), []⟩ w') :
    Code.wp Try.prog (.loop ofB4) Q ⟨(List.toArray (u0 :: u1 :: u2 :: u3 :: u4 :: u5 :: u6 :: u7 :: u8 :: u9 :: u10 :: u11 :: .slice none 0 0 :: u13 :: u14 :: u15 :: u16 :: u17 :: u18 :: u19 :: u20 :: u21 :: u22 :: u23 :: u24 :: u25 :: u26 :: u27 :: u28 :: u29 :: u30 :: u31 :: u32 :: u33 :: u34 :: u35 :: u36 :: u37 :: u38 :: u39 :: u40 :: u41 :: u42 :: u43 :: u44 :: u45 :: u46 :: u47 :: u48 :: u49 :: u50 :: u51 :: u52 :: u53 :: u54 :: u55 :: u56 :: u57 :: u58 :: u59 :: u60 :: u61 :: u62 :: u63 :: u64 :: u65 :: u66 :: u67 :: u68 :: u69 :: u70 :: u71 :: u72 :: u73 :: u74 :: u75 :: .slice A n c :: .int .i64 n :: .int .i64 0 :: u79 :: u80 :: u81 :: u82 :: u83 :: u84 :: u85 :: u86 :: u87 :: u88 :: u89 :: u90 :: u91 :: u92 :: u93 :: u94 :: u95 :: u96 :: u97 :: u98 :: u99 :: u100 :: u101 :: u102 :: u103 :: u104 :: u105 :: u106 :: u107 :: u108 :: u109 :: u110 :: u111 :: u112 :: u113 :: u114 :: u115 :: u116 :: u117 :: u118 :: u119 :: u120 :: u121 :: u122 :: u123 :: u124 :: u125 :: u126 :: u127 :: u128 :: u129 :: u130 :: u131 :: u132 :: u133 :: u134 :: u135 :: u136 :: u137 :: u138 :: u139 :: u140 :: u141 :: u142 :: u143 :: u144 :: u145 :: u146 :: u147 :: u148 :: u149 :: u150 :: u151 :: u152 :: u153 :: u154 :: u155 :: u156 :: u157 :: u158 :: u159 :: u160 :: u161 :: u162 :: u163 :: u164 :: u165 :: u166 :: u167 :: u168 :: u169 :: u170 :: u171 :: u172 :: u173 :: u174 :: u175 :: u176 :: u177 :: u178 :: u179 :: u180 :: u181 :: u182 :: u183 :: u184 :: u185 :: u186 :: u187 :: u188 :: [])), []⟩ w := by
  conv => arg 2; arg 1; whnf
  have hRr := Lib.hid (fun (W : World) (h : Below w.heap.size w W) => hR.below h)
  have HX := Lib.hid hexit
  have HL := Lib.hid hR.1
  clear hexit hR
  go_loopw [12, 78] (fun v i wr => ∃ j : Nat, j ≤ n ∧ i = .int .i64 j ∧ wr.ownsRow w.heap.size 73 2 v j (stCells (stOf (L.take j))) ∧ Below w.heap.size w wr) (fun _ i _ => n - (intOf i).toNat)
  case atStart => exact ⟨0, by omega, rfl, World.ownsRow_nil _ _ _ _, Below.refl _ _⟩
  case round =>
    obtain ⟨j, hj, rfl, hO, hbr⟩ := hrel
    by_cases hjn : j < n
    · obtain ⟨x, hx⟩ : ∃ x, L[j]? = some x := ⟨L[j]'(by rw [HL.out]; exact hjn), List.getElem?_eq_getElem _⟩
      have hR' := hRr.out wr hbr
      obtain ⟨b, o, hA, hlt, hcc⟩ := hR'.at_ j x hx
      subst hA
      have v0 : wr.cell? ⟨b, o + j * 12, none⟩ = some (.int .i64 x.r) := hcc 0 _ rfl
      have v1 : wr.cell? ⟨b, o + j * 12 + 1, none⟩ = some (.int .i64 x.n) := hcc 1 _ rfl
      have v2 : wr.cell? ⟨b, o + j * 12 + 2, none⟩ = some (.int .i64 x.c0) := hcc 2 _ rfl
      have v3 : wr.cell? ⟨b, o + j * 12 + 3, none⟩ = some (.int .i64 x.c1) := hcc 3 _ rfl
      have v4 : wr.cell? ⟨b, o + j * 12 + 4, none⟩ = some (.int .i64 x.c2) := hcc 4 _ rfl
      have v5 : wr.cell? ⟨b, o + j * 12 + 5, none⟩ = some (.int .i64 x.c3) := hcc 5 _ rfl
      have v6 : wr.cell? ⟨b, o + j * 12 + 6, none⟩ = some (.int .i64 x.c4) := hcc 6 _ rfl
      have v7 : wr.cell? ⟨b, o + j * 12 + 7, none⟩ = some (.int .i64 x.height) := hcc 7 _ rfl
      have v8 : wr.cell? ⟨b, o + j * 12 + 8, none⟩ = some (.int .i64 x.kind) := hcc 8 _ rfl
      have v9 : wr.cell? ⟨b, o + j * 12 + 9, none⟩ = some (.string x.key) := hcc 9 _ rfl
      have v10 : wr.cell? ⟨b, o + j * 12 + 10, none⟩ = some (.int .i64 x.label) := hcc 10 _ rfl
      have v11 : wr.cell? ⟨b, o + j * 12 + 11, none⟩ = some (.string x.value) := hcc 11 _ rfl
      have hsz : w.heap.size ≤ wr.heap.size := hbr.size
      have HK1 : ∀ W, W = (wr.alloc (.cells x.cells.toArray 35)).alloc (.cells #[.int .i64 x.height, .int .i64 x.r] 73) → W.ownsRow w.heap.size 73 2 u12 j (stCells (stOf (L.take j))) ∧ Rd W (some ⟨wr.heap.size + 1, 0, none⟩) 1 2 [.int .i64 x.height, .int .i64 x.r] ∧ Below w.heap.size w W ∧ w.heap.size ≤ W.heap.size := by
        rintro W rfl
        refine ⟨own_below hO (((Below.refl _ _).alloc (Nat.le_refl _) _).alloc (by simp) _), ?_, (hbr.alloc hsz _).alloc (by simp; omega) _, by simp; omega⟩
        have := (At.new (wr.alloc (.cells x.cells.toArray 35)) #[.int .i64 x.height, .int .i64 x.r] 73).rd (n := 1) (size := 2) rfl (by decide)
        simpa using this
      have HBK := Lib.hid HK1
      have HX2 := Lib.hid hx
      clear hO hbr hcc hR' HK1 hx
      go_wp2_with (at_builtin; refine wpList_append_rd (w0 := w) w.heap.size rfl _ _ 71 73 _ 2 16 rfl Try.underlying71 info_stamp rfl (by decide) (by decide) u12 j (stCells (stOf (L.take j))) (some ⟨wr.heap.size + 1, 0, none⟩) 1 1 [.int .i64 x.height, .int .i64 x.r] (by rfl) (by rfl) (HBK.out _ rfl).1 (HBK.out _ rfl).2.1 (by simp [Value.oneCell']) (HBK.out _ rfl).2.2.1 (HBK.out _ rfl).2.2.2 (by omega) ?_)
      intro v1 w2 hO2 hb2 hg2 hl2
      rw [← stCells_snoc HX2.out] at hO2
      have HH2 := Lib.hid (And.intro hO2 hb2)
      clear hO2 hb2 hg2 hl2
      go_wp2_with fail
      go_roundw
      case measure => simp [intOf]; omega
      case rel => exact ⟨j + 1, by omega, by go_num, HH2.out.1, HH2.out.2⟩
    · have hjn' : j = n := by omega
      subst hjn'
      have hne : ¬ (j : Int) < (j : Int) := by omega
      have e : L.take j = L := List.take_of_length_le (by rw [HL.out]; omega)
      rw [e] at hO
      go_wp2_with fail
      exact HX.out _ _ _ _ _ _ _ _ _ _ _ _ _ _ _ _ hO hbr
end Go.Proofs.Ytfbpjhhcpockfaa
