/- book.Of's first loop: a contact of its own for each create that lives. No condition. -/
import Derived.Test.YtfbpjhhcpockfaaOfPlain
set_option linter.unusedVariables false
set_option linter.unusedSimpArgs false
namespace Go.Proofs.Ytfbpjhhcpockfaa
open Go.RowKit Go.Shelf Go.Maps
noncomputable def ofB1 : Code := loopOf Try.f13.body 0
def keyed (L : List Ev) (s : Str) : Bool := L.any fun e => e.k == s
theorem keyed_snoc {L : List Ev} {j : Nat} {x : Ev} (hx : L[j]? = some x) (s : Str) : keyed (L.take (j + 1)) s = (keyed (L.take j) s || (x.k == s)) := by
  unfold keyed; rw [take_snoc hx, List.any_append]; simp

set_option maxRecDepth 100000 in
set_option maxHeartbeats 2000000 in
theorem of_loop1 (Q : Exit → Act → World → Prop) (A : Option Addr) (n c B base : Nat) (L : List Ev) (w : World) (u0 u1 u2 u4 u5 u6 u7 u8 u9 u10 u11 u12 u13 u14 u15 u16 u17 u18 u19 u20 u21 u22 u23 u24 u28 u29 u30 u31 u32 u33 u34 u35 u36 u37 u38 u39 u40 u41 u42 u43 u44 u45 u46 u47 u48 u49 u50 u51 u52 u53 u54 u55 u56 u57 u58 u59 u60 u61 u62 u63 u64 u65 u66 u67 u68 u69 u70 u71 u72 u73 u74 u75 u76 u77 u78 u79 u80 u81 u82 u83 u84 u85 u86 u87 u88 u89 u90 u91 u92 u93 u94 u95 u96 u97 u98 u99 u100 u101 u102 u103 u104 u105 u106 u107 u108 u109 u110 u111 u112 u113 u114 u115 u116 u117 u118 u119 u120 u121 u122 u123 u124 u125 u126 u127 u128 u129 u130 u131 u132 u133 u134 u135 u136 u137 u138 u139 u140 u141 u142 u143 u144 u145 u146 u147 u148 u149 u150 u151 u152 u153 u154 u155 u156 u157 u158 u159 u160 u161 u162 u163 u164 u165 u166 u167 u168 u169 u170 u171 u172 u173 u174 u175 u176 u177 u178 u179 u180 u181 u182 u183 u184 u185 u186 u187 u188 : Value)
    (hR : RdEv w A n L) (hok : ∀ e ∈ L, e.ok) (hbig : n ≤ 1000000000) (hM : BookAt w B 0 base (fun _ => none) (fun _ => blank)) (hbase : base ≤ w.heap.size)
    (hexit : ∀ (x5 x27 x28 x29 x30 x31 x32 x33 x34 x35 x36 x37 x38 : Value) (w' : World) (pt : Str → Option Nat), BookAt w' B n base pt (fun _ => blank) → (∀ s, (pt s).isSome = keyed L s) → Kept (· = B) w w' →
      Q (.exit 0) ⟨(List.toArray (u0 :: u1 :: u2 :: .map (some B) :: u4 :: x5 :: u6 :: u7 :: u8 :: u9 :: u10 :: u11 :: u12 :: u13 :: u14 :: u15 :: u16 :: u17 :: u18 :: u19 :: u20 :: u21 :: u22 :: u23 :: u24 :: .slice A n c :: .int .i64 n :: x27 :: x28 :: x29 :: x30 :: x31 :: x32 :: x33 :: x34 :: x35 :: x36 :: x37 :: x38 :: u39 :: u40 :: u41 :: u42 :: u43 :: u44 :: u45 :: u46 :: u47 :: u48 :: u49 :: u50 :: u51 :: u52 :: u53 :: u54 :: u55 :: u56 :: u57 :: u58 :: u59 :: u60 :: u61 :: u62 :: u63 :: u64 :: u65 :: u66 :: u67 :: u68 :: u69 :: u70 :: u71 :: u72 :: u73 :: u74 :: u75 :: u76 :: u77 :: u78 :: u79 :: u80 :: u81 :: u82 :: u83 :: u84 :: u85 :: u86 :: u87 :: u88 :: u89 :: u90 :: u91 :: u92 :: u93 :: u94 :: u95 :: u96 :: u97 :: u98 :: u99 :: u100 :: u101 :: u102 :: u103 :: u104 :: u105 :: u106 :: u107 :: u108 :: u109 :: u110 :: u111 :: u112 :: u113 :: u114 :: u115 :: u116 :: u117 :: u118 :: u119 :: u120 :: u121 :: u122 :: u123 :: u124 :: u125 :: u126 :: u127 :: u128 :: u129 :: u130 :: u131 :: u132 :: u133 :: u134 :: u135 :: u136 :: u137 :: u138 :: u139 :: u140 :: u141 :: u142 :: u143 :: u144 :: u145 :: u146 :: u147 :: u148 :: u149 :: u150 :: u151 :: u152 :: u153 :: u154 :: u155 :: u156 :: u157 :: u158 :: u159 :: u160 :: u161 :: u162 :: u163 :: u164 :: u165 :: u166 :: u167 :: u168 :: u169 :: u170 :: u171 :: u172 :: u173 :: u174 :: u175 :: u176 :: u177 :: u178 :: u179 :: u180 :: u181 :: u182 :: u183 :: u184 :: u185 :: u186 :: u187 :: u188 :: [])), []⟩ w') :
    Code.wp Try.prog (.loop ofB1) Q ⟨(List.toArray (u0 :: u1 :: u2 :: .map (some B) :: u4 :: u5 :: u6 :: u7 :: u8 :: u9 :: u10 :: u11 :: u12 :: u13 :: u14 :: u15 :: u16 :: u17 :: u18 :: u19 :: u20 :: u21 :: u22 :: u23 :: u24 :: .slice A n c :: .int .i64 n :: .int .i64 0 :: u28 :: u29 :: u30 :: u31 :: u32 :: u33 :: u34 :: u35 :: u36 :: u37 :: u38 :: u39 :: u40 :: u41 :: u42 :: u43 :: u44 :: u45 :: u46 :: u47 :: u48 :: u49 :: u50 :: u51 :: u52 :: u53 :: u54 :: u55 :: u56 :: u57 :: u58 :: u59 :: u60 :: u61 :: u62 :: u63 :: u64 :: u65 :: u66 :: u67 :: u68 :: u69 :: u70 :: u71 :: u72 :: u73 :: u74 :: u75 :: u76 :: u77 :: u78 :: u79 :: u80 :: u81 :: u82 :: u83 :: u84 :: u85 :: u86 :: u87 :: u88 :: u89 :: u90 :: u91 :: u92 :: u93 :: u94 :: u95 :: u96 :: u97 :: u98 :: u99 :: u100 :: u101 :: u102 :: u103 :: u104 :: u105 :: u106 :: u107 :: u108 :: u109 :: u110 :: u111 :: u112 :: u113 :: u114 :: u115 :: u116 :: u117 :: u118 :: u119 :: u120 :: u121 :: u122 :: u123 :: u124 :: u125 :: u126 :: u127 :: u128 :: u129 :: u130 :: u131 :: u132 :: u133 :: u134 :: u135 :: u136 :: u137 :: u138 :: u139 :: u140 :: u141 :: u142 :: u143 :: u144 :: u145 :: u146 :: u147 :: u148 :: u149 :: u150 :: u151 :: u152 :: u153 :: u154 :: u155 :: u156 :: u157 :: u158 :: u159 :: u160 :: u161 :: u162 :: u163 :: u164 :: u165 :: u166 :: u167 :: u168 :: u169 :: u170 :: u171 :: u172 :: u173 :: u174 :: u175 :: u176 :: u177 :: u178 :: u179 :: u180 :: u181 :: u182 :: u183 :: u184 :: u185 :: u186 :: u187 :: u188 :: [])), []⟩ w := by
  conv => arg 2; arg 1; whnf
  obtain ⟨es, clock, hmh⟩ := hM.map.heap
  have hRr := Lib.hid (fun (W : World) (h : Kept (· = B) w W) => hR.keep h (fun b o e hne => hR.2.not_map hmh b o e hne))
  have HX := Lib.hid hexit
  have HM := Lib.hid hM
  have HL := Lib.hid hR.1
  have HOK := Lib.hid hok
  clear hM hexit hR hok hmh
  go_loopw [27] (fun i wr => ∃ j : Nat, j ≤ n ∧ i = .int .i64 j ∧ ∃ pt : Str → Option Nat, BookAt wr B j base pt (fun _ => blank) ∧ (∀ s, (pt s).isSome = keyed (L.take j) s) ∧ Kept (· = B) w wr) (fun i _ => n - (intOf i).toNat)
  case atStart => exact ⟨0, by omega, rfl, _, HM.out, fun s => rfl, Kept.refl _ _⟩
  case round =>
    obtain ⟨j, hj, rfl, pt, hBk, hpt, hbr⟩ := hrel
    by_cases hjn : j < n
    · obtain ⟨x, hx⟩ : ∃ x, L[j]? = some x := ⟨L[j]'(by rw [HL.out]; exact hjn), List.getElem?_eq_getElem _⟩
      have hR' := hRr.out wr hbr
      obtain ⟨b, o, hA, hlt, hcc⟩ := hR'.at_ j x hx
      subst hA
      have v0 : wr.cell? ⟨b, o + j * 12, none⟩ = some (.int .i64 x.r) := hcc 0 _ rfl
      have v1 : wr.cell? ⟨b, o + j * 12 + 1, none⟩ = some (.int .i64 x.n) := hcc 1 _ rfl
      have v2 : wr.cell? ⟨b, o + j * 12 + 2, none⟩ = some (.int .i64 x.c0) := hcc 2 _ rfl
      have v3 : wr.cell? ⟨b, o + j * 12 + 3, none⟩ = some (.int .i64 x.c1) := hcc 3 _ rfl
      have v4 : wr.cell? ⟨b, o + j * 12 + 4, none⟩ = some (.int .i64 x.c2) := hcc 4 _ rfl
      have v5 : wr.cell? ⟨b, o + j * 12 + 5, none⟩ = some (.int .i64 x.c3) := hcc 5 _ rfl
      have v6 : wr.cell? ⟨b, o + j * 12 + 6, none⟩ = some (.int .i64 x.c4) := hcc 6 _ rfl
      have v7 : wr.cell? ⟨b, o + j * 12 + 7, none⟩ = some (.int .i64 x.height) := hcc 7 _ rfl
      have v8 : wr.cell? ⟨b, o + j * 12 + 8, none⟩ = some (.int .i64 x.kind) := hcc 8 _ rfl
      have v9 : wr.cell? ⟨b, o + j * 12 + 9, none⟩ = some (.string x.key) := hcc 9 _ rfl
      have v10 : wr.cell? ⟨b, o + j * 12 + 10, none⟩ = some (.int .i64 x.label) := hcc 10 _ rfl
      have v11 : wr.cell? ⟨b, o + j * 12 + 11, none⟩ = some (.string x.value) := hcc 11 _ rfl
      obtain ⟨hk, hv, hl⟩ := HOK.out x (List.mem_of_getElem? hx)
      have hkey := key_str hk
      have hsz : base ≤ wr.heap.size := Nat.le_trans hbase hbr.size
      have HK1 : ∀ W, W = (wr.alloc (.cells x.cells.toArray 35)).alloc (.cells (ctCells x.key blank).toArray 46) → BookAt W B j base pt (fun _ => blank) ∧ At W (wr.heap.size + 1) (ctCells x.key blank) ∧ Kept (· = B) w W := by
        rintro W rfl
        refine ⟨hBk.next (((Below.refl _ _).alloc (Nat.le_refl _) _).alloc (by simp) _), ?_, (hbr.alloc _).alloc _⟩
        have := At.new (wr.alloc (.cells x.cells.toArray 35)) (ctCells x.key blank).toArray 46
        simpa using this
      have HBK := Lib.hid HK1
      have HPT := Lib.hid hpt
      have HX2 := Lib.hid hx
      clear hBk hpt hbr hcc hR' HK1 hk hv hl hx
      go_wp2_with (first | (at_mapUpdate; refine wpl_store rfl _ _ _ 65 rfl 9 66 keyed_str Try.underlying65 B j (ptF pt) rfl (HBK.out _ rfl).1.map (by unfold maxLen; omega) _ _ _ rfl rfl hkey ?_; intro w1 hM1 hG1) | go_in)
      go_roundw
      case measure => simp [intOf]; omega
      case rel =>
        obtain ⟨h1, h2, h3⟩ := HBK.out _ rfl
        refine ⟨j + 1, by omega, by go_num, _, h1.put h2 (by omega) hM1 hG1, fun s => ?_, h3.grown hG1 (fun i _ e => by injection e with e; exact e.symm)⟩
        rw [keyed_snoc HX2.out, ← HPT.out s]
        by_cases e : s = x.key.data.toList
        · subst e; simp
        · have e' : (x.k == s) = false := by simp [Ev.k]; exact fun h => e h.symm
          rw [if_neg e, e']; simp
    · have hjn' : j = n := by omega
      subst hjn'
      have hne : ¬ (j : Int) < (j : Int) := by omega
      have e : L.take j = L := List.take_of_length_le (by rw [HL.out]; omega)
      rw [e] at hpt
      go_wp2_with fail
      exact HX.out _ _ _ _ _ _ _ _ _ _ _ _ _ _ pt hBk hpt hbr
end Go.Proofs.Ytfbpjhhcpockfaa
