/- kithlaw09's wrote and few. No condition. -/
import Derived.Test.YtfbpjhhcpockfaaSize
import Derived.Test.YtfbpjhhcpockfaaBookShown
set_option linter.unusedVariables false
set_option linter.unusedSimpArgs false
namespace Go.Proofs.Ytfbpjhhcpockfaa
open Go.RowKit Go.Shelf Go.Maps

/-- x is such an event as e. -/
def wroteE (e x : Ev) : Bool := (x.kind == e.kind) && (x.key.toList == e.key.toList) && ((e.kind == 1) || ((x.label == e.label) && (x.value.toList == e.value.toList)))
theorem any_snocE {p : Ev → Bool} {L : List Ev} {j : Nat} {x : Ev} (hx : L[j]? = some x) (h : (L.take j).any p = false) (hp : p x = false) : (L.take (j + 1)).any p = false := by
  rw [take_snoc hx, List.any_append, h]; simp [hp]
set_option maxRecDepth 100000 in
set_option maxHeartbeats 4000000 in
theorem wrote_any (A : Option Addr) (n c : Nat) (L : List Ev) (e : Ev) (w : World) (hR : RdEv w A n L) (hn : n ≤ 1000000000) :
    Calls Try.prog 20 #[.slice A n c, e.v] w fun r w' => r = .returned (.bool (L.any (wroteE e))) ∧ Below w.heap.size w w' := by
  have HR := Lib.hid (fun (W : World) (h : Below w.heap.size w W) => hR.below h)
  have HL := Lib.hid hR.1
  have HE := Lib.hid (At.new w e.cells.toArray 35)
  have HB := Lib.hid ((Below.refl w.heap.size w).alloc (Nat.le_refl _) (.cells e.cells.toArray 35))
  clear hR
  have hwr : ∀ x, wroteE e x = ((x.kind == e.kind) && (x.key.toList == e.key.toList) && ((e.kind == 1) || ((x.label == e.label) && (x.value.toList == e.value.toList)))) := fun x => rfl
  have HWR := Lib.hid hwr
  clear hwr
  generalize wroteE e = p at *
  obtain ⟨r0, n0, c0, c1, c2, c3, c4, hh, k, key, lab, val⟩ := e
  unfold Ev.v Ev.cells at *
  (try dsimp only at *)
  go_enter Try.func20, Try.ntmps20
  go_wp2_with fail
  go_loopw [5] (fun i wr => ∃ j : Nat, j ≤ n ∧ i = .int .i64 j ∧ (L.take j).any p = false ∧ At wr w.heap.size [.int .i64 r0, .int .i64 n0, .int .i64 c0, .int .i64 c1, .int .i64 c2, .int .i64 c3, .int .i64 c4, .int .i64 hh, .int .i64 k, .string key, .int .i64 lab, .string val] ∧ Below w.heap.size w wr) (fun i _ => n - (intOf i).toNat)
  case atStart => exact ⟨0, by omega, rfl, by simp, HE.out, HB.out⟩
  case round =>
    obtain ⟨j, hj, rfl, hany, hE, hbr⟩ := hrel
    by_cases hjn : j < n
    · obtain ⟨x, hx⟩ : ∃ x, L[j]? = some x := ⟨L[j]'(by rw [HL.out]; exact hjn), List.getElem?_eq_getElem _⟩
      have hR' := HR.out wr hbr
      obtain ⟨b, o, hA, hlt, hcc⟩ := hR'.at_ j x hx
      subst hA
      have v0 : wr.cell? ⟨b, o + j * 12, none⟩ = some (.int .i64 x.r) := hcc 0 _ rfl
      have v1 : wr.cell? ⟨b, o + j * 12 + 1, none⟩ = some (.int .i64 x.n) := hcc 1 _ rfl
      have v2 : wr.cell? ⟨b, o + j * 12 + 2, none⟩ = some (.int .i64 x.c0) := hcc 2 _ rfl
      have v3 : wr.cell? ⟨b, o + j * 12 + 3, none⟩ = some (.int .i64 x.c1) := hcc 3 _ rfl
      have v4 : wr.cell? ⟨b, o + j * 12 + 4, none⟩ = some (.int .i64 x.c2) := hcc 4 _ rfl
      have v5 : wr.cell? ⟨b, o + j * 12 + 5, none⟩ = some (.int .i64 x.c3) := hcc 5 _ rfl
      have v6 : wr.cell? ⟨b, o + j * 12 + 6, none⟩ = some (.int .i64 x.c4) := hcc 6 _ rfl
      have v7 : wr.cell? ⟨b, o + j * 12 + 7, none⟩ = some (.int .i64 x.height) := hcc 7 _ rfl
      have v8 : wr.cell? ⟨b, o + j * 12 + 8, none⟩ = some (.int .i64 x.kind) := hcc 8 _ rfl
      have v9 : wr.cell? ⟨b, o + j * 12 + 9, none⟩ = some (.string x.key) := hcc 9 _ rfl
      have v10 : wr.cell? ⟨b, o + j * 12 + 10, none⟩ = some (.int .i64 x.label) := hcc 10 _ rfl
      have v11 : wr.cell? ⟨b, o + j * 12 + 11, none⟩ = some (.string x.value) := hcc 11 _ rfl
      have hsz : w.heap.size ≤ wr.heap.size := hbr.size
      have lE := hE.lt
      have y0 := hE.cell 0 rfl
      have y1 := hE.cell 1 rfl
      have y2 := hE.cell 2 rfl
      have y3 := hE.cell 3 rfl
      have y4 := hE.cell 4 rfl
      have y5 := hE.cell 5 rfl
      have y6 := hE.cell 6 rfl
      have y7 := hE.cell 7 rfl
      have y8 := hE.cell 8 rfl
      have y9 := hE.cell 9 rfl
      have y10 := hE.cell 10 rfl
      have y11 := hE.cell 11 rfl
      have HX2 := Lib.hid hx
      have hpx := HWR.out x
      have HB1 := Lib.hid (hbr.alloc hsz (.cells x.cells.toArray 35))
      have HE1 := Lib.hid (hE.alloc (.cells x.cells.toArray 35))
      have HAN := Lib.hid hany
      obtain ⟨r1, n1, d0, d1, d2, d3, d4, h1, k1, key1, lab1, val1⟩ := x
      unfold Ev.cells at *
      (try dsimp only at *)
      have HPX := Lib.hid hpx
      clear hcc hR' hx hE hbr hany hpx
      by_cases hk : k1 = k
      · subst hk
        by_cases hky : (key1.toList == key.toList) = true
        · by_cases h1 : k1 = 1
          · subst h1
            go_wp2_with fail
            go_ret
            exact ⟨ret_bool (by
              rw [List.any_eq_true.2 ⟨_, List.mem_of_getElem? HX2.out, ?_⟩]
              rw [HPX.out]
              simp [*]), HB1.out⟩
          · have h1' : (k1 == 1) = false := by simpa using h1
            clear h1
            by_cases hl : lab1 = lab
            · subst hl
              by_cases hv : (val1.toList == val.toList) = true
              · go_wp2_with fail
                go_ret
                exact ⟨ret_bool (by
                  rw [List.any_eq_true.2 ⟨_, List.mem_of_getElem? HX2.out, ?_⟩]
                  rw [HPX.out]
                  simp [*]), HB1.out⟩
              · have hv' : (val1.toList == val.toList) = false := by simpa using hv
                clear hv
                go_wp2_with fail
                go_roundw
                case measure => simp [intOf]; omega
                case rel =>
                  exact ⟨j + 1, by omega, by go_num, any_snocE HX2.out HAN.out (by rw [HPX.out]; simp [*]), HE1.out, HB1.out⟩
            · have hl' : (lab1 == lab) = false := by simpa using hl
              clear hl
              go_wp2_with fail
              go_roundw
              case measure => simp [intOf]; omega
              case rel =>
                exact ⟨j + 1, by omega, by go_num, any_snocE HX2.out HAN.out (by rw [HPX.out]; simp [*]), HE1.out, HB1.out⟩
        · have hky' : (key1.toList == key.toList) = false := by simpa using hky
          clear hky
          go_wp2_with fail
          go_roundw
          case measure => simp [intOf]; omega
          case rel =>
            exact ⟨j + 1, by omega, by go_num, any_snocE HX2.out HAN.out (by rw [HPX.out]; simp [*]), HE1.out, HB1.out⟩
      · have hk' : (k1 == k) = false := by simpa using hk
        clear hk
        go_wp2_with fail
        go_roundw
        case measure => simp [intOf]; omega
        case rel =>
          exact ⟨j + 1, by omega, by go_num, any_snocE HX2.out HAN.out (by rw [HPX.out]; simp [*]), HE1.out, HB1.out⟩
    · have hjn' : j = n := by omega
      subst hjn'
      have hne : ¬ (j : Int) < (j : Int) := by omega
      have e : L.take j = L := List.take_of_length_le (by rw [HL.out]; omega)
      rw [e] at hany
      have HAN := Lib.hid hany
      clear hE hany
      go_wp2_with fail
      go_ret
      exact ⟨ret_bool HAN.out.symm, hbr⟩
theorem few_any (A : Option Addr) (n c : Nat) (w : World) (hnc : n ≤ c) (hn : n ≤ 9223372036854775807) :
    Calls Try.prog 18 #[.slice A n c] w fun r w' => r = .returned (.slice A (min n 30) c) ∧ w = w' := by
  go_enter Try.func18, Try.ntmps18
  go_wp2_with fail
  go_ret
  refine ⟨?_, rfl⟩
  show Ending.returned (Value.slice A (min (n : Int) 30).toNat c) = _
  rw [show (min (n : Int) 30).toNat = min n 30 by omega]
end Go.Proofs.Ytfbpjhhcpockfaa
