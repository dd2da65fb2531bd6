/- slices.SortedFunc of a map's contacts by key; slices.Sort and slices.Compact of a row of strings. No condition. -/
import Derived.Test.YtfbpjhhcpockfaaCollect
import Derived.Test.YtfbpjhhcpockfaaLaid
import Derived.Sort.OwnSorted
import Derived.Sort.Walk0
import Derived.Sort.LotA
set_option linter.unusedVariables false
set_option linter.unusedSimpArgs false
namespace Go.Proofs.Ytfbpjhhcpockfaa
open Go.RowKit Go.Shelf Go.Maps
variable {pt : Str → Option Nat}

theorem bl_eq (x y : Str) : Op.bytesLess x y = decide (x < y) := Go.Proofs.bytesLess_eq x y
def cmpS (x y : Str) : Int := if x < y then -1 else if y < x then 1 else 0
theorem nanS_any (x : ByteArray) (w : World) : Calls Try.prog 55 #[.string x] w fun e w' => e = .returned (.bool false) ∧ w = w' := by
  go_enter Try.func55, Try.ntmps55
  go_wp2
  go_ret
  exact ⟨ret_bool (by simp), rfl⟩
theorem data_toList (x : ByteArray) : x.toList = x.data.toList := Lib.toList_data x
theorem cmpS_any (x y : ByteArray) (w : World) : Calls Try.prog 32 #[.string x, .string y] w fun e w' => e = .returned (.int .i64 (cmpS x.data.toList y.data.toList)) ∧ w = w' := by
  have d1 := bl_eq x.toList y.toList
  have d2 : (!(Op.bytesLess x.toList y.toList) && !(x.toList == y.toList)) = decide (y.toList < x.toList) := by
    rw [bl_eq]
    by_cases h : x.toList < y.toList
    · have : ¬ y.toList < x.toList := fun h' => List.lt_irrefl _ (List.lt_trans h h')
      simp [h, this]
    · by_cases e : x.toList = y.toList
      · rw [e]; simp [List.lt_irrefl]
      · have : y.toList < x.toList := by
          rcases List.le_iff_lt_or_eq.1 (List.not_lt.1 h) with h1 | h1
          · exact h1
          · exact absurd h1.symm e
        simp [h, e, this]
  have HD := Lib.hid (And.intro d1 d2)
  clear d1 d2
  by_cases h1 : x.toList < y.toList
  · have e1 : Op.bytesLess x.toList y.toList = true := by rw [HD.out.1]; simpa using h1
    have HF := Lib.hid (show cmpS x.data.toList y.data.toList = -1 by rw [← data_toList, ← data_toList]; unfold cmpS; rw [if_pos h1])
    clear h1 HD
    go_enter Try.func32, Try.ntmps32
    go_wp2_with fail
    refine (nanS_any _ _).mono ?_
    rintro e w' ⟨rfl, rfl⟩
    go_wp2_with fail
    refine (nanS_any _ _).mono ?_
    rintro e w' ⟨rfl, rfl⟩
    go_wp2
    go_ret
    exact ⟨ret_int HF.out.symm, rfl⟩
  · have e1 : Op.bytesLess x.toList y.toList = false := by rw [HD.out.1]; simpa using h1
    by_cases h2 : y.toList < x.toList
    · have e2 : (x.toList == y.toList) = false := by
        have := HD.out.2
        rw [e1] at this
        have h3 : decide (y.toList < x.toList) = true := by simpa using h2
        rw [h3] at this
        simpa using this
      have HF := Lib.hid (show cmpS x.data.toList y.data.toList = 1 by rw [← data_toList, ← data_toList]; unfold cmpS; rw [if_neg h1, if_pos h2])
      clear h1 h2 HD
      go_enter Try.func32, Try.ntmps32
      go_wp2_with fail
      refine (nanS_any _ _).mono ?_
      rintro e w' ⟨rfl, rfl⟩
      go_wp2_with fail
      refine (nanS_any _ _).mono ?_
      rintro e w' ⟨rfl, rfl⟩
      go_wp2
      go_ret
      exact ⟨ret_int HF.out.symm, rfl⟩
    · have e2 : (x.toList == y.toList) = true := by
        have := HD.out.2
        rw [e1] at this
        have h3 : decide (y.toList < x.toList) = false := by simpa using h2
        rw [h3] at this
        simpa using this
      have HF := Lib.hid (show cmpS x.data.toList y.data.toList = 0 by rw [← data_toList, ← data_toList]; unfold cmpS; rw [if_neg h1, if_neg h2])
      clear h1 h2 HD
      go_enter Try.func32, Try.ntmps32
      go_wp2_with fail
      refine (nanS_any _ _).mono ?_
      rintro e w' ⟨rfl, rfl⟩
      go_wp2_with fail
      refine (nanS_any _ _).mono ?_
      rintro e w' ⟨rfl, rfl⟩
      go_wp2
      go_ret
      exact ⟨ret_int HF.out.symm, rfl⟩
theorem of1_any (a b : Nat) (x y : ByteArray) (w : World) (ha : w.cell? ⟨a, 0, none⟩ = some (.string x)) (hb : w.cell? ⟨b, 0, none⟩ = some (.string y)) :
    Calls Try.prog 31 #[.pointer (some ⟨a, 0, none⟩), .pointer (some ⟨b, 0, none⟩)] w fun e w' => e = .returned (.int .i64 (cmpS x.data.toList y.data.toList)) ∧ ∃ q, w' = w.drewN q := by
  have HC := Lib.hid (fun W => (cmpS_any x y W).mono (R' := fun e w' => e = .returned (.int .i64 (cmpS x.data.toList y.data.toList)) ∧ w' = W) fun _ _ ⟨h1, h2⟩ => ⟨h1, h2.symm⟩)
  generalize cmpS x.data.toList y.data.toList = r at *
  go_enter Try.func31, Try.ntmps31
  go_wp2_with fail
  go_quiet ((go_at_call 32; exact Calls.quiet_of_same (HC.out _)))
  go_wp2
  go_ret
  exact ⟨rfl, nq, rfl⟩
/-- A key that is there. -/
abbrev Key (pt : Str → Option Nat) := { s : Str // (pt s).isSome = true }
def encK (pt : Str → Option Nat) (x : Key pt) : Value := encP pt x.1
def cmpK (pt : Str → Option Nat) (x y : Key pt) : Int := cmpS x.1 y.1
theorem ltK (x y : Key pt) : ltOf (cmpK pt) x y = decide (x.1 < y.1) := by
  unfold ltOf cmpK cmpS
  by_cases h : x.1 < y.1
  · simp [h]
  · by_cases h2 : y.1 < x.1 <;> simp [h, h2]
theorem swoK : Go.Sort.SWO (ltOf (cmpK pt)) where
  irrefl x := by rw [ltK]; simp [List.lt_irrefl]
  trans x y z h1 h2 := by
    rw [ltK] at *
    simp only [decide_eq_true_eq] at *
    exact List.lt_trans h1 h2
  ntrans x y z h1 h2 := by
    have := Go.Sort.swo_ltStr.ntrans x.1 y.1 z.1
    rw [ltK] at *
    exact this h1 h2
theorem toKeys : ∀ (ss : List Str), (∀ s ∈ ss, (pt s).isSome = true) → ∃ ks : List (Key pt), ks.map (·.1) = ss
  | [], _ => ⟨[], rfl⟩
  | s :: ss, h => by
    obtain ⟨ks, hk⟩ := toKeys ss (fun x hx => h x (by simp [hx]))
    exact ⟨⟨s, h s (by simp)⟩ :: ks, by simp [hk]⟩
section
variable {α : Type} [Inhabited α]
theorem heap_put (enc : α → Value) {w : World} {g n : Nat} {os : Array Obj} {cur : Array Value} {e : TypeId} {fr : Nat × Nat} (d : Array α) (hb : w.heap[g]? = some (.cells cur e fr)) :
    (Go.Sort.grow (Go.Sort.putRow enc (Go.Sort.ahead w n) g 0 d) os).heap[g]? = some (.cells (Go.Sort.putCells enc 0 d cur) e fr) := by
  have hg : g < w.heap.size := (Array.getElem?_eq_some_iff.1 hb).1
  rw [Go.Sort.heap_grow_old _ _ (by simpa using hg)]
  simp [Go.Sort.putRow, Go.Sort.mapBlock, Go.Sort.ahead, Array.getElem?_modify, hb, Go.Sort.onCells]
theorem grown_put (enc : α → Value) {w : World} {g n : Nat} {os : Array Obj} (d : Array α) : w.grownBy (Go.Sort.grow (Go.Sort.putRow enc (Go.Sort.ahead w n) g 0 d) os) (some g) := by
  refine ⟨rfl, rfl, rfl, by simp, fun k hk hne => ?_⟩
  rw [Go.Sort.heap_grow_old _ _ (by simpa using hk)]
  have : g ≠ k := fun e => hne (by rw [e])
  simp [Go.Sort.putRow, Go.Sort.mapBlock, Go.Sort.ahead, Array.getElem?_modify, this]
theorem take_put (enc : α → Value) (cur : Array Value) (ts : List α) (h : ts.length ≤ cur.size) : (Go.Sort.putCells enc 0 ts.toArray cur).toList.take ts.length = ts.map enc := by
  apply List.ext_getElem?
  intro j
  by_cases hj : j < ts.length
  · rw [List.getElem?_take_of_lt hj, Array.getElem?_toList]
    simp [Go.Sort.putCells, hj, show j < cur.size by omega]
  · rw [List.getElem?_take_eq_none (by omega), List.getElem?_eq_none (by simp; omega)]
theorem own_put (enc : α → Value) {w : World} {base g cap n k : Nat} {e : TypeId} {os : Array Obj} {cur : Array Value} {ts : List α} (hl : ts.length = k) (hbase : base ≤ g) (hb : w.heap[g]? = some (.cells cur e (0, 0)))
    (h1 : k ≤ cap) (h2 : cap ≤ maxLen) (h3 : cur.size = cap * 1) :
    (Go.Sort.grow (Go.Sort.putRow enc (Go.Sort.ahead w n) g 0 ts.toArray) os).ownsRow base e 1 (.slice (some ⟨g, 0, none⟩) k cap) k (ts.map enc) :=
  ⟨by simp [hl], .inr ⟨g, cap, _, rfl, hbase, heap_put enc _ hb, h1, h2, by simp [Go.Sort.putCells, h3], by rw [Nat.mul_one, ← hl]; exact take_put enc cur ts (by omega)⟩⟩
theorem holds_of (enc : α → Value) {w : World} {g : Nat} {cur : Array Value} {e : TypeId} {ss : List α} (hb : w.heap[g]? = some (.cells cur e (0, 0))) (ht : cur.toList.take ss.length = ss.map enc) : Go.Sort.Holds enc w g 0 ss.toArray := by
  intro j hj
  have hj' : j < ss.length := by simpa using hj
  refine ⟨?_, by simp [World.frozen?, hb]⟩
  have h1 : (cur.toList.take ss.length)[j]? = (ss.map enc)[j]? := by rw [ht]
  rw [List.getElem?_take_of_lt hj'] at h1
  simp only [World.cell?, hb, Nat.zero_add]
  simp only [Option.isSome_none, Bool.false_eq_true, if_false]
  rw [← Array.getElem?_toList, h1]
  simp [hj']
end
theorem map_encK (ks : List (Key pt)) : ks.map (encK pt) = (ks.map (·.1)).map (encP pt) := by simp [encK]

set_option maxHeartbeats 1000000 in
/-- slices.SortFunc of the pointers, by their contacts' keys. -/
theorem sortPtr_any (base n1 B1 : Nat) (st : Str → CtS) (v : Value) (ss : List Str) (w : World) (hBk : BookAt w B1 n1 0 pt st) (hlow : ∀ s c, pt s = some c → c < base) (hall : All pt ss) (hbig : ss.length ≤ 1000000000) (hO : w.ownsRow base 66 1 v ss.length (ss.map (encP pt))) :
    Calls Try.prog 53 #[v, .func (.func 31) #[] #[]] w fun e w' => e = .returned (.tuple #[]) ∧ ∃ ks : List Str, All pt ks ∧ ks.Pairwise (· < ·) ∧ ks.length = ss.length ∧ w'.ownsRow base 66 1 v ks.length (ks.map (encP pt)) ∧ w.grownBy w' v.ownBlock := by
  cases hss : ss with
  | nil =>
    subst hss
    obtain ⟨A, c, rfl, _, _⟩ := Rd.own hO
    refine (AnyF.slices_SortFunc_none { Try.sortf with } A c (.func (.func 31) #[] #[]) w).mono ?_
    rintro e w' ⟨rfl, rfl⟩
    exact ⟨rfl, [], hall, List.Pairwise.nil, rfl, hO, World.grownBy.refl _ _⟩
  | cons s0 sr =>
    rw [← hss]
    have hs0 : (pt s0).isSome = true := (hall.2 s0).1 (by rw [hss]; simp)
    haveI : Inhabited (Key pt) := ⟨⟨s0, hs0⟩⟩
    obtain ⟨ds, hds⟩ := toKeys ss (fun s hs => (hall.2 s).1 hs)
    have hlen : ds.length = ss.length := by rw [← hds]; simp
    rcases hO.2 with ⟨_, h0⟩ | ⟨g, cap, cur, rfl, hbg, hg, hnc, hcm, hcs, htk⟩
    · rw [hss] at h0; simp at h0
    have hgl : g < w.heap.size := (Array.getElem?_eq_some_iff.1 hg).1
    have hH : Go.Sort.Holds (encK pt) w g 0 ds.toArray := holds_of (encK pt) hg (by rw [map_encK, hds, hlen]; simpa using htk)
    have hcl : ∀ x : Key pt, pb pt x.1 ≠ g ∧ pb pt x.1 < w.heap.size ∧ w.cell? ⟨pb pt x.1, 0, none⟩ = some (.string (ba x.1)) := fun x => by
      obtain ⟨c, hc⟩ := Option.isSome_iff_exists.1 x.2
      have e : pb pt x.1 = c := by unfold pb; rw [hc]; rfl
      rw [e]
      have := hlow _ _ hc
      exact ⟨by omega, hBk.lt hc, (hBk.at_ _ _ hc).2.cell 0 rfl⟩
    have hcmp : CmpLays1 Try.prog 31 #[] (encK pt) (cmpK pt) g 0 ds.toArray.size w := fun m os dk hs x y => by
      have cell : ∀ z : Key pt, (sortWorld (encK pt) w g 0 m dk os).cell? ⟨pb pt z.1, 0, none⟩ = some (.string (ba z.1)) := fun z => by
        obtain ⟨h1, h2, h3⟩ := hcl z
        have hgr := grown_put (encK pt) (w := w) (g := g) (n := m) (os := os) dk
        have := hgr.block (pb pt z.1) h2 (fun e => h1 (by injection e))
        rw [← h3]
        exact World.cell?_of_block (a := ⟨pb pt z.1, 0, none⟩) this
      refine (of1_any (pb pt x.1) (pb pt y.1) (ba x.1) (ba y.1) _ (cell x) (cell y)).mono ?_
      rintro e w' ⟨rfl, q, rfl⟩
      refine ⟨by rw [of_ba, of_ba]; rfl, q, #[], by rw [Go.Sort.grow_empty]⟩
    have hL := Any.slices_SortFunc Try.sortf (encK pt) (fun _ => rfl) (cmpK pt) swoK 31 #[] g 0 cap ds.toArray w (enters_of Try.func31 (by kernel_rfl) rfl) hcmp hH hgl (by simp; omega)
    have hsz : ds.toArray.size = ss.length := by simpa using hlen
    rw [hsz] at hL
    refine Calls.mono hL ?_
    rintro e w' ⟨rfl, d', n, os, hp, hso, rfl⟩
    obtain ⟨hps, _, hpp⟩ := hp
    have hps' : d'.size = ss.length := by rw [hps]; simpa using hlen
    have hperm : d'.toList.Perm ds := by
      have e1 : d'.extract 0 ss.length = d' := by rw [← hps']; exact Array.extract_size
      have e2 : ds.toArray.extract 0 ss.length = ds.toArray := by
        have : ds.toArray.size = ss.length := by simpa using hlen
        rw [← this]
        exact Array.extract_size
      rw [e1, e2] at hpp
      simpa using hpp
    have hkp : (d'.toList.map (·.1)).Perm ss := by rw [← hds]; exact hperm.map _
    have hnd : (d'.toList.map (·.1)).Nodup := hkp.nodup_iff.2 hall.1
    have hlk : (d'.toList.map (·.1)).length = ss.length := by simpa using hps'
    refine ⟨rfl, d'.toList.map (·.1), ⟨hnd, fun s => by rw [hkp.mem_iff]; exact hall.2 s⟩, ?_, hlk, ?_, ?_⟩
    · rw [List.pairwise_iff_getElem]
      intro i j hi hj hij
      have hi' : i < d'.size := by simpa using hi
      have hj' : j < d'.size := by simpa using hj
      have := hso i j (Nat.zero_le _) hij (by omega)
      rw [getElem!_pos d' i hi', getElem!_pos d' j hj', ltK] at this
      have hne : (d'.toList.map (·.1))[i] ≠ (d'.toList.map (·.1))[j] := (List.pairwise_iff_getElem.1 hnd) i j hi hj hij
      simp only [decide_eq_false_iff_not] at this
      rcases List.le_iff_lt_or_eq.1 (List.not_lt.1 this) with h1 | h1
      · simpa using h1
      · exact absurd (by simpa using h1) hne
    · rw [hlk, ← map_encK]
      have := own_put (encK pt) (w := w) (base := base) (g := g) (cap := cap) (n := n) (k := ss.length) (os := os) (ts := d'.toList) (by simpa using hps') hbg hg hnc hcm hcs
      simpa [sortWorld] using this
    · exact grown_put (encK pt) d'
theorem sortedFunc_any (n1 B1 Bm : Nat) (st : Str → CtS) (w : World) (hBk : BookAt w B1 n1 0 pt st) (hlow : ∀ s c, pt s = some c → c < w.heap.size) (hm : w.cell? ⟨Bm, 0, none⟩ = some (.map (some B1))) (hbig : n1 ≤ 1000000000) :
    Calls Try.prog 29 #[.func (.func 54) #[] #[.pointer (some ⟨Bm, 0, none⟩)], .func (.func 31) #[] #[]] w fun e w' =>
      ∃ v ks, e = .returned v ∧ All pt ks ∧ ks.Pairwise (· < ·) ∧ ks.length ≤ n1 ∧ w'.ownsRow w.heap.size 66 1 v ks.length (ks.map (encP pt)) ∧ Below w.heap.size w w' := by
  have HC := Lib.hid (collect_any Bm B1 n1 w hm hBk.map hbig)
  have HB := Lib.hid hBk
  have HLOW := Lib.hid hlow
  clear hBk hlow hm
  go_enter Try.func29, Try.ntmps29
  go_wp2_with fail
  refine HC.out.mono ?_
  rintro e w1 ⟨v, ss, rfl, ⟨hall, hlen⟩, hO, hb⟩
  have HS := Lib.hid ((sortPtr_any w.heap.size n1 B1 st v ss w1 (HB.out.next hb) HLOW.out hall (by omega) hO))
  have HO := Lib.hid (And.intro hO (And.intro hb hall))
  clear hO hb hall
  go_wp2_with fail
  refine HS.out.mono ?_
  rintro e w2 ⟨rfl, ks, h1, h2, h3, h4, h5⟩
  have H := Lib.hid (And.intro h1 (And.intro h2 (And.intro h3 (And.intro h4 h5))))
  clear h1 h2 h3 h4 h5
  go_wp2_with fail
  go_ret
  obtain ⟨h1, h2, h3, h4, h5⟩ := H.out
  refine ⟨_, ks, rfl, h1, h2, by omega, h4, ?_⟩
  have hb := HO.out.2.1
  exact hb.grown h5 hb.size (fun g hg => (HO.out.1.lt g hg).1)
end Go.Proofs.Ytfbpjhhcpockfaa
