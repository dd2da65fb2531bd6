/- book's above: the closure that asks of one event whether it is above another. No condition. -/
import Derived.Test.YtfbpjhhcpockfaaEv
import Derived.Shelf.Abstract
set_option linter.unusedVariables false
set_option linter.unusedSimpArgs false
namespace Go.Proofs.Ytfbpjhhcpockfaa
open Go.RowKit Go.Shelf

/-- What a like has to do with: a function of the program that tells so of two events. -/
structure SoAt (g : Nat) (so : Ev → Ev → Bool) : Prop where
  eg : ∀ args w, (callFunc g args).run Try.prog w = .ok (.enter g args) w
  so : ∀ a b w, Calls Try.prog g #[a.v, b.v] w fun e w' => e = .returned (.bool (so a b)) ∧ Below w.heap.size w w'
theorem so_key : SoAt 43 Ev.sameKey := ⟨enters_of Try.func43 (by kernel_rfl) rfl, sameKey_any⟩
theorem so_label : SoAt 36 Ev.sameLabel := ⟨enters_of Try.func36 (by kernel_rfl) rfl, sameLabel_any⟩
theorem so_value : SoAt 37 Ev.sameValue := ⟨enters_of Try.func37 (by kernel_rfl) rfl, sameValue_any⟩
/-- x is above e. -/
def abv (kind : Int) (so : Ev → Ev → Bool) (e x : Ev) : Bool := (x.kind == kind) && so e x && e.below x

set_option maxHeartbeats 1000000 in
theorem above1_any (kind : Int) (so : Ev → Ev → Bool) (g : Nat) (hg : SoAt g so) (K E : Nat) (e x : Ev) (w : World) (hK : At w K [.int .i64 kind, .func (.func g) #[] #[]]) (hE : At w E e.cells) :
    Calls Try.prog 58 #[x.v, .pointer (some ⟨K, 0, none⟩), .pointer (some ⟨E, 0, none⟩)] w fun r w' => r = .returned (.bool (abv kind so e x)) ∧ Below w.heap.size w w' := by
  have eg := hg.eg
  have HSO := Lib.hid (fun W => hg.so e x W)
  have HB := Lib.hid (fun W => below_any e x W)
  have hd : abv kind so e x = ((x.kind == kind) && so e x && e.below x) := rfl
  rw [hd]
  clear hd hg
  generalize so e x = s at *
  generalize e.below x = t at *
  obtain ⟨r, n, c0, c1, c2, c3, c4, hh, k, key, lab, val⟩ := e
  obtain ⟨r', n', d0, d1, d2, d3, d4, hh', k', key', lab', val'⟩ := x
  unfold Ev.v Ev.cells at *
  (try dsimp only at *)
  have lK := hK.lt
  have lE := hE.lt
  have u0 := hK.cell 0 rfl
  have u1 := hK.cell 1 rfl
  have v0 := hE.cell 0 rfl
  have v1 := hE.cell 1 rfl
  have v2 := hE.cell 2 rfl
  have v3 := hE.cell 3 rfl
  have v4 := hE.cell 4 rfl
  have v5 := hE.cell 5 rfl
  have v6 := hE.cell 6 rfl
  have v7 := hE.cell 7 rfl
  have v8 := hE.cell 8 rfl
  have v9 := hE.cell 9 rfl
  have v10 := hE.cell 10 rfl
  have v11 := hE.cell 11 rfl
  have HK := Lib.hid hK
  have HE := Lib.hid hE
  clear hK hE
  by_cases hk : k' = kind
  · subst hk
    go_enter Try.func58, Try.ntmps58
    go_wp2_with fail
    go_at_fn g
    refine (HSO.out _).mono ?_
    rintro e w1 ⟨rfl, hb⟩
    have hX := (At.new w #[.int .i64 r', .int .i64 n', .int .i64 d0, .int .i64 d1, .int .i64 d2, .int .i64 d3, .int .i64 d4, .int .i64 hh', .int .i64 k', .string key', .int .i64 lab', .string val'] 35).next hb
    have hE1 := (HE.out.alloc _).next hb
    clear v0 v1 v2 v3 v4 v5 v6 v7 v8 v9 v10 v11
    have v0 := hE1.cell 0 rfl
    have v1 := hE1.cell 1 rfl
    have v2 := hE1.cell 2 rfl
    have v3 := hE1.cell 3 rfl
    have v4 := hE1.cell 4 rfl
    have v5 := hE1.cell 5 rfl
    have v6 := hE1.cell 6 rfl
    have v7 := hE1.cell 7 rfl
    have v8 := hE1.cell 8 rfl
    have v9 := hE1.cell 9 rfl
    have v10 := hE1.cell 10 rfl
    have v11 := hE1.cell 11 rfl
    have y0 := hX.cell 0 rfl
    have y1 := hX.cell 1 rfl
    have y2 := hX.cell 2 rfl
    have y3 := hX.cell 3 rfl
    have y4 := hX.cell 4 rfl
    have y5 := hX.cell 5 rfl
    have y6 := hX.cell 6 rfl
    have y7 := hX.cell 7 rfl
    have y8 := hX.cell 8 rfl
    have y9 := hX.cell 9 rfl
    have y10 := hX.cell 10 rfl
    have y11 := hX.cell 11 rfl
    have hB := Lib.hid (((Below.refl w.heap.size w).alloc (Nat.le_refl _) _).trans (hb.mono (by simp)))
    have hz := hb.size
    clear hb hX hE1 HSO
    cases s
    · go_wp2_with fail
      go_ret
      exact ⟨ret_bool (by simp), hB.out⟩
    · go_wp2_with fail
      refine (HB.out _).mono ?_
      rintro e w2 ⟨rfl, hb2⟩
      have hB2 := Lib.hid (below_next hB.out hb2)
      clear hb2
      go_wp2_with fail
      go_ret
      exact ⟨ret_bool (by simp), hB2.out⟩
  · have hk' : (k' == kind) = false := by simpa using hk
    clear hk
    go_enter Try.func58, Try.ntmps58
    go_wp2_with fail
    go_ret
    exact ⟨ret_bool (by simp [hk']), (by (repeat (first | exact Below.refl _ _ | assumption | (refine Below.drew ?_) | (refine below_drewN ?_ _) | (refine Below.alloc ?_ (by first | omega | (simp; done) | (simp; omega)) _) | (refine Below.setCell ?_ (by first | omega | (simp; done) | (simp; omega)) _))))⟩
end Go.Proofs.Ytfbpjhhcpockfaa
