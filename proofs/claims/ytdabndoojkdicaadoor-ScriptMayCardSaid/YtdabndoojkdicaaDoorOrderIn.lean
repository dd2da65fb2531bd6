/- The rule of text Order inside a round of a loop over a function. No condition. -/
import Derived.Test.YtdabndoojkdicaaDoorOrder
import Derived.OrdersIn
import Derived.TacticsIn
import Derived.RangeFuncCalls
import Derived.OwnWalkIn
set_option linter.unusedVariables false
set_option linter.unusedSimpArgs false
namespace Go.Proofs.YtdabndoojkdicaaDoor
open Go Go.RowKit

section
variable {P : Program}
/-- A fence that holds nobody back. -/
structure Wide (P : Program) (F : Fence) : Prop where
  fn : ∀ f, F.fn f
  depth : F.depth.isSome = false
  calls : ∀ {f : FuncId} {args : Array Value} {w : World} {n : Nat} {R : Ending → World → Prop}, Calls P f args w R → CallsIn F n P f args w R
theorem wide_plain (P : Program) : Wide P Fence.wide := ⟨fun _ => trivial, rfl, fun h => callsIn_wide.2 h⟩
theorem wide_round (P : Program) (r : Nat) : Wide P (Fence.wide.inRound r) := ⟨fun _ => trivial, rfl, fun h => CallsIn.inRound r (callsIn_wide.2 h)⟩
def noDefer (l : List Oper) : Bool := l.all fun o => match o.op with | .defer _ => false | _ => true
theorem noDefer_spec {l : List Oper} (h : noDefer l = true) {i : Nat} {o : Oper} (ho : l[i]? = some o) : ∀ c, o.op ≠ .defer c := by
  intro c e
  have := List.all_eq_true.1 h o (List.mem_of_getElem? ho)
  simp [e] at this
theorem gives_wpIn {F : Fence} (hw : Wide P F) {n : Nat} {o : Oper} {a : Act} {w : World} {R : Value → World → Prop} {K : Act → World → Prop} {Q : Exit → Act → World → Prop} (hd : ∀ c, o.op ≠ .defer c) (h : gives P o a w R) (hk : ∀ v w', R v w' → K (a.put o.dst v) w') : o.wpIn F n P a w K Q := by
  refine ⟨fun _ _ => hw.fn _, ?_⟩
  rw [Oper.semAt_plain F _ o hd]
  unfold gives at h
  generalize (execOp a.eval o).run P w = x at *
  cases x with
  | ok n w' =>
    cases n <;> simp only [Gives] at h <;> simp only [Oper.uponIn]
    case value u => exact hk _ _ h
    case skip => exact hk _ _ h
    case enter f args => exact ⟨fun hx => (by rw [hw.depth] at hx; cases hx), hw.calls (h.mono fun e w'' ⟨u, he, hr⟩ => by subst he; exact hk _ _ hr)⟩
  | halt x w' => simp only [Gives] at h
end

section
variable {P : Program} {l : List Oper} {D : List (List Nat)} {G : World → Prop} {E : World → World → Prop} {ks : Nat → Kind} {a0 : Act} {Q : Exit → Act → World → Prop} {m n : Nat} {F : Fence}
theorem any_orderIn (hwd : Wide P F) (hd : depsOk l D = true) (hlk : looksOk l D = true) (hns : Region.noSelect l.toArray = true) (hnd : noDefer l = true) (htl : tailOk l.length m D = true) (hml : m ≤ l.length)
    (hR : ∀ w, G w → E w w) (hG : ∀ w w', G w → E w w' → G w') (hS : ∀ i vs v w w', (ks i).says vs v w → E w w' → (ks i).says vs v w') (hH : ∀ i, (ks i).hangs (D.getD i []))
    (ob : ∀ j o, j < m → l[j]? = some o → Owed P l D G E ks a0 j o)
    (fin : ∀ vs w fuel, l.length - m ≤ fuel → G w → (∀ i, i < m → (ks i).says vs (vs i) w) → wpAnyIn F n P .any l.toArray Q fuel (onFirst l.length m) (frameAt ks vs l a0 m) w) :
    ∀ (fuel : Nat) (on : Array Bool) (vs : Nat → Value) (w : World), on.size = l.length → cnt on m + (l.length - m) ≤ fuel → Closed l on → (∀ i, m ≤ i → on.getD i false = false) → G w → (∀ i, i < m → on.getD i false = true → (ks i).says vs (vs i) w) →
      wpAnyIn F n P .any l.toArray Q fuel on (fillFrom ks vs (fun i => on.getD i false) l 0 a0) w := by
  intro fuel
  induction fuel with
  | zero =>
    intro on vs w hsz hf hc hm hg hs
    have hz := cnt_zero m (by omega : cnt on m = 0)
    have h := fin vs w 0 (by omega) hg fun i hi => hs i hi (hz i hi)
    have e : on = onFirst l.length m := by
      apply Array.ext_getElem?
      intro i
      by_cases hi : i < l.length
      · have h1 : on.getD i false = decide (i < m) := by
          by_cases him : i < m
          · rw [hz i him]; simp [him]
          · rw [hm i (by omega)]; simp [him]
        have h2 : on[i]? = some (on[i]'(by omega)) := Array.getElem?_eq_getElem _
        rw [h2]
        simp [hsz, hi] at h1
        simp [onFirst, hi, h1]
      · rw [Array.getElem?_eq_none (by omega), Array.getElem?_eq_none (by simp [onFirst]; omega)]
    have e2 : fillFrom ks vs (fun i => on.getD i false) l 0 a0 = frameAt ks vs l a0 m := fill_congr l 0 a0 fun i _ hi => by
      refine ⟨?_, fun _ => rfl⟩
      by_cases him : i < m
      · rw [hz i him]; simp [him]
      · rw [hm i (by omega)]; simp [him]
    rw [e2]
    rw [e]
    exact h
  | succ fuel ih =>
    intro on vs w hsz hf hc hm hg hs
    by_cases hcz : cnt on m = 0
    · have hz := cnt_zero m hcz
      have h := fin vs w (fuel + 1) (by omega) hg fun i hi => hs i hi (hz i hi)
      have e : on = onFirst l.length m := by
        apply Array.ext_getElem?
        intro i
        by_cases hi : i < l.length
        · have h1 : on.getD i false = decide (i < m) := by
            by_cases him : i < m
            · rw [hz i him]; simp [him]
            · rw [hm i (by omega)]; simp [him]
          have h2 : on[i]? = some (on[i]'(by omega)) := Array.getElem?_eq_getElem _
          rw [h2]
          simp [hsz, hi] at h1
          simp [onFirst, hi, h1]
        · rw [Array.getElem?_eq_none (by omega), Array.getElem?_eq_none (by simp [onFirst]; omega)]
      have e2 : fillFrom ks vs (fun i => on.getD i false) l 0 a0 = frameAt ks vs l a0 m := fill_congr l 0 a0 fun i _ hi => by
        refine ⟨?_, fun _ => rfl⟩
        by_cases him : i < m
        · rw [hz i him]; simp [him]
        · rw [hm i (by omega)]; simp [him]
      rw [e2]
      rw [e]
      exact h
    · obtain ⟨i0, hi0, h00, hmin⟩ := cnt_pos m (by omega : 0 < cnt on m)
      refine ⟨fun hr => ?_, fun j hj => ?_⟩
      · exfalso
        have hmem : i0 ∈ Region.ready .any l.toArray on := by
          rw [mem_ready]
          have hl : l[i0]? = some (l[i0]'(by omega)) := List.getElem?_eq_getElem _
          refine ⟨?_, _, by simp [hl], fun e he hb => hmin _ ((depsOk_spec hd hl).1 e he hb)⟩
          have : i0 < on.size := by omega
          simp [this] at h00 ⊢
          exact h00
        rw [hr] at hmem
        cases hmem
      · obtain ⟨hjun, o, ho, hall⟩ := mem_ready.1 hj
        have hl : l[j]? = some o := by simpa using ho
        have hjl := (List.getElem?_eq_some_iff.1 hl).1
        have hdeps := closed_deps hd hc (j + 1) j o (by omega) hl hall
        have hjf : on.getD j false = false := by
          have : j < on.size := by omega
          simp [this] at hjun ⊢
          exact hjun
        have hjm : j < m := by
          rcases Nat.lt_or_ge j m with h | h
          · exact h
          · exfalso
            have h1 := List.all_eq_true.1 htl j (List.mem_range.2 hjl)
            simp only [Bool.or_eq_true, decide_eq_true_eq] at h1
            have h2 := List.all_eq_true.1 (h1.resolve_left (by omega)) i0 (List.mem_range.2 hi0)
            rw [hdeps i0 (List.contains_iff_mem.1 h2)] at h00
            cases h00
        have hob := ob j o hjm hl vs w hg fun i hi => by
          have hon := hdeps i hi
          have him : i < m := by
            rcases Nat.lt_or_ge i m with h | h
            · exact h
            · rw [hm i h] at hon; cases hon
          exact hs i him hon
        -- the frame at hand and the frame of the text look alike
        have hal : AlikeAt (o.looksAt l.toArray) (fillFrom ks vs (fun i => on.getD i false) l 0 a0) (frameAt ks vs l a0 j) := by
          refine fill_alike l 0 a0 a0 rfl (fun t _ => rfl) fun i oi t hi hdst ht => ?_
          simp only [Nat.zero_add]
          by_cases hij : i = j
          · subst hij
            rw [hjf]; simp
          · rcases (looksOk_spec hlk hi hl hij hdst).2 ht with ⟨h1, h2⟩ | ⟨h1, h2⟩
            · rw [hdeps i h1]; simp [h2]
            · have : on.getD i false = false := by
                cases hon : on.getD i false
                · rfl
                · have := closed_deps hd hc (i + 1) i oi (by omega) hi (hc i oi hi hon) j h1
                  rw [hjf] at this; cases this
              rw [this]; simp; omega
        have hsel := Region.noSelect_spec hns j o
        have hx := exec_alike (ops := l.toArray) (o := o) (fun cs b => hsel cs b ho) hal
        have hw := wanted_alike (ops := l.toArray) (o := o) hal
        have hcj : Closed l (on.setIfInBounds j true) := by
          intro k ok hk hon e he hb
          rw [getD_set _ _ _ (by omega)] at hon ⊢
          by_cases hej : j = e.on
          · rw [if_pos hej]
          · rw [if_neg hej]
            by_cases hjk : j = k
            · subst hjk
              obtain rfl : ok = o := by rw [hl] at hk; injection hk with h; exact h.symm
              exact hall e he hb
            · rw [if_neg hjk] at hon
              exact hc k ok hk hon e he hb
        have hnext : ∀ v w', (ks j).gets vs v w' → E w w' → wpAnyIn F n P .any l.toArray Q fuel (on.setIfInBounds j true) ((fillFrom ks vs (fun i => on.getD i false) l 0 a0).put o.dst v) w' := by
          intro v w' hv hE
          have hown : ∀ i, on.getD i false = false → ∀ k ∈ D.getD j [], vs k = (fun i => if i = j then v else vs i) k := by
            intro _ _ k hk
            have : k ≠ j := fun e => by rw [e] at hk; rw [hdeps j hk] at hjf; cases hjf
            (try dsimp only)
            rw [if_neg this]
          have hoff : ∀ i, on.getD i false = true → ∀ k ∈ D.getD i [], vs k = (fun i => if i = j then v else vs i) k := by
            intro i hi k hk
            have : k ≠ j := fun e => by
              rw [e] at hk
              have hil : i < l.length := by
                rcases Nat.lt_or_ge i l.length with h | h
                · exact h
                · rw [Array.getD_eq_getD_getElem?, Array.getElem?_eq_none (by omega)] at hi; cases hi
              rw [closed_deps hd hc (i + 1) i _ (by omega) (List.getElem?_eq_getElem hil) (hc i _ (List.getElem?_eq_getElem hil) hi) j hk] at hjf
              cases hjf
            (try dsimp only)
            rw [if_neg this]
          have hput : (fillFrom ks vs (fun i => on.getD i false) l 0 a0).put o.dst v = fillFrom ks (fun i => if i = j then v else vs i) (fun i => (on.setIfInBounds j true).getD i false) l 0 a0 := by
            have hval : (ks j).val (fun i => if i = j then v else vs i) ((fun i => if i = j then v else vs i) j) = v := by
              dsimp only
              rw [if_pos rfl, ← Kind.val_of (hH j) (hown j hjf) v]
              exact Kind.gets_val hv
            have h3 := fill_on (ks := ks) (vs := vs) (vs' := fun i => if i = j then v else vs i) (on := fun i => on.getD i false) (on' := fun i => (on.setIfInBounds j true).getD i false) l 0 a0 (Nat.zero_le _) (by simpa using hl)
              (fun i oi hi hne t ht => by
                have hij : j ≠ i := by omega
                exact (looksOk_spec hlk hl hi hij ht).1) hjf (by rw [getD_set _ _ _ (by omega), if_pos rfl]) (fun i hi => ⟨by rw [getD_set _ _ _ (by omega), if_neg (Ne.symm hi)], fun hon => by
                (try dsimp only)
                rw [if_neg hi]
                exact Kind.val_of (hH i) (hoff i hon) _⟩)
            rw [h3, hval]
          rw [hput]
          refine ih _ _ w' (by simp [hsz]) (by have := cnt_set (by omega) hjf m hjm; omega) hcj (fun i hi => by rw [getD_set _ _ _ (by omega), if_neg (by omega)]; exact hm i hi) (hG _ _ hg hE) fun i hi hon => ?_
          by_cases hij : i = j
          · subst hij
            rw [if_pos rfl]
            exact Kind.says_of (hH i) (hown i hjf) _ _ (Kind.gets_says hv)
          · rw [if_neg hij]
            rw [getD_set _ _ _ (by omega), if_neg (Ne.symm hij)] at hon
            exact Kind.says_of (hH i) (hoff i hon) _ _ (hS i _ _ _ _ (hs i hi hon) hE)
        unfold wpOpIn
        simp only [ho]
        rw [hw]
        split
        · rename_i hwt
          rw [if_pos hwt] at hob
          refine gives_wpIn hwd (R := fun v w' => (ks j).gets vs v w' ∧ E w w') (noDefer_spec hnd hl) ?_ fun v w' h => hnext v w' h.1 h.2
          unfold gives at hob ⊢
          rw [hx]
          exact hob
        · rename_i hwt
          rw [if_neg hwt] at hob
          exact ⟨fun _ _ => hwd.fn _, hnext undef w hob (hR w hg)⟩
/-- **A region in whatever order.** m: how many operations are walked so; the others (one at most, here) come behind all of them. -/
theorem wpIn_region_turn {id : Nat} {w0 : World} (hwd : Wide P F) (hm : P.follows .mixedOrders = true) (hB : anyOk l m = true) (hnd : noDefer l = true) (hR : ∀ w, G w → E w w) (hG : ∀ w w', G w → E w w' → G w') (h0 : G { w0 with drawn := w0.drawn + 1 })
    (h : InTurn P l.toArray (depsOf l) G E (fun fs fr => ∀ vs w fuel, l.length - m ≤ fuel → G w → AllKnown vs w fs → wpAnyIn F n P .any l.toArray Q fuel (onFirst l.length m) (fr vs) w) (l.take m) 0 [] (fun _ => a0)) :
    (Code.region id l.toArray true).wpIn F n P Q a0 w0 := by
  simp only [anyOk, Bool.and_eq_true, decide_eq_true_eq] at hB
  obtain ⟨hns, ⟨⟨hd, hlk⟩, htl⟩, hml⟩ := hB
  have hlen : (l.take m).length = m := by simp [hml]
  obtain ⟨ks, fs, fr, hs, hfin⟩ := shown_of hd hlk (l.take m) 0 [] (fun _ => a0) (fun _ => .fix fun _ => undef) (fun i => by rw [hlen]; simp) (by rw [hlen]; simpa using hml)
    ⟨fun j o hj => by omega, fun j hj => by omega, fun j vs v w w' hj => by omega, fun j _ => rfl, fun i Φ hm => by simp at hm, fun vs => by
      unfold frameAt
      have : ∀ (l : List Oper) (k : Nat) (a : Act), fillFrom (fun _ => .fix fun _ => undef) vs (fun i => decide (i < 0)) l k a = a := by
        intro l
        induction l with
        | nil => intro k a; rfl
        | cons o l ih => intro k a; simp only [fillFrom]; rw [if_neg (by simp)]; exact ih _ _
      rw [this]⟩ h
  rw [hlen, Nat.zero_add] at hs
  refine wpIn_region_any hm ?_
  have hcnt : ∀ k n, cnt (Array.replicate n false) k = k := by
    intro k n
    induction k with
    | zero => rfl
    | succ k ih =>
      unfold cnt
      rw [ih, if_neg]
      rw [Array.getD_eq_getD_getElem?, Array.getElem?_replicate]
      split <;> simp
  have hoff : ∀ i n, (Array.replicate n false).getD i false = false := by
    intro i n
    rw [Array.getD_eq_getD_getElem?, Array.getElem?_replicate]
    split <;> simp
  have H := any_orderIn (Q := Q) (a0 := a0) (P := P) (F := F) (n := n) hwd hd hlk hns hnd htl hml hR hG (ks := ks) (fun i vs v w w' h1 h2 => by
      by_cases him : i < m
      · exact hs.keeps i vs v w w' him h1 h2
      · rw [hs.rest i (by omega)]; trivial) (fun i => by
      by_cases him : i < m
      · exact hs.hangs i him
      · rw [hs.rest i (by omega)]; exact fun _ _ _ => rfl) hs.owed
    (fun vs w fuel hf hg hsy => by
      rw [← hs.frame vs]
      exact hfin vs w fuel hf hg (allKnown_of fs fun i Φ hm => by
        obtain ⟨h1, h2⟩ := hs.facts i Φ hm
        have := hsy i h1
        rw [h2] at this
        exact this))
    l.length (Array.replicate l.length false) (fun _ => undef) { w0 with drawn := w0.drawn + 1 } (by simp) (by rw [hcnt]; omega)
    (fun j o _ hon => by rw [hoff] at hon; cases hon) (fun i _ => hoff i _) h0 (fun i _ hon => by rw [hoff] at hon; cases hon)
  have e : fillFrom ks (fun _ => undef) (fun i => (Array.replicate l.length false).getD i false) l 0 a0 = a0 := by
    have : ∀ (l' : List Oper) (k : Nat) (a : Act), fillFrom ks (fun _ => undef) (fun i => (Array.replicate l.length false).getD i false) l' k a = a := by
      intro l'
      induction l' with
      | nil => intro k a; rfl
      | cons o l' ih => intro k a; simp only [fillFrom]; rw [hoff, if_neg (by decide)]; exact ih _ _
    exact this l 0 a0
  rw [e] at H
  simpa using H

theorem wpAnyIn_full {fuel : Nat} {a : Act} {w : World} (h : Q .normal a w) : wpAnyIn F n P .any l.toArray Q fuel (onFirst l.length l.length) a w := by
  have hr := ready_full (l := l) l.length (Nat.le_refl _)
  cases fuel with
  | zero => exact ⟨hr, h⟩
  | succ fuel => exact ⟨fun _ => h, fun i hi => by rw [hr] at hi; cases hi⟩
theorem wpAnyIn_chain (hd : depsOk l D = true) (hns : Region.noSelect l.toArray = true) (hnd : noDefer l = true) : ∀ (k m : Nat) (a : Act) (w : World) (fuel : Nat), m + k = l.length → chainOk l.length m D = true → l.length - m ≤ fuel → wpListIn F n P l.toArray Q (l.drop m) a w → wpAnyIn F n P .any l.toArray Q fuel (onFirst l.length m) a w
  | 0, m, a, w, fuel, hk, _, _, h => by
    obtain rfl : m = l.length := by omega
    rw [List.drop_length] at h
    exact wpAnyIn_full h
  | k + 1, m, a, w, fuel, hk, hc, hf, h => by
    have hml : m < l.length := by omega
    have hm : l[m]? = some (l[m]'hml) := List.getElem?_eq_getElem _
    rw [List.drop_eq_getElem_cons hml] at h
    obtain ⟨fuel, rfl⟩ : ∃ f, fuel = f + 1 := ⟨fuel - 1, by omega⟩
    have hc' : chainOk l.length (m + 1) D = true := by
      unfold chainOk at hc ⊢
      rw [List.all_eq_true] at hc ⊢
      intro j hj
      have := hc j hj
      simp only [Bool.or_eq_true, decide_eq_true_eq] at this ⊢
      rcases this with h1 | h1
      · exact .inl (by omega)
      · exact .inr h1
    have hmem : m ∈ Region.ready .any l.toArray (onFirst l.length m) := by
      rw [mem_ready]
      refine ⟨by simp [onFirst, hml], l[m]'hml, by simp [hml], fun e he hb => ?_⟩
      have := (depsOk_spec hd hm).1 e he hb
      simp [onFirst, this, show e.on < l.length by omega]
    refine ⟨fun hr => (by rw [hr] at hmem; cases hmem), fun i hi => ?_⟩
    obtain ⟨hun, oi, hoi, hall⟩ := mem_ready.1 hi
    have hil : i < l.length := by have := (Array.getElem?_eq_some_iff.1 hoi).1; simpa using this
    have hli : l[i]? = some oi := by simpa using hoi
    have hclosed : Closed l (onFirst l.length m) := by
      intro j o hj hon e he hb
      have hjl := (List.getElem?_eq_some_iff.1 hj).1
      have hjm : j < m := by simpa [onFirst, hjl] using hon
      have := (depsOk_spec hd hj).1 e he hb
      simp [onFirst, show e.on < l.length by omega, show e.on < m by omega]
    have hie : i = m := by
      rcases Nat.lt_trichotomy i m with h1 | h1 | h1
      · exfalso; simp [onFirst, hil, h1] at hun
      · exact h1
      · exfalso
        have h2 := List.all_eq_true.1 hc i (List.mem_range.2 hil)
        simp only [Bool.or_eq_true, decide_eq_true_eq] at h2
        have h3 := List.all_eq_true.1 (h2.resolve_left (by omega)) m (List.mem_range.2 h1)
        have h4 := closed_deps hd hclosed (i + 1) i oi (by omega) hli hall m (List.contains_iff_mem.1 h3)
        simp [onFirst, hml] at h4
    subst hie
    obtain rfl : oi = l[i]'hml := by rw [hm] at hli; injection hli with h; exact h.symm
    have hset : (onFirst l.length i).setIfInBounds i true = onFirst l.length (i + 1) := by
      apply Array.ext_getElem?
      intro k
      rw [Array.getElem?_setIfInBounds]
      by_cases hk : i = k
      · subst hk
        rw [if_pos rfl, if_pos (by simp [onFirst, hml])]
        simp [onFirst, hml]
      · rw [if_neg hk]
        by_cases hkl : k < l.length
        · have : (k < i) = (k < i + 1) := by apply propext; omega
          simp [onFirst, hkl, this]
        · rw [Array.getElem?_eq_none (by simp [onFirst]; omega), Array.getElem?_eq_none (by simp [onFirst]; omega)]
    rw [hset]
    have ih := fun a w h => wpAnyIn_chain hd hns hnd k (i + 1) a w fuel (by omega) hc' (by omega) h
    unfold wpOpIn
    simp only [hoi]
    unfold wpListIn at h
    split
    · rename_i hw
      rw [if_pos hw] at h
      exact Oper.wpIn_mono (fun a w h => ih a w h) h
    · rename_i hw
      rw [if_neg hw] at h
      exact ⟨h.1, ih _ _ h.2⟩

theorem wpIn_region_line_any {id : Nat} {w0 : World} (m : Nat) (hwd : Wide P F) (hm : P.follows .mixedOrders = true) (hB : lineOk l m = true) (hnd : noDefer l = true) (hR : ∀ w, G w → E w w) (hG : ∀ w w', G w → E w w' → G w') (h0 : G { w0 with drawn := w0.drawn + 1 })
    (h : InLine P l.toArray (depsOf l) G E (wpListIn F n P l.toArray Q) m l 0 [] (fun _ => a0)) : (Code.region id l.toArray true).wpIn F n P Q a0 w0 := by
  simp only [lineOk, Bool.and_eq_true] at hB
  have hB1 := hB.1
  simp only [anyOk, Bool.and_eq_true, decide_eq_true_eq] at hB1
  obtain ⟨hns, ⟨⟨hd, hlk⟩, htl⟩, hml⟩ := hB1
  refine wpIn_region_turn (m := m) hwd hm hB.1 hnd hR hG h0 ?_
  have mono : ∀ (Fin Fin' : Facts → ((Nat → Value) → Act) → Prop), (∀ fs fr, Fin fs fr → Fin' fs fr) → ∀ (l1 : List Oper) (j : Nat) (fs : Facts) (fr : (Nat → Value) → Act), InTurn P l.toArray (depsOf l) G E Fin l1 j fs fr → InTurn P l.toArray (depsOf l) G E Fin' l1 j fs fr := by
    intro Fin Fin' hF l1
    induction l1 with
    | nil => intro j fs fr h; exact hF _ _ h
    | cons o l1 ih =>
      intro j fs fr h
      rcases h with ⟨c, h1, h2, h3⟩ | ⟨Φ, h1, h2, h3, h4⟩
      · exact .inl ⟨c, h1, h2, ih _ _ _ h3⟩
      · exact .inr ⟨Φ, h1, h2, h3, ih _ _ _ h4⟩
  refine mono _ _ (fun fs fr h vs w fuel hf hg hk => ?_) _ _ _ _ (turn_of_line _ _ _ _ _ h)
  exact wpAnyIn_chain hd hns hnd (l.length - m) m _ w fuel (by omega) hB.2 hf (h vs w hg hk)
/-- **A region in whatever order, of which the first m operations only read and lay new blocks; the others come one behind the other.** -/
theorem wpIn_region_line {id : Nat} {w0 : World} (m : Nat) (hwd : Wide P F) (hm : P.follows .mixedOrders = true) (hB : lineOk l m = true) (hnd : noDefer l = true)
    (h : InLine P l.toArray (depsOf l) (SameOrNew w0) SameOrNew (wpListIn F n P l.toArray Q) m l 0 [] (fun _ => a0)) : (Code.region id l.toArray true).wpIn F n P Q a0 w0 :=
  wpIn_region_line_any (G := SameOrNew w0) (E := SameOrNew) m hwd hm hB hnd (fun w _ => Below.refl _ _) (fun w w' h1 h2 => h1.trans (h2.mono h1.size)) ((Below.refl _ _).drew) h


end
end Go.Proofs.YtdabndoojkdicaaDoor
