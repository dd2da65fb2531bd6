/- A region that draws its order, one of whose operations turns what was there: as Order, but that all others may know whether it has come up. No condition. -/
import Derived.Test.YtfbpjhhcpockfaaOrder
set_option linter.unusedVariables false
set_option linter.unusedSimpArgs false
namespace Go.Proofs.Ytfbpjhhcpockfaa
open Go Go.RowKit
section
variable {P : Program} {l : List Oper} {D : List (List Nat)} {κ : Nat} {G : Bool → World → Prop} {E : Bool → World → World → Prop} {ks : Nat → Kind} {a0 : Act} {Q : Exit → Act → World → Prop} {m : Nat}
/-- What is to be shown of operation j. -/
def OwedK (P : Program) (l : List Oper) (D : List (List Nat)) (κ : Nat) (G : Bool → World → Prop) (E : Bool → World → World → Prop) (ks : Nat → Kind) (a0 : Act) (j : Nat) (o : Oper) : Prop :=
  ∀ b vs w, (j = κ → b = false) → G b w → (∀ i ∈ D.getD j [], (ks i).says vs (vs i) w) →
    if Region.wanted o (yielded l.toArray (frameAt ks vs l a0 j).tmps) = true then gives P o (frameAt ks vs l a0 j) w (fun v w' => (ks j).gets vs v w' ∧ E b w w' ∧ G (b || j == κ) w') else (ks j).gets vs undef w ∧ j ≠ κ

theorem any_orderK (hd : depsOk l D = true) (hlk : looksOk l D = true) (hns : Region.noSelect l.toArray = true) (htl : tailOk l.length m D = true) (hml : m ≤ l.length)
    (hκ : κ < m) (hR : ∀ b w, G b w → E b w w) (hS : ∀ b i vs v w w', (i = κ → b = true) → (ks i).says vs v w → E b w w' → (ks i).says vs v w') (hH : ∀ i, (ks i).hangs (D.getD i []))
    (ob : ∀ j o, j < m → l[j]? = some o → OwedK P l D κ G E ks a0 j o)
    (fin : ∀ vs w fuel, l.length - m ≤ fuel → G true w → (∀ i, i < m → (ks i).says vs (vs i) w) → wpAny P .any l.toArray Q fuel (onFirst l.length m) (frameAt ks vs l a0 m) w) :
    ∀ (fuel : Nat) (on : Array Bool) (vs : Nat → Value) (w : World), on.size = l.length → cnt on m + (l.length - m) ≤ fuel → Closed l on → (∀ i, m ≤ i → on.getD i false = false) → G (on.getD κ false) w → (∀ i, i < m → on.getD i false = true → (ks i).says vs (vs i) w) →
      wpAny P .any l.toArray Q fuel on (fillFrom ks vs (fun i => on.getD i false) l 0 a0) w := by
  intro fuel
  induction fuel with
  | zero =>
    intro on vs w hsz hf hc hm hg hs
    have hz := cnt_zero m (by omega : cnt on m = 0)
    have h := fin vs w 0 (by omega) (by rw [hz κ hκ] at hg; exact hg) fun i hi => hs i hi (hz i hi)
    have e : on = onFirst l.length m := by
      apply Array.ext_getElem?
      intro i
      by_cases hi : i < l.length
      · have h1 : on.getD i false = decide (i < m) := by
          by_cases him : i < m
          · rw [hz i him]; simp [him]
          · rw [hm i (by omega)]; simp [him]
        have h2 : on[i]? = some (on[i]'(by omega)) := Array.getElem?_eq_getElem _
        rw [h2]
        simp [hsz, hi] at h1
        simp [onFirst, hi, h1]
      · rw [Array.getElem?_eq_none (by omega), Array.getElem?_eq_none (by simp [onFirst]; omega)]
    have e2 : fillFrom ks vs (fun i => on.getD i false) l 0 a0 = frameAt ks vs l a0 m := fill_congr l 0 a0 fun i _ hi => by
      refine ⟨?_, fun _ => rfl⟩
      by_cases him : i < m
      · rw [hz i him]; simp [him]
      · rw [hm i (by omega)]; simp [him]
    rw [e2]
    rw [e]
    exact h
  | succ fuel ih =>
    intro on vs w hsz hf hc hm hg hs
    by_cases hcz : cnt on m = 0
    · have hz := cnt_zero m hcz
      have h := fin vs w (fuel + 1) (by omega) (by rw [hz κ hκ] at hg; exact hg) fun i hi => hs i hi (hz i hi)
      have e : on = onFirst l.length m := by
        apply Array.ext_getElem?
        intro i
        by_cases hi : i < l.length
        · have h1 : on.getD i false = decide (i < m) := by
            by_cases him : i < m
            · rw [hz i him]; simp [him]
            · rw [hm i (by omega)]; simp [him]
          have h2 : on[i]? = some (on[i]'(by omega)) := Array.getElem?_eq_getElem _
          rw [h2]
          simp [hsz, hi] at h1
          simp [onFirst, hi, h1]
        · rw [Array.getElem?_eq_none (by omega), Array.getElem?_eq_none (by simp [onFirst]; omega)]
      have e2 : fillFrom ks vs (fun i => on.getD i false) l 0 a0 = frameAt ks vs l a0 m := fill_congr l 0 a0 fun i _ hi => by
        refine ⟨?_, fun _ => rfl⟩
        by_cases him : i < m
        · rw [hz i him]; simp [him]
        · rw [hm i (by omega)]; simp [him]
      rw [e2]
      rw [e]
      exact h
    · obtain ⟨i0, hi0, h00, hmin⟩ := cnt_pos m (by omega : 0 < cnt on m)
      refine ⟨fun hr => ?_, fun j hj => ?_⟩
      · exfalso
        have hmem : i0 ∈ Region.ready .any l.toArray on := by
          rw [mem_ready]
          have hl : l[i0]? = some (l[i0]'(by omega)) := List.getElem?_eq_getElem _
          refine ⟨?_, _, by simp [hl], fun e he hb => hmin _ ((depsOk_spec hd hl).1 e he hb)⟩
          have : i0 < on.size := by omega
          simp [this] at h00 ⊢
          exact h00
        rw [hr] at hmem
        cases hmem
      · obtain ⟨hjun, o, ho, hall⟩ := mem_ready.1 hj
        have hl : l[j]? = some o := by simpa using ho
        have hjl := (List.getElem?_eq_some_iff.1 hl).1
        have hdeps := closed_deps hd hc (j + 1) j o (by omega) hl hall
        have hjf : on.getD j false = false := by
          have : j < on.size := by omega
          simp [this] at hjun ⊢
          exact hjun
        have hjm : j < m := by
          rcases Nat.lt_or_ge j m with h | h
          · exact h
          · exfalso
            have h1 := List.all_eq_true.1 htl j (List.mem_range.2 hjl)
            simp only [Bool.or_eq_true, decide_eq_true_eq] at h1
            have h2 := List.all_eq_true.1 (h1.resolve_left (by omega)) i0 (List.mem_range.2 hi0)
            rw [hdeps i0 (List.contains_iff_mem.1 h2)] at h00
            cases h00
        have hob := ob j o hjm hl (on.getD κ false) vs w (fun e => by rw [← e]; exact hjf) hg fun i hi => by
          have hon := hdeps i hi
          have him : i < m := by
            rcases Nat.lt_or_ge i m with h | h
            · exact h
            · rw [hm i h] at hon; cases hon
          exact hs i him hon
        -- the frame at hand and the frame of the text look alike
        have hal : AlikeAt (o.looksAt l.toArray) (fillFrom ks vs (fun i => on.getD i false) l 0 a0) (frameAt ks vs l a0 j) := by
          refine fill_alike l 0 a0 a0 rfl (fun t _ => rfl) fun i oi t hi hdst ht => ?_
          simp only [Nat.zero_add]
          by_cases hij : i = j
          · subst hij
            rw [hjf]; simp
          · rcases (looksOk_spec hlk hi hl hij hdst).2 ht with ⟨h1, h2⟩ | ⟨h1, h2⟩
            · rw [hdeps i h1]; simp [h2]
            · have : on.getD i false = false := by
                cases hon : on.getD i false
                · rfl
                · have := closed_deps hd hc (i + 1) i oi (by omega) hi (hc i oi hi hon) j h1
                  rw [hjf] at this; cases this
              rw [this]; simp; omega
        have hsel := Region.noSelect_spec hns j o
        have hx := exec_alike (ops := l.toArray) (o := o) (fun cs b => hsel cs b ho) hal
        have hw := wanted_alike (ops := l.toArray) (o := o) hal
        have hcj : Closed l (on.setIfInBounds j true) := by
          intro k ok hk hon e he hb
          rw [getD_set _ _ _ (by omega)] at hon ⊢
          by_cases hej : j = e.on
          · rw [if_pos hej]
          · rw [if_neg hej]
            by_cases hjk : j = k
            · subst hjk
              obtain rfl : ok = o := by rw [hl] at hk; injection hk with h; exact h.symm
              exact hall e he hb
            · rw [if_neg hjk] at hon
              exact hc k ok hk hon e he hb
        have hnext : ∀ v w', (ks j).gets vs v w' → E (on.getD κ false) w w' → G (on.getD κ false || j == κ) w' → wpAny P .any l.toArray Q fuel (on.setIfInBounds j true) ((fillFrom ks vs (fun i => on.getD i false) l 0 a0).put o.dst v) w' := by
          intro v w' hv hE hGn
          have hown : ∀ i, on.getD i false = false → ∀ k ∈ D.getD j [], vs k = (fun i => if i = j then v else vs i) k := by
            intro _ _ k hk
            have : k ≠ j := fun e => by rw [e] at hk; rw [hdeps j hk] at hjf; cases hjf
            (try dsimp only)
            rw [if_neg this]
          have hoff : ∀ i, on.getD i false = true → ∀ k ∈ D.getD i [], vs k = (fun i => if i = j then v else vs i) k := by
            intro i hi k hk
            have : k ≠ j := fun e => by
              rw [e] at hk
              have hil : i < l.length := by
                rcases Nat.lt_or_ge i l.length with h | h
                · exact h
                · rw [Array.getD_eq_getD_getElem?, Array.getElem?_eq_none (by omega)] at hi; cases hi
              rw [closed_deps hd hc (i + 1) i _ (by omega) (List.getElem?_eq_getElem hil) (hc i _ (List.getElem?_eq_getElem hil) hi) j hk] at hjf
              cases hjf
            (try dsimp only)
            rw [if_neg this]
          have hput : (fillFrom ks vs (fun i => on.getD i false) l 0 a0).put o.dst v = fillFrom ks (fun i => if i = j then v else vs i) (fun i => (on.setIfInBounds j true).getD i false) l 0 a0 := by
            have hval : (ks j).val (fun i => if i = j then v else vs i) ((fun i => if i = j then v else vs i) j) = v := by
              dsimp only
              rw [if_pos rfl, ← Kind.val_of (hH j) (hown j hjf) v]
              exact Kind.gets_val hv
            have h3 := fill_on (ks := ks) (vs := vs) (vs' := fun i => if i = j then v else vs i) (on := fun i => on.getD i false) (on' := fun i => (on.setIfInBounds j true).getD i false) l 0 a0 (Nat.zero_le _) (by simpa using hl)
              (fun i oi hi hne t ht => by
                have hij : j ≠ i := by omega
                exact (looksOk_spec hlk hl hi hij ht).1) hjf (by rw [getD_set _ _ _ (by omega), if_pos rfl]) (fun i hi => ⟨by rw [getD_set _ _ _ (by omega), if_neg (Ne.symm hi)], fun hon => by
                (try dsimp only)
                rw [if_neg hi]
                exact Kind.val_of (hH i) (hoff i hon) _⟩)
            rw [h3, hval]
          rw [hput]
          refine ih _ _ w' (by simp [hsz]) (by have := cnt_set (by omega) hjf m hjm; omega) hcj (fun i hi => by rw [getD_set _ _ _ (by omega), if_neg (by omega)]; exact hm i hi) (by
            rw [getD_set _ _ _ (by omega)]
            by_cases ejk : j = κ
            · rw [if_pos ejk]; simpa [ejk] using hGn
            · have ej : (j == κ) = false := by simpa using ejk
              rw [if_neg ejk]; rw [ej, Bool.or_false] at hGn; exact hGn) fun i hi hon => ?_
          by_cases hij : i = j
          · subst hij
            rw [if_pos rfl]
            exact Kind.says_of (hH i) (hown i hjf) _ _ (Kind.gets_says hv)
          · rw [if_neg hij]
            rw [getD_set _ _ _ (by omega), if_neg (Ne.symm hij)] at hon
            exact Kind.says_of (hH i) (hoff i hon) _ _ (hS _ i _ _ _ _ (fun e => by rw [← e]; exact hon) (hs i hi hon) hE)
        unfold wpOp
        simp only [ho]
        rw [hw]
        split
        · rename_i hwt
          rw [if_pos hwt] at hob
          refine .inl ?_
          refine gives_wp (R := fun v w' => (ks j).gets vs v w' ∧ E (on.getD κ false) w w' ∧ G (on.getD κ false || j == κ) w') ?_ fun v w' h => hnext v w' h.1 h.2.1 h.2.2
          unfold gives at hob ⊢
          rw [hx]
          exact hob
        · rename_i hwt
          rw [if_neg hwt] at hob
          have ej : (j == κ) = false := by simpa using hob.2
          exact hnext undef w hob.1 (hR _ w hg) (by rw [ej, Bool.or_false]; exact hg)

def InTurnK (P : Program) (ops : Array Oper) (D : List (List Nat)) (κ : Nat) (G : Bool → World → Prop) (E : Bool → World → World → Prop) (Fin : Facts → ((Nat → Value) → Act) → Prop) : List Oper → Nat → Facts → ((Nat → Value) → Act) → Prop
  | [], _, fs, fr => Fin fs fr
  | o :: l, j, fs, fr =>
    (∃ c : (Nat → Value) → Value, (∀ vs vs' : Nat → Value, (∀ i ∈ D.getD j [], vs i = vs' i) → c vs = c vs') ∧
      (∀ b vs w, (j = κ → b = false) → G b w → Known (D.getD j []) vs w fs → if Region.wanted o (yielded ops (fr vs).tmps) = true then gives P o (fr vs) w (fun v w' => v = c vs ∧ E b w w' ∧ G (b || j == κ) w') else undef = c vs ∧ j ≠ κ) ∧
      InTurnK P ops D κ G E Fin l (j + 1) fs (fun vs => (fr vs).put o.dst (c vs))) ∨
    (∃ Φ : (Nat → Value) → Value → World → Prop, (∀ vs vs' : Nat → Value, (∀ i ∈ D.getD j [], vs i = vs' i) → Φ vs = Φ vs') ∧ (∀ b vs v w w', (j = κ → b = true) → Φ vs v w → E b w w' → Φ vs v w') ∧
      (∀ b vs w, (j = κ → b = false) → G b w → Known (D.getD j []) vs w fs → if Region.wanted o (yielded ops (fr vs).tmps) = true then gives P o (fr vs) w (fun v w' => Φ vs v w' ∧ E b w w' ∧ G (b || j == κ) w') else Φ vs undef w ∧ j ≠ κ) ∧
      InTurnK P ops D κ G E Fin l (j + 1) ((j, Φ) :: fs) (fun vs => (fr vs).put o.dst (vs j)))

/-- What the walk shows. -/
structure ShownK (P : Program) (l : List Oper) (D : List (List Nat)) (κ : Nat) (G : Bool → World → Prop) (E : Bool → World → World → Prop) (a0 : Act) (ks : Nat → Kind) (fs : Facts) (fr : (Nat → Value) → Act) (m : Nat) : Prop where
  owed : ∀ j o, j < m → l[j]? = some o → OwedK P l D κ G E ks a0 j o
  hangs : ∀ j, j < m → (ks j).hangs (D.getD j [])
  keeps : ∀ b j vs v w w', j < m → (j = κ → b = true) → (ks j).says vs v w → E b w w' → (ks j).says vs v w'
  rest : ∀ j, m ≤ j → ks j = .fix fun _ => undef
  facts : ∀ i Φ, (i, Φ) ∈ fs → i < m ∧ ks i = .var Φ
  frame : ∀ vs, fr vs = frameAt ks vs l a0 m

theorem owed_congrK {ks ks' : Nat → Kind} {j : Nat} {o : Oper} (hd : depsOk l D = true) (hj : l[j]? = some o) (h : ∀ i, i ≤ j → ks i = ks' i) (ho : OwedK P l D κ G E ks a0 j o) : OwedK P l D κ G E ks' a0 j o := by
  have hlt : ∀ (n j : Nat) (o : Oper), j < n → l[j]? = some o → ∀ i ∈ D.getD j [], i < j := by
    intro n
    induction n with
    | zero => intro j o hn; omega
    | succ n ih =>
      intro j o hn hj i hi
      obtain ⟨h1, h2⟩ := depsOk_spec hd hj
      obtain ⟨e, he, hb, hx⟩ := h2 i hi
      have hlt := h1 e he hb
      have hjl := (List.getElem?_eq_some_iff.1 hj).1
      rcases hx with rfl | hx
      · exact hlt
      · have := ih e.on _ (by omega) (List.getElem?_eq_getElem (by omega : e.on < l.length)) i hx
        omega
  intro b vs w hb hg hs
  have hfr : frameAt ks' vs l a0 j = frameAt ks vs l a0 j := fill_congr l 0 a0 fun i _ _ => ⟨rfl, fun hi => by rw [h i (by simp at hi; omega)]⟩
  rw [hfr, ← h j (Nat.le_refl _)]
  exact ho b vs w hb hg fun i hi => by rw [h i (by have := hlt (j + 1) j o (by omega) hj i hi; omega)]; exact hs i hi

theorem shown_ofK (hd : depsOk l D = true) (hlk : looksOk l D = true) {Fin : Facts → ((Nat → Value) → Act) → Prop} : ∀ (l1 : List Oper) (j : Nat) (fs : Facts) (fr : (Nat → Value) → Act) (ks : Nat → Kind),
    (∀ i, l1[i]? = (l.take (j + l1.length))[j + i]?) → j + l1.length ≤ l.length → ShownK P l D κ G E a0 ks fs fr j → InTurnK P l.toArray D κ G E Fin l1 j fs fr → ∃ ks' fs' fr', ShownK P l D κ G E a0 ks' fs' fr' (j + l1.length) ∧ Fin fs' fr'
  | [], j, fs, fr, ks, _, _, hs, h => ⟨ks, fs, fr, hs, h⟩
  | o :: l1, j, fs, fr, ks, hl, hle, hs, h => by
    simp only [List.length_cons] at hle
    have hj : l[j]? = some o := by
      have := hl 0
      simp only [List.getElem?_cons_zero, Nat.add_zero] at this
      rw [List.getElem?_take] at this
      split at this
      · exact this.symm
      · cases this
    have hl' : ∀ i, l1[i]? = (l.take (j + 1 + l1.length))[j + 1 + i]? := fun i => by
      have := hl (i + 1)
      simp only [List.getElem?_cons_succ, List.length_cons] at this
      rw [this, show j + (l1.length + 1) = j + 1 + l1.length by omega, show j + (i + 1) = j + 1 + i by omega]
    rw [List.length_cons, show j + (l1.length + 1) = j + 1 + l1.length by omega]
    have key : ∀ (k : Kind) (fs' : Facts) (fr' : (Nat → Value) → Act), k.hangs (D.getD j []) → (∀ b vs v w w', (j = κ → b = true) → k.says vs v w → E b w w' → k.says vs v w') →
        (∀ b vs w, (j = κ → b = false) → G b w → Known (D.getD j []) vs w fs → if Region.wanted o (yielded l.toArray (fr vs).tmps) = true then gives P o (fr vs) w (fun v w' => k.gets vs v w' ∧ E b w w' ∧ G (b || j == κ) w') else k.gets vs undef w ∧ j ≠ κ) →
        (∀ i Φ, (i, Φ) ∈ fs' → (i, Φ) ∈ fs ∨ (i = j ∧ k = .var Φ)) → (∀ vs, fr' vs = (fr vs).put o.dst (k.val vs (vs j))) →
        InTurnK P l.toArray D κ G E Fin l1 (j + 1) fs' fr' → ∃ ks' fs' fr', ShownK P l D κ G E a0 ks' fs' fr' (j + 1 + l1.length) ∧ Fin fs' fr' := by
      intro k fs' fr' hk1 hk2 hob hfs hfr hrest
      refine shown_ofK hd hlk l1 (j + 1) fs' fr' (fun i => if i = j then k else ks i) hl' (by omega) ?_ hrest
      refine ⟨fun i oi hi hoi => ?_, fun i hi => ?_, fun b i vs v w w' hi => ?_, fun i hi => ?_, fun i Φ hm => ?_, fun vs => ?_⟩
      · by_cases hij : i = j
        · subst hij
          obtain rfl : oi = o := by rw [hj] at hoi; injection hoi with h; exact h.symm
          intro b vs w hb hg hsy
          have hf2 : frameAt (fun n => if n = i then k else ks n) vs l a0 i = fr vs := by
            rw [hs.frame vs]
            exact fill_congr l 0 a0 fun n _ _ => ⟨rfl, fun hn => by rw [if_neg (by simp at hn; omega)]⟩
          dsimp only
          rw [hf2, if_pos rfl]
          refine hob b vs w hb hg (known_of fs fun n Φ hm hc => ?_)
          have h1 := hsy n (List.contains_iff_mem.1 hc)
          obtain ⟨h2, h3⟩ := hs.facts n Φ hm
          (try dsimp only at h1)
          rw [if_neg (show ¬ n = i by omega), h3] at h1
          exact h1
        · exact owed_congrK hd hoi (fun n hn => by rw [if_neg (by omega)]) (hs.owed i oi (by omega) hoi)
      · by_cases hij : i = j
        · rw [hij, if_pos rfl]; exact hk1
        · rw [if_neg hij]; exact hs.hangs i (by omega)
      · by_cases hij : i = j
        · rw [hij, if_pos rfl]; exact hk2 b vs v w w'
        · rw [if_neg hij]; exact hs.keeps b i vs v w w' (by omega)
      · rw [if_neg (by omega)]; exact hs.rest i (by omega)
      · rcases hfs i Φ hm with h1 | ⟨h1, h2⟩
        · obtain ⟨h2, h3⟩ := hs.facts i Φ h1
          exact ⟨by omega, by rw [if_neg (by omega)]; exact h3⟩
        · exact ⟨by omega, by rw [if_pos h1]; exact h2⟩
      · rw [hfr vs, frame_succ hlk hj, hs.frame vs]
        (try dsimp only)
        rw [if_pos rfl]
        congr 1
        exact fill_congr l 0 a0 fun n _ _ => ⟨rfl, fun hn => by rw [if_neg (by simp at hn; omega)]⟩
    rcases h with ⟨c, h1, h2, h3⟩ | ⟨Φ, h1, h2, h3, h4⟩
    · exact key (.fix c) fs _ h1 (fun _ _ _ _ _ _ _ _ => trivial) h2 (fun _ _ hm => .inl hm) (fun _ => rfl) h3
    · refine key (.var Φ) _ _ h1 h2 h3 (fun i Ψ hm => ?_) (fun _ => rfl) h4
      rcases List.mem_cons.1 hm with e | hm
      · injection e with e1 e2
        exact .inr ⟨e1, by rw [e2]⟩
      · exact .inl hm

/-- **A region in whatever order.** m: how many operations are walked so; the others (one at most, here) come behind all of them. -/
theorem wp_region_turnK {id : Nat} {w0 : World} (hm : P.follows .mixedOrders = true) (hB : anyOk l m = true) (hκ : κ < m) (hR : ∀ b w, G b w → E b w w) (h0 : G false { w0 with drawn := w0.drawn + 1 })
    (h : InTurnK P l.toArray (depsOf l) κ G E (fun fs fr => ∀ vs w fuel, l.length - m ≤ fuel → G true w → AllKnown vs w fs → wpAny P .any l.toArray Q fuel (onFirst l.length m) (fr vs) w) (l.take m) 0 [] (fun _ => a0)) :
    (Code.region id l.toArray true).wp P Q a0 w0 := by
  simp only [anyOk, Bool.and_eq_true, decide_eq_true_eq] at hB
  obtain ⟨hns, ⟨⟨hd, hlk⟩, htl⟩, hml⟩ := hB
  have hlen : (l.take m).length = m := by simp [hml]
  obtain ⟨ks, fs, fr, hs, hfin⟩ := shown_ofK hd hlk (l.take m) 0 [] (fun _ => a0) (fun _ => .fix fun _ => undef) (fun i => by rw [hlen]; simp) (by rw [hlen]; simpa using hml)
    ⟨fun j o hj => by omega, fun j hj => by omega, fun b j vs v w w' hj => by omega, fun j _ => rfl, fun i Φ hm => by simp at hm, fun vs => by
      unfold frameAt
      have : ∀ (l : List Oper) (k : Nat) (a : Act), fillFrom (fun _ => .fix fun _ => undef) vs (fun i => decide (i < 0)) l k a = a := by
        intro l
        induction l with
        | nil => intro k a; rfl
        | cons o l ih => intro k a; simp only [fillFrom]; rw [if_neg (by simp)]; exact ih _ _
      rw [this]⟩ h
  rw [hlen, Nat.zero_add] at hs
  refine wp_region_any hm ?_
  have hcnt : ∀ k n, cnt (Array.replicate n false) k = k := by
    intro k n
    induction k with
    | zero => rfl
    | succ k ih =>
      unfold cnt
      rw [ih, if_neg]
      rw [Array.getD_eq_getD_getElem?, Array.getElem?_replicate]
      split <;> simp
  have hoff : ∀ i n, (Array.replicate n false).getD i false = false := by
    intro i n
    rw [Array.getD_eq_getD_getElem?, Array.getElem?_replicate]
    split <;> simp
  have H := any_orderK (Q := Q) (a0 := a0) (P := P) hd hlk hns htl hml hκ hR (ks := ks) (fun b i vs v w w' hb h1 h2 => by
      by_cases him : i < m
      · exact hs.keeps b i vs v w w' him hb h1 h2
      · rw [hs.rest i (by omega)]; trivial) (fun i => by
      by_cases him : i < m
      · exact hs.hangs i him
      · rw [hs.rest i (by omega)]; exact fun _ _ _ => rfl) hs.owed
    (fun vs w fuel hf hg hsy => by
      rw [← hs.frame vs]
      exact hfin vs w fuel hf hg (allKnown_of fs fun i Φ hm => by
        obtain ⟨h1, h2⟩ := hs.facts i Φ hm
        have := hsy i h1
        rw [h2] at this
        exact this))
    l.length (Array.replicate l.length false) (fun _ => undef) { w0 with drawn := w0.drawn + 1 } (by simp) (by rw [hcnt]; omega)
    (fun j o _ hon => by rw [hoff] at hon; cases hon) (fun i _ => hoff i _) (by rw [hoff]; exact h0) (fun i _ hon => by rw [hoff] at hon; cases hon)
  have e : fillFrom ks (fun _ => undef) (fun i => (Array.replicate l.length false).getD i false) l 0 a0 = a0 := by
    have : ∀ (l' : List Oper) (k : Nat) (a : Act), fillFrom ks (fun _ => undef) (fun i => (Array.replicate l.length false).getD i false) l' k a = a := by
      intro l'
      induction l' with
      | nil => intro k a; rfl
      | cons o l' ih => intro k a; simp only [fillFrom]; rw [hoff, if_neg (by decide)]; exact ih _ _
    exact this l 0 a0
  rw [e] at H
  simpa using H

def InLineK (P : Program) (ops : Array Oper) (D : List (List Nat)) (κ : Nat) (G : Bool → World → Prop) (E : Bool → World → World → Prop) (T : List Oper → Act → World → Prop) : Nat → List Oper → Nat → Facts → ((Nat → Value) → Act) → Prop
  | 0, l, _, fs, fr => ∀ vs w, G true w → AllKnown vs w fs → T l (fr vs) w
  | _ + 1, [], _, _, _ => False
  | m + 1, o :: l, j, fs, fr =>
    (∃ c : (Nat → Value) → Value, (∀ vs vs' : Nat → Value, (∀ i ∈ D.getD j [], vs i = vs' i) → c vs = c vs') ∧
      (∀ b vs w, (j = κ → b = false) → G b w → Known (D.getD j []) vs w fs → if Region.wanted o (yielded ops (fr vs).tmps) = true then gives P o (fr vs) w (fun v w' => v = c vs ∧ E b w w' ∧ G (b || j == κ) w') else undef = c vs ∧ j ≠ κ) ∧
      InLineK P ops D κ G E T m l (j + 1) fs (fun vs => (fr vs).put o.dst (c vs))) ∨
    (∃ Φ : (Nat → Value) → Value → World → Prop, (∀ vs vs' : Nat → Value, (∀ i ∈ D.getD j [], vs i = vs' i) → Φ vs = Φ vs') ∧ (∀ b vs v w w', (j = κ → b = true) → Φ vs v w → E b w w' → Φ vs v w') ∧
      (∀ b vs w, (j = κ → b = false) → G b w → Known (D.getD j []) vs w fs → if Region.wanted o (yielded ops (fr vs).tmps) = true then gives P o (fr vs) w (fun v w' => Φ vs v w' ∧ E b w w' ∧ G (b || j == κ) w') else Φ vs undef w ∧ j ≠ κ) ∧
      InLineK P ops D κ G E T m l (j + 1) ((j, Φ) :: fs) (fun vs => (fr vs).put o.dst (vs j)))
theorem turn_of_lineK {ops : Array Oper} {T : List Oper → Act → World → Prop} : ∀ (m : Nat) (l' : List Oper) (j : Nat) (fs : Facts) (fr : (Nat → Value) → Act), InLineK P ops D κ G E T m l' j fs fr →
    InTurnK P ops D κ G E (fun fs fr => ∀ vs w, G true w → AllKnown vs w fs → T (l'.drop m) (fr vs) w) (l'.take m) j fs fr
  | 0, l', j, fs, fr, h => h
  | m + 1, [], j, fs, fr, h => h.elim
  | m + 1, p :: l', j, fs, fr, h => by
    rcases h with ⟨c, h1, h2, h3⟩ | ⟨Φ, h1, h2, h3, h4⟩
    · exact .inl ⟨c, h1, h2, turn_of_lineK m l' _ _ _ h3⟩
    · exact .inr ⟨Φ, h1, h2, h3, turn_of_lineK m l' _ _ _ h4⟩

theorem wp_region_line_anyK {id : Nat} {w0 : World} (m : Nat) (hm : P.follows .mixedOrders = true) (hB : lineOk l m = true) (hκ : κ < m) (hR : ∀ b w, G b w → E b w w) (h0 : G false { w0 with drawn := w0.drawn + 1 })
    (h : InLineK P l.toArray (depsOf l) κ G E (wpList P l.toArray Q) m l 0 [] (fun _ => a0)) : (Code.region id l.toArray true).wp P Q a0 w0 := by
  simp only [lineOk, Bool.and_eq_true] at hB
  have hB1 := hB.1
  simp only [anyOk, Bool.and_eq_true, decide_eq_true_eq] at hB1
  obtain ⟨hns, ⟨⟨hd, hlk⟩, htl⟩, hml⟩ := hB1
  refine wp_region_turnK (m := m) hm hB.1 hκ hR h0 ?_
  have mono : ∀ (Fin Fin' : Facts → ((Nat → Value) → Act) → Prop), (∀ fs fr, Fin fs fr → Fin' fs fr) → ∀ (l1 : List Oper) (j : Nat) (fs : Facts) (fr : (Nat → Value) → Act), InTurnK P l.toArray (depsOf l) κ G E Fin l1 j fs fr → InTurnK P l.toArray (depsOf l) κ G E Fin' l1 j fs fr := by
    intro Fin Fin' hF l1
    induction l1 with
    | nil => intro j fs fr h; exact hF _ _ h
    | cons o l1 ih =>
      intro j fs fr h
      rcases h with ⟨c, h1, h2, h3⟩ | ⟨Φ, h1, h2, h3, h4⟩
      · exact .inl ⟨c, h1, h2, ih _ _ _ h3⟩
      · exact .inr ⟨Φ, h1, h2, h3, ih _ _ _ h4⟩
  refine mono _ _ (fun fs fr h vs w fuel hf hg hk => ?_) _ _ _ _ (turn_of_lineK _ _ _ _ _ h)
  exact wpAny_chain hd hns (l.length - m) m _ w fuel (by omega) hB.2 hf (h vs w hg hk)
section
variable {ops : Array Oper} {o : Oper} {l' : List Oper} {j m : Nat} {T : List Oper → Act → World → Prop} {fs : Facts} {fr : (Nat → Value) → Act}
/-- One operation (not the one) whose value is known. -/
theorem lineK_fix {c : (Nat → Value) → Value} (hj : j ≠ κ)
    (now : ∀ b vs w (R : Value → World → Prop), G b w → Known (D.getD j []) vs w fs → (∀ w', E b w w' → G b w' → R (c vs) w') → Region.wanted o (yielded ops (fr vs).tmps) = true ∧ gives P o (fr vs) w R)
    (hangs : ∀ vs vs' : Nat → Value, (∀ i, (D.getD j []).contains i = true → vs i = vs' i) → c vs = c vs')
    (rest : InLineK P ops D κ G E T m l' (j + 1) fs (fun vs => (fr vs).put o.dst (c vs))) : InLineK P ops D κ G E T (m + 1) (o :: l') j fs fr :=
  .inl ⟨c, fun vs vs' h => hangs vs vs' fun i hi => h i (List.contains_iff_mem.1 hi), fun b vs w hb hg hk => by
    have := now b vs w (fun v w' => v = c vs ∧ E b w w' ∧ G (b || j == κ) w') hg hk fun w' he hg' => ⟨rfl, he, by
      have ej : (j == κ) = false := by simpa using hj
      rw [ej, Bool.or_false]; exact hg'⟩
    rw [if_pos this.1]
    exact this.2, rest⟩
/-- The one operation. -/
theorem lineK_one {c : (Nat → Value) → Value} (hj : j = κ)
    (now : ∀ vs w (R : Value → World → Prop), G false w → Known (D.getD j []) vs w fs → (∀ w', E false w w' → G true w' → R (c vs) w') → Region.wanted o (yielded ops (fr vs).tmps) = true ∧ gives P o (fr vs) w R)
    (hangs : ∀ vs vs' : Nat → Value, (∀ i, (D.getD j []).contains i = true → vs i = vs' i) → c vs = c vs')
    (rest : InLineK P ops D κ G E T m l' (j + 1) fs (fun vs => (fr vs).put o.dst (c vs))) : InLineK P ops D κ G E T (m + 1) (o :: l') j fs fr :=
  .inl ⟨c, fun vs vs' h => hangs vs vs' fun i hi => h i (List.contains_iff_mem.1 hi), fun b vs w hb hg hk => by
    have hbf := hb hj
    subst hbf
    have := now vs w (fun v w' => v = c vs ∧ E false w w' ∧ G (false || j == κ) w') hg hk fun w' he hg' => ⟨rfl, he, by simpa [hj] using hg'⟩
    rw [if_pos this.1]
    exact this.2, rest⟩
theorem lineK_last (h : ∀ vs w, G true w → AllKnown vs w fs → T l' (fr vs) w) : InLineK P ops D κ G E T 0 l' j fs fr := h
end
end
end Go.Proofs.Ytfbpjhhcpockfaa
