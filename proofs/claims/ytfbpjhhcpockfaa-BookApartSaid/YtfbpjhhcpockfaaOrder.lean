/- A region that draws its order, shown operation by operation: what each operation leaves is said once, of whatever world comes up, and holds whatever the order. No condition. -/
import Derived.Orders
import Derived.KernelRfl
import Derived.Lib.QuietBelow
set_option linter.unusedVariables false
set_option linter.unusedSimpArgs false
namespace Go.Proofs.Ytfbpjhhcpockfaa
open Go Go.RowKit

section
variable {P : Program}

/-- Operation o, carried out in the frame a and the world w, leaves a value and a world of which R holds. -/
def Gives (P : Program) (o : Oper) (a : Act) (R : Value → World → Prop) : Result Next → Prop
  | .ok (.value u) w' => R u w'
  | .ok .skip w' => R undef w'
  | .ok (.enter f args) w' => Calls P f args w' fun e w'' => ∃ u, e = .returned u ∧ R u w''
  | _ => False
def gives (P : Program) (o : Oper) (a : Act) (w : World) (R : Value → World → Prop) : Prop := Gives P o a R ((execOp a.eval o).run P w)

theorem gives_wp {o : Oper} {a : Act} {w : World} {R : Value → World → Prop} {K : Act → World → Prop} {Q : Exit → Act → World → Prop} (h : gives P o a w R) (hk : ∀ v w', R v w' → K (a.put o.dst v) w') : o.wp P a w K Q := by
  unfold gives at h
  unfold Oper.wp
  generalize (execOp a.eval o).run P w = r at *
  cases r with
  | ok n w' =>
    cases n <;> simp only [Gives] at h <;> simp only [Oper.upon]
    case value u => exact hk _ _ h
    case skip => exact hk _ _ h
    case enter f args => exact h.mono fun e w'' ⟨u, he, hr⟩ => by subst he; exact hk _ _ hr
  | halt x w' => simp only [Gives] at h

/-- Two frames that an operation can't tell apart. -/
def AlikeAt (T : List Tmp) (a a' : Act) : Prop := ∀ t ∈ T, a.tmps[t]? = a'.tmps[t]?
theorem exec_alike {ops : Array Oper} {o : Oper} (hs : ∀ cs b, o.op ≠ .select cs b) {a a' : Act} (h : AlikeAt (o.looksAt ops) a a') : execOp a.eval o = execOp a'.eval o :=
  execOp_congr o hs fun x hx => by
    cases x with
    | tmp t =>
      have ht := h t (List.mem_append_left _ (List.mem_filterMap.2 ⟨.tmp t, by simpa using hx, rfl⟩))
      simp only [Act.eval, Array.getD_eq_getD_getElem?, ht]
    | _ => rfl
theorem wanted_alike {ops : Array Oper} {o : Oper} {a a' : Act} (h : AlikeAt (o.looksAt ops) a a') : Region.wanted o (yielded ops a.tmps) = Region.wanted o (yielded ops a'.tmps) := by
  unfold Region.wanted
  cases hg : o.guard with
  | none => rfl
  | some gw =>
    obtain ⟨g, want⟩ := gw
    have hy : yielded ops a.tmps g = yielded ops a'.tmps g := by
      unfold yielded
      cases ht : (ops[g]?).bind (·.dst) with
      | none => rfl
      | some t =>
        have := h t (by simp [Oper.looksAt, hg, ht])
        simp [this]
    simp only [hy]

/-- What is known of an operation's slot: a value that is known (of those that are not: vs); or something of which a fact holds that no later step turns. -/
inductive Kind where
  | fix (c : (Nat → Value) → Value)
  | var (Φ : (Nat → Value) → Value → World → Prop)
def Kind.val : Kind → (Nat → Value) → Value → Value
  | .fix c, vs, _ => c vs
  | .var _, _, v => v
def Kind.says : Kind → (Nat → Value) → Value → World → Prop
  | .fix _, _, _, _ => True
  | .var Φ, vs, v, w => Φ vs v w
def Kind.gets : Kind → (Nat → Value) → Value → World → Prop
  | .fix c, vs, v, _ => v = c vs
  | .var Φ, vs, v, w => Φ vs v w
/-- It hangs on these alone. -/
def Kind.hangs (d : List Nat) : Kind → Prop
  | .fix c => ∀ vs vs' : Nat → Value, (∀ i ∈ d, vs i = vs' i) → c vs = c vs'
  | .var Φ => ∀ vs vs' : Nat → Value, (∀ i ∈ d, vs i = vs' i) → Φ vs = Φ vs'
theorem Kind.val_of {k : Kind} {d : List Nat} (h : k.hangs d) {vs vs' : Nat → Value} (hv : ∀ i ∈ d, vs i = vs' i) (v : Value) : k.val vs v = k.val vs' v := by
  cases k with
  | fix c => exact h vs vs' hv
  | var Φ => rfl
theorem Kind.says_of {k : Kind} {d : List Nat} (h : k.hangs d) {vs vs' : Nat → Value} (hv : ∀ i ∈ d, vs i = vs' i) (v : Value) (w : World) : k.says vs v w → k.says vs' v w := by
  cases k with
  | fix c => exact id
  | var Φ => intro g; have := h vs vs' hv; unfold Kind.says at g ⊢; dsimp only at g ⊢; rw [← this]; exact g
theorem Kind.gets_val {k : Kind} {vs : Nat → Value} {v : Value} {w : World} (h : k.gets vs v w) : k.val vs v = v := by
  cases k with
  | fix c => exact Eq.symm h
  | var Φ => rfl
theorem Kind.gets_says {k : Kind} {vs : Nat → Value} {v : Value} {w : World} (h : k.gets vs v w) : k.says vs v w := by
  cases k with
  | fix c => trivial
  | var Φ => exact h

/-- The frame with the slots of those operations that are 'on'. -/
def fillFrom (ks : Nat → Kind) (vs : Nat → Value) (on : Nat → Bool) : List Oper → Nat → Act → Act
  | [], _, a => a
  | o :: l, j, a => fillFrom ks vs on l (j + 1) (if on j then a.put o.dst ((ks j).val vs (vs j)) else a)

theorem fill_put_comm {ks : Nat → Kind} {vs : Nat → Value} {on : Nat → Bool} {d : Option Tmp} {v : Value} : ∀ (l : List Oper) (j : Nat) (a : Act), (∀ o ∈ l, ∀ t, d = some t → o.dst ≠ some t) →
    fillFrom ks vs on l j (a.put d v) = (fillFrom ks vs on l j a).put d v
  | [], _, _, _ => rfl
  | o :: l, j, a, h => by
    have h1 := fun o' ho' => h o' (List.mem_cons_of_mem _ ho')
    simp only [fillFrom]
    by_cases hj : on j = true
    · rw [if_pos hj, if_pos hj, Act.put_comm a v _ (fun t ht => h o (List.mem_cons_self ..) t ht), fill_put_comm l (j + 1) _ h1]
    · rw [if_neg hj, if_neg hj, fill_put_comm l (j + 1) _ h1]
theorem fill_congr {ks ks' : Nat → Kind} {vs vs' : Nat → Value} {on on' : Nat → Bool} : ∀ (l : List Oper) (j : Nat) (a : Act), (∀ i, j ≤ i → i < j + l.length → on i = on' i ∧ (on i = true → (ks i).val vs (vs i) = (ks' i).val vs' (vs' i))) →
    fillFrom ks vs on l j a = fillFrom ks' vs' on' l j a
  | [], _, _, _ => rfl
  | o :: l, j, a, h => by
    simp only [fillFrom]
    have h0 := h j (Nat.le_refl _) (by simp)
    have h1 : ∀ a, fillFrom ks vs on l (j + 1) a = fillFrom ks' vs' on' l (j + 1) a := fun a => fill_congr l (j + 1) a fun i hi hl => h i (by omega) (by simp only [List.length_cons]; omega)
    rw [← h0.1]
    by_cases hj : on j = true
    · rw [if_pos hj, if_pos hj, h0.2 hj, h1]
    · rw [if_neg hj, if_neg hj, h1]
/-- One more is on. -/
theorem fill_on {ks : Nat → Kind} {vs vs' : Nat → Value} {on on' : Nat → Bool} {k : Nat} {o : Oper} : ∀ (l : List Oper) (j : Nat) (a : Act), j ≤ k → l[k - j]? = some o →
    (∀ i oi, l[i]? = some oi → i ≠ k - j → ∀ t, o.dst = some t → oi.dst ≠ some t) → on k = false → on' k = true → (∀ i, i ≠ k → on i = on' i ∧ (on i = true → (ks i).val vs (vs i) = (ks i).val vs' (vs' i))) →
    fillFrom ks vs' on' l j a = (fillFrom ks vs on l j a).put o.dst ((ks k).val vs' (vs' k))
  | [], _, _, _, h, _, _, _, _ => by simp at h
  | p :: l, j, a, hjk, hk, hd, h0, h1, hs => by
    simp only [fillFrom]
    by_cases hj : j = k
    · subst hj
      rw [Nat.sub_self] at hk hd
      obtain rfl : p = o := by simpa using hk
      rw [h0, h1, if_pos rfl, if_neg (by decide), ← fill_put_comm l (j + 1) a fun o' ho' t ht => by
        obtain ⟨i, hi⟩ := List.getElem?_of_mem ho'
        exact hd (i + 1) o' (by simpa using hi) (by omega) t ht]
      refine (fill_congr l (j + 1) _ fun i hi _ => ?_).symm
      exact hs i (by omega)
    · have e : k - j = (k - (j + 1)) + 1 := by omega
      have h2 := hs j hj
      rw [← h2.1]
      have e2 : (if on j = true then a.put p.dst ((ks j).val vs' (vs' j)) else a) = if on j = true then a.put p.dst ((ks j).val vs (vs j)) else a := by
        by_cases ho : on j = true
        · rw [if_pos ho, if_pos ho, h2.2 ho]
        · rw [if_neg ho, if_neg ho]
      rw [e2]
      refine fill_on l (j + 1) _ (by omega) (by rw [e] at hk; simpa using hk) (fun i oi hi hne => hd (i + 1) oi (by simpa using hi) (by omega)) h0 h1 hs
/-- A slot that none that is on writes, and one that both have on. -/
theorem fill_alike {T : List Tmp} {ks : Nat → Kind} {vs : Nat → Value} {on on' : Nat → Bool} : ∀ (l : List Oper) (j : Nat) (a a' : Act), a.tmps.size = a'.tmps.size → AlikeAt T a a' →
    (∀ i o t, l[i]? = some o → o.dst = some t → t ∈ T → on (j + i) = on' (j + i)) → AlikeAt T (fillFrom ks vs on l j a) (fillFrom ks vs on' l j a')
  | [], _, _, _, _, h, _ => h
  | o :: l, j, a, a', hz, h, ht => by
    simp only [fillFrom]
    have hz' : ∀ (b b' : Bool), (if b = true then a.put o.dst ((ks j).val vs (vs j)) else a).tmps.size = (if b' = true then a'.put o.dst ((ks j).val vs (vs j)) else a').tmps.size := by
      intro b b'
      cases b <;> cases b' <;> cases o.dst <;> simp [Act.put, hz]
    refine fill_alike l (j + 1) _ _ (hz' _ _) ?_ fun i o' t hi => by have := ht (i + 1) o' t (by simpa using hi); rwa [show j + 1 + i = j + (i + 1) by omega]
    intro t hT
    by_cases hd : o.dst = some t
    · have := ht 0 o t rfl hd hT
      rw [Nat.add_zero] at this
      rw [← this]
      by_cases hj : on j = true
      · rw [if_pos hj, if_pos hj]
        simp only [Act.put, hd, Array.getElem?_setIfInBounds, hz, if_true]
      · rw [if_neg hj, if_neg hj]; exact h t hT
    · have key : ∀ (b : Bool) (x : Act), (if b = true then x.put o.dst ((ks j).val vs (vs j)) else x).tmps[t]? = x.tmps[t]? := by
        intro b x
        cases b
        · rfl
        · rw [if_pos rfl]
          cases hdd : o.dst with
          | none => rfl
          | some d =>
            have hne : d ≠ t := fun e => hd (by rw [hdd, e])
            simp [Act.put, Array.getElem?_setIfInBounds_ne hne]
      rw [key, key]
      exact h t hT
end
/-! Whom each operation comes behind. -/
def depsFrom : List Oper → List (List Nat) → List (List Nat)
  | [], acc => acc
  | o :: l, acc => depsFrom l (acc ++ [((o.after.toList.filter fun e => Region.binds .any e).flatMap fun e => e.on :: acc.getD e.on []).eraseDups])
def depsOf (l : List Oper) : List (List Nat) := depsFrom l []
def depsOk (l : List Oper) (D : List (List Nat)) : Bool :=
  (List.range l.length).all fun j => match l[j]? with
    | none => true
    | some o => (o.after.all fun e => !Region.binds .any e || decide (e.on < j)) &&
      (D.getD j []).all fun i => o.after.any fun e => Region.binds .any e && (e.on == i || (D.getD e.on []).contains i)
def looksOk (l : List Oper) (D : List (List Nat)) : Bool :=
  (List.range l.length).all fun j => (List.range l.length).all fun i => i == j || match l[j]?, l[i]? with
    | some oj, some oi => (match oi.dst with
      | none => true
      | some d => oj.dst != some d && (!(oj.looksAt l.toArray).contains d || ((D.getD j []).contains i && decide (i < j)) || ((D.getD i []).contains j && decide (j < i))))
    | _, _ => true
def tailOk (n m : Nat) (D : List (List Nat)) : Bool := (List.range n).all fun j => decide (j < m) || (List.range m).all fun i => (D.getD j []).contains i
def anyOk (l : List Oper) (m : Nat) : Bool := Region.noSelect l.toArray && (let D := depsOf l; depsOk l D && looksOk l D && tailOk l.length m D && decide (m ≤ l.length))

theorem depsOk_spec {l : List Oper} {D : List (List Nat)} (h : depsOk l D = true) {j : Nat} {o : Oper} (hj : l[j]? = some o) :
    (∀ e ∈ o.after, Region.binds .any e = true → e.on < j) ∧ ∀ i ∈ D.getD j [], ∃ e ∈ o.after, Region.binds .any e = true ∧ (e.on = i ∨ i ∈ D.getD e.on []) := by
  unfold depsOk at h
  rw [List.all_eq_true] at h
  have h1 := h j (List.mem_range.2 (List.getElem?_eq_some_iff.1 hj).1)
  simp only [hj, Bool.and_eq_true] at h1
  refine ⟨fun e he hb => ?_, fun i hi => ?_⟩
  · have := Array.all_eq_true_iff_forall_mem.1 h1.1 e he
    simpa [hb] using this
  · have := List.all_eq_true.1 h1.2 i hi
    obtain ⟨e, he, hb⟩ := Array.any_eq_true'.1 this
    simp only [Bool.and_eq_true, Bool.or_eq_true, beq_iff_eq, List.contains_iff_mem] at hb
    exact ⟨e, he, hb.1, hb.2⟩
theorem looksOk_spec {l : List Oper} {D : List (List Nat)} (h : looksOk l D = true) {i j : Nat} {oi oj : Oper} (hi : l[i]? = some oi) (hj : l[j]? = some oj) (hne : i ≠ j) {d : Tmp} (hd : oi.dst = some d) :
    oj.dst ≠ some d ∧ (d ∈ oj.looksAt l.toArray → (i ∈ D.getD j [] ∧ i < j) ∨ (j ∈ D.getD i [] ∧ j < i)) := by
  unfold looksOk at h
  rw [List.all_eq_true] at h
  have h1 := List.all_eq_true.1 (h j (List.mem_range.2 (List.getElem?_eq_some_iff.1 hj).1)) i (List.mem_range.2 (List.getElem?_eq_some_iff.1 hi).1)
  simp only [hj, hi, hd, Bool.or_eq_true, Bool.and_eq_true, beq_iff_eq, hne, false_or, bne_iff_ne, ne_eq, Bool.not_eq_true', decide_eq_true_eq, List.contains_iff_mem] at h1
  refine ⟨h1.1, fun hm => ?_⟩
  rcases h1.2 with (h2 | h2) | h2
  · have : (oj.looksAt l.toArray).contains d = true := List.contains_iff_mem.2 hm
    rw [this] at h2; cases h2
  · exact .inl h2
  · exact .inr h2

/-- Whatever has come up, all that it waits for has come up. -/
def Closed (l : List Oper) (on : Array Bool) : Prop := ∀ j o, l[j]? = some o → on.getD j false = true → ∀ e ∈ o.after, Region.binds .any e = true → on.getD e.on false = true
theorem closed_deps {l : List Oper} {D : List (List Nat)} (h : depsOk l D = true) {on : Array Bool} (hc : Closed l on) : ∀ (n j : Nat) (o : Oper), j < n → l[j]? = some o →
    (∀ e ∈ o.after, Region.binds .any e = true → on.getD e.on false = true) → ∀ i ∈ D.getD j [], on.getD i false = true
  | 0, _, _, hn, _, _, _, _ => by omega
  | n + 1, j, o, hn, hj, hall, i, hi => by
    obtain ⟨h1, h2⟩ := depsOk_spec h hj
    obtain ⟨e, he, hb, hx⟩ := h2 i hi
    have hon := hall e he hb
    rcases hx with rfl | hx
    · exact hon
    · have hlt := h1 e he hb
      have hjl := (List.getElem?_eq_some_iff.1 hj).1
      have he' : l[e.on]? = some (l[e.on]'(by omega)) := List.getElem?_eq_getElem _
      exact closed_deps h hc n e.on _ (by omega) he' (hc e.on _ he' hon) i hx

/-- How many of the first m have not come up. -/
def cnt (on : Array Bool) : Nat → Nat
  | 0 => 0
  | m + 1 => cnt on m + if on.getD m false = true then 0 else 1
theorem getD_set (on : Array Bool) (i j : Nat) (hi : i < on.size) : (on.setIfInBounds i true).getD j false = if i = j then true else on.getD j false := by
  by_cases h : i = j
  · subst h; simp [hi]
  · rw [if_neg h, getD_set_ne false h]
theorem cnt_far {on : Array Bool} {i : Nat} (hi : i < on.size) : ∀ m, m ≤ i → cnt (on.setIfInBounds i true) m = cnt on m
  | 0, _ => rfl
  | m + 1, h => by
    unfold cnt
    rw [cnt_far hi m (by omega), getD_set _ _ _ hi, if_neg (show ¬ i = m by omega)]
theorem cnt_set {on : Array Bool} {i : Nat} (hi : i < on.size) (h0 : on.getD i false = false) : ∀ m, i < m → cnt (on.setIfInBounds i true) m + 1 = cnt on m
  | 0, h => by omega
  | m + 1, h => by
    unfold cnt
    rw [getD_set _ _ _ hi]
    by_cases hm : i = m
    · rw [← hm, cnt_far hi i (Nat.le_refl _), if_pos rfl, if_pos rfl, h0, if_neg (by decide)]
    · rw [if_neg hm]
      have := cnt_set hi h0 m (by omega)
      omega
theorem cnt_zero {on : Array Bool} : ∀ m, cnt on m = 0 → ∀ i, i < m → on.getD i false = true
  | 0, _, i, hi => by omega
  | m + 1, h, i, hi => by
    unfold cnt at h
    by_cases hm : on.getD m false = true
    · rw [if_pos hm] at h
      by_cases him : i = m
      · rw [him]; exact hm
      · exact cnt_zero m (by omega) i (by omega)
    · rw [if_neg hm] at h; omega
theorem cnt_pos {on : Array Bool} : ∀ m, 0 < cnt on m → ∃ i, i < m ∧ on.getD i false = false ∧ ∀ j, j < i → on.getD j false = true
  | 0, h => by simp [cnt] at h
  | m + 1, h => by
    by_cases hc : 0 < cnt on m
    · obtain ⟨i, hi, h1, h2⟩ := cnt_pos m hc
      exact ⟨i, by omega, h1, h2⟩
    · have hz := cnt_zero m (by omega : cnt on m = 0)
      unfold cnt at h
      by_cases hm : on.getD m false = true
      · rw [if_pos hm] at h; omega
      · exact ⟨m, by omega, by simpa using hm, hz⟩

def frameAt (ks : Nat → Kind) (vs : Nat → Value) (l : List Oper) (a : Act) (j : Nat) : Act := fillFrom ks vs (fun i => decide (i < j)) l 0 a
def onFirst (n m : Nat) : Array Bool := ((List.range n).map fun i => decide (i < m)).toArray

section
variable {P : Program} {l : List Oper} {D : List (List Nat)} {G : World → Prop} {E : World → World → Prop} {ks : Nat → Kind} {a0 : Act} {Q : Exit → Act → World → Prop} {m : Nat}
/-- What is to be shown of operation j. -/
def Owed (P : Program) (l : List Oper) (D : List (List Nat)) (G : World → Prop) (E : World → World → Prop) (ks : Nat → Kind) (a0 : Act) (j : Nat) (o : Oper) : Prop :=
  ∀ vs w, G w → (∀ i ∈ D.getD j [], (ks i).says vs (vs i) w) →
    if Region.wanted o (yielded l.toArray (frameAt ks vs l a0 j).tmps) = true then gives P o (frameAt ks vs l a0 j) w (fun v w' => (ks j).gets vs v w' ∧ E w w') else (ks j).gets vs undef w

theorem any_order (hd : depsOk l D = true) (hlk : looksOk l D = true) (hns : Region.noSelect l.toArray = true) (htl : tailOk l.length m D = true) (hml : m ≤ l.length)
    (hR : ∀ w, G w → E w w) (hG : ∀ w w', G w → E w w' → G w') (hS : ∀ i vs v w w', (ks i).says vs v w → E w w' → (ks i).says vs v w') (hH : ∀ i, (ks i).hangs (D.getD i []))
    (ob : ∀ j o, j < m → l[j]? = some o → Owed P l D G E ks a0 j o)
    (fin : ∀ vs w fuel, l.length - m ≤ fuel → G w → (∀ i, i < m → (ks i).says vs (vs i) w) → wpAny P .any l.toArray Q fuel (onFirst l.length m) (frameAt ks vs l a0 m) w) :
    ∀ (fuel : Nat) (on : Array Bool) (vs : Nat → Value) (w : World), on.size = l.length → cnt on m + (l.length - m) ≤ fuel → Closed l on → (∀ i, m ≤ i → on.getD i false = false) → G w → (∀ i, i < m → on.getD i false = true → (ks i).says vs (vs i) w) →
      wpAny P .any l.toArray Q fuel on (fillFrom ks vs (fun i => on.getD i false) l 0 a0) w := by
  intro fuel
  induction fuel with
  | zero =>
    intro on vs w hsz hf hc hm hg hs
    have hz := cnt_zero m (by omega : cnt on m = 0)
    have h := fin vs w 0 (by omega) hg fun i hi => hs i hi (hz i hi)
    have e : on = onFirst l.length m := by
      apply Array.ext_getElem?
      intro i
      by_cases hi : i < l.length
      · have h1 : on.getD i false = decide (i < m) := by
          by_cases him : i < m
          · rw [hz i him]; simp [him]
          · rw [hm i (by omega)]; simp [him]
        have h2 : on[i]? = some (on[i]'(by omega)) := Array.getElem?_eq_getElem _
        rw [h2]
        simp [hsz, hi] at h1
        simp [onFirst, hi, h1]
      · rw [Array.getElem?_eq_none (by omega), Array.getElem?_eq_none (by simp [onFirst]; omega)]
    have e2 : fillFrom ks vs (fun i => on.getD i false) l 0 a0 = frameAt ks vs l a0 m := fill_congr l 0 a0 fun i _ hi => by
      refine ⟨?_, fun _ => rfl⟩
      by_cases him : i < m
      · rw [hz i him]; simp [him]
      · rw [hm i (by omega)]; simp [him]
    rw [e2]
    rw [e]
    exact h
  | succ fuel ih =>
    intro on vs w hsz hf hc hm hg hs
    by_cases hcz : cnt on m = 0
    · have hz := cnt_zero m hcz
      have h := fin vs w (fuel + 1) (by omega) hg fun i hi => hs i hi (hz i hi)
      have e : on = onFirst l.length m := by
        apply Array.ext_getElem?
        intro i
        by_cases hi : i < l.length
        · have h1 : on.getD i false = decide (i < m) := by
            by_cases him : i < m
            · rw [hz i him]; simp [him]
            · rw [hm i (by omega)]; simp [him]
          have h2 : on[i]? = some (on[i]'(by omega)) := Array.getElem?_eq_getElem _
          rw [h2]
          simp [hsz, hi] at h1
          simp [onFirst, hi, h1]
        · rw [Array.getElem?_eq_none (by omega), Array.getElem?_eq_none (by simp [onFirst]; omega)]
      have e2 : fillFrom ks vs (fun i => on.getD i false) l 0 a0 = frameAt ks vs l a0 m := fill_congr l 0 a0 fun i _ hi => by
        refine ⟨?_, fun _ => rfl⟩
        by_cases him : i < m
        · rw [hz i him]; simp [him]
        · rw [hm i (by omega)]; simp [him]
      rw [e2]
      rw [e]
      exact h
    · obtain ⟨i0, hi0, h00, hmin⟩ := cnt_pos m (by omega : 0 < cnt on m)
      refine ⟨fun hr => ?_, fun j hj => ?_⟩
      · exfalso
        have hmem : i0 ∈ Region.ready .any l.toArray on := by
          rw [mem_ready]
          have hl : l[i0]? = some (l[i0]'(by omega)) := List.getElem?_eq_getElem _
          refine ⟨?_, _, by simp [hl], fun e he hb => hmin _ ((depsOk_spec hd hl).1 e he hb)⟩
          have : i0 < on.size := by omega
          simp [this] at h00 ⊢
          exact h00
        rw [hr] at hmem
        cases hmem
      · obtain ⟨hjun, o, ho, hall⟩ := mem_ready.1 hj
        have hl : l[j]? = some o := by simpa using ho
        have hjl := (List.getElem?_eq_some_iff.1 hl).1
        have hdeps := closed_deps hd hc (j + 1) j o (by omega) hl hall
        have hjf : on.getD j false = false := by
          have : j < on.size := by omega
          simp [this] at hjun ⊢
          exact hjun
        have hjm : j < m := by
          rcases Nat.lt_or_ge j m with h | h
          · exact h
          · exfalso
            have h1 := List.all_eq_true.1 htl j (List.mem_range.2 hjl)
            simp only [Bool.or_eq_true, decide_eq_true_eq] at h1
            have h2 := List.all_eq_true.1 (h1.resolve_left (by omega)) i0 (List.mem_range.2 hi0)
            rw [hdeps i0 (List.contains_iff_mem.1 h2)] at h00
            cases h00
        have hob := ob j o hjm hl vs w hg fun i hi => by
          have hon := hdeps i hi
          have him : i < m := by
            rcases Nat.lt_or_ge i m with h | h
            · exact h
            · rw [hm i h] at hon; cases hon
          exact hs i him hon
        -- the frame at hand and the frame of the text look alike
        have hal : AlikeAt (o.looksAt l.toArray) (fillFrom ks vs (fun i => on.getD i false) l 0 a0) (frameAt ks vs l a0 j) := by
          refine fill_alike l 0 a0 a0 rfl (fun t _ => rfl) fun i oi t hi hdst ht => ?_
          simp only [Nat.zero_add]
          by_cases hij : i = j
          · subst hij
            rw [hjf]; simp
          · rcases (looksOk_spec hlk hi hl hij hdst).2 ht with ⟨h1, h2⟩ | ⟨h1, h2⟩
            · rw [hdeps i h1]; simp [h2]
            · have : on.getD i false = false := by
                cases hon : on.getD i false
                · rfl
                · have := closed_deps hd hc (i + 1) i oi (by omega) hi (hc i oi hi hon) j h1
                  rw [hjf] at this; cases this
              rw [this]; simp; omega
        have hsel := Region.noSelect_spec hns j o
        have hx := exec_alike (ops := l.toArray) (o := o) (fun cs b => hsel cs b ho) hal
        have hw := wanted_alike (ops := l.toArray) (o := o) hal
        have hcj : Closed l (on.setIfInBounds j true) := by
          intro k ok hk hon e he hb
          rw [getD_set _ _ _ (by omega)] at hon ⊢
          by_cases hej : j = e.on
          · rw [if_pos hej]
          · rw [if_neg hej]
            by_cases hjk : j = k
            · subst hjk
              obtain rfl : ok = o := by rw [hl] at hk; injection hk with h; exact h.symm
              exact hall e he hb
            · rw [if_neg hjk] at hon
              exact hc k ok hk hon e he hb
        have hnext : ∀ v w', (ks j).gets vs v w' → E w w' → wpAny P .any l.toArray Q fuel (on.setIfInBounds j true) ((fillFrom ks vs (fun i => on.getD i false) l 0 a0).put o.dst v) w' := by
          intro v w' hv hE
          have hown : ∀ i, on.getD i false = false → ∀ k ∈ D.getD j [], vs k = (fun i => if i = j then v else vs i) k := by
            intro _ _ k hk
            have : k ≠ j := fun e => by rw [e] at hk; rw [hdeps j hk] at hjf; cases hjf
            (try dsimp only)
            rw [if_neg this]
          have hoff : ∀ i, on.getD i false = true → ∀ k ∈ D.getD i [], vs k = (fun i => if i = j then v else vs i) k := by
            intro i hi k hk
            have : k ≠ j := fun e => by
              rw [e] at hk
              have hil : i < l.length := by
                rcases Nat.lt_or_ge i l.length with h | h
                · exact h
                · rw [Array.getD_eq_getD_getElem?, Array.getElem?_eq_none (by omega)] at hi; cases hi
              rw [closed_deps hd hc (i + 1) i _ (by omega) (List.getElem?_eq_getElem hil) (hc i _ (List.getElem?_eq_getElem hil) hi) j hk] at hjf
              cases hjf
            (try dsimp only)
            rw [if_neg this]
          have hput : (fillFrom ks vs (fun i => on.getD i false) l 0 a0).put o.dst v = fillFrom ks (fun i => if i = j then v else vs i) (fun i => (on.setIfInBounds j true).getD i false) l 0 a0 := by
            have hval : (ks j).val (fun i => if i = j then v else vs i) ((fun i => if i = j then v else vs i) j) = v := by
              dsimp only
              rw [if_pos rfl, ← Kind.val_of (hH j) (hown j hjf) v]
              exact Kind.gets_val hv
            have h3 := fill_on (ks := ks) (vs := vs) (vs' := fun i => if i = j then v else vs i) (on := fun i => on.getD i false) (on' := fun i => (on.setIfInBounds j true).getD i false) l 0 a0 (Nat.zero_le _) (by simpa using hl)
              (fun i oi hi hne t ht => by
                have hij : j ≠ i := by omega
                exact (looksOk_spec hlk hl hi hij ht).1) hjf (by rw [getD_set _ _ _ (by omega), if_pos rfl]) (fun i hi => ⟨by rw [getD_set _ _ _ (by omega), if_neg (Ne.symm hi)], fun hon => by
                (try dsimp only)
                rw [if_neg hi]
                exact Kind.val_of (hH i) (hoff i hon) _⟩)
            rw [h3, hval]
          rw [hput]
          refine ih _ _ w' (by simp [hsz]) (by have := cnt_set (by omega) hjf m hjm; omega) hcj (fun i hi => by rw [getD_set _ _ _ (by omega), if_neg (by omega)]; exact hm i hi) (hG _ _ hg hE) fun i hi hon => ?_
          by_cases hij : i = j
          · subst hij
            rw [if_pos rfl]
            exact Kind.says_of (hH i) (hown i hjf) _ _ (Kind.gets_says hv)
          · rw [if_neg hij]
            rw [getD_set _ _ _ (by omega), if_neg (Ne.symm hij)] at hon
            exact Kind.says_of (hH i) (hoff i hon) _ _ (hS i _ _ _ _ (hs i hi hon) hE)
        unfold wpOp
        simp only [ho]
        rw [hw]
        split
        · rename_i hwt
          rw [if_pos hwt] at hob
          refine .inl ?_
          refine gives_wp (R := fun v w' => (ks j).gets vs v w' ∧ E w w') ?_ fun v w' h => hnext v w' h.1 h.2
          unfold gives at hob ⊢
          rw [hx]
          exact hob
        · rename_i hwt
          rw [if_neg hwt] at hob
          exact hnext undef w hob (hR w hg)

/-! The walk, one operation at a time, in the order of the text. -/
abbrev Facts := List (Nat × ((Nat → Value) → Value → World → Prop))
/-- What is known of the operations that it comes behind. -/
def Known (d : List Nat) (vs : Nat → Value) (w : World) : Facts → Prop
  | [] => True
  | f :: r => (d.contains f.1 = true → f.2 vs (vs f.1) w) ∧ Known d vs w r
def AllKnown (vs : Nat → Value) (w : World) : Facts → Prop
  | [] => True
  | f :: r => f.2 vs (vs f.1) w ∧ AllKnown vs w r
def InTurn (P : Program) (ops : Array Oper) (D : List (List Nat)) (G : World → Prop) (E : World → World → Prop) (Fin : Facts → ((Nat → Value) → Act) → Prop) : List Oper → Nat → Facts → ((Nat → Value) → Act) → Prop
  | [], _, fs, fr => Fin fs fr
  | o :: l, j, fs, fr =>
    (∃ c : (Nat → Value) → Value, (∀ vs vs' : Nat → Value, (∀ i ∈ D.getD j [], vs i = vs' i) → c vs = c vs') ∧
      (∀ vs w, G w → Known (D.getD j []) vs w fs → if Region.wanted o (yielded ops (fr vs).tmps) = true then gives P o (fr vs) w (fun v w' => v = c vs ∧ E w w') else undef = c vs) ∧
      InTurn P ops D G E Fin l (j + 1) fs (fun vs => (fr vs).put o.dst (c vs))) ∨
    (∃ Φ : (Nat → Value) → Value → World → Prop, (∀ vs vs' : Nat → Value, (∀ i ∈ D.getD j [], vs i = vs' i) → Φ vs = Φ vs') ∧ (∀ vs v w w', Φ vs v w → E w w' → Φ vs v w') ∧
      (∀ vs w, G w → Known (D.getD j []) vs w fs → if Region.wanted o (yielded ops (fr vs).tmps) = true then gives P o (fr vs) w (fun v w' => Φ vs v w' ∧ E w w') else Φ vs undef w) ∧
      InTurn P ops D G E Fin l (j + 1) ((j, Φ) :: fs) (fun vs => (fr vs).put o.dst (vs j)))

theorem known_of {d : List Nat} {vs : Nat → Value} {w : World} : ∀ (fs : Facts), (∀ i Φ, (i, Φ) ∈ fs → d.contains i = true → Φ vs (vs i) w) → Known d vs w fs
  | [], _ => trivial
  | f :: r, h => ⟨fun hc => h f.1 f.2 (List.mem_cons_self ..) hc, known_of r fun i Φ hm => h i Φ (List.mem_cons_of_mem _ hm)⟩
theorem allKnown_of {vs : Nat → Value} {w : World} : ∀ (fs : Facts), (∀ i Φ, (i, Φ) ∈ fs → Φ vs (vs i) w) → AllKnown vs w fs
  | [], _ => trivial
  | f :: r, h => ⟨h f.1 f.2 (List.mem_cons_self ..), allKnown_of r fun i Φ hm => h i Φ (List.mem_cons_of_mem _ hm)⟩

theorem frame_succ (hlk : looksOk l D = true) {ks : Nat → Kind} {vs : Nat → Value} {j : Nat} {o : Oper} (hj : l[j]? = some o) : frameAt ks vs l a0 (j + 1) = (frameAt ks vs l a0 j).put o.dst ((ks j).val vs (vs j)) :=
  fill_on l 0 a0 (Nat.zero_le _) (by simpa using hj) (fun i oi hi hne t ht => by
    have hij : j ≠ i := by omega
    exact (looksOk_spec hlk hj hi hij ht).1) (by simp) (by simp) (fun i hi => ⟨by
      by_cases h : i < j
      · simp [h]; omega
      · simp [h]; omega, fun _ => rfl⟩)

/-- What the walk shows. -/
structure Shown (P : Program) (l : List Oper) (D : List (List Nat)) (G : World → Prop) (E : World → World → Prop) (a0 : Act) (ks : Nat → Kind) (fs : Facts) (fr : (Nat → Value) → Act) (m : Nat) : Prop where
  owed : ∀ j o, j < m → l[j]? = some o → Owed P l D G E ks a0 j o
  hangs : ∀ j, j < m → (ks j).hangs (D.getD j [])
  keeps : ∀ j vs v w w', j < m → (ks j).says vs v w → E w w' → (ks j).says vs v w'
  rest : ∀ j, m ≤ j → ks j = .fix fun _ => undef
  facts : ∀ i Φ, (i, Φ) ∈ fs → i < m ∧ ks i = .var Φ
  frame : ∀ vs, fr vs = frameAt ks vs l a0 m

theorem owed_congr {ks ks' : Nat → Kind} {j : Nat} {o : Oper} (hd : depsOk l D = true) (hj : l[j]? = some o) (h : ∀ i, i ≤ j → ks i = ks' i) (ho : Owed P l D G E ks a0 j o) : Owed P l D G E ks' a0 j o := by
  have hlt : ∀ (n j : Nat) (o : Oper), j < n → l[j]? = some o → ∀ i ∈ D.getD j [], i < j := by
    intro n
    induction n with
    | zero => intro j o hn; omega
    | succ n ih =>
      intro j o hn hj i hi
      obtain ⟨h1, h2⟩ := depsOk_spec hd hj
      obtain ⟨e, he, hb, hx⟩ := h2 i hi
      have hlt := h1 e he hb
      have hjl := (List.getElem?_eq_some_iff.1 hj).1
      rcases hx with rfl | hx
      · exact hlt
      · have := ih e.on _ (by omega) (List.getElem?_eq_getElem (by omega : e.on < l.length)) i hx
        omega
  intro vs w hg hs
  have hfr : frameAt ks' vs l a0 j = frameAt ks vs l a0 j := fill_congr l 0 a0 fun i _ _ => ⟨rfl, fun hi => by rw [h i (by simp at hi; omega)]⟩
  rw [hfr, ← h j (Nat.le_refl _)]
  exact ho vs w hg fun i hi => by rw [h i (by have := hlt (j + 1) j o (by omega) hj i hi; omega)]; exact hs i hi

theorem shown_of (hd : depsOk l D = true) (hlk : looksOk l D = true) {Fin : Facts → ((Nat → Value) → Act) → Prop} : ∀ (l1 : List Oper) (j : Nat) (fs : Facts) (fr : (Nat → Value) → Act) (ks : Nat → Kind),
    (∀ i, l1[i]? = (l.take (j + l1.length))[j + i]?) → j + l1.length ≤ l.length → Shown P l D G E a0 ks fs fr j → InTurn P l.toArray D G E Fin l1 j fs fr → ∃ ks' fs' fr', Shown P l D G E a0 ks' fs' fr' (j + l1.length) ∧ Fin fs' fr'
  | [], j, fs, fr, ks, _, _, hs, h => ⟨ks, fs, fr, hs, h⟩
  | o :: l1, j, fs, fr, ks, hl, hle, hs, h => by
    simp only [List.length_cons] at hle
    have hj : l[j]? = some o := by
      have := hl 0
      simp only [List.getElem?_cons_zero, Nat.add_zero] at this
      rw [List.getElem?_take] at this
      split at this
      · exact this.symm
      · cases this
    have hl' : ∀ i, l1[i]? = (l.take (j + 1 + l1.length))[j + 1 + i]? := fun i => by
      have := hl (i + 1)
      simp only [List.getElem?_cons_succ, List.length_cons] at this
      rw [this, show j + (l1.length + 1) = j + 1 + l1.length by omega, show j + (i + 1) = j + 1 + i by omega]
    rw [List.length_cons, show j + (l1.length + 1) = j + 1 + l1.length by omega]
    have key : ∀ (k : Kind) (fs' : Facts) (fr' : (Nat → Value) → Act), k.hangs (D.getD j []) → (∀ vs v w w', k.says vs v w → E w w' → k.says vs v w') →
        (∀ vs w, G w → Known (D.getD j []) vs w fs → if Region.wanted o (yielded l.toArray (fr vs).tmps) = true then gives P o (fr vs) w (fun v w' => k.gets vs v w' ∧ E w w') else k.gets vs undef w) →
        (∀ i Φ, (i, Φ) ∈ fs' → (i, Φ) ∈ fs ∨ (i = j ∧ k = .var Φ)) → (∀ vs, fr' vs = (fr vs).put o.dst (k.val vs (vs j))) →
        InTurn P l.toArray D G E Fin l1 (j + 1) fs' fr' → ∃ ks' fs' fr', Shown P l D G E a0 ks' fs' fr' (j + 1 + l1.length) ∧ Fin fs' fr' := by
      intro k fs' fr' hk1 hk2 hob hfs hfr hrest
      refine shown_of hd hlk l1 (j + 1) fs' fr' (fun i => if i = j then k else ks i) hl' (by omega) ?_ hrest
      refine ⟨fun i oi hi hoi => ?_, fun i hi => ?_, fun i vs v w w' hi => ?_, fun i hi => ?_, fun i Φ hm => ?_, fun vs => ?_⟩
      · by_cases hij : i = j
        · subst hij
          obtain rfl : oi = o := by rw [hj] at hoi; injection hoi with h; exact h.symm
          intro vs w hg hsy
          have hf2 : frameAt (fun n => if n = i then k else ks n) vs l a0 i = fr vs := by
            rw [hs.frame vs]
            exact fill_congr l 0 a0 fun n _ _ => ⟨rfl, fun hn => by rw [if_neg (by simp at hn; omega)]⟩
          dsimp only
          rw [hf2, if_pos rfl]
          refine hob vs w hg (known_of fs fun n Φ hm hc => ?_)
          have h1 := hsy n (List.contains_iff_mem.1 hc)
          obtain ⟨h2, h3⟩ := hs.facts n Φ hm
          (try dsimp only at h1)
          rw [if_neg (show ¬ n = i by omega), h3] at h1
          exact h1
        · exact owed_congr hd hoi (fun n hn => by rw [if_neg (by omega)]) (hs.owed i oi (by omega) hoi)
      · by_cases hij : i = j
        · rw [hij, if_pos rfl]; exact hk1
        · rw [if_neg hij]; exact hs.hangs i (by omega)
      · by_cases hij : i = j
        · rw [hij, if_pos rfl]; exact hk2 vs v w w'
        · rw [if_neg hij]; exact hs.keeps i vs v w w' (by omega)
      · rw [if_neg (by omega)]; exact hs.rest i (by omega)
      · rcases hfs i Φ hm with h1 | ⟨h1, h2⟩
        · obtain ⟨h2, h3⟩ := hs.facts i Φ h1
          exact ⟨by omega, by rw [if_neg (by omega)]; exact h3⟩
        · exact ⟨by omega, by rw [if_pos h1]; exact h2⟩
      · rw [hfr vs, frame_succ hlk hj, hs.frame vs]
        (try dsimp only)
        rw [if_pos rfl]
        congr 1
        exact fill_congr l 0 a0 fun n _ _ => ⟨rfl, fun hn => by rw [if_neg (by simp at hn; omega)]⟩
    rcases h with ⟨c, h1, h2, h3⟩ | ⟨Φ, h1, h2, h3, h4⟩
    · exact key (.fix c) fs _ h1 (fun _ _ _ _ _ _ => trivial) h2 (fun _ _ hm => .inl hm) (fun _ => rfl) h3
    · refine key (.var Φ) _ _ h1 h2 h3 (fun i Ψ hm => ?_) (fun _ => rfl) h4
      rcases List.mem_cons.1 hm with e | hm
      · injection e with e1 e2
        exact .inr ⟨e1, by rw [e2]⟩
      · exact .inl hm

/-- **A region in whatever order.** m: how many operations are walked so; the others (one at most, here) come behind all of them. -/
theorem wp_region_turn {id : Nat} {w0 : World} (hm : P.follows .mixedOrders = true) (hB : anyOk l m = true) (hR : ∀ w, G w → E w w) (hG : ∀ w w', G w → E w w' → G w') (h0 : G { w0 with drawn := w0.drawn + 1 })
    (h : InTurn P l.toArray (depsOf l) G E (fun fs fr => ∀ vs w fuel, l.length - m ≤ fuel → G w → AllKnown vs w fs → wpAny P .any l.toArray Q fuel (onFirst l.length m) (fr vs) w) (l.take m) 0 [] (fun _ => a0)) :
    (Code.region id l.toArray true).wp P Q a0 w0 := by
  simp only [anyOk, Bool.and_eq_true, decide_eq_true_eq] at hB
  obtain ⟨hns, ⟨⟨hd, hlk⟩, htl⟩, hml⟩ := hB
  have hlen : (l.take m).length = m := by simp [hml]
  obtain ⟨ks, fs, fr, hs, hfin⟩ := shown_of hd hlk (l.take m) 0 [] (fun _ => a0) (fun _ => .fix fun _ => undef) (fun i => by rw [hlen]; simp) (by rw [hlen]; simpa using hml)
    ⟨fun j o hj => by omega, fun j hj => by omega, fun j vs v w w' hj => by omega, fun j _ => rfl, fun i Φ hm => by simp at hm, fun vs => by
      unfold frameAt
      have : ∀ (l : List Oper) (k : Nat) (a : Act), fillFrom (fun _ => .fix fun _ => undef) vs (fun i => decide (i < 0)) l k a = a := by
        intro l
        induction l with
        | nil => intro k a; rfl
        | cons o l ih => intro k a; simp only [fillFrom]; rw [if_neg (by simp)]; exact ih _ _
      rw [this]⟩ h
  rw [hlen, Nat.zero_add] at hs
  refine wp_region_any hm ?_
  have hcnt : ∀ k n, cnt (Array.replicate n false) k = k := by
    intro k n
    induction k with
    | zero => rfl
    | succ k ih =>
      unfold cnt
      rw [ih, if_neg]
      rw [Array.getD_eq_getD_getElem?, Array.getElem?_replicate]
      split <;> simp
  have hoff : ∀ i n, (Array.replicate n false).getD i false = false := by
    intro i n
    rw [Array.getD_eq_getD_getElem?, Array.getElem?_replicate]
    split <;> simp
  have H := any_order (Q := Q) (a0 := a0) (P := P) hd hlk hns htl hml hR hG (ks := ks) (fun i vs v w w' h1 h2 => by
      by_cases him : i < m
      · exact hs.keeps i vs v w w' him h1 h2
      · rw [hs.rest i (by omega)]; trivial) (fun i => by
      by_cases him : i < m
      · exact hs.hangs i him
      · rw [hs.rest i (by omega)]; exact fun _ _ _ => rfl) hs.owed
    (fun vs w fuel hf hg hsy => by
      rw [← hs.frame vs]
      exact hfin vs w fuel hf hg (allKnown_of fs fun i Φ hm => by
        obtain ⟨h1, h2⟩ := hs.facts i Φ hm
        have := hsy i h1
        rw [h2] at this
        exact this))
    l.length (Array.replicate l.length false) (fun _ => undef) { w0 with drawn := w0.drawn + 1 } (by simp) (by rw [hcnt]; omega)
    (fun j o _ hon => by rw [hoff] at hon; cases hon) (fun i _ => hoff i _) h0 (fun i _ hon => by rw [hoff] at hon; cases hon)
  have e : fillFrom ks (fun _ => undef) (fun i => (Array.replicate l.length false).getD i false) l 0 a0 = a0 := by
    have : ∀ (l' : List Oper) (k : Nat) (a : Act), fillFrom ks (fun _ => undef) (fun i => (Array.replicate l.length false).getD i false) l' k a = a := by
      intro l'
      induction l' with
      | nil => intro k a; rfl
      | cons o l' ih => intro k a; simp only [fillFrom]; rw [hoff, if_neg (by decide)]; exact ih _ _
    exact this l 0 a0
  rw [e] at H
  simpa using H

theorem ready_full (n : Nat) (hn : l.length ≤ n) : Region.ready .any l.toArray (onFirst n n) = [] := by
  apply List.eq_nil_iff_forall_not_mem.2
  intro i hi
  obtain ⟨h1, o, ho, _⟩ := mem_ready.1 hi
  have hil := (Array.getElem?_eq_some_iff.1 ho).1
  have h2 : i < n := by simp at hil; omega
  simp [onFirst, h2] at h1
theorem wpAny_full {fuel : Nat} {a : Act} {w : World} (h : Q .normal a w) : wpAny P .any l.toArray Q fuel (onFirst l.length l.length) a w := by
  have hr := ready_full (l := l) l.length (Nat.le_refl _)
  cases fuel with
  | zero => exact ⟨hr, h⟩
  | succ fuel => exact ⟨fun _ => h, fun i hi => by rw [hr] at hi; cases hi⟩
/-- .. all of them. -/
theorem wp_region_turns {id : Nat} {w0 : World} (hm : P.follows .mixedOrders = true) (hB : anyOk l l.length = true) (hR : ∀ w, G w → E w w) (hG : ∀ w w', G w → E w w' → G w') (h0 : G { w0 with drawn := w0.drawn + 1 })
    (h : InTurn P l.toArray (depsOf l) G E (fun fs fr => ∀ vs w, G w → AllKnown vs w fs → Q .normal (fr vs) w) l 0 [] (fun _ => a0)) :
    (Code.region id l.toArray true).wp P Q a0 w0 := by
  refine wp_region_turn (m := l.length) hm hB hR hG h0 ?_
  rw [List.take_length]
  have mono : ∀ (Fin Fin' : Facts → ((Nat → Value) → Act) → Prop), (∀ fs fr, Fin fs fr → Fin' fs fr) → ∀ (l1 : List Oper) (j : Nat) (fs : Facts) (fr : (Nat → Value) → Act), InTurn P l.toArray (depsOf l) G E Fin l1 j fs fr → InTurn P l.toArray (depsOf l) G E Fin' l1 j fs fr := by
    intro Fin Fin' hF l1
    induction l1 with
    | nil => intro j fs fr h; exact hF _ _ h
    | cons o l1 ih =>
      intro j fs fr h
      rcases h with ⟨c, h1, h2, h3⟩ | ⟨Φ, h1, h2, h3, h4⟩
      · exact .inl ⟨c, h1, h2, ih _ _ _ h3⟩
      · exact .inr ⟨Φ, h1, h2, h3, ih _ _ _ h4⟩
  exact mono _ _ (fun fs fr h vs w fuel _ hg hk => wpAny_full (h vs w hg hk)) _ _ _ _ h
/-- .. all but the last one, which comes behind them all, and does what it may. -/
theorem wp_region_turns_last {id : Nat} {w0 : World} {l1 : List Oper} {o : Oper} (hl : l = l1 ++ [o]) (hm : P.follows .mixedOrders = true) (hB : anyOk l l1.length = true) (hR : ∀ w, G w → E w w) (hG : ∀ w w', G w → E w w' → G w') (h0 : G { w0 with drawn := w0.drawn + 1 })
    (h : InTurn P l.toArray (depsOf l) G E (fun fs fr => ∀ vs w, G w → AllKnown vs w fs → if Region.wanted o (yielded l.toArray (fr vs).tmps) = true then o.wp P (fr vs) w (fun a' w' => Q .normal a' w') Q else Q .normal ((fr vs).put o.dst undef) w) l1 0 [] (fun _ => a0)) :
    (Code.region id l.toArray true).wp P Q a0 w0 := by
  refine wp_region_turn (m := l1.length) hm hB hR hG h0 ?_
  rw [show l.take l1.length = l1 by rw [hl]; simp]
  have mono : ∀ (Fin Fin' : Facts → ((Nat → Value) → Act) → Prop), (∀ fs fr, Fin fs fr → Fin' fs fr) → ∀ (l1 : List Oper) (j : Nat) (fs : Facts) (fr : (Nat → Value) → Act), InTurn P l.toArray (depsOf l) G E Fin l1 j fs fr → InTurn P l.toArray (depsOf l) G E Fin' l1 j fs fr := by
    intro Fin Fin' hF l1
    induction l1 with
    | nil => intro j fs fr h; exact hF _ _ h
    | cons o l1 ih =>
      intro j fs fr h
      rcases h with ⟨c, h1, h2, h3⟩ | ⟨Φ, h1, h2, h3, h4⟩
      · exact .inl ⟨c, h1, h2, ih _ _ _ h3⟩
      · exact .inr ⟨Φ, h1, h2, h3, ih _ _ _ h4⟩
  refine mono _ _ (fun fs fr h vs w fuel hf hg hk => ?_) _ _ _ _ h
  have hlen : l.length = l1.length + 1 := by rw [hl]; simp
  have ho : l[l1.length]? = some o := by rw [hl]; simp
  have h1 := h vs w hg hk
  obtain ⟨fuel, rfl⟩ : ∃ f, fuel = f + 1 := ⟨fuel - 1, by omega⟩
  simp only [anyOk, Bool.and_eq_true, decide_eq_true_eq] at hB
  obtain ⟨hns, ⟨⟨hd, hlk⟩, htl⟩, hml⟩ := hB
  have hmem : l1.length ∈ Region.ready .any l.toArray (onFirst l.length l1.length) := by
    rw [mem_ready]
    refine ⟨by simp [onFirst, hlen], o, by simp [ho], fun e he hb => ?_⟩
    have := (depsOk_spec hd ho).1 e he hb
    simp [onFirst, hlen, this, show e.on < l1.length + 1 by omega]
  refine ⟨fun hr => (by rw [hr] at hmem; cases hmem), fun i hi => ?_⟩
  obtain ⟨hun, oi, hoi, _⟩ := mem_ready.1 hi
  have hil : i < l.length := by have := (Array.getElem?_eq_some_iff.1 hoi).1; simpa using this
  have hie : i = l1.length := by
    rcases Nat.lt_or_ge i l1.length with h | h
    · exfalso; simp [onFirst, hil, h] at hun
    · omega
  subst hie
  obtain rfl : oi = o := by
    have : l.toArray[l1.length]? = some o := by simp [ho]
    rw [this] at hoi; injection hoi with h; exact h.symm
  have hset : (onFirst l.length l1.length).setIfInBounds l1.length true = onFirst l.length l.length := by
    apply Array.ext_getElem?
    intro k
    rw [Array.getElem?_setIfInBounds]
    by_cases hk : l1.length = k
    · subst hk
      rw [if_pos rfl, if_pos (by simp [onFirst, hlen])]
      simp [onFirst, hlen]
    · rw [if_neg hk]
      by_cases hkl : k < l.length
      · simp [onFirst, hkl, show k < l1.length by omega]
      · rw [Array.getElem?_eq_none (by simp [onFirst]; omega), Array.getElem?_eq_none (by simp [onFirst]; omega)]
  rw [hset]
  unfold wpOp
  simp only [hoi]
  split
  · rename_i hw
    rw [if_pos hw] at h1
    exact .inl (Oper.wp_mono (fun a w h => wpAny_full h) h1)
  · rename_i hw
    rw [if_neg hw] at h1
    exact wpAny_full h1

/-- The operations from number m on come one behind the other, and behind all others. -/
def chainOk (n m : Nat) (D : List (List Nat)) : Bool := (List.range n).all fun j => decide (j < m) || (List.range j).all fun i => (D.getD j []).contains i
def lineOk (l : List Oper) (m : Nat) : Bool := anyOk l m && chainOk l.length m (depsOf l)

theorem wpAny_chain (hd : depsOk l D = true) (hns : Region.noSelect l.toArray = true) : ∀ (k m : Nat) (a : Act) (w : World) (fuel : Nat), m + k = l.length → chainOk l.length m D = true → l.length - m ≤ fuel → wpList P l.toArray Q (l.drop m) a w → wpAny P .any l.toArray Q fuel (onFirst l.length m) a w
  | 0, m, a, w, fuel, hk, _, _, h => by
    obtain rfl : m = l.length := by omega
    rw [List.drop_length] at h
    exact wpAny_full h
  | k + 1, m, a, w, fuel, hk, hc, hf, h => by
    have hml : m < l.length := by omega
    have hm : l[m]? = some (l[m]'hml) := List.getElem?_eq_getElem _
    rw [List.drop_eq_getElem_cons hml] at h
    obtain ⟨fuel, rfl⟩ : ∃ f, fuel = f + 1 := ⟨fuel - 1, by omega⟩
    have hc' : chainOk l.length (m + 1) D = true := by
      unfold chainOk at hc ⊢
      rw [List.all_eq_true] at hc ⊢
      intro j hj
      have := hc j hj
      simp only [Bool.or_eq_true, decide_eq_true_eq] at this ⊢
      rcases this with h1 | h1
      · exact .inl (by omega)
      · exact .inr h1
    have hmem : m ∈ Region.ready .any l.toArray (onFirst l.length m) := by
      rw [mem_ready]
      refine ⟨by simp [onFirst, hml], l[m]'hml, by simp [hml], fun e he hb => ?_⟩
      have := (depsOk_spec hd hm).1 e he hb
      simp [onFirst, this, show e.on < l.length by omega]
    refine ⟨fun hr => (by rw [hr] at hmem; cases hmem), fun i hi => ?_⟩
    obtain ⟨hun, oi, hoi, hall⟩ := mem_ready.1 hi
    have hil : i < l.length := by have := (Array.getElem?_eq_some_iff.1 hoi).1; simpa using this
    have hli : l[i]? = some oi := by simpa using hoi
    have hclosed : Closed l (onFirst l.length m) := by
      intro j o hj hon e he hb
      have hjl := (List.getElem?_eq_some_iff.1 hj).1
      have hjm : j < m := by simpa [onFirst, hjl] using hon
      have := (depsOk_spec hd hj).1 e he hb
      simp [onFirst, show e.on < l.length by omega, show e.on < m by omega]
    have hie : i = m := by
      rcases Nat.lt_trichotomy i m with h1 | h1 | h1
      · exfalso; simp [onFirst, hil, h1] at hun
      · exact h1
      · exfalso
        have h2 := List.all_eq_true.1 hc i (List.mem_range.2 hil)
        simp only [Bool.or_eq_true, decide_eq_true_eq] at h2
        have h3 := List.all_eq_true.1 (h2.resolve_left (by omega)) m (List.mem_range.2 h1)
        have h4 := closed_deps hd hclosed (i + 1) i oi (by omega) hli hall m (List.contains_iff_mem.1 h3)
        simp [onFirst, hml] at h4
    subst hie
    obtain rfl : oi = l[i]'hml := by rw [hm] at hli; injection hli with h; exact h.symm
    have hset : (onFirst l.length i).setIfInBounds i true = onFirst l.length (i + 1) := by
      apply Array.ext_getElem?
      intro k
      rw [Array.getElem?_setIfInBounds]
      by_cases hk : i = k
      · subst hk
        rw [if_pos rfl, if_pos (by simp [onFirst, hml])]
        simp [onFirst, hml]
      · rw [if_neg hk]
        by_cases hkl : k < l.length
        · have : (k < i) = (k < i + 1) := by apply propext; omega
          simp [onFirst, hkl, this]
        · rw [Array.getElem?_eq_none (by simp [onFirst]; omega), Array.getElem?_eq_none (by simp [onFirst]; omega)]
    rw [hset]
    have ih := fun a w h => wpAny_chain hd hns k (i + 1) a w fuel (by omega) hc' (by omega) h
    unfold wpOp
    simp only [hoi]
    unfold wpList at h
    split
    · rename_i hw
      rw [if_pos hw] at h
      rcases h with h | h
      · exact .inl (Oper.wp_mono (fun a w h => ih a w h) h)
      · exact .inr h
    · rename_i hw
      rw [if_neg hw] at h
      exact ih _ _ h

/-- As InTurn, for the first m; the others come one behind the other, and do what they may. -/
def InLine (P : Program) (ops : Array Oper) (D : List (List Nat)) (G : World → Prop) (E : World → World → Prop) (T : List Oper → Act → World → Prop) : Nat → List Oper → Nat → Facts → ((Nat → Value) → Act) → Prop
  | 0, l, _, fs, fr => ∀ vs w, G w → AllKnown vs w fs → T l (fr vs) w
  | _ + 1, [], _, _, _ => False
  | m + 1, o :: l, j, fs, fr =>
    (∃ c : (Nat → Value) → Value, (∀ vs vs' : Nat → Value, (∀ i ∈ D.getD j [], vs i = vs' i) → c vs = c vs') ∧
      (∀ vs w, G w → Known (D.getD j []) vs w fs → if Region.wanted o (yielded ops (fr vs).tmps) = true then gives P o (fr vs) w (fun v w' => v = c vs ∧ E w w') else undef = c vs) ∧
      InLine P ops D G E T m l (j + 1) fs (fun vs => (fr vs).put o.dst (c vs))) ∨
    (∃ Φ : (Nat → Value) → Value → World → Prop, (∀ vs vs' : Nat → Value, (∀ i ∈ D.getD j [], vs i = vs' i) → Φ vs = Φ vs') ∧ (∀ vs v w w', Φ vs v w → E w w' → Φ vs v w') ∧
      (∀ vs w, G w → Known (D.getD j []) vs w fs → if Region.wanted o (yielded ops (fr vs).tmps) = true then gives P o (fr vs) w (fun v w' => Φ vs v w' ∧ E w w') else Φ vs undef w) ∧
      InLine P ops D G E T m l (j + 1) ((j, Φ) :: fs) (fun vs => (fr vs).put o.dst (vs j)))
theorem turn_of_line {ops : Array Oper} {T : List Oper → Act → World → Prop} : ∀ (m : Nat) (l' : List Oper) (j : Nat) (fs : Facts) (fr : (Nat → Value) → Act), InLine P ops D G E T m l' j fs fr →
    InTurn P ops D G E (fun fs fr => ∀ vs w, G w → AllKnown vs w fs → T (l'.drop m) (fr vs) w) (l'.take m) j fs fr
  | 0, l', j, fs, fr, h => h
  | m + 1, [], j, fs, fr, h => h.elim
  | m + 1, p :: l', j, fs, fr, h => by
    rcases h with ⟨c, h1, h2, h3⟩ | ⟨Φ, h1, h2, h3, h4⟩
    · exact .inl ⟨c, h1, h2, turn_of_line m l' _ _ _ h3⟩
    · exact .inr ⟨Φ, h1, h2, h3, turn_of_line m l' _ _ _ h4⟩

def SameOrNew (w w' : World) : Prop := Below w.heap.size w w'
theorem wp_region_line_any {id : Nat} {w0 : World} (m : Nat) (hm : P.follows .mixedOrders = true) (hB : lineOk l m = true) (hR : ∀ w, G w → E w w) (hG : ∀ w w', G w → E w w' → G w') (h0 : G { w0 with drawn := w0.drawn + 1 })
    (h : InLine P l.toArray (depsOf l) G E (wpList P l.toArray Q) m l 0 [] (fun _ => a0)) : (Code.region id l.toArray true).wp P Q a0 w0 := by
  simp only [lineOk, Bool.and_eq_true] at hB
  have hB1 := hB.1
  simp only [anyOk, Bool.and_eq_true, decide_eq_true_eq] at hB1
  obtain ⟨hns, ⟨⟨hd, hlk⟩, htl⟩, hml⟩ := hB1
  refine wp_region_turn (m := m) hm hB.1 hR hG h0 ?_
  have mono : ∀ (Fin Fin' : Facts → ((Nat → Value) → Act) → Prop), (∀ fs fr, Fin fs fr → Fin' fs fr) → ∀ (l1 : List Oper) (j : Nat) (fs : Facts) (fr : (Nat → Value) → Act), InTurn P l.toArray (depsOf l) G E Fin l1 j fs fr → InTurn P l.toArray (depsOf l) G E Fin' l1 j fs fr := by
    intro Fin Fin' hF l1
    induction l1 with
    | nil => intro j fs fr h; exact hF _ _ h
    | cons o l1 ih =>
      intro j fs fr h
      rcases h with ⟨c, h1, h2, h3⟩ | ⟨Φ, h1, h2, h3, h4⟩
      · exact .inl ⟨c, h1, h2, ih _ _ _ h3⟩
      · exact .inr ⟨Φ, h1, h2, h3, ih _ _ _ h4⟩
  refine mono _ _ (fun fs fr h vs w fuel hf hg hk => ?_) _ _ _ _ (turn_of_line _ _ _ _ _ h)
  exact wpAny_chain hd hns (l.length - m) m _ w fuel (by omega) hB.2 hf (h vs w hg hk)
/-- **A region in whatever order, of which the first m operations only read and lay new blocks; the others come one behind the other.** -/
theorem wp_region_line {id : Nat} {w0 : World} (m : Nat) (hm : P.follows .mixedOrders = true) (hB : lineOk l m = true)
    (h : InLine P l.toArray (depsOf l) (SameOrNew w0) SameOrNew (wpList P l.toArray Q) m l 0 [] (fun _ => a0)) : (Code.region id l.toArray true).wp P Q a0 w0 :=
  wp_region_line_any (G := SameOrNew w0) (E := SameOrNew) m hm hB (fun w _ => Below.refl _ _) (fun w w' h1 h2 => h1.trans (h2.mono h1.size)) ((Below.refl _ _).drew) h

section
variable {ops : Array Oper} {o : Oper} {l' : List Oper} {j m : Nat} {T : List Oper → Act → World → Prop} {fs : Facts} {fr : (Nat → Value) → Act}
/-- One operation whose value is known. -/
theorem line_fix {c : (Nat → Value) → Value}
    (now : ∀ vs w (R : Value → World → Prop), G w → Known (D.getD j []) vs w fs → (∀ w', E w w' → R (c vs) w') → if Region.wanted o (yielded ops (fr vs).tmps) = true then gives P o (fr vs) w R else R undef w)
    (hangs : ∀ vs vs' : Nat → Value, (∀ i, (D.getD j []).contains i = true → vs i = vs' i) → c vs = c vs') (hR : ∀ w, G w → ∃ w', E w w')
    (rest : InLine P ops D G E T m l' (j + 1) fs (fun vs => (fr vs).put o.dst (c vs))) : InLine P ops D G E T (m + 1) (o :: l') j fs fr :=
  .inl ⟨c, fun vs vs' h => hangs vs vs' fun i hi => h i (List.contains_iff_mem.1 hi), fun vs w hg hk => by
    by_cases hw : Region.wanted o (yielded ops (fr vs).tmps) = true
    · have := now vs w (fun v w' => v = c vs ∧ E w w') hg hk fun w' he => ⟨rfl, he⟩
      rw [if_pos hw] at this ⊢
      exact this
    · have := now vs w (fun v w' => v = c vs) hg hk fun w' he => rfl
      rw [if_neg hw] at this ⊢
      exact this, rest⟩
/-- One operation of whose value a fact is known. -/
theorem line_var {Φ : (Nat → Value) → Value → World → Prop} (keep : ∀ vs v w w', Φ vs v w → E w w' → Φ vs v w')
    (hangs : ∀ vs vs' : Nat → Value, (∀ i, (D.getD j []).contains i = true → vs i = vs' i) → Φ vs = Φ vs')
    (now : ∀ vs w (R : Value → World → Prop), G w → Known (D.getD j []) vs w fs → (∀ v w', Φ vs v w' → E w w' → R v w') → Region.wanted o (yielded ops (fr vs).tmps) = true ∧ gives P o (fr vs) w R)
    (rest : InLine P ops D G E T m l' (j + 1) ((j, Φ) :: fs) (fun vs => (fr vs).put o.dst (vs j))) : InLine P ops D G E T (m + 1) (o :: l') j fs fr :=
  .inr ⟨Φ, fun vs vs' h => hangs vs vs' fun i hi => h i (List.contains_iff_mem.1 hi), keep, fun vs w hg hk => by
    have := now vs w (fun v w' => Φ vs v w' ∧ E w w') hg hk fun v w' h1 h2 => ⟨h1, h2⟩
    rw [if_pos this.1]
    exact this.2, rest⟩
theorem line_last (h : ∀ vs w, G w → AllKnown vs w fs → T l' (fr vs) w) : InLine P ops D G E T 0 l' j fs fr := h
end
/-- append, met so. -/
theorem gives_append {o : Oper} {a : Act} {W w1 : World} {R : Value → World → Prop} {s x : Operand} {t t' : TypeId} {v u v1 : Value} (ho : o.op = .call { callee := .builtin .append, args := #[s, x], argTypes := #[t, t'] }) (hs : a.eval s = v) (hx : a.eval x = u)
    (hrun : (Builtin.append_ #[t, t'] o.type #[v, u]).run P W = .ok v1 w1) (h : R v1 w1) : gives P o a W R := by
  unfold gives execOp
  simp only [ho, resolve, invoke, builtin, Sem.run_bind, Sem.run_pure, Result.andThen_ok, List.map_toArray, List.map_cons, List.map_nil, hs, hx, hrun]
  exact h
end
end Go.Proofs.Ytfbpjhhcpockfaa
