/- Drawn regions: a ghost that knows which operations have come and what they yielded. · Drawn regions whose last operation waits for all others. · law: fits; one operation as an argument holds it. · Opening an argument that is a slice of operations. · ring: add. -/
import Derived.Test.YtgopdbpddemplaaDoorPart17
import Derived.Test.YtgopdbpddemplaaDoorPart06
set_option linter.unusedSimpArgs false
set_option linter.unusedVariables false
namespace Go.Proofs.YtgopdbpddemplaaDoor
section
/- Drawn regions: a ghost that knows which operations have come and what they yielded. -/
open Go.RowKit

section
variable {P : Program} {Q : Exit → Act → World → Prop}
/-- what an operation waits for has come -/
def ReadyAt (l : List Oper) (listed : Array Bool) (k : Nat) : Prop := ∀ o, l[k]? = some o → ∀ e ∈ o.after, Region.binds .any e = true → listed.getD e.on false = true
theorem Closed.ahead {l : List Oper} {listed : Array Bool} {k : Nat} (h : Closed l listed) (hr : ReadyAt l listed k) (f i : Nat) (hw : waitsFor l (f + 1) k i = true) : listed.getD i false = true := by
  unfold waitsFor at hw
  cases ho : l[k]? with
  | none => rw [ho] at hw; cases hw
  | some o =>
    rw [ho] at hw
    simp only at hw
    obtain ⟨e, he, hb⟩ := List.any_eq_true.1 hw
    simp only [Bool.and_eq_true, Bool.or_eq_true, beq_iff_eq] at hb
    have hl := hr o ho e (by simpa using he) hb.1
    rcases hb.2 with hi | hi
    · rw [← hi]; exact hl
    · exact Closed.waits h f e.on i hi hl
def StepAtH (P : Program) (Q : Exit → Act → World → Prop) (l : List Oper) (R : World → World → Prop) (G : Array Bool → List Value → World → Prop) (V : List (Value → World → Prop)) (w₀ : World) (a : Act) (vs : List Value) (i : Nat) (v₁ : Value → World → Prop) (o : Oper) : Prop :=
  ∀ (w : World) (K : Act → World → Prop) (listed : Array Bool), R w₀ w → Pre V vs w o.after.toList →  G listed vs w → listed.getD i false = false → listed.size = l.length → Closed l listed → ReadyAt l listed i →
    (∀ v w', R w w' → v₁ v w' → G (listed.setIfInBounds i true) (vs.set i v) w' → K (a.put o.dst v) w') → wpList P l.toArray (After K Q) [o] a w
def StepsAtH (P : Program) (Q : Exit → Act → World → Prop) (ops : List Oper) (R : World → World → Prop) (G : Array Bool → List Value → World → Prop) (V : List (Value → World → Prop)) (w₀ : World) (a : Act) (vs : List Value) : Nat → List (Value → World → Prop) → List Oper → Prop
  | i, v₁ :: V', o :: l => StepAtH P Q ops R G V w₀ a vs i v₁ o ∧ StepsAtH P Q ops R G V w₀ a vs (i + 1) V' l
  | _, [], [] => True
  | _, _, _ => False
theorem StepsAtH.get {ops : List Oper} {R : World → World → Prop} {G : Array Bool → List Value → World → Prop} {V : List (Value → World → Prop)} {w₀ : World} {a : Act} {vs : List Value} :
    ∀ {i₀ : Nat} {V' : List (Value → World → Prop)} {l : List Oper}, StepsAtH P Q ops R G V w₀ a vs i₀ V' l → ∀ i o, l[i]? = some o → StepAtH P Q ops R G V w₀ a vs (i₀ + i) (V'.getD i (fun _ _ => True)) o
  | i₀, v₁ :: V', o :: l, h, 0, o', ho => by obtain rfl : o = o' := by simpa using ho
                                             simpa using h.1
  | i₀, v₁ :: V', o :: l, h, i + 1, o', ho => by
    have := h.2.get i o' (by simpa using ho)
    rw [show i₀ + 1 + i = i₀ + (i + 1) by omega] at this
    simpa using this
  | _, [], [], _, i, o, ho => by simp at ho
  | _, [], _ :: _, h, _, _, _ => h.elim
  | _, _ :: _, [], h, _, _, _ => h.elim

theorem wpAny_ghost2 {G : Array Bool → List Value → World → Prop} {R : World → World → Prop} {V : List (Value → World → Prop)} {l : List Oper} {a₀ : Act} {w₀ : World} (hA : Apart l) (hb : backB l = true)
    (htr : ∀ a b c, R a b → R b c → R a c) (hst : Stable R V)
    (hsteps : ∀ vs : List Value, vs.length = l.length → StepsAtH P Q l R G V w₀ (putAll l vs a₀) vs 0 V l)
    (hend : ∀ (vs : List Value) w listed, vs.length = l.length → R w₀ w → AllAt V vs w → (∀ i, i < l.length → listed.getD i false = true) → G listed vs w → Q .normal (putAll l vs a₀) w) :
    ∀ (fuel : Nat) (listed : Array Bool) (vs : List Value) (w : World), listed.size = l.length → vs.length = l.length → R w₀ w →  G listed vs w → Closed l listed →
      (∀ i, listed.getD i false = true → V.getD i (fun _ _ => True) (vs.getD i undef) w) →
      (listed.toList.filter (· == false)).length ≤ fuel →
      wpAny P .any l.toArray Q fuel listed (putAll l vs a₀) w := by
  intro fuel
  induction fuel with
  | zero =>
    intro listed vs w hsz hvs hR hG hC hV hf
    have hall : ∀ i, i < l.length → listed.getD i false = true := by
      intro i hi
      have h0 : listed.toList.filter (· == false) = [] := List.eq_nil_of_length_eq_zero (by omega)
      rw [List.filter_eq_nil_iff] at h0
      have h1 : i < listed.size := by omega
      have := h0 listed[i] (by simp)
      simp [h1]
      simpa using this
    refine ⟨?_, hend vs w listed hvs hR (AllAt.of fun i hi => hV i (hall i (by omega))) hall hG⟩
    unfold Region.ready
    rw [List.filter_eq_nil_iff]
    intro i hi
    have h1 := hall i (by simpa using hi)
    have h2 : i < listed.size := by have : i < l.length := by simpa using hi
                                    omega
    simp [h2] at h1 ⊢
    simp [h1]
  | succ fuel ih =>
    intro listed vs w hsz hvs hR hG hC hV hf
    refine ⟨fun hr => hend vs w listed hvs hR (AllAt.of fun i hi => hV i (all_listed hb hsz hr i (by omega))) (fun i hi => all_listed hb hsz hr i hi) hG, fun i hi => ?_⟩
    unfold Region.ready at hi
    obtain ⟨hi1, hi2⟩ := List.mem_filter.1 hi
    have hil : i < l.length := by simpa using hi1
    have h2 : l[i]? = some l[i] := List.getElem?_eq_getElem hil
    simp only [List.getElem?_toArray, h2, Option.map_some, Option.getD_some, Bool.and_eq_true, Array.all_eq_true_iff_forall_mem] at hi2
    have hlf : listed[i]? = some false := by
      have : i < listed.size := by omega
      have h3 := hi2.1
      simp [this] at h3 ⊢
      exact h3
    have hlf' : listed.getD i false = false := by
      have h9 : i < listed.size := by omega
      have h3 := hi2.1
      simp [h9] at h3 ⊢
      exact h3
    have hY : ReadyAt l listed i := fun o ho e he hbd => by
      rw [h2] at ho; cases ho
      have := hi2.2 e (by simpa using he)
      simpa [hbd] using this
    have hs := (hsteps vs hvs).get i l[i] h2 w (wpAny P .any l.toArray Q fuel (listed.setIfInBounds i true)) listed hR
      (Pre.of fun e he hbd => hV e.on (by
        have := hi2.2 e (by simpa using he)
        simpa [hbd] using this))
      hG (by rw [Nat.zero_add]; exact hlf') hsz hC (by rw [Nat.zero_add]; exact hY)
      (fun v w' hw' hv hg => by
        rw [← putAll_set l vs a₀ i l[i] v hA h2 hvs]
        refine ih _ _ _ (by simpa using hsz) (by simpa using hvs) (htr _ _ _ hR hw') (by rw [Nat.zero_add] at hg; exact hg) (hC.set i h2 (fun e he hbd => by
          have := hi2.2 e (by simpa using he)
          simpa [hbd] using this)) ?_ ?_
        · intro j hj
          by_cases hij : i = j
          · subst hij
            have : (vs.set i v).getD i undef = v := by simp [List.getD_eq_getElem?_getD, hvs, hil]
            rw [this]; exact hv
          · have h5 : (vs.set i v).getD j undef = vs.getD j undef := by simp [List.getD_eq_getElem?_getD, List.getElem?_set_ne hij]
            rw [h5]
            exact hst.get j w w' _ hw' (hV j (by simpa [Array.getElem?_setIfInBounds_ne hij] using hj))
        · have h6 : ∀ (bs : List Bool) (i : Nat), bs[i]? = some false → ((bs.set i true).filter (· == false)).length + 1 = (bs.filter (· == false)).length := by
            intro bs
            induction bs with
            | nil => intro i h; simp at h
            | cons b bs ihb =>
              intro i h
              cases i with
              | zero => obtain rfl : b = false := by simpa using h
                        simp
              | succ i =>
                have := ihb i (by simpa using h)
                cases b <;> simp at this ⊢ <;> omega
          have := h6 listed.toList i (by simpa using hlf)
          simp only [Array.toList_setIfInBounds]
          omega)
    unfold wpOp
    simp only [List.getElem?_toArray, h2]
    simp only [wpList] at hs
    split
    · rename_i hw
      simp only [hw, if_true] at hs
      rcases hs with hs | ⟨hs, hl⟩
      · left
        unfold Oper.wp at *
        generalize (execOp (putAll l vs a₀).eval l[i]).run P w = r at *
        cases r with
        | ok n w' =>
          cases n <;> simp only [Oper.upon] at hs ⊢
          case enter => exact Calls.mono hs (fun e w'' he => by cases e <;> first | exact he | (exact he))
          all_goals first | exact hs | skip
        | halt x w' => cases x <;> simp only [Oper.upon] at hs ⊢ <;> exact hs
      · right
        exact ⟨hs, hl⟩
    · rename_i hw
      simp only [hw] at hs
      exact hs

theorem wp_region_ghost2 {id : Nat} {a₀ : Act} {w₀ : World} {l : List Oper} (R : World → World → Prop) (G : Array Bool → List Value → World → Prop) (V : List (Value → World → Prop)) (hm : P.follows .mixedOrders = true)
    (hA : apartB l = true) (hb : backB l = true) (htr : ∀ a b c, R a b → R b c → R a c) (hre : ∀ a, R a a) (hst : Stable R V) (hg0 : ∀ vs, G (Array.replicate l.length false) vs w₀.drew)
    (h : AllVals l.length fun vs => StepsAtH P Q l R G V w₀.drew (putAll l vs a₀) vs 0 V l ∧ (∀ w listed, R w₀.drew w → AllAt V vs w → (∀ i, i < l.length → listed.getD i false = true) → G listed vs w → Q .normal (putAll l vs a₀) w)) :
    (Code.region id l.toArray true).wp P Q a₀ w₀ := by
  refine wp_region_any hm ?_
  -- the slots as they stand
  obtain ⟨vs, hvs, he⟩ : ∃ vs : List Value, vs.length = l.length ∧ putAll l vs a₀ = a₀ := by
    clear h hst hb hA hg0
    induction l generalizing a₀ with
    | nil => exact ⟨[], rfl, rfl⟩
    | cons o l ih =>
      obtain ⟨v, hv⟩ : ∃ v, a₀.put o.dst v = a₀ := by
        cases hd : o.dst with
        | none => exact ⟨undef, rfl⟩
        | some d =>
          refine ⟨a₀.tmps.getD d undef, ?_⟩
          cases a₀ with
          | mk tmps defers =>
            simp only [Act.put]
            congr 1
            apply Array.ext_getElem?
            intro i
            by_cases hi : d = i
            · subst hi
              by_cases hs : d < tmps.size <;> simp [hs]
            · simp [Array.getElem?_setIfInBounds_ne hi]
      obtain ⟨vs, h1, h2⟩ := ih (a₀ := a₀)
      exact ⟨v :: vs, by simp [h1], by simp only [putAll, hv, h2]⟩
  have := wpAny_ghost2 (P := P) (Q := Q) (G := G) (R := R) (V := V) (l := l) (a₀ := a₀) (w₀ := w₀.drew) (apart_of l hA) hb htr hst (fun vs hv => (h.get vs hv).1) (fun vs w listed hv hr ha hL hG => (h.get vs hv).2 w listed hr ha hL hG)
    l.length (Array.replicate l.length false) vs w₀.drew (by simp) hvs (hre _) (hg0 _) (Closed.none l) (by intro i hi; by_cases h : i < l.length <;> simp [h] at hi) (by simp)
  rw [he] at this
  simpa using this
end
end

section
/- Drawn regions whose last operation waits for all others. -/
open Go.RowKit

section
variable {P : Program} {Q : Exit → Act → World → Prop}
/-- the operations at the end, one behind the other -/
def TailOK (P : Program) (Q : Exit → Act → World → Prop) (ops : Array Oper) : List Oper → Act → World → Prop
  | [], a, w => Q .normal a w
  | o :: l, a, w => ∀ K : Act → World → Prop, (∀ v w', TailOK P Q ops l (a.put o.dst v) w' → K (a.put o.dst v) w') → wpList P ops (After K Q) [o] a w
/-- the operations ahead of the tail, then the tail -/
def StepsL (P : Program) (Q : Exit → Act → World → Prop) (ops : Array Oper) (R : World → World → Prop) (V : List (Value → World → Prop)) (w₀ : World) (a : Act) (vs : List Value) : List (Value → World → Prop) → List Oper → Prop
  | v₁ :: V', o :: l => StepAt P Q ops R V w₀ a vs v₁ o ∧ StepsL P Q ops R V w₀ a vs V' l
  | [], o :: l => ∀ (w : World), R w₀ w → AllAt V vs w → TailOK P Q ops (o :: l) a w
  | _, _ => False
theorem StepsL.get {ops : Array Oper} {R : World → World → Prop} {V : List (Value → World → Prop)} {w₀ : World} {a : Act} {vs : List Value} :
    ∀ {V' : List (Value → World → Prop)} {l : List Oper}, StepsL P Q ops R V w₀ a vs V' l → ∀ i o, i < V'.length → l[i]? = some o → StepAt P Q ops R V w₀ a vs (V'.getD i (fun _ _ => True)) o
  | v₁ :: V', o :: l, h, 0, o', _, ho => by obtain rfl : o = o' := by simpa using ho
                                            simpa using h.1
  | v₁ :: V', o :: l, h, i + 1, o', hi, ho => by simpa using h.2.get i o' (by simpa using hi) (by simpa using ho)
  | [], _, _, _, _, hi, _ => by simp at hi
  | _ :: _, [], h, _, _, _, _ => h.elim
theorem StepsL.last {ops : Array Oper} {R : World → World → Prop} {V : List (Value → World → Prop)} {w₀ : World} {a : Act} {vs : List Value} :
    ∀ {V' : List (Value → World → Prop)} {l : List Oper}, StepsL P Q ops R V w₀ a vs V' l → V'.length < l.length ∧ ∀ (w : World), R w₀ w → AllAt V vs w → TailOK P Q ops (l.drop V'.length) a w
  | v₁ :: V', o :: l, h => by
    obtain ⟨h1, h2⟩ := h.2.last
    exact ⟨by simpa using h1, fun w hR hA => by simpa using h2 w hR hA⟩
  | [], o :: l, h => ⟨by simp, h⟩
  | [], [], h => h.elim
  | _ :: _, [], h => h.elim
theorem AllVals.intro : ∀ {n : Nat} {f : List Value → Prop}, (∀ vs : List Value, vs.length = n → f vs) → AllVals n f
  | 0, _, h => h [] rfl
  | n + 1, _, h => fun v => AllVals.intro (fun l hl => h (v :: l) (by simp [hl]))
theorem StepsAtH.of {ops : List Oper} {R : World → World → Prop} {G : Array Bool → List Value → World → Prop} {V : List (Value → World → Prop)} {w₀ : World} {a : Act} {vs : List Value} :
    ∀ {i₀ : Nat} {V' : List (Value → World → Prop)} {l : List Oper}, V'.length = l.length → (∀ i o, l[i]? = some o → StepAtH P Q ops R G V w₀ a vs (i₀ + i) (V'.getD i (fun _ _ => True)) o) → StepsAtH P Q ops R G V w₀ a vs i₀ V' l
  | _, [], [], _, _ => trivial
  | i₀, v :: V', o :: l, hl, h => ⟨by simpa using h 0 o rfl, StepsAtH.of (by simpa using hl) (fun i o' ho => by
      have := h (i + 1) o' (by simpa using ho)
      rw [show i₀ + (i + 1) = i₀ + 1 + i by omega] at this
      simpa using this)⟩
  | _, [], _ :: _, hl, _ => by simp at hl
  | _, _ :: _, [], hl, _ => by simp at hl
theorem backB_get {l : List Oper} (hb : backB l = true) {i : Nat} {o : Oper} (ho : l[i]? = some o) {e : Edge} (he : e ∈ o.after.toList) (hbd : Region.binds .any e = true) : e.on < i := by
  have hi : i < l.length := (List.getElem?_eq_some_iff.1 ho).1
  have h1 := List.all_eq_true.1 hb i (by simpa using hi)
  rw [ho] at h1
  have h2 := Array.all_eq_true'.1 h1 e (by simpa using he)
  simpa [hbd] using h2

theorem wp_region_tail {id : Nat} {a₀ : Act} {w₀ : World} {l : List Oper} (R : World → World → Prop) (V : List (Value → World → Prop)) (hm : P.follows .mixedOrders = true)
    (hA : apartB l = true) (hb : backB l = true) (hah : ((List.range l.length).all fun i => decide (i < V.length) || ((List.range i).all fun j => waitsFor l (l.length + 1) i j)) = true) (htr : ∀ a b c, R a b → R b c → R a c) (hre : ∀ a, R a a) (hst : Stable R V)
    (h : AllVals l.length fun vs => StepsL P Q l.toArray R V w₀.drew (putAll l vs a₀) vs V l) :
    (Code.region id l.toArray true).wp P Q a₀ w₀ := by
  have hah' : ∀ i, V.length ≤ i → i < l.length → ∀ j, j < i → waitsFor l (l.length + 1) i j = true := fun i hi hil j hj => by
    have h1 := List.all_eq_true.1 hah i (by simpa using hil)
    rw [Bool.or_eq_true] at h1
    rcases h1 with h1 | h1
    · have := of_decide_eq_true h1; omega
    · have := List.all_eq_true.1 h1 j (by simpa using hj)
      simpa using this
  refine wp_region_ghost2 (fun _ _ => True)
    (fun listed vs w => ∃ k, (∀ i, V.length ≤ i → i < l.length → (listed.getD i false = true ↔ i < V.length + k)) ∧ (k = 0 → R w₀.drew w ∧ ∀ i, i < V.length → listed.getD i false = true → V.getD i (fun _ _ => True) (vs.getD i undef) w) ∧ (k ≠ 0 → TailOK P Q l.toArray (l.drop (V.length + k)) (putAll l vs a₀) w))
    (List.replicate l.length (fun _ _ => True)) hm hA hb (fun _ _ _ _ _ => trivial) (fun _ => trivial) ?_ (fun vs => ⟨0, fun i hi hil => ⟨fun hx => ?_, fun hx => ?_⟩, fun _ => ⟨hre _, fun i hi hx => ?_⟩, fun hx => absurd rfl hx⟩) (AllVals.intro fun vs hvs => ⟨?_, fun w listed _ _ hL hG => ?_⟩)
  · generalize l.length = n
    induction n with
    | zero => trivial
    | succ n ih => exact ⟨fun _ _ _ _ h => h, ih⟩
  · exfalso
    simp [hil] at hx
  · omega
  · exfalso
    by_cases hq : i < l.length <;> simp [hq] at hx
  · have hS := h.get vs hvs
    obtain ⟨hlen, hlast⟩ := hS.last
    refine StepsAtH.of (by simp) fun i o ho => ?_
    rw [Nat.zero_add]
    have hil : i < l.length := (List.getElem?_eq_some_iff.1 ho).1
    intro w K listed _ _ hG hlf hsz hC hY hK
    obtain ⟨k, hk, hG0, hG1⟩ := hG
    have hKT : ∀ v w', (∃ k, (∀ j, V.length ≤ j → j < l.length → ((listed.setIfInBounds i true).getD j false = true ↔ j < V.length + k)) ∧ (k = 0 → R w₀.drew w' ∧ ∀ j, j < V.length → (listed.setIfInBounds i true).getD j false = true → V.getD j (fun _ _ => True) ((vs.set i v).getD j undef) w') ∧ (k ≠ 0 → TailOK P Q l.toArray (l.drop (V.length + k)) (putAll l (vs.set i v) a₀) w')) → K ((putAll l vs a₀).put o.dst v) w' :=
      fun v w' hg => hK v w' trivial (by simp [List.getD_eq_getElem?_getD, hil]) hg
    by_cases hi : i < V.length
    · have hnl : listed.getD V.length false = false := hC.notYet _ _ _ (hah' V.length (Nat.le_refl _) hlen i hi) hlf
      have hk0 : k = 0 := by
        have h1 := (hk V.length (Nat.le_refl _) hlen)
        rcases Nat.eq_zero_or_pos k with e | e
        · exact e
        · have := h1.2 (by omega)
          rw [hnl] at this; cases this
      subst hk0
      obtain ⟨hR, hF⟩ := hG0 rfl
      refine hS.get i o hi ho w K hR (Pre.of fun e he hbd => hF e.on (by have := backB_get hb ho he hbd; omega) (hY o ho e (by simpa using he) hbd)) fun v w' hw' hv => ?_
      refine hKT v w' ⟨0, fun j hj hjl => ?_, fun _ => ⟨htr _ _ _ hR hw', fun j hj hjl => ?_⟩, fun hx => absurd rfl hx⟩
      · rw [getD_set_other (by omega)]
        exact hk j hj hjl
      · by_cases hij : i = j
        · subst hij
          have : (vs.set i v).getD i undef = v := by simp [List.getD_eq_getElem?_getD, hvs, hil]
          rw [this]; exact hv
        · have h5 : (vs.set i v).getD j undef = vs.getD j undef := by simp [List.getD_eq_getElem?_getD, List.getElem?_set_ne hij]
          rw [h5]
          exact hst.get j w w' _ hw' (hF j hj (by simpa [Array.getElem?_setIfInBounds_ne hij] using hjl))
    · have hiV : V.length ≤ i := by omega
      have hge : V.length + k ≤ i := by
        rcases Nat.lt_or_ge i (V.length + k) with e | e
        · have := (hk i hiV hil).2 e
          rw [hlf] at this; cases this
        · exact e
      have hik : i = V.length + k := by
        rcases Nat.lt_or_ge (V.length + k) i with e | e
        · have h1 := hC.ahead hY _ _ (hah' i hiV hil _ e)
          have h2 := (hk (V.length + k) (by omega) (by omega)).1 h1
          omega
        · omega
      have hT : TailOK P Q l.toArray (l.drop (V.length + k)) (putAll l vs a₀) w := by
        rcases Nat.eq_zero_or_pos k with e | e
        · subst e
          obtain ⟨hR, hF⟩ := hG0 rfl
          refine hlast w hR (AllAt.of fun j hj => ?_)
          by_cases hjn : j < V.length
          · exact hF j hjn (hC.ahead hY _ j (hah' i hiV hil j (by omega)))
          · rw [show V.getD j (fun _ _ => True) = (fun _ _ => True) from by simp [List.getD_eq_getElem?_getD, List.getElem?_eq_none (by omega : V.length ≤ j)]]
            trivial
        · exact hG1 (by omega)
      rw [← hik] at hT
      have hd : l.drop i = o :: l.drop (i + 1) := by
        rw [List.drop_eq_getElem_cons hil]
        congr 1
        rw [List.getElem?_eq_getElem hil] at ho
        exact Option.some.inj ho
      rw [hd] at hT
      refine hT K fun v w' hq => hKT v w' ⟨k + 1, fun j hj hjl => ?_, fun hx => absurd hx (by omega), fun _ => ?_⟩
      · by_cases hij : i = j
        · subst hij
          exact ⟨fun _ => by omega, fun _ => getD_set_self (by omega)⟩
        · rw [getD_set_other hij, hk j hj hjl]
          omega
      · rw [putAll_set l vs a₀ _ o v (apart_of l hA) ho hvs, show V.length + (k + 1) = i + 1 by omega]
        exact hq
  · obtain ⟨hlen, -⟩ := (h.get vs hvs).last
    obtain ⟨k, hk, -, hG1⟩ := hG
    have h1 := (hk (l.length - 1) (by omega) (by omega)).1 (hL _ (by omega))
    have h2 := hG1 (by omega)
    rw [List.drop_eq_nil_of_le (by omega)] at h2
    exact h2
end
end

section
/- law: fits; one operation as an argument holds it. -/
open Go.RowKit

/-- an operation: kind, number, byte, the slice of choices -/
structure OpV where
  kind : Int
  n : Int
  b : Int
  ca : Option Addr
  cl : Nat
  cc : Nat
structure OpV.ok (o : OpV) : Prop where
  k0 : 0 ≤ o.kind
  k1 : o.kind < 256
  n0 : 0 ≤ o.n
  n1 : o.n < 65536
  b0 : 0 ≤ o.b
  b1 : o.b < 256
def OpV.cells (o : OpV) : Array Value := #[.int .u8 o.kind, .int .u16 o.n, .int .u8 o.b, .slice o.ca o.cl o.cc]
/-- a slice of operations in memory -/
structure OpsAt (w : World) (a : Option Addr) (l : List OpV) : Prop where
  addr : 0 < l.length → ∃ b off, a = some ⟨b, off, none⟩
  cell : ∀ b off, a = some ⟨b, off, none⟩ → ∀ i o, l[i]? = some o → ∀ j, j < 4 → w.cell? ⟨b, off + i * 4 + j, none⟩ = o.cells[j]?
  ok : ∀ o ∈ l, o.ok
  len : l.length ≤ 9223372036854775807
theorem OpsAt.keep0 {w w' : World} {a : Option Addr} {l : List OpV} (h : OpsAt w a l) (hk : Keep [] w w') : OpsAt w' a l := by
  refine ⟨h.addr, fun b off e i o hi j hj => ?_, h.ok, h.len⟩
  have h1 := h.cell b off e i o hi j hj
  obtain ⟨x, hx⟩ : ∃ x, o.cells[j]? = some x := by
    match j, hj with
    | 0, _ | 1, _ | 2, _ | 3, _ => exact ⟨_, rfl⟩
  rw [hx] at h1 ⊢
  exact hk.cell h1 (by simp)

def FitsPost (n : Nat) (w : World) (e : Ending) (w' : World) : Prop := ∃ b, e = .returned (.bool b) ∧ (b = true → n ≤ 25) ∧ Keep [] w w'
set_option maxRecDepth 100000 in
set_option maxHeartbeats 1000000 in
theorem fits_any (a : Option Addr) (cap : Nat) (l : List OpV) (w : World) (h : OpsAt w a l) :
    Calls Tryd.prog 7 #[.slice a l.length cap] w fun e w' => FitsPost l.length w e w' := by
  have hlen := h.len
  obtain ⟨N, hN⟩ : ∃ N, N = l.length := ⟨_, rfl⟩
  rw [← hN] at hlen ⊢
  have HN := Lib.hid hN
  clear hN
  go_enter Tryd.func7, Tryd.ntmps7
  go_wp2
  go_loopw [3] (fun i wr => ∃ k : Nat, i = .int .i64 k ∧ k ≤ N ∧ wr = w) (fun i _ => N - (intOf i).toNat)
  case atStart => exact ⟨0, rfl, by omega, rfl⟩
  case round =>
    obtain ⟨k, rfl, hk, rfl⟩ := hrel
    by_cases hlt : k < N
    · have hki : (k : Int) < N := by omega
      obtain ⟨b, off, rfl⟩ := h.addr (by have := HN.out; omega)
      obtain ⟨o, ho⟩ : ∃ o, l[k]? = some o := ⟨l[k]'(by have := HN.out; omega), List.getElem?_eq_getElem _⟩
      have c3 := h.cell b off rfl k o ho 3 (by omega)
      simp only [OpV.cells] at c3
      go_wp2
      · go_ret
        exact ⟨_, rfl, by simp, Keep.refl _ _⟩
      · go_roundw
        case rel => exact ⟨k + 1, by congr 1, by omega, trivial⟩
        case measure => simp [intOf]; omega
    · have hge : N ≤ k := by omega
      have hge' : ¬ (k : Int) < N := by omega
      go_wp2
      go_ret
      exact ⟨_, rfl, fun h => (by simp at h; omega), Keep.refl _ _⟩
end

section
/- Opening an argument that is a slice of operations. -/
open Go.RowKit Go.ChangeShapes Go.WideShapes Go.ChangeAt

theorem list_of {α : Type} {Q : Nat → α → Prop} : ∀ (n : Nat), (∀ i, i < n → ∃ o, Q i o) → ∃ l : List α, l.length = n ∧ ∀ i o, l[i]? = some o → Q i o
  | 0, _ => ⟨[], rfl, fun i o h => by simp at h⟩
  | n + 1, h => by
    obtain ⟨l, hl, hq⟩ := list_of n (fun i hi => h i (by omega))
    obtain ⟨o, ho⟩ := h n (by omega)
    refine ⟨l ++ [o], by simp [hl], fun i x hx => ?_⟩
    by_cases hi : i < n
    · rw [List.getElem?_append_left (by omega)] at hx
      exact hq i x hx
    · have hin : i = n := by
        have := (List.getElem?_eq_some_iff.1 hx).1
        simp at this
        omega
      subst hin
      rw [List.getElem?_append_right (by omega), hl] at hx
      simp at hx
      rw [← hx]; exact ho
theorem cells37 : Tryd.prog.cellsOf 37 = 4 := by kernel_rfl
theorem cells5' : Tryd.prog.cellsOf 5 = 1 := by kernel_rfl
theorem cells34 : Tryd.prog.cellsOf 34 = 1 := by kernel_rfl
theorem cells35 : Tryd.prog.cellsOf 35 = 1 := by kernel_rfl
section
variable {H : Type} {enc : TypeId × Value → H} {w : World} {base : Nat} {spare : Nat → Bool} {held : Bool}
set_option maxRecDepth 100000 in
/-- one operation's cells -/
theorem open_op {n : Nat} {cs : List Value} {x : DataW H × List MemPlace} (h : DataW.trod enc Tryd.prog w base spare held n 37 cs = some x) : ∃ o : OpV, o.ok ∧ cs = o.cells.toList := by
  obtain ⟨xs, m, rfl, hx, hl, hn, hi⟩ := DataW.trod_struct Tryd.underlying37 h
  rw [cells37] at hl
  have e0 : DataW.trod enc Tryd.prog w base spare held m 5 ((cs.drop 0).take (Tryd.prog.cellsOf 5)) = xs[0]? := hi 0 _ rfl
  rw [cells5'] at e0
  have e1 : DataW.trod enc Tryd.prog w base spare held m 34 ((cs.drop 1).take (Tryd.prog.cellsOf 34)) = xs[1]? := hi 1 _ rfl
  rw [cells34] at e1
  have e2 : DataW.trod enc Tryd.prog w base spare held m 5 ((cs.drop 2).take (Tryd.prog.cellsOf 5)) = xs[2]? := hi 2 _ rfl
  rw [cells5'] at e2
  have e3 : DataW.trod enc Tryd.prog w base spare held m 35 ((cs.drop 3).take (Tryd.prog.cellsOf 35)) = xs[3]? := hi 3 _ rfl
  rw [cells35] at e3
  obtain ⟨y0, hy0⟩ : ∃ y, xs[0]? = some y := ⟨xs[0]'(by rw [hn]; decide), List.getElem?_eq_getElem _⟩
  obtain ⟨y1, hy1⟩ : ∃ y, xs[1]? = some y := ⟨xs[1]'(by rw [hn]; decide), List.getElem?_eq_getElem _⟩
  obtain ⟨y2, hy2⟩ : ∃ y, xs[2]? = some y := ⟨xs[2]'(by rw [hn]; decide), List.getElem?_eq_getElem _⟩
  obtain ⟨y3, hy3⟩ : ∃ y, xs[3]? = some y := ⟨xs[3]'(by rw [hn]; decide), List.getElem?_eq_getElem _⟩
  rw [hy0] at e0; rw [hy1] at e1; rw [hy2] at e2; rw [hy3] at e3
  obtain ⟨k, c0, -, w0⟩ := DataW.trod_int Tryd.underlying5 e0
  obtain ⟨q, c1, -, w1⟩ := DataW.trod_int Tryd.underlying34 e1
  obtain ⟨b, c2, -, w2⟩ := DataW.trod_int Tryd.underlying5 e2
  have b0 := bounds_u8 w0
  have b1 := bounds_u16 w1
  have b2 := bounds_u8 w2
  have c3 : ∃ (a : Option Addr) (len cap : Nat), List.take 1 (List.drop 3 cs) = [.slice a len cap] := by
    rcases DataW.trod_slice Tryd.underlying35 e3 with ⟨c3, -⟩ | ⟨a, len, cap, _, _, _, -, c3, -⟩
    · exact ⟨none, 0, 0, c3⟩
    · exact ⟨some a, len, cap, c3⟩
  obtain ⟨a, len, cap, c3⟩ := c3
  match cs, hl with
  | [v0, v1, v2, v3], _ =>
    simp at c0 c1 c2 c3
    subst c0 c1 c2 c3
    exact ⟨⟨k, q, b, a, len, cap⟩, ⟨b0.1, by show k < 256; omega, b1.1, by show q < 65536; omega, b2.1, by show b < 256; omega⟩, rfl⟩
set_option maxRecDepth 100000 in
theorem open_ops {r : Reach} {b0 : Nat} {v : Value} {d : DataW H} {ps : List MemPlace} (hval : Value.okWide Tryd.prog w r b0 22 v) (hd : DataW.Trod enc Tryd.prog w base spare held 22 v d ps) :
    ∃ (a : Option Addr) (cap : Nat) (l : List OpV), v = .slice a l.length cap ∧ OpsAt w a l := by
  obtain ⟨a0, len0, cap0, rfl⟩ := okWide_slice Tryd.underlying22 hval
  obtain ⟨fuel, hf⟩ := hd
  rcases DataW.trod_slice Tryd.underlying22 hf with ⟨hc, -⟩ | ⟨a, len, cap, elems, rest, n, -, hc, -, -, hl, hm, he, hel, -⟩
  · simp [Value.cells] at hc
    obtain ⟨rfl, rfl, rfl⟩ := hc
    exact ⟨none, 0, [], rfl, ⟨(fun h => by simp at h), (fun _ _ e => by cases e), (fun _ h => by cases h), (by simp)⟩⟩
  · simp [Value.cells] at hc
    obtain ⟨rfl, rfl, rfl⟩ := hc
    obtain ⟨l, hll, hq⟩ := list_of (Q := fun i (o : OpV) => o.ok ∧ ∀ j, j < 4 → w.cell? ((a.add (i * 4)).add j) = o.cells[j]?) len0 (fun i hi => by
      have h1 := hel i hi
      rw [cells37, List.getElem?_eq_getElem (by omega)] at h1
      obtain ⟨cs, hcs, ht⟩ := Option.bind_eq_some_iff.1 h1
      obtain ⟨-, hcl, hcc⟩ := World.cells?_some hcs
      obtain ⟨o, ho, rfl⟩ := open_op ht
      exact ⟨o, ho, fun j hj => by rw [hcc j hj, Array.getElem?_toList]⟩)
    obtain ⟨bl, off, spot⟩ := a
    have hsp : 0 < l.length → spot = none := fun hp => by
      obtain ⟨o, ho⟩ : ∃ o, l[0]? = some o := ⟨l[0], List.getElem?_eq_getElem _⟩
      have := (hq 0 o ho).2 0 (by omega)
      exact by simpa [Addr.add] using World.cell?_spot (this.trans rfl)
    refine ⟨_, cap0, l, by rw [hll], ⟨fun hp => ⟨bl, off, by rw [hsp hp]⟩, fun b' off' e i o hi j hj => ?_, fun o ho => ?_, by rw [hll]; exact Nat.le_trans hl (Nat.le_trans hm (by decide))⟩⟩
    · cases e
      have := (hq i o hi).2 j hj
      rw [add_plain, add_plain] at this
      exact this
    · obtain ⟨i, hi⟩ := List.mem_iff_getElem?.1 ho
      exact (hq i o hi).1
end
end

section
/- ring: add. -/
open Go.RowKit

theorem info_stored : (Tryd.prog.info? 92).map (fun i => (i.zero, i.size, i.bytes)) = some (some (.agg #[.int .i64 0, .int .i64 0]), 2, 16) := by kernel_rfl
theorem storedCells_snoc (l : List (Nat × Nat)) (x : Nat × Nat) : storedCells (l ++ [x]) = storedCells l ++ [.int .i64 x.1, .int .i64 x.2] := by simp [storedCells]

theorem step_append_stored {w : World} {ops : Array Oper} {o : Oper} {a : Act} {K : Act → World → Prop} {Q : Exit → Act → World → Prop} {E : Prop} (hgd : o.guard = none) (s xo : Operand)
    (ho : o.op = .call { callee := .builtin .append, args := #[s, xo], argTypes := #[64, 64] })
    (v : Value) (l : List (Nat × Nat)) (hs : a.eval s = v) (hp : w.ownsRow 0 92 2 v l.length (storedCells l)) (x : Nat × Nat) (g : Nat) (fr : Nat × Nat) (hrow : w.heap[g]? = some (.cells #[.int .i64 x.1, .int .i64 x.2] 92 fr))
    (hx : a.eval xo = .slice (some ⟨g, 0, none⟩) 1 1) (hlen : l.length ≤ 100000000)
    (h : ∀ v' w', w'.ownsRow 0 92 2 v' (l ++ [x]).length (storedCells (l ++ [x])) → w.grownBy w' v.ownBlock → (v'.ownBlock = v.ownBlock ∨ ∃ k, v'.ownBlock = some k ∧ w.heap.size ≤ k) → K (a.put o.dst v') w') :
    if Region.wanted o (yielded ops a.tmps) = true then Oper.wp Tryd.prog o a w K Q else E := by
  rw [if_pos (by simp [Region.wanted, hgd])]
  have hi0 := info_stored
  cases hi : Tryd.prog.info? 92 with
  | none => rw [hi] at hi0; cases hi0
  | some i =>
    rw [hi] at hi0
    simp only [Option.map_some, Option.some.injEq, Prod.mk.injEq] at hi0
    obtain ⟨hz, hsize, hby⟩ := hi0
    have hsrc : Src Tryd.prog 2 64 (.slice (some ⟨g, 0, none⟩) 1 1) 1 [.int .i64 x.1, .int .i64 x.2] w :=
      Src.ofSlice _ Tryd.underlying64 _ _ _ _ rfl (fun j u hu => by
        have hadd : (⟨g, 0, none⟩ : Addr).add j = ⟨g, j, none⟩ := by unfold Addr.add; split <;> simp_all
        rw [hadd, cell_of_row _ g j _ _ _ hrow]
        simpa using hu) (fun u hu => by simp at hu; rcases hu with rfl | rfl <;> rfl)
    obtain ⟨v', w', hr, h2, h3, h4⟩ := run_append_own2 (P := Tryd.prog) w 0 64 64 o.type 92 i (.agg #[.int .i64 0, .int .i64 0]) 2 16 Tryd.underlying64 hi hz hsize hby rfl v l.length (storedCells l) hp _ 1 _ hsrc (by unfold maxLen; omega) (by omega) (Nat.zero_le _)
    unfold Oper.wp execOp
    simp only [ho, resolve, invoke, builtin, Sem.run_bind, Sem.run_pure, Result.andThen_ok, List.map_toArray, List.map_cons, List.map_nil, hs, hx, hr]
    refine h v' w' ?_ h3 (h4.imp (fun h => h.1) (fun ⟨k, a, b, _⟩ => ⟨k, a, b⟩))
    rw [storedCells_snoc, List.length_append]
    exact h2

theorem PendLike.keep {w w' : World} {b e k n : Nat} {v : Value} {xs : List Value} (h : w.ownsRow b e k v n xs) (hk : Keep [] w w') : w'.ownsRow b e k v n xs := by
  refine ⟨h.1, ?_⟩
  rcases h.2 with hn | ⟨g, cap, cur, rfl, hb, hgg, rest⟩
  · exact .inl hn
  · exact .inr ⟨g, cap, cur, rfl, hb, hk.get hgg (by simp), rest⟩
theorem OwnLike.keep {w w' : World} {F : List Nat} {b e k n : Nat} {v : Value} {xs : List Value} (h : w.ownsRow b e k v n xs) (hk : Keep F w w') (hF : ∀ k ∈ F, v.ownBlock ≠ some k) : w'.ownsRow b e k v n xs := by
  refine ⟨h.1, ?_⟩
  rcases h.2 with hn | ⟨g, cap, cur, rfl, hb, hgg, rest⟩
  · exact .inl hn
  · exact .inr ⟨g, cap, cur, rfl, hb, hk.get hgg (fun hm => hF g hm rfl), rest⟩
def RV.add (r : RV) (x : Nat × Nat) : RV := { r with es := r.es ++ [x], used := r.used + x.2 }
set_option maxRecDepth 100000 in
set_option maxHeartbeats 2000000 in
theorem add_any {w : World} {p : Nat} {r : RV} {v : Value} (h : RingIs w p r v) (hr : r.ok) (x : Nat × Nat) (hx : x.2 ≤ 1000000) :
    Calls Tryd.prog 43 #[.pointer (some ⟨p, 0, none⟩), .agg #[.int .i64 x.1, .int .i64 x.2]] w fun e w' => e = .returned (.tuple #[]) ∧ ∃ v', RingIs w' p (r.add x) v' ∧ Keep (p :: v.ownBlock.toList) w w' ∧ (v'.ownBlock = v.ownBlock ∨ ∃ k, v'.ownBlock = some k ∧ w.heap.size ≤ k) := by
  have hes := hr.es
  have hus := hr.used
  have hpl := hr.a.2.2
  have hvp : v.ownBlock ≠ some p := fun e => by
    rcases h.es.2 with ⟨rfl, _⟩ | ⟨g, cap, cur, rfl, _, hg, _⟩
    · cases e
    · simp [Value.ownBlock] at e
      subst e
      rw [h.row] at hg
      injection hg with hg
      injection hg with _ ht
      revert ht
      decide
  obtain ⟨sa, sc, rfl⟩ := h.slice
  go_enter Tryd.func43, Tryd.ntmps43
  go_wp2
  obtain ⟨W, hW⟩ : ∃ W, W = w.alloc (.cells #[.int .i64 x.1, .int .i64 x.2] 92) := ⟨_, rfl⟩
  rw [← hW]
  have hk0 : Keep [] w W := by rw [hW]; exact (Keep.refl _ _).alloc _
  have rX : W.heap[w.heap.size]? = some (.cells #[.int .i64 x.1, .int .i64 x.2] 92 (0, 0)) := by rw [hW]; exact heap_alloc_new w _
  have hsW : W.heap.size = w.heap.size + 1 := by rw [hW]; simp
  clear hW
  have HSW := Lib.hid hsW
  clear hsW
  have rP := hk0.get h.row (by simp)
  have c7 : W.cell? ⟨p, 7, none⟩ = some (.slice sa r.es.length sc) := (cell_row' (j := 7) rP).trans rfl
  have cx0 : W.cell? ⟨w.heap.size, 0, none⟩ = some (.int .i64 x.1) := (cell_row' (j := 0) rX).trans rfl
  have cx1 : W.cell? ⟨w.heap.size, 1, none⟩ = some (.int .i64 x.2) := (cell_row' (j := 1) rX).trans rfl
  have c7A : ∀ A : Obj, (W.alloc A).cell? ⟨p, 7, none⟩ = some (.slice sa r.es.length sc) := fun A => (cell_row' (j := 7) ((heap_alloc_past (lt_of_heap rP)).trans rP)).trans rfl
  have hE0 : W.ownsRow 0 92 2 (.slice sa r.es.length sc) r.es.length (storedCells r.es) := (PendLike.keep h.es hk0)
  have HE := Lib.hid (fun A : Obj => (PendLike.keep hE0 (((Keep.refl [] W).drew).alloc A) : (W.drew.alloc A).ownsRow 0 92 2 (.slice sa r.es.length sc) r.es.length (storedCells r.es)))
  have HP : Hid (∀ (A : Obj) (w3 : World), (W.drew.alloc A).grownBy w3 (Value.slice sa r.es.length sc).ownBlock → w3.heap[p]? = W.heap[p]?) := Lib.hid (fun A w3 hg => by
    have hlt : p < (W.drew.alloc A).heap.size := by rw [World.size_alloc]; exact Nat.lt_succ_of_lt (lt_of_heap rP)
    rw [hg.block p hlt (fun e => hvp e.symm)]
    exact heap_alloc_past (lt_of_heap rP))
  clear hE0
  go_region_law (first
    | (refine step_append_stored rfl (.tmp 8) (.tmp 10) rfl (.slice sa r.es.length sc) r.es rfl (HE.out _) x W.heap.size (0, 0) (heap_alloc_new W.drew _) rfl (by omega) ?_
       intro v3 w3 hp3 hg3 hv3
       have hr3 := (HP.out _ _ hg3).trans rP
       have hd33 : w3.cell? ⟨p, 7, none⟩ = some (.slice sa r.es.length sc) := (cell_row' (j := 7) hr3).trans rfl
       have hf33 := frozen_row' (j := 7) hr3
       obtain ⟨ta, tn, tc, rfl⟩ : ∃ a n c, v3 = .slice a n c := by
         rcases hp3.2 with ⟨e, _⟩ | ⟨g, cap, cur, e, _⟩
         · exact ⟨_, _, _, e⟩
         · exact ⟨_, _, _, e⟩
       have HP3 := Lib.hid hp3
       have HG3 := Lib.hid hg3
       have HV3 := Lib.hid hv3
       have HR3 := Lib.hid hr3
       clear hp3 hg3 hv3 hr3))
  all_goals
    have hown : ∀ k, (Value.slice sa r.es.length sc).ownBlock = some k → k < w.heap.size := fun k e => (World.ownsRow.lt h.es k e).2
    have hk3 : Keep (Value.slice sa r.es.length sc).ownBlock.toList W w3 := (((Keep.refl [] W).drew.alloc _).mono (F' := (Value.slice sa r.es.length sc).ownBlock.toList) (by simp)).grown HG3.out (fun k e => Or.inl (by rw [e]; simp))
    have rX3 := hk3.get rX (fun hm => by have := hown _ (by simpa using hm); omega)
    have hr4 := heap_setCell_same w3 p 7 _ _ (.slice ta tn tc) HR3.out
    have hpw : p < w.heap.size := lt_of_heap h.row
    have hk4 : Keep [p] w3 (w3.setCell ⟨p, 7, none⟩ (.slice ta tn tc)) := (Keep.refl _ _).setCell (by simp) _
    have rX4 := hk4.get rX3 (by simp; omega)
    have hvp3 : (Value.slice ta tn tc).ownBlock ≠ some p := fun e => by
      rcases HV3.out with h | ⟨k, h, hk⟩
      · exact hvp (h ▸ e)
      · rw [h] at e
        injection e with e
        have hk : (W.drew.alloc (.cells #[.int .i64 x.1, .int .i64 x.2] 92)).heap.size ≤ k := hk
        rw [World.size_alloc] at hk
        have h1 : W.drew.heap.size = W.heap.size := rfl
        have h2 := HSW.out
        omega
    have hE4 : (w3.setCell ⟨p, 7, none⟩ (.slice ta tn tc)).ownsRow 0 92 2 (.slice ta tn tc) (r.es ++ [x]).length (storedCells (r.es ++ [x])) := OwnLike.keep HP3.out hk4 (by simpa using hvp3)
    generalize w3.setCell ⟨p, 7, none⟩ (.slice ta tn tc) = W4 at *
    have c8 : W4.cell? ⟨p, 8, none⟩ = some (.int .i64 r.used) := (cell_row' (j := 8) hr4).trans rfl
    have f8 := frozen_row' (j := 8) hr4
    have cx4 : W4.cell? ⟨w.heap.size, 1, none⟩ = some (.int .i64 x.2) := (cell_row' (j := 1) rX4).trans rfl
    clear c7 cx0 cx1 c7A
    go_wp2
    go_still_tail 9, (by kernel_rfl)
    change wpList _ _ _ _ _ W4.drew
    go_wp2
    go_end0
    have hr5 := heap_setCell_same W4 p 8 _ _ (.int .i64 ((r.used : Int) + x.2)) hr4
    have hk5 : Keep [p] W4 (W4.setCell ⟨p, 8, none⟩ (.int .i64 ((r.used : Int) + x.2))) := (Keep.refl _ _).setCell (by simp) _
    refine ⟨rfl, .slice ta tn tc, ⟨hr5.trans (by simp [RV.cells, RV.add]), OwnLike.keep (F := [p]) hE4 hk5.drew (by simpa using hvp3)⟩, ?_, ?_⟩
    · have q1 : Keep (p :: (Value.slice sa r.es.length sc).ownBlock.toList) w w3 := (hk0.mono (F' := p :: (Value.slice sa r.es.length sc).ownBlock.toList) (by simp)).trans hk3 (fun y hy => Or.inl (by simp [hy]))
      exact ((q1.trans hk4 (by simp)).trans hk5 (by simp)).drew
    · rcases HV3.out with h | ⟨k, h, hk⟩
      · exact Or.inl h
      · refine Or.inr ⟨k, h, ?_⟩
        have hk : (W.drew.alloc (.cells #[.int .i64 x.1, .int .i64 x.2] 92)).heap.size ≤ k := hk
        rw [World.size_alloc] at hk
        have h1 : W.drew.heap.size = W.heap.size := rfl
        have h2 := HSW.out
        omega
end
end Go.Proofs.YtgopdbpddemplaaDoor
