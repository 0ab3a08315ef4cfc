/- ring: Format, find, Open: the pure forms. · Drawn regions: a ghost that knows which operations have come and what they yielded. -/
import Derived.Test.YtgopdbpddemplaaDoorPart18
set_option linter.unusedSimpArgs false
set_option linter.unusedVariables false
namespace Go.Proofs.YtgopdbpddemplaaDoor
section
/- ring: Format, find, Open: the pure forms. -/
open Go.RowKit

theorem AR.head_has {a : AR} {d : DK} (hf : a.fits d) (g : Nat) : d.has ((a.first + g % 2 : Nat) : Int) = true := by
  unfold AR.fits at hf
  unfold DK.has
  have : g % 2 < 2 := Nat.mod_lt _ (by omega)
  simp; omega
theorem decodeF_ok {x : List UInt8} {f : FrameV} {s : Nat} (h : decodeF x = .ok (f, s)) : 0 ≤ f.stream ∧ f.stream ≤ 2147483647 ∧ 0 ≤ f.number ∧ f.number ≤ 1099511627775 ∧ f.payload.length ≤ 262144 := by
  have b2 := fieldF_bd (x.take 18) 2 4 (by omega)
  have b6 := fieldF_bd (x.take 18) 6 8 (by omega)
  unfold decodeF at h
  simp only at h
  repeat' split at h
  all_goals first | (cases h; done) | skip
  cases h
  simp only [List.length_take, List.length_drop]
  omega
theorem bodyF_ok {d : DK} {a : AR} {place : Nat} {f : FrameV} {n : Nat} (h : bodyF d a place = some (f, n)) : 0 ≤ f.stream ∧ f.stream ≤ 2147483647 ∧ 0 ≤ f.number ∧ f.number ≤ 1099511627775 ∧ f.payload.length ≤ 262144 ∧ 1 ≤ n ∧ n ≤ 1000000 := by
  unfold bodyF at h
  split at h
  · rename_i f' size hd
    split at h
    · cases h
      obtain ⟨h1, h2, h3, h4, h5⟩ := decodeF_ok hd
      have hs := decodeF_lt hd
      refine ⟨h1, h2, h3, h4, h5, ?_, ?_⟩ <;> unfold blocksN <;> omega
    · cases h
  · cases h
theorem rdNum_bd (m : Int) (s : List UInt8 × Int) (hm : 0 ≤ m) : 0 ≤ (rdNum m s).1 ∧ (rdNum m s).1 ≤ m := by
  unfold rdNum
  split
  · exact ⟨Int.le_refl _, hm⟩
  · split
    · exact ⟨Int.le_refl _, hm⟩
    · rename_i n k hn
      unfold numF at hn
      split at hn
      · cases hn
      · split at hn
        · cases hn
        · cases hn
          exact ⟨by simp, by simp only; omega⟩
theorem rdNum_len (m : Int) (s : List UInt8 × Int) : (rdNum m s).2.1.length ≤ s.1.length := by
  unfold rdNum
  split
  · exact Nat.le_refl _
  · split
    · exact Nat.le_refl _
    · simp
theorem headF_ok {d : DK} {a : AR} {n : Nat} {h : HV} (ha : a.ok) (hh : headF d a n = some h) : h.ok ∧ h.place < a.places ∧ h.base ≤ h.generation := by
  have a1 := ha.2.1
  have a2 := ha.2.2
  unfold headF at hh
  split at hh
  · cases hh
  · rename_i f s hd
    obtain ⟨h1, h2, h3, h4, h5⟩ := decodeF_ok hd
    split at hh
    · simp only at hh
      split at hh
      · cases hh
        have q1 := rdNum_bd 1099511627775 (f.payload, 0) (by omega)
        have q2 := rdNum_bd ((a.places : Int) - 1) (rdNum 1099511627775 (f.payload, 0)).2 (by omega)
        have q3 := rdNum_bd f.stream (rdNum ((a.places : Int) - 1) (rdNum 1099511627775 (f.payload, 0)).2).2 h1
        exact ⟨⟨by simp only; omega, by simp only; omega, by simp only; omega, by simp only; omega⟩, by simp only; omega, by simp only; omega⟩
      · cases hh
    · cases hh
theorem currentF_ok {d : DK} {a : AR} {h : HV} (ha : a.ok) (hh : currentF d a = some h) : h.ok ∧ h.place < a.places ∧ h.base ≤ h.generation := by
  unfold currentF at hh
  split at hh
  · rename_i x y hx hy
    split at hh
    · cases hh; exact headF_ok ha hy
    · cases hh; exact headF_ok ha hx
  · rename_i x hx _
    cases hh; exact headF_ok ha hx
  · exact headF_ok ha hh

/-- the stream with which Format begins: what the places say -/
def genF (d : DK) (a : AR) (g : Nat) (xs : List Nat) : Nat :=
  xs.foldl (fun g x => match bodyF d a x with | some (f, _) => max g (f.stream + 1).toNat | none => g) g
theorem genF_snoc (d : DK) (a : AR) (g : Nat) (xs : List Nat) (x : Nat) : genF d a g (xs ++ [x]) = match bodyF d a x with | some (f, _) => max (genF d a g xs) (f.stream + 1).toNat | none => genF d a g xs := by simp [genF]
theorem genF_le (d : DK) (a : AR) (g : Nat) (hg : g ≤ 2147483648) (xs : List Nat) : genF d a g xs ≤ 2147483648 := by
  induction xs generalizing g with
  | nil => exact hg
  | cons x xs ih =>
    refine ih _ ?_
    show (match bodyF d a x with | some (f, _) => max g (f.stream + 1).toNat | none => g) ≤ _
    split
    · rename_i f n hb
      have := bodyF_ok hb
      exact Nat.max_le.2 ⟨hg, by omega⟩
    · exact hg
def gen0 (d : DK) (a : AR) : Nat := match currentF d a with | some h => h.generation + 1 | none => 0
/-- Format: the error, the device -/
def formatF (d : DK) (p : Nat) (first blocks : Int) : Int × DK :=
  if areaErr d first blocks ≠ 0 then (areaErr d first blocks, d)
  else
    let a := areaN p first blocks
    let g := genF d a (gen0 d a) (List.range a.places)
    if 2147483647 < g then (9, d) else putD d a ⟨g, 0, 0, g⟩

/-- the state of find: the ring, the stream, the entries -/
abbrev FSt := RV × Nat × List (Nat × List UInt8)
def findStep (d : DK) (s : FSt) : Option FSt :=
  if s.1.a.places - s.1.used = 0 then none
  else match bodyF d s.1.a ((s.1.h.place + s.1.used) % s.1.a.places) with
    | none => none
    | some (f, n) =>
      if f.number ≠ ((s.1.h.first + s.1.es.length : Nat) : Int) ∨ f.stream < s.2.1 ∨ f.stream > s.1.h.generation ∨ n > s.1.a.places - s.1.used then none
      else some (s.1.add (f.stream.toNat, n), f.stream.toNat, s.2.2 ++ [(f.number.toNat, f.payload)])
def findF (d : DK) : Nat → FSt → FSt
  | 0, s => s
  | k + 1, s => match findStep d s with | none => s | some t => findF d k t
/-- Open: the error, the device, the ring with the entries -/
def openF (d : DK) (p : Nat) (first blocks : Int) : Int × DK × Option (RV × List (Nat × List UInt8)) :=
  if areaErr d first blocks ≠ 0 then (areaErr d first blocks, d, none)
  else
    let a := areaN p first blocks
    match currentF d a with
    | none => (3, d, none)
    | some h =>
      if h.generation = 2147483647 then (9, d, none)
      else
        let s := findF d a.places (⟨a, h, [], 0, 0, 0⟩, h.base, [])
        let W := if a.places - s.1.used = 0 then (0, d) else d.write (a.blk ((h.place + s.1.used) % a.places) 0) zero512
        if W.1 ≠ 0 then (W.1, W.2, none)
        else
          let P := putD W.2 a { h with generation := h.generation + 1 }
          if P.1 ≠ 0 then (P.1, P.2, none)
          else (0, P.2, some ({ s.1 with h := { h with generation := h.generation + 1 }, synced := h.first + s.1.es.length }, s.2.2))
theorem findStep_inv {d : DK} {s t : FSt} (h : findStep d s = some t) (hu : s.1.used ≤ s.1.a.places) (hl : s.1.es.length ≤ s.1.used) :
    t.1.a = s.1.a ∧ t.1.h = s.1.h ∧ t.1.synced = s.1.synced ∧ t.1.failed = s.1.failed ∧ t.1.used ≤ t.1.a.places ∧ t.1.es.length ≤ t.1.used ∧ s.1.used < t.1.used ∧ t.2.2.length = s.2.2.length + 1 ∧ t.1.es.length = s.1.es.length + 1 := by
  unfold findStep at h
  split at h
  · cases h
  · split at h
    · cases h
    · rename_i f n hb
      have hbo := bodyF_ok hb
      split at h
      · cases h
      · rename_i hc
        cases h
        simp only [RV.add, List.length_append, List.length_singleton]
        refine ⟨trivial, trivial, trivial, trivial, ?_, ?_, ?_, trivial, trivial⟩ <;> omega
end

section
/- Drawn regions: a ghost that knows which operations have come and what they yielded. -/
open Go.RowKit

section
variable {P : Program} {Q : Exit → Act → World → Prop}
/-- what an operation waits for has come -/
def ReadyAt (l : List Oper) (listed : Array Bool) (k : Nat) : Prop := ∀ o, l[k]? = some o → ∀ e ∈ o.after, Region.binds .any e = true → listed.getD e.on false = true
theorem Closed.ahead {l : List Oper} {listed : Array Bool} {k : Nat} (h : Closed l listed) (hr : ReadyAt l listed k) (f i : Nat) (hw : waitsFor l (f + 1) k i = true) : listed.getD i false = true := by
  unfold waitsFor at hw
  cases ho : l[k]? with
  | none => rw [ho] at hw; cases hw
  | some o =>
    rw [ho] at hw
    simp only at hw
    obtain ⟨e, he, hb⟩ := List.any_eq_true.1 hw
    simp only [Bool.and_eq_true, Bool.or_eq_true, beq_iff_eq] at hb
    have hl := hr o ho e (by simpa using he) hb.1
    rcases hb.2 with hi | hi
    · rw [← hi]; exact hl
    · exact Closed.waits h f e.on i hi hl
def StepAtH (P : Program) (Q : Exit → Act → World → Prop) (l : List Oper) (R : World → World → Prop) (G : Array Bool → List Value → World → Prop) (V : List (Value → World → Prop)) (w₀ : World) (a : Act) (vs : List Value) (i : Nat) (v₁ : Value → World → Prop) (o : Oper) : Prop :=
  ∀ (w : World) (K : Act → World → Prop) (listed : Array Bool), R w₀ w → Pre V vs w o.after.toList →  G listed vs w → listed.getD i false = false → listed.size = l.length → Closed l listed → ReadyAt l listed i →
    (∀ v w', R w w' → v₁ v w' → G (listed.setIfInBounds i true) (vs.set i v) w' → K (a.put o.dst v) w') → wpList P l.toArray (After K Q) [o] a w
def StepsAtH (P : Program) (Q : Exit → Act → World → Prop) (ops : List Oper) (R : World → World → Prop) (G : Array Bool → List Value → World → Prop) (V : List (Value → World → Prop)) (w₀ : World) (a : Act) (vs : List Value) : Nat → List (Value → World → Prop) → List Oper → Prop
  | i, v₁ :: V', o :: l => StepAtH P Q ops R G V w₀ a vs i v₁ o ∧ StepsAtH P Q ops R G V w₀ a vs (i + 1) V' l
  | _, [], [] => True
  | _, _, _ => False
theorem StepsAtH.get {ops : List Oper} {R : World → World → Prop} {G : Array Bool → List Value → World → Prop} {V : List (Value → World → Prop)} {w₀ : World} {a : Act} {vs : List Value} :
    ∀ {i₀ : Nat} {V' : List (Value → World → Prop)} {l : List Oper}, StepsAtH P Q ops R G V w₀ a vs i₀ V' l → ∀ i o, l[i]? = some o → StepAtH P Q ops R G V w₀ a vs (i₀ + i) (V'.getD i (fun _ _ => True)) o
  | i₀, v₁ :: V', o :: l, h, 0, o', ho => by obtain rfl : o = o' := by simpa using ho
                                             simpa using h.1
  | i₀, v₁ :: V', o :: l, h, i + 1, o', ho => by
    have := h.2.get i o' (by simpa using ho)
    rw [show i₀ + 1 + i = i₀ + (i + 1) by omega] at this
    simpa using this
  | _, [], [], _, i, o, ho => by simp at ho
  | _, [], _ :: _, h, _, _, _ => h.elim
  | _, _ :: _, [], h, _, _, _ => h.elim

theorem wpAny_ghost2 {G : Array Bool → List Value → World → Prop} {R : World → World → Prop} {V : List (Value → World → Prop)} {l : List Oper} {a₀ : Act} {w₀ : World} (hA : Apart l) (hb : backB l = true)
    (htr : ∀ a b c, R a b → R b c → R a c) (hst : Stable R V)
    (hsteps : ∀ vs : List Value, vs.length = l.length → StepsAtH P Q l R G V w₀ (putAll l vs a₀) vs 0 V l)
    (hend : ∀ (vs : List Value) w listed, vs.length = l.length → R w₀ w → AllAt V vs w → (∀ i, i < l.length → listed.getD i false = true) → G listed vs w → Q .normal (putAll l vs a₀) w) :
    ∀ (fuel : Nat) (listed : Array Bool) (vs : List Value) (w : World), listed.size = l.length → vs.length = l.length → R w₀ w →  G listed vs w → Closed l listed →
      (∀ i, listed.getD i false = true → V.getD i (fun _ _ => True) (vs.getD i undef) w) →
      (listed.toList.filter (· == false)).length ≤ fuel →
      wpAny P .any l.toArray Q fuel listed (putAll l vs a₀) w := by
  intro fuel
  induction fuel with
  | zero =>
    intro listed vs w hsz hvs hR hG hC hV hf
    have hall : ∀ i, i < l.length → listed.getD i false = true := by
      intro i hi
      have h0 : listed.toList.filter (· == false) = [] := List.eq_nil_of_length_eq_zero (by omega)
      rw [List.filter_eq_nil_iff] at h0
      have h1 : i < listed.size := by omega
      have := h0 listed[i] (by simp)
      simp [h1]
      simpa using this
    refine ⟨?_, hend vs w listed hvs hR (AllAt.of fun i hi => hV i (hall i (by omega))) hall hG⟩
    unfold Region.ready
    rw [List.filter_eq_nil_iff]
    intro i hi
    have h1 := hall i (by simpa using hi)
    have h2 : i < listed.size := by have : i < l.length := by simpa using hi
                                    omega
    simp [h2] at h1 ⊢
    simp [h1]
  | succ fuel ih =>
    intro listed vs w hsz hvs hR hG hC hV hf
    refine ⟨fun hr => hend vs w listed hvs hR (AllAt.of fun i hi => hV i (all_listed hb hsz hr i (by omega))) (fun i hi => all_listed hb hsz hr i hi) hG, fun i hi => ?_⟩
    unfold Region.ready at hi
    obtain ⟨hi1, hi2⟩ := List.mem_filter.1 hi
    have hil : i < l.length := by simpa using hi1
    have h2 : l[i]? = some l[i] := List.getElem?_eq_getElem hil
    simp only [List.getElem?_toArray, h2, Option.map_some, Option.getD_some, Bool.and_eq_true, Array.all_eq_true_iff_forall_mem] at hi2
    have hlf : listed[i]? = some false := by
      have : i < listed.size := by omega
      have h3 := hi2.1
      simp [this] at h3 ⊢
      exact h3
    have hlf' : listed.getD i false = false := by
      have h9 : i < listed.size := by omega
      have h3 := hi2.1
      simp [h9] at h3 ⊢
      exact h3
    have hY : ReadyAt l listed i := fun o ho e he hbd => by
      rw [h2] at ho; cases ho
      have := hi2.2 e (by simpa using he)
      simpa [hbd] using this
    have hs := (hsteps vs hvs).get i l[i] h2 w (wpAny P .any l.toArray Q fuel (listed.setIfInBounds i true)) listed hR
      (Pre.of fun e he hbd => hV e.on (by
        have := hi2.2 e (by simpa using he)
        simpa [hbd] using this))
      hG (by rw [Nat.zero_add]; exact hlf') hsz hC (by rw [Nat.zero_add]; exact hY)
      (fun v w' hw' hv hg => by
        rw [← putAll_set l vs a₀ i l[i] v hA h2 hvs]
        refine ih _ _ _ (by simpa using hsz) (by simpa using hvs) (htr _ _ _ hR hw') (by rw [Nat.zero_add] at hg; exact hg) (hC.set i h2 (fun e he hbd => by
          have := hi2.2 e (by simpa using he)
          simpa [hbd] using this)) ?_ ?_
        · intro j hj
          by_cases hij : i = j
          · subst hij
            have : (vs.set i v).getD i undef = v := by simp [List.getD_eq_getElem?_getD, hvs, hil]
            rw [this]; exact hv
          · have h5 : (vs.set i v).getD j undef = vs.getD j undef := by simp [List.getD_eq_getElem?_getD, List.getElem?_set_ne hij]
            rw [h5]
            exact hst.get j w w' _ hw' (hV j (by simpa [Array.getElem?_setIfInBounds_ne hij] using hj))
        · have h6 : ∀ (bs : List Bool) (i : Nat), bs[i]? = some false → ((bs.set i true).filter (· == false)).length + 1 = (bs.filter (· == false)).length := by
            intro bs
            induction bs with
            | nil => intro i h; simp at h
            | cons b bs ihb =>
              intro i h
              cases i with
              | zero => obtain rfl : b = false := by simpa using h
                        simp
              | succ i =>
                have := ihb i (by simpa using h)
                cases b <;> simp at this ⊢ <;> omega
          have := h6 listed.toList i (by simpa using hlf)
          simp only [Array.toList_setIfInBounds]
          omega)
    unfold wpOp
    simp only [List.getElem?_toArray, h2]
    simp only [wpList] at hs
    split
    · rename_i hw
      simp only [hw, if_true] at hs
      rcases hs with hs | ⟨hs, hl⟩
      · left
        unfold Oper.wp at *
        generalize (execOp (putAll l vs a₀).eval l[i]).run P w = r at *
        cases r with
        | ok n w' =>
          cases n <;> simp only [Oper.upon] at hs ⊢
          case enter => exact Calls.mono hs (fun e w'' he => by cases e <;> first | exact he | (exact he))
          all_goals first | exact hs | skip
        | halt x w' => cases x <;> simp only [Oper.upon] at hs ⊢ <;> exact hs
      · right
        exact ⟨hs, hl⟩
    · rename_i hw
      simp only [hw] at hs
      exact hs

theorem wp_region_ghost2 {id : Nat} {a₀ : Act} {w₀ : World} {l : List Oper} (R : World → World → Prop) (G : Array Bool → List Value → World → Prop) (V : List (Value → World → Prop)) (hm : P.follows .mixedOrders = true)
    (hA : apartB l = true) (hb : backB l = true) (htr : ∀ a b c, R a b → R b c → R a c) (hre : ∀ a, R a a) (hst : Stable R V) (hg0 : ∀ vs, G (Array.replicate l.length false) vs w₀.drew)
    (h : AllVals l.length fun vs => StepsAtH P Q l R G V w₀.drew (putAll l vs a₀) vs 0 V l ∧ (∀ w listed, R w₀.drew w → AllAt V vs w → (∀ i, i < l.length → listed.getD i false = true) → G listed vs w → Q .normal (putAll l vs a₀) w)) :
    (Code.region id l.toArray true).wp P Q a₀ w₀ := by
  refine wp_region_any hm ?_
  -- the slots as they stand
  obtain ⟨vs, hvs, he⟩ : ∃ vs : List Value, vs.length = l.length ∧ putAll l vs a₀ = a₀ := by
    clear h hst hb hA hg0
    induction l generalizing a₀ with
    | nil => exact ⟨[], rfl, rfl⟩
    | cons o l ih =>
      obtain ⟨v, hv⟩ : ∃ v, a₀.put o.dst v = a₀ := by
        cases hd : o.dst with
        | none => exact ⟨undef, rfl⟩
        | some d =>
          refine ⟨a₀.tmps.getD d undef, ?_⟩
          cases a₀ with
          | mk tmps defers =>
            simp only [Act.put]
            congr 1
            apply Array.ext_getElem?
            intro i
            by_cases hi : d = i
            · subst hi
              by_cases hs : d < tmps.size <;> simp [hs]
            · simp [Array.getElem?_setIfInBounds_ne hi]
      obtain ⟨vs, h1, h2⟩ := ih (a₀ := a₀)
      exact ⟨v :: vs, by simp [h1], by simp only [putAll, hv, h2]⟩
  have := wpAny_ghost2 (P := P) (Q := Q) (G := G) (R := R) (V := V) (l := l) (a₀ := a₀) (w₀ := w₀.drew) (apart_of l hA) hb htr hst (fun vs hv => (h.get vs hv).1) (fun vs w listed hv hr ha hL hG => (h.get vs hv).2 w listed hr ha hL hG)
    l.length (Array.replicate l.length false) vs w₀.drew (by simp) hvs (hre _) (hg0 _) (Closed.none l) (by intro i hi; by_cases h : i < l.length <;> simp [h] at hi) (by simp)
  rw [he] at this
  simpa using this
end
end
end Go.Proofs.YtgopdbpddemplaaDoor
