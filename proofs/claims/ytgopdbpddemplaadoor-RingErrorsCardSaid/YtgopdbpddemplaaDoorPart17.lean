/- Drawn regions by what each operation yields, with a ghost that knows which operations have come. · ring: writeHead. · ring: an open ring in memory; its getters; end; Need. · ring: add. -/
import Derived.Test.YtgopdbpddemplaaDoorPart16
import Derived.Test.YtgopdbpddemplaaDoorPart15
set_option linter.unusedSimpArgs false
set_option linter.unusedVariables false
namespace Go.Proofs.YtgopdbpddemplaaDoor
section
/- Drawn regions by what each operation yields, with a ghost that knows which operations have come. -/
open Go.RowKit

section
variable {P : Program} {Q : Exit → Act → World → Prop}
/-- what has come had all come that it waits for -/
def Closed (l : List Oper) (listed : Array Bool) : Prop := ∀ j o, l[j]? = some o → listed.getD j false = true → ∀ e ∈ o.after, Region.binds .any e = true → listed.getD e.on false = true
theorem Closed.none (l : List Oper) : Closed l (Array.replicate l.length false) := fun j o _ h => by
  by_cases hj : j < l.length <;> simp [hj] at h
theorem Closed.set {l : List Oper} {listed : Array Bool} (h : Closed l listed) (i : Nat) {o : Oper} (ho : l[i]? = some o) (hp : ∀ e ∈ o.after, Region.binds .any e = true → listed.getD e.on false = true) : Closed l (listed.setIfInBounds i true) := fun j o' ho' hl e he hb => by
  have mono : ∀ k, listed.getD k false = true → (listed.setIfInBounds i true).getD k false = true := fun k hk => by
    by_cases hik : i = k
    · subst hik
      have hs : i < listed.size := by
        by_cases hs : i < listed.size
        · exact hs
        · simp [hs] at hk
      simp [hs]
    · simpa [Array.getElem?_setIfInBounds_ne hik] using hk
  by_cases hij : i = j
  · subst hij
    rw [ho] at ho'
    cases ho'
    exact mono _ (hp e he hb)
  · exact mono _ (h j o' ho' (by simpa [Array.getElem?_setIfInBounds_ne hij] using hl) e he hb)

def StepAtG (P : Program) (Q : Exit → Act → World → Prop) (l : List Oper) (R : World → World → Prop) (G : Array Bool → World → Prop) (V : List (Value → World → Prop)) (w₀ : World) (a : Act) (vs : List Value) (i : Nat) (v₁ : Value → World → Prop) (o : Oper) : Prop :=
  ∀ (w : World) (K : Act → World → Prop) (listed : Array Bool), R w₀ w → Pre V vs w o.after.toList → G listed w → listed.getD i false = false → listed.size = l.length → Closed l listed →
    (∀ v w', R w w' → v₁ v w' → G (listed.setIfInBounds i true) w' → K (a.put o.dst v) w') → wpList P l.toArray (After K Q) [o] a w
def StepsAtG (P : Program) (Q : Exit → Act → World → Prop) (ops : List Oper) (R : World → World → Prop) (G : Array Bool → World → Prop) (V : List (Value → World → Prop)) (w₀ : World) (a : Act) (vs : List Value) : Nat → List (Value → World → Prop) → List Oper → Prop
  | i, v₁ :: V', o :: l => StepAtG P Q ops R G V w₀ a vs i v₁ o ∧ StepsAtG P Q ops R G V w₀ a vs (i + 1) V' l
  | _, [], [] => True
  | _, _, _ => False
theorem StepsAtG.get {ops : List Oper} {R : World → World → Prop} {G : Array Bool → World → Prop} {V : List (Value → World → Prop)} {w₀ : World} {a : Act} {vs : List Value} :
    ∀ {i₀ : Nat} {V' : List (Value → World → Prop)} {l : List Oper}, StepsAtG P Q ops R G V w₀ a vs i₀ V' l → ∀ i o, l[i]? = some o → StepAtG P Q ops R G V w₀ a vs (i₀ + i) (V'.getD i (fun _ _ => True)) o
  | i₀, v₁ :: V', o :: l, h, 0, o', ho => by obtain rfl : o = o' := by simpa using ho
                                             simpa using h.1
  | i₀, v₁ :: V', o :: l, h, i + 1, o', ho => by
    have := h.2.get i o' (by simpa using ho)
    rw [show i₀ + 1 + i = i₀ + (i + 1) by omega] at this
    simpa using this
  | _, [], [], _, i, o, ho => by simp at ho
  | _, [], _ :: _, h, _, _, _ => h.elim
  | _, _ :: _, [], h, _, _, _ => h.elim

theorem wpAny_ghost {G : Array Bool → World → Prop} {R : World → World → Prop} {V : List (Value → World → Prop)} {l : List Oper} {a₀ : Act} {w₀ : World} (hA : Apart l) (hb : backB l = true)
    (htr : ∀ a b c, R a b → R b c → R a c) (hst : Stable R V)
    (hsteps : ∀ vs : List Value, vs.length = l.length → StepsAtG P Q l R G V w₀ (putAll l vs a₀) vs 0 V l)
    (hend : ∀ (vs : List Value) w, vs.length = l.length → R w₀ w → AllAt V vs w → Q .normal (putAll l vs a₀) w) :
    ∀ (fuel : Nat) (listed : Array Bool) (vs : List Value) (w : World), listed.size = l.length → vs.length = l.length → R w₀ w → G listed w → Closed l listed →
      (∀ i, listed.getD i false = true → V.getD i (fun _ _ => True) (vs.getD i undef) w) →
      (listed.toList.filter (· == false)).length ≤ fuel →
      wpAny P .any l.toArray Q fuel listed (putAll l vs a₀) w := by
  intro fuel
  induction fuel with
  | zero =>
    intro listed vs w hsz hvs hR hG hC hV hf
    have hall : ∀ i, i < l.length → listed.getD i false = true := by
      intro i hi
      have h0 : listed.toList.filter (· == false) = [] := List.eq_nil_of_length_eq_zero (by omega)
      rw [List.filter_eq_nil_iff] at h0
      have h1 : i < listed.size := by omega
      have := h0 listed[i] (by simp)
      simp [h1]
      simpa using this
    refine ⟨?_, hend vs w hvs hR (AllAt.of fun i hi => hV i (hall i (by omega)))⟩
    unfold Region.ready
    rw [List.filter_eq_nil_iff]
    intro i hi
    have h1 := hall i (by simpa using hi)
    have h2 : i < listed.size := by have : i < l.length := by simpa using hi
                                    omega
    simp [h2] at h1 ⊢
    simp [h1]
  | succ fuel ih =>
    intro listed vs w hsz hvs hR hG hC hV hf
    refine ⟨fun hr => hend vs w hvs hR (AllAt.of fun i hi => hV i (all_listed hb hsz hr i (by omega))), fun i hi => ?_⟩
    unfold Region.ready at hi
    obtain ⟨hi1, hi2⟩ := List.mem_filter.1 hi
    have hil : i < l.length := by simpa using hi1
    have h2 : l[i]? = some l[i] := List.getElem?_eq_getElem hil
    simp only [List.getElem?_toArray, h2, Option.map_some, Option.getD_some, Bool.and_eq_true, Array.all_eq_true_iff_forall_mem] at hi2
    have hlf : listed[i]? = some false := by
      have : i < listed.size := by omega
      have h3 := hi2.1
      simp [this] at h3 ⊢
      exact h3
    have hlf' : listed.getD i false = false := by
      have h9 : i < listed.size := by omega
      have h3 := hi2.1
      simp [h9] at h3 ⊢
      exact h3
    have hs := (hsteps vs hvs).get i l[i] h2 w (wpAny P .any l.toArray Q fuel (listed.setIfInBounds i true)) listed hR
      (Pre.of fun e he hbd => hV e.on (by
        have := hi2.2 e (by simpa using he)
        simpa [hbd] using this))
      hG (by rw [Nat.zero_add]; exact hlf') hsz hC
      (fun v w' hw' hv hg => by
        rw [← putAll_set l vs a₀ i l[i] v hA h2 hvs]
        refine ih _ _ _ (by simpa using hsz) (by simpa using hvs) (htr _ _ _ hR hw') (by rw [Nat.zero_add] at hg; exact hg) (hC.set i h2 (fun e he hbd => by
          have := hi2.2 e (by simpa using he)
          simpa [hbd] using this)) ?_ ?_
        · intro j hj
          by_cases hij : i = j
          · subst hij
            have : (vs.set i v).getD i undef = v := by simp [List.getD_eq_getElem?_getD, hvs, hil]
            rw [this]; exact hv
          · have h5 : (vs.set i v).getD j undef = vs.getD j undef := by simp [List.getD_eq_getElem?_getD, List.getElem?_set_ne hij]
            rw [h5]
            exact hst.get j w w' _ hw' (hV j (by simpa [Array.getElem?_setIfInBounds_ne hij] using hj))
        · have h6 : ∀ (bs : List Bool) (i : Nat), bs[i]? = some false → ((bs.set i true).filter (· == false)).length + 1 = (bs.filter (· == false)).length := by
            intro bs
            induction bs with
            | nil => intro i h; simp at h
            | cons b bs ihb =>
              intro i h
              cases i with
              | zero => obtain rfl : b = false := by simpa using h
                        simp
              | succ i =>
                have := ihb i (by simpa using h)
                cases b <;> simp at this ⊢ <;> omega
          have := h6 listed.toList i (by simpa using hlf)
          simp only [Array.toList_setIfInBounds]
          omega)
    unfold wpOp
    simp only [List.getElem?_toArray, h2]
    simp only [wpList] at hs
    split
    · rename_i hw
      simp only [hw, if_true] at hs
      rcases hs with hs | ⟨hs, hl⟩
      · left
        unfold Oper.wp at *
        generalize (execOp (putAll l vs a₀).eval l[i]).run P w = r at *
        cases r with
        | ok n w' =>
          cases n <;> simp only [Oper.upon] at hs ⊢
          case enter => exact Calls.mono hs (fun e w'' he => by cases e <;> first | exact he | (exact he))
          all_goals first | exact hs | skip
        | halt x w' => cases x <;> simp only [Oper.upon] at hs ⊢ <;> exact hs
      · right
        exact ⟨hs, hl⟩
    · rename_i hw
      simp only [hw] at hs
      exact hs

theorem wp_region_ghost {id : Nat} {a₀ : Act} {w₀ : World} {l : List Oper} (R : World → World → Prop) (G : Array Bool → World → Prop) (V : List (Value → World → Prop)) (hm : P.follows .mixedOrders = true)
    (hA : apartB l = true) (hb : backB l = true) (htr : ∀ a b c, R a b → R b c → R a c) (hre : ∀ a, R a a) (hst : Stable R V) (hg0 : G (Array.replicate l.length false) w₀.drew)
    (h : AllVals l.length fun vs => StepsAtG P Q l R G V w₀.drew (putAll l vs a₀) vs 0 V l ∧ (∀ w, R w₀.drew w → AllAt V vs w → Q .normal (putAll l vs a₀) w)) :
    (Code.region id l.toArray true).wp P Q a₀ w₀ := by
  refine wp_region_any hm ?_
  -- the slots as they stand
  obtain ⟨vs, hvs, he⟩ : ∃ vs : List Value, vs.length = l.length ∧ putAll l vs a₀ = a₀ := by
    clear h hst hb hA hg0
    induction l generalizing a₀ with
    | nil => exact ⟨[], rfl, rfl⟩
    | cons o l ih =>
      obtain ⟨v, hv⟩ : ∃ v, a₀.put o.dst v = a₀ := by
        cases hd : o.dst with
        | none => exact ⟨undef, rfl⟩
        | some d =>
          refine ⟨a₀.tmps.getD d undef, ?_⟩
          cases a₀ with
          | mk tmps defers =>
            simp only [Act.put]
            congr 1
            apply Array.ext_getElem?
            intro i
            by_cases hi : d = i
            · subst hi
              by_cases hs : d < tmps.size <;> simp [hs]
            · simp [Array.getElem?_setIfInBounds_ne hi]
      obtain ⟨vs, h1, h2⟩ := ih (a₀ := a₀)
      exact ⟨v :: vs, by simp [h1], by simp only [putAll, hv, h2]⟩
  have := wpAny_ghost (P := P) (Q := Q) (G := G) (R := R) (V := V) (l := l) (a₀ := a₀) (w₀ := w₀.drew) (apart_of l hA) hb htr hst (fun vs hv => (h.get vs hv).1) (fun vs w hv hr ha => (h.get vs hv).2 w hr ha)
    l.length (Array.replicate l.length false) vs w₀.drew (by simp) hvs (hre _) hg0 (Closed.none l) (by intro i hi; by_cases h : i < l.length <;> simp [h] at hi) (by simp)
  rw [he] at this
  simpa using this
end
end

section
/- ring: writeHead. -/
open Go.RowKit

set_option maxRecDepth 100000 in
set_option maxHeartbeats 2000000 in
theorem writeHead_any {F : List Nat} {w : World} {d : DK} {a : AR} {h : HV} (hG : Glob w) (hD : DiskAt w a.p d F) (hd : d.down = false) (ha : a.ok) (hf : a.fits d) (hh : h.ok) (hlen : d.pend.length ≤ 100000000) :
    Calls Tryd.prog 34 #[.agg a.cells, .agg h.cells] w fun e w' => e = .returned (.int .i64 (putD d a h).1) ∧ ∃ F', DiskAt w' a.p (putD d a h).2 F' ∧ Keep F w w' ∧ ∀ x ∈ F', x ∈ F ∨ w.heap.size ≤ x := by
  obtain ⟨F1, hD1, hF1⟩ := hD.tight
  have hpl := hh.pay
  have htl := hh.text
  have hbl := hh.bytes
  have hmk := run_make512
  unfold AR.cells HV.cells
  go_enter Tryd.func34, Tryd.ntmps34
  obtain ⟨W0, hW0⟩ : ∃ W0, W0 = (w.alloc (.cells #[.pointer (some ⟨a.p, 0, none⟩), .int .i64 a.first, .int .i64 a.places] 63)).alloc (.cells #[.int .i64 h.generation, .int .i64 h.first, .int .i64 h.place, .int .i64 h.base] 61) := ⟨_, rfl⟩
  have hK0 : Keep [] w W0 := by rw [hW0]; exact ((Keep.refl [] w).alloc _).alloc _
  have rA : W0.heap[w.heap.size]? = some (.cells #[.pointer (some ⟨a.p, 0, none⟩), .int .i64 a.first, .int .i64 a.places] 63 (0, 0)) := by rw [hW0]; exact (heap_alloc_past (by simp)).trans (heap_alloc_new w _)
  have rH : W0.heap[w.heap.size + 1]? = some (.cells #[.int .i64 h.generation, .int .i64 h.first, .int .i64 h.place, .int .i64 h.base] 61 (0, 0)) := by rw [hW0]; exact heap_alloc_at (by simp)
  have hW0s : W0.heap.size = w.heap.size + 1 + 1 := by rw [hW0]; simp
  have HE : Hid (h.pay = natF h.first ++ natF h.place ++ natF h.base) := Lib.hid rfl
  have HT : Hid (h.text = encodeF 1 h.generation 0 h.pay) := Lib.hid rfl
  have hn1 := natF_length10 h.first (by have := hh.f; omega)
  have hn2 := natF_length10 h.place (by have := hh.p; omega)
  have hg0 := hh.g
  have hf0 := hh.f
  have hp0 := hh.p
  have hb0 := hh.b
  have hle : W0.heap.size ≤ w.heap.size + 1 + 1 := by omega
  go_upto_region 2 with (first
    | (go_at_call 58; rw [← hW0]; refine (newWriter_any W0).mono ?_; rintro e w1 ⟨rfl, hw1, hk1, hs1⟩; rw [hW0s] at hw1))
  have hc1 : w1.cell? ⟨w.heap.size + 1, 1, none⟩ = some (.int .i64 h.first) := (cell_row' (j := 1) (hk1.get rH (by simp))).trans rfl
  go_upto_region 3 with (go_at_call 59; refine (wnumber_ok h.first (w.heap.size + 1 + 1) (w.heap.size + 1 + 1 + 1) [] w1 hw1 (by omega) (by simp)).mono ?_; rintro e w2 ⟨rfl, hw2, hq2⟩; rw [List.nil_append] at hw2)
  have hk2 : Keep [] W0 w2 := hq2 [] W0 hk1 hle
  have hc2 : w2.cell? ⟨w.heap.size + 1, 2, none⟩ = some (.int .i64 h.place) := (cell_row' (j := 2) (hk2.get rH (by simp))).trans rfl
  go_upto_region 4 with (go_at_call 59; refine (wnumber_ok h.place (w.heap.size + 1 + 1) (w.heap.size + 1 + 1 + 1) _ w2 hw2 (by omega) (by omega)).mono ?_; rintro e w3 ⟨rfl, hw3, hq3⟩)
  have hk3 : Keep [] W0 w3 := hq3 [] W0 hk2 hle
  have hc3 : w3.cell? ⟨w.heap.size + 1, 3, none⟩ = some (.int .i64 h.base) := (cell_row' (j := 3) (hk3.get rH (by simp))).trans rfl
  have hl3 : (natF h.first ++ natF h.place).length ≤ 1000000000 := by rw [List.length_append]; omega
  go_upto_region 5 with (go_at_call 59; refine (wnumber_ok h.base (w.heap.size + 1 + 1) (w.heap.size + 1 + 1 + 1) _ w3 hw3 (by omega) hl3).mono ?_; rintro e w4 ⟨rfl, hw4, hq4⟩; rw [← HE.out] at hw4)
  have hk4 : Keep [] W0 w4 := hq4 [] W0 hk3 hle
  go_upto_region 8 with (go_at_call 60; refine (wbytes_ok _ _ _ w4 hw4 (by omega)).mono ?_; rintro e w5 ⟨v5, rfl, hB5, hq5⟩; obtain ⟨sa, sn, sc, rfl⟩ := hB5.isSlice)
  have hk5 : Keep [] W0 w5 := hk4.then hq5
  have hc5 : w5.cell? ⟨w.heap.size + 1, 0, none⟩ = some (.int .i64 h.generation) := (cell_row' (j := 0) (hk5.get rH (by simp))).trans rfl
  have hcv := hB5.string (P := Tryd.prog) (src := 35) (dst := 9) Tryd.underlying35 Tryd.underlying5 Tryd.underlying9
  have hG5 : Glob w5 := (hG.keep0 hK0).keep0 hk5
  unfold str at hcv
  go_upto_region 11 with (go_at_call 39; refine (encode_ok 1 h.generation 0 h.pay w5 hG5 (by omega) (by omega) (by omega) (by omega) (by omega) (by omega) (by omega)).mono ?_; rw [← HT.out]; unfold str; rintro e w6 ⟨rfl, hq6⟩)
  have hk6 : Keep [] W0 w6 := hk5.then hq6
  have hK6 : Keep [] w w6 := hK0.then hk6
  have hD6 := hD1.keep0 hK6
  have hhas : ∀ b : Int, b = ((a.first + h.generation % 2 : Nat) : Int) → d.has b = true := fun b hb => by
    subst hb
    unfold DK.has
    have := ha.2.1
    have hf' := hf
    unfold AR.fits at hf'
    simp only [decide_eq_true_eq]
    omega
  have rA6 := hk6.get rA (by simp)
  have rH6 := hk6.get rH (by simp)
  have q6 := hK6.size
  have q7 := hk6.size
  have hmin : min (ByteArray.mk h.text.toArray).size 512 = h.text.length := by simp [ByteArray.size]; omega
  have HB64 : Hid (wrap64 ((a.first : Int) + (h.generation : Int) % 2) = ((a.first + h.generation % 2 : Nat) : Int)) := Lib.hid (by
    have := ha.1
    unfold wrap64; omega)
  by_cases he : (d.write ((a.first + h.generation % 2 : Nat) : Int) h.bytes).1 = 0
  · have hpd : Hid (putD d a h = (d.write ((a.first + h.generation % 2 : Nat) : Int) h.bytes).2.flush) := Lib.hid (by unfold putD; simp only; rw [if_neg (by simpa using he)])
    have HE2 := Lib.hid he
    clear he
    go_wp2_with (first
      | (refine wpList_copy_str rfl (.tmp 45) (.tmp 46) 35 9 rfl w6.heap.size 0 512 512 ⟨h.text.toArray⟩ rfl rfl h.text.length hmin 5 (cellsOf zero512) 5 Tryd.underlying35 (by kernel_rfl) (heap_alloc_new w6 _) (by rw [cellsOf_size]; simp [zero512]; omega) ?_
         intro w7 hq7 hr7
         have hr7' : w7.heap[w6.heap.size]? = some (.cells (cellsOf h.bytes) 5 (0, 0)) := by
           rw [hr7, ← over_text h hh]
           simp
         have hk7 : Keep [] w6 w7 := ((Keep.refl [] w6).alloc _).trans hq7 (by simp)
         have hD7 := hD6.keep0 hk7
         have rA7 := hk7.get rA6 (by simp)
         have cA7 : w7.cell? ⟨w.heap.size, 0, none⟩ = some (.pointer (some ⟨a.p, 0, none⟩)) := (cell_row' (j := 0) rA7).trans rfl
         have cA71 : w7.cell? ⟨w.heap.size, 1, none⟩ = some (.int .i64 a.first) := (cell_row' (j := 1) rA7).trans rfl
         have cH7 : w7.cell? ⟨w.heap.size + 1, 0, none⟩ = some (.int .i64 h.generation) := (cell_row' (j := 0) (hk7.get rH6 (by simp))).trans rfl)
      | (go_at_call 33; rw [HB64.out]; refine (write_any hD7 ((a.first + h.generation % 2 : Nat) : Int) h.bytes w6.heap.size 5 (0, 0) hr7' (fun hm => by have := (hF1 _ hm).2; omega) hbl hd (hhas _ rfl) hlen).mono ?_; rintro e w8 ⟨rfl, F8, hD8, hk8, hF8⟩; rw [HE2.out]
         have cA8 : w8.cell? ⟨w.heap.size, 0, none⟩ = some (.pointer (some ⟨a.p, 0, none⟩)) := (cell_row' (j := 0) (hk8.get rA7 (fun hm => by have := (hF1 _ hm).2; omega))).trans rfl)
      | (go_at_call 44; refine (flush_any hD8).mono ?_; rintro e w9 ⟨rfl, hD9, hk9⟩))
    go_ret
    have kw8 : Keep F1 w w8 := ((hK6.then hk7).mono (F' := F1) (by simp)).trans hk8 (fun x hx => Or.inl hx)
    have hw7 : w.heap.size ≤ w7.heap.size := Nat.le_trans q6 hk7.size
    have kw9 : Keep F1 w w9 := kw8.trans hk9 (fun x hx => by
      rcases hF8 x hx with h | h
      · exact Or.inl h
      · exact Or.inr (by omega))
    refine ⟨by rw [hpd.out]; rfl, F8, by rw [hpd.out]; exact hD9, kw9.mono (fun x hx => Or.inl (hF1 x hx).1), fun x hx => ?_⟩
    rcases hF8 x hx with h | h
    · exact Or.inl (hF1 x h).1
    · exact Or.inr (by omega)
  · have hpd : Hid (putD d a h = d.write ((a.first + h.generation % 2 : Nat) : Int) h.bytes) := Lib.hid (by unfold putD; simp only; rw [if_pos (by simpa using he)])
    have heb : ((d.write ((a.first + h.generation % 2 : Nat) : Int) h.bytes).1 == 0) = false := by simpa using he
    clear he
    generalize hwr : d.write ((a.first + h.generation % 2 : Nat) : Int) h.bytes = r at *
    have HWR := Lib.hid hwr
    clear hwr
    go_wp2_with (first
      | (refine wpList_copy_str rfl (.tmp 45) (.tmp 46) 35 9 rfl w6.heap.size 0 512 512 ⟨h.text.toArray⟩ rfl rfl h.text.length hmin 5 (cellsOf zero512) 5 Tryd.underlying35 (by kernel_rfl) (heap_alloc_new w6 _) (by rw [cellsOf_size]; simp [zero512]; omega) ?_
         intro w7 hq7 hr7
         have hr7' : w7.heap[w6.heap.size]? = some (.cells (cellsOf h.bytes) 5 (0, 0)) := by
           rw [hr7, ← over_text h hh]
           simp
         have hk7 : Keep [] w6 w7 := ((Keep.refl [] w6).alloc _).trans hq7 (by simp)
         have hD7 := hD6.keep0 hk7
         have rA7 := hk7.get rA6 (by simp)
         have cA7 : w7.cell? ⟨w.heap.size, 0, none⟩ = some (.pointer (some ⟨a.p, 0, none⟩)) := (cell_row' (j := 0) rA7).trans rfl
         have cA71 : w7.cell? ⟨w.heap.size, 1, none⟩ = some (.int .i64 a.first) := (cell_row' (j := 1) rA7).trans rfl
         have cH7 : w7.cell? ⟨w.heap.size + 1, 0, none⟩ = some (.int .i64 h.generation) := (cell_row' (j := 0) (hk7.get rH6 (by simp))).trans rfl)
      | (go_at_call 33; rw [HB64.out]; refine (write_any hD7 ((a.first + h.generation % 2 : Nat) : Int) h.bytes w6.heap.size 5 (0, 0) hr7' (fun hm => by have := (hF1 _ hm).2; omega) hbl hd (hhas _ rfl) hlen).mono ?_; rw [HWR.out]; rintro e w8 ⟨rfl, F8, hD8, hk8, hF8⟩)
      )
    go_ret
    have kw8 : Keep F1 w w8 := ((hK6.then hk7).mono (F' := F1) (by simp)).trans hk8 (fun x hx => Or.inl hx)
    have hw7 : w.heap.size ≤ w7.heap.size := Nat.le_trans q6 hk7.size
    refine ⟨by rw [hpd.out]; rfl, F8, by rw [hpd.out]; exact hD8, kw8.mono (fun x hx => Or.inl (hF1 x hx).1), fun x hx => ?_⟩
    rcases hF8 x hx with h | h
    · exact Or.inl (hF1 x h).1
    · exact Or.inr (by omega)
end

section
/- ring: an open ring in memory; its getters; end; Need. -/
open Go.RowKit

structure RV where
  a : AR
  h : HV
  es : List (Nat × Nat)
  used : Nat
  synced : Nat
  failed : Int
def storedCells (l : List (Nat × Nat)) : List Value := (l.map fun x => [Value.int .i64 x.1, Value.int .i64 x.2]).flatten
def RV.cells (r : RV) (v : Value) : Array Value := #[.pointer (some ⟨r.a.p, 0, none⟩), .int .i64 r.a.first, .int .i64 r.a.places, .int .i64 r.h.generation, .int .i64 r.h.first, .int .i64 r.h.place, .int .i64 r.h.base, v, .int .i64 r.used, .int .i64 r.synced, .int .i64 r.failed]
/-- an open ring at a block -/
structure RingIs (w : World) (p : Nat) (r : RV) (v : Value) : Prop where
  row : w.heap[p]? = some (.cells (r.cells v) 66 (0, 0))
  es : w.ownsRow 0 92 2 v r.es.length (storedCells r.es)
structure RV.ok (r : RV) : Prop where
  a : r.a.ok
  h : r.h.ok
  used : r.used ≤ r.a.places
  es : r.es.length ≤ 1000000
theorem RingIs.slice {w : World} {p : Nat} {r : RV} {v : Value} (h : RingIs w p r v) : ∃ a c, v = .slice a r.es.length c := by
  rcases h.es.2 with ⟨rfl, h0⟩ | ⟨g, cap, cur, rfl, _⟩
  · exact ⟨none, 0, by rw [h0]⟩
  · exact ⟨_, _, rfl⟩

set_option maxHeartbeats 400000 in
theorem first_any {w : World} {p : Nat} {r : RV} {v : Value} (h : RingIs w p r v) : Calls Tryd.prog 14 #[.pointer (some ⟨p, 0, none⟩)] w fun e w' => e = .returned (.int .i64 r.h.first) ∧ w' = w := by
  have hc : w.cell? ⟨p, 4, none⟩ = some (.int .i64 r.h.first) := (cell_row' (j := 4) h.row).trans rfl
  go_enter Tryd.func14, Tryd.ntmps14
  go_wp2
  go_ret
  exact ⟨rfl, rfl⟩
set_option maxHeartbeats 400000 in
theorem synced_any {w : World} {p : Nat} {r : RV} {v : Value} (h : RingIs w p r v) : Calls Tryd.prog 25 #[.pointer (some ⟨p, 0, none⟩)] w fun e w' => e = .returned (.int .i64 r.synced) ∧ w' = w := by
  have hc : w.cell? ⟨p, 9, none⟩ = some (.int .i64 r.synced) := (cell_row' (j := 9) h.row).trans rfl
  go_enter Tryd.func25, Tryd.ntmps25
  go_wp2
  go_ret
  exact ⟨rfl, rfl⟩
set_option maxHeartbeats 400000 in
theorem generation_any {w : World} {p : Nat} {r : RV} {v : Value} (h : RingIs w p r v) : Calls Tryd.prog 26 #[.pointer (some ⟨p, 0, none⟩)] w fun e w' => e = .returned (.int .i64 r.h.generation) ∧ w' = w := by
  have hc : w.cell? ⟨p, 3, none⟩ = some (.int .i64 r.h.generation) := (cell_row' (j := 3) h.row).trans rfl
  go_enter Tryd.func26, Tryd.ntmps26
  go_wp2
  go_ret
  exact ⟨rfl, rfl⟩
set_option maxHeartbeats 400000 in
theorem failed_any {w : World} {p : Nat} {r : RV} {v : Value} (h : RingIs w p r v) : Calls Tryd.prog 24 #[.pointer (some ⟨p, 0, none⟩)] w fun e w' => e = .returned (.int .i64 r.failed) ∧ w' = w := by
  have hc : w.cell? ⟨p, 10, none⟩ = some (.int .i64 r.failed) := (cell_row' (j := 10) h.row).trans rfl
  go_enter Tryd.func24, Tryd.ntmps24
  go_wp2
  go_ret
  exact ⟨rfl, rfl⟩
set_option maxRecDepth 100000 in
set_option maxHeartbeats 1000000 in
theorem next_any {w : World} {p : Nat} {r : RV} {v : Value} (h : RingIs w p r v) (hr : r.ok) : Calls Tryd.prog 10 #[.pointer (some ⟨p, 0, none⟩)] w fun e w' => e = .returned (.int .i64 (r.h.first + r.es.length : Nat)) ∧ Keep [] w w' := by
  have h1 := hr.h.f
  have h2 := hr.es
  obtain ⟨sa, sc, rfl⟩ := h.slice
  have hc : w.cell? ⟨p, 4, none⟩ = some (.int .i64 r.h.first) := (cell_row' (j := 4) h.row).trans rfl
  have hc7 : w.cell? ⟨p, 7, none⟩ = some (.slice sa r.es.length sc) := (cell_row' (j := 7) h.row).trans rfl
  go_enter Tryd.func10, Tryd.ntmps10
  go_wp2
  go_still (by kernel_rfl)
  go_wp2
  go_ret
  exact ⟨ret_int (by rw [wraps_i64 _ (by omega) (by omega)]; omega), (Keep.refl _ _).drew⟩
set_option maxRecDepth 100000 in
set_option maxHeartbeats 1000000 in
theorem free_any {w : World} {p : Nat} {r : RV} {v : Value} (h : RingIs w p r v) (hr : r.ok) : Calls Tryd.prog 15 #[.pointer (some ⟨p, 0, none⟩)] w fun e w' => e = .returned (.int .i64 (r.a.places - r.used : Nat)) ∧ Keep [] w w' := by
  have h1 := hr.a.2.2
  have h2 := hr.used
  have hc : w.cell? ⟨p, 2, none⟩ = some (.int .i64 r.a.places) := (cell_row' (j := 2) h.row).trans rfl
  have hc7 : w.cell? ⟨p, 8, none⟩ = some (.int .i64 r.used) := (cell_row' (j := 8) h.row).trans rfl
  go_enter Tryd.func15, Tryd.ntmps15
  go_wp2
  go_still (by kernel_rfl)
  go_wp2
  go_ret
  exact ⟨ret_int (by rw [wraps_i64 _ (by omega) (by omega)]; omega), (Keep.refl _ _).drew⟩
set_option maxHeartbeats 400000 in
theorem first_nil (w : World) : Calls Tryd.prog 14 #[.pointer none] w fun e w' => e = .returned (.int .i64 0) ∧ w' = w := by
  go_enter Tryd.func14, Tryd.ntmps14
  go_wp2
  go_ret
  exact ⟨rfl, rfl⟩
set_option maxHeartbeats 400000 in
theorem next_nil (w : World) : Calls Tryd.prog 10 #[.pointer none] w fun e w' => e = .returned (.int .i64 0) ∧ w' = w := by
  go_enter Tryd.func10, Tryd.ntmps10
  go_wp2
  go_ret
  exact ⟨rfl, rfl⟩
set_option maxHeartbeats 400000 in
theorem synced_nil (w : World) : Calls Tryd.prog 25 #[.pointer none] w fun e w' => e = .returned (.int .i64 0) ∧ w' = w := by
  go_enter Tryd.func25, Tryd.ntmps25
  go_wp2
  go_ret
  exact ⟨rfl, rfl⟩
set_option maxHeartbeats 400000 in
theorem free_nil (w : World) : Calls Tryd.prog 15 #[.pointer none] w fun e w' => e = .returned (.int .i64 0) ∧ w' = w := by
  go_enter Tryd.func15, Tryd.ntmps15
  go_wp2
  go_ret
  exact ⟨rfl, rfl⟩
set_option maxHeartbeats 400000 in
theorem generation_nil (w : World) : Calls Tryd.prog 26 #[.pointer none] w fun e w' => e = .returned (.int .i64 0) ∧ w' = w := by
  go_enter Tryd.func26, Tryd.ntmps26
  go_wp2
  go_ret
  exact ⟨rfl, rfl⟩
set_option maxHeartbeats 400000 in
theorem failed_nil (w : World) : Calls Tryd.prog 24 #[.pointer none] w fun e w' => e = .returned (.int .i64 1) ∧ w' = w := by
  go_enter Tryd.func24, Tryd.ntmps24
  go_wp2
  go_ret
  exact ⟨rfl, rfl⟩

set_option maxRecDepth 100000 in
set_option maxHeartbeats 1000000 in
theorem end_any {w : World} {p : Nat} {r : RV} {v : Value} (h : RingIs w p r v) (hr : r.ok) : Calls Tryd.prog 32 #[.pointer (some ⟨p, 0, none⟩)] w fun e w' => e = .returned (.int .i64 ((r.h.place + r.used) % r.a.places : Nat)) ∧ Keep [] w w' := by
  have h1 := hr.a.2.2
  have h0 := hr.a.2.1
  have h2 := hr.used
  have h3 := hr.h.p
  have hne : ¬ ((r.a.places : Int) = 0) := by omega
  have hne2 : ¬ (r.a.places = 0) := by omega
  have hne3 : ((r.a.places : Int) == 0) = false := by simpa using hne2
  have hc2 : w.cell? ⟨p, 2, none⟩ = some (.int .i64 r.a.places) := (cell_row' (j := 2) h.row).trans rfl
  have hc5 : w.cell? ⟨p, 5, none⟩ = some (.int .i64 r.h.place) := (cell_row' (j := 5) h.row).trans rfl
  have hc8 : w.cell? ⟨p, 8, none⟩ = some (.int .i64 r.used) := (cell_row' (j := 8) h.row).trans rfl
  go_enter Tryd.func32, Tryd.ntmps32
  go_wp2
  go_still (by kernel_rfl)
  go_wp2
  go_ret
  refine ⟨ret_int ?_, (Keep.refl _ _).drew⟩
  rw [wraps_i64 ((r.h.place : Int) + r.used) (by omega) (by omega)]
  have := Int.ofNat_tmod (r.h.place + r.used) r.a.places
  rw [this]
  congr 1

set_option maxHeartbeats 1000000 in
theorem need_ok (n : Nat) (w : World) (h : n ≤ 131072) : Calls Tryd.prog 19 #[.int .i64 n] w fun e w' => e = .returned (.tuple #[.int .i64 (blocksN (26 + n + 16) : Nat), .int .i64 0]) ∧ w' = w := by
  go_enter Tryd.func19, Tryd.ntmps19
  go_wp2_with (first
    | (go_at_call 36; refine (size_ok n w (by omega) (by omega)).mono ?_; rintro e w1 ⟨rfl, hw⟩; obtain rfl := hw.symm)
    | (go_at_call 37; refine (blocksOf_any (26 + n + 16) _ (by omega) (by omega)).mono ?_; rintro e w1 ⟨rfl, hw⟩; obtain rfl := hw.symm))
  go_ret2
  have e : ((26 + (n : Int) + 525) / 511) = ((blocksN (26 + n + 16) : Nat) : Int) := by unfold blocksN; omega
  refine ⟨?_, rfl⟩
  show Ending.returned (.tuple #[.int .i64 ((26 + (n : Int) + 525) / 511), .int .i64 0]) = _
  rw [e]
set_option maxHeartbeats 1000000 in
theorem need_bad (n : Int) (w : World) (h : n < 0 ∨ 131072 < n) : Calls Tryd.prog 19 #[.int .i64 n] w fun e w' => e = .returned (.tuple #[.int .i64 0, .int .i64 2]) ∧ w' = w := by
  by_cases h0 : n < 0
  · go_enter Tryd.func19, Tryd.ntmps19
    go_wp2
    go_ret2
    exact ⟨rfl, rfl⟩
  · have h0' : 0 ≤ n := by omega
    have h1 : 131072 < n := by omega
    go_enter Tryd.func19, Tryd.ntmps19
    go_wp2
    go_ret2
    exact ⟨rfl, rfl⟩
end

section
/- ring: add. -/
open Go.RowKit

theorem info_stored : (Tryd.prog.info? 92).map (fun i => (i.zero, i.size, i.bytes)) = some (some (.agg #[.int .i64 0, .int .i64 0]), 2, 16) := by kernel_rfl
theorem storedCells_snoc (l : List (Nat × Nat)) (x : Nat × Nat) : storedCells (l ++ [x]) = storedCells l ++ [.int .i64 x.1, .int .i64 x.2] := by simp [storedCells]

theorem step_append_stored {w : World} {ops : Array Oper} {o : Oper} {a : Act} {K : Act → World → Prop} {Q : Exit → Act → World → Prop} {E : Prop} (hgd : o.guard = none) (s xo : Operand)
    (ho : o.op = .call { callee := .builtin .append, args := #[s, xo], argTypes := #[64, 64] })
    (v : Value) (l : List (Nat × Nat)) (hs : a.eval s = v) (hp : w.ownsRow 0 92 2 v l.length (storedCells l)) (x : Nat × Nat) (g : Nat) (fr : Nat × Nat) (hrow : w.heap[g]? = some (.cells #[.int .i64 x.1, .int .i64 x.2] 92 fr))
    (hx : a.eval xo = .slice (some ⟨g, 0, none⟩) 1 1) (hlen : l.length ≤ 100000000)
    (h : ∀ v' w', w'.ownsRow 0 92 2 v' (l ++ [x]).length (storedCells (l ++ [x])) → w.grownBy w' v.ownBlock → (v'.ownBlock = v.ownBlock ∨ ∃ k, v'.ownBlock = some k ∧ w.heap.size ≤ k) → K (a.put o.dst v') w') :
    if Region.wanted o (yielded ops a.tmps) = true then Oper.wp Tryd.prog o a w K Q else E := by
  rw [if_pos (by simp [Region.wanted, hgd])]
  have hi0 := info_stored
  cases hi : Tryd.prog.info? 92 with
  | none => rw [hi] at hi0; cases hi0
  | some i =>
    rw [hi] at hi0
    simp only [Option.map_some, Option.some.injEq, Prod.mk.injEq] at hi0
    obtain ⟨hz, hsize, hby⟩ := hi0
    have hsrc : Src Tryd.prog 2 64 (.slice (some ⟨g, 0, none⟩) 1 1) 1 [.int .i64 x.1, .int .i64 x.2] w :=
      Src.ofSlice _ Tryd.underlying64 _ _ _ _ rfl (fun j u hu => by
        have hadd : (⟨g, 0, none⟩ : Addr).add j = ⟨g, j, none⟩ := by unfold Addr.add; split <;> simp_all
        rw [hadd, cell_of_row _ g j _ _ _ hrow]
        simpa using hu) (fun u hu => by simp at hu; rcases hu with rfl | rfl <;> rfl)
    obtain ⟨v', w', hr, h2, h3, h4⟩ := run_append_own2 (P := Tryd.prog) w 0 64 64 o.type 92 i (.agg #[.int .i64 0, .int .i64 0]) 2 16 Tryd.underlying64 hi hz hsize hby rfl v l.length (storedCells l) hp _ 1 _ hsrc (by unfold maxLen; omega) (by omega) (Nat.zero_le _)
    unfold Oper.wp execOp
    simp only [ho, resolve, invoke, builtin, Sem.run_bind, Sem.run_pure, Result.andThen_ok, List.map_toArray, List.map_cons, List.map_nil, hs, hx, hr]
    refine h v' w' ?_ h3 (h4.imp (fun h => h.1) (fun ⟨k, a, b, _⟩ => ⟨k, a, b⟩))
    rw [storedCells_snoc, List.length_append]
    exact h2

theorem PendLike.keep {w w' : World} {b e k n : Nat} {v : Value} {xs : List Value} (h : w.ownsRow b e k v n xs) (hk : Keep [] w w') : w'.ownsRow b e k v n xs := by
  refine ⟨h.1, ?_⟩
  rcases h.2 with hn | ⟨g, cap, cur, rfl, hb, hgg, rest⟩
  · exact .inl hn
  · exact .inr ⟨g, cap, cur, rfl, hb, hk.get hgg (by simp), rest⟩
theorem OwnLike.keep {w w' : World} {F : List Nat} {b e k n : Nat} {v : Value} {xs : List Value} (h : w.ownsRow b e k v n xs) (hk : Keep F w w') (hF : ∀ k ∈ F, v.ownBlock ≠ some k) : w'.ownsRow b e k v n xs := by
  refine ⟨h.1, ?_⟩
  rcases h.2 with hn | ⟨g, cap, cur, rfl, hb, hgg, rest⟩
  · exact .inl hn
  · exact .inr ⟨g, cap, cur, rfl, hb, hk.get hgg (fun hm => hF g hm rfl), rest⟩
def RV.add (r : RV) (x : Nat × Nat) : RV := { r with es := r.es ++ [x], used := r.used + x.2 }
set_option maxRecDepth 100000 in
set_option maxHeartbeats 2000000 in
theorem add_any {w : World} {p : Nat} {r : RV} {v : Value} (h : RingIs w p r v) (hr : r.ok) (x : Nat × Nat) (hx : x.2 ≤ 1000000) :
    Calls Tryd.prog 43 #[.pointer (some ⟨p, 0, none⟩), .agg #[.int .i64 x.1, .int .i64 x.2]] w fun e w' => e = .returned (.tuple #[]) ∧ ∃ v', RingIs w' p (r.add x) v' ∧ Keep (p :: v.ownBlock.toList) w w' ∧ (v'.ownBlock = v.ownBlock ∨ ∃ k, v'.ownBlock = some k ∧ w.heap.size ≤ k) := by
  have hes := hr.es
  have hus := hr.used
  have hpl := hr.a.2.2
  have hvp : v.ownBlock ≠ some p := fun e => by
    rcases h.es.2 with ⟨rfl, _⟩ | ⟨g, cap, cur, rfl, _, hg, _⟩
    · cases e
    · simp [Value.ownBlock] at e
      subst e
      rw [h.row] at hg
      injection hg with hg
      injection hg with _ ht
      revert ht
      decide
  obtain ⟨sa, sc, rfl⟩ := h.slice
  go_enter Tryd.func43, Tryd.ntmps43
  go_wp2
  obtain ⟨W, hW⟩ : ∃ W, W = w.alloc (.cells #[.int .i64 x.1, .int .i64 x.2] 92) := ⟨_, rfl⟩
  rw [← hW]
  have hk0 : Keep [] w W := by rw [hW]; exact (Keep.refl _ _).alloc _
  have rX : W.heap[w.heap.size]? = some (.cells #[.int .i64 x.1, .int .i64 x.2] 92 (0, 0)) := by rw [hW]; exact heap_alloc_new w _
  have hsW : W.heap.size = w.heap.size + 1 := by rw [hW]; simp
  clear hW
  have HSW := Lib.hid hsW
  clear hsW
  have rP := hk0.get h.row (by simp)
  have c7 : W.cell? ⟨p, 7, none⟩ = some (.slice sa r.es.length sc) := (cell_row' (j := 7) rP).trans rfl
  have cx0 : W.cell? ⟨w.heap.size, 0, none⟩ = some (.int .i64 x.1) := (cell_row' (j := 0) rX).trans rfl
  have cx1 : W.cell? ⟨w.heap.size, 1, none⟩ = some (.int .i64 x.2) := (cell_row' (j := 1) rX).trans rfl
  have c7A : ∀ A : Obj, (W.alloc A).cell? ⟨p, 7, none⟩ = some (.slice sa r.es.length sc) := fun A => (cell_row' (j := 7) ((heap_alloc_past (lt_of_heap rP)).trans rP)).trans rfl
  have hE0 : W.ownsRow 0 92 2 (.slice sa r.es.length sc) r.es.length (storedCells r.es) := (PendLike.keep h.es hk0)
  have HE := Lib.hid (fun A : Obj => (PendLike.keep hE0 (((Keep.refl [] W).drew).alloc A) : (W.drew.alloc A).ownsRow 0 92 2 (.slice sa r.es.length sc) r.es.length (storedCells r.es)))
  have HP : Hid (∀ (A : Obj) (w3 : World), (W.drew.alloc A).grownBy w3 (Value.slice sa r.es.length sc).ownBlock → w3.heap[p]? = W.heap[p]?) := Lib.hid (fun A w3 hg => by
    have hlt : p < (W.drew.alloc A).heap.size := by rw [World.size_alloc]; exact Nat.lt_succ_of_lt (lt_of_heap rP)
    rw [hg.block p hlt (fun e => hvp e.symm)]
    exact heap_alloc_past (lt_of_heap rP))
  clear hE0
  go_region_law (first
    | (refine step_append_stored rfl (.tmp 8) (.tmp 10) rfl (.slice sa r.es.length sc) r.es rfl (HE.out _) x W.heap.size (0, 0) (heap_alloc_new W.drew _) rfl (by omega) ?_
       intro v3 w3 hp3 hg3 hv3
       have hr3 := (HP.out _ _ hg3).trans rP
       have hd33 : w3.cell? ⟨p, 7, none⟩ = some (.slice sa r.es.length sc) := (cell_row' (j := 7) hr3).trans rfl
       have hf33 := frozen_row' (j := 7) hr3
       obtain ⟨ta, tn, tc, rfl⟩ : ∃ a n c, v3 = .slice a n c := by
         rcases hp3.2 with ⟨e, _⟩ | ⟨g, cap, cur, e, _⟩
         · exact ⟨_, _, _, e⟩
         · exact ⟨_, _, _, e⟩
       have HP3 := Lib.hid hp3
       have HG3 := Lib.hid hg3
       have HV3 := Lib.hid hv3
       have HR3 := Lib.hid hr3
       clear hp3 hg3 hv3 hr3))
  all_goals
    have hown : ∀ k, (Value.slice sa r.es.length sc).ownBlock = some k → k < w.heap.size := fun k e => (World.ownsRow.lt h.es k e).2
    have hk3 : Keep (Value.slice sa r.es.length sc).ownBlock.toList W w3 := (((Keep.refl [] W).drew.alloc _).mono (F' := (Value.slice sa r.es.length sc).ownBlock.toList) (by simp)).grown HG3.out (fun k e => Or.inl (by rw [e]; simp))
    have rX3 := hk3.get rX (fun hm => by have := hown _ (by simpa using hm); omega)
    have hr4 := heap_setCell_same w3 p 7 _ _ (.slice ta tn tc) HR3.out
    have hpw : p < w.heap.size := lt_of_heap h.row
    have hk4 : Keep [p] w3 (w3.setCell ⟨p, 7, none⟩ (.slice ta tn tc)) := (Keep.refl _ _).setCell (by simp) _
    have rX4 := hk4.get rX3 (by simp; omega)
    have hvp3 : (Value.slice ta tn tc).ownBlock ≠ some p := fun e => by
      rcases HV3.out with h | ⟨k, h, hk⟩
      · exact hvp (h ▸ e)
      · rw [h] at e
        injection e with e
        have hk : (W.drew.alloc (.cells #[.int .i64 x.1, .int .i64 x.2] 92)).heap.size ≤ k := hk
        rw [World.size_alloc] at hk
        have h1 : W.drew.heap.size = W.heap.size := rfl
        have h2 := HSW.out
        omega
    have hE4 : (w3.setCell ⟨p, 7, none⟩ (.slice ta tn tc)).ownsRow 0 92 2 (.slice ta tn tc) (r.es ++ [x]).length (storedCells (r.es ++ [x])) := OwnLike.keep HP3.out hk4 (by simpa using hvp3)
    generalize w3.setCell ⟨p, 7, none⟩ (.slice ta tn tc) = W4 at *
    have c8 : W4.cell? ⟨p, 8, none⟩ = some (.int .i64 r.used) := (cell_row' (j := 8) hr4).trans rfl
    have f8 := frozen_row' (j := 8) hr4
    have cx4 : W4.cell? ⟨w.heap.size, 1, none⟩ = some (.int .i64 x.2) := (cell_row' (j := 1) rX4).trans rfl
    clear c7 cx0 cx1 c7A
    go_wp2
    go_still_tail 9, (by kernel_rfl)
    change wpList _ _ _ _ _ W4.drew
    go_wp2
    go_end0
    have hr5 := heap_setCell_same W4 p 8 _ _ (.int .i64 ((r.used : Int) + x.2)) hr4
    have hk5 : Keep [p] W4 (W4.setCell ⟨p, 8, none⟩ (.int .i64 ((r.used : Int) + x.2))) := (Keep.refl _ _).setCell (by simp) _
    refine ⟨rfl, .slice ta tn tc, ⟨hr5.trans (by simp [RV.cells, RV.add]), OwnLike.keep (F := [p]) hE4 hk5.drew (by simpa using hvp3)⟩, ?_, ?_⟩
    · have q1 : Keep (p :: (Value.slice sa r.es.length sc).ownBlock.toList) w w3 := (hk0.mono (F' := p :: (Value.slice sa r.es.length sc).ownBlock.toList) (by simp)).trans hk3 (fun y hy => Or.inl (by simp [hy]))
      exact ((q1.trans hk4 (by simp)).trans hk5 (by simp)).drew
    · rcases HV3.out with h | ⟨k, h, hk⟩
      · exact Or.inl h
      · refine Or.inr ⟨k, h, ?_⟩
        have hk : (W.drew.alloc (.cells #[.int .i64 x.1, .int .i64 x.2] 92)).heap.size ≤ k := hk
        rw [World.size_alloc] at hk
        have h1 : W.drew.heap.size = W.heap.size := rfl
        have h2 := HSW.out
        omega
end
end Go.Proofs.YtgopdbpddemplaaDoor
