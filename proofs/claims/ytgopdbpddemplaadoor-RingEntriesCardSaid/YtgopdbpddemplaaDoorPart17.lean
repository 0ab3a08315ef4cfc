/- Drawn regions by what each operation yields, with a ghost that knows which operations have come. · ring: writeHead. · ring: an open ring in memory; its getters; end; Need. · ring: slices.Clone of stored entries. · The laws' helpers: size, text. · What an operation of a region waits for, through others. -/
import Derived.Test.YtgopdbpddemplaaDoorPart16
import Derived.Test.YtgopdbpddemplaaDoorPart15
set_option linter.unusedSimpArgs false
set_option linter.unusedVariables false
namespace Go.Proofs.YtgopdbpddemplaaDoor
section
/- Drawn regions by what each operation yields, with a ghost that knows which operations have come. -/
open Go.RowKit

section
variable {P : Program} {Q : Exit → Act → World → Prop}
/-- what has come had all come that it waits for -/
def Closed (l : List Oper) (listed : Array Bool) : Prop := ∀ j o, l[j]? = some o → listed.getD j false = true → ∀ e ∈ o.after, Region.binds .any e = true → listed.getD e.on false = true
theorem Closed.none (l : List Oper) : Closed l (Array.replicate l.length false) := fun j o _ h => by
  by_cases hj : j < l.length <;> simp [hj] at h
theorem Closed.set {l : List Oper} {listed : Array Bool} (h : Closed l listed) (i : Nat) {o : Oper} (ho : l[i]? = some o) (hp : ∀ e ∈ o.after, Region.binds .any e = true → listed.getD e.on false = true) : Closed l (listed.setIfInBounds i true) := fun j o' ho' hl e he hb => by
  have mono : ∀ k, listed.getD k false = true → (listed.setIfInBounds i true).getD k false = true := fun k hk => by
    by_cases hik : i = k
    · subst hik
      have hs : i < listed.size := by
        by_cases hs : i < listed.size
        · exact hs
        · simp [hs] at hk
      simp [hs]
    · simpa [Array.getElem?_setIfInBounds_ne hik] using hk
  by_cases hij : i = j
  · subst hij
    rw [ho] at ho'
    cases ho'
    exact mono _ (hp e he hb)
  · exact mono _ (h j o' ho' (by simpa [Array.getElem?_setIfInBounds_ne hij] using hl) e he hb)

def StepAtG (P : Program) (Q : Exit → Act → World → Prop) (l : List Oper) (R : World → World → Prop) (G : Array Bool → World → Prop) (V : List (Value → World → Prop)) (w₀ : World) (a : Act) (vs : List Value) (i : Nat) (v₁ : Value → World → Prop) (o : Oper) : Prop :=
  ∀ (w : World) (K : Act → World → Prop) (listed : Array Bool), R w₀ w → Pre V vs w o.after.toList → G listed w → listed.getD i false = false → listed.size = l.length → Closed l listed →
    (∀ v w', R w w' → v₁ v w' → G (listed.setIfInBounds i true) w' → K (a.put o.dst v) w') → wpList P l.toArray (After K Q) [o] a w
def StepsAtG (P : Program) (Q : Exit → Act → World → Prop) (ops : List Oper) (R : World → World → Prop) (G : Array Bool → World → Prop) (V : List (Value → World → Prop)) (w₀ : World) (a : Act) (vs : List Value) : Nat → List (Value → World → Prop) → List Oper → Prop
  | i, v₁ :: V', o :: l => StepAtG P Q ops R G V w₀ a vs i v₁ o ∧ StepsAtG P Q ops R G V w₀ a vs (i + 1) V' l
  | _, [], [] => True
  | _, _, _ => False
theorem StepsAtG.get {ops : List Oper} {R : World → World → Prop} {G : Array Bool → World → Prop} {V : List (Value → World → Prop)} {w₀ : World} {a : Act} {vs : List Value} :
    ∀ {i₀ : Nat} {V' : List (Value → World → Prop)} {l : List Oper}, StepsAtG P Q ops R G V w₀ a vs i₀ V' l → ∀ i o, l[i]? = some o → StepAtG P Q ops R G V w₀ a vs (i₀ + i) (V'.getD i (fun _ _ => True)) o
  | i₀, v₁ :: V', o :: l, h, 0, o', ho => by obtain rfl : o = o' := by simpa using ho
                                             simpa using h.1
  | i₀, v₁ :: V', o :: l, h, i + 1, o', ho => by
    have := h.2.get i o' (by simpa using ho)
    rw [show i₀ + 1 + i = i₀ + (i + 1) by omega] at this
    simpa using this
  | _, [], [], _, i, o, ho => by simp at ho
  | _, [], _ :: _, h, _, _, _ => h.elim
  | _, _ :: _, [], h, _, _, _ => h.elim

theorem wpAny_ghost {G : Array Bool → World → Prop} {R : World → World → Prop} {V : List (Value → World → Prop)} {l : List Oper} {a₀ : Act} {w₀ : World} (hA : Apart l) (hb : backB l = true)
    (htr : ∀ a b c, R a b → R b c → R a c) (hst : Stable R V)
    (hsteps : ∀ vs : List Value, vs.length = l.length → StepsAtG P Q l R G V w₀ (putAll l vs a₀) vs 0 V l)
    (hend : ∀ (vs : List Value) w, vs.length = l.length → R w₀ w → AllAt V vs w → Q .normal (putAll l vs a₀) w) :
    ∀ (fuel : Nat) (listed : Array Bool) (vs : List Value) (w : World), listed.size = l.length → vs.length = l.length → R w₀ w → G listed w → Closed l listed →
      (∀ i, listed.getD i false = true → V.getD i (fun _ _ => True) (vs.getD i undef) w) →
      (listed.toList.filter (· == false)).length ≤ fuel →
      wpAny P .any l.toArray Q fuel listed (putAll l vs a₀) w := by
  intro fuel
  induction fuel with
  | zero =>
    intro listed vs w hsz hvs hR hG hC hV hf
    have hall : ∀ i, i < l.length → listed.getD i false = true := by
      intro i hi
      have h0 : listed.toList.filter (· == false) = [] := List.eq_nil_of_length_eq_zero (by omega)
      rw [List.filter_eq_nil_iff] at h0
      have h1 : i < listed.size := by omega
      have := h0 listed[i] (by simp)
      simp [h1]
      simpa using this
    refine ⟨?_, hend vs w hvs hR (AllAt.of fun i hi => hV i (hall i (by omega)))⟩
    unfold Region.ready
    rw [List.filter_eq_nil_iff]
    intro i hi
    have h1 := hall i (by simpa using hi)
    have h2 : i < listed.size := by have : i < l.length := by simpa using hi
                                    omega
    simp [h2] at h1 ⊢
    simp [h1]
  | succ fuel ih =>
    intro listed vs w hsz hvs hR hG hC hV hf
    refine ⟨fun hr => hend vs w hvs hR (AllAt.of fun i hi => hV i (all_listed hb hsz hr i (by omega))), fun i hi => ?_⟩
    unfold Region.ready at hi
    obtain ⟨hi1, hi2⟩ := List.mem_filter.1 hi
    have hil : i < l.length := by simpa using hi1
    have h2 : l[i]? = some l[i] := List.getElem?_eq_getElem hil
    simp only [List.getElem?_toArray, h2, Option.map_some, Option.getD_some, Bool.and_eq_true, Array.all_eq_true_iff_forall_mem] at hi2
    have hlf : listed[i]? = some false := by
      have : i < listed.size := by omega
      have h3 := hi2.1
      simp [this] at h3 ⊢
      exact h3
    have hlf' : listed.getD i false = false := by
      have h9 : i < listed.size := by omega
      have h3 := hi2.1
      simp [h9] at h3 ⊢
      exact h3
    have hs := (hsteps vs hvs).get i l[i] h2 w (wpAny P .any l.toArray Q fuel (listed.setIfInBounds i true)) listed hR
      (Pre.of fun e he hbd => hV e.on (by
        have := hi2.2 e (by simpa using he)
        simpa [hbd] using this))
      hG (by rw [Nat.zero_add]; exact hlf') hsz hC
      (fun v w' hw' hv hg => by
        rw [← putAll_set l vs a₀ i l[i] v hA h2 hvs]
        refine ih _ _ _ (by simpa using hsz) (by simpa using hvs) (htr _ _ _ hR hw') (by rw [Nat.zero_add] at hg; exact hg) (hC.set i h2 (fun e he hbd => by
          have := hi2.2 e (by simpa using he)
          simpa [hbd] using this)) ?_ ?_
        · intro j hj
          by_cases hij : i = j
          · subst hij
            have : (vs.set i v).getD i undef = v := by simp [List.getD_eq_getElem?_getD, hvs, hil]
            rw [this]; exact hv
          · have h5 : (vs.set i v).getD j undef = vs.getD j undef := by simp [List.getD_eq_getElem?_getD, List.getElem?_set_ne hij]
            rw [h5]
            exact hst.get j w w' _ hw' (hV j (by simpa [Array.getElem?_setIfInBounds_ne hij] using hj))
        · have h6 : ∀ (bs : List Bool) (i : Nat), bs[i]? = some false → ((bs.set i true).filter (· == false)).length + 1 = (bs.filter (· == false)).length := by
            intro bs
            induction bs with
            | nil => intro i h; simp at h
            | cons b bs ihb =>
              intro i h
              cases i with
              | zero => obtain rfl : b = false := by simpa using h
                        simp
              | succ i =>
                have := ihb i (by simpa using h)
                cases b <;> simp at this ⊢ <;> omega
          have := h6 listed.toList i (by simpa using hlf)
          simp only [Array.toList_setIfInBounds]
          omega)
    unfold wpOp
    simp only [List.getElem?_toArray, h2]
    simp only [wpList] at hs
    split
    · rename_i hw
      simp only [hw, if_true] at hs
      rcases hs with hs | ⟨hs, hl⟩
      · left
        unfold Oper.wp at *
        generalize (execOp (putAll l vs a₀).eval l[i]).run P w = r at *
        cases r with
        | ok n w' =>
          cases n <;> simp only [Oper.upon] at hs ⊢
          case enter => exact Calls.mono hs (fun e w'' he => by cases e <;> first | exact he | (exact he))
          all_goals first | exact hs | skip
        | halt x w' => cases x <;> simp only [Oper.upon] at hs ⊢ <;> exact hs
      · right
        exact ⟨hs, hl⟩
    · rename_i hw
      simp only [hw] at hs
      exact hs

theorem wp_region_ghost {id : Nat} {a₀ : Act} {w₀ : World} {l : List Oper} (R : World → World → Prop) (G : Array Bool → World → Prop) (V : List (Value → World → Prop)) (hm : P.follows .mixedOrders = true)
    (hA : apartB l = true) (hb : backB l = true) (htr : ∀ a b c, R a b → R b c → R a c) (hre : ∀ a, R a a) (hst : Stable R V) (hg0 : G (Array.replicate l.length false) w₀.drew)
    (h : AllVals l.length fun vs => StepsAtG P Q l R G V w₀.drew (putAll l vs a₀) vs 0 V l ∧ (∀ w, R w₀.drew w → AllAt V vs w → Q .normal (putAll l vs a₀) w)) :
    (Code.region id l.toArray true).wp P Q a₀ w₀ := by
  refine wp_region_any hm ?_
  -- the slots as they stand
  obtain ⟨vs, hvs, he⟩ : ∃ vs : List Value, vs.length = l.length ∧ putAll l vs a₀ = a₀ := by
    clear h hst hb hA hg0
    induction l generalizing a₀ with
    | nil => exact ⟨[], rfl, rfl⟩
    | cons o l ih =>
      obtain ⟨v, hv⟩ : ∃ v, a₀.put o.dst v = a₀ := by
        cases hd : o.dst with
        | none => exact ⟨undef, rfl⟩
        | some d =>
          refine ⟨a₀.tmps.getD d undef, ?_⟩
          cases a₀ with
          | mk tmps defers =>
            simp only [Act.put]
            congr 1
            apply Array.ext_getElem?
            intro i
            by_cases hi : d = i
            · subst hi
              by_cases hs : d < tmps.size <;> simp [hs]
            · simp [Array.getElem?_setIfInBounds_ne hi]
      obtain ⟨vs, h1, h2⟩ := ih (a₀ := a₀)
      exact ⟨v :: vs, by simp [h1], by simp only [putAll, hv, h2]⟩
  have := wpAny_ghost (P := P) (Q := Q) (G := G) (R := R) (V := V) (l := l) (a₀ := a₀) (w₀ := w₀.drew) (apart_of l hA) hb htr hst (fun vs hv => (h.get vs hv).1) (fun vs w hv hr ha => (h.get vs hv).2 w hr ha)
    l.length (Array.replicate l.length false) vs w₀.drew (by simp) hvs (hre _) hg0 (Closed.none l) (by intro i hi; by_cases h : i < l.length <;> simp [h] at hi) (by simp)
  rw [he] at this
  simpa using this
end
end

section
/- ring: writeHead. -/
open Go.RowKit

set_option maxRecDepth 100000 in
set_option maxHeartbeats 2000000 in
theorem writeHead_any {F : List Nat} {w : World} {d : DK} {a : AR} {h : HV} (hG : Glob w) (hD : DiskAt w a.p d F) (hd : d.down = false) (ha : a.ok) (hf : a.fits d) (hh : h.ok) (hlen : d.pend.length ≤ 100000000) :
    Calls Tryd.prog 34 #[.agg a.cells, .agg h.cells] w fun e w' => e = .returned (.int .i64 (putD d a h).1) ∧ ∃ F', DiskAt w' a.p (putD d a h).2 F' ∧ Keep F w w' ∧ ∀ x ∈ F', x ∈ F ∨ w.heap.size ≤ x := by
  obtain ⟨F1, hD1, hF1⟩ := hD.tight
  have hpl := hh.pay
  have htl := hh.text
  have hbl := hh.bytes
  have hmk := run_make512
  unfold AR.cells HV.cells
  go_enter Tryd.func34, Tryd.ntmps34
  obtain ⟨W0, hW0⟩ : ∃ W0, W0 = (w.alloc (.cells #[.pointer (some ⟨a.p, 0, none⟩), .int .i64 a.first, .int .i64 a.places] 63)).alloc (.cells #[.int .i64 h.generation, .int .i64 h.first, .int .i64 h.place, .int .i64 h.base] 61) := ⟨_, rfl⟩
  have hK0 : Keep [] w W0 := by rw [hW0]; exact ((Keep.refl [] w).alloc _).alloc _
  have rA : W0.heap[w.heap.size]? = some (.cells #[.pointer (some ⟨a.p, 0, none⟩), .int .i64 a.first, .int .i64 a.places] 63 (0, 0)) := by rw [hW0]; exact (heap_alloc_past (by simp)).trans (heap_alloc_new w _)
  have rH : W0.heap[w.heap.size + 1]? = some (.cells #[.int .i64 h.generation, .int .i64 h.first, .int .i64 h.place, .int .i64 h.base] 61 (0, 0)) := by rw [hW0]; exact heap_alloc_at (by simp)
  have hW0s : W0.heap.size = w.heap.size + 1 + 1 := by rw [hW0]; simp
  have HE : Hid (h.pay = natF h.first ++ natF h.place ++ natF h.base) := Lib.hid rfl
  have HT : Hid (h.text = encodeF 1 h.generation 0 h.pay) := Lib.hid rfl
  have hn1 := natF_length10 h.first (by have := hh.f; omega)
  have hn2 := natF_length10 h.place (by have := hh.p; omega)
  have hg0 := hh.g
  have hf0 := hh.f
  have hp0 := hh.p
  have hb0 := hh.b
  have hle : W0.heap.size ≤ w.heap.size + 1 + 1 := by omega
  go_upto_region 2 with (first
    | (go_at_call 58; rw [← hW0]; refine (newWriter_any W0).mono ?_; rintro e w1 ⟨rfl, hw1, hk1, hs1⟩; rw [hW0s] at hw1))
  have hc1 : w1.cell? ⟨w.heap.size + 1, 1, none⟩ = some (.int .i64 h.first) := (cell_row' (j := 1) (hk1.get rH (by simp))).trans rfl
  go_upto_region 3 with (go_at_call 59; refine (wnumber_ok h.first (w.heap.size + 1 + 1) (w.heap.size + 1 + 1 + 1) [] w1 hw1 (by omega) (by simp)).mono ?_; rintro e w2 ⟨rfl, hw2, hq2⟩; rw [List.nil_append] at hw2)
  have hk2 : Keep [] W0 w2 := hq2 [] W0 hk1 hle
  have hc2 : w2.cell? ⟨w.heap.size + 1, 2, none⟩ = some (.int .i64 h.place) := (cell_row' (j := 2) (hk2.get rH (by simp))).trans rfl
  go_upto_region 4 with (go_at_call 59; refine (wnumber_ok h.place (w.heap.size + 1 + 1) (w.heap.size + 1 + 1 + 1) _ w2 hw2 (by omega) (by omega)).mono ?_; rintro e w3 ⟨rfl, hw3, hq3⟩)
  have hk3 : Keep [] W0 w3 := hq3 [] W0 hk2 hle
  have hc3 : w3.cell? ⟨w.heap.size + 1, 3, none⟩ = some (.int .i64 h.base) := (cell_row' (j := 3) (hk3.get rH (by simp))).trans rfl
  have hl3 : (natF h.first ++ natF h.place).length ≤ 1000000000 := by rw [List.length_append]; omega
  go_upto_region 5 with (go_at_call 59; refine (wnumber_ok h.base (w.heap.size + 1 + 1) (w.heap.size + 1 + 1 + 1) _ w3 hw3 (by omega) hl3).mono ?_; rintro e w4 ⟨rfl, hw4, hq4⟩; rw [← HE.out] at hw4)
  have hk4 : Keep [] W0 w4 := hq4 [] W0 hk3 hle
  go_upto_region 8 with (go_at_call 60; refine (wbytes_ok _ _ _ w4 hw4 (by omega)).mono ?_; rintro e w5 ⟨v5, rfl, hB5, hq5⟩; obtain ⟨sa, sn, sc, rfl⟩ := hB5.isSlice)
  have hk5 : Keep [] W0 w5 := hk4.then hq5
  have hc5 : w5.cell? ⟨w.heap.size + 1, 0, none⟩ = some (.int .i64 h.generation) := (cell_row' (j := 0) (hk5.get rH (by simp))).trans rfl
  have hcv := hB5.string (P := Tryd.prog) (src := 35) (dst := 9) Tryd.underlying35 Tryd.underlying5 Tryd.underlying9
  have hG5 : Glob w5 := (hG.keep0 hK0).keep0 hk5
  unfold str at hcv
  go_upto_region 11 with (go_at_call 39; refine (encode_ok 1 h.generation 0 h.pay w5 hG5 (by omega) (by omega) (by omega) (by omega) (by omega) (by omega) (by omega)).mono ?_; rw [← HT.out]; unfold str; rintro e w6 ⟨rfl, hq6⟩)
  have hk6 : Keep [] W0 w6 := hk5.then hq6
  have hK6 : Keep [] w w6 := hK0.then hk6
  have hD6 := hD1.keep0 hK6
  have hhas : ∀ b : Int, b = ((a.first + h.generation % 2 : Nat) : Int) → d.has b = true := fun b hb => by
    subst hb
    unfold DK.has
    have := ha.2.1
    have hf' := hf
    unfold AR.fits at hf'
    simp only [decide_eq_true_eq]
    omega
  have rA6 := hk6.get rA (by simp)
  have rH6 := hk6.get rH (by simp)
  have q6 := hK6.size
  have q7 := hk6.size
  have hmin : min (ByteArray.mk h.text.toArray).size 512 = h.text.length := by simp [ByteArray.size]; omega
  have HB64 : Hid (wrap64 ((a.first : Int) + (h.generation : Int) % 2) = ((a.first + h.generation % 2 : Nat) : Int)) := Lib.hid (by
    have := ha.1
    unfold wrap64; omega)
  by_cases he : (d.write ((a.first + h.generation % 2 : Nat) : Int) h.bytes).1 = 0
  · have hpd : Hid (putD d a h = (d.write ((a.first + h.generation % 2 : Nat) : Int) h.bytes).2.flush) := Lib.hid (by unfold putD; simp only; rw [if_neg (by simpa using he)])
    have HE2 := Lib.hid he
    clear he
    go_wp2_with (first
      | (refine wpList_copy_str rfl (.tmp 45) (.tmp 46) 35 9 rfl w6.heap.size 0 512 512 ⟨h.text.toArray⟩ rfl rfl h.text.length hmin 5 (cellsOf zero512) 5 Tryd.underlying35 (by kernel_rfl) (heap_alloc_new w6 _) (by rw [cellsOf_size]; simp [zero512]; omega) ?_
         intro w7 hq7 hr7
         have hr7' : w7.heap[w6.heap.size]? = some (.cells (cellsOf h.bytes) 5 (0, 0)) := by
           rw [hr7, ← over_text h hh]
           simp
         have hk7 : Keep [] w6 w7 := ((Keep.refl [] w6).alloc _).trans hq7 (by simp)
         have hD7 := hD6.keep0 hk7
         have rA7 := hk7.get rA6 (by simp)
         have cA7 : w7.cell? ⟨w.heap.size, 0, none⟩ = some (.pointer (some ⟨a.p, 0, none⟩)) := (cell_row' (j := 0) rA7).trans rfl
         have cA71 : w7.cell? ⟨w.heap.size, 1, none⟩ = some (.int .i64 a.first) := (cell_row' (j := 1) rA7).trans rfl
         have cH7 : w7.cell? ⟨w.heap.size + 1, 0, none⟩ = some (.int .i64 h.generation) := (cell_row' (j := 0) (hk7.get rH6 (by simp))).trans rfl)
      | (go_at_call 33; rw [HB64.out]; refine (write_any hD7 ((a.first + h.generation % 2 : Nat) : Int) h.bytes w6.heap.size 5 (0, 0) hr7' (fun hm => by have := (hF1 _ hm).2; omega) hbl hd (hhas _ rfl) hlen).mono ?_; rintro e w8 ⟨rfl, F8, hD8, hk8, hF8⟩; rw [HE2.out]
         have cA8 : w8.cell? ⟨w.heap.size, 0, none⟩ = some (.pointer (some ⟨a.p, 0, none⟩)) := (cell_row' (j := 0) (hk8.get rA7 (fun hm => by have := (hF1 _ hm).2; omega))).trans rfl)
      | (go_at_call 44; refine (flush_any hD8).mono ?_; rintro e w9 ⟨rfl, hD9, hk9⟩))
    go_ret
    have kw8 : Keep F1 w w8 := ((hK6.then hk7).mono (F' := F1) (by simp)).trans hk8 (fun x hx => Or.inl hx)
    have hw7 : w.heap.size ≤ w7.heap.size := Nat.le_trans q6 hk7.size
    have kw9 : Keep F1 w w9 := kw8.trans hk9 (fun x hx => by
      rcases hF8 x hx with h | h
      · exact Or.inl h
      · exact Or.inr (by omega))
    refine ⟨by rw [hpd.out]; rfl, F8, by rw [hpd.out]; exact hD9, kw9.mono (fun x hx => Or.inl (hF1 x hx).1), fun x hx => ?_⟩
    rcases hF8 x hx with h | h
    · exact Or.inl (hF1 x h).1
    · exact Or.inr (by omega)
  · have hpd : Hid (putD d a h = d.write ((a.first + h.generation % 2 : Nat) : Int) h.bytes) := Lib.hid (by unfold putD; simp only; rw [if_pos (by simpa using he)])
    have heb : ((d.write ((a.first + h.generation % 2 : Nat) : Int) h.bytes).1 == 0) = false := by simpa using he
    clear he
    generalize hwr : d.write ((a.first + h.generation % 2 : Nat) : Int) h.bytes = r at *
    have HWR := Lib.hid hwr
    clear hwr
    go_wp2_with (first
      | (refine wpList_copy_str rfl (.tmp 45) (.tmp 46) 35 9 rfl w6.heap.size 0 512 512 ⟨h.text.toArray⟩ rfl rfl h.text.length hmin 5 (cellsOf zero512) 5 Tryd.underlying35 (by kernel_rfl) (heap_alloc_new w6 _) (by rw [cellsOf_size]; simp [zero512]; omega) ?_
         intro w7 hq7 hr7
         have hr7' : w7.heap[w6.heap.size]? = some (.cells (cellsOf h.bytes) 5 (0, 0)) := by
           rw [hr7, ← over_text h hh]
           simp
         have hk7 : Keep [] w6 w7 := ((Keep.refl [] w6).alloc _).trans hq7 (by simp)
         have hD7 := hD6.keep0 hk7
         have rA7 := hk7.get rA6 (by simp)
         have cA7 : w7.cell? ⟨w.heap.size, 0, none⟩ = some (.pointer (some ⟨a.p, 0, none⟩)) := (cell_row' (j := 0) rA7).trans rfl
         have cA71 : w7.cell? ⟨w.heap.size, 1, none⟩ = some (.int .i64 a.first) := (cell_row' (j := 1) rA7).trans rfl
         have cH7 : w7.cell? ⟨w.heap.size + 1, 0, none⟩ = some (.int .i64 h.generation) := (cell_row' (j := 0) (hk7.get rH6 (by simp))).trans rfl)
      | (go_at_call 33; rw [HB64.out]; refine (write_any hD7 ((a.first + h.generation % 2 : Nat) : Int) h.bytes w6.heap.size 5 (0, 0) hr7' (fun hm => by have := (hF1 _ hm).2; omega) hbl hd (hhas _ rfl) hlen).mono ?_; rw [HWR.out]; rintro e w8 ⟨rfl, F8, hD8, hk8, hF8⟩)
      )
    go_ret
    have kw8 : Keep F1 w w8 := ((hK6.then hk7).mono (F' := F1) (by simp)).trans hk8 (fun x hx => Or.inl hx)
    have hw7 : w.heap.size ≤ w7.heap.size := Nat.le_trans q6 hk7.size
    refine ⟨by rw [hpd.out]; rfl, F8, by rw [hpd.out]; exact hD8, kw8.mono (fun x hx => Or.inl (hF1 x hx).1), fun x hx => ?_⟩
    rcases hF8 x hx with h | h
    · exact Or.inl (hF1 x h).1
    · exact Or.inr (by omega)
end

section
/- ring: an open ring in memory; its getters; end; Need. -/
open Go.RowKit

structure RV where
  a : AR
  h : HV
  es : List (Nat × Nat)
  used : Nat
  synced : Nat
  failed : Int
def storedCells (l : List (Nat × Nat)) : List Value := (l.map fun x => [Value.int .i64 x.1, Value.int .i64 x.2]).flatten
def RV.cells (r : RV) (v : Value) : Array Value := #[.pointer (some ⟨r.a.p, 0, none⟩), .int .i64 r.a.first, .int .i64 r.a.places, .int .i64 r.h.generation, .int .i64 r.h.first, .int .i64 r.h.place, .int .i64 r.h.base, v, .int .i64 r.used, .int .i64 r.synced, .int .i64 r.failed]
/-- an open ring at a block -/
structure RingIs (w : World) (p : Nat) (r : RV) (v : Value) : Prop where
  row : w.heap[p]? = some (.cells (r.cells v) 66 (0, 0))
  es : w.ownsRow 0 92 2 v r.es.length (storedCells r.es)
structure RV.ok (r : RV) : Prop where
  a : r.a.ok
  h : r.h.ok
  used : r.used ≤ r.a.places
  es : r.es.length ≤ 1000000
theorem RingIs.slice {w : World} {p : Nat} {r : RV} {v : Value} (h : RingIs w p r v) : ∃ a c, v = .slice a r.es.length c := by
  rcases h.es.2 with ⟨rfl, h0⟩ | ⟨g, cap, cur, rfl, _⟩
  · exact ⟨none, 0, by rw [h0]⟩
  · exact ⟨_, _, rfl⟩

set_option maxHeartbeats 400000 in
theorem first_any {w : World} {p : Nat} {r : RV} {v : Value} (h : RingIs w p r v) : Calls Tryd.prog 14 #[.pointer (some ⟨p, 0, none⟩)] w fun e w' => e = .returned (.int .i64 r.h.first) ∧ w' = w := by
  have hc : w.cell? ⟨p, 4, none⟩ = some (.int .i64 r.h.first) := (cell_row' (j := 4) h.row).trans rfl
  go_enter Tryd.func14, Tryd.ntmps14
  go_wp2
  go_ret
  exact ⟨rfl, rfl⟩
set_option maxHeartbeats 400000 in
theorem synced_any {w : World} {p : Nat} {r : RV} {v : Value} (h : RingIs w p r v) : Calls Tryd.prog 25 #[.pointer (some ⟨p, 0, none⟩)] w fun e w' => e = .returned (.int .i64 r.synced) ∧ w' = w := by
  have hc : w.cell? ⟨p, 9, none⟩ = some (.int .i64 r.synced) := (cell_row' (j := 9) h.row).trans rfl
  go_enter Tryd.func25, Tryd.ntmps25
  go_wp2
  go_ret
  exact ⟨rfl, rfl⟩
set_option maxHeartbeats 400000 in
theorem generation_any {w : World} {p : Nat} {r : RV} {v : Value} (h : RingIs w p r v) : Calls Tryd.prog 26 #[.pointer (some ⟨p, 0, none⟩)] w fun e w' => e = .returned (.int .i64 r.h.generation) ∧ w' = w := by
  have hc : w.cell? ⟨p, 3, none⟩ = some (.int .i64 r.h.generation) := (cell_row' (j := 3) h.row).trans rfl
  go_enter Tryd.func26, Tryd.ntmps26
  go_wp2
  go_ret
  exact ⟨rfl, rfl⟩
set_option maxHeartbeats 400000 in
theorem failed_any {w : World} {p : Nat} {r : RV} {v : Value} (h : RingIs w p r v) : Calls Tryd.prog 24 #[.pointer (some ⟨p, 0, none⟩)] w fun e w' => e = .returned (.int .i64 r.failed) ∧ w' = w := by
  have hc : w.cell? ⟨p, 10, none⟩ = some (.int .i64 r.failed) := (cell_row' (j := 10) h.row).trans rfl
  go_enter Tryd.func24, Tryd.ntmps24
  go_wp2
  go_ret
  exact ⟨rfl, rfl⟩
set_option maxRecDepth 100000 in
set_option maxHeartbeats 1000000 in
theorem next_any {w : World} {p : Nat} {r : RV} {v : Value} (h : RingIs w p r v) (hr : r.ok) : Calls Tryd.prog 10 #[.pointer (some ⟨p, 0, none⟩)] w fun e w' => e = .returned (.int .i64 (r.h.first + r.es.length : Nat)) ∧ Keep [] w w' := by
  have h1 := hr.h.f
  have h2 := hr.es
  obtain ⟨sa, sc, rfl⟩ := h.slice
  have hc : w.cell? ⟨p, 4, none⟩ = some (.int .i64 r.h.first) := (cell_row' (j := 4) h.row).trans rfl
  have hc7 : w.cell? ⟨p, 7, none⟩ = some (.slice sa r.es.length sc) := (cell_row' (j := 7) h.row).trans rfl
  go_enter Tryd.func10, Tryd.ntmps10
  go_wp2
  go_still (by kernel_rfl)
  go_wp2
  go_ret
  exact ⟨ret_int (by rw [wraps_i64 _ (by omega) (by omega)]; omega), (Keep.refl _ _).drew⟩
set_option maxRecDepth 100000 in
set_option maxHeartbeats 1000000 in
theorem free_any {w : World} {p : Nat} {r : RV} {v : Value} (h : RingIs w p r v) (hr : r.ok) : Calls Tryd.prog 15 #[.pointer (some ⟨p, 0, none⟩)] w fun e w' => e = .returned (.int .i64 (r.a.places - r.used : Nat)) ∧ Keep [] w w' := by
  have h1 := hr.a.2.2
  have h2 := hr.used
  have hc : w.cell? ⟨p, 2, none⟩ = some (.int .i64 r.a.places) := (cell_row' (j := 2) h.row).trans rfl
  have hc7 : w.cell? ⟨p, 8, none⟩ = some (.int .i64 r.used) := (cell_row' (j := 8) h.row).trans rfl
  go_enter Tryd.func15, Tryd.ntmps15
  go_wp2
  go_still (by kernel_rfl)
  go_wp2
  go_ret
  exact ⟨ret_int (by rw [wraps_i64 _ (by omega) (by omega)]; omega), (Keep.refl _ _).drew⟩
set_option maxHeartbeats 400000 in
theorem first_nil (w : World) : Calls Tryd.prog 14 #[.pointer none] w fun e w' => e = .returned (.int .i64 0) ∧ w' = w := by
  go_enter Tryd.func14, Tryd.ntmps14
  go_wp2
  go_ret
  exact ⟨rfl, rfl⟩
set_option maxHeartbeats 400000 in
theorem next_nil (w : World) : Calls Tryd.prog 10 #[.pointer none] w fun e w' => e = .returned (.int .i64 0) ∧ w' = w := by
  go_enter Tryd.func10, Tryd.ntmps10
  go_wp2
  go_ret
  exact ⟨rfl, rfl⟩
set_option maxHeartbeats 400000 in
theorem synced_nil (w : World) : Calls Tryd.prog 25 #[.pointer none] w fun e w' => e = .returned (.int .i64 0) ∧ w' = w := by
  go_enter Tryd.func25, Tryd.ntmps25
  go_wp2
  go_ret
  exact ⟨rfl, rfl⟩
set_option maxHeartbeats 400000 in
theorem free_nil (w : World) : Calls Tryd.prog 15 #[.pointer none] w fun e w' => e = .returned (.int .i64 0) ∧ w' = w := by
  go_enter Tryd.func15, Tryd.ntmps15
  go_wp2
  go_ret
  exact ⟨rfl, rfl⟩
set_option maxHeartbeats 400000 in
theorem generation_nil (w : World) : Calls Tryd.prog 26 #[.pointer none] w fun e w' => e = .returned (.int .i64 0) ∧ w' = w := by
  go_enter Tryd.func26, Tryd.ntmps26
  go_wp2
  go_ret
  exact ⟨rfl, rfl⟩
set_option maxHeartbeats 400000 in
theorem failed_nil (w : World) : Calls Tryd.prog 24 #[.pointer none] w fun e w' => e = .returned (.int .i64 1) ∧ w' = w := by
  go_enter Tryd.func24, Tryd.ntmps24
  go_wp2
  go_ret
  exact ⟨rfl, rfl⟩

set_option maxRecDepth 100000 in
set_option maxHeartbeats 1000000 in
theorem end_any {w : World} {p : Nat} {r : RV} {v : Value} (h : RingIs w p r v) (hr : r.ok) : Calls Tryd.prog 32 #[.pointer (some ⟨p, 0, none⟩)] w fun e w' => e = .returned (.int .i64 ((r.h.place + r.used) % r.a.places : Nat)) ∧ Keep [] w w' := by
  have h1 := hr.a.2.2
  have h0 := hr.a.2.1
  have h2 := hr.used
  have h3 := hr.h.p
  have hne : ¬ ((r.a.places : Int) = 0) := by omega
  have hne2 : ¬ (r.a.places = 0) := by omega
  have hne3 : ((r.a.places : Int) == 0) = false := by simpa using hne2
  have hc2 : w.cell? ⟨p, 2, none⟩ = some (.int .i64 r.a.places) := (cell_row' (j := 2) h.row).trans rfl
  have hc5 : w.cell? ⟨p, 5, none⟩ = some (.int .i64 r.h.place) := (cell_row' (j := 5) h.row).trans rfl
  have hc8 : w.cell? ⟨p, 8, none⟩ = some (.int .i64 r.used) := (cell_row' (j := 8) h.row).trans rfl
  go_enter Tryd.func32, Tryd.ntmps32
  go_wp2
  go_still (by kernel_rfl)
  go_wp2
  go_ret
  refine ⟨ret_int ?_, (Keep.refl _ _).drew⟩
  rw [wraps_i64 ((r.h.place : Int) + r.used) (by omega) (by omega)]
  have := Int.ofNat_tmod (r.h.place + r.used) r.a.places
  rw [this]
  congr 1

set_option maxHeartbeats 1000000 in
theorem need_ok (n : Nat) (w : World) (h : n ≤ 131072) : Calls Tryd.prog 19 #[.int .i64 n] w fun e w' => e = .returned (.tuple #[.int .i64 (blocksN (26 + n + 16) : Nat), .int .i64 0]) ∧ w' = w := by
  go_enter Tryd.func19, Tryd.ntmps19
  go_wp2_with (first
    | (go_at_call 36; refine (size_ok n w (by omega) (by omega)).mono ?_; rintro e w1 ⟨rfl, hw⟩; obtain rfl := hw.symm)
    | (go_at_call 37; refine (blocksOf_any (26 + n + 16) _ (by omega) (by omega)).mono ?_; rintro e w1 ⟨rfl, hw⟩; obtain rfl := hw.symm))
  go_ret2
  have e : ((26 + (n : Int) + 525) / 511) = ((blocksN (26 + n + 16) : Nat) : Int) := by unfold blocksN; omega
  refine ⟨?_, rfl⟩
  show Ending.returned (.tuple #[.int .i64 ((26 + (n : Int) + 525) / 511), .int .i64 0]) = _
  rw [e]
set_option maxHeartbeats 1000000 in
theorem need_bad (n : Int) (w : World) (h : n < 0 ∨ 131072 < n) : Calls Tryd.prog 19 #[.int .i64 n] w fun e w' => e = .returned (.tuple #[.int .i64 0, .int .i64 2]) ∧ w' = w := by
  by_cases h0 : n < 0
  · go_enter Tryd.func19, Tryd.ntmps19
    go_wp2
    go_ret2
    exact ⟨rfl, rfl⟩
  · have h0' : 0 ≤ n := by omega
    have h1 : 131072 < n := by omega
    go_enter Tryd.func19, Tryd.ntmps19
    go_wp2
    go_ret2
    exact ⟨rfl, rfl⟩
end

section
/- ring: slices.Clone of stored entries. -/
open Go.RowKit

theorem infoP_stored : (Tryd.prog.info? 92).map (fun i => (i.zero, i.size, i.bytes)) = some (some (.agg #[.int .i64 0, .int .i64 0]), 2, 16) := by kernel_rfl
/-- a slice of stored entries that can be read -/
inductive ReadsS (w : World) : Value → List (Nat × Nat) → Prop
  | nil : ReadsS w (.slice none 0 0) []
  | at (g off cap : Nat) (l : List (Nat × Nat)) : l.length ≤ cap → (∀ i u, (storedCells l)[i]? = some u → w.cell? ⟨g, off + i, none⟩ = some u) → ReadsS w (.slice (some ⟨g, off, none⟩) l.length cap) l
theorem storedCells_length (l : List (Nat × Nat)) : (storedCells l).length = l.length * 2 := by
  unfold storedCells
  induction l with
  | nil => rfl
  | cons x l ih => simp only [List.map_cons, List.flatten_cons, List.length_append, ih, List.length_cons, List.length_nil]; omega
theorem storedCells_one (l : List (Nat × Nat)) : ∀ u ∈ storedCells l, u.oneCell' = true := fun u hu => by
  unfold storedCells at hu
  obtain ⟨c, hc, hu⟩ := List.mem_flatten.1 hu
  obtain ⟨x, _, rfl⟩ := List.mem_map.1 hc
  simp at hu
  rcases hu with rfl | rfl <;> rfl

set_option maxRecDepth 100000 in
set_option maxHeartbeats 1000000 in
theorem clones_any (v : Value) (l : List (Nat × Nat)) (w : World) (hv : ReadsS w v l) (hlen : l.length ≤ 1000000) :
    Calls Tryd.prog 46 #[v] w fun e w' => ∃ v', e = .returned v' ∧ w'.ownsRow w.heap.size 92 2 v' l.length (storedCells l) ∧ Keep [] w w' := by
  have hi0 := infoP_stored
  cases hi : Tryd.prog.info? 92 with
  | none => rw [hi] at hi0; cases hi0
  | some i0 =>
  rw [hi] at hi0
  simp only [Option.map_some, Option.some.injEq, Prod.mk.injEq] at hi0
  obtain ⟨hz0, hz1, hz2⟩ := hi0
  have hnn := fun W a n c => Lib.run_eql_slice_nil (P := Tryd.prog) W 64 92 a n c 0 0 Tryd.underlying64
  cases hv with
  | nil =>
    go_enter Tryd.func46, Tryd.ntmps46
    go_wp2
    go_ret
    exact ⟨_, rfl, World.ownsRow_nil _ _ _ _, Keep.refl _ _⟩
  | «at» g off cap l hc h =>
    have HR := Lib.hid h
    clear h
    have hsrc : Src Tryd.prog 2 64 (.slice (some ⟨g, off, none⟩) l.length cap) l.length (storedCells l) (w.alloc (.cells #[] 92)) :=
      Src.ofSlice _ Tryd.underlying64 _ _ _ _ (storedCells_length l) (fun j u hu => by
        have hadd : (⟨g, off, none⟩ : Addr).add j = ⟨g, off + j, none⟩ := by unfold Addr.add; split <;> simp_all
        rw [hadd]
        exact ((Keep.refl [] w).alloc _).cell (HR.out j u hu) (by simp)) (storedCells_one l)
    have HS := Lib.hid hsrc
    clear hsrc
    go_enter Tryd.func46, Tryd.ntmps46
    go_wp2_with (at_builtin; refine wpList_append_src _ rfl (.tmp 5) (.tmp 6) 64 64 rfl w.heap.size 92 i0 (.agg #[.int .i64 0, .int .i64 0]) 2 16 Tryd.underlying64 hi hz0 hz1 hz2 rfl (.slice (some ⟨w.heap.size, 0, none⟩) 0 0) 0 [] rfl (World.ownsRow_made w #[] 0 (Nat.le_refl _) (by decide) (by simp)) _ rfl l.length (storedCells l) HS.out (by unfold maxLen; omega) (by omega) (by simp) ?_; intro v2 w2 ho2 hg2)
    go_ret
    refine ⟨_, rfl, by simpa using ho2, ((Keep.refl [] w).alloc _).grown hg2 (fun k e => by cases e; simp)⟩
end

section
/- The laws' helpers: size, text. -/
open Go.RowKit

def sizeF (n : Int) : Int := 4 + n % 14
set_option maxHeartbeats 400000 in
theorem size_any (n : Int) (w : World) (h0 : 0 ≤ n) (h1 : n < 256) : Calls Tryd.prog 9 #[.int .u8 n] w fun e w' => e = .returned (.int .i64 (sizeF n)) ∧ w' = w := by
  go_enter Tryd.func9, Tryd.ntmps9
  go_wp2
  go_ret
  exact ⟨rfl, rfl⟩

def textF (n first : Int) : List UInt8 := (List.range (n % 1600).toNat).map fun (i : Nat) => b8 (first + (i : Int) * 5)
theorem textF_length (n first : Int) : (textF n first).length = (n % 1600).toNat := by simp [textF]
set_option maxRecDepth 100000 in
set_option maxHeartbeats 1000000 in
theorem text_any (n first : Int) (w : World) (h0 : 0 ≤ n) (h1 : n < 65536) (hf0 : 0 ≤ first) (hf1 : first < 256) :
    Calls Tryd.prog 12 #[.int .u16 n, .int .u8 first] w fun e w' => e = .returned (str (textF n first)) ∧ Keep [] w w' := by
  obtain ⟨i0, hi, hz0, hz1, hz2⟩ := info_parts info_u8
  obtain ⟨m, hm⟩ : ∃ m : Nat, (m : Int) = n % 1600 := ⟨(n % 1600).toNat, by omega⟩
  have hm1 : m < 1600 := by omega
  have HM := Lib.hid (show (n % 1600).toNat = m by omega)
  obtain ⟨M, hM⟩ : ∃ M, M = madeCells (Value.int .u8 0).cells (((m : Nat) : Int).toNat * i0.size) := ⟨_, rfl⟩
  have hMs : M.size = m := by rw [hM, size_madeCells, hz1]; simp
  have hmk : ∀ W : World, (Instr.makeSlice 35 (.int .i64 (m : Int)) (.int .i64 (m : Int))).run Tryd.prog W = .ok (.slice (some ⟨W.heap.size, 0, none⟩) m m) (W.alloc (.cells M 5)) := fun W => by
    have h := run_make (P := Tryd.prog) W 35 5 i0 (.int .u8 0) Tryd.underlying35 hi hz0 .i64 .i64 (m : Int) (m : Int) (by omega) (by omega) (by rw [hz2]; omega) (by omega)
    rw [← hM] at h
    simpa using h
  clear hM
  have hnm : n % 1600 = (m : Int) := hm.symm
  clear hm
  go_enter Tryd.func12, Tryd.ntmps12
  go_wp2
  go_loopw [6] (fun i wr => ∃ (k : Nat) (cs : Array Value), i = .int .i64 k ∧ k ≤ m ∧ wr.heap[w.heap.size]? = some (.cells cs 5 (0, 0)) ∧ cs.size = m ∧ Hid (∀ j, j < k → cs[j]? = some (B8 (b8 (first + (j : Int) * 5)))) ∧ Keep [] w wr) (fun i _ => m - (intOf i).toNat)
  case atStart => exact ⟨0, M, rfl, by omega, heap_alloc_new w _, hMs, Lib.hid (fun j hj => by omega), (Keep.refl _ _).alloc _⟩
  case round =>
    obtain ⟨k, cs, rfl, hk, hrow, hcs, HC, hkw⟩ := hrel
    by_cases hlt : k < m
    · have hki : (k : Int) < m := by omega
      have hck : wr.cell? ⟨w.heap.size, k, none⟩ = some (cs[k]'(by omega)) := by rw [cell_row' hrow]; simp [hcs, hlt]
      have hfk := frozen_row' (j := k) hrow
      go_wp2
      go_roundw
      case rel =>
        refine ⟨k + 1, cs.setIfInBounds k (.int .u8 ((first + (k : Int) % 256 * 5) % 256)), by congr 1, by omega, heap_setCell_same wr _ k cs _ _ hrow, by simpa using hcs, Lib.hid (fun j hj => ?_), hkw.setCell (by simp) _⟩
        rw [Array.getElem?_setIfInBounds]
        by_cases hjk : k = j
        · subst hjk
          rw [if_pos rfl, if_pos (by omega)]
          have e : (first + (k : Int) % 256 * 5) % 256 = IntKind.u8.wrap (first + (k : Int) * 5) := by rw [IntKind.wrap_u8]; omega
          rw [e, b8_cell]
        · rw [if_neg hjk]
          exact HC.out j (by omega)
      case measure => simp [intOf]; omega
    · have hge : m ≤ k := by omega
      have hge' : ¬ (k : Int) < m := by omega
      have hB : Buf 5 wr w.heap.size (.slice (some ⟨w.heap.size, 0, none⟩) (textF n first).length m) (textF n first) := by
        refine ⟨by simp, .inr ⟨w.heap.size, m, cs, rfl, Nat.le_refl _, hrow, by rw [textF_length, HM.out]; exact Nat.le_refl _, by unfold maxLen; omega, by omega, ?_⟩⟩
        apply List.ext_getElem?
        intro j
        rw [textF_length, HM.out, Nat.mul_one, List.getElem?_take, List.getElem?_map]
        by_cases hj : j < m
        · rw [if_pos hj, Array.getElem?_toList, HC.out j (by omega)]
          have : (textF n first)[j]? = some (b8 (first + (j : Int) * 5)) := by
            unfold textF
            rw [HM.out, List.getElem?_map, List.getElem?_range hj]
            rfl
          rw [this]; rfl
        · rw [if_neg hj, List.getElem?_eq_none (by rw [textF_length, HM.out]; omega)]
          rfl
      have hcv := hB.string (P := Tryd.prog) (src := 35) (dst := 9) Tryd.underlying35 Tryd.underlying5 Tryd.underlying9
      rw [textF_length, HM.out] at hcv
      unfold str at hcv
      clear hB HC
      go_wp2
      go_ret
      exact ⟨rfl, hkw⟩
end

section
/- What an operation of a region waits for, through others. -/
open Go.RowKit

/-- operation k waits for operation i, maybe through others -/
def waitsFor (l : List Oper) : Nat → Nat → Nat → Bool
  | 0, _, _ => false
  | f + 1, k, i => match l[k]? with
    | none => false
    | some o => o.after.toList.any fun e => Region.binds .any e && (e.on == i || waitsFor l f e.on i)
theorem Closed.waits {l : List Oper} {listed : Array Bool} (h : Closed l listed) : ∀ (f k i : Nat), waitsFor l f k i = true → listed.getD k false = true → listed.getD i false = true
  | 0, _, _, hw, _ => by cases hw
  | f + 1, k, i, hw, hk => by
    unfold waitsFor at hw
    cases ho : l[k]? with
    | none => rw [ho] at hw; cases hw
    | some o =>
      rw [ho] at hw
      simp only at hw
      obtain ⟨e, he, hb⟩ := List.any_eq_true.1 hw
      simp only [Bool.and_eq_true, Bool.or_eq_true, beq_iff_eq] at hb
      have hl := h k o ho hk e (by simpa using he) hb.1
      rcases hb.2 with hi | hi
      · rw [← hi]; exact hl
      · exact Closed.waits h f e.on i hi hl
/-- an operation that has not come: what waits for it has not come either -/
theorem Closed.notYet {l : List Oper} {listed : Array Bool} (h : Closed l listed) (f k i : Nat) (hw : waitsFor l f k i = true) (hi : listed.getD i false = false) : listed.getD k false = false := by
  cases hk : listed.getD k false with
  | false => rfl
  | true => rw [h.waits f k i hw hk] at hi; cases hi
theorem getD_set_other {listed : Array Bool} {i j : Nat} (h : i ≠ j) : (listed.setIfInBounds i true).getD j false = listed.getD j false := by
  simp [Array.getElem?_setIfInBounds_ne h]
theorem getD_set_self {listed : Array Bool} {i : Nat} (h : i < listed.size) : (listed.setIfInBounds i true).getD i false = true := by
  simp [h]
end
end Go.Proofs.YtgopdbpddemplaaDoor
