/- ring: find. -/
import Derived.Test.YtgopdbpddemplaaDoorPart22
set_option linter.unusedSimpArgs false
set_option linter.unusedVariables false
namespace Go.Proofs.YtgopdbpddemplaaDoor
section
/- ring: find. -/
open Go.RowKit

/-- rows of one type stay rows of that type and size -/
def ShapeS (t : TypeId) (a b : World) : Prop := ∀ (q : Nat) (cs : Array Value), a.heap[q]? = some (.cells cs t (0, 0)) → ∃ cs' : Array Value, b.heap[q]? = some (.cells cs' t (0, 0)) ∧ cs'.size = cs.size
theorem ShapeS.refl (t : TypeId) (a : World) : ShapeS t a a := fun _ cs h => ⟨cs, h, rfl⟩
theorem ShapeS.trans {t : TypeId} {a b c : World} (h : ShapeS t a b) (k : ShapeS t b c) : ShapeS t a c := fun q cs e => by
  obtain ⟨cs', e', hs⟩ := h q cs e
  obtain ⟨cs2, e2, hs2⟩ := k q cs' e'
  exact ⟨cs2, e2, hs2.trans hs⟩
theorem ShapeS.of0 {t : TypeId} {a b : World} (h : Keep [] a b) : ShapeS t a b := fun q cs e => ⟨cs, h.get e (by simp), rfl⟩
/-- the ghost of the region that stores the frame -/
def GF (w5 : World) (C : Array Value) (listed : Array Bool) (vs : List Value) (w : World) : Prop :=
  Keep [] w5 w ∧ (listed.getD 12 false = true → ∃ q, vs.getD 11 undef = .pointer (some ⟨q, 0, none⟩) ∧ w5.heap.size ≤ q ∧ w.heap[q]? = some (.cells C 78 (0, 0)))
theorem GF.step {w5 : World} {C : Array Value} {listed : Array Bool} {vs : List Value} {w : World} (h : GF w5 C listed vs w) (i : Nat) (hi : i ≠ 11 ∧ i ≠ 12) (v : Value) (w' : World) (hk : Keep [] w w') : GF w5 C (listed.setIfInBounds i true) (vs.set i v) w' := by
  refine ⟨h.1.then hk, fun hc => ?_⟩
  rw [getD_set_other hi.2] at hc
  obtain ⟨q, h1, h2, h3⟩ := h.2 hc
  refine ⟨q, ?_, h2, hk.get h3 (by simp)⟩
  rw [← h1]
  simp [List.getD_eq_getElem?_getD, List.getElem?_set_ne hi.1]
theorem body_parts (d : DK) (a : AR) (pl : Nat) : ∃ (fk : Int) (fs fnn : Nat) (fp : List UInt8) (n : Nat), bodyV (bodyF d a pl) = .tuple #[.agg #[.int .i64 fk, .int .i64 fs, .int .i64 fnn, .string ⟨fp.toArray⟩], .int .i64 n, .int .i64 0] ∧
    (n = 0 → bodyF d a pl = none) ∧ (n ≠ 0 → bodyF d a pl = some (⟨fk, fs, fnn, fp⟩, n)) ∧ fs ≤ 2147483647 ∧ fnn ≤ 1099511627775 ∧ n ≤ 1000000 := by
  cases hb : bodyF d a pl with
  | none => exact ⟨0, 0, 0, [], 0, rfl, fun _ => rfl, fun h => absurd rfl h, by omega, by omega, by omega⟩
  | some fn =>
    obtain ⟨⟨fk, fs, fnn, fp⟩, n⟩ := fn
    obtain ⟨h1, h2, h3, h4, h5, h6, h7⟩ := bodyF_ok hb
    simp only at h1 h2 h3 h4
    obtain ⟨a, rfl⟩ := Int.eq_ofNat_of_zero_le h1
    obtain ⟨b, rfl⟩ := Int.eq_ofNat_of_zero_le h3
    exact ⟨fk, a, b, fp, n, rfl, fun h => by omega, fun _ => rfl, by omega, by omega, h7⟩
theorem findF_done {d : DK} {s : FSt} (h : findStep d s = none) (k : Nat) : findF d k s = s := by
  cases k with
  | zero => rfl
  | succ k => simp [findF, h]
theorem findF_more {d : DK} {s t : FSt} (h : findStep d s = some t) (k : Nat) : findF d (k + 1) s = findF d k t := by simp [findF, h]
theorem find_cond {d : DK} {s : FSt} {fk : Int} {fs fnn : Nat} {fp : List UInt8} {n fr : Nat} (hfr : s.1.a.places - s.1.used = fr) (h0 : fr ≠ 0) (hbn : n = 0 → bodyF d s.1.a ((s.1.h.place + s.1.used) % s.1.a.places) = none) (hbs : n ≠ 0 → bodyF d s.1.a ((s.1.h.place + s.1.used) % s.1.a.places) = some (⟨fk, fs, fnn, fp⟩, n)) :
    ((((((((n : Int) == 0) || ((fnn : Int) != (s.1.h.first : Int) + (s.1.es.length : Int))) || decide (fs < s.2.1)) || decide (s.1.h.generation < fs)) || decide (fr < n)) = true) → findStep d s = none) ∧
    ((((((((n : Int) == 0) || ((fnn : Int) != (s.1.h.first : Int) + (s.1.es.length : Int))) || decide (fs < s.2.1)) || decide (s.1.h.generation < fs)) || decide (fr < n)) = false) → findStep d s = some (s.1.add (fs, n), fs, s.2.2 ++ [(fnn, fp)]) ∧ n ≠ 0 ∧ n ≤ fr) := by
  unfold findStep
  rw [if_neg (by omega)]
  by_cases hn : n = 0
  · subst hn
    rw [hbn rfl]
    simp
  · rw [hbs hn]
    simp only [Int.toNat_natCast]
    rw [hfr]
    simp only [Bool.or_eq_true, Bool.or_eq_false_iff, beq_iff_eq, bne_iff_ne, decide_eq_true_eq, decide_eq_false_iff_not, beq_eq_false_iff_ne, bne_eq_false_iff_eq]
    refine ⟨fun hc => by rw [if_pos (by omega)], fun hc => ⟨by rw [if_neg (by omega)], hn, by omega⟩⟩
/-- what find's loop knows at the head of a round -/
def FindRel (d : DK) (p : Nat) (s0 : FSt) (K0 : Nat) (v0 : Value) (w : World) (lv sv : Value) (wr : World) : Prop :=
  ∃ (lv' : Value) (k : Nat) (s : FSt) (v : Value), lv' = lv ∧ findF d K0 s0 = findF d k s ∧ s.1.a.places - s.1.used ≤ k ∧ sv = .int .i64 s.2.1 ∧ s.1.a = s0.1.a ∧ s.1.h = s0.1.h ∧ s.1.used ≤ s.1.a.places ∧ s.1.es.length ≤ s.1.used ∧ s.2.2.length ≤ s.1.used ∧
    RingIs wr p s.1 v ∧ EntsAt wr w.heap.size lv' s.2.2 ∧ Keep (p :: v0.ownBlock.toList) w wr ∧ (v.ownBlock = v0.ownBlock ∨ ∃ k, v.ownBlock = some k ∧ w.heap.size ≤ k)
set_option maxRecDepth 100000 in
set_option maxHeartbeats 2000000 in
theorem find_ok {F : List Nat} {w : World} {p : Nat} {d : DK} {r : RV} {v0 : Value} (hGl : Glob w) (h : RingIs w p r v0) (hr : r.ok) (hru : r.es.length ≤ r.used) (hD : DiskAt w r.a.p d F) (hd : d.down = false) (hf : r.a.fits d) (hpF : p ∉ F) (hvF : ∀ k, v0.ownBlock = some k → k ∉ F) (hFl : ∀ x ∈ F, x < w.heap.size) (hgp : 3 ≤ p) (hgv : ∀ k, v0.ownBlock = some k → 3 ≤ k) (hrp : r.h.place ≤ 500000) (hrpl : r.a.places ≤ 500000) :
    Calls Tryd.prog 30 #[.pointer (some ⟨p, 0, none⟩)] w fun e w' => ∃ lv v', e = .returned (.tuple #[lv, .int .i64 0]) ∧ RingIs w' p (findF d r.a.places (r, r.h.base, [])).1 v' ∧ EntsAt w' w.heap.size lv (findF d r.a.places (r, r.h.base, [])).2.2 ∧ Keep (p :: v0.ownBlock.toList) w w' ∧ (v'.ownBlock = v0.ownBlock ∨ ∃ k, v'.ownBlock = some k ∧ w.heap.size ≤ k) := by
  have cB : w.cell? ⟨p, 6, none⟩ = some (.int .i64 r.h.base) := (cell_row' (j := 6) h.row).trans rfl
  go_enter Tryd.func30, Tryd.ntmps30
  go_wp2
  go_loopw [4, 5] (fun lv sv wr => FindRel d p (r, r.h.base, []) r.a.places v0 w lv sv wr) (fun _ _ wr => match wr.cell? ⟨p, 8, none⟩ with | some u => r.a.places - (intOf u).toNat | none => 0)
  case atStart => exact ⟨_, r.a.places, (r, r.h.base, []), v0, rfl, rfl, by simp only; omega, rfl, rfl, rfl, hr.used, hru, by simp, h, EntsAt.nil _ _, Keep.refl _ _, .inl rfl⟩
  case round =>
    obtain ⟨lv, k, ⟨s, st, l⟩, v, rfl, hfind, hfuel, rfl, hsa, hsh, hsu, hse, hsl, hR, hE, hk, hvo⟩ := hrel
    obtain ⟨sa, sh, es, used, sy, fl⟩ := s
    simp only at hfind hfuel hsa hsh hsu hse hsl hR hE
    subst hsa; subst hsh
    have hpl1 := hr.a.2.1
    have hpl2 := hr.a.2.2
    have hsok : RV.ok ⟨r.a, r.h, es, used, sy, fl⟩ := ⟨hr.a, hr.h, hsu, by simp only; omega⟩
    have hDr : DiskAt wr r.a.p d F := hD.keep hk (fun x hx hm => by
      rcases List.mem_cons.1 hm with e | e
      · exact hpF (e ▸ hx)
      · exact hvF x (by simpa using e) hx)
    have hGr : Glob wr := hGl.keep hk (fun x hm => by
      rcases List.mem_cons.1 hm with e | e
      · omega
      · exact hgv x (by simpa using e))
    have hend : (r.h.place + used) % r.a.places < r.a.places := Nat.mod_lt _ (by omega)
    obtain ⟨fr, hfr⟩ : ∃ fr, r.a.places - used = fr := ⟨_, rfl⟩
    by_cases h0 : fr = 0
    · subst h0
      have HX := Lib.hid (hfind.trans (findF_done (by unfold findStep; rw [if_pos hfr]) k))
      have HFR := Lib.hid hfr
      clear hfind hfr hfuel
      go_wp2_with (go_at_call 15; refine (free_any hR hsok).mono ?_; rw [HFR.out]; rintro e w1 ⟨rfl, hk1⟩)
      go_ret2
      exact ⟨lv, v, rfl, by rw [HX.out]; exact ⟨hk1.get hR.row (by simp), OwnLike.keep hR.es hk1 (by simp)⟩, by rw [HX.out]; exact hE.keep hk1 (by simp), hk.then hk1, hvo⟩
    · have hfr0 : 0 < fr := by omega
      have hfr0' : (0 : Int) < fr := by omega
      have HFR := Lib.hid hfr
      obtain ⟨fk, fs, fnn, fp, n, hbv, hbn, hbs, hfs, hfnn, hn⟩ := body_parts d r.a ((r.h.place + used) % r.a.places)
      have HBV := Lib.hid hbv
      have HBN := Lib.hid hbn
      have HBS := Lib.hid hbs
      have HFU := Lib.hid hfuel
      have HFD := Lib.hid hfind
      clear hbv hbn hbs hfr hfuel hfind
      go_wp2_with (go_at_call 15; refine (free_any hR hsok).mono ?_; rw [HFR.out]; rintro e w1 ⟨rfl, hk1⟩)
      have hR1 : RingIs w1 p ⟨r.a, r.h, es, used, sy, fl⟩ v := ⟨hk1.get hR.row (by simp), OwnLike.keep hR.es hk1 (by simp)⟩
      have hD1 := hDr.keep0 hk1
      have hG1 := hGr.keep0 hk1
      refine wp_region_ghost2 (ShapeS 78) (GF w1 #[.int .i64 fk, .int .i64 fs, .int .i64 fnn, .string ⟨fp.toArray⟩])
        [fun v _ => v = .pointer (some ⟨p, 0, none⟩), fun v _ => v = .pointer (some ⟨p, 0, none⟩), fun v _ => v = .pointer (some ⟨p, 0, none⟩), fun v _ => v = .agg r.a.cells, fun v _ => v = .pointer (some ⟨p, 0, none⟩), fun v _ => v = .int .i64 ((r.h.place + used) % r.a.places : Nat), fun v _ => v = .tuple #[.agg #[.int .i64 fk, .int .i64 fs, .int .i64 fnn, .string ⟨fp.toArray⟩], .int .i64 n, .int .i64 0], fun v _ => v = .tuple #[.agg #[.int .i64 fk, .int .i64 fs, .int .i64 fnn, .string ⟨fp.toArray⟩], .int .i64 n, .int .i64 0], fun v _ => v = .agg #[.int .i64 fk, .int .i64 fs, .int .i64 fnn, .string ⟨fp.toArray⟩], fun v _ => v = .int .i64 n, fun v _ => v = .int .i64 0, fun v w' => ∃ q, v = .pointer (some ⟨q, 0, none⟩) ∧ w1.heap.size ≤ q ∧ ∃ cs : Array Value, w'.heap[q]? = some (.cells cs 78 (0, 0)) ∧ cs.size = 4, fun _ _ => True, fun v _ => v = .int .i64 n, fun v _ => v = .int .i64 0]
        (by kernel_rfl) (by kernel_rfl) (by kernel_rfl) (fun _ _ _ h k => h.trans k) (ShapeS.refl _) ?sta (fun _ => ⟨(Keep.refl _ _).drew, fun h => by simp at h⟩) ?mai
      case sta =>
        simp only [Stable]
        exact ⟨fun _ _ _ _ h => h, fun _ _ _ _ h => h, fun _ _ _ _ h => h, fun _ _ _ _ h => h, fun _ _ _ _ h => h, fun _ _ _ _ h => h, fun _ _ _ _ h => h, fun _ _ _ _ h => h, fun _ _ _ _ h => h, fun _ _ _ _ h => h, fun _ _ _ _ h => h, fun _ _ _ hk ⟨q, h1, h2, cs, h3, h4⟩ => ⟨q, h1, h2, by obtain ⟨cs', e1, e2⟩ := hk q cs h3; exact ⟨cs', e1, e2.trans h4⟩⟩, fun _ _ _ _ h => h, fun _ _ _ _ h => h, fun _ _ _ _ h => h, trivial⟩
      case mai =>
        simp only [List.length_cons, List.length_nil, Nat.zero_add, Nat.reduceAdd, AllVals]
        intro z0 z1 z2 z3 z4 z5 z6 z7 z8 z9 z10 z11 z12 z13 z14
        simp only [putAll, Act.put, List.setIfInBounds_toArray, List.set_cons_zero, List.set_cons_succ, StepsAtH]
        refine ⟨?stp, ?fin⟩
        case' stp => repeat' apply And.intro
        all_goals try (first | trivial | exact True.intro)
        · intro wq K listed hR hP hG hL hS hC hY hK
          simp only [Pre, Region.binds, List.getD_cons_zero, List.getD_cons_succ, true_imp_iff, forall_const, and_true, true_and] at hP
          simp only [Act.put, List.setIfInBounds_toArray, List.set_cons_zero, List.set_cons_succ] at hK
          go_wp2
          exact hK _ _ (ShapeS.refl _ _) rfl (hG.step 0 (by decide) _ _ (Keep.refl _ _))
        · intro wq K listed hR hP hG hL hS hC hY hK
          simp only [Pre, Region.binds, List.getD_cons_zero, List.getD_cons_succ, true_imp_iff, forall_const, and_true, true_and] at hP
          simp only [Act.put, List.setIfInBounds_toArray, List.set_cons_zero, List.set_cons_succ] at hK
          first | subst hP | (obtain ⟨rfl, -⟩ := hP)
          go_wp2
          exact hK _ _ (ShapeS.refl _ _) rfl (hG.step 1 (by decide) _ _ (Keep.refl _ _))
        · intro wq K listed hR hP hG hL hS hC hY hK
          simp only [Pre, Region.binds, List.getD_cons_zero, List.getD_cons_succ, true_imp_iff, forall_const, and_true, true_and] at hP
          simp only [Act.put, List.setIfInBounds_toArray, List.set_cons_zero, List.set_cons_succ] at hK
          first | subst hP | (obtain ⟨rfl, -⟩ := hP)
          go_wp2
          exact hK _ _ (ShapeS.refl _ _) rfl (hG.step 2 (by decide) _ _ (Keep.refl _ _))
        · intro wq K listed hR hP hG hL hS hC hY hK
          simp only [Pre, Region.binds, List.getD_cons_zero, List.getD_cons_succ, true_imp_iff, forall_const, and_true, true_and] at hP
          simp only [Act.put, List.setIfInBounds_toArray, List.set_cons_zero, List.set_cons_succ] at hK
          subst hP
          have hrw := hG.1.get hR1.row (by simp)
          have c0 : wq.cell? ⟨p, 0, none⟩ = some (.pointer (some ⟨r.a.p, 0, none⟩)) := (cell_row' (j := 0) hrw).trans rfl
          have c1 : wq.cell? ⟨p, 1, none⟩ = some (.int .i64 r.a.first) := (cell_row' (j := 1) hrw).trans rfl
          have c2 : wq.cell? ⟨p, 2, none⟩ = some (.int .i64 r.a.places) := (cell_row' (j := 2) hrw).trans rfl
          go_wp2
          exact hK _ _ (ShapeS.refl _ _) rfl (hG.step 3 (by decide) _ _ (Keep.refl _ _))
        · intro wq K listed hR hP hG hL hS hC hY hK
          simp only [Pre, Region.binds, List.getD_cons_zero, List.getD_cons_succ, true_imp_iff, forall_const, and_true, true_and] at hP
          simp only [Act.put, List.setIfInBounds_toArray, List.set_cons_zero, List.set_cons_succ] at hK
          go_wp2
          exact hK _ _ (ShapeS.refl _ _) rfl (hG.step 4 (by decide) _ _ (Keep.refl _ _))
        · intro wq K listed hR hP hG hL hS hC hY hK
          simp only [Pre, Region.binds, List.getD_cons_zero, List.getD_cons_succ, true_imp_iff, forall_const, and_true, true_and] at hP
          simp only [Act.put, List.setIfInBounds_toArray, List.set_cons_zero, List.set_cons_succ] at hK
          subst hP
          have hRq : RingIs wq p ⟨r.a, r.h, es, used, sy, fl⟩ v := ⟨hG.1.get hR1.row (by simp), OwnLike.keep hR1.es hG.1 (by simp)⟩
          go_wp2_with (go_at_call 32; refine (end_any hRq hsok).mono ?_; rintro e w2 ⟨rfl, hk2⟩)
          exact hK _ _ (ShapeS.of0 hk2) rfl (hG.step 5 (by decide) _ _ hk2)
        · intro wq K listed hR hP hG hL hS hC hY hK
          simp only [Pre, Region.binds, List.getD_cons_zero, List.getD_cons_succ, true_imp_iff, forall_const, and_true, true_and] at hP
          simp only [Act.put, List.setIfInBounds_toArray, List.set_cons_zero, List.set_cons_succ] at hK
          obtain ⟨q3, q5, -⟩ := hP
          subst q3 q5
          go_wp2_with (go_at_call 35; refine (body_ok (hG1.keep0 hG.1) (hD1.keep0 hG.1) hd hr.a hf ((r.h.place + used) % r.a.places) (by omega)).mono ?_; rw [HBV.out]; rintro e w2 ⟨rfl, hk2⟩)
          exact hK _ _ (ShapeS.of0 hk2) rfl (hG.step 6 (by decide) _ _ hk2)
        · intro wq K listed hR hP hG hL hS hC hY hK
          simp only [Pre, Region.binds, List.getD_cons_zero, List.getD_cons_succ, true_imp_iff, forall_const, and_true, true_and] at hP
          simp only [Act.put, List.setIfInBounds_toArray, List.set_cons_zero, List.set_cons_succ] at hK
          first | subst hP | (obtain ⟨rfl, -⟩ := hP)
          go_wp2
          exact hK _ _ (ShapeS.refl _ _) rfl (hG.step 7 (by decide) _ _ (Keep.refl _ _))
        · intro wq K listed hR hP hG hL hS hC hY hK
          simp only [Pre, Region.binds, List.getD_cons_zero, List.getD_cons_succ, true_imp_iff, forall_const, and_true, true_and] at hP
          simp only [Act.put, List.setIfInBounds_toArray, List.set_cons_zero, List.set_cons_succ] at hK
          first | subst hP | (obtain ⟨rfl, -⟩ := hP)
          go_wp2
          exact hK _ _ (ShapeS.refl _ _) rfl (hG.step 8 (by decide) _ _ (Keep.refl _ _))
        · intro wq K listed hR hP hG hL hS hC hY hK
          simp only [Pre, Region.binds, List.getD_cons_zero, List.getD_cons_succ, true_imp_iff, forall_const, and_true, true_and] at hP
          simp only [Act.put, List.setIfInBounds_toArray, List.set_cons_zero, List.set_cons_succ] at hK
          first | subst hP | (obtain ⟨rfl, -⟩ := hP)
          go_wp2
          exact hK _ _ (ShapeS.refl _ _) rfl (hG.step 9 (by decide) _ _ (Keep.refl _ _))
        · intro wq K listed hR hP hG hL hS hC hY hK
          simp only [Pre, Region.binds, List.getD_cons_zero, List.getD_cons_succ, true_imp_iff, forall_const, and_true, true_and] at hP
          simp only [Act.put, List.setIfInBounds_toArray, List.set_cons_zero, List.set_cons_succ] at hK
          first | subst hP | (obtain ⟨rfl, -⟩ := hP)
          go_wp2
          exact hK _ _ (ShapeS.refl _ _) rfl (hG.step 10 (by decide) _ _ (Keep.refl _ _))
        · intro wq K listed hR hP hG hL hS hC hY hK
          simp only [Pre, Region.binds, List.getD_cons_zero, List.getD_cons_succ, true_imp_iff, forall_const, and_true, true_and] at hP
          simp only [Act.put, List.setIfInBounds_toArray, List.set_cons_zero, List.set_cons_succ] at hK
          go_wp2
          refine hK _ _ (ShapeS.of0 ((Keep.refl _ _).alloc _)) ⟨_, rfl, hG.1.size, _, heap_alloc_new wq _, rfl⟩ ⟨hG.1.alloc _, fun hc => ?_⟩
          rw [getD_set_other (show 11 ≠ 12 by decide), hC.notYet 16 12 11 (by kernel_rfl) hL] at hc
          cases hc
        · intro wq K listed hR hP hG hL hS hC hY hK
          simp only [Pre, Region.binds, List.getD_cons_zero, List.getD_cons_succ, true_imp_iff, forall_const, and_true, true_and] at hP
          simp only [Act.put, List.setIfInBounds_toArray, List.set_cons_zero, List.set_cons_succ] at hK
          obtain ⟨⟨q, rfl, hq, cs, hcs, hcz⟩, rfl, -⟩ := hP
          go_wp2_with (refine wpList_store_part rfl rfl 78 (.tmp 6) (.tmp 25) rfl q 0 rfl #[.int .i64 fk, .int .i64 fs, .int .i64 fnn, .string ⟨fp.toArray⟩] rfl 78 _ hcs (by kernel_rfl) (by simp; omega) (by simp [Value.oneCell']) ?_; intro w6 hk6 hh6)
          rw [over_full cs _ (by simpa using hcz.symm)] at hh6
          refine hK undef _ (fun q2 cs2 e2 => ?_) trivial ⟨hG.1.trans hk6 (fun x hx => Or.inr (by rw [List.mem_singleton.1 hx]; exact hq)), fun _ => ⟨q, rfl, hq, hh6⟩⟩
          by_cases hqq : q2 = q
          · subst hqq
            rw [hcs] at e2
            injection e2 with e2
            injection e2 with e2
            subst e2
            exact ⟨_, hh6, by simp; omega⟩
          · exact ⟨cs2, hk6.get e2 (by simpa using hqq), rfl⟩
        · intro wq K listed hR hP hG hL hS hC hY hK
          simp only [Pre, Region.binds, List.getD_cons_zero, List.getD_cons_succ, true_imp_iff, forall_const, and_true, true_and] at hP
          simp only [Act.put, List.setIfInBounds_toArray, List.set_cons_zero, List.set_cons_succ] at hK
          obtain ⟨rfl, -⟩ := hP
          go_wp2
          exact hK _ _ (ShapeS.refl _ _) rfl (hG.step 13 (by decide) _ _ (Keep.refl _ _))
        · intro wq K listed hR hP hG hL hS hC hY hK
          simp only [Pre, Region.binds, List.getD_cons_zero, List.getD_cons_succ, true_imp_iff, forall_const, and_true, true_and] at hP
          simp only [Act.put, List.setIfInBounds_toArray, List.set_cons_zero, List.set_cons_succ] at hK
          obtain ⟨rfl, -⟩ := hP
          go_wp2
          exact hK _ _ (ShapeS.refl _ _) rfl (hG.step 14 (by decide) _ _ (Keep.refl _ _))
        · intro wf listed hf' hz hL hG
          simp only [AllAt] at hz
          obtain ⟨-, -, -, -, -, -, -, -, -, -, -, -, -, hz13, hz14, -⟩ := hz
          subst hz13; subst hz14
          obtain ⟨hkf, hq⟩ := hG
          obtain ⟨q, hq11, hq1, hqr⟩ := hq (hL 12 (by decide))
          have hq11 : z11 = .pointer (some ⟨q, 0, none⟩) := hq11
          subst hq11
          clear hf' hL hq
          have hRf : RingIs wf p ⟨r.a, r.h, es, used, sy, fl⟩ v := ⟨hkf.get hR1.row (by simp), OwnLike.keep hR1.es hkf (by simp)⟩
          have hEf : EntsAt wf w.heap.size lv l := (hE.keep hk1 (by simp)).keep hkf (by simp)
          have hkwf : Keep (p :: v0.ownBlock.toList) w wf := (hk.then hk1).then hkf
          go_wp2
          obtain ⟨c1, hc1⟩ : ∃ c1, ((n : Int) == 0) = c1 := ⟨_, rfl⟩
          obtain ⟨c2, hc2⟩ : ∃ c2, ((fnn : Int) != (r.h.first : Int) + (es.length : Int)) = c2 := ⟨_, rfl⟩
          obtain ⟨c3, hc3⟩ : ∃ c3, decide (fs < st) = c3 := ⟨_, rfl⟩
          obtain ⟨c4, hc4⟩ : ∃ c4, decide (r.h.generation < fs) = c4 := ⟨_, rfl⟩
          obtain ⟨c5, hc5⟩ : ∃ c5, decide (fr < n) = c5 := ⟨_, rfl⟩
          have C1 := Lib.hid hc1
          have C2 := Lib.hid hc2
          have C3 := Lib.hid hc3
          have C4 := Lib.hid hc4
          have C5 := Lib.hid hc5
          clear hc1 hc2 hc3 hc4 hc5
          obtain ⟨d2, hd2⟩ : ∃ d2, d2 = (c1 || c2) := ⟨_, rfl⟩
          obtain ⟨d3, hd3⟩ : ∃ d3, d3 = (d2 || c3) := ⟨_, rfl⟩
          obtain ⟨d4, hd4⟩ : ∃ d4, d4 = (d3 || c4) := ⟨_, rfl⟩
          obtain ⟨d5, hd5⟩ : ∃ d5, d5 = (d4 || c5) := ⟨_, rfl⟩
          have D2 := Lib.hid hd2
          have D3 := Lib.hid hd3
          have D4 := Lib.hid hd4
          have D5 := Lib.hid hd5
          clear hd2 hd3 hd4 hd5
          (refine wp_region_inv (Keep []) [fun v _ => v = .int .i64 n, fun v _ => v = .bool c1, fun v _ => v = .bool c1, fun v _ => c1 = false → v = .pointer (some ⟨q, 2, none⟩), fun v _ => c1 = false → v = .int .i64 fnn, fun v _ => c1 = false → v = .pointer (some ⟨p, 0, none⟩), fun v _ => c1 = false → v = .int .i64 ((r.h.first + es.length : Nat) : Int), fun v _ => c1 = false → v = .bool c2, fun v _ => v = .bool d2, fun v _ => v = .bool d2, fun v _ => d2 = false → v = .pointer (some ⟨q, 1, none⟩), fun v _ => d2 = false → v = .int .i64 fs, fun v _ => d2 = false → v = .int .i64 st, fun v _ => d2 = false → v = .bool c3, fun v _ => v = .bool d3, fun v _ => v = .bool d3, fun v _ => d3 = false → v = .pointer (some ⟨q, 1, none⟩), fun v _ => d3 = false → v = .int .i64 fs, fun v _ => d3 = false → v = .pointer (some ⟨p, 0, none⟩), fun v _ => d3 = false → v = .pointer (some ⟨p, 0, none⟩), fun v _ => d3 = false → v = .pointer (some ⟨p, 3, none⟩), fun v _ => d3 = false → v = .pointer (some ⟨p, 3, none⟩), fun v _ => d3 = false → v = .int .i64 r.h.generation, fun v _ => d3 = false → v = .bool c4, fun v _ => v = .bool d4, fun v _ => v = .bool d4, fun v _ => d4 = false → v = .int .i64 n, fun v _ => d4 = false → v = .pointer (some ⟨p, 0, none⟩), fun v _ => d4 = false → v = .int .i64 fr, fun v _ => d4 = false → v = .bool c5, fun v _ => v = .bool d5] (by kernel_rfl) (by kernel_rfl) (by kernel_rfl) (fun _ _ _ h k => h.then k) (Keep.refl _) ?stab1 ?main1; (case' main1 => (simp only [List.length_cons, List.length_nil, Nat.zero_add, Nat.reduceAdd, AllVals]; intro z0 z1 z2 z3 z4 z5 z6 z7 z8 z9 z10 z11 z12 z13 z14 z15 z16 z17 z18 z19 z20 z21 z22 z23 z24 z25 z26 z27 z28 z29 z30; simp only [putAll, Act.put, List.setIfInBounds_toArray, List.set_cons_zero, List.set_cons_succ, StepsAt]; refine ⟨?steps1, ?after1⟩)); (case' steps1 => (repeat' apply And.intro)); (case' stab1 => (simp only [Stable])))
          case stab1 => exact ⟨fun _ _ _ _ h => h, fun _ _ _ _ h => h, fun _ _ _ _ h => h, fun _ _ _ _ h => h, fun _ _ _ _ h => h, fun _ _ _ _ h => h, fun _ _ _ _ h => h, fun _ _ _ _ h => h, fun _ _ _ _ h => h, fun _ _ _ _ h => h, fun _ _ _ _ h => h, fun _ _ _ _ h => h, fun _ _ _ _ h => h, fun _ _ _ _ h => h, fun _ _ _ _ h => h, fun _ _ _ _ h => h, fun _ _ _ _ h => h, fun _ _ _ _ h => h, fun _ _ _ _ h => h, fun _ _ _ _ h => h, fun _ _ _ _ h => h, fun _ _ _ _ h => h, fun _ _ _ _ h => h, fun _ _ _ _ h => h, fun _ _ _ _ h => h, fun _ _ _ _ h => h, fun _ _ _ _ h => h, fun _ _ _ _ h => h, fun _ _ _ _ h => h, fun _ _ _ _ h => h, fun _ _ _ _ h => h, trivial⟩
          all_goals try (first | trivial | exact True.intro)
          · (intro wq K hR hP hK; simp only [Pre, Region.binds, List.getD_cons_zero, List.getD_cons_succ, true_imp_iff, forall_const, and_true, true_and] at hP; simp only [Act.put, List.setIfInBounds_toArray, List.set_cons_zero, List.set_cons_succ] at hK)
            go_wp2
            exact hK _ _ (Keep.refl _ _) rfl
          · (intro wq K hR hP hK; simp only [Pre, Region.binds, List.getD_cons_zero, List.getD_cons_succ, true_imp_iff, forall_const, and_true, true_and] at hP; simp only [Act.put, List.setIfInBounds_toArray, List.set_cons_zero, List.set_cons_succ] at hK)
            first | subst hP | (obtain ⟨rfl, -⟩ := hP)
            have hc1 := C1.out
            go_wp2
            exact hK _ _ (Keep.refl _ _) rfl
          · (intro wq K hR hP hK; simp only [Pre, Region.binds, List.getD_cons_zero, List.getD_cons_succ, true_imp_iff, forall_const, and_true, true_and] at hP; simp only [Act.put, List.setIfInBounds_toArray, List.set_cons_zero, List.set_cons_succ] at hK)
            first | subst hP | (obtain ⟨rfl, -⟩ := hP)
            go_wp2
            exact hK _ _ (Keep.refl _ _) rfl
          · (intro wq K hR hP hK; simp only [Pre, Region.binds, List.getD_cons_zero, List.getD_cons_succ, true_imp_iff, forall_const, and_true, true_and] at hP; simp only [Act.put, List.setIfInBounds_toArray, List.set_cons_zero, List.set_cons_succ] at hK)
            obtain rfl := hP
            cases c1 with
            | true =>
              go_wp2
              exact hK undef _ (Keep.refl _ _) (fun h => by cases h)
            | false =>
              go_wp2
              exact hK _ _ (Keep.refl _ _) (fun _ => rfl)
          · (intro wq K hR hP hK; simp only [Pre, Region.binds, List.getD_cons_zero, List.getD_cons_succ, true_imp_iff, forall_const, and_true, true_and] at hP; simp only [Act.put, List.setIfInBounds_toArray, List.set_cons_zero, List.set_cons_succ] at hK)
            obtain ⟨h3, rfl⟩ := hP
            cases c1 with
            | true =>
              go_wp2
              exact hK undef _ (Keep.refl _ _) (fun h => by cases h)
            | false =>
              have h3 := h3 rfl
              subst h3
              have cq : wq.cell? ⟨q, 2, none⟩ = some (.int .i64 fnn) := (cell_row' (j := 2) (hR.drew'.get hqr (by simp))).trans rfl
              go_wp2
              exact hK _ _ (Keep.refl _ _) (fun _ => rfl)
          · (intro wq K hR hP hK; simp only [Pre, Region.binds, List.getD_cons_zero, List.getD_cons_succ, true_imp_iff, forall_const, and_true, true_and] at hP; simp only [Act.put, List.setIfInBounds_toArray, List.set_cons_zero, List.set_cons_succ] at hK)
            obtain rfl := hP
            cases c1 with
            | true =>
              go_wp2
              exact hK undef _ (Keep.refl _ _) (fun h => by cases h)
            | false =>
              go_wp2
              exact hK _ _ (Keep.refl _ _) (fun _ => rfl)
          · (intro wq K hR hP hK; simp only [Pre, Region.binds, List.getD_cons_zero, List.getD_cons_succ, true_imp_iff, forall_const, and_true, true_and] at hP; simp only [Act.put, List.setIfInBounds_toArray, List.set_cons_zero, List.set_cons_succ] at hK)
            obtain ⟨h5, rfl, -⟩ := hP
            cases c1 with
            | true =>
              go_wp2
              exact hK undef _ (Keep.refl _ _) (fun h => by cases h)
            | false =>
              have h5 := h5 rfl
              subst h5
              have hRq : RingIs wq p ⟨r.a, r.h, es, used, sy, fl⟩ v := ⟨hR.drew'.get hRf.row (by simp), OwnLike.keep hRf.es hR.drew' (by simp)⟩
              go_wp2_with (go_at_call 10; refine (next_any hRq hsok).mono ?_; rintro e w2 ⟨rfl, hk2⟩)
              exact hK _ _ hk2 (fun _ => rfl)
          · (intro wq K hR hP hK; simp only [Pre, Region.binds, List.getD_cons_zero, List.getD_cons_succ, true_imp_iff, forall_const, and_true, true_and] at hP; simp only [Act.put, List.setIfInBounds_toArray, List.set_cons_zero, List.set_cons_succ] at hK)
            obtain ⟨h4, h6, rfl⟩ := hP
            cases c1 with
            | true =>
              go_wp2
              exact hK undef _ (Keep.refl _ _) (fun h => by cases h)
            | false =>
              have h4 := h4 rfl
              subst h4
              have h6 := h6 rfl
              subst h6
              have hc := C2.out
              go_wp2
              exact hK _ _ (Keep.refl _ _) (fun _ => rfl)
          · (intro wq K hR hP hK; simp only [Pre, Region.binds, List.getD_cons_zero, List.getD_cons_succ, true_imp_iff, forall_const, and_true, true_and] at hP; simp only [Act.put, List.setIfInBounds_toArray, List.set_cons_zero, List.set_cons_succ] at hK)
            obtain ⟨rfl, hx⟩ := hP
            cases c1 with
            | true =>
              have e : d2 = true := by rw [D2.out]; rfl
              subst e
              go_wp2
              exact hK _ _ (Keep.refl _ _) rfl
            | false =>
              have hx := hx rfl
              subst hx
              have e : d2 = c2 := by rw [D2.out]; rfl
              subst e
              go_wp2
              exact hK _ _ (Keep.refl _ _) rfl
          · (intro wq K hR hP hK; simp only [Pre, Region.binds, List.getD_cons_zero, List.getD_cons_succ, true_imp_iff, forall_const, and_true, true_and] at hP; simp only [Act.put, List.setIfInBounds_toArray, List.set_cons_zero, List.set_cons_succ] at hK)
            first | subst hP | (obtain ⟨rfl, -⟩ := hP)
            go_wp2
            exact hK _ _ (Keep.refl _ _) rfl
          · (intro wq K hR hP hK; simp only [Pre, Region.binds, List.getD_cons_zero, List.getD_cons_succ, true_imp_iff, forall_const, and_true, true_and] at hP; simp only [Act.put, List.setIfInBounds_toArray, List.set_cons_zero, List.set_cons_succ] at hK)
            obtain rfl := hP
            cases d2 with
            | true =>
              go_wp2
              exact hK undef _ (Keep.refl _ _) (fun h => by cases h)
            | false =>
              go_wp2
              exact hK _ _ (Keep.refl _ _) (fun _ => rfl)
          · (intro wq K hR hP hK; simp only [Pre, Region.binds, List.getD_cons_zero, List.getD_cons_succ, true_imp_iff, forall_const, and_true, true_and] at hP; simp only [Act.put, List.setIfInBounds_toArray, List.set_cons_zero, List.set_cons_succ] at hK)
            obtain ⟨h10, rfl⟩ := hP
            cases d2 with
            | true =>
              go_wp2
              exact hK undef _ (Keep.refl _ _) (fun h => by cases h)
            | false =>
              have h10 := h10 rfl
              subst h10
              have cq : wq.cell? ⟨q, 1, none⟩ = some (.int .i64 fs) := (cell_row' (j := 1) (hR.drew'.get hqr (by simp))).trans rfl
              go_wp2
              exact hK _ _ (Keep.refl _ _) (fun _ => rfl)
          · (intro wq K hR hP hK; simp only [Pre, Region.binds, List.getD_cons_zero, List.getD_cons_succ, true_imp_iff, forall_const, and_true, true_and] at hP; simp only [Act.put, List.setIfInBounds_toArray, List.set_cons_zero, List.set_cons_succ] at hK)
            obtain rfl := hP
            cases d2 with
            | true =>
              go_wp2
              exact hK undef _ (Keep.refl _ _) (fun h => by cases h)
            | false =>
              go_wp2
              exact hK _ _ (Keep.refl _ _) (fun _ => rfl)
          · (intro wq K hR hP hK; simp only [Pre, Region.binds, List.getD_cons_zero, List.getD_cons_succ, true_imp_iff, forall_const, and_true, true_and] at hP; simp only [Act.put, List.setIfInBounds_toArray, List.set_cons_zero, List.set_cons_succ] at hK)
            obtain ⟨h11, h12, rfl⟩ := hP
            cases d2 with
            | true =>
              go_wp2
              exact hK undef _ (Keep.refl _ _) (fun h => by cases h)
            | false =>
              have h11 := h11 rfl
              subst h11
              have h12 := h12 rfl
              subst h12
              have hc := C3.out
              go_wp2
              exact hK _ _ (Keep.refl _ _) (fun _ => rfl)
          · (intro wq K hR hP hK; simp only [Pre, Region.binds, List.getD_cons_zero, List.getD_cons_succ, true_imp_iff, forall_const, and_true, true_and] at hP; simp only [Act.put, List.setIfInBounds_toArray, List.set_cons_zero, List.set_cons_succ] at hK)
            obtain ⟨rfl, hx⟩ := hP
            cases d2 with
            | true =>
              have e : d3 = true := by rw [D3.out]; rfl
              subst e
              go_wp2
              exact hK _ _ (Keep.refl _ _) rfl
            | false =>
              have hx := hx rfl
              subst hx
              have e : d3 = c3 := by rw [D3.out]; rfl
              subst e
              go_wp2
              exact hK _ _ (Keep.refl _ _) rfl
          · (intro wq K hR hP hK; simp only [Pre, Region.binds, List.getD_cons_zero, List.getD_cons_succ, true_imp_iff, forall_const, and_true, true_and] at hP; simp only [Act.put, List.setIfInBounds_toArray, List.set_cons_zero, List.set_cons_succ] at hK)
            first | subst hP | (obtain ⟨rfl, -⟩ := hP)
            go_wp2
            exact hK _ _ (Keep.refl _ _) rfl
          · (intro wq K hR hP hK; simp only [Pre, Region.binds, List.getD_cons_zero, List.getD_cons_succ, true_imp_iff, forall_const, and_true, true_and] at hP; simp only [Act.put, List.setIfInBounds_toArray, List.set_cons_zero, List.set_cons_succ] at hK)
            obtain rfl := hP
            cases d3 with
            | true =>
              go_wp2
              exact hK undef _ (Keep.refl _ _) (fun h => by cases h)
            | false =>
              go_wp2
              exact hK _ _ (Keep.refl _ _) (fun _ => rfl)
          · (intro wq K hR hP hK; simp only [Pre, Region.binds, List.getD_cons_zero, List.getD_cons_succ, true_imp_iff, forall_const, and_true, true_and] at hP; simp only [Act.put, List.setIfInBounds_toArray, List.set_cons_zero, List.set_cons_succ] at hK)
            obtain ⟨h16, rfl⟩ := hP
            cases d3 with
            | true =>
              go_wp2
              exact hK undef _ (Keep.refl _ _) (fun h => by cases h)
            | false =>
              have h16 := h16 rfl
              subst h16
              have cq : wq.cell? ⟨q, 1, none⟩ = some (.int .i64 fs) := (cell_row' (j := 1) (hR.drew'.get hqr (by simp))).trans rfl
              go_wp2
              exact hK _ _ (Keep.refl _ _) (fun _ => rfl)
          · (intro wq K hR hP hK; simp only [Pre, Region.binds, List.getD_cons_zero, List.getD_cons_succ, true_imp_iff, forall_const, and_true, true_and] at hP; simp only [Act.put, List.setIfInBounds_toArray, List.set_cons_zero, List.set_cons_succ] at hK)
            obtain rfl := hP
            cases d3 with
            | true =>
              go_wp2
              exact hK undef _ (Keep.refl _ _) (fun h => by cases h)
            | false =>
              go_wp2
              exact hK _ _ (Keep.refl _ _) (fun _ => rfl)
          · (intro wq K hR hP hK; simp only [Pre, Region.binds, List.getD_cons_zero, List.getD_cons_succ, true_imp_iff, forall_const, and_true, true_and] at hP; simp only [Act.put, List.setIfInBounds_toArray, List.set_cons_zero, List.set_cons_succ] at hK)
            obtain ⟨h18, rfl⟩ := hP
            cases d3 with
            | true =>
              go_wp2
              exact hK undef _ (Keep.refl _ _) (fun h => by cases h)
            | false =>
              have h18 := h18 rfl
              subst h18
              go_wp2
              exact hK _ _ (Keep.refl _ _) (fun _ => rfl)
          · (intro wq K hR hP hK; simp only [Pre, Region.binds, List.getD_cons_zero, List.getD_cons_succ, true_imp_iff, forall_const, and_true, true_and] at hP; simp only [Act.put, List.setIfInBounds_toArray, List.set_cons_zero, List.set_cons_succ] at hK)
            obtain ⟨h19, rfl⟩ := hP
            cases d3 with
            | true =>
              go_wp2
              exact hK undef _ (Keep.refl _ _) (fun h => by cases h)
            | false =>
              have h19 := h19 rfl
              subst h19
              go_wp2
              exact hK _ _ (Keep.refl _ _) (fun _ => rfl)
          · (intro wq K hR hP hK; simp only [Pre, Region.binds, List.getD_cons_zero, List.getD_cons_succ, true_imp_iff, forall_const, and_true, true_and] at hP; simp only [Act.put, List.setIfInBounds_toArray, List.set_cons_zero, List.set_cons_succ] at hK)
            obtain ⟨h20, rfl⟩ := hP
            cases d3 with
            | true =>
              go_wp2
              exact hK undef _ (Keep.refl _ _) (fun h => by cases h)
            | false =>
              have h20 := h20 rfl
              subst h20
              go_wp2
              exact hK _ _ (Keep.refl _ _) (fun _ => rfl)
          · (intro wq K hR hP hK; simp only [Pre, Region.binds, List.getD_cons_zero, List.getD_cons_succ, true_imp_iff, forall_const, and_true, true_and] at hP; simp only [Act.put, List.setIfInBounds_toArray, List.set_cons_zero, List.set_cons_succ] at hK)
            obtain ⟨h21, rfl⟩ := hP
            cases d3 with
            | true =>
              go_wp2
              exact hK undef _ (Keep.refl _ _) (fun h => by cases h)
            | false =>
              have h21 := h21 rfl
              subst h21
              have cq : wq.cell? ⟨p, 3, none⟩ = some (.int .i64 r.h.generation) := (cell_row' (j := 3) (hR.drew'.get hRf.row (by simp))).trans rfl
              go_wp2
              exact hK _ _ (Keep.refl _ _) (fun _ => rfl)
          · (intro wq K hR hP hK; simp only [Pre, Region.binds, List.getD_cons_zero, List.getD_cons_succ, true_imp_iff, forall_const, and_true, true_and] at hP; simp only [Act.put, List.setIfInBounds_toArray, List.set_cons_zero, List.set_cons_succ] at hK)
            obtain ⟨h17, h22, rfl⟩ := hP
            cases d3 with
            | true =>
              go_wp2
              exact hK undef _ (Keep.refl _ _) (fun h => by cases h)
            | false =>
              have h17 := h17 rfl
              subst h17
              have h22 := h22 rfl
              subst h22
              have hc := C4.out
              go_wp2
              exact hK _ _ (Keep.refl _ _) (fun _ => rfl)
          · (intro wq K hR hP hK; simp only [Pre, Region.binds, List.getD_cons_zero, List.getD_cons_succ, true_imp_iff, forall_const, and_true, true_and] at hP; simp only [Act.put, List.setIfInBounds_toArray, List.set_cons_zero, List.set_cons_succ] at hK)
            obtain ⟨rfl, hx⟩ := hP
            cases d3 with
            | true =>
              have e : d4 = true := by rw [D4.out]; rfl
              subst e
              go_wp2
              exact hK _ _ (Keep.refl _ _) rfl
            | false =>
              have hx := hx rfl
              subst hx
              have e : d4 = c4 := by rw [D4.out]; rfl
              subst e
              go_wp2
              exact hK _ _ (Keep.refl _ _) rfl
          · (intro wq K hR hP hK; simp only [Pre, Region.binds, List.getD_cons_zero, List.getD_cons_succ, true_imp_iff, forall_const, and_true, true_and] at hP; simp only [Act.put, List.setIfInBounds_toArray, List.set_cons_zero, List.set_cons_succ] at hK)
            first | subst hP | (obtain ⟨rfl, -⟩ := hP)
            go_wp2
            exact hK _ _ (Keep.refl _ _) rfl
          · (intro wq K hR hP hK; simp only [Pre, Region.binds, List.getD_cons_zero, List.getD_cons_succ, true_imp_iff, forall_const, and_true, true_and] at hP; simp only [Act.put, List.setIfInBounds_toArray, List.set_cons_zero, List.set_cons_succ] at hK)
            obtain rfl := hP
            cases d4 with
            | true =>
              go_wp2
              exact hK undef _ (Keep.refl _ _) (fun h => by cases h)
            | false =>
              go_wp2
              exact hK _ _ (Keep.refl _ _) (fun _ => rfl)
          · (intro wq K hR hP hK; simp only [Pre, Region.binds, List.getD_cons_zero, List.getD_cons_succ, true_imp_iff, forall_const, and_true, true_and] at hP; simp only [Act.put, List.setIfInBounds_toArray, List.set_cons_zero, List.set_cons_succ] at hK)
            obtain rfl := hP
            cases d4 with
            | true =>
              go_wp2
              exact hK undef _ (Keep.refl _ _) (fun h => by cases h)
            | false =>
              go_wp2
              exact hK _ _ (Keep.refl _ _) (fun _ => rfl)
          · (intro wq K hR hP hK; simp only [Pre, Region.binds, List.getD_cons_zero, List.getD_cons_succ, true_imp_iff, forall_const, and_true, true_and] at hP; simp only [Act.put, List.setIfInBounds_toArray, List.set_cons_zero, List.set_cons_succ] at hK)
            obtain ⟨h27, rfl, -⟩ := hP
            cases d4 with
            | true =>
              go_wp2
              exact hK undef _ (Keep.refl _ _) (fun h => by cases h)
            | false =>
              have h27 := h27 rfl
              subst h27
              have hRq : RingIs wq p ⟨r.a, r.h, es, used, sy, fl⟩ v := ⟨hR.drew'.get hRf.row (by simp), OwnLike.keep hRf.es hR.drew' (by simp)⟩
              go_wp2_with (go_at_call 15; refine (free_any hRq hsok).mono ?_; rw [HFR.out]; rintro e w2 ⟨rfl, hk2⟩)
              exact hK _ _ hk2 (fun _ => rfl)
          · (intro wq K hR hP hK; simp only [Pre, Region.binds, List.getD_cons_zero, List.getD_cons_succ, true_imp_iff, forall_const, and_true, true_and] at hP; simp only [Act.put, List.setIfInBounds_toArray, List.set_cons_zero, List.set_cons_succ] at hK)
            obtain ⟨h26, h28, rfl⟩ := hP
            cases d4 with
            | true =>
              go_wp2
              exact hK undef _ (Keep.refl _ _) (fun h => by cases h)
            | false =>
              have h26 := h26 rfl
              subst h26
              have h28 := h28 rfl
              subst h28
              have hc := C5.out
              go_wp2
              exact hK _ _ (Keep.refl _ _) (fun _ => rfl)
          · (intro wq K hR hP hK; simp only [Pre, Region.binds, List.getD_cons_zero, List.getD_cons_succ, true_imp_iff, forall_const, and_true, true_and] at hP; simp only [Act.put, List.setIfInBounds_toArray, List.set_cons_zero, List.set_cons_succ] at hK)
            obtain ⟨rfl, hx⟩ := hP
            cases d4 with
            | true =>
              have e : d5 = true := by rw [D5.out]; rfl
              subst e
              go_wp2
              exact hK _ _ (Keep.refl _ _) rfl
            | false =>
              have hx := hx rfl
              subst hx
              have e : d5 = c5 := by rw [D5.out]; rfl
              subst e
              go_wp2
              exact hK _ _ (Keep.refl _ _) rfl
          (intro wz hkz hz; simp only [AllAt] at hz)
          obtain ⟨-, -, -, -, -, -, -, -, -, -, -, -, -, -, -, -, -, -, -, -, -, -, -, -, -, -, -, -, -, -, hz30, -⟩ := hz
          subst hz30
          have hkz := hkz.drew'
          have hcond := find_cond (d := d) (s := (⟨r.a, r.h, es, used, sy, fl⟩, st, l)) (fk := fk) (fs := fs) (fnn := fnn) (fp := fp) (n := n) (fr := fr) HFR.out h0 HBN.out HBS.out
          simp only at hcond
          rw [C1.out, C2.out, C3.out, C4.out, C5.out, ← D2.out, ← D3.out, ← D4.out, ← D5.out] at hcond
          have hqz := hkz.get hqr (by simp)
          have hRz : RingIs wz p ⟨r.a, r.h, es, used, sy, fl⟩ v := ⟨hkz.get hRf.row (by simp), OwnLike.keep hRf.es hkz (by simp)⟩
          have hEz : EntsAt wz w.heap.size lv l := hEf.keep hkz (by simp)
          have hkwz : Keep (p :: v0.ownBlock.toList) w wz := hkwf.then hkz
          cases d5 with
          | true =>
            have hfd := HFD.out.trans (findF_done (hcond.1 rfl) k)
            have HX := Lib.hid hfd
            clear hfd hcond
            go_wp2
            go_ret2
            exact ⟨lv, v, rfl, by rw [HX.out]; exact hRz, by rw [HX.out]; exact hEz, hkwz, hvo⟩
          | false =>
            obtain ⟨hst, hn0, hnf⟩ := hcond.2 rfl
            obtain ⟨k, rfl⟩ : ∃ k', k = k' + 1 := ⟨k - 1, by have h1 := HFU.out; have h2 := HFR.out; omega⟩
            have hfd := HFD.out.trans (findF_more hst k)
            have HX := Lib.hid hfd
            clear hfd hst hcond
            have cq1 : wz.cell? ⟨q, 1, none⟩ = some (.int .i64 fs) := (cell_row' (j := 1) hqz).trans rfl
            have cq2 : wz.cell? ⟨q, 2, none⟩ = some (.int .i64 fnn) := (cell_row' (j := 2) hqz).trans rfl
            have cq3 : wz.cell? ⟨q, 3, none⟩ = some (.string ⟨fp.toArray⟩) := (cell_row' (j := 3) hqz).trans rfl
            go_wp2_with (first
              | (refine wpList_append_entry rfl (.tmp 62) (.tmp 68) rfl lv l w.heap.size rfl (hEz.keep ((Keep.refl [] wz).alloc _) (by simp)) (by have := hkwz.size; simp; omega) (fnn, fp) wz.heap.size (0, 0) (heap_alloc_new wz _) rfl (by omega) ?_
                 intro lv2 w3 hE3 hg3 _
                 have hk3 : Keep lv.ownBlock.toList wz w3 := (((Keep.refl [] wz).alloc _).mono (F' := lv.ownBlock.toList) (by simp)).grown hg3 (fun k e => Or.inl (by rw [e]; simp))
                 have hlp : p ∉ lv.ownBlock.toList := fun hm => own_row_ne hEz hRz.row (by decide) (by simpa using hm)
                 have hlq : q ∉ lv.ownBlock.toList := fun hm => own_row_ne hEz hqz (by decide) (by simpa using hm)
                 have hR3 : RingIs w3 p ⟨r.a, r.h, es, used, sy, fl⟩ v := ⟨hk3.get hRz.row hlp, OwnLike.keep hRz.es hk3 (fun k hk e => own_ne hRz.es hEz (by decide) k e (by simpa using hk))⟩
                 have hq3 := hk3.get hqz hlq
                 have cw1 : w3.cell? ⟨q, 1, none⟩ = some (.int .i64 fs) := (cell_row' (j := 1) hq3).trans rfl)
              | (go_at_call 43; refine (add_any hR3 hsok (fs, n) (by simp only; omega)).mono ?_; rintro e w4 ⟨rfl, v4, hR4, hk4, hv4⟩
                 have hq4 := hk4.get hq3 (fun hm => by
                   rcases List.mem_cons.1 hm with e | e
                   · subst e
                     rw [hR3.row] at hq3
                     injection hq3 with hq3
                     injection hq3 with _ hq3
                     revert hq3
                     decide
                   · exact own_row_ne hR3.es hq3 (by decide) (by simpa using e))
                 have c4 : w4.cell? ⟨q, 1, none⟩ = some (.int .i64 fs) := (cell_row' (j := 1) hq4).trans rfl))
            have c8 : w4.cell? ⟨p, 8, none⟩ = some (.int .i64 ((used + n : Nat) : Int)) := (cell_row' (j := 8) hR4.row).trans rfl
            have c8r : wr.cell? ⟨p, 8, none⟩ = some (.int .i64 (used : Nat)) := (cell_row' (j := 8) hR.row).trans rfl
            have hE4 : EntsAt w4 w.heap.size lv2 (l ++ [(fnn, fp)]) := hE3.keep hk4 (fun k hk => by
              rcases List.mem_cons.1 hk with e | e
              · subst e; exact own_row_ne hE3 hR3.row (by decide)
              · exact fun e2 => own_ne hE3 hR3.es (by decide) k e2 (by simpa using e))
            have hv0 : ∀ x, v.ownBlock = some x → x ∈ p :: v0.ownBlock.toList ∨ w.heap.size ≤ x := fun x e => by
              rcases hvo with h | ⟨k, h1, h2⟩
              · left; rw [← h, e]; simp
              · rw [h1] at e; cases e; exact .inr h2
            refine ⟨⟨lv2, k, (RV.add ⟨r.a, r.h, es, used, sy, fl⟩ (fs, n), fs, l ++ [(fnn, fp)]), v4, rfl, HX.out, ?_, rfl, rfl, rfl, ?_, ?_, ?_, hR4, hE4, ?_, ?_⟩, ?_⟩
            · have h1 := HFU.out; have h2 := HFR.out; simp only [RV.add] at h1 ⊢; omega
            · have h2 := HFR.out; simp only [RV.add]; omega
            · simp only [RV.add, List.length_append, List.length_singleton]; omega
            · simp only [RV.add, List.length_append, List.length_singleton]; omega
            · refine (hkwz.trans hk3 (fun x hx => Or.inr (World.ownsRow.lt hEz x (by simpa using hx)).1)).trans hk4 (fun x hx => ?_)
              rcases List.mem_cons.1 hx with e | e
              · left; rw [e]; simp
              · exact hv0 x (by simpa using e)
            · rcases hv4 with h | ⟨k', h1, h2⟩
              · rw [h]; exact hvo
              · exact .inr ⟨k', h1, by have := hkwz.size; have := hk3.size; omega⟩
            · have h2 := HFR.out
              simp only [c8, c8r, intOf]; omega
end
end Go.Proofs.YtgopdbpddemplaaDoor
