/- ring: Trim, where a head is written. -/
import Derived.Test.YtgopdbpddemplaaDoorPart24
set_option linter.unusedSimpArgs false
set_option linter.unusedVariables false
namespace Go.Proofs.YtgopdbpddemplaaDoor
section
/- ring: Trim, where a head is written. -/
open Go.RowKit

/-- the ring's row while Trim turns it -/
def rowT (r : RV) (h' : HV) (u' : Nat) (v0 : Value) (l19 l22 l25 : Bool) (v10 : Value) : Array Value :=
  RV.cells ⟨r.a, if l19 = true then h' else r.h, r.es, if l25 = true then u' else r.used, r.synced, r.failed⟩ (if l22 = true then v10 else v0)
def GT (p : Nat) (w9 : World) (r : RV) (h' : HV) (u' : Nat) (v0 : Value) (listed : Array Bool) (vs : List Value) (w : World) : Prop :=
  Keep [p] w9 w ∧ w.heap[p]? = some (.cells (rowT r h' u' v0 (listed.getD 19 false) (listed.getD 22 false) (listed.getD 25 false) (vs.getD 10 undef)) 66 (0, 0))
theorem GT.step {p : Nat} {w9 : World} {r : RV} {h' : HV} {u' : Nat} {v0 : Value} {listed : Array Bool} {vs : List Value} {w : World} (h : GT p w9 r h' u' v0 listed vs w) (i : Nat) (hi : i ≠ 10 ∧ i ≠ 19 ∧ i ≠ 22 ∧ i ≠ 25) (v : Value) (w' : World) (hk : Keep [] w w') : GT p w9 r h' u' v0 (listed.setIfInBounds i true) (vs.set i v) w' := by
  refine ⟨h.1.then hk, ?_⟩
  rw [getD_set_other hi.2.1, getD_set_other hi.2.2.1, getD_set_other hi.2.2.2]
  have e : (vs.set i v).getD 10 undef = vs.getD 10 undef := by simp [List.getD_eq_getElem?_getD, List.getElem?_set_ne hi.1]
  rw [e]
  exact hk.get h.2 (by simp)
theorem GT.step10 {p : Nat} {w9 : World} {r : RV} {h' : HV} {u' : Nat} {v0 : Value} {listed : Array Bool} {vs : List Value} {w : World} (h : GT p w9 r h' u' v0 listed vs w) (h22 : listed.getD 22 false = false) (v : Value) (w' : World) (hk : Keep [] w w') : GT p w9 r h' u' v0 (listed.setIfInBounds 10 true) (vs.set 10 v) w' := by
  refine ⟨h.1.then hk, ?_⟩
  have h2 := h.2
  rw [getD_set_other (show 10 ≠ 19 by decide), getD_set_other (show 10 ≠ 22 by decide), getD_set_other (show 10 ≠ 25 by decide)]
  rw [h22] at h2 ⊢
  exact hk.get h2 (by simp)
/-- the ghost of a region that makes one block and stores into it -/
def GS (t : TypeId) (ks ka : Nat) (w5 : World) (C : Array Value) (listed : Array Bool) (vs : List Value) (w : World) : Prop :=
  Keep [] w5 w ∧ (listed.getD ks false = true → ∃ q, vs.getD ka undef = .pointer (some ⟨q, 0, none⟩) ∧ w5.heap.size ≤ q ∧ w.heap[q]? = some (.cells C t (0, 0)))
theorem GS.step {t : TypeId} {ks ka : Nat} {w5 : World} {C : Array Value} {listed : Array Bool} {vs : List Value} {w : World} (h : GS t ks ka w5 C listed vs w) (i : Nat) (hi : i ≠ ka ∧ i ≠ ks) (v : Value) (w' : World) (hk : Keep [] w w') : GS t ks ka w5 C (listed.setIfInBounds i true) (vs.set i v) w' := by
  refine ⟨h.1.then hk, fun hc => ?_⟩
  rw [getD_set_other hi.2] at hc
  obtain ⟨q, h1, h2, h3⟩ := h.2 hc
  refine ⟨q, ?_, h2, hk.get h3 (by simp)⟩
  rw [← h1]
  simp [List.getD_eq_getElem?_getD, List.getElem?_set_ne hi.1]
set_option maxRecDepth 100000 in
set_option maxHeartbeats 2000000 in
theorem trim_main {F : List Nat} {w : World} {p : Nat} {d : DK} {r : RV} {v : Value} (hG : Glob w) (h : RingOn w p d r v F) (hd : d.down = false) (hf : r.a.fits d) (hlen : d.pend.length ≤ 50000000) (hsum : r.used = sumB r.es) (hhp : r.h.place ≤ r.a.places) (h1 : r.failed = 0) (h5 : r.h.generation < 2147483647) (c : Nat) (hc1 : 1 ≤ c) (hc2 : c ≤ r.es.length) (hnx : r.h.first + c ≤ 1099511627775) (hst : ∀ x ∈ r.es, x.1 ≤ 2147483647) :
    Calls Tryd.prog 23 #[.pointer (some ⟨p, 0, none⟩), .int .i64 ((r.h.first + c : Nat) : Int)] w fun e w' => e = .returned (.int .i64 (trimF d r ((r.h.first + c : Nat) : Int)).1) ∧ OpPost w F p v (trimF d r ((r.h.first + c : Nat) : Int)).2.1 (trimF d r ((r.h.first + c : Nat) : Int)).2.2 w' := by
  have hO1 := h.keep0 ((Keep.refl [] w).alloc (.cells #[.pointer (some ⟨p, 0, none⟩)] 26))
  have c0 : (w.alloc (.cells #[.pointer (some ⟨p, 0, none⟩)] 26)).cell? ⟨w.heap.size, 0, none⟩ = some (.pointer (some ⟨p, 0, none⟩)) := (cell_row' (j := 0) (heap_alloc_new w _)).trans rfl
  have ha1 := h.ok.a.2.1
  have ha2 := h.ok.a.2.2
  have hus := h.ok.used
  have hsl := h.ok.es
  obtain ⟨u, hu⟩ : ∃ u, sumB (r.es.take c) = u := ⟨_, rfl⟩
  have hule : u ≤ r.used := by rw [hsum, ← hu]; exact sumB_take_le _ _
  have hA0 : trimF d r ((r.h.first + c : Nat) : Int) = (let W := putD d r.a (trimH r c); if W.1 ≠ 0 then (W.1, W.2, { r with failed := W.1 }) else (0, W.2, { r with h := trimH r c, es := r.es.drop c, used := r.used - u, synced := r.h.first + r.es.length })) := by
    unfold trimF
    rw [if_neg (by simpa using h1), if_neg (by omega), if_neg (by omega), if_neg (by omega)]
    have : (((r.h.first + c : Nat) : Int) - r.h.first).toNat = c := by omega
    simp only [this]
    rw [← hu]; rfl
  have hokH : (trimH r c).ok := by
    refine ⟨?_, ?_, ?_, ?_⟩
    · show r.h.generation + 1 ≤ _; omega
    · show r.h.first + c ≤ _; omega
    · have := Nat.mod_lt (r.h.place + ((r.es.take c).map (·.2)).sum) (show r.a.places > 0 by omega)
      show (r.h.place + ((r.es.take c).map (·.2)).sum) % r.a.places ≤ _; omega
    · show (r.es.getD (c - 1) (0, 0)).1 ≤ _
      rw [List.getD_eq_getElem?_getD, List.getElem?_eq_getElem (by omega)]
      exact hst _ (List.getElem_mem _)
  have hnb1 : ¬ ((r.h.first : Int) + c < r.h.first) := by omega
  have hnb2 : ¬ ((r.h.first : Int) + (r.es.length : Int) < (r.h.first : Int) + c) := by omega
  have hb : (((r.h.first : Int) + c) == (r.h.first : Int)) = false := by simp; omega
  have hgb : ((r.h.generation : Int) == 2147483647) = false := by simp; omega
  have hkf := h.ok.h.f
  have hcc : (r.h.first : Int) + (c : Int) - (r.h.first : Int) = c := by omega
  obtain ⟨P, hP⟩ : ∃ P, putD d r.a (trimH r c) = P := ⟨_, rfl⟩
  simp only [hP] at hA0
  have HFA := Lib.hid h1
  have HA0 := Lib.hid hA0
  have HU := Lib.hid hu
  have HP := Lib.hid hP
  have HSUM := Lib.hid hsum
  rcases h.ring.es.2 with ⟨hvn, hxs⟩ | ⟨g, cap, cur, hvg, hgb0, hgrow, hncap, hcapm, hcsz, hctake⟩
  · have := storedCells_length r.es
    rw [hxs] at this
    simp at this
    omega
  subst hvg
  have hgc : ∀ i, i < r.es.length → cur[2 * i]? = some (.int .i64 ((r.es.getD i (0, 0)).1 : Nat)) ∧ cur[2 * i + 1]? = some (.int .i64 ((r.es.getD i (0, 0)).2 : Nat)) := fun i hi => by
    have hg2 := storedCells_get r.es i hi
    have hge : r.es.getD i (0, 0) = r.es[i] := by simp [List.getD_eq_getElem?_getD, hi]
    rw [hge]
    have hl := storedCells_length r.es
    rw [← hctake] at hg2
    constructor
    · rw [← hg2.1, List.getElem?_take_of_lt (by omega), Array.getElem?_toList]
    · rw [← hg2.2, List.getElem?_take_of_lt (by omega), Array.getElem?_toList]
  have HGC := Lib.hid hgc
  clear h1 hA0 hu hP hsum hgc
  go_enter Tryd.func23, Tryd.ntmps23
  go_wp2_with (first
    | (go_at_call 10; refine (next_any hO1.ring hO1.ok).mono ?_; rintro e w4 ⟨rfl, hk4⟩
       have hkw4 := ((Keep.refl [] w).alloc (.cells #[.pointer (some ⟨p, 0, none⟩)] 26)).then hk4
       have r4 := hk4.get (heap_alloc_new w (.cells #[.pointer (some ⟨p, 0, none⟩)] 26)) (by simp)
       replace hO1 := hO1.keep0 hk4
       have c4 := (cell_row' (j := 0) r4).trans rfl
       have cg : w4.cell? ⟨p, 3, none⟩ = some (.int .i64 r.h.generation) := (cell_row' (j := 3) hO1.ring.row).trans rfl
       have c7 : w4.cell? ⟨p, 7, none⟩ = some (.slice (some ⟨g, 0, none⟩) r.es.length cap) := (cell_row' (j := 7) hO1.ring.row).trans rfl)
    | (go_at_call 24; refine (failed_any hO1.ring).mono ?_; rw [HFA.out]; rintro e w2 ⟨rfl, hw2⟩; obtain rfl := hw2.symm)
    | (go_at_call 14; refine (first_any hO1.ring).mono ?_; rintro e w2 ⟨rfl, hw2⟩; obtain rfl := hw2.symm)
    )
  go_loopw [7, 51] (fun fv i wr => ∃ k : Nat, k ≤ c ∧ i = .int .i64 k ∧ fv = .int .i64 (sumB (r.es.take k)) ∧ Keep [] w4 wr) (fun _ i _ => c - (intOf i).toNat)
  case atStart => exact ⟨0, by omega, rfl, by simp, Keep.refl _ _⟩
  case round =>
    obtain ⟨k, hkc, rfl, rfl, hk⟩ := hrel
    by_cases hlt : k < c
    · have hlt' : (k : Int) < c := by omega
      obtain ⟨hg1, hg2⟩ := HGC.out k (by omega)
      have hgd : r.es.getD k (0, 0) = r.es[k] := by simp [List.getD_eq_getElem?_getD, show k < r.es.length by omega]
      have hss := sumB_take_succ r.es k (by omega)
      have hs1 := sumB_take_le r.es (k + 1)
      rw [← hgd] at hss
      have hgr := hk.get (hkw4.get hgrow (by simp)) (by simp)
      have ce1 : wr.cell? ⟨g, k * 2, none⟩ = some (.int .i64 ((r.es.getD k (0, 0)).1 : Nat)) := by rw [cell_row' hgr, Nat.mul_comm]; exact hg1
      have ce2 : wr.cell? ⟨g, k * 2 + 1, none⟩ = some (.int .i64 ((r.es.getD k (0, 0)).2 : Nat)) := by rw [cell_row' hgr, Nat.mul_comm]; exact hg2
      obtain ⟨x1, hx1⟩ : ∃ x, (r.es.getD k (0, 0)).1 = x := ⟨_, rfl⟩
      obtain ⟨x2, hx2⟩ : ∃ x, (r.es.getD k (0, 0)).2 = x := ⟨_, rfl⟩
      rw [hx1] at ce1
      rw [hx2] at ce2 hss
      obtain ⟨q, hq⟩ : ∃ q, sumB (r.es.take k) = q := ⟨_, rfl⟩
      rw [hq] at hss ⊢
      rw [hss] at hs1
      have hq1 : q + x2 ≤ 1000000 := by have := HSUM.out; omega
      have HSS := Lib.hid hss
      clear hss hs1 hgd hg1 hg2 hx1 hx2 hq
      go_wp2
      exact ⟨⟨k + 1, by omega, by go_num, by rw [HSS.out]; go_num, hk.alloc _⟩, by simp [intOf]; omega⟩
    · obtain rfl : c = k := by omega
      rw [HU.out]
      have hlt' : ¬ (c : Int) < c := by omega
      obtain ⟨c1, hc1'⟩ : ∃ c1, c = c1 + 1 := ⟨c - 1, by omega⟩
      have hcm : (c : Int) - 1 = c1 := by omega
      have hc1l : c1 < r.es.length := by omega
      have hc1i : (c1 : Int) < r.es.length := by omega
      have HC1 := Lib.hid hc1'
      have hbs := (HGC.out c1 hc1l).1
      obtain ⟨bs, hbse⟩ : ∃ bs, (r.es.getD c1 (0, 0)).1 = bs := ⟨_, rfl⟩
      rw [hbse] at hbs
      have HBS := Lib.hid hbse
      clear hbse hc1'
      have hO5 := hO1.keep0 hk
      have rb5 := hk.get r4 (by simp)
      have rg5 := hk.get (hkw4.get hgrow (by simp)) (by simp)
      have hkw5 := hkw4.then hk
      have hG5 := hG.keep0 hkw5
      clear c4 cg c7 c0
      generalize wr = w5 at *
      go_wp2
      have hupl : r.h.place + u ≤ 2000000 := by omega
      refine wp_region_ghost2 (ShapeR 61) (GS 61 31 30 w5 #[.int .i64 ((r.h.generation : Int) + 1), .int .i64 ((r.h.first : Int) + c), .int .i64 (((r.h.place : Int) + u) % r.a.places), .int .i64 bs])
        [fun v _ => v = .pointer (some ⟨p, 0, none⟩), fun v _ => v = .pointer (some ⟨p, 0, none⟩), fun v _ => v = .pointer (some ⟨p, 3, none⟩), fun v _ => v = .pointer (some ⟨p, 3, none⟩), fun v _ => v = .int .i64 r.h.generation, fun v _ => v = .int .i64 ((r.h.generation : Int) + 1), fun v _ => v = .int .i64 ((r.h.first : Int) + c), fun v _ => v = .pointer (some ⟨p, 0, none⟩), fun v _ => v = .pointer (some ⟨p, 0, none⟩), fun v _ => v = .pointer (some ⟨p, 3, none⟩), fun v _ => v = .pointer (some ⟨p, 5, none⟩), fun v _ => v = .int .i64 r.h.place, fun v _ => v = .int .i64 u, fun v _ => v = .int .i64 ((r.h.place : Int) + u), fun v _ => v = .pointer (some ⟨p, 0, none⟩), fun v _ => v = .pointer (some ⟨p, 0, none⟩), fun v _ => v = .pointer (some ⟨p, 0, none⟩), fun v _ => v = .pointer (some ⟨p, 2, none⟩), fun v _ => v = .int .i64 r.a.places, fun v _ => v = .int .i64 (((r.h.place : Int) + u) % r.a.places), fun v _ => v = .pointer (some ⟨p, 0, none⟩), fun v _ => v = .pointer (some ⟨p, 0, none⟩), fun v _ => v = .pointer (some ⟨p, 7, none⟩), fun v _ => v = .slice (some ⟨g, 0, none⟩) r.es.length cap, fun v _ => v = .int .i64 c, fun v _ => v = .int .i64 c1, fun v _ => v = .pointer (some ⟨g, c1 * 2, none⟩), fun v _ => v = .pointer (some ⟨g, c1 * 2, none⟩), fun v _ => v = .int .i64 bs, fun v _ => v = .agg #[.int .i64 ((r.h.generation : Int) + 1), .int .i64 ((r.h.first : Int) + c), .int .i64 (((r.h.place : Int) + u) % r.a.places), .int .i64 bs], fun v w' => ∃ q, v = .pointer (some ⟨q, 0, none⟩) ∧ w5.heap.size ≤ q ∧ ∃ cs : Array Value, w'.heap[q]? = some (.cells cs 61 (0, 0)) ∧ cs.size = 4 ∧ I64s cs, fun _ _ => True]
        (by kernel_rfl) (by kernel_rfl) (by kernel_rfl) (fun _ _ _ h k => h.trans k) (ShapeR.refl _) ?sta (fun _ => ⟨(Keep.refl _ _).drew, fun h => by simp at h⟩) ?mai
      case sta =>
        simp only [Stable]
        exact ⟨fun _ _ _ _ h => h, fun _ _ _ _ h => h, fun _ _ _ _ h => h, fun _ _ _ _ h => h, fun _ _ _ _ h => h, fun _ _ _ _ h => h, fun _ _ _ _ h => h, fun _ _ _ _ h => h, fun _ _ _ _ h => h, fun _ _ _ _ h => h, fun _ _ _ _ h => h, fun _ _ _ _ h => h, fun _ _ _ _ h => h, fun _ _ _ _ h => h, fun _ _ _ _ h => h, fun _ _ _ _ h => h, fun _ _ _ _ h => h, fun _ _ _ _ h => h, fun _ _ _ _ h => h, fun _ _ _ _ h => h, fun _ _ _ _ h => h, fun _ _ _ _ h => h, fun _ _ _ _ h => h, fun _ _ _ _ h => h, fun _ _ _ _ h => h, fun _ _ _ _ h => h, fun _ _ _ _ h => h, fun _ _ _ _ h => h, fun _ _ _ _ h => h, fun _ _ _ _ h => h, fun _ _ _ hk ⟨q, h1, h2, cs, h3, h4, h5⟩ => ⟨q, h1, h2, by obtain ⟨cs', e1, e2, e3⟩ := hk q cs h3; exact ⟨cs', e1, e2.trans h4, e3 h5⟩⟩, fun _ _ _ _ h => h, trivial⟩
      case mai =>
        simp only [List.length_cons, List.length_nil, Nat.zero_add, Nat.reduceAdd, AllVals]
        intro z0 z1 z2 z3 z4 z5 z6 z7 z8 z9 z10 z11 z12 z13 z14 z15 z16 z17 z18 z19 z20 z21 z22 z23 z24 z25 z26 z27 z28 z29 z30 z31
        simp only [putAll, Act.put, List.setIfInBounds_toArray, List.set_cons_zero, List.set_cons_succ, StepsAtH]
        refine ⟨?stp, ?fin⟩
        case' stp => repeat' apply And.intro
        all_goals try (first | trivial | exact True.intro)
        · intro wq K listed hR hP hG hL hS hC hY hK
          simp only [Pre, Region.binds, List.getD_cons_zero, List.getD_cons_succ, true_imp_iff, forall_const, and_true, true_and] at hP
          simp only [Act.put, List.setIfInBounds_toArray, List.set_cons_zero, List.set_cons_succ] at hK
          have cb : wq.cell? ⟨w.heap.size, 0, none⟩ = some (.pointer (some ⟨p, 0, none⟩)) := (cell_row' (j := 0) (hG.1.get rb5 (by simp))).trans rfl
          go_wp2
          exact hK _ _ (ShapeR.refl _ _) rfl (hG.step 0 (by decide) _ _ (Keep.refl _ _))
        · intro wq K listed hR hP hG hL hS hC hY hK
          simp only [Pre, Region.binds, List.getD_cons_zero, List.getD_cons_succ, true_imp_iff, forall_const, and_true, true_and] at hP
          simp only [Act.put, List.setIfInBounds_toArray, List.set_cons_zero, List.set_cons_succ] at hK
          first | subst hP | (obtain ⟨rfl, -⟩ := hP)
          go_wp2
          exact hK _ _ (ShapeR.refl _ _) rfl (hG.step 1 (by decide) _ _ (Keep.refl _ _))
        · intro wq K listed hR hP hG hL hS hC hY hK
          simp only [Pre, Region.binds, List.getD_cons_zero, List.getD_cons_succ, true_imp_iff, forall_const, and_true, true_and] at hP
          simp only [Act.put, List.setIfInBounds_toArray, List.set_cons_zero, List.set_cons_succ] at hK
          first | subst hP | (obtain ⟨rfl, -⟩ := hP)
          go_wp2
          exact hK _ _ (ShapeR.refl _ _) rfl (hG.step 2 (by decide) _ _ (Keep.refl _ _))
        · intro wq K listed hR hP hG hL hS hC hY hK
          simp only [Pre, Region.binds, List.getD_cons_zero, List.getD_cons_succ, true_imp_iff, forall_const, and_true, true_and] at hP
          simp only [Act.put, List.setIfInBounds_toArray, List.set_cons_zero, List.set_cons_succ] at hK
          first | subst hP | (obtain ⟨rfl, -⟩ := hP)
          go_wp2
          exact hK _ _ (ShapeR.refl _ _) rfl (hG.step 3 (by decide) _ _ (Keep.refl _ _))
        · intro wq K listed hR hP hG hL hS hC hY hK
          simp only [Pre, Region.binds, List.getD_cons_zero, List.getD_cons_succ, true_imp_iff, forall_const, and_true, true_and] at hP
          simp only [Act.put, List.setIfInBounds_toArray, List.set_cons_zero, List.set_cons_succ] at hK
          first | subst hP | (obtain ⟨rfl, -⟩ := hP)
          have cq : wq.cell? ⟨p, 3, none⟩ = some (.int .i64 r.h.generation) := (cell_row' (j := 3) (hG.1.get hO5.ring.row (by simp))).trans rfl
          go_wp2
          exact hK _ _ (ShapeR.refl _ _) rfl (hG.step 4 (by decide) _ _ (Keep.refl _ _))
        · intro wq K listed hR hP hG hL hS hC hY hK
          simp only [Pre, Region.binds, List.getD_cons_zero, List.getD_cons_succ, true_imp_iff, forall_const, and_true, true_and] at hP
          simp only [Act.put, List.setIfInBounds_toArray, List.set_cons_zero, List.set_cons_succ] at hK
          first | subst hP | (obtain ⟨rfl, -⟩ := hP)
          go_wp2
          exact hK _ _ (ShapeR.refl _ _) rfl (hG.step 5 (by decide) _ _ (Keep.refl _ _))
        · intro wq K listed hR hP hG hL hS hC hY hK
          simp only [Pre, Region.binds, List.getD_cons_zero, List.getD_cons_succ, true_imp_iff, forall_const, and_true, true_and] at hP
          simp only [Act.put, List.setIfInBounds_toArray, List.set_cons_zero, List.set_cons_succ] at hK
          go_wp2
          exact hK _ _ (ShapeR.refl _ _) rfl (hG.step 6 (by decide) _ _ (Keep.refl _ _))
        · intro wq K listed hR hP hG hL hS hC hY hK
          simp only [Pre, Region.binds, List.getD_cons_zero, List.getD_cons_succ, true_imp_iff, forall_const, and_true, true_and] at hP
          simp only [Act.put, List.setIfInBounds_toArray, List.set_cons_zero, List.set_cons_succ] at hK
          have cb : wq.cell? ⟨w.heap.size, 0, none⟩ = some (.pointer (some ⟨p, 0, none⟩)) := (cell_row' (j := 0) (hG.1.get rb5 (by simp))).trans rfl
          go_wp2
          exact hK _ _ (ShapeR.refl _ _) rfl (hG.step 7 (by decide) _ _ (Keep.refl _ _))
        · intro wq K listed hR hP hG hL hS hC hY hK
          simp only [Pre, Region.binds, List.getD_cons_zero, List.getD_cons_succ, true_imp_iff, forall_const, and_true, true_and] at hP
          simp only [Act.put, List.setIfInBounds_toArray, List.set_cons_zero, List.set_cons_succ] at hK
          first | subst hP | (obtain ⟨rfl, -⟩ := hP)
          go_wp2
          exact hK _ _ (ShapeR.refl _ _) rfl (hG.step 8 (by decide) _ _ (Keep.refl _ _))
        · intro wq K listed hR hP hG hL hS hC hY hK
          simp only [Pre, Region.binds, List.getD_cons_zero, List.getD_cons_succ, true_imp_iff, forall_const, and_true, true_and] at hP
          simp only [Act.put, List.setIfInBounds_toArray, List.set_cons_zero, List.set_cons_succ] at hK
          first | subst hP | (obtain ⟨rfl, -⟩ := hP)
          go_wp2
          exact hK _ _ (ShapeR.refl _ _) rfl (hG.step 9 (by decide) _ _ (Keep.refl _ _))
        · intro wq K listed hR hP hG hL hS hC hY hK
          simp only [Pre, Region.binds, List.getD_cons_zero, List.getD_cons_succ, true_imp_iff, forall_const, and_true, true_and] at hP
          simp only [Act.put, List.setIfInBounds_toArray, List.set_cons_zero, List.set_cons_succ] at hK
          first | subst hP | (obtain ⟨rfl, -⟩ := hP)
          go_wp2
          exact hK _ _ (ShapeR.refl _ _) rfl (hG.step 10 (by decide) _ _ (Keep.refl _ _))
        · intro wq K listed hR hP hG hL hS hC hY hK
          simp only [Pre, Region.binds, List.getD_cons_zero, List.getD_cons_succ, true_imp_iff, forall_const, and_true, true_and] at hP
          simp only [Act.put, List.setIfInBounds_toArray, List.set_cons_zero, List.set_cons_succ] at hK
          first | subst hP | (obtain ⟨rfl, -⟩ := hP)
          have cq : wq.cell? ⟨p, 5, none⟩ = some (.int .i64 r.h.place) := (cell_row' (j := 5) (hG.1.get hO5.ring.row (by simp))).trans rfl
          go_wp2
          exact hK _ _ (ShapeR.refl _ _) rfl (hG.step 11 (by decide) _ _ (Keep.refl _ _))
        · intro wq K listed hR hP hG hL hS hC hY hK
          simp only [Pre, Region.binds, List.getD_cons_zero, List.getD_cons_succ, true_imp_iff, forall_const, and_true, true_and] at hP
          simp only [Act.put, List.setIfInBounds_toArray, List.set_cons_zero, List.set_cons_succ] at hK
          go_wp2
          exact hK _ _ (ShapeR.refl _ _) rfl (hG.step 12 (by decide) _ _ (Keep.refl _ _))
        · intro wq K listed hR hP hG hL hS hC hY hK
          simp only [Pre, Region.binds, List.getD_cons_zero, List.getD_cons_succ, true_imp_iff, forall_const, and_true, true_and] at hP
          simp only [Act.put, List.setIfInBounds_toArray, List.set_cons_zero, List.set_cons_succ] at hK
          obtain ⟨q11, q12⟩ := hP
          subst q11 q12
          go_wp2
          exact hK _ _ (ShapeR.refl _ _) rfl (hG.step 13 (by decide) _ _ (Keep.refl _ _))
        · intro wq K listed hR hP hG hL hS hC hY hK
          simp only [Pre, Region.binds, List.getD_cons_zero, List.getD_cons_succ, true_imp_iff, forall_const, and_true, true_and] at hP
          simp only [Act.put, List.setIfInBounds_toArray, List.set_cons_zero, List.set_cons_succ] at hK
          have cb : wq.cell? ⟨w.heap.size, 0, none⟩ = some (.pointer (some ⟨p, 0, none⟩)) := (cell_row' (j := 0) (hG.1.get rb5 (by simp))).trans rfl
          go_wp2
          exact hK _ _ (ShapeR.refl _ _) rfl (hG.step 14 (by decide) _ _ (Keep.refl _ _))
        · intro wq K listed hR hP hG hL hS hC hY hK
          simp only [Pre, Region.binds, List.getD_cons_zero, List.getD_cons_succ, true_imp_iff, forall_const, and_true, true_and] at hP
          simp only [Act.put, List.setIfInBounds_toArray, List.set_cons_zero, List.set_cons_succ] at hK
          first | subst hP | (obtain ⟨rfl, -⟩ := hP)
          go_wp2
          exact hK _ _ (ShapeR.refl _ _) rfl (hG.step 15 (by decide) _ _ (Keep.refl _ _))
        · intro wq K listed hR hP hG hL hS hC hY hK
          simp only [Pre, Region.binds, List.getD_cons_zero, List.getD_cons_succ, true_imp_iff, forall_const, and_true, true_and] at hP
          simp only [Act.put, List.setIfInBounds_toArray, List.set_cons_zero, List.set_cons_succ] at hK
          first | subst hP | (obtain ⟨rfl, -⟩ := hP)
          go_wp2
          exact hK _ _ (ShapeR.refl _ _) rfl (hG.step 16 (by decide) _ _ (Keep.refl _ _))
        · intro wq K listed hR hP hG hL hS hC hY hK
          simp only [Pre, Region.binds, List.getD_cons_zero, List.getD_cons_succ, true_imp_iff, forall_const, and_true, true_and] at hP
          simp only [Act.put, List.setIfInBounds_toArray, List.set_cons_zero, List.set_cons_succ] at hK
          first | subst hP | (obtain ⟨rfl, -⟩ := hP)
          go_wp2
          exact hK _ _ (ShapeR.refl _ _) rfl (hG.step 17 (by decide) _ _ (Keep.refl _ _))
        · intro wq K listed hR hP hG hL hS hC hY hK
          simp only [Pre, Region.binds, List.getD_cons_zero, List.getD_cons_succ, true_imp_iff, forall_const, and_true, true_and] at hP
          simp only [Act.put, List.setIfInBounds_toArray, List.set_cons_zero, List.set_cons_succ] at hK
          first | subst hP | (obtain ⟨rfl, -⟩ := hP)
          have cq : wq.cell? ⟨p, 2, none⟩ = some (.int .i64 r.a.places) := (cell_row' (j := 2) (hG.1.get hO5.ring.row (by simp))).trans rfl
          go_wp2
          exact hK _ _ (ShapeR.refl _ _) rfl (hG.step 18 (by decide) _ _ (Keep.refl _ _))
        · intro wq K listed hR hP hG hL hS hC hY hK
          simp only [Pre, Region.binds, List.getD_cons_zero, List.getD_cons_succ, true_imp_iff, forall_const, and_true, true_and] at hP
          simp only [Act.put, List.setIfInBounds_toArray, List.set_cons_zero, List.set_cons_succ] at hK
          obtain ⟨q13, q18⟩ := hP
          subst q13 q18
          go_wp2
          exact hK _ _ (ShapeR.refl _ _) rfl (hG.step 19 (by decide) _ _ (Keep.refl _ _))
        · intro wq K listed hR hP hG hL hS hC hY hK
          simp only [Pre, Region.binds, List.getD_cons_zero, List.getD_cons_succ, true_imp_iff, forall_const, and_true, true_and] at hP
          simp only [Act.put, List.setIfInBounds_toArray, List.set_cons_zero, List.set_cons_succ] at hK
          have cb : wq.cell? ⟨w.heap.size, 0, none⟩ = some (.pointer (some ⟨p, 0, none⟩)) := (cell_row' (j := 0) (hG.1.get rb5 (by simp))).trans rfl
          go_wp2
          exact hK _ _ (ShapeR.refl _ _) rfl (hG.step 20 (by decide) _ _ (Keep.refl _ _))
        · intro wq K listed hR hP hG hL hS hC hY hK
          simp only [Pre, Region.binds, List.getD_cons_zero, List.getD_cons_succ, true_imp_iff, forall_const, and_true, true_and] at hP
          simp only [Act.put, List.setIfInBounds_toArray, List.set_cons_zero, List.set_cons_succ] at hK
          first | subst hP | (obtain ⟨rfl, -⟩ := hP)
          go_wp2
          exact hK _ _ (ShapeR.refl _ _) rfl (hG.step 21 (by decide) _ _ (Keep.refl _ _))
        · intro wq K listed hR hP hG hL hS hC hY hK
          simp only [Pre, Region.binds, List.getD_cons_zero, List.getD_cons_succ, true_imp_iff, forall_const, and_true, true_and] at hP
          simp only [Act.put, List.setIfInBounds_toArray, List.set_cons_zero, List.set_cons_succ] at hK
          first | subst hP | (obtain ⟨rfl, -⟩ := hP)
          go_wp2
          exact hK _ _ (ShapeR.refl _ _) rfl (hG.step 22 (by decide) _ _ (Keep.refl _ _))
        · intro wq K listed hR hP hG hL hS hC hY hK
          simp only [Pre, Region.binds, List.getD_cons_zero, List.getD_cons_succ, true_imp_iff, forall_const, and_true, true_and] at hP
          simp only [Act.put, List.setIfInBounds_toArray, List.set_cons_zero, List.set_cons_succ] at hK
          first | subst hP | (obtain ⟨rfl, -⟩ := hP)
          have cq : wq.cell? ⟨p, 7, none⟩ = some (.slice (some ⟨g, 0, none⟩) r.es.length cap) := (cell_row' (j := 7) (hG.1.get hO5.ring.row (by simp))).trans rfl
          go_wp2
          exact hK _ _ (ShapeR.refl _ _) rfl (hG.step 23 (by decide) _ _ (Keep.refl _ _))
        · intro wq K listed hR hP hG hL hS hC hY hK
          simp only [Pre, Region.binds, List.getD_cons_zero, List.getD_cons_succ, true_imp_iff, forall_const, and_true, true_and] at hP
          simp only [Act.put, List.setIfInBounds_toArray, List.set_cons_zero, List.set_cons_succ] at hK
          go_wp2
          exact hK _ _ (ShapeR.refl _ _) rfl (hG.step 24 (by decide) _ _ (Keep.refl _ _))
        · intro wq K listed hR hP hG hL hS hC hY hK
          simp only [Pre, Region.binds, List.getD_cons_zero, List.getD_cons_succ, true_imp_iff, forall_const, and_true, true_and] at hP
          simp only [Act.put, List.setIfInBounds_toArray, List.set_cons_zero, List.set_cons_succ] at hK
          first | subst hP | (obtain ⟨rfl, -⟩ := hP)
          go_wp2
          exact hK _ _ (ShapeR.refl _ _) rfl (hG.step 25 (by decide) _ _ (Keep.refl _ _))
        · intro wq K listed hR hP hG hL hS hC hY hK
          simp only [Pre, Region.binds, List.getD_cons_zero, List.getD_cons_succ, true_imp_iff, forall_const, and_true, true_and] at hP
          simp only [Act.put, List.setIfInBounds_toArray, List.set_cons_zero, List.set_cons_succ] at hK
          obtain ⟨q23, q25⟩ := hP
          subst q23 q25
          go_wp2
          exact hK _ _ (ShapeR.refl _ _) rfl (hG.step 26 (by decide) _ _ (Keep.refl _ _))
        · intro wq K listed hR hP hG hL hS hC hY hK
          simp only [Pre, Region.binds, List.getD_cons_zero, List.getD_cons_succ, true_imp_iff, forall_const, and_true, true_and] at hP
          simp only [Act.put, List.setIfInBounds_toArray, List.set_cons_zero, List.set_cons_succ] at hK
          first | subst hP | (obtain ⟨rfl, -⟩ := hP)
          go_wp2
          exact hK _ _ (ShapeR.refl _ _) rfl (hG.step 27 (by decide) _ _ (Keep.refl _ _))
        · intro wq K listed hR hP hG hL hS hC hY hK
          simp only [Pre, Region.binds, List.getD_cons_zero, List.getD_cons_succ, true_imp_iff, forall_const, and_true, true_and] at hP
          simp only [Act.put, List.setIfInBounds_toArray, List.set_cons_zero, List.set_cons_succ] at hK
          first | subst hP | (obtain ⟨rfl, -⟩ := hP)
          have cq : wq.cell? ⟨g, c1 * 2, none⟩ = some (.int .i64 bs) := by rw [cell_row' (hG.1.get rg5 (by simp)), Nat.mul_comm]; exact hbs
          go_wp2
          exact hK _ _ (ShapeR.refl _ _) rfl (hG.step 28 (by decide) _ _ (Keep.refl _ _))
        · intro wq K listed hR hP hG hL hS hC hY hK
          simp only [Pre, Region.binds, List.getD_cons_zero, List.getD_cons_succ, true_imp_iff, forall_const, and_true, true_and] at hP
          simp only [Act.put, List.setIfInBounds_toArray, List.set_cons_zero, List.set_cons_succ] at hK
          obtain ⟨q5, q6, q19, q28⟩ := hP
          subst q5 q6 q19 q28
          go_wp2
          exact hK _ _ (ShapeR.refl _ _) rfl (hG.step 29 (by decide) _ _ (Keep.refl _ _))
        · intro wq K listed hR hP hG hL hS hC hY hK
          simp only [Pre, Region.binds, List.getD_cons_zero, List.getD_cons_succ, true_imp_iff, forall_const, and_true, true_and] at hP
          simp only [Act.put, List.setIfInBounds_toArray, List.set_cons_zero, List.set_cons_succ] at hK
          go_wp2
          refine hK _ _ (ShapeR.of0 ((Keep.refl _ _).alloc _)) ⟨_, rfl, hG.1.size, _, heap_alloc_new wq _, rfl, i64s_mk [0, 0, 0, 0]⟩ ⟨hG.1.alloc _, fun hc => ?_⟩
          rw [getD_set_other (show 30 ≠ 31 by decide), hC.notYet 32 31 30 (by kernel_rfl) hL] at hc
          cases hc
        · intro wq K listed hR hP hG hL hS hC hY hK
          simp only [Pre, Region.binds, List.getD_cons_zero, List.getD_cons_succ, true_imp_iff, forall_const, and_true, true_and] at hP
          simp only [Act.put, List.setIfInBounds_toArray, List.set_cons_zero, List.set_cons_succ] at hK
          obtain ⟨⟨q, rfl, hq, cs, hcs, hcz, hci⟩, rfl, -⟩ := hP
          go_wp2_with (refine wpList_store_part rfl rfl 61 (.tmp 10) (.tmp 89) rfl q 0 rfl #[.int .i64 ((r.h.generation : Int) + 1), .int .i64 ((r.h.first : Int) + c), .int .i64 (((r.h.place : Int) + u) % r.a.places), .int .i64 bs] rfl 61 _ hcs (by kernel_rfl) (by simp; omega) (by simp [Value.oneCell']) ?_; intro w6 hk6 hh6)
          rw [over_full cs _ (by simpa using hcz.symm)] at hh6
          refine hK undef _ (fun q2 cs2 e2 => ?_) trivial ⟨hG.1.trans hk6 (fun x hx => Or.inr (by rw [List.mem_singleton.1 hx]; exact hq)), fun _ => ⟨q, rfl, hq, hh6⟩⟩
          by_cases hqq : q2 = q
          · subst hqq
            rw [hcs] at e2
            injection e2 with e2
            injection e2 with e2
            subst e2
            exact ⟨_, hh6, by simp; omega, fun _ => i64s_mk [_, _, _, _]⟩
          · exact ⟨cs2, hk6.get e2 (by simpa using hqq), rfl, id⟩
        · intro wf listed hf' hz hL hG6
          obtain ⟨hkf, hq⟩ := hG6
          obtain ⟨q, hq30, hq5, hqr⟩ := hq (hL 31 (by decide))
          have hq30 : z30 = .pointer (some ⟨q, 0, none⟩) := hq30
          subst hq30
          clear hf' hz hL hq
          have hcells : (trimH r c).cells = #[.int .i64 ((r.h.generation : Int) + 1), .int .i64 ((r.h.first : Int) + c), .int .i64 (((r.h.place : Int) + u) % r.a.places), .int .i64 bs] := by
            show (⟨r.h.generation + 1, r.h.first + c, (r.h.place + ((r.es.take c).map (·.2)).sum) % r.a.places, (r.es.getD (c - 1) (0, 0)).1⟩ : HV).cells = _
            rw [show ((r.es.take c).map (·.2)).sum = u from HU.out, show c - 1 = c1 from by have := HC1.out; omega, HBS.out]
            simp [HV.cells]
          rw [← hcells] at hqr
          have hkw6 := hkw5.then hkf
          have hO6 := hO5.keep0 hkf
          have hG6' := hG5.keep0 hkf
          have rb6 := hkf.get rb5 (by simp)
          have c6 := (cell_row' (j := 0) rb6).trans rfl
          have hmf : ∀ (fn : Fn) (first cap : Array Value) (w : World), (Instr.makeFunc fn first cap).run Tryd.prog w = .ok (.func fn first cap) w := fun _ _ _ _ => rfl
          have heg : ∀ args w, (callFunc 45 args).run Tryd.prog w = .ok (.enter 45 args) w := enters_of Tryd.func45 (by kernel_rfl) rfl
          have hvw : ∀ k, (Value.slice (some ⟨g, 0, none⟩) r.es.length cap).ownBlock = some k → k < w.heap.size := fun k e => (World.ownsRow.lt h.ring.es k e).2
          have hs5 := hkw5.size
          have hs6 := hkw6.size
          by_cases hz : P.1 = 0
          · have HZ := Lib.hid hz
            have HA := Lib.hid (HA0.out.trans (if_neg (by simpa using hz)))
            clear hz
            go_wp2_with (first
              | (go_at_call 40; refine (perform_any hO6.ring 45 #[] #[.pointer (some ⟨w.heap.size, 0, none⟩), .pointer (some ⟨q, 0, none⟩)] F h.pF hO6.lt (fun err w' => err = P.1 ∧ ∃ F', DiskAt w' r.a.p P.2 F' ∧ ∀ x ∈ F', x ∈ F ∨ wf.heap.size + 2 ≤ x) heg (fun W hk hz => (trim1_ok (hG6'.keep0 hk) (hO6.keep0 hk).ring h.ok (hO6.keep0 hk).disk hd hf hokH hlen (hk.get rb6 (by simp)) (hk.get hqr (by simp))).mono (by rw [HP.out]; exact fun e w' ⟨e1, F', e2, e3, e4⟩ => ⟨_, e1, ⟨rfl, F', e2, fun x hx => (e4 x hx).imp id (fun h => Nat.le_trans hz h)⟩, e3⟩))).mono ?_; rintro e w9 ⟨err, w7, rfl, ⟨rfl, F', hD7, hF7⟩, hk7, eb, heb, heb2, hor⟩
                 have hp7 := hk7.get hO6.ring.row h.pF
                 have hE7 := OwnLike.keep hO6.ring.es hk7 (fun k hk e => h.vF k e hk)
                 have r7 := hk7.get rb6 (fun hm => by have := h.lt _ hm; omega)
                 have t7 := hk7.get hqr (fun hm => by have := h.lt _ hm; omega)
                 have hpw := lt_of_heap h.ring.row
                 have hkw7 : Keep F w w7 := (hkw6.mono (F' := F) (by simp)).trans hk7 (fun x hx => Or.inl hx)
                 have hw9 : w9 = w7.setCell ⟨eb, 0, none⟩ (.int .i64 0) := hor.elim (fun q => q.2) (fun q => absurd HZ.out q.1)
                 have hk9 : Keep [eb] w7 w9 := by rw [hw9]; exact (Keep.refl _ _).setCell (by simp) _
                 have hqlt := lt_of_heap hqr
                 have hR9 : RingIs w9 p r (.slice (some ⟨g, 0, none⟩) r.es.length cap) := ⟨hk9.get hp7 (by simp; omega), OwnLike.keep hE7 hk9 (fun k hk e => by rw [List.mem_singleton.1 hk] at e; have := hvw _ e; omega)⟩
                 have hD9 : DiskAt w9 r.a.p P.2 F' := hD7.keep hk9 (fun x hx hm => by
                   rw [List.mem_singleton.1 hm] at hx
                   rcases hF7 _ hx with h' | h'
                   · have := h.lt _ h'; omega
                   · omega)
                 have r9 := hk9.get r7 (by simp; omega)
                 have t9 := hk9.get t7 (by simp; omega)
                 rw [HZ.out]
                 clear hw9 hor))
            rw [hcells] at t9
            have hbp : w.heap.size ∉ [p] := by simp only [List.mem_singleton]; omega
            have hqp : q ∉ [p] := by simp only [List.mem_singleton]; omega
            have hvp : (Value.slice (some ⟨g, 0, none⟩) r.es.length cap).ownBlock ≠ some p := own_row_ne h.ring.es h.ring.row (by decide)
            have hgp : g ∉ [p] := fun hm => hvp (by rw [List.mem_singleton.1 hm]; rfl)
            have hrg9 : w9.heap[g]? = some (.cells cur 92 (0, 0)) := hk9.get (hk7.get (hkf.get rg5 (by simp)) (fun hm => h.vF g rfl hm)) (by have := hvw g rfl; simp only [List.mem_singleton]; omega)
            have hp9l := lt_of_heap hR9.row
            obtain ⟨vsub, hvs⟩ : ∃ vsub, vsub = (if c = cap then Value.slice (some ⟨g, 0, none⟩) (r.es.length - c) 0 else Value.slice (some ⟨g, c * 2, none⟩) (r.es.length - c) (cap - c)) := ⟨_, rfl⟩
            have HVS := Lib.hid hvs
            have hrs : ∀ W : World, W.heap[g]? = some (.cells cur 92 (0, 0)) → ReadsS W vsub (r.es.drop c) := fun W hW => by
              rw [hvs]
              have hln : r.es.length - c = (r.es.drop c).length := by simp
              rw [hln]
              have hcell : ∀ i u, (storedCells (r.es.drop c))[i]? = some u → W.cell? ⟨g, c * 2 + i, none⟩ = some u := fun i u hu => by
                have hsd : storedCells r.es = storedCells (r.es.take c) ++ storedCells (r.es.drop c) := by
                  conv => lhs; rw [← List.take_append_drop c r.es]
                  unfold storedCells
                  rw [List.map_append, List.flatten_append]
                have hl1 := storedCells_length (r.es.take c)
                rw [List.length_take, Nat.min_eq_left hc2] at hl1
                have hg1 : (storedCells r.es)[c * 2 + i]? = some u := by
                  rw [hsd, List.getElem?_append_right (by omega), hl1, Nat.add_sub_cancel_left]; exact hu
                rw [cell_row' hW, ← Array.getElem?_toList]
                rw [← hctake] at hg1
                have hlt : c * 2 + i < r.es.length * 2 := by
                  have h1 := (List.getElem?_eq_some_iff.1 hu).1
                  have h2 := storedCells_length (r.es.drop c)
                  simp only [List.length_drop] at h2
                  omega
                rw [List.getElem?_take_of_lt hlt] at hg1
                exact hg1
              split
              · rename_i hcc2
                refine ReadsS.at g 0 0 _ (by simp; omega) (fun i u hu => ?_)
                have h1 := (List.getElem?_eq_some_iff.1 hu).1
                have h2 := storedCells_length (r.es.drop c)
                simp only [List.length_drop] at h2
                omega
              · exact ReadsS.at g (c * 2) _ _ (by simp; omega) hcell
            have HRS := Lib.hid hrs
            clear hvs hrs
            refine wp_region_ghost2 (Keep [p]) (GT p w9 r (trimH r c) (r.used - u) (.slice (some ⟨g, 0, none⟩) r.es.length cap))
              [fun v _ => v = .pointer (some ⟨p, 0, none⟩), fun v _ => v = .pointer (some ⟨p, 0, none⟩), fun v _ => v = .pointer (some ⟨p, 0, none⟩), fun v _ => v = .agg #[.int .i64 ((r.h.generation : Int) + 1), .int .i64 ((r.h.first : Int) + c), .int .i64 (((r.h.place : Int) + u) % r.a.places), .int .i64 bs], fun v _ => v = .pointer (some ⟨p, 0, none⟩), fun v _ => v = .pointer (some ⟨p, 0, none⟩), fun v _ => v = .pointer (some ⟨p, 7, none⟩), fun v _ => v = .slice (some ⟨g, 0, none⟩) r.es.length cap, fun v _ => v = .int .i64 c, fun v _ => v = vsub, fun v w' => w'.ownsRow w9.heap.size 92 2 v (r.es.drop c).length (storedCells (r.es.drop c)), fun v _ => v = .pointer (some ⟨p, 0, none⟩), fun v _ => v = .pointer (some ⟨p, 0, none⟩), fun v _ => v = .pointer (some ⟨p, 8, none⟩), fun v _ => v = .int .i64 r.used, fun v _ => v = .int .i64 u, fun v _ => v = .int .i64 ((r.used - u : Nat) : Int), fun v _ => v = .pointer (some ⟨p, 0, none⟩), fun v _ => v = .pointer (some ⟨p, 3, none⟩), fun _ _ => True, fun v _ => v = .pointer (some ⟨p, 0, none⟩), fun v _ => v = .pointer (some ⟨p, 7, none⟩), fun _ _ => True, fun v _ => v = .pointer (some ⟨p, 0, none⟩), fun v _ => v = .pointer (some ⟨p, 8, none⟩), fun _ _ => True]
              (by kernel_rfl) (by kernel_rfl) (by kernel_rfl) (fun _ _ _ h k => h.trans k (fun _ hx => .inl hx)) (Keep.refl _) ?sta2 (fun _ => ⟨(Keep.refl _ _).drew, hR9.row⟩) ?mai2
            case sta2 =>
              simp only [Stable]
              exact ⟨fun _ _ _ _ h => h, fun _ _ _ _ h => h, fun _ _ _ _ h => h, fun _ _ _ _ h => h, fun _ _ _ _ h => h, fun _ _ _ _ h => h, fun _ _ _ _ h => h, fun _ _ _ _ h => h, fun _ _ _ _ h => h, fun _ _ _ _ h => h, fun _ _ _ hk h => OwnLike.keep h hk (fun k hk e => by rw [List.mem_singleton.1 hk] at e; have := (World.ownsRow.lt h _ e).1; omega), fun _ _ _ _ h => h, fun _ _ _ _ h => h, fun _ _ _ _ h => h, fun _ _ _ _ h => h, fun _ _ _ _ h => h, fun _ _ _ _ h => h, fun _ _ _ _ h => h, fun _ _ _ _ h => h, fun _ _ _ _ h => h, fun _ _ _ _ h => h, fun _ _ _ _ h => h, fun _ _ _ _ h => h, fun _ _ _ _ h => h, fun _ _ _ _ h => h, fun _ _ _ _ h => h, trivial⟩
            case mai2 =>
              simp only [List.length_cons, List.length_nil, Nat.zero_add, Nat.reduceAdd, AllVals]
              intro x0 x1 x2 x3 x4 x5 x6 x7 x8 x9 x10 x11 x12 x13 x14 x15 x16 x17 x18 x19 x20 x21 x22 x23 x24 x25
              simp only [putAll, Act.put, List.setIfInBounds_toArray, List.set_cons_zero, List.set_cons_succ, StepsAtH]
              refine ⟨?stp2, ?fin2⟩
              case' stp2 => repeat' apply And.intro
              all_goals try (first | trivial | exact True.intro)
              · intro wq K listed hR hP hG hL hS hC hY hK
                simp only [Pre, Region.binds, List.getD_cons_zero, List.getD_cons_succ, true_imp_iff, forall_const, and_true, true_and] at hP
                simp only [Act.put, List.setIfInBounds_toArray, List.set_cons_zero, List.set_cons_succ] at hK
                have cb : wq.cell? ⟨w.heap.size, 0, none⟩ = some (.pointer (some ⟨p, 0, none⟩)) := (cell_row' (j := 0) (hG.1.get r9 hbp)).trans rfl
                go_wp2
                exact hK _ _ (Keep.refl _ _) rfl (hG.step 0 (by decide) _ _ (Keep.refl _ _))
              · intro wq K listed hR hP hG hL hS hC hY hK
                simp only [Pre, Region.binds, List.getD_cons_zero, List.getD_cons_succ, true_imp_iff, forall_const, and_true, true_and] at hP
                simp only [Act.put, List.setIfInBounds_toArray, List.set_cons_zero, List.set_cons_succ] at hK
                have cb : wq.cell? ⟨w.heap.size, 0, none⟩ = some (.pointer (some ⟨p, 0, none⟩)) := (cell_row' (j := 0) (hG.1.get r9 hbp)).trans rfl
                go_wp2
                exact hK _ _ (Keep.refl _ _) rfl (hG.step 1 (by decide) _ _ (Keep.refl _ _))
              · intro wq K listed hR hP hG hL hS hC hY hK
                simp only [Pre, Region.binds, List.getD_cons_zero, List.getD_cons_succ, true_imp_iff, forall_const, and_true, true_and] at hP
                simp only [Act.put, List.setIfInBounds_toArray, List.set_cons_zero, List.set_cons_succ] at hK
                have cb : wq.cell? ⟨w.heap.size, 0, none⟩ = some (.pointer (some ⟨p, 0, none⟩)) := (cell_row' (j := 0) (hG.1.get r9 hbp)).trans rfl
                go_wp2
                exact hK _ _ (Keep.refl _ _) rfl (hG.step 2 (by decide) _ _ (Keep.refl _ _))
              · intro wq K listed hR hP hG hL hS hC hY hK
                simp only [Pre, Region.binds, List.getD_cons_zero, List.getD_cons_succ, true_imp_iff, forall_const, and_true, true_and] at hP
                simp only [Act.put, List.setIfInBounds_toArray, List.set_cons_zero, List.set_cons_succ] at hK
                have hh := hG.1.get t9 hqp
                have d0 : wq.cell? ⟨q, 0, none⟩ = some _ := (cell_row' (j := 0) hh).trans rfl
                have d1 : wq.cell? ⟨q, 1, none⟩ = some _ := (cell_row' (j := 1) hh).trans rfl
                have d2 : wq.cell? ⟨q, 2, none⟩ = some _ := (cell_row' (j := 2) hh).trans rfl
                have d3 : wq.cell? ⟨q, 3, none⟩ = some _ := (cell_row' (j := 3) hh).trans rfl
                go_wp2
                exact hK _ _ (Keep.refl _ _) rfl (hG.step 3 (by decide) _ _ (Keep.refl _ _))
              · intro wq K listed hR hP hG hL hS hC hY hK
                simp only [Pre, Region.binds, List.getD_cons_zero, List.getD_cons_succ, true_imp_iff, forall_const, and_true, true_and] at hP
                simp only [Act.put, List.setIfInBounds_toArray, List.set_cons_zero, List.set_cons_succ] at hK
                have cb : wq.cell? ⟨w.heap.size, 0, none⟩ = some (.pointer (some ⟨p, 0, none⟩)) := (cell_row' (j := 0) (hG.1.get r9 hbp)).trans rfl
                go_wp2
                exact hK _ _ (Keep.refl _ _) rfl (hG.step 4 (by decide) _ _ (Keep.refl _ _))
              · intro wq K listed hR hP hG hL hS hC hY hK
                simp only [Pre, Region.binds, List.getD_cons_zero, List.getD_cons_succ, true_imp_iff, forall_const, and_true, true_and] at hP
                simp only [Act.put, List.setIfInBounds_toArray, List.set_cons_zero, List.set_cons_succ] at hK
                first | subst hP | (obtain ⟨rfl, -⟩ := hP)
                go_wp2
                exact hK _ _ (Keep.refl _ _) rfl (hG.step 5 (by decide) _ _ (Keep.refl _ _))
              · intro wq K listed hR hP hG hL hS hC hY hK
                simp only [Pre, Region.binds, List.getD_cons_zero, List.getD_cons_succ, true_imp_iff, forall_const, and_true, true_and] at hP
                simp only [Act.put, List.setIfInBounds_toArray, List.set_cons_zero, List.set_cons_succ] at hK
                first | subst hP | (obtain ⟨rfl, -⟩ := hP)
                go_wp2
                exact hK _ _ (Keep.refl _ _) rfl (hG.step 6 (by decide) _ _ (Keep.refl _ _))
              · intro wq K listed hR hP hG hL hS hC hY hK
                simp only [Pre, Region.binds, List.getD_cons_zero, List.getD_cons_succ, true_imp_iff, forall_const, and_true, true_and] at hP
                simp only [Act.put, List.setIfInBounds_toArray, List.set_cons_zero, List.set_cons_succ] at hK
                first | subst hP | (obtain ⟨rfl, -⟩ := hP)
                have h22 := hC.notYet 26 22 7 (by kernel_rfl) hL
                have hrw := hG.2
                unfold rowT at hrw
                rw [h22] at hrw
                have cq : wq.cell? ⟨p, 7, none⟩ = some (.slice (some ⟨g, 0, none⟩) r.es.length cap) := (cell_row' (j := 7) hrw).trans rfl
                go_wp2
                exact hK _ _ (Keep.refl _ _) rfl (hG.step 7 (by decide) _ _ (Keep.refl _ _))
              · intro wq K listed hR hP hG hL hS hC hY hK
                simp only [Pre, Region.binds, List.getD_cons_zero, List.getD_cons_succ, true_imp_iff, forall_const, and_true, true_and] at hP
                simp only [Act.put, List.setIfInBounds_toArray, List.set_cons_zero, List.set_cons_succ] at hK
                go_wp2
                exact hK _ _ (Keep.refl _ _) rfl (hG.step 8 (by decide) _ _ (Keep.refl _ _))
              · intro wq K listed hR hP hG hL hS hC hY hK
                simp only [Pre, Region.binds, List.getD_cons_zero, List.getD_cons_succ, true_imp_iff, forall_const, and_true, true_and] at hP
                simp only [Act.put, List.setIfInBounds_toArray, List.set_cons_zero, List.set_cons_succ] at hK
                obtain ⟨q7, q8⟩ := hP
                subst q7 q8
                by_cases hcap : c = cap
                · have hle : r.es.length ≤ cap := hncap
                  have hcap' : (c : Int) = cap := by omega
                  have hvs := HVS.out
                  rw [if_pos hcap] at hvs
                  go_wp2
                  exact hK _ _ (Keep.refl _ _) (by rw [hvs, show r.es.length - c = 0 from by omega]) (hG.step 9 (by decide) _ _ (Keep.refl _ _))
                · have hvs := HVS.out
                  rw [if_neg hcap] at hvs
                  have hcn : c < cap := by omega
                  go_wp2
                  exact hK _ _ (Keep.refl _ _) (by rw [hvs]) (hG.step 9 (by decide) _ _ (Keep.refl _ _))
              · intro wq K listed hR hP hG hL hS hC hY hK
                simp only [Pre, Region.binds, List.getD_cons_zero, List.getD_cons_succ, true_imp_iff, forall_const, and_true, true_and] at hP
                simp only [Act.put, List.setIfInBounds_toArray, List.set_cons_zero, List.set_cons_succ] at hK
                obtain rfl := hP.symm
                go_wp2_with (go_at_call 46; refine (clones_any vsub (r.es.drop c) wq (HRS.out wq (hG.1.get hrg9 hgp)) (by simp; omega)).mono ?_; rintro e w2 ⟨v', rfl, hv', hk2⟩)
                have hsq := hG.1.size
                exact hK _ _ (hk2.mono (F' := [p]) (by simp)) ⟨hv'.1, hv'.2.imp id (fun ⟨g, cap, cur, e1, e2, e3⟩ => ⟨g, cap, cur, e1, Nat.le_trans hsq e2, e3⟩)⟩ (hG.step10 (hC.notYet 26 22 10 (by kernel_rfl) hL) _ _ hk2)
              · intro wq K listed hR hP hG hL hS hC hY hK
                simp only [Pre, Region.binds, List.getD_cons_zero, List.getD_cons_succ, true_imp_iff, forall_const, and_true, true_and] at hP
                simp only [Act.put, List.setIfInBounds_toArray, List.set_cons_zero, List.set_cons_succ] at hK
                have cb : wq.cell? ⟨w.heap.size, 0, none⟩ = some (.pointer (some ⟨p, 0, none⟩)) := (cell_row' (j := 0) (hG.1.get r9 hbp)).trans rfl
                go_wp2
                exact hK _ _ (Keep.refl _ _) rfl (hG.step 11 (by decide) _ _ (Keep.refl _ _))
              · intro wq K listed hR hP hG hL hS hC hY hK
                simp only [Pre, Region.binds, List.getD_cons_zero, List.getD_cons_succ, true_imp_iff, forall_const, and_true, true_and] at hP
                simp only [Act.put, List.setIfInBounds_toArray, List.set_cons_zero, List.set_cons_succ] at hK
                first | subst hP | (obtain ⟨rfl, -⟩ := hP)
                go_wp2
                exact hK _ _ (Keep.refl _ _) rfl (hG.step 12 (by decide) _ _ (Keep.refl _ _))
              · intro wq K listed hR hP hG hL hS hC hY hK
                simp only [Pre, Region.binds, List.getD_cons_zero, List.getD_cons_succ, true_imp_iff, forall_const, and_true, true_and] at hP
                simp only [Act.put, List.setIfInBounds_toArray, List.set_cons_zero, List.set_cons_succ] at hK
                first | subst hP | (obtain ⟨rfl, -⟩ := hP)
                go_wp2
                exact hK _ _ (Keep.refl _ _) rfl (hG.step 13 (by decide) _ _ (Keep.refl _ _))
              · intro wq K listed hR hP hG hL hS hC hY hK
                simp only [Pre, Region.binds, List.getD_cons_zero, List.getD_cons_succ, true_imp_iff, forall_const, and_true, true_and] at hP
                simp only [Act.put, List.setIfInBounds_toArray, List.set_cons_zero, List.set_cons_succ] at hK
                first | subst hP | (obtain ⟨rfl, -⟩ := hP)
                have h25 := hC.notYet 26 25 14 (by kernel_rfl) hL
                have hrw := hG.2
                unfold rowT at hrw
                rw [h25] at hrw
                have cq : wq.cell? ⟨p, 8, none⟩ = some (.int .i64 r.used) := (cell_row' (j := 8) hrw).trans rfl
                go_wp2
                exact hK _ _ (Keep.refl _ _) rfl (hG.step 14 (by decide) _ _ (Keep.refl _ _))
              · intro wq K listed hR hP hG hL hS hC hY hK
                simp only [Pre, Region.binds, List.getD_cons_zero, List.getD_cons_succ, true_imp_iff, forall_const, and_true, true_and] at hP
                simp only [Act.put, List.setIfInBounds_toArray, List.set_cons_zero, List.set_cons_succ] at hK
                go_wp2
                exact hK _ _ (Keep.refl _ _) rfl (hG.step 15 (by decide) _ _ (Keep.refl _ _))
              · intro wq K listed hR hP hG hL hS hC hY hK
                simp only [Pre, Region.binds, List.getD_cons_zero, List.getD_cons_succ, true_imp_iff, forall_const, and_true, true_and] at hP
                simp only [Act.put, List.setIfInBounds_toArray, List.set_cons_zero, List.set_cons_succ] at hK
                obtain ⟨q14, q15⟩ := hP
                subst q14 q15
                go_wp2
                exact hK _ _ (Keep.refl _ _) (by congr 1; omega) (hG.step 16 (by decide) _ _ (Keep.refl _ _))
              · intro wq K listed hR hP hG hL hS hC hY hK
                simp only [Pre, Region.binds, List.getD_cons_zero, List.getD_cons_succ, true_imp_iff, forall_const, and_true, true_and] at hP
                simp only [Act.put, List.setIfInBounds_toArray, List.set_cons_zero, List.set_cons_succ] at hK
                first | subst hP | (obtain ⟨rfl, -⟩ := hP)
                go_wp2
                exact hK _ _ (Keep.refl _ _) rfl (hG.step 17 (by decide) _ _ (Keep.refl _ _))
              · intro wq K listed hR hP hG hL hS hC hY hK
                simp only [Pre, Region.binds, List.getD_cons_zero, List.getD_cons_succ, true_imp_iff, forall_const, and_true, true_and] at hP
                simp only [Act.put, List.setIfInBounds_toArray, List.set_cons_zero, List.set_cons_succ] at hK
                first | subst hP | (obtain ⟨rfl, -⟩ := hP)
                go_wp2
                exact hK _ _ (Keep.refl _ _) rfl (hG.step 18 (by decide) _ _ (Keep.refl _ _))
              · intro wq K listed hR hP hG hL hS hC hY hK
                simp only [Pre, Region.binds, List.getD_cons_zero, List.getD_cons_succ, true_imp_iff, forall_const, and_true, true_and] at hP
                simp only [Act.put, List.setIfInBounds_toArray, List.set_cons_zero, List.set_cons_succ] at hK
                obtain ⟨q18, q3, -⟩ := hP
                subst q18 q3
                have hrw := hG.2
                unfold rowT at hrw
                go_wp2_with (refine wpList_store_part rfl rfl 61 (.tmp 114) (.tmp 99) rfl p 3 rfl #[.int .i64 ((r.h.generation : Int) + 1), .int .i64 ((r.h.first : Int) + c), .int .i64 (((r.h.place : Int) + u) % r.a.places), .int .i64 bs] rfl 66 _ hrw (by kernel_rfl) (by simp [RV.cells]) (by simp [Value.oneCell']) ?_; intro w6 hk6 hh6)
                refine hK undef _ hk6 trivial ⟨hG.1.trans hk6 (fun _ hx => .inl hx), ?_⟩
                rw [hh6]
                unfold rowT
                rw [getD_set_self (by rw [hS]; decide), getD_set_other (show 19 ≠ 22 by decide), getD_set_other (show 19 ≠ 25 by decide)]
                refine congrArg (fun cs => some (Obj.cells cs 66 (0, 0))) ?_
                have ht : ((trimH r c).generation : Int) = (r.h.generation : Int) + 1 ∧ ((trimH r c).first : Int) = (r.h.first : Int) + c ∧ ((trimH r c).place : Int) = ((r.h.place : Int) + u) % r.a.places ∧ ((trimH r c).base : Int) = bs := by
                  have := hcells
                  unfold HV.cells at this
                  simpa using this
                simp [over, RV.cells, ht.1, ht.2.1, ht.2.2.1, ht.2.2.2]
              · intro wq K listed hR hP hG hL hS hC hY hK
                simp only [Pre, Region.binds, List.getD_cons_zero, List.getD_cons_succ, true_imp_iff, forall_const, and_true, true_and] at hP
                simp only [Act.put, List.setIfInBounds_toArray, List.set_cons_zero, List.set_cons_succ] at hK
                first | subst hP | (obtain ⟨rfl, -⟩ := hP)
                go_wp2
                exact hK _ _ (Keep.refl _ _) rfl (hG.step 20 (by decide) _ _ (Keep.refl _ _))
              · intro wq K listed hR hP hG hL hS hC hY hK
                simp only [Pre, Region.binds, List.getD_cons_zero, List.getD_cons_succ, true_imp_iff, forall_const, and_true, true_and] at hP
                simp only [Act.put, List.setIfInBounds_toArray, List.set_cons_zero, List.set_cons_succ] at hK
                first | subst hP | (obtain ⟨rfl, -⟩ := hP)
                go_wp2
                exact hK _ _ (Keep.refl _ _) rfl (hG.step 21 (by decide) _ _ (Keep.refl _ _))
              · intro wq K listed hR hP hG hL hS hC hY hK
                simp only [Pre, Region.binds, List.getD_cons_zero, List.getD_cons_succ, true_imp_iff, forall_const, and_true, true_and] at hP
                simp only [Act.put, List.setIfInBounds_toArray, List.set_cons_zero, List.set_cons_succ] at hK
                obtain ⟨q21, q10, -⟩ := hP
                subst q21
                obtain ⟨ta, tn, tc, rfl⟩ : ∃ a n c, x10 = .slice a n c := by
                  rcases q10.2 with ⟨e, _⟩ | ⟨g', cap', cur', e, _⟩
                  · exact ⟨_, _, _, e⟩
                  · exact ⟨_, _, _, e⟩
                have hrw := hG.2
                unfold rowT at hrw
                obtain ⟨V7, cq⟩ : ∃ V7, wq.cell? ⟨p, 7, none⟩ = some V7 := ⟨_, (cell_row' (j := 7) hrw).trans rfl⟩
                have fq := frozen_row' (j := 7) hrw
                go_wp2
                have hh6 := heap_setCell_same wq p 7 _ _ (.slice ta tn tc) hrw
                have hk6 : Keep [p] wq (wq.setCell ⟨p, 7, none⟩ (.slice ta tn tc)) := (Keep.refl _ _).setCell (by simp) _
                refine hK undef _ hk6 trivial ⟨hG.1.trans hk6 (fun _ hx => .inl hx), ?_⟩
                rw [hh6]
                unfold rowT
                rw [getD_set_other (show 22 ≠ 19 by decide), getD_set_self (by rw [hS]; decide), getD_set_other (show 22 ≠ 25 by decide)]
                refine congrArg (fun cs => some (Obj.cells cs 66 (0, 0))) ?_
                simp [RV.cells]
              · intro wq K listed hR hP hG hL hS hC hY hK
                simp only [Pre, Region.binds, List.getD_cons_zero, List.getD_cons_succ, true_imp_iff, forall_const, and_true, true_and] at hP
                simp only [Act.put, List.setIfInBounds_toArray, List.set_cons_zero, List.set_cons_succ] at hK
                first | subst hP | (obtain ⟨rfl, -⟩ := hP)
                go_wp2
                exact hK _ _ (Keep.refl _ _) rfl (hG.step 23 (by decide) _ _ (Keep.refl _ _))
              · intro wq K listed hR hP hG hL hS hC hY hK
                simp only [Pre, Region.binds, List.getD_cons_zero, List.getD_cons_succ, true_imp_iff, forall_const, and_true, true_and] at hP
                simp only [Act.put, List.setIfInBounds_toArray, List.set_cons_zero, List.set_cons_succ] at hK
                first | subst hP | (obtain ⟨rfl, -⟩ := hP)
                go_wp2
                exact hK _ _ (Keep.refl _ _) rfl (hG.step 24 (by decide) _ _ (Keep.refl _ _))
              · intro wq K listed hR hP hG hL hS hC hY hK
                simp only [Pre, Region.binds, List.getD_cons_zero, List.getD_cons_succ, true_imp_iff, forall_const, and_true, true_and] at hP
                simp only [Act.put, List.setIfInBounds_toArray, List.set_cons_zero, List.set_cons_succ] at hK
                obtain ⟨q24, q16, -⟩ := hP
                subst q24 q16
                have hrw := hG.2
                unfold rowT at hrw
                obtain ⟨V8, cq⟩ : ∃ V8, wq.cell? ⟨p, 8, none⟩ = some V8 := ⟨_, (cell_row' (j := 8) hrw).trans rfl⟩
                have fq := frozen_row' (j := 8) hrw
                go_wp2
                have hh6 := heap_setCell_same wq p 8 _ _ (.int .i64 ((r.used - u : Nat) : Int)) hrw
                have hk6 : Keep [p] wq (wq.setCell ⟨p, 8, none⟩ (.int .i64 ((r.used - u : Nat) : Int))) := (Keep.refl _ _).setCell (by simp) _
                refine hK undef _ hk6 trivial ⟨hG.1.trans hk6 (fun _ hx => .inl hx), ?_⟩
                rw [hh6]
                unfold rowT
                rw [getD_set_other (show 25 ≠ 19 by decide), getD_set_other (show 25 ≠ 22 by decide), getD_set_self (by rw [hS]; decide)]
                refine congrArg (fun cs => some (Obj.cells cs 66 (0, 0))) ?_
                simp [RV.cells]
              · intro w10 listed hf10 hx hL hG10
                simp only [AllAt] at hx
                obtain ⟨-, -, -, -, -, -, -, -, -, -, hx10, -⟩ := hx
                obtain ⟨hk10, hrw⟩ := hG10
                unfold rowT at hrw
                rw [hL 19 (by decide), hL 22 (by decide), hL 25 (by decide), if_pos rfl, if_pos rfl, if_pos rfl] at hrw
                have hrw : w10.heap[p]? = some (.cells (RV.cells ⟨r.a, trimH r c, r.es.drop c, r.used - u, r.synced, r.failed⟩ x10) 66 (0, 0)) := hrw
                clear hf10 hL
                have hR10 : RingIs w10 p ⟨r.a, trimH r c, r.es.drop c, r.used - u, r.synced, r.failed⟩ x10 := ⟨hrw, hx10.1, hx10.2.imp id (fun ⟨g, cap, cur, e1, e2, e3⟩ => ⟨g, cap, cur, e1, Nat.zero_le _, e3⟩)⟩
                have hok10 : RV.ok ⟨r.a, trimH r c, r.es.drop c, r.used - u, r.synced, r.failed⟩ := ⟨h.ok.a, hokH, by simp only; omega, by simp only [List.length_drop]; omega⟩
                have hb10 := hk10.get r9 hbp
                have hnx : (trimH r c).first + (r.es.drop c).length = r.h.first + r.es.length := by show r.h.first + c + (r.es.drop c).length = _; simp; omega
                have HNX := Lib.hid hnx
                have hpl10 := lt_of_heap hrw
                go_wp2
                refine wp_region_ghost2 (fun _ _ => True) (fun listed _ w => (listed.getD 5 false = false → Keep [] w10 w) ∧ (listed.getD 5 false = true → Keep [p] w10 w ∧ w.heap[p]? = some (.cells (RV.cells ⟨r.a, trimH r c, r.es.drop c, r.used - u, r.h.first + r.es.length, r.failed⟩ x10) 66 (0, 0))))
                  [fun v _ => v = .pointer (some ⟨p, 0, none⟩), fun v _ => v = .pointer (some ⟨p, 0, none⟩), fun v _ => v = .int .i64 ((r.h.first + r.es.length : Nat) : Int), fun v _ => v = .pointer (some ⟨p, 0, none⟩), fun v _ => v = .pointer (some ⟨p, 9, none⟩), fun _ _ => True]
                  (by kernel_rfl) (by kernel_rfl) (by kernel_rfl) (fun _ _ _ _ _ => trivial) (fun _ => trivial) ?sta3 (fun _ => ⟨fun _ => (Keep.refl _ _).drew, fun h => by simp at h⟩) ?mai3
                case sta3 => simp only [Stable]; exact ⟨fun _ _ _ _ h => h, fun _ _ _ _ h => h, fun _ _ _ _ h => h, fun _ _ _ _ h => h, fun _ _ _ _ h => h, fun _ _ _ _ h => h, trivial⟩
                case mai3 =>
                  simp only [List.length_cons, List.length_nil, Nat.zero_add, Nat.reduceAdd, AllVals]
                  intro y0 y1 y2 y3 y4 y5
                  simp only [putAll, Act.put, List.setIfInBounds_toArray, List.set_cons_zero, List.set_cons_succ, StepsAtH]
                  refine ⟨?stp3, ?fin3⟩
                  case' stp3 => repeat' apply And.intro
                  all_goals try (first | trivial | exact True.intro)
                  · intro wq K listed hR hP hG hL hS hC hY hK
                    simp only [Pre, Region.binds, List.getD_cons_zero, List.getD_cons_succ, true_imp_iff, forall_const, and_true, true_and] at hP
                    simp only [Act.put, List.setIfInBounds_toArray, List.set_cons_zero, List.set_cons_succ] at hK
                    have h5 := hC.notYet 10 5 0 (by kernel_rfl) hL
                    have hkq := hG.1 h5
                    have cb : wq.cell? ⟨w.heap.size, 0, none⟩ = some (.pointer (some ⟨p, 0, none⟩)) := (cell_row' (j := 0) (hkq.get hb10 (by simp))).trans rfl
                    go_wp2
                    exact hK _ _ trivial rfl ⟨fun _ => hkq, fun hc => by rw [getD_set_other (show 0 ≠ 5 by decide), h5] at hc; cases hc⟩
                  · intro wq K listed hR hP hG hL hS hC hY hK
                    simp only [Pre, Region.binds, List.getD_cons_zero, List.getD_cons_succ, true_imp_iff, forall_const, and_true, true_and] at hP
                    simp only [Act.put, List.setIfInBounds_toArray, List.set_cons_zero, List.set_cons_succ] at hK
                    have h5 := hC.notYet 10 5 1 (by kernel_rfl) hL
                    have hkq := hG.1 h5
                    have cb : wq.cell? ⟨w.heap.size, 0, none⟩ = some (.pointer (some ⟨p, 0, none⟩)) := (cell_row' (j := 0) (hkq.get hb10 (by simp))).trans rfl
                    go_wp2
                    exact hK _ _ trivial rfl ⟨fun _ => hkq, fun hc => by rw [getD_set_other (show 1 ≠ 5 by decide), h5] at hc; cases hc⟩
                  · intro wq K listed hR hP hG hL hS hC hY hK
                    simp only [Pre, Region.binds, List.getD_cons_zero, List.getD_cons_succ, true_imp_iff, forall_const, and_true, true_and] at hP
                    simp only [Act.put, List.setIfInBounds_toArray, List.set_cons_zero, List.set_cons_succ] at hK
                    have h5 := hC.notYet 10 5 2 (by kernel_rfl) hL
                    have hkq := hG.1 h5
                    subst hP
                    go_wp2_with (go_at_call 10; refine (next_any ⟨hkq.get hR10.row (by simp), OwnLike.keep hR10.es hkq (by simp)⟩ hok10).mono ?_; simp only [HNX.out]; rintro e w2 ⟨rfl, hk2⟩)
                    exact hK _ _ trivial rfl ⟨fun _ => hkq.then hk2, fun hc => by rw [getD_set_other (show 2 ≠ 5 by decide), h5] at hc; cases hc⟩
                  · intro wq K listed hR hP hG hL hS hC hY hK
                    simp only [Pre, Region.binds, List.getD_cons_zero, List.getD_cons_succ, true_imp_iff, forall_const, and_true, true_and] at hP
                    simp only [Act.put, List.setIfInBounds_toArray, List.set_cons_zero, List.set_cons_succ] at hK
                    have h5 := hC.notYet 10 5 3 (by kernel_rfl) hL
                    have hkq := hG.1 h5
                    first | subst hP | (obtain ⟨rfl, -⟩ := hP)
                    go_wp2
                    exact hK _ _ trivial rfl ⟨fun _ => hkq, fun hc => by rw [getD_set_other (show 3 ≠ 5 by decide), h5] at hc; cases hc⟩
                  · intro wq K listed hR hP hG hL hS hC hY hK
                    simp only [Pre, Region.binds, List.getD_cons_zero, List.getD_cons_succ, true_imp_iff, forall_const, and_true, true_and] at hP
                    simp only [Act.put, List.setIfInBounds_toArray, List.set_cons_zero, List.set_cons_succ] at hK
                    have h5 := hC.notYet 10 5 4 (by kernel_rfl) hL
                    have hkq := hG.1 h5
                    first | subst hP | (obtain ⟨rfl, -⟩ := hP)
                    go_wp2
                    exact hK _ _ trivial rfl ⟨fun _ => hkq, fun hc => by rw [getD_set_other (show 4 ≠ 5 by decide), h5] at hc; cases hc⟩
                  · intro wq K listed hR hP hG hL hS hC hY hK
                    simp only [Pre, Region.binds, List.getD_cons_zero, List.getD_cons_succ, true_imp_iff, forall_const, and_true, true_and] at hP
                    simp only [Act.put, List.setIfInBounds_toArray, List.set_cons_zero, List.set_cons_succ] at hK
                    have hkq := hG.1 hL
                    obtain ⟨q4, q2, -⟩ := hP
                    subst q4 q2
                    have hrq := hkq.get hR10.row (by simp)
                    have c9 : wq.cell? ⟨p, 9, none⟩ = some (.int .i64 r.synced) := (cell_row' (j := 9) hrq).trans rfl
                    have f9 := frozen_row' (j := 9) hrq
                    go_wp2
                    have hh6 := heap_setCell_same wq p 9 _ _ (.int .i64 ((r.h.first : Int) + (r.es.length : Int))) hrq
                    have hk6 : Keep [p] wq (wq.setCell ⟨p, 9, none⟩ (.int .i64 ((r.h.first : Int) + (r.es.length : Int)))) := (Keep.refl _ _).setCell (by simp) _
                    refine hK undef _ trivial trivial ⟨fun hc => ?_, fun _ => ⟨(hkq.mono (F' := [p]) (by simp)).trans hk6 (fun _ hx => .inl hx), ?_⟩⟩
                    · rw [getD_set_self (by rw [hS]; decide)] at hc; cases hc
                    · rw [hh6]
                      simp [RV.cells]
                  · intro w11 listed2 hf11 hy hL2 hG11
                    obtain ⟨hk11, hr11⟩ := hG11.2 (hL2 5 (by decide))
                    go_wp2
                    go_ret
                    have hx10v : ∀ k, x10.ownBlock = some k → w9.heap.size ≤ k ∧ k < w10.heap.size := fun k e => World.ownsRow.lt hx10 k e
                    have hE11 : w11.ownsRow 0 92 2 x10 (r.es.drop c).length (storedCells (r.es.drop c)) := OwnLike.keep hR10.es hk11 (fun k hk e => by rw [List.mem_singleton.1 hk] at e; have := (hx10v _ e).1; omega)
                    have hpF' : p ∉ F' := fun hm => by
                      rcases hF7 _ hm with h' | h'
                      · exact h.pF h'
                      · omega
                    obtain ⟨F8, hD8, hF8⟩ := hD9.tight
                    have hk911 : Keep [p] w9 w11 := hk10.trans hk11 (fun _ hx => .inl hx)
                    have hD11 : DiskAt w11 r.a.p P.2 F8 := hD8.keep hk911 (fun x hx hm => by rw [List.mem_singleton.1 hm] at hx; exact hpF' (hF8 _ hx).1)
                    have hs7 := hkw7.size
                    have hs9 := hk9.size
                    refine ⟨by rw [HA.out]; rfl, ?_⟩
                    rw [HA.out]
                    refine ⟨F8, x10, hD11, ⟨hr11, hE11⟩, ?_, ?_, fun k e => .inr (by have := (hx10v k e).1; omega), fun hm => hpF' (hF8 _ hm).1, fun k e hm => by have := (hx10v k e).1; have := (hF8 _ hm).2; omega, fun x hx => Nat.lt_of_lt_of_le (hF8 x hx).2 hk911.size⟩
                    · refine ((hkw7.mono (F' := p :: (F ++ (Value.slice (some ⟨g, 0, none⟩) r.es.length cap).ownBlock.toList)) (fun x hx => Or.inl (by simp [hx]))).trans hk9 (fun x hx => Or.inr (by rw [List.mem_singleton.1 hx]; omega))).trans hk911 (fun x hx => Or.inl (by rw [List.mem_singleton.1 hx]; simp))
                    · intro x hx
                      rcases hF7 x (hF8 x hx).1 with h' | h'
                      · exact .inl h'
                      · exact .inr (by omega)
          · have HZ := Lib.hid hz
            have HA := Lib.hid (HA0.out.trans (if_pos (by simpa using hz)))
            have hzb : (P.1 == 0) = false := by simpa using hz
            have hzb' : (P.1 != 0) = true := by simpa using hz
            clear hz
            go_wp2_with (first
              | (go_at_call 40; refine (perform_any hO6.ring 45 #[] #[.pointer (some ⟨w.heap.size, 0, none⟩), .pointer (some ⟨q, 0, none⟩)] F h.pF hO6.lt (fun err w' => err = P.1 ∧ ∃ F', DiskAt w' r.a.p P.2 F' ∧ ∀ x ∈ F', x ∈ F ∨ wf.heap.size + 2 ≤ x) heg (fun W hk hz => (trim1_ok (hG6'.keep0 hk) (hO6.keep0 hk).ring h.ok (hO6.keep0 hk).disk hd hf hokH hlen (hk.get rb6 (by simp)) (hk.get hqr (by simp))).mono (by rw [HP.out]; exact fun e w' ⟨e1, F', e2, e3, e4⟩ => ⟨_, e1, ⟨rfl, F', e2, fun x hx => (e4 x hx).imp id (fun h => Nat.le_trans hz h)⟩, e3⟩))).mono ?_; rintro e w9 ⟨err, w7, rfl, ⟨rfl, F', hD7, hF7⟩, hk7, eb, heb, heb2, hor⟩
                 have hp7 := hk7.get hO6.ring.row h.pF
                 have hE7 := OwnLike.keep hO6.ring.es hk7 (fun k hk e => h.vF k e hk)
                 have r7 := hk7.get rb6 (fun hm => by have := h.lt _ hm; omega)
                 have t7 := hk7.get hqr (fun hm => by have := h.lt _ hm; omega)
                 have hpw := lt_of_heap h.ring.row
                 have hkw7 : Keep F w w7 := (hkw6.mono (F' := F) (by simp)).trans hk7 (fun x hx => Or.inl hx)
                 have hw9 : w9 = (w7.setCell ⟨eb, 0, none⟩ (.int .i64 P.1)).setCell ⟨p, 10, none⟩ (.int .i64 P.1) := hor.elim (fun q => absurd q.1 HZ.out) (fun q => q.2)
                 have HW9 := Lib.hid hw9
                 clear hw9 hor))
            go_ret
            have hw9 := HW9.out
            have hp8 := (heap_setCell_other w7 ⟨eb, 0, none⟩ p (.int .i64 P.1) (by simp; omega)).trans hp7
            have hp9 := heap_setCell_same _ p 10 _ _ (.int .i64 P.1) hp8
            rw [← hw9] at hp9
            have hk9 : Keep [eb, p] w7 w9 := by rw [hw9]; exact ((Keep.refl _ _).setCell (by simp) _).setCell (by simp) _
            have hpF' : p ∉ F' := fun hm => by
              rcases hF7 _ hm with h' | h'
              · exact h.pF h'
              · omega
            have heF' : eb ∉ F' := fun hm => by
              rcases hF7 _ hm with h' | h'
              · have := h.lt _ h'; omega
              · omega
            have hvp : (Value.slice (some ⟨g, 0, none⟩) r.es.length cap).ownBlock ≠ some p := own_row_ne h.ring.es h.ring.row (by decide)
            obtain ⟨F8, hD8, hF8⟩ := hD7.tight
            have hD9 : DiskAt w9 r.a.p P.2 F8 := hD8.keep hk9 (fun x hx hm => by
              simp only [List.mem_cons, List.not_mem_nil, or_false] at hm
              rcases hm with rfl | rfl
              · exact heF' (hF8 _ hx).1
              · exact hpF' (hF8 _ hx).1)
            have hE9 := OwnLike.keep hE7 hk9 (fun k hk e => by
              simp only [List.mem_cons, List.not_mem_nil, or_false] at hk
              rcases hk with rfl | rfl
              · have := hvw _ e; omega
              · exact hvp e)
            have hs7 := hkw7.size
            refine ⟨by rw [HA.out]; rfl, ?_⟩
            rw [HA.out]
            refine ⟨F8, .slice (some ⟨g, 0, none⟩) r.es.length cap, hD9, ⟨hp9.trans (by simp [RV.cells]), hE9⟩, ?_, ?_, fun k e => .inl e, fun hm => hpF' (hF8 _ hm).1, ?_, fun x hx => Nat.lt_of_lt_of_le (hF8 x hx).2 hk9.size⟩
            · refine (hkw7.mono (F' := p :: (F ++ (Value.slice (some ⟨g, 0, none⟩) r.es.length cap).ownBlock.toList)) (fun x hx => Or.inl (by simp [hx]))).trans hk9 (fun x hx => ?_)
              simp only [List.mem_cons, List.not_mem_nil, or_false] at hx
              rcases hx with rfl | rfl
              · exact Or.inr (by omega)
              · exact Or.inl (by simp)
            · intro x hx
              rcases hF7 x (hF8 x hx).1 with h' | h'
              · exact .inl h'
              · exact .inr (by omega)
            · intro k e hm
              rcases hF7 k (hF8 k hm).1 with h' | h'
              · exact h.vF k e h'
              · have := hvw k e; omega
end
end Go.Proofs.YtgopdbpddemplaaDoor
