/- law: RingErrors, where the power has failed. -/
import Derived.Test.YtgopdbpddemplaaDoorPart32
set_option linter.unusedSimpArgs false
set_option linter.unusedVariables false
namespace Go.Proofs.YtgopdbpddemplaaDoor
section
/- law: RingErrors, where the power has failed. -/
open Go.RowKit
set_option maxRecDepth 100000 in
set_option maxHeartbeats 8000000 in
theorem errors_a1 (first count m0 m1 : Int) (w : World) (hG : Glob w) (hf1 : first ≤ 9223372036854775807) (hc1 : count ≤ 9223372036854775807) (HDN : Hid ((m0.tmod 2 != 0) = true)) (h1 : first < 0) :
    Calls Tryd.prog 4 #[.int .i64 first, .int .i64 count, .agg #[.int .i64 m0, .int .i64 m1]] w fun e w' => e = .returned (.bool true) ∧ Keep [] w w' := by
  have he : areaErr { newD 20 with down := true } first count = 2 := by
    unfold areaErr
    rw [if_pos (Or.inl h1)]
  have HOP : Hid (∀ p, openF { newD 20 with down := true } p first count = (2, { newD 20 with down := true }, none)) := Lib.hid (fun p => by have h := open_empty true p first count; rw [show areaErr { newD 20 with down := true } first count = 2 from he] at h; exact h)
  have HFM : Hid (∀ p, (formatF { newD 20 with down := true } p first count).1 = 2) := Lib.hid (fun p => by rw [format_err (p := p) (by rw [he]; decide), he])
  clear he
  have HAP : Hid (∀ d r (Z : List UInt8), Z.length = 131073 → r.failed = 0 → appendF d r Z = ((0, 5), d, r)) := Lib.hid (fun d r Z hZ h => by unfold appendF; rw [if_neg (by simpa using h), if_pos (by rw [hZ]; omega)])
  have HAN : Hid (∀ w : World, Calls Tryd.prog 21 #[.pointer none, .string ⟨#[120]⟩] w fun e w' => e = .returned (.tuple #[.int .i64 0, .int .i64 1]) ∧ Keep [] w w') := Lib.hid (fun w => append_nil [120] w)
  go_enter Tryd.func4, Tryd.ntmps4
  go_wp2
  obtain ⟨W0, hW0⟩ : ∃ W0, W0 = w.alloc (.cells #[.int .i64 m0, .int .i64 m1] 45) := ⟨_, rfl⟩
  rw [← hW0]
  have hkW : Keep [] w W0 := by rw [hW0]; exact (Keep.refl _ _).alloc _
  have rB : W0.heap[w.heap.size]? = some (.cells #[.int .i64 m0, .int .i64 m1] 45 (0, 0)) := by rw [hW0]; exact heap_alloc_new w _
  clear hW0
  (refine wp_region_inv (Keep []) [fun v _ => v = .pointer (some ⟨w.heap.size, 0, none⟩), fun v _ => v = .int .i64 m0, fun v _ => v = .int .i64 (m0.tmod 2), fun v _ => v = .bool true, fun v _ => v = .pointer (some ⟨w.heap.size, 1, none⟩), fun v _ => v = .int .i64 m1, fun v _ => v = .bool true, fun v _ => v = .int .i64 m1] (by kernel_rfl) (by kernel_rfl) (by kernel_rfl) (fun _ _ _ h k => h.then k) (Keep.refl _) ?stab1 ?main1; (case' main1 => (simp only [List.length_cons, List.length_nil, Nat.zero_add, Nat.reduceAdd, AllVals]; intro z0 z1 z2 z3 z4 z5 z6 z7; simp only [putAll, Act.put, List.setIfInBounds_toArray, List.set_cons_zero, List.set_cons_succ, StepsAt]; refine ⟨?steps1, ?after1⟩)); (case' steps1 => (repeat' apply And.intro)); (case' stab1 => (simp only [Stable])))
  case stab1 => exact ⟨fun _ _ _ _ h => h, fun _ _ _ _ h => h, fun _ _ _ _ h => h, fun _ _ _ _ h => h, fun _ _ _ _ h => h, fun _ _ _ _ h => h, fun _ _ _ _ h => h, fun _ _ _ _ h => h, trivial⟩
  all_goals try (first | trivial | exact True.intro)
  · (intro wq K hR hP hK; simp only [Pre, Region.binds, List.getD_cons_zero, List.getD_cons_succ, true_imp_iff, forall_const, and_true, true_and] at hP; simp only [Act.put, List.setIfInBounds_toArray, List.set_cons_zero, List.set_cons_succ] at hK)
    go_wp2
    exact hK _ _ (Keep.refl _ _) rfl
  · (intro wq K hR hP hK; simp only [Pre, Region.binds, List.getD_cons_zero, List.getD_cons_succ, true_imp_iff, forall_const, and_true, true_and] at hP; simp only [Act.put, List.setIfInBounds_toArray, List.set_cons_zero, List.set_cons_succ] at hK)
    first | subst hP | (obtain ⟨rfl, -⟩ := hP)
    have cq : wq.cell? ⟨w.heap.size, 0, none⟩ = some (.int .i64 m0) := (cell_row' (j := 0) (hR.drew'.get rB (by simp))).trans rfl
    go_wp2
    exact hK _ _ (Keep.refl _ _) rfl
  · (intro wq K hR hP hK; simp only [Pre, Region.binds, List.getD_cons_zero, List.getD_cons_succ, true_imp_iff, forall_const, and_true, true_and] at hP; simp only [Act.put, List.setIfInBounds_toArray, List.set_cons_zero, List.set_cons_succ] at hK)
    first | subst hP | (obtain ⟨rfl, -⟩ := hP)
    go_wp2
    exact hK _ _ (Keep.refl _ _) rfl
  · (intro wq K hR hP hK; simp only [Pre, Region.binds, List.getD_cons_zero, List.getD_cons_succ, true_imp_iff, forall_const, and_true, true_and] at hP; simp only [Act.put, List.setIfInBounds_toArray, List.set_cons_zero, List.set_cons_succ] at hK)
    first | subst hP | (obtain ⟨rfl, -⟩ := hP)
    have hdn := HDN.out
    go_wp2
    exact hK _ _ (Keep.refl _ _) rfl
  · (intro wq K hR hP hK; simp only [Pre, Region.binds, List.getD_cons_zero, List.getD_cons_succ, true_imp_iff, forall_const, and_true, true_and] at hP; simp only [Act.put, List.setIfInBounds_toArray, List.set_cons_zero, List.set_cons_succ] at hK)
    go_wp2
    exact hK _ _ (Keep.refl _ _) rfl
  · (intro wq K hR hP hK; simp only [Pre, Region.binds, List.getD_cons_zero, List.getD_cons_succ, true_imp_iff, forall_const, and_true, true_and] at hP; simp only [Act.put, List.setIfInBounds_toArray, List.set_cons_zero, List.set_cons_succ] at hK)
    first | subst hP | (obtain ⟨rfl, -⟩ := hP)
    have cq : wq.cell? ⟨w.heap.size, 1, none⟩ = some (.int .i64 m1) := (cell_row' (j := 1) (hR.drew'.get rB (by simp))).trans rfl
    go_wp2
    exact hK _ _ (Keep.refl _ _) rfl
  · (intro wq K hR hP hK; simp only [Pre, Region.binds, List.getD_cons_zero, List.getD_cons_succ, true_imp_iff, forall_const, and_true, true_and] at hP; simp only [Act.put, List.setIfInBounds_toArray, List.set_cons_zero, List.set_cons_succ] at hK)
    first | subst hP | (obtain ⟨rfl, -⟩ := hP)
    go_wp2
    exact hK _ _ (Keep.refl _ _) rfl
  · (intro wq K hR hP hK; simp only [Pre, Region.binds, List.getD_cons_zero, List.getD_cons_succ, true_imp_iff, forall_const, and_true, true_and] at hP; simp only [Act.put, List.setIfInBounds_toArray, List.set_cons_zero, List.set_cons_succ] at hK)
    first | subst hP | (obtain ⟨rfl, -⟩ := hP)
    go_wp2
    exact hK _ _ (Keep.refl _ _) rfl
  (intro w1 hk1 hz; simp only [AllAt] at hz)
  obtain ⟨-, -, -, -, -, -, hz6, hz7, -⟩ := hz
  subst hz6 hz7
  have hkc : Keep [] w w1 := hkW.then hk1.drew'
  clear rB hkW hk1
  by_cases hn0 : m1 < 0
  · go_wp2_with (first
      | (go_at_call 13; with_reducible refine (open_nil first count _).mono ?_; rintro e w2 ⟨rfl, hk2⟩; replace hkc := hkc.then hk2)
      | (go_at_call 6; refine (known_ok _ (hG.keep0 hkc)).mono ?_; rintro e w3 ⟨rfl, hk3⟩; replace hkc := hkc.then hk3)
      | (go_at_call 16; with_reducible refine (format_nil first count _).mono ?_; rintro e w4 ⟨rfl, hk4⟩; replace hkc := hkc.then hk4)
      | (go_at_call 17; refine (dev_new 20 _ (hG.keep0 hkc) (by omega) (by omega)).mono ?_; rintro e w5 ⟨p, F1, rfl, hD1, hk5, hF1⟩; have hkc0 := hkc; replace hkc := hkc.then hk5; have hF1w : ∀ x ∈ F1, w.heap.size ≤ x := fun x hx => Nat.le_trans hkc0.size (hF1 x hx))
      | (go_at_call 18; refine (fail_any hD1.disk).mono ?_; rintro e w6 ⟨rfl, hDd, hk6⟩
         replace hkc := hkc.trans hk6 (fun x hx => Or.inr (by rw [List.mem_singleton.1 hx]; exact hF1w _ hDd.memp))
         have hGd : Glob w6 := hG.keep0 hkc)
      | (go_at_call 13; (refine (open_any hGd hDd first count (by show (0 : Int) ≤ 20; omega) (by show (20 : Int) ≤ 8192; omega) hf1 (by show 0 ≤ 50000000; omega) hD1.own).mono ?_; rw [HOP.out]; rintro e w6 hop; simp only [OpenPost] at hop; obtain ⟨rfl, F6, hD6, hk6, hF6⟩ := hop; have hsz := hkc.size)
         replace hkc := hkc.trans hk6 (fun x hx => Or.inr (hF1w x hx))
         have hG6 : Glob w6 := hG.keep0 hkc
         have hF6w : ∀ x ∈ F6, w.heap.size ≤ x := fun x hx => (hF6 x hx).elim (hF1w x) (fun q => Nat.le_trans hsz q))
      | (go_at_call 16; refine (format_ok hG6 hD6 first count (by show (0 : Int) ≤ 20; omega) (by show (20 : Int) ≤ 8192; omega) hf1 (by show 0 ≤ 100000000; omega)).mono ?_; rw [HFM.out]; rintro e w7 ⟨rfl, F7, hD7, hk7, hF7⟩
         replace hkc := hkc.trans hk7 (fun x hx => Or.inr (hF6w x hx)))
      | (go_at_call 19; refine (need_bad m1 _ (Or.inl hn0)).mono ?_; rintro e w7 ⟨rfl, hw7⟩; obtain rfl := hw7.symm; have hGc := hG.keep0 hkc; have hkc0 := hkc)
      | (go_at_call 8; refine (fresh_ok 10 _ hGc (by omega) (by omega)).mono ?_; rintro e w8 ⟨p8, rp8, d8, v8, F8, rfl, hL8, hn8, hk8, hb8⟩
         replace hkc := hkc.then hk8
         obtain ⟨M, Z, HZ, hmk, hcv⟩ := zeros_make 131073 131073 (by decide) (by omega) (by omega)
         have hL8' := hL8.keep0 ((Keep.refl [] w8).alloc (.cells M 5))
         have hAE := append_err hL8'.on Z (by rw [HZ.out]; omega) (Or.inr (Or.inl (by rw [HZ.out]; omega)))
         rw [HAP.out _ _ _ HZ.out hL8.inv.failed] at hAE
         have HAE := Lib.hid hAE
         clear hAE)
      | (go_at_call 21; with_reducible refine (HAN.out _).mono ?_; rintro e w10 ⟨rfl, hk10⟩; replace hkc := hkc.then hk10)
      | (go_at_call 21; with_reducible refine HAE.out.mono ?_; rintro e w9 ⟨rfl, hp9⟩
         have hk9 : Keep [] w w9 := (hkc.alloc (.cells M 5)).trans (OpPost.keeps hp9) (fun x hx => Or.inr (Nat.le_trans hkc0.size (hn8.frame x hx)))
         replace hkc := hk9)
      | (go_at_call 22; refine (sync_nil _).mono ?_; rintro e w10 ⟨rfl, hk10⟩; replace hkc := hkc.then hk10)
      | (go_at_call 23; refine (trim_nil _ _).mono ?_; rintro e w10 ⟨rfl, hk10⟩; replace hkc := hkc.then hk10)
      | (go_at_call 24; refine (failed_nil _).mono ?_; rintro e w10 ⟨rfl, hw10⟩; obtain rfl := hw10.symm)
      | (go_at_call 14; refine (first_nil _).mono ?_; rintro e w10 ⟨rfl, hw10⟩; obtain rfl := hw10.symm)
      | (go_at_call 10; refine (next_nil _).mono ?_; rintro e w10 ⟨rfl, hw10⟩; obtain rfl := hw10.symm)
      | (go_at_call 25; refine (synced_nil _).mono ?_; rintro e w10 ⟨rfl, hw10⟩; obtain rfl := hw10.symm)
      | (go_at_call 15; refine (free_nil _).mono ?_; rintro e w10 ⟨rfl, hw10⟩; obtain rfl := hw10.symm)
      | (go_at_call 26; refine (generation_nil _).mono ?_; rintro e w10 ⟨rfl, hw10⟩; obtain rfl := hw10.symm)
      )
    go_ret
    exact ⟨rfl, hkc⟩
  · by_cases hn1 : 131072 < m1
    · go_wp2_with (first
        | (go_at_call 13; with_reducible refine (open_nil first count _).mono ?_; rintro e w2 ⟨rfl, hk2⟩; replace hkc := hkc.then hk2)
        | (go_at_call 6; refine (known_ok _ (hG.keep0 hkc)).mono ?_; rintro e w3 ⟨rfl, hk3⟩; replace hkc := hkc.then hk3)
        | (go_at_call 16; with_reducible refine (format_nil first count _).mono ?_; rintro e w4 ⟨rfl, hk4⟩; replace hkc := hkc.then hk4)
        | (go_at_call 17; refine (dev_new 20 _ (hG.keep0 hkc) (by omega) (by omega)).mono ?_; rintro e w5 ⟨p, F1, rfl, hD1, hk5, hF1⟩; have hkc0 := hkc; replace hkc := hkc.then hk5; have hF1w : ∀ x ∈ F1, w.heap.size ≤ x := fun x hx => Nat.le_trans hkc0.size (hF1 x hx))
        | (go_at_call 18; refine (fail_any hD1.disk).mono ?_; rintro e w6 ⟨rfl, hDd, hk6⟩
           replace hkc := hkc.trans hk6 (fun x hx => Or.inr (by rw [List.mem_singleton.1 hx]; exact hF1w _ hDd.memp))
           have hGd : Glob w6 := hG.keep0 hkc)
        | (go_at_call 13; (refine (open_any hGd hDd first count (by show (0 : Int) ≤ 20; omega) (by show (20 : Int) ≤ 8192; omega) hf1 (by show 0 ≤ 50000000; omega) hD1.own).mono ?_; rw [HOP.out]; rintro e w6 hop; simp only [OpenPost] at hop; obtain ⟨rfl, F6, hD6, hk6, hF6⟩ := hop; have hsz := hkc.size)
           replace hkc := hkc.trans hk6 (fun x hx => Or.inr (hF1w x hx))
           have hG6 : Glob w6 := hG.keep0 hkc
           have hF6w : ∀ x ∈ F6, w.heap.size ≤ x := fun x hx => (hF6 x hx).elim (hF1w x) (fun q => Nat.le_trans hsz q))
        | (go_at_call 16; refine (format_ok hG6 hD6 first count (by show (0 : Int) ≤ 20; omega) (by show (20 : Int) ≤ 8192; omega) hf1 (by show 0 ≤ 100000000; omega)).mono ?_; rw [HFM.out]; rintro e w7 ⟨rfl, F7, hD7, hk7, hF7⟩
           replace hkc := hkc.trans hk7 (fun x hx => Or.inr (hF6w x hx)))
        | (go_at_call 19; refine (need_bad m1 _ (Or.inr hn1)).mono ?_; rintro e w7 ⟨rfl, hw7⟩; obtain rfl := hw7.symm; have hGc := hG.keep0 hkc; have hkc0 := hkc)
        | (go_at_call 8; refine (fresh_ok 10 _ hGc (by omega) (by omega)).mono ?_; rintro e w8 ⟨p8, rp8, d8, v8, F8, rfl, hL8, hn8, hk8, hb8⟩
           replace hkc := hkc.then hk8
           obtain ⟨M, Z, HZ, hmk, hcv⟩ := zeros_make 131073 131073 (by decide) (by omega) (by omega)
           have hL8' := hL8.keep0 ((Keep.refl [] w8).alloc (.cells M 5))
           have hAE := append_err hL8'.on Z (by rw [HZ.out]; omega) (Or.inr (Or.inl (by rw [HZ.out]; omega)))
           rw [HAP.out _ _ _ HZ.out hL8.inv.failed] at hAE
           have HAE := Lib.hid hAE
           clear hAE)
        | (go_at_call 21; with_reducible refine (HAN.out _).mono ?_; rintro e w10 ⟨rfl, hk10⟩; replace hkc := hkc.then hk10)
        | (go_at_call 21; with_reducible refine HAE.out.mono ?_; rintro e w9 ⟨rfl, hp9⟩
           have hk9 : Keep [] w w9 := (hkc.alloc (.cells M 5)).trans (OpPost.keeps hp9) (fun x hx => Or.inr (Nat.le_trans hkc0.size (hn8.frame x hx)))
           replace hkc := hk9)
        | (go_at_call 22; refine (sync_nil _).mono ?_; rintro e w10 ⟨rfl, hk10⟩; replace hkc := hkc.then hk10)
        | (go_at_call 23; refine (trim_nil _ _).mono ?_; rintro e w10 ⟨rfl, hk10⟩; replace hkc := hkc.then hk10)
        | (go_at_call 24; refine (failed_nil _).mono ?_; rintro e w10 ⟨rfl, hw10⟩; obtain rfl := hw10.symm)
        | (go_at_call 14; refine (first_nil _).mono ?_; rintro e w10 ⟨rfl, hw10⟩; obtain rfl := hw10.symm)
        | (go_at_call 10; refine (next_nil _).mono ?_; rintro e w10 ⟨rfl, hw10⟩; obtain rfl := hw10.symm)
        | (go_at_call 25; refine (synced_nil _).mono ?_; rintro e w10 ⟨rfl, hw10⟩; obtain rfl := hw10.symm)
        | (go_at_call 15; refine (free_nil _).mono ?_; rintro e w10 ⟨rfl, hw10⟩; obtain rfl := hw10.symm)
        | (go_at_call 26; refine (generation_nil _).mono ?_; rintro e w10 ⟨rfl, hw10⟩; obtain rfl := hw10.symm)
        )
      go_ret
      exact ⟨rfl, hkc⟩
    · obtain ⟨n, rfl⟩ := Int.eq_ofNat_of_zero_le (show 0 ≤ m1 by omega)
      have hn2 : n ≤ 131072 := by omega
      obtain ⟨nb, hnb⟩ : ∃ nb, blocksN (26 + n + 16) = nb := ⟨_, rfl⟩
      have HNB := Lib.hid hnb
      clear hnb
      go_wp2_with (first
        | (go_at_call 13; with_reducible refine (open_nil first count _).mono ?_; rintro e w2 ⟨rfl, hk2⟩; replace hkc := hkc.then hk2)
        | (go_at_call 6; refine (known_ok _ (hG.keep0 hkc)).mono ?_; rintro e w3 ⟨rfl, hk3⟩; replace hkc := hkc.then hk3)
        | (go_at_call 16; with_reducible refine (format_nil first count _).mono ?_; rintro e w4 ⟨rfl, hk4⟩; replace hkc := hkc.then hk4)
        | (go_at_call 17; refine (dev_new 20 _ (hG.keep0 hkc) (by omega) (by omega)).mono ?_; rintro e w5 ⟨p, F1, rfl, hD1, hk5, hF1⟩; have hkc0 := hkc; replace hkc := hkc.then hk5; have hF1w : ∀ x ∈ F1, w.heap.size ≤ x := fun x hx => Nat.le_trans hkc0.size (hF1 x hx))
        | (go_at_call 18; refine (fail_any hD1.disk).mono ?_; rintro e w6 ⟨rfl, hDd, hk6⟩
           replace hkc := hkc.trans hk6 (fun x hx => Or.inr (by rw [List.mem_singleton.1 hx]; exact hF1w _ hDd.memp))
           have hGd : Glob w6 := hG.keep0 hkc)
        | (go_at_call 13; (refine (open_any hGd hDd first count (by show (0 : Int) ≤ 20; omega) (by show (20 : Int) ≤ 8192; omega) hf1 (by show 0 ≤ 50000000; omega) hD1.own).mono ?_; rw [HOP.out]; rintro e w6 hop; simp only [OpenPost] at hop; obtain ⟨rfl, F6, hD6, hk6, hF6⟩ := hop; have hsz := hkc.size)
           replace hkc := hkc.trans hk6 (fun x hx => Or.inr (hF1w x hx))
           have hG6 : Glob w6 := hG.keep0 hkc
           have hF6w : ∀ x ∈ F6, w.heap.size ≤ x := fun x hx => (hF6 x hx).elim (hF1w x) (fun q => Nat.le_trans hsz q))
        | (go_at_call 16; refine (format_ok hG6 hD6 first count (by show (0 : Int) ≤ 20; omega) (by show (20 : Int) ≤ 8192; omega) hf1 (by show 0 ≤ 100000000; omega)).mono ?_; rw [HFM.out]; rintro e w7 ⟨rfl, F7, hD7, hk7, hF7⟩
           replace hkc := hkc.trans hk7 (fun x hx => Or.inr (hF6w x hx)))
        | (go_at_call 19; refine (need_ok n _ hn2).mono ?_; rw [HNB.out]; rintro e w7 ⟨rfl, hw7⟩; obtain rfl := hw7.symm; have hGc := hG.keep0 hkc; have hkc0 := hkc)
        | (go_at_call 20; refine (refNeed_ok n _ (by omega) (by omega)).mono ?_; rw [Int.toNat_natCast, HNB.out]; rintro e w7 ⟨rfl, hw7⟩; obtain rfl := hw7.symm)
        | (go_at_call 8; refine (fresh_ok 10 _ hGc (by omega) (by omega)).mono ?_; rintro e w8 ⟨p8, rp8, d8, v8, F8, rfl, hL8, hn8, hk8, hb8⟩
           replace hkc := hkc.then hk8
           obtain ⟨M, Z, HZ, hmk, hcv⟩ := zeros_make 131073 131073 (by decide) (by omega) (by omega)
           have hL8' := hL8.keep0 ((Keep.refl [] w8).alloc (.cells M 5))
           have hAE := append_err hL8'.on Z (by rw [HZ.out]; omega) (Or.inr (Or.inl (by rw [HZ.out]; omega)))
           rw [HAP.out _ _ _ HZ.out hL8.inv.failed] at hAE
           have HAE := Lib.hid hAE
           clear hAE)
        | (go_at_call 21; with_reducible refine (HAN.out _).mono ?_; rintro e w10 ⟨rfl, hk10⟩; replace hkc := hkc.then hk10)
        | (go_at_call 21; with_reducible refine HAE.out.mono ?_; rintro e w9 ⟨rfl, hp9⟩
           have hk9 : Keep [] w w9 := (hkc.alloc (.cells M 5)).trans (OpPost.keeps hp9) (fun x hx => Or.inr (Nat.le_trans hkc0.size (hn8.frame x hx)))
           replace hkc := hk9)
        | (go_at_call 22; refine (sync_nil _).mono ?_; rintro e w10 ⟨rfl, hk10⟩; replace hkc := hkc.then hk10)
        | (go_at_call 23; refine (trim_nil _ _).mono ?_; rintro e w10 ⟨rfl, hk10⟩; replace hkc := hkc.then hk10)
        | (go_at_call 24; refine (failed_nil _).mono ?_; rintro e w10 ⟨rfl, hw10⟩; obtain rfl := hw10.symm)
        | (go_at_call 14; refine (first_nil _).mono ?_; rintro e w10 ⟨rfl, hw10⟩; obtain rfl := hw10.symm)
        | (go_at_call 10; refine (next_nil _).mono ?_; rintro e w10 ⟨rfl, hw10⟩; obtain rfl := hw10.symm)
        | (go_at_call 25; refine (synced_nil _).mono ?_; rintro e w10 ⟨rfl, hw10⟩; obtain rfl := hw10.symm)
        | (go_at_call 15; refine (free_nil _).mono ?_; rintro e w10 ⟨rfl, hw10⟩; obtain rfl := hw10.symm)
        | (go_at_call 26; refine (generation_nil _).mono ?_; rintro e w10 ⟨rfl, hw10⟩; obtain rfl := hw10.symm)
        )
      go_ret
      exact ⟨rfl, hkc⟩
set_option maxRecDepth 100000 in
set_option maxHeartbeats 8000000 in
theorem errors_b1 (first count m0 m1 : Int) (w : World) (hG : Glob w) (hf1 : first ≤ 9223372036854775807) (hc1 : count ≤ 9223372036854775807) (HDN : Hid ((m0.tmod 2 != 0) = true)) (h1 : 0 ≤ first) (h2 : count < 4) :
    Calls Tryd.prog 4 #[.int .i64 first, .int .i64 count, .agg #[.int .i64 m0, .int .i64 m1]] w fun e w' => e = .returned (.bool true) ∧ Keep [] w w' := by
  have he : areaErr { newD 20 with down := true } first count = 2 := by
    unfold areaErr
    rw [if_pos (Or.inr (Or.inl h2))]
  have HOP : Hid (∀ p, openF { newD 20 with down := true } p first count = (2, { newD 20 with down := true }, none)) := Lib.hid (fun p => by have h := open_empty true p first count; rw [show areaErr { newD 20 with down := true } first count = 2 from he] at h; exact h)
  have HFM : Hid (∀ p, (formatF { newD 20 with down := true } p first count).1 = 2) := Lib.hid (fun p => by rw [format_err (p := p) (by rw [he]; decide), he])
  clear he
  have HAP : Hid (∀ d r (Z : List UInt8), Z.length = 131073 → r.failed = 0 → appendF d r Z = ((0, 5), d, r)) := Lib.hid (fun d r Z hZ h => by unfold appendF; rw [if_neg (by simpa using h), if_pos (by rw [hZ]; omega)])
  have HAN : Hid (∀ w : World, Calls Tryd.prog 21 #[.pointer none, .string ⟨#[120]⟩] w fun e w' => e = .returned (.tuple #[.int .i64 0, .int .i64 1]) ∧ Keep [] w w') := Lib.hid (fun w => append_nil [120] w)
  go_enter Tryd.func4, Tryd.ntmps4
  go_wp2
  obtain ⟨W0, hW0⟩ : ∃ W0, W0 = w.alloc (.cells #[.int .i64 m0, .int .i64 m1] 45) := ⟨_, rfl⟩
  rw [← hW0]
  have hkW : Keep [] w W0 := by rw [hW0]; exact (Keep.refl _ _).alloc _
  have rB : W0.heap[w.heap.size]? = some (.cells #[.int .i64 m0, .int .i64 m1] 45 (0, 0)) := by rw [hW0]; exact heap_alloc_new w _
  clear hW0
  (refine wp_region_inv (Keep []) [fun v _ => v = .pointer (some ⟨w.heap.size, 0, none⟩), fun v _ => v = .int .i64 m0, fun v _ => v = .int .i64 (m0.tmod 2), fun v _ => v = .bool true, fun v _ => v = .pointer (some ⟨w.heap.size, 1, none⟩), fun v _ => v = .int .i64 m1, fun v _ => v = .bool true, fun v _ => v = .int .i64 m1] (by kernel_rfl) (by kernel_rfl) (by kernel_rfl) (fun _ _ _ h k => h.then k) (Keep.refl _) ?stab2 ?main2; (case' main2 => (simp only [List.length_cons, List.length_nil, Nat.zero_add, Nat.reduceAdd, AllVals]; intro z0 z1 z2 z3 z4 z5 z6 z7; simp only [putAll, Act.put, List.setIfInBounds_toArray, List.set_cons_zero, List.set_cons_succ, StepsAt]; refine ⟨?steps2, ?after2⟩)); (case' steps2 => (repeat' apply And.intro)); (case' stab2 => (simp only [Stable])))
  case stab2 => exact ⟨fun _ _ _ _ h => h, fun _ _ _ _ h => h, fun _ _ _ _ h => h, fun _ _ _ _ h => h, fun _ _ _ _ h => h, fun _ _ _ _ h => h, fun _ _ _ _ h => h, fun _ _ _ _ h => h, trivial⟩
  all_goals try (first | trivial | exact True.intro)
  · (intro wq K hR hP hK; simp only [Pre, Region.binds, List.getD_cons_zero, List.getD_cons_succ, true_imp_iff, forall_const, and_true, true_and] at hP; simp only [Act.put, List.setIfInBounds_toArray, List.set_cons_zero, List.set_cons_succ] at hK)
    go_wp2
    exact hK _ _ (Keep.refl _ _) rfl
  · (intro wq K hR hP hK; simp only [Pre, Region.binds, List.getD_cons_zero, List.getD_cons_succ, true_imp_iff, forall_const, and_true, true_and] at hP; simp only [Act.put, List.setIfInBounds_toArray, List.set_cons_zero, List.set_cons_succ] at hK)
    first | subst hP | (obtain ⟨rfl, -⟩ := hP)
    have cq : wq.cell? ⟨w.heap.size, 0, none⟩ = some (.int .i64 m0) := (cell_row' (j := 0) (hR.drew'.get rB (by simp))).trans rfl
    go_wp2
    exact hK _ _ (Keep.refl _ _) rfl
  · (intro wq K hR hP hK; simp only [Pre, Region.binds, List.getD_cons_zero, List.getD_cons_succ, true_imp_iff, forall_const, and_true, true_and] at hP; simp only [Act.put, List.setIfInBounds_toArray, List.set_cons_zero, List.set_cons_succ] at hK)
    first | subst hP | (obtain ⟨rfl, -⟩ := hP)
    go_wp2
    exact hK _ _ (Keep.refl _ _) rfl
  · (intro wq K hR hP hK; simp only [Pre, Region.binds, List.getD_cons_zero, List.getD_cons_succ, true_imp_iff, forall_const, and_true, true_and] at hP; simp only [Act.put, List.setIfInBounds_toArray, List.set_cons_zero, List.set_cons_succ] at hK)
    first | subst hP | (obtain ⟨rfl, -⟩ := hP)
    have hdn := HDN.out
    go_wp2
    exact hK _ _ (Keep.refl _ _) rfl
  · (intro wq K hR hP hK; simp only [Pre, Region.binds, List.getD_cons_zero, List.getD_cons_succ, true_imp_iff, forall_const, and_true, true_and] at hP; simp only [Act.put, List.setIfInBounds_toArray, List.set_cons_zero, List.set_cons_succ] at hK)
    go_wp2
    exact hK _ _ (Keep.refl _ _) rfl
  · (intro wq K hR hP hK; simp only [Pre, Region.binds, List.getD_cons_zero, List.getD_cons_succ, true_imp_iff, forall_const, and_true, true_and] at hP; simp only [Act.put, List.setIfInBounds_toArray, List.set_cons_zero, List.set_cons_succ] at hK)
    first | subst hP | (obtain ⟨rfl, -⟩ := hP)
    have cq : wq.cell? ⟨w.heap.size, 1, none⟩ = some (.int .i64 m1) := (cell_row' (j := 1) (hR.drew'.get rB (by simp))).trans rfl
    go_wp2
    exact hK _ _ (Keep.refl _ _) rfl
  · (intro wq K hR hP hK; simp only [Pre, Region.binds, List.getD_cons_zero, List.getD_cons_succ, true_imp_iff, forall_const, and_true, true_and] at hP; simp only [Act.put, List.setIfInBounds_toArray, List.set_cons_zero, List.set_cons_succ] at hK)
    first | subst hP | (obtain ⟨rfl, -⟩ := hP)
    go_wp2
    exact hK _ _ (Keep.refl _ _) rfl
  · (intro wq K hR hP hK; simp only [Pre, Region.binds, List.getD_cons_zero, List.getD_cons_succ, true_imp_iff, forall_const, and_true, true_and] at hP; simp only [Act.put, List.setIfInBounds_toArray, List.set_cons_zero, List.set_cons_succ] at hK)
    first | subst hP | (obtain ⟨rfl, -⟩ := hP)
    go_wp2
    exact hK _ _ (Keep.refl _ _) rfl
  (intro w1 hk1 hz; simp only [AllAt] at hz)
  obtain ⟨-, -, -, -, -, -, hz6, hz7, -⟩ := hz
  subst hz6 hz7
  have hkc : Keep [] w w1 := hkW.then hk1.drew'
  clear rB hkW hk1
  by_cases hn0 : m1 < 0
  · go_wp2_with (first
      | (go_at_call 13; with_reducible refine (open_nil first count _).mono ?_; rintro e w2 ⟨rfl, hk2⟩; replace hkc := hkc.then hk2)
      | (go_at_call 6; refine (known_ok _ (hG.keep0 hkc)).mono ?_; rintro e w3 ⟨rfl, hk3⟩; replace hkc := hkc.then hk3)
      | (go_at_call 16; with_reducible refine (format_nil first count _).mono ?_; rintro e w4 ⟨rfl, hk4⟩; replace hkc := hkc.then hk4)
      | (go_at_call 17; refine (dev_new 20 _ (hG.keep0 hkc) (by omega) (by omega)).mono ?_; rintro e w5 ⟨p, F1, rfl, hD1, hk5, hF1⟩; have hkc0 := hkc; replace hkc := hkc.then hk5; have hF1w : ∀ x ∈ F1, w.heap.size ≤ x := fun x hx => Nat.le_trans hkc0.size (hF1 x hx))
      | (go_at_call 18; refine (fail_any hD1.disk).mono ?_; rintro e w6 ⟨rfl, hDd, hk6⟩
         replace hkc := hkc.trans hk6 (fun x hx => Or.inr (by rw [List.mem_singleton.1 hx]; exact hF1w _ hDd.memp))
         have hGd : Glob w6 := hG.keep0 hkc)
      | (go_at_call 13; (refine (open_any hGd hDd first count (by show (0 : Int) ≤ 20; omega) (by show (20 : Int) ≤ 8192; omega) hf1 (by show 0 ≤ 50000000; omega) hD1.own).mono ?_; rw [HOP.out]; rintro e w6 hop; simp only [OpenPost] at hop; obtain ⟨rfl, F6, hD6, hk6, hF6⟩ := hop; have hsz := hkc.size)
         replace hkc := hkc.trans hk6 (fun x hx => Or.inr (hF1w x hx))
         have hG6 : Glob w6 := hG.keep0 hkc
         have hF6w : ∀ x ∈ F6, w.heap.size ≤ x := fun x hx => (hF6 x hx).elim (hF1w x) (fun q => Nat.le_trans hsz q))
      | (go_at_call 16; refine (format_ok hG6 hD6 first count (by show (0 : Int) ≤ 20; omega) (by show (20 : Int) ≤ 8192; omega) hf1 (by show 0 ≤ 100000000; omega)).mono ?_; rw [HFM.out]; rintro e w7 ⟨rfl, F7, hD7, hk7, hF7⟩
         replace hkc := hkc.trans hk7 (fun x hx => Or.inr (hF6w x hx)))
      | (go_at_call 19; refine (need_bad m1 _ (Or.inl hn0)).mono ?_; rintro e w7 ⟨rfl, hw7⟩; obtain rfl := hw7.symm; have hGc := hG.keep0 hkc; have hkc0 := hkc)
      | (go_at_call 8; refine (fresh_ok 10 _ hGc (by omega) (by omega)).mono ?_; rintro e w8 ⟨p8, rp8, d8, v8, F8, rfl, hL8, hn8, hk8, hb8⟩
         replace hkc := hkc.then hk8
         obtain ⟨M, Z, HZ, hmk, hcv⟩ := zeros_make 131073 131073 (by decide) (by omega) (by omega)
         have hL8' := hL8.keep0 ((Keep.refl [] w8).alloc (.cells M 5))
         have hAE := append_err hL8'.on Z (by rw [HZ.out]; omega) (Or.inr (Or.inl (by rw [HZ.out]; omega)))
         rw [HAP.out _ _ _ HZ.out hL8.inv.failed] at hAE
         have HAE := Lib.hid hAE
         clear hAE)
      | (go_at_call 21; with_reducible refine (HAN.out _).mono ?_; rintro e w10 ⟨rfl, hk10⟩; replace hkc := hkc.then hk10)
      | (go_at_call 21; with_reducible refine HAE.out.mono ?_; rintro e w9 ⟨rfl, hp9⟩
         have hk9 : Keep [] w w9 := (hkc.alloc (.cells M 5)).trans (OpPost.keeps hp9) (fun x hx => Or.inr (Nat.le_trans hkc0.size (hn8.frame x hx)))
         replace hkc := hk9)
      | (go_at_call 22; refine (sync_nil _).mono ?_; rintro e w10 ⟨rfl, hk10⟩; replace hkc := hkc.then hk10)
      | (go_at_call 23; refine (trim_nil _ _).mono ?_; rintro e w10 ⟨rfl, hk10⟩; replace hkc := hkc.then hk10)
      | (go_at_call 24; refine (failed_nil _).mono ?_; rintro e w10 ⟨rfl, hw10⟩; obtain rfl := hw10.symm)
      | (go_at_call 14; refine (first_nil _).mono ?_; rintro e w10 ⟨rfl, hw10⟩; obtain rfl := hw10.symm)
      | (go_at_call 10; refine (next_nil _).mono ?_; rintro e w10 ⟨rfl, hw10⟩; obtain rfl := hw10.symm)
      | (go_at_call 25; refine (synced_nil _).mono ?_; rintro e w10 ⟨rfl, hw10⟩; obtain rfl := hw10.symm)
      | (go_at_call 15; refine (free_nil _).mono ?_; rintro e w10 ⟨rfl, hw10⟩; obtain rfl := hw10.symm)
      | (go_at_call 26; refine (generation_nil _).mono ?_; rintro e w10 ⟨rfl, hw10⟩; obtain rfl := hw10.symm)
      )
    go_ret
    exact ⟨rfl, hkc⟩
  · by_cases hn1 : 131072 < m1
    · go_wp2_with (first
        | (go_at_call 13; with_reducible refine (open_nil first count _).mono ?_; rintro e w2 ⟨rfl, hk2⟩; replace hkc := hkc.then hk2)
        | (go_at_call 6; refine (known_ok _ (hG.keep0 hkc)).mono ?_; rintro e w3 ⟨rfl, hk3⟩; replace hkc := hkc.then hk3)
        | (go_at_call 16; with_reducible refine (format_nil first count _).mono ?_; rintro e w4 ⟨rfl, hk4⟩; replace hkc := hkc.then hk4)
        | (go_at_call 17; refine (dev_new 20 _ (hG.keep0 hkc) (by omega) (by omega)).mono ?_; rintro e w5 ⟨p, F1, rfl, hD1, hk5, hF1⟩; have hkc0 := hkc; replace hkc := hkc.then hk5; have hF1w : ∀ x ∈ F1, w.heap.size ≤ x := fun x hx => Nat.le_trans hkc0.size (hF1 x hx))
        | (go_at_call 18; refine (fail_any hD1.disk).mono ?_; rintro e w6 ⟨rfl, hDd, hk6⟩
           replace hkc := hkc.trans hk6 (fun x hx => Or.inr (by rw [List.mem_singleton.1 hx]; exact hF1w _ hDd.memp))
           have hGd : Glob w6 := hG.keep0 hkc)
        | (go_at_call 13; (refine (open_any hGd hDd first count (by show (0 : Int) ≤ 20; omega) (by show (20 : Int) ≤ 8192; omega) hf1 (by show 0 ≤ 50000000; omega) hD1.own).mono ?_; rw [HOP.out]; rintro e w6 hop; simp only [OpenPost] at hop; obtain ⟨rfl, F6, hD6, hk6, hF6⟩ := hop; have hsz := hkc.size)
           replace hkc := hkc.trans hk6 (fun x hx => Or.inr (hF1w x hx))
           have hG6 : Glob w6 := hG.keep0 hkc
           have hF6w : ∀ x ∈ F6, w.heap.size ≤ x := fun x hx => (hF6 x hx).elim (hF1w x) (fun q => Nat.le_trans hsz q))
        | (go_at_call 16; refine (format_ok hG6 hD6 first count (by show (0 : Int) ≤ 20; omega) (by show (20 : Int) ≤ 8192; omega) hf1 (by show 0 ≤ 100000000; omega)).mono ?_; rw [HFM.out]; rintro e w7 ⟨rfl, F7, hD7, hk7, hF7⟩
           replace hkc := hkc.trans hk7 (fun x hx => Or.inr (hF6w x hx)))
        | (go_at_call 19; refine (need_bad m1 _ (Or.inr hn1)).mono ?_; rintro e w7 ⟨rfl, hw7⟩; obtain rfl := hw7.symm; have hGc := hG.keep0 hkc; have hkc0 := hkc)
        | (go_at_call 8; refine (fresh_ok 10 _ hGc (by omega) (by omega)).mono ?_; rintro e w8 ⟨p8, rp8, d8, v8, F8, rfl, hL8, hn8, hk8, hb8⟩
           replace hkc := hkc.then hk8
           obtain ⟨M, Z, HZ, hmk, hcv⟩ := zeros_make 131073 131073 (by decide) (by omega) (by omega)
           have hL8' := hL8.keep0 ((Keep.refl [] w8).alloc (.cells M 5))
           have hAE := append_err hL8'.on Z (by rw [HZ.out]; omega) (Or.inr (Or.inl (by rw [HZ.out]; omega)))
           rw [HAP.out _ _ _ HZ.out hL8.inv.failed] at hAE
           have HAE := Lib.hid hAE
           clear hAE)
        | (go_at_call 21; with_reducible refine (HAN.out _).mono ?_; rintro e w10 ⟨rfl, hk10⟩; replace hkc := hkc.then hk10)
        | (go_at_call 21; with_reducible refine HAE.out.mono ?_; rintro e w9 ⟨rfl, hp9⟩
           have hk9 : Keep [] w w9 := (hkc.alloc (.cells M 5)).trans (OpPost.keeps hp9) (fun x hx => Or.inr (Nat.le_trans hkc0.size (hn8.frame x hx)))
           replace hkc := hk9)
        | (go_at_call 22; refine (sync_nil _).mono ?_; rintro e w10 ⟨rfl, hk10⟩; replace hkc := hkc.then hk10)
        | (go_at_call 23; refine (trim_nil _ _).mono ?_; rintro e w10 ⟨rfl, hk10⟩; replace hkc := hkc.then hk10)
        | (go_at_call 24; refine (failed_nil _).mono ?_; rintro e w10 ⟨rfl, hw10⟩; obtain rfl := hw10.symm)
        | (go_at_call 14; refine (first_nil _).mono ?_; rintro e w10 ⟨rfl, hw10⟩; obtain rfl := hw10.symm)
        | (go_at_call 10; refine (next_nil _).mono ?_; rintro e w10 ⟨rfl, hw10⟩; obtain rfl := hw10.symm)
        | (go_at_call 25; refine (synced_nil _).mono ?_; rintro e w10 ⟨rfl, hw10⟩; obtain rfl := hw10.symm)
        | (go_at_call 15; refine (free_nil _).mono ?_; rintro e w10 ⟨rfl, hw10⟩; obtain rfl := hw10.symm)
        | (go_at_call 26; refine (generation_nil _).mono ?_; rintro e w10 ⟨rfl, hw10⟩; obtain rfl := hw10.symm)
        )
      go_ret
      exact ⟨rfl, hkc⟩
    · obtain ⟨n, rfl⟩ := Int.eq_ofNat_of_zero_le (show 0 ≤ m1 by omega)
      have hn2 : n ≤ 131072 := by omega
      obtain ⟨nb, hnb⟩ : ∃ nb, blocksN (26 + n + 16) = nb := ⟨_, rfl⟩
      have HNB := Lib.hid hnb
      clear hnb
      go_wp2_with (first
        | (go_at_call 13; with_reducible refine (open_nil first count _).mono ?_; rintro e w2 ⟨rfl, hk2⟩; replace hkc := hkc.then hk2)
        | (go_at_call 6; refine (known_ok _ (hG.keep0 hkc)).mono ?_; rintro e w3 ⟨rfl, hk3⟩; replace hkc := hkc.then hk3)
        | (go_at_call 16; with_reducible refine (format_nil first count _).mono ?_; rintro e w4 ⟨rfl, hk4⟩; replace hkc := hkc.then hk4)
        | (go_at_call 17; refine (dev_new 20 _ (hG.keep0 hkc) (by omega) (by omega)).mono ?_; rintro e w5 ⟨p, F1, rfl, hD1, hk5, hF1⟩; have hkc0 := hkc; replace hkc := hkc.then hk5; have hF1w : ∀ x ∈ F1, w.heap.size ≤ x := fun x hx => Nat.le_trans hkc0.size (hF1 x hx))
        | (go_at_call 18; refine (fail_any hD1.disk).mono ?_; rintro e w6 ⟨rfl, hDd, hk6⟩
           replace hkc := hkc.trans hk6 (fun x hx => Or.inr (by rw [List.mem_singleton.1 hx]; exact hF1w _ hDd.memp))
           have hGd : Glob w6 := hG.keep0 hkc)
        | (go_at_call 13; (refine (open_any hGd hDd first count (by show (0 : Int) ≤ 20; omega) (by show (20 : Int) ≤ 8192; omega) hf1 (by show 0 ≤ 50000000; omega) hD1.own).mono ?_; rw [HOP.out]; rintro e w6 hop; simp only [OpenPost] at hop; obtain ⟨rfl, F6, hD6, hk6, hF6⟩ := hop; have hsz := hkc.size)
           replace hkc := hkc.trans hk6 (fun x hx => Or.inr (hF1w x hx))
           have hG6 : Glob w6 := hG.keep0 hkc
           have hF6w : ∀ x ∈ F6, w.heap.size ≤ x := fun x hx => (hF6 x hx).elim (hF1w x) (fun q => Nat.le_trans hsz q))
        | (go_at_call 16; refine (format_ok hG6 hD6 first count (by show (0 : Int) ≤ 20; omega) (by show (20 : Int) ≤ 8192; omega) hf1 (by show 0 ≤ 100000000; omega)).mono ?_; rw [HFM.out]; rintro e w7 ⟨rfl, F7, hD7, hk7, hF7⟩
           replace hkc := hkc.trans hk7 (fun x hx => Or.inr (hF6w x hx)))
        | (go_at_call 19; refine (need_ok n _ hn2).mono ?_; rw [HNB.out]; rintro e w7 ⟨rfl, hw7⟩; obtain rfl := hw7.symm; have hGc := hG.keep0 hkc; have hkc0 := hkc)
        | (go_at_call 20; refine (refNeed_ok n _ (by omega) (by omega)).mono ?_; rw [Int.toNat_natCast, HNB.out]; rintro e w7 ⟨rfl, hw7⟩; obtain rfl := hw7.symm)
        | (go_at_call 8; refine (fresh_ok 10 _ hGc (by omega) (by omega)).mono ?_; rintro e w8 ⟨p8, rp8, d8, v8, F8, rfl, hL8, hn8, hk8, hb8⟩
           replace hkc := hkc.then hk8
           obtain ⟨M, Z, HZ, hmk, hcv⟩ := zeros_make 131073 131073 (by decide) (by omega) (by omega)
           have hL8' := hL8.keep0 ((Keep.refl [] w8).alloc (.cells M 5))
           have hAE := append_err hL8'.on Z (by rw [HZ.out]; omega) (Or.inr (Or.inl (by rw [HZ.out]; omega)))
           rw [HAP.out _ _ _ HZ.out hL8.inv.failed] at hAE
           have HAE := Lib.hid hAE
           clear hAE)
        | (go_at_call 21; with_reducible refine (HAN.out _).mono ?_; rintro e w10 ⟨rfl, hk10⟩; replace hkc := hkc.then hk10)
        | (go_at_call 21; with_reducible refine HAE.out.mono ?_; rintro e w9 ⟨rfl, hp9⟩
           have hk9 : Keep [] w w9 := (hkc.alloc (.cells M 5)).trans (OpPost.keeps hp9) (fun x hx => Or.inr (Nat.le_trans hkc0.size (hn8.frame x hx)))
           replace hkc := hk9)
        | (go_at_call 22; refine (sync_nil _).mono ?_; rintro e w10 ⟨rfl, hk10⟩; replace hkc := hkc.then hk10)
        | (go_at_call 23; refine (trim_nil _ _).mono ?_; rintro e w10 ⟨rfl, hk10⟩; replace hkc := hkc.then hk10)
        | (go_at_call 24; refine (failed_nil _).mono ?_; rintro e w10 ⟨rfl, hw10⟩; obtain rfl := hw10.symm)
        | (go_at_call 14; refine (first_nil _).mono ?_; rintro e w10 ⟨rfl, hw10⟩; obtain rfl := hw10.symm)
        | (go_at_call 10; refine (next_nil _).mono ?_; rintro e w10 ⟨rfl, hw10⟩; obtain rfl := hw10.symm)
        | (go_at_call 25; refine (synced_nil _).mono ?_; rintro e w10 ⟨rfl, hw10⟩; obtain rfl := hw10.symm)
        | (go_at_call 15; refine (free_nil _).mono ?_; rintro e w10 ⟨rfl, hw10⟩; obtain rfl := hw10.symm)
        | (go_at_call 26; refine (generation_nil _).mono ?_; rintro e w10 ⟨rfl, hw10⟩; obtain rfl := hw10.symm)
        )
      go_ret
      exact ⟨rfl, hkc⟩
set_option maxRecDepth 100000 in
set_option maxHeartbeats 8000000 in
theorem errors_c1 (first count m0 m1 : Int) (w : World) (hG : Glob w) (hf1 : first ≤ 9223372036854775807) (hc1 : count ≤ 9223372036854775807) (HDN : Hid ((m0.tmod 2 != 0) = true)) (h1 : 0 ≤ first) (h2 : 4 ≤ count) (h3 : 20 - count < first) :
    Calls Tryd.prog 4 #[.int .i64 first, .int .i64 count, .agg #[.int .i64 m0, .int .i64 m1]] w fun e w' => e = .returned (.bool true) ∧ Keep [] w w' := by
  have he : areaErr { newD 20 with down := true } first count = 2 := by
    unfold areaErr
    rw [if_pos (Or.inr (Or.inr (by show count > 20 - first; omega)))]
  have HOP : Hid (∀ p, openF { newD 20 with down := true } p first count = (2, { newD 20 with down := true }, none)) := Lib.hid (fun p => by have h := open_empty true p first count; rw [show areaErr { newD 20 with down := true } first count = 2 from he] at h; exact h)
  have HFM : Hid (∀ p, (formatF { newD 20 with down := true } p first count).1 = 2) := Lib.hid (fun p => by rw [format_err (p := p) (by rw [he]; decide), he])
  clear he
  have HAP : Hid (∀ d r (Z : List UInt8), Z.length = 131073 → r.failed = 0 → appendF d r Z = ((0, 5), d, r)) := Lib.hid (fun d r Z hZ h => by unfold appendF; rw [if_neg (by simpa using h), if_pos (by rw [hZ]; omega)])
  have HAN : Hid (∀ w : World, Calls Tryd.prog 21 #[.pointer none, .string ⟨#[120]⟩] w fun e w' => e = .returned (.tuple #[.int .i64 0, .int .i64 1]) ∧ Keep [] w w') := Lib.hid (fun w => append_nil [120] w)
  go_enter Tryd.func4, Tryd.ntmps4
  go_wp2
  obtain ⟨W0, hW0⟩ : ∃ W0, W0 = w.alloc (.cells #[.int .i64 m0, .int .i64 m1] 45) := ⟨_, rfl⟩
  rw [← hW0]
  have hkW : Keep [] w W0 := by rw [hW0]; exact (Keep.refl _ _).alloc _
  have rB : W0.heap[w.heap.size]? = some (.cells #[.int .i64 m0, .int .i64 m1] 45 (0, 0)) := by rw [hW0]; exact heap_alloc_new w _
  clear hW0
  (refine wp_region_inv (Keep []) [fun v _ => v = .pointer (some ⟨w.heap.size, 0, none⟩), fun v _ => v = .int .i64 m0, fun v _ => v = .int .i64 (m0.tmod 2), fun v _ => v = .bool true, fun v _ => v = .pointer (some ⟨w.heap.size, 1, none⟩), fun v _ => v = .int .i64 m1, fun v _ => v = .bool true, fun v _ => v = .int .i64 m1] (by kernel_rfl) (by kernel_rfl) (by kernel_rfl) (fun _ _ _ h k => h.then k) (Keep.refl _) ?stab3 ?main3; (case' main3 => (simp only [List.length_cons, List.length_nil, Nat.zero_add, Nat.reduceAdd, AllVals]; intro z0 z1 z2 z3 z4 z5 z6 z7; simp only [putAll, Act.put, List.setIfInBounds_toArray, List.set_cons_zero, List.set_cons_succ, StepsAt]; refine ⟨?steps3, ?after3⟩)); (case' steps3 => (repeat' apply And.intro)); (case' stab3 => (simp only [Stable])))
  case stab3 => exact ⟨fun _ _ _ _ h => h, fun _ _ _ _ h => h, fun _ _ _ _ h => h, fun _ _ _ _ h => h, fun _ _ _ _ h => h, fun _ _ _ _ h => h, fun _ _ _ _ h => h, fun _ _ _ _ h => h, trivial⟩
  all_goals try (first | trivial | exact True.intro)
  · (intro wq K hR hP hK; simp only [Pre, Region.binds, List.getD_cons_zero, List.getD_cons_succ, true_imp_iff, forall_const, and_true, true_and] at hP; simp only [Act.put, List.setIfInBounds_toArray, List.set_cons_zero, List.set_cons_succ] at hK)
    go_wp2
    exact hK _ _ (Keep.refl _ _) rfl
  · (intro wq K hR hP hK; simp only [Pre, Region.binds, List.getD_cons_zero, List.getD_cons_succ, true_imp_iff, forall_const, and_true, true_and] at hP; simp only [Act.put, List.setIfInBounds_toArray, List.set_cons_zero, List.set_cons_succ] at hK)
    first | subst hP | (obtain ⟨rfl, -⟩ := hP)
    have cq : wq.cell? ⟨w.heap.size, 0, none⟩ = some (.int .i64 m0) := (cell_row' (j := 0) (hR.drew'.get rB (by simp))).trans rfl
    go_wp2
    exact hK _ _ (Keep.refl _ _) rfl
  · (intro wq K hR hP hK; simp only [Pre, Region.binds, List.getD_cons_zero, List.getD_cons_succ, true_imp_iff, forall_const, and_true, true_and] at hP; simp only [Act.put, List.setIfInBounds_toArray, List.set_cons_zero, List.set_cons_succ] at hK)
    first | subst hP | (obtain ⟨rfl, -⟩ := hP)
    go_wp2
    exact hK _ _ (Keep.refl _ _) rfl
  · (intro wq K hR hP hK; simp only [Pre, Region.binds, List.getD_cons_zero, List.getD_cons_succ, true_imp_iff, forall_const, and_true, true_and] at hP; simp only [Act.put, List.setIfInBounds_toArray, List.set_cons_zero, List.set_cons_succ] at hK)
    first | subst hP | (obtain ⟨rfl, -⟩ := hP)
    have hdn := HDN.out
    go_wp2
    exact hK _ _ (Keep.refl _ _) rfl
  · (intro wq K hR hP hK; simp only [Pre, Region.binds, List.getD_cons_zero, List.getD_cons_succ, true_imp_iff, forall_const, and_true, true_and] at hP; simp only [Act.put, List.setIfInBounds_toArray, List.set_cons_zero, List.set_cons_succ] at hK)
    go_wp2
    exact hK _ _ (Keep.refl _ _) rfl
  · (intro wq K hR hP hK; simp only [Pre, Region.binds, List.getD_cons_zero, List.getD_cons_succ, true_imp_iff, forall_const, and_true, true_and] at hP; simp only [Act.put, List.setIfInBounds_toArray, List.set_cons_zero, List.set_cons_succ] at hK)
    first | subst hP | (obtain ⟨rfl, -⟩ := hP)
    have cq : wq.cell? ⟨w.heap.size, 1, none⟩ = some (.int .i64 m1) := (cell_row' (j := 1) (hR.drew'.get rB (by simp))).trans rfl
    go_wp2
    exact hK _ _ (Keep.refl _ _) rfl
  · (intro wq K hR hP hK; simp only [Pre, Region.binds, List.getD_cons_zero, List.getD_cons_succ, true_imp_iff, forall_const, and_true, true_and] at hP; simp only [Act.put, List.setIfInBounds_toArray, List.set_cons_zero, List.set_cons_succ] at hK)
    first | subst hP | (obtain ⟨rfl, -⟩ := hP)
    go_wp2
    exact hK _ _ (Keep.refl _ _) rfl
  · (intro wq K hR hP hK; simp only [Pre, Region.binds, List.getD_cons_zero, List.getD_cons_succ, true_imp_iff, forall_const, and_true, true_and] at hP; simp only [Act.put, List.setIfInBounds_toArray, List.set_cons_zero, List.set_cons_succ] at hK)
    first | subst hP | (obtain ⟨rfl, -⟩ := hP)
    go_wp2
    exact hK _ _ (Keep.refl _ _) rfl
  (intro w1 hk1 hz; simp only [AllAt] at hz)
  obtain ⟨-, -, -, -, -, -, hz6, hz7, -⟩ := hz
  subst hz6 hz7
  have hkc : Keep [] w w1 := hkW.then hk1.drew'
  clear rB hkW hk1
  by_cases hn0 : m1 < 0
  · go_wp2_with (first
      | (go_at_call 13; with_reducible refine (open_nil first count _).mono ?_; rintro e w2 ⟨rfl, hk2⟩; replace hkc := hkc.then hk2)
      | (go_at_call 6; refine (known_ok _ (hG.keep0 hkc)).mono ?_; rintro e w3 ⟨rfl, hk3⟩; replace hkc := hkc.then hk3)
      | (go_at_call 16; with_reducible refine (format_nil first count _).mono ?_; rintro e w4 ⟨rfl, hk4⟩; replace hkc := hkc.then hk4)
      | (go_at_call 17; refine (dev_new 20 _ (hG.keep0 hkc) (by omega) (by omega)).mono ?_; rintro e w5 ⟨p, F1, rfl, hD1, hk5, hF1⟩; have hkc0 := hkc; replace hkc := hkc.then hk5; have hF1w : ∀ x ∈ F1, w.heap.size ≤ x := fun x hx => Nat.le_trans hkc0.size (hF1 x hx))
      | (go_at_call 18; refine (fail_any hD1.disk).mono ?_; rintro e w6 ⟨rfl, hDd, hk6⟩
         replace hkc := hkc.trans hk6 (fun x hx => Or.inr (by rw [List.mem_singleton.1 hx]; exact hF1w _ hDd.memp))
         have hGd : Glob w6 := hG.keep0 hkc)
      | (go_at_call 13; (refine (open_any hGd hDd first count (by show (0 : Int) ≤ 20; omega) (by show (20 : Int) ≤ 8192; omega) hf1 (by show 0 ≤ 50000000; omega) hD1.own).mono ?_; rw [HOP.out]; rintro e w6 hop; simp only [OpenPost] at hop; obtain ⟨rfl, F6, hD6, hk6, hF6⟩ := hop; have hsz := hkc.size)
         replace hkc := hkc.trans hk6 (fun x hx => Or.inr (hF1w x hx))
         have hG6 : Glob w6 := hG.keep0 hkc
         have hF6w : ∀ x ∈ F6, w.heap.size ≤ x := fun x hx => (hF6 x hx).elim (hF1w x) (fun q => Nat.le_trans hsz q))
      | (go_at_call 16; refine (format_ok hG6 hD6 first count (by show (0 : Int) ≤ 20; omega) (by show (20 : Int) ≤ 8192; omega) hf1 (by show 0 ≤ 100000000; omega)).mono ?_; rw [HFM.out]; rintro e w7 ⟨rfl, F7, hD7, hk7, hF7⟩
         replace hkc := hkc.trans hk7 (fun x hx => Or.inr (hF6w x hx)))
      | (go_at_call 19; refine (need_bad m1 _ (Or.inl hn0)).mono ?_; rintro e w7 ⟨rfl, hw7⟩; obtain rfl := hw7.symm; have hGc := hG.keep0 hkc; have hkc0 := hkc)
      | (go_at_call 8; refine (fresh_ok 10 _ hGc (by omega) (by omega)).mono ?_; rintro e w8 ⟨p8, rp8, d8, v8, F8, rfl, hL8, hn8, hk8, hb8⟩
         replace hkc := hkc.then hk8
         obtain ⟨M, Z, HZ, hmk, hcv⟩ := zeros_make 131073 131073 (by decide) (by omega) (by omega)
         have hL8' := hL8.keep0 ((Keep.refl [] w8).alloc (.cells M 5))
         have hAE := append_err hL8'.on Z (by rw [HZ.out]; omega) (Or.inr (Or.inl (by rw [HZ.out]; omega)))
         rw [HAP.out _ _ _ HZ.out hL8.inv.failed] at hAE
         have HAE := Lib.hid hAE
         clear hAE)
      | (go_at_call 21; with_reducible refine (HAN.out _).mono ?_; rintro e w10 ⟨rfl, hk10⟩; replace hkc := hkc.then hk10)
      | (go_at_call 21; with_reducible refine HAE.out.mono ?_; rintro e w9 ⟨rfl, hp9⟩
         have hk9 : Keep [] w w9 := (hkc.alloc (.cells M 5)).trans (OpPost.keeps hp9) (fun x hx => Or.inr (Nat.le_trans hkc0.size (hn8.frame x hx)))
         replace hkc := hk9)
      | (go_at_call 22; refine (sync_nil _).mono ?_; rintro e w10 ⟨rfl, hk10⟩; replace hkc := hkc.then hk10)
      | (go_at_call 23; refine (trim_nil _ _).mono ?_; rintro e w10 ⟨rfl, hk10⟩; replace hkc := hkc.then hk10)
      | (go_at_call 24; refine (failed_nil _).mono ?_; rintro e w10 ⟨rfl, hw10⟩; obtain rfl := hw10.symm)
      | (go_at_call 14; refine (first_nil _).mono ?_; rintro e w10 ⟨rfl, hw10⟩; obtain rfl := hw10.symm)
      | (go_at_call 10; refine (next_nil _).mono ?_; rintro e w10 ⟨rfl, hw10⟩; obtain rfl := hw10.symm)
      | (go_at_call 25; refine (synced_nil _).mono ?_; rintro e w10 ⟨rfl, hw10⟩; obtain rfl := hw10.symm)
      | (go_at_call 15; refine (free_nil _).mono ?_; rintro e w10 ⟨rfl, hw10⟩; obtain rfl := hw10.symm)
      | (go_at_call 26; refine (generation_nil _).mono ?_; rintro e w10 ⟨rfl, hw10⟩; obtain rfl := hw10.symm)
      )
    go_ret
    exact ⟨rfl, hkc⟩
  · by_cases hn1 : 131072 < m1
    · go_wp2_with (first
        | (go_at_call 13; with_reducible refine (open_nil first count _).mono ?_; rintro e w2 ⟨rfl, hk2⟩; replace hkc := hkc.then hk2)
        | (go_at_call 6; refine (known_ok _ (hG.keep0 hkc)).mono ?_; rintro e w3 ⟨rfl, hk3⟩; replace hkc := hkc.then hk3)
        | (go_at_call 16; with_reducible refine (format_nil first count _).mono ?_; rintro e w4 ⟨rfl, hk4⟩; replace hkc := hkc.then hk4)
        | (go_at_call 17; refine (dev_new 20 _ (hG.keep0 hkc) (by omega) (by omega)).mono ?_; rintro e w5 ⟨p, F1, rfl, hD1, hk5, hF1⟩; have hkc0 := hkc; replace hkc := hkc.then hk5; have hF1w : ∀ x ∈ F1, w.heap.size ≤ x := fun x hx => Nat.le_trans hkc0.size (hF1 x hx))
        | (go_at_call 18; refine (fail_any hD1.disk).mono ?_; rintro e w6 ⟨rfl, hDd, hk6⟩
           replace hkc := hkc.trans hk6 (fun x hx => Or.inr (by rw [List.mem_singleton.1 hx]; exact hF1w _ hDd.memp))
           have hGd : Glob w6 := hG.keep0 hkc)
        | (go_at_call 13; (refine (open_any hGd hDd first count (by show (0 : Int) ≤ 20; omega) (by show (20 : Int) ≤ 8192; omega) hf1 (by show 0 ≤ 50000000; omega) hD1.own).mono ?_; rw [HOP.out]; rintro e w6 hop; simp only [OpenPost] at hop; obtain ⟨rfl, F6, hD6, hk6, hF6⟩ := hop; have hsz := hkc.size)
           replace hkc := hkc.trans hk6 (fun x hx => Or.inr (hF1w x hx))
           have hG6 : Glob w6 := hG.keep0 hkc
           have hF6w : ∀ x ∈ F6, w.heap.size ≤ x := fun x hx => (hF6 x hx).elim (hF1w x) (fun q => Nat.le_trans hsz q))
        | (go_at_call 16; refine (format_ok hG6 hD6 first count (by show (0 : Int) ≤ 20; omega) (by show (20 : Int) ≤ 8192; omega) hf1 (by show 0 ≤ 100000000; omega)).mono ?_; rw [HFM.out]; rintro e w7 ⟨rfl, F7, hD7, hk7, hF7⟩
           replace hkc := hkc.trans hk7 (fun x hx => Or.inr (hF6w x hx)))
        | (go_at_call 19; refine (need_bad m1 _ (Or.inr hn1)).mono ?_; rintro e w7 ⟨rfl, hw7⟩; obtain rfl := hw7.symm; have hGc := hG.keep0 hkc; have hkc0 := hkc)
        | (go_at_call 8; refine (fresh_ok 10 _ hGc (by omega) (by omega)).mono ?_; rintro e w8 ⟨p8, rp8, d8, v8, F8, rfl, hL8, hn8, hk8, hb8⟩
           replace hkc := hkc.then hk8
           obtain ⟨M, Z, HZ, hmk, hcv⟩ := zeros_make 131073 131073 (by decide) (by omega) (by omega)
           have hL8' := hL8.keep0 ((Keep.refl [] w8).alloc (.cells M 5))
           have hAE := append_err hL8'.on Z (by rw [HZ.out]; omega) (Or.inr (Or.inl (by rw [HZ.out]; omega)))
           rw [HAP.out _ _ _ HZ.out hL8.inv.failed] at hAE
           have HAE := Lib.hid hAE
           clear hAE)
        | (go_at_call 21; with_reducible refine (HAN.out _).mono ?_; rintro e w10 ⟨rfl, hk10⟩; replace hkc := hkc.then hk10)
        | (go_at_call 21; with_reducible refine HAE.out.mono ?_; rintro e w9 ⟨rfl, hp9⟩
           have hk9 : Keep [] w w9 := (hkc.alloc (.cells M 5)).trans (OpPost.keeps hp9) (fun x hx => Or.inr (Nat.le_trans hkc0.size (hn8.frame x hx)))
           replace hkc := hk9)
        | (go_at_call 22; refine (sync_nil _).mono ?_; rintro e w10 ⟨rfl, hk10⟩; replace hkc := hkc.then hk10)
        | (go_at_call 23; refine (trim_nil _ _).mono ?_; rintro e w10 ⟨rfl, hk10⟩; replace hkc := hkc.then hk10)
        | (go_at_call 24; refine (failed_nil _).mono ?_; rintro e w10 ⟨rfl, hw10⟩; obtain rfl := hw10.symm)
        | (go_at_call 14; refine (first_nil _).mono ?_; rintro e w10 ⟨rfl, hw10⟩; obtain rfl := hw10.symm)
        | (go_at_call 10; refine (next_nil _).mono ?_; rintro e w10 ⟨rfl, hw10⟩; obtain rfl := hw10.symm)
        | (go_at_call 25; refine (synced_nil _).mono ?_; rintro e w10 ⟨rfl, hw10⟩; obtain rfl := hw10.symm)
        | (go_at_call 15; refine (free_nil _).mono ?_; rintro e w10 ⟨rfl, hw10⟩; obtain rfl := hw10.symm)
        | (go_at_call 26; refine (generation_nil _).mono ?_; rintro e w10 ⟨rfl, hw10⟩; obtain rfl := hw10.symm)
        )
      go_ret
      exact ⟨rfl, hkc⟩
    · obtain ⟨n, rfl⟩ := Int.eq_ofNat_of_zero_le (show 0 ≤ m1 by omega)
      have hn2 : n ≤ 131072 := by omega
      obtain ⟨nb, hnb⟩ : ∃ nb, blocksN (26 + n + 16) = nb := ⟨_, rfl⟩
      have HNB := Lib.hid hnb
      clear hnb
      go_wp2_with (first
        | (go_at_call 13; with_reducible refine (open_nil first count _).mono ?_; rintro e w2 ⟨rfl, hk2⟩; replace hkc := hkc.then hk2)
        | (go_at_call 6; refine (known_ok _ (hG.keep0 hkc)).mono ?_; rintro e w3 ⟨rfl, hk3⟩; replace hkc := hkc.then hk3)
        | (go_at_call 16; with_reducible refine (format_nil first count _).mono ?_; rintro e w4 ⟨rfl, hk4⟩; replace hkc := hkc.then hk4)
        | (go_at_call 17; refine (dev_new 20 _ (hG.keep0 hkc) (by omega) (by omega)).mono ?_; rintro e w5 ⟨p, F1, rfl, hD1, hk5, hF1⟩; have hkc0 := hkc; replace hkc := hkc.then hk5; have hF1w : ∀ x ∈ F1, w.heap.size ≤ x := fun x hx => Nat.le_trans hkc0.size (hF1 x hx))
        | (go_at_call 18; refine (fail_any hD1.disk).mono ?_; rintro e w6 ⟨rfl, hDd, hk6⟩
           replace hkc := hkc.trans hk6 (fun x hx => Or.inr (by rw [List.mem_singleton.1 hx]; exact hF1w _ hDd.memp))
           have hGd : Glob w6 := hG.keep0 hkc)
        | (go_at_call 13; (refine (open_any hGd hDd first count (by show (0 : Int) ≤ 20; omega) (by show (20 : Int) ≤ 8192; omega) hf1 (by show 0 ≤ 50000000; omega) hD1.own).mono ?_; rw [HOP.out]; rintro e w6 hop; simp only [OpenPost] at hop; obtain ⟨rfl, F6, hD6, hk6, hF6⟩ := hop; have hsz := hkc.size)
           replace hkc := hkc.trans hk6 (fun x hx => Or.inr (hF1w x hx))
           have hG6 : Glob w6 := hG.keep0 hkc
           have hF6w : ∀ x ∈ F6, w.heap.size ≤ x := fun x hx => (hF6 x hx).elim (hF1w x) (fun q => Nat.le_trans hsz q))
        | (go_at_call 16; refine (format_ok hG6 hD6 first count (by show (0 : Int) ≤ 20; omega) (by show (20 : Int) ≤ 8192; omega) hf1 (by show 0 ≤ 100000000; omega)).mono ?_; rw [HFM.out]; rintro e w7 ⟨rfl, F7, hD7, hk7, hF7⟩
           replace hkc := hkc.trans hk7 (fun x hx => Or.inr (hF6w x hx)))
        | (go_at_call 19; refine (need_ok n _ hn2).mono ?_; rw [HNB.out]; rintro e w7 ⟨rfl, hw7⟩; obtain rfl := hw7.symm; have hGc := hG.keep0 hkc; have hkc0 := hkc)
        | (go_at_call 20; refine (refNeed_ok n _ (by omega) (by omega)).mono ?_; rw [Int.toNat_natCast, HNB.out]; rintro e w7 ⟨rfl, hw7⟩; obtain rfl := hw7.symm)
        | (go_at_call 8; refine (fresh_ok 10 _ hGc (by omega) (by omega)).mono ?_; rintro e w8 ⟨p8, rp8, d8, v8, F8, rfl, hL8, hn8, hk8, hb8⟩
           replace hkc := hkc.then hk8
           obtain ⟨M, Z, HZ, hmk, hcv⟩ := zeros_make 131073 131073 (by decide) (by omega) (by omega)
           have hL8' := hL8.keep0 ((Keep.refl [] w8).alloc (.cells M 5))
           have hAE := append_err hL8'.on Z (by rw [HZ.out]; omega) (Or.inr (Or.inl (by rw [HZ.out]; omega)))
           rw [HAP.out _ _ _ HZ.out hL8.inv.failed] at hAE
           have HAE := Lib.hid hAE
           clear hAE)
        | (go_at_call 21; with_reducible refine (HAN.out _).mono ?_; rintro e w10 ⟨rfl, hk10⟩; replace hkc := hkc.then hk10)
        | (go_at_call 21; with_reducible refine HAE.out.mono ?_; rintro e w9 ⟨rfl, hp9⟩
           have hk9 : Keep [] w w9 := (hkc.alloc (.cells M 5)).trans (OpPost.keeps hp9) (fun x hx => Or.inr (Nat.le_trans hkc0.size (hn8.frame x hx)))
           replace hkc := hk9)
        | (go_at_call 22; refine (sync_nil _).mono ?_; rintro e w10 ⟨rfl, hk10⟩; replace hkc := hkc.then hk10)
        | (go_at_call 23; refine (trim_nil _ _).mono ?_; rintro e w10 ⟨rfl, hk10⟩; replace hkc := hkc.then hk10)
        | (go_at_call 24; refine (failed_nil _).mono ?_; rintro e w10 ⟨rfl, hw10⟩; obtain rfl := hw10.symm)
        | (go_at_call 14; refine (first_nil _).mono ?_; rintro e w10 ⟨rfl, hw10⟩; obtain rfl := hw10.symm)
        | (go_at_call 10; refine (next_nil _).mono ?_; rintro e w10 ⟨rfl, hw10⟩; obtain rfl := hw10.symm)
        | (go_at_call 25; refine (synced_nil _).mono ?_; rintro e w10 ⟨rfl, hw10⟩; obtain rfl := hw10.symm)
        | (go_at_call 15; refine (free_nil _).mono ?_; rintro e w10 ⟨rfl, hw10⟩; obtain rfl := hw10.symm)
        | (go_at_call 26; refine (generation_nil _).mono ?_; rintro e w10 ⟨rfl, hw10⟩; obtain rfl := hw10.symm)
        )
      go_ret
      exact ⟨rfl, hkc⟩
set_option maxRecDepth 100000 in
set_option maxHeartbeats 8000000 in
theorem errors_d1 (first count m0 m1 : Int) (w : World) (hG : Glob w) (hf1 : first ≤ 9223372036854775807) (hc1 : count ≤ 9223372036854775807) (HDN : Hid ((m0.tmod 2 != 0) = true)) (h1 : 0 ≤ first) (h2 : 4 ≤ count) (h3 : first ≤ 20 - count) :
    Calls Tryd.prog 4 #[.int .i64 first, .int .i64 count, .agg #[.int .i64 m0, .int .i64 m1]] w fun e w' => e = .returned (.bool true) ∧ Keep [] w w' := by
  have he : areaErr { newD 20 with down := true } first count = 29 := by
    unfold areaErr
    rw [if_neg (by show ¬ (first < 0 ∨ count < 4 ∨ count > 20 - first); omega), if_pos rfl]
  have HOP : Hid (∀ p, openF { newD 20 with down := true } p first count = (29, { newD 20 with down := true }, none)) := Lib.hid (fun p => by have h := open_empty true p first count; rw [show areaErr { newD 20 with down := true } first count = 29 from he] at h; exact h)
  have HFM : Hid (∀ p, (formatF { newD 20 with down := true } p first count).1 = 29) := Lib.hid (fun p => by rw [format_err (p := p) (by rw [he]; decide), he])
  clear he
  have HAP : Hid (∀ d r (Z : List UInt8), Z.length = 131073 → r.failed = 0 → appendF d r Z = ((0, 5), d, r)) := Lib.hid (fun d r Z hZ h => by unfold appendF; rw [if_neg (by simpa using h), if_pos (by rw [hZ]; omega)])
  have HAN : Hid (∀ w : World, Calls Tryd.prog 21 #[.pointer none, .string ⟨#[120]⟩] w fun e w' => e = .returned (.tuple #[.int .i64 0, .int .i64 1]) ∧ Keep [] w w') := Lib.hid (fun w => append_nil [120] w)
  go_enter Tryd.func4, Tryd.ntmps4
  go_wp2
  obtain ⟨W0, hW0⟩ : ∃ W0, W0 = w.alloc (.cells #[.int .i64 m0, .int .i64 m1] 45) := ⟨_, rfl⟩
  rw [← hW0]
  have hkW : Keep [] w W0 := by rw [hW0]; exact (Keep.refl _ _).alloc _
  have rB : W0.heap[w.heap.size]? = some (.cells #[.int .i64 m0, .int .i64 m1] 45 (0, 0)) := by rw [hW0]; exact heap_alloc_new w _
  clear hW0
  (refine wp_region_inv (Keep []) [fun v _ => v = .pointer (some ⟨w.heap.size, 0, none⟩), fun v _ => v = .int .i64 m0, fun v _ => v = .int .i64 (m0.tmod 2), fun v _ => v = .bool true, fun v _ => v = .pointer (some ⟨w.heap.size, 1, none⟩), fun v _ => v = .int .i64 m1, fun v _ => v = .bool true, fun v _ => v = .int .i64 m1] (by kernel_rfl) (by kernel_rfl) (by kernel_rfl) (fun _ _ _ h k => h.then k) (Keep.refl _) ?stab4 ?main4; (case' main4 => (simp only [List.length_cons, List.length_nil, Nat.zero_add, Nat.reduceAdd, AllVals]; intro z0 z1 z2 z3 z4 z5 z6 z7; simp only [putAll, Act.put, List.setIfInBounds_toArray, List.set_cons_zero, List.set_cons_succ, StepsAt]; refine ⟨?steps4, ?after4⟩)); (case' steps4 => (repeat' apply And.intro)); (case' stab4 => (simp only [Stable])))
  case stab4 => exact ⟨fun _ _ _ _ h => h, fun _ _ _ _ h => h, fun _ _ _ _ h => h, fun _ _ _ _ h => h, fun _ _ _ _ h => h, fun _ _ _ _ h => h, fun _ _ _ _ h => h, fun _ _ _ _ h => h, trivial⟩
  all_goals try (first | trivial | exact True.intro)
  · (intro wq K hR hP hK; simp only [Pre, Region.binds, List.getD_cons_zero, List.getD_cons_succ, true_imp_iff, forall_const, and_true, true_and] at hP; simp only [Act.put, List.setIfInBounds_toArray, List.set_cons_zero, List.set_cons_succ] at hK)
    go_wp2
    exact hK _ _ (Keep.refl _ _) rfl
  · (intro wq K hR hP hK; simp only [Pre, Region.binds, List.getD_cons_zero, List.getD_cons_succ, true_imp_iff, forall_const, and_true, true_and] at hP; simp only [Act.put, List.setIfInBounds_toArray, List.set_cons_zero, List.set_cons_succ] at hK)
    first | subst hP | (obtain ⟨rfl, -⟩ := hP)
    have cq : wq.cell? ⟨w.heap.size, 0, none⟩ = some (.int .i64 m0) := (cell_row' (j := 0) (hR.drew'.get rB (by simp))).trans rfl
    go_wp2
    exact hK _ _ (Keep.refl _ _) rfl
  · (intro wq K hR hP hK; simp only [Pre, Region.binds, List.getD_cons_zero, List.getD_cons_succ, true_imp_iff, forall_const, and_true, true_and] at hP; simp only [Act.put, List.setIfInBounds_toArray, List.set_cons_zero, List.set_cons_succ] at hK)
    first | subst hP | (obtain ⟨rfl, -⟩ := hP)
    go_wp2
    exact hK _ _ (Keep.refl _ _) rfl
  · (intro wq K hR hP hK; simp only [Pre, Region.binds, List.getD_cons_zero, List.getD_cons_succ, true_imp_iff, forall_const, and_true, true_and] at hP; simp only [Act.put, List.setIfInBounds_toArray, List.set_cons_zero, List.set_cons_succ] at hK)
    first | subst hP | (obtain ⟨rfl, -⟩ := hP)
    have hdn := HDN.out
    go_wp2
    exact hK _ _ (Keep.refl _ _) rfl
  · (intro wq K hR hP hK; simp only [Pre, Region.binds, List.getD_cons_zero, List.getD_cons_succ, true_imp_iff, forall_const, and_true, true_and] at hP; simp only [Act.put, List.setIfInBounds_toArray, List.set_cons_zero, List.set_cons_succ] at hK)
    go_wp2
    exact hK _ _ (Keep.refl _ _) rfl
  · (intro wq K hR hP hK; simp only [Pre, Region.binds, List.getD_cons_zero, List.getD_cons_succ, true_imp_iff, forall_const, and_true, true_and] at hP; simp only [Act.put, List.setIfInBounds_toArray, List.set_cons_zero, List.set_cons_succ] at hK)
    first | subst hP | (obtain ⟨rfl, -⟩ := hP)
    have cq : wq.cell? ⟨w.heap.size, 1, none⟩ = some (.int .i64 m1) := (cell_row' (j := 1) (hR.drew'.get rB (by simp))).trans rfl
    go_wp2
    exact hK _ _ (Keep.refl _ _) rfl
  · (intro wq K hR hP hK; simp only [Pre, Region.binds, List.getD_cons_zero, List.getD_cons_succ, true_imp_iff, forall_const, and_true, true_and] at hP; simp only [Act.put, List.setIfInBounds_toArray, List.set_cons_zero, List.set_cons_succ] at hK)
    first | subst hP | (obtain ⟨rfl, -⟩ := hP)
    go_wp2
    exact hK _ _ (Keep.refl _ _) rfl
  · (intro wq K hR hP hK; simp only [Pre, Region.binds, List.getD_cons_zero, List.getD_cons_succ, true_imp_iff, forall_const, and_true, true_and] at hP; simp only [Act.put, List.setIfInBounds_toArray, List.set_cons_zero, List.set_cons_succ] at hK)
    first | subst hP | (obtain ⟨rfl, -⟩ := hP)
    go_wp2
    exact hK _ _ (Keep.refl _ _) rfl
  (intro w1 hk1 hz; simp only [AllAt] at hz)
  obtain ⟨-, -, -, -, -, -, hz6, hz7, -⟩ := hz
  subst hz6 hz7
  have hkc : Keep [] w w1 := hkW.then hk1.drew'
  clear rB hkW hk1
  by_cases hn0 : m1 < 0
  · go_wp2_with (first
      | (go_at_call 13; with_reducible refine (open_nil first count _).mono ?_; rintro e w2 ⟨rfl, hk2⟩; replace hkc := hkc.then hk2)
      | (go_at_call 6; refine (known_ok _ (hG.keep0 hkc)).mono ?_; rintro e w3 ⟨rfl, hk3⟩; replace hkc := hkc.then hk3)
      | (go_at_call 16; with_reducible refine (format_nil first count _).mono ?_; rintro e w4 ⟨rfl, hk4⟩; replace hkc := hkc.then hk4)
      | (go_at_call 17; refine (dev_new 20 _ (hG.keep0 hkc) (by omega) (by omega)).mono ?_; rintro e w5 ⟨p, F1, rfl, hD1, hk5, hF1⟩; have hkc0 := hkc; replace hkc := hkc.then hk5; have hF1w : ∀ x ∈ F1, w.heap.size ≤ x := fun x hx => Nat.le_trans hkc0.size (hF1 x hx))
      | (go_at_call 18; refine (fail_any hD1.disk).mono ?_; rintro e w6 ⟨rfl, hDd, hk6⟩
         replace hkc := hkc.trans hk6 (fun x hx => Or.inr (by rw [List.mem_singleton.1 hx]; exact hF1w _ hDd.memp))
         have hGd : Glob w6 := hG.keep0 hkc)
      | (go_at_call 13; (refine (open_any hGd hDd first count (by show (0 : Int) ≤ 20; omega) (by show (20 : Int) ≤ 8192; omega) hf1 (by show 0 ≤ 50000000; omega) hD1.own).mono ?_; rw [HOP.out]; rintro e w6 hop; simp only [OpenPost] at hop; obtain ⟨rfl, F6, hD6, hk6, hF6⟩ := hop; have hsz := hkc.size)
         replace hkc := hkc.trans hk6 (fun x hx => Or.inr (hF1w x hx))
         have hG6 : Glob w6 := hG.keep0 hkc
         have hF6w : ∀ x ∈ F6, w.heap.size ≤ x := fun x hx => (hF6 x hx).elim (hF1w x) (fun q => Nat.le_trans hsz q))
      | (go_at_call 16; refine (format_ok hG6 hD6 first count (by show (0 : Int) ≤ 20; omega) (by show (20 : Int) ≤ 8192; omega) hf1 (by show 0 ≤ 100000000; omega)).mono ?_; rw [HFM.out]; rintro e w7 ⟨rfl, F7, hD7, hk7, hF7⟩
         replace hkc := hkc.trans hk7 (fun x hx => Or.inr (hF6w x hx)))
      | (go_at_call 19; refine (need_bad m1 _ (Or.inl hn0)).mono ?_; rintro e w7 ⟨rfl, hw7⟩; obtain rfl := hw7.symm; have hGc := hG.keep0 hkc; have hkc0 := hkc)
      | (go_at_call 8; refine (fresh_ok 10 _ hGc (by omega) (by omega)).mono ?_; rintro e w8 ⟨p8, rp8, d8, v8, F8, rfl, hL8, hn8, hk8, hb8⟩
         replace hkc := hkc.then hk8
         obtain ⟨M, Z, HZ, hmk, hcv⟩ := zeros_make 131073 131073 (by decide) (by omega) (by omega)
         have hL8' := hL8.keep0 ((Keep.refl [] w8).alloc (.cells M 5))
         have hAE := append_err hL8'.on Z (by rw [HZ.out]; omega) (Or.inr (Or.inl (by rw [HZ.out]; omega)))
         rw [HAP.out _ _ _ HZ.out hL8.inv.failed] at hAE
         have HAE := Lib.hid hAE
         clear hAE)
      | (go_at_call 21; with_reducible refine (HAN.out _).mono ?_; rintro e w10 ⟨rfl, hk10⟩; replace hkc := hkc.then hk10)
      | (go_at_call 21; with_reducible refine HAE.out.mono ?_; rintro e w9 ⟨rfl, hp9⟩
         have hk9 : Keep [] w w9 := (hkc.alloc (.cells M 5)).trans (OpPost.keeps hp9) (fun x hx => Or.inr (Nat.le_trans hkc0.size (hn8.frame x hx)))
         replace hkc := hk9)
      | (go_at_call 22; refine (sync_nil _).mono ?_; rintro e w10 ⟨rfl, hk10⟩; replace hkc := hkc.then hk10)
      | (go_at_call 23; refine (trim_nil _ _).mono ?_; rintro e w10 ⟨rfl, hk10⟩; replace hkc := hkc.then hk10)
      | (go_at_call 24; refine (failed_nil _).mono ?_; rintro e w10 ⟨rfl, hw10⟩; obtain rfl := hw10.symm)
      | (go_at_call 14; refine (first_nil _).mono ?_; rintro e w10 ⟨rfl, hw10⟩; obtain rfl := hw10.symm)
      | (go_at_call 10; refine (next_nil _).mono ?_; rintro e w10 ⟨rfl, hw10⟩; obtain rfl := hw10.symm)
      | (go_at_call 25; refine (synced_nil _).mono ?_; rintro e w10 ⟨rfl, hw10⟩; obtain rfl := hw10.symm)
      | (go_at_call 15; refine (free_nil _).mono ?_; rintro e w10 ⟨rfl, hw10⟩; obtain rfl := hw10.symm)
      | (go_at_call 26; refine (generation_nil _).mono ?_; rintro e w10 ⟨rfl, hw10⟩; obtain rfl := hw10.symm)
      )
    go_ret
    exact ⟨rfl, hkc⟩
  · by_cases hn1 : 131072 < m1
    · go_wp2_with (first
        | (go_at_call 13; with_reducible refine (open_nil first count _).mono ?_; rintro e w2 ⟨rfl, hk2⟩; replace hkc := hkc.then hk2)
        | (go_at_call 6; refine (known_ok _ (hG.keep0 hkc)).mono ?_; rintro e w3 ⟨rfl, hk3⟩; replace hkc := hkc.then hk3)
        | (go_at_call 16; with_reducible refine (format_nil first count _).mono ?_; rintro e w4 ⟨rfl, hk4⟩; replace hkc := hkc.then hk4)
        | (go_at_call 17; refine (dev_new 20 _ (hG.keep0 hkc) (by omega) (by omega)).mono ?_; rintro e w5 ⟨p, F1, rfl, hD1, hk5, hF1⟩; have hkc0 := hkc; replace hkc := hkc.then hk5; have hF1w : ∀ x ∈ F1, w.heap.size ≤ x := fun x hx => Nat.le_trans hkc0.size (hF1 x hx))
        | (go_at_call 18; refine (fail_any hD1.disk).mono ?_; rintro e w6 ⟨rfl, hDd, hk6⟩
           replace hkc := hkc.trans hk6 (fun x hx => Or.inr (by rw [List.mem_singleton.1 hx]; exact hF1w _ hDd.memp))
           have hGd : Glob w6 := hG.keep0 hkc)
        | (go_at_call 13; (refine (open_any hGd hDd first count (by show (0 : Int) ≤ 20; omega) (by show (20 : Int) ≤ 8192; omega) hf1 (by show 0 ≤ 50000000; omega) hD1.own).mono ?_; rw [HOP.out]; rintro e w6 hop; simp only [OpenPost] at hop; obtain ⟨rfl, F6, hD6, hk6, hF6⟩ := hop; have hsz := hkc.size)
           replace hkc := hkc.trans hk6 (fun x hx => Or.inr (hF1w x hx))
           have hG6 : Glob w6 := hG.keep0 hkc
           have hF6w : ∀ x ∈ F6, w.heap.size ≤ x := fun x hx => (hF6 x hx).elim (hF1w x) (fun q => Nat.le_trans hsz q))
        | (go_at_call 16; refine (format_ok hG6 hD6 first count (by show (0 : Int) ≤ 20; omega) (by show (20 : Int) ≤ 8192; omega) hf1 (by show 0 ≤ 100000000; omega)).mono ?_; rw [HFM.out]; rintro e w7 ⟨rfl, F7, hD7, hk7, hF7⟩
           replace hkc := hkc.trans hk7 (fun x hx => Or.inr (hF6w x hx)))
        | (go_at_call 19; refine (need_bad m1 _ (Or.inr hn1)).mono ?_; rintro e w7 ⟨rfl, hw7⟩; obtain rfl := hw7.symm; have hGc := hG.keep0 hkc; have hkc0 := hkc)
        | (go_at_call 8; refine (fresh_ok 10 _ hGc (by omega) (by omega)).mono ?_; rintro e w8 ⟨p8, rp8, d8, v8, F8, rfl, hL8, hn8, hk8, hb8⟩
           replace hkc := hkc.then hk8
           obtain ⟨M, Z, HZ, hmk, hcv⟩ := zeros_make 131073 131073 (by decide) (by omega) (by omega)
           have hL8' := hL8.keep0 ((Keep.refl [] w8).alloc (.cells M 5))
           have hAE := append_err hL8'.on Z (by rw [HZ.out]; omega) (Or.inr (Or.inl (by rw [HZ.out]; omega)))
           rw [HAP.out _ _ _ HZ.out hL8.inv.failed] at hAE
           have HAE := Lib.hid hAE
           clear hAE)
        | (go_at_call 21; with_reducible refine (HAN.out _).mono ?_; rintro e w10 ⟨rfl, hk10⟩; replace hkc := hkc.then hk10)
        | (go_at_call 21; with_reducible refine HAE.out.mono ?_; rintro e w9 ⟨rfl, hp9⟩
           have hk9 : Keep [] w w9 := (hkc.alloc (.cells M 5)).trans (OpPost.keeps hp9) (fun x hx => Or.inr (Nat.le_trans hkc0.size (hn8.frame x hx)))
           replace hkc := hk9)
        | (go_at_call 22; refine (sync_nil _).mono ?_; rintro e w10 ⟨rfl, hk10⟩; replace hkc := hkc.then hk10)
        | (go_at_call 23; refine (trim_nil _ _).mono ?_; rintro e w10 ⟨rfl, hk10⟩; replace hkc := hkc.then hk10)
        | (go_at_call 24; refine (failed_nil _).mono ?_; rintro e w10 ⟨rfl, hw10⟩; obtain rfl := hw10.symm)
        | (go_at_call 14; refine (first_nil _).mono ?_; rintro e w10 ⟨rfl, hw10⟩; obtain rfl := hw10.symm)
        | (go_at_call 10; refine (next_nil _).mono ?_; rintro e w10 ⟨rfl, hw10⟩; obtain rfl := hw10.symm)
        | (go_at_call 25; refine (synced_nil _).mono ?_; rintro e w10 ⟨rfl, hw10⟩; obtain rfl := hw10.symm)
        | (go_at_call 15; refine (free_nil _).mono ?_; rintro e w10 ⟨rfl, hw10⟩; obtain rfl := hw10.symm)
        | (go_at_call 26; refine (generation_nil _).mono ?_; rintro e w10 ⟨rfl, hw10⟩; obtain rfl := hw10.symm)
        )
      go_ret
      exact ⟨rfl, hkc⟩
    · obtain ⟨n, rfl⟩ := Int.eq_ofNat_of_zero_le (show 0 ≤ m1 by omega)
      have hn2 : n ≤ 131072 := by omega
      obtain ⟨nb, hnb⟩ : ∃ nb, blocksN (26 + n + 16) = nb := ⟨_, rfl⟩
      have HNB := Lib.hid hnb
      clear hnb
      go_wp2_with (first
        | (go_at_call 13; with_reducible refine (open_nil first count _).mono ?_; rintro e w2 ⟨rfl, hk2⟩; replace hkc := hkc.then hk2)
        | (go_at_call 6; refine (known_ok _ (hG.keep0 hkc)).mono ?_; rintro e w3 ⟨rfl, hk3⟩; replace hkc := hkc.then hk3)
        | (go_at_call 16; with_reducible refine (format_nil first count _).mono ?_; rintro e w4 ⟨rfl, hk4⟩; replace hkc := hkc.then hk4)
        | (go_at_call 17; refine (dev_new 20 _ (hG.keep0 hkc) (by omega) (by omega)).mono ?_; rintro e w5 ⟨p, F1, rfl, hD1, hk5, hF1⟩; have hkc0 := hkc; replace hkc := hkc.then hk5; have hF1w : ∀ x ∈ F1, w.heap.size ≤ x := fun x hx => Nat.le_trans hkc0.size (hF1 x hx))
        | (go_at_call 18; refine (fail_any hD1.disk).mono ?_; rintro e w6 ⟨rfl, hDd, hk6⟩
           replace hkc := hkc.trans hk6 (fun x hx => Or.inr (by rw [List.mem_singleton.1 hx]; exact hF1w _ hDd.memp))
           have hGd : Glob w6 := hG.keep0 hkc)
        | (go_at_call 13; (refine (open_any hGd hDd first count (by show (0 : Int) ≤ 20; omega) (by show (20 : Int) ≤ 8192; omega) hf1 (by show 0 ≤ 50000000; omega) hD1.own).mono ?_; rw [HOP.out]; rintro e w6 hop; simp only [OpenPost] at hop; obtain ⟨rfl, F6, hD6, hk6, hF6⟩ := hop; have hsz := hkc.size)
           replace hkc := hkc.trans hk6 (fun x hx => Or.inr (hF1w x hx))
           have hG6 : Glob w6 := hG.keep0 hkc
           have hF6w : ∀ x ∈ F6, w.heap.size ≤ x := fun x hx => (hF6 x hx).elim (hF1w x) (fun q => Nat.le_trans hsz q))
        | (go_at_call 16; refine (format_ok hG6 hD6 first count (by show (0 : Int) ≤ 20; omega) (by show (20 : Int) ≤ 8192; omega) hf1 (by show 0 ≤ 100000000; omega)).mono ?_; rw [HFM.out]; rintro e w7 ⟨rfl, F7, hD7, hk7, hF7⟩
           replace hkc := hkc.trans hk7 (fun x hx => Or.inr (hF6w x hx)))
        | (go_at_call 19; refine (need_ok n _ hn2).mono ?_; rw [HNB.out]; rintro e w7 ⟨rfl, hw7⟩; obtain rfl := hw7.symm; have hGc := hG.keep0 hkc; have hkc0 := hkc)
        | (go_at_call 20; refine (refNeed_ok n _ (by omega) (by omega)).mono ?_; rw [Int.toNat_natCast, HNB.out]; rintro e w7 ⟨rfl, hw7⟩; obtain rfl := hw7.symm)
        | (go_at_call 8; refine (fresh_ok 10 _ hGc (by omega) (by omega)).mono ?_; rintro e w8 ⟨p8, rp8, d8, v8, F8, rfl, hL8, hn8, hk8, hb8⟩
           replace hkc := hkc.then hk8
           obtain ⟨M, Z, HZ, hmk, hcv⟩ := zeros_make 131073 131073 (by decide) (by omega) (by omega)
           have hL8' := hL8.keep0 ((Keep.refl [] w8).alloc (.cells M 5))
           have hAE := append_err hL8'.on Z (by rw [HZ.out]; omega) (Or.inr (Or.inl (by rw [HZ.out]; omega)))
           rw [HAP.out _ _ _ HZ.out hL8.inv.failed] at hAE
           have HAE := Lib.hid hAE
           clear hAE)
        | (go_at_call 21; with_reducible refine (HAN.out _).mono ?_; rintro e w10 ⟨rfl, hk10⟩; replace hkc := hkc.then hk10)
        | (go_at_call 21; with_reducible refine HAE.out.mono ?_; rintro e w9 ⟨rfl, hp9⟩
           have hk9 : Keep [] w w9 := (hkc.alloc (.cells M 5)).trans (OpPost.keeps hp9) (fun x hx => Or.inr (Nat.le_trans hkc0.size (hn8.frame x hx)))
           replace hkc := hk9)
        | (go_at_call 22; refine (sync_nil _).mono ?_; rintro e w10 ⟨rfl, hk10⟩; replace hkc := hkc.then hk10)
        | (go_at_call 23; refine (trim_nil _ _).mono ?_; rintro e w10 ⟨rfl, hk10⟩; replace hkc := hkc.then hk10)
        | (go_at_call 24; refine (failed_nil _).mono ?_; rintro e w10 ⟨rfl, hw10⟩; obtain rfl := hw10.symm)
        | (go_at_call 14; refine (first_nil _).mono ?_; rintro e w10 ⟨rfl, hw10⟩; obtain rfl := hw10.symm)
        | (go_at_call 10; refine (next_nil _).mono ?_; rintro e w10 ⟨rfl, hw10⟩; obtain rfl := hw10.symm)
        | (go_at_call 25; refine (synced_nil _).mono ?_; rintro e w10 ⟨rfl, hw10⟩; obtain rfl := hw10.symm)
        | (go_at_call 15; refine (free_nil _).mono ?_; rintro e w10 ⟨rfl, hw10⟩; obtain rfl := hw10.symm)
        | (go_at_call 26; refine (generation_nil _).mono ?_; rintro e w10 ⟨rfl, hw10⟩; obtain rfl := hw10.symm)
        )
      go_ret
      exact ⟨rfl, hkc⟩
end
end Go.Proofs.YtgopdbpddemplaaDoor
