/- ring: perform, its deferred closure. · ring: Append's closure. · ring: Trim's closure. · ring: Append (its pure form; the walk is still to come). · ring: head (its pure form; the walk is still to come). · Plain law: what Encode writes, Decode reads. -/
import Derived.Test.YtgopdbpddemplaaDoorPart18
import Derived.Defers
import Derived.Test.YtgopdbpddemplaaDoorPart17
set_option linter.unusedSimpArgs false
set_option linter.unusedVariables false
namespace Go.Proofs.YtgopdbpddemplaaDoor
section
/- ring: perform, its deferred closure. -/
open Go.RowKit

set_option maxHeartbeats 400000 in
theorem perform1_ok (eb rb p : Nat) (u : FrameMode) (w : World) (he : w.heap[eb]? = some (.cells #[.int .i64 0] 32 (0, 0))) :
    CallsD Tryd.prog 67 #[.pointer (some ⟨eb, 0, none⟩), .pointer (some ⟨rb, 0, none⟩)] u w fun e u' w' => u' = u ∧ e = .returned (.tuple #[]) ∧ w' = w := by
  have ce := cell_row' (j := 0) he
  go_enter_d Tryd.func67, Tryd.ntmps67
  go_wp2
  go_end0
  exact ⟨rfl, rfl⟩
set_option maxHeartbeats 400000 in
theorem perform1_bad (eb rb p : Nat) (err : Int) (hne : err ≠ 0) (u : FrameMode) (w : World) (cs : Array Value) (he : w.heap[eb]? = some (.cells #[.int .i64 err] 32 (0, 0))) (hr : w.heap[rb]? = some (.cells #[.pointer (some ⟨p, 0, none⟩)] 26 (0, 0)))
    (hp : w.heap[p]? = some (.cells cs 66 (0, 0))) (hc : cs.size = 11) :
    CallsD Tryd.prog 67 #[.pointer (some ⟨eb, 0, none⟩), .pointer (some ⟨rb, 0, none⟩)] u w fun e u' w' => u' = u ∧ e = .returned (.tuple #[]) ∧ w' = w.setCell ⟨p, 10, none⟩ (.int .i64 err) := by
  have ce := cell_row' (j := 0) he
  have cr := cell_row' (j := 0) hr
  have cp : w.cell? ⟨p, 10, none⟩ = some (cs[10]'(by omega)) := by rw [cell_row' hp]; simp [hc]
  have fp := frozen_row' (j := 10) hp
  have hb : (err == 0) = false := by simpa using hne
  go_enter_d Tryd.func67, Tryd.ntmps67
  go_wp2
  go_end0
  exact ⟨rfl, rfl⟩

set_option maxRecDepth 100000 in
set_option maxHeartbeats 1000000 in
/-- perform(f): f a closure or a method value, with a contract wherever what lay stands -/
theorem perform_any {w : World} {p : Nat} {r : RV} {v : Value} (h : RingIs w p r v) (fn : Nat) (fst cap : Array Value) (F : List Nat) (hpF : p ∉ F) (hFl : ∀ x ∈ F, x < w.heap.size) (R : Int → World → Prop)
    (heg : ∀ args w, (callFunc fn args).run Tryd.prog w = .ok (.enter fn args) w)
    (hc : ∀ W : World, Keep [] w W → w.heap.size + 2 ≤ W.heap.size → Calls Tryd.prog fn (fst ++ cap) W fun e w' => ∃ err, e = .returned (.int .i64 err) ∧ R err w' ∧ Keep F W w') :
    Calls Tryd.prog 40 #[.pointer (some ⟨p, 0, none⟩), .func (.func fn) fst cap] w fun e w' => ∃ err w3, e = .returned (.int .i64 err) ∧ R err w3 ∧ Keep F w w3 ∧ ∃ eb, w.heap.size ≤ eb ∧ eb < w.heap.size + 2 ∧ ((err = 0 ∧ w' = w3.setCell ⟨eb, 0, none⟩ (.int .i64 0)) ∨ (err ≠ 0 ∧ w' = (w3.setCell ⟨eb, 0, none⟩ (.int .i64 err)).setCell ⟨p, 10, none⟩ (.int .i64 err))) := by
  have hmf : ∀ (fn : Fn) (first cap : Array Value) (w : World), (Instr.makeFunc fn first cap).run Tryd.prog w = .ok (.func fn first cap) w := fun _ _ _ _ => rfl
  go_enter_defers Tryd.func40, Tryd.ntmps40
  go_wp2_with (refine (hc _ (((Keep.refl [] w).alloc _).alloc _) (by simp)).mono ?_; rintro e w3 ⟨err, rfl, hR, hk3⟩
               have he3 := hk3.get (k := w.heap.size + 1) (heap_alloc_at (by simp)) (fun hm => by have := hFl _ hm; omega)
               have hr3 := hk3.get (k := w.heap.size) ((heap_alloc_past (by simp)).trans (heap_alloc_new w _)) (fun hm => by have := hFl _ hm; omega)
               have hp3 := hk3.get (k := p) ((heap_alloc_past (by have := lt_of_heap h.row; simp; omega)).trans ((heap_alloc_past (lt_of_heap h.row)).trans h.row)) hpF
               have ce3 := cell_row' (j := 0) he3
               have fe3 := frozen_row' (j := 0) he3)
  have he4 := heap_setCell_same w3 (w.heap.size + 1) 0 _ _ (.int .i64 err) he3
  have hpw := lt_of_heap h.row
  have hr4 := (heap_setCell_other w3 ⟨w.heap.size + 1, 0, none⟩ w.heap.size (.int .i64 err) (by simp)).trans hr3
  have hp4 := (heap_setCell_other w3 ⟨w.heap.size + 1, 0, none⟩ p (.int .i64 err) (by simp; omega)).trans hp3
  have hkw : Keep F w w3 := (((Keep.refl F w).alloc _).alloc _).trans hk3 (fun x hx => Or.inl hx)
  by_cases hz : err = 0
  · subst hz
    refine leaves_cons (f := 67) (args := #[.pointer (some ⟨w.heap.size + 1, 0, none⟩), .pointer (some ⟨w.heap.size, 0, none⟩)]) (by simp) (by simp [go_sem]) ?_
    refine (perform1_ok (w.heap.size + 1) w.heap.size p .returning _ he4).mono ?_
    rintro e u' w'' ⟨rfl, rfl, rfl⟩
    have c4 : (w3.setCell ⟨w.heap.size + 1, 0, none⟩ (.int .i64 0)).cell? ⟨w.heap.size + 1, 0, none⟩ = some (.int .i64 0) := (cell_row' (j := 0) he4).trans rfl
    refine ⟨.int .i64 0, ?_, 0, w3, rfl, hR, hkw, w.heap.size + 1, by omega, by omega, Or.inl ⟨rfl, rfl⟩⟩
    simp [results, Tryd.f40, go_sem, c4]
  · refine leaves_cons (f := 67) (args := #[.pointer (some ⟨w.heap.size + 1, 0, none⟩), .pointer (some ⟨w.heap.size, 0, none⟩)]) (by simp) (by simp [go_sem]) ?_
    refine (perform1_bad (w.heap.size + 1) w.heap.size p err hz .returning _ _ he4 hr4 hp4 rfl).mono ?_
    rintro e u' w'' ⟨rfl, rfl, rfl⟩
    have he5 := (heap_setCell_other (w3.setCell ⟨w.heap.size + 1, 0, none⟩ (.int .i64 err)) ⟨p, 10, none⟩ (w.heap.size + 1) (.int .i64 err) (by simp; omega)).trans he4
    have c4 : ((w3.setCell ⟨w.heap.size + 1, 0, none⟩ (.int .i64 err)).setCell ⟨p, 10, none⟩ (.int .i64 err)).cell? ⟨w.heap.size + 1, 0, none⟩ = some (.int .i64 err) := (cell_row' (j := 0) he5).trans rfl
    refine ⟨.int .i64 err, ?_, err, w3, rfl, hR, hkw, w.heap.size + 1, by omega, by omega, Or.inr ⟨hz, rfl⟩⟩
    simp [results, Tryd.f40, go_sem, c4]
end

section
/- ring: Append's closure. -/
open Go.RowKit

set_option maxRecDepth 100000 in
set_option maxHeartbeats 2000000 in
theorem append1_ok {F : List Nat} {w : World} {p rb tb : Nat} {d : DK} {r : RV} {v : Value} (h : RingIs w p r v) (hr : r.ok) (hD : DiskAt w r.a.p d F) (hd : d.down = false) (hf : r.a.fits d) (s : List UInt8) (hs1 : 1 ≤ s.length) (hs2 : s.length ≤ 1000000) (hlen : d.pend.length ≤ 50000000)
    (rR : w.heap[rb]? = some (.cells #[.pointer (some ⟨p, 0, none⟩)] 26 (0, 0))) (rT : w.heap[tb]? = some (.cells #[str s] 9 (0, 0))) :
    Calls Tryd.prog 41 #[.pointer (some ⟨rb, 0, none⟩), .pointer (some ⟨tb, 0, none⟩)] w fun e w' =>
      e = .returned (.int .i64 (wfold r.a ((r.h.place + r.used) % r.a.places) d s (List.range ((s.length - 1 + 511 - 1) / 511))).1) ∧ ∃ F', DiskAt w' r.a.p (wfold r.a ((r.h.place + r.used) % r.a.places) d s (List.range ((s.length - 1 + 511 - 1) / 511))).2.1 F' ∧ Keep F w w' ∧ ∀ x ∈ F', x ∈ F ∨ w.heap.size ≤ x := by
  have hpl : (r.h.place + r.used) % r.a.places ≤ 1000000 := by
    have := hr.a.2.1
    have := hr.a.2.2
    have := Nat.mod_lt (r.h.place + r.used) (show r.a.places > 0 by omega)
    omega
  generalize hW : wfold r.a ((r.h.place + r.used) % r.a.places) d s (List.range ((s.length - 1 + 511 - 1) / 511)) = W at *
  have HW := Lib.hid hW
  clear hW
  obtain ⟨Post, hPost⟩ : ∃ Post : World → Prop, Post = fun w' => ∃ F', DiskAt w' r.a.p W.2.1 F' ∧ Keep F w w' ∧ ∀ x ∈ F', x ∈ F ∨ w.heap.size ≤ x := ⟨_, rfl⟩
  have hP0 : ∀ a b, Keep [] a b → Post a → Post b := fun a b hk ha => by
    rw [hPost] at ha ⊢
    obtain ⟨F', h1, h2, h3⟩ := ha
    exact ⟨F', h1.keep0 hk, h2.then hk, h3⟩
  go_enter Tryd.func41, Tryd.ntmps41
  go_wp2
  refine wp_region_ghost (fun a b => Post a → Post b) (fun listed a => listed.getD 7 false = false → Keep [] w a)
    [fun v _ => v = .pointer (some ⟨p, 0, none⟩), fun v _ => v = .pointer (some ⟨p, 0, none⟩), fun v _ => v = .pointer (some ⟨p, 0, none⟩), fun v _ => v = .agg r.a.cells, fun v _ => v = .pointer (some ⟨p, 0, none⟩),
     fun v _ => v = .int .i64 ((r.h.place + r.used) % r.a.places : Nat), fun v _ => v = str s, fun v w' => v = .int .i64 W.1 ∧ Post w', fun v _ => v = .int .i64 W.1] (by kernel_rfl) (by kernel_rfl) (by kernel_rfl) (fun _ _ _ h k e => k (h e)) (fun _ e => e) ?sta (fun _ => (Keep.refl _ _).drew) ?mai
  case sta => simp only [Stable]; exact ⟨fun _ _ _ _ h => h, fun _ _ _ _ h => h, fun _ _ _ _ h => h, fun _ _ _ _ h => h, fun _ _ _ _ h => h, fun _ _ _ _ h => h, fun _ _ _ _ h => h, fun _ _ _ hk h => ⟨h.1, hk h.2⟩, fun _ _ _ _ h => h, trivial⟩
  case mai =>
    simp only [List.length_cons, List.length_nil, Nat.zero_add, Nat.reduceAdd, AllVals]
    intro z0 z1 z2 z3 z4 z5 z6 z7 z8
    simp only [putAll, Act.put, List.setIfInBounds_toArray, List.set_cons_zero, List.set_cons_succ, StepsAtG]
    refine ⟨?stp, ?fin⟩
    case' stp => repeat' apply And.intro
    all_goals try (first | trivial | exact True.intro)
    · intro wq K listed hR hP hG hL hS hC hK
      simp only [Pre, Region.binds, List.getD_cons_zero, List.getD_cons_succ, true_imp_iff, forall_const, and_true, true_and] at hP
      simp only [Act.put, List.setIfInBounds_toArray, List.set_cons_zero, List.set_cons_succ] at hK
      have hkq : Keep [] w wq := hG (hC.notYet 10 7 0 (by kernel_rfl) hL)
      have c0 : wq.cell? ⟨rb, 0, none⟩ = some (.pointer (some ⟨p, 0, none⟩)) := (cell_row' (j := 0) (hkq.get rR (by simp))).trans rfl
      go_wp2
      exact hK _ _ id rfl (fun _ => hkq)
    · intro wq K listed hR hP hG hL hS hC hK
      simp only [Pre, Region.binds, List.getD_cons_zero, List.getD_cons_succ, true_imp_iff, forall_const, and_true, true_and] at hP
      simp only [Act.put, List.setIfInBounds_toArray, List.set_cons_zero, List.set_cons_succ] at hK
      have hkq : Keep [] w wq := hG (hC.notYet 10 7 1 (by kernel_rfl) hL)
      subst hP
      go_wp2
      exact hK _ _ id rfl (fun _ => hkq)
    · intro wq K listed hR hP hG hL hS hC hK
      simp only [Pre, Region.binds, List.getD_cons_zero, List.getD_cons_succ, true_imp_iff, forall_const, and_true, true_and] at hP
      simp only [Act.put, List.setIfInBounds_toArray, List.set_cons_zero, List.set_cons_succ] at hK
      have hkq : Keep [] w wq := hG (hC.notYet 10 7 2 (by kernel_rfl) hL)
      subst hP
      go_wp2
      exact hK _ _ id rfl (fun _ => hkq)
    · intro wq K listed hR hP hG hL hS hC hK
      simp only [Pre, Region.binds, List.getD_cons_zero, List.getD_cons_succ, true_imp_iff, forall_const, and_true, true_and] at hP
      simp only [Act.put, List.setIfInBounds_toArray, List.set_cons_zero, List.set_cons_succ] at hK
      have hkq : Keep [] w wq := hG (hC.notYet 10 7 3 (by kernel_rfl) hL)
      subst hP
      have c0 : wq.cell? ⟨p, 0, none⟩ = some (.pointer (some ⟨r.a.p, 0, none⟩)) := (cell_row' (j := 0) (hkq.get h.row (by simp))).trans rfl
      have c1 : wq.cell? ⟨p, 1, none⟩ = some (.int .i64 r.a.first) := (cell_row' (j := 1) (hkq.get h.row (by simp))).trans rfl
      have c2 : wq.cell? ⟨p, 2, none⟩ = some (.int .i64 r.a.places) := (cell_row' (j := 2) (hkq.get h.row (by simp))).trans rfl
      go_wp2
      exact hK _ _ id rfl (fun _ => hkq)
    · intro wq K listed hR hP hG hL hS hC hK
      simp only [Pre, Region.binds, List.getD_cons_zero, List.getD_cons_succ, true_imp_iff, forall_const, and_true, true_and] at hP
      simp only [Act.put, List.setIfInBounds_toArray, List.set_cons_zero, List.set_cons_succ] at hK
      have hkq : Keep [] w wq := hG (hC.notYet 10 7 4 (by kernel_rfl) hL)
      have c0 : wq.cell? ⟨rb, 0, none⟩ = some (.pointer (some ⟨p, 0, none⟩)) := (cell_row' (j := 0) (hkq.get rR (by simp))).trans rfl
      go_wp2
      exact hK _ _ id rfl (fun _ => hkq)
    · intro wq K listed hR hP hG hL hS hC hK
      simp only [Pre, Region.binds, List.getD_cons_zero, List.getD_cons_succ, true_imp_iff, forall_const, and_true, true_and] at hP
      simp only [Act.put, List.setIfInBounds_toArray, List.set_cons_zero, List.set_cons_succ] at hK
      have hkq : Keep [] w wq := hG (hC.notYet 10 7 5 (by kernel_rfl) hL)
      subst hP
      go_wp2_with (go_at_call 32; refine (end_any ⟨hkq.get h.row (by simp), OwnLike.keep h.es hkq (by simp)⟩ hr).mono ?_; rintro e w2 ⟨rfl, hk2⟩)
      exact hK _ _ (hP0 _ _ hk2) rfl (fun _ => hkq.then hk2)
    · intro wq K listed hR hP hG hL hS hC hK
      simp only [Pre, Region.binds, List.getD_cons_zero, List.getD_cons_succ, true_imp_iff, forall_const, and_true, true_and] at hP
      simp only [Act.put, List.setIfInBounds_toArray, List.set_cons_zero, List.set_cons_succ] at hK
      have hkq : Keep [] w wq := hG (hC.notYet 10 7 6 (by kernel_rfl) hL)
      have c0 : wq.cell? ⟨tb, 0, none⟩ = some (str s) := (cell_row' (j := 0) (hkq.get rT (by simp))).trans rfl
      unfold str at *
      go_wp2
      exact hK _ _ id rfl (fun _ => hkq)
    · intro wq K listed hR hP hG hL hS hC hK
      simp only [Pre, Region.binds, List.getD_cons_zero, List.getD_cons_succ, true_imp_iff, forall_const, and_true, true_and] at hP
      simp only [Act.put, List.setIfInBounds_toArray, List.set_cons_zero, List.set_cons_succ] at hK
      have hkq : Keep [] w wq := hG hL
      have q3 := hP.1
      have q5 := hP.2.1
      have q6 := hP.2.2.1
      subst q3 q5 q6
      go_wp2_with (go_at_call 42; refine (write_ok (hD.keep0 hkq) hd hr.a hf _ hpl s hs1 hs2 hlen).mono ?_; rw [HW.out]; rintro e w2 ⟨rfl, F2, hD2, hk2, hF2⟩)
      have hp2 : Post w2 := by
        rw [hPost]
        exact ⟨F2, hD2, (hkq.mono (F' := F) (by simp)).trans hk2 (fun x hx => Or.inl hx), fun x hx => (hF2 x hx).imp id (fun h => Nat.le_trans hkq.size h)⟩
      exact hK _ _ (fun _ => hp2) ⟨rfl, hp2⟩ (fun h => by rw [getD_set_self (by rw [hS]; decide)] at h; cases h)
    · intro wq K listed hR hP hG hL hS hC hK
      simp only [Pre, Region.binds, List.getD_cons_zero, List.getD_cons_succ, true_imp_iff, forall_const, and_true, true_and] at hP
      simp only [Act.put, List.setIfInBounds_toArray, List.set_cons_zero, List.set_cons_succ] at hK
      obtain ⟨⟨rfl, -⟩, -⟩ := hP
      go_wp2
      exact hK _ _ id rfl (fun h => hG (by rw [getD_set_other (by decide)] at h; exact h))
    · intro wf hf' hz
      simp only [AllAt] at hz
      obtain ⟨-, -, -, -, -, -, -, hz7, hz8, -⟩ := hz
      obtain ⟨-, hz7⟩ := hz7
      subst hz8
      go_wp2
      go_ret
      rw [hPost] at hz7
      exact ⟨rfl, hz7⟩
end

section
/- ring: Trim's closure. -/
open Go.RowKit

set_option maxRecDepth 100000 in
set_option maxHeartbeats 2000000 in
theorem trim1_ok {F : List Nat} {w : World} {p rb tb : Nat} {d : DK} {r : RV} {v : Value} {h' : HV} (hGl : Glob w) (h : RingIs w p r v) (hr : r.ok) (hD : DiskAt w r.a.p d F) (hd : d.down = false) (hf : r.a.fits d) (hh : h'.ok) (hlen : d.pend.length ≤ 50000000)
    (rR : w.heap[rb]? = some (.cells #[.pointer (some ⟨p, 0, none⟩)] 26 (0, 0))) (rT : w.heap[tb]? = some (.cells h'.cells 61 (0, 0))) :
    Calls Tryd.prog 45 #[.pointer (some ⟨rb, 0, none⟩), .pointer (some ⟨tb, 0, none⟩)] w fun e w' =>
      e = .returned (.int .i64 (putD d r.a h').1) ∧ ∃ F', DiskAt w' r.a.p (putD d r.a h').2 F' ∧ Keep F w w' ∧ ∀ x ∈ F', x ∈ F ∨ w.heap.size ≤ x := by
  generalize hW : putD d r.a h' = W at *
  have HW := Lib.hid hW
  clear hW
  obtain ⟨Post, hPost⟩ : ∃ Post : World → Prop, Post = fun w' => ∃ F', DiskAt w' r.a.p W.2 F' ∧ Keep F w w' ∧ ∀ x ∈ F', x ∈ F ∨ w.heap.size ≤ x := ⟨_, rfl⟩
  go_enter Tryd.func45, Tryd.ntmps45
  go_wp2
  refine wp_region_ghost (fun a b => Post a → Post b) (fun listed a => listed.getD 5 false = false → Keep [] w a)
    [fun v _ => v = .pointer (some ⟨p, 0, none⟩), fun v _ => v = .pointer (some ⟨p, 0, none⟩), fun v _ => v = .pointer (some ⟨p, 0, none⟩), fun v _ => v = .agg r.a.cells, fun v _ => v = .agg h'.cells,
     fun v w' => v = .int .i64 W.1 ∧ Post w', fun v _ => v = .int .i64 W.1] (by kernel_rfl) (by kernel_rfl) (by kernel_rfl) (fun _ _ _ h k e => k (h e)) (fun _ e => e) ?sta (fun _ => (Keep.refl _ _).drew) ?mai
  case sta => simp only [Stable]; exact ⟨fun _ _ _ _ h => h, fun _ _ _ _ h => h, fun _ _ _ _ h => h, fun _ _ _ _ h => h, fun _ _ _ _ h => h, fun _ _ _ hk h => ⟨h.1, hk h.2⟩, fun _ _ _ _ h => h, trivial⟩
  case mai =>
    simp only [List.length_cons, List.length_nil, Nat.zero_add, Nat.reduceAdd, AllVals]
    intro z0 z1 z2 z3 z4 z5 z6
    simp only [putAll, Act.put, List.setIfInBounds_toArray, List.set_cons_zero, List.set_cons_succ, StepsAtG]
    refine ⟨?stp, ?fin⟩
    case' stp => repeat' apply And.intro
    all_goals try (first | trivial | exact True.intro)
    · intro wq K listed hR hP hG hL hS hC hK
      simp only [Pre, Region.binds, List.getD_cons_zero, List.getD_cons_succ, true_imp_iff, forall_const, and_true, true_and] at hP
      simp only [Act.put, List.setIfInBounds_toArray, List.set_cons_zero, List.set_cons_succ] at hK
      have hkq : Keep [] w wq := hG (hC.notYet 10 5 0 (by kernel_rfl) hL)
      have c0 : wq.cell? ⟨rb, 0, none⟩ = some (.pointer (some ⟨p, 0, none⟩)) := (cell_row' (j := 0) (hkq.get rR (by simp))).trans rfl
      go_wp2
      exact hK _ _ id rfl (fun _ => hkq)
    · intro wq K listed hR hP hG hL hS hC hK
      simp only [Pre, Region.binds, List.getD_cons_zero, List.getD_cons_succ, true_imp_iff, forall_const, and_true, true_and] at hP
      simp only [Act.put, List.setIfInBounds_toArray, List.set_cons_zero, List.set_cons_succ] at hK
      have hkq : Keep [] w wq := hG (hC.notYet 10 5 1 (by kernel_rfl) hL)
      subst hP
      go_wp2
      exact hK _ _ id rfl (fun _ => hkq)
    · intro wq K listed hR hP hG hL hS hC hK
      simp only [Pre, Region.binds, List.getD_cons_zero, List.getD_cons_succ, true_imp_iff, forall_const, and_true, true_and] at hP
      simp only [Act.put, List.setIfInBounds_toArray, List.set_cons_zero, List.set_cons_succ] at hK
      have hkq : Keep [] w wq := hG (hC.notYet 10 5 2 (by kernel_rfl) hL)
      subst hP
      go_wp2
      exact hK _ _ id rfl (fun _ => hkq)
    · intro wq K listed hR hP hG hL hS hC hK
      simp only [Pre, Region.binds, List.getD_cons_zero, List.getD_cons_succ, true_imp_iff, forall_const, and_true, true_and] at hP
      simp only [Act.put, List.setIfInBounds_toArray, List.set_cons_zero, List.set_cons_succ] at hK
      have hkq : Keep [] w wq := hG (hC.notYet 10 5 3 (by kernel_rfl) hL)
      subst hP
      have c0 : wq.cell? ⟨p, 0, none⟩ = some (.pointer (some ⟨r.a.p, 0, none⟩)) := (cell_row' (j := 0) (hkq.get h.row (by simp))).trans rfl
      have c1 : wq.cell? ⟨p, 1, none⟩ = some (.int .i64 r.a.first) := (cell_row' (j := 1) (hkq.get h.row (by simp))).trans rfl
      have c2 : wq.cell? ⟨p, 2, none⟩ = some (.int .i64 r.a.places) := (cell_row' (j := 2) (hkq.get h.row (by simp))).trans rfl
      go_wp2
      exact hK _ _ id rfl (fun _ => hkq)
    · intro wq K listed hR hP hG hL hS hC hK
      simp only [Pre, Region.binds, List.getD_cons_zero, List.getD_cons_succ, true_imp_iff, forall_const, and_true, true_and] at hP
      simp only [Act.put, List.setIfInBounds_toArray, List.set_cons_zero, List.set_cons_succ] at hK
      have hkq : Keep [] w wq := hG (hC.notYet 10 5 4 (by kernel_rfl) hL)
      have c0 : wq.cell? ⟨tb, 0, none⟩ = some (.int .i64 h'.generation) := (cell_row' (j := 0) (hkq.get rT (by simp))).trans rfl
      have c1 : wq.cell? ⟨tb, 1, none⟩ = some (.int .i64 h'.first) := (cell_row' (j := 1) (hkq.get rT (by simp))).trans rfl
      have c2 : wq.cell? ⟨tb, 2, none⟩ = some (.int .i64 h'.place) := (cell_row' (j := 2) (hkq.get rT (by simp))).trans rfl
      have c3 : wq.cell? ⟨tb, 3, none⟩ = some (.int .i64 h'.base) := (cell_row' (j := 3) (hkq.get rT (by simp))).trans rfl
      go_wp2
      exact hK _ _ id rfl (fun _ => hkq)
    · intro wq K listed hR hP hG hL hS hC hK
      simp only [Pre, Region.binds, List.getD_cons_zero, List.getD_cons_succ, true_imp_iff, forall_const, and_true, true_and] at hP
      simp only [Act.put, List.setIfInBounds_toArray, List.set_cons_zero, List.set_cons_succ] at hK
      have hkq : Keep [] w wq := hG hL
      have q3 := hP.1
      have q5 := hP.2
      subst q3 q5
      go_wp2_with (go_at_call 34; refine (writeHead_any (hGl.keep0 hkq) (hD.keep0 hkq) hd hr.a hf hh (by omega)).mono ?_; rw [HW.out]; rintro e w2 ⟨rfl, F2, hD2, hk2, hF2⟩)
      have hp2 : Post w2 := by
        rw [hPost]
        exact ⟨F2, hD2, (hkq.mono (F' := F) (by simp)).trans hk2 (fun x hx => Or.inl hx), fun x hx => (hF2 x hx).imp id (fun h => Nat.le_trans hkq.size h)⟩
      exact hK _ _ (fun _ => hp2) ⟨rfl, hp2⟩ (fun h => by rw [getD_set_self (by rw [hS]; decide)] at h; cases h)
    · intro wq K listed hR hP hG hL hS hC hK
      simp only [Pre, Region.binds, List.getD_cons_zero, List.getD_cons_succ, true_imp_iff, forall_const, and_true, true_and] at hP
      simp only [Act.put, List.setIfInBounds_toArray, List.set_cons_zero, List.set_cons_succ] at hK
      obtain ⟨⟨rfl, -⟩, -⟩ := hP
      go_wp2
      exact hK _ _ id rfl (fun h => hG (by rw [getD_set_other (by decide)] at h; exact h))
    · intro wf hf' hz
      simp only [AllAt] at hz
      obtain ⟨-, -, -, -, -, hz7, hz8, -⟩ := hz
      obtain ⟨-, hz7⟩ := hz7
      subst hz8
      go_wp2
      go_ret
      rw [hPost] at hz7
      exact ⟨rfl, hz7⟩
end

section
/- ring: Append (its pure form; the walk is still to come). -/
open Go.RowKit

/-- Append: the number and the error, the device, the ring -/
def appendF (d : DK) (r : RV) (s : List UInt8) : (Int × Int) × DK × RV :=
  if r.failed ≠ 0 then ((0, r.failed), d, r)
  else if 131072 < s.length then ((0, 5), d, r)
  else if r.a.places - r.used < blocksN (26 + s.length + 16) then ((0, 26), d, r)
  else if 1099511627775 < r.h.first + r.es.length then ((0, 9), d, r)
  else
    let t := encodeF 2 r.h.generation ((r.h.first + r.es.length : Nat) : Int) s
    let W := wfold r.a ((r.h.place + r.used) % r.a.places) d t (List.range ((t.length - 1 + 511 - 1) / 511))
    if W.1 ≠ 0 then ((0, W.1), W.2.1, { r with failed := W.1 })
    else ((((r.h.first + r.es.length : Nat) : Int), 0), W.2.1, r.add (r.h.generation, blocksN (26 + s.length + 16)))
/-- the head that Trim writes -/
def trimH (r : RV) (count : Nat) : HV :=
  ⟨r.h.generation + 1, r.h.first + count, (r.h.place + ((r.es.take count).map (·.2)).sum) % r.a.places, ((r.es.getD (count - 1) (0, 0)).1)⟩
/-- Trim: the error, the device, the ring -/
def trimF (d : DK) (r : RV) (before : Int) : Int × DK × RV :=
  if r.failed ≠ 0 then (r.failed, d, r)
  else if before < r.h.first ∨ before > ((r.h.first + r.es.length : Nat) : Int) then (2, d, r)
  else if before = r.h.first then (0, d, r)
  else if r.h.generation = 2147483647 then (9, d, r)
  else
    let count := (before - r.h.first).toNat
    let W := putD d r.a (trimH r count)
    if W.1 ≠ 0 then (W.1, W.2, { r with failed := W.1 })
    else (0, W.2, { r with h := trimH r count, es := r.es.drop count, used := r.used - ((r.es.take count).map (·.2)).sum, synced := r.h.first + r.es.length })
end

section
/- ring: head (its pure form; the walk is still to come). -/
open Go.RowKit

/-- what the head with a number says, if it is valid -/
def headF (d : DK) (a : AR) (number : Nat) : Option HV :=
  match decodeF (d.vis ((a.first + number : Nat) : Int)) with
  | .error _ => none
  | .ok (f, _) =>
    if f.kind = 1 ∧ f.number = 0 ∧ f.stream % 2 = number then
      let r1 := rdNum 1099511627775 (f.payload, 0)
      let r2 := rdNum ((a.places : Int) - 1) r1.2
      let r3 := rdNum f.stream r2.2
      if r3.2.2 = 0 ∧ r3.2.1 = [] then some ⟨f.stream.toNat, r1.1.toNat, r2.1.toNat, r3.1.toNat⟩ else none
    else none
def headV : Option HV → Value
  | some h => .tuple #[.agg h.cells, .bool true, .int .i64 0]
  | none => .tuple #[.agg #[.int .i64 0, .int .i64 0, .int .i64 0, .int .i64 0], .bool false, .int .i64 0]
/-- the head that is current -/
def currentF (d : DK) (a : AR) : Option HV :=
  match headF d a 0, headF d a 1 with
  | some x, some y => if y.generation > x.generation then some y else some x
  | some x, none => some x
  | none, y => y
theorem rdNum_nonneg (m : Int) (s : List UInt8 × Int) : (((rdNum m s).1.toNat : Nat) : Int) = (rdNum m s).1 := by
  unfold rdNum
  split
  · rfl
  · split
    · rfl
    · simp
end

section
/- Plain law: what Encode writes, Decode reads. -/
open Go.RowKit

theorem beN_succ (k : Nat) (n : Int) : beN (k + 1) n = beN k (n / 256) ++ [b8 n] := by
  unfold beN
  rw [List.range_succ, List.map_append]
  congr 1
  · refine List.map_congr_left fun j hj => ?_
    have hj := List.mem_range.1 hj
    congr 1
    have e : 8 * (k + 1 - 1 - j) = 8 + 8 * (k - 1 - j) := by omega
    rw [e, Int.pow_add, Int.ediv_ediv_of_nonneg (by decide)]
    rfl
  · simp
theorem b8_toNat' (n : Int) : ((b8 n).toNat : Int) = n % 256 := by
  unfold b8
  simp
  omega
theorem beVal_beN (k : Nat) : ∀ n : Int, 0 ≤ n → n < ((256 ^ k : Nat) : Int) → (beVal (beN k n) : Int) = n := by
  induction k with
  | zero => intro n h0 h1; simp at h1; simp [beN, beVal]; omega
  | succ k ih =>
    intro n h0 h1
    rw [beN_succ, beVal_append]
    have h2 := ih (n / 256) (by omega) (by rw [Nat.pow_succ] at h1; omega)
    have h3 := b8_toNat' n
    omega
theorem fieldF_at (a m b : List UInt8) (off n : Nat) (ha : a.length = off) (hm : m.length = n) (hn : n ≤ 8) : fieldF (a ++ (m ++ b)) off n = (beVal m : Int) := by
  rw [fieldF_eq _ _ _ hn]
  subst ha; subst hm
  simp
/-- the header's parts -/
theorem hbytes_eq (kind stream number len : Int) : hbytes kind stream number len = beN 1 245 ++ (beN 1 kind ++ (beN 4 stream ++ (beN 8 number ++ beN 4 len))) := by
  simp [hbytes, hpart, List.range_succ, szs, hvals]
structure FrOk (kind stream number : Int) (n : Nat) : Prop where
  k0 : 0 ≤ kind
  k1 : kind ≤ 255
  s0 : 0 ≤ stream
  s1 : stream ≤ 2147483647
  n0 : 0 ≤ number
  n1 : number ≤ 1099511627775
  l : n ≤ 262144
theorem hbytes_fields {kind stream number : Int} {n : Nat} (h : FrOk kind stream number n) :
    fieldF (hbytes kind stream number n) 1 1 = kind ∧ fieldF (hbytes kind stream number n) 2 4 = stream ∧ fieldF (hbytes kind stream number n) 6 8 = number ∧ beVal (((hbytes kind stream number n).drop 14).take 4) = n := by
  obtain ⟨k0, k1, s0, s1, n0, n1, hl⟩ := h
  rw [hbytes_eq]
  refine ⟨?_, ?_, ?_, ?_⟩
  · rw [fieldF_at (beN 1 245) (beN 1 kind) _ 1 1 (by simp [beN_length]) (by simp [beN_length]) (by omega)]
    exact beVal_beN 1 kind k0 (by omega)
  · rw [← List.append_assoc, fieldF_at (beN 1 245 ++ beN 1 kind) (beN 4 stream) _ 2 4 (by simp [beN_length]) (by simp [beN_length]) (by omega)]
    exact beVal_beN 4 stream s0 (by omega)
  · rw [← List.append_assoc, ← List.append_assoc, fieldF_at (beN 1 245 ++ beN 1 kind ++ beN 4 stream) (beN 8 number) _ 6 8 (by simp [beN_length]) (by simp [beN_length]) (by omega)]
    exact beVal_beN 8 number n0 (by omega)
  · rw [← List.append_assoc, ← List.append_assoc, ← List.append_assoc, List.drop_left' (by simp [beN_length]), List.take_of_length_le (by simp [beN_length])]
    have := beVal_beN 4 (n : Int) (by omega) (by omega)
    omega
theorem hbytes_head (kind stream number len : Int) : (hbytes kind stream number len).getD 0 0 = 245 := by
  rw [hbytes_eq]; rfl
/-- what Encode writes, Decode reads, whatever comes behind -/
theorem decode_encode {kind stream number : Int} {p : List UInt8} (h : FrOk kind stream number p.length) (rest : List UInt8) :
    decodeF (encodeF kind stream number p ++ rest) = .ok (⟨kind, stream, number, p⟩, 26 + p.length + 16) := by
  obtain ⟨f1, f2, f3, f4⟩ := hbytes_fields h
  have hH := hbytes_length kind stream number p.length
  have hh0 := hbytes_head kind stream number p.length
  have hx : encodeF kind stream number p ++ rest = hbytes kind stream number p.length ++ ((tagged 10 [hbytes kind stream number p.length]).take 8 ++ (p ++ ((tagged 11 [hbytes kind stream number p.length, p]).take 16 ++ rest))) := by simp [encodeF, List.append_assoc]
  rw [hx]
  generalize hbytes kind stream number p.length = H at *
  have t1 : ((tagged 10 [H]).take 8).length = 8 := by simp [tagged_length]
  have t2 : ((tagged 11 [H, p]).take 16).length = 16 := by simp [tagged_length]
  have hl : (H ++ ((tagged 10 [H]).take 8 ++ (p ++ ((tagged 11 [H, p]).take 16 ++ rest)))).length = 26 + p.length + 16 + rest.length := by
    simp only [List.length_append, hH, t1, t2]; omega
  have e1 : (H ++ ((tagged 10 [H]).take 8 ++ (p ++ ((tagged 11 [H, p]).take 16 ++ rest)))).take 18 = H := List.take_left' hH
  have e2 : (H ++ ((tagged 10 [H]).take 8 ++ (p ++ ((tagged 11 [H, p]).take 16 ++ rest)))).getD 0 0 = 245 := by
    rw [List.getD_eq_getElem?_getD, List.getElem?_append_left (by omega), ← List.getD_eq_getElem?_getD]; exact hh0
  have e3 : ((H ++ ((tagged 10 [H]).take 8 ++ (p ++ ((tagged 11 [H, p]).take 16 ++ rest)))).drop 18).take 8 = (tagged 10 [H]).take 8 := by
    rw [List.drop_left' hH, List.take_left' t1]
  have e4 : ((H ++ ((tagged 10 [H]).take 8 ++ (p ++ ((tagged 11 [H, p]).take 16 ++ rest)))).drop 26).take p.length = p := by
    rw [← List.append_assoc H, List.drop_left' (by rw [List.length_append, hH, t1]), List.take_left' rfl]
  have e5 : ((H ++ ((tagged 10 [H]).take 8 ++ (p ++ ((tagged 11 [H, p]).take 16 ++ rest)))).drop (26 + p.length)).take 16 = (tagged 11 [H, p]).take 16 := by
    rw [← List.append_assoc H, ← List.append_assoc _ p, List.drop_left' (by rw [List.length_append, List.length_append, hH, t1]), List.take_left' t2]
  have hne : H ++ ((tagged 10 [H]).take 8 ++ (p ++ ((tagged 11 [H, p]).take 16 ++ rest))) ≠ [] := fun e => by rw [e] at hl; simp at hl; omega
  generalize H ++ ((tagged 10 [H]).take 8 ++ (p ++ ((tagged 11 [H, p]).take 16 ++ rest))) = X at *
  unfold decodeF
  simp only [e1, f4, e4, f1, f2, f3]
  rw [if_neg hne, if_neg (by simpa using e2), if_neg (by omega), if_neg (by simpa using e3), if_neg (by have := h.s1; have := h.n1; omega), if_neg (by have := h.l; omega), if_neg (by omega), if_neg (by simpa using e5)]
/-- what is read, told by the header alone -/
theorem decode_header {x : List UInt8} {f : FrameV} {s : Nat} (hd : decodeF x = .ok (f, s)) {kind stream number : Int} {n : Nat} (h : FrOk kind stream number n) (hx : x.take 18 = hbytes kind stream number n) :
    f.kind = kind ∧ f.stream = stream ∧ f.number = number := by
  obtain ⟨f1, f2, f3, f4⟩ := hbytes_fields h
  unfold decodeF at hd
  simp only [hx] at hd
  repeat' split at hd
  all_goals first | (cases hd; done) | skip
  cases hd
  exact ⟨f1, f2, f3⟩
theorem decode_mark {x : List UInt8} (h : x.getD 0 0 ≠ 245) : ∃ e, decodeF x = .error e := by
  unfold decodeF
  simp only
  by_cases h0 : x = []
  · exact ⟨_, if_pos h0⟩
  · exact ⟨3, by rw [if_neg h0, if_pos h]⟩

/-! ### numbers -/
theorem natF_shape : ∀ u : Nat, ∃ l b, natF u = l ++ [b] ∧ (∀ x ∈ l, 128 ≤ x.toNat) ∧ b.toNat < 128 ∧ (l ≠ [] → b.toNat ≠ 0) ∧ val7 (l ++ [b]) = u ∧ (u ≠ 0 → b.toNat ≠ 0) := by
  intro u
  induction u using Nat.strongRecOn with
  | _ u ih =>
    by_cases h : u < 128
    · have hb := b8_toNat' (u : Int)
      refine ⟨[], b8 u, by rw [natF_lt h]; rfl, by simp, by omega, by simp, ?_, by omega⟩
      simp [val7]; omega
    · obtain ⟨l, b, h1, h2, h3, h4, h5, h6⟩ := ih (u / 128) (by omega)
      have hb := b8_toNat' ((u % 128 + 128 : Nat) : Int)
      refine ⟨b8 ((u % 128 + 128 : Nat) : Int) :: l, b, by rw [natF_ge (by omega), h1]; rfl, ?_, h3, fun _ => h6 (by omega), ?_, fun _ => h6 (by omega)⟩
      · intro x hx
        rcases List.mem_cons.1 hx with rfl | hx
        · omega
        · exact h2 x hx
      · show (b8 ((u % 128 + 128 : Nat) : Int)).toNat % 128 + 128 * val7 (l ++ [b]) = u
        rw [h5]; omega
theorem takeWhile_app (p : UInt8 → Bool) (l : List UInt8) (b : UInt8) (r : List UInt8) (h : ∀ x ∈ l, p x = true) (hb : p b = false) : (l ++ b :: r).takeWhile p = l := by
  induction l with
  | nil => simp [hb]
  | cons x l ih => simp [h x (by simp), ih (fun y hy => h y (by simp [hy]))]
theorem parseF_natF (u : Nat) (rest : List UInt8) (hu : u < 9223372036854775808) : parseF (natF u ++ rest) = .ok (u, (natF u).length) := by
  have hl9 := natF_length 8 u (by rw [show 128 ^ (8 + 1) = 9223372036854775808 from by decide]; exact hu)
  obtain ⟨l, b, h1, h2, h3, h4, h5, _⟩ := natF_shape u
  rw [h1] at hl9 ⊢
  simp only [List.length_append, List.length_singleton] at hl9 ⊢
  have hlead : lead9 (l ++ [b] ++ rest) = l.length := by
    unfold lead9
    rw [List.append_assoc, List.singleton_append, takeWhile_app _ l b rest (fun x hx => by simpa using h2 x hx) (by simp; omega)]
    omega
  unfold parseF
  simp only [hlead]
  have hw : wd (l ++ [b] ++ rest) l.length = b.toNat := by
    unfold wd
    simp [List.getD_eq_getElem?_getD]
  have ht : (l ++ [b] ++ rest).take (l.length + 1) = l ++ [b] := List.take_left' (by simp)
  rw [if_neg (by omega), if_neg (by simp only [List.length_append, List.length_singleton]; omega), if_neg, ht, h5]
  rw [hw]
  rintro ⟨g1, g2⟩
  exact h4 (fun e => by rw [e] at g1; simp at g1) (by omega)
theorem rdNum_natF (m : Int) (u : Nat) (rest : List UInt8) (hm : (u : Int) ≤ m) (hu : u < 9223372036854775808) : rdNum m (natF u ++ rest, 0) = ((u : Int), rest, 0) := by
  unfold rdNum
  rw [if_neg (by simp)]
  simp only
  have : numF m (natF u ++ rest) = .ok (u, (natF u).length) := by
    unfold numF
    rw [parseF_natF u rest hu]
    simp only
    rw [if_neg (by omega)]
  rw [this]
  simp
/-- a head that was written is read -/
theorem headF_at {d : DK} {a : AR} {h : HV} (hh : h.ok) (hp : h.place < a.places) (hb : h.base ≤ h.generation) (rest : List UInt8) (hv : d.vis ((a.first + h.generation % 2 : Nat) : Int) = h.text ++ rest) : headF d a (h.generation % 2) = some h := by
  have hpay := hh.pay
  have hk := hh.g
  have hf := hh.f
  have hpp := hh.p
  have e1 : rdNum 1099511627775 (h.pay, 0) = ((h.first : Int), natF h.place ++ natF h.base, 0) := by
    unfold HV.pay
    rw [List.append_assoc]
    exact rdNum_natF _ _ _ (by omega) (by omega)
  have e2 : rdNum ((a.places : Int) - 1) (natF h.place ++ natF h.base, 0) = ((h.place : Int), natF h.base, 0) := rdNum_natF _ _ _ (by omega) (by omega)
  have e3 : rdNum (h.generation : Int) (natF h.base, 0) = ((h.base : Int), [], 0) := by
    have := rdNum_natF (h.generation : Int) h.base [] (by omega) (by have := hh.b; omega)
    rwa [List.append_nil] at this
  have hdec : decodeF (d.vis ((a.first + h.generation % 2 : Nat) : Int)) = .ok (⟨1, h.generation, 0, h.pay⟩, 26 + h.pay.length + 16) := by
    rw [hv]
    exact decode_encode ⟨by omega, by omega, by omega, by omega, by omega, by omega, by omega⟩ rest
  have hm : ((h.generation : Int) % 2 = ((h.generation % 2 : Nat) : Int)) := by omega
  clear hpay hk hf hpp hh hp hb hv
  unfold headF
  rw [hdec]
  simp only
  rw [if_pos ⟨trivial, trivial, hm⟩, e1]
  simp only
  rw [e2]
  simp only
  rw [e3]
  simp only
  rw [if_pos ⟨trivial, trivial⟩]
  simp only [Int.toNat_natCast]
end
end Go.Proofs.YtgopdbpddemplaaDoor
