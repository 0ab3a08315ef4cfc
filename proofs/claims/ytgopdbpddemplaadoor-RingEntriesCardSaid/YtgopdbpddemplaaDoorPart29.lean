/- ring: Open, where there is a head. -/
import Derived.Test.YtgopdbpddemplaaDoorPart28
set_option linter.unusedSimpArgs false
set_option linter.unusedVariables false
namespace Go.Proofs.YtgopdbpddemplaaDoor
section
/- ring: Open, where there is a head. -/
open Go.RowKit Go.Shelf
attribute [local go_sem] Oper.semAt_some

theorem findF_inv {d : DK} : ∀ (k : Nat) (s : FSt), s.1.used ≤ s.1.a.places → s.1.es.length ≤ s.1.used → s.2.2.length = s.1.es.length →
    (findF d k s).1.a = s.1.a ∧ (findF d k s).1.h = s.1.h ∧ (findF d k s).1.synced = s.1.synced ∧ (findF d k s).1.failed = s.1.failed ∧ (findF d k s).1.used ≤ s.1.a.places ∧ (findF d k s).1.es.length ≤ (findF d k s).1.used ∧ (findF d k s).2.2.length = (findF d k s).1.es.length
  | 0, s, h1, h2, h3 => ⟨rfl, rfl, rfl, rfl, h1, h2, h3⟩
  | k + 1, s, h1, h2, h3 => by
    unfold findF
    cases hs : findStep d s with
    | none => exact ⟨rfl, rfl, rfl, rfl, h1, h2, h3⟩
    | some t =>
      obtain ⟨a1, a2, a3, a4, a5, a6, a7, a8, a9⟩ := findStep_inv hs h1 h2
      obtain ⟨b1, b2, b3, b4, b5, b6, b7⟩ := findF_inv k t a5 a6 (by omega)
      exact ⟨b1.trans a1, b2.trans a2, b3.trans a3, b4.trans a4, by rw [a1] at b5; exact b5, b6, b7⟩
theorem Res3.ne {w : World} {b : Nat} {v1 v2 v3 : Value} (h : Res3 w b v1 v2 v3) {B e k n : Nat} {v : Value} {xs : List Value} (ho : w.ownsRow B e k v n xs) (h1 : e ≠ 26) (h2 : e ≠ 39) (h3 : e ≠ 32) : ∀ x ∈ [b + 1, b + 1 + 1, b + 1 + 1 + 1], v.ownBlock ≠ some x := fun x hx => by
  simp only [List.mem_cons, List.not_mem_nil, or_false] at hx
  rcases hx with rfl | rfl | rfl
  · exact own_row_ne ho h.r1 h1
  · exact own_row_ne ho h.r2 h2
  · exact own_row_ne ho h.r3 h3
theorem DiskAt.tightD {F : List Nat} {w : World} {p : Nat} {d : DK} (h : DiskAt w p d F) : ∃ F1, DiskAt w p d F1 ∧ (∀ x ∈ F1, x ∈ F ∧ x < w.heap.size) ∧ ∀ x ∈ F1, ∀ o, w.heap[x]? = some (.deferred o) → False := by
  obtain ⟨m1, v, m2, hi, j1, j2, j3, j4⟩ := h.is
  obtain ⟨f1, ⟨es1, c1, hm1, hi1⟩, _⟩ := hi.dur
  obtain ⟨es2, c2, hm2, hi2⟩ := hi.last
  refine ⟨p :: m1 :: m2 :: v.ownBlock.toList, hi.at (by simp) (by simp) (by simp) (fun k e => by rw [e]; simp), fun x hx => ?_, fun x hx o ho => ?_⟩
  · simp only [List.mem_cons] at hx
    rcases hx with rfl | rfl | rfl | hx
    · exact ⟨j1, lt_of_heap hi.row⟩
    · exact ⟨j2, lt_of_heap hm1⟩
    · exact ⟨j3, lt_of_heap hm2⟩
    · have hx' : v.ownBlock = some x := by simpa using hx
      exact ⟨j4 x hx', (World.ownsRow.lt hi.pend x hx').2⟩
  · simp only [List.mem_cons] at hx
    rcases hx with rfl | rfl | rfl | hx
    · rw [hi.row] at ho; cases ho
    · rw [hm1] at ho; cases ho
    · rw [hm2] at ho; cases ho
    · have hx' : v.ownBlock = some x := by simpa using hx
      rcases hi.pend.2 with ⟨rfl, _⟩ | ⟨g, cap, cur, rfl, _, hg, _⟩
      · cases hx'
      · simp [Value.ownBlock] at hx'
        subst hx'
        rw [hg] at ho; cases ho
theorem chunk_nil (x : Nat) : chunkF x [] = zero512 := by
  unfold chunkF padTo zero512
  split
  · rfl
  · simp only [List.take_nil, List.nil_append, List.length_nil, Nat.sub_zero]; rfl
set_option maxRecDepth 100000 in
set_option maxHeartbeats 2000000 in
theorem open_main {F : List Nat} {w : World} {p : Nat} {d : DK} (hG : Glob w) (h : DiskAt w p d F) (first blocks : Int) (hb0 : 0 ≤ d.blocks) (hb1 : d.blocks ≤ 8192) (hfi : first ≤ 9223372036854775807) (hlen : d.pend.length ≤ 50000000) (hFG : ∀ x ∈ F, 3 ≤ x) (he : areaErr d first blocks = 0) (h0 : HV) (hc : currentF d (areaN p first blocks) = some h0) (hm : h0.generation ≠ 2147483647) :
    Calls Tryd.prog 13 #[.pointer (some ⟨p, 0, none⟩), .int .i64 first, .int .i64 blocks] w (OpenPost w F p (openF d p first blocks)) := by
  have HF : Hid (openF d p first blocks = (let a := areaN p first blocks; let s := findF d a.places (⟨a, h0, [], 0, 0, 0⟩, h0.base, []); let W := if a.places - s.1.used = 0 then (0, d) else d.write (a.blk ((h0.place + s.1.used) % a.places) 0) zero512; if W.1 ≠ 0 then (W.1, W.2, none) else let P := putD W.2 a { h0 with generation := h0.generation + 1 }; if P.1 ≠ 0 then (P.1, P.2, none) else (0, P.2, some ({ s.1 with h := { h0 with generation := h0.generation + 1 }, synced := h0.first + s.1.es.length }, s.2.2)))) := Lib.hid (by unfold openF; rw [if_neg (by simpa using he)]; simp only; rw [hc]; simp only; rw [if_neg hm])
  obtain ⟨ha, hf, hd, h2, -, -⟩ := area_ok (p := p) he hb1
  have HR : Hid (areaR d p first blocks = .tuple #[.agg (areaN p first blocks).cells, .int .i64 0]) := Lib.hid (by unfold areaR; rw [he]; rfl)
  have hap : (areaN p first blocks).p = p := rfl
  obtain ⟨a, hae⟩ : ∃ a, areaN p first blocks = a := ⟨_, rfl⟩
  simp only [hae] at ha hf h2 HF HR hap hc
  clear he hae
  subst hap
  unfold AR.cells at HR
  have ha1 := ha.2.1
  have ha2 := ha.2.2
  obtain ⟨k1, k2, k3⟩ := currentF_ok ha hc
  have HC := Lib.hid hc
  clear hc
  have hmb : ((h0.generation : Int) == 2147483647) = false := by simpa using (fun e => hm (by omega))
  have hgm := k1.g
  have hgm' : h0.generation < 2147483647 := by omega
  clear hm
  have hplm : a.places ≤ 500000 := by unfold AR.fits at hf; omega
  obtain ⟨F1, hD1, hF1⟩ := h.tight
  have hinv := findF_inv (d := d) a.places (⟨a, h0, [], 0, 0, 0⟩, h0.base, []) (Nat.zero_le _) (Nat.le_refl _) rfl
  obtain ⟨⟨⟨ra, rh, es, used, sy, fl⟩, st, l⟩, hS⟩ : ∃ s, findF d a.places (⟨a, h0, [], 0, 0, 0⟩, h0.base, []) = s := ⟨_, rfl⟩
  rw [hS] at hinv
  simp only [hS] at HF
  simp only at hinv
  obtain ⟨e1, e2, e3, e4, i1, i2, i3⟩ := hinv
  obtain rfl := e1.symm
  obtain rfl := e2.symm
  obtain rfl := e3.symm
  obtain rfl := e4.symm
  have HS := Lib.hid hS
  clear hS
  by_cases hfr : a.places - used = 0
  · have HFR := Lib.hid hfr
    have HF2 := HF.out
    rw [if_pos hfr] at HF2
    have HF := Lib.hid HF2
    clear HF2 hfr
    refine (callsIn_wide (n := 20)).1 ?_
    refine callsIn_of_wp_marks Tryd.func13 rfl trivial ?_ rfl
    simp only [Tryd.ntmps13, List.size_toArray, List.length_cons, List.length_nil, Nat.reduceAdd, Nat.reduceSub, Array.replicate_succ, Array.replicate_zero, List.push_toArray, List.append_toArray, List.nil_append, List.cons_append]
    refine wpIn_wide.2 ?_
    go_wp2_with (first
      | (go_at_call 28; refine (areaOf_any (h.keep0 (((((Keep.refl [] w).alloc _).alloc _).alloc _).alloc _)) first blocks hb0 hb1 hfi).mono ?_; rw [HR.out]; rintro e w1 ⟨rfl, hk1⟩
         obtain ⟨hB1, hkw1, rD1, hs1⟩ := boxes3 hk1
         have hG2 := hG.keep0 (hkw1.alloc (.cells #[.pointer (some ⟨a.p, 0, none⟩), .int .i64 a.first, .int .i64 a.places] 63))
         have hD2 := h.keep0 (hkw1.alloc (.cells #[.pointer (some ⟨a.p, 0, none⟩), .int .i64 a.first, .int .i64 a.places] 63))
         have hB2 := hB1.keep0 ((Keep.refl [] w1).alloc (.cells #[.pointer (some ⟨a.p, 0, none⟩), .int .i64 a.first, .int .i64 a.places] 63)))
      | (go_at_call 29; refine (current_any hG2 hD2 hd ha hf).mono ?_; rw [HC.out]; rintro e w2 ⟨rfl, hk2⟩; simp only [headV, HV.cells]
         have hB3 := (hB2.keep0 hk2).keep0 ((Keep.refl [] w2).alloc (.cells #[.int .i64 h0.generation, .int .i64 h0.first, .int .i64 h0.place, .int .i64 h0.base] 61))
         have hkw3 := ((hkw1.alloc (.cells #[.pointer (some ⟨a.p, 0, none⟩), .int .i64 a.first, .int .i64 a.places] 63)).then hk2).alloc (.cells #[.int .i64 h0.generation, .int .i64 h0.first, .int .i64 h0.place, .int .i64 h0.base] 61)
         have rA2 := hk2.get (heap_alloc_new w1 (.cells #[.pointer (some ⟨a.p, 0, none⟩), .int .i64 a.first, .int .i64 a.places] 63)) (by simp)
         obtain ⟨ca, fa, cb, fb, cc, fc⟩ := hB3.cells
         have rA3 := ((Keep.refl [] w2).alloc (.cells #[.int .i64 h0.generation, .int .i64 h0.first, .int .i64 h0.place, .int .i64 h0.base] 61)).get rA2 (by simp)
         have cA0 := (cell_row' (j := 0) rA3).trans rfl
         have cA1 := (cell_row' (j := 1) rA3).trans rfl
         have cA2 := (cell_row' (j := 2) rA3).trans rfl
         have hs2 := hk2.size
         simp only [World.size_alloc] at hs2
         have hR3 : RingIs ((w2.alloc (.cells #[.int .i64 h0.generation, .int .i64 h0.first, .int .i64 h0.place, .int .i64 h0.base] 61)).alloc (.cells #[.pointer (some ⟨a.p, 0, none⟩), .int .i64 a.first, .int .i64 a.places, .int .i64 h0.generation, .int .i64 h0.first, .int .i64 h0.place, .int .i64 h0.base, .slice none 0 0, .int .i64 0, .int .i64 0, .int .i64 0] 66)) (w2.heap.size + 1) ⟨a, h0, [], 0, 0, 0⟩ (.slice none 0 0) := ⟨heap_alloc_at (by simp), World.ownsRow_nil _ _ _ _⟩
         have hkw4 := hkw3.alloc (.cells #[.pointer (some ⟨a.p, 0, none⟩), .int .i64 a.first, .int .i64 a.places, .int .i64 h0.generation, .int .i64 h0.first, .int .i64 h0.place, .int .i64 h0.base, .slice none 0 0, .int .i64 0, .int .i64 0, .int .i64 0] 66))
      | (go_at_call 30; refine (find_ok (hG.keep0 hkw4) hR3 ⟨ha, k1, Nat.zero_le _, by simp⟩ (Nat.le_refl _) (hD1.keep0 hkw4) hd hf (fun hm => by have := (hF1 _ hm).2; omega) (fun k e => by cases e) (fun x hx => by have := (hF1 _ hx).2; simp only [World.size_alloc]; omega) (by have := hG.lt; omega) (fun k e => by cases e) (by simp only; omega) hplm).mono ?_; rw [HS.out]; rintro e w3 ⟨lv, v, rfl, hR4, hE4, hk4, hv4⟩
         have hkw5 : Keep [] w w3 := (hkw4.trans hk4 (fun x hx => Or.inr (by rw [List.mem_singleton.1 (show x ∈ [w2.heap.size + 1] from hx)]; omega)))
         have hE4 : EntsAt w3 w.heap.size lv l := ⟨hE4.1, hE4.2.imp id (fun ⟨g, cap, cur, e1, e2, e3⟩ => ⟨g, cap, cur, e1, by simp only [World.size_alloc] at e2; omega, e3⟩)⟩
         have hv4 : ∀ k, v.ownBlock = some k → w.heap.size ≤ k ∧ k < w3.heap.size := fun k e => ⟨by
           rcases hv4 with h | ⟨k', h1, h2⟩
           · rw [h] at e; cases e
           · rw [h1] at e; cases e; simp only [World.size_alloc] at h2; omega, (World.ownsRow.lt hR4.es k e).2⟩
         have hrp4 := lt_of_heap hR4.row
         obtain ⟨la, ln, lc, rfl⟩ := hE4.isSlice)
      | (go_at_call 15; refine (free_any hR4 ⟨ha, k1, i1, by simp only; omega⟩).mono ?_; rw [HFR.out]; rintro e w4 ⟨rfl, hk5⟩
         have hR5 : RingIs w4 (w2.heap.size + 1) ⟨a, h0, es, used, 0, 0⟩ v := ⟨hk5.get hR4.row (by simp), OwnLike.keep hR4.es hk5 (by simp)⟩
         have hE5 := hE4.keep hk5 (by simp)
         have hkw6 := hkw5.then hk5
         have hs5 := hk5.size
         have hB5 := ((hB3.keep0 ((Keep.refl [] _).alloc (.cells #[.pointer (some ⟨a.p, 0, none⟩), .int .i64 a.first, .int .i64 a.places, .int .i64 h0.generation, .int .i64 h0.first, .int .i64 h0.place, .int .i64 h0.base, .slice none 0 0, .int .i64 0, .int .i64 0, .int .i64 0] 66))).keep hk4 (by simp [Value.ownBlock]; omega) (by simp [Value.ownBlock]; omega) (by simp [Value.ownBlock]; omega)).keep0 hk5
         have rA5 := hk5.get (hk4.get (((Keep.refl [] _).alloc (.cells #[.pointer (some ⟨a.p, 0, none⟩), .int .i64 a.first, .int .i64 a.places, .int .i64 h0.generation, .int .i64 h0.first, .int .i64 h0.place, .int .i64 h0.base, .slice none 0 0, .int .i64 0, .int .i64 0, .int .i64 0] 66)).get rA3 (by simp)) (by simp [Value.ownBlock]; omega)) (by simp)
         have rD5 := hk5.get (hk4.get (((Keep.refl [] _).alloc (.cells #[.pointer (some ⟨a.p, 0, none⟩), .int .i64 a.first, .int .i64 a.places, .int .i64 h0.generation, .int .i64 h0.first, .int .i64 h0.place, .int .i64 h0.base, .slice none 0 0, .int .i64 0, .int .i64 0, .int .i64 0] 66)).get (((Keep.refl [] w2).alloc (.cells #[.int .i64 h0.generation, .int .i64 h0.first, .int .i64 h0.place, .int .i64 h0.base] 61)).get (hk2.get (((Keep.refl [] w1).alloc _).get rD1 (by simp)) (by simp)) (by simp)) (by simp)) (by simp [Value.ownBlock]; omega)) (by simp)
         have cR3 : w4.cell? ⟨w2.heap.size + 1, 3, none⟩ = some (.int .i64 h0.generation) := (cell_row' (j := 3) hR5.row).trans rfl
         have fR3 := frozen_row' (j := 3) hR5.row))
    have hRp := hR5
    have hDp := hD1.keep0 hkw6
    have hEp := hE5
    have hBp := hB5
    have rAp := rA5
    have hGp := hG.keep0 hkw6
    have hkp := hkw6.mono (F' := F1) (by simp)
    have hdW := hd
    have hfW := hf
    have hlW : d.pend.length ≤ 100000000 := by omega
    have hrpF : w2.heap.size + 1 ∉ F1 := fun hm => by have := (hF1 _ hm).2; omega
    have hvF : ∀ k, v.ownBlock = some k → k ∉ F1 := fun k e hm => by have := (hF1 _ hm).2; have := (hv4 k e).1; omega
    have hlF : ∀ k, (Value.slice la ln lc).ownBlock = some k → k ∉ F1 := fun k e hm => by have := (hF1 _ hm).2; have := (World.ownsRow.lt hE5 k e).1; omega
    have hbF : ∀ x ∈ [w.heap.size + 1, w.heap.size + 1 + 1, w.heap.size + 1 + 1 + 1], x ∉ F1 := fun x hx hm => by have := (hF1 _ hm).2; simp only [List.mem_cons, List.not_mem_nil, or_false] at hx; omega
    have hFW2 : ∀ x ∈ F1, x ∈ F ∨ w.heap.size ≤ x := fun x hx => Or.inl (hF1 x hx).1
    have HP := Lib.hid (HF.out.trans (if_neg (by simp)))
    obtain ⟨W5, hW5⟩ : ∃ W5, W5 = w4.setCell ⟨w2.heap.size + 1, 3, none⟩ (.int .i64 ((h0.generation : Int) + 1)) := ⟨_, rfl⟩
    rw [← hW5]
    have hkr5 : Keep [w2.heap.size + 1] w4 W5 := by rw [hW5]; exact (Keep.refl _ _).setCell (by simp) _
    have hvrp : v.ownBlock ≠ some (w2.heap.size + 1) := own_row_ne hRp.es hRp.row (by decide)
    have hlrp : (Value.slice la ln lc).ownBlock ≠ some (w2.heap.size + 1) := own_row_ne hEp hRp.row (by decide)
    have hR6 : RingIs W5 (w2.heap.size + 1) ⟨a, (⟨h0.generation + 1, h0.first, h0.place, h0.base⟩ : HV), es, used, 0, 0⟩ v := ⟨by rw [hW5]; exact (heap_setCell_same w4 (w2.heap.size + 1) 3 _ _ _ hRp.row).trans (by simp [RV.cells]), OwnLike.keep hRp.es hkr5 (by simpa using hvrp)⟩
    clear hW5
    have hD6 : DiskAt W5 a.p d F1 := hDp.keep hkr5 (fun x hx hm => by rw [List.mem_singleton.1 hm] at hx; exact hrpF hx)
    have hB6 : Res3 W5 w.heap.size (.pointer none) (.slice none 0 0) (.int .i64 0) := hBp.keep hkr5 (by simp; omega) (by simp; omega) (by simp; omega)
    have rA6 := hkr5.get rAp (by simp; omega)
    have hG6 : Glob W5 := hGp.keep hkr5 (fun x hx => by rw [List.mem_singleton.1 hx]; have := hG.lt; omega)
    have hE6 := hEp.keep hkr5 (by simpa using hlrp)
    have hk6 : Keep F1 w W5 := hkp.trans hkr5 (fun x hx => Or.inr (by rw [List.mem_singleton.1 hx]; omega))
    have hok6 : RV.ok ⟨a, (⟨h0.generation + 1, h0.first, h0.place, h0.base⟩ : HV), es, used, 0, 0⟩ := ⟨ha, ⟨by simp only; omega, k1.f, k1.p, k1.b⟩, i1, by simp only; omega⟩
    have hrp6 := lt_of_heap hR6.row
    obtain ⟨P, hP⟩ : ∃ P, putD d a (⟨h0.generation + 1, h0.first, h0.place, h0.base⟩ : HV) = P := ⟨_, rfl⟩
    rw [hP] at HP
    have HW := Lib.hid hP
    clear hP
    obtain ⟨Post, hPost⟩ : ∃ Post : World → Prop, Post = fun w' => ∃ F', DiskAt w' a.p P.2 F' ∧ Keep F1 W5 w' ∧ ∀ x ∈ F', x ∈ F1 ∨ W5.heap.size ≤ x := ⟨_, rfl⟩
    refine wp_region_ghost (fun a b => Post a → Post b) (fun listed a => listed.getD 5 false = false → Keep [] W5 a)
      [fun v _ => v = .agg a.cells, fun v _ => v = .pointer (some ⟨w2.heap.size + 1, 0, none⟩), fun v _ => v = .pointer (some ⟨w2.heap.size + 1, 0, none⟩), fun v _ => v = .pointer (some ⟨w2.heap.size + 1, 3, none⟩), fun v _ => v = .agg (⟨h0.generation + 1, h0.first, h0.place, h0.base⟩ : HV).cells,
       fun v w' => v = .int .i64 P.1 ∧ Post w', fun v _ => v = .int .i64 P.1] (by kernel_rfl) (by kernel_rfl) (by kernel_rfl) (fun _ _ _ h k e => k (h e)) (fun _ e => e) ?sta (fun _ => (Keep.refl _ _).drew) ?mai
    case sta => simp only [Stable]; exact ⟨fun _ _ _ _ h => h, fun _ _ _ _ h => h, fun _ _ _ _ h => h, fun _ _ _ _ h => h, fun _ _ _ _ h => h, fun _ _ _ hk h => ⟨h.1, hk h.2⟩, fun _ _ _ _ h => h, trivial⟩
    case mai =>
      simp only [List.length_cons, List.length_nil, Nat.zero_add, Nat.reduceAdd, AllVals]
      intro z0 z1 z2 z3 z4 z5 z6
      simp only [putAll, Act.put, List.setIfInBounds_toArray, List.set_cons_zero, List.set_cons_succ, StepsAtG]
      refine ⟨?stp, ?fin⟩
      case' stp => repeat' apply And.intro
      all_goals try (first | trivial | exact True.intro)
      · intro wq K listed hR hP hG hL hS hC hK
        simp only [Pre, Region.binds, List.getD_cons_zero, List.getD_cons_succ, true_imp_iff, forall_const, and_true, true_and] at hP
        simp only [Act.put, List.setIfInBounds_toArray, List.set_cons_zero, List.set_cons_succ] at hK
        have hkq : Keep [] W5 wq := hG (hC.notYet 10 5 0 (by kernel_rfl) hL)
        have ra := hkq.get rA6 (by simp)
        have c0 : wq.cell? ⟨w1.heap.size, 0, none⟩ = some (.pointer (some ⟨a.p, 0, none⟩)) := (cell_row' (j := 0) ra).trans rfl
        have c1 : wq.cell? ⟨w1.heap.size, 1, none⟩ = some (.int .i64 a.first) := (cell_row' (j := 1) ra).trans rfl
        have c2 : wq.cell? ⟨w1.heap.size, 2, none⟩ = some (.int .i64 a.places) := (cell_row' (j := 2) ra).trans rfl
        go_wp2
        exact hK _ _ id rfl (fun _ => hkq)
      · intro wq K listed hR hP hG hL hS hC hK
        simp only [Pre, Region.binds, List.getD_cons_zero, List.getD_cons_succ, true_imp_iff, forall_const, and_true, true_and] at hP
        simp only [Act.put, List.setIfInBounds_toArray, List.set_cons_zero, List.set_cons_succ] at hK
        have hkq : Keep [] W5 wq := hG (hC.notYet 10 5 1 (by kernel_rfl) hL)
        go_wp2
        exact hK _ _ id rfl (fun _ => hkq)
      · intro wq K listed hR hP hG hL hS hC hK
        simp only [Pre, Region.binds, List.getD_cons_zero, List.getD_cons_succ, true_imp_iff, forall_const, and_true, true_and] at hP
        simp only [Act.put, List.setIfInBounds_toArray, List.set_cons_zero, List.set_cons_succ] at hK
        have hkq : Keep [] W5 wq := hG (hC.notYet 10 5 2 (by kernel_rfl) hL)
        subst hP
        go_wp2
        exact hK _ _ id rfl (fun _ => hkq)
      · intro wq K listed hR hP hG hL hS hC hK
        simp only [Pre, Region.binds, List.getD_cons_zero, List.getD_cons_succ, true_imp_iff, forall_const, and_true, true_and] at hP
        simp only [Act.put, List.setIfInBounds_toArray, List.set_cons_zero, List.set_cons_succ] at hK
        have hkq : Keep [] W5 wq := hG (hC.notYet 10 5 3 (by kernel_rfl) hL)
        subst hP
        go_wp2
        exact hK _ _ id rfl (fun _ => hkq)
      · intro wq K listed hR hP hG hL hS hC hK
        simp only [Pre, Region.binds, List.getD_cons_zero, List.getD_cons_succ, true_imp_iff, forall_const, and_true, true_and] at hP
        simp only [Act.put, List.setIfInBounds_toArray, List.set_cons_zero, List.set_cons_succ] at hK
        have hkq : Keep [] W5 wq := hG (hC.notYet 10 5 4 (by kernel_rfl) hL)
        subst hP
        have rr := hkq.get hR6.row (by simp)
        have c3 : wq.cell? ⟨w2.heap.size + 1, 3, none⟩ = some (.int .i64 ((h0.generation + 1 : Nat) : Int)) := (cell_row' (j := 3) rr).trans rfl
        have c4 : wq.cell? ⟨w2.heap.size + 1, 4, none⟩ = some (.int .i64 h0.first) := (cell_row' (j := 4) rr).trans rfl
        have c5 : wq.cell? ⟨w2.heap.size + 1, 5, none⟩ = some (.int .i64 h0.place) := (cell_row' (j := 5) rr).trans rfl
        have c6 : wq.cell? ⟨w2.heap.size + 1, 6, none⟩ = some (.int .i64 h0.base) := (cell_row' (j := 6) rr).trans rfl
        go_wp2
        exact hK _ _ id rfl (fun _ => hkq)
      · intro wq K listed hR hP hG hL hS hC hK
        simp only [Pre, Region.binds, List.getD_cons_zero, List.getD_cons_succ, true_imp_iff, forall_const, and_true, true_and] at hP
        simp only [Act.put, List.setIfInBounds_toArray, List.set_cons_zero, List.set_cons_succ] at hK
        have hkq : Keep [] W5 wq := hG hL
        obtain ⟨q0, q4⟩ := hP
        subst q0 q4
        go_wp2_with (go_at_call 34; refine (writeHead_any (h := (⟨h0.generation + 1, h0.first, h0.place, h0.base⟩ : HV)) (hG6.keep0 hkq) (hD6.keep0 hkq) hdW ha hfW hok6.h hlW).mono ?_; rw [HW.out]; rintro e wr ⟨rfl, F7, hD7, hk7, hF7⟩)
        have hp2 : Post wr := by
          rw [hPost]
          exact ⟨F7, hD7, (hkq.mono (F' := F1) (by simp)).trans hk7 (fun x hx => Or.inl hx), fun x hx => (hF7 x hx).imp id (fun h => Nat.le_trans hkq.size h)⟩
        exact hK _ _ (fun _ => hp2) ⟨rfl, hp2⟩ (fun h => by rw [getD_set_self (by rw [hS]; decide)] at h; cases h)
      · intro wq K listed hR hP hG hL hS hC hK
        simp only [Pre, Region.binds, List.getD_cons_zero, List.getD_cons_succ, true_imp_iff, forall_const, and_true, true_and] at hP
        simp only [Act.put, List.setIfInBounds_toArray, List.set_cons_zero, List.set_cons_succ] at hK
        obtain ⟨⟨rfl, -⟩, -⟩ := hP
        go_wp2
        exact hK _ _ id rfl (fun h => hG (by rw [getD_set_other (by decide)] at h; exact h))
      · intro wf hf' hz
        simp only [AllAt] at hz
        obtain ⟨-, -, -, -, -, hz5, hz6, -⟩ := hz
        obtain ⟨-, hz5⟩ := hz5
        subst hz6
        rw [hPost] at hz5
        obtain ⟨F7, hD7, hk7, hF7⟩ := hz5
        clear hf' hPost
        have hR7 : RingIs wf (w2.heap.size + 1) ⟨a, (⟨h0.generation + 1, h0.first, h0.place, h0.base⟩ : HV), es, used, 0, 0⟩ v := ⟨hk7.get hR6.row hrpF, OwnLike.keep hR6.es hk7 (fun k hk e => hvF k e hk)⟩
        have hB7 := hB6.keep hk7 (hbF _ (by simp)) (hbF _ (by simp)) (hbF _ (by simp))
        have hE7 := hE6.keep hk7 (fun k hk e => hlF k e hk)
        have hk8 : Keep F w wf := (hk6.mono (F' := F) (fun x hx => Or.inl (hF1 x hx).1)).trans hk7 hFW2
        have hs7 := hk7.size
        have hbF7 : ∀ x ∈ F7, x ∉ [w.heap.size + 1, w.heap.size + 1 + 1, w.heap.size + 1 + 1 + 1] := fun x hx hm => by
          rcases hF7 x hx with h | h
          · exact hbF x hm h
          · simp only [List.mem_cons, List.not_mem_nil, or_false] at hm; omega
        have hFF7 : ∀ x ∈ F7, x ∈ F ∨ w.heap.size ≤ x := fun x hx => by
          rcases hF7 x hx with h | h
          · exact hFW2 x h
          · exact Or.inr (by omega)
        by_cases hp1 : P.1 = 0
        · have HP2 := Lib.hid (HP.out.trans (if_neg (by simpa using hp1)))
          have hb1 : (P.1 == 0) = true := by simpa using hp1
          have hb1' : (P.1 != 0) = false := by simpa using hp1
          clear hp1
          go_upto_region 26 with (go_at_call 10; refine (next_any hR7 hok6).mono ?_; rintro e w8 ⟨rfl, hk9⟩; have hR8 := hk9.get hR7.row (by simp); have c9 : w8.cell? ⟨w2.heap.size + 1, 9, none⟩ = some (.int .i64 (0 : Nat)) := (cell_row' (j := 9) hR8).trans rfl; have f9 := frozen_row' (j := 9) hR8)
          obtain ⟨W9, hW9⟩ : ∃ W9, W9 = w8.setCell ⟨w2.heap.size + 1, 9, none⟩ (.int .i64 ((h0.first : Int) + (es.length : Int))) := ⟨_, rfl⟩
          rw [← hW9]
          have hkr9 : Keep [w2.heap.size + 1] w8 W9 := by rw [hW9]; exact (Keep.refl _ _).setCell (by simp) _
          have hR9 : RingIs W9 (w2.heap.size + 1) ⟨a, (⟨h0.generation + 1, h0.first, h0.place, h0.base⟩ : HV), es, used, h0.first + es.length, 0⟩ v := ⟨by rw [hW9]; exact (heap_setCell_same w8 (w2.heap.size + 1) 9 _ _ _ hR8).trans (by simp [RV.cells]), OwnLike.keep (OwnLike.keep (F := []) hR7.es hk9 (by simp)) hkr9 (by simpa using hvrp)⟩
          clear hW9
          have hB9 := (hB7.keep0 hk9).keep hkr9 (by simp; omega) (by simp; omega) (by simp; omega)
          have hE9 := (hE7.keep hk9 (by simp)).keep hkr9 (by simpa using hlrp)
          have hrpF7 : w2.heap.size + 1 ∉ F7 := fun hm => by
            rcases hF7 _ hm with h | h
            · exact hrpF h
            · omega
          have hvF7 : ∀ k, v.ownBlock = some k → k ∉ F7 := fun k e hm => by
            rcases hF7 _ hm with h | h
            · exact hvF k e h
            · have := (World.ownsRow.lt hR6.es k e).2; omega
          have hlF7 : ∀ k, (Value.slice la ln lc).ownBlock = some k → k ∉ F7 := fun k e hm => by
            rcases hF7 _ hm with h | h
            · exact hlF k e h
            · have := (World.ownsRow.lt hE6 k e).2; omega
          have hD9 := (hD7.keep0 hk9).keep hkr9 (fun x hx hm => by rw [List.mem_singleton.1 hm] at hx; exact hrpF7 hx)
          have hk10 : Keep F w W9 := (hk8.then hk9).trans hkr9 (fun x hx => Or.inr (by rw [List.mem_singleton.1 hx]; omega))
          obtain ⟨ca, fa, cb, fb, cc, fc⟩ := hB9.cells
          go_wp2
          obtain ⟨hB8, hkb⟩ := hB9.set (.pointer (some ⟨w2.heap.size + 1, 0, none⟩)) (.slice la ln lc) (.int .i64 0)
          have hD10 := hD9.keep hkb hbF7
          obtain ⟨F8, hD11, hF8⟩ := hD10.tight
          refine open_ret hB8 rfl rfl rfl ?_
          unfold OpenPost
          rw [HP2.out]
          have hrb : w2.heap.size + 1 ∉ [w.heap.size + 1, w.heap.size + 1 + 1, w.heap.size + 1 + 1 + 1] := by simp only [List.mem_cons, List.not_mem_nil, or_false]; omega
          exact ⟨_, _, v, F8, rfl, hD11, ⟨hkb.get hR9.row hrb, OwnLike.keep hR9.es hkb (hB9.ne hR9.es (by decide) (by decide) (by decide))⟩, hE9.keep hkb (hB9.ne hE9 (by decide) (by decide) (by decide)), by omega, fun k e => (hv4 k e).1, fun hm => hrpF7 (hF8 _ hm).1, fun k e hm => hvF7 k e (hF8 _ hm).1, fun k e hm => hlF7 k e (hF8 _ hm).1,
            hk10.trans hkb (fun x hx => Or.inr (by simp only [List.mem_cons, List.not_mem_nil, or_false] at hx; omega)), fun x hx => hFF7 x (hF8 x hx).1, fun x hx => (hF8 x hx).2⟩
        · have HP2 := Lib.hid (HP.out.trans (if_pos (by simpa using hp1)))
          have hb1 : (P.1 == 0) = false := by simpa using hp1
          have hb1' : (P.1 != 0) = true := by simpa using hp1
          clear hp1
          obtain ⟨ca, fa, cb, fb, cc, fc⟩ := hB7.cells
          go_wp2
          obtain ⟨hB8, hkb⟩ := hB7.set (.pointer none) (.slice none 0 0) (.int .i64 P.1)
          refine open_ret hB8 rfl rfl rfl ?_
          unfold OpenPost
          rw [HP2.out]
          exact ⟨rfl, F7, hD7.keep hkb hbF7, hk8.trans hkb (fun x hx => Or.inr (by simp only [List.mem_cons, List.not_mem_nil, or_false] at hx; omega)), hFF7⟩

  · obtain ⟨fr, hfr1⟩ : ∃ fr, a.places - used = fr := ⟨_, rfl⟩
    have HF2 := HF.out
    rw [if_neg hfr] at HF2
    have HF := Lib.hid HF2
    rw [hfr1] at hfr
    have hfr0 : 0 < fr := by omega
    have hfr0' : (0 : Int) < fr := by omega
    have HFR := Lib.hid hfr1
    clear HF2 hfr hfr1
    obtain ⟨m1, m2, hM⟩ := hD1.m
    obtain ⟨v0, hM, hF0, _, _⟩ := hM.tight
    generalize (a.p :: m1 :: m2 :: v0.ownBlock.toList) = F0 at hM hF0
    have hpl1 : (h0.place + used) % a.places < a.places := Nat.mod_lt _ (by omega)
    obtain ⟨pl, hpl⟩ : ∃ pl, pl = (h0.place + used) % a.places := ⟨_, rfl⟩
    rw [← hpl] at hpl1
    have HPL := Lib.hid hpl
    clear hpl
    refine (callsIn_wide (n := 20)).1 ?_
    refine callsIn_of_wp_marks Tryd.func13 rfl trivial ?_ rfl
    simp only [Tryd.ntmps13, List.size_toArray, List.length_cons, List.length_nil, Nat.reduceAdd, Nat.reduceSub, Array.replicate_succ, Array.replicate_zero, List.push_toArray, List.append_toArray, List.nil_append, List.cons_append]
    refine wpIn_wide.2 ?_
    go_wp2_with (first
      | (go_at_call 28; refine (areaOf_any (h.keep0 (((((Keep.refl [] w).alloc _).alloc _).alloc _).alloc _)) first blocks hb0 hb1 hfi).mono ?_; rw [HR.out]; rintro e w1 ⟨rfl, hk1⟩
         obtain ⟨hB1, hkw1, rD1, hs1⟩ := boxes3 hk1
         have hG2 := hG.keep0 (hkw1.alloc (.cells #[.pointer (some ⟨a.p, 0, none⟩), .int .i64 a.first, .int .i64 a.places] 63))
         have hD2 := h.keep0 (hkw1.alloc (.cells #[.pointer (some ⟨a.p, 0, none⟩), .int .i64 a.first, .int .i64 a.places] 63))
         have hB2 := hB1.keep0 ((Keep.refl [] w1).alloc (.cells #[.pointer (some ⟨a.p, 0, none⟩), .int .i64 a.first, .int .i64 a.places] 63)))
      | (go_at_call 29; refine (current_any hG2 hD2 hd ha hf).mono ?_; rw [HC.out]; rintro e w2 ⟨rfl, hk2⟩; simp only [headV, HV.cells]
         have hB3 := (hB2.keep0 hk2).keep0 ((Keep.refl [] w2).alloc (.cells #[.int .i64 h0.generation, .int .i64 h0.first, .int .i64 h0.place, .int .i64 h0.base] 61))
         have hkw3 := ((hkw1.alloc (.cells #[.pointer (some ⟨a.p, 0, none⟩), .int .i64 a.first, .int .i64 a.places] 63)).then hk2).alloc (.cells #[.int .i64 h0.generation, .int .i64 h0.first, .int .i64 h0.place, .int .i64 h0.base] 61)
         have rA2 := hk2.get (heap_alloc_new w1 (.cells #[.pointer (some ⟨a.p, 0, none⟩), .int .i64 a.first, .int .i64 a.places] 63)) (by simp)
         obtain ⟨ca, fa, cb, fb, cc, fc⟩ := hB3.cells
         have rA3 := ((Keep.refl [] w2).alloc (.cells #[.int .i64 h0.generation, .int .i64 h0.first, .int .i64 h0.place, .int .i64 h0.base] 61)).get rA2 (by simp)
         have cA0 := (cell_row' (j := 0) rA3).trans rfl
         have cA1 := (cell_row' (j := 1) rA3).trans rfl
         have cA2 := (cell_row' (j := 2) rA3).trans rfl
         have hs2 := hk2.size
         simp only [World.size_alloc] at hs2
         have hR3 : RingIs ((w2.alloc (.cells #[.int .i64 h0.generation, .int .i64 h0.first, .int .i64 h0.place, .int .i64 h0.base] 61)).alloc (.cells #[.pointer (some ⟨a.p, 0, none⟩), .int .i64 a.first, .int .i64 a.places, .int .i64 h0.generation, .int .i64 h0.first, .int .i64 h0.place, .int .i64 h0.base, .slice none 0 0, .int .i64 0, .int .i64 0, .int .i64 0] 66)) (w2.heap.size + 1) ⟨a, h0, [], 0, 0, 0⟩ (.slice none 0 0) := ⟨heap_alloc_at (by simp), World.ownsRow_nil _ _ _ _⟩
         have hkw4 := hkw3.alloc (.cells #[.pointer (some ⟨a.p, 0, none⟩), .int .i64 a.first, .int .i64 a.places, .int .i64 h0.generation, .int .i64 h0.first, .int .i64 h0.place, .int .i64 h0.base, .slice none 0 0, .int .i64 0, .int .i64 0, .int .i64 0] 66))
      | (go_at_call 30; refine (find_ok (hG.keep0 hkw4) hR3 ⟨ha, k1, Nat.zero_le _, by simp⟩ (Nat.le_refl _) (hD1.keep0 hkw4) hd hf (fun hm => by have := (hF1 _ hm).2; omega) (fun k e => by cases e) (fun x hx => by have := (hF1 _ hx).2; simp only [World.size_alloc]; omega) (by have := hG.lt; omega) (fun k e => by cases e) (by simp only; omega) hplm).mono ?_; rw [HS.out]; rintro e w3 ⟨lv, v, rfl, hR4, hE4, hk4, hv4⟩
         have hkw5 : Keep [] w w3 := (hkw4.trans hk4 (fun x hx => Or.inr (by rw [List.mem_singleton.1 (show x ∈ [w2.heap.size + 1] from hx)]; omega)))
         have hE4 : EntsAt w3 w.heap.size lv l := ⟨hE4.1, hE4.2.imp id (fun ⟨g, cap, cur, e1, e2, e3⟩ => ⟨g, cap, cur, e1, by simp only [World.size_alloc] at e2; omega, e3⟩)⟩
         have hv4 : ∀ k, v.ownBlock = some k → w.heap.size ≤ k ∧ k < w3.heap.size := fun k e => ⟨by
           rcases hv4 with h | ⟨k', h1, h2⟩
           · rw [h] at e; cases e
           · rw [h1] at e; cases e; simp only [World.size_alloc] at h2; omega, (World.ownsRow.lt hR4.es k e).2⟩
         have hrp4 := lt_of_heap hR4.row
         obtain ⟨la, ln, lc, rfl⟩ := hE4.isSlice)
      | (go_at_call 15; refine (free_any hR4 ⟨ha, k1, i1, by simp only; omega⟩).mono ?_; rw [HFR.out]; rintro e w4 ⟨rfl, hk5⟩
         have hR5 : RingIs w4 (w2.heap.size + 1) ⟨a, h0, es, used, 0, 0⟩ v := ⟨hk5.get hR4.row (by simp), OwnLike.keep hR4.es hk5 (by simp)⟩
         have hE5 := hE4.keep hk5 (by simp)
         have hkw6 := hkw5.then hk5
         have hs5 := hk5.size
         have hB5 := ((hB3.keep0 ((Keep.refl [] _).alloc (.cells #[.pointer (some ⟨a.p, 0, none⟩), .int .i64 a.first, .int .i64 a.places, .int .i64 h0.generation, .int .i64 h0.first, .int .i64 h0.place, .int .i64 h0.base, .slice none 0 0, .int .i64 0, .int .i64 0, .int .i64 0] 66))).keep hk4 (by simp [Value.ownBlock]; omega) (by simp [Value.ownBlock]; omega) (by simp [Value.ownBlock]; omega)).keep0 hk5
         have rA5 := hk5.get (hk4.get (((Keep.refl [] _).alloc (.cells #[.pointer (some ⟨a.p, 0, none⟩), .int .i64 a.first, .int .i64 a.places, .int .i64 h0.generation, .int .i64 h0.first, .int .i64 h0.place, .int .i64 h0.base, .slice none 0 0, .int .i64 0, .int .i64 0, .int .i64 0] 66)).get rA3 (by simp)) (by simp [Value.ownBlock]; omega)) (by simp)
         have rD5 := hk5.get (hk4.get (((Keep.refl [] _).alloc (.cells #[.pointer (some ⟨a.p, 0, none⟩), .int .i64 a.first, .int .i64 a.places, .int .i64 h0.generation, .int .i64 h0.first, .int .i64 h0.place, .int .i64 h0.base, .slice none 0 0, .int .i64 0, .int .i64 0, .int .i64 0] 66)).get (((Keep.refl [] w2).alloc (.cells #[.int .i64 h0.generation, .int .i64 h0.first, .int .i64 h0.place, .int .i64 h0.base] 61)).get (hk2.get (((Keep.refl [] w1).alloc _).get rD1 (by simp)) (by simp)) (by simp)) (by simp)) (by simp [Value.ownBlock]; omega)) (by simp)
         have cR3 : w4.cell? ⟨w2.heap.size + 1, 3, none⟩ = some (.int .i64 h0.generation) := (cell_row' (j := 3) hR5.row).trans rfl
         have fR3 := frozen_row' (j := 3) hR5.row))
    have cA50 := (cell_row' (j := 0) rA5).trans rfl
    have HOK : Hid (RV.ok ⟨a, h0, es, used, 0, 0⟩) := Lib.hid ⟨ha, k1, i1, by simp only; omega⟩
    (refine wp_region_inv (Keep []) [fun v _ => v = .agg a.cells, fun v _ => v = .pointer (some ⟨w2.heap.size + 1, 0, none⟩), fun v _ => v = .int .i64 pl,
      fun v w' => ∃ bn ba bp, v = circV bn ba bp ∧ w4.heap.size ≤ bn ∧ w4.heap.size ≤ ba ∧ w4.heap.size ≤ bp ∧ w'.heap[bn]? = some (.cells #[.int .i64 (1 : Nat)] 3 (0, 0)) ∧ w'.heap[ba]? = some (.cells a.cells 63 (0, 0)) ∧ w'.heap[bp]? = some (.cells #[.int .i64 pl] 3 (0, 0))] (by kernel_rfl) (by kernel_rfl) (by kernel_rfl) (fun _ _ _ h k => h.then k) (Keep.refl _) ?stab1 ?main1; (case' main1 => (simp only [List.length_cons, List.length_nil, Nat.zero_add, Nat.reduceAdd, AllVals]; intro z0 z1 z2 z3; simp only [putAll, Act.put, List.setIfInBounds_toArray, List.set_cons_zero, List.set_cons_succ, StepsAt]; refine ⟨?steps1, ?after1⟩)); (case' steps1 => (repeat' apply And.intro)); (case' stab1 => (simp only [Stable])))
    case stab1 => refine ⟨fun _ _ _ _ h => h, fun _ _ _ _ h => h, fun _ _ _ _ h => h, fun _ _ _ hk h => ?_, trivial⟩; obtain ⟨bn, ba, bp, e, b1, b2, b3, r1, r2, r3⟩ := h; exact ⟨bn, ba, bp, e, b1, b2, b3, hk.get r1 (by simp), hk.get r2 (by simp), hk.get r3 (by simp)⟩
    all_goals try (first | trivial | exact True.intro)
    · (intro wq K hR hP hK; simp only [Pre, Region.binds, List.getD_cons_zero, List.getD_cons_succ, true_imp_iff, forall_const, and_true, true_and] at hP; simp only [Act.put, List.setIfInBounds_toArray, List.set_cons_zero, List.set_cons_succ] at hK)
      have ra := hR.drew'.get rA5 (by simp)
      have c0 : wq.cell? ⟨w1.heap.size, 0, none⟩ = some (.pointer (some ⟨a.p, 0, none⟩)) := (cell_row' (j := 0) ra).trans rfl
      have c1 : wq.cell? ⟨w1.heap.size, 1, none⟩ = some (.int .i64 a.first) := (cell_row' (j := 1) ra).trans rfl
      have c2 : wq.cell? ⟨w1.heap.size, 2, none⟩ = some (.int .i64 a.places) := (cell_row' (j := 2) ra).trans rfl
      go_wp2
      exact hK _ _ (Keep.refl _ _) rfl
    · (intro wq K hR hP hK; simp only [Pre, Region.binds, List.getD_cons_zero, List.getD_cons_succ, true_imp_iff, forall_const, and_true, true_and] at hP; simp only [Act.put, List.setIfInBounds_toArray, List.set_cons_zero, List.set_cons_succ] at hK)
      go_wp2
      exact hK _ _ (Keep.refl _ _) rfl
    · (intro wq K hR hP hK; simp only [Pre, Region.binds, List.getD_cons_zero, List.getD_cons_succ, true_imp_iff, forall_const, and_true, true_and] at hP; simp only [Act.put, List.setIfInBounds_toArray, List.set_cons_zero, List.set_cons_succ] at hK)
      subst hP
      have hRq : RingIs wq (w2.heap.size + 1) ⟨a, h0, es, used, 0, 0⟩ v := ⟨hR.drew'.get hR5.row (by simp), OwnLike.keep hR5.es hR.drew' (by simp)⟩
      go_wp2_with (go_at_call 32; refine (end_any hRq HOK.out).mono ?_; rintro e wr ⟨rfl, hkr⟩)
      exact hK _ _ hkr (by rw [HPL.out]; simp)
    · (intro wq K hR hP hK; simp only [Pre, Region.binds, List.getD_cons_zero, List.getD_cons_succ, true_imp_iff, forall_const, and_true, true_and] at hP; simp only [Act.put, List.setIfInBounds_toArray, List.set_cons_zero, List.set_cons_succ] at hK)
      obtain ⟨q0, q2, -⟩ := hP
      subst q0 q2
      go_wp2_with (go_at_call 31; refine (circle_any a pl 1 _).mono ?_; rintro e wr ⟨bn, ba, bp, rfl, b1, b2, b3, r1, r2, r3, hkr⟩)
      exact hK _ _ hkr ⟨bn, ba, bp, rfl, by have := hR.size; exact Nat.le_trans this b1, by have := hR.size; exact Nat.le_trans this b2, by have := hR.size; exact Nat.le_trans this b3, r1, r2, r3⟩
    (intro w5 hk6 hz; simp only [AllAt] at hz)
    obtain ⟨-, -, -, hz3, -⟩ := hz
    obtain ⟨bn, ba, bp, hz3, hbn, hba, hbp, r1, r2, r3⟩ := hz3
    subst hz3
    have hk6 := hk6.drew'
    go_wp2
    have hm1 : m1 < w.heap.size := by obtain ⟨_, _, _, j2, _⟩ := hM; exact (hF0 _ j2).2
    have hm2 : m2 < w.heap.size := by obtain ⟨_, _, _, _, j3, _⟩ := hM; exact (hF0 _ j3).2
    have q5 := hk6.size
    have hkw7 := hkw6.then hk6
    have hM5 := hM.keep hkw7 (by simp)
    have htF : ∀ x ∈ F0, x < w.heap.size := fun x hx => (hF0 x hx).2
    have hB6 := hB5.keep0 hk6
    have rD6 := hk6.get rD5 (by simp)
    have HWF : Hid (wfold a pl d [] (List.range 1) = ((d.write (a.blk pl 0) zero512).1, (d.write (a.blk pl 0) zero512).2, [])) := Lib.hid (by
      show wstep a pl (0, d, []) 0 = _
      unfold wstep
      rw [if_neg (by simp)]
      simp only [chunk_nil, List.drop_nil])
    refine (wpIn_wide (n := 20)).1 ?_
    refine wpIn_rangeFunc_ownG (F := Fence.wide) rfl (by omega) (gf := 55) (lb := #[.pointer (some ⟨bn, 0, none⟩), .pointer (some ⟨ba, 0, none⟩), .pointer (some ⟨bp, 0, none⟩)]) rfl trivial (enters_of Tryd.func55 (by kernel_rfl) rfl)
      (circle1_stops 19 bn ba bp 1 pl a (by omega) ha (by omega) w5 r1 r2 r3 (by omega)) KpB.trans (fun W l o o' hl _ _ _ => KpB.putObj o' (by have := lt_of_heap r1; have := lt_of_heap r2; have := lt_of_heap r3; simp; omega)) (Below.refl _ _) (fun _ => rfl)
      (fun pre W => (wfold a pl d [] pre).1 = 0 ∧ (∃ F', DiskM W a.p (wfold a pl d [] pre).2.1 m1 m2 F' ∧ ∀ x ∈ F', x ∈ F0 ∨ w5.heap.size ≤ x) ∧ Keep F0 w5 W ∧ pre.length ≤ 1)
      (fun c pre W => c = .ret ∧ (wfold a pl d [] pre).1 ≠ 0 ∧ (∃ F', DiskM W a.p (wfold a pl d [] pre).2.1 m1 m2 F' ∧ ∀ x ∈ F', x ∈ F0 ∨ w5.heap.size ≤ x) ∧ Res3 W w.heap.size (.pointer none) (.slice none 0 0) (.int .i64 (wfold a pl d [] pre).1) ∧ Keep ((w.heap.size + 1) :: (w.heap.size + 1 + 1) :: (w.heap.size + 1 + 1 + 1) :: F0) w5 W)
      (fun st A B row hs hg hr => by
        obtain ⟨h0, ⟨F', h1, h2⟩, h4, h5⟩ := hs
        exact ⟨h0, ⟨F', h1.grown hg hr (by omega) (by omega), h2⟩, h4.grown' hg (fun r e => (hr r e).1), h5⟩)
      (fun c st A B row hs hg hr => by
        obtain ⟨hc, h0, ⟨F', h1, h2⟩, h3, h4⟩ := hs
        exact ⟨hc, h0, ⟨F', h1.grown hg hr (by omega) (by omega), h2⟩, ⟨row_kept h3.r1 hg (fun r e => (hr r e).2), row_kept h3.r2 hg (fun r e => (hr r e).2), row_kept h3.r3 hg (fun r e => (hr r e).2)⟩, h4.grown' hg (fun r e => (hr r e).1)⟩)
      ⟨rfl, ⟨F0, hM5, fun x hx => Or.inl hx⟩, Keep.refl _ _, by simp⟩
      (fun x => { tmps := #[.pointer (some ⟨a.p, 0, none⟩), .int .i64 first, .int .i64 blocks, .pointer (some ⟨w.heap.size, 0, none⟩), undef, undef, .pointer (some ⟨w.heap.size + 1, 0, none⟩), .pointer (some ⟨w.heap.size + 1 + 1, 0, none⟩), .pointer (some ⟨w.heap.size + 1 + 1 + 1, 0, none⟩), .pointer (some ⟨w1.heap.size, 0, none⟩), .int .i64 0, .pointer (some ⟨w2.heap.size, 0, none⟩), .bool true, .pointer (some ⟨w2.heap.size + 1, 0, none⟩), .slice la ln lc, undef, .int .i64 (a.blk pl x), undef, undef, .tuple #[.agg #[.pointer (some ⟨a.p, 0, none⟩), .int .i64 a.first, .int .i64 a.places], .int .i64 0], .pointer (some ⟨a.p, 0, none⟩), .int .i64 first, .int .i64 blocks, .tuple #[.agg #[.pointer (some ⟨a.p, 0, none⟩), .int .i64 a.first, .int .i64 a.places], .int .i64 0], .agg #[.pointer (some ⟨a.p, 0, none⟩), .int .i64 a.first, .int .i64 a.places], .int .i64 0, .int .i64 0, .bool false, undef, .tuple #[.agg #[.int .i64 h0.generation, .int .i64 h0.first, .int .i64 h0.place, .int .i64 h0.base], .bool true, .int .i64 0], .agg #[.pointer (some ⟨a.p, 0, none⟩), .int .i64 a.first, .int .i64 a.places], .tuple #[.agg #[.int .i64 h0.generation, .int .i64 h0.first, .int .i64 h0.place, .int .i64 h0.base], .bool true, .int .i64 0], .agg #[.int .i64 h0.generation, .int .i64 h0.first, .int .i64 h0.place, .int .i64 h0.base], .bool true, .int .i64 0, .bool false, .int .i64 0, .bool false, undef, .bool false, .bool true, .bool false, .bool false, .pointer (some ⟨w2.heap.size, 0, none⟩), .int .i64 h0.generation, .bool false, .agg #[.pointer (some ⟨a.p, 0, none⟩), .int .i64 a.first, .int .i64 a.places], .agg #[.int .i64 h0.generation, .int .i64 h0.first, .int .i64 h0.place, .int .i64 h0.base], .agg #[.pointer (some ⟨a.p, 0, none⟩), .int .i64 a.first, .int .i64 a.places, .int .i64 h0.generation, .int .i64 h0.first, .int .i64 h0.place, .int .i64 h0.base, .slice none 0 0, .int .i64 0, .int .i64 0, .int .i64 0], .pointer (some ⟨w2.heap.size + 1, 0, none⟩), .tuple #[.slice la ln lc, .int .i64 0], .pointer (some ⟨w2.heap.size + 1, 0, none⟩), .tuple #[.slice la ln lc, .int .i64 0], .slice la ln lc, .int .i64 0, .int .i64 0, .bool false, undef, .pointer (some ⟨w2.heap.size + 1, 0, none⟩), .int .i64 fr, .bool true, z0, z1, z2, circV bn ba bp, .int .i64 x, .int .i64 (a.blk pl x), undef, undef, undef, undef, undef, undef, undef, undef, undef, undef, undef, undef, undef, undef, undef, undef, undef, undef, undef, undef, undef, undef, undef, undef, undef, undef, undef, undef, undef, undef, undef, undef], defers := [] }) ?assign ?body ?done ?stop
    case assign =>
      intro l x W K hK
      gi_wp2
      exact hK
    case body =>
      rintro l pre x W ⟨h00, ⟨F', hMW, hF'⟩, hk, hpn⟩ hlt
      obtain ⟨i1', i2', i3', i4'⟩ := wfold_inv a pl d [] hd pre
      have hsn := wfold_snoc a pl d [] pre x
      unfold wstep at hsn
      rw [if_neg (by rw [h00]; simp)] at hsn
      have hdn := i1' h00
      generalize wfold a pl d [] pre = st' at *
      obtain ⟨e0, d1, s1⟩ := st'
      simp only at h00 hMW i1' i2' i3' i4' hsn hdn
      subst h00
      have hs1' : s1 = [] := List.eq_nil_of_length_eq_zero (by simpa using i4')
      subst hs1'
      rw [chunk_nil, List.drop_nil] at hsn
      have hhas : d1.has (a.blk pl x) = true := AR.has (d := d1) (by unfold AR.fits at hf ⊢; rw [i2']; exact hf) ha pl x
      have rDW := hk.get rD6 (fun hm => by have := htF _ hm; omega)
      have hBW : Res3 W w.heap.size (.pointer none) (.slice none 0 0) (.int .i64 0) := hB6.keep hk (fun hm => by have := htF _ hm; omega) (fun hm => by have := htF _ hm; omega) (fun hm => by have := htF _ hm; omega)
      have hmk := run_make512
      have hWs := hk.size
      have HSN := Lib.hid hsn
      clear hsn
      generalize hbk : a.blk pl x = bk at *
      have HBK := Lib.hid hbk
      clear hbk
      obtain ⟨vv, hMt, hGt, ⟨csp, tp, frp, hpc⟩, hvc⟩ := hMW.tight
      have hGm : ∀ y ∈ a.p :: m1 :: m2 :: vv.ownBlock.toList, y < W.heap.size ∧ (y ∈ F0 ∨ w5.heap.size ≤ y) := fun y hy => by
        obtain ⟨hy1, hy2⟩ := hGt y hy
        exact ⟨hy2, hF' y hy1⟩
      have hGc : ∀ k ∈ a.p :: m1 :: m2 :: vv.ownBlock.toList, ∀ o, w5.heap.size ≤ k → W.heap[k]? = some o → o.isCells = false → False := fun k hk' o hB ho hc => by
        simp only [List.mem_cons] at hk'
        rcases hk' with rfl | rfl | rfl | hk'
        · rw [hpc] at ho; cases ho; cases hc
        · omega
        · omega
        · obtain ⟨cs, t, fr, e⟩ := hvc k hk'
          rw [e] at ho; cases ho; cases hc
      generalize hGG : (a.p :: m1 :: m2 :: vv.ownBlock.toList) = GG at *
      clear hGG hvc hpc
      have hbs : ∀ y, y = bn ∨ y = ba ∨ y = bp → y < w5.heap.size ∧ w.heap.size ≤ y := fun y hy => by
        have := lt_of_heap r1
        have := lt_of_heap r2
        have := lt_of_heap r3
        rcases hy with rfl | rfl | rfl <;> omega
      have hbG : ∀ y ∈ [w.heap.size + 1, w.heap.size + 1 + 1, w.heap.size + 1 + 1 + 1], y ∉ GG := fun y hy hm => by
        simp only [List.mem_cons, List.not_mem_nil, or_false] at hy
        rcases (hGm y hm).2 with h | h
        · have := htF _ h; omega
        · omega
      have hpl2 : d1.pend.length ≤ 100000000 := by omega
      obtain ⟨r, hr⟩ : ∃ r, d1.write bk zero512 = r := ⟨_, rfl⟩
      rw [hr] at HSN
      have HR2 := Lib.hid hr
      clear hr
      gi_upto_region 18 with fail
      obtain ⟨Post, hPost⟩ : ∃ Post : World → Prop, Post = fun w' => ∃ F4, DiskM w' a.p r.2 m1 m2 F4 ∧ Keep GG W w' ∧ ∀ y ∈ F4, y ∈ GG ∨ W.heap.size ≤ y := ⟨_, rfl⟩
      have hP0 : ∀ a b, Keep [] a b → Post a → Post b := fun a b hk ha => by
        rw [hPost] at ha ⊢
        obtain ⟨F4, h1, h2, h3⟩ := ha
        exact ⟨F4, h1.keep hk (by simp), h2.then hk, h3⟩
      refine wpIn_region_ghost2 _ _ (fun a b => Keep GG a b ∧ (Post a → Post b)) (fun listed _ a => listed.getD 3 false = false → Keep [] W a)
        [fun v _ => v = .pointer (some ⟨a.p, 0, none⟩), fun v _ => v = .int .i64 bk, fun v w' => ∃ g, v = .slice (some ⟨g, 0, none⟩) 512 512 ∧ W.heap.size ≤ g ∧ w'.heap[g]? = some (.cells (cellsOf zero512) 5 (0, 0)),
         fun v w' => v = .int .i64 r.1 ∧ Post w', fun v _ => v = .int .i64 r.1] (by kernel_rfl) (by rintro ⟨_, _, h⟩; exact h) (by kernel_rfl) (by kernel_rfl) (by kernel_rfl) (fun _ _ _ h k => ⟨h.1.trans k.1 (fun _ hx => .inl hx), fun e => k.2 (h.2 e)⟩) (fun _ => ⟨Keep.refl _ _, id⟩) ?sta3 (fun _ _ => (Keep.refl _ _).drew) ?mai3
      case sta3 => simp only [Stable]; exact ⟨fun _ _ _ _ h => h, fun _ _ _ _ h => h, fun _ _ _ hk ⟨g, e1, e2, e3⟩ => ⟨g, e1, e2, hk.1.get e3 (fun hm => by have := (hGm _ hm).1; omega)⟩, fun _ _ _ hk h => ⟨h.1, hk.2 h.2⟩, fun _ _ _ _ h => h, trivial⟩
      case mai3 =>
        simp only [List.length_cons, List.length_nil, Nat.zero_add, Nat.reduceAdd, AllVals]
        intro y0 y1 y2 y3 y4
        simp only [putAll, Act.put, List.setIfInBounds_toArray, List.set_cons_zero, List.set_cons_succ, StepsAtH]
        refine ⟨?stp3, ?fin3⟩
        case' stp3 => repeat' apply And.intro
        all_goals try (first | trivial | exact True.intro)
        · intro wq K listed hR hP hG hL hS hC hY hK
          simp only [Pre, Region.binds, List.getD_cons_zero, List.getD_cons_succ, true_imp_iff, forall_const, and_true, true_and] at hP
          simp only [Act.put, List.setIfInBounds_toArray, List.set_cons_zero, List.set_cons_succ] at hK
          have hkq : Keep [] W wq := hG (hC.notYet 10 3 0 (by kernel_rfl) hL)
          have c0 : wq.cell? ⟨w.heap.size, 0, none⟩ = some (.pointer (some ⟨a.p, 0, none⟩)) := (cell_row' (j := 0) (hkq.get rDW (by simp))).trans rfl
          go_wp2
          exact hK _ _ ⟨Keep.refl _ _, id⟩ rfl (fun _ => hkq)
        · intro wq K listed hR hP hG hL hS hC hY hK
          simp only [Pre, Region.binds, List.getD_cons_zero, List.getD_cons_succ, true_imp_iff, forall_const, and_true, true_and] at hP
          simp only [Act.put, List.setIfInBounds_toArray, List.set_cons_zero, List.set_cons_succ] at hK
          have hkq : Keep [] W wq := hG (hC.notYet 10 3 1 (by kernel_rfl) hL)
          go_wp2
          exact hK _ _ ⟨Keep.refl _ _, id⟩ rfl (fun _ => hkq)
        · intro wq K listed hR hP hG hL hS hC hY hK
          simp only [Pre, Region.binds, List.getD_cons_zero, List.getD_cons_succ, true_imp_iff, forall_const, and_true, true_and] at hP
          simp only [Act.put, List.setIfInBounds_toArray, List.set_cons_zero, List.set_cons_succ] at hK
          have hkq : Keep [] W wq := hG (hC.notYet 10 3 2 (by kernel_rfl) hL)
          go_wp2
          exact hK _ _ ⟨((Keep.refl [] wq).alloc _).mono (F' := GG) (by simp), hP0 _ _ ((Keep.refl _ _).alloc _)⟩ ⟨wq.heap.size, rfl, hkq.size, heap_alloc_new wq _⟩ (fun _ => hkq.alloc _)
        · intro wq K listed hR hP hG hL hS hC hY hK
          simp only [Pre, Region.binds, List.getD_cons_zero, List.getD_cons_succ, true_imp_iff, forall_const, and_true, true_and] at hP
          simp only [Act.put, List.setIfInBounds_toArray, List.set_cons_zero, List.set_cons_succ] at hK
          have hkq : Keep [] W wq := hG hL
          obtain ⟨rfl, rfl, g, rfl, hg1, hg2⟩ := hP
          go_wp2_with (go_at_call 33; go_loud (refine (write_m (hMt.keep hkq (by simp)) bk zero512 g 5 (0, 0) hg2 (fun hm => by have := (hGm _ hm).1; omega) List.length_replicate hdn hhas hpl2).mono ?_; rw [HR2.out]; rintro e w6 ⟨rfl, F4, hM4, hk4, hF4⟩))
          have hp2 : Post w6 := by
            rw [hPost]
            exact ⟨F4, hM4, (hkq.mono (F' := GG) (by simp)).trans hk4 (fun x hx => Or.inl hx), fun x hx => (hF4 x hx).imp id (fun h => Nat.le_trans hkq.size h)⟩
          exact hK _ _ ⟨hk4, fun _ => hp2⟩ ⟨rfl, hp2⟩ (fun h => by rw [getD_set_self (by rw [hS]; decide)] at h; cases h)
        · intro wq K listed hR hP hG hL hS hC hY hK
          simp only [Pre, Region.binds, List.getD_cons_zero, List.getD_cons_succ, true_imp_iff, forall_const, and_true, true_and] at hP
          simp only [Act.put, List.setIfInBounds_toArray, List.set_cons_zero, List.set_cons_succ] at hK
          obtain ⟨⟨rfl, -⟩, -⟩ := hP
          go_wp2
          exact hK _ _ ⟨Keep.refl _ _, id⟩ rfl (fun h => hG (by rw [getD_set_other (by decide)] at h; exact h))
        · intro w6 listed hf' hy hL hG
          simp only [AllAt] at hy
          obtain ⟨-, -, -, hy3, hy4, -⟩ := hy
          obtain ⟨-, hy3⟩ := hy3
          subst hy4
          rw [hPost] at hy3
          obtain ⟨F4, hM4, hk4, hF4⟩ := hy3
          clear hf' hPost hP0 hL hG
          have hs6 := hk4.size
          have hF4' : ∀ y ∈ F4, y ∈ F0 ∨ w5.heap.size ≤ y := fun y hy => by
            rcases hF4 y hy with h | h
            · exact (hGm y h).2
            · exact Or.inr (by omega)
          have hk7 : Keep F0 w5 w6 := hk.trans hk4 (fun y hy => (hGm y hy).2)
          have hBw := hBW.keep hk4 (hbG _ (by simp)) (hbG _ (by simp)) (hbG _ (by simp))
          by_cases he : r.1 = 0
          · have heb : (r.1 == 0) = true := by simpa using he
            have heb' : (r.1 != 0) = false := by simpa using he
            have HE := Lib.hid he
            clear he
            gi_wp2
            refine ⟨⟨hk4.size, fun k o hB hk' ho => hk4.get hk' (fun hm => hGc k hm o hB hk' ho)⟩, KpB.of hk4 (fun k hk' => ?_), ?_⟩
            · have hq := hbs k (by simpa using hk')
              intro hm
              rcases (hGm k hm).2 with h | h
              · have := htF _ h; omega
              · omega
            · dsimp only
              rw [HSN.out]
              refine ⟨HE.out, ⟨F4, hM4, hF4'⟩, hk7, ?_⟩
              rw [List.length_append, List.length_singleton]; omega
          · have heb : (r.1 == 0) = false := by simpa using he
            have heb' : (r.1 != 0) = true := by simpa using he
            have HE := Lib.hid he
            clear he
            obtain ⟨ca, fa, cb, fb, cc, fc⟩ := hBw.cells
            gi_wp2
            obtain ⟨hB8, hkb⟩ := hBw.set (.pointer none) (.slice none 0 0) (.int .i64 r.1)
            have kW5 : Keep ((w.heap.size + 1) :: (w.heap.size + 1 + 1) :: (w.heap.size + 1 + 1 + 1) :: GG) W _ := (hk4.mono (F' := (w.heap.size + 1) :: (w.heap.size + 1 + 1) :: (w.heap.size + 1 + 1 + 1) :: GG) (fun y hy => Or.inl (by simp only [List.mem_cons]; exact Or.inr (Or.inr (Or.inr hy))))).trans hkb (fun y hy => Or.inl (by simp only [List.mem_cons, List.not_mem_nil, or_false] at hy ⊢; rcases hy with h | h | h <;> simp [h]))
            refine ⟨⟨kW5.size, fun k o hB hk' ho => kW5.get hk' (fun hm => ?_)⟩, ?_⟩
            · simp only [List.mem_cons] at hm
              rcases hm with e | e | e | hm
              · omega
              · omega
              · omega
              · exact hGc k hm o hB hk' ho
            · dsimp only
              rw [HSN.out]
              refine ⟨rfl, HE.out, ⟨F4, hM4.keep hkb (fun y hy hm => ?_), hF4'⟩, hB8, ?_⟩
              · rcases hF4 y hy with h | h
                · exact hbG y hm h
                · simp only [List.mem_cons, List.not_mem_nil, or_false] at hm; omega
              · exact (hk7.mono (F' := (w.heap.size + 1) :: (w.heap.size + 1 + 1) :: (w.heap.size + 1 + 1 + 1) :: F0) (fun y hy => Or.inl (by simp only [List.mem_cons]; exact Or.inr (Or.inr (Or.inr hy))))).trans hkb (fun y hy => Or.inl (by simp only [List.mem_cons, List.not_mem_nil, or_false] at hy ⊢; rcases hy with h | h | h <;> simp [h]))
    case stop =>
      rintro D c pre W hBD ⟨k, hkN, rfl⟩ ⟨rfl, hne, ⟨F', hMW, hF'⟩, hB, hk⟩ hDf
      have hk1 : k = 1 := by
        rcases Nat.eq_zero_or_pos k with rfl | h
        · exact absurd rfl hne
        · omega
      subst hk1
      rw [HWF.out] at hne hMW hB
      simp only at hne hMW hB
      gi_wp2
      refine ⟨by simp, .inl ⟨_, _, rfl, run_takeDeferred hDf, ?_⟩⟩
      have kD : Keep [D] W (W.putObj D (.deferred none)) := (Keep.refl [D] W).grown (grownBy_putObj' W D (.deferred none)) (fun k e => Or.inl (by cases e; simp))
      refine open_leaves (hB.keep kD (by simp; omega) (by simp; omega) (by simp; omega)) rfl rfl rfl ?_
      have hM3 := hMW.grown (grownBy_putObj' W D (.deferred none)) (b := w5.heap.size) (fun k e => by cases e; exact ⟨hBD, _, hDf, rfl⟩) (by omega) (by omega)
      have hkf : Keep F w (W.putObj D (.deferred none)) := by
        have k1 : Keep F0 w W := (hkw7.mono (F' := F0) (by simp)).trans hk (fun y hy => by
          simp only [List.mem_cons] at hy
          rcases hy with rfl | rfl | rfl | h
          · exact Or.inr (by omega)
          · exact Or.inr (by omega)
          · exact Or.inr (by omega)
          · exact Or.inl h)
        exact (k1.mono (fun y hy => Or.inl (hF1 y (hF0 y hy).1).1)).trans kD (fun y hy => Or.inr (by rw [List.mem_singleton.1 hy]; omega))
      have HX := HF.out
      rw [← HPL.out, if_pos hne] at HX
      unfold OpenPost
      rw [HX]
      exact ⟨rfl, F', hM3.at, hkf, fun y hy => (hF' y hy).imp (fun h => (hF1 y (hF0 y h).1).1) (fun h => by omega)⟩
    case done =>
      rintro D xs W hBD rfl ⟨h00, ⟨F', hMW, hF'⟩, hk, hpn⟩ hDf
      rw [HWF.out] at h00 hMW
      simp only at h00 hMW
      generalize hdW0 : (d.write (a.blk pl 0) zero512).2 = dW at *
      have HX := HF.out
      rw [← HPL.out, if_neg (by simpa using h00), hdW0] at HX
      have HP := Lib.hid HX
      clear HX
      obtain ⟨FW, hDp, hFWt, hDn⟩ := hMW.at.tightD
      have hDF : D ∉ FW := fun hm => hDn D hm _ hDf
      have hDlt := lt_of_heap hDf
      have hdWd : dW.down = false := by rw [← hdW0]; exact write_down _ _ _ h00
      have hws := write_same d (a.blk pl 0) zero512
      rw [hdW0] at hws
      have hFW0 : ∀ x ∈ FW, x ∈ F0 ∨ w5.heap.size ≤ x := fun x hx => hF' x (hFWt x hx).1
      have hrp0 : w2.heap.size + 1 ∉ F0 := fun hm => by have := htF _ hm; omega
      have hv0 : ∀ k, v.ownBlock = some k → k ∉ F0 := fun k e hm => by have := htF _ hm; have := (hv4 k e).1; omega
      have hl0 : ∀ k, (Value.slice la ln lc).ownBlock = some k → k ∉ F0 := fun k e hm => by have := htF _ hm; have := (World.ownsRow.lt hE5 k e).1; omega
      have hRp : RingIs W (w2.heap.size + 1) ⟨a, h0, es, used, 0, 0⟩ v := ⟨hk.get (hk6.get hR5.row (by simp)) hrp0, OwnLike.keep (OwnLike.keep (F := []) hR5.es hk6 (by simp)) hk (fun k hk e => hv0 k e hk)⟩
      have hEp := (hE5.keep hk6 (by simp)).keep hk (fun k hk e => hl0 k e hk)
      have hBp := hB6.keep hk (fun hm => by have := htF _ hm; omega) (fun hm => by have := htF _ hm; omega) (fun hm => by have := htF _ hm; omega)
      have rAp := hk.get (hk6.get rA5 (by simp)) (fun hm => by have := htF _ hm; omega)
      have hF0G : ∀ x ∈ F0, 3 ≤ x := fun x hx => hFG x (hF1 x (hF0 x hx).1).1
      have hGp : Glob W := (hG.keep0 hkw7).keep hk hF0G
      have hkp : Keep F1 w W := (hkw7.mono (F' := F1) (by simp)).trans hk (fun x hx => Or.inl (hF0 x hx).1)
      have hdW := hdWd
      have hfW : a.fits dW := by unfold AR.fits at hf ⊢; rw [hws.1]; exact hf
      have hlW : dW.pend.length ≤ 100000000 := by have := hws.2; omega
      have hrpF : w2.heap.size + 1 ∉ FW := fun hm => by
        rcases hFW0 _ hm with h | h
        · exact hrp0 h
        · omega
      have hvF : ∀ k, v.ownBlock = some k → k ∉ FW := fun k e hm => by
        rcases hFW0 _ hm with h | h
        · exact hv0 k e h
        · have := (hv4 k e).2; omega
      have hlF : ∀ k, (Value.slice la ln lc).ownBlock = some k → k ∉ FW := fun k e hm => by
        rcases hFW0 _ hm with h | h
        · exact hl0 k e h
        · have := (World.ownsRow.lt hE5 k e).2; omega
      have hbF : ∀ x ∈ [w.heap.size + 1, w.heap.size + 1 + 1, w.heap.size + 1 + 1 + 1], x ∉ FW := fun x hx hm => by
        simp only [List.mem_cons, List.not_mem_nil, or_false] at hx
        rcases hFW0 _ hm with h | h
        · have := htF _ h; omega
        · omega
      have hFW2 : ∀ x ∈ FW, x ∈ F ∨ w.heap.size ≤ x := fun x hx => (hFW0 x hx).imp (fun h => (hF1 x (hF0 x h).1).1) (fun h => by omega)
      have cg3 : W.cell? ⟨w2.heap.size + 1, 3, none⟩ = some (.int .i64 h0.generation) := (cell_row' (j := 3) hRp.row).trans rfl
      have fg3 := frozen_row' (j := 3) hRp.row
      have hsW := hk.size
      go_wp2
      obtain ⟨W5, hW5⟩ : ∃ W5, W5 = W.setCell ⟨w2.heap.size + 1, 3, none⟩ (.int .i64 ((h0.generation : Int) + 1)) := ⟨_, rfl⟩
      rw [← hW5]
      have hkr5 : Keep [w2.heap.size + 1] W W5 := by rw [hW5]; exact (Keep.refl _ _).setCell (by simp) _
      have hvrp : v.ownBlock ≠ some (w2.heap.size + 1) := own_row_ne hRp.es hRp.row (by decide)
      have hlrp : (Value.slice la ln lc).ownBlock ≠ some (w2.heap.size + 1) := own_row_ne hEp hRp.row (by decide)
      have hR6 : RingIs W5 (w2.heap.size + 1) ⟨a, (⟨h0.generation + 1, h0.first, h0.place, h0.base⟩ : HV), es, used, 0, 0⟩ v := ⟨by rw [hW5]; exact (heap_setCell_same W (w2.heap.size + 1) 3 _ _ _ hRp.row).trans (by simp [RV.cells]), OwnLike.keep hRp.es hkr5 (by simpa using hvrp)⟩
      clear hW5
      have hD6 : DiskAt W5 a.p dW FW := hDp.keep hkr5 (fun x hx hm => by rw [List.mem_singleton.1 hm] at hx; exact hrpF hx)
      have hB6 : Res3 W5 w.heap.size (.pointer none) (.slice none 0 0) (.int .i64 0) := hBp.keep hkr5 (by simp; omega) (by simp; omega) (by simp; omega)
      have rA6 := hkr5.get rAp (by simp; omega)
      have hG6 : Glob W5 := hGp.keep hkr5 (fun x hx => by rw [List.mem_singleton.1 hx]; have := hG.lt; omega)
      have hE6 := hEp.keep hkr5 (by simpa using hlrp)
      have hk6 : Keep F1 w W5 := hkp.trans hkr5 (fun x hx => Or.inr (by rw [List.mem_singleton.1 hx]; omega))
      have hok6 : RV.ok ⟨a, (⟨h0.generation + 1, h0.first, h0.place, h0.base⟩ : HV), es, used, 0, 0⟩ := ⟨ha, ⟨by simp only; omega, k1.f, k1.p, k1.b⟩, i1, by simp only; omega⟩
      have hrp6 := lt_of_heap hR6.row
      obtain ⟨P, hP⟩ : ∃ P, putD dW a (⟨h0.generation + 1, h0.first, h0.place, h0.base⟩ : HV) = P := ⟨_, rfl⟩
      rw [hP] at HP
      have HW := Lib.hid hP
      clear hP
      obtain ⟨Post, hPost⟩ : ∃ Post : World → Prop, Post = fun w' => ∃ F', DiskAt w' a.p P.2 F' ∧ Keep FW W5 w' ∧ ∀ x ∈ F', x ∈ FW ∨ W5.heap.size ≤ x := ⟨_, rfl⟩
      refine wp_region_ghost (fun a b => Post a → Post b) (fun listed a => listed.getD 5 false = false → Keep [] W5 a)
        [fun v _ => v = .agg a.cells, fun v _ => v = .pointer (some ⟨w2.heap.size + 1, 0, none⟩), fun v _ => v = .pointer (some ⟨w2.heap.size + 1, 0, none⟩), fun v _ => v = .pointer (some ⟨w2.heap.size + 1, 3, none⟩), fun v _ => v = .agg (⟨h0.generation + 1, h0.first, h0.place, h0.base⟩ : HV).cells,
         fun v w' => v = .int .i64 P.1 ∧ Post w', fun v _ => v = .int .i64 P.1] (by kernel_rfl) (by kernel_rfl) (by kernel_rfl) (fun _ _ _ h k e => k (h e)) (fun _ e => e) ?sta9 (fun _ => (Keep.refl _ _).drew) ?mai9
      case sta9 => simp only [Stable]; exact ⟨fun _ _ _ _ h => h, fun _ _ _ _ h => h, fun _ _ _ _ h => h, fun _ _ _ _ h => h, fun _ _ _ _ h => h, fun _ _ _ hk h => ⟨h.1, hk h.2⟩, fun _ _ _ _ h => h, trivial⟩
      case mai9 =>
        simp only [List.length_cons, List.length_nil, Nat.zero_add, Nat.reduceAdd, AllVals]
        intro z0 z1 z2 z3 z4 z5 z6
        simp only [putAll, Act.put, List.setIfInBounds_toArray, List.set_cons_zero, List.set_cons_succ, StepsAtG]
        refine ⟨?stp9, ?fin9⟩
        case' stp9 => repeat' apply And.intro
        all_goals try (first | trivial | exact True.intro)
        · intro wq K listed hR hP hG hL hS hC hK
          simp only [Pre, Region.binds, List.getD_cons_zero, List.getD_cons_succ, true_imp_iff, forall_const, and_true, true_and] at hP
          simp only [Act.put, List.setIfInBounds_toArray, List.set_cons_zero, List.set_cons_succ] at hK
          have hkq : Keep [] W5 wq := hG (hC.notYet 10 5 0 (by kernel_rfl) hL)
          have ra := hkq.get rA6 (by simp)
          have c0 : wq.cell? ⟨w1.heap.size, 0, none⟩ = some (.pointer (some ⟨a.p, 0, none⟩)) := (cell_row' (j := 0) ra).trans rfl
          have c1 : wq.cell? ⟨w1.heap.size, 1, none⟩ = some (.int .i64 a.first) := (cell_row' (j := 1) ra).trans rfl
          have c2 : wq.cell? ⟨w1.heap.size, 2, none⟩ = some (.int .i64 a.places) := (cell_row' (j := 2) ra).trans rfl
          go_wp2
          exact hK _ _ id rfl (fun _ => hkq)
        · intro wq K listed hR hP hG hL hS hC hK
          simp only [Pre, Region.binds, List.getD_cons_zero, List.getD_cons_succ, true_imp_iff, forall_const, and_true, true_and] at hP
          simp only [Act.put, List.setIfInBounds_toArray, List.set_cons_zero, List.set_cons_succ] at hK
          have hkq : Keep [] W5 wq := hG (hC.notYet 10 5 1 (by kernel_rfl) hL)
          go_wp2
          exact hK _ _ id rfl (fun _ => hkq)
        · intro wq K listed hR hP hG hL hS hC hK
          simp only [Pre, Region.binds, List.getD_cons_zero, List.getD_cons_succ, true_imp_iff, forall_const, and_true, true_and] at hP
          simp only [Act.put, List.setIfInBounds_toArray, List.set_cons_zero, List.set_cons_succ] at hK
          have hkq : Keep [] W5 wq := hG (hC.notYet 10 5 2 (by kernel_rfl) hL)
          subst hP
          go_wp2
          exact hK _ _ id rfl (fun _ => hkq)
        · intro wq K listed hR hP hG hL hS hC hK
          simp only [Pre, Region.binds, List.getD_cons_zero, List.getD_cons_succ, true_imp_iff, forall_const, and_true, true_and] at hP
          simp only [Act.put, List.setIfInBounds_toArray, List.set_cons_zero, List.set_cons_succ] at hK
          have hkq : Keep [] W5 wq := hG (hC.notYet 10 5 3 (by kernel_rfl) hL)
          subst hP
          go_wp2
          exact hK _ _ id rfl (fun _ => hkq)
        · intro wq K listed hR hP hG hL hS hC hK
          simp only [Pre, Region.binds, List.getD_cons_zero, List.getD_cons_succ, true_imp_iff, forall_const, and_true, true_and] at hP
          simp only [Act.put, List.setIfInBounds_toArray, List.set_cons_zero, List.set_cons_succ] at hK
          have hkq : Keep [] W5 wq := hG (hC.notYet 10 5 4 (by kernel_rfl) hL)
          subst hP
          have rr := hkq.get hR6.row (by simp)
          have c3 : wq.cell? ⟨w2.heap.size + 1, 3, none⟩ = some (.int .i64 ((h0.generation + 1 : Nat) : Int)) := (cell_row' (j := 3) rr).trans rfl
          have c4 : wq.cell? ⟨w2.heap.size + 1, 4, none⟩ = some (.int .i64 h0.first) := (cell_row' (j := 4) rr).trans rfl
          have c5 : wq.cell? ⟨w2.heap.size + 1, 5, none⟩ = some (.int .i64 h0.place) := (cell_row' (j := 5) rr).trans rfl
          have c6 : wq.cell? ⟨w2.heap.size + 1, 6, none⟩ = some (.int .i64 h0.base) := (cell_row' (j := 6) rr).trans rfl
          go_wp2
          exact hK _ _ id rfl (fun _ => hkq)
        · intro wq K listed hR hP hG hL hS hC hK
          simp only [Pre, Region.binds, List.getD_cons_zero, List.getD_cons_succ, true_imp_iff, forall_const, and_true, true_and] at hP
          simp only [Act.put, List.setIfInBounds_toArray, List.set_cons_zero, List.set_cons_succ] at hK
          have hkq : Keep [] W5 wq := hG hL
          obtain ⟨q0, q4⟩ := hP
          subst q0 q4
          go_wp2_with (go_at_call 34; refine (writeHead_any (h := (⟨h0.generation + 1, h0.first, h0.place, h0.base⟩ : HV)) (hG6.keep0 hkq) (hD6.keep0 hkq) hdW ha hfW hok6.h hlW).mono ?_; rw [HW.out]; rintro e wr ⟨rfl, F7, hD7, hk7, hF7⟩)
          have hp2 : Post wr := by
            rw [hPost]
            exact ⟨F7, hD7, (hkq.mono (F' := FW) (by simp)).trans hk7 (fun x hx => Or.inl hx), fun x hx => (hF7 x hx).imp id (fun h => Nat.le_trans hkq.size h)⟩
          exact hK _ _ (fun _ => hp2) ⟨rfl, hp2⟩ (fun h => by rw [getD_set_self (by rw [hS]; decide)] at h; cases h)
        · intro wq K listed hR hP hG hL hS hC hK
          simp only [Pre, Region.binds, List.getD_cons_zero, List.getD_cons_succ, true_imp_iff, forall_const, and_true, true_and] at hP
          simp only [Act.put, List.setIfInBounds_toArray, List.set_cons_zero, List.set_cons_succ] at hK
          obtain ⟨⟨rfl, -⟩, -⟩ := hP
          go_wp2
          exact hK _ _ id rfl (fun h => hG (by rw [getD_set_other (by decide)] at h; exact h))
        · intro wf hf' hz
          simp only [AllAt] at hz
          obtain ⟨-, -, -, -, -, hz5, hz6, -⟩ := hz
          obtain ⟨-, hz5⟩ := hz5
          subst hz6
          rw [hPost] at hz5
          obtain ⟨F7, hD7, hk7, hF7⟩ := hz5
          clear hf' hPost
          have hR7 : RingIs wf (w2.heap.size + 1) ⟨a, (⟨h0.generation + 1, h0.first, h0.place, h0.base⟩ : HV), es, used, 0, 0⟩ v := ⟨hk7.get hR6.row hrpF, OwnLike.keep hR6.es hk7 (fun k hk e => hvF k e hk)⟩
          have hB7 := hB6.keep hk7 (hbF _ (by simp)) (hbF _ (by simp)) (hbF _ (by simp))
          have hE7 := hE6.keep hk7 (fun k hk e => hlF k e hk)
          have hk8 : Keep F w wf := (hk6.mono (F' := F) (fun x hx => Or.inl (hF1 x hx).1)).trans hk7 hFW2
          have hs7 := hk7.size
          have hDf7 := hk7.get (hkr5.get hDf (by simp; omega)) hDF
          have hbF7 : ∀ x ∈ F7, x ∉ [w.heap.size + 1, w.heap.size + 1 + 1, w.heap.size + 1 + 1 + 1] := fun x hx hm => by
            rcases hF7 x hx with h | h
            · exact hbF x hm h
            · simp only [List.mem_cons, List.not_mem_nil, or_false] at hm; omega
          have hFF7 : ∀ x ∈ F7, x ∈ F ∨ w.heap.size ≤ x := fun x hx => by
            rcases hF7 x hx with h | h
            · exact hFW2 x h
            · exact Or.inr (by omega)
          by_cases hp1 : P.1 = 0
          · have HP2 := Lib.hid (HP.out.trans (if_neg (by simpa using hp1)))
            have hb1 : (P.1 == 0) = true := by simpa using hp1
            have hb1' : (P.1 != 0) = false := by simpa using hp1
            clear hp1
            go_upto_region 26 with (go_at_call 10; refine (next_any hR7 hok6).mono ?_; rintro e w8 ⟨rfl, hk9⟩; have hR8 := hk9.get hR7.row (by simp); have c9 : w8.cell? ⟨w2.heap.size + 1, 9, none⟩ = some (.int .i64 (0 : Nat)) := (cell_row' (j := 9) hR8).trans rfl; have f9 := frozen_row' (j := 9) hR8)
            obtain ⟨W9, hW9⟩ : ∃ W9, W9 = w8.setCell ⟨w2.heap.size + 1, 9, none⟩ (.int .i64 ((h0.first : Int) + (es.length : Int))) := ⟨_, rfl⟩
            rw [← hW9]
            have hkr9 : Keep [w2.heap.size + 1] w8 W9 := by rw [hW9]; exact (Keep.refl _ _).setCell (by simp) _
            have hR9 : RingIs W9 (w2.heap.size + 1) ⟨a, (⟨h0.generation + 1, h0.first, h0.place, h0.base⟩ : HV), es, used, h0.first + es.length, 0⟩ v := ⟨by rw [hW9]; exact (heap_setCell_same w8 (w2.heap.size + 1) 9 _ _ _ hR8).trans (by simp [RV.cells]), OwnLike.keep (OwnLike.keep (F := []) hR7.es hk9 (by simp)) hkr9 (by simpa using hvrp)⟩
            clear hW9
            have hB9 := (hB7.keep0 hk9).keep hkr9 (by simp; omega) (by simp; omega) (by simp; omega)
            have hE9 := (hE7.keep hk9 (by simp)).keep hkr9 (by simpa using hlrp)
            have hrpF7 : w2.heap.size + 1 ∉ F7 := fun hm => by
              rcases hF7 _ hm with h | h
              · exact hrpF h
              · omega
            have hvF7 : ∀ k, v.ownBlock = some k → k ∉ F7 := fun k e hm => by
              rcases hF7 _ hm with h | h
              · exact hvF k e h
              · have := (World.ownsRow.lt hR6.es k e).2; omega
            have hlF7 : ∀ k, (Value.slice la ln lc).ownBlock = some k → k ∉ F7 := fun k e hm => by
              rcases hF7 _ hm with h | h
              · exact hlF k e h
              · have := (World.ownsRow.lt hE6 k e).2; omega
            have hD9 := (hD7.keep0 hk9).keep hkr9 (fun x hx hm => by rw [List.mem_singleton.1 hm] at hx; exact hrpF7 hx)
            have hk10 : Keep F w W9 := (hk8.then hk9).trans hkr9 (fun x hx => Or.inr (by rw [List.mem_singleton.1 hx]; omega))
            obtain ⟨ca, fa, cb, fb, cc, fc⟩ := hB9.cells
            go_wp2
            obtain ⟨hB8, hkb⟩ := hB9.set (.pointer (some ⟨w2.heap.size + 1, 0, none⟩)) (.slice la ln lc) (.int .i64 0)
            have hD10 := hD9.keep hkb hbF7
            have hDz := hkb.get (hkr9.get (hk9.get hDf7 (by simp)) (by simp; omega)) (by simp only [List.mem_cons, List.not_mem_nil, or_false]; omega)
            obtain ⟨F8, hD11, hF8, hD8n⟩ := hD10.tightD
            have hDF8 : D ∉ F8 := fun hm => hD8n D hm _ hDz
            have hrb : w2.heap.size + 1 ∉ [w.heap.size + 1, w.heap.size + 1 + 1, w.heap.size + 1 + 1 + 1] := by simp only [List.mem_cons, List.not_mem_nil, or_false]; omega
            have hR10 : RingIs _ (w2.heap.size + 1) ⟨a, (⟨h0.generation + 1, h0.first, h0.place, h0.base⟩ : HV), es, used, h0.first + es.length, 0⟩ v := ⟨hkb.get hR9.row hrb, OwnLike.keep hR9.es hkb (hB9.ne hR9.es (by decide) (by decide) (by decide))⟩
            have hE10 := hE9.keep hkb (hB9.ne hE9 (by decide) (by decide) (by decide))
            have hk11 := hk10.trans hkb (fun x hx => Or.inr (by simp only [List.mem_cons, List.not_mem_nil, or_false] at hx; omega))
            refine ⟨by simp, .inl ⟨_, _, rfl, run_takeDeferred hDz, ?_⟩⟩
            generalize (((W9.setCell ⟨w.heap.size + 1, 0, none⟩ (.pointer (some ⟨w2.heap.size + 1, 0, none⟩))).setCell ⟨w.heap.size + 1 + 1, 0, none⟩ (.slice la ln lc)).setCell ⟨w.heap.size + 1 + 1 + 1, 0, none⟩ (.int .i64 0)) = Wz at *
            have kD : Keep [D] Wz (Wz.putObj D (.deferred none)) := (Keep.refl [D] Wz).grown (grownBy_putObj' Wz D (.deferred none)) (fun k e => Or.inl (by cases e; simp))
            refine open_leaves (hB8.keep kD (by simp; omega) (by simp; omega) (by simp; omega)) rfl rfl rfl ?_
            have hD12 := hD11.keep kD (fun x hx hm => by rw [List.mem_singleton.1 hm] at hx; exact hDF8 hx)
            unfold OpenPost
            rw [HP2.out]
            exact ⟨_, _, v, F8, rfl, hD12, ⟨kD.get hR10.row (by simp; omega), OwnLike.keep hR10.es kD (fun k hk e => by rw [List.mem_singleton.1 hk] at e; have := (hv4 _ e).2; omega)⟩, hE10.keep kD (fun k hk e => by rw [List.mem_singleton.1 hk] at e; have := (World.ownsRow.lt hE5 _ e).2; omega), by omega, fun k e => (hv4 k e).1, fun hm => hrpF7 (hF8 _ hm).1, fun k e hm => hvF7 k e (hF8 _ hm).1, fun k e hm => hlF7 k e (hF8 _ hm).1,
              hk11.trans kD (fun x hx => Or.inr (by rw [List.mem_singleton.1 hx]; omega)), fun x hx => hFF7 x (hF8 x hx).1, fun x hx => Nat.lt_of_lt_of_le (hF8 x hx).2 kD.size⟩
          · have HP2 := Lib.hid (HP.out.trans (if_pos (by simpa using hp1)))
            have hb1 : (P.1 == 0) = false := by simpa using hp1
            have hb1' : (P.1 != 0) = true := by simpa using hp1
            clear hp1
            obtain ⟨ca, fa, cb, fb, cc, fc⟩ := hB7.cells
            go_wp2
            obtain ⟨hB8, hkb⟩ := hB7.set (.pointer none) (.slice none 0 0) (.int .i64 P.1)
            have hDz := hkb.get hDf7 (by simp only [List.mem_cons, List.not_mem_nil, or_false]; omega)
            have hD8 := hD7.keep hkb hbF7
            obtain ⟨F8, hD11, hF8, hD8n⟩ := hD8.tightD
            have hDF8 : D ∉ F8 := fun hm => hD8n D hm _ hDz
            have hk11 := hk8.trans hkb (fun x hx => Or.inr (by simp only [List.mem_cons, List.not_mem_nil, or_false] at hx; omega))
            refine ⟨by simp, .inl ⟨_, _, rfl, run_takeDeferred hDz, ?_⟩⟩
            generalize (((wf.setCell ⟨w.heap.size + 1, 0, none⟩ (.pointer none)).setCell ⟨w.heap.size + 1 + 1, 0, none⟩ (.slice none 0 0)).setCell ⟨w.heap.size + 1 + 1 + 1, 0, none⟩ (.int .i64 P.1)) = Wz at *
            have kD : Keep [D] Wz (Wz.putObj D (.deferred none)) := (Keep.refl [D] Wz).grown (grownBy_putObj' Wz D (.deferred none)) (fun k e => Or.inl (by cases e; simp))
            refine open_leaves (hB8.keep kD (by simp; omega) (by simp; omega) (by simp; omega)) rfl rfl rfl ?_
            unfold OpenPost
            rw [HP2.out]
            exact ⟨rfl, F8, hD11.keep kD (fun x hx hm => by rw [List.mem_singleton.1 hm] at hx; exact hDF8 hx), hk11.trans kD (fun x hx => Or.inr (by rw [List.mem_singleton.1 hx]; omega)), fun x hx => hFF7 x (hF8 x hx).1⟩
end
end Go.Proofs.YtgopdbpddemplaaDoor
