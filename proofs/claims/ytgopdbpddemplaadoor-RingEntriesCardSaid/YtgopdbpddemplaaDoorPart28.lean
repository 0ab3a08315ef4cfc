/- ring: Open. · Drawn regions inside a round: a ghost that knows which operations have come and what they yielded. -/
import Derived.Test.YtgopdbpddemplaaDoorPart27
import Derived.Test.YtgopdbpddemplaaDoorPart18
set_option linter.unusedSimpArgs false
set_option linter.unusedVariables false
namespace Go.Proofs.YtgopdbpddemplaaDoor
section
/- ring: Open. -/
open Go.RowKit Go.Shelf
attribute [local go_sem] Oper.semAt_some

def OpenPost (w : World) (F : List Nat) (p : Nat) (R : Int × DK × Option (RV × List (Nat × List UInt8))) (e : Ending) (w' : World) : Prop :=
  match R.2.2 with
  | none => e = .returned (.tuple #[.pointer none, .slice none 0 0, .int .i64 R.1]) ∧ ∃ F', DiskAt w' p R.2.1 F' ∧ Keep F w w' ∧ ∀ x ∈ F', x ∈ F ∨ w.heap.size ≤ x
  | some (r, l) => ∃ rp lv v F', e = .returned (.tuple #[.pointer (some ⟨rp, 0, none⟩), lv, .int .i64 0]) ∧ DiskAt w' p R.2.1 F' ∧ RingIs w' rp r v ∧ EntsAt w' w.heap.size lv l ∧ w.heap.size ≤ rp ∧ (∀ k, v.ownBlock = some k → w.heap.size ≤ k) ∧ rp ∉ F' ∧ (∀ k, v.ownBlock = some k → k ∉ F') ∧ (∀ k, lv.ownBlock = some k → k ∉ F') ∧ Keep F w w' ∧ (∀ x ∈ F', x ∈ F ∨ w.heap.size ≤ x) ∧ (∀ x ∈ F', x < w'.heap.size)
/-- the three boxes of the results -/
structure Res3 (w : World) (b : Nat) (v1 v2 v3 : Value) : Prop where
  r1 : w.heap[b + 1]? = some (.cells #[v1] 26 (0, 0))
  r2 : w.heap[b + 1 + 1]? = some (.cells #[v2] 39 (0, 0))
  r3 : w.heap[b + 1 + 1 + 1]? = some (.cells #[v3] 32 (0, 0))
theorem Res3.keep {w w' : World} {b : Nat} {v1 v2 v3 : Value} {F : List Nat} (h : Res3 w b v1 v2 v3) (hk : Keep F w w') (h1 : b + 1 ∉ F) (h2 : b + 1 + 1 ∉ F) (h3 : b + 1 + 1 + 1 ∉ F) : Res3 w' b v1 v2 v3 := ⟨hk.get h.r1 h1, hk.get h.r2 h2, hk.get h.r3 h3⟩
theorem Res3.keep0 {w w' : World} {b : Nat} {v1 v2 v3 : Value} (h : Res3 w b v1 v2 v3) (hk : Keep [] w w') : Res3 w' b v1 v2 v3 := h.keep hk (by simp) (by simp) (by simp)
theorem boxes3 {w w1 : World} {v : Value} (hk : Keep [] ((((w.alloc (.cells #[v] 25)).alloc (.cells #[.pointer none] 26)).alloc (.cells #[.slice none 0 0] 39)).alloc (.cells #[.int .i64 0] 32)) w1) :
    Res3 w1 w.heap.size (.pointer none) (.slice none 0 0) (.int .i64 0) ∧ Keep [] w w1 ∧ w1.heap[w.heap.size]? = some (.cells #[v] 25 (0, 0)) ∧ w.heap.size + 1 + 1 + 1 < w1.heap.size := by
  have hs := hk.size
  simp only [World.size_alloc] at hs
  refine ⟨⟨hk.get ?_ (by simp), hk.get ?_ (by simp), hk.get ?_ (by simp)⟩, ((((((Keep.refl [] w).alloc _).alloc _).alloc _).alloc _).then hk), hk.get ?_ (by simp), by omega⟩
  · exact (heap_alloc_past (by simp <;> omega)).trans ((heap_alloc_past (by simp <;> omega)).trans (heap_alloc_at (by simp only [World.size_alloc])))
  · exact (heap_alloc_past (by simp <;> omega)).trans (heap_alloc_at (by simp only [World.size_alloc]))
  · exact heap_alloc_at (by simp only [World.size_alloc])
  · exact (heap_alloc_past (by simp <;> omega)).trans ((heap_alloc_past (by simp <;> omega)).trans ((heap_alloc_past (by simp)).trans (heap_alloc_new w _)))
/-- the cells of the boxes, for the walk -/
theorem Res3.cells {w : World} {b : Nat} {v1 v2 v3 : Value} (h : Res3 w b v1 v2 v3) :
    w.cell? ⟨b + 1, 0, none⟩ = some v1 ∧ w.frozen? ⟨b + 1, 0, none⟩ = false ∧ w.cell? ⟨b + 1 + 1, 0, none⟩ = some v2 ∧ w.frozen? ⟨b + 1 + 1, 0, none⟩ = false ∧ w.cell? ⟨b + 1 + 1 + 1, 0, none⟩ = some v3 ∧ w.frozen? ⟨b + 1 + 1 + 1, 0, none⟩ = false :=
  ⟨(cell_row' (j := 0) h.r1).trans rfl, frozen_row' (j := 0) h.r1, (cell_row' (j := 0) h.r2).trans rfl, frozen_row' (j := 0) h.r2, (cell_row' (j := 0) h.r3).trans rfl, frozen_row' (j := 0) h.r3⟩
theorem Res3.set {w : World} {b : Nat} {v1 v2 v3 : Value} (h : Res3 w b v1 v2 v3) (u1 u2 u3 : Value) :
    Res3 (((w.setCell ⟨b + 1, 0, none⟩ u1).setCell ⟨b + 1 + 1, 0, none⟩ u2).setCell ⟨b + 1 + 1 + 1, 0, none⟩ u3) b u1 u2 u3 ∧ Keep [b + 1, b + 1 + 1, b + 1 + 1 + 1] w (((w.setCell ⟨b + 1, 0, none⟩ u1).setCell ⟨b + 1 + 1, 0, none⟩ u2).setCell ⟨b + 1 + 1 + 1, 0, none⟩ u3) := by
  have a1 := heap_setCell_same w (b + 1) 0 _ _ u1 h.r1
  have b1 := (heap_setCell_other w ⟨b + 1, 0, none⟩ (b + 1 + 1) u1 (by simp)).trans h.r2
  have c1 := (heap_setCell_other w ⟨b + 1, 0, none⟩ (b + 1 + 1 + 1) u1 (by simp <;> omega)).trans h.r3
  have a2 := (heap_setCell_other _ ⟨b + 1 + 1, 0, none⟩ (b + 1) u2 (by simp)).trans a1
  have b2 := heap_setCell_same _ (b + 1 + 1) 0 _ _ u2 b1
  have c2 := (heap_setCell_other _ ⟨b + 1 + 1, 0, none⟩ (b + 1 + 1 + 1) u2 (by simp)).trans c1
  exact ⟨⟨(heap_setCell_other _ ⟨b + 1 + 1 + 1, 0, none⟩ (b + 1) u3 (by simp <;> omega)).trans a2, (heap_setCell_other _ ⟨b + 1 + 1 + 1, 0, none⟩ (b + 1 + 1) u3 (by simp <;> omega)).trans b2, heap_setCell_same _ (b + 1 + 1 + 1) 0 _ _ u3 c2⟩,
    (((Keep.refl _ _).setCell (by simp) _).setCell (by simp) _).setCell (by simp) _⟩
theorem open_leaves {tmps : Array Value} {w : World} {b : Nat} {v1 v2 v3 : Value} {R : Ending → World → Prop} (h : Res3 w b v1 v2 v3) (t6 : tmps.getD 6 undef = .pointer (some ⟨b + 1, 0, none⟩)) (t7 : tmps.getD 7 undef = .pointer (some ⟨b + 1 + 1, 0, none⟩)) (t8 : tmps.getD 8 undef = .pointer (some ⟨b + 1 + 1 + 1, 0, none⟩))
    (hR : R (.returned (.tuple #[v1, v2, v3])) w) : LeavesInM Fence.wide 20 Tryd.prog Tryd.f13 tmps R [] .returning w := by
  obtain ⟨ca, _, cb, _, cc, _⟩ := h.cells
  refine ⟨_, ?_, hR⟩
  have t6' : tmps[6]?.getD undef = .pointer (some ⟨b + 1, 0, none⟩) := by simpa using t6
  have t7' : tmps[7]?.getD undef = .pointer (some ⟨b + 1 + 1, 0, none⟩) := by simpa using t7
  have t8' : tmps[8]?.getD undef = .pointer (some ⟨b + 1 + 1 + 1, 0, none⟩) := by simpa using t8
  simp [results, Tryd.f13, go_sem, ca, cb, cc, t6', t7', t8']
theorem open_ret {tmps : Array Value} {w : World} {b : Nat} {v1 v2 v3 : Value} {R : Ending → World → Prop} (h : Res3 w b v1 v2 v3) (t6 : tmps.getD 6 undef = .pointer (some ⟨b + 1, 0, none⟩)) (t7 : tmps.getD 7 undef = .pointer (some ⟨b + 1 + 1, 0, none⟩)) (t8 : tmps.getD 8 undef = .pointer (some ⟨b + 1 + 1 + 1, 0, none⟩))
    (hR : R (.returned (.tuple #[v1, v2, v3])) w) : bodyPostM Fence.wide 20 Tryd.prog Tryd.f13 R .ret { tmps := tmps, defers := [] } w := open_leaves h t6 t7 t8 hR
set_option maxRecDepth 100000 in
set_option maxHeartbeats 2000000 in
theorem open_err1 {F : List Nat} {w : World} {p : Nat} {d : DK} (h : DiskAt w p d F) (first blocks : Int) (hb0 : 0 ≤ d.blocks) (hb1 : d.blocks ≤ 8192) (hfi : first ≤ 9223372036854775807) (he : areaErr d first blocks ≠ 0) :
    Calls Tryd.prog 13 #[.pointer (some ⟨p, 0, none⟩), .int .i64 first, .int .i64 blocks] w (OpenPost w F p (openF d p first blocks)) := by
  obtain ⟨er, her⟩ : ∃ er, areaErr d first blocks = er := ⟨_, rfl⟩
  rw [her] at he
  have HF : Hid (openF d p first blocks = (er, d, none)) := Lib.hid (by unfold openF; rw [her, if_pos he])
  have HR : Hid (areaR d p first blocks = .tuple #[.agg zeroA, .int .i64 er]) := Lib.hid (by unfold areaR; rw [her, if_neg he])
  unfold zeroA at HR
  have heb : (er == 0) = false := by simpa using he
  have heb' : (er != 0) = true := by simpa using he
  clear he her
  refine (callsIn_wide (n := 20)).1 ?_
  refine callsIn_of_wp_marks Tryd.func13 rfl trivial ?_ rfl
  simp only [Tryd.ntmps13, List.size_toArray, List.length_cons, List.length_nil, Nat.reduceAdd, Nat.reduceSub, Array.replicate_succ, Array.replicate_zero, List.push_toArray, List.append_toArray, List.nil_append, List.cons_append]
  refine wpIn_wide.2 ?_
  go_wp2_with (first
    | (go_at_call 28; refine (areaOf_any (h.keep0 (((((Keep.refl [] w).alloc _).alloc _).alloc _).alloc _)) first blocks hb0 hb1 hfi).mono ?_; rw [HR.out]; rintro e w1 ⟨rfl, hk1⟩
       obtain ⟨hB1, hkw1, rD1, hs1⟩ := boxes3 hk1
       have hB2 := hB1.keep0 ((Keep.refl [] w1).alloc (.cells #[.pointer none, .int .i64 0, .int .i64 0] 63))
       obtain ⟨ca, fa, cb, fb, cc, fc⟩ := hB2.cells))
  obtain ⟨hB3, hk3⟩ := hB2.set (.pointer none) (.slice none 0 0) (.int .i64 er)
  refine open_ret hB3 rfl rfl rfl ?_
  have hkf := (hkw1.alloc (.cells #[.pointer none, .int .i64 0, .int .i64 0] 63)).trans hk3 (fun x hx => by simp only [List.mem_cons, List.not_mem_nil, or_false] at hx; omega)
  unfold OpenPost
  rw [HF.out]
  exact ⟨rfl, F, h.keep0 hkf, hkf.mono (by simp), fun x hx => Or.inl hx⟩

set_option maxRecDepth 100000 in
set_option maxHeartbeats 2000000 in
theorem open_err2 {F : List Nat} {w : World} {p : Nat} {d : DK} (hG : Glob w) (h : DiskAt w p d F) (first blocks : Int) (hb0 : 0 ≤ d.blocks) (hb1 : d.blocks ≤ 8192) (hfi : first ≤ 9223372036854775807) (he : areaErr d first blocks = 0) (hc : currentF d (areaN p first blocks) = none) :
    Calls Tryd.prog 13 #[.pointer (some ⟨p, 0, none⟩), .int .i64 first, .int .i64 blocks] w (OpenPost w F p (openF d p first blocks)) := by
  have HF : Hid (openF d p first blocks = (3, d, none)) := Lib.hid (by unfold openF; rw [if_neg (by simpa using he)]; simp only; rw [hc])
  obtain ⟨ha, hf, hd, h2, -, -⟩ := area_ok (p := p) he hb1
  have HR : Hid (areaR d p first blocks = .tuple #[.agg (areaN p first blocks).cells, .int .i64 0]) := Lib.hid (by unfold areaR; rw [he]; rfl)
  have hap : (areaN p first blocks).p = p := rfl
  obtain ⟨a, hae⟩ : ∃ a, areaN p first blocks = a := ⟨_, rfl⟩
  simp only [hae] at ha hf h2 HF HR hap hc
  clear he hae
  subst hap
  unfold AR.cells at HR
  have ha1 := ha.2.1
  have ha2 := ha.2.2
  have HC := Lib.hid hc
  clear hc
  refine (callsIn_wide (n := 20)).1 ?_
  refine callsIn_of_wp_marks Tryd.func13 rfl trivial ?_ rfl
  simp only [Tryd.ntmps13, List.size_toArray, List.length_cons, List.length_nil, Nat.reduceAdd, Nat.reduceSub, Array.replicate_succ, Array.replicate_zero, List.push_toArray, List.append_toArray, List.nil_append, List.cons_append]
  refine wpIn_wide.2 ?_
  go_wp2_with (first
    | (go_at_call 28; refine (areaOf_any (h.keep0 (((((Keep.refl [] w).alloc _).alloc _).alloc _).alloc _)) first blocks hb0 hb1 hfi).mono ?_; rw [HR.out]; rintro e w1 ⟨rfl, hk1⟩
       obtain ⟨hB1, hkw1, rD1, hs1⟩ := boxes3 hk1
       have hG2 := hG.keep0 (hkw1.alloc (.cells #[.pointer (some ⟨a.p, 0, none⟩), .int .i64 a.first, .int .i64 a.places] 63))
       have hD2 := h.keep0 (hkw1.alloc (.cells #[.pointer (some ⟨a.p, 0, none⟩), .int .i64 a.first, .int .i64 a.places] 63))
       have hB2 := hB1.keep0 ((Keep.refl [] w1).alloc (.cells #[.pointer (some ⟨a.p, 0, none⟩), .int .i64 a.first, .int .i64 a.places] 63)))
    | (go_at_call 29; refine (current_any hG2 hD2 hd ha hf).mono ?_; rw [HC.out]; rintro e w2 ⟨rfl, hk2⟩; simp only [headV, HV.cells]
       have hB3 := (hB2.keep0 hk2).keep0 ((Keep.refl [] w2).alloc (.cells #[.int .i64 0, .int .i64 0, .int .i64 0, .int .i64 0] 61))
       have hkw3 := ((hkw1.alloc (.cells #[.pointer (some ⟨a.p, 0, none⟩), .int .i64 a.first, .int .i64 a.places] 63)).then hk2).alloc (.cells #[.int .i64 0, .int .i64 0, .int .i64 0, .int .i64 0] 61)
       have rA2 := hk2.get (heap_alloc_new w1 (.cells #[.pointer (some ⟨a.p, 0, none⟩), .int .i64 a.first, .int .i64 a.places] 63)) (by simp)
       obtain ⟨ca, fa, cb, fb, cc, fc⟩ := hB3.cells))
  obtain ⟨hB5, hk5⟩ := hB3.set (.pointer none) (.slice none 0 0) (.int .i64 3)
  refine open_ret hB5 rfl rfl rfl ?_
  have hkf := hkw3.trans hk5 (fun x hx => by simp only [List.mem_cons, List.not_mem_nil, or_false] at hx; omega)
  unfold OpenPost
  rw [HF.out]
  exact ⟨rfl, F, h.keep0 hkf, hkf.mono (by simp), fun x hx => Or.inl hx⟩
set_option maxRecDepth 100000 in
set_option maxHeartbeats 2000000 in
theorem open_err3 {F : List Nat} {w : World} {p : Nat} {d : DK} (hG : Glob w) (h : DiskAt w p d F) (first blocks : Int) (hb0 : 0 ≤ d.blocks) (hb1 : d.blocks ≤ 8192) (hfi : first ≤ 9223372036854775807) (he : areaErr d first blocks = 0) (h0 : HV) (hc : currentF d (areaN p first blocks) = some h0) (hm : h0.generation = 2147483647) :
    Calls Tryd.prog 13 #[.pointer (some ⟨p, 0, none⟩), .int .i64 first, .int .i64 blocks] w (OpenPost w F p (openF d p first blocks)) := by
  have HF : Hid (openF d p first blocks = (9, d, none)) := Lib.hid (by unfold openF; rw [if_neg (by simpa using he)]; simp only; rw [hc]; simp only; rw [if_pos hm])
  obtain ⟨ha, hf, hd, h2, -, -⟩ := area_ok (p := p) he hb1
  have HR : Hid (areaR d p first blocks = .tuple #[.agg (areaN p first blocks).cells, .int .i64 0]) := Lib.hid (by unfold areaR; rw [he]; rfl)
  have hap : (areaN p first blocks).p = p := rfl
  obtain ⟨a, hae⟩ : ∃ a, areaN p first blocks = a := ⟨_, rfl⟩
  simp only [hae] at ha hf h2 HF HR hap hc
  clear he hae
  subst hap
  unfold AR.cells at HR
  have ha1 := ha.2.1
  have ha2 := ha.2.2
  have HC := Lib.hid hc
  clear hc
  have hmb : ((h0.generation : Int) == 2147483647) = true := by rw [hm]; rfl
  clear hm
  refine (callsIn_wide (n := 20)).1 ?_
  refine callsIn_of_wp_marks Tryd.func13 rfl trivial ?_ rfl
  simp only [Tryd.ntmps13, List.size_toArray, List.length_cons, List.length_nil, Nat.reduceAdd, Nat.reduceSub, Array.replicate_succ, Array.replicate_zero, List.push_toArray, List.append_toArray, List.nil_append, List.cons_append]
  refine wpIn_wide.2 ?_
  go_wp2_with (first
    | (go_at_call 28; refine (areaOf_any (h.keep0 (((((Keep.refl [] w).alloc _).alloc _).alloc _).alloc _)) first blocks hb0 hb1 hfi).mono ?_; rw [HR.out]; rintro e w1 ⟨rfl, hk1⟩
       obtain ⟨hB1, hkw1, rD1, hs1⟩ := boxes3 hk1
       have hG2 := hG.keep0 (hkw1.alloc (.cells #[.pointer (some ⟨a.p, 0, none⟩), .int .i64 a.first, .int .i64 a.places] 63))
       have hD2 := h.keep0 (hkw1.alloc (.cells #[.pointer (some ⟨a.p, 0, none⟩), .int .i64 a.first, .int .i64 a.places] 63))
       have hB2 := hB1.keep0 ((Keep.refl [] w1).alloc (.cells #[.pointer (some ⟨a.p, 0, none⟩), .int .i64 a.first, .int .i64 a.places] 63)))
    | (go_at_call 29; refine (current_any hG2 hD2 hd ha hf).mono ?_; rw [HC.out]; rintro e w2 ⟨rfl, hk2⟩; simp only [headV, HV.cells]
       have hB3 := (hB2.keep0 hk2).keep0 ((Keep.refl [] w2).alloc (.cells #[.int .i64 h0.generation, .int .i64 h0.first, .int .i64 h0.place, .int .i64 h0.base] 61))
       have hkw3 := ((hkw1.alloc (.cells #[.pointer (some ⟨a.p, 0, none⟩), .int .i64 a.first, .int .i64 a.places] 63)).then hk2).alloc (.cells #[.int .i64 h0.generation, .int .i64 h0.first, .int .i64 h0.place, .int .i64 h0.base] 61)
       have rA2 := hk2.get (heap_alloc_new w1 (.cells #[.pointer (some ⟨a.p, 0, none⟩), .int .i64 a.first, .int .i64 a.places] 63)) (by simp)
       obtain ⟨ca, fa, cb, fb, cc, fc⟩ := hB3.cells))
  obtain ⟨hB5, hk5⟩ := hB3.set (.pointer none) (.slice none 0 0) (.int .i64 9)
  refine open_ret hB5 rfl rfl rfl ?_
  have hkf := hkw3.trans hk5 (fun x hx => by simp only [List.mem_cons, List.not_mem_nil, or_false] at hx; omega)
  unfold OpenPost
  rw [HF.out]
  exact ⟨rfl, F, h.keep0 hkf, hkf.mono (by simp), fun x hx => Or.inl hx⟩
end

section
/- Drawn regions inside a round: a ghost that knows which operations have come and what they yielded. -/
open Go.RowKit

section
variable {P : Program} {Q : Exit → Act → World → Prop}
theorem wpIn_region_ghost2 {id : Nat} {a₀ : Act} {w₀ : World} {l : List Oper} (l' n : Nat) (R : World → World → Prop) (G : Array Bool → List Value → World → Prop) (V : List (Value → World → Prop)) (hm : P.follows .mixedOrders = true)
    (hlo : ¬ LetsOut Q) (hnd : noDefer l = true)
    (hA : apartB l = true) (hb : backB l = true) (htr : ∀ a b c, R a b → R b c → R a c) (hre : ∀ a, R a a) (hst : Stable R V) (hg0 : ∀ vs, G (Array.replicate l.length false) vs w₀.drew)
    (h : AllVals l.length fun vs => StepsAtH P Q l R G V w₀.drew (putAll l vs a₀) vs 0 V l ∧ (∀ w listed, R w₀.drew w → AllAt V vs w → (∀ i, i < l.length → listed.getD i false = true) → G listed vs w → Q .normal (putAll l vs a₀) w)) :
    (Code.region id l.toArray true).wpIn (Fence.wide.inRound l') n P Q a₀ w₀ := by
  refine wpIn_region_any hm ?_
  refine wpAny_in l' n hlo (fun i o ho => noDefer_get hnd i o ho) _ _ _ _ ?_
  -- the slots as they stand
  obtain ⟨vs, hvs, he⟩ : ∃ vs : List Value, vs.length = l.length ∧ putAll l vs a₀ = a₀ := by
    clear h hst hb hA hg0 hnd
    induction l generalizing a₀ with
    | nil => exact ⟨[], rfl, rfl⟩
    | cons o l ih =>
      obtain ⟨v, hv⟩ : ∃ v, a₀.put o.dst v = a₀ := by
        cases hd : o.dst with
        | none => exact ⟨undef, rfl⟩
        | some d =>
          refine ⟨a₀.tmps.getD d undef, ?_⟩
          cases a₀ with
          | mk tmps defers =>
            simp only [Act.put]
            congr 1
            apply Array.ext_getElem?
            intro i
            by_cases hi : d = i
            · subst hi
              by_cases hs : d < tmps.size <;> simp [hs]
            · simp [Array.getElem?_setIfInBounds_ne hi]
      obtain ⟨vs, h1, h2⟩ := ih (a₀ := a₀)
      exact ⟨v :: vs, by simp [h1], by simp only [putAll, hv, h2]⟩
  have := wpAny_ghost2 (P := P) (Q := Q) (G := G) (R := R) (V := V) (l := l) (a₀ := a₀) (w₀ := w₀.drew) (apart_of l hA) hb htr hst (fun vs hv => (h.get vs hv).1) (fun vs w listed hv hr ha hL hG => (h.get vs hv).2 w listed hr ha hL hG)
    l.length (Array.replicate l.length false) vs w₀.drew (by simp) hvs (hre _) (hg0 _) (Closed.none l) (by intro i hi; by_cases h : i < l.length <;> simp [h] at hi) (by simp)
  rw [he] at this
  simpa using this
end
end
end Go.Proofs.YtgopdbpddemplaaDoor
