/- ring: current. · ring: Format. · ring: find: entries in memory; append of one entry. -/
import Derived.Test.YtgopdbpddemplaaDoorPart21
import Derived.Test.YtgopdbpddemplaaDoorPart18
set_option linter.unusedSimpArgs false
set_option linter.unusedVariables false
namespace Go.Proofs.YtgopdbpddemplaaDoor
section
/- ring: current. -/
open Go.RowKit

def stepB (o x : Option HV) : Option HV := match x with | none => o | some h => match o with | none => some h | some b => if h.generation > b.generation then some h else some b
def bestF (d : DK) (a : AR) : Nat → Option HV
  | 0 => none
  | k + 1 => stepB (bestF d a k) (headF d a k)
theorem currentF_eq (d : DK) (a : AR) : currentF d a = bestF d a 2 := by
  show _ = stepB (stepB none (headF d a 0)) (headF d a 1)
  unfold currentF
  cases headF d a 0 <;> cases headF d a 1 <;> rfl
def bestV (o : Option HV) : Array Value := match o with | none => #[.int .i64 0, .int .i64 0, .int .i64 0, .int .i64 0] | some h => h.cells
theorem bestV_size (o : Option HV) : (bestV o).size = 4 := by cases o <;> rfl
theorem headV_best (o : Option HV) : headV o = .tuple #[.agg (bestV o), .bool o.isSome, .int .i64 0] := by cases o <;> rfl

set_option maxRecDepth 100000 in
set_option maxHeartbeats 2000000 in
theorem current_any {F : List Nat} {w : World} {d : DK} {a : AR} (hG : Glob w) (h : DiskAt w a.p d F) (hd : d.down = false) (ha : a.ok) (hf : a.fits d) :
    Calls Tryd.prog 29 #[.agg a.cells] w fun e w' => e = .returned (headV (currentF d a)) ∧ Keep [] w w' := by
  have hcur := Lib.hid (currentF_eq d a)
  unfold AR.cells
  go_enter Tryd.func29, Tryd.ntmps29
  go_wp2
  obtain ⟨W0, hW0⟩ : ∃ W0, W0 = ((w.alloc (.cells #[.pointer (some ⟨a.p, 0, none⟩), .int .i64 a.first, .int .i64 a.places] 63)).alloc (.cells #[.int .i64 0, .int .i64 0, .int .i64 0, .int .i64 0] 61)).alloc (.cells #[.int .i64 0, .int .i64 0, .int .i64 0, .int .i64 0] 61) := ⟨_, rfl⟩
  rw [← hW0]
  have hK0 : Keep [] w W0 := by rw [hW0]; exact (((Keep.refl [] w).alloc _).alloc _).alloc _
  have rA : W0.heap[w.heap.size]? = some (.cells #[.pointer (some ⟨a.p, 0, none⟩), .int .i64 a.first, .int .i64 a.places] 63 (0, 0)) := by rw [hW0]; exact (heap_alloc_past (by simp; omega)).trans ((heap_alloc_past (by simp)).trans (heap_alloc_new w _))
  have rR : W0.heap[w.heap.size + 1]? = some (.cells #[.int .i64 0, .int .i64 0, .int .i64 0, .int .i64 0] 61 (0, 0)) := by rw [hW0]; exact (heap_alloc_past (by simp)).trans (heap_alloc_at (by simp))
  have rB : W0.heap[w.heap.size + 2]? = some (.cells #[.int .i64 0, .int .i64 0, .int .i64 0, .int .i64 0] 61 (0, 0)) := by rw [hW0]; exact heap_alloc_at (by simp)
  have hG0 := hG.keep0 hK0
  obtain ⟨F1, hD1, hF1⟩ := h.tight
  have hsW : w.heap.size + 3 = W0.heap.size := by rw [hW0]; simp
  have HSW := Lib.hid hsW
  clear hW0 hsW
  go_loopw [6, 11] (fun fnd i wr => ∃ k : Nat, k ≤ 2 ∧ i = .int .i64 k ∧ fnd = .bool (bestF d a k).isSome ∧ Keep [w.heap.size + 2] W0 wr ∧ wr.heap[w.heap.size + 2]? = some (.cells (bestV (bestF d a k)) 61 (0, 0))) (fun _ i _ => 2 - (intOf i).toNat)
  case atStart => exact ⟨0, by omega, rfl, rfl, Keep.refl _ _, rB⟩
  case round =>
    obtain ⟨k, hk2, rfl, rfl, hk, rBr⟩ := hrel
    have hDr : DiskAt wr a.p d F1 := (hD1.keep0 hK0).keep hk (fun x hx hm => by have := (hF1 x hx).2; rw [List.mem_singleton.1 hm] at this; omega)
    have hGr : Glob wr := hG0.keep hk (by simp; have := hG.lt; omega)
    have cA0 : wr.cell? ⟨w.heap.size, 0, none⟩ = some (.pointer (some ⟨a.p, 0, none⟩)) := (cell_row' (j := 0) (hk.get rA (by simp))).trans rfl
    have cA1 : wr.cell? ⟨w.heap.size, 1, none⟩ = some (.int .i64 a.first) := (cell_row' (j := 1) (hk.get rA (by simp))).trans rfl
    have cA2 : wr.cell? ⟨w.heap.size, 2, none⟩ = some (.int .i64 a.places) := (cell_row' (j := 2) (hk.get rA (by simp))).trans rfl
    obtain ⟨o, ho⟩ : ∃ o, bestF d a k = o := ⟨_, rfl⟩
    obtain ⟨x, hx⟩ : ∃ x, headF d a k = x := ⟨_, rfl⟩
    have HO := Lib.hid ho
    have HX := Lib.hid hx
    rw [ho] at rBr ⊢
    clear ho hx
    by_cases hlt : k < 2
    · have hlt' : (k : Int) < 2 := by omega
      cases x with
      | none =>
        have HB : Hid (bestF d a (k + 1) = o) := Lib.hid (by show stepB (bestF d a k) (headF d a k) = o; rw [HO.out, HX.out]; rfl)
        go_wp2_with (first
          | (go_at_call 54; refine (head_any hGr hDr hd ha hf k hlt).mono ?_; rw [HX.out]; rintro e w2 ⟨rfl, hk2⟩; simp only [headV]))
        have hke := (hk.then hk2).alloc (.cells #[.int .i64 0, .int .i64 0, .int .i64 0, .int .i64 0] 61)
        exact ⟨⟨k + 1, by omega, by go_num, by rw [HB.out], hke, by rw [HB.out]; exact ((Keep.refl [] w2).alloc _).get (hk2.get rBr (by simp)) (by simp)⟩, by simp [intOf]; omega⟩
      | some h1 =>
        cases o with
        | none =>
          have HB : Hid (bestF d a (k + 1) = some h1) := Lib.hid (by show stepB (bestF d a k) (headF d a k) = some h1; rw [HO.out, HX.out]; rfl)
          have hne : w.heap.size + 2 < wr.heap.size := lt_of_heap rBr
          go_wp2_with (first
            | (go_at_call 54; refine (head_any hGr hDr hd ha hf k hlt).mono ?_; rw [HX.out]; rintro e w2 ⟨rfl, hk2⟩; simp only [headV, HV.cells]
               have hkr2 := hk.then hk2
               have hs2 := hk2.size)
            | (refine wpList_load_part rfl 61 (.tmp 8) rfl w2.heap.size 0 4 rfl 61 _ (0, 0) _ (heap_alloc_new w2 _) Tryd.underlying61 rfl (by kernel_rfl) (by simp) ?_)
            | (refine wpList_store_part rfl rfl 61 (.tmp 5) (.tmp 37) rfl (w.heap.size + 2) 0 rfl #[.int .i64 h1.generation, .int .i64 h1.first, .int .i64 h1.place, .int .i64 h1.base] rfl 61 _ (((Keep.refl [] w2).alloc _).get (hk2.get rBr (by simp)) (by simp)) (by kernel_rfl) (by simp [bestV_size]) (by simp [Value.oneCell']) ?_; intro w4 hk4 hh4))
          rw [over_full _ _ (by simp [bestV_size])] at hh4
          exact ⟨⟨k + 1, by omega, by go_num, by rw [HB.out]; rfl, (hkr2.alloc _).trans hk4 (fun x hx => Or.inl hx), by rw [HB.out]; exact hh4⟩, by simp [intOf]; omega⟩
        | some b1 =>
          have hne : w.heap.size + 2 < wr.heap.size := lt_of_heap rBr
          by_cases hgt : b1.generation < h1.generation
          · have HB : Hid (bestF d a (k + 1) = some h1) := Lib.hid (by show stepB (bestF d a k) (headF d a k) = some h1; rw [HO.out, HX.out]; unfold stepB; simp only; rw [if_pos hgt])
            have hgt' : (b1.generation : Int) < h1.generation := by omega
            go_wp2_with (first
              | (go_at_call 54; refine (head_any hGr hDr hd ha hf k hlt).mono ?_; rw [HX.out]; rintro e w2 ⟨rfl, hk2⟩; simp only [headV, HV.cells]
                 have hkr2 := hk.then hk2
                 have hs2 := hk2.size
                 have cB : ∀ A : Obj, (w2.alloc A).cell? ⟨w.heap.size + 2, 0, none⟩ = some (.int .i64 b1.generation) := fun A => (cell_row' (j := 0) (((Keep.refl [] w2).alloc _).get (hk2.get rBr (by simp)) (by simp))).trans rfl)
              | (refine wpList_load_part rfl 61 (.tmp 8) rfl w2.heap.size 0 4 rfl 61 _ (0, 0) _ (heap_alloc_new w2 _) Tryd.underlying61 rfl (by kernel_rfl) (by simp) ?_)
              | (refine wpList_store_part rfl rfl 61 (.tmp 5) (.tmp 37) rfl (w.heap.size + 2) 0 rfl #[.int .i64 h1.generation, .int .i64 h1.first, .int .i64 h1.place, .int .i64 h1.base] rfl 61 _ (((Keep.refl [] w2).alloc _).get (hk2.get rBr (by simp)) (by simp)) (by kernel_rfl) (by simp [bestV_size]) (by simp [Value.oneCell']) ?_; intro w4 hk4 hh4))
            rw [over_full _ _ (by simp [bestV_size])] at hh4
            exact ⟨⟨k + 1, by omega, by go_num, by rw [HB.out]; rfl, (hkr2.alloc _).trans hk4 (fun x hx => Or.inl hx), by rw [HB.out]; exact hh4⟩, by simp [intOf]; omega⟩
          · have HB : Hid (bestF d a (k + 1) = some b1) := Lib.hid (by show stepB (bestF d a k) (headF d a k) = some b1; rw [HO.out, HX.out]; unfold stepB; simp only; rw [if_neg hgt])
            have hgt' : ¬ (b1.generation : Int) < h1.generation := by omega
            go_wp2_with (first
              | (go_at_call 54; refine (head_any hGr hDr hd ha hf k hlt).mono ?_; rw [HX.out]; rintro e w2 ⟨rfl, hk2⟩; simp only [headV, HV.cells]
                 have hkr2 := hk.then hk2
                 have hs2 := hk2.size
                 have cB : ∀ A : Obj, (w2.alloc A).cell? ⟨w.heap.size + 2, 0, none⟩ = some (.int .i64 b1.generation) := fun A => (cell_row' (j := 0) (((Keep.refl [] w2).alloc _).get (hk2.get rBr (by simp)) (by simp))).trans rfl))
            exact ⟨⟨k + 1, by omega, by go_num, by rw [HB.out], hkr2.alloc _, by rw [HB.out]; exact ((Keep.refl [] w2).alloc _).get (hk2.get rBr (by simp)) (by simp)⟩, by simp [intOf]; omega⟩
    · obtain rfl : k = 2 := by omega
      have HH : Hid (headV (currentF d a) = .tuple #[.agg (bestV o), .bool o.isSome, .int .i64 0]) := Lib.hid (by rw [hcur.out, HO.out, headV_best])
      have rRr := hk.get rR (by simp)
      obtain ⟨bo, hbo⟩ : ∃ bo, o.isSome = bo := ⟨_, rfl⟩
      obtain ⟨g, f, p, b, hbv⟩ : ∃ g f p b : Int, bestV o = #[.int .i64 g, .int .i64 f, .int .i64 p, .int .i64 b] := by cases o <;> exact ⟨_, _, _, _, rfl⟩
      rw [hbo, hbv] at HH
      rw [hbv] at rBr
      rw [hbo]
      clear hbo hbv
      go_wp2_with (first
        | (refine wpList_load_part rfl 61 (.tmp 5) rfl (w.heap.size + 2) 0 4 rfl 61 _ (0, 0) _ rBr Tryd.underlying61 rfl (by kernel_rfl) (by simp) ?_)
        | (refine wpList_store_part rfl rfl 61 (.tmp 2) (.tmp 39) rfl (w.heap.size + 1) 0 rfl #[.int .i64 g, .int .i64 f, .int .i64 p, .int .i64 b] rfl 61 _ rRr (by kernel_rfl) (by simp) (by simp [Value.oneCell']) ?_; intro w4 hk4 hh4))
      rw [over_full _ _ (by simp)] at hh4
      exact bodyPost_ret (results_cell_tmps_row rfl _ _ (w.heap.size + 1) _ _ _ _ rfl hh4 Tryd.underlying61 rfl (by kernel_rfl)) rfl ⟨by rw [HH.out]; rfl, (hK0.trans hk (fun x hx => Or.inr (by rw [List.mem_singleton.1 hx]; omega))).trans hk4 (fun x hx => Or.inr (by rw [List.mem_singleton.1 hx]; omega))⟩
end

section
/- ring: Format. -/
open Go.RowKit

theorem area_ok {d : DK} {p : Nat} {first blocks : Int} (he : areaErr d first blocks = 0) (hb : d.blocks ≤ 8192) :
    (areaN p first blocks).ok ∧ (areaN p first blocks).fits d ∧ d.down = false ∧ 2 ≤ (areaN p first blocks).places ∧ ((areaN p first blocks).first : Int) = first ∧ ((areaN p first blocks).places : Int) = blocks - 2 := by
  unfold areaErr at he
  split at he
  · cases he
  · split at he
    · cases he
    · refine ⟨⟨?_, ?_, ?_⟩, ?_, by simpa using ‹¬ d.down = true›, ?_, ?_, ?_⟩ <;> first | omega | (unfold areaN; simp only; omega) | (unfold AR.fits areaN; simp only; omega)
set_option maxHeartbeats 400000 in
theorem areaOf_nil (first blocks : Int) (w : World) :
    Calls Tryd.prog 28 #[.pointer none, .int .i64 first, .int .i64 blocks] w fun e w' => e = .returned (.tuple #[.agg zeroA, .int .i64 1]) ∧ Keep [] w w' := by
  go_enter Tryd.func28, Tryd.ntmps28
  go_wp2
  exact bodyPost_ret (results_cell_tmp_row rfl _ _ w.heap.size _ _ _ _ rfl (heap_alloc_new w _) Tryd.underlying63 rfl (by kernel_rfl)) rfl ⟨rfl, (Keep.refl _ _).alloc _⟩
set_option maxHeartbeats 400000 in
theorem format_nil (first blocks : Int) (w : World) :
    Calls Tryd.prog 16 #[.pointer none, .int .i64 first, .int .i64 blocks] w fun e w' => e = .returned (.int .i64 1) ∧ Keep [] w w' := by
  go_enter Tryd.func16, Tryd.ntmps16
  go_wp2_with (go_at_call 28; refine (areaOf_nil _ _ _).mono ?_; unfold zeroA; rintro e w1 ⟨rfl, hk1⟩)
  go_ret
  exact ⟨rfl, hk1.alloc _⟩


set_option maxRecDepth 100000 in
set_option maxHeartbeats 2000000 in
theorem format_ok {F : List Nat} {w : World} {p : Nat} {d : DK} (hG : Glob w) (h : DiskAt w p d F) (first blocks : Int) (hb0 : 0 ≤ d.blocks) (hb1 : d.blocks ≤ 8192) (hfi : first ≤ 9223372036854775807) (hlen : d.pend.length ≤ 100000000) :
    Calls Tryd.prog 16 #[.pointer (some ⟨p, 0, none⟩), .int .i64 first, .int .i64 blocks] w fun e w' => e = .returned (.int .i64 (formatF d p first blocks).1) ∧ ∃ F', DiskAt w' p (formatF d p first blocks).2 F' ∧ Keep F w w' ∧ ∀ x ∈ F', x ∈ F ∨ w.heap.size ≤ x := by
  by_cases he : areaErr d first blocks = 0
  · obtain ⟨ha, hf, hd, h2, -, -⟩ := area_ok (p := p) he hb1
    have HF : Hid (formatF d p first blocks = (let a := areaN p first blocks; let g := genF d a (gen0 d a) (List.range a.places); if 2147483647 < g then (9, d) else putD d a ⟨g, 0, 0, g⟩)) := Lib.hid (by unfold formatF; rw [if_neg (by simpa using he)])
    have HR : Hid (areaR d p first blocks = .tuple #[.agg (areaN p first blocks).cells, .int .i64 0]) := Lib.hid (by unfold areaR; rw [he]; rfl)
    have hap : (areaN p first blocks).p = p := rfl
    obtain ⟨a, hae⟩ : ∃ a, areaN p first blocks = a := ⟨_, rfl⟩
    simp only [hae] at ha hf h2 HF HR hap
    clear he hae
    subst hap
    unfold AR.cells at HR
    have ha1 := ha.2.1
    have ha2 := ha.2.2
    obtain ⟨F1, hD1, hF1⟩ := h.tight
    go_enter Tryd.func16, Tryd.ntmps16
    cases hc : currentF d a with
    | none =>
      have HC := Lib.hid hc
      have HG0 : Hid (gen0 d a = 0) := Lib.hid (by unfold gen0; rw [hc])
      clear hc
      have hg0 : gen0 d a ≤ 2147483648 := by rw [HG0.out]; omega
      go_wp2_with (first
        | (go_at_call 28; refine (areaOf_any h first blocks hb0 hb1 hfi).mono ?_; rw [HR.out]; rintro e w1 ⟨rfl, hk1⟩
           have hG2 := hG.keep0 (hk1.alloc (.cells #[.pointer (some ⟨a.p, 0, none⟩), .int .i64 a.first, .int .i64 a.places] 63))
           have hD2 := h.keep0 (hk1.alloc (.cells #[.pointer (some ⟨a.p, 0, none⟩), .int .i64 a.first, .int .i64 a.places] 63)))
        | (go_at_call 29; refine (current_any hG2 hD2 hd ha hf).mono ?_; rw [HC.out]; rintro e w2 ⟨rfl, hk2⟩; simp only [headV, HV.cells]
           have rA2 : w2.heap[w1.heap.size]? = some (.cells #[.pointer (some ⟨a.p, 0, none⟩), .int .i64 a.first, .int .i64 a.places] 63 (0, 0)) := hk2.get (heap_alloc_new w1 _) (by simp)
           have cA2 : ∀ A : Obj, (w2.alloc A).cell? ⟨w1.heap.size, 2, none⟩ = some (.int .i64 a.places) := fun A => (cell_row' (j := 2) (((Keep.refl [] w2).alloc A).get rA2 (by simp))).trans rfl))
      obtain ⟨W0, hW0⟩ : ∃ W0, W0 = w2.alloc (.cells #[.int .i64 0, .int .i64 0, .int .i64 0, .int .i64 0] 61) := ⟨_, rfl⟩
      rw [← hW0]
      have hkW2 : Keep [] w2 W0 := by rw [hW0]; exact (Keep.refl _ _).alloc _
      have rA := hkW2.get rA2 (by simp)
      have hK0 : Keep [] w W0 := ((hk1.alloc _).then hk2).then hkW2
      clear hW0
      go_loopw [9, 41] (fun gv i wr => ∃ k : Nat, k ≤ a.places ∧ i = .int .i64 k ∧ gv = .int .i64 (genF d a (gen0 d a) (List.range k)) ∧ Keep [] W0 wr) (fun _ i _ => a.places - (intOf i).toNat)
      case atStart => exact ⟨0, by omega, rfl, by rw [HG0.out]; rfl, Keep.refl _ _⟩
      case round =>
        obtain ⟨k, hkp, rfl, rfl, hk⟩ := hrel
        have hDr : DiskAt wr a.p d F1 := (hD1.keep0 hK0).keep0 hk
        have hGr : Glob wr := (hG.keep0 hK0).keep0 hk
        have hgl := genF_le d a (gen0 d a) hg0 (List.range k)
        have rAr := hk.get rA (by simp)
        have cA0 : wr.cell? ⟨w1.heap.size, 0, none⟩ = some (.pointer (some ⟨a.p, 0, none⟩)) := (cell_row' (j := 0) rAr).trans rfl
        have cA1 : wr.cell? ⟨w1.heap.size, 1, none⟩ = some (.int .i64 a.first) := (cell_row' (j := 1) rAr).trans rfl
        have cA2 : wr.cell? ⟨w1.heap.size, 2, none⟩ = some (.int .i64 a.places) := (cell_row' (j := 2) rAr).trans rfl
        by_cases hlt : k < a.places
        · have hlt' : (k : Int) < a.places := by omega
          have HS := Lib.hid (genF_snoc d a (gen0 d a) (List.range k) k)
          rw [← List.range_succ] at HS
          cases hb : bodyF d a k with
          | none =>
            rw [hb] at HS
            have HB := Lib.hid hb
            clear hb
            generalize hgk : genF d a (gen0 d a) (List.range k) = gk at *
            have HGK := Lib.hid hgk
            clear hgk
            go_wp2_with (first
              | (go_at_call 35; refine (body_ok hGr hDr hd ha hf k (by omega)).mono ?_; rw [HB.out]; rintro e w3 ⟨rfl, hk3⟩; simp only [bodyV, FrameV.val]
                 have hkr3 := hk.then hk3)
              | (refine wpList_store_part rfl rfl 78 (.tmp 13) (.tmp 48) rfl w3.heap.size 0 rfl #[.int .i64 zeroF.kind, .int .i64 zeroF.stream, .int .i64 zeroF.number, .string ⟨zeroF.payload.toArray⟩] rfl 78 _ (heap_alloc_new w3 _) (by kernel_rfl) (by simp) (by simp [Value.oneCell']) ?_; intro w4 hk4 hh4))
            exact ⟨⟨k + 1, by omega, by go_num, by rw [HS.out], hkr3.trans (((Keep.refl [w3.heap.size] w3).alloc _).trans hk4 (by simp)) (fun x hx => Or.inr (by rw [List.mem_singleton.1 hx]; exact hkr3.size))⟩, by simp [intOf]; omega⟩
          | some fn =>
            obtain ⟨⟨fk, fs, fnn, fp⟩, n⟩ := fn
            have hbo := bodyF_ok hb
            rw [hb] at HS
            simp only at hbo HS
            have HB := Lib.hid hb
            clear hb
            generalize hgk : genF d a (gen0 d a) (List.range k) = gk at *
            have HGK := Lib.hid hgk
            clear hgk
            obtain ⟨b1, b2, b3, b4, b5, b6, b7⟩ := hbo
            have b6' : (0 : Int) < n := by omega
            go_wp2_with (first
              | (go_at_call 35; refine (body_ok hGr hDr hd ha hf k (by omega)).mono ?_; rw [HB.out]; rintro e w3 ⟨rfl, hk3⟩; simp only [bodyV, FrameV.val]
                 have hkr3 := hk.then hk3)
              | (refine wpList_store_part rfl rfl 78 (.tmp 13) (.tmp 48) rfl w3.heap.size 0 rfl #[.int .i64 fk, .int .i64 fs, .int .i64 fnn, .string ⟨fp.toArray⟩] rfl 78 _ (heap_alloc_new w3 _) (by kernel_rfl) (by simp) (by simp [Value.oneCell']) ?_; intro w4 hk4 hh4
                 have c4 : w4.cell? ⟨w3.heap.size, 1, none⟩ = some (.int .i64 fs) := by rw [cell_row' (j := 1) hh4]; simp [over]))
            exact ⟨⟨k + 1, by omega, by go_num, by rw [HS.out]; congr 1; omega, hkr3.trans (((Keep.refl [w3.heap.size] w3).alloc _).trans hk4 (by simp)) (fun x hx => Or.inr (by rw [List.mem_singleton.1 hx]; exact hkr3.size))⟩, by simp [intOf]; omega⟩
        · obtain rfl : k = a.places := by omega
          obtain ⟨g, hgk⟩ : ∃ g, genF d a (gen0 d a) (List.range a.places) = g := ⟨_, rfl⟩
          simp only [hgk] at hgl HF ⊢
          clear hgk
          by_cases hbig : 2147483647 < g
          · have HF2 := Lib.hid (HF.out.trans (if_pos hbig))
            have hbig' : (2147483647 : Int) < g := by omega
            go_wp2
            go_ret
            exact ⟨by rw [HF2.out]; rfl, F, by rw [HF2.out]; exact (h.keep0 hK0).keep0 hk, (hK0.then hk).mono (by simp), fun x hx => Or.inl hx⟩
          · have HF2 := Lib.hid (HF.out.trans (if_neg hbig))
            have hbig' : ¬ (2147483647 : Int) < g := by omega
            go_wp2_with (go_at_call 34; refine (writeHead_any (h := ⟨g, 0, 0, g⟩) hGr ((h.keep0 hK0).keep0 hk) hd ha hf ⟨by simp only; omega, by simp, by simp, by simp only; omega⟩ hlen).mono ?_; rintro e w5 ⟨rfl, F5, hD5, hk5, hF5⟩)
            go_ret
            have hkw := hK0.then hk
            exact ⟨by rw [HF2.out]; rfl, F5, by rw [HF2.out]; exact hD5, (hkw.mono (F' := F) (by simp)).trans hk5 (fun x hx => Or.inl hx), fun x hx => (hF5 x hx).imp id (fun h => Nat.le_trans hkw.size h)⟩
    | some h0 =>
      have hcok := (currentF_ok ha hc).1.g
      have HC := Lib.hid hc
      have HG0 : Hid (gen0 d a = h0.generation + 1) := Lib.hid (by unfold gen0; rw [hc])
      clear hc
      have hg0 : gen0 d a ≤ 2147483648 := by rw [HG0.out]; omega
      go_wp2_with (first
        | (go_at_call 28; refine (areaOf_any h first blocks hb0 hb1 hfi).mono ?_; rw [HR.out]; rintro e w1 ⟨rfl, hk1⟩
           have hG2 := hG.keep0 (hk1.alloc (.cells #[.pointer (some ⟨a.p, 0, none⟩), .int .i64 a.first, .int .i64 a.places] 63))
           have hD2 := h.keep0 (hk1.alloc (.cells #[.pointer (some ⟨a.p, 0, none⟩), .int .i64 a.first, .int .i64 a.places] 63)))
        | (go_at_call 29; refine (current_any hG2 hD2 hd ha hf).mono ?_; rw [HC.out]; rintro e w2 ⟨rfl, hk2⟩; simp only [headV, HV.cells]
           have rA2 : w2.heap[w1.heap.size]? = some (.cells #[.pointer (some ⟨a.p, 0, none⟩), .int .i64 a.first, .int .i64 a.places] 63 (0, 0)) := hk2.get (heap_alloc_new w1 _) (by simp)
           have cA2 : ∀ A : Obj, (w2.alloc A).cell? ⟨w1.heap.size, 2, none⟩ = some (.int .i64 a.places) := fun A => (cell_row' (j := 2) (((Keep.refl [] w2).alloc A).get rA2 (by simp))).trans rfl))
      obtain ⟨W0, hW0⟩ : ∃ W0, W0 = w2.alloc (.cells #[.int .i64 h0.generation, .int .i64 h0.first, .int .i64 h0.place, .int .i64 h0.base] 61) := ⟨_, rfl⟩
      rw [← hW0]
      have hkW2 : Keep [] w2 W0 := by rw [hW0]; exact (Keep.refl _ _).alloc _
      have rA := hkW2.get rA2 (by simp)
      have hK0 : Keep [] w W0 := ((hk1.alloc _).then hk2).then hkW2
      clear hW0
      go_loopw [9, 41] (fun gv i wr => ∃ k : Nat, k ≤ a.places ∧ i = .int .i64 k ∧ gv = .int .i64 (genF d a (gen0 d a) (List.range k)) ∧ Keep [] W0 wr) (fun _ i _ => a.places - (intOf i).toNat)
      case atStart => exact ⟨0, by omega, rfl, by rw [HG0.out]; show Value.int .i64 _ = .int .i64 ((h0.generation + 1 : Nat) : Int); go_num, Keep.refl _ _⟩
      case round =>
        obtain ⟨k, hkp, rfl, rfl, hk⟩ := hrel
        have hDr : DiskAt wr a.p d F1 := (hD1.keep0 hK0).keep0 hk
        have hGr : Glob wr := (hG.keep0 hK0).keep0 hk
        have hgl := genF_le d a (gen0 d a) hg0 (List.range k)
        have rAr := hk.get rA (by simp)
        have cA0 : wr.cell? ⟨w1.heap.size, 0, none⟩ = some (.pointer (some ⟨a.p, 0, none⟩)) := (cell_row' (j := 0) rAr).trans rfl
        have cA1 : wr.cell? ⟨w1.heap.size, 1, none⟩ = some (.int .i64 a.first) := (cell_row' (j := 1) rAr).trans rfl
        have cA2 : wr.cell? ⟨w1.heap.size, 2, none⟩ = some (.int .i64 a.places) := (cell_row' (j := 2) rAr).trans rfl
        by_cases hlt : k < a.places
        · have hlt' : (k : Int) < a.places := by omega
          have HS := Lib.hid (genF_snoc d a (gen0 d a) (List.range k) k)
          rw [← List.range_succ] at HS
          cases hb : bodyF d a k with
          | none =>
            rw [hb] at HS
            have HB := Lib.hid hb
            clear hb
            generalize hgk : genF d a (gen0 d a) (List.range k) = gk at *
            have HGK := Lib.hid hgk
            clear hgk
            go_wp2_with (first
              | (go_at_call 35; refine (body_ok hGr hDr hd ha hf k (by omega)).mono ?_; rw [HB.out]; rintro e w3 ⟨rfl, hk3⟩; simp only [bodyV, FrameV.val]
                 have hkr3 := hk.then hk3)
              | (refine wpList_store_part rfl rfl 78 (.tmp 13) (.tmp 48) rfl w3.heap.size 0 rfl #[.int .i64 zeroF.kind, .int .i64 zeroF.stream, .int .i64 zeroF.number, .string ⟨zeroF.payload.toArray⟩] rfl 78 _ (heap_alloc_new w3 _) (by kernel_rfl) (by simp) (by simp [Value.oneCell']) ?_; intro w4 hk4 hh4))
            exact ⟨⟨k + 1, by omega, by go_num, by rw [HS.out], hkr3.trans (((Keep.refl [w3.heap.size] w3).alloc _).trans hk4 (by simp)) (fun x hx => Or.inr (by rw [List.mem_singleton.1 hx]; exact hkr3.size))⟩, by simp [intOf]; omega⟩
          | some fn =>
            obtain ⟨⟨fk, fs, fnn, fp⟩, n⟩ := fn
            have hbo := bodyF_ok hb
            rw [hb] at HS
            simp only at hbo HS
            have HB := Lib.hid hb
            clear hb
            generalize hgk : genF d a (gen0 d a) (List.range k) = gk at *
            have HGK := Lib.hid hgk
            clear hgk
            obtain ⟨b1, b2, b3, b4, b5, b6, b7⟩ := hbo
            have b6' : (0 : Int) < n := by omega
            go_wp2_with (first
              | (go_at_call 35; refine (body_ok hGr hDr hd ha hf k (by omega)).mono ?_; rw [HB.out]; rintro e w3 ⟨rfl, hk3⟩; simp only [bodyV, FrameV.val]
                 have hkr3 := hk.then hk3)
              | (refine wpList_store_part rfl rfl 78 (.tmp 13) (.tmp 48) rfl w3.heap.size 0 rfl #[.int .i64 fk, .int .i64 fs, .int .i64 fnn, .string ⟨fp.toArray⟩] rfl 78 _ (heap_alloc_new w3 _) (by kernel_rfl) (by simp) (by simp [Value.oneCell']) ?_; intro w4 hk4 hh4
                 have c4 : w4.cell? ⟨w3.heap.size, 1, none⟩ = some (.int .i64 fs) := by rw [cell_row' (j := 1) hh4]; simp [over]))
            exact ⟨⟨k + 1, by omega, by go_num, by rw [HS.out]; congr 1; omega, hkr3.trans (((Keep.refl [w3.heap.size] w3).alloc _).trans hk4 (by simp)) (fun x hx => Or.inr (by rw [List.mem_singleton.1 hx]; exact hkr3.size))⟩, by simp [intOf]; omega⟩
        · obtain rfl : k = a.places := by omega
          obtain ⟨g, hgk⟩ : ∃ g, genF d a (gen0 d a) (List.range a.places) = g := ⟨_, rfl⟩
          simp only [hgk] at hgl HF ⊢
          clear hgk
          by_cases hbig : 2147483647 < g
          · have HF2 := Lib.hid (HF.out.trans (if_pos hbig))
            have hbig' : (2147483647 : Int) < g := by omega
            go_wp2
            go_ret
            exact ⟨by rw [HF2.out]; rfl, F, by rw [HF2.out]; exact (h.keep0 hK0).keep0 hk, (hK0.then hk).mono (by simp), fun x hx => Or.inl hx⟩
          · have HF2 := Lib.hid (HF.out.trans (if_neg hbig))
            have hbig' : ¬ (2147483647 : Int) < g := by omega
            go_wp2_with (go_at_call 34; refine (writeHead_any (h := ⟨g, 0, 0, g⟩) hGr ((h.keep0 hK0).keep0 hk) hd ha hf ⟨by simp only; omega, by simp, by simp, by simp only; omega⟩ hlen).mono ?_; rintro e w5 ⟨rfl, F5, hD5, hk5, hF5⟩)
            go_ret
            have hkw := hK0.then hk
            exact ⟨by rw [HF2.out]; rfl, F5, by rw [HF2.out]; exact hD5, (hkw.mono (F' := F) (by simp)).trans hk5 (fun x hx => Or.inl hx), fun x hx => (hF5 x hx).imp id (fun h => Nat.le_trans hkw.size h)⟩
  · obtain ⟨er, her⟩ : ∃ er, areaErr d first blocks = er := ⟨_, rfl⟩
    rw [her] at he
    have HF : Hid (formatF d p first blocks = (er, d)) := Lib.hid (by unfold formatF; rw [her, if_pos he])
    have HR : Hid (areaR d p first blocks = .tuple #[.agg zeroA, .int .i64 er]) := Lib.hid (by unfold areaR; rw [her, if_neg he])
    unfold zeroA at HR
    have heb : (er == 0) = false := by simpa using he
    have heb' : (er != 0) = true := by simpa using he
    clear he her
    go_enter Tryd.func16, Tryd.ntmps16
    go_wp2_with (go_at_call 28; refine (areaOf_any h first blocks hb0 hb1 hfi).mono ?_; rw [HR.out]; rintro e w1 ⟨rfl, hk1⟩)
    go_ret
    exact ⟨by rw [HF.out]; rfl, F, by rw [HF.out]; exact h.keep0 (hk1.alloc _), (hk1.alloc _).mono (by simp), fun x hx => Or.inl hx⟩
end

section
/- ring: find: entries in memory; append of one entry. -/
open Go.RowKit

def entryCells (l : List (Nat × List UInt8)) : List Value := (l.map fun x => [Value.int .i64 x.1, .string ⟨x.2.toArray⟩]).flatten
theorem info_entry : (Tryd.prog.info? 43).map (fun i => (i.zero, i.size, i.bytes)) = some (some (.agg #[.int .i64 0, .string ⟨#[]⟩]), 2, 24) := by kernel_rfl
theorem entryCells_snoc (l : List (Nat × List UInt8)) (x : Nat × List UInt8) : entryCells (l ++ [x]) = entryCells l ++ [.int .i64 x.1, .string ⟨x.2.toArray⟩] := by simp [entryCells]
theorem entryCells_length (l : List (Nat × List UInt8)) : (entryCells l).length = l.length * 2 := by
  unfold entryCells
  induction l with
  | nil => rfl
  | cons x l ih => simp only [List.map_cons, List.flatten_cons, List.length_append, ih, List.length_cons, List.length_nil]; omega
theorem entryCells_get (l : List (Nat × List UInt8)) (i : Nat) (hi : i < l.length) : (entryCells l)[2 * i]? = some (.int .i64 (l[i].1 : Nat)) ∧ (entryCells l)[2 * i + 1]? = some (.string ⟨l[i].2.toArray⟩) := by
  induction l generalizing i with
  | nil => simp at hi
  | cons x l ih =>
    cases i with
    | zero => simp [entryCells]
    | succ i =>
      have := ih i (by simpa using hi)
      have e1 : 2 * (i + 1) = (2 * i) + 1 + 1 := by omega
      rw [e1]
      simpa [entryCells] using this
/-- the entries that find has collected -/
def EntsAt (w : World) (B : Nat) (v : Value) (l : List (Nat × List UInt8)) : Prop := w.ownsRow B 43 2 v l.length (entryCells l)
theorem EntsAt.nil (w : World) (B : Nat) : EntsAt w B (.slice none 0 0) [] := World.ownsRow_nil _ _ _ _
theorem EntsAt.isSlice {w : World} {B : Nat} {v : Value} {l : List (Nat × List UInt8)} (h : EntsAt w B v l) : ∃ a n c, v = .slice a n c := by
  rcases h.2 with ⟨rfl, _⟩ | ⟨g, cap, cur, rfl, _⟩
  · exact ⟨_, _, _, rfl⟩
  · exact ⟨_, _, _, rfl⟩

theorem wpList_append_entry {w : World} {ops : Array Oper} {rest : List Oper} {o : Oper} {a : Act} {Q : Exit → Act → World → Prop} (hgd : o.guard = none) (s xo : Operand)
    (ho : o.op = .call { callee := .builtin .append, args := #[s, xo], argTypes := #[39, 39] })
    (v : Value) (l : List (Nat × List UInt8)) (B : Nat) (hs : a.eval s = v) (hp : EntsAt w B v l) (hB : B ≤ w.heap.size) (x : Nat × List UInt8) (g : Nat) (fr : Nat × Nat) (hrow : w.heap[g]? = some (.cells #[.int .i64 x.1, .string ⟨x.2.toArray⟩] 43 fr))
    (hx : a.eval xo = .slice (some ⟨g, 0, none⟩) 1 1) (hlen : l.length ≤ 100000000)
    (h : ∀ v' w', EntsAt w' B v' (l ++ [x]) → w.grownBy w' v.ownBlock → (v'.ownBlock = v.ownBlock ∨ ∃ k, v'.ownBlock = some k ∧ w.heap.size ≤ k) → wpList Tryd.prog ops Q rest (a.put o.dst v') w') :
    wpList Tryd.prog ops Q (o :: rest) a w := by
  have hi0 := info_entry
  cases hi : Tryd.prog.info? 43 with
  | none => rw [hi] at hi0; cases hi0
  | some i =>
    rw [hi] at hi0
    simp only [Option.map_some, Option.some.injEq, Prod.mk.injEq] at hi0
    obtain ⟨hz, hsize, hby⟩ := hi0
    have hsrc : Src Tryd.prog 2 39 (.slice (some ⟨g, 0, none⟩) 1 1) 1 [.int .i64 x.1, .string ⟨x.2.toArray⟩] w :=
      Src.ofSlice _ Tryd.underlying39 _ _ _ _ rfl (fun j u hu => by
        have hadd : (⟨g, 0, none⟩ : Addr).add j = ⟨g, j, none⟩ := by unfold Addr.add; split <;> simp_all
        rw [hadd, cell_row' hrow]
        simpa using hu) (fun u hu => by
        simp at hu
        rcases hu with rfl | rfl <;> rfl)
    refine wpList_append_own2 w hgd s xo _ _ ho B 43 i (.agg #[.int .i64 0, .string ⟨#[]⟩]) 2 24 Tryd.underlying39 hi hz hsize hby rfl v l.length (entryCells l) hs hp _ hx 1 _ hsrc (by unfold maxLen; omega) (by omega) hB ?_
    intro v' w' h2 h3 h4
    refine h v' w' ?_ h3 (h4.imp (fun h => h.1) (fun ⟨k, a, b, _⟩ => ⟨k, a, b⟩))
    unfold EntsAt
    rw [entryCells_snoc, List.length_append]
    exact h2
theorem EntsAt.keep {w w' : World} {B : Nat} {F : List Nat} {v : Value} {l : List (Nat × List UInt8)} (h : EntsAt w B v l) (hk : Keep F w w') (hF : ∀ k ∈ F, v.ownBlock ≠ some k) : EntsAt w' B v l := OwnLike.keep h hk hF
/-- rows of different types are different blocks -/
theorem own_ne {w : World} {b b' e e' k k' n n' : Nat} {v v' : Value} {xs xs' : List Value} (h : w.ownsRow b e k v n xs) (h' : w.ownsRow b' e' k' v' n' xs') (he : e ≠ e') : ∀ g, v.ownBlock = some g → v'.ownBlock ≠ some g := fun g hg hg' => by
  rcases h.2 with ⟨rfl, _⟩ | ⟨g1, cap, cur, rfl, _, hg1, _⟩
  · cases hg
  · rcases h'.2 with ⟨rfl, _⟩ | ⟨g2, cap2, cur2, rfl, _, hg2, _⟩
    · cases hg'
    · simp [Value.ownBlock] at hg hg'
      subst hg; subst hg'
      rw [hg1] at hg2
      injection hg2 with h1
      injection h1 with _ h2
      exact he h2
theorem own_row_ne {w : World} {b e k n p t : Nat} {v : Value} {xs : List Value} {cs : Array Value} {fr : Nat × Nat} (h : w.ownsRow b e k v n xs) (hp : w.heap[p]? = some (.cells cs t fr)) (he : e ≠ t) : v.ownBlock ≠ some p := fun hg => by
  rcases h.2 with ⟨rfl, _⟩ | ⟨g1, cap, cur, rfl, _, hg1, _⟩
  · cases hg
  · simp [Value.ownBlock] at hg
    subst hg
    rw [hp] at hg1
    injection hg1 with h1
    injection h1 with _ h2
    exact he h2.symm
end
end Go.Proofs.YtgopdbpddemplaaDoor
