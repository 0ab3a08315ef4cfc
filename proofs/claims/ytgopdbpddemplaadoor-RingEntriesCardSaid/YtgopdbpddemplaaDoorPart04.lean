/- Hash.Sum. -/
import Derived.Test.YtgopdbpddemplaaDoorPart02
import Derived.Test.YtgopdbpddemplaaDoorPart03
import Derived.Deep.DeepCutAuto
import Derived.Deep.CutBlock
set_option linter.unusedSimpArgs false
set_option linter.unusedVariables false
namespace Go.Proofs.YtgopdbpddemplaaDoor
section
/- Hash.Sum. -/
open Go.RowKit
attribute [local go_sem ↓] exec_load_u32x8 exec_store_u32x8 exec_alloc_u32x8 exec_load_u8x64 exec_store_u8x64 exec_alloc_u8x64 exec_alloc_dig
attribute [local go_sem] zerosOf_size

theorem S8at_extract {cs : Array Value} {s : S8} (h : S8at cs 0 s) (hs : cs.size = 8) :
    cs.extract 0 (0 + 8) = #[.int .u32 s.a, .int .u32 s.b, .int .u32 s.c, .int .u32 s.d, .int .u32 s.e, .int .u32 s.f, .int .u32 s.g, .int .u32 s.h] := by
  have e : cs.extract 0 (0 + 8) = cs := by
    rw [Nat.zero_add, ← hs]; exact Array.extract_size
  rw [e]
  apply Array.ext_getElem?
  intro j
  by_cases hj : j < 8
  · have h8 : j = 0 ∨ j = 1 ∨ j = 2 ∨ j = 3 ∨ j = 4 ∨ j = 5 ∨ j = 6 ∨ j = 7 := by omega
    have := h j hj
    rw [Nat.zero_add] at this
    rw [this]
    rcases h8 with rfl | rfl | rfl | rfl | rfl | rfl | rfl | rfl <;> rfl
  · rw [Array.getElem?_eq_none (by omega), Array.getElem?_eq_none (by show 8 ≤ j; omega)]

theorem three_new (w : World) (Z : Obj) (cA cB VA VB : Array Value) (tA tB : TypeId) :
    ((((((w.alloc Z).alloc (.cells cA tA)).alloc (.cells cB tB)).drew.setRow (w.heap.size + 1) VA).setRow (w.heap.size + 1 + 1) VB).heap[w.heap.size]? = some Z ∧
     (((((w.alloc Z).alloc (.cells cA tA)).alloc (.cells cB tB)).drew.setRow (w.heap.size + 1) VA).setRow (w.heap.size + 1 + 1) VB).heap[w.heap.size + 1]? = some (.cells VA tA (0, 0)) ∧
     (((((w.alloc Z).alloc (.cells cA tA)).alloc (.cells cB tB)).drew.setRow (w.heap.size + 1) VA).setRow (w.heap.size + 1 + 1) VB).heap[w.heap.size + 1 + 1]? = some (.cells VB tB (0, 0))) ∧
    ((((((w.alloc Z).alloc (.cells cA tA)).alloc (.cells cB tB)).drew.setRow (w.heap.size + 1 + 1) VB).setRow (w.heap.size + 1) VA).heap[w.heap.size]? = some Z ∧
     (((((w.alloc Z).alloc (.cells cA tA)).alloc (.cells cB tB)).drew.setRow (w.heap.size + 1 + 1) VB).setRow (w.heap.size + 1) VA).heap[w.heap.size + 1]? = some (.cells VA tA (0, 0)) ∧
     (((((w.alloc Z).alloc (.cells cA tA)).alloc (.cells cB tB)).drew.setRow (w.heap.size + 1 + 1) VB).setRow (w.heap.size + 1) VA).heap[w.heap.size + 1 + 1]? = some (.cells VB tB (0, 0))) := by
  have n0 : (((w.alloc Z).alloc (.cells cA tA)).alloc (.cells cB tB)).drew.heap[w.heap.size]? = some Z :=
    (heap_alloc_past (by simp; omega)).trans ((heap_alloc_past (by simp)).trans (heap_alloc_at rfl))
  have n1 : (((w.alloc Z).alloc (.cells cA tA)).alloc (.cells cB tB)).drew.heap[w.heap.size + 1]? = some (.cells cA tA (0, 0)) :=
    (heap_alloc_past (by simp)).trans (heap_alloc_at (by simp))
  have n2 : (((w.alloc Z).alloc (.cells cA tA)).alloc (.cells cB tB)).drew.heap[w.heap.size + 1 + 1]? = some (.cells cB tB (0, 0)) :=
    heap_alloc_at (by simp)
  refine ⟨⟨?_, ?_, ?_⟩, ⟨?_, ?_, ?_⟩⟩
  · rw [setRow_other _ _ _ _ (by omega), setRow_other _ _ _ _ (by omega)]; exact n0
  · rw [setRow_other _ _ _ _ (by omega)]; exact setRow_heap _ _ _ _ _ _ n1
  · exact setRow_heap _ _ _ _ _ _ ((setRow_other _ _ _ _ (by omega)).trans n2)
  · rw [setRow_other _ _ _ _ (by omega), setRow_other _ _ _ _ (by omega)]; exact n0
  · exact setRow_heap _ _ _ _ _ _ ((setRow_other _ _ _ _ (by omega)).trans n1)
  · rw [setRow_other _ _ _ _ (by omega)]; exact setRow_heap _ _ _ _ _ _ n2

set_option maxRecDepth 100000 in
set_option maxHeartbeats 1000000 in
theorem hsum_any (hb : Nat) (hT : TypeId) (cs : Array Value) (l : List UInt8) (w : World) (hK : KGlob w) (hI : IGlob w)
    (hbK : hb ≠ 2) (hbI : hb ≠ 1)
    (hh : w.heap[hb]? = some (.cells cs hT (0, 0))) (hsz : cs.size = 73) (hone : OneC cs) (h0 : cs[0]? = some (.int .i64 l.length)) (hlen : l.length ≤ 1099511627776)
    (hst : 0 < l.length → S8at cs 1 (absorb l (l.length / 64))) (hre : ∀ i, i < l.length % 64 → cs[9 + i]? = some (B8 (l.getD (64 * (l.length / 64) + i) 0))) :
    Calls Tryd.prog 87 #[.pointer (some ⟨hb, 0, none⟩)] w fun e w' => e = .returned (.agg (cellsOf (sha l))) ∧ Keep [] w w' := by
    have c0 : w.cell? ⟨hb, 0, none⟩ = some (.int .i64 l.length) := (cell_of_row w hb 0 cs _ _ hh).trans h0
    have hbl := lt_of_heap hh
    have r1 : ∀ A, objAt ((w.alloc A)) hb = some (.cells cs hT (0, 0)) := fun A => (objAt_alloc_past _ hbl).trans hh
    have r2 : ∀ A B, objAt (((w.alloc A).alloc B)) hb = some (.cells cs hT (0, 0)) := fun A B => (objAt_alloc_past _ (by simp; omega)).trans (r1 A)
    have r3 : ∀ A B C, objAt ((((w.alloc A).alloc B).alloc C)) hb = some (.cells cs hT (0, 0)) := fun A B C => (objAt_alloc_past _ (by simp; omega)).trans (r2 A B)
    have q1 : ∀ A, (w.alloc A).cell? ⟨hb, 0, none⟩ = some (.int .i64 l.length) := fun A => (cell_of_row _ hb 0 cs _ _ (r1 A)).trans h0
    have q2 : ∀ A B, ((w.alloc A).alloc B).cell? ⟨hb, 0, none⟩ = some (.int .i64 l.length) := fun A B => (cell_of_row _ hb 0 cs _ _ (r2 A B)).trans h0
    have q3 : ∀ A B C, (((w.alloc A).alloc B).alloc C).cell? ⟨hb, 0, none⟩ = some (.int .i64 l.length) := fun A B C => (cell_of_row _ hb 0 cs _ _ (r3 A B C)).trans h0
    have hbn : hb ≠ w.heap.size := by omega
    have hbn1 : hb ≠ w.heap.size + 1 := by omega
    have hbn2 : hb ≠ w.heap.size + 2 := by omega
    have hcz := hsz
    have z18 : (cs.extract 1 9).size = 8 := by simp; omega
    have z973 : (cs.extract 9 73).size = 64 := by simp; omega
    have n3 : ∀ A B C, objAt (((w.alloc A).alloc B).alloc C) (w.heap.size + 1 + 1) = some C := fun A B C => objAt_alloc_at _ (by simp)
    have n2 : ∀ A B C, objAt (((w.alloc A).alloc B).alloc C) (w.heap.size + 1) = some B := fun A B C => (objAt_alloc_past _ (by simp)).trans (objAt_alloc_at _ (by simp))
    have o18 : oneCells (cs.extract 1 9) = true := (hone.extract 1 9).cells
    have o973 : oneCells (cs.extract 9 73) = true := (hone.extract 9 73).cells
    have hs1 : 1 + 8 ≤ cs.size := by omega
    have hs2 : 9 + 64 ≤ cs.size := by omega
    have HK := Lib.hid hK
    have HI := Lib.hid hI
    have HZ := Lib.hid hsz
    have HH0 := Lib.hid h0
    have HST := Lib.hid hst
    have HRE := Lib.hid hre
    clear hK hI hsz hst hre c0
    go_enter Tryd.func87, Tryd.ntmps87
    have hfr : 2 < w.heap.size := HK.out.lt
    have F3 : Hid ((over (zerosOf .u32 8) 0 (List.take 8 cs.toList.tail)).size = 8 ∧ (0 < l.length → S8at (over (zerosOf .u32 8) 0 (List.take 8 cs.toList.tail)) 0 (absorb l (l.length / 64)))) := by
      have hl : (List.take 8 cs.toList.tail).length = 8 := by simp; omega
      have ho : 0 + (List.take 8 cs.toList.tail).length ≤ (zerosOf .u32 8).size := by rw [hl]; simp
      refine ⟨by rw [over_size ho]; simp, fun hp j hj => ?_⟩
      rw [over_get ho, if_pos (by rw [hl]; omega), show 0 + j - 0 = j by omega, List.getElem?_take_of_lt hj, List.getElem?_tail, Array.getElem?_toList, Nat.add_comm]
      exact HST.out hp j hj
    have F4 : Hid ((over (zerosOf .u8 64) 0 (List.take 64 (List.drop 9 cs.toList))).size = 64 ∧ ∀ i, i < l.length % 64 → (over (zerosOf .u8 64) 0 (List.take 64 (List.drop 9 cs.toList)))[i]? = some (B8 (l.getD (64 * (l.length / 64) + i) 0))) := by
      have hl : (List.take 64 (List.drop 9 cs.toList)).length = 64 := by simp; omega
      have ho : 0 + (List.take 64 (List.drop 9 cs.toList)).length ≤ (zerosOf .u8 64).size := by rw [hl]; simp
      refine ⟨by rw [over_size ho]; simp, fun i hi => ?_⟩
      rw [over_get ho, if_pos (by rw [hl]; omega), show i - 0 = i by omega, List.getElem?_take_of_lt (by omega), List.getElem?_drop, Array.getElem?_toList]
      exact HRE.out i hi
    go_upto_region 3 with fail
    go_cut [3, 4, 5] (fun s3 s4 s5 wc => ∃ b3 b4 : Nat, ∃ c3 c4 : Array Value, s3 = .pointer (some ⟨b3, 0, none⟩) ∧ s4 = .pointer (some ⟨b4, 0, none⟩) ∧ s5 = .int .i64 ((l.length : Int) % 64) ∧ b3 ≠ b4 ∧ w.heap.size < b3 ∧ w.heap.size < b4 ∧
      wc.heap[w.heap.size]? = some (.cells (zerosOf .u8 32) 125 (0, 0)) ∧ wc.heap[b3]? = some (.cells c3 142 (0, 0)) ∧ wc.heap[b4]? = some (.cells c4 143 (0, 0)) ∧ c3.size = 8 ∧ c4.size = 64 ∧
      (0 < l.length → S8at c3 0 (absorb l (l.length / 64))) ∧ (∀ i, i < l.length % 64 → c4[i]? = some (B8 (l.getD (64 * (l.length / 64) + i) 0))) ∧ Keep [] w wc)
    case first =>
      go_region
      all_goals (go_wp2_with fail; go_meet)
      · refine ⟨w.heap.size + 1, w.heap.size + 1 + 1, _, _, rfl, rfl, rfl, by omega, by omega, by omega, ?_, ?_, ?_, F3.out.1, F4.out.1, F3.out.2, F4.out.2, ?_⟩
        · exact (three_new w _ _ _ _ _ _ _).1.1
        · exact (three_new w _ _ _ _ _ _ _).1.2.1
        · exact (three_new w _ _ _ _ _ _ _).1.2.2
        · exact ((((((Keep.refl _ _).alloc _).alloc _).alloc _).drew).setRow (Or.inr (by omega)) _).setRow (Or.inr (by omega)) _
      · refine ⟨w.heap.size + 1 + 1, w.heap.size + 1, _, _, rfl, rfl, rfl, by omega, by omega, by omega, ?_, ?_, ?_, F3.out.1, F4.out.1, F3.out.2, F4.out.2, ?_⟩
        · exact (three_new w _ _ _ _ _ _ _).2.1
        · exact (three_new w _ _ _ _ _ _ _).2.2.2
        · exact (three_new w _ _ _ _ _ _ _).2.2.1
        · exact ((((((Keep.refl _ _).alloc _).alloc _).alloc _).drew).setRow (Or.inr (by omega)) _).setRow (Or.inr (by omega)) _
    case rest =>
      obtain ⟨b3, b4, c3, c4, rfl, rfl, rfl, hne, hb3, hb4, hz, h3, h4, hs3, hs4, hst3, hre4, hkp⟩ := hcut
      have hc0 : wc.cell? ⟨hb, 0, none⟩ = some (.int .i64 l.length) := (cell_of_row wc hb 0 cs _ _ (hkp.get hh (by simp))).trans h0
      obtain ⟨ic, it, ifr, hi1, hi2, hi3⟩ := (HI.out.keep hkp (by simp)).row
      have HI1 := Lib.hid hi1
      have HI3 := Lib.hid hi3
      have H3 := Lib.hid h3
      have H4 := Lib.hid h4
      have HZ0 := Lib.hid hz
      have HS3 := Lib.hid hs3
      have HS4 := Lib.hid hs4
      have HT3 := Lib.hid hst3
      have HR4 := Lib.hid hre4
      have HCZ := Lib.hid hcz
      have HHH := Lib.hid hh
      have HH0 := Lib.hid h0
      clear hi1 hi3 h3 h4 hz hs3 hs4 hst3 hre4 hcz z18 z973 n2 n3 o18 o973 r1 r2 r3 q1 q2 q3 hh h0 F3 F4
      obtain ⟨wa, rfl⟩ : ∃ wa : World, wa = wc := ⟨_, rfl⟩
      go_upto_if 31 with fail
      go_cut [] (fun wc => ∃ c3' : Array Value, wc.heap[w.heap.size]? = some (.cells (zerosOf .u8 32) 125 (0, 0)) ∧ wc.heap[b3]? = some (.cells c3' 142 (0, 0)) ∧ wc.heap[b4]? = some (.cells c4 143 (0, 0)) ∧ c3'.size = 8 ∧ S8at c3' 0 (absorb l (l.length / 64)) ∧ Keep [] w wc)
      case first =>
        by_cases hp : 0 < l.length
        · have hne0 : ((l.length : Int) == 0) = false := beq_eq_false_iff_ne.2 (by omega)
          go_wp2
          go_meet
          exact ⟨c3, HZ0.out, H3.out, H4.out, HS3.out, HT3.out hp, hkp⟩
        · have he0 : ((l.length : Int) == 0) = true := beq_iff_eq.2 (by omega)
          go_wp2_with (first
            | (refine wpList_load_part rfl 142 (.global 1) rfl 1 0 8 rfl it ic ifr _ HI1.out Tryd.underlying142 rfl (by kernel_rfl) hi2 ?_; rw [HI3.out])
            | (refine wpList_store_part rfl rfl 142 (.tmp 3) (.tmp 32) rfl b3 0 rfl s0Cells rfl 142 c3 H3.out (by kernel_rfl) (by rw [HS3.out]; decide) (by decide) ?_; intro w1 hk1 hh1))
          go_meet
          have ho : 0 + s0Cells.toList.length ≤ c3.size := by rw [HS3.out]; decide
          refine ⟨over c3 0 s0Cells.toList, hk1.get HZ0.out (by simp; omega), hh1, hk1.get H4.out (by simpa using Ne.symm hne), by rw [over_size ho]; exact HS3.out, ?_, hkp.trans hk1 (by simp; omega)⟩
          have hq : l.length / 64 = 0 := by omega
          rw [hq]
          intro j hj
          rw [over_get ho, if_pos (by constructor; omega; show 0 + j < 0 + 8; omega), show 0 + j - 0 = j by omega, Array.getElem?_toList]
          exact s0Cells_get j hj
      case rest =>
        clear HT3 H3 H4 HZ0 HS3 hkp hc0 HI1 HI3 hi2 HI
        obtain ⟨c3', hz, h3, h4, hs3, hst3, hkp⟩ := hcut
        have ha0 : (0 : Int) ≤ (l.length : Int) % 64 := by omega
        have ha1 : (l.length : Int) % 64 < 64 := by omega
        have hat : ((l.length : Int) % 64) = ((l.length % 64 : Nat) : Int) := by omega
        rw [hat]
        generalize hA : l.length % 64 = at_
        have hA64 : at_ < 64 := by omega
        have H3 := Lib.hid h3
        have HZ0 := Lib.hid hz
        have HS3 := Lib.hid hs3
        have HS4' := HS4.out
        have HT3 := Lib.hid hst3
        have HA := Lib.hid hA
        obtain ⟨v4, hv4⟩ : ∃ v, c4[at_]? = some v := ⟨_, Array.getElem?_eq_getElem (by rw [HS4']; exact hA64)⟩
        have hcell : wc.cell? ⟨b4, at_, none⟩ = some v4 := (cell_of_row wc b4 at_ c4 _ _ h4).trans hv4
        have hfr4 : wc.frozen? ⟨b4, at_, none⟩ = false := frozen_of_row wc b4 at_ c4 _ h4
        have H4 := Lib.hid h4
        clear h3 hz hs3 hst3 hA h4 hat hv4 HS4'
        have htl : (l.drop (64 * (l.length / 64))).length = at_ := by rw [← HA.out]; simp; omega
        have HTL := Lib.hid htl
        clear htl
        have hl0 : (0 : Int) ≤ (at_ : Int) + 1 := by omega
        have hl1 : (at_ : Int) + 1 ≤ 64 := by omega
        have hl2 : at_ + 1 ≤ 64 := by omega
        go_upto_region 7 with fail
        obtain ⟨wb, hwb⟩ : ∃ wb, wb = wc.setCell ⟨b4, at_, none⟩ (.int .u8 128) := ⟨_, rfl⟩
        rw [← hwb]
        have hb4' : wb.heap[b4]? = some (.cells (c4.setIfInBounds at_ (.int .u8 128)) 143 (0, 0)) := by rw [hwb]; exact heap_setCell_same wc b4 at_ c4 _ _ H4.out
        have hkb : Keep [b4] wc wb := by rw [hwb]; exact (Keep.refl _ _).setCell (by simp) _
        have HW4 := Lib.hid hb4'
        have HWB := Lib.hid hwb
        clear hwb hb4' hcell hfr4
        go_cut [] (fun wd_ => ∃ c4' : Array Value, wd_.heap[b4]? = some (.cells c4' 143 (0, 0)) ∧ c4'.size = 64 ∧ (∀ i, i < 64 → c4'[i]? = some (.int .u8 (wd (blk1 (l.drop (64 * (l.length / 64)))) i))) ∧ Keep [b4] wb wd_)
        case first =>
          by_cases h63 : at_ = 63
          · have hl5 : at_ + 1 = 64 := by omega
            have hl6 : (at_ : Int) + 1 = 64 := by omega
            have H63 := Lib.hid h63
            clear h63
            have hsz4 : 0 + 0 ≤ (c4.setIfInBounds at_ (.int .u8 128)).size := by omega
            go_wp2_with (first
              | (refine wpList_clear_bytes rfl rfl (.tmp 37) 35 rfl b4 0 0 0 rfl 5 _ _ Tryd.underlying35 (by kernel_rfl) HW4.out hsz4 ?_
                 intro w5 hk5 hh5))
            go_meet
            have e0 : over (c4.setIfInBounds at_ (.int .u8 128)) 0 (List.replicate 0 (Value.int .u8 0)) = c4.setIfInBounds at_ (.int .u8 128) := by
              generalize c4.setIfInBounds at_ (.int .u8 128) = X
              simp [over]
            rw [e0] at hh5
            refine ⟨_, hh5, by rw [Array.size_setIfInBounds]; exact HS4.out, fun i hi => ?_, hk5⟩
            unfold wd
            by_cases hia : i < at_
            · rw [Array.getElem?_setIfInBounds, if_neg (by omega), blk1_lo _ _ (by rw [HTL.out]; exact hia), HR4.out i (by rw [HA.out]; exact hia)]
              simp only [B8, List.getD_eq_getElem?_getD, List.getElem?_drop]
            · have hie : i = at_ := by omega
              have hb := blk1_at (l.drop (64 * (l.length / 64)))
              rw [HTL.out] at hb
              rw [hie, hb, Array.getElem?_setIfInBounds_self_of_lt (by rw [HS4.out]; omega)]
              rfl
          · have hl3 : (at_ : Int) + 1 < 64 := by omega
            have hl4 : at_ + 1 < 64 := by omega
            have hl5 : ¬ at_ + 1 = 64 := by omega
            have hl6 : ¬ (64 = at_ + 1) := by omega
            have hl7 : ¬ (at_ = 63) := by omega
            have hl8 : ¬ (63 = at_) := by omega
            have hsz4 : (at_ + 1) + (63 - at_) ≤ (c4.setIfInBounds at_ (.int .u8 128)).size := by rw [Array.size_setIfInBounds, HS4.out]; omega
            go_wp2_with (first
              | (refine wpList_clear_bytes rfl rfl (.tmp 37) 35 rfl b4 (at_ + 1) (63 - at_) (63 - at_) rfl 5 _ _ Tryd.underlying35 (by kernel_rfl) HW4.out hsz4 ?_
                 intro w5 hk5 hh5))
            go_meet
            have hov : (at_ + 1) + (List.replicate (63 - at_) (Value.int .u8 0)).length ≤ (c4.setIfInBounds at_ (.int .u8 128)).size := by simpa using hsz4
            refine ⟨_, hh5, by rw [over_size hov, Array.size_setIfInBounds]; exact HS4.out, fun i hi => ?_, hk5⟩
            rw [over_get hov, List.length_replicate]
            unfold wd
            by_cases hia : i < at_
            · rw [if_neg (by omega), Array.getElem?_setIfInBounds, if_neg (by omega), blk1_lo _ _ (by rw [HTL.out]; exact hia), HR4.out i (by rw [HA.out]; exact hia)]
              simp only [B8, List.getD_eq_getElem?_getD, List.getElem?_drop]
            · by_cases hie : i = at_
              · have hb := blk1_at (l.drop (64 * (l.length / 64)))
                rw [HTL.out] at hb
                rw [if_neg (by omega), hie, hb, Array.getElem?_setIfInBounds_self_of_lt (by rw [HS4.out]; omega)]
                rfl
              · rw [if_pos (by omega), blk1_hi _ _ (by rw [HTL.out]; omega), List.getElem?_replicate, if_pos (by omega)]
                rfl
        case rest =>
          obtain ⟨c4', hh4, hz4, hb4c, hk4⟩ := hcut
          have hkc : Keep [] w wc := (hkp.trans hkb (by simp; omega)).trans hk4 (by simp; omega)
          have HZ5 : Hid (wc.heap[w.heap.size]? = some (.cells (zerosOf .u8 32) 125 (0, 0))) := hk4.get (hkb.get HZ0.out (by simp; omega)) (by simp; omega)
          have H35 : Hid (wc.heap[b3]? = some (.cells c3' 142 (0, 0))) := hk4.get (hkb.get H3.out (by simpa using hne)) (by simpa using hne)
          have H45 := Lib.hid hh4
          have HZ4 := Lib.hid hz4
          have HB4 := Lib.hid hb4c
          have HC1 := Lib.hid (compress_any b3 0 b4 0 c3' c4' 142 143 (0, 0) (absorb l (l.length / 64)) (blk1 (l.drop (64 * (l.length / 64)))) wc (HK.out.keep hkc (by simp)) H35.out HT3.out hh4 (fun i hi => by rw [Nat.zero_add]; exact hb4c i hi))
          clear hh4 hz4 hb4c HW4 HWB hkb hkp hk4 H3 H4 HZ0
          obtain ⟨wd_, rfl⟩ : ∃ wd_ : World, wd_ = wc := ⟨_, rfl⟩
          go_upto_if 39 with fail
          go_cut [] (fun we => ∃ c3 c4 : Array Value, we.heap[w.heap.size]? = some (.cells (zerosOf .u8 32) 125 (0, 0)) ∧ we.heap[b3]? = some (.cells c3 142 (0, 0)) ∧ c3.size = 8 ∧ S8at c3 0 (fin1 l).1 ∧
            we.heap[b4]? = some (.cells c4 143 (0, 0)) ∧ c4.size = 64 ∧ (∀ i, i < 56 → c4[i]? = some (.int .u8 (wd (fin1 l).2 i))) ∧ Keep [] w we)
          case first =>
            by_cases h56 : at_ < 56
            · have hge : ¬ 56 ≤ at_ := by omega
              go_wp2
              go_meet
              have hf : fin1 l = (absorb l (l.length / 64), (blk1 (l.drop (64 * (l.length / 64)))).take 56) := by
                unfold fin1; rw [if_pos (by rw [HA.out]; exact h56)]
              refine ⟨c3', c4', HZ5.out, H35.out, HS3.out, by rw [hf]; exact HT3.out, H45.out, HZ4.out, fun i hi => ?_, hkc⟩
              rw [HB4.out i (by omega), hf]
              unfold wd
              rw [List.getD_eq_getElem?_getD, List.getD_eq_getElem?_getD, List.getElem?_take_of_lt hi]
            · have hge : 56 ≤ at_ := by omega
              go_wp2_with (first
                | (go_at_call 88; refine HC1.out.mono ?_; rintro e w4 ⟨rfl, hk4, cur4, hh4, hz4, hs4, ho4⟩)
                | (refine wpList_clear_bytes rfl rfl (.tmp 41) 35 rfl b4 0 64 64 rfl 5 _ _ Tryd.underlying35 (by kernel_rfl) (hk4.get H45.out (by simpa using Ne.symm hne)) (by rw [HZ4.out]; omega) ?_
                   intro w5 hk5 hh5))
              go_meet
              have hf : fin1 l = (comp (absorb l (l.length / 64)) (blk1 (l.drop (64 * (l.length / 64)))), List.replicate 56 0) := by
                unfold fin1; rw [if_neg (by rw [HA.out]; exact h56)]
              have hov : 0 + (List.replicate 64 (Value.int .u8 0)).length ≤ c4'.size := by rw [HZ4.out]; simp
              refine ⟨cur4, _, hk5.get (hk4.get HZ5.out (by simp; omega)) (by simp; omega), hk5.get hh4 (by simpa using hne), by rw [hz4]; exact HS3.out, by rw [hf]; exact hs4, hh5, by rw [over_size hov]; exact HZ4.out, fun i hi => ?_, (hkc.trans hk4 (by simp; omega)).trans hk5 (by simp; omega)⟩
              rw [over_get hov, if_pos (by simp; omega), List.getElem?_replicate, if_pos (by omega), hf]
              unfold wd
              rw [List.getD_eq_getElem?_getD, List.getElem?_replicate, if_pos hi]
              rfl
          case rest =>
            clear HC1 hkc HZ5 H35 H45 HZ4 HB4 HS3 HT3 HS4 HR4 hone
            obtain ⟨c5, c6, hz, h3, hs3, hst, h4, hs4, hb4, hk⟩ := hcut
            have hc0 : wc.cell? ⟨hb, 0, none⟩ = some (.int .i64 l.length) := (cell_of_row wc hb 0 cs _ _ (hk.get HHH.out (by simp))).trans HH0.out
            have hln : (l.length : Int) ≤ 1099511627776 := by omega
            have HZ6 := Lib.hid hz
            have H36 := Lib.hid h3
            have HS36 := Lib.hid hs3
            have HT36 := Lib.hid hst
            have H46 := Lib.hid h4
            have HS46 := Lib.hid hs4
            have HB46 := Lib.hid hb4
            clear hz h3 hs3 hst h4 hs4 hb4
            obtain ⟨we, rfl⟩ : ∃ we : World, we = wc := ⟨_, rfl⟩
            go_wp2
            go_loopw [7, 48] (fun _ i wr => ∃ j : Nat, ∃ cur : Array Value, j ≤ 8 ∧ i = .int .i64 j ∧ wr.heap[b4]? = some (.cells cur 143 (0, 0)) ∧ cur.size = 64 ∧ (∀ i, i < 56 → cur[i]? = some (.int .u8 (wd (fin1 l).2 i))) ∧
              (∀ i, 64 - j ≤ i → i < 64 → cur[i]? = some (B8 (b8 ((8 * (l.length : Int)) / 2 ^ (8 * (63 - i)))))) ∧ Keep [b4] we wr) (fun _ i _ => 8 - (intOf i).toNat)
            case atStart => exact ⟨0, c6, by omega, rfl, H46.out, HS46.out, HB46.out, fun i _ _ => by omega, Keep.refl _ _⟩
            case round =>
              obtain ⟨j, cur, hj, rfl, hcur, hcz, hpre, hpost, hkr⟩ := hrel
              by_cases hlt : j < 8
              · obtain ⟨vj, hvj⟩ : ∃ v, cur[63 - j]? = some v := ⟨_, Array.getElem?_eq_getElem (by rw [hcz]; omega)⟩
                have hcj : wr.cell? ⟨b4, 63 - j, none⟩ = some vj := (cell_of_row wr b4 (63 - j) cur _ _ hcur).trans hvj
                have hfj : wr.frozen? ⟨b4, 63 - j, none⟩ = false := frozen_of_row wr b4 (63 - j) cur _ hcur
                have g1 : ((63 : Int) - j).toNat = 63 - j := by omega
                have g2 : (8 * (j : Int)).toNat = 8 * j := by omega
                have hn0 : (0 : Int) ≤ 8 * (l.length : Int) := by omega
                have HC7 := Lib.hid hcur
                have HZ7 := Lib.hid hcz
                have HP7 := Lib.hid hpre
                have HQ7 := Lib.hid hpost
                clear hcur hcz hpre hpost hvj
                go_wp2
                go_roundw
                case rel =>
                  have hbnd : 63 - j < cur.size := by rw [HZ7.out]; omega
                  refine ⟨j + 1, cur.setIfInBounds (63 - j) (.int .u8 (8 * (l.length : Int) / 2 ^ (8 * j) % 256)), by omega, by go_num, heap_setCell_same wr b4 (63 - j) cur _ _ HC7.out, by rw [Array.size_setIfInBounds]; exact HZ7.out, fun i hi => ?_, fun i hi1 hi2 => ?_, hkr.setCell (by simp) _⟩
                  · rw [Array.getElem?_setIfInBounds, if_neg (by omega)]; exact HP7.out i hi
                  · by_cases e : i = 63 - j
                    · have e2 : 63 - i = j := by omega
                      rw [e2, ← b8_cell, IntKind.wrap_u8, e, Array.getElem?_setIfInBounds_self_of_lt hbnd]
                    · rw [Array.getElem?_setIfInBounds, if_neg (by omega)]; exact HQ7.out i (by omega) hi2
                case measure => simp [intOf]; omega
              · have hkw : Keep [] w wr := hk.trans hkr (by simp; omega)
                have hblk : ∀ i, i < 64 → cur[0 + i]? = some (.int .u8 (wd ((fin1 l).2 ++ be8 (8 * (l.length : Int))) i)) := fun i hi => by
                  rw [Nat.zero_add]
                  unfold wd
                  by_cases h : i < 56
                  · rw [hpre i h]
                    unfold wd
                    rw [List.getD_eq_getElem?_getD, List.getD_eq_getElem?_getD, List.getElem?_append_left (by rw [fin1_length]; exact h)]
                  · rw [hpost i (by omega) hi, List.getD_eq_getElem?_getD, List.getElem?_append_right (by rw [fin1_length]; omega), fin1_length, ← List.getD_eq_getElem?_getD, be8_get _ _ (by omega), show 7 - (i - 56) = 63 - i by omega]
                    rfl
                have HZ8 : Hid (wr.heap[w.heap.size]? = some (.cells (zerosOf .u8 32) 125 (0, 0))) := hkr.get HZ6.out (by simp; omega)
                have h38 : wr.heap[b3]? = some (.cells c5 142 (0, 0)) := hkr.get H36.out (by simpa using hne)
                have HC2 := Lib.hid (compress_any b3 0 b4 0 c5 cur 142 143 (0, 0) (fin1 l).1 ((fin1 l).2 ++ be8 (8 * (l.length : Int))) wr (HK.out.keep hkw (by simp)) h38 HT36.out hcur hblk)
                clear hcur hcz hpre hpost h38 hblk HZ6 H36 HT36 H46 HS46 HB46 hc0
                rw [show comp (fin1 l).1 ((fin1 l).2 ++ be8 (8 * (l.length : Int))) = finish l from rfl] at HC2
                generalize hF : finish l = F at HC2
                have HF := Lib.hid hF
                clear hF
                go_wp2_with (first
                  | (go_at_call 88; refine HC2.out.mono ?_; rintro e w4 ⟨rfl, hk4, cur4, hh4, hz4, hs4, ho4⟩)
                  | (refine wpList_load_part rfl 142 (.tmp 3) rfl b3 0 8 rfl 142 cur4 (0, 0) _ ((heap_alloc_past (lt_of_heap hh4)).trans hh4) Tryd.underlying142 rfl (by kernel_rfl) (by rw [hz4, HS36.out]; omega) ?_; rw [S8at_extract hs4 (hz4.trans HS36.out)]))
                have hk4w : Keep [] w w4 := hkw.trans hk4 (by simp; omega)
                have hz9 : w4.heap[w.heap.size]? = some (.cells (zerosOf .u8 32) 125 (0, 0)) := hk4.get HZ8.out (by simp; omega)
                have HZ9 := Lib.hid hz9
                have HK4 := Lib.hid hk4w
                clear hz9 hk4 hk4w hh4 hz4 hs4 ho4 HC2 HZ8 hkw hkr hk
                generalize hd : w4.heap.size = d
                have HD := Lib.hid hd
                have hwd : w.heap.size < d := by rw [← hd]; exact lt_of_heap HZ9.out
                clear hd
                go_loopw [9, 10, 62] (fun _ _ i wr => ∃ j : Nat, ∃ cur : Array Value, j ≤ 8 ∧ i = .int .i64 j ∧ wr.heap[d]? = some (.cells cur 125 (0, 0)) ∧ cur.size = 32 ∧ (∀ i, i < 4 * j → cur[i]? = some (B8 ((digest F).getD i 0))) ∧ Keep [d] (w4.alloc (.cells (zerosOf .u8 32) 125)) wr) (fun _ _ i _ => 8 - (intOf i).toNat)
                case atStart => exact ⟨0, zerosOf .u8 32, by omega, rfl, by rw [← HD.out]; exact heap_alloc_new _ _, zerosOf_size _ _, fun i hi => by omega, Keep.refl _ _⟩
                case round =>
                  obtain ⟨j, cur, hj, rfl, hcur, hcz, hdone, hkr⟩ := hrel
                  by_cases hlt : j < 8
                  · have hidx : ∀ w', (Instr.index 142 (.agg #[.int .u32 F.a, .int .u32 F.b, .int .u32 F.c, .int .u32 F.d, .int .u32 F.e, .int .u32 F.f, .int .u32 F.g, .int .u32 F.h]) (.int .i64 j)).run Tryd.prog w' = .ok (.int .u32 (F.nth j)) w' := by
                      intro w'
                      have h8 : j = 0 ∨ j = 1 ∨ j = 2 ∨ j = 3 ∨ j = 4 ∨ j = 5 ∨ j = 6 ∨ j = 7 := by omega
                      rcases h8 with rfl | rfl | rfl | rfl | rfl | rfl | rfl | rfl <;> rfl
                    have hex : ∀ t, t < 32 → ∃ v, wr.cell? ⟨d, t, none⟩ = some v := fun t ht => ⟨_, (cell_of_row wr d t cur _ _ hcur).trans (Array.getElem?_eq_getElem (by rw [hcz]; exact ht))⟩
                    obtain ⟨v0, hv0⟩ := hex (4 * j) (by omega)
                    obtain ⟨v1, hv1⟩ := hex (4 * j + 1) (by omega)
                    obtain ⟨v2, hv2⟩ := hex (4 * j + 2) (by omega)
                    obtain ⟨v3, hv3⟩ := hex (4 * j + 3) (by omega)
                    have f0 : wr.frozen? ⟨d, 4 * j, none⟩ = false := frozen_of_row wr d _ cur _ hcur
                    have f1 : wr.frozen? ⟨d, 4 * j + 1, none⟩ = false := frozen_of_row wr d _ cur _ hcur
                    have f2 : wr.frozen? ⟨d, 4 * j + 2, none⟩ = false := frozen_of_row wr d _ cur _ hcur
                    have f3 : wr.frozen? ⟨d, 4 * j + 3, none⟩ = false := frozen_of_row wr d _ cur _ hcur
                    have HC9 := Lib.hid hcur
                    have HS9 := Lib.hid hcz
                    have HD9 := Lib.hid hdone
                    clear hcur hcz hdone hex
                    go_wp2
                    go_roundw
                    case rel =>
                      obtain ⟨g0, g1, g2, g3⟩ := digest_get F j hlt
                      have hh1 := heap_setCell_same wr d (4 * j) cur _ (.int .u8 (F.nth j / 16777216 % 256)) HC9.out
                      have hh2 := heap_setCell_same _ d (4 * j + 1) _ _ (.int .u8 (F.nth j / 65536 % 256)) hh1
                      have hh3 := heap_setCell_same _ d (4 * j + 2) _ _ (.int .u8 (F.nth j / 256 % 256)) hh2
                      have hh4 := heap_setCell_same _ d (4 * j + 3) _ _ (.int .u8 (F.nth j % 256)) hh3
                      refine ⟨j + 1, _, by omega, by go_num, hh4, by simpa using HS9.out, fun i hi => ?_, (((hkr.setCell (by simp) _).setCell (by simp) _).setCell (by simp) _).setCell (by simp) _⟩
                      have hsz := HS9.out
                      simp only [Array.getElem?_setIfInBounds, Array.size_setIfInBounds, hsz]
                      by_cases e3 : i = 4 * j + 3
                      · subst e3; rw [g3, ← b8_cell, IntKind.wrap_u8]; simp; omega
                      · by_cases e2 : i = 4 * j + 2
                        · subst e2; rw [g2, ← b8_cell, IntKind.wrap_u8]; simp; omega
                        · by_cases e1 : i = 4 * j + 1
                          · subst e1; rw [g1, ← b8_cell, IntKind.wrap_u8]; simp; omega
                          · by_cases e0 : i = 4 * j
                            · subst e0; rw [g0, ← b8_cell, IntKind.wrap_u8]; simp; omega
                            · rw [if_neg (by omega), if_neg (by omega), if_neg (by omega), if_neg (by omega)]
                              exact HD9.out i (by omega)
                    case measure => simp [intOf]; omega
                  · have hj8 : j = 8 := by omega
                    have hcc : cur = cellsOf (digest F) := by
                      apply Array.ext_getElem?
                      intro i
                      by_cases h : i < 32
                      · rw [hdone i (by omega), cellsOf_get _ _ (by rw [digest_length]; exact h)]; rfl
                      · rw [Array.getElem?_eq_none (by omega), Array.getElem?_eq_none (by rw [cellsOf_size, digest_length]; omega)]
                    have hext : cur.extract 0 (0 + 32) = cellsOf (digest F) := by
                      rw [Nat.zero_add, ← hcz, Array.extract_size, hcc]
                    have hz10 : wr.heap[w.heap.size]? = some (.cells (zerosOf .u8 32) 125 (0, 0)) := hkr.get ((heap_alloc_past (lt_of_heap HZ9.out)).trans HZ9.out) (by simp; omega)
                    have HC9 := Lib.hid hcur
                    have HS9 := Lib.hid hcz
                    have HE9 := Lib.hid hext
                    have hj9 : 8 ≤ j := by omega
                    clear hcur hcz hdone hcc hext hj8 hlt hj
                    go_wp2_with (first
                      | (refine wpList_load_part rfl 125 (.tmp 8) rfl d 0 32 rfl 125 cur (0, 0) _ HC9.out Tryd.underlying125 rfl (by kernel_rfl) (by rw [HS9.out]; omega) ?_; rw [HE9.out])
                      | (refine wpList_store_part rfl rfl 125 (.tmp 2) (.tmp 93) rfl w.heap.size 0 rfl (cellsOf (digest F)) rfl 125 _ hz10 (by kernel_rfl) (by simp [digest_length]) (fun v hv => by obtain ⟨b, _, rfl⟩ := List.mem_map.1 hv; rfl) ?_; intro w11 hk11 hh11))
                    have hov : over (zerosOf .u8 32) 0 (cellsOf (digest F)).toList = cellsOf (digest F) := by
                      unfold over
                      rw [List.drop_of_length_le (by simp [zerosOf, digest_length])]
                      simp
                    rw [hov] at hh11
                    refine bodyPost_ret (v := .agg (cellsOf (digest F))) (results_cell_row rfl _ _ w.heap.size _ _ _ _ rfl hh11 Tryd.underlying125 rfl (by kernel_rfl)) rfl ⟨?_, ?_⟩
                    · rw [show sha l = digest (finish l) from rfl, HF.out]
                    · have ha : Keep [] w (w4.alloc (.cells (zerosOf .u8 32) 125)) := HK4.out.alloc _
                      exact (ha.trans hkr (by simp; omega)).trans hk11 (by simp)
end
end Go.Proofs.YtgopdbpddemplaaDoor
