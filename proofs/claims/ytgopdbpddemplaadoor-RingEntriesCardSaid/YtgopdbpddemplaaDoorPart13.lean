/- The device: Flush, Write. · The device: New, Fail. · The device: Write. -/
import Derived.Test.YtgopdbpddemplaaDoorPart12
import Derived.Great.BuildSlice
import Derived.Great.FillDense
import Derived.Laws.Tables
set_option linter.unusedSimpArgs false
set_option linter.unusedVariables false
namespace Go.Proofs.YtgopdbpddemplaaDoor
section
/- The device: Flush, Write. -/
open Go.RowKit

def zeroWrite : Array Value := (writeCells (0, zero512)).toArray
theorem exec_load_write {ρ : Operand → Value} {w : World} {dst : Option Tmp} {t : TypeId} {p : String} {e : Array Edge} {gd : Option (Nat × Bool)} {x : Operand} (h : okLoad w (ρ x) 513 = true) :
    (execOp ρ ⟨dst, .load 98 x, t, p, e, gd⟩).run Tryd.prog w = .ok (.value (loadedV w (ρ x) 513)) w := exec_load_arr 98 513 _ Tryd.underlying98 rfl (by kernel_rfl) h
theorem exec_alloc_write {ρ : Operand → Value} {w : World} {dst : Option Tmp} {t : TypeId} {p : String} {e : Array Edge} {gd : Option (Nat × Bool)} :
    (execOp ρ ⟨dst, .alloc 98, t, p, e, gd⟩).run Tryd.prog w = .ok (.value (.pointer (some ⟨w.heap.size, 0, none⟩))) (w.alloc (.cells zeroWrite 98)) := exec_alloc_arr 98 zeroWrite (by kernel_rfl)
theorem size_write : (Tryd.prog.info? 98).map (·.size) = some 513 := by kernel_rfl
attribute [local go_sem ↓] exec_load_content exec_store_content exec_alloc_content exec_box_content exec_load_write exec_alloc_write

theorem writeOne (x : Int × List UInt8) : ∀ v ∈ (writeCells x).toArray.toList, v.oneCell' = true := fun v hv => by
  simp [writeCells] at hv
  rcases hv with rfl | ⟨x, _, rfl⟩ <;> rfl
theorem writeCells_size {x : Int × List UInt8} (h : x.2.length = 512) : (writeCells x).toArray.size = 513 := by
  rw [List.size_toArray]
  show (x.2.map B8).length + 1 = 513
  rw [List.length_map, h]
theorem writeCells_part {x : Int × List UInt8} (h : x.2.length = 512) : (writeCells x).toArray.extract 1 513 = cellsOf x.2 := by
  apply Array.ext'
  rw [Array.toList_extract, List.extract_eq_take_drop]
  show List.take (513 - 1) (x.2.map B8) = _
  rw [List.take_of_length_le (by rw [List.length_map, h]; omega)]
  rfl
theorem zeroWrite_size : zeroWrite.size = 513 := writeCells_size List.length_replicate

/-- the durable contents behind a flush -/
theorem fold_vis (l : List (Int × List UInt8)) (f : Int → List UInt8) (b : Int) : l.foldl (fun f x => setDur f x.1 x.2) f b = match lastIx l b with | some i => (l.getD i (0, [])).2 | none => f b := by
  induction l generalizing f with
  | nil => rfl
  | cons x l ih =>
    rw [List.foldl_cons, ih]
    simp only [lastIx]
    cases lastIx l b with
    | some i => simp
    | none =>
      simp only [setDur]
      by_cases h : b = x.1
      · subst h; simp
      · rw [if_neg h]
        have h' : ¬ x.1 = b := fun e => h e.symm
        simp [h']
theorem fold_vis' (d : DK) : d.pend.foldl (fun f x => setDur f x.1 x.2) d.dur = d.vis := funext fun b => by rw [fold_vis]; rfl
def DK.flush (d : DK) : Int × DK :=
  if d.down = true then (29, d) else if d.begin.1 ≠ 0 then d.begin else (0, { d.begin.2 with dur := d.vis, pend := [] })
theorem DK.begin_pend (d : DK) : d.begin.2.pend = d.pend ∧ d.begin.2.dur = d.dur := by unfold DK.begin; split <;> exact ⟨rfl, rfl⟩
theorem DK.begin_vis (d : DK) : d.begin.2.vis = d.vis := by
  funext b
  unfold DK.vis
  rw [d.begin_pend.1, d.begin_pend.2]
theorem DK.begin_err (d : DK) : d.begin.1 = 0 ∨ d.begin.1 = 29 := by unfold DK.begin; split <;> simp

set_option maxRecDepth 100000 in
set_option maxHeartbeats 4000000 in
theorem flush_any {F : List Nat} {w : World} {p : Nat} {d : DK} (h : DiskAt w p d F) :
    Calls Tryd.prog 44 #[.pointer (some ⟨p, 0, none⟩)] w fun e w' => e = .returned (.int .i64 d.flush.1) ∧ DiskAt w' p d.flush.2 F ∧ Keep F w w' := by
  obtain ⟨m1, v, m2, hp⟩ := h.row
  have hc6 := cell_row' (j := 6) hp
  cases hd : d.down with
  | true =>
    rw [hd] at hc6
    have hr : Hid (d.flush = (29, d)) := Lib.hid (by unfold DK.flush; rw [if_pos hd])
    go_enter Tryd.func44, Tryd.ntmps44
    go_wp2
    go_ret
    exact ⟨by rw [hr.out]; rfl, by rw [hr.out]; exact h, Keep.refl _ _⟩
  | false =>
    rw [hd] at hc6
    obtain ⟨_, _, _, _, hpF, _⟩ := h.is
    rcases d.begin_err with hb | hb
    · have hr : Hid (d.flush = (0, { d.begin.2 with dur := d.vis, pend := [] })) := Lib.hid (by unfold DK.flush; rw [if_neg (by rw [hd]; simp), if_neg (by rw [hb]; simp)])
      obtain ⟨hbp, hbd⟩ := d.begin_pend
      go_enter Tryd.func44, Tryd.ntmps44
      go_wp2_with (first
        | (go_at_call 57; refine (begin_any h).mono ?_; rw [hb]; rintro e w1 ⟨rfl, h1, hk1⟩
           obtain ⟨n1, v1, n2, hi1, j1, j2, j3, j4⟩ := h1.is
           have hq3 := cell_row' (j := 3) hi1.row
           obtain ⟨sa, sn, sc, rfl⟩ : ∃ a n c, v1 = .slice a n c := by
             rcases hi1.pend.cases hi1.ok.pend with ⟨rfl, _⟩ | ⟨g, cap, cur, rfl, _⟩
             · exact ⟨_, _, _, rfl⟩
             · exact ⟨_, _, _, rfl⟩
           have hsn : sn = d.pend.length := by
             rcases hi1.pend.cases hi1.ok.pend with ⟨e, h0⟩ | ⟨g, cap, cur, e, _⟩
             · rw [hbp] at h0; injection e with _ e _; rw [h0, e]; rfl
             · rw [hbp] at e; injection e
           subst hsn))
      go_loopw [24] (fun i wr => ∃ k : Nat, k ≤ d.pend.length ∧ i = .int .i64 k ∧ Hid (DiskIs wr p { d.begin.2 with dur := (d.pend.take k).foldl (fun f x => setDur f x.1 x.2) d.dur } n1 (.slice sa d.pend.length sc) n2) ∧ Keep [n1] w1 wr) (fun i _ => d.pend.length - (intOf i).toNat)
      case atStart => exact ⟨0, by omega, rfl, Lib.hid (by rw [List.take_zero, List.foldl_nil, ← hbd]; exact hi1), Keep.refl _ _⟩
      case round =>
        obtain ⟨k, hk, rfl, HI, hkr⟩ := hrel
        by_cases hlt : k < d.pend.length
        · rcases HI.out.pend.cases HI.out.ok.pend with ⟨e, h0⟩ | ⟨g, cap, cur, e, hg, hnc, hcs, hx⟩
          · rw [show ({ d.begin.2 with dur := (d.pend.take k).foldl (fun f x => setDur f x.1 x.2) d.dur } : DK).pend = d.begin.2.pend from rfl, hbp] at h0
            rw [h0] at hlt; simp at hlt
          · injection e with e1 e2 e3
            subst e1 e3
            have hx' := hx k (by show k < d.begin.2.pend.length; rw [hbp]; exact hlt)
            have hcs' : d.pend.length * 513 ≤ cur.size := by rw [← hbp]; exact hcs
            have hfit : k * 513 + 513 ≤ cur.size := by omega
            have hxe : ({ d.begin.2 with dur := (d.pend.take k).foldl (fun f x => setDur f x.1 x.2) d.dur } : DK).pend.getD k (0, []) = d.pend.getD k (0, []) := by show d.begin.2.pend.getD k (0, []) = _; rw [hbp]
            rw [hxe] at hx'
            have hx1 := hx'.1
            have hgo : objAt wr g = some (.cells cur 98 (0, 0)) := hg
            have HX : Hid ((d.pend.take (k + 1)).foldl (fun f x => setDur f x.1 x.2) d.dur = setDur ((d.pend.take k).foldl (fun f x => setDur f x.1 x.2) d.dur) (d.pend.getD k (0, [])).1 (d.pend.getD k (0, [])).2) := Lib.hid (by
              rw [List.take_succ_eq_append_getElem hlt, List.foldl_append]
              simp [List.getD_eq_getElem?_getD, hlt])
            have hxl : (d.pend.getD k (0, [])).2.length = 512 := by
              refine h.okd.pend _ ?_
              rw [List.getD_eq_getElem?_getD, List.getElem?_eq_getElem hlt]
              exact List.getElem_mem hlt
            clear hx hx' hcs hcs' hxe hg e2
            generalize d.pend.getD k (0, []) = x at hx1 HX hxl
            have hk64 : (k : Int) < d.pend.length := by omega
            have hml : d.pend.length ≤ 9223372036854775807 := by rw [← hbp]; exact hi1.pend.len
            have hR1 := writeCells_size hxl
            have hR2 := writeCells_part hxl
            have hR3 : (writeCells x).toArray[0]? = some (.int .i64 x.1) := rfl
            have HR4 := Lib.hid (writeOne x)
            generalize (writeCells x).toArray = R at hx1 hR1 hR2 hR3 HR4
            go_wp2_with (first
              | (refine wpList_store_part rfl rfl 98 (.tmp 5) (.tmp 27) rfl wr.heap.size 0 rfl R rfl 98 zeroWrite (heap_alloc_new wr _) (by rw [hR1]; exact size_write) (by rw [hR1, zeroWrite_size]; omega) HR4.out ?_
                 intro w2 hk2 hh2
                 rw [over_full _ _ (by rw [Array.length_toList, hR1, zeroWrite_size]), Array.toArray_toList] at hh2
                 have ho2 : objAt w2 wr.heap.size = some (.cells R 98 (0, 0)) := hh2
                 have hcw : w2.cell? ⟨wr.heap.size, 0, none⟩ = some (.int .i64 x.1) := (cell_row' (j := 0) hh2).trans hR3
                 have hkw : Keep [] wr w2 := ((Keep.refl [] wr).alloc _).trans hk2 (by simp))
              | (go_at_call 50; refine (set_any (HI.out.keep0 hkw) x.1 x.2 hxl).mono ?_; rintro e w3 ⟨rfl, h3, hk3⟩))
            go_roundw
            case rel => exact ⟨k + 1, by omega, by go_num, Lib.hid (by rw [HX.out]; exact h3), (hkr.then hkw).trans hk3 (by simp)⟩
            case measure => simp [intOf]; omega
        · have hkl : k = d.pend.length := by omega
          have HV : Hid ((d.pend.take k).foldl (fun f x => setDur f x.1 x.2) d.dur = d.vis) := Lib.hid (by rw [hkl, List.take_length, fold_vis'])
          rw [HV.out] at HI
          clear HV
          go_wp2_with (go_at_call 51; refine (forget_any HI.out).mono ?_; rintro e w3 ⟨rfl, h3, hk3⟩)
          go_ret
          refine ⟨by rw [hr.out]; rfl, by rw [hr.out]; exact h3.at j1 j2 j3 (by simp [Value.ownBlock]), ?_⟩
          have q1 : Keep F w w1 := hk1.mono (fun x hx => Or.inl (by rw [List.mem_singleton.1 hx]; exact hpF))
          have q2 : Keep F w wr := q1.trans hkr (fun x hx => Or.inl (by rw [List.mem_singleton.1 hx]; exact j2))
          exact q2.trans hk3 (fun x hx => Or.inl (by
            rcases List.mem_cons.1 hx with rfl | hx
            · exact j1
            · rw [List.mem_singleton.1 hx]; exact j3))
    · have hr : Hid (d.flush = d.begin) := Lib.hid (by unfold DK.flush; rw [if_neg (by rw [hd]; simp), if_pos (by rw [hb]; simp)])
      go_enter Tryd.func44, Tryd.ntmps44
      go_wp2_with (first
        | (go_at_call 57; refine (begin_any h).mono ?_; rw [hb]; rintro e w1 ⟨rfl, h1, hk1⟩))
      go_ret
      exact ⟨by rw [hr.out, hb]; rfl, by rw [hr.out]; exact h1, hk1.mono (fun x hx => Or.inl (by rw [List.mem_singleton.1 hx]; exact hpF))⟩
end

section
/- The device: New, Fail. -/
open Go.RowKit

def newD (n : Int) : DK := ⟨n, 0, fun _ => zero512, [], false, false, 0⟩
set_option maxRecDepth 100000 in
set_option maxHeartbeats 1000000 in
theorem new_ok (n : Int) (w : World) (h0 : 1 ≤ n) (h1 : n ≤ 8192) :
    Calls Tryd.prog 17 #[.int .i64 n] w fun e w' => ∃ p F, e = .returned (.tuple #[.pointer (some ⟨p, 0, none⟩), .int .i64 0]) ∧ DiskAt w' p (newD n) F ∧ (∀ x ∈ F, w.heap.size ≤ x) ∧ Keep [] w w' := by
  have hmm := @run_makeMap Tryd.prog
  go_enter Tryd.func17, Tryd.ntmps17
  go_wp2
  go_ret2
  have k1 : Keep [] w (w.alloc (.map #[] 0)) := (Keep.refl _ _).alloc _
  have m1 : MapAt (w.alloc (.map #[] 0)) w.heap.size (fun _ => none) := MapAt.made w
  have k2 : Keep [] (w.alloc (.map #[] 0)) ((w.alloc (.map #[] 0)).alloc (.map #[] 0)) := (Keep.refl _ _).alloc _
  have m2 : MapAt ((w.alloc (.map #[] 0)).alloc (.map #[] 0)) (w.heap.size + 1) (fun _ => none) := by have := MapAt.made (w.alloc (.map #[] 0)); rwa [World.size_alloc] at this
  have k3 : ∀ o, Keep [] ((w.alloc (.map #[] 0)).alloc (.map #[] 0)) (((w.alloc (.map #[] 0)).alloc (.map #[] 0)).alloc o) := fun o => (Keep.refl _ _).alloc _
  have hD : DiskIs _ (w.heap.size + 1 + 1) (newD n) w.heap.size (.slice none 0 0) (w.heap.size + 1) :=
    ⟨by have := heap_alloc_new ((w.alloc (.map #[] 0)).alloc (.map #[] 0)) (.cells #[.int .i64 n, .int .i64 0, .map (some w.heap.size), .slice none 0 0, .map (some (w.heap.size + 1)), .bool false, .bool false, .int .i64 0] 85)
        rwa [World.size_alloc, World.size_alloc] at this,
     ⟨_, (m1.keep k2 (by simp)).keep (k3 _) (by simp), fun k => by rw [zeros_cells]; rfl⟩, m2.keep (k3 _) (by simp), ⟨rfl, .inl ⟨rfl, rfl⟩⟩, by omega, ⟨fun b => by simp [newD, zero512], by simp [newD]⟩⟩
  refine ⟨_, [w.heap.size + 1 + 1, w.heap.size, w.heap.size + 1], ?_, hD.at (by simp) (by simp) (by simp) (by simp [Value.ownBlock]), by simp; omega, (k1.then k2).then (k3 _)⟩
  rfl

set_option maxHeartbeats 400000 in
theorem fail_any {F : List Nat} {w : World} {p : Nat} {d : DK} (h : DiskAt w p d F) :
    Calls Tryd.prog 18 #[.pointer (some ⟨p, 0, none⟩)] w fun e w' => e = .returned (.tuple #[]) ∧ DiskAt w' p { d with down := true } F ∧ Keep [p] w w' := by
  obtain ⟨m1, v, m2, hp⟩ := h.row
  have hc6 := cell_row' (j := 6) hp
  have hf6 := frozen_row' (j := 6) hp
  go_enter Tryd.func18, Tryd.ntmps18
  go_wp2
  go_end0
  have hk : Keep [p] w (w.setCell ⟨p, 6, none⟩ (.bool true)) := (Keep.refl _ _).setCell (by simp) _
  exact ⟨rfl, h.turn hk rfl rfl (fun m1 v m2 hp => heap_setCell_same w p 6 _ _ (.bool true) hp), hk⟩
end

section
/- The device: Write. -/
open Go.RowKit

attribute [local go_sem ↓] exec_load_content exec_store_content exec_alloc_content exec_box_content exec_load_write exec_alloc_write

theorem info_write : (Tryd.prog.info? 98).map (fun i => (i.zero, i.size, i.bytes)) = some (some (.agg zeroWrite), 513, 520) := by kernel_rfl

theorem places_write : Tryd.prog.underlying 98 = some (.struct (Tryd.prog.fieldsOf 98)) ∧ (Tryd.prog.fieldsOf 98).toList.mapM (fun f => (Tryd.prog.info? f.type).map fun i => (f.offset, i.size)) = some [(0, 1), (1, 512)] := ⟨by kernel_rfl, by kernel_rfl⟩
theorem fill_two (Z : Array Value) (u v : Value) (hz : Z.size = 513) (hu : u.cells.size = 1) (hC : v.cells.size = 512) : Instr.fill ((#[(0, 1), (1, 512)] : Array (Nat × Nat))[·]?) Z [(0, u), (1, v)] = some (u.cells ++ v.cells) := by
  obtain ⟨a, ha⟩ := Array.size_eq_one_iff.1 hu
  obtain ⟨h1, h2⟩ := Great.foldl_set 1 v.cells.toList 0 (Z.setIfInBounds 0 a)
  have hf : (v.cells.zipIdx.foldl (fun cs (x : Value × Nat) => cs.setIfInBounds (1 + x.2) x.1) (Z.setIfInBounds 0 a)) = ((v.cells.toList.zipIdx 0).foldl (fun cs (x : Value × Nat) => cs.setIfInBounds (1 + x.2) x.1) (Z.setIfInBounds 0 a)) := by
    rw [← Array.foldl_toList, Array.toList_zipIdx]
  have hr : ((v.cells.toList.zipIdx 0).foldl (fun cs (x : Value × Nat) => cs.setIfInBounds (1 + x.2) x.1) (Z.setIfInBounds 0 a)) = u.cells ++ v.cells := by
    apply Array.ext_getElem?
    intro k
    rw [h2 k, ha, Array.getElem?_append]
    simp only [Array.size_setIfInBounds, Array.length_toList, Array.getElem?_toList, List.size_toArray, List.length_cons, List.length_nil]
    cases k with
    | zero => rw [if_neg (by omega)]; simp [hz]
    | succ k =>
      rw [if_neg (show ¬ k + 1 < 0 + 1 by omega)]
      by_cases hk : k < 512
      · rw [if_pos (by omega)]
      · rw [if_neg (by omega)]
        rw [Array.getElem?_eq_none (by rw [Array.size_setIfInBounds]; omega), Array.getElem?_eq_none (by show v.cells.size ≤ _; omega)]
  rw [hr] at hf
  have h512 : v.cells.zipIdx.size = 512 := by simp [hC]
  rw [h512] at hf
  simp only [Instr.fill, List.getElem?_toArray, List.getElem?_cons_zero, List.getElem?_cons_succ, hu, hC, hz]
  rw [ha] at hf ⊢
  simpa [hC, hz] using hf

def okW (x y : Value) : Bool := decide (x.cells.size = 1) && decide (y.cells.size = 512)
def builtW (x y : Value) : Array Value := x.cells ++ y.cells
def okB (x : Value) : Bool := decide (x.cells.size = 513)
theorem exec_build_write {ρ : Operand → Value} {w : World} {dst : Option Tmp} {t : TypeId} {p : String} {e : Array Edge} {gd : Option (Nat × Bool)} {x y : Operand} (h : okW (ρ x) (ρ y) = true) :
    (execOp ρ ⟨dst, .build 98 #[(0, x), (1, y)], t, p, e, gd⟩).run Tryd.prog w = .ok (.value (.agg (builtW (ρ x) (ρ y)))) w := by
  unfold okW at h
  simp only [Bool.and_eq_true, decide_eq_true_eq] at h
  have hb : (Instr.build 98 #[(0, ρ x), (1, ρ y)]).run Tryd.prog w = .ok (.agg (builtW (ρ x) (ρ y))) w := by
    refine run_build w _ _ _ ?_
    have hf := fill_two zeroWrite (ρ x) (ρ y) zeroWrite_size h.1 h.2
    have hi0 := info_write
    unfold Program.built
    rw [places_write.1]
    cases hi : Tryd.prog.info? 98 with
    | none => rw [hi] at hi0; cases hi0
    | some i =>
      rw [hi] at hi0
      simp only [Option.map_some, Option.some.injEq, Prod.mk.injEq] at hi0
      simp only [hi0.1, places_write.2]
      exact hf
  unfold execOp
  simp only [List.map_toArray, List.map_cons, List.map_nil, Sem.run_bind, hb, Result.andThen_ok, Sem.run_pure]
theorem exec_bslice_write {ρ : Operand → Value} {w : World} {dst : Option Tmp} {t : TypeId} {p : String} {e : Array Edge} {gd : Option (Nat × Bool)} {x : Operand} (h : okB (ρ x) = true) :
    (execOp ρ ⟨dst, .buildSlice 83 1 #[(0, x)], t, p, e, gd⟩).run Tryd.prog w = .ok (.value (.slice (some ⟨w.heap.size, 0, none⟩) 1 1)) (w.alloc (.cells (ρ x).cells 98)) := by
  unfold okB at h
  simp only [decide_eq_true_eq] at h
  have hi0 := info_write
  have hb : (Instr.buildSlice 83 1 #[(0, ρ x)]).run Tryd.prog w = .ok (.slice (some ⟨w.heap.size, 0, none⟩) 1 1) (w.alloc (.cells (ρ x).cells 98)) := by
    cases hi : Tryd.prog.info? 98 with
    | none => rw [hi] at hi0; cases hi0
    | some i =>
      rw [hi] at hi0
      simp only [Option.map_some, Option.some.injEq, Prod.mk.injEq] at hi0
      have hfw := Great.fill_whole (s := 513) (by omega) [ρ x] ((Array.range (1 * i.size)).map ((Value.agg zeroWrite).cells[· % (Value.agg zeroWrite).cells.size]!)) (fun v hv => by rw [List.mem_singleton.1 hv]; exact h) (by rw [Array.size_map, Array.size_range, hi0.2.1]; rfl)
      refine run_buildSlice w _ 98 1 _ _ i _ Tryd.underlying83 hi hi0.1 (by rw [hi0.2.1]; decide) (by rw [hi0.2.1]; decide) ?_
      rw [hi0.2.1] at hfw ⊢
      rw [show (#[(0, ρ x)] : Array (Nat × Value)).toList = (([ρ x].zipIdx 0).map fun x => (x.2, x.1)) from rfl, hfw]
      simp
  unfold execOp
  simp only [List.map_toArray, List.map_cons, List.map_nil, Sem.run_bind, hb, Result.andThen_ok, Sem.run_pure]
attribute [local go_sem ↓] exec_build_write exec_bslice_write
attribute [-go_sem] Instr.buildSlice Instr.fill

theorem MapAt.congr {w : World} {r : Nat} {f g : Int → Option Value} (h : MapAt w r f) (e : ∀ j, f j = g j) : MapAt w r g := by
  have : f = g := funext e
  rw [← this]; exact h

/-- append(d.pending, write{..}) as one step of a region that draws its order -/
theorem step_append_pend {w : World} {ops : Array Oper} {o : Oper} {a : Act} {K : Act → World → Prop} {Q : Exit → Act → World → Prop} {E : Prop} (hgd : o.guard = none) (s xo : Operand)
    (ho : o.op = .call { callee := .builtin .append, args := #[s, xo], argTypes := #[83, 83] })
    (v : Value) (l : List (Int × List UInt8)) (hs : a.eval s = v) (hp : PendAt w v l) (x : Int × List UInt8) (hxl : x.2.length = 512) (g : Nat) (fr : Nat × Nat) (hrow : w.heap[g]? = some (.cells (writeCells x).toArray 98 fr))
    (hx : a.eval xo = .slice (some ⟨g, 0, none⟩) 1 1) (hlen : l.length ≤ 100000000)
    (h : ∀ v' w', PendAt w' v' (l ++ [x]) → w.grownBy w' v.ownBlock → (v'.ownBlock = v.ownBlock ∨ ∃ k, v'.ownBlock = some k ∧ w.heap.size ≤ k) → K (a.put o.dst v') w') :
    if Region.wanted o (yielded ops a.tmps) = true then Oper.wp Tryd.prog o a w K Q else E := by
  rw [if_pos (by simp [Region.wanted, hgd])]
  have hi0 := info_write
  cases hi : Tryd.prog.info? 98 with
  | none => rw [hi] at hi0; cases hi0
  | some i =>
    rw [hi] at hi0
    simp only [Option.map_some, Option.some.injEq, Prod.mk.injEq] at hi0
    obtain ⟨hz, hsize, hby⟩ := hi0
    have hsrc : Src Tryd.prog 513 83 (.slice (some ⟨g, 0, none⟩) 1 1) 1 (writeCells x) w :=
      Src.ofSlice _ Tryd.underlying83 _ _ _ _ (by rw [← List.size_toArray, writeCells_size hxl]) (fun j u hu => by
        have hadd : (⟨g, 0, none⟩ : Addr).add j = ⟨g, j, none⟩ := by unfold Addr.add; split <;> simp_all
        rw [hadd, cell_of_row _ g j _ _ _ hrow]
        simpa using hu) (fun u hu => writeOne x u (by simpa using hu))
    obtain ⟨v', w', hr, h2, h3, h4⟩ := run_append_own2 (P := Tryd.prog) w 0 83 83 o.type 98 i (.agg zeroWrite) 513 520 Tryd.underlying83 hi hz hsize hby zeroWrite_size v l.length (pendCells l) hp _ 1 (writeCells x) hsrc (by unfold maxLen; omega) (by omega) (Nat.zero_le _)
    unfold Oper.wp execOp
    simp only [ho, resolve, invoke, builtin, Sem.run_bind, Sem.run_pure, Result.andThen_ok, List.map_toArray, List.map_cons, List.map_nil, hs, hx, hr]
    refine h v' w' ?_ h3 (h4.imp (fun h => h.1) (fun ⟨k, a, b, _⟩ => ⟨k, a, b⟩))
    unfold PendAt
    rw [pendCells_snoc, List.length_append]
    exact h2

def DK.write (d : DK) (b : Int) (c : List UInt8) : Int × DK :=
  if d.down = true then (29, d) else if d.has b = false then (8, d) else if c.length ≠ 512 then (2, d) else if d.begin.1 ≠ 0 then d.begin else (0, { d.begin.2 with pend := d.pend ++ [(b, c)] })

theorem DiskIs.turn {w w' : World} {p : Nat} {d d' : DK} {m1 : Nat} {v : Value} {m2 : Nat} (h : DiskIs w p d m1 v m2) (hk : Keep [p] w w') (hd : d'.dur = d.dur) (he : d'.pend = d.pend)
    (hr : w'.heap[p]? = some (.cells #[.int .i64 d'.blocks, .int .i64 d'.ops, .map (some m1), v, .map (some m2), .bool d'.limited, .bool d'.down, .int .i64 d'.limit] 85 (0, 0))) : DiskIs w' p d' m1 v m2 := by
  have q1 := h.p1
  have q2 := h.p2
  have q3 := h.pv
  obtain ⟨hp, ⟨f1, h1, h2⟩, h3, h4, h5, ok⟩ := h
  exact ⟨hr, ⟨f1, h1.keep hk (by simpa using q1), by rw [hd]; exact h2⟩, by rw [he]; exact h3.keep hk (by simpa using q2), by rw [he]; exact h4.keep hk (by simpa using q3.1), h5, ⟨by rw [hd]; exact ok.dur, by rw [he]; exact ok.pend⟩⟩
set_option maxHeartbeats 1000000 in
theorem begin_is {w : World} {p : Nat} {d : DK} {m1 : Nat} {v : Value} {m2 : Nat} (h : DiskIs w p d m1 v m2) : Calls Tryd.prog 57 #[.pointer (some ⟨p, 0, none⟩)] w fun e w' => e = .returned (.int .i64 d.begin.1) ∧ DiskIs w' p d.begin.2 m1 v m2 ∧ Keep [p] w w' := by
  have hp := h.row
  have hc5 := cell_row' (j := 5) hp
  have hc7 := cell_row' (j := 7) hp
  have hc1 := cell_row' (j := 1) hp
  have hc6 := cell_row' (j := 6) hp
  have hf6 := frozen_row' (j := 6) hp
  have hf7 := frozen_row' (j := 7) hp
  have hf1 := frozen_row' (j := 1) hp
  cases hl : d.limited with
  | true =>
    rw [hl] at hc5
    by_cases h0 : d.limit = 0
    · have hr : Hid (d.begin = (29, { d with down := true })) := Lib.hid (by unfold DK.begin; rw [if_pos ⟨hl, h0⟩])
      rw [h0] at hc7
      go_enter Tryd.func57, Tryd.ntmps57
      go_wp2
      go_ret
      have hk : Keep [p] w (w.setCell ⟨p, 6, none⟩ (.bool true)) := (Keep.refl _ _).setCell (by simp) _
      refine ⟨by rw [hr.out]; rfl, by rw [hr.out]; exact h.turn hk rfl rfl (heap_setCell_same w p 6 _ _ (.bool true) hp), hk⟩
    · have hr : Hid (d.begin = (0, { d with limit := wrap64 (d.limit - 1), ops := wrap64 (d.ops + 1) })) := Lib.hid (by unfold DK.begin; rw [if_neg (fun e => h0 e.2), hl]; rfl)
      have h0' : (d.limit == 0) = false := by simpa using h0
      go_enter Tryd.func57, Tryd.ntmps57
      go_wp2
      go_ret
      have hk : Keep [p] w ((w.setCell ⟨p, 7, none⟩ (.int .i64 (wrap64 (d.limit - 1)))).setCell ⟨p, 1, none⟩ (.int .i64 (wrap64 (d.ops + 1)))) := ((Keep.refl _ _).setCell (by simp) _).setCell (by simp) _
      refine ⟨by rw [hr.out]; rfl, by rw [hr.out]; exact h.turn hk rfl rfl (heap_setCell_same _ p 1 _ _ _ (heap_setCell_same w p 7 _ _ _ hp)), hk⟩
  | false =>
    rw [hl] at hc5
    have hr : Hid (d.begin = (0, { d with ops := wrap64 (d.ops + 1) })) := Lib.hid (by unfold DK.begin; rw [if_neg (fun e => by rw [hl] at e; cases e.1), hl]; rfl)
    go_enter Tryd.func57, Tryd.ntmps57
    go_wp2
    go_ret
    have hk : Keep [p] w (w.setCell ⟨p, 1, none⟩ (.int .i64 (wrap64 (d.ops + 1)))) := (Keep.refl _ _).setCell (by simp) _
    refine ⟨by rw [hr.out]; rfl, by rw [hr.out]; exact h.turn hk rfl rfl (heap_setCell_same w p 1 _ _ _ hp), hk⟩

/-- a device, its maps named -/
def DiskM (w : World) (p : Nat) (d : DK) (m1 m2 : Nat) (F : List Nat) : Prop := ∃ v, DiskIs w p d m1 v m2 ∧ p ∈ F ∧ m1 ∈ F ∧ m2 ∈ F ∧ ∀ k, v.ownBlock = some k → k ∈ F
theorem DiskM.at {w : World} {p : Nat} {d : DK} {m1 m2 : Nat} {F : List Nat} (h : DiskM w p d m1 m2 F) : DiskAt w p d F := by
  obtain ⟨v, hi, j1, j2, j3, j4⟩ := h
  exact hi.at j1 j2 j3 j4
theorem DiskAt.m {w : World} {p : Nat} {d : DK} {F : List Nat} (h : DiskAt w p d F) : ∃ m1 m2, DiskM w p d m1 m2 F := by
  obtain ⟨m1, v, m2, hi, j⟩ := h.is
  exact ⟨m1, m2, v, hi, j⟩
theorem DiskM.keep {F G : List Nat} {w w' : World} {p : Nat} {d : DK} {m1 m2 : Nat} (h : DiskM w p d m1 m2 F) (hk : Keep G w w') (hd : ∀ x ∈ F, x ∉ G) : DiskM w' p d m1 m2 F := by
  obtain ⟨v, hi, j1, j2, j3, j4⟩ := h
  exact ⟨v, hi.keep hk (hd _ j1) (hd _ j2) (hd _ j3) (fun k hk' e => hd k (j4 k e) hk'), j1, j2, j3, j4⟩

set_option maxRecDepth 100000 in
set_option maxHeartbeats 4000000 in
theorem write_m {F : List Nat} {w : World} {p : Nat} {d : DK} {n1 n2 : Nat} (hM : DiskM w p d n1 n2 F) (b : Int) (c : List UInt8) (g : Nat) (t : TypeId) (fr : Nat × Nat) (hrow : w.heap[g]? = some (.cells (cellsOf c) t fr)) (hgF : g ∉ F) (hc : c.length = 512) (hd : d.down = false) (hb : d.has b = true) (hlen : d.pend.length ≤ 100000000) :
    Calls Tryd.prog 33 #[.pointer (some ⟨p, 0, none⟩), .int .i64 b, .slice (some ⟨g, 0, none⟩) 512 512] w fun e w' => e = .returned (.int .i64 (d.write b c).1) ∧ ∃ F', DiskM w' p (d.write b c).2 n1 n2 F' ∧ Keep F w w' ∧ ∀ x ∈ F', x ∈ F ∨ w.heap.size ≤ x := by
  have h := hM.at
  obtain ⟨v1, hi, j1, j2, j3, j4⟩ := hM
  have hp := hi.row
  have hc6 := cell_row' (j := 6) hp
  rw [hd] at hc6
  have hpF := j1
  rcases d.begin_err with he | he
  · have hr : Hid (d.write b c = (0, { d.begin.2 with pend := d.pend ++ [(b, c)] })) := Lib.hid (by unfold DK.write; rw [if_neg (by rw [hd]; simp), if_neg (by rw [hb]; simp), if_neg (by simpa using hc), if_neg (by rw [he]; simp)])
    obtain ⟨hbp, hbd⟩ := d.begin_pend
    go_enter Tryd.func33, Tryd.ntmps33
    go_wp2_with (first
      | (go_at_call 56; refine (has_any h b).mono ?_; rw [hb]; rintro e w0 ⟨rfl, h0⟩; obtain rfl : w = w0 := h0.symm)
      | (go_at_call 57; refine (begin_is hi).mono ?_; rw [he]; rintro e w1 ⟨rfl, hi1, hk1⟩
         have hq3 := cell_row' (j := 3) hi1.row
         have hq4 := cell_row' (j := 4) hi1.row
         obtain ⟨sa, sn, sc, rfl⟩ : ∃ a n c, v1 = .slice a n c := by
           rcases hi1.pend.cases hi1.ok.pend with ⟨rfl, _⟩ | ⟨g, cap, cur, rfl, _⟩
           · exact ⟨_, _, _, rfl⟩
           · exact ⟨_, _, _, rfl⟩
         have hsn : sn = d.pend.length := by
           rcases hi1.pend.cases hi1.ok.pend with ⟨e, h0⟩ | ⟨g, cap, cur, e, _⟩
           · rw [hbp] at h0; injection e with _ e _; rw [h0, e]; rfl
           · rw [hbp] at e; injection e
         subst hsn))
    go_still_tail 10, (by kernel_rfl)
    change wpList _ _ _ _ _ w1.drew
    have hl1 : MapAt w1.drew n2 _ := hi1.last
    have q1 := hi1.p1
    have q2 := hi1.p2
    have q3 := hi1.pv
    go_wp2_with (refine wpList_mapUpdateI rfl rfl 82 (.tmp 33) (.tmp 34) (.tmp 39) rfl 3 3 n2 _ b Tryd.underlying82 Tryd.underlying3 hl1 rfl rfl ?_; intro w2 hm2 hk2)
    have hk02 : Keep [p, n2] w2 w2 := Keep.refl _ _
    have hr2 := hk2.get (k := p) hi1.row (by simpa using fun e => q2 e.symm)
    have hd3 := cell_row' (j := 3) hr2
    have hf3 := frozen_row' (j := 3) hr2
    have hpd2 : PendAt w2 (.slice sa d.pend.length sc) d.pend := by
      have := hi1.pend
      rw [hbp] at this
      exact PendAt.keep (w := w1) (F := [n2]) this hk2.drew' (by simpa using q3.2.2)
    have hg1 : w1.heap[g]? = some (.cells (cellsOf c) t fr) := hk1.get hrow (by simp; intro e; exact hgF (e ▸ hpF))
    have hg2 : w2.heap[g]? = some (.cells (cellsOf c) t fr) := hk2.get hg1 (by simp; intro e; exact hgF (e ▸ j3))
    have hgo : objAt w2 g = some (.cells (cellsOf c) t fr) := hg2
    have hsz : (cellsOf c).size = 512 := by rw [cellsOf_size, hc]
    have hex : (cellsOf c).extract 0 512 = cellsOf c := by rw [← hsz]; simp
    have harr : ∀ W : World, (Instr.arrayAt 96 (.slice (some ⟨g, 0, none⟩) 512 512)).run Tryd.prog W = .ok (.pointer (some ⟨g, 0, none⟩)) W := fun W => by
      simp [Instr.arrayAt, run_underlying Tryd.underlying96]
    have hR : builtW (.int .i64 b) (.agg (cellsOf c)) = (writeCells (b, c)).toArray := by
      apply Array.ext'
      simp [builtW, writeCells, cellsOf, Value.cells]
    have hok1 : okW (.int .i64 b) (.agg (cellsOf c)) = true := by
      simp [okW, Value.cells, hc]
    have hsR := writeCells_size (x := (b, c)) hc
    have HW1 : Hid (∀ A : World, A.heap[0]? = A.heap[0]?) := Lib.hid (fun _ => rfl)
    obtain ⟨R, hRR⟩ : ∃ R, R = (writeCells (b, c)).toArray := ⟨_, rfl⟩
    rw [← hRR] at hR hsR
    have hok2 : okB (.agg R) = true := by simp [okB, Value.cells, hsR]
    have hcR : (Value.agg R).cells = R := rfl
    have HR := Lib.hid hRR
    clear hRR
    have hkA : ∀ A : Obj, Keep [] w2 (w2.drew.alloc A) := fun A => ((Keep.refl [] w2).drew).alloc A
    have HPD : Hid (∀ A : Obj, PendAt (w2.drew.alloc A) (.slice sa d.pend.length sc) d.pend) := Lib.hid (fun A => hpd2.keep (hkA A) (by simp))
    have HRA : Hid ((w2.drew.alloc (.cells R 98)).heap[w2.heap.size]? = some (.cells (writeCells (b, c)).toArray 98 (0, 0))) := Lib.hid (by rw [← HR.out]; exact heap_alloc_new w2.drew _)
    have HPR : Hid (∀ (A : Obj) (w3 : World), (w2.drew.alloc A).grownBy w3 (Value.slice sa d.pend.length sc).ownBlock → w3.heap[p]? = w2.heap[p]?) := Lib.hid (fun A w3 hg => by
      have hlt : p < (w2.drew.alloc A).heap.size := by rw [World.size_alloc]; exact Nat.lt_succ_of_lt (lt_of_heap hr2)
      rw [hg.block p hlt (fun e => q3.1 e.symm)]
      exact heap_alloc_past (lt_of_heap hr2))
    have hd3A : ∀ A : Obj, (w2.alloc A).cell? ⟨p, 3, none⟩ = some (.slice sa d.pend.length sc) := fun A => by
      rw [cell_row' (j := 3) ((heap_alloc_past (lt_of_heap hr2)).trans hr2)]; rfl
    go_region_law (first
      | (refine step_append_pend rfl (.tmp 44) (.tmp 50) rfl (.slice sa d.pend.length sc) d.pend rfl (HPD.out _) (b, c) hc w2.heap.size (0, 0) HRA.out rfl hlen ?_
         intro v3 w3 hp3 hg3 hv3
         have hr3 := (HPR.out _ _ hg3).trans hr2
         have hd33 := cell_row' (j := 3) hr3
         have hf33 := frozen_row' (j := 3) hr3
         obtain ⟨ta, tn, tc, rfl⟩ : ∃ a n c, v3 = .slice a n c := by
           rcases hp3.2 with ⟨e, _⟩ | ⟨g, cap, cur, e, _⟩
           · exact ⟨_, _, _, e⟩
           · exact ⟨_, _, _, e⟩
         have HP3 := Lib.hid hp3
         have HG3 := Lib.hid hg3
         have HV3 := Lib.hid hv3
         have HR3 := Lib.hid hr3
         clear hp3 hg3 hv3 hr3))
    all_goals
      go_wp2
      go_ret
      have hpl1 : p < w2.heap.size := lt_of_heap hr2
      have hws : w.heap.size ≤ w2.heap.size := Nat.le_trans hk1.size hk2.size
      have hk3 : Keep (Value.slice sa d.pend.length sc).ownBlock.toList w2 w3 := ((hkA _).mono (F' := (Value.slice sa d.pend.length sc).ownBlock.toList) (by simp)).grown HG3.out (fun k e => Or.inl (by rw [e]; simp))
      have hk4 : Keep [p] w3 (w3.setCell ⟨p, 3, none⟩ (.slice ta tn tc)) := (Keep.refl _ _).setCell (by simp) _
      have hr4 := heap_setCell_same w3 p 3 _ _ (.slice ta tn tc) HR3.out
      have hvp : (Value.slice ta tn tc).ownBlock ≠ some p := fun e => by
        rcases HV3.out with h | ⟨k, h, hk⟩
        · exact q3.1 (h ▸ e)
        · rw [h] at e
          injection e with e
          have hk : (w2.drew.alloc (.cells R 98)).heap.size ≤ k := hk
          rw [World.size_alloc] at hk
          have : w2.drew.heap.size = w2.heap.size := rfl
          omega
      obtain ⟨f1, hd1, hd2⟩ := hi1.dur
      have hne1 : n1 ∉ (Value.slice sa d.pend.length sc).ownBlock.toList := by simpa using q3.2.1
      have hne2 : n2 ∉ (Value.slice sa d.pend.length sc).ownBlock.toList := by simpa using q3.2.2
      have hD : DiskIs (w3.setCell ⟨p, 3, none⟩ (.slice ta tn tc)) p { d.begin.2 with pend := d.pend ++ [(b, c)] } n1 (.slice ta tn tc) n2 := by
        refine ⟨hr4, ⟨f1, ((hd1.keep hk2.drew' (by simpa using hi1.ne)).keep hk3 hne1).keep hk4 (by simpa using q1), hd2⟩, ?_, HP3.out.keep hk4 (by simpa using fun e => hvp e), hi1.ne, ⟨hi1.ok.dur, fun x hx => ?_⟩⟩
        · have := (hm2.keep hk3 hne2).keep hk4 (by simpa using q2)
          refine this.congr (fun j => ?_)
          show _ = Option.map _ (lastIx (d.pend ++ [(b, c)]) j)
          rw [lastIx_snoc, hbp]
          by_cases hj : j = b
          · subst hj; simp; rfl
          · rw [if_neg hj, if_neg (fun e => hj e.symm)]
        · rcases List.mem_append.1 hx with hx | hx
          · exact h.okd.pend x hx
          · rw [List.mem_singleton.1 hx]; exact hc
      refine ⟨by rw [hr.out]; rfl, F ++ (Value.slice ta tn tc).ownBlock.toList, by rw [hr.out]; exact ⟨_, hD, by simp [j1], by simp [j2], by simp [j3], fun k e => by rw [e]; simp⟩, ?_, fun x hx => ?_⟩
      · have k1 : Keep F w w1 := hk1.mono (fun x hx => Or.inl (by rw [List.mem_singleton.1 hx]; exact j1))
        have k2 : Keep F w w2 := k1.trans hk2.drew' (fun x hx => Or.inl (by rw [List.mem_singleton.1 hx]; exact j3))
        have k3 : Keep F w w3 := k2.trans hk3 (fun x hx => Or.inl (j4 x (by simpa using hx)))
        exact k3.trans hk4 (fun x hx => Or.inl (by rw [List.mem_singleton.1 hx]; exact j1))
      · rcases List.mem_append.1 hx with hx | hx
        · exact Or.inl hx
        · have hx' : (Value.slice ta tn tc).ownBlock = some x := by simpa using hx
          rcases HV3.out with h | ⟨k, h, hk⟩
          · exact Or.inl (j4 x (h ▸ hx'))
          · rw [h] at hx'
            injection hx' with e
            have hk : (w2.drew.alloc (.cells R 98)).heap.size ≤ k := hk
            rw [World.size_alloc] at hk
            have : w2.drew.heap.size = w2.heap.size := rfl
            exact Or.inr (by omega)
  · have hr : Hid (d.write b c = d.begin) := Lib.hid (by unfold DK.write; rw [if_neg (by rw [hd]; simp), if_neg (by rw [hb]; simp), if_neg (by simpa using hc), if_pos (by rw [he]; simp)])
    go_enter Tryd.func33, Tryd.ntmps33
    go_wp2_with (first
      | (go_at_call 56; refine (has_any h b).mono ?_; rw [hb]; rintro e w0 ⟨rfl, h0⟩; obtain rfl : w = w0 := h0.symm)
      | (go_at_call 57; refine (begin_is hi).mono ?_; rw [he]; rintro e w1 ⟨rfl, hi1, hk1⟩))
    go_ret
    exact ⟨by rw [hr.out, he]; rfl, F, by rw [hr.out]; exact ⟨_, hi1, j1, j2, j3, j4⟩, hk1.mono (fun x hx => Or.inl (by rw [List.mem_singleton.1 hx]; exact hpF)), fun x hx => Or.inl hx⟩
theorem write_any {F : List Nat} {w : World} {p : Nat} {d : DK} (h : DiskAt w p d F) (b : Int) (c : List UInt8) (g : Nat) (t : TypeId) (fr : Nat × Nat) (hrow : w.heap[g]? = some (.cells (cellsOf c) t fr)) (hgF : g ∉ F) (hc : c.length = 512) (hd : d.down = false) (hb : d.has b = true) (hlen : d.pend.length ≤ 100000000) :
    Calls Tryd.prog 33 #[.pointer (some ⟨p, 0, none⟩), .int .i64 b, .slice (some ⟨g, 0, none⟩) 512 512] w fun e w' => e = .returned (.int .i64 (d.write b c).1) ∧ ∃ F', DiskAt w' p (d.write b c).2 F' ∧ Keep F w w' ∧ ∀ x ∈ F', x ∈ F ∨ w.heap.size ≤ x := by
  obtain ⟨m1, m2, hM⟩ := h.m
  refine (write_m hM b c g t fr hrow hgF hc hd hb hlen).mono ?_
  rintro e w' ⟨he, F', hm, hk, hF⟩
  exact ⟨he, F', hm.at, hk, hF⟩
end
end Go.Proofs.YtgopdbpddemplaaDoor
