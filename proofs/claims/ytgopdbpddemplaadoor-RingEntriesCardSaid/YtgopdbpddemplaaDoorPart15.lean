/- ring: areaOf. · ring: body. · ring: a head's bytes. -/
import Derived.Test.YtgopdbpddemplaaDoorPart14
set_option linter.unusedSimpArgs false
set_option linter.unusedVariables false
namespace Go.Proofs.YtgopdbpddemplaaDoor
section
/- ring: areaOf. -/
open Go.RowKit

/-- the area of a range of blocks -/
def areaN (p : Nat) (first blocks : Int) : AR := ⟨p, first.toNat, (blocks - 2).toNat⟩
def areaErr (d : DK) (first blocks : Int) : Int := if first < 0 ∨ blocks < 4 ∨ blocks > d.blocks - first then 2 else if d.down = true then 29 else 0
def zeroA : Array Value := #[.pointer none, .int .i64 0, .int .i64 0]

def areaR (d : DK) (p : Nat) (first blocks : Int) : Value := .tuple #[.agg (if areaErr d first blocks = 0 then (areaN p first blocks).cells else zeroA), .int .i64 (areaErr d first blocks)]

set_option maxRecDepth 100000 in
set_option maxHeartbeats 1000000 in
theorem areaOf_any {F : List Nat} {w : World} {p : Nat} {d : DK} (h : DiskAt w p d F) (first blocks : Int) (hb0 : 0 ≤ d.blocks) (hb1 : d.blocks ≤ 8192) (hf : first ≤ 9223372036854775807) :
    Calls Tryd.prog 28 #[.pointer (some ⟨p, 0, none⟩), .int .i64 first, .int .i64 blocks] w fun e w' =>
      e = .returned (areaR d p first blocks) ∧ Keep [] w w' := by
  have hk0 : Keep [] w (w.alloc (.cells zeroA 63)) := (Keep.refl _ _).alloc _
  have hD := h.keep hk0 (by simp)
  unfold zeroA at hk0 hD
  by_cases c1 : first < 0
  · have HE : Hid (areaR d p first blocks = .tuple #[.agg zeroA, .int .i64 2]) := Lib.hid (by unfold areaR; rw [show areaErr d first blocks = 2 by unfold areaErr; rw [if_pos (Or.inl c1)]]; rfl)
    go_enter Tryd.func28, Tryd.ntmps28
    go_wp2_with (first
      | (go_at_call 52; refine (blocks_any hD).mono ?_; rintro e w1 ⟨rfl, hw1⟩; obtain rfl := hw1.symm)
      | (go_at_call 53; refine (down_any hD).mono ?_; rintro e w1 ⟨rfl, hw1⟩; obtain rfl := hw1.symm))
    exact bodyPost_ret (results_cell_tmp_row rfl _ _ w.heap.size _ _ _ _ rfl (heap_alloc_new w _) Tryd.underlying63 rfl (by kernel_rfl)) rfl ⟨by rw [HE.out]; rfl, hk0⟩
  · have c1' : 0 ≤ first := by omega
    have hw64 : wrap64 (d.blocks - first) = d.blocks - first := by unfold wrap64; omega
    by_cases c2 : blocks < 4
    · have HE : Hid (areaR d p first blocks = .tuple #[.agg zeroA, .int .i64 2]) := Lib.hid (by unfold areaR; rw [show areaErr d first blocks = 2 by unfold areaErr; rw [if_pos (Or.inr (Or.inl c2))]]; rfl)
      go_enter Tryd.func28, Tryd.ntmps28
      go_wp2_with (first
        | (go_at_call 52; refine (blocks_any hD).mono ?_; rintro e w1 ⟨rfl, hw1⟩; obtain rfl := hw1.symm)
        | (go_at_call 53; refine (down_any hD).mono ?_; rintro e w1 ⟨rfl, hw1⟩; obtain rfl := hw1.symm))
      exact bodyPost_ret (results_cell_tmp_row rfl _ _ w.heap.size _ _ _ _ rfl (heap_alloc_new w _) Tryd.underlying63 rfl (by kernel_rfl)) rfl ⟨by rw [HE.out]; rfl, hk0⟩
    · have c2' : 4 ≤ blocks := by omega
      by_cases c3 : blocks > d.blocks - first
      · have HE : Hid (areaR d p first blocks = .tuple #[.agg zeroA, .int .i64 2]) := Lib.hid (by unfold areaR; rw [show areaErr d first blocks = 2 by unfold areaErr; rw [if_pos (Or.inr (Or.inr c3))]]; rfl)
        have c3' : d.blocks - first < blocks := c3
        go_enter Tryd.func28, Tryd.ntmps28
        go_wp2_with (first
          | (go_at_call 52; refine (blocks_any hD).mono ?_; rintro e w1 ⟨rfl, hw1⟩; obtain rfl := hw1.symm)
          | (go_at_call 53; refine (down_any hD).mono ?_; rintro e w1 ⟨rfl, hw1⟩; obtain rfl := hw1.symm))
        exact bodyPost_ret (results_cell_tmp_row rfl _ _ w.heap.size _ _ _ _ rfl (heap_alloc_new w _) Tryd.underlying63 rfl (by kernel_rfl)) rfl ⟨by rw [HE.out]; rfl, hk0⟩
      · have c3' : blocks ≤ d.blocks - first := by omega
        cases hdn : d.down with
        | true =>
          have HE : Hid (areaR d p first blocks = .tuple #[.agg zeroA, .int .i64 29]) := Lib.hid (by unfold areaR; rw [show areaErr d first blocks = 29 by unfold areaErr; rw [if_neg (by omega), if_pos hdn]]; rfl)
          go_enter Tryd.func28, Tryd.ntmps28
          go_wp2_with (first
            | (go_at_call 52; refine (blocks_any hD).mono ?_; rintro e w1 ⟨rfl, hw1⟩; obtain rfl := hw1.symm)
            | (go_at_call 53; refine (down_any hD).mono ?_; rw [hdn]; rintro e w1 ⟨rfl, hw1⟩; obtain rfl := hw1.symm))
          exact bodyPost_ret (results_cell_tmp_row rfl _ _ w.heap.size _ _ _ _ rfl (heap_alloc_new w _) Tryd.underlying63 rfl (by kernel_rfl)) rfl ⟨by rw [HE.out]; rfl, hk0⟩
        | false =>
          have HE : Hid (areaR d p first blocks = .tuple #[.agg #[.pointer (some ⟨p, 0, none⟩), .int .i64 first, .int .i64 (blocks - 2)], .int .i64 0]) := Lib.hid (by
            unfold areaR
            rw [show areaErr d first blocks = 0 by unfold areaErr; rw [if_neg (by omega), if_neg (by rw [hdn]; simp)]]
            have e1 : ((first.toNat : Nat) : Int) = first := by omega
            have e2 : (((blocks - 2).toNat : Nat) : Int) = blocks - 2 := by omega
            simp [areaN, AR.cells, e1, e2])
          go_enter Tryd.func28, Tryd.ntmps28
          go_wp2_with (first
            | (go_at_call 52; refine (blocks_any hD).mono ?_; rintro e w1 ⟨rfl, hw1⟩; obtain rfl := hw1.symm)
            | (go_at_call 53; refine (down_any hD).mono ?_; rw [hdn]; rintro e w1 ⟨rfl, hw1⟩; obtain rfl := hw1.symm))
          exact bodyPost_ret (results_cell_tmp_row rfl _ _ w.heap.size _ _ _ _ rfl (heap_alloc_new w _) Tryd.underlying63 rfl (by kernel_rfl)) rfl ⟨by rw [HE.out]; rfl, (Keep.refl _ _).alloc _⟩
end

section
/- ring: body. -/
open Go.RowKit

theorem decodeF_prefix (x y : List UInt8) (h : decodeF x ≠ .error 28) : decodeF (x ++ y) = decodeF x := by
  have hx : x ≠ [] := fun e => h (by subst e; rfl)
  have hxl : 0 < x.length := List.length_pos_iff.2 hx
  have hg : (x ++ y).getD 0 0 = x.getD 0 0 := by simp [List.getD_eq_getElem?_getD, List.getElem?_append_left hxl]
  have hne : x ++ y ≠ [] := by simp [hx]
  by_cases c1 : x.getD 0 0 ≠ 245
  · unfold decodeF
    simp only [if_neg hx, if_neg hne, hg, if_pos c1]
  · have c1' : ¬ (x ++ y).getD 0 0 ≠ 245 := by rw [hg]; exact c1
    by_cases c2 : x.length < 26
    · exfalso
      apply h
      unfold decodeF
      simp only [if_neg hx, if_neg c1, if_pos c2]
    · have c2' : ¬ (x ++ y).length < 26 := by rw [List.length_append]; omega
      have e1 : (x ++ y).take 18 = x.take 18 := List.take_append_of_le_length (by omega)
      have e2 : ((x ++ y).drop 18).take 8 = (x.drop 18).take 8 := by
        rw [List.drop_append_of_le_length (by omega), List.take_append_of_le_length (by rw [List.length_drop]; omega)]
      unfold decodeF at h ⊢
      simp only [if_neg hx, if_neg hne, if_neg c1, if_neg c1', if_neg c2, if_neg c2', e1, e2] at h ⊢
      split
      · rfl
      · split
        · rfl
        · split
          · rfl
          · rename_i q1 q2 q3
            rw [if_neg q1, if_neg q2, if_neg q3] at h
            generalize beVal (((x.take 18).drop 14).take 4) = n at h q3 ⊢
            by_cases c3 : x.length < 26 + n + 16
            · rw [if_pos c3] at h; exact absurd rfl h
            · rw [if_neg c3, if_neg (show ¬ (x ++ y).length < 26 + n + 16 by rw [List.length_append]; omega)]
              have e3 : ((x ++ y).drop 26).take n = (x.drop 26).take n := by
                rw [List.drop_append_of_le_length (by omega), List.take_append_of_le_length (by rw [List.length_drop]; omega)]
              have e4 : ((x ++ y).drop (26 + n)).take 16 = (x.drop (26 + n)).take 16 := by
                rw [List.drop_append_of_le_length (by omega), List.take_append_of_le_length (by rw [List.length_drop]; omega)]
              rw [e3, e4]

def blocksN (size : Nat) : Nat := (size - 1 + 511 - 1) / 511
/-- the frame of the kind Body with which the piece at a place begins, and its blocks -/
def bodyF (d : DK) (a : AR) (place : Nat) : Option (FrameV × Nat) :=
  match decodeF (pieceF d a place (List.range a.places)) with
  | .ok (f, size) => if f.kind = 2 then some (f, blocksN size) else none
  | .error _ => none
def bodyV : Option (FrameV × Nat) → Value
  | some (f, n) => .tuple #[f.value, .int .i64 n, .int .i64 0]
  | none => .tuple #[zeroF.value, .int .i64 0, .int .i64 0]
theorem bodyF_at (d : DK) (a : AR) (place n : Nat) (hn : n ≤ a.places) (h : n = a.places ∨ decodeF (pieceF d a place (List.range n)) ≠ .error 28) :
    decodeF (pieceF d a place (List.range a.places)) = decodeF (pieceF d a place (List.range n)) := by
  rcases h with rfl | h
  · rfl
  · obtain ⟨k, hk⟩ : ∃ k, a.places = n + k := ⟨a.places - n, by omega⟩
    rw [hk]
    have : pieceF d a place (List.range (n + k)) = pieceF d a place (List.range n) ++ pieceF d a place ((List.range k).map (n + ·)) := by
      unfold pieceF
      rw [List.range_add, List.map_append, List.flatten_append]
    rw [this]
    exact decodeF_prefix _ _ h

theorem DiskAt.keep0 {F : List Nat} {w w' : World} {p : Nat} {d : DK} (h : DiskAt w p d F) (hk : Keep [] w w') : DiskAt w' p d F := h.keep hk (by simp)
theorem FrameV.val (f : FrameV) : f.value = .agg #[.int .i64 f.kind, .int .i64 f.stream, .int .i64 f.number, .string ⟨f.payload.toArray⟩] := rfl
theorem decodeF_err {x : List UInt8} {e : Int} (h : decodeF x = .error e) : e ≠ 0 := by
  unfold decodeF at h
  simp only at h
  repeat' split at h
  all_goals first | (injection h with h; omega) | cases h
theorem decodeF_lt {x : List UInt8} {f : FrameV} {s : Nat} (h : decodeF x = .ok (f, s)) : 42 ≤ s ∧ s ≤ x.length ∧ s ≤ 262186 := by
  unfold decodeF at h
  simp only at h
  repeat' split at h
  all_goals first | (cases h; done) | skip
  cases h
  omega

set_option maxRecDepth 100000 in
set_option maxHeartbeats 2000000 in
theorem body_ok {F : List Nat} {w : World} {d : DK} {a : AR} (hG : Glob w) (h : DiskAt w a.p d F) (hd : d.down = false) (ha : a.ok) (hf : a.fits d) (place : Nat) (hp : place ≤ 1000000) :
    Calls Tryd.prog 35 #[.agg a.cells, .int .i64 place] w fun e w' => e = .returned (bodyV (bodyF d a place)) ∧ Keep [] w w' := by
  have ha1 := ha.2.1
  have ha2 := ha.2.2
  unfold AR.cells
  go_enter Tryd.func35, Tryd.ntmps35
  go_wp2
  obtain ⟨W0, hW0⟩ : ∃ W0, W0 = (w.alloc (.cells #[.pointer (some ⟨a.p, 0, none⟩), .int .i64 a.first, .int .i64 a.places] 63)).alloc (.cells #[.int .i64 0, .int .i64 0, .int .i64 0, .string ⟨#[]⟩] 78) := ⟨_, rfl⟩
  rw [← hW0]
  have hK0 : Keep [] w W0 := by rw [hW0]; exact ((Keep.refl [] w).alloc _).alloc _
  have rA : W0.heap[w.heap.size]? = some (.cells #[.pointer (some ⟨a.p, 0, none⟩), .int .i64 a.first, .int .i64 a.places] 63 (0, 0)) := by rw [hW0]; exact (heap_alloc_past (by simp)).trans (heap_alloc_new w _)
  have rR : W0.heap[w.heap.size + 1]? = some (.cells #[.int .i64 0, .int .i64 0, .int .i64 0, .string ⟨#[]⟩] 78 (0, 0)) := by rw [hW0]; exact heap_alloc_at (by simp)
  have HW0 := Lib.hid hW0
  clear hW0
  go_loopw [7] (fun i wr => ∃ n : Nat, i = .int .i64 n ∧ 1 ≤ n ∧ n ≤ a.places ∧ Keep [] W0 wr) (fun i _ => a.places - (intOf i).toNat)
  case atStart => exact ⟨1, rfl, by omega, ha1, Keep.refl _ _⟩
  case round =>
    obtain ⟨n, rfl, h1, h2, hk⟩ := hrel
    have hDW := (h.keep0 hK0).keep0 hk
    have hGW := (hG.keep0 hK0).keep0 hk
    have cA : wr.cell? ⟨w.heap.size, 2, none⟩ = some (.int .i64 a.places) := (cell_row' (j := 2) (hk.get rA (by simp))).trans rfl
    have cA0 : wr.cell? ⟨w.heap.size, 0, none⟩ = some (.pointer (some ⟨a.p, 0, none⟩)) := (cell_row' (j := 0) (hk.get rA (by simp))).trans rfl
    have cA1 : wr.cell? ⟨w.heap.size, 1, none⟩ = some (.int .i64 a.first) := (cell_row' (j := 1) (hk.get rA (by simp))).trans rfl
    have hXl := pieceF_length d hDW.okd a place (List.range n)
    rw [List.length_range] at hXl
    have hXl : (pieceF d a place (List.range n)).length ≤ 1099511627776 := by omega
    have hat := bodyF_at d a place n h2
    have HAT : Hid (n = a.places ∨ decodeF (pieceF d a place (List.range n)) ≠ .error 28 → bodyF d a place = match decodeF (pieceF d a place (List.range n)) with | .ok (f, size) => if f.kind = 2 then some (f, blocksN size) else none | .error _ => none) := Lib.hid (fun hh => by unfold bodyF; rw [hat hh])
    clear hat
    obtain ⟨X, hX⟩ : ∃ X, pieceF d a place (List.range n) = X := ⟨_, rfl⟩
    rw [hX] at hXl HAT
    have HX := Lib.hid hX
    clear hX
    cases hdec : decodeF X with
    | error e0 =>
      by_cases c28 : e0 = 28
      · subst c28
        by_cases clt : n < a.places
        · have clt' : (n : Int) < a.places := by omega
          go_wp2_with (first
            | (go_at_call 61; refine (piece_ok hDW hd ha hf place n hp (by omega)).mono ?_; rw [HX.out]; unfold str; rintro e w1 ⟨rfl, hk1⟩)
            | (go_at_call 62; refine (decode_any X w1 (hGW.keep0 hk1) hXl).mono ?_; rw [hdec]; rintro e w2 ⟨rfl, hk2⟩; simp only [decodeV, FrameV.val]
               have hkw2 : Keep [] W0 w2 := (hk.then hk1).then hk2
               have kA : ∀ A : Obj, Keep [] W0 (w2.alloc A) := fun A => hkw2.alloc A)
            | (refine wpList_store_part rfl rfl 78 (.tmp 10) (.tmp 31) rfl w2.heap.size 0 rfl #[.int .i64 zeroF.kind, .int .i64 zeroF.stream, .int .i64 zeroF.number, .string ⟨zeroF.payload.toArray⟩] rfl 78 _ (heap_alloc_new w2 _) (by kernel_rfl) (by simp) (by simp [Value.oneCell']) ?_; intro w3 hk3 hh3
               have hkw3 : Keep [] W0 w3 := hkw2.trans (((Keep.refl [w2.heap.size] w2).alloc _).trans hk3 (by simp)) (fun x hx => Or.inr (by rw [List.mem_singleton.1 hx]; exact hkw2.size))
               have rA3 := hkw3.get rA (by simp)
               have rR3 := hkw3.get rR (by simp)
               have cA3 : w3.cell? ⟨w.heap.size, 2, none⟩ = some (.int .i64 a.places) := (cell_row' (j := 2) rA3).trans rfl
               have cK3 : w3.cell? ⟨w2.heap.size, 0, none⟩ = some (.int .i64 zeroF.kind) := by rw [cell_row' (j := 0) hh3]; simp [over])
            | (refine wpList_store_part rfl rfl 78 (.tmp 4) (.tmp 51) rfl (w.heap.size + 1) 0 rfl #[.int .i64 0, .int .i64 0, .int .i64 0, .string ⟨#[]⟩] rfl 78 _ rR3 (by kernel_rfl) (by simp) (by simp [Value.oneCell']) ?_; intro w4 hk4 hh4))
          refine ⟨⟨min (2 * n) a.places, by congr 1; omega, by omega, by omega, hkw3⟩, by simp [intOf]; omega⟩
        · have clt' : ¬ (n : Int) < a.places := by omega
          have HB : Hid (bodyF d a place = none) := Lib.hid (by rw [HAT.out (Or.inl (by omega)), hdec])
          go_wp2_with (first
            | (go_at_call 61; refine (piece_ok hDW hd ha hf place n hp (by omega)).mono ?_; rw [HX.out]; unfold str; rintro e w1 ⟨rfl, hk1⟩)
            | (go_at_call 62; refine (decode_any X w1 (hGW.keep0 hk1) hXl).mono ?_; rw [hdec]; rintro e w2 ⟨rfl, hk2⟩; simp only [decodeV, FrameV.val]
               have hkw2 : Keep [] W0 w2 := (hk.then hk1).then hk2
               have kA : ∀ A : Obj, Keep [] W0 (w2.alloc A) := fun A => hkw2.alloc A)
            | (refine wpList_store_part rfl rfl 78 (.tmp 10) (.tmp 31) rfl w2.heap.size 0 rfl #[.int .i64 zeroF.kind, .int .i64 zeroF.stream, .int .i64 zeroF.number, .string ⟨zeroF.payload.toArray⟩] rfl 78 _ (heap_alloc_new w2 _) (by kernel_rfl) (by simp) (by simp [Value.oneCell']) ?_; intro w3 hk3 hh3
               have hkw3 : Keep [] W0 w3 := hkw2.trans (((Keep.refl [w2.heap.size] w2).alloc _).trans hk3 (by simp)) (fun x hx => Or.inr (by rw [List.mem_singleton.1 hx]; exact hkw2.size))
               have rA3 := hkw3.get rA (by simp)
               have rR3 := hkw3.get rR (by simp)
               have cA3 : w3.cell? ⟨w.heap.size, 2, none⟩ = some (.int .i64 a.places) := (cell_row' (j := 2) rA3).trans rfl
               have cK3 : w3.cell? ⟨w2.heap.size, 0, none⟩ = some (.int .i64 zeroF.kind) := by rw [cell_row' (j := 0) hh3]; simp [over])
            | (refine wpList_store_part rfl rfl 78 (.tmp 4) (.tmp 51) rfl (w.heap.size + 1) 0 rfl #[.int .i64 0, .int .i64 0, .int .i64 0, .string ⟨#[]⟩] rfl 78 _ rR3 (by kernel_rfl) (by simp) (by simp [Value.oneCell']) ?_; intro w4 hk4 hh4))
          rw [over_full _ _ (by simp)] at hh4
          exact bodyPost_ret (results_cell_tmps_row rfl _ _ (w.heap.size + 1) _ _ _ _ rfl hh4 Tryd.underlying78 rfl (by kernel_rfl)) rfl ⟨by rw [HB.out]; rfl, (hK0.then hkw3).trans hk4 (by simp)⟩
      · have he0 := decodeF_err hdec
        have hb1 : (e0 == 28) = false := by simpa using c28
        have hb2 : (e0 == 0) = false := by simpa using he0
        have HB : Hid (bodyF d a place = none) := Lib.hid (by rw [HAT.out (Or.inr (by rw [hdec]; simpa using c28)), hdec])
        go_wp2_with (first
          | (go_at_call 61; refine (piece_ok hDW hd ha hf place n hp (by omega)).mono ?_; rw [HX.out]; unfold str; rintro e w1 ⟨rfl, hk1⟩)
          | (go_at_call 62; refine (decode_any X w1 (hGW.keep0 hk1) hXl).mono ?_; rw [hdec]; rintro e w2 ⟨rfl, hk2⟩; simp only [decodeV, FrameV.val]
             have hkw2 : Keep [] W0 w2 := (hk.then hk1).then hk2
             have kA : ∀ A : Obj, Keep [] W0 (w2.alloc A) := fun A => hkw2.alloc A)
          | (refine wpList_store_part rfl rfl 78 (.tmp 10) (.tmp 31) rfl w2.heap.size 0 rfl #[.int .i64 zeroF.kind, .int .i64 zeroF.stream, .int .i64 zeroF.number, .string ⟨zeroF.payload.toArray⟩] rfl 78 _ (heap_alloc_new w2 _) (by kernel_rfl) (by simp) (by simp [Value.oneCell']) ?_; intro w3 hk3 hh3
             have hkw3 : Keep [] W0 w3 := hkw2.trans (((Keep.refl [w2.heap.size] w2).alloc _).trans hk3 (by simp)) (fun x hx => Or.inr (by rw [List.mem_singleton.1 hx]; exact hkw2.size))
             have rA3 := hkw3.get rA (by simp)
             have rR3 := hkw3.get rR (by simp)
             have cA3 : w3.cell? ⟨w.heap.size, 2, none⟩ = some (.int .i64 a.places) := (cell_row' (j := 2) rA3).trans rfl
             have cK3 : w3.cell? ⟨w2.heap.size, 0, none⟩ = some (.int .i64 zeroF.kind) := by rw [cell_row' (j := 0) hh3]; simp [over])
          | (refine wpList_store_part rfl rfl 78 (.tmp 4) (.tmp 51) rfl (w.heap.size + 1) 0 rfl #[.int .i64 0, .int .i64 0, .int .i64 0, .string ⟨#[]⟩] rfl 78 _ rR3 (by kernel_rfl) (by simp) (by simp [Value.oneCell']) ?_; intro w4 hk4 hh4))
        rw [over_full _ _ (by simp)] at hh4
        exact bodyPost_ret (results_cell_tmps_row rfl _ _ (w.heap.size + 1) _ _ _ _ rfl hh4 Tryd.underlying78 rfl (by kernel_rfl)) rfl ⟨by rw [HB.out]; rfl, (hK0.then hkw3).trans hk4 (by simp)⟩
    | ok r =>
      obtain ⟨f, sz⟩ := r
      obtain ⟨k1, k2, k3⟩ := decodeF_lt hdec
      have HAT2 : Hid (bodyF d a place = if f.kind = 2 then some (f, blocksN sz) else none) := Lib.hid (by rw [HAT.out (Or.inr (by rw [hdec]; simp)), hdec])
      by_cases ck : f.kind = 2
      · have HB : Hid (bodyF d a place = some (f, blocksN sz)) := Lib.hid (by rw [HAT2.out, if_pos ck])
        obtain ⟨kd, st, nb, pl⟩ := f
        simp only at ck
        subst ck
        go_upto_region 10 with (first
          | (go_at_call 61; refine (piece_ok hDW hd ha hf place n hp (by omega)).mono ?_; rw [HX.out]; unfold str; rintro e w1 ⟨rfl, hk1⟩)
          | (go_at_call 62; refine (decode_any X w1 (hGW.keep0 hk1) hXl).mono ?_; rw [hdec]; rintro e w2 ⟨rfl, hk2⟩; simp only [decodeV, FrameV.val]
             have hkw2 : Keep [] W0 w2 := (hk.then hk1).then hk2
             have kA : ∀ A : Obj, Keep [] W0 (w2.alloc A) := fun A => hkw2.alloc A)
          | (refine wpList_store_part rfl rfl 78 (.tmp 10) (.tmp 31) rfl w2.heap.size 0 rfl #[.int .i64 2, .int .i64 st, .int .i64 nb, .string ⟨pl.toArray⟩] rfl 78 _ (heap_alloc_new w2 _) (by kernel_rfl) (by simp) (by simp [Value.oneCell']) ?_; intro w3 hk3 hh3
             have hkw3 : Keep [] W0 w3 := hkw2.trans (((Keep.refl [w2.heap.size] w2).alloc _).trans hk3 (by simp)) (fun x hx => Or.inr (by rw [List.mem_singleton.1 hx]; exact hkw2.size))
             have rA3 := hkw3.get rA (by simp)
             have rR3 := hkw3.get rR (by simp)
             have cA3 : w3.cell? ⟨w.heap.size, 2, none⟩ = some (.int .i64 a.places) := (cell_row' (j := 2) rA3).trans rfl
             have cK3 : w3.cell? ⟨w2.heap.size, 0, none⟩ = some (.int .i64 2) := by rw [cell_row' (j := 0) hh3]; simp [over])
          | (refine wpList_store_part rfl rfl 78 (.tmp 4) (.tmp 51) rfl (w.heap.size + 1) 0 rfl #[.int .i64 0, .int .i64 0, .int .i64 0, .string ⟨#[]⟩] rfl 78 _ rR3 (by kernel_rfl) (by simp) (by simp [Value.oneCell']) ?_; intro w4 hk4 hh4))
        rw [over_full _ _ (by simp)] at hh3
        (refine wp_region_inv (FinR (w.heap.size + 1) (.cells #[.int .i64 2, .int .i64 st, .int .i64 nb, .string ⟨pl.toArray⟩] 78)) [fun v _ => v = .agg #[.int .i64 2, .int .i64 st, .int .i64 nb, .string ⟨pl.toArray⟩], fun v _ => v = .int .i64 sz, fun v _ => v = .int .i64 (blocksN sz : Nat),
           fun _ w' => w'.heap[w.heap.size + 1]? = some (.cells #[.int .i64 2, .int .i64 st, .int .i64 nb, .string ⟨pl.toArray⟩] 78 (0, 0)),
           fun v _ => v = .int .i64 (blocksN sz : Nat), fun v _ => v = .int .i64 0] (by kernel_rfl) (by kernel_rfl) (by kernel_rfl) (fun _ _ _ h k => h.trans k) (FinR.refl _ _) ?stab1 ?main1; (case' main1 => (simp only [List.length_cons, List.length_nil, Nat.zero_add, Nat.reduceAdd, AllVals]; intro z0 z1 z2 z3 z4 z5; simp only [putAll, Act.put, List.setIfInBounds_toArray, List.set_cons_zero, List.set_cons_succ, StepsAt]; refine ⟨?steps1, ?after1⟩)); (case' steps1 => (repeat' apply And.intro)); (case' stab1 => (simp only [Stable])))
        case stab1 => refine ⟨fun _ _ _ _ h => h, fun _ _ _ _ h => h, fun _ _ _ _ h => h, fun _ _ _ hk h => hk.fin h, fun _ _ _ _ h => h, fun _ _ _ _ h => h, trivial⟩
        all_goals try (first | trivial | ((intro wq K hRq hPq hKq; simp only [Pre, Region.binds, List.getD_cons_zero, List.getD_cons_succ, true_imp_iff, forall_const, and_true, true_and] at hPq; simp only [Act.put, List.setIfInBounds_toArray, List.set_cons_zero, List.set_cons_succ] at hKq); go_split_ands; subst_vars; (try unfold str at *); go_wp2; first | exact hKq _ _ (Keep.refl _ _) rfl | exact hKq _ _ (Keep.refl _ _) trivial | exact hKq _ _ (FinR.refl _ _ _) rfl | exact hKq _ _ (FinR.refl _ _ _) trivial))
        · (intro wq K hR hP hK; simp only [Pre, Region.binds, List.getD_cons_zero, List.getD_cons_succ, true_imp_iff, forall_const, and_true, true_and] at hP; simp only [Act.put, List.setIfInBounds_toArray, List.set_cons_zero, List.set_cons_succ] at hK)
          have hq := hR.keep.drew'.get hh3 (by simp only [List.mem_singleton]; have := hkw2.size; have := lt_of_heap rR; omega)
          go_wp2_with (refine wpList_load_part rfl 78 (.tmp 10) rfl w2.heap.size 0 4 rfl 78 _ (0, 0) _ hq Tryd.underlying78 rfl (by kernel_rfl) (by simp) ?_)
          exact hK _ _ (FinR.refl _ _ _) (by simp)
        · (intro wq K hR hP hK; simp only [Pre, Region.binds, List.getD_cons_zero, List.getD_cons_succ, true_imp_iff, forall_const, and_true, true_and] at hP; simp only [Act.put, List.setIfInBounds_toArray, List.set_cons_zero, List.set_cons_succ] at hK)
          subst hP
          go_wp2_with (go_at_call 37; refine (blocksOf_any sz _ (by omega) (by omega)).mono ?_; rintro e w5 ⟨rfl, rfl⟩)
          exact hK _ _ (FinR.refl _ _ _) rfl
        · (intro wq K hR hP hK; simp only [Pre, Region.binds, List.getD_cons_zero, List.getD_cons_succ, true_imp_iff, forall_const, and_true, true_and] at hP; simp only [Act.put, List.setIfInBounds_toArray, List.set_cons_zero, List.set_cons_succ] at hK)
          obtain ⟨rfl, -⟩ := hP
          obtain ⟨cs, hcs, hcz⟩ := hR.shape 78 4 ⟨_, rR3, rfl⟩
          go_wp2_with (refine wpList_store_part rfl rfl 78 (.tmp 4) (.tmp 52) rfl (w.heap.size + 1) 0 rfl #[.int .i64 2, .int .i64 st, .int .i64 nb, .string ⟨pl.toArray⟩] rfl 78 _ hcs (by kernel_rfl) (by simp; omega) (by simp [Value.oneCell']) ?_; intro w4 hk4 hh4)
          rw [over_full cs _ (by simpa using hcz.symm)] at hh4
          exact hK undef _ (FinR.put hk4 hcs hh4 (by simpa using hcz)) hh4
        (intro wf hkf hq; simp only [AllAt] at hq)
        obtain ⟨-, -, -, h3, h4, h5, -⟩ := hq
        subst h4 h5
        go_wp2
        exact bodyPost_ret (results_cell_tmps_row rfl _ _ (w.heap.size + 1) _ _ _ _ rfl h3 Tryd.underlying78 rfl (by kernel_rfl)) rfl ⟨by rw [HB.out]; rfl, (hK0.then hkw3).trans hkf.keep.drew' (by simp)⟩
      · have hb1 : (f.kind == 2) = false := by simpa using ck
        have HB : Hid (bodyF d a place = none) := Lib.hid (by rw [HAT2.out, if_neg ck])
        go_wp2_with (first
          | (go_at_call 61; refine (piece_ok hDW hd ha hf place n hp (by omega)).mono ?_; rw [HX.out]; unfold str; rintro e w1 ⟨rfl, hk1⟩)
          | (go_at_call 62; refine (decode_any X w1 (hGW.keep0 hk1) hXl).mono ?_; rw [hdec]; rintro e w2 ⟨rfl, hk2⟩; simp only [decodeV, FrameV.val]
             have hkw2 : Keep [] W0 w2 := (hk.then hk1).then hk2
             have kA : ∀ A : Obj, Keep [] W0 (w2.alloc A) := fun A => hkw2.alloc A)
          | (refine wpList_store_part rfl rfl 78 (.tmp 10) (.tmp 31) rfl w2.heap.size 0 rfl #[.int .i64 f.kind, .int .i64 f.stream, .int .i64 f.number, .string ⟨f.payload.toArray⟩] rfl 78 _ (heap_alloc_new w2 _) (by kernel_rfl) (by simp) (by simp [Value.oneCell']) ?_; intro w3 hk3 hh3
             have hkw3 : Keep [] W0 w3 := hkw2.trans (((Keep.refl [w2.heap.size] w2).alloc _).trans hk3 (by simp)) (fun x hx => Or.inr (by rw [List.mem_singleton.1 hx]; exact hkw2.size))
             have rA3 := hkw3.get rA (by simp)
             have rR3 := hkw3.get rR (by simp)
             have cA3 : w3.cell? ⟨w.heap.size, 2, none⟩ = some (.int .i64 a.places) := (cell_row' (j := 2) rA3).trans rfl
             have cK3 : w3.cell? ⟨w2.heap.size, 0, none⟩ = some (.int .i64 f.kind) := by rw [cell_row' (j := 0) hh3]; simp [over])
          | (refine wpList_store_part rfl rfl 78 (.tmp 4) (.tmp 51) rfl (w.heap.size + 1) 0 rfl #[.int .i64 0, .int .i64 0, .int .i64 0, .string ⟨#[]⟩] rfl 78 _ rR3 (by kernel_rfl) (by simp) (by simp [Value.oneCell']) ?_; intro w4 hk4 hh4))
        rw [over_full _ _ (by simp)] at hh4
        exact bodyPost_ret (results_cell_tmps_row rfl _ _ (w.heap.size + 1) _ _ _ _ rfl hh4 Tryd.underlying78 rfl (by kernel_rfl)) rfl ⟨by rw [HB.out]; rfl, (hK0.then hkw3).trans hk4 (by simp)⟩
end

section
/- ring: a head's bytes. -/
open Go.RowKit

theorem run_make512 (W : World) : (Instr.makeSlice 35 (.int .i64 512) (.int .i64 512)).run Tryd.prog W = .ok (.slice (some ⟨W.heap.size, 0, none⟩) 512 512) (W.alloc (.cells (cellsOf zero512) 5)) := by
  obtain ⟨i0, hi, hz0, hz1, hz2⟩ := info_parts info_u8
  have h := run_make (P := Tryd.prog) W 35 5 i0 (.int .u8 0) Tryd.underlying35 hi hz0 .i64 .i64 512 512 (by omega) (by omega) (by rw [hz2]; omega) (by omega)
  rw [hz1] at h
  have hm : madeCells (Value.int .u8 0).cells ((512 : Int).toNat * 1) = cellsOf zero512 := by kernel_rfl
  rw [hm] at h
  simpa using h

/-- what a head says -/
structure HV where
  generation : Nat
  first : Nat
  place : Nat
  base : Nat
def HV.cells (h : HV) : Array Value := #[.int .i64 h.generation, .int .i64 h.first, .int .i64 h.place, .int .i64 h.base]
def HV.pay (h : HV) : List UInt8 := natF h.first ++ natF h.place ++ natF h.base
def HV.text (h : HV) : List UInt8 := encodeF 1 h.generation 0 h.pay
def HV.bytes (h : HV) : List UInt8 := h.text ++ List.replicate (512 - h.text.length) 0
structure HV.ok (h : HV) : Prop where
  g : h.generation ≤ 2147483647
  f : h.first ≤ 1099511627775
  p : h.place ≤ 1000000
  b : h.base ≤ 2147483647
theorem HV.ok.pay {h : HV} (k : h.ok) : h.pay.length ≤ 30 := by
  have h1 := natF_length10 h.first (by have := k.f; omega)
  have h2 := natF_length10 h.place (by have := k.p; omega)
  have h3 := natF_length10 h.base (by have := k.b; omega)
  simp only [HV.pay, List.length_append]; omega
theorem HV.ok.text {h : HV} (k : h.ok) : h.text.length ≤ 72 := by
  have := k.pay
  unfold HV.text
  rw [encodeF_length]; omega
theorem HV.ok.bytes {h : HV} (k : h.ok) : h.bytes.length = 512 := by
  have := k.text
  unfold HV.bytes
  rw [List.length_append, List.length_replicate]; omega
/-- a head written: the error, the device -/
def putD (d : DK) (a : AR) (h : HV) : Int × DK :=
  let r := d.write ((a.first + h.generation % 2 : Nat) : Int) h.bytes
  if r.1 ≠ 0 then r else r.2.flush
theorem over_text (h : HV) (k : h.ok) : over (cellsOf zero512) 0 (h.text.map B8) = cellsOf h.bytes := by
  have hl := k.text
  unfold over cellsOf HV.bytes
  apply Array.ext'
  simp only [List.take_zero, List.nil_append, Nat.zero_add, List.length_map, List.map_append, zero512, List.map_replicate, List.drop_replicate]
theorem write_down (d : DK) (b : Int) (c : List UInt8) (h : (d.write b c).1 = 0) : (d.write b c).2.down = false := by
  unfold DK.write at h ⊢
  split at h
  · cases h
  · rename_i hd
    rw [if_neg hd]
    split at h
    · cases h
    · rename_i hb
      rw [if_neg hb]
      split at h
      · cases h
      · rename_i hc
        rw [if_neg hc]
        split at h
        · rename_i he; exact absurd h he
        · rename_i he
          rw [if_neg he]
          show d.begin.2.down = false
          unfold DK.begin at he ⊢
          split
          · rename_i hq; rw [if_pos hq] at he; exact absurd (show (29 : Int) ≠ 0 by decide) he
          · simpa using hd
end
end Go.Proofs.YtgopdbpddemplaaDoor
