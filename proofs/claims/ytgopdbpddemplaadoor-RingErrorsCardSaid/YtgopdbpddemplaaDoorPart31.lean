/- law: fresh; the reference's Need; a string of zeros. -/
import Derived.Test.YtgopdbpddemplaaDoorPart30
set_option linter.unusedSimpArgs false
set_option linter.unusedVariables false
namespace Go.Proofs.YtgopdbpddemplaaDoor
section
/- law: fresh; the reference's Need; a string of zeros. -/
open Go.RowKit

theorem DiskAt.memp {w : World} {p : Nat} {d : DK} {F : List Nat} (h : DiskAt w p d F) : p ∈ F := by
  obtain ⟨_, _, _, _, hpF, _⟩ := h.is
  exact hpF
theorem areaErr_20 (d : DK) (hb : d.blocks = 20) (hd : d.down = false) (n : Int) (h4 : 4 ≤ n) (h17 : n ≤ 17) : areaErr d 3 n = 0 := by
  unfold areaErr
  rw [if_neg (by rw [hb]; omega), if_neg (by rw [hd]; decide)]
/-- what Open makes of a ring that Format has just made -/
def ring0 (p : Nat) (n : Int) : RV := (freshR (areaN p 3 n) 0).opened
set_option maxRecDepth 100000 in
set_option maxHeartbeats 1000000 in
theorem fresh_ok (n : Int) (w : World) (hG : Glob w) (h4 : 4 ≤ n) (h17 : n ≤ 17) :
    Calls Tryd.prog 8 #[.int .i64 n] w fun e w' => ∃ p rp d v F, e = .returned (.tuple #[.pointer (some ⟨p, 0, none⟩), .pointer (some ⟨rp, 0, none⟩), .bool true]) ∧ Live w' p rp d (ring0 p n) v F [] 0 ∧ NewR w rp v F ∧ Keep [] w w' ∧ d.blocks = 20 := by
  go_enter Tryd.func8, Tryd.ntmps8
  go_wp2_with (first
    | (go_at_call 17; refine (dev_new 20 w hG (by omega) (by omega)).mono ?_; rintro e w1 ⟨p, F1, rfl, hD1, hk1, hF1⟩)
    | (go_at_call 16; refine (dev_format0 hD1 (by omega) (by omega) (by omega) (areaErr_20 _ rfl rfl n h4 h17)).mono ?_; rintro e w2 ⟨F2, d2, rfl, hD2, hI2, hk2, hF2, hb2⟩
       have hkw2 : Keep [] w w2 := hk1.fresh hk2 hF1
       have hF2' : ∀ x ∈ F2, w.heap.size ≤ x := fun x hx => (hF2 x hx).elim (hF1 x) (fun q => Nat.le_trans hk1.size q))
    | (go_at_call 13; refine (dev_open hD2 hI2 (by omega) (by rw [hb2]; omega) (by rw [hb2]; omega) (show 0 < 2147483647 by omega) (show 0 + 0 ≤ 1099511627775 by omega) (by omega) rfl (areaErr_20 _ hb2 hD2.good.down n h4 h17)).mono ?_; rintro e w3 ⟨rp, lv, v3, F3, d3, rfl, hL3, hE3, hk3, hF3, hrp3, hv3, _, hb3⟩
       have hkw3 : Keep [] w w3 := hkw2.fresh hk3 hF2'
       have hn3 : NewR w rp v3 F3 := ⟨Nat.le_trans hkw2.size hrp3, fun x hx => (hF3 x hx).elim (hF2' x) (fun q => Nat.le_trans hkw2.size q), fun k e => Nat.le_trans hkw2.size (hv3 k e)⟩
       obtain ⟨sa, sc, rfl⟩ := hE3.shape))
  go_ret3
  exact ⟨p, rp, d3, v3, F3, rfl, hL3, hn3, hkw3, hb3.trans hb2⟩

theorem span_ok (n : Nat) (w : World) (h : n ≤ 1000000) (h2 : 2 ≤ n) : Calls Tryd.prog 38 #[.int .i64 n] w fun e w' => e = .returned (.int .i64 (blocksN n : Nat)) ∧ w' = w := by
  by_cases h5 : n ≤ 512
  · have h5' : (n : Int) ≤ 512 := by omega
    go_enter Tryd.func38, Tryd.ntmps38
    go_wp2
    go_ret
    exact ⟨ret_int (by unfold blocksN; omega), rfl⟩
  · have h5' : ¬ (n : Int) ≤ 512 := by omega
    go_enter Tryd.func38, Tryd.ntmps38
    go_wp2
    go_ret
    exact ⟨ret_int (by unfold blocksN; omega), rfl⟩
theorem refNeed_ok (n : Int) (w : World) (h0 : 0 ≤ n) (h : n ≤ 131072) : Calls Tryd.prog 20 #[.int .i64 n] w fun e w' => e = .returned (.int .i64 (blocksN (26 + n.toNat + 16) : Nat)) ∧ w' = w := by
  have hc : ((26 + n.toNat + 16 : Nat) : Int) = n + 26 + 16 := by omega
  have HC := Lib.hid hc
  clear hc
  go_enter Tryd.func20, Tryd.ntmps20
  go_wp2_with (go_at_call 38; rw [← HC.out]; refine (span_ok _ w (by omega) (by omega)).mono ?_; rintro e w1 ⟨rfl, hw⟩; obtain rfl := hw.symm)
  go_ret
  exact ⟨rfl, rfl⟩
/-- a string of zeros -/
theorem zeros_make (m : Nat) (N : Int) (hN : N = (m : Int)) (hm : m ≤ 1000000) (hm1 : 1 ≤ m) : ∃ (M : Array Value) (Z : List UInt8), Hid (Z.length = m) ∧ (∀ W : World, (Instr.makeSlice 35 (.int .i64 N) (.int .i64 N)).run Tryd.prog W = .ok (.slice (some ⟨W.heap.size, 0, none⟩) m m) (W.alloc (.cells M 5))) ∧
    (∀ W : World, (convert 35 9 (.slice (some ⟨W.heap.size, 0, none⟩) m m)).run Tryd.prog (W.alloc (.cells M 5)) = .ok (str Z) (W.alloc (.cells M 5))) := by
  obtain ⟨i0, hi, hz0, hz1, hz2⟩ := info_parts info_u8
  subst hN
  refine ⟨madeCells (Value.int .u8 0).cells (((m : Nat) : Int).toNat * i0.size), List.replicate m 0, Lib.hid List.length_replicate, fun W => ?_, fun W => ?_⟩
  · have h := run_make (P := Tryd.prog) W 35 5 i0 (.int .u8 0) Tryd.underlying35 hi hz0 .i64 .i64 (m : Int) (m : Int) (by omega) (by omega) (by rw [hz2]; omega) (by omega)
    simpa using h
  · have hMs : (madeCells (Value.int .u8 0).cells (((m : Nat) : Int).toNat * i0.size)).size = m := by rw [size_madeCells, hz1]; simp
    have h := run_convert_bytes_back (P := Tryd.prog) (W.alloc (.cells (madeCells (Value.int .u8 0).cells (((m : Nat) : Int).toNat * i0.size)) 5)) 35 9 5 ⟨W.heap.size, 0, none⟩ m (List.replicate m 0) Tryd.underlying35 Tryd.underlying5 Tryd.underlying9 (fun j hj => by
      rw [List.length_replicate] at hj
      have hadd : (⟨W.heap.size, 0, none⟩ : Addr).add j = ⟨W.heap.size, j, none⟩ := by unfold Addr.add; split <;> simp_all
      rw [hadd, cell_row' (heap_alloc_new W _)]
      rw [List.getElem_replicate]
      simp [madeCells, hz1, hj, Value.cells, Nat.mod_one])
    rw [List.length_replicate] at h
    exact h
end
end Go.Proofs.YtgopdbpddemplaaDoor
