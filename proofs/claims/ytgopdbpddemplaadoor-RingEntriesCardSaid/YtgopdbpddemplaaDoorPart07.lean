/- frame.Encode. · frame.fields. · strings.Clone (the shelf's proof, turned to this program). · What frame.fields reads is a number in big endian. -/
import Derived.Test.YtgopdbpddemplaaDoorPart06
import Derived.Deep.DeepCutAuto
import Derived.Deep.RegionHeld3
import Derived.Deep.CutBlock
import Derived.Lib.Strings
import Derived.Lib.Walk
import Derived.Lib.BufferWrite
import Derived.Lib.UnsafeStr
import Derived.Laws.MakeOwn
import Derived.Laws.BitsLemmas
set_option linter.unusedSimpArgs false
set_option linter.unusedVariables false
namespace Go.Proofs.YtgopdbpddemplaaDoor
section
/- frame.Encode. -/
open Go.RowKit

def szs : List Nat := [1, 1, 4, 8, 4]
def hvals (kind stream number len : Int) : List Int := [245, kind, stream, number, len]
/-- the first j fields of a header -/
def hpart (kind stream number len : Int) (j : Nat) : List UInt8 := ((List.range j).map fun i => beN (szs.getD i 0) ((hvals kind stream number len).getD i 0)).flatten
theorem hpart_succ (kind stream number len : Int) (j : Nat) : hpart kind stream number len (j + 1) = hpart kind stream number len j ++ beN (szs.getD j 0) ((hvals kind stream number len).getD j 0) := by
  simp [hpart, List.range_succ]
def hbytes (kind stream number len : Int) : List UInt8 := hpart kind stream number len 5
theorem hbytes_length (kind stream number len : Int) : (hbytes kind stream number len).length = 18 := by
  simp [hbytes, hpart, List.range_succ, beN_length, szs]
def encodeF (kind stream number : Int) (p : List UInt8) : List UInt8 :=
  hbytes kind stream number p.length ++ (tagged 10 [hbytes kind stream number p.length]).take 8 ++ p ++ (tagged 11 [hbytes kind stream number p.length, p]).take 16
theorem tagged_length (t : Int) (ps : List (List UInt8)) : (tagged t ps).length = 32 := sha_length _
theorem encodeF_length (kind stream number : Int) (p : List UInt8) : (encodeF kind stream number p).length = 26 + p.length + 16 := by
  simp [encodeF, hbytes_length, tagged_length]; omega

set_option maxHeartbeats 400000 in
theorem fcheck_ok (kind stream number : Int) (p : List UInt8) (w : World) (k0 : 0 ≤ kind) (k1 : kind ≤ 255) (s0 : 0 ≤ stream) (s1 : stream ≤ 2147483647) (n0 : 0 ≤ number) (n1 : number ≤ 1099511627775) (hp : p.length ≤ 262144) :
    Calls Tryd.prog 64 #[.agg #[.int .i64 kind, .int .i64 stream, .int .i64 number, str p]] w fun e w' => e = .returned (.int .i64 0) ∧ Keep [] w w' := by
  have d1 : decide (0 ≤ kind ∧ kind ≤ 255) = true := by simp; omega
  have d2 : decide (0 ≤ stream ∧ stream ≤ 2147483647) = true := by simp; omega
  have d3 : decide (0 ≤ number ∧ number ≤ 1099511627775) = true := by simp; omega
  have hsz : (ByteArray.mk p.toArray).size = p.length := by simp [ByteArray.size]
  have hp' : (p.length : Int) ≤ 262144 := by omega
  unfold str
  go_enter Tryd.func64, Tryd.ntmps64
  go_wp2_with (go_at_call 63; refine (within_any _ _ _).mono ?_; rintro e w' ⟨rfl, rfl⟩)
  go_ret
  exact ⟨rfl, (Keep.refl _ _).alloc _⟩

set_option maxRecDepth 100000 in
set_option maxHeartbeats 4000000 in
theorem encode_ok (kind stream number : Int) (p : List UInt8) (w : World) (hG : Glob w) (k0 : 0 ≤ kind) (k1 : kind ≤ 255) (s0 : 0 ≤ stream) (s1 : stream ≤ 2147483647) (n0 : 0 ≤ number) (n1 : number ≤ 1099511627775) (hp : p.length ≤ 262144) :
    Calls Tryd.prog 39 #[.agg #[.int .i64 kind, .int .i64 stream, .int .i64 number, str p]] w fun e w' => e = .returned (.tuple #[str (encodeF kind stream number p), .int .i64 0]) ∧ Keep [] w w' := by
  have hsz : (ByteArray.mk p.toArray).size = p.length := by simp [ByteArray.size]
  have hgl := hG.lt
  have HG := Lib.hid hG
  clear hG
  unfold str
  go_enter Tryd.func39, Tryd.ntmps39
  go_wp2_with (go_at_call 64; refine (fcheck_ok kind stream number p _ k0 k1 s0 s1 n0 n1 hp).mono ?_; rintro e w1 ⟨rfl, hk1⟩
               have hfb : w1.heap[w.heap.size]? = some (.cells #[.int .i64 kind, .int .i64 stream, .int .i64 number, .string ⟨p.toArray⟩] 78 (0, 0)) := hk1.get (heap_alloc_new _ _) (by simp)
               have hkw : Keep [] w w1 := ((Keep.refl _ _).alloc _).then hk1
               have hfA : ∀ A, (w1.alloc A).heap[w.heap.size]? = some (.cells #[.int .i64 kind, .int .i64 stream, .int .i64 number, .string ⟨p.toArray⟩] 78 (0, 0)) := fun A => (heap_alloc_past (lt_of_heap hfb)).trans hfb
               have a0 : ∀ A, (w1.alloc A).cell? ⟨w.heap.size, 0, none⟩ = some (.int .i64 kind) := fun A => cell_of_row _ _ 0 _ _ _ (hfA A)
               have a1 : ∀ A, (w1.alloc A).cell? ⟨w.heap.size, 1, none⟩ = some (.int .i64 stream) := fun A => cell_of_row _ _ 1 _ _ _ (hfA A)
               have a2 : ∀ A, (w1.alloc A).cell? ⟨w.heap.size, 2, none⟩ = some (.int .i64 number) := fun A => cell_of_row _ _ 2 _ _ _ (hfA A)
               have a3 : ∀ A, (w1.alloc A).cell? ⟨w.heap.size, 3, none⟩ = some (.string ⟨p.toArray⟩) := fun A => cell_of_row _ _ 3 _ _ _ (hfA A)
               have HFA := Lib.hid hfA
               have hlw : w.heap.size < w1.heap.size := lt_of_heap hfb
               have hk1' : Keep [] w w1 := hkw
               clear hfb hfA hk1)
  go_loopw [7, 8, 26] (fun _ _ i wr => ∃ j : Nat, ∃ v : Value, j ≤ 5 ∧ i = .int .i64 j ∧ wr.heap[w1.heap.size]? = some (.cells #[v] 35 (0, 0)) ∧ wr.heap[w.heap.size]? = some (.cells #[.int .i64 kind, .int .i64 stream, .int .i64 number, .string ⟨p.toArray⟩] 78 (0, 0)) ∧
      Buf 5 wr (w1.heap.size + 1) v (hpart kind stream number p.length j) ∧ Keep [] w wr ∧ w1.heap.size + 1 ≤ wr.heap.size ∧ Keep [w1.heap.size] (w1.alloc (.cells #[.slice none 0 0] 35)) wr) (fun _ _ i _ => 5 - (intOf i).toNat)
  case atStart => exact ⟨0, .slice none 0 0, by omega, rfl, heap_alloc_new _ _, HFA.out _, Buf.nil _ _ _, hk1'.alloc _, by simp, Keep.refl _ _⟩
  case round =>
    obtain ⟨j, v, hj, rfl, hbb, hfb, hB, hk, hsw, hkl⟩ := hrel
    by_cases hlt : j < 5
    · have hgs : Keep [] w wr := hk
      have hG' := HG.out.keep0 hgs
      have hsz0 : wr.cell? ⟨0, j, none⟩ = some (.int .i64 ((szs.getD j 0 : Nat) : Int)) := by
        rw [hG'.s j hlt]
        have h5 : j = 0 ∨ j = 1 ∨ j = 2 ∨ j = 3 ∨ j = 4 := by omega
        rcases h5 with rfl | rfl | rfl | rfl | rfl <;> rfl
      have hidx : ∀ w', (Instr.index 112 (.agg #[.int .i64 245, .int .i64 kind, .int .i64 stream, .int .i64 number, .int .i64 p.length]) (.int .i64 j)).run Tryd.prog w' = .ok (.int .i64 ((hvals kind stream number p.length).getD j 0)) w' := by
        intro w'
        have h5 : j = 0 ∨ j = 1 ∨ j = 2 ∨ j = 3 ∨ j = 4 := by omega
        rcases h5 with rfl | rfl | rfl | rfl | rfl <;> rfl
      have HS := Lib.hid (hpart_succ kind stream number p.length j)
      have hX : 0 ≤ (hvals kind stream number p.length).getD j 0 ∧ (hvals kind stream number p.length).getD j 0 ≤ 1099511627775 := by
        have h5 : j = 0 ∨ j = 1 ∨ j = 2 ∨ j = 3 ∨ j = 4 := by omega
        rcases h5 with rfl | rfl | rfl | rfl | rfl <;> simp [hvals] <;> omega
      have hZ : 1 ≤ szs.getD j 0 ∧ szs.getD j 0 ≤ 8 := by
        have h5 : j = 0 ∨ j = 1 ∨ j = 2 ∨ j = 3 ∨ j = 4 := by omega
        rcases h5 with rfl | rfl | rfl | rfl | rfl <;> decide
      generalize (hvals kind stream number p.length).getD j 0 = X at *
      generalize szs.getD j 0 = Z at *
      obtain ⟨x0, x1⟩ := hX
      obtain ⟨z0, z1⟩ := hZ
      have hll : (hpart kind stream number p.length j).length ≤ 1000000 := by
        have h5 : j = 0 ∨ j = 1 ∨ j = 2 ∨ j = 3 ∨ j = 4 := by omega
        rcases h5 with rfl | rfl | rfl | rfl | rfl <;> simp [hpart, List.range_succ, beN_length, szs]
      have HC := Lib.hid (enc1_any X Z w1.heap.size (w1.heap.size + 1) v _ [w1.heap.size] (w1.alloc (.cells #[.slice none 0 0] 35)) wr x0 (by omega) z0 z1 hbb hB hsw (by simp) (by simp) hkl hll)
      clear hbb hfb hB hk hsw hkl hG' hgs
      go_wp2_with (go_at_call 65; refine HC.out.mono ?_; rintro e w2 ⟨rfl, hk2, hsw2, v2, hbb2, hB2⟩)
      go_roundw
      case rel => exact ⟨j + 1, v2, by omega, by go_num, hbb2, hk2.get (HFA.out _) (by simp; omega), by rw [HS.out]; exact hB2, (hk1'.alloc _).trans hk2 (by simp; omega), hsw2, hk2⟩
      case measure => simp [intOf]; omega
    · have hj5 : j = 5 := by omega
      have hcv := hB.string (src := 35) (dst := 9) Tryd.underlying35 Tryd.underlying5 Tryd.underlying9
      rw [show hpart kind stream number p.length j = hbytes kind stream number p.length by rw [hj5]; rfl] at hcv
      have cb : wr.cell? ⟨w1.heap.size, 0, none⟩ = some v := cell_of_row _ _ 0 _ _ _ hbb
      have hge : 5 ≤ j := by omega
      have HFB := Lib.hid hfb
      have HLB := Lib.hid (hbytes_length kind stream number p.length)
      unfold str at hcv
      clear hbb hB hkl hj5 hlt hj hfb
      have HEN : Hid (encodeF kind stream number p = hbytes kind stream number p.length ++ (tagged 10 [hbytes kind stream number p.length]).take 8 ++ p ++ (tagged 11 [hbytes kind stream number p.length, p]).take 16) := Lib.hid rfl
      generalize hbytes kind stream number p.length = h at *
      have cp : wr.cell? ⟨w.heap.size, 3, none⟩ = some (.string ⟨p.toArray⟩) := cell_of_row _ _ 3 _ _ _ HFB.out
      have hfl : w.heap.size < wr.heap.size := lt_of_heap HFB.out
      have hGr : Hid (Glob wr) := HG.out.keep0 hk
      have hkr := Lib.hid hk
      clear hk hsw
      go_upto_region 12 with fail
      (refine wp_region_inv (Keep []) [fun v _ => v = .string ⟨h.toArray⟩, fun v _ => v = .string ⟨h.toArray⟩,
        fun v w => ∃ g, v = .slice (some ⟨g, 0, none⟩) 1 1 ∧ g < w.heap.size ∧ w.cell? ⟨g, 0, none⟩ = some (str h),
        fun v _ => v = str ((tagged 10 [h]).take 8),
        fun v _ => v = str (h ++ (tagged 10 [h]).take 8),
        fun v _ => v = .pointer (some ⟨w.heap.size, 3, none⟩),
        fun v _ => v = str p,
        fun v _ => v = str (h ++ (tagged 10 [h]).take 8 ++ p),
        fun v _ => v = .string ⟨h.toArray⟩,
        fun v _ => v = .pointer (some ⟨w.heap.size, 3, none⟩),
        fun v _ => v = str p,
        fun v w => ∃ g, v = .slice (some ⟨g, 0, none⟩) 2 2 ∧ g < w.heap.size ∧ w.cell? ⟨g, 0, none⟩ = some (str h) ∧ w.cell? ⟨g, 1, none⟩ = some (str p),
        fun v _ => v = str ((tagged 11 [h, p]).take 16),
        fun v _ => v = str (encodeF kind stream number p),
        fun v _ => v = str (encodeF kind stream number p),
        fun v _ => v = .int .i64 0] (by kernel_rfl) (by kernel_rfl) (by kernel_rfl) (fun _ _ _ h k => h.then k) (Keep.refl _) ?stab1 ?main1; (case' main1 => (simp only [List.length_cons, List.length_nil, Nat.zero_add, Nat.reduceAdd, AllVals]; intro v0 v1 v2 v3 v4 v5 v6 v7 v8 v9 v10 v11 v12 v13 v14 v15; simp only [putAll, Act.put, List.setIfInBounds_toArray, List.set_cons_zero, List.set_cons_succ, StepsAt]; refine ⟨?steps1, ?after1⟩)); (case' steps1 => (repeat' apply And.intro)); (case' stab1 => (simp only [Stable])))
      case stab1 =>
        refine ⟨fun _ _ _ _ h => h, fun _ _ _ _ h => h, fun w w' v hk h => ?_, fun _ _ _ _ h => h, fun _ _ _ _ h => h, fun _ _ _ _ h => h, fun _ _ _ _ h => h, fun _ _ _ _ h => h, fun _ _ _ _ h => h, fun _ _ _ _ h => h, fun _ _ _ _ h => h, fun w w' v hk h => ?_, fun _ _ _ _ h => h, fun _ _ _ _ h => h, fun _ _ _ _ h => h, fun _ _ _ _ h => h, trivial⟩
        · obtain ⟨g, h1, h2, h3⟩ := h
          exact ⟨g, h1, hk.lt h2, hk.cell h3 (by simp)⟩
        · obtain ⟨g, h1, h2, h3, h4⟩ := h
          exact ⟨g, h1, hk.lt h2, hk.cell h3 (by simp), hk.cell h4 (by simp)⟩
      all_goals try (first | trivial | ((intro wq K hRq hPq hKq; simp only [Pre, Region.binds, List.getD_cons_zero, List.getD_cons_succ, true_imp_iff, forall_const, and_true, true_and] at hPq; simp only [Act.put, List.setIfInBounds_toArray, List.set_cons_zero, List.set_cons_succ] at hKq); go_split_ands; subst_vars; (try unfold str at *); go_wp2; first | exact hKq _ _ (Keep.refl _ _) rfl | exact hKq _ _ (Keep.refl _ _) trivial | exact hKq _ _ (FinR.refl _ _ _) rfl | exact hKq _ _ (FinR.refl _ _ _) trivial))
      · (intro wq K hR hP hK; simp only [Pre, Region.binds, List.getD_cons_zero, List.getD_cons_succ, true_imp_iff, forall_const, and_true, true_and] at hP; simp only [Act.put, List.setIfInBounds_toArray, List.set_cons_zero, List.set_cons_succ] at hK)
        subst hP
        have hd := hK
        go_wp2
        refine hK _ _ ((Keep.refl _ _).alloc _) ⟨_, rfl, by simp, ?_⟩
        exact cell_of_row _ _ 0 _ _ _ (heap_alloc_at rfl)
      · (intro wq K hR hP hK; simp only [Pre, Region.binds, List.getD_cons_zero, List.getD_cons_succ, true_imp_iff, forall_const, and_true, true_and] at hP; simp only [Act.put, List.setIfInBounds_toArray, List.set_cons_zero, List.set_cons_succ] at hK)
        obtain ⟨g, rfl, hg, hc⟩ := hP
        have HC := Lib.hid (check_any 8 10 g 0 [h] wq (hGr.out.keep0 (hR.drew')) (by omega) (by omega) (by omega) (fun i hi => by obtain rfl : i = 0 := (by simpa using hi); exact hc) (by simp) (by simp [total, HLB.out]))
        go_wp2_with (go_at_call 66; refine HC.out.mono ?_; rintro e w2 ⟨rfl, hk2⟩)
        exact hK _ _ hk2 rfl
      · (intro wq K hR hP hK; simp only [Pre, Region.binds, List.getD_cons_zero, List.getD_cons_succ, true_imp_iff, forall_const, and_true, true_and] at hP; simp only [Act.put, List.setIfInBounds_toArray, List.set_cons_zero, List.set_cons_succ] at hK)
        obtain ⟨rfl, rfl⟩ := hP
        refine step_add_str rfl _ _ _ _ rfl h ((tagged 10 [h]).take 8) rfl rfl (by simp [HLB.out]; omega) ?_
        exact hK _ _ (Keep.refl _ _) rfl
      · (intro wq K hR hP hK; simp only [Pre, Region.binds, List.getD_cons_zero, List.getD_cons_succ, true_imp_iff, forall_const, and_true, true_and] at hP; simp only [Act.put, List.setIfInBounds_toArray, List.set_cons_zero, List.set_cons_succ] at hK)
        subst hP
        have hc := hR.cell (w := wr.drew) cp (by simp)
        unfold str at *
        go_wp2
        exact hK _ _ (Keep.refl _ _) rfl
      · (intro wq K hR hP hK; simp only [Pre, Region.binds, List.getD_cons_zero, List.getD_cons_succ, true_imp_iff, forall_const, and_true, true_and] at hP; simp only [Act.put, List.setIfInBounds_toArray, List.set_cons_zero, List.set_cons_succ] at hK)
        obtain ⟨rfl, rfl⟩ := hP
        refine step_add_str rfl _ _ _ _ rfl (h ++ (tagged 10 [h]).take 8) p rfl rfl (by simp [HLB.out]; omega) ?_
        exact hK _ _ (Keep.refl _ _) rfl
      · (intro wq K hR hP hK; simp only [Pre, Region.binds, List.getD_cons_zero, List.getD_cons_succ, true_imp_iff, forall_const, and_true, true_and] at hP; simp only [Act.put, List.setIfInBounds_toArray, List.set_cons_zero, List.set_cons_succ] at hK)
        subst hP
        have hc := hR.cell (w := wr.drew) cp (by simp)
        unfold str at *
        go_wp2
        exact hK _ _ (Keep.refl _ _) rfl
      · (intro wq K hR hP hK; simp only [Pre, Region.binds, List.getD_cons_zero, List.getD_cons_succ, true_imp_iff, forall_const, and_true, true_and] at hP; simp only [Act.put, List.setIfInBounds_toArray, List.set_cons_zero, List.set_cons_succ] at hK)
        obtain ⟨rfl, rfl⟩ := hP
        unfold str at *
        go_wp2
        refine hK _ _ ((Keep.refl _ _).alloc _) ⟨wq.heap.size, rfl, by simp, ?_, ?_⟩
        · exact cell_of_row _ _ 0 _ _ _ (heap_alloc_at rfl)
        · exact cell_of_row _ _ 1 _ _ _ (heap_alloc_at rfl)
      · (intro wq K hR hP hK; simp only [Pre, Region.binds, List.getD_cons_zero, List.getD_cons_succ, true_imp_iff, forall_const, and_true, true_and] at hP; simp only [Act.put, List.setIfInBounds_toArray, List.set_cons_zero, List.set_cons_succ] at hK)
        obtain ⟨⟨g, rfl, hg, hc, hc1⟩, -⟩ := hP
        have hps : ∀ i, i < [h, p].length → wq.cell? ⟨g, 0 + i, none⟩ = some (str ([h, p].getD i [])) := fun i hi => by
          have h2 : i = 0 ∨ i = 1 := by simp at hi; omega
          rcases h2 with rfl | rfl
          · exact hc
          · exact hc1
        have HC := Lib.hid (check_any 16 11 g 0 [h, p] wq (hGr.out.keep0 (hR.drew')) (by omega) (by omega) (by omega) hps (by simp) (by simp [total, HLB.out]; omega))
        go_wp2_with (go_at_call 66; refine HC.out.mono ?_; rintro e w2 ⟨rfl, hk2⟩)
        exact hK _ _ hk2 rfl
      · (intro wq K hR hP hK; simp only [Pre, Region.binds, List.getD_cons_zero, List.getD_cons_succ, true_imp_iff, forall_const, and_true, true_and] at hP; simp only [Act.put, List.setIfInBounds_toArray, List.set_cons_zero, List.set_cons_succ] at hK)
        obtain ⟨rfl, rfl⟩ := hP
        refine step_add_str rfl _ _ _ _ rfl (h ++ (tagged 10 [h]).take 8 ++ p) ((tagged 11 [h, p]).take 16) rfl rfl (by simp [HLB.out]; omega) ?_
        exact hK _ _ (Keep.refl _ _) (by rw [HEN.out])
      · (intro wz hkz hz; simp only [AllAt] at hz)
        obtain ⟨-, -, -, -, -, -, -, -, -, -, -, -, -, -, h14, h15, -⟩ := hz
        subst h14 h15
        have hko : Keep [] w wz := hkr.out.then hkz.drew'
        go_wp2
        go_ret2
        exact ⟨rfl, hko⟩
end

section
/- frame.fields. -/
open Go.RowKit

def acc64 (v b : Int) : Int := bits .or .u64 (IntKind.u64.wrap (v * 256)) (IntKind.u64.wrap b)
def fieldF (s : List UInt8) (off n : Nat) : Int := ((s.drop off).take n).foldl (fun v b => acc64 v b.toNat) 0
theorem fieldF_succ (s : List UInt8) (off n : Nat) (h : off + n < s.length) : fieldF s off (n + 1) = acc64 (fieldF s off n) (wd s (off + n)) := by
  have h1 : (s.drop off).take (n + 1) = (s.drop off).take n ++ [s.getD (off + n) 0] := by
    rw [List.take_add_one]
    simp [h]
  simp [fieldF, h1, wd]
def offs : List Nat := [0, 1, 2, 6, 14]
def fcell (s : List UInt8) (j m k : Nat) : Int := if k < j then fieldF s (offs.getD k 0) (szs.getD k 0) else if k = j then fieldF s (offs.getD j 0) m else 0
theorem fcell_end (s : List UInt8) (j k : Nat) : fcell s j (szs.getD j 0) k = fcell s (j + 1) 0 k := by
  unfold fcell
  by_cases h1 : k < j
  · simp [h1, show k < j + 1 by omega]
  · by_cases h2 : k = j
    · subst h2; simp
    · simp [h1, h2, show ¬ k < j + 1 by omega]
      intro h3; simp [fieldF]

theorem index_str (s : List UInt8) (i : Nat) (h : i < s.length) (w : World) : (Instr.index 9 (.string ⟨s.toArray⟩) (.int .i64 (i : Int))).run Tryd.prog w = .ok (.int .u8 (wd s i)) w := by
  rw [run_index_string w _ _ _ _ Tryd.underlying9, dif_pos ⟨by omega, by simpa [ByteArray.size] using h⟩]
  congr 2
  simp [wd, h, ByteArray.getElem_eq_getElem_data]

set_option maxRecDepth 100000 in
set_option maxHeartbeats 1000000 in
theorem fields_any (s : List UInt8) (w : World) (hG : Glob w) (hl : 18 ≤ s.length) (hl1 : s.length ≤ 1099511627776) :
    Calls Tryd.prog 75 #[str s] w fun e w' => e = .returned (.agg #[.int .u64 (fieldF s 0 1), .int .u64 (fieldF s 1 1), .int .u64 (fieldF s 2 4), .int .u64 (fieldF s 6 8), .int .u64 (fieldF s 14 4)]) ∧ Keep [] w w' := by
  have hsz : (ByteArray.mk s.toArray).size = s.length := by simp [ByteArray.size]
  have hgl := hG.lt
  have HG := Lib.hid hG
  clear hG
  unfold str
  have hs2 : ∀ j, j < 5 → ∀ A B, ((w.alloc A).alloc B).cell? ⟨0, j, none⟩ = some (.int .i64 (sizesList.getD j 0)) := fun j hj A B => (((Keep.refl [] w).alloc A).alloc B).cell (HG.out.s j hj) (by simp)
  have g0 := hs2 0 (by omega)
  have g1 := hs2 1 (by omega)
  have g2 := hs2 2 (by omega)
  have g3 := hs2 3 (by omega)
  have g4 := hs2 4 (by omega)
  simp only [sizesList, List.getD_cons_zero, List.getD_cons_succ] at g0 g1 g2 g3 g4
  clear hs2
  go_enter Tryd.func75, Tryd.ntmps75
  go_wp2
  go_loopw [4, 8] (fun off i wr => ∃ j : Nat, ∃ cs : Array Value, j ≤ 5 ∧ i = .int .i64 j ∧ off = .int .i64 (offs.getD j 18 : Nat) ∧ wr.heap[w.heap.size + 1]? = some (.cells cs 121 (0, 0)) ∧ cs.size = 5 ∧
      (∀ k, k < 5 → cs[k]? = some (.int .u64 (fcell s j 0 k))) ∧ Keep [w.heap.size + 1] (w.alloc (.cells #[.int .u64 0, .int .u64 0, .int .u64 0, .int .u64 0, .int .u64 0] 121)) wr ∧ w.heap.size + 2 ≤ wr.heap.size) (fun _ i _ => 5 - (intOf i).toNat)
  case atStart =>
    refine ⟨0, _, by omega, rfl, rfl, heap_alloc_at (by simp), rfl, fun k hk => ?_, (Keep.refl _ _).alloc _, by simp⟩
    have h5 : k = 0 ∨ k = 1 ∨ k = 2 ∨ k = 3 ∨ k = 4 := by omega
    rcases h5 with rfl | rfl | rfl | rfl | rfl <;> simp [fcell, fieldF]
  case round =>
    obtain ⟨j, cs, hj, rfl, rfl, hbb, hcs, hcl, hk, hsw⟩ := hrel
    by_cases hlt : j < 5
    · have hidx : ∀ w', (Instr.index 112 (.agg #[.int .i64 1, .int .i64 1, .int .i64 4, .int .i64 8, .int .i64 4]) (.int .i64 j)).run Tryd.prog w' = .ok (.int .i64 (szs.getD j 0 : Nat)) w' := by
        intro w'
        have h5 : j = 0 ∨ j = 1 ∨ j = 2 ∨ j = 3 ∨ j = 4 := by omega
        rcases h5 with rfl | rfl | rfl | rfl | rfl <;> rfl
      have hZ : offs.getD j 18 + szs.getD j 0 = offs.getD (j + 1) 18 ∧ offs.getD j 18 + szs.getD j 0 ≤ 18 ∧ szs.getD j 0 ≤ 8 := by
        have h5 : j = 0 ∨ j = 1 ∨ j = 2 ∨ j = 3 ∨ j = 4 := by omega
        rcases h5 with rfl | rfl | rfl | rfl | rfl <;> decide
      have hfs : ∀ m, fcell s j (m + 1) j = fieldF s (offs.getD j 0) (m + 1) := fun m => by simp [fcell]
      have hO : offs.getD j 0 = offs.getD j 18 := by
        have h5 : j = 0 ∨ j = 1 ∨ j = 2 ∨ j = 3 ∨ j = 4 := by omega
        rcases h5 with rfl | rfl | rfl | rfl | rfl <;> decide
      have hE := fcell_end s j
      have HE : Hid (∀ k, fcell s j (szs.getD j 0) k = fcell s (j + 1) 0 k) := hE
      clear hE
      rw [hO] at hfs
      have HOO0 := hO
      generalize hSZ : szs.getD j 0 = Z at *
      generalize hOF : offs.getD j 18 = O at *
      generalize hOF1 : offs.getD (j + 1) 18 = O1 at *
      obtain ⟨z0, z1, z2⟩ := hZ
      have HSZ := Lib.hid hSZ
      have HOF := Lib.hid hOF
      have HOF1 := Lib.hid hOF1
      have HB := Lib.hid hbb
      have HC := Lib.hid hcl
      have HCS := Lib.hid hcs
      have HF := Lib.hid hfs
      have HOO := Lib.hid HOO0
      clear HOO0
      have HK := Lib.hid hk
      have HZ0 := Lib.hid z0
      clear hSZ hOF hOF1 hbb hcl hcs hfs hk hO z0
      go_wp2
      have hdt : decide ((j : Int) < 5) = true := by simp; omega
      simp only [hdt]
      go_loopw [4, 13] (fun off q wx => ∃ m : Nat, ∃ cx : Array Value, m ≤ Z ∧ q = .int .i64 m ∧ off = .int .i64 ((O + m : Nat) : Int) ∧ wx.heap[w.heap.size + 1]? = some (.cells cx 121 (0, 0)) ∧ cx.size = 5 ∧
        (∀ k, k < 5 → cx[k]? = some (.int .u64 (fcell s j m k))) ∧ Keep [w.heap.size + 1] (w.alloc (.cells #[.int .u64 0, .int .u64 0, .int .u64 0, .int .u64 0, .int .u64 0] 121)) wx ∧ w.heap.size + 2 ≤ wx.heap.size) (fun _ q _ => Z - (intOf q).toNat)
      case atStart => exact ⟨0, cs, by omega, rfl, rfl, HB.out, HCS.out, HC.out, HK.out, hsw⟩
      case round =>
        obtain ⟨m, cx, hm, rfl, rfl, hbx, hcx, hclx, hkx, hswx⟩ := hrel
        by_cases hlm : m < Z
        · have hch : ∀ w', (Instr.index 9 (.string ⟨s.toArray⟩) (.int .i64 (↑O + ↑m))).run Tryd.prog w' = .ok (.int .u8 (wd s (O + m))) w' := fun w' => by
            have := index_str s (O + m) (by omega) w'
            simpa using this
          have hcj : wr.cell? ⟨w.heap.size + 1, j, none⟩ = some (.int .u64 (fcell s j m j)) := (cell_of_row _ _ j _ _ _ hbx).trans (hclx j hlt)
          have hfz : wr.frozen? ⟨w.heap.size + 1, j, none⟩ = false := frozen_of_row _ _ j _ _ hbx
          have h0 : (j : Int) < 5 := by omega
          have h1 : ((O + m : Nat) : Int) < s.length := by omega
          go_wp2
          go_still_tail 11, (by kernel_rfl)
          change wpList _ _ _ _ _ wr.drew
          go_wp2
          go_roundw
          case rel =>
            refine ⟨m + 1, cx.setIfInBounds j (.int .u64 (acc64 (fcell s j m j) (wd s (O + m)))), by omega, by go_num, by go_num, ?_, by simpa using hcx, fun k hk5 => ?_, ?_, ?_⟩
            · exact heap_setCell_same wr _ j cx _ _ hbx
            · rw [Array.getElem?_setIfInBounds]
              by_cases e : j = k
              · subst e
                have h7 : fcell s j m j = fieldF s O m := by simp only [fcell, Nat.lt_irrefl, if_false, if_true]; rw [HOO.out]
                rw [if_pos rfl, if_pos (by omega), HF.out, h7, fieldF_succ s O m (by omega)]
              · rw [if_neg e, hclx k hk5]
                simp only [fcell]
                rw [if_neg (show ¬ k = j by omega), if_neg (show ¬ k = j by omega)]
            · exact (hkx.setCell (by simp) _).drew
            · simpa [World.drew] using hswx
          case measure => simp [intOf]; omega
        · have hme : m = Z := by omega
          have hge : Z ≤ m := by omega
          have hrow : ∀ k, k < 5 → cx[k]? = some (.int .u64 (fcell s (j + 1) 0 k)) := fun k hk => by rw [hclx k hk, hme, HE.out]
          have hoff : O + m = O1 := by rw [hme]; exact HZ0.out
          have HB2 := Lib.hid hbx
          have HCX := Lib.hid hcx
          have HR := Lib.hid hrow
          have HK2 := Lib.hid hkx
          have HO := Lib.hid hoff
          clear hbx hcx hrow hkx hclx hme hoff hlm hm
          go_wp2
          go_roundw
          case rel =>
            exact ⟨j + 1, cx, by omega, by go_num, by rw [HOF1.out, ← HO.out]; try go_num, HB2.out, HCX.out, HR.out, HK2.out, hswx⟩
          case measure => simp [intOf]; omega
    · have hj5 : j = 5 := by omega
      have hge : 5 ≤ j := by omega
      have HB2 := Lib.hid hbb
      have hcells : cs = #[.int .u64 (fieldF s 0 1), .int .u64 (fieldF s 1 1), .int .u64 (fieldF s 2 4), .int .u64 (fieldF s 6 8), .int .u64 (fieldF s 14 4)] := by
        apply Array.ext_getElem?
        intro k
        by_cases hk5 : k < 5
        · rw [hcl k hk5, hj5]
          have h5 : k = 0 ∨ k = 1 ∨ k = 2 ∨ k = 3 ∨ k = 4 := by omega
          rcases h5 with rfl | rfl | rfl | rfl | rfl <;> rfl
        · rw [Array.getElem?_eq_none (by omega), Array.getElem?_eq_none (by simp; omega)]
      have HCS := Lib.hid hcells
      clear hcs hcl hcells hlt hj hj5
      rw [HCS.out] at hbb
      have c0 := cell_of_row _ _ 0 _ _ _ hbb
      have c1 := cell_of_row _ _ 1 _ _ _ hbb
      have c2 := cell_of_row _ _ 2 _ _ _ hbb
      have c3 := cell_of_row _ _ 3 _ _ _ hbb
      have c4 := cell_of_row _ _ 4 _ _ _ hbb
      have hgr := hk.get (heap_alloc_new _ _) (by simp)
      have hkw : Keep [] w wr := ((Keep.refl _ _).alloc _).trans hk (by simp)
      clear hbb hk
      go_wp2_with (refine wpList_store_part rfl rfl 121 (.tmp 2) (.tmp 30) rfl w.heap.size 0 rfl #[.int .u64 (fieldF s 0 1), .int .u64 (fieldF s 1 1), .int .u64 (fieldF s 2 4), .int .u64 (fieldF s 6 8), .int .u64 (fieldF s 14 4)] rfl 121 _ hgr (by kernel_rfl) (by simp) (by simp [Value.oneCell']) ?_; intro w2 hk2 hh2)
      have hov : over #[.int .u64 0, .int .u64 0, .int .u64 0, .int .u64 0, .int .u64 0] 0 (#[.int .u64 (fieldF s 0 1), .int .u64 (fieldF s 1 1), .int .u64 (fieldF s 2 4), .int .u64 (fieldF s 6 8), .int .u64 (fieldF s 14 4)] : Array Value).toList = #[.int .u64 (fieldF s 0 1), .int .u64 (fieldF s 1 1), .int .u64 (fieldF s 2 4), .int .u64 (fieldF s 6 8), .int .u64 (fieldF s 14 4)] := by
        simp [over]
      rw [hov] at hh2
      exact bodyPost_ret (results_cell_row rfl _ _ w.heap.size _ _ _ _ rfl hh2 Tryd.underlying121 rfl (by kernel_rfl)) rfl ⟨rfl, hkw.trans hk2 (by simp)⟩
end

section
/- strings.Clone (the shelf's proof, turned to this program). -/
open Go.RowKit

set_option maxHeartbeats 4000000 in
set_option maxRecDepth 100000 in
theorem slclone_any (s : ByteArray) (w : World) (hlim : s.size ≤ 281474976710656) :
    Calls Tryd.prog 82 #[.string s] w fun e w' => e = .returned (.string s) ∧ Keep [] w w' := by
  by_cases h0 : s.size = 0
  · have hs : s = ⟨#[]⟩ := by
      apply ByteArray.ext
      exact Array.eq_empty_of_size_eq_zero h0
    subst hs
    go_enter Tryd.func82, Tryd.ntmps82
    go_wp2
    go_ret
    exact ⟨rfl, Keep.refl _ _⟩
  · obtain ⟨i0, hi, hz0, hz1, hz2⟩ := info_parts info_u8
    have hinfo : (Tryd.prog.info? 5).map (·.size) = some 1 := by rw [hi]; simp [hz1]
    have hco : Tryd.prog.cellsOf 5 = 1 := by simp [Program.cellsOf, hi, hz1]
    obtain ⟨M, hM⟩ : ∃ M, M = madeCells (Value.int .u8 0).cells (((s.size : Nat) : Int).toNat * i0.size) := ⟨_, rfl⟩
    have hMs : M.size = s.size := by rw [hM, size_madeCells, hz1]; simp
    have hmk : ∀ W : World, (Instr.makeSlice 35 (.int .i64 (s.size : Int)) (.int .i64 (s.size : Int))).run Tryd.prog W = .ok (.slice (some ⟨W.heap.size, 0, none⟩) s.size s.size) (W.alloc (.cells M 5)) := fun W => by
      have h := run_make (P := Tryd.prog) W 35 5 i0 (.int .u8 0) Tryd.underlying35 hi hz0 .i64 .i64 (s.size : Int) (s.size : Int) (by omega) (by omega) (by rw [hz2]; omega) (by omega)
      rw [← hM] at h
      simpa using h
    clear hM
    have hcp := Lib.run_copy_row_string (P := Tryd.prog) (w.alloc (.cells M 5)) 35 9 3 5 w.heap.size 0 s.size s.size s M 5 Tryd.underlying35 hinfo (heap_alloc_new w _) (Nat.le_refl _) (by omega)
    obtain ⟨Y, hY⟩ : ∃ Y, Y = (M.toList.take 0 ++ Lib.byteCells s.data.toList ++ M.toList.drop (0 + s.size)).toArray := ⟨_, rfl⟩
    rw [← hY] at hcp
    have hYl : Y.toList = Lib.byteCells s.data.toList := by
      rw [hY, List.toList_toArray, List.take_zero, List.nil_append, List.drop_of_length_le (by rw [Array.length_toList]; omega), List.append_nil]
    have hYs : Y.size = s.size := by rw [← Array.length_toList, hYl, Lib.byteCells_length, ← Lib.size_eq]
    have hgY : ((w.alloc (.cells M 5)).setRow w.heap.size Y).heap[w.heap.size]? = some (.cells Y 5 (0, 0)) := setRow_heap _ _ M _ 5 (0, 0) (heap_alloc_new w _)
    have hne : s.data.toList ≠ [] := fun e => h0 (by rw [Lib.size_eq, e]; rfl)
    have hUS := Lib.run_unsafeString_row (P := Tryd.prog) ((w.alloc (.cells M 5)).setRow w.heap.size Y) 140 3 9 5 Tryd.underlying140 hco w.heap.size Y.size (by unfold World.shape?; rw [hgY]) s.data.toList hne (by rw [← Lib.size_eq]; omega) (by rw [← Lib.size_eq]; omega)
      (fun j x hx => Lib.cells_of_row hgY Y.size j _ (by rw [List.take_of_length_le (by rw [Array.length_toList]; exact Nat.le_refl _), hYl]; simp [Lib.byteCells, hx]))
    rw [← Lib.size_eq] at hUS
    clear hY
    go_enter Tryd.func82, Tryd.ntmps82
    go_wp2
    go_ret
    have hb1 : Below w.heap.size w (w.alloc (.cells M 5)) := (Below.refl _ w).alloc (Nat.le_refl _) _
    have hb2 : Below w.heap.size (w.alloc (.cells M 5)) ((w.alloc (.cells M 5)).setRow w.heap.size Y) := ⟨rfl, rfl, rfl, by simp, fun k hk => setRow_other _ _ _ _ (by omega)⟩
    exact ⟨rfl, Keep.ofBelow (Lib.below_freeze (hb1.trans hb2) (p := ⟨w.heap.size, 0, none⟩) (Nat.le_refl _) _) _⟩

set_option maxHeartbeats 400000 in
theorem clone_any (s : ByteArray) (w : World) (hlim : s.size ≤ 281474976710656) :
    Calls Tryd.prog 76 #[.string s] w fun e w' => e = .returned (.string s) ∧ Keep [] w w' := by
  go_enter Tryd.func76, Tryd.ntmps76
  go_wp2_with (go_at_call 82; refine (slclone_any s w hlim).mono ?_; rintro e w1 ⟨rfl, hk1⟩)
  go_ret
  exact ⟨rfl, hk1⟩
end

section
/- What frame.fields reads is a number in big endian. -/
open Go.RowKit

/-- a number in big endian -/
def beVal (l : List UInt8) : Nat := l.foldl (fun v b => v * 256 + b.toNat) 0
theorem beVal_append (l : List UInt8) (b : UInt8) : beVal (l ++ [b]) = beVal l * 256 + b.toNat := by simp [beVal]
theorem be_fold (l : List UInt8) : ∀ v : Nat, l.foldl (fun v b => v * 256 + b.toNat) v < (v + 1) * 256 ^ l.length := by
  induction l with
  | nil => intro v; simp
  | cons b l ih =>
    intro v
    have hb := b.toNat_lt
    simp only [List.foldl_cons, List.length_cons, Nat.pow_succ]
    have h1 := ih (v * 256 + b.toNat)
    have h2 : (v * 256 + b.toNat + 1) * 256 ^ l.length ≤ ((v + 1) * 256) * 256 ^ l.length := Nat.mul_le_mul_right _ (by omega)
    have h3 : ((v + 1) * 256) * 256 ^ l.length = (v + 1) * (256 ^ l.length * 256) := by rw [Nat.mul_assoc, Nat.mul_comm 256]
    omega
theorem beVal_lt (l : List UInt8) : beVal l < 256 ^ l.length := by
  have := be_fold l 0
  simpa [beVal] using this

theorem wraps_u64 (n : Int) (h₀ : 0 ≤ n) (h₁ : n < 2 ^ 64) : IntKind.u64.wrap n = n := by simp [IntKind.wrap, IntKind.bits, IntKind.signed]; omega
theorem acc64_eq (v : Nat) (b : UInt8) (hv : v < 2 ^ 56) : acc64 v b.toNat = ((v * 256 + b.toNat : Nat) : Int) := by
  have hb := b.toNat_lt
  unfold acc64
  rw [wraps_u64 _ (by omega) (by omega), wraps_u64 _ (by omega) (by omega)]
  have h := bits_join .u64 64 (by decide) wraps_u64 8 ((v : Int) * 256) (b.toNat : Int) (by omega) (by omega) (by omega) (by omega) (by omega) (by omega)
  rw [h]
  omega
theorem acc_fold (l : List UInt8) : ∀ (v k : Nat), v < 256 ^ k → k + l.length ≤ 8 → l.foldl (fun v b => acc64 v b.toNat) (v : Int) = ((l.foldl (fun v b => v * 256 + b.toNat) v : Nat) : Int) := by
  induction l with
  | nil => intro v k _ _; rfl
  | cons b l ih =>
    intro v k hv hk
    simp only [List.length_cons] at hk
    have hb := b.toNat_lt
    simp only [List.foldl_cons]
    have h7 : 256 ^ k ≤ 256 ^ 7 := Nat.pow_le_pow_right (by omega) (by omega)
    rw [acc64_eq v b (by omega)]
    exact ih _ (k + 1) (by rw [Nat.pow_succ]; omega) (by omega)
theorem foldl_acc64 (l : List UInt8) (h : l.length ≤ 8) : l.foldl (fun v b => acc64 v b.toNat) 0 = (beVal l : Int) := acc_fold l 0 0 (by simp) (by omega)
theorem fieldF_eq (s : List UInt8) (off n : Nat) (h : n ≤ 8) : fieldF s off n = (beVal ((s.drop off).take n) : Int) := by
  unfold fieldF
  exact foldl_acc64 _ (by simp; omega)
theorem fieldF_bd (s : List UInt8) (off n : Nat) (h : n ≤ 8) : 0 ≤ fieldF s off n ∧ fieldF s off n < ((256 ^ n : Nat) : Int) := by
  rw [fieldF_eq s off n h]
  have h1 := beVal_lt ((s.drop off).take n)
  have h2 : 256 ^ ((s.drop off).take n).length ≤ 256 ^ n := Nat.pow_le_pow_right (by omega) (by simp; omega)
  omega
end
end Go.Proofs.YtgopdbpddemplaaDoor
