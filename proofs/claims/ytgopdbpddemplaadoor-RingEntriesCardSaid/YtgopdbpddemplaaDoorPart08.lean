/- frame.Decode. -/
import Derived.Test.YtgopdbpddemplaaDoorPart07
set_option linter.unusedSimpArgs false
set_option linter.unusedVariables false
namespace Go.Proofs.YtgopdbpddemplaaDoor
section
/- frame.Decode. -/
open Go.RowKit

theorem over_full (cs : Array Value) (l : List Value) (h : l.length = cs.size) : over cs 0 l = l.toArray := by
  have : cs.toList.drop l.length = [] := List.drop_eq_nil_of_le (by rw [h]; simp)
  simp [over, this]

structure FrameV where
  kind : Int
  stream : Int
  number : Int
  payload : List UInt8
def FrameV.value (f : FrameV) : Value := .agg #[.int .i64 f.kind, .int .i64 f.stream, .int .i64 f.number, str f.payload]
def zeroF : FrameV := ⟨0, 0, 0, []⟩

/-- what frame.Decode answers: the frame and what it takes, or an errno -/
def decodeF (x : List UInt8) : Except Int (FrameV × Nat) :=
  let h := x.take 18
  let n := beVal ((h.drop 14).take 4)
  let p := (x.drop 26).take n
  if x = [] then .error 28
  else if x.getD 0 0 ≠ 245 then .error 3
  else if x.length < 26 then .error 28
  else if (x.drop 18).take 8 ≠ (tagged 10 [h]).take 8 then .error 27
  else if 2147483647 < fieldF h 2 4 ∨ 1099511627775 < fieldF h 6 8 then .error 2
  else if 262144 < n then .error 5
  else if x.length < 26 + n + 16 then .error 28
  else if (x.drop (26 + n)).take 16 ≠ (tagged 11 [h, p]).take 16 then .error 27
  else .ok (⟨fieldF h 1 1, fieldF h 2 4, fieldF h 6 8, p⟩, 26 + n + 16)
def decodeV : Except Int (FrameV × Nat) → Value
  | .error e => .tuple #[zeroF.value, .int .i64 0, .int .i64 e]
  | .ok (f, n) => .tuple #[f.value, .int .i64 n, .int .i64 0]

theorem slice_str (s : List UInt8) (a b : Nat) (hb : b ≤ s.length) (ha : a ≤ b) : (ByteArray.mk s.toArray).extract a b = ⟨((s.drop a).take (b - a)).toArray⟩ := by
  apply ByteArray.ext
  simp [List.extract_eq_take_drop]

theorem results_cell_tmps_row {P : Program} {fn : Func} {p u v : Tmp} {ty : TypeId} (h : fn.results = #[.cell p ty, .tmp u, .tmp v]) (tmps : Array Value) (w : World) (g : Nat) (t : TypeId) (cs : Array Value) (fr : Nat × Nat) (d : TypeDesc)
    (hp : tmps.getD p undef = .pointer (some ⟨g, 0, none⟩)) (hg : w.heap[g]? = some (.cells cs t fr))
    (hu : P.underlying ty = some d) (hd : (match d with | .struct _ | .array _ _ => true | _ => false) = true) (hi : (P.info? ty).map (·.size) = some cs.size) :
    (results fn tmps).run P w = .ok (.tuple #[.agg cs, tmps.getD u undef, tmps.getD v undef]) w := by
  have hp' : tmps[p]?.getD undef = .pointer (some ⟨g, 0, none⟩) := by simpa using hp
  simp [results, h, hp', asAddr, run_loadVar_row w g t ty cs fr d hg hu hd hi]

set_option maxRecDepth 100000 in
set_option maxHeartbeats 4000000 in
theorem decode_any (x : List UInt8) (w : World) (hG : Glob w) (hl1 : x.length ≤ 1099511627776) :
    Calls Tryd.prog 62 #[str x] w fun e w' => e = .returned (decodeV (decodeF x)) ∧ Keep [] w w' := by
  have hsz : (ByteArray.mk x.toArray).size = x.length := by simp [ByteArray.size]
  have hgl := hG.lt
  have HG := Lib.hid hG
  clear hG
  unfold str
  go_enter Tryd.func62, Tryd.ntmps62
  by_cases c0 : x = []
  · have hd : decodeF x = .error 28 := by simp [decodeF, c0]
    have hem : x.isEmpty = true := by simp [c0]
    go_wp2
    rw [hd]
    exact bodyPost_ret (results_cell_tmps_row rfl _ _ w.heap.size _ _ _ _ rfl (heap_alloc_new _ _) Tryd.underlying78 rfl (by kernel_rfl)) rfl ⟨rfl, (Keep.refl _ _).alloc _⟩
  have hem : x.isEmpty = false := by simpa using c0
  have hpos : 0 < x.length := by cases x <;> simp at *
  have hix : ∀ w', (Instr.index 9 (.string ⟨x.toArray⟩) (.int .i64 0)).run Tryd.prog w' = .ok (.int .u8 (wd x 0)) w' := fun w' => by simpa using index_str x 0 hpos w'
  by_cases c1 : wd x 0 = 245
  · have hx0 : x.getD 0 0 = 245 := by
      have h1 : (x.getD 0 0).toNat = 245 := by unfold wd at c1; omega
      exact UInt8.toNat_inj.1 h1
    have hb : (wd x 0 != 245) = false := by simp [c1]
    by_cases c2 : x.length < 26
    · have hd : decodeF x = .error 28 := by simp only [decodeF, c0, hx0, c2, if_false, if_true, ne_eq, not_true]
      go_wp2
      rw [hd]
      exact bodyPost_ret (results_cell_tmps_row rfl _ _ w.heap.size _ _ _ _ rfl (heap_alloc_new _ _) Tryd.underlying78 rfl (by kernel_rfl)) rfl ⟨rfl, (Keep.refl _ _).alloc _⟩
    have h26 : 26 ≤ x.length := by omega
    have he : (ByteArray.mk x.toArray).extract 0 18 = ⟨(x.take 18).toArray⟩ := by
      rw [slice_str x 0 18 (by omega) (by omega)]; simp
    have hhl : (x.take 18).length = 18 := by simp; omega
    have HD : Hid (decodeF x = (let n := beVal (((x.take 18).drop 14).take 4)
      let p := (x.drop 26).take n
      if (x.drop 18).take 8 ≠ (tagged 10 [x.take 18]).take 8 then .error 27
      else if 2147483647 < fieldF (x.take 18) 2 4 ∨ 1099511627775 < fieldF (x.take 18) 6 8 then .error 2
      else if 262144 < n then .error 5
      else if x.length < 26 + n + 16 then .error 28
      else if (x.drop (26 + n)).take 16 ≠ (tagged 11 [x.take 18, p]).take 16 then .error 27
      else .ok (⟨fieldF (x.take 18) 1 1, fieldF (x.take 18) 2 4, fieldF (x.take 18) 6 8, p⟩, 26 + n + 16))) := Lib.hid (by
        simp only [decodeF, c0, hx0, c2, if_false, if_true, ne_eq, not_true])
    have hs0 : (ByteArray.mk x.toArray).extract 18 26 = ⟨((x.drop 18).take 8).toArray⟩ := slice_str x 18 26 (by omega) (by omega)
    generalize x.take 18 = h at *
    have HF := Lib.hid (fun w' hG' => fields_any h w' hG' (by omega) (by omega))
    unfold str at HF
    clear c1 c2
    go_upto_region 9 with (go_at_call 75; refine (HF.out _ (HG.out.keep0 ((Keep.refl _ _).alloc _))).mono ?_; rintro e w1 ⟨rfl, hk1⟩)
    have hkw1 : Keep [] w w1 := ((Keep.refl _ _).alloc _).then hk1
    have hr1 : w1.heap[w.heap.size]? = some (.cells #[.int .i64 0, .int .i64 0, .int .i64 0, .string ⟨#[]⟩] 78 (0, 0)) := hk1.get (heap_alloc_new _ _) (by simp)
    obtain ⟨wx, hwx⟩ : ∃ wx, wx = w1.alloc (.cells #[.int .u64 (fieldF h 0 1), .int .u64 (fieldF h 1 1), .int .u64 (fieldF h 2 4), .int .u64 (fieldF h 6 8), .int .u64 (fieldF h 14 4)] 121) := ⟨_, rfl⟩
    have hxa : wx.heap[w1.heap.size]? = some (.cells #[.int .u64 (fieldF h 0 1), .int .u64 (fieldF h 1 1), .int .u64 (fieldF h 2 4), .int .u64 (fieldF h 6 8), .int .u64 (fieldF h 14 4)] 121 (0, 0)) := by rw [hwx]; exact heap_alloc_new _ _
    have hxr : wx.heap[w.heap.size]? = some (.cells #[.int .i64 0, .int .i64 0, .int .i64 0, .string ⟨#[]⟩] 78 (0, 0)) := by rw [hwx]; exact (heap_alloc_past (lt_of_heap hr1)).trans hr1
    have hxk : Keep [] w wx := by rw [hwx]; exact hkw1.alloc _
    rw [← hwx]
    have HXA := Lib.hid hxa
    have HXR := Lib.hid hxr
    have HXK := Lib.hid hxk
    have hGx : Hid (Glob wx) := HG.out.keep0 hxk
    have hlt1 : w.heap.size < w1.heap.size := lt_of_heap hr1
    clear hwx hxa hxr hxk hr1 hk1 hkw1 HF
    (refine wp_region_inv (Keep []) [fun v _ => v = .string ⟨x.toArray⟩, fun v _ => v = str ((x.drop 18).take 8), fun v _ => v = .string ⟨h.toArray⟩,
        fun v w => ∃ g, v = .slice (some ⟨g, 0, none⟩) 1 1 ∧ g < w.heap.size ∧ w.cell? ⟨g, 0, none⟩ = some (str h),
        fun v _ => v = str ((tagged 10 [h]).take 8),
        fun v _ => v = .bool (!((x.drop 18).take 8 == (tagged 10 [h]).take 8)),
        fun v _ => v = .bool (!((x.drop 18).take 8 == (tagged 10 [h]).take 8))] (by kernel_rfl) (by kernel_rfl) (by kernel_rfl) (fun _ _ _ h k => h.then k) (Keep.refl _) ?stab1 ?main1; (case' main1 => (simp only [List.length_cons, List.length_nil, Nat.zero_add, Nat.reduceAdd, AllVals]; intro v0 v1 v2 v3 v4 v5 v6; simp only [putAll, Act.put, List.setIfInBounds_toArray, List.set_cons_zero, List.set_cons_succ, StepsAt]; refine ⟨?steps1, ?after1⟩)); (case' steps1 => (repeat' apply And.intro)); (case' stab1 => (simp only [Stable])))
    case stab1 =>
      refine ⟨fun _ _ _ _ h => h, fun _ _ _ _ h => h, fun _ _ _ _ h => h, fun w w' v hk h => ?_, fun _ _ _ _ h => h, fun _ _ _ _ h => h, fun _ _ _ _ h => h, trivial⟩
      obtain ⟨g, h1, h2, h3⟩ := h
      exact ⟨g, h1, hk.lt h2, hk.cell h3 (by simp)⟩
    all_goals try (first | trivial | ((intro wq K hRq hPq hKq; simp only [Pre, Region.binds, List.getD_cons_zero, List.getD_cons_succ, true_imp_iff, forall_const, and_true, true_and] at hPq; simp only [Act.put, List.setIfInBounds_toArray, List.set_cons_zero, List.set_cons_succ] at hKq); go_split_ands; subst_vars; (try unfold str at *); go_wp2; first | exact hKq _ _ (Keep.refl _ _) rfl | exact hKq _ _ (Keep.refl _ _) trivial | exact hKq _ _ (FinR.refl _ _ _) rfl | exact hKq _ _ (FinR.refl _ _ _) trivial))
    · (intro wq K hR hP hK; simp only [Pre, Region.binds, List.getD_cons_zero, List.getD_cons_succ, true_imp_iff, forall_const, and_true, true_and] at hP; simp only [Act.put, List.setIfInBounds_toArray, List.set_cons_zero, List.set_cons_succ] at hK)
      subst hP
      go_wp2
      refine hK _ _ ((Keep.refl _ _).alloc _) ⟨wq.heap.size, rfl, by simp, ?_⟩
      exact cell_of_row _ _ 0 _ _ _ (heap_alloc_at rfl)
    · (intro wq K hR hP hK; simp only [Pre, Region.binds, List.getD_cons_zero, List.getD_cons_succ, true_imp_iff, forall_const, and_true, true_and] at hP; simp only [Act.put, List.setIfInBounds_toArray, List.set_cons_zero, List.set_cons_succ] at hK)
      obtain ⟨g, rfl, hg, hc⟩ := hP
      have HC := Lib.hid (check_any 8 10 g 0 [h] wq (hGx.out.keep0 (hR.drew')) (by omega) (by omega) (by omega) (fun i hi => by obtain rfl : i = 0 := (by simpa using hi); exact hc) (by simp) (by simp [total, hhl]))
      go_wp2_with (go_at_call 66; refine HC.out.mono ?_; rintro e w2 ⟨rfl, hk2⟩)
      exact hK _ _ hk2 rfl
    (intro wz hkz hz; simp only [AllAt] at hz)
    obtain ⟨-, -, -, -, -, -, h6, -⟩ := hz
    subst h6
    have hza := hkz.drew'.get HXA.out (by simp)
    have hzr := hkz.drew'.get HXR.out (by simp)
    have hzk : Keep [] w wz := HXK.out.then hkz.drew'
    have hGz : Hid (Glob wz) := HG.out.keep0 hzk
    have q1 : wz.cell? ⟨w1.heap.size, 1, none⟩ = some (.int .u64 (fieldF h 1 1)) := cell_of_row _ _ 1 _ _ _ hza
    have q2 : wz.cell? ⟨w1.heap.size, 2, none⟩ = some (.int .u64 (fieldF h 2 4)) := cell_of_row _ _ 2 _ _ _ hza
    have q3 : wz.cell? ⟨w1.heap.size, 3, none⟩ = some (.int .u64 (fieldF h 6 8)) := cell_of_row _ _ 3 _ _ _ hza
    have q4 : wz.cell? ⟨w1.heap.size, 4, none⟩ = some (.int .u64 (fieldF h 14 4)) := cell_of_row _ _ 4 _ _ _ hza
    obtain ⟨f10, f11⟩ := fieldF_bd h 1 1 (by omega)
    obtain ⟨f20, f21⟩ := fieldF_bd h 2 4 (by omega)
    obtain ⟨f30, f31⟩ := fieldF_bd h 6 8 (by omega)
    have f4e := fieldF_eq h 14 4 (by omega)
    rw [f4e] at q4
    have f41 : beVal ((h.drop 14).take 4) < 256 ^ 4 := by have := beVal_lt ((h.drop 14).take 4); have h2 : 256 ^ ((h.drop 14).take 4).length ≤ 256 ^ 4 := Nat.pow_le_pow_right (by omega) (by simp; omega)
                                                          omega
    generalize fieldF h 1 1 = F1 at *
    generalize fieldF h 2 4 = F2 at *
    generalize fieldF h 6 8 = F3 at *
    generalize beVal ((h.drop 14).take 4) = n at *
    replace f11 : F1 < 256 := by omega
    replace f21 : F2 < 4294967296 := by omega
    replace f31 : F3 < 18446744073709551616 := by omega
    replace f41 : n < 4294967296 := by omega
    have HZR := Lib.hid hzr
    clear f4e HXA HXR HXK hGx hza
    by_cases c3 : (x.drop 18).take 8 = (tagged 10 [h]).take 8
    · have hbq : (!((x.drop 18).take 8 == (tagged 10 [h]).take 8)) = false := by simp [c3]
      rw [hbq]
      by_cases c4 : 2147483647 < F2 ∨ 1099511627775 < F3
      · have hd : decodeF x = .error 2 := by rw [HD.out, if_neg (by simpa using c3), if_pos c4]
        by_cases e2 : 2147483647 < F2
        · go_wp2_with (refine wpList_store_part rfl rfl 78 (.tmp 2) (.tmp 44) rfl w.heap.size 0 rfl #[.int .i64 0, .int .i64 0, .int .i64 0, .string ⟨#[]⟩] rfl 78 _ HZR.out (by kernel_rfl) (by simp) (by simp [Value.oneCell']) ?_; intro w2 hk2 hh2)
          have hov : over #[.int .i64 0, .int .i64 0, .int .i64 0, .string ⟨#[]⟩] 0 (#[.int .i64 0, .int .i64 0, .int .i64 0, .string ⟨#[]⟩] : Array Value).toList = #[.int .i64 0, .int .i64 0, .int .i64 0, .string ⟨#[]⟩] := by simp [over]
          rw [hov] at hh2
          exact bodyPost_ret (results_cell_tmps_row rfl _ _ w.heap.size _ _ _ _ rfl hh2 Tryd.underlying78 rfl (by kernel_rfl)) rfl ⟨by first | rfl | (rw [hd]; rfl), hzk.trans hk2 (by simp)⟩
        · have e3 : 1099511627775 < F3 := c4.resolve_left e2
          go_wp2_with (refine wpList_store_part rfl rfl 78 (.tmp 2) (.tmp 44) rfl w.heap.size 0 rfl #[.int .i64 0, .int .i64 0, .int .i64 0, .string ⟨#[]⟩] rfl 78 _ HZR.out (by kernel_rfl) (by simp) (by simp [Value.oneCell']) ?_; intro w2 hk2 hh2)
          have hov : over #[.int .i64 0, .int .i64 0, .int .i64 0, .string ⟨#[]⟩] 0 (#[.int .i64 0, .int .i64 0, .int .i64 0, .string ⟨#[]⟩] : Array Value).toList = #[.int .i64 0, .int .i64 0, .int .i64 0, .string ⟨#[]⟩] := by simp [over]
          rw [hov] at hh2
          exact bodyPost_ret (results_cell_tmps_row rfl _ _ w.heap.size _ _ _ _ rfl hh2 Tryd.underlying78 rfl (by kernel_rfl)) rfl ⟨by first | rfl | (rw [hd]; rfl), hzk.trans hk2 (by simp)⟩
      have c4a : ¬ 2147483647 < F2 := fun e => c4 (.inl e)
      have c4b : ¬ 1099511627775 < F3 := fun e => c4 (.inr e)
      by_cases c5 : 262144 < n
      · have hd : decodeF x = .error 5 := by rw [HD.out, if_neg (by simpa using c3), if_neg c4, if_pos c5]
        have c5' : 262144 < (n : Int) := by omega
        go_wp2_with (refine wpList_store_part rfl rfl 78 (.tmp 2) (.tmp 49) rfl w.heap.size 0 rfl #[.int .i64 0, .int .i64 0, .int .i64 0, .string ⟨#[]⟩] rfl 78 _ HZR.out (by kernel_rfl) (by simp) (by simp [Value.oneCell']) ?_; intro w2 hk2 hh2)
        have hov : over #[.int .i64 0, .int .i64 0, .int .i64 0, .string ⟨#[]⟩] 0 (#[.int .i64 0, .int .i64 0, .int .i64 0, .string ⟨#[]⟩] : Array Value).toList = #[.int .i64 0, .int .i64 0, .int .i64 0, .string ⟨#[]⟩] := by simp [over]
        rw [hov] at hh2
        exact bodyPost_ret (results_cell_tmps_row rfl _ _ w.heap.size _ _ _ _ rfl hh2 Tryd.underlying78 rfl (by kernel_rfl)) rfl ⟨by first | rfl | (rw [hd]; rfl), hzk.trans hk2 (by simp)⟩
      by_cases c6 : x.length < 26 + n + 16
      · have hd : decodeF x = .error 28 := by rw [HD.out, if_neg (by simpa using c3), if_neg c4, if_neg c5, if_pos c6]
        have c6' : (x.length : Int) < 26 + n + 16 := by omega
        have c5' : ¬ 262144 < (n : Int) := by omega
        go_wp2_with (refine wpList_store_part rfl rfl 78 (.tmp 2) (.tmp 59) rfl w.heap.size 0 rfl #[.int .i64 0, .int .i64 0, .int .i64 0, .string ⟨#[]⟩] rfl 78 _ HZR.out (by kernel_rfl) (by simp) (by simp [Value.oneCell']) ?_; intro w2 hk2 hh2)
        have hov : over #[.int .i64 0, .int .i64 0, .int .i64 0, .string ⟨#[]⟩] 0 (#[.int .i64 0, .int .i64 0, .int .i64 0, .string ⟨#[]⟩] : Array Value).toList = #[.int .i64 0, .int .i64 0, .int .i64 0, .string ⟨#[]⟩] := by simp [over]
        rw [hov] at hh2
        exact bodyPost_ret (results_cell_tmps_row rfl _ _ w.heap.size _ _ _ _ rfl hh2 Tryd.underlying78 rfl (by kernel_rfl)) rfl ⟨by first | rfl | (rw [hd]; rfl), hzk.trans hk2 (by simp)⟩
      have c5' : ¬ 262144 < (n : Int) := by omega
      have c6' : ¬ (x.length : Int) < 26 + n + 16 := by omega
      have c5n : n ≤ 262144 := by omega
      have c6n : 26 + n + 16 ≤ x.length := by omega
      have t1 : (26 + (n : Int)).toNat = 26 + n := by omega
      have t2 : (26 + (n : Int) + 16).toNat = 26 + n + 16 := by omega
      have hs1 : (ByteArray.mk x.toArray).extract 26 (26 + n) = ⟨((x.drop 26).take n).toArray⟩ := by
        rw [slice_str x 26 (26 + n) (by omega) (by omega)]; simp
      have hs2 : (ByteArray.mk x.toArray).extract (26 + n) (26 + n + 16) = ⟨((x.drop (26 + n)).take 16).toArray⟩ := by
        rw [slice_str x (26 + n) (26 + n + 16) (by omega) (by omega)]; simp
      have w1' : 26 + (n : Int) ≤ x.length := by omega
      have hpl : ((x.drop 26).take n).length = n := by simp; omega
      generalize hpp : (x.drop 26).take n = p at *
      go_upto_region 19 with fail
      (refine wp_region_inv (Keep []) [fun v _ => v = .string ⟨x.toArray⟩, fun v _ => v = .int .i64 (26 + n), fun v _ => v = .int .i64 (26 + n), fun v _ => v = .int .i64 (26 + n + 16),
          fun v _ => v = str ((x.drop (26 + n)).take 16), fun v _ => v = .string ⟨h.toArray⟩, fun v _ => v = .string ⟨p.toArray⟩,
          fun v w => ∃ g, v = .slice (some ⟨g, 0, none⟩) 2 2 ∧ g < w.heap.size ∧ w.cell? ⟨g, 0, none⟩ = some (str h) ∧ w.cell? ⟨g, 1, none⟩ = some (str p),
          fun v _ => v = str ((tagged 11 [h, p]).take 16),
          fun v _ => v = .bool (!((x.drop (26 + n)).take 16 == (tagged 11 [h, p]).take 16))] (by kernel_rfl) (by kernel_rfl) (by kernel_rfl) (fun _ _ _ h k => h.then k) (Keep.refl _) ?stab2 ?main2; (case' main2 => (simp only [List.length_cons, List.length_nil, Nat.zero_add, Nat.reduceAdd, AllVals]; intro y0 y1 y2 y3 y4 y5 y6 y7 y8 y9; simp only [putAll, Act.put, List.setIfInBounds_toArray, List.set_cons_zero, List.set_cons_succ, StepsAt]; refine ⟨?steps2, ?after2⟩)); (case' steps2 => (repeat' apply And.intro)); (case' stab2 => (simp only [Stable])))
      case stab2 =>
        refine ⟨fun _ _ _ _ h => h, fun _ _ _ _ h => h, fun _ _ _ _ h => h, fun _ _ _ _ h => h, fun _ _ _ _ h => h, fun _ _ _ _ h => h, fun _ _ _ _ h => h, fun w w' v hk h => ?_, fun _ _ _ _ h => h, fun _ _ _ _ h => h, trivial⟩
        obtain ⟨g, h1, h2, h3, h4⟩ := h
        exact ⟨g, h1, hk.lt h2, hk.cell h3 (by simp), hk.cell h4 (by simp)⟩
      all_goals try (first | trivial | ((intro wq K hRq hPq hKq; simp only [Pre, Region.binds, List.getD_cons_zero, List.getD_cons_succ, true_imp_iff, forall_const, and_true, true_and] at hPq; simp only [Act.put, List.setIfInBounds_toArray, List.set_cons_zero, List.set_cons_succ] at hKq); go_split_ands; subst_vars; (try unfold str at *); go_wp2; first | exact hKq _ _ (Keep.refl _ _) rfl | exact hKq _ _ (Keep.refl _ _) trivial | exact hKq _ _ (FinR.refl _ _ _) rfl | exact hKq _ _ (FinR.refl _ _ _) trivial))
      · (intro wq K hR hP hK; simp only [Pre, Region.binds, List.getD_cons_zero, List.getD_cons_succ, true_imp_iff, forall_const, and_true, true_and] at hP; simp only [Act.put, List.setIfInBounds_toArray, List.set_cons_zero, List.set_cons_succ] at hK)
        obtain ⟨rfl, rfl⟩ := hP
        go_wp2
        refine hK _ _ ((Keep.refl _ _).alloc _) ⟨wq.heap.size, rfl, by simp, ?_, ?_⟩
        · exact cell_of_row _ _ 0 _ _ _ (heap_alloc_at rfl)
        · exact cell_of_row _ _ 1 _ _ _ (heap_alloc_at rfl)
      · (intro wq K hR hP hK; simp only [Pre, Region.binds, List.getD_cons_zero, List.getD_cons_succ, true_imp_iff, forall_const, and_true, true_and] at hP; simp only [Act.put, List.setIfInBounds_toArray, List.set_cons_zero, List.set_cons_succ] at hK)
        obtain ⟨g, rfl, hg, hc, hc1⟩ := hP
        have hps : ∀ i, i < [h, p].length → wq.cell? ⟨g, 0 + i, none⟩ = some (str ([h, p].getD i [])) := fun i hi => by
          have h2 : i = 0 ∨ i = 1 := by simp at hi; omega
          rcases h2 with rfl | rfl
          · exact hc
          · exact hc1
        have HC := Lib.hid (check_any 16 11 g 0 [h, p] wq (hGz.out.keep0 (hR.drew')) (by omega) (by omega) (by omega) hps (by simp) (by simp [total, hhl, hpl]; omega))
        go_wp2_with (go_at_call 66; refine HC.out.mono ?_; rintro e w2 ⟨rfl, hk2⟩)
        exact hK _ _ hk2 rfl
      (intro wy hky hy; simp only [AllAt] at hy)
      obtain ⟨-, -, -, -, -, -, -, -, -, h9, -⟩ := hy
      subst h9
      have hyk : Keep [] w wy := hzk.then hky.drew'
      have hyr := hky.drew'.get HZR.out (by simp)
      by_cases c7 : (x.drop (26 + n)).take 16 = (tagged 11 [h, p]).take 16
      · have hbq2 : (!((x.drop (26 + n)).take 16 == (tagged 11 [h, p]).take 16)) = false := by simp [c7]
        rw [hbq2]
        have hd : decodeF x = .ok (⟨F1, F2, F3, p⟩, 26 + n + 16) := by
          rw [HD.out, if_neg (by simpa using c3), if_neg c4, if_neg c5, if_neg c6, if_neg (by simpa using c7)]
        have p1 := hky.drew'.cell q1 (by simp)
        have p2 := hky.drew'.cell q2 (by simp)
        have p3 := hky.drew'.cell q3 (by simp)
        go_upto_region 21 with fail
        (refine wp_region_inv (FinR w.heap.size (.cells #[.int .i64 F1, .int .i64 F2, .int .i64 F3, .string ⟨p.toArray⟩] 78)) [fun v _ => v = .pointer (some ⟨w1.heap.size, 1, none⟩), fun v _ => v = .int .u64 F1, fun v _ => v = .int .i64 F1,
           fun v _ => v = .pointer (some ⟨w1.heap.size, 2, none⟩), fun v _ => v = .int .u64 F2, fun v _ => v = .int .i64 F2,
           fun v _ => v = .pointer (some ⟨w1.heap.size, 3, none⟩), fun v _ => v = .int .u64 F3, fun v _ => v = .int .i64 F3,
           fun v _ => v = .string ⟨p.toArray⟩, fun v _ => v = .string ⟨p.toArray⟩,
           fun v _ => v = .agg #[.int .i64 F1, .int .i64 F2, .int .i64 F3, .string ⟨p.toArray⟩],
           fun v _ => v = .int .i64 (26 + n), fun v _ => v = .int .i64 (26 + n + 16),
           fun _ w' => w'.heap[w.heap.size]? = some (.cells #[.int .i64 F1, .int .i64 F2, .int .i64 F3, .string ⟨p.toArray⟩] 78),
           fun v _ => v = .int .i64 (26 + n + 16), fun v _ => v = .int .i64 0] (by kernel_rfl) (by kernel_rfl) (by kernel_rfl) (fun _ _ _ h k => h.trans k) (FinR.refl _ _) ?stab3 ?main3; (case' main3 => (simp only [List.length_cons, List.length_nil, Nat.zero_add, Nat.reduceAdd, AllVals]; intro z0 z1 z2 z3 z4 z5 z6 z7 z8 z9 z10 z11 z12 z13 z14 z15 z16; simp only [putAll, Act.put, List.setIfInBounds_toArray, List.set_cons_zero, List.set_cons_succ, StepsAt]; refine ⟨?steps3, ?after3⟩)); (case' steps3 => (repeat' apply And.intro)); (case' stab3 => (simp only [Stable])))
        case stab3 =>
          refine ⟨fun _ _ _ _ h => h, fun _ _ _ _ h => h, fun _ _ _ _ h => h, fun _ _ _ _ h => h, fun _ _ _ _ h => h, fun _ _ _ _ h => h, fun _ _ _ _ h => h, fun _ _ _ _ h => h, fun _ _ _ _ h => h, fun _ _ _ _ h => h, fun _ _ _ _ h => h, fun _ _ _ _ h => h, fun _ _ _ _ h => h, fun _ _ _ _ h => h, fun _ _ _ hk h => hk.fin h, fun _ _ _ _ h => h, fun _ _ _ _ h => h, trivial⟩
        all_goals try (first | trivial | ((intro wq K hRq hPq hKq; simp only [Pre, Region.binds, List.getD_cons_zero, List.getD_cons_succ, true_imp_iff, forall_const, and_true, true_and] at hPq; simp only [Act.put, List.setIfInBounds_toArray, List.set_cons_zero, List.set_cons_succ] at hKq); go_split_ands; subst_vars; (try unfold str at *); go_wp2; first | exact hKq _ _ (Keep.refl _ _) rfl | exact hKq _ _ (Keep.refl _ _) trivial | exact hKq _ _ (FinR.refl _ _ _) rfl | exact hKq _ _ (FinR.refl _ _ _) trivial))
        · (intro wq K hR hP hK; simp only [Pre, Region.binds, List.getD_cons_zero, List.getD_cons_succ, true_imp_iff, forall_const, and_true, true_and] at hP; simp only [Act.put, List.setIfInBounds_toArray, List.set_cons_zero, List.set_cons_succ] at hK)
          subst hP
          have hc := hR.keep.drew'.cell p1 (by simp; omega)
          go_wp2
          exact hK _ _ (FinR.refl _ _ _) rfl
        · (intro wq K hR hP hK; simp only [Pre, Region.binds, List.getD_cons_zero, List.getD_cons_succ, true_imp_iff, forall_const, and_true, true_and] at hP; simp only [Act.put, List.setIfInBounds_toArray, List.set_cons_zero, List.set_cons_succ] at hK)
          subst hP
          have hc := hR.keep.drew'.cell p2 (by simp; omega)
          go_wp2
          exact hK _ _ (FinR.refl _ _ _) rfl
        · (intro wq K hR hP hK; simp only [Pre, Region.binds, List.getD_cons_zero, List.getD_cons_succ, true_imp_iff, forall_const, and_true, true_and] at hP; simp only [Act.put, List.setIfInBounds_toArray, List.set_cons_zero, List.set_cons_succ] at hK)
          subst hP
          have hc := hR.keep.drew'.cell p3 (by simp; omega)
          go_wp2
          exact hK _ _ (FinR.refl _ _ _) rfl
        · (intro wq K hR hP hK; simp only [Pre, Region.binds, List.getD_cons_zero, List.getD_cons_succ, true_imp_iff, forall_const, and_true, true_and] at hP; simp only [Act.put, List.setIfInBounds_toArray, List.set_cons_zero, List.set_cons_succ] at hK)
          subst hP
          have hq8 : (ByteArray.mk p.toArray).size ≤ 281474976710656 := by simp [ByteArray.size]; omega
          go_wp2_with (go_at_call 76; refine (clone_any _ _ hq8).mono ?_; rintro e w2 ⟨rfl, hk2⟩)
          exact hK _ _ (FinR.of hk2) rfl
        · (intro wq K hR hP hK; simp only [Pre, Region.binds, List.getD_cons_zero, List.getD_cons_succ, true_imp_iff, forall_const, and_true, true_and] at hP; simp only [Act.put, List.setIfInBounds_toArray, List.set_cons_zero, List.set_cons_succ] at hK)
          obtain ⟨rfl, -⟩ := hP
          obtain ⟨cs, hcs, hcz⟩ := hR.shape 78 4 ⟨_, hyr, rfl⟩
          go_wp2_with (refine wpList_store_part rfl rfl 78 (.tmp 2) (.tmp 85) rfl w.heap.size 0 rfl #[.int .i64 F1, .int .i64 F2, .int .i64 F3, .string ⟨p.toArray⟩] rfl 78 _ hcs (by kernel_rfl) (by simp; omega) (by simp [Value.oneCell']) ?_; intro w2 hk2 hh2)
          rw [over_full cs _ (by simpa using hcz.symm)] at hh2
          exact hK undef _ (FinR.put hk2 hcs hh2 (by simpa using hcz)) hh2
        (intro wf hkf hf; simp only [AllAt] at hf)
        obtain ⟨-, -, -, -, -, -, -, -, -, -, -, -, -, -, h14, h15, h16, -⟩ := hf
        subst h15 h16
        have hkf' : Keep [] w wf := hyk.trans hkf.keep.drew' (by simp)
        go_wp2
        try rw [hd]
        refine bodyPost_ret (results_cell_tmps_row rfl _ _ w.heap.size _ _ _ _ rfl h14 Tryd.underlying78 rfl (by kernel_rfl)) rfl ⟨?_, hkf'⟩
        simp [decodeV, FrameV.value, str]
      · have hd : decodeF x = .error 27 := by rw [HD.out, if_neg (by simpa using c3), if_neg c4, if_neg c5, if_neg c6, if_pos (by simpa using c7)]
        have hbq2 : (!((x.drop (26 + n)).take 16 == (tagged 11 [h, p]).take 16)) = true := by simp [c7]
        rw [hbq2]
        go_wp2_with (refine wpList_store_part rfl rfl 78 (.tmp 2) (.tmp 73) rfl w.heap.size 0 rfl #[.int .i64 0, .int .i64 0, .int .i64 0, .string ⟨#[]⟩] rfl 78 _ hyr (by kernel_rfl) (by simp) (by simp [Value.oneCell']) ?_; intro w2 hk2 hh2)
        have hov : over #[.int .i64 0, .int .i64 0, .int .i64 0, .string ⟨#[]⟩] 0 (#[.int .i64 0, .int .i64 0, .int .i64 0, .string ⟨#[]⟩] : Array Value).toList = #[.int .i64 0, .int .i64 0, .int .i64 0, .string ⟨#[]⟩] := by simp [over]
        rw [hov] at hh2
        exact bodyPost_ret (results_cell_tmps_row rfl _ _ w.heap.size _ _ _ _ rfl hh2 Tryd.underlying78 rfl (by kernel_rfl)) rfl ⟨by first | rfl | (rw [hd]; rfl), hyk.trans hk2 (by simp)⟩
    · have hd : decodeF x = .error 27 := by rw [HD.out, if_pos c3]
      have hbq : (!((x.drop 18).take 8 == (tagged 10 [h]).take 8)) = true := by simp [c3]
      rw [hbq]
      go_wp2_with (refine wpList_store_part rfl rfl 78 (.tmp 2) (.tmp 34) rfl w.heap.size 0 rfl #[.int .i64 0, .int .i64 0, .int .i64 0, .string ⟨#[]⟩] rfl 78 _ hzr (by kernel_rfl) (by simp) (by simp [Value.oneCell']) ?_; intro w2 hk2 hh2)
      have hov : over #[.int .i64 0, .int .i64 0, .int .i64 0, .string ⟨#[]⟩] 0 (#[.int .i64 0, .int .i64 0, .int .i64 0, .string ⟨#[]⟩] : Array Value).toList = #[.int .i64 0, .int .i64 0, .int .i64 0, .string ⟨#[]⟩] := by simp [over]
      rw [hov] at hh2
      exact bodyPost_ret (results_cell_tmps_row rfl _ _ w.heap.size _ _ _ _ rfl hh2 Tryd.underlying78 rfl (by kernel_rfl)) rfl ⟨by first | rfl | (rw [hd]; rfl), hzk.trans hk2 (by simp)⟩
  · have hd : decodeF x = .error 3 := by
      have : x.getD 0 0 ≠ 245 := fun e => c1 (by unfold wd; rw [e]; rfl)
      simp only [decodeF, c0, this, if_false, if_true, ne_eq, not_false_eq_true]
    have hb : (wd x 0 != 245) = true := by simpa using c1
    go_wp2
    rw [hd]
    exact bodyPost_ret (results_cell_tmps_row rfl _ _ w.heap.size _ _ _ _ rfl (heap_alloc_new _ _) Tryd.underlying78 rfl (by kernel_rfl)) rfl ⟨rfl, (Keep.refl _ _).alloc _⟩
end
end Go.Proofs.YtgopdbpddemplaaDoor
