/- ring: head. -/
import Derived.Test.YtgopdbpddemplaaDoorPart20
import Derived.Test.YtgopdbpddemplaaDoorPart18
import Derived.Laws.IdiomStrings
set_option linter.unusedSimpArgs false
set_option linter.unusedVariables false
namespace Go.Proofs.YtgopdbpddemplaaDoor
section
/- ring: head. -/
open Go.RowKit

/-- []byte(s) -/
theorem run_bytes_of (l : List UInt8) (w : World) : ∃ g cap w', (convert 9 35 (.string ⟨l.toArray⟩)).run Tryd.prog w = .ok (.slice (some ⟨g, 0, none⟩) l.length cap) w' ∧ Reads w' (.slice (some ⟨g, 0, none⟩) l.length cap) l ∧ Keep [] w w' := by
  have h := run_bytes_of_string (P := Tryd.prog) w 9 35 5 ⟨l.toArray⟩ Tryd.underlying9 Tryd.underlying35 Tryd.underlying5
  have hsz : (ByteArray.mk l.toArray).size = l.length := by simp [ByteArray.size]
  rw [hsz] at h
  refine ⟨_, _, _, h, ?_, ((Keep.refl _ _).drew).alloc _⟩
  refine Reads.at _ 0 _ l ?_ ?_
  · exact grownCap_ge _ _ _ _
  · intro i hi
    rw [Nat.zero_add, cell_of_row _ w.heap.size i _ _ _ (heap_alloc_new w.drew _), bytesRow_at _ _ i (by simpa using hi)]
    simp [B8, List.getD_eq_getElem?_getD, hi]
/-- what Decode answers, in parts; and what head makes of them -/
theorem head_parts (d : DK) (a : AR) (n : Nat) : ∃ (k st nu : Int) (pl : List UInt8) (sz e0 : Int), decodeV (decodeF (d.vis ((a.first + n : Nat) : Int))) = .tuple #[.agg #[.int .i64 k, .int .i64 st, .int .i64 nu, .string ⟨pl.toArray⟩], .int .i64 sz, .int .i64 e0] ∧
    0 ≤ st ∧ st ≤ 2147483647 ∧ pl.length ≤ 262144 ∧ (e0 ≠ 0 → headF d a n = none) ∧ (e0 = 0 → ¬ (k = 1 ∧ nu = 0 ∧ st % 2 = n) → headF d a n = none) ∧
    (e0 = 0 → k = 1 → nu = 0 → st % 2 = n → headF d a n =
      if (rdNum st (rdNum ((a.places : Int) - 1) (rdNum 1099511627775 (pl, 0)).2).2).2.2 = 0 ∧ (rdNum st (rdNum ((a.places : Int) - 1) (rdNum 1099511627775 (pl, 0)).2).2).2.1 = [] then
        some ⟨st.toNat, (rdNum 1099511627775 (pl, 0)).1.toNat, (rdNum ((a.places : Int) - 1) (rdNum 1099511627775 (pl, 0)).2).1.toNat, (rdNum st (rdNum ((a.places : Int) - 1) (rdNum 1099511627775 (pl, 0)).2).2).1.toNat⟩ else none) := by
  cases hdec : decodeF (d.vis ((a.first + n : Nat) : Int)) with
  | error e =>
    refine ⟨0, 0, 0, [], 0, e, rfl, by omega, by omega, by simp, fun _ => ?_, fun h => absurd h (decodeF_err hdec), fun h => absurd h (decodeF_err hdec)⟩
    unfold headF; rw [hdec]
  | ok fs =>
    obtain ⟨⟨k, st, nu, pl⟩, sz⟩ := fs
    obtain ⟨h1, h2, _, _, h5⟩ := decodeF_ok hdec
    refine ⟨k, st, nu, pl, sz, 0, rfl, h1, h2, h5, fun h => absurd rfl h, fun _ hc => ?_, fun _ c1 c2 c3 => ?_⟩
    · unfold headF; rw [hdec]; simp only; rw [if_neg hc]
    · unfold headF; rw [hdec]; simp only; rw [if_pos ⟨c1, c2, c3⟩]

/-- where the reader stands, told by the operations that have come -/
def stg (r0 r1 r2 r3 : List UInt8 × Int) (listed : Array Bool) : List UInt8 × Int :=
  if listed.getD 12 false = true then r3 else if listed.getD 8 false = true then r2 else if listed.getD 3 false = true then r1 else r0
def GH (p : Nat) (w5 : World) (r0 r1 r2 r3 : List UInt8 × Int) (C : Array Value) (listed : Array Bool) (vs : List Value) (w : World) : Prop :=
  Keep [p] w5 w ∧ ReaderAt w p (stg r0 r1 r2 r3 listed).1 (stg r0 r1 r2 r3 listed).2 ∧
  (listed.getD 15 false = true → ∃ q, vs.getD 14 undef = .pointer (some ⟨q, 0, none⟩) ∧ w5.heap.size ≤ q ∧ w.heap[q]? = some (.cells C 61 (0, 0)))
theorem ReaderAt.keep0 {w w' : World} {p : Nat} {l : List UInt8} {e : Int} (h : ReaderAt w p l e) (hk : Keep [] w w') : ReaderAt w' p l e := by
  obtain ⟨v, n, hp, hv, hn⟩ := h
  exact ⟨v, n, hk.get hp (by simp), hv.keep hk (by simp), hn⟩
theorem GH.step {p : Nat} {w5 : World} {r0 r1 r2 r3 : List UInt8 × Int} {C : Array Value} {listed : Array Bool} {vs : List Value} {w : World} (h : GH p w5 r0 r1 r2 r3 C listed vs w) (i : Nat) (hi : i ≠ 3 ∧ i ≠ 8 ∧ i ≠ 12 ∧ i ≠ 15) (h15 : listed.getD 15 false = false) (vs' : List Value) (w' : World) (hk : Keep [] w w') :
    GH p w5 r0 r1 r2 r3 C (listed.setIfInBounds i true) vs' w' := by
  obtain ⟨h1, h2, _⟩ := h
  have e : stg r0 r1 r2 r3 (listed.setIfInBounds i true) = stg r0 r1 r2 r3 listed := by
    unfold stg
    rw [getD_set_other hi.1, getD_set_other hi.2.1, getD_set_other hi.2.2.1]
  refine ⟨h1.then hk, by rw [e]; exact h2.keep0 hk, fun hc => ?_⟩
  rw [getD_set_other hi.2.2.2, h15] at hc
  cases hc
theorem GH.num {p : Nat} {w5 : World} {r0 r1 r2 r3 : List UInt8 × Int} {C : Array Value} {listed : Array Bool} {vs : List Value} {w : World} (h : GH p w5 r0 r1 r2 r3 C listed vs w) (i : Nat) (hi : i ≠ 15) (h15 : listed.getD 15 false = false) (vs' : List Value) (w' : World) (hk : Keep [p] w w')
    (hr : ReaderAt w' p (stg r0 r1 r2 r3 (listed.setIfInBounds i true)).1 (stg r0 r1 r2 r3 (listed.setIfInBounds i true)).2) : GH p w5 r0 r1 r2 r3 C (listed.setIfInBounds i true) vs' w' := by
  obtain ⟨h1, _, _⟩ := h
  refine ⟨h1.trans hk (fun _ hx => .inl hx), hr, fun hc => ?_⟩
  rw [getD_set_other hi, h15] at hc
  cases hc
def I64s (cs : Array Value) : Prop := ∀ (i : Nat) (c : Value), cs[i]? = some c → ∃ z, c = .int .i64 z
/-- rows of one type stay rows of that type and size -/
def ShapeR (t : TypeId) (a b : World) : Prop := ∀ (q : Nat) (cs : Array Value), a.heap[q]? = some (.cells cs t (0, 0)) → ∃ cs' : Array Value, b.heap[q]? = some (.cells cs' t (0, 0)) ∧ cs'.size = cs.size ∧ (I64s cs → I64s cs')
theorem ShapeR.refl (t : TypeId) (a : World) : ShapeR t a a := fun _ cs h => ⟨cs, h, rfl, id⟩
theorem ShapeR.trans {t : TypeId} {a b c : World} (h : ShapeR t a b) (k : ShapeR t b c) : ShapeR t a c := fun q cs e => by
  obtain ⟨cs', e', hs, hi⟩ := h q cs e
  obtain ⟨cs2, e2, hs2, hi2⟩ := k q cs' e'
  exact ⟨cs2, e2, hs2.trans hs, fun x => hi2 (hi x)⟩
theorem ShapeR.of {t : TypeId} {a b : World} {p : Nat} {l : List UInt8} {e : Int} (ht : t ≠ 130) (hr : ReaderAt a p l e) (h : Keep [p] a b) : ShapeR t a b := fun q cs e => by
  refine ⟨cs, h.get e (fun hm => ?_), rfl, id⟩
  rw [List.mem_singleton.1 hm] at e
  obtain ⟨v, n, hp, _⟩ := hr
  rw [hp] at e
  injection e with e
  injection e with _ e
  exact ht e.symm
theorem ShapeR.of0 {t : TypeId} {a b : World} (h : Keep [] a b) : ShapeR t a b := fun q cs e => ⟨cs, h.get e (by simp), rfl, id⟩
/-- a row of whole numbers turned: bytes read as before -/
theorem Reads.keepI {w w' : World} {v : Value} {l : List UInt8} {q : Nat} {cs : Array Value} {t : TypeId} {fr : Nat × Nat} (h : Reads w v l) (hk : Keep [q] w w') (hq : w.heap[q]? = some (.cells cs t fr)) (hi : I64s cs) : Reads w' v l := by
  cases h with
  | nil => exact .nil
  | «at» g off cap l hc h =>
    refine .at g off cap l hc (fun i hil => ?_)
    refine hk.cell (h i hil) (fun hm => ?_)
    have hm : g = q := List.mem_singleton.1 hm
    have := h i hil
    rw [hm, cell_row' hq] at this
    obtain ⟨z, hz⟩ := hi _ _ this
    simp [B8] at hz
theorem i64s_mk (l : List Int) : I64s (l.map fun z => Value.int .i64 z).toArray := fun i c h => by
  simp at h
  obtain ⟨z, _, rfl⟩ := h
  exact ⟨z, rfl⟩
set_option maxRecDepth 100000 in
set_option maxHeartbeats 2000000 in
theorem head_any {F : List Nat} {w : World} {d : DK} {a : AR} (hG : Glob w) (h : DiskAt w a.p d F) (hd : d.down = false) (ha : a.ok) (hf : a.fits d) (n : Nat) (hn : n < 2) :
    Calls Tryd.prog 54 #[.agg a.cells, .int .i64 n] w fun e w' => e = .returned (headV (headF d a n)) ∧ Keep [] w w' := by
  have ha0 := ha.1
  have ha1 := ha.2.1
  have ha2 := ha.2.2
  have hhas : d.has ((a.first + n : Nat) : Int) = true := by
    have := AR.head_has hf n
    rw [Nat.mod_eq_of_lt hn] at this
    exact this
  have HI : Hid ((a.first : Int) + n = ((a.first + n : Nat) : Int)) := Lib.hid (by omega)
  have hxl : (d.vis ((a.first + n : Nat) : Int)).length ≤ 1099511627776 := by have := h.okd.vis ((a.first + n : Nat) : Int); omega
  obtain ⟨k, st, nu, pl, sz, e0, hdec, s0, s1, hpl, p1, p2, p3⟩ := head_parts d a n
  have HD := Lib.hid hdec
  clear hdec
  unfold AR.cells
  by_cases c0 : e0 = 0
  · have hb0 : (e0 == 0) = true := by simpa using c0
    have hb0' : (e0 != 0) = false := by simpa using c0
    by_cases c1 : k = 1
    · have hb1 : (k == 1) = true := by simpa using c1
      have hb1' : (k != 1) = false := by simpa using c1
      by_cases c2 : nu = 0
      · have hb2 : (nu == 0) = true := by simpa using c2
        have hb2' : (nu != 0) = false := by simpa using c2
        by_cases c3 : st % 2 = n
        · have hb3 : (st % 2 == (n : Int)) = true := by simpa using c3
          have hb3' : (st % 2 != (n : Int)) = false := by simpa using c3
          have HN := Lib.hid (p3 c0 c1 c2 c3)
          clear p1 p2 p3 c0 c1 c2 c3
          obtain ⟨r1, hr1⟩ : ∃ r1, rdNum 1099511627775 (pl, 0) = r1 := ⟨_, rfl⟩
          obtain ⟨r2, hr2⟩ : ∃ r2, rdNum ((a.places : Int) - 1) r1.2 = r2 := ⟨_, rfl⟩
          obtain ⟨r3, hr3⟩ : ∃ r3, rdNum st r2.2 = r3 := ⟨_, rfl⟩
          have l1 : r1.2.1.length ≤ pl.length := by rw [← hr1]; exact rdNum_len _ _
          have l2 : r2.2.1.length ≤ r1.2.1.length := by rw [← hr2]; exact rdNum_len _ _
          have n1 : ((r1.1.toNat : Nat) : Int) = r1.1 := by rw [← hr1]; exact rdNum_nonneg _ _
          have n2 : ((r2.1.toNat : Nat) : Int) = r2.1 := by rw [← hr2]; exact rdNum_nonneg _ _
          have n3 : ((r3.1.toNat : Nat) : Int) = r3.1 := by rw [← hr3]; exact rdNum_nonneg _ _
          have HC : Hid ((⟨st.toNat, r1.1.toNat, r2.1.toNat, r3.1.toNat⟩ : HV).cells = #[.int .i64 st, .int .i64 r1.1, .int .i64 r2.1, .int .i64 r3.1]) := Lib.hid (by unfold HV.cells; simp only [n1, n2, n3]; rw [show ((st.toNat : Nat) : Int) = st from by omega])
          rw [hr1, hr2, hr3] at HN
          have HR1 := Lib.hid hr1
          have HR2 := Lib.hid hr2
          have HR3 := Lib.hid hr3
          clear hr1 hr2 hr3 n1 n2 n3
          go_enter Tryd.func54, Tryd.ntmps54
          go_wp2_with (first
            | (go_at_call 68; rw [HI.out]; refine (dread_ok (h.keep0 (((Keep.refl [] w).alloc _).alloc _)) _ hd hhas).mono ?_; rintro e w1 ⟨v, rfl, hB1, hk1⟩
               have hcs := hB1.string (P := Tryd.prog) (w := w1) (src := 35) (dst := 9) Tryd.underlying35 Tryd.underlying5 Tryd.underlying9
               unfold str at hcs
               obtain ⟨sa, sn, sc, rfl⟩ := hB1.isSlice
               have hkw1 : Keep [] w w1 := (((Keep.refl [] w).alloc _).alloc _).then hk1
               have rA1 : w1.heap[w.heap.size]? = some (.cells #[.pointer (some ⟨a.p, 0, none⟩), .int .i64 a.first, .int .i64 a.places] 63 (0, 0)) := hk1.get ((heap_alloc_past (by simp)).trans (heap_alloc_new w _)) (by simp)
               have rR1 : w1.heap[w.heap.size + 1]? = some (.cells #[.int .i64 0, .int .i64 0, .int .i64 0, .int .i64 0] 61 (0, 0)) := hk1.get (heap_alloc_at (by simp)) (by simp)
               have hG1 := hG.keep0 hkw1)
            | (go_at_call 62; refine (decode_any _ w1 hG1 hxl).mono ?_; rw [HD.out]; rintro e w2 ⟨rfl, hk2⟩
               have hkw2 : Keep [] w1 w2 := hk2)
            | (refine wpList_store_part rfl rfl 78 (.tmp 9) (.tmp 31) rfl w2.heap.size 0 rfl #[.int .i64 k, .int .i64 st, .int .i64 nu, .string ⟨pl.toArray⟩] rfl 78 _ (heap_alloc_new w2 _) (by kernel_rfl) (by simp) (by simp [Value.oneCell']) ?_; intro w3 hk3 hh3
               have hkw3 : Keep [] w1 w3 := hkw2.trans (((Keep.refl [w2.heap.size] w2).alloc _).trans hk3 (by simp)) (fun x hx => Or.inr (by rw [List.mem_singleton.1 hx]; exact hkw2.size))
               have rA3 := hkw3.get rA1 (by simp)
               have rR3 := hkw3.get rR1 (by simp)
               have hh3' : w3.heap[w2.heap.size]? = some (.cells #[.int .i64 k, .int .i64 st, .int .i64 nu, .string ⟨pl.toArray⟩] 78 (0, 0)) := by rw [hh3, over_full _ _ (by simp)]
               have hh2 : w2.heap.size < w3.heap.size := lt_of_heap hh3'
               have cF0 : w3.cell? ⟨w2.heap.size, 0, none⟩ = some (.int .i64 k) := (cell_row' (j := 0) hh3').trans rfl
               have cF1 : w3.cell? ⟨w2.heap.size, 1, none⟩ = some (.int .i64 st) := (cell_row' (j := 1) hh3').trans rfl
               have cF2 : w3.cell? ⟨w2.heap.size, 2, none⟩ = some (.int .i64 nu) := (cell_row' (j := 2) hh3').trans rfl
               have cF3 : w3.cell? ⟨w2.heap.size, 3, none⟩ = some (.string ⟨pl.toArray⟩) := (cell_row' (j := 3) hh3').trans rfl
               obtain ⟨gb, cb, w4, hcv, hRd, hk4⟩ := run_bytes_of pl w3
               clear hh3)
            | (go_at_call 69; refine (newReader_any _ pl w4 hRd (by omega)).mono ?_; rintro e w5 ⟨p, rfl, hp5, hR5, hk5⟩))
          have hk35 : Keep [] w3 w5 := hk4.then hk5
          have hkw5 : Keep [] w w5 := (hkw1.then hkw3).then hk35
          have rA5 := hk35.get rA3 (by simp)
          have rR5 := hk35.get rR3 (by simp)
          have rF5 := hk35.get hh3' (by simp)
          have hzw1 : w.heap.size + 1 < w1.heap.size := lt_of_heap rR1
          have hz12 := hk2.size
          have hpw : w2.heap.size < p := by have := hk4.size; omega
          have hpA : w.heap.size ∉ [p] := by simp only [List.mem_singleton]; omega
          have hpF : w2.heap.size ∉ [p] := by simp only [List.mem_singleton]; omega
          have hpR : w.heap.size + 1 ∉ [p] := by simp only [List.mem_singleton]; omega
          have hp5' : p < w5.heap.size := by obtain ⟨v, n, hp, _⟩ := hR5; exact lt_of_heap hp
          clear hcv hcs cF0 cF1 cF2 cF3
          refine wp_region_ghost2 (ShapeR 61) (GH p w5 (pl, 0) r1.2 r2.2 r3.2 #[.int .i64 st, .int .i64 r1.1, .int .i64 r2.1, .int .i64 r3.1])
            [fun v _ => v = .pointer (some ⟨w2.heap.size, 1, none⟩), fun v _ => v = .int .i64 st, fun v _ => v = .pointer (some ⟨p, 0, none⟩), fun v _ => v = .int .i64 r1.1, fun v _ => v = .pointer (some ⟨p, 0, none⟩),
             fun v _ => v = .pointer (some ⟨w.heap.size, 2, none⟩), fun v _ => v = .int .i64 a.places, fun v _ => v = .int .i64 ((a.places : Int) - 1), fun v _ => v = .int .i64 r2.1, fun v _ => v = .pointer (some ⟨p, 0, none⟩),
             fun v _ => v = .pointer (some ⟨w2.heap.size, 1, none⟩), fun v _ => v = .int .i64 st, fun v _ => v = .int .i64 r3.1, fun v _ => v = .agg #[.int .i64 st, .int .i64 r1.1, .int .i64 r2.1, .int .i64 r3.1],
             fun v w' => ∃ q, v = .pointer (some ⟨q, 0, none⟩) ∧ w5.heap.size ≤ q ∧ ∃ cs : Array Value, w'.heap[q]? = some (.cells cs 61 (0, 0)) ∧ cs.size = 4 ∧ I64s cs, fun _ _ => True]
            (by kernel_rfl) (by kernel_rfl) (by kernel_rfl) (fun _ _ _ h k => h.trans k) (ShapeR.refl _) ?sta (fun _ => ⟨(Keep.refl _ _).drew, hR5.keep0 ((Keep.refl _ _).drew), fun h => by simp at h⟩) ?mai
          case sta =>
            simp only [Stable]
            exact ⟨fun _ _ _ _ h => h, fun _ _ _ _ h => h, fun _ _ _ _ h => h, fun _ _ _ _ h => h, fun _ _ _ _ h => h, fun _ _ _ _ h => h, fun _ _ _ _ h => h, fun _ _ _ _ h => h, fun _ _ _ _ h => h, fun _ _ _ _ h => h, fun _ _ _ _ h => h, fun _ _ _ _ h => h, fun _ _ _ _ h => h, fun _ _ _ _ h => h,
              fun _ _ _ hk ⟨q, h1, h2, cs, h3, h4, h5⟩ => ⟨q, h1, h2, by obtain ⟨cs', e1, e2, e3⟩ := hk q cs h3; exact ⟨cs', e1, e2.trans h4, e3 h5⟩⟩, fun _ _ _ _ h => h, trivial⟩
          case mai =>
            simp only [List.length_cons, List.length_nil, Nat.zero_add, Nat.reduceAdd, AllVals]
            intro z0 z1 z2 z3 z4 z5 z6 z7 z8 z9 z10 z11 z12 z13 z14 z15
            simp only [putAll, Act.put, List.setIfInBounds_toArray, List.set_cons_zero, List.set_cons_succ, StepsAtH]
            refine ⟨?stp, ?fin⟩
            case' stp => repeat' apply And.intro
            all_goals try (first | trivial | exact True.intro)
            · intro wq K listed hR hP hG hL hS hC hY hK
              simp only [Pre, Region.binds, List.getD_cons_zero, List.getD_cons_succ, true_imp_iff, forall_const, and_true, true_and] at hP
              simp only [Act.put, List.setIfInBounds_toArray, List.set_cons_zero, List.set_cons_succ] at hK
              go_wp2
              exact hK _ _ (ShapeR.refl _ _) rfl (hG.step 0 (by decide) (hC.notYet 16 15 0 (by kernel_rfl) hL) _ _ (Keep.refl _ _))
            · intro wq K listed hR hP hG hL hS hC hY hK
              simp only [Pre, Region.binds, List.getD_cons_zero, List.getD_cons_succ, true_imp_iff, forall_const, and_true, true_and] at hP
              simp only [Act.put, List.setIfInBounds_toArray, List.set_cons_zero, List.set_cons_succ] at hK
              subst hP
              have cF := (cell_row' (j := 1) (hG.1.get rF5 hpF)).trans rfl
              go_wp2
              exact hK _ _ (ShapeR.refl _ _) rfl (hG.step 1 (by decide) (hC.notYet 16 15 1 (by kernel_rfl) hL) _ _ (Keep.refl _ _))
            · intro wq K listed hR hP hG hL hS hC hY hK
              simp only [Pre, Region.binds, List.getD_cons_zero, List.getD_cons_succ, true_imp_iff, forall_const, and_true, true_and] at hP
              simp only [Act.put, List.setIfInBounds_toArray, List.set_cons_zero, List.set_cons_succ] at hK
              go_wp2
              exact hK _ _ (ShapeR.refl _ _) rfl (hG.step 2 (by decide) (hC.notYet 16 15 2 (by kernel_rfl) hL) _ _ (Keep.refl _ _))
            · intro wq K listed hR hP hG hL hS hC hY hK
              simp only [Pre, Region.binds, List.getD_cons_zero, List.getD_cons_succ, true_imp_iff, forall_const, and_true, true_and] at hP
              simp only [Act.put, List.setIfInBounds_toArray, List.set_cons_zero, List.set_cons_succ] at hK
              subst hP
              have hst : stg (pl, 0) r1.2 r2.2 r3.2 listed = (pl, 0) := by
                unfold stg
                rw [if_neg (by rw [hC.notYet 16 12 3 (by kernel_rfl) hL]; decide), if_neg (by rw [hC.notYet 16 8 3 (by kernel_rfl) hL]; decide), if_neg (by rw [hL]; decide)]
              have hRq := hG.2.1
              rw [hst] at hRq
              go_wp2_with (go_at_call 70; refine (rnumber_any p _ _ 1099511627775 wq hRq (by simp only; omega)).mono ?_; rw [HR1.out]; rintro e wr ⟨rfl, hRr, hkr⟩)
              refine hK _ _ (ShapeR.of (by decide) hRq hkr) rfl (hG.num 3 (by decide) (hC.notYet 16 15 3 (by kernel_rfl) hL) _ _ hkr ?_)
              have hst2 : stg (pl, 0) r1.2 r2.2 r3.2 (listed.setIfInBounds 3 true) = r1.2 := by
                unfold stg
                rw [getD_set_other (show 3 ≠ 12 by decide), getD_set_other (show 3 ≠ 8 by decide), if_neg (by rw [hC.notYet 16 12 3 (by kernel_rfl) hL]; decide), if_neg (by rw [hC.notYet 16 8 3 (by kernel_rfl) hL]; decide), if_pos (getD_set_self (by rw [hS]; decide))]
              rw [hst2]
              exact hRr
            · intro wq K listed hR hP hG hL hS hC hY hK
              simp only [Pre, Region.binds, List.getD_cons_zero, List.getD_cons_succ, true_imp_iff, forall_const, and_true, true_and] at hP
              simp only [Act.put, List.setIfInBounds_toArray, List.set_cons_zero, List.set_cons_succ] at hK
              go_wp2
              exact hK _ _ (ShapeR.refl _ _) rfl (hG.step 4 (by decide) (hC.notYet 16 15 4 (by kernel_rfl) hL) _ _ (Keep.refl _ _))
            · intro wq K listed hR hP hG hL hS hC hY hK
              simp only [Pre, Region.binds, List.getD_cons_zero, List.getD_cons_succ, true_imp_iff, forall_const, and_true, true_and] at hP
              simp only [Act.put, List.setIfInBounds_toArray, List.set_cons_zero, List.set_cons_succ] at hK
              go_wp2
              exact hK _ _ (ShapeR.refl _ _) rfl (hG.step 5 (by decide) (hC.notYet 16 15 5 (by kernel_rfl) hL) _ _ (Keep.refl _ _))
            · intro wq K listed hR hP hG hL hS hC hY hK
              simp only [Pre, Region.binds, List.getD_cons_zero, List.getD_cons_succ, true_imp_iff, forall_const, and_true, true_and] at hP
              simp only [Act.put, List.setIfInBounds_toArray, List.set_cons_zero, List.set_cons_succ] at hK
              subst hP
              have cF := (cell_row' (j := 2) (hG.1.get rA5 hpA)).trans rfl
              go_wp2
              exact hK _ _ (ShapeR.refl _ _) rfl (hG.step 6 (by decide) (hC.notYet 16 15 6 (by kernel_rfl) hL) _ _ (Keep.refl _ _))
            · intro wq K listed hR hP hG hL hS hC hY hK
              simp only [Pre, Region.binds, List.getD_cons_zero, List.getD_cons_succ, true_imp_iff, forall_const, and_true, true_and] at hP
              simp only [Act.put, List.setIfInBounds_toArray, List.set_cons_zero, List.set_cons_succ] at hK
              subst hP
              go_wp2
              exact hK _ _ (ShapeR.refl _ _) rfl (hG.step 7 (by decide) (hC.notYet 16 15 7 (by kernel_rfl) hL) _ _ (Keep.refl _ _))
            · intro wq K listed hR hP hG hL hS hC hY hK
              simp only [Pre, Region.binds, List.getD_cons_zero, List.getD_cons_succ, true_imp_iff, forall_const, and_true, true_and] at hP
              simp only [Act.put, List.setIfInBounds_toArray, List.set_cons_zero, List.set_cons_succ] at hK
              obtain ⟨q4, q7, -⟩ := hP; subst q4 q7
              have hst : stg (pl, 0) r1.2 r2.2 r3.2 listed = r1.2 := by
                unfold stg
                rw [if_neg (by rw [hC.notYet 16 12 8 (by kernel_rfl) hL]; decide), if_neg (by rw [hL]; decide), if_pos (hC.ahead hY 16 3 (by kernel_rfl))]
              have hRq := hG.2.1
              rw [hst] at hRq
              go_wp2_with (go_at_call 70; refine (rnumber_any p _ _ ((a.places : Int) - 1) wq hRq (by omega)).mono ?_; rw [HR2.out]; rintro e wr ⟨rfl, hRr, hkr⟩)
              refine hK _ _ (ShapeR.of (by decide) hRq hkr) rfl (hG.num 8 (by decide) (hC.notYet 16 15 8 (by kernel_rfl) hL) _ _ hkr ?_)
              have hst2 : stg (pl, 0) r1.2 r2.2 r3.2 (listed.setIfInBounds 8 true) = r2.2 := by
                unfold stg
                rw [getD_set_other (show 8 ≠ 12 by decide), if_neg (by rw [hC.notYet 16 12 8 (by kernel_rfl) hL]; decide), if_pos (getD_set_self (by rw [hS]; decide))]
              rw [hst2]
              exact hRr
            · intro wq K listed hR hP hG hL hS hC hY hK
              simp only [Pre, Region.binds, List.getD_cons_zero, List.getD_cons_succ, true_imp_iff, forall_const, and_true, true_and] at hP
              simp only [Act.put, List.setIfInBounds_toArray, List.set_cons_zero, List.set_cons_succ] at hK
              go_wp2
              exact hK _ _ (ShapeR.refl _ _) rfl (hG.step 9 (by decide) (hC.notYet 16 15 9 (by kernel_rfl) hL) _ _ (Keep.refl _ _))
            · intro wq K listed hR hP hG hL hS hC hY hK
              simp only [Pre, Region.binds, List.getD_cons_zero, List.getD_cons_succ, true_imp_iff, forall_const, and_true, true_and] at hP
              simp only [Act.put, List.setIfInBounds_toArray, List.set_cons_zero, List.set_cons_succ] at hK
              go_wp2
              exact hK _ _ (ShapeR.refl _ _) rfl (hG.step 10 (by decide) (hC.notYet 16 15 10 (by kernel_rfl) hL) _ _ (Keep.refl _ _))
            · intro wq K listed hR hP hG hL hS hC hY hK
              simp only [Pre, Region.binds, List.getD_cons_zero, List.getD_cons_succ, true_imp_iff, forall_const, and_true, true_and] at hP
              simp only [Act.put, List.setIfInBounds_toArray, List.set_cons_zero, List.set_cons_succ] at hK
              subst hP
              have cF := (cell_row' (j := 1) (hG.1.get rF5 hpF)).trans rfl
              go_wp2
              exact hK _ _ (ShapeR.refl _ _) rfl (hG.step 11 (by decide) (hC.notYet 16 15 11 (by kernel_rfl) hL) _ _ (Keep.refl _ _))
            · intro wq K listed hR hP hG hL hS hC hY hK
              simp only [Pre, Region.binds, List.getD_cons_zero, List.getD_cons_succ, true_imp_iff, forall_const, and_true, true_and] at hP
              simp only [Act.put, List.setIfInBounds_toArray, List.set_cons_zero, List.set_cons_succ] at hK
              obtain ⟨q9, q11, -⟩ := hP; subst q9 q11
              have hst : stg (pl, 0) r1.2 r2.2 r3.2 listed = r2.2 := by
                unfold stg
                rw [if_neg (by rw [hL]; decide), if_pos (hC.ahead hY 16 8 (by kernel_rfl))]
              have hRq := hG.2.1
              rw [hst] at hRq
              go_wp2_with (go_at_call 70; refine (rnumber_any p _ _ st wq hRq (by omega)).mono ?_; rw [HR3.out]; rintro e wr ⟨rfl, hRr, hkr⟩)
              refine hK _ _ (ShapeR.of (by decide) hRq hkr) rfl (hG.num 12 (by decide) (hC.notYet 16 15 12 (by kernel_rfl) hL) _ _ hkr ?_)
              have hst2 : stg (pl, 0) r1.2 r2.2 r3.2 (listed.setIfInBounds 12 true) = r3.2 := by
                unfold stg
                rw [if_pos (getD_set_self (by rw [hS]; decide))]
              rw [hst2]
              exact hRr
            · intro wq K listed hR hP hG hL hS hC hY hK
              simp only [Pre, Region.binds, List.getD_cons_zero, List.getD_cons_succ, true_imp_iff, forall_const, and_true, true_and] at hP
              simp only [Act.put, List.setIfInBounds_toArray, List.set_cons_zero, List.set_cons_succ] at hK
              obtain ⟨q1, q3, q8, q12⟩ := hP
              subst q1 q3 q8 q12
              go_wp2
              exact hK _ _ (ShapeR.refl _ _) rfl (hG.step 13 (by decide) (hC.notYet 16 15 13 (by kernel_rfl) hL) _ _ (Keep.refl _ _))
            · intro wq K listed hR hP hG hL hS hC hY hK
              simp only [Pre, Region.binds, List.getD_cons_zero, List.getD_cons_succ, true_imp_iff, forall_const, and_true, true_and] at hP
              simp only [Act.put, List.setIfInBounds_toArray, List.set_cons_zero, List.set_cons_succ] at hK
              go_wp2
              exact hK _ _ (ShapeR.of0 ((Keep.refl _ _).alloc _)) ⟨_, rfl, hG.1.size, _, heap_alloc_new wq _, rfl, i64s_mk [0, 0, 0, 0]⟩ (hG.step 14 (by decide) (hC.notYet 16 15 14 (by kernel_rfl) hL) _ _ ((Keep.refl _ _).alloc _))
            · intro wq K listed hR hP hG hL hS hC hY hK
              simp only [Pre, Region.binds, List.getD_cons_zero, List.getD_cons_succ, true_imp_iff, forall_const, and_true, true_and] at hP
              simp only [Act.put, List.setIfInBounds_toArray, List.set_cons_zero, List.set_cons_succ] at hK
              obtain ⟨⟨q, rfl, hq, cs, hcs, hcz, hci⟩, rfl, -⟩ := hP
              go_wp2_with (refine wpList_store_part rfl rfl 61 (.tmp 12) (.tmp 71) rfl q 0 rfl #[.int .i64 st, .int .i64 r1.1, .int .i64 r2.1, .int .i64 r3.1] rfl 61 _ hcs (by kernel_rfl) (by simp; omega) (by simp [Value.oneCell']) ?_; intro w6 hk6 hh6)
              rw [over_full cs _ (by simpa using hcz.symm)] at hh6
              have hqp : q ≠ p := by omega
              refine hK undef _ (fun q2 cs2 e2 => ?_) trivial ⟨hG.1.trans hk6 (fun x hx => Or.inr (by rw [List.mem_singleton.1 hx]; exact hq)), ?_, fun _ => ⟨q, rfl, hq, hh6⟩⟩
              · by_cases hqq : q2 = q
                · subst hqq
                  rw [hcs] at e2
                  injection e2 with e2
                  injection e2 with e2
                  subst e2
                  exact ⟨_, hh6, by simp; omega, fun _ => i64s_mk [st, r1.1, r2.1, r3.1]⟩
                · exact ⟨cs2, hk6.get e2 (by simpa using hqq), rfl, id⟩
              · have e : stg (pl, 0) r1.2 r2.2 r3.2 (listed.setIfInBounds 15 true) = stg (pl, 0) r1.2 r2.2 r3.2 listed := by
                  unfold stg
                  rw [getD_set_other (show 15 ≠ 12 by decide), getD_set_other (show 15 ≠ 8 by decide), getD_set_other (show 15 ≠ 3 by decide)]
                rw [e]
                obtain ⟨v, n, hp, hv, hn⟩ := hG.2.1
                exact ⟨v, n, hk6.get hp (by simp; omega), hv.keepI hk6 hcs hci, hn⟩
            · intro wf listed hf' hz hL hG
              simp only [AllAt] at hz
              obtain ⟨-, -, -, -, -, -, -, -, -, -, -, -, -, -, -, -⟩ := hz
              obtain ⟨hkf, hRf, hq⟩ := hG
              have hst : stg (pl, 0) r1.2 r2.2 r3.2 listed = r3.2 := by
                unfold stg
                rw [if_pos (hL 12 (by decide))]
              rw [hst] at hRf
              obtain ⟨q, hq14, hq5, hqr⟩ := hq (hL 15 (by decide))
              have hq14 : z14 = .pointer (some ⟨q, 0, none⟩) := hq14
              subst hq14
              clear hf' hL hst hq
              have rRf := hkf.get rR5 hpR
              by_cases hcl : r3.2.2 = 0 ∧ r3.2.1 = []
              · have HCL : Hid ((if r3.2.2 ≠ 0 then r3.2.2 else if r3.2.1 = [] then (0 : Int) else 5) = 0) := Lib.hid (by rw [if_neg (by simpa using hcl.1), if_pos hcl.2])
                have HN2 := Lib.hid (HN.out.trans (if_pos hcl))
                clear hcl
                go_wp2_with (first
                  | (go_at_call 71; refine (close_any p _ _ wf hRf).mono ?_; rw [HCL.out]; rintro e w7 ⟨rfl, hw7⟩; obtain rfl := hw7.symm)
                  | (refine wpList_load_part rfl 61 (.tmp 12) rfl q 0 4 rfl 61 _ (0, 0) _ hqr Tryd.underlying61 rfl (by kernel_rfl) (by simp) ?_)
                  | (refine wpList_store_part rfl rfl 61 (.tmp 4) (.tmp 76) rfl (w.heap.size + 1) 0 rfl #[.int .i64 st, .int .i64 r1.1, .int .i64 r2.1, .int .i64 r3.1] rfl 61 _ rRf (by kernel_rfl) (by simp) (by simp [Value.oneCell']) ?_; intro w8 hk8 hh8))
                rw [over_full _ _ (by simp)] at hh8
                exact bodyPost_ret (results_cell_tmps_row rfl _ _ (w.heap.size + 1) _ _ _ _ rfl hh8 Tryd.underlying61 rfl (by kernel_rfl)) rfl ⟨by rw [HN2.out]; unfold headV; simp only; rw [HC.out]; rfl, (hkw5.trans hkf (fun x hx => Or.inr (by rw [List.mem_singleton.1 hx]; omega))).trans hk8 (fun x hx => Or.inr (by rw [List.mem_singleton.1 hx]; omega))⟩
              · have hne : (if r3.2.2 ≠ 0 then r3.2.2 else if r3.2.1 = [] then (0 : Int) else 5) ≠ 0 := by
                  split
                  · assumption
                  · split
                    · exact absurd ⟨by omega, by assumption⟩ hcl
                    · decide
                have HN2 := Lib.hid (HN.out.trans (if_neg hcl))
                clear hcl
                obtain ⟨ce, hce⟩ : ∃ ce, (if r3.2.2 ≠ 0 then r3.2.2 else if r3.2.1 = [] then (0 : Int) else 5) = ce := ⟨_, rfl⟩
                rw [hce] at hne
                have HCE := Lib.hid hce
                have hcb : (ce == 0) = false := by simpa using hne
                have hcb' : (ce != 0) = true := by simpa using hne
                clear hce hne
                go_wp2_with (first
                  | (go_at_call 71; refine (close_any p _ _ wf hRf).mono ?_; rw [HCE.out]; rintro e w7 ⟨rfl, hw7⟩; obtain rfl := hw7.symm)
                  | (refine wpList_store_part rfl rfl 61 (.tmp 4) (.tmp 75) rfl (w.heap.size + 1) 0 rfl #[.int .i64 0, .int .i64 0, .int .i64 0, .int .i64 0] rfl 61 _ rRf (by kernel_rfl) (by simp) (by simp [Value.oneCell']) ?_; intro w8 hk8 hh8))
                rw [over_full _ _ (by simp)] at hh8
                exact bodyPost_ret (results_cell_tmps_row rfl _ _ (w.heap.size + 1) _ _ _ _ rfl hh8 Tryd.underlying61 rfl (by kernel_rfl)) rfl ⟨by rw [HN2.out]; rfl, (hkw5.trans hkf (fun x hx => Or.inr (by rw [List.mem_singleton.1 hx]; omega))).trans hk8 (fun x hx => Or.inr (by rw [List.mem_singleton.1 hx]; omega))⟩
        · have HN := Lib.hid (p2 c0 (fun e => c3 e.2.2))
          have hb3 : (st % 2 == (n : Int)) = false := by simpa using c3
          have hb3' : (st % 2 != (n : Int)) = true := by simpa using c3
          clear p1 p2 p3 c0 c1 c2 c3
          go_enter Tryd.func54, Tryd.ntmps54
          go_wp2_with (first
            | (go_at_call 68; rw [HI.out]; refine (dread_ok (h.keep0 (((Keep.refl [] w).alloc _).alloc _)) _ hd hhas).mono ?_; rintro e w1 ⟨v, rfl, hB1, hk1⟩
               have hcs := hB1.string (P := Tryd.prog) (w := w1) (src := 35) (dst := 9) Tryd.underlying35 Tryd.underlying5 Tryd.underlying9
               unfold str at hcs
               obtain ⟨sa, sn, sc, rfl⟩ := hB1.isSlice
               have hkw1 : Keep [] w w1 := (((Keep.refl [] w).alloc _).alloc _).then hk1
               have rA1 : w1.heap[w.heap.size]? = some (.cells #[.pointer (some ⟨a.p, 0, none⟩), .int .i64 a.first, .int .i64 a.places] 63 (0, 0)) := hk1.get ((heap_alloc_past (by simp)).trans (heap_alloc_new w _)) (by simp)
               have rR1 : w1.heap[w.heap.size + 1]? = some (.cells #[.int .i64 0, .int .i64 0, .int .i64 0, .int .i64 0] 61 (0, 0)) := hk1.get (heap_alloc_at (by simp)) (by simp)
               have hG1 := hG.keep0 hkw1)
            | (go_at_call 62; refine (decode_any _ w1 hG1 hxl).mono ?_; rw [HD.out]; rintro e w2 ⟨rfl, hk2⟩
               have hkw2 : Keep [] w1 w2 := hk2)
            | (refine wpList_store_part rfl rfl 78 (.tmp 9) (.tmp 31) rfl w2.heap.size 0 rfl #[.int .i64 k, .int .i64 st, .int .i64 nu, .string ⟨pl.toArray⟩] rfl 78 _ (heap_alloc_new w2 _) (by kernel_rfl) (by simp) (by simp [Value.oneCell']) ?_; intro w3 hk3 hh3
               have hkw3 : Keep [] w1 w3 := hkw2.trans (((Keep.refl [w2.heap.size] w2).alloc _).trans hk3 (by simp)) (fun x hx => Or.inr (by rw [List.mem_singleton.1 hx]; exact hkw2.size))
               have rA3 := hkw3.get rA1 (by simp)
               have rR3 := hkw3.get rR1 (by simp)
               have hh3' : w3.heap[w2.heap.size]? = some (.cells #[.int .i64 k, .int .i64 st, .int .i64 nu, .string ⟨pl.toArray⟩] 78 (0, 0)) := by rw [hh3, over_full _ _ (by simp)]
               have hh2 : w2.heap.size < w3.heap.size := lt_of_heap hh3'
               have cF0 : w3.cell? ⟨w2.heap.size, 0, none⟩ = some (.int .i64 k) := (cell_row' (j := 0) hh3').trans rfl
               have cF1 : w3.cell? ⟨w2.heap.size, 1, none⟩ = some (.int .i64 st) := (cell_row' (j := 1) hh3').trans rfl
               have cF2 : w3.cell? ⟨w2.heap.size, 2, none⟩ = some (.int .i64 nu) := (cell_row' (j := 2) hh3').trans rfl
               have cF3 : w3.cell? ⟨w2.heap.size, 3, none⟩ = some (.string ⟨pl.toArray⟩) := (cell_row' (j := 3) hh3').trans rfl
               obtain ⟨gb, cb, w4, hcv, hRd, hk4⟩ := run_bytes_of pl w3
               clear hh3)
            | (refine wpList_store_part rfl rfl 61 (.tmp 4) (.tmp 53) rfl (w.heap.size + 1) 0 rfl #[.int .i64 0, .int .i64 0, .int .i64 0, .int .i64 0] rfl 61 _ rR3 (by kernel_rfl) (by simp) (by simp [Value.oneCell']) ?_; intro w4 hk4 hh4))
          rw [over_full _ _ (by simp)] at hh4
          exact bodyPost_ret (results_cell_tmps_row rfl _ _ (w.heap.size + 1) _ _ _ _ rfl hh4 Tryd.underlying61 rfl (by kernel_rfl)) rfl ⟨by rw [HN.out]; rfl, (hkw1.then hkw3).trans hk4 (by simp)⟩
      · have HN := Lib.hid (p2 c0 (fun e => c2 e.2.1))
        have hb2 : (nu == 0) = false := by simpa using c2
        have hb2' : (nu != 0) = true := by simpa using c2
        clear p1 p2 p3 c0 c1 c2
        go_enter Tryd.func54, Tryd.ntmps54
        go_wp2_with (first
          | (go_at_call 68; rw [HI.out]; refine (dread_ok (h.keep0 (((Keep.refl [] w).alloc _).alloc _)) _ hd hhas).mono ?_; rintro e w1 ⟨v, rfl, hB1, hk1⟩
             have hcs := hB1.string (P := Tryd.prog) (w := w1) (src := 35) (dst := 9) Tryd.underlying35 Tryd.underlying5 Tryd.underlying9
             unfold str at hcs
             obtain ⟨sa, sn, sc, rfl⟩ := hB1.isSlice
             have hkw1 : Keep [] w w1 := (((Keep.refl [] w).alloc _).alloc _).then hk1
             have rA1 : w1.heap[w.heap.size]? = some (.cells #[.pointer (some ⟨a.p, 0, none⟩), .int .i64 a.first, .int .i64 a.places] 63 (0, 0)) := hk1.get ((heap_alloc_past (by simp)).trans (heap_alloc_new w _)) (by simp)
             have rR1 : w1.heap[w.heap.size + 1]? = some (.cells #[.int .i64 0, .int .i64 0, .int .i64 0, .int .i64 0] 61 (0, 0)) := hk1.get (heap_alloc_at (by simp)) (by simp)
             have hG1 := hG.keep0 hkw1)
          | (go_at_call 62; refine (decode_any _ w1 hG1 hxl).mono ?_; rw [HD.out]; rintro e w2 ⟨rfl, hk2⟩
             have hkw2 : Keep [] w1 w2 := hk2)
          | (refine wpList_store_part rfl rfl 78 (.tmp 9) (.tmp 31) rfl w2.heap.size 0 rfl #[.int .i64 k, .int .i64 st, .int .i64 nu, .string ⟨pl.toArray⟩] rfl 78 _ (heap_alloc_new w2 _) (by kernel_rfl) (by simp) (by simp [Value.oneCell']) ?_; intro w3 hk3 hh3
             have hkw3 : Keep [] w1 w3 := hkw2.trans (((Keep.refl [w2.heap.size] w2).alloc _).trans hk3 (by simp)) (fun x hx => Or.inr (by rw [List.mem_singleton.1 hx]; exact hkw2.size))
             have rA3 := hkw3.get rA1 (by simp)
             have rR3 := hkw3.get rR1 (by simp)
             have hh3' : w3.heap[w2.heap.size]? = some (.cells #[.int .i64 k, .int .i64 st, .int .i64 nu, .string ⟨pl.toArray⟩] 78 (0, 0)) := by rw [hh3, over_full _ _ (by simp)]
             have hh2 : w2.heap.size < w3.heap.size := lt_of_heap hh3'
             have cF0 : w3.cell? ⟨w2.heap.size, 0, none⟩ = some (.int .i64 k) := (cell_row' (j := 0) hh3').trans rfl
             have cF1 : w3.cell? ⟨w2.heap.size, 1, none⟩ = some (.int .i64 st) := (cell_row' (j := 1) hh3').trans rfl
             have cF2 : w3.cell? ⟨w2.heap.size, 2, none⟩ = some (.int .i64 nu) := (cell_row' (j := 2) hh3').trans rfl
             have cF3 : w3.cell? ⟨w2.heap.size, 3, none⟩ = some (.string ⟨pl.toArray⟩) := (cell_row' (j := 3) hh3').trans rfl
             obtain ⟨gb, cb, w4, hcv, hRd, hk4⟩ := run_bytes_of pl w3
             clear hh3)
          | (refine wpList_store_part rfl rfl 61 (.tmp 4) (.tmp 53) rfl (w.heap.size + 1) 0 rfl #[.int .i64 0, .int .i64 0, .int .i64 0, .int .i64 0] rfl 61 _ rR3 (by kernel_rfl) (by simp) (by simp [Value.oneCell']) ?_; intro w4 hk4 hh4))
        rw [over_full _ _ (by simp)] at hh4
        exact bodyPost_ret (results_cell_tmps_row rfl _ _ (w.heap.size + 1) _ _ _ _ rfl hh4 Tryd.underlying61 rfl (by kernel_rfl)) rfl ⟨by rw [HN.out]; rfl, (hkw1.then hkw3).trans hk4 (by simp)⟩
    · have HN := Lib.hid (p2 c0 (fun e => c1 e.1))
      have hb1 : (k == 1) = false := by simpa using c1
      have hb1' : (k != 1) = true := by simpa using c1
      clear p1 p2 p3 c0 c1
      go_enter Tryd.func54, Tryd.ntmps54
      go_wp2_with (first
        | (go_at_call 68; rw [HI.out]; refine (dread_ok (h.keep0 (((Keep.refl [] w).alloc _).alloc _)) _ hd hhas).mono ?_; rintro e w1 ⟨v, rfl, hB1, hk1⟩
           have hcs := hB1.string (P := Tryd.prog) (w := w1) (src := 35) (dst := 9) Tryd.underlying35 Tryd.underlying5 Tryd.underlying9
           unfold str at hcs
           obtain ⟨sa, sn, sc, rfl⟩ := hB1.isSlice
           have hkw1 : Keep [] w w1 := (((Keep.refl [] w).alloc _).alloc _).then hk1
           have rA1 : w1.heap[w.heap.size]? = some (.cells #[.pointer (some ⟨a.p, 0, none⟩), .int .i64 a.first, .int .i64 a.places] 63 (0, 0)) := hk1.get ((heap_alloc_past (by simp)).trans (heap_alloc_new w _)) (by simp)
           have rR1 : w1.heap[w.heap.size + 1]? = some (.cells #[.int .i64 0, .int .i64 0, .int .i64 0, .int .i64 0] 61 (0, 0)) := hk1.get (heap_alloc_at (by simp)) (by simp)
           have hG1 := hG.keep0 hkw1)
        | (go_at_call 62; refine (decode_any _ w1 hG1 hxl).mono ?_; rw [HD.out]; rintro e w2 ⟨rfl, hk2⟩
           have hkw2 : Keep [] w1 w2 := hk2)
        | (refine wpList_store_part rfl rfl 78 (.tmp 9) (.tmp 31) rfl w2.heap.size 0 rfl #[.int .i64 k, .int .i64 st, .int .i64 nu, .string ⟨pl.toArray⟩] rfl 78 _ (heap_alloc_new w2 _) (by kernel_rfl) (by simp) (by simp [Value.oneCell']) ?_; intro w3 hk3 hh3
           have hkw3 : Keep [] w1 w3 := hkw2.trans (((Keep.refl [w2.heap.size] w2).alloc _).trans hk3 (by simp)) (fun x hx => Or.inr (by rw [List.mem_singleton.1 hx]; exact hkw2.size))
           have rA3 := hkw3.get rA1 (by simp)
           have rR3 := hkw3.get rR1 (by simp)
           have hh3' : w3.heap[w2.heap.size]? = some (.cells #[.int .i64 k, .int .i64 st, .int .i64 nu, .string ⟨pl.toArray⟩] 78 (0, 0)) := by rw [hh3, over_full _ _ (by simp)]
           have hh2 : w2.heap.size < w3.heap.size := lt_of_heap hh3'
           have cF0 : w3.cell? ⟨w2.heap.size, 0, none⟩ = some (.int .i64 k) := (cell_row' (j := 0) hh3').trans rfl
           have cF1 : w3.cell? ⟨w2.heap.size, 1, none⟩ = some (.int .i64 st) := (cell_row' (j := 1) hh3').trans rfl
           have cF2 : w3.cell? ⟨w2.heap.size, 2, none⟩ = some (.int .i64 nu) := (cell_row' (j := 2) hh3').trans rfl
           have cF3 : w3.cell? ⟨w2.heap.size, 3, none⟩ = some (.string ⟨pl.toArray⟩) := (cell_row' (j := 3) hh3').trans rfl
           obtain ⟨gb, cb, w4, hcv, hRd, hk4⟩ := run_bytes_of pl w3
           clear hh3)
        | (refine wpList_store_part rfl rfl 61 (.tmp 4) (.tmp 53) rfl (w.heap.size + 1) 0 rfl #[.int .i64 0, .int .i64 0, .int .i64 0, .int .i64 0] rfl 61 _ rR3 (by kernel_rfl) (by simp) (by simp [Value.oneCell']) ?_; intro w4 hk4 hh4))
      rw [over_full _ _ (by simp)] at hh4
      exact bodyPost_ret (results_cell_tmps_row rfl _ _ (w.heap.size + 1) _ _ _ _ rfl hh4 Tryd.underlying61 rfl (by kernel_rfl)) rfl ⟨by rw [HN.out]; rfl, (hkw1.then hkw3).trans hk4 (by simp)⟩
  · have HN := Lib.hid (p1 c0)
    have hb0 : (e0 == 0) = false := by simpa using c0
    have hb0' : (e0 != 0) = true := by simpa using c0
    clear p1 p2 p3 c0
    go_enter Tryd.func54, Tryd.ntmps54
    go_wp2_with (first
      | (go_at_call 68; rw [HI.out]; refine (dread_ok (h.keep0 (((Keep.refl [] w).alloc _).alloc _)) _ hd hhas).mono ?_; rintro e w1 ⟨v, rfl, hB1, hk1⟩
         have hcs := hB1.string (P := Tryd.prog) (w := w1) (src := 35) (dst := 9) Tryd.underlying35 Tryd.underlying5 Tryd.underlying9
         unfold str at hcs
         obtain ⟨sa, sn, sc, rfl⟩ := hB1.isSlice
         have hkw1 : Keep [] w w1 := (((Keep.refl [] w).alloc _).alloc _).then hk1
         have rA1 : w1.heap[w.heap.size]? = some (.cells #[.pointer (some ⟨a.p, 0, none⟩), .int .i64 a.first, .int .i64 a.places] 63 (0, 0)) := hk1.get ((heap_alloc_past (by simp)).trans (heap_alloc_new w _)) (by simp)
         have rR1 : w1.heap[w.heap.size + 1]? = some (.cells #[.int .i64 0, .int .i64 0, .int .i64 0, .int .i64 0] 61 (0, 0)) := hk1.get (heap_alloc_at (by simp)) (by simp)
         have hG1 := hG.keep0 hkw1)
      | (go_at_call 62; refine (decode_any _ w1 hG1 hxl).mono ?_; rw [HD.out]; rintro e w2 ⟨rfl, hk2⟩
         have hkw2 : Keep [] w1 w2 := hk2)
      | (refine wpList_store_part rfl rfl 78 (.tmp 9) (.tmp 31) rfl w2.heap.size 0 rfl #[.int .i64 k, .int .i64 st, .int .i64 nu, .string ⟨pl.toArray⟩] rfl 78 _ (heap_alloc_new w2 _) (by kernel_rfl) (by simp) (by simp [Value.oneCell']) ?_; intro w3 hk3 hh3
         have hkw3 : Keep [] w1 w3 := hkw2.trans (((Keep.refl [w2.heap.size] w2).alloc _).trans hk3 (by simp)) (fun x hx => Or.inr (by rw [List.mem_singleton.1 hx]; exact hkw2.size))
         have rA3 := hkw3.get rA1 (by simp)
         have rR3 := hkw3.get rR1 (by simp)
         have hh3' : w3.heap[w2.heap.size]? = some (.cells #[.int .i64 k, .int .i64 st, .int .i64 nu, .string ⟨pl.toArray⟩] 78 (0, 0)) := by rw [hh3, over_full _ _ (by simp)]
         have hh2 : w2.heap.size < w3.heap.size := lt_of_heap hh3'
         have cF0 : w3.cell? ⟨w2.heap.size, 0, none⟩ = some (.int .i64 k) := (cell_row' (j := 0) hh3').trans rfl
         have cF1 : w3.cell? ⟨w2.heap.size, 1, none⟩ = some (.int .i64 st) := (cell_row' (j := 1) hh3').trans rfl
         have cF2 : w3.cell? ⟨w2.heap.size, 2, none⟩ = some (.int .i64 nu) := (cell_row' (j := 2) hh3').trans rfl
         have cF3 : w3.cell? ⟨w2.heap.size, 3, none⟩ = some (.string ⟨pl.toArray⟩) := (cell_row' (j := 3) hh3').trans rfl
         obtain ⟨gb, cb, w4, hcv, hRd, hk4⟩ := run_bytes_of pl w3
         clear hh3)
      | (refine wpList_store_part rfl rfl 61 (.tmp 4) (.tmp 53) rfl (w.heap.size + 1) 0 rfl #[.int .i64 0, .int .i64 0, .int .i64 0, .int .i64 0] rfl 61 _ rR3 (by kernel_rfl) (by simp) (by simp [Value.oneCell']) ?_; intro w4 hk4 hh4))
    rw [over_full _ _ (by simp)] at hh4
    exact bodyPost_ret (results_cell_tmps_row rfl _ _ (w.heap.size + 1) _ _ _ _ rfl hh4 Tryd.underlying61 rfl (by kernel_rfl)) rfl ⟨by rw [HN.out]; rfl, (hkw1.then hkw3).trans hk4 (by simp)⟩
end
end Go.Proofs.YtgopdbpddemplaaDoor
