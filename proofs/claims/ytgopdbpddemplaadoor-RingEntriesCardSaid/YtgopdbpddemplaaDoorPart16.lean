/- ring: write. -/
import Derived.Test.YtgopdbpddemplaaDoorPart14
import Derived.Test.YtgopdbpddemplaaDoorPart15
import Derived.Sort.CutIn
set_option linter.unusedSimpArgs false
set_option linter.unusedVariables false
namespace Go.Proofs.YtgopdbpddemplaaDoor
section
/- ring: write. -/
open Go.RowKit Go.Shelf
attribute [local go_sem] Oper.semAt_some

section
variable {F : Fence} {n : Nat} {P : Program} {ops : Array Oper} {rest : List Oper} {o : Oper} {a : Act} {w : World} {Q : Exit → Act → World → Prop}
theorem wpListIn_copy_str (hgd : o.guard = none) (d s : Operand) (dT sT : TypeId) (ho : o.op = .call { callee := .builtin .copy, args := #[d, s], argTypes := #[dT, sT] })
    (g off dLen dCap : Nat) (b : ByteArray) (hd : a.eval d = .slice (some ⟨g, off, none⟩) dLen dCap) (hs : a.eval s = .string b) (k : Nat) (hk : min b.size dLen = k) (elem : TypeId) (cur : Array Value) (t : TypeId)
    (hu : P.underlying dT = some (.slice elem)) (hsz : (P.info? elem).map (·.size) = some 1) (hg : w.heap[g]? = some (.cells cur t (0, 0))) (hfit : off + k ≤ cur.size)
    (h : ∀ w', Keep [g] w w' → w'.heap[g]? = some (.cells (over cur off ((b.data.toList.take k).map B8)) t (0, 0)) → wpListIn F n P ops Q rest (a.put o.dst (.int .i64 k)) w') : wpListIn F n P ops Q (o :: rest) a w := by
  subst hk
  refine wpListIn_plain hgd fun K hK' => ?_
  unfold Oper.wpIn
  refine ⟨?_, ?_⟩
  · simp [Oper.about, ho, resolve, Target.leads, Sem.run_pure]
  · rw [Oper.semAt_plain F _ _ (by rw [ho]; intro c hc'; cases hc')]
    unfold execOp
    simp only [ho, resolve, invoke, builtin, Sem.run_bind, Sem.run_pure, Result.andThen_ok, List.map_toArray, List.map_cons, List.map_nil, hd, hs, run_copy_str dT sT o.type elem g off dLen dCap b cur t hu hsz hg hfit]
    exact hK' _ _ (h _ ((Keep.refl _ _).setRow (by simp) _) (setRow_heap _ _ _ _ _ _ hg))
end

/-- a block that holds one of two contents, the second for good -/
structure TwoR (g : Nat) (Z O : Obj) (w w' : World) : Prop where
  keep : Keep [g] w w'
  fin : w.heap[g]? = some O → w'.heap[g]? = some O
  two : w.heap[g]? = some Z → w'.heap[g]? = some Z ∨ w'.heap[g]? = some O
theorem TwoR.refl (g : Nat) (Z O : Obj) (w : World) : TwoR g Z O w w := ⟨Keep.refl _ _, id, .inl⟩
theorem TwoR.trans {g : Nat} {Z O : Obj} {a b c : World} (h : TwoR g Z O a b) (k : TwoR g Z O b c) : TwoR g Z O a c :=
  ⟨h.keep.trans k.keep (fun _ hx => .inl hx), fun e => k.fin (h.fin e), fun e => (h.two e).elim k.two (fun e => .inr (k.fin e))⟩

def padTo (k : Nat) (l : List UInt8) : List UInt8 := l.take k ++ List.replicate (k - l.length) 0
theorem padTo_length (k : Nat) (l : List UInt8) : (padTo k l).length = k := by simp [padTo]; omega
/-- the bytes of a block, written for the text that is left -/
def chunkF (x : Nat) (s : List UInt8) : List UInt8 := if x = 0 then padTo 512 s else 0 :: padTo 511 s
theorem chunkF_length (x : Nat) (s : List UInt8) : (chunkF x s).length = 512 := by unfold chunkF; split <;> simp [padTo_length]
abbrev WSt := Int × DK × List UInt8
def wstep (a : AR) (place : Nat) (st : WSt) (x : Nat) : WSt :=
  if st.1 ≠ 0 then st else
    let r := st.2.1.write (a.blk place x) (chunkF x st.2.2)
    (r.1, r.2, st.2.2.drop (if x = 0 then 512 else 511))
def wfold (a : AR) (place : Nat) (d : DK) (s : List UInt8) (xs : List Nat) : WSt := xs.foldl (wstep a place) (0, d, s)
theorem wfold_snoc (a : AR) (place : Nat) (d : DK) (s : List UInt8) (xs : List Nat) (x : Nat) : wfold a place d s (xs ++ [x]) = wstep a place (wfold a place d s xs) x := by simp [wfold]
theorem write_same (d : DK) (b : Int) (c : List UInt8) : (d.write b c).2.blocks = d.blocks ∧ (d.write b c).2.pend.length ≤ d.pend.length + 1 := by
  have hb : d.begin.2.blocks = d.blocks ∧ d.begin.2.pend = d.pend := by unfold DK.begin; split <;> exact ⟨rfl, rfl⟩
  unfold DK.write
  split
  · exact ⟨rfl, Nat.le_succ _⟩
  · split
    · exact ⟨rfl, Nat.le_succ _⟩
    · split
      · exact ⟨rfl, Nat.le_succ _⟩
      · split
        · exact ⟨hb.1, by rw [hb.2]; omega⟩
        · exact ⟨hb.1, by simp⟩
theorem wfold_inv (a : AR) (place : Nat) (d : DK) (s : List UInt8) (hd : d.down = false) (xs : List Nat) :
    ((wfold a place d s xs).1 = 0 → (wfold a place d s xs).2.1.down = false) ∧ (wfold a place d s xs).2.1.blocks = d.blocks ∧ (wfold a place d s xs).2.1.pend.length ≤ d.pend.length + xs.length ∧ (wfold a place d s xs).2.2.length ≤ s.length := by
  have key : ∀ (xs : List Nat) (st : WSt), (st.1 = 0 → st.2.1.down = false) → ((xs.foldl (wstep a place) st).1 = 0 → (xs.foldl (wstep a place) st).2.1.down = false) ∧ (xs.foldl (wstep a place) st).2.1.blocks = st.2.1.blocks ∧ (xs.foldl (wstep a place) st).2.1.pend.length ≤ st.2.1.pend.length + xs.length ∧ (xs.foldl (wstep a place) st).2.2.length ≤ st.2.2.length := by
    intro xs
    induction xs with
    | nil => intro st h; exact ⟨h, rfl, by simp, by simp⟩
    | cons x xs ih =>
      intro st h
      have hs : (wstep a place st x).2.1.blocks = st.2.1.blocks ∧ (wstep a place st x).2.1.pend.length ≤ st.2.1.pend.length + 1 ∧ ((wstep a place st x).1 = 0 → (wstep a place st x).2.1.down = false) ∧ (wstep a place st x).2.2.length ≤ st.2.2.length := by
        unfold wstep
        split
        · exact ⟨rfl, by omega, h, Nat.le_refl _⟩
        · exact ⟨(write_same _ _ _).1, (write_same _ _ _).2, write_down _ _ _, by simp⟩
      have := ih (wstep a place st x) hs.2.2.1
      simp only [List.foldl_cons, List.length_cons]
      refine ⟨this.1, this.2.1.trans hs.1, ?_, ?_⟩
      · have := this.2.2.1; omega
      · have := this.2.2.2; omega
  exact key xs (0, d, s) (fun _ => hd)
theorem wfold_stop (a : AR) (place : Nat) (d : DK) (s : List UInt8) {k N : Nat} (h : k ≤ N) (hne : (wfold a place d s (List.range k)).1 ≠ 0) : wfold a place d s (List.range N) = wfold a place d s (List.range k) := by
  obtain ⟨m, rfl⟩ : ∃ m, N = k + m := ⟨N - k, by omega⟩
  induction m with
  | zero => rfl
  | succ m ih =>
    rw [show k + (m + 1) = (k + m) + 1 by omega, List.range_succ, wfold_snoc, ih (by omega)]
    unfold wstep
    rw [if_pos hne]
theorem over_chunk0 (s : List UInt8) : over (cellsOf zero512) 0 ((s.take (min s.length 512)).map B8) = cellsOf (padTo 512 s) := by
  unfold over cellsOf padTo
  apply Array.ext'
  simp only [List.take_zero, List.nil_append, Nat.zero_add, List.length_map, List.map_append, zero512, List.map_replicate, List.drop_replicate, List.length_take]
  congr 1
  · congr 1
    rw [Nat.min_comm, ← List.take_take, List.take_length]
  · congr 1; omega
theorem over_chunk1 (s : List UInt8) : over (cellsOf zero512) 1 ((s.take (min s.length 511)).map B8) = cellsOf (0 :: padTo 511 s) := by
  unfold over cellsOf padTo
  apply Array.ext'
  simp only [List.length_map, List.map_append, List.map_cons, zero512, List.map_replicate, List.drop_replicate, List.take_replicate, List.length_take]
  have e1 : s.take (min s.length 511) = s.take 511 := by rw [Nat.min_comm, ← List.take_take, List.take_length]
  have e2 : 512 - (1 + min (min s.length 511) s.length) = 511 - s.length := by omega
  rw [e1, e2, show min 1 512 = 1 from rfl]
  rfl

theorem over_chunk2 (s : List UInt8) : over (cellsOf (0 :: padTo 511 s)) 1 ((s.take (min s.length 511)).map B8) = cellsOf (0 :: padTo 511 s) := by
  have e1 : s.take (min s.length 511) = s.take 511 := by rw [Nat.min_comm, ← List.take_take, List.take_length]
  rw [e1]
  unfold over cellsOf padTo
  apply Array.ext'
  simp only [List.map_cons, List.map_append, List.map_replicate, List.take_succ_cons, List.take_zero, List.length_map, List.cons_append, List.nil_append]
  congr 1
  congr 1
  rw [Nat.add_comm 1, List.drop_succ_cons, List.drop_append, List.length_map, List.drop_eq_nil_of_le (by simp), Nat.sub_self]
  rfl
theorem DiskM.tight {F : List Nat} {w : World} {p : Nat} {d : DK} {m1 m2 : Nat} (h : DiskM w p d m1 m2 F) : ∃ v : Value, DiskM w p d m1 m2 (p :: m1 :: m2 :: v.ownBlock.toList) ∧ (∀ x ∈ p :: m1 :: m2 :: v.ownBlock.toList, x ∈ F ∧ x < w.heap.size) ∧ (∃ cs t fr, w.heap[p]? = some (.cells cs t fr)) ∧ (∀ k ∈ v.ownBlock.toList, ∃ cs t fr, w.heap[k]? = some (.cells cs t fr)) := by
  obtain ⟨v, hi, j1, j2, j3, j4⟩ := h
  obtain ⟨f1, hm1, _⟩ := hi.dur
  refine ⟨v, ⟨v, hi, by simp, by simp, by simp, fun k e => by rw [e]; simp⟩, fun x hx => ?_, ⟨_, _, _, hi.row⟩, fun k hk => ?_⟩
  · simp only [List.mem_cons] at hx
    rcases hx with rfl | rfl | rfl | hx
    · exact ⟨j1, lt_of_heap hi.row⟩
    · exact ⟨j2, hm1.lt⟩
    · exact ⟨j3, hi.last.lt⟩
    · have hx' : v.ownBlock = some x := by simpa using hx
      exact ⟨j4 x hx', (World.ownsRow.lt hi.pend x hx').2⟩
  · rcases hi.pend.2 with ⟨rfl, _⟩ | ⟨g, cap, cur, rfl, _, hg, _⟩
    · simp [Value.ownBlock] at hk
    · simp [Value.ownBlock] at hk
      subst hk
      exact ⟨_, _, _, hg⟩
theorem DiskM.grown {F : List Nat} {A B : World} {p : Nat} {d : DK} {m1 m2 b : Nat} {row : Option Nat} (h : DiskM A p d m1 m2 F) (hg : A.grownBy B row) (hr : ∀ r, row = some r → b ≤ r ∧ ∃ o : Obj, A.heap[r]? = some o ∧ o.isCells = false) (h1 : m1 < b) (h2 : m2 < b) : DiskM B p d m1 m2 F := by
  obtain ⟨v, hi, j1, j2, j3, j4⟩ := h
  have hk : Keep row.toList A B := (Keep.refl _ A).grown hg (fun k e => Or.inl (by rw [e]; simp))
  refine ⟨v, hi.keep hk (fun hm => ?_) (fun hm => ?_) (fun hm => ?_) (fun k hm e => ?_), j1, j2, j3, j4⟩
  · obtain ⟨_, o, ho, hc⟩ := hr p (by simpa using hm)
    rw [hi.row] at ho; cases ho; cases hc
  · have := (hr m1 (by simpa using hm)).1; omega
  · have := (hr m2 (by simpa using hm)).1; omega
  · obtain ⟨_, o, ho, hc⟩ := hr k (by simpa using hm)
    rcases hi.pend.2 with ⟨rfl, _⟩ | ⟨g, cap, cur, rfl, _, hgg, _⟩
    · simp [Value.ownBlock] at e
    · simp [Value.ownBlock] at e
      subst e
      rw [hgg] at ho; cases ho; cases hc

set_option maxRecDepth 100000 in
set_option maxHeartbeats 2000000 in
theorem write_ok {F : List Nat} {w : World} {d : DK} {a : AR} (h : DiskAt w a.p d F) (hd : d.down = false) (ha : a.ok) (hf : a.fits d) (place : Nat) (hp : place ≤ 1000000) (s : List UInt8) (hs1 : 1 ≤ s.length) (hs2 : s.length ≤ 1000000) (hlen : d.pend.length ≤ 50000000) :
    Calls Tryd.prog 42 #[.agg a.cells, .int .i64 place, str s] w fun e w' => e = .returned (.int .i64 (wfold a place d s (List.range ((s.length - 1 + 511 - 1) / 511))).1) ∧ ∃ F', DiskAt w' a.p (wfold a place d s (List.range ((s.length - 1 + 511 - 1) / 511))).2.1 F' ∧ Keep F w w' ∧ ∀ x ∈ F', x ∈ F ∨ w.heap.size ≤ x := by
  have hsz : (ByteArray.mk s.toArray).size = s.length := by simp [ByteArray.size]
  obtain ⟨N, hN⟩ : ∃ N, N = (s.length - 1 + 511 - 1) / 511 := ⟨_, rfl⟩
  have hN1 : N ≤ 1000000 := by omega
  obtain ⟨m1, m2, hM⟩ := h.m
  obtain ⟨v0, hM, hF0, _, _⟩ := hM.tight
  generalize (a.p :: m1 :: m2 :: v0.ownBlock.toList) = F0 at hM hF0
  refine (callsIn_wide (n := 20)).1 ?_
  refine callsIn_of_wp_marks Tryd.func42 rfl trivial ?_ rfl
  simp only [Tryd.ntmps42, AR.cells, str, List.size_toArray, List.length_cons, List.length_nil, Nat.reduceAdd, Nat.reduceSub, Array.replicate_succ, Array.replicate_zero, List.push_toArray, List.append_toArray, List.nil_append, List.cons_append]
  refine wpIn_wide.2 ?_
  go_wp2
  obtain ⟨W0, hW0⟩ : ∃ W0, W0 = (((w.alloc (.cells #[.pointer (some ⟨a.p, 0, none⟩), .int .i64 a.first, .int .i64 a.places] 63)).alloc (.cells #[.string ⟨s.toArray⟩] 9)).alloc (.cells #[.int .i64 0] 32)) := ⟨_, rfl⟩
  rw [← hW0]
  have hK0 : Keep [] w W0 := by rw [hW0]; exact (((Keep.refl [] w).alloc _).alloc _).alloc _
  have hs0 : W0.heap.size = w.heap.size + 1 + 1 + 1 := by rw [hW0]; simp
  have rA : W0.heap[w.heap.size]? = some (.cells #[.pointer (some ⟨a.p, 0, none⟩), .int .i64 a.first, .int .i64 a.places] 63 (0, 0)) := by rw [hW0]; exact (heap_alloc_past (by simp; omega)).trans ((heap_alloc_past (by simp)).trans (heap_alloc_new w _))
  have rT : W0.heap[w.heap.size + 1]? = some (.cells #[.string ⟨s.toArray⟩] 9 (0, 0)) := by rw [hW0]; exact (heap_alloc_past (by simp)).trans (heap_alloc_at (by simp))
  have rE : W0.heap[w.heap.size + 1 + 1]? = some (.cells #[.int .i64 0] 32 (0, 0)) := by rw [hW0]; exact heap_alloc_at (by simp)
  clear hW0
  (refine wp_region_inv (Keep []) [fun v _ => v = .agg #[.pointer (some ⟨a.p, 0, none⟩), .int .i64 a.first, .int .i64 a.places], fun v _ => v = .int .i64 place, fun v _ => v = .string ⟨s.toArray⟩, fun v _ => v = .int .i64 s.length, fun v _ => v = .int .i64 N,
    fun v w' => ∃ bn ba bp, v = circV bn ba bp ∧ W0.heap.size ≤ bn ∧ W0.heap.size ≤ ba ∧ W0.heap.size ≤ bp ∧ w'.heap[bn]? = some (.cells #[.int .i64 N] 3 (0, 0)) ∧ w'.heap[ba]? = some (.cells a.cells 63 (0, 0)) ∧ w'.heap[bp]? = some (.cells #[.int .i64 place] 3 (0, 0))] (by kernel_rfl) (by kernel_rfl) (by kernel_rfl) (fun _ _ _ h k => h.then k) (Keep.refl _) ?stab1 ?main1; (case' main1 => (simp only [List.length_cons, List.length_nil, Nat.zero_add, Nat.reduceAdd, AllVals]; intro z0 z1 z2 z3 z4 z5; simp only [putAll, Act.put, List.setIfInBounds_toArray, List.set_cons_zero, List.set_cons_succ, StepsAt]; refine ⟨?steps1, ?after1⟩)); (case' steps1 => (repeat' apply And.intro)); (case' stab1 => (simp only [Stable])))
  case stab1 => refine ⟨fun _ _ _ _ h => h, fun _ _ _ _ h => h, fun _ _ _ _ h => h, fun _ _ _ _ h => h, fun _ _ _ _ h => h, fun _ _ _ hk h => ?_, trivial⟩; obtain ⟨bn, ba, bp, e, b1, b2, b3, r1, r2, r3⟩ := h; exact ⟨bn, ba, bp, e, b1, b2, b3, hk.get r1 (by simp), hk.get r2 (by simp), hk.get r3 (by simp)⟩
  all_goals try (first | trivial | ((intro wq K hRq hPq hKq; simp only [Pre, Region.binds, List.getD_cons_zero, List.getD_cons_succ, true_imp_iff, forall_const, and_true, true_and] at hPq; simp only [Act.put, List.setIfInBounds_toArray, List.set_cons_zero, List.set_cons_succ] at hKq); go_split_ands; subst_vars; (try unfold str at *); go_wp2; first | exact hKq _ _ (Keep.refl _ _) rfl | exact hKq _ _ (Keep.refl _ _) trivial | exact hKq _ _ (FinR.refl _ _ _) rfl | exact hKq _ _ (FinR.refl _ _ _) trivial))
  · (intro wq K hR hP hK; simp only [Pre, Region.binds, List.getD_cons_zero, List.getD_cons_succ, true_imp_iff, forall_const, and_true, true_and] at hP; simp only [Act.put, List.setIfInBounds_toArray, List.set_cons_zero, List.set_cons_succ] at hK)
    have ra := hR.drew'.get rA (by simp)
    have c0 : wq.cell? ⟨w.heap.size, 0, none⟩ = some (.pointer (some ⟨a.p, 0, none⟩)) := (cell_row' (j := 0) ra).trans rfl
    have c1 : wq.cell? ⟨w.heap.size, 1, none⟩ = some (.int .i64 a.first) := (cell_row' (j := 1) ra).trans rfl
    have c2 : wq.cell? ⟨w.heap.size, 2, none⟩ = some (.int .i64 a.places) := (cell_row' (j := 2) ra).trans rfl
    go_wp2
    exact hK _ _ (Keep.refl _ _) rfl
  · (intro wq K hR hP hK; simp only [Pre, Region.binds, List.getD_cons_zero, List.getD_cons_succ, true_imp_iff, forall_const, and_true, true_and] at hP; simp only [Act.put, List.setIfInBounds_toArray, List.set_cons_zero, List.set_cons_succ] at hK)
    have c0 : wq.cell? ⟨w.heap.size + 1, 0, none⟩ = some (.string ⟨s.toArray⟩) := (cell_row' (j := 0) (hR.drew'.get rT (by simp))).trans rfl
    go_wp2
    exact hK _ _ (Keep.refl _ _) rfl
  · (intro wq K hR hP hK; simp only [Pre, Region.binds, List.getD_cons_zero, List.getD_cons_succ, true_imp_iff, forall_const, and_true, true_and] at hP; simp only [Act.put, List.setIfInBounds_toArray, List.set_cons_zero, List.set_cons_succ] at hK)
    subst hP
    go_wp2_with (go_at_call 37; refine (blocksOf_any s.length _ hs1 (by omega)).mono ?_; rintro e w5 ⟨rfl, rfl⟩)
    exact hK _ _ (Keep.refl _ _) (by congr 1; omega)
  · (intro wq K hR hP hK; simp only [Pre, Region.binds, List.getD_cons_zero, List.getD_cons_succ, true_imp_iff, forall_const, and_true, true_and] at hP; simp only [Act.put, List.setIfInBounds_toArray, List.set_cons_zero, List.set_cons_succ] at hK)
    go_split_ands
    subst_vars
    go_wp2_with (go_at_call 31; refine (circle_any a place _ _).mono ?_; rintro e w5 ⟨bn, ba, bp, rfl, b1, b2, b3, r1, r2, r3, hk5⟩)
    exact hK _ _ hk5 ⟨bn, ba, bp, rfl, by have := hR.size; exact Nat.le_trans this b1, by have := hR.size; exact Nat.le_trans this b2, by have := hR.size; exact Nat.le_trans this b3, r1, r2, r3⟩
  (intro w1 hk1 hz; simp only [AllAt] at hz)
  obtain ⟨-, -, -, -, -, hz5, -⟩ := hz
  obtain ⟨bn, ba, bp, hz5, hbn, hba, hbp, r1, r2, r3⟩ := hz5
  subst hz5
  have hk1 := hk1.drew'
  go_wp2
  have hm1 : m1 < w.heap.size := by obtain ⟨_, _, _, j2, _⟩ := hM; exact (hF0 _ j2).2
  have hm2 : m2 < w.heap.size := by obtain ⟨_, _, _, _, j3, _⟩ := hM; exact (hF0 _ j3).2
  have hK1 : Keep [] w w1 := hK0.then hk1
  have q1 := hk1.size
  have hM1 := hM.keep hK1 (by simp)
  obtain ⟨tb, htb⟩ : ∃ tb, tb = w.heap.size + 1 := ⟨_, rfl⟩
  obtain ⟨rb, hrb⟩ : ∃ rb, rb = w.heap.size + 1 + 1 := ⟨_, rfl⟩
  have rT1 := hk1.get rT (by simp)
  have rE1 := hk1.get rE (by simp)
  have rA1 := hk1.get rA (by simp)
  rw [← hrb] at rE1
  rw [← htb] at rT1
  have htb1 : w.heap.size < tb ∧ tb < rb ∧ rb < w1.heap.size := by omega
  have htF : ∀ x ∈ F0, x < w.heap.size := fun x hx => (hF0 x hx).2
  have HTB := Lib.hid htb
  have HRB := Lib.hid hrb
  clear htb hrb
  have HNN := Lib.hid hN
  clear hN
  refine (wpIn_wide (n := 20)).1 ?_
  refine wpIn_rangeFunc_ownG (F := Fence.wide) rfl (by omega) (gf := 55) (lb := #[.pointer (some ⟨bn, 0, none⟩), .pointer (some ⟨ba, 0, none⟩), .pointer (some ⟨bp, 0, none⟩)]) rfl trivial (enters_of Tryd.func55 (by kernel_rfl) rfl)
    (circle1_stops 19 bn ba bp N place a hN1 ha hp w1 r1 r2 r3 (by omega)) KpB.trans (fun W l o o' hl _ _ _ => KpB.putObj o' (by have := lt_of_heap r1; have := lt_of_heap r2; have := lt_of_heap r3; simp; omega)) (Below.refl _ _) (fun _ => rfl)
    (fun pre W => (wfold a place d s pre).1 = 0 ∧ (∃ F', DiskM W a.p (wfold a place d s pre).2.1 m1 m2 F' ∧ ∀ x ∈ F', x ∈ F0 ∨ w1.heap.size ≤ x) ∧ W.heap[tb]? = some (.cells #[.string ⟨(wfold a place d s pre).2.2.toArray⟩] 9 (0, 0)) ∧ Keep (tb :: F0) w1 W ∧ pre.length ≤ N)
    (fun c pre W => c = .ret ∧ (wfold a place d s pre).1 ≠ 0 ∧ (∃ F', DiskM W a.p (wfold a place d s pre).2.1 m1 m2 F' ∧ ∀ x ∈ F', x ∈ F0 ∨ w1.heap.size ≤ x) ∧ W.heap[rb]? = some (.cells #[.int .i64 (wfold a place d s pre).1] 32 (0, 0)) ∧ Keep (tb :: rb :: F0) w1 W)
    (fun st A B row hs hg hr => by
      obtain ⟨h0, ⟨F', h1, h2⟩, h3, h4, h5⟩ := hs
      exact ⟨h0, ⟨F', h1.grown hg hr (by omega) (by omega), h2⟩, row_kept h3 hg (fun r e => (hr r e).2), h4.grown' hg (fun r e => (hr r e).1), h5⟩)
    (fun c st A B row hs hg hr => by
      obtain ⟨hc, h0, ⟨F', h1, h2⟩, h3, h4⟩ := hs
      exact ⟨hc, h0, ⟨F', h1.grown hg hr (by omega) (by omega), h2⟩, row_kept h3 hg (fun r e => (hr r e).2), h4.grown' hg (fun r e => (hr r e).1)⟩)
    ⟨rfl, ⟨F0, hM1, fun x hx => Or.inl hx⟩, rT1, Keep.refl _ _, by simp⟩
    (fun x => { tmps := #[.agg #[.pointer (some ⟨a.p, 0, none⟩), .int .i64 a.first, .int .i64 a.places], .int .i64 place, .string ⟨s.toArray⟩, .pointer (some ⟨w.heap.size, 0, none⟩), undef, .pointer (some ⟨tb, 0, none⟩), .pointer (some ⟨rb, 0, none⟩), .int .i64 x, .int .i64 (a.blk place x), undef, undef, undef, z0, z1, z2, z3, z4, circV bn ba bp, .int .i64 x, .int .i64 (a.blk place x), undef, undef, undef, undef, undef, undef, undef, undef, undef, undef, undef, undef, undef, undef, undef, undef, undef, undef, undef, undef, undef], defers := [] }) ?assign ?body ?done ?stop
  case assign =>
    intro l x W K hK
    obtain rfl := HTB.out
    obtain rfl := HRB.out
    gi_wp2
    exact hK
  case body =>
    rintro l pre x W ⟨h0, ⟨F', hMW, hF'⟩, hT, hk, hpn⟩ hlt
    obtain ⟨i1, i2, i3, i4⟩ := wfold_inv a place d s hd pre
    have hsn := wfold_snoc a place d s pre x
    unfold wstep at hsn
    rw [if_neg (by rw [h0]; simp)] at hsn
    have hdn := i1 h0
    generalize wfold a place d s pre = st at *
    obtain ⟨e0, d1, s1⟩ := st
    simp only at h0 hMW hT i1 i2 i3 i4 hsn hdn
    subst h0
    have hhas : d1.has (a.blk place x) = true := AR.has (d := d1) (by unfold AR.fits at hf ⊢; rw [i2]; exact hf) ha place x
    have hwlt : w.heap.size < w1.heap.size := by omega
    have rAW := hk.get rA1 (by simp only [List.mem_cons, not_or]; exact ⟨by omega, fun hm => by have := htF _ hm; omega⟩)
    have cT := (cell_row' (j := 0) hT)
    have fT := frozen_row' (j := 0) hT
    have hmk := run_make512
    have htW : tb < W.heap.size := lt_of_heap hT
    have hWs := hk.size
    have HSN := Lib.hid hsn
    clear hsn
    have hcTA : ∀ A : Obj, (W.alloc A).cell? ⟨tb, 0, none⟩ = some (.string ⟨s1.toArray⟩) := fun A => (cell_row' (j := 0) ((heap_alloc_past htW).trans hT)).trans rfl
    generalize hbk : a.blk place x = bk at *
    have HBK := Lib.hid hbk
    clear hbk
    rcases Nat.eq_zero_or_pos x with rfl | hxp
    · gi_upto_region 7 with fail
      gi_step
      gi_step
      gi_step
      rename_i hK
      refine hK _ _ ?_
      gi_step
      gi_step
      rename_i hK
      refine hK _ _ ?_
      have hmin : min (ByteArray.mk s1.toArray).size 512 = min s1.length 512 := by simp [ByteArray.size]
      refine wpListIn_copy_str rfl (.tmp 23) (.tmp 24) 35 9 rfl W.heap.size 0 512 512 ⟨s1.toArray⟩ rfl rfl (min s1.length 512) hmin 5 (cellsOf zero512) 5 Tryd.underlying35 (by kernel_rfl) (heap_alloc_new W _) (by rw [cellsOf_size]; simp [zero512]; omega) ?_
      intro w2 hq2 hr2
      have hr2 : w2.heap[W.heap.size]? = some (.cells (cellsOf (chunkF 0 s1)) 5 (0, 0)) := by rw [hr2, show chunkF 0 s1 = padTo 512 s1 from rfl, ← over_chunk0]
      have hkA : Keep [] W (W.alloc (.cells (cellsOf zero512) 5)) := (Keep.refl _ _).alloc _
      have hkq : Keep [] W w2 := hkA.trans hq2 (by simp)
      have hT2 := hkq.get hT (by simp)
      have cT2 := cell_row' (j := 0) hT2
      have fT2 := frozen_row' (j := 0) hT2
      have hkl : (min s1.length 512) ≤ s1.length := by omega
      have hsl := slice_str s1 (min s1.length 512) s1.length (Nat.le_refl _) hkl
      have hdl : (s1.drop (min s1.length 512)).take (s1.length - (min s1.length 512)) = s1.drop (min s1.length 512) := List.take_of_length_le (by rw [List.length_drop]; exact Nat.le_refl _)
      rw [hdl] at hsl
      have hszs : (ByteArray.mk s1.toArray).size = s1.length := by simp [ByteArray.size]
      gi_upto_region 10 with fail
      have hT3 := heap_setCell_same w2 tb 0 _ _ (.string ⟨(s1.drop (min s1.length 512)).toArray⟩) hT2
      have hk3 : Keep [tb] w2 (w2.setCell ⟨tb, 0, none⟩ (.string ⟨(s1.drop (min s1.length 512)).toArray⟩)) := (Keep.refl _ _).setCell (by simp) _
      have hr3 := hk3.get hr2 (by simp; omega)
      generalize w2.setCell ⟨tb, 0, none⟩ (.string ⟨(s1.drop (min s1.length 512)).toArray⟩) = w3 at *
      have kW3 : Keep [tb] W w3 := (hkq.mono (F' := [tb]) (by simp)).trans hk3 (by simp)
      obtain ⟨vv, hMt, hG, ⟨csp, tp, frp, hpc⟩, hvc⟩ := hMW.tight
      have hGm : ∀ y ∈ a.p :: m1 :: m2 :: vv.ownBlock.toList, y ∉ [tb] ∧ y < W.heap.size ∧ (y ∈ F0 ∨ w1.heap.size ≤ y) := fun y hy => by
        obtain ⟨hy1, hy2⟩ := hG y hy
        refine ⟨fun hm => ?_, hy2, hF' y hy1⟩
        rw [List.mem_singleton.1 hm] at hy1
        rcases hF' _ hy1 with h | h
        · have := htF _ h; omega
        · omega
      have hGc : ∀ k ∈ tb :: a.p :: m1 :: m2 :: vv.ownBlock.toList, ∀ o, w1.heap.size ≤ k → W.heap[k]? = some o → o.isCells = false → False := fun k hk' o hB ho hc => by
        simp only [List.mem_cons] at hk'
        rcases hk' with rfl | rfl | rfl | rfl | hk'
        · omega
        · rw [hpc] at ho; cases ho; cases hc
        · omega
        · omega
        · obtain ⟨cs, t, fr, e⟩ := hvc k hk'
          rw [e] at ho; cases ho; cases hc
      have hM3 := hMt.keep kW3 (fun y hy => (hGm y hy).1)
      generalize hGG : (a.p :: m1 :: m2 :: vv.ownBlock.toList) = GG at *
      clear hGG hvc hpc
      have hgG : W.heap.size ∉ GG := fun hm => by have := (hGm _ hm).2.1; omega
      have rA3 := kW3.get rAW (by simp; omega)
      have cA3 : w3.cell? ⟨w.heap.size, 0, none⟩ = some (.pointer (some ⟨a.p, 0, none⟩)) := (cell_row' (j := 0) rA3).trans rfl
      have hpl : d1.pend.length ≤ 100000000 := by omega
      have hW3 := kW3.size
      have hdm : s1.drop (min s1.length 512) = s1.drop (if (0 : Nat) = 0 then 512 else 511) := by
        rw [if_pos rfl]
        rcases Nat.le_total s1.length 512 with h | h
        · rw [Nat.min_eq_left h, List.drop_length, List.drop_eq_nil_of_le h]
        · rw [Nat.min_eq_right h]
      have HDM := Lib.hid hdm
      clear hdm
      have hbs : ∀ y, y = bn ∨ y = ba ∨ y = bp → tb < y ∧ y < w1.heap.size ∧ w.heap.size ≤ y := fun y hy => by
        have := lt_of_heap r1
        have := lt_of_heap r2
        have := lt_of_heap r3
        have := HTB.out
        rcases hy with rfl | rfl | rfl <;> omega
      by_cases he : (d1.write bk (chunkF 0 s1)).1 = 0
      · have HE := Lib.hid he
        clear he
        gi_wp2_with (refine ⟨trivial, ?_⟩; gi_at_call 33; refine (CallsIn.inRound l (callsIn_wide.2 (write_m hM3 bk (chunkF 0 s1) W.heap.size 5 (0, 0) hr3 hgG (chunkF_length _ _) hdn hhas hpl))).mono ?_; rw [HE.out]; rintro e w4 ⟨rfl, F4, hM4, hk4, hF4⟩)
        have kW4 : Keep (tb :: GG) W w4 := (kW3.mono (F' := tb :: GG) (by simp)).trans hk4 (fun y hy => Or.inl (by simp [hy]))
        have hW4 := hk4.size
        refine ⟨⟨kW4.size, fun k o hB hk' ho => kW4.get hk' (fun hm => hGc k hm o hB hk' ho)⟩, KpB.of kW4 (fun k hk' => ?_), ?_⟩
        · have hq := hbs k (by simpa using hk')
          intro hm
          rcases List.mem_cons.1 hm with e | hm
          · omega
          · rcases (hGm k hm).2.2 with h | h
            · have := htF _ h; omega
            · omega
        · dsimp only
          rw [HSN.out]
          refine ⟨HE.out, ⟨F4, hM4, fun y hy => ?_⟩, ?_, ?_, by simp; omega⟩
          · rcases hF4 y hy with h | h
            · exact (hGm y h).2.2
            · exact Or.inr (by omega)
          · have := hk4.get hT3 (fun hm => (hGm tb hm).1 (by simp))
            rw [HDM.out] at this
            exact this
          · exact hk.trans kW4 (fun y hy => by
              rcases List.mem_cons.1 hy with rfl | hy
              · exact Or.inl (by simp)
              · rcases (hGm y hy).2.2 with h | h
                · exact Or.inl (by simp [h])
                · exact Or.inr h)
      · have heb : ((d1.write bk (chunkF 0 s1)).1 == 0) = false := by simpa using he
        have HNE := Lib.hid he
        clear he
        have hwm := write_m hM3 bk (chunkF 0 s1) W.heap.size 5 (0, 0) hr3 hgG (chunkF_length _ _) hdn hhas hpl
        generalize d1.write bk (chunkF 0 s1) = r at *
        have hrb3 : ∀ G W', Keep G W W' → rb ∉ G → W'.heap[rb]? = some (.cells #[.int .i64 0] 32 (0, 0)) := fun G W' hk' hn => hk'.get (hk.get rE1 (by simp only [List.mem_cons, not_or]; exact ⟨by omega, fun hm => by have := htF _ hm; have := HRB.out; omega⟩)) hn
        have HRB3 := Lib.hid hrb3
        have hrbG : rb ∉ GG := fun hm => by
          rcases (hGm rb hm).2.2 with h | h
          · have := htF _ h; have := HRB.out; omega
          · omega
        clear hrb3
        gi_wp2_with (refine ⟨trivial, ?_⟩; gi_at_call 33; refine (CallsIn.inRound l (callsIn_wide.2 hwm)).mono ?_; rintro e w4 ⟨rfl, F4, hM4, hk4, hF4⟩; have kW4 : Keep (tb :: GG) W w4 := (kW3.mono (F' := tb :: GG) (by simp)).trans hk4 (fun y hy => Or.inl (by simp [hy])); have hE4 := HRB3.out _ _ kW4 (by simp only [List.mem_cons, not_or]; exact ⟨by omega, hrbG⟩); have cE4 := cell_row' (j := 0) hE4; have fE4 := frozen_row' (j := 0) hE4)
        have hW4 := hk4.size
        have kr : Keep [rb] w4 (w4.setCell ⟨rb, 0, none⟩ (.int .i64 r.1)) := (Keep.refl _ _).setCell (by simp) _
        have kW5 : Keep (rb :: tb :: GG) W (w4.setCell ⟨rb, 0, none⟩ (.int .i64 r.1)) := (kW4.mono (F' := rb :: tb :: GG) (fun y hy => Or.inl (by simp only [List.mem_cons] at hy ⊢; exact Or.inr hy))).trans kr (by simp)
        refine ⟨⟨kW5.size, fun k o hB hk' ho => kW5.get hk' (fun hm => ?_)⟩, ?_⟩
        · rcases List.mem_cons.1 hm with e | hm
          · omega
          · exact hGc k hm o hB hk' ho
        · dsimp only
          rw [HSN.out]
          refine ⟨rfl, HNE.out, ⟨F4, hM4.keep kr (fun y hy hm => ?_), fun y hy => ?_⟩, heap_setCell_same w4 rb 0 _ _ _ hE4, ?_⟩
          · rw [List.mem_singleton.1 hm] at hy
            rcases hF4 _ hy with h | h
            · exact hrbG h
            · omega
          · rcases hF4 y hy with h | h
            · exact (hGm y h).2.2
            · exact Or.inr (by omega)
          · exact (hk.mono (F' := tb :: rb :: F0) (fun y hy => Or.inl (by simp only [List.mem_cons] at hy ⊢; rcases hy with h | h <;> simp [h]))).trans kW5 (fun y hy => by
              simp only [List.mem_cons] at hy
              rcases hy with rfl | rfl | hy
              · exact Or.inl (by simp)
              · exact Or.inl (by simp)
              · rcases (hGm y hy).2.2 with h | h
                · exact Or.inl (by simp [h])
                · exact Or.inr h)
    · have hx0 : ¬ (x = 0) := by omega
      have hxb : ((x : Int) == 0) = false := by simpa using hx0
      have HX0 := Lib.hid hx0
      have hxi : ¬ ((x : Int) = 0) := by omega
      clear hx0 hxp
      gi_upto_region 8 with fail
      obtain ⟨WA, hWA⟩ : ∃ WA, W.alloc (.cells (cellsOf zero512) 5) = WA := ⟨_, rfl⟩
      have rG : WA.heap[W.heap.size]? = some (.cells (cellsOf zero512) 5 (0, 0)) := by rw [← hWA]; exact heap_alloc_new W _
      have rTA : WA.heap[tb]? = some (.cells #[.string ⟨s1.toArray⟩] 9 (0, 0)) := by rw [← hWA]; exact (heap_alloc_past htW).trans hT
      have hkWA : Keep [] W WA := by rw [← hWA]; exact (Keep.refl _ _).alloc _
      rw [hWA]
      clear hWA hcTA
      (refine wpIn_region_inv _ _ (TwoR W.heap.size (.cells (cellsOf zero512) 5) (.cells (cellsOf (0 :: padTo 511 s1)) 5)) [fun v _ => v = .slice (some ⟨W.heap.size, 0, none⟩) 512 512, fun v _ => v = .slice (some ⟨W.heap.size, 1, none⟩) 511 511, fun v _ => v = .string ⟨s1.toArray⟩,
         fun v w' => v = .int .i64 (min s1.length 511 : Nat) ∧ w'.heap[W.heap.size]? = some (.cells (cellsOf (0 :: padTo 511 s1)) 5 (0, 0)), fun v _ => v = .int .i64 (min s1.length 511 : Nat)] (by kernel_rfl) (by rintro ⟨_, _, h⟩; exact h) (by kernel_rfl) (by kernel_rfl) (by kernel_rfl) (fun _ _ _ h k => h.trans k) (TwoR.refl _ _ _) ?stab2 ?main2; (case' main2 => (simp only [List.length_cons, List.length_nil, Nat.zero_add, Nat.reduceAdd, AllVals]; intro y0 y1 y2 y3 y4; simp only [putAll, Act.put, List.setIfInBounds_toArray, List.set_cons_zero, List.set_cons_succ, StepsAt]; refine ⟨?steps2, ?after2⟩)); (case' steps2 => (repeat' apply And.intro)); (case' stab2 => (simp only [Stable])))
      case stab2 => refine ⟨fun _ _ _ _ h => h, fun _ _ _ _ h => h, fun _ _ _ _ h => h, fun _ _ _ hk h => ⟨h.1, hk.fin h.2⟩, fun _ _ _ _ h => h, trivial⟩
      all_goals try trivial
      · (intro wq K hR hP hK; simp only [Pre, Region.binds, List.getD_cons_zero, List.getD_cons_succ, true_imp_iff, forall_const, and_true, true_and] at hP; simp only [Act.put, List.setIfInBounds_toArray, List.set_cons_zero, List.set_cons_succ] at hK)
        go_wp2
        exact hK _ _ (TwoR.refl _ _ _ _) rfl
      · (intro wq K hR hP hK; simp only [Pre, Region.binds, List.getD_cons_zero, List.getD_cons_succ, true_imp_iff, forall_const, and_true, true_and] at hP; simp only [Act.put, List.setIfInBounds_toArray, List.set_cons_zero, List.set_cons_succ] at hK)
        subst hP
        go_wp2
        exact hK _ _ (TwoR.refl _ _ _ _) rfl
      · (intro wq K hR hP hK; simp only [Pre, Region.binds, List.getD_cons_zero, List.getD_cons_succ, true_imp_iff, forall_const, and_true, true_and] at hP; simp only [Act.put, List.setIfInBounds_toArray, List.set_cons_zero, List.set_cons_succ] at hK)
        have c0 : wq.cell? ⟨tb, 0, none⟩ = some (.string ⟨s1.toArray⟩) := (cell_row' (j := 0) (hR.keep.drew'.get rTA (by simp; omega))).trans rfl
        go_wp2
        exact hK _ _ (TwoR.refl _ _ _ _) rfl
      · (intro wq K hR hP hK; simp only [Pre, Region.binds, List.getD_cons_zero, List.getD_cons_succ, true_imp_iff, forall_const, and_true, true_and] at hP; simp only [Act.put, List.setIfInBounds_toArray, List.set_cons_zero, List.set_cons_succ] at hK)
        obtain ⟨rfl, rfl⟩ := hP
        have hmin : min (ByteArray.mk s1.toArray).size 511 = min s1.length 511 := by simp [ByteArray.size]
        rcases hR.two rG with hz | hz
        · go_wp2_with (refine wpList_copy_str rfl (.tmp 27) (.tmp 28) 35 9 rfl W.heap.size 1 511 511 ⟨s1.toArray⟩ rfl rfl (min s1.length 511) hmin 5 (cellsOf zero512) 5 Tryd.underlying35 (by kernel_rfl) hz (by rw [cellsOf_size]; simp [zero512]; omega) ?_; intro w5 hq5 hr5)
          have hr5 : w5.heap[W.heap.size]? = some (.cells (cellsOf (0 :: padTo 511 s1)) 5 (0, 0)) := by rw [hr5, ← over_chunk1]
          exact hK _ _ ⟨hq5, fun _ => hr5, fun _ => .inr hr5⟩ ⟨rfl, hr5⟩
        · go_wp2_with (refine wpList_copy_str rfl (.tmp 27) (.tmp 28) 35 9 rfl W.heap.size 1 511 511 ⟨s1.toArray⟩ rfl rfl (min s1.length 511) hmin 5 (cellsOf (0 :: padTo 511 s1)) 5 Tryd.underlying35 (by kernel_rfl) hz (by rw [cellsOf_size]; simp [padTo_length]; omega) ?_; intro w5 hq5 hr5)
          have hr5 : w5.heap[W.heap.size]? = some (.cells (cellsOf (0 :: padTo 511 s1)) 5 (0, 0)) := by
            rw [hr5]
            show some (Obj.cells (over (cellsOf (0 :: padTo 511 s1)) 1 ((s1.take (min s1.length 511)).map B8)) 5 (0, 0)) = _
            rw [over_chunk2]
          exact hK _ _ ⟨hq5, fun _ => hr5, fun _ => .inr hr5⟩ ⟨rfl, hr5⟩
      · (intro wq K hR hP hK; simp only [Pre, Region.binds, List.getD_cons_zero, List.getD_cons_succ, true_imp_iff, forall_const, and_true, true_and] at hP; simp only [Act.put, List.setIfInBounds_toArray, List.set_cons_zero, List.set_cons_succ] at hK)
        obtain ⟨⟨rfl, -⟩, -⟩ := hP
        go_wp2
        exact hK _ _ (TwoR.refl _ _ _ _) rfl
      (intro w2 hk2 hy; simp only [AllAt] at hy)
      obtain ⟨-, -, -, hy3, hy4, -⟩ := hy
      obtain ⟨hy3, hr2⟩ := hy3
      subst hy3 hy4
      have hr2 : w2.heap[W.heap.size]? = some (.cells (cellsOf (chunkF x s1)) 5 (0, 0)) := by rw [hr2]; unfold chunkF; rw [if_neg HX0.out]
      have hkq : Keep [] W w2 := hkWA.trans hk2.keep.drew' (by simp)
      have hT2 := hkq.get hT (by simp)
      have cT2 := cell_row' (j := 0) hT2
      have fT2 := frozen_row' (j := 0) hT2
      have hkl : (min s1.length 511) ≤ s1.length := by omega
      have hsl := slice_str s1 (min s1.length 511) s1.length (Nat.le_refl _) hkl
      have hdl : (s1.drop (min s1.length 511)).take (s1.length - (min s1.length 511)) = s1.drop (min s1.length 511) := List.take_of_length_le (by rw [List.length_drop]; exact Nat.le_refl _)
      rw [hdl] at hsl
      have hszs : (ByteArray.mk s1.toArray).size = s1.length := by simp [ByteArray.size]
      gi_upto_region 10 with fail
      have hT3 := heap_setCell_same w2 tb 0 _ _ (.string ⟨(s1.drop (min s1.length 511)).toArray⟩) hT2
      have hk3 : Keep [tb] w2 (w2.setCell ⟨tb, 0, none⟩ (.string ⟨(s1.drop (min s1.length 511)).toArray⟩)) := (Keep.refl _ _).setCell (by simp) _
      have hr3 := hk3.get hr2 (by simp; omega)
      generalize w2.setCell ⟨tb, 0, none⟩ (.string ⟨(s1.drop (min s1.length 511)).toArray⟩) = w3 at *
      have kW3 : Keep [tb] W w3 := (hkq.mono (F' := [tb]) (by simp)).trans hk3 (by simp)
      obtain ⟨vv, hMt, hG, ⟨csp, tp, frp, hpc⟩, hvc⟩ := hMW.tight
      have hGm : ∀ y ∈ a.p :: m1 :: m2 :: vv.ownBlock.toList, y ∉ [tb] ∧ y < W.heap.size ∧ (y ∈ F0 ∨ w1.heap.size ≤ y) := fun y hy => by
        obtain ⟨hy1, hy2⟩ := hG y hy
        refine ⟨fun hm => ?_, hy2, hF' y hy1⟩
        rw [List.mem_singleton.1 hm] at hy1
        rcases hF' _ hy1 with h | h
        · have := htF _ h; omega
        · omega
      have hGc : ∀ k ∈ tb :: a.p :: m1 :: m2 :: vv.ownBlock.toList, ∀ o, w1.heap.size ≤ k → W.heap[k]? = some o → o.isCells = false → False := fun k hk' o hB ho hc => by
        simp only [List.mem_cons] at hk'
        rcases hk' with rfl | rfl | rfl | rfl | hk'
        · omega
        · rw [hpc] at ho; cases ho; cases hc
        · omega
        · omega
        · obtain ⟨cs, t, fr, e⟩ := hvc k hk'
          rw [e] at ho; cases ho; cases hc
      have hM3 := hMt.keep kW3 (fun y hy => (hGm y hy).1)
      generalize hGG : (a.p :: m1 :: m2 :: vv.ownBlock.toList) = GG at *
      clear hGG hvc hpc
      have hgG : W.heap.size ∉ GG := fun hm => by have := (hGm _ hm).2.1; omega
      have rA3 := kW3.get rAW (by simp; omega)
      have cA3 : w3.cell? ⟨w.heap.size, 0, none⟩ = some (.pointer (some ⟨a.p, 0, none⟩)) := (cell_row' (j := 0) rA3).trans rfl
      have hpl : d1.pend.length ≤ 100000000 := by omega
      have hW3 := kW3.size
      have hdm : s1.drop (min s1.length 511) = s1.drop (if x = 0 then 512 else 511) := by
        rw [if_neg HX0.out]
        rcases Nat.le_total s1.length 511 with h | h
        · rw [Nat.min_eq_left h, List.drop_length, List.drop_eq_nil_of_le h]
        · rw [Nat.min_eq_right h]
      have HDM := Lib.hid hdm
      clear hdm
      have hbs : ∀ y, y = bn ∨ y = ba ∨ y = bp → tb < y ∧ y < w1.heap.size ∧ w.heap.size ≤ y := fun y hy => by
        have := lt_of_heap r1
        have := lt_of_heap r2
        have := lt_of_heap r3
        have := HTB.out
        rcases hy with rfl | rfl | rfl <;> omega
      by_cases he : (d1.write bk (chunkF x s1)).1 = 0
      · have HE := Lib.hid he
        clear he
        gi_wp2_with (refine ⟨trivial, ?_⟩; gi_at_call 33; refine (CallsIn.inRound l (callsIn_wide.2 (write_m hM3 bk (chunkF x s1) W.heap.size 5 (0, 0) hr3 hgG (chunkF_length _ _) hdn hhas hpl))).mono ?_; rw [HE.out]; rintro e w4 ⟨rfl, F4, hM4, hk4, hF4⟩)
        have kW4 : Keep (tb :: GG) W w4 := (kW3.mono (F' := tb :: GG) (by simp)).trans hk4 (fun y hy => Or.inl (by simp [hy]))
        have hW4 := hk4.size
        refine ⟨⟨kW4.size, fun k o hB hk' ho => kW4.get hk' (fun hm => hGc k hm o hB hk' ho)⟩, KpB.of kW4 (fun k hk' => ?_), ?_⟩
        · have hq := hbs k (by simpa using hk')
          intro hm
          rcases List.mem_cons.1 hm with e | hm
          · omega
          · rcases (hGm k hm).2.2 with h | h
            · have := htF _ h; omega
            · omega
        · dsimp only
          rw [HSN.out]
          refine ⟨HE.out, ⟨F4, hM4, fun y hy => ?_⟩, ?_, ?_, by simp; omega⟩
          · rcases hF4 y hy with h | h
            · exact (hGm y h).2.2
            · exact Or.inr (by omega)
          · have := hk4.get hT3 (fun hm => (hGm tb hm).1 (by simp))
            rw [HDM.out] at this
            exact this
          · exact hk.trans kW4 (fun y hy => by
              rcases List.mem_cons.1 hy with rfl | hy
              · exact Or.inl (by simp)
              · rcases (hGm y hy).2.2 with h | h
                · exact Or.inl (by simp [h])
                · exact Or.inr h)
      · have heb : ((d1.write bk (chunkF x s1)).1 == 0) = false := by simpa using he
        have HNE := Lib.hid he
        clear he
        have hwm := write_m hM3 bk (chunkF x s1) W.heap.size 5 (0, 0) hr3 hgG (chunkF_length _ _) hdn hhas hpl
        generalize d1.write bk (chunkF x s1) = r at *
        have hrb3 : ∀ G W', Keep G W W' → rb ∉ G → W'.heap[rb]? = some (.cells #[.int .i64 0] 32 (0, 0)) := fun G W' hk' hn => hk'.get (hk.get rE1 (by simp only [List.mem_cons, not_or]; exact ⟨by omega, fun hm => by have := htF _ hm; have := HRB.out; omega⟩)) hn
        have HRB3 := Lib.hid hrb3
        have hrbG : rb ∉ GG := fun hm => by
          rcases (hGm rb hm).2.2 with h | h
          · have := htF _ h; have := HRB.out; omega
          · omega
        clear hrb3
        gi_wp2_with (refine ⟨trivial, ?_⟩; gi_at_call 33; refine (CallsIn.inRound l (callsIn_wide.2 hwm)).mono ?_; rintro e w4 ⟨rfl, F4, hM4, hk4, hF4⟩; have kW4 : Keep (tb :: GG) W w4 := (kW3.mono (F' := tb :: GG) (by simp)).trans hk4 (fun y hy => Or.inl (by simp [hy])); have hE4 := HRB3.out _ _ kW4 (by simp only [List.mem_cons, not_or]; exact ⟨by omega, hrbG⟩); have cE4 := cell_row' (j := 0) hE4; have fE4 := frozen_row' (j := 0) hE4)
        have hW4 := hk4.size
        have kr : Keep [rb] w4 (w4.setCell ⟨rb, 0, none⟩ (.int .i64 r.1)) := (Keep.refl _ _).setCell (by simp) _
        have kW5 : Keep (rb :: tb :: GG) W (w4.setCell ⟨rb, 0, none⟩ (.int .i64 r.1)) := (kW4.mono (F' := rb :: tb :: GG) (fun y hy => Or.inl (by simp only [List.mem_cons] at hy ⊢; exact Or.inr hy))).trans kr (by simp)
        refine ⟨⟨kW5.size, fun k o hB hk' ho => kW5.get hk' (fun hm => ?_)⟩, ?_⟩
        · rcases List.mem_cons.1 hm with e | hm
          · omega
          · exact hGc k hm o hB hk' ho
        · dsimp only
          rw [HSN.out]
          refine ⟨rfl, HNE.out, ⟨F4, hM4.keep kr (fun y hy hm => ?_), fun y hy => ?_⟩, heap_setCell_same w4 rb 0 _ _ _ hE4, ?_⟩
          · rw [List.mem_singleton.1 hm] at hy
            rcases hF4 _ hy with h | h
            · exact hrbG h
            · omega
          · rcases hF4 y hy with h | h
            · exact (hGm y h).2.2
            · exact Or.inr (by omega)
          · exact (hk.mono (F' := tb :: rb :: F0) (fun y hy => Or.inl (by simp only [List.mem_cons] at hy ⊢; rcases hy with h | h <;> simp [h]))).trans kW5 (fun y hy => by
              simp only [List.mem_cons] at hy
              rcases hy with rfl | rfl | hy
              · exact Or.inl (by simp)
              · exact Or.inl (by simp)
              · rcases (hGm y hy).2.2 with h | h
                · exact Or.inl (by simp [h])
                · exact Or.inr h)
  case done =>
    rintro D xs W hBD rfl ⟨h0, ⟨F', hMW, hF'⟩, hT, hk, hpn⟩ hDf
    have hE := hk.get rE1 (by simp only [List.mem_cons, not_or]; exact ⟨by omega, fun hm => by have := htF _ hm; have := HRB.out; omega⟩)
    have HRB2 := HRB.out
    rw [HRB2] at hE htb1
    clear HRB
    subst HRB2
    have cE := cell_row' (j := 0) hE
    have fE := frozen_row' (j := 0) hE
    go_wp2
    have hE2 := heap_setCell_same W (w.heap.size + 1 + 1) 0 _ _ (.int .i64 0) hE
    have kr : Keep [w.heap.size + 1 + 1] W (W.setCell ⟨w.heap.size + 1 + 1, 0, none⟩ (.int .i64 0)) := (Keep.refl _ _).setCell (by simp) _
    have hD2 := kr.get hDf (by simp; omega)
    have hM2 := hMW.keep kr (fun y hy hm => by
      rw [List.mem_singleton.1 hm] at hy
      rcases hF' _ hy with h | h
      · have := htF _ h; omega
      · omega)
    have hkW : Keep (tb :: (w.heap.size + 1 + 1) :: F0) w1 (W.setCell ⟨w.heap.size + 1 + 1, 0, none⟩ (.int .i64 0)) := (hk.mono (F' := tb :: (w.heap.size + 1 + 1) :: F0) (fun y hy => Or.inl (by simp only [List.mem_cons] at hy ⊢; rcases hy with h | h <;> simp [h]))).setCell (by simp) _
    generalize W.setCell ⟨w.heap.size + 1 + 1, 0, none⟩ (.int .i64 0) = W' at *
    refine ⟨by simp, .inl ⟨_, _, rfl, run_takeDeferred hD2, ?_⟩⟩
    have c2 : (W'.putObj D (.deferred none)).cell? ⟨w.heap.size + 1 + 1, 0, none⟩ = some (.int .i64 0) := (cell_row' (j := 0) ((World.putObj_heap_other (by omega)).trans hE2)).trans rfl
    have hM3 := hM2.grown (grownBy_putObj' W' D (.deferred none)) (b := w1.heap.size) (fun k e => by cases e; exact ⟨hBD, _, hD2, rfl⟩) (by omega) (by omega)
    have hkf : Keep F w (W'.putObj D (.deferred none)) := by
      have k1 : Keep F0 w W' := (hK1.mono (F' := F0) (by simp)).trans hkW (fun y hy => by
        simp only [List.mem_cons] at hy
        rcases hy with rfl | rfl | h
        · exact Or.inr (by omega)
        · exact Or.inr (by omega)
        · exact Or.inl h)
      exact (k1.grown (grownBy_putObj' W' D (.deferred none)) (fun k e => Or.inr (by cases e; omega))).mono (fun y hy => Or.inl (hF0 y hy).1)
    rw [← HNN.out]
    refine ⟨.int .i64 0, ?_, by rw [h0], F', hM3.at, hkf, fun y hy => ?_⟩
    · simp [results, Tryd.f42, go_sem, c2]
    · rcases hF' y hy with h | h
      · exact Or.inl (hF0 y h).1
      · exact Or.inr (by omega)
  case stop =>
    rintro D c pre W hBD ⟨k, hkN, rfl⟩ ⟨rfl, hne, ⟨F', hMW, hF'⟩, hE, hk⟩ hDf
    have HRB2 := HRB.out
    rw [HRB2] at hE htb1 hk
    clear HRB
    subst HRB2
    gi_wp2
    refine ⟨by simp, .inl ⟨_, _, rfl, run_takeDeferred hDf, ?_⟩⟩
    have c2 : (W.putObj D (.deferred none)).cell? ⟨w.heap.size + 1 + 1, 0, none⟩ = some (.int .i64 (wfold a place d s (List.range k)).1) := (cell_row' (j := 0) ((World.putObj_heap_other (by omega)).trans hE)).trans rfl
    have hM3 := hMW.grown (grownBy_putObj' W D (.deferred none)) (b := w1.heap.size) (fun k e => by cases e; exact ⟨hBD, _, hDf, rfl⟩) (by omega) (by omega)
    have hkf : Keep F w (W.putObj D (.deferred none)) := by
      have k1 : Keep F0 w W := (hK1.mono (F' := F0) (by simp)).trans hk (fun y hy => by
        simp only [List.mem_cons] at hy
        rcases hy with rfl | rfl | h
        · exact Or.inr (by omega)
        · exact Or.inr (by omega)
        · exact Or.inl h)
      exact (k1.grown (grownBy_putObj' W D (.deferred none)) (fun k e => Or.inr (by cases e; omega))).mono (fun y hy => Or.inl (hF0 y hy).1)
    rw [← HNN.out, wfold_stop a place d s hkN hne]
    refine ⟨.int .i64 (wfold a place d s (List.range k)).1, ?_, rfl, F', hM3.at, hkf, fun y hy => ?_⟩
    · simp [results, Tryd.f42, go_sem, c2]
    · rcases hF' y hy with h | h
      · exact Or.inl (hF0 y h).1
      · exact Or.inr (by omega)
end
end Go.Proofs.YtgopdbpddemplaaDoor
