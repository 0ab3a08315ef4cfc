/- What the rows of the ring's statements share: what their lists give, a world that holds them, the last step where the call froze something new. · frame: within, Size, Check, Encode's writer, blocksOf. · A drawn region, whatever its order: each operation is shown once. -/
import Derived.Test.YtgopdbpddemplaaDoorCards
import Derived.Test.YtgopdbpddemplaaDoorTie
import Derived.Test.YtgopdbpddemplaaDoorPart05
import Derived.WalkKit
import Derived.ProofKit
import Derived.OpenShut
import Derived.Below
import Derived.Carry
import Derived.ChangeSame
import Derived.Deep.DeepHandedRow
import Derived.Lib.LaidTab
import Derived.Stop.LaidErr
import Derived.Test.YtgopdbpddemplaaDoorPart02
import Derived.Laws.Concat
import Derived.Orders
import Derived.Deep.RegionHeld3
set_option linter.unusedSimpArgs false
set_option linter.unusedVariables false
namespace Go.Proofs.YtgopdbpddemplaaDoor
section
/- What the rows of the ring's statements share: what their lists give, a world that holds them, the last step where the call froze something new. -/
open Go.RowKit Go.ChangeShapes Go.WideShapes Go.ChangeAt

theorem own : ownKnob Tryd.prog.godebug = none := by kernel_rfl
theorem laidOut : laidOutB Tryd.prog = true := by kernel_rfl
theorem gInitial : Tryd.prog.globalNamed "replevin/sha256.initial" = some 1 := by kernel_rfl
theorem gConstants : Tryd.prog.globalNamed "replevin/sha256.constants" = some 2 := by kernel_rfl
theorem gSizes : Tryd.prog.globalNamed "replevin/frame.sizes" = some 0 := by kernel_rfl
theorem tInitial : (Tryd.prog.globals[1]?).map (·.type) = some 142 := by kernel_rfl
theorem tConstants : (Tryd.prog.globals[2]?).map (·.type) = some 152 := by kernel_rfl
theorem tSizes : (Tryd.prog.globals[0]?).map (·.type) = some 112 := by kernel_rfl

def laids : List (String × DataW Unit) := [("replevin/sha256.initial", Rows.laid_replevin_sha256_initial), ("replevin/sha256.constants", Rows.laid_replevin_sha256_constants), ("replevin/frame.sizes", Rows.laid_replevin_frame_sizes)]

def iList : List Int := [1779033703, 3144134277, 1013904242, 2773480762, 1359893119, 2600822924, 528734635, 1541459225]
theorem iList_nth (j : Nat) (h : j < 8) : iList.getD j 0 = s0.nth j := by
  match j, h with
  | 0, _ | 1, _ | 2, _ | 3, _ | 4, _ | 5, _ | 6, _ | 7, _ => rfl

/-- WHAT THE ROW's LIST GIVES. -/
theorem glob_of_laid {W : World} (h : laidMetH Tryd.prog laids W) : Glob W := by
  have h' : laidMet Tryd.prog laids W := h
  have e1 : laids = ("replevin/sha256.initial", Lib.tabData .u32 iList) :: ("replevin/sha256.constants", Lib.tabData .u32 kConst) :: ("replevin/frame.sizes", Lib.tabData .i64 sizesList) :: [] := rfl
  rw [e1] at h'
  have t1 := Lib.tabIs_of_head gInitial tInitial Tryd.underlying142 Tryd.underlying141 (by kernel_rfl) (by kernel_rfl) h'
  have t2 := Lib.tabIs_of_head gConstants tConstants Tryd.underlying152 Tryd.underlying141 (by kernel_rfl) (by kernel_rfl) (laidMet.tail h')
  have t3 := Lib.tabIs_of_head gSizes tSizes Tryd.underlying112 Tryd.underlying3 (by kernel_rfl) (by kernel_rfl) (laidMet.tail (laidMet.tail h'))
  refine ⟨fun t ht => ?_, fun j hj => ?_, fun j hj => ?_⟩
  · exact t2.cell gConstants t ht
  · rw [t1.cell gInitial j hj, iList_nth j hj]
  · exact t3.cell gSizes j hj

/-- A WORLD FOR THE WITNESS. -/
noncomputable def laidWorld (os : Os) : World :=
  let h0 := (World.holding Tryd.prog os ⟨#[], #[], []⟩)
  let lay (zs : List Value) : Obj → Obj := fun
      | .cells _ t frozen => .cells zs.toArray t frozen
      | o => o
  { h0 with heap := ((h0.heap.modify 1 (lay (iList.map fun z => .int .u32 z))).modify 2 (lay (kConst.map fun z => .int .u32 z))).modify 0 (lay (sizesList.map fun z => .int .i64 z)) }

theorem below_of_keep {w w' : World} (h : Keep [] w w') : Below w.heap.size w w' := ⟨h.os, h.tape, h.output, h.size, fun k hk => h.heap k hk (by simp)⟩

section
variable {H : Type} {enc : TypeId × Value → H} {P : Program}
/-- The row's last step where the call froze something new. -/
theorem post_of_below {f : Func} {s : ChangeSpec} {apart fresh handsOn again : Bool} {W W' : World} {args : Array Value} {v : Value} {ds gs : List (DataW H)} {before pa pv : List MemPlace}
    (hW : DataW.Whole enc P f.params.toList s.vars apart W args.toList ds gs before)
    (hres : ∀ (b : Nat) (sp : Nat → Bool) (hd : Bool), DataW.TrodAll enc P W' b sp hd f.resultTypes.toList (v.resultList f.resultTypes.size) (s.fn H (ds ++ gs)).results [])
    (hargs : ∀ sp : Nat → Bool, (∀ p ∈ before, sp p.block = true) → DataW.TrodAll enc P W' 0 sp true f.params.toList args.toList (s.fn H (ds ++ gs)).args pa)
    (hvars : ∀ sp : Nat → Bool, (∀ p ∈ before, sp p.block = true) → DataW.TrodVars enc P W' sp s.vars (s.fn H (ds ++ gs)).vars pv)
    (hps : before = pa ++ pv) (hb : Below W.heap.size W W')
    (hok : ∀ (j : Nat) (t : TypeId) (r : Value), f.resultTypes[j]? = some t → (v.resultList f.resultTypes.size)[j]? = some r → Value.okWide P W' .any 0 t r) :
    s.post enc P f apart fresh handsOn again W args v W' := by
  have hlt : ∀ p ∈ before, p.block < W.heap.size := fun p hp => hW.lt p hp
  have hold : ∀ p ∈ before, (fun b => decide (b < W.heap.size)) p.block = true := fun p hp => by simpa using hlt p hp
  refine ⟨ds, gs, before, [], pa, pv, hW, hres _ _ _, hargs _ hold, hvars _ hold, World.keptBut_mono (fun p hp => ⟨hp, ?_⟩) (hb.frame (· ∈ before)), fun _ => ?_⟩
  · rw [hps, List.mem_append] at hp
    exact Or.inr hp
  · obtain ⟨_, _, _, _, _, hz, hn⟩ := hW
    refine ⟨hok, _, _, ([] ++ pa) ++ pv, ⟨[] ++ pa, pv, trodAll_append (hargs _ (fun _ _ => rfl)) (hres _ _ _), hvars _ (fun _ _ => rfl), rfl, ?_, ?_⟩, ?_⟩
    · intro b off hp
      have hin : MemPlace.cell b off ∈ before := by rw [hps]; simpa using hp
      rw [hb.frozen (hlt _ hin)]
      exact hz b off hin
    · intro ha
      have := hn ha
      rw [hps] at this
      simpa using this
    · intro p hp _
      rw [hps]
      simpa using hp

/-- An argument of an array of two integers, opened. -/
theorem open_pair {w : World} {base : Nat} {spare : Nat → Bool} {held : Bool} {r : Reach} {b0 : Nat} {t e : TypeId} {k : IntKind} {v : Value} {d : DataW H} {ps : List MemPlace}
    (ht : P.underlying t = some (.array 2 e)) (he : P.underlying e = some (.int k)) (hce : P.cellsOf e = 1) (hct : P.cellsOf t = 2) (hval : Value.okWide P w r b0 t v) (hd : DataW.Trod enc P w base spare held t v d ps) :
    ∃ a b, v = .agg #[.int k a, .int k b] ∧ (Lit.int k a).wf = true ∧ (Lit.int k b).wf = true ∧ ps = [] := by
  unfold Value.okWide at hval
  rw [ht] at hval
  obtain ⟨cs, rfl, hsz, -⟩ := hval
  obtain ⟨fuel, hf⟩ := hd
  obtain ⟨xs, m, rfl, hx, hl, hn, hi⟩ := DataW.trod_array ht hf
  obtain ⟨x0, x1, rfl⟩ : ∃ x0 x1, xs = [x0, x1] := by
    match xs, hn with
    | [a, b], _ => exact ⟨a, b, rfl⟩
  have h0 := hi 0 (by omega)
  have h1 := hi 1 (by omega)
  simp only [hce, Nat.zero_mul, List.drop_zero, Nat.one_mul, List.getElem?_cons_zero, List.getElem?_cons_succ] at h0 h1
  obtain ⟨a, ea, rfl, wa⟩ := DataW.trod_int he h0
  obtain ⟨b, eb, rfl, wb⟩ := DataW.trod_int he h1
  have e : cs.toList = [.int k a, .int k b] := by
    rw [hct] at hl
    change cs.toList.length = 2 at hl
    change List.take 1 cs.toList = _ at ea
    change List.take 1 (List.drop 1 cs.toList) = _ at eb
    generalize cs.toList = l at hl ea eb
    match l, hl with
    | [x, y], _ => simp at ea eb; subst ea; subst eb; rfl
  obtain rfl : cs = #[.int k a, .int k b] := by
    apply Array.ext'
    exact e
  refine ⟨a, b, rfl, wa, wb, ?_⟩
  simp only [Prod.mk.injEq] at hx
  simpa using hx.2
end
end

section
/- frame: within, Size, Check, Encode's writer, blocksOf. -/
open Go.RowKit

set_option maxHeartbeats 400000 in
theorem within_any (n m : Int) (w : World) : Calls Tryd.prog 63 #[.int .i64 n, .int .i64 m] w fun e w' => e = .returned (.bool (decide (0 ≤ n ∧ n ≤ m))) ∧ w' = w := by
  by_cases h0 : 0 ≤ n
  · by_cases h1 : n ≤ m
    · go_enter Tryd.func63, Tryd.ntmps63
      go_wp2
      go_ret
      exact ⟨by simp [h0, h1], rfl⟩
    · have h1' : decide (n ≤ m) = false := by simp; omega
      go_enter Tryd.func63, Tryd.ntmps63
      go_wp2
      go_ret
      exact ⟨by simp, rfl⟩
  · have h0' : decide (0 ≤ n) = false := by simp; omega
    go_enter Tryd.func63, Tryd.ntmps63
    go_wp2
    go_ret
    exact ⟨by simp, rfl⟩

set_option maxHeartbeats 400000 in
theorem size_ok (n : Int) (w : World) (h0 : 0 ≤ n) (h1 : n ≤ 262144) : Calls Tryd.prog 36 #[.int .i64 n] w fun e w' => e = .returned (.tuple #[.int .i64 (26 + n + 16), .int .i64 0]) ∧ w' = w := by
  have hd : decide (0 ≤ n ∧ n ≤ 262144) = true := by simp; omega
  go_enter Tryd.func36, Tryd.ntmps36
  go_wp2_with (go_at_call 63; refine (within_any _ _ _).mono ?_; rintro e w' ⟨rfl, rfl⟩)
  go_ret2
  exact ⟨rfl, rfl⟩

set_option maxHeartbeats 400000 in
theorem blocksOf_any (n : Nat) (w : World) (h0 : 1 ≤ n) (h1 : n ≤ 1000000000) : Calls Tryd.prog 37 #[.int .i64 n] w fun e w' => e = .returned (.int .i64 ((n - 1 + 511 - 1) / 511 : Nat)) ∧ w' = w := by
  go_enter Tryd.func37, Tryd.ntmps37
  go_wp2
  go_ret
  exact ⟨ret_int (by omega), rfl⟩

/-- n in k bytes -/
def beN (k : Nat) (n : Int) : List UInt8 := (List.range k).map fun j => b8 (n / 2 ^ (8 * (k - 1 - j)))
theorem beN_length (k : Nat) (n : Int) : (beN k n).length = k := by simp [beN]

set_option maxRecDepth 100000 in
set_option maxHeartbeats 1000000 in
theorem enc1_any (n : Int) (k bb base : Nat) (v : Value) (l : List UInt8) (F : List Nat) (ws w : World) (hn : 0 ≤ n) (hn1 : n < 9223372036854775808) (hk1 : 1 ≤ k) (hk8 : k ≤ 8)
    (hbb : w.heap[bb]? = some (.cells #[v] 35 (0, 0))) (hB : Buf 5 w base v l) (hbase : base ≤ w.heap.size) (hbs : ws.heap.size ≤ base) (hbbF : bb ∈ F ∨ ws.heap.size ≤ bb) (hK : Keep F ws w) (hlen : l.length ≤ 1000000) :
    Calls Tryd.prog 65 #[.int .u64 n, .int .i64 k, .pointer (some ⟨bb, 0, none⟩)] w fun e w' => e = .returned (.tuple #[]) ∧ Keep F ws w' ∧ base ≤ w'.heap.size ∧
      ∃ v', w'.heap[bb]? = some (.cells #[v'] 35 (0, 0)) ∧ Buf 5 w' base v' (l ++ beN k n) := by
  obtain ⟨i0, hi, hz0, hz1, hz2⟩ := info_parts info_u8
  have HBB := Lib.hid hbb
  have HB := Lib.hid hB
  have HK := Lib.hid hK
  clear hbb hB hK
  go_enter Tryd.func65, Tryd.ntmps65
  go_wp2
  go_loopw [5] (fun i wr => ∃ j : Nat, ∃ v' : Value, j ≤ k ∧ i = .int .i64 (8 * ((k : Int) - 1 - j)) ∧ wr.heap[bb]? = some (.cells #[v'] 35 (0, 0)) ∧ Buf 5 wr base v' (l ++ (beN k n).take j) ∧ Keep F ws wr ∧ base ≤ wr.heap.size) (fun i _ => (intOf i + 8).toNat)
  case atStart => exact ⟨0, v, by omega, by congr 1; omega, HBB.out, by simpa using HB.out, HK.out, hbase⟩
  case round =>
    obtain ⟨j, v', hj, rfl, hbb, hB, hK, hbr⟩ := hrel
    by_cases hlt : j < k
    · have g0 : (0 : Int) ≤ 8 * ((k : Int) - 1 - j) := by omega
      have g1 : 8 * ((k : Int) - 1 - j) ≤ 64 := by omega
      have g2 : (8 * ((k : Int) - 1 - j)).toNat = 8 * (k - 1 - j) := by omega
      have c0 : wr.cell? ⟨bb, 0, none⟩ = some v' := (cell_of_row wr bb 0 _ _ _ hbb).trans rfl
      have HBB := Lib.hid hbb
      have HB := Lib.hid hB
      have HK := Lib.hid hK
      clear hbb hB
      have HROW : Hid ((#[.int .u8 (n / 2 ^ (8 * (k - 1 - j)) % 256)] : Array Value) = ([b8 (n / 2 ^ (8 * (k - 1 - j)))].map B8).toArray) := by
        show _ = _
        rw [← IntKind.wrap_u8, b8_cell]; rfl
      have HR2 : Hid (∀ A : Obj, (wr.alloc A).drew.heap[bb]? = some (.cells #[v'] 35 (0, 0))) := fun A => (heap_alloc_past (lt_of_heap HBB.out)).trans HBB.out
      have HX : Hid (∀ (A : Obj) (w2 : World), (wr.alloc A).drew.grownBy w2 v'.ownBlock → w2.heap[bb]? = some (.cells #[v'] 35 (0, 0))) := fun A w2 hg =>
        (hg.block bb (lt_of_heap (HR2.out A)) ((HB.out.alloc A).drew.ne_block (HR2.out A) (by decide))).trans (HR2.out A)
      have c1 : ∀ A : Obj, (wr.alloc A).cell? ⟨bb, 0, none⟩ = some v' := fun A => (cell_of_row _ bb 0 _ _ _ (HR2.out A)).trans rfl
      have f1 : ∀ A : Obj, (wr.alloc A).frozen? ⟨bb, 0, none⟩ = false := fun A => frozen_of_row _ bb 0 _ _ (HR2.out A)
      go_wp2
      go_region_law (first
        | (refine step_append_bytes rfl (.tmp 13) (.tmp 18) 35 rfl F ws base ((HK.out.alloc _).drew) hbs 5 i0 Tryd.underlying35 hi hz0 hz1 hz2 v' _ rfl ((HB.out.alloc _).drew) (by simp [World.drew]; omega) [b8 (n / 2 ^ (8 * (k - 1 - j)))] wr.heap.size 5 (0, 0) (by rw [← HROW.out]; exact heap_alloc_at rfl) 1 rfl rfl (by simp; omega) ?_
           intro v2 w2 hb2 hg2 hk2
           have hbb2 := HX.out _ _ hg2
           have c2 : w2.cell? ⟨bb, 0, none⟩ = some v' := (cell_of_row _ bb 0 _ _ _ hbb2).trans rfl
           have f2 : w2.frozen? ⟨bb, 0, none⟩ = false := frozen_of_row _ bb 0 _ _ hbb2
           obtain ⟨sa, sn, sc, rfl⟩ := hb2.isSlice
           have HBB2 := Lib.hid hbb2
           have HB2 := Lib.hid hb2
           have HK2 := Lib.hid hk2
           have HG2 := Lib.hid hg2
           clear hbb2 hb2 hg2 hk2))
      all_goals
        go_wp2
        go_roundw
        case rel =>
          have hbb3 := heap_setCell_same w2 bb 0 _ _ (.slice sa sn sc) HBB2.out
          have hk3 : Keep [bb] w2 (w2.setCell ⟨bb, 0, none⟩ (.slice sa sn sc)) := (Keep.refl _ _).setCell (by simp) _
          refine ⟨j + 1, .slice sa sn sc, by omega, by congr 1; omega, hbb3, ?_, ?_, ?_⟩
          · have ht : (beN k n).take (j + 1) = (beN k n).take j ++ [b8 (n / 2 ^ (8 * (k - 1 - j)))] := by
              rw [List.take_succ_eq_append_getElem (by rw [beN_length]; exact hlt)]
              simp [beN]
            rw [ht, ← List.append_assoc]
            refine HB2.out.keep hk3 (fun x hx => ?_)
            rw [List.mem_singleton.1 hx]
            exact Ne.symm (HB2.out.ne_block HBB2.out (by decide))
          · exact HK2.out.setCell hbbF _
          · have := HG2.out.size; simp [World.drew] at this ⊢; omega
        case measure => simp [intOf]; omega
    · have hj' : j = k := by omega
      have hneg : ¬ 0 ≤ 8 * ((k : Int) - 1 - j) := by omega
      go_wp2
      go_end0
      refine ⟨rfl, hK, hbr, v', hbb, ?_⟩
      rw [hj', List.take_of_length_le (by rw [beN_length]; omega)] at hB
      exact hB
end

section
/- A drawn region, whatever its order: each operation is shown once. -/
open Go.RowKit

section
variable {P : Program} {ops : Array Oper} {rest : List Oper} {o : Oper} {a : Act} {w : World} {Q : Exit → Act → World → Prop}
theorem step_add_str (hgd : o.guard = none) (t : TypeId) (x y : Operand) (t' : TypeId) (ho : o.op = .binOp .add t x y t') (A B : List UInt8) (hx : a.eval x = str A) (hy : a.eval y = str B) (hl : A.length + B.length ≤ 9223372036854775807)
    (h : wpList P ops Q rest (a.put o.dst (str (A ++ B))) w) : wpList P ops Q (o :: rest) a w :=
  wpList_plain hgd fun _ hK => by
    unfold Oper.wp execOp
    have := run_string_add_sum (P := P) w ⟨A.toArray⟩ ⟨B.toArray⟩ (by simpa [ByteArray.size] using hl)
    have hq : (eqGuard .add t x y (.string ⟨A.toArray⟩) (.string ⟨B.toArray⟩)).run P w = Result.ok () w := by simp [eqGuard]
    simp only [ho, hx, hy, str, binOp, Sem.run_bind, hq, this, Result.andThen_ok, Sem.run_pure, ByteArray.mk_append_mk]
    exact hK _ _ h
/-- != of strings -/
theorem step_neq_str (hgd : o.guard = none) (t : TypeId) (x y : Operand) (t' : TypeId) (ho : o.op = .binOp .neq t x y t') (A B : List UInt8) (hx : a.eval x = str A) (hy : a.eval y = str B)
    (h : wpList P ops Q rest (a.put o.dst (.bool (!(A == B)))) w) : wpList P ops Q (o :: rest) a w :=
  wpList_plain hgd fun _ hK => by
    unfold Oper.wp execOp
    have hq : (eqGuard .neq t x y (.string ⟨A.toArray⟩) (.string ⟨B.toArray⟩)).run P w = Result.ok () w := by simp [eqGuard]
    simp only [ho, hx, hy, str, binOp, Sem.run_bind, hq, Result.andThen_ok, Sem.run_pure, Op.stringOp, ByteArray.toList_eq]
    exact hK _ _ h
end

section
variable {P : Program} {Q : Exit → Act → World → Prop}

def After (K : Act → World → Prop) (Q : Exit → Act → World → Prop) : Exit → Act → World → Prop
  | .normal, a, w => K a w
  | e, a, w => Q e a w
@[simp] theorem After_normal (K : Act → World → Prop) (a : Act) (w : World) : After K Q .normal a w = K a w := rfl

/-- the slots of a region's operations, filled -/
def putAll : List Oper → List Value → Act → Act
  | o :: l, v :: vs, a => putAll l vs (a.put o.dst v)
  | _, _, a => a

theorem put_put (a : Act) (d : Option Tmp) (v u : Value) : (a.put d v).put d u = a.put d u := by
  cases d <;> simp [Act.put]

theorem putAll_put : ∀ (l : List Oper) (vs : List Value) (a : Act) (d : Option Tmp) (v : Value), (∀ o ∈ l, ∀ t, o.dst = some t → d ≠ some t) →
    putAll l vs (a.put d v) = (putAll l vs a).put d v
  | [], _, _, _, _, _ => by simp [putAll]
  | o :: l, [], _, _, _, _ => by simp [putAll]
  | o :: l, u :: vs, a, d, v, h => by
    simp only [putAll]
    rw [Act.put_comm a v u (fun t ht e => (h o (by simp) t e) (by rw [ht]))]
    exact putAll_put l vs _ d v (fun o' ho' => h o' (by simp [ho']))

def Apart (l : List Oper) : Prop := l.Pairwise fun o o' => ∀ t, o'.dst = some t → o.dst ≠ some t
def apartB : List Oper → Bool
  | [] => true
  | o :: l => (l.all fun o' => match o'.dst with | none => true | some t => o.dst != some t) && apartB l
theorem apart_of : ∀ l : List Oper, apartB l = true → Apart l
  | [], _ => List.Pairwise.nil
  | o :: l, h => by
    simp only [apartB, Bool.and_eq_true, List.all_eq_true] at h
    refine List.Pairwise.cons (fun o' ho' t ht => ?_) (apart_of l h.2)
    have := h.1 o' ho'
    simpa [ht] using this

theorem putAll_set : ∀ (l : List Oper) (vs : List Value) (a : Act) (i : Nat) (o : Oper) (v : Value), Apart l → l[i]? = some o → vs.length = l.length →
    putAll l (vs.set i v) a = (putAll l vs a).put o.dst v
  | [], _, _, _, _, _, _, h, _ => by simp at h
  | o :: l, [], _, _, _, _, _, _, h => by simp at h
  | o :: l, u :: vs, a, 0, o', v, hA, h, hl => by
    obtain rfl : o = o' := by simpa using h
    simp only [List.set_cons_zero, putAll]
    have h1 := (List.pairwise_cons.1 hA).1
    rw [← putAll_put l vs _ _ _ (fun o' ho' t ht => h1 o' ho' t ht), put_put]
  | o :: l, u :: vs, a, i + 1, o', v, hA, h, hl => by
    simp only [List.set_cons_succ, putAll]
    exact putAll_set l vs _ i o' v (List.pairwise_cons.1 hA).2 (by simpa using h) (by simpa using hl)

/-- what stands of the edges -/
def Pre (V : List (Value → World → Prop)) (vs : List Value) (w : World) : List Edge → Prop
  | [] => True
  | e :: es => (Region.binds .any e = true → V.getD e.on (fun _ _ => True) (vs.getD e.on undef) w) ∧ Pre V vs w es

def StepAt (P : Program) (Q : Exit → Act → World → Prop) (ops : Array Oper) (R : World → World → Prop) (V : List (Value → World → Prop)) (w₀ : World) (a : Act) (vs : List Value) (v₁ : Value → World → Prop) (o : Oper) : Prop :=
  ∀ (w : World) (K : Act → World → Prop), R w₀ w → Pre V vs w o.after.toList → (∀ v w', R w w' → v₁ v w' → K (a.put o.dst v) w') → wpList P ops (After K Q) [o] a w

def StepsAt (P : Program) (Q : Exit → Act → World → Prop) (ops : Array Oper) (R : World → World → Prop) (V : List (Value → World → Prop)) (w₀ : World) (a : Act) (vs : List Value) : List (Value → World → Prop) → List Oper → Prop
  | v₁ :: V', o :: l => StepAt P Q ops R V w₀ a vs v₁ o ∧ StepsAt P Q ops R V w₀ a vs V' l
  | [], [] => True
  | _, _ => False

def AllAt : List (Value → World → Prop) → List Value → World → Prop
  | v₁ :: V, v :: vs, w => v₁ v w ∧ AllAt V vs w
  | _, _, _ => True

def Stable (R : World → World → Prop) : List (Value → World → Prop) → Prop
  | [] => True
  | v₁ :: V => (∀ w w' v, R w w' → v₁ v w → v₁ v w') ∧ Stable R V

def AllVals : Nat → (List Value → Prop) → Prop
  | 0, f => f []
  | n + 1, f => ∀ v, AllVals n (fun l => f (v :: l))

theorem AllVals.get : ∀ {n : Nat} {f : List Value → Prop}, AllVals n f → ∀ vs : List Value, vs.length = n → f vs
  | 0, f, h, [], _ => h
  | n + 1, f, h, v :: vs, hl => (h v).get vs (by simpa using hl)

theorem Stable.get {R : World → World → Prop} : ∀ {V : List (Value → World → Prop)}, Stable R V → ∀ i w w' v, R w w' → V.getD i (fun _ _ => True) v w → V.getD i (fun _ _ => True) v w'
  | [], _, _, _, _, _, _, h => by simp
  | v₁ :: V, hs, 0, w, w', v, hr, h => by simpa using hs.1 w w' v hr (by simpa using h)
  | v₁ :: V, hs, i + 1, w, w', v, hr, h => by simpa using hs.2.get i w w' v hr (by simpa using h)

theorem StepsAt.get {ops : Array Oper} {R : World → World → Prop} {V : List (Value → World → Prop)} {w₀ : World} {a : Act} {vs : List Value} :
    ∀ {V' : List (Value → World → Prop)} {l : List Oper}, StepsAt P Q ops R V w₀ a vs V' l → ∀ i o, l[i]? = some o → StepAt P Q ops R V w₀ a vs (V'.getD i (fun _ _ => True)) o
  | v₁ :: V', o :: l, h, 0, o', ho => by obtain rfl : o = o' := by simpa using ho
                                         simpa using h.1
  | v₁ :: V', o :: l, h, i + 1, o', ho => by simpa using h.2.get i o' (by simpa using ho)
  | [], [], _, i, o, ho => by simp at ho
  | [], _ :: _, h, _, _, _ => h.elim
  | _ :: _, [], h, _, _, _ => h.elim

theorem AllAt.of : ∀ {V : List (Value → World → Prop)} {vs : List Value} {w : World}, (∀ i, i < vs.length → V.getD i (fun _ _ => True) (vs.getD i undef) w) → AllAt V vs w
  | [], _, _, _ => by simp [AllAt]
  | _ :: _, [], _, _ => by simp [AllAt]
  | v₁ :: V, v :: vs, w, h => ⟨by simpa using h 0 (by simp), AllAt.of (fun i hi => by simpa using h (i + 1) (by simpa using hi))⟩

theorem Pre.of {V : List (Value → World → Prop)} {vs : List Value} {w : World} : ∀ {es : List Edge}, (∀ e ∈ es, Region.binds .any e = true → V.getD e.on (fun _ _ => True) (vs.getD e.on undef) w) → Pre V vs w es
  | [], _ => trivial
  | e :: es, h => ⟨h e (by simp), Pre.of (fun e' he' => h e' (by simp [he']))⟩

/-- no operation waits for one that never comes up: when nothing is ready, everything is listed -/
def backB (l : List Oper) : Bool := (List.range l.length).all fun i => match l[i]? with | none => true | some o => o.after.all fun e => !Region.binds .any e || decide (e.on < i)

theorem getD_true_set {listed : Array Bool} {i j : Nat} (h : (listed.setIfInBounds i true).getD j true = true → False) : listed.getD j true = true → False := by
  intro h'
  apply h
  by_cases hij : i = j
  · subst hij
    by_cases hs : i < listed.size <;> simp [hs]
  · simp [Array.getElem?_setIfInBounds_ne hij] at *
    exact h'

theorem all_listed {l : List Oper} {listed : Array Bool} (hb : backB l = true) (hsz : listed.size = l.length) (hr : Region.ready .any l.toArray listed = []) :
    ∀ i, i < l.length → listed.getD i false = true := by
  intro i
  induction i using Nat.strongRecOn with
  | _ i ih =>
    intro hi
    by_cases hl : listed.getD i false = true
    · exact hl
    exfalso
    have hm : i ∈ Region.ready .any l.toArray listed := by
      unfold Region.ready
      refine List.mem_filter.2 ⟨by simpa using hi, ?_⟩
      have h1 : listed.getD i true = false := by
        have : i < listed.size := by omega
        simp [this] at hl ⊢
        exact hl
      have h2 : l[i]? = some l[i] := List.getElem?_eq_getElem hi
      have h3 := hb
      unfold backB at h3
      rw [List.all_eq_true] at h3
      have h4 := h3 i (by simpa using hi)
      rw [h2] at h4
      simp only [Array.all_eq_true_iff_forall_mem, Bool.or_eq_true, decide_eq_true_eq] at h4
      simp only [h1, Bool.not_false, Bool.true_and, List.getElem?_toArray, h2, Option.map_some, Option.getD_some, Array.all_eq_true_iff_forall_mem]
      intro e he
      rcases h4 e he with h5 | h5
      · simp only [h5, Bool.true_or]
      · simp [ih e.on h5 (by omega)]
    rw [hr] at hm
    simp at hm

theorem wpAny_inv {R : World → World → Prop} {V : List (Value → World → Prop)} {l : List Oper} {a₀ : Act} {w₀ : World} (hA : Apart l) (hb : backB l = true)
    (htr : ∀ a b c, R a b → R b c → R a c) (hst : Stable R V)
    (hsteps : ∀ vs : List Value, vs.length = l.length → StepsAt P Q l.toArray R V w₀ (putAll l vs a₀) vs V l)
    (hend : ∀ (vs : List Value) w, vs.length = l.length → R w₀ w → AllAt V vs w → Q .normal (putAll l vs a₀) w) :
    ∀ (fuel : Nat) (listed : Array Bool) (vs : List Value) (w : World), listed.size = l.length → vs.length = l.length → R w₀ w →
      (∀ i, listed.getD i false = true → V.getD i (fun _ _ => True) (vs.getD i undef) w) →
      (listed.toList.filter (· == false)).length ≤ fuel →
      wpAny P .any l.toArray Q fuel listed (putAll l vs a₀) w := by
  intro fuel
  induction fuel with
  | zero =>
    intro listed vs w hsz hvs hR hV hf
    have hall : ∀ i, i < l.length → listed.getD i false = true := by
      intro i hi
      have h0 : listed.toList.filter (· == false) = [] := List.eq_nil_of_length_eq_zero (by omega)
      rw [List.filter_eq_nil_iff] at h0
      have h1 : i < listed.size := by omega
      have := h0 listed[i] (by simp)
      simp [h1]
      simpa using this
    refine ⟨?_, hend vs w hvs hR (AllAt.of fun i hi => hV i (hall i (by omega)))⟩
    unfold Region.ready
    rw [List.filter_eq_nil_iff]
    intro i hi
    have h1 := hall i (by simpa using hi)
    have h2 : i < listed.size := by have : i < l.length := by simpa using hi
                                    omega
    simp [h2] at h1 ⊢
    simp [h1]
  | succ fuel ih =>
    intro listed vs w hsz hvs hR hV hf
    refine ⟨fun hr => hend vs w hvs hR (AllAt.of fun i hi => hV i (all_listed hb hsz hr i (by omega))), fun i hi => ?_⟩
    unfold Region.ready at hi
    obtain ⟨hi1, hi2⟩ := List.mem_filter.1 hi
    have hil : i < l.length := by simpa using hi1
    have h2 : l[i]? = some l[i] := List.getElem?_eq_getElem hil
    simp only [List.getElem?_toArray, h2, Option.map_some, Option.getD_some, Bool.and_eq_true, Array.all_eq_true_iff_forall_mem] at hi2
    have hlf : listed[i]? = some false := by
      have : i < listed.size := by omega
      have h3 := hi2.1
      simp [this] at h3 ⊢
      exact h3
    have hs := (hsteps vs hvs).get i l[i] h2 w (wpAny P .any l.toArray Q fuel (listed.setIfInBounds i true)) hR
      (Pre.of fun e he hbd => hV e.on (by
        have := hi2.2 e (by simpa using he)
        simpa [hbd] using this))
      (fun v w' hw' hv => by
        rw [← putAll_set l vs a₀ i l[i] v hA h2 hvs]
        refine ih _ _ _ (by simpa using hsz) (by simpa using hvs) (htr _ _ _ hR hw') ?_ ?_
        · intro j hj
          by_cases hij : i = j
          · subst hij
            have : (vs.set i v).getD i undef = v := by simp [List.getD_eq_getElem?_getD, hvs, hil]
            rw [this]; exact hv
          · have h5 : (vs.set i v).getD j undef = vs.getD j undef := by simp [List.getD_eq_getElem?_getD, List.getElem?_set_ne hij]
            rw [h5]
            exact hst.get j w w' _ hw' (hV j (by simpa [Array.getElem?_setIfInBounds_ne hij] using hj))
        · have h6 : ∀ (bs : List Bool) (i : Nat), bs[i]? = some false → ((bs.set i true).filter (· == false)).length + 1 = (bs.filter (· == false)).length := by
            intro bs
            induction bs with
            | nil => intro i h; simp at h
            | cons b bs ihb =>
              intro i h
              cases i with
              | zero => obtain rfl : b = false := by simpa using h
                        simp
              | succ i =>
                have := ihb i (by simpa using h)
                cases b <;> simp at this ⊢ <;> omega
          have := h6 listed.toList i (by simpa using hlf)
          simp only [Array.toList_setIfInBounds]
          omega)
    unfold wpOp
    simp only [List.getElem?_toArray, h2]
    simp only [wpList] at hs
    split
    · rename_i hw
      simp only [hw, if_true] at hs
      rcases hs with hs | ⟨hs, hl⟩
      · left
        unfold Oper.wp at *
        generalize (execOp (putAll l vs a₀).eval l[i]).run P w = r at *
        cases r with
        | ok n w' =>
          cases n <;> simp only [Oper.upon] at hs ⊢
          case enter => exact Calls.mono hs (fun e w'' he => by cases e <;> first | exact he | (exact he))
          all_goals first | exact hs | skip
        | halt x w' => cases x <;> simp only [Oper.upon] at hs ⊢ <;> exact hs
      · right
        exact ⟨hs, hl⟩
    · rename_i hw
      simp only [hw] at hs
      exact hs

theorem wp_region_inv {id : Nat} {a₀ : Act} {w₀ : World} {l : List Oper} (R : World → World → Prop) (V : List (Value → World → Prop)) (hm : P.follows .mixedOrders = true)
    (hA : apartB l = true) (hb : backB l = true) (htr : ∀ a b c, R a b → R b c → R a c) (hre : ∀ a, R a a) (hst : Stable R V)
    (h : AllVals l.length fun vs => StepsAt P Q l.toArray R V w₀.drew (putAll l vs a₀) vs V l ∧ (∀ w, R w₀.drew w → AllAt V vs w → Q .normal (putAll l vs a₀) w)) :
    (Code.region id l.toArray true).wp P Q a₀ w₀ := by
  refine wp_region_any hm ?_
  -- the slots as they stand
  obtain ⟨vs, hvs, he⟩ : ∃ vs : List Value, vs.length = l.length ∧ putAll l vs a₀ = a₀ := by
    clear h hst hb hA
    induction l generalizing a₀ with
    | nil => exact ⟨[], rfl, rfl⟩
    | cons o l ih =>
      obtain ⟨v, hv⟩ : ∃ v, a₀.put o.dst v = a₀ := by
        cases hd : o.dst with
        | none => exact ⟨undef, rfl⟩
        | some d =>
          refine ⟨a₀.tmps.getD d undef, ?_⟩
          cases a₀ with
          | mk tmps defers =>
            simp only [Act.put]
            congr 1
            apply Array.ext_getElem?
            intro i
            by_cases hi : d = i
            · subst hi
              by_cases hs : d < tmps.size <;> simp [hs]
            · simp [Array.getElem?_setIfInBounds_ne hi]
      obtain ⟨vs, h1, h2⟩ := ih (a₀ := a₀)
      exact ⟨v :: vs, by simp [h1], by simp only [putAll, hv, h2]⟩
  have := wpAny_inv (P := P) (Q := Q) (R := R) (V := V) (l := l) (a₀ := a₀) (w₀ := w₀.drew) (apart_of l hA) hb htr hst (fun vs hv => (h.get vs hv).1) (fun vs w hv hr ha => (h.get vs hv).2 w hr ha)
    l.length (Array.replicate l.length false) vs w₀.drew (by simp) hvs (hre _) (by intro i hi; by_cases h : i < l.length <;> simp [h] at hi) (by simp)
  rw [he] at this
  simpa using this
end

theorem Keep.drew' {F : List Nat} {a w : World} (h : Keep F a.drew w) : Keep F a w := ⟨h.os, h.tape, h.output, h.size, h.heap⟩

/-- Keep, and block g, once it holds o, holds it for good; its type and size stay. -/
structure FinR (g : Nat) (o : Obj) (w w' : World) : Prop where
  keep : Keep [g] w w'
  fin : w.heap[g]? = some o → w'.heap[g]? = some o
  shape : ∀ t n, (∃ cs : Array Value, w.heap[g]? = some (.cells cs t (0, 0)) ∧ cs.size = n) → ∃ cs : Array Value, w'.heap[g]? = some (.cells cs t (0, 0)) ∧ cs.size = n
theorem FinR.refl (g : Nat) (o : Obj) (w : World) : FinR g o w w := ⟨Keep.refl _ _, id, fun _ _ => id⟩
theorem FinR.trans {g : Nat} {o : Obj} {a b c : World} (h : FinR g o a b) (k : FinR g o b c) : FinR g o a c := ⟨h.keep.trans k.keep (fun _ hx => .inl hx), fun e => k.fin (h.fin e), fun t n e => k.shape t n (h.shape t n e)⟩
theorem FinR.of {g : Nat} {o : Obj} {w w' : World} (h : Keep [] w w') : FinR g o w w' := ⟨h.mono (by simp), fun e => h.get e (by simp), fun _ _ ⟨cs, e, hn⟩ => ⟨cs, h.get e (by simp), hn⟩⟩
theorem FinR.put {g : Nat} {w w' : World} {cs0 cs : Array Value} {t : TypeId} (h : Keep [g] w w') (h0 : w.heap[g]? = some (.cells cs0 t (0, 0))) (e : w'.heap[g]? = some (.cells cs t (0, 0))) (hs : cs0.size = cs.size) : FinR g (.cells cs t (0, 0)) w w' :=
  ⟨h, fun _ => e, fun t1 n ⟨cs1, e1, hn⟩ => by
    rw [h0] at e1
    injection e1 with e1
    injection e1 with e2 e3
    subst e2 e3
    exact ⟨cs, e, by omega⟩⟩
end
end Go.Proofs.YtgopdbpddemplaaDoor
