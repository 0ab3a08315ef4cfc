/- ring: an area, the circle's iterator. · What was walked outside of rounds, inside a round: regions that draw their order; copy. · ring: areaOf, piece. -/
import Derived.RangeFuncNested
import Derived.RangeFuncBound
import Derived.RangeFuncCalls
import Derived.RangeFuncLeaves
import Derived.Shelf.Abstract
import Derived.Shelf.RegionOpen
import Derived.WalkKit
import Derived.OwnWalkIn
import Derived.TacticsInMore
import Derived.RegionIn
import Derived.Stop.RegionWithIn
import Derived.LoopNIn
import Derived.LoopIn
import Derived.Test.YtgopdbpddemplaaDoorPart13
import Derived.Sort.CutIn
set_option linter.unusedSimpArgs false
set_option linter.unusedVariables false
namespace Go.Proofs.YtgopdbpddemplaaDoor
section
/- ring: an area, the circle's iterator. -/
open Go.RowKit Go.Shelf
attribute [local go_sem] Oper.semAt_some

/-- the range of blocks of a ring -/
structure AR where
  p : Nat
  first : Nat
  places : Nat
def AR.cells (a : AR) : Array Value := #[.pointer (some ⟨a.p, 0, none⟩), .int .i64 a.first, .int .i64 a.places]
def AR.ok (a : AR) : Prop := a.first ≤ 1000000 ∧ 1 ≤ a.places ∧ a.places ≤ 1000000
def AR.blk (a : AR) (place i : Nat) : Nat := a.first + 2 + (place + i) % a.places

theorem wraps_i64 (n : Int) (h₀ : -9223372036854775808 ≤ n) (h₁ : n ≤ 9223372036854775807) : IntKind.i64.wrap n = n := by simp [IntKind.wrap, IntKind.bits, IntKind.signed]; omega
theorem blk_spelled (a : AR) (place k : Nat) (ha : a.ok) (hp : place ≤ 1000000) (hk : k ≤ 1000000) : ((a.blk place k : Nat) : Int) = IntKind.i64.wrap (IntKind.i64.wrap ((a.first : Int) + 2) + (IntKind.i64.wrap ((place : Int) + k)).tmod a.places) := by
  obtain ⟨h1, h2, h3⟩ := ha
  have h4 := Nat.mod_lt (place + k) (show a.places > 0 by omega)
  rw [wraps_i64 ((a.first : Int) + 2) (by omega) (by omega), wraps_i64 ((place : Int) + k) (by omega) (by omega)]
  have e : ((place : Int) + k).tmod a.places = (((place + k) % a.places : Nat) : Int) := by
    have := Int.ofNat_tmod (place + k) a.places
    rw [this]; congr 1
  rw [e, wraps_i64 _ (by omega) (by omega)]
  unfold AR.blk
  omega
theorem yieldB {A B : Prop} {e : Ending} (h : (e = .returned (.bool true) ∧ A) ∨ (e = .returned (.bool false) ∧ B)) : ∃ b, e = .returned (.bool b) ∧ (b = true → A) ∧ (b = false → B) := by
  rcases h with ⟨rfl, h⟩ | ⟨rfl, h⟩
  · exact ⟨true, rfl, fun _ => h, fun e => (by cases e)⟩
  · exact ⟨false, rfl, fun e => (by cases e), fun _ => h⟩
/-- some blocks keep what they hold -/
structure KpB (bs : List Nat) (W W' : World) : Prop where
  size : W.heap.size ≤ W'.heap.size
  same : ∀ k ∈ bs, ∀ o, W.heap[k]? = some o → W'.heap[k]? = some o
theorem KpB.trans {bs : List Nat} {A B C : World} (h : KpB bs A B) (k : KpB bs B C) : KpB bs A C := ⟨Nat.le_trans h.size k.size, fun i hi o ho => k.same i hi o (h.same i hi o ho)⟩
theorem KpB.refl (bs : List Nat) (A : World) : KpB bs A A := ⟨Nat.le_refl _, fun _ _ _ h => h⟩
theorem KpB.putObj {bs : List Nat} {W : World} {l : Nat} (o' : Obj) (h : l ∉ bs) : KpB bs W (W.putObj l o') := ⟨by simp, fun k hk o ho => by
  rw [World.putObj_heap_other (fun e => by subst e; exact h hk)]; exact ho⟩
theorem KpB.of {bs G : List Nat} {W W' : World} (h : Keep G W W') (hd : ∀ k ∈ bs, k ∉ G) : KpB bs W W' := ⟨h.size, fun k hk o ho => h.get ho (hd k hk)⟩

abbrev cencs (a : AR) (place : Nat) (i : Nat) : Array Value := #[.int .i64 i, .int .i64 (a.blk place i)]

set_option maxRecDepth 100000 in
set_option maxHeartbeats 2000000 in
theorem circle1_in (m l bn ba bp n place : Nat) (a : AR) (hn : n ≤ 1000000) (ha : a.ok) (hp : place ≤ 1000000) (J Jx : List Nat → World → Prop)
    (hJB : ∀ s A, J s A → J s A.drew)
    (hY : ∀ pre x W, J pre W → pre.length < n → YieldAt Fence.wide (m - 1) Tryd.prog l (cencs a place x) W fun e W' =>
      (e = .returned (.bool true) ∧ J (pre ++ [x]) W' ∧ KpB [bn, ba, bp] W W') ∨ (e = .returned (.bool false) ∧ Jx (pre ++ [x]) W'))
    (W : World) (rn : W.heap[bn]? = some (.cells #[.int .i64 n] 3 (0, 0))) (ra : W.heap[ba]? = some (.cells a.cells 63 (0, 0))) (rp : W.heap[bp]? = some (.cells #[.int .i64 place] 3 (0, 0))) (h0 : J [] W) (hm : 1 ≤ m) :
    CallsIn Fence.wide m Tryd.prog 55 #[.func (.yield l) #[] #[], .pointer (some ⟨bn, 0, none⟩), .pointer (some ⟨ba, 0, none⟩), .pointer (some ⟨bp, 0, none⟩)] W fun e W' => (∃ v, e = .returned v) ∧
      ((∃ xs, xs = List.range n ∧ J xs W') ∨ (∃ pre, (∃ k, k ≤ n ∧ pre = List.range k) ∧ Jx pre W')) := by
  have cn := cell_row' (j := 0) rn
  refine callsIn_of_wp Tryd.func55 rfl trivial ?_ rfl
  simp only [Tryd.ntmps55, List.size_toArray, List.length_cons, List.length_nil, Nat.reduceAdd, Nat.reduceSub, Array.replicate_succ, Array.replicate_zero, List.push_toArray, List.append_toArray, List.nil_append, List.cons_append]
  gi_wp2
  gi_loopw [7] (fun i wr => ∃ k : Nat, k ≤ n ∧ i = .int .i64 k ∧ J (List.range k) wr ∧ KpB [bn, ba, bp] W wr) (fun i _ => n - (intOf i).toNat)
  case atStart => exact ⟨0, by omega, rfl, h0, KpB.refl _ _⟩
  case round =>
    obtain ⟨k, hk, rfl, hJ, hkp⟩ := hrel
    by_cases hlt : k < n
    · have hki : (k : Int) < n := by omega
      obtain ⟨fn, tmps, assign, body, hy, hR⟩ := hY (List.range k) k wr.drew (hJB _ _ hJ) (by simpa using hlt)
      dsimp only [cencs] at hy
      have c1 : wr.cell? ⟨ba, 1, none⟩ = some (.int .i64 a.first) := (cell_row' (j := 1) (hkp.same ba (by simp) _ ra)).trans rfl
      have c2 : wr.cell? ⟨ba, 2, none⟩ = some (.int .i64 a.places) := (cell_row' (j := 2) (hkp.same ba (by simp) _ ra)).trans rfl
      have hpl : ¬ ((a.places : Int) = 0) := by have := ha.2.1; omega
      have hpl2 : ¬ (a.places = 0) := by have := ha.2.1; omega
      have hpl3 := ha.2.1
      have hpl4 := ha.2.2
      have hpl5 := ha.1
      have c3 := cell_row' (j := 0) (hkp.same bp (by simp) _ rp)
      rw [blk_spelled a place k ha hp (by omega)] at hy
      gi_wp2
      gi_region_with (refine hR.mono ?_; rintro e W2 hor; obtain ⟨b, rfl, hb1, hb2⟩ := yieldB hor)
      all_goals
        cases b
        · gi_wp2
          refine bodyPost_ret (results_none rfl _ _ _) rfl ⟨⟨_, rfl⟩, .inr ⟨List.range (k + 1), ⟨k + 1, by omega, rfl⟩, ?_⟩⟩
          rw [List.range_succ]; exact hb2 (by simp)
        · gi_wp2
          go_roundw
          case rel => exact ⟨k + 1, by omega, by go_num, by rw [List.range_succ]; exact (hb1 (by simp)).1, hkp.trans ⟨(hb1 (by simp)).2.size, (hb1 (by simp)).2.same⟩⟩
          case measure => simp [intOf]; omega
    · have hkn : k = n := by omega
      gi_wp2
      go_end0
      exact ⟨⟨_, rfl⟩, .inl ⟨_, rfl, by rw [← hkn]; exact hJ⟩⟩

/-- the circle's value -/
def circV (bn ba bp : Nat) : Value := .func (.func 55) #[] #[.pointer (some ⟨bn, 0, none⟩), .pointer (some ⟨ba, 0, none⟩), .pointer (some ⟨bp, 0, none⟩)]
set_option maxHeartbeats 1000000 in
theorem circle_any (a : AR) (place n : Nat) (w : World) : Calls Tryd.prog 31 #[.agg a.cells, .int .i64 place, .int .i64 n] w fun e w' => ∃ bn ba bp, e = .returned (circV bn ba bp) ∧ w.heap.size ≤ bn ∧ w.heap.size ≤ ba ∧ w.heap.size ≤ bp ∧
    w'.heap[bn]? = some (.cells #[.int .i64 n] 3 (0, 0)) ∧ w'.heap[ba]? = some (.cells a.cells 63 (0, 0)) ∧ w'.heap[bp]? = some (.cells #[.int .i64 place] 3 (0, 0)) ∧ Keep [] w w' := by
  unfold AR.cells
  go_enter Tryd.func31, Tryd.ntmps31
  go_wp2
  go_ret
  refine ⟨w.heap.size + 1 + 1, w.heap.size, w.heap.size + 1, rfl, by omega, by omega, by omega, heap_alloc_at (by simp), ?_, ?_, (((Keep.refl [] w).alloc _).alloc _).alloc _⟩
  · rw [heap_alloc_past (by simp; omega), heap_alloc_past (by simp), heap_alloc_new]
  · rw [heap_alloc_past (by simp), heap_alloc_at (by simp)]

theorem circle1_stops (m bn ba bp n place : Nat) (a : AR) (hn : n ≤ 1000000) (ha : a.ok) (hp : place ≤ 1000000) (w : World) (rn : w.heap[bn]? = some (.cells #[.int .i64 n] 3 (0, 0))) (ra : w.heap[ba]? = some (.cells a.cells 63 (0, 0))) (rp : w.heap[bp]? = some (.cells #[.int .i64 place] 3 (0, 0))) (hm : 1 ≤ m) :
    SeqStopsK Fence.wide m Tryd.prog 55 #[.pointer (some ⟨bn, 0, none⟩), .pointer (some ⟨ba, 0, none⟩), .pointer (some ⟨bp, 0, none⟩)] (cencs a place) (KpB [bn, ba, bp]) (fun xs => xs = List.range n) (fun pre => ∃ k, k ≤ n ∧ pre = List.range k) n w :=
  fun l J Jx W hW hJ _ hY h0 =>
    circle1_in m l bn ba bp n place a hn ha hp J Jx (fun s A h => hJ s A A.drew none h ⟨rfl, rfl, rfl, Nat.le_refl _, fun _ _ _ => rfl⟩ (fun r e => by cases e)) hY W
      ((hW.block bn (lt_of_heap rn)).trans rn) ((hW.block ba (lt_of_heap ra)).trans ra) ((hW.block bp (lt_of_heap rp)).trans rp) h0 hm
end

section
/- What was walked outside of rounds, inside a round: regions that draw their order; copy. -/
open Go.RowKit Go.Shelf

section
variable {P : Program} {Q : Exit → Act → World → Prop}
theorem rowsIn_wide {n : Nat} {row : String} {args : Array Value} {w : World} {R : Value → World → Prop} (h : Rows P row args w R) : RowsIn Fence.wide n P row args w R :=
  fun c cs _ => let ⟨v, w', r, s⟩ := h c cs; ⟨v, w', r, stepsIn_wide.2 s⟩
theorem oper_in (l n : Nat) {o : Oper} {a : Act} {w : World} {next : Act → World → Prop} (hd : ∀ c, o.op ≠ .defer c) (h : o.wp P a w next Q) : o.wpIn (Fence.wide.inRound l) n P a w next Q := by
  refine ⟨fun _ _ => trivial, ?_⟩
  rw [Oper.semAt_plain _ _ _ hd]
  unfold Oper.wp at h
  generalize (execOp a.eval o).run P w = r at h
  cases r with
  | ok x w' =>
    cases x with
    | value v => exact h
    | skip => exact h
    | defer d => exact h
    | enter f args => exact ⟨fun e => by simp [Fence.wide] at e, CallsIn.inRound l (callsIn_wide.2 h)⟩
    | row r args => exact ⟨fun e => by simp [Fence.wide] at e, rowsIn_wide h⟩
    | _ => exact h.elim
  | halt x w' => cases x <;> exact h

theorem wpAny_in (l n : Nat) {md : Region.Mode} {ops : Array Oper} (hlo : ¬ LetsOut Q) (hd : ∀ (i : Nat) (o : Oper), ops[i]? = some o → ∀ c, o.op ≠ .defer c) :
    ∀ (f : Nat) (listed : Array Bool) (a : Act) (w : World), wpAny P md ops Q f listed a w → wpAnyIn (Fence.wide.inRound l) n P md ops Q f listed a w
  | 0, _, _, _, h => h
  | f + 1, listed, a, w, h => by
    refine ⟨h.1, fun i hi => ?_⟩
    have h2 := h.2 i hi
    unfold wpOp at h2
    unfold wpOpIn
    cases ho : ops[i]? with
    | none => rw [ho] at h2; exact wpAny_in l n hlo hd f _ _ _ h2
    | some o =>
      rw [ho] at h2
      simp only at h2 ⊢
      split
      · rename_i hw
        rw [if_pos hw] at h2
        rcases h2 with h2 | h2
        · exact Oper.wpIn_mono (fun a w h => wpAny_in l n hlo hd f _ _ _ h) (oper_in l n (hd i o ho) h2)
        · exact absurd h2.2 hlo
      · rename_i hw
        rw [if_neg hw] at h2
        exact ⟨fun _ _ => trivial, wpAny_in l n hlo hd f _ _ _ h2⟩

theorem oper_inw (n : Nat) {o : Oper} {a : Act} {w : World} {next : Act → World → Prop} (hd : ∀ c, o.op ≠ .defer c) (h : o.wp P a w next Q) : o.wpIn Fence.wide n P a w next Q := by
  refine ⟨fun _ _ => trivial, ?_⟩
  rw [Oper.semAt_plain _ _ _ hd]
  unfold Oper.wp at h
  generalize (execOp a.eval o).run P w = r at h
  cases r with
  | ok x w' =>
    cases x with
    | value v => exact h
    | skip => exact h
    | defer d => exact h
    | enter f args => exact ⟨fun e => by simp [Fence.wide] at e, callsIn_wide.2 h⟩
    | row r args => exact ⟨fun e => by simp [Fence.wide] at e, rowsIn_wide h⟩
    | _ => exact h.elim
  | halt x w' => cases x <;> exact h

theorem wpAny_inw (n : Nat) {md : Region.Mode} {ops : Array Oper} (hlo : ¬ LetsOut Q) (hd : ∀ (i : Nat) (o : Oper), ops[i]? = some o → ∀ c, o.op ≠ .defer c) :
    ∀ (f : Nat) (listed : Array Bool) (a : Act) (w : World), wpAny P md ops Q f listed a w → wpAnyIn Fence.wide n P md ops Q f listed a w
  | 0, _, _, _, h => h
  | f + 1, listed, a, w, h => by
    refine ⟨h.1, fun i hi => ?_⟩
    have h2 := h.2 i hi
    unfold wpOp at h2
    unfold wpOpIn
    cases ho : ops[i]? with
    | none => rw [ho] at h2; exact wpAny_inw n hlo hd f _ _ _ h2
    | some o =>
      rw [ho] at h2
      simp only at h2 ⊢
      split
      · rename_i hw
        rw [if_pos hw] at h2
        rcases h2 with h2 | h2
        · exact Oper.wpIn_mono (fun a w h => wpAny_inw n hlo hd f _ _ _ h) (oper_inw n (hd i o ho) h2)
        · exact absurd h2.2 hlo
      · rename_i hw
        rw [if_neg hw] at h2
        exact ⟨fun _ _ => trivial, wpAny_inw n hlo hd f _ _ _ h2⟩

/-- no operation of the list is a defer statement -/
def noDefer (l : List Oper) : Bool := l.all fun o => match o.op with | .defer _ => false | _ => true
theorem noDefer_get {l : List Oper} (h : noDefer l = true) (i : Nat) (o : Oper) (ho : l.toArray[i]? = some o) (c) : o.op ≠ .defer c := fun e => by
  have hm : o ∈ l := List.mem_of_getElem? (by simpa using ho)
  have := List.all_eq_true.1 h o hm
  rw [e] at this
  cases this
theorem wpIn_region_inv {id : Nat} {a₀ : Act} {w₀ : World} {l : List Oper} (l' n : Nat) (R : World → World → Prop) (V : List (Value → World → Prop)) (hm : P.follows .mixedOrders = true)
    (hlo : ¬ LetsOut Q) (hnd : noDefer l = true) (hA : apartB l = true) (hb : backB l = true) (htr : ∀ a b c, R a b → R b c → R a c) (hre : ∀ a, R a a) (hst : Stable R V)
    (h : AllVals l.length fun vs => StepsAt P Q l.toArray R V w₀.drew (putAll l vs a₀) vs V l ∧ (∀ w, R w₀.drew w → AllAt V vs w → Q .normal (putAll l vs a₀) w)) :
    (Code.region id l.toArray true).wpIn (Fence.wide.inRound l') n P Q a₀ w₀ := by
  refine wpIn_region_any hm ?_
  refine wpAny_in l' n hlo (fun i o ho => noDefer_get hnd i o ho) _ _ _ _ ?_
  -- the slots as they stand
  obtain ⟨vs, hvs, he⟩ : ∃ vs : List Value, vs.length = l.length ∧ putAll l vs a₀ = a₀ := by
    clear h hst hb hA hnd
    induction l generalizing a₀ with
    | nil => exact ⟨[], rfl, rfl⟩
    | cons o l ih =>
      obtain ⟨v, hv⟩ : ∃ v, a₀.put o.dst v = a₀ := by
        cases hd : o.dst with
        | none => exact ⟨undef, rfl⟩
        | some d =>
          refine ⟨a₀.tmps.getD d undef, ?_⟩
          cases a₀ with
          | mk tmps defers =>
            simp only [Act.put]
            congr 1
            apply Array.ext_getElem?
            intro i
            by_cases hi : d = i
            · subst hi
              by_cases hs : d < tmps.size <;> simp [hs]
            · simp [Array.getElem?_setIfInBounds_ne hi]
      obtain ⟨vs, h1, h2⟩ := ih (a₀ := a₀)
      exact ⟨v :: vs, by simp [h1], by simp only [putAll, hv, h2]⟩
  have := wpAny_inv (P := P) (Q := Q) (R := R) (V := V) (l := l) (a₀ := a₀) (w₀ := w₀.drew) (apart_of l hA) hb htr hst (fun vs hv => (h.get vs hv).1) (fun vs w hv hr ha => (h.get vs hv).2 w hr ha)
    l.length (Array.replicate l.length false) vs w₀.drew (by simp) hvs (hre _) (by intro i hi; by_cases h : i < l.length <;> simp [h] at hi) (by simp)
  rw [he] at this
  simpa using this
theorem wpIn_region_invw {id : Nat} {a₀ : Act} {w₀ : World} {l : List Oper} (n : Nat) (R : World → World → Prop) (V : List (Value → World → Prop)) (hm : P.follows .mixedOrders = true)
    (hlo : ¬ LetsOut Q) (hnd : noDefer l = true) (hA : apartB l = true) (hb : backB l = true) (htr : ∀ a b c, R a b → R b c → R a c) (hre : ∀ a, R a a) (hst : Stable R V)
    (h : AllVals l.length fun vs => StepsAt P Q l.toArray R V w₀.drew (putAll l vs a₀) vs V l ∧ (∀ w, R w₀.drew w → AllAt V vs w → Q .normal (putAll l vs a₀) w)) :
    (Code.region id l.toArray true).wpIn Fence.wide n P Q a₀ w₀ := by
  refine wpIn_region_any hm ?_
  refine wpAny_inw n hlo (fun i o ho => noDefer_get hnd i o ho) _ _ _ _ ?_
  -- the slots as they stand
  obtain ⟨vs, hvs, he⟩ : ∃ vs : List Value, vs.length = l.length ∧ putAll l vs a₀ = a₀ := by
    clear h hst hb hA hnd
    induction l generalizing a₀ with
    | nil => exact ⟨[], rfl, rfl⟩
    | cons o l ih =>
      obtain ⟨v, hv⟩ : ∃ v, a₀.put o.dst v = a₀ := by
        cases hd : o.dst with
        | none => exact ⟨undef, rfl⟩
        | some d =>
          refine ⟨a₀.tmps.getD d undef, ?_⟩
          cases a₀ with
          | mk tmps defers =>
            simp only [Act.put]
            congr 1
            apply Array.ext_getElem?
            intro i
            by_cases hi : d = i
            · subst hi
              by_cases hs : d < tmps.size <;> simp [hs]
            · simp [Array.getElem?_setIfInBounds_ne hi]
      obtain ⟨vs, h1, h2⟩ := ih (a₀ := a₀)
      exact ⟨v :: vs, by simp [h1], by simp only [putAll, hv, h2]⟩
  have := wpAny_inv (P := P) (Q := Q) (R := R) (V := V) (l := l) (a₀ := a₀) (w₀ := w₀.drew) (apart_of l hA) hb htr hst (fun vs hv => (h.get vs hv).1) (fun vs w hv hr ha => (h.get vs hv).2 w hr ha)
    l.length (Array.replicate l.length false) vs w₀.drew (by simp) hvs (hre _) (by intro i hi; by_cases h : i < l.length <;> simp [h] at hi) (by simp)
  rw [he] at this
  simpa using this
end
end

section
/- ring: areaOf, piece. -/
open Go.RowKit Go.Shelf
attribute [local go_sem] Oper.semAt_some

/-- a row that the loop's own blocks leave alone -/
theorem row_kept {A B : World} {row : Option Nat} {k : Nat} {cs : Array Value} {t : TypeId} {fr : Nat × Nat} (h : A.heap[k]? = some (.cells cs t fr)) (hg : A.grownBy B row) (hr : ∀ r, row = some r → ∃ o : Obj, A.heap[r]? = some o ∧ o.isCells = false) : B.heap[k]? = some (.cells cs t fr) := by
  rw [hg.block k (lt_of_heap h) (fun e => ?_)]
  · exact h
  · obtain ⟨o, ho, hc⟩ := hr k e.symm
    rw [h] at ho
    cases ho
    cases hc
theorem Buf.grown {e : TypeId} {A B : World} {row : Option Nat} {base : Nat} {v : Value} {l : List UInt8} (h : Buf e A base v l) (hg : A.grownBy B row) (hr : ∀ r, row = some r → ∃ o : Obj, A.heap[r]? = some o ∧ o.isCells = false) : Buf e B base v l := by
  refine ⟨h.1, ?_⟩
  rcases h.2 with hn | ⟨g, cap, cur, hv, hb, hgg, rest⟩
  · exact .inl hn
  · exact .inr ⟨g, cap, cur, hv, hb, row_kept hgg hg hr, rest⟩
theorem Keep.grown' {F : List Nat} {a A B : World} {row : Option Nat} (h : Keep F a A) (hg : A.grownBy B row) (hr : ∀ r, row = some r → a.heap.size ≤ r) : Keep F a B := h.grown hg (fun k e => Or.inr (hr k e))

theorem keepsFrom_of {G : List Nat} {W W' : World} (h : Keep G W W') (hc : ∀ k ∈ G, ∃ cs t fr, W.heap[k]? = some (.cells cs t fr)) (B : Nat) : KeepsFrom B W W' :=
  ⟨h.size, fun k o _ hk ho => h.get hk (fun hm => by
    obtain ⟨cs, t, fr, e⟩ := hc k hm
    rw [hk] at e
    cases e
    cases ho)⟩
theorem DiskAt.tight {F : List Nat} {w : World} {p : Nat} {d : DK} (h : DiskAt w p d F) : ∃ G, DiskAt w p d G ∧ ∀ x ∈ G, x ∈ F ∧ x < w.heap.size := by
  obtain ⟨m1, v, m2, hi, j1, j2, j3, j4⟩ := h.is
  obtain ⟨f1, hm1, _⟩ := hi.dur
  refine ⟨p :: m1 :: m2 :: v.ownBlock.toList, hi.at (by simp) (by simp) (by simp) (fun k e => by rw [e]; simp), fun x hx => ?_⟩
  simp only [List.mem_cons] at hx
  rcases hx with rfl | rfl | rfl | hx
  · exact ⟨j1, lt_of_heap hi.row⟩
  · exact ⟨j2, hm1.lt⟩
  · exact ⟨j3, hi.last.lt⟩
  · have hx' : v.ownBlock = some x := by simpa using hx
    exact ⟨j4 x hx', (World.ownsRow.lt hi.pend x hx').2⟩
/-- one block's part of a piece -/
def partF (d : DK) (a : AR) (place i : Nat) : List UInt8 := if i = 0 then d.vis (a.blk place i) else (d.vis (a.blk place i)).drop 1
def pieceF (d : DK) (a : AR) (place : Nat) (xs : List Nat) : List UInt8 := (xs.map (partF d a place)).flatten
theorem pieceF_snoc (d : DK) (a : AR) (place : Nat) (xs : List Nat) (x : Nat) : pieceF d a place (xs ++ [x]) = pieceF d a place xs ++ partF d a place x := by simp [pieceF]
theorem pieceF_length (d : DK) (hd : d.ok) (a : AR) (place : Nat) (xs : List Nat) : (pieceF d a place xs).length ≤ 512 * xs.length := by
  unfold pieceF
  induction xs with
  | nil => simp
  | cons x xs ih =>
    have h1 := hd.vis (a.blk place x)
    have h2 : (partF d a place x).length ≤ 512 := by unfold partF; split <;> simp [h1]
    simp only [List.map_cons, List.flatten_cons, List.length_append, List.length_cons]
    omega
/-- the device has all blocks of the ring -/
def AR.fits (a : AR) (d : DK) : Prop := ((a.first + 2 + a.places : Nat) : Int) ≤ d.blocks
theorem AR.has {a : AR} {d : DK} (h : a.fits d) (ha : a.ok) (place i : Nat) : d.has (a.blk place i) = true := by
  have := Nat.mod_lt (place + i) (show a.places > 0 from ha.2.1)
  unfold DK.has AR.blk
  unfold AR.fits at h
  generalize (place + i) % a.places = q at *
  simp; omega

set_option maxRecDepth 100000 in
set_option maxHeartbeats 1000000 in
theorem piece_ok {F0 : List Nat} {w : World} {d : DK} {a : AR} (h : DiskAt w a.p d F0) (hd : d.down = false) (ha : a.ok) (hf : a.fits d) (place n : Nat) (hp : place ≤ 1000000) (hn : n ≤ 1000000) :
    Calls Tryd.prog 61 #[.agg a.cells, .int .i64 place, .int .i64 n] w fun e w' => e = .returned (.tuple #[str (pieceF d a place (List.range n)), .int .i64 0]) ∧ Keep [] w w' := by
  obtain ⟨F, h, hF'⟩ := h.tight
  have hF : ∀ x ∈ F, x < w.heap.size := fun x hx => (hF' x hx).2
  clear hF'
  obtain ⟨i0, hi, hz0, hz1, hz2⟩ := info_parts info_u8
  refine (callsIn_wide (n := 20)).1 ?_
  refine callsIn_of_wp_marks Tryd.func61 rfl trivial ?_ rfl
  simp only [Tryd.ntmps61, AR.cells, List.size_toArray, List.length_cons, List.length_nil, Nat.reduceAdd, Nat.reduceSub, Array.replicate_succ, Array.replicate_zero, List.push_toArray, List.append_toArray, List.nil_append, List.cons_append]
  gi_wp2_with (refine ⟨trivial, ?_⟩; gi_at_call 31; refine (callsIn_wide.2 (circle_any a place n _)).mono ?_; rintro e w1 ⟨bn, ba, bp, rfl, hbn, hba, hbp, r1, r2, r3, hk1⟩)
  have hK0 : Keep [] w w1 := (((((Keep.refl [] w).alloc _).alloc _).alloc _).alloc _).trans hk1 (by simp)
  have hs0 : w.heap.size + 1 + 1 + 1 + 1 ≤ w1.heap.size := by have := hk1.size; simpa using this
  have rt : w1.heap[w.heap.size + 1 + 1 + 1]? = some (.cells #[.slice none 0 0] 35 (0, 0)) := hk1.get (heap_alloc_at (by simp)) (by simp)
  have rs : w1.heap[w.heap.size + 1]? = some (.cells #[.string ⟨#[]⟩] 9 (0, 0)) := hk1.get ((heap_alloc_past (by simp)).trans ((heap_alloc_past (by simp)).trans (heap_alloc_at (by simp)))) (by simp)
  have re : w1.heap[w.heap.size + 1 + 1]? = some (.cells #[.int .i64 0] 32 (0, 0)) := hk1.get ((heap_alloc_past (by simp)).trans (heap_alloc_at (by simp))) (by simp)
  have rA : w1.heap[w.heap.size]? = some (.cells #[.pointer (some ⟨a.p, 0, none⟩), .int .i64 a.first, .int .i64 a.places] 63 (0, 0)) := hk1.get ((heap_alloc_past (by simp; omega)).trans ((heap_alloc_past (by simp; omega)).trans ((heap_alloc_past (by simp)).trans (heap_alloc_new w _)))) (by simp)
  have hD1 := h.keep hK0 (by simp)
  obtain ⟨tb, htb⟩ : ∃ tb, tb = w.heap.size + 1 + 1 + 1 := ⟨_, rfl⟩
  rw [← htb] at rt
  have HTB := Lib.hid htb
  have htl := lt_of_heap rt
  clear htb
  have hdt : ∀ x ∈ F, x ∉ [tb] := fun x hx hm => by
    have := hF x hx
    rw [List.mem_singleton.1 hm] at this
    have := HTB.out
    omega
  refine wpIn_rangeFunc_ownG (F := Fence.wide) rfl (by omega) (gf := 55) (lb := #[.pointer (some ⟨bn, 0, none⟩), .pointer (some ⟨ba, 0, none⟩), .pointer (some ⟨bp, 0, none⟩)]) rfl trivial (enters_of Tryd.func55 (by kernel_rfl) rfl)
    (circle1_stops 19 bn ba bp n place a hn ha hp w1 r1 r2 r3 (by omega)) KpB.trans (fun W l o o' hl _ _ _ => KpB.putObj o' (by have := lt_of_heap r1; have := lt_of_heap r2; have := lt_of_heap r3; simp; omega)) (Below.refl _ _) (fun _ => rfl)
    (fun pre W => ∃ v, W.heap[tb]? = some (.cells #[v] 35 (0, 0)) ∧ Buf 5 W w1.heap.size v (pieceF d a place pre) ∧ Keep [tb] w1 W ∧ pre.length ≤ n)
    (fun _ _ _ => False)
    (fun s A B row hs hg hr => by
      obtain ⟨v, h1, h2, h3, h4⟩ := hs
      exact ⟨v, row_kept h1 hg (fun r e => (hr r e).2), h2.grown hg (fun r e => (hr r e).2), h3.grown' hg (fun r e => (hr r e).1), h4⟩)
    (fun _ _ _ _ _ hs _ _ => hs)
    ⟨_, rt, Buf.nil _ _ _, Keep.refl _ _, by simp⟩
    (fun x => { tmps := #[.agg #[.pointer (some ⟨a.p, 0, none⟩), .int .i64 a.first, .int .i64 a.places], .int .i64 place, .int .i64 n, .pointer (some ⟨w.heap.size, 0, none⟩), undef, undef, .pointer (some ⟨w.heap.size + 1, 0, none⟩), .pointer (some ⟨w.heap.size + 1 + 1, 0, none⟩), .pointer (some ⟨tb, 0, none⟩), .int .i64 x, .int .i64 (a.blk place x), undef, undef, .agg #[.pointer (some ⟨a.p, 0, none⟩), .int .i64 a.first, .int .i64 a.places], .int .i64 place, .int .i64 n, circV bn ba bp, .int .i64 x, .int .i64 (a.blk place x), undef, undef, undef, undef, undef, undef, undef, undef, undef, undef, undef, undef, undef, undef, undef, undef, undef, undef, undef], defers := [] }) ?assign ?body ?done ?stop
  case assign =>
    intro l x W K hK
    obtain rfl := HTB.out
    gi_wp2
    exact hK
  case body =>
    rintro l pre x W ⟨v, hv, hB, hk, hpn⟩ hlt
    have rA2 := hk.get rA (by have := HTB.out; simp; omega)
    have cA : W.cell? ⟨w.heap.size, 0, none⟩ = some (.pointer (some ⟨a.p, 0, none⟩)) := (cell_row' (j := 0) rA2).trans rfl
    have hDW := hD1.keep hk hdt
    have hlen := hDW.okd.vis (a.blk place x)
    have hpl := pieceF_length d hDW.okd a place pre
    have hhas := AR.has hf ha place x
    have HE : Hid (partF d a place x = if x = 0 then d.vis (a.blk place x) else (d.vis (a.blk place x)).drop 1) := Lib.hid rfl
    generalize a.blk place x = bb at *
    rcases Nat.eq_zero_or_pos x with rfl | hxp
    · gi_upto_region 10 with (first
        | (refine ⟨trivial, ?_⟩; gi_at_call 68; refine (CallsIn.inRound l (callsIn_wide.2 (dread_ok hDW bb hd hhas))).mono ?_; rintro e w2 ⟨v2, rfl, hB2, hk2⟩
           rcases hB2.cases with ⟨rfl, hnil⟩ | ⟨g2, cap2, cur2, rfl, hg2, hrow2, hn2, hc2, hz2', hcur2⟩
           · rw [hnil] at hlen; simp at hlen
           rw [hlen] at hn2 hcur2
           rw [hlen]
           have hcap1 : ¬ (cap2 = 1) := by omega
           have hcap2 : (1 : Nat) ≤ cap2 := by omega
           have hv2 := hk2.get hv (by simp)
           have ct2 := cell_row' (j := 0) hv2
           have ft2 := frozen_row' (j := 0) hv2
           have HB := Lib.hid (hB.keep hk2 (by simp))
           have hsz2 := hk2.size))
      gi_step
      gi_step
      gi_step
      rename_i hK
      refine hK _ _ ?_
      gi_step
      gi_step
      rename_i hK
      refine hK _ _ ?_
      refine wpListIn_append_own _ rfl (.tmp 33) (.tmp 34) 35 rfl w1.heap.size 5 i0 (.int .u8 0) 1 1 Tryd.underlying35 hi hz0 hz1 hz2 rfl (by decide) v (pieceF d a place pre).length _ rfl HB.out ⟨g2, 0, none⟩ 512 cap2 (((d.vis bb).map B8)) rfl (by simp [hlen]) (fun j u hu => ?_) (fun u hu => by obtain ⟨b, _, rfl⟩ := List.mem_map.1 hu; rfl) (by unfold maxLen; omega) (by omega) (by have := hk.size; omega) ?_
      · have hj : j < 512 := by
          have := (List.getElem?_eq_some_iff.1 hu).1
          simpa [hlen] using this
        have hadd : (⟨g2, 0, none⟩ : Addr).add j = ⟨g2, j, none⟩ := by unfold Addr.add; split <;> simp_all
        rw [hadd, cell_of_row _ g2 _ _ _ _ hrow2, hcur2 (j) (by omega)]
        have : (j) < (d.vis bb).length := by omega
        simpa [List.getD_eq_getElem?_getD, this] using hu
      · intro v3 w3 ho3 hg3 _
        have hB3 : Buf 5 w3 w1.heap.size v3 (pieceF d a place pre ++ d.vis bb) := by
          unfold Buf
          rw [List.length_append, List.map_append]
          simpa [hlen] using ho3
        obtain ⟨ta, tn, tc, rfl⟩ := hB3.isSlice
        have hne : some tb ≠ v.ownBlock := fun e => by have := (HB.out.lt tb e.symm).1; omega
        have hv3 := (hg3.block tb (lt_of_heap hv2) hne).trans hv2
        have ct3 := cell_row' (j := 0) hv3
        have ft3 := frozen_row' (j := 0) hv3
        gi_wp2
        have kG : Keep (tb :: v.ownBlock.toList) W (w3.setCell ⟨tb, 0, none⟩ (.slice ta tn tc)) := by
          have k3 : Keep (tb :: v.ownBlock.toList) W w3 := (hk2.mono (F' := tb :: v.ownBlock.toList) (by simp)).grown hg3 (fun k e => Or.inl (by rw [e]; simp))
          exact k3.setCell (by simp) _
        have hcG : ∀ k ∈ tb :: v.ownBlock.toList, ∃ cs t fr, W.heap[k]? = some (.cells cs t fr) := fun k hk' => by
          rcases List.mem_cons.1 hk' with rfl | hk'
          · exact ⟨_, _, _, hv⟩
          · rcases hB.cases with ⟨rfl, _⟩ | ⟨g, cap, cur, rfl, _, hg, _⟩
            · simp [Value.ownBlock] at hk'
            · simp [Value.ownBlock] at hk'
              subst hk'
              exact ⟨_, _, _, hg⟩
        refine ⟨keepsFrom_of kG hcG _, KpB.of kG (fun k hk' => ?_), ⟨_, heap_setCell_same w3 tb 0 _ _ (.slice ta tn tc) hv3, ?_, ?_, by simp; omega⟩⟩
        · have hlt' : tb < k ∧ k < w1.heap.size := by
            have q1 := lt_of_heap r1
            have q2 := lt_of_heap r2
            have q3 := lt_of_heap r3
            have q4 := HTB.out
            simp only [World.size_alloc] at hbn hba hbp
            simp only [List.mem_cons, List.not_mem_nil, or_false] at hk'
            rcases hk' with rfl | rfl | rfl <;> omega
          intro hm
          rcases List.mem_cons.1 hm with e | hm
          · omega
          · have := (hB.lt k (by simpa using hm)).1
            omega
        · rw [pieceF_snoc, HE.out, if_pos trivial]
          exact hB3.keep ((Keep.refl [tb] w3).setCell (by simp) _) (fun k hk' e => by
            rw [List.mem_singleton.1 hk'] at e
            have := (hB3.lt tb e).1
            omega)
        · have k3 : Keep [tb] w1 w3 := (hk.then hk2).grown hg3 (fun k e => Or.inr (hB.lt k e).1)
          exact k3.setCell (by simp) _
    · have hxp' : (0 : Int) < x := by omega
      have hxn : ¬ x = 0 := by omega
      gi_upto_region 10 with (first
        | (refine ⟨trivial, ?_⟩; gi_at_call 68; refine (CallsIn.inRound l (callsIn_wide.2 (dread_ok hDW bb hd hhas))).mono ?_; rintro e w2 ⟨v2, rfl, hB2, hk2⟩
           rcases hB2.cases with ⟨rfl, hnil⟩ | ⟨g2, cap2, cur2, rfl, hg2, hrow2, hn2, hc2, hz2', hcur2⟩
           · rw [hnil] at hlen; simp at hlen
           rw [hlen] at hn2 hcur2
           rw [hlen]
           have hcap1 : ¬ (cap2 = 1) := by omega
           have hcap2 : (1 : Nat) ≤ cap2 := by omega
           have hv2 := hk2.get hv (by simp)
           have ct2 := cell_row' (j := 0) hv2
           have ft2 := frozen_row' (j := 0) hv2
           have HB := Lib.hid (hB.keep hk2 (by simp))
           have hsz2 := hk2.size))
      gi_step
      gi_step
      gi_step
      rename_i hK
      refine hK _ _ ?_
      gi_step
      gi_step
      rename_i hK
      refine hK _ _ ?_
      refine wpListIn_append_own _ rfl (.tmp 33) (.tmp 34) 35 rfl w1.heap.size 5 i0 (.int .u8 0) 1 1 Tryd.underlying35 hi hz0 hz1 hz2 rfl (by decide) v (pieceF d a place pre).length _ rfl HB.out ⟨g2, 1, none⟩ 511 (cap2 - 1) ((((d.vis bb).drop 1).map B8)) rfl (by simp [hlen]) (fun j u hu => ?_) (fun u hu => by obtain ⟨b, _, rfl⟩ := List.mem_map.1 hu; rfl) (by unfold maxLen; omega) (by omega) (by have := hk.size; omega) ?_
      · have hj : j < 511 := by
          have := (List.getElem?_eq_some_iff.1 hu).1
          simpa [hlen] using this
        have hadd : (⟨g2, 1, none⟩ : Addr).add j = ⟨g2, 1 + j, none⟩ := by unfold Addr.add; split <;> simp_all
        rw [hadd, cell_of_row _ g2 _ _ _ _ hrow2, hcur2 (1 + j) (by omega)]
        have hj1 : (1 + j) < (d.vis bb).length := by omega
        rw [List.getElem?_map, List.getElem?_drop, List.getElem?_eq_getElem hj1] at hu
        rw [List.getD_eq_getElem?_getD, List.getElem?_eq_getElem hj1]
        exact hu
      · intro v3 w3 ho3 hg3 _
        have hB3 : Buf 5 w3 w1.heap.size v3 (pieceF d a place pre ++ (d.vis bb).drop 1) := by
          unfold Buf
          rw [List.length_append, List.map_append]
          simpa [hlen] using ho3
        obtain ⟨ta, tn, tc, rfl⟩ := hB3.isSlice
        have hne : some tb ≠ v.ownBlock := fun e => by have := (HB.out.lt tb e.symm).1; omega
        have hv3 := (hg3.block tb (lt_of_heap hv2) hne).trans hv2
        have ct3 := cell_row' (j := 0) hv3
        have ft3 := frozen_row' (j := 0) hv3
        gi_wp2
        have kG : Keep (tb :: v.ownBlock.toList) W (w3.setCell ⟨tb, 0, none⟩ (.slice ta tn tc)) := by
          have k3 : Keep (tb :: v.ownBlock.toList) W w3 := (hk2.mono (F' := tb :: v.ownBlock.toList) (by simp)).grown hg3 (fun k e => Or.inl (by rw [e]; simp))
          exact k3.setCell (by simp) _
        have hcG : ∀ k ∈ tb :: v.ownBlock.toList, ∃ cs t fr, W.heap[k]? = some (.cells cs t fr) := fun k hk' => by
          rcases List.mem_cons.1 hk' with rfl | hk'
          · exact ⟨_, _, _, hv⟩
          · rcases hB.cases with ⟨rfl, _⟩ | ⟨g, cap, cur, rfl, _, hg, _⟩
            · simp [Value.ownBlock] at hk'
            · simp [Value.ownBlock] at hk'
              subst hk'
              exact ⟨_, _, _, hg⟩
        refine ⟨keepsFrom_of kG hcG _, KpB.of kG (fun k hk' => ?_), ⟨_, heap_setCell_same w3 tb 0 _ _ (.slice ta tn tc) hv3, ?_, ?_, by simp; omega⟩⟩
        · have hlt' : tb < k ∧ k < w1.heap.size := by
            have q1 := lt_of_heap r1
            have q2 := lt_of_heap r2
            have q3 := lt_of_heap r3
            have q4 := HTB.out
            simp only [World.size_alloc] at hbn hba hbp
            simp only [List.mem_cons, List.not_mem_nil, or_false] at hk'
            rcases hk' with rfl | rfl | rfl <;> omega
          intro hm
          rcases List.mem_cons.1 hm with e | hm
          · omega
          · have := (hB.lt k (by simpa using hm)).1
            omega
        · rw [pieceF_snoc, HE.out, if_neg (by omega)]
          exact hB3.keep ((Keep.refl [tb] w3).setCell (by simp) _) (fun k hk' e => by
            rw [List.mem_singleton.1 hk'] at e
            have := (hB3.lt tb e).1
            omega)
        · have k3 : Keep [tb] w1 w3 := (hk.then hk2).grown hg3 (fun k e => Or.inr (hB.lt k e).1)
          exact k3.setCell (by simp) _
  case done =>
    rintro D xs W hBD rfl ⟨v, hv, hB, hk, hpn⟩ hDf
    have HTB2 := HTB.out
    clear HTB
    subst HTB2
    obtain ⟨sa, sn, sc, rfl⟩ := hB.isSlice
    have ct := cell_row' (j := 0) hv
    have rs2 := hk.get rs (by simp)
    have re2 := hk.get re (by simp)
    have cs2 := cell_row' (j := 0) rs2
    have fs2 := frozen_row' (j := 0) rs2
    have ce2 := cell_row' (j := 0) re2
    have fe2 := frozen_row' (j := 0) re2
    have hcv := hB.string (P := Tryd.prog) (src := 35) (dst := 9) Tryd.underlying35 Tryd.underlying5 Tryd.underlying9
    unfold str at hcv
    gi_wp2
    have w1s := heap_setCell_same W (w.heap.size + 1) 0 _ _ (.string ⟨(pieceF d a place (List.range n)).toArray⟩) rs2
    have w1e : (W.setCell ⟨w.heap.size + 1, 0, none⟩ (.string ⟨(pieceF d a place (List.range n)).toArray⟩)).heap[w.heap.size + 1 + 1]? = _ := (heap_setCell_other W _ _ _ (by simp)).trans re2
    have w2e := heap_setCell_same _ (w.heap.size + 1 + 1) 0 _ _ (.int .i64 0) w1e
    have w2s := (heap_setCell_other (W.setCell ⟨w.heap.size + 1, 0, none⟩ (.string ⟨(pieceF d a place (List.range n)).toArray⟩)) ⟨w.heap.size + 1 + 1, 0, none⟩ (w.heap.size + 1) (.int .i64 0) (by simp)).trans w1s
    have hK2 : ((W.setCell ⟨w.heap.size + 1, 0, none⟩ (.string ⟨(pieceF d a place (List.range n)).toArray⟩)).setCell ⟨w.heap.size + 1 + 1, 0, none⟩ (.int .i64 0)).heap[D]? = some (.deferred (some [])) :=
      (heap_setCell_other _ _ _ _ (by simp; omega)).trans ((heap_setCell_other _ _ _ _ (by simp; omega)).trans hDf)
    have hKw : Keep [] w ((W.setCell ⟨w.heap.size + 1, 0, none⟩ (.string ⟨(pieceF d a place (List.range n)).toArray⟩)).setCell ⟨w.heap.size + 1 + 1, 0, none⟩ (.int .i64 0)) := ((hK0.trans hk (by simp; omega)).setCell (by simp) _).setCell (by simp; omega) _
    generalize (W.setCell ⟨w.heap.size + 1, 0, none⟩ (.string ⟨(pieceF d a place (List.range n)).toArray⟩)).setCell ⟨w.heap.size + 1 + 1, 0, none⟩ (.int .i64 0) = W' at *
    refine ⟨by simp, .inl ⟨_, _, rfl, run_takeDeferred hK2, ?_⟩⟩
    have c1 : (W'.putObj D (.deferred none)).cell? ⟨w.heap.size + 1, 0, none⟩ = some (.string ⟨(pieceF d a place (List.range n)).toArray⟩) := (cell_row' (j := 0) ((World.putObj_heap_other (by omega)).trans w2s)).trans rfl
    have c2 : (W'.putObj D (.deferred none)).cell? ⟨w.heap.size + 1 + 1, 0, none⟩ = some (.int .i64 0) := (cell_row' (j := 0) ((World.putObj_heap_other (by omega)).trans w2e)).trans rfl
    refine ⟨_, ?_, rfl, hKw.grown (grownBy_putObj' W' D (.deferred none)) (fun k e => Or.inr (by cases e; omega))⟩
    simp [results, Tryd.f61, go_sem, c1, c2, str]
  case stop =>
    rintro D c pre W _ _ h _
    exact h.elim
end
end Go.Proofs.YtgopdbpddemplaaDoor
