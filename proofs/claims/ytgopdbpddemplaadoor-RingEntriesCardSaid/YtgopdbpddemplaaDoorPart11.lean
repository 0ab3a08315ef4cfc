/- Maps with integer keys and elements of any kind: look-up, store, delete, clear. Nothing of the program is named here. -/
import Derived.Test.YtgopdbpddemplaaDoorPart10
import Derived.ChangeKeysEq
import Derived.MapKept
set_option linter.unusedSimpArgs false
set_option linter.unusedVariables false
namespace Go.Proofs.YtgopdbpddemplaaDoor
section
/- Maps with integer keys and elements of any kind: look-up, store, delete, clear. Nothing of the program is named here. -/
open Go.RowKit

def keyI : Value → Int | .int _ q => q | _ => 0
def findIx (k : Int) : List MapEntry → Nat → Option (Nat × Value)
  | [], _ => none
  | e :: es, n => if keyI e.key = k then some (n, e.val) else findIx k es (n + 1)
def getI (es : List MapEntry) (k : Int) : Option Value := (findIx k es 0).map (·.2)
structure IntMap (es : List MapEntry) (f : Int → Option Value) : Prop where
  keys : ∀ e ∈ es, ∃ k, e.key = .int .i64 k
  apart : es.Pairwise (fun a b => keyI a.key ≠ keyI b.key)
  get : ∀ k, getI es k = f k

theorem findNow_int (k : Int) : ∀ (es : List MapEntry) (n : Nat), (∀ e ∈ es, ∃ k, e.key = .int .i64 k) → Instr.findNow (.int .i64) (.int .i64 k) es n = some (findIx k es n)
  | [], _, _ => rfl
  | e :: es, n, h => by
    obtain ⟨q, hq⟩ := h e (by simp)
    have ih := findNow_int k es (n + 1) (fun x hx => h x (by simp [hx]))
    by_cases hk : q = k
    · simp [Instr.findNow, Instr.sameNow, findIx, hq, keyI, hk]
    · have hb : (k == q) = false := beq_eq_false_iff_ne.2 (fun e => hk e.symm)
      simp [Instr.findNow, Instr.sameNow, findIx, hq, keyI, hk, hb, ih]
theorem findIx_shift (k : Int) : ∀ (es : List MapEntry) (n : Nat), findIx k es (n + 1) = (findIx k es n).map (fun p => (p.1 + 1, p.2))
  | [], _ => rfl
  | e :: es, n => by
    simp only [findIx]
    split
    · rfl
    · rw [findIx_shift k es (n + 1)]
theorem getI_cons (e : MapEntry) (es : List MapEntry) (k : Int) : getI (e :: es) k = if keyI e.key = k then some e.val else getI es k := by
  unfold getI
  simp only [findIx]
  split
  · rfl
  · rw [findIx_shift]; cases findIx k es 0 <;> rfl
theorem getI_cons' (k : Int) (v : Value) (c : Nat) (es : List MapEntry) (j : Int) : getI (⟨.int .i64 k, v, c⟩ :: es) j = if k = j then some v else getI es j := getI_cons _ _ _
theorem findIx_some {k : Int} : ∀ {es : List MapEntry} {i : Nat} {v : Value}, findIx k es 0 = some (i, v) → ∃ e, es[i]? = some e ∧ keyI e.key = k ∧ e.val = v
  | [], _, _, h => by cases h
  | e :: es, i, v, h => by
    simp only [findIx] at h
    split at h
    · cases h; exact ⟨e, rfl, by assumption, rfl⟩
    · rw [findIx_shift] at h
      cases h2 : findIx k es 0 with
      | none => rw [h2] at h; cases h
      | some p =>
        obtain ⟨p1, p2⟩ := p
        rw [h2] at h
        simp only [Option.map_some, Option.some.injEq, Prod.mk.injEq] at h
        obtain ⟨h3, h4⟩ := h
        subst h3 h4
        obtain ⟨x, hx, hy, hz⟩ := findIx_some h2
        exact ⟨x, by simpa using hx, hy, hz⟩
theorem getI_push (es : List MapEntry) (k : Int) (v : Value) (c : Nat) (h : findIx k es 0 = none) (j : Int) : getI (es ++ [⟨.int .i64 k, v, c⟩]) j = if j = k then some v else getI es j := by
  induction es with
  | nil =>
    rw [List.nil_append, getI_cons']
    by_cases hj : j = k
    · subst hj; simp
    · rw [if_neg (fun e => hj e.symm), if_neg hj]
  | cons e es ih =>
    have h2 : ¬ keyI e.key = k ∧ findIx k es 0 = none := by
      simp only [findIx] at h
      split at h
      · cases h
      · rw [findIx_shift] at h
        refine ⟨by assumption, ?_⟩
        cases h3 : findIx k es 0 with
        | none => rfl
        | some p => rw [h3] at h; cases h
    simp only [List.cons_append, getI_cons, ih h2.2]
    by_cases hj : j = k
    · subst hj; simp [h2.1]
    · simp [hj]
theorem getI_modify (es : List MapEntry) (k : Int) (v v0 : Value) (i : Nat) (h : findIx k es 0 = some (i, v0)) (j : Int) :
    getI (es.modify i (fun e => { e with key := .int .i64 k, val := v })) j = if j = k then some v else getI es j := by
  induction es generalizing i with
  | nil => cases h
  | cons e es ih =>
    simp only [findIx] at h
    split at h
    · rename_i hk
      cases h
      rw [List.modify_zero_cons, getI_cons', getI_cons]
      by_cases hj : j = k
      · subst hj; simp
      · rw [if_neg (fun e => hj e.symm), if_neg hj, if_neg (fun e => hj (e.symm.trans hk))]
    · rename_i hk
      rw [findIx_shift] at h
      cases h2 : findIx k es 0 with
      | none => rw [h2] at h; cases h
      | some p =>
        obtain ⟨p1, p2⟩ := p
        rw [h2] at h
        simp only [Option.map_some, Option.some.injEq, Prod.mk.injEq] at h
        obtain ⟨h3, h4⟩ := h
        subst h3 h4
        simp only [List.modify_succ_cons, getI_cons]
        rw [ih p1 h2]
        by_cases hj : j = k
        · subst hj; simp [hk]
        · simp [hj]
theorem getI_none_of {es : List MapEntry} {k : Int} (h : ∀ e ∈ es, keyI e.key ≠ k) : getI es k = none := by
  induction es with
  | nil => rfl
  | cons e es ih => rw [getI_cons, if_neg (h e (by simp)), ih (fun x hx => h x (by simp [hx]))]
theorem getI_none_key {es : List MapEntry} {k : Int} (h : getI es k = none) : ∀ e ∈ es, keyI e.key ≠ k := by
  induction es with
  | nil => simp
  | cons e es ih =>
    rw [getI_cons] at h
    split at h
    · cases h
    · intro x hx
      rcases List.mem_cons.1 hx with rfl | hx
      · assumption
      · exact ih h x hx
theorem map_key_modify (es : List MapEntry) (i : Nat) (e0 : MapEntry) (g : MapEntry → MapEntry) (h : es[i]? = some e0) (hg : (g e0).key = e0.key) : (es.modify i g).map (·.key) = es.map (·.key) := by
  induction es generalizing i with
  | nil => simp at h
  | cons e es ih =>
    cases i with
    | zero => simp at h; subst h; simp [hg]
    | succ i => simp at h; simp [ih i h]
theorem getI_erase (es : List MapEntry) (k : Int) (v0 : Value) (i : Nat) (ha : es.Pairwise (fun a b => keyI a.key ≠ keyI b.key)) (h : findIx k es 0 = some (i, v0)) (j : Int) :
    getI (es.eraseIdx i) j = if j = k then none else getI es j := by
  induction es generalizing i with
  | nil => cases h
  | cons e es ih =>
    rw [List.pairwise_cons] at ha
    simp only [findIx] at h
    split at h
    · rename_i hk
      cases h
      simp only [List.eraseIdx_zero, List.tail_cons, getI_cons]
      by_cases hj : j = k
      · subst hj
        simp only [if_true]
        exact getI_none_of (fun x hx he => ha.1 x hx (hk.trans he.symm))
      · rw [if_neg hj, if_neg (fun e => hj (e.symm.trans hk))]
    · rename_i hk
      rw [findIx_shift] at h
      cases h2 : findIx k es 0 with
      | none => rw [h2] at h; cases h
      | some p =>
        obtain ⟨p1, p2⟩ := p
        rw [h2] at h
        simp only [Option.map_some, Option.some.injEq, Prod.mk.injEq] at h
        obtain ⟨h3, h4⟩ := h
        subst h3 h4
        simp only [List.eraseIdx_cons_succ, getI_cons]
        rw [ih p1 ha.2 h2]
        by_cases hj : j = k
        · subst hj; simp [hk]
        · simp [hj]
theorem IntMap.nil : IntMap [] (fun _ => none) := ⟨by simp, by simp, fun _ => rfl⟩
theorem findIx_getI {es : List MapEntry} {k : Int} : findIx k es 0 = none ↔ getI es k = none := by unfold getI; cases findIx k es 0 <;> simp

/-- a block that is a map -/
def MapAt (w : World) (r : Nat) (f : Int → Option Value) : Prop := ∃ es clock, w.heap[r]? = some (.map es clock) ∧ IntMap es.toList f
theorem MapAt.keep {F : List Nat} {w w' : World} {r : Nat} {f : Int → Option Value} (h : MapAt w r f) (hk : Keep F w w') (hr : r ∉ F) : MapAt w' r f := by
  obtain ⟨es, c, h1, h2⟩ := h
  exact ⟨es, c, hk.get h1 hr, h2⟩
theorem MapAt.lt {w : World} {r : Nat} {f : Int → Option Value} (h : MapAt w r f) : r < w.heap.size := by obtain ⟨es, c, h1, _⟩ := h; exact lt_of_heap h1

section
variable {P : Program}
theorem run_lookupI (w : World) (T kt et : TypeId) (r : Nat) (f : Int → Option Value) (k : Int) (z : Value) (hT : P.underlying T = some (.map kt et)) (hk : P.underlying kt = some (.int .i64)) (hz : (zeroValue et).run P w = .ok z w) (h : MapAt w r f) (c : Bool) :
    (Instr.lookup T (.map (some r)) (.int .i64 k) c).run P w = .ok (if c then .tuple #[(f k).getD z, .bool (f k).isSome] else (f k).getD z) w := by
  obtain ⟨es, cl, h1, h2⟩ := h
  have hg := h2.get k
  unfold getI at hg
  have hfn := findNow_int k es.toList 0 h2.keys
  have hfk := MapKept.run_findKey (w := w) (l := es.toList) hk hfn
  have hck : (Instr.checkKey es.isEmpty 10000 kt (.int .i64 k)).run P w = .ok () w := by
    unfold Instr.checkKey
    simp only [Sem.run_bind, run_underlying hk, Result.andThen]
    rfl
  unfold Instr.lookup
  simp only [Sem.run_bind, run_underlying hT, Result.andThen_ok, MapKept.run_getObj_map h1, Sem.run_pure, hck, hfk]
  rw [← hg]
  cases hx : findIx k es.toList 0 with
  | none => cases c <;> simp [hz]
  | some p => cases c <;> simp

theorem run_mapUpdateI (w : World) (T kt et : TypeId) (r : Nat) (f : Int → Option Value) (k : Int) (v : Value) (hT : P.underlying T = some (.map kt et)) (hk : P.underlying kt = some (.int .i64)) (h : MapAt w r f) :
    ∃ w', (Instr.mapUpdate T (.map (some r)) (.int .i64 k) v).run P w = .ok () w' ∧ MapAt w' r (fun j => if j = k then some v else f j) ∧ Keep [r] w w' := by
  obtain ⟨es, cl, h1, h2⟩ := h
  have hr := lt_of_heap h1
  have hfn := findNow_int k es.toList 0 h2.keys
  have hfk := MapKept.run_findKey (w := w) (l := es.toList) hk hfn
  have hck : (Instr.checkKey false 10000 kt (.int .i64 k)).run P w = .ok () w := by
    unfold Instr.checkKey
    simp only [Sem.run_bind, run_underlying hk, Result.andThen]
    rfl
  cases hx : findIx k es.toList 0 with
  | none =>
    refine ⟨_, by simp only [Instr.mapUpdate, Sem.run_bind, run_underlying hT, Result.andThen_ok, MapKept.run_getObj_map h1, hck, hfk, hx, MapKept.run_setObj_map _ h1]; rw [putBlock_eq], ⟨_, _, putBlock_same _ hr, ?_⟩, (Keep.refl [r] w).putBlock (by simp) _⟩
    refine ⟨?_, ?_, fun j => ?_⟩
    · intro e he
      rw [Array.toList_push, List.mem_append] at he
      rcases he with he | he
      · exact h2.keys e he
      · rw [List.mem_singleton.1 he]; exact ⟨k, rfl⟩
    · rw [Array.toList_push, List.pairwise_append]
      refine ⟨h2.apart, by simp, fun a ha b hb => ?_⟩
      rw [List.mem_singleton.1 hb]
      intro he
      have := getI_none_key (findIx_getI.1 hx) a ha
      exact this he
    · rw [Array.toList_push, getI_push _ _ _ _ hx, h2.get]
  | some p =>
    obtain ⟨i, v0⟩ := p
    obtain ⟨e0, he0, hke, hve⟩ := findIx_some hx
    obtain ⟨q, hq⟩ := h2.keys e0 (List.mem_of_getElem? he0)
    have hqk : q = k := by rw [hq] at hke; exact hke
    subst hqk
    have hai : es[i]? = some e0 := by simpa using he0
    have hst : (Instr.keyThatStays (.int .i64 q) (.int .i64 q)).run P w = .ok (.int .i64 q) w := by
      simp [Instr.keyThatStays, Instr.sameBits]
    refine ⟨_, by simp only [Instr.mapUpdate, Sem.run_bind, run_underlying hT, Result.andThen_ok, MapKept.run_getObj_map h1, hck, hfk, hx, hai, Option.map_some, Option.getD_some, hq, hst, MapKept.run_setObj_map _ h1]; rw [putBlock_eq], ⟨_, _, putBlock_same _ hr, ?_⟩, (Keep.refl [r] w).putBlock (by simp) _⟩
    have hmk : (es.modify i (fun e => { e with key := .int .i64 q, val := v })).toList.map (·.key) = es.toList.map (·.key) := by
      rw [Array.toList_modify]
      exact map_key_modify _ i e0 _ he0 hq.symm
    refine ⟨?_, ?_, fun j => ?_⟩
    · intro e he
      have : e.key ∈ es.toList.map (·.key) := by rw [← hmk]; exact List.mem_map_of_mem he
      obtain ⟨x, hx, hxe⟩ := List.mem_map.1 this
      rw [← hxe]; exact h2.keys x hx
    · have h3 : (es.toList.map (·.key)).Pairwise (fun a b => keyI a ≠ keyI b) := List.pairwise_map.2 h2.apart
      rw [← hmk] at h3
      exact (List.pairwise_map (f := fun e : MapEntry => e.key) (R := fun a b => keyI a ≠ keyI b)).1 h3
    · rw [Array.toList_modify, getI_modify _ _ _ _ _ hx, h2.get]

theorem run_deleteI (w : World) (T kt et kt' ty : TypeId) (r : Nat) (f : Int → Option Value) (k : Int) (hT : P.underlying T = some (.map kt et)) (hk : P.underlying kt = some (.int .i64)) (h : MapAt w r f) :
    ∃ w', (Builtin.delete_ #[T, kt'] ty #[.map (some r), .int .i64 k]).run P w = .ok (.tuple #[]) w' ∧ MapAt w' r (fun j => if j = k then none else f j) ∧ Keep [r] w w' := by
  obtain ⟨es, cl, h1, h2⟩ := h
  have hr := lt_of_heap h1
  have hfn := findNow_int k es.toList 0 h2.keys
  have hfk := MapKept.run_findKey (w := w) (l := es.toList) hk hfn
  have hck : (Instr.checkKey es.isEmpty 10000 kt (.int .i64 k)).run P w = .ok () w := by
    unfold Instr.checkKey
    simp only [Sem.run_bind, run_underlying hk, Result.andThen]
    rfl
  cases hx : findIx k es.toList 0 with
  | none =>
    refine ⟨putBlock w r (.map es cl), ?_, ⟨_, _, putBlock_same _ hr, h2.keys, h2.apart, fun j => ?_⟩, (Keep.refl [r] w).putBlock (by simp) _⟩
    · simp only [Builtin.delete_, List.getElem?_toArray, List.getElem?_cons_zero, List.getElem?_cons_succ, Sem.run_bind, run_underlying hT, Result.andThen_ok, MapKept.run_getObj_map h1, hck, hfk, hx, MapKept.run_setObj_map _ h1, Sem.run_pure]
      rfl
    · rw [h2.get]
      split
      · rename_i hj; subst hj; rw [← h2.get]; exact findIx_getI.1 hx
      · rfl
  | some p =>
    obtain ⟨i, v0⟩ := p
    refine ⟨putBlock w r (.map (es.eraseIdxIfInBounds i) cl), ?_, ⟨_, _, putBlock_same _ hr, ?_, ?_, fun j => ?_⟩, (Keep.refl [r] w).putBlock (by simp) _⟩
    · simp only [Builtin.delete_, List.getElem?_toArray, List.getElem?_cons_zero, List.getElem?_cons_succ, Sem.run_bind, run_underlying hT, Result.andThen_ok, MapKept.run_getObj_map h1, hck, hfk, hx, MapKept.run_setObj_map _ h1, Sem.run_pure]
      rfl
    · intro e he
      rw [Array.toList_eraseIdxIfInBounds] at he
      exact h2.keys e (List.mem_of_mem_eraseIdx he)
    · rw [Array.toList_eraseIdxIfInBounds]
      exact h2.apart.sublist (List.eraseIdx_sublist _ _)
    · rw [Array.toList_eraseIdxIfInBounds, getI_erase _ _ _ _ h2.apart hx, h2.get]

theorem run_clearI (w : World) (T kt et ty : TypeId) (r : Nat) (f : Int → Option Value) (hT : P.underlying T = some (.map kt et)) (h : MapAt w r f) :
    ∃ w', (Builtin.clear_ #[T] ty #[.map (some r)]).run P w = .ok (.tuple #[]) w' ∧ MapAt w' r (fun _ => none) ∧ Keep [r] w w' := by
  obtain ⟨es, cl, h1, h2⟩ := h
  have hr := lt_of_heap h1
  refine ⟨putBlock w r (.map #[] cl), ?_, ⟨_, _, putBlock_same _ hr, IntMap.nil⟩, (Keep.refl [r] w).putBlock (by simp) _⟩
  simp only [Builtin.clear_, List.getElem?_toArray, List.getElem?_cons_zero, Sem.run_bind, run_underlying hT, Result.andThen_ok, MapKept.run_getObj_map h1, MapKept.run_setObj_map _ h1, Sem.run_pure]
  rfl
theorem MapAt.made (w : World) : MapAt (w.alloc (.map #[] 0)) w.heap.size (fun _ => none) := ⟨_, _, heap_alloc_new w _, IntMap.nil⟩
end

section
variable {P : Program} {ops : Array Oper} {rest : List Oper} {o : Oper} {a : Act} {w : World} {Q : Exit → Act → World → Prop}
theorem wpList_lookupI (hgd : o.guard = none) (T : TypeId) (x y : Operand) (c : Bool) (ho : o.op = .lookup T x y c) (kt et : TypeId) (r : Nat) (f : Int → Option Value) (k : Int) (z : Value)
    (hT : P.underlying T = some (.map kt et)) (hk : P.underlying kt = some (.int .i64)) (hz : (zeroValue et).run P w = .ok z w) (hm : MapAt w r f) (hx : a.eval x = .map (some r)) (hy : a.eval y = .int .i64 k)
    (h : wpList P ops Q rest (a.put o.dst (if c then .tuple #[(f k).getD z, .bool (f k).isSome] else (f k).getD z)) w) : wpList P ops Q (o :: rest) a w :=
  wpList_plain hgd fun _ hK => by
    unfold Oper.wp execOp
    simp only [ho, hx, hy, Sem.run_bind, Sem.run_pure, run_lookupI w T kt et r f k z hT hk hz hm c, Result.andThen_ok]
    exact hK _ _ h
theorem wpList_mapUpdateI (hgd : o.guard = none) (hdst : o.dst = none) (T : TypeId) (x y v : Operand) (ho : o.op = .mapUpdate T x y v) (kt et : TypeId) (r : Nat) (f : Int → Option Value) (k : Int)
    (hT : P.underlying T = some (.map kt et)) (hk : P.underlying kt = some (.int .i64)) (hm : MapAt w r f) (hx : a.eval x = .map (some r)) (hy : a.eval y = .int .i64 k)
    (h : ∀ w', MapAt w' r (fun j => if j = k then some (a.eval v) else f j) → Keep [r] w w' → wpList P ops Q rest a w') : wpList P ops Q (o :: rest) a w :=
  wpList_plain hgd fun _ hK => by
    have hput : a.put o.dst undef = a := by rw [hdst]; rfl
    obtain ⟨w', h1, h2, h3⟩ := run_mapUpdateI w T kt et r f k (a.eval v) hT hk hm
    unfold Oper.wp execOp
    simp only [ho, hx, hy, Sem.run_bind, Sem.run_pure, h1, Result.andThen_ok]
    refine hK _ _ ?_
    rw [hput]
    exact h w' h2 h3
theorem wpList_deleteI (hgd : o.guard = none) (T kt' : TypeId) (x y : Operand) (ho : o.op = .call { callee := .builtin .delete, args := #[x, y], argTypes := #[T, kt'] }) (kt et : TypeId) (r : Nat) (f : Int → Option Value) (k : Int)
    (hT : P.underlying T = some (.map kt et)) (hk : P.underlying kt = some (.int .i64)) (hm : MapAt w r f) (hx : a.eval x = .map (some r)) (hy : a.eval y = .int .i64 k)
    (h : ∀ w', MapAt w' r (fun j => if j = k then none else f j) → Keep [r] w w' → wpList P ops Q rest (a.put o.dst (.tuple #[])) w') : wpList P ops Q (o :: rest) a w :=
  wpList_plain hgd fun _ hK => by
    obtain ⟨w', h1, h2, h3⟩ := run_deleteI w T kt et kt' o.type r f k hT hk hm
    unfold Oper.wp execOp
    simp only [ho, resolve, invoke, builtin, Sem.run_bind, Sem.run_pure, Result.andThen_ok, List.map_toArray, List.map_cons, List.map_nil, hx, hy, h1]
    exact hK _ _ (h w' h2 h3)
theorem wpList_clearI (hgd : o.guard = none) (T : TypeId) (x : Operand) (ho : o.op = .call { callee := .builtin .clear, args := #[x], argTypes := #[T] }) (kt et : TypeId) (r : Nat) (f : Int → Option Value)
    (hT : P.underlying T = some (.map kt et)) (hm : MapAt w r f) (hx : a.eval x = .map (some r))
    (h : ∀ w', MapAt w' r (fun _ => none) → Keep [r] w w' → wpList P ops Q rest (a.put o.dst (.tuple #[])) w') : wpList P ops Q (o :: rest) a w :=
  wpList_plain hgd fun _ hK => by
    obtain ⟨w', h1, h2, h3⟩ := run_clearI w T kt et o.type r f hT hm
    unfold Oper.wp execOp
    simp only [ho, resolve, invoke, builtin, Sem.run_bind, Sem.run_pure, Result.andThen_ok, List.map_toArray, List.map_cons, List.map_nil, hx, h1]
    exact hK _ _ (h w' h2 h3)
end

/-! ### arrays of bytes compared -/
section
variable {P : Program}
theorem run_eqItems_bytes (d : Nat) {e : TypeId} (he : P.underlying e = some (.int .u8)) (hp : P.plainKey e = true) (w : World) (xs ys : List UInt8) : ∀ (is : List Nat), (∀ i ∈ is, i < xs.length ∧ i < ys.length) →
    (Op.eqItems (d + 1) e 1 (cellsOf xs) (cellsOf ys) is).run P w = .ok (is.all fun i => xs.getD i 0 == ys.getD i 0) w
  | [], _ => by simp [Op.eqItems]
  | i :: is, h => by
    have h0 := h i (by simp)
    have hx := cellsOf_get xs i h0.1
    have hy := cellsOf_get ys i h0.2
    have ih := run_eqItems_bytes d he hp w xs ys is (fun j hj => h j (by simp [hj]))
    have heq : (Op.equalIn (d + 1) e (.int .u8 (wd xs i)) (.int .u8 (wd ys i))).run P w = .ok (wd xs i == wd ys i) w := by simp [Op.equalIn, run_underlying he]
    simp only [Op.eqItems, Sem.run_bind, Nat.mul_one, run_part_plain w hp hx, run_part_plain w hp hy, heq, Result.andThen_ok, List.all_cons]
    have hw : (wd xs i == wd ys i) = (xs.getD i 0 == ys.getD i 0) := by
      unfold wd
      by_cases c : xs.getD i 0 = ys.getD i 0
      · rw [c]; simp
      · have : ¬ ((xs.getD i 0).toNat : Int) = ((ys.getD i 0).toNat : Int) := fun e => c (UInt8.toNat_inj.1 (by omega))
        rw [beq_eq_false_iff_ne.2 c, beq_eq_false_iff_ne.2 this]
    rw [hw]
    cases hb : (xs.getD i 0 == ys.getD i 0)
    · simp
    · simpa using ih
theorem run_equalIn_bytes {T e : TypeId} {i : TypeInfo} (hT : P.underlying T = some (.array 512 e)) (hi : P.info? e = some i) (he : P.underlying e = some (.int .u8)) (hp : P.plainKey e = true) (hc : P.cellsOf e = 1) (w : World) (xs ys : List UInt8) (hx : xs.length = 512) (hy : ys.length = 512) :
    (Op.equalIn 10000 T (.agg (cellsOf xs)) (.agg (cellsOf ys))).run P w = .ok (decide (xs = ys)) w := by
  have h := run_eqItems_bytes (P := P) 9998 he hp w xs ys (List.range 512) (fun i hi => by rw [hx, hy]; exact ⟨List.mem_range.1 hi, List.mem_range.1 hi⟩)
  have h2 := run_equalIn_array (P := P) (w := w) 9999 (cellsOf xs) (cellsOf ys) hT hi
  rw [hc, h] at h2
  have hd : ((List.range 512).all fun i => xs.getD i 0 == ys.getD i 0) = decide (xs = ys) := by
    by_cases c : xs = ys
    · subst c; simp
    · rw [decide_eq_false c]
      cases hb : ((List.range 512).all fun i => xs.getD i 0 == ys.getD i 0)
      · rfl
      · exfalso
        apply c
        rw [List.all_eq_true] at hb
        apply List.ext_getElem (by omega)
        intro n h1 h2
        have := hb n (List.mem_range.2 (by omega))
        rw [beq_iff_eq] at this
        simpa [List.getD_eq_getElem?_getD, h1, h2] using this
  rw [hd] at h2
  exact h2
end
end
end Go.Proofs.YtgopdbpddemplaaDoor
