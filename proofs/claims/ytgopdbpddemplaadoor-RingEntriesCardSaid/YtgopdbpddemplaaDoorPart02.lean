/- Operations on whole parts of rows, as steps of a walk: loads, stores, copy, clear. Nothing of the program is named here. · Hash.Write at a fresh Hash. · The padding and the digest of a text. -/
import Derived.Test.YtgopdbpddemplaaDoorPart01
set_option linter.unusedSimpArgs false
set_option linter.unusedVariables false
namespace Go.Proofs.YtgopdbpddemplaaDoor
section
/- Operations on whole parts of rows, as steps of a walk: loads, stores, copy, clear. Nothing of the program is named here. -/
open Go.RowKit

theorem heap_alloc_at {w : World} {o : Obj} {n : Nat} (hn : n = w.heap.size) : (w.alloc o).heap[n]? = some o := by subst hn; exact heap_alloc_new w o
theorem heap_alloc_past {w : World} {o : Obj} {n : Nat} (hn : n < w.heap.size) : (w.alloc o).heap[n]? = w.heap[n]? := Below.heap_alloc w o n hn
theorem heap_setRow_at {w : World} {g : Nat} {old cs : Array Value} {t : TypeId} {fr : Nat × Nat} (hg : w.heap[g]? = some (.cells old t fr)) : (w.setRow g cs).heap[g]? = some (.cells cs t fr) := setRow_heap w g old cs t fr hg
theorem heap_setRow_ne {w : World} {g k : Nat} {cs : Array Value} (h : k ≠ g) : (w.setRow g cs).heap[k]? = w.heap[k]? := setRow_other w g k cs h
theorem heap_drew' {w : World} {k : Nat} : w.drew.heap[k]? = w.heap[k]? := rfl
theorem heap_drewN' {w : World} {n k : Nat} : (w.drewN n).heap[k]? = w.heap[k]? := rfl

theorem lt_size_alloc {w : World} {o : Obj} {n : Nat} (h : n < w.heap.size) : (n < (w.alloc o).heap.size) = True := eq_true (by rw [World.size_alloc]; omega)
theorem lt_size_setRow {w : World} {g n : Nat} {cs : Array Value} (h : n < w.heap.size) : (n < (w.setRow g cs).heap.size) = True := eq_true (by rw [size_setRow]; exact h)
theorem lt_size_setCell {w : World} {a : Addr} {v : Value} {n : Nat} (h : n < w.heap.size) : (n < (w.setCell a v).heap.size) = True := eq_true (by rw [World.size_setCell]; exact h)
theorem lt_size_drew {w : World} {n : Nat} (h : n < w.heap.size) : (n < w.drew.heap.size) = True := eq_true h
theorem lt_size_drewN {w : World} {m n : Nat} (h : n < w.heap.size) : (n < (w.drewN m).heap.size) = True := eq_true h

theorem cell_row' {w : World} {g j : Nat} {cs : Array Value} {t : TypeId} {fr : Nat × Nat} (hg : w.heap[g]? = some (.cells cs t fr)) : w.cell? ⟨g, j, none⟩ = cs[j]? := cell_of_row w g j cs t fr hg
theorem frozen_row' {w : World} {g j : Nat} {cs : Array Value} {t : TypeId} (hg : w.heap[g]? = some (.cells cs t (0, 0))) : w.frozen? ⟨g, j, none⟩ = false := frozen_of_row w g j cs t hg

def oneCells (cs : Array Value) : Bool := cs.toList.all (·.oneCell')
/-- every cell is one cell's value -/
def OneC (cs : Array Value) : Prop := ∀ (i : Nat) (v : Value), cs[i]? = some v → v.oneCell' = true
theorem OneC.cells {cs : Array Value} (h : OneC cs) : oneCells cs = true := by
  unfold oneCells
  rw [List.all_eq_true]
  intro v hv
  obtain ⟨i, hi⟩ := List.getElem?_of_mem hv
  exact h i v (by rw [← Array.getElem?_toList]; exact hi)
theorem OneC.extract {cs : Array Value} (h : OneC cs) (a b : Nat) : OneC (cs.extract a b) := fun i v hv => by
  rw [Array.getElem?_extract] at hv
  split at hv
  · exact h _ _ hv
  · cases hv
theorem OneC.over {cs : Array Value} (h : OneC cs) {o : Nat} {vs : List Value} (hs : o + vs.length ≤ cs.size) (hv : ∀ v ∈ vs, v.oneCell' = true) : OneC (over cs o vs) := fun i v hi => by
  rw [over_get hs] at hi
  split at hi
  · exact hv v (List.mem_of_getElem? hi)
  · exact h i v hi
theorem OneC.set {cs : Array Value} (h : OneC cs) (i : Nat) {u : Value} (hu : u.oneCell' = true) : OneC (cs.setIfInBounds i u) := fun j v hv => by
  rw [Array.getElem?_setIfInBounds] at hv
  split at hv
  · split at hv
    · cases hv; exact hu
    · cases hv
  · exact h j v hv
theorem OneC.bytes (l : List UInt8) : OneC (cellsOf l) := fun i v hv => by
  simp [cellsOf] at hv
  obtain ⟨b, _, rfl⟩ := hv
  rfl

section
variable {P : Program} {ops : Array Oper} {rest : List Oper} {o : Oper} {a : Act} {w : World} {Q : Exit → Act → World → Prop}

theorem wpList_load_part (hgd : o.guard = none) (ty : TypeId) (x : Operand) (ho : o.op = .load ty x)
    (g off n : Nat) (hx : a.eval x = .pointer (some ⟨g, off, none⟩)) (t : TypeId) (cs : Array Value) (fr : Nat × Nat) (d : TypeDesc) (hg : w.heap[g]? = some (.cells cs t fr))
    (hu : P.underlying ty = some d) (hd : (match d with | .struct _ | .array _ _ => true | _ => false) = true) (hi : (P.info? ty).map (·.size) = some n) (hn : off + n ≤ cs.size)
    (h : wpList P ops Q rest (a.put o.dst (.agg (cs.extract off (off + n)))) w) : wpList P ops Q (o :: rest) a w :=
  wpList_plain hgd fun _ hK => by
    unfold Oper.wp execOp
    simp only [ho, hx, Instr.loadAt, Instr.sureAddr, Sem.run_bind, Sem.run_pure, Result.andThen_ok, run_loadVar_part w g off n t ty cs fr d hg hu hd hi hn]
    exact hK _ _ h

theorem wpList_store_part (hgd : o.guard = none) (hdst : o.dst = none) (ty : TypeId) (x v : Operand) (ho : o.op = .store ty x v)
    (g off : Nat) (hx : a.eval x = .pointer (some ⟨g, off, none⟩)) (cells : Array Value) (hv : a.eval v = .agg cells) (t : TypeId) (old : Array Value) (hg : w.heap[g]? = some (.cells old t (0, 0)))
    (hi : (P.info? ty).map (·.size) = some cells.size) (hn : off + cells.size ≤ old.size) (h1 : ∀ v ∈ cells.toList, v.oneCell' = true)
    (h : ∀ w', Keep [g] w w' → w'.heap[g]? = some (.cells (over old off cells.toList) t (0, 0)) → wpList P ops Q rest a w') : wpList P ops Q (o :: rest) a w :=
  wpList_plain hgd fun _ hK => by
    have hput : a.put o.dst undef = a := by rw [hdst]; rfl
    rw [← hput] at h
    unfold Oper.wp execOp
    simp only [ho, hx, hv, Instr.storeAt, Instr.sureAddr, Sem.run_bind, Sem.run_pure, Result.andThen_ok, run_storeVar_part w g off t ty old cells hg hi hn h1]
    exact hK _ _ (h _ ((Keep.refl _ _).setRow (by simp) _) (setRow_heap _ _ _ _ _ _ hg))

theorem wpList_copy_run (hgd : o.guard = none) (d s : Operand) (dT sT : TypeId) (ho : o.op = .call { callee := .builtin .copy, args := #[d, s], argTypes := #[dT, sT] })
    (x y v : Value) (w' : World) (hd : a.eval d = x) (hs : a.eval s = y) (hr : (Builtin.copy_ #[dT, sT] o.type #[x, y]).run P w = .ok v w')
    (h : wpList P ops Q rest (a.put o.dst v) w') : wpList P ops Q (o :: rest) a w :=
  wpList_plain hgd fun _ hK => by
    unfold Oper.wp execOp
    simp only [ho, resolve, invoke, builtin, Sem.run_bind, Sem.run_pure, Result.andThen_ok, List.map_toArray, List.map_cons, List.map_nil, hd, hs, hr]
    exact hK _ _ h

theorem wpList_clear_run (hgd : o.guard = none) (hdst : o.dst = none) (d : Operand) (dT : TypeId) (ho : o.op = .call { callee := .builtin .clear, args := #[d], argTypes := #[dT] })
    (x v : Value) (w' : World) (hd : a.eval d = x) (hr : (Builtin.clear_ #[dT] o.type #[x]).run P w = .ok v w')
    (h : wpList P ops Q rest a w') : wpList P ops Q (o :: rest) a w :=
  wpList_plain hgd fun _ hK => by
    have hput : a.put o.dst v = a := by rw [hdst]; rfl
    rw [← hput] at h
    unfold Oper.wp execOp
    simp only [ho, resolve, invoke, builtin, Sem.run_bind, Sem.run_pure, Result.andThen_ok, List.map_toArray, List.map_cons, List.map_nil, hd, hr]
    exact hK _ _ h

theorem run_copy_str (dT sT ty elem : TypeId) (g off dLen dCap : Nat) (s : ByteArray) (cur : Array Value) (t : TypeId)
    (hu : P.underlying dT = some (.slice elem)) (hs : (P.info? elem).map (·.size) = some 1)
    (hg : w.heap[g]? = some (.cells cur t (0, 0))) (hfit : off + min s.size dLen ≤ cur.size) :
    (Builtin.copy_ #[dT, sT] ty #[.slice (some ⟨g, off, none⟩) dLen dCap, .string s]).run P w =
      .ok (goInt (min s.size dLen : Nat)) (w.setRow g (over cur off ((s.data.toList.take (min s.size dLen)).map B8))) := by
  cases hq : P.info? elem with
  | none => simp [hq] at hs
  | some i =>
    have hi : i.size = 1 := by simpa [hq] using hs
    have hcs : ((s.extract 0 (min s.size dLen)).data.map fun b => Value.int .u8 (b.toNat : Int)).toList = (s.data.toList.take (min s.size dLen)).map B8 := by
      rw [Array.toList_map, ByteArray.data_extract, Array.toList_extract]
      simp only [List.extract, List.drop_zero, Nat.sub_zero]
      rfl
    have hlen : ((s.data.toList.take (min s.size dLen)).map B8).length = min s.size dLen := by
      have : s.data.toList.length = s.size := rfl
      simp only [List.length_map, List.length_take, this]; omega
    have hst := run_storeCells_at P g off t ((s.data.toList.take (min s.size dLen)).map B8) 0 cur w hg (by rw [hlen]; omega) (fun v hv => by
      obtain ⟨b, _, rfl⟩ := List.mem_map.1 hv; rfl)
    simp only [Nat.add_zero] at hst
    have hsz : (sizeOf elem).run P w = .ok 1 w := by simp [sizeOf, typeInfo, hq, hi]
    simp only [Builtin.copy_, List.getElem?_toArray, List.getElem?_cons_zero, List.getElem?_cons_succ, run_underlying hu, Sem.run_bind, Result.andThen_ok, Builtin.lenOf, Sem.run_pure, hsz, Builtin.firstCells]
    rw [show Nat.min s.size dLen = min s.size dLen from rfl, hcs, hst]
    rfl

theorem run_clear_bytes (dT ty elem : TypeId) (g off n c : Nat) (cur : Array Value) (t : TypeId)
    (hu : P.underlying dT = some (.slice elem)) (hz : (P.info? elem).map (·.zero) = some (some (.int .u8 0)))
    (hg : w.heap[g]? = some (.cells cur t (0, 0))) (hfit : off + n ≤ cur.size) :
    (Builtin.clear_ #[dT] ty #[.slice (some ⟨g, off, none⟩) n c]).run P w =
      .ok (.tuple #[]) (w.setRow g (over cur off (List.replicate n (.int .u8 0)))) := by
  cases hq : P.info? elem with
  | none => simp [hq] at hz
  | some i =>
    have hi : i.zero = some (.int .u8 0) := by simpa [hq] using hz
    have hzc : (Builtin.zeroCells (Value.int .u8 0).cells n).toList = List.replicate n (.int .u8 0) := by
      apply List.ext_getElem
      · simp [Builtin.zeroCells, Value.cells]
      · intro k h1 h2
        simp [Builtin.zeroCells, Value.cells, Nat.mod_one]
    have hst := run_storeCells_at P g off t (List.replicate n (.int .u8 0)) 0 cur w hg (by simpa using hfit) (fun v hv => by
      rw [List.eq_of_mem_replicate hv]; rfl)
    simp only [Nat.add_zero] at hst
    cases n with
    | zero =>
      have : (w.setRow g (over cur off (List.replicate 0 (.int .u8 0)))) = w := by
        have e : over cur off (List.replicate 0 (Value.int .u8 0)) = cur := by simp [over]
        rw [e]; exact setRow_self w g cur t (0, 0) hg
      rw [this]
      simp [Builtin.clear_, run_underlying hu]
    | succ n =>
      have hsz : (zeroValue elem).run P w = .ok (.int .u8 0) w := by simp [zeroValue, typeInfo, hq, hi]
      simp only [Builtin.clear_, List.getElem?_toArray, List.getElem?_cons_zero, run_underlying hu, Sem.run_bind, Result.andThen_ok, Sem.run_pure, hsz]
      rw [hzc, hst]
      rfl

/-- copy out of a string into a part of a row: n bytes. -/
theorem wpList_copy_str (hgd : o.guard = none) (d s : Operand) (dT sT : TypeId) (ho : o.op = .call { callee := .builtin .copy, args := #[d, s], argTypes := #[dT, sT] })
    (g off dLen dCap : Nat) (b : ByteArray) (hd : a.eval d = .slice (some ⟨g, off, none⟩) dLen dCap) (hs : a.eval s = .string b) (n : Nat) (hn : min b.size dLen = n) (elem : TypeId) (cur : Array Value) (t : TypeId)
    (hu : P.underlying dT = some (.slice elem)) (hsz : (P.info? elem).map (·.size) = some 1) (hg : w.heap[g]? = some (.cells cur t (0, 0))) (hfit : off + n ≤ cur.size)
    (h : ∀ w', Keep [g] w w' → w'.heap[g]? = some (.cells (over cur off ((b.data.toList.take n).map B8)) t (0, 0)) → wpList P ops Q rest (a.put o.dst (.int .i64 n)) w') : wpList P ops Q (o :: rest) a w := by
  subst hn
  refine wpList_copy_run hgd d s dT sT ho (.slice (some ⟨g, off, none⟩) dLen dCap) (.string b) _ _ hd hs (run_copy_str dT sT o.type elem g off dLen dCap b cur t hu hsz hg hfit) ?_
  exact h _ ((Keep.refl _ _).setRow (by simp) _) (setRow_heap _ _ _ _ _ _ hg)

/-- clear of a part of a row of bytes. -/
theorem wpList_clear_bytes (hgd : o.guard = none) (hdst : o.dst = none) (d : Operand) (dT : TypeId) (ho : o.op = .call { callee := .builtin .clear, args := #[d], argTypes := #[dT] })
    (g off n c : Nat) (hd : a.eval d = .slice (some ⟨g, off, none⟩) n c) (elem : TypeId) (cur : Array Value) (t : TypeId)
    (hu : P.underlying dT = some (.slice elem)) (hz : (P.info? elem).map (·.zero) = some (some (.int .u8 0))) (hg : w.heap[g]? = some (.cells cur t (0, 0))) (hfit : off + n ≤ cur.size)
    (h : ∀ w', Keep [g] w w' → w'.heap[g]? = some (.cells (over cur off (List.replicate n (.int .u8 0))) t (0, 0)) → wpList P ops Q rest a w') : wpList P ops Q (o :: rest) a w := by
  refine wpList_clear_run hgd hdst d dT ho (.slice (some ⟨g, off, none⟩) n c) _ _ hd (run_clear_bytes dT o.type elem g off n c cur t hu hz hg hfit) ?_
  exact h _ ((Keep.refl _ _).setRow (by simp) _) (setRow_heap _ _ _ _ _ _ hg)
end
end

section
/- Hash.Write at a fresh Hash. -/
open Go.RowKit

theorem block_of_cell {w : World} {a : Addr} {v : Value} (h : w.cell? a = some v) : ∃ cs t fr, w.heap[a.block]? = some (.cells cs t fr) := by
  unfold World.cell? at h
  split at h
  · exact ⟨_, _, _, by assumption⟩
  · cases h

/-- The first state lies where the program keeps it. -/
def IGlob (w : World) : Prop := ∀ j, j < 8 → w.cell? ⟨1, j, none⟩ = some (.int .u32 (s0.nth j))
def s0Cells : Array Value := #[.int .u32 s0.a, .int .u32 s0.b, .int .u32 s0.c, .int .u32 s0.d, .int .u32 s0.e, .int .u32 s0.f, .int .u32 s0.g, .int .u32 s0.h]
theorem s0Cells_get (j : Nat) (h : j < 8) : s0Cells[j]? = some (.int .u32 (s0.nth j)) := by
  have h8 : j = 0 ∨ j = 1 ∨ j = 2 ∨ j = 3 ∨ j = 4 ∨ j = 5 ∨ j = 6 ∨ j = 7 := by omega
  rcases h8 with rfl | rfl | rfl | rfl | rfl | rfl | rfl | rfl <;> rfl
theorem IGlob.row {w : World} (h : IGlob w) : ∃ cs t fr, w.heap[1]? = some (.cells cs t fr) ∧ 0 + 8 ≤ cs.size ∧ cs.extract 0 (0 + 8) = s0Cells := by
  obtain ⟨cs, t, fr, hb⟩ := block_of_cell (h 0 (by omega))
  have hc : ∀ j, j < 8 → cs[j]? = some (.int .u32 (s0.nth j)) := fun j hj => (cell_of_row w _ j cs t fr hb).symm.trans (h j hj)
  have hs : 8 ≤ cs.size := (Array.getElem?_eq_some_iff.1 (hc 7 (by omega))).1
  refine ⟨cs, t, fr, hb, by omega, ?_⟩
  apply Array.ext_getElem?
  intro j
  rw [Array.getElem?_extract]
  by_cases hj : j < 8
  · rw [if_pos (by omega), Nat.zero_add, hc j hj, s0Cells_get j hj]
  · rw [if_neg (by omega)]
    symm
    rw [Array.getElem?_eq_none_iff]
    show 8 ≤ j
    omega

theorem IGlob.keep {w w' : World} (h : IGlob w) {F : List Nat} (hk : Keep F w w') (hn : 1 ∉ F) : IGlob w' := fun t ht => hk.cell (h t ht) hn

def strLen : Value → Nat
  | .string s => s.size
  | _ => 0

theorem extract_tail (l : List UInt8) (n : Nat) (hn : n ≤ l.length) : (ByteArray.mk l.toArray).extract n (ByteArray.mk l.toArray).size = ByteArray.mk (l.drop n).toArray := by
  apply ByteArray.ext
  rw [ByteArray.data_extract]
  apply Array.ext'
  rw [Array.toList_extract]
  simp only [List.extract]
  rw [List.take_of_length_le]
  simp [ByteArray.size]

theorem OneC_of {cs cs' : Array Value} {off : Nat} {s : S8} (h : S8at cs' off s) (ho : ∀ i, (i < off ∨ off + 8 ≤ i) → cs'[i]? = cs[i]?) (h1 : OneC cs) : OneC cs' := fun i v hv => by
  by_cases hi : i < off ∨ off + 8 ≤ i
  · rw [ho i hi] at hv; exact h1 i v hv
  · have := h (i - off) (by omega)
    rw [show off + (i - off) = i by omega, hv] at this
    cases this; rfl

set_option maxRecDepth 100000 in
set_option maxHeartbeats 1000000 in
theorem hwrite_some (hb : Nat) (hT : TypeId) (cs : Array Value) (l : List UInt8) (w : World) (hK : KGlob w) (hI : IGlob w)
    (hbK : hb ≠ 2) (hbI : hb ≠ 1)
    (hh : w.heap[hb]? = some (.cells cs hT (0, 0))) (hsz : cs.size = 73) (hone : OneC cs) (h0 : cs[0]? = some (.int .i64 0)) (hpos : 0 < l.length) (hlen : l.length ≤ 1099511627776) :
    Calls Tryd.prog 86 #[.pointer (some ⟨hb, 0, none⟩), str l] w fun e w' => e = .returned (.int .i64 0) ∧ Keep [hb] w w' ∧
      ∃ cs', w'.heap[hb]? = some (.cells cs' hT (0, 0)) ∧ cs'.size = 73 ∧ OneC cs' ∧ cs'[0]? = some (.int .i64 l.length) ∧ S8at cs' 1 (absorb l (l.length / 64)) ∧ ∀ i, i < l.length % 64 → cs'[9 + i]? = some (B8 (l.getD (64 * (l.length / 64) + i) 0)) := by
    obtain ⟨ic, it, ifr, hi1, hi2, hi3⟩ := hI.row
    have c0 : w.cell? ⟨hb, 0, none⟩ = some (.int .i64 0) := (cell_of_row w hb 0 cs _ _ hh).trans h0
    have HH := Lib.hid hh
    have HK := Lib.hid hK
    have HZ := Lib.hid hsz
    have HI1 := Lib.hid hi1
    have HI3 := Lib.hid hi3
    have hlp : (0 : Int) < (l.length : Int) := by omega
    clear hh hK hsz hI hi1 hi3 h0
    unfold str
    go_enter Tryd.func86, Tryd.ntmps86
    go_wp2_with (first
      | (refine wpList_load_part rfl 142 _ rfl 1 0 8 rfl it ic ifr _ HI1.out Tryd.underlying142 rfl (by kernel_rfl) hi2 ?_; rw [HI3.out])
      | (refine wpList_store_part rfl rfl 142 _ _ rfl hb 1 rfl s0Cells rfl hT cs HH.out (by kernel_rfl) (by rw [HZ.out]; decide) (by decide) ?_; intro w1 hk1 hh1))
    go_loopw [1, 5, 6] (fun sv _ _ wr => ∃ p : Nat, ∃ cur : Array Value, p ≤ l.length ∧ sv = .string ⟨(l.drop p).toArray⟩ ∧ (p = l.length ∨ p % 64 = 0) ∧ cur.size = 73 ∧ OneC cur ∧ wr.heap[hb]? = some (.cells cur hT (0, 0)) ∧
        cur[0]? = some (.int .i64 p) ∧ S8at cur 1 (absorb l (p / 64)) ∧ (∀ i, i < p % 64 → cur[9 + i]? = some (B8 (l.getD (64 * (p / 64) + i) 0))) ∧ Keep [hb] w wr) (fun sv _ _ _ => strLen sv)
    case atStart =>
      have hov : 1 + s0Cells.toList.length ≤ cs.size := by rw [HZ.out]; decide
      refine ⟨0, _, by omega, rfl, Or.inr rfl, ?_, hone.over hov (by decide), hh1, ?_, ?_, fun i hi => by omega, hk1⟩
      · rw [over_size hov]; exact HZ.out
      · rw [over_get hov, if_neg (by omega)]
        have := cell_of_row w hb 0 cs _ _ HH.out
        rw [← this]; exact c0
      · intro j hj
        rw [over_get hov, if_pos (by constructor; omega; show 1 + j < 1 + 8; omega), show 1 + j - 1 = j by omega, Array.getElem?_toList]
        exact s0Cells_get j hj
    case round =>
      clear hh1 hk1 c0
      obtain ⟨p, cur, hp, rfl, hm, hcz, hoc, hcur, hc0, hst, hrest, hkp⟩ := hrel
      have hsz1 : (ByteArray.mk (l.drop p).toArray).size = l.length - p := by simp [ByteArray.size]
      by_cases hlt : p < l.length
      · have hm0 : p % 64 = 0 := by omega
        have hp0 : (p : Int) % 64 = 0 := by omega
        have hd0 : (p : Int) ≤ 1099511627776 := by omega
        have k0 : wr.cell? ⟨hb, 0, none⟩ = some (.int .i64 p) := (cell_of_row wr hb 0 cur _ _ hcur).trans hc0
        have hposl : (0 : Int) < (l.length : Int) - p := by omega
        by_cases hfull : 64 ≤ l.length - p
        · have hmin : min (ByteArray.mk (l.drop p).toArray).size 64 = 64 := by rw [hsz1]; omega
          have HC := Lib.hid hcur
          have HCZ := Lib.hid hcz
          have HM := Lib.hid hm
          have HM0 := Lib.hid hm0
          have HR := Lib.hid hrest
          have HST := Lib.hid hst
          have HC0 := Lib.hid hc0
          clear hcur hcz hm hm0 hrest hst hc0 hsz1
          have hcl : (l.drop p).length = l.length - p := by simp
          have hl64 : ((((ByteArray.mk (l.drop p).toArray).data.toList.take 64).map B8)).length = 64 := by simp; omega
          go_wp2_with (first
            | (refine wpList_copy_str rfl (.tmp 35) (.tmp 36) 35 9 rfl hb 9 64 64 ⟨(l.drop p).toArray⟩ rfl rfl 64 hmin 5 cur hT Tryd.underlying35 (by kernel_rfl) HC.out (by rw [HCZ.out]; omega) ?_
               intro w2 hk2 hh2
               have k2 : w2.cell? ⟨hb, 0, none⟩ = some (.int .i64 p) := by
                 rw [cell_of_row w2 hb 0 _ _ _ hh2, over_get (by rw [hl64, HCZ.out]; omega), if_neg (by omega)]; exact HC0.out
               have f2 := frozen_of_row w2 hb 0 _ _ hh2
               have HH2 := Lib.hid hh2
               clear hh2 k0))
          go_wp2
          generalize hw3 : w2.setCell ⟨hb, 0, none⟩ (.int .i64 (↑p + 64)) = w3
          have HW3 := Lib.hid hw3
          clear hw3
          go_still_tail 6, (by kernel_rfl)
          change wpList _ _ _ _ _ w3.drew
          have hov : 9 + ((((ByteArray.mk (l.drop p).toArray).data.toList.take 64).map B8)).length ≤ cur.size := by rw [hl64, HCZ.out]; omega
          have hk3 : Keep [hb] w w3.drew := by
            rw [← HW3.out]; exact ((hkp.trans hk2 (by simp)).setCell (by simp) _).drew
          have hh3 : w3.drew.heap[hb]? = some (.cells ((over cur 9 (((ByteArray.mk (l.drop p).toArray).data.toList.take 64).map B8)).setIfInBounds 0 (.int .i64 (↑p + 64))) hT (0, 0)) := by
            rw [← HW3.out]; exact heap_setCell_same w2 hb 0 _ _ _ HH2.out
          have ho3 : OneC ((over cur 9 (((ByteArray.mk (l.drop p).toArray).data.toList.take 64).map B8)).setIfInBounds 0 (.int .i64 (↑p + 64))) :=
            (hoc.over hov (fun v hv => by obtain ⟨b, _, rfl⟩ := List.mem_map.1 hv; rfl)).set 0 rfl
          generalize hc3 : (over cur 9 (((ByteArray.mk (l.drop p).toArray).data.toList.take 64).map B8)).setIfInBounds 0 (.int .i64 (↑p + 64)) = cur3 at hh3 ho3
          have hz3 : cur3.size = 73 := by rw [← hc3, Array.size_setIfInBounds, over_size hov]; exact HCZ.out
          have h03 : cur3[0]? = some (.int .i64 ((p + 64 : Nat) : Int)) := by
            rw [← hc3, Array.getElem?_setIfInBounds_self_of_lt (by rw [over_size hov, HCZ.out]; omega)]; rfl
          have hs3 : S8at cur3 1 (absorb l (p / 64)) := fun j hj => by
            rw [← hc3, Array.getElem?_setIfInBounds, if_neg (by omega), over_get hov, if_neg (by omega)]; exact HST.out j hj
          have hb3 : ∀ i, i < 64 → cur3[9 + i]? = some (.int .u8 (wd ((l.drop p).take 64) i)) := fun i hi => by
            rw [← hc3, Array.getElem?_setIfInBounds, if_neg (by omega), over_get hov, if_pos (by rw [hl64]; omega), show 9 + i - 9 = i by omega]
            rw [List.getElem?_map, List.getElem?_take_of_lt hi]
            simp only [wd, List.getD_eq_getElem?_getD, List.getElem?_take_of_lt hi, List.getElem?_drop]
            rw [List.getElem?_eq_getElem (by omega)]
            rfl
          have hc := compress_any hb 1 hb 9 cur3 cur3 hT hT (0, 0) (absorb l (p / 64)) ((l.drop p).take 64) w3.drew (HK.out.keep hk3 (by simpa using Ne.symm hbK)) hh3 hs3 hh3 hb3
          have HCC := Lib.hid hc
          clear hc hc3 hh3 hs3 hb3 hmin hcl hl64 hov
          have HZ3 := Lib.hid hz3
          have H03 := Lib.hid h03
          clear hz3 h03
          go_wp2_with (go_at_call 88; refine HCC.out.mono ?_; rintro e w4 ⟨rfl, hk4, cur4, hh4, hz4, hs4, ho4⟩)
          go_roundw
          case rel =>
            have hq : (p + 64) / 64 = p / 64 + 1 := by omega
            have hpq : 64 * (p / 64) = p := by have := HM0.out; omega
            refine ⟨p + 64, cur4, by omega, ?_, Or.inr (by have := HM0.out; omega), by rw [hz4]; exact HZ3.out, OneC_of hs4 ho4 ho3, hh4, by rw [ho4 0 (by omega)]; exact H03.out, ?_, fun i hi => by have := HM0.out; omega, hk3.trans hk4 (by simp)⟩
            · have := extract_tail (l.drop p) 64 (by simp; omega)
              rw [show (ByteArray.mk (l.drop p).toArray).size = l.length - p by simp [ByteArray.size]] at this
              rw [this, List.drop_drop]
            · rw [hq]; show S8at cur4 1 (comp (absorb l (p / 64)) ((l.drop (64 * (p / 64))).take 64)); rw [hpq]; exact hs4
          case measure =>
            simp [strLen, ByteArray.size]; omega
        · have hmin : min (ByteArray.mk (l.drop p).toArray).size 64 = l.length - p := by rw [hsz1]; omega
          have HC := Lib.hid hcur
          have HCZ := Lib.hid hcz
          have HM := Lib.hid hm
          have HM0 := Lib.hid hm0
          have HR := Lib.hid hrest
          have HST := Lib.hid hst
          have HC0 := Lib.hid hc0
          have hlast : ((l.length - p : Nat) : Int) < 64 := by omega
          have hne : (((l.length - p : Nat) : Int) == 64) = false := by simp; omega
          clear hcur hcz hm hm0 hrest hst hc0 hsz1
          have hl64 : ((((ByteArray.mk (l.drop p).toArray).data.toList.take (l.length - p)).map B8)).length = l.length - p := by simp
          go_wp2_with (first
            | (refine wpList_copy_str rfl (.tmp 35) (.tmp 36) 35 9 rfl hb 9 64 64 ⟨(l.drop p).toArray⟩ rfl rfl (l.length - p) hmin 5 cur hT Tryd.underlying35 (by kernel_rfl) HC.out (by rw [HCZ.out]; omega) ?_
               intro w2 hk2 hh2
               have k2 : w2.cell? ⟨hb, 0, none⟩ = some (.int .i64 p) := by
                 rw [cell_of_row w2 hb 0 _ _ _ hh2, over_get (by rw [hl64, HCZ.out]; omega), if_neg (by omega)]; exact HC0.out
               have f2 := frozen_of_row w2 hb 0 _ _ hh2
               have HH2 := Lib.hid hh2
               clear hh2 k0))
          have hov : 9 + ((((ByteArray.mk (l.drop p).toArray).data.toList.take (l.length - p)).map B8)).length ≤ cur.size := by rw [hl64, HCZ.out]; omega
          have hps : ((p : Int) + ((l.length - p : Nat) : Int)) = l.length := by omega
          have hpq : 64 * (p / 64) = p := by have := HM0.out; omega
          have hq : l.length / 64 = p / 64 := by have := HM0.out; omega
          go_roundw
          case rel =>
            refine ⟨l.length, (over cur 9 (((ByteArray.mk (l.drop p).toArray).data.toList.take (l.length - p)).map B8)).setIfInBounds 0 (.int .i64 l.length), by omega, ?_, Or.inl rfl, ?_, (hoc.over hov (fun v hv => by obtain ⟨b, _, rfl⟩ := List.mem_map.1 hv; rfl)).set 0 rfl, ?_, ?_, ?_, ?_, (hkp.trans hk2 (by simp)).setCell (by simp) _⟩
            · rw [List.drop_length]; rfl
            · rw [Array.size_setIfInBounds, over_size hov]; exact HCZ.out
            · rw [hps]; exact heap_setCell_same w2 hb 0 _ _ _ HH2.out
            · rw [Array.getElem?_setIfInBounds_self_of_lt (by rw [over_size hov, HCZ.out]; omega)]
            · intro j hj
              rw [Array.getElem?_setIfInBounds, if_neg (by omega), over_get hov, if_neg (by omega), hq]; exact HST.out j hj
            · intro i hi
              have hil : i < l.length - p := by have := HM0.out; omega
              rw [Array.getElem?_setIfInBounds, if_neg (by omega), over_get hov, if_pos (by rw [hl64]; omega), show 9 + i - 9 = i by omega, hq, hpq]
              rw [List.getElem?_map, List.getElem?_take_of_lt hil]
              simp only [List.getElem?_drop, List.getD_eq_getElem?_getD]
              rw [List.getElem?_eq_getElem (by omega)]
              rfl
          case measure => simp [strLen, ByteArray.size]; omega
      · have hpe : p = l.length := by omega
        have HPE := Lib.hid hpe
        clear hpe
        have hl0 : ¬ 0 < l.length - p := by omega
        have HC := Lib.hid hcur
        have HCZ := Lib.hid hcz
        have HR := Lib.hid hrest
        have HST := Lib.hid hst
        have HC0 := Lib.hid hc0
        clear hcur hcz hm hrest hst hc0 hsz1
        go_wp2
        go_ret
        rw [← HPE.out]
        exact ⟨rfl, hkp, cur, HC.out, HCZ.out, hoc, HC0.out, HST.out, HR.out⟩

set_option maxHeartbeats 400000 in
theorem hwrite_nil (hb : Nat) (hT : TypeId) (cs : Array Value) (w : World) (hh : w.heap[hb]? = some (.cells cs hT (0, 0))) (h0 : cs[0]? = some (.int .i64 0)) :
    Calls Tryd.prog 86 #[.pointer (some ⟨hb, 0, none⟩), str []] w fun e w' => e = .returned (.int .i64 0) ∧ w = w' := by
    have c0 : w.cell? ⟨hb, 0, none⟩ = some (.int .i64 0) := (cell_of_row w hb 0 cs _ _ hh).trans h0
    clear hh h0
    unfold str
    go_enter Tryd.func86, Tryd.ntmps86
    go_wp2
    refine wp_loop_rounds 1 ?_
    rw [rounds_succ]
    go_wp2
    go_ret
    exact ⟨rfl, rfl⟩
end

section
/- The padding and the digest of a text. -/
open Go.RowKit

/-- a number in eight bytes -/
def be8 (n : Int) : List UInt8 := (List.range 8).map fun j => b8 (n / 2 ^ (8 * (7 - j)))
theorem be8_length (n : Int) : (be8 n).length = 8 := by simp [be8]
theorem be8_get (n : Int) (j : Nat) (h : j < 8) : (be8 n).getD j 0 = b8 (n / 2 ^ (8 * (7 - j))) := by
  simp [be8, List.getD_eq_getElem?_getD, h]
/-- a tail, the byte 128, zeros up to 64 bytes -/
def blk1 (t : List UInt8) : List UInt8 := t ++ [128] ++ List.replicate (63 - t.length) 0
theorem blk1_lo (t : List UInt8) (i : Nat) (h : i < t.length) : (blk1 t).getD i 0 = t.getD i 0 := by
  simp only [blk1, List.append_assoc, List.getD_eq_getElem?_getD]
  rw [List.getElem?_append_left h]
theorem blk1_at (t : List UInt8) : (blk1 t).getD t.length 0 = 128 := by
  simp [blk1, List.getD_eq_getElem?_getD]
theorem blk1_hi (t : List UInt8) (i : Nat) (h : t.length < i) : (blk1 t).getD i 0 = 0 := by
  simp only [blk1, List.append_assoc, List.getD_eq_getElem?_getD]
  rw [List.getElem?_append_right (by omega), List.getElem?_append_right (by simp; omega), List.getElem?_replicate]
  split <;> rfl
/-- the state before the last block, and the first 56 bytes of that block -/
def fin1 (l : List UInt8) : S8 × List UInt8 :=
  if l.length % 64 < 56 then (absorb l (l.length / 64), (blk1 (l.drop (64 * (l.length / 64)))).take 56)
  else (comp (absorb l (l.length / 64)) (blk1 (l.drop (64 * (l.length / 64)))), List.replicate 56 0)
theorem blk1_length (t : List UInt8) (h : t.length < 64) : (blk1 t).length = 64 := by simp [blk1]; omega
theorem fin1_length (l : List UInt8) : (fin1 l).2.length = 56 := by
  unfold fin1
  split
  · simp only [List.length_take]
    rw [blk1_length _ (by simp; omega)]; rfl
  · rfl
/-- the state behind a text -/
def finish (l : List UInt8) : S8 := comp (fin1 l).1 ((fin1 l).2 ++ be8 (8 * (l.length : Int)))
def word4 (x : Int) : List UInt8 := [b8 (x / 16777216), b8 (x / 65536), b8 (x / 256), b8 x]
def digest (s : S8) : List UInt8 := word4 s.a ++ word4 s.b ++ word4 s.c ++ word4 s.d ++ word4 s.e ++ word4 s.f ++ word4 s.g ++ word4 s.h
def sha (l : List UInt8) : List UInt8 := digest (finish l)
theorem digest_length (s : S8) : (digest s).length = 32 := rfl
theorem sha_length (l : List UInt8) : (sha l).length = 32 := rfl
theorem digest_get (s : S8) (j : Nat) (h : j < 8) : (digest s).getD (4 * j) 0 = b8 (s.nth j / 16777216) ∧ (digest s).getD (4 * j + 1) 0 = b8 (s.nth j / 65536) ∧
    (digest s).getD (4 * j + 2) 0 = b8 (s.nth j / 256) ∧ (digest s).getD (4 * j + 3) 0 = b8 (s.nth j) := by
  have h8 : j = 0 ∨ j = 1 ∨ j = 2 ∨ j = 3 ∨ j = 4 ∨ j = 5 ∨ j = 6 ∨ j = 7 := by omega
  rcases h8 with rfl | rfl | rfl | rfl | rfl | rfl | rfl | rfl <;> exact ⟨rfl, rfl, rfl, rfl⟩
end
end Go.Proofs.YtgopdbpddemplaaDoor
