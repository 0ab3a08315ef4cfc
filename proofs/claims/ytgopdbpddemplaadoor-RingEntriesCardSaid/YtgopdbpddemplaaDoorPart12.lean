/- The device: its pure form, how it lies in memory, its small functions. · The device: visible, Read, set, forget, Flush. -/
import Derived.Test.YtgopdbpddemplaaDoorPart11
set_option linter.unusedSimpArgs false
set_option linter.unusedVariables false
namespace Go.Proofs.YtgopdbpddemplaaDoor
section
/- The device: its pure form, how it lies in memory, its small functions. -/
open Go.RowKit

section
variable {P : Program} (w : World)
theorem run_append_own2 (base : Nat) (t tx ty e : TypeId) (i : TypeInfo) (z : Value) (size bytes : Nat) (ht : P.underlying t = some (.slice e)) (hi : P.info? e = some i) (hz : i.zero = some z)
    (hsize : i.size = size) (hby : i.bytes = bytes) (hzs : z.cells.size = size)
    (v : Value) (n : Nat) (xs : List Value) (hown : w.ownsRow base e size v n xs)
    (x : Value) (m : Nat) (news : List Value) (hsrc : Src P size tx x m news w)
    (h63 : n + m ≤ maxLen) (hbytes : (n + m) * bytes ≤ 140737488355328) (hbase : base ≤ w.heap.size) :
    ∃ v' w', (Builtin.append_ #[t, tx] ty #[v, x]).run P w = .ok v' w' ∧ w'.ownsRow base e size v' (n + m) (xs ++ news) ∧ w.grownBy w' v.ownBlock ∧ ((v'.ownBlock = v.ownBlock ∧ ∀ g cur, v.ownBlock = some g → w.heap[g]? = some (.cells cur e (0, 0)) → ∃ cur', w'.heap[g]? = some (.cells cur' e (0, 0)) ∧ cur'.size = cur.size) ∨ ∃ k, v'.ownBlock = some k ∧ w.heap.size ≤ k ∧ w.grownBy w' none) := by
  subst hsize
  subst hby
  have hl := hsrc.newsLen
  have hsmall : ((n + m : Nat) : Int) ≤ 9223372036854775807 := by simp only [maxLen] at h63; omega
  have hlen : (xs ++ news).length = (n + m) * i.size := by rw [List.length_append, hown.1, hl, Nat.add_mul]
  have grown : ∀ (old : Nat), old < n + m → ∀ (row : Option Nat),
      (w.drew.alloc (.cells ((xs ++ news).toArray ++ Builtin.zeroCells z.cells (grownCap w (n + m) old e - (n + m))) e)).ownsRow base e i.size
        (.slice (some ⟨w.heap.size, 0, none⟩) (n + m) (grownCap w (n + m) old e)) (n + m) (xs ++ news) ∧
      w.grownBy (w.drew.alloc (.cells ((xs ++ news).toArray ++ Builtin.zeroCells z.cells (grownCap w (n + m) old e - (n + m))) e)) row := by
    intro old ho row
    have hge := grownCap_ge w (n + m) old e
    have hcm : grownCap w (n + m) old e ≤ maxLen := grownCap_le_maxLen w (n + m) old e h63
    refine ⟨⟨hlen, .inr ⟨w.heap.size, _, _, rfl, hbase, heap_alloc_new w.drew _, hge, hcm, ?_, ?_⟩⟩, ⟨rfl, rfl, rfl, by simp, fun k hk _ => Below.heap_alloc w.drew _ k hk⟩⟩
    · simp only [Array.size_append, List.size_toArray, size_zeroCells, hzs, hlen, ← Nat.add_mul]
      congr 1
      omega
    · simp only [Array.toList_append]
      rw [← hlen]
      exact List.take_left
  rcases hown.2 with ⟨rfl, rfl⟩ | ⟨g, cap, cur, rfl, hbg, hg, hnc, hcm, hcs, htake⟩
  · have hx : xs = [] := List.eq_nil_of_length_eq_zero (by simpa using hown.1)
    subst hx
    by_cases hm : m = 0
    · subst hm
      have hn : news = [] := List.eq_nil_of_length_eq_zero (by simpa using hl)
      subst hn
      refine ⟨.slice none 0 0, w, ?_, World.ownsRow_nil w base e i.size, ⟨rfl, rfl, rfl, Nat.le_refl _, fun _ _ _ => rfl⟩, .inl ⟨rfl, fun g cur _ h => ⟨cur, h, rfl⟩⟩⟩
      rcases hsrc.kind with ⟨e', hk⟩ | hk <;> simp [Builtin.append_, run_underlying ht, run_underlying hk, sizeOf, typeInfo, hi, hsrc.len, hsrc.cells]
    · have hr := run_append_grow_src (P := P) w t tx ty e i z ht hi hz none 0 0 [] (by simpa using run_firstCells_none (P := P) w.drew i.size 0 0 0) x m news hsrc (by omega) (by omega) (growslice_fits (by omega) (by simpa using hbytes))
      have hgr := grown 0 (by omega) (Value.ownBlock (.slice none 0 0))
      exact ⟨_, _, hr, hgr.1, hgr.2, .inr ⟨_, rfl, Nat.le_refl _, (grown _ (by omega) none).2⟩⟩
  · by_cases hroom : n + m ≤ cap
    · have hfit : n * i.size + news.length ≤ cur.size := by rw [hl, hcs, ← Nat.add_mul]; exact Nat.mul_le_mul_right _ hroom
      have hr := run_append_room_row (P := P) w t tx ty e i ht hi g n cap cur hg x m news hsrc hroom hfit
      refine ⟨_, _, hr, ⟨hlen, .inr ⟨g, cap, _, rfl, hbg, setRow_heap w g cur _ e _ hg, hroom, hcm, ?_, ?_⟩⟩, ⟨rfl, rfl, rfl, by simp, fun k _ hk => setRow_other w g k _ (fun e => hk (by simp [Value.ownBlock, e]))⟩, .inl ⟨rfl, fun g' cur2 h1 h2 => ?_⟩⟩
      · simp only [List.size_toArray, List.length_append, List.length_take, List.length_drop, Array.length_toList]
        omega
      · rw [htake, ← hlen]
        exact List.take_left
      · injection h1 with h1
        simp only at h1
        subst h1
        rw [hg] at h2
        injection h2 with h2
        injection h2 with h2 _
        subst h2
        refine ⟨_, setRow_heap w g cur _ e _ hg, ?_⟩
        simp only [List.size_toArray, List.length_append, List.length_take, List.length_drop, Array.length_toList]
        omega
    · have holds : ∀ j u, xs[j]? = some u → w.drew.cell? ((⟨g, 0, none⟩ : Addr).add j) = some u := fun j u hu => by simpa using hown.cells (g := g) rfl j u hu
      have hr := run_append_grow_src (P := P) w t tx ty e i z ht hi hz (some ⟨g, 0, none⟩) n cap xs (run_firstCells_some w.drew i.size n ⟨g, 0, none⟩ n cap xs hown.1 holds) x m news hsrc (by omega) (by omega) (growslice_fits (by omega) hbytes)
      have hgr := grown cap (by omega) (Value.ownBlock (.slice (some ⟨g, 0, none⟩) n cap))
      exact ⟨_, _, hr, hgr.1, hgr.2, .inr ⟨_, rfl, Nat.le_refl _, (grown _ (by omega) none).2⟩⟩


theorem wpList_append_own2 {ops : Array Oper} {rest : List Oper} {o : Oper} {a : Act} {Q : Exit → Act → World → Prop} (hgd : o.guard = none) (s xo : Operand) (t tx : TypeId)
    (ho : o.op = .call { callee := .builtin .append, args := #[s, xo], argTypes := #[t, tx] })
    (base : Nat) (e : TypeId) (i : TypeInfo) (z : Value) (size bytes : Nat) (ht : P.underlying t = some (.slice e)) (hi : P.info? e = some i) (hz : i.zero = some z)
    (hsize : i.size = size) (hby : i.bytes = bytes) (hzs : z.cells.size = size)
    (v : Value) (n : Nat) (xs : List Value) (hs : a.eval s = v) (hown : w.ownsRow base e size v n xs)
    (x : Value) (hx : a.eval xo = x) (m : Nat) (news : List Value) (hsrc : Src P size tx x m news w)
    (h63 : n + m ≤ maxLen) (hbytes : (n + m) * bytes ≤ 140737488355328) (hbase : base ≤ w.heap.size)
    (h : ∀ v' w', w'.ownsRow base e size v' (n + m) (xs ++ news) → w.grownBy w' v.ownBlock → ((v'.ownBlock = v.ownBlock ∧ ∀ g cur, v.ownBlock = some g → w.heap[g]? = some (.cells cur e (0, 0)) → ∃ cur', w'.heap[g]? = some (.cells cur' e (0, 0)) ∧ cur'.size = cur.size) ∨ ∃ k, v'.ownBlock = some k ∧ w.heap.size ≤ k ∧ w.grownBy w' none) → wpList P ops Q rest (a.put o.dst v') w') : wpList P ops Q (o :: rest) a w :=
  wpList_plain hgd fun _ hK => by
    obtain ⟨v', w', hr, h2, h3, h4⟩ := run_append_own2 (P := P) w base t tx o.type e i z size bytes ht hi hz hsize hby hzs v n xs hown x m news hsrc h63 hbytes hbase
    unfold Oper.wp execOp
    simp only [ho, resolve, invoke, builtin, Sem.run_bind, Sem.run_pure, Result.andThen_ok, List.map_toArray, List.map_cons, List.map_nil, hs, hx, hr]
    exact hK _ _ (h v' w' h2 h3 h4)
end

/-! ### the pure device -/
def zero512 : List UInt8 := List.replicate 512 0
/-- which pending write of a block is the last -/
def lastIx : List (Int × List UInt8) → Int → Option Nat
  | [], _ => none
  | x :: xs, k => match lastIx xs k with | some i => some (i + 1) | none => if x.1 = k then some 0 else none
theorem lastIx_snoc (l : List (Int × List UInt8)) (x : Int × List UInt8) (k : Int) : lastIx (l ++ [x]) k = if x.1 = k then some l.length else lastIx l k := by
  induction l with
  | nil => simp [lastIx]
  | cons y l ih =>
    simp only [List.cons_append, lastIx, ih]
    by_cases h : x.1 = k
    · simp [h]
    · simp [h]
theorem lastIx_lt {l : List (Int × List UInt8)} {k : Int} {i : Nat} (h : lastIx l k = some i) : i < l.length ∧ (l.getD i (0, [])).1 = k := by
  induction l generalizing i with
  | nil => cases h
  | cons y l ih =>
    simp only [lastIx] at h
    cases h2 : lastIx l k with
    | none =>
      rw [h2] at h
      simp only at h
      split at h
      · cases h; simp; assumption
      · cases h
    | some j =>
      rw [h2] at h
      cases h
      have := ih h2
      simpa using this
structure DK where
  blocks : Int
  ops : Int
  dur : Int → List UInt8
  pend : List (Int × List UInt8)
  limited : Bool
  down : Bool
  limit : Int
def DK.vis (d : DK) (b : Int) : List UInt8 := match lastIx d.pend b with | some i => (d.pend.getD i (0, [])).2 | none => d.dur b
/-- every content has 512 bytes -/
structure DK.ok (d : DK) : Prop where
  dur : ∀ b, (d.dur b).length = 512
  pend : ∀ p ∈ d.pend, p.2.length = 512
theorem DK.ok.vis {d : DK} (h : d.ok) (b : Int) : (d.vis b).length = 512 := by
  unfold DK.vis
  cases hl : lastIx d.pend b with
  | none => exact h.dur b
  | some i =>
    obtain ⟨h1, _⟩ := lastIx_lt hl
    refine h.pend _ ?_
    rw [List.getD_eq_getElem?_getD, List.getElem?_eq_getElem h1]
    exact List.getElem_mem h1

def writeCells (p : Int × List UInt8) : List Value := .int .i64 p.1 :: p.2.map B8
def pendCells (l : List (Int × List UInt8)) : List Value := (l.map writeCells).flatten
theorem pendCells_length (l : List (Int × List UInt8)) (h : ∀ p ∈ l, p.2.length = 512) : (pendCells l).length = l.length * 513 := by
  unfold pendCells
  induction l with
  | nil => rfl
  | cons x l ih =>
    have := ih (fun p hp => h p (by simp [hp]))
    have hx := h x (by simp)
    simp [writeCells, hx, this]; omega
theorem pendCells_at (l : List (Int × List UInt8)) (h : ∀ p ∈ l, p.2.length = 512) (i : Nat) (hi : i < l.length) : ((pendCells l).drop (i * 513)).take 513 = writeCells (l.getD i (0, [])) := by
  induction l generalizing i with
  | nil => simp at hi
  | cons x l ih =>
    have hx := h x (by simp)
    have hxl : (writeCells x).length = 513 := by simp [writeCells, hx]
    cases i with
    | zero => simp [pendCells, List.take_append, hxl]
    | succ i =>
      have := ih (fun p hp => h p (by simp [hp])) i (by simpa using hi)
      rw [show (i + 1) * 513 = 513 + i * 513 by omega, ← List.drop_drop]
      have hd : (pendCells (x :: l)).drop 513 = pendCells l := by
        simp only [pendCells, List.map_cons, List.flatten_cons]
        rw [← hxl]; exact List.drop_left
      rw [hd, this]; simp
theorem pendCells_snoc (l : List (Int × List UInt8)) (x : Int × List UInt8) : pendCells (l ++ [x]) = pendCells l ++ writeCells x := by simp [pendCells]

/-- the slice of pending writes -/
def PendAt (w : World) (v : Value) (l : List (Int × List UInt8)) : Prop := w.ownsRow 0 98 513 v l.length (pendCells l)
theorem PendAt.keep {F : List Nat} {w w' : World} {v : Value} {l : List (Int × List UInt8)} (h : PendAt w v l) (hk : Keep F w w') (hF : ∀ k ∈ F, v.ownBlock ≠ some k) : PendAt w' v l := by
  refine ⟨h.1, ?_⟩
  rcases h.2 with hn | ⟨g, cap, cur, rfl, hb, hgg, rest⟩
  · exact .inl hn
  · exact .inr ⟨g, cap, cur, rfl, hb, hk.get hgg (fun hm => hF g hm rfl), rest⟩
theorem PendAt.cases {w : World} {v : Value} {l : List (Int × List UInt8)} (h : PendAt w v l) (hl : ∀ p ∈ l, p.2.length = 512) :
    (v = .slice none 0 0 ∧ l = []) ∨ ∃ g cap cur, v = .slice (some ⟨g, 0, none⟩) l.length cap ∧ w.heap[g]? = some (.cells cur 98 (0, 0)) ∧ l.length ≤ cap ∧ l.length * 513 ≤ cur.size ∧
      ∀ i, i < l.length → cur.extract (i * 513) (i * 513 + 513) = (writeCells (l.getD i (0, []))).toArray ∧ cur.extract (i * 513 + 1) (i * 513 + 1 + 512) = cellsOf (l.getD i (0, [])).2 := by
  rcases h.2 with ⟨h1, h2⟩ | ⟨g, cap, cur, hv, hb, hgg, hn, hc, hs, ht⟩
  · exact .inl ⟨h1, List.eq_nil_of_length_eq_zero h2⟩
  · refine .inr ⟨g, cap, cur, hv, hgg, hn, by rw [hs]; exact Nat.mul_le_mul_right _ hn, fun i hi => ?_⟩
    have h0 := pendCells_at l hl i hi
    rw [← ht] at h0
    have hle : i * 513 + 513 ≤ l.length * 513 := by omega
    have h1 : (cur.toList.drop (i * 513)).take 513 = writeCells (l.getD i (0, [])) := by
      rw [← h0, List.drop_take, List.take_take, Nat.min_eq_left (by omega)]
    have e1 : cur.extract (i * 513) (i * 513 + 513) = (writeCells (l.getD i (0, []))).toArray := by
      apply Array.ext'
      rw [Array.toList_extract, List.extract_eq_take_drop, ← h1]
      simp
    refine ⟨e1, ?_⟩
    apply Array.ext'
    rw [Array.toList_extract, List.extract_eq_take_drop]
    have h2 := congrArg (fun l => l.drop 1) h1
    simp only [List.drop_take, List.drop_drop] at h2
    rw [show i * 513 + 1 + 512 - (i * 513 + 1) = 513 - 1 by omega, h2]
    simp [writeCells, cellsOf]

/-- a device in memory; F names the blocks that it owns -/
def DiskAt (w : World) (p : Nat) (d : DK) (F : List Nat) : Prop := ∃ m1 m2 v f1,
  w.heap[p]? = some (.cells #[.int .i64 d.blocks, .int .i64 d.ops, .map (some m1), v, .map (some m2), .bool d.limited, .bool d.down, .int .i64 d.limit] 85 (0, 0)) ∧
  MapAt w m1 f1 ∧ (∀ k, (f1 k).getD (.agg (zerosOf .u8 512)) = .agg (cellsOf (d.dur k))) ∧
  MapAt w m2 (fun k => (lastIx d.pend k).map fun i => .int .i64 (i : Nat)) ∧ PendAt w v d.pend ∧ m1 ≠ m2 ∧
  p ∈ F ∧ m1 ∈ F ∧ m2 ∈ F ∧ (∀ k, v.ownBlock = some k → k ∈ F) ∧ d.ok
theorem PendAt.len {w : World} {v : Value} {l : List (Int × List UInt8)} (h : PendAt w v l) : l.length ≤ 9223372036854775807 := by
  rcases h.2 with ⟨h1, h2⟩ | ⟨g, cap, cur, hv, hb, hgg, hn, hc, hs, ht⟩
  · omega
  · unfold maxLen at hc; omega
theorem DiskAt.keep {F G : List Nat} {w w' : World} {p : Nat} {d : DK} (h : DiskAt w p d F) (hk : Keep G w w') (hd : ∀ x ∈ F, x ∉ G) : DiskAt w' p d F := by
  obtain ⟨m1, m2, v, f1, hp, h1, h2, h3, h4, h5, i1, i2, i3, i4, ok⟩ := h
  exact ⟨m1, m2, v, f1, hk.get hp (hd _ i1), h1.keep hk (hd _ i2), h2, h3.keep hk (hd _ i3), h4.keep hk (fun k hkG e => hd k (i4 k e) hkG), h5, i1, i2, i3, i4, ok⟩
theorem DiskAt.mono {F G : List Nat} {w : World} {p : Nat} {d : DK} (h : DiskAt w p d F) (hF : ∀ x ∈ F, x ∈ G) : DiskAt w p d G := by
  obtain ⟨m1, m2, v, f1, hp, h1, h2, h3, h4, h5, i1, i2, i3, i4, ok⟩ := h
  exact ⟨m1, m2, v, f1, hp, h1, h2, h3, h4, h5, hF _ i1, hF _ i2, hF _ i3, fun k e => hF _ (i4 k e), ok⟩
theorem DiskAt.okd {F : List Nat} {w : World} {p : Nat} {d : DK} (h : DiskAt w p d F) : d.ok := by
  obtain ⟨m1, m2, v, f1, hp, h1, h2, h3, h4, h5, i1, i2, i3, i4, ok⟩ := h
  exact ok
theorem DiskAt.row {F : List Nat} {w : World} {p : Nat} {d : DK} (h : DiskAt w p d F) : ∃ m1 v m2, w.heap[p]? = some (.cells #[.int .i64 d.blocks, .int .i64 d.ops, .map (some m1), v, .map (some m2), .bool d.limited, .bool d.down, .int .i64 d.limit] 85 (0, 0)) := by
  obtain ⟨m1, m2, v, f1, hp, _⟩ := h
  exact ⟨m1, v, m2, hp⟩

set_option maxHeartbeats 400000 in
theorem blocks_any {F : List Nat} {w : World} {p : Nat} {d : DK} (h : DiskAt w p d F) : Calls Tryd.prog 52 #[.pointer (some ⟨p, 0, none⟩)] w fun e w' => e = .returned (.int .i64 d.blocks) ∧ w' = w := by
  obtain ⟨m1, v, m2, hp⟩ := h.row
  have hc := cell_row' (j := 0) hp
  go_enter Tryd.func52, Tryd.ntmps52
  go_wp2
  go_ret
  exact ⟨rfl, rfl⟩
set_option maxHeartbeats 400000 in
theorem down_any {F : List Nat} {w : World} {p : Nat} {d : DK} (h : DiskAt w p d F) : Calls Tryd.prog 53 #[.pointer (some ⟨p, 0, none⟩)] w fun e w' => e = .returned (.bool d.down) ∧ w' = w := by
  obtain ⟨m1, v, m2, hp⟩ := h.row
  have hc := cell_row' (j := 6) hp
  go_enter Tryd.func53, Tryd.ntmps53
  go_wp2
  go_ret
  exact ⟨rfl, rfl⟩
def DK.has (d : DK) (b : Int) : Bool := decide (0 ≤ b ∧ b < d.blocks)
set_option maxHeartbeats 400000 in
theorem has_any {F : List Nat} {w : World} {p : Nat} {d : DK} (h : DiskAt w p d F) (b : Int) : Calls Tryd.prog 56 #[.pointer (some ⟨p, 0, none⟩), .int .i64 b] w fun e w' => e = .returned (.bool (d.has b)) ∧ w' = w := by
  obtain ⟨m1, v, m2, hp⟩ := h.row
  have hc := cell_row' (j := 0) hp
  by_cases h0 : 0 ≤ b
  · go_enter Tryd.func56, Tryd.ntmps56
    go_wp2
    go_ret
    exact ⟨by simp [DK.has, h0]; try omega, rfl⟩
  · have h0' : decide (0 ≤ b) = false := by simp; omega
    go_enter Tryd.func56, Tryd.ntmps56
    go_wp2
    go_ret
    exact ⟨by unfold DK.has; rw [decide_eq_false (by omega)]; rfl, rfl⟩

/-- an operation begins: the error, the device -/
def DK.begin (d : DK) : Int × DK :=
  if d.limited = true ∧ d.limit = 0 then (29, { d with down := true })
  else (0, { d with limit := if d.limited then wrap64 (d.limit - 1) else d.limit, ops := wrap64 (d.ops + 1) })
/-- the plain fields turned, the rest as it was -/
theorem DiskAt.turn {F : List Nat} {w w' : World} {p : Nat} {d d' : DK} (h : DiskAt w p d F) (hk : Keep [p] w w') (hd : d'.dur = d.dur) (he : d'.pend = d.pend)
    (hr : ∀ m1 v m2, w.heap[p]? = some (.cells #[.int .i64 d.blocks, .int .i64 d.ops, .map (some m1), v, .map (some m2), .bool d.limited, .bool d.down, .int .i64 d.limit] 85 (0, 0)) →
      w'.heap[p]? = some (.cells #[.int .i64 d'.blocks, .int .i64 d'.ops, .map (some m1), v, .map (some m2), .bool d'.limited, .bool d'.down, .int .i64 d'.limit] 85 (0, 0))) : DiskAt w' p d' F := by
  obtain ⟨m1, m2, v, f1, hp, h1, h2, h3, h4, h5, i1, i2, i3, i4, ok⟩ := h
  have n1 : m1 ∉ [p] := fun e => by
    obtain ⟨es, c, hm, _⟩ := h1
    have e' := List.mem_singleton.1 e
    subst e'
    rw [hp] at hm; cases hm
  have n2 : m2 ∉ [p] := fun e => by
    obtain ⟨es, c, hm, _⟩ := h3
    have e' := List.mem_singleton.1 e
    subst e'
    rw [hp] at hm; cases hm
  have h4' : PendAt w' v d.pend := h4.keep hk (fun k hkp e => by
    have hkp' := List.mem_singleton.1 hkp
    subst hkp'
    rcases h4.cases ok.pend with ⟨rfl, _⟩ | ⟨g, cap, cur, rfl, hg, _⟩
    · cases e
    · injection e with e
      simp only at e
      subst e
      rw [hp] at hg
      injection hg with hg
      injection hg with _ ht
      revert ht
      decide)
  exact ⟨m1, m2, v, f1, hr _ _ _ hp, h1.keep hk n1, by rw [hd]; exact h2, by rw [he]; exact h3.keep hk n2, by rw [he]; exact h4', h5, i1, i2, i3, i4, ⟨by rw [hd]; exact ok.dur, by rw [he]; exact ok.pend⟩⟩

set_option maxHeartbeats 1000000 in
theorem begin_any {F : List Nat} {w : World} {p : Nat} {d : DK} (h : DiskAt w p d F) : Calls Tryd.prog 57 #[.pointer (some ⟨p, 0, none⟩)] w fun e w' => e = .returned (.int .i64 d.begin.1) ∧ DiskAt w' p d.begin.2 F ∧ Keep [p] w w' := by
  obtain ⟨m1, v, m2, hp⟩ := h.row
  have hc5 := cell_row' (j := 5) hp
  have hc7 := cell_row' (j := 7) hp
  have hc1 := cell_row' (j := 1) hp
  have hc6 := cell_row' (j := 6) hp
  have hf6 := frozen_row' (j := 6) hp
  have hf7 := frozen_row' (j := 7) hp
  have hf1 := frozen_row' (j := 1) hp
  cases hl : d.limited with
  | true =>
    rw [hl] at hc5
    by_cases h0 : d.limit = 0
    · have hr : Hid (d.begin = (29, { d with down := true })) := Lib.hid (by unfold DK.begin; rw [if_pos ⟨hl, h0⟩])
      rw [h0] at hc7
      go_enter Tryd.func57, Tryd.ntmps57
      go_wp2
      go_ret
      have hk : Keep [p] w (w.setCell ⟨p, 6, none⟩ (.bool true)) := (Keep.refl _ _).setCell (by simp) _
      refine ⟨by rw [hr.out]; rfl, by rw [hr.out]; exact h.turn hk rfl rfl (fun m1 v m2 hp => heap_setCell_same w p 6 _ _ (.bool true) hp), hk⟩
    · have hr : Hid (d.begin = (0, { d with limit := wrap64 (d.limit - 1), ops := wrap64 (d.ops + 1) })) := Lib.hid (by unfold DK.begin; rw [if_neg (fun e => h0 e.2), hl]; rfl)
      have h0' : (d.limit == 0) = false := by simpa using h0
      go_enter Tryd.func57, Tryd.ntmps57
      go_wp2
      go_ret
      have hk : Keep [p] w ((w.setCell ⟨p, 7, none⟩ (.int .i64 (wrap64 (d.limit - 1)))).setCell ⟨p, 1, none⟩ (.int .i64 (wrap64 (d.ops + 1)))) := ((Keep.refl _ _).setCell (by simp) _).setCell (by simp) _
      refine ⟨by rw [hr.out]; rfl, by rw [hr.out]; exact h.turn hk rfl rfl (fun m1 v m2 hp => heap_setCell_same _ p 1 _ _ _ (heap_setCell_same w p 7 _ _ _ hp)), hk⟩
  | false =>
    rw [hl] at hc5
    have hr : Hid (d.begin = (0, { d with ops := wrap64 (d.ops + 1) })) := Lib.hid (by unfold DK.begin; rw [if_neg (fun e => by rw [hl] at e; cases e.1), hl]; rfl)
    go_enter Tryd.func57, Tryd.ntmps57
    go_wp2
    go_ret
    have hk : Keep [p] w (w.setCell ⟨p, 1, none⟩ (.int .i64 (wrap64 (d.ops + 1)))) := (Keep.refl _ _).setCell (by simp) _
    refine ⟨by rw [hr.out]; rfl, by rw [hr.out]; exact h.turn hk rfl rfl (fun m1 v m2 hp => heap_setCell_same w p 1 _ _ _ hp), hk⟩
end

section
/- The device: visible, Read, set, forget, Flush. -/
open Go.RowKit

attribute [local go_sem ↓] exec_load_content exec_store_content exec_alloc_content exec_box_content

theorem zv_content (w : World) : (zeroValue 96).run Tryd.prog w = .ok (.agg (zerosOf .u8 512)) w := by
  have h := info_content
  cases hi : Tryd.prog.info? 96 with
  | none => rw [hi] at h; cases h
  | some i =>
    rw [hi] at h
    simp only [Option.map_some, Option.some.injEq, Prod.mk.injEq] at h
    simp [zeroValue, typeInfo, hi, h.2]
theorem zv_int (w : World) : (zeroValue 3).run Tryd.prog w = .ok (.int .i64 0) w := by
  have h : (Tryd.prog.info? 3).map (fun i => i.zero) = some (some (.int .i64 0)) := by kernel_rfl
  cases hi : Tryd.prog.info? 3 with
  | none => rw [hi] at h; cases h
  | some i =>
    rw [hi] at h
    simp only [Option.map_some, Option.some.injEq] at h
    simp [zeroValue, typeInfo, hi, h]

theorem bytesOne (l : List UInt8) : ∀ v ∈ (cellsOf l).toList, v.oneCell' = true := fun v hv => by
  simp [cellsOf] at hv
  obtain ⟨x, _, rfl⟩ := hv
  rfl
set_option maxRecDepth 100000 in
set_option maxHeartbeats 1000000 in
theorem visible_any {F : List Nat} {w : World} {p : Nat} {d : DK} (h : DiskAt w p d F) (b : Int) :
    Calls Tryd.prog 78 #[.pointer (some ⟨p, 0, none⟩), .int .i64 b] w fun e w' => e = .returned (.agg (cellsOf (d.vis b))) ∧ Keep [] w w' := by
  have hk0 : Keep [] w (w.alloc (.cells (zerosOf .u8 512) 96)) := (Keep.refl _ _).alloc _
  obtain ⟨m1, m2, v, f1, hp, h1, h2, h3, h4, h5, i1, i2, i3, i4, ok⟩ := h.keep hk0 (by simp)
  have hc2 := cell_row' (j := 2) hp
  have hc3 := cell_row' (j := 3) hp
  have hc4 := cell_row' (j := 4) hp
  have hz : objAt (w.alloc (.cells (zerosOf .u8 512) 96)) w.heap.size = some (.cells (zerosOf .u8 512) 96 (0, 0)) := heap_alloc_new w _
  have H1 := Lib.hid h1
  have H3 := Lib.hid h3
  clear h1 h3
  cases hl : lastIx d.pend b with
  | none =>
    have hv : Hid (d.vis b = d.dur b) := Lib.hid (by unfold DK.vis; rw [hl])
    go_enter Tryd.func78, Tryd.ntmps78
    go_wp2_with (first
      | (refine wpList_lookupI rfl 82 (.tmp 11) (.tmp 12) true rfl 3 3 m2 _ b (.int .i64 0) Tryd.underlying82 Tryd.underlying3 (zv_int _) H3.out rfl rfl ?_; simp only [hl, Option.map_none, Option.getD_none, Option.isSome_none, if_true])
      | (refine wpList_lookupI rfl 81 (.tmp 28) (.tmp 29) false rfl 3 96 m1 _ b (.agg (zerosOf .u8 512)) Tryd.underlying81 Tryd.underlying3 (zv_content _) H1.out rfl rfl ?_; simp only [h2, if_false, Bool.false_eq_true])
      | (refine wpList_store_part rfl rfl 96 (.tmp 4) (.tmp 30) rfl w.heap.size 0 rfl (cellsOf (d.dur b)) rfl 96 _ hz (by rw [cellsOf_size, ok.dur]; exact size_content) (by rw [cellsOf_size, ok.dur]; simp) (bytesOne _) ?_; intro w2 hk2 hh2; rw [over_full _ _ (by rw [Array.length_toList, cellsOf_size, ok.dur]; simp)] at hh2))
    have hkk : Keep [] w w2 := hk0.trans hk2 (by simp)
    exact bodyPost_ret (results_cell_row rfl _ _ w.heap.size _ _ _ _ rfl hh2 Tryd.underlying96 rfl (by rw [Array.toArray_toList, cellsOf_size, ok.dur]; exact size_content)) rfl ⟨by rw [hv.out, Array.toArray_toList], hkk⟩
  | some i =>
    obtain ⟨hil, hib⟩ := lastIx_lt hl
    have hv : Hid (d.vis b = (d.pend.getD i (0, [])).2) := Lib.hid (by unfold DK.vis; rw [hl])
    have hlen : (d.pend.getD i (0, [])).2.length = 512 := by have := ok.vis b; rw [hv.out] at this; exact this
    rcases h4.cases ok.pend with ⟨rfl, he⟩ | ⟨g, cap, cur, rfl, hg, hnc, hcs, hx⟩
    · rw [he] at hil; simp at hil
    · have hext := (hx i hil).2
      generalize (d.pend.getD i (0, [])).2 = c at hext hv hlen
      have hgo : objAt (w.alloc (.cells (zerosOf .u8 512) 96)) g = some (.cells cur 98 (0, 0)) := hg
      have hfit : i * 513 + 1 + 512 ≤ cur.size := by have : i * 513 + 513 ≤ d.pend.length * 513 := by omega
                                                     omega
      clear hx hg
      have hi3 : ((i : Nat) : Int) < d.pend.length := by omega
      go_enter Tryd.func78, Tryd.ntmps78
      go_wp2_with (first
        | (refine wpList_lookupI rfl 82 (.tmp 11) (.tmp 12) true rfl 3 3 m2 _ b (.int .i64 0) Tryd.underlying82 Tryd.underlying3 (zv_int _) H3.out rfl rfl ?_; simp only [hl, Option.map_some, Option.getD_some, Option.isSome_some, if_true])
        | (refine wpList_store_part rfl rfl 96 (.tmp 4) (.tmp 24) rfl w.heap.size 0 rfl (cellsOf c) rfl 96 _ hz (by rw [cellsOf_size, hlen]; exact size_content) (by rw [cellsOf_size, hlen]; simp) (bytesOne _) ?_; intro w2 hk2 hh2; rw [over_full _ _ (by rw [Array.length_toList, cellsOf_size, hlen]; simp)] at hh2))
      have hkk : Keep [] w w2 := hk0.trans hk2 (by simp)
      exact bodyPost_ret (results_cell_row rfl _ _ w.heap.size _ _ _ _ rfl hh2 Tryd.underlying96 rfl (by rw [Array.toArray_toList, cellsOf_size, hlen]; exact size_content)) rfl ⟨by rw [hv.out, Array.toArray_toList], hkk⟩

theorem Buf.base {e : TypeId} {w : World} {b b' : Nat} {v : Value} {l : List UInt8} (h : Buf e w b v l) (hb : b' ≤ b) : Buf e w b' v l := by
  refine ⟨h.1, ?_⟩
  rcases h.2 with hn | ⟨g, cap, cur, hv, hbg, rest⟩
  · exact .inl hn
  · exact .inr ⟨g, cap, cur, hv, Nat.le_trans hb hbg, rest⟩
theorem Reads.row {w : World} {g : Nat} {l : List UInt8} {t : TypeId} {fr : Nat × Nat} (h : w.heap[g]? = some (.cells (cellsOf l) t fr)) : Reads w (.slice (some ⟨g, 0, none⟩) l.length l.length) l :=
  .at g 0 _ l (Nat.le_refl _) (fun i hi => by rw [Nat.zero_add, cell_of_row w g i _ _ _ h, cellsOf_get' l i hi]; simp [List.getD_eq_getElem?_getD, hi])
set_option maxRecDepth 100000 in
set_option maxHeartbeats 1000000 in
theorem dread_ok {F : List Nat} {w : World} {p : Nat} {d : DK} (h : DiskAt w p d F) (b : Int) (hd : d.down = false) (hb : d.has b = true) :
    Calls Tryd.prog 68 #[.pointer (some ⟨p, 0, none⟩), .int .i64 b] w fun e w' => ∃ v, e = .returned (.tuple #[v, .int .i64 0]) ∧ Buf 5 w' w.heap.size v (d.vis b) ∧ Keep [] w w' := by
  obtain ⟨m1, v, m2, hp⟩ := h.row
  have hc6 := cell_row' (j := 6) hp
  rw [hd] at hc6
  have hvl := h.okd.vis b
  go_enter Tryd.func68, Tryd.ntmps68
  go_wp2_with (first
    | (go_at_call 56; refine (has_any h b).mono ?_; rw [hb]; rintro e w0 ⟨rfl, rfl⟩)
    | (go_at_call 78; refine (visible_any h b).mono ?_; rintro e w1 ⟨rfl, hk1⟩
       have hz : objAt (w1.alloc (.cells (zerosOf .u8 512) 96)) w1.heap.size = some (.cells (zerosOf .u8 512) 96 (0, 0)) := heap_alloc_new w1 _)
    | (refine wpList_store_part rfl rfl 96 (.tmp 6) (.tmp 22) rfl w1.heap.size 0 rfl (cellsOf (d.vis b)) rfl 96 _ hz (by rw [cellsOf_size, hvl]; exact size_content) (by rw [cellsOf_size, hvl]; simp) (bytesOne _) ?_; intro w2 hk2 hh2; rw [over_full _ _ (by rw [Array.length_toList, cellsOf_size, hvl]; simp), Array.toArray_toList] at hh2; have HR := Lib.hid (Reads.row hh2); rw [hvl] at HR)
    | (go_at_call 74; refine (cloneb_any _ (d.vis b) w2 HR.out (by rw [hvl]; omega)).mono ?_; rintro e w3 ⟨v3, rfl, hB3, hk3⟩))
  have hk02 : Keep [] w0 w2 := (hk1.alloc _).trans hk2 (by simp; exact hk1.size)
  go_ret2
  refine ⟨_, rfl, ?_, hk02.then hk3⟩
  have hs := hk02.size
  exact hB3.base hs

/-- a device, its blocks named -/
structure DiskIs (w : World) (p : Nat) (d : DK) (m1 : Nat) (v : Value) (m2 : Nat) : Prop where
  row : w.heap[p]? = some (.cells #[.int .i64 d.blocks, .int .i64 d.ops, .map (some m1), v, .map (some m2), .bool d.limited, .bool d.down, .int .i64 d.limit] 85 (0, 0))
  dur : ∃ f1, MapAt w m1 f1 ∧ ∀ k, (f1 k).getD (.agg (zerosOf .u8 512)) = .agg (cellsOf (d.dur k))
  last : MapAt w m2 (fun k => (lastIx d.pend k).map fun i => .int .i64 (i : Nat))
  pend : PendAt w v d.pend
  ne : m1 ≠ m2
  ok : d.ok
theorem DiskAt.is {F : List Nat} {w : World} {p : Nat} {d : DK} (h : DiskAt w p d F) : ∃ m1 v m2, DiskIs w p d m1 v m2 ∧ p ∈ F ∧ m1 ∈ F ∧ m2 ∈ F ∧ ∀ k, v.ownBlock = some k → k ∈ F := by
  obtain ⟨m1, m2, v, f1, hp, h1, h2, h3, h4, h5, i1, i2, i3, i4, ok⟩ := h
  exact ⟨m1, v, m2, ⟨hp, ⟨f1, h1, h2⟩, h3, h4, h5, ok⟩, i1, i2, i3, i4⟩
theorem DiskIs.at {F : List Nat} {w : World} {p : Nat} {d : DK} {m1 : Nat} {v : Value} {m2 : Nat} (h : DiskIs w p d m1 v m2) (i1 : p ∈ F) (i2 : m1 ∈ F) (i3 : m2 ∈ F) (i4 : ∀ k, v.ownBlock = some k → k ∈ F) : DiskAt w p d F := by
  obtain ⟨hp, ⟨f1, h1, h2⟩, h3, h4, h5, ok⟩ := h
  exact ⟨m1, m2, v, f1, hp, h1, h2, h3, h4, h5, i1, i2, i3, i4, ok⟩
theorem DiskIs.p1 {w : World} {p : Nat} {d : DK} {m1 : Nat} {v : Value} {m2 : Nat} (h : DiskIs w p d m1 v m2) : m1 ≠ p := fun e => by
  obtain ⟨f1, ⟨es, c, hm, _⟩, _⟩ := h.dur
  subst e
  rw [h.row] at hm; cases hm
theorem DiskIs.p2 {w : World} {p : Nat} {d : DK} {m1 : Nat} {v : Value} {m2 : Nat} (h : DiskIs w p d m1 v m2) : m2 ≠ p := fun e => by
  obtain ⟨es, c, hm, _⟩ := h.last
  subst e
  rw [h.row] at hm; cases hm
theorem DiskIs.pv {w : World} {p : Nat} {d : DK} {m1 : Nat} {v : Value} {m2 : Nat} (h : DiskIs w p d m1 v m2) : v.ownBlock ≠ some p ∧ v.ownBlock ≠ some m1 ∧ v.ownBlock ≠ some m2 := by
  rcases h.pend.cases h.ok.pend with ⟨rfl, _⟩ | ⟨g, cap, cur, rfl, hg, _⟩
  · simp [Value.ownBlock]
  · simp only [Value.ownBlock, ne_eq, Option.some.injEq]
    refine ⟨fun e => ?_, fun e => ?_, fun e => ?_⟩
    · subst e
      rw [h.row] at hg
      injection hg with hg
      injection hg with _ ht
      revert ht
      decide
    · subst e
      obtain ⟨f1, ⟨es, c, hm, _⟩, _⟩ := h.dur
      rw [hm] at hg; cases hg
    · subst e
      obtain ⟨es, c, hm, _⟩ := h.last
      rw [hm] at hg; cases hg
theorem DiskIs.keep {G : List Nat} {w w' : World} {p : Nat} {d : DK} {m1 : Nat} {v : Value} {m2 : Nat} (h : DiskIs w p d m1 v m2) (hk : Keep G w w') (i1 : p ∉ G) (i2 : m1 ∉ G) (i3 : m2 ∉ G) (i4 : ∀ k ∈ G, v.ownBlock ≠ some k) : DiskIs w' p d m1 v m2 := by
  obtain ⟨hp, ⟨f1, h1, h2⟩, h3, h4, h5, ok⟩ := h
  exact ⟨hk.get hp i1, ⟨f1, h1.keep hk i2, h2⟩, h3.keep hk i3, h4.keep hk i4, h5, ok⟩
theorem DiskIs.keep0 {w w' : World} {p : Nat} {d : DK} {m1 : Nat} {v : Value} {m2 : Nat} (h : DiskIs w p d m1 v m2) (hk : Keep [] w w') : DiskIs w' p d m1 v m2 := h.keep hk (by simp) (by simp) (by simp) (by simp)

def setDur (f : Int → List UInt8) (k : Int) (c : List UInt8) : Int → List UInt8 := fun j => if j = k then c else f j
theorem zcells_content : Tryd.zeroCells96 = cellsOf zero512 := by kernel_rfl
theorem zeros_cells : zerosOf .u8 512 = cellsOf zero512 := by unfold zerosOf cellsOf zero512; rw [List.map_replicate]; rfl
/-- the map of the durable contents turned -/
theorem DiskIs.turn1 {w w' : World} {p : Nat} {d : DK} {m1 : Nat} {v : Value} {m2 : Nat} (h : DiskIs w p d m1 v m2) (hk : Keep [m1] w w') (f1 : Int → Option Value) (hm : MapAt w' m1 f1) (k : Int) (c : List UInt8) (hc : c.length = 512)
    (hf : ∀ j, (f1 j).getD (.agg (zerosOf .u8 512)) = .agg (cellsOf (setDur d.dur k c j))) : DiskIs w' p { d with dur := setDur d.dur k c } m1 v m2 := by
  have q1 := h.p1
  have q2 := h.pv
  obtain ⟨hp, _, h3, h4, h5, ok⟩ := h
  refine ⟨hk.get hp (by simpa using fun e => q1 e.symm), ⟨f1, hm, hf⟩, h3.keep hk (by simpa using fun e => h5 e.symm), h4.keep hk (by simpa using q2.2.1), h5, ⟨fun b => ?_, ok.pend⟩⟩
  show (setDur d.dur k c b).length = 512
  unfold setDur
  split
  · exact hc
  · exact ok.dur b

set_option maxRecDepth 100000 in
set_option maxHeartbeats 1000000 in
theorem set_any {w : World} {p : Nat} {d : DK} {m1 : Nat} {v : Value} {m2 : Nat} (h : DiskIs w p d m1 v m2) (k : Int) (c : List UInt8) (hc : c.length = 512) :
    Calls Tryd.prog 50 #[.pointer (some ⟨p, 0, none⟩), .int .i64 k, .agg (cellsOf c)] w fun e w' => e = .returned (.tuple #[]) ∧ DiskIs w' p { d with dur := setDur d.dur k c } m1 v m2 ∧ Keep [m1] w w' := by
  have hk0 : Keep [] w (w.alloc (.cells (cellsOf c) 96)) := (Keep.refl _ _).alloc _
  have h' := h.keep0 hk0
  obtain ⟨f1, H1, H2⟩ := h'.dur
  have hc2 := cell_row' (j := 2) h'.row
  have hz : objAt (w.alloc (.cells (cellsOf c) 96)) w.heap.size = some (.cells (cellsOf c) 96 (0, 0)) := heap_alloc_new w _
  have hsz : (cellsOf c).size = 512 := by rw [cellsOf_size, hc]
  have hex : (cellsOf c).extract 0 512 = cellsOf c := by rw [← hsz]; simp
  have hb := run_equalIn_bytes (P := Tryd.prog) Tryd.underlying96 (info_parts info_u8).choose_spec.1 Tryd.underlying5 (by kernel_rfl) (by kernel_rfl) (w.alloc (.cells (cellsOf c) 96)) c zero512 hc (by simp [zero512])
  rw [← zcells_content] at hb
  by_cases hzero : c = zero512
  · rw [decide_eq_true hzero] at hb
    have HZ := Lib.hid hzero
    clear hzero
    go_enter Tryd.func50, Tryd.ntmps50
    go_wp2_with (first
      | (refine wpList_deleteI rfl 81 3 (.tmp 12) (.tmp 13) rfl 3 96 m1 f1 k Tryd.underlying81 Tryd.underlying3 H1 rfl rfl ?_; intro w2 hm2 hk2))
    refine bodyPost_ret (results_none rfl _ _ _) rfl ⟨rfl, h'.turn1 hk2 _ hm2 k c hc (fun j => ?_), (hk0.mono (F' := [m1]) (by simp)).trans hk2 (by simp)⟩
    unfold setDur
    split
    · rw [HZ.out, Option.getD_none, zeros_cells]
    · exact H2 j
  · rw [decide_eq_false hzero] at hb
    clear hzero
    go_enter Tryd.func50, Tryd.ntmps50
    go_wp2
    generalize w.alloc (.cells (cellsOf c) 96) = W at *
    go_still_tail 6, (by kernel_rfl)
    change wpList _ _ _ _ _ W.drew
    have hm1 : MapAt W.drew m1 f1 := H1
    go_wp2_with (first
      | (refine wpList_mapUpdateI rfl rfl 81 (.tmp 17) (.tmp 18) (.tmp 19) rfl 3 96 m1 f1 k Tryd.underlying81 Tryd.underlying3 hm1 rfl rfl ?_; intro w2 hm2 hk2))
    go_end0
    have h'' : DiskIs W.drew p d m1 v m2 := ⟨h'.row, h'.dur, h'.last, h'.pend, h'.ne, h'.ok⟩
    refine ⟨rfl, h''.turn1 hk2 _ hm2 k c hc (fun j => ?_), ((hk0.drew).mono (F' := [m1]) (by simp)).trans hk2 (by simp)⟩
    unfold setDur
    split
    · rfl
    · exact H2 j

/-- the pending writes forgotten -/
def DK.forget (d : DK) : DK := { d with pend := [] }
set_option maxRecDepth 100000 in
set_option maxHeartbeats 1000000 in
theorem forget_any {w : World} {p : Nat} {d : DK} {m1 : Nat} {v : Value} {m2 : Nat} (h : DiskIs w p d m1 v m2) :
    Calls Tryd.prog 51 #[.pointer (some ⟨p, 0, none⟩)] w fun e w' => e = .returned (.tuple #[]) ∧ DiskIs w' p d.forget m1 (.slice none 0 0) m2 ∧ Keep [p, m2] w w' := by
  have hc3 := cell_row' (j := 3) h.row
  have hf3 := frozen_row' (j := 3) h.row
  have hc4 := cell_row' (j := 4) h.row
  have q1 := h.p1
  have q2 := h.p2
  have hk1 : Keep [p] w (w.setCell ⟨p, 3, none⟩ (.slice none 0 0)) := (Keep.refl _ _).setCell (by simp) _
  have hl : MapAt (w.setCell ⟨p, 3, none⟩ (.slice none 0 0)) m2 _ := h.last.keep hk1 (by simpa using q2)
  have hr := heap_setCell_same w p 3 _ _ (.slice none 0 0) h.row
  have hc4' := cell_row' (j := 4) hr
  go_enter Tryd.func51, Tryd.ntmps51
  go_wp2_with (refine wpList_clearI rfl 82 (.tmp 8) rfl 3 3 m2 _ Tryd.underlying82 hl rfl ?_; intro w2 hm2 hk2)
  go_end0
  have hrow := hk2.get hr (by simpa using fun e => q2 e.symm)
  have hkk : Keep [p, m2] w w2 := (hk1.mono (F' := [p, m2]) (by simp)).trans hk2 (by simp)
  obtain ⟨f1, hm1, hf1⟩ := h.dur
  refine ⟨rfl, ⟨hrow, ⟨f1, hm1.keep hkk (by simpa using ⟨q1, h.ne⟩), hf1⟩, hm2, ?_, h.ne, ⟨h.ok.dur, by simp [DK.forget]⟩⟩, hkk⟩
  exact ⟨rfl, .inl ⟨rfl, rfl⟩⟩
end
end Go.Proofs.YtgopdbpddemplaaDoor
