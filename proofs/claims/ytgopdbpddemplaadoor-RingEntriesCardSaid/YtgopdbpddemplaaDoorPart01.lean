/- What a call leaves of memory, block by block; rows of bytes; loads and stores of whole arrays. Nothing of the program is named here. · SHA-256 in the words in which the walk computes it: the schedule, the rounds, the compression of a block, padding, the digest. · sha256.right, sha256.compress. -/
import Derived.WalkKit
import Derived.WalkSpells
import Derived.WalkLawsBesides
import Derived.Lib.Hide
import Derived.Laws.CopyOwn
import Derived.Deep.Draws
import Derived.Test.YtgopdbpddemplaaDoorRows
import Derived.StillTailTactics
import Derived.Deep.QuietTactic
import Derived.BigQuiet
set_option linter.unusedSimpArgs false
set_option linter.unusedVariables false
namespace Go.Proofs.YtgopdbpddemplaaDoor
section
/- What a call leaves of memory, block by block; rows of bytes; loads and stores of whole arrays. Nothing of the program is named here. -/
open Go.RowKit

/-- Only the blocks of F may have turned, and new ones come. -/
structure Keep (F : List Nat) (w w' : World) : Prop where
  os : w'.os = w.os
  tape : w'.tape = w.tape
  output : w'.output = w.output
  size : w.heap.size ≤ w'.heap.size
  heap : ∀ k, k < w.heap.size → k ∉ F → w'.heap[k]? = w.heap[k]?

theorem Keep.refl (F : List Nat) (w : World) : Keep F w w := ⟨rfl, rfl, rfl, Nat.le_refl _, fun _ _ _ => rfl⟩

theorem lt_of_heap {w : World} {k : Nat} {o : Obj} (h : w.heap[k]? = some o) : k < w.heap.size := (Array.getElem?_eq_some_iff.1 h).1

theorem Keep.trans {F F' : List Nat} {a b c : World} (h : Keep F a b) (k : Keep F' b c) (hF : ∀ x ∈ F', x ∈ F ∨ a.heap.size ≤ x) : Keep F a c :=
  ⟨k.os.trans h.os, k.tape.trans h.tape, k.output.trans h.output, Nat.le_trans h.size k.size, fun i hi hn =>
    (k.heap i (Nat.lt_of_lt_of_le hi h.size) (fun hx => by rcases hF i hx with h1 | h1; exact hn h1; omega)).trans (h.heap i hi hn)⟩

theorem Keep.mono {F F' : List Nat} {a b : World} (h : Keep F a b) (hF : ∀ x ∈ F, x ∈ F' ∨ a.heap.size ≤ x) : Keep F' a b :=
  ⟨h.os, h.tape, h.output, h.size, fun i hi hn => h.heap i hi (fun hx => by rcases hF i hx with h1 | h1; exact hn h1; omega)⟩

/-- Behind a call that turns nothing. -/
theorem Keep.then {F : List Nat} {a b c : World} (h : Keep F a b) (k : Keep [] b c) : Keep F a c := h.trans k (by simp)

theorem Keep.get {F : List Nat} {w w' : World} (h : Keep F w w') {k : Nat} {o : Obj} (hk : w.heap[k]? = some o) (hn : k ∉ F) : w'.heap[k]? = some o :=
  (h.heap k (lt_of_heap hk) hn).trans hk

theorem Keep.drew {F : List Nat} {a w : World} (h : Keep F a w) : Keep F a w.drew := ⟨h.os, h.tape, h.output, h.size, h.heap⟩
theorem Keep.drewN {F : List Nat} {a w : World} (h : Keep F a w) (n : Nat) : Keep F a (w.drewN n) := ⟨h.os, h.tape, h.output, h.size, h.heap⟩

theorem Keep.alloc {F : List Nat} {a w : World} (h : Keep F a w) (o : Obj) : Keep F a (w.alloc o) :=
  h.then ⟨rfl, rfl, rfl, by simp, fun k hk _ => Below.heap_alloc _ _ _ hk⟩

theorem Keep.setCell {F : List Nat} {a w : World} (h : Keep F a w) {p : Addr} (hp : p.block ∈ F ∨ a.heap.size ≤ p.block) (u : Value) : Keep F a (w.setCell p u) :=
  h.trans (F' := [p.block]) ⟨rfl, rfl, rfl, by simp [World.setCell], fun k _ hk => Below.heap_setCell _ _ _ _ (by simpa using hk)⟩ (by simpa using hp)

theorem Keep.setRow {F : List Nat} {a w : World} (h : Keep F a w) {g : Nat} (hp : g ∈ F ∨ a.heap.size ≤ g) (cs : Array Value) : Keep F a (w.setRow g cs) :=
  h.trans (F' := [g]) ⟨rfl, rfl, rfl, by simp, fun k _ hk => setRow_other _ _ _ _ (by simpa using hk)⟩ (by simpa using hp)

/-- An object laid in the place of another. -/
def putBlock (w : World) (r : Nat) (o : Obj) : World := { w with heap := w.heap.setIfInBounds r o }
theorem putBlock_eq (w : World) (r : Nat) (o : Obj) : ({ w with heap := w.heap.setIfInBounds r o } : World) = putBlock w r o := rfl
@[simp] theorem putBlock_size (w : World) (r : Nat) (o : Obj) : (putBlock w r o).heap.size = w.heap.size := by simp [putBlock]
theorem putBlock_same {w : World} {r : Nat} (o : Obj) (h : r < w.heap.size) : (putBlock w r o).heap[r]? = some o := by simp [putBlock, Array.getElem?_setIfInBounds, h]
theorem putBlock_other {w : World} {r k : Nat} (o : Obj) (h : k ≠ r) : (putBlock w r o).heap[k]? = w.heap[k]? := by
  simp only [putBlock, Array.getElem?_setIfInBounds]
  rw [if_neg (by omega)]

theorem Keep.putBlock {F : List Nat} {a w : World} (h : Keep F a w) {g : Nat} (hp : g ∈ F ∨ a.heap.size ≤ g) (o : Obj) : Keep F a (putBlock w g o) :=
  h.trans (F' := [g]) ⟨rfl, rfl, rfl, by simp, fun k _ hk => putBlock_other _ (by simpa using hk)⟩ (by simpa using hp)

theorem Keep.grown {F : List Nat} {a w w' : World} {row : Option Nat} (h : Keep F a w) (hg : w.grownBy w' row) (hr : ∀ k, row = some k → k ∈ F ∨ a.heap.size ≤ k) : Keep F a w' :=
  h.trans (F' := row.toList) ⟨hg.os, hg.tape, hg.output, hg.size, fun k hk hn => hg.block k hk (fun e => hn (by simp [← e]))⟩ (fun x hx => hr x (by simpa using hx))

theorem Keep.below {w w' : World} (h : Keep [] w w') : Below w.heap.size w w' := ⟨h.os, h.tape, h.output, h.size, fun k hk => h.heap k hk (by simp)⟩
theorem Keep.ofBelow {w w' : World} (h : Below w.heap.size w w') (F : List Nat) : Keep F w w' := ⟨h.os, h.tape, h.output, h.size, fun k hk _ => h.block k hk⟩
theorem Keep.lt {F : List Nat} {w w' : World} (h : Keep F w w') {k : Nat} (hk : k < w.heap.size) : k < w'.heap.size := Nat.lt_of_lt_of_le hk h.size

/-! ### bytes -/
/-- The cell of a byte. -/
def B8 (x : UInt8) : Value := .int .u8 (x.toNat : Int)
/-- The cells of bytes. -/
def cellsOf (l : List UInt8) : Array Value := (l.map B8).toArray
/-- A string. -/
def str (l : List UInt8) : Value := .string ⟨l.toArray⟩
/-- The byte at a place, as a number. -/
def wd (l : List UInt8) (i : Nat) : Int := ((l.getD i 0).toNat : Int)
theorem wd_bd (l : List UInt8) (i : Nat) : 0 ≤ wd l i ∧ wd l i < 256 := by
  unfold wd; have := (l.getD i 0).toNat_lt; omega
@[simp] theorem cellsOf_size (l : List UInt8) : (cellsOf l).size = l.length := by simp [cellsOf]
theorem cellsOf_get (l : List UInt8) (i : Nat) (h : i < l.length) : (cellsOf l)[i]? = some (.int .u8 (wd l i)) := by
  simp [cellsOf, wd, B8, h]
theorem cellsOf_get' (l : List UInt8) (i : Nat) (h : i < l.length) : (cellsOf l)[i]? = some (B8 l[i]) := by
  simp [cellsOf, h]
/-- A number as a byte. -/
def b8 (m : Int) : UInt8 := UInt8.ofNat (m % 256).toNat
theorem b8_cell (m : Int) : Value.int .u8 (IntKind.u8.wrap m) = B8 (b8 m) := by
  have h0 : 0 ≤ m % 256 := Int.emod_nonneg _ (by omega)
  have h1 : m % 256 < 256 := Int.emod_lt_of_pos _ (by omega)
  simp only [B8, b8, IntKind.wrap_u8]
  congr 1
  rw [UInt8.toNat_ofNat']
  omega
theorem b8_cell' {m : Int} (h0 : 0 ≤ m) (h1 : m < 256) : Value.int .u8 m = B8 (b8 m) := by
  rw [← b8_cell, IntKind.wrap_u8]; congr 1; omega
theorem b8_wd (l : List UInt8) (i : Nat) : b8 (wd l i) = l.getD i 0 := by
  unfold b8 wd
  have := (l.getD i 0).toNat_lt
  rw [Int.emod_eq_of_lt (by omega) (by omega)]
  simp
theorem B8_oneCell (x : UInt8) : (B8 x).oneCell' = true := rfl

/-! ### a part of a row read as one value; a part of a row overwritten -/
/-- cs with vs laid over it from o on. -/
def over (cs : Array Value) (o : Nat) (vs : List Value) : Array Value := (cs.toList.take o ++ vs ++ cs.toList.drop (o + vs.length)).toArray
theorem over_size {cs : Array Value} {o : Nat} {vs : List Value} (h : o + vs.length ≤ cs.size) : (over cs o vs).size = cs.size := by
  simp [over]; omega
theorem over_get {cs : Array Value} {o : Nat} {vs : List Value} (h : o + vs.length ≤ cs.size) (i : Nat) :
    (over cs o vs)[i]? = if o ≤ i ∧ i < o + vs.length then vs[i - o]? else cs[i]? := by
  have hl : cs.toList.length = cs.size := Array.length_toList
  simp only [over, List.getElem?_toArray, List.append_assoc, List.getElem?_append, List.length_take, List.getElem?_take, List.getElem?_drop, hl]
  have hm : min o cs.size = o := by omega
  simp only [hm]
  by_cases h1 : i < o
  · rw [if_pos h1, if_pos h1, if_neg (by omega)]; simp
  · by_cases h2 : i - o < vs.length
    · rw [if_neg h1, if_pos h2, if_pos (by omega)]
    · rw [if_neg h1, if_neg h2, if_neg (by omega)]
      have : o + vs.length + (i - o - vs.length) = i := by omega
      rw [this]; simp

theorem run_loadVar_part {P : Program} (w : World) (g off n : Nat) (t ty : TypeId) (cs : Array Value) (fr : Nat × Nat) (d : TypeDesc) (hg : w.heap[g]? = some (.cells cs t fr))
    (hu : P.underlying ty = some d) (hd : (match d with | .struct _ | .array _ _ => true | _ => false) = true) (hi : (P.info? ty).map (·.size) = some n) (hn : off + n ≤ cs.size) :
    (loadVar ty ⟨g, off, none⟩).run P w = .ok (.agg (cs.extract off (off + n))) w := by
  have hlen : (cs.extract off (off + n)).toList.length = n := by simp; omega
  have hl : (loadCells ⟨g, off, none⟩ (cs.extract off (off + n)).toList.length).run P w = .ok (cs.extract off (off + n)).toList.toArray w :=
    run_loadCells_list (P := P) w ⟨g, off, none⟩ (cs.extract off (off + n)).toList (fun j v hv => by
      have hadd : (⟨g, off, none⟩ : Addr).add j = ⟨g, off + j, none⟩ := by unfold Addr.add; split <;> simp_all
      rw [hadd, cell_of_row w g (off + j) cs t fr hg]
      have hj : j < n := by have := (List.getElem?_eq_some_iff.1 hv).1; omega
      rw [Array.getElem?_toList] at hv
      rw [← hv, Array.getElem?_extract, if_pos (by omega)])
  cases hq : P.info? ty with
  | none => simp [hq] at hi
  | some i =>
    have hs : i.size = n := by simpa [hq] using hi
    have hagg : (isAgg ty).run P w = .ok true w := by
      unfold isAgg
      rw [Sem.run_bind, run_underlying hu w]
      cases d <;> simp_all
    rw [hlen] at hl
    simp only [Array.toArray_toList] at hl
    simp [loadVar, Sem.run_bind, hagg, sizeOf, typeInfo, hq, hs, hl]

theorem run_storeVar_part {P : Program} (w : World) (g off : Nat) (t ty : TypeId) (old cells : Array Value) (hg : w.heap[g]? = some (.cells old t (0, 0))) (hi : (P.info? ty).map (·.size) = some cells.size)
    (hn : off + cells.size ≤ old.size) (h1 : ∀ v ∈ cells.toList, v.oneCell' = true) :
    (storeVar ty ⟨g, off, none⟩ (.agg cells)).run P w = .ok () (w.setRow g (over old off cells.toList)) := by
  cases hq : P.info? ty with
  | none => simp [hq] at hi
  | some i =>
    have hs : i.size = cells.size := by simpa [hq] using hi
    have hst := run_storeCells_at P g off t cells.toList 0 old w hg (by simpa using hn) h1
    simp only [Nat.add_zero] at hst
    simp [storeVar, Value.cells, sizeOf, typeInfo, hq, hs, hst, over]
end

section
/- SHA-256 in the words in which the walk computes it: the schedule, the rounds, the compression of a block, padding, the digest. -/
open Go.RowKit

/-- a word rotated to the right -/
def rr (n : Int) (x : Int) : Int := bits .or .u32 (((x * 2 ^ (32 - n.toNat)) % 4294967296)) (x / 2 ^ n.toNat)
/-- four bytes as a word -/
def be4 (a b c d : Int) : Int :=
  bits .or .u32 (bits .or .u32 (bits .or .u32 ((((a % 4294967296) * 16777216) % 4294967296)) ((((b % 4294967296) * 65536) % 4294967296))) ((((c % 4294967296) * 256) % 4294967296))) ((d % 4294967296))
def sig0 (x : Int) : Int := bits .xor .u32 (bits .xor .u32 (rr 7 x) (rr 18 x)) (x / 8)
def sig1 (y : Int) : Int := bits .xor .u32 (bits .xor .u32 (rr 17 y) (rr 19 y)) (y / 1024)
/-- the words of a block -/
def sched (l : List UInt8) (t : Nat) : Int :=
  if h : t < 16 then be4 (wd l (4 * t)) (wd l (4 * t + 1)) (wd l (4 * t + 2)) (wd l (4 * t + 3))
  else (sched l (t - 16) + sig0 (sched l (t - 15)) + sched l (t - 7) + sig1 (sched l (t - 2))) % 4294967296
termination_by t
theorem sched_lo (l : List UInt8) (t : Nat) (h : t < 16) : sched l t = be4 (wd l (4 * t)) (wd l (4 * t + 1)) (wd l (4 * t + 2)) (wd l (4 * t + 3)) := by rw [sched, dif_pos h]
theorem sched_hi (l : List UInt8) (t : Nat) (h : 16 ≤ t) : sched l t = (sched l (t - 16) + sig0 (sched l (t - 15)) + sched l (t - 7) + sig1 (sched l (t - 2))) % 4294967296 := by rw [sched, dif_neg (by omega)]

def kConst : List Int := [1116352408, 1899447441, 3049323471, 3921009573, 961987163, 1508970993, 2453635748, 2870763221, 3624381080, 310598401, 607225278, 1426881987, 1925078388, 2162078206, 2614888103, 3248222580, 3835390401, 4022224774, 264347078, 604807628, 770255983, 1249150122, 1555081692, 1996064986, 2554220882, 2821834349, 2952996808, 3210313671, 3336571891, 3584528711, 113926993, 338241895, 666307205, 773529912, 1294757372, 1396182291, 1695183700, 1986661051, 2177026350, 2456956037, 2730485921, 2820302411, 3259730800, 3345764771, 3516065817, 3600352804, 4094571909, 275423344, 430227734, 506948616, 659060556, 883997877, 958139571, 1322822218, 1537002063, 1747873779, 1955562222, 2024104815, 2227730452, 2361852424, 2428436474, 2756734187, 3204031479, 3329325298]
def kAt (t : Nat) : Int := kConst.getD t 0
def hInit : List Int := [1779033703, 3144134277, 1013904242, 2773480762, 1359893119, 2600822924, 528734635, 1541459225]

/-- the eight words of a state -/
structure S8 where
  (a b c d e f g h : Int)
def S8.nth (s : S8) : Nat → Int
  | 0 => s.a | 1 => s.b | 2 => s.c | 3 => s.d | 4 => s.e | 5 => s.f | 6 => s.g | _ => s.h
def not32 (e : Int) : Int := bits .xor .u32 (if IntKind.u32.signed = true then -1 else IntKind.u32.max) e
def rndP (e f g h k w : Int) : Int :=
  (h + bits .xor .u32 (bits .xor .u32 (rr 6 e) (rr 11 e)) (rr 25 e) + bits .xor .u32 (bits .and .u32 e f) (bits .and .u32 (not32 e) g) + k + w) % 4294967296
def rndQ (a b c : Int) : Int :=
  ((bits .xor .u32 (bits .xor .u32 (rr 2 a) (rr 13 a)) (rr 22 a) + bits .xor .u32 (bits .xor .u32 (bits .and .u32 a b) (bits .and .u32 a c)) (bits .and .u32 b c)) % 4294967296)
def rnd (s : S8) (k w : Int) : S8 :=
  ⟨((rndP s.e s.f s.g s.h k w + rndQ s.a s.b s.c) % 4294967296), s.a, s.b, s.c, ((s.d + rndP s.e s.f s.g s.h k w) % 4294967296), s.e, s.f, s.g⟩
def rnds (l : List UInt8) (s : S8) : Nat → S8
  | 0 => s
  | t + 1 => rnd (rnds l s t) (kAt t) (sched l t)
/-- the state after a block -/
def comp (s : S8) (l : List UInt8) : S8 :=
  let r := rnds l s 64
  ⟨((s.a + r.a) % 4294967296), ((s.b + r.b) % 4294967296), ((s.c + r.c) % 4294967296), ((s.d + r.d) % 4294967296), ((s.e + r.e) % 4294967296), ((s.f + r.f) % 4294967296), ((s.g + r.g) % 4294967296), ((s.h + r.h) % 4294967296)⟩
theorem comp_nth (s : S8) (l : List UInt8) (j : Nat) : (comp s l).nth j = (s.nth j + (rnds l s 64).nth j) % 4294967296 := by
  unfold comp S8.nth
  split <;> rfl
def s0 : S8 := ⟨1779033703, 3144134277, 1013904242, 2773480762, 1359893119, 2600822924, 528734635, 1541459225⟩
/-- the state after q blocks -/
def absorb (l : List UInt8) : Nat → S8
  | 0 => s0
  | q + 1 => comp (absorb l q) ((l.drop (64 * q)).take 64)
end

section
/- sha256.right, sha256.compress. -/
open Go.RowKit

set_option maxHeartbeats 400000 in
theorem right_any (x k : Int) (w : World) (hk : k = 2 ∨ k = 6 ∨ k = 7 ∨ k = 11 ∨ k = 13 ∨ k = 17 ∨ k = 18 ∨ k = 19 ∨ k = 22 ∨ k = 25) :
    Calls Tryd.prog 89 #[.int .i64 k, .int .u32 x] w fun e w' => e = .returned (.int .u32 (rr k x)) ∧ w' = w := by
    have m2 : bits .and .u64 (IntKind.u64.wrap (-2)) 31 = 30 := by decide
    have m6 : bits .and .u64 (IntKind.u64.wrap (-6)) 31 = 26 := by decide
    have m7 : bits .and .u64 (IntKind.u64.wrap (-7)) 31 = 25 := by decide
    have m11 : bits .and .u64 (IntKind.u64.wrap (-11)) 31 = 21 := by decide
    have m13 : bits .and .u64 (IntKind.u64.wrap (-13)) 31 = 19 := by decide
    have m17 : bits .and .u64 (IntKind.u64.wrap (-17)) 31 = 15 := by decide
    have m18 : bits .and .u64 (IntKind.u64.wrap (-18)) 31 = 14 := by decide
    have m19 : bits .and .u64 (IntKind.u64.wrap (-19)) 31 = 13 := by decide
    have m22 : bits .and .u64 (IntKind.u64.wrap (-22)) 31 = 10 := by decide
    have m25 : bits .and .u64 (IntKind.u64.wrap (-25)) 31 = 7 := by decide
    rcases hk with rfl | rfl | rfl | rfl | rfl | rfl | rfl | rfl | rfl | rfl
    all_goals
      go_enter Tryd.func89, Tryd.ntmps89
      go_wp2
      go_ret
      exact ⟨rfl, rfl⟩

/-- A row of eight words stands at off in cs. -/
def S8at (cs : Array Value) (off : Nat) (s : S8) : Prop := ∀ j, j < 8 → cs[off + j]? = some (.int .u32 (s.nth j))

/-- The table of constants lies where the program keeps it. -/
def KGlob (w : World) : Prop := ∀ t, t < 64 → w.cell? ⟨2, t, none⟩ = some (.int .u32 (kAt t))

theorem lt_of_cell {w : World} {a : Addr} {v : Value} (h : w.cell? a = some v) : a.block < w.heap.size := block_lt_of_cell h
theorem Keep.cell {F : List Nat} {w w' : World} (hk : Keep F w w') {a : Addr} {v : Value} (h : w.cell? a = some v) (hn : a.block ∉ F) : w'.cell? a = some v :=
  (World.cell?_of_block (hk.heap _ (lt_of_cell h) hn)).trans h
theorem KGlob.lt {w : World} (h : KGlob w) : 2 < w.heap.size := lt_of_cell (h 0 (by omega))
theorem KGlob.keep {w w' : World} (h : KGlob w) {F : List Nat} (hk : Keep F w w') (hn : 2 ∉ F) : KGlob w' := fun t ht => hk.cell (h t ht) hn

set_option maxRecDepth 100000 in
set_option maxHeartbeats 2000000 in
theorem compress_any (sb so bb bo : Nat) (sc bc : Array Value) (sT bT : TypeId) (bf : Nat × Nat) (s : S8) (l : List UInt8) (w : World) (hK : KGlob w)
    (hs : w.heap[sb]? = some (.cells sc sT (0, 0))) (hsc : S8at sc so s)
    (hb : w.heap[bb]? = some (.cells bc bT bf)) (hbc : ∀ i, i < 64 → bc[bo + i]? = some (.int .u8 (wd l i))) :
    Calls Tryd.prog 88 #[.pointer (some ⟨sb, so, none⟩), .pointer (some ⟨bb, bo, none⟩)] w fun e w' => e = .returned (.tuple #[]) ∧ Keep [sb] w w' ∧
      ∃ sc', w'.heap[sb]? = some (.cells sc' sT (0, 0)) ∧ sc'.size = sc.size ∧ S8at sc' so (comp s l) ∧ ∀ i, (i < so ∨ so + 8 ≤ i) → sc'[i]? = sc[i]? := by
    have hg0 := hK.lt
    have hsl := lt_of_heap hs
    have hbl := lt_of_heap hb
    have HS := Lib.hid hs
    have HSC := Lib.hid hsc
    have HB := Lib.hid hb
    have HBC := Lib.hid hbc
    have HK := Lib.hid hK
    clear hs hsc hb hbc hK
    go_enter Tryd.func88, Tryd.ntmps88
    go_wp2
    go_loopw [5, 24] (fun _ i wr => ∃ k : Nat, ∃ arr : Array Value, k ≤ 16 ∧ i = .int .i64 k ∧ arr.size = 64 ∧ (∀ j, j < k → arr[j]? = some (.int .u32 (sched l j))) ∧ wr.heap[w.heap.size]? = some (.cells arr 152 (0,0)) ∧ Keep [] w wr ∧ w.heap.size < wr.heap.size) (fun _ i _ => 16 - (intOf i).toNat)
    case atStart => exact ⟨0, Array.replicate 64 (.int .u32 0), by omega, rfl, rfl, fun j hj => by omega, heap_alloc_new w _, (Keep.refl _ _).alloc _, by simp⟩
    case round =>
      obtain ⟨k, arr, hk, rfl, ha, haj, hheap, hkeep, hsz⟩ := hrel
      by_cases hlt : k < 16
      · have hbr := hkeep.get HB.out (by simp)
        have hcell : ∀ i, i < 64 → wr.cell? ⟨bb, bo + i, none⟩ = some (.int .u8 (wd l i)) := fun i hi => (cell_of_row wr bb (bo + i) bc bT bf hbr).trans (HBC.out i hi)
        have c0 := hcell (4 * k) (by omega)
        have c1 := hcell (4 * k + 1) (by omega)
        have c2 := hcell (4 * k + 2) (by omega)
        have c3 := hcell (4 * k + 3) (by omega)
        have e0 : IntKind.i64.wrap (4 * (k : Int)) = 4 * k := IntWalk.i64_in _ (by omega)
        have e1 : IntKind.i64.wrap (4 * (k : Int) + 1) = 4 * k + 1 := IntWalk.i64_in _ (by omega)
        have e2 : IntKind.i64.wrap (4 * (k : Int) + 2) = 4 * k + 2 := IntWalk.i64_in _ (by omega)
        have e3 : IntKind.i64.wrap (4 * (k : Int) + 3) = 4 * k + 3 := IntWalk.i64_in _ (by omega)
        have f0 : 0 ≤ 4 * (k : Int) := by omega
        have f1 : 0 ≤ 4 * (k : Int) + 1 := by omega
        have f2 : 0 ≤ 4 * (k : Int) + 2 := by omega
        have f3 : 0 ≤ 4 * (k : Int) + 3 := by omega
        have g0 : (4 * (k : Int)).toNat = 4 * k := by omega
        have g1 : (4 * (k : Int) + 1).toNat = 4 * k + 1 := by omega
        have g2 : (4 * (k : Int) + 2).toNat = 4 * k + 2 := by omega
        have g3 : (4 * (k : Int) + 3).toNat = 4 * k + 3 := by omega
        have h0 : 4 * (k : Int) < 64 := by omega
        have h1 : 4 * (k : Int) + 1 < 64 := by omega
        have h2 : 4 * (k : Int) + 2 < 64 := by omega
        have h3 : 4 * (k : Int) + 3 < 64 := by omega
        have hok : k < arr.size := by omega
        have d0 : wr.cell? ⟨w.heap.size, k, none⟩ = some arr[k] := (cell_of_row wr _ k arr _ _ hheap).trans (by simp [hok])
        have d1 : wr.frozen? ⟨w.heap.size, k, none⟩ = false := frozen_of_row wr _ k arr _ hheap
        have HA := Lib.hid hheap
        have HZ := Lib.hid ha
        have HJ := Lib.hid haj
        clear hheap ha haj hbr hcell
        go_wp2
        go_still_tail 38, (by kernel_rfl)
        change wpList _ _ _ _ _ wr.drew
        clear e0 e1 e2 e3 g0 g1 g2 g3
        go_wp2
        go_roundw
        case rel =>
          refine ⟨k + 1, arr.setIfInBounds k (.int .u32 (sched l k)), by omega, by go_num, by simpa using HZ.out, ?_, ?_, ?_, ?_⟩
          · intro j hj
            by_cases e : j = k
            · subst e; simp [hok]
            · rw [Array.getElem?_setIfInBounds, if_neg (by omega)]; exact HJ.out j (by omega)
          · rw [sched_lo l k hlt]; exact heap_setCell_same wr _ k arr _ _ HA.out
          · exact (hkeep.setCell (by simp) _).drew
          · simpa [World.drew] using hsz
        case measure => simp [intOf]; omega
      · have HK16 : Hid (k = 16) := Lib.hid (by omega)
        have hge : 16 ≤ k := by omega
        have HA := Lib.hid hheap
        have HZ := Lib.hid ha
        have HJ := Lib.hid haj
        clear hheap ha haj hk hlt
        obtain ⟨wo, rfl⟩ : ∃ wo : World, wo = wr := ⟨_, rfl⟩
        go_wp2
        go_loopw [6, 7, 8, 9, 10] (fun i _ _ _ _ wq => ∃ k : Nat, ∃ arr : Array Value, 16 ≤ k ∧ k ≤ 64 ∧ i = .int .i64 k ∧ arr.size = 64 ∧ (∀ j, j < k → arr[j]? = some (.int .u32 (sched l j))) ∧ wq.heap[w.heap.size]? = some (.cells arr 152 (0,0)) ∧ Keep [] w wq ∧ w.heap.size < wq.heap.size) (fun i _ _ _ _ _ => 64 - (intOf i).toNat)
        case atStart => exact ⟨16, arr, by omega, by omega, by go_num, HZ.out, fun j hj => HJ.out j (by omega), HA.out, hkeep, hsz⟩
        case round =>
          clear HA HZ HJ hkeep hsz
          obtain ⟨k, arr, hk0, hk, rfl, ha, haj, hheap, hkeep, hsz⟩ := hrel
          by_cases hlt : k < 64
          · have hcell : ∀ j, j < k → wr.cell? ⟨w.heap.size, j, none⟩ = some (.int .u32 (sched l j)) := fun j hj => (cell_of_row wr _ j arr _ _ hheap).trans (haj j hj)
            have c15 := hcell (k - 15) (by omega)
            have c2 := hcell (k - 2) (by omega)
            have c16 := hcell (k - 16) (by omega)
            have c7 := hcell (k - 7) (by omega)
            have e15 : IntKind.i64.wrap ((k : Int) - 15) = k - 15 := IntWalk.i64_in _ (by omega)
            have e2 : IntKind.i64.wrap ((k : Int) - 2) = k - 2 := IntWalk.i64_in _ (by omega)
            have e16 : IntKind.i64.wrap ((k : Int) - 16) = k - 16 := IntWalk.i64_in _ (by omega)
            have e7 : IntKind.i64.wrap ((k : Int) - 7) = k - 7 := IntWalk.i64_in _ (by omega)
            have p16 : (16 : Int) ≤ k := by omega
            have p7 : (7 : Int) ≤ k := by omega
            have f15 : 0 ≤ (k : Int) - 15 := by omega
            have f2 : 0 ≤ (k : Int) - 2 := by omega
            have f16 : 0 ≤ (k : Int) - 16 := by omega
            have f7 : 0 ≤ (k : Int) - 7 := by omega
            have g15 : ((k : Int) - 15).toNat = k - 15 := by omega
            have g2 : ((k : Int) - 2).toNat = k - 2 := by omega
            have g16 : ((k : Int) - 16).toNat = k - 16 := by omega
            have g7 : ((k : Int) - 7).toNat = k - 7 := by omega
            have h15 : (k : Int) - 15 < 64 := by omega
            have h2 : (k : Int) - 2 < 64 := by omega
            have h16 : (k : Int) - 16 < 64 := by omega
            have h7 : (k : Int) - 7 < 64 := by omega
            have hok : k < arr.size := by omega
            have d0 : wr.cell? ⟨w.heap.size, k, none⟩ = some arr[k] := (cell_of_row wr _ k arr _ _ hheap).trans (by simp [hok])
            have d1 : wr.frozen? ⟨w.heap.size, k, none⟩ = false := frozen_of_row wr _ k arr _ hheap
            have HA := Lib.hid hheap
            have HZ := Lib.hid ha
            have HJ := Lib.hid haj
            clear hheap ha haj hcell
            go_wp2
            go_quiet (fail)
            go_wp2_with (go_at_call 89; refine (right_any _ _ _ (by simp)).mono ?_; rintro e w' ⟨rfl, rfl⟩)
            obtain ⟨wx, hwx⟩ : ∃ wx, wx = wr.drewN nq := ⟨_, rfl⟩
            rw [← hwx]
            have c16' : wx.cell? ⟨w.heap.size, k - 16, none⟩ = some (.int .u32 (sched l (k - 16))) := by rw [hwx]; exact c16
            have c7' : wx.cell? ⟨w.heap.size, k - 7, none⟩ = some (.int .u32 (sched l (k - 7))) := by rw [hwx]; exact c7
            have d0' : wx.cell? ⟨w.heap.size, k, none⟩ = some arr[k] := by rw [hwx]; exact d0
            have d1' : wx.frozen? ⟨w.heap.size, k, none⟩ = false := by rw [hwx]; exact d1
            have HX := Lib.hid hwx
            clear hwx c15 c2 c16 c7 d0 d1
            go_still_tail 14, (by kernel_rfl)
            change wpList _ _ _ _ _ wx.drew
            clear e15 e2 e16 e7 g15 g2 g16 g7
            go_wp2
            go_roundw
            case rel =>
              refine ⟨k + 1, arr.setIfInBounds k (.int .u32 (sched l k)), by omega, by omega, by go_num, by simpa using HZ.out, ?_, ?_, ?_, ?_⟩
              · intro j hj
                by_cases e : j = k
                · subst e; simp [hok]
                · rw [Array.getElem?_setIfInBounds, if_neg (by omega)]; exact HJ.out j (by omega)
              · rw [HX.out, sched_hi l k hk0]; exact heap_setCell_same wr _ k arr _ _ HA.out
              · rw [HX.out]; exact ((hkeep.drewN nq).setCell (by simp) _).drew
              · rw [HX.out]; simpa [World.drew] using hsz
            case measure => simp [intOf]; omega
          · have hge2 : 64 ≤ k := by omega
            clear hlt hk0 hk
            obtain ⟨wa, rfl⟩ : ∃ wa : World, wa = wr := ⟨_, rfl⟩
            have hsr := hkeep.get HS.out (by simp)
            have hc : ∀ j, j < 8 → wa.cell? ⟨sb, so + j, none⟩ = some (.int .u32 (s.nth j)) := fun j hj => (cell_of_row wa sb (so + j) sc _ _ hsr).trans (HSC.out j hj)
            have q0 : wa.cell? ⟨sb, so, none⟩ = some (.int .u32 s.a) := hc 0 (by omega)
            have q1 : wa.cell? ⟨sb, so + 1, none⟩ = some (.int .u32 s.b) := hc 1 (by omega)
            have q2 : wa.cell? ⟨sb, so + 2, none⟩ = some (.int .u32 s.c) := hc 2 (by omega)
            have q3 : wa.cell? ⟨sb, so + 3, none⟩ = some (.int .u32 s.d) := hc 3 (by omega)
            have q4 : wa.cell? ⟨sb, so + 4, none⟩ = some (.int .u32 s.e) := hc 4 (by omega)
            have q5 : wa.cell? ⟨sb, so + 5, none⟩ = some (.int .u32 s.f) := hc 5 (by omega)
            have q6 : wa.cell? ⟨sb, so + 6, none⟩ = some (.int .u32 s.g) := hc 6 (by omega)
            have q7 : wa.cell? ⟨sb, so + 7, none⟩ = some (.int .u32 s.h) := hc 7 (by omega)
            have HA := Lib.hid hheap
            have HZ := Lib.hid ha
            have HJ := Lib.hid haj
            have HSR := Lib.hid hsr
            clear hheap ha haj hsr hc
            go_wp2
            go_quiet (fail)
            go_wp2
            go_quiet (fail)
            go_wp2
            clear q0 q1 q2 q3 q4 q5 q6 q7
            go_loopw [11, 12, 13, 14, 15, 16, 17, 18, 19, 20, 21, 142] (fun a b c d e f g h _ _ _ i wq => ∃ k : Nat, ∃ n : Nat, k ≤ 64 ∧ i = .int .i64 k ∧ a = .int .u32 (rnds l s k).a ∧ b = .int .u32 (rnds l s k).b ∧ c = .int .u32 (rnds l s k).c ∧ d = .int .u32 (rnds l s k).d ∧ e = .int .u32 (rnds l s k).e ∧ f = .int .u32 (rnds l s k).f ∧ g = .int .u32 (rnds l s k).g ∧ h = .int .u32 (rnds l s k).h ∧ wq = wa.drewN n) (fun _ _ _ _ _ _ _ _ _ _ _ i _ => 64 - (intOf i).toNat)
            case atStart => exact ⟨0, _, by omega, by go_num, rfl, rfl, rfl, rfl, rfl, rfl, rfl, rfl, by simp only [World.drewN_drewN]; rfl⟩
            case round =>
              obtain ⟨k, n, hk, rfl, rfl, rfl, rfl, rfl, rfl, rfl, rfl, rfl, hwr⟩ := hrel
              by_cases hlt : k < 64
              · have hcw : wr.cell? ⟨w.heap.size, k, none⟩ = some (.int .u32 (sched l k)) := by
                  rw [hwr]; exact (cell_of_row wa _ k arr _ _ HA.out).trans (HJ.out k (by omega))
                have hcg : wr.cell? ⟨2, k, none⟩ = some (.int .u32 (kAt k)) := by
                  rw [hwr, ← HK.out k hlt]; exact World.cell?_of_block (a := ⟨2, k, none⟩) (hkeep.heap _ hg0 (by simp))
                have HW := Lib.hid hwr
                clear hwr
                go_wp2
                go_quiet ((go_at_call 89; exact Calls.quiet_of_same (right_any _ _ _ (by simp))))
                go_wp2_with (go_at_call 89; refine (right_any _ _ _ (by simp)).mono ?_; rintro e w' ⟨rfl, rfl⟩)
                go_roundw
                case rel =>
                  refine ⟨k + 1, n + nq, by omega, by go_num, rfl, rfl, rfl, rfl, rfl, rfl, rfl, rfl, ?_⟩
                  rw [HW.out, World.drewN_drewN]
                case measure => simp [intOf]; omega
              · have HK64 : Hid (k = 64) := Lib.hid (by omega)
                have HW := Lib.hid hwr
                clear hwr
                have hge3 : 64 ≤ k := by omega
                clear hlt hk
                go_wp2
                go_loopw [22, 23, 214] (fun _ _ i wq => ∃ j : Nat, ∃ cur : Array Value, j ≤ 8 ∧ i = .int .i64 j ∧ cur.size = sc.size ∧ wq.heap[sb]? = some (.cells cur sT (0, 0)) ∧
                    (∀ i, i < 8 → cur[so + i]? = some (.int .u32 (if i < j then (comp s l).nth i else s.nth i))) ∧ (∀ i, (i < so ∨ so + 8 ≤ i) → cur[i]? = sc[i]?) ∧ Keep [sb] w wq) (fun _ _ i _ => 8 - (intOf i).toNat)
                case atStart =>
                  refine ⟨0, sc, by omega, by go_num, rfl, ?_, fun i hi => by simpa using HSC.out i hi, fun _ _ => rfl, ?_⟩
                  · rw [HW.out]; exact HSR.out
                  · rw [HW.out]; exact (hkeep.mono (F' := [sb]) (by simp)).drewN n
                case round =>
                  obtain ⟨j, cur, hj, rfl, hcs, hcur, hin, hout, hkp⟩ := hrel
                  by_cases hlt : j < 8
                  · have hidx : ∀ w', (Instr.index 142 (.agg #[.int .u32 (rnds l s k).a, .int .u32 (rnds l s k).b, .int .u32 (rnds l s k).c, .int .u32 (rnds l s k).d, .int .u32 (rnds l s k).e, .int .u32 (rnds l s k).f, .int .u32 (rnds l s k).g, .int .u32 (rnds l s k).h]) (.int .i64 j)).run Tryd.prog w' = .ok (.int .u32 ((rnds l s k).nth j)) w' := by
                      intro w'
                      have h8 : j = 0 ∨ j = 1 ∨ j = 2 ∨ j = 3 ∨ j = 4 ∨ j = 5 ∨ j = 6 ∨ j = 7 := by omega
                      rcases h8 with rfl | rfl | rfl | rfl | rfl | rfl | rfl | rfl <;> rfl
                    have hc := (cell_of_row wr sb (so + j) cur _ _ hcur).trans (hin j hlt)
                    rw [if_neg (by omega)] at hc
                    have hf := frozen_of_row wr sb (so + j) cur _ hcur
                    have HC := Lib.hid hcur
                    have HS2 := Lib.hid hcs
                    have HI := Lib.hid hin
                    have HO := Lib.hid hout
                    clear hcur hcs hin hout
                    go_wp2
                    go_still_tail 9, (by kernel_rfl)
                    change wpList _ _ _ _ _ wr.drew
                    go_wp2
                    go_roundw
                    case rel =>
                      refine ⟨j + 1, cur.setIfInBounds (so + j) (.int .u32 ((comp s l).nth j)), by omega, by go_num, by simpa using HS2.out, ?_, ?_, ?_, ?_⟩
                      · rw [comp_nth, ← HK64.out]; exact heap_setCell_same wr sb (so + j) cur sT _ HC.out
                      · intro i hi
                        by_cases e : i = j
                        · subst e
                          have hb : so + i < cur.size := (Array.getElem?_eq_some_iff.1 (HI.out i hi)).1
                          simp [hb]
                        · rw [Array.getElem?_setIfInBounds, if_neg (by omega), HI.out i hi]
                          by_cases e2 : i < j
                          · rw [if_pos e2, if_pos (by omega)]
                          · rw [if_neg e2, if_neg (by omega)]
                      · intro i hi
                        rw [Array.getElem?_setIfInBounds, if_neg (by omega)]
                        exact HO.out i hi
                      · exact (hkp.setCell (by simp) _).drew
                    case measure => simp [intOf]; omega
                  · go_wp2
                    go_end0
                    refine ⟨rfl, hkp, cur, hcur, hcs, fun i hi => ?_, hout⟩
                    rw [hin i hi, if_pos (by omega)]
end
end Go.Proofs.YtgopdbpddemplaaDoor
