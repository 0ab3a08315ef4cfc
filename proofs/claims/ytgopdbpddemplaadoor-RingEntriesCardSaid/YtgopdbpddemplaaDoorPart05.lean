/- append of whatever source to a row that the call itself made: one law; byte buffers. Nothing of the program is named here. · sha256.Sum, Join, Tagged. · sha256.Join, Tagged; frame.check. · sha256.Tagged, frame.check; the variables that the program reads. -/
import Derived.Test.YtgopdbpddemplaaDoorPart02
import Derived.Deep.AppendSrc
import Derived.Deep.RegionLaw
import Derived.Test.YtgopdbpddemplaaDoorPart04
set_option linter.unusedSimpArgs false
set_option linter.unusedVariables false
namespace Go.Proofs.YtgopdbpddemplaaDoor
section
/- append of whatever source to a row that the call itself made: one law; byte buffers. Nothing of the program is named here. -/
open Go.RowKit

section
variable {P : Program} (w : World)

theorem run_append_room_row (t tx ty e : TypeId) (i : TypeInfo) (ht : P.underlying t = some (.slice e)) (hi : P.info? e = some i)
    (g sLen sCap : Nat) (cur : Array Value) (hg : w.heap[g]? = some (.cells cur e (0, 0))) (x : Value) (n : Nat) (news : List Value) (hs : Src P i.size tx x n news w)
    (hroom : sLen + n ≤ sCap) (hfit : sLen * i.size + news.length ≤ cur.size) :
    (Builtin.append_ #[t, tx] ty #[.slice (some ⟨g, 0, none⟩) sLen sCap, x]).run P w =
      .ok (.slice (some ⟨g, 0, none⟩) (sLen + n) sCap) (w.setRow g (cur.toList.take (sLen * i.size) ++ news ++ cur.toList.drop (sLen * i.size + news.length)).toArray) := by
  have hst := run_storeCells_at P g (sLen * i.size) e news 0 cur w hg (by simpa using hfit) hs.one
  simp only [Nat.add_zero] at hst
  rcases hs.kind with ⟨e', hk⟩ | hk <;> simp [Builtin.append_, run_underlying ht, run_underlying hk, sizeOf, typeInfo, hi, hs.len, hroom, hs.cells, Addr.add_lit, hst]

theorem run_append_own_src (base : Nat) (t tx ty e : TypeId) (i : TypeInfo) (z : Value) (size bytes : Nat) (ht : P.underlying t = some (.slice e)) (hi : P.info? e = some i) (hz : i.zero = some z)
    (hsize : i.size = size) (hby : i.bytes = bytes) (hzs : z.cells.size = size)
    (v : Value) (n : Nat) (xs : List Value) (hown : w.ownsRow base e size v n xs)
    (x : Value) (m : Nat) (news : List Value) (hsrc : Src P size tx x m news w)
    (h63 : n + m ≤ maxLen) (hbytes : (n + m) * bytes ≤ 140737488355328) (hbase : base ≤ w.heap.size) :
    ∃ v' w', (Builtin.append_ #[t, tx] ty #[v, x]).run P w = .ok v' w' ∧ w'.ownsRow base e size v' (n + m) (xs ++ news) ∧ w.grownBy w' v.ownBlock := by
  subst hsize
  subst hby
  have hl := hsrc.newsLen
  have hsmall : ((n + m : Nat) : Int) ≤ 9223372036854775807 := by simp only [maxLen] at h63; omega
  have hlen : (xs ++ news).length = (n + m) * i.size := by rw [List.length_append, hown.1, hl, Nat.add_mul]
  have grown : ∀ (old : Nat), old < n + m → ∀ (row : Option Nat),
      (w.drew.alloc (.cells ((xs ++ news).toArray ++ Builtin.zeroCells z.cells (grownCap w (n + m) old e - (n + m))) e)).ownsRow base e i.size
        (.slice (some ⟨w.heap.size, 0, none⟩) (n + m) (grownCap w (n + m) old e)) (n + m) (xs ++ news) ∧
      w.grownBy (w.drew.alloc (.cells ((xs ++ news).toArray ++ Builtin.zeroCells z.cells (grownCap w (n + m) old e - (n + m))) e)) row := by
    intro old ho row
    have hge := grownCap_ge w (n + m) old e
    have hcm : grownCap w (n + m) old e ≤ maxLen := grownCap_le_maxLen w (n + m) old e h63
    refine ⟨⟨hlen, .inr ⟨w.heap.size, _, _, rfl, hbase, heap_alloc_new w.drew _, hge, hcm, ?_, ?_⟩⟩, ⟨rfl, rfl, rfl, by simp, fun k hk _ => Below.heap_alloc w.drew _ k hk⟩⟩
    · simp only [Array.size_append, List.size_toArray, size_zeroCells, hzs, hlen, ← Nat.add_mul]
      congr 1
      omega
    · simp only [Array.toList_append]
      rw [← hlen]
      exact List.take_left
  rcases hown.2 with ⟨rfl, rfl⟩ | ⟨g, cap, cur, rfl, hbg, hg, hnc, hcm, hcs, htake⟩
  · have hx : xs = [] := List.eq_nil_of_length_eq_zero (by simpa using hown.1)
    subst hx
    by_cases hm : m = 0
    · subst hm
      have hn : news = [] := List.eq_nil_of_length_eq_zero (by simpa using hl)
      subst hn
      refine ⟨.slice none 0 0, w, ?_, World.ownsRow_nil w base e i.size, ⟨rfl, rfl, rfl, Nat.le_refl _, fun _ _ _ => rfl⟩⟩
      rcases hsrc.kind with ⟨e', hk⟩ | hk <;> simp [Builtin.append_, run_underlying ht, run_underlying hk, sizeOf, typeInfo, hi, hsrc.len, hsrc.cells]
    · have hr := run_append_grow_src (P := P) w t tx ty e i z ht hi hz none 0 0 [] (by simpa using run_firstCells_none (P := P) w.drew i.size 0 0 0) x m news hsrc (by omega) (by omega) (growslice_fits (by omega) (by simpa using hbytes))
      have hgr := grown 0 (by omega) (Value.ownBlock (.slice none 0 0))
      exact ⟨_, _, hr, hgr.1, hgr.2⟩
  · by_cases hroom : n + m ≤ cap
    · have hfit : n * i.size + news.length ≤ cur.size := by rw [hl, hcs, ← Nat.add_mul]; exact Nat.mul_le_mul_right _ hroom
      have hr := run_append_room_row (P := P) w t tx ty e i ht hi g n cap cur hg x m news hsrc hroom hfit
      refine ⟨_, _, hr, ⟨hlen, .inr ⟨g, cap, _, rfl, hbg, setRow_heap w g cur _ e _ hg, hroom, hcm, ?_, ?_⟩⟩, ⟨rfl, rfl, rfl, by simp, fun k _ hk => setRow_other w g k _ (fun e => hk (by simp [Value.ownBlock, e]))⟩⟩
      · simp only [List.size_toArray, List.length_append, List.length_take, List.length_drop, Array.length_toList]
        omega
      · rw [htake, ← hlen]
        exact List.take_left
    · have holds : ∀ j u, xs[j]? = some u → w.drew.cell? ((⟨g, 0, none⟩ : Addr).add j) = some u := fun j u hu => by simpa using hown.cells (g := g) rfl j u hu
      have hr := run_append_grow_src (P := P) w t tx ty e i z ht hi hz (some ⟨g, 0, none⟩) n cap xs (run_firstCells_some w.drew i.size n ⟨g, 0, none⟩ n cap xs hown.1 holds) x m news hsrc (by omega) (by omega) (growslice_fits (by omega) hbytes)
      have hgr := grown cap (by omega) (Value.ownBlock (.slice (some ⟨g, 0, none⟩) n cap))
      exact ⟨_, _, hr, hgr.1, hgr.2⟩

theorem wp_append_src {o : Oper} {a : Act} {K : Act → World → Prop} {Q : Exit → Act → World → Prop} (s xo : Operand) (t tx : TypeId)
    (ho : o.op = .call { callee := .builtin .append, args := #[s, xo], argTypes := #[t, tx] })
    (base : Nat) (e : TypeId) (i : TypeInfo) (z : Value) (size bytes : Nat) (ht : P.underlying t = some (.slice e)) (hi : P.info? e = some i) (hz : i.zero = some z)
    (hsize : i.size = size) (hby : i.bytes = bytes) (hzs : z.cells.size = size)
    (v : Value) (n : Nat) (xs : List Value) (hs : a.eval s = v) (hown : w.ownsRow base e size v n xs)
    (x : Value) (hx : a.eval xo = x) (m : Nat) (news : List Value) (hsrc : Src P size tx x m news w)
    (h63 : n + m ≤ maxLen) (hbytes : (n + m) * bytes ≤ 140737488355328) (hbase : base ≤ w.heap.size)
    (h : ∀ v' w', w'.ownsRow base e size v' (n + m) (xs ++ news) → w.grownBy w' v.ownBlock → K (a.put o.dst v') w') : o.wp P a w K Q := by
  obtain ⟨v', w', hr, h2, h3⟩ := run_append_own_src (P := P) w base t tx o.type e i z size bytes ht hi hz hsize hby hzs v n xs hown x m news hsrc h63 hbytes hbase
  unfold Oper.wp execOp
  simp only [ho, resolve, invoke, builtin, Sem.run_bind, Sem.run_pure, Result.andThen_ok, List.map_toArray, List.map_cons, List.map_nil, hs, hx, hr]
  exact h v' w' h2 h3

theorem wpList_append_src {ops : Array Oper} {rest : List Oper} {o : Oper} {a : Act} {Q : Exit → Act → World → Prop} (hgd : o.guard = none) (s xo : Operand) (t tx : TypeId)
    (ho : o.op = .call { callee := .builtin .append, args := #[s, xo], argTypes := #[t, tx] })
    (base : Nat) (e : TypeId) (i : TypeInfo) (z : Value) (size bytes : Nat) (ht : P.underlying t = some (.slice e)) (hi : P.info? e = some i) (hz : i.zero = some z)
    (hsize : i.size = size) (hby : i.bytes = bytes) (hzs : z.cells.size = size)
    (v : Value) (n : Nat) (xs : List Value) (hs : a.eval s = v) (hown : w.ownsRow base e size v n xs)
    (x : Value) (hx : a.eval xo = x) (m : Nat) (news : List Value) (hsrc : Src P size tx x m news w)
    (h63 : n + m ≤ maxLen) (hbytes : (n + m) * bytes ≤ 140737488355328) (hbase : base ≤ w.heap.size)
    (h : ∀ v' w', w'.ownsRow base e size v' (n + m) (xs ++ news) → w.grownBy w' v.ownBlock → wpList P ops Q rest (a.put o.dst v') w') : wpList P ops Q (o :: rest) a w :=
  wpList_plain hgd fun _ hK => wp_append_src w s xo t tx ho base e i z size bytes ht hi hz hsize hby hzs v n xs hs hown x hx m news hsrc h63 hbytes hbase fun v' w' h2 h3 => hK _ _ (h v' w' h2 h3)

theorem step_append_src {ops : Array Oper} {o : Oper} {a : Act} {K : Act → World → Prop} {Q : Exit → Act → World → Prop} {E : Prop} (hgd : o.guard = none) (s xo : Operand) (t tx : TypeId)
    (ho : o.op = .call { callee := .builtin .append, args := #[s, xo], argTypes := #[t, tx] })
    (base : Nat) (e : TypeId) (i : TypeInfo) (z : Value) (size bytes : Nat) (ht : P.underlying t = some (.slice e)) (hi : P.info? e = some i) (hz : i.zero = some z)
    (hsize : i.size = size) (hby : i.bytes = bytes) (hzs : z.cells.size = size)
    (v : Value) (n : Nat) (xs : List Value) (hs : a.eval s = v) (hown : w.ownsRow base e size v n xs)
    (x : Value) (hx : a.eval xo = x) (m : Nat) (news : List Value) (hsrc : Src P size tx x m news w)
    (h63 : n + m ≤ maxLen) (hbytes : (n + m) * bytes ≤ 140737488355328) (hbase : base ≤ w.heap.size)
    (h : ∀ v' w', w'.ownsRow base e size v' (n + m) (xs ++ news) → w.grownBy w' v.ownBlock → K (a.put o.dst v') w') :
    if Region.wanted o (yielded ops a.tmps) = true then Oper.wp P o a w K Q else E := by
  rw [if_pos (by simp [Region.wanted, hgd])]
  exact wp_append_src w s xo t tx ho base e i z size bytes ht hi hz hsize hby hzs v n xs hs hown x hx m news hsrc h63 hbytes hbase h
end

/-- v is a slice of the bytes l that the call itself made (its block from base on). -/
def Buf (e : TypeId) (w : World) (base : Nat) (v : Value) (l : List UInt8) : Prop := w.ownsRow base e 1 v l.length (l.map B8)
theorem Buf.nil (e : TypeId) (w : World) (base : Nat) : Buf e w base (.slice none 0 0) [] := World.ownsRow_nil w base e 1
theorem Buf.lt {e : TypeId} {w : World} {base : Nat} {v : Value} {l : List UInt8} (h : Buf e w base v l) : ∀ k, v.ownBlock = some k → base ≤ k ∧ k < w.heap.size := World.ownsRow.lt h
theorem Buf.keep {e : TypeId} {F : List Nat} {w w' : World} {base : Nat} {v : Value} {l : List UInt8} (h : Buf e w base v l) (hk : Keep F w w') (hF : ∀ k ∈ F, v.ownBlock ≠ some k) : Buf e w' base v l := by
  refine ⟨h.1, ?_⟩
  rcases h.2 with hn | ⟨g, cap, cur, rfl, hb, hgg, rest⟩
  · exact .inl hn
  · exact .inr ⟨g, cap, cur, rfl, hb, hk.get hgg (fun hm => hF g hm rfl), rest⟩
/-- The block behind a byte slice that is not nil. -/
theorem Buf.cases {e : TypeId} {w : World} {base : Nat} {v : Value} {l : List UInt8} (h : Buf e w base v l) :
    (v = .slice none 0 0 ∧ l = []) ∨ ∃ g cap cur, v = .slice (some ⟨g, 0, none⟩) l.length cap ∧ base ≤ g ∧ w.heap[g]? = some (.cells cur e (0, 0)) ∧ l.length ≤ cap ∧ cap ≤ maxLen ∧ cur.size = cap ∧
      ∀ i, i < l.length → cur[i]? = some (B8 (l.getD i 0)) := by
  rcases h.2 with ⟨h1, h2⟩ | ⟨g, cap, cur, hv, hb, hgg, hn, hc, hs, ht⟩
  · exact .inl ⟨h1, List.eq_nil_of_length_eq_zero h2⟩
  · refine .inr ⟨g, cap, cur, hv, hb, hgg, hn, hc, by simpa using hs, fun i hi => ?_⟩
    have h1 : (cur.toList.take (l.length * 1))[i]? = (l.map B8)[i]? := by rw [ht]
    rw [Nat.mul_one, List.getElem?_take_of_lt hi, List.getElem?_map, Array.getElem?_toList] at h1
    rw [h1, List.getElem?_eq_getElem hi]
    simp [List.getD_eq_getElem?_getD, hi]

theorem Keep.ownBlock {e : TypeId} {F : List Nat} {ws w w' : World} {base : Nat} {v : Value} {l : List UInt8} (hk : Keep F ws w) (hb : Buf e w base v l) (hbase : ws.heap.size ≤ base) (hg : w.grownBy w' v.ownBlock) : Keep F ws w' :=
  hk.grown hg (fun k hk' => Or.inr (by have := (hb.lt k hk').1; omega))

section
variable {P : Program} {w : World} {ops : Array Oper} {rest : List Oper} {o : Oper} {a : Act} {Q : Exit → Act → World → Prop}
/-- append(b, x, y, ..): bytes that were just laid as a row. -/
theorem wpList_append_lit (hgd : o.guard = none) (s xo : Operand) (t : TypeId) (ho : o.op = .call { callee := .builtin .append, args := #[s, xo], argTypes := #[t, t] })
    (F : List Nat) (ws : World) (base : Nat) (hk : Keep F ws w) (hbs : ws.heap.size ≤ base)
    (e : TypeId) (i : TypeInfo) (ht : P.underlying t = some (.slice e)) (hi : P.info? e = some i) (hz : i.zero = some (.int .u8 0)) (hsize : i.size = 1) (hby : i.bytes = 1)
    (v : Value) (l : List UInt8) (hs : a.eval s = v) (hown : Buf e w base v l) (hbase : base ≤ w.heap.size) (bs : List UInt8) (row : Array Value) (hrow : row = (bs.map B8).toArray)
    (n : Nat) (hn : n = bs.length) (hx : a.eval xo = .slice (some ⟨w.heap.size, 0, none⟩) n n) (hlen : l.length + bs.length ≤ 17592186044416)
    (h : ∀ v' w', Buf e w' base v' (l ++ bs) → Keep F ws w' → wpList P ops Q rest (a.put o.dst v') w') : wpList P ops Q (o :: rest) a (w.alloc (.cells row e)) := by
  subst hrow
  subst hn
  have hown' : Buf e (w.alloc (.cells (bs.map B8).toArray e)) base v l := World.ownsRow.alloc hown _
  refine wpList_append_src _ hgd s xo t t ho base e i (.int .u8 0) 1 1 ht hi hz hsize hby rfl v l.length (l.map B8) hs hown' _ hx bs.length (bs.map B8)
    (Src.ofSlice _ ht _ _ _ _ (by simp) (fun j u hu => ?_) (fun u hu => by obtain ⟨b, _, rfl⟩ := List.mem_map.1 hu; rfl)) (by unfold maxLen; omega) (by omega) (by simp; omega) ?_
  · have hadd : (⟨w.heap.size, 0, none⟩ : Addr).add j = ⟨w.heap.size, j, none⟩ := by unfold Addr.add; split <;> simp_all
    rw [hadd, cell_of_row _ w.heap.size j _ _ _ (heap_alloc_new w _)]
    simpa using hu
  · intro v' w' ho' hg'
    refine h v' w' ?_ ((hk.alloc _).ownBlock hown' hbs hg')
    unfold Buf
    rw [List.length_append, List.map_append]
    exact ho'

/-- append(b, s...): a string's bytes. -/
theorem wpList_append_str (hgd : o.guard = none) (s xo : Operand) (t tx : TypeId) (ho : o.op = .call { callee := .builtin .append, args := #[s, xo], argTypes := #[t, tx] })
    (F : List Nat) (ws : World) (base : Nat) (hk : Keep F ws w) (hbs : ws.heap.size ≤ base)
    (e : TypeId) (i : TypeInfo) (ht : P.underlying t = some (.slice e)) (htx : P.underlying tx = some .string) (hi : P.info? e = some i) (hz : i.zero = some (.int .u8 0)) (hsize : i.size = 1) (hby : i.bytes = 1)
    (v : Value) (l : List UInt8) (hs : a.eval s = v) (hown : Buf e w base v l) (hbase : base ≤ w.heap.size) (bs : List UInt8)
    (hx : a.eval xo = .string ⟨bs.toArray⟩) (hlen : l.length + bs.length ≤ 17592186044416)
    (h : ∀ v' w', Buf e w' base v' (l ++ bs) → Keep F ws w' → wpList P ops Q rest (a.put o.dst v') w') : wpList P ops Q (o :: rest) a w := by
  have hsz : (ByteArray.mk bs.toArray).size = bs.length := by simp [ByteArray.size]
  have hbc : byteCells ⟨bs.toArray⟩ = bs.map B8 := by simp [byteCells, B8]
  have hsrc := Src.ofString (P := P) w htx ⟨bs.toArray⟩
  rw [hsz, hbc] at hsrc
  refine wpList_append_src _ hgd s xo t tx ho base e i (.int .u8 0) 1 1 ht hi hz hsize hby rfl v l.length (l.map B8) hs hown _ hx bs.length (bs.map B8) hsrc (by unfold maxLen; omega) (by omega) hbase ?_
  intro v' w' ho' hg'
  refine h v' w' ?_ (hk.ownBlock hown hbs hg')
  unfold Buf
  rw [List.length_append, List.map_append]
  exact ho'

/-- string(b). -/
theorem Buf.string {src dst e : TypeId} {base : Nat} {v : Value} {l : List UInt8} (h : Buf e w base v l) (hs : P.underlying src = some (.slice e)) (he : P.underlying e = some (.int .u8)) (hd : P.underlying dst = some .string) :
    (convert src dst v).run P w = .ok (str l) w := by
  rcases h.cases with ⟨rfl, rfl⟩ | ⟨g, cap, cur, rfl, hb, hg, hn, hc, hz, hcur⟩
  · exact run_convert_bytes_nil w src e hs he 0 0 dst hd
  · refine run_convert_bytes_back w src dst e ⟨g, 0, none⟩ cap l hs he hd (fun j hj => ?_)
    have hadd : (⟨g, 0, none⟩ : Addr).add j = ⟨g, j, none⟩ := by unfold Addr.add; split <;> simp_all
    rw [hadd, cell_of_row w g j _ _ _ hg, hcur j hj]
    simp [B8, List.getD_eq_getElem?_getD, hj]
end

theorem results_cell_tmp_row {P : Program} {fn : Func} {p u : Tmp} {ty : TypeId} (h : fn.results = #[.cell p ty, .tmp u]) (tmps : Array Value) (w : World) (g : Nat) (t : TypeId) (cs : Array Value) (fr : Nat × Nat) (d : TypeDesc)
    (hp : tmps.getD p undef = .pointer (some ⟨g, 0, none⟩)) (hg : w.heap[g]? = some (.cells cs t fr))
    (hu : P.underlying ty = some d) (hd : (match d with | .struct _ | .array _ _ => true | _ => false) = true) (hi : (P.info? ty).map (·.size) = some cs.size) :
    (results fn tmps).run P w = .ok (.tuple #[.agg cs, tmps.getD u undef]) w := by
  rw [results_cell_tmp h, hp]
  simp only [asAddr, Sem.run_pure, Result.andThen_ok, run_loadVar_row w g t ty cs fr d hg hu hd hi]

section
variable {P : Program} {w : World} {ops : Array Oper} {o : Oper} {a : Act} {K : Act → World → Prop} {Q : Exit → Act → World → Prop} {E : Prop}
/-- append(b, x..) of bytes that lie at the head of a row, as one step of a region that draws its order. -/
theorem step_append_bytes (hgd : o.guard = none) (s xo : Operand) (t : TypeId) (ho : o.op = .call { callee := .builtin .append, args := #[s, xo], argTypes := #[t, t] })
    (F : List Nat) (ws : World) (base : Nat) (hk : Keep F ws w) (hbs : ws.heap.size ≤ base)
    (e : TypeId) (i : TypeInfo) (ht : P.underlying t = some (.slice e)) (hi : P.info? e = some i) (hz : i.zero = some (.int .u8 0)) (hsize : i.size = 1) (hby : i.bytes = 1)
    (v : Value) (l : List UInt8) (hs : a.eval s = v) (hown : Buf e w base v l) (hbase : base ≤ w.heap.size) (bs : List UInt8) (g : Nat) (et : TypeId) (fr : Nat × Nat) (hrow : w.heap[g]? = some (.cells (bs.map B8).toArray et fr))
    (n : Nat) (hn : n = bs.length) (hx : a.eval xo = .slice (some ⟨g, 0, none⟩) n n) (hlen : l.length + bs.length ≤ 17592186044416)
    (h : ∀ v' w', Buf e w' base v' (l ++ bs) → w.grownBy w' v.ownBlock → Keep F ws w' → K (a.put o.dst v') w') :
    if Region.wanted o (yielded ops a.tmps) = true then Oper.wp P o a w K Q else E := by
  subst hn
  refine step_append_src _ hgd s xo t t ho base e i (.int .u8 0) 1 1 ht hi hz hsize hby rfl v l.length (l.map B8) hs hown _ hx bs.length (bs.map B8)
    (Src.ofSlice _ ht _ _ _ _ (by simp) (fun j u hu => ?_) (fun u hu => by obtain ⟨b, _, rfl⟩ := List.mem_map.1 hu; rfl)) (by unfold maxLen; omega) (by omega) hbase ?_
  · have hadd : (⟨g, 0, none⟩ : Addr).add j = ⟨g, j, none⟩ := by unfold Addr.add; split <;> simp_all
    rw [hadd, cell_of_row _ g j _ _ _ hrow]
    simpa using hu
  · intro v' w' ho' hg'
    refine h v' w' ?_ hg' (hk.ownBlock hown hbs hg')
    unfold Buf
    rw [List.length_append, List.map_append]
    exact ho'
end
theorem Buf.alloc {e : TypeId} {w : World} {base : Nat} {v : Value} {l : List UInt8} (h : Buf e w base v l) (o : Obj) : Buf e (w.alloc o) base v l := World.ownsRow.alloc h o
theorem Buf.drew {e : TypeId} {w : World} {base : Nat} {v : Value} {l : List UInt8} (h : Buf e w base v l) : Buf e w.drew base v l := h
theorem Buf.isSlice {e : TypeId} {w : World} {base : Nat} {v : Value} {l : List UInt8} (h : Buf e w base v l) : ∃ a n c, v = .slice a n c := by
  rcases h.cases with ⟨rfl, _⟩ | ⟨g, cap, cur, rfl, _⟩
  · exact ⟨_, _, _, rfl⟩
  · exact ⟨_, _, _, rfl⟩
theorem Buf.ne_block {e T : TypeId} {w : World} {base bb : Nat} {v : Value} {l : List UInt8} {cs : Array Value} {fr : Nat × Nat} (h : Buf e w base v l) (hb : w.heap[bb]? = some (.cells cs T fr)) (hT : T ≠ e) : some bb ≠ v.ownBlock := by
  rcases h.cases with ⟨rfl, _⟩ | ⟨g, cap, cur, rfl, _, hg, _⟩
  · simp [Value.ownBlock]
  · intro he
    simp [Value.ownBlock] at he
    subst he
    rw [hg] at hb
    cases hb
    exact hT rfl
theorem ret_int {k : IntKind} {a b : Int} (h : a = b) : Ending.returned (.int k a) = .returned (.int k b) := by rw [h]
end

section
/- sha256.Sum, Join, Tagged. -/
open Go.RowKit

theorem hwrite_any (hb : Nat) (hT : TypeId) (cs : Array Value) (l : List UInt8) (w : World) (hK : KGlob w) (hI : IGlob w)
    (hbK : hb ≠ 2) (hbI : hb ≠ 1)
    (hh : w.heap[hb]? = some (.cells cs hT (0, 0))) (hsz : cs.size = 73) (hone : OneC cs) (h0 : cs[0]? = some (.int .i64 0)) (hlen : l.length ≤ 1099511627776) :
    Calls Tryd.prog 86 #[.pointer (some ⟨hb, 0, none⟩), str l] w fun e w' => e = .returned (.int .i64 0) ∧ Keep [hb] w w' ∧
      ∃ cs', w'.heap[hb]? = some (.cells cs' hT (0, 0)) ∧ cs'.size = 73 ∧ OneC cs' ∧ cs'[0]? = some (.int .i64 l.length) ∧ (0 < l.length → S8at cs' 1 (absorb l (l.length / 64))) ∧ ∀ i, i < l.length % 64 → cs'[9 + i]? = some (B8 (l.getD (64 * (l.length / 64) + i) 0)) := by
  by_cases hp : 0 < l.length
  · refine (hwrite_some hb hT cs l w hK hI hbK hbI hh hsz hone h0 hp hlen).mono ?_
    rintro e w' ⟨he, hk, cs', h1, h2, h3, h4, h5, h6⟩
    exact ⟨he, hk, cs', h1, h2, h3, h4, fun _ => h5, h6⟩
  · obtain rfl : l = [] := List.eq_nil_of_length_eq_zero (by omega)
    refine (hwrite_nil hb hT cs w hh h0).mono ?_
    rintro e w' ⟨he, rfl⟩
    exact ⟨he, Keep.refl _ _, cs, hh, hsz, hone, h0, fun h => by simp at h, fun i hi => by simp at hi⟩

def hash0 : Array Value := #[.int .i64 0] ++ zerosOf .u32 8 ++ zerosOf .u8 64
theorem hash0_size : hash0.size = 73 := by simp [hash0]
theorem hash0_one : OneC hash0 := fun i v hv => by
  have h : ∀ v ∈ hash0.toList, v.oneCell' = true := by decide
  exact h v (List.mem_of_getElem? (by rw [Array.getElem?_toList]; exact hv))
theorem exec_alloc_hash {ρ : Operand → Value} {w : World} {dst : Option Tmp} {t : TypeId} {p : String} {e : Array Edge} {gd : Option (Nat × Bool)} : (execOp ρ ⟨dst, .alloc 145, t, p, e, gd⟩).run Tryd.prog w = .ok (.value (.pointer (some ⟨w.heap.size, 0, none⟩))) (w.alloc (.cells hash0 145)) :=
  exec_alloc_arr 145 _ (by kernel_rfl)

attribute [local go_sem ↓] exec_alloc_dig exec_alloc_hash

set_option maxHeartbeats 400000 in
theorem shasum_any (l : List UInt8) (w : World) (hK : KGlob w) (hI : IGlob w) (hlen : l.length ≤ 1099511627776) :
    Calls Tryd.prog 84 #[str l] w fun e w' => e = .returned (.agg (cellsOf (sha l))) ∧ Keep [] w w' := by
  have h1 := hK.lt
  have h2 : 1 < w.heap.size := lt_of_cell (hI 0 (by omega))
  have HK := Lib.hid hK
  have HI := Lib.hid hI
  clear hK hI
  have hz : ((w.alloc (.cells (zerosOf .u8 32) 125)).alloc (.cells hash0 145)).heap[w.heap.size + 1]? = some (.cells hash0 145 (0, 0)) := heap_alloc_at (by simp)
  have hd : ((w.alloc (.cells (zerosOf .u8 32) 125)).alloc (.cells hash0 145)).heap[w.heap.size]? = some (.cells (zerosOf .u8 32) 125 (0, 0)) := (heap_alloc_past (by simp)).trans (heap_alloc_at rfl)
  have hk : Keep [] w ((w.alloc (.cells (zerosOf .u8 32) 125)).alloc (.cells hash0 145)) := ((Keep.refl _ _).alloc _).alloc _
  have HC := Lib.hid (hwrite_any (w.heap.size + 1) 145 hash0 l _ (HK.out.keep hk (by simp)) (HI.out.keep hk (by simp)) (by omega) (by omega) hz hash0_size hash0_one rfl hlen)
  have HD := Lib.hid hd
  have HKK := Lib.hid hk
  clear hz hd hk
  go_enter Tryd.func84, Tryd.ntmps84
  go_wp2_with (first
    | (go_at_call 86; refine HC.out.mono ?_; rintro e w1 ⟨rfl, hk1, cs1, hh1, hs1, ho1, h01, hst1, hre1⟩
       have hkw : Keep [] w w1 := HKK.out.trans hk1 (by simp)
       have HC2 := Lib.hid (hsum_any (w.heap.size + 1) 145 cs1 l w1 (HK.out.keep hkw (by simp)) (HI.out.keep hkw (by simp)) (by omega) (by omega) hh1 hs1 ho1 h01 hlen hst1 hre1)
       have hd1 : Hid (w1.heap[w.heap.size]? = some (.cells (zerosOf .u8 32) 125 (0, 0))) := hk1.get HD.out (by simp)
       clear hk1 hh1 hs1 ho1 h01 hst1 hre1)
    | (go_at_call 87; refine HC2.out.mono ?_; rintro e w2 ⟨rfl, hk2⟩)
    | (refine wpList_store_part rfl rfl 125 (.tmp 2) (.tmp 6) rfl w.heap.size 0 rfl (cellsOf (sha l)) rfl 125 _ (hk2.get hd1.out (by simp)) (by kernel_rfl) (by simp [sha_length]) (fun v hv => by obtain ⟨b, _, rfl⟩ := List.mem_map.1 hv; rfl) ?_; intro w11 hk11 hh11))
  have hov : over (zerosOf .u8 32) 0 (cellsOf (sha l)).toList = cellsOf (sha l) := by
    unfold over
    rw [List.drop_of_length_le (by simp [zerosOf, sha_length])]
    simp
  rw [hov] at hh11
  exact bodyPost_ret (v := .agg (cellsOf (sha l))) (results_cell_row rfl _ _ w.heap.size _ _ _ _ rfl hh11 Tryd.underlying125 rfl (by kernel_rfl)) rfl ⟨rfl, (hkw.then hk2).trans hk11 (by simp)⟩
end

section
/- sha256.Join, Tagged; frame.check. -/
open Go.RowKit

/-- a length in four bytes -/
def be4b (n : Int) : List UInt8 := [b8 (n / 16777216), b8 (n / 65536), b8 (n / 256), b8 n]
def joinParts (ps : List (List UInt8)) : List UInt8 := (ps.map fun p => be4b p.length ++ p).flatten
def joined (tag : Int) (ps : List (List UInt8)) : List UInt8 := [b8 tag, b8 ps.length] ++ joinParts ps
def total (ps : List (List UInt8)) : Nat := (ps.map fun p => 4 + p.length).sum
theorem joinParts_length (ps : List (List UInt8)) : (joinParts ps).length = total ps := by
  unfold joinParts total
  induction ps with
  | nil => rfl
  | cons p ps ih => simp only [List.map_cons, List.flatten_cons, List.length_append, List.sum_cons, ih]; rfl
theorem joined_length (tag : Int) (ps : List (List UInt8)) : (joined tag ps).length = 2 + total ps := by
  unfold joined; rw [List.length_append, joinParts_length]; rfl
theorem total_snoc (ps : List (List UInt8)) (k : Nat) (h : k < ps.length) : total (ps.take (k + 1)) = total (ps.take k) + (4 + (ps.getD k []).length) := by
  unfold total
  rw [List.take_succ_eq_append_getElem h, List.map_append, List.sum_append]
  simp [List.getD_eq_getElem?_getD, h]
theorem joinParts_snoc (ps : List (List UInt8)) (k : Nat) (h : k < ps.length) : joinParts (ps.take (k + 1)) = joinParts (ps.take k) ++ be4b (ps.getD k []).length ++ ps.getD k [] := by
  unfold joinParts
  rw [List.take_succ_eq_append_getElem h, List.map_append, List.flatten_append]
  simp [List.getD_eq_getElem?_getD, h]
theorem total_take_le (ps : List (List UInt8)) (k : Nat) : total (ps.take k) ≤ total ps := by
  have h := List.take_append_drop k ps
  have : total ps = total (ps.take k) + total (ps.drop k) := by
    conv => lhs; rw [← h]
    unfold total; rw [List.map_append, List.sum_append]
  omega

theorem info_u8 : (Tryd.prog.info? 5).map (fun i => (i.zero, i.size, i.bytes)) = some (some (.int .u8 0), 1, 1) := by kernel_rfl
def intOr : Value → Int | .int _ q => q | _ => 0

set_option maxRecDepth 100000 in
set_option maxHeartbeats 1000000 in
theorem join_any (tag : Int) (pb po : Nat) (ps : List (List UInt8)) (w : World) (ht0 : 0 ≤ tag) (ht1 : tag < 256)
    (hps : ∀ i, i < ps.length → w.cell? ⟨pb, po + i, none⟩ = some (str (ps.getD i []))) (hn : ps.length ≤ 255) (htot : total ps ≤ 1099511627000) :
    Calls Tryd.prog 83 #[.int .u8 tag, .slice (some ⟨pb, po, none⟩) ps.length ps.length] w fun e w' => e = .returned (.tuple #[str (joined tag ps), .int .i64 0]) ∧ Keep [] w w' := by
  obtain ⟨i0, hi, hz0, hz1, hz2⟩ := info_parts info_u8
  have HPS := Lib.hid hps
  have hn' : (ps.length : Int) ≤ 255 := by omega
  clear hps
  unfold str
  go_enter Tryd.func83, Tryd.ntmps83
  go_wp2
  go_loop [6, 8, 18] (fun s _ i => ∃ k : Nat, k ≤ ps.length ∧ i = .int .i64 k ∧ s = .int .i64 ((2 + total (ps.take k) : Nat) : Int)) (fun _ _ i => ps.length - (intOf i).toNat)
  case atStart => exact ⟨0, by omega, rfl, rfl⟩
  case round =>
    obtain ⟨k, hk, rfl, rfl⟩ := hrel
    by_cases hlt : k < ps.length
    · have hc : w.cell? ⟨pb, po + k, none⟩ = some (.string ⟨(ps.getD k []).toArray⟩) := HPS.out k hlt
      have hts := total_snoc ps k hlt
      have htl := total_take_le ps (k + 1)
      have HTS := Lib.hid hts
      have b1 : total (ps.take k) + (4 + (ps.getD k []).length) ≤ 1099511627000 := by omega
      have hsz : (ByteArray.mk (ps.getD k []).toArray).size = (ps.getD k []).length := by simp [ByteArray.size]
      clear hts htl htot
      generalize ps.getD k [] = p at *
      go_wp2
      go_round
      case rel => exact ⟨k + 1, by omega, by go_num, by rw [HTS.out]; congr 1; omega⟩
      case measure => simp [intOf]; omega
    · have HKL : Hid (k = ps.length) := Lib.hid (by omega)
      have hge : ps.length ≤ k := by omega
      have htl := total_take_le ps k
      have HNT : Hid (total (ps.take k) = total ps) := Lib.hid (by rw [HKL.out, List.take_length])
      have hb1 : 2 + total (ps.take k) ≤ 1099511627002 := by omega
      have HROW : Hid ((#[.int .u8 tag, .int .u8 (ps.length : Int)] : Array Value) = ([b8 tag, b8 ps.length].map B8).toArray) := by
        show _ = _
        rw [b8_cell' ht0 ht1, b8_cell' (by omega) (by omega)]; rfl
      clear hlt hk htl htot
      go_wp2_with (first
        | (at_make; refine wpList_make_own _ rfl (.const (.int .i64 0)) (.tmp 28) 35 rfl w.heap.size 5 i0 (.int .u8 0) 1 Tryd.underlying35 hi hz0 hz1 .i64 .i64 _ (2 + total (ps.take k)) rfl rfl rfl (by rw [hz2]; omega) (by unfold maxLen; omega) (Nat.le_refl _) ?_; intro w1 hown1 hg1
           have hk1 : Keep [] w w1 := (Keep.refl [] w).grown hg1 (fun k e => by cases e)
           have hB1 : Buf 5 w1 w.heap.size (.slice (some ⟨w.heap.size, 0, none⟩) 0 (2 + total (ps.take k))) [] := hown1
           have HB1 := Lib.hid hB1
           clear hown1 hg1 hB1)
        | (at_builtin; refine wpList_append_lit rfl (.tmp 30) (.tmp 35) 35 rfl [] w w.heap.size hk1 (Nat.le_refl _) 5 i0 Tryd.underlying35 hi hz0 hz1 hz2 (.slice (some ⟨w.heap.size, 0, none⟩) 0 (2 + total (ps.take k))) [] rfl HB1.out hk1.size [b8 tag, b8 ps.length] _ HROW.out 2 rfl rfl (by simp) ?_
           intro v2 w2 hb2 hk2
           have HB2 := Lib.hid hb2
           clear hb2))
      go_loopw [9, 11, 12, 39] (fun v _ _ i wr => ∃ j : Nat, j ≤ ps.length ∧ i = .int .i64 j ∧ Buf 5 wr w.heap.size v ([b8 tag, b8 ps.length] ++ joinParts (ps.take j)) ∧ Keep [] w wr) (fun _ _ _ i _ => ps.length - (intOf i).toNat)
      case atStart => exact ⟨0, by omega, rfl, HB2.out, hk2⟩
      case round =>
        obtain ⟨j, hj, rfl, hb, hkr⟩ := hrel
        by_cases hlt : j < ps.length
        · have hc0 : w.cell? ⟨pb, po + j, none⟩ = some (.string ⟨(ps.getD j []).toArray⟩) := HPS.out j hlt
          have hc := hkr.cell hc0 (by simp)
          have HJS := Lib.hid (joinParts_snoc ps j hlt)
          have hts := total_snoc ps j hlt
          have htl2 := total_take_le ps (j + 1)
          have hjl := joinParts_length (ps.take j)
          have hlen : ([b8 tag, b8 ps.length] ++ joinParts (ps.take j)).length + 4 + (ps.getD j []).length ≤ 1099511628000 := by
            have := HNT.out
            rw [List.length_append, hjl]; simp only [List.length_cons, List.length_nil]; omega
          have hsz : (ByteArray.mk (ps.getD j []).toArray).size = (ps.getD j []).length := by simp [ByteArray.size]
          have hpl : ((ps.getD j []).length : Int) ≤ 1099511628000 := by omega
          have HB := Lib.hid hb
          clear hts htl2 hjl hb hc0
          generalize ps.getD j [] = p at *
          have HROW4 : Hid ((#[.int .u8 ((p.length : Int) / 16777216 % 256), .int .u8 ((p.length : Int) / 65536 % 256), .int .u8 ((p.length : Int) / 256 % 256), .int .u8 ((p.length : Int) % 256)] : Array Value) = ((be4b p.length).map B8).toArray) := by
            show _ = _
            simp only [← IntKind.wrap_u8, b8_cell]; rfl
          obtain ⟨acc, hacc⟩ : ∃ acc, acc = [b8 tag, b8 ps.length] ++ joinParts (ps.take j) := ⟨_, rfl⟩
          rw [← hacc] at HB hlen
          have HACC := Lib.hid hacc
          clear hacc
          go_wp2_with (first
            | (at_builtin; refine wpList_append_lit rfl (.tmp 45) (.tmp 57) 35 rfl [] w w.heap.size hkr (Nat.le_refl _) 5 i0 Tryd.underlying35 hi hz0 hz1 hz2 u9 acc rfl HB.out hkr.size (be4b p.length) _ HROW4.out 4 rfl rfl (by show _ + 4 ≤ _; omega) ?_
               intro v3 w3 hb3 hk3
               have HB3 := Lib.hid hb3
               clear hb3)
            | (at_builtin; refine wpList_append_str rfl (.tmp 59) (.tmp 60) 35 9 rfl [] w w.heap.size hk3 (Nat.le_refl _) 5 i0 Tryd.underlying35 Tryd.underlying9 hi hz0 hz1 hz2 v3 _ rfl HB3.out hk3.size p rfl (by rw [List.length_append]; show _ + 4 + _ ≤ _; omega) ?_
               intro v4 w4 hb4 hk4))
          go_roundw
          case rel => exact ⟨j + 1, by omega, by go_num, by rw [HJS.out, ← List.append_assoc, ← List.append_assoc, ← HACC.out]; exact hb4, hk4⟩
          case measure => simp [intOf]; omega
        · have HJL : Hid (joinParts (ps.take j) = joinParts ps) := Lib.hid (by rw [List.take_of_length_le (by omega)])
          have hge2 : ps.length ≤ j := by omega
          have hcv := hb.string (src := 35) (dst := 9) Tryd.underlying35 Tryd.underlying5 Tryd.underlying9
          rw [HJL.out] at hcv
          clear hlt hj hb
          go_wp2
          go_ret2
          exact ⟨rfl, hkr⟩
end

section
/- sha256.Tagged, frame.check; the variables that the program reads. -/
open Go.RowKit

def sizesList : List Int := [1, 1, 4, 8, 4]
/-- The package-level variables hold what the text lays. -/
structure Glob (w : World) : Prop where
  k : KGlob w
  i : IGlob w
  s : ∀ j, j < 5 → w.cell? ⟨0, j, none⟩ = some (.int .i64 (sizesList.getD j 0))
theorem Glob.keep {w w' : World} (h : Glob w) {F : List Nat} (hk : Keep F w w') (hF : ∀ x ∈ F, 3 ≤ x) : Glob w' :=
  ⟨h.k.keep hk (fun hx => by have := hF _ hx; omega), h.i.keep hk (fun hx => by have := hF _ hx; omega), fun j hj => hk.cell (h.s j hj) (fun hx => by have := hF _ hx; simp at this)⟩
theorem Glob.keep0 {w w' : World} (h : Glob w) (hk : Keep [] w w') : Glob w' := h.keep hk (by simp)
theorem Glob.lt {w : World} (h : Glob w) : 3 ≤ w.heap.size := by
  have h1 := h.k.lt
  have h2 : 1 < w.heap.size := lt_of_cell (h.i 0 (by omega))
  have h3 : 0 < w.heap.size := lt_of_cell (h.s 0 (by omega))
  omega

/-- the digest of a tag and texts -/
def tagged (tag : Int) (ps : List (List UInt8)) : List UInt8 := sha (joined tag ps)

attribute [local go_sem ↓] exec_alloc_dig
set_option maxRecDepth 100000 in
set_option maxHeartbeats 400000 in
theorem tagged_any (tag : Int) (pb po : Nat) (ps : List (List UInt8)) (w : World) (hG : Glob w) (ht0 : 0 ≤ tag) (ht1 : tag < 256)
    (hps : ∀ i, i < ps.length → w.cell? ⟨pb, po + i, none⟩ = some (str (ps.getD i []))) (hn : ps.length ≤ 255) (htot : total ps ≤ 1099511627000) :
    Calls Tryd.prog 77 #[.int .u8 tag, .slice (some ⟨pb, po, none⟩) ps.length ps.length] w fun e w' => e = .returned (.tuple #[.agg (cellsOf (tagged tag ps)), .int .i64 0]) ∧ Keep [] w w' := by
  have hz : (w.alloc (.cells (zerosOf .u8 32) 125)).heap[w.heap.size]? = some (.cells (zerosOf .u8 32) 125 (0, 0)) := heap_alloc_at rfl
  have hk : Keep [] w (w.alloc (.cells (zerosOf .u8 32) 125)) := (Keep.refl _ _).alloc _
  have HC := Lib.hid (join_any tag pb po ps _ ht0 ht1 (fun i hi => hk.cell (hps i hi) (by simp)) hn htot)
  have HZ := Lib.hid hz
  have HK := Lib.hid hk
  have HG := Lib.hid hG
  have hjl : (joined tag ps).length ≤ 1099511627776 := by rw [joined_length]; omega
  clear hz hk hps hG
  go_enter Tryd.func77, Tryd.ntmps77
  go_wp2_with (first
    | (go_at_call 83; refine HC.out.mono ?_; rintro e w1 ⟨rfl, hk1⟩
       have hkw : Keep [] w w1 := HK.out.then hk1
       have hg1 := HG.out.keep0 hkw
       have HC2 := Lib.hid (shasum_any (joined tag ps) w1 hg1.k hg1.i hjl)
       have hd1 : Hid (w1.heap[w.heap.size]? = some (.cells (zerosOf .u8 32) 125 (0, 0))) := hk1.get HZ.out (by simp)
       clear hk1 hg1)
    | (go_at_call 84; refine HC2.out.mono ?_; rintro e w2 ⟨rfl, hk2⟩)
    | (refine wpList_store_part rfl rfl 125 (.tmp 4) (.tmp 19) rfl w.heap.size 0 rfl (cellsOf (sha (joined tag ps))) rfl 125 _ (hk2.get hd1.out (by simp)) (by kernel_rfl) (by simp [sha_length]) (fun v hv => by obtain ⟨b, _, rfl⟩ := List.mem_map.1 hv; rfl) ?_; intro w11 hk11 hh11))
  have hov : over (zerosOf .u8 32) 0 (cellsOf (sha (joined tag ps))).toList = cellsOf (sha (joined tag ps)) := by
    unfold over
    rw [List.drop_of_length_le (by simp [zerosOf, sha_length])]
    simp
  rw [hov] at hh11
  exact bodyPost_ret (results_cell_tmp_row rfl _ _ w.heap.size _ _ _ _ rfl hh11 Tryd.underlying125 rfl (by kernel_rfl)) rfl ⟨rfl, (hkw.then hk2).trans hk11 (by simp)⟩

set_option maxRecDepth 100000 in
set_option maxHeartbeats 400000 in
theorem check_any (size : Nat) (tag : Int) (pb po : Nat) (ps : List (List UInt8)) (w : World) (hG : Glob w) (hs0 : size ≤ 32) (ht0 : 0 ≤ tag) (ht1 : tag < 256)
    (hps : ∀ i, i < ps.length → w.cell? ⟨pb, po + i, none⟩ = some (str (ps.getD i []))) (hn : ps.length ≤ 255) (htot : total ps ≤ 1099511627000) :
    Calls Tryd.prog 66 #[.int .i64 size, .int .u8 tag, .slice (some ⟨pb, po, none⟩) ps.length ps.length] w fun e w' => e = .returned (str ((tagged tag ps).take size)) ∧ Keep [] w w' := by
  have HC := Lib.hid (tagged_any tag pb po ps w hG ht0 ht1 hps hn htot)
  have hsz : (size : Int) ≤ 32 := by omega
  clear hps hG htot
  go_enter Tryd.func66, Tryd.ntmps66
  go_wp2_with (first
    | (go_at_call 77; refine HC.out.mono ?_; rintro e w1 ⟨rfl, hk1⟩)
    | (refine wpList_store_part rfl rfl 125 (.tmp 7) (.tmp 13) rfl w1.heap.size 0 rfl (cellsOf (tagged tag ps)) rfl 125 (zerosOf .u8 32) (heap_alloc_at rfl) (by kernel_rfl) (by simp [tagged, sha_length]) (fun v hv => by obtain ⟨b, _, rfl⟩ := List.mem_map.1 hv; rfl) ?_; intro w2 hk2 hh2
       have hov : over (zerosOf .u8 32) 0 (cellsOf (tagged tag ps)).toList = cellsOf (tagged tag ps) := by
         unfold over
         rw [List.drop_of_length_le (by simp [zerosOf, tagged, sha_length])]
         simp
       rw [hov] at hh2
       have hcv : ∀ c, (convert 35 9 (.slice (some ⟨w1.heap.size, 0, none⟩) size c)).run Tryd.prog w2 = .ok (str ((tagged tag ps).take size)) w2 := fun c => by
         have hl : ((tagged tag ps).take size).length = size := by rw [List.length_take]; have : (tagged tag ps).length = 32 := sha_length _; omega
         have := run_convert_bytes_back (P := Tryd.prog) w2 35 9 5 ⟨w1.heap.size, 0, none⟩ c ((tagged tag ps).take size) Tryd.underlying35 Tryd.underlying5 Tryd.underlying9 (fun j hj => by
           have hadd : (⟨w1.heap.size, 0, none⟩ : Addr).add j = ⟨w1.heap.size, j, none⟩ := by unfold Addr.add; split <;> simp_all
           rw [hadd, cell_of_row w2 w1.heap.size j _ _ _ hh2, cellsOf_get' _ _ (by rw [show (tagged tag ps).length = 32 from sha_length _]; omega)]
           simp [B8])
         rw [hl] at this
         exact this
       clear hh2 hov))
  go_ret
  exact ⟨rfl, ((hk1.alloc _).trans hk2 (by simp; exact hk1.size))⟩
end
end Go.Proofs.YtgopdbpddemplaaDoor
