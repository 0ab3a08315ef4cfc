/- codec: appendNatural, slices.Clone of bytes, Writer. -/
import Derived.Test.YtgopdbpddemplaaDoorPart08
import Derived.Lib.SliceRun
set_option linter.unusedSimpArgs false
set_option linter.unusedVariables false
namespace Go.Proofs.YtgopdbpddemplaaDoor
section
/- codec: appendNatural, slices.Clone of bytes, Writer. -/
open Go.RowKit

/-- a natural number in groups of seven bits -/
def natF (u : Nat) : List UInt8 := if h : u < 128 then [b8 u] else b8 ((u % 128 + 128 : Nat) : Int) :: natF (u / 128)
termination_by u
theorem natF_lt {u : Nat} (h : u < 128) : natF u = [b8 u] := by rw [natF, dif_pos h]
theorem natF_ge {u : Nat} (h : 128 ≤ u) : natF u = b8 ((u % 128 + 128 : Nat) : Int) :: natF (u / 128) := by rw [natF, dif_neg (by omega)]
theorem natF_length (k : Nat) : ∀ u, u < 128 ^ (k + 1) → (natF u).length ≤ k + 1 := by
  induction k with
  | zero => intro u h; rw [natF_lt (by simpa using h)]; simp
  | succ k ih =>
    intro u h
    by_cases h0 : u < 128
    · rw [natF_lt h0]; simp
    · rw [natF_ge (by omega)]
      have := ih (u / 128) (by rw [Nat.pow_succ] at h; exact Nat.div_lt_of_lt_mul (by rw [Nat.mul_comm]; exact h))
      simp only [List.length_cons]; omega
theorem natF_length10 (u : Nat) (h : u < 18446744073709551616) : (natF u).length ≤ 10 := by
  refine natF_length 9 u ?_
  have : (128:Nat) ^ (9 + 1) = 1180591620717411303424 := by decide
  rw [this]; omega

/-- what lies below a block's number -/
def upto (w : World) (b : Nat) : World := { w with heap := w.heap.extract 0 b }
theorem upto_size {w : World} {b : Nat} (h : b ≤ w.heap.size) : (upto w b).heap.size = b := by simp [upto]; omega
theorem Keep.upto {w : World} {b : Nat} (h : b ≤ w.heap.size) : Keep [] (upto w b) w := ⟨rfl, rfl, rfl, by rw [upto_size h]; exact h, fun k hk _ => by
  rw [upto_size h] at hk
  simp [Go.Proofs.YtgopdbpddemplaaDoor.upto, Array.getElem?_extract, hk]; omega⟩
theorem Keep.ofUpto {w w' : World} {b : Nat} (hb : b ≤ w.heap.size) (hs : w.heap.size ≤ w'.heap.size) (h : Keep [] (Go.Proofs.YtgopdbpddemplaaDoor.upto w b) w') : Below b w w' := ⟨h.os, h.tape, h.output, hs, fun k hk => by
  have := h.heap k (by rw [upto_size hb]; exact hk) (by simp)
  rw [this]
  simp [Go.Proofs.YtgopdbpddemplaaDoor.upto, Array.getElem?_extract]; omega⟩
theorem Keep.belowB {F : List Nat} {a w w' : World} {b : Nat} (h : Keep F a w) (k : Below b w w') (hb : a.heap.size ≤ b) : Keep F a w' :=
  ⟨k.os.trans h.os, k.tape.trans h.tape, k.output.trans h.output, Nat.le_trans h.size k.size, fun j hj hn => (k.block j (by omega)).trans (h.heap j hj hn)⟩

section
variable {P : Program} {w : World} {ops : Array Oper} {rest : List Oper} {o : Oper} {a : Act} {Q : Exit → Act → World → Prop}
/-- append(b, x, y, ..): bytes that were just laid as a row. -/
theorem wpList_append_lit2 (hgd : o.guard = none) (s xo : Operand) (t : TypeId) (ho : o.op = .call { callee := .builtin .append, args := #[s, xo], argTypes := #[t, t] })
    (F : List Nat) (ws : World) (base : Nat) (hk : Keep F ws w) (hbs : ws.heap.size ≤ base)
    (e : TypeId) (i : TypeInfo) (ht : P.underlying t = some (.slice e)) (hi : P.info? e = some i) (hz : i.zero = some (.int .u8 0)) (hsize : i.size = 1) (hby : i.bytes = 1)
    (v : Value) (l : List UInt8) (hs : a.eval s = v) (hown : Buf e w base v l) (hbase : base ≤ w.heap.size) (bs : List UInt8) (row : Array Value) (hrow : row = (bs.map B8).toArray)
    (n : Nat) (hn : n = bs.length) (hx : a.eval xo = .slice (some ⟨w.heap.size, 0, none⟩) n n) (hlen : l.length + bs.length ≤ 17592186044416)
    (h : ∀ v' w', Buf e w' base v' (l ++ bs) → Keep F ws w' → w.heap.size ≤ w'.heap.size → wpList P ops Q rest (a.put o.dst v') w') : wpList P ops Q (o :: rest) a (w.alloc (.cells row e)) := by
  subst hrow
  subst hn
  have hown' : Buf e (w.alloc (.cells (bs.map B8).toArray e)) base v l := World.ownsRow.alloc hown _
  refine wpList_append_src _ hgd s xo t t ho base e i (.int .u8 0) 1 1 ht hi hz hsize hby rfl v l.length (l.map B8) hs hown' _ hx bs.length (bs.map B8)
    (Src.ofSlice _ ht _ _ _ _ (by simp) (fun j u hu => ?_) (fun u hu => by obtain ⟨b, _, rfl⟩ := List.mem_map.1 hu; rfl)) (by unfold maxLen; omega) (by omega) (by simp; omega) ?_
  · have hadd : (⟨w.heap.size, 0, none⟩ : Addr).add j = ⟨w.heap.size, j, none⟩ := by unfold Addr.add; split <;> simp_all
    rw [hadd, cell_of_row _ w.heap.size j _ _ _ (heap_alloc_new w _)]
    simpa using hu
  · intro v' w' ho' hg'
    refine h v' w' ?_ ((hk.alloc _).ownBlock hown' hbs hg') (by have := hg'.size; simp at this; omega)
    unfold Buf
    rw [List.length_append, List.map_append]
    exact ho'

end
theorem Buf.base_le {e : TypeId} {w : World} {base : Nat} {v : Value} {l : List UInt8} (h : Buf e w base v l) (hl : l ≠ []) : base ≤ w.heap.size := by
  rcases h.cases with ⟨_, h⟩ | ⟨g, _, _, rfl, hb, hg, _⟩
  · exact absurd h hl
  · have := lt_of_heap hg; omega
set_option maxRecDepth 100000 in
theorem or128_fin : ∀ m : Fin 256, bits .or .u8 ((m.1 : Nat) : Int) 128 = (m.1 : Int) % 128 + 128 := by decide
theorem or128 (x : Nat) : bits .or .u8 ((x : Int) % 256) 128 = (x : Int) % 128 + 128 := by
  have h := or128_fin ⟨x % 256, Nat.mod_lt _ (by omega)⟩
  have e : ((x % 256 : Nat) : Int) = (x : Int) % 256 := by omega
  simp only [e] at h
  rw [h]; omega

set_option maxRecDepth 100000 in
set_option maxHeartbeats 1000000 in
theorem natural_any (u base : Nat) (v : Value) (l : List UInt8) (F : List Nat) (ws w : World) (hu : u < 18446744073709551616) (hB : Buf 5 w base v l) (hbase : base ≤ w.heap.size) (hbs : ws.heap.size ≤ base) (hK : Keep F ws w) (hlen : l.length ≤ 1000000000) :
    Calls Tryd.prog 73 #[v, .int .u64 u] w fun e w' => ∃ v', e = .returned v' ∧ Buf 5 w' base v' (l ++ natF u) ∧ Keep F ws w' ∧ base ≤ w'.heap.size ∧ w.heap.size ≤ w'.heap.size := by
  obtain ⟨i0, hi, hz0, hz1, hz2⟩ := info_parts info_u8
  have hl10 := natF_length10 u hu
  have HB := Lib.hid hB
  have HK := Lib.hid hK
  clear hB hK
  go_enter Tryd.func73, Tryd.ntmps73
  go_wp2
  go_loopw [0, 1] (fun v1 i wr => ∃ (x : Nat) (acc : List UInt8), i = .int .u64 x ∧ x < 18446744073709551616 ∧ Buf 5 wr base v1 acc ∧ Hid (acc ++ natF x = l ++ natF u) ∧ Keep F ws wr ∧ base ≤ wr.heap.size ∧ w.heap.size ≤ wr.heap.size) (fun _ i _ => (intOf i).toNat)
  case atStart => exact ⟨u, l, rfl, hu, HB.out, Lib.hid rfl, HK.out, hbase, Nat.le_refl _⟩
  case round =>
    obtain ⟨x, acc, rfl, hx, hB, HE, hK, hbr, hsr⟩ := hrel
    have hal : acc.length ≤ 1000000010 := by
      have := congrArg List.length HE.out
      simp only [List.length_append] at this; omega
    by_cases h : 128 ≤ x
    · have HROW : Hid ((#[.int .u8 ((x : Int) % 128 + 128)] : Array Value) = ([b8 ((x % 128 + 128 : Nat) : Int)].map B8).toArray) := by
        show _ = _
        have : ((x : Int) % 128 + 128) = ((x % 128 + 128 : Nat) : Int) := by omega
        rw [this, b8_cell' (by omega) (by omega)]; rfl
      have hor := or128 x
      have HE2 := HE.out
      rw [natF_ge h] at HE2
      have HE3 := Lib.hid HE2
      clear HE2
      go_wp2_with (at_builtin; refine wpList_append_lit2 rfl (.tmp 7) (.tmp 11) 35 rfl F ws base hK hbs 5 i0 Tryd.underlying35 hi hz0 hz1 hz2 u0 acc rfl hB hbr [b8 ((x % 128 + 128 : Nat) : Int)] _ HROW.out 1 rfl rfl (by simp; omega) ?_; intro v2 w2 hb2 hk2 hs2)
      go_roundw
      case rel => exact ⟨x / 128, acc ++ [b8 ((x % 128 + 128 : Nat) : Int)], by first | rfl | (congr 1; omega), by omega, hb2, Lib.hid (by rw [List.append_assoc]; exact HE3.out), hk2, (by first | exact Buf.base_le hb2 (by simp) | exact hb2.base_le (by rw [HE3.out]; simp)), by omega⟩
      case measure => (simp [intOf]; try omega)
    · have hxm : (x : Int) % 256 = x := by omega
      have HROW : Hid ((#[.int .u8 (x : Int)] : Array Value) = ([b8 x].map B8).toArray) := by
        show _ = _
        rw [b8_cell' (by omega) (by omega)]; rfl
      have HE2 := HE.out
      rw [natF_lt (by omega)] at HE2
      have HE3 := Lib.hid HE2
      clear HE2
      go_wp2_with (at_builtin; refine wpList_append_lit2 rfl (.tmp 15) (.tmp 18) 35 rfl F ws base hK hbs 5 i0 Tryd.underlying35 hi hz0 hz1 hz2 u0 acc rfl hB hbr [b8 x] _ HROW.out 1 rfl rfl (by simp; omega) ?_; intro v2 w2 hb2 hk2 hs2)
      go_ret
      exact ⟨_, rfl, by rw [← HE3.out]; exact hb2, hk2, (by first | exact Buf.base_le hb2 (by simp) | exact hb2.base_le (by rw [HE3.out]; simp)), by omega⟩

/-- a slice of bytes that can be read -/
inductive Reads (w : World) : Value → List UInt8 → Prop
  | nil : Reads w (.slice none 0 0) []
  | at (g off cap : Nat) (l : List UInt8) : l.length ≤ cap → (∀ i, i < l.length → w.cell? ⟨g, off + i, none⟩ = some (B8 (l.getD i 0))) → Reads w (.slice (some ⟨g, off, none⟩) l.length cap) l
theorem Buf.reads {e : TypeId} {w : World} {base : Nat} {v : Value} {l : List UInt8} (h : Buf e w base v l) : Reads w v l := by
  rcases h.cases with ⟨rfl, rfl⟩ | ⟨g, cap, cur, rfl, hb, hg, hn, hc, hz, hcur⟩
  · exact .nil
  · exact .at g 0 cap l hn (fun i hi => by rw [Nat.zero_add, cell_of_row w g i _ _ _ hg, hcur i hi])
theorem Reads.keep {w w' : World} {v : Value} {l : List UInt8} {F : List Nat} (h : Reads w v l) (hk : Keep F w w') (hF : ∀ k ∈ F, v.ownBlock ≠ some k) : Reads w' v l := by
  cases h with
  | nil => exact .nil
  | «at» g off cap l hc h =>
    refine .at g off cap l hc (fun i hi => ?_)
    exact hk.cell (h i hi) (fun hm => hF g hm rfl)

set_option maxRecDepth 100000 in
set_option maxHeartbeats 1000000 in
theorem cloneb_any (v : Value) (l : List UInt8) (w : World) (hv : Reads w v l) (hlen : l.length ≤ 1000000000) :
    Calls Tryd.prog 74 #[v] w fun e w' => ∃ v', e = .returned v' ∧ Buf 5 w' w.heap.size v' l ∧ Keep [] w w' := by
  obtain ⟨i0, hi, hz0, hz1, hz2⟩ := info_parts info_u8
  cases hv with
  | nil =>
    go_enter Tryd.func74, Tryd.ntmps74
    have hnn := fun W a n c => Lib.run_eql_slice_nil (P := Tryd.prog) W 35 5 a n c 0 0 Tryd.underlying35
    go_wp2
    go_ret
    exact ⟨_, rfl, Buf.nil _ _ _, Keep.refl _ _⟩
  | «at» g off cap l hc h =>
    have HR := Lib.hid h
    clear h
    have hsrc : Src Tryd.prog 1 35 (.slice (some ⟨g, off, none⟩) l.length cap) l.length (l.map B8) (w.alloc (.cells #[] 5)) :=
      Src.ofSlice _ Tryd.underlying35 _ _ _ _ (by simp) (fun j u hu => by
        have hadd : (⟨g, off, none⟩ : Addr).add j = ⟨g, off + j, none⟩ := by unfold Addr.add; split <;> simp_all
        rw [hadd]
        rw [List.getElem?_map] at hu
        cases hj : l[j]? with
        | none => rw [hj] at hu; cases hu
        | some b =>
          rw [hj] at hu
          cases hu
          have hlt : j < l.length := (List.getElem?_eq_some_iff.1 hj).1
          refine ((Keep.refl [] w).alloc _).cell ?_ (by simp)
          rw [HR.out j hlt]
          simp [List.getD_eq_getElem?_getD, hj]) (fun u hu => by obtain ⟨b, _, rfl⟩ := List.mem_map.1 hu; rfl)
    have HS := Lib.hid hsrc
    clear hsrc
    have hnn := fun W a n c => Lib.run_eql_slice_nil (P := Tryd.prog) W 35 5 a n c 0 0 Tryd.underlying35
    go_enter Tryd.func74, Tryd.ntmps74
    go_wp2_with (at_builtin; refine wpList_append_src _ rfl (.tmp 5) (.tmp 6) 35 35 rfl w.heap.size 5 i0 (.int .u8 0) 1 1 Tryd.underlying35 hi hz0 hz1 hz2 rfl (.slice (some ⟨w.heap.size, 0, none⟩) 0 0) 0 [] rfl (World.ownsRow_made w #[] 0 (Nat.le_refl _) (by decide) (by simp)) _ rfl l.length (l.map B8) HS.out (by unfold maxLen; omega) (by omega) (by simp) ?_; intro v2 w2 ho2 hg2)
    go_ret
    refine ⟨_, rfl, ?_, ((Keep.refl [] w).alloc _).grown hg2 (fun k e => by cases e; simp)⟩
    unfold Buf
    simpa using ho2

/-- a Writer: its bytes, its error -/
def WriterAt (w : World) (p base : Nat) (l : List UInt8) (e : Int) : Prop := ∃ v, w.heap[p]? = some (.cells #[v, .int .i64 e] 118 (0, 0)) ∧ Buf 5 w base v l ∧ p < base ∧ base ≤ w.heap.size

set_option maxHeartbeats 400000 in
theorem newWriter_any (w : World) : Calls Tryd.prog 58 #[] w fun e w' => e = .returned (.pointer (some ⟨w.heap.size, 0, none⟩)) ∧ WriterAt w' w.heap.size (w.heap.size + 1) [] 0 ∧ Keep [] w w' ∧ w'.heap.size = w.heap.size + 1 := by
  go_enter Tryd.func58, Tryd.ntmps58
  go_wp2
  go_ret
  exact ⟨rfl, ⟨_, heap_alloc_new w _, Buf.nil _ _ _, by omega, by simp⟩, (Keep.refl _ _).alloc _, by simp⟩

set_option maxHeartbeats 400000 in
theorem works_ok (p : Nat) (v : Value) (w : World) (hp : w.heap[p]? = some (.cells #[v, .int .i64 0] 118 (0, 0))) : Calls Tryd.prog 72 #[.pointer (some ⟨p, 0, none⟩)] w fun e w' => e = .returned (.bool true) ∧ w' = w := by
  have hc := cell_row' (j := 1) hp
  go_enter Tryd.func72, Tryd.ntmps72
  go_wp2
  go_ret
  exact ⟨rfl, rfl⟩

set_option maxRecDepth 100000 in
set_option maxHeartbeats 1000000 in
theorem wnumber_ok (n p base : Nat) (l : List UInt8) (w : World) (hW : WriterAt w p base l 0) (hn : n < 9223372036854775808) (hlen : l.length ≤ 1000000000) :
    Calls Tryd.prog 59 #[.pointer (some ⟨p, 0, none⟩), .int .i64 n] w fun e w' => e = .returned (.tuple #[]) ∧ WriterAt w' p base (l ++ natF n) 0 ∧ (∀ F ws, Keep F ws w → ws.heap.size ≤ p → Keep F ws w') := by
  obtain ⟨v, hp, hB, hpb, hbs⟩ := hW
  have hc0 := cell_row' (j := 0) hp
  go_enter Tryd.func59, Tryd.ntmps59
  go_wp2_with (first
    | (go_at_call 72; refine (works_ok p v w hp).mono ?_; rintro e w1 ⟨rfl, rfl⟩)
    | (go_at_call 73; refine (natural_any n base v l [] (upto w1 base) w1 (by omega) hB hbs (by rw [upto_size hbs]; omega) (Keep.upto hbs) hlen).mono ?_
       rintro e w2 ⟨v2, rfl, hB2, hk2, hs2, hs3⟩
       obtain ⟨sa, sn, sc, rfl⟩ := hB2.isSlice
       have hp2 := hk2.get (k := p) (by rw [show (upto w1 base).heap[p]? = w1.heap[p]? by simp [upto, Array.getElem?_extract]; omega]; exact hp) (by simp)
       have hfr2 : w2.frozen? ⟨p, 0, none⟩ = false := frozen_row' hp2
       have hcc2 := cell_row' (j := 0) hp2))
  have hbw := Keep.ofUpto hbs hs3 hk2
  have hk4 : Keep [p] w2 (w2.setCell ⟨p, 0, none⟩ (.slice sa sn sc)) := (Keep.refl _ _).setCell (by simp) _
  go_end0
  refine ⟨rfl, ⟨_, heap_setCell_same w2 p 0 _ _ (.slice sa sn sc) hp2, hB2.keep hk4 (fun x hx => ?_), hpb, by simp; omega⟩, fun F ws hK hws => (hK.belowB hbw (by omega)).setCell (Or.inr hws) _⟩
  rw [List.mem_singleton.1 hx]
  intro h
  have := (hB2.lt _ h).1
  omega

set_option maxRecDepth 100000 in
set_option maxHeartbeats 1000000 in
theorem wbytes_ok (p base : Nat) (l : List UInt8) (w : World) (hW : WriterAt w p base l 0) (hlen : l.length ≤ 1000000000) :
    Calls Tryd.prog 60 #[.pointer (some ⟨p, 0, none⟩)] w fun e w' => ∃ v, e = .returned (.tuple #[v, .int .i64 0]) ∧ Buf 5 w' w.heap.size v l ∧ Keep [] w w' := by
  obtain ⟨v, hp, hB, hpb, hbs⟩ := hW
  have hc0 := cell_row' (j := 0) hp
  have hc1 := cell_row' (j := 1) hp
  obtain ⟨sa, sn, sc, rfl⟩ := hB.isSlice
  go_enter Tryd.func60, Tryd.ntmps60
  go_wp2_with (go_at_call 74; refine (cloneb_any _ l w hB.reads hlen).mono ?_; rintro e w1 ⟨v1, rfl, hB1, hk1⟩)
  go_ret2
  exact ⟨_, rfl, hB1, hk1⟩
end
end Go.Proofs.YtgopdbpddemplaaDoor
