/- ring: Open, all ways. · Plain law: an open ring on a device without failures. -/
import Derived.Test.YtgopdbpddemplaaDoorPart29
import Derived.Test.YtgopdbpddemplaaDoorPart24
import Derived.Test.YtgopdbpddemplaaDoorPart26
set_option linter.unusedSimpArgs false
set_option linter.unusedVariables false
namespace Go.Proofs.YtgopdbpddemplaaDoor
section
/- ring: Open, all ways. -/
open Go.RowKit Go.Shelf
attribute [local go_sem] Oper.semAt_some

theorem open_any {F : List Nat} {w : World} {p : Nat} {d : DK} (hG : Glob w) (h : DiskAt w p d F) (first blocks : Int) (hb0 : 0 ≤ d.blocks) (hb1 : d.blocks ≤ 8192) (hfi : first ≤ 9223372036854775807) (hlen : d.pend.length ≤ 50000000) (hFG : ∀ x ∈ F, 3 ≤ x) :
    Calls Tryd.prog 13 #[.pointer (some ⟨p, 0, none⟩), .int .i64 first, .int .i64 blocks] w (OpenPost w F p (openF d p first blocks)) := by
  by_cases he : areaErr d first blocks = 0
  · cases hc : currentF d (areaN p first blocks) with
    | none => exact open_err2 hG h first blocks hb0 hb1 hfi he hc
    | some h0 =>
      by_cases hm : h0.generation = 2147483647
      · exact open_err3 hG h first blocks hb0 hb1 hfi he h0 hc hm
      · exact open_main hG h first blocks hb0 hb1 hfi hlen hFG he h0 hc hm
  · exact open_err1 h first blocks hb0 hb1 hfi he
set_option maxRecDepth 100000 in
set_option maxHeartbeats 2000000 in
theorem open_nil (first blocks : Int) (w : World) : Calls Tryd.prog 13 #[.pointer none, .int .i64 first, .int .i64 blocks] w fun e w' => e = .returned (.tuple #[.pointer none, .slice none 0 0, .int .i64 1]) ∧ Keep [] w w' := by
  refine (callsIn_wide (n := 20)).1 ?_
  refine callsIn_of_wp_marks Tryd.func13 rfl trivial ?_ rfl
  simp only [Tryd.ntmps13, List.size_toArray, List.length_cons, List.length_nil, Nat.reduceAdd, Nat.reduceSub, Array.replicate_succ, Array.replicate_zero, List.push_toArray, List.append_toArray, List.nil_append, List.cons_append]
  refine wpIn_wide.2 ?_
  go_wp2_with (first
    | (go_at_call 28; refine (areaOf_nil first blocks _).mono ?_; unfold zeroA; rintro e w1 ⟨rfl, hk1⟩
       obtain ⟨hB1, hkw1, rD1, hs1⟩ := boxes3 hk1
       have hB2 := hB1.keep0 ((Keep.refl [] w1).alloc (.cells #[.pointer none, .int .i64 0, .int .i64 0] 63))
       obtain ⟨ca, fa, cb, fb, cc, fc⟩ := hB2.cells))
  obtain ⟨hB3, hk3⟩ := hB2.set (.pointer none) (.slice none 0 0) (.int .i64 1)
  refine open_ret hB3 rfl rfl rfl ?_
  exact ⟨rfl, (hkw1.alloc (.cells #[.pointer none, .int .i64 0, .int .i64 0] 63)).trans hk3 (fun x hx => by simp only [List.mem_cons, List.not_mem_nil, or_false] at hx; omega)⟩
end

section
/- Plain law: an open ring on a device without failures. -/
open Go.RowKit

/-- the other head, if there is one, is older -/
def OldHead (d : DK) (a : AR) (g : Nat) : Prop := ∀ h', headF d a ((g + 1) % 2) = some h' → h'.generation < g
theorem headF_vis {d d' : DK} {a : AR} {n : Nat} (h : d'.vis ((a.first + n : Nat) : Int) = d.vis ((a.first + n : Nat) : Int)) : headF d' a n = headF d a n := by
  unfold headF; rw [h]
theorem OldHead.congr {d d' : DK} {a : AR} {g : Nat} (h : OldHead d a g) (hv : d'.vis ((a.first + (g + 1) % 2 : Nat) : Int) = d.vis ((a.first + (g + 1) % 2 : Nat) : Int)) : OldHead d' a g := fun h' e => h h' (by rw [headF_vis hv] at e; exact e)
/-- a ring that is open, and its texts, on a device -/
structure Inv (d : DK) (r : RV) (ts : List (List UInt8)) : Prop where
  a : r.a.ok
  fits : r.a.fits d
  h : r.h.ok
  hp : r.h.place < r.a.places
  head : d.vis ((r.a.first + r.h.generation % 2 : Nat) : Int) = r.h.bytes
  other : OldHead d r.a r.h.generation
  laid : Laid d.vis r.a r.h.generation r.h.place r.h.first r.h.base r.es ts
  used : r.used = sumB r.es
  le : r.used ≤ r.a.places
  stale : ∀ q, q < r.a.places → Stale (d.vis ((r.a.first + 2 + q : Nat) : Int)) r.h.generation r.h.base (r.h.first + r.es.length)
  failed : r.failed = 0
theorem Inv.hb {d : DK} {r : RV} {ts : List (List UInt8)} (h : Inv d r ts) : r.h.base ≤ r.h.generation := h.laid.le.1
theorem Inv.len {d : DK} {r : RV} {ts : List (List UInt8)} (h : Inv d r ts) : r.es.length = ts.length := h.laid.le.2.1
theorem Inv.rok {d : DK} {r : RV} {ts : List (List UInt8)} (h : Inv d r ts) : r.ok := ⟨h.a, h.h, h.le, by have := h.laid.le.2.2; have := h.used; have := h.le; have := h.a.2.2; omega⟩
theorem Inv.cur {d : DK} {r : RV} {ts : List (List UInt8)} (h : Inv d r ts) : headF d r.a (r.h.generation % 2) = some r.h :=
  headF_at h.h h.hp h.hb _ (by rw [h.head]; rfl)
theorem Inv.current {d : DK} {r : RV} {ts : List (List UInt8)} (h : Inv d r ts) : currentF d r.a = some r.h := by
  have h1 := h.cur
  have h2 := h.other
  unfold OldHead at h2
  rcases Nat.mod_two_eq_zero_or_one r.h.generation with e | e
  · rw [e] at h1
    rw [show (r.h.generation + 1) % 2 = 1 from by omega] at h2
    unfold currentF
    rw [h1]
    cases hy : headF d r.a 1 with
    | none => rfl
    | some y => simp only; rw [if_neg (by have := h2 y hy; omega)]
  · rw [e] at h1
    rw [show (r.h.generation + 1) % 2 = 0 from by omega] at h2
    unfold currentF
    rw [h1]
    cases hy : headF d r.a 0 with
    | none => rfl
    | some y => simp only; rw [if_pos (by have := h2 y hy; omega)]
/-- nothing that the ring reads has turned -/
theorem Inv.congr {d d' : DK} {r : RV} {ts : List (List UInt8)} (h : Inv d r ts) (hv : d'.vis = d.vis) (hb : d'.blocks = d.blocks) : Inv d' r ts :=
  ⟨h.a, by have := h.fits; unfold AR.fits at *; rw [hb]; exact this, h.h, h.hp, by rw [hv]; exact h.head, h.other.congr (by rw [hv]), by rw [hv]; exact h.laid, h.used, h.le, fun q hq => by rw [hv]; exact h.stale q hq, h.failed⟩
theorem Inv.synced {d : DK} {r : RV} {ts : List (List UInt8)} (h : Inv d r ts) (n : Nat) : Inv d { r with synced := n } ts := ⟨h.a, h.fits, h.h, h.hp, h.head, h.other, h.laid, h.used, h.le, h.stale, h.failed⟩

theorem sync_inv {d : DK} {r : RV} {ts : List (List UInt8)} {m : Nat} (h : Inv d r ts) (hg : d.good m) :
    (syncF d r).1 = 0 ∧ (syncF d r).2.1.good 0 ∧ (syncF d r).2.1.blocks = d.blocks ∧ Inv (syncF d r).2.1 (syncF d r).2.2 ts ∧ (syncF d r).2.2.a = r.a ∧ (syncF d r).2.2.h = r.h ∧ (syncF d r).2.2.es = r.es := by
  obtain ⟨k1, k2, k3, k4⟩ := flush_good hg
  unfold syncF
  rw [if_neg (by simp [h.failed]), if_neg (by simpa using k1)]
  exact ⟨rfl, k2, k4, (h.congr k3 k4).synced _, rfl, rfl, rfl⟩

theorem chunk_head {st nu : Nat} {t : List UInt8} : (chunkAt 0 (encodeF 2 st nu t)).take 18 = hbytes 2 st nu t.length := by
  have hH := hbytes_length 2 st nu t.length
  unfold chunkAt chunkF dropAt
  simp only [if_true, List.drop_zero, padTo]
  rw [List.take_append_of_le_length (by rw [List.length_take, encodeF_length]; omega), List.take_take]
  unfold encodeF
  rw [List.append_assoc, List.append_assoc, show min 18 512 = 18 from rfl, List.take_left' hH]
theorem chunk_more {j : Nat} (h : j ≠ 0) (s : List UInt8) : (chunkAt j s).getD 0 0 ≠ 245 := by
  unfold chunkAt chunkF
  rw [if_neg h]
  exact (by decide : (0 : UInt8) ≠ 245)
/-- every place is a block of the circle -/
theorem place_blk {a : AR} (p q : Nat) (hq : q < a.places) : ∃ j, j < a.places ∧ a.first + 2 + q = a.blk p j := by
  have hp : p % a.places < a.places := Nat.mod_lt _ (by omega)
  by_cases h : p % a.places ≤ q
  · refine ⟨q - p % a.places, by omega, ?_⟩
    rw [← blk_mod]
    unfold AR.blk
    rw [show p % a.places + (q - p % a.places) = q from by omega, Nat.mod_eq_of_lt hq]
  · refine ⟨q + a.places - p % a.places, by omega, ?_⟩
    rw [← blk_mod]
    unfold AR.blk
    rw [show p % a.places + (q + a.places - p % a.places) = q + a.places from by omega, Nat.add_mod_right, Nat.mod_eq_of_lt hq]
theorem append_inv {d : DK} {r : RV} {ts : List (List UInt8)} {m : Nat} (h : Inv d r ts) (hg : d.good m) (hnum : r.h.first + r.es.length ≤ 1099511627775) (t : List UInt8) (hl : t.length ≤ 131072) :
    ∃ d', d'.good (m + blocksN (26 + t.length + 16)) ∧ d'.blocks = d.blocks ∧
      ((r.a.places - r.used < blocksN (26 + t.length + 16) ∧ appendF d r t = ((0, 26), d, r) ∧ d' = d) ∨
       (blocksN (26 + t.length + 16) ≤ r.a.places - r.used ∧ appendF d r t = ((((r.h.first + r.es.length : Nat) : Int), 0), d', r.add (r.h.generation, blocksN (26 + t.length + 16))) ∧ Inv d' (r.add (r.h.generation, blocksN (26 + t.length + 16))) (ts ++ [t]))) := by
  by_cases hf : r.a.places - r.used < blocksN (26 + t.length + 16)
  · refine ⟨d, hg.mono (by omega), rfl, .inl ⟨hf, ?_, rfl⟩⟩
    unfold appendF
    rw [if_neg (by simp [h.failed]), if_neg (by omega), if_pos hf]
  · have hN : ((encodeF 2 r.h.generation ((r.h.first + r.es.length : Nat) : Int) t).length - 1 + 511 - 1) / 511 = blocksN (26 + t.length + 16) := by rw [encodeF_length]; rfl
    have hrok := h.rok
    have hle := h.le
    obtain ⟨w1, w2, w3, w4, w5, w6⟩ := wfold_good hg h.a h.fits ((r.h.place + r.used) % r.a.places) (encodeF 2 r.h.generation ((r.h.first + r.es.length : Nat) : Int) t) (blocksN (26 + t.length + 16)) (by omega)
    refine ⟨(wfold r.a ((r.h.place + r.used) % r.a.places) d (encodeF 2 r.h.generation ((r.h.first + r.es.length : Nat) : Int) t) (List.range (blocksN (26 + t.length + 16)))).2.1, w2, w3, .inr ⟨by omega, ?_, ?_⟩⟩
    · unfold appendF
      rw [if_neg (by simp [h.failed]), if_neg (by omega), if_neg hf, if_neg (by omega)]
      simp only [hN]
      rw [if_neg (by simpa using w1)]
    · generalize (wfold r.a ((r.h.place + r.used) % r.a.places) d (encodeF 2 r.h.generation ((r.h.first + r.es.length : Nat) : Int) t) (List.range (blocksN (26 + t.length + 16)))).2.1 = d' at *
      simp only [blk_mod] at w5 w6
      have hold : ∀ j, j < r.used → d'.vis (r.a.blk r.h.place j) = d.vis (r.a.blk r.h.place j) := fun j hj => w6 _ (fun i hi e => by
        rw [blk_add] at e
        have := blk_inj (by omega) (by omega) e
        omega)
      have hstale : ∀ q, q < r.a.places → Stale (d'.vis ((r.a.first + 2 + q : Nat) : Int)) r.h.generation r.h.base (r.h.first + (r.es.length + 1)) := fun q hq => by
        obtain ⟨j, hj, e⟩ := place_blk (r.h.place + r.used) q hq
        rw [e]
        by_cases hjn : j < blocksN (26 + t.length + 16)
        · rw [w5 j hjn]
          by_cases h0 : j = 0
          · subst h0
            exact .inr ⟨r.h.generation, r.h.first + r.es.length, t.length, chunk_head, ⟨by omega, by omega, by omega, by have := h.h.g; omega, by omega, by omega, by omega⟩, Nat.le_refl _, .inl (by omega)⟩
          · exact .inl (chunk_more h0 _)
        · rw [w6 _ (fun i hi e => by have := blk_inj hj (by omega) e; omega), ← e]
          exact (h.stale q hq).mono (Nat.le_refl _) (Nat.le_refl _) (by omega)
      have hlaid := (h.laid.congr (V' := d'.vis) (fun j hj => hold j (by rw [h.used]; exact hj))).snoc (st := r.h.generation) (t := t) rfl hl (fun j hj => by rw [← h.used]; exact w5 j hj)
      refine ⟨h.a, by have := h.fits; unfold AR.fits at *; simp only [RV.add]; rw [w3]; exact this, h.h, h.hp, ?_, h.other.congr (w6 _ (fun i hi e => blk_head e.symm)), hlaid, ?_, ?_, ?_, h.failed⟩
      · rw [show (r.add (r.h.generation, blocksN (26 + t.length + 16))).a = r.a from rfl, show (r.add (r.h.generation, blocksN (26 + t.length + 16))).h = r.h from rfl, w6 _ (fun i hi e => blk_head e.symm)]
        exact h.head
      · simp only [RV.add, sumB_append, h.used, sumB_cons, sumB_nil, Nat.add_zero]
      · simp only [RV.add]; omega
      · simp only [RV.add, List.length_append, List.length_singleton]; exact hstale

theorem HV.bytes_rest (h : HV) : ∃ rest, h.bytes = h.text ++ rest := ⟨_, rfl⟩
theorem take_sum (es : List (Nat × Nat)) (c : Nat) : ((es.take c).map (·.2)).sum = sumB (es.take c) := rfl
theorem sum_take_drop (es : List (Nat × Nat)) (c : Nat) : sumB (es.take c) + sumB (es.drop c) = sumB es := by
  rw [← sumB_append, List.take_append_drop]
theorem trim_inv {d : DK} {r : RV} {ts : List (List UInt8)} {m : Nat} (h : Inv d r ts) (hg : d.good m) (hgen : r.h.generation < 2147483647) (hnum : r.h.first + r.es.length ≤ 1099511627775) (before : Int) :
    ((before < r.h.first ∨ before > ((r.h.first + r.es.length : Nat) : Int)) ∧ trimF d r before = (2, d, r)) ∨ (before = r.h.first ∧ trimF d r before = (0, d, r)) ∨
    ∃ c d', before = ((r.h.first + c : Nat) : Int) ∧ 1 ≤ c ∧ c ≤ r.es.length ∧ d'.good 0 ∧ d'.blocks = d.blocks ∧
      trimF d r before = (0, d', { r with h := trimH r c, es := r.es.drop c, used := r.used - sumB (r.es.take c), synced := r.h.first + r.es.length }) ∧
      Inv d' { r with h := trimH r c, es := r.es.drop c, used := r.used - sumB (r.es.take c), synced := r.h.first + r.es.length } (ts.drop c) := by
  by_cases h1 : before < r.h.first ∨ before > ((r.h.first + r.es.length : Nat) : Int)
  · left
    refine ⟨h1, ?_⟩
    unfold trimF
    rw [if_neg (by simp [h.failed]), if_pos h1]
  · by_cases h2 : before = r.h.first
    · right; left
      refine ⟨h2, ?_⟩
      unfold trimF
      rw [if_neg (by simp [h.failed]), if_neg h1, if_pos h2]
    · right; right
      obtain ⟨c, hc⟩ : ∃ c : Nat, before = ((r.h.first + c : Nat) : Int) := ⟨(before - r.h.first).toNat, by omega⟩
      have hc1 : 1 ≤ c := by omega
      have hc2 : c ≤ r.es.length := by omega
      have hcc : (before - r.h.first).toNat = c := by omega
      obtain ⟨q1, q2⟩ := h.laid.drop c hc1 hc2
      have hpl := h.a.2.1
      have hst := q1.le.1
      have hok : (trimH r c).ok := by
        refine ⟨?_, ?_, ?_, ?_⟩
        · show r.h.generation + 1 ≤ _; omega
        · show r.h.first + c ≤ _; omega
        · have := Nat.mod_lt (r.h.place + ((r.es.take c).map (·.2)).sum) (show r.a.places > 0 by omega)
          have := h.a.2.2
          show (r.h.place + ((r.es.take c).map (·.2)).sum) % r.a.places ≤ _; omega
        · have := h.h.g
          show (r.es.getD (c - 1) (0, 0)).1 ≤ _; omega
      obtain ⟨p1, p2, p3, p4⟩ := putD_good hg h.fits hok
      refine ⟨c, (putD d r.a (trimH r c)).2, hc, hc1, hc2, p2, p4, ?_, ?_⟩
      · unfold trimF
        rw [if_neg (by simp [h.failed]), if_neg h1, if_neg h2, if_neg (by omega)]
        simp only [hcc]
        rw [if_neg (by simpa using p1)]
        rfl
      · generalize (putD d r.a (trimH r c)).2 = d' at *
        have hgen1 : (trimH r c).generation = r.h.generation + 1 := rfl
        have hvb : ∀ p j : Nat, d'.vis (r.a.blk p j) = d.vis (r.a.blk p j) := fun p j => by
          rw [p3]; unfold setDur; rw [if_neg (fun e => blk_head e)]
        refine ⟨h.a, by have := h.fits; unfold AR.fits at *; rw [p4]; exact this, hok, Nat.mod_lt _ (by omega), ?_, ?_, ?_, ?_, ?_, ?_, h.failed⟩
        · simp only [p3, setDur, if_true]
        · intro h' e
          show h'.generation < (trimH r c).generation
          rw [hgen1]
          have e2 : headF d r.a (r.h.generation % 2) = some h' := by
            rw [← e]
            show _ = headF d' r.a ((r.h.generation + 1 + 1) % 2)
            rw [show (r.h.generation + 1 + 1) % 2 = r.h.generation % 2 from by omega]
            refine (headF_vis ?_).symm
            rw [p3]; unfold setDur
            rw [if_neg (by rw [hgen1]; omega)]
          rw [h.cur] at e2
          cases e2
          omega
        · show Laid d'.vis r.a (r.h.generation + 1) ((r.h.place + sumB (r.es.take c)) % r.a.places) (r.h.first + c) (r.es.getD (c - 1) (0, 0)).1 (r.es.drop c) (ts.drop c)
          refine (Laid.mod _ (Nat.mod_mod _ _).symm (q1.gen (Nat.le_succ _))).congr (fun j _ => hvb _ j)
        · show r.used - sumB (r.es.take c) = sumB (r.es.drop c)
          have := sum_take_drop r.es c
          have := h.used
          omega
        · show r.used - sumB (r.es.take c) ≤ r.a.places
          have := h.le
          omega
        · intro q hq
          obtain ⟨j, _, e⟩ := place_blk 0 q hq
          show Stale (d'.vis ((r.a.first + 2 + q : Nat) : Int)) (r.h.generation + 1) (r.es.getD (c - 1) (0, 0)).1 (r.h.first + c + (r.es.drop c).length)
          have hs := (h.stale q hq).mono (Nat.le_succ r.h.generation) q2 (Nat.le_refl _)
          rw [e] at hs ⊢
          rw [hvb, List.length_drop, show r.h.first + c + (r.es.length - c) = r.h.first + r.es.length from by omega]
          exact hs

/-- what Open makes of a ring -/
def RV.opened (r : RV) : RV := ⟨r.a, { r.h with generation := r.h.generation + 1 }, r.es, r.used, r.h.first + r.es.length, 0⟩
theorem open_inv {d : DK} {r : RV} {ts : List (List UInt8)} {m : Nat} (h : Inv d r ts) (hg : d.good m) (hgen : r.h.generation < 2147483647) (hnum : r.h.first + r.es.length ≤ 1099511627775)
    {p : Nat} {first blocks : Int} (ha : r.a = areaN p first blocks) (he : areaErr d first blocks = 0) :
    ∃ d', openF d p first blocks = (0, d', some (r.opened, numb r.h.first ts)) ∧ d'.good 0 ∧ d'.blocks = d.blocks ∧ Inv d' r.opened ts := by
  have hcur := h.current
  have hlen := h.len
  have hpl := h.a.2.1
  have hfind := findF_laid hg.ok (a := r.a) (h := r.h) (base := r.h.base) (next := r.h.first + r.es.length) hpl (by omega) hnum h.stale r.es ts r.a.places [] 0 0 r.h.base 0 []
    (by simpa using h.laid) (Nat.le_refl _) (by simp; omega) (by have := h.used; have := h.le; omega) (by omega)
  simp only [List.nil_append, List.length_nil, Nat.add_zero, Nat.zero_add, ← h.used] at hfind
  have hhas : d.has (r.a.blk ((r.h.place + r.used) % r.a.places) 0) = true := AR.has h.fits h.a _ _
  -- the device after the block behind the last entry is cleared
  obtain ⟨W, hW⟩ : ∃ W, W = if r.a.places - r.used = 0 then ((0 : Int), d) else d.write (r.a.blk ((r.h.place + r.used) % r.a.places) 0) zero512 := ⟨_, rfl⟩
  have hWg : W.1 = 0 ∧ W.2.good (m + 1) ∧ W.2.blocks = d.blocks ∧ (∀ b : Int, (r.a.places - r.used = 0 ∨ b ≠ r.a.blk (r.h.place + r.used) 0) → W.2.vis b = d.vis b) ∧ (∀ b : Int, W.2.vis b = d.vis b ∨ W.2.vis b = zero512) := by
    by_cases hz : r.a.places - r.used = 0
    · rw [if_pos hz] at hW
      rw [hW]
      exact ⟨rfl, hg.mono (by omega), rfl, fun _ _ => rfl, fun _ => .inl rfl⟩
    · rw [if_neg hz] at hW
      obtain ⟨w1, w2, w3, w4⟩ := write_good hg hhas (show zero512.length = 512 from List.length_replicate)
      rw [hW]
      refine ⟨w1, w2, w4, fun b hb => ?_, fun b => ?_⟩
      · rw [w3]; unfold setDur
        rw [blk_mod]
        rw [if_neg (hb.resolve_left hz)]
      · rw [w3]; unfold setDur
        split
        · exact .inr rfl
        · exact .inl rfl
  obtain ⟨w1, w2, w3, w4, w5⟩ := hWg
  have hok : ({ r.h with generation := r.h.generation + 1 } : HV).ok := ⟨by show r.h.generation + 1 ≤ _; omega, h.h.f, h.h.p, h.h.b⟩
  have hfitW : r.a.fits W.2 := by have := h.fits; unfold AR.fits at *; rw [w3]; exact this
  obtain ⟨p1, p2, p3, p4⟩ := putD_good w2 hfitW hok
  refine ⟨(putD W.2 r.a { r.h with generation := r.h.generation + 1 }).2, ?_, p2, p4.trans w3, ?_⟩
  · unfold openF
    rw [if_neg (by simpa using he)]
    simp only
    rw [← ha, hcur]
    simp only
    rw [if_neg (by omega), hfind.1, hfind.2]
    simp only
    rw [← hW, if_neg (by simpa using w1), if_neg (by simpa using p1)]
    rfl
  · generalize (putD W.2 r.a { r.h with generation := r.h.generation + 1 }).2 = d' at *
    have hvb : ∀ p j : Nat, d'.vis (r.a.blk p j) = W.2.vis (r.a.blk p j) := fun p j => by
      rw [p3]; unfold setDur; rw [if_neg (fun e => blk_head e)]
    refine ⟨h.a, by unfold AR.fits at *; rw [p4]; exact hfitW, hok, h.hp, ?_, ?_, ?_, h.used, h.le, ?_, rfl⟩
    · show d'.vis ((r.a.first + (r.h.generation + 1) % 2 : Nat) : Int) = _
      rw [p3]; unfold setDur
      rw [if_pos rfl]; rfl
    · intro h' e
      show h'.generation < r.h.generation + 1
      have e2 : headF d r.a (r.h.generation % 2) = some h' := by
        rw [← e]
        show _ = headF d' r.a ((r.h.generation + 1 + 1) % 2)
        rw [show (r.h.generation + 1 + 1) % 2 = r.h.generation % 2 from by omega]
        refine (headF_vis ?_).symm
        rw [p3]; unfold setDur
        rw [if_neg (by simp only; omega)]
        refine w4 _ (Or.inr (fun e => blk_head e.symm))
      rw [h.cur] at e2
      cases e2
      omega
    · refine ((h.laid.gen (Nat.le_succ _)).congr (V' := d'.vis) (fun j hj => ?_))
      rw [hvb]
      refine w4 _ ?_
      have := h.used
      by_cases hz : r.a.places - r.used = 0
      · exact .inl hz
      · refine .inr (fun e => ?_)
        rw [blk_add, Nat.add_zero] at e
        have := blk_inj (by omega) (by omega) e
        omega
    · intro q hq
      obtain ⟨j, _, e⟩ := place_blk (a := r.a) 0 q hq
      show Stale (d'.vis ((r.a.first + 2 + q : Nat) : Int)) (r.h.generation + 1) r.h.base (r.h.first + r.es.length)
      have hs := (h.stale q hq).mono (Nat.le_succ r.h.generation) (Nat.le_refl _) (Nat.le_refl _)
      rw [e] at hs ⊢
      rw [hvb]
      rcases w5 (r.a.blk 0 j : Int) with e5 | e5
      · rw [e5]; exact hs
      · rw [e5]; exact stale_zero _ _ _

/-- a ring that Format has made -/
def freshR (a : AR) (g : Nat) : RV := ⟨a, ⟨g, 0, 0, g⟩, [], 0, 0, 0⟩
theorem genF_of {d : DK} {a : AR} {g : Nat} (xs : List Nat) (h : ∀ x ∈ xs, ∀ f n, bodyF d a x = some (f, n) → f.stream + 1 ≤ g) : genF d a g xs = g := by
  induction xs with
  | nil => rfl
  | cons x xs ih =>
    have hx : (match bodyF d a x with | some (f, _) => max g (f.stream + 1).toNat | none => g) = g := by
      cases hb : bodyF d a x with
      | none => rfl
      | some fn => have := h x (by simp) fn.1 fn.2 hb; simp only; omega
    show genF d a (match bodyF d a x with | some (f, _) => max g (f.stream + 1).toNat | none => g) xs = g
    rw [hx]
    exact ih (fun y hy => h y (by simp [hy]))
theorem format_any {d : DK} {m : Nat} (hg : d.good m) {p : Nat} {first blocks : Int} (he : areaErr d first blocks = 0) {g : Nat} (hg0 : gen0 d (areaN p first blocks) = g) (hgm : g ≤ 2147483647)
    (ha : (areaN p first blocks).ok) (hf : (areaN p first blocks).fits d)
    (hst : ∀ q, q < (areaN p first blocks).places → Stale (d.vis (((areaN p first blocks).first + 2 + q : Nat) : Int)) (g - 1) g 0 ∧ (g = 0 → d.vis (((areaN p first blocks).first + 2 + q : Nat) : Int) = zero512))
    (hold : ∀ h', headF d (areaN p first blocks) ((g + 1) % 2) = some h' → h'.generation < g) :
    ∃ d', formatF d p first blocks = (0, d') ∧ d'.good 0 ∧ d'.blocks = d.blocks ∧ Inv d' (freshR (areaN p first blocks) g) [] := by
  generalize haa : areaN p first blocks = a at *
  have hok : (⟨g, 0, 0, g⟩ : HV).ok := ⟨hgm, by simp, by simp, hgm⟩
  have hgen : genF d a g (List.range a.places) = g := genF_of _ (fun x hx f n hb => by
    have hx := List.mem_range.1 hx
    obtain ⟨s1, s2⟩ := hst x hx
    have e : a.first + 2 + x = a.blk x 0 := by unfold AR.blk; rw [Nat.add_zero x, Nat.mod_eq_of_lt hx]
    rw [e] at s1 s2
    by_cases h0 : g = 0
    · exfalso
      have hz : (d.vis (a.blk x 0)).getD 0 0 ≠ 245 := by rw [s2 h0]; decide +kernel
      have hs : Stale (d.vis (a.blk x 0)) 0 0 0 := .inl hz
      have := stale_body hg.ok ha.2.1 hs hb
      have := bodyF_ok hb
      omega
    · have := stale_body hg.ok ha.2.1 s1 hb
      omega)
  obtain ⟨p1, p2, p3, p4⟩ := putD_good hg hf hok
  refine ⟨(putD d a ⟨g, 0, 0, g⟩).2, ?_, p2, p4, ?_⟩
  · unfold formatF
    rw [if_neg (by simpa using he)]
    simp only
    rw [haa, hg0, hgen, if_neg (by omega)]
    exact Prod.ext p1 rfl
  · generalize (putD d a ⟨g, 0, 0, g⟩).2 = d' at *
    have hvb : ∀ p j : Nat, d'.vis (a.blk p j) = d.vis (a.blk p j) := fun p j => by
      rw [p3]; unfold setDur; rw [if_neg (fun e => blk_head e)]
    refine ⟨ha, by unfold AR.fits at *; show _ ≤ d'.blocks; rw [p4]; exact hf, hok, ha.2.1, ?_, ?_, Nat.le_refl _, rfl, Nat.zero_le _, ?_, rfl⟩
    · show d'.vis ((a.first + g % 2 : Nat) : Int) = _
      rw [p3]; unfold setDur
      rw [if_pos rfl]; rfl
    · intro h' e
      refine hold h' ?_
      rw [← e]
      refine (headF_vis ?_).symm
      show d'.vis ((a.first + (g + 1) % 2 : Nat) : Int) = _
      rw [p3]; unfold setDur
      rw [if_neg (by simp only; omega)]
    · intro q hq
      obtain ⟨j, _, e⟩ := place_blk (a := a) 0 q hq
      show Stale (d'.vis ((a.first + 2 + q : Nat) : Int)) g g (0 + 0)
      have hs := (hst q hq).1.mono (Nat.sub_le g 1) (Nat.le_refl g) (Nat.zero_le 0)
      rw [e] at hs ⊢
      rw [hvb]
      exact hs
end
end Go.Proofs.YtgopdbpddemplaaDoor
