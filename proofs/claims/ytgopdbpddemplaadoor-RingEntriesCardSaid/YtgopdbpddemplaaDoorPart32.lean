/- ring: a nil ring. · law: fresh; the reference's Need; a string of zeros. · law: RingEntries, ahead of the walk: what the loop keeps. · law: RingEntries, behind the first loop: what Open gives. · law: RingEntries, the walk. -/
import Derived.Test.YtgopdbpddemplaaDoorPart17
import Derived.Test.YtgopdbpddemplaaDoorPart31
import Derived.Test.YtgopdbpddemplaaDoorPart11
set_option linter.unusedSimpArgs false
set_option linter.unusedVariables false
namespace Go.Proofs.YtgopdbpddemplaaDoor
section
/- ring: a nil ring. -/
open Go.RowKit

set_option maxRecDepth 100000 in
set_option maxHeartbeats 1000000 in
theorem append_nil (s : List UInt8) (w : World) : Calls Tryd.prog 21 #[.pointer none, str s] w fun e w' => e = .returned (.tuple #[.int .i64 0, .int .i64 1]) ∧ Keep [] w w' := by
  have c0 : (w.alloc (.cells #[.pointer none] 26)).cell? ⟨w.heap.size, 0, none⟩ = some (.pointer none) := (cell_row' (j := 0) (heap_alloc_new w _)).trans rfl
  unfold str
  go_enter Tryd.func21, Tryd.ntmps21
  go_wp2_with (go_at_call 24; refine (failed_nil _).mono ?_; rintro e w1 ⟨rfl, hw⟩; obtain rfl := hw.symm)
  go_ret2
  exact ⟨rfl, (Keep.refl _ _).alloc _⟩
set_option maxRecDepth 100000 in
set_option maxHeartbeats 1000000 in
theorem sync_nil (w : World) : Calls Tryd.prog 22 #[.pointer none] w fun e w' => e = .returned (.int .i64 1) ∧ Keep [] w w' := by
  go_enter Tryd.func22, Tryd.ntmps22
  go_wp2_with (go_at_call 24; refine (failed_nil _).mono ?_; rintro e w1 ⟨rfl, hw⟩; obtain rfl := hw.symm)
  go_ret
  exact ⟨rfl, Keep.refl _ _⟩
set_option maxRecDepth 100000 in
set_option maxHeartbeats 1000000 in
theorem trim_nil (n : Int) (w : World) : Calls Tryd.prog 23 #[.pointer none, .int .i64 n] w fun e w' => e = .returned (.int .i64 1) ∧ Keep [] w w' := by
  have c0 : (w.alloc (.cells #[.pointer none] 26)).cell? ⟨w.heap.size, 0, none⟩ = some (.pointer none) := (cell_row' (j := 0) (heap_alloc_new w _)).trans rfl
  go_enter Tryd.func23, Tryd.ntmps23
  go_wp2_with (go_at_call 24; refine (failed_nil _).mono ?_; rintro e w1 ⟨rfl, hw⟩; obtain rfl := hw.symm)
  go_ret
  exact ⟨rfl, (Keep.refl _ _).alloc _⟩
end

section
/- law: fresh; the reference's Need; a string of zeros. -/
open Go.RowKit

theorem DiskAt.memp {w : World} {p : Nat} {d : DK} {F : List Nat} (h : DiskAt w p d F) : p ∈ F := by
  obtain ⟨_, _, _, _, hpF, _⟩ := h.is
  exact hpF
theorem areaErr_20 (d : DK) (hb : d.blocks = 20) (hd : d.down = false) (n : Int) (h4 : 4 ≤ n) (h17 : n ≤ 17) : areaErr d 3 n = 0 := by
  unfold areaErr
  rw [if_neg (by rw [hb]; omega), if_neg (by rw [hd]; decide)]
/-- what Open makes of a ring that Format has just made -/
def ring0 (p : Nat) (n : Int) : RV := (freshR (areaN p 3 n) 0).opened
set_option maxRecDepth 100000 in
set_option maxHeartbeats 1000000 in
theorem fresh_ok (n : Int) (w : World) (hG : Glob w) (h4 : 4 ≤ n) (h17 : n ≤ 17) :
    Calls Tryd.prog 8 #[.int .i64 n] w fun e w' => ∃ p rp d v F, e = .returned (.tuple #[.pointer (some ⟨p, 0, none⟩), .pointer (some ⟨rp, 0, none⟩), .bool true]) ∧ Live w' p rp d (ring0 p n) v F [] 0 ∧ NewR w rp v F ∧ Keep [] w w' ∧ d.blocks = 20 := by
  go_enter Tryd.func8, Tryd.ntmps8
  go_wp2_with (first
    | (go_at_call 17; refine (dev_new 20 w hG (by omega) (by omega)).mono ?_; rintro e w1 ⟨p, F1, rfl, hD1, hk1, hF1⟩)
    | (go_at_call 16; refine (dev_format0 hD1 (by omega) (by omega) (by omega) (areaErr_20 _ rfl rfl n h4 h17)).mono ?_; rintro e w2 ⟨F2, d2, rfl, hD2, hI2, hk2, hF2, hb2⟩
       have hkw2 : Keep [] w w2 := hk1.fresh hk2 hF1
       have hF2' : ∀ x ∈ F2, w.heap.size ≤ x := fun x hx => (hF2 x hx).elim (hF1 x) (fun q => Nat.le_trans hk1.size q))
    | (go_at_call 13; refine (dev_open hD2 hI2 (by omega) (by rw [hb2]; omega) (by rw [hb2]; omega) (show 0 < 2147483647 by omega) (show 0 + 0 ≤ 1099511627775 by omega) (by omega) rfl (areaErr_20 _ hb2 hD2.good.down n h4 h17)).mono ?_; rintro e w3 ⟨rp, lv, v3, F3, d3, rfl, hL3, hE3, hk3, hF3, hrp3, hv3, _, hb3⟩
       have hkw3 : Keep [] w w3 := hkw2.fresh hk3 hF2'
       have hn3 : NewR w rp v3 F3 := ⟨Nat.le_trans hkw2.size hrp3, fun x hx => (hF3 x hx).elim (hF2' x) (fun q => Nat.le_trans hkw2.size q), fun k e => Nat.le_trans hkw2.size (hv3 k e)⟩
       obtain ⟨sa, sc, rfl⟩ := hE3.shape))
  go_ret3
  exact ⟨p, rp, d3, v3, F3, rfl, hL3, hn3, hkw3, hb3.trans hb2⟩

theorem span_ok (n : Nat) (w : World) (h : n ≤ 1000000) (h2 : 2 ≤ n) : Calls Tryd.prog 38 #[.int .i64 n] w fun e w' => e = .returned (.int .i64 (blocksN n : Nat)) ∧ w' = w := by
  by_cases h5 : n ≤ 512
  · have h5' : (n : Int) ≤ 512 := by omega
    go_enter Tryd.func38, Tryd.ntmps38
    go_wp2
    go_ret
    exact ⟨ret_int (by unfold blocksN; omega), rfl⟩
  · have h5' : ¬ (n : Int) ≤ 512 := by omega
    go_enter Tryd.func38, Tryd.ntmps38
    go_wp2
    go_ret
    exact ⟨ret_int (by unfold blocksN; omega), rfl⟩
theorem refNeed_ok (n : Int) (w : World) (h0 : 0 ≤ n) (h : n ≤ 131072) : Calls Tryd.prog 20 #[.int .i64 n] w fun e w' => e = .returned (.int .i64 (blocksN (26 + n.toNat + 16) : Nat)) ∧ w' = w := by
  have hc : ((26 + n.toNat + 16 : Nat) : Int) = n + 26 + 16 := by omega
  have HC := Lib.hid hc
  clear hc
  go_enter Tryd.func20, Tryd.ntmps20
  go_wp2_with (go_at_call 38; rw [← HC.out]; refine (span_ok _ w (by omega) (by omega)).mono ?_; rintro e w1 ⟨rfl, hw⟩; obtain rfl := hw.symm)
  go_ret
  exact ⟨rfl, rfl⟩
/-- a string of zeros -/
theorem zeros_make (m : Nat) (N : Int) (hN : N = (m : Int)) (hm : m ≤ 1000000) (hm1 : 1 ≤ m) : ∃ (M : Array Value) (Z : List UInt8), Hid (Z.length = m) ∧ (∀ W : World, (Instr.makeSlice 35 (.int .i64 N) (.int .i64 N)).run Tryd.prog W = .ok (.slice (some ⟨W.heap.size, 0, none⟩) m m) (W.alloc (.cells M 5))) ∧
    (∀ W : World, (convert 35 9 (.slice (some ⟨W.heap.size, 0, none⟩) m m)).run Tryd.prog (W.alloc (.cells M 5)) = .ok (str Z) (W.alloc (.cells M 5))) := by
  obtain ⟨i0, hi, hz0, hz1, hz2⟩ := info_parts info_u8
  subst hN
  refine ⟨madeCells (Value.int .u8 0).cells (((m : Nat) : Int).toNat * i0.size), List.replicate m 0, Lib.hid List.length_replicate, fun W => ?_, fun W => ?_⟩
  · have h := run_make (P := Tryd.prog) W 35 5 i0 (.int .u8 0) Tryd.underlying35 hi hz0 .i64 .i64 (m : Int) (m : Int) (by omega) (by omega) (by rw [hz2]; omega) (by omega)
    simpa using h
  · have hMs : (madeCells (Value.int .u8 0).cells (((m : Nat) : Int).toNat * i0.size)).size = m := by rw [size_madeCells, hz1]; simp
    have h := run_convert_bytes_back (P := Tryd.prog) (W.alloc (.cells (madeCells (Value.int .u8 0).cells (((m : Nat) : Int).toNat * i0.size)) 5)) 35 9 5 ⟨W.heap.size, 0, none⟩ m (List.replicate m 0) Tryd.underlying35 Tryd.underlying5 Tryd.underlying9 (fun j hj => by
      rw [List.length_replicate] at hj
      have hadd : (⟨W.heap.size, 0, none⟩ : Addr).add j = ⟨W.heap.size, j, none⟩ := by unfold Addr.add; split <;> simp_all
      rw [hadd, cell_row' (heap_alloc_new W _)]
      rw [List.getElem_replicate]
      simp [madeCells, hz1, hj, Value.cells, Nat.mod_one])
    rw [List.length_replicate] at h
    exact h
end

section
/- law: RingEntries, ahead of the walk: what the loop keeps. -/
open Go.RowKit

theorem Live.keep {w w' : World} {p rp : Nat} {d : DK} {r : RV} {v : Value} {F : List Nat} {ts : List (List UInt8)} {m : Nat} (h : Live w p rp d r v F ts m) {G : List Nat} (hk : Keep G w w') (hG : ∀ x ∈ G, 3 ≤ x) (hd : ∀ x ∈ G, x ∉ Live.frame rp v F) : Live w' p rp d r v F ts m := by
  have hrp : rp ∉ G := fun e => hd rp e (List.mem_cons_self)
  have hF : ∀ x ∈ F, x ∉ G := fun x hx e => hd x e (List.mem_cons_of_mem _ (List.mem_append_left _ hx))
  have hv : ∀ k, v.ownBlock = some k → k ∉ G := fun k e q => hd k q (List.mem_cons_of_mem _ (List.mem_append_right _ (by rw [e]; simp)))
  exact ⟨⟨h.dev.disk.keep hk hF, fun x hx => Nat.lt_of_lt_of_le (h.dev.lt x hx) hk.size, h.dev.good, h.dev.glob.keep hk hG, h.dev.own⟩,
    ⟨⟨hk.get h.on.ring.row hrp, OwnLike.keep h.on.ring.es hk (fun k hkG e => hv k e hkG)⟩, h.on.ok, h.on.disk.keep hk hF, h.on.pF, h.on.vF, fun x hx => Nat.lt_of_lt_of_le (h.on.lt x hx) hk.size⟩,
    h.inv, h.ap, h.rpG, h.vG⟩
/-- the map of all texts -/
def fullMap (full : List (List UInt8)) : Int → Option Value := fun j => if 0 ≤ j then (full[j.toNat]?).map str else none
theorem fullMap_snoc (full : List (List UInt8)) (t : List UInt8) : (fun j => if j = (full.length : Int) then some (str t) else fullMap full j) = fullMap (full ++ [t]) := by
  funext j
  unfold fullMap
  by_cases h0 : 0 ≤ j
  · rw [if_pos h0, if_pos h0]
    by_cases h : j = (full.length : Int)
    · subst h; simp
    · rw [if_neg h]
      by_cases h1 : j.toNat < full.length
      · rw [List.getElem?_append_left h1]
      · rw [List.getElem?_eq_none (by omega), List.getElem?_eq_none (by simp; omega)]
  · rw [if_neg h0, if_neg h0, if_neg (by omega)]
theorem fullMap_nil : fullMap [] = fun _ => none := by
  funext j
  unfold fullMap
  split <;> rfl
/-- what the first loop keeps -/
def EntRel (w : World) (p rp mb : Nat) (a : AR) (k : Nat) (wr : World) : Prop :=
  ∃ (d : DK) (r : RV) (v : Value) (F : List Nat) (full : List (List UInt8)), Live wr p rp d r v F (full.drop r.h.first) (300 * k) ∧ NewR w rp v F ∧ Keep [] w wr ∧ MapAt wr mb (fullMap full) ∧ w.heap.size ≤ mb ∧ mb ∉ Live.frame rp v F ∧ r.a = a ∧ d.blocks = 20 ∧ r.h.generation ≤ k + 1 ∧ full.length ≤ k ∧ r.h.first ≤ full.length
theorem EntRel.start {w w1 : World} {p rp : Nat} {d : DK} {n : Int} {v : Value} {F : List Nat} (h : Live w1 p rp d (ring0 p n) v F [] 0) (hn : NewR w rp v F) (hk : Keep [] w w1) (hb : d.blocks = 20) (hl : ∀ x ∈ Live.frame rp v F, x < w1.heap.size) :
    EntRel w p rp w1.heap.size (ring0 p n).a 0 (w1.alloc (.map #[] 0)) := by
  refine ⟨d, ring0 p n, v, F, [], h.keep0 ((Keep.refl [] w1).alloc _), hn, hk.alloc _, ?_, hk.size, fun e => ?_, rfl, hb, ?_, Nat.le_refl _, Nat.le_refl _⟩
  · rw [fullMap_nil]; exact MapAt.made w1
  · exact Nat.lt_irrefl _ (hl _ e)
  · show 0 + 1 ≤ 0 + 1; omega
theorem Live.frame_lt {w : World} {p rp : Nat} {d : DK} {r : RV} {v : Value} {F : List Nat} {ts : List (List UInt8)} {m : Nat} (h : Live w p rp d r v F ts m) : ∀ x ∈ Live.frame rp v F, x < w.heap.size := by
  intro x hx
  rcases List.mem_cons.1 hx with e | e
  · rw [e]; exact lt_of_heap h.on.ring.row
  · rcases List.mem_append.1 e with e | e
    · exact h.on.lt x e
    · have hvb : v.ownBlock = some x := by simpa using e
      rcases h.on.ring.es.2 with hn | ⟨g, cap, cur, rfl, hb, hgg, rest⟩
      · rw [hn.1] at hvb; cases hvb
      · cases hvb
        exact lt_of_heap hgg
theorem fits_n {N : Nat} {l : List OpV} (hN : Hid (N = l.length)) (a : Option Addr) (cap : Nat) (w : World) (h : OpsAt w a l) :
    Calls Tryd.prog 7 #[.slice a N cap] w fun e w' => FitsPost N w e w' := by
  have := fits_any a cap l w h
  rw [← hN.out] at this
  exact this
/-- one round, the operation being the next -/
theorem EntRel.step {w wr w' : World} {p rp mb : Nat} {a : AR} {k : Nat} {d d' : DK} {r r' : RV} {v v' : Value} {F F' : List Nat} {full ts' : List (List UInt8)} {o : OpV} {er : Int}
    (hG : Glob w) (hn : NewR w rp v F) (hkw : Keep [] w wr) (hM : MapAt wr mb (fullMap full)) (hmb : w.heap.size ≤ mb) (hmf : mb ∉ Live.frame rp v F) (ha : r.a = a) (hb : d.blocks = 20) (hg : r.h.generation ≤ k + 1) (hf : full.length ≤ k) (hfi : r.h.first ≤ full.length)
    (hL : Live w' p rp d' r' v' F' ts' (300 * k + 300)) (hk : Keep (Live.frame rp v F) wr w') (hF : ∀ x ∈ F', x ∈ F ∨ wr.heap.size ≤ x) (hv : ∀ k, v'.ownBlock = some k → v.ownBlock = some k ∨ wr.heap.size ≤ k) (hbl : d'.blocks = d.blocks) (hra : r'.a = r.a) (hgen : r'.h.generation ≤ r.h.generation + 1) (hlaw : StepLaw o er r r' (full.drop r.h.first) ts') :
    Keep [] w w' ∧ NewR w rp v' F' ∧ MapAt w' mb (fullMap full) ∧ mb ∉ Live.frame rp v' F' ∧
      ((o.kind % 3 = 0 ∧ er = 0 ∧ r'.h.first = r.h.first ∧ EntRel w p rp mb a (k + 1) (w'.alloc (.map #[] 0)) = EntRel w p rp mb a (k + 1) (w'.alloc (.map #[] 0)) ∧ ∀ w'', Keep [mb] w' w'' → MapAt w'' mb (fullMap (full ++ [textF o.n o.b])) → EntRel w p rp mb a (k + 1) w'') ∨
       ((o.kind % 3 = 0 → er ≠ 0) ∧ EntRel w p rp mb a (k + 1) w')) := by
  have hkw' : Keep [] w w' := hkw.fresh hk hn.frame
  have hn' := hn.next hkw.size hF hv
  have hM' := hM.keep hk hmf
  have hmf' : mb ∉ Live.frame rp v' F' := fun e => by
    have hml := hM.lt
    rcases List.mem_cons.1 e with e | e
    · exact hmf (e ▸ List.mem_cons_self)
    · rcases List.mem_append.1 e with e | e
      · rcases hF _ e with q | q
        · exact hmf (List.mem_cons_of_mem _ (List.mem_append_left _ q))
        · omega
      · rcases hv mb (by simpa using e) with q | q
        · exact hmf (List.mem_cons_of_mem _ (List.mem_append_right _ (by rw [q]; simp)))
        · omega
  refine ⟨hkw', hn', hM', hmf', ?_⟩
  rcases hlaw with ⟨e0, e1, e2, e3⟩ | ⟨e1, c, e2, e3, e4⟩
  · refine .inl ⟨e0, e1, e2, rfl, fun w'' hk2 hM2 => ?_⟩
    refine ⟨d', r', v', F', _, ?_, hn', hkw'.trans hk2 (fun x hx => by rw [List.mem_singleton.1 hx]; exact .inr hmb), hM2, hmb, hmf', hra.trans ha, hbl.trans hb, by omega, by simp; omega, by simp; omega⟩
    rw [e2, List.drop_append_of_le_length hfi, ← e3]
    refine Live.keep ?_ hk2 (fun x hx => by rw [List.mem_singleton.1 hx]; exact Nat.le_trans hG.lt hmb) (fun x hx => by rw [List.mem_singleton.1 hx]; exact hmf')
    exact hL
  · refine .inr ⟨e1, d', r', v', F', full, ?_, hn', hkw', hM', hmb, hmf', hra.trans ha, hbl.trans hb, by omega, by omega, by simp at e2; omega⟩
    rw [e3, ← List.drop_drop, ← e4]
    exact hL
end

section
/- law: RingEntries, behind the first loop: what Open gives. -/
open Go.RowKit

/-- the entries that Open lists, in memory -/
structure EntList (w : World) (sa : Option Addr) (L fi : Nat) (full : List (List UInt8)) : Prop where
  addr : 0 < L → ∃ g off, sa = some ⟨g, off, none⟩
  num : ∀ g off, sa = some ⟨g, off, none⟩ → ∀ j, j < L → w.cell? ⟨g, off + j * 2, none⟩ = some (.int .i64 ((fi + j : Nat) : Int))
  txt : ∀ g off, sa = some ⟨g, off, none⟩ → ∀ j, j < L → w.cell? ⟨g, off + j * 2 + 1, none⟩ = some (str (full.getD (fi + j) []))
theorem EntList.keep0 {w w' : World} {sa : Option Addr} {L fi : Nat} {full : List (List UInt8)} (h : EntList w sa L fi full) (hk : Keep [] w w') : EntList w' sa L fi full :=
  ⟨h.addr, fun g off e j hj => hk.cell (h.num g off e j hj) (by simp), fun g off e j hj => hk.cell (h.txt g off e j hj) (by simp)⟩
theorem EntList.of {w : World} {B : Nat} {lv : Value} {fi : Nat} {full : List (List UInt8)} (h : EntsAt w B lv (numb fi (full.drop fi))) : ∃ sa sc, lv = .slice sa (full.drop fi).length sc ∧ EntList w sa (full.drop fi).length fi full := by
  have hln := numb_length fi (full.drop fi)
  rcases h.2 with ⟨rfl, h0⟩ | ⟨g, cap, cur, rfl, hB, hg, hn, hcap, hsz, htk⟩
  · have hz : (full.drop fi).length = 0 := by
      omega
    exact ⟨none, 0, by rw [hz], ⟨fun hl => by omega, (fun _ _ e => by cases e), (fun _ _ e => by cases e)⟩⟩
  · rw [hln] at hn htk
    have hget : ∀ i, i < (full.drop fi).length * 2 → cur[i]? = (entryCells (numb fi (full.drop fi)))[i]? := fun i hi => by
      rw [← htk, List.getElem?_take, if_pos hi, Array.getElem?_toList]
    have hfd : ∀ j, j < (full.drop fi).length → (numb fi (full.drop fi))[j]? = some (fi + j, full.getD (fi + j) []) := fun j hj => by
      rw [numb_get, List.getElem?_drop]
      rw [List.length_drop] at hj
      simp [List.getElem?_eq_getElem (show fi + j < full.length by omega)]
    refine ⟨_, cap, by rw [hln], ⟨fun _ => ⟨g, 0, rfl⟩, fun g' off e j hj => ?_, fun g' off e j hj => ?_⟩⟩
    all_goals
      cases e
      have hj2 : j < (numb fi (full.drop fi)).length := by rw [hln]; exact hj
      obtain ⟨e1, e2⟩ := entryCells_get _ j hj2
      have e3 := hfd j hj
      rw [List.getElem?_eq_getElem hj2] at e3
      have e4 := Option.some.inj e3
      rw [e4] at e1 e2
    · rw [cell_row' hg, hget _ (by omega), show 0 + j * 2 = 2 * j by omega]
      exact e1
    · rw [cell_row' hg, hget _ (by omega), show 0 + j * 2 + 1 = 2 * j + 1 by omega]
      exact e2
structure RingSays (w' : World) (q fi nx fr : Nat) : Prop where
  first : ∀ W, Keep [] w' W → Calls Tryd.prog 14 #[.pointer (some ⟨q, 0, none⟩)] W fun e w' => e = .returned (.int .i64 fi) ∧ w' = W
  next : ∀ W, Keep [] w' W → Calls Tryd.prog 10 #[.pointer (some ⟨q, 0, none⟩)] W fun e w' => e = .returned (.int .i64 nx) ∧ Keep [] W w'
  free : ∀ W, Keep [] w' W → Calls Tryd.prog 15 #[.pointer (some ⟨q, 0, none⟩)] W fun e w' => e = .returned (.int .i64 fr) ∧ Keep [] W w'
theorem RingSays.of {w' : World} {q : Nat} {r : RV} {v : Value} (h : RingIs w' q r v) (hr : r.ok) {fi nx fr : Nat} (e1 : r.h.first = fi) (e2 : r.h.first + r.es.length = nx) (e3 : r.a.places - r.used = fr) : RingSays w' q fi nx fr := by
  have hk : ∀ W, Keep [] w' W → RingIs W q r v := fun W k => ⟨k.get h.row (by simp), OwnLike.keep h.es k (by simp)⟩
  refine ⟨fun W k => ?_, fun W k => ?_, fun W k => ?_⟩
  · have := first_any (hk W k)
    rw [e1] at this
    exact this
  · have := next_any (hk W k) hr
    rw [e2] at this
    exact this
  · have := free_any (hk W k) hr
    rw [e3] at this
    exact this
def OpenEnt (w : World) (rp mb N : Nat) (e : Ending) (w' : World) : Prop :=
  ∃ (rp2 : Nat) (sa : Option Addr) (sc L fi nx fr : Nat) (full : List (List UInt8)), e = .returned (.tuple #[.pointer (some ⟨rp2, 0, none⟩), .slice sa L sc, .int .i64 0]) ∧ Keep [] w w' ∧ fi + L = nx ∧ nx = full.length ∧ full.length ≤ N ∧ EntList w' sa L fi full ∧ MapAt w' mb (fullMap full) ∧ RingSays w' rp fi nx fr ∧ RingSays w' rp2 fi nx fr
theorem open_ent {w wr : World} {p rp mb N : Nat} {Z : Int} (h : EntRel w p rp mb (ring0 p Z).a N wr) (hN : N ≤ 25) (h4 : 4 ≤ Z) (h17 : Z ≤ 17) :
    Calls Tryd.prog 13 #[.pointer (some ⟨p, 0, none⟩), .int .i64 3, .int .i64 Z] wr fun e w' => OpenEnt w rp mb N e w' := by
  obtain ⟨d, r, v, F, full, hL, hn, hkw, hM, hmb0, hmf, hra, hdb, hgn, hfl, hfi⟩ := h
  have hlen := hL.inv.len
  rw [List.length_drop] at hlen
  refine (dev_open hL.dev hL.inv (by omega) (by rw [hdb]; omega) (by rw [hdb]; omega) (by omega) (by omega) (by omega) (hra.trans rfl) (areaErr_20 d hdb hL.dev.good.down Z h4 h17)).mono ?_
  rintro e w' ⟨rp2, lv, v2, F2, d2, rfl, hL2, hE, hk, hF2, hrp2, hv2, hlv, hb2⟩
  obtain ⟨sa, sc, rfl, hEL⟩ := EntList.of hE
  have hFn : ∀ x ∈ F, w.heap.size ≤ x := hn.2.1
  have hmF : mb ∉ F := fun e => hmf (List.mem_cons_of_mem _ (List.mem_append_left _ e))
  have hR : RingIs w' rp r v := ⟨hk.get hL.on.ring.row hL.on.pF, OwnLike.keep hL.on.ring.es hk (fun k hkF e => hL.on.vF k e hkF)⟩
  have hl2 : (full.drop r.h.first).length = full.length - r.h.first := List.length_drop
  refine ⟨rp2, sa, sc, _, r.h.first, r.h.first + r.es.length, r.a.places - r.used, full, rfl, hkw.fresh hk hFn, by omega, by omega, hfl, hEL, hM.keep hk hmF, RingSays.of hR hL.on.ok rfl rfl rfl, RingSays.of hL2.on.ring hL2.on.ok rfl rfl rfl⟩
end

section
/- law: RingEntries, the walk. -/
open Go.RowKit

set_option maxRecDepth 100000 in
set_option maxHeartbeats 4000000 in
theorem entries_any (n : Int) (a : Option Addr) (cap : Nat) (l : List OpV) (w : World) (hG : Glob w) (hO : OpsAt w a l) (n0 : 0 ≤ n) (n1 : n < 256) :
    Calls Tryd.prog 3 #[.int .u8 n, .slice a l.length cap] w fun e w' => e = .returned (.bool true) ∧ Keep [] w w' := by
  obtain ⟨N, hN⟩ : ∃ N, N = l.length := ⟨_, rfl⟩
  rw [← hN]
  have HN := Lib.hid hN
  clear hN
  have hmm := @run_makeMap Tryd.prog
  have hkc := Keep.refl [] w
  have hs4 : 4 ≤ sizeF n := by unfold sizeF; omega
  have hs17 : sizeF n ≤ 17 := by unfold sizeF; omega
  obtain ⟨Z, hZ⟩ : ∃ Z, sizeF n = Z := ⟨_, rfl⟩
  rw [hZ] at hs4 hs17
  have HZ := Lib.hid hZ
  clear hZ
  go_enter Tryd.func3, Tryd.ntmps3
  go_wp2_with (first
    | (go_at_call 6; refine (known_ok _ (hG.keep0 hkc)).mono ?_; rintro e w3 ⟨rfl, hk3⟩; replace hkc := hkc.then hk3)
    | (go_at_call 7; refine (fits_n HN a cap _ (hO.keep0 hkc)).mono ?_; rintro e w3 ⟨bf, rfl, hbf, hk3⟩; replace hkc := hkc.then hk3)
    | (go_at_call 9; refine (size_any n _ n0 n1).mono ?_; rw [HZ.out]; rintro e w3 ⟨rfl, hw3⟩; obtain rfl := hw3.symm)
    | (go_at_call 8; refine (fresh_ok Z _ (hG.keep0 hkc) hs4 hs17).mono ?_; rintro e w4 ⟨p, rp, d0, v0, F0, rfl, hL0, hn0, hk0, hb0⟩
       have hn0' : NewR w rp v0 F0 := ⟨Nat.le_trans hkc.size hn0.1, fun x hx => Nat.le_trans hkc.size (hn0.2.1 x hx), fun k e => Nat.le_trans hkc.size (hn0.2.2 k e)⟩
       replace hkc := hkc.then hk0))
  · go_ret
    exact ⟨rfl, hkc⟩
  have hbt : bf = true := by
    cases bf with
    | true => rfl
    | false => rename_i hx; simp at hx
  have hN25 := hbf hbt
  have hE0 := EntRel.start hL0 hn0' hkc hb0 hL0.frame_lt
  obtain ⟨mb, hmb⟩ : ∃ mb, w4.heap.size = mb := ⟨_, rfl⟩
  rw [hmb] at hE0 ⊢
  obtain ⟨w5, hw5⟩ : ∃ w5, w4.alloc (.map #[] 0) = w5 := ⟨_, rfl⟩
  rw [hw5] at hE0 ⊢
  clear hL0 hn0 hn0' hb0 hkc hk0 hmb hw5 hbf hbt
  go_loopw [9] (fun i wr => ∃ k : Nat, i = .int .i64 k ∧ k ≤ N ∧ EntRel w p rp mb (ring0 p Z).a k wr) (fun i _ => N - (intOf i).toNat)
  case atStart => exact ⟨0, rfl, by omega, hE0⟩
  case round =>
    obtain ⟨k, rfl, hk, d, r, v, F, full, hL, hn, hkw, hM, hmb0, hmf, hra, hdb, hgn, hfl, hfi⟩ := hrel
    by_cases hlt : k < N
    · have hki : (k : Int) < N := by omega
      obtain ⟨b, off, rfl⟩ := hO.addr (by have := HN.out; omega)
      obtain ⟨o, ho⟩ : ∃ o, l[k]? = some o := ⟨l[k]'(by have := HN.out; omega), List.getElem?_eq_getElem _⟩
      have hOr := hO.keep0 hkw
      have hook := hO.ok o (List.mem_of_getElem? ho)
      have g0 := hook.k0
      have g1 := hook.k1
      have c0 : wr.cell? ⟨b, off + k * 4, none⟩ = some (.int .u8 o.kind) := hOr.cell b off rfl k o ho 0 (by omega)
      have c1 : wr.cell? ⟨b, off + k * 4 + 1, none⟩ = some (.int .u16 o.n) := hOr.cell b off rfl k o ho 1 (by omega)
      have c2 : wr.cell? ⟨b, off + k * 4 + 2, none⟩ = some (.int .u8 o.b) := hOr.cell b off rfl k o ho 2 (by omega)
      have c3 : wr.cell? ⟨b, off + k * 4 + 3, none⟩ = some (.slice o.ca o.cl o.cc) := hOr.cell b off rfl k o ho 3 (by omega)
      have hoc : #[Value.int .u8 o.kind, .int .u16 o.n, .int .u8 o.b, .slice o.ca o.cl o.cc] = o.cells := rfl
      obtain ⟨nx, hnx⟩ : ∃ nx, r.h.first + r.es.length = nx := ⟨_, rfl⟩
      have HNX := Lib.hid hnx
      go_wp2_with (first
        | (go_at_call 10; refine (next_any hL.on.ring hL.on.ok).mono ?_; rw [HNX.out]; rintro e w6 ⟨rfl, hk6⟩; have hL6 := hL.keep0 hk6
           have e0 := hk6.cell c0 (by simp); have e1 := hk6.cell c1 (by simp); have e2 := hk6.cell c2 (by simp); have e3 := hk6.cell c3 (by simp); clear c0 c1 c2 c3)
        | (go_at_call 11; refine (step_ok hL6 o hook (by omega) (by have := hL.inv.len; simp at this; omega) (by omega)).mono ?_; rintro e w7 ⟨er, d', r', v', F', ts', rfl, hL7, hk7, hF7, hv7, hbl7, hra7, hgn7, hlaw⟩
           obtain ⟨hkw7, hn8, hM7, hmf7, hnext⟩ := EntRel.step (mb := mb) (k := k) hG hn (hkw.then hk6) (hM.keep hk6 (by simp)) hmb0 hmf hra hdb hgn hfl hfi hL7 hk7 hF7 hv7 hbl7 hra7 hgn7 hlaw
           have e0' : w7.cell? ⟨b, off + k * 4, none⟩ = some (.int .u8 o.kind) := (hO.keep0 hkw7).cell b off rfl k o ho 0 (by omega)
           have e1' : w7.cell? ⟨b, off + k * 4 + 1, none⟩ = some (.int .u16 o.n) := (hO.keep0 hkw7).cell b off rfl k o ho 1 (by omega)
           have e2' : w7.cell? ⟨b, off + k * 4 + 2, none⟩ = some (.int .u8 o.b) := (hO.keep0 hkw7).cell b off rfl k o ho 2 (by omega)))
      · have ht : (o.kind % 3 == 0) = true := by assumption
        have hk3 : o.kind % 3 = 0 := by simpa using ht
        simp only [ht]
        rcases hnext with ⟨-, -, -, -, hnext⟩ | ⟨hq, -⟩
        · clear hk3
          have hnxl : nx = full.length := by
            have h1 := hL.inv.len
            have h2 := HNX.out
            rw [List.length_drop] at h1
            omega
          subst hnxl
          obtain ⟨-, -, g2, g3, g4, g5⟩ := hook
          refine wp_region_tail (Keep [])
            [fun v _ => v = .map (some mb), fun v _ => v = .int .i64 full.length, fun v _ => v = .slice (some ⟨b, off, none⟩) N cap, fun v _ => v = .int .i64 k, fun v _ => v = .pointer (some ⟨b, off + k * 4, none⟩), fun v _ => v = .pointer (some ⟨b, off + k * 4 + 1, none⟩), fun v _ => v = .int .u16 o.n, fun v _ => v = .slice (some ⟨b, off, none⟩) N cap, fun v _ => v = .int .i64 k, fun v _ => v = .pointer (some ⟨b, off + k * 4, none⟩), fun v _ => v = .pointer (some ⟨b, off + k * 4 + 2, none⟩), fun v _ => v = .int .u8 o.b, fun v _ => v = str (textF o.n o.b)]
            (by kernel_rfl) (by kernel_rfl) (by kernel_rfl) (by kernel_rfl) (fun _ _ _ h k => h.then k) (Keep.refl _) ?sta ?mai
          case sta => exact ⟨fun _ _ _ _ h => h, fun _ _ _ _ h => h, fun _ _ _ _ h => h, fun _ _ _ _ h => h, fun _ _ _ _ h => h, fun _ _ _ _ h => h, fun _ _ _ _ h => h, fun _ _ _ _ h => h, fun _ _ _ _ h => h, fun _ _ _ _ h => h, fun _ _ _ _ h => h, fun _ _ _ _ h => h, fun _ _ _ _ h => h, trivial⟩
          case mai =>
            simp only [List.length_cons, List.length_nil, Nat.zero_add, Nat.reduceAdd, AllVals]
            intro z0 z1 z2 z3 z4 z5 z6 z7 z8 z9 z10 z11 z12 z13
            simp only [putAll, Act.put, List.setIfInBounds_toArray, List.set_cons_zero, List.set_cons_succ, StepsL, TailOK]
            refine ⟨?_, ?_, ?_, ?_, ?_, ?_, ?_, ?_, ?_, ?_, ?_, ?_, ?_, ?_⟩
            all_goals try (first | trivial | ((intro wq K hRq hPq hKq; simp only [Pre, Region.binds, List.getD_cons_zero, List.getD_cons_succ, true_imp_iff, forall_const, and_true, true_and] at hPq; simp only [Act.put, List.setIfInBounds_toArray, List.set_cons_zero, List.set_cons_succ] at hKq); go_split_ands; subst_vars; (try unfold str at *); go_wp2; first | exact hKq _ _ (Keep.refl _ _) rfl | exact hKq _ _ (Keep.refl _ _) trivial | exact hKq _ _ (FinR.refl _ _ _) rfl | exact hKq _ _ (FinR.refl _ _ _) trivial))
            · (intro wq K hR hP hK; simp only [Pre, Region.binds, List.getD_cons_zero, List.getD_cons_succ, true_imp_iff, forall_const, and_true, true_and] at hP; simp only [Act.put, List.setIfInBounds_toArray, List.set_cons_zero, List.set_cons_succ] at hK)
              subst hP
              have c1 := (((Keep.refl [] w7).drew).then hR).cell e1' (by simp)
              go_wp2
              exact hK _ _ (Keep.refl _ _) rfl
            · (intro wq K hR hP hK; simp only [Pre, Region.binds, List.getD_cons_zero, List.getD_cons_succ, true_imp_iff, forall_const, and_true, true_and] at hP; simp only [Act.put, List.setIfInBounds_toArray, List.set_cons_zero, List.set_cons_succ] at hK)
              subst hP
              have c1 := (((Keep.refl [] w7).drew).then hR).cell e2' (by simp)
              go_wp2
              exact hK _ _ (Keep.refl _ _) rfl
            · (intro wq K hR hP hK; simp only [Pre, Region.binds, List.getD_cons_zero, List.getD_cons_succ, true_imp_iff, forall_const, and_true, true_and] at hP; simp only [Act.put, List.setIfInBounds_toArray, List.set_cons_zero, List.set_cons_succ] at hK)
              obtain ⟨rfl, rfl, -⟩ := hP
              go_wp2_with (go_at_call 12; refine (text_any o.n o.b _ g2 g3 g4 g5).mono ?_; rintro e w8 ⟨rfl, hk8⟩)
              exact hK _ _ hk8 rfl
            · intro wq hR hV K hK
              simp only [AllAt] at hV
              obtain ⟨rfl, rfl, rfl, rfl, rfl, rfl, rfl, rfl, rfl, rfl, rfl, rfl, rfl, -⟩ := hV
              have hkq := ((Keep.refl [] w7).drew).then hR
              refine wpList_mapUpdateI rfl rfl 30 (.tmp 59) (.tmp 60) (.tmp 71) rfl 3 9 mb (fullMap full) full.length Tryd.underlying30 Tryd.underlying3 (hM7.keep hkq (by simp)) rfl rfl ?_
              intro w9 hM9 hk9
              simp only [Act.eval] at hM9
              refine hK undef _ ?_
              go_wp2
              have hM9' : MapAt w9 mb (fullMap (full ++ [textF o.n o.b])) := by rw [← fullMap_snoc]; exact hM9
              refine ⟨⟨k + 1, rfl, by omega, hnext w9 (hkq.mono (by simp) |>.trans hk9 (fun x hx => .inl hx)) hM9'⟩, by simp [intOf]; omega⟩
        · exact absurd (by assumption) (hq hk3)
      · have ht : ¬ o.kind % 3 = 0 := by simpa using (by assumption : (o.kind % 3 == 0) = false)
        rcases hnext with ⟨e9, -⟩ | ⟨-, hnext⟩
        · exact absurd e9 ht
        · exact ⟨⟨k + 1, rfl, by omega, hnext⟩, by simp [intOf]; omega⟩
      · rcases hnext with ⟨-, e9, -⟩ | ⟨-, hnext⟩
        · exact absurd e9 (by assumption)
        · exact ⟨⟨k + 1, rfl, by omega, hnext⟩, by simp [intOf]; omega⟩
    · have hge : N ≤ k := by omega
      have hge' : ¬ (k : Int) < N := by omega
      have hE : EntRel w p rp mb (ring0 p Z).a N wr := by
        have hkN : N = k := by omega
        rw [hkN]
        exact ⟨d, r, v, F, full, hL, hn, hkw, hM, hmb0, hmf, hra, hdb, hgn, hfl, hfi⟩
      have HO := Lib.hid (open_ent hE (by omega) hs4 hs17)
      clear hE hL hn hM hmb0 hmf hra hdb hgn hfl hfi
      go_wp2_with (first
        | (go_at_call 9; refine (size_any n _ n0 n1).mono ?_; rw [HZ.out]; rintro e w3 ⟨rfl, hw3⟩; obtain rfl := hw3.symm)
        | (go_at_call 13; refine HO.out.mono ?_; rintro e w10 ⟨rp2, sa, sc, L, fi, nx, fr, full2, rfl, hk10, hfl2, hnx2, hfull, hEL, hM10, hS1, hS2⟩
           have hkc := Keep.refl [] w10
           have b1 : fi ≤ 25 := by omega
           have b2 : L ≤ 25 := by omega
           have b3 : nx ≤ 25 := by omega
           have hsub : (nx : Int) - fi = L := by omega
           have hle2 : fi + L ≤ full2.length := by omega
           clear hfl2 hfull hnx2)
        | (go_at_call 14; with_reducible refine (hS2.first _ hkc).mono ?_; rintro e w11 ⟨rfl, hw11⟩; obtain rfl := hw11.symm)
        | (go_at_call 14; with_reducible refine (hS1.first _ hkc).mono ?_; rintro e w11 ⟨rfl, hw11⟩; obtain rfl := hw11.symm)
        | (go_at_call 10; with_reducible refine (hS2.next _ hkc).mono ?_; rintro e w11 ⟨rfl, hk11⟩; replace hkc := hkc.then hk11)
        | (go_at_call 10; with_reducible refine (hS1.next _ hkc).mono ?_; rintro e w11 ⟨rfl, hk11⟩; replace hkc := hkc.then hk11)
        | (go_at_call 15; with_reducible refine (hS2.free _ hkc).mono ?_; rintro e w11 ⟨rfl, hk11⟩; replace hkc := hkc.then hk11)
        | (go_at_call 15; with_reducible refine (hS1.free _ hkc).mono ?_; rintro e w11 ⟨rfl, hk11⟩; replace hkc := hkc.then hk11))
      go_loopw [15] (fun i wr => ∃ j : Nat, i = .int .i64 j ∧ j ≤ L ∧ Keep [] w10 wr) (fun i _ => L - (intOf i).toNat)
      case atStart => exact ⟨0, rfl, by omega, hkc⟩
      case round =>
        obtain ⟨j, rfl, hj, hkr⟩ := hrel
        by_cases hjl : j < L
        · have hji : (j : Int) < L := by omega
          obtain ⟨g, off, rfl⟩ := hEL.addr (by omega)
          go_wp2_with fail
          have cn := (hEL.keep0 hkr).num g off rfl j hjl
          have ct := (hEL.keep0 hkr).txt g off rfl j hjl
          rw [Int.natCast_add] at cn
          have hM := hM10.keep hkr (by simp)
          refine wp_region_tail (Keep [])
            [fun v _ => v = .slice (some ⟨g, off, none⟩) L sc,
             fun v _ => v = .int .i64 j,
             fun v _ => v = .pointer (some ⟨g, off + j * 2, none⟩),
             fun v _ => v = .pointer (some ⟨g, off + j * 2, none⟩),
             fun v _ => v = .int .i64 ((fi : Int) + j),
             fun v _ => v = .pointer (some ⟨rp, 0, none⟩),
             fun v _ => v = .int .i64 fi,
             fun v _ => v = .int .i64 j,
             fun v _ => v = .int .i64 ((fi : Int) + j),
             fun v _ => v = .bool false,
             fun v _ => v = .bool false,
             fun v _ => v = .slice (some ⟨g, off, none⟩) L sc,
             fun v _ => v = .int .i64 j,
             fun v _ => v = .pointer (some ⟨g, off + j * 2, none⟩),
             fun v _ => v = .pointer (some ⟨g, off + j * 2 + 1, none⟩),
             fun v _ => v = str (full2.getD (fi + j) []),
             fun v _ => v = .map (some mb),
             fun v _ => v = .slice (some ⟨g, off, none⟩) L sc,
             fun v _ => v = .int .i64 j,
             fun v _ => v = .pointer (some ⟨g, off + j * 2, none⟩),
             fun v _ => v = .pointer (some ⟨g, off + j * 2, none⟩),
             fun v _ => v = .int .i64 ((fi : Int) + j),
             fun v _ => v = str (full2.getD (fi + j) []),
             fun v _ => v = .bool false]
            (by kernel_rfl) (by kernel_rfl) (by kernel_rfl) (by kernel_rfl) (fun _ _ _ h k => h.then k) (Keep.refl _) ?sta ?mai
          case sta => exact ⟨fun _ _ _ _ h => h, fun _ _ _ _ h => h, fun _ _ _ _ h => h, fun _ _ _ _ h => h, fun _ _ _ _ h => h, fun _ _ _ _ h => h, fun _ _ _ _ h => h, fun _ _ _ _ h => h, fun _ _ _ _ h => h, fun _ _ _ _ h => h, fun _ _ _ _ h => h, fun _ _ _ _ h => h, fun _ _ _ _ h => h, fun _ _ _ _ h => h, fun _ _ _ _ h => h, fun _ _ _ _ h => h, fun _ _ _ _ h => h, fun _ _ _ _ h => h, fun _ _ _ _ h => h, fun _ _ _ _ h => h, fun _ _ _ _ h => h, fun _ _ _ _ h => h, fun _ _ _ _ h => h, fun _ _ _ _ h => h, trivial⟩
          case mai =>
            simp only [List.length_cons, List.length_nil, Nat.zero_add, Nat.reduceAdd, AllVals]
            intro z0 z1 z2 z3 z4 z5 z6 z7 z8 z9 z10 z11 z12 z13 z14 z15 z16 z17 z18 z19 z20 z21 z22 z23 z24
            simp only [putAll, Act.put, List.setIfInBounds_toArray, List.set_cons_zero, List.set_cons_succ, StepsL, TailOK]
            refine ⟨?_, ?_, ?_, ?_, ?_, ?_, ?_, ?_, ?_, ?_, ?_, ?_, ?_, ?_, ?_, ?_, ?_, ?_, ?_, ?_, ?_, ?_, ?_, ?_, ?_⟩
            all_goals try (first | trivial | ((intro wq K hRq hPq hKq; simp only [Pre, Region.binds, List.getD_cons_zero, List.getD_cons_succ, true_imp_iff, forall_const, and_true, true_and] at hPq; simp only [Act.put, List.setIfInBounds_toArray, List.set_cons_zero, List.set_cons_succ] at hKq); go_split_ands; subst_vars; (try unfold str at *); go_wp2; first | exact hKq _ _ (Keep.refl _ _) rfl | exact hKq _ _ (Keep.refl _ _) trivial | exact hKq _ _ (FinR.refl _ _ _) rfl | exact hKq _ _ (FinR.refl _ _ _) trivial))
            · (intro wq K hR hP hK; simp only [Pre, Region.binds, List.getD_cons_zero, List.getD_cons_succ, true_imp_iff, forall_const, and_true, true_and] at hP; simp only [Act.put, List.setIfInBounds_toArray, List.set_cons_zero, List.set_cons_succ] at hK)
              go_split_ands
              subst_vars
              have cq := (((Keep.refl [] wr).drew).then hR).cell cn (by simp)
              go_wp2
              exact hK _ _ (Keep.refl _ _) rfl
            · (intro wq K hR hP hK; simp only [Pre, Region.binds, List.getD_cons_zero, List.getD_cons_succ, true_imp_iff, forall_const, and_true, true_and] at hP; simp only [Act.put, List.setIfInBounds_toArray, List.set_cons_zero, List.set_cons_succ] at hK)
              go_split_ands
              subst_vars
              go_wp2_with (go_at_call 14; with_reducible refine (hS1.first _ ((hkr.drew).then hR)).mono ?_; rintro e w12 ⟨rfl, hw12⟩; obtain rfl := hw12.symm)
              exact hK _ _ (Keep.refl _ _) rfl
            · (intro wq K hR hP hK; simp only [Pre, Region.binds, List.getD_cons_zero, List.getD_cons_succ, true_imp_iff, forall_const, and_true, true_and] at hP; simp only [Act.put, List.setIfInBounds_toArray, List.set_cons_zero, List.set_cons_succ] at hK)
              go_split_ands
              subst_vars
              have cq := (((Keep.refl [] wr).drew).then hR).cell ct (by simp)
              go_wp2
              exact hK _ _ (Keep.refl _ _) rfl
            · (intro wq K hR hP hK; simp only [Pre, Region.binds, List.getD_cons_zero, List.getD_cons_succ, true_imp_iff, forall_const, and_true, true_and] at hP; simp only [Act.put, List.setIfInBounds_toArray, List.set_cons_zero, List.set_cons_succ] at hK)
              go_split_ands
              subst_vars
              have cq := (((Keep.refl [] wr).drew).then hR).cell cn (by simp)
              go_wp2
              exact hK _ _ (Keep.refl _ _) rfl
            · (intro wq K hR hP hK; simp only [Pre, Region.binds, List.getD_cons_zero, List.getD_cons_succ, true_imp_iff, forall_const, and_true, true_and] at hP; simp only [Act.put, List.setIfInBounds_toArray, List.set_cons_zero, List.set_cons_succ] at hK)
              go_split_ands
              subst_vars
              have hMq := hM.keep (((Keep.refl [] wr).drew).then hR) (by simp)
              have hlk := run_lookupI (P := Tryd.prog) wq 30 3 9 mb (fullMap full2) ((fi : Int) + j) (.string ⟨#[]⟩) Tryd.underlying30 Tryd.underlying3 rfl hMq false
              have hfm : fullMap full2 ((fi : Int) + j) = some (str (full2.getD (fi + j) [])) := by
                unfold fullMap
                rw [if_pos (by omega), show ((fi : Int) + j).toNat = fi + j by omega, List.getElem?_eq_getElem (by omega)]
                simp [List.getElem?_eq_getElem (show fi + j < full2.length by omega)]
              rw [hfm] at hlk
              simp only [Bool.false_eq_true, if_false, Option.getD_some] at hlk
              clear hfm
              go_wp2
              exact hK _ _ (Keep.refl _ _) rfl
            · intro wq hR hV K hK
              simp only [AllAt] at hV
              go_split_ands
              subst_vars
              go_wp2
              refine hK _ _ ?_
              go_wp2
              exact ⟨⟨j + 1, rfl, by omega, hkr.drew.then hR⟩, by simp [intOf]; omega⟩
        · have hjge : L ≤ j := by omega
          have hjge' : ¬ (j : Int) < L := by omega
          go_wp2
          go_ret
          exact ⟨rfl, hk10.then hkr⟩
end
end Go.Proofs.YtgopdbpddemplaaDoor
