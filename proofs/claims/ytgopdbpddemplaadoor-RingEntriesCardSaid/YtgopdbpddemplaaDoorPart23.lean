/- ring: Append. -/
import Derived.Test.YtgopdbpddemplaaDoorPart19
import Derived.Test.YtgopdbpddemplaaDoorPart18
import Derived.Test.YtgopdbpddemplaaDoorPart22
set_option linter.unusedSimpArgs false
set_option linter.unusedVariables false
namespace Go.Proofs.YtgopdbpddemplaaDoor
section
/- ring: Append. -/
open Go.RowKit

/-- what an operation of the ring leaves -/
def OpPost (w : World) (F : List Nat) (p : Nat) (v : Value) (d' : DK) (r' : RV) (w' : World) : Prop := ∃ F' v', DiskAt w' r'.a.p d' F' ∧ RingIs w' p r' v' ∧ Keep (p :: (F ++ v.ownBlock.toList)) w w' ∧ (∀ x ∈ F', x ∈ F ∨ w.heap.size ≤ x) ∧
  (∀ k, v'.ownBlock = some k → v.ownBlock = some k ∨ w.heap.size ≤ k) ∧ p ∉ F' ∧ (∀ k, v'.ownBlock = some k → k ∉ F') ∧ (∀ x ∈ F', x < w'.heap.size)
/-- a ring on a device, apart -/
structure RingOn (w : World) (p : Nat) (d : DK) (r : RV) (v : Value) (F : List Nat) : Prop where
  ring : RingIs w p r v
  ok : r.ok
  disk : DiskAt w r.a.p d F
  pF : p ∉ F
  vF : ∀ k, v.ownBlock = some k → k ∉ F
  lt : ∀ x ∈ F, x < w.heap.size
theorem RingOn.same {w w' : World} {p : Nat} {d : DK} {r : RV} {v : Value} {F : List Nat} (h : RingOn w p d r v F) (hk : Keep [] w w') : OpPost w F p v d r w' :=
  ⟨F, v, h.disk.keep0 hk, ⟨hk.get h.ring.row (by simp), OwnLike.keep h.ring.es hk (by simp)⟩, hk.mono (by simp), fun _ hx => .inl hx, fun _ e => .inl e, h.pF, h.vF, fun x hx => Nat.lt_of_lt_of_le (h.lt x hx) hk.size⟩
theorem RingOn.keep0 {w w' : World} {p : Nat} {d : DK} {r : RV} {v : Value} {F : List Nat} (h : RingOn w p d r v F) (hk : Keep [] w w') : RingOn w' p d r v F :=
  ⟨⟨hk.get h.ring.row (by simp), OwnLike.keep h.ring.es hk (by simp)⟩, h.ok, h.disk.keep0 hk, h.pF, h.vF, fun x hx => Nat.lt_of_lt_of_le (h.lt x hx) hk.size⟩
theorem appendF_a (d : DK) (r : RV) (s : List UInt8) : (appendF d r s).2.2.a = r.a := by
  unfold appendF
  simp only
  split
  · rfl
  · split
    · rfl
    · split
      · rfl
      · split
        · rfl
        · split <;> rfl

set_option maxRecDepth 100000 in
set_option maxHeartbeats 2000000 in
theorem append_err {F : List Nat} {w : World} {p : Nat} {d : DK} {r : RV} {v : Value} (h : RingOn w p d r v F) (s : List UInt8) (hs : s.length ≤ 1000000000) (he : r.failed ≠ 0 ∨ 131072 < s.length ∨ r.a.places - r.used < blocksN (26 + s.length + 16) ∨ 1099511627775 < r.h.first + r.es.length) :
    Calls Tryd.prog 21 #[.pointer (some ⟨p, 0, none⟩), str s] w fun e w' => e = .returned (.tuple #[.int .i64 (appendF d r s).1.1, .int .i64 (appendF d r s).1.2]) ∧ OpPost w F p v (appendF d r s).2.1 (appendF d r s).2.2 w' := by
  have hsz : (ByteArray.mk s.toArray).size = s.length := by simp [ByteArray.size]
  have hO1 := h.keep0 ((Keep.refl [] w).alloc (.cells #[.pointer (some ⟨p, 0, none⟩)] 26))
  have c0 : (w.alloc (.cells #[.pointer (some ⟨p, 0, none⟩)] 26)).cell? ⟨w.heap.size, 0, none⟩ = some (.pointer (some ⟨p, 0, none⟩)) := (cell_row' (j := 0) (heap_alloc_new w _)).trans rfl
  unfold str
  by_cases h1 : r.failed = 0
  · have HFA := Lib.hid h1
    by_cases h2 : 131072 < s.length
    · have HA : Hid (appendF d r s = ((0, 5), d, r)) := Lib.hid (by unfold appendF; rw [if_neg (by simpa using h1), if_pos h2])
      have h2' : (131072 : Int) < s.length := by omega
      clear h1 he
      go_enter Tryd.func21, Tryd.ntmps21
      go_wp2_with (first
        | (go_at_call 24; refine (failed_any hO1.ring).mono ?_; rw [HFA.out]; rintro e w2 ⟨rfl, hw2⟩; obtain rfl := hw2.symm)
        | (go_at_call 19; refine (need_bad s.length _ (Or.inr h2')).mono ?_; rintro e w3 ⟨rfl, hw3⟩; obtain rfl := hw3.symm)
        | (go_at_call 10; refine (next_any hO1.ring hO1.ok).mono ?_; rintro e w4 ⟨rfl, hk4⟩; have c4 := (cell_row' (j := 0) (hk4.get (heap_alloc_new w (.cells #[.pointer (some ⟨p, 0, none⟩)] 26)) (by simp))).trans rfl))
      go_ret2
      exact ⟨by rw [HA.out]; rfl, by rw [HA.out]; exact h.same (((Keep.refl [] w).alloc _).then hk4)⟩
    · have h2' : s.length ≤ 131072 := by omega
      have h2i : (s.length : Int) ≤ 131072 := by omega
      obtain ⟨n, hn⟩ : ∃ n, blocksN (26 + s.length + 16) = n := ⟨_, rfl⟩
      obtain ⟨fr, hfr⟩ : ∃ fr, r.a.places - r.used = fr := ⟨_, rfl⟩
      have hnb : n ≤ 1000000 := by rw [← hn]; unfold blocksN; omega
      rw [hn, hfr] at he
      by_cases h3 : fr < n
      · have HA : Hid (appendF d r s = ((0, 26), d, r)) := Lib.hid (by unfold appendF; rw [if_neg (by simpa using h1), if_neg h2, hn, hfr, if_pos h3])
        have h3' : (fr : Int) < n := by omega
        have HN := Lib.hid hn
        have HFR := Lib.hid hfr
        clear h1 he hn hfr h2
        go_enter Tryd.func21, Tryd.ntmps21
        go_wp2_with (first
          | (go_at_call 24; refine (failed_any hO1.ring).mono ?_; rw [HFA.out]; rintro e w2 ⟨rfl, hw2⟩; obtain rfl := hw2.symm)
          | (go_at_call 19; refine (need_ok s.length _ h2').mono ?_; rw [HN.out]; rintro e w3 ⟨rfl, hw3⟩; obtain rfl := hw3.symm)
          | (go_at_call 10; refine (next_any hO1.ring hO1.ok).mono ?_; rintro e w4 ⟨rfl, hk4⟩; have hO4 := hO1.keep0 hk4; have c4 := (cell_row' (j := 0) (hk4.get (heap_alloc_new w (.cells #[.pointer (some ⟨p, 0, none⟩)] 26)) (by simp))).trans rfl)
          | (go_at_call 15; refine (free_any hO4.ring hO4.ok).mono ?_; rw [HFR.out]; rintro e w5 ⟨rfl, hk5⟩))
        go_ret2
        exact ⟨by rw [HA.out]; rfl, by rw [HA.out]; exact h.same ((((Keep.refl [] w).alloc _).then hk4).then hk5)⟩
      · have h4 : 1099511627775 < r.h.first + r.es.length := by
          rcases he with h | h | h | h
          · exact absurd h1 h
          · omega
          · omega
          · exact h
        have HA : Hid (appendF d r s = ((0, 9), d, r)) := Lib.hid (by unfold appendF; rw [if_neg (by simpa using h1), if_neg h2, hn, hfr, if_neg h3, if_pos h4])
        have h3' : ¬ (fr : Int) < n := by omega
        have h4' : (1099511627775 : Int) < (r.h.first : Int) + (r.es.length : Int) := by omega
        have HN := Lib.hid hn
        have HFR := Lib.hid hfr
        clear h1 he hn hfr h2
        go_enter Tryd.func21, Tryd.ntmps21
        go_wp2_with (first
          | (go_at_call 24; refine (failed_any hO1.ring).mono ?_; rw [HFA.out]; rintro e w2 ⟨rfl, hw2⟩; obtain rfl := hw2.symm)
          | (go_at_call 19; refine (need_ok s.length _ h2').mono ?_; rw [HN.out]; rintro e w3 ⟨rfl, hw3⟩; obtain rfl := hw3.symm)
          | (go_at_call 10; refine (next_any hO1.ring hO1.ok).mono ?_; rintro e w4 ⟨rfl, hk4⟩; have hO4 := hO1.keep0 hk4; have c4 := (cell_row' (j := 0) (hk4.get (heap_alloc_new w (.cells #[.pointer (some ⟨p, 0, none⟩)] 26)) (by simp))).trans rfl)
          | (go_at_call 15; refine (free_any hO4.ring hO4.ok).mono ?_; rw [HFR.out]; rintro e w5 ⟨rfl, hk5⟩))
        go_ret2
        exact ⟨by rw [HA.out]; rfl, by rw [HA.out]; exact h.same ((((Keep.refl [] w).alloc _).then hk4).then hk5)⟩
  · have HFA := Lib.hid (show r.failed = r.failed from rfl)
    have HA : Hid (appendF d r s = ((0, r.failed), d, r)) := Lib.hid (by unfold appendF; rw [if_pos h1])
    have hb : (r.failed == 0) = false := by simpa using h1
    have hb' : (r.failed != 0) = true := by simpa using h1
    clear h1 he
    go_enter Tryd.func21, Tryd.ntmps21
    go_wp2_with (first
      | (go_at_call 24; refine (failed_any hO1.ring).mono ?_; rw [HFA.out]; rintro e w2 ⟨rfl, hw2⟩; obtain rfl := hw2.symm)
      )
    go_ret2
    exact ⟨by rw [HA.out]; rfl, by rw [HA.out]; exact h.same ((Keep.refl [] w).alloc _)⟩

set_option maxRecDepth 100000 in
set_option maxHeartbeats 2000000 in
theorem append_main {F : List Nat} {w : World} {p : Nat} {d : DK} {r : RV} {v : Value} (hG : Glob w) (h : RingOn w p d r v F) (hd : d.down = false) (hf : r.a.fits d) (hlen : d.pend.length ≤ 50000000) (s : List UInt8) (h1 : r.failed = 0) (h2 : s.length ≤ 131072) (h3 : blocksN (26 + s.length + 16) ≤ r.a.places - r.used) (h4 : r.h.first + r.es.length ≤ 1099511627775) :
    Calls Tryd.prog 21 #[.pointer (some ⟨p, 0, none⟩), str s] w fun e w' => e = .returned (.tuple #[.int .i64 (appendF d r s).1.1, .int .i64 (appendF d r s).1.2]) ∧ OpPost w F p v (appendF d r s).2.1 (appendF d r s).2.2 w' := by
  have hsz : (ByteArray.mk s.toArray).size = s.length := by simp [ByteArray.size]
  have hO1 := h.keep0 ((Keep.refl [] w).alloc (.cells #[.pointer (some ⟨p, 0, none⟩)] 26))
  have c0 : (w.alloc (.cells #[.pointer (some ⟨p, 0, none⟩)] 26)).cell? ⟨w.heap.size, 0, none⟩ = some (.pointer (some ⟨p, 0, none⟩)) := (cell_row' (j := 0) (heap_alloc_new w _)).trans rfl
  have hA0 : appendF d r s = (let t := encodeF 2 r.h.generation ((r.h.first + r.es.length : Nat) : Int) s; let W := wfold r.a ((r.h.place + r.used) % r.a.places) d t (List.range ((t.length - 1 + 511 - 1) / 511)); if W.1 ≠ 0 then ((0, W.1), W.2.1, { r with failed := W.1 }) else ((((r.h.first + r.es.length : Nat) : Int), 0), W.2.1, r.add (r.h.generation, blocksN (26 + s.length + 16)))) := by
    unfold appendF; rw [if_neg (by simpa using h1), if_neg (by omega), if_neg (by omega), if_neg (by omega)]
  have htl := encodeF_length 2 r.h.generation ((r.h.first + r.es.length : Nat) : Int) s
  obtain ⟨t, ht⟩ : ∃ t, encodeF 2 r.h.generation ((r.h.first + r.es.length : Nat) : Int) s = t := ⟨_, rfl⟩
  obtain ⟨n, hn⟩ : ∃ n, blocksN (26 + s.length + 16) = n := ⟨_, rfl⟩
  obtain ⟨fr, hfr⟩ : ∃ fr, r.a.places - r.used = fr := ⟨_, rfl⟩
  have hnb : n ≤ 1000000 := by rw [← hn]; unfold blocksN; omega
  rw [ht] at htl
  simp only [ht, hn] at hA0
  rw [hn, hfr] at h3
  obtain ⟨WF, hWF⟩ : ∃ WF, wfold r.a ((r.h.place + r.used) % r.a.places) d t (List.range ((t.length - 1 + 511 - 1) / 511)) = WF := ⟨_, rfl⟩
  rw [hWF] at hA0
  have h3' : ¬ (fr : Int) < n := by omega
  have h2i : (s.length : Int) ≤ 131072 := by omega
  have h4' : ¬ (1099511627775 : Int) < (r.h.first : Int) + (r.es.length : Int) := by omega
  have HFA := Lib.hid h1
  have HA0 := Lib.hid hA0
  have HN := Lib.hid hn
  have HFR := Lib.hid hfr
  have HT := Lib.hid ht
  have HWF := Lib.hid hWF
  have hgm := h.ok.h.g
  have cG : ∀ W : World, Keep [] w W → W.cell? ⟨p, 3, none⟩ = some (.int .i64 r.h.generation) := fun W hk => (cell_row' (j := 3) (hk.get h.ring.row (by simp))).trans rfl
  have HCG := Lib.hid cG
  have hmf : ∀ (fn : Fn) (first cap : Array Value) (w : World), (Instr.makeFunc fn first cap).run Tryd.prog w = .ok (.func fn first cap) w := fun _ _ _ _ => rfl
  have heg : ∀ args w, (callFunc 41 args).run Tryd.prog w = .ok (.enter 41 args) w := enters_of Tryd.func41 (by kernel_rfl) rfl
  have HEG := Lib.hid heg
  have ht1 : 1 ≤ t.length := by omega
  have ht2 : t.length ≤ 1000000 := by omega
  clear h1 hA0 hn hfr ht hWF cG heg
  unfold str
  by_cases hz : WF.1 = 0
  · have HZ := Lib.hid hz
    have HA := Lib.hid (HA0.out.trans (if_neg (by simpa using hz)))
    clear hz
    go_enter Tryd.func21, Tryd.ntmps21
    go_wp2_with (first
      | (go_at_call 24; refine (failed_any hO1.ring).mono ?_; rw [HFA.out]; rintro e w2 ⟨rfl, hw2⟩; obtain rfl := hw2.symm)
      | (go_at_call 19; refine (need_ok s.length _ h2).mono ?_; rw [HN.out]; rintro e w3 ⟨rfl, hw3⟩; obtain rfl := hw3.symm)
      | (go_at_call 10; refine (next_any hO1.ring hO1.ok).mono ?_; rintro e w4 ⟨rfl, hk4⟩; have hO4 := hO1.keep0 hk4; have r4 := hk4.get (heap_alloc_new w (.cells #[.pointer (some ⟨p, 0, none⟩)] 26)) (by simp); have c4 := (cell_row' (j := 0) r4).trans rfl)
      | (go_at_call 15; refine (free_any hO4.ring hO4.ok).mono ?_; rw [HFR.out]; rintro e w5 ⟨rfl, hk5⟩
         have hO5 := hO4.keep0 hk5
         have r5 := hk5.get r4 (by simp)
         have c5 := (cell_row' (j := 0) r5).trans rfl
         have hkw5 := (((Keep.refl [] w).alloc (.cells #[.pointer (some ⟨p, 0, none⟩)] 26)).then hk4).then hk5
         have cg5 := HCG.out w5 hkw5
         have hG5 := hG.keep0 hkw5)
      | (go_at_call 39; refine (encode_ok 2 r.h.generation ((r.h.first + r.es.length : Nat) : Int) s w5 hG5 (by omega) (by omega) (by omega) (by omega) (by omega) (by omega) (by omega)).mono ?_; rw [HT.out]; unfold str; rintro e w6 ⟨rfl, hk6⟩
         have hO6 := hO5.keep0 (hk6.alloc (.cells #[.string ⟨t.toArray⟩] 9))
         have r6 := (hk6.alloc (.cells #[.string ⟨t.toArray⟩] 9)).get r5 (by simp)
         have c6 := (cell_row' (j := 0) r6).trans rfl)
      | (go_at_call 40; refine (perform_any hO6.ring 41 #[] #[.pointer (some ⟨w.heap.size, 0, none⟩), .pointer (some ⟨w6.heap.size, 0, none⟩)] F h.pF hO6.lt (fun err w' => err = WF.1 ∧ ∃ F', DiskAt w' r.a.p WF.2.1 F' ∧ ∀ x ∈ F', x ∈ F ∨ (w6.alloc (.cells #[.string ⟨t.toArray⟩] 9)).heap.size + 2 ≤ x) HEG.out (fun W hk hz => (append1_ok (hO6.keep0 hk).ring h.ok (hO6.keep0 hk).disk hd hf t ht1 ht2 hlen (hk.get r6 (by simp)) (hk.get (heap_alloc_new w6 _) (by simp))).mono (by rw [HWF.out]; exact fun e w' ⟨e1, F', e2, e3, e4⟩ => ⟨_, e1, ⟨rfl, F', e2, fun x hx => (e4 x hx).imp id (fun h => Nat.le_trans hz h)⟩, e3⟩))).mono ?_; rintro e w9 ⟨err, w7, rfl, ⟨rfl, F', hD7, hF7⟩, hk7, eb, heb, heb2, hor⟩
         have hp7 := hk7.get hO6.ring.row h.pF
         have hE7 := OwnLike.keep hO6.ring.es hk7 (fun k hk e => h.vF k e hk)
         have r7 := hk7.get r6 (fun hm => by have := h.lt _ hm; omega)
         have hpw := lt_of_heap h.ring.row
         have hvw : ∀ k, v.ownBlock = some k → k < w.heap.size := fun k e => (World.ownsRow.lt h.ring.es k e).2
         have hsz6 : w.heap.size < w6.heap.size := Nat.lt_of_lt_of_le (lt_of_heap r5) hk6.size
         have hkw7 : Keep F w w7 := ((hkw5.then hk6).alloc (.cells #[.string ⟨t.toArray⟩] 9)).mono (F' := F) (by simp) |>.trans hk7 (fun x hx => Or.inl hx)
         simp only [World.size_alloc] at heb heb2 hF7
         have hw9 : w9 = w7.setCell ⟨eb, 0, none⟩ (.int .i64 0) := hor.elim (fun q => q.2) (fun q => absurd HZ.out q.1)
         have hk9 : Keep [eb] w7 w9 := by rw [hw9]; exact (Keep.refl _ _).setCell (by simp) _
         have hR9 : RingIs w9 p r v := ⟨hk9.get hp7 (by simp; omega), OwnLike.keep hE7 hk9 (fun k hk e => by rw [List.mem_singleton.1 hk] at e; have := hvw _ e; omega)⟩
         have hD9 : DiskAt w9 r.a.p WF.2.1 F' := hD7.keep hk9 (fun x hx hm => by
           rw [List.mem_singleton.1 hm] at hx
           rcases hF7 _ hx with h' | h'
           · have := h.lt _ h'; omega
           · omega)
         have r9 := hk9.get r7 (by simp; omega)
         rw [HZ.out]
         clear hw9 hor)
      )
    obtain ⟨Post, hPost⟩ : ∃ Post : World → Prop, Post = fun w' => ∃ v', RingIs w' p (r.add (r.h.generation, n)) v' ∧ Keep (p :: v.ownBlock.toList) w9 w' ∧ (v'.ownBlock = v.ownBlock ∨ ∃ k, v'.ownBlock = some k ∧ w9.heap.size ≤ k) := ⟨_, rfl⟩
    refine wp_region_ghost (fun a b => Post a → Post b) (fun listed a => listed.getD 8 false = false → Keep [] w9 a)
      [fun v _ => v = .pointer (some ⟨p, 0, none⟩), fun v _ => v = .pointer (some ⟨p, 0, none⟩), fun v _ => v = .pointer (some ⟨p, 0, none⟩), fun v _ => v = .pointer (some ⟨p, 3, none⟩), fun v _ => v = .pointer (some ⟨p, 3, none⟩),
       fun v _ => v = .int .i64 r.h.generation, fun v _ => v = .int .i64 n, fun v _ => v = .agg #[.int .i64 r.h.generation, .int .i64 n], fun _ w' => Post w'] (by kernel_rfl) (by kernel_rfl) (by kernel_rfl) (fun _ _ _ h k e => k (h e)) (fun _ e => e) ?sta (fun _ => (Keep.refl _ _).drew) ?mai
    case sta => simp only [Stable]; exact ⟨fun _ _ _ _ h => h, fun _ _ _ _ h => h, fun _ _ _ _ h => h, fun _ _ _ _ h => h, fun _ _ _ _ h => h, fun _ _ _ _ h => h, fun _ _ _ _ h => h, fun _ _ _ _ h => h, fun _ _ _ hk h => hk h, trivial⟩
    case mai =>
      simp only [List.length_cons, List.length_nil, Nat.zero_add, Nat.reduceAdd, AllVals]
      intro z0 z1 z2 z3 z4 z5 z6 z7 z8
      simp only [putAll, Act.put, List.setIfInBounds_toArray, List.set_cons_zero, List.set_cons_succ, StepsAtG]
      refine ⟨?stp, ?fin⟩
      case' stp => repeat' apply And.intro
      all_goals try (first | trivial | exact True.intro)
      · intro wq K listed hR hP hG hL hS hC hK
        simp only [Pre, Region.binds, List.getD_cons_zero, List.getD_cons_succ, true_imp_iff, forall_const, and_true, true_and] at hP
        simp only [Act.put, List.setIfInBounds_toArray, List.set_cons_zero, List.set_cons_succ] at hK
        have hkq : Keep [] w9 wq := hG (hC.notYet 12 8 0 (by kernel_rfl) hL)
        have cb : wq.cell? ⟨w.heap.size, 0, none⟩ = some (.pointer (some ⟨p, 0, none⟩)) := (cell_row' (j := 0) (hkq.get r9 (by simp))).trans rfl
        go_wp2
        exact hK _ _ id rfl (fun _ => hkq)
      · intro wq K listed hR hP hG hL hS hC hK
        simp only [Pre, Region.binds, List.getD_cons_zero, List.getD_cons_succ, true_imp_iff, forall_const, and_true, true_and] at hP
        simp only [Act.put, List.setIfInBounds_toArray, List.set_cons_zero, List.set_cons_succ] at hK
        have hkq : Keep [] w9 wq := hG (hC.notYet 12 8 1 (by kernel_rfl) hL)
        have cb : wq.cell? ⟨w.heap.size, 0, none⟩ = some (.pointer (some ⟨p, 0, none⟩)) := (cell_row' (j := 0) (hkq.get r9 (by simp))).trans rfl
        go_wp2
        exact hK _ _ id rfl (fun _ => hkq)
      · intro wq K listed hR hP hG hL hS hC hK
        simp only [Pre, Region.binds, List.getD_cons_zero, List.getD_cons_succ, true_imp_iff, forall_const, and_true, true_and] at hP
        simp only [Act.put, List.setIfInBounds_toArray, List.set_cons_zero, List.set_cons_succ] at hK
        have hkq : Keep [] w9 wq := hG (hC.notYet 12 8 2 (by kernel_rfl) hL)
        subst hP
        go_wp2
        exact hK _ _ id rfl (fun _ => hkq)
      · intro wq K listed hR hP hG hL hS hC hK
        simp only [Pre, Region.binds, List.getD_cons_zero, List.getD_cons_succ, true_imp_iff, forall_const, and_true, true_and] at hP
        simp only [Act.put, List.setIfInBounds_toArray, List.set_cons_zero, List.set_cons_succ] at hK
        have hkq : Keep [] w9 wq := hG (hC.notYet 12 8 3 (by kernel_rfl) hL)
        subst hP
        go_wp2
        exact hK _ _ id rfl (fun _ => hkq)
      · intro wq K listed hR hP hG hL hS hC hK
        simp only [Pre, Region.binds, List.getD_cons_zero, List.getD_cons_succ, true_imp_iff, forall_const, and_true, true_and] at hP
        simp only [Act.put, List.setIfInBounds_toArray, List.set_cons_zero, List.set_cons_succ] at hK
        have hkq : Keep [] w9 wq := hG (hC.notYet 12 8 4 (by kernel_rfl) hL)
        subst hP
        go_wp2
        exact hK _ _ id rfl (fun _ => hkq)
      · intro wq K listed hR hP hG hL hS hC hK
        simp only [Pre, Region.binds, List.getD_cons_zero, List.getD_cons_succ, true_imp_iff, forall_const, and_true, true_and] at hP
        simp only [Act.put, List.setIfInBounds_toArray, List.set_cons_zero, List.set_cons_succ] at hK
        have hkq : Keep [] w9 wq := hG (hC.notYet 12 8 5 (by kernel_rfl) hL)
        subst hP
        have cg : wq.cell? ⟨p, 3, none⟩ = some (.int .i64 r.h.generation) := (cell_row' (j := 3) (hkq.get hR9.row (by simp))).trans rfl
        go_wp2
        exact hK _ _ id rfl (fun _ => hkq)
      · intro wq K listed hR hP hG hL hS hC hK
        simp only [Pre, Region.binds, List.getD_cons_zero, List.getD_cons_succ, true_imp_iff, forall_const, and_true, true_and] at hP
        simp only [Act.put, List.setIfInBounds_toArray, List.set_cons_zero, List.set_cons_succ] at hK
        have hkq : Keep [] w9 wq := hG (hC.notYet 12 8 6 (by kernel_rfl) hL)
        go_wp2
        exact hK _ _ id rfl (fun _ => hkq)
      · intro wq K listed hR hP hG hL hS hC hK
        simp only [Pre, Region.binds, List.getD_cons_zero, List.getD_cons_succ, true_imp_iff, forall_const, and_true, true_and] at hP
        simp only [Act.put, List.setIfInBounds_toArray, List.set_cons_zero, List.set_cons_succ] at hK
        have hkq : Keep [] w9 wq := hG (hC.notYet 12 8 7 (by kernel_rfl) hL)
        obtain ⟨q5, q6⟩ := hP
        subst q5 q6
        go_wp2
        exact hK _ _ id rfl (fun _ => hkq)
      · intro wq K listed hR hP hG hL hS hC hK
        simp only [Pre, Region.binds, List.getD_cons_zero, List.getD_cons_succ, true_imp_iff, forall_const, and_true, true_and] at hP
        simp only [Act.put, List.setIfInBounds_toArray, List.set_cons_zero, List.set_cons_succ] at hK
        have hkq : Keep [] w9 wq := hG hL
        obtain ⟨q0, q7⟩ := hP
        subst q0 q7
        go_wp2_with (go_at_call 43; refine (add_any ⟨hkq.get hR9.row (by simp), OwnLike.keep hR9.es hkq (by simp)⟩ h.ok (r.h.generation, n) hnb).mono ?_; rintro e wr ⟨rfl, v', hRr, hkr, hvr⟩)
        have hp2 : Post wr := by
          rw [hPost]
          exact ⟨v', hRr, (hkq.mono (F' := p :: v.ownBlock.toList) (by simp)).trans hkr (fun x hx => Or.inl hx), hvr.imp id (fun ⟨k, e1, e2⟩ => ⟨k, e1, Nat.le_trans hkq.size e2⟩)⟩
        exact hK _ _ (fun _ => hp2) hp2 (fun h => by rw [getD_set_self (by rw [hS]; decide)] at h; cases h)
      · intro wf hf' hz
        simp only [AllAt] at hz
        obtain ⟨-, -, -, -, -, -, -, -, hz8, -⟩ := hz
        rw [hPost] at hz8
        obtain ⟨v', hR10, hk10, hv10⟩ := hz8
        go_wp2
        go_ret2
        have hb : (r.add (r.h.generation, n)).a = r.a := rfl
        have hv9 : ∀ k, v.ownBlock = some k → k ∉ F' := fun k e hm => by
          rcases hF7 _ hm with h' | h'
          · exact h.vF k e h'
          · have := hvw k e; omega
        have hp9 : p ∉ F' := fun hm => by
          rcases hF7 _ hm with h' | h'
          · exact h.pF h'
          · omega
        have hD10 : DiskAt wf r.a.p WF.2.1 F' := hD9.keep hk10 (fun x hx hm => by
          rcases List.mem_cons.1 hm with e | e
          · exact hp9 (e ▸ hx)
          · exact hv9 x (by simpa using e) hx)
        obtain ⟨F8, hD11, hF8⟩ := hD9.tight
        have hD12 : DiskAt wf r.a.p WF.2.1 F8 := hD11.keep hk10 (fun x hx hm => by
          rcases List.mem_cons.1 hm with e | e
          · exact hp9 (e ▸ (hF8 x hx).1)
          · exact hv9 x (by simpa using e) (hF8 x hx).1)
        have hs9 := hk9.size
        have hs7 := hkw7.size
        refine ⟨by rw [HA.out]; rfl, ?_⟩
        rw [HA.out]
        refine ⟨F8, v', hD12, hR10, ?_, ?_, ?_, fun hm => hp9 (hF8 _ hm).1, ?_, fun x hx => Nat.lt_of_lt_of_le (hF8 x hx).2 hk10.size⟩
        · refine ((hkw7.mono (F' := p :: (F ++ v.ownBlock.toList)) (fun x hx => Or.inl (by simp [hx]))).trans hk9 (fun x hx => Or.inr (by rw [List.mem_singleton.1 hx]; omega))).trans hk10 (fun x hx => Or.inl ?_)
          rcases List.mem_cons.1 hx with e | e
          · simp [e]
          · exact List.mem_cons_of_mem _ (List.mem_append_right _ e)
        · intro x hx
          rcases hF7 x (hF8 x hx).1 with h' | h'
          · exact .inl h'
          · exact .inr (by omega)
        · intro k e
          rcases hv10 with h' | ⟨k', h', h2'⟩
          · left; rw [← h', e]
          · rw [h'] at e; cases e; exact .inr (by omega)
        · intro k e hm
          rcases hv10 with h' | ⟨k', h', h2'⟩
          · exact hv9 k (by rw [← h', e]) (hF8 k hm).1
          · rw [h'] at e; cases e; have := (hF8 _ hm).2; omega
  · have HZ := Lib.hid hz
    have HA := Lib.hid (HA0.out.trans (if_pos (by simpa using hz)))
    have hzb : (WF.1 == 0) = false := by simpa using hz
    have hzb' : (WF.1 != 0) = true := by simpa using hz
    clear hz
    go_enter Tryd.func21, Tryd.ntmps21
    go_wp2_with (first
      | (go_at_call 24; refine (failed_any hO1.ring).mono ?_; rw [HFA.out]; rintro e w2 ⟨rfl, hw2⟩; obtain rfl := hw2.symm)
      | (go_at_call 19; refine (need_ok s.length _ h2).mono ?_; rw [HN.out]; rintro e w3 ⟨rfl, hw3⟩; obtain rfl := hw3.symm)
      | (go_at_call 10; refine (next_any hO1.ring hO1.ok).mono ?_; rintro e w4 ⟨rfl, hk4⟩; have hO4 := hO1.keep0 hk4; have r4 := hk4.get (heap_alloc_new w (.cells #[.pointer (some ⟨p, 0, none⟩)] 26)) (by simp); have c4 := (cell_row' (j := 0) r4).trans rfl)
      | (go_at_call 15; refine (free_any hO4.ring hO4.ok).mono ?_; rw [HFR.out]; rintro e w5 ⟨rfl, hk5⟩
         have hO5 := hO4.keep0 hk5
         have r5 := hk5.get r4 (by simp)
         have c5 := (cell_row' (j := 0) r5).trans rfl
         have hkw5 := (((Keep.refl [] w).alloc (.cells #[.pointer (some ⟨p, 0, none⟩)] 26)).then hk4).then hk5
         have cg5 := HCG.out w5 hkw5
         have hG5 := hG.keep0 hkw5)
      | (go_at_call 39; refine (encode_ok 2 r.h.generation ((r.h.first + r.es.length : Nat) : Int) s w5 hG5 (by omega) (by omega) (by omega) (by omega) (by omega) (by omega) (by omega)).mono ?_; rw [HT.out]; unfold str; rintro e w6 ⟨rfl, hk6⟩
         have hO6 := hO5.keep0 (hk6.alloc (.cells #[.string ⟨t.toArray⟩] 9))
         have r6 := (hk6.alloc (.cells #[.string ⟨t.toArray⟩] 9)).get r5 (by simp)
         have c6 := (cell_row' (j := 0) r6).trans rfl)
      | (go_at_call 40; refine (perform_any hO6.ring 41 #[] #[.pointer (some ⟨w.heap.size, 0, none⟩), .pointer (some ⟨w6.heap.size, 0, none⟩)] F h.pF hO6.lt (fun err w' => err = WF.1 ∧ ∃ F', DiskAt w' r.a.p WF.2.1 F' ∧ ∀ x ∈ F', x ∈ F ∨ (w6.alloc (.cells #[.string ⟨t.toArray⟩] 9)).heap.size + 2 ≤ x) HEG.out (fun W hk hz => (append1_ok (hO6.keep0 hk).ring h.ok (hO6.keep0 hk).disk hd hf t ht1 ht2 hlen (hk.get r6 (by simp)) (hk.get (heap_alloc_new w6 _) (by simp))).mono (by rw [HWF.out]; exact fun e w' ⟨e1, F', e2, e3, e4⟩ => ⟨_, e1, ⟨rfl, F', e2, fun x hx => (e4 x hx).imp id (fun h => Nat.le_trans hz h)⟩, e3⟩))).mono ?_; rintro e w9 ⟨err, w7, rfl, ⟨rfl, F', hD7, hF7⟩, hk7, eb, heb, heb2, hor⟩
         have hp7 := hk7.get hO6.ring.row h.pF
         have hE7 := OwnLike.keep hO6.ring.es hk7 (fun k hk e => h.vF k e hk)
         have r7 := hk7.get r6 (fun hm => by have := h.lt _ hm; omega)
         have hpw := lt_of_heap h.ring.row
         have hvw : ∀ k, v.ownBlock = some k → k < w.heap.size := fun k e => (World.ownsRow.lt h.ring.es k e).2
         have hsz6 : w.heap.size < w6.heap.size := Nat.lt_of_lt_of_le (lt_of_heap r5) hk6.size
         have hkw7 : Keep F w w7 := ((hkw5.then hk6).alloc (.cells #[.string ⟨t.toArray⟩] 9)).mono (F' := F) (by simp) |>.trans hk7 (fun x hx => Or.inl hx)
         simp only [World.size_alloc] at heb heb2 hF7
         have hw9 : w9 = (w7.setCell ⟨eb, 0, none⟩ (.int .i64 WF.1)).setCell ⟨p, 10, none⟩ (.int .i64 WF.1) := hor.elim (fun q => absurd q.1 HZ.out) (fun q => q.2)
         have HW9 := Lib.hid hw9
         clear hw9 hor)
      )
    go_ret2
    have hw9 := HW9.out
    have hp8 := (heap_setCell_other w7 ⟨eb, 0, none⟩ p (.int .i64 WF.1) (by simp; omega)).trans hp7
    have hp9 := heap_setCell_same _ p 10 _ _ (.int .i64 WF.1) hp8
    rw [← hw9] at hp9
    have hk9 : Keep [eb, p] w7 w9 := by rw [hw9]; exact ((Keep.refl _ _).setCell (by simp) _).setCell (by simp) _
    have hpF' : p ∉ F' := fun hm => by
      rcases hF7 _ hm with h' | h'
      · exact h.pF h'
      · omega
    have heF' : eb ∉ F' := fun hm => by
      rcases hF7 _ hm with h' | h'
      · have := h.lt _ h'; omega
      · omega
    have hvp : v.ownBlock ≠ some p := own_row_ne h.ring.es h.ring.row (by decide)
    obtain ⟨F8, hD8, hF8⟩ := hD7.tight
    have hD9 : DiskAt w9 r.a.p WF.2.1 F8 := hD8.keep hk9 (fun x hx hm => by
      simp only [List.mem_cons, List.not_mem_nil, or_false] at hm
      rcases hm with rfl | rfl
      · exact heF' (hF8 _ hx).1
      · exact hpF' (hF8 _ hx).1)
    have hE9 := OwnLike.keep hE7 hk9 (fun k hk e => by
      simp only [List.mem_cons, List.not_mem_nil, or_false] at hk
      rcases hk with rfl | rfl
      · have := hvw _ e; omega
      · exact hvp e)
    have hs7 := hkw7.size
    refine ⟨by rw [HA.out]; rfl, ?_⟩
    rw [HA.out]
    refine ⟨F8, v, hD9, ⟨hp9.trans (by simp [RV.cells]), hE9⟩, ?_, ?_, fun k e => .inl e, fun hm => hpF' (hF8 _ hm).1, ?_, fun x hx => Nat.lt_of_lt_of_le (hF8 x hx).2 hk9.size⟩
    · refine (hkw7.mono (F' := p :: (F ++ v.ownBlock.toList)) (fun x hx => Or.inl (by simp [hx]))).trans hk9 (fun x hx => ?_)
      simp only [List.mem_cons, List.not_mem_nil, or_false] at hx
      rcases hx with rfl | rfl
      · exact Or.inr (by omega)
      · exact Or.inl (by simp)
    · intro x hx
      rcases hF7 x (hF8 x hx).1 with h' | h'
      · exact .inl h'
      · exact .inr (by omega)
    · intro k e hm
      rcases hF7 k (hF8 k hm).1 with h' | h'
      · exact h.vF k e h'
      · have := hvw k e; omega
end
end Go.Proofs.YtgopdbpddemplaaDoor
