/- ring: Sync. -/
import Derived.Test.YtgopdbpddemplaaDoorPart19
set_option linter.unusedSimpArgs false
set_option linter.unusedVariables false
namespace Go.Proofs.YtgopdbpddemplaaDoor
section
/- ring: Sync. -/
open Go.RowKit

/-- Sync: the error, the device, the ring -/
def syncF (d : DK) (r : RV) : Int × DK × RV :=
  if r.failed ≠ 0 then (r.failed, d, r)
  else if d.flush.1 ≠ 0 then (d.flush.1, d.flush.2, { r with failed := d.flush.1 })
  else (0, d.flush.2, { r with synced := r.h.first + r.es.length })

set_option maxRecDepth 100000 in
set_option maxHeartbeats 2000000 in
theorem sync_any {F : List Nat} {w : World} {p : Nat} {d : DK} {r : RV} {v : Value} (h : RingIs w p r v) (hr : r.ok) (hD : DiskAt w r.a.p d F) (hpF : p ∉ F) (hvF : ∀ k, v.ownBlock = some k → k ∉ F) (hFl : ∀ x ∈ F, x < w.heap.size) (hvp : v.ownBlock ≠ some p) :
    Calls Tryd.prog 22 #[.pointer (some ⟨p, 0, none⟩)] w fun e w' => e = .returned (.int .i64 (syncF d r).1) ∧ DiskAt w' r.a.p (syncF d r).2.1 F ∧ RingIs w' p (syncF d r).2.2 v ∧ Keep (p :: F) w w' := by
  have heg : ∀ args w, (callFunc 44 args).run Tryd.prog w = .ok (.enter 44 args) w := enters_of Tryd.func44 (by kernel_rfl) rfl
  have hmf : ∀ (fn : Fn) (first cap : Array Value) (w : World), (Instr.makeFunc fn first cap).run Tryd.prog w = .ok (.func fn first cap) w := fun _ _ _ _ => rfl
  have c0 : w.cell? ⟨p, 0, none⟩ = some (.pointer (some ⟨r.a.p, 0, none⟩)) := (cell_row' (j := 0) h.row).trans rfl
  by_cases hf : r.failed = 0
  · have HF := Lib.hid hf
    by_cases hz : d.flush.1 = 0
    · have hs : Hid (syncF d r = (0, d.flush.2, { r with synced := r.h.first + r.es.length })) := Lib.hid (by unfold syncF; rw [if_neg (by simpa using hf), if_neg (by simpa using hz)])
      have HZ := Lib.hid hz
      clear hf hz
      go_enter Tryd.func22, Tryd.ntmps22
      go_wp2_with (first
        | (go_at_call 24; refine (failed_any h).mono ?_; rw [HF.out]; rintro e w1 ⟨rfl, hw⟩; obtain rfl := hw.symm)
        | (go_at_call 40; refine (perform_any h 44 #[.pointer (some ⟨r.a.p, 0, none⟩)] #[] F hpF hFl (fun err w' => err = d.flush.1 ∧ DiskAt w' r.a.p d.flush.2 F) heg (fun W hk _ => (flush_any (hD.keep0 hk)).mono (fun e w' ⟨e1, e2, e3⟩ => ⟨_, e1, ⟨rfl, e2⟩, e3⟩))).mono ?_; rintro e w2 ⟨err, w3, rfl, ⟨rfl, hD3⟩, hk3, eb, heb, heb2, hor⟩
           have hw2 : w2 = w3.setCell ⟨eb, 0, none⟩ (.int .i64 0) := hor.elim (fun q => q.2) (fun q => absurd HZ.out q.1)
           have hkb : Keep [] w3 w2 ∨ True := Or.inr trivial
           have hp3 := hk3.get h.row hpF
           have hpb := lt_of_heap h.row
           have hp2 := (by rw [hw2]; exact (heap_setCell_other w3 ⟨eb, 0, none⟩ p (.int .i64 0) (by simp; omega)).trans hp3 : w2.heap[p]? = some (.cells (r.cells v) 66 (0, 0)))
           have h2 : RingIs w2 p r v := ⟨hp2, by rw [hw2]; exact OwnLike.keep (F := [eb]) (OwnLike.keep h.es hk3 (fun k hk e => hvF k e hk)) ((Keep.refl _ _).setCell (by simp) _) (fun k hk e => by rw [List.mem_singleton.1 hk] at e; have := (World.ownsRow.lt h.es _ e).2; omega)⟩
           have hk2 : Keep (p :: F) w w2 := by rw [hw2]; exact (hk3.mono (F' := p :: F) (fun x hx => Or.inl (by simp [hx]))).setCell (Or.inr heb) _
           have hD2 : DiskAt w2 r.a.p d.flush.2 F := by rw [hw2]; exact hD3.keep ((Keep.refl [eb] w3).setCell (by simp) _) (fun x hx hm => by rw [List.mem_singleton.1 hm] at hx; have := hFl _ hx; omega)
           rw [HZ.out]
           clear hw2 hor hkb)
        | (go_at_call 10; refine (next_any h2 hr).mono ?_; rintro e w4 ⟨rfl, hk4⟩
           have hp4 := hk4.get hp2 (by simp)
           have c9 : w4.cell? ⟨p, 9, none⟩ = some (.int .i64 r.synced) := (cell_row' (j := 9) hp4).trans rfl
           have f9 := frozen_row' (j := 9) hp4)
        )
      go_ret
      have hp5 := heap_setCell_same w4 p 9 _ _ (.int .i64 ((r.h.first + r.es.length : Nat) : Int)) hp4
      have kp : Keep [p] w4 (w4.setCell ⟨p, 9, none⟩ (.int .i64 ((r.h.first + r.es.length : Nat) : Int))) := (Keep.refl _ _).setCell (by simp) _
      exact ⟨by rw [hs.out]; rfl, by rw [hs.out]; exact (hD2.keep0 hk4).keep kp (fun x hx hm => by rw [List.mem_singleton.1 hm] at hx; exact hpF hx), by rw [hs.out]; exact ⟨hp5.trans (by simp [RV.cells]), OwnLike.keep (F := [p]) (OwnLike.keep (F := []) h2.es hk4 (by simp)) kp (fun k hk e => by rw [List.mem_singleton.1 hk] at e; exact hvp e)⟩, (hk2.then hk4).setCell (by simp) _⟩
    · have hs : Hid (syncF d r = (d.flush.1, d.flush.2, { r with failed := d.flush.1 })) := Lib.hid (by unfold syncF; rw [if_neg (by simpa using hf), if_pos (by simpa using hz)])
      have HZ := Lib.hid hz
      have hzb : (d.flush.1 == 0) = false := by simpa using hz
      clear hf hz
      go_enter Tryd.func22, Tryd.ntmps22
      go_wp2_with (first
        | (go_at_call 24; refine (failed_any h).mono ?_; rw [HF.out]; rintro e w1 ⟨rfl, hw⟩; obtain rfl := hw.symm)
        | (go_at_call 40; refine (perform_any h 44 #[.pointer (some ⟨r.a.p, 0, none⟩)] #[] F hpF hFl (fun err w' => err = d.flush.1 ∧ DiskAt w' r.a.p d.flush.2 F) heg (fun W hk _ => (flush_any (hD.keep0 hk)).mono (fun e w' ⟨e1, e2, e3⟩ => ⟨_, e1, ⟨rfl, e2⟩, e3⟩))).mono ?_; rintro e w2 ⟨err, w3, rfl, ⟨rfl, hD3⟩, hk3, eb, heb, heb2, hor⟩
           have hw2 : w2 = (w3.setCell ⟨eb, 0, none⟩ (.int .i64 d.flush.1)).setCell ⟨p, 10, none⟩ (.int .i64 d.flush.1) := hor.elim (fun q => absurd q.1 HZ.out) (fun q => q.2)
           have HW2 := Lib.hid hw2
           clear hw2 hor))
      go_ret
      have hw2 := HW2.out
      have hpb := lt_of_heap h.row
      have hp3 := hk3.get h.row hpF
      have hp4 := (heap_setCell_other w3 ⟨eb, 0, none⟩ p (.int .i64 d.flush.1) (by simp; omega)).trans hp3
      have hp5 := heap_setCell_same _ p 10 _ _ (.int .i64 d.flush.1) hp4
      rw [← hw2] at hp5
      have k2 : Keep [eb, p] w3 w2 := by rw [hw2]; exact ((Keep.refl _ _).setCell (by simp) _).setCell (by simp) _
      have hks : Keep (p :: F) w w2 := by rw [hw2]; exact ((hk3.mono (F' := p :: F) (fun x hx => Or.inl (by simp [hx]))).setCell (Or.inr heb) _).setCell (by simp) _
      have hD5 : DiskAt w2 r.a.p d.flush.2 F := hD3.keep k2 (fun x hx hm => by
        simp only [List.mem_cons, List.not_mem_nil, or_false] at hm
        rcases hm with rfl | rfl
        · have := hFl _ hx; omega
        · exact hpF hx)
      have hE5 := OwnLike.keep (F := [eb, p]) (OwnLike.keep h.es hk3 (fun k hk e => hvF k e hk)) k2 (fun k hk e => by
        simp only [List.mem_cons, List.not_mem_nil, or_false] at hk
        rcases hk with rfl | rfl
        · have := (World.ownsRow.lt h.es _ e).2; omega
        · exact hvp e)
      exact ⟨by rw [hs.out]; rfl, by rw [hs.out]; exact hD5, by rw [hs.out]; exact ⟨hp5.trans (by simp [RV.cells]), hE5⟩, hks⟩
  · have hs : Hid (syncF d r = (r.failed, d, r)) := Lib.hid (by unfold syncF; rw [if_pos hf])
    have hfb : (r.failed == 0) = false := by simpa using hf
    clear hf
    go_enter Tryd.func22, Tryd.ntmps22
    go_wp2_with (go_at_call 24; refine (failed_any h).mono ?_; rintro e w1 ⟨rfl, hw⟩; obtain rfl := hw.symm)
    go_ret
    exact ⟨by rw [hs.out]; rfl, by rw [hs.out]; exact hD, by rw [hs.out]; exact h, Keep.refl _ _⟩
end
end Go.Proofs.YtgopdbpddemplaaDoor
