/- ring: Format, find, Open: the pure forms. -/
import Derived.Test.YtgopdbpddemplaaDoorPart19
set_option linter.unusedSimpArgs false
set_option linter.unusedVariables false
namespace Go.Proofs.YtgopdbpddemplaaDoor
section
/- ring: Format, find, Open: the pure forms. -/
open Go.RowKit

theorem AR.head_has {a : AR} {d : DK} (hf : a.fits d) (g : Nat) : d.has ((a.first + g % 2 : Nat) : Int) = true := by
  unfold AR.fits at hf
  unfold DK.has
  have : g % 2 < 2 := Nat.mod_lt _ (by omega)
  simp; omega
theorem decodeF_ok {x : List UInt8} {f : FrameV} {s : Nat} (h : decodeF x = .ok (f, s)) : 0 ≤ f.stream ∧ f.stream ≤ 2147483647 ∧ 0 ≤ f.number ∧ f.number ≤ 1099511627775 ∧ f.payload.length ≤ 262144 := by
  have b2 := fieldF_bd (x.take 18) 2 4 (by omega)
  have b6 := fieldF_bd (x.take 18) 6 8 (by omega)
  unfold decodeF at h
  simp only at h
  repeat' split at h
  all_goals first | (cases h; done) | skip
  cases h
  simp only [List.length_take, List.length_drop]
  omega
theorem bodyF_ok {d : DK} {a : AR} {place : Nat} {f : FrameV} {n : Nat} (h : bodyF d a place = some (f, n)) : 0 ≤ f.stream ∧ f.stream ≤ 2147483647 ∧ 0 ≤ f.number ∧ f.number ≤ 1099511627775 ∧ f.payload.length ≤ 262144 ∧ 1 ≤ n ∧ n ≤ 1000000 := by
  unfold bodyF at h
  split at h
  · rename_i f' size hd
    split at h
    · cases h
      obtain ⟨h1, h2, h3, h4, h5⟩ := decodeF_ok hd
      have hs := decodeF_lt hd
      refine ⟨h1, h2, h3, h4, h5, ?_, ?_⟩ <;> unfold blocksN <;> omega
    · cases h
  · cases h
theorem rdNum_bd (m : Int) (s : List UInt8 × Int) (hm : 0 ≤ m) : 0 ≤ (rdNum m s).1 ∧ (rdNum m s).1 ≤ m := by
  unfold rdNum
  split
  · exact ⟨Int.le_refl _, hm⟩
  · split
    · exact ⟨Int.le_refl _, hm⟩
    · rename_i n k hn
      unfold numF at hn
      split at hn
      · cases hn
      · split at hn
        · cases hn
        · cases hn
          exact ⟨by simp, by simp only; omega⟩
theorem rdNum_len (m : Int) (s : List UInt8 × Int) : (rdNum m s).2.1.length ≤ s.1.length := by
  unfold rdNum
  split
  · exact Nat.le_refl _
  · split
    · exact Nat.le_refl _
    · simp
theorem headF_ok {d : DK} {a : AR} {n : Nat} {h : HV} (ha : a.ok) (hh : headF d a n = some h) : h.ok ∧ h.place < a.places ∧ h.base ≤ h.generation := by
  have a1 := ha.2.1
  have a2 := ha.2.2
  unfold headF at hh
  split at hh
  · cases hh
  · rename_i f s hd
    obtain ⟨h1, h2, h3, h4, h5⟩ := decodeF_ok hd
    split at hh
    · simp only at hh
      split at hh
      · cases hh
        have q1 := rdNum_bd 1099511627775 (f.payload, 0) (by omega)
        have q2 := rdNum_bd ((a.places : Int) - 1) (rdNum 1099511627775 (f.payload, 0)).2 (by omega)
        have q3 := rdNum_bd f.stream (rdNum ((a.places : Int) - 1) (rdNum 1099511627775 (f.payload, 0)).2).2 h1
        exact ⟨⟨by simp only; omega, by simp only; omega, by simp only; omega, by simp only; omega⟩, by simp only; omega, by simp only; omega⟩
      · cases hh
    · cases hh
theorem currentF_ok {d : DK} {a : AR} {h : HV} (ha : a.ok) (hh : currentF d a = some h) : h.ok ∧ h.place < a.places ∧ h.base ≤ h.generation := by
  unfold currentF at hh
  split at hh
  · rename_i x y hx hy
    split at hh
    · cases hh; exact headF_ok ha hy
    · cases hh; exact headF_ok ha hx
  · rename_i x hx _
    cases hh; exact headF_ok ha hx
  · exact headF_ok ha hh

/-- the stream with which Format begins: what the places say -/
def genF (d : DK) (a : AR) (g : Nat) (xs : List Nat) : Nat :=
  xs.foldl (fun g x => match bodyF d a x with | some (f, _) => max g (f.stream + 1).toNat | none => g) g
theorem genF_snoc (d : DK) (a : AR) (g : Nat) (xs : List Nat) (x : Nat) : genF d a g (xs ++ [x]) = match bodyF d a x with | some (f, _) => max (genF d a g xs) (f.stream + 1).toNat | none => genF d a g xs := by simp [genF]
theorem genF_le (d : DK) (a : AR) (g : Nat) (hg : g ≤ 2147483648) (xs : List Nat) : genF d a g xs ≤ 2147483648 := by
  induction xs generalizing g with
  | nil => exact hg
  | cons x xs ih =>
    refine ih _ ?_
    show (match bodyF d a x with | some (f, _) => max g (f.stream + 1).toNat | none => g) ≤ _
    split
    · rename_i f n hb
      have := bodyF_ok hb
      exact Nat.max_le.2 ⟨hg, by omega⟩
    · exact hg
def gen0 (d : DK) (a : AR) : Nat := match currentF d a with | some h => h.generation + 1 | none => 0
/-- Format: the error, the device -/
def formatF (d : DK) (p : Nat) (first blocks : Int) : Int × DK :=
  if areaErr d first blocks ≠ 0 then (areaErr d first blocks, d)
  else
    let a := areaN p first blocks
    let g := genF d a (gen0 d a) (List.range a.places)
    if 2147483647 < g then (9, d) else putD d a ⟨g, 0, 0, g⟩

/-- the state of find: the ring, the stream, the entries -/
abbrev FSt := RV × Nat × List (Nat × List UInt8)
def findStep (d : DK) (s : FSt) : Option FSt :=
  if s.1.a.places - s.1.used = 0 then none
  else match bodyF d s.1.a ((s.1.h.place + s.1.used) % s.1.a.places) with
    | none => none
    | some (f, n) =>
      if f.number ≠ ((s.1.h.first + s.1.es.length : Nat) : Int) ∨ f.stream < s.2.1 ∨ f.stream > s.1.h.generation ∨ n > s.1.a.places - s.1.used then none
      else some (s.1.add (f.stream.toNat, n), f.stream.toNat, s.2.2 ++ [(f.number.toNat, f.payload)])
def findF (d : DK) : Nat → FSt → FSt
  | 0, s => s
  | k + 1, s => match findStep d s with | none => s | some t => findF d k t
/-- Open: the error, the device, the ring with the entries -/
def openF (d : DK) (p : Nat) (first blocks : Int) : Int × DK × Option (RV × List (Nat × List UInt8)) :=
  if areaErr d first blocks ≠ 0 then (areaErr d first blocks, d, none)
  else
    let a := areaN p first blocks
    match currentF d a with
    | none => (3, d, none)
    | some h =>
      if h.generation = 2147483647 then (9, d, none)
      else
        let s := findF d a.places (⟨a, h, [], 0, 0, 0⟩, h.base, [])
        let W := if a.places - s.1.used = 0 then (0, d) else d.write (a.blk ((h.place + s.1.used) % a.places) 0) zero512
        if W.1 ≠ 0 then (W.1, W.2, none)
        else
          let P := putD W.2 a { h with generation := h.generation + 1 }
          if P.1 ≠ 0 then (P.1, P.2, none)
          else (0, P.2, some ({ s.1 with h := { h with generation := h.generation + 1 }, synced := h.first + s.1.es.length }, s.2.2))
theorem findStep_inv {d : DK} {s t : FSt} (h : findStep d s = some t) (hu : s.1.used ≤ s.1.a.places) (hl : s.1.es.length ≤ s.1.used) :
    t.1.a = s.1.a ∧ t.1.h = s.1.h ∧ t.1.synced = s.1.synced ∧ t.1.failed = s.1.failed ∧ t.1.used ≤ t.1.a.places ∧ t.1.es.length ≤ t.1.used ∧ s.1.used < t.1.used ∧ t.2.2.length = s.2.2.length + 1 ∧ t.1.es.length = s.1.es.length + 1 := by
  unfold findStep at h
  split at h
  · cases h
  · split at h
    · cases h
    · rename_i f n hb
      have hbo := bodyF_ok hb
      split at h
      · cases h
      · rename_i hc
        cases h
        simp only [RV.add, List.length_append, List.length_singleton]
        refine ⟨trivial, trivial, trivial, trivial, ?_, ?_, ?_, trivial, trivial⟩ <;> omega
end
end Go.Proofs.YtgopdbpddemplaaDoor
