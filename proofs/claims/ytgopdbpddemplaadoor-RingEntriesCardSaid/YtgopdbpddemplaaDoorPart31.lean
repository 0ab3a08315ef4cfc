/- ring: the operations by one contract each. · law: known. · law: step. -/
import Derived.Test.YtgopdbpddemplaaDoorPart25
import Derived.Test.YtgopdbpddemplaaDoorPart26
import Derived.Test.YtgopdbpddemplaaDoorPart30
import Derived.Test.YtgopdbpddemplaaDoorPart17
import Derived.Test.YtgopdbpddemplaaDoorPart18
set_option linter.unusedSimpArgs false
set_option linter.unusedVariables false
namespace Go.Proofs.YtgopdbpddemplaaDoor
section
/- ring: the operations by one contract each. -/
open Go.RowKit

theorem append_any {F : List Nat} {w : World} {p : Nat} {d : DK} {r : RV} {v : Value} (hG : Glob w) (h : RingOn w p d r v F) (hd : r.failed = 0 → d.down = false) (hf : r.a.fits d) (hlen : d.pend.length ≤ 50000000) (s : List UInt8) (hs : s.length ≤ 1000000000) :
    Calls Tryd.prog 21 #[.pointer (some ⟨p, 0, none⟩), str s] w fun e w' => e = .returned (.tuple #[.int .i64 (appendF d r s).1.1, .int .i64 (appendF d r s).1.2]) ∧ OpPost w F p v (appendF d r s).2.1 (appendF d r s).2.2 w' := by
  by_cases h1 : r.failed ≠ 0
  · exact append_err h s hs (.inl h1)
  · by_cases h2 : 131072 < s.length
    · exact append_err h s hs (.inr (.inl h2))
    · by_cases h3 : r.a.places - r.used < blocksN (26 + s.length + 16)
      · exact append_err h s hs (.inr (.inr (.inl h3)))
      · by_cases h4 : 1099511627775 < r.h.first + r.es.length
        · exact append_err h s hs (.inr (.inr (.inr h4)))
        · have h1 : r.failed = 0 := by simpa using h1
          exact append_main hG h (hd h1) hf hlen s h1 (by omega) (by omega) (by omega)
theorem trim_any {F : List Nat} {w : World} {p : Nat} {d : DK} {r : RV} {v : Value} (hG : Glob w) (h : RingOn w p d r v F) (hd : r.failed = 0 → d.down = false) (hf : r.a.fits d) (hlen : d.pend.length ≤ 50000000) (hsum : r.used = sumB r.es) (hhp : r.h.place ≤ r.a.places) (hnx : r.h.first + r.es.length ≤ 1099511627775) (hst : ∀ x ∈ r.es, x.1 ≤ 2147483647) (before : Int) :
    Calls Tryd.prog 23 #[.pointer (some ⟨p, 0, none⟩), .int .i64 before] w fun e w' => e = .returned (.int .i64 (trimF d r before).1) ∧ OpPost w F p v (trimF d r before).2.1 (trimF d r before).2.2 w' := by
  by_cases h1 : r.failed ≠ 0
  · exact trim_err h before (.inl h1)
  · by_cases h2 : before ≤ r.h.first
    · exact trim_err h before (.inr (.inl h2))
    · by_cases h3 : before > ((r.h.first + r.es.length : Nat) : Int)
      · exact trim_err h before (.inr (.inr (.inl h3)))
      · by_cases h4 : r.h.generation = 2147483647
        · exact trim_err h before (.inr (.inr (.inr h4)))
        · have h1 : r.failed = 0 := by simpa using h1
          have hg := h.ok.h.g
          obtain ⟨c, rfl⟩ : ∃ c : Nat, before = ((r.h.first + c : Nat) : Int) := ⟨(before - r.h.first).toNat, by omega⟩
          exact trim_main hG h (hd h1) hf hlen hsum hhp h1 (by omega) c (by omega) (by omega) (by omega) hst
theorem sync_on {F : List Nat} {w : World} {p : Nat} {d : DK} {r : RV} {v : Value} (h : RingOn w p d r v F) :
    Calls Tryd.prog 22 #[.pointer (some ⟨p, 0, none⟩)] w fun e w' => e = .returned (.int .i64 (syncF d r).1) ∧ OpPost w F p v (syncF d r).2.1 (syncF d r).2.2 w' := by
  refine (sync_any h.ring h.ok h.disk h.pF h.vF h.lt (own_row_ne h.ring.es h.ring.row (by decide))).mono ?_
  rintro e w' ⟨e1, e2, e3, e4⟩
  have ha : (syncF d r).2.2.a = r.a := by unfold syncF; split <;> (try split) <;> rfl
  exact ⟨e1, F, v, by rw [ha]; exact e2, e3, e4.mono (fun x hx => Or.inl (by rcases List.mem_cons.1 hx with e | e <;> simp [e])), fun _ hx => .inl hx, fun _ e => .inl e, h.pF, h.vF, fun x hx => Nat.lt_of_lt_of_le (h.lt x hx) e4.size⟩

/-- a device without failures in memory -/
structure Dev (w : World) (p : Nat) (d : DK) (F : List Nat) (m : Nat) : Prop where
  disk : DiskAt w p d F
  lt : ∀ x ∈ F, x < w.heap.size
  good : d.good m
  glob : Glob w
  own : ∀ x ∈ F, 3 ≤ x
/-- a device with an open ring in memory, without failures -/
structure Live (w : World) (p rp : Nat) (d : DK) (r : RV) (v : Value) (F : List Nat) (ts : List (List UInt8)) (m : Nat) : Prop where
  dev : Dev w p d F m
  on : RingOn w rp d r v F
  inv : Inv d r ts
  ap : r.a.p = p
  rpG : 3 ≤ rp
  vG : ∀ k, v.ownBlock = some k → 3 ≤ k
theorem Dev.keep0 {w w' : World} {p : Nat} {d : DK} {F : List Nat} {m : Nat} (h : Dev w p d F m) (hk : Keep [] w w') : Dev w' p d F m :=
  ⟨h.disk.keep0 hk, fun x hx => Nat.lt_of_lt_of_le (h.lt x hx) hk.size, h.good, h.glob.keep0 hk, h.own⟩
theorem Live.keep0 {w w' : World} {p rp : Nat} {d : DK} {r : RV} {v : Value} {F : List Nat} {ts : List (List UInt8)} {m : Nat} (h : Live w p rp d r v F ts m) (hk : Keep [] w w') : Live w' p rp d r v F ts m :=
  ⟨h.dev.keep0 hk, h.on.keep0 hk, h.inv, h.ap, h.rpG, h.vG⟩
/-- what may turn when an operation of the ring runs -/
def Live.frame (rp : Nat) (v : Value) (F : List Nat) : List Nat := rp :: (F ++ v.ownBlock.toList)
theorem live_of {w w' : World} {p rp : Nat} {d d' : DK} {r r' : RV} {v : Value} {F : List Nat} {ts ts' : List (List UInt8)} {m m' : Nat} (h : Live w p rp d r v F ts m) (hp : OpPost w F rp v d' r' w') (hi : Inv d' r' ts') (hg : d'.good m') (ha : r'.a = r.a) :
    ∃ v' F', Live w' p rp d' r' v' F' ts' m' ∧ Keep (Live.frame rp v F) w w' ∧ (∀ x ∈ F', x ∈ F ∨ w.heap.size ≤ x) ∧ (∀ k, v'.ownBlock = some k → v.ownBlock = some k ∨ w.heap.size ≤ k) := by
  obtain ⟨F', v', h1, h2, h3, h4, h5, h6, h7, h8⟩ := hp
  have hgl := h.dev.glob.lt
  rw [ha, h.ap] at h1
  have hG' : Glob w' := h.dev.glob.keep h3 (fun x hx => by
    rcases List.mem_cons.1 hx with e | e
    · rw [e]; exact h.rpG
    · rcases List.mem_append.1 e with e | e
      · exact h.dev.own x e
      · exact h.vG x (by simpa using e))
  refine ⟨v', F', ⟨⟨h1, h8, hg, hG', fun x hx => ?_⟩, ⟨h2, hi.rok, by rw [ha, h.ap]; exact h1, h6, h7, h8⟩, hi, by rw [ha]; exact h.ap, h.rpG, fun k e => ?_⟩, h3, h4, h5⟩
  · rcases h4 x hx with e | e
    · exact h.dev.own x e
    · omega
  · rcases h5 k e with e | e
    · exact h.vG k e
    · omega

theorem live_append {w : World} {p rp : Nat} {d : DK} {r : RV} {v : Value} {F : List Nat} {ts : List (List UInt8)} {m : Nat} (h : Live w p rp d r v F ts m) (t : List UInt8) (hl : t.length ≤ 131072) (hm : m ≤ 40000000) (hnum : r.h.first + r.es.length ≤ 1099511627775) :
    Calls Tryd.prog 21 #[.pointer (some ⟨rp, 0, none⟩), str t] w fun e w' => ∃ (n er : Int) (d' : DK) (r' : RV) (v' : Value) (F' : List Nat) (ts' : List (List UInt8)), e = .returned (.tuple #[.int .i64 n, .int .i64 er]) ∧ Live w' p rp d' r' v' F' ts' (m + 300) ∧ Keep (Live.frame rp v F) w w' ∧ (∀ x ∈ F', x ∈ F ∨ w.heap.size ≤ x) ∧ (∀ k, v'.ownBlock = some k → v.ownBlock = some k ∨ w.heap.size ≤ k) ∧ d'.blocks = d.blocks ∧
      ((r.a.places - r.used < blocksN (26 + t.length + 16) ∧ n = 0 ∧ er = 26 ∧ r' = r ∧ ts' = ts) ∨
       (blocksN (26 + t.length + 16) ≤ r.a.places - r.used ∧ n = ((r.h.first + r.es.length : Nat) : Int) ∧ er = 0 ∧ r' = r.add (r.h.generation, blocksN (26 + t.length + 16)) ∧ ts' = ts ++ [t])) := by
  have hb : blocksN (26 + t.length + 16) ≤ 300 := by unfold blocksN; omega
  obtain ⟨d', h1, h2, h3⟩ := append_inv h.inv h.dev.good hnum t hl
  refine (append_any h.dev.glob h.on (fun _ => h.dev.good.down) h.inv.fits (by have := h.dev.good.len; omega) t (by omega)).mono ?_
  rintro e w' ⟨e1, e2⟩
  rcases h3 with ⟨a1, a2, a3⟩ | ⟨a1, a2, a3⟩
  · rw [a2] at e1 e2
    obtain ⟨v', F', b1, b2, b3, b4⟩ := live_of h e2 h.inv (h.dev.good.mono (m := m) (n := m + 300) (by omega)) rfl
    exact ⟨0, 26, d, r, v', F', ts, e1, b1, b2, b3, b4, rfl, .inl ⟨a1, rfl, rfl, rfl, rfl⟩⟩
  · rw [a2] at e1 e2
    obtain ⟨v', F', b1, b2, b3, b4⟩ := live_of h e2 a3 (h1.mono (m := m + blocksN (26 + t.length + 16)) (n := m + 300) (by omega)) rfl
    exact ⟨_, 0, d', _, v', F', _, e1, b1, b2, b3, b4, h2, .inr ⟨a1, rfl, rfl, rfl, rfl⟩⟩
theorem live_sync {w : World} {p rp : Nat} {d : DK} {r : RV} {v : Value} {F : List Nat} {ts : List (List UInt8)} {m : Nat} (h : Live w p rp d r v F ts m) :
    Calls Tryd.prog 22 #[.pointer (some ⟨rp, 0, none⟩)] w fun e w' => ∃ d' r' v' F', e = .returned (.int .i64 0) ∧ Live w' p rp d' r' v' F' ts 0 ∧ Keep (Live.frame rp v F) w w' ∧ (∀ x ∈ F', x ∈ F ∨ w.heap.size ≤ x) ∧ (∀ k, v'.ownBlock = some k → v.ownBlock = some k ∨ w.heap.size ≤ k) ∧ d'.blocks = d.blocks ∧ r'.a = r.a ∧ r'.h = r.h ∧ r'.es = r.es := by
  obtain ⟨h1, h2, h3, h4, h5, h6, h7⟩ := sync_inv h.inv h.dev.good
  refine (sync_on h.on).mono ?_
  rintro e w' ⟨e1, e2⟩
  obtain ⟨v', F', b1, b2, b3, b4⟩ := live_of h e2 h4 h2 h5
  exact ⟨_, _, v', F', by rw [h1] at e1; exact e1, b1, b2, b3, b4, h3, h5, h6, h7⟩
theorem Laid.streams {V : Int → List UInt8} {a : AR} {gen : Nat} : ∀ {pos num st0 : Nat} {es : List (Nat × Nat)} {ts : List (List UInt8)}, Laid V a gen pos num st0 es ts → ∀ x ∈ es, x.1 ≤ gen
  | _, _, _, [], [], _ => fun x hx => by cases hx
  | _, _, _, x :: es, t :: ts, h => fun y hy => by
    rcases List.mem_cons.1 hy with e | e
    · rw [e]; exact h.2.2.2.2.le.1
    · exact Laid.streams h.2.2.2.2 y e
  | _, _, _, [], _ :: _, h => h.elim
  | _, _, _, _ :: _, [], h => h.elim
theorem live_trim {w : World} {p rp : Nat} {d : DK} {r : RV} {v : Value} {F : List Nat} {ts : List (List UInt8)} {m : Nat} (h : Live w p rp d r v F ts m) (before : Int) (hm : m ≤ 40000000) (hnum : r.h.first + r.es.length ≤ 1099511627775) (hgen : r.h.generation < 2147483647) :
    Calls Tryd.prog 23 #[.pointer (some ⟨rp, 0, none⟩), .int .i64 before] w fun e w' => ∃ (er : Int) (d' : DK) (r' : RV) (v' : Value) (F' : List Nat) (ts' : List (List UInt8)), e = .returned (.int .i64 er) ∧ Live w' p rp d' r' v' F' ts' m ∧ Keep (Live.frame rp v F) w w' ∧ (∀ x ∈ F', x ∈ F ∨ w.heap.size ≤ x) ∧ (∀ k, v'.ownBlock = some k → v.ownBlock = some k ∨ w.heap.size ≤ k) ∧ d'.blocks = d.blocks ∧
      (((before < r.h.first ∨ before > ((r.h.first + r.es.length : Nat) : Int)) ∧ er = 2 ∧ r' = r ∧ ts' = ts) ∨ (before = r.h.first ∧ er = 0 ∧ r' = r ∧ ts' = ts) ∨
       ∃ c, before = ((r.h.first + c : Nat) : Int) ∧ 1 ≤ c ∧ c ≤ r.es.length ∧ er = 0 ∧ ts' = ts.drop c ∧ r' = { r with h := trimH r c, es := r.es.drop c, used := r.used - sumB (r.es.take c), synced := r.h.first + r.es.length }) := by
  refine (trim_any h.dev.glob h.on (fun _ => h.dev.good.down) h.inv.fits (by have := h.dev.good.len; omega) h.inv.used (Nat.le_of_lt h.inv.hp) hnum (fun x hx => by have := h.inv.laid.streams x hx; omega) before).mono ?_
  rintro e w' ⟨e1, e2⟩
  rcases trim_inv h.inv h.dev.good hgen hnum before with ⟨a1, a2⟩ | ⟨a1, a2⟩ | ⟨c, d', a1, a2, a3, a4, a5, a6, a7⟩
  · rw [a2] at e1 e2
    obtain ⟨v', F', b1, b2, b3, b4⟩ := live_of h e2 h.inv h.dev.good rfl
    exact ⟨_, d, r, v', F', ts, e1, b1, b2, b3, b4, rfl, .inl ⟨a1, rfl, rfl, rfl⟩⟩
  · rw [a2] at e1 e2
    obtain ⟨v', F', b1, b2, b3, b4⟩ := live_of h e2 h.inv h.dev.good rfl
    exact ⟨_, d, r, v', F', ts, e1, b1, b2, b3, b4, rfl, .inr (.inl ⟨a1, rfl, rfl, rfl⟩)⟩
  · rw [a6] at e1 e2
    obtain ⟨v', F', b1, b2, b3, b4⟩ := live_of h e2 a7 (a4.mono (Nat.zero_le m)) rfl
    exact ⟨_, d', _, v', F', _, e1, b1, b2, b3, b4, a5, .inr (.inr ⟨c, a1, a2, a3, rfl, rfl, rfl⟩)⟩

/-- Open on a device with a ring -/
theorem dev_open {w : World} {p : Nat} {d : DK} {F : List Nat} {m : Nat} (h : Dev w p d F m) {r : RV} {ts : List (List UInt8)} (hi : Inv d r ts) (hm : m ≤ 40000000) (hb0 : 0 ≤ d.blocks) (hb1 : d.blocks ≤ 8192) (hgen : r.h.generation < 2147483647) (hnum : r.h.first + r.es.length ≤ 1099511627775) {first blocks : Int} (hfi : first ≤ 9223372036854775807) (ha : r.a = areaN p first blocks) (he : areaErr d first blocks = 0) :
    Calls Tryd.prog 13 #[.pointer (some ⟨p, 0, none⟩), .int .i64 first, .int .i64 blocks] w fun e w' => ∃ rp lv v F' d', e = .returned (.tuple #[.pointer (some ⟨rp, 0, none⟩), lv, .int .i64 0]) ∧ Live w' p rp d' r.opened v F' ts 0 ∧ EntsAt w' w.heap.size lv (numb r.h.first ts) ∧ Keep F w w' ∧ (∀ x ∈ F', x ∈ F ∨ w.heap.size ≤ x) ∧ w.heap.size ≤ rp ∧ (∀ k, v.ownBlock = some k → w.heap.size ≤ k) ∧ (∀ k, lv.ownBlock = some k → k ∉ F') ∧ d'.blocks = d.blocks := by
  obtain ⟨d', h1, h2, h3, h4⟩ := open_inv hi h.good hgen hnum ha he
  refine (open_any h.glob h.disk first blocks hb0 hb1 hfi (by have := h.good.len; omega) h.own).mono ?_
  rintro e w' hp
  unfold OpenPost at hp
  rw [h1] at hp
  obtain ⟨rp, lv, v, F', e1, e2, e3, e4, e5, e6, e7, e8, e9, e10, e11, e12⟩ := hp
  have hgl := h.glob.lt
  have hap : r.opened.a.p = p := by show r.a.p = p; rw [ha]; rfl
  exact ⟨rp, lv, v, F', d', e1, ⟨⟨e2, e12, h2, h.glob.keep e10 h.own, fun x hx => (e11 x hx).elim (h.own x) (fun q => Nat.le_trans hgl q)⟩, ⟨e3, h4.rok, by rw [hap]; exact e2, e7, e8, e12⟩, h4, hap, Nat.le_trans hgl e5, fun k e => Nat.le_trans hgl (e6 k e)⟩, e4, e10, e11, e5, e6, e9, h3⟩
theorem stale_format {c : List UInt8} {gen base next : Nat} (h : Stale c gen base next) : Stale c gen (gen + 1) 0 := by
  rcases h with h | ⟨st, nu, n, k1, k2, k3, k4⟩
  · exact .inl h
  · exact .inr ⟨st, nu, n, k1, k2, k3, .inr (by omega)⟩
/-- Format on a device with a ring -/
theorem dev_format {w : World} {p : Nat} {d : DK} {F : List Nat} {m : Nat} (h : Dev w p d F m) {r : RV} {ts : List (List UInt8)} (hi : Inv d r ts) (hm : m ≤ 40000000) (hb0 : 0 ≤ d.blocks) (hb1 : d.blocks ≤ 8192) (hgen : r.h.generation < 2147483647) {first blocks : Int} (hfi : first ≤ 9223372036854775807) (ha : r.a = areaN p first blocks) (he : areaErr d first blocks = 0) :
    Calls Tryd.prog 16 #[.pointer (some ⟨p, 0, none⟩), .int .i64 first, .int .i64 blocks] w fun e w' => ∃ F' d', e = .returned (.int .i64 0) ∧ Dev w' p d' F' 0 ∧ Inv d' (freshR (areaN p first blocks) (r.h.generation + 1)) [] ∧ Keep F w w' ∧ (∀ x ∈ F', x ∈ F ∨ w.heap.size ≤ x) ∧ d'.blocks = d.blocks := by
  have hst := hi.stale
  have hcur := hi.current
  have hfits := hi.fits
  have hok := hi.a
  have hcur2 := hi.cur
  rw [ha] at hst hcur hfits hok hcur2
  obtain ⟨d', h1, h2, h3, h4⟩ := format_any h.good he (g := r.h.generation + 1) (by unfold gen0; rw [hcur]) (by omega) hok hfits
    (fun q hq => ⟨by rw [Nat.add_sub_cancel]; exact stale_format (hst q hq), fun h => by omega⟩)
    (fun h' e => by
      rw [show (r.h.generation + 1 + 1) % 2 = r.h.generation % 2 from by omega] at e
      rw [hcur2] at e
      cases e
      omega)
  refine (format_ok h.glob h.disk first blocks hb0 hb1 hfi (by have := h.good.len; omega)).mono ?_
  rintro e w' ⟨e1, F', e2, e3, e4⟩
  rw [h1] at e1 e2
  obtain ⟨F8, hD8, hF8⟩ := e2.tight
  have hgl := h.glob.lt
  exact ⟨F8, d', e1, ⟨hD8, fun x hx => (hF8 x hx).2, h2, h.glob.keep e3 h.own, fun x hx => (e4 x (hF8 x hx).1).elim (h.own x) (fun q => Nat.le_trans hgl q)⟩, h4, e3, fun x hx => e4 x (hF8 x hx).1, h3⟩
theorem newD_good (n : Int) : (newD n).good 0 := ⟨⟨fun _ => List.length_replicate, fun p hp => by cases hp⟩, rfl, rfl, Nat.le_refl _⟩
theorem newD_vis (n b : Int) : (newD n).vis b = zero512 := rfl
theorem headF_zero (n : Int) (a : AR) (k : Nat) : headF (newD n) a k = none := by
  unfold headF
  rw [newD_vis]
  obtain ⟨e, he⟩ := decode_mark (x := zero512) (by decide +kernel)
  rw [he]
/-- Format on an empty device -/
theorem dev_format0 {w : World} {p : Nat} {n : Int} {F : List Nat} (h : Dev w p (newD n) F 0) (hb0 : 0 ≤ n) (hb1 : n ≤ 8192) {first blocks : Int} (hfi : first ≤ 9223372036854775807) (he : areaErr (newD n) first blocks = 0) :
    Calls Tryd.prog 16 #[.pointer (some ⟨p, 0, none⟩), .int .i64 first, .int .i64 blocks] w fun e w' => ∃ F' d', e = .returned (.int .i64 0) ∧ Dev w' p d' F' 0 ∧ Inv d' (freshR (areaN p first blocks) 0) [] ∧ Keep F w w' ∧ (∀ x ∈ F', x ∈ F ∨ w.heap.size ≤ x) ∧ d'.blocks = n := by
  obtain ⟨hok, hfits, _, _, _, _⟩ := area_ok (p := p) he hb1
  obtain ⟨d', h1, h2, h3, h4⟩ := format_any h.good he (g := 0) (by unfold gen0 currentF; rw [headF_zero, headF_zero]) (by omega) hok hfits
    (fun q hq => ⟨by rw [newD_vis]; exact stale_zero _ _ _, fun _ => newD_vis _ _⟩)
    (fun h' e => by rw [headF_zero] at e; cases e)
  refine (format_ok h.glob h.disk first blocks hb0 hb1 hfi (by have := h.good.len; omega)).mono ?_
  rintro e w' ⟨e1, F', e2, e3, e4⟩
  rw [h1] at e1 e2
  obtain ⟨F8, hD8, hF8⟩ := e2.tight
  have hgl := h.glob.lt
  exact ⟨F8, d', e1, ⟨hD8, fun x hx => (hF8 x hx).2, h2, h.glob.keep e3 h.own, fun x hx => (e4 x (hF8 x hx).1).elim (h.own x) (fun q => Nat.le_trans hgl q)⟩, h4, e3, fun x hx => e4 x (hF8 x hx).1, h3⟩
/-- a new device -/
theorem dev_new (n : Int) (w : World) (hG : Glob w) (h0 : 1 ≤ n) (h1 : n ≤ 8192) :
    Calls Tryd.prog 17 #[.int .i64 n] w fun e w' => ∃ p F, e = .returned (.tuple #[.pointer (some ⟨p, 0, none⟩), .int .i64 0]) ∧ Dev w' p (newD n) F 0 ∧ Keep [] w w' ∧ (∀ x ∈ F, w.heap.size ≤ x) := by
  refine (new_ok n w h0 h1).mono ?_
  rintro e w' ⟨p, F, e1, e2, e3, e4⟩
  obtain ⟨F8, hD8, hF8⟩ := e2.tight
  have hgl := hG.lt
  exact ⟨p, F8, e1, ⟨hD8, fun x hx => (hF8 x hx).2, newD_good n, hG.keep0 e4, fun x hx => Nat.le_trans hgl (e3 x (hF8 x hx).1)⟩, e4, fun x hx => e3 x (hF8 x hx).1⟩
end

section
/- law: known. -/
open Go.RowKit

theorem live_append_fit {w : World} {p rp : Nat} {d : DK} {r : RV} {v : Value} {F : List Nat} {ts : List (List UInt8)} {m : Nat} (h : Live w p rp d r v F ts m) (t : List UInt8) (hl : t.length ≤ 131072) (hm : m ≤ 40000000) (hnum : r.h.first + r.es.length ≤ 1099511627775) (n : Nat) (hn : blocksN (26 + t.length + 16) = n) (hfit : n ≤ r.a.places - r.used) :
    Calls Tryd.prog 21 #[.pointer (some ⟨rp, 0, none⟩), str t] w fun e w' => ∃ (d' : DK) (v' : Value) (F' : List Nat), e = .returned (.tuple #[.int .i64 ((r.h.first + r.es.length : Nat) : Int), .int .i64 0]) ∧ Live w' p rp d' (r.add (r.h.generation, n)) v' F' (ts ++ [t]) (m + 300) ∧ Keep (Live.frame rp v F) w w' ∧ (∀ x ∈ F', x ∈ F ∨ w.heap.size ≤ x) ∧ (∀ k, v'.ownBlock = some k → v.ownBlock = some k ∨ w.heap.size ≤ k) ∧ d'.blocks = d.blocks := by
  refine (live_append h t hl hm hnum).mono ?_
  rintro e w' ⟨n', er, d', r', v', F', ts', rfl, h1, h2, h3, h4, h5, h6⟩
  rw [hn] at h6
  rcases h6 with ⟨a, _⟩ | ⟨_, rfl, rfl, rfl, rfl⟩
  · omega
  · exact ⟨d', v', F', rfl, h1, h2, h3, h4, h5⟩
theorem live_trim_to {w : World} {p rp : Nat} {d : DK} {r : RV} {v : Value} {F : List Nat} {ts : List (List UInt8)} {m : Nat} (h : Live w p rp d r v F ts m) (c : Nat) (before : Int) (hbf : before = ((r.h.first + c : Nat) : Int)) (hc1 : 1 ≤ c) (hc2 : c ≤ r.es.length) (hm : m ≤ 40000000) (hnum : r.h.first + r.es.length ≤ 1099511627775) (hgen : r.h.generation < 2147483647) :
    Calls Tryd.prog 23 #[.pointer (some ⟨rp, 0, none⟩), .int .i64 before] w fun e w' => ∃ (d' : DK) (v' : Value) (F' : List Nat), e = .returned (.int .i64 0) ∧ Live w' p rp d' { r with h := trimH r c, es := r.es.drop c, used := r.used - sumB (r.es.take c), synced := r.h.first + r.es.length } v' F' (ts.drop c) m ∧ Keep (Live.frame rp v F) w w' ∧ (∀ x ∈ F', x ∈ F ∨ w.heap.size ≤ x) ∧ (∀ k, v'.ownBlock = some k → v.ownBlock = some k ∨ w.heap.size ≤ k) ∧ d'.blocks = d.blocks := by
  refine (live_trim h before hm hnum hgen).mono ?_
  rintro e w' ⟨er, d', r', v', F', ts', rfl, h1, h2, h3, h4, h5, h6⟩
  rcases h6 with ⟨a, _⟩ | ⟨a, _⟩ | ⟨c', a1, a2, a3, rfl, rfl, rfl⟩
  · omega
  · omega
  · obtain rfl : c' = c := by omega
    exact ⟨d', v', F', rfl, h1, h2, h3, h4, h5⟩
theorem EntsAt.shape {w : World} {B : Nat} {v : Value} {l : List (Nat × List UInt8)} (h : EntsAt w B v l) : ∃ a c, v = .slice a l.length c := by
  rcases h.2 with ⟨rfl, h0⟩ | ⟨g, cap, cur, rfl, _⟩
  · have := entryCells_length l
    rw [h0] at this
    exact ⟨none, 0, by rw [show l.length = 0 by omega]⟩
  · exact ⟨_, _, rfl⟩
/-- what was new stays out of what lay before -/
theorem Keep.fresh {F : List Nat} {w0 w w' : World} (h : Keep [] w0 w) (k : Keep F w w') (hF : ∀ x ∈ F, w0.heap.size ≤ x) : Keep [] w0 w' := h.trans k (fun x hx => Or.inr (hF x hx))
/-- all that a ring owns is new -/
def NewR (w0 : World) (rp : Nat) (v : Value) (F : List Nat) : Prop := w0.heap.size ≤ rp ∧ (∀ x ∈ F, w0.heap.size ≤ x) ∧ ∀ k, v.ownBlock = some k → w0.heap.size ≤ k
theorem NewR.frame {w0 : World} {rp : Nat} {v : Value} {F : List Nat} (h : NewR w0 rp v F) : ∀ x ∈ Live.frame rp v F, w0.heap.size ≤ x := fun x hx => by
  rcases List.mem_cons.1 hx with e | e
  · rw [e]; exact h.1
  · rcases List.mem_append.1 e with e | e
    · exact h.2.1 x e
    · exact h.2.2 x (by simpa using e)
theorem NewR.next {w0 w : World} {rp : Nat} {v v' : Value} {F F' : List Nat} (h : NewR w0 rp v F) (hw : w0.heap.size ≤ w.heap.size) (h1 : ∀ x ∈ F', x ∈ F ∨ w.heap.size ≤ x) (h2 : ∀ k, v'.ownBlock = some k → v.ownBlock = some k ∨ w.heap.size ≤ k) : NewR w0 rp v' F' :=
  ⟨h.1, fun x hx => (h1 x hx).elim (h.2.1 x) (fun q => Nat.le_trans hw q), fun k e => (h2 k e).elim (h.2.2 k) (fun q => Nat.le_trans hw q)⟩

set_option maxRecDepth 100000 in
set_option maxHeartbeats 2000000 in
theorem known_ok (w : World) (hG : Glob w) : Calls Tryd.prog 6 #[] w fun e w' => e = .returned (.bool true) ∧ Keep [] w w' := by
  have l1 : (textF 100 1).length = 100 := by rw [textF_length]; rfl
  have l2 : (textF 500 2).length = 500 := by rw [textF_length]; rfl
  have l3 : (textF 500 3).length = 500 := by rw [textF_length]; rfl
  have B1 : Hid (blocksN (26 + (textF 100 1).length + 16) = 1) := Lib.hid (by rw [l1]; rfl)
  have B2 : Hid (blocksN (26 + (textF 500 2).length + 16) = 2) := Lib.hid (by rw [l2]; rfl)
  have B3 : Hid (blocksN (26 + (textF 500 3).length + 16) = 2) := Lib.hid (by rw [l3]; rfl)
  have L1 := Lib.hid l1
  have L2 := Lib.hid l2
  have L3 := Lib.hid l3
  clear l1 l2 l3
  go_enter Tryd.func6, Tryd.ntmps6
  go_wp2_with (first
    | (go_at_call 17; refine (dev_new 6 w hG (by omega) (by omega)).mono ?_; rintro e w1 ⟨p, F1, rfl, hD1, hk1, hF1⟩)
    | (go_at_call 16; refine (dev_format0 hD1 (by omega) (by omega) (by omega) (by decide)).mono ?_; rintro e w2 ⟨F2, d2, rfl, hD2, hI2, hk2, hF2, hb2⟩
       have hkw2 : Keep [] w w2 := hk1.fresh hk2 hF1
       have hF2' : ∀ x ∈ F2, w.heap.size ≤ x := fun x hx => (hF2 x hx).elim (hF1 x) (fun q => Nat.le_trans hk1.size q))
    | (go_at_call 13; refine (dev_open hD2 hI2 (by omega) (by rw [hb2]; omega) (by rw [hb2]; omega) (show 0 < 2147483647 by omega) (show 0 + 0 ≤ 1099511627775 by omega) (by omega) rfl (by unfold areaErr; rw [hb2, hD2.good.down]; rfl)).mono ?_; rintro e w3 ⟨rp, lv, v3, F3, d3, rfl, hL3, hE3, hk3, hF3, hrp3, hv3, _, _⟩
       have hkw3 : Keep [] w w3 := hkw2.fresh hk3 hF2'
       have hn3 : NewR w rp v3 F3 := ⟨Nat.le_trans hkw2.size hrp3, fun x hx => (hF3 x hx).elim (hF2' x) (fun q => Nat.le_trans hkw2.size q), fun k e => Nat.le_trans hkw2.size (hv3 k e)⟩
       obtain ⟨sa, sc, rfl⟩ := hE3.shape
       obtain ⟨r3, hr3⟩ : ∃ r3, (freshR (areaN p 0 6) 0).opened = r3 := ⟨_, rfl⟩
       rw [hr3] at hL3
       have G3 : Hid (r3.h.generation = 1) := Lib.hid (by rw [← hr3]; rfl)
       have A3 : Hid (r3.a.places = 4) := Lib.hid (by rw [← hr3]; rfl)
       have U3 : Hid (r3.used = 0) := Lib.hid (by rw [← hr3]; rfl)
       have H3 : Hid (r3.h = ⟨1, 0, 0, 0⟩) := Lib.hid (by rw [← hr3]; rfl)
       have N3 : Hid (r3.h.first + r3.es.length = 0) := Lib.hid (by rw [← hr3]; rfl)
       have E3 : Hid (r3.es = []) := Lib.hid (by rw [← hr3]; rfl)
       have P3 : Hid (r3.a.places - r3.used = 4) := Lib.hid (by rw [A3.out, U3.out])
       clear hr3 hE3)
    | (go_at_call 26; refine (generation_any hL3.on.ring).mono ?_; rw [G3.out]; rintro e w4 ⟨rfl, hw4⟩; obtain rfl := hw4.symm)
    | (go_at_call 15; refine (free_any hL3.on.ring hL3.on.ok).mono ?_; rw [P3.out]; rintro e w4 ⟨rfl, hk4⟩
       replace hL3 := hL3.keep0 hk4
       replace hkw3 := hkw3.then hk4)
    | (go_at_call 12; refine (text_any _ _ _ (by omega) (by omega) (by omega) (by omega)).mono ?_; rintro e w4 ⟨rfl, hk4⟩
       replace hL3 := hL3.keep0 hk4
       replace hkw3 := hkw3.then hk4)
    | (go_at_call 21; with_reducible refine (live_append_fit hL3 (textF 100 1) (by rw [L1.out]; omega) (by omega) (by rw [N3.out]; omega) 1 B1.out (by rw [P3.out]; omega)).mono ?_; rw [N3.out]; rintro e w5 ⟨d5, v5, F5, rfl, hL5, hk5, hF5, hV5, hb5⟩
       have hkw3' := hkw3.fresh hk5 hn3.frame
       have hn3 := hn3.next hkw3.size hF5 hV5
       have hkw3 := hkw3'
       obtain ⟨r4, hr4⟩ : ∃ r, RV.add r3 (r3.h.generation, 1) = r := ⟨_, rfl⟩
       rw [hr4] at hL5
       have G3' : Hid (r4.h.generation = 1) := Lib.hid (by rw [← hr4]; exact G3.out)
       have A3' : Hid (r4.a.places = 4) := Lib.hid (by rw [← hr4]; exact A3.out)
       have U3' : Hid (r4.used = 1) := Lib.hid (by rw [← hr4]; exact congrArg (· + 1) U3.out)
       have H3' : Hid (r4.h = ⟨1, 0, 0, 0⟩) := Lib.hid (by rw [← hr4]; exact H3.out)
       have E3' : Hid (r4.es = [(1, 1)]) := Lib.hid (by rw [← hr4]; show _ ++ [_] = _; rw [E3.out, G3.out]; rfl)
       have P3' : Hid (r4.a.places - r4.used = 3) := Lib.hid (by rw [A3'.out, U3'.out])
       have N3' : Hid (r4.h.first + r4.es.length = 1) := Lib.hid (by rw [H3'.out, E3'.out]; rfl)
       clear hr4 hL3 G3 A3 U3 H3 E3 P3 N3
       have hL3 := hL5; have G3 := G3'; have A3 := A3'; have U3 := U3'; have H3 := H3'; have E3 := E3'; have P3 := P3'; have N3 := N3'
       clear hL5 G3' A3' U3' H3' E3' P3' N3')
    | (go_at_call 21; with_reducible refine (live_append_fit hL3 (textF 500 2) (by rw [L2.out]; omega) (by omega) (by rw [N3.out]; omega) 2 B2.out (by rw [P3.out]; omega)).mono ?_; rw [N3.out]; rintro e w5 ⟨d5, v5, F5, rfl, hL5, hk5, hF5, hV5, hb5⟩
       have hkw3' := hkw3.fresh hk5 hn3.frame
       have hn3 := hn3.next hkw3.size hF5 hV5
       have hkw3 := hkw3'
       obtain ⟨r5, hr5⟩ : ∃ r, RV.add r4 (r4.h.generation, 2) = r := ⟨_, rfl⟩
       rw [hr5] at hL5
       have G3' : Hid (r5.h.generation = 1) := Lib.hid (by rw [← hr5]; exact G3.out)
       have A3' : Hid (r5.a.places = 4) := Lib.hid (by rw [← hr5]; exact A3.out)
       have U3' : Hid (r5.used = 3) := Lib.hid (by rw [← hr5]; exact congrArg (· + 2) U3.out)
       have H3' : Hid (r5.h = ⟨1, 0, 0, 0⟩) := Lib.hid (by rw [← hr5]; exact H3.out)
       have E3' : Hid (r5.es = [(1, 1), (1, 2)]) := Lib.hid (by rw [← hr5]; show _ ++ [_] = _; rw [E3.out, G3.out]; rfl)
       have P3' : Hid (r5.a.places - r5.used = 1) := Lib.hid (by rw [A3'.out, U3'.out])
       have N3' : Hid (r5.h.first + r5.es.length = 2) := Lib.hid (by rw [H3'.out, E3'.out]; rfl)
       clear hr5 hL3 G3 A3 U3 H3 E3 P3 N3
       have hL3 := hL5; have G3 := G3'; have A3 := A3'; have U3 := U3'; have H3 := H3'; have E3 := E3'; have P3 := P3'; have N3 := N3'
       clear hL5 G3' A3' U3' H3' E3' P3' N3')
    | (go_at_call 23; refine (live_trim_to hL3 1 1 (by rw [H3.out]; rfl) (by omega) (by rw [E3.out]; decide) (by omega) (by rw [N3.out]; omega) (by rw [G3.out]; omega)).mono ?_; rintro e w5 ⟨d5, v5, F5, rfl, hL5, hk5, hF5, hV5, hb5⟩
       have hkw3' := hkw3.fresh hk5 hn3.frame
       have hn3 := hn3.next hkw3.size hF5 hV5
       have hkw3 := hkw3'
       obtain ⟨r6, hr6⟩ : ∃ r, ({ r5 with h := trimH r5 1, es := r5.es.drop 1, used := r5.used - sumB (r5.es.take 1), synced := r5.h.first + r5.es.length } : RV) = r := ⟨_, rfl⟩
       rw [hr6] at hL5
       have hH6 : trimH r5 1 = ⟨2, 1, 1, 1⟩ := by
         show (⟨r5.h.generation + 1, r5.h.first + 1, (r5.h.place + ((r5.es.take 1).map (·.2)).sum) % r5.a.places, (r5.es.getD (1 - 1) (0, 0)).1⟩ : HV) = _
         rw [E3.out, A3.out, H3.out]; rfl
       have G3' : Hid (r6.h.generation = 2) := Lib.hid (by rw [← hr6]; show (trimH r5 1).generation = 2; rw [hH6])
       have A3' : Hid (r6.a.places = 4) := Lib.hid (by rw [← hr6]; exact A3.out)
       have U3' : Hid (r6.used = 2) := Lib.hid (by rw [← hr6]; show r5.used - sumB (r5.es.take 1) = 2; rw [U3.out, E3.out]; rfl)
       have H3' : Hid (r6.h = ⟨2, 1, 1, 1⟩) := Lib.hid (by rw [← hr6]; exact hH6)
       have E3' : Hid (r6.es = [(1, 2)]) := Lib.hid (by rw [← hr6]; show r5.es.drop 1 = _; rw [E3.out]; rfl)
       have P3' : Hid (r6.a.places - r6.used = 2) := Lib.hid (by rw [A3'.out, U3'.out])
       have N3' : Hid (r6.h.first + r6.es.length = 2) := Lib.hid (by rw [H3'.out, E3'.out]; rfl)
       clear hr6 hL3 G3 A3 U3 H3 E3 P3 N3 hH6
       have hL3 := hL5; have G3 := G3'; have A3 := A3'; have U3 := U3'; have H3 := H3'; have E3 := E3'; have P3 := P3'; have N3 := N3'
       clear hL5 G3' A3' U3' H3' E3' P3' N3')
    | (go_at_call 21; with_reducible refine (live_append_fit hL3 (textF 500 3) (by rw [L3.out]; omega) (by omega) (by rw [N3.out]; omega) 2 B3.out (by rw [P3.out]; omega)).mono ?_; rw [N3.out]; rintro e w5 ⟨d5, v5, F5, rfl, hL5, hk5, hF5, hV5, hb5⟩
       have hkw3' := hkw3.fresh hk5 hn3.frame
       have hn3 := hn3.next hkw3.size hF5 hV5
       have hkw3 := hkw3'
       obtain ⟨r7, hr7⟩ : ∃ r, RV.add r6 (r6.h.generation, 2) = r := ⟨_, rfl⟩
       rw [hr7] at hL5
       have G3' : Hid (r7.h.generation = 2) := Lib.hid (by rw [← hr7]; exact G3.out)
       have A3' : Hid (r7.a.places = 4) := Lib.hid (by rw [← hr7]; exact A3.out)
       have U3' : Hid (r7.used = 4) := Lib.hid (by rw [← hr7]; exact congrArg (· + 2) U3.out)
       have H3' : Hid (r7.h = ⟨2, 1, 1, 1⟩) := Lib.hid (by rw [← hr7]; exact H3.out)
       have E3' : Hid (r7.es = [(1, 2), (2, 2)]) := Lib.hid (by rw [← hr7]; show _ ++ [_] = _; rw [E3.out, G3.out]; rfl)
       have P3' : Hid (r7.a.places - r7.used = 0) := Lib.hid (by rw [A3'.out, U3'.out])
       have N3' : Hid (r7.h.first + r7.es.length = 3) := Lib.hid (by rw [H3'.out, E3'.out]; rfl)
       clear hr7 hL3 G3 A3 U3 H3 E3 P3 N3
       have hL3 := hL5; have G3 := G3'; have A3 := A3'; have U3 := U3'; have H3 := H3'; have E3 := E3'; have P3 := P3'; have N3 := N3'
       clear hL5 G3' A3' U3' H3' E3' P3' N3')
    )
  go_ret
  exact ⟨rfl, hkw3⟩
end

section
/- law: step. -/
open Go.RowKit

theorem Live.mono {w : World} {p rp : Nat} {d : DK} {r : RV} {v : Value} {F : List Nat} {ts : List (List UInt8)} {m n : Nat} (h : Live w p rp d r v F ts m) (hmn : m ≤ n) : Live w p rp d r v F ts n :=
  ⟨⟨h.dev.disk, h.dev.lt, h.dev.good.mono hmn, h.dev.glob, h.dev.own⟩, h.on, h.inv, h.ap, h.rpG, h.vG⟩
def StepLaw (o : OpV) (er : Int) (r r' : RV) (ts ts' : List (List UInt8)) : Prop :=
  (o.kind % 3 = 0 ∧ er = 0 ∧ r'.h.first = r.h.first ∧ ts' = ts ++ [textF o.n o.b]) ∨ ((o.kind % 3 = 0 → er ≠ 0) ∧ ∃ c, c ≤ ts.length ∧ r'.h.first = r.h.first + c ∧ ts' = ts.drop c)
def StepPost (w : World) (p rp : Nat) (d : DK) (r : RV) (v : Value) (F : List Nat) (ts : List (List UInt8)) (m : Nat) (o : OpV) (e : Ending) (w' : World) : Prop :=
  ∃ (er : Int) (d' : DK) (r' : RV) (v' : Value) (F' : List Nat) (ts' : List (List UInt8)), e = .returned (.int .i64 er) ∧ Live w' p rp d' r' v' F' ts' (m + 300) ∧ Keep (Live.frame rp v F) w w' ∧ (∀ x ∈ F', x ∈ F ∨ w.heap.size ≤ x) ∧ (∀ k, v'.ownBlock = some k → v.ownBlock = some k ∨ w.heap.size ≤ k) ∧ d'.blocks = d.blocks ∧ r'.a = r.a ∧ r'.h.generation ≤ r.h.generation + 1 ∧ StepLaw o er r r' ts ts'
theorem textF_len_le (n first : Int) (h0 : 0 ≤ n) : (textF n first).length ≤ 131072 := by rw [textF_length]; omega

theorem stepPost_of {w W w' : World} {p rp : Nat} {d d' : DK} {r r' : RV} {v v' : Value} {F F' : List Nat} {ts ts' : List (List UInt8)} {m : Nat} {o : OpV} {er : Int} (hk : Keep [] w W) (hL : Live w' p rp d' r' v' F' ts' (m + 300)) (hk2 : Keep (Live.frame rp v F) W w') (hF2 : ∀ x ∈ F', x ∈ F ∨ W.heap.size ≤ x) (hv2 : ∀ k, v'.ownBlock = some k → v.ownBlock = some k ∨ W.heap.size ≤ k) (hbl : d'.blocks = d.blocks) (hra : r'.a = r.a) (hg : r'.h.generation ≤ r.h.generation + 1) (hlaw : StepLaw o er r r' ts ts') : StepPost w p rp d r v F ts m o (.returned (.int .i64 er)) w' :=
  ⟨er, d', r', v', F', ts', rfl, hL, (hk.mono (F' := Live.frame rp v F) (by simp)).trans hk2 (fun x hx => .inl hx), fun x hx => (hF2 x hx).elim .inl (fun q => .inr (Nat.le_trans hk.size q)), fun k' e => (hv2 k' e).elim .inl (fun q => .inr (Nat.le_trans hk.size q)), hbl, hra, hg, hlaw⟩
set_option maxRecDepth 100000 in
set_option maxHeartbeats 1000000 in
theorem step_ok {w : World} {p rp : Nat} {d : DK} {r : RV} {v : Value} {F : List Nat} {ts : List (List UInt8)} {m : Nat} (h : Live w p rp d r v F ts m) (o : OpV) (ho : o.ok) (hm : m ≤ 30000000) (hnum : r.h.first + r.es.length ≤ 1000000) (hgen : r.h.generation ≤ 1000000) :
    Calls Tryd.prog 11 #[.pointer (some ⟨rp, 0, none⟩), .agg o.cells] w fun e w' => StepPost w p rp d r v F ts m o e w' := by
  obtain ⟨k, n, b, ca, cl, cc⟩ := o
  obtain ⟨k0, k1, n0, n1, b0, b1⟩ := ho
  simp only at k0 k1 n0 n1 b0 b1
  obtain ⟨W, hW⟩ : ∃ W, W = w.alloc (.cells #[.int .u8 k, .int .u16 n, .int .u8 b, .slice ca cl cc] 37) := ⟨_, rfl⟩
  have hkW : Keep [] w W := by rw [hW]; exact (Keep.refl _ _).alloc _
  have hr := heap_alloc_new w (.cells #[.int .u8 k, .int .u16 n, .int .u8 b, .slice ca cl cc] 37)
  rw [← hW] at hr
  have c0 : W.cell? ⟨w.heap.size, 0, none⟩ = some (.int .u8 k) := (cell_row' (j := 0) hr).trans rfl
  have c1 : W.cell? ⟨w.heap.size, 1, none⟩ = some (.int .u16 n) := (cell_row' (j := 1) hr).trans rfl
  have c2 : W.cell? ⟨w.heap.size, 2, none⟩ = some (.int .u8 b) := (cell_row' (j := 2) hr).trans rfl
  simp only [OpV.cells]
  go_enter Tryd.func11, Tryd.ntmps11
  go_wp2_with (first
    | (go_at_call 12; refine (text_any n b _ n0 n1 b0 b1).mono ?_; rintro e w1 ⟨rfl, hk1⟩
       have hkw1 : Keep [] w w1 := ((Keep.refl [] w).alloc _).then hk1
       have h1 := h.keep0 hkw1)
    | (go_at_call 21; refine (live_append h1 (textF n b) (textF_len_le n b n0) (by omega) (by omega)).mono ?_; rintro e w2 ⟨nr, er, d', r', v', F', ts', rfl, hL, hk2, hF2, hv2, hbl, hcase⟩)
    | (go_at_call 22; rw [← hW]; refine (live_sync (h.keep0 hkW)).mono ?_; rintro e w2 ⟨d', r', v', F', rfl, hL, hk2, hF2, hv2, hbl, hra, hrh, hre⟩))
  · have hk3 : k % 3 = 0 := by simpa using (by assumption : (k % 3 == 0) = true)
    go_ret
    rcases hcase with ⟨_, e1, e2, e3, e4⟩ | ⟨_, e1, e2, e3, e4⟩
    · exact stepPost_of hkw1 hL hk2 hF2 hv2 hbl (by rw [e3]) (by rw [e3]; omega) (.inr ⟨fun _ => by rw [e2]; decide, 0, by omega, by rw [e3]; rfl, by rw [e4]; rfl⟩)
    · exact stepPost_of hkw1 hL hk2 hF2 hv2 hbl (by rw [e3]; rfl) (by rw [e3]; exact Nat.le_succ _) (.inl ⟨hk3, e2, by rw [e3]; rfl, e4⟩)
  · have hk3 : k % 3 = 1 := by simpa using (by assumption : (k % 3 == 1) = true)
    go_ret
    exact stepPost_of hkW (hL.mono (by omega)) hk2 hF2 hv2 hbl hra (by rw [hrh]; omega) (.inr ⟨fun h0 => by simp only at h0; omega, 0, by omega, by rw [hrh]; rfl, rfl⟩)
  · rw [← hW]
    have hk3 : ¬ k % 3 = 0 := by simpa using (by assumption : (k % 3 == 0) = false)
    have hLW := h.keep0 hkW
    have hf0 : (k % 3 == 0) = false := by assumption
    have hf1 : (k % 3 == 1) = false := by assumption
    simp only [hf0, hf1]
    clear hW
    have hfi := hLW.on.ring
    refine wp_region_tail (Keep [])
      [fun v _ => v = .pointer (some ⟨rp, 0, none⟩), fun v _ => v = .pointer (some ⟨rp, 0, none⟩), fun v _ => v = .int .i64 r.h.first, fun v _ => v = .pointer (some ⟨w.heap.size, 1, none⟩), fun v _ => v = .int .u16 n, fun v _ => v = .int .u16 (n % 9), fun v _ => v = .int .i64 (n % 9), fun v _ => v = .int .i64 (r.h.first + n % 9), fun v _ => v = .int .i64 (r.h.first + n % 9 - 2)]
      (by kernel_rfl) (by kernel_rfl) (by kernel_rfl) (by kernel_rfl) (fun _ _ _ h k => h.then k) (Keep.refl _) ?sta ?mai
    case sta => exact ⟨fun _ _ _ _ h => h, fun _ _ _ _ h => h, fun _ _ _ _ h => h, fun _ _ _ _ h => h, fun _ _ _ _ h => h, fun _ _ _ _ h => h, fun _ _ _ _ h => h, fun _ _ _ _ h => h, fun _ _ _ _ h => h, trivial⟩
    case mai =>
      simp only [List.length_cons, List.length_nil, Nat.zero_add, Nat.reduceAdd, AllVals]
      intro z0 z1 z2 z3 z4 z5 z6 z7 z8 z9 z10
      simp only [putAll, Act.put, List.setIfInBounds_toArray, List.set_cons_zero, List.set_cons_succ, StepsL, TailOK]
      refine ⟨?_, ?_, ?_, ?_, ?_, ?_, ?_, ?_, ?_, ?_⟩
      all_goals try (first | trivial | ((intro wq K hRq hPq hKq; simp only [Pre, Region.binds, List.getD_cons_zero, List.getD_cons_succ, true_imp_iff, forall_const, and_true, true_and] at hPq; simp only [Act.put, List.setIfInBounds_toArray, List.set_cons_zero, List.set_cons_succ] at hKq); go_split_ands; subst_vars; (try unfold str at *); go_wp2; first | exact hKq _ _ (Keep.refl _ _) rfl | exact hKq _ _ (Keep.refl _ _) trivial | exact hKq _ _ (FinR.refl _ _ _) rfl | exact hKq _ _ (FinR.refl _ _ _) trivial))
      · (intro wq K hR hP hK; simp only [Pre, Region.binds, List.getD_cons_zero, List.getD_cons_succ, true_imp_iff, forall_const, and_true, true_and] at hP; simp only [Act.put, List.setIfInBounds_toArray, List.set_cons_zero, List.set_cons_succ] at hK)
        subst hP
        go_wp2_with (go_at_call 14; refine (first_any (hLW.keep0 (((Keep.refl [] W).drew).then hR)).on.ring).mono ?_; rintro e w2 ⟨rfl, rfl⟩)
        exact hK _ _ (Keep.refl _ _) rfl
      · (intro wq K hR hP hK; simp only [Pre, Region.binds, List.getD_cons_zero, List.getD_cons_succ, true_imp_iff, forall_const, and_true, true_and] at hP; simp only [Act.put, List.setIfInBounds_toArray, List.set_cons_zero, List.set_cons_succ] at hK)
        subst hP
        have c1 := (((Keep.refl [] W).drew).then hR).cell (cell_row' (j := 1) hr) (by simp)
        go_wp2
        exact hK _ _ (Keep.refl _ _) rfl
      · intro wq hR hV K hK
        simp only [AllAt] at hV
        obtain ⟨rfl, rfl, rfl, rfl, rfl, rfl, rfl, rfl, rfl, -⟩ := hV
        go_wp2_with (go_at_call 23; refine (live_trim (hLW.keep0 (((Keep.refl [] W).drew).then hR)) _ (by omega) (by omega) (by omega)).mono ?_; rintro e w2 ⟨er, d', r', v', F', ts', rfl, hL, hk2, hF2, hv2, hbl, hcase⟩)
        refine hK _ _ ?_
        intro K2 hK2
        go_wp2
        refine hK2 _ _ ?_
        go_wp2
        go_ret
        have hkq : Keep [] w wq := hkW.then (((Keep.refl [] W).drew).then hR)
        rcases hcase with ⟨_, e2, e3, e4⟩ | ⟨_, e2, e3, e4⟩ | ⟨c, _, c1, c2, e2, e4, e3⟩
        · exact stepPost_of hkq (hL.mono (by omega)) hk2 hF2 hv2 hbl (by rw [e3]) (by rw [e3]; omega) (.inr ⟨fun h0 => absurd h0 hk3, 0, by omega, by rw [e3]; rfl, by rw [e4]; rfl⟩)
        · exact stepPost_of hkq (hL.mono (by omega)) hk2 hF2 hv2 hbl (by rw [e3]) (by rw [e3]; omega) (.inr ⟨fun h0 => absurd h0 hk3, 0, by omega, by rw [e3]; rfl, by rw [e4]; rfl⟩)
        · exact stepPost_of hkq (hL.mono (by omega)) hk2 hF2 hv2 hbl (by rw [e3]) (by rw [e3]; exact Nat.le_refl _) (.inr ⟨fun h0 => absurd h0 hk3, c, by have := h.inv.len; omega, by rw [e3]; rfl, e4⟩)
end
end Go.Proofs.YtgopdbpddemplaaDoor
