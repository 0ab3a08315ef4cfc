/- Plain law: a device without failures, and what the blocks of a ring hold. · ring: Trim. -/
import Derived.Test.YtgopdbpddemplaaDoorPart20
import Derived.Test.YtgopdbpddemplaaDoorPart23
import Derived.Test.YtgopdbpddemplaaDoorPart17
import Derived.Test.YtgopdbpddemplaaDoorPart21
set_option linter.unusedSimpArgs false
set_option linter.unusedVariables false
namespace Go.Proofs.YtgopdbpddemplaaDoor
section
/- Plain law: a device without failures, and what the blocks of a ring hold. -/
open Go.RowKit

/-- a device that does not fail, with at most m pending writes -/
structure DK.good (d : DK) (m : Nat) : Prop where
  ok : d.ok
  down : d.down = false
  lim : d.limited = false
  len : d.pend.length ≤ m
theorem DK.good.mono {d : DK} {m n : Nat} (h : d.good m) (k : m ≤ n) : d.good n := ⟨h.ok, h.down, h.lim, Nat.le_trans h.len k⟩
theorem begin_good {d : DK} {m : Nat} (h : d.good m) : d.begin = (0, { d with ops := wrap64 (d.ops + 1) }) := by
  unfold DK.begin
  rw [if_neg (fun e => by rw [h.lim] at e; cases e.1), h.lim]; rfl
theorem write_good {d : DK} {m : Nat} (h : d.good m) {b : Int} {c : List UInt8} (hb : d.has b = true) (hc : c.length = 512) :
    (d.write b c).1 = 0 ∧ (d.write b c).2.good (m + 1) ∧ (d.write b c).2.vis = setDur d.vis b c ∧ (d.write b c).2.blocks = d.blocks := by
  have e : d.write b c = (0, { d with ops := wrap64 (d.ops + 1), pend := d.pend ++ [(b, c)] }) := by
    unfold DK.write
    rw [if_neg (by rw [h.down]; decide), if_neg (by rw [hb]; decide), if_neg (by simp [hc]), begin_good h]
    rfl
  rw [e]
  refine ⟨rfl, ⟨⟨h.ok.dur, ?_⟩, h.down, h.lim, ?_⟩, ?_, rfl⟩
  · intro p hp
    rcases List.mem_append.1 hp with hp | hp
    · exact h.ok.pend p hp
    · rw [List.mem_singleton.1 hp]; exact hc
  · simp only [List.length_append, List.length_singleton]; have := h.len; omega
  · funext j
    unfold DK.vis setDur
    simp only
    rw [lastIx_snoc]
    by_cases hj : b = j
    · subst hj
      simp [List.getD_eq_getElem?_getD]
    · rw [if_neg hj, if_neg (fun e => hj e.symm)]
      cases hl : lastIx d.pend j with
      | none => rfl
      | some i =>
        have := (lastIx_lt hl).1
        simp only
        rw [List.getD_eq_getElem?_getD, List.getElem?_append_left this, ← List.getD_eq_getElem?_getD]
theorem flush_good {d : DK} {m : Nat} (h : d.good m) : d.flush.1 = 0 ∧ d.flush.2.good 0 ∧ d.flush.2.vis = d.vis ∧ d.flush.2.blocks = d.blocks := by
  have e : d.flush = (0, { d with ops := wrap64 (d.ops + 1), dur := d.vis, pend := [] }) := by
    unfold DK.flush
    rw [if_neg (by rw [h.down]; decide), begin_good h]
    rfl
  rw [e]
  refine ⟨rfl, ⟨⟨fun b => h.ok.vis b, fun p hp => by cases hp⟩, h.down, h.lim, Nat.le_refl _⟩, ?_, rfl⟩
  funext j
  rfl
theorem putD_good {d : DK} {m : Nat} (h : d.good m) {a : AR} (hf : a.fits d) {v : HV} (hv : v.ok) :
    (putD d a v).1 = 0 ∧ (putD d a v).2.good 0 ∧ (putD d a v).2.vis = setDur d.vis ((a.first + v.generation % 2 : Nat) : Int) v.bytes ∧ (putD d a v).2.blocks = d.blocks := by
  obtain ⟨h1, h2, h3, h4⟩ := write_good h (AR.head_has hf v.generation) hv.bytes
  obtain ⟨k1, k2, k3, k4⟩ := flush_good h2
  unfold putD
  simp only
  rw [if_neg (by simpa using h1)]
  exact ⟨k1, k2, k3.trans h3, k4.trans h4⟩

theorem mod_inj {p i j m : Nat} (hi : i < m) (hj : j < m) (h : (p + i) % m = (p + j) % m) : i = j := by
  have key : ∀ i j : Nat, i ≤ j → j < m → (p + i) % m = (p + j) % m → i = j := by
    intro i j hij hj h
    have := Nat.sub_mod_eq_zero_of_mod_eq h.symm
    rw [show p + j - (p + i) = j - i from by omega, Nat.mod_eq_of_lt (by omega)] at this
    omega
  rcases Nat.le_total i j with h1 | h1
  · exact key i j h1 hj h
  · exact (key j i h1 hi h.symm).symm
theorem blk_inj {a : AR} {p i j : Nat} (hi : i < a.places) (hj : j < a.places) (h : (a.blk p i : Int) = a.blk p j) : i = j := by
  unfold AR.blk at h
  exact mod_inj (p := p) hi hj (by omega)
theorem blk_mod (a : AR) (p i : Nat) : a.blk (p % a.places) i = a.blk p i := by
  unfold AR.blk
  rw [Nat.mod_add_mod]
theorem blk_add (a : AR) (p i j : Nat) : a.blk (p + i) j = a.blk p (i + j) := by
  unfold AR.blk
  rw [Nat.add_assoc p i j]
theorem blk_head {a : AR} {p j g : Nat} (h : (a.blk p j : Int) = ((a.first + g % 2 : Nat) : Int)) : False := by
  unfold AR.blk at h
  have : g % 2 < 2 := Nat.mod_lt _ (by omega)
  omega

/-- how many bytes lie ahead of the block with a number -/
def dropAt (k : Nat) : Nat := if k = 0 then 0 else 512 + 511 * (k - 1)
theorem dropAt_succ (k : Nat) : dropAt (k + 1) = dropAt k + (if k = 0 then 512 else 511) := by
  unfold dropAt
  rw [if_neg (by omega)]
  by_cases h : k = 0
  · simp [h]
  · rw [if_neg h, if_neg h]; omega
def chunkAt (j : Nat) (s : List UInt8) : List UInt8 := chunkF j (s.drop (dropAt j))
theorem wfold_good {d : DK} {m : Nat} (h : d.good m) {a : AR} (ha : a.ok) (hf : a.fits d) (place : Nat) (s : List UInt8) : ∀ k, k ≤ a.places →
    (wfold a place d s (List.range k)).1 = 0 ∧ (wfold a place d s (List.range k)).2.1.good (m + k) ∧ (wfold a place d s (List.range k)).2.1.blocks = d.blocks ∧ (wfold a place d s (List.range k)).2.2 = s.drop (dropAt k) ∧
    (∀ j, j < k → (wfold a place d s (List.range k)).2.1.vis (a.blk place j) = chunkAt j s) ∧ (∀ b : Int, (∀ j, j < k → b ≠ a.blk place j) → (wfold a place d s (List.range k)).2.1.vis b = d.vis b) := by
  intro k
  induction k with
  | zero => intro _; exact ⟨rfl, h.mono (by omega), rfl, by simp [wfold, dropAt], by intro j hj; omega, fun b _ => rfl⟩
  | succ k ih =>
    intro hk
    obtain ⟨h1, h2, h3, h4, h5, h6⟩ := ih (by omega)
    rw [List.range_succ, wfold_snoc]
    generalize wfold a place d s (List.range k) = W at *
    have hhas : W.2.1.has (a.blk place k) = true := AR.has (by unfold AR.fits at hf ⊢; rw [h3]; exact hf) ha place k
    have hc : (chunkF k W.2.2).length = 512 := chunkF_length _ _
    obtain ⟨w1, w2, w3, w4⟩ := write_good h2 hhas hc
    unfold wstep
    rw [if_neg (by simpa using h1)]
    refine ⟨w1, w2.mono (by omega), w4.trans h3, ?_, ?_, ?_⟩
    · simp only [h4, List.drop_drop, dropAt_succ]
    · intro j hj
      simp only [w3, setDur]
      by_cases hjk : j = k
      · subst hjk
        rw [if_pos rfl, h4]; rfl
      · rw [if_neg (fun e => hjk (blk_inj (by omega) (by omega) e))]
        exact h5 j (by omega)
    · intro b hb
      simp only [w3, setDur]
      rw [if_neg (hb k (by omega))]
      exact h6 b (fun j hj => hb j (by omega))

theorem padTo_add (x y : Nat) (s : List UInt8) : padTo x s ++ padTo y (s.drop x) = padTo (x + y) s := by
  unfold padTo
  rcases Nat.le_total s.length x with h | h
  · rw [List.take_of_length_le h, List.drop_eq_nil_of_le h, List.take_of_length_le (show s.length ≤ x + y by omega)]
    simp only [List.take_nil, List.nil_append, List.length_nil, Nat.sub_zero, List.append_assoc, List.replicate_append_replicate]
    congr 2; omega
  · rw [show x - s.length = 0 from by omega, List.replicate_zero, List.append_nil, List.take_add, List.append_assoc, List.length_drop]
    congr 3; omega
/-- a piece whose blocks hold a text's chunks is the text, and zeros -/
theorem pieceF_chunks {d : DK} {a : AR} {place : Nat} {s : List UInt8} (n : Nat) (hn : 1 ≤ n) (h : ∀ j, j < n → d.vis (a.blk place j) = chunkAt j s) : pieceF d a place (List.range n) = padTo (dropAt n) s := by
  induction n with
  | zero => omega
  | succ n ih =>
    rw [List.range_succ, pieceF_snoc]
    by_cases h0 : n = 0
    · subst h0
      simp only [List.range_zero, pieceF, List.map_nil, List.flatten_nil, List.nil_append, partF, if_true]
      rw [h 0 (by omega)]
      simp [chunkAt, chunkF, dropAt]
    · rw [ih (by omega) (fun j hj => h j (by omega))]
      unfold partF
      rw [if_neg h0, h n (by omega)]
      unfold chunkAt chunkF
      rw [if_neg h0, List.drop_one, List.tail_cons, padTo_add, dropAt_succ, if_neg h0]
theorem blocksN_le (n : Nat) (h : 1 ≤ n) : n ≤ dropAt (blocksN n) ∨ blocksN n = 0 := by
  unfold dropAt blocksN
  split <;> omega
theorem body_of_chunks {d : DK} {a : AR} {place : Nat} {st nu n : Nat} {t : List UInt8} (hok : FrOk 2 st nu t.length) (hn : n = blocksN (26 + t.length + 16)) (hp : n ≤ a.places)
    (h : ∀ j, j < n → d.vis (a.blk place j) = chunkAt j (encodeF 2 st nu t)) : bodyF d a place = some (⟨2, st, nu, t⟩, n) := by
  have h1 : 1 ≤ n := by rw [hn]; unfold blocksN; omega
  have hl := encodeF_length 2 st nu t
  have hle := blocksN_le (26 + t.length + 16) (by omega)
  have hpc := pieceF_chunks n h1 h
  have hpad : padTo (dropAt n) (encodeF 2 st nu t) = encodeF 2 st nu t ++ List.replicate (dropAt n - (26 + t.length + 16)) 0 := by
    unfold padTo
    rw [List.take_of_length_le (by rw [hl, hn]; omega), hl]
  rw [hpad] at hpc
  have hdec := decode_encode hok (List.replicate (dropAt n - (26 + t.length + 16)) 0)
  rw [← hpc] at hdec
  unfold bodyF
  rw [bodyF_at d a place n hp (Or.inr (by rw [hdec]; exact fun e => by cases e)), hdec]
  simp only
  rw [if_pos trivial, hn]

/-- what the first block of a place says where no live entry begins -/
def Stale (c : List UInt8) (gen base next : Nat) : Prop :=
  c.getD 0 0 ≠ 245 ∨ ∃ st nu n : Nat, c.take 18 = hbytes 2 st nu n ∧ FrOk 2 st nu n ∧ st ≤ gen ∧ (nu < next ∨ st < base)
theorem Stale.mono {c : List UInt8} {gen base next gen' base' next' : Nat} (h : Stale c gen base next) (h1 : gen ≤ gen') (h2 : base ≤ base') (h3 : next ≤ next') : Stale c gen' base' next' := by
  rcases h with h | ⟨st, nu, n, k1, k2, k3, k4⟩
  · exact .inl h
  · exact .inr ⟨st, nu, n, k1, k2, by omega, by omega⟩
theorem stale_zero (gen base next : Nat) : Stale zero512 gen base next := .inl (by decide +kernel)
theorem stale_body {d : DK} {a : AR} {place gen base next n : Nat} {f : FrameV} (hd : d.ok) (hp : 1 ≤ a.places) (h : Stale (d.vis (a.blk place 0)) gen base next) (hb : bodyF d a place = some (f, n)) :
    f.stream ≤ gen ∧ (f.number < next ∨ f.stream < base) := by
  have hv := hd.vis (a.blk place 0)
  have hpc : pieceF d a place (List.range a.places) = d.vis (a.blk place 0) ++ pieceF d a place ((List.range (a.places - 1)).map (1 + ·)) := by
    have e : a.places = 1 + (a.places - 1) := by omega
    generalize a.places - 1 = k at *
    rw [e]
    unfold pieceF
    rw [List.range_add, List.map_append, List.flatten_append]
    simp [partF]
  unfold bodyF at hb
  rw [hpc] at hb
  generalize pieceF d a place ((List.range (a.places - 1)).map (1 + ·)) = rest at *
  rcases h with h | ⟨st, nu, l, k1, k2, k3, k4⟩
  · obtain ⟨e, he⟩ := decode_mark (x := d.vis (a.blk place 0) ++ rest) (by
      rw [List.getD_eq_getElem?_getD, List.getElem?_append_left (by omega), ← List.getD_eq_getElem?_getD]; exact h)
    rw [he] at hb
    cases hb
  · split at hb
    · rename_i f' sz hdec
      split at hb
      · cases hb
        obtain ⟨_, q2, q3⟩ := decode_header hdec k2 (by rw [List.take_append_of_le_length (by omega)]; exact k1)
        rw [q2, q3]; omega
      · cases hb
    · cases hb

/-- the live entries as they lie -/
def Laid (V : Int → List UInt8) (a : AR) (gen : Nat) : Nat → Nat → Nat → List (Nat × Nat) → List (List UInt8) → Prop
  | _, _, st0, [], [] => st0 ≤ gen
  | pos, num, st0, x :: es, t :: ts => st0 ≤ x.1 ∧ x.2 = blocksN (26 + t.length + 16) ∧ t.length ≤ 131072 ∧ (∀ j, j < x.2 → V (a.blk pos j) = chunkAt j (encodeF 2 x.1 num t)) ∧ Laid V a gen (pos + x.2) (num + 1) x.1 es ts
  | _, _, _, _, _ => False
def sumB (es : List (Nat × Nat)) : Nat := (es.map (·.2)).sum
@[simp] theorem sumB_nil : sumB [] = 0 := rfl
@[simp] theorem sumB_cons (x : Nat × Nat) (es : List (Nat × Nat)) : sumB (x :: es) = x.2 + sumB es := by simp [sumB]
theorem sumB_append (l es : List (Nat × Nat)) : sumB (l ++ es) = sumB l + sumB es := by simp [sumB]
theorem Laid.le {V : Int → List UInt8} {a : AR} {gen : Nat} : ∀ {pos num st0 : Nat} {es : List (Nat × Nat)} {ts : List (List UInt8)}, Laid V a gen pos num st0 es ts → st0 ≤ gen ∧ es.length = ts.length ∧ es.length ≤ sumB es
  | _, _, _, [], [], h => ⟨h, rfl, Nat.le_refl _⟩
  | _, _, _, x :: es, t :: ts, h => by
    obtain ⟨h1, h2, _, _, h3⟩ := h
    obtain ⟨k1, k2, k3⟩ := h3.le
    refine ⟨by omega, by simp [k2], ?_⟩
    rw [sumB_cons, List.length_cons]
    have : 1 ≤ x.2 := by rw [h2]; unfold blocksN; omega
    omega
  | _, _, _, [], _ :: _, h => h.elim
  | _, _, _, _ :: _, [], h => h.elim
theorem Laid.gen {V : Int → List UInt8} {a : AR} {gen gen' : Nat} (hg : gen ≤ gen') : ∀ {pos num st0 : Nat} {es : List (Nat × Nat)} {ts : List (List UInt8)}, Laid V a gen pos num st0 es ts → Laid V a gen' pos num st0 es ts
  | _, _, _, [], [], h => Nat.le_trans h hg
  | _, _, _, x :: es, t :: ts, h => ⟨h.1, h.2.1, h.2.2.1, h.2.2.2.1, Laid.gen hg h.2.2.2.2⟩
  | _, _, _, [], _ :: _, h => h.elim
  | _, _, _, _ :: _, [], h => h.elim
theorem Laid.congr {V V' : Int → List UInt8} {a : AR} {gen : Nat} : ∀ {pos num st0 : Nat} {es : List (Nat × Nat)} {ts : List (List UInt8)}, Laid V a gen pos num st0 es ts → (∀ j, j < sumB es → V' (a.blk pos j) = V (a.blk pos j)) → Laid V' a gen pos num st0 es ts
  | _, _, _, [], [], h, _ => h
  | pos, _, _, x :: es, t :: ts, h, hv => ⟨h.1, h.2.1, h.2.2.1, fun j hj => (hv j (by rw [sumB_cons]; omega)).trans (h.2.2.2.1 j hj), Laid.congr h.2.2.2.2 (fun j hj => by rw [blk_add]; exact hv _ (by rw [sumB_cons]; omega))⟩
  | _, _, _, [], _ :: _, h, _ => h.elim
  | _, _, _, _ :: _, [], h, _ => h.elim
theorem Laid.mod {V : Int → List UInt8} {a : AR} {gen : Nat} : ∀ {pos num st0 : Nat} {es : List (Nat × Nat)} {ts : List (List UInt8)} (pos' : Nat), pos % a.places = pos' % a.places → Laid V a gen pos num st0 es ts → Laid V a gen pos' num st0 es ts
  | _, _, _, [], [], _, _, h => h
  | pos, _, _, x :: es, t :: ts, pos', hp, h => ⟨h.1, h.2.1, h.2.2.1, fun j hj => by rw [← blk_mod, ← hp, blk_mod]; exact h.2.2.2.1 j hj, Laid.mod (pos' + x.2) (by rw [Nat.add_mod, hp, ← Nat.add_mod]) h.2.2.2.2⟩
  | _, _, _, [], _ :: _, _, _, h => h.elim
  | _, _, _, _ :: _, [], _, _, h => h.elim
theorem Laid.snoc {V : Int → List UInt8} {a : AR} {gen : Nat} {st : Nat} {t : List UInt8} (hst : st = gen) (hl : t.length ≤ 131072) : ∀ {pos num st0 : Nat} {es : List (Nat × Nat)} {ts : List (List UInt8)}, Laid V a gen pos num st0 es ts →
    (∀ j, j < blocksN (26 + t.length + 16) → V (a.blk (pos + sumB es) j) = chunkAt j (encodeF 2 st ((num + es.length : Nat) : Int) t)) → Laid V a gen pos num st0 (es ++ [(st, blocksN (26 + t.length + 16))]) (ts ++ [t])
  | _, _, _, [], [], h, hv => ⟨by rw [hst]; exact h, rfl, hl, hv, by show st ≤ gen; omega⟩
  | pos, num, _, x :: es, t' :: ts, h, hv => ⟨h.1, h.2.1, h.2.2.1, h.2.2.2.1, Laid.snoc hst hl h.2.2.2.2 (fun j hj => by
      have := hv j hj
      rw [sumB_cons, ← Nat.add_assoc] at this
      rw [this, List.length_cons, show num + (es.length + 1) = num + 1 + es.length from by omega])⟩
  | _, _, _, [], _ :: _, h, _ => h.elim
  | _, _, _, _ :: _, [], h, _ => h.elim
theorem Laid.drop {V : Int → List UInt8} {a : AR} {gen : Nat} : ∀ (c : Nat) {pos num st0 : Nat} {es : List (Nat × Nat)} {ts : List (List UInt8)}, 1 ≤ c → c ≤ es.length → Laid V a gen pos num st0 es ts →
    Laid V a gen (pos + sumB (es.take c)) (num + c) ((es.getD (c - 1) (0, 0)).1) (es.drop c) (ts.drop c) ∧ st0 ≤ (es.getD (c - 1) (0, 0)).1
  | 0, _, _, _, _, _, h0, _, _ => by omega
  | c + 1, _, _, _, [], _, _, hc, _ => by simp at hc
  | c + 1, _, _, _, _ :: _, [], _, _, h => h.elim
  | c + 1, pos, num, st0, x :: es, t :: ts, _, hc, h => by
    by_cases h0 : c = 0
    · subst h0
      refine ⟨?_, h.1⟩
      simpa using h.2.2.2.2
    · have ih := Laid.drop c (by omega) (by simpa using hc) h.2.2.2.2
      have e : ((x :: es).getD (c + 1 - 1) (0, 0)) = es.getD (c - 1) (0, 0) := by
        obtain ⟨k, rfl⟩ : ∃ k, c = k + 1 := ⟨c - 1, by omega⟩
        simp
      rw [e]
      refine ⟨?_, Nat.le_trans h.1 ih.2⟩
      have h1 := ih.1
      rw [List.take_succ_cons, sumB_cons, List.drop_succ_cons, List.drop_succ_cons, ← Nat.add_assoc, show num + (c + 1) = num + 1 + c from by omega]
      exact h1
/-- entries with their numbers -/
def numb : Nat → List (List UInt8) → List (Nat × List UInt8)
  | _, [] => []
  | n, t :: ts => (n, t) :: numb (n + 1) ts
theorem numb_length (n : Nat) (ts : List (List UInt8)) : (numb n ts).length = ts.length := by
  induction ts generalizing n with
  | nil => rfl
  | cons t ts ih => simp [numb, ih]
theorem numb_get (n : Nat) (ts : List (List UInt8)) (i : Nat) : (numb n ts)[i]? = ts[i]?.map (n + i, ·) := by
  induction ts generalizing n i with
  | nil => simp [numb]
  | cons t ts ih =>
    cases i with
    | zero => simp [numb]
    | succ i => simp only [numb, List.getElem?_cons_succ, ih]; rw [show n + 1 + i = n + (i + 1) from by omega]

theorem findF_laid {d : DK} (hd : d.ok) {a : AR} {h : HV} {base next : Nat} (hp : 1 ≤ a.places) (hgen : h.generation ≤ 2147483647) (hnext : next ≤ 1099511627775)
    (hst : ∀ q, q < a.places → Stale (d.vis ((a.first + 2 + q : Nat) : Int)) h.generation base next) :
    ∀ (es : List (Nat × Nat)) (ts : List (List UInt8)) (k : Nat) (es0 : List (Nat × Nat)) (u0 s0 st0 : Nat) (er : Int) (l0 : List (Nat × List UInt8)),
      Laid d.vis a h.generation (h.place + u0) (h.first + es0.length) st0 es ts → base ≤ st0 → h.first + es0.length + ts.length = next → u0 + sumB es ≤ a.places → a.places - u0 ≤ k →
      (findF d k (⟨a, h, es0, u0, s0, er⟩, st0, l0)).1 = ⟨a, h, es0 ++ es, u0 + sumB es, s0, er⟩ ∧ (findF d k (⟨a, h, es0, u0, s0, er⟩, st0, l0)).2.2 = l0 ++ numb (h.first + es0.length) ts
  | [], [], k, es0, u0, s0, st0, er, l0, hL, hb, hn, hu, hk => by
    have hnone : findStep d (⟨a, h, es0, u0, s0, er⟩, st0, l0) = none := by
      unfold findStep
      simp only
      split
      · rfl
      · cases hbd : bodyF d a ((h.place + u0) % a.places) with
        | none => rfl
        | some fn =>
          obtain ⟨f, n⟩ := fn
          simp only
          have hq := hst ((h.place + u0) % a.places) (Nat.mod_lt _ (by omega))
          have e : a.first + 2 + (h.place + u0) % a.places = a.blk ((h.place + u0) % a.places) 0 := by unfold AR.blk; rw [Nat.add_zero ((h.place + u0) % a.places), Nat.mod_mod]
          rw [e] at hq
          have := stale_body hd hp hq hbd
          simp only [List.length_nil, Nat.add_zero] at hn
          rw [if_pos (by omega)]
    cases k with
    | zero => simp [findF, numb]
    | succ k => simp [findF, hnone, numb]
  | x :: es, t :: ts, k, es0, u0, s0, st0, er, l0, hL, hb, hn, hu, hk => by
    obtain ⟨h1, h2, h3, h4, h5⟩ := hL
    have hx1 : 1 ≤ x.2 := by rw [h2]; unfold blocksN; omega
    have hxg := h5.le.1
    rw [sumB_cons] at hu
    simp only [List.length_cons] at hn
    obtain ⟨k, rfl⟩ : ∃ k', k = k' + 1 := ⟨k - 1, by omega⟩
    have hbd : bodyF d a ((h.place + u0) % a.places) = some (⟨2, x.1, ((h.first + es0.length : Nat) : Int), t⟩, x.2) :=
      body_of_chunks ⟨by omega, by omega, by omega, by omega, by omega, by omega, by omega⟩ h2 (by omega) (fun j hj => by rw [blk_mod]; exact h4 j hj)
    have hstep : findStep d (⟨a, h, es0, u0, s0, er⟩, st0, l0) = some (⟨a, h, es0 ++ [x], u0 + x.2, s0, er⟩, x.1, l0 ++ [(h.first + es0.length, t)]) := by
      unfold findStep
      simp only
      rw [if_neg (by omega), hbd]
      simp only
      rw [if_neg (by omega)]
      simp only [RV.add, Int.toNat_natCast]
    have ih := findF_laid hd hp hgen hnext hst es ts k (es0 ++ [x]) (u0 + x.2) s0 x.1 er (l0 ++ [(h.first + es0.length, t)]) (by rw [List.length_append, List.length_singleton]; rw [← Nat.add_assoc, ← Nat.add_assoc]; exact h5) (by omega) (by simp; omega) (by omega) (by omega)
    unfold findF
    rw [hstep]
    simp only
    rw [ih.1, ih.2]
    simp [numb, Nat.add_assoc]
  | [], _ :: _, _, _, _, _, _, _, _, hL, _, _, _, _ => hL.elim
  | _ :: _, [], _, _, _, _, _, _, _, hL, _, _, _, _ => hL.elim
end

section
/- ring: Trim. -/
open Go.RowKit

theorem storedCells_get (l : List (Nat × Nat)) (i : Nat) (hi : i < l.length) : (storedCells l)[2 * i]? = some (.int .i64 (l[i].1 : Nat)) ∧ (storedCells l)[2 * i + 1]? = some (.int .i64 (l[i].2 : Nat)) := by
  induction l generalizing i with
  | nil => simp at hi
  | cons x l ih =>
    cases i with
    | zero => simp [storedCells]
    | succ i =>
      have := ih i (by simpa using hi)
      have e1 : 2 * (i + 1) = (2 * i) + 1 + 1 := by omega
      rw [e1]
      simpa [storedCells] using this
theorem trimF_a (d : DK) (r : RV) (b : Int) : (trimF d r b).2.2.a = r.a := by
  unfold trimF
  simp only
  split
  · rfl
  · split
    · rfl
    · split
      · rfl
      · split
        · rfl
        · split <;> rfl
theorem sumB_take_succ (l : List (Nat × Nat)) (k : Nat) (hk : k < l.length) : sumB (l.take (k + 1)) = sumB (l.take k) + l[k].2 := by
  rw [List.take_succ_eq_append_getElem hk, sumB_append]
  simp
theorem sum_take_drop' (es : List (Nat × Nat)) (c : Nat) : sumB (es.take c) + sumB (es.drop c) = sumB es := by
  rw [← sumB_append, List.take_append_drop]
theorem sumB_take_le (l : List (Nat × Nat)) (k : Nat) : sumB (l.take k) ≤ sumB l := by
  have := sum_take_drop' l k
  omega

set_option maxRecDepth 100000 in
set_option maxHeartbeats 2000000 in
theorem trim_err {F : List Nat} {w : World} {p : Nat} {d : DK} {r : RV} {v : Value} (h : RingOn w p d r v F) (before : Int)
    (he : r.failed ≠ 0 ∨ before ≤ r.h.first ∨ before > ((r.h.first + r.es.length : Nat) : Int) ∨ r.h.generation = 2147483647) :
    Calls Tryd.prog 23 #[.pointer (some ⟨p, 0, none⟩), .int .i64 before] w fun e w' => e = .returned (.int .i64 (trimF d r before).1) ∧ OpPost w F p v (trimF d r before).2.1 (trimF d r before).2.2 w' := by
  have hO1 := h.keep0 ((Keep.refl [] w).alloc (.cells #[.pointer (some ⟨p, 0, none⟩)] 26))
  have c0 : (w.alloc (.cells #[.pointer (some ⟨p, 0, none⟩)] 26)).cell? ⟨w.heap.size, 0, none⟩ = some (.pointer (some ⟨p, 0, none⟩)) := (cell_row' (j := 0) (heap_alloc_new w _)).trans rfl
  by_cases h1 : r.failed = 0
  · have HFA := Lib.hid h1
    by_cases h2 : before < r.h.first
    · have HA : Hid (trimF d r before = (2, d, r)) := Lib.hid (by unfold trimF; rw [if_neg (by simpa using h1), if_pos (Or.inl h2)])
      clear h1 he
      go_enter Tryd.func23, Tryd.ntmps23
      go_wp2_with (first
        | (go_at_call 24; refine (failed_any hO1.ring).mono ?_; rw [HFA.out]; rintro e w2 ⟨rfl, hw2⟩; obtain rfl := hw2.symm)
        | (go_at_call 14; refine (first_any hO1.ring).mono ?_; rintro e w2 ⟨rfl, hw2⟩; obtain rfl := hw2.symm)
        )
      go_ret
      exact ⟨by rw [HA.out]; rfl, by rw [HA.out]; exact h.same ((Keep.refl [] w).alloc _)⟩
    · by_cases h3 : before > ((r.h.first + r.es.length : Nat) : Int)
      · have HA : Hid (trimF d r before = (2, d, r)) := Lib.hid (by unfold trimF; rw [if_neg (by simpa using h1), if_pos (Or.inr h3)])
        have h3' : (r.h.first : Int) + (r.es.length : Int) < before := by omega
        clear h1 he
        go_enter Tryd.func23, Tryd.ntmps23
        go_wp2_with (first
          | (go_at_call 24; refine (failed_any hO1.ring).mono ?_; rw [HFA.out]; rintro e w2 ⟨rfl, hw2⟩; obtain rfl := hw2.symm)
          | (go_at_call 14; refine (first_any hO1.ring).mono ?_; rintro e w2 ⟨rfl, hw2⟩; obtain rfl := hw2.symm)
          | (go_at_call 10; refine (next_any hO1.ring hO1.ok).mono ?_; rintro e w4 ⟨rfl, hk4⟩))
        go_ret
        exact ⟨by rw [HA.out]; rfl, by rw [HA.out]; exact h.same (((Keep.refl [] w).alloc _).then hk4)⟩
      · have h3' : ¬ (r.h.first : Int) + (r.es.length : Int) < before := by omega
        by_cases h4 : before = r.h.first
        · have HA : Hid (trimF d r before = (0, d, r)) := Lib.hid (by unfold trimF; rw [if_neg (by simpa using h1), if_neg (by omega), if_pos h4])
          have hb : (before == (r.h.first : Int)) = true := by simpa using h4
          clear h1 he h4
          go_enter Tryd.func23, Tryd.ntmps23
          go_wp2_with (first
            | (go_at_call 10; refine (next_any hO1.ring hO1.ok).mono ?_; rintro e w4 ⟨rfl, hk4⟩; replace hO1 := hO1.keep0 hk4; have c4 := (cell_row' (j := 0) (hk4.get (heap_alloc_new w (.cells #[.pointer (some ⟨p, 0, none⟩)] 26)) (by simp))).trans rfl)
            | (go_at_call 24; refine (failed_any hO1.ring).mono ?_; rw [HFA.out]; rintro e w2 ⟨rfl, hw2⟩; obtain rfl := hw2.symm)
            | (go_at_call 14; refine (first_any hO1.ring).mono ?_; rintro e w2 ⟨rfl, hw2⟩; obtain rfl := hw2.symm)
            )
          go_ret
          exact ⟨by rw [HA.out]; rfl, by rw [HA.out]; exact h.same (((Keep.refl [] w).alloc _).then hk4)⟩
        · have h5 : r.h.generation = 2147483647 := by
            rcases he with e | e | e | e
            · exact absurd h1 e
            · omega
            · omega
            · exact e
          have HA : Hid (trimF d r before = (9, d, r)) := Lib.hid (by unfold trimF; rw [if_neg (by simpa using h1), if_neg (by omega), if_neg h4, if_pos h5])
          have hb : (before == (r.h.first : Int)) = false := by simpa using h4
          have hgb : ((r.h.generation : Int) == 2147483647) = true := by rw [h5]; rfl
          clear h1 he h4 h5
          go_enter Tryd.func23, Tryd.ntmps23
          go_wp2_with (first
            | (go_at_call 10; refine (next_any hO1.ring hO1.ok).mono ?_; rintro e w4 ⟨rfl, hk4⟩; replace hO1 := hO1.keep0 hk4; have c4 := (cell_row' (j := 0) (hk4.get (heap_alloc_new w (.cells #[.pointer (some ⟨p, 0, none⟩)] 26)) (by simp))).trans rfl; have cg : w4.cell? ⟨p, 3, none⟩ = some (.int .i64 r.h.generation) := (cell_row' (j := 3) hO1.ring.row).trans rfl)
            | (go_at_call 24; refine (failed_any hO1.ring).mono ?_; rw [HFA.out]; rintro e w2 ⟨rfl, hw2⟩; obtain rfl := hw2.symm)
            | (go_at_call 14; refine (first_any hO1.ring).mono ?_; rintro e w2 ⟨rfl, hw2⟩; obtain rfl := hw2.symm)
            )
          go_ret
          exact ⟨by rw [HA.out]; rfl, by rw [HA.out]; exact h.same (((Keep.refl [] w).alloc _).then hk4)⟩
  · have HFA := Lib.hid (show r.failed = r.failed from rfl)
    have HA : Hid (trimF d r before = (r.failed, d, r)) := Lib.hid (by unfold trimF; rw [if_pos h1])
    have hb : (r.failed == 0) = false := by simpa using h1
    have hb' : (r.failed != 0) = true := by simpa using h1
    clear h1 he
    go_enter Tryd.func23, Tryd.ntmps23
    go_wp2_with (first
      | (go_at_call 24; refine (failed_any hO1.ring).mono ?_; rw [HFA.out]; rintro e w2 ⟨rfl, hw2⟩; obtain rfl := hw2.symm)
      | (go_at_call 14; refine (first_any hO1.ring).mono ?_; rintro e w2 ⟨rfl, hw2⟩; obtain rfl := hw2.symm)
      )
    go_ret
    exact ⟨by rw [HA.out]; rfl, by rw [HA.out]; exact h.same ((Keep.refl [] w).alloc _)⟩
end
end Go.Proofs.YtgopdbpddemplaaDoor
