/- codec: parseNatural, Parse, Reader. -/
import Derived.Test.YtgopdbpddemplaaDoorPart09
set_option linter.unusedSimpArgs false
set_option linter.unusedVariables false
namespace Go.Proofs.YtgopdbpddemplaaDoor
section
/- codec: parseNatural, Parse, Reader. -/
open Go.RowKit

theorem results_tmps3 {P : Program} {fn : Func} {a b c : Tmp} (h : fn.results = #[.tmp a, .tmp b, .tmp c]) (tmps : Array Value) (w : World) :
    (results fn tmps).run P w = .ok (.tuple #[tmps.getD a undef, tmps.getD b undef, tmps.getD c undef]) w := by simp [results, h]

/-- the number in groups of seven bits -/
def val7 : List UInt8 → Nat
  | [] => 0
  | x :: xs => x.toNat % 128 + 128 * val7 xs
theorem val7_lt (l : List UInt8) : val7 l < 128 ^ l.length := by
  induction l with
  | nil => simp [val7]
  | cons x xs ih =>
    simp only [val7, List.length_cons, Nat.pow_succ]
    have := Nat.mod_lt x.toNat (show 128 > 0 by omega)
    omega
/-- how many of the first bytes say that more come, at most nine -/
def lead9 (b : List UInt8) : Nat := min 9 (b.takeWhile (fun x => decide (128 ≤ x.toNat))).length
theorem takeWhile_at (p : UInt8 → Bool) (b : List UInt8) (k : Nat) (hk : k < b.length) (h0 : ∀ i, i < k → p (b.getD i 0) = true) (h1 : p (b.getD k 0) = false) : (b.takeWhile p).length = k := by
  induction b generalizing k with
  | nil => simp at hk
  | cons x xs ih =>
    cases k with
    | zero => simp at h1; simp [List.takeWhile, h1]
    | succ k =>
      have hx : p x = true := by simpa using h0 0 (by omega)
      simp only [List.takeWhile, hx, List.length_cons]
      rw [ih k (by simpa using hk) (fun i hi => by simpa using h0 (i + 1) (by omega)) (by simpa using h1)]
theorem takeWhile_ge (p : UInt8 → Bool) (b : List UInt8) (k : Nat) (hk : k ≤ b.length) (h0 : ∀ i, i < k → p (b.getD i 0) = true) : k ≤ (b.takeWhile p).length := by
  induction b generalizing k with
  | nil => simpa using hk
  | cons x xs ih =>
    cases k with
    | zero => omega
    | succ k =>
      have hx : p x = true := by simpa using h0 0 (by omega)
      simp only [List.takeWhile, hx, List.length_cons]
      have := ih k (by simpa using hk) (fun i hi => by simpa using h0 (i + 1) (by omega))
      omega
/-- what Parse answers -/
def parseF (b : List UInt8) : Except Int (Nat × Nat) :=
  let n := lead9 b
  if n = 9 then .error 3
  else if n = b.length then .error 28
  else if 0 < n ∧ wd b n = 0 then .error 3
  else .ok (val7 (b.take (n + 1)), n + 1)
def parseV (k : IntKind) : Except Int (Nat × Nat) → Value
  | .error e => .tuple #[.int k 0, .int .i64 0, .int .i64 e]
  | .ok (n, s) => .tuple #[.int k n, .int .i64 s, .int .i64 0]
theorem parseF_lt {b : List UInt8} {n s : Nat} (h : parseF b = .ok (n, s)) : n < 9223372036854775808 ∧ 1 ≤ s ∧ s ≤ 9 ∧ s ≤ b.length := by
  have h9 : lead9 b ≤ 9 := Nat.min_le_left _ _
  have hl : lead9 b ≤ b.length := Nat.le_trans (Nat.min_le_right _ _) (List.takeWhile_sublist _).length_le
  unfold parseF at h
  simp only at h
  split at h
  · cases h
  · split at h
    · cases h
    · split at h
      · cases h
      · cases h
        refine ⟨Nat.lt_of_lt_of_le (val7_lt _) ?_, by omega, by omega, by omega⟩
        rw [List.length_take]
        exact Nat.le_trans (Nat.pow_le_pow_right (by omega) (show _ ≤ 9 by omega)) (by decide)

set_option maxRecDepth 100000 in
theorem and127_fin : ∀ m : Fin 256, bits .and .u8 ((m.1 : Nat) : Int) 127 = (m.1 : Int) % 128 := by decide
theorem and127 (x : UInt8) : bits .and .u8 (x.toNat : Int) 127 = (x.toNat : Int) % 128 := and127_fin ⟨x.toNat, x.toNat_lt⟩
theorem acc7 (u : Nat) (x : UInt8) (hu : u < 72057594037927936) : bits .or .u64 (IntKind.u64.wrap ((u : Int) * 128)) (IntKind.u64.wrap (bits .and .u8 (x.toNat : Int) 127)) = ((x.toNat % 128 + 128 * u : Nat) : Int) := by
  rw [and127]
  have hx := x.toNat_lt
  rw [wraps_u64 _ (by omega) (by omega), wraps_u64 _ (by omega) (by omega)]
  have h := bits_join .u64 64 (by decide) wraps_u64 7 ((u : Int) * 128) ((x.toNat : Int) % 128) (by omega) (by omega) (by omega) (by omega) (by omega) (by omega)
  rw [h]; omega
theorem val7_lt56 (b : List UInt8) (n j : Nat) (hj : 1 ≤ j) (hn : n < 9) : val7 ((b.take (n + 1)).drop j) < 72057594037927936 := by
  refine Nat.lt_of_lt_of_le (val7_lt _) ?_
  rw [List.length_drop, List.length_take]
  exact Nat.le_trans (Nat.pow_le_pow_right (by omega) (show _ ≤ 8 by omega)) (by decide)
theorem val7_step (b : List UInt8) (n i : Nat) (hi : i ≤ n) (hn : n < b.length) : val7 ((b.take (n + 1)).drop i) = (b.getD i 0).toNat % 128 + 128 * val7 ((b.take (n + 1)).drop (i + 1)) := by
  rw [List.drop_eq_getElem_cons (by rw [List.length_take]; omega)]
  simp [val7, List.getD_eq_getElem?_getD, show i < b.length by omega]

set_option maxRecDepth 100000 in
set_option maxHeartbeats 2000000 in
theorem parseNatural_any (v : Value) (b : List UInt8) (w : World) (hv : Reads w v b) (hlen : b.length ≤ 1000000000) :
    Calls Tryd.prog 85 #[v, .int .i64 9] w fun e w' => e = .returned (parseV .u64 (parseF b)) ∧ w' = w := by
  cases hv with
  | nil =>
    go_enter Tryd.func85, Tryd.ntmps85
    go_wp2
    go_loop [7] (fun i => i = .int .i64 0) (fun _ => 0)
    case atStart => rfl
    case round =>
      subst hrel
      go_wp2
      refine bodyPost_ret (results_tmps3 rfl _ _) rfl ⟨rfl, rfl⟩
  | «at» g off cap l hc h =>
    have HR := Lib.hid h
    clear h
    go_enter Tryd.func85, Tryd.ntmps85
    go_wp2
    go_loop [7] (fun i => ∃ k : Nat, i = .int .i64 k ∧ k ≤ 9 ∧ k ≤ b.length ∧ Hid (∀ i, i < k → 128 ≤ (b.getD i 0).toNat)) (fun i => 9 - (intOf i).toNat)
    case atStart => exact ⟨0, rfl, by omega, by omega, Lib.hid (fun i hi => by omega)⟩
    case round =>
      obtain ⟨k, rfl, hk9, hkb, HA⟩ := hrel
      by_cases c1 : k < b.length
      · have hc : w.cell? ⟨g, off + k, none⟩ = some (.int .u8 (wd b k)) := HR.out k c1
        by_cases c2 : k < 9
        · by_cases c3 : 128 ≤ wd b k
          · go_wp2
            go_round
            case rel => exact ⟨k + 1, rfl, by omega, by omega, Lib.hid (fun i hi => by rcases Nat.lt_succ_iff_lt_or_eq.1 hi with h | rfl; exact HA.out i h; unfold wd at c3; omega)⟩
            case measure => simp [intOf]; omega
          · have hp : parseF b = if 0 < k ∧ wd b k = 0 then .error 3 else .ok (val7 (b.take (k + 1)), k + 1) := by
              have hl : lead9 b = k := by
                unfold lead9
                rw [takeWhile_at _ b k c1 (fun i hi => by simpa using HA.out i hi) (by unfold wd at c3; simp only [List.getD_eq_getElem?_getD] at *; simp; omega)]
                omega
              unfold parseF
              simp only [hl]
              rw [if_neg (by omega), if_neg (by omega)]
            by_cases c4 : 0 < k
            · by_cases c5 : wd b k = 0
              · rw [if_pos ⟨c4, c5⟩] at hp
                go_wp2
                exact bodyPost_ret (results_tmps3 rfl _ _) rfl ⟨by first | rfl | (rw [hp]; rfl), rfl⟩
              · rw [if_neg (fun h => c5 h.2)] at hp
                go_wp2
                go_loop [8, 9] (fun u i => ∃ j : Nat, j ≤ k + 1 ∧ i = .int .i64 ((j : Int) - 1) ∧ u = .int .u64 (val7 ((b.take (k + 1)).drop j))) (fun _ i => (intOf i + 1).toNat)
                case atStart => exact ⟨k + 1, by omega, by first | rfl | (congr 1; omega), by rw [List.drop_eq_nil_of_le (by rw [List.length_take]; omega)]; rfl⟩
                case round =>
                  obtain ⟨j, hj, rfl, rfl⟩ := hrel
                  by_cases c6 : 0 < j
                  · have hc6 : w.cell? ⟨g, off + (j - 1), none⟩ = some (.int .u8 ((b.getD (j - 1) 0).toNat : Int)) := HR.out (j - 1) (by omega)
                    have e1 : ((j : Int) - 1).toNat = j - 1 := by omega
                    have e2 : (0 : Int) ≤ (j : Int) - 1 := by omega
                    have e3 : (j : Int) - 1 < b.length := by omega
                    have hv := val7_lt ((b.take (k + 1)).drop j)
                    go_wp2
                    go_round
                    case rel => exact ⟨j - 1, by omega, by congr 1; omega, by rw [← List.getD_eq_getElem?_getD, acc7 _ _ (val7_lt56 _ _ _ (by omega) (by omega)), val7_step b k (j - 1) (by omega) c1, Nat.sub_add_cancel c6]⟩
                    case measure => simp [intOf]; omega
                  · have hj0 : j = 0 := by omega
                    subst hj0
                    go_wp2
                    exact bodyPost_ret (results_tmps3 rfl _ _) rfl ⟨by first | rfl | (rw [hp]; rfl), rfl⟩
            · rw [if_neg (fun h => c4 h.1)] at hp
              have hk0 : k = 0 := by omega
              have hc' : w.cell? ⟨g, off, none⟩ = some (.int .u8 (wd b 0)) := by subst hk0; exact hc
              subst hk0
              go_wp2
              go_loop [8, 9] (fun u i => ∃ j : Nat, j ≤ 0 + 1 ∧ i = .int .i64 ((j : Int) - 1) ∧ u = .int .u64 (val7 ((b.take (0 + 1)).drop j))) (fun _ i => (intOf i + 1).toNat)
              case atStart => exact ⟨0 + 1, by omega, by first | rfl | (congr 1; omega), by rw [List.drop_eq_nil_of_le (by rw [List.length_take]; omega)]; rfl⟩
              case round =>
                obtain ⟨j, hj, rfl, rfl⟩ := hrel
                by_cases c6 : 0 < j
                · have hc6 : w.cell? ⟨g, off + (j - 1), none⟩ = some (.int .u8 ((b.getD (j - 1) 0).toNat : Int)) := HR.out (j - 1) (by omega)
                  have e1 : ((j : Int) - 1).toNat = j - 1 := by omega
                  have e2 : (0 : Int) ≤ (j : Int) - 1 := by omega
                  have e3 : (j : Int) - 1 < b.length := by omega
                  have hv := val7_lt ((b.take (0 + 1)).drop j)
                  go_wp2
                  go_round
                  case rel =>
                    have hj1 : j = 1 := by omega
                    subst hj1
                    refine ⟨0, by omega, by first | rfl | (congr 1; omega), ?_⟩
                    show Value.int .u64 (bits .or .u64 (IntKind.u64.wrap (((val7 ((b.take (0 + 1)).drop (0 + 1)) : Nat) : Int) * 128)) (IntKind.u64.wrap (bits .and .u8 (((b.getD 0 0).toNat : Nat) : Int) 127))) = _
                    rw [acc7 _ _ (val7_lt56 _ _ _ (by omega) (by omega)), ← val7_step b 0 0 (by omega) c1]
                  case measure => simp [intOf]; omega
                · have hj0 : j = 0 := by omega
                  subst hj0
                  go_wp2
                  exact bodyPost_ret (results_tmps3 rfl _ _) rfl ⟨by first | rfl | (rw [hp]; rfl), rfl⟩
        · have hk : k = 9 := by omega
          subst hk
          have hp : parseF b = .error 3 := by
            have hl : lead9 b = 9 := by
              unfold lead9
              have := takeWhile_ge (fun x => decide (128 ≤ x.toNat)) b 9 hkb (fun i hi => by simpa using HA.out i hi)
              omega
            unfold parseF
            simp only [hl]
            rw [if_pos trivial]
          go_wp2
          exact bodyPost_ret (results_tmps3 rfl _ _) rfl ⟨by first | rfl | (rw [hp]; rfl), rfl⟩
      · have hk : k = b.length := by omega
        by_cases c2 : k < 9
        · have hp : parseF b = .error 28 := by
            have hl : lead9 b = k := by
              unfold lead9
              have := takeWhile_ge (fun x => decide (128 ≤ x.toNat)) b k hkb (fun i hi => by simpa using HA.out i hi)
              have := (List.takeWhile_sublist (l := b) (fun x => decide (128 ≤ x.toNat))).length_le
              omega
            unfold parseF
            simp only [hl]
            rw [if_neg (by omega), if_pos hk]
          go_wp2
          exact bodyPost_ret (results_tmps3 rfl _ _) rfl ⟨by first | rfl | (rw [hp]; rfl), rfl⟩
        · have hk9' : k = 9 := by omega
          have hp : parseF b = .error 3 := by
            have hl : lead9 b = 9 := by
              unfold lead9
              have := takeWhile_ge (fun x => decide (128 ≤ x.toNat)) b k hkb (fun i hi => by simpa using HA.out i hi)
              omega
            unfold parseF
            simp only [hl]
            rw [if_pos trivial]
          subst hk9'
          go_wp2
          exact bodyPost_ret (results_tmps3 rfl _ _) rfl ⟨by first | rfl | (rw [hp]; rfl), rfl⟩

set_option maxRecDepth 100000 in
set_option maxHeartbeats 1000000 in
theorem parse_any (v : Value) (b : List UInt8) (w : World) (hv : Reads w v b) (hlen : b.length ≤ 1000000000) :
    Calls Tryd.prog 81 #[v] w fun e w' => e = .returned (parseV .i64 (parseF b)) ∧ w' = w := by
  obtain ⟨sa, sn, sc, rfl⟩ : ∃ a n c, v = .slice a n c := by cases hv with | nil => exact ⟨_, _, _, rfl⟩ | «at» => exact ⟨_, _, _, rfl⟩
  have HV := Lib.hid hv
  clear hv
  cases hp : parseF b with
  | error e0 =>
    go_enter Tryd.func81, Tryd.ntmps81
    go_wp2_with (go_at_call 85; refine (parseNatural_any _ b w HV.out hlen).mono ?_; rw [hp]; rintro e w1 ⟨rfl, rfl⟩; simp only [parseV])
    exact bodyPost_ret (results_tmps3 rfl _ _) rfl ⟨rfl, rfl⟩
  | ok r =>
    obtain ⟨n, s⟩ := r
    obtain ⟨h1, h2, h3, h4⟩ := parseF_lt hp
    go_enter Tryd.func81, Tryd.ntmps81
    go_wp2_with (go_at_call 85; refine (parseNatural_any _ b w HV.out hlen).mono ?_; rw [hp]; rintro e w1 ⟨rfl, rfl⟩; simp only [parseV])
    exact bodyPost_ret (results_tmps3 rfl _ _) rfl ⟨rfl, rfl⟩

/-- what Number's closure answers -/
def numF (most : Int) (b : List UInt8) : Except Int (Nat × Nat) :=
  match parseF b with
  | .error e => .error e
  | .ok (n, s) => if (n : Int) > most then .error 2 else .ok (n, s)

def numIs (r : Except Int (Nat × Nat)) (x y z : Int) : Prop := match r with | .error er => z = er ∧ er ≠ 0 | .ok (n, s) => x = n ∧ y = s ∧ z = 0

set_option maxRecDepth 100000 in
set_option maxHeartbeats 1000000 in
theorem number1_any (v : Value) (b : List UInt8) (mb : Nat) (most : Int) (w : World) (hv : Reads w v b) (hlen : b.length ≤ 1000000000) (hm : w.heap[mb]? = some (.cells #[.int .i64 most] 3 (0, 0))) :
    Calls Tryd.prog 80 #[v, .pointer (some ⟨mb, 0, none⟩)] w fun e w' => (∃ x y z, e = .returned (.tuple #[.int .i64 x, .int .i64 y, .int .i64 z]) ∧ numIs (numF most b) x y z) ∧ w' = w := by
  obtain ⟨sa, sn, sc, rfl⟩ : ∃ a n c, v = .slice a n c := by cases hv with | nil => exact ⟨_, _, _, rfl⟩ | «at» => exact ⟨_, _, _, rfl⟩
  have HV := Lib.hid hv
  have hc := cell_row' (j := 0) hm
  clear hv
  cases hp : parseF b with
  | error e0 =>
    have he : e0 ≠ 0 := by
      unfold parseF at hp
      simp only at hp
      repeat' split at hp
      all_goals first | (injection hp with hp; omega) | cases hp
    have he1 : (e0 == 0) = false := by simpa using he
    have HN : Hid (numF most b = .error e0) := Lib.hid (by unfold numF; rw [hp])
    go_enter Tryd.func80, Tryd.ntmps80
    go_wp2_with (go_at_call 81; refine (parse_any _ b w HV.out hlen).mono ?_; rw [hp]; rintro e w1 ⟨rfl, rfl⟩; simp only [parseV])
    exact bodyPost_ret (results_tmps3 rfl _ _) rfl ⟨⟨_, _, _, rfl, by rw [HN.out]; exact ⟨rfl, he⟩⟩, rfl⟩
  | ok r =>
    obtain ⟨n, s⟩ := r
    obtain ⟨h1, h2, h3, h4⟩ := parseF_lt hp
    by_cases c : (n : Int) > most
    · have HN : Hid (numF most b = .error 2) := Lib.hid (by unfold numF; rw [hp]; simp [c])
      go_enter Tryd.func80, Tryd.ntmps80
      go_wp2_with (go_at_call 81; refine (parse_any _ b w HV.out hlen).mono ?_; rw [hp]; rintro e w1 ⟨rfl, rfl⟩; simp only [parseV])
      exact bodyPost_ret (results_tmps3 rfl _ _) rfl ⟨⟨_, _, _, rfl, by rw [HN.out]; exact ⟨rfl, by decide⟩⟩, rfl⟩
    · have HN : Hid (numF most b = .ok (n, s)) := Lib.hid (by unfold numF; rw [hp]; simp; omega)
      have c' : (n : Int) ≤ most := by omega
      go_enter Tryd.func80, Tryd.ntmps80
      go_wp2_with (go_at_call 81; refine (parse_any _ b w HV.out hlen).mono ?_; rw [hp]; rintro e w1 ⟨rfl, rfl⟩; simp only [parseV])
      exact bodyPost_ret (results_tmps3 rfl _ _) rfl ⟨⟨_, _, _, rfl, by rw [HN.out]; exact ⟨rfl, rfl, rfl⟩⟩, rfl⟩

theorem Reads.drop {w : World} {g off cap : Nat} {l : List UInt8} (h : Reads w (.slice (some ⟨g, off, none⟩) l.length cap) l) (s : Nat) (hs : s ≤ l.length) : Reads w (.slice (some ⟨g, off + s, none⟩) (l.length - s) (cap - s)) (l.drop s) := by
  generalize hq : Value.slice (some ⟨g, off, none⟩) l.length cap = v at h
  cases h with
  | nil => cases hq
  | «at» g' off' cap' _ hc h =>
    injection hq with e1 e2 e3
    injection e1 with e1
    injection e1 with e4 e5
    subst e4 e5 e3
    have := Reads.at (w := w) g (off + s) (cap - s) (l.drop s) (by simp; omega) (fun i hi => by
      have := h (s + i) (by simp at hi; omega)
      rw [Nat.add_assoc, this]
      simp [List.getD_eq_getElem?_getD])
    simpa using this
theorem Reads.dropAll {w : World} {g off cap : Nat} {l : List UInt8} {s : Nat} (h : Reads w (.slice (some ⟨g, off, none⟩) l.length cap) l) (hs : s ≤ l.length) (hc : cap = s) : Reads w (.slice (some ⟨g, off, none⟩) (l.length - s) 0) (l.drop s) := by
  generalize hq : Value.slice (some ⟨g, off, none⟩) l.length cap = v at h
  cases h with
  | nil => cases hq
  | «at» g' off' cap' _ hc' h =>
    injection hq with e1 e2 e3
    injection e1 with e1
    injection e1 with e4 e5
    subst e4 e5 e3
    have hl : l.length = s := by omega
    have := Reads.at (w := w) g off 0 (l.drop s) (by simp; omega) (fun i hi => by simp at hi; omega)
    simpa using this
theorem numF_lt {most : Int} {b : List UInt8} {n s : Nat} (h : numF most b = .ok (n, s)) : n < 9223372036854775808 ∧ 1 ≤ s ∧ s ≤ 9 ∧ s ≤ b.length := by
  unfold numF at h
  split at h
  · cases h
  · split at h
    · cases h
    · cases h
      exact parseF_lt (by assumption)
/-- a Reader: what is left, its error -/
def ReaderAt (w : World) (p : Nat) (l : List UInt8) (e : Int) : Prop := ∃ v n, w.heap[p]? = some (.cells #[v, .int .i64 n, .int .i64 e] 130 (0, 0)) ∧ Reads w v l ∧ v.ownBlock ≠ some p
def rdNum (most : Int) (s : List UInt8 × Int) : Int × List UInt8 × Int :=
  if s.2 ≠ 0 then (0, s) else match numF most s.1 with | .error er => (0, s.1, er) | .ok (n, k) => (n, s.1.drop k, 0)

set_option maxRecDepth 100000 in
set_option maxHeartbeats 1000000 in
theorem read_any (p mb : Nat) (l : List UInt8) (e0 most : Int) (w : World) (hR : ReaderAt w p l e0) (hlen : l.length ≤ 1000000000) (hm : w.heap[mb]? = some (.cells #[.int .i64 most] 3 (0, 0))) (hmp : mb ≠ p) :
    Calls Tryd.prog 79 #[.pointer (some ⟨p, 0, none⟩), .func (.func 80) #[] #[.pointer (some ⟨mb, 0, none⟩)]] w fun e w' => e = .returned (.int .i64 (rdNum most (l, e0)).1) ∧ ReaderAt w' p (rdNum most (l, e0)).2.1 (rdNum most (l, e0)).2.2 ∧ Keep [p] w w' := by
  obtain ⟨v, n, hp, hv, hvp⟩ := hR
  have hc0 := cell_row' (j := 0) hp
  have hc1 := cell_row' (j := 1) hp
  have hc2 := cell_row' (j := 2) hp
  by_cases he : e0 = 0
  · subst he
    have HN := Lib.hid hv
    have hvp' := Lib.hid hvp
    cases hn : numF most l with
    | error er =>
      have hr : Hid (rdNum most (l, 0) = (0, l, er)) := Lib.hid (by unfold rdNum; rw [if_neg (by simp)]; simp only; rw [hn])
      obtain ⟨sa, sn, sc, rfl⟩ : ∃ a n c, v = .slice a n c := by cases hv with | nil => exact ⟨_, _, _, rfl⟩ | «at» => exact ⟨_, _, _, rfl⟩
      clear hv hvp
      have hfr := frozen_row' (j := 2) hp
      go_enter Tryd.func79, Tryd.ntmps79
      go_wp2_with (go_at_call 80; refine (number1_any _ l mb most w HN.out hlen hm).mono ?_; rw [hn]; rintro e w1 ⟨⟨x, y, z, rfl, hz, hz2⟩, rfl⟩; have hzb : (z == 0) = false := by rw [hz]; simpa using hz2)
      go_ret
      have hk : Keep [p] w1 (w1.setCell ⟨p, 2, none⟩ (.int .i64 er)) := (Keep.refl _ _).setCell (by simp) _
      exact ⟨by rw [hr.out]; rfl, by rw [hr.out]; exact ⟨_, n, heap_setCell_same w1 p 2 _ _ (.int .i64 er) hp, HN.out.keep hk (fun x hx => by rw [List.mem_singleton.1 hx]; exact hvp'.out), hvp'.out⟩, hk⟩
    | ok r =>
      obtain ⟨m, s⟩ := r
      have hr : Hid (rdNum most (l, 0) = ((m : Int), l.drop s, 0)) := Lib.hid (by unfold rdNum; rw [if_neg (by simp)]; simp only; rw [hn])
      obtain ⟨h1, h2, h3, h4⟩ := numF_lt hn
      clear hvp
      cases hv with
      | nil => simp at h4; omega
      | «at» g off cap l hcap h =>
        clear h
        have hfr0 := frozen_row' (j := 0) hp
        have hfr1 := frozen_row' (j := 1) hp
        go_enter Tryd.func79, Tryd.ntmps79
        go_wp2_with (go_at_call 80; refine (number1_any _ l mb most w HN.out hlen hm).mono ?_; rw [hn]; rintro e w1 ⟨⟨x, y, z, rfl, hx, hy, hz⟩, rfl⟩; subst hx; subst hy; subst hz)
        · go_ret
          have hh1 := heap_setCell_same w1 p 0 _ _ (.slice (some ⟨g, off, none⟩) (l.length - s) 0) hp
          have hh2 := heap_setCell_same _ p 1 _ _ (.int .i64 (wrap64 (n + s))) hh1
          have hk : Keep [p] w1 ((w1.setCell ⟨p, 0, none⟩ (.slice (some ⟨g, off, none⟩) (l.length - s) 0)).setCell ⟨p, 1, none⟩ (.int .i64 (wrap64 (n + s)))) := ((Keep.refl _ _).setCell (by simp) _).setCell (by simp) _
          exact ⟨by rw [hr.out]; rfl, by rw [hr.out]; exact ⟨_, _, hh2, (HN.out.dropAll h4 (by omega)).keep hk (fun x hx => by rw [List.mem_singleton.1 hx]; exact hvp'.out), hvp'.out⟩, hk⟩
        · go_ret
          have hh1 := heap_setCell_same w1 p 0 _ _ (.slice (some ⟨g, off + s, none⟩) (l.length - s) (cap - s)) hp
          have hh2 := heap_setCell_same _ p 1 _ _ (.int .i64 (wrap64 (n + s))) hh1
          have hk : Keep [p] w1 ((w1.setCell ⟨p, 0, none⟩ (.slice (some ⟨g, off + s, none⟩) (l.length - s) (cap - s))).setCell ⟨p, 1, none⟩ (.int .i64 (wrap64 (n + s)))) := ((Keep.refl _ _).setCell (by simp) _).setCell (by simp) _
          exact ⟨by rw [hr.out]; rfl, by rw [hr.out]; exact ⟨_, _, hh2, (HN.out.drop s h4).keep hk (fun x hx => by rw [List.mem_singleton.1 hx]; exact hvp'.out), hvp'.out⟩, hk⟩
  · have heq : (e0 == 0) = false := by simpa using he
    have hr : rdNum most (l, e0) = (0, l, e0) := by unfold rdNum; rw [if_pos (by simpa using he)]
    go_enter Tryd.func79, Tryd.ntmps79
    go_wp2
    go_ret
    exact ⟨by rw [hr]; rfl, by rw [hr]; exact ⟨v, n, hp, hv, hvp⟩, Keep.refl _ _⟩

set_option maxRecDepth 100000 in
set_option maxHeartbeats 1000000 in
theorem rnumber_any (p : Nat) (l : List UInt8) (e0 most : Int) (w : World) (hR : ReaderAt w p l e0) (hlen : l.length ≤ 1000000000) :
    Calls Tryd.prog 70 #[.pointer (some ⟨p, 0, none⟩), .int .i64 most] w fun e w' => e = .returned (.int .i64 (rdNum most (l, e0)).1) ∧ ReaderAt w' p (rdNum most (l, e0)).2.1 (rdNum most (l, e0)).2.2 ∧ Keep [p] w w' := by
  have hpl : p < w.heap.size := by obtain ⟨v, n, hp, _⟩ := hR; exact lt_of_heap hp
  have hK0 : Keep [] w (w.alloc (.cells #[.int .i64 most] 3)) := (Keep.refl _ _).alloc _
  have hR1 : ReaderAt (w.alloc (.cells #[.int .i64 most] 3)) p l e0 := by
    obtain ⟨v, n, hp, hv, hn⟩ := hR
    exact ⟨v, n, hK0.get hp (by simp), hv.keep hK0 (by simp), hn⟩
  go_enter Tryd.func70, Tryd.ntmps70
  go_wp2_with (go_at_call 79; refine (read_any p w.heap.size l e0 most _ hR1 hlen (heap_alloc_new w _) (by omega)).mono ?_; rintro e w1 ⟨rfl, hR2, hk2⟩)
  go_ret
  exact ⟨rfl, hR2, (hK0.mono (F' := [p]) (by simp)).trans hk2 (by simp)⟩

set_option maxHeartbeats 1000000 in
theorem newReader_any (v : Value) (l : List UInt8) (w : World) (hv : Reads w v l) (hlen : l.length ≤ 1000000000) :
    Calls Tryd.prog 69 #[v] w fun e w' => ∃ p, e = .returned (.pointer (some ⟨p, 0, none⟩)) ∧ w.heap.size ≤ p ∧ ReaderAt w' p l 0 ∧ Keep [] w w' := by
  obtain ⟨sa, sn, sc, rfl⟩ : ∃ a n c, v = .slice a n c := by cases hv with | nil => exact ⟨_, _, _, rfl⟩ | «at» => exact ⟨_, _, _, rfl⟩
  have HV := Lib.hid hv
  clear hv
  go_enter Tryd.func69, Tryd.ntmps69
  go_wp2_with (go_at_call 74; refine (cloneb_any _ l w HV.out hlen).mono ?_; rintro e w1 ⟨v1, rfl, hB1, hk1⟩; obtain ⟨ta, tn, tc, rfl⟩ := hB1.isSlice)
  go_ret
  refine ⟨_, rfl, hk1.size, ⟨_, _, heap_alloc_new w1 _, hB1.reads.keep ((Keep.refl [] w1).alloc _) (by simp), fun h => ?_⟩, hk1.alloc _⟩
  have := (hB1.lt _ h).2
  omega

set_option maxHeartbeats 1000000 in
theorem close_any (p : Nat) (l : List UInt8) (e0 : Int) (w : World) (hR : ReaderAt w p l e0) :
    Calls Tryd.prog 71 #[.pointer (some ⟨p, 0, none⟩)] w fun e w' => e = .returned (.int .i64 (if e0 ≠ 0 then e0 else if l = [] then 0 else 5)) ∧ w' = w := by
  obtain ⟨v, n, hp, hv, hvp⟩ := hR
  have hc0 := cell_row' (j := 0) hp
  have hc2 := cell_row' (j := 2) hp
  by_cases he : e0 = 0
  · subst he
    cases hv with
    | nil =>
      go_enter Tryd.func71, Tryd.ntmps71
      go_wp2
      go_ret
      exact ⟨by simp, rfl⟩
    | «at» g off cap l hc h =>
      clear h
      by_cases hl : l = []
      · subst hl
        go_enter Tryd.func71, Tryd.ntmps71
        go_wp2
        go_ret
        exact ⟨by simp, rfl⟩
      · have hl0 : 0 < l.length := List.length_pos_iff.2 hl
        have HL := Lib.hid hl
        clear hl
        go_enter Tryd.func71, Tryd.ntmps71
        go_wp2
        go_ret
        exact ⟨by simp [HL.out], rfl⟩
  · have heq : (e0 == 0) = false := by simpa using he
    go_enter Tryd.func71, Tryd.ntmps71
    go_wp2
    go_ret
    exact ⟨by simp [he], rfl⟩
end
end Go.Proofs.YtgopdbpddemplaaDoor
