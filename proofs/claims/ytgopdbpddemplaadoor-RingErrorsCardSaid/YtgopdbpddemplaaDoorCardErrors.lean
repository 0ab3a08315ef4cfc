/- RingErrors: the statement of her card. -/
import Derived.Test.YtgopdbpddemplaaDoorPart06
import Derived.Test.YtgopdbpddemplaaDoorPart32
import Derived.Test.YtgopdbpddemplaaDoorPart33
set_option linter.unusedSimpArgs false
set_option linter.unusedVariables false
namespace Go.Proofs.YtgopdbpddemplaaDoor.RingErrors
open Go.RowKit Go.ChangeShapes Go.WideShapes Go.ChangeAt

theorem errors_any (first count m0 m1 : Int) (w : World) (hG : Glob w) (hf1 : first ≤ 9223372036854775807) (hc1 : count ≤ 9223372036854775807) :
    Calls Tryd.prog 4 #[.int .i64 first, .int .i64 count, .agg #[.int .i64 m0, .int .i64 m1]] w fun e w' => e = .returned (.bool true) ∧ Keep [] w w' := by
  cases hdn : (m0.tmod 2 != 0) with
  | false =>
    by_cases h1 : first < 0
    · exact errors_a0 first count m0 m1 w hG hf1 hc1 (Lib.hid hdn) h1
    · by_cases h2 : count < 4
      · exact errors_b0 first count m0 m1 w hG hf1 hc1 (Lib.hid hdn) (by omega) h2
      · by_cases h3 : 20 - count < first
        · exact errors_c0 first count m0 m1 w hG hf1 hc1 (Lib.hid hdn) (by omega) (by omega) h3
        · exact errors_d0 first count m0 m1 w hG hf1 hc1 (Lib.hid hdn) (by omega) (by omega) (by omega)
  | true =>
    by_cases h1 : first < 0
    · exact errors_a1 first count m0 m1 w hG hf1 hc1 (Lib.hid hdn) h1
    · by_cases h2 : count < 4
      · exact errors_b1 first count m0 m1 w hG hf1 hc1 (Lib.hid hdn) (by omega) h2
      · by_cases h3 : 20 - count < first
        · exact errors_c1 first count m0 m1 w hG hf1 hc1 (Lib.hid hdn) (by omega) (by omega) h3
        · exact errors_d1 first count m0 m1 w hG hf1 hc1 (Lib.hid hdn) (by omega) (by omega) (by omega)

set_option maxRecDepth 100000 in
theorem contract (H : Type) (enc : TypeId × Value → H) (W : World) (base : Nat) (args : Array Value) (ds gs : List (DataW H)) (before : List MemPlace)
    (hval : ∀ (j : Nat) t v, Tryd.f4.params[j]? = some t → args[j]? = some v → Value.okWide Tryd.prog W .any base t v)
    (hW : DataW.Whole enc Tryd.prog Tryd.f4.params.toList Rows.ringErrorsSpec.vars false W args.toList ds gs before) (hL : laidMetH Tryd.prog Rows.ringErrorsRow.laid W) :
    Calls Tryd.prog 4 args W fun e W' => ∃ v, e = .returned v ∧ Rows.ringErrorsSpec.post enc Tryd.prog Tryd.f4 false true false false W args v W' := by
  have hW' := hW
  obtain ⟨p, q, hA0, hV, rfl, hfz, hnd⟩ := hW
  have hA : DataW.TrodAll enc Tryd.prog W 0 (fun _ => true) true Tryd.f4.params.toList args.toList ds p := hA0
  rw [Tryd.params4] at hA hval
  obtain ⟨v0, vs0, d0, ds0, p0, q0, hargs, rfl, rfl, h0, r0⟩ := trodAll_cons hA
  obtain ⟨v1, vs1, d1, ds1, p1, q1, rfl, rfl, rfl, h1, r1⟩ := trodAll_cons r0
  obtain ⟨v2, vs2, d2, ds2, p2, q2, rfl, rfl, rfl, h2, r2⟩ := trodAll_cons r1
  obtain ⟨rfl, rfl, rfl⟩ := trodAll_nil r2
  obtain rfl : args = #[v0, v1, v2] := by cases args; simp_all
  obtain ⟨rfl, rfl⟩ := trodVars_none hV
  have h2k := h2
  obtain ⟨first, rfl, rfl, rfl, wf0⟩ := open_int Tryd.underlying3 (hval 0 3 v0 rfl rfl) h0
  obtain ⟨count, rfl, rfl, rfl, wf1⟩ := open_int Tryd.underlying3 (hval 1 3 v1 rfl rfl) h1
  obtain ⟨m0, m1, rfl, wf2, wf3, rfl⟩ := open_pair Tryd.underlying45 Tryd.underlying3 (by kernel_rfl) (by kernel_rfl) (hval 2 45 v2 rfl rfl) h2
  clear hA0
  simp only [List.append_nil] at hW'
  have b0 := bounds_i64 wf0
  have b1 := bounds_i64 wf1
  refine (errors_any first count m0 m1 W (glob_of_laid hL) b0.2 b1.2).mono fun e W' ⟨he, hg⟩ => ?_
  subst he
  have hB := below_of_keep hg
  refine ⟨_, rfl, post_of_below (pa := []) (pv := []) hW' (fun _ _ _ => trodAll_cons_mk (shut_bool Tryd.underlying4 _) trodAll_mk0) (fun sp _ => trodAll_cons_mk (shut_int Tryd.underlying3 wf0) (trodAll_cons_mk (shut_int Tryd.underlying3 wf1) (trodAll_cons_mk (WideElems.Trod_stays laidOut (by kernel_rfl) (of_decide_eq_true (by kernel_rfl)) h2k (fun x hx => by cases hx) (fun x hx => by cases hx)) trodAll_mk0))) (fun _ _ => rfl) rfl
    hB (ok_one (by kernel_rfl) rfl (okWide_bool_mk Tryd.underlying4 _))⟩

abbrev wArgs : Array Value := #[.int .i64 0, .int .i64 0, .agg #[.int .i64 0, .int .i64 0]]
theorem laid_met (os : Os) : laidMet Tryd.prog Rows.ringErrorsRow.laid ((laidWorld os).forCall (fun _ _ => 0) ⟨#[], wArgs, []⟩).memory :=
  laidMet_of_run' 8 (by kernel_rfl) (by kernel_rfl)
theorem reads (os : Os) {H : Type} (enc : TypeId × Value → H) : ∃ places, DataW.whole enc Tryd.prog ((laidWorld os).forCall (fun _ _ => 0) ⟨#[], wArgs, []⟩).memory Tryd.f4.params.toList Rows.ringErrorsSpec.vars false wArgs.toList 8 = some ([.lit (.int .i64 0), .lit (.int .i64 0), .agg [.lit (.int .i64 0), .lit (.int .i64 0)]], [], places) :=
  ⟨[], by kernel_rfl⟩

set_option maxRecDepth 100000 in
theorem lifted (os : Os) (started : os.Started) (H : Type) (enc : TypeId × Value → H) (F : Stop.Interp) :
    ReturnsInHanded {} Tryd.checked os 4 .any ((OpenSpec.ofChange Rows.ringErrorsSpec).preRow enc Tryd.prog Tryd.f4 Rows.ringErrorsRow.domain false Rows.ringErrorsRow.laid) (((OpenSpec.ofChange Rows.ringErrorsSpec).at F).post enc Tryd.prog Tryd.f4 false true false false) := by
  obtain ⟨places, hx⟩ := reads os enc
  refine returnsInHanded_of_row (C := Tryd.checked) (s := OpenSpec.ofChange Rows.ringErrorsSpec) own started (by kernel_rfl) Tryd.func4
    (witness_row_at (enc := enc) (C := Tryd.checked) false (laidWorld os) wArgs rfl (by kernel_rfl) (by kernel_rfl) (by kernel_rfl)
      (OpenSpec.preRow_of_cond 8 hx (by kernel_rfl) (fun k hk => by cases hk) (by kernel_rfl) (laid_met os))) ?_
  intro W base args ds gs before hval hW _ _ _ hL _ _
  exact contract H enc W base args ds gs before hval hW hL

theorem said : Rows.RingErrorsSaid :=
  OpenClaim.holds_of_cond 4 Tryd.f4 rfl rfl rfl rfl rfl rfl rfl ⟨rfl, rfl, rfl, rfl, rfl⟩ rfl rfl rfl rfl rfl (by kernel_rfl) Tryd.func4 (by kernel_rfl)
    (of_decide_eq_true (by kernel_rfl)) (by unfold Func.isWrapper; first | (rw [if_pos (by decide +kernel)]; kernel_rfl) | (rw [if_neg (by decide +kernel)]; exact ⟨rfl, rfl⟩))
    (fun os started H enc _ F => by rw [OpenClaim.pre_eq_preRow]; exact lifted os started H enc F)

/-- No parameter wants a stand-in; the program's own looks are off. -/
theorem plain (f : FuncId) (fn : Func) (hf : Tryd.pinned.checked.prog.funcNamed "replevin/replevinlaw11.RingErrors" = some f) (hfn : Tryd.pinned.checked.prog.funcs[f]? = some fn) :
    false = Tryd.pinned.checked.prog.looks [] ∧ ∀ (j : Nat) t, fn.params[j]? = some t → Tryd.pinned.checked.prog.wantsStandIn t = false := by
  obtain rfl : f = 4 := Option.some.inj ((show Tryd.prog.funcNamed "replevin/replevinlaw11.RingErrors" = some 4 by kernel_rfl).symm.trans hf) |>.symm
  obtain rfl : fn = Tryd.f4 := (Option.some.inj (Tryd.func4.symm.trans hfn)).symm
  refine ⟨by kernel_rfl, fun j t ht => ?_⟩
  rw [Tryd.params4] at ht
  have hm : t ∈ #[3, 3, 45] := Array.mem_of_getElem? ht
  have ha : (#[3, 3, 45].all fun t => Tryd.prog.wantsStandIn t == false) = true := by kernel_rfl
  have h1 := Array.all_eq_true'.1 ha t hm
  have h2 : Tryd.prog.wantsStandIn t = false := by simpa using h1
  exact h2

/-- THE CARD. -/
theorem ringErrors_card : Rows.RingErrorsCardSaid :=
  Claim7.holds_tied_plain_at .later [] _ _ _ _ said (fun _ h => by cases h) (by kernel_rfl) (fun _ h => by cases h) ringErrors_row_tie rfl ⟨rfl, rfl⟩ (by kernel_rfl) rfl plain (by kernel_rfl)
#print axioms ringErrors_card
end Go.Proofs.YtgopdbpddemplaaDoor.RingErrors
