/- 'chandlerlaw20.ExplainCauses' holds, as its tied card says it: for any packages and any relation that can be read as data, whatever lies in memory. Conditions: those of the given row alone (the two tables of unicode/utf8 that it lists hold what the program's text lays). -/
import Derived.Test.YtnblgnafgdmcaaaGreatDoorCards
import Derived.Test.YtnblgnafgdmcaaaGreatDoorTie
import Derived.Test.YtnblgnafgdmcaaaGreatDoorWbx
import Derived.Test.YtnblgnafgdmcaaaGreatDoorWby
import Derived.Test.YtnblgnafgdmcaaaGreatDoorWbz
section
set_option linter.unusedSimpArgs false
set_option linter.unusedVariables false
namespace Go.Proofs.YtnblgnafgdmcaaaGreatDoor
open Go Go.Av Go.ChangeShapes Go.WideShapes Go.ChangeAt Go.RowKit
set_option maxRecDepth 100000
namespace ExplainCauses
theorem contract (H : Type) (enc : TypeId × Value → H) (W : World) (base : Nat) (args : Array Value) (ds gs : List (DataW H)) (before : List MemPlace) (vt : List TypeId)
    (hval : ∀ (j : Nat) t v, Tryz.f7.params[j]? = some t → args[j]? = some v → Value.okWide Tryz.prog W .any base t v)
    (hW : DataW.Whole enc Tryz.prog Tryz.f7.params.toList Rows.explainCausesSpec.vars false W args.toList ds gs before)
    (hwt : (DataW.weightsEach Tryz.prog (Tryz.f7.params.toList ++ vt) (ds ++ gs)).all (· ≤ reachBytes) = true) :
    Calls Tryz.prog 7 args W fun e W' => ∃ v, e = .returned v ∧ Rows.explainCausesSpec.post enc Tryz.prog Tryz.f7 false true false false W args v W' := by
  refine law_contract (m := 12) (tb := 4) Tryz.func7 rfl laidOutP (by kernel_rfl) (by kernel_rfl) (by kernel_rfl) (by kernel_rfl) rfl (fun ds hd => ?_) hval hW hwt fun xs hl ha => ?_
  · have hd : ds.length = 2 := hd
    obtain _ | ⟨_, _ | ⟨_, _ | _⟩⟩ := ds <;> simp at hd
    rfl
  · have hl : xs.length = 2 := hl
    obtain _ | ⟨a0, _ | ⟨a1, _ | _⟩⟩ := xs <;> simp at hl
    obtain ⟨all, rfl, _, hp⟩ := Tryz.ofT_pkgs (n := 6) (ha 0 22 a0 (by kernel_rfl) rfl)
    obtain ⟨odd, rfl⟩ := Tryz.ofT_cause (n := 10) (ha 1 40 a1 (by kernel_rfl) rfl)
    exact Tryz.l20_causes all hp odd

noncomputable def wargs : Array Value := #[.slice none 0 0, .agg #[.int .i64 0, .int .i64 0, .int .i64 0]]
theorem laid_met (os : Os) : laidMetH Tryz.prog Rows.explainCausesRow.laid ((laidWorld os).forCall (fun _ _ => 0) ⟨#[], wargs, []⟩).memory :=
  laidMet_of_run' 8 (by kernel_rfl) (by kernel_rfl)
theorem reads (os : Os) {H : Type} (enc : TypeId × Value → H) : ∃ places, DataW.whole enc Tryz.prog ((laidWorld os).forCall (fun _ _ => 0) ⟨#[], wargs, []⟩).memory Tryz.f7.params.toList Rows.explainCausesSpec.vars false wargs.toList 8 = some ([.nil, .agg [.lit (.int .i64 0), .lit (.int .i64 0), .lit (.int .i64 0)]], [], places) :=
  ⟨[], by kernel_rfl⟩
theorem lifted (os : Os) (started : os.Started) (H : Type) (enc : TypeId × Value → H) (F : Stop.Interp) :
    ReturnsInHanded {} Tryz.checked os 7 .any ((OpenSpec.ofChange Rows.explainCausesSpec).preRow enc Tryz.prog Tryz.f7 Rows.explainCausesRow.domain false Rows.explainCausesRow.laid) (((OpenSpec.ofChange Rows.explainCausesSpec).at F).post enc Tryz.prog Tryz.f7 false true false false) := by
  obtain ⟨places, hx⟩ := reads os enc
  refine returnsInHanded_of_row (C := Tryz.checked) (s := OpenSpec.ofChange Rows.explainCausesSpec) ownK started (by kernel_rfl) Tryz.func7
    (witness_row_at (enc := enc) (C := Tryz.checked) false (laidWorld os) wargs rfl (by kernel_rfl) (by kernel_rfl) (by kernel_rfl)
      (OpenSpec.preRow_of_cond 8 hx (by kernel_rfl) (fun k hk => by cases hk) (by kernel_rfl) (laid_met os))) ?_
  intro W base args ds gs before hval hW _ _ hwt _ _ _
  exact contract H enc W base args ds gs before _ hval hW hwt
theorem said : Rows.ExplainCausesSaid :=
  OpenClaim.holds_of_cond 7 Tryz.f7 rfl rfl rfl rfl rfl rfl rfl ⟨rfl, rfl, rfl, rfl, rfl⟩ rfl rfl rfl rfl rfl (by kernel_rfl) Tryz.func7 (by kernel_rfl)
    (of_decide_eq_true (by kernel_rfl)) (by unfold Func.isWrapper; first | (rw [if_pos (by decide +kernel)]; kernel_rfl) | (rw [if_neg (by decide +kernel)]; exact ⟨rfl, rfl⟩))
    (fun os started H enc _ F => by rw [OpenClaim.pre_eq_preRow]; exact lifted os started H enc F)
theorem plain (f : FuncId) (fn : Func) (hf : Tryz.pinned.checked.prog.funcNamed Rows.explainCausesRow.func = some f) (hfn : Tryz.pinned.checked.prog.funcs[f]? = some fn) :
    false = Tryz.pinned.checked.prog.looks [] ∧ ∀ (j : Nat) t, fn.params[j]? = some t → Tryz.pinned.checked.prog.wantsStandIn t = false := by
  obtain rfl : f = 7 := Option.some.inj ((show Tryz.prog.funcNamed Rows.explainCausesRow.func = some 7 by kernel_rfl).symm.trans hf) |>.symm
  obtain rfl : fn = Tryz.f7 := (Option.some.inj (Tryz.func7.symm.trans hfn)).symm
  refine ⟨by kernel_rfl, fun j t ht => ?_⟩
  have := List.all_eq_true.1 (show Tryz.f7.params.toList.all (fun t => !Tryz.prog.wantsStandIn t) = true by kernel_rfl) t (List.mem_of_getElem? (by simpa using ht))
  show Tryz.prog.wantsStandIn t = false
  simpa using this
theorem card : Rows.ExplainCausesCardSaid :=
  Claim7.holds_tied_plain_at .later [] _ _ _ _ said (fun _ h => by cases h) (by kernel_rfl) (fun _ h => by cases h) explainCauses_row_tie rfl ⟨rfl, rfl⟩ (by kernel_rfl) rfl plain (by kernel_rfl)
end ExplainCauses
end Go.Proofs.YtnblgnafgdmcaaaGreatDoor
end
