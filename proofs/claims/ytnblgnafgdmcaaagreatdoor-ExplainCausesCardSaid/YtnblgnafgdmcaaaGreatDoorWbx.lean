/- Texts that the last one of this claim rests on: a layer over the guide's own conditions for code; contracts of the functions that the law reaches, one by one. No conditions beside those of the given rows. -/
import Derived.Test.YtnblgnafgdmcaaaGreatDoorWbt
import Derived.Test.YtnblgnafgdmcaaaGreatDoorWbw
section
set_option linter.unusedSimpArgs false
set_option linter.unusedVariables false
namespace Go.Proofs.Tryz
open Go Go.Av
set_option maxRecDepth 10000
set_option linter.unusedSimpArgs false
set_option linter.unusedVariables false
variable {W0 : World}

theorem l20_causes (all : List Pkg) (hp : ∀ p ∈ all, PkgR p) (odd : Int × Int × Int) : PureFn prog W0 7 [pkgsAV all, causeI odd] (.bool true) := by
  refine fn_pure [4] [3, 9] func7 rfl rfl ntmps7 rfl rfl (.bool _) fun hs σ => ?_
  simp only [go_sem, simprocAttr, ↓reduceIte, causeI]
  refine CallA.fn (l20_light all hp) ?_
  simp only [go_sem, simprocAttr, ↓reduceIte]
  refine ⟨fun _ => CallA.fn l20_awake ?_, fun hla => ?_⟩
  · simp only [go_sem, simprocAttr, ↓reduceIte]
    done
  have h26 := light_len hla
  have hc1 := ex_causes (W0 := W0) all (light_may hla) h26
  refine CallA.fn hc1 ?_
  by_cases h0 : mayAll all = 0
  case neg =>
    rw [if_neg h0]
    simp only [go_sem, simprocAttr, ↓reduceIte]
    refine CallA.fn (r9_mayAll all) ?_
    simp only [go_sem, simprocAttr, ↓reduceIte]
    refine ⟨fun _ => CallP.fnG (fun _ => l20_awake) ?_, fun h => absurd h h0⟩
    simp only [go_sem, simprocAttr, ↓reduceIte]
    done
  rw [if_pos h0]
  have hm : ∀ p ∈ all, mayPkg p = 0 := fun p hp => mayAll_pkg h0 hp
  have hrc := r10_causes (W0 := W0) all hm h26
  have hcl := causesA_len hm all.length
  generalize causesA all all.length = C at hcl hrc
  simp only [go_sem, simprocAttr, ↓reduceIte, causesAV]
  refine CallA.fn (r9_mayAll all) ?_
  rw [h0]
  simp only [go_sem, simprocAttr, ↓reduceIte]
  refine ⟨.of (by kernel_rfl), ?_⟩
  refine CallP.fnG (fun _ => hrc) ?_
  simp only [go_sem, simprocAttr, ↓reduceIte]
  refine CallP.fnG (fun _ => l20_same C C) ?_
  simp only [go_sem, simprocAttr, ↓reduceIte]
  refine CallP.fnG (fun _ => ex_text all hm odd) ?_
  simp only [go_sem, simprocAttr, ↓reduceIte]
  refine CallP.fnG (fun _ => r10_text all hm odd) ?_
  simp only [go_sem, simprocAttr, ↓reduceIte]
  refine LoopVC.at [] (.of (by kernel_rfl)) (fun A => Ext σ A.st) ?_ fun B hst => ?_
  · refine LoopVC.upto [0, 52, 53] (.of (by kernel_rfl)) C.length (fun b A => A.env 54 = .int .i64 b ∧ Ext σ A.st) 0 (Nat.zero_le _) ?_ fun b B hb ⟨h54, hst⟩ => ?_
    · simp only [go_sem, simprocAttr, ↓reduceIte]
      exact .refl _
    simp only [go_sem, simprocAttr, ↓reduceIte, h54, List.length_map]
    refine ⟨fun hb2 => ⟨hb2, ?_⟩, fun hb2 => hst⟩
    obtain ⟨c, hc⟩ := get_some hb2
    have e1 := ex_text (W0 := W0) all hm (natI c)
    have e2 := r10_text (W0 := W0) all hm (natI c)
    have e3 : causeI (natI c) = causeAV c := rfl
    rw [e3] at e1 e2
    simp only [go_sem, simprocAttr, ↓reduceIte, h54, atV_map hc, causeAV]
    refine ⟨.of (by kernel_rfl), CallP.fn e1 ?_⟩
    simp only [go_sem, simprocAttr, ↓reduceIte, h54]
    refine CallP.fn e2 ?_
    simp only [go_sem, simprocAttr, ↓reduceIte, h54]
    exact ⟨hb2, int_succ hb2 (by rw [maxLen_eq]; omega), hst.app _⟩
  simp only [go_sem, simprocAttr, ↓reduceIte]
  refine CallA.fn l20_awake ?_
  simp only [go_sem, simprocAttr, ↓reduceIte]
  exact hst
end Go.Proofs.Tryz
end
