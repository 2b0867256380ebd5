/- chandlerlaw18.BestBudget: a budget: for any universe, entries, request, any two numbers the law returns true, and each argument reads behind the call as it read before. No conditions. -/
import Derived.Lib.LaidU8
import Derived.PinnedBridge
import Derived.Test.YtbooehmmhbioaaaGreatDoorCards
import Derived.Test.YtbooehmmhbioaaaGreatDoorTie
import Derived.Test.YtbooehmmhbioaaaGreatDoorWan
import Derived.Test.YtbooehmmhbioaaaGreatDoorWbc
import Derived.Test.YtbooehmmhbioaaaGreatDoorWbd
set_option linter.unusedSimpArgs false
set_option linter.unusedVariables false
section
namespace Go.Proofs.YtbooehmmhbioaaaGreatDoor
open Go Go.Av Go.ChangeShapes Go.WideShapes Go.ChangeAt Go.RowKit Go.Proofs
set_option maxRecDepth 100000
theorem I3 {laid : List (String × DataW Unit)} {W : World} (hL : laidMet Tryz.prog laid W) (h1 : ("math/bits.deBruijn32tab", Rows.laid_math_bits_deBruijn32tab) ∈ laid) : Tryz.rA W := ⟨fun i hi => by
 obtain ⟨g,t,cs,fuel,p,hg,hty,hvar,hd⟩:=Lib.laidMet.reads hL h1
 have e1 : Tryz.prog.globalNamed "math/bits.deBruijn32tab" = some 0 := by kernel_rfl
 obtain rfl:=Option.some.inj (e1.symm.trans hg)
 have e2 : (Tryz.prog.globals[0]?).map (·.type) = some 260:=by kernel_rfl
 obtain rfl:=Option.some.inj (e2.symm.trans hty)
 have hcs:=Lib.cells_of_tab (e:=5) (n:=32) (k:=.u8) (zs:=CS.map fun (n : Nat)=>(n : Int)) (by kernel_rfl) (by kernel_rfl) (by kernel_rfl) (by kernel_rfl) (show _ = some (Lib.tabData .u8 _,p) from hd)
 rw [World.var?_cell hg hvar i,← Array.getElem?_toList,hcs,List.map_map,List.getElem?_map]
 obtain ⟨x,hx⟩:=get_some (show i < CS.length from hi)
 rw [hx]
 rfl⟩
noncomputable def n9 (os : Os) : World :=
 { vF os with heap:=(vF os).heap.modify 0 (wP [0,1,28,2,29,14,24,3,30,22,20,15,25,17,4,8,31,27,13,23,21,19,16,7,26,12,18,6,11,5,10,9]) }
end Go.Proofs.YtbooehmmhbioaaaGreatDoor
end
section
namespace Go.Proofs.YtbooehmmhbioaaaGreatDoor
open Go Go.Av Go.ChangeShapes Go.WideShapes Go.ChangeAt Go.RowKit
set_option maxRecDepth 100000
namespace BestBudget
theorem F0 (H : Type) (enc : TypeId × Value → H) (W : World) (base : Nat) (args : Array Value) (ds gs : List (DataW H)) (before : List MemPlace) (vt : List TypeId)
  (hval : ∀ (j : Nat) t v,Tryz.f6.params[j]? = some t → args[j]? = some v → Value.okWide Tryz.prog W .any base t v)
  (hW : DataW.Whole enc Tryz.prog Tryz.f6.params.toList Rows.bestBudgetSpec.vars false W args.toList ds gs before)
  (hwt : (DataW.weightsEach Tryz.prog (Tryz.f6.params.toList ++ vt) (ds ++ gs)).all (· ≤ reachBytes) = true) (hT : Tryz.rA W) :
  Calls Tryz.prog 6 args W fun e W'=>∃ v,e = .returned v ∧ Rows.bestBudgetSpec.post enc Tryz.prog Tryz.f6 false true false false W args v W':=by
 refine wH (m:=12) (tb:=4) Tryz.func6 rfl E3 (by kernel_rfl) (by kernel_rfl) (by kernel_rfl) (by kernel_rfl) rfl (fun ds hd=>?_) hval hW hwt fun xs hl ha=>?_
 ·have hd : ds.length = 5:=hd
  obtain _ | ⟨_,_ | ⟨_,_ | ⟨_,_ | ⟨_,_ | ⟨_,_ | _⟩⟩⟩⟩⟩:=ds <;> simp at hd
  rfl
 ·have hl : xs.length = 5:=hl
  obtain _ | ⟨a0,_ | ⟨a1,_ | ⟨a2,_ | ⟨a3,_ | ⟨a4,_ | _⟩⟩⟩⟩⟩:=xs <;> simp at hl
  obtain ⟨all,rfl,_,hp⟩:=Tryz.GJ (n:=6) (ha 0 22 a0 (by kernel_rfl) rfl)
  obtain ⟨s,rfl,hsl,hsp⟩:=Tryz.GV (n:=5) (ha 1 23 a1 (by kernel_rfl) rfl)
  obtain ⟨l,rfl⟩:=Tryz.FU (n:=9) (ha 2 24 a2 (by kernel_rfl) rfl)
  obtain ⟨a,rfl,_⟩:=rP (n:=11) (k:=.i64) (by kernel_rfl) (ha 3 3 a3 (by kernel_rfl) rfl)
  obtain ⟨b,rfl,_⟩:=rP (n:=11) (k:=.i64) (by kernel_rfl) (ha 4 3 a4 (by kernel_rfl) rfl)
  exact Tryz.Bp hT all s l a b hp hsp hsl

noncomputable def CH : Array Value:=#[.slice none 0 0,.slice none 0 0,.slice none 0 0,.int .i64 0,.int .i64 0]
theorem FT (os : Os) : laidMetH Tryz.prog Rows.bestBudgetRow.laid ((n9 os).forCall (fun _ _=>0) ⟨#[],CH,[]⟩).memory :=
 laidMet_of_run' 8 (by kernel_rfl) (by kernel_rfl)
theorem reads (os : Os) {H : Type} (enc : TypeId × Value → H) : ∃ places,DataW.whole enc Tryz.prog ((n9 os).forCall (fun _ _=>0) ⟨#[],CH,[]⟩).memory Tryz.f6.params.toList Rows.bestBudgetSpec.vars false CH.toList 8 = some ([.nil,.nil,.nil,.lit (.int .i64 0),.lit (.int .i64 0)],[],places) :=
 ⟨[],by kernel_rfl⟩
theorem lifted (os : Os) (started : os.Started) (H : Type) (enc : TypeId × Value → H) (F : Stop.Interp) :
  ReturnsInHanded {} Tryz.checked os 6 .any ((OpenSpec.ofChange Rows.bestBudgetSpec).preRow enc Tryz.prog Tryz.f6 Rows.bestBudgetRow.domain false Rows.bestBudgetRow.laid) (((OpenSpec.ofChange Rows.bestBudgetSpec).at F).post enc Tryz.prog Tryz.f6 false true false false):=by
 obtain ⟨places,hx⟩:=reads os enc
 refine returnsInHanded_of_row (C:=Tryz.checked) (s:=OpenSpec.ofChange Rows.bestBudgetSpec) W6 started (by kernel_rfl) Tryz.func6
  (witness_row_at (enc:=enc) (C:=Tryz.checked) false (n9 os) CH rfl (by kernel_rfl) (by kernel_rfl) (by kernel_rfl)
   (OpenSpec.preRow_of_cond 8 hx (by kernel_rfl) (fun k hk=>by cases hk) (by kernel_rfl) (FT os))) ?_
 intro W base args ds gs before hval hW _ _ hwt hL hsh _
 have hL' : laidMet Tryz.prog Rows.bestBudgetRow.laid W:=hL
 exact F0 H enc W base args ds gs before _ hval hW hwt (I3 hL' (by simp [Rows.bestBudgetRow]))
theorem k10 : (Rows.bestBudgetRow.inPlace == Tryz.pinned.checked.prog.inPlace 6) = true:=by kernel_rfl
theorem k11 : (Rows.bestBudgetRow.unfollowed == Tryz.pinned.checked.prog.unfollowed 6) = true:=by kernel_rfl
theorem k12 : (Rows.bestBudgetRow.recurses == Tryz.pinned.checked.prog.recurses 6) = true:=by kernel_rfl
theorem k13 : (Rows.bestBudgetRow.named == Tryz.pinned.checked.prog.varsNamed 6) = true:=by kernel_rfl
theorem closed : joinedFacts Tryz.pinned.checked.prog 6 Tryz.f6 (OpenSpec.ofChange Rows.bestBudgetSpec).bare Rows.bestBudgetRow = true:=by
 unfold joinedFacts
 rw [k10,k11,k12,k13]
 kernel_rfl
theorem said : Rows.BestBudgetSaid :=
 OpenClaim.holds_of_cond 6 Tryz.f6 rfl rfl rfl rfl rfl rfl rfl ⟨rfl,rfl,rfl,rfl,rfl⟩ rfl rfl rfl rfl rfl (by kernel_rfl) Tryz.func6 closed
  (of_decide_eq_true (by kernel_rfl)) (by unfold Func.isWrapper; first | (rw [if_pos (by decide +kernel)]; kernel_rfl) | (rw [if_neg (by decide +kernel)]; exact ⟨rfl,rfl⟩))
  (fun os started H enc _ F=>by rw [OpenClaim.pre_eq_preRow]; exact lifted os started H enc F)
theorem plain (f : FuncId) (fn : Func) (hf : Tryz.pinned.checked.prog.funcNamed Rows.bestBudgetRow.func = some f) (hfn : Tryz.pinned.checked.prog.funcs[f]? = some fn) :
  false = Tryz.pinned.checked.prog.looks [] ∧ ∀ (j : Nat) t,fn.params[j]? = some t → Tryz.pinned.checked.prog.wantsStandIn t = false:=by
 obtain rfl : f = 6:=Option.some.inj ((show Tryz.prog.funcNamed Rows.bestBudgetRow.func = some 6 by kernel_rfl).symm.trans hf) |>.symm
 obtain rfl : fn = Tryz.f6:=(Option.some.inj (Tryz.func6.symm.trans hfn)).symm
 refine ⟨by kernel_rfl,fun j t ht=>?_⟩
 have:=List.all_eq_true.1 (show Tryz.f6.params.toList.all (fun t=>!Tryz.prog.wantsStandIn t) = true by kernel_rfl) t (List.mem_of_getElem? (by simpa using ht))
 show Tryz.prog.wantsStandIn t = false
 simpa using this
theorem card : Rows.BestBudgetCardSaid :=
 Claim7.holds_tied_plain_at .later [] _ _ _ _ said (fun _ h=>by cases h) (by kernel_rfl) (fun _ h=>by cases h) bestBudget_row_tie rfl ⟨rfl,rfl⟩ (by kernel_rfl) rfl plain (by kernel_rfl)
end BestBudget
end Go.Proofs.YtbooehmmhbioaaaGreatDoor
end
