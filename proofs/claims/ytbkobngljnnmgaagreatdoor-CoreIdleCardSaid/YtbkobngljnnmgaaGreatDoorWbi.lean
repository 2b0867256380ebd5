/- chandlerlaw24.CoreIdle: with nothing to do: for any entries, any repository the law returns true, and each argument reads behind the call as it read before. No conditions. -/
import Derived.Lib.LaidU8
import Derived.PinnedBridge
import Derived.Test.YtbkobngljnnmgaaGreatDoorCards
import Derived.Test.YtbkobngljnnmgaaGreatDoorTie
import Derived.Test.YtbkobngljnnmgaaGreatDoorWan
import Derived.Test.YtbkobngljnnmgaaGreatDoorWbg
import Derived.Test.YtbkobngljnnmgaaGreatDoorWbh
set_option linter.unusedSimpArgs false
set_option linter.unusedVariables false
section
namespace Go.Proofs.YtbkobngljnnmgaaGreatDoor
open Go Go.Av Go.ChangeShapes Go.WideShapes Go.ChangeAt Go.RowKit Go.Proofs
set_option maxRecDepth 100000
theorem UN {laid : List (String × DataW Unit)} {W : World} (hL : laidMet Tryz.prog laid W) (h1 : ("math/bits.deBruijn32tab", Rows.laid_math_bits_deBruijn32tab) ∈ laid) : Tryz.qL W := ⟨fun i hi => by
 obtain ⟨g,t,cs,fuel,p,hg,hty,hvar,hd⟩:=Lib.laidMet.reads hL h1
 have e1 : Tryz.prog.globalNamed "math/bits.deBruijn32tab" = some 0 := by kernel_rfl
 obtain rfl:=Option.some.inj (e1.symm.trans hg)
 have e2 : (Tryz.prog.globals[0]?).map (·.type) = some 341:=by kernel_rfl
 obtain rfl:=Option.some.inj (e2.symm.trans hty)
 have hcs:=Lib.cells_of_tab (e:=5) (n:=32) (k:=.u8) (zs:=Kk.map fun (n : Nat)=>(n : Int)) (by kernel_rfl) (by kernel_rfl) (by kernel_rfl) (by kernel_rfl) (show _ = some (Lib.tabData .u8 _,p) from hd)
 rw [World.var?_cell hg hvar i,← Array.getElem?_toList,hcs,List.map_map,List.getElem?_map]
 obtain ⟨x,hx⟩:=get_some (show i < Kk.length from hi)
 rw [hx]
 rfl⟩
noncomputable def pW (os : Os) : World :=
 { An os with heap:=(An os).heap.modify 0 (BL [0,1,28,2,29,14,24,3,30,22,20,15,25,17,4,8,31,27,13,23,21,19,16,7,26,12,18,6,11,5,10,9]) }
theorem MA {P : Program} (h : P.funcs.toList.all (fun f=>!f.goes) = true) (c : OpenClaim) (hs : c.start = .entering) : false = c.goesBy P:=by
 have h1 : ∀ g : FuncId,(P.funcs[g]?).any Func.goes = false:=fun g=>by
  cases hg : P.funcs[g]? with
  | none=>rfl
  | some f=>simpa using List.all_eq_true.1 h f (Array.mem_toList_iff.2 (Array.mem_of_getElem? hg))
 have h2 : P.funcs.any Func.goes = false:=by
  rw [Array.any_eq_false]
  intro i hi
  have:=h1 i
  rw [Array.getElem?_eq_getElem hi] at this
  simpa using this
 have h3 : ∀ f,P.goes f = false:=fun f=>by simp [Program.goes,h1,h2]
 unfold OpenClaim.goesBy Program.goesAt Program.goesFrom
 rw [hs]
 cases P.funcNamed c.func <;> simp [h3]
end Go.Proofs.YtbkobngljnnmgaaGreatDoor
end
section
namespace Go.Proofs.YtbkobngljnnmgaaGreatDoor
open Go Go.Av Go.ChangeShapes Go.WideShapes Go.ChangeAt Go.RowKit
set_option maxRecDepth 100000
namespace CoreIdle
theorem TJ (H : Type) (enc : TypeId × Value → H) (W : World) (base : Nat) (args : Array Value) (ds gs : List (DataW H)) (before : List MemPlace) (vt : List TypeId)
  (hval : ∀ (j : Nat) t v,Tryz.f9.params[j]? = some t → args[j]? = some v → Value.okWide Tryz.prog W .any base t v)
  (hW : DataW.Whole enc Tryz.prog Tryz.f9.params.toList Rows.coreIdleSpec.vars false W args.toList ds gs before)
  (hwt : (DataW.weightsEach Tryz.prog (Tryz.f9.params.toList ++ vt) (ds ++ gs)).all (· ≤ reachBytes) = true) (hT : Tryz.qL W) :
  Calls Tryz.prog 9 args W fun e W'=>∃ v,e = .returned v ∧ Rows.coreIdleSpec.post enc Tryz.prog Tryz.f9 false true false false W args v W':=by
 refine Bi (m:=12) (tb:=4) Tryz.func9 rfl Po (by kernel_rfl) (by kernel_rfl) (by kernel_rfl) (by kernel_rfl) rfl (fun ds hd=>?_) hval hW hwt fun xs hl ha=>?_
 ·have hd : ds.length = 2:=hd
  obtain _ | ⟨_,_ | ⟨_,_ | _⟩⟩:=ds <;> simp at hd
  rfl
 ·have hl : xs.length = 2:=hl
  obtain _ | ⟨a0,_ | ⟨a1,_ | _⟩⟩:=xs <;> simp at hl
  obtain ⟨s,rfl,hsl,hsp⟩:=Tryz.RC (n:=5) (ha 0 22 a0 (by kernel_rfl) rfl)
  obtain ⟨repo,rfl,hrl,hp⟩:=Tryz.Td (n:=6) (ha 1 23 a1 (by kernel_rfl) rfl)
  exact Tryz.Rc hT s repo hp hsp hsl
noncomputable def K7 : Array Value:=#[.slice none 0 0,.slice none 0 0]
theorem Qo (os : Os) : laidMetH Tryz.prog Rows.coreIdleRow.laid ((pW os).forCall (fun _ _=>0) ⟨#[],K7,[]⟩).memory :=
 laidMet_of_run' 8 (by kernel_rfl) (by kernel_rfl)
theorem reads (os : Os) {H : Type} (enc : TypeId × Value → H) : ∃ places,DataW.whole enc Tryz.prog ((pW os).forCall (fun _ _=>0) ⟨#[],K7,[]⟩).memory Tryz.f9.params.toList Rows.coreIdleSpec.vars false K7.toList 8 = some ([.nil,.nil],[],places) :=
 ⟨[],by kernel_rfl⟩
theorem lifted (os : Os) (started : os.Started) (H : Type) (enc : TypeId × Value → H) (F : Stop.Interp) :
  ReturnsInHanded {} Tryz.checked os 9 .any ((OpenSpec.ofChange Rows.coreIdleSpec).preRow enc Tryz.prog Tryz.f9 Rows.coreIdleRow.domain false Rows.coreIdleRow.laid) (((OpenSpec.ofChange Rows.coreIdleSpec).at F).post enc Tryz.prog Tryz.f9 false true false false):=by
 obtain ⟨places,hx⟩:=reads os enc
 refine returnsInHanded_of_row (C:=Tryz.checked) (s:=OpenSpec.ofChange Rows.coreIdleSpec) acv started (by kernel_rfl) Tryz.func9
  (witness_row_at (enc:=enc) (C:=Tryz.checked) false (pW os) K7 rfl (by kernel_rfl) (by kernel_rfl) (by kernel_rfl)
   (OpenSpec.preRow_of_cond 8 hx (by kernel_rfl) (fun k hk=>by cases hk) (by kernel_rfl) (Qo os))) ?_
 intro W base args ds gs before hval hW _ _ hwt hL hsh _
 have hL' : laidMet Tryz.prog Rows.coreIdleRow.laid W:=hL
 exact TJ H enc W base args ds gs before _ hval hW hwt (UN hL' (by simp [Rows.coreIdleRow]))
theorem k10 : (Rows.coreIdleRow.inPlace == Tryz.pinned.checked.prog.inPlace 9) = true:=by kernel_rfl
theorem k11 : (Rows.coreIdleRow.unfollowed == Tryz.pinned.checked.prog.unfollowed 9) = true:=by kernel_rfl
theorem k12 : (Rows.coreIdleRow.recurses == Tryz.pinned.checked.prog.recurses 9) = true:=by kernel_rfl
theorem k13 : (Rows.coreIdleRow.named == Tryz.pinned.checked.prog.varsNamed 9) = true:=by kernel_rfl
theorem closed : joinedFacts Tryz.pinned.checked.prog 9 Tryz.f9 (OpenSpec.ofChange Rows.coreIdleSpec).bare Rows.coreIdleRow = true:=by
 unfold joinedFacts
 rw [k10,k11,k12,k13]
 kernel_rfl
theorem said : Rows.CoreIdleSaid :=
 OpenClaim.holds_of_cond 9 Tryz.f9 rfl rfl rfl rfl rfl rfl rfl ⟨rfl,rfl,rfl,rfl,rfl⟩ rfl rfl rfl rfl rfl (by kernel_rfl) Tryz.func9 closed
  (of_decide_eq_true (by kernel_rfl)) (by unfold Func.isWrapper; first | (rw [if_pos (by decide +kernel)]; kernel_rfl) | (rw [if_neg (by decide +kernel)]; exact ⟨rfl,rfl⟩))
  (fun os started H enc _ F=>by rw [OpenClaim.pre_eq_preRow]; exact lifted os started H enc F)
theorem plain (f : FuncId) (fn : Func) (hf : Tryz.pinned.checked.prog.funcNamed Rows.coreIdleRow.func = some f) (hfn : Tryz.pinned.checked.prog.funcs[f]? = some fn) :
  false = Tryz.pinned.checked.prog.looks [] ∧ ∀ (j : Nat) t,fn.params[j]? = some t → Tryz.pinned.checked.prog.wantsStandIn t = false:=by
 obtain rfl : f = 9:=Option.some.inj ((show Tryz.prog.funcNamed Rows.coreIdleRow.func = some 9 by kernel_rfl).symm.trans hf) |>.symm
 obtain rfl : fn = Tryz.f9:=(Option.some.inj (Tryz.func9.symm.trans hfn)).symm
 refine ⟨by kernel_rfl,fun j t ht=>?_⟩
 have:=List.all_eq_true.1 (show Tryz.f9.params.toList.all (fun t=>!Tryz.prog.wantsStandIn t) = true by kernel_rfl) t (List.mem_of_getElem? (by simpa using ht))
 show Tryz.prog.wantsStandIn t = false
 simpa using this
theorem card : Rows.CoreIdleCardSaid :=
 Claim7.holds_tied_plain_at .later [] _ _ _ _ said (fun _ h=>by cases h) (by kernel_rfl) (fun _ h=>by cases h) coreIdle_row_tie rfl ⟨rfl,rfl⟩ (by kernel_rfl) rfl plain (MA (by kernel_rfl) _ rfl)
end CoreIdle
end Go.Proofs.YtbkobngljnnmgaaGreatDoor
end
