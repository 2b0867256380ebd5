/- 'chandlerlaw9.RecordMany' holds, as its tied card says it: for any two numbers, whatever lies in memory. Conditions: those of the given row alone (the two tables of unicode/utf8 that it lists hold what the program's text lays). -/
import Derived.Lib.LaidU8T
import Derived.PinnedBridge
import Derived.Test.YtekjlnodoelblaaGreatDoorCards
import Derived.Test.YtekjlnodoelblaaGreatDoorTie
import Derived.Test.YtekjlnodoelblaaGreatDoorWap
import Derived.Test.YtekjlnodoelblaaGreatDoorWaz
import Derived.Test.YtekjlnodoelblaaGreatDoorWba
set_option linter.unusedSimpArgs false
set_option linter.unusedVariables false
section
namespace Go.Proofs.YtekjlnodoelblaaGreatDoor
open Go Go.Av Go.ChangeShapes Go.WideShapes Go.ChangeAt Go.RowKit Go.Proofs
set_option maxRecDepth 100000
theorem tabs_of {laid : List (String × DataW Unit)} {W : World} (hL : laidMet Tryz.prog laid W) (hsh : W.ShapedOpen Tryz.prog) (h1 : ("unicode/utf8.first", Rows.laid_unicode_utf8_first) ∈ laid) (h2 : ("unicode/utf8.acceptRanges", Rows.laid_unicode_utf8_acceptRanges) ∈ laid) : Tryz.TabsOk W where
 utf8:=Go.Proofs.utf8Tabs_of_readsT { Tryz.lays237 with } ⟨by kernel_rfl,by kernel_rfl,by kernel_rfl,by kernel_rfl,by kernel_rfl,by kernel_rfl,by kernel_rfl⟩
  (by have:=Lib.laidMet.reads hL h1; rwa [show Rows.laid_unicode_utf8_first = Lib.firstData from Pinned.utf8First_eq] at this)
  (by have:=Lib.laidMet.reads hL h2; rwa [show Rows.laid_unicode_utf8_acceptRanges = Lib.acceptData by kernel_rfl] at this)
 len:=Tryz.lays146.s1_3 W hsh
end Go.Proofs.YtekjlnodoelblaaGreatDoor
end
section
namespace Go.Proofs.YtekjlnodoelblaaGreatDoor
open Go Go.Av Go.ChangeShapes Go.WideShapes Go.ChangeAt Go.RowKit
set_option maxRecDepth 100000
namespace RecordMany
theorem contract (H : Type) (enc : TypeId × Value → H) (W : World) (base : Nat) (args : Array Value) (ds gs : List (DataW H)) (before : List MemPlace) (vt : List TypeId)
  (hval : ∀ (j : Nat) t v,Tryz.f4.params[j]? = some t → args[j]? = some v → Value.okWide Tryz.prog W .any base t v)
  (hW : DataW.Whole enc Tryz.prog Tryz.f4.params.toList Rows.recordManySpec.vars false W args.toList ds gs before)
  (hwt : (DataW.weightsEach Tryz.prog (Tryz.f4.params.toList ++ vt) (ds ++ gs)).all (· ≤ reachBytes) = true) (hT : Tryz.TabsOk W) :
  Calls Tryz.prog 4 args W fun e W'=>∃ v,e = .returned v ∧ Rows.recordManySpec.post enc Tryz.prog Tryz.f4 false true false false W args v W':=by
 refine law_contract (m:=12) (tb:=4) Tryz.func4 rfl laidOutP (by kernel_rfl) (by kernel_rfl) (by kernel_rfl) (by kernel_rfl) rfl (fun ds hd=>?_) hval hW hwt fun xs hl ha=>?_
 ·have hd : ds.length = 2:=hd
  obtain _ | ⟨_,_ | ⟨_,_ | _⟩⟩:=ds <;> simp at hd
  rfl
 ·have hl : xs.length = 2:=hl
  obtain _ | ⟨a0,_ | ⟨a1,_ | _⟩⟩:=xs <;> simp at hl
  obtain ⟨n,rfl,_⟩:=ofT_int (k:=.i64) (by kernel_rfl) (ha 0 3 a0 (by kernel_rfl) rfl)
  obtain ⟨m,rfl,_⟩:=ofT_int (k:=.i64) (by kernel_rfl) (ha 1 3 a1 (by kernel_rfl) rfl)
  exact Tryz.l9_many hT n m

noncomputable def wargs : Array Value:=#[.int .i64 0,.int .i64 0]
theorem laid_met (os : Os) : laidMetH Tryz.prog Rows.recordManyRow.laid ((laidWorld os).forCall (fun _ _=>0) ⟨#[],wargs,[]⟩).memory :=
 laidMet_of_run' 8 (by kernel_rfl) (by kernel_rfl)
theorem reads (os : Os) {H : Type} (enc : TypeId × Value → H) : ∃ places,DataW.whole enc Tryz.prog ((laidWorld os).forCall (fun _ _=>0) ⟨#[],wargs,[]⟩).memory Tryz.f4.params.toList Rows.recordManySpec.vars false wargs.toList 8 = some ([.lit (.int .i64 0),.lit (.int .i64 0)],[],places) :=
 ⟨[],by kernel_rfl⟩
theorem lifted (os : Os) (started : os.Started) (H : Type) (enc : TypeId × Value → H) (F : Stop.Interp) :
  ReturnsInHanded {} Tryz.checked os 4 .any ((OpenSpec.ofChange Rows.recordManySpec).preRow enc Tryz.prog Tryz.f4 Rows.recordManyRow.domain false Rows.recordManyRow.laid) (((OpenSpec.ofChange Rows.recordManySpec).at F).post enc Tryz.prog Tryz.f4 false true false false):=by
 obtain ⟨places,hx⟩:=reads os enc
 refine returnsInHanded_of_row (C:=Tryz.checked) (s:=OpenSpec.ofChange Rows.recordManySpec) ownK started (by kernel_rfl) Tryz.func4
  (witness_row_at (enc:=enc) (C:=Tryz.checked) false (laidWorld os) wargs rfl (by kernel_rfl) (by kernel_rfl) (by kernel_rfl)
   (OpenSpec.preRow_of_cond 8 hx (by kernel_rfl) (fun k hk=>by cases hk) (by kernel_rfl) (laid_met os))) ?_
 intro W base args ds gs before hval hW _ _ hwt hL hsh _
 have hL' : laidMet Tryz.prog Rows.recordManyRow.laid W:=hL
 exact contract H enc W base args ds gs before _ hval hW hwt (tabs_of hL' hsh (by simp [Rows.recordManyRow]) (by simp [Rows.recordManyRow]))
theorem k10 : (Rows.recordManyRow.inPlace == Tryz.pinned.checked.prog.inPlace 4) = true:=by kernel_rfl
theorem k11 : (Rows.recordManyRow.unfollowed == Tryz.pinned.checked.prog.unfollowed 4) = true:=by kernel_rfl
theorem k12 : (Rows.recordManyRow.recurses == Tryz.pinned.checked.prog.recurses 4) = true:=by kernel_rfl
theorem k13 : (Rows.recordManyRow.named == Tryz.pinned.checked.prog.varsNamed 4) = true:=by kernel_rfl
theorem closed : joinedFacts Tryz.pinned.checked.prog 4 Tryz.f4 (OpenSpec.ofChange Rows.recordManySpec).bare Rows.recordManyRow = true:=by
 unfold joinedFacts
 rw [k10,k11,k12,k13]
 kernel_rfl
theorem said : Rows.RecordManySaid :=
 OpenClaim.holds_of_cond 4 Tryz.f4 rfl rfl rfl rfl rfl rfl rfl ⟨rfl,rfl,rfl,rfl,rfl⟩ rfl rfl rfl rfl rfl (by kernel_rfl) Tryz.func4 closed
  (of_decide_eq_true (by kernel_rfl)) (by unfold Func.isWrapper; first | (rw [if_pos (by decide +kernel)]; kernel_rfl) | (rw [if_neg (by decide +kernel)]; exact ⟨rfl,rfl⟩))
  (fun os started H enc _ F=>by rw [OpenClaim.pre_eq_preRow]; exact lifted os started H enc F)
theorem plain (f : FuncId) (fn : Func) (hf : Tryz.pinned.checked.prog.funcNamed Rows.recordManyRow.func = some f) (hfn : Tryz.pinned.checked.prog.funcs[f]? = some fn) :
  true = Tryz.pinned.checked.prog.looks [] ∧ ∀ (j : Nat) t,fn.params[j]? = some t → Tryz.pinned.checked.prog.wantsStandIn t = false:=by
 obtain rfl : f = 4:=Option.some.inj ((show Tryz.prog.funcNamed Rows.recordManyRow.func = some 4 by kernel_rfl).symm.trans hf) |>.symm
 obtain rfl : fn = Tryz.f4:=(Option.some.inj (Tryz.func4.symm.trans hfn)).symm
 refine ⟨by kernel_rfl,fun j t ht=>?_⟩
 have:=List.all_eq_true.1 (show Tryz.f4.params.toList.all (fun t=>!Tryz.prog.wantsStandIn t) = true by kernel_rfl) t (List.mem_of_getElem? (by simpa using ht))
 show Tryz.prog.wantsStandIn t = false
 simpa using this
theorem card : Rows.RecordManyCardSaid :=
 Claim7.holds_tied_plain_at .later [] _ _ _ _ said (fun _ h=>by cases h) (by kernel_rfl) (fun _ h=>by cases h) recordMany_row_tie rfl ⟨rfl,rfl⟩ (by kernel_rfl) rfl plain (by kernel_rfl)
end RecordMany
end Go.Proofs.YtekjlnodoelblaaGreatDoor
end
