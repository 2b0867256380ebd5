/- 'chandlerlaw9.RecordTurned' holds, as its tied card says it: for any package and any text that can be read as data, whatever lies in memory. Conditions: those of the given row alone (the five tables of the library that it lists hold what the program's text lays). -/
import Derived.Lib.LaidU8T
import Derived.PinnedBridge
import Derived.Test.YtekjlnodoelblaaGreatDoorCards
import Derived.Test.YtekjlnodoelblaaGreatDoorTie
import Derived.Test.YtekjlnodoelblaaGreatDoorWap
import Derived.Test.YtekjlnodoelblaaGreatDoorWaz
import Derived.Test.YtekjlnodoelblaaGreatDoorWba
set_option linter.unusedSimpArgs false
set_option linter.unusedVariables false
section
namespace Go.Proofs.YtekjlnodoelblaaGreatDoor
open Go Go.Av Go.ChangeShapes Go.WideShapes Go.ChangeAt Go.RowKit Go.Proofs
set_option maxRecDepth 100000
theorem tabs_of {laid : List (String × DataW Unit)} {W : World} (hL : laidMet Tryz.prog laid W) (hsh : W.ShapedOpen Tryz.prog) (h1 : ("unicode/utf8.first", Rows.laid_unicode_utf8_first) ∈ laid) (h2 : ("unicode/utf8.acceptRanges", Rows.laid_unicode_utf8_acceptRanges) ∈ laid) : Tryz.TabsOk W where
 utf8:=Go.Proofs.utf8Tabs_of_readsT { Tryz.lays237 with } ⟨by kernel_rfl,by kernel_rfl,by kernel_rfl,by kernel_rfl,by kernel_rfl,by kernel_rfl,by kernel_rfl⟩
  (by have:=Lib.laidMet.reads hL h1; rwa [show Rows.laid_unicode_utf8_first = Lib.firstData from Pinned.utf8First_eq] at this)
  (by have:=Lib.laidMet.reads hL h2; rwa [show Rows.laid_unicode_utf8_acceptRanges = Lib.acceptData by kernel_rfl] at this)
 len:=Tryz.lays146.s1_3 W hsh
noncomputable def fillKind (k : IntKind) (l : List Nat) : Obj → Obj
 | .cells _ t frozen=>.cells (l.map fun n=>Value.int k (n : Nat)).toArray t frozen
 | o=>o
noncomputable def laidWorld5 (os : Os) : World :=
 { laidWorld os with heap:=(((laidWorld os).heap.modify 4 (fillKind .u8 [0,1,28,2,29,14,24,3,30,22,20,15,25,17,4,8,31,27,13,23,21,19,16,7,26,12,18,6,11,5,10,9])).modify 5 (fillKind .u8 [0,1,56,2,57,49,28,3,61,58,42,50,38,29,17,4,62,47,59,36,45,43,51,22,53,39,33,30,24,18,12,5,63,55,48,27,60,41,37,16,46,35,44,21,52,32,23,11,54,26,40,15,34,20,31,10,25,14,19,9,13,8,7,6])).modify 3 (fillKind .u64 [1,10,100,1000,10000,100000,1000000,10000000,100000000,1000000000,10000000000,100000000000,1000000000000,10000000000000,100000000000000,1000000000000000,10000000000000000,100000000000000000,1000000000000000000,10000000000000000000]) }
end Go.Proofs.YtekjlnodoelblaaGreatDoor
end
section
namespace Go.Proofs.YtekjlnodoelblaaGreatDoor
open Go Go.Av Go.ChangeShapes Go.WideShapes Go.ChangeAt Go.RowKit
set_option maxRecDepth 100000
namespace RecordTurned
theorem contract (H : Type) (enc : TypeId × Value → H) (W : World) (base : Nat) (args : Array Value) (ds gs : List (DataW H)) (before : List MemPlace) (vt : List TypeId)
  (hval : ∀ (j : Nat) t v,Tryz.f7.params[j]? = some t → args[j]? = some v → Value.okWide Tryz.prog W .any base t v)
  (hW : DataW.Whole enc Tryz.prog Tryz.f7.params.toList Rows.recordTurnedSpec.vars false W args.toList ds gs before)
  (hwt : (DataW.weightsEach Tryz.prog (Tryz.f7.params.toList ++ vt) (ds ++ gs)).all (· ≤ reachBytes) = true) (hT : Tryz.TabsOk W) :
  Calls Tryz.prog 7 args W fun e W'=>∃ v,e = .returned v ∧ Rows.recordTurnedSpec.post enc Tryz.prog Tryz.f7 false true false false W args v W':=by
 refine law_contract (m:=12) (tb:=4) Tryz.func7 rfl laidOutP (by kernel_rfl) (by kernel_rfl) (by kernel_rfl) (by kernel_rfl) rfl (fun ds hd=>?_) hval hW hwt fun xs hl ha=>?_
 ·have hd : ds.length = 2:=hd
  obtain _ | ⟨_,_ | ⟨_,_ | _⟩⟩:=ds <;> simp at hd
  rfl
 ·have hl : xs.length = 2:=hl
  obtain _ | ⟨a0,_ | ⟨a1,_ | _⟩⟩:=xs <;> simp at hl
  obtain ⟨p,rfl,hpR⟩:=Tryz.ofT_pkg (n:=7) (ha 0 33 a0 (by kernel_rfl) rfl)
  obtain ⟨e,rfl,he⟩:=ofT_str (n:=11) (by kernel_rfl) (ha 1 9 a1 (by kernel_rfl) rfl)
  exact Tryz.l9_turned hT p hpR e he

noncomputable def wargs : Array Value:=#[.agg #[.string ⟨#[]⟩,.string ⟨#[]⟩,.slice none 0 0,.slice none 0 0,.slice none 0 0,.slice none 0 0,.slice none 0 0,.slice none 0 0,.bool false],.string ⟨#[]⟩]
theorem laid_met (os : Os) : laidMetH Tryz.prog Rows.recordTurnedRow.laid ((laidWorld5 os).forCall (fun _ _=>0) ⟨#[],wargs,[]⟩).memory :=
 laidMet_of_run' 8 (by kernel_rfl) (by kernel_rfl)
theorem reads (os : Os) {H : Type} (enc : TypeId × Value → H) : ∃ places,DataW.whole enc Tryz.prog ((laidWorld5 os).forCall (fun _ _=>0) ⟨#[],wargs,[]⟩).memory Tryz.f7.params.toList Rows.recordTurnedSpec.vars false wargs.toList 8 = some ([.agg [.lit (.string []),.lit (.string []),.nil,.nil,.nil,.nil,.nil,.nil,.lit (.bool false)],.lit (.string [])],[],places) :=
 ⟨[],by kernel_rfl⟩
theorem lifted (os : Os) (started : os.Started) (H : Type) (enc : TypeId × Value → H) (F : Stop.Interp) :
  ReturnsInHanded {} Tryz.checked os 7 .any ((OpenSpec.ofChange Rows.recordTurnedSpec).preRow enc Tryz.prog Tryz.f7 Rows.recordTurnedRow.domain false Rows.recordTurnedRow.laid) (((OpenSpec.ofChange Rows.recordTurnedSpec).at F).post enc Tryz.prog Tryz.f7 false true false false):=by
 obtain ⟨places,hx⟩:=reads os enc
 refine returnsInHanded_of_row (C:=Tryz.checked) (s:=OpenSpec.ofChange Rows.recordTurnedSpec) ownK started (by kernel_rfl) Tryz.func7
  (witness_row_at (enc:=enc) (C:=Tryz.checked) false (laidWorld5 os) wargs rfl (by kernel_rfl) (by kernel_rfl) (by kernel_rfl)
   (OpenSpec.preRow_of_cond 8 hx (by kernel_rfl) (fun k hk=>by cases hk) (by kernel_rfl) (laid_met os))) ?_
 intro W base args ds gs before hval hW _ _ hwt hL hsh _
 have hL' : laidMet Tryz.prog Rows.recordTurnedRow.laid W:=hL
 exact contract H enc W base args ds gs before _ hval hW hwt (tabs_of hL' hsh (by simp [Rows.recordTurnedRow]) (by simp [Rows.recordTurnedRow]))
theorem k10 : (Rows.recordTurnedRow.inPlace == Tryz.pinned.checked.prog.inPlace 7) = true:=by kernel_rfl
theorem k11 : (Rows.recordTurnedRow.unfollowed == Tryz.pinned.checked.prog.unfollowed 7) = true:=by kernel_rfl
theorem k12 : (Rows.recordTurnedRow.recurses == Tryz.pinned.checked.prog.recurses 7) = true:=by kernel_rfl
theorem k13 : (Rows.recordTurnedRow.named == Tryz.pinned.checked.prog.varsNamed 7) = true:=by kernel_rfl
theorem closed : joinedFacts Tryz.pinned.checked.prog 7 Tryz.f7 (OpenSpec.ofChange Rows.recordTurnedSpec).bare Rows.recordTurnedRow = true:=by
 unfold joinedFacts
 rw [k10,k11,k12,k13]
 kernel_rfl
theorem said : Rows.RecordTurnedSaid :=
 OpenClaim.holds_of_cond 7 Tryz.f7 rfl rfl rfl rfl rfl rfl rfl ⟨rfl,rfl,rfl,rfl,rfl⟩ rfl rfl rfl rfl rfl (by kernel_rfl) Tryz.func7 closed
  (of_decide_eq_true (by kernel_rfl)) (by unfold Func.isWrapper; first | (rw [if_pos (by decide +kernel)]; kernel_rfl) | (rw [if_neg (by decide +kernel)]; exact ⟨rfl,rfl⟩))
  (fun os started H enc _ F=>by rw [OpenClaim.pre_eq_preRow]; exact lifted os started H enc F)
theorem plain (f : FuncId) (fn : Func) (hf : Tryz.pinned.checked.prog.funcNamed Rows.recordTurnedRow.func = some f) (hfn : Tryz.pinned.checked.prog.funcs[f]? = some fn) :
  true = Tryz.pinned.checked.prog.looks [] ∧ ∀ (j : Nat) t,fn.params[j]? = some t → Tryz.pinned.checked.prog.wantsStandIn t = false:=by
 obtain rfl : f = 7:=Option.some.inj ((show Tryz.prog.funcNamed Rows.recordTurnedRow.func = some 7 by kernel_rfl).symm.trans hf) |>.symm
 obtain rfl : fn = Tryz.f7:=(Option.some.inj (Tryz.func7.symm.trans hfn)).symm
 refine ⟨by kernel_rfl,fun j t ht=>?_⟩
 have:=List.all_eq_true.1 (show Tryz.f7.params.toList.all (fun t=>!Tryz.prog.wantsStandIn t) = true by kernel_rfl) t (List.mem_of_getElem? (by simpa using ht))
 show Tryz.prog.wantsStandIn t = false
 simpa using this
theorem card : Rows.RecordTurnedCardSaid :=
 Claim7.holds_tied_plain_at .later [] _ _ _ _ said (fun _ h=>by cases h) (by kernel_rfl) (fun _ h=>by cases h) recordTurned_row_tie rfl ⟨rfl,rfl⟩ (by kernel_rfl) rfl plain (by kernel_rfl)
end RecordTurned
end Go.Proofs.YtekjlnodoelblaaGreatDoor
end
