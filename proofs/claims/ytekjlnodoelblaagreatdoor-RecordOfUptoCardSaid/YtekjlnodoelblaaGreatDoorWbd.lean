/- 'chandlerlaw9.RecordOf' holds, as its second form's tied card says it: for any stanza that can be read as data, of bulk at most 1048576 (how many values and letters the reading holds), whatever lies in memory. Conditions: those of the given row alone (that bound; the two tables of unicode/utf8 that it lists hold what the program's text lays). -/
import Derived.Lib.LaidU8T
import Derived.PinnedBridge
import Derived.Test.YtekjlnodoelblaaGreatDoorCards
import Derived.Test.YtekjlnodoelblaaGreatDoorTie
import Derived.Test.YtekjlnodoelblaaGreatDoorWar
import Derived.Test.YtekjlnodoelblaaGreatDoorWbb
import Derived.Test.YtekjlnodoelblaaGreatDoorWbc
set_option linter.unusedSimpArgs false
set_option linter.unusedVariables false
section
namespace Go.Proofs.YtekjlnodoelblaaGreatDoor
open Go Go.Av Go.ChangeShapes Go.WideShapes Go.ChangeAt Go.RowKit Go.Proofs
set_option maxRecDepth 100000
theorem tabs_of {laid : List (String × DataW Unit)} {W : World} (hL : laidMet Tryz.prog laid W) (hsh : W.ShapedOpen Tryz.prog) (h1 : ("unicode/utf8.first", Rows.laid_unicode_utf8_first) ∈ laid) (h2 : ("unicode/utf8.acceptRanges", Rows.laid_unicode_utf8_acceptRanges) ∈ laid) : Tryz.TabsOk W where
 utf8:=Go.Proofs.utf8Tabs_of_readsT { Tryz.lays237 with } ⟨by kernel_rfl,by kernel_rfl,by kernel_rfl,by kernel_rfl,by kernel_rfl,by kernel_rfl,by kernel_rfl⟩
  (by have:=Lib.laidMet.reads hL h1; rwa [show Rows.laid_unicode_utf8_first = Lib.firstData from Pinned.utf8First_eq] at this)
  (by have:=Lib.laidMet.reads hL h2; rwa [show Rows.laid_unicode_utf8_acceptRanges = Lib.acceptData by kernel_rfl] at this)
 len:=Tryz.lays146.s1_3 W hsh
end Go.Proofs.YtekjlnodoelblaaGreatDoor
end
section
namespace Go.Proofs.YtekjlnodoelblaaGreatDoor
open Go Go.Av Go.ChangeShapes Go.WideShapes Go.ChangeAt Go.RowKit
set_option maxRecDepth 100000
namespace RecordOf
mutual
theorem bulk_upto {H : Type} : ∀ d : DataW H,bulkD d ≤ Rows.uptoBulk d
 | .lit l=>by cases l <;> simp [bulkD,Rows.uptoBulk]
 | .nil=>by simp [bulkD,Rows.uptoBulk]
 | .ptr d=>by simp [bulkD,Rows.uptoBulk]
 | .slice e s=>by
  have h1:=bulk_uptos e
  have h2:=bulk_uptos s
  simp only [bulkD,Rows.uptoBulk]
  omega
 | .agg l=>by
  have h1:=bulk_uptos l
  simp only [bulkD,Rows.uptoBulk]
  omega
 | .iface _ d=>by simp [bulkD,Rows.uptoBulk]
 | .map e=>by simp [bulkD,Rows.uptoBulk]
 | .held _=>by simp [bulkD,Rows.uptoBulk]
theorem bulk_uptos {H : Type} : ∀ l : List (DataW H),bulkDs l ≤ Rows.uptoBulkAll l
 | []=>by simp [bulkDs,Rows.uptoBulkAll]
 | d :: r=>by
  have h1:=bulk_upto d
  have h2:=bulk_uptos r
  simp only [bulkDs,Rows.uptoBulkAll]
  omega
end
theorem bulk_left {H : Type} : ∀ ds gs : List (DataW H),Rows.uptoBulkAll ds ≤ Rows.uptoBulkAll (ds ++ gs)
 | [],_=>by simp [Rows.uptoBulkAll]
 | d :: r,gs=>by
  have h:=bulk_left r gs
  rw [List.cons_append,Rows.uptoBulkAll,Rows.uptoBulkAll]
  omega
theorem contract (H : Type) (enc : TypeId × Value → H) (W : World) (base : Nat) (args : Array Value) (ds gs : List (DataW H)) (before : List MemPlace) (vt : List TypeId)
  (hval : ∀ (j : Nat) t v,Tryz.f3.params[j]? = some t → args[j]? = some v → Value.okWide Tryz.prog W .any base t v)
  (hW : DataW.Whole enc Tryz.prog Tryz.f3.params.toList Rows.recordOfSpec.vars false W args.toList ds gs before)
  (hwt : (DataW.weightsEach Tryz.prog (Tryz.f3.params.toList ++ vt) (ds ++ gs)).all (· ≤ reachBytes) = true) (hT : Tryz.TabsOk W) (hbk : Rows.uptoBulkAll ds ≤ 1048576) :
  Calls Tryz.prog 3 args W fun e W'=>∃ v,e = .returned v ∧ Rows.recordOfSpec.post enc Tryz.prog Tryz.f3 false true false false W args v W':=by
 refine law_contractB (m:=12) (tb:=4) Tryz.func3 rfl laidOutP (by kernel_rfl) (by kernel_rfl) (by kernel_rfl) (by kernel_rfl) rfl (fun ds hd=>?_) hval hW hwt fun xs hl ha hb0=>?_
 ·have hd : ds.length = 1:=hd
  obtain _ | ⟨_,_ | _⟩:=ds <;> simp at hd
  rfl
 ·have hb : bulkAs xs ≤ 1048576:=Nat.le_trans hb0 (Nat.le_trans (bulk_uptos _) hbk)
  have hl : xs.length = 1:=hl
  obtain _ | ⟨a0,_ | _⟩:=xs <;> simp at hl
  obtain ⟨s,rfl,h1,h2⟩:=Tryz.ofT_stz (n:=7) (ha 0 24 a0 (by kernel_rfl) rfl)
  have hz:=Tryz.bulk_stz s
  have hb2 : bulkA (Tryz.stzAV s) ≤ 1048576:=by simpa [bulkAs] using hb
  exact Tryz.l9_of hT s ⟨⟨h1,by omega,by omega⟩,h2⟩

noncomputable def wargs : Array Value:=#[.agg #[.int .i64 0,.slice none 0 0]]
theorem laid_met (os : Os) : laidMetH Tryz.prog Rows.recordOfUptoRow.laid ((laidWorld os).forCall (fun _ _=>0) ⟨#[],wargs,[]⟩).memory :=
 laidMet_of_run' 8 (by kernel_rfl) (by kernel_rfl)
theorem reads (os : Os) {H : Type} (enc : TypeId × Value → H) : ∃ places,DataW.whole enc Tryz.prog ((laidWorld os).forCall (fun _ _=>0) ⟨#[],wargs,[]⟩).memory Tryz.f3.params.toList Rows.recordOfSpec.vars false wargs.toList 8 = some ([.agg [.lit (.int .i64 0),.nil]],[],places) :=
 ⟨[],by kernel_rfl⟩
theorem lifted (os : Os) (started : os.Started) (H : Type) (enc : TypeId × Value → H) (F : Stop.Interp) :
  ReturnsInHanded {} Tryz.checked os 3 .any ((Rows.OpenSpec.upto Rows.recordOfSpec).preRow enc Tryz.prog Tryz.f3 Rows.recordOfUptoRow.domain false Rows.recordOfUptoRow.laid) (((Rows.OpenSpec.upto Rows.recordOfSpec).at F).post enc Tryz.prog Tryz.f3 false true false false):=by
 obtain ⟨places,hx⟩:=reads os enc
 refine returnsInHanded_of_row (C:=Tryz.checked) (s:=Rows.OpenSpec.upto Rows.recordOfSpec) ownK started (by kernel_rfl) Tryz.func3
  (witness_row_at (enc:=enc) (C:=Tryz.checked) false (laidWorld os) wargs rfl (by kernel_rfl) (by kernel_rfl) (by kernel_rfl)
   (OpenSpec.preRow_of_cond 8 hx (by kernel_rfl) (fun k hk=>by cases hk; kernel_rfl) (by kernel_rfl) (laid_met os))) ?_
 intro W base args ds gs before hval hW _ hcond hwt hL hsh _
 have hL' : laidMet Tryz.prog Rows.recordOfUptoRow.laid W:=hL
 have hbk : Rows.uptoBulkAll ds ≤ 1048576:=Nat.le_trans (bulk_left ds gs) (of_decide_eq_true (hcond _ rfl))
 exact contract H enc W base args ds gs before _ hval hW hwt (tabs_of hL' hsh (by simp [Rows.recordOfUptoRow]) (by simp [Rows.recordOfUptoRow])) hbk
theorem k10 : (Rows.recordOfUptoRow.inPlace == Tryz.pinned.checked.prog.inPlace 3) = true:=by kernel_rfl
theorem k11 : (Rows.recordOfUptoRow.unfollowed == Tryz.pinned.checked.prog.unfollowed 3) = true:=by kernel_rfl
theorem k12 : (Rows.recordOfUptoRow.recurses == Tryz.pinned.checked.prog.recurses 3) = true:=by kernel_rfl
theorem k13 : (Rows.recordOfUptoRow.named == Tryz.pinned.checked.prog.varsNamed 3) = true:=by kernel_rfl
theorem closed : joinedFacts Tryz.pinned.checked.prog 3 Tryz.f3 (Rows.OpenSpec.upto Rows.recordOfSpec).bare Rows.recordOfUptoRow = true:=by
 unfold joinedFacts
 rw [k10,k11,k12,k13]
 kernel_rfl
theorem said : Rows.RecordOfUptoSaid :=
 OpenClaim.holds_of_cond 3 Tryz.f3 rfl rfl rfl rfl rfl rfl rfl ⟨rfl,rfl,rfl,rfl,rfl⟩ rfl rfl rfl rfl rfl (by kernel_rfl) Tryz.func3 closed
  (of_decide_eq_true (by kernel_rfl)) (by unfold Func.isWrapper; first | (rw [if_pos (by decide +kernel)]; kernel_rfl) | (rw [if_neg (by decide +kernel)]; exact ⟨rfl,rfl⟩))
  (fun os started H enc _ F=>by rw [OpenClaim.pre_eq_preRow]; exact lifted os started H enc F)
theorem plain (f : FuncId) (fn : Func) (hf : Tryz.pinned.checked.prog.funcNamed Rows.recordOfUptoRow.func = some f) (hfn : Tryz.pinned.checked.prog.funcs[f]? = some fn) :
  true = Tryz.pinned.checked.prog.looks [] ∧ ∀ (j : Nat) t,fn.params[j]? = some t → Tryz.pinned.checked.prog.wantsStandIn t = false:=by
 obtain rfl : f = 3:=Option.some.inj ((show Tryz.prog.funcNamed Rows.recordOfUptoRow.func = some 3 by kernel_rfl).symm.trans hf) |>.symm
 obtain rfl : fn = Tryz.f3:=(Option.some.inj (Tryz.func3.symm.trans hfn)).symm
 refine ⟨by kernel_rfl,fun j t ht=>?_⟩
 have:=List.all_eq_true.1 (show Tryz.f3.params.toList.all (fun t=>!Tryz.prog.wantsStandIn t) = true by kernel_rfl) t (List.mem_of_getElem? (by simpa using ht))
 show Tryz.prog.wantsStandIn t = false
 simpa using this
theorem card : Rows.RecordOfUptoCardSaid :=
 Claim7.holds_tied_plain_at .later [] _ _ _ _ said (fun _ h=>by cases h) (by kernel_rfl) (fun _ h=>by cases h) recordOfUpto_row_tie rfl ⟨rfl,rfl⟩ (by kernel_rfl) rfl plain (by kernel_rfl)
end RecordOf
end Go.Proofs.YtekjlnodoelblaaGreatDoor
end
