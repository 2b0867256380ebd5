/- What the last text of this claim rests on. No conditions. -/
import Derived.Shelf.GgClosure.StringsRunes
import Derived.Shelf.Unicode.DecodeAny
import Derived.Shelf.Strings.SplitShaped
import Derived.Shelf.Strings.Prefix
import Derived.Shelf.Strings.SlTrimAscii
import Derived.Shelf.Strconv.Itoa3
import Derived.Lib.SplitLaws
import Derived.Lib.IndexBytes
import Derived.Lib.TrimUEq
import Derived.Shelf.GgClosure.StringsTrimFunc
import Derived.Test.YtbkobngljnnmgaaGreatDoorProg
import Derived.Test.YtbkobngljnnmgaaGreatDoorWal
import Derived.Test.YtbkobngljnnmgaaGreatDoorWam
set_option linter.unusedSimpArgs false
set_option linter.unusedVariables false
open Nat renaming testBit_two_pow_mul_add->acG,eq_of_testBit_eq->acH
section
namespace Go.Av
open Go
section
variable {P :Program}{W0 w w':World}{C:Ctx}{σ:ab}
theorem jc {f : FuncId} {fn : Func} {args : List AV} {r : AV} (hf : P.funcs[f]? = some fn) (hb : fn.body.isSome = true) (hnm : (fn.name == "runtime.NumGoroutine") = false)
  (h: ∀(w:World) (C:Ctx) (vs:List Value),RowKit.Below W0.heap.size W0 w->(∀i ow,C.m i=some ow->ow.blk<w.heap.size)->args.length=vs.length->(∀(i:Nat) (a:AV) (v:Value),args[i]?=some a->vs[i]?=some v->aJ P w C a v)->
   Calls P f vs.toArray w λe w'=>∃ v,e= .returned v/\aJ P w' C r v/\RowKit.Below w.heap.size w w'):ai P W0 f args r:=λσ w C vs hst hl hv=>
 .inl ⟨⟨fn,hf,hb,hnm⟩,(h w C vs hst.base (λi ow hm=>hst.Iy hm) hl hv).mono λe w' ⟨v,he,hr,hB⟩=>by
  grind [Step.below,aE.world,RowKit.Below.block,aE.Iy]⟩
theorem Hw (hb:RowKit.Below W0.heap.size W0 w){a:Addr}{c:Value}(h:W0.cell? a=some c):w.cell? a=some c:=by
 grind [RowKit.Below.cell,World.cell?]
end
def Kk :List Nat:=[0,1,28,2,29,14,24,3,30,22,20,15,25,17,4,8,31,27,13,23,21,19,16,7,26,12,18,6,11,5,10,9]
theorem T6 : ∀k,k<32->Kk[((2^k*125613361) % 4294967296) >>> 27]?=some k:=by decide
theorem Ue {x k:Nat}(hx:x<4294967296)(h1:x.testBit k=true)(h2: ∀j,j<k->x.testBit j=false):x &&& (4294967296-x)=2^k:=by
 have h0:0<x:=by
  grind
 have hd:x % 2^k=0:=by
  apply acH;simp_all
 have hdm:=Nat.div_add_mod x (2^k);rw[hd,Nat.add_zero]at hdm;have hq:(x / 2^k) % 2=1:=by
  grind
 have hpred: ∀i,(x-1).testBit i=(decide (i<k)||(decide (k<i)&&x.testBit i)):=by
  intro i;generalize hm:x / 2^k / 2=m;have hxm:x=2^(k+1)*m+2^k:=by
   have:x / 2^k=2*m+1:=by omega
   grind
  have hp:0<2^k:=Nat.two_pow_pos k;have hx1:x-1=2^(k+1)*m+(2^k-1):=by omega
  have hlt1:2^k-1<2^(k+1):=by omega
  have hlt2:2^k<2^(k+1):=by omega
  rw[hx1,acG _ hlt1,hxm,acG _ hlt2,Nat.testBit_two_pow_sub_one];grind
 have hxx:x=(x-1)+1:=by omega
 have hs:4294967296-x=2^32-((x-1)+1):=by omega
 apply acH;intro i;rw[Nat.testBit_and,hs,Nat.testBit_two_pow_sub_succ (by omega),hpred,Nat.testBit_two_pow];grind
theorem RN {x k:Nat}(hx:x<4294967296)(h1:x.testBit k=true)(h2: ∀j,j<k->x.testBit j=false):bits .and .u32 (x:Int) (-(x:Int) % 4294967296)=((2^k:Nat):Int):=by
 have h0:0<x:=by
  grind
 have hn: -(x:Int) % 4294967296=((4294967296-x:Nat):Int):=by omega
 have hx1:(BitVec.ofInt 32 (x:Int)).toNat=x:=by simp_all
 have hx2:(BitVec.ofInt 32 ((4294967296-x:Nat):Int)).toNat=4294967296-x:=by grind
 rw[hn];show IntKind.u32.wrap ((BitVec.ofInt 32 (x:Int) &&& BitVec.ofInt 32 ((4294967296-x:Nat):Int)).toNat:Int)=_;have hlt:=(BitVec.ofInt 32 (x:Int) &&& BitVec.ofInt 32 ((4294967296-x:Nat):Int)).isLt;grind [IntKind.wrap_u32,Ue]
end Go.Av
end
section
namespace Go.Proofs.Tryz
open Go Go.Av
set_option maxRecDepth 10000
variable {W0 :World}
structure qL (W0:World):Prop where
 at_: ∀i,i<32->W0.cell? ⟨0,i,none⟩=some (.int .u8 ((Kk[i]?.getD 0:Nat):Int))
theorem abi (hW:qL W0){x k:Nat}(hx:x<4294967296)(hk:k<32)(h1:x.testBit k=true)(h2: ∀j,j<k->x.testBit j=false):ai prog W0 260 [.int .u32 x] (.int .i64 k):=by
 refine jc func260 (by kernel_rfl) (by kernel_rfl) λw C vs hb hlow hvl hv=>?_
 obtain _|⟨v1,_|⟨_,_⟩⟩:=vs<;>simp at hvl
 have g1:=(hv 0 _ _ rfl rfl).aH rfl;cases g1;clear hv;have hlb:=RN hx h1 h2;have h0:((x:Int)==0)=false:=by
  have:x≠0:=by grind
  simp_all
 have hti:=T6 k hk;have hlt:2^k<4294967296:=Nat.pow_lt_pow_right (a:=2) (by decide) hk;generalize 2^k=P at *;have hidx:((P:Int)*125613361 % 4294967296 / 134217728).toNat=((P*125613361) % 4294967296) >>> 27:=by
  grind [Nat.shiftRight_eq_div_pow]
 have hi32:((P*125613361) % 4294967296) >>> 27<32:=by omega
 have hat:=hW.at_ _ hi32;rw[hti,Option.getD_some]at hat;have hcell:=Hw hb hat;have hk8:(k:Int) % 256=k:=by omega
 go_enter func260,ntmps260
 go_wp2
 go_ret
 exact⟨_,rfl,.one rfl (.int _ _),RowKit.Below.refl _ w⟩
end Go.Proofs.Tryz
end
