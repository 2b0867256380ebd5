/- Texts that the last one of this claim rests on: a layer over the guide's own conditions for code; contracts of the functions that the law reaches, one by one. No conditions beside those of the given rows. -/
import Derived.Shelf.GgClosure.StringsRunes
import Derived.Shelf.Unicode.DecodeAny
import Derived.Shelf.Strings.SplitShaped
import Derived.Shelf.Strings.Prefix
import Derived.Shelf.Strings.SlTrimAscii
import Derived.Shelf.Strconv.Itoa3
import Derived.Lib.SplitLaws
import Derived.Lib.IndexBytes
import Derived.Lib.TrimUEq
import Derived.Shelf.GgClosure.StringsTrimFunc
import Derived.Test.YtbooehmmhbioaaaGreatDoorProg
import Derived.Test.YtbooehmmhbioaaaGreatDoorWal
import Derived.Test.YtbooehmmhbioaaaGreatDoorWam
set_option linter.unusedSimpArgs false
set_option linter.unusedVariables false
section
namespace Go.Av
open Go
section
variable {P :Program}{W0 w w':World}{C:Ctx}{σ:ab}
theorem tv {f : FuncId} {fn : Func} {args : List AV} {r : AV} (hf : P.funcs[f]? = some fn) (hb : fn.body.isSome = true) (hnm : (fn.name == "runtime.NumGoroutine") = false)
  (h: ∀(w:World) (C:Ctx) (vs:List Value),RowKit.Below W0.heap.size W0 w→(∀i ow,C.m i=some ow→ow.blk<w.heap.size)→args.length=vs.length→(∀(i:Nat) (a:AV) (v:Value),args[i]?=some a→vs[i]?=some v→aF P w C a v)→
   Calls P f vs.toArray w λe w'=>∃ v,e= .returned v∧aF P w' C r v∧RowKit.Below w.heap.size w w'):ag P W0 f args r:=λσ w C vs hst hl hv=>
 .inl ⟨⟨fn,hf,hb,hnm⟩,(h w C vs hst.base (λi ow hm=>hst.AG hm) hl hv).mono λe w' ⟨v,he,hr,hB⟩=>by
  have hs:Step w C w' C:=.below hB
  exact⟨v,r,σ,C,he,⟨rfl,rfl⟩,hst.world hs λi ow hm=>hB.block _ (hst.AG hm),hr,hs⟩⟩
theorem AM (hb:RowKit.Below W0.heap.size W0 w){a:Addr}{c:Value}(h:W0.cell? a=some c):w.cell? a=some c:=by
 by_cases hl:a.block<W0.heap.size
 ·rw[hb.cell hl,h]
 ·have:W0.heap[a.block]?=none:=Array.getElem?_eq_none (by omega)
  simp only[World.cell?,this]at h
  cases h
end
end Go.Av
end
section
namespace Go.Av
def Cs :List Nat:=[0,1,28,2,29,14,24,3,30,22,20,15,25,17,4,8,31,27,13,23,21,19,16,7,26,12,18,6,11,5,10,9]
theorem Kj : ∀k,k<32→Cs[((2^k*125613361) % 4294967296) >>> 27]?=some k:=by decide
theorem Jt {x k:Nat}(hx:x<4294967296)(h1:x.testBit k=true)(h2: ∀j,j<k→x.testBit j=false):x &&& (4294967296-x)=2^k:=by
 have h0:0<x:=by
  rcases Nat.eq_zero_or_pos x with h|h
  ·subst h;simp at h1
  ·exact h
 have hd:x % 2^k=0:=by
  apply Nat.eq_of_testBit_eq
  intro i
  rw[Nat.testBit_mod_two_pow,Nat.zero_testBit]
  by_cases hi:i<k
  ·rw[h2 i hi];simp
  ·simp[hi]
 have hdm:=Nat.div_add_mod x (2^k)
 rw[hd,Nat.add_zero]at hdm
 have hq:(x / 2^k) % 2=1:=by
  have:=h1
  rw[Nat.testBit_eq_decide_div_mod_eq]at this
  exact of_decide_eq_true this
 have hpred: ∀i,(x-1).testBit i=(decide (i<k)||(decide (k<i)&&x.testBit i)):=by
  intro i
  generalize hm:x / 2^k / 2=m
  have hxm:x=2^(k+1)*m+2^k:=by
   have:x / 2^k=2*m+1:=by omega
   rw[←hdm,this,Nat.mul_add,Nat.mul_one,←Nat.mul_assoc,Nat.pow_succ]
  have hp:0<2^k:=Nat.two_pow_pos k
  have hx1:x-1=2^(k+1)*m+(2^k-1):=by omega
  have hlt1:2^k-1<2^(k+1):=by rw[Nat.pow_succ];omega
  have hlt2:2^k<2^(k+1):=by rw[Nat.pow_succ];omega
  rw[hx1,Nat.testBit_two_pow_mul_add _ hlt1,hxm,Nat.testBit_two_pow_mul_add _ hlt2,Nat.testBit_two_pow_sub_one]
  by_cases h3:i<k+1
  ·simp only[h3,↓reduceIte]
   by_cases h4:i<k
   ·simp[h4]
   ·have: ¬k<i:=by omega
    simp[h4,this]
  ·simp only[h3,↓reduceIte]
   have:k<i:=by omega
   have: ¬i<k:=by omega
   simp[*]
 have hxx:x=(x-1)+1:=by omega
 have hs:4294967296-x=2^32-((x-1)+1):=by omega
 apply Nat.eq_of_testBit_eq
 intro i
 rw[Nat.testBit_and,hs,Nat.testBit_two_pow_sub_succ (by omega),hpred,Nat.testBit_two_pow]
 by_cases h3:i<k
 ·have: ¬k=i:=by omega
  rw[h2 i h3];simp[this]
 ·by_cases h4:k=i
  ·subst h4
   have:k<32:=by
    rcases Nat.lt_or_ge k 32 with h|h
    ·exact h
    ·rw[Nat.testBit_lt_two_pow (Nat.lt_of_lt_of_le hx (show 4294967296≤2^k from Nat.pow_le_pow_right (n:=2) (by decide) h))]at h1
     cases h1
   simp[h1,this]
  ·have h5:k<i:=by omega
   cases x.testBit i<;>simp[h3,h4,h5]
theorem Gd {x k:Nat}(hx:x<4294967296)(h1:x.testBit k=true)(h2: ∀j,j<k→x.testBit j=false):bits .and .u32 (x:Int) (-(x:Int) % 4294967296)=((2^k:Nat):Int):=by
 have h0:0<x:=by
  rcases Nat.eq_zero_or_pos x with h|h
  ·subst h;simp at h1
  ·exact h
 have hn: -(x:Int) % 4294967296=((4294967296-x:Nat):Int):=by omega
 have hx1:(BitVec.ofInt 32 (x:Int)).toNat=x:=by simp;omega
 have hx2:(BitVec.ofInt 32 ((4294967296-x:Nat):Int)).toNat=4294967296-x:=by simp;omega
 rw[hn]
 show IntKind.u32.wrap ((BitVec.ofInt 32 (x:Int) &&& BitVec.ofInt 32 ((4294967296-x:Nat):Int)).toNat:Int)=_
 have hlt:=(BitVec.ofInt 32 (x:Int) &&& BitVec.ofInt 32 ((4294967296-x:Nat):Int)).isLt
 rw[IntKind.wrap_u32,←Jt hx h1 h2,BitVec.toNat_and,hx1,hx2]
 rw[BitVec.toNat_and,hx1,hx2]at hlt
 omega
end Go.Av
namespace Go.Proofs.Tryz
open Go Go.Av
set_option maxRecDepth 10000
variable {W0 :World}
structure rE (W0:World):Prop where
 at_: ∀i,i<32→W0.cell? ⟨0,i,none⟩=some (.int .u8 ((Cs[i]?.getD 0:Nat):Int))
theorem SP (hW:rE W0){x k:Nat}(hx:x<4294967296)(hk:k<32)(h1:x.testBit k=true)(h2: ∀j,j<k→x.testBit j=false):ag prog W0 174 [.int .u32 x] (.int .i64 k):=by
 refine tv func174 (by kernel_rfl) (by kernel_rfl) λw C vs hb hlow hvl hv=>?_
 obtain _|⟨v1,_|⟨_,_⟩⟩:=vs<;>simp at hvl
 have g1:=(hv 0 _ _ rfl rfl).aP rfl
 cases g1
 clear hv
 have hlb:=Gd hx h1 h2
 have h0:((x:Int)==0)=false:=by
  have:x≠0:=by rintro rfl;simp at h1
  exact beq_eq_false_iff_ne.2 (by omega)
 have hti:=Kj k hk
 have hlt:2^k<4294967296:=Nat.pow_lt_pow_right (a:=2) (by decide) hk
 generalize 2^k=P at *
 have hidx:((P:Int)*125613361 % 4294967296 / 134217728).toNat=((P*125613361) % 4294967296) >>> 27:=by
  rw[Nat.shiftRight_eq_div_pow,show(P:Int)*125613361 % 4294967296 / 134217728=((P*125613361 % 4294967296 / 2^27:Nat):Int) by simp,Int.toNat_natCast]
 have hi32:((P*125613361) % 4294967296) >>> 27<32:=by rw[Nat.shiftRight_eq_div_pow];omega
 have hat:=hW.at_ _ hi32
 rw[hti,Option.getD_some]at hat
 have hcell:=AM hb hat
 have hk8:(k:Int) % 256=k:=by omega
 go_enter func174,ntmps174
 go_wp2
 go_ret
 exact⟨_,rfl,.one rfl (.int _ _),RowKit.Below.refl _ w⟩
end Go.Proofs.Tryz
end
