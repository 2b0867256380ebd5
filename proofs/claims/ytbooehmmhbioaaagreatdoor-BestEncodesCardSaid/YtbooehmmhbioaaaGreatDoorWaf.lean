/- Texts that the last one of this claim rests on: a layer over the guide's own conditions for code; contracts of the functions that the law reaches, one by one. No conditions beside those of the given rows. -/
import Derived.Test.YtbooehmmhbioaaaGreatDoorWad
import Derived.Test.YtbooehmmhbioaaaGreatDoorWae
set_option linter.unusedSimpArgs false
set_option linter.unusedVariables false
section
namespace Go.Proofs.Tryz
open Go Go.Av
set_option maxRecDepth 10000
variable {W0 :World}
theorem Ae (c:UInt8):ag prog W0 112 [.int .u8 c.toNat] (.bool (iz c)):=by
 refine al [2] [] func112 rfl rfl ntmps112 rfl rfl (.bool _) λ_ σ=>?_
 simp only[go_sem,simprocAttr]
 exact ai (by rw[iz];congr 1<;>exact decide_eq_decide.2 (by omega))
theorem fc (c:UInt8):ag prog W0 113 [.int .u8 c.toNat] (.bool (aI c)):=by
 refine al [2] [] func113 rfl rfl ntmps113 rfl rfl (.bool _) λ_ σ=>?_
 simp only[go_sem,simprocAttr]
 exact ai (by rw[aI];congr 1<;>exact decide_eq_decide.2 (by omega))
theorem qa (c:UInt8):ag prog W0 165 [.int .u8 c.toNat] (.bool (cE c)):=by
 refine al [2] [] func165 rfl rfl ntmps165 rfl rfl (.bool _) λ_ σ=>?_
 simp only[go_sem,simprocAttr]
 refine ak.fn (Ae c) ?_
 simp only[go_sem,simprocAttr]
 refine ai ?_
 unfold cE
 congr 2<;>exact decide_eq_decide.2 (by omega)
theorem wh (a b:Int):ag prog W0 176 [.int .i64 a,.int .i64 b] (.int .i64 (sgn a b)):=by
 refine al [4] [] func176 rfl rfl ntmps176 rfl rfl (.int _ _) λ_ σ=>?_
 simp only[go_sem,simprocAttr]
 refine⟨λh=>ar (by simp[sgn,h]),λh=>⟨λh'=>ar (by simp[sgn,h,h']),λh'=>ar (by simp[sgn,h,h'])⟩⟩
theorem HU (s:List UInt8)(c:UInt8):ag prog W0 163 [.str s,.int .u8 c.toNat] (.int .i64 (aO c s)):=by
 refine al [4] [] func163 rfl rfl ntmps163 rfl rfl (.int _ _) λhs σ=>?_
 have hsl:s.length≤maxLen:=cT (hs _ (by simp))
 simp only[go_sem,simprocAttr]
 refine VC.upto [] s.length (λi A=>A.env 0= .str s∧A.env 1= .int .u8 c.toNat∧A.env 7= .int .i64 s.length∧A.env 8= .int .i64 i∧A.st=σ∧ ∀j d,j<i→s[j]?=some d→ ¬d=c) 0 (Nat.zero_le _) (.here ?_) λi A hi ⟨h0,h1,h7,h8,hst,hI⟩=>?_
 ·simp only[go_sem,simprocAttr]
 simp only[go_sem,simprocAttr,h0,h1,h7,h8,hst]
 refine⟨λhc=>⟨hc,λh=>?_,λh=>⟨hc,.here ?_⟩⟩,λhc=>?_⟩
 ·obtain⟨x,hx⟩:=get_some hc
  simp only[hx,Option.getD_some]at h
  subst h
  exact ar (Bu hx hI).symm
 ·simp only[go_sem,simprocAttr,h0,h1,h7,h8,hst]
  refine⟨ah hc hsl,λj d hj hd=>?_⟩
  rcases Nat.lt_succ_iff_lt_or_eq.1 hj with hj|rfl
  ·exact hI j d hj hd
  ·simpa[hd]using h
 ·exact ar (xw λj d hj=>hI j d (by have:=(List.getElem?_eq_some_iff.1 hj).1;omega) hj).symm
theorem IF (s:List UInt8)(c:UInt8):ag prog W0 164 [.str s,.int .u8 c.toNat] (.int .i64 (lastOf c s)):=by
 refine al [4] [] func164 rfl rfl ntmps164 rfl rfl (.int _ _) λhs σ=>?_
 have hsl:s.length≤9223372036854775807:=cT (hs _ (by simp))
 simp only[go_sem,simprocAttr]
 refine VC.cu [] (λk A=>A.env 0= .str s∧A.env 1= .int .u8 c.toNat∧A.env 5= .int .i64 ((k:Int)-1)∧A.st=σ∧k≤s.length∧lastOf c s=iY c s k) s.length (.here ?_) λk A ⟨h0,h1,h5,hst,hk,hI⟩=>?_
 ·simp only[go_sem,simprocAttr]
  simp[lastOf]
  exact aE (by omega)
 simp only[go_sem,simprocAttr,h0,h1,h5,hst]
 cases k with
 |zero=>
  refine⟨λh=>by simp at h,λ_=>ar hI.symm⟩
 |succ i=>
  have e:((i+1:Nat):Int)-1=(i:Int):=by omega
  simp only[e]
  obtain⟨x,hx⟩:=get_some (show i<s.length by omega)
  simp only[go_sem,simprocAttr,hx]
  have hib:(i:Int)-1≤9223372036854775807:=by omega
  refine⟨by omega,λh=>ar ?_,λh=>.here i (by omega) ?_⟩
  ·rw[hI,iY,hx,h];simp
  ·simp only[go_sem,simprocAttr,h0,h1,h5,hst]
   refine⟨?_,by omega,?_⟩
   ·rw[aE ⟨by omega,hib⟩]
   ·rw[hI,iY,hx,if_neg (by simpa using h)]
theorem rT (s:List UInt8)(i:Nat):ag prog W0 175 [.str s,.int .i64 i] (.int .i64 (lz s i)):=by
 refine al [4] [] func175 rfl rfl ntmps175 rfl rfl (.int _ _) λhs σ=>?_
 simp only[go_sem,simprocAttr]
 refine aA.fnG (λ_=>fc _) ?_
 simp only[go_sem,simprocAttr]
 refine⟨λh=>ar ?_,λh=>?_⟩
 ·cases hi:s[i]? with
  |none=>simp[lz,hi]
  |some c=>
   have:=(List.getElem?_eq_some_iff.1 hi).1
   simp only[hi,Option.getD_some,Bool.or_eq_true,decide_eq_true_eq]at h
   simp[lz,hi,h.resolve_left (by omega)]
 simp only[Bool.or_eq_false_iff,decide_eq_false_iff_not,Nat.not_le]at h
 obtain⟨c,hc⟩:=get_some h.1
 simp only[hc,Option.getD_some]at h ⊢
 refine⟨by omega,λh1=>ar ?_,λh1=>?_⟩
 ·have:c.toNat=126:=by omega
  simp[lz,hc,h.2,ri,this]
 refine ak.fn (qa c) ?_
 have h126: ¬c.toNat=126:=by omega
 have hc8:=c.toNat_lt
 simp only[go_sem,simprocAttr]
 refine⟨λh2=>ar ?_,λh2=>ar ?_⟩
 ·rw[aE (by omega)]
  simp[lz,hc,h.2,ri,h126,h2]
 ·rw[aE (by omega)]
  simp[lz,hc,h.2,ri,h126,h2]
theorem G8 (s:List UInt8):ag prog W0 178 [.str s] (.int .i64 (bb s)):=by
 refine al [2] [] func178 rfl rfl ntmps178 rfl rfl (.int _ _) λhs σ=>?_
 have hsl:s.length≤maxLen:=cT (hs _ (by simp))
 simp only[go_sem,simprocAttr]
 refine VC.upto [] s.length (λi A=>A.env 0= .str s∧A.env 3= .int .i64 i∧A.st=σ∧ ∀c∈s.take i,aI c=true) 0 (Nat.zero_le _) (.here ?_) λi A hi ⟨h0,h3,hst,hI⟩=>?_
 ·simp only[go_sem,simprocAttr]
  all_goals simp
 simp only[go_sem,simprocAttr,h0,h3,hst]
 refine aA.fnG (λ_=>fc _) ?_
 simp only[go_sem,simprocAttr,h0,h3,hst]
 rw[FZ,xQ]
 refine⟨λ⟨c,hc,hd⟩=>?_,λh=>ar (by rw[CX hi hI h])⟩
 have hlt:=(List.getElem?_eq_some_iff.1 hc).1
 refine⟨hlt,.here ?_⟩
 simp only[go_sem,simprocAttr,h0,h3,hst]
 refine⟨ah hlt hsl,λd hd'=>?_⟩
 rw[aj hc]at hd'
 rcases List.mem_append.1 hd' with h|h
 ·exact hI d h
 ·simp at h;rw[h];exact hd
theorem CG (s:List UInt8):ag prog W0 177 [.str s] (.str (fb (bj s))):=by
 refine al [2] [] func177 rfl rfl ntmps177 rfl rfl (.str _) λhs σ=>?_
 simp only[go_sem,simprocAttr]
 refine ae.cut (λA=>A.env 0= .str (bj s)∧A.st=σ) (λA ⟨h0,hst⟩=>?_) ?_
 ·simp only[go_sem,simprocAttr]
  refine VC.cu [] (λk A=>∃ t,A.env 0= .str t∧A.st=σ∧k=t.length∧fb t=fb (bj s)) (bj s).length (.here ⟨bj s,h0,hst,rfl,rfl⟩) λk A ⟨t,h0,hst,hk,hI⟩=>?_
  cases t with
  |nil=>
   simp only[go_sem,simprocAttr,h0,hst]
   exact fj hI
  |cons c r=>
   simp only[go_sem,simprocAttr,h0,hst]
   refine⟨λh=>.here r.length (by rw[hk];exact Nat.lt_succ_self _) ⟨r,?_⟩,λh=>fj ?_⟩
   ·simp only[go_sem,simprocAttr,h0,hst]
    have:c=48:=UInt8.toNat_inj.1 (by simp;omega)
    rw[←hI,this]
    simp[fb]
   ·rw[←hI]
    simp[fb,show ¬c=48 from λe=>h (by subst e;rfl)]
 refine VC.cu [] (λk A=>∃ t,A.env 0= .str t∧A.st=σ∧k=t.length∧bj t=bj s) s.length (.here ⟨s,?_⟩) λk A ⟨t,h0,hst,hk,hI⟩=>?_
 ·simp only[go_sem,simprocAttr]
 cases t with
 |nil=>
  simp only[go_sem,Nat.reduceEqDiff,Nat.reduceLT,↓reduceIte,Int.reduceToNat,Int.reduceLE,Int.reduceLT,Int.reduceEq,Int.reduceBEq,Int.reduceBNe,Int.reduceNeg,Int.reduceAdd,Int.reduceSub,Nat.reduceBEq,Nat.reduceAdd,Nat.reduceMul,Nat.reduceSub,Nat.reduceLeDiff,h0,hst]
  refine aA.fnG (λ_=>fc _) ?_
  simp only[go_sem,simprocAttr,h0,hst]
  rw[←hI];rfl
 |cons c r=>
  simp only[go_sem,simprocAttr,h0,hst]
  refine aA.fnG (λ_=>fc _) ?_
  simp only[go_sem,simprocAttr,h0,hst]
  refine⟨λh=>.here r.length (by rw[hk];exact Nat.lt_succ_self _) ⟨r,?_⟩,λh=>?_⟩
  ·simp only[go_sem,simprocAttr,h0,hst]
   rw[←hI]
   simp[bj,h]
  ·rw[←hI]
   simp[bj,h]
end Go.Proofs.Tryz
end
section
namespace Go.Proofs.Tryz
open Go Go.Av
set_option maxRecDepth 10000
variable {W0 :World}
theorem wN (a b:List UInt8):ag prog W0 128 [.str a,.str b] (.int .i64 (aZ a b)):=by
 refine al [4] [] func128 rfl rfl ntmps128 rfl rfl (.int _ _) λhs σ=>?_
 have hal:a.length≤maxLen:=cT (hs (.str a) (by simp))
 have hbl:b.length≤maxLen:=cT (hs (.str b) (by simp))
 simp only[go_sem,simprocAttr]
 refine VC.cu [] (λk A=>∃ x y,A.env 0= .str x∧A.env 1= .str y∧A.st=σ∧k=x.length+y.length∧aZ x y=aZ a b∧x.length≤maxLen∧y.length≤maxLen) (a.length+b.length) (.here ⟨a,b,?_⟩) λk A ⟨x,y,h0,h1,hst,hk,hI,hx,hy⟩=>?_
 ·simp only[go_sem,simprocAttr]
  simp[hal,hbl]
 simp only[go_sem,simprocAttr,h0,h1,hst]
 refine⟨λhc=>?_,λhc=>?_⟩
 case refine_2=>
  have:x=[]∧y=[]:=by cases x<;>cases y<;>simp at hc ⊢
  refine ar ?_
  rw[←hI,aZ,dif_pos this]
 have hne: ¬(x=[]∧y=[]):=λ⟨e,e'⟩=>by subst e e';simp at hc
 refine ae.cut (λA=>A.env 0= .str x∧A.env 1= .str y∧A.st=σ∧bL x y=0) (λA ⟨h0,h1,hst,hs0⟩=>?_) ?_
 case refine_2=>
  refine VC.upto [] x.length (λi A=>A.env 0= .str x∧A.env 1= .str y∧A.env 5= .int .i64 i∧A.st=σ∧bL (x.drop i) (y.drop i)=bL x y) 0 (Nat.zero_le _) (.here ?_) λi A hi ⟨h0,h1,h5,hst,hI'⟩=>?_
  ·simp only[go_sem,simprocAttr,h0,h1,hst]
   all_goals simp
  simp only[go_sem,simprocAttr,h0,h1,h5,hst]
  refine ak.fn (rT x i) ?_
  simp only[go_sem,simprocAttr,h0,h1,h5,hst]
  refine aA.fnG (λ_=>rT y i) ?_
  simp only[go_sem,simprocAttr,h0,h1,h5,hst]
  refine⟨λhr=>?_,λhr=>?_⟩
  case refine_2=>
   simp only[Bool.or_eq_false_iff,bne_eq_false_iff_eq]at hr
   rw[jA,jA]at hr
   rw[←hI',fG hr.1 hr.2]
  refine ak.fn (rT x i) ?_
  simp only[go_sem,simprocAttr,h0,h1,h5,hst]
  refine ak.fn (rT y i) ?_
  simp only[go_sem,simprocAttr,h0,h1,h5,hst]
  refine ak.fn (wh _ _) ?_
  simp only[go_sem,simprocAttr,h0,h1,h5,hst]
  rw[jA,jA]at hr ⊢
  refine⟨λhne'=>ar ?_,λhe=>?_⟩
  ·have hr1:rk (x.drop i)≠rk (y.drop i):=λe=>hne' (by rw[e,mm])
   have e:bL x y=sgn (rk (x.drop i)) (rk (y.drop i)):=by rw[←hI',dp hr1]
   rw[←hI,aZ,dif_neg hne,if_pos (by rw[e];exact hne'),e]
  ·have e:=nZ he
   have hr1:rk (x.drop i)≠0:=λh0=>by rw[←e,h0]at hr;simp at hr
   obtain⟨c,r,hcr,_⟩:=Ao hr1
   have hlt:i<x.length:=by
    rcases Nat.lt_or_ge i x.length with h|h
    ·exact h
    ·rw[List.drop_eq_nil_of_le h]at hcr;cases hcr
   refine⟨hlt,.here ?_⟩
   simp only[go_sem,simprocAttr,h0,h1,h5,hst]
   refine⟨ah hlt hx,?_⟩
   rw[←hI',fD hr1 e,List.tail_drop,List.tail_drop]
 simp only[go_sem,simprocAttr,h0,h1,hst]
 refine ak.fn (CG x) ?_
 simp only[go_sem,simprocAttr,h0,h1,hst]
 refine ak.fn (CG y) ?_
 simp only[go_sem,simprocAttr,h0,h1,hst]
 refine ak.fn (G8 _) ?_
 simp only[go_sem,simprocAttr,h0,h1,hst]
 refine ak.fn (G8 _) ?_
 simp only[go_sem,simprocAttr,h0,h1,hst]
 rw[show fb (bj x)=aJ x from rfl,show fb (bj y)=aJ y from rfl]
 have hnx:=rO x
 have hny:=rO y
 refine⟨λhm=>?_,λhm=>?_⟩
 ·refine ak.fn (wh _ _) ?_
  simp only[go_sem,simprocAttr,h0,h1,hst]
  refine ar ?_
  rw[←hI,aZ,dif_neg hne,if_neg (by simp[hs0]),if_pos hm]
 have hm1:=pJ (aJ x)
 have hm2:=pJ (aJ y)
 refine ae.cut (λA=>A.env 0= .str (aJ x)∧A.env 1= .str (aJ y)∧A.env 7= .int .i64 (bb (aJ x))∧A.env 8= .int .i64 (bb (aJ y))∧A.st=σ∧e7 ((aJ x).take (bb (aJ x))) ((aJ y).take (bb (aJ y)))=0) (λA ⟨h0,h1,h7,h8,hst,hl0⟩=>?_) ?_
 ·simp only[go_sem,simprocAttr,h0,h1,h7,h8,hst]
  refine⟨.of (by kernel_rfl),hm1,hm2,.here (((aJ x).drop (bb (aJ x))).length+((aJ y).drop (bb (aJ y))).length) (by rw[hk];exact sd hne) ⟨(aJ x).drop (bb (aJ x)),(aJ y).drop (bb (aJ y)),?_⟩⟩
  simp only[go_sem,simprocAttr,h0,h1,h7,h8,hst]
  refine⟨?_,by rw[List.length_drop];omega,by rw[List.length_drop];omega⟩
  rw[←hI,aZ.eq_def x y,dif_neg hne,if_neg (by simp[hs0]),if_neg (by simp[hm]),if_neg (by simp[hl0])]
 refine VC.upto [] (bb (aJ x)) (λi A=>A.env 0= .str (aJ x)∧A.env 1= .str (aJ y)∧A.env 7= .int .i64 (bb (aJ x))∧A.env 8= .int .i64 (bb (aJ y))∧A.env 53= .int .i64 (bb (aJ x))∧A.env 54= .int .i64 i∧A.st=σ∧(aJ x).take i=(aJ y).take i) 0 (Nat.zero_le _) (.here ?_) λi A hi ⟨h0,h1,h7,h8,h53,h54,hst,hp⟩=>?_
 ·simp only[go_sem,simprocAttr,h0,h1,hst]
  all_goals simp
 simp only[go_sem,simprocAttr,h0,h1,h7,h8,h53,h54,hst]
 refine⟨λhlt=>?_,λhge=>?_⟩
 ·obtain⟨c,hc⟩:=get_some (show i<(aJ x).length by omega)
  obtain⟨d,hd⟩:=get_some (show i<(aJ y).length by omega)
  have hc8:=c.toNat_lt
  have hd8:=d.toNat_lt
  refine⟨.of (by kernel_rfl),by omega,by omega,?_⟩
  simp only[hc,hd,Option.getD_some]
  refine aA.fn (wh _ _) ?_
  simp only[go_sem,simprocAttr,h0,h1,h7,h8,h53,h54,hst]
  refine⟨λhne'=>ar ?_,λhe=>⟨hlt,.here ?_⟩⟩
  ·have hcd:c≠d:=λe=>hne' (by rw[e,mm])
   have hl:e7 ((aJ x).take (bb (aJ x))) ((aJ y).take (bb (aJ y)))=sgn c.toNat d.toNat:=by
    refine Kb (i:=i) ?_ ?_ ?_ hcd
    ·rw[List.getElem?_take,if_pos hlt];exact hc
    ·rw[List.getElem?_take,if_pos (by omega)];exact hd
    ·rw[List.take_take,List.take_take,Nat.min_eq_left (by omega),Nat.min_eq_left (by omega)];exact hp
   rw[←hI,aZ.eq_def x y,dif_neg hne,if_neg (by simp[hs0]),if_neg (by simp[hm]),if_pos (by rw[hl];exact hne'),hl]
  ·simp only[go_sem,simprocAttr,h0,h1,h7,h8,h53,h54,hst]
   refine⟨ah hlt (Nat.le_trans hm1 (Nat.le_trans hnx hx)),?_⟩
   have:=nZ he
   rw[aj hc,aj hd,hp,show c=d from UInt8.toNat_inj.1 (by omega)]
 ·have:i=bb (aJ x):=by omega
  rw[←hm,←this,hp,Ez]
def lA :Option (List UInt8×List UInt8×List UInt8)→AV
 |none=>.tup [.str [],.str [],.str [],.bool false]
 |some (e,u,r)=>.tup [.str e,.str u,.str r,.bool true]
theorem DM (v:Option (List UInt8×List UInt8×List UInt8)):aU 0 (lA v):=by
 cases v<;>refine .tup λx hx=>?_<;>simp at hx
 ·rcases hx with rfl|rfl
  ·exact .str _
  ·exact .bool _
 ·rcases hx with rfl|rfl|rfl|rfl
  ·exact .str _
  ·exact .str _
  ·exact .str _
  ·exact .bool _
theorem lH {s:List UInt8}{f:UInt8→Bool}{i:Nat}{c:UInt8}(h:(s.take i).all f=true)(hc:s[i]?=some c)(hf:f c=true):(s.take (i+1)).all f=true:=by
 rw[aj hc,List.all_append,h];simp[hf]
theorem kB (s:List UInt8):ag prog W0 114 [.str s] (lA (eB s)):=by
 refine al [2,3,4,5] [] func114 rfl rfl ntmps114 rfl rfl (DM _) λhs σ=>?_
 have hsl:s.length≤maxLen:=cT (hs (.str s) (by simp))
 have none_end:eB s=none→cR (AV.tup [.str [],.str [],.str [],.bool false]) (lA (eB s)):=λe=>by rw[e];exact .refl _
 simp only[go_sem,simprocAttr]
 simp only[Bool.or_eq_true,Bool.or_eq_false_iff,decide_eq_true_eq,decide_eq_false_iff_not,beq_iff_eq,beq_eq_false_iff_ne]
 refine⟨λh=>none_end (by rw[eB,if_pos (by omega)]),λh=>?_⟩
 have hlen: ¬(s.length=0∨48<s.length):=by omega
 refine ak.fn (HU s 58) ?_
 simp only[go_sem,simprocAttr]
 refine cB.cut (λA=>∃ e t,qd s=some (e,t)∧A.env 0= .str t∧A.env 6= .str e∧A.env 7= .str []∧A.st=σ∧t.length≤s.length) (λA ⟨e,t,hep,h0,h6,h7,hst,htl⟩=>?_) (λhf=>?_) (λhf=>?_)
 case refine_3=>
  simp only[go_sem,simprocAttr]
  have hf': ¬(0≤aO 58 s):=by simpa using hf
  refine⟨[48],s,?_⟩
  simp[qd,hf']
 case refine_2=>
  obtain⟨i,hi,hgi,hlt⟩:=(gG 58 s).resolve_left (λe=>by rw[e.1]at hf;simp at hf)
  rw[hi]
  have hw:IntKind.i64.wrap ((i:Int)+1)=((i+1:Nat):Int):=iV hlt hsl
  have hep:qd s=if 1≤(s.take i).length∧(s.take i).length≤9∧(s.take i).all aI=true then some (s.take i,s.drop (i+1))else none:=by
   rw[qd,hi,if_pos (by omega)];rfl
  have bad: ¬(1≤(s.take i).length∧(s.take i).length≤9∧(s.take i).all aI=true)→eB s=none:=λhb=>by
   rw[eB,if_neg hlen,hep,if_neg hb]
  simp only[go_sem,simprocAttr,hw]
  refine⟨.of (by kernel_rfl),by omega,by omega,?_⟩
  simp only[Bool.or_eq_true,Bool.or_eq_false_iff,decide_eq_true_eq,decide_eq_false_iff_not]
  refine⟨λhb=>none_end (bad (by omega)),λhb=>?_⟩
  have htk:(s.take i).length=i:=by rw[List.length_take];omega
  refine VC.upto [] i (λj A=>A.env 0= .str (s.drop (i+1))∧A.env 6= .str (s.take i)∧A.env 7= .str []∧A.env 43= .int .i64 i∧A.env 44= .int .i64 j∧A.st=σ∧((s.take i).take j).all aI=true) 0 (Nat.zero_le _) (.here ?_) λj A hj ⟨h0,h6,h7,h43,h44,hst,hI⟩=>?_
  ·simp only[go_sem,simprocAttr]
   all_goals simp
   omega
  simp only[go_sem,simprocAttr,h0,h6,h7,h43,h44,hst]
  refine⟨λhlt'=>⟨by omega,?_⟩,λhge=>⟨s.take i,s.drop (i+1),?_⟩⟩
  ·obtain⟨c,hc⟩:=get_some (show j<(s.take i).length by omega)
   simp only[hc,Option.getD_some]
   refine ak.fn (fc c) ?_
   simp only[go_sem,simprocAttr,h0,h6,h7,h43,h44,hst]
   refine⟨λhd=>none_end (bad λhb=>?_),λhd=>⟨hlt',.here ?_⟩⟩
   ·have:=List.all_eq_true.1 hb.2.2 c (List.mem_of_getElem? hc)
    rw[hd]at this;cases this
   ·simp only[go_sem,simprocAttr,h0,h6,h7,h43,h44,hst]
    exact⟨ah hlt' (by omega),lH hI hc hd⟩
  ·have:j=i:=by omega
   rw[this,List.take_take,Nat.min_self]at hI
   simp only[go_sem,simprocAttr,h0,h6,h7,hst]
   rw[hep,if_pos ⟨by omega,by omega,hI⟩]
   simp
 simp only[go_sem,simprocAttr,h0,h6,h7,hst]
 refine ak.fn (IF t 45) ?_
 simp only[go_sem,simprocAttr,h0,h6,h7,hst]
 refine cB.cut (λA=>∃ u r,pE t=some (u,r)∧A.env 0= .str u∧A.env 6= .str e∧A.env 7= .str r∧A.st=σ∧u.length≤s.length∧r.length≤s.length) (λA ⟨u,r,hrv,h0,h6,h7,hst,hul,hrl⟩=>?_) (λhf=>?_) (λhf=>?_)
 case refine_3=>
  simp only[go_sem,simprocAttr,h0,h6,h7,hst]
  have hf': ¬(0≤lastOf 45 t):=by simpa using hf
  refine⟨t,[],?_⟩
  simp[pE,hf',htl]
 case refine_2=>
  obtain⟨i,hi,hgi,hlt⟩:=(pd 45 t).resolve_left (λe=>by rw[e.1]at hf;simp at hf)
  rw[hi]
  have hw:IntKind.i64.wrap ((i:Int)+1)=((i+1:Nat):Int):=iV hlt (by omega)
  have hrv:pE t=if t.drop (i+1)=[]then none else some (t.take i,t.drop (i+1)):=by
   rw[pE,hi,if_pos (by omega)];rfl
  simp only[go_sem,simprocAttr,hw,h0,h6,h7,hst]
  refine⟨.of (by kernel_rfl),by omega,by omega,λhb=>none_end (by rw[eB,if_neg hlen,hep];simp only[hrv,if_pos hb]),λhb=>⟨t.take i,t.drop (i+1),?_⟩⟩
  rw[hrv,if_neg hb]
  simp
  omega
 have hv:eB s=if r.all qX&&u.all zI&&fo u then some (e,u,r)else none:=by
  rw[eB,if_neg hlen,hep];simp only[hrv]
 simp only[go_sem,simprocAttr,h0,h6,h7,hst]
 refine ae.cut (λA=>A.env 0= .str u∧A.env 6= .str e∧A.env 7= .str r∧A.st=σ∧r.all qX=true) (λA ⟨h0,h6,h7,hst,hr⟩=>?_) ?_
 case refine_2=>
  refine VC.upto [] r.length (λj A=>A.env 0= .str u∧A.env 6= .str e∧A.env 7= .str r∧A.env 67= .int .i64 r.length∧A.env 68= .int .i64 j∧A.st=σ∧(r.take j).all qX=true) 0 (Nat.zero_le _) (.here ?_) λj A hj ⟨h0,h6,h7,h67,h68,hst,hI⟩=>?_
  ·simp only[go_sem,simprocAttr,h0,h6,h7,hst]
   all_goals simp
  simp only[go_sem,simprocAttr,h0,h6,h7,h67,h68,hst]
  refine⟨λhlt=>⟨hlt,?_⟩,λhge=>by rwa [List.take_of_length_le hge]at hI⟩
  obtain⟨c,hc⟩:=get_some hlt
  simp only[hc,Option.getD_some]
  refine ak.fn (qa c) ?_
  simp only[go_sem,simprocAttr,h0,h6,h7,h67,h68,hst]
  refine aA.fnG (λ_=>fc c) ?_
  simp only[go_sem,simprocAttr,h0,h6,h7,h67,h68,hst,Dt]
  refine⟨λhb=>none_end (by rw[hv,all_false hc hb];rfl),λhb=>⟨hlt,.here ?_⟩⟩
  simp only[go_sem,simprocAttr,h0,h6,h7,h67,h68,hst]
  exact⟨ah hlt (by omega),lH hI hc hb⟩
 simp only[go_sem,simprocAttr,h0,h6,h7,hst]
 refine ae.cut (λA=>A.env 0= .str u∧A.env 6= .str e∧A.env 7= .str r∧A.st=σ∧u.all zI=true) (λA ⟨h0,h6,h7,hst,hu⟩=>?_) ?_
 case refine_2=>
  refine VC.upto [] u.length (λj A=>A.env 0= .str u∧A.env 6= .str e∧A.env 7= .str r∧A.env 96= .int .i64 u.length∧A.env 97= .int .i64 j∧A.st=σ∧(u.take j).all zI=true) 0 (Nat.zero_le _) (.here ?_) λj A hj ⟨h0,h6,h7,h96,h97,hst,hI⟩=>?_
  ·simp only[go_sem,simprocAttr,h0,h6,h7,hst]
   all_goals simp
  simp only[go_sem,simprocAttr,h0,h6,h7,h96,h97,hst]
  refine⟨λhlt=>⟨hlt,?_⟩,λhge=>by rwa [List.take_of_length_le hge]at hI⟩
  obtain⟨c,hc⟩:=get_some hlt
  simp only[hc,Option.getD_some]
  refine ak.fn (qa c) ?_
  simp only[go_sem,simprocAttr,h0,h6,h7,h96,h97,hst]
  refine aA.fnG (λ_=>fc c) ?_
  simp only[go_sem,simprocAttr,h0,h6,h7,h96,h97,hst,GJ]
  refine⟨λhb=>none_end (by rw[hv,all_false hc hb];simp),λhb=>⟨hlt,.here ?_⟩⟩
  simp only[go_sem,simprocAttr,h0,h6,h7,h96,h97,hst]
  exact⟨ah hlt (by omega),lH hI hc hb⟩
 simp only[go_sem,simprocAttr,h0,h6,h7,hst]
 cases u with
 |nil=>
  simp only[go_sem,simprocAttr,h0,h6,h7,hst]
  refine aA.fnG (λ_=>fc 0) ?_
  simp only[go_sem,simprocAttr,h0,h6,h7,hst]
  exact none_end (by rw[hv];simp[fo])
 |cons c u'=>
  simp only[go_sem,simprocAttr,h0,h6,h7,hst]
  refine aA.fnG (λ_=>fc c) ?_
  simp only[go_sem,simprocAttr,h0,h6,h7,hst]
  refine⟨λhd=>none_end (by rw[hv];simp[fo,hd]),λhd=>?_⟩
  rw[hv,hr,hu]
  simp only[fo,hd,Bool.and_true,if_true]
  exact .refl _
theorem se (s:List UInt8):ag prog W0 52 [.str s] (.bool (bk s)):=by
 refine al [2] [] func52 rfl rfl ntmps52 rfl rfl (.bool _) λhs σ=>?_
 simp only[go_sem,simprocAttr]
 refine ak.fn (kB s) ?_
 cases h:eB s with
 |none=>simp only[go_sem,simprocAttr,lA];exact ai (by simp[bk,h])
 |some v=>obtain⟨e,u,r⟩:=v;simp only[go_sem,simprocAttr,lA];exact ai (by simp[bk,h])
theorem og (a b:List UInt8):ag prog W0 61 [.str a,.str b] (.int .i64 (bo a b)):=by
 refine al [4] [14] func61 rfl rfl ntmps61 rfl rfl (.int _ _) λhs σ=>?_
 simp only[go_sem,simprocAttr]
 refine ak.fn (kB a) ?_
 cases h:eB a with
 |none=>
  simp only[go_sem,simprocAttr,lA]
  refine ak.fn (kB b) ?_
  cases h':eB b with
  |none=>simp only[go_sem,simprocAttr,lA];exact ar (by simp[bo,h])
  |some v=>obtain⟨f,v,t⟩:=v;simp only[go_sem,simprocAttr,lA];exact ar (by simp[bo,h])
 |some v=>
  obtain⟨e,u,r⟩:=v
  simp only[go_sem,simprocAttr,lA]
  refine ak.fn (kB b) ?_
  cases h':eB b with
  |none=>simp only[go_sem,simprocAttr,lA];exact ar (by simp[bo,h,h'])
  |some v=>
   obtain⟨f,v,t⟩:=v
   simp only[go_sem,simprocAttr,lA]
   refine VC.upto _ 3 (λi A=>A.env 45= .agg 187 [.agg 186 [.str e,.str f],.agg 186 [.str u,.str v],.agg 186 [.str r,.str t]]∧A.env 46= .int .i64 i∧Ext σ A.st∧(1≤i→aZ e f=0)∧(2≤i→aZ u v=0)∧(3≤i→aZ r t=0)) 0 (Nat.zero_le _) (.here ?_) λi A hi ⟨h45,h46,hst,hI⟩=>?_
   ·simp only[go_sem,simprocAttr]
    simp[Ext.refl]
   obtain⟨hI1,hI2,hI3⟩:=hI
   have hc:bo a b=if aZ e f≠0 then aZ e f else if aZ u v≠0 then aZ u v else aZ r t:=by simp only[bo,h,h']
   rcases(show i=0∨i=1∨i=2∨i=3 by omega)with rfl|rfl|rfl|rfl
   ·simp only[go_sem,simprocAttr,h45,h46]
    refine ak.fn (wN e f) ?_
    simp only[go_sem,simprocAttr,h45,h46]
    refine⟨λhp=>⟨ar (by rw[hc,if_pos hp]),hst.app _⟩,λhp=>.here ?_⟩
    simp only[go_sem,simprocAttr,h45,h46]
    exact⟨hst.app _,by simp[hp]⟩
   ·simp only[go_sem,simprocAttr,h45,h46]
    refine ak.fn (wN u v) ?_
    simp only[go_sem,simprocAttr,h45,h46]
    refine⟨λhp=>⟨ar (by rw[hc,if_neg (by simp[hI1 (by omega)]),if_pos hp]),hst.app _⟩,λhp=>.here ?_⟩
    simp only[go_sem,simprocAttr,h45,h46]
    exact⟨hst.app _,by simp[hp,hI1 (by omega)]⟩
   ·simp only[go_sem,simprocAttr,h45,h46]
    refine ak.fn (wN r t) ?_
    simp only[go_sem,simprocAttr,h45,h46]
    refine⟨λhp=>⟨ar (by rw[hc,if_neg (by simp[hI1 (by omega)]),if_neg (by simp[hI2 (by omega)])]),hst.app _⟩,λhp=>.here ?_⟩
    simp only[go_sem,simprocAttr,h45,h46]
    exact⟨hst.app _,by simp[hp,hI1 (by omega),hI2 (by omega)]⟩
   ·simp only[go_sem,simprocAttr,h45,h46]
    exact⟨ar (by rw[hc,if_neg (by simp[hI1 (by omega)]),if_neg (by simp[hI2 (by omega)]),hI3 (by omega)]),hst⟩
theorem lJ (a b:List UInt8):ag prog W0 60 [.str a,.str b] (.bool (bm a b)):=by
 refine al [4] [] func60 rfl rfl ntmps60 rfl rfl (.bool _) λhs σ=>?_
 simp only[go_sem,simprocAttr]
 refine ak.fn (se a) ?_
 simp only[go_sem,simprocAttr]
 refine aA.fnG (λ_=>se b) ?_
 simp only[go_sem,simprocAttr]
 refine aA.fnG (λ_=>og a b) ?_
 simp only[go_sem,simprocAttr]
 exact ai rfl
theorem zw (rel:Int)(a b:List UInt8):ag prog W0 138 [.int .i64 rel,.str a,.str b] (.bool (ec rel a b)):=by
 refine al [6] [] func138 rfl rfl ntmps138 rfl rfl (.bool _) λhs σ=>?_
 simp only[go_sem,simprocAttr]
 refine⟨λh0=>ak.fn (se a) ?_,λh0=>ak.fn (se a) ?_⟩
 ·simp only[go_sem,simprocAttr]
  exact ai (by rw[ec,if_pos h0])
 simp only[go_sem,simprocAttr]
 refine aA.fnG (λ_=>se b) ?_
 simp only[go_sem,simprocAttr]
 refine⟨λhb=>?_,λhb=>?_⟩
 ·have:(bk a&&bk b)=false:=by revert hb;cases bk a<;>cases bk b<;>simp
  exact ai (by rw[ec,if_neg h0,this];rfl)
 have hv:(bk a&&bk b)=true:=by revert hb;cases bk a<;>cases bk b<;>simp
 have hh:ec rel a b=(if rel=1 then decide (bo a b<0)else if rel=2 then decide (bo a b≤0)else if rel=3 then bo a b==0
   else if rel=4 then decide (0≤bo a b)else if rel=5 then decide (0<bo a b)else false):=by rw[ec,if_neg h0,if_pos hv]
 refine ak.fn (og a b) ?_
 simp only[go_sem,simprocAttr]
 refine⟨λh1=>ai (by rw[hh,if_pos h1]),λh1=>⟨λh2=>ai (by rw[hh,if_neg h1,if_pos h2]),λh2=>⟨λh3=>ai (by rw[hh,if_neg h1,if_neg h2,if_pos h3]),λh3=>⟨λh4=>ai (by rw[hh,if_neg h1,if_neg h2,if_neg h3,if_pos h4]),λh4=>⟨λh5=>ai (by rw[hh,if_neg h1,if_neg h2,if_neg h3,if_neg h4,if_pos h5]),λh5=>ai (by rw[hh,if_neg h1,if_neg h2,if_neg h3,if_neg h4,if_neg h5])⟩⟩⟩⟩⟩
def oU (rel:Int):List UInt8:=if rel=1 then [60,60]else if rel=2 then [60,61]else if rel=3 then [61]else if rel=4 then [62,61]else if rel=5 then [62,62]else []
theorem HG (rel:Int):ag prog W0 194 [.int .i64 rel] (.str (oU rel)):=by
 refine al [2] [] func194 rfl rfl ntmps194 rfl rfl (.str _) λhs σ=>?_
 simp only[go_sem,simprocAttr]
 refine⟨λh1=>fj (by rw[oU,if_pos h1]),λh1=>⟨λh2=>fj (by rw[oU,if_neg h1,if_pos h2]),λh2=>⟨λh3=>fj (by rw[oU,if_neg h1,if_neg h2,if_pos h3]),λh3=>⟨λh4=>fj (by rw[oU,if_neg h1,if_neg h2,if_neg h3,if_pos h4]),λh4=>⟨λh5=>fj (by rw[oU,if_neg h1,if_neg h2,if_neg h3,if_neg h4,if_pos h5]),λh5=>fj (by rw[oU,if_neg h1,if_neg h2,if_neg h3,if_neg h4,if_neg h5])⟩⟩⟩⟩⟩
end Go.Proofs.Tryz
end
