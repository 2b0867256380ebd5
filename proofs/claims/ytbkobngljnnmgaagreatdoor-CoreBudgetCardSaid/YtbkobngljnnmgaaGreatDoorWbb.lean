/- Texts that the last one of this claim rests on: a layer over the guide's own conditions for code; contracts of the functions that the law reaches, one by one. No conditions beside those of the given rows. -/
import Derived.Test.YtbkobngljnnmgaaGreatDoorWap
set_option linter.unusedSimpArgs false
set_option linter.unusedVariables false
section
namespace Go.Av
abbrev Br:=Nat ×Nat×Nat
def tf (D:Dat)(gs:List (Bool×List Nat))(st:List Br):List Nat:=st.flatMap λb=>pz D (gs.drop b.1) b.2.1 b.2.2
def mZ (D:Dat)(gs:List (Bool×List Nat))(st:List Br):Nat:=(st.map λb=>jP D (gs.drop b.1) b.2.1 b.2.2).sum
def CM (D:Dat)(b:Br)(i:Nat):Br:=(b.1+1,b.2.1 ||| 2^i,b.2.2 ||| D.rq i)
def kids (D:Dat)(g:Bool×List Nat)(b:Br):List Br:=(if g.1=true then [(b.1+1,b.2.1,b.2.2)]else [])++(g.2.filter λi=>D.may i&& !b.2.2.testBit i).map (CM D b)
section
variable {D :Dat}{gs:List (Bool×List Nat)}{st:List Br}{b:Br}
theorem Jf : ∀(gs:List (Bool×List Nat)) (s c:Nat),0<jP D gs s c
 |[],_,_=>Nat.one_pos
 |_::_,_,_=>by grind [jP]
theorem wq : ∀st:List Br,st.length<=mZ D gs st
 |[]=>Nat.le_refl _
 |b::r=>by
  have h:=wq r;grind [Jf,mZ]
theorem vE (x y:List Br):mZ D gs (x++y)=mZ D gs x+mZ D gs y:=by
 simp[mZ]
theorem vF (x y:List Br):tf D gs (x++y)=tf D gs x++tf D gs y:=List.flatMap_append
theorem Mn (h:b.1=gs.length):tf D gs (st++[b])=tf D gs st++(if D.hl b.2.1=true then [b.2.1]else [])/\mZ D gs (st++[b])=mZ D gs st+1:=by
 grind [tf,pz,mZ,jP]
theorem Me {g:Bool×List Nat}(h:gs[b.1]?=some g):tf D gs (st++[b])=tf D gs (st++kids D g b)/\mZ D gs (st++[b])=mZ D gs (st++kids D g b)+1:=by
 have e:gs.drop b.1=g::gs.drop (b.1+1):=by
  grind [List.drop_eq_getElem_cons]
 rw[vF,vE,vF,vE];refine⟨?_,?_⟩
 .congr 1;unfold kids;rw[vF];unfold tf;rw[List.flatMap_cons,e,pz,List.flatMap_nil,List.append_nil];congr 1
  .grind
  .rw[List.flatMap_map];rfl
 .unfold kids;rw[vE];unfold mZ;simp only[List.map_cons,List.map_nil,List.sum_cons,List.sum_nil,e,jP,List.map_map];have e1:(List.map (λb:Br=>jP D (List.drop b.fst gs) b.snd.fst b.snd.snd) (if g.1=true then [(b.1+1,b.2.1,b.2.2)]else [])).sum=if g.1=true then jP D (gs.drop (b.1+1)) b.2.1 b.2.2 else 0:=by
   grind
  rw[e1];have e2:((λb:Br=>jP D (List.drop b.fst gs) b.snd.fst b.snd.snd)∘CM D b)=λi=>jP D (gs.drop (b.1+1)) (b.2.1 ||| 2^i) (b.2.2 ||| D.rq i):=rfl
  grind
theorem HQ :tf D gs [(0,0,0)]=pz D gs 0 0/\mZ D gs [(0,0,0)]=jP D gs 0 0:=by
 simp[tf,mZ]
end
end Go.Av
end
