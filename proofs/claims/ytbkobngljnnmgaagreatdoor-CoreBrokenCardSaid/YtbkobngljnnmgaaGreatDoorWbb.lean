/- What the last text of this claim rests on. No conditions. -/
import Derived.Test.YtbkobngljnnmgaaGreatDoorWap
set_option linter.unusedSimpArgs false
set_option linter.unusedVariables false
section
namespace Go.Av
abbrev Br:=Nat ×Nat×Nat
def s5 (D:Dat)(gs:List (Bool×List Nat))(st:List Br):List Nat:=st.flatMap λb=>pG D (gs.drop b.1) b.2.1 b.2.2
def mF (D:Dat)(gs:List (Bool×List Nat))(st:List Br):Nat:=(st.map λb=>j2 D (gs.drop b.1) b.2.1 b.2.2).sum
def D7 (D:Dat)(b:Br)(i:Nat):Br:=(b.1+1,b.2.1 ||| 2^i,b.2.2 ||| D.rA i)
def kids (D:Dat)(g:Bool×List Nat)(b:Br):List Br:=(if g.1=true then [(b.1+1,b.2.1,b.2.2)]else [])++(g.2.filter λi=>D.may i&& !b.2.2.testBit i).map (D7 D b)
section
variable {D :Dat}{gs:List (Bool×List Nat)}{st:List Br}{b:Br}
theorem Ra : ∀(gs:List (Bool×List Nat)) (s c:Nat),0<j2 D gs s c
 |[],_,_=>Nat.one_pos
 |_::_,_,_=>by grind [j2]
theorem yb : ∀st:List Br,st.length<=mF D gs st
 |[]=>Nat.le_refl _
 |b::r=>by
  have h:=yb r;grind [Ra,mF]
theorem xG (x y:List Br):mF D gs (x++y)=mF D gs x+mF D gs y:=by
 simp[mF]
theorem vE (x y:List Br):s5 D gs (x++y)=s5 D gs x++s5 D gs y:=List.flatMap_append
theorem Sj (h:b.1=gs.length):s5 D gs (st++[b])=s5 D gs st++(if D.hl b.2.1=true then [b.2.1]else [])/\mF D gs (st++[b])=mF D gs st+1:=by
 grind [s5,pG,mF,j2]
theorem Rw {g:Bool×List Nat}(h:gs[b.1]?=some g):s5 D gs (st++[b])=s5 D gs (st++kids D g b)/\mF D gs (st++[b])=mF D gs (st++kids D g b)+1:=by
 have e:gs.drop b.1=g::gs.drop (b.1+1):=by
  grind [List.drop_eq_getElem_cons]
 rw[vE,xG,vE,xG];refine⟨?_,?_⟩
 .congr 1;unfold kids;rw[vE];unfold s5;rw[List.flatMap_cons,e,pG,List.flatMap_nil,List.append_nil];congr 1
  .grind
  .rw[List.flatMap_map];rfl
 .unfold kids;rw[xG];unfold mF;simp only[List.map_cons,List.map_nil,List.sum_cons,List.sum_nil,e,j2,List.map_map];have e1:(List.map (λb:Br=>j2 D (List.drop b.fst gs) b.snd.fst b.snd.snd) (if g.1=true then [(b.1+1,b.2.1,b.2.2)]else [])).sum=if g.1=true then j2 D (gs.drop (b.1+1)) b.2.1 b.2.2 else 0:=by
   grind
  rw[e1];have e2:((λb:Br=>j2 D (List.drop b.fst gs) b.snd.fst b.snd.snd)∘D7 D b)=λi=>j2 D (gs.drop (b.1+1)) (b.2.1 ||| 2^i) (b.2.2 ||| D.rA i):=rfl
  grind
theorem Md :s5 D gs [(0,0,0)]=pG D gs 0 0/\mF D gs [(0,0,0)]=j2 D gs 0 0:=by
 simp[s5,mF]
end
end Go.Av
end
