/- What the last text of this claim rests on. No conditions. -/
import Derived.Test.YtbkobngljnnmgaaGreatDoorWap
set_option linter.unusedSimpArgs false
set_option linter.unusedVariables false
section
namespace Go.Av
abbrev Br:=Nat ×Nat×Nat
def sa (D:Dat)(gs:List (Bool×List Nat))(st:List Br):List Nat:=st.flatMap λb=>pA D (gs.drop b.1) b.2.1 b.2.2
def mo (D:Dat)(gs:List (Bool×List Nat))(st:List Br):Nat:=(st.map λb=>jP D (gs.drop b.1) b.2.1 b.2.2).sum
def Dj (D:Dat)(b:Br)(i:Nat):Br:=(b.1+1,b.2.1 ||| 2^i,b.2.2 ||| D.ry i)
def kids (D:Dat)(g:Bool×List Nat)(b:Br):List Br:=(if g.1=true then [(b.1+1,b.2.1,b.2.2)]else [])++(g.2.filter λi=>D.may i&& !b.2.2.testBit i).map (Dj D b)
section
variable {D :Dat}{gs:List (Bool×List Nat)}{st:List Br}{b:Br}
theorem O5 : ∀(gs:List (Bool×List Nat)) (s c:Nat),0<jP D gs s c
 |[],_,_=>Nat.one_pos
 |_::_,_,_=>by grind [jP]
theorem wm : ∀st:List Br,st.length<=mo D gs st
 |[]=>Nat.le_refl _
 |b::r=>by
  have h:=wm r;grind [O5,mo]
theorem wy (x y:List Br):mo D gs (x++y)=mo D gs x+mo D gs y:=by
 simp[mo]
theorem vV (x y:List Br):sa D gs (x++y)=sa D gs x++sa D gs y:=List.flatMap_append
theorem QP (h:b.1=gs.length):sa D gs (st++[b])=sa D gs st++(if D.hl b.2.1=true then [b.2.1]else [])/\mo D gs (st++[b])=mo D gs st+1:=by
 grind [sa,pA,mo,jP]
theorem Qc {g:Bool×List Nat}(h:gs[b.1]?=some g):sa D gs (st++[b])=sa D gs (st++kids D g b)/\mo D gs (st++[b])=mo D gs (st++kids D g b)+1:=by
 have e:gs.drop b.1=g::gs.drop (b.1+1):=by
  grind [List.drop_eq_getElem_cons]
 rw[vV,wy,vV,wy];refine⟨?_,?_⟩
 .congr 1;unfold kids;rw[vV];unfold sa;rw[List.flatMap_cons,e,pA,List.flatMap_nil,List.append_nil];congr 1
  .grind
  .rw[List.flatMap_map];rfl
 .unfold kids;rw[wy];unfold mo;simp only[List.map_cons,List.map_nil,List.sum_cons,List.sum_nil,e,jP,List.map_map];have e1:(List.map (λb:Br=>jP D (List.drop b.fst gs) b.snd.fst b.snd.snd) (if g.1=true then [(b.1+1,b.2.1,b.2.2)]else [])).sum=if g.1=true then jP D (gs.drop (b.1+1)) b.2.1 b.2.2 else 0:=by
   grind
  rw[e1];have e2:((λb:Br=>jP D (List.drop b.fst gs) b.snd.fst b.snd.snd)∘Dj D b)=λi=>jP D (gs.drop (b.1+1)) (b.2.1 ||| 2^i) (b.2.2 ||| D.ry i):=rfl
  grind
theorem Ml :sa D gs [(0,0,0)]=pA D gs 0 0/\mo D gs [(0,0,0)]=jP D gs 0 0:=by
 simp[sa,mo]
end
end Go.Av
end
