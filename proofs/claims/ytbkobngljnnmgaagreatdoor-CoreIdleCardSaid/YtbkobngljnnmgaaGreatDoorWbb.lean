/- What the last text of this claim rests on. No conditions. -/
import Derived.Test.YtbkobngljnnmgaaGreatDoorWap
set_option linter.unusedSimpArgs false
set_option linter.unusedVariables false
section
namespace Go.Av
abbrev Br:=Nat ×Nat×Nat
def sH (D:Dat)(gs:List (Bool×List Nat))(st:List Br):List Nat:=st.flatMap λb=>pL D (gs.drop b.1) b.2.1 b.2.2
def mU (D:Dat)(gs:List (Bool×List Nat))(st:List Br):Nat:=(st.map λb=>jU D (gs.drop b.1) b.2.1 b.2.2).sum
def Fu (D:Dat)(b:Br)(i:Nat):Br:=(b.1+1,b.2.1 ||| 2^i,b.2.2 ||| D.rI i)
def kids (D:Dat)(g:Bool×List Nat)(b:Br):List Br:=(if g.1=true then [(b.1+1,b.2.1,b.2.2)]else [])++(g.2.filter λi=>D.may i&& !b.2.2.testBit i).map (Fu D b)
section
variable {D :Dat}{gs:List (Bool×List Nat)}{st:List Br}{b:Br}
theorem TD : ∀(gs:List (Bool×List Nat)) (s c:Nat),0<jU D gs s c
 |[],_,_=>Nat.one_pos
 |_::_,_,_=>by grind [jU]
theorem wy : ∀st:List Br,st.length<=mU D gs st
 |[]=>Nat.le_refl _
 |b::r=>by
  have h:=wy r;grind [TD,mU]
theorem yg (x y:List Br):mU D gs (x++y)=mU D gs x+mU D gs y:=by
 simp[mU]
theorem wa (x y:List Br):sH D gs (x++y)=sH D gs x++sH D gs y:=List.flatMap_append
theorem Qb (h:b.1=gs.length):sH D gs (st++[b])=sH D gs st++(if D.hl b.2.1=true then [b.2.1]else [])/\mU D gs (st++[b])=mU D gs st+1:=by
 grind [sH,pL,mU,jU]
theorem TZ {g:Bool×List Nat}(h:gs[b.1]?=some g):sH D gs (st++[b])=sH D gs (st++kids D g b)/\mU D gs (st++[b])=mU D gs (st++kids D g b)+1:=by
 have e:gs.drop b.1=g::gs.drop (b.1+1):=by
  grind [List.drop_eq_getElem_cons]
 rw[wa,yg,wa,yg];refine⟨?_,?_⟩
 .congr 1;unfold kids;rw[wa];unfold sH;rw[List.flatMap_cons,e,pL,List.flatMap_nil,List.append_nil];congr 1
  .grind
  .rw[List.flatMap_map];rfl
 .unfold kids;rw[yg];unfold mU;simp only[List.map_cons,List.map_nil,List.sum_cons,List.sum_nil,e,jU,List.map_map];have e1:(List.map (λb:Br=>jU D (List.drop b.fst gs) b.snd.fst b.snd.snd) (if g.1=true then [(b.1+1,b.2.1,b.2.2)]else [])).sum=if g.1=true then jU D (gs.drop (b.1+1)) b.2.1 b.2.2 else 0:=by
   grind
  rw[e1];have e2:((λb:Br=>jU D (List.drop b.fst gs) b.snd.fst b.snd.snd)∘Fu D b)=λi=>jU D (gs.drop (b.1+1)) (b.2.1 ||| 2^i) (b.2.2 ||| D.rI i):=rfl
  grind
theorem LR :sH D gs [(0,0,0)]=pL D gs 0 0/\mU D gs [(0,0,0)]=jU D gs 0 0:=by
 simp[sH,mU]
end
end Go.Av
end
