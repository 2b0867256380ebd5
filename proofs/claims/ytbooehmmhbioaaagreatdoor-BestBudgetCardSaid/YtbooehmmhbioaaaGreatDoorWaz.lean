/- Texts that the last one of this claim rests on: a layer over the guide's own conditions for code; contracts of the functions that the law reaches, one by one. No conditions beside those of the given rows. -/
import Derived.Test.YtbooehmmhbioaaaGreatDoorWap
set_option linter.unusedSimpArgs false
set_option linter.unusedVariables false
section
namespace Go.Av
abbrev Br:=Nat ×Nat×Nat
def qM (D:Dat)(gs:List (Bool×List Nat))(st:List Br):List Nat:=st.flatMap λb=>nh D (gs.drop b.1) b.2.1 b.2.2
def kU (D:Dat)(gs:List (Bool×List Nat))(st:List Br):Nat:=(st.map λb=>gW D (gs.drop b.1) b.2.1 b.2.2).sum
def zE (D:Dat)(b:Br)(i:Nat):Br:=(b.1+1,b.2.1 ||| 2^i,b.2.2 ||| D.lk i)
def kids (D:Dat)(g:Bool×List Nat)(b:Br):List Br:=(if g.1=true then [(b.1+1,b.2.1,b.2.2)]else [])++(g.2.filter λi=>D.may i&& !b.2.2.testBit i).map (zE D b)
section
variable {D :Dat}{gs:List (Bool×List Nat)}{st:List Br}{b:Br}
theorem HA : ∀(gs:List (Bool×List Nat)) (s c:Nat),0<gW D gs s c
 |[],_,_=>Nat.one_pos
 |_::_,_,_=>by rw[gW];omega
theorem sg : ∀st:List Br,st.length≤kU D gs st
 |[]=>Nat.le_refl _
 |b::r=>by
  have h:=sg r
  have h1:=HA (D:=D) (gs.drop b.1) b.2.1 b.2.2
  unfold kU at *
  rw[List.map_cons,List.sum_cons,List.length_cons]
  omega
theorem pM (x y:List Br):kU D gs (x++y)=kU D gs x+kU D gs y:=by
 unfold kU
 rw[List.map_append,List.sum_append]
theorem oG (x y:List Br):qM D gs (x++y)=qM D gs x++qM D gs y:=List.flatMap_append
theorem HI (h:b.1=gs.length):qM D gs (st++[b])=qM D gs st++(if D.hl b.2.1=true then [b.2.1]else [])∧kU D gs (st++[b])=kU D gs st+1:=by
 have e:gs.drop b.1=[]:=List.drop_eq_nil_of_le (by omega)
 rw[oG,pM]
 refine⟨?_,?_⟩
 ·unfold qM
  rw[List.flatMap_cons,e,nh,List.flatMap_nil,List.append_nil]
 ·unfold kU
  simp[e,gW]
theorem Hf {g:Bool×List Nat}(h:gs[b.1]?=some g):qM D gs (st++[b])=qM D gs (st++kids D g b)∧kU D gs (st++[b])=kU D gs (st++kids D g b)+1:=by
 have e:gs.drop b.1=g::gs.drop (b.1+1):=by
  have hl:=(List.getElem?_eq_some_iff.1 h)
  rw[List.drop_eq_getElem_cons hl.1,hl.2]
 rw[oG,pM,oG,pM]
 refine⟨?_,?_⟩
 ·congr 1
  unfold kids
  rw[oG]
  unfold qM
  rw[List.flatMap_cons,e,nh,List.flatMap_nil,List.append_nil]
  congr 1
  ·split<;>simp
  ·rw[List.flatMap_map]
   rfl
 ·unfold kids
  rw[pM]
  unfold kU
  simp only[List.map_cons,List.map_nil,List.sum_cons,List.sum_nil,e,gW,List.map_map]
  have e1:(List.map (λb:Br=>gW D (List.drop b.fst gs) b.snd.fst b.snd.snd) (if g.1=true then [(b.1+1,b.2.1,b.2.2)]else [])).sum=if g.1=true then gW D (gs.drop (b.1+1)) b.2.1 b.2.2 else 0:=by
   split<;>simp
  rw[e1]
  have e2:((λb:Br=>gW D (List.drop b.fst gs) b.snd.fst b.snd.snd)∘zE D b)=λi=>gW D (gs.drop (b.1+1)) (b.2.1 ||| 2^i) (b.2.2 ||| D.lk i):=rfl
  rw[e2]
  omega
theorem Dv :qM D gs [(0,0,0)]=nh D gs 0 0∧kU D gs [(0,0,0)]=gW D gs 0 0:=by
 constructor
 ·simp[qM]
 ·simp[kU]
end
end Go.Av
end
