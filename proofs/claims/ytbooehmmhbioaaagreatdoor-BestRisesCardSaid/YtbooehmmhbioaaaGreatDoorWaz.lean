/- Texts that the last one of this claim rests on: a layer over the guide's own conditions for code; contracts of the functions that the law reaches, one by one. No conditions beside those of the given rows. -/
import Derived.Test.YtbooehmmhbioaaaGreatDoorWap
set_option linter.unusedSimpArgs false
set_option linter.unusedVariables false
section
namespace Go.Av
abbrev Br:=Nat ×Nat×Nat
def qg (D:Dat)(gs:List (Bool×List Nat))(st:List Br):List Nat:=st.flatMap λb=>ny D (gs.drop b.1) b.2.1 b.2.2
def kG (D:Dat)(gs:List (Bool×List Nat))(st:List Br):Nat:=(st.map λb=>hZ D (gs.drop b.1) b.2.1 b.2.2).sum
def zV (D:Dat)(b:Br)(i:Nat):Br:=(b.1+1,b.2.1 ||| 2^i,b.2.2 ||| D.lH i)
def kids (D:Dat)(g:Bool×List Nat)(b:Br):List Br:=(if g.1=true then [(b.1+1,b.2.1,b.2.2)]else [])++(g.2.filter λi=>D.may i&& !b.2.2.testBit i).map (zV D b)
section
variable {D :Dat}{gs:List (Bool×List Nat)}{st:List Br}{b:Br}
theorem Fg : ∀(gs:List (Bool×List Nat)) (s c:Nat),0<hZ D gs s c
 |[],_,_=>Nat.one_pos
 |_::_,_,_=>by rw[hZ];omega
theorem ta : ∀st:List Br,st.length≤kG D gs st
 |[]=>Nat.le_refl _
 |b::r=>by
  have h:=ta r
  have h1:=Fg (D:=D) (gs.drop b.1) b.2.1 b.2.2
  unfold kG at *
  rw[List.map_cons,List.sum_cons,List.length_cons]
  omega
theorem oJ (x y:List Br):kG D gs (x++y)=kG D gs x+kG D gs y:=by
 unfold kG
 rw[List.map_append,List.sum_append]
theorem pq (x y:List Br):qg D gs (x++y)=qg D gs x++qg D gs y:=List.flatMap_append
theorem Gh (h:b.1=gs.length):qg D gs (st++[b])=qg D gs st++(if D.hl b.2.1=true then [b.2.1]else [])∧kG D gs (st++[b])=kG D gs st+1:=by
 have e:gs.drop b.1=[]:=List.drop_eq_nil_of_le (by omega)
 rw[pq,oJ]
 refine⟨?_,?_⟩
 ·unfold qg
  rw[List.flatMap_cons,e,ny,List.flatMap_nil,List.append_nil]
 ·unfold kG
  simp[e,hZ]
theorem HX {g:Bool×List Nat}(h:gs[b.1]?=some g):qg D gs (st++[b])=qg D gs (st++kids D g b)∧kG D gs (st++[b])=kG D gs (st++kids D g b)+1:=by
 have e:gs.drop b.1=g::gs.drop (b.1+1):=by
  have hl:=(List.getElem?_eq_some_iff.1 h)
  rw[List.drop_eq_getElem_cons hl.1,hl.2]
 rw[pq,oJ,pq,oJ]
 refine⟨?_,?_⟩
 ·congr 1
  unfold kids
  rw[pq]
  unfold qg
  rw[List.flatMap_cons,e,ny,List.flatMap_nil,List.append_nil]
  congr 1
  ·split<;>simp
  ·rw[List.flatMap_map]
   rfl
 ·unfold kids
  rw[oJ]
  unfold kG
  simp only[List.map_cons,List.map_nil,List.sum_cons,List.sum_nil,e,hZ,List.map_map]
  have e1:(List.map (λb:Br=>hZ D (List.drop b.fst gs) b.snd.fst b.snd.snd) (if g.1=true then [(b.1+1,b.2.1,b.2.2)]else [])).sum=if g.1=true then hZ D (gs.drop (b.1+1)) b.2.1 b.2.2 else 0:=by
   split<;>simp
  rw[e1]
  have e2:((λb:Br=>hZ D (List.drop b.fst gs) b.snd.fst b.snd.snd)∘zV D b)=λi=>hZ D (gs.drop (b.1+1)) (b.2.1 ||| 2^i) (b.2.2 ||| D.lH i):=rfl
  rw[e2]
  omega
theorem Ej :qg D gs [(0,0,0)]=ny D gs 0 0∧kG D gs [(0,0,0)]=hZ D gs 0 0:=by
 constructor
 ·simp[qg]
 ·simp[kG]
end
end Go.Av
end
