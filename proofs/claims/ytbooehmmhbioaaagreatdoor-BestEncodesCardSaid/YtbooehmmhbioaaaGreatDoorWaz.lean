/- Texts that the last one of this claim rests on: a layer over the guide's own conditions for code; contracts of the functions that the law reaches, one by one. No conditions beside those of the given rows. -/
import Derived.Test.YtbooehmmhbioaaaGreatDoorWap
set_option linter.unusedSimpArgs false
set_option linter.unusedVariables false
section
namespace Go.Av
abbrev Br:=Nat ×Nat×Nat
def qM (D:Dat)(gs:List (Bool×List Nat))(st:List Br):List Nat:=st.flatMap λb=>nk D (gs.drop b.1) b.2.1 b.2.2
def kS (D:Dat)(gs:List (Bool×List Nat))(st:List Br):Nat:=(st.map λb=>ie D (gs.drop b.1) b.2.1 b.2.2).sum
def yR (D:Dat)(b:Br)(i:Nat):Br:=(b.1+1,b.2.1 ||| 2^i,b.2.2 ||| D.lk i)
def kids (D:Dat)(g:Bool×List Nat)(b:Br):List Br:=(if g.1=true then [(b.1+1,b.2.1,b.2.2)]else [])++(g.2.filter λi=>D.may i&& !b.2.2.testBit i).map (yR D b)
section
variable {D :Dat}{gs:List (Bool×List Nat)}{st:List Br}{b:Br}
theorem FJ : ∀(gs:List (Bool×List Nat)) (s c:Nat),0<ie D gs s c
 |[],_,_=>Nat.one_pos
 |_::_,_,_=>by rw[ie];omega
theorem tS : ∀st:List Br,st.length≤kS D gs st
 |[]=>Nat.le_refl _
 |b::r=>by
  have h:=tS r
  have h1:=FJ (D:=D) (gs.drop b.1) b.2.1 b.2.2
  unfold kS at *
  rw[List.map_cons,List.sum_cons,List.length_cons]
  omega
theorem o9 (x y:List Br):kS D gs (x++y)=kS D gs x+kS D gs y:=by
 unfold kS
 rw[List.map_append,List.sum_append]
theorem pz (x y:List Br):qM D gs (x++y)=qM D gs x++qM D gs y:=List.flatMap_append
theorem Gc (h:b.1=gs.length):qM D gs (st++[b])=qM D gs st++(if D.hl b.2.1=true then [b.2.1]else [])∧kS D gs (st++[b])=kS D gs st+1:=by
 have e:gs.drop b.1=[]:=List.drop_eq_nil_of_le (by omega)
 rw[pz,o9]
 refine⟨?_,?_⟩
 ·unfold qM
  rw[List.flatMap_cons,e,nk,List.flatMap_nil,List.append_nil]
 ·unfold kS
  simp[e,ie]
theorem Gn {g:Bool×List Nat}(h:gs[b.1]?=some g):qM D gs (st++[b])=qM D gs (st++kids D g b)∧kS D gs (st++[b])=kS D gs (st++kids D g b)+1:=by
 have e:gs.drop b.1=g::gs.drop (b.1+1):=by
  have hl:=(List.getElem?_eq_some_iff.1 h)
  rw[List.drop_eq_getElem_cons hl.1,hl.2]
 rw[pz,o9,pz,o9]
 refine⟨?_,?_⟩
 ·congr 1
  unfold kids
  rw[pz]
  unfold qM
  rw[List.flatMap_cons,e,nk,List.flatMap_nil,List.append_nil]
  congr 1
  ·split<;>simp
  ·rw[List.flatMap_map]
   rfl
 ·unfold kids
  rw[o9]
  unfold kS
  simp only[List.map_cons,List.map_nil,List.sum_cons,List.sum_nil,e,ie,List.map_map]
  have e1:(List.map (λb:Br=>ie D (List.drop b.fst gs) b.snd.fst b.snd.snd) (if g.1=true then [(b.1+1,b.2.1,b.2.2)]else [])).sum=if g.1=true then ie D (gs.drop (b.1+1)) b.2.1 b.2.2 else 0:=by
   split<;>simp
  rw[e1]
  have e2:((λb:Br=>ie D (List.drop b.fst gs) b.snd.fst b.snd.snd)∘yR D b)=λi=>ie D (gs.drop (b.1+1)) (b.2.1 ||| 2^i) (b.2.2 ||| D.lk i):=rfl
  rw[e2]
  omega
theorem D6 :qM D gs [(0,0,0)]=nk D gs 0 0∧kS D gs [(0,0,0)]=ie D gs 0 0:=by
 constructor
 ·simp[qM]
 ·simp[kS]
end
end Go.Av
end
