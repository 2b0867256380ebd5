/- Texts that the last one of this claim rests on: a layer over the guide's own conditions for code; contracts of the functions that the law reaches, one by one. No conditions beside those of the given rows. -/
import Derived.Test.YtbooehmmhbioaaaGreatDoorWap
set_option linter.unusedSimpArgs false
set_option linter.unusedVariables false
section
namespace Go.Av
abbrev Br:=Nat ×Nat×Nat
def re (D:Dat)(gs:List (Bool×List Nat))(st:List Br):List Nat:=st.flatMap λb=>nL D (gs.drop b.1) b.2.1 b.2.2
def lx (D:Dat)(gs:List (Bool×List Nat))(st:List Br):Nat:=(st.map λb=>iA D (gs.drop b.1) b.2.1 b.2.2).sum
def zA (D:Dat)(b:Br)(i:Nat):Br:=(b.1+1,b.2.1 ||| 2^i,b.2.2 ||| D.lZ i)
def kids (D:Dat)(g:Bool×List Nat)(b:Br):List Br:=(if g.1=true then [(b.1+1,b.2.1,b.2.2)]else [])++(g.2.filter λi=>D.may i&& !b.2.2.testBit i).map (zA D b)
section
variable {D :Dat}{gs:List (Bool×List Nat)}{st:List Br}{b:Br}
theorem Hc : ∀(gs:List (Bool×List Nat)) (s c:Nat),0<iA D gs s c
 |[],_,_=>Nat.one_pos
 |_::_,_,_=>by rw[iA];omega
theorem tc : ∀st:List Br,st.length≤lx D gs st
 |[]=>Nat.le_refl _
 |b::r=>by
  have h:=tc r
  have h1:=Hc (D:=D) (gs.drop b.1) b.2.1 b.2.2
  unfold lx at *
  rw[List.map_cons,List.sum_cons,List.length_cons]
  omega
theorem oV (x y:List Br):lx D gs (x++y)=lx D gs x+lx D gs y:=by
 unfold lx
 rw[List.map_append,List.sum_append]
theorem oY (x y:List Br):re D gs (x++y)=re D gs x++re D gs y:=List.flatMap_append
theorem Hw (h:b.1=gs.length):re D gs (st++[b])=re D gs st++(if D.hl b.2.1=true then [b.2.1]else [])∧lx D gs (st++[b])=lx D gs st+1:=by
 have e:gs.drop b.1=[]:=List.drop_eq_nil_of_le (by omega)
 rw[oY,oV]
 refine⟨?_,?_⟩
 ·unfold re
  rw[List.flatMap_cons,e,nL,List.flatMap_nil,List.append_nil]
 ·unfold lx
  simp[e,iA]
theorem HB {g:Bool×List Nat}(h:gs[b.1]?=some g):re D gs (st++[b])=re D gs (st++kids D g b)∧lx D gs (st++[b])=lx D gs (st++kids D g b)+1:=by
 have e:gs.drop b.1=g::gs.drop (b.1+1):=by
  have hl:=(List.getElem?_eq_some_iff.1 h)
  rw[List.drop_eq_getElem_cons hl.1,hl.2]
 rw[oY,oV,oY,oV]
 refine⟨?_,?_⟩
 ·congr 1
  unfold kids
  rw[oY]
  unfold re
  rw[List.flatMap_cons,e,nL,List.flatMap_nil,List.append_nil]
  congr 1
  ·split<;>simp
  ·rw[List.flatMap_map]
   rfl
 ·unfold kids
  rw[oV]
  unfold lx
  simp only[List.map_cons,List.map_nil,List.sum_cons,List.sum_nil,e,iA,List.map_map]
  have e1:(List.map (λb:Br=>iA D (List.drop b.fst gs) b.snd.fst b.snd.snd) (if g.1=true then [(b.1+1,b.2.1,b.2.2)]else [])).sum=if g.1=true then iA D (gs.drop (b.1+1)) b.2.1 b.2.2 else 0:=by
   split<;>simp
  rw[e1]
  have e2:((λb:Br=>iA D (List.drop b.fst gs) b.snd.fst b.snd.snd)∘zA D b)=λi=>iA D (gs.drop (b.1+1)) (b.2.1 ||| 2^i) (b.2.2 ||| D.lZ i):=rfl
  rw[e2]
  omega
theorem FA :re D gs [(0,0,0)]=nL D gs 0 0∧lx D gs [(0,0,0)]=iA D gs 0 0:=by
 constructor
 ·simp[re]
 ·simp[lx]
end
end Go.Av
end
