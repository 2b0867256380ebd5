/- Texts that the last one of this claim rests on: a layer over the guide's own conditions for code; contracts of the functions that the law reaches, one by one. No conditions beside those of the given rows. -/
import Derived.Test.YtbooehmmhbioaaaGreatDoorWaq
set_option linter.unusedSimpArgs false
set_option linter.unusedVariables false
section
namespace Go.Av
abbrev Br:=Nat ×Nat×Nat
def pX (D:Dat)(gs:List (Bool×List Nat))(st:List Br):List Nat:=st.flatMap λb=>mG D (gs.drop b.1) b.2.1 b.2.2
def ku (D:Dat)(gs:List (Bool×List Nat))(st:List Br):Nat:=(st.map λb=>gN D (gs.drop b.1) b.2.1 b.2.2).sum
def zC (D:Dat)(b:Br)(i:Nat):Br:=(b.1+1,b.2.1 ||| 2^i,b.2.2 ||| D.kZ i)
def kids (D:Dat)(g:Bool×List Nat)(b:Br):List Br:=(if g.1=true then [(b.1+1,b.2.1,b.2.2)]else [])++(g.2.filter λi=>D.may i&& !b.2.2.testBit i).map (zC D b)
section
variable {D :Dat}{gs:List (Bool×List Nat)}{st:List Br}{b:Br}
theorem G9 : ∀(gs:List (Bool×List Nat)) (s c:Nat),0<gN D gs s c
 |[],_,_=>Nat.one_pos
 |_::_,_,_=>by rw[gN];omega
theorem sf : ∀st:List Br,st.length≤ku D gs st
 |[]=>Nat.le_refl _
 |b::r=>by
  have h:=sf r
  have h1:=G9 (D:=D) (gs.drop b.1) b.2.1 b.2.2
  unfold ku at *
  rw[List.map_cons,List.sum_cons,List.length_cons]
  omega
theorem oR (x y:List Br):ku D gs (x++y)=ku D gs x+ku D gs y:=by
 unfold ku
 rw[List.map_append,List.sum_append]
theorem od (x y:List Br):pX D gs (x++y)=pX D gs x++pX D gs y:=List.flatMap_append
theorem G4 (h:b.1=gs.length):pX D gs (st++[b])=pX D gs st++(if D.hl b.2.1=true then [b.2.1]else [])∧ku D gs (st++[b])=ku D gs st+1:=by
 have e:gs.drop b.1=[]:=List.drop_eq_nil_of_le (by omega)
 rw[od,oR]
 refine⟨?_,?_⟩
 ·unfold pX
  rw[List.flatMap_cons,e,mG,List.flatMap_nil,List.append_nil]
 ·unfold ku
  simp[e,gN]
theorem GF {g:Bool×List Nat}(h:gs[b.1]?=some g):pX D gs (st++[b])=pX D gs (st++kids D g b)∧ku D gs (st++[b])=ku D gs (st++kids D g b)+1:=by
 have e:gs.drop b.1=g::gs.drop (b.1+1):=by
  have hl:=(List.getElem?_eq_some_iff.1 h)
  rw[List.drop_eq_getElem_cons hl.1,hl.2]
 rw[od,oR,od,oR]
 refine⟨?_,?_⟩
 ·congr 1
  unfold kids
  rw[od]
  unfold pX
  rw[List.flatMap_cons,e,mG,List.flatMap_nil,List.append_nil]
  congr 1
  ·split<;>simp
  ·rw[List.flatMap_map]
   rfl
 ·unfold kids
  rw[oR]
  unfold ku
  simp only[List.map_cons,List.map_nil,List.sum_cons,List.sum_nil,e,gN,List.map_map]
  have e1:(List.map (λb:Br=>gN D (List.drop b.fst gs) b.snd.fst b.snd.snd) (if g.1=true then [(b.1+1,b.2.1,b.2.2)]else [])).sum=if g.1=true then gN D (gs.drop (b.1+1)) b.2.1 b.2.2 else 0:=by
   split<;>simp
  rw[e1]
  have e2:((λb:Br=>gN D (List.drop b.fst gs) b.snd.fst b.snd.snd)∘zC D b)=λi=>gN D (gs.drop (b.1+1)) (b.2.1 ||| 2^i) (b.2.2 ||| D.kZ i):=rfl
  rw[e2]
  omega
theorem DJ :pX D gs [(0,0,0)]=mG D gs 0 0∧ku D gs [(0,0,0)]=gN D gs 0 0:=by
 constructor
 ·simp[pX]
 ·simp[ku]
end
end Go.Av
end
