/- Texts that the last one of this claim rests on: a layer over the guide's own conditions for code; contracts of the functions that the law reaches, one by one. No conditions beside those of the given rows. -/
import Derived.Lib.Join
import Derived.Test.YtbooehmmhbioaaaGreatDoorWaa
import Derived.Test.YtbooehmmhbioaaaGreatDoorWah
set_option linter.unusedSimpArgs false
set_option linter.unusedVariables false
section
namespace Go.Av
def TI (r:Int):List UInt8:=if r=1 then [60,60]else if r=2 then [60,61]else if r=3 then [61]else if r=4 then [62,61]else if r=5 then [62,62]else []
end Go.Av
end
section
namespace Go.Av
def xQ (c:UInt8):Nat:=if c=32∨c=9 then 1 else if c=40∨c=41∨c=44∨c=124 then 2 else if c=60∨c=62∨c=61 then 3 else 0
def wsB (c:UInt8):Bool:=decide (xQ c=1)
def j2 (s:List UInt8):List UInt8:=s.dropWhile wsB
def xY (c:UInt8):Bool:=decide (xQ c=0∨xQ c=3)
def A0 (t:List UInt8):Int:=if [60,60].isPrefixOf t=true then 1 else if [60,61].isPrefixOf t=true then 2 else if [61].isPrefixOf t=true then 3 else if [62,61].isPrefixOf t=true then 4 else if [62,62].isPrefixOf t=true then 5 else 0
def RG (s:List UInt8):Option (Atom×List UInt8):=
 let s1:=j2 s
 if cP (s1.takeWhile xY)=true then
  match j2 (s1.dropWhile xY)with
  |[]=>some (⟨s1.takeWhile xY,0,[]⟩,[])
  |c::t=>if c=40 then
    let t1:=j2 t
    let t3:=j2 (t1.drop (TI (A0 t1)).length)
    if A0 t1≠0∧bs (t3.takeWhile xY)=true then
     match j2 (t3.dropWhile xY)with
     |[]=>none
     |d::t5=>if d=41 then some (⟨s1.takeWhile xY,A0 t1,t3.takeWhile xY⟩,t5)else none
    else none
   else some (⟨s1.takeWhile xY,0,[]⟩,c::t)
 else none
theorem JZ {c:UInt8}{t:List UInt8}(h:xQ c≠1):j2 (c::t)=c::t:=by
 unfold j2
 rw[List.dropWhile_cons,if_neg (by simp[wsB,h])]
theorem Ej {α:Type}{p:α→Bool}: ∀{l:List α} {c:α},c∈l.takeWhile p→p c=true
 |[],_,h=>by simp at h
 |d::r,c,h=>by
  rw[List.takeWhile_cons]at h
  split at h
  ·rename_i hd
   rcases List.mem_cons.1 h with rfl|h
   ·exact hd
   ·exact Ej h
  ·simp at h
end Go.Av
end
section
namespace Go.Av
def clR (may:Atom→Bool)(one:Bool):Nat→List UInt8→Clause→Except Int (Clause×List UInt8)
 |0,_,_=>.error 12
 |f+1,s,out=>match RG s with
  |none=>.error 3
  |some (a,t)=>if may a=false then .error 3 else if one=true then .ok (out++[a],j2 t)else match j2 t with
   |[]=>.ok (out++[a],[])
   |d::u=>if d=124 then clR may one f u (out++[a])else .ok (out++[a],d::u)
def SU (may:Atom→Bool)(one:Bool):Nat→List UInt8→List Clause→List Clause×Int
 |0,_,_=>([],12)
 |f+1,s,out=>match clR may one 6 s []with
  | .error e=>([],e)
  | .ok (c,t)=>match t with
   |[]=>(out++[c],0)
   |d::u=>if d=44 then SU may one f u (out++[c])else([],3)
def wT (may:Atom→Bool)(one:Bool)(s:List UInt8):List Clause×Int:=if j2 s=[]then([],0)else SU may one 12 s []
end Go.Av
end
section
namespace Go.Av
def lQ (s:List UInt8):List UInt8:=(s.reverse.dropWhile wsB).reverse
def j1 (s:List UInt8):List UInt8:=lQ (j2 s)
def LG (c:UInt8):UInt8:=if 65≤c.toNat∧c.toNat≤90 then c+32 else c
def K7 (a b:List UInt8):Bool:=decide (a.map LG=b.map LG)
def lP (l:List (List UInt8)):List UInt8:=Lib.join ((l.map j1).filter λt=>decide (t≠[])) [32]
theorem Am (u:List UInt8)(c:UInt8):lQ (u++[c])=if wsB c=true then lQ u else u++[c]:=by
 unfold lQ
 rw[List.reverse_append,List.reverse_cons,List.reverse_nil,List.nil_append,List.cons_append,List.nil_append,List.dropWhile_cons]
 split
 ·rfl
 ·simp
theorem C7 (s:List UInt8):(lQ s).length≤s.length:=by
 unfold lQ
 rw[List.length_reverse]
 exact Nat.le_trans (List.Sublist.length_le (List.dropWhile_sublist _)) (by simp)
theorem Cx (s:List UInt8):(j2 s).length≤s.length:=List.Sublist.length_le (List.dropWhile_sublist _)
theorem Cz (s:List UInt8):(j1 s).length≤s.length:=Nat.le_trans (C7 _) (Cx _)
theorem Il {l:List (List UInt8)}(x sep:List UInt8)(h:l≠[]):Lib.join (l++[x]) sep=Lib.join l sep++(sep++x):=by
 cases l with
 |nil=>exact absurd rfl h
 |cons y r=>
  rw[List.cons_append,Lib.join_cons,Lib.join_cons,Lib.joinTail,Lib.joinTail]
  simp
def nR (l:List (List UInt8)):List (List UInt8):=(l.map j1).filter λt=>decide (t≠[])
theorem vo {l:List (List UInt8)}:lP l=[]↔nR l=[]:=by
 unfold lP
 show Lib.join (nR l) [32]=[]↔nR l=[]
 cases hf:nR l with
 |nil=>simp[Lib.join_nil]
 |cons y r=>
  have hy:y≠[]:=by
   have:y∈nR l:=by rw[hf];simp
   have:=(List.mem_filter.1 this).2
   simpa using this
  rw[Lib.join_cons]
  simp[hy]
theorem Dp (l:List (List UInt8))(s:List UInt8):lP (l++[s])=if j1 s=[]then lP l else if lP l=[]then j1 s else lP l++([32]++j1 s):=by
 have e:nR (l++[s])=nR l++(if j1 s=[]then []else [j1 s]):=by
  unfold nR
  rw[List.map_append,List.filter_append]
  congr 1
  by_cases h:j1 s=[]<;>simp[h]
 show Lib.join (nR (l++[s])) [32]=_
 rw[e]
 by_cases h:j1 s=[]
 ·rw[if_pos h,if_pos h,List.append_nil];rfl
 ·rw[if_neg h,if_neg h]
  by_cases h2:lP l=[]
  ·rw[if_pos h2,vo.1 h2,List.nil_append,Lib.join_one]
  ·rw[if_neg h2,Il _ _ λe=>h2 (vo.2 e)]
   rfl
def vS (l:List (List UInt8)):Nat:=(l.map List.length).sum
theorem Du (l:List (List UInt8))(s:List UInt8):vS (l++[s])=vS l+s.length:=by simp[vS]
theorem td (l:List (List UInt8)): ∀i,(lP (l.take i)).length≤vS (l.take i)+i
 |0=>by simp[lP,Lib.join_nil]
 |i+1=>by
  have ih:=td l i
  cases hx:l[i]? with
  |none=>
   have:l.take (i+1)=l.take i:=by rw[List.take_add_one,hx];simp
   rw[this]
   omega
  |some s=>
   have:l.take (i+1)=l.take i++[s]:=by rw[List.take_add_one,hx];rfl
   rw[this,Dp,Du]
   have:=Cz s
   split
   ·omega
   ·split
    ·omega
    ·simp only[List.length_append,List.length_cons,List.length_nil];omega
theorem CY (l:List (List UInt8)):(lP l).length≤vS l+l.length:=by
 have:=td l l.length
 rwa [List.take_of_length_le (Nat.le_refl _)]at this
end Go.Av
end
section
namespace Go.Av
set_option maxRecDepth 10000
def iq (s:List UInt8)(i lo hi:Nat):Bool:=match s[i]? with
 |some c=>decide (lo≤c.toNat)&&decide (c.toNat≤hi)
 |none=>false
def uU (s:List UInt8):Nat:=match s with
 |[]=>0
 |c::_=>
  if c.toNat<128 then 1
  else if 194≤c.toNat∧c.toNat≤223∧iq s 1 128 191=true then 2
  else if (c.toNat=224∧iq s 1 160 191=true∧iq s 2 128 191=true)∨(c.toNat=237∧iq s 1 128 159=true∧iq s 2 128 191=true)then 3
  else if 225≤c.toNat∧c.toNat≤239∧c.toNat≠237∧iq s 1 128 191=true∧iq s 2 128 191=true then 3
  else if (c.toNat=240∧iq s 1 144 191=true∧iq s 2 128 191=true∧iq s 3 128 191=true)∨(c.toNat=244∧iq s 1 128 143=true∧iq s 2 128 191=true∧iq s 3 128 191=true)then 4
  else if 241≤c.toNat∧c.toNat≤243∧iq s 1 128 191=true∧iq s 2 128 191=true∧iq s 3 128 191=true then 4
  else 0
def Nb (c:UInt8):Bool:=(decide (c.toNat<32)&& !decide (c.toNat=9))||decide (c.toNat=127)
def BY :Nat→List UInt8→Nat→Int
 |0,_,_=>-1
 |_+1,[],_=>-1
 |f+1,c::r,i=>if uU (c::r)=0∨Nb c=true then(i:Int)else BY f ((c::r).drop (uU (c::r))) (i+uU (c::r))
def KT (s:List UInt8):Int:=BY s.length s 0
theorem za {c:UInt8}{r:List UInt8}(h:c.toNat<128):uU (c::r)=1:=by
 unfold uU
 simp only[h,if_true]
end Go.Av
end
