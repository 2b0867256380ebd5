/- Texts that the last one of this claim rests on: a layer over the guide's own conditions for code; contracts of the functions that the law reaches, one by one. No conditions beside those of the given rows. -/
import Derived.Lib.Join
import Derived.Test.YtbooehmmhbioaaaGreatDoorWaa
import Derived.Test.YtbooehmmhbioaaaGreatDoorWag
set_option linter.unusedSimpArgs false
set_option linter.unusedVariables false
section
namespace Go.Av
def Sq (r:Int):List UInt8:=if r=1 then [60,60]else if r=2 then [60,61]else if r=3 then [61]else if r=4 then [62,61]else if r=5 then [62,62]else []
end Go.Av
end
section
namespace Go.Av
def xJ (c:UInt8):Nat:=if c=32∨c=9 then 1 else if c=40∨c=41∨c=44∨c=124 then 2 else if c=60∨c=62∨c=61 then 3 else 0
def wsB (c:UInt8):Bool:=decide (xJ c=1)
def kg (s:List UInt8):List UInt8:=s.dropWhile wsB
def yj (c:UInt8):Bool:=decide (xJ c=0∨xJ c=3)
def Bf (t:List UInt8):Int:=if [60,60].isPrefixOf t=true then 1 else if [60,61].isPrefixOf t=true then 2 else if [61].isPrefixOf t=true then 3 else if [62,61].isPrefixOf t=true then 4 else if [62,62].isPrefixOf t=true then 5 else 0
def UP (s:List UInt8):Option (Atom×List UInt8):=
 let s1:=kg s
 if dc (s1.takeWhile yj)=true then
  match kg (s1.dropWhile yj)with
  |[]=>some (⟨s1.takeWhile yj,0,[]⟩,[])
  |c::t=>if c=40 then
    let t1:=kg t
    let t3:=kg (t1.drop (Sq (Bf t1)).length)
    if Bf t1≠0∧bk (t3.takeWhile yj)=true then
     match kg (t3.dropWhile yj)with
     |[]=>none
     |d::t5=>if d=41 then some (⟨s1.takeWhile yj,Bf t1,t3.takeWhile yj⟩,t5)else none
    else none
   else some (⟨s1.takeWhile yj,0,[]⟩,c::t)
 else none
theorem JF {c:UInt8}{t:List UInt8}(h:xJ c≠1):kg (c::t)=c::t:=by
 unfold kg
 rw[List.dropWhile_cons,if_neg (by simp[wsB,h])]
theorem HB {α:Type}{p:α→Bool}: ∀{l:List α} {c:α},c∈l.takeWhile p→p c=true
 |[],_,h=>by simp at h
 |d::r,c,h=>by
  rw[List.takeWhile_cons]at h
  split at h
  ·rename_i hd
   rcases List.mem_cons.1 h with rfl|h
   ·exact hd
   ·exact HB h
  ·simp at h
end Go.Av
end
section
namespace Go.Av
def clR (may:Atom→Bool)(one:Bool):Nat→List UInt8→Clause→Except Int (Clause×List UInt8)
 |0,_,_=>.error 12
 |f+1,s,out=>match UP s with
  |none=>.error 3
  |some (a,t)=>if may a=false then .error 3 else if one=true then .ok (out++[a],kg t)else match kg t with
   |[]=>.ok (out++[a],[])
   |d::u=>if d=124 then clR may one f u (out++[a])else .ok (out++[a],d::u)
def Vr (may:Atom→Bool)(one:Bool):Nat→List UInt8→List Clause→List Clause×Int
 |0,_,_=>([],12)
 |f+1,s,out=>match clR may one 6 s []with
  | .error e=>([],e)
  | .ok (c,t)=>match t with
   |[]=>(out++[c],0)
   |d::u=>if d=44 then Vr may one f u (out++[c])else([],3)
def xh (may:Atom→Bool)(one:Bool)(s:List UInt8):List Clause×Int:=if kg s=[]then([],0)else Vr may one 12 s []
end Go.Av
end
section
namespace Go.Av
def mb (s:List UInt8):List UInt8:=(s.reverse.dropWhile wsB).reverse
def kh (s:List UInt8):List UInt8:=mb (kg s)
def NA (c:UInt8):UInt8:=if 65≤c.toNat∧c.toNat≤90 then c+32 else c
def LO (a b:List UInt8):Bool:=decide (a.map NA=b.map NA)
def ml (l:List (List UInt8)):List UInt8:=Lib.join ((l.map kh).filter λt=>decide (t≠[])) [32]
theorem A7 (u:List UInt8)(c:UInt8):mb (u++[c])=if wsB c=true then mb u else u++[c]:=by
 unfold mb
 rw[List.reverse_append,List.reverse_cons,List.reverse_nil,List.nil_append,List.cons_append,List.nil_append,List.dropWhile_cons]
 split
 ·rfl
 ·simp
theorem Ek (s:List UInt8):(mb s).length≤s.length:=by
 unfold mb
 rw[List.length_reverse]
 exact Nat.le_trans (List.Sublist.length_le (List.dropWhile_sublist _)) (by simp)
theorem Ea (s:List UInt8):(kg s).length≤s.length:=List.Sublist.length_le (List.dropWhile_sublist _)
theorem DS (s:List UInt8):(kh s).length≤s.length:=Nat.le_trans (Ek _) (Ea _)
theorem J5 {l:List (List UInt8)}(x sep:List UInt8)(h:l≠[]):Lib.join (l++[x]) sep=Lib.join l sep++(sep++x):=by
 cases l with
 |nil=>exact absurd rfl h
 |cons y r=>
  rw[List.cons_append,Lib.join_cons,Lib.join_cons,Lib.joinTail,Lib.joinTail]
  simp
def oH (l:List (List UInt8)):List (List UInt8):=(l.map kh).filter λt=>decide (t≠[])
theorem vo {l:List (List UInt8)}:ml l=[]↔oH l=[]:=by
 unfold ml
 show Lib.join (oH l) [32]=[]↔oH l=[]
 cases hf:oH l with
 |nil=>simp[Lib.join_nil]
 |cons y r=>
  have hy:y≠[]:=by
   have:y∈oH l:=by rw[hf];simp
   have:=(List.mem_filter.1 this).2
   simpa using this
  rw[Lib.join_cons]
  simp[hy]
theorem De (l:List (List UInt8))(s:List UInt8):ml (l++[s])=if kh s=[]then ml l else if ml l=[]then kh s else ml l++([32]++kh s):=by
 have e:oH (l++[s])=oH l++(if kh s=[]then []else [kh s]):=by
  unfold oH
  rw[List.map_append,List.filter_append]
  congr 1
  by_cases h:kh s=[]<;>simp[h]
 show Lib.join (oH (l++[s])) [32]=_
 rw[e]
 by_cases h:kh s=[]
 ·rw[if_pos h,if_pos h,List.append_nil];rfl
 ·rw[if_neg h,if_neg h]
  by_cases h2:ml l=[]
  ·rw[if_pos h2,vo.1 h2,List.nil_append,Lib.join_one]
  ·rw[if_neg h2,J5 _ _ λe=>h2 (vo.2 e)]
   rfl
def wZ (l:List (List UInt8)):Nat:=(l.map List.length).sum
theorem Eh (l:List (List UInt8))(s:List UInt8):wZ (l++[s])=wZ l+s.length:=by simp[wZ]
theorem tE (l:List (List UInt8)): ∀i,(ml (l.take i)).length≤wZ (l.take i)+i
 |0=>by simp[ml,Lib.join_nil]
 |i+1=>by
  have ih:=tE l i
  cases hx:l[i]? with
  |none=>
   have:l.take (i+1)=l.take i:=by rw[List.take_add_one,hx];simp
   rw[this]
   omega
  |some s=>
   have:l.take (i+1)=l.take i++[s]:=by rw[List.take_add_one,hx];rfl
   rw[this,De,Eh]
   have:=DS s
   split
   ·omega
   ·split
    ·omega
    ·simp only[List.length_append,List.length_cons,List.length_nil];omega
theorem DL (l:List (List UInt8)):(ml l).length≤wZ l+l.length:=by
 have:=tE l l.length
 rwa [List.take_of_length_le (Nat.le_refl _)]at this
end Go.Av
end
section
namespace Go.Av
set_option maxRecDepth 10000
def iH (s:List UInt8)(i lo hi:Nat):Bool:=match s[i]? with
 |some c=>decide (lo≤c.toNat)&&decide (c.toNat≤hi)
 |none=>false
def vn (s:List UInt8):Nat:=match s with
 |[]=>0
 |c::_=>
  if c.toNat<128 then 1
  else if 194≤c.toNat∧c.toNat≤223∧iH s 1 128 191=true then 2
  else if (c.toNat=224∧iH s 1 160 191=true∧iH s 2 128 191=true)∨(c.toNat=237∧iH s 1 128 159=true∧iH s 2 128 191=true)then 3
  else if 225≤c.toNat∧c.toNat≤239∧c.toNat≠237∧iH s 1 128 191=true∧iH s 2 128 191=true then 3
  else if (c.toNat=240∧iH s 1 144 191=true∧iH s 2 128 191=true∧iH s 3 128 191=true)∨(c.toNat=244∧iH s 1 128 143=true∧iH s 2 128 191=true∧iH s 3 128 191=true)then 4
  else if 241≤c.toNat∧c.toNat≤243∧iH s 1 128 191=true∧iH s 2 128 191=true∧iH s 3 128 191=true then 4
  else 0
def MB (c:UInt8):Bool:=(decide (c.toNat<32)&& !decide (c.toNat=9))||decide (c.toNat=127)
def CD :Nat→List UInt8→Nat→Int
 |0,_,_=>-1
 |_+1,[],_=>-1
 |f+1,c::r,i=>if vn (c::r)=0∨MB c=true then(i:Int)else CD f ((c::r).drop (vn (c::r))) (i+vn (c::r))
def LQ (s:List UInt8):Int:=CD s.length s 0
theorem zn {c:UInt8}{r:List UInt8}(h:c.toNat<128):vn (c::r)=1:=by
 unfold vn
 simp only[h,if_true]
end Go.Av
end
