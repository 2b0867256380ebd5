/- Texts that the last one of this claim rests on: a layer over the guide's own conditions for code; contracts of the functions that the law reaches, one by one. No conditions beside those of the given rows. -/
import Derived.Lib.Join
import Derived.Test.YtbooehmmhbioaaaGreatDoorWaa
import Derived.Test.YtbooehmmhbioaaaGreatDoorWag
set_option linter.unusedSimpArgs false
set_option linter.unusedVariables false
section
namespace Go.Av
def Ta (r:Int):List UInt8:=if r=1 then [60,60]else if r=2 then [60,61]else if r=3 then [61]else if r=4 then [62,61]else if r=5 then [62,62]else []
end Go.Av
end
section
namespace Go.Av
def A6 (c:UInt8):Nat:=if c=32∨c=9 then 1 else if c=40∨c=41∨c=44∨c=124 then 2 else if c=60∨c=62∨c=61 then 3 else 0
def wsB (c:UInt8):Bool:=decide (A6 c=1)
def kU (s:List UInt8):List UInt8:=s.dropWhile wsB
def A7 (c:UInt8):Bool:=decide (A6 c=0∨A6 c=3)
def Bz (t:List UInt8):Int:=if [60,60].isPrefixOf t=true then 1 else if [60,61].isPrefixOf t=true then 2 else if [61].isPrefixOf t=true then 3 else if [62,61].isPrefixOf t=true then 4 else if [62,62].isPrefixOf t=true then 5 else 0
def Wl (s:List UInt8):Option (Atom×List UInt8):=
 let s1:=kU s
 if cW (s1.takeWhile A7)=true then
  match kU (s1.dropWhile A7)with
  |[]=>some (⟨s1.takeWhile A7,0,[]⟩,[])
  |c::t=>if c=40 then
    let t1:=kU t
    let t3:=kU (t1.drop (Ta (Bz t1)).length)
    if Bz t1≠0∧bn (t3.takeWhile A7)=true then
     match kU (t3.dropWhile A7)with
     |[]=>none
     |d::t5=>if d=41 then some (⟨s1.takeWhile A7,Bz t1,t3.takeWhile A7⟩,t5)else none
    else none
   else some (⟨s1.takeWhile A7,0,[]⟩,c::t)
 else none
theorem JV {c:UInt8}{t:List UInt8}(h:A6 c≠1):kU (c::t)=c::t:=by
 unfold kU
 rw[List.dropWhile_cons,if_neg (by simp[wsB,h])]
theorem Gj {α:Type}{p:α→Bool}: ∀{l:List α} {c:α},c∈l.takeWhile p→p c=true
 |[],_,h=>by simp at h
 |d::r,c,h=>by
  rw[List.takeWhile_cons]at h
  split at h
  ·rename_i hd
   rcases List.mem_cons.1 h with rfl|h
   ·exact hd
   ·exact Gj h
  ·simp at h
end Go.Av
end
section
namespace Go.Av
def clR (may:Atom→Bool)(one:Bool):Nat→List UInt8→Clause→Except Int (Clause×List UInt8)
 |0,_,_=>.error 12
 |f+1,s,out=>match Wl s with
  |none=>.error 3
  |some (a,t)=>if may a=false then .error 3 else if one=true then .ok (out++[a],kU t)else match kU t with
   |[]=>.ok (out++[a],[])
   |d::u=>if d=124 then clR may one f u (out++[a])else .ok (out++[a],d::u)
def V7 (may:Atom→Bool)(one:Bool):Nat→List UInt8→List Clause→List Clause×Int
 |0,_,_=>([],12)
 |f+1,s,out=>match clR may one 6 s []with
  | .error e=>([],e)
  | .ok (c,t)=>match t with
   |[]=>(out++[c],0)
   |d::u=>if d=44 then V7 may one f u (out++[c])else([],3)
def xd (may:Atom→Bool)(one:Bool)(s:List UInt8):List Clause×Int:=if kU s=[]then([],0)else V7 may one 12 s []
end Go.Av
end
section
namespace Go.Av
def mC (s:List UInt8):List UInt8:=(s.reverse.dropWhile wsB).reverse
def kR (s:List UInt8):List UInt8:=mC (kU s)
def Of (c:UInt8):UInt8:=if 65≤c.toNat∧c.toNat≤90 then c+32 else c
def MN (a b:List UInt8):Bool:=decide (a.map Of=b.map Of)
def mO (l:List (List UInt8)):List UInt8:=Lib.join ((l.map kR).filter λt=>decide (t≠[])) [32]
theorem Bx (u:List UInt8)(c:UInt8):mC (u++[c])=if wsB c=true then mC u else u++[c]:=by
 unfold mC
 rw[List.reverse_append,List.reverse_cons,List.reverse_nil,List.nil_append,List.cons_append,List.nil_append,List.dropWhile_cons]
 split
 ·rfl
 ·simp
theorem ET (s:List UInt8):(mC s).length≤s.length:=by
 unfold mC
 rw[List.length_reverse]
 exact Nat.le_trans (List.Sublist.length_le (List.dropWhile_sublist _)) (by simp)
theorem Fs (s:List UInt8):(kU s).length≤s.length:=List.Sublist.length_le (List.dropWhile_sublist _)
theorem Ft (s:List UInt8):(kR s).length≤s.length:=Nat.le_trans (ET _) (Fs _)
theorem Ll {l:List (List UInt8)}(x sep:List UInt8)(h:l≠[]):Lib.join (l++[x]) sep=Lib.join l sep++(sep++x):=by
 cases l with
 |nil=>exact absurd rfl h
 |cons y r=>
  rw[List.cons_append,Lib.join_cons,Lib.join_cons,Lib.joinTail,Lib.joinTail]
  simp
def ph (l:List (List UInt8)):List (List UInt8):=(l.map kR).filter λt=>decide (t≠[])
theorem we {l:List (List UInt8)}:mO l=[]↔ph l=[]:=by
 unfold mO
 show Lib.join (ph l) [32]=[]↔ph l=[]
 cases hf:ph l with
 |nil=>simp[Lib.join_nil]
 |cons y r=>
  have hy:y≠[]:=by
   have:y∈ph l:=by rw[hf];simp
   have:=(List.mem_filter.1 this).2
   simpa using this
  rw[Lib.join_cons]
  simp[hy]
theorem E0 (l:List (List UInt8))(s:List UInt8):mO (l++[s])=if kR s=[]then mO l else if mO l=[]then kR s else mO l++([32]++kR s):=by
 have e:ph (l++[s])=ph l++(if kR s=[]then []else [kR s]):=by
  unfold ph
  rw[List.map_append,List.filter_append]
  congr 1
  by_cases h:kR s=[]<;>simp[h]
 show Lib.join (ph (l++[s])) [32]=_
 rw[e]
 by_cases h:kR s=[]
 ·rw[if_pos h,if_pos h,List.append_nil];rfl
 ·rw[if_neg h,if_neg h]
  by_cases h2:mO l=[]
  ·rw[if_pos h2,we.1 h2,List.nil_append,Lib.join_one]
  ·rw[if_neg h2,Ll _ _ λe=>h2 (we.2 e)]
   rfl
def yy (l:List (List UInt8)):Nat:=(l.map List.length).sum
theorem EP (l:List (List UInt8))(s:List UInt8):yy (l++[s])=yy l+s.length:=by simp[yy]
theorem uq (l:List (List UInt8)): ∀i,(mO (l.take i)).length≤yy (l.take i)+i
 |0=>by simp[mO,Lib.join_nil]
 |i+1=>by
  have ih:=uq l i
  cases hx:l[i]? with
  |none=>
   have:l.take (i+1)=l.take i:=by rw[List.take_add_one,hx];simp
   rw[this]
   omega
  |some s=>
   have:l.take (i+1)=l.take i++[s]:=by rw[List.take_add_one,hx];rfl
   rw[this,E0,EP]
   have:=Ft s
   split
   ·omega
   ·split
    ·omega
    ·simp only[List.length_append,List.length_cons,List.length_nil];omega
theorem Ep (l:List (List UInt8)):(mO l).length≤yy l+l.length:=by
 have:=uq l l.length
 rwa [List.take_of_length_le (Nat.le_refl _)]at this
end Go.Av
end
section
namespace Go.Av
set_option maxRecDepth 10000
def jf (s:List UInt8)(i lo hi:Nat):Bool:=match s[i]? with
 |some c=>decide (lo≤c.toNat)&&decide (c.toNat≤hi)
 |none=>false
def wN (s:List UInt8):Nat:=match s with
 |[]=>0
 |c::_=>
  if c.toNat<128 then 1
  else if 194≤c.toNat∧c.toNat≤223∧jf s 1 128 191=true then 2
  else if (c.toNat=224∧jf s 1 160 191=true∧jf s 2 128 191=true)∨(c.toNat=237∧jf s 1 128 159=true∧jf s 2 128 191=true)then 3
  else if 225≤c.toNat∧c.toNat≤239∧c.toNat≠237∧jf s 1 128 191=true∧jf s 2 128 191=true then 3
  else if (c.toNat=240∧jf s 1 144 191=true∧jf s 2 128 191=true∧jf s 3 128 191=true)∨(c.toNat=244∧jf s 1 128 143=true∧jf s 2 128 191=true∧jf s 3 128 191=true)then 4
  else if 241≤c.toNat∧c.toNat≤243∧jf s 1 128 191=true∧jf s 2 128 191=true∧jf s 3 128 191=true then 4
  else 0
def NO (c:UInt8):Bool:=(decide (c.toNat<32)&& !decide (c.toNat=9))||decide (c.toNat=127)
def Dl :Nat→List UInt8→Nat→Int
 |0,_,_=>-1
 |_+1,[],_=>-1
 |f+1,c::r,i=>if wN (c::r)=0∨NO c=true then(i:Int)else Dl f ((c::r).drop (wN (c::r))) (i+wN (c::r))
def M5 (s:List UInt8):Int:=Dl s.length s 0
theorem A0 {c:UInt8}{r:List UInt8}(h:c.toNat<128):wN (c::r)=1:=by
 unfold wN
 simp only[h,if_true]
end Go.Av
end
