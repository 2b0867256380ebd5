/- What the last text of this claim rests on. No conditions. -/
import Derived.Lib.Join
import Derived.Test.YtbkobngljnnmgaaGreatDoorWaa
import Derived.Test.YtbkobngljnnmgaaGreatDoorWag
set_option linter.unusedSimpArgs false
set_option linter.unusedVariables false
open List renaming dropWhile_sublist->ab4
open List.Sublist renaming length_le->ab5
section
namespace Go.Av
def Z5 (r:Int):List UInt8:=if r=1 then [60,60]else if r=2 then [60,61]else if r=3 then [61]else if r=4 then [62,61]else if r=5 then [62,62]else []
def E5 (c:UInt8):Nat:=if c=32\/c=9 then 1 else if c=40\/c=41\/c=44\/c=124 then 2 else if c=60\/c=62\/c=61 then 3 else 0
def wsB (c:UInt8):Bool:=decide (E5 c=1)
def mm (s:List UInt8):List UInt8:=s.dropWhile wsB
def D6 (c:UInt8):Bool:=decide (E5 c=0\/E5 c=3)
def HN (t:List UInt8):Int:=if [60,60].isPrefixOf t=true then 1 else if [60,61].isPrefixOf t=true then 2 else if [61].isPrefixOf t=true then 3 else if [62,61].isPrefixOf t=true then 4 else if [62,62].isPrefixOf t=true then 5 else 0
def ZS (s:List UInt8):Option (Atom×List UInt8):=
 let s1:=mm s
 if eI (s1.takeWhile D6)=true then
  match mm (s1.dropWhile D6)with
  |[]=>some (⟨s1.takeWhile D6,0,[]⟩,[])
  |c::t=>if c=40 then
    let t1:=mm t
    let t3:=mm (t1.drop (Z5 (HN t1)).length)
    if HN t1≠0/\bM (t3.takeWhile D6)=true then
     match mm (t3.dropWhile D6)with
     |[]=>none
     |d::t5=>if d=41 then some (⟨s1.takeWhile D6,HN t1,t3.takeWhile D6⟩,t5)else none
    else none
   else some (⟨s1.takeWhile D6,0,[]⟩,c::t)
 else none
theorem Tu {c:UInt8}{t:List UInt8}(h:E5 c≠1):mm (c::t)=c::t:=by
 simp_all[mm,wsB]
theorem RB {α:Type}{p:α->Bool}: ∀{l:List α} {c:α},c∈l.takeWhile p->p c=true
 |[],_,h=>by simp at h
 |d::r,c,h=>by
  rw[List.takeWhile_cons]at h;split at h
  .rename_i hd;rcases List.mem_cons.1 h with rfl|h
   .exact hd
   .exact RB h
  simp_all
def clR (may:Atom->Bool)(one:Bool):Nat->List UInt8->Clause->Except Int (Clause×List UInt8)
 |0,_,_=>.error 12
 |f+1,s,out=>match ZS s with
  |none=>.error 3
  |some (a,t)=>if may a=false then .error 3 else if one=true then .ok (out++[a],mm t)else match mm t with
   |[]=>.ok (out++[a],[])
   |d::u=>if d=124 then clR may one f u (out++[a])else .ok (out++[a],d::u)
def ZG (may:Atom->Bool)(one:Bool):Nat->List UInt8->List Clause->List Clause×Int
 |0,_,_=>([],12)
 |f+1,s,out=>match clR may one 6 s []with
  | .error e=>([],e)
  | .ok (c,t)=>match t with
   |[]=>(out++[c],0)
   |d::u=>if d=44 then ZG may one f u (out++[c])else([],3)
def AM (may:Atom->Bool)(one:Bool)(s:List UInt8):List Clause×Int:=if mm s=[]then([],0)else ZG may one 12 s []
def oI (s:List UInt8):List UInt8:=(s.reverse.dropWhile wsB).reverse
def nF (s:List UInt8):List UInt8:=oI (mm s)
def W3 (c:UInt8):UInt8:=if 65<=c.toNat/\c.toNat<=90 then c+32 else c
def Wt (a b:List UInt8):Bool:=decide (a.map W3=b.map W3)
def oJ (l:List (List UInt8)):List UInt8:=Lib.join ((l.map nF).filter λt=>decide (t≠[])) [32]
theorem IK (u:List UInt8)(c:UInt8):oI (u++[c])=if wsB c=true then oI u else u++[c]:=by
 grind [oI,List.dropWhile_cons]
theorem NX (s:List UInt8):(oI s).length<=s.length:=by
 grind [oI,ab4]
theorem LI (s:List UInt8):(mm s).length<=s.length:=ab5 (ab4 _)
theorem Nn (s:List UInt8):(nF s).length<=s.length:=Nat.le_trans (NX _) (LI _)
theorem Tw {l:List (List UInt8)}(x sep:List UInt8)(h:l≠[]):Lib.join (l++[x]) sep=Lib.join l sep++(sep++x):=by
 cases l with
 |nil=>simp_all
 |cons y r=>
  simp[Lib.join_cons,Lib.joinTail]
def rD (l:List (List UInt8)):List (List UInt8):=(l.map nF).filter λt=>decide (t≠[])
theorem zu {l:List (List UInt8)}:oJ l=[]↔rD l=[]:=by
 unfold oJ;show Lib.join (rD l) [32]=[]↔rD l=[];cases hf:rD l with
 |nil=>simp[Lib.join_nil]
 |cons y r=>
  have hy:y≠[]:=by
   have:y∈rD l:=by simp_all
   have:=(List.mem_filter.1 this).2;simp_all
  simp_all[Lib.join_cons]
theorem NP (l:List (List UInt8))(s:List UInt8):oJ (l++[s])=if nF s=[]then oJ l else if oJ l=[]then nF s else oJ l++([32]++nF s):=by
 have e:rD (l++[s])=rD l++(if nF s=[]then []else [nF s]):=by
  grind [rD]
 show Lib.join (rD (l++[s])) [32]=_;rw[e];by_cases h:nF s=[]
 .rw[if_pos h,if_pos h,List.append_nil];rfl
 .rw[if_neg h,if_neg h];by_cases h2:oJ l=[]
  .grind [zu,Lib.join_one]
  .rw[if_neg h2,Tw _ _ λe=>h2 (zu.2 e)];rfl
def FK (l:List (List UInt8)):Nat:=(l.map List.length).sum
theorem MQ (l:List (List UInt8))(s:List UInt8):FK (l++[s])=FK l+s.length:=by simp[FK]
theorem xG (l:List (List UInt8)): ∀i,(oJ (l.take i)).length<=FK (l.take i)+i
 |0=>by simp[oJ,Lib.join_nil]
 |i+1=>by
  have ih:=xG l i;grind [List.take_add_one,NP,MQ,Nn]
theorem MO (l:List (List UInt8)):(oJ l).length<=FK l+l.length:=by
 have:=xG l l.length;simp_all
set_option maxRecDepth 10000
def jR (s:List UInt8)(i lo hi:Nat):Bool:=match s[i]? with
 |some c=>decide (lo<=c.toNat)&&decide (c.toNat<=hi)
 |none=>false
def zT (s:List UInt8):Nat:=match s with
 |[]=>0
 |c::_=>
  if c.toNat<128 then 1
  else if 194<=c.toNat/\c.toNat<=223/\jR s 1 128 191=true then 2
  else if (c.toNat=224/\jR s 1 160 191=true/\jR s 2 128 191=true)\/(c.toNat=237/\jR s 1 128 159=true/\jR s 2 128 191=true)then 3
  else if 225<=c.toNat/\c.toNat<=239/\c.toNat≠237/\jR s 1 128 191=true/\jR s 2 128 191=true then 3
  else if (c.toNat=240/\jR s 1 144 191=true/\jR s 2 128 191=true/\jR s 3 128 191=true)\/(c.toNat=244/\jR s 1 128 143=true/\jR s 2 128 191=true/\jR s 3 128 191=true)then 4
  else if 241<=c.toNat/\c.toNat<=243/\jR s 1 128 191=true/\jR s 2 128 191=true/\jR s 3 128 191=true then 4
  else 0
def XJ (c:UInt8):Bool:=(decide (c.toNat<32)&& !decide (c.toNat=9))||decide (c.toNat=127)
def KP :Nat->List UInt8->Nat->Int
 |0,_,_=>-1
 |_+1,[],_=>-1
 |f+1,c::r,i=>if zT (c::r)=0\/XJ c=true then(i:Int)else KP f ((c::r).drop (zT (c::r))) (i+zT (c::r))
def Wq (s:List UInt8):Int:=KP s.length s 0
theorem F4 {c:UInt8}{r:List UInt8}(h:c.toNat<128):zT (c::r)=1:=by
 grind [zT]
end Go.Av
end
