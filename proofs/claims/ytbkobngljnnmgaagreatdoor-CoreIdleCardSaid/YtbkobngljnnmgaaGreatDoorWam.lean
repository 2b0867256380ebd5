/- What the last text of this claim rests on. No conditions. -/
import Derived.Lib.Join
import Derived.Test.YtbkobngljnnmgaaGreatDoorWaa
import Derived.Test.YtbkobngljnnmgaaGreatDoorWag
set_option linter.unusedSimpArgs false
set_option linter.unusedVariables false
open List renaming dropWhile_sublist->acG
open List.Sublist renaming length_le->acH
section
namespace Go.Av
def aad (r:Int):List UInt8:=if r=1 then [60,60]else if r=2 then [60,61]else if r=3 then [61]else if r=4 then [62,61]else if r=5 then [62,62]else []
def Fz (c:UInt8):Nat:=if c=32\/c=9 then 1 else if c=40\/c=41\/c=44\/c=124 then 2 else if c=60\/c=62\/c=61 then 3 else 0
def wsB (c:UInt8):Bool:=decide (Fz c=1)
def lX (s:List UInt8):List UInt8:=s.dropWhile wsB
def Dx (c:UInt8):Bool:=decide (Fz c=0\/Fz c=3)
def JQ (t:List UInt8):Int:=if [60,60].isPrefixOf t=true then 1 else if [60,61].isPrefixOf t=true then 2 else if [61].isPrefixOf t=true then 3 else if [62,61].isPrefixOf t=true then 4 else if [62,62].isPrefixOf t=true then 5 else 0
def abp (s:List UInt8):Option (Atom×List UInt8):=
 let s1:=lX s
 if eT (s1.takeWhile Dx)=true then
  match lX (s1.dropWhile Dx)with
  |[]=>some (⟨s1.takeWhile Dx,0,[]⟩,[])
  |c::t=>if c=40 then
    let t1:=lX t
    let t3:=lX (t1.drop (aad (JQ t1)).length)
    if JQ t1≠0/\bI (t3.takeWhile Dx)=true then
     match lX (t3.dropWhile Dx)with
     |[]=>none
     |d::t5=>if d=41 then some (⟨s1.takeWhile Dx,JQ t1,t3.takeWhile Dx⟩,t5)else none
    else none
   else some (⟨s1.takeWhile Dx,0,[]⟩,c::t)
 else none
theorem Vl {c:UInt8}{t:List UInt8}(h:Fz c≠1):lX (c::t)=c::t:=by
 simp_all[lX,wsB]
theorem RX {α:Type}{p:α->Bool}: ∀{l:List α} {c:α},c∈l.takeWhile p->p c=true
 |[],_,h=>by simp at h
 |d::r,c,h=>by
  rw[List.takeWhile_cons]at h;split at h
  .rename_i hd;rcases List.mem_cons.1 h with rfl|h
   .exact hd
   .exact RX h
  simp_all
def clR (may:Atom->Bool)(one:Bool):Nat->List UInt8->Clause->Except Int (Clause×List UInt8)
 |0,_,_=>.error 12
 |f+1,s,out=>match abp s with
  |none=>.error 3
  |some (a,t)=>if may a=false then .error 3 else if one=true then .ok (out++[a],lX t)else match lX t with
   |[]=>.ok (out++[a],[])
   |d::u=>if d=124 then clR may one f u (out++[a])else .ok (out++[a],d::u)
def Z4 (may:Atom->Bool)(one:Bool):Nat->List UInt8->List Clause->List Clause×Int
 |0,_,_=>([],12)
 |f+1,s,out=>match clR may one 6 s []with
  | .error e=>([],e)
  | .ok (c,t)=>match t with
   |[]=>(out++[c],0)
   |d::u=>if d=44 then Z4 may one f u (out++[c])else([],3)
def BO (may:Atom->Bool)(one:Bool)(s:List UInt8):List Clause×Int:=if lX s=[]then([],0)else Z4 may one 12 s []
def oc (s:List UInt8):List UInt8:=(s.reverse.dropWhile wsB).reverse
def nS (s:List UInt8):List UInt8:=oc (lX s)
def YR (c:UInt8):UInt8:=if 65<=c.toNat/\c.toNat<=90 then c+32 else c
def Xf (a b:List UInt8):Bool:=decide (a.map YR=b.map YR)
def oY (l:List (List UInt8)):List UInt8:=Lib.join ((l.map nS).filter λt=>decide (t≠[])) [32]
theorem HY (u:List UInt8)(c:UInt8):oc (u++[c])=if wsB c=true then oc u else u++[c]:=by
 grind [oc,List.dropWhile_cons]
theorem NT (s:List UInt8):(oc s).length<=s.length:=by
 grind [oc,acG]
theorem Lu (s:List UInt8):(lX s).length<=s.length:=acH (acG _)
theorem MQ (s:List UInt8):(nS s).length<=s.length:=Nat.le_trans (NT _) (Lu _)
theorem VL {l:List (List UInt8)}(x sep:List UInt8)(h:l≠[]):Lib.join (l++[x]) sep=Lib.join l sep++(sep++x):=by
 cases l with
 |nil=>simp_all
 |cons y r=>
  simp[Lib.join_cons,Lib.joinTail]
def rG (l:List (List UInt8)):List (List UInt8):=(l.map nS).filter λt=>decide (t≠[])
theorem zS {l:List (List UInt8)}:oY l=[]↔rG l=[]:=by
 unfold oY;show Lib.join (rG l) [32]=[]↔rG l=[];cases hf:rG l with
 |nil=>simp[Lib.join_nil]
 |cons y r=>
  have hy:y≠[]:=by
   have:y∈rG l:=by simp_all
   have:=(List.mem_filter.1 this).2;simp_all
  simp_all[Lib.join_cons]
theorem L8 (l:List (List UInt8))(s:List UInt8):oY (l++[s])=if nS s=[]then oY l else if oY l=[]then nS s else oY l++([32]++nS s):=by
 have e:rG (l++[s])=rG l++(if nS s=[]then []else [nS s]):=by
  grind [rG]
 show Lib.join (rG (l++[s])) [32]=_;rw[e];by_cases h:nS s=[]
 .rw[if_pos h,if_pos h,List.append_nil];rfl
 .rw[if_neg h,if_neg h];by_cases h2:oY l=[]
  .grind [zS,Lib.join_one]
  .rw[if_neg h2,VL _ _ λe=>h2 (zS.2 e)];rfl
def Ep (l:List (List UInt8)):Nat:=(l.map List.length).sum
theorem NM (l:List (List UInt8))(s:List UInt8):Ep (l++[s])=Ep l+s.length:=by simp[Ep]
theorem xc (l:List (List UInt8)): ∀i,(oY (l.take i)).length<=Ep (l.take i)+i
 |0=>by simp[oY,Lib.join_nil]
 |i+1=>by
  have ih:=xc l i;grind [List.take_add_one,L8,NM,MQ]
theorem O0 (l:List (List UInt8)):(oY l).length<=Ep l+l.length:=by
 have:=xc l l.length;simp_all
set_option maxRecDepth 10000
def j1 (s:List UInt8)(i lo hi:Nat):Bool:=match s[i]? with
 |some c=>decide (lo<=c.toNat)&&decide (c.toNat<=hi)
 |none=>false
def z6 (s:List UInt8):Nat:=match s with
 |[]=>0
 |c::_=>
  if c.toNat<128 then 1
  else if 194<=c.toNat/\c.toNat<=223/\j1 s 1 128 191=true then 2
  else if (c.toNat=224/\j1 s 1 160 191=true/\j1 s 2 128 191=true)\/(c.toNat=237/\j1 s 1 128 159=true/\j1 s 2 128 191=true)then 3
  else if 225<=c.toNat/\c.toNat<=239/\c.toNat≠237/\j1 s 1 128 191=true/\j1 s 2 128 191=true then 3
  else if (c.toNat=240/\j1 s 1 144 191=true/\j1 s 2 128 191=true/\j1 s 3 128 191=true)\/(c.toNat=244/\j1 s 1 128 143=true/\j1 s 2 128 191=true/\j1 s 3 128 191=true)then 4
  else if 241<=c.toNat/\c.toNat<=243/\j1 s 1 128 191=true/\j1 s 2 128 191=true/\j1 s 3 128 191=true then 4
  else 0
def Ya (c:UInt8):Bool:=(decide (c.toNat<32)&& !decide (c.toNat=9))||decide (c.toNat=127)
def KO :Nat->List UInt8->Nat->Int
 |0,_,_=>-1
 |_+1,[],_=>-1
 |f+1,c::r,i=>if z6 (c::r)=0\/Ya c=true then(i:Int)else KO f ((c::r).drop (z6 (c::r))) (i+z6 (c::r))
def W2 (s:List UInt8):Int:=KO s.length s 0
theorem E4 {c:UInt8}{r:List UInt8}(h:c.toNat<128):z6 (c::r)=1:=by
 grind [z6]
end Go.Av
end
