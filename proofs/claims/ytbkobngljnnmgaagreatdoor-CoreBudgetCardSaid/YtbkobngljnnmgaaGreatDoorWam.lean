/- Texts that the last one of this claim rests on: a layer over the guide's own conditions for code; contracts of the functions that the law reaches, one by one. No conditions beside those of the given rows. -/
import Derived.Lib.Join
import Derived.Test.YtbkobngljnnmgaaGreatDoorWaa
import Derived.Test.YtbkobngljnnmgaaGreatDoorWag
set_option linter.unusedSimpArgs false
set_option linter.unusedVariables false
open List renaming dropWhile_sublist->acO
open List.Sublist renaming length_le->acP
section
namespace Go.Av
def XB (r:Int):List UInt8:=if r=1 then [60,60]else if r=2 then [60,61]else if r=3 then [61]else if r=4 then [62,61]else if r=5 then [62,62]else []
def BG (c:UInt8):Nat:=if c=32\/c=9 then 1 else if c=40\/c=41\/c=44\/c=124 then 2 else if c=60\/c=62\/c=61 then 3 else 0
def wsB (c:UInt8):Bool:=decide (BG c=1)
def mh (s:List UInt8):List UInt8:=s.dropWhile wsB
def Bu (c:UInt8):Bool:=decide (BG c=0\/BG c=3)
def E4 (t:List UInt8):Int:=if [60,60].isPrefixOf t=true then 1 else if [60,61].isPrefixOf t=true then 2 else if [61].isPrefixOf t=true then 3 else if [62,61].isPrefixOf t=true then 4 else if [62,62].isPrefixOf t=true then 5 else 0
def XE (s:List UInt8):Option (Atom×List UInt8):=
 let s1:=mh s
 if eD (s1.takeWhile Bu)=true then
  match mh (s1.dropWhile Bu)with
  |[]=>some (⟨s1.takeWhile Bu,0,[]⟩,[])
  |c::t=>if c=40 then
    let t1:=mh t
    let t3:=mh (t1.drop (XB (E4 t1)).length)
    if E4 t1≠0/\bP (t3.takeWhile Bu)=true then
     match mh (t3.dropWhile Bu)with
     |[]=>none
     |d::t5=>if d=41 then some (⟨s1.takeWhile Bu,E4 t1,t3.takeWhile Bu⟩,t5)else none
    else none
   else some (⟨s1.takeWhile Bu,0,[]⟩,c::t)
 else none
theorem Ow {c:UInt8}{t:List UInt8}(h:BG c≠1):mh (c::t)=c::t:=by
 simp_all[mh,wsB]
theorem Jw {α:Type}{p:α->Bool}: ∀{l:List α} {c:α},c∈l.takeWhile p->p c=true
 |[],_,h=>by simp at h
 |d::r,c,h=>by
  rw[List.takeWhile_cons]at h;split at h
  .rename_i hd;rcases List.mem_cons.1 h with rfl|h
   .exact hd
   .exact Jw h
  simp_all
def clR (may:Atom->Bool)(one:Bool):Nat->List UInt8->Clause->Except Int (Clause×List UInt8)
 |0,_,_=>.error 12
 |f+1,s,out=>match XE s with
  |none=>.error 3
  |some (a,t)=>if may a=false then .error 3 else if one=true then .ok (out++[a],mh t)else match mh t with
   |[]=>.ok (out++[a],[])
   |d::u=>if d=124 then clR may one f u (out++[a])else .ok (out++[a],d::u)
def aaB (may:Atom->Bool)(one:Bool):Nat->List UInt8->List Clause->List Clause×Int
 |0,_,_=>([],12)
 |f+1,s,out=>match clR may one 6 s []with
  | .error e=>([],e)
  | .ok (c,t)=>match t with
   |[]=>(out++[c],0)
   |d::u=>if d=44 then aaB may one f u (out++[c])else([],3)
def zD (may:Atom->Bool)(one:Bool)(s:List UInt8):List Clause×Int:=if mh s=[]then([],0)else aaB may one 12 s []
def oD (s:List UInt8):List UInt8:=(s.reverse.dropWhile wsB).reverse
def nD (s:List UInt8):List UInt8:=oD (mh s)
def Sk (c:UInt8):UInt8:=if 65<=c.toNat/\c.toNat<=90 then c+32 else c
def QE (a b:List UInt8):Bool:=decide (a.map Sk=b.map Sk)
def oI (l:List (List UInt8)):List UInt8:=Lib.join ((l.map nD).filter λt=>decide (t≠[])) [32]
theorem F2 (u:List UInt8)(c:UInt8):oD (u++[c])=if wsB c=true then oD u else u++[c]:=by
 grind [oD,List.dropWhile_cons]
theorem IV (s:List UInt8):(oD s).length<=s.length:=by
 grind [oD,acO]
theorem Hs (s:List UInt8):(mh s).length<=s.length:=acP (acO _)
theorem Ix (s:List UInt8):(nD s).length<=s.length:=Nat.le_trans (IV _) (Hs _)
theorem PX {l:List (List UInt8)}(x sep:List UInt8)(h:l≠[]):Lib.join (l++[x]) sep=Lib.join l sep++(sep++x):=by
 cases l with
 |nil=>simp_all
 |cons y r=>
  simp[Lib.join_cons,Lib.joinTail]
def rF (l:List (List UInt8)):List (List UInt8):=(l.map nD).filter λt=>decide (t≠[])
theorem yZ {l:List (List UInt8)}:oI l=[]↔rF l=[]:=by
 unfold oI;show Lib.join (rF l) [32]=[]↔rF l=[];cases hf:rF l with
 |nil=>simp[Lib.join_nil]
 |cons y r=>
  have hy:y≠[]:=by
   have:y∈rF l:=by simp_all
   have:=(List.mem_filter.1 this).2;simp_all
  simp_all[Lib.join_cons]
theorem HP (l:List (List UInt8))(s:List UInt8):oI (l++[s])=if nD s=[]then oI l else if oI l=[]then nD s else oI l++([32]++nD s):=by
 have e:rF (l++[s])=rF l++(if nD s=[]then []else [nD s]):=by
  grind [rF]
 show Lib.join (rF (l++[s])) [32]=_;rw[e];by_cases h:nD s=[]
 .rw[if_pos h,if_pos h,List.append_nil];rfl
 .rw[if_neg h,if_neg h];by_cases h2:oI l=[]
  .grind [yZ,Lib.join_one]
  .rw[if_neg h2,PX _ _ λe=>h2 (yZ.2 e)];rfl
def CL (l:List (List UInt8)):Nat:=(l.map List.length).sum
theorem Hg (l:List (List UInt8))(s:List UInt8):CL (l++[s])=CL l+s.length:=by simp[CL]
theorem vC (l:List (List UInt8)): ∀i,(oI (l.take i)).length<=CL (l.take i)+i
 |0=>by simp[oI,Lib.join_nil]
 |i+1=>by
  have ih:=vC l i;grind [List.take_add_one,HP,Hg,Ix]
theorem HS (l:List (List UInt8)):(oI l).length<=CL l+l.length:=by
 have:=vC l l.length;simp_all
set_option maxRecDepth 10000
def jX (s:List UInt8)(i lo hi:Nat):Bool:=match s[i]? with
 |some c=>decide (lo<=c.toNat)&&decide (c.toNat<=hi)
 |none=>false
def yL (s:List UInt8):Nat:=match s with
 |[]=>0
 |c::_=>
  if c.toNat<128 then 1
  else if 194<=c.toNat/\c.toNat<=223/\jX s 1 128 191=true then 2
  else if (c.toNat=224/\jX s 1 160 191=true/\jX s 2 128 191=true)\/(c.toNat=237/\jX s 1 128 159=true/\jX s 2 128 191=true)then 3
  else if 225<=c.toNat/\c.toNat<=239/\c.toNat≠237/\jX s 1 128 191=true/\jX s 2 128 191=true then 3
  else if (c.toNat=240/\jX s 1 144 191=true/\jX s 2 128 191=true/\jX s 3 128 191=true)\/(c.toNat=244/\jX s 1 128 143=true/\jX s 2 128 191=true/\jX s 3 128 191=true)then 4
  else if 241<=c.toNat/\c.toNat<=243/\jX s 1 128 191=true/\jX s 2 128 191=true/\jX s 3 128 191=true then 4
  else 0
def RT (c:UInt8):Bool:=(decide (c.toNat<32)&& !decide (c.toNat=9))||decide (c.toNat=127)
def GK :Nat->List UInt8->Nat->Int
 |0,_,_=>-1
 |_+1,[],_=>-1
 |f+1,c::r,i=>if yL (c::r)=0\/RT c=true then(i:Int)else GK f ((c::r).drop (yL (c::r))) (i+yL (c::r))
def QA (s:List UInt8):Int:=GK s.length s 0
theorem BL {c:UInt8}{r:List UInt8}(h:c.toNat<128):yL (c::r)=1:=by
 grind [yL]
end Go.Av
end
