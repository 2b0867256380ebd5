/- What the last text of this claim rests on. No conditions. -/
import Derived.Lib.Join
import Derived.Test.YtbkobngljnnmgaaGreatDoorWaa
import Derived.Test.YtbkobngljnnmgaaGreatDoorWag
set_option linter.unusedSimpArgs false
set_option linter.unusedVariables false
open List renaming dropWhile_sublist->acf
open List.Sublist renaming length_le->acg
section
namespace Go.Av
def aaR (r:Int):List UInt8:=if r=1 then [60,60]else if r=2 then [60,61]else if r=3 then [61]else if r=4 then [62,61]else if r=5 then [62,62]else []
def Et (c:UInt8):Nat:=if c=32\/c=9 then 1 else if c=40\/c=41\/c=44\/c=124 then 2 else if c=60\/c=62\/c=61 then 3 else 0
def wsB (c:UInt8):Bool:=decide (Et c=1)
def mr (s:List UInt8):List UInt8:=s.dropWhile wsB
def DR (c:UInt8):Bool:=decide (Et c=0\/Et c=3)
def JU (t:List UInt8):Int:=if [60,60].isPrefixOf t=true then 1 else if [60,61].isPrefixOf t=true then 2 else if [61].isPrefixOf t=true then 3 else if [62,61].isPrefixOf t=true then 4 else if [62,62].isPrefixOf t=true then 5 else 0
def ZL (s:List UInt8):Option (Atom×List UInt8):=
 let s1:=mr s
 if eN (s1.takeWhile DR)=true then
  match mr (s1.dropWhile DR)with
  |[]=>some (⟨s1.takeWhile DR,0,[]⟩,[])
  |c::t=>if c=40 then
    let t1:=mr t
    let t3:=mr (t1.drop (aaR (JU t1)).length)
    if JU t1≠0/\bK (t3.takeWhile DR)=true then
     match mr (t3.dropWhile DR)with
     |[]=>none
     |d::t5=>if d=41 then some (⟨s1.takeWhile DR,JU t1,t3.takeWhile DR⟩,t5)else none
    else none
   else some (⟨s1.takeWhile DR,0,[]⟩,c::t)
 else none
theorem Vo {c:UInt8}{t:List UInt8}(h:Et c≠1):mr (c::t)=c::t:=by
 simp_all[mr,wsB]
theorem Tm {α:Type}{p:α->Bool}: ∀{l:List α} {c:α},c∈l.takeWhile p->p c=true
 |[],_,h=>by simp at h
 |d::r,c,h=>by
  rw[List.takeWhile_cons]at h;split at h
  .rename_i hd;rcases List.mem_cons.1 h with rfl|h
   .exact hd
   .exact Tm h
  simp_all
def clR (may:Atom->Bool)(one:Bool):Nat->List UInt8->Clause->Except Int (Clause×List UInt8)
 |0,_,_=>.error 12
 |f+1,s,out=>match ZL s with
  |none=>.error 3
  |some (a,t)=>if may a=false then .error 3 else if one=true then .ok (out++[a],mr t)else match mr t with
   |[]=>.ok (out++[a],[])
   |d::u=>if d=124 then clR may one f u (out++[a])else .ok (out++[a],d::u)
def ZG (may:Atom->Bool)(one:Bool):Nat->List UInt8->List Clause->List Clause×Int
 |0,_,_=>([],12)
 |f+1,s,out=>match clR may one 6 s []with
  | .error e=>([],e)
  | .ok (c,t)=>match t with
   |[]=>(out++[c],0)
   |d::u=>if d=44 then ZG may one f u (out++[c])else([],3)
def Dk (may:Atom->Bool)(one:Bool)(s:List UInt8):List Clause×Int:=if mr s=[]then([],0)else ZG may one 12 s []
def nZ (s:List UInt8):List UInt8:=(s.reverse.dropWhile wsB).reverse
def nH (s:List UInt8):List UInt8:=nZ (mr s)
def XO (c:UInt8):UInt8:=if 65<=c.toNat/\c.toNat<=90 then c+32 else c
def WA (a b:List UInt8):Bool:=decide (a.map XO=b.map XO)
def oM (l:List (List UInt8)):List UInt8:=Lib.join ((l.map nH).filter λt=>decide (t≠[])) [32]
theorem I1 (u:List UInt8)(c:UInt8):nZ (u++[c])=if wsB c=true then nZ u else u++[c]:=by
 grind [nZ,List.dropWhile_cons]
theorem MT (s:List UInt8):(nZ s).length<=s.length:=by
 grind [nZ,acf]
theorem Oh (s:List UInt8):(mr s).length<=s.length:=acg (acf _)
theorem Mn (s:List UInt8):(nH s).length<=s.length:=Nat.le_trans (MT _) (Oh _)
theorem TX {l:List (List UInt8)}(x sep:List UInt8)(h:l≠[]):Lib.join (l++[x]) sep=Lib.join l sep++(sep++x):=by
 cases l with
 |nil=>simp_all
 |cons y r=>
  simp[Lib.join_cons,Lib.joinTail]
def rZ (l:List (List UInt8)):List (List UInt8):=(l.map nH).filter λt=>decide (t≠[])
theorem zS {l:List (List UInt8)}:oM l=[]↔rZ l=[]:=by
 unfold oM;show Lib.join (rZ l) [32]=[]↔rZ l=[];cases hf:rZ l with
 |nil=>simp[Lib.join_nil]
 |cons y r=>
  have hy:y≠[]:=by
   have:y∈rZ l:=by simp_all
   have:=(List.mem_filter.1 this).2;simp_all
  simp_all[Lib.join_cons]
theorem NG (l:List (List UInt8))(s:List UInt8):oM (l++[s])=if nH s=[]then oM l else if oM l=[]then nH s else oM l++([32]++nH s):=by
 have e:rZ (l++[s])=rZ l++(if nH s=[]then []else [nH s]):=by
  grind [rZ]
 show Lib.join (rZ (l++[s])) [32]=_;rw[e];by_cases h:nH s=[]
 .rw[if_pos h,if_pos h,List.append_nil];rfl
 .rw[if_neg h,if_neg h];by_cases h2:oM l=[]
  .grind [zS,Lib.join_one]
  .rw[if_neg h2,TX _ _ λe=>h2 (zS.2 e)];rfl
def FO (l:List (List UInt8)):Nat:=(l.map List.length).sum
theorem Mt (l:List (List UInt8))(s:List UInt8):FO (l++[s])=FO l+s.length:=by simp[FO]
theorem wx (l:List (List UInt8)): ∀i,(oM (l.take i)).length<=FO (l.take i)+i
 |0=>by simp[oM,Lib.join_nil]
 |i+1=>by
  have ih:=wx l i;grind [List.take_add_one,NG,Mt,Mn]
theorem Nh (l:List (List UInt8)):(oM l).length<=FO l+l.length:=by
 have:=wx l l.length;simp_all
set_option maxRecDepth 10000
def j8 (s:List UInt8)(i lo hi:Nat):Bool:=match s[i]? with
 |some c=>decide (lo<=c.toNat)&&decide (c.toNat<=hi)
 |none=>false
def zP (s:List UInt8):Nat:=match s with
 |[]=>0
 |c::_=>
  if c.toNat<128 then 1
  else if 194<=c.toNat/\c.toNat<=223/\j8 s 1 128 191=true then 2
  else if (c.toNat=224/\j8 s 1 160 191=true/\j8 s 2 128 191=true)\/(c.toNat=237/\j8 s 1 128 159=true/\j8 s 2 128 191=true)then 3
  else if 225<=c.toNat/\c.toNat<=239/\c.toNat≠237/\j8 s 1 128 191=true/\j8 s 2 128 191=true then 3
  else if (c.toNat=240/\j8 s 1 144 191=true/\j8 s 2 128 191=true/\j8 s 3 128 191=true)\/(c.toNat=244/\j8 s 1 128 143=true/\j8 s 2 128 191=true/\j8 s 3 128 191=true)then 4
  else if 241<=c.toNat/\c.toNat<=243/\j8 s 1 128 191=true/\j8 s 2 128 191=true/\j8 s 3 128 191=true then 4
  else 0
def Yh (c:UInt8):Bool:=(decide (c.toNat<32)&& !decide (c.toNat=9))||decide (c.toNat=127)
def Kv :Nat->List UInt8->Nat->Int
 |0,_,_=>-1
 |_+1,[],_=>-1
 |f+1,c::r,i=>if zP (c::r)=0\/Yh c=true then(i:Int)else Kv f ((c::r).drop (zP (c::r))) (i+zP (c::r))
def WZ (s:List UInt8):Int:=Kv s.length s 0
theorem GC {c:UInt8}{r:List UInt8}(h:c.toNat<128):zP (c::r)=1:=by
 grind [zP]
end Go.Av
end
