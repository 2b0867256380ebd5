/- Texts that the last one of this claim rests on: a layer over the guide's own conditions for code; contracts of the functions that the law reaches, one by one. No conditions beside those of the given rows. -/
import Derived.Lib.Join
import Derived.Test.YtbooehmmhbioaaaGreatDoorWaa
import Derived.Test.YtbooehmmhbioaaaGreatDoorWag
set_option linter.unusedSimpArgs false
set_option linter.unusedVariables false
section
namespace Go.Av
def Si (r:Int):List UInt8:=if r=1 then [60,60]else if r=2 then [60,61]else if r=3 then [61]else if r=4 then [62,61]else if r=5 then [62,62]else []
end Go.Av
end
section
namespace Go.Av
def xO (c:UInt8):Nat:=if c=32∨c=9 then 1 else if c=40∨c=41∨c=44∨c=124 then 2 else if c=60∨c=62∨c=61 then 3 else 0
def wsB (c:UInt8):Bool:=decide (xO c=1)
def kd (s:List UInt8):List UInt8:=s.dropWhile wsB
def xF (c:UInt8):Bool:=decide (xO c=0∨xO c=3)
def Az (t:List UInt8):Int:=if [60,60].isPrefixOf t=true then 1 else if [60,61].isPrefixOf t=true then 2 else if [61].isPrefixOf t=true then 3 else if [62,61].isPrefixOf t=true then 4 else if [62,62].isPrefixOf t=true then 5 else 0
def S4 (s:List UInt8):Option (Atom×List UInt8):=
 let s1:=kd s
 if c9 (s1.takeWhile xF)=true then
  match kd (s1.dropWhile xF)with
  |[]=>some (⟨s1.takeWhile xF,0,[]⟩,[])
  |c::t=>if c=40 then
    let t1:=kd t
    let t3:=kd (t1.drop (Si (Az t1)).length)
    if Az t1≠0∧bw (t3.takeWhile xF)=true then
     match kd (t3.dropWhile xF)with
     |[]=>none
     |d::t5=>if d=41 then some (⟨s1.takeWhile xF,Az t1,t3.takeWhile xF⟩,t5)else none
    else none
   else some (⟨s1.takeWhile xF,0,[]⟩,c::t)
 else none
theorem JL {c:UInt8}{t:List UInt8}(h:xO c≠1):kd (c::t)=c::t:=by
 unfold kd
 rw[List.dropWhile_cons,if_neg (by simp[wsB,h])]
theorem E1 {α:Type}{p:α→Bool}: ∀{l:List α} {c:α},c∈l.takeWhile p→p c=true
 |[],_,h=>by simp at h
 |d::r,c,h=>by
  rw[List.takeWhile_cons]at h
  split at h
  ·rename_i hd
   rcases List.mem_cons.1 h with rfl|h
   ·exact hd
   ·exact E1 h
  ·simp at h
end Go.Av
end
section
namespace Go.Av
def clR (may:Atom→Bool)(one:Bool):Nat→List UInt8→Clause→Except Int (Clause×List UInt8)
 |0,_,_=>.error 12
 |f+1,s,out=>match S4 s with
  |none=>.error 3
  |some (a,t)=>if may a=false then .error 3 else if one=true then .ok (out++[a],kd t)else match kd t with
   |[]=>.ok (out++[a],[])
   |d::u=>if d=124 then clR may one f u (out++[a])else .ok (out++[a],d::u)
def Sd (may:Atom→Bool)(one:Bool):Nat→List UInt8→List Clause→List Clause×Int
 |0,_,_=>([],12)
 |f+1,s,out=>match clR may one 6 s []with
  | .error e=>([],e)
  | .ok (c,t)=>match t with
   |[]=>(out++[c],0)
   |d::u=>if d=44 then Sd may one f u (out++[c])else([],3)
def xx (may:Atom→Bool)(one:Bool)(s:List UInt8):List Clause×Int:=if kd s=[]then([],0)else Sd may one 12 s []
end Go.Av
end
section
namespace Go.Av
def mo (s:List UInt8):List UInt8:=(s.reverse.dropWhile wsB).reverse
def j9 (s:List UInt8):List UInt8:=mo (kd s)
def NK (c:UInt8):UInt8:=if 65≤c.toNat∧c.toNat≤90 then c+32 else c
def L3 (a b:List UInt8):Bool:=decide (a.map NK=b.map NK)
def me (l:List (List UInt8)):List UInt8:=Lib.join ((l.map j9).filter λt=>decide (t≠[])) [32]
theorem A5 (u:List UInt8)(c:UInt8):mo (u++[c])=if wsB c=true then mo u else u++[c]:=by
 unfold mo
 rw[List.reverse_append,List.reverse_cons,List.reverse_nil,List.nil_append,List.cons_append,List.nil_append,List.dropWhile_cons]
 split
 ·rfl
 ·simp
theorem Dm (s:List UInt8):(mo s).length≤s.length:=by
 unfold mo
 rw[List.length_reverse]
 exact Nat.le_trans (List.Sublist.length_le (List.dropWhile_sublist _)) (by simp)
theorem Ep (s:List UInt8):(kd s).length≤s.length:=List.Sublist.length_le (List.dropWhile_sublist _)
theorem D0 (s:List UInt8):(j9 s).length≤s.length:=Nat.le_trans (Dm _) (Ep _)
theorem JP {l:List (List UInt8)}(x sep:List UInt8)(h:l≠[]):Lib.join (l++[x]) sep=Lib.join l sep++(sep++x):=by
 cases l with
 |nil=>exact absurd rfl h
 |cons y r=>
  rw[List.cons_append,Lib.join_cons,Lib.join_cons,Lib.joinTail,Lib.joinTail]
  simp
def oS (l:List (List UInt8)):List (List UInt8):=(l.map j9).filter λt=>decide (t≠[])
theorem uO {l:List (List UInt8)}:me l=[]↔oS l=[]:=by
 unfold me
 show Lib.join (oS l) [32]=[]↔oS l=[]
 cases hf:oS l with
 |nil=>simp[Lib.join_nil]
 |cons y r=>
  have hy:y≠[]:=by
   have:y∈oS l:=by rw[hf];simp
   have:=(List.mem_filter.1 this).2
   simpa using this
  rw[Lib.join_cons]
  simp[hy]
theorem DE (l:List (List UInt8))(s:List UInt8):me (l++[s])=if j9 s=[]then me l else if me l=[]then j9 s else me l++([32]++j9 s):=by
 have e:oS (l++[s])=oS l++(if j9 s=[]then []else [j9 s]):=by
  unfold oS
  rw[List.map_append,List.filter_append]
  congr 1
  by_cases h:j9 s=[]<;>simp[h]
 show Lib.join (oS (l++[s])) [32]=_
 rw[e]
 by_cases h:j9 s=[]
 ·rw[if_pos h,if_pos h,List.append_nil];rfl
 ·rw[if_neg h,if_neg h]
  by_cases h2:me l=[]
  ·rw[if_pos h2,uO.1 h2,List.nil_append,Lib.join_one]
  ·rw[if_neg h2,JP _ _ λe=>h2 (uO.2 e)]
   rfl
def w9 (l:List (List UInt8)):Nat:=(l.map List.length).sum
theorem Eu (l:List (List UInt8))(s:List UInt8):w9 (l++[s])=w9 l+s.length:=by simp[w9]
theorem uf (l:List (List UInt8)): ∀i,(me (l.take i)).length≤w9 (l.take i)+i
 |0=>by simp[me,Lib.join_nil]
 |i+1=>by
  have ih:=uf l i
  cases hx:l[i]? with
  |none=>
   have:l.take (i+1)=l.take i:=by rw[List.take_add_one,hx];simp
   rw[this]
   omega
  |some s=>
   have:l.take (i+1)=l.take i++[s]:=by rw[List.take_add_one,hx];rfl
   rw[this,DE,Eu]
   have:=D0 s
   split
   ·omega
   ·split
    ·omega
    ·simp only[List.length_append,List.length_cons,List.length_nil];omega
theorem Ev (l:List (List UInt8)):(me l).length≤w9 l+l.length:=by
 have:=uf l l.length
 rwa [List.take_of_length_le (Nat.le_refl _)]at this
end Go.Av
end
section
namespace Go.Av
set_option maxRecDepth 10000
def iE (s:List UInt8)(i lo hi:Nat):Bool:=match s[i]? with
 |some c=>decide (lo≤c.toNat)&&decide (c.toNat≤hi)
 |none=>false
def vU (s:List UInt8):Nat:=match s with
 |[]=>0
 |c::_=>
  if c.toNat<128 then 1
  else if 194≤c.toNat∧c.toNat≤223∧iE s 1 128 191=true then 2
  else if (c.toNat=224∧iE s 1 160 191=true∧iE s 2 128 191=true)∨(c.toNat=237∧iE s 1 128 159=true∧iE s 2 128 191=true)then 3
  else if 225≤c.toNat∧c.toNat≤239∧c.toNat≠237∧iE s 1 128 191=true∧iE s 2 128 191=true then 3
  else if (c.toNat=240∧iE s 1 144 191=true∧iE s 2 128 191=true∧iE s 3 128 191=true)∨(c.toNat=244∧iE s 1 128 143=true∧iE s 2 128 191=true∧iE s 3 128 191=true)then 4
  else if 241≤c.toNat∧c.toNat≤243∧iE s 1 128 191=true∧iE s 2 128 191=true∧iE s 3 128 191=true then 4
  else 0
def OU (c:UInt8):Bool:=(decide (c.toNat<32)&& !decide (c.toNat=9))||decide (c.toNat=127)
def CD :Nat→List UInt8→Nat→Int
 |0,_,_=>-1
 |_+1,[],_=>-1
 |f+1,c::r,i=>if vU (c::r)=0∨OU c=true then(i:Int)else CD f ((c::r).drop (vU (c::r))) (i+vU (c::r))
def L6 (s:List UInt8):Int:=CD s.length s 0
theorem Ad {c:UInt8}{r:List UInt8}(h:c.toNat<128):vU (c::r)=1:=by
 unfold vU
 simp only[h,if_true]
end Go.Av
end
