/- Texts that the last one of this claim rests on: a layer over the guide's own conditions for code; contracts of the functions that the law reaches, one by one. No conditions beside those of the given rows. -/
import Derived.Lib.Join
import Derived.Test.YtbooehmmhbioaaaGreatDoorWaa
import Derived.Test.YtbooehmmhbioaaaGreatDoorWag
set_option linter.unusedSimpArgs false
set_option linter.unusedVariables false
section
namespace Go.Av
def Sz (r:Int):List UInt8:=if r=1 then [60,60]else if r=2 then [60,61]else if r=3 then [61]else if r=4 then [62,61]else if r=5 then [62,62]else []
end Go.Av
end
section
namespace Go.Av
def rZ (c:UInt8):Nat:=if c=32∨c=9 then 1 else if c=40∨c=41∨c=44∨c=124 then 2 else if c=60∨c=62∨c=61 then 3 else 0
def wsB (c:UInt8):Bool:=decide (rZ c=1)
def kC (s:List UInt8):List UInt8:=s.dropWhile wsB
def xZ (c:UInt8):Bool:=decide (rZ c=0∨rZ c=3)
def AT (t:List UInt8):Int:=if [60,60].isPrefixOf t=true then 1 else if [60,61].isPrefixOf t=true then 2 else if [61].isPrefixOf t=true then 3 else if [62,61].isPrefixOf t=true then 4 else if [62,62].isPrefixOf t=true then 5 else 0
def TL (s:List UInt8):Option (Atom×List UInt8):=
 let s1:=kC s
 if cq (s1.takeWhile xZ)=true then
  match kC (s1.dropWhile xZ)with
  |[]=>some (⟨s1.takeWhile xZ,0,[]⟩,[])
  |c::t=>if c=40 then
    let t1:=kC t
    let t3:=kC (t1.drop (Sz (AT t1)).length)
    if AT t1≠0∧bf (t3.takeWhile xZ)=true then
     match kC (t3.dropWhile xZ)with
     |[]=>none
     |d::t5=>if d=41 then some (⟨s1.takeWhile xZ,AT t1,t3.takeWhile xZ⟩,t5)else none
    else none
   else some (⟨s1.takeWhile xZ,0,[]⟩,c::t)
 else none
theorem KL {c:UInt8}{t:List UInt8}(h:rZ c≠1):kC (c::t)=c::t:=by
 unfold kC
 rw[List.dropWhile_cons,if_neg (by simp[wsB,h])]
theorem Ib {α:Type}{p:α→Bool}: ∀{l:List α} {c:α},c∈l.takeWhile p→p c=true
 |[],_,h=>by simp at h
 |d::r,c,h=>by
  rw[List.takeWhile_cons]at h
  split at h
  ·rename_i hd
   rcases List.mem_cons.1 h with rfl|h
   ·exact hd
   ·exact Ib h
  ·simp at h
theorem D5 {c:UInt8}(h:rZ c≠0):c=32∨c=9∨c=40∨c=41∨c=44∨c=124∨c=60∨c=62∨c=61:=by
 unfold rZ at h
 split at h
 ·rename_i h1;rcases h1 with h1|h1<;>simp[h1]
 ·split at h
  ·rename_i h1;rcases h1 with h1|h1|h1|h1<;>simp[h1]
  ·split at h
   ·rename_i h1;rcases h1 with h1|h1|h1<;>simp[h1]
   ·exact absurd rfl h
theorem DE {c:UInt8}(h:rZ c≠0):aJ c=false∧nI c=false∧uN c=false∧c≠58∧c≠45∧ ∀m,gk m c=false:=by
 rcases D5 h with rfl|rfl|rfl|rfl|rfl|rfl|rfl|rfl|rfl<;>exact⟨by decide,by decide,by decide,by decide,by decide,λm=>by simp[gk,gI,aJ]⟩
theorem BV {w:List UInt8}(h:cq w=true): ∀c∈w,rZ c=0:=by
 intro c hc
 obtain⟨j,hj⟩:=List.mem_iff_getElem?.1 hc
 unfold cq at h
 rw[Bool.and_eq_true]at h
 have:=iw.1 h.2 j c hj
 refine Classical.byContradiction λhn=>?_
 rw[(DE hn).2.2.2.2.2]at this
 cases this
theorem vw {α:Type}{l:List α}{c:α}(i:Nat)(h:c∈l):c∈l.take i∨l[i]?=some c∨c∈l.drop (i+1):=by
 obtain⟨j,hj⟩:=List.mem_iff_getElem?.1 h
 rcases Nat.lt_trichotomy j i with hl|rfl|hg
 ·exact .inl (List.mem_iff_getElem?.2 ⟨j,by rw[List.getElem?_take,if_pos hl];exact hj⟩)
 ·exact .inr (.inl hj)
 ·exact .inr (.inr (List.mem_iff_getElem?.2 ⟨j-(i+1),by rw[List.getElem?_drop,show i+1+(j-(i+1))=j by omega];exact hj⟩))
end Go.Av
end
section
namespace Go.Av
def clR (may:Atom→Bool)(one:Bool):Nat→List UInt8→Clause→Except Int (Clause×List UInt8)
 |0,_,_=>.error 12
 |f+1,s,out=>match TL s with
  |none=>.error 3
  |some (a,t)=>if may a=false then .error 3 else if one=true then .ok (out++[a],kC t)else match kC t with
   |[]=>.ok (out++[a],[])
   |d::u=>if d=124 then clR may one f u (out++[a])else .ok (out++[a],d::u)
def VJ (may:Atom→Bool)(one:Bool):Nat→List UInt8→List Clause→List Clause×Int
 |0,_,_=>([],12)
 |f+1,s,out=>match clR may one 6 s []with
  | .error e=>([],e)
  | .ok (c,t)=>match t with
   |[]=>(out++[c],0)
   |d::u=>if d=44 then VJ may one f u (out++[c])else([],3)
def wB (may:Atom→Bool)(one:Bool)(s:List UInt8):List Clause×Int:=if kC s=[]then([],0)else VJ may one 12 s []
end Go.Av
end
section
namespace Go.Av
def l9 (s:List UInt8):List UInt8:=(s.reverse.dropWhile wsB).reverse
def kD (s:List UInt8):List UInt8:=l9 (kC s)
def Ph (c:UInt8):UInt8:=if 65≤c.toNat∧c.toNat≤90 then c+32 else c
def L6 (a b:List UInt8):Bool:=decide (a.map Ph=b.map Ph)
def mG (l:List (List UInt8)):List UInt8:=Lib.join ((l.map kD).filter λt=>decide (t≠[])) [32]
theorem AU (u:List UInt8)(c:UInt8):l9 (u++[c])=if wsB c=true then l9 u else u++[c]:=by
 unfold l9
 rw[List.reverse_append,List.reverse_cons,List.reverse_nil,List.nil_append,List.cons_append,List.nil_append,List.dropWhile_cons]
 split
 ·rfl
 ·simp
theorem D4 (s:List UInt8):(l9 s).length≤s.length:=by
 unfold l9
 rw[List.length_reverse]
 exact Nat.le_trans (List.Sublist.length_le (List.dropWhile_sublist _)) (by simp)
theorem DM (s:List UInt8):(kC s).length≤s.length:=List.Sublist.length_le (List.dropWhile_sublist _)
theorem DH (s:List UInt8):(kD s).length≤s.length:=Nat.le_trans (D4 _) (DM _)
theorem La {l:List (List UInt8)}(x sep:List UInt8)(h:l≠[]):Lib.join (l++[x]) sep=Lib.join l sep++(sep++x):=by
 cases l with
 |nil=>exact absurd rfl h
 |cons y r=>
  rw[List.cons_append,Lib.join_cons,Lib.join_cons,Lib.joinTail,Lib.joinTail]
  simp
def oU (l:List (List UInt8)):List (List UInt8):=(l.map kD).filter λt=>decide (t≠[])
theorem vv {l:List (List UInt8)}:mG l=[]↔oU l=[]:=by
 unfold mG
 show Lib.join (oU l) [32]=[]↔oU l=[]
 cases hf:oU l with
 |nil=>simp[Lib.join_nil]
 |cons y r=>
  have hy:y≠[]:=by
   have:y∈oU l:=by rw[hf];simp
   have:=(List.mem_filter.1 this).2
   simpa using this
  rw[Lib.join_cons]
  simp[hy]
theorem E2 (l:List (List UInt8))(s:List UInt8):mG (l++[s])=if kD s=[]then mG l else if mG l=[]then kD s else mG l++([32]++kD s):=by
 have e:oU (l++[s])=oU l++(if kD s=[]then []else [kD s]):=by
  unfold oU
  rw[List.map_append,List.filter_append]
  congr 1
  by_cases h:kD s=[]<;>simp[h]
 show Lib.join (oU (l++[s])) [32]=_
 rw[e]
 by_cases h:kD s=[]
 ·rw[if_pos h,if_pos h,List.append_nil];rfl
 ·rw[if_neg h,if_neg h]
  by_cases h2:mG l=[]
  ·rw[if_pos h2,vv.1 h2,List.nil_append,Lib.join_one]
  ·rw[if_neg h2,La _ _ λe=>h2 (vv.2 e)]
   rfl
def xi (l:List (List UInt8)):Nat:=(l.map List.length).sum
theorem EN (l:List (List UInt8))(s:List UInt8):xi (l++[s])=xi l+s.length:=by simp[xi]
theorem tM (l:List (List UInt8)): ∀i,(mG (l.take i)).length≤xi (l.take i)+i
 |0=>by simp[mG,Lib.join_nil]
 |i+1=>by
  have ih:=tM l i
  cases hx:l[i]? with
  |none=>
   have:l.take (i+1)=l.take i:=by rw[List.take_add_one,hx];simp
   rw[this]
   omega
  |some s=>
   have:l.take (i+1)=l.take i++[s]:=by rw[List.take_add_one,hx];rfl
   rw[this,E2,EN]
   have:=DH s
   split
   ·omega
   ·split
    ·omega
    ·simp only[List.length_append,List.length_cons,List.length_nil];omega
theorem Dl (l:List (List UInt8)):(mG l).length≤xi l+l.length:=by
 have:=tM l l.length
 rwa [List.take_of_length_le (Nat.le_refl _)]at this
end Go.Av
end
section
namespace Go.Av
set_option maxRecDepth 10000
def iR (s:List UInt8)(i lo hi:Nat):Bool:=match s[i]? with
 |some c=>decide (lo≤c.toNat)&&decide (c.toNat≤hi)
 |none=>false
def vG (s:List UInt8):Nat:=match s with
 |[]=>0
 |c::_=>
  if c.toNat<128 then 1
  else if 194≤c.toNat∧c.toNat≤223∧iR s 1 128 191=true then 2
  else if (c.toNat=224∧iR s 1 160 191=true∧iR s 2 128 191=true)∨(c.toNat=237∧iR s 1 128 159=true∧iR s 2 128 191=true)then 3
  else if 225≤c.toNat∧c.toNat≤239∧c.toNat≠237∧iR s 1 128 191=true∧iR s 2 128 191=true then 3
  else if (c.toNat=240∧iR s 1 144 191=true∧iR s 2 128 191=true∧iR s 3 128 191=true)∨(c.toNat=244∧iR s 1 128 143=true∧iR s 2 128 191=true∧iR s 3 128 191=true)then 4
  else if 241≤c.toNat∧c.toNat≤243∧iR s 1 128 191=true∧iR s 2 128 191=true∧iR s 3 128 191=true then 4
  else 0
def NS (c:UInt8):Bool:=(decide (c.toNat<32)&& !decide (c.toNat=9))||decide (c.toNat=127)
def Co :Nat→List UInt8→Nat→Int
 |0,_,_=>-1
 |_+1,[],_=>-1
 |f+1,c::r,i=>if vG (c::r)=0∨NS c=true then(i:Int)else Co f ((c::r).drop (vG (c::r))) (i+vG (c::r))
def Mg (s:List UInt8):Int:=Co s.length s 0
theorem yu {c:UInt8}{r:List UInt8}(h:c.toNat<128):vG (c::r)=1:=by
 unfold vG
 simp only[h,if_true]
end Go.Av
end
