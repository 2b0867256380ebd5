/- Texts that the last one of this claim rests on: a layer over the guide's own conditions for code; contracts of the functions that the law reaches, one by one. No conditions beside those of the given rows. -/
set_option linter.unusedSimpArgs false
set_option linter.unusedVariables false
section
namespace Go.Av
def im (c:UInt8):Bool:=decide (97≤c.toNat)&&decide (c.toNat≤122)
def aH (c:UInt8):Bool:=decide (48≤c.toNat)&&decide (c.toNat≤57)
def cH (c:UInt8):Bool:=im c||(decide (65≤c.toNat)&&decide (c.toNat≤90))
def aM (c:UInt8)(s:List UInt8):Int:=match s.findIdx? (· ==c)with|some i=>i|none=>-1
theorem zJ {c:UInt8}{s:List UInt8}{i:Nat}(h:s[i]?=some c)(hn: ∀(j:Nat)(d:UInt8),j<i→s[j]?=some d→ ¬d=c):aM c s=i:=by
 have:s.findIdx? (· ==c)=some i:=by
  obtain⟨hi,he⟩:=List.getElem?_eq_some_iff.1 h
  refine List.findIdx?_eq_some_iff_getElem.2 ⟨hi,by simp[he],λj hj=>?_⟩
  have:=hn j _ hj (List.getElem?_eq_getElem (by omega))
  simpa using this
 rw[aM,this]
theorem vG {c:UInt8}{s:List UInt8}(hn: ∀(j:Nat)(d:UInt8),s[j]?=some d→ ¬d=c):aM c s= -1:=by
 have:s.findIdx? (· ==c)=none:=by
  refine List.findIdx?_eq_none_iff.2 λx hx=>?_
  obtain⟨j,hj⟩:=List.mem_iff_getElem?.1 hx
  simpa using hn j x hj
 rw[aM,this]
def jl (c:UInt8)(s:List UInt8):Nat→Int
 |0=>-1
 |i+1=>if s[i]?=some c then i else jl c s i
def lastOf (c:UInt8)(s:List UInt8):Int:=jl c s s.length
def qv (c:UInt8):Int:=if c.toNat=126 then-1 else if cH c then 1+c.toNat else 300+c.toNat
def lJ (s:List UInt8)(i:Nat):Int:=match s[i]? with|none=>0|some c=>if aH c then 0 else qv c
def sgn (a b:Int):Int:=if a<b then-1 else if a>b then 1 else 0
def bh (s:List UInt8):List UInt8:=s.dropWhile λc=>!aH c
def fq (s:List UInt8):List UInt8:=s.dropWhile λc=>c==48
def bb (s:List UInt8):Nat:=(s.takeWhile aH).length
theorem Bi {s:List UInt8}{i:Nat}(hi:i≤s.length)(h1: ∀c∈s.take i,aH c=true)(h2: ∀c,s[i]?=some c→aH c=false):bb s=i:=by
 induction s generalizing i with
 |nil=>simp at hi;subst hi;rfl
 |cons c r ih=>
  cases i with
  |zero=>
   have:=h2 c rfl
   simp[bb,this]
  |succ i=>
   have hc:=h1 c (by simp)
   have:=ih (i:=i) (by simpa using hi) (λd hd=>h1 d (by simp[hd])) (λd hd=>h2 d (by simpa using hd))
   simpa[bb,hc]using this
def rk :List UInt8→Int
 |[]=>0
 |c::_=>if aH c then 0 else qv c
theorem jM (s:List UInt8)(i:Nat):lJ s i=rk (s.drop i):=by
 unfold lJ
 cases h:s[i]? with
 |none=>rw[List.drop_eq_nil_of_le (List.getElem?_eq_none_iff.1 h)];rfl
 |some c=>
  obtain⟨hi,he⟩:=List.getElem?_eq_some_iff.1 h
  rw[List.drop_eq_getElem_cons hi,he]
  rfl
theorem FZ (c:UInt8):qv c≠0:=by unfold qv;split<;>(try split)<;>omega
theorem xH {s:List UInt8}(h:rk s≠0): ∃c r,s=c::r∧aH c=false:=by
 cases s with
 |nil=>exact absurd rfl h
 |cons c r=>
  refine⟨c,r,rfl,?_⟩
  cases hd:aH c with
  |false=>rfl
  |true=>simp[rk,hd]at h
def bP :List UInt8→List UInt8→Int
 |[],b=>if rk b=0 then 0 else sgn 0 (rk b)
 |c::a,b=>if rk (c::a)=0∧rk b=0 then 0 else if rk (c::a)=rk b then bP a b.tail else sgn (rk (c::a)) (rk b)
theorem fF {a b:List UInt8}(h:rk a=0)(h':rk b=0):bP a b=0:=by
 cases a<;>simp[bP,h,h']
theorem fG {a b:List UInt8}(h:rk a≠0)(he:rk a=rk b):bP a b=bP a.tail b.tail:=by
 cases a with
 |nil=>exact absurd rfl h
 |cons c a=>rw[bP,if_neg (λe=>h e.1),if_pos he];rfl
theorem pM {a b:Int}(h:a≠b):sgn a b≠0:=by unfold sgn;split<;>(try split)<;>omega
theorem lC (a:Int):sgn a a=0:=by simp[sgn]
theorem nb {a b:Int}(h:sgn a b=0):a=b:=by
 cases Int.decEq a b with
 |isTrue h=>exact h
 |isFalse hn=>exact absurd h (pM hn)
theorem dm {a b:List UInt8}(he:rk a≠rk b):bP a b=sgn (rk a) (rk b):=by
 cases a with
 |nil=>
  have: ¬rk b=0:=λe=>he (by rw[e];rfl)
  rw[bP,if_neg this];rfl
 |cons c a=>rw[bP,if_neg (λe=>he (by rw[e.1,e.2])),if_neg he]
def eZ :List UInt8→List UInt8→Int
 |x::a,y::b=>if x=y then eZ a b else sgn x.toNat y.toNat
 |_,_=>0
def aG (s:List UInt8):List UInt8:=fq (bh s)
theorem eU {p:UInt8→Bool}(s:List UInt8):(s.dropWhile p).length≤s.length:=by
 induction s with
 |nil=>simp
 |cons c r ih=>simp only[List.dropWhile_cons];split<;>simp<;>omega
theorem rA (s:List UInt8):(aG s).length≤s.length:=Nat.le_trans (eU _) (eU _)
theorem pk (s:List UInt8):bb s≤s.length:=(List.takeWhile_sublist _).length_le
theorem kh {s:List UInt8}(h:s≠[]):((aG s).drop (bb (aG s))).length<s.length:=by
 cases s with
 |nil=>exact absurd rfl h
 |cons c r=>
  cases hd:aH c with
  |false=>
   have:aG (c::r)=aG r:=by simp[aG,bh,hd]
   rw[this,List.length_drop]
   have:=rA r
   simp;omega
  |true=>
   have e:bh (c::r)=c::r:=by simp[bh,hd]
   by_cases h0:c=48
   ·have:aG (c::r)=fq r:=by rw[aG,e];simp[fq,h0]
    rw[this,List.length_drop]
    have:=eU (p:=λc=>c==48) r
    simp only[fq,List.length_cons];omega
   ·have:aG (c::r)=c::r:=by rw[aG,e];simp[fq,h0]
    rw[this,List.length_drop]
    have:0<bb (c::r):=by simp[bb,hd]
    simp only[List.length_cons];omega
theorem na (s:List UInt8):((aG s).drop (bb (aG s))).length≤s.length:=by
 rw[List.length_drop];have:=rA s;omega
def aZ (a b:List UInt8):Int:=
 if _h:a=[]∧b=[]then 0
 else if bP a b≠0 then bP a b
 else if bb (aG a)≠bb (aG b)then sgn (bb (aG a)) (bb (aG b))
 else if eZ ((aG a).take (bb (aG a))) ((aG b).take (bb (aG b)))≠0 then eZ ((aG a).take (bb (aG a))) ((aG b).take (bb (aG b)))
 else aZ ((aG a).drop (bb (aG a))) ((aG b).drop (bb (aG b)))
termination_by a.length +b.length
decreasing_by
 have h1:=na a
 have h2:=na b
 by_cases ha:a=[]
 ·have hb:b≠[]:=λe=>_h ⟨ha,e⟩
  have:=kh hb
  omega
 ·have:=kh ha
  omega
theorem sI {a b:List UInt8}(h: ¬(a=[]∧b=[])):((aG a).drop (bb (aG a))).length+((aG b).drop (bb (aG b))).length<a.length+b.length:=by
 have h1:=na a
 have h2:=na b
 by_cases ha:a=[]
 ·have hb:b≠[]:=λe=>h ⟨ha,e⟩
  have:=kh hb
  omega
 ·have:=kh ha
  omega
theorem IJ {x y:List UInt8}{i:Nat}{c d:UInt8}(hc:x[i]?=some c)(hd:y[i]?=some d)(hp:x.take i=y.take i)(hne:c≠d):eZ x y=sgn c.toNat d.toNat:=by
 induction x generalizing y i with
 |nil=>simp at hc
 |cons a x ih=>
  cases y with
  |nil=>simp at hd
  |cons b y=>
   cases i with
   |zero=>
    simp at hc hd
    subst hc hd
    simp[eZ,hne]
   |succ i=>
    simp at hc hd hp
    rw[eZ,if_pos hp.1]
    exact ih hc hd hp.2
theorem D1 (x:List UInt8):eZ x x=0:=by
 induction x with
 |nil=>rfl
 |cons a x ih=>simp[eZ,ih]
theorem gK (c:UInt8)(s:List UInt8):(aM c s= -1∧c∉s)∨ ∃i:Nat,aM c s=i∧s[i]?=some c∧i<s.length:=by
 unfold aM
 cases h:s.findIdx? (· ==c)with
 |none=>
  refine .inl ⟨rfl,λhm=>?_⟩
  have:=List.findIdx?_eq_none_iff.1 h c hm
  simp at this
 |some i=>
  obtain⟨hi,he,_⟩:=List.findIdx?_eq_some_iff_getElem.1 h
  refine .inr ⟨i,rfl,?_,hi⟩
  rw[List.getElem?_eq_getElem hi]
  simpa using he
theorem oK (c:UInt8)(s:List UInt8): ∀n:Nat,n≤s.length→(jl c s n= -1∧ ∀j,j<n→s[j]?≠some c)∨ ∃i:Nat,jl c s n=i∧s[i]?=some c∧i<n
 |0,_=>.inl ⟨rfl,λj h=>absurd h (Nat.not_lt_zero j)⟩
 |n+1,h=>by
  unfold jl
  split
  ·rename_i he;exact .inr ⟨n,rfl,he,Nat.lt_succ_self n⟩
  ·rename_i he
   rcases oK c s n (by omega)with⟨h1,h2⟩|⟨i,h1,h2,h3⟩
   ·refine .inl ⟨h1,λj hj=>?_⟩
    rcases Nat.lt_succ_iff_lt_or_eq.1 hj with hj|rfl
    ·exact h2 j hj
    ·exact he
   ·exact .inr ⟨i,h1,h2,by omega⟩
theorem oH (c:UInt8)(s:List UInt8):(lastOf c s= -1∧c∉s)∨ ∃i:Nat,lastOf c s=i∧s[i]?=some c∧i<s.length:=by
 rcases oK c s s.length (Nat.le_refl _)with⟨h1,h2⟩|h
 ·refine .inl ⟨h1,λhm=>?_⟩
  obtain⟨j,hj⟩:=List.mem_iff_getElem?.1 hm
  exact h2 j (List.getElem?_eq_some_iff.1 hj).1 hj
 ·exact .inr h
def qG (c:UInt8):Bool:=cH c||aH c||(c.toNat:Int)==43||(c.toNat:Int)==46||(c.toNat:Int)==126
def xS (c:UInt8):Bool:=cH c||aH c||(c.toNat:Int)==43||(c.toNat:Int)==46||(c.toNat:Int)==126||(c.toNat:Int)==45||(c.toNat:Int)==58
theorem CI (c:UInt8):(!cH c&& !aH c&&(c.toNat:Int) !=43&&(c.toNat:Int) !=46&&(c.toNat:Int) !=126)= !qG c:=by simp[qG,bne,Bool.and_assoc]
theorem E6 (c:UInt8):(!cH c&& !aH c&&(c.toNat:Int) !=43&&(c.toNat:Int) !=46&&(c.toNat:Int) !=126&&(c.toNat:Int) !=45&&(c.toNat:Int) !=58)= !xS c:=by simp[xS,bne,Bool.and_assoc]
def pN (s:List UInt8):Option (List UInt8×List UInt8):=
 if 0≤aM 58 s then
  (let e:=s.take (aM 58 s).toNat
   if 1≤e.length∧e.length≤9∧e.all aH=true then some (e,s.drop ((aM 58 s).toNat+1))else none)
 else some ([48],s)
def oS (t:List UInt8):Option (List UInt8×List UInt8):=
 if 0≤lastOf 45 t then(if t.drop ((lastOf 45 t).toNat+1)=[]then none else some (t.take (lastOf 45 t).toNat,t.drop ((lastOf 45 t).toNat+1)))
 else some (t,[])
def fy :List UInt8→Bool
 |[]=>false
 |c::_=>aH c
def eE (s:List UInt8):Option (List UInt8×List UInt8×List UInt8):=
 if s.length=0∨48<s.length then none else
 match pN s with
 |none=>none
 |some (e,t)=>match oS t with
  |none=>none
  |some (u,r)=>if r.all qG&&u.all xS&&fy u then some (e,u,r)else none
def bs (s:List UInt8):Bool:=(eE s).isSome
def bD (a b:List UInt8):Int:=
 match eE a,eE b with
 |some (e,u,r),some (f,v,s)=>if aZ e f≠0 then aZ e f else if aZ u v≠0 then aZ u v else aZ r s
 |_,_=>0
def bA (a b:List UInt8):Bool:=bs a&&bs b&&bD a b==0
def kU (rel:Int)(a b:List UInt8):Bool:=
 if rel=0 then bs a
 else if bs a&&bs b then
  (if rel=1 then decide (bD a b<0)else if rel=2 then decide (bD a b≤0)else if rel=3 then bD a b==0
   else if rel=4 then decide (0≤bD a b)else if rel=5 then decide (0<bD a b)else false)
 else false
end Go.Av
end
