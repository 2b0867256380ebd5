/- Texts that the last one of this claim rests on: a layer over the guide's own conditions for code; contracts of the functions that the law reaches, one by one. No conditions beside those of the given rows. -/
set_option linter.unusedSimpArgs false
set_option linter.unusedVariables false
section
namespace Go.Av
def gI (c:UInt8):Bool:=decide (97≤c.toNat)&&decide (c.toNat≤122)
def aJ (c:UInt8):Bool:=decide (48≤c.toNat)&&decide (c.toNat≤57)
def cK (c:UInt8):Bool:=gI c||(decide (65≤c.toNat)&&decide (c.toNat≤90))
def aP (c:UInt8)(s:List UInt8):Int:=match s.findIdx? (· ==c)with|some i=>i|none=>-1
theorem AJ {c:UInt8}{s:List UInt8}{i:Nat}(h:s[i]?=some c)(hn: ∀(j:Nat)(d:UInt8),j<i→s[j]?=some d→ ¬d=c):aP c s=i:=by
 have:s.findIdx? (· ==c)=some i:=by
  obtain⟨hi,he⟩:=List.getElem?_eq_some_iff.1 h
  refine List.findIdx?_eq_some_iff_getElem.2 ⟨hi,by simp[he],λj hj=>?_⟩
  have:=hn j _ hj (List.getElem?_eq_getElem (by omega))
  simpa using this
 rw[aP,this]
theorem xp {c:UInt8}{s:List UInt8}(hn: ∀(j:Nat)(d:UInt8),s[j]?=some d→ ¬d=c):aP c s= -1:=by
 have:s.findIdx? (· ==c)=none:=by
  refine List.findIdx?_eq_none_iff.2 λx hx=>?_
  obtain⟨j,hj⟩:=List.mem_iff_getElem?.1 hx
  simpa using hn j x hj
 rw[aP,this]
def jK (c:UInt8)(s:List UInt8):Nat→Int
 |0=>-1
 |i+1=>if s[i]?=some c then i else jK c s i
def lastOf (c:UInt8)(s:List UInt8):Int:=jK c s s.length
def rq (c:UInt8):Int:=if c.toNat=126 then-1 else if cK c then 1+c.toNat else 300+c.toNat
def mM (s:List UInt8)(i:Nat):Int:=match s[i]? with|none=>0|some c=>if aJ c then 0 else rq c
def sgn (a b:Int):Int:=if a<b then-1 else if a>b then 1 else 0
def bo (s:List UInt8):List UInt8:=s.dropWhile λc=>!aJ c
def fA (s:List UInt8):List UInt8:=s.dropWhile λc=>c==48
def bj (s:List UInt8):Nat:=(s.takeWhile aJ).length
theorem CF {s:List UInt8}{i:Nat}(hi:i≤s.length)(h1: ∀c∈s.take i,aJ c=true)(h2: ∀c,s[i]?=some c→aJ c=false):bj s=i:=by
 induction s generalizing i with
 |nil=>simp at hi;subst hi;rfl
 |cons c r ih=>
  cases i with
  |zero=>
   have:=h2 c rfl
   simp[bj,this]
  |succ i=>
   have hc:=h1 c (by simp)
   have:=ih (i:=i) (by simpa using hi) (λd hd=>h1 d (by simp[hd])) (λd hd=>h2 d (by simpa using hd))
   simpa[bj,hc]using this
def rk :List UInt8→Int
 |[]=>0
 |c::_=>if aJ c then 0 else rq c
theorem ka (s:List UInt8)(i:Nat):mM s i=rk (s.drop i):=by
 unfold mM
 cases h:s[i]? with
 |none=>rw[List.drop_eq_nil_of_le (List.getElem?_eq_none_iff.1 h)];rfl
 |some c=>
  obtain⟨hi,he⟩:=List.getElem?_eq_some_iff.1 h
  rw[List.drop_eq_getElem_cons hi,he]
  rfl
theorem GG (c:UInt8):rq c≠0:=by unfold rq;split<;>(try split)<;>omega
theorem zD {s:List UInt8}(h:rk s≠0): ∃c r,s=c::r∧aJ c=false:=by
 cases s with
 |nil=>exact absurd rfl h
 |cons c r=>
  refine⟨c,r,rfl,?_⟩
  cases hd:aJ c with
  |false=>rfl
  |true=>simp[rk,hd]at h
def bP :List UInt8→List UInt8→Int
 |[],b=>if rk b=0 then 0 else sgn 0 (rk b)
 |c::a,b=>if rk (c::a)=0∧rk b=0 then 0 else if rk (c::a)=rk b then bP a b.tail else sgn (rk (c::a)) (rk b)
theorem fT {a b:List UInt8}(h:rk a=0)(h':rk b=0):bP a b=0:=by
 cases a<;>simp[bP,h,h']
theorem fP {a b:List UInt8}(h:rk a≠0)(he:rk a=rk b):bP a b=bP a.tail b.tail:=by
 cases a with
 |nil=>exact absurd rfl h
 |cons c a=>rw[bP,if_neg (λe=>h e.1),if_pos he];rfl
theorem qG {a b:Int}(h:a≠b):sgn a b≠0:=by unfold sgn;split<;>(try split)<;>omega
theorem mB (a:Int):sgn a a=0:=by simp[sgn]
theorem nY {a b:Int}(h:sgn a b=0):a=b:=by
 cases Int.decEq a b with
 |isTrue h=>exact h
 |isFalse hn=>exact absurd h (qG hn)
theorem dF {a b:List UInt8}(he:rk a≠rk b):bP a b=sgn (rk a) (rk b):=by
 cases a with
 |nil=>
  have: ¬rk b=0:=λe=>he (by rw[e];rfl)
  rw[bP,if_neg this];rfl
 |cons c a=>rw[bP,if_neg (λe=>he (by rw[e.1,e.2])),if_neg he]
def fk :List UInt8→List UInt8→Int
 |x::a,y::b=>if x=y then fk a b else sgn x.toNat y.toNat
 |_,_=>0
def aK (s:List UInt8):List UInt8:=fA (bo s)
theorem eX {p:UInt8→Bool}(s:List UInt8):(s.dropWhile p).length≤s.length:=by
 induction s with
 |nil=>simp
 |cons c r ih=>simp only[List.dropWhile_cons];split<;>simp<;>omega
theorem si (s:List UInt8):(aK s).length≤s.length:=Nat.le_trans (eX _) (eX _)
theorem pk (s:List UInt8):bj s≤s.length:=(List.takeWhile_sublist _).length_le
theorem kM {s:List UInt8}(h:s≠[]):((aK s).drop (bj (aK s))).length<s.length:=by
 cases s with
 |nil=>exact absurd rfl h
 |cons c r=>
  cases hd:aJ c with
  |false=>
   have:aK (c::r)=aK r:=by simp[aK,bo,hd]
   rw[this,List.length_drop]
   have:=si r
   simp;omega
  |true=>
   have e:bo (c::r)=c::r:=by simp[bo,hd]
   by_cases h0:c=48
   ·have:aK (c::r)=fA r:=by rw[aK,e];simp[fA,h0]
    rw[this,List.length_drop]
    have:=eX (p:=λc=>c==48) r
    simp only[fA,List.length_cons];omega
   ·have:aK (c::r)=c::r:=by rw[aK,e];simp[fA,h0]
    rw[this,List.length_drop]
    have:0<bj (c::r):=by simp[bj,hd]
    simp only[List.length_cons];omega
theorem nQ (s:List UInt8):((aK s).drop (bj (aK s))).length≤s.length:=by
 rw[List.length_drop];have:=si s;omega
def bc (a b:List UInt8):Int:=
 if _h:a=[]∧b=[]then 0
 else if bP a b≠0 then bP a b
 else if bj (aK a)≠bj (aK b)then sgn (bj (aK a)) (bj (aK b))
 else if fk ((aK a).take (bj (aK a))) ((aK b).take (bj (aK b)))≠0 then fk ((aK a).take (bj (aK a))) ((aK b).take (bj (aK b)))
 else bc ((aK a).drop (bj (aK a))) ((aK b).drop (bj (aK b)))
termination_by a.length +b.length
decreasing_by
 have h1:=nQ a
 have h2:=nQ b
 by_cases ha:a=[]
 ·have hb:b≠[]:=λe=>_h ⟨ha,e⟩
  have:=kM hb
  omega
 ·have:=kM ha
  omega
theorem sS {a b:List UInt8}(h: ¬(a=[]∧b=[])):((aK a).drop (bj (aK a))).length+((aK b).drop (bj (aK b))).length<a.length+b.length:=by
 have h1:=nQ a
 have h2:=nQ b
 by_cases ha:a=[]
 ·have hb:b≠[]:=λe=>h ⟨ha,e⟩
  have:=kM hb
  omega
 ·have:=kM ha
  omega
theorem Jk {x y:List UInt8}{i:Nat}{c d:UInt8}(hc:x[i]?=some c)(hd:y[i]?=some d)(hp:x.take i=y.take i)(hne:c≠d):fk x y=sgn c.toNat d.toNat:=by
 induction x generalizing y i with
 |nil=>simp at hc
 |cons a x ih=>
  cases y with
  |nil=>simp at hd
  |cons b y=>
   cases i with
   |zero=>
    simp at hc hd
    subst hc hd
    simp[fk,hne]
   |succ i=>
    simp at hc hd hp
    rw[fk,if_pos hp.1]
    exact ih hc hd hp.2
theorem Dq (x:List UInt8):fk x x=0:=by
 induction x with
 |nil=>rfl
 |cons a x ih=>simp[fk,ih]
theorem fy (c:UInt8)(s:List UInt8):(aP c s= -1∧c∉s)∨ ∃i:Nat,aP c s=i∧s[i]?=some c∧i<s.length:=by
 unfold aP
 cases h:s.findIdx? (· ==c)with
 |none=>
  refine .inl ⟨rfl,λhm=>?_⟩
  have:=List.findIdx?_eq_none_iff.1 h c hm
  simp at this
 |some i=>
  obtain⟨hi,he,_⟩:=List.findIdx?_eq_some_iff_getElem.1 h
  refine .inr ⟨i,rfl,?_,hi⟩
  rw[List.getElem?_eq_getElem hi]
  simpa using he
theorem oM (c:UInt8)(s:List UInt8): ∀n:Nat,n≤s.length→(jK c s n= -1∧ ∀j,j<n→s[j]?≠some c)∨ ∃i:Nat,jK c s n=i∧s[i]?=some c∧i<n
 |0,_=>.inl ⟨rfl,λj h=>absurd h (Nat.not_lt_zero j)⟩
 |n+1,h=>by
  unfold jK
  split
  ·rename_i he;exact .inr ⟨n,rfl,he,Nat.lt_succ_self n⟩
  ·rename_i he
   rcases oM c s n (by omega)with⟨h1,h2⟩|⟨i,h1,h2,h3⟩
   ·refine .inl ⟨h1,λj hj=>?_⟩
    rcases Nat.lt_succ_iff_lt_or_eq.1 hj with hj|rfl
    ·exact h2 j hj
    ·exact he
   ·exact .inr ⟨i,h1,h2,by omega⟩
theorem kQ (c:UInt8)(s:List UInt8):(lastOf c s= -1∧c∉s)∨ ∃i:Nat,lastOf c s=i∧s[i]?=some c∧i<s.length:=by
 rcases oM c s s.length (Nat.le_refl _)with⟨h1,h2⟩|h
 ·refine .inl ⟨h1,λhm=>?_⟩
  obtain⟨j,hj⟩:=List.mem_iff_getElem?.1 hm
  exact h2 j (List.getElem?_eq_some_iff.1 hj).1 hj
 ·exact .inr h
def nI (c:UInt8):Bool:=cK c||aJ c||(c.toNat:Int)==43||(c.toNat:Int)==46||(c.toNat:Int)==126
def uN (c:UInt8):Bool:=cK c||aJ c||(c.toNat:Int)==43||(c.toNat:Int)==46||(c.toNat:Int)==126||(c.toNat:Int)==45||(c.toNat:Int)==58
theorem Ek (c:UInt8):(!cK c&& !aJ c&&(c.toNat:Int) !=43&&(c.toNat:Int) !=46&&(c.toNat:Int) !=126)= !nI c:=by simp[nI,bne,Bool.and_assoc]
theorem Ic (c:UInt8):(!cK c&& !aJ c&&(c.toNat:Int) !=43&&(c.toNat:Int) !=46&&(c.toNat:Int) !=126&&(c.toNat:Int) !=45&&(c.toNat:Int) !=58)= !uN c:=by simp[uN,bne,Bool.and_assoc]
def nX (s:List UInt8):Option (List UInt8×List UInt8):=
 if 0≤aP 58 s then
  (let e:=s.take (aP 58 s).toNat
   if 1≤e.length∧e.length≤9∧e.all aJ=true then some (e,s.drop ((aP 58 s).toNat+1))else none)
 else some ([48],s)
def ot (t:List UInt8):Option (List UInt8×List UInt8):=
 if 0≤lastOf 45 t then(if t.drop ((lastOf 45 t).toNat+1)=[]then none else some (t.take (lastOf 45 t).toNat,t.drop ((lastOf 45 t).toNat+1)))
 else some (t,[])
def fG :List UInt8→Bool
 |[]=>false
 |c::_=>aJ c
def eL (s:List UInt8):Option (List UInt8×List UInt8×List UInt8):=
 if s.length=0∨48<s.length then none else
 match nX s with
 |none=>none
 |some (e,t)=>match ot t with
  |none=>none
  |some (u,r)=>if r.all nI&&u.all uN&&fG u then some (e,u,r)else none
def bf (s:List UInt8):Bool:=(eL s).isSome
def bp (a b:List UInt8):Int:=
 match eL a,eL b with
 |some (e,u,r),some (f,v,s)=>if bc e f≠0 then bc e f else if bc u v≠0 then bc u v else bc r s
 |_,_=>0
def ba (a b:List UInt8):Bool:=bf a&&bf b&&bp a b==0
def ep (rel:Int)(a b:List UInt8):Bool:=
 if rel=0 then bf a
 else if bf a&&bf b then
  (if rel=1 then decide (bp a b<0)else if rel=2 then decide (bp a b≤0)else if rel=3 then bp a b==0
   else if rel=4 then decide (0≤bp a b)else if rel=5 then decide (0<bp a b)else false)
 else false
end Go.Av
end
