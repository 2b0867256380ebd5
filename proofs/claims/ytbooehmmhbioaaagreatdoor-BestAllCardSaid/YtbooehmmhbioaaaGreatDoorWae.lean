/- Texts that the last one of this claim rests on: a layer over the guide's own conditions for code; contracts of the functions that the law reaches, one by one. No conditions beside those of the given rows. -/
set_option linter.unusedSimpArgs false
set_option linter.unusedVariables false
section
namespace Go.Av
def ja (c:UInt8):Bool:=decide (97≤c.toNat)&&decide (c.toNat≤122)
def aK (c:UInt8):Bool:=decide (48≤c.toNat)&&decide (c.toNat≤57)
def cP (c:UInt8):Bool:=ja c||(decide (65≤c.toNat)&&decide (c.toNat≤90))
def aT (c:UInt8)(s:List UInt8):Int:=match s.findIdx? (· ==c)with|some i=>i|none=>-1
theorem CN {c:UInt8}{s:List UInt8}{i:Nat}(h:s[i]?=some c)(hn: ∀(j:Nat)(d:UInt8),j<i→s[j]?=some d→ ¬d=c):aT c s=i:=by
 have:s.findIdx? (· ==c)=some i:=by
  obtain⟨hi,he⟩:=List.getElem?_eq_some_iff.1 h
  refine List.findIdx?_eq_some_iff_getElem.2 ⟨hi,by simp[he],λj hj=>?_⟩
  have:=hn j _ hj (List.getElem?_eq_getElem (by omega))
  simpa using this
 rw[aT,this]
theorem xu {c:UInt8}{s:List UInt8}(hn: ∀(j:Nat)(d:UInt8),s[j]?=some d→ ¬d=c):aT c s= -1:=by
 have:s.findIdx? (· ==c)=none:=by
  refine List.findIdx?_eq_none_iff.2 λx hx=>?_
  obtain⟨j,hj⟩:=List.mem_iff_getElem?.1 hx
  simpa using hn j x hj
 rw[aT,this]
def jW (c:UInt8)(s:List UInt8):Nat→Int
 |0=>-1
 |i+1=>if s[i]?=some c then i else jW c s i
def lastOf (c:UInt8)(s:List UInt8):Int:=jW c s s.length
def sb (c:UInt8):Int:=if c.toNat=126 then-1 else if cP c then 1+c.toNat else 300+c.toNat
def mQ (s:List UInt8)(i:Nat):Int:=match s[i]? with|none=>0|some c=>if aK c then 0 else sb c
def sgn (a b:Int):Int:=if a<b then-1 else if a>b then 1 else 0
def bq (s:List UInt8):List UInt8:=s.dropWhile λc=>!aK c
def fI (s:List UInt8):List UInt8:=s.dropWhile λc=>c==48
def bm (s:List UInt8):Nat:=(s.takeWhile aK).length
theorem DF {s:List UInt8}{i:Nat}(hi:i≤s.length)(h1: ∀c∈s.take i,aK c=true)(h2: ∀c,s[i]?=some c→aK c=false):bm s=i:=by
 induction s generalizing i with
 |nil=>simp at hi;subst hi;rfl
 |cons c r ih=>
  cases i with
  |zero=>
   have:=h2 c rfl
   simp[bm,this]
  |succ i=>
   have hc:=h1 c (by simp)
   have:=ih (i:=i) (by simpa using hi) (λd hd=>h1 d (by simp[hd])) (λd hd=>h2 d (by simpa using hd))
   simpa[bm,hc]using this
def rk :List UInt8→Int
 |[]=>0
 |c::_=>if aK c then 0 else sb c
theorem j5 (s:List UInt8)(i:Nat):mQ s i=rk (s.drop i):=by
 unfold mQ
 cases h:s[i]? with
 |none=>rw[List.drop_eq_nil_of_le (List.getElem?_eq_none_iff.1 h)];rfl
 |some c=>
  obtain⟨hi,he⟩:=List.getElem?_eq_some_iff.1 h
  rw[List.drop_eq_getElem_cons hi,he]
  rfl
theorem IV (c:UInt8):sb c≠0:=by unfold sb;split<;>(try split)<;>omega
theorem Ad {s:List UInt8}(h:rk s≠0): ∃c r,s=c::r∧aK c=false:=by
 cases s with
 |nil=>exact absurd rfl h
 |cons c r=>
  refine⟨c,r,rfl,?_⟩
  cases hd:aK c with
  |false=>rfl
  |true=>simp[rk,hd]at h
def bU :List UInt8→List UInt8→Int
 |[],b=>if rk b=0 then 0 else sgn 0 (rk b)
 |c::a,b=>if rk (c::a)=0∧rk b=0 then 0 else if rk (c::a)=rk b then bU a b.tail else sgn (rk (c::a)) (rk b)
theorem fY {a b:List UInt8}(h:rk a=0)(h':rk b=0):bU a b=0:=by
 cases a<;>simp[bU,h,h']
theorem fW {a b:List UInt8}(h:rk a≠0)(he:rk a=rk b):bU a b=bU a.tail b.tail:=by
 cases a with
 |nil=>exact absurd rfl h
 |cons c a=>rw[bU,if_neg (λe=>h e.1),if_pos he];rfl
theorem qu {a b:Int}(h:a≠b):sgn a b≠0:=by unfold sgn;split<;>(try split)<;>omega
theorem mR (a:Int):sgn a a=0:=by simp[sgn]
theorem oh {a b:Int}(h:sgn a b=0):a=b:=by
 cases Int.decEq a b with
 |isTrue h=>exact h
 |isFalse hn=>exact absurd h (qu hn)
theorem dI {a b:List UInt8}(he:rk a≠rk b):bU a b=sgn (rk a) (rk b):=by
 cases a with
 |nil=>
  have: ¬rk b=0:=λe=>he (by rw[e];rfl)
  rw[bU,if_neg this];rfl
 |cons c a=>rw[bU,if_neg (λe=>he (by rw[e.1,e.2])),if_neg he]
def fy :List UInt8→List UInt8→Int
 |x::a,y::b=>if x=y then fy a b else sgn x.toNat y.toNat
 |_,_=>0
def aL (s:List UInt8):List UInt8:=fI (bq s)
theorem fp {p:UInt8→Bool}(s:List UInt8):(s.dropWhile p).length≤s.length:=by
 induction s with
 |nil=>simp
 |cons c r ih=>simp only[List.dropWhile_cons];split<;>simp<;>omega
theorem sS (s:List UInt8):(aL s).length≤s.length:=Nat.le_trans (fp _) (fp _)
theorem o9 (s:List UInt8):bm s≤s.length:=(List.takeWhile_sublist _).length_le
theorem lk {s:List UInt8}(h:s≠[]):((aL s).drop (bm (aL s))).length<s.length:=by
 cases s with
 |nil=>exact absurd rfl h
 |cons c r=>
  cases hd:aK c with
  |false=>
   have:aL (c::r)=aL r:=by simp[aL,bq,hd]
   rw[this,List.length_drop]
   have:=sS r
   simp;omega
  |true=>
   have e:bq (c::r)=c::r:=by simp[bq,hd]
   by_cases h0:c=48
   ·have:aL (c::r)=fI r:=by rw[aL,e];simp[fI,h0]
    rw[this,List.length_drop]
    have:=fp (p:=λc=>c==48) r
    simp only[fI,List.length_cons];omega
   ·have:aL (c::r)=c::r:=by rw[aL,e];simp[fI,h0]
    rw[this,List.length_drop]
    have:0<bm (c::r):=by simp[bm,hd]
    simp only[List.length_cons];omega
theorem oG (s:List UInt8):((aL s).drop (bm (aL s))).length≤s.length:=by
 rw[List.length_drop];have:=sS s;omega
def bj (a b:List UInt8):Int:=
 if _h:a=[]∧b=[]then 0
 else if bU a b≠0 then bU a b
 else if bm (aL a)≠bm (aL b)then sgn (bm (aL a)) (bm (aL b))
 else if fy ((aL a).take (bm (aL a))) ((aL b).take (bm (aL b)))≠0 then fy ((aL a).take (bm (aL a))) ((aL b).take (bm (aL b)))
 else bj ((aL a).drop (bm (aL a))) ((aL b).drop (bm (aL b)))
termination_by a.length +b.length
decreasing_by
 have h1:=oG a
 have h2:=oG b
 by_cases ha:a=[]
 ·have hb:b≠[]:=λe=>_h ⟨ha,e⟩
  have:=lk hb
  omega
 ·have:=lk ha
  omega
theorem uP {a b:List UInt8}(h: ¬(a=[]∧b=[])):((aL a).drop (bm (aL a))).length+((aL b).drop (bm (aL b))).length<a.length+b.length:=by
 have h1:=oG a
 have h2:=oG b
 by_cases ha:a=[]
 ·have hb:b≠[]:=λe=>h ⟨ha,e⟩
  have:=lk hb
  omega
 ·have:=lk ha
  omega
theorem Kr {x y:List UInt8}{i:Nat}{c d:UInt8}(hc:x[i]?=some c)(hd:y[i]?=some d)(hp:x.take i=y.take i)(hne:c≠d):fy x y=sgn c.toNat d.toNat:=by
 induction x generalizing y i with
 |nil=>simp at hc
 |cons a x ih=>
  cases y with
  |nil=>simp at hd
  |cons b y=>
   cases i with
   |zero=>
    simp at hc hd
    subst hc hd
    simp[fy,hne]
   |succ i=>
    simp at hc hd hp
    rw[fy,if_pos hp.1]
    exact ih hc hd hp.2
theorem Fq (x:List UInt8):fy x x=0:=by
 induction x with
 |nil=>rfl
 |cons a x ih=>simp[fy,ih]
theorem im (c:UInt8)(s:List UInt8):(aT c s= -1∧c∉s)∨ ∃i:Nat,aT c s=i∧s[i]?=some c∧i<s.length:=by
 unfold aT
 cases h:s.findIdx? (· ==c)with
 |none=>
  refine .inl ⟨rfl,λhm=>?_⟩
  have:=List.findIdx?_eq_none_iff.1 h c hm
  simp at this
 |some i=>
  obtain⟨hi,he,_⟩:=List.findIdx?_eq_some_iff_getElem.1 h
  refine .inr ⟨i,rfl,?_,hi⟩
  rw[List.getElem?_eq_getElem hi]
  simpa using he
theorem pR (c:UInt8)(s:List UInt8): ∀n:Nat,n≤s.length→(jW c s n= -1∧ ∀j,j<n→s[j]?≠some c)∨ ∃i:Nat,jW c s n=i∧s[i]?=some c∧i<n
 |0,_=>.inl ⟨rfl,λj h=>absurd h (Nat.not_lt_zero j)⟩
 |n+1,h=>by
  unfold jW
  split
  ·rename_i he;exact .inr ⟨n,rfl,he,Nat.lt_succ_self n⟩
  ·rename_i he
   rcases pR c s n (by omega)with⟨h1,h2⟩|⟨i,h1,h2,h3⟩
   ·refine .inl ⟨h1,λj hj=>?_⟩
    rcases Nat.lt_succ_iff_lt_or_eq.1 hj with hj|rfl
    ·exact h2 j hj
    ·exact he
   ·exact .inr ⟨i,h1,h2,by omega⟩
theorem pf (c:UInt8)(s:List UInt8):(lastOf c s= -1∧c∉s)∨ ∃i:Nat,lastOf c s=i∧s[i]?=some c∧i<s.length:=by
 rcases pR c s s.length (Nat.le_refl _)with⟨h1,h2⟩|h
 ·refine .inl ⟨h1,λhm=>?_⟩
  obtain⟨j,hj⟩:=List.mem_iff_getElem?.1 hm
  exact h2 j (List.getElem?_eq_some_iff.1 hj).1 hj
 ·exact .inr h
def rW (c:UInt8):Bool:=cP c||aK c||(c.toNat:Int)==43||(c.toNat:Int)==46||(c.toNat:Int)==126
def yI (c:UInt8):Bool:=cP c||aK c||(c.toNat:Int)==43||(c.toNat:Int)==46||(c.toNat:Int)==126||(c.toNat:Int)==45||(c.toNat:Int)==58
theorem EC (c:UInt8):(!cP c&& !aK c&&(c.toNat:Int) !=43&&(c.toNat:Int) !=46&&(c.toNat:Int) !=126)= !rW c:=by simp[rW,bne,Bool.and_assoc]
theorem Hr (c:UInt8):(!cP c&& !aK c&&(c.toNat:Int) !=43&&(c.toNat:Int) !=46&&(c.toNat:Int) !=126&&(c.toNat:Int) !=45&&(c.toNat:Int) !=58)= !yI c:=by simp[yI,bne,Bool.and_assoc]
def rr (s:List UInt8):Option (List UInt8×List UInt8):=
 if 0≤aT 58 s then
  (let e:=s.take (aT 58 s).toNat
   if 1≤e.length∧e.length≤9∧e.all aK=true then some (e,s.drop ((aT 58 s).toNat+1))else none)
 else some ([48],s)
def pZ (t:List UInt8):Option (List UInt8×List UInt8):=
 if 0≤lastOf 45 t then(if t.drop ((lastOf 45 t).toNat+1)=[]then none else some (t.take (lastOf 45 t).toNat,t.drop ((lastOf 45 t).toNat+1)))
 else some (t,[])
def fN :List UInt8→Bool
 |[]=>false
 |c::_=>aK c
def eT (s:List UInt8):Option (List UInt8×List UInt8×List UInt8):=
 if s.length=0∨48<s.length then none else
 match rr s with
 |none=>none
 |some (e,t)=>match pZ t with
  |none=>none
  |some (u,r)=>if r.all rW&&u.all yI&&fN u then some (e,u,r)else none
def bn (s:List UInt8):Bool:=(eT s).isSome
def bs (a b:List UInt8):Int:=
 match eT a,eT b with
 |some (e,u,r),some (f,v,s)=>if bj e f≠0 then bj e f else if bj u v≠0 then bj u v else bj r s
 |_,_=>0
def bb (a b:List UInt8):Bool:=bn a&&bn b&&bs a b==0
def eC (rel:Int)(a b:List UInt8):Bool:=
 if rel=0 then bn a
 else if bn a&&bn b then
  (if rel=1 then decide (bs a b<0)else if rel=2 then decide (bs a b≤0)else if rel=3 then bs a b==0
   else if rel=4 then decide (0≤bs a b)else if rel=5 then decide (0<bs a b)else false)
 else false
end Go.Av
end
