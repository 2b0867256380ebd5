/- Texts that the last one of this claim rests on: a layer over the guide's own conditions for code; contracts of the functions that the law reaches, one by one. No conditions beside those of the given rows. -/
set_option linter.unusedSimpArgs false
set_option linter.unusedVariables false
section
namespace Go.Av
def iz (c:UInt8):Bool:=decide (97≤c.toNat)&&decide (c.toNat≤122)
def aI (c:UInt8):Bool:=decide (48≤c.toNat)&&decide (c.toNat≤57)
def cE (c:UInt8):Bool:=iz c||(decide (65≤c.toNat)&&decide (c.toNat≤90))
def aO (c:UInt8)(s:List UInt8):Int:=match s.findIdx? (· ==c)with|some i=>i|none=>-1
theorem Bu {c:UInt8}{s:List UInt8}{i:Nat}(h:s[i]?=some c)(hn: ∀(j:Nat)(d:UInt8),j<i→s[j]?=some d→ ¬d=c):aO c s=i:=by
 have:s.findIdx? (· ==c)=some i:=by
  obtain⟨hi,he⟩:=List.getElem?_eq_some_iff.1 h
  refine List.findIdx?_eq_some_iff_getElem.2 ⟨hi,by simp[he],λj hj=>?_⟩
  have:=hn j _ hj (List.getElem?_eq_getElem (by omega))
  simpa using this
 rw[aO,this]
theorem xw {c:UInt8}{s:List UInt8}(hn: ∀(j:Nat)(d:UInt8),s[j]?=some d→ ¬d=c):aO c s= -1:=by
 have:s.findIdx? (· ==c)=none:=by
  refine List.findIdx?_eq_none_iff.2 λx hx=>?_
  obtain⟨j,hj⟩:=List.mem_iff_getElem?.1 hx
  simpa using hn j x hj
 rw[aO,this]
def iY (c:UInt8)(s:List UInt8):Nat→Int
 |0=>-1
 |i+1=>if s[i]?=some c then i else iY c s i
def lastOf (c:UInt8)(s:List UInt8):Int:=iY c s s.length
def ri (c:UInt8):Int:=if c.toNat=126 then-1 else if cE c then 1+c.toNat else 300+c.toNat
def lz (s:List UInt8)(i:Nat):Int:=match s[i]? with|none=>0|some c=>if aI c then 0 else ri c
def sgn (a b:Int):Int:=if a<b then-1 else if a>b then 1 else 0
def bj (s:List UInt8):List UInt8:=s.dropWhile λc=>!aI c
def fb (s:List UInt8):List UInt8:=s.dropWhile λc=>c==48
def bb (s:List UInt8):Nat:=(s.takeWhile aI).length
theorem CX {s:List UInt8}{i:Nat}(hi:i≤s.length)(h1: ∀c∈s.take i,aI c=true)(h2: ∀c,s[i]?=some c→aI c=false):bb s=i:=by
 induction s generalizing i with
 |nil=>simp at hi;subst hi;rfl
 |cons c r ih=>
  cases i with
  |zero=>
   have:=h2 c rfl
   simp[bb,this]
  |succ i=>
   have hc:=h1 c (by simp)
   have:=ih (i:=i) (by simpa using hi) (λd hd=>h1 d (by simp[hd])) (λd hd=>h2 d (by simpa using hd))
   simpa[bb,hc]using this
def rk :List UInt8→Int
 |[]=>0
 |c::_=>if aI c then 0 else ri c
theorem jA (s:List UInt8)(i:Nat):lz s i=rk (s.drop i):=by
 unfold lz
 cases h:s[i]? with
 |none=>rw[List.drop_eq_nil_of_le (List.getElem?_eq_none_iff.1 h)];rfl
 |some c=>
  obtain⟨hi,he⟩:=List.getElem?_eq_some_iff.1 h
  rw[List.drop_eq_getElem_cons hi,he]
  rfl
theorem ET (c:UInt8):ri c≠0:=by unfold ri;split<;>(try split)<;>omega
theorem Ao {s:List UInt8}(h:rk s≠0): ∃c r,s=c::r∧aI c=false:=by
 cases s with
 |nil=>exact absurd rfl h
 |cons c r=>
  refine⟨c,r,rfl,?_⟩
  cases hd:aI c with
  |false=>rfl
  |true=>simp[rk,hd]at h
def bL :List UInt8→List UInt8→Int
 |[],b=>if rk b=0 then 0 else sgn 0 (rk b)
 |c::a,b=>if rk (c::a)=0∧rk b=0 then 0 else if rk (c::a)=rk b then bL a b.tail else sgn (rk (c::a)) (rk b)
theorem fG {a b:List UInt8}(h:rk a=0)(h':rk b=0):bL a b=0:=by
 cases a<;>simp[bL,h,h']
theorem fD {a b:List UInt8}(h:rk a≠0)(he:rk a=rk b):bL a b=bL a.tail b.tail:=by
 cases a with
 |nil=>exact absurd rfl h
 |cons c a=>rw[bL,if_neg (λe=>h e.1),if_pos he];rfl
theorem qD {a b:Int}(h:a≠b):sgn a b≠0:=by unfold sgn;split<;>(try split)<;>omega
theorem mm (a:Int):sgn a a=0:=by simp[sgn]
theorem nZ {a b:Int}(h:sgn a b=0):a=b:=by
 cases Int.decEq a b with
 |isTrue h=>exact h
 |isFalse hn=>exact absurd h (qD hn)
theorem dp {a b:List UInt8}(he:rk a≠rk b):bL a b=sgn (rk a) (rk b):=by
 cases a with
 |nil=>
  have: ¬rk b=0:=λe=>he (by rw[e];rfl)
  rw[bL,if_neg this];rfl
 |cons c a=>rw[bL,if_neg (λe=>he (by rw[e.1,e.2])),if_neg he]
def e7 :List UInt8→List UInt8→Int
 |x::a,y::b=>if x=y then e7 a b else sgn x.toNat y.toNat
 |_,_=>0
def aJ (s:List UInt8):List UInt8:=fb (bj s)
theorem eT {p:UInt8→Bool}(s:List UInt8):(s.dropWhile p).length≤s.length:=by
 induction s with
 |nil=>simp
 |cons c r ih=>simp only[List.dropWhile_cons];split<;>simp<;>omega
theorem rO (s:List UInt8):(aJ s).length≤s.length:=Nat.le_trans (eT _) (eT _)
theorem pJ (s:List UInt8):bb s≤s.length:=(List.takeWhile_sublist _).length_le
theorem kQ {s:List UInt8}(h:s≠[]):((aJ s).drop (bb (aJ s))).length<s.length:=by
 cases s with
 |nil=>exact absurd rfl h
 |cons c r=>
  cases hd:aI c with
  |false=>
   have:aJ (c::r)=aJ r:=by simp[aJ,bj,hd]
   rw[this,List.length_drop]
   have:=rO r
   simp;omega
  |true=>
   have e:bj (c::r)=c::r:=by simp[bj,hd]
   by_cases h0:c=48
   ·have:aJ (c::r)=fb r:=by rw[aJ,e];simp[fb,h0]
    rw[this,List.length_drop]
    have:=eT (p:=λc=>c==48) r
    simp only[fb,List.length_cons];omega
   ·have:aJ (c::r)=c::r:=by rw[aJ,e];simp[fb,h0]
    rw[this,List.length_drop]
    have:0<bb (c::r):=by simp[bb,hd]
    simp only[List.length_cons];omega
theorem nI (s:List UInt8):((aJ s).drop (bb (aJ s))).length≤s.length:=by
 rw[List.length_drop];have:=rO s;omega
def aZ (a b:List UInt8):Int:=
 if _h:a=[]∧b=[]then 0
 else if bL a b≠0 then bL a b
 else if bb (aJ a)≠bb (aJ b)then sgn (bb (aJ a)) (bb (aJ b))
 else if e7 ((aJ a).take (bb (aJ a))) ((aJ b).take (bb (aJ b)))≠0 then e7 ((aJ a).take (bb (aJ a))) ((aJ b).take (bb (aJ b)))
 else aZ ((aJ a).drop (bb (aJ a))) ((aJ b).drop (bb (aJ b)))
termination_by a.length +b.length
decreasing_by
 have h1:=nI a
 have h2:=nI b
 by_cases ha:a=[]
 ·have hb:b≠[]:=λe=>_h ⟨ha,e⟩
  have:=kQ hb
  omega
 ·have:=kQ ha
  omega
theorem sd {a b:List UInt8}(h: ¬(a=[]∧b=[])):((aJ a).drop (bb (aJ a))).length+((aJ b).drop (bb (aJ b))).length<a.length+b.length:=by
 have h1:=nI a
 have h2:=nI b
 by_cases ha:a=[]
 ·have hb:b≠[]:=λe=>h ⟨ha,e⟩
  have:=kQ hb
  omega
 ·have:=kQ ha
  omega
theorem Kb {x y:List UInt8}{i:Nat}{c d:UInt8}(hc:x[i]?=some c)(hd:y[i]?=some d)(hp:x.take i=y.take i)(hne:c≠d):e7 x y=sgn c.toNat d.toNat:=by
 induction x generalizing y i with
 |nil=>simp at hc
 |cons a x ih=>
  cases y with
  |nil=>simp at hd
  |cons b y=>
   cases i with
   |zero=>
    simp at hc hd
    subst hc hd
    simp[e7,hne]
   |succ i=>
    simp at hc hd hp
    rw[e7,if_pos hp.1]
    exact ih hc hd hp.2
theorem Ez (x:List UInt8):e7 x x=0:=by
 induction x with
 |nil=>rfl
 |cons a x ih=>simp[e7,ih]
theorem gG (c:UInt8)(s:List UInt8):(aO c s= -1∧c∉s)∨ ∃i:Nat,aO c s=i∧s[i]?=some c∧i<s.length:=by
 unfold aO
 cases h:s.findIdx? (· ==c)with
 |none=>
  refine .inl ⟨rfl,λhm=>?_⟩
  have:=List.findIdx?_eq_none_iff.1 h c hm
  simp at this
 |some i=>
  obtain⟨hi,he,_⟩:=List.findIdx?_eq_some_iff_getElem.1 h
  refine .inr ⟨i,rfl,?_,hi⟩
  rw[List.getElem?_eq_getElem hi]
  simpa using he
theorem oC (c:UInt8)(s:List UInt8): ∀n:Nat,n≤s.length→(iY c s n= -1∧ ∀j,j<n→s[j]?≠some c)∨ ∃i:Nat,iY c s n=i∧s[i]?=some c∧i<n
 |0,_=>.inl ⟨rfl,λj h=>absurd h (Nat.not_lt_zero j)⟩
 |n+1,h=>by
  unfold iY
  split
  ·rename_i he;exact .inr ⟨n,rfl,he,Nat.lt_succ_self n⟩
  ·rename_i he
   rcases oC c s n (by omega)with⟨h1,h2⟩|⟨i,h1,h2,h3⟩
   ·refine .inl ⟨h1,λj hj=>?_⟩
    rcases Nat.lt_succ_iff_lt_or_eq.1 hj with hj|rfl
    ·exact h2 j hj
    ·exact he
   ·exact .inr ⟨i,h1,h2,by omega⟩
theorem pd (c:UInt8)(s:List UInt8):(lastOf c s= -1∧c∉s)∨ ∃i:Nat,lastOf c s=i∧s[i]?=some c∧i<s.length:=by
 rcases oC c s s.length (Nat.le_refl _)with⟨h1,h2⟩|h
 ·refine .inl ⟨h1,λhm=>?_⟩
  obtain⟨j,hj⟩:=List.mem_iff_getElem?.1 hm
  exact h2 j (List.getElem?_eq_some_iff.1 hj).1 hj
 ·exact .inr h
def qX (c:UInt8):Bool:=cE c||aI c||(c.toNat:Int)==43||(c.toNat:Int)==46||(c.toNat:Int)==126
def zI (c:UInt8):Bool:=cE c||aI c||(c.toNat:Int)==43||(c.toNat:Int)==46||(c.toNat:Int)==126||(c.toNat:Int)==45||(c.toNat:Int)==58
theorem Dt (c:UInt8):(!cE c&& !aI c&&(c.toNat:Int) !=43&&(c.toNat:Int) !=46&&(c.toNat:Int) !=126)= !qX c:=by simp[qX,bne,Bool.and_assoc]
theorem GJ (c:UInt8):(!cE c&& !aI c&&(c.toNat:Int) !=43&&(c.toNat:Int) !=46&&(c.toNat:Int) !=126&&(c.toNat:Int) !=45&&(c.toNat:Int) !=58)= !zI c:=by simp[zI,bne,Bool.and_assoc]
def qd (s:List UInt8):Option (List UInt8×List UInt8):=
 if 0≤aO 58 s then
  (let e:=s.take (aO 58 s).toNat
   if 1≤e.length∧e.length≤9∧e.all aI=true then some (e,s.drop ((aO 58 s).toNat+1))else none)
 else some ([48],s)
def pE (t:List UInt8):Option (List UInt8×List UInt8):=
 if 0≤lastOf 45 t then(if t.drop ((lastOf 45 t).toNat+1)=[]then none else some (t.take (lastOf 45 t).toNat,t.drop ((lastOf 45 t).toNat+1)))
 else some (t,[])
def fo :List UInt8→Bool
 |[]=>false
 |c::_=>aI c
def eB (s:List UInt8):Option (List UInt8×List UInt8×List UInt8):=
 if s.length=0∨48<s.length then none else
 match qd s with
 |none=>none
 |some (e,t)=>match pE t with
  |none=>none
  |some (u,r)=>if r.all qX&&u.all zI&&fo u then some (e,u,r)else none
def bk (s:List UInt8):Bool:=(eB s).isSome
def bo (a b:List UInt8):Int:=
 match eB a,eB b with
 |some (e,u,r),some (f,v,s)=>if aZ e f≠0 then aZ e f else if aZ u v≠0 then aZ u v else aZ r s
 |_,_=>0
def bm (a b:List UInt8):Bool:=bk a&&bk b&&bo a b==0
def ec (rel:Int)(a b:List UInt8):Bool:=
 if rel=0 then bk a
 else if bk a&&bk b then
  (if rel=1 then decide (bo a b<0)else if rel=2 then decide (bo a b≤0)else if rel=3 then bo a b==0
   else if rel=4 then decide (0≤bo a b)else if rel=5 then decide (0<bo a b)else false)
 else false
end Go.Av
end
