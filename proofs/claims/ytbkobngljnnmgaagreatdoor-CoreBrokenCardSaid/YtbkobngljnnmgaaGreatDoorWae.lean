/- What the last text of this claim rests on. No conditions. -/
set_option linter.unusedSimpArgs false
set_option linter.unusedVariables false
open List renaming findIdx?_eq_some_iff_getElem->acf,mem_iff_getElem?->acg
section
namespace Go.Av
def jY (c:UInt8):Bool:=decide (97<=c.toNat)&&decide (c.toNat<=122)
def bk (c:UInt8):Bool:=decide (48<=c.toNat)&&decide (c.toNat<=57)
def eK (c:UInt8):Bool:=jY c||(decide (65<=c.toNat)&&decide (c.toNat<=90))
def bD (c:UInt8)(s:List UInt8):Int:=match s.findIdx? (· ==c)with|some i=>i|none=>-1
theorem GN {c:UInt8}{s:List UInt8}{i:Nat}(h:s[i]?=some c)(hn: ∀(j:Nat)(d:UInt8),j<i->s[j]?=some d-> ¬d=c):bD c s=i:=by
 have:s.findIdx? (· ==c)=some i:=by
  grind [acf]
 grind [bD]
theorem CV {c:UInt8}{s:List UInt8}(hn: ∀(j:Nat)(d:UInt8),s[j]?=some d-> ¬d=c):bD c s= -1:=by
 grind [acg,bD]
def kE (c:UInt8)(s:List UInt8):Nat->Int
 |0=>-1
 |i+1=>if s[i]?=some c then i else kE c s i
def lastOf (c:UInt8)(s:List UInt8):Int:=kE c s s.length
def yg (c:UInt8):Int:=if c.toNat=126 then-1 else if eK c then 1+c.toNat else 300+c.toNat
def tn (s:List UInt8)(i:Nat):Int:=match s[i]? with|none=>0|some c=>if bk c then 0 else yg c
def sgn (a b:Int):Int:=if a<b then-1 else if a>b then 1 else 0
def bN (s:List UInt8):List UInt8:=s.dropWhile λc=>!bk c
def gA (s:List UInt8):List UInt8:=s.dropWhile λc=>c==48
def bV (s:List UInt8):Nat:=(s.takeWhile bk).length
theorem Kj {s:List UInt8}{i:Nat}(hi:i<=s.length)(h1: ∀c∈s.take i,bk c=true)(h2: ∀c,s[i]?=some c->bk c=false):bV s=i:=by
 induction s generalizing i with
 |nil=>simp at hi;subst hi;rfl
 |cons c r ih=>
  cases i with
  |zero=>
   simp_all[bV]
  |succ i=>
   have hc:=h1 c (by simp);have:=ih (i:=i) (by simp_all) (λd hd=>h1 d (by simp[hd])) (λd hd=>h2 d (by simp_all));simp_all[bV]
def rk :List UInt8->Int
 |[]=>0
 |c::_=>if bk c then 0 else yg c
theorem oB (s:List UInt8)(i:Nat):tn s i=rk (s.drop i):=by
 unfold tn;cases h:s[i]? with
 |none=>rw[List.drop_eq_nil_of_le (List.getElem?_eq_none_iff.1 h)];rfl
 |some c=>
  obtain⟨hi,he⟩:=List.getElem?_eq_some_iff.1 h;rw[List.drop_eq_getElem_cons hi,he];rfl
theorem Pt (c:UInt8):yg c≠0:=by grind [yg]
theorem Ex {s:List UInt8}(h:rk s≠0): ∃c r,s=c::r/\bk c=false:=by
 cases s with
 |nil=>exact absurd rfl h
 |cons c r=>
  grind [rk]
def cu :List UInt8->List UInt8->Int
 |[],b=>if rk b=0 then 0 else sgn 0 (rk b)
 |c::a,b=>if rk (c::a)=0/\rk b=0 then 0 else if rk (c::a)=rk b then cu a b.tail else sgn (rk (c::a)) (rk b)
theorem lp {a b:List UInt8}(h:rk a=0)(h':rk b=0):cu a b=0:=by
 cases a<;>simp[cu,h,h']
theorem gY {a b:List UInt8}(h:rk a≠0)(he:rk a=rk b):cu a b=cu a.tail b.tail:=by
 cases a with
 |nil=>exact absurd rfl h
 |cons c a=>grind [cu]
theorem tc {a b:Int}(h:a≠b):sgn a b≠0:=by grind [sgn]
theorem qU (a:Int):sgn a a=0:=by simp[sgn]
theorem ql {a b:Int}(h:sgn a b=0):a=b:=by
 grind [tc]
theorem ee {a b:List UInt8}(he:rk a≠rk b):cu a b=sgn (rk a) (rk b):=by
 cases a with
 |nil=>
  grind [rk,cu]
 |cons c a=>grind [cu]
def iQ :List UInt8->List UInt8->Int
 |x::a,y::b=>if x=y then iQ a b else sgn x.toNat y.toNat
 |_,_=>0
def bc (s:List UInt8):List UInt8:=gA (bN s)
theorem gg {p:UInt8->Bool}(s:List UInt8):(s.dropWhile p).length<=s.length:=by
 induction s with
 |nil=>simp
 |cons c r ih=>grind [List.dropWhile_cons]
theorem uM (s:List UInt8):(bc s).length<=s.length:=Nat.le_trans (gg _) (gg _)
theorem qI (s:List UInt8):bV s<=s.length:=(List.takeWhile_sublist _).length_le
theorem mB {s:List UInt8}(h:s≠[]):((bc s).drop (bV (bc s))).length<s.length:=by
 cases s with
 |nil=>simp_all
 |cons c r=>
  cases hd:bk c with
  |false=>
   have:bc (c::r)=bc r:=by simp[bc,bN,hd]
   grind [uM]
  |true=>
   have e:bN (c::r)=c::r:=by simp[bN,hd]
   by_cases h0:c=48
   .have:bc (c::r)=gA r:=by simp_all[bc,gA]
    grind [gg,gA]
   .have:bc (c::r)=c::r:=by simp_all[bc,gA]
    rw[this,List.length_drop]
    have:0<bV (c::r):=by simp[bV,hd]
    grind
theorem qb (s:List UInt8):((bc s).drop (bV (bc s))).length<=s.length:=by
 grind [uM]
def bw (a b:List UInt8):Int:=
 if _h:a=[]/\b=[]then 0
 else if cu a b≠0 then cu a b
 else if bV (bc a)≠bV (bc b)then sgn (bV (bc a)) (bV (bc b))
 else if iQ ((bc a).take (bV (bc a))) ((bc b).take (bV (bc b)))≠0 then iQ ((bc a).take (bV (bc a))) ((bc b).take (bV (bc b)))
 else bw ((bc a).drop (bV (bc a))) ((bc b).drop (bV (bc b)))
termination_by a.length +b.length
decreasing_by
 have h1:=qb a;have h2:=qb b;by_cases ha:a=[]
 .grind [mB]
 grind [mB]
theorem xH {a b:List UInt8}(h: ¬(a=[]/\b=[])):((bc a).drop (bV (bc a))).length+((bc b).drop (bV (bc b))).length<a.length+b.length:=by
 have h1:=qb a;have h2:=qb b;by_cases ha:a=[]
 .grind [mB]
 grind [mB]
theorem T6 {x y:List UInt8}{i:Nat}{c d:UInt8}(hc:x[i]?=some c)(hd:y[i]?=some d)(hp:x.take i=y.take i)(hne:c≠d):iQ x y=sgn c.toNat d.toNat:=by
 induction x generalizing y i with
 |nil=>simp at hc
 |cons a x ih=>
  cases y with
  |nil=>simp at hd
  |cons b y=>
   cases i with
   |zero=>
    grind [iQ]
   |succ i=>
    grind [iQ]
theorem Mk (x:List UInt8):iQ x x=0:=by
 induction x with
 |nil=>rfl
 |cons a x ih=>grind [iQ]
theorem lN (c:UInt8)(s:List UInt8):(bD c s= -1/\c∉s)\/ ∃i:Nat,bD c s=i/\s[i]?=some c/\i<s.length:=by
 grind [bD,acf]
theorem rh (c:UInt8)(s:List UInt8): ∀n:Nat,n<=s.length->(kE c s n= -1/\ ∀j,j<n->s[j]?≠some c)\/ ∃i:Nat,kE c s n=i/\s[i]?=some c/\i<n
 |0,_=>.inl ⟨rfl,λj h=>absurd h (Nat.not_lt_zero j)⟩
 |n+1,h=>by
  unfold kE;split
  .grind
  .rename_i he;rcases rh c s n (by omega)with⟨h1,h2⟩|⟨i,h1,h2,h3⟩
   .grind
   grind
theorem rB (c:UInt8)(s:List UInt8):(lastOf c s= -1/\c∉s)\/ ∃i:Nat,lastOf c s=i/\s[i]?=some c/\i<s.length:=by
 rcases rh c s s.length (Nat.le_refl _)with⟨h1,h2⟩|h
 .refine .inl ⟨h1,λhm=>?_⟩;grind [acg]
 .exact .inr h
def tQ (c:UInt8):Bool:=eK c||bk c||(c.toNat:Int)==43||(c.toNat:Int)==46||(c.toNat:Int)==126
def GD (c:UInt8):Bool:=eK c||bk c||(c.toNat:Int)==43||(c.toNat:Int)==46||(c.toNat:Int)==126||(c.toNat:Int)==45||(c.toNat:Int)==58
theorem MD (c:UInt8):(!eK c&& !bk c&&(c.toNat:Int) !=43&&(c.toNat:Int) !=46&&(c.toNat:Int) !=126)= !tQ c:=by grind [tQ]
theorem SV (c:UInt8):(!eK c&& !bk c&&(c.toNat:Int) !=43&&(c.toNat:Int) !=46&&(c.toNat:Int) !=126&&(c.toNat:Int) !=45&&(c.toNat:Int) !=58)= !GD c:=by grind [GD]
def ta (s:List UInt8):Option (List UInt8×List UInt8):=
 if 0<=bD 58 s then
  (let e:=s.take (bD 58 s).toNat
   if 1<=e.length/\e.length<=9/\e.all bk=true then some (e,s.drop ((bD 58 s).toNat+1))else none)
 else some ([48],s)
def xB (t:List UInt8):Option (List UInt8×List UInt8):=
 if 0<=lastOf 45 t then(if t.drop ((lastOf 45 t).toNat+1)=[]then none else some (t.take (lastOf 45 t).toNat,t.drop ((lastOf 45 t).toNat+1)))
 else some (t,[])
def iE :List UInt8->Bool
 |[]=>false
 |c::_=>bk c
def fL (s:List UInt8):Option (List UInt8×List UInt8×List UInt8):=
 if s.length=0\/48<s.length then none else
 match ta s with
 |none=>none
 |some (e,t)=>match xB t with
  |none=>none
  |some (u,r)=>if r.all tQ&&u.all GD&&iE u then some (e,u,r)else none
def bK (s:List UInt8):Bool:=(fL s).isSome
def bO (a b:List UInt8):Int:=
 match fL a,fL b with
 |some (e,u,r),some (f,v,s)=>if bw e f≠0 then bw e f else if bw u v≠0 then bw u v else bw r s
 |_,_=>0
def bt (a b:List UInt8):Bool:=bK a&&bK b&&bO a b==0
def fM (rel:Int)(a b:List UInt8):Bool:=
 if rel=0 then bK a
 else if bK a&&bK b then
  (if rel=1 then decide (bO a b<0)else if rel=2 then decide (bO a b<=0)else if rel=3 then bO a b==0
   else if rel=4 then decide (0<=bO a b)else if rel=5 then decide (0<bO a b)else false)
 else false
end Go.Av
end
