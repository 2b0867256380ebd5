/- What the last text of this claim rests on. No conditions. -/
set_option linter.unusedSimpArgs false
set_option linter.unusedVariables false
open List renaming findIdx?_eq_some_iff_getElem->acG,mem_iff_getElem?->acH
section
namespace Go.Av
def jR (c:UInt8):Bool:=decide (97<=c.toNat)&&decide (c.toNat<=122)
def bm (c:UInt8):Bool:=decide (48<=c.toNat)&&decide (c.toNat<=57)
def eP (c:UInt8):Bool:=jR c||(decide (65<=c.toNat)&&decide (c.toNat<=90))
def bD (c:UInt8)(s:List UInt8):Int:=match s.findIdx? (· ==c)with|some i=>i|none=>-1
theorem HJ {c:UInt8}{s:List UInt8}{i:Nat}(h:s[i]?=some c)(hn: ∀(j:Nat)(d:UInt8),j<i->s[j]?=some d-> ¬d=c):bD c s=i:=by
 have:s.findIdx? (· ==c)=some i:=by
  grind [acG]
 grind [bD]
theorem Dd {c:UInt8}{s:List UInt8}(hn: ∀(j:Nat)(d:UInt8),s[j]?=some d-> ¬d=c):bD c s= -1:=by
 grind [acH,bD]
def kC (c:UInt8)(s:List UInt8):Nat->Int
 |0=>-1
 |i+1=>if s[i]?=some c then i else kC c s i
def lastOf (c:UInt8)(s:List UInt8):Int:=kC c s s.length
def xb (c:UInt8):Int:=if c.toNat=126 then-1 else if eP c then 1+c.toNat else 300+c.toNat
def tj (s:List UInt8)(i:Nat):Int:=match s[i]? with|none=>0|some c=>if bm c then 0 else xb c
def sgn (a b:Int):Int:=if a<b then-1 else if a>b then 1 else 0
def bP (s:List UInt8):List UInt8:=s.dropWhile λc=>!bm c
def gD (s:List UInt8):List UInt8:=s.dropWhile λc=>c==48
def bW (s:List UInt8):Nat:=(s.takeWhile bm).length
theorem KP {s:List UInt8}{i:Nat}(hi:i<=s.length)(h1: ∀c∈s.take i,bm c=true)(h2: ∀c,s[i]?=some c->bm c=false):bW s=i:=by
 induction s generalizing i with
 |nil=>simp at hi;subst hi;rfl
 |cons c r ih=>
  cases i with
  |zero=>
   simp_all[bW]
  |succ i=>
   have hc:=h1 c (by simp);have:=ih (i:=i) (by simp_all) (λd hd=>h1 d (by simp[hd])) (λd hd=>h2 d (by simp_all));simp_all[bW]
def rk :List UInt8->Int
 |[]=>0
 |c::_=>if bm c then 0 else xb c
theorem ou (s:List UInt8)(i:Nat):tj s i=rk (s.drop i):=by
 unfold tj;cases h:s[i]? with
 |none=>rw[List.drop_eq_nil_of_le (List.getElem?_eq_none_iff.1 h)];rfl
 |some c=>
  obtain⟨hi,he⟩:=List.getElem?_eq_some_iff.1 h;rw[List.drop_eq_getElem_cons hi,he];rfl
theorem TE (c:UInt8):xb c≠0:=by grind [xb]
theorem FX {s:List UInt8}(h:rk s≠0): ∃c r,s=c::r/\bm c=false:=by
 cases s with
 |nil=>exact absurd rfl h
 |cons c r=>
  grind [rk]
def cE :List UInt8->List UInt8->Int
 |[],b=>if rk b=0 then 0 else sgn 0 (rk b)
 |c::a,b=>if rk (c::a)=0/\rk b=0 then 0 else if rk (c::a)=rk b then cE a b.tail else sgn (rk (c::a)) (rk b)
theorem lA {a b:List UInt8}(h:rk a=0)(h':rk b=0):cE a b=0:=by
 cases a<;>simp[cE,h,h']
theorem gR {a b:List UInt8}(h:rk a≠0)(he:rk a=rk b):cE a b=cE a.tail b.tail:=by
 cases a with
 |nil=>exact absurd rfl h
 |cons c a=>grind [cE]
theorem s7 {a b:Int}(h:a≠b):sgn a b≠0:=by grind [sgn]
theorem rU (a:Int):sgn a a=0:=by simp[sgn]
theorem qG {a b:Int}(h:sgn a b=0):a=b:=by
 grind [s7]
theorem ei {a b:List UInt8}(he:rk a≠rk b):cE a b=sgn (rk a) (rk b):=by
 cases a with
 |nil=>
  grind [rk,cE]
 |cons c a=>grind [cE]
def iN :List UInt8->List UInt8->Int
 |x::a,y::b=>if x=y then iN a b else sgn x.toNat y.toNat
 |_,_=>0
def bf (s:List UInt8):List UInt8:=gD (bP s)
theorem gj {p:UInt8->Bool}(s:List UInt8):(s.dropWhile p).length<=s.length:=by
 induction s with
 |nil=>simp
 |cons c r ih=>grind [List.dropWhile_cons]
theorem uQ (s:List UInt8):(bf s).length<=s.length:=Nat.le_trans (gj _) (gj _)
theorem rb (s:List UInt8):bW s<=s.length:=(List.takeWhile_sublist _).length_le
theorem nE {s:List UInt8}(h:s≠[]):((bf s).drop (bW (bf s))).length<s.length:=by
 cases s with
 |nil=>simp_all
 |cons c r=>
  cases hd:bm c with
  |false=>
   have:bf (c::r)=bf r:=by simp[bf,bP,hd]
   grind [uQ]
  |true=>
   have e:bP (c::r)=c::r:=by simp[bP,hd]
   by_cases h0:c=48
   .have:bf (c::r)=gD r:=by simp_all[bf,gD]
    grind [gj,gD]
   .have:bf (c::r)=c::r:=by simp_all[bf,gD]
    rw[this,List.length_drop]
    have:0<bW (c::r):=by simp[bW,hd]
    grind
theorem p7 (s:List UInt8):((bf s).drop (bW (bf s))).length<=s.length:=by
 grind [uQ]
def bw (a b:List UInt8):Int:=
 if _h:a=[]/\b=[]then 0
 else if cE a b≠0 then cE a b
 else if bW (bf a)≠bW (bf b)then sgn (bW (bf a)) (bW (bf b))
 else if iN ((bf a).take (bW (bf a))) ((bf b).take (bW (bf b)))≠0 then iN ((bf a).take (bW (bf a))) ((bf b).take (bW (bf b)))
 else bw ((bf a).drop (bW (bf a))) ((bf b).drop (bW (bf b)))
termination_by a.length +b.length
decreasing_by
 have h1:=p7 a;have h2:=p7 b;by_cases ha:a=[]
 .grind [nE]
 grind [nE]
theorem vu {a b:List UInt8}(h: ¬(a=[]/\b=[])):((bf a).drop (bW (bf a))).length+((bf b).drop (bW (bf b))).length<a.length+b.length:=by
 have h1:=p7 a;have h2:=p7 b;by_cases ha:a=[]
 .grind [nE]
 grind [nE]
theorem WC {x y:List UInt8}{i:Nat}{c d:UInt8}(hc:x[i]?=some c)(hd:y[i]?=some d)(hp:x.take i=y.take i)(hne:c≠d):iN x y=sgn c.toNat d.toNat:=by
 induction x generalizing y i with
 |nil=>simp at hc
 |cons a x ih=>
  cases y with
  |nil=>simp at hd
  |cons b y=>
   cases i with
   |zero=>
    grind [iN]
   |succ i=>
    grind [iN]
theorem ON (x:List UInt8):iN x x=0:=by
 induction x with
 |nil=>rfl
 |cons a x ih=>grind [iN]
theorem lO (c:UInt8)(s:List UInt8):(bD c s= -1/\c∉s)\/ ∃i:Nat,bD c s=i/\s[i]?=some c/\i<s.length:=by
 grind [bD,acG]
theorem qV (c:UInt8)(s:List UInt8): ∀n:Nat,n<=s.length->(kC c s n= -1/\ ∀j,j<n->s[j]?≠some c)\/ ∃i:Nat,kC c s n=i/\s[i]?=some c/\i<n
 |0,_=>.inl ⟨rfl,λj h=>absurd h (Nat.not_lt_zero j)⟩
 |n+1,h=>by
  unfold kC;split
  .grind
  .rename_i he;rcases qV c s n (by omega)with⟨h1,h2⟩|⟨i,h1,h2,h3⟩
   .grind
   grind
theorem qM (c:UInt8)(s:List UInt8):(lastOf c s= -1/\c∉s)\/ ∃i:Nat,lastOf c s=i/\s[i]?=some c/\i<s.length:=by
 rcases qV c s s.length (Nat.le_refl _)with⟨h1,h2⟩|h
 .refine .inl ⟨h1,λhm=>?_⟩;grind [acH]
 .exact .inr h
def ua (c:UInt8):Bool:=eP c||bm c||(c.toNat:Int)==43||(c.toNat:Int)==46||(c.toNat:Int)==126
def DW (c:UInt8):Bool:=eP c||bm c||(c.toNat:Int)==43||(c.toNat:Int)==46||(c.toNat:Int)==126||(c.toNat:Int)==45||(c.toNat:Int)==58
theorem N3 (c:UInt8):(!eP c&& !bm c&&(c.toNat:Int) !=43&&(c.toNat:Int) !=46&&(c.toNat:Int) !=126)= !ua c:=by grind [ua]
theorem Pz (c:UInt8):(!eP c&& !bm c&&(c.toNat:Int) !=43&&(c.toNat:Int) !=46&&(c.toNat:Int) !=126&&(c.toNat:Int) !=45&&(c.toNat:Int) !=58)= !DW c:=by grind [DW]
def sG (s:List UInt8):Option (List UInt8×List UInt8):=
 if 0<=bD 58 s then
  (let e:=s.take (bD 58 s).toNat
   if 1<=e.length/\e.length<=9/\e.all bm=true then some (e,s.drop ((bD 58 s).toNat+1))else none)
 else some ([48],s)
def v7 (t:List UInt8):Option (List UInt8×List UInt8):=
 if 0<=lastOf 45 t then(if t.drop ((lastOf 45 t).toNat+1)=[]then none else some (t.take (lastOf 45 t).toNat,t.drop ((lastOf 45 t).toNat+1)))
 else some (t,[])
def ic :List UInt8->Bool
 |[]=>false
 |c::_=>bm c
def fL (s:List UInt8):Option (List UInt8×List UInt8×List UInt8):=
 if s.length=0\/48<s.length then none else
 match sG s with
 |none=>none
 |some (e,t)=>match v7 t with
  |none=>none
  |some (u,r)=>if r.all ua&&u.all DW&&ic u then some (e,u,r)else none
def bI (s:List UInt8):Bool:=(fL s).isSome
def bO (a b:List UInt8):Int:=
 match fL a,fL b with
 |some (e,u,r),some (f,v,s)=>if bw e f≠0 then bw e f else if bw u v≠0 then bw u v else bw r s
 |_,_=>0
def bb (a b:List UInt8):Bool:=bI a&&bI b&&bO a b==0
def fT (rel:Int)(a b:List UInt8):Bool:=
 if rel=0 then bI a
 else if bI a&&bI b then
  (if rel=1 then decide (bO a b<0)else if rel=2 then decide (bO a b<=0)else if rel=3 then bO a b==0
   else if rel=4 then decide (0<=bO a b)else if rel=5 then decide (0<bO a b)else false)
 else false
end Go.Av
end
