/- What the last text of this claim rests on. No conditions. -/
import Derived.Test.YtbkobngljnnmgaaGreatDoorWah
import Derived.Test.YtbkobngljnnmgaaGreatDoorWap
set_option linter.unusedSimpArgs false
set_option linter.unusedVariables false
open List renaming length_cons->ab4
section
namespace Go.Av
section
variable {K S C:Type} [DecidableEq C] (κ:K->C)
def kj (p:List S):List (S×K)->List (K×List S)->List (K×List S)
 |[],ns=>ns
 |x::r,ns=>kj p r (if κ x.2∈ns.map (λy=>κ y.1)then ns else ns++[(x.2,p++[x.1])])
def Cb (succ:K->List (S×K))(goal:K->Bool):Nat->List (K×List S)->Nat->Option (Option (List S))
 |0,_,_=>none
 |f+1,ns,i=>match ns[i]? with
  |none=>some none
  |some (k,p)=>if goal k=true then some (some p)else Cb succ goal f (kj κ p (succ k) ns) (i+1)
variable {κ}
theorem rC (p:List S): ∀(l:List (S×K)) (ns:List (K×List S)),∃t,kj κ p l ns=ns++t
 |[],ns=>⟨[],by simp[kj]⟩
 |x::r,ns=>by
  rw[kj];split
  .exact rC p r ns
  .obtain⟨t,ht⟩:=rC p r (ns++[(x.2,p++[x.1])]);exact⟨(x.2,p++[x.1])::t,by rw[ht];simp⟩
end
section
variable {K S C:Type} [DecidableEq C] [DecidableEq K] {κ:K->C}{succ:K->List (S×K)}{goal:K->Bool}
end
def fmI {α β:Type}(f:Nat->α->List β):Nat->List α->List β
 |_,[]=>[]
 |i,a::r=>f i a++fmI f (i+1) r
theorem Bw {α β:Type}{f:Nat->α->List β}: ∀{l m:List α} {b:Nat},fmI f b (l++m)=fmI f b l++fmI f (b+l.length) m
 |[],m,b=>by simp[fmI]
 |a::r,m,b=>by
  rw[List.cons_append,fmI,fmI,Bw,List.append_assoc,ab4,Nat.add_assoc,Nat.add_comm 1]
theorem fb {α β:Type}{f:Nat->α->List β}{l:List α}{i:Nat}{a:α}(h:l[i]?=some a):fmI f 0 (l.take (i+1))=fmI f 0 (l.take i)++f i a:=by
 have hi:=(List.getElem?_eq_some_iff.1 h).1;rw[List.take_add_one,h,Option.toList_some,Bw,List.length_take,Nat.min_eq_left (by omega),fmI,fmI,List.append_nil,Nat.zero_add]
theorem j3 {α β:Type}{f:Nat->α->List β}{N:Nat}(h: ∀i a,(f i a).length<=N): ∀{l:List α} {b:Nat},(fmI f b l).length<=l.length*N
 |[],b=>by simp[fmI]
 |a::r,b=>by
  have h1:=h b a;have h2:=j3 (N:=N) h (l:=r) (b:=b+1);rw[fmI,List.length_append,ab4,Nat.add_mul,Nat.one_mul];omega
structure nG where
 kind:Nat
 name:List UInt8
 pre:Bool
 i:Nat
 other:List UInt8
 deriving DecidableEq
structure bH where
 kind:Nat
 name:List UInt8
 ver:List UInt8
 deriving DecidableEq
def pC (name:List UInt8)(pre:Bool)(on:List Pkg)(k:Nat)(c:Clause):List nG:=if s6 c on=true then []else [⟨1,name,pre,k,[]⟩]
def pG (name:List UInt8)(pre:Bool)(on:List Pkg)(l:List Clause):List nG:=fmI (pC name pre on) 0 l
def Xs (kind i:Nat)(a:Atom)(j:Nat)(y:aD):Bool:=decide (j≠i)&&(decide (kind=2)||y.px)&&dO y.pkg a
def kf (kind:Nat)(name:List UInt8)(i k:Nat)(a:Atom)(j:Nat)(y:aD):List nG:=if Xs kind i a j y=true then [⟨kind,name,false,k,y.pkg.name⟩]else []
def kS (kind:Nat)(name:List UInt8)(i:Nat)(s:List aD)(k:Nat)(a:Atom):List nG:=fmI (kf kind name i k a) 0 s
def xk (kind:Nat)(name:List UInt8)(i:Nat)(s:List aD)(l:List Atom):List nG:=fmI (kS kind name i s) 0 l
def onE (s:List aD):List Pkg:=(s.filter (·.px)).map (·.pkg)
def kT (s:List aD)(i:Nat)(x:aD):List nG:=
 pG x.pkg.name true (onE s) x.pkg.pre++(if x.px=true then pG x.pkg.name false (onE s) x.pkg.dep else [])++xk 2 x.pkg.name i s x.pkg.con++xk 3 x.pkg.name i s x.pkg.brk
def oH (s:List aD):List nG:=fmI (kT s) 0 s
theorem mj {name:List UInt8}{pre:Bool}{on:List Pkg}{l:List Clause}:(pG name pre on l).length<=l.length:=by
 have:=j3 (f:=pC name pre on) (N:=1) (λi a=>by unfold pC;split<;>simp) (l:=l) (b:=0);unfold pG;omega
theorem wP {kind:Nat}{name:List UInt8}{i:Nat}{s:List aD}{k:Nat}{a:Atom}:(kS kind name i s k a).length<=s.length:=by
 have:=j3 (f:=kf kind name i k a) (N:=1) (λi a=>by unfold kf;split<;>simp) (l:=s) (b:=0);unfold kS;omega
theorem mO {kind:Nat}{name:List UInt8}{i:Nat}{s:List aD}{l:List Atom}:(xk kind name i s l).length<=l.length*s.length:=
 j3 (λ_ _=>wP)
end Go.Av
end
