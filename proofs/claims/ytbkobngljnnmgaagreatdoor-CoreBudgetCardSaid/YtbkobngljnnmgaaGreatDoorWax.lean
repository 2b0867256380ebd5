/- Texts that the last one of this claim rests on: a layer over the guide's own conditions for code; contracts of the functions that the law reaches, one by one. No conditions beside those of the given rows. -/
import Derived.Test.YtbkobngljnnmgaaGreatDoorWah
import Derived.Test.YtbkobngljnnmgaaGreatDoorWap
set_option linter.unusedSimpArgs false
set_option linter.unusedVariables false
open List renaming length_cons->acO
section
namespace Go.Av
section
variable {K S C:Type} [DecidableEq C] (κ:K->C)
def ke (p:List S):List (S×K)->List (K×List S)->List (K×List S)
 |[],ns=>ns
 |x::r,ns=>ke p r (if κ x.2∈ns.map (λy=>κ y.1)then ns else ns++[(x.2,p++[x.1])])
def AE (succ:K->List (S×K))(goal:K->Bool):Nat->List (K×List S)->Nat->Option (Option (List S))
 |0,_,_=>none
 |f+1,ns,i=>match ns[i]? with
  |none=>some none
  |some (k,p)=>if goal k=true then some (some p)else AE succ goal f (ke κ p (succ k) ns) (i+1)
variable {κ}
theorem qF (p:List S): ∀(l:List (S×K)) (ns:List (K×List S)),∃t,ke κ p l ns=ns++t
 |[],ns=>⟨[],by simp[ke]⟩
 |x::r,ns=>by
  rw[ke];split
  .exact qF p r ns
  .obtain⟨t,ht⟩:=qF p r (ns++[(x.2,p++[x.1])]);exact⟨(x.2,p++[x.1])::t,by rw[ht];simp⟩
end
section
variable {K S C:Type} [DecidableEq C] [DecidableEq K] {κ:K->C}{succ:K->List (S×K)}{goal:K->Bool}
end
def fmI {α β:Type}(f:Nat->α->List β):Nat->List α->List β
 |_,[]=>[]
 |i,a::r=>f i a++fmI f (i+1) r
theorem Aq {α β:Type}{f:Nat->α->List β}: ∀{l m:List α} {b:Nat},fmI f b (l++m)=fmI f b l++fmI f (b+l.length) m
 |[],m,b=>by simp[fmI]
 |a::r,m,b=>by
  rw[List.cons_append,fmI,fmI,Aq,List.append_assoc,acO,Nat.add_assoc,Nat.add_comm 1]
theorem eZ {α β:Type}{f:Nat->α->List β}{l:List α}{i:Nat}{a:α}(h:l[i]?=some a):fmI f 0 (l.take (i+1))=fmI f 0 (l.take i)++f i a:=by
 have hi:=(List.getElem?_eq_some_iff.1 h).1;rw[List.take_add_one,h,Option.toList_some,Aq,List.length_take,Nat.min_eq_left (by omega),fmI,fmI,List.append_nil,Nat.zero_add]
theorem j4 {α β:Type}{f:Nat->α->List β}{N:Nat}(h: ∀i a,(f i a).length<=N): ∀{l:List α} {b:Nat},(fmI f b l).length<=l.length*N
 |[],b=>by simp[fmI]
 |a::r,b=>by
  have h1:=h b a;have h2:=j4 (N:=N) h (l:=r) (b:=b+1);rw[fmI,List.length_append,acO,Nat.add_mul,Nat.one_mul];omega
structure nO where
 kind:Nat
 name:List UInt8
 pre:Bool
 i:Nat
 other:List UInt8
 deriving DecidableEq
structure bH where
 kind:Nat
 name:List UInt8
 ver:List UInt8
 deriving DecidableEq
def pK (name:List UInt8)(pre:Bool)(on:List Pkg)(k:Nat)(c:Clause):List nO:=if sM c on=true then []else [⟨1,name,pre,k,[]⟩]
def pI (name:List UInt8)(pre:Bool)(on:List Pkg)(l:List Clause):List nO:=fmI (pK name pre on) 0 l
def Tt (kind i:Nat)(a:Atom)(j:Nat)(y:aD):Bool:=decide (j≠i)&&(decide (kind=2)||y.py)&&dO y.pkg a
def kU (kind:Nat)(name:List UInt8)(i k:Nat)(a:Atom)(j:Nat)(y:aD):List nO:=if Tt kind i a j y=true then [⟨kind,name,false,k,y.pkg.name⟩]else []
def kj (kind:Nat)(name:List UInt8)(i:Nat)(s:List aD)(k:Nat)(a:Atom):List nO:=fmI (kU kind name i k a) 0 s
def xl (kind:Nat)(name:List UInt8)(i:Nat)(s:List aD)(l:List Atom):List nO:=fmI (kj kind name i s) 0 l
def onE (s:List aD):List Pkg:=(s.filter (·.py)).map (·.pkg)
def kP (s:List aD)(i:Nat)(x:aD):List nO:=
 pI x.pkg.name true (onE s) x.pkg.pre++(if x.py=true then pI x.pkg.name false (onE s) x.pkg.dep else [])++xl 2 x.pkg.name i s x.pkg.con++xl 3 x.pkg.name i s x.pkg.brk
def nS (s:List aD):List nO:=fmI (kP s) 0 s
theorem mc {name:List UInt8}{pre:Bool}{on:List Pkg}{l:List Clause}:(pI name pre on l).length<=l.length:=by
 have:=j4 (f:=pK name pre on) (N:=1) (λi a=>by unfold pK;split<;>simp) (l:=l) (b:=0);unfold pI;omega
theorem wU {kind:Nat}{name:List UInt8}{i:Nat}{s:List aD}{k:Nat}{a:Atom}:(kj kind name i s k a).length<=s.length:=by
 have:=j4 (f:=kU kind name i k a) (N:=1) (λi a=>by unfold kU;split<;>simp) (l:=s) (b:=0);unfold kj;omega
theorem mw {kind:Nat}{name:List UInt8}{i:Nat}{s:List aD}{l:List Atom}:(xl kind name i s l).length<=l.length*s.length:=
 j4 (λ_ _=>wU)
end Go.Av
end
