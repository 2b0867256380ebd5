/- What the last text of this claim rests on. No conditions. -/
import Derived.Test.YtbkobngljnnmgaaGreatDoorWah
import Derived.Test.YtbkobngljnnmgaaGreatDoorWap
set_option linter.unusedSimpArgs false
set_option linter.unusedVariables false
open List renaming length_cons->acG
section
namespace Go.Av
section
variable {K S C:Type} [DecidableEq C] (κ:K->C)
def jD (p:List S):List (S×K)->List (K×List S)->List (K×List S)
 |[],ns=>ns
 |x::r,ns=>jD p r (if κ x.2∈ns.map (λy=>κ y.1)then ns else ns++[(x.2,p++[x.1])])
def sA (succ:K->List (S×K))(goal:K->Bool):Nat->List (K×List S)->Nat->Option (Option (List S))
 |0,_,_=>none
 |f+1,ns,i=>match ns[i]? with
  |none=>some none
  |some (k,p)=>if goal k=true then some (some p)else sA succ goal f (jD κ p (succ k) ns) (i+1)
variable {κ}
theorem sd (p:List S): ∀(l:List (S×K)) (ns:List (K×List S)),∃t,jD κ p l ns=ns++t
 |[],ns=>⟨[],by simp[jD]⟩
 |x::r,ns=>by
  rw[jD];split
  .exact sd p r ns
  .obtain⟨t,ht⟩:=sd p r (ns++[(x.2,p++[x.1])]);exact⟨(x.2,p++[x.1])::t,by rw[ht];simp⟩
end
section
variable {K S C:Type} [DecidableEq C] [DecidableEq K] {κ:K->C}{succ:K->List (S×K)}{goal:K->Bool}
end
def fmI {α β:Type}(f:Nat->α->List β):Nat->List α->List β
 |_,[]=>[]
 |i,a::r=>f i a++fmI f (i+1) r
theorem CX {α β:Type}{f:Nat->α->List β}: ∀{l m:List α} {b:Nat},fmI f b (l++m)=fmI f b l++fmI f (b+l.length) m
 |[],m,b=>by simp[fmI]
 |a::r,m,b=>by
  rw[List.cons_append,fmI,fmI,CX,List.append_assoc,acG,Nat.add_assoc,Nat.add_comm 1]
theorem fx {α β:Type}{f:Nat->α->List β}{l:List α}{i:Nat}{a:α}(h:l[i]?=some a):fmI f 0 (l.take (i+1))=fmI f 0 (l.take i)++f i a:=by
 have hi:=(List.getElem?_eq_some_iff.1 h).1;rw[List.take_add_one,h,Option.toList_some,CX,List.length_take,Nat.min_eq_left (by omega),fmI,fmI,List.append_nil,Nat.zero_add]
theorem j7 {α β:Type}{f:Nat->α->List β}{N:Nat}(h: ∀i a,(f i a).length<=N): ∀{l:List α} {b:Nat},(fmI f b l).length<=l.length*N
 |[],b=>by simp[fmI]
 |a::r,b=>by
  have h1:=h b a;have h2:=j7 (N:=N) h (l:=r) (b:=b+1);rw[fmI,List.length_append,acG,Nat.add_mul,Nat.one_mul];omega
structure qX where
 kind:Nat
 name:List UInt8
 pre:Bool
 i:Nat
 other:List UInt8
 deriving DecidableEq
structure bN where
 kind:Nat
 name:List UInt8
 ver:List UInt8
 deriving DecidableEq
def pT (name:List UInt8)(pre:Bool)(on:List Pkg)(k:Nat)(c:Clause):List qX:=if gN c on=true then []else [⟨1,name,pre,k,[]⟩]
def pM (name:List UInt8)(pre:Bool)(on:List Pkg)(l:List Clause):List qX:=fmI (pT name pre on) 0 l
def YF (kind i:Nat)(a:Atom)(j:Nat)(y:aB):Bool:=decide (j≠i)&&(decide (kind=2)||y.ku)&&c8 y.pkg a
def kG (kind:Nat)(name:List UInt8)(i k:Nat)(a:Atom)(j:Nat)(y:aB):List qX:=if YF kind i a j y=true then [⟨kind,name,false,k,y.pkg.name⟩]else []
def kZ (kind:Nat)(name:List UInt8)(i:Nat)(s:List aB)(k:Nat)(a:Atom):List qX:=fmI (kG kind name i k a) 0 s
def xF (kind:Nat)(name:List UInt8)(i:Nat)(s:List aB)(l:List Atom):List qX:=fmI (kZ kind name i s) 0 l
def onE (s:List aB):List Pkg:=(s.filter (·.ku)).map (·.pkg)
def kE (s:List aB)(i:Nat)(x:aB):List qX:=
 pM x.pkg.name true (onE s) x.pkg.pre++(if x.ku=true then pM x.pkg.name false (onE s) x.pkg.dep else [])++xF 2 x.pkg.name i s x.pkg.con++xF 3 x.pkg.name i s x.pkg.brk
def oM (s:List aB):List qX:=fmI (kE s) 0 s
theorem me {name:List UInt8}{pre:Bool}{on:List Pkg}{l:List Clause}:(pM name pre on l).length<=l.length:=by
 have:=j7 (f:=pT name pre on) (N:=1) (λi a=>by unfold pT;split<;>simp) (l:=l) (b:=0);unfold pM;omega
theorem wu {kind:Nat}{name:List UInt8}{i:Nat}{s:List aB}{k:Nat}{a:Atom}:(kZ kind name i s k a).length<=s.length:=by
 have:=j7 (f:=kG kind name i k a) (N:=1) (λi a=>by unfold kG;split<;>simp) (l:=s) (b:=0);unfold kZ;omega
theorem na {kind:Nat}{name:List UInt8}{i:Nat}{s:List aB}{l:List Atom}:(xF kind name i s l).length<=l.length*s.length:=
 j7 (λ_ _=>wu)
end Go.Av
end
