/- What the last text of this claim rests on. No conditions. -/
import Derived.Test.YtbkobngljnnmgaaGreatDoorWah
import Derived.Test.YtbkobngljnnmgaaGreatDoorWap
set_option linter.unusedSimpArgs false
set_option linter.unusedVariables false
open List renaming length_cons->acf
section
namespace Go.Av
section
variable {K S C:Type} [DecidableEq C] (κ:K->C)
def kU (p:List S):List (S×K)->List (K×List S)->List (K×List S)
 |[],ns=>ns
 |x::r,ns=>kU p r (if κ x.2∈ns.map (λy=>κ y.1)then ns else ns++[(x.2,p++[x.1])])
def Cl (succ:K->List (S×K))(goal:K->Bool):Nat->List (K×List S)->Nat->Option (Option (List S))
 |0,_,_=>none
 |f+1,ns,i=>match ns[i]? with
  |none=>some none
  |some (k,p)=>if goal k=true then some (some p)else Cl succ goal f (kU κ p (succ k) ns) (i+1)
variable {κ}
theorem rH (p:List S): ∀(l:List (S×K)) (ns:List (K×List S)),∃t,kU κ p l ns=ns++t
 |[],ns=>⟨[],by simp[kU]⟩
 |x::r,ns=>by
  rw[kU];split
  .exact rH p r ns
  .obtain⟨t,ht⟩:=rH p r (ns++[(x.2,p++[x.1])]);exact⟨(x.2,p++[x.1])::t,by rw[ht];simp⟩
end
section
variable {K S C:Type} [DecidableEq C] [DecidableEq K] {κ:K->C}{succ:K->List (S×K)}{goal:K->Bool}
end
def fmI {α β:Type}(f:Nat->α->List β):Nat->List α->List β
 |_,[]=>[]
 |i,a::r=>f i a++fmI f (i+1) r
theorem Bk {α β:Type}{f:Nat->α->List β}: ∀{l m:List α} {b:Nat},fmI f b (l++m)=fmI f b l++fmI f (b+l.length) m
 |[],m,b=>by simp[fmI]
 |a::r,m,b=>by
  rw[List.cons_append,fmI,fmI,Bk,List.append_assoc,acf,Nat.add_assoc,Nat.add_comm 1]
theorem cZ {α β:Type}{f:Nat->α->List β}{l:List α}{i:Nat}{a:α}(h:l[i]?=some a):fmI f 0 (l.take (i+1))=fmI f 0 (l.take i)++f i a:=by
 have hi:=(List.getElem?_eq_some_iff.1 h).1;rw[List.take_add_one,h,Option.toList_some,Bk,List.length_take,Nat.min_eq_left (by omega),fmI,fmI,List.append_nil,Nat.zero_add]
theorem ki {α β:Type}{f:Nat->α->List β}{N:Nat}(h: ∀i a,(f i a).length<=N): ∀{l:List α} {b:Nat},(fmI f b l).length<=l.length*N
 |[],b=>by simp[fmI]
 |a::r,b=>by
  have h1:=h b a;have h2:=ki (N:=N) h (l:=r) (b:=b+1);rw[fmI,List.length_append,acf,Nat.add_mul,Nat.one_mul];omega
structure nP where
 kind:Nat
 name:List UInt8
 pre:Bool
 i:Nat
 other:List UInt8
 deriving DecidableEq
structure bL where
 kind:Nat
 name:List UInt8
 ver:List UInt8
 deriving DecidableEq
def eR (name:List UInt8)(pre:Bool)(on:List Pkg)(k:Nat)(c:Clause):List nP:=if mM c on=true then []else [⟨1,name,pre,k,[]⟩]
def gV (name:List UInt8)(pre:Bool)(on:List Pkg)(l:List Clause):List nP:=fmI (eR name pre on) 0 l
def GG (kind i:Nat)(a:Atom)(j:Nat)(y:aA):Bool:=decide (j≠i)&&(decide (kind=2)||y.k9)&&dc y.pkg a
def db (kind:Nat)(name:List UInt8)(i k:Nat)(a:Atom)(j:Nat)(y:aA):List nP:=if GG kind i a j y=true then [⟨kind,name,false,k,y.pkg.name⟩]else []
def de (kind:Nat)(name:List UInt8)(i:Nat)(s:List aA)(k:Nat)(a:Atom):List nP:=fmI (db kind name i k a) 0 s
def jb (kind:Nat)(name:List UInt8)(i:Nat)(s:List aA)(l:List Atom):List nP:=fmI (de kind name i s) 0 l
def onE (s:List aA):List Pkg:=(s.filter (·.k9)).map (·.pkg)
def dQ (s:List aA)(i:Nat)(x:aA):List nP:=
 gV x.pkg.name true (onE s) x.pkg.pre++(if x.k9=true then gV x.pkg.name false (onE s) x.pkg.dep else [])++jb 2 x.pkg.name i s x.pkg.con++jb 3 x.pkg.name i s x.pkg.brk
def fH (s:List aA):List nP:=fmI (dQ s) 0 s
theorem eT {name:List UInt8}{pre:Bool}{on:List Pkg}{l:List Clause}:(gV name pre on l).length<=l.length:=by
 have:=ki (f:=eR name pre on) (N:=1) (λi a=>by unfold eR;split<;>simp) (l:=l) (b:=0);unfold gV;omega
theorem mS {kind:Nat}{name:List UInt8}{i:Nat}{s:List aA}{k:Nat}{a:Atom}:(de kind name i s k a).length<=s.length:=by
 have:=ki (f:=db kind name i k a) (N:=1) (λi a=>by unfold db;split<;>simp) (l:=s) (b:=0);unfold de;omega
theorem fb {kind:Nat}{name:List UInt8}{i:Nat}{s:List aA}{l:List Atom}:(jb kind name i s l).length<=l.length*s.length:=
 ki (λ_ _=>mS)
end Go.Av
end
