/- Texts that the last one of this claim rests on: a layer over the guide's own conditions for code; contracts of the functions that the law reaches, one by one. No conditions beside those of the given rows. -/
import Derived.Test.YtbkobngljnnmgaaGreatDoorWae
set_option linter.unusedSimpArgs false
set_option linter.unusedVariables false
section
namespace Go.Av
def mN (i:Nat)(c:UInt8):Bool:=jO c||bk c||(i !=0&&(c.toNat==43||c.toNat==45||c.toNat==46))
def oV (f:Nat->UInt8->Bool)(i:Nat):List UInt8->Bool
 |[]=>true
 |c::r=>f i c&&oV f (i+1) r
def eD (s:List UInt8):Bool:=decide (2<=s.length)&&decide (s.length<=24)&&oV mN 0 s
theorem lD {f:Nat->UInt8->Bool}: ∀{i:Nat} {l:List UInt8},oV f i l=true↔ ∀(j:Nat) (x:UInt8),l[j]?=some x->f (i+j) x=true
 |i,[]=>by simp[oV]
 |i,c::r=>by
  simp only[oV,Bool.and_eq_true,lD (l:=r)];constructor
  .grind
  .intro h;refine⟨h 0 c rfl,λj x hx=>?_⟩;have:=h (j+1) x (by simp_all);grind
theorem pL {f:Nat->UInt8->Bool}{l:List UInt8}{j:Nat}{x:UInt8}(h:l[j]?=some x)(hf:f j x=false):oV f 0 l=false:=by
 grind [lD]
structure Atom where
 name:List UInt8
 rel:Int
 ver:List UInt8
 deriving DecidableEq
structure iR where
 name:List UInt8
 ver:List UInt8
 deriving DecidableEq
abbrev Clause:=List Atom
structure Pkg where
 name:List UInt8
 ver:List UInt8
 pre:List Clause
 dep:List Clause
 rcm:List Clause
 con:List Atom
 brk:List Atom
 eX:List iR
 ess:Bool
 deriving DecidableEq
def cu (a:Atom):Bool:=
 eD a.name&&(if a.rel=0 then a.ver==[]else decide (1<=a.rel)&&decide (a.rel<=5)&&bP a.ver)
end Go.Av
end
