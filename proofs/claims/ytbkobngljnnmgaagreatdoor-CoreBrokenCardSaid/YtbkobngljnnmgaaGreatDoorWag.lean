/- What the last text of this claim rests on. No conditions. -/
import Derived.Test.YtbkobngljnnmgaaGreatDoorWae
set_option linter.unusedSimpArgs false
set_option linter.unusedVariables false
section
namespace Go.Av
def mW (i:Nat)(c:UInt8):Bool:=jY c||bk c||(i !=0&&(c.toNat==43||c.toNat==45||c.toNat==46))
def oY (f:Nat->UInt8->Bool)(i:Nat):List UInt8->Bool
 |[]=>true
 |c::r=>f i c&&oY f (i+1) r
def eN (s:List UInt8):Bool:=decide (2<=s.length)&&decide (s.length<=24)&&oY mW 0 s
theorem lJ {f:Nat->UInt8->Bool}: ∀{i:Nat} {l:List UInt8},oY f i l=true↔ ∀(j:Nat) (x:UInt8),l[j]?=some x->f (i+j) x=true
 |i,[]=>by simp[oY]
 |i,c::r=>by
  simp only[oY,Bool.and_eq_true,lJ (l:=r)];constructor
  .grind
  .intro h;refine⟨h 0 c rfl,λj x hx=>?_⟩;have:=h (j+1) x (by simp_all);grind
theorem pM {f:Nat->UInt8->Bool}{l:List UInt8}{j:Nat}{x:UInt8}(h:l[j]?=some x)(hf:f j x=false):oY f 0 l=false:=by
 grind [lJ]
structure Atom where
 name:List UInt8
 rel:Int
 ver:List UInt8
 deriving DecidableEq
structure jE where
 name:List UInt8
 ver:List UInt8
 deriving DecidableEq
abbrev Clause:=List Atom
structure Pkg where
 name:List UInt8
 ver:List UInt8
 pre:List Clause
 dep:List Clause
 rcm:List Clause
 con:List Atom
 brk:List Atom
 eI:List jE
 ess:Bool
 deriving DecidableEq
def ct (a:Atom):Bool:=
 eN a.name&&(if a.rel=0 then a.ver==[]else decide (1<=a.rel)&&decide (a.rel<=5)&&bK a.ver)
end Go.Av
end
