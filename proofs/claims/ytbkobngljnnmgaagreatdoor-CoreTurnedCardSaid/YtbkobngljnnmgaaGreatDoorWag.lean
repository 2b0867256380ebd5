/- What the last text of this claim rests on. No conditions. -/
import Derived.Test.YtbkobngljnnmgaaGreatDoorWae
set_option linter.unusedSimpArgs false
set_option linter.unusedVariables false
section
namespace Go.Av
def mM (i:Nat)(c:UInt8):Bool:=jJ c||bk c||(i !=0&&(c.toNat==43||c.toNat==45||c.toNat==46))
def oX (f:Nat->UInt8->Bool)(i:Nat):List UInt8->Bool
 |[]=>true
 |c::r=>f i c&&oX f (i+1) r
def eI (s:List UInt8):Bool:=decide (2<=s.length)&&decide (s.length<=24)&&oX mM 0 s
theorem lk {f:Nat->UInt8->Bool}: ∀{i:Nat} {l:List UInt8},oX f i l=true↔ ∀(j:Nat) (x:UInt8),l[j]?=some x->f (i+j) x=true
 |i,[]=>by simp[oX]
 |i,c::r=>by
  simp only[oX,Bool.and_eq_true,lk (l:=r)];constructor
  .grind
  .intro h;refine⟨h 0 c rfl,λj x hx=>?_⟩;have:=h (j+1) x (by simp_all);grind
theorem pF {f:Nat->UInt8->Bool}{l:List UInt8}{j:Nat}{x:UInt8}(h:l[j]?=some x)(hf:f j x=false):oX f 0 l=false:=by
 grind [lk]
structure Atom where
 name:List UInt8
 rel:Int
 ver:List UInt8
 deriving DecidableEq
structure iK where
 name:List UInt8
 ver:List UInt8
 deriving DecidableEq
abbrev Clause:=List Atom
structure Pkg where
 name:List UInt8
 ver:List UInt8
 pre:List Clause
 dep:List Clause
 rcm:List Clause
 con:List Atom
 brk:List Atom
 eY:List iK
 ess:Bool
 deriving DecidableEq
def cr (a:Atom):Bool:=
 eI a.name&&(if a.rel=0 then a.ver==[]else decide (1<=a.rel)&&decide (a.rel<=5)&&bM a.ver)
end Go.Av
end
