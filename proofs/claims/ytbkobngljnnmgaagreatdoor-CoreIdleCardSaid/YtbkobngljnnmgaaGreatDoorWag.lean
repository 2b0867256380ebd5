/- What the last text of this claim rests on. No conditions. -/
import Derived.Test.YtbkobngljnnmgaaGreatDoorWae
set_option linter.unusedSimpArgs false
set_option linter.unusedVariables false
section
namespace Go.Av
def nK (i:Nat)(c:UInt8):Bool:=jR c||bm c||(i !=0&&(c.toNat==43||c.toNat==45||c.toNat==46))
def pq (f:Nat->UInt8->Bool)(i:Nat):List UInt8->Bool
 |[]=>true
 |c::r=>f i c&&pq f (i+1) r
def eT (s:List UInt8):Bool:=decide (2<=s.length)&&decide (s.length<=24)&&pq nK 0 s
theorem lx {f:Nat->UInt8->Bool}: ∀{i:Nat} {l:List UInt8},pq f i l=true↔ ∀(j:Nat) (x:UInt8),l[j]?=some x->f (i+j) x=true
 |i,[]=>by simp[pq]
 |i,c::r=>by
  simp only[pq,Bool.and_eq_true,lx (l:=r)];constructor
  .grind
  .intro h;refine⟨h 0 c rfl,λj x hx=>?_⟩;have:=h (j+1) x (by simp_all);grind
theorem pV {f:Nat->UInt8->Bool}{l:List UInt8}{j:Nat}{x:UInt8}(h:l[j]?=some x)(hf:f j x=false):pq f 0 l=false:=by
 grind [lx]
structure Atom where
 name:List UInt8
 rel:Int
 ver:List UInt8
 deriving DecidableEq
structure jx where
 name:List UInt8
 ver:List UInt8
 deriving DecidableEq
abbrev Clause:=List Atom
structure Pkg where
 name:List UInt8
 ver:List UInt8
 pre:List Clause
 dep:List Clause
 rcm:List Clause
 con:List Atom
 brk:List Atom
 eN:List jx
 ess:Bool
 deriving DecidableEq
def cA (a:Atom):Bool:=
 eT a.name&&(if a.rel=0 then a.ver==[]else decide (1<=a.rel)&&decide (a.rel<=5)&&bI a.ver)
end Go.Av
end
