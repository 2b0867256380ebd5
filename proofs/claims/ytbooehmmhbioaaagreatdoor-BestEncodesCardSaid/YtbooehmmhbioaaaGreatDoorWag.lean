/- Texts that the last one of this claim rests on: a layer over the guide's own conditions for code; contracts of the functions that the law reaches, one by one. No conditions beside those of the given rows. -/
import Derived.Test.YtbooehmmhbioaaaGreatDoorWae
set_option linter.unusedSimpArgs false
set_option linter.unusedVariables false
section
namespace Go.Av
def iB (i:Nat)(c:UInt8):Bool:=iz c||aI c||(i !=0&&(c.toNat==43||c.toNat==45||c.toNat==46))
def iK (f:Nat→UInt8→Bool)(i:Nat):List UInt8→Bool
 |[]=>true
 |c::r=>f i c&&iK f (i+1) r
def dc (s:List UInt8):Bool:=decide (2≤s.length)&&decide (s.length≤24)&&iK iB 0 s
theorem jI {f:Nat→UInt8→Bool}: ∀{i:Nat} {l:List UInt8},iK f i l=true↔ ∀(j:Nat) (x:UInt8),l[j]?=some x→f (i+j) x=true
 |i,[]=>by simp[iK]
 |i,c::r=>by
  simp only[iK,Bool.and_eq_true,jI (l:=r)]
  constructor
  ·rintro⟨h1,h2⟩ j x hx
   cases j with
   |zero=>simp at hx;subst hx;exact h1
   |succ j=>have:=h2 j x (by simpa using hx);rwa [show i+1+j=i+(j+1) by omega]at this
  ·intro h
   refine⟨h 0 c rfl,λj x hx=>?_⟩
   have:=h (j+1) x (by simpa using hx)
   rwa [show i+(j+1)=i+1+j by omega]at this
theorem nr {f:Nat→UInt8→Bool}{l:List UInt8}{j:Nat}{x:UInt8}(h:l[j]?=some x)(hf:f j x=false):iK f 0 l=false:=by
 cases h':iK f 0 l with
 |false=>rfl
 |true=>
  have:=jI.1 h' j x h
  rw[Nat.zero_add,hf]at this
  cases this
structure Atom where
 name:List UInt8
 rel:Int
 ver:List UInt8
 deriving DecidableEq
structure ia where
 name:List UInt8
 ver:List UInt8
 deriving DecidableEq
abbrev Clause:=List Atom
structure Pkg where
 name:List UInt8
 ver:List UInt8
 pre:List Clause
 dep:List Clause
 rcm:List Clause
 con:List Atom
 brk:List Atom
 dI:List ia
 ess:Bool
 deriving DecidableEq
def bT (a:Atom):Bool:=
 dc a.name&&(if a.rel=0 then a.ver==[]else decide (1≤a.rel)&&decide (a.rel≤5)&&bk a.ver)
end Go.Av
end
