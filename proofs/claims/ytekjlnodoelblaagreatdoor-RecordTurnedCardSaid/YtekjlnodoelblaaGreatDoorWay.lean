/- Texts that the last one of this claim rests on: a layer over the guide's own conditions for code; contracts of the functions that the law reaches, one by one. No conditions beside those of the given rows. -/
import Derived.Test.YtekjlnodoelblaaGreatDoorWas
set_option linter.unusedSimpArgs false
set_option linter.unusedVariables false
section
namespace Go.Av
def lightD9 (d : List Clause) : Bool:=decide (d.length ≤ 30) && d.all fun c=>decide (c.length ≤ 30)
def lightP9 (i : Nat) (p : Pkg) : Bool:=decide (i < 40) && decide (p.con.length + p.brk.length + p.prov.length ≤ 60) && [p.pre,p.dep,p.rcm].all lightD9
def lightL9 : Nat → List Pkg → Bool
 | _,[]=>true
 | i,p :: r=>lightP9 i p && lightL9 (i + 1) r
theorem lightL9_get : ∀ {i : Nat} {l : List Pkg},lightL9 i l = true → ∀ p ∈ l,p.con.length + p.brk.length + p.prov.length ≤ 60
 | i,[],_,_,h=>by cases h
 | i,q :: r,h,p,hp=>by
  rw [lightL9,Bool.and_eq_true] at h
  rcases List.mem_cons.1 hp with rfl | hp
  ·have:=h.1
   simp [lightP9] at this
   exact this.1.2
  ·exact lightL9_get h.2 p hp
def awT1 : List UInt8:=[80,97,99,107,97,103,101,58,32,97,97,10,86,101,114,115,105,111,110,58,32,49,10,68,101,112,101,110,100,115,58,32,98,98,10]
def awT2 : List UInt8:=[80,97,99,107,97,103,101,58,32,97,97,10]
theorem aw9_1 : pkgsT awT1 = ([⟨[97,97],[49],[],[[⟨[98,98],0,[]⟩]],[],[],[],[],false⟩],(0,0)):=by decide +kernel
theorem aw9_2 : pkgsT awT2 = ([],(5,1)):=by decide +kernel
end Go.Av
end
