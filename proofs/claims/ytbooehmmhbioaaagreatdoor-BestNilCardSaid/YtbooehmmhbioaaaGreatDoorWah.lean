/- Texts that the last one of this claim rests on: a layer over the guide's own conditions for code; contracts of the functions that the law reaches, one by one. No conditions beside those of the given rows. -/
import Derived.Test.YtbooehmmhbioaaaGreatDoorWaf
set_option linter.unusedSimpArgs false
set_option linter.unusedVariables false
section
namespace Go.Av

def mD (i : Nat) (c : UInt8) : Bool:=j8 c || aJ c || (i != 0 && (c.toNat == 43 || c.toNat == 45 || c.toNat == 46))
def jr (f : Nat → UInt8 → Bool) (i : Nat) : List UInt8 → Bool
 | []=>true
 | c :: r=>f i c && jr f (i + 1) r
def dH (s : List UInt8) : Bool:=decide (2 ≤ s.length) && decide (s.length ≤ 24) && jr mD 0 s

theorem kY {f : Nat → UInt8 → Bool} : ∀ {i : Nat} {l : List UInt8},jr f i l = true ↔ ∀ (j : Nat) (x : UInt8),l[j]? = some x → f (i + j) x = true
 | i,[]=>by simp [jr]
 | i,c :: r=>by
  simp only [jr,Bool.and_eq_true,kY (l:=r)]
  constructor
  ·rintro ⟨h1,h2⟩ j x hx
   cases j with
   | zero=>simp at hx; subst hx; exact h1
   | succ j=>have:=h2 j x (by simpa using hx); rwa [show i + 1 + j = i + (j + 1) by omega] at this
  ·intro h
   refine ⟨h 0 c rfl,fun j x hx=>?_⟩
   have:=h (j + 1) x (by simpa using hx)
   rwa [show i + (j + 1) = i + 1 + j by omega] at this

theorem sI {f : Nat → UInt8 → Bool} {l : List UInt8} {j : Nat} {x : UInt8} (h : l[j]? = some x) (hf : f j x = false) : jr f 0 l = false:=by
 cases h' : jr f 0 l with
 | false=>rfl
 | true =>
  have:=kY.1 h' j x h
  rw [Nat.zero_add,hf] at this
  cases this

structure Atom where
 name : List UInt8
 rel : Int
 ver : List UInt8
 deriving DecidableEq

structure ij where
 name : List UInt8
 ver : List UInt8
 deriving DecidableEq

abbrev Clause:=List Atom

structure Pkg where
 name : List UInt8
 ver : List UInt8
 pre : List Clause
 dep : List Clause
 rcm : List Clause
 con : List Atom
 brk : List Atom
 gr : List ij
 ess : Bool
 deriving DecidableEq

def cX (a : Atom) : Bool :=
 dH a.name && (if a.rel = 0 then a.ver == [] else decide (1 ≤ a.rel) && decide (a.rel ≤ 5) && bz a.ver)

end Go.Av
end
