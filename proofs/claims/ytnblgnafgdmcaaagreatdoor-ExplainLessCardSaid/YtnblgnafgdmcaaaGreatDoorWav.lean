/- Texts that the last one of this claim rests on: a layer over the guide's own conditions for code; contracts of the functions that the law reaches, one by one. No conditions beside those of the given rows. -/
import Derived.Test.YtnblgnafgdmcaaaGreatDoorWat
section
set_option linter.unusedSimpArgs false
set_option linter.unusedVariables false
namespace Go.Av

theorem any_succ {α : Type} {l : List α} {i : Nat} {x : α} (h : l[i]? = some x) (f : α → Bool) : (l.take (i + 1)).any f = ((l.take i).any f || f x) := by
  rw [take_succ_get h, List.any_append]; simp
theorem any_end {α : Type} {l : List α} {i : Nat} (h : l.length ≤ i) (f : α → Bool) : (l.take i).any f = l.any f := by rw [List.take_of_length_le h]

/-- A package meets an atom: by its name, or by what it provides. -/
def satP (p : Pkg) (a : Atom) : Bool :=
  mayAtom a && ((p.name == a.name && holdsV a.rel p.ver a.ver) || p.prov.any fun v => v.name == a.name && (a.rel == 0 || holdsV a.rel v.ver a.ver))
def againstP (p q : Pkg) : Bool := p.con.any (satP q) || p.brk.any (satP q)
def clashP (p q : Pkg) : Bool := p.name != q.name && (againstP p q || againstP q p)
def metP (c : Clause) (l : List Pkg) : Bool := c.any fun a => l.any fun p => satP p a
/-- One package among others, of which some stand ahead of it. -/
def sickP (l bef : List Pkg) (p : Pkg) : Bool := mayPkg p != 0 || bef.any (fun q => q.name == p.name || clashP p q) || (p.pre.any (fun c => !metP c l) || p.dep.any (fun c => !metP c l))
def sickL (l : List Pkg) : List Pkg → List Pkg → Bool
  | _, [] => false
  | bef, p :: r => sickP l bef p || sickL l (bef ++ [p]) r
def healthyP (l : List Pkg) : Bool := !sickL l [] l

theorem isVer_nil : isVer [] = false := rfl
theorem holds_nil {r : Int} (b : List UInt8) : holdsV r [] b = false := by
  unfold holdsV
  rw [isVer_nil]
  split <;> rfl

end Go.Av
end
