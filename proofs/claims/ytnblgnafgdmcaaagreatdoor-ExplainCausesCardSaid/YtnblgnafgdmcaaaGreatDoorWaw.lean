/- Texts that the last one of this claim rests on: a layer over the guide's own conditions for code; contracts of the functions that the law reaches, one by one. No conditions beside those of the given rows. -/
import Derived.Test.YtnblgnafgdmcaaaGreatDoorWau
section
set_option linter.unusedSimpArgs false
set_option linter.unusedVariables false
namespace Go.Av

/-- A package meets an atom: by its name, or by what it provides. -/
def satP (p : Pkg) (a : Atom) : Bool :=
  mayAtom a && ((p.name == a.name && holdsV a.rel p.ver a.ver) || p.prov.any fun v => v.name == a.name && (a.rel == 0 || holdsV a.rel v.ver a.ver))
def againstP (p q : Pkg) : Bool := p.con.any (satP q) || p.brk.any (satP q)
def clashP (p q : Pkg) : Bool := p.name != q.name && (againstP p q || againstP q p)
def metP (c : Clause) (l : List Pkg) : Bool := c.any fun a => l.any fun p => satP p a
end Go.Av
end
