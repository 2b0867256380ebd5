/- Texts that the last one of this claim rests on: a layer over the guide's own conditions for code; contracts of the functions that the law reaches, one by one. No conditions beside those of the given rows. -/
import Derived.Test.YtbooehmmhbioaaaGreatDoorWai
import Derived.Test.YtbooehmmhbioaaaGreatDoorWak
set_option linter.unusedSimpArgs false
set_option linter.unusedVariables false
section
namespace Go.Proofs.Tryz
open Go Go.Av
set_option maxRecDepth 10000

structure UZ (p : Pkg) : Prop where
 name : p.name.length ≤ reachBytes
 ver : p.ver.length ≤ reachBytes
 pre : p.pre.length ≤ reachBytes
 dep : p.dep.length ≤ reachBytes
 rcm : p.rcm.length ≤ reachBytes
 con : p.con.length ≤ reachBytes
 brk : p.brk.length ≤ reachBytes
 gr : p.gr.length ≤ reachBytes
end Go.Proofs.Tryz
end
