/- Texts that the last one of this claim rests on: a layer over the guide's own conditions for code; contracts of the functions that the law reaches, one by one. No conditions beside those of the given rows. -/
import Derived.Test.YtbooehmmhbioaaaGreatDoorWah
import Derived.Test.YtbooehmmhbioaaaGreatDoorWaj
set_option linter.unusedSimpArgs false
set_option linter.unusedVariables false
section
namespace Go.Proofs.Tryz
open Go Go.Av
set_option maxRecDepth 10000
theorem zR {n:Nat}{a:AV}(h:OfT prog (n+2) 81 a): ∃p,a=aN p:=by
 obtain⟨xs,rfl,g⟩:=sQ (ts:=[9,3,9]) (by kernel_rfl) h
 obtain _|⟨x,_|⟨y,_|⟨z,_|_⟩⟩⟩:=xs<;>simp only[ui,and_false,and_true]at g
 obtain⟨h1,h2,h3⟩:=g
 obtain⟨s,rfl,_⟩:=mD (by kernel_rfl) h1
 obtain⟨k,rfl,_⟩:=CL (k:=.i64) (by kernel_rfl) h2
 obtain⟨v,rfl,_⟩:=mD (by kernel_rfl) h3
 exact⟨⟨s,k,v⟩,rfl⟩
theorem GU {n:Nat}{a:AV}(h:OfT prog (n+2) 147 a): ∃p,a=cV p:=by
 obtain⟨xs,rfl,g⟩:=sQ (ts:=[9,9]) (by kernel_rfl) h
 obtain _|⟨x,_|⟨y,_|_⟩⟩:=xs<;>simp only[ui,and_false,and_true]at g
 obtain⟨h1,h2⟩:=g
 obtain⟨s,rfl,_⟩:=mD (by kernel_rfl) h1
 obtain⟨v,rfl,_⟩:=mD (by kernel_rfl) h2
 exact⟨⟨s,v⟩,rfl⟩
structure An (p:Pkg):Prop where
 name:p.name.length≤reachBytes
 ver:p.ver.length≤reachBytes
 pre:p.pre.length≤reachBytes
 dep:p.dep.length≤reachBytes
 rcm:p.rcm.length≤reachBytes
 con:p.con.length≤reachBytes
 brk:p.brk.length≤reachBytes
 dI:p.dI.length≤reachBytes
theorem vX {n:Nat}{a:AV}(h:OfT prog (n+3) 51 a): ∃p,a=aC p∧p.length≤reachBytes:=by
 obtain⟨ps,rfl,hl⟩:=mL (f:=aN) (e:=81) (by kernel_rfl) (λx=>zR) h
 exact⟨ps,rfl,hl⟩
theorem AP {n:Nat}{a:AV}(h:OfT prog (n+3) 72 a): ∃p,a=aC p:=by
 obtain⟨ps,rfl,_⟩:=mL (f:=aN) (e:=81) (by kernel_rfl) (λx=>zR) h
 exact⟨ps,rfl⟩
theorem lW {n:Nat}{a:AV}(h:OfT prog (n+4) 50 a): ∃p,a=ax p∧p.length≤reachBytes:=by
 obtain⟨ps,rfl,hl⟩:=mL (f:=aC) (e:=72) (by kernel_rfl) (λx=>AP) h
 exact⟨ps,rfl,hl⟩
theorem DB {n:Nat}{a:AV}(h:OfT prog (n+3) 52 a): ∃p,a=cn p∧p.length≤reachBytes:=by
 obtain⟨ps,rfl,hl⟩:=mL (f:=cV) (e:=147) (by kernel_rfl) (λx=>GU) h
 exact⟨ps,rfl,hl⟩
theorem KA {n:Nat}{a:AV}(h:OfT prog (n+5) 54 a): ∃p,a=au p∧An p:=by
 obtain⟨xs,rfl,g⟩:=sQ (ts:=[9,9,50,50,50,51,51,52,4]) (by kernel_rfl) h
 obtain _|⟨x1,_|⟨x2,_|⟨x3,_|⟨x4,_|⟨x5,_|⟨x6,_|⟨x7,_|⟨x8,_|⟨x9,_|_⟩⟩⟩⟩⟩⟩⟩⟩⟩:=xs<;>simp only[ui,and_false,and_true]at g
 obtain⟨h1,h2,h3,h4,h5,h6,h7,h8,h9⟩:=g
 obtain⟨y1,rfl,l1⟩:=mD (by kernel_rfl) h1
 obtain⟨y2,rfl,l2⟩:=mD (by kernel_rfl) h2
 obtain⟨y3,rfl,l3⟩:=lW (n:=n) h3
 obtain⟨y4,rfl,l4⟩:=lW (n:=n) h4
 obtain⟨y5,rfl,l5⟩:=lW (n:=n) h5
 obtain⟨y6,rfl,l6⟩:=vX (n:=n+1) h6
 obtain⟨y7,rfl,l7⟩:=vX (n:=n+1) h7
 obtain⟨y8,rfl,l8⟩:=DB (n:=n+1) h8
 obtain⟨y9,rfl⟩:=zg (by kernel_rfl) h9
 exact⟨⟨y1,y2,y3,y4,y5,y6,y7,y8,y9⟩,rfl,⟨l1,l2,l3,l4,l5,l6,l7,l8⟩⟩
theorem GK {n:Nat}{a:AV}(h:OfT prog (n+6) 22 a): ∃l,a=aT l∧l.length≤reachBytes∧ ∀p∈l,An p:=by
 obtain⟨xs,rfl,hl,hx⟩:=Hw (e:=54) (by kernel_rfl) h
 obtain⟨ps,rfl⟩:=all_map (f:=λq:{ p:Pkg // An p }=>au q.1) λx hm=>by
  obtain⟨p,rfl,h1⟩:=KA (hx x hm)
  exact⟨⟨p,h1⟩,rfl⟩
 refine⟨ps.map (·.1),by rw[aT,List.map_map];rfl,by simpa using hl,λp hp=>?_⟩
 obtain⟨q,_,rfl⟩:=List.mem_map.1 hp
 exact q.2
end Go.Proofs.Tryz
end
section
namespace Go.Proofs.Tryz
open Go Go.Av
set_option maxRecDepth 10000
variable {W0 :World}
theorem HZ :reachBytes=140737488351232:=by decide
end Go.Proofs.Tryz
end
section
namespace Go.Proofs.Tryz
open Go Go.Av
set_option maxRecDepth 10000
variable {W0 :World}
theorem qt {all:List Pkg}(h:ir 0 all=true): ∀p∈all,lp p:=λp hp=>by
 have:=sG h p hp
 exact⟨by omega,by omega,by omega⟩
end Go.Proofs.Tryz
end
