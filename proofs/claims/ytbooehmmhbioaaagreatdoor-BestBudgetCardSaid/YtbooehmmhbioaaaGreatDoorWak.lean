/- Texts that the last one of this claim rests on: a layer over the guide's own conditions for code; contracts of the functions that the law reaches, one by one. No conditions beside those of the given rows. -/
import Derived.Test.YtbooehmmhbioaaaGreatDoorWah
import Derived.Test.YtbooehmmhbioaaaGreatDoorWaj
set_option linter.unusedSimpArgs false
set_option linter.unusedVariables false
section
namespace Go.Proofs.Tryz
open Go Go.Av
set_option maxRecDepth 10000
theorem yW {n:Nat}{a:AV}(h:OfT prog (n+2) 81 a): ∃p,a=aQ p:=by
 obtain⟨xs,rfl,g⟩:=l0 (ts:=[9,3,9]) (by kernel_rfl) h
 obtain _|⟨x,_|⟨y,_|⟨z,_|_⟩⟩⟩:=xs<;>simp only[rN,and_false,and_true]at g
 obtain⟨h1,h2,h3⟩:=g
 obtain⟨s,rfl,_⟩:=jP (by kernel_rfl) h1
 obtain⟨k,rfl,_⟩:=rP (k:=.i64) (by kernel_rfl) h2
 obtain⟨v,rfl,_⟩:=jP (by kernel_rfl) h3
 exact⟨⟨s,k,v⟩,rfl⟩
theorem Fb {n:Nat}{a:AV}(h:OfT prog (n+2) 147 a): ∃p,a=cX p:=by
 obtain⟨xs,rfl,g⟩:=l0 (ts:=[9,9]) (by kernel_rfl) h
 obtain _|⟨x,_|⟨y,_|_⟩⟩:=xs<;>simp only[rN,and_false,and_true]at g
 obtain⟨h1,h2⟩:=g
 obtain⟨s,rfl,_⟩:=jP (by kernel_rfl) h1
 obtain⟨v,rfl,_⟩:=jP (by kernel_rfl) h2
 exact⟨⟨s,v⟩,rfl⟩
structure rJ (p:Pkg):Prop where
 name:p.name.length≤reachBytes
 ver:p.ver.length≤reachBytes
 pre:p.pre.length≤reachBytes
 dep:p.dep.length≤reachBytes
 rcm:p.rcm.length≤reachBytes
 con:p.con.length≤reachBytes
 brk:p.brk.length≤reachBytes
 dY:p.dY.length≤reachBytes
theorem vl {n:Nat}{a:AV}(h:OfT prog (n+3) 51 a): ∃p,a=aF p∧p.length≤reachBytes:=by
 obtain⟨ps,rfl,hl⟩:=pd (f:=aQ) (e:=81) (by kernel_rfl) (λx=>yW) h
 exact⟨ps,rfl,hl⟩
theorem Bv {n:Nat}{a:AV}(h:OfT prog (n+3) 72 a): ∃p,a=aF p:=by
 obtain⟨ps,rfl,_⟩:=pd (f:=aQ) (e:=81) (by kernel_rfl) (λx=>yW) h
 exact⟨ps,rfl⟩
theorem lR {n:Nat}{a:AV}(h:OfT prog (n+4) 50 a): ∃p,a=aA p∧p.length≤reachBytes:=by
 obtain⟨ps,rfl,hl⟩:=pd (f:=aF) (e:=72) (by kernel_rfl) (λx=>Bv) h
 exact⟨ps,rfl,hl⟩
theorem EE {n:Nat}{a:AV}(h:OfT prog (n+3) 52 a): ∃p,a=cm p∧p.length≤reachBytes:=by
 obtain⟨ps,rfl,hl⟩:=pd (f:=cX) (e:=147) (by kernel_rfl) (λx=>Fb) h
 exact⟨ps,rfl,hl⟩
theorem Cl {n:Nat}{a:AV}(h:OfT prog (n+5) 54 a): ∃p,a=av p∧rJ p:=by
 obtain⟨xs,rfl,g⟩:=l0 (ts:=[9,9,50,50,50,51,51,52,4]) (by kernel_rfl) h
 obtain _|⟨x1,_|⟨x2,_|⟨x3,_|⟨x4,_|⟨x5,_|⟨x6,_|⟨x7,_|⟨x8,_|⟨x9,_|_⟩⟩⟩⟩⟩⟩⟩⟩⟩:=xs<;>simp only[rN,and_false,and_true]at g
 obtain⟨h1,h2,h3,h4,h5,h6,h7,h8,h9⟩:=g
 obtain⟨y1,rfl,l1⟩:=jP (by kernel_rfl) h1
 obtain⟨y2,rfl,l2⟩:=jP (by kernel_rfl) h2
 obtain⟨y3,rfl,l3⟩:=lR (n:=n) h3
 obtain⟨y4,rfl,l4⟩:=lR (n:=n) h4
 obtain⟨y5,rfl,l5⟩:=lR (n:=n) h5
 obtain⟨y6,rfl,l6⟩:=vl (n:=n+1) h6
 obtain⟨y7,rfl,l7⟩:=vl (n:=n+1) h7
 obtain⟨y8,rfl,l8⟩:=EE (n:=n+1) h8
 obtain⟨y9,rfl⟩:=tc (by kernel_rfl) h9
 exact⟨⟨y1,y2,y3,y4,y5,y6,y7,y8,y9⟩,rfl,⟨l1,l2,l3,l4,l5,l6,l7,l8⟩⟩
theorem GJ {n:Nat}{a:AV}(h:OfT prog (n+6) 22 a): ∃l,a=aU l∧l.length≤reachBytes∧ ∀p∈l,rJ p:=by
 obtain⟨xs,rfl,hl,hx⟩:=G1 (e:=54) (by kernel_rfl) h
 obtain⟨ps,rfl⟩:=all_map (f:=λq:{ p:Pkg // rJ p }=>av q.1) λx hm=>by
  obtain⟨p,rfl,h1⟩:=Cl (hx x hm)
  exact⟨⟨p,h1⟩,rfl⟩
 refine⟨ps.map (·.1),by rw[aU,List.map_map];rfl,by simpa using hl,λp hp=>?_⟩
 obtain⟨q,_,rfl⟩:=List.mem_map.1 hp
 exact q.2
end Go.Proofs.Tryz
end
section
namespace Go.Proofs.Tryz
open Go Go.Av
set_option maxRecDepth 10000
variable {W0 :World}
theorem HM :reachBytes=140737488351232:=by decide
end Go.Proofs.Tryz
end
section
namespace Go.Proofs.Tryz
open Go Go.Av
set_option maxRecDepth 10000
variable {W0 :World}
theorem vJ {all:List Pkg}(h:iu 0 all=true): ∀p∈all,lu p:=λp hp=>by
 have:=tL h p hp
 exact⟨by omega,by omega,by omega⟩
end Go.Proofs.Tryz
end
