/- What the last text of this claim rests on. No conditions. -/
import Derived.Test.YtbkobngljnnmgaaGreatDoorWah
import Derived.Test.YtbkobngljnnmgaaGreatDoorWaj
set_option linter.unusedSimpArgs false
set_option linter.unusedVariables false
section
namespace Go.Proofs.Tryz
open Go Go.Av
set_option maxRecDepth 10000
theorem Dx {n:Nat}{a:AV}(h:OfT prog (n+2) 76 a): ∃p,a=aU p:=by
 obtain⟨xs,rfl,g⟩:=oC (ts:=[9,3,9]) (by kernel_rfl) h;obtain _|⟨x,_|⟨y,_|⟨z,_|_⟩⟩⟩:=xs<;>simp only[wJ,and_false,and_true]at g
 obtain⟨h1,h2,h3⟩:=g;obtain⟨s,rfl,_⟩:=lC (by kernel_rfl) h1;obtain⟨k,rfl,_⟩:=Ku (k:=.i64) (by kernel_rfl) h2;obtain⟨v,rfl,_⟩:=lC (by kernel_rfl) h3;exact⟨⟨s,k,v⟩,rfl⟩
theorem Td {n:Nat}{a:AV}(h:OfT prog (n+2) 179 a): ∃p,a=dD p:=by
 obtain⟨xs,rfl,g⟩:=oC (ts:=[9,9]) (by kernel_rfl) h;obtain _|⟨x,_|⟨y,_|_⟩⟩:=xs<;>simp only[wJ,and_false,and_true]at g
 obtain⟨h1,h2⟩:=g;obtain⟨s,rfl,_⟩:=lC (by kernel_rfl) h1;obtain⟨v,rfl,_⟩:=lC (by kernel_rfl) h2;exact⟨⟨s,v⟩,rfl⟩
structure uE (p:Pkg):Prop where
 name:p.name.length<=reachBytes
 ver:p.ver.length<=reachBytes
 pre:p.pre.length<=reachBytes
 dep:p.dep.length<=reachBytes
 rcm:p.rcm.length<=reachBytes
 con:p.con.length<=reachBytes
 brk:p.brk.length<=reachBytes
 eI:p.eI.length<=reachBytes
theorem AM {n:Nat}{a:AV}(h:OfT prog (n+3) 48 a): ∃p,a=aF p/\p.length<=reachBytes:=by
 obtain⟨ps,rfl,hl⟩:=rC (f:=aU) (e:=76) (by kernel_rfl) (λx=>Dx) h;exact⟨ps,rfl,hl⟩
theorem Js {n:Nat}{a:AV}(h:OfT prog (n+3) 77 a): ∃p,a=aF p:=by
 obtain⟨ps,rfl,_⟩:=rC (f:=aU) (e:=76) (by kernel_rfl) (λx=>Dx) h;exact⟨ps,rfl⟩
theorem nY {n:Nat}{a:AV}(h:OfT prog (n+4) 47 a): ∃p,a=aB p/\p.length<=reachBytes:=by
 obtain⟨ps,rfl,hl⟩:=rC (f:=aF) (e:=77) (by kernel_rfl) (λx=>Js) h;exact⟨ps,rfl,hl⟩
theorem Mz {n:Nat}{a:AV}(h:OfT prog (n+3) 49 a): ∃p,a=cy p/\p.length<=reachBytes:=by
 obtain⟨ps,rfl,hl⟩:=rC (f:=dD) (e:=179) (by kernel_rfl) (λx=>Td) h;exact⟨ps,rfl,hl⟩
theorem J7 {n:Nat}{a:AV}(h:OfT prog (n+5) 51 a): ∃p,a=ay p/\uE p:=by
 obtain⟨xs,rfl,g⟩:=oC (ts:=[9,9,47,47,47,48,48,49,4]) (by kernel_rfl) h;obtain _|⟨x1,_|⟨x2,_|⟨x3,_|⟨x4,_|⟨x5,_|⟨x6,_|⟨x7,_|⟨x8,_|⟨x9,_|_⟩⟩⟩⟩⟩⟩⟩⟩⟩:=xs<;>simp only[wJ,and_false,and_true]at g
 obtain⟨h1,h2,h3,h4,h5,h6,h7,h8,h9⟩:=g;obtain⟨y1,rfl,l1⟩:=lC (by kernel_rfl) h1;obtain⟨y2,rfl,l2⟩:=lC (by kernel_rfl) h2;obtain⟨y3,rfl,l3⟩:=nY (n:=n) h3;obtain⟨y4,rfl,l4⟩:=nY (n:=n) h4;obtain⟨y5,rfl,l5⟩:=nY (n:=n) h5;obtain⟨y6,rfl,l6⟩:=AM (n:=n+1) h6;obtain⟨y7,rfl,l7⟩:=AM (n:=n+1) h7;obtain⟨y8,rfl,l8⟩:=Mz (n:=n+1) h8;obtain⟨y9,rfl⟩:=vf (by kernel_rfl) h9;exact⟨⟨y1,y2,y3,y4,y5,y6,y7,y8,y9⟩,rfl,⟨l1,l2,l3,l4,l5,l6,l7,l8⟩⟩
theorem Pj {n:Nat}{a:AV}(h:OfT prog (n+6) 23 a): ∃l,a=aL l/\l.length<=reachBytes/\ ∀p∈l,uE p:=by
 obtain⟨xs,rfl,hl,hx⟩:=SX (e:=51) (by kernel_rfl) h;obtain⟨ps,rfl⟩:=all_map (f:=λq:{ p:Pkg // uE p }=>ay q.1) λx hm=>by
  obtain⟨p,rfl,h1⟩:=J7 (hx x hm);exact⟨⟨p,h1⟩,rfl⟩
 refine⟨ps.map (·.1),by simp[aL],by simp_all,λp hp=>?_⟩;grind
end Go.Proofs.Tryz
end
section
namespace Go.Proofs.Tryz
open Go Go.Av
set_option maxRecDepth 10000
variable {W0 :World}
theorem OT :reachBytes=140737488351232:=by decide
theorem zB {all:List Pkg}(h:gR 0 all=true): ∀p∈all,iT p:=λp hp=>by
 have:=wG h p hp;exact⟨by omega,by omega,by omega⟩
end Go.Proofs.Tryz
end
