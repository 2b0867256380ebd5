/- What the last text of this claim rests on. No conditions. -/
import Derived.Test.YtbkobngljnnmgaaGreatDoorWah
import Derived.Test.YtbkobngljnnmgaaGreatDoorWaj
set_option linter.unusedSimpArgs false
set_option linter.unusedVariables false
section
namespace Go.Proofs.Tryz
open Go Go.Av
set_option maxRecDepth 10000
theorem Gi {n:Nat}{a:AV}(h:OfT prog (n+2) 76 a): ∃p,a=aV p:=by
 obtain⟨xs,rfl,g⟩:=qN (ts:=[9,3,9]) (by kernel_rfl) h;obtain _|⟨x,_|⟨y,_|⟨z,_|_⟩⟩⟩:=xs<;>simp only[zl,and_false,and_true]at g
 obtain⟨h1,h2,h3⟩:=g;obtain⟨s,rfl,_⟩:=o7 (by kernel_rfl) h1;obtain⟨k,rfl,_⟩:=V4 (k:=.i64) (by kernel_rfl) h2;obtain⟨v,rfl,_⟩:=o7 (by kernel_rfl) h3;exact⟨⟨s,k,v⟩,rfl⟩
theorem Qd {n:Nat}{a:AV}(h:OfT prog (n+2) 179 a): ∃p,a=dJ p:=by
 obtain⟨xs,rfl,g⟩:=qN (ts:=[9,9]) (by kernel_rfl) h;obtain _|⟨x,_|⟨y,_|_⟩⟩:=xs<;>simp only[zl,and_false,and_true]at g
 obtain⟨h1,h2⟩:=g;obtain⟨s,rfl,_⟩:=o7 (by kernel_rfl) h1;obtain⟨v,rfl,_⟩:=o7 (by kernel_rfl) h2;exact⟨⟨s,v⟩,rfl⟩
structure uJ (p:Pkg):Prop where
 name:p.name.length<=reachBytes
 ver:p.ver.length<=reachBytes
 pre:p.pre.length<=reachBytes
 dep:p.dep.length<=reachBytes
 rcm:p.rcm.length<=reachBytes
 con:p.con.length<=reachBytes
 brk:p.brk.length<=reachBytes
 eN:p.eN.length<=reachBytes
theorem AW {n:Nat}{a:AV}(h:OfT prog (n+3) 48 a): ∃p,a=aF p/\p.length<=reachBytes:=by
 obtain⟨ps,rfl,hl⟩:=uO (f:=aV) (e:=76) (by kernel_rfl) (λx=>Gi) h;exact⟨ps,rfl,hl⟩
theorem Jo {n:Nat}{a:AV}(h:OfT prog (n+3) 77 a): ∃p,a=aF p:=by
 obtain⟨ps,rfl,_⟩:=uO (f:=aV) (e:=76) (by kernel_rfl) (λx=>Gi) h;exact⟨ps,rfl⟩
theorem n5 {n:Nat}{a:AV}(h:OfT prog (n+4) 47 a): ∃p,a=aA p/\p.length<=reachBytes:=by
 obtain⟨ps,rfl,hl⟩:=uO (f:=aF) (e:=77) (by kernel_rfl) (λx=>Jo) h;exact⟨ps,rfl,hl⟩
theorem L6 {n:Nat}{a:AV}(h:OfT prog (n+3) 49 a): ∃p,a=cG p/\p.length<=reachBytes:=by
 obtain⟨ps,rfl,hl⟩:=uO (f:=dJ) (e:=179) (by kernel_rfl) (λx=>Qd) h;exact⟨ps,rfl,hl⟩
theorem KT {n:Nat}{a:AV}(h:OfT prog (n+5) 51 a): ∃p,a=ax p/\uJ p:=by
 obtain⟨xs,rfl,g⟩:=qN (ts:=[9,9,47,47,47,48,48,49,4]) (by kernel_rfl) h;obtain _|⟨x1,_|⟨x2,_|⟨x3,_|⟨x4,_|⟨x5,_|⟨x6,_|⟨x7,_|⟨x8,_|⟨x9,_|_⟩⟩⟩⟩⟩⟩⟩⟩⟩:=xs<;>simp only[zl,and_false,and_true]at g
 obtain⟨h1,h2,h3,h4,h5,h6,h7,h8,h9⟩:=g;obtain⟨y1,rfl,l1⟩:=o7 (by kernel_rfl) h1;obtain⟨y2,rfl,l2⟩:=o7 (by kernel_rfl) h2;obtain⟨y3,rfl,l3⟩:=n5 (n:=n) h3;obtain⟨y4,rfl,l4⟩:=n5 (n:=n) h4;obtain⟨y5,rfl,l5⟩:=n5 (n:=n) h5;obtain⟨y6,rfl,l6⟩:=AW (n:=n+1) h6;obtain⟨y7,rfl,l7⟩:=AW (n:=n+1) h7;obtain⟨y8,rfl,l8⟩:=L6 (n:=n+1) h8;obtain⟨y9,rfl⟩:=xS (by kernel_rfl) h9;exact⟨⟨y1,y2,y3,y4,y5,y6,y7,y8,y9⟩,rfl,⟨l1,l2,l3,l4,l5,l6,l7,l8⟩⟩
theorem Td {n:Nat}{a:AV}(h:OfT prog (n+6) 23 a): ∃l,a=aI l/\l.length<=reachBytes/\ ∀p∈l,uJ p:=by
 obtain⟨xs,rfl,hl,hx⟩:=R2 (e:=51) (by kernel_rfl) h;obtain⟨ps,rfl⟩:=all_map (f:=λq:{ p:Pkg // uJ p }=>ax q.1) λx hm=>by
  obtain⟨p,rfl,h1⟩:=KT (hx x hm);exact⟨⟨p,h1⟩,rfl⟩
 refine⟨ps.map (·.1),by simp[aI],by simp_all,λp hp=>?_⟩;grind
end Go.Proofs.Tryz
end
section
namespace Go.Proofs.Tryz
open Go Go.Av
set_option maxRecDepth 10000
variable {W0 :World}
theorem Ra :reachBytes=140737488351232:=by decide
theorem AY {all:List Pkg}(h:jY 0 all=true): ∀p∈all,iM p:=λp hp=>by
 have:=x0 h p hp;exact⟨by omega,by omega,by omega⟩
end Go.Proofs.Tryz
end
