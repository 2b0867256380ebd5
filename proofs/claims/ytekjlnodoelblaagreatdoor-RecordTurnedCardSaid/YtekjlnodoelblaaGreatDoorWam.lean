/- Texts that the last one of this claim rests on: a layer over the guide's own conditions for code; contracts of the functions that the law reaches, one by one. No conditions beside those of the given rows. -/
import Derived.Test.YtekjlnodoelblaaGreatDoorWah
import Derived.Test.YtekjlnodoelblaaGreatDoorWal
set_option linter.unusedSimpArgs false
set_option linter.unusedVariables false
section
namespace Go.Proofs.Tryz
open Go Go.Av
set_option maxRecDepth 10000

theorem ofT_atom {n : Nat} {a : AV} (h : OfT prog (n + 2) 100 a) : ∃ p,a = atomAV p:=by
 obtain ⟨xs,rfl,g⟩:=ofT_flds (ts:=[9,3,9]) (by kernel_rfl) h
 obtain _ | ⟨x,_ | ⟨y,_ | ⟨z,_ | _⟩⟩⟩:=xs <;> simp only [AllT,and_false,and_true] at g
 obtain ⟨h1,h2,h3⟩:=g
 obtain ⟨s,rfl,_⟩:=ofT_str (by kernel_rfl) h1
 obtain ⟨k,rfl,_⟩:=ofT_int (k:=.i64) (by kernel_rfl) h2
 obtain ⟨v,rfl,_⟩:=ofT_str (by kernel_rfl) h3
 exact ⟨⟨s,k,v⟩,rfl⟩
theorem ofT_prov {n : Nat} {a : AV} (h : OfT prog (n + 2) 102 a) : ∃ p,a = provAV p:=by
 obtain ⟨xs,rfl,g⟩:=ofT_flds (ts:=[9,9]) (by kernel_rfl) h
 obtain _ | ⟨x,_ | ⟨y,_ | _⟩⟩:=xs <;> simp only [AllT,and_false,and_true] at g
 obtain ⟨h1,h2⟩:=g
 obtain ⟨s,rfl,_⟩:=ofT_str (by kernel_rfl) h1
 obtain ⟨v,rfl,_⟩:=ofT_str (by kernel_rfl) h2
 exact ⟨⟨s,v⟩,rfl⟩
structure PkgR (p : Pkg) : Prop where
 name : p.name.length ≤ reachBytes
 ver : p.ver.length ≤ reachBytes
 pre : p.pre.length ≤ reachBytes
 dep : p.dep.length ≤ reachBytes
 rcm : p.rcm.length ≤ reachBytes
 con : p.con.length ≤ reachBytes
 brk : p.brk.length ≤ reachBytes
 prov : p.prov.length ≤ reachBytes
theorem ofT_atoms {n : Nat} {a : AV} (h : OfT prog (n + 3) 30 a) : ∃ p,a = atomsAV p ∧ p.length ≤ reachBytes:=by
 obtain ⟨ps,rfl,hl⟩:=ofT_map (f:=atomAV) (e:=100) (by kernel_rfl) (fun x=>ofT_atom) h
 exact ⟨ps,rfl,hl⟩
theorem ofT_clause {n : Nat} {a : AV} (h : OfT prog (n + 3) 85 a) : ∃ p,a = atomsAV p:=by
 obtain ⟨ps,rfl,_⟩:=ofT_map (f:=atomAV) (e:=100) (by kernel_rfl) (fun x=>ofT_atom) h
 exact ⟨ps,rfl⟩
theorem ofT_clauses {n : Nat} {a : AV} (h : OfT prog (n + 4) 29 a) : ∃ p,a = clausesAV p ∧ p.length ≤ reachBytes:=by
 obtain ⟨ps,rfl,hl⟩:=ofT_map (f:=atomsAV) (e:=85) (by kernel_rfl) (fun x=>ofT_clause) h
 exact ⟨ps,rfl,hl⟩
theorem ofT_provs {n : Nat} {a : AV} (h : OfT prog (n + 3) 31 a) : ∃ p,a = provsAV p ∧ p.length ≤ reachBytes:=by
 obtain ⟨ps,rfl,hl⟩:=ofT_map (f:=provAV) (e:=102) (by kernel_rfl) (fun x=>ofT_prov) h
 exact ⟨ps,rfl,hl⟩
theorem ofT_pkg {n : Nat} {a : AV} (h : OfT prog (n + 5) 33 a) : ∃ p,a = pkgAV p ∧ PkgR p:=by
 obtain ⟨xs,rfl,g⟩:=ofT_flds (ts:=[9,9,29,29,29,30,30,31,4]) (by kernel_rfl) h
 obtain _ | ⟨x1,_ | ⟨x2,_ | ⟨x3,_ | ⟨x4,_ | ⟨x5,_ | ⟨x6,_ | ⟨x7,_ | ⟨x8,_ | ⟨x9,_ | _⟩⟩⟩⟩⟩⟩⟩⟩⟩:=xs <;> simp only [AllT,and_false,and_true] at g
 obtain ⟨h1,h2,h3,h4,h5,h6,h7,h8,h9⟩:=g
 obtain ⟨y1,rfl,l1⟩:=ofT_str (by kernel_rfl) h1
 obtain ⟨y2,rfl,l2⟩:=ofT_str (by kernel_rfl) h2
 obtain ⟨y3,rfl,l3⟩:=ofT_clauses (n:=n) h3
 obtain ⟨y4,rfl,l4⟩:=ofT_clauses (n:=n) h4
 obtain ⟨y5,rfl,l5⟩:=ofT_clauses (n:=n) h5
 obtain ⟨y6,rfl,l6⟩:=ofT_atoms (n:=n + 1) h6
 obtain ⟨y7,rfl,l7⟩:=ofT_atoms (n:=n + 1) h7
 obtain ⟨y8,rfl,l8⟩:=ofT_provs (n:=n + 1) h8
 obtain ⟨y9,rfl⟩:=ofT_bool (by kernel_rfl) h9
 exact ⟨⟨y1,y2,y3,y4,y5,y6,y7,y8,y9⟩,rfl,⟨l1,l2,l3,l4,l5,l6,l7,l8⟩⟩
end Go.Proofs.Tryz
end
