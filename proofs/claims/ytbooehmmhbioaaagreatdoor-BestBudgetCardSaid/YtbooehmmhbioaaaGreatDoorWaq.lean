/- Texts that the last one of this claim rests on: a layer over the guide's own conditions for code; contracts of the functions that the law reaches, one by one. No conditions beside those of the given rows. -/
import Derived.Test.YtbooehmmhbioaaaGreatDoorWaa
import Derived.Test.YtbooehmmhbioaaaGreatDoorWad
import Derived.Test.YtbooehmmhbioaaaGreatDoorWah
import Derived.Test.YtbooehmmhbioaaaGreatDoorWai
import Derived.Test.YtbooehmmhbioaaaGreatDoorWak
import Derived.Test.YtbooehmmhbioaaaGreatDoorWal
import Derived.Test.YtbooehmmhbioaaaGreatDoorWam
import Derived.Test.YtbooehmmhbioaaaGreatDoorWan
import Derived.Test.YtbooehmmhbioaaaGreatDoorWap
set_option linter.unusedSimpArgs false
set_option linter.unusedVariables false
section
namespace Go.Av
theorem aS.xr {n:Nat}{a b:AV}(h1:aS n a)(h2:aS n b):aS n (.tup [a,b]):=.tup λx hx=>by
 rcases List.mem_cons.1 hx with rfl|hx
 ·exact h1
 ·rw[List.mem_singleton.1 hx];exact h2
theorem iW {a b a' b':AV}(h1:cT a a')(h2:cT b b'):cT (.tup [a,b]) (.tup [a',b']):=.tup rfl λi x y hx hy=>by
 match i,hx,hy with
 |0,hx,hy=>cases hx;cases hy;exact h1
 |1,hx,hy=>cases hx;cases hy;exact h2
theorem aS.map {α:Type}{n:Nat}{e:TypeId}{f:α→AV}{l:List α}(h: ∀a∈l,aS n (f a)):aS n (.sl e (l.map f)):=.sl λx hx=>by
 obtain⟨a,ha,rfl⟩:=List.mem_map.1 hx
 exact h a ha
theorem Ext.at {σ st:ab}{o:Option cV}(h:Ext (σ++[o]) st):st[σ.length]?=some o:=by
 rw[h.eq,List.getElem?_append_left (by simp)]
 simp
theorem Ext.low {σ st:ab}{o:Option cV}(h:Ext (σ++[o]) st):Ext σ st:=by
 rw[h.eq,List.append_assoc]
 exact(Ext.refl σ).app _
end Go.Av
namespace Go.Proofs.Tryz
open Go Go.Av
set_option maxRecDepth 10000
variable {W0 :World}
def wQ (b:List UInt8):AV:=.sl 5 (b.map nJ)
@[go_sem] theorem MR (l:List (List UInt8)):unm (BH l)=BH l:=rfl
@[go_sem] theorem IK (P:Program)(t:TypeId)(l:List (List UInt8)):bn P t (BH l)=cD P t:=rfl
@[go_sem] theorem Md (l:List UInt8):unm (wQ l)=wQ l:=rfl
@[go_sem] theorem H3 (P:Program)(t:TypeId)(l:List UInt8):bn P t (wQ l)=cD P t:=rfl
end Go.Proofs.Tryz
end
section
namespace Go.Av
structure rD (b:Nat)(σ σ':ab):Prop where
 len:σ.length≤σ'.length
 old: ∀j,j<b→σ'[j]?=σ[j]?
theorem rD.refl (b:Nat)(σ:ab):rD b σ σ:=⟨Nat.le_refl _,λ_ _=>rfl⟩
theorem rD.trans {b:Nat}{σ σ' σ'':ab}(h:rD b σ σ')(k:rD b σ' σ''):rD b σ σ'':=⟨Nat.le_trans h.len k.len,λj hj=>(k.old j hj).trans (h.old j hj)⟩
theorem rD.set {b:Nat}{σ σ':ab}(h:rD b σ σ'){i:Nat}(hi:b≤i)(o:Option cV):rD b σ (σ'.set i o):=⟨by simpa using h.len,λj hj=>by rw[List.getElem?_set_ne (by omega)];exact h.old j hj⟩
theorem rD.app {b:Nat}{σ σ':ab}(h:rD b σ σ')(l:ab)(hb:b≤σ'.length):rD b σ (σ'++l):=⟨by have:=h.len;simp;omega,λj hj=>by rw[List.getElem?_append_left (by omega)];exact h.old j hj⟩
theorem Bld.tok {st:ab}{v:AV}{e:TypeId}{xs:List AV}(h:Bld st v e xs){t:Nat}(ht:t∈bf v):eR v=some t:=by
 rcases h with⟨rfl,_⟩|rfl|⟨k,rfl,_⟩
 ·simp[bf]at ht
 ·simp[bf]at ht
 ·simp[bf]at ht
  rw[ht];rfl
theorem Ext.ey {σ st:ab}{i:Nat}{x:Option cV}(h:Ext σ st)(hi:σ[i]?=some x):st[i]?=some x:=by
 rw[h.eq,List.getElem?_append_left (List.getElem?_eq_some_iff.1 hi).1,hi]
end Go.Av
namespace Go.Proofs.Tryz
open Go Go.Av
set_option maxRecDepth 10000
variable {W0 :World}
end Go.Proofs.Tryz
end
section
namespace Go.Av
theorem dh.app {σ:ab}{v:AV}{e:TypeId}{xs:List AV}(h:dh σ v e xs)(l:ab):dh (σ++l) v e xs:=by
 rcases h with h|h|⟨id,off,m,zs,h1,h2,h3⟩
 ·exact .inl h
 ·exact .inr (.inl h)
 ·exact .inr (.inr ⟨id,off,m,zs,h1,by rw[List.getElem?_append_left ((List.getElem?_eq_some_iff.1 h2).1)];exact h2,h3⟩)
end Go.Av
namespace Go.Proofs.Tryz
open Go Go.Av
set_option maxRecDepth 10000
variable {W0 :World}
end Go.Proofs.Tryz
end
section
namespace Go.Av
theorem kD.trans {P:Program}{A B C:aa}(h:kD P A B):kD P B C→kD P A C:=by
 induction h with
 |refl D=>exact λk=>k
 |row d h1 h2 h3 _ ih=>exact λk=>.row d h1 h2 h3 (ih k)
 |cell id0 i path h1 h2 h3 h4 h5 h6 h7 _ ih=>exact λk=>.cell id0 i path h1 h2 h3 h4 h5 h6 h7 (ih k)
 |Cm id0 i path h1 h2 h3 h4 h5 h6 _ ih=>exact λk=>.Cm id0 i path h1 h2 h3 h4 h5 h6 (ih k)
 |pt d h1 h2 _ ih=>exact λk=>.pt d h1 h2 (ih k)
 |cG id0 i h1 h2 h3 _ ih=>exact λk=>.cG id0 i h1 h2 h3 (ih k)
end Go.Av
namespace Go.Proofs.Tryz
open Go Go.Av
set_option maxRecDepth 10000
variable {W0 :World}
end Go.Proofs.Tryz
end
section
namespace Go.Proofs.Tryz
open Go Go.Av
set_option maxRecDepth 10000
variable {W0 :World}
structure WS (st:ab)(n0 was from':Nat)(v:AV)(l:List (List UInt8)):Prop where
 out:st[n0]?=some (some (.cells 58 [v]))
 frm:st[n0+1]?=some (some (.cells 3 [.int .i64 from']))
 was:st[n0+2]?=some (some (.cells 3 [.int .i64 was]))
 bld:Bld st v 9 (l.map .str)
end Go.Proofs.Tryz
end
section
namespace Go.Av
def j2 (c:Clause):Bool:=decide (c.length≠0)&&decide (c.length≤6)&&c.all bX
theorem jt {c:Clause}(h:j2 c=true):c.length≤6:=by
 unfold j2 at h
 simp only[Bool.and_eq_true,decide_eq_true_eq]at h
 exact h.1.2
end Go.Av
namespace Go.Proofs.Tryz
open Go Go.Av
set_option maxRecDepth 10000
variable {W0 :World}
end Go.Proofs.Tryz
end
