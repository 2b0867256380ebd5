/- Texts that the last one of this claim rests on: a layer over the guide's own conditions for code; contracts of the functions that the law reaches, one by one. No conditions beside those of the given rows. -/
import Derived.Test.YtbooehmmhbioaaaGreatDoorWaa
import Derived.Test.YtbooehmmhbioaaaGreatDoorWad
import Derived.Test.YtbooehmmhbioaaaGreatDoorWah
import Derived.Test.YtbooehmmhbioaaaGreatDoorWai
import Derived.Test.YtbooehmmhbioaaaGreatDoorWak
import Derived.Test.YtbooehmmhbioaaaGreatDoorWal
import Derived.Test.YtbooehmmhbioaaaGreatDoorWam
import Derived.Test.YtbooehmmhbioaaaGreatDoorWan
import Derived.Test.YtbooehmmhbioaaaGreatDoorWap
set_option linter.unusedSimpArgs false
set_option linter.unusedVariables false
section
namespace Go.Av
theorem aU.xD {n:Nat}{a b:AV}(h1:aU n a)(h2:aU n b):aU n (.tup [a,b]):=.tup λx hx=>by
 rcases List.mem_cons.1 hx with rfl|hx
 ·exact h1
 ·rw[List.mem_singleton.1 hx];exact h2
theorem iS {a b a' b':AV}(h1:cR a a')(h2:cR b b'):cR (.tup [a,b]) (.tup [a',b']):=.tup rfl λi x y hx hy=>by
 match i,hx,hy with
 |0,hx,hy=>cases hx;cases hy;exact h1
 |1,hx,hy=>cases hx;cases hy;exact h2
theorem aU.map {α:Type}{n:Nat}{e:TypeId}{f:α→AV}{l:List α}(h: ∀a∈l,aU n (f a)):aU n (.sl e (l.map f)):=.sl λx hx=>by
 obtain⟨a,ha,rfl⟩:=List.mem_map.1 hx
 exact h a ha
theorem Ext.at {σ st:ab}{o:Option cX}(h:Ext (σ++[o]) st):st[σ.length]?=some o:=by
 rw[h.eq,List.getElem?_append_left (by simp)]
 simp
theorem Ext.low {σ st:ab}{o:Option cX}(h:Ext (σ++[o]) st):Ext σ st:=by
 rw[h.eq,List.append_assoc]
 exact(Ext.refl σ).app _
end Go.Av
namespace Go.Proofs.Tryz
open Go Go.Av
set_option maxRecDepth 10000
variable {W0 :World}
def wK (b:List UInt8):AV:=.sl 5 (b.map nM)
@[go_sem] theorem MI (l:List (List UInt8)):unm (AT l)=AT l:=rfl
@[go_sem] theorem KR (P:Program)(t:TypeId)(l:List (List UInt8)):bq P t (AT l)=cD P t:=rfl
@[go_sem] theorem Lq (l:List UInt8):unm (wK l)=wK l:=rfl
@[go_sem] theorem Ii (P:Program)(t:TypeId)(l:List UInt8):bq P t (wK l)=cD P t:=rfl
end Go.Proofs.Tryz
end
section
namespace Go.Av
structure rB (b:Nat)(σ σ':ab):Prop where
 len:σ.length≤σ'.length
 old: ∀j,j<b→σ'[j]?=σ[j]?
theorem rB.refl (b:Nat)(σ:ab):rB b σ σ:=⟨Nat.le_refl _,λ_ _=>rfl⟩
theorem rB.trans {b:Nat}{σ σ' σ'':ab}(h:rB b σ σ')(k:rB b σ' σ''):rB b σ σ'':=⟨Nat.le_trans h.len k.len,λj hj=>(k.old j hj).trans (h.old j hj)⟩
theorem rB.set {b:Nat}{σ σ':ab}(h:rB b σ σ'){i:Nat}(hi:b≤i)(o:Option cX):rB b σ (σ'.set i o):=⟨by simpa using h.len,λj hj=>by rw[List.getElem?_set_ne (by omega)];exact h.old j hj⟩
theorem rB.app {b:Nat}{σ σ':ab}(h:rB b σ σ')(l:ab)(hb:b≤σ'.length):rB b σ (σ'++l):=⟨by have:=h.len;simp;omega,λj hj=>by rw[List.getElem?_append_left (by omega)];exact h.old j hj⟩
theorem Bld.tok {st:ab}{v:AV}{e:TypeId}{xs:List AV}(h:Bld st v e xs){t:Nat}(ht:t∈bc v):eW v=some t:=by
 rcases h with⟨rfl,_⟩|rfl|⟨k,rfl,_⟩
 ·simp[bc]at ht
 ·simp[bc]at ht
 ·simp[bc]at ht
  rw[ht];rfl
theorem Ext.eC {σ st:ab}{i:Nat}{x:Option cX}(h:Ext σ st)(hi:σ[i]?=some x):st[i]?=some x:=by
 rw[h.eq,List.getElem?_append_left (List.getElem?_eq_some_iff.1 hi).1,hi]
end Go.Av
namespace Go.Proofs.Tryz
open Go Go.Av
set_option maxRecDepth 10000
variable {W0 :World}
end Go.Proofs.Tryz
end
section
namespace Go.Av
theorem di.app {σ:ab}{v:AV}{e:TypeId}{xs:List AV}(h:di σ v e xs)(l:ab):di (σ++l) v e xs:=by
 rcases h with h|h|⟨id,off,m,zs,h1,h2,h3⟩
 ·exact .inl h
 ·exact .inr (.inl h)
 ·exact .inr (.inr ⟨id,off,m,zs,h1,by rw[List.getElem?_append_left ((List.getElem?_eq_some_iff.1 h2).1)];exact h2,h3⟩)
end Go.Av
namespace Go.Proofs.Tryz
open Go Go.Av
set_option maxRecDepth 10000
variable {W0 :World}
end Go.Proofs.Tryz
end
section
namespace Go.Av
theorem kZ.trans {P:Program}{A B C:aa}(h:kZ P A B):kZ P B C→kZ P A C:=by
 induction h with
 |refl D=>exact λk=>k
 |row d h1 h2 h3 _ ih=>exact λk=>.row d h1 h2 h3 (ih k)
 |cell id0 i path h1 h2 h3 h4 h5 h6 h7 _ ih=>exact λk=>.cell id0 i path h1 h2 h3 h4 h5 h6 h7 (ih k)
 |CW id0 i path h1 h2 h3 h4 h5 h6 _ ih=>exact λk=>.CW id0 i path h1 h2 h3 h4 h5 h6 (ih k)
 |pt d h1 h2 _ ih=>exact λk=>.pt d h1 h2 (ih k)
 |bZ id0 i h1 h2 h3 _ ih=>exact λk=>.bZ id0 i h1 h2 h3 (ih k)
end Go.Av
namespace Go.Proofs.Tryz
open Go Go.Av
set_option maxRecDepth 10000
variable {W0 :World}
end Go.Proofs.Tryz
end
section
namespace Go.Proofs.Tryz
open Go Go.Av
set_option maxRecDepth 10000
variable {W0 :World}
structure WS (st:ab)(n0 was from':Nat)(v:AV)(l:List (List UInt8)):Prop where
 out:st[n0]?=some (some (.cells 58 [v]))
 frm:st[n0+1]?=some (some (.cells 3 [.int .i64 from']))
 was:st[n0+2]?=some (some (.cells 3 [.int .i64 was]))
 bld:Bld st v 9 (l.map .str)
end Go.Proofs.Tryz
end
section
namespace Go.Av
def j5 (c:Clause):Bool:=decide (c.length≠0)&&decide (c.length≤6)&&c.all bT
theorem ju {c:Clause}(h:j5 c=true):c.length≤6:=by
 unfold j5 at h
 simp only[Bool.and_eq_true,decide_eq_true_eq]at h
 exact h.1.2
end Go.Av
namespace Go.Proofs.Tryz
open Go Go.Av
set_option maxRecDepth 10000
variable {W0 :World}
end Go.Proofs.Tryz
end
