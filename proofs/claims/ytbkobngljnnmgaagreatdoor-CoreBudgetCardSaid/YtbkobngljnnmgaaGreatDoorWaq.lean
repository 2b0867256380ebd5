/- Texts that the last one of this claim rests on: a layer over the guide's own conditions for code; contracts of the functions that the law reaches, one by one. No conditions beside those of the given rows. -/
import Derived.Test.YtbkobngljnnmgaaGreatDoorWaa
import Derived.Test.YtbkobngljnnmgaaGreatDoorWad
import Derived.Test.YtbkobngljnnmgaaGreatDoorWah
import Derived.Test.YtbkobngljnnmgaaGreatDoorWai
import Derived.Test.YtbkobngljnnmgaaGreatDoorWak
import Derived.Test.YtbkobngljnnmgaaGreatDoorWal
import Derived.Test.YtbkobngljnnmgaaGreatDoorWam
import Derived.Test.YtbkobngljnnmgaaGreatDoorWan
import Derived.Test.YtbkobngljnnmgaaGreatDoorWap
set_option linter.unusedSimpArgs false
set_option linter.unusedVariables false
open List renaming getElem?_append_left->acO
section
namespace Go.Av
section
variable {P :Program}{W0:World}{A:aa}
theorem lG.str {s d e:TypeId}{u:AV}{dst:Option Nat}{k:aa->Prop}{l:List UInt8}(h:elT P s=some e/\fD P e=some .u8/\af P e=1/\bV P d=true)(hr:eF A.st u e (l.map ba))(hk:k ((A.put dst (.str l)).ax A.st)):lG P s d u dst A k .mk:=
 .inr (.inl ⟨l,e,hr,h,hk⟩)
theorem lG.bytes {s d e:TypeId}{dst:Option Nat}{k:aa->Prop}{l:List UInt8}(h:bV P s=true/\elT P d=some e/\fD P e=some .u8/\af P e=1/\cg P e=true)(hk:k ((A.put dst (.row e A.st.length 0 l.length)).ax (A.st++[some (.cells e (l.map ba))]))):lG P s d (.str l) dst A k .mk:=
 .inl ⟨l,e,rfl,h,hk⟩
end
end Go.Av
end
section
namespace Go.Proofs.Tryz
open Go Go.Av
set_option maxRecDepth 10000
variable {W0 :World}
end Go.Proofs.Tryz
end
section
namespace Go.Av
theorem aU.rW {n:Nat}{a b:AV}(h1:aU n a)(h2:aU n b):aU n (.tup [a,b]):=.tup λx hx=>by
 grind
theorem de {a b a' b':AV}(h1:dc a a')(h2:dc b b'):dc (.tup [a,b]) (.tup [a',b']):=.tup rfl λi x y hx hy=>by
 grind
theorem aU.map {α:Type}{n:Nat}{e:TypeId}{f:α->AV}{l:List α}(h: ∀a∈l,aU n (f a)):aU n (.sl e (l.map f)):=.sl λx hx=>by
 grind
theorem Ext.at {σ st:ab}{o:Option bK}(h:Ext (σ++[o]) st):st[σ.length]?=some o:=by
 rw[h.eq,acO (by simp)];simp
theorem Ext.low {σ st:ab}{o:Option bK}(h:Ext (σ++[o]) st):Ext σ st:=by
 rw[h.eq,List.append_assoc];exact(Ext.refl σ).app _
end Go.Av
end
section
namespace Go.Proofs.Tryz
open Go Go.Av
set_option maxRecDepth 10000
variable {W0 :World}
def zR (b:List UInt8):AV:=.sl 5 (b.map ba)
@[go_sem] theorem Tc (l:List (List UInt8)):unm (Ep l)=Ep l:=rfl
@[go_sem] theorem OY (P:Program)(t:TypeId)(l:List (List UInt8)):bb P t (Ep l)=cg P t:=rfl
@[go_sem] theorem QB (l:List UInt8):unm (zR l)=zR l:=rfl
@[go_sem] theorem ML (P:Program)(t:TypeId)(l:List UInt8):bb P t (zR l)=cg P t:=rfl
end Go.Proofs.Tryz
end
section
namespace Go.Av
structure rz (b:Nat)(σ σ':ab):Prop where
 len:σ.length<=σ'.length
 old: ∀j,j<b->σ'[j]?=σ[j]?
theorem rz.refl (b:Nat)(σ:ab):rz b σ σ:=⟨Nat.le_refl _,λ_ _=>rfl⟩
theorem rz.trans {b:Nat}{σ σ' σ'':ab}(h:rz b σ σ')(k:rz b σ' σ''):rz b σ σ'':=⟨Nat.le_trans h.len k.len,λj hj=>(k.old j hj).trans (h.old j hj)⟩
theorem rz.set {b:Nat}{σ σ':ab}(h:rz b σ σ'){i:Nat}(hi:b<=i)(o:Option bK):rz b σ (σ'.set i o):=⟨by simpa using h.len,λj hj=>by grind [rz.old]⟩
theorem rz.app {b:Nat}{σ σ':ab}(h:rz b σ σ')(l:ab)(hb:b<=σ'.length):rz b σ (σ'++l):=⟨by have:=h.len;grind,λj hj=>by grind [rz.old]⟩
theorem Bld.tok {st:ab}{v:AV}{e:TypeId}{xs:List AV}(h:Bld st v e xs){t:Nat}(ht:t∈aN v):fA v=some t:=by
 rcases h with⟨rfl,_⟩|rfl|⟨k,rfl,_⟩
 .grind [aN]
 .grind [aN]
 .simp[aN]at ht;rw[ht];rfl
theorem Ext.keep {σ st:ab}{i:Nat}{x:Option bK}(h:Ext σ st)(hi:σ[i]?=some x):st[i]?=some x:=by
 rw[h.eq,acO (List.getElem?_eq_some_iff.1 hi).1,hi]
end Go.Av
end
section
namespace Go.Proofs.Tryz
open Go Go.Av
set_option maxRecDepth 10000
variable {W0 :World}
end Go.Proofs.Tryz
end
section
namespace Go.Av
theorem dS.app {σ:ab}{v:AV}{e:TypeId}{xs:List AV}(h:dS σ v e xs)(l:ab):dS (σ++l) v e xs:=by
 rcases h with h|h|⟨id,off,m,zs,h1,h2,h3⟩
 .exact .inl h
 .exact .inr (.inl h)
 .exact .inr (.inr ⟨id,off,m,zs,h1,by grind,h3⟩)
end Go.Av
end
section
namespace Go.Proofs.Tryz
open Go Go.Av
set_option maxRecDepth 10000
variable {W0 :World}
end Go.Proofs.Tryz
end
section
namespace Go.Av
theorem mL.trans {P:Program}{A B C:aa}(h:mL P A B):mL P B C->mL P A C:=by
 induction h with
 |refl D=>simp_all
 |row d h1 h2 h3 _ ih=>exact λk=>.row d h1 h2 h3 (ih k)
 |cell id0 i path h1 h2 h3 h4 h5 h6 h7 _ ih=>exact λk=>.cell id0 i path h1 h2 h3 h4 h5 h6 h7 (ih k)
 |GM id0 i path h1 h2 h3 h4 h5 h6 _ ih=>exact λk=>.GM id0 i path h1 h2 h3 h4 h5 h6 (ih k)
 |pt d h1 h2 _ ih=>exact λk=>.pt d h1 h2 (ih k)
 |cb id0 i h1 h2 h3 _ ih=>exact λk=>.cb id0 i h1 h2 h3 (ih k)
end Go.Av
end
section
namespace Go.Proofs.Tryz
open Go Go.Av
set_option maxRecDepth 10000
variable {W0 :World}
structure WS (st:ab)(n0 was from':Nat)(v:AV)(l:List (List UInt8)):Prop where
 out:st[n0]?=some (some (.cells 73 [v]))
 frm:st[n0+1]?=some (some (.cells 3 [.int .i64 from']))
 was:st[n0+2]?=some (some (.cells 3 [.int .i64 was]))
 bld:Bld st v 9 (l.map .str)
end Go.Proofs.Tryz
end
section
namespace Go.Av
def lO (c:Clause):Bool:=decide (c.length≠0)&&decide (c.length<=6)&&c.all cu
theorem ku {c:Clause}(h:lO c=true):c.length<=6:=by
 grind [lO]
end Go.Av
end
section
namespace Go.Proofs.Tryz
open Go Go.Av
set_option maxRecDepth 10000
variable {W0 :World}
end Go.Proofs.Tryz
end
