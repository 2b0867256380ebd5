/- What the last text of this claim rests on. No conditions. -/
import Derived.Test.YtbkobngljnnmgaaGreatDoorWaa
import Derived.Test.YtbkobngljnnmgaaGreatDoorWad
import Derived.Test.YtbkobngljnnmgaaGreatDoorWah
import Derived.Test.YtbkobngljnnmgaaGreatDoorWai
import Derived.Test.YtbkobngljnnmgaaGreatDoorWak
import Derived.Test.YtbkobngljnnmgaaGreatDoorWal
import Derived.Test.YtbkobngljnnmgaaGreatDoorWam
import Derived.Test.YtbkobngljnnmgaaGreatDoorWan
import Derived.Test.YtbkobngljnnmgaaGreatDoorWap
set_option linter.unusedSimpArgs false
set_option linter.unusedVariables false
open List renaming getElem?_append_left->ab4
section
namespace Go.Av
section
variable {P :Program}{W0:World}{A:aa}
theorem lB.str {s d e:TypeId}{u:AV}{dst:Option Nat}{k:aa->Prop}{l:List UInt8}(h:elT P s=some e/\fI P e=some .u8/\af P e=1/\bU P d=true)(hr:eG A.st u e (l.map ba))(hk:k ((A.put dst (.str l)).ax A.st)):lB P s d u dst A k .mk:=
 .inr (.inl ⟨l,e,hr,h,hk⟩)
theorem lB.bytes {s d e:TypeId}{dst:Option Nat}{k:aa->Prop}{l:List UInt8}(h:bU P s=true/\elT P d=some e/\fI P e=some .u8/\af P e=1/\cd P e=true)(hk:k ((A.put dst (.row e A.st.length 0 l.length)).ax (A.st++[some (.cells e (l.map ba))]))):lB P s d (.str l) dst A k .mk:=
 .inl ⟨l,e,rfl,h,hk⟩
end
end Go.Av
end
section
namespace Go.Proofs.Tryz
open Go Go.Av
set_option maxRecDepth 10000
variable {W0 :World}
end Go.Proofs.Tryz
end
section
namespace Go.Av
theorem aV.rK {n:Nat}{a b:AV}(h1:aV n a)(h2:aV n b):aV n (.tup [a,b]):=.tup λx hx=>by
 grind
theorem de {a b a' b':AV}(h1:df a a')(h2:df b b'):df (.tup [a,b]) (.tup [a',b']):=.tup rfl λi x y hx hy=>by
 grind
theorem aV.map {α:Type}{n:Nat}{e:TypeId}{f:α->AV}{l:List α}(h: ∀a∈l,aV n (f a)):aV n (.sl e (l.map f)):=.sl λx hx=>by
 grind
theorem Ext.at {σ st:ab}{o:Option bJ}(h:Ext (σ++[o]) st):st[σ.length]?=some o:=by
 rw[h.eq,ab4 (by simp)];simp
theorem Ext.low {σ st:ab}{o:Option bJ}(h:Ext (σ++[o]) st):Ext σ st:=by
 rw[h.eq,List.append_assoc];exact(Ext.refl σ).app _
end Go.Av
end
section
namespace Go.Proofs.Tryz
open Go Go.Av
set_option maxRecDepth 10000
variable {W0 :World}
def Cy (b:List UInt8):AV:=.sl 5 (b.map ba)
theorem Hr (l:List (List UInt8)):unm (GK l)=GK l:=rfl
theorem Cz (P:Program)(t:TypeId)(l:List (List UInt8)):bb P t (GK l)=cd P t:=rfl
theorem Dm (l:List UInt8):unm (Cy l)=Cy l:=rfl
theorem yf (P:Program)(t:TypeId)(l:List UInt8):bb P t (Cy l)=cd P t:=rfl
attribute [go_sem] Hr Cz Dm yf
end Go.Proofs.Tryz
end
section
namespace Go.Av
structure rT (b:Nat)(σ σ':ab):Prop where
 len:σ.length<=σ'.length
 old: ∀j,j<b->σ'[j]?=σ[j]?
theorem rT.refl (b:Nat)(σ:ab):rT b σ σ:=⟨Nat.le_refl _,λ_ _=>rfl⟩
theorem rT.trans {b:Nat}{σ σ' σ'':ab}(h:rT b σ σ')(k:rT b σ' σ''):rT b σ σ'':=⟨Nat.le_trans h.len k.len,λj hj=>(k.old j hj).trans (h.old j hj)⟩
theorem rT.set {b:Nat}{σ σ':ab}(h:rT b σ σ'){i:Nat}(hi:b<=i)(o:Option bJ):rT b σ (σ'.set i o):=⟨by simpa using h.len,λj hj=>by grind [rT.old]⟩
theorem rT.app {b:Nat}{σ σ':ab}(h:rT b σ σ')(l:ab)(hb:b<=σ'.length):rT b σ (σ'++l):=⟨by have:=h.len;grind,λj hj=>by grind [rT.old]⟩
theorem Bld.tok {st:ab}{v:AV}{e:TypeId}{xs:List AV}(h:Bld st v e xs){t:Nat}(ht:t∈aQ v):fC v=some t:=by
 rcases h with⟨rfl,_⟩|rfl|⟨k,rfl,_⟩
 .grind [aQ]
 .grind [aQ]
 .simp[aQ]at ht;rw[ht];rfl
theorem Ext.keep {σ st:ab}{i:Nat}{x:Option bJ}(h:Ext σ st)(hi:σ[i]?=some x):st[i]?=some x:=by
 rw[h.eq,ab4 (List.getElem?_eq_some_iff.1 hi).1,hi]
end Go.Av
end
section
namespace Go.Proofs.Tryz
open Go Go.Av
set_option maxRecDepth 10000
variable {W0 :World}
end Go.Proofs.Tryz
end
section
namespace Go.Av
theorem dT.app {σ:ab}{v:AV}{e:TypeId}{xs:List AV}(h:dT σ v e xs)(l:ab):dT (σ++l) v e xs:=by
 rcases h with h|h|⟨id,off,m,zs,h1,h2,h3⟩
 .exact .inl h
 .exact .inr (.inl h)
 .exact .inr (.inr ⟨id,off,m,zs,h1,by grind,h3⟩)
end Go.Av
end
section
namespace Go.Proofs.Tryz
open Go Go.Av
set_option maxRecDepth 10000
variable {W0 :World}
end Go.Proofs.Tryz
end
section
namespace Go.Av
theorem lM.trans {P:Program}{A B C:aa}(h:lM P A B):lM P B C->lM P A C:=by
 induction h with
 |refl D=>simp_all
 |row d h1 h2 h3 _ ih=>exact λk=>.row d h1 h2 h3 (ih k)
 |cell id0 i path h1 h2 h3 h4 h5 h6 h7 _ ih=>exact λk=>.cell id0 i path h1 h2 h3 h4 h5 h6 h7 (ih k)
 |Kw id0 i path h1 h2 h3 h4 h5 h6 _ ih=>exact λk=>.Kw id0 i path h1 h2 h3 h4 h5 h6 (ih k)
 |pt d h1 h2 _ ih=>exact λk=>.pt d h1 h2 (ih k)
 |bT id0 i h1 h2 h3 _ ih=>exact λk=>.bT id0 i h1 h2 h3 (ih k)
end Go.Av
end
section
namespace Go.Proofs.Tryz
open Go Go.Av
set_option maxRecDepth 10000
variable {W0 :World}
structure WS (st:ab)(n0 was from':Nat)(v:AV)(l:List (List UInt8)):Prop where
 out:st[n0]?=some (some (.cells 73 [v]))
 frm:st[n0+1]?=some (some (.cells 3 [.int .i64 from']))
 was:st[n0+2]?=some (some (.cells 3 [.int .i64 was]))
 bld:Bld st v 9 (l.map .str)
end Go.Proofs.Tryz
end
section
namespace Go.Av
def lO (c:Clause):Bool:=decide (c.length≠0)&&decide (c.length<=6)&&c.all cr
theorem kJ {c:Clause}(h:lO c=true):c.length<=6:=by
 grind [lO]
end Go.Av
end
section
namespace Go.Proofs.Tryz
open Go Go.Av
set_option maxRecDepth 10000
variable {W0 :World}
end Go.Proofs.Tryz
end
