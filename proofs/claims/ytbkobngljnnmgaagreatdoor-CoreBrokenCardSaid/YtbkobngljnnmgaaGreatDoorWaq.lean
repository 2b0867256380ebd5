/- What the last text of this claim rests on. No conditions. -/
import Derived.Test.YtbkobngljnnmgaaGreatDoorWaa
import Derived.Test.YtbkobngljnnmgaaGreatDoorWad
import Derived.Test.YtbkobngljnnmgaaGreatDoorWah
import Derived.Test.YtbkobngljnnmgaaGreatDoorWai
import Derived.Test.YtbkobngljnnmgaaGreatDoorWak
import Derived.Test.YtbkobngljnnmgaaGreatDoorWal
import Derived.Test.YtbkobngljnnmgaaGreatDoorWam
import Derived.Test.YtbkobngljnnmgaaGreatDoorWan
import Derived.Test.YtbkobngljnnmgaaGreatDoorWap
set_option linter.unusedSimpArgs false
set_option linter.unusedVariables false
open List renaming getElem?_append_left->acf
section
namespace Go.Av
section
variable {P :Program}{W0:World}{A:aa}
theorem lK.str {s d e:TypeId}{u:AV}{dst:Option Nat}{k:aa->Prop}{l:List UInt8}(h:elT P s=some e/\fV P e=some .u8/\af P e=1/\bU P d=true)(hr:eP A.st u e (l.map ba))(hk:k ((A.put dst (.str l)).ax A.st)):lK P s d u dst A k .mk:=
 .inr (.inl ⟨l,e,hr,h,hk⟩)
theorem lK.bytes {s d e:TypeId}{dst:Option Nat}{k:aa->Prop}{l:List UInt8}(h:bU P s=true/\elT P d=some e/\fV P e=some .u8/\af P e=1/\cd P e=true)(hk:k ((A.put dst (.row e A.st.length 0 l.length)).ax (A.st++[some (.cells e (l.map ba))]))):lK P s d (.str l) dst A k .mk:=
 .inl ⟨l,e,rfl,h,hk⟩
end
end Go.Av
end
section
namespace Go.Proofs.Tryz
open Go Go.Av
set_option maxRecDepth 10000
variable {W0 :World}
end Go.Proofs.Tryz
end
section
namespace Go.Av
theorem aW.qT {n:Nat}{a b:AV}(h1:aW n a)(h2:aW n b):aW n (.tup [a,b]):=.tup λx hx=>by
 grind
theorem dh {a b a' b':AV}(h1:dj a a')(h2:dj b b'):dj (.tup [a,b]) (.tup [a',b']):=.tup rfl λi x y hx hy=>by
 grind
theorem aW.map {α:Type}{n:Nat}{e:TypeId}{f:α->AV}{l:List α}(h: ∀a∈l,aW n (f a)):aW n (.sl e (l.map f)):=.sl λx hx=>by
 grind
theorem Ext.at {σ st:ab}{o:Option bH}(h:Ext (σ++[o]) st):st[σ.length]?=some o:=by
 rw[h.eq,acf (by simp)];simp
theorem Ext.low {σ st:ab}{o:Option bH}(h:Ext (σ++[o]) st):Ext σ st:=by
 rw[h.eq,List.append_assoc];exact(Ext.refl σ).app _
end Go.Av
end
section
namespace Go.Proofs.Tryz
open Go Go.Av
set_option maxRecDepth 10000
variable {W0 :World}
def BQ (b:List UInt8):AV:=.sl 5 (b.map ba)
theorem Ie (l:List (List UInt8)):unm (HB l)=HB l:=rfl
theorem Dh (P:Program)(t:TypeId)(l:List (List UInt8)):bb P t (HB l)=cd P t:=rfl
theorem FD (l:List UInt8):unm (BQ l)=BQ l:=rfl
theorem yC (P:Program)(t:TypeId)(l:List UInt8):bb P t (BQ l)=cd P t:=rfl
attribute [go_sem] Ie Dh FD yC
end Go.Proofs.Tryz
end
section
namespace Go.Av
structure ry (b:Nat)(σ σ':ab):Prop where
 len:σ.length<=σ'.length
 old: ∀j,j<b->σ'[j]?=σ[j]?
theorem ry.refl (b:Nat)(σ:ab):ry b σ σ:=⟨Nat.le_refl _,λ_ _=>rfl⟩
theorem ry.trans {b:Nat}{σ σ' σ'':ab}(h:ry b σ σ')(k:ry b σ' σ''):ry b σ σ'':=⟨Nat.le_trans h.len k.len,λj hj=>(k.old j hj).trans (h.old j hj)⟩
theorem ry.set {b:Nat}{σ σ':ab}(h:ry b σ σ'){i:Nat}(hi:b<=i)(o:Option bH):ry b σ (σ'.set i o):=⟨by simpa using h.len,λj hj=>by grind [ry.old]⟩
theorem ry.app {b:Nat}{σ σ':ab}(h:ry b σ σ')(l:ab)(hb:b<=σ'.length):ry b σ (σ'++l):=⟨by have:=h.len;grind,λj hj=>by grind [ry.old]⟩
theorem Bld.tok {st:ab}{v:AV}{e:TypeId}{xs:List AV}(h:Bld st v e xs){t:Nat}(ht:t∈aN v):fI v=some t:=by
 rcases h with⟨rfl,_⟩|rfl|⟨k,rfl,_⟩
 .grind [aN]
 .grind [aN]
 .simp[aN]at ht;rw[ht];rfl
theorem Ext.keep {σ st:ab}{i:Nat}{x:Option bH}(h:Ext σ st)(hi:σ[i]?=some x):st[i]?=some x:=by
 rw[h.eq,acf (List.getElem?_eq_some_iff.1 hi).1,hi]
end Go.Av
end
section
namespace Go.Proofs.Tryz
open Go Go.Av
set_option maxRecDepth 10000
variable {W0 :World}
end Go.Proofs.Tryz
end
section
namespace Go.Av
theorem dX.app {σ:ab}{v:AV}{e:TypeId}{xs:List AV}(h:dX σ v e xs)(l:ab):dX (σ++l) v e xs:=by
 rcases h with h|h|⟨id,off,m,zs,h1,h2,h3⟩
 .exact .inl h
 .exact .inr (.inl h)
 .exact .inr (.inr ⟨id,off,m,zs,h1,by grind,h3⟩)
end Go.Av
end
section
namespace Go.Proofs.Tryz
open Go Go.Av
set_option maxRecDepth 10000
variable {W0 :World}
end Go.Proofs.Tryz
end
section
namespace Go.Av
theorem lV.trans {P:Program}{A B C:aa}(h:lV P A B):lV P B C->lV P A C:=by
 induction h with
 |refl D=>simp_all
 |row d h1 h2 h3 _ ih=>exact λk=>.row d h1 h2 h3 (ih k)
 |cell id0 i path h1 h2 h3 h4 h5 h6 h7 _ ih=>exact λk=>.cell id0 i path h1 h2 h3 h4 h5 h6 h7 (ih k)
 |KZ id0 i path h1 h2 h3 h4 h5 h6 _ ih=>exact λk=>.KZ id0 i path h1 h2 h3 h4 h5 h6 (ih k)
 |pt d h1 h2 _ ih=>exact λk=>.pt d h1 h2 (ih k)
 |bS id0 i h1 h2 h3 _ ih=>exact λk=>.bS id0 i h1 h2 h3 (ih k)
end Go.Av
end
section
namespace Go.Proofs.Tryz
open Go Go.Av
set_option maxRecDepth 10000
variable {W0 :World}
structure WS (st:ab)(n0 was from':Nat)(v:AV)(l:List (List UInt8)):Prop where
 out:st[n0]?=some (some (.cells 73 [v]))
 frm:st[n0+1]?=some (some (.cells 3 [.int .i64 from']))
 was:st[n0+2]?=some (some (.cells 3 [.int .i64 was]))
 bld:Bld st v 9 (l.map .str)
end Go.Proofs.Tryz
end
section
namespace Go.Av
def lT (c:Clause):Bool:=decide (c.length≠0)&&decide (c.length<=6)&&c.all ct
theorem kY {c:Clause}(h:lT c=true):c.length<=6:=by
 grind [lT]
end Go.Av
end
section
namespace Go.Proofs.Tryz
open Go Go.Av
set_option maxRecDepth 10000
variable {W0 :World}
end Go.Proofs.Tryz
end
