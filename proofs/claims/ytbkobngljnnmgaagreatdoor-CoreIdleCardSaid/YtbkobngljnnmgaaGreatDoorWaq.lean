/- What the last text of this claim rests on. No conditions. -/
import Derived.Test.YtbkobngljnnmgaaGreatDoorWaa
import Derived.Test.YtbkobngljnnmgaaGreatDoorWad
import Derived.Test.YtbkobngljnnmgaaGreatDoorWah
import Derived.Test.YtbkobngljnnmgaaGreatDoorWai
import Derived.Test.YtbkobngljnnmgaaGreatDoorWak
import Derived.Test.YtbkobngljnnmgaaGreatDoorWal
import Derived.Test.YtbkobngljnnmgaaGreatDoorWam
import Derived.Test.YtbkobngljnnmgaaGreatDoorWan
import Derived.Test.YtbkobngljnnmgaaGreatDoorWap
set_option linter.unusedSimpArgs false
set_option linter.unusedVariables false
open List renaming getElem?_append_left->acG
section
namespace Go.Av
section
variable {P :Program}{W0:World}{A:aa}
theorem lI.str {s d e:TypeId}{u:AV}{dst:Option Nat}{k:aa->Prop}{l:List UInt8}(h:elT P s=some e/\fZ P e=some .u8/\af P e=1/\bV P d=true)(hr:eV A.st u e (l.map ba))(hk:k ((A.put dst (.str l)).ay A.st)):lI P s d u dst A k .mk:=
 .inr (.inl ⟨l,e,hr,h,hk⟩)
theorem lI.bytes {s d e:TypeId}{dst:Option Nat}{k:aa->Prop}{l:List UInt8}(h:bV P s=true/\elT P d=some e/\fZ P e=some .u8/\af P e=1/\ck P e=true)(hk:k ((A.put dst (.row e A.st.length 0 l.length)).ay (A.st++[some (.cells e (l.map ba))]))):lI P s d (.str l) dst A k .mk:=
 .inl ⟨l,e,rfl,h,hk⟩
end
end Go.Av
end
section
namespace Go.Proofs.Tryz
open Go Go.Av
set_option maxRecDepth 10000
variable {W0 :World}
end Go.Proofs.Tryz
end
section
namespace Go.Av
theorem aX.rj {n:Nat}{a b:AV}(h1:aX n a)(h2:aX n b):aX n (.tup [a,b]):=.tup λx hx=>by
 grind
theorem dp {a b a' b':AV}(h1:dq a a')(h2:dq b b'):dq (.tup [a,b]) (.tup [a',b']):=.tup rfl λi x y hx hy=>by
 grind
theorem aX.map {α:Type}{n:Nat}{e:TypeId}{f:α->AV}{l:List α}(h: ∀a∈l,aX n (f a)):aX n (.sl e (l.map f)):=.sl λx hx=>by
 grind
theorem Ext.at {σ st:ab}{o:Option bJ}(h:Ext (σ++[o]) st):st[σ.length]?=some o:=by
 rw[h.eq,acG (by simp)];simp
theorem Ext.low {σ st:ab}{o:Option bJ}(h:Ext (σ++[o]) st):Ext σ st:=by
 rw[h.eq,List.append_assoc];exact(Ext.refl σ).app _
end Go.Av
end
section
namespace Go.Proofs.Tryz
open Go Go.Av
set_option maxRecDepth 10000
variable {W0 :World}
def Bu (b:List UInt8):AV:=.sl 5 (b.map ba)
theorem HF (l:List (List UInt8)):unm (Hg l)=Hg l:=rfl
theorem BS (P:Program)(t:TypeId)(l:List (List UInt8)):bc P t (Hg l)=ck P t:=rfl
theorem FW (l:List UInt8):unm (Bu l)=Bu l:=rfl
theorem yC (P:Program)(t:TypeId)(l:List UInt8):bc P t (Bu l)=ck P t:=rfl
attribute [go_sem] HF BS FW yC
end Go.Proofs.Tryz
end
section
namespace Go.Av
structure ry (b:Nat)(σ σ':ab):Prop where
 len:σ.length<=σ'.length
 old: ∀j,j<b->σ'[j]?=σ[j]?
theorem ry.refl (b:Nat)(σ:ab):ry b σ σ:=⟨Nat.le_refl _,λ_ _=>rfl⟩
theorem ry.trans {b:Nat}{σ σ' σ'':ab}(h:ry b σ σ')(k:ry b σ' σ''):ry b σ σ'':=⟨Nat.le_trans h.len k.len,λj hj=>(k.old j hj).trans (h.old j hj)⟩
theorem ry.set {b:Nat}{σ σ':ab}(h:ry b σ σ'){i:Nat}(hi:b<=i)(o:Option bJ):ry b σ (σ'.set i o):=⟨by simpa using h.len,λj hj=>by grind [ry.old]⟩
theorem ry.app {b:Nat}{σ σ':ab}(h:ry b σ σ')(l:ab)(hb:b<=σ'.length):ry b σ (σ'++l):=⟨by have:=h.len;grind,λj hj=>by grind [ry.old]⟩
theorem Bld.tok {st:ab}{v:AV}{e:TypeId}{xs:List AV}(h:Bld st v e xs){t:Nat}(ht:t∈aR v):fJ v=some t:=by
 rcases h with⟨rfl,_⟩|rfl|⟨k,rfl,_⟩
 .grind [aR]
 .grind [aR]
 .simp[aR]at ht;rw[ht];rfl
theorem Ext.keep {σ st:ab}{i:Nat}{x:Option bJ}(h:Ext σ st)(hi:σ[i]?=some x):st[i]?=some x:=by
 rw[h.eq,acG (List.getElem?_eq_some_iff.1 hi).1,hi]
end Go.Av
end
section
namespace Go.Proofs.Tryz
open Go Go.Av
set_option maxRecDepth 10000
variable {W0 :World}
end Go.Proofs.Tryz
end
section
namespace Go.Av
theorem ee.app {σ:ab}{v:AV}{e:TypeId}{xs:List AV}(h:ee σ v e xs)(l:ab):ee (σ++l) v e xs:=by
 rcases h with h|h|⟨id,off,m,zs,h1,h2,h3⟩
 .exact .inl h
 .exact .inr (.inl h)
 .exact .inr (.inr ⟨id,off,m,zs,h1,by grind,h3⟩)
end Go.Av
end
section
namespace Go.Proofs.Tryz
open Go Go.Av
set_option maxRecDepth 10000
variable {W0 :World}
end Go.Proofs.Tryz
end
section
namespace Go.Av
theorem lT.trans {P:Program}{A B C:aa}(h:lT P A B):lT P B C->lT P A C:=by
 induction h with
 |refl D=>simp_all
 |row d h1 h2 h3 _ ih=>exact λk=>.row d h1 h2 h3 (ih k)
 |cell id0 i path h1 h2 h3 h4 h5 h6 h7 _ ih=>exact λk=>.cell id0 i path h1 h2 h3 h4 h5 h6 h7 (ih k)
 |K0 id0 i path h1 h2 h3 h4 h5 h6 _ ih=>exact λk=>.K0 id0 i path h1 h2 h3 h4 h5 h6 (ih k)
 |pt d h1 h2 _ ih=>exact λk=>.pt d h1 h2 (ih k)
 |cb id0 i h1 h2 h3 _ ih=>exact λk=>.cb id0 i h1 h2 h3 (ih k)
end Go.Av
end
section
namespace Go.Proofs.Tryz
open Go Go.Av
set_option maxRecDepth 10000
variable {W0 :World}
structure WS (st:ab)(n0 was from':Nat)(v:AV)(l:List (List UInt8)):Prop where
 out:st[n0]?=some (some (.cells 73 [v]))
 frm:st[n0+1]?=some (some (.cells 3 [.int .i64 from']))
 was:st[n0+2]?=some (some (.cells 3 [.int .i64 was]))
 bld:Bld st v 9 (l.map .str)
end Go.Proofs.Tryz
end
section
namespace Go.Av
def lQ (c:Clause):Bool:=decide (c.length≠0)&&decide (c.length<=6)&&c.all cA
theorem kN {c:Clause}(h:lQ c=true):c.length<=6:=by
 grind [lQ]
end Go.Av
end
section
namespace Go.Proofs.Tryz
open Go Go.Av
set_option maxRecDepth 10000
variable {W0 :World}
end Go.Proofs.Tryz
end
