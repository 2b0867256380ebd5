/- Texts that the last one of this claim rests on: a layer over the guide's own conditions for code; contracts of the functions that the law reaches, one by one. No conditions beside those of the given rows. -/
import Derived.Test.YtbooehmmhbioaaaGreatDoorWaa
import Derived.Test.YtbooehmmhbioaaaGreatDoorWae
import Derived.Test.YtbooehmmhbioaaaGreatDoorWai
import Derived.Test.YtbooehmmhbioaaaGreatDoorWaj
import Derived.Test.YtbooehmmhbioaaaGreatDoorWal
import Derived.Test.YtbooehmmhbioaaaGreatDoorWam
import Derived.Test.YtbooehmmhbioaaaGreatDoorWan
import Derived.Test.YtbooehmmhbioaaaGreatDoorWao
import Derived.Test.YtbooehmmhbioaaaGreatDoorWaq
set_option linter.unusedSimpArgs false
set_option linter.unusedVariables false
section
namespace Go.Av
section
variable {P : Program} {W0 : World} {A : aa}
theorem pQ.str {s d e : TypeId} {u : AV} {dst : Option Nat} {k : aa → Prop} {l : List UInt8} (h : elT P s = some e ∧ eB P e = some .u8 ∧ ae P e = 1 ∧ bH P d = true) (hr : dB A.st u e (l.map cT)) (hk : k ((A.put dst (.str l)).ag A.st)) : pQ P s d u dst A k .mk :=
 .inr (.inl ⟨l,e,hr,h,hk⟩)
theorem pQ.bytes {s d e : TypeId} {dst : Option Nat} {k : aa → Prop} {l : List UInt8} (h : bH P s = true ∧ elT P d = some e ∧ eB P e = some .u8 ∧ ae P e = 1 ∧ cb P e = true) (hk : k ((A.put dst (.row e A.st.length 0 l.length)).ag (A.st ++ [some (.cells e (l.map cT))]))) : pQ P s d (.str l) dst A k .mk :=
 .inl ⟨l,e,rfl,h,hk⟩
end
end Go.Av
namespace Go.Proofs.Tryz
open Go Go.Av
set_option maxRecDepth 10000
variable {W0 : World}

end Go.Proofs.Tryz
end
section
namespace Go.Av
theorem aN.zd {n : Nat} {a b : AV} (h1 : aN n a) (h2 : aN n b) : aN n (.tup [a,b]):=.tup fun x hx=>by
 rcases List.mem_cons.1 hx with rfl | hx
 ·exact h1
 ·rw [List.mem_singleton.1 hx]; exact h2
theorem tT {a b a' b' : AV} (h1 : cI a a') (h2 : cI b b') : cI (.tup [a,b]) (.tup [a',b']):=.tup rfl fun i x y hx hy=>by
 match i,hx,hy with
 | 0,hx,hy=>cases hx; cases hy; exact h1
 | 1,hx,hy=>cases hx; cases hy; exact h2
theorem aN.map {α : Type} {n : Nat} {e : TypeId} {f : α → AV} {l : List α} (h : ∀ a ∈ l,aN n (f a)) : aN n (.sl e (l.map f)):=.sl fun x hx=>by
 obtain ⟨a,ha,rfl⟩:=List.mem_map.1 hx
 exact h a ha
theorem Ext.at {σ st : ab} {o : Option cM} (h : Ext (σ ++ [o]) st) : st[σ.length]? = some o:=by
 rw [h.eq,List.getElem?_append_left (by simp)]
 simp
theorem Ext.low {σ st : ab} {o : Option cM} (h : Ext (σ ++ [o]) st) : Ext σ st:=by
 rw [h.eq,List.append_assoc]
 exact (Ext.refl σ).app _
end Go.Av
namespace Go.Proofs.Tryz
open Go Go.Av
set_option maxRecDepth 10000
variable {W0 : World}

def vD (b : List UInt8) : AV:=.sl 5 (b.map cT)
@[go_sem] theorem Kk (l : List (List UInt8)) : unm (yM l) = yM l:=rfl
@[go_sem] theorem HU (P : Program) (t : TypeId) (l : List (List UInt8)) : bf P t (yM l) = cb P t:=rfl
@[go_sem] theorem IS (l : List UInt8) : unm (vD l) = vD l:=rfl
@[go_sem] theorem FJ (P : Program) (t : TypeId) (l : List UInt8) : bf P t (vD l) = cb P t:=rfl
end Go.Proofs.Tryz
end
section
namespace Go.Av
structure qa (b : Nat) (σ σ' : ab) : Prop where
 len : σ.length ≤ σ'.length
 old : ∀ j,j < b → σ'[j]? = σ[j]?
theorem qa.refl (b : Nat) (σ : ab) : qa b σ σ:=⟨Nat.le_refl _,fun _ _=>rfl⟩
theorem qa.trans {b : Nat} {σ σ' σ'' : ab} (h : qa b σ σ') (k : qa b σ' σ'') : qa b σ σ'':=⟨Nat.le_trans h.len k.len,fun j hj=>(k.old j hj).trans (h.old j hj)⟩
theorem qa.set {b : Nat} {σ σ' : ab} (h : qa b σ σ') {i : Nat} (hi : b ≤ i) (o : Option cM) : qa b σ (σ'.set i o):=⟨by simpa using h.len,fun j hj=>by rw [List.getElem?_set_ne (by omega)]; exact h.old j hj⟩
theorem qa.app {b : Nat} {σ σ' : ab} (h : qa b σ σ') (l : ab) (hb : b ≤ σ'.length) : qa b σ (σ' ++ l):=⟨by have:=h.len; simp; omega,fun j hj=>by rw [List.getElem?_append_left (by omega)]; exact h.old j hj⟩
theorem Bld.tok {st : ab} {v : AV} {e : TypeId} {xs : List AV} (h : Bld st v e xs) {t : Nat} (ht : t ∈ bb v) : ef v = some t:=by
 rcases h with ⟨rfl,_⟩ | rfl | ⟨k,rfl,_⟩
 ·simp [bb] at ht
 ·simp [bb] at ht
 ·simp [bb] at ht
  rw [ht]; rfl
theorem Ext.ez {σ st : ab} {i : Nat} {x : Option cM} (h : Ext σ st) (hi : σ[i]? = some x) : st[i]? = some x:=by
 rw [h.eq,List.getElem?_append_left (List.getElem?_eq_some_iff.1 hi).1,hi]
end Go.Av
namespace Go.Proofs.Tryz
open Go Go.Av
set_option maxRecDepth 10000
variable {W0 : World}

end Go.Proofs.Tryz
end
section
namespace Go.Av
theorem c7.app {σ : ab} {v : AV} {e : TypeId} {xs : List AV} (h : c7 σ v e xs) (l : ab) : c7 (σ ++ l) v e xs:=by
 rcases h with h | h | ⟨id,off,m,zs,h1,h2,h3⟩
 ·exact .inl h
 ·exact .inr (.inl h)
 ·exact .inr (.inr ⟨id,off,m,zs,h1,by rw [List.getElem?_append_left ((List.getElem?_eq_some_iff.1 h2).1)]; exact h2,h3⟩)
end Go.Av
namespace Go.Proofs.Tryz
open Go Go.Av
set_option maxRecDepth 10000
variable {W0 : World}

end Go.Proofs.Tryz
end
section
namespace Go.Av
theorem jV.trans {P : Program} {A B C : aa} (h : jV P A B) : jV P B C → jV P A C:=by
 induction h with
 | refl D=>exact fun k=>k
 | row d h1 h2 h3 _ ih=>exact fun k=>.row d h1 h2 h3 (ih k)
 | cell id0 i path h1 h2 h3 h4 h5 h6 h7 _ ih=>exact fun k=>.cell id0 i path h1 h2 h3 h4 h5 h6 h7 (ih k)
 | AI id0 i path h1 h2 h3 h4 h5 h6 _ ih=>exact fun k=>.AI id0 i path h1 h2 h3 h4 h5 h6 (ih k)
 | pt d h1 h2 _ ih=>exact fun k=>.pt d h1 h2 (ih k)
 | cK id0 i h1 h2 h3 _ ih=>exact fun k=>.cK id0 i h1 h2 h3 (ih k)
end Go.Av
namespace Go.Proofs.Tryz
open Go Go.Av
set_option maxRecDepth 10000
variable {W0 : World}

end Go.Proofs.Tryz
end
section
namespace Go.Proofs.Tryz
open Go Go.Av
set_option maxRecDepth 10000
variable {W0 : World}

structure WS (st : ab) (n0 was from' : Nat) (v : AV) (l : List (List UInt8)) : Prop where
 out : st[n0]? = some (some (.cells 58 [v]))
 frm : st[n0 + 1]? = some (some (.cells 3 [.int .i64 from']))
 was : st[n0 + 2]? = some (some (.cells 3 [.int .i64 was]))
 bld : Bld st v 9 (l.map .str)
end Go.Proofs.Tryz
end
section
namespace Go.Av
def jw (c : Clause) : Bool:=decide (c.length ≠ 0) && decide (c.length ≤ 6) && c.all cX
theorem iL {c : Clause} (h : jw c = true) : c.length ≤ 6:=by
 unfold jw at h
 simp only [Bool.and_eq_true,decide_eq_true_eq] at h
 exact h.1.2
end Go.Av
namespace Go.Proofs.Tryz
open Go Go.Av
set_option maxRecDepth 10000
variable {W0 : World}

end Go.Proofs.Tryz
end
