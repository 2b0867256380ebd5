/- Texts that the last one of this claim rests on: a layer over the guide's own conditions for code; contracts of the functions that the law reaches, one by one. No conditions beside those of the given rows. -/
import Derived.Test.YtnblgnafgdmcaaaGreatDoorWas
section
set_option linter.unusedSimpArgs false
set_option linter.unusedVariables false
namespace Go.Av

/-- A list that a call has built since the store was σ. -/
structure Built (σ st : Store) (v : AV) (e : TypeId) (xs : List AV) : Prop where
  bld : Bld st v e xs
  ext : Ext σ st
  tok : ∀ t, tokOf v = some t → σ.length ≤ t

theorem Built.nil {σ st : Store} (h : Ext σ st) (e : TypeId) : Built σ st .nils e [] := ⟨.inl ⟨rfl, rfl⟩, h, fun t h => by cases h⟩

theorem Built.app {σ st st' : Store} {v v' : AV} {e : TypeId} {xs zs : List AV} (h : Built σ st v e xs) (ha : App st v e zs v' st') : Built σ st' v' e zs := by
  have hl := h.ext.le
  refine ⟨ha.bld, ?_, fun t ht => ?_⟩
  · have hl' := ha.len
    refine List.ext_getElem? fun i => ?_
    rw [List.getElem?_take]
    by_cases hi : i < σ.length
    · rw [if_pos hi, ha.old i (by omega) (fun e => by have := h.tok i e; omega)]
      have e := congrArg (·[i]?) h.ext
      simpa [List.getElem?_take, hi] using e
    · rw [if_neg hi, List.getElem?_eq_none (by omega)]
  · rcases ha.tok with e | ⟨u, e, hu⟩
    · exact h.tok t (by rw [← e]; exact ht)
    · rw [e] at ht; cases ht; omega

theorem Built.more {σ st : Store} {v : AV} {e : TypeId} {xs : List AV} (h : Built σ st v e xs) (l : Store) : Built σ (st ++ l) v e xs := by
  refine ⟨?_, h.ext.app l, h.tok⟩
  rcases h.bld with h1 | h1 | ⟨t, h1, h2⟩
  · exact .inl h1
  · exact .inr (.inl h1)
  · exact .inr (.inr ⟨t, h1, by rw [List.getElem?_append_left ((List.getElem?_eq_some_iff.1 h2).1)]; exact h2⟩)

theorem Built.weak {σ st : Store} {v : AV} {e : TypeId} {xs : List AV} (h : Built σ st v e xs) : Weak v (.sl e xs) := by
  rcases h.bld with ⟨rfl, rfl⟩ | rfl | ⟨t, rfl, _⟩
  · exact .nils _
  · exact .lit _ _
  · exact .own _ _ _

theorem Ext.eq {σ st : Store} (h : Ext σ st) : st = σ ++ st.drop σ.length := by
  have := List.take_append_drop σ.length st
  rw [h] at this
  exact this.symm
theorem Ext.trans {σ st st' : Store} (h : Ext σ st) (h' : Ext st st') : Ext σ st' := by
  rw [h'.eq]; exact h.app _
theorem Built.on {σ st st' : Store} {v : AV} {e : TypeId} {xs : List AV} (h : Built σ st v e xs) (h' : Ext st st') : Built σ st' v e xs := by
  rw [h'.eq]; exact h.more _
theorem Built.len {σ st : Store} {v : AV} {e : TypeId} {xs : List AV} (h : Built σ st v e xs) : lenV v = .int .i64 xs.length := by
  rcases h.bld with ⟨rfl, rfl⟩ | rfl | ⟨t, rfl, _⟩ <;> rfl
theorem Built.lenC {σ st : Store} {v : AV} {e : TypeId} {xs : List AV} (h : Built σ st v e xs) (P : Program) (t : TypeId) : lenC P t v = ((elT P t).isSome = true) := by
  rcases h.bld with ⟨rfl, rfl⟩ | rfl | ⟨t, rfl, _⟩ <;> rfl
theorem Built.notM {σ st : Store} {v : AV} {e : TypeId} {xs : List AV} (h : Built σ st v e xs) : NotM v := by
  rcases h.bld with ⟨rfl, rfl⟩ | rfl | ⟨t, rfl, _⟩ <;> trivial
theorem Built.ok {σ st : Store} {v : AV} {e : TypeId} {xs : List AV} (h : Built σ st v e xs) (g : Option Bool) : okM g v = True := okM_notM h.notM
theorem Built.un {σ st : Store} {v : AV} {e : TypeId} {xs : List AV} (h : Built σ st v e xs) : unm v = v := unm_notM h.notM
attribute [go_sem] List.range'_succ List.range'_zero

theorem Sub.slmap {α : Type} {f g : α → AV} {e : TypeId} (l : List α) (h : ∀ a ∈ l, Sub (f a) (g a)) : Sub (.sl e (l.map f)) (.sl e (l.map g)) := by
  refine .sls (by simp) fun i x y hx hy => ?_
  rw [List.getElem?_map, Option.map_eq_some_iff] at hx hy
  obtain ⟨a, ha, rfl⟩ := hx
  obtain ⟨b, hb, rfl⟩ := hy
  rw [ha] at hb
  cases hb
  exact h a (List.mem_of_getElem? ha)

theorem ReadL.sl (st : Store) (e : TypeId) (ys : List AV) : ReadL st (.sl e ys) e ys := .inl rfl
theorem ReadL.lit (st : Store) (e : TypeId) (ys : List AV) : ReadL st (.lit e ys) e ys := .inl rfl

/-- What holds behind a loop that ends its block. -/
theorem LoopVC.ats {P : Program} {W0 : World} {n : Nat} {fz : List Nat} {A : AState} {c : Code} {id : Nat} {Q : Exit → AState → Prop} (ks : List Nat) (hks : Kept fz c .mk ks) (R : AState → Prop) (h : LoopVC P W0 n fz c .mk (blockQ id (thenQ R Q)) .mk A) (hR : ∀ B, R B → Q .normal (keep ks A B)) : LoopVC P W0 n fz c .mk (blockQ id Q) .mk A := by
  have e : blockQ id (thenQ (Q .normal) Q) = blockQ id Q := by
    funext e A
    cases e <;> rfl
  rw [← e]
  exact .at ks hks R h hR

/-- More than twelve clauses, or more than six alternatives: 12; an empty clause, or one with a wrong atom: 3. -/
def mayCl (l : List Clause) : Int :=
  if 12 < l.length ∨ l.any (fun c => decide (6 < c.length)) = true then 12 else if l.any (fun c => decide (c.length = 0) || c.any fun a => !mayAtom a) = true then 3 else 0
def single (l : List Atom) : List Clause := l.map fun a => [a]
def provAtom (p : Prov) : Atom := ⟨p.name, if p.ver = [] then 0 else 3, p.ver⟩
/-- May it be a package? 0: it may. -/
def mayPkg (p : Pkg) : Int := if (!nameOk p.name || !isVer p.ver) = true then 3 else orL [mayCl p.pre, mayCl p.dep, mayCl p.rcm, mayCl (single p.con), mayCl (single p.brk), mayCl (single (p.prov.map provAtom))]

/-- The names, each once, in the order in which they come. -/
def namesL : List Pkg → List (List UInt8) → List (List UInt8)
  | [], acc => acc
  | p :: r, acc => namesL r (if acc.any (fun x => p.name == x) then acc else acc ++ [p.name])
def sameNV (p q : Pkg) : Bool := q.name == p.name && sameVer q.ver p.ver
/-- One that stands already, behind those. -/
def dupL : List Pkg → List Pkg → Bool
  | _, [] => false
  | bef, p :: r => bef.any (sameNV p) || dupL (bef ++ [p]) r
def mayAll (l : List Pkg) : Int :=
  if 24 < l.length then 12 else if orL (l.map mayPkg) ≠ 0 then orL (l.map mayPkg) else if dupL [] l = true then 4 else if 10 < (namesL l []).length then 12 else 0

end Go.Av
end
