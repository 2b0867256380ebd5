/- Texts that the last one of this claim rests on: a layer over the guide's own conditions for code; contracts of the functions that the law reaches, one by one. No conditions beside those of the given rows. -/
import Derived.Test.YtnblgnafgdmcaaaGreatDoorWbf
section
set_option linter.unusedSimpArgs false
set_option linter.unusedVariables false
namespace Go.Av

/-- A row that a call has made, the whole of it, or none yet. -/
structure OutR (σ st : Store) (v : AV) (e : TypeId) (xs : List AV) : Prop where
  row : (v = .nils ∧ xs = []) ∨ ∃ id, v = .row e id 0 xs.length ∧ st[id]? = some (some (.cells e xs)) ∧ σ.length ≤ id
  ext : Ext σ st

theorem OutR.nil {σ st : Store} (h : Ext σ st) (e : TypeId) : OutR σ st .nils e [] := ⟨.inl ⟨rfl, rfl⟩, h⟩
theorem OutR.st {σ st : Store} {v : AV} {e : TypeId} {xs : List AV} (h : OutR σ st v e xs) : RowSt st v e xs := by
  rcases h.row with h | ⟨id, rfl, h1, _⟩
  · exact .inl h
  · exact .inr (.inr ⟨id, 0, _, xs, rfl, h1, by simp, by simp⟩)
theorem OutR.more {σ st : Store} {v : AV} {e : TypeId} {xs : List AV} (h : OutR σ st v e xs) (l : Store) : OutR σ (st ++ l) v e xs := by
  refine ⟨?_, h.ext.app l⟩
  rcases h.row with h1 | ⟨id, h1, h2, h3⟩
  · exact .inl h1
  · exact .inr ⟨id, h1, by rw [List.getElem?_append_left ((List.getElem?_eq_some_iff.1 h2).1)]; exact h2, h3⟩
theorem AppA.out {P : Program} {A : AState} {σ : Store} {t u e : TypeId} {x y : AV} {xs ys : List AV} {dst : Option Nat} {k : AState → Prop} (N : Nat) (ho : appB P t u e N = true) (h : OutR σ A.st x e xs) (hy : ReadL A.st y e ys) (hN : xs.length + ys.length ≤ N)
    (hk : ∀ v st', OutR σ st' v e (xs ++ ys) → k ((A.put dst v).withSt st')) : AppA P [t, u] [x, y] dst A k .mk := by
  have hkl : (killOf x A.st).length = A.st.length := by unfold killOf; split <;> simp
  refine AppA.row N ho h.st hy hN (fun he => hk _ _ (by rw [he, List.append_nil]; exact h)) fun he => hk _ _ ⟨.inr ⟨A.st.length, by simp, ?_, h.ext.le⟩, ?_⟩
  · rw [← hkl, List.getElem?_append_right (Nat.le_refl _), Nat.sub_self]
    rfl
  · refine Ext.app ?_ _
    rcases h.row with ⟨rfl, _⟩ | ⟨id, rfl, _, h3⟩
    · exact h.ext
    · exact h.ext.set h3 _
theorem OutR.endr {A : AState} {σ : Store} {v : AV} {e : TypeId} {xs : List AV} {d : Nat} {x : Exit} {R : AState → Prop} (h : OutR σ A.st v e xs) (hd : A.env d = v)
    (h0 : v = .nils → xs = [] → EndR R x A) (h1 : ∀ id, EndR R x ((A.upd d (.sl e xs)).withSt (A.st.set id none)) ∨ ¬ (σ.length ≤ id ∧ A.env d = .row e id 0 xs.length)) : EndR R x A := by
  rcases h.row with ⟨h2, h3⟩ | ⟨id, h2, h3, h4⟩
  · exact h0 h2 h3
  · rcases h1 id with h5 | h5
    · exact EndR.frz d (by rw [hd, h2]) h3 (by simp) (by simpa using h5)
    · exact absurd ⟨h4, by rw [hd, h2]⟩ h5

/-- One field of one row is appended to. -/
theorem OutR.fld {σ1 st σ' : Store} {oid : Nat} {T e : TypeId} {ls ls' xs ws zs : List AV} {v x x' w : AV} (hl : ls'.length = ls.length) (hv : v = .row T oid 0 ls.length) (ho : OutR σ1 st v T ls) (ho1 : st[oid]? = some (some (.cells T ls))) (holo : σ1.length ≤ oid) (bx : Bld st x e xs) (bw : Bld st w e ws)
    (dj : ∀ t ∈ foot x, t ∉ foot w) (lo : ∀ t ∈ foot x ++ foot w, σ1.length ≤ t) (ha : App st x e zs x' σ') :
    σ'[oid]? = some (some (.cells T ls)) ∧ OutR σ1 (σ'.set oid (some (.cells T ls'))) v T ls' ∧ Bld (σ'.set oid (some (.cells T ls'))) x' e zs ∧ Bld (σ'.set oid (some (.cells T ls'))) w e ws ∧ (∀ t ∈ foot x', t ∉ foot w) ∧ ∀ t ∈ foot x' ++ foot w, σ1.length ≤ t := by
  have hf := ha.fr
  have h1 : σ'[oid]? = some (some (.cells T ls)) := by rw [hf.old oid (List.getElem?_eq_some_iff.1 ho1).1 (bx.ne ho1 (by simp)), ho1]
  have hlen := (List.getElem?_eq_some_iff.1 h1).1
  have hx := ho.ext.le
  refine ⟨h1, ⟨.inr ⟨oid, by rw [hl]; exact hv, by simp [hlen], holo⟩, (hf.toExt ho.ext fun j hj => lo j (by simp [hj])).set holo _⟩, ha.bld.keep fun j hj => List.getElem?_set_ne fun e1 => ?_, bw.keep fun j hj => ?_, fun t ht hw => ?_, fun t ht => ?_⟩
  · exact ha.bld.ne h1 (by simp) (by rw [e1]; exact hj)
  · rw [List.getElem?_set_ne (fun e1 : oid = j => bw.ne ho1 (by simp) (by rw [e1]; exact hj)), hf.old j (bw.lt j hj) (fun e1 => dj j e1 hj)]
  · rcases ha.foot bx t ht with h2 | h2
    · exact dj t h2 hw
    · have := bw.lt t hw; omega
  · rcases List.mem_append.1 ht with h2 | h2
    · rcases ha.foot bx t h2 with h3 | h3
      · exact lo t (by simp [h3])
      · omega
    · exact lo t (by simp [h2])
end Go.Av
end
