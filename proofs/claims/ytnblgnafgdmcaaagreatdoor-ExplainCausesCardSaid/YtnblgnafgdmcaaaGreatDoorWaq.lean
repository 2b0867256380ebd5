/- Texts that the last one of this claim rests on: a layer over the guide's own conditions for code; contracts of the functions that the law reaches, one by one. No conditions beside those of the given rows. -/
import Derived.Lib.Bytealg
import Derived.Test.YtnblgnafgdmcaaaGreatDoorWal
import Derived.Test.YtnblgnafgdmcaaaGreatDoorWap
section
set_option linter.unusedSimpArgs false
set_option linter.unusedVariables false
namespace Go.Av
open Go

def idxL {α : Type} (q : α → Bool) (l : List α) : Int := match l.findIdx? q with | some i => i | none => -1

theorem idxL_at {α : Type} {q : α → Bool} {l : List α} {i : Nat} {a : α} (h : l[i]? = some a) (hq : q a = true) (hn : ∀ b ∈ l.take i, q b = false) : idxL q l = i := by
  have : l.findIdx? q = some i := by
    obtain ⟨hi, he⟩ := List.getElem?_eq_some_iff.1 h
    refine List.findIdx?_eq_some_iff_getElem.2 ⟨hi, by rw [he]; exact hq, fun j hj => ?_⟩
    have := hn l[j] (List.mem_of_getElem? (i := j) (by rw [List.getElem?_take, if_pos hj]; exact List.getElem?_eq_getElem (by omega)))
    simp [this]
  rw [idxL, this]

theorem idxL_none {α : Type} {q : α → Bool} {l : List α} (hn : ∀ b ∈ l, q b = false) : idxL q l = -1 := by
  have : l.findIdx? q = none := List.findIdx?_eq_none_iff.2 hn
  rw [idxL, this]

theorem idxL_ge {α : Type} {q : α → Bool} {l : List α} : decide (0 ≤ idxL q l) = l.any q := by
  unfold idxL
  cases h : l.findIdx? q with
  | none =>
    have := List.findIdx?_eq_none_iff.1 h
    have e : l.any q = false := by rw [List.any_eq_false]; intro x hx; simp [this x hx]
    rw [e]; rfl
  | some i =>
    obtain ⟨hi, h1, _⟩ := List.findIdx?_eq_some_iff_getElem.1 h
    have e : l.any q = true := List.any_eq_true.2 ⟨_, List.getElem_mem hi, h1⟩
    rw [e]
    simp

theorem look_set {σ : Store} {id : Nat} {te : TypeId} {xs : List AV} (h : id < σ.length) (i : Nat) (path : List Nat) : look (σ.set id (some (.cells te xs))) id i path = (xs[i]?).bind (·.at path) := by simp [look, h]
theorem look_id {σ : Store} {id : Nat} {te : TypeId} {xs : List AV} (h : σ[id]? = some (some (.cells te xs))) (i : Nat) (path : List Nat) : look σ id i path = (xs[i]?).bind (·.at path) := by simp [look, h]
theorem setLook_set {σ : Store} {id : Nat} {te : TypeId} {xs : List AV} (h : id < σ.length) (i : Nat) (path : List Nat) (v : AV) : setLook (σ.set id (some (.cells te xs))) id i path v = σ.set id (some (.cells te (xs.set i ((xs[i]?.getD .undef).setAt path v)))) := by simp [setLook, h]
theorem setLook_id {σ : Store} {id : Nat} {te : TypeId} {xs : List AV} (h : σ[id]? = some (some (.cells te xs))) (i : Nat) (path : List Nat) (v : AV) : setLook σ id i path v = σ.set id (some (.cells te (xs.set i ((xs[i]?.getD .undef).setAt path v)))) := by simp [setLook, h]
theorem set_id {σ : Store} {id : Nat} {o : Option SObj} (h : σ[id]? = some o) : σ.set id o = σ := by
  obtain ⟨h1, h2⟩ := List.getElem?_eq_some_iff.1 h
  rw [← h2, List.set_getElem_self]

@[go_sem] theorem setAt_cons (t : TypeId) (fs : List AV) (k : Nat) (r : List Nat) (v : AV) : (AV.agg t fs).setAt (k :: r) v = .agg t (fs.set k ((fs[k]?.getD .undef).setAt r v)) := by
  cases h : fs[k]? with
  | none => simp only [AV.setAt, h, Option.getD_none]; rw [List.set_eq_of_length_le (List.getElem?_eq_none_iff.1 h)]
  | some y => simp only [AV.setAt, h, Option.getD_some]

/-- A call from a store that is known. -/
theorem CallA.go {P : Program} {W0 : World} {A : AState} {g : FuncId} {caps us : List AV} {dst : Option Nat} {k : AState → Prop} {Q : AV → Store → Prop} {σ : Store} (hσ : A.st = σ) (h : ACall P W0 g (us ++ caps) σ Q) (hk : ∀ r σ', Q r σ' → k ((A.put dst r).withSt σ')) : CallA P W0 (.fn g caps) us dst A k .mk := by
  subst hσ
  exact h.mono hk
theorem CallA.goes {P : Program} {W0 : World} {A : AState} {g : FuncId} {us : List AV} {dst : Option Nat} {k : AState → Prop} {Q : AV → Store → Prop} {σ : Store} (hσ : A.st = σ) (h : ACall P W0 g us σ Q) (hk : ∀ r σ', Q r σ' → k ((A.put dst r).withSt σ')) : CallA P W0 (.fn g []) us dst A k .mk := .go hσ (by simpa using h) hk
/-- One that leaves the store as it was. -/
theorem CallA.reads {P : Program} {W0 : World} {A : AState} {g : FuncId} {us : List AV} {dst : Option Nat} {k : AState → Prop} {r : AV} {σ : Store} (hσ : A.st = σ) (h : ACall P W0 g us σ fun r' σ' => r' = r ∧ σ' = σ) (hk : k (A.put dst r)) : CallA P W0 (.fn g []) us dst A k .mk := .goes hσ h fun r' σ' ⟨h1, h2⟩ => by
  subst h1 h2 hσ
  rwa [put_withSt]

theorem u8_wrap (c : UInt8) : IntKind.u8.wrap (c.toNat : Int) = c.toNat := by
  have := c.toNat_lt
  show (c.toNat : Int) % 256 = c.toNat
  omega
theorem encL_ascii {c : UInt8} (h : c.toNat < 128) : encL (c.toNat : Int) = [c] := by
  have hv : Utf8.valid (c.toNat : Int) = true := by
    simp only [Utf8.valid]
    simp
    omega
  have e : Utf8.encode (c.toNat : Int) = ⟨#[UInt8.ofNat c.toNat]⟩ := by
    unfold Utf8.encode
    rw [if_pos hv, if_pos (by simpa using h)]
    simp
  rw [encL, e]
  simp

/-- Two texts, by their bytes. -/
def cmpS (a b : List UInt8) : Int := if Op.bytesLess a b = true then -1 else if a = b then 0 else 1

/-- The first that isn't 0. -/
def orL : List Int → Int
  | [] => 0
  | x :: r => if x ≠ 0 then x else orL r

theorem indexByte_firstOf (s : List UInt8) (c : UInt8) : Lib.indexByte s c = firstOf c s := by
  induction s with
  | nil => rfl
  | cons d r ih =>
    unfold Lib.indexByte
    cases h : d == c with
    | true => simp [firstOf, List.findIdx?_cons, h]
    | false =>
      simp only [Bool.false_eq_true, if_false, ih]
      rcases firstOf_cases c r with ⟨h1, h2⟩ | ⟨i, h1, _, _⟩
      · rw [h1]
        have : (d :: r).findIdx? (· == c) = none := List.findIdx?_eq_none_iff.2 fun x hx => by
          rcases List.mem_cons.1 hx with rfl | hx
          · exact h
          · simp; intro e; subst e; exact h2 hx
        simp [firstOf, this]
      · have hne : ((firstOf c r) == -1) = false := by rw [h1, beq_eq_false_iff_ne]; omega
        rw [hne]
        simp only [Bool.false_eq_true, if_false]
        have hf : r.findIdx? (· == c) = some i := by
          unfold firstOf at h1
          split at h1
          · rename_i j hj; rw [hj]; congr 1; omega
          · omega
        rw [h1]
        simp [firstOf, List.findIdx?_cons, h, hf]

theorem firstOf_ge (s : List UInt8) (c : UInt8) : decide (0 ≤ firstOf c s) = s.contains c := by
  rcases firstOf_cases c s with ⟨h1, h2⟩ | ⟨i, h1, h2, _⟩
  · rw [h1]; simp [h2]
  · rw [h1]
    have : c ∈ s := List.mem_of_getElem? h2
    simp [this]

/-- Ahead of a sign, behind it, and whether it is there. -/
def cutA (c : UInt8) (s : List UInt8) : List UInt8 := if 0 ≤ firstOf c s then s.take (firstOf c s).toNat else s
def cutB (c : UInt8) (s : List UInt8) : List UInt8 := if 0 ≤ firstOf c s then s.drop ((firstOf c s).toNat + 1) else []
def cutAV (c : UInt8) (s : List UInt8) : AV := .tup [.str (cutA c s), .str (cutB c s), .bool (decide (0 ≤ firstOf c s))]
theorem cutAV_ids (c : UInt8) (s : List UInt8) : IdsLt 0 (cutAV c s) := by
  refine .tup fun x hx => ?_
  simp at hx
  rcases hx with rfl | rfl | rfl <;> first | exact .str _ | exact .bool _

end Go.Av
end
