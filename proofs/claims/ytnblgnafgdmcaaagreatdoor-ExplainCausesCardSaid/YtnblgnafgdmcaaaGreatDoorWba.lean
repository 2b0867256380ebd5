/- Texts that the last one of this claim rests on: a layer over the guide's own conditions for code; contracts of the functions that the law reaches, one by one. No conditions beside those of the given rows. -/
import Derived.Test.YtnblgnafgdmcaaaGreatDoorWay
section
set_option linter.unusedSimpArgs false
set_option linter.unusedVariables false
namespace Go.Av

theorem CallA.readsC {P : Program} {W0 : World} {A : AState} {g : FuncId} {caps us : List AV} {dst : Option Nat} {k : AState → Prop} {r : AV} {σ : Store} (hσ : A.st = σ) (h : ACall P W0 g (us ++ caps) σ fun r' σ' => r' = r ∧ σ' = σ) (hk : k (A.put dst r)) : CallA P W0 (.fn g caps) us dst A k .mk := .go hσ h fun r' σ' ⟨h1, h2⟩ => by
  subst h1 h2 hσ
  rwa [put_withSt]

section
variable {P : Program}
@[go_sem] theorem binV_pneq (t t' : TypeId) (id i : Nat) (path : List Nat) : binV P .neq t (.ptr t' id i path) .nil = if isPtrT P t then .bool true else .undef := by simp only [binV, abin, eqAV, AV.isPtr, Bool.and_true]; split <;> rfl
@[go_sem] theorem binC_pneq (t t' : TypeId) (id i : Nat) (path : List Nat) : binC P .neq t (.ptr t' id i path) .nil = (isPtrT P t = true) := by simp only [binC, abin, eqAV, AV.isPtr, Bool.and_true]; split <;> simp_all
@[go_sem] theorem binV_peql (t t' : TypeId) (id i : Nat) (path : List Nat) : binV P .eql t (.ptr t' id i path) .nil = if isPtrT P t then .bool false else .undef := by simp only [binV, abin, eqAV, AV.isPtr, Bool.and_true]; split <;> rfl
@[go_sem] theorem binC_peql (t t' : TypeId) (id i : Nat) (path : List Nat) : binC P .eql t (.ptr t' id i path) .nil = (isPtrT P t = true) := by simp only [binC, abin, eqAV, AV.isPtr, Bool.and_true]; split <;> simp_all
@[go_sem] theorem binV_nneq (t : TypeId) : binV P .neq t .nil .nil = if isPtrT P t then .bool false else .undef := by simp only [binV, abin, eqAV]; split <;> rfl
@[go_sem] theorem binC_nneq (t : TypeId) : binC P .neq t .nil .nil = (isPtrT P t = true) := by simp only [binC, abin, eqAV]; split <;> simp_all
@[go_sem] theorem binV_neql (t : TypeId) : binV P .eql t .nil .nil = if isPtrT P t then .bool true else .undef := by simp only [binV, abin, eqAV]; split <;> rfl
@[go_sem] theorem binC_neql (t : TypeId) : binC P .eql t .nil .nil = (isPtrT P t = true) := by simp only [binC, abin, eqAV]; split <;> simp_all
end

/-- Another store, the same but for some objects, and more behind. -/
structure Fr (F : List Nat) (σ σ' : Store) : Prop where
  len : σ.length ≤ σ'.length
  old : ∀ j, j < σ.length → j ∉ F → σ'[j]? = σ[j]?
/-- The objects that a value leans on. -/
def foot : AV → List Nat
  | .own _ _ t => [t]
  | .row _ id _ _ => [id]
  | _ => []
theorem Fr.refl (F : List Nat) (σ : Store) : Fr F σ σ := ⟨Nat.le_refl _, fun _ _ _ => rfl⟩
theorem Fr.ext {F : List Nat} {σ σ' : Store} (h : Ext σ σ') : Fr F σ σ' := ⟨h.le, fun j hj _ => by
  have e := congrArg (·[j]?) h
  simpa [List.getElem?_take, hj] using e⟩
theorem Fr.trans {F G : List Nat} {σ σ' σ'' : Store} (h : Fr F σ σ') (h' : Fr G σ' σ'') (hG : ∀ j ∈ G, j ∈ F ∨ σ.length ≤ j) : Fr F σ σ'' := ⟨Nat.le_trans h.len h'.len, fun j hj hF => by
  rw [h'.old j (Nat.lt_of_lt_of_le hj h.len) (fun e => by rcases hG j e with h1 | h1; exact hF h1; omega), h.old j hj hF]⟩
theorem Fr.set {F : List Nat} {σ σ' : Store} (h : Fr F σ σ') {id : Nat} (hid : id ∈ F ∨ σ.length ≤ id) (o : Option SObj) : Fr F σ (σ'.set id o) := ⟨by simpa using h.len, fun j hj hF => by
  rw [List.getElem?_set_ne (fun e => by subst e; rcases hid with h1 | h1; exact hF h1; omega), h.old j hj hF]⟩
theorem Fr.app {F : List Nat} {σ σ' : Store} (h : Fr F σ σ') (l : Store) : Fr F σ (σ' ++ l) := ⟨by have := h.len; simp; omega, fun j hj hF => by
  rw [List.getElem?_append_left (by have := h.len; omega), h.old j hj hF]⟩
theorem Fr.mono {F G : List Nat} {σ σ' : Store} (h : Fr F σ σ') (hG : ∀ j ∈ F, j ∈ G) : Fr G σ σ' := ⟨h.len, fun j hj hF => h.old j hj fun e => hF (hG j e)⟩
theorem Fr.toExt {F : List Nat} {σ σ' : Store} (h : Fr F σ σ') {τ : Store} (ht : Ext τ σ) (hF : ∀ j ∈ F, τ.length ≤ j) : Ext τ σ' := by
  refine List.ext_getElem? fun i => ?_
  have := ht.le
  have := h.len
  rw [List.getElem?_take]
  by_cases hi : i < τ.length
  · rw [if_pos hi, h.old i (by omega) (fun e => by have := hF i e; omega)]
    have e := congrArg (·[i]?) ht
    simpa [List.getElem?_take, hi] using e
  · rw [if_neg hi, List.getElem?_eq_none (by omega)]
theorem live_set {σ : Store} {id : Nat} {te : TypeId} {xs : List AV} (h : id < σ.length) : live (σ.set id (some (.cells te xs))) id = True := eq_true ⟨te, xs, by simp [h]⟩
theorem live_id {σ : Store} {id : Nat} {te : TypeId} {xs : List AV} (h : σ[id]? = some (some (.cells te xs))) : live σ id = True := eq_true ⟨te, xs, h⟩
theorem Bld.notM {st : Store} {v : AV} {e : TypeId} {xs : List AV} (h : Bld st v e xs) : NotM v := by
  rcases h with ⟨rfl, rfl⟩ | rfl | ⟨t, rfl, _⟩ <;> trivial
theorem Bld.ok {st : Store} {v : AV} {e : TypeId} {xs : List AV} (h : Bld st v e xs) (g : Option Bool) : okM g v = True := okM_notM h.notM
theorem Bld.un {st : Store} {v : AV} {e : TypeId} {xs : List AV} (h : Bld st v e xs) : unm v = v := unm_notM h.notM
theorem Bld.len {st : Store} {v : AV} {e : TypeId} {xs : List AV} (h : Bld st v e xs) : lenV v = .int .i64 xs.length := by
  rcases h with ⟨rfl, rfl⟩ | rfl | ⟨t, rfl, _⟩ <;> rfl
theorem Bld.lenC {st : Store} {v : AV} {e : TypeId} {xs : List AV} (h : Bld st v e xs) (P : Program) (t : TypeId) : lenC P t v = ((elT P t).isSome = true) := by
  rcases h with ⟨rfl, rfl⟩ | rfl | ⟨t, rfl, _⟩ <;> rfl
theorem Bld.fits {st : Store} {v : AV} {e : TypeId} {xs : List AV} (h : Bld st v e xs) (P : Program) (t : TypeId) : fitsB P t v = prim P t := by
  rcases h with ⟨rfl, rfl⟩ | rfl | ⟨t, rfl, _⟩ <;> rfl
theorem RowSt.fits {st : Store} {v : AV} {e : TypeId} {xs : List AV} (h : RowSt st v e xs) (P : Program) (t : TypeId) : fitsB P t v = prim P t := by
  rcases h with ⟨rfl, rfl⟩ | rfl | ⟨_, _, _, _, rfl, _⟩ <;> rfl
theorem RowSt.notM {st : Store} {v : AV} {e : TypeId} {xs : List AV} (h : RowSt st v e xs) : NotM v := by
  rcases h with ⟨rfl, rfl⟩ | rfl | ⟨_, _, _, _, rfl, _⟩ <;> trivial
theorem RowSt.ok {st : Store} {v : AV} {e : TypeId} {xs : List AV} (h : RowSt st v e xs) (g : Option Bool) : okM g v = True := okM_notM h.notM
theorem RowSt.un {st : Store} {v : AV} {e : TypeId} {xs : List AV} (h : RowSt st v e xs) : unm v = v := unm_notM h.notM
theorem AppA.ownS {P : Program} {A : AState} {σ : Store} {t u e : TypeId} {x y : AV} {xs ys : List AV} {dst : Option Nat} {k : AState → Prop} (hσ : A.st = σ) (N : Nat) (ho : appB P t u e N = true) (hb : Bld σ x e xs) (hy : ReadL σ y e ys) (hN : xs.length + ys.length ≤ N)
    (hk : ∀ v σ', App σ x e (xs ++ ys) v σ' → k ((A.put dst v).withSt σ')) : AppA P [t, u] [x, y] dst A k .mk := by
  subst hσ
  exact .own N ho hb hy hN hk
theorem Bld.idxV {st : Store} {v : AV} {e : TypeId} {xs : List AV} (h : Bld st v e xs) (h0 : 0 < xs.length) (P : Program) (t : TypeId) (i : Int) : indexAddrV P t i v = .loc e (atV xs i) := by
  rcases h with ⟨rfl, rfl⟩ | rfl | ⟨t, rfl, _⟩
  · exact absurd h0 (by simp)
  · rfl
  · rfl
theorem Bld.idxC {st : Store} {v : AV} {e : TypeId} {xs : List AV} (h : Bld st v e xs) (h0 : 0 < xs.length) (P : Program) (gd : Option Bool) (σ : Store) (t : TypeId) (i : Int) : indexAddrC P gd σ t i v = (elT P t = some e ∧ 0 < szOf P e ∧ imp gd (0 ≤ i ∧ i.toNat < xs.length)) := by
  rcases h with ⟨rfl, rfl⟩ | rfl | ⟨t, rfl, _⟩
  · exact absurd h0 (by simp)
  · rfl
  · rfl
/-- A row that may be written, or none yet. -/
def RowV (σ : Store) (x : AV) (e : TypeId) (xs : List AV) : Prop := (x = .nils ∧ xs = []) ∨ ∃ id off m zs, x = .row e id off m ∧ σ[id]? = some (some (.cells e zs)) ∧ off + m ≤ zs.length ∧ xs = (zs.drop off).take m
theorem RowV.st {σ : Store} {v : AV} {e : TypeId} {xs : List AV} (h : RowV σ v e xs) : RowSt σ v e xs := by
  rcases h with h | h
  · exact .inl h
  · exact .inr (.inr h)
def cutR (a b : Nat) : AV → AV
  | .row e id off _ => .row e id (off + a) (b - a)
  | v => v
@[go_sem] theorem cutR_row (a b : Nat) (e : TypeId) (id off m : Nat) : cutR a b (.row e id off m) = .row e id (off + a) (b - a) := rfl
@[go_sem] theorem cutR_nils (a b : Nat) : cutR a b .nils = .nils := rfl
theorem RowV.len' {σ : Store} {e : TypeId} {xs : List AV} {id off m : Nat} {zs : List AV} (h : off + m ≤ zs.length) (hx : xs = (zs.drop off).take m) : xs.length = m := by
  rw [hx]; simp; omega
theorem RowV.cutV {σ : Store} {v : AV} {e : TypeId} {xs : List AV} (h : RowV σ v e xs) (A : AState) (lo hi : Option Operand) : sliceV A lo hi v = cutR (bndV A 0 lo) (bndV A xs.length hi) v := by
  rcases h with ⟨rfl, rfl⟩ | ⟨id, off, m, zs, rfl, h1, h2, h3⟩
  · rfl
  · rw [RowV.len' (σ := σ) (e := e) (id := id) h2 h3]; rfl
theorem RowV.cutC {P : Program} {gd : Option Bool} {σ : Store} {v : AV} {e : TypeId} {xs : List AV} (h : RowV σ v e xs) {t : TypeId} (ht : elT P t = some e) (A : AState) (lo hi : Option Operand) : sliceC P gd A t lo hi v = (0 < szOf P e ∧ Go.Av.cutC gd A lo hi xs.length) := by
  rcases h with ⟨rfl, rfl⟩ | ⟨id, off, m, zs, rfl, h1, h2, h3⟩
  · rw [sliceC_nils, ht]
    simp only [Option.isSome_some, true_and, Option.getD_some, Go.Av.cutC, List.length_nil, Nat.le_zero]
    have : imp gd (bndV A 0 lo = 0 ∧ bndV A 0 hi = 0) = imp gd (bndV A 0 lo ≤ bndV A 0 hi ∧ bndV A 0 hi = 0) := by
      congr 1
      refine propext ⟨fun ⟨h1, h2⟩ => ⟨by omega, h2⟩, fun ⟨h1, h2⟩ => ⟨by omega, h2⟩⟩
    rw [this]
  · rw [sliceC_row, ht, RowV.len' (σ := σ) (e := e) (id := id) h2 h3]
    simp
theorem RowV.cut {σ : Store} {v : AV} {e : TypeId} {xs : List AV} (h : RowV σ v e xs) {a b : Nat} (hab : a ≤ b) (hb : b ≤ xs.length) : RowV σ (cutR a b v) e ((xs.drop a).take (b - a)) := by
  rcases h with ⟨rfl, rfl⟩ | ⟨id, off, m, zs, rfl, h1, h2, h3⟩
  · exact .inl ⟨rfl, by simp⟩
  · have hl := RowV.len' (σ := σ) (e := e) (id := id) h2 h3
    refine .inr ⟨id, off + a, b - a, zs, rfl, h1, by omega, ?_⟩
    rw [h3, List.drop_take, List.drop_drop, List.take_take, Nat.min_eq_left (by omega)]
theorem foot_cutR (a b : Nat) (v : AV) : foot (cutR a b v) = foot v := by cases v <;> rfl
theorem RowV.keep {st st' : Store} {v : AV} {e : TypeId} {xs : List AV} (h : RowV st v e xs) (hk : ∀ j ∈ foot v, st'[j]? = st[j]?) : RowV st' v e xs := by
  rcases h with h | ⟨id, off, m, zs, rfl, h, h2⟩
  · exact .inl h
  · exact .inr ⟨id, off, m, zs, rfl, by rw [hk id (by simp [foot]), h], h2⟩
theorem RowV.lt {st : Store} {v : AV} {e : TypeId} {xs : List AV} (h : RowV st v e xs) : ∀ j ∈ foot v, j < st.length := by
  rcases h with ⟨rfl, _⟩ | ⟨id, off, m, zs, rfl, h, _⟩
  · simp [foot]
  · intro j hj; simp [foot] at hj; subst hj; exact (List.getElem?_eq_some_iff.1 h).1
theorem RowV.ne {st : Store} {v : AV} {e te : TypeId} {xs ys : List AV} (h : RowV st v e xs) {id : Nat} (hid : st[id]? = some (some (.cells te ys))) (ht : te ≠ e) : id ∉ foot v := fun hj => by
  rcases h with ⟨rfl, _⟩ | ⟨id', off, m, zs, rfl, h, _⟩
  · simp [foot] at hj
  · simp [foot] at hj; subst hj; rw [hid] at h; cases h; exact ht rfl
/-- Behind a row that is appended to. -/
structure AppR (σ : Store) (x : AV) (e : TypeId) (zs : List AV) (v : AV) (σ' : Store) : Prop where
  row : RowV σ' v e zs
  fr : Fr (foot x) σ σ'
  foot : ∀ j ∈ foot v, j ∈ foot x ∨ σ.length ≤ j
theorem AppA.rowS {P : Program} {A : AState} {σ : Store} {t u e : TypeId} {x y : AV} {xs ys : List AV} {dst : Option Nat} {k : AState → Prop} (hσ : A.st = σ) (N : Nat) (ho : appB P t u e N = true) (hb : RowV σ x e xs) (hy : ReadL σ y e ys) (hN : xs.length + ys.length ≤ N)
    (hk : ∀ v σ', AppR σ x e (xs ++ ys) v σ' → k ((A.put dst v).withSt σ')) : AppA P [t, u] [x, y] dst A k .mk := by
  subst hσ
  have hkl : (killOf x A.st).length = A.st.length := by unfold killOf; split <;> simp
  refine AppA.row N ho hb.st hy hN (fun he => hk _ _ ⟨by rw [he, List.append_nil]; exact hb, .refl _ _, fun j hj => .inl hj⟩) fun he => hk _ _ ⟨.inr ⟨A.st.length, 0, _, xs ++ ys, rfl, ?_, by simp, by rw [List.drop_zero, List.take_of_length_le (by simp)]⟩, ?_, fun j hj => ?_⟩
  · rw [← hkl, List.getElem?_append_right (Nat.le_refl _), Nat.sub_self]
    rfl
  · refine Fr.app ?_ _
    unfold killOf
    split
    · exact (Fr.refl _ _).set (.inl (by simp [Go.Av.foot])) _
    · exact .refl _ _
  · simp [Go.Av.foot] at hj
    subst hj
    exact .inr (Nat.le_refl _)
theorem Bld.weak {st : Store} {v : AV} {e : TypeId} {xs : List AV} (h : Bld st v e xs) : Weak v (.sl e xs) := by
  rcases h with ⟨rfl, rfl⟩ | rfl | ⟨t, rfl, _⟩
  · exact .nils _
  · exact .lit _ _
  · exact .own _ _ _

theorem swap_perm {α : Type} [DecidableEq α] {ys : List α} {i j : Nat} {a b : α} (hi : ys[i]? = some a) (hj : ys[j]? = some b) : ((ys.set j a).set i b).Perm ys := by
  obtain ⟨hil, hia⟩ := List.getElem?_eq_some_iff.1 hi
  obtain ⟨hjl, hjb⟩ := List.getElem?_eq_some_iff.1 hj
  refine List.perm_iff_count.2 fun c => ?_
  rw [List.count_set (by simpa using hil), List.count_set hjl, hjb]
  have h1 : (ys.set j a)[i]'(by simpa using hil) = a := by
    rw [List.getElem_set]
    split
    · rfl
    · exact hia
  rw [h1]
  have hb : b ∈ ys := List.mem_of_getElem? hj
  by_cases hab : b = c
  · subst hab
    have := List.count_pos_iff.2 hb
    by_cases hac : a = b
    · subst hac; simp; omega
    · simp [hac]; omega
  · by_cases hac : a = c
    · subst hac; simp [hab]
    · simp [hab, hac]

theorem App.fr {σ σ' : Store} {x v : AV} {e : TypeId} {zs : List AV} (h : App σ x e zs v σ') : Fr (foot x) σ σ' := ⟨h.len, fun j hj hF => h.old j hj fun e => hF (by cases x <;> simp [tokOf] at e; subst e; simp [foot])⟩
theorem foot_tok {st : Store} {v : AV} {e : TypeId} {xs : List AV} (h : Bld st v e xs) {j : Nat} : j ∈ foot v ↔ tokOf v = some j := by
  rcases h with ⟨rfl, rfl⟩ | rfl | ⟨t, rfl, _⟩
  · simp [foot, tokOf]
  · simp [foot, tokOf]
  · simp [foot, tokOf]; exact eq_comm
theorem App.foot {σ σ' : Store} {x v : AV} {e : TypeId} {zs xs : List AV} (h : App σ x e zs v σ') (hx : Bld σ x e xs) : ∀ j ∈ foot v, j ∈ foot x ∨ σ.length ≤ j := fun j hj => by
  rw [foot_tok h.bld] at hj
  rw [foot_tok hx]
  rcases h.tok with e1 | ⟨t, e1, e2⟩
  · left; rw [← e1]; exact hj
  · right; rw [e1] at hj; cases hj; exact e2
theorem Bld.keep {st st' : Store} {v : AV} {e : TypeId} {xs : List AV} (h : Bld st v e xs) (hk : ∀ j ∈ foot v, st'[j]? = st[j]?) : Bld st' v e xs := by
  rcases h with h | h | ⟨t, rfl, h⟩
  · exact .inl h
  · exact .inr (.inl h)
  · exact .inr (.inr ⟨t, rfl, by rw [hk t (by simp [foot]), h]⟩)
theorem Bld.lt {st : Store} {v : AV} {e : TypeId} {xs : List AV} (h : Bld st v e xs) : ∀ j ∈ foot v, j < st.length := by
  rcases h with ⟨rfl, _⟩ | rfl | ⟨t, rfl, h⟩
  · simp [foot]
  · simp [foot]
  · intro j hj; simp [foot] at hj; subst hj; exact (List.getElem?_eq_some_iff.1 h).1
theorem Bld.ne {st : Store} {v : AV} {e : TypeId} {xs : List AV} (h : Bld st v e xs) {id : Nat} {o : SObj} (hid : st[id]? = some (some o)) (ho : o ≠ .tok) : id ∉ foot v := fun hj => by
  rcases h with ⟨rfl, _⟩ | rfl | ⟨t, rfl, h⟩
  · simp [foot] at hj
  · simp [foot] at hj
  · simp [foot] at hj; subst hj; rw [hid] at h; cases h; exact ho rfl
theorem RowSt.keep {st st' : Store} {v : AV} {e : TypeId} {xs : List AV} (h : RowSt st v e xs) (hk : ∀ j ∈ foot v, st'[j]? = st[j]?) : RowSt st' v e xs := by
  rcases h with h | h | ⟨id, off, m, zs, rfl, h, h2⟩
  · exact .inl h
  · exact .inr (.inl h)
  · exact .inr (.inr ⟨id, off, m, zs, rfl, by rw [hk id (by simp [foot]), h], h2⟩)
theorem RowSt.lt {st : Store} {v : AV} {e : TypeId} {xs : List AV} (h : RowSt st v e xs) : ∀ j ∈ foot v, j < st.length := by
  rcases h with ⟨rfl, _⟩ | rfl | ⟨id, off, m, zs, rfl, h, _⟩
  · simp [foot]
  · simp [foot]
  · intro j hj; simp [foot] at hj; subst hj; exact (List.getElem?_eq_some_iff.1 h).1

/-- What a literal says. -/
def litT (M : Nat → Bool) (l : Int) : Bool := if 0 < l then M l.natAbs else !M l.natAbs
def claT (M : Nat → Bool) (c : List Int) : Bool := c.any (litT M)
def setT (M : Nat → Bool) (cls : List (List Int)) : Bool := cls.all (claT M)
/-- A literal that may be: of the variables 1 to n. -/
def wfL (n : Nat) (l : Int) : Bool := decide (l ≠ 0) && decide (l.natAbs ≤ n)
def wfC (n : Nat) (c : List Int) : Bool := c.all (wfL n)

theorem litT_neg {M : Nat → Bool} {l : Int} (h : l ≠ 0) : litT M (-l) = !litT M l := by
  unfold litT
  rw [Int.natAbs_neg]
  by_cases h1 : 0 < l
  · rw [if_pos h1, if_neg (by omega)]
  · rw [if_neg h1, if_pos (by omega), Bool.not_not]

theorem claT_perm {M : Nat → Bool} {c d : List Int} (h : ∀ l, l ∈ c ↔ l ∈ d) : claT M c = claT M d := by
  unfold claT
  rw [Bool.eq_iff_iff, List.any_eq_true, List.any_eq_true]
  exact ⟨fun ⟨l, h1, h2⟩ => ⟨l, (h l).1 h1, h2⟩, fun ⟨l, h1, h2⟩ => ⟨l, (h l).2 h1, h2⟩⟩

end Go.Av
end
