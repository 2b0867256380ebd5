/- 'chandlerlaw19.StrongAlone' holds, as its tied card says it: for any packages and any package that can be read as data, whatever lies in memory. Conditions: those of the given row alone (the two tables of unicode/utf8 that it lists hold what the program's text lays). -/
import Derived.Deep.DeepHandedRow
import Derived.SevenTiedAt
import Derived.JoinedCond
import Derived.Test.YtljcjoglabbcoaaGreatDoorCards
import Derived.Test.YtljcjoglabbcoaaGreatDoorTie
import Derived.Test.YtljcjoglabbcoaaGreatDoorWc
section
namespace Go.Av
section
variable {P : Program} {W0 : World} {A : AState}

def rowId : AV → Option Nat
  | .row _ id _ _ => some id
  | _ => none

/-- A row that a call has made since the store was σ, or none yet. -/
structure Rowed (σ st : Store) (v : AV) (e : TypeId) (xs : List AV) : Prop where
  row : RowSt st v e xs
  ext : Ext σ st
  low : ∀ id, rowId v = some id → σ.length ≤ id

theorem Rowed.nil {σ st : Store} (h : Ext σ st) (e : TypeId) : Rowed σ st .nils e [] := ⟨.inl ⟨rfl, rfl⟩, h, fun t h => by cases h⟩
theorem Rowed.notM {σ st : Store} {v : AV} {e : TypeId} {xs : List AV} (h : Rowed σ st v e xs) : NotM v := by
  rcases h.row with ⟨rfl, rfl⟩ | rfl | ⟨_, _, _, _, rfl, _⟩ <;> trivial
theorem Rowed.ok {σ st : Store} {v : AV} {e : TypeId} {xs : List AV} (h : Rowed σ st v e xs) (g : Option Bool) : okM g v = True := okM_notM h.notM
theorem Rowed.un {σ st : Store} {v : AV} {e : TypeId} {xs : List AV} (h : Rowed σ st v e xs) : unm v = v := unm_notM h.notM
theorem RowSt.len {st : Store} {v : AV} {e : TypeId} {xs : List AV} (h : RowSt st v e xs) : lenV v = .int .i64 xs.length := by
  rcases h with ⟨rfl, rfl⟩ | rfl | ⟨id, off, m, zs, rfl, _, h1, rfl⟩
  · rfl
  · rfl
  · have : ((zs.drop off).take m).length = m := by simp; omega
    rw [this]; rfl
theorem RowSt.lenC {st : Store} {v : AV} {e : TypeId} {xs : List AV} (h : RowSt st v e xs) (P : Program) (t : TypeId) : lenC P t v = ((elT P t).isSome = true) := by
  rcases h with ⟨rfl, rfl⟩ | rfl | ⟨id, off, m, zs, rfl, _, h1, rfl⟩ <;> rfl
theorem RowSt.read {st : Store} {v : AV} {e : TypeId} {xs : List AV} (h : RowSt st v e xs) : ReadL st v e xs := by
  rcases h with h | rfl | h
  · exact .inr (.inl h)
  · exact .inl rfl
  · exact .inr (.inr h)

theorem Rowed.more {σ st : Store} {v : AV} {e : TypeId} {xs : List AV} (h : Rowed σ st v e xs) (l : Store) : Rowed σ (st ++ l) v e xs := by
  refine ⟨?_, h.ext.app l, h.low⟩
  rcases h.row with h1 | h1 | ⟨id, off, m, zs, h1, h2, h3⟩
  · exact .inl h1
  · exact .inr (.inl h1)
  · exact .inr (.inr ⟨id, off, m, zs, h1, by rw [List.getElem?_append_left ((List.getElem?_eq_some_iff.1 h2).1)]; exact h2, h3⟩)

theorem Rowed.killed {σ st : Store} {v : AV} {e : TypeId} {xs : List AV} (h : Rowed σ st v e xs) (l : Store) : Ext σ (killOf v st ++ l) := by
  refine Ext.app ?_ l
  unfold killOf
  split
  · exact h.ext.set (h.low _ rfl) _
  · exact h.ext

theorem AppA.rowed {σ : Store} {t u e : TypeId} {x y : AV} {xs ys : List AV} {dst : Option Nat} {k : AState → Prop} (N : Nat) (ho : appB P t u e N = true) (h : Rowed σ A.st x e xs) (hy : ReadL A.st y e ys) (hN : xs.length + ys.length ≤ N)
    (hk : ∀ v st', Rowed σ st' v e (xs ++ ys) → k ((A.put dst v).withSt st')) : AppA P [t, u] [x, y] dst A k .mk := by
  refine AppA.row N ho h.row hy hN (fun he => hk _ _ (by rw [he, List.append_nil]; exact h)) fun he => hk _ _ ⟨.inr (.inr ⟨A.st.length, 0, _, xs ++ ys, rfl, ?_, by simp, by rw [List.drop_zero, List.take_of_length_le (by simp)]⟩), h.killed _, fun id hid => ?_⟩
  · have : (killOf x A.st).length = A.st.length := by unfold killOf; split <;> simp
    rw [← this, List.getElem?_append_right (Nat.le_refl _), Nat.sub_self]
    rfl
  · cases hid
    exact h.ext.le

theorem Rowed.endr {σ : Store} {v : AV} {e : TypeId} {xs : List AV} {d : Nat} {x : Exit} (h : Rowed σ A.st v e xs) (hx : x = .ret ∨ x = .normal) (hd : A.env d = v) : EndR (fun A => Weak (resOf A.env [d]) (.sl e xs) ∧ A.st.take σ.length = σ) x A := by
  have fin : ∀ {B : AState}, Weak (resOf B.env [d]) (.sl e xs) → B.st.take σ.length = σ → EndR (fun A => Weak (resOf A.env [d]) (.sl e xs) ∧ A.st.take σ.length = σ) x B := fun h1 h2 => by
    rcases hx with rfl | rfl
    · exact .ret ⟨h1, h2⟩
    · exact .normal ⟨h1, h2⟩
  rcases h.row with ⟨rfl, rfl⟩ | rfl | ⟨id, off, m, zs, rfl, h1, h2, rfl⟩
  · exact fin (by simp only [resOf, hd]; exact .nils _) h.ext
  · exact fin (by simp only [resOf, hd]; exact .lit _ _) h.ext
  · refine EndR.frz d hd h1 h2 (fin ?_ ?_)
    · simp [resOf, AState.upd, AState.withSt]
      exact .refl _
    · exact h.ext.set (h.low _ rfl) _
end
end Go.Av
end
section
namespace Go.Proofs.Tryz
open Go Go.Av
set_option maxRecDepth 10000
set_option linter.unusedSimpArgs false
set_option linter.unusedVariables false
variable {W0 : World}

theorem sl_grow (σ : Store) (n : Nat) (hn : n ≤ 1048576) :
    ACall prog W0 71 [.nils, .int .i64 n] σ fun r σ' => Rowed σ σ' r 49 [] := by
  refine fn_call [4] [] func71 rfl rfl ntmps71 rfl rfl fun hs => ?_
  simp only [go_sem, simprocAttr, ↓reduceIte]
  refine JoinVC.at [0, 1] (by kernel_rfl) (fun A => A.st = σ) (fun h => absurd (of_decide_eq_true h) (by omega)) (fun _ => ?_) fun B hst => ?_
  · simp only [go_sem, simprocAttr, ↓reduceIte]
  simp only [go_sem, simprocAttr, ↓reduceIte, hst]
  have hw : IntKind.i64.wrap ((n : Int) - 0) = n := by rw [Int.sub_zero, wrap_in (by omega)]
  simp only [hw]
  refine JoinVC.at [] (by kernel_rfl) (fun A => Rowed σ A.st (A.env 0) 49 []) (fun h => ?_) (fun _ => ?_) fun B hb => ?_
  · simp only [go_sem, simprocAttr, ↓reduceIte, hst]
    refine AppA.zero (e := 49) 1048576 (by kernel_rfl) (kn := .i64) (by kernel_rfl) (z := .nils) (by kernel_rfl) (by kernel_rfl) (by have := of_decide_eq_true h; omega) hn ?_
    simp only [go_sem, simprocAttr, ↓reduceIte, hst]
    exact ⟨Nat.zero_le _, .inr (.inr ⟨_, 0, 0, List.replicate n .nils, rfl, by simp, by simp, rfl⟩), (Ext.refl _).app _, fun id h => by cases h; exact Nat.le_refl _⟩
  · simp only [go_sem, simprocAttr, ↓reduceIte, hst]
    exact .nil (.refl _) _
  simp only [go_sem, simprocAttr, ↓reduceIte, hb.ok, hb.un]
  refine EndR.ret ?_
  simp only [go_sem, simprocAttr, ↓reduceIte]
  exact ⟨_, .refl _, hb.ext.le, hb⟩

theorem flat_succ {α : Type} {ls : List (List α)} {i : Nat} {l : List α} (h : ls[i]? = some l) : (ls.take (i + 1)).flatten = (ls.take i).flatten ++ l := by
  rw [take_succ_get h, List.flatten_append]; simp

theorem sl_concat (ls : List (List Clause)) (hls : ls.length ≤ 1048576) (hn : ls.flatten.length ≤ 1048576) :
    PureFn prog W0 46 [.sl 34 (ls.map clausesAV)] (clausesAV ls.flatten) := by
  refine fn_pureZ [2] [] func46 rfl rfl ntmps46 rfl rfl (ids_clauses _) fun hs σ => ?_
  have hfl : ∀ i, (ls.take i).flatten.length ≤ 1048576 := fun i => by
    have : ls.flatten.length = (ls.take i).flatten.length + (ls.drop i).flatten.length := by
      rw [← List.length_append, ← List.flatten_append, List.take_append_drop]
    omega
  simp only [go_sem, simprocAttr, ↓reduceIte, List.length_map]
  refine LoopVC.at [0] (.of (by kernel_rfl)) (fun A => A.env 3 = .int .i64 ls.flatten.length ∧ A.st = σ) ?_ fun B ⟨h3, hst⟩ => ?_
  · refine LoopVC.upto [0, 9, 10] (.of (by kernel_rfl)) ls.length (fun i A => A.env 11 = .int .i64 i ∧ A.st = σ ∧ A.env 3 = .int .i64 (ls.take i).flatten.length) 0 (Nat.zero_le _) ?_ fun i B hi ⟨h8, hst, h3⟩ => ?_
    · simp only [go_sem, simprocAttr, ↓reduceIte]
      try simp
    simp only [go_sem, simprocAttr, ↓reduceIte, h8, h3, hst, List.length_map]
    refine ⟨fun hc => ⟨hc, ?_⟩, fun hc => by rw [List.take_of_length_le hc]⟩
    obtain ⟨l, hl⟩ := get_some hc
    simp only [atV_map hl]
    have h1 := hfl i
    have h2 := hfl (i + 1)
    rw [flat_succ hl, List.length_append] at h2
    have hw : IntKind.i64.wrap (((ls.take i).flatten.length : Int) + (l.length : Int)) = (((ls.take (i + 1)).flatten.length : Nat) : Int) := by
      rw [flat_succ hl, List.length_append, wrap_in (by omega), Int.natCast_add]
    simp only [go_sem, simprocAttr, ↓reduceIte, clausesAV, h8, h3, hst, List.length_map, hw]
    exact ⟨fun h => absurd h (by omega), fun _ => ⟨hc, int_succ hc (by rw [maxLen_eq]; omega)⟩⟩
  simp only [go_sem, simprocAttr, ↓reduceIte, h3, hst]
  refine CallA.goes (by simp only [go_sem, simprocAttr, ↓reduceIte, hst]) (sl_grow σ _ hn) fun r σ' hr => ?_
  simp only [go_sem, simprocAttr, ↓reduceIte, h3, hst, hr.ok, hr.un, List.length_map]
  refine LoopVC.at [] (.of (by kernel_rfl)) (fun A => ∃ v, A.env 6 = v ∧ Rowed σ A.st v 49 (ls.flatten.map atomsAV)) ?_ fun B ⟨v, h6, hb⟩ => ?_
  · refine LoopVC.upto [25, 26] (.of (by kernel_rfl)) ls.length (fun i A => A.env 27 = .int .i64 i ∧ ∃ v, A.env 6 = v ∧ Rowed σ A.st v 49 ((ls.take i).flatten.map atomsAV)) 0 (Nat.zero_le _) ?_ fun i B hi ⟨h8, v, h6, hb⟩ => ?_
    · simp only [go_sem, simprocAttr, ↓reduceIte]
      exact ⟨_, rfl, hr⟩
    simp only [go_sem, simprocAttr, ↓reduceIte, h8, h6, List.length_map]
    refine ⟨fun hc => ⟨hc, ?_⟩, fun hc => ⟨_, rfl, by rw [List.take_of_length_le hc] at hb; exact hb⟩⟩
    obtain ⟨l, hl⟩ := get_some hc
    have h2 := hfl (i + 1)
    rw [flat_succ hl, List.length_append] at h2
    simp only [atV_map hl]
    simp only [go_sem, simprocAttr, ↓reduceIte, clausesAV, h8, h6, hb.ok, hb.un, List.length_map]
    refine AppA.rowed 1048576 (by kernel_rfl) hb (.sl _ _ _) (by rw [List.length_map, List.length_map]; exact h2) fun v' st' hb' => ?_
    simp only [go_sem, simprocAttr, ↓reduceIte, h8]
    refine ⟨hc, int_succ hc (by rw [maxLen_eq]; omega), _, rfl, ?_⟩
    rw [flat_succ hl, List.map_append]
    exact hb'
  simp only [go_sem, simprocAttr, ↓reduceIte, h6, hb.ok, hb.un]
  exact Rowed.endr (hb) (.inl rfl) (by simp only [go_sem, simprocAttr, ↓reduceIte])
end Go.Proofs.Tryz
end
section
namespace Go.Av

theorem CallA.readsC {P : Program} {W0 : World} {A : AState} {g : FuncId} {caps us : List AV} {dst : Option Nat} {k : AState → Prop} {r : AV} {σ : Store} (hσ : A.st = σ) (h : ACall P W0 g (us ++ caps) σ fun r' σ' => r' = r ∧ σ' = σ) (hk : k (A.put dst r)) : CallA P W0 (.fn g caps) us dst A k .mk := .go hσ h fun r' σ' ⟨h1, h2⟩ => by
  subst h1 h2 hσ
  rwa [put_withSt]

section
variable {P : Program}
@[go_sem] theorem binV_pneq (t t' : TypeId) (id i : Nat) (path : List Nat) : binV P .neq t (.ptr t' id i path) .nil = if isPtrT P t then .bool true else .undef := by simp only [binV, abin, eqAV, AV.isPtr, Bool.and_true]; split <;> rfl
@[go_sem] theorem binC_pneq (t t' : TypeId) (id i : Nat) (path : List Nat) : binC P .neq t (.ptr t' id i path) .nil = (isPtrT P t = true) := by simp only [binC, abin, eqAV, AV.isPtr, Bool.and_true]; split <;> simp_all
@[go_sem] theorem binV_peql (t t' : TypeId) (id i : Nat) (path : List Nat) : binV P .eql t (.ptr t' id i path) .nil = if isPtrT P t then .bool false else .undef := by simp only [binV, abin, eqAV, AV.isPtr, Bool.and_true]; split <;> rfl
@[go_sem] theorem binC_peql (t t' : TypeId) (id i : Nat) (path : List Nat) : binC P .eql t (.ptr t' id i path) .nil = (isPtrT P t = true) := by simp only [binC, abin, eqAV, AV.isPtr, Bool.and_true]; split <;> simp_all
@[go_sem] theorem binV_nneq (t : TypeId) : binV P .neq t .nil .nil = if isPtrT P t then .bool false else .undef := by simp only [binV, abin, eqAV]; split <;> rfl
@[go_sem] theorem binC_nneq (t : TypeId) : binC P .neq t .nil .nil = (isPtrT P t = true) := by simp only [binC, abin, eqAV]; split <;> simp_all
@[go_sem] theorem binV_neql (t : TypeId) : binV P .eql t .nil .nil = if isPtrT P t then .bool true else .undef := by simp only [binV, abin, eqAV]; split <;> rfl
@[go_sem] theorem binC_neql (t : TypeId) : binC P .eql t .nil .nil = (isPtrT P t = true) := by simp only [binC, abin, eqAV]; split <;> simp_all
end

/-- Another store, the same but for some objects, and more behind. -/
structure Fr (F : List Nat) (σ σ' : Store) : Prop where
  len : σ.length ≤ σ'.length
  old : ∀ j, j < σ.length → j ∉ F → σ'[j]? = σ[j]?
/-- The objects that a value leans on. -/
def foot : AV → List Nat
  | .own _ _ t => [t]
  | .row _ id _ _ => [id]
  | _ => []
theorem Fr.refl (F : List Nat) (σ : Store) : Fr F σ σ := ⟨Nat.le_refl _, fun _ _ _ => rfl⟩
theorem Fr.ext {F : List Nat} {σ σ' : Store} (h : Ext σ σ') : Fr F σ σ' := ⟨h.le, fun j hj _ => by
  have e := congrArg (·[j]?) h
  simpa [List.getElem?_take, hj] using e⟩
theorem Fr.trans {F G : List Nat} {σ σ' σ'' : Store} (h : Fr F σ σ') (h' : Fr G σ' σ'') (hG : ∀ j ∈ G, j ∈ F ∨ σ.length ≤ j) : Fr F σ σ'' := ⟨Nat.le_trans h.len h'.len, fun j hj hF => by
  rw [h'.old j (Nat.lt_of_lt_of_le hj h.len) (fun e => by rcases hG j e with h1 | h1; exact hF h1; omega), h.old j hj hF]⟩
theorem Fr.set {F : List Nat} {σ σ' : Store} (h : Fr F σ σ') {id : Nat} (hid : id ∈ F ∨ σ.length ≤ id) (o : Option SObj) : Fr F σ (σ'.set id o) := ⟨by simpa using h.len, fun j hj hF => by
  rw [List.getElem?_set_ne (fun e => by subst e; rcases hid with h1 | h1; exact hF h1; omega), h.old j hj hF]⟩
theorem Fr.app {F : List Nat} {σ σ' : Store} (h : Fr F σ σ') (l : Store) : Fr F σ (σ' ++ l) := ⟨by have := h.len; simp; omega, fun j hj hF => by
  rw [List.getElem?_append_left (by have := h.len; omega), h.old j hj hF]⟩
theorem Fr.mono {F G : List Nat} {σ σ' : Store} (h : Fr F σ σ') (hG : ∀ j ∈ F, j ∈ G) : Fr G σ σ' := ⟨h.len, fun j hj hF => h.old j hj fun e => hF (hG j e)⟩
theorem Fr.toExt {F : List Nat} {σ σ' : Store} (h : Fr F σ σ') {τ : Store} (ht : Ext τ σ) (hF : ∀ j ∈ F, τ.length ≤ j) : Ext τ σ' := by
  refine List.ext_getElem? fun i => ?_
  have := ht.le
  have := h.len
  rw [List.getElem?_take]
  by_cases hi : i < τ.length
  · rw [if_pos hi, h.old i (by omega) (fun e => by have := hF i e; omega)]
    have e := congrArg (·[i]?) ht
    simpa [List.getElem?_take, hi] using e
  · rw [if_neg hi, List.getElem?_eq_none (by omega)]
theorem live_set {σ : Store} {id : Nat} {te : TypeId} {xs : List AV} (h : id < σ.length) : live (σ.set id (some (.cells te xs))) id = True := eq_true ⟨te, xs, by simp [h]⟩
theorem live_id {σ : Store} {id : Nat} {te : TypeId} {xs : List AV} (h : σ[id]? = some (some (.cells te xs))) : live σ id = True := eq_true ⟨te, xs, h⟩
theorem Bld.notM {st : Store} {v : AV} {e : TypeId} {xs : List AV} (h : Bld st v e xs) : NotM v := by
  rcases h with ⟨rfl, rfl⟩ | rfl | ⟨t, rfl, _⟩ <;> trivial
theorem Bld.ok {st : Store} {v : AV} {e : TypeId} {xs : List AV} (h : Bld st v e xs) (g : Option Bool) : okM g v = True := okM_notM h.notM
theorem Bld.un {st : Store} {v : AV} {e : TypeId} {xs : List AV} (h : Bld st v e xs) : unm v = v := unm_notM h.notM
theorem Bld.len {st : Store} {v : AV} {e : TypeId} {xs : List AV} (h : Bld st v e xs) : lenV v = .int .i64 xs.length := by
  rcases h with ⟨rfl, rfl⟩ | rfl | ⟨t, rfl, _⟩ <;> rfl
theorem Bld.lenC {st : Store} {v : AV} {e : TypeId} {xs : List AV} (h : Bld st v e xs) (P : Program) (t : TypeId) : lenC P t v = ((elT P t).isSome = true) := by
  rcases h with ⟨rfl, rfl⟩ | rfl | ⟨t, rfl, _⟩ <;> rfl
theorem Bld.fits {st : Store} {v : AV} {e : TypeId} {xs : List AV} (h : Bld st v e xs) (P : Program) (t : TypeId) : fitsB P t v = prim P t := by
  rcases h with ⟨rfl, rfl⟩ | rfl | ⟨t, rfl, _⟩ <;> rfl
theorem RowSt.fits {st : Store} {v : AV} {e : TypeId} {xs : List AV} (h : RowSt st v e xs) (P : Program) (t : TypeId) : fitsB P t v = prim P t := by
  rcases h with ⟨rfl, rfl⟩ | rfl | ⟨_, _, _, _, rfl, _⟩ <;> rfl
theorem RowSt.notM {st : Store} {v : AV} {e : TypeId} {xs : List AV} (h : RowSt st v e xs) : NotM v := by
  rcases h with ⟨rfl, rfl⟩ | rfl | ⟨_, _, _, _, rfl, _⟩ <;> trivial
theorem RowSt.ok {st : Store} {v : AV} {e : TypeId} {xs : List AV} (h : RowSt st v e xs) (g : Option Bool) : okM g v = True := okM_notM h.notM
theorem RowSt.un {st : Store} {v : AV} {e : TypeId} {xs : List AV} (h : RowSt st v e xs) : unm v = v := unm_notM h.notM
theorem AppA.ownS {P : Program} {A : AState} {σ : Store} {t u e : TypeId} {x y : AV} {xs ys : List AV} {dst : Option Nat} {k : AState → Prop} (hσ : A.st = σ) (N : Nat) (ho : appB P t u e N = true) (hb : Bld σ x e xs) (hy : ReadL σ y e ys) (hN : xs.length + ys.length ≤ N)
    (hk : ∀ v σ', App σ x e (xs ++ ys) v σ' → k ((A.put dst v).withSt σ')) : AppA P [t, u] [x, y] dst A k .mk := by
  subst hσ
  exact .own N ho hb hy hN hk
theorem Bld.idxV {st : Store} {v : AV} {e : TypeId} {xs : List AV} (h : Bld st v e xs) (h0 : 0 < xs.length) (P : Program) (t : TypeId) (i : Int) : indexAddrV P t i v = .loc e (atV xs i) := by
  rcases h with ⟨rfl, rfl⟩ | rfl | ⟨t, rfl, _⟩
  · exact absurd h0 (by simp)
  · rfl
  · rfl
theorem Bld.idxC {st : Store} {v : AV} {e : TypeId} {xs : List AV} (h : Bld st v e xs) (h0 : 0 < xs.length) (P : Program) (gd : Option Bool) (σ : Store) (t : TypeId) (i : Int) : indexAddrC P gd σ t i v = (elT P t = some e ∧ 0 < szOf P e ∧ imp gd (0 ≤ i ∧ i.toNat < xs.length)) := by
  rcases h with ⟨rfl, rfl⟩ | rfl | ⟨t, rfl, _⟩
  · exact absurd h0 (by simp)
  · rfl
  · rfl
/-- A row that may be written, or none yet. -/
def RowV (σ : Store) (x : AV) (e : TypeId) (xs : List AV) : Prop := (x = .nils ∧ xs = []) ∨ ∃ id off m zs, x = .row e id off m ∧ σ[id]? = some (some (.cells e zs)) ∧ off + m ≤ zs.length ∧ xs = (zs.drop off).take m
theorem RowV.st {σ : Store} {v : AV} {e : TypeId} {xs : List AV} (h : RowV σ v e xs) : RowSt σ v e xs := by
  rcases h with h | h
  · exact .inl h
  · exact .inr (.inr h)
def cutR (a b : Nat) : AV → AV
  | .row e id off _ => .row e id (off + a) (b - a)
  | v => v
@[go_sem] theorem cutR_row (a b : Nat) (e : TypeId) (id off m : Nat) : cutR a b (.row e id off m) = .row e id (off + a) (b - a) := rfl
@[go_sem] theorem cutR_nils (a b : Nat) : cutR a b .nils = .nils := rfl
theorem RowV.len' {σ : Store} {e : TypeId} {xs : List AV} {id off m : Nat} {zs : List AV} (h : off + m ≤ zs.length) (hx : xs = (zs.drop off).take m) : xs.length = m := by
  rw [hx]; simp; omega
theorem RowV.cutV {σ : Store} {v : AV} {e : TypeId} {xs : List AV} (h : RowV σ v e xs) (A : AState) (lo hi : Option Operand) : sliceV A lo hi v = cutR (bndV A 0 lo) (bndV A xs.length hi) v := by
  rcases h with ⟨rfl, rfl⟩ | ⟨id, off, m, zs, rfl, h1, h2, h3⟩
  · rfl
  · rw [RowV.len' (σ := σ) (e := e) (id := id) h2 h3]; rfl
theorem RowV.cutC {P : Program} {gd : Option Bool} {σ : Store} {v : AV} {e : TypeId} {xs : List AV} (h : RowV σ v e xs) {t : TypeId} (ht : elT P t = some e) (A : AState) (lo hi : Option Operand) : sliceC P gd A t lo hi v = (0 < szOf P e ∧ Go.Av.cutC gd A lo hi xs.length) := by
  rcases h with ⟨rfl, rfl⟩ | ⟨id, off, m, zs, rfl, h1, h2, h3⟩
  · rw [sliceC_nils, ht]
    simp only [Option.isSome_some, true_and, Option.getD_some, Go.Av.cutC, List.length_nil, Nat.le_zero]
    have : imp gd (bndV A 0 lo = 0 ∧ bndV A 0 hi = 0) = imp gd (bndV A 0 lo ≤ bndV A 0 hi ∧ bndV A 0 hi = 0) := by
      congr 1
      refine propext ⟨fun ⟨h1, h2⟩ => ⟨by omega, h2⟩, fun ⟨h1, h2⟩ => ⟨by omega, h2⟩⟩
    rw [this]
  · rw [sliceC_row, ht, RowV.len' (σ := σ) (e := e) (id := id) h2 h3]
    simp
theorem RowV.cut {σ : Store} {v : AV} {e : TypeId} {xs : List AV} (h : RowV σ v e xs) {a b : Nat} (hab : a ≤ b) (hb : b ≤ xs.length) : RowV σ (cutR a b v) e ((xs.drop a).take (b - a)) := by
  rcases h with ⟨rfl, rfl⟩ | ⟨id, off, m, zs, rfl, h1, h2, h3⟩
  · exact .inl ⟨rfl, by simp⟩
  · have hl := RowV.len' (σ := σ) (e := e) (id := id) h2 h3
    refine .inr ⟨id, off + a, b - a, zs, rfl, h1, by omega, ?_⟩
    rw [h3, List.drop_take, List.drop_drop, List.take_take, Nat.min_eq_left (by omega)]
theorem foot_cutR (a b : Nat) (v : AV) : foot (cutR a b v) = foot v := by cases v <;> rfl
theorem RowV.keep {st st' : Store} {v : AV} {e : TypeId} {xs : List AV} (h : RowV st v e xs) (hk : ∀ j ∈ foot v, st'[j]? = st[j]?) : RowV st' v e xs := by
  rcases h with h | ⟨id, off, m, zs, rfl, h, h2⟩
  · exact .inl h
  · exact .inr ⟨id, off, m, zs, rfl, by rw [hk id (by simp [foot]), h], h2⟩
theorem RowV.lt {st : Store} {v : AV} {e : TypeId} {xs : List AV} (h : RowV st v e xs) : ∀ j ∈ foot v, j < st.length := by
  rcases h with ⟨rfl, _⟩ | ⟨id, off, m, zs, rfl, h, _⟩
  · simp [foot]
  · intro j hj; simp [foot] at hj; subst hj; exact (List.getElem?_eq_some_iff.1 h).1
theorem RowV.ne {st : Store} {v : AV} {e te : TypeId} {xs ys : List AV} (h : RowV st v e xs) {id : Nat} (hid : st[id]? = some (some (.cells te ys))) (ht : te ≠ e) : id ∉ foot v := fun hj => by
  rcases h with ⟨rfl, _⟩ | ⟨id', off, m, zs, rfl, h, _⟩
  · simp [foot] at hj
  · simp [foot] at hj; subst hj; rw [hid] at h; cases h; exact ht rfl
/-- Behind a row that is appended to. -/
structure AppR (σ : Store) (x : AV) (e : TypeId) (zs : List AV) (v : AV) (σ' : Store) : Prop where
  row : RowV σ' v e zs
  fr : Fr (foot x) σ σ'
  foot : ∀ j ∈ foot v, j ∈ foot x ∨ σ.length ≤ j
theorem AppA.rowS {P : Program} {A : AState} {σ : Store} {t u e : TypeId} {x y : AV} {xs ys : List AV} {dst : Option Nat} {k : AState → Prop} (hσ : A.st = σ) (N : Nat) (ho : appB P t u e N = true) (hb : RowV σ x e xs) (hy : ReadL σ y e ys) (hN : xs.length + ys.length ≤ N)
    (hk : ∀ v σ', AppR σ x e (xs ++ ys) v σ' → k ((A.put dst v).withSt σ')) : AppA P [t, u] [x, y] dst A k .mk := by
  subst hσ
  have hkl : (killOf x A.st).length = A.st.length := by unfold killOf; split <;> simp
  refine AppA.row N ho hb.st hy hN (fun he => hk _ _ ⟨by rw [he, List.append_nil]; exact hb, .refl _ _, fun j hj => .inl hj⟩) fun he => hk _ _ ⟨.inr ⟨A.st.length, 0, _, xs ++ ys, rfl, ?_, by simp, by rw [List.drop_zero, List.take_of_length_le (by simp)]⟩, ?_, fun j hj => ?_⟩
  · rw [← hkl, List.getElem?_append_right (Nat.le_refl _), Nat.sub_self]
    rfl
  · refine Fr.app ?_ _
    unfold killOf
    split
    · exact (Fr.refl _ _).set (.inl (by simp [Go.Av.foot])) _
    · exact .refl _ _
  · simp [Go.Av.foot] at hj
    subst hj
    exact .inr (Nat.le_refl _)
theorem Bld.weak {st : Store} {v : AV} {e : TypeId} {xs : List AV} (h : Bld st v e xs) : Weak v (.sl e xs) := by
  rcases h with ⟨rfl, rfl⟩ | rfl | ⟨t, rfl, _⟩
  · exact .nils _
  · exact .lit _ _
  · exact .own _ _ _

theorem swap_perm {α : Type} [DecidableEq α] {ys : List α} {i j : Nat} {a b : α} (hi : ys[i]? = some a) (hj : ys[j]? = some b) : ((ys.set j a).set i b).Perm ys := by
  obtain ⟨hil, hia⟩ := List.getElem?_eq_some_iff.1 hi
  obtain ⟨hjl, hjb⟩ := List.getElem?_eq_some_iff.1 hj
  refine List.perm_iff_count.2 fun c => ?_
  rw [List.count_set (by simpa using hil), List.count_set hjl, hjb]
  have h1 : (ys.set j a)[i]'(by simpa using hil) = a := by
    rw [List.getElem_set]
    split
    · rfl
    · exact hia
  rw [h1]
  have hb : b ∈ ys := List.mem_of_getElem? hj
  by_cases hab : b = c
  · subst hab
    have := List.count_pos_iff.2 hb
    by_cases hac : a = b
    · subst hac; simp; omega
    · simp [hac]; omega
  · by_cases hac : a = c
    · subst hac; simp [hab]
    · simp [hab, hac]

theorem App.fr {σ σ' : Store} {x v : AV} {e : TypeId} {zs : List AV} (h : App σ x e zs v σ') : Fr (foot x) σ σ' := ⟨h.len, fun j hj hF => h.old j hj fun e => hF (by cases x <;> simp [tokOf] at e; subst e; simp [foot])⟩
theorem foot_tok {st : Store} {v : AV} {e : TypeId} {xs : List AV} (h : Bld st v e xs) {j : Nat} : j ∈ foot v ↔ tokOf v = some j := by
  rcases h with ⟨rfl, rfl⟩ | rfl | ⟨t, rfl, _⟩
  · simp [foot, tokOf]
  · simp [foot, tokOf]
  · simp [foot, tokOf]; exact eq_comm
theorem App.foot {σ σ' : Store} {x v : AV} {e : TypeId} {zs xs : List AV} (h : App σ x e zs v σ') (hx : Bld σ x e xs) : ∀ j ∈ foot v, j ∈ foot x ∨ σ.length ≤ j := fun j hj => by
  rw [foot_tok h.bld] at hj
  rw [foot_tok hx]
  rcases h.tok with e1 | ⟨t, e1, e2⟩
  · left; rw [← e1]; exact hj
  · right; rw [e1] at hj; cases hj; exact e2
theorem Bld.keep {st st' : Store} {v : AV} {e : TypeId} {xs : List AV} (h : Bld st v e xs) (hk : ∀ j ∈ foot v, st'[j]? = st[j]?) : Bld st' v e xs := by
  rcases h with h | h | ⟨t, rfl, h⟩
  · exact .inl h
  · exact .inr (.inl h)
  · exact .inr (.inr ⟨t, rfl, by rw [hk t (by simp [foot]), h]⟩)
theorem Bld.lt {st : Store} {v : AV} {e : TypeId} {xs : List AV} (h : Bld st v e xs) : ∀ j ∈ foot v, j < st.length := by
  rcases h with ⟨rfl, _⟩ | rfl | ⟨t, rfl, h⟩
  · simp [foot]
  · simp [foot]
  · intro j hj; simp [foot] at hj; subst hj; exact (List.getElem?_eq_some_iff.1 h).1
theorem Bld.ne {st : Store} {v : AV} {e : TypeId} {xs : List AV} (h : Bld st v e xs) {id : Nat} {o : SObj} (hid : st[id]? = some (some o)) (ho : o ≠ .tok) : id ∉ foot v := fun hj => by
  rcases h with ⟨rfl, _⟩ | rfl | ⟨t, rfl, h⟩
  · simp [foot] at hj
  · simp [foot] at hj
  · simp [foot] at hj; subst hj; rw [hid] at h; cases h; exact ho rfl
theorem RowSt.keep {st st' : Store} {v : AV} {e : TypeId} {xs : List AV} (h : RowSt st v e xs) (hk : ∀ j ∈ foot v, st'[j]? = st[j]?) : RowSt st' v e xs := by
  rcases h with h | h | ⟨id, off, m, zs, rfl, h, h2⟩
  · exact .inl h
  · exact .inr (.inl h)
  · exact .inr (.inr ⟨id, off, m, zs, rfl, by rw [hk id (by simp [foot]), h], h2⟩)
theorem RowSt.lt {st : Store} {v : AV} {e : TypeId} {xs : List AV} (h : RowSt st v e xs) : ∀ j ∈ foot v, j < st.length := by
  rcases h with ⟨rfl, _⟩ | rfl | ⟨id, off, m, zs, rfl, h, _⟩
  · simp [foot]
  · simp [foot]
  · intro j hj; simp [foot] at hj; subst hj; exact (List.getElem?_eq_some_iff.1 h).1

/-- What a literal says. -/
def litT (M : Nat → Bool) (l : Int) : Bool := if 0 < l then M l.natAbs else !M l.natAbs
def claT (M : Nat → Bool) (c : List Int) : Bool := c.any (litT M)
def setT (M : Nat → Bool) (cls : List (List Int)) : Bool := cls.all (claT M)
/-- A literal that may be: of the variables 1 to n. -/
def wfL (n : Nat) (l : Int) : Bool := decide (l ≠ 0) && decide (l.natAbs ≤ n)
def wfC (n : Nat) (c : List Int) : Bool := c.all (wfL n)

theorem litT_neg {M : Nat → Bool} {l : Int} (h : l ≠ 0) : litT M (-l) = !litT M l := by
  unfold litT
  rw [Int.natAbs_neg]
  by_cases h1 : 0 < l
  · rw [if_pos h1, if_neg (by omega)]
  · rw [if_neg h1, if_pos (by omega), Bool.not_not]

theorem claT_perm {M : Nat → Bool} {c d : List Int} (h : ∀ l, l ∈ c ↔ l ∈ d) : claT M c = claT M d := by
  unfold claT
  rw [Bool.eq_iff_iff, List.any_eq_true, List.any_eq_true]
  exact ⟨fun ⟨l, h1, h2⟩ => ⟨l, (h l).1 h1, h2⟩, fun ⟨l, h1, h2⟩ => ⟨l, (h l).2 h1, h2⟩⟩

end Go.Av
end
section
namespace Go.Proofs.Tryz
open Go Go.Av
set_option maxRecDepth 10000
set_option linter.unusedSimpArgs false
set_option linter.unusedVariables false
variable {W0 : World}

theorem ixLitR {α : Type} (enc : α → AV) (hp : ∀ a, NotM (enc a)) (l : List α) (q : α → Bool) (g : FuncId) (caps : List AV) (σ : Store) (h : ∀ a ∈ l, ACall prog W0 g ([enc a] ++ caps) σ fun r σ' => r = .bool (q a) ∧ σ' = σ) :
    ACall prog W0 133 [.sl 54 (l.map enc), .fn g caps] σ fun r σ' => r = .int .i64 (idxL q l) ∧ σ' = σ := by
  refine fn_st [4] [] func133 rfl rfl ntmps133 rfl rfl (.int _ _) fun hs => ?_
  have hl := (small_map (hs _ (List.mem_cons_self ..))).1
  simp only [go_sem, simprocAttr, ↓reduceIte]
  refine LoopVC.upto [0, 1, 7] (.of (by kernel_rfl)) l.length (fun i A => A.env 8 = .int .i64 i ∧ A.st = σ ∧ ∀ a ∈ l.take i, q a = false) 0 (Nat.zero_le _) ?_ fun i B hi ⟨h8, hst, hI⟩ => ?_
  · simp only [go_sem, simprocAttr, ↓reduceIte]
    all_goals simp
  simp only [go_sem, simprocAttr, ↓reduceIte, h8, hst, List.length_map]
  refine ⟨fun hc => ⟨hc, ?_⟩, fun hc => EndR.ret ?_⟩
  · obtain ⟨a, ha⟩ := get_some hc
    simp only [atV_map ha, okM_notM (hp a), unm_notM (hp a), true_and]
    refine CallA.readsC (by simp only [go_sem, simprocAttr, ↓reduceIte, hst]) (h a (List.mem_of_getElem? ha)) ?_
    simp only [go_sem, simprocAttr, ↓reduceIte, h8, hst]
    refine ⟨fun hq => EndR.ret ?_, fun hq => ⟨hc, int_succ hc hl, ?_⟩⟩
    · simp only [go_sem, simprocAttr, ↓reduceIte, hst]
      exact weak_int (idxL_at ha hq hI).symm
    rw [take_succ_get ha]
    intro b hb
    rcases List.mem_append.1 hb with hb | hb
    · exact hI b hb
    · rw [List.mem_singleton.1 hb]; exact hq
  · simp only [go_sem, simprocAttr, ↓reduceIte, hst]
    rw [idxL_none (by rwa [List.take_of_length_le hc] at hI)]
    exact .refl _
theorem ixLitsR {α : Type} (enc : α → AV) (hp : ∀ a, NotM (enc a)) (l : List α) (q : α → Bool) (g : FuncId) (caps : List AV) (σ : Store) (h : ∀ a ∈ l, ACall prog W0 g ([enc a] ++ caps) σ fun r σ' => r = .bool (q a) ∧ σ' = σ) :
    ACall prog W0 144 [.sl 84 (l.map enc), .fn g caps] σ fun r σ' => r = .int .i64 (idxL q l) ∧ σ' = σ := by
  refine fn_st [4] [] func144 rfl rfl ntmps144 rfl rfl (.int _ _) fun hs => ?_
  have hl := (small_map (hs _ (List.mem_cons_self ..))).1
  simp only [go_sem, simprocAttr, ↓reduceIte]
  refine LoopVC.upto [0, 1, 7] (.of (by kernel_rfl)) l.length (fun i A => A.env 8 = .int .i64 i ∧ A.st = σ ∧ ∀ a ∈ l.take i, q a = false) 0 (Nat.zero_le _) ?_ fun i B hi ⟨h8, hst, hI⟩ => ?_
  · simp only [go_sem, simprocAttr, ↓reduceIte]
    all_goals simp
  simp only [go_sem, simprocAttr, ↓reduceIte, h8, hst, List.length_map]
  refine ⟨fun hc => ⟨hc, ?_⟩, fun hc => EndR.ret ?_⟩
  · obtain ⟨a, ha⟩ := get_some hc
    simp only [atV_map ha, okM_notM (hp a), unm_notM (hp a), true_and]
    refine CallA.readsC (by simp only [go_sem, simprocAttr, ↓reduceIte, hst]) (h a (List.mem_of_getElem? ha)) ?_
    simp only [go_sem, simprocAttr, ↓reduceIte, h8, hst]
    refine ⟨fun hq => EndR.ret ?_, fun hq => ⟨hc, int_succ hc hl, ?_⟩⟩
    · simp only [go_sem, simprocAttr, ↓reduceIte, hst]
      exact weak_int (idxL_at ha hq hI).symm
    rw [take_succ_get ha]
    intro b hb
    rcases List.mem_append.1 hb with hb | hb
    · exact hI b hb
    · rw [List.mem_singleton.1 hb]; exact hq
  · simp only [go_sem, simprocAttr, ↓reduceIte, hst]
    rw [idxL_none (by rwa [List.take_of_length_le hc] at hI)]
    exact .refl _
theorem anLitR {α : Type} (enc : α → AV) (hp : ∀ a, NotM (enc a)) (l : List α) (q : α → Bool) (g : FuncId) (caps : List AV) (σ : Store) (h : ∀ a ∈ l, ACall prog W0 g ([enc a] ++ caps) σ fun r σ' => r = .bool (q a) ∧ σ' = σ) :
    ACall prog W0 99 [.sl 54 (l.map enc), .fn g caps] σ fun r σ' => r = .bool (l.any q) ∧ σ' = σ := by
  refine fn_st [4] [] func99 rfl rfl ntmps99 rfl rfl (.bool _) fun hs => ?_
  simp only [go_sem, simprocAttr, ↓reduceIte]
  refine CallA.reads (by simp only [go_sem, simprocAttr, ↓reduceIte]) (ixLitR enc hp l q g caps σ h) ?_
  simp only [go_sem, simprocAttr, ↓reduceIte]
  refine EndR.ret ?_
  simp only [go_sem, simprocAttr, ↓reduceIte]
  rw [idxL_ge]
  exact .refl _

theorem cn_variable (l : Int) (h : l.natAbs ≤ 9223372036854775807) : PureFn prog W0 101 [.int .i64 l] (.int .u64 (l.natAbs : Nat)) := by
  refine fn_pure [2] [] func101 rfl rfl ntmps101 rfl rfl (.int _ _) fun hs σ => ?_
  simp only [go_sem, simprocAttr, ↓reduceIte]
  refine ⟨fun h0 => weak_int ?_, fun h0 => weak_int ?_⟩
  · rw [IntKind.wrap_u64, IntKind.wrap_u64]; omega
  · rw [IntKind.wrap_u64]; omega

def litsAV (c : List Int) : AV := .sl 54 (c.map (.int .i64))
def clsAV (l : List (List Int)) : AV := .sl 84 (l.map litsAV)
theorem NotM.int64 (n : Int) : NotM (AV.int .i64 n) := trivial
theorem NotM.lits (c : List Int) : NotM (litsAV c) := trivial
@[go_sem] theorem okM_litsAV (g : Option Bool) (l : List Int) : okM g (litsAV l) = True := eq_true trivial
@[go_sem] theorem unm_litsAV (l : List Int) : unm (litsAV l) = litsAV l := rfl
@[go_sem] theorem fitsB_litsAV (P : Program) (t : TypeId) (l : List Int) : fitsB P t (litsAV l) = prim P t := rfl
theorem ids_lits (c : List Int) : IdsLt 0 (litsAV c) := ids_map (fun _ => .int _ _) c
theorem ids_cls (l : List (List Int)) : IdsLt 0 (clsAV l) := ids_map ids_lits l

/-- A set of clauses: its variables, its clauses. -/
def setO (n : Nat) (cv : AV) : Option SObj := some (.cells 112 [.agg 112 [.int .i64 n, cv]])

theorem cn_cmp (a b : Int) (ha : a.natAbs ≤ 9223372036854775807) (hb : b.natAbs ≤ 9223372036854775807) : PureFn prog W0 104 [.int .i64 a, .int .i64 b] (.int .i64 (orL [sgn (a.natAbs : Nat) (b.natAbs : Nat), sgn a b])) := by
  refine fn_pure [4] [] func104 rfl rfl ntmps104 rfl rfl (.int _ _) fun hs σ => ?_
  simp only [go_sem, simprocAttr, ↓reduceIte]
  refine CallA.fn (cn_variable a ha) ?_
  simp only [go_sem, simprocAttr, ↓reduceIte]
  refine CallA.fn (cn_variable b hb) ?_
  simp only [go_sem, simprocAttr, ↓reduceIte]
  refine CallA.fn (cmpUint _ _) ?_
  simp only [go_sem, simprocAttr, ↓reduceIte]
  refine CallA.fn (cmpLit a b) ?_
  simp only [go_sem, simprocAttr, ↓reduceIte]
  refine CallA.fn ((cmp_or [_, _]).weak (.cons (.lit _ _) .nil)) ?_
  simp only [go_sem, simprocAttr, ↓reduceIte]
  try exact .refl _

theorem cn_may1 (σ : Store) (id n : Nat) (cv : AV) (hid : σ[id]? = some (setO n cv)) (hn : n ≤ 9223372036854775807) (l : Int) (hl : l.natAbs ≤ 9223372036854775807) :
    ACall prog W0 100 [.int .i64 l, .loc 79 (.ptr 112 id 0 [])] σ fun r σ' => r = .bool (!wfL n l) ∧ σ' = σ := by
  refine fn_st [3] [] func100 rfl rfl ntmps100 rfl rfl (.bool _) fun hs => ?_
  simp only [go_sem, simprocAttr, ↓reduceIte]
  refine ⟨.of (by kernel_rfl), CallP.fnG (fun _ => cn_variable l hl) ?_⟩
  simp only [go_sem, simprocAttr, ↓reduceIte, look_id hid]
  refine EndR.ret ?_
  simp only [go_sem, simprocAttr, ↓reduceIte]
  refine weak_bool ?_
  have hw : IntKind.u64.wrap (n : Int) = n := by rw [IntKind.wrap_u64]; omega
  rw [hw, wfL, Bool.not_and, ← decide_not, ← decide_not]
  congr 1
  · rw [Bool.eq_iff_iff]; simp
  · exact decide_eq_decide.2 (by omega)

theorem cn_may (σ : Store) (id n : Nat) (cv : AV) (cls : List (List Int)) (hid : σ[id]? = some (setO n cv)) (hb : Bld σ cv 84 (cls.map litsAV)) (hn : n ≤ 9223372036854775807) (hc5 : cls.length < 5000) (c : List Int) (hc : ∀ l ∈ c, l.natAbs ≤ 9223372036854775807) :
    ACall prog W0 77 [.ptr 112 id 0 [], litsAV c] σ fun r σ' => r = .bool (wfC n c) ∧ σ' = σ := by
  refine fn_st [4] [2] func77 rfl rfl ntmps77 rfl rfl (.bool _) fun hs => ?_
  have h5 : decide ((cls.length : Int) < 5000) = true := decide_eq_true (by omega)
  simp only [go_sem, simprocAttr, ↓reduceIte, look_id hid, hb.ok, hb.un, hb.len, hb.lenC, List.length_map, h5]
  refine CallP.st (fun _ => anLitR (.int .i64) NotM.int64 c (fun l => !wfL n l) _ [.loc 79 (.ptr 112 id 0 [])] σ fun l hl => cn_may1 σ id n cv hid hn l (hc l hl)) ?_
  simp only [go_sem, simprocAttr, ↓reduceIte]
  refine EndR.ret ?_
  simp only [go_sem, simprocAttr, ↓reduceIte]
  refine weak_bool ?_
  rw [wfC, List.all_eq_not_any_not]

theorem sl_clone (c : List Int) (h0 : c ≠ []) (hl : c.length ≤ 1048576) : PureFn prog W0 102 [litsAV c] (litsAV c) := by
  refine fn_pure [2] [] func102 rfl rfl ntmps102 rfl rfl (ids_lits _) fun hs σ => ?_
  cases c with
  | nil => exact absurd rfl h0
  | cons x c =>
    simp only [go_sem, simprocAttr, ↓reduceIte, litsAV]
    refine AppA.own 1048576 (by kernel_rfl) (.inr (.inl rfl)) (.sl _ _ _) (by simpa using hl) fun v' σ' ha' => ?_
    have hb' := (Built.app (σ := σ) ⟨.inr (.inl rfl), .refl _, fun t h => by cases h⟩ ha')
    simp only [go_sem, simprocAttr, ↓reduceIte, hb'.ok, hb'.un]
    exact ⟨hb'.weak, hb'.ext⟩

theorem sl_cloneRow (σ : Store) (c : List Int) (h0 : c ≠ []) (hl : c.length ≤ 1048576) : ACall prog W0 102 [litsAV c] σ fun r σ' => r = .row 54 σ.length 0 c.length ∧ σ' = σ ++ [some (.cells 54 (c.map (.int .i64)))] := by
  refine fn_call [2] [] func102 rfl rfl ntmps102 rfl rfl fun hs => ?_
  cases c with
  | nil => exact absurd rfl h0
  | cons x c =>
    simp only [go_sem, simprocAttr, ↓reduceIte, litsAV]
    refine AppA.row 1048576 (by kernel_rfl) (.inr (.inl rfl)) (.sl _ _ _) (by simpa using hl) (fun h => by cases h) fun _ => ?_
    simp only [go_sem, simprocAttr, ↓reduceIte]
    refine EndR.ret ?_
    simp only [go_sem, simprocAttr, ↓reduceIte]
    exact ⟨_, .refl _, by simp [killOf], by simp, rfl⟩

theorem so_insertion (σ : Store) (id : Nat) (xs : List Int) (lo hi : Nat) (hlo : lo ≤ hi) (hhi : hi ≤ xs.length) (hid : σ[id]? = some (some (.cells 54 (xs.map (.int .i64))))) (hx : xs.length ≤ 1048576) (f : Int → Int → Int) (g : FuncId) (caps : List AV)
    (hcmp : ∀ a ∈ xs, ∀ b ∈ xs, PureFn prog W0 g ([.int .i64 a, .int .i64 b] ++ caps) (.int .i64 (f a b))) :
    ACall prog W0 155 [.row 54 id 0 xs.length, .int .i64 lo, .int .i64 hi, .fn g caps] σ fun r σ' => ∃ ys : List Int, ys.Perm xs ∧ σ' = σ.set id (some (.cells 54 (ys.map (.int .i64)))) := by
  have hidl : id < σ.length := (List.getElem?_eq_some_iff.1 hid).1
  refine fn_call [] [] func155 rfl rfl ntmps155 rfl rfl fun hs => ?_
  simp only [go_sem, simprocAttr, ↓reduceIte]
  refine LoopVC.falls [0, 1, 2, 3] (.of (by kernel_rfl)) (fun k A => ∃ i : Nat, A.env 8 = .int .i64 i ∧ k = hi - i ∧ 0 < i ∧ lo < i ∧ ∃ ys : List Int, ys.Perm xs ∧ A.st = σ.set id (some (.cells 54 (ys.map (.int .i64))))) (hi - (lo + 1)) ?_ fun k B ⟨i, h8, hk, hi0, hli, ys, hp, hst⟩ => ?_
  · simp only [go_sem, simprocAttr, ↓reduceIte]
    exact ⟨lo + 1, int_succ (N := 1048577) (by omega) (by rw [maxLen_eq]; omega), rfl, by omega, by omega, xs, .refl _, (set_id hid).symm⟩
  simp only [go_sem, simprocAttr, ↓reduceIte, h8, hst]
  refine ⟨fun hih => ?_, fun hih => EndR.normal ?_⟩
  · refine LoopVC.ats [0, 1, 2, 3, 8] (.of (by kernel_rfl)) (fun A => ∃ ys : List Int, ys.Perm xs ∧ A.st = σ.set id (some (.cells 54 (ys.map (.int .i64))))) ?_ fun A ⟨ys, hp, hst⟩ => ?_
    · refine LoopVC.falls [0, 1, 2, 3, 8] (.of (by kernel_rfl)) (fun k A => ∃ ys : List Int, A.env 9 = .int .i64 (k : Nat) ∧ k ≤ i ∧ ys.Perm xs ∧ A.st = σ.set id (some (.cells 54 (ys.map (.int .i64))))) i ?_ fun k A ⟨ys, h9, hki, hp, hst⟩ => ?_
      · simp only [go_sem, simprocAttr, ↓reduceIte]
        exact ⟨ys, hp, hst⟩
      have hyl := hp.length_eq
      obtain ⟨a, ha⟩ := get_some (show k < ys.length by omega)
      obtain ⟨b, hb⟩ := get_some (show k - 1 < ys.length by omega)
      have hw : IntKind.i64.wrap ((k : Int) - 1) = (k : Int) - 1 := wrap_in (by omega)
      have hn : ((k : Int) - 1).toNat = k - 1 := by omega
      have ham := hp.subset (List.mem_of_getElem? ha)
      have hbm := hp.subset (List.mem_of_getElem? hb)
      simp only [go_sem, simprocAttr, ↓reduceIte, h9, hst, look_set hidl, live_set hidl, hw, hn, Nat.zero_add, List.getElem?_map, ha, hb, Option.map_some]
      refine ⟨.of (by kernel_rfl), fun _ => by omega, fun _ => by omega, CallP.go (fun _ => hcmp a ham b hbm) ?_⟩
      simp only [go_sem, simprocAttr, ↓reduceIte, h9, hst]
      refine ⟨fun hlt => ?_, fun hge => ⟨ys, hp, rfl⟩⟩
      have hlk : lo < k := by simp only [Bool.and_eq_true, decide_eq_true_eq] at hlt; exact hlt.1
      simp only [go_sem, simprocAttr, ↓reduceIte, h9, hst, look_set hidl, live_set hidl, setLook_set hidl, hw, hn, Nat.zero_add, List.getElem?_map, ha, hb, Option.map_some]
      refine ⟨.of (by kernel_rfl), by omega, by omega, by omega, by omega, ?_, .here (k - 1) (by omega) ⟨(ys.set k b).set (k - 1) a, ?_, by omega, (swap_perm hb ha).trans hp, ?_⟩⟩
      · rw [← List.map_set]
        obtain ⟨y, hy⟩ := get_some (show k - 1 < ((ys.set k b).map (AV.int .i64)).length by simp; omega)
        rw [hy]; rfl
      · simp only [go_sem, simprocAttr, ↓reduceIte]
        congr 1
        omega
      · simp only [go_sem, simprocAttr, ↓reduceIte, hst]
        rw [List.map_set, List.map_set]
    simp only [go_sem, simprocAttr, ↓reduceIte, h8, hst]
    exact .here (hi - (i + 1)) (by omega) ⟨i + 1, int_succ hih (by rw [maxLen_eq]; omega), rfl, by omega, by omega, ys, hp, by simp only [go_sem, simprocAttr, ↓reduceIte, hst]⟩
  · simp only [go_sem, simprocAttr, ↓reduceIte, hst]
    exact ⟨_, .refl _, by simp, ys, hp, rfl⟩
end Go.Proofs.Tryz
end
section
namespace Go.Proofs.Tryz
open Go Go.Av
set_option maxRecDepth 10000
set_option linter.unusedSimpArgs false
set_option linter.unusedVariables false
variable {W0 : World}

def tabOf (l : List UInt8) : List UInt8 := l
theorem val_tab (A : AState) (l m : List UInt8) (h : (l.append m).length ≤ maxLen) : A.val (.const (.string ⟨(l.append m).toArray⟩)) = .str (tabOf (l.append m)) := by
  show (if (l.append m).toArray.toList.length ≤ maxLen then AV.str (l.append m).toArray.toList else .undef) = _
  rw [if_pos (by simpa using h)]; rfl
theorem bi_len64 (σ : Store) (n : Nat) (hn : n < 256) : ACall prog W0 164 [.int .u64 n] σ fun r σ' => (∃ m : Nat, m ≤ 255 ∧ r = .int .i64 m) ∧ σ' = σ := by
  · refine fn_call [2] [] func164 rfl rfl ntmps164 rfl rfl fun hs => ?_
    have h1 : decide ((4294967296 : Int) ≤ (n : Int)) = false := decide_eq_false (by omega)
    have h2 : decide ((65536 : Int) ≤ (n : Int)) = false := decide_eq_false (by omega)
    have h3 : decide ((256 : Int) ≤ (n : Int)) = false := decide_eq_false (by omega)
    simp only [go_sem, simprocAttr, ↓reduceIte, h1, h2, h3]
    refine JoinVC.at [] (by kernel_rfl) (fun A => A.st = σ ∧ A.env 0 = .int .u64 n ∧ A.env 2 = .int .i64 0) (fun h => by cases h) (fun _ => ?_) fun B ⟨hst, hx, hy⟩ => ?_
    · simp only [go_sem, simprocAttr, ↓reduceIte]
    simp only [go_sem, simprocAttr, ↓reduceIte, h1, h2, h3, hst, hx, hy]
    refine JoinVC.at [] (by kernel_rfl) (fun A => A.st = σ ∧ A.env 0 = .int .u64 n ∧ A.env 2 = .int .i64 0) (fun h => by cases h) (fun _ => ?_) fun B ⟨hst, hx, hy⟩ => ?_
    · simp only [go_sem, simprocAttr, ↓reduceIte, hst, hx, hy]
    simp only [go_sem, simprocAttr, ↓reduceIte, h1, h2, h3, hst, hx, hy]
    refine JoinVC.at [] (by kernel_rfl) (fun A => A.st = σ ∧ A.env 0 = .int .u64 n ∧ A.env 2 = .int .i64 0) (fun h => by cases h) (fun _ => ?_) fun B ⟨hst, hx, hy⟩ => ?_
    · simp only [go_sem, simprocAttr, ↓reduceIte, hst, hx, hy]
    simp only [go_sem, simprocAttr, ↓reduceIte, h1, h2, h3, hst, hx, hy]
    simp (decide := true) only [val_tab]
    generalize hT : tabOf _ = tab
    have hlen : tab.length = 256 := by rw [← hT]; decide
    clear hT
    simp only [go_sem, simprocAttr, ↓reduceIte]
    have hw : (IntKind.u8.wrap (n : Int)).toNat = n := by
      show ((n : Int) % 256).toNat = n
      omega
    refine ⟨by rw [hw, hlen]; exact hn, EndR.ret ?_⟩
    simp only [go_sem, simprocAttr, ↓reduceIte]
    refine ⟨_, .refl _, by simp [hst], ⟨(tab[(IntKind.u8.wrap (n : Int)).toNat]?.getD 0).toNat, ?_, ?_⟩, hst⟩
    · have := (tab[(IntKind.u8.wrap (n : Int)).toNat]?.getD 0).toNat_lt
      omega
    · have := (tab[(IntKind.u8.wrap (n : Int)).toNat]?.getD 0).toNat_lt
      rw [wrap_in (by omega), Int.zero_add]

theorem bi_len (σ : Store) (n : Nat) (hn : n < 256) : ACall prog W0 135 [.int .u64 n] σ fun r σ' => (∃ m : Nat, m ≤ 255 ∧ r = .int .i64 m) ∧ σ' = σ := by
  refine fn_call [2] [] func135 rfl rfl ntmps135 rfl rfl fun hs => ?_
  simp only [go_sem, simprocAttr, ↓reduceIte]
  refine CallA.goes (by simp only [go_sem, simprocAttr, ↓reduceIte]) (bi_len64 σ n hn) fun r σ' ⟨⟨m, hm, hr⟩, hσ⟩ => ?_
  subst hr hσ
  simp only [go_sem, simprocAttr, ↓reduceIte]
  refine EndR.ret ?_
  simp only [go_sem, simprocAttr, ↓reduceIte]
  exact ⟨_, .refl _, m, hm, rfl⟩

theorem so_pdq (σ : Store) (id : Nat) (xs : List Int) (k : Int) (hid : σ[id]? = some (some (.cells 54 (xs.map (.int .i64))))) (hx : xs.length ≤ 12) (f : Int → Int → Int) (g : FuncId) (caps : List AV)
    (hcmp : ∀ a ∈ xs, ∀ b ∈ xs, PureFn prog W0 g ([.int .i64 a, .int .i64 b] ++ caps) (.int .i64 (f a b))) :
    ACall prog W0 134 [.row 54 id 0 xs.length, .int .i64 0, .int .i64 xs.length, .int .i64 k, .fn g caps] σ fun r σ' => ∃ ys : List Int, ys.Perm xs ∧ σ' = σ.set id (some (.cells 54 (ys.map (.int .i64)))) := by
  refine fn_call [] [] func134 rfl rfl ntmps134 rfl rfl fun hs => ?_
  simp only [go_sem, simprocAttr, ↓reduceIte]
  refine LoopVC.upto [0, 4] (.of (by kernel_rfl)) 0 (fun i A => A.env 1 = .int .i64 0 ∧ A.env 2 = .int .i64 xs.length ∧ A.st = σ) 0 (Nat.le_refl _) ?_ fun i B hi ⟨h1, h2, hst⟩ => ?_
  · simp only [go_sem, simprocAttr, ↓reduceIte]
    done
  have hw : IntKind.i64.wrap ((xs.length : Int) - 0) = xs.length := by rw [Int.sub_zero, wrap_in (by omega)]
  have h12 : decide ((xs.length : Int) ≤ 12) = true := decide_eq_true (by omega)
  simp only [go_sem, simprocAttr, ↓reduceIte, h1, h2, hst, hw, h12]
  refine CallA.goes (by simp only [go_sem, simprocAttr, ↓reduceIte, hst]) (so_insertion σ id xs 0 xs.length (Nat.zero_le _) (Nat.le_refl _) hid (by omega) f g caps hcmp) fun r σ' ⟨ys, hp, hσ⟩ => ?_
  subst hσ
  simp only [go_sem, simprocAttr, ↓reduceIte]
  refine EndR.ret ?_
  simp only [go_sem, simprocAttr, ↓reduceIte]
  exact ⟨_, .refl _, by simp, ys, hp, rfl⟩

theorem so_sort (σ : Store) (id : Nat) (xs : List Int) (hid : σ[id]? = some (some (.cells 54 (xs.map (.int .i64))))) (hx : xs.length ≤ 12) (f : Int → Int → Int) (g : FuncId) (caps : List AV)
    (hcmp : ∀ a ∈ xs, ∀ b ∈ xs, PureFn prog W0 g ([.int .i64 a, .int .i64 b] ++ caps) (.int .i64 (f a b))) :
    ACall prog W0 103 [.row 54 id 0 xs.length, .fn g caps] σ fun r σ' => ∃ ys : List Int, ys.Perm xs ∧ σ' = σ.set id (some (.cells 54 (ys.map (.int .i64)))) := by
  refine fn_call [] [] func103 rfl rfl ntmps103 rfl rfl fun hs => ?_
  have hw : IntKind.u64.wrap (xs.length : Int) = xs.length := by rw [IntKind.wrap_u64]; omega
  simp only [go_sem, simprocAttr, ↓reduceIte, hw]
  refine CallA.goes (by simp only [go_sem, simprocAttr, ↓reduceIte]) (bi_len σ xs.length (by omega)) fun r σ' ⟨⟨m, hm, hr⟩, hσ⟩ => ?_
  subst hr hσ
  simp only [go_sem, simprocAttr, ↓reduceIte]
  refine CallA.goes (by simp only [go_sem, simprocAttr, ↓reduceIte]) (so_pdq σ' id xs m hid hx f g caps hcmp) fun r σ'' ⟨ys, hp, hσ⟩ => ?_
  subst hσ
  simp only [go_sem, simprocAttr, ↓reduceIte]
  refine EndR.normal ?_
  simp only [go_sem, simprocAttr, ↓reduceIte]
  exact ⟨_, .refl _, by simp, ys, hp, rfl⟩
end Go.Proofs.Tryz
end
section
namespace Go.Proofs.Tryz
open Go Go.Av
set_option maxRecDepth 10000
set_option linter.unusedSimpArgs false
set_option linter.unusedVariables false
variable {W0 : World}

theorem sl_compact (σ : Store) (id : Nat) (xs : List Int) (hid : σ[id]? = some (some (.cells 54 (xs.map (.int .i64))))) (hx : xs.length ≤ 1048576) (hnd : xs.Nodup) :
    ACall prog W0 108 [.row 54 id 0 xs.length] σ fun r σ' => r = .row 54 id 0 xs.length ∧ σ' = σ := by
  refine fn_call [2] [] func108 rfl rfl ntmps108 rfl rfl fun hs => ?_
  simp only [go_sem, simprocAttr, ↓reduceIte]
  refine ⟨fun _ => EndR.ret ?_, fun h2 => ?_⟩
  · simp only [go_sem, simprocAttr, ↓reduceIte]
    exact ⟨_, .refl _, rfl⟩
  refine LoopVC.falls [0] (.of (by kernel_rfl)) (fun k A => ∃ j : Nat, A.env 3 = .int .i64 j ∧ k = xs.length - j ∧ 0 < j ∧ A.st = σ) (xs.length - 1) ⟨1, ?_⟩ fun k B ⟨j, h3, hk, hj, hst⟩ => ?_
  · simp only [go_sem, simprocAttr, ↓reduceIte]
    done
  simp only [go_sem, simprocAttr, ↓reduceIte, h3, hst]
  refine ⟨fun hlt => ?_, fun hge => EndR.ret ?_⟩
  · obtain ⟨a, ha⟩ := get_some hlt
    obtain ⟨b, hb⟩ := get_some (show j - 1 < xs.length by omega)
    have hw : IntKind.i64.wrap ((j : Int) - 1) = (j : Int) - 1 := wrap_in (by omega)
    have hn : ((j : Int) - 1).toNat = j - 1 := by omega
    have hab : (a == b) = false := by
      obtain ⟨h1, h2⟩ := List.getElem?_eq_some_iff.1 ha
      obtain ⟨h3, h4⟩ := List.getElem?_eq_some_iff.1 hb
      rw [beq_eq_false_iff_ne]
      intro e
      rw [← h2, ← h4] at e
      have := (List.getElem_inj hnd).1 e
      omega
    simp only [go_sem, simprocAttr, ↓reduceIte, h3, hst, look_id hid, live_id hid, hw, hn, Nat.zero_add, List.getElem?_map, ha, hb, Option.map_some, hab]
    exact ⟨.of (by kernel_rfl), hlt, by omega, .here (xs.length - (j + 1)) (by omega) ⟨j + 1, int_succ hlt (by rw [maxLen_eq]; omega), rfl, by omega, by simp only [go_sem, simprocAttr, ↓reduceIte, hst]⟩⟩
  · simp only [go_sem, simprocAttr, ↓reduceIte, hst]
    exact ⟨_, .refl _, rfl⟩

theorem cn_tidy (σ : Store) (c : List Int) (h0 : c ≠ []) (hl : c.length ≤ 12) (hnd : c.Nodup) (hc : ∀ l ∈ c, l ≠ 0 ∧ l.natAbs ≤ 9223372036854775807) :
    ACall prog W0 78 [litsAV c] σ fun r σ' => Ext σ σ' ∧ ((∃ d : List Int, d.Perm c ∧ r = .tup [litsAV d, .bool true]) ∨ (r = .tup [.nils, .bool false] ∧ ∀ M, claT M c = true)) := by
  refine fn_call [2, 3] [] func78 rfl rfl ntmps78 rfl rfl fun hs => ?_
  simp only [go_sem, simprocAttr, ↓reduceIte]
  refine CallA.goes (by simp only [go_sem, simprocAttr, ↓reduceIte]) (sl_cloneRow σ c h0 (by omega)) fun r σ' ⟨hr, hσ⟩ => ?_
  subst hr hσ
  simp only [go_sem, simprocAttr, ↓reduceIte]
  have hid : (σ ++ [some (SObj.cells 54 (c.map (AV.int .i64)))])[σ.length]? = some (some (.cells 54 (c.map (.int .i64)))) := by simp
  refine CallA.goes (by simp only [go_sem, simprocAttr, ↓reduceIte]) (so_sort _ σ.length c hid hl (fun a b => orL [sgn (a.natAbs : Nat) (b.natAbs : Nat), sgn a b]) _ [] fun a ha b hb => cn_cmp a b (hc a ha).2 (hc b hb).2) fun r σ' ⟨ys, hp, hσ⟩ => ?_
  subst hσ
  simp only [go_sem, simprocAttr, ↓reduceIte]
  have hyl := hp.length_eq
  have hid : (σ ++ [some (SObj.cells 54 (ys.map (AV.int .i64)))])[σ.length]? = some (some (.cells 54 (ys.map (.int .i64)))) := by simp
  rw [← hyl]
  refine CallA.goes (by simp only [go_sem, simprocAttr, ↓reduceIte]) (sl_compact _ σ.length ys hid (by omega) ((List.Perm.nodup_iff hp).2 hnd)) fun r σ' ⟨hr, hσ⟩ => ?_
  subst hr hσ
  simp only [go_sem, simprocAttr, ↓reduceIte]
  refine LoopVC.at [4] (.of (by kernel_rfl)) (fun A => A.st = σ ++ [some (.cells 54 (ys.map (.int .i64)))]) ?_ fun B hst => ?_
  · refine LoopVC.upto [4, 13, 14] (.of (by kernel_rfl)) ys.length (fun i A => A.env 15 = .int .i64 i ∧ A.st = σ ++ [some (.cells 54 (ys.map (.int .i64)))]) 0 (Nat.zero_le _) ?_ fun i B hi ⟨h15, hst⟩ => ?_
    · simp only [go_sem, simprocAttr, ↓reduceIte]
      done
    by_cases hlt : i < ys.length
    · obtain ⟨a, ha⟩ := get_some hlt
      obtain ⟨b, hb⟩ := get_some (show i - 1 < ys.length by omega)
      have hw : IntKind.i64.wrap ((i : Int) - 1) = (i : Int) - 1 := wrap_in (by omega)
      have hn : ((i : Int) - 1).toNat = i - 1 := by omega
      have ham := hc a (hp.subset (List.mem_of_getElem? ha))
      have hbm := hc b (hp.subset (List.mem_of_getElem? hb))
      have ha0 : (a == 0) = false := by simp [ham.1]
      simp only [go_sem, simprocAttr, ↓reduceIte, h15, hst, hw, hn, Nat.zero_add, List.getElem?_map, ha, hb, Option.map_some, live_id hid, ha0, Option.bind_some, Option.isSome_some, Option.getD_some]
      refine fun _ => ⟨hlt, fun hg => by omega, CallP.fnG (fun _ => cn_variable b hbm.2) ?_⟩
      simp only [go_sem, simprocAttr, ↓reduceIte, h15, hst]
      refine CallP.fnG (fun _ => cn_variable a ham.2) ?_
      simp only [go_sem, simprocAttr, ↓reduceIte, h15, hst]
      refine ⟨fun hq => ?_, fun hq => ⟨hlt, int_succ hlt (by rw [maxLen_eq]; omega)⟩⟩
      refine EndR.ret ?_
      simp only [go_sem, simprocAttr, ↓reduceIte, hst]
      refine ⟨_, .refl _, by simp, (Ext.refl _).app _, .inr ⟨rfl, fun M => ?_⟩⟩
      simp only [Bool.and_eq_true, decide_eq_true_eq, beq_iff_eq] at hq
      obtain ⟨hi0, hab⟩ := hq
      have hne : a ≠ b := fun e => by
        obtain ⟨h1, h2⟩ := List.getElem?_eq_some_iff.1 ha
        obtain ⟨h3, h4⟩ := List.getElem?_eq_some_iff.1 hb
        rw [← h2, ← h4] at e
        have := (List.getElem_inj ((List.Perm.nodup_iff hp).2 hnd)).1 e
        omega
      have hneg : b = -a := by omega
      have h1 : a ∈ c := hp.subset (List.mem_of_getElem? ha)
      have h2 : -a ∈ c := by rw [← hneg]; exact hp.subset (List.mem_of_getElem? hb)
      refine List.any_eq_true.2 ?_
      cases ht : litT M a with
      | true => exact ⟨a, h1, ht⟩
      | false => exact ⟨-a, h2, by rw [litT_neg ham.1, ht]; rfl⟩
    · have hd : decide ((i : Int) < (ys.length : Int)) = false := decide_eq_false (by omega)
      simp only [go_sem, simprocAttr, ↓reduceIte, h15, hst, hd]
      try exact fun h => absurd h hlt
  simp only [go_sem, simprocAttr, ↓reduceIte, hst]
  refine EndR.frz (e := 54) (te := 54) (id := σ.length) (off := 0) (m := ys.length) (xs := ys.map (.int .i64)) 2 (by simp only [go_sem, simprocAttr, ↓reduceIte]) (by simp only [go_sem, simprocAttr, ↓reduceIte, hst]) (by simp) (EndR.ret ?_)
  simp only [go_sem, simprocAttr, ↓reduceIte, hst]
  rw [List.take_of_length_le (by simp)]
  exact ⟨_, .refl _, by omega, (Ext.refl _).app _, .inl ⟨ys, hp, rfl⟩⟩

theorem cn_new (σ : Store) (n : Nat) (hn : n ≤ 200) : ACall prog W0 45 [.int .i64 n] σ fun r σ' => r = .ptr 112 σ.length 0 [] ∧ σ' = σ ++ [setO n .nils] := by
  refine fn_call [2] [] func45 rfl rfl ntmps45 rfl rfl fun hs => ?_
  have e1 : minI (n : Int) 200 = n := by unfold minI; split <;> omega
  have e2 : maxI 0 (n : Int) = n := by unfold maxI; split <;> omega
  simp only [go_sem, simprocAttr, ↓reduceIte, e1, e2]
  refine EndR.ret ?_
  simp only [go_sem, simprocAttr, ↓reduceIte]
  exact ⟨_, .refl _, by simp, rfl, rfl⟩

theorem cn_vars (σ : Store) (id n : Nat) (cv : AV) (hid : σ[id]? = some (setO n cv)) : ACall prog W0 112 [.ptr 112 id 0 []] σ fun r σ' => r = .int .i64 n ∧ σ' = σ := by
  refine fn_st [2] [] func112 rfl rfl ntmps112 rfl rfl (.int _ _) fun hs => ?_
  simp only [go_sem, simprocAttr, ↓reduceIte, look_id hid]
  refine EndR.ret ?_
  simp only [go_sem, simprocAttr, ↓reduceIte]
  try exact .refl _

theorem cn_len (σ : Store) (id n : Nat) (cv : AV) (cls : List (List Int)) (hid : σ[id]? = some (setO n cv)) (hb : Bld σ cv 84 (cls.map litsAV)) : ACall prog W0 139 [.ptr 112 id 0 []] σ fun r σ' => r = .int .i64 cls.length ∧ σ' = σ := by
  refine fn_st [2] [] func139 rfl rfl ntmps139 rfl rfl (.int _ _) fun hs => ?_
  simp only [go_sem, simprocAttr, ↓reduceIte, look_id hid, hb.ok, hb.un, hb.len, hb.lenC, List.length_map]
  refine EndR.ret ?_
  simp only [go_sem, simprocAttr, ↓reduceIte]
  try exact .refl _

theorem cn_at (σ : Store) (id n : Nat) (cv : AV) (cls : List (List Int)) (hid : σ[id]? = some (setO n cv)) (hb : Bld σ cv 84 (cls.map litsAV)) (i : Nat) (c : List Int) (hc : cls[i]? = some c) (h0 : c ≠ []) (hl : c.length ≤ 1048576) :
    ACall prog W0 140 [.ptr 112 id 0 [], .int .i64 i] σ fun r σ' => r = litsAV c ∧ σ' = σ := by
  refine fn_st [4] [] func140 rfl rfl ntmps140 rfl rfl (idsLt_mono (Nat.zero_le _) (ids_lits _)) fun hs => ?_
  have hlt := (List.getElem?_eq_some_iff.1 hc).1
  simp only [go_sem, simprocAttr, ↓reduceIte]
  refine CallP.st (fun _ => cn_len σ id n cv cls hid hb) ?_
  simp only [go_sem, simprocAttr, ↓reduceIte]
  have h1 : decide ((cls.length : Int) ≤ (i : Int)) = false := decide_eq_false (by omega)
  have h2 : decide ((i : Int) < 0) = false := decide_eq_false (by omega)
  have h3 : decide (cls.length ≤ i) = false := decide_eq_false (by omega)
  have hm : cls.map litsAV ≠ [] := by
    cases cls with
    | nil => simp at hlt
    | cons => simp
  rcases hb with ⟨rfl, hn⟩ | rfl | ⟨t, rfl, ht⟩
  · exact absurd hn hm
  all_goals
    simp only [go_sem, simprocAttr, ↓reduceIte, h1, h2, h3, look_id hid, List.length_map, atV_map hc]
    refine ⟨hlt, CallA.fn (sl_clone c h0 hl) ?_⟩
    simp only [go_sem, simprocAttr, ↓reduceIte]
    refine EndR.ret ?_
    simp only [go_sem, simprocAttr, ↓reduceIte]
    try exact .refl _

theorem cn_add (σ : Store) (id n : Nat) (cv : AV) (cls : List (List Int)) (hid : σ[id]? = some (setO n cv)) (hb : Bld σ cv 84 (cls.map litsAV)) (hn : n ≤ 200) (hc5 : cls.length < 5000) (c : List Int) (hw : wfC n c = true) (h0 : c ≠ []) (hl : c.length ≤ 12) (hnd : c.Nodup) :
    ACall prog W0 50 [.ptr 112 id 0 [], litsAV c] σ fun r σ' => r = .bool true ∧ Fr (id :: foot cv) σ σ' ∧ ∃ cv' cls', σ'[id]? = some (setO n cv') ∧ Bld σ' cv' 84 (cls'.map litsAV) ∧ (∀ j ∈ foot cv', j ∈ foot cv ∨ σ.length ≤ j) ∧
      (∀ M, setT M cls' = (setT M cls && claT M c)) ∧ cls'.length ≤ cls.length + 1 ∧ ∀ d ∈ cls', d ∈ cls ∨ d.Perm c := by
  refine fn_call [4] [] func50 rfl rfl ntmps50 rfl rfl fun hs => ?_
  have hc : ∀ l ∈ c, l ≠ 0 ∧ l.natAbs ≤ n := fun l hl => by
    have := List.all_eq_true.1 hw l hl
    simpa [wfL] using this
  simp only [go_sem, simprocAttr, ↓reduceIte]
  refine CallA.reads (by simp only [go_sem, simprocAttr, ↓reduceIte]) (cn_may σ id n cv cls hid hb (by omega) hc5 c fun l hl => by have := (hc l hl).2; omega) ?_
  rw [hw]
  simp only [go_sem, simprocAttr, ↓reduceIte]
  refine CallA.goes (by simp only [go_sem, simprocAttr, ↓reduceIte]) (cn_tidy σ c h0 hl hnd fun l hl => ⟨(hc l hl).1, by have := (hc l hl).2; omega⟩) fun r σ' ⟨hx, hr⟩ => ?_
  have hidl := (List.getElem?_eq_some_iff.1 hid).1
  have hid' : σ'[id]? = some (setO n cv) := by rw [(Fr.ext (F := []) hx).old id hidl (by simp), hid]
  have hb' : Bld σ' cv 84 (cls.map litsAV) := hb.keep fun j hj => (Fr.ext (F := []) hx).old j (hb.lt j hj) (by simp)
  rcases hr with ⟨d, hp, rfl⟩ | ⟨rfl, hM⟩
  · simp only [go_sem, simprocAttr, ↓reduceIte]
    refine JoinVC.both (fun _ => ?_) (fun h => by cases h)
    simp only [go_sem, simprocAttr, ↓reduceIte, look_id hid', hb'.ok, hb'.un]
    refine AppA.ownS (σ := σ') (by simp only [go_sem, simprocAttr, ↓reduceIte]) 1048576 (by kernel_rfl) hb' (.lit _ _ _) (by simp; omega) fun v' σ'' ha => ?_
    have hf := ha.fr
    have hidl' := (List.getElem?_eq_some_iff.1 hid').1
    have hid'' : σ''[id]? = some (setO n cv) := by rw [hf.old id hidl' (hb'.ne hid' (by simp)), hid']
    have hbv := ha.bld
    simp only [go_sem, simprocAttr, ↓reduceIte, look_id hid'', setLook_id hid'', hbv.ok, hbv.un, hbv.fits]
    refine EndR.ret ?_
    simp only [go_sem, simprocAttr, ↓reduceIte]
    have hne : id ∉ foot v' := hbv.ne hid'' (by simp)
    refine ⟨_, .refl _, by have := hf.len; have := hx.le; simp; omega, rfl, ?_, v', cls ++ [d], ?_, ?_, ?_, ?_, ?_, ?_⟩
    · exact ((Fr.ext (F := id :: foot cv) hx).trans (hf.mono (G := id :: foot cv) fun j hj => by simp [hj]) fun j hj => .inl hj).set (.inl (by simp)) _
    · have := hf.len; simp [show id < σ''.length by omega]; rfl
    · rw [List.map_append]
      exact hbv.keep fun j hj => List.getElem?_set_ne (fun e => hne (by rw [e]; exact hj))
    · exact fun j hj => (ha.foot hb' j hj).imp_right fun h => by have := hx.le; omega
    · exact fun M => by simp only [setT, List.all_append, List.all_cons, List.all_nil, Bool.and_true]; rw [claT_perm (M := M) fun l => hp.mem_iff]
    · simp
    · exact fun e he => (List.mem_append.1 he).imp_right fun h => by rw [List.mem_singleton.1 h]; exact hp
  · simp only [go_sem, simprocAttr, ↓reduceIte]
    refine JoinVC.both (fun h => by cases h) (fun _ => ?_)
    simp only [go_sem, simprocAttr, ↓reduceIte]
    refine EndR.ret ?_
    simp only [go_sem, simprocAttr, ↓reduceIte]
    refine ⟨_, .refl _, hx.le, rfl, .ext hx, cv, cls, hid', hb', fun j hj => .inl hj, fun M => by rw [hM, Bool.and_true], by omega, fun d hd => .inl hd⟩
end Go.Proofs.Tryz
end
section
namespace Go.Av

/-- What a literal is, given those that hold. -/
def valT (ord : List Int) (l : Int) : Int := if l ∈ ord then 1 else if -l ∈ ord then -1 else 0
/-- What the variables 0 to n are. -/
def vals (n : Nat) (ord : List Int) : List Int := (List.range (n + 1)).map fun i => valT ord (i : Nat)

structure GoodOrd (n : Nat) (ord : List Int) : Prop where
  nd : (ord.map Int.natAbs).Nodup
  wf : ∀ l ∈ ord, l ≠ 0 ∧ l.natAbs ≤ n

theorem GoodOrd.cons {n : Nat} {ord : List Int} (h : GoodOrd n ord) {l : Int} (hl : l ∈ ord) : -l ∉ ord := fun hn => by
  have h0 := (h.wf l hl).1
  obtain ⟨i, hi, he⟩ := List.getElem_of_mem hl
  obtain ⟨j, hj, he'⟩ := List.getElem_of_mem hn
  have : i = j := (List.getElem_inj (i := i) (j := j) (h₀ := by simpa using hi) (h₁ := by simpa using hj) h.nd).1 (by simp [he, he'])
  subst this
  rw [he] at he'
  omega
theorem valT_neg {n : Nat} {ord : List Int} (h : GoodOrd n ord) (l : Int) : valT ord (-l) = -valT ord l := by
  unfold valT
  rw [Int.neg_neg]
  by_cases h1 : l ∈ ord
  · rw [if_neg (h.cons h1), if_pos h1, if_pos h1]
  · by_cases h2 : -l ∈ ord
    · rw [if_pos h2, if_neg h1, if_pos h2, Int.neg_neg]
    · rw [if_neg h2, if_neg h1, if_neg h1, if_neg h2]; rfl
theorem vals_len (n : Nat) (ord : List Int) : (vals n ord).length = n + 1 := by simp [vals]
theorem vals_get {n : Nat} {ord : List Int} {i : Nat} (h : i ≤ n) : (vals n ord)[i]? = some (valT ord (i : Nat)) := by
  simp [vals, List.getElem?_range (show i < n + 1 by omega)]
theorem valT_cases (ord : List Int) (l : Int) : (valT ord l = 1 ∧ l ∈ ord) ∨ (valT ord l = -1 ∧ l ∉ ord ∧ -l ∈ ord) ∨ (valT ord l = 0 ∧ l ∉ ord ∧ -l ∉ ord) := by
  unfold valT
  by_cases h1 : l ∈ ord
  · left; simp [h1]
  · by_cases h2 : -l ∈ ord
    · right; left; simp [h1, h2]
    · right; right; simp [h1, h2]
theorem vals_congr {n : Nat} {o p : List Int} (h : ∀ i : Nat, i ≤ n → valT o i = valT p i) : vals n o = vals n p := by
  unfold vals
  refine List.map_congr_left fun i hi => h i ?_
  have := List.mem_range.1 hi
  omega
theorem GoodOrd.nil (n : Nat) : GoodOrd n [] := ⟨by simp, by simp⟩
theorem vals_nil (n : Nat) : vals n [] = List.replicate (n + 1) 0 := by
  refine List.ext_getElem? fun i => ?_
  rw [List.getElem?_replicate]
  by_cases h : i ≤ n
  · rw [vals_get h, if_pos (by omega)]; rfl
  · rw [if_neg (by omega), List.getElem?_eq_none (by rw [vals_len]; omega)]

theorem valT_app {n : Nat} {ord : List Int} {l : Int} (h : GoodOrd n (ord ++ [l])) (i : Nat) : valT (ord ++ [l]) i = if i = l.natAbs then (if 0 < l then 1 else -1) else valT ord i := by
  have hl := h.wf l (by simp)
  have hn : ∀ m ∈ ord, m.natAbs ≠ l.natAbs := fun m hm e => by
    have := h.nd
    rw [List.map_append, List.nodup_append] at this
    exact this.2.2 _ (List.mem_map.2 ⟨m, hm, rfl⟩) _ (by simp) e
  unfold valT
  simp only [List.mem_append, List.mem_singleton]
  by_cases hi : i = l.natAbs
  · rw [if_pos hi]
    by_cases hp : 0 < l
    · rw [if_pos hp, if_pos (.inr (by omega))]
    · rw [if_neg hp, if_neg, if_pos (.inr (by omega))]
      rintro (h1 | h1)
      · exact hn _ h1 (by omega)
      · omega
  · rw [if_neg hi]
    have e1 : ((i : Int) = l) = False := eq_false fun e => hi (by omega)
    have e2 : (-(i : Int) = l) = False := eq_false fun e => hi (by omega)
    simp only [e1, e2, or_false]
theorem GoodOrd.app {n : Nat} {ord : List Int} (h : GoodOrd n ord) {l : Int} (h0 : l ≠ 0) (hn : l.natAbs ≤ n) (hv : valT ord l = 0) : GoodOrd n (ord ++ [l]) := by
  refine ⟨?_, fun m hm => ?_⟩
  · rw [List.map_append, List.nodup_append]
    refine ⟨h.nd, by simp, fun a ha b hb => ?_⟩
    obtain ⟨m, hm, rfl⟩ := List.mem_map.1 ha
    simp at hb
    subst hb
    intro e
    rcases valT_cases ord l with ⟨h1, h2⟩ | ⟨h1, h2⟩ | ⟨h1, h2, h3⟩
    · omega
    · omega
    · rcases Int.natAbs_eq_natAbs_iff.1 e with e | e
      · exact h2 (e ▸ hm)
      · exact h3 (e ▸ hm)
  · rcases List.mem_append.1 hm with h1 | h1
    · exact h.wf m h1
    · rw [List.mem_singleton.1 h1]; exact ⟨h0, hn⟩
theorem GoodOrd.take {n : Nat} {ord : List Int} (h : GoodOrd n ord) (k : Nat) : GoodOrd n (ord.take k) := ⟨by rw [List.map_take]; exact List.Nodup.sublist (List.take_sublist _ _) h.nd, fun l hl => h.wf l (List.mem_of_mem_take hl)⟩
theorem GoodOrd.sub {n : Nat} {o p : List Int} (h : GoodOrd n p) (hs : o.Sublist p) : GoodOrd n o := ⟨List.Nodup.sublist (hs.map _) h.nd, fun l hl => h.wf l (hs.subset hl)⟩
theorem vals_app {n : Nat} {ord : List Int} {l : Int} (h : GoodOrd n (ord ++ [l])) : vals n (ord ++ [l]) = (vals n ord).set l.natAbs (if 0 < l then 1 else -1) := by
  have hl := h.wf l (by simp)
  refine List.ext_getElem? fun i => ?_
  rw [List.getElem?_set]
  by_cases hi : i ≤ n
  · rw [vals_get hi, valT_app h, vals_get hi, vals_len]
    by_cases e : l.natAbs = i
    · rw [if_pos e.symm, if_pos e, if_pos (show l.natAbs < n + 1 by omega)]
    · rw [if_neg (fun x => e x.symm), if_neg e]
  · rw [if_neg (by omega), List.getElem?_eq_none (by rw [vals_len]; omega), List.getElem?_eq_none (by rw [vals_len]; omega)]
/-- One that is taken back. -/
theorem vals_drop {n : Nat} {o p : List Int} {l : Int} (h : GoodOrd n (o ++ l :: p)) : (vals n (o ++ l :: p)).set l.natAbs 0 = vals n (o ++ p) := by
  have hl := h.wf l (by simp)
  have hn : ∀ m ∈ o ++ p, m.natAbs ≠ l.natAbs := fun m hm e => by
    have h1 := h.nd
    rw [List.map_append, List.map_cons, List.nodup_append, List.nodup_cons] at h1
    rcases List.mem_append.1 hm with h2 | h2
    · exact h1.2.2 _ (List.mem_map.2 ⟨m, h2, rfl⟩) _ (List.mem_cons_self ..) e
    · exact h1.2.1.1 (by rw [← e]; exact List.mem_map.2 ⟨m, h2, rfl⟩)
  refine List.ext_getElem? fun i => ?_
  rw [List.getElem?_set]
  by_cases hi : i ≤ n
  · rw [vals_get hi, vals_get hi, vals_len]
    by_cases e : l.natAbs = i
    · rw [if_pos e, if_pos (by omega)]
      subst e
      rcases valT_cases (o ++ p) (l.natAbs : Nat) with ⟨h1, h2⟩ | ⟨h1, h2, h3⟩ | ⟨h1, _⟩
      · exact absurd (by omega) (hn _ h2)
      · exact absurd (by omega) (hn _ h3)
      · rw [h1]
    · rw [if_neg e]
      have e1 : ((i : Int) = l) = False := eq_false fun x => e (by omega)
      have e2 : (-(i : Int) = l) = False := eq_false fun x => e (by omega)
      simp only [valT, List.mem_append, List.mem_cons, e1, e2, false_or]
  · rw [if_neg (by omega), List.getElem?_eq_none (by rw [vals_len]; omega), List.getElem?_eq_none (by rw [vals_len]; omega)]

theorem nodup_le : ∀ (n : Nat) (l : List Nat), l.Nodup → (∀ x ∈ l, x < n) → l.length ≤ n
  | 0, l, _, h => by
    cases l with
    | nil => simp
    | cons x l => exact absurd (h x (by simp)) (by omega)
  | n + 1, l, hd, h => by
    have := nodup_le n (l.erase n) (hd.erase n) fun x hx => by
      have h1 := (List.Nodup.mem_erase_iff hd).1 hx
      have := h x h1.2
      have := h1.1
      omega
    rw [List.length_erase] at this
    split at this <;> omega
theorem GoodOrd.len {n : Nat} {ord : List Int} (h : GoodOrd n ord) : ord.length ≤ n := by
  have := nodup_le (n + 1) (0 :: ord.map Int.natAbs) (List.nodup_cons.2 ⟨fun h0 => by
    obtain ⟨l, hl, e⟩ := List.mem_map.1 h0
    exact (h.wf l hl).1 (Int.natAbs_eq_zero.1 e), h.nd⟩) fun x hx => by
      rcases List.mem_cons.1 hx with rfl | hx
      · omega
      · obtain ⟨l, hl, rfl⟩ := List.mem_map.1 hx
        have := (h.wf l hl).2
        omega
  simp at this
  exact this

/-- The one literal that a clause still leaves; 0: none, or it holds. -/
def forcedL (ord : List Int) : List Int → Int → Int
  | [], out => out
  | l :: c, out => if 0 < valT ord l ∨ (valT ord l = 0 ∧ out ≠ 0) then 0 else forcedL ord c (if valT ord l = 0 then l else out)

theorem forcedL_sound {ord : List Int} : ∀ (c : List Int) (out : Int), (∀ l ∈ c, l ≠ 0) → forcedL ord c out ≠ 0 → (forcedL ord c out = out ∧ ∀ l ∈ c, valT ord l = -1) ∨ (out = 0 ∧ forcedL ord c out ∈ c ∧ valT ord (forcedL ord c out) = 0 ∧ ∀ l ∈ c, l = forcedL ord c out ∨ valT ord l = -1)
  | [], out, _, _ => .inl ⟨rfl, by simp⟩
  | l :: c, out, hc, h => by
    rw [forcedL] at h ⊢
    split at h
    · exact absurd rfl h
    rename_i hx
    rw [if_neg hx]
    have hc' : ∀ l ∈ c, l ≠ 0 := fun m hm => hc m (by simp [hm])
    rcases valT_cases ord l with ⟨h1, _⟩ | ⟨h1, _⟩ | ⟨h1, _⟩
    · exact absurd (.inl (by omega)) hx
    · rw [if_neg (by omega)] at h ⊢
      rcases forcedL_sound c out hc' h with ⟨g1, g2⟩ | ⟨g1, g2, g3, g4⟩
      · exact .inl ⟨g1, fun m hm => by rcases List.mem_cons.1 hm with rfl | hm; exact h1; exact g2 m hm⟩
      · exact .inr ⟨g1, by simp [g2], g3, fun m hm => by rcases List.mem_cons.1 hm with rfl | hm; exact .inr h1; exact g4 m hm⟩
    · have ho : out = 0 := Classical.byContradiction fun e => hx (.inr ⟨h1, e⟩)
      rw [if_pos h1] at h ⊢
      rcases forcedL_sound c l hc' h with ⟨g1, g2⟩ | ⟨g1, _⟩
      · exact .inr ⟨ho, by rw [g1]; simp, by rw [g1]; exact h1, fun m hm => by rcases List.mem_cons.1 hm with rfl | hm; exact .inl g1.symm; exact .inr (g2 m hm)⟩
      · exact absurd g1 (hc l (by simp))

/-- Those that hold, hold. -/
def Agr (M : Nat → Bool) (ord : List Int) : Prop := ∀ l ∈ ord, litT M l = true
theorem Agr.neg {M : Nat → Bool} {n : Nat} {ord : List Int} (h : Agr M ord) (hg : GoodOrd n ord) {l : Int} (hv : valT ord l = -1) : litT M l = false := by
  rcases valT_cases ord l with ⟨h1, _⟩ | ⟨_, _, h2⟩ | ⟨h1, _⟩
  · omega
  · have h0 := (hg.wf _ h2).1
    have := h _ h2
    rw [litT_neg (by omega)] at this
    simpa using this
  · omega
theorem forced_agr {M : Nat → Bool} {n : Nat} {ord c : List Int} (h : Agr M ord) (hg : GoodOrd n ord) (hc : ∀ l ∈ c, l ≠ 0) (hM : claT M c = true) (hf : forcedL ord c 0 ≠ 0) : litT M (forcedL ord c 0) = true := by
  obtain ⟨l, hl, ht⟩ := List.any_eq_true.1 hM
  rcases forcedL_sound c 0 hc hf with ⟨g1, _⟩ | ⟨_, _, _, g4⟩
  · exact absurd g1 hf
  · rcases g4 l hl with e | e
    · rw [← e]; exact ht
    · rw [h.neg hg e] at ht; cases ht

/-- A clause of which nothing can hold any more. -/
def lostC (ord c : List Int) : Bool := !c.any fun l => decide (0 ≤ valT ord l)
theorem lost_none {M : Nat → Bool} {n : Nat} {ord c : List Int} (h : Agr M ord) (hg : GoodOrd n ord) (hl : lostC ord c = true) : claT M c = false := by
  rw [claT, List.any_eq_false]
  intro l hlc ht
  have : valT ord l = -1 := by
    simp only [lostC, Bool.not_eq_true', List.any_eq_false, decide_eq_true_eq] at hl
    have := hl l hlc
    rcases valT_cases ord l with ⟨h1, _⟩ | ⟨h1, _⟩ | ⟨h1, _⟩ <;> omega
  rw [h.neg hg this] at ht
  cases ht
end Go.Av
end
section
namespace Go.Proofs.Tryz
open Go Go.Av
set_option maxRecDepth 10000
set_option linter.unusedSimpArgs false
set_option linter.unusedVariables false
variable {W0 : World}

def trailO (cv : AV) (vid n : Nat) (ov lv : AV) : Option SObj := some (.cells 157 [.agg 157 [cv, .row 3 vid 0 (n + 1), ov, lv]])

/-- A trail in memory: its clauses, what each variable is, the literals in order, where levels begin. -/
structure Trail (st : Store) (tid : Nat) (cv : AV) (vid : Nat) (ov lv : AV) (n : Nat) (cls : List (List Int)) (ord : List Int) (lev : List Nat) : Prop where
  hobj : st[tid]? = some (trailO cv vid n ov lv)
  hcls : Bld st cv 84 (cls.map litsAV)
  hvals : st[vid]? = some (some (.cells 3 ((vals n ord).map (.int .i64))))
  hord : RowV st ov 54 (ord.map (.int .i64))
  hlev : RowV st lv 3 (lev.map fun k => .int .i64 (k : Nat))
  hne : vid ∉ foot lv
  good : GoodOrd n ord
  small : n ≤ 200
  clen : cls.length ≤ 5000
  wf : ∀ c ∈ cls, ∀ l ∈ c, l ≠ 0 ∧ l.natAbs ≤ n

variable {σ : Store} {tid vid n : Nat} {cv ov lv : AV} {cls : List (List Int)} {ord : List Int} {lev : List Nat}

theorem pr_of (h : Trail σ tid cv vid ov lv n cls ord lev) (l : Int) (h0 : l ≠ 0) (hl : l.natAbs ≤ n) :
    ACall prog W0 142 [.ptr 157 tid 0 [], .int .i64 l] σ fun r σ' => r = .int .i64 (valT ord l) ∧ σ' = σ := by
  refine fn_st [4] [] func142 rfl rfl ntmps142 rfl rfl (.int _ _) fun hs => ?_
  have hn := h.small
  have hg := vals_get (ord := ord) hl
  simp only [go_sem, simprocAttr, ↓reduceIte, look_id h.hobj, look_id h.hvals, live_id h.hvals]
  refine ⟨fun hneg => ?_, fun hpos => ?_⟩
  · have hw : IntKind.i64.wrap (-l) = -l := wrap_in (by omega)
    have ha : (-l).toNat = l.natAbs := by omega
    have he : ((l.natAbs : Nat) : Int) = -l := by omega
    rw [he, valT_neg h.good] at hg
    simp only [go_sem, simprocAttr, ↓reduceIte, look_id h.hobj, look_id h.hvals, live_id h.hvals, hw, ha, Nat.zero_add, List.getElem?_map, hg, Option.map_some]
    refine ⟨by omega, EndR.ret ?_⟩
    simp only [go_sem, simprocAttr, ↓reduceIte]
    rcases valT_cases ord l with ⟨h1, _⟩ | ⟨h1, _⟩ | ⟨h1, _⟩ <;> rw [h1] <;> exact weak_int rfl
  · have ha : l.toNat = l.natAbs := by omega
    have he : ((l.natAbs : Nat) : Int) = l := by omega
    rw [he] at hg
    simp only [go_sem, simprocAttr, ↓reduceIte, look_id h.hobj, look_id h.hvals, live_id h.hvals, ha, Nat.zero_add, List.getElem?_map, hg, Option.map_some]
    refine ⟨by omega, EndR.ret ?_⟩
    simp only [go_sem, simprocAttr, ↓reduceIte]
    try exact .refl _

theorem pr_forced (h : Trail σ tid cv vid ov lv n cls ord lev) (c : List Int) (hc : ∀ l ∈ c, l ≠ 0 ∧ l.natAbs ≤ n) :
    ACall prog W0 165 [.ptr 157 tid 0 [], litsAV c] σ fun r σ' => r = .int .i64 (forcedL ord c 0) ∧ σ' = σ := by
  refine fn_st [4] [] func165 rfl rfl ntmps165 rfl rfl (.int _ _) fun hs => ?_
  have hcl := (small_map (hs (litsAV c) (by simp))).1
  simp only [go_sem, simprocAttr, ↓reduceIte, litsAV, List.length_map]
  refine LoopVC.upto [0, 9, 10] (.of (by kernel_rfl)) c.length (fun i A => ∃ out : Int, A.env 11 = .int .i64 i ∧ A.env 5 = .int .i64 out ∧ A.st = σ ∧ forcedL ord (c.drop i) out = forcedL ord c 0) 0 (Nat.zero_le _) ?_ fun i B hi ⟨out, h11, h5, hst, hI⟩ => ?_
  · simp only [go_sem, simprocAttr, ↓reduceIte]
    exact ⟨0, rfl, rfl⟩
  simp only [go_sem, simprocAttr, ↓reduceIte, h11, h5, hst, List.length_map]
  refine ⟨fun hlt => ⟨hlt, ?_⟩, fun hge => EndR.ret ?_⟩
  · obtain ⟨l, hl⟩ := get_some hlt
    obtain ⟨hlt', hle⟩ := List.getElem?_eq_some_iff.1 hl
    have hlc := hc l (List.mem_of_getElem? hl)
    rw [List.drop_eq_getElem_cons hlt', hle, forcedL] at hI
    simp only [atV_map hl]
    simp only [go_sem, simprocAttr, ↓reduceIte, h11, h5, hst]
    refine CallA.reads (by simp only [go_sem, simprocAttr, ↓reduceIte, hst]) (pr_of h l hlc.1 hlc.2) ?_
    simp only [go_sem, simprocAttr, ↓reduceIte, h11, h5, hst]
    have key : (decide (0 < valT ord l) || (valT ord l == 0 && out != 0)) = decide (0 < valT ord l ∨ (valT ord l = 0 ∧ out ≠ 0)) := by
      rw [Bool.eq_iff_iff]; simp
    simp only [key]
    refine ⟨fun hb => EndR.ret ?_, fun hb => ?_⟩
    · simp only [go_sem, simprocAttr, ↓reduceIte, hst]
      rw [if_pos (of_decide_eq_true hb)] at hI
      exact weak_int hI
    · rw [if_neg (of_decide_eq_false hb)] at hI
      refine ⟨fun hz => ⟨hlt, l, int_succ hlt hcl, rfl, by rw [if_pos hz] at hI; exact hI⟩, fun hz => ⟨hlt, out, int_succ hlt hcl, rfl, by rw [if_neg hz] at hI; exact hI⟩⟩
  · simp only [go_sem, simprocAttr, ↓reduceIte, hst]
    rw [List.drop_eq_nil_of_le hge] at hI
    exact weak_int hI

theorem pr_take (h : Trail σ tid cv vid ov lv n cls ord lev) (l : Int) (h0 : l ≠ 0) (hl : l.natAbs ≤ n) (hv : valT ord l = 0) :
    ACall prog W0 143 [.ptr 157 tid 0 [], .int .i64 l] σ fun r σ' => Fr (tid :: vid :: foot ov) σ σ' ∧ ∃ ov', Trail σ' tid cv vid ov' lv n cls (ord ++ [l]) lev ∧ ∀ j ∈ foot ov', j ∈ foot ov ∨ σ.length ≤ j := by
  refine fn_call [] [] func143 rfl rfl ntmps143 rfl rfl fun hs => ?_
  have hn := h.small
  have hlen := h.good.len
  have hg := h.good.app h0 hl hv
  have ho := h.hord.st
  simp only [go_sem, simprocAttr, ↓reduceIte, look_id h.hobj, ho.ok, ho.un]
  refine AppA.rowS (σ := σ) (by simp only [go_sem, simprocAttr, ↓reduceIte]) 1048576 (by kernel_rfl) h.hord (.lit _ _ _) (by simp; omega) fun ov' σ1 ha => ?_
  have hr := ha.row.st
  have t1 : tid < σ.length := (List.getElem?_eq_some_iff.1 h.hobj).1
  have hobj1 : σ1[tid]? = some (trailO cv vid n ov lv) := by rw [ha.fr.old tid t1 (h.hord.ne h.hobj (by decide)), h.hobj]
  have t1' := (List.getElem?_eq_some_iff.1 hobj1).1
  have v1 : vid < σ.length := (List.getElem?_eq_some_iff.1 h.hvals).1
  have htv : tid ≠ vid := fun e => by have := h.hobj; rw [e, h.hvals] at this; simp [trailO] at this
  have hvals1 : σ1[vid]? = some (some (.cells 3 ((vals n ord).map (.int .i64)))) := by rw [ha.fr.old vid v1 (h.hord.ne h.hvals (by decide)), h.hvals]
  have hvals2 : ∀ o, (σ1.set tid o)[vid]? = some (some (.cells 3 ((vals n ord).map (.int .i64)))) := fun o => by rw [List.getElem?_set_ne htv, hvals1]
  have v1' := (List.getElem?_eq_some_iff.1 hvals1).1
  have fin : ∀ x : Int, x = (if 0 < l then 1 else -1) → ∀ st, st = (σ1.set tid (trailO cv vid n ov' lv)).set vid (some (.cells 3 (((vals n ord).map (AV.int .i64)).set l.natAbs (.int .i64 x)))) →
      σ.length ≤ st.length ∧ Fr (tid :: vid :: foot ov) σ st ∧ ∃ ov', Trail st tid cv vid ov' lv n cls (ord ++ [l]) lev ∧ ∀ j ∈ foot ov', j ∈ foot ov ∨ σ.length ≤ j := fun x hx st hst => by
    have fr : Fr (tid :: vid :: foot ov) σ st := by
      rw [hst]
      exact ((ha.fr.mono fun j hj => by simp [hj]).set (.inl (by simp)) _).set (.inl (by simp)) _
    have old : ∀ j, j ≠ tid → j ≠ vid → st[j]? = σ1[j]? := fun j h1 h2 => by rw [hst, List.getElem?_set_ne (fun e => h2 e.symm), List.getElem?_set_ne (fun e => h1 e.symm)]
    have hor1 := ha.row
    refine ⟨fr.len, fr, ov', ⟨?_, ?_, ?_, ?_, ?_, h.hne, hg, h.small, h.clen, h.wf⟩, ha.foot⟩
    · rw [hst, List.getElem?_set_ne (fun e => htv e.symm)]; simp [t1']
    · refine h.hcls.keep fun j hj => ?_
      have hjl := h.hcls.lt j hj
      have e1 : j ≠ tid := fun e => h.hcls.ne h.hobj (by simp) (e ▸ hj)
      have e2 : j ≠ vid := fun e => h.hcls.ne h.hvals (by simp) (e ▸ hj)
      rw [old j e1 e2]
      refine ha.fr.old j hjl fun e => ?_
      rcases h.hcls with ⟨rfl, _⟩ | h1 | ⟨t, rfl, h1⟩
      · simp [foot] at hj
      · rw [h1] at hj; simp [foot] at hj
      · simp [foot] at hj
        subst hj
        rcases h.hord with ⟨rfl, _⟩ | ⟨id, off, m, zs, rfl, h2, _⟩
        · simp [foot] at e
        · simp [foot] at e; subst e; rw [h1] at h2; cases h2
    · rw [hst, List.getElem?_set_self (by simpa using v1'), vals_app hg, List.map_set, hx]
    · refine RowV.keep (by rw [List.map_append]; exact hor1) fun j hj => old j (fun e => ?_) (fun e => ?_)
      · exact hor1.ne hobj1 (by decide) (e ▸ hj)
      · exact hor1.ne hvals1 (by decide) (e ▸ hj)
    · refine h.hlev.keep fun j hj => ?_
      have hjl := h.hlev.lt j hj
      have e1 : j ≠ tid := fun e => h.hlev.ne h.hobj (by decide) (e ▸ hj)
      have e2 : j ≠ vid := fun e => h.hne (e ▸ hj)
      rw [old j e1 e2]
      refine ha.fr.old j hjl fun e => ?_
      rcases h.hlev with ⟨rfl, _⟩ | ⟨id, off, m, zs, rfl, h1, _⟩
      · simp [foot] at hj
      · simp [foot] at hj
        subst hj
        exact h.hord.ne h1 (by decide) e
  simp only [go_sem, simprocAttr, ↓reduceIte, look_id hobj1, setLook_id hobj1, hr.ok, hr.un, hr.fits]
  have hll : l.natAbs < ((vals n ord).map (AV.int .i64)).length := by rw [List.length_map, vals_len]; omega
  obtain ⟨y, hy⟩ := get_some hll
  refine ⟨fun hneg => ?_, fun hpos => ?_⟩
  · have hw : IntKind.i64.wrap (-l) = -l := wrap_in (by omega)
    have ha : (-l).toNat = l.natAbs := by omega
    simp only [go_sem, simprocAttr, ↓reduceIte, look_set t1', look_id (hvals2 _), live_id (hvals2 _), setLook_id (hvals2 _), hw, ha, Nat.zero_add, hy, Option.bind_some, Option.isSome_some]
    refine ⟨by omega, EndR.normal ?_⟩
    simp only [go_sem, simprocAttr, ↓reduceIte]
    exact ⟨_, .refl _, fin (-1) (by rw [if_neg (by omega)]) _ rfl⟩
  · have ha : l.toNat = l.natAbs := by omega
    simp only [go_sem, simprocAttr, ↓reduceIte, look_set t1', look_id (hvals2 _), live_id (hvals2 _), setLook_id (hvals2 _), ha, Nat.zero_add, hy, Option.bind_some, Option.isSome_some]
    refine ⟨by omega, EndR.normal ?_⟩
    simp only [go_sem, simprocAttr, ↓reduceIte]
    exact ⟨_, .refl _, fin 1 (by rw [if_pos (by omega)]) _ rfl⟩
end Go.Proofs.Tryz
end
section
namespace Go.Proofs.Tryz
open Go Go.Av
set_option maxRecDepth 10000
set_option linter.unusedSimpArgs false
set_option linter.unusedVariables false
variable {W0 : World}
variable {σ : Store} {tid vid n : Nat} {cv ov lv : AV} {cls : List (List Int)} {ord : List Int} {lev : List Nat}

/-- A trail that has been followed for a while. -/
structure Foll (σ st : Store) (tid : Nat) (cv : AV) (vid : Nat) (ov ov' lv : AV) (n : Nat) (cls : List (List Int)) (ord ord' : List Int) (lev : List Nat) : Prop where
  tr : Trail st tid cv vid ov' lv n cls ord' lev
  fr : Fr (tid :: vid :: foot ov) σ st
  ft : ∀ j ∈ foot ov', j ∈ foot ov ∨ σ.length ≤ j
  pre : ∃ fs, ord' = ord ++ fs
  snd : ∀ M, setT M cls = true → Agr M ord → Agr M ord'

theorem Foll.refl (h : Trail σ tid cv vid ov lv n cls ord lev) : Foll σ σ tid cv vid ov ov lv n cls ord ord lev := ⟨h, .refl _ _, fun j hj => .inl hj, ⟨[], by simp⟩, fun M _ h => h⟩

theorem Foll.step {st st2 : Store} {ov' ov2 : AV} {ord' c : List Int} (h : Foll σ st tid cv vid ov ov' lv n cls ord ord' lev) (hc : c ∈ cls) (hf : forcedL ord' c 0 ≠ 0) (fr : Fr (tid :: vid :: foot ov') st st2) (tr : Trail st2 tid cv vid ov2 lv n cls (ord' ++ [forcedL ord' c 0]) lev) (ft : ∀ j ∈ foot ov2, j ∈ foot ov' ∨ st.length ≤ j) : Foll σ st2 tid cv vid ov ov2 lv n cls ord (ord' ++ [forcedL ord' c 0]) lev := by
  refine ⟨tr, h.fr.trans fr fun j hj => ?_, fun j hj => ?_, ?_, fun M hM ha l hl => ?_⟩
  · rcases List.mem_cons.1 hj with rfl | hj
    · exact .inl (by simp)
    rcases List.mem_cons.1 hj with rfl | hj
    · exact .inl (by simp)
    exact (h.ft j hj).imp_left fun h => by simp [h]
  · rcases ft j hj with h1 | h1
    · exact h.ft j h1
    · have := h.fr.len; exact .inr (by omega)
  · obtain ⟨fs, e⟩ := h.pre
    exact ⟨fs ++ [forcedL ord' c 0], by rw [e, List.append_assoc]⟩
  · rcases List.mem_append.1 hl with h1 | h1
    · exact h.snd M hM ha l h1
    · rw [List.mem_singleton.1 h1]
      exact forced_agr (h.snd M hM ha) h.tr.good (fun l hl => (h.tr.wf c hc l hl).1) (List.all_eq_true.1 hM c hc) hf

theorem pr_follow (h : Trail σ tid cv vid ov lv n cls ord lev) :
    ACall prog W0 141 [.ptr 157 tid 0 []] σ fun r σ' => ∃ ov' ord', Foll σ σ' tid cv vid ov ov' lv n cls ord ord' lev := by
  refine fn_call [] [] func141 rfl rfl ntmps141 rfl rfl fun hs => ?_
  simp only [go_sem, simprocAttr, ↓reduceIte]
  refine LoopVC.falls [0] (.of (by kernel_rfl)) (fun k A => ∃ b ov' ord', A.env 2 = .bool b ∧ Foll σ A.st tid cv vid ov ov' lv n cls ord ord' lev ∧ k = 2 * (n - ord'.length) + (if b = true then 1 else 0)) (2 * (n - ord.length) + 1) ⟨true, ov, ord, ?_⟩ fun k B ⟨b, ov', ord', h2, hF, hk⟩ => ?_
  · simp only [go_sem, simprocAttr, ↓reduceIte]
    exact .refl h
  simp only [go_sem, simprocAttr, ↓reduceIte, h2]
  refine ⟨fun hb => ?_, fun hb => EndR.normal ?_⟩
  · subst hb
    have hb := hF.tr.hcls
    simp only [go_sem, simprocAttr, ↓reduceIte, look_id hF.tr.hobj, hb.ok, hb.un, hb.len, hb.lenC, List.length_map]
    refine LoopVC.ats [0] (.of (by kernel_rfl)) (fun A => ∃ b ov2 ord2, A.env 2 = .bool b ∧ Foll σ A.st tid cv vid ov ov2 lv n cls ord ord2 lev ∧ ord'.length ≤ ord2.length ∧ (b = true → ord'.length < ord2.length)) ?_ fun A ⟨b, ov2, ord2, h2, hF2, hl1, hl2⟩ => ?_
    · refine LoopVC.upto [0, 10, 11] (.of (by kernel_rfl)) cls.length (fun i A => A.env 12 = .int .i64 i ∧ ∃ b ov2 ord2, A.env 2 = .bool b ∧ Foll σ A.st tid cv vid ov ov2 lv n cls ord ord2 lev ∧ ord'.length ≤ ord2.length ∧ (b = true → ord'.length < ord2.length)) 0 (Nat.zero_le _) ?_ fun i A hi ⟨h12, b, ov2, ord2, h2, hF2, hl1, hl2⟩ => ?_
      · simp only [go_sem, simprocAttr, ↓reduceIte]
        exact ⟨false, ov', ord', rfl, hF, Nat.le_refl _, fun h => by cases h⟩
      simp only [go_sem, simprocAttr, ↓reduceIte, h12, h2]
      refine ⟨fun hlt => ?_, fun hge => ⟨b, ov2, ord2, rfl, hF2, hl1, hl2⟩⟩
      obtain ⟨c, hc⟩ := get_some hlt
      have hcm := List.mem_of_getElem? hc
      have h0 : 0 < (cls.map litsAV).length := by rw [List.length_map]; omega
      simp only [go_sem, simprocAttr, ↓reduceIte, h12, h2, hb.ok, hb.un, hb.idxV h0, hb.idxC h0, List.length_map, atV_map hc]
      refine ⟨hlt, CallA.reads (by simp only [go_sem, simprocAttr, ↓reduceIte]) (pr_forced hF2.tr c (hF2.tr.wf c hcm)) ?_⟩
      simp only [go_sem, simprocAttr, ↓reduceIte, h12, h2]
      refine ⟨fun hf => ?_, fun hf => ?_⟩
      · obtain ⟨g1, g2⟩ | ⟨_, g2, g3, g4⟩ := forcedL_sound c 0 (fun l hl => (hF2.tr.wf c hcm l hl).1) hf
        · exact absurd g1 hf
        have hw := hF2.tr.wf c hcm _ g2
        refine CallA.goes (by simp only [go_sem, simprocAttr, ↓reduceIte]) (pr_take hF2.tr _ hw.1 hw.2 g3) fun r σ' ⟨fr, ov3, tr, ft⟩ => ?_
        simp only [go_sem, simprocAttr, ↓reduceIte, h12]
        exact ⟨hlt, int_succ hlt (by have := h.clen; rw [maxLen_eq]; omega), true, ov3, _, rfl, hF2.step hcm hf fr tr ft, by simp; omega, fun _ => by simp; omega⟩
      · exact ⟨hlt, int_succ hlt (by have := h.clen; rw [maxLen_eq]; omega), b, ov2, ord2, rfl, hF2, hl1, hl2⟩
    simp only [go_sem, simprocAttr, ↓reduceIte, h2]
    have g1 := hF.tr.good.len
    have g2 := hF2.tr.good.len
    refine .here (2 * (n - ord2.length) + (if b = true then 1 else 0)) ?_ ⟨b, ov2, ord2, h2, hF2, rfl⟩
    rw [hk, if_pos rfl]
    cases b with
    | true => have := hl2 rfl; simp; omega
    | false => simp; omega
  · simp only [go_sem, simprocAttr, ↓reduceIte]
    exact ⟨_, .refl _, hF.fr.len, ov', ord', hF⟩
end Go.Proofs.Tryz
end
section
namespace Go.Proofs.Tryz
open Go Go.Av
set_option maxRecDepth 10000
set_option linter.unusedSimpArgs false
set_option linter.unusedVariables false
variable {W0 : World}
variable {σ : Store} {tid vid n : Nat} {cv ov lv : AV} {cls : List (List Int)} {ord : List Int} {lev : List Nat}

theorem pr_clash2 (h : Trail σ tid cv vid ov lv n cls ord lev) (l : Int) (h0 : l ≠ 0) (hl : l.natAbs ≤ n) :
    ACall prog W0 146 [.int .i64 l, .loc 125 (.ptr 157 tid 0 [])] σ fun r σ' => r = .bool (decide (0 ≤ valT ord l)) ∧ σ' = σ := by
  refine fn_st [3] [] func146 rfl rfl ntmps146 rfl rfl (.bool _) fun hs => ?_
  simp only [go_sem, simprocAttr, ↓reduceIte]
  refine CallA.reads (by simp only [go_sem, simprocAttr, ↓reduceIte]) (pr_of h l h0 hl) ?_
  simp only [go_sem, simprocAttr, ↓reduceIte]
  refine EndR.ret ?_
  simp only [go_sem, simprocAttr, ↓reduceIte]
  try exact .refl _

theorem pr_clash1 (h : Trail σ tid cv vid ov lv n cls ord lev) (c : List Int) (hc : ∀ l ∈ c, l ≠ 0 ∧ l.natAbs ≤ n) :
    ACall prog W0 145 [litsAV c, .loc 125 (.ptr 157 tid 0 [])] σ fun r σ' => r = .bool (lostC ord c) ∧ σ' = σ := by
  refine fn_st [3] [] func145 rfl rfl ntmps145 rfl rfl (.bool _) fun hs => ?_
  simp only [go_sem, simprocAttr, ↓reduceIte]
  refine CallA.reads (by simp only [go_sem, simprocAttr, ↓reduceIte]) (anLitR (.int .i64) NotM.int64 c (fun l => decide (0 ≤ valT ord l)) _ [.loc 125 (.ptr 157 tid 0 [])] σ fun l hl => pr_clash2 h l (hc l hl).1 (hc l hl).2) ?_
  simp only [go_sem, simprocAttr, ↓reduceIte]
  refine EndR.ret ?_
  simp only [go_sem, simprocAttr, ↓reduceIte]
  try exact .refl _

theorem pr_clash (h : Trail σ tid cv vid ov lv n cls ord lev) :
    ACall prog W0 115 [.ptr 157 tid 0 []] σ fun r σ' => r = .int .i64 (idxL (lostC ord) cls) ∧ σ' = σ := by
  refine fn_st [2] [1] func115 rfl rfl ntmps115 rfl rfl (.int _ _) fun hs => ?_
  have hb := h.hcls
  simp only [go_sem, simprocAttr, ↓reduceIte, look_id h.hobj, hb.ok, hb.un]
  refine CallA.reads (by simp only [go_sem, simprocAttr, ↓reduceIte]) ((ixLitsR litsAV NotM.lits cls (lostC ord) _ [.loc 125 (.ptr 157 tid 0 [])] σ fun c hc => pr_clash1 h c (h.wf c hc)).weak (.cons hb.weak (.cons (.refl _) .nil))) ?_
  simp only [go_sem, simprocAttr, ↓reduceIte]
  refine EndR.ret ?_
  simp only [go_sem, simprocAttr, ↓reduceIte]
  try exact .refl _

theorem pr_levels (h : Trail σ tid cv vid ov lv n cls ord lev) :
    ACall prog W0 166 [.ptr 157 tid 0 []] σ fun r σ' => r = .int .i64 lev.length ∧ σ' = σ := by
  refine fn_st [2] [] func166 rfl rfl ntmps166 rfl rfl (.int _ _) fun hs => ?_
  have hb := h.hlev.st
  simp only [go_sem, simprocAttr, ↓reduceIte, look_id h.hobj, hb.ok, hb.un, hb.len, hb.lenC, List.length_map]
  refine EndR.ret ?_
  simp only [go_sem, simprocAttr, ↓reduceIte]
  try exact .refl _

theorem pr_value (h : Trail σ tid cv vid ov lv n cls ord lev) (v : Nat) (h0 : 0 < v) (hv : v ≤ n) :
    ACall prog W0 82 [.ptr 157 tid 0 [], .int .i64 v] σ fun r σ' => r = .int .i64 (valT ord v) ∧ σ' = σ := by
  refine fn_st [4] [] func82 rfl rfl ntmps82 rfl rfl (.int _ _) fun hs => ?_
  have h1 : decide ((v : Int) < 1) = false := decide_eq_false (by omega)
  have h2 : decide (((n + 1 : Nat) : Int) ≤ (v : Int)) = false := decide_eq_false (by omega)
  have hg := vals_get (ord := ord) hv
  simp only [go_sem, simprocAttr, ↓reduceIte, look_id h.hobj, look_id h.hvals, live_id h.hvals, h1, h2, Nat.zero_add, List.getElem?_map, hg, Option.map_some]
  refine ⟨fun h => absurd h (by omega), fun _ => ⟨by omega, EndR.ret ?_⟩⟩
  simp only [go_sem, simprocAttr, ↓reduceIte]
  try exact .refl _

theorem Trail.ids (h : Trail σ tid cv vid ov lv n cls ord lev) : tid < σ.length ∧ vid < σ.length ∧ tid ≠ vid := ⟨(List.getElem?_eq_some_iff.1 h.hobj).1, (List.getElem?_eq_some_iff.1 h.hvals).1, fun e => by have := h.hobj; rw [e, h.hvals] at this; simp [trailO] at this⟩
theorem Trail.tok (h : Trail σ tid cv vid ov lv n cls ord lev) {j : Nat} (hj : j ∈ foot cv) : j ≠ tid ∧ j ≠ vid ∧ j ∉ foot ov ∧ j ∉ foot lv := by
  refine ⟨fun e => h.hcls.ne h.hobj (by simp) (e ▸ hj), fun e => h.hcls.ne h.hvals (by simp) (e ▸ hj), fun e => ?_, fun e => ?_⟩
  · rcases h.hord with ⟨rfl, _⟩ | ⟨id, off, m, zs, rfl, h2, _⟩
    · simp [foot] at e
    · simp [foot] at e; subst e; exact h.hcls.ne h2 (by simp) hj
  · rcases h.hlev with ⟨rfl, _⟩ | ⟨id, off, m, zs, rfl, h2, _⟩
    · simp [foot] at e
    · simp [foot] at e; subst e; exact h.hcls.ne h2 (by simp) hj
theorem Trail.ovs (h : Trail σ tid cv vid ov lv n cls ord lev) {j : Nat} (hj : j ∈ foot ov) : j ≠ tid ∧ j ≠ vid ∧ j ∉ foot lv := by
  refine ⟨fun e => h.hord.ne h.hobj (by decide) (e ▸ hj), fun e => h.hord.ne h.hvals (by decide) (e ▸ hj), fun e => ?_⟩
  rcases h.hlev with ⟨rfl, _⟩ | ⟨id, off, m, zs, rfl, h2, _⟩
  · simp [foot] at e
  · simp [foot] at e; subst e; exact h.hord.ne h2 (by decide) hj
theorem Trail.lvs (h : Trail σ tid cv vid ov lv n cls ord lev) {j : Nat} (hj : j ∈ foot lv) : j ≠ tid ∧ j ≠ vid := ⟨fun e => h.hlev.ne h.hobj (by decide) (e ▸ hj), fun e => h.hne (e ▸ hj)⟩

/-- New levels. -/
theorem Trail.levs (h : Trail σ tid cv vid ov lv n cls ord lev) {lv' : AV} {σ1 : Store} {lev2 : List Nat} (hf : Fr (foot lv) σ σ1) (hr : RowV σ1 lv' 3 (lev2.map fun k => .int .i64 (k : Nat))) (hft : ∀ j ∈ foot lv', j ∈ foot lv ∨ σ.length ≤ j) :
    σ1[tid]? = some (trailO cv vid n ov lv) ∧ Trail (σ1.set tid (trailO cv vid n ov lv')) tid cv vid ov lv' n cls ord lev2 := by
  obtain ⟨i1, i2, i3⟩ := h.ids
  have o1 : σ1[tid]? = some (trailO cv vid n ov lv) := by rw [hf.old tid i1 (fun e => (h.lvs e).1 rfl), h.hobj]
  have t1 := (List.getElem?_eq_some_iff.1 o1).1
  have old : ∀ j, j ≠ tid → j < σ.length → j ∉ foot lv → (σ1.set tid (trailO cv vid n ov lv'))[j]? = σ[j]? := fun j e1 e2 e3 => by rw [List.getElem?_set_ne (fun e => e1 e.symm), hf.old j e2 e3]
  refine ⟨o1, by simp [t1], ?_, ?_, ?_, ?_, fun e => ?_, h.good, h.small, h.clen, h.wf⟩
  · exact h.hcls.keep fun j hj => old j (h.tok hj).1 (h.hcls.lt j hj) (h.tok hj).2.2.2
  · rw [old vid (fun e => i3 e.symm) i2 h.hne, h.hvals]
  · exact h.hord.keep fun j hj => old j (h.ovs hj).1 (h.hord.lt j hj) (h.ovs hj).2.2
  · exact hr.keep fun j hj => List.getElem?_set_ne fun e => by
      rcases hft j hj with h1 | h1
      · exact (h.lvs h1).1 e.symm
      · omega
  · rcases hft vid e with h1 | h1
    · exact h.hne h1
    · omega

theorem pr_push (h : Trail σ tid cv vid ov lv n cls ord lev) (l : Int) (h0 : l ≠ 0) (hl : l.natAbs ≤ n) (hv : valT ord l = 0) (hc : cls.any (lostC ord) = false) (hlv : lev.length ≤ 100000) :
    ACall prog W0 114 [.ptr 157 tid 0 [], .int .i64 l] σ fun r σ' => r = .bool true ∧ ∃ ov' lv' fs, Trail σ' tid cv vid ov' lv' n cls (ord ++ l :: fs) (lev ++ [ord.length]) ∧ Fr (tid :: vid :: (foot ov ++ foot lv)) σ σ' ∧ (∀ j ∈ foot ov' ++ foot lv', j ∈ foot ov ++ foot lv ∨ σ.length ≤ j) ∧ ∀ M, setT M cls = true → Agr M (ord ++ [l]) → Agr M (ord ++ l :: fs) := by
  refine fn_call [4] [2000052, 4000003] func114 rfl rfl ntmps114 rfl rfl fun hs => ?_
  have hn := h.small
  have hw : IntKind.i64.wrap (-((n + 1 : Nat) : Int)) = -((n + 1 : Nat) : Int) := wrap_in (by omega)
  have e1 : (l == 0) = false := by simp [h0]
  have e2 : decide (l ≤ -((n + 1 : Nat) : Int)) = false := decide_eq_false (by omega)
  have e3 : decide (((n + 1 : Nat) : Int) ≤ l) = false := decide_eq_false (by omega)
  simp only [go_sem, simprocAttr, ↓reduceIte, look_id h.hobj, hw, e1, e2, e3, Bool.or_false]
  refine CallP.st (fun _ => pr_of h l h0 hl) ?_
  simp only [go_sem, simprocAttr, ↓reduceIte, hv]
  refine CallP.st (fun _ => pr_clash h) ?_
  have e4 : decide (0 ≤ idxL (lostC ord) cls) = false := by rw [idxL_ge, hc]
  have hov := h.hord.st
  have hlvs := h.hlev.st
  simp only [go_sem, simprocAttr, ↓reduceIte, e4, look_id h.hobj, hov.ok, hov.un, hov.len, hov.lenC, hlvs.ok, hlvs.un, List.length_map]
  refine ⟨.of (by kernel_rfl), AppA.rowS (σ := σ) (by simp only [go_sem, simprocAttr, ↓reduceIte]) 1048576 (by kernel_rfl) h.hlev (.lit _ _ _) (by simp; omega) fun lv' σ1 ha => ?_⟩
  have hr' : RowV σ1 lv' 3 ((lev ++ [ord.length]).map fun k => .int .i64 (k : Nat)) := by rw [List.map_append]; exact ha.row
  obtain ⟨o1, h2⟩ := h.levs ha.fr hr' ha.foot
  have hr := ha.row.st
  simp only [go_sem, simprocAttr, ↓reduceIte, look_id o1, setLook_id o1, hr.ok, hr.un, hr.fits]
  refine CallA.goes (by simp only [go_sem, simprocAttr, ↓reduceIte, trailO]) (pr_take h2 l h0 hl hv) fun r σ3 ⟨fr3, ov3, h3, ft3⟩ => ?_
  simp only [go_sem, simprocAttr, ↓reduceIte]
  refine CallA.goes (by simp only [go_sem, simprocAttr, ↓reduceIte]) (pr_follow h3) fun r σ4 ⟨ov4, ord4, hF⟩ => ?_
  simp only [go_sem, simprocAttr, ↓reduceIte]
  refine EndR.ret ?_
  simp only [go_sem, simprocAttr, ↓reduceIte]
  obtain ⟨fs, hfs⟩ := hF.pre
  rw [List.append_assoc, List.singleton_append] at hfs
  subst hfs
  have hl1 := ha.fr.len
  have hl3 : σ.length ≤ σ3.length := by have := fr3.len; simp at this; omega
  have hl4 := hF.fr.len
  refine ⟨_, .refl _, by omega, rfl, ov4, lv', fs, hF.tr, ?_, ?_, hF.snd⟩
  · have f1 : Fr (tid :: vid :: (foot ov ++ foot lv)) σ (σ1.set tid (trailO cv vid n ov lv')) := (ha.fr.mono fun j hj => by simp [hj]).set (.inl (by simp)) _
    have f2 := f1.trans fr3 fun j hj => by simp at hj ⊢; rcases hj with h | h | h <;> simp [h]
    refine f2.trans hF.fr fun j hj => ?_
    simp at hj ⊢
    rcases hj with h | h | h
    · simp [h]
    · simp [h]
    · rcases ft3 j h with h | h
      · simp [h]
      · simp at h; right; omega
  · intro j hj
    rcases List.mem_append.1 hj with hj | hj
    · rcases hF.ft j hj with h | h
      · rcases ft3 j h with h | h
        · simp [h]
        · simp at h; right; omega
      · right; omega
    · rcases ha.foot j hj with h | h
      · simp [h]
      · right; exact h
end Go.Proofs.Tryz
end
section
namespace Go.Proofs.Tryz
open Go Go.Av
set_option maxRecDepth 10000
set_option linter.unusedSimpArgs false
set_option linter.unusedVariables false
variable {W0 : World}
variable {σ : Store} {tid vid n : Nat} {cv ov lv : AV} {cls : List (List Int)} {ord : List Int} {lev : List Nat}

theorem pr_pushNo (h : Trail σ tid cv vid ov lv n cls ord lev) (l : Int) (h0 : l ≠ 0) (hl : l.natAbs ≤ n) (hv : valT ord l = 0) (hc : cls.any (lostC ord) = true) :
    ACall prog W0 114 [.ptr 157 tid 0 [], .int .i64 l] σ fun r σ' => r = .bool false ∧ σ' = σ := by
  refine fn_call [4] [2000052, 4000003] func114 rfl rfl ntmps114 rfl rfl fun hs => ?_
  have hn := h.small
  have hw : IntKind.i64.wrap (-((n + 1 : Nat) : Int)) = -((n + 1 : Nat) : Int) := wrap_in (by omega)
  have e1 : (l == 0) = false := by simp [h0]
  have e2 : decide (l ≤ -((n + 1 : Nat) : Int)) = false := decide_eq_false (by omega)
  have e3 : decide (((n + 1 : Nat) : Int) ≤ l) = false := decide_eq_false (by omega)
  simp only [go_sem, simprocAttr, ↓reduceIte, look_id h.hobj, hw, e1, e2, e3, Bool.or_false]
  refine CallP.st (fun _ => pr_of h l h0 hl) ?_
  simp only [go_sem, simprocAttr, ↓reduceIte, hv]
  refine CallP.st (fun _ => pr_clash h) ?_
  have e4 : decide (0 ≤ idxL (lostC ord) cls) = true := by rw [idxL_ge, hc]
  simp only [go_sem, simprocAttr, ↓reduceIte, e4]
  refine EndR.ret ?_
  simp only [go_sem, simprocAttr, ↓reduceIte]
  exact ⟨_, .refl _, rfl⟩

theorem RowV.at {st : Store} {v : AV} {e : TypeId} {xs : List AV} {i : Nat} {x : AV} (h : RowV st v e xs) (hx : xs[i]? = some x) : ∃ id off m zs, v = .row e id off m ∧ st[id]? = some (some (.cells e zs)) ∧ m = xs.length ∧ zs[off + i]? = some x := by
  rcases h with ⟨_, rfl⟩ | ⟨id, off, m, zs, rfl, h1, h2, h3⟩
  · simp at hx
  · refine ⟨id, off, m, zs, rfl, h1, (RowV.len' (σ := st) (e := e) (id := id) h2 h3).symm, ?_⟩
    rw [h3, List.getElem?_take, List.getElem?_drop] at hx
    split at hx
    · exact hx
    · cases hx

theorem pr_pop {k : Nat} (h : Trail σ tid cv vid ov lv n cls ord (lev ++ [k])) (hk : k ≤ ord.length) (hll : lev.length ≤ 100000) :
    ACall prog W0 147 [.ptr 157 tid 0 []] σ fun r σ' => ∃ ov' lv', Trail σ' tid cv vid ov' lv' n cls (ord.take k) lev ∧ Fr [tid, vid] σ σ' ∧ foot ov' = foot ov ∧ foot lv' = foot lv := by
  refine fn_call [2] [4000010] func147 rfl rfl ntmps147 rfl rfl fun hs => ?_
  have hn := h.small
  have hol := h.good.len
  obtain ⟨i1, i2, i3⟩ := h.ids
  simp only [go_sem, simprocAttr, ↓reduceIte]
  refine CallA.reads (by simp only [go_sem, simprocAttr, ↓reduceIte]) (pr_levels h) ?_
  have e0 : (((lev ++ [k]).length : Int) == 0) = false := by simp; omega
  simp only [go_sem, simprocAttr, ↓reduceIte, e0]
  obtain ⟨lid, loff, lm, lz, hlv, hl1, hlm, hl2⟩ := RowV.at h.hlev (i := lev.length) (x := .int .i64 (k : Nat)) (by simp)
  have hlm' : lm = lev.length + 1 := by rw [hlm]; simp
  have hw : IntKind.i64.wrap ((lm : Int) - 1) = (lev.length : Nat) := by rw [wrap_in (by omega)]; omega
  have hov := h.hord
  have hovs := hov.st
  have ht : elT prog 84 = some 54 := by kernel_rfl
  have hcut := hov.cut (a := k) (b := ord.length) hk (by simp)
  rw [List.take_of_length_le (by simp), ← List.map_drop] at hcut
  have hcs := hcut.st
  simp only [go_sem, simprocAttr, ↓reduceIte, look_id h.hobj, hlv, hw, look_id hl1, live_id hl1, hl2, Option.bind_some, Option.isSome_some, hovs.ok, hovs.un, hov.cutV, hov.cutC ht, hcs.ok, hcs.un, hcs.len, hcs.lenC, List.length_map]
  refine ⟨by omega, hk, ?_⟩
  refine LoopVC.at [0, 3, 4] (.of (by kernel_rfl)) (fun A => A.st = σ.set vid (some (.cells 3 ((vals n (ord.take k)).map (.int .i64))))) ?_ fun B hst => ?_
  · refine LoopVC.upto [0, 3, 4, 28, 29] (.of (by kernel_rfl)) (ord.drop k).length (fun i A => A.env 30 = .int .i64 i ∧ A.st = σ.set vid (some (.cells 3 ((vals n (ord.take k ++ (ord.drop k).drop i)).map (.int .i64))))) 0 (Nat.zero_le _) ?_ fun i B hi ⟨h30, hst⟩ => ?_
    · simp only [go_sem, simprocAttr, ↓reduceIte]
      rw [List.take_append_drop]
      exact (set_id h.hvals).symm
    simp only [go_sem, simprocAttr, ↓reduceIte, h30, hst, List.length_map]
    refine ⟨fun hlt => ?_, fun hge => ?_⟩
    · obtain ⟨l, hl⟩ := get_some hlt
      obtain ⟨hlt', hle⟩ := List.getElem?_eq_some_iff.1 hl
      obtain ⟨oid, ooff, om, oz, hcv, ho1, hom, ho2⟩ := RowV.at hcut (i := i) (x := .int .i64 l) (by rw [List.getElem?_map, hl]; rfl)
      rw [List.length_map] at hom
      have hoid : vid ≠ oid := fun e => by have := h.hvals; rw [e, ho1] at this; cases this
      have ho1' : ∀ o, (σ.set vid o)[oid]? = some (some (.cells 54 oz)) := fun o => by rw [List.getElem?_set_ne hoid, ho1]
      have htid : ∀ o, (σ.set vid o)[tid]? = some (trailO cv vid n ov lv) := fun o => by rw [List.getElem?_set_ne (fun e => i3 e.symm), h.hobj]
      have hlm := h.good.wf l (List.mem_of_mem_drop (List.mem_of_getElem? hl))
      have hwl : IntKind.i64.wrap (-l) = -l := wrap_in (by omega)
      have hmx : maxI l (-l) = ((l.natAbs : Nat) : Int) := by unfold maxI; split <;> omega
      have hlen : l.natAbs < ((vals n (ord.take k ++ (ord.drop k).drop i)).map (AV.int .i64)).length := by rw [List.length_map, vals_len]; omega
      obtain ⟨y, hy⟩ := get_some hlen
      simp only [go_sem, simprocAttr, ↓reduceIte, h30, hst, hcv, look_id (ho1' _), live_id (ho1' _), ho2, Option.bind_some, Option.isSome_some, look_id (htid _), hlv, hwl, hmx, look_set i2, live_set i2, setLook_set i2, Nat.zero_add, hy, Option.getD_some]
      refine ⟨by omega, by omega, hlt, int_succ hlt (by rw [List.length_drop, maxLen_eq]; omega), ?_⟩
      have hd : (ord.drop k).drop i = l :: (ord.drop k).drop (i + 1) := by rw [List.drop_eq_getElem_cons hlt', hle]
      have hgd : GoodOrd n (ord.take k ++ l :: (ord.drop k).drop (i + 1)) := by
        rw [← hd]
        have := List.Sublist.append (List.Sublist.refl (ord.take k)) (List.drop_sublist i (ord.drop k))
        rw [List.take_append_drop] at this
        exact h.good.sub this
      have e : ((vals n (ord.take k ++ (ord.drop k).drop i)).map (AV.int .i64)).set l.natAbs (.int .i64 0) = (vals n (ord.take k ++ (ord.drop k).drop (i + 1))).map (.int .i64) := by
        rw [hd, ← vals_drop hgd, List.map_set]
      rw [e]
    · rw [List.drop_eq_nil_of_le hge, List.append_nil]
  have htid : ∀ o, (σ.set vid o)[tid]? = some (trailO cv vid n ov lv) := fun o => by rw [List.getElem?_set_ne (fun e => i3 e.symm), h.hobj]
  simp only [go_sem, simprocAttr, ↓reduceIte, hst, look_id (htid _), hovs.ok, hovs.un, hov.cutV, hov.cutC ht, hlv, List.length_map]
  have hcut2 := hov.cut (a := 0) (b := k) (Nat.zero_le _) (by simpa using hk)
  have hc2 := hcut2.st
  have t1 : ∀ o, tid < (σ.set vid o).length := fun o => by simpa using i1
  simp only [go_sem, simprocAttr, ↓reduceIte, hc2.ok, hc2.un, hc2.fits, setLook_id (htid _), look_set (t1 _), setLook_set (t1 _)]
  refine ⟨.of (by kernel_rfl), ⟨Nat.zero_le _, hk⟩, ⟨Nat.zero_le _, by omega⟩, EndR.ret ?_⟩
  simp only [go_sem, simprocAttr, ↓reduceIte]
  have hcut3 := h.hlev.cut (a := 0) (b := lev.length) (Nat.zero_le _) (by simp)
  have old : ∀ j, j ≠ tid → j ≠ vid → ∀ o o', ((σ.set vid o).set tid o')[j]? = σ[j]? := fun j e1 e2 o o' => by rw [List.getElem?_set_ne (fun e => e1 e.symm), List.getElem?_set_ne (fun e => e2 e.symm)]
  have e2 : (ord.map (AV.int .i64)).drop 0 = ord.map (AV.int .i64) := rfl
  rw [List.drop_zero, Nat.sub_zero, ← List.map_take] at hcut2 hcut3
  have e3 : (lev ++ [k]).take lev.length = lev := by rw [List.take_append_of_le_length (Nat.le_refl _), List.take_length]
  rw [e3, hlv, cutR_row] at hcut3
  refine ⟨_, .refl _, by simp, cutR 0 k ov, .row 3 lid (loff + 0) (lev.length - 0), ⟨?_, ?_, ?_, ?_, ?_, ?_, h.good.take k, h.small, h.clen, h.wf⟩, ?_, foot_cutR _ _ _, rfl⟩
  · simp [i1]; rfl
  · exact h.hcls.keep fun j hj => old j (h.tok hj).1 (h.tok hj).2.1 _ _
  · rw [List.getElem?_set_ne i3, List.getElem?_set_self i2]
  · exact hcut2.keep fun j hj => by rw [foot_cutR] at hj; exact old j (h.ovs hj).1 (h.ovs hj).2.1 _ _
  · exact hcut3.keep fun j hj => by
      have : j ∈ foot lv := by rw [hlv]; exact hj
      exact old j (h.lvs this).1 (h.lvs this).2 _ _
  · intro e
    exact h.hne (by rw [hlv]; exact e)
  · exact ((Fr.refl _ _).set (.inl (by simp)) _).set (.inl (by simp)) _
end Go.Proofs.Tryz
end
section
namespace Go.Proofs.Tryz
open Go Go.Av
set_option maxRecDepth 10000
set_option linter.unusedSimpArgs false
set_option linter.unusedVariables false
variable {W0 : World}
variable {σ : Store} {tid vid n : Nat} {cv ov lv : AV} {cls : List (List Int)} {ord : List Int} {lev : List Nat}

/-- A trail that lies behind a store. -/
structure Own (τ : Store) (tid : Nat) (cv : AV) (vid : Nat) (ov lv : AV) : Prop where
  tid : τ.length ≤ tid
  vid : τ.length ≤ vid
  cv : ∀ j ∈ foot cv, τ.length ≤ j
  ov : ∀ j ∈ foot ov, τ.length ≤ j
  lv : ∀ j ∈ foot lv, τ.length ≤ j

/-- More clauses. -/
theorem Trail.more (h : Trail σ tid cv vid ov lv n cls ord lev) {cv' : AV} {σ1 : Store} {c : List Int} (ha : App σ cv 84 (cls.map litsAV ++ [litsAV c]) cv' σ1) (hl : cls.length < 5000) (hc : ∀ l ∈ c, l ≠ 0 ∧ l.natAbs ≤ n) :
    σ1[tid]? = some (trailO cv vid n ov lv) ∧ Trail (σ1.set tid (trailO cv' vid n ov lv)) tid cv' vid ov lv n (cls ++ [c]) ord lev := by
  obtain ⟨i1, i2, i3⟩ := h.ids
  have hf := ha.fr
  have o1 : σ1[tid]? = some (trailO cv vid n ov lv) := by rw [hf.old tid i1 (fun e => (h.tok e).1 rfl), h.hobj]
  have t1 := (List.getElem?_eq_some_iff.1 o1).1
  have old : ∀ j, j ≠ tid → j < σ.length → j ∉ foot cv → (σ1.set tid (trailO cv' vid n ov lv))[j]? = σ[j]? := fun j e1 e2 e3 => by rw [List.getElem?_set_ne (fun e => e1 e.symm), hf.old j e2 e3]
  refine ⟨o1, by simp [t1], ?_, ?_, ?_, ?_, h.hne, h.good, h.small, by simp; omega, fun d hd => ?_⟩
  · rw [List.map_append]
    refine ha.bld.keep fun j hj => List.getElem?_set_ne fun e => ?_
    rcases ha.foot h.hcls j hj with h1 | h1
    · exact (h.tok h1).1 e.symm
    · omega
  · rw [old vid (fun e => i3 e.symm) i2 (fun e => (h.tok e).2.1 rfl), h.hvals]
  · exact h.hord.keep fun j hj => old j (h.ovs hj).1 (h.hord.lt j hj) (fun e => (h.tok e).2.2.1 hj)
  · exact h.hlev.keep fun j hj => old j (h.lvs hj).1 (h.hlev.lt j hj) (fun e => (h.tok e).2.2.2 hj)
  · rcases List.mem_append.1 hd with h1 | h1
    · exact h.wf d h1
    · rw [List.mem_singleton.1 h1]; exact hc

theorem pr_new (sid : Nat) (hid : σ[sid]? = some (setO n cv)) (hb : Bld σ cv 84 (cls.map litsAV)) (hn : n ≤ 200) (hc5 : cls.length ≤ 5000) (hc : ∀ c ∈ cls, c ≠ [] ∧ c.length ≤ 1048576 ∧ ∀ l ∈ c, l ≠ 0 ∧ l.natAbs ≤ n) :
    ACall prog W0 111 [.ptr 112 sid 0 []] σ fun r σ' => ∃ tid cv' vid ov' ord, r = .ptr 157 tid 0 [] ∧ Trail σ' tid cv' vid ov' .nils n cls ord [] ∧ Own σ tid cv' vid ov' .nils ∧ Ext σ σ' ∧ ∀ M, setT M cls = true → Agr M ord := by
  refine fn_call [2] [2000027, 3000025, 4000007] func111 rfl rfl ntmps111 rfl rfl fun hs => ?_
  simp only [go_sem, simprocAttr, ↓reduceIte]
  refine CallA.reads (by simp only [go_sem, simprocAttr, ↓reduceIte]) (cn_vars σ sid n cv hid) ?_
  have hw : IntKind.i64.wrap ((n : Int) + 1) = ((n + 1 : Nat) : Int) := by rw [wrap_in (by omega)]; omega
  simp only [go_sem, simprocAttr, ↓reduceIte, hw]
  have hE : ∀ st, Ext σ st → st[sid]? = some (setO n cv) ∧ Bld st cv 84 (cls.map litsAV) := fun st he => by
    have f := Fr.ext (F := []) he
    exact ⟨by rw [f.old sid (List.getElem?_eq_some_iff.1 hid).1 (by simp), hid], hb.keep fun j hj => f.old j (hb.lt j hj) (by simp)⟩
  refine MakeA.go (e := 3) 201 (by kernel_rfl) (z := .int .i64 0) (by kernel_rfl) (by kernel_rfl) (by omega) ?_
  simp only [go_sem, simprocAttr, ↓reduceIte]
  have x1 : Ext σ (σ ++ [some (.cells 3 (List.replicate (n + 1) (.int .i64 0))), trailO .nils σ.length n .nils .nils]) := (Ext.refl _).app _
  refine CallA.reads (by simp only [go_sem, simprocAttr, ↓reduceIte, trailO]) (cn_len _ sid n cv cls (hE _ x1).1 (hE _ x1).2) ?_
  simp only [go_sem, simprocAttr, ↓reduceIte]
  have t0 : Trail (σ ++ [some (.cells 3 (List.replicate (n + 1) (.int .i64 0))), trailO .nils σ.length n .nils .nils]) (σ.length + 1) .nils σ.length .nils .nils n [] [] [] :=
    ⟨by simp, .inl ⟨rfl, rfl⟩, by simp [vals_nil], .inl ⟨rfl, rfl⟩, .inl ⟨rfl, rfl⟩, by simp [foot], GoodOrd.nil n, hn, by simp, by simp⟩
  refine LoopVC.at [3] (.of (by kernel_rfl)) (fun A => ∃ cv', Trail A.st (σ.length + 1) cv' σ.length .nils .nils n cls [] [] ∧ Ext σ A.st ∧ ∀ j ∈ foot cv', σ.length ≤ j) ?_ fun B ⟨cv', ht, hx, hft⟩ => ?_
  · refine LoopVC.upto [0, 3, 14] (.of (by kernel_rfl)) cls.length (fun i A => A.env 15 = .int .i64 i ∧ ∃ cv', Trail A.st (σ.length + 1) cv' σ.length .nils .nils n (cls.take i) [] [] ∧ Ext σ A.st ∧ ∀ j ∈ foot cv', σ.length ≤ j) 0 (Nat.zero_le _) ?_ fun i B hi ⟨h15, cv', ht, hx, hft⟩ => ?_
    · simp only [go_sem, simprocAttr, ↓reduceIte]
      exact ⟨.nils, t0, x1, by simp [foot]⟩
    simp only [go_sem, simprocAttr, ↓reduceIte, h15]
    refine ⟨fun hlt => ?_, fun hge => ?_⟩
    · obtain ⟨c, hcc⟩ := get_some hlt
      have hcm := hc c (List.mem_of_getElem? hcc)
      have hbv := ht.hcls
      simp only [go_sem, simprocAttr, ↓reduceIte, h15, look_id ht.hobj, hbv.ok, hbv.un]
      refine ⟨.of (by kernel_rfl), CallP.st (cn_at _ sid n cv cls (hE _ hx).1 (hE _ hx).2 i c hcc hcm.1 hcm.2.1) ?_⟩
      simp only [go_sem, simprocAttr, ↓reduceIte, h15, look_id ht.hobj, hbv.ok, hbv.un]
      have htl : (cls.take i).length = i := by rw [List.length_take]; omega
      refine AppA.ownS (σ := B.st) (by simp only [go_sem, simprocAttr, ↓reduceIte]) 1048576 (by kernel_rfl) hbv (.lit _ _ _) (by simp; omega) fun cv2 σ2 ha => ?_
      obtain ⟨o2, t2⟩ := ht.more ha (by omega) hcm.2.2
      have hb2 := ha.bld
      simp only [go_sem, simprocAttr, ↓reduceIte, h15, look_id o2, setLook_id o2, hb2.ok, hb2.un, hb2.fits]
      refine ⟨hlt, int_succ hlt (by rw [maxLen_eq]; omega), cv2, by rw [take_succ_get hcc]; exact t2, ?_, fun j hj => ?_⟩
      · exact (ha.fr.toExt hx hft).set (by omega) _
      · rcases ha.foot hbv j hj with h1 | h1
        · exact hft j h1
        · have := hx.le; omega
    · rw [List.take_of_length_le hge] at ht
      exact ⟨cv', ht, hx, hft⟩
  simp only [go_sem, simprocAttr, ↓reduceIte]
  refine CallA.goes (by simp only [go_sem, simprocAttr, ↓reduceIte]) (pr_follow ht) fun r σ' ⟨ov', ord', hF⟩ => ?_
  simp only [go_sem, simprocAttr, ↓reduceIte]
  refine EndR.ret ?_
  simp only [go_sem, simprocAttr, ↓reduceIte]
  obtain ⟨fs, hfs⟩ := hF.pre
  have hxl := hx.le
  have hfl := hF.fr.len
  refine ⟨_, .refl _, by omega, σ.length + 1, cv', σ.length, ov', ord', rfl, hF.tr, ⟨by omega, Nat.le_refl _, hft, fun j hj => ?_, by simp [foot]⟩, hF.fr.toExt hx ?_, fun M hM => hF.snd M hM (by simp [Agr])⟩
  · rcases hF.ft j hj with h1 | h1
    · simp [foot] at h1
    · omega
  · intro j hj
    simp [foot] at hj
    rcases hj with rfl | rfl <;> omega
end Go.Proofs.Tryz
end
section
namespace Go.Av

/-- Clauses that can hold together with assumptions, all of them of the variables 1 to n. -/
def satA (n : Nat) (cls : List (List Int)) (asm : List Int) : Prop := (∀ l ∈ asm, wfL n l = true) ∧ ∃ M, setT M cls = true ∧ Agr M asm

/-- A way that is still open: a decision that has been tried one way alone. -/
def Alts (ord : List Int) (stk : List (Nat × Int)) (M : Nat → Bool) : Prop := ∃ p ∈ stk, 0 < p.2 ∧ Agr M (ord.take p.1) ∧ litT M p.2 = true

/-- Decisions, from the place where they begin. -/
def StkOk (n : Nat) (cls : List (List Int)) (ord : List Int) : Nat → List (Nat × Int) → Prop
  | lo, [] => lo ≤ ord.length
  | lo, p :: r => lo ≤ p.1 ∧ p.1 < ord.length ∧ p.2 ≠ 0 ∧ p.2.natAbs ≤ n ∧ valT (ord.take p.1) p.2 = 0 ∧ cls.any (lostC (ord.take p.1)) = false ∧ StkOk n cls ord (p.1 + 1) r

theorem StkOk.app {n : Nat} {cls : List (List Int)} {ord : List Int} {k : Nat} {d : Int} {o2 : List Int} : ∀ {lo : Nat} {stk : List (Nat × Int)}, StkOk n cls ord lo stk → (∀ i, i ≤ ord.length → o2.take i = ord.take i) → k = ord.length → k < o2.length → d ≠ 0 → d.natAbs ≤ n → valT ord d = 0 → cls.any (lostC ord) = false → StkOk n cls o2 lo (stk ++ [(k, d)])
  | lo, [], h, ho, hk, hk2, h0, hn, hv, hc => by
    have e : o2.take k = ord := by rw [ho k (by omega), hk, List.take_length]
    refine ⟨by rw [hk]; exact h, hk2, h0, hn, by show valT (o2.take k) d = 0; rw [e]; exact hv, by show cls.any (lostC (o2.take k)) = false; rw [e]; exact hc, ?_⟩
    show k + 1 ≤ o2.length
    omega
  | lo, p :: r, ⟨h1, h2, h3, h4, h5, h6, h7⟩, ho, hk, hk2, h0, hn, hv, hc => ⟨h1, by omega, h3, h4, by rw [ho _ (by omega)]; exact h5, by rw [ho _ (by omega)]; exact h6, h7.app ho hk hk2 h0 hn hv hc⟩

theorem StkOk.le {n : Nat} {cls : List (List Int)} {ord : List Int} : ∀ {lo : Nat} {stk : List (Nat × Int)}, StkOk n cls ord lo stk → lo + stk.length ≤ ord.length
  | lo, [], h => by simp only [StkOk] at h; simpa using h
  | lo, p :: r, ⟨h1, _, _, _, _, _, h7⟩ => by have := h7.le; simp; omega

theorem StkOk.pop {n : Nat} {cls : List (List Int)} {ord : List Int} {k : Nat} {d : Int} : ∀ {lo : Nat} {stk : List (Nat × Int)}, StkOk n cls ord lo (stk ++ [(k, d)]) → StkOk n cls (ord.take k) lo stk ∧ k < ord.length ∧ d ≠ 0 ∧ d.natAbs ≤ n ∧ valT (ord.take k) d = 0 ∧ cls.any (lostC (ord.take k)) = false ∧ ∀ p ∈ stk, p.1 ≤ k
  | lo, [], ⟨h1, h2, h3, h4, h5, h6, _⟩ => ⟨by show lo ≤ (ord.take k).length; rw [List.length_take]; simp at h1 h2; omega, h2, h3, h4, h5, h6, by simp⟩
  | lo, p :: r, ⟨h1, h2, h3, h4, h5, h6, h7⟩ => by
    obtain ⟨g1, g2, g3, g4, g5, g6, g7⟩ := h7.pop
    have hp : p.1 < k := by
      have := g1.le
      rw [List.length_take] at this
      omega
    have e : (ord.take k).take p.1 = ord.take p.1 := by rw [List.take_take, Nat.min_eq_left (by omega)]
    refine ⟨⟨h1, by rw [List.length_take]; omega, h3, h4, by rw [e]; exact h5, by rw [e]; exact h6, g1⟩, g2, g3, g4, g5, g6, fun q hq => ?_⟩
    rcases List.mem_cons.1 hq with rfl | hq
    · omega
    · exact g7 q hq

/-- Every model is on the way, or on one that is still open. -/
def OpenW (cls : List (List Int)) (asm ord : List Int) (stk : List (Nat × Int)) : Prop := ∀ M, setT M cls = true → Agr M asm → Agr M ord ∨ Alts ord stk M

theorem Alts.take {ord : List Int} {stk : List (Nat × Int)} {M : Nat → Bool} {k : Nat} (hk : ∀ p ∈ stk, p.1 ≤ k) (h : Alts ord stk M) : Alts (ord.take k) stk M := by
  obtain ⟨p, h1, h2, h3, h4⟩ := h
  exact ⟨p, h1, h2, by rw [List.take_take, Nat.min_eq_left (hk p h1)]; exact h3, h4⟩
theorem Alts.more {ord o2 : List Int} {stk : List (Nat × Int)} {M : Nat → Bool} (ho : ∀ p ∈ stk, o2.take p.1 = ord.take p.1) (h : Alts ord stk M) (q : List (Nat × Int)) : Alts o2 (stk ++ q) M := by
  obtain ⟨p, h1, h2, h3, h4⟩ := h
  exact ⟨p, by simp [h1], h2, by rw [ho p h1]; exact h3, h4⟩

/-- How far the search still has to go. -/
def mu : Nat → List (Nat × Int) → Nat
  | n, [] => 3 ^ n - 1
  | 0, _ :: _ => 0
  | n + 1, p :: r => (if 0 < p.2 then 3 ^ n else 0) + mu n r

theorem mu_lt : ∀ (n : Nat) (stk : List (Nat × Int)), mu n stk < 3 ^ n
  | n, [] => by have : 0 < 3 ^ n := Nat.pow_pos (by omega); simp only [mu]; omega
  | 0, _ :: _ => by simp [mu]
  | n + 1, p :: r => by
    have := mu_lt n r
    simp only [mu, Nat.pow_succ]
    split <;> omega
theorem mu_push : ∀ (n : Nat) (stk : List (Nat × Int)) (k : Nat) (d : Int), stk.length < n → mu n (stk ++ [(k, d)]) < mu n stk
  | 0, _, _, _, h => by omega
  | n + 1, [], k, d, _ => by
    have : 0 < 3 ^ n := Nat.pow_pos (by omega)
    simp only [List.nil_append, mu, Nat.pow_succ]
    split <;> omega
  | n + 1, p :: r, k, d, h => by
    have := mu_push n r k d (by simpa using h)
    simp only [List.cons_append, mu]
    omega
theorem mu_flip : ∀ (n : Nat) (pre tr : List (Nat × Int)) (k : Nat) (d : Int), 0 < d → pre.length < n → mu n (pre ++ [(k, -d)]) < mu n (pre ++ (k, d) :: tr)
  | 0, _, _, _, _, _, h => by omega
  | n + 1, [], tr, k, d, hd, _ => by
    have : 0 < 3 ^ n := Nat.pow_pos (by omega)
    simp only [List.nil_append, mu]
    rw [if_neg (by omega), if_pos hd]
    omega
  | n + 1, p :: r, tr, k, d, hd, h => by
    have := mu_flip n r tr k d hd (by simpa using h)
    simp only [List.cons_append, mu]
    omega

/-- All that is decided holds. -/
theorem model_of {n : Nat} {ord : List Int} {cls : List (List Int)} (hg : GoodOrd n ord) (hall : ∀ v : Nat, 0 < v → v ≤ n → valT ord (v : Nat) ≠ 0) (hc : cls.any (lostC ord) = false) (hw : ∀ c ∈ cls, ∀ l ∈ c, l ≠ 0 ∧ l.natAbs ≤ n) :
    ∃ M, setT M cls = true ∧ Agr M ord ∧ ∀ v : Nat, M v = decide (0 < valT ord (v : Nat)) := by
  refine ⟨fun v => decide (0 < valT ord (v : Nat)), ?_, ?_, fun v => rfl⟩
  · rw [setT, List.all_eq_true]
    intro c hcm
    rw [List.any_eq_false] at hc
    have h1 := hc c hcm
    simp only [lostC, Bool.not_eq_true', Bool.not_eq_false] at h1
    obtain ⟨l, hl, hv⟩ := List.any_eq_true.1 h1
    have hv := of_decide_eq_true hv
    have hlw := hw c hcm l hl
    refine List.any_eq_true.2 ⟨l, hl, ?_⟩
    have h2 := hall l.natAbs (by omega) hlw.2
    unfold litT
    rcases Int.lt_or_le 0 l with h | h
    · rw [if_pos h]
      show decide (0 < valT ord (l.natAbs : Nat)) = true
      have e : ((l.natAbs : Nat) : Int) = l := by omega
      rw [e] at h2 ⊢
      exact decide_eq_true (by omega)
    · rw [if_neg (by omega)]
      show (!decide (0 < valT ord (l.natAbs : Nat))) = true
      have e : ((l.natAbs : Nat) : Int) = -l := by omega
      rw [e, valT_neg hg] at h2 ⊢
      simp
      omega
  · intro l hl
    have hlw := hg.wf l hl
    have hv : valT ord l = 1 := by rw [valT, if_pos hl]
    unfold litT
    rcases Int.lt_or_le 0 l with h | h
    · rw [if_pos h]
      show decide (0 < valT ord (l.natAbs : Nat)) = true
      have e : ((l.natAbs : Nat) : Int) = l := by omega
      rw [e, hv]; rfl
    · rw [if_neg (by omega)]
      show (!decide (0 < valT ord (l.natAbs : Nat))) = true
      have e : ((l.natAbs : Nat) : Int) = -l := by omega
      rw [e, valT_neg hg, hv]; rfl
end Go.Av
end
section
namespace Go.Proofs.Tryz
open Go Go.Av
set_option maxRecDepth 10000
set_option linter.unusedSimpArgs false
set_option linter.unusedVariables false
variable {W0 : World}

def srchO (tid n : Nat) (dv : AV) (z : Int) : Option SObj := some (.cells 127 [.agg 127 [.ptr 157 tid 0 [], .int .i64 n, dv, .int .i64 z]])

/-- A search in memory, behind a store τ. -/
structure Srch (τ st : Store) (xid tid : Nat) (cv : AV) (vid : Nat) (ov lv dv : AV) (z : Int) (n : Nat) (cls : List (List Int)) (ord : List Int) (lev : List Nat) (dec : List Int) : Prop where
  tr : Trail st tid cv vid ov lv n cls ord lev
  own : Own τ tid cv vid ov lv
  ext : Ext τ st
  obj : st[xid]? = some (srchO tid n dv z)
  hdec : RowV st dv 3 (dec.map (.int .i64))
  xlo : τ.length ≤ xid
  dlo : ∀ j ∈ foot dv, τ.length ≤ j
  dv1 : vid ∉ foot dv
  dv2 : ∀ j ∈ foot dv, j ∉ foot lv

variable {τ σ : Store} {xid tid vid n : Nat} {cv ov lv dv : AV} {z : Int} {cls : List (List Int)} {ord dec : List Int} {lev : List Nat}

theorem Srch.xne (h : Srch τ σ xid tid cv vid ov lv dv z n cls ord lev dec) : xid ≠ tid ∧ xid ≠ vid ∧ xid ∉ foot cv ∧ xid ∉ foot ov ∧ xid ∉ foot lv ∧ xid ∉ foot dv ∧ xid < σ.length := by
  refine ⟨fun e => ?_, fun e => ?_, h.tr.hcls.ne h.obj (by simp), h.tr.hord.ne h.obj (by decide), h.tr.hlev.ne h.obj (by decide), h.hdec.ne h.obj (by decide), (List.getElem?_eq_some_iff.1 h.obj).1⟩
  · have := h.obj; rw [e, h.tr.hobj] at this; simp [trailO, srchO] at this
  · have := h.obj; rw [e, h.tr.hvals] at this; simp [srchO] at this
theorem Srch.dne (h : Srch τ σ xid tid cv vid ov lv dv z n cls ord lev dec) {j : Nat} (hj : j ∈ foot dv) : j ≠ xid ∧ j ≠ tid ∧ j ≠ vid ∧ j ∉ foot cv ∧ j ∉ foot ov ∧ j ∉ foot lv ∧ j < σ.length := by
  refine ⟨fun e => h.xne.2.2.2.2.2.1 (e ▸ hj), fun e => h.hdec.ne h.tr.hobj (by decide) (e ▸ hj), fun e => h.dv1 (e ▸ hj), fun e => ?_, fun e => ?_, h.dv2 j hj, h.hdec.lt j hj⟩
  · rcases h.hdec with ⟨rfl, _⟩ | ⟨id, off, m, zs, rfl, h2, _⟩
    · simp [foot] at hj
    · simp [foot] at hj; subst hj; exact h.tr.hcls.ne h2 (by simp) e
  · rcases h.hdec with ⟨rfl, _⟩ | ⟨id, off, m, zs, rfl, h2, _⟩
    · simp [foot] at hj
    · simp [foot] at hj; subst hj; exact h.tr.hord.ne h2 (by decide) e

/-- Behind a step of the trail's. -/
theorem Srch.step (h : Srch τ σ xid tid cv vid ov lv dv z n cls ord lev dec) {σ' : Store} {ov' lv' : AV} {ord' : List Int} {lev' : List Nat} (tr : Trail σ' tid cv vid ov' lv' n cls ord' lev') (fr : Fr (tid :: vid :: (foot ov ++ foot lv)) σ σ') (fo : ∀ j ∈ foot ov', j ∈ foot ov ++ foot lv ∨ σ.length ≤ j) (fl : ∀ j ∈ foot lv', j ∈ foot ov ++ foot lv ∨ σ.length ≤ j) :
    Srch τ σ' xid tid cv vid ov' lv' dv z n cls ord' lev' dec := by
  obtain ⟨x1, x2, x3, x4, x5, x6, x7⟩ := h.xne
  have hx := h.ext.le
  refine ⟨tr, ⟨h.own.tid, h.own.vid, h.own.cv, fun j hj => ?_, fun j hj => ?_⟩, fr.toExt h.ext fun j hj => ?_, ?_, h.hdec.keep fun j hj => ?_, h.xlo, h.dlo, h.dv1, fun j hj hl => ?_⟩
  · rcases fo j hj with h1 | h1
    · rcases List.mem_append.1 h1 with h1 | h1
      · exact h.own.ov j h1
      · exact h.own.lv j h1
    · omega
  · rcases fl j hj with h1 | h1
    · rcases List.mem_append.1 h1 with h1 | h1
      · exact h.own.ov j h1
      · exact h.own.lv j h1
    · omega
  · simp at hj
    rcases hj with rfl | rfl | h1 | h1
    · exact h.own.tid
    · exact h.own.vid
    · exact h.own.ov j h1
    · exact h.own.lv j h1
  · rw [fr.old xid x7 (by simp [x1, x2, x4, x5]), h.obj]
  · have := h.dne hj
    exact fr.old j this.2.2.2.2.2.2 (by simp [this.2.1, this.2.2.1, this.2.2.2.2.1, this.2.2.2.2.2.1])
  · rcases fl j hl with h1 | h1
    · rcases List.mem_append.1 h1 with h1 | h1
      · exact (h.dne hj).2.2.2.2.1 h1
      · exact h.dv2 j hj h1
    · have := h.hdec.lt j hj; omega

/-- Other decisions. -/
theorem Srch.decs (h : Srch τ σ xid tid cv vid ov lv dv z n cls ord lev dec) {σ1 : Store} {dv' : AV} {dec' : List Int} (z' : Int) (fr : Fr (foot dv) σ σ1) (hr : RowV σ1 dv' 3 (dec'.map (.int .i64))) (hf : ∀ j ∈ foot dv', j ∈ foot dv ∨ σ.length ≤ j) :
    σ1[xid]? = some (srchO tid n dv z) ∧ Srch τ (σ1.set xid (srchO tid n dv' z')) xid tid cv vid ov lv dv' z' n cls ord lev dec' := by
  obtain ⟨x1, x2, x3, x4, x5, x6, x7⟩ := h.xne
  have hx := h.ext.le
  have o1 : σ1[xid]? = some (srchO tid n dv z) := by rw [fr.old xid x7 x6, h.obj]
  have l1 := (List.getElem?_eq_some_iff.1 o1).1
  have old : ∀ j, j ≠ xid → j < σ.length → j ∉ foot dv → (σ1.set xid (srchO tid n dv' z'))[j]? = σ[j]? := fun j e1 e2 e3 => by rw [List.getElem?_set_ne (fun e => e1 e.symm), fr.old j e2 e3]
  obtain ⟨i1, i2, i3⟩ := h.tr.ids
  refine ⟨o1, ⟨?_, ?_, ?_, ?_, ?_, h.tr.hne, h.tr.good, h.tr.small, h.tr.clen, h.tr.wf⟩, h.own, (fr.toExt h.ext h.dlo).set h.xlo _, by simp [l1], hr.keep fun j hj => ?_, h.xlo, fun j hj => ?_, fun e => ?_, fun j hj hl => ?_⟩
  · rw [old tid (fun e => x1 e.symm) i1 (fun e => (h.dne e).2.1 rfl), h.tr.hobj]
  · exact h.tr.hcls.keep fun j hj => old j (fun e => x3 (e ▸ hj)) (h.tr.hcls.lt j hj) (fun e => (h.dne e).2.2.2.1 hj)
  · rw [old vid (fun e => x2 e.symm) i2 h.dv1, h.tr.hvals]
  · exact h.tr.hord.keep fun j hj => old j (fun e => x4 (e ▸ hj)) (h.tr.hord.lt j hj) (fun e => (h.dne e).2.2.2.2.1 hj)
  · exact h.tr.hlev.keep fun j hj => old j (fun e => x5 (e ▸ hj)) (h.tr.hlev.lt j hj) (fun e => (h.dne e).2.2.2.2.2.1 hj)
  · refine List.getElem?_set_ne fun e => ?_
    rcases hf j hj with h1 | h1
    · exact (h.dne h1).1 e.symm
    · omega
  · rcases hf j hj with h1 | h1
    · exact h.dlo j h1
    · omega
  · rcases hf vid e with h1 | h1
    · exact h.dv1 h1
    · omega
  · rcases hf j hj with h1 | h1
    · exact h.dv2 j h1 hl
    · have := h.tr.hlev.lt j hl; omega

theorem sa_may (sid : Nat) (hid : σ[sid]? = some (setO n cv)) (hn : n ≤ 200) (l : Int) :
    ACall prog W0 113 [.ptr 112 sid 0 [], .int .i64 l] σ fun r σ' => r = .bool (wfL n l) ∧ σ' = σ := by
  refine fn_st [4] [] func113 rfl rfl ntmps113 rfl rfl (.bool _) fun hs => ?_
  simp only [go_sem, simprocAttr, ↓reduceIte]
  refine CallP.st (fun _ => cn_vars σ sid n cv hid) ?_
  simp only [go_sem, simprocAttr, ↓reduceIte]
  refine CallP.st (fun _ => cn_vars σ sid n cv hid) ?_
  have hw : IntKind.i64.wrap (-(n : Int)) = -(n : Int) := wrap_in (by omega)
  simp only [go_sem, simprocAttr, ↓reduceIte, hw]
  refine EndR.ret ?_
  simp only [go_sem, simprocAttr, ↓reduceIte]
  refine weak_bool ?_
  rw [wfL, Bool.eq_iff_iff]
  simp
  omega

theorem sa_open (h : Srch τ σ xid tid cv vid ov lv dv z n cls ord lev dec) :
    ACall prog W0 117 [.ptr 127 xid 0 []] σ fun r σ' => σ' = σ ∧ ∃ v : Nat, r = .int .i64 v ∧ ((v = 0 ∧ ∀ v : Nat, 0 < v → v ≤ n → valT ord (v : Nat) ≠ 0) ∨ (0 < v ∧ v ≤ n ∧ valT ord (v : Nat) = 0)) := by
  refine fn_call [2] [] func117 rfl rfl ntmps117 rfl rfl fun hs => ?_
  have hn := h.tr.small
  simp only [go_sem, simprocAttr, ↓reduceIte]
  refine LoopVC.falls [0] (.of (by kernel_rfl)) (fun k A => ∃ j : Nat, A.env 3 = .int .i64 j ∧ k = n + 1 - j ∧ 0 < j ∧ j ≤ n + 1 ∧ A.st = σ ∧ ∀ v : Nat, 0 < v → v < j → valT ord (v : Nat) ≠ 0) n ⟨1, ?_⟩ fun k B ⟨j, h3, hk, hj, hjn, hst, hI⟩ => ?_
  · simp only [go_sem, Nat.reduceEqDiff, Nat.reduceLT, ↓reduceIte, Int.reduceToNat, Int.reduceLE, Int.reduceLT, Int.reduceEq, Int.reduceBEq, Int.reduceBNe, Int.reduceNeg, Int.reduceAdd, Int.reduceSub, Nat.reduceBEq, Nat.reduceAdd, Nat.reduceMul, Nat.reduceSub, Nat.reduceLeDiff]
    exact ⟨by omega, fun v h1 h2 => by omega⟩
  simp only [go_sem, simprocAttr, ↓reduceIte, h3, hst, look_id h.obj]
  refine ⟨fun hle => ?_, fun hgt => EndR.ret ?_⟩
  · refine CallA.reads (by simp only [go_sem, simprocAttr, ↓reduceIte, hst]) (pr_value h.tr j hj (by omega)) ?_
    simp only [go_sem, simprocAttr, ↓reduceIte, h3, hst]
    refine ⟨fun hv => EndR.ret ?_, fun hv => .here (n + 1 - (j + 1)) (by omega) ⟨j + 1, int_succ (N := 1000) (by omega) (by rw [maxLen_eq]; omega), rfl, by omega, by omega, by simp only [go_sem, simprocAttr, ↓reduceIte, hst], fun v h1 h2 => ?_⟩⟩
    · simp only [go_sem, simprocAttr, ↓reduceIte, hst]
      exact ⟨_, .refl _, j, rfl, .inr ⟨hj, by omega, by simpa using hv⟩⟩
    · rcases Nat.lt_succ_iff_lt_or_eq.1 h2 with h2 | rfl
      · exact hI v h1 h2
      · simpa using hv
  · simp only [go_sem, simprocAttr, ↓reduceIte, hst]
    exact ⟨_, .refl _, 0, rfl, .inl ⟨rfl, fun v h1 h2 => hI v h1 (by omega)⟩⟩
end Go.Proofs.Tryz
end
section
namespace Go.Proofs.Tryz
open Go Go.Av
set_option maxRecDepth 10000
set_option linter.unusedSimpArgs false
set_option linter.unusedVariables false
variable {W0 : World}
variable {τ σ : Store} {xid tid vid n : Nat} {cv ov lv dv : AV} {z : Int} {cls : List (List Int)} {ord dec asm : List Int} {lev lev0 : List Nat} {stk : List (Nat × Int)} {base : Nat}

/-- A search between two steps: its decisions, those that are behind it. -/
structure Way (τ st : Store) (xid tid : Nat) (cv : AV) (vid n : Nat) (cls : List (List Int)) (asm : List Int) (base : Nat) (lev0 : List Nat) (ord : List Int) (stk : List (Nat × Int)) (ov lv dv : AV) (z : Int) : Prop where
  s : Srch τ st xid tid cv vid ov lv dv z n cls ord (lev0 ++ stk.map (·.1)) (stk.map (·.2))
  ok : StkOk n cls ord base stk
  asm : ∀ l ∈ asm, l ∈ ord.take base
  lev0 : lev0.length ≤ 1000

/-- No model is on the way. -/
def Lost (cls : List (List Int)) (asm ord : List Int) (stk : List (Nat × Int)) : Prop := ∀ M, setT M cls = true → Agr M asm → Alts ord stk M

theorem sa_back (h : Way τ σ xid tid cv vid n cls asm base lev0 ord stk ov lv dv z) (hL : Lost cls asm ord stk) :
    ACall prog W0 116 [.ptr 127 xid 0 []] σ fun r σ' => Ext τ σ' ∧ σ.length ≤ σ'.length ∧ ((r = .bool false ∧ ∀ M, setT M cls = true → ¬ Agr M asm) ∨
      (r = .bool true ∧ ∃ ord' stk' ov' lv' dv', Way τ σ' xid tid cv vid n cls asm base lev0 ord' stk' ov' lv' dv' z ∧ OpenW cls asm ord' stk' ∧ mu n stk' < mu n stk)) := by
  refine fn_call [2] [] func116 rfl rfl ntmps116 rfl rfl fun hs => ?_
  have hn := h.s.tr.small
  simp only [go_sem, simprocAttr, ↓reduceIte]
  refine LoopVC.falls [0] (.of (by kernel_rfl)) (fun k A => ∃ ord2 stk2 tr ov2 lv2 dv2, k = stk2.length ∧ stk = stk2 ++ tr ∧ Way τ A.st xid tid cv vid n cls asm base lev0 ord2 stk2 ov2 lv2 dv2 z ∧ Lost cls asm ord2 stk2 ∧ σ.length ≤ A.st.length) stk.length ⟨ord, stk, [], ov, lv, dv, ?_⟩ fun k B ⟨ord2, stk2, tr, ov2, lv2, dv2, hk, htr, hW, hL2, hsl⟩ => ?_
  · simp only [go_sem, simprocAttr, ↓reduceIte]
    exact ⟨by simp, h, hL⟩
  have hS := hW.s
  have hds := hS.hdec.st
  have hxl := h.s.ext
  simp only [go_sem, simprocAttr, ↓reduceIte, look_id hS.obj, hds.ok, hds.un, hds.len, hds.lenC, List.length_map]
  refine ⟨fun hlt => ?_, fun hge => EndR.ret ?_⟩
  case refine_2 =>
    have : stk2 = [] := List.eq_nil_of_length_eq_zero (by omega)
    subst this
    simp only [go_sem, simprocAttr, ↓reduceIte]
    have hle := hS.ext.le
    refine ⟨_, .refl _, hsl, hS.ext, hsl, .inl ⟨rfl, fun M h1 h2 => ?_⟩⟩
    · obtain ⟨p, hp, _⟩ := hL2 M h1 h2
      simp at hp
  obtain ⟨stk3, p, rfl⟩ : ∃ s p, stk2 = s ++ [p] := ⟨stk2.dropLast, stk2.getLast (by intro e; subst e; simp at hlt), (List.dropLast_concat_getLast _).symm⟩
  obtain ⟨kk, d⟩ := p
  obtain ⟨g1, g2, g3, g4, g5, g6, g7⟩ := hW.ok.pop
  obtain ⟨did, doff, dm, dz, hdv, hd1, hdm, hd2⟩ := RowV.at hS.hdec (i := stk3.length) (x := .int .i64 d) (by simp)
  have hdm' : dm = stk3.length + 1 := by rw [hdm]; simp
  have hle3 := hW.ok.le
  have hgl := hS.tr.good.len
  have hwl : IntKind.i64.wrap (((stk3.length + 1 : Nat) : Int) - 1) = (stk3.length : Nat) := by rw [wrap_in (by simp at hle3; omega)]; omega
  simp only [go_sem, simprocAttr, ↓reduceIte, look_id hS.obj, hdv, hwl, look_id hd1, live_id hd1, hd2, Option.bind_some, Option.isSome_some]
  have hS' := hS
  rw [List.map_append, List.map_append, ← List.append_assoc] at hS'
  have htr0 : Trail B.st tid cv vid ov2 lv2 n cls ord2 ((lev0 ++ stk3.map (·.1)) ++ [kk]) := hS'.tr
  refine ⟨by omega, CallA.goes (by simp only [go_sem, simprocAttr, ↓reduceIte]) (pr_pop htr0 (by omega) ?_) fun r σ1 ⟨ov3, lv3, ht3, fr3, fo3, fl3⟩ => ?_⟩
  · have := hW.lev0; simp at hle3 ⊢; omega
  have hS3 := hS.step ht3 (fr3.mono fun j hj => by simp at hj ⊢; rcases hj with rfl | rfl <;> simp) (fun j hj => .inl (by rw [fo3] at hj; simp [hj])) (fun j hj => .inl (by rw [fl3] at hj; simp [hj]))
  obtain ⟨y1, y2, y3, y4, y5, y6, y7⟩ := hS3.xne
  have hcut := hS3.hdec.cut (a := 0) (b := stk3.length) (Nat.zero_le _) (by simp)
  have e3 : ((((stk3 ++ [(kk, d)]).map (·.2)).map (AV.int .i64)).drop 0).take (stk3.length - 0) = (stk3.map (·.2)).map (AV.int .i64) := by
    rw [List.drop_zero, Nat.sub_zero, List.map_append, List.map_append, List.take_append_of_le_length (by simp), List.take_of_length_le (by simp)]
  rw [e3] at hcut
  obtain ⟨o4, hS4⟩ := hS3.decs z (.refl _ _) hcut (fun j hj => .inl (by rwa [foot_cutR] at hj))
  rw [hdv, cutR_row] at hS4
  rw [hdv] at o4
  simp only [go_sem, simprocAttr, ↓reduceIte, look_id hS3.obj, hdv, setLook_id o4, look_set y7]
  have hLtk : ∀ M, setT M cls = true → Agr M asm → (0 < d ∧ Agr M (ord2.take kk) ∧ litT M d = true) ∨ Alts (ord2.take kk) stk3 M := fun M h1 h2 => by
    obtain ⟨p, hp, h3, h4, h5⟩ := hL2 M h1 h2
    rcases List.mem_append.1 hp with hp | hp
    · exact .inr (Alts.take g7 ⟨p, hp, h3, h4, h5⟩)
    · rw [List.mem_singleton.1 hp] at h3 h4 h5
      exact .inl ⟨h3, h4, h5⟩
  have hbase : ∀ l ∈ asm, l ∈ (ord2.take kk).take base := fun l hl => by
    have := g1.le
    rw [List.length_take] at this
    rw [List.take_take, Nat.min_eq_left (by omega)]
    exact hW.asm l hl
  have hl1 := fr3.len
  refine ⟨⟨Nat.zero_le _, by omega⟩, fun hd => ?_, fun hd => .here stk3.length (by rw [hk]; simp) ⟨ord2.take kk, stk3, (kk, d) :: tr, ov3, lv3, _, rfl, by rw [htr]; simp, ⟨hS4, g1, hbase, hW.lev0⟩, fun M h1 h2 => ?_, ?_⟩⟩
  case refine_2 =>
    rcases hLtk M h1 h2 with h3 | h3
    · exact absurd h3.1 hd
    · exact h3
  case refine_3 =>
    simp only [go_sem, simprocAttr, ↓reduceIte]
    simp
    omega
  have hwd : IntKind.i64.wrap (-d) = -d := wrap_in (by omega)
  simp only [go_sem, simprocAttr, ↓reduceIte, hwd]
  refine AppA.rowS (σ := σ1.set xid (srchO tid n (.row 3 did (doff + 0) (stk3.length - 0)) z)) (by simp only [go_sem, simprocAttr, ↓reduceIte, srchO]) 1048576 (by kernel_rfl) hS4.hdec (.lit _ _ _) (by simp at hle3 ⊢; omega) fun dv5 σ3 ha => ?_
  have hr5 : RowV σ3 dv5 3 ((stk3.map (·.2) ++ [-d]).map (.int .i64)) := by rw [List.map_append]; exact ha.row
  obtain ⟨o5, hS5⟩ := hS4.decs z ha.fr hr5 ha.foot
  have hr := ha.row.st
  have t5 := (List.getElem?_eq_some_iff.1 o5).1
  simp only [go_sem, simprocAttr, ↓reduceIte, look_id o5, setLook_id o5, hr.ok, hr.un, hr.fits, look_set t5]
  have hll : (lev0 ++ stk3.map (·.1)).length ≤ 100000 := by have := hW.lev0; simp at hle3 ⊢; omega
  refine CallA.goes (by simp only [go_sem, simprocAttr, ↓reduceIte, srchO]) (pr_push hS5.tr d g3 g4 g5 g6 hll) fun r σ5 ⟨hr6, ov6, lv6, fs, ht6, fr6, ff6, snd6⟩ => ?_
  subst hr6
  simp only [go_sem, simprocAttr, ↓reduceIte]
  refine EndR.ret ?_
  simp only [go_sem, simprocAttr, ↓reduceIte]
  have hS6 := hS5.step ht6 fr6 (fun j hj => ff6 j (by simp [hj])) (fun j hj => ff6 j (by simp [hj]))
  have ekk : (ord2.take kk).length = kk := by rw [List.length_take]; omega
  have eS : ∀ q : List (Nat × Int), lev0 ++ (stk3 ++ q).map (·.1) = lev0 ++ stk3.map (·.1) ++ q.map (·.1) := fun q => by rw [List.map_append, List.append_assoc]
  have hl3 := ha.fr.len
  have hl6 := fr6.len
  simp at hl3 hl6
  have tk : ∀ i, i ≤ (ord2.take kk).length → (ord2.take kk ++ d :: fs).take i = (ord2.take kk).take i := fun i hi => List.take_append_of_le_length hi
  have hlt6 : mu n (stk3 ++ [(kk, -d)]) < mu n stk := by
    rw [htr, List.append_assoc]
    exact mu_flip n stk3 tr kk d hd (by simp at hle3; omega)
  refine ⟨_, .refl _, by omega, hS6.ext, by omega, .inr ⟨rfl, ord2.take kk ++ d :: fs, stk3 ++ [(kk, -d)], ov6, lv6, dv5, ⟨?_, ?_, fun l hl => ?_, hW.lev0⟩, fun M h1 h2 => ?_, hlt6⟩⟩
  · rw [eS, List.map_append]
    rw [ekk] at hS6
    exact hS6
  · exact g1.app tk ekk.symm (by simp; omega) (by omega) (by omega) (by rw [valT_neg (hS3.tr.good)]; omega) g6
  · have := g1.le
    rw [tk _ (by omega)]
    exact hbase l hl
  · rcases hLtk M h1 h2 with ⟨_, h3, h4⟩ | h3
    · left
      refine snd6 M h1 fun l hl => ?_
      rcases List.mem_append.1 hl with hl | hl
      · exact h3 l hl
      · rw [List.mem_singleton.1 hl]; exact h4
    · exact .inr (h3.more (fun p hp => tk _ (by rw [ekk]; exact g7 p hp)) _)
end Go.Proofs.Tryz
end
section
namespace Go.Proofs.Tryz
open Go Go.Av
set_option maxRecDepth 10000
set_option linter.unusedSimpArgs false
set_option linter.unusedVariables false
variable {W0 : World}
variable {τ σ : Store} {xid tid vid n : Nat} {cv ov lv dv : AV} {z : Int} {cls : List (List Int)} {ord dec asm : List Int} {lev lev0 : List Nat} {stk : List (Nat × Int)} {base : Nat}

theorem lost_Lost (h : Srch τ σ xid tid cv vid ov lv dv z n cls ord lev dec) (hO : OpenW cls asm ord stk) (hc : cls.any (lostC ord) = true) : Lost cls asm ord stk := fun M h1 h2 => by
  rcases hO M h1 h2 with h3 | h3
  · obtain ⟨c, hc1, hc2⟩ := List.any_eq_true.1 hc
    have := lost_none h3 h.tr.good hc2
    rw [List.all_eq_true.1 h1 c hc1] at this
    cases this
  · exact h3

theorem sa_next (h : Way τ σ xid tid cv vid n cls asm base lev0 ord stk ov lv dv z) (hO : OpenW cls asm ord stk) :
    ACall prog W0 81 [.ptr 127 xid 0 [], .int .i64 0] σ fun r σ' => Ext τ σ' ∧ σ.length ≤ σ'.length ∧ ((r = .tup [.bool false, .int .i64 0] ∧ ∀ M, setT M cls = true → ¬ Agr M asm) ∨
      (r = .tup [.bool true, .int .i64 0] ∧ ∃ ord' stk' ov' lv' dv' z', Way τ σ' xid tid cv vid n cls asm base lev0 ord' stk' ov' lv' dv' z' ∧ cls.any (lostC ord') = false ∧ ∀ v : Nat, 0 < v → v ≤ n → valT ord' (v : Nat) ≠ 0)) := by
  refine fn_call [4, 5] [] func81 rfl rfl ntmps81 rfl rfl fun hs => ?_
  have hn := h.s.tr.small
  simp only [go_sem, simprocAttr, ↓reduceIte]
  refine LoopVC.falls [0, 1] (.of (by kernel_rfl)) (fun k A => ∃ ord2 stk2 ov2 lv2 dv2 z2, k = mu n stk2 ∧ Way τ A.st xid tid cv vid n cls asm base lev0 ord2 stk2 ov2 lv2 dv2 z2 ∧ OpenW cls asm ord2 stk2 ∧ σ.length ≤ A.st.length) (mu n stk) ⟨ord, stk, ov, lv, dv, z, ?_⟩ fun k B ⟨ord2, stk2, ov2, lv2, dv2, z2, hk, hW, hO2, hsl⟩ => ?_
  · simp only [go_sem, simprocAttr, ↓reduceIte]
    exact ⟨h, hO⟩
  have hS := hW.s
  simp only [go_sem, simprocAttr, ↓reduceIte, look_id hS.obj]
  refine CallA.reads (by simp only [go_sem, simprocAttr, ↓reduceIte]) (pr_clash hS.tr) ?_
  simp only [go_sem, simprocAttr, ↓reduceIte]
  refine ⟨fun hc => ?_, fun hc => ?_⟩
  · have hc : cls.any (lostC ord2) = true := by rw [← idxL_ge]; exact decide_eq_true hc
    refine CallA.goes (by simp only [go_sem, simprocAttr, ↓reduceIte]) (sa_back hW (lost_Lost hS hO2 hc)) fun r σ1 ⟨hx1, hl1, hr⟩ => ?_
    rcases hr with ⟨rfl, hno⟩ | ⟨rfl, ord3, stk3, ov3, lv3, dv3, hW3, hO3, hmu⟩
    · simp only [go_sem, simprocAttr, ↓reduceIte]
      refine EndR.ret ?_
      simp only [go_sem, simprocAttr, ↓reduceIte]
      exact ⟨_, .refl _, by omega, hx1, by omega, .inl ⟨rfl, hno⟩⟩
    · simp only [go_sem, simprocAttr, ↓reduceIte]
      refine .here (mu n stk3) (by omega) ⟨ord3, stk3, ov3, lv3, dv3, z2, rfl, ?_, hO3, ?_⟩
      · simp only [go_sem, simprocAttr, ↓reduceIte]
        exact hW3
      · simp only [go_sem, simprocAttr, ↓reduceIte]
        omega
  · have hc : cls.any (lostC ord2) = false := by rw [← idxL_ge]; exact decide_eq_false hc
    refine CallA.goes (by simp only [go_sem, simprocAttr, ↓reduceIte]) (sa_open hS) fun r σ1 ⟨hσ, v, hr, hv⟩ => ?_
    subst hr
    obtain rfl : σ1 = B.st := hσ
    simp only [go_sem, simprocAttr, ↓reduceIte]
    refine ⟨fun h0 => EndR.ret ?_, fun h0 => ?_⟩
    · have h0 : v = 0 := by omega
      subst h0
      simp only [go_sem, simprocAttr, ↓reduceIte]
      refine ⟨_, .refl _, hsl, hS.ext, hsl, .inr ⟨rfl, ord2, stk2, ov2, lv2, dv2, z2, hW, hc, ?_⟩⟩
      rcases hv with ⟨_, h1⟩ | ⟨h1, _⟩
      · exact h1
      · omega
    obtain ⟨v0, vn, vv⟩ : 0 < v ∧ v ≤ n ∧ valT ord2 (v : Nat) = 0 := hv.resolve_left fun h => h0 (by rw [h.1]; rfl)
    have hds := hS.hdec.st
    obtain ⟨y1, y2, y3, y4, y5, y6, y7⟩ := hS.xne
    have hle := hW.ok.le
    have hgl := hS.tr.good.len
    obtain ⟨o2, hS2⟩ := hS.decs (IntKind.i64.wrap (z2 + 1)) (.refl _ _) hS.hdec (fun j hj => .inl hj)
    simp only [go_sem, simprocAttr, ↓reduceIte, look_id hS.obj, setLook_id hS.obj, look_set y7, hds.ok, hds.un]
    refine AppA.rowS (σ := B.st.set xid (srchO tid n dv2 (IntKind.i64.wrap (z2 + 1)))) (by simp only [go_sem, simprocAttr, ↓reduceIte, srchO]) 1048576 (by kernel_rfl) hS2.hdec (.lit _ _ _) (by simp; omega) fun dv5 σ3 ha => ?_
    have hr5 : RowV σ3 dv5 3 ((stk2.map (·.2) ++ [(v : Int)]).map (.int .i64)) := by rw [List.map_append]; exact ha.row
    obtain ⟨o5, hS5⟩ := hS2.decs (IntKind.i64.wrap (z2 + 1)) ha.fr hr5 ha.foot
    have hr := ha.row.st
    have t5 := (List.getElem?_eq_some_iff.1 o5).1
    have hwv : IntKind.i64.wrap (-(v : Int)) = -(v : Int) := wrap_in (by omega)
    simp only [go_sem, simprocAttr, ↓reduceIte, look_id o5, setLook_id o5, hr.ok, hr.un, hr.fits, look_set t5, hwv]
    have hll : (lev0 ++ stk2.map (·.1)).length ≤ 100000 := by have := hW.lev0; simp; omega
    have hvn : valT ord2 (-(v : Int)) = 0 := by rw [valT_neg hS.tr.good, vv]; rfl
    refine CallA.goes (by simp only [go_sem, simprocAttr, ↓reduceIte, srchO]) (pr_push hS5.tr (-(v : Int)) (by omega) (by omega) hvn hc hll) fun r σ5 ⟨hr6, ov6, lv6, fs, ht6, fr6, ff6, snd6⟩ => ?_
    subst hr6
    simp only [go_sem, simprocAttr, ↓reduceIte]
    have hS6 := hS5.step ht6 fr6 (fun j hj => ff6 j (by simp [hj])) (fun j hj => ff6 j (by simp [hj]))
    have eS : ∀ q : List (Nat × Int), lev0 ++ (stk2 ++ q).map (·.1) = lev0 ++ stk2.map (·.1) ++ q.map (·.1) := fun q => by rw [List.map_append, List.append_assoc]
    have hl3 := ha.fr.len
    have hl6 := fr6.len
    simp at hl3 hl6
    have tk : ∀ i, i ≤ ord2.length → (ord2 ++ -(v : Int) :: fs).take i = ord2.take i := fun i hi => List.take_append_of_le_length hi
    have hkp : ∀ p ∈ stk2, p.1 ≤ ord2.length := fun p hp => by
      have key : ∀ {lo : Nat} {s : List (Nat × Int)}, StkOk n cls ord2 lo s → ∀ p ∈ s, p.1 ≤ ord2.length := fun {lo s} => by
        induction s generalizing lo with
        | nil => intro _ p hp; simp at hp
        | cons q s ih =>
          intro ⟨_, h2, _, _, _, _, h7⟩ p hp
          rcases List.mem_cons.1 hp with rfl | hp
          · omega
          · exact ih h7 p hp
      exact key hW.ok p hp
    have hlen6 := hS6.tr.good.len
    simp at hlen6
    refine .here (mu n (stk2 ++ [(ord2.length, (v : Int))])) (by rw [hk]; exact mu_push n stk2 _ _ (by omega)) ⟨ord2 ++ -(v : Int) :: fs, stk2 ++ [(ord2.length, (v : Int))], ov6, lv6, dv5, IntKind.i64.wrap (z2 + 1), rfl, ?_, fun M h1 h2 => ?_, ?_⟩
    · simp only [go_sem, simprocAttr, ↓reduceIte]
      refine ⟨?_, hW.ok.app tk rfl (by simp) (by omega) (by omega) vv hc, fun l hl => ?_, hW.lev0⟩
      · rw [eS, List.map_append]
        exact hS6
      · rw [tk _ (by omega)]
        exact hW.asm l hl
    · rcases hO2 M h1 h2 with h3 | h3
      · cases ht : litT M (v : Int) with
        | true => exact .inr ⟨(ord2.length, (v : Int)), by simp, by show (0 : Int) < v; omega, by rw [tk _ (Nat.le_refl _), List.take_length]; exact h3, ht⟩
        | false =>
          left
          refine snd6 M h1 fun l hl => ?_
          rcases List.mem_append.1 hl with hl | hl
          · exact h3 l hl
          · rw [List.mem_singleton.1 hl, litT_neg (by omega), ht]; rfl
      · exact .inr (h3.more (fun p hp => tk _ (hkp p hp)) _)
    · simp only [go_sem, simprocAttr, ↓reduceIte]
      omega
end Go.Proofs.Tryz
end
section
namespace Go.Proofs.Tryz
open Go Go.Av
set_option maxRecDepth 10000
set_option linter.unusedSimpArgs false
set_option linter.unusedVariables false
variable {W0 : World}
variable {τ σ : Store} {xid tid vid n : Nat} {cv ov lv dv : AV} {z : Int} {cls : List (List Int)} {ord dec asm : List Int} {lev lev0 : List Nat} {stk : List (Nat × Int)} {base : Nat}

/-- A set of clauses that is well made. -/
structure SetOk (n : Nat) (cls : List (List Int)) : Prop where
  small : n ≤ 200
  len : cls.length ≤ 5000
  wf : ∀ c ∈ cls, c ≠ [] ∧ c.length ≤ 1048576 ∧ ∀ l ∈ c, l ≠ 0 ∧ l.natAbs ≤ n

theorem wfL_iff {n : Nat} {l : Int} : wfL n l = true ↔ l ≠ 0 ∧ l.natAbs ≤ n := by simp [wfL]

theorem sa_begin (sid : Nat) (hid : σ[sid]? = some (setO n cv)) (hb : Bld σ cv 84 (cls.map litsAV)) (hk : SetOk n cls) (asm : List Int) (ha : asm.length ≤ 1000) :
    ACall prog W0 80 [.ptr 112 sid 0 [], litsAV asm] σ fun r σ' => Ext σ σ' ∧ ((r = .tup [.nil, .bool false] ∧ ¬ satA n cls asm) ∨
      ∃ xid tid cv' vid ov lv ord lev0, r = .tup [.ptr 127 xid 0 [], .bool true] ∧ Way σ σ' xid tid cv' vid n cls asm ord.length lev0 ord [] ov lv .nils 0 ∧ OpenW cls asm ord [] ∧ ∀ l ∈ asm, wfL n l = true) := by
  refine fn_call [4, 5] [2000053] func80 rfl rfl ntmps80 rfl rfl fun hs => ?_
  have hn := hk.small
  simp only [go_sem, simprocAttr, ↓reduceIte]
  refine JoinVC.at [1] (by kernel_rfl) (fun A => A.env 0 = .ptr 112 sid 0 [] ∧ A.st = σ) (fun h => by cases h) (fun _ => ?_) fun B ⟨hs0, hst⟩ => ?_
  · simp only [go_sem, simprocAttr, ↓reduceIte]
  simp only [go_sem, simprocAttr, ↓reduceIte, hs0, hst]
  refine CallA.goes (by simp only [go_sem, simprocAttr, ↓reduceIte, hst]) (pr_new sid hid hb hk.small hk.len hk.wf) fun r σ1 ⟨tid, cv1, vid, ov1, ord1, hr, ht1, ho1, hx1, hm1⟩ => ?_
  subst hr
  have hE : ∀ st, Ext σ st → st[sid]? = some (setO n cv) := fun st he => by rw [(Fr.ext (F := []) he).old sid (List.getElem?_eq_some_iff.1 hid).1 (by simp), hid]
  simp only [go_sem, simprocAttr, ↓reduceIte, hs0]
  refine CallA.reads (by simp only [go_sem, simprocAttr, ↓reduceIte]) (cn_vars σ1 sid n cv (hE _ hx1)) ?_
  simp only [go_sem, simprocAttr, ↓reduceIte, hs0, litsAV, List.length_map]
  have hxl := hx1.le
  have hS0 : Srch σ (σ1 ++ [srchO tid n .nils 0]) σ1.length tid cv1 vid ov1 .nils .nils 0 n cls ord1 [] [] := by
    have old : ∀ j, j < σ1.length → (σ1 ++ [srchO tid n .nils 0])[j]? = σ1[j]? := fun j hj => List.getElem?_append_left hj
    obtain ⟨i1, i2, i3⟩ := ht1.ids
    refine ⟨⟨by rw [old _ i1, ht1.hobj], ht1.hcls.keep fun j hj => old j (ht1.hcls.lt j hj), by rw [old _ i2, ht1.hvals], ht1.hord.keep fun j hj => old j (ht1.hord.lt j hj), ht1.hlev.keep fun j hj => old j (ht1.hlev.lt j hj), ht1.hne, ht1.good, ht1.small, ht1.clen, ht1.wf⟩, ho1, hx1.app _, by simp, .inl ⟨rfl, rfl⟩, hxl, by simp [foot], by simp [foot], by simp [foot]⟩
  refine LoopVC.at [6] (.of (by kernel_rfl)) (fun A => ∃ ov lv ord lev, Srch σ A.st σ1.length tid cv1 vid ov lv .nils 0 n cls ord lev [] ∧ (∀ M, setT M cls = true → Agr M asm → Agr M ord) ∧ (∀ l ∈ asm, l ∈ ord) ∧ (∀ l ∈ asm, wfL n l = true) ∧ lev.length ≤ 1000) ?_ fun B ⟨ov, lv, ord, lev, hS, hM, hi, hwf, hlv⟩ => ?_
  · refine LoopVC.upto [0, 6, 19, 20] (.of (by kernel_rfl)) asm.length (fun i A => A.env 21 = .int .i64 i ∧ ∃ ov lv ord lev, Srch σ A.st σ1.length tid cv1 vid ov lv .nils 0 n cls ord lev [] ∧ (∀ M, setT M cls = true → Agr M (asm.take i) → Agr M ord) ∧ (∀ l ∈ asm.take i, l ∈ ord) ∧ (∀ l ∈ asm.take i, wfL n l = true) ∧ lev.length ≤ i) 0 (Nat.zero_le _) ?_ fun i B hi ⟨h21, ov, lv, ord, lev, hS, hM, hin, hwf, hlv⟩ => ?_
    · simp only [go_sem, simprocAttr, ↓reduceIte]
      exact ⟨ov1, .nils, ord1, [], hS0, fun M h1 _ => hm1 M h1, by simp⟩
    simp only [go_sem, simprocAttr, ↓reduceIte, h21, hs0, List.length_map]
    refine ⟨fun hlt => ⟨hlt, ?_⟩, fun hge => ?_⟩
    · obtain ⟨l, hl⟩ := get_some hlt
      simp only [atV_map hl]
      simp only [go_sem, simprocAttr, ↓reduceIte, h21, hs0]
      refine CallA.reads (by simp only [go_sem, simprocAttr, ↓reduceIte]) (sa_may sid (hE _ hS.ext) hn l) ?_
      simp only [go_sem, simprocAttr, ↓reduceIte, h21, hs0]
      have hlm := List.mem_of_getElem? hl
      refine ⟨fun hw => EndR.ret ?_, fun hw => ?_⟩
      · simp only [go_sem, simprocAttr, ↓reduceIte]
        exact ⟨_, .refl _, hS.ext.le, hS.ext, .inl ⟨rfl, fun h => by have := h.1 l hlm; rw [hw] at this; cases this⟩⟩
      obtain ⟨w1, w2⟩ := wfL_iff.1 hw
      have hwn : IntKind.i64.wrap (-l) = -l := wrap_in (by omega)
      have hmx : maxI l (-l) = ((l.natAbs : Nat) : Int) := by unfold maxI; split <;> omega
      simp only [go_sem, simprocAttr, ↓reduceIte, look_id hS.obj, hwn, hmx]
      refine CallA.reads (by simp only [go_sem, simprocAttr, ↓reduceIte]) (pr_value hS.tr l.natAbs (by omega) w2) ?_
      simp only [go_sem, simprocAttr, ↓reduceIte, h21, hs0]
      refine JoinVC.at [0, 6, 8, 19, 20, 21] (by kernel_rfl) (fun A => A.env 9 = .int .i64 (valT ord l) ∧ A.st = B.st) (fun h => ?_) (fun h => ?_) fun A ⟨h9, hst⟩ => ?_
      · simp only [go_sem, simprocAttr, ↓reduceIte]
        have hneg := of_decide_eq_true h
        have e : ((l.natAbs : Nat) : Int) = -l := by omega
        rw [e, valT_neg hS.tr.good]
        rcases valT_cases ord l with ⟨h1, _⟩ | ⟨h1, _⟩ | ⟨h1, _⟩ <;> rw [h1] <;> rfl
      · simp only [go_sem, simprocAttr, ↓reduceIte]
        have hneg := of_decide_eq_false h
        have e : ((l.natAbs : Nat) : Int) = l := by omega
        rw [e]
      have htk : ∀ M, Agr M asm → Agr M (asm.take i) := fun M h l hl => h l (List.mem_of_mem_take hl)
      have hcont : ∀ {st : Store} {ov' lv' : AV} {ord' : List Int} {lev' : List Nat}, Srch σ st σ1.length tid cv1 vid ov' lv' .nils 0 n cls ord' lev' [] → (∀ M, setT M cls = true → Agr M (asm.take (i + 1)) → Agr M ord') → (∀ l ∈ asm.take i, l ∈ ord') → l ∈ ord' → lev'.length ≤ i + 1 →
          ∃ ov lv ord lev, Srch σ st σ1.length tid cv1 vid ov lv .nils 0 n cls ord lev [] ∧ (∀ M, setT M cls = true → Agr M (asm.take (i + 1)) → Agr M ord) ∧ (∀ l ∈ asm.take (i + 1), l ∈ ord) ∧ (∀ l ∈ asm.take (i + 1), wfL n l = true) ∧ lev.length ≤ i + 1 := fun {st ov' lv' ord' lev'} a1 a2 a3 a4 a5 => by
        refine ⟨ov', lv', ord', lev', a1, a2, fun m hm => ?_, fun m hm => ?_, a5⟩
        · rw [take_succ_get hl] at hm
          rcases List.mem_append.1 hm with hm | hm
          · exact a3 m hm
          · rw [List.mem_singleton.1 hm]; exact a4
        · rw [take_succ_get hl] at hm
          rcases List.mem_append.1 hm with hm | hm
          · exact hwf m hm
          · rw [List.mem_singleton.1 hm]; exact hw
      have hup : ∀ M, Agr M (asm.take (i + 1)) → Agr M (asm.take i) ∧ litT M l = true := fun M h => by
        rw [take_succ_get hl] at h
        exact ⟨fun m hm => h m (List.mem_append_left _ hm), h l (by simp)⟩
      have hsl := hS.ext.le
      rcases valT_cases ord l with ⟨hv, hlo⟩ | ⟨hv, _, hlo⟩ | ⟨hv, _⟩
      · have d1 : decide ((1 : Int) < 0) = false := rfl
        have d2 : ((1 : Int) == 0) = false := rfl
        simp only [go_sem, simprocAttr, ↓reduceIte, h9, hst, h21, hs0, look_id hS.obj, hv, d1, d2]
        refine ⟨.bool false, ?_⟩
        simp only [go_sem, simprocAttr, ↓reduceIte, h9, hst, h21, hs0]
        exact ⟨hlt, int_succ hlt (by rw [maxLen_eq]; omega), hcont hS (fun M h1 h2 => hM M h1 (hup M h2).1) hin hlo (by omega)⟩
      · have d1 : decide ((-1 : Int) < 0) = true := rfl
        simp only [go_sem, simprocAttr, ↓reduceIte, h9, hst, h21, hs0, look_id hS.obj, hv, d1]
        refine ⟨.bool false, ?_⟩
        simp only [go_sem, simprocAttr, ↓reduceIte, h9, hst, h21, hs0]
        refine EndR.ret ?_
        simp only [go_sem, simprocAttr, ↓reduceIte, hst]
        refine ⟨_, .refl _, hsl, hS.ext, .inl ⟨rfl, fun ⟨_, M, h1, h2⟩ => ?_⟩⟩
        have := (hM M h1 (htk M h2)).neg hS.tr.good hv
        rw [h2 l hlm] at this
        cases this
      · have d1 : decide ((0 : Int) < 0) = false := rfl
        have d2 : ((0 : Int) == 0) = true := rfl
        simp only [go_sem, simprocAttr, ↓reduceIte, h9, hst, h21, hs0, look_id hS.obj, hv, d1, d2]
        cases hcl : cls.any (lostC ord) with
        | true =>
          refine CallA.goes (by simp only [go_sem, simprocAttr, ↓reduceIte, hst]) (pr_pushNo hS.tr l w1 w2 hv hcl) fun r σ2 ⟨hr, hσ⟩ => ?_
          subst hr hσ
          simp only [go_sem, simprocAttr, ↓reduceIte]
          refine EndR.ret ?_
          simp only [go_sem, simprocAttr, ↓reduceIte]
          refine ⟨_, .refl _, hsl, hS.ext, .inl ⟨rfl, fun ⟨_, M, h1, h2⟩ => ?_⟩⟩
          obtain ⟨c, hc1, hc2⟩ := List.any_eq_true.1 hcl
          have := lost_none (hM M h1 (htk M h2)) hS.tr.good hc2
          rw [List.all_eq_true.1 h1 c hc1] at this
          cases this
        | false =>
          refine CallA.goes (by simp only [go_sem, simprocAttr, ↓reduceIte, hst]) (pr_push hS.tr l w1 w2 hv hcl (by omega)) fun r σ2 ⟨hr, ov6, lv6, fs, ht6, fr6, ff6, snd6⟩ => ?_
          subst hr
          have hS6 := hS.step ht6 fr6 (fun j hj => ff6 j (by simp [hj])) (fun j hj => ff6 j (by simp [hj]))
          simp only [go_sem, simprocAttr, ↓reduceIte, h21]
          refine ⟨hlt, int_succ hlt (by rw [maxLen_eq]; omega), hcont hS6 (fun M h1 h2 => snd6 M h1 fun m hm => ?_) (fun m hm => by simp [hin m hm]) (by simp) (by simp; omega)⟩
          rcases List.mem_append.1 hm with hm | hm
          · exact hM M h1 (hup M h2).1 m hm
          · rw [List.mem_singleton.1 hm]; exact (hup M h2).2
    · rw [List.take_of_length_le hge] at hM hin hwf
      exact ⟨ov, lv, ord, lev, hS, hM, hin, hwf, by omega⟩
  simp only [go_sem, simprocAttr, ↓reduceIte]
  refine EndR.ret ?_
  simp only [go_sem, simprocAttr, ↓reduceIte]
  refine ⟨_, .refl _, hS.ext.le, hS.ext, .inr ⟨σ1.length, tid, cv1, vid, ov, lv, ord, lev, rfl, ⟨by simpa using hS, Nat.le_refl _, fun l hl => by rw [List.take_length]; exact hi l hl, hlv⟩, fun M h1 h2 => .inl (hM M h1 h2), hwf⟩⟩
end Go.Proofs.Tryz
end
section
namespace Go.Proofs.Tryz
open Go Go.Av
set_option maxRecDepth 10000
set_option linter.unusedSimpArgs false
set_option linter.unusedVariables false
variable {W0 : World}
variable {τ σ : Store} {xid tid vid n : Nat} {cv ov lv dv : AV} {z : Int} {cls : List (List Int)} {ord dec asm : List Int} {lev lev0 : List Nat} {stk : List (Nat × Int)} {base : Nat}

theorem sa_solve (sid : Nat) (hid : σ[sid]? = some (setO n cv)) (hb : Bld σ cv 84 (cls.map litsAV)) (hk : SetOk n cls) (asm : List Int) (ha : asm.length ≤ 1000) :
    ACall prog W0 52 [.ptr 112 sid 0 [], litsAV asm, .int .i64 0] σ fun r σ' => Ext σ σ' ∧ ((r = .tup [.nils, .bool false, .int .i64 0] ∧ ¬ satA n cls asm) ∨
      ∃ M, r = .tup [.sl 4 ((List.range n).map fun i => .bool (M (i + 1))), .bool true, .int .i64 0] ∧ setT M cls = true ∧ Agr M asm ∧ ∀ l ∈ asm, wfL n l = true) := by
  refine fn_call [6, 7, 8] [] func52 rfl rfl ntmps52 rfl rfl fun hs => ?_
  have hn := hk.small
  simp only [go_sem, simprocAttr, ↓reduceIte]
  refine CallA.goes (by simp only [go_sem, simprocAttr, ↓reduceIte]) (sa_begin sid hid hb hk asm ha) fun r σ1 ⟨hx1, hr⟩ => ?_
  rcases hr with ⟨rfl, hno⟩ | ⟨xid, tid, cv1, vid, ov1, lv1, ord1, lev1, rfl, hW, hO, hwf⟩
  · simp only [go_sem, simprocAttr, ↓reduceIte]
    refine EndR.ret ?_
    simp only [go_sem, simprocAttr, ↓reduceIte]
    exact ⟨_, .refl _, hx1.le, hx1, .inl ⟨rfl, hno⟩⟩
  simp only [go_sem, simprocAttr, ↓reduceIte]
  refine CallA.goes (by simp only [go_sem, simprocAttr, ↓reduceIte]) (sa_next hW hO) fun r σ2 ⟨hx2, hl2, hr⟩ => ?_
  rcases hr with ⟨rfl, hno⟩ | ⟨rfl, ord2, stk2, ov2, lv2, dv2, z2, hW2, hc, hall⟩
  · simp only [go_sem, simprocAttr, ↓reduceIte]
    refine EndR.ret ?_
    simp only [go_sem, simprocAttr, ↓reduceIte]
    exact ⟨_, .refl _, hx2.le, hx2, .inl ⟨rfl, fun ⟨_, M, h1, h2⟩ => hno M h1 h2⟩⟩
  have hS := hW2.s
  obtain ⟨M, hM1, hM2, hM3⟩ := model_of hS.tr.good hall hc hS.tr.wf
  simp only [go_sem, simprocAttr, ↓reduceIte, look_id hS.obj]
  refine MakeA.go (e := 4) 200 (by kernel_rfl) (z := .bool false) (by kernel_rfl) (by kernel_rfl) hn ?_
  simp only [go_sem, simprocAttr, ↓reduceIte]
  have hasm : Agr M asm := fun l hl => hM2 l (List.mem_of_mem_take (hW2.asm l hl))
  let ms (i : Nat) : List AV := (List.range n).map fun j => .bool (if j < i then M (j + 1) else false)
  have hml : ∀ i, (ms i).length = n := fun i => by simp [ms]
  have hm0 : ms 0 = List.replicate n (.bool false) := by
    refine List.ext_getElem? fun j => ?_
    simp only [ms, List.getElem?_map, List.getElem?_range, List.getElem?_replicate]
    by_cases hj : j < n
    · simp [hj]
    · simp [hj]
  have hms : ∀ i, i < n → (ms i).set i (.bool (M (i + 1))) = ms (i + 1) := fun i hi => by
    refine List.ext_getElem? fun j => ?_
    rw [List.getElem?_set, hml]
    simp only [ms, List.getElem?_map]
    by_cases hj : j < n
    · rw [List.getElem?_range hj]
      by_cases e : i = j
      · subst e; simp [hj]
      · simp only [e, if_false, Option.map_some]
        by_cases h1 : j < i
        · simp [h1, show j < i + 1 by omega]
        · simp [h1, show ¬ j < i + 1 by omega]
    · rw [List.getElem?_eq_none (show (List.range n).length ≤ j by simp; omega)]
      simp; omega
  have hmn : ms n = (List.range n).map fun i => .bool (M (i + 1)) := List.map_congr_left fun j hj => by rw [if_pos (List.mem_range.1 hj)]
  rw [← hm0]
  have hl2' := hx2.le
  have hS' : ∀ o, Trail (σ2 ++ [o]) tid cv1 vid ov2 lv2 n cls ord2 (lev1 ++ stk2.map (·.1)) ∧ (σ2 ++ [o])[xid]? = some (srchO tid n dv2 z2) := fun o => by
    have old : ∀ j, j < σ2.length → (σ2 ++ [o])[j]? = σ2[j]? := fun j hj => List.getElem?_append_left hj
    have ht1 := hS.tr
    obtain ⟨i1, i2, i3⟩ := ht1.ids
    exact ⟨⟨by rw [old _ i1, ht1.hobj], ht1.hcls.keep fun j hj => old j (ht1.hcls.lt j hj), by rw [old _ i2, ht1.hvals], ht1.hord.keep fun j hj => old j (ht1.hord.lt j hj), ht1.hlev.keep fun j hj => old j (ht1.hlev.lt j hj), ht1.hne, ht1.good, ht1.small, ht1.clen, ht1.wf⟩, by rw [old _ hS.xne.2.2.2.2.2.2, hS.obj]⟩
  refine LoopVC.at [12] (.of (by kernel_rfl)) (fun A => A.st = σ2 ++ [some (.cells 4 (ms n))]) ?_ fun B hst => ?_
  · refine LoopVC.upto [9, 12, 37] (.of (by kernel_rfl)) n (fun i A => A.env 38 = .int .i64 i ∧ A.st = σ2 ++ [some (.cells 4 (ms i))]) 0 (Nat.zero_le _) ?_ fun i B hi ⟨h38, hst⟩ => ?_
    · simp only [go_sem, simprocAttr, ↓reduceIte]
    simp only [go_sem, simprocAttr, ↓reduceIte, h38, hst]
    refine ⟨fun hlt => ?_, fun hge => ?_⟩
    · obtain ⟨ht, hx⟩ := hS' (some (.cells 4 (ms i)))
      have hw : IntKind.i64.wrap ((i : Int) + 1) = ((i + 1 : Nat) : Int) := wrap_succ hlt (by rw [maxLen_eq]; omega)
      simp only [go_sem, simprocAttr, ↓reduceIte, h38, hst, look_id hx, hw]
      refine CallA.reads (by simp only [go_sem, simprocAttr, ↓reduceIte, hst]) (pr_value ht (i + 1) (by omega) (by omega)) ?_
      obtain ⟨y, hy⟩ := get_some (show i < (ms i).length by rw [hml]; exact hlt)
      simp only [go_sem, simprocAttr, ↓reduceIte, h38, hst, Nat.zero_add, hy, Option.bind_some, Option.isSome_some]
      refine ⟨⟨hlt, ⟨4, ms i, by simp⟩⟩, hlt, int_succ hlt (by rw [maxLen_eq]; omega), ?_⟩
      rw [← hM3, hms i hlt]
    · have : i = n := by omega
      subst this
      rfl
  simp only [go_sem, simprocAttr, ↓reduceIte]
  refine EndR.frz (e := 4) (te := 4) (id := σ2.length) (off := 0) (m := n) (xs := ms n) 6 (by simp only [go_sem, simprocAttr, ↓reduceIte]) (by simp only [go_sem, simprocAttr, ↓reduceIte, hst]) (by rw [hml]; omega) (EndR.ret ?_)
  simp only [go_sem, simprocAttr, ↓reduceIte, hst]
  rw [List.take_of_length_le (by rw [hml]; omega), hmn]
  exact ⟨_, .refl _, by omega, hx2.app _, .inr ⟨M, rfl, hM1, hasm, hwf⟩⟩
end Go.Proofs.Tryz
end
section
namespace Go.Proofs.Tryz
open Go Go.Av
set_option maxRecDepth 10000
set_option linter.unusedSimpArgs false
set_option linter.unusedVariables false
variable {W0 : World}
variable {σ : Store} {n : Nat} {cv : AV} {cls : List (List Int)}

/-- Can they hold together? -/
noncomputable def satB (n : Nat) (cls : List (List Int)) (asm : List Int) : Bool := @decide (satA n cls asm) (Classical.propDecidable _)
theorem satB_true {n : Nat} {cls : List (List Int)} {asm : List Int} (h : satA n cls asm) : satB n cls asm = true := @decide_eq_true _ (Classical.propDecidable _) h
theorem satB_false {n : Nat} {cls : List (List Int)} {asm : List Int} (h : ¬ satA n cls asm) : satB n cls asm = false := @decide_eq_false _ (Classical.propDecidable _) h

def askO (n sid : Nat) : Option SObj := some (.cells 82 [.agg 82 [.int .i64 n, .ptr 112 sid 0 []]])

theorem st_lit (i : Nat) (hi : i ≤ 1048576) : PureFn prog W0 24 [.int .i64 i] (.int .i64 ((i + 1 : Nat) : Int)) := by
  refine fn_pure [2] [] func24 rfl rfl ntmps24 rfl rfl (.int _ _) fun hs σ => ?_
  simp only [go_sem, simprocAttr, ↓reduceIte]
  exact weak_int (wrap_succ (N := 1048577) (by omega) (by rw [maxLen_eq]; omega))

theorem st_can (aid sid : Nat) (ha : σ[aid]? = some (askO n sid)) (hid : σ[sid]? = some (setO n cv)) (hb : Bld σ cv 84 (cls.map litsAV)) (hk : SetOk n cls) (asm : List Int) (hl : asm.length ≤ 1000) :
    ACall prog W0 23 [.ptr 82 aid 0 [], litsAV asm] σ fun r σ' => r = .bool (satB n cls asm) ∧ σ' = σ := by
  refine fn_st [4] [] func23 rfl rfl ntmps23 rfl rfl (.bool _) fun hs => ?_
  simp only [go_sem, simprocAttr, ↓reduceIte, look_id ha]
  refine CallA.goes (by simp only [go_sem, simprocAttr, ↓reduceIte]) (sa_solve sid hid hb hk asm hl) fun r σ1 ⟨hx, hr⟩ => ?_
  rcases hr with ⟨rfl, hno⟩ | ⟨M, rfl, h1, h2, h3⟩
  · simp only [go_sem, simprocAttr, ↓reduceIte]
    refine EndR.ret ?_
    simp only [go_sem, simprocAttr, ↓reduceIte]
    exact ⟨weak_bool (satB_false hno).symm, hx⟩
  · simp only [go_sem, simprocAttr, ↓reduceIte]
    refine EndR.ret ?_
    simp only [go_sem, simprocAttr, ↓reduceIte]
    exact ⟨weak_bool (satB_true ⟨h3, M, h1, h2⟩).symm, hx⟩

theorem st_ask1 (all : List Pkg) (i : Int) : PureFn prog W0 44 [.int .i64 i, .loc 22 (pkgsAV all)] (.bool (decide (i < 0) || decide ((all.length : Int) ≤ i))) := by
  refine fn_pure [3] [] func44 rfl rfl ntmps44 rfl rfl (.bool _) fun hs σ => ?_
  simp only [go_sem, simprocAttr, ↓reduceIte, pkgsAV, List.length_map]
  try exact .refl _

theorem st_ask2 (q : Pkg) (a : Atom) : PureFn prog W0 48 [atomAV a, .loc 38 (pkgAV q)] (.bool (satP q a)) := by
  refine fn_pure [3] [2] func48 rfl rfl ntmps48 rfl rfl (.bool _) fun hs σ => ?_
  simp only [go_sem, simprocAttr, ↓reduceIte]
  refine CallA.fn (ix_sat q a) ?_
  simp only [go_sem, simprocAttr, ↓reduceIte]
  try exact .refl _
end Go.Proofs.Tryz
end
section
namespace Go.Av

def litN (i : Nat) : Int := ((i + 1 : Nat) : Int)
/-- One of those that meet it, from the place i on. -/
def meetL (c : Clause) : Nat → List Pkg → List Int
  | _, [] => []
  | i, q :: r => (if c.any (satP q) = true then [litN i] else []) ++ meetL c (i + 1) r
def depL (all : List Pkg) (i : Nat) (c : Clause) : List Int := -litN i :: meetL c 0 all
/-- Those ahead of it with which it can't be. -/
def conL (p : Pkg) (i : Nat) : Nat → List Pkg → List (List Int)
  | _, [] => []
  | k, q :: r => (if (p.name == q.name || clashP p q) = true then [[-litN i, -litN k]] else []) ++ conL p i (k + 1) r
/-- All clauses of one package. -/
def pkgL (all : List Pkg) (i : Nat) (p : Pkg) : List (List Int) := (p.pre ++ p.dep).map (depL all i) ++ conL p i 0 (all.take i)
def allL (all : List Pkg) : Nat → List Pkg → List (List Int)
  | _, [] => []
  | i, p :: r => pkgL all i p ++ allL all (i + 1) r

theorem meetL_mem {c : Clause} : ∀ {i : Nat} {l : List Pkg} {x : Int}, x ∈ meetL c i l → ∃ k q, l[k]? = some q ∧ x = litN (i + k)
  | i, [], x, h => by simp [meetL] at h
  | i, q :: r, x, h => by
    rw [meetL, List.mem_append] at h
    rcases h with h | h
    · split at h
      · simp at h; exact ⟨0, q, rfl, by simpa using h⟩
      · simp at h
    · obtain ⟨k, q', h1, h2⟩ := meetL_mem h
      exact ⟨k + 1, q', by simpa using h1, by rw [h2]; congr 1; omega⟩
theorem meetL_nodup {c : Clause} : ∀ (i : Nat) (l : List Pkg), (meetL c i l).Nodup ∧ ∀ x ∈ meetL c i l, litN i ≤ x
  | i, [] => by simp [meetL]
  | i, q :: r => by
    obtain ⟨h1, h2⟩ := meetL_nodup (c := c) (i + 1) r
    rw [meetL]
    refine ⟨List.nodup_append.2 ⟨by split <;> simp, h1, fun a ha b hb => ?_⟩, fun x hx => ?_⟩
    · split at ha
      · simp at ha
        have := h2 b hb
        subst ha
        unfold litN at *
        omega
      · simp at ha
    · rcases List.mem_append.1 hx with h | h
      · split at h
        · simp at h; omega
        · simp at h
      · have := h2 x h
        unfold litN at *
        omega
theorem meetL_len {c : Clause} : ∀ (i : Nat) (l : List Pkg), (meetL c i l).length ≤ l.length
  | i, [] => by simp [meetL]
  | i, q :: r => by
    have := meetL_len (c := c) (i + 1) r
    rw [meetL, List.length_append]
    split <;> simp <;> omega
theorem meetL_succ {c : Clause} : ∀ (l : List Pkg) (i k : Nat) (q : Pkg), l[k]? = some q → meetL c i (l.take (k + 1)) = meetL c i (l.take k) ++ (if c.any (satP q) = true then [litN (i + k)] else [])
  | [], i, k, q, h => by simp at h
  | p :: r, i, 0, q, h => by
    simp at h; subst h
    simp [meetL]
  | p :: r, i, k + 1, q, h => by
    rw [List.take_succ_cons, List.take_succ_cons, meetL, meetL, meetL_succ r (i + 1) k q (by simpa using h), List.append_assoc]
    have : i + 1 + k = i + (k + 1) := by omega
    rw [this]
theorem conL_succ {p : Pkg} {i : Nat} : ∀ (l : List Pkg) (j k : Nat) (q : Pkg), l[k]? = some q → conL p i j (l.take (k + 1)) = conL p i j (l.take k) ++ (if (p.name == q.name || clashP p q) = true then [[-litN i, -litN (j + k)]] else [])
  | [], j, k, q, h => by simp at h
  | p' :: r, j, 0, q, h => by
    simp at h; subst h
    simp [conL]
  | p' :: r, j, k + 1, q, h => by
    rw [List.take_succ_cons, List.take_succ_cons, conL, conL, conL_succ r (j + 1) k q (by simpa using h), List.append_assoc]
    have : j + 1 + k = j + (k + 1) := by omega
    rw [this]
theorem allL_succ (all : List Pkg) : ∀ (l : List Pkg) (j k : Nat) (p : Pkg), l[k]? = some p → allL all j (l.take (k + 1)) = allL all j (l.take k) ++ pkgL all (j + k) p
  | [], j, k, p, h => by simp at h
  | q :: r, j, 0, p, h => by
    simp at h; subst h
    simp [allL]
  | q :: r, j, k + 1, p, h => by
    rw [List.take_succ_cons, List.take_succ_cons, allL, allL, allL_succ all r (j + 1) k p (by simpa using h), List.append_assoc]
    have : j + 1 + k = j + (k + 1) := by omega
    rw [this]
theorem setT_app (M : Nat → Bool) (a b : List (List Int)) : setT M (a ++ b) = (setT M a && setT M b) := by simp [setT]
theorem mayAll_len {all : List Pkg} (h : mayAll all = 0) : all.length ≤ 24 := by
  unfold mayAll at h
  split at h
  · omega
  · omega
theorem orL_zero : ∀ {l : List Int}, orL l = 0 → ∀ x ∈ l, x = 0
  | [], _, x, hx => by simp at hx
  | y :: r, h, x, hx => by
    rw [orL] at h
    split at h
    · rename_i hy; exact absurd h hy
    · rename_i hy
      rcases List.mem_cons.1 hx with rfl | hx
      · exact Classical.not_not.1 hy
      · exact orL_zero h x hx
theorem mayAll_pkg {all : List Pkg} (h : mayAll all = 0) {p : Pkg} (hp : p ∈ all) : mayPkg p = 0 := by
  unfold mayAll at h
  split at h
  · omega
  · split at h
    · rename_i h1; exact absurd h h1
    · rename_i h1
      exact orL_zero (Classical.not_not.1 h1) _ (List.mem_map.2 ⟨p, hp, rfl⟩)
theorem mayCl_len {l : List Clause} (h : mayCl l = 0) : l.length ≤ 12 := by
  unfold mayCl at h
  split at h
  · omega
  · rename_i h1; omega
theorem mayPkg_len {p : Pkg} (h : mayPkg p = 0) : p.pre.length ≤ 12 ∧ p.dep.length ≤ 12 := by
  unfold mayPkg at h
  split at h
  · omega
  · have := orL_zero h
    exact ⟨mayCl_len (this _ (by simp)), mayCl_len (this _ (by simp))⟩
theorem litN_pos (i : Nat) : 0 < litN i := by unfold litN; omega
theorem litN_abs (i : Nat) : (litN i).natAbs = i + 1 := by unfold litN; omega
theorem depL_ok {all : List Pkg} {i : Nat} (hi : i < all.length) (c : Clause) : wfC all.length (depL all i c) = true ∧ (depL all i c).Nodup ∧ (depL all i c).length ≤ all.length + 1 := by
  refine ⟨List.all_eq_true.2 fun l hl => ?_, ?_, ?_⟩
  · have : l ≠ 0 ∧ l.natAbs ≤ all.length := by
      rcases List.mem_cons.1 hl with rfl | hl
      · have := litN_pos i; have := litN_abs i
        exact ⟨by omega, by omega⟩
      · obtain ⟨k, q, h1, rfl⟩ := meetL_mem hl
        have h2 := (List.getElem?_eq_some_iff.1 h1).1
        have := litN_pos (0 + k); have := litN_abs (0 + k)
        exact ⟨by omega, by omega⟩
    simp [wfL, this]
  · refine List.nodup_cons.2 ⟨fun h => ?_, (meetL_nodup _ _).1⟩
    have := (meetL_nodup (c := c) 0 all).2 _ h
    have := litN_pos i; have := litN_pos 0
    omega
  · have := meetL_len (c := c) 0 all
    simp [depL]; omega
theorem conP_ok {n i k : Nat} (hi : i < n) (hk : k < i) : wfC n [-litN i, -litN k] = true ∧ [-litN i, -litN k].Nodup := by
  have := litN_pos i; have := litN_abs i; have := litN_pos k; have := litN_abs k
  refine ⟨by simp [wfC, wfL]; omega, by simp; unfold litN; omega⟩
end Go.Av
end
section
namespace Go.Proofs.Tryz
open Go Go.Av
set_option maxRecDepth 10000
set_option linter.unusedSimpArgs false
set_option linter.unusedVariables false
variable {W0 : World}

/-- An asker in memory, behind a store. -/
structure AskSt (τ st : Store) (aid sid n : Nat) (cv : AV) (cls : List (List Int)) : Prop where
  ext : Ext τ st
  alo : τ.length ≤ aid
  slo : τ.length ≤ sid
  ao : st[aid]? = some (askO n sid)
  so : st[sid]? = some (setO n cv)
  bld : Bld st cv 84 (cls.map litsAV)
  clo : ∀ j ∈ foot cv, τ.length ≤ j
  ok : SetOk n cls

theorem AskSt.more {τ st : Store} {aid sid n : Nat} {cv : AV} {cls : List (List Int)} (h : AskSt τ st aid sid n cv cls) (l : Store) : AskSt τ (st ++ l) aid sid n cv cls := by
  have old : ∀ j, j < st.length → (st ++ l)[j]? = st[j]? := fun j hj => List.getElem?_append_left hj
  exact ⟨h.ext.app l, h.alo, h.slo, by rw [old _ (List.getElem?_eq_some_iff.1 h.ao).1, h.ao], by rw [old _ (List.getElem?_eq_some_iff.1 h.so).1, h.so], h.bld.keep fun j hj => old j (h.bld.lt j hj), h.clo, h.ok⟩

theorem AskSt.add {τ st st' : Store} {aid sid n : Nat} {cv cv' : AV} {cls cls' : List (List Int)} {c : List Int} (h : AskSt τ st aid sid n cv cls) (hf : Fr (sid :: foot cv) st st') (hs : st'[sid]? = some (setO n cv')) (hb : Bld st' cv' 84 (cls'.map litsAV)) (hft : ∀ j ∈ foot cv', j ∈ foot cv ∨ st.length ≤ j)
    (hl : cls'.length ≤ 5000) (hd : ∀ d ∈ cls', d ∈ cls ∨ d.Perm c) (hw : wfC n c = true) (h0 : c ≠ []) (hc : c.length ≤ 1048576) : AskSt τ st' aid sid n cv' cls' := by
  have hx := h.ext.le
  have ne : aid ≠ sid := fun e => by have := h.ao; rw [e, h.so] at this; simp [askO, setO] at this
  refine ⟨hf.toExt h.ext fun j hj => ?_, h.alo, h.slo, ?_, hs, hb, fun j hj => ?_, ⟨h.ok.small, hl, fun d hdm => ?_⟩⟩
  · rcases List.mem_cons.1 hj with rfl | hj
    · exact h.slo
    · exact h.clo j hj
  · rw [hf.old aid (List.getElem?_eq_some_iff.1 h.ao).1 (by simp [ne, h.bld.ne h.ao]), h.ao]
  · rcases hft j hj with h1 | h1
    · exact h.clo j h1
    · omega
  · rcases hd d hdm with h1 | h1
    · exact h.ok.wf d h1
    · refine ⟨fun e => h0 ?_, by rw [h1.length_eq]; exact hc, fun l hl => ?_⟩
      · subst e; exact h1.symm.eq_nil
      · have := List.all_eq_true.1 hw l (h1.subset hl)
        exact wfL_iff.1 this

theorem st_ask (σ : Store) (all : List Pkg) (places : List Int) (hp : ∀ p ∈ all, MayN p) (h11 : all.length ≤ 11) (hpl : places.length ≤ 1000) :
    ACall prog W0 22 [pkgsAV all, .sl 3 (places.map (.int .i64))] σ fun r σ' => Ext σ σ' ∧
      ((mayAll all ≠ 0 ∧ r = .tup [.nil, .int .i64 (mayAll all)]) ∨ (mayAll all = 0 ∧ (places.any fun i => decide (i < 0) || decide ((all.length : Int) ≤ i)) = true ∧ r = .tup [.nil, .int .i64 1]) ∨
       (mayAll all = 0 ∧ (places.any fun i => decide (i < 0) || decide ((all.length : Int) ≤ i)) = false ∧ ∃ aid sid cv cls, r = .tup [.ptr 82 aid 0 [], .int .i64 0] ∧ AskSt σ σ' aid sid all.length cv cls ∧ ∀ M, setT M cls = setT M (allL all 0 all))) := by
  refine fn_call [4, 5] [2, 9, 14, 16, 2000029, 2000030, 2000031, 2000007, 2000107] func22 rfl rfl ntmps22 rfl rfl fun hs => ?_
  simp only [go_sem, simprocAttr, ↓reduceIte, pkgsAV]
  refine CallA.fn (re_mayAll all hp) ?_
  simp only [go_sem, simprocAttr, ↓reduceIte, pkgsAV]
  refine ⟨fun h0 => EndR.ret ?_, fun h0 => ?_⟩
  · simp only [go_sem, simprocAttr, ↓reduceIte]
    exact ⟨_, .refl _, .refl _, .inl ⟨h0, rfl⟩⟩
  refine CallA.fn (anInt (.int .i64) NotM.int64 places _ _ [.loc 22 (pkgsAV all)] (fun i _ => st_ask1 all i)) ?_
  simp only [go_sem, simprocAttr, ↓reduceIte, pkgsAV]
  refine ⟨fun h1 => EndR.ret ?_, fun h1 => ?_⟩
  · simp only [go_sem, simprocAttr, ↓reduceIte]
    exact ⟨_, .refl _, .refl _, .inr (.inl ⟨h0, h1, rfl⟩)⟩
  have hal : all.length ≤ 200 := by omega
  simp only [go_sem, simprocAttr, ↓reduceIte, pkgsAV, List.length_map]
  refine ⟨.of (by kernel_rfl), CallA.goes (by simp only [go_sem, simprocAttr, ↓reduceIte]) (cn_new σ all.length hal) fun r σ1 ⟨hr, hσ⟩ => ?_⟩
  subst hr hσ
  simp only [go_sem, simprocAttr, ↓reduceIte, List.length_map]
  have a0 : AskSt σ (σ ++ [setO all.length .nils, askO all.length σ.length]) (σ.length + 1) σ.length all.length .nils [] :=
    ⟨(Ext.refl _).app _, by omega, Nat.le_refl _, by simp, by simp, .inl ⟨rfl, rfl⟩, by simp [foot], ⟨hal, by simp, by simp⟩⟩
  refine LoopVC.at [7] (.of (by kernel_rfl)) (fun A => ∃ cv cls, AskSt σ A.st (σ.length + 1) σ.length all.length cv cls ∧ ∀ M, setT M cls = setT M (allL all 0 all)) ?_ fun B ⟨cv, cls, ha, hM⟩ => ?_
  · refine LoopVC.upto [2, 7, 32, 33] (.of (by kernel_rfl)) all.length (fun i A => A.env 34 = .int .i64 i ∧ ∃ cv cls, AskSt σ A.st (σ.length + 1) σ.length all.length cv cls ∧ (∀ M, setT M cls = setT M (allL all 0 (all.take i))) ∧ cls.length ≤ i * 60) 0 (Nat.zero_le _) ?_ fun i B hi ⟨h34, cv, cls, ha, hM, hcl⟩ => ?_
    · simp only [go_sem, simprocAttr, ↓reduceIte]
      exact ⟨.nils, [], a0, fun M => rfl, by simp⟩
    simp only [go_sem, simprocAttr, ↓reduceIte, h34, List.length_map]
    refine ⟨fun hlt => ⟨hlt, ?_⟩, fun hge => ?_⟩
    · obtain ⟨p, hpi⟩ := get_some hlt
      have hpm := mayPkg_len (mayAll_pkg h0 (List.mem_of_getElem? hpi))
      simp only [atV_map hpi]
      simp only [go_sem, simprocAttr, ↓reduceIte, pkgAV, h34]
      refine CallA.fn ((sl_concat [p.pre, p.dep] (by simp) (by simp; omega)).weak (.cons (.lit _ _) .nil)) ?_
      have efl : [p.pre, p.dep].flatten = p.pre ++ p.dep := by simp
      rw [efl]
      have hpl2 : (p.pre ++ p.dep).length ≤ 24 := by simp; omega
      generalize hD : p.pre ++ p.dep = D at hpl2 ⊢
      clear efl
      have hil : i ≤ 1048576 := by omega
      simp only [go_sem, simprocAttr, ↓reduceIte, clausesAV, List.length_map, h34]
      refine LoopVC.at [2, 7, 8, 9, 32, 33, 34] (.of (by kernel_rfl)) (fun A => ∃ cv cls', AskSt σ A.st (σ.length + 1) σ.length all.length cv cls' ∧ (∀ M, setT M cls' = (setT M (allL all 0 (all.take i)) && setT M (D.map (depL all i)))) ∧ cls'.length ≤ i * 60 + 24) ?_ fun B2 ⟨cv2, cls2, ha2, hM2, hcl2⟩ => ?_
      · refine LoopVC.upto [2, 7, 8, 9, 32, 33, 34, 44, 45] (.of (by kernel_rfl)) D.length (fun j A => A.env 46 = .int .i64 j ∧ ∃ cv cls', AskSt σ A.st (σ.length + 1) σ.length all.length cv cls' ∧ (∀ M, setT M cls' = (setT M (allL all 0 (all.take i)) && setT M ((D.take j).map (depL all i)))) ∧ cls'.length ≤ i * 60 + j) 0 (Nat.zero_le _) ?_ fun j B2 hj ⟨h46, cv2, cls2, ha2, hM2, hcl2⟩ => ?_
        · simp only [go_sem, simprocAttr, ↓reduceIte]
          exact ⟨cv, cls, ha.more _, fun M => by rw [hM M]; simp [setT], by omega⟩
        simp only [go_sem, simprocAttr, ↓reduceIte, h46, List.length_map]
        refine ⟨fun hlt2 => ?_, fun hge2 => ?_⟩
        · obtain ⟨c, hc⟩ := get_some hlt2
          simp only [atV_map hc]
          refine ⟨hlt2, CallA.fn (st_lit i hil) ?_⟩
          have hwn : IntKind.i64.wrap (-(((i + 1 : Nat) : Int))) = -litN i := by rw [wrap_in (by omega)]; rfl
          simp only [go_sem, simprocAttr, ↓reduceIte, h46, List.length_map, hwn]
          refine LoopVC.at [2, 7, 8, 9, 32, 33, 34, 44, 45, 46] (.of (by kernel_rfl)) (fun A => ∃ v, A.env 12 = v ∧ Built B2.st A.st v 54 ((depL all i c).map (.int .i64))) ?_ fun B3 ⟨v, h12, hv⟩ => ?_
          · refine LoopVC.upto [2, 7, 8, 9, 11, 32, 33, 34, 44, 45, 46, 54, 55] (.of (by kernel_rfl)) all.length (fun k A => A.env 56 = .int .i64 k ∧ ∃ v, A.env 12 = v ∧ Built B2.st A.st v 54 ((-litN i :: meetL c 0 (all.take k)).map (.int .i64))) 0 (Nat.zero_le _) ?_ fun k B3 hk ⟨h56, v, h12, hv⟩ => ?_
            · simp only [go_sem, simprocAttr, ↓reduceIte]
              exact ⟨_, rfl, ⟨.inr (.inl rfl), .refl _, fun t h => by cases h⟩⟩
            simp only [go_sem, simprocAttr, ↓reduceIte, h56, h12, List.length_map, hv.ok, hv.un]
            refine ⟨fun hlt3 => ⟨hlt3, ?_⟩, fun hge3 => ?_⟩
            · obtain ⟨q, hq⟩ := get_some hlt3
              simp only [atV_map hq]
              simp only [go_sem, simprocAttr, ↓reduceIte, h56, h12, hv.ok, hv.un]
              have hsl := meetL_succ (c := c) all 0 k q hq
              rw [Nat.zero_add] at hsl
              have hlm := meetL_len (c := c) 0 (all.take k)
              rw [List.length_take] at hlm
              refine CallA.fn (anAtomC atomAV NotM.atom c (satP q) _ [.loc 38 (pkgAV q)] (fun a _ => st_ask2 q a)) ?_
              simp only [go_sem, simprocAttr, ↓reduceIte, h56, h12, hv.ok, hv.un]
              refine ⟨fun hb => ?_, fun hb => ⟨hlt3, int_succ hlt3 (by rw [maxLen_eq]; omega), _, rfl, by rw [hsl, hb, if_neg (by simp), List.append_nil]; exact hv.more _⟩⟩
              refine CallA.fn (st_lit k (by omega)) ?_
              simp only [go_sem, simprocAttr, ↓reduceIte, h56, h12, hv.ok, hv.un]
              refine AppA.own 1048576 (by kernel_rfl) (hv.more _).bld (.lit _ _ _) (by simp; omega) fun v' σ' ha' => ?_
              have hv' := (hv.more _).app ha'
              simp only [go_sem, simprocAttr, ↓reduceIte, h56, hv'.ok, hv'.un]
              refine ⟨hlt3, int_succ hlt3 (by rw [maxLen_eq]; omega), _, rfl, ?_⟩
              rw [hsl, hb, if_pos rfl, List.map_append]
              exact hv'
            · rw [List.take_of_length_le hge3] at hv
              exact ⟨_, rfl, hv⟩
          have ha3 : AskSt σ B3.st (σ.length + 1) σ.length all.length cv2 cls2 := by rw [hv.ext.eq]; exact ha2.more _
          obtain ⟨k1, k2, k3⟩ := depL_ok hlt c
          simp only [go_sem, simprocAttr, ↓reduceIte, h12, hv.ok, hv.un, look_id ha3.ao]
          refine CallA.goes (by simp only [go_sem, simprocAttr, ↓reduceIte]) ((cn_add B3.st σ.length all.length cv2 cls2 ha3.so ha3.bld hal (by omega) (depL all i c) k1 (by simp [depL]) (by omega) k2).weak (.cons (.refl _) (.cons hv.weak .nil))) fun r σ4 ⟨hr, hf, cv4, cls4, hso, hbl, hft, hM4, hcl4, hd4⟩ => ?_
          have ha4 := ha3.add hf hso hbl hft (by omega) hd4 k1 (by simp [depL]) (by omega)
          simp only [go_sem, simprocAttr, ↓reduceIte, h46]
          refine ⟨hlt2, int_succ hlt2 (by rw [maxLen_eq]; omega), cv4, cls4, ha4, fun M => ?_, by omega⟩
          rw [hM4, hM2, take_succ_get hc, List.map_append, setT_app, Bool.and_assoc]
          simp [setT]
        · rw [List.take_of_length_le hge2] at hM2
          exact ⟨cv2, cls2, ha2, hM2, by omega⟩
      simp only [go_sem, simprocAttr, ↓reduceIte, h34, List.length_map]
      have hil2 : (all.take i).length = i := by rw [List.length_take]; omega
      rw [← List.map_take]
      refine ⟨⟨Nat.zero_le _, hi⟩, ?_⟩
      refine LoopVC.ats [2, 7, 32, 33, 34] (.of (by kernel_rfl)) (fun A => ∃ cv cls', AskSt σ A.st (σ.length + 1) σ.length all.length cv cls' ∧ (∀ M, setT M cls' = setT M (allL all 0 (all.take (i + 1)))) ∧ cls'.length ≤ i * 60 + 24 + i) ?_ fun B5 ⟨cv5, cls5, ha5, hM5, hcl5⟩ => ?_
      · refine LoopVC.upto [2, 7, 8, 9, 32, 33, 34, 79, 80] (.of (by kernel_rfl)) i (fun k A => A.env 81 = .int .i64 k ∧ ∃ cv cls', AskSt σ A.st (σ.length + 1) σ.length all.length cv cls' ∧ (∀ M, setT M cls' = (setT M cls2 && setT M (conL p i 0 ((all.take i).take k)))) ∧ cls'.length ≤ i * 60 + 24 + k) 0 (Nat.zero_le _) ?_ fun k B6 hk ⟨h81, cv6, cls6, ha6, hM6, hcl6⟩ => ?_
        · simp only [go_sem, simprocAttr, ↓reduceIte]
          exact ⟨cv2, cls2, ha2, fun M => by simp [conL, setT], by omega⟩
        simp only [go_sem, simprocAttr, ↓reduceIte, h81, List.length_map]
        refine ⟨fun hlt6 => ⟨hlt6, ?_⟩, fun hge6 => ?_⟩
        · obtain ⟨q, hq⟩ := get_some hlt6
          simp only [atV_map hq]
          simp only [go_sem, simprocAttr, ↓reduceIte, pkgAV, h81, h34]
          refine CallP.fnG (fun _ => ix_clash p q) ?_
          have hcs := conL_succ (p := p) (i := i) (all.take i) 0 k q hq
          rw [Nat.zero_add] at hcs
          simp only [go_sem, simprocAttr, ↓reduceIte, h81, h34]
          refine ⟨fun hb => ?_, fun hb => ?_⟩
          · have ha7 := ha6.more [none]
            simp only [go_sem, simprocAttr, ↓reduceIte, h81, h34, look_id ha7.ao]
            have hki : k < i := by omega
            obtain ⟨w1, w2⟩ := conP_ok hlt hki
            have hw1 : IntKind.i64.wrap (-(((i + 1 : Nat) : Int))) = -litN i := by rw [wrap_in (by omega)]; rfl
            have hw2 : IntKind.i64.wrap (-(((k + 1 : Nat) : Int))) = -litN k := by rw [wrap_in (by omega)]; rfl
            refine ⟨.of (by kernel_rfl), CallP.fn (st_lit i hil) ?_⟩
            simp only [go_sem, simprocAttr, ↓reduceIte, h81, h34, hw1]
            refine CallP.fn (st_lit k (by omega)) ?_
            simp only [go_sem, simprocAttr, ↓reduceIte, h81, h34, hw2]
            refine CallA.goes (by simp only [go_sem, simprocAttr, ↓reduceIte]) ((cn_add (B6.st ++ [none]) σ.length all.length cv6 cls6 ha7.so ha7.bld hal (by omega) [-litN i, -litN k] w1 (by simp) (by simp) w2).weak (.cons (.refl _) (.cons (.lit _ _) .nil))) fun r σ8 ⟨hr, hf, cv8, cls8, hso, hbl, hft, hM8, hcl8, hd8⟩ => ?_
            have ha8 := ha7.add hf hso hbl hft (by omega) hd8 w1 (by simp) (by simp)
            simp only [go_sem, simprocAttr, ↓reduceIte, h81]
            refine ⟨hki, int_succ hki (by rw [maxLen_eq]; omega), cv8, cls8, ha8, fun M => ?_, by omega⟩
            rw [hM8, hM6, hcs, hb, if_pos rfl, setT_app, Bool.and_assoc]
            simp [setT]
          · refine ⟨by omega, int_succ (show k < i by omega) (by rw [maxLen_eq]; omega), cv6, cls6, ha6.more _, fun M => ?_, by omega⟩
            rw [hM6, hcs, hb]
            simp
        · rw [List.take_of_length_le hge6] at hM6
          refine ⟨cv6, cls6, ha6, fun M => ?_, by omega⟩
          rw [hM6, hM2, allL_succ all all 0 i p hpi, setT_app, pkgL, setT_app, Nat.zero_add, hD, Bool.and_assoc]
      simp only [go_sem, simprocAttr, ↓reduceIte, h34]
      exact ⟨hlt, int_succ hlt (by rw [maxLen_eq]; omega), cv5, cls5, ha5, hM5, by omega⟩
    · rw [List.take_of_length_le hge] at hM
      exact ⟨cv, cls, ha, hM⟩
  simp only [go_sem, simprocAttr, ↓reduceIte]
  refine EndR.ret ?_
  simp only [go_sem, simprocAttr, ↓reduceIte]
  exact ⟨_, .refl _, ha.ext.le, ha.ext, .inr (.inr ⟨h0, h1, _, _, cv, cls, rfl, ha, hM⟩)⟩
end Go.Proofs.Tryz
end
section
namespace Go.Proofs.Tryz
open Go Go.Av
set_option maxRecDepth 10000
set_option linter.unusedSimpArgs false
set_option linter.unusedVariables false
variable {W0 : World}

/-- Can those places hold together? -/
noncomputable def canE (all : List Pkg) (asm : List Int) : Bool := satB all.length (allL all 0 all) asm
theorem satB_congr {n : Nat} {cls cls' : List (List Int)} {asm : List Int} (h : ∀ M, setT M cls = setT M cls') : satB n cls asm = satB n cls' asm := by
  have : satA n cls asm ↔ satA n cls' asm := by unfold satA; simp only [h]
  by_cases hs : satA n cls asm
  · rw [satB_true hs, satB_true (this.1 hs)]
  · rw [satB_false hs, satB_false (fun h => hs (this.2 h))]
/-- Places that there aren't; packages that may not be. -/
def errE (all : List Pkg) (places : List Int) : Int := if mayAll all ≠ 0 then mayAll all else if (places.any fun i => decide (i < 0) || decide ((all.length : Int) ≤ i)) = true then 1 else 0

theorem AskSt.can {τ st : Store} {aid sid : Nat} {cv : AV} {cls : List (List Int)} {all : List Pkg} (h : AskSt τ st aid sid all.length cv cls) (hM : ∀ M, setT M cls = setT M (allL all 0 all)) (asm : List Int) (hl : asm.length ≤ 1000) :
    ACall prog W0 23 [.ptr 82 aid 0 [], litsAV asm] st fun r σ' => r = .bool (canE all asm) ∧ σ' = st := by
  have := st_can (W0 := W0) aid sid h.ao h.so h.bld h.ok asm hl
  rwa [satB_congr hM] at this

def pairAV (b : Bool) (e : Int) : AV := .tup [.bool b, .int .i64 e]
theorem pairAV_ids (b : Bool) (e : Int) : IdsLt 0 (pairAV b e) := by
  refine .tup fun x hx => ?_
  simp at hx
  rcases hx with rfl | rfl
  · exact .bool _
  · exact .int _ _

theorem st_installable (all : List Pkg) (hp : ∀ p ∈ all, MayN p) (h11 : all.length ≤ 11) (i : Int) :
    PureFn prog W0 17 [pkgsAV all, .int .i64 i] (pairAV (errE all [i] == 0 && canE all [litN i.toNat]) (errE all [i])) := by
  refine fn_pureZ [4, 5] [] func17 rfl rfl ntmps17 rfl rfl (pairAV_ids _ _) fun hs σ => ?_
  simp only [go_sem, simprocAttr, ↓reduceIte]
  refine CallA.goes (by simp only [go_sem, simprocAttr, ↓reduceIte]) ((st_ask σ all [i] hp h11 (by simp)).weak (.cons (.refl _) (.cons (.lit _ _) .nil))) fun r σ1 ⟨hx, hr⟩ => ?_
  rcases hr with ⟨h0, rfl⟩ | ⟨h0, h1, rfl⟩ | ⟨h0, h1, aid, sid, cv, cls, rfl, ha, hM⟩
  · have he : errE all [i] = mayAll all := by rw [errE, if_pos h0]
    have e1 : (mayAll all != 0) = true := by simp [h0]
    simp only [go_sem, simprocAttr, ↓reduceIte, e1]
    refine EndR.ret ?_
    simp only [go_sem, simprocAttr, ↓reduceIte]
    rw [he]
    have e2 : (mayAll all == 0) = false := by simp [h0]
    rw [e2]
    exact ⟨.refl _, hx⟩
  · have he : errE all [i] = 1 := by rw [errE, if_neg (by simp [h0]), if_pos h1]
    simp only [go_sem, simprocAttr, ↓reduceIte]
    refine EndR.ret ?_
    simp only [go_sem, simprocAttr, ↓reduceIte]
    rw [he]
    exact ⟨.refl _, hx⟩
  · have he : errE all [i] = 0 := by rw [errE, if_neg (by simp [h0]), if_neg (by rw [h1]; simp)]
    have hir : 0 ≤ i ∧ i < all.length := by simp at h1; omega
    obtain ⟨k, rfl⟩ := Int.eq_ofNat_of_zero_le hir.1
    simp only [go_sem, simprocAttr, ↓reduceIte]
    refine CallA.fn (st_lit k (by omega)) ?_
    simp only [go_sem, simprocAttr, ↓reduceIte]
    refine CallA.reads (by simp only [go_sem, simprocAttr, ↓reduceIte]) ((ha.can hM [litN k] (by simp)).weak (.cons (.refl _) (.cons (.lit _ _) .nil))) ?_
    simp only [go_sem, simprocAttr, ↓reduceIte]
    refine EndR.ret ?_
    simp only [go_sem, simprocAttr, ↓reduceIte]
    rw [he]
    exact ⟨.refl _, hx⟩

theorem st_needs (all : List Pkg) (hp : ∀ p ∈ all, MayN p) (h11 : all.length ≤ 11) (i j : Int) :
    PureFn prog W0 18 [pkgsAV all, .int .i64 i, .int .i64 j] (pairAV (errE all [i, j] == 0 && (canE all [litN i.toNat] && !canE all [litN i.toNat, -litN j.toNat])) (errE all [i, j])) := by
  refine fn_pureZ [6, 7] [] func18 rfl rfl ntmps18 rfl rfl (pairAV_ids _ _) fun hs σ => ?_
  simp only [go_sem, simprocAttr, ↓reduceIte]
  refine CallA.goes (by simp only [go_sem, simprocAttr, ↓reduceIte]) ((st_ask σ all [i, j] hp h11 (by simp)).weak (.cons (.refl _) (.cons (.lit _ _) .nil))) fun r σ1 ⟨hx, hr⟩ => ?_
  rcases hr with ⟨h0, rfl⟩ | ⟨h0, h1, rfl⟩ | ⟨h0, h1, aid, sid, cv, cls, rfl, ha, hM⟩
  · have he : errE all [i, j] = mayAll all := by rw [errE, if_pos h0]
    have e1 : (mayAll all != 0) = true := by simp [h0]
    simp only [go_sem, simprocAttr, ↓reduceIte, e1]
    refine EndR.ret ?_
    simp only [go_sem, simprocAttr, ↓reduceIte]
    rw [he]
    have e2 : (mayAll all == 0) = false := by simp [h0]
    rw [e2]
    exact ⟨.refl _, hx⟩
  · have he : errE all [i, j] = 1 := by rw [errE, if_neg (by simp [h0]), if_pos h1]
    simp only [go_sem, simprocAttr, ↓reduceIte]
    refine EndR.ret ?_
    simp only [go_sem, simprocAttr, ↓reduceIte]
    rw [he]
    exact ⟨.refl _, hx⟩
  · have he : errE all [i, j] = 0 := by rw [errE, if_neg (by simp [h0]), if_neg (by rw [h1]; simp)]
    have hir : (0 ≤ i ∧ i < all.length) ∧ (0 ≤ j ∧ j < all.length) := by
      simp only [List.any_cons, List.any_nil, Bool.or_false, Bool.or_eq_false_iff, decide_eq_false_iff_not] at h1
      omega
    obtain ⟨k, rfl⟩ := Int.eq_ofNat_of_zero_le hir.1.1
    obtain ⟨m, rfl⟩ := Int.eq_ofNat_of_zero_le hir.2.1
    have hwm : IntKind.i64.wrap (-(((m + 1 : Nat) : Int))) = -litN m := by rw [wrap_in (by omega)]; rfl
    simp only [go_sem, simprocAttr, ↓reduceIte]
    refine CallA.fn (st_lit k (by omega)) ?_
    simp only [go_sem, simprocAttr, ↓reduceIte]
    refine CallA.reads (by simp only [go_sem, simprocAttr, ↓reduceIte]) ((ha.can hM [litN k] (by simp)).weak (.cons (.refl _) (.cons (.lit _ _) .nil))) ?_
    simp only [go_sem, simprocAttr, ↓reduceIte]
    refine CallP.fnG (fun _ => st_lit k (by omega)) ?_
    simp only [go_sem, simprocAttr, ↓reduceIte]
    refine CallP.fnG (fun _ => st_lit m (by omega)) ?_
    simp only [go_sem, simprocAttr, ↓reduceIte, hwm]
    refine CallP.st (fun _ => (ha.can hM [litN k, -litN m] (by simp)).weak (.cons (.refl _) (.cons (.lit _ _) .nil))) ?_
    simp only [go_sem, simprocAttr, ↓reduceIte]
    refine EndR.ret ?_
    simp only [go_sem, simprocAttr, ↓reduceIte]
    rw [he]
    exact ⟨.refl _, hx⟩
theorem st_together (all : List Pkg) (hp : ∀ p ∈ all, MayN p) (h11 : all.length ≤ 11) (i j : Int) :
    PureFn prog W0 21 [pkgsAV all, .int .i64 i, .int .i64 j] (pairAV (errE all [i, j] == 0 && (canE all [litN i.toNat, litN j.toNat])) (errE all [i, j])) := by
  refine fn_pureZ [6, 7] [] func21 rfl rfl ntmps21 rfl rfl (pairAV_ids _ _) fun hs σ => ?_
  simp only [go_sem, simprocAttr, ↓reduceIte]
  refine CallA.goes (by simp only [go_sem, simprocAttr, ↓reduceIte]) ((st_ask σ all [i, j] hp h11 (by simp)).weak (.cons (.refl _) (.cons (.lit _ _) .nil))) fun r σ1 ⟨hx, hr⟩ => ?_
  rcases hr with ⟨h0, rfl⟩ | ⟨h0, h1, rfl⟩ | ⟨h0, h1, aid, sid, cv, cls, rfl, ha, hM⟩
  · have he : errE all [i, j] = mayAll all := by rw [errE, if_pos h0]
    have e1 : (mayAll all != 0) = true := by simp [h0]
    simp only [go_sem, simprocAttr, ↓reduceIte, e1]
    refine EndR.ret ?_
    simp only [go_sem, simprocAttr, ↓reduceIte]
    rw [he]
    have e2 : (mayAll all == 0) = false := by simp [h0]
    rw [e2]
    exact ⟨.refl _, hx⟩
  · have he : errE all [i, j] = 1 := by rw [errE, if_neg (by simp [h0]), if_pos h1]
    simp only [go_sem, simprocAttr, ↓reduceIte]
    refine EndR.ret ?_
    simp only [go_sem, simprocAttr, ↓reduceIte]
    rw [he]
    exact ⟨.refl _, hx⟩
  · have he : errE all [i, j] = 0 := by rw [errE, if_neg (by simp [h0]), if_neg (by rw [h1]; simp)]
    have hir : (0 ≤ i ∧ i < all.length) ∧ (0 ≤ j ∧ j < all.length) := by
      simp only [List.any_cons, List.any_nil, Bool.or_false, Bool.or_eq_false_iff, decide_eq_false_iff_not] at h1
      omega
    obtain ⟨k, rfl⟩ := Int.eq_ofNat_of_zero_le hir.1.1
    obtain ⟨m, rfl⟩ := Int.eq_ofNat_of_zero_le hir.2.1
    have hwm : IntKind.i64.wrap (-(((m + 1 : Nat) : Int))) = -litN m := by rw [wrap_in (by omega)]; rfl
    simp only [go_sem, simprocAttr, ↓reduceIte]
    refine CallA.fn (st_lit k (by omega)) ?_
    simp only [go_sem, simprocAttr, ↓reduceIte]
    refine CallA.fn (st_lit m (by omega)) ?_
    simp only [go_sem, simprocAttr, ↓reduceIte]
    refine CallA.reads (by simp only [go_sem, simprocAttr, ↓reduceIte]) ((ha.can hM [litN k, litN m] (by simp)).weak (.cons (.refl _) (.cons (.lit _ _) .nil))) ?_
    simp only [go_sem, simprocAttr, ↓reduceIte]
    refine EndR.ret ?_
    simp only [go_sem, simprocAttr, ↓reduceIte]
    rw [he]
    exact ⟨.refl _, hx⟩
end Go.Proofs.Tryz
end
section
namespace Go.Proofs.Tryz
open Go Go.Av
set_option maxRecDepth 10000
set_option linter.unusedSimpArgs false
set_option linter.unusedVariables false

theorem ofT_atom {n : Nat} {a : AV} (h : OfT prog (n + 2) 48 a) : ∃ p, a = atomAV p := by
  obtain ⟨xs, rfl, g⟩ := ofT_flds (ts := [9, 3, 9]) (by kernel_rfl) h
  obtain _ | ⟨x, _ | ⟨y, _ | ⟨z, _ | _⟩⟩⟩ := xs <;> simp only [AllT, and_false, and_true] at g
  obtain ⟨h1, h2, h3⟩ := g
  obtain ⟨s, rfl, _⟩ := ofT_str (by kernel_rfl) h1
  obtain ⟨k, rfl, _⟩ := ofT_int (k := .i64) (by kernel_rfl) h2
  obtain ⟨v, rfl, _⟩ := ofT_str (by kernel_rfl) h3
  exact ⟨⟨s, k, v⟩, rfl⟩
theorem ofT_prov {n : Nat} {a : AV} (h : OfT prog (n + 2) 105 a) : ∃ p, a = provAV p := by
  obtain ⟨xs, rfl, g⟩ := ofT_flds (ts := [9, 9]) (by kernel_rfl) h
  obtain _ | ⟨x, _ | ⟨y, _ | _⟩⟩ := xs <;> simp only [AllT, and_false, and_true] at g
  obtain ⟨h1, h2⟩ := g
  obtain ⟨s, rfl, _⟩ := ofT_str (by kernel_rfl) h1
  obtain ⟨v, rfl, _⟩ := ofT_str (by kernel_rfl) h2
  exact ⟨⟨s, v⟩, rfl⟩
/-- Lists that lie in memory. -/
structure PkgR (p : Pkg) : Prop where
  name : p.name.length ≤ reachBytes
  ver : p.ver.length ≤ reachBytes
  pre : p.pre.length ≤ reachBytes
  dep : p.dep.length ≤ reachBytes
  rcm : p.rcm.length ≤ reachBytes
  con : p.con.length ≤ reachBytes
  brk : p.brk.length ≤ reachBytes
  prov : p.prov.length ≤ reachBytes
theorem ofT_atoms {n : Nat} {a : AV} (h : OfT prog (n + 3) 35 a) : ∃ p, a = atomsAV p ∧ p.length ≤ reachBytes := by
  obtain ⟨ps, rfl, hl⟩ := ofT_map (f := atomAV) (e := 48) (by kernel_rfl) (fun x => ofT_atom) h
  exact ⟨ps, rfl, hl⟩
theorem ofT_clause {n : Nat} {a : AV} (h : OfT prog (n + 3) 49 a) : ∃ p, a = atomsAV p := by
  obtain ⟨ps, rfl, _⟩ := ofT_map (f := atomAV) (e := 48) (by kernel_rfl) (fun x => ofT_atom) h
  exact ⟨ps, rfl⟩
theorem ofT_clauses {n : Nat} {a : AV} (h : OfT prog (n + 4) 34 a) : ∃ p, a = clausesAV p ∧ p.length ≤ reachBytes := by
  obtain ⟨ps, rfl, hl⟩ := ofT_map (f := atomsAV) (e := 49) (by kernel_rfl) (fun x => ofT_clause) h
  exact ⟨ps, rfl, hl⟩
theorem ofT_provs {n : Nat} {a : AV} (h : OfT prog (n + 3) 36 a) : ∃ p, a = provsAV p ∧ p.length ≤ reachBytes := by
  obtain ⟨ps, rfl, hl⟩ := ofT_map (f := provAV) (e := 105) (by kernel_rfl) (fun x => ofT_prov) h
  exact ⟨ps, rfl, hl⟩
theorem ofT_pkg {n : Nat} {a : AV} (h : OfT prog (n + 5) 38 a) : ∃ p, a = pkgAV p ∧ PkgR p := by
  obtain ⟨xs, rfl, g⟩ := ofT_flds (ts := [9, 9, 34, 34, 34, 35, 35, 36, 4]) (by kernel_rfl) h
  obtain _ | ⟨x1, _ | ⟨x2, _ | ⟨x3, _ | ⟨x4, _ | ⟨x5, _ | ⟨x6, _ | ⟨x7, _ | ⟨x8, _ | ⟨x9, _ | _⟩⟩⟩⟩⟩⟩⟩⟩⟩ := xs <;> simp only [AllT, and_false, and_true] at g
  obtain ⟨h1, h2, h3, h4, h5, h6, h7, h8, h9⟩ := g
  obtain ⟨y1, rfl, l1⟩ := ofT_str (by kernel_rfl) h1
  obtain ⟨y2, rfl, l2⟩ := ofT_str (by kernel_rfl) h2
  obtain ⟨y3, rfl, l3⟩ := ofT_clauses (n := n) h3
  obtain ⟨y4, rfl, l4⟩ := ofT_clauses (n := n) h4
  obtain ⟨y5, rfl, l5⟩ := ofT_clauses (n := n) h5
  obtain ⟨y6, rfl, l6⟩ := ofT_atoms (n := n + 1) h6
  obtain ⟨y7, rfl, l7⟩ := ofT_atoms (n := n + 1) h7
  obtain ⟨y8, rfl, l8⟩ := ofT_provs (n := n + 1) h8
  obtain ⟨y9, rfl⟩ := ofT_bool (by kernel_rfl) h9
  exact ⟨⟨y1, y2, y3, y4, y5, y6, y7, y8, y9⟩, rfl, ⟨l1, l2, l3, l4, l5, l6, l7, l8⟩⟩
theorem ofT_pkgs {n : Nat} {a : AV} (h : OfT prog (n + 6) 22 a) : ∃ l, a = pkgsAV l ∧ l.length ≤ reachBytes ∧ ∀ p ∈ l, PkgR p := by
  obtain ⟨xs, rfl, hl, hx⟩ := ofT_sl (e := 38) (by kernel_rfl) h
  obtain ⟨ps, rfl⟩ := all_map (f := fun q : { p : Pkg // PkgR p } => pkgAV q.1) fun x hm => by
    obtain ⟨p, rfl, h1⟩ := ofT_pkg (hx x hm)
    exact ⟨⟨p, h1⟩, rfl⟩
  refine ⟨ps.map (·.1), by rw [pkgsAV, List.map_map]; rfl, by simpa using hl, fun p hp => ?_⟩
  obtain ⟨q, _, rfl⟩ := List.mem_map.1 hp
  exact q.2
end Go.Proofs.Tryz
end
section
namespace Go.Av

/-- A row that a call has made, the whole of it, or none yet. -/
structure OutR (σ st : Store) (v : AV) (e : TypeId) (xs : List AV) : Prop where
  row : (v = .nils ∧ xs = []) ∨ ∃ id, v = .row e id 0 xs.length ∧ st[id]? = some (some (.cells e xs)) ∧ σ.length ≤ id
  ext : Ext σ st

theorem OutR.nil {σ st : Store} (h : Ext σ st) (e : TypeId) : OutR σ st .nils e [] := ⟨.inl ⟨rfl, rfl⟩, h⟩
theorem OutR.st {σ st : Store} {v : AV} {e : TypeId} {xs : List AV} (h : OutR σ st v e xs) : RowSt st v e xs := by
  rcases h.row with h | ⟨id, rfl, h1, _⟩
  · exact .inl h
  · exact .inr (.inr ⟨id, 0, _, xs, rfl, h1, by simp, by simp⟩)
theorem OutR.more {σ st : Store} {v : AV} {e : TypeId} {xs : List AV} (h : OutR σ st v e xs) (l : Store) : OutR σ (st ++ l) v e xs := by
  refine ⟨?_, h.ext.app l⟩
  rcases h.row with h1 | ⟨id, h1, h2, h3⟩
  · exact .inl h1
  · exact .inr ⟨id, h1, by rw [List.getElem?_append_left ((List.getElem?_eq_some_iff.1 h2).1)]; exact h2, h3⟩
theorem AppA.out {P : Program} {A : AState} {σ : Store} {t u e : TypeId} {x y : AV} {xs ys : List AV} {dst : Option Nat} {k : AState → Prop} (N : Nat) (ho : appB P t u e N = true) (h : OutR σ A.st x e xs) (hy : ReadL A.st y e ys) (hN : xs.length + ys.length ≤ N)
    (hk : ∀ v st', OutR σ st' v e (xs ++ ys) → k ((A.put dst v).withSt st')) : AppA P [t, u] [x, y] dst A k .mk := by
  have hkl : (killOf x A.st).length = A.st.length := by unfold killOf; split <;> simp
  refine AppA.row N ho h.st hy hN (fun he => hk _ _ (by rw [he, List.append_nil]; exact h)) fun he => hk _ _ ⟨.inr ⟨A.st.length, by simp, ?_, h.ext.le⟩, ?_⟩
  · rw [← hkl, List.getElem?_append_right (Nat.le_refl _), Nat.sub_self]
    rfl
  · refine Ext.app ?_ _
    rcases h.row with ⟨rfl, _⟩ | ⟨id, rfl, _, h3⟩
    · exact h.ext
    · exact h.ext.set h3 _
theorem OutR.endr {A : AState} {σ : Store} {v : AV} {e : TypeId} {xs : List AV} {d : Nat} {x : Exit} {R : AState → Prop} (h : OutR σ A.st v e xs) (hd : A.env d = v)
    (h0 : v = .nils → xs = [] → EndR R x A) (h1 : ∀ id, EndR R x ((A.upd d (.sl e xs)).withSt (A.st.set id none)) ∨ ¬ (σ.length ≤ id ∧ A.env d = .row e id 0 xs.length)) : EndR R x A := by
  rcases h.row with ⟨h2, h3⟩ | ⟨id, h2, h3, h4⟩
  · exact h0 h2 h3
  · rcases h1 id with h5 | h5
    · exact EndR.frz d (by rw [hd, h2]) h3 (by simp) (by simpa using h5)
    · exact absurd ⟨h4, by rw [hd, h2]⟩ h5

/-- One field of one row is appended to. -/
theorem OutR.fld {σ1 st σ' : Store} {oid : Nat} {T e : TypeId} {ls ls' xs ws zs : List AV} {v x x' w : AV} (hl : ls'.length = ls.length) (hv : v = .row T oid 0 ls.length) (ho : OutR σ1 st v T ls) (ho1 : st[oid]? = some (some (.cells T ls))) (holo : σ1.length ≤ oid) (bx : Bld st x e xs) (bw : Bld st w e ws)
    (dj : ∀ t ∈ foot x, t ∉ foot w) (lo : ∀ t ∈ foot x ++ foot w, σ1.length ≤ t) (ha : App st x e zs x' σ') :
    σ'[oid]? = some (some (.cells T ls)) ∧ OutR σ1 (σ'.set oid (some (.cells T ls'))) v T ls' ∧ Bld (σ'.set oid (some (.cells T ls'))) x' e zs ∧ Bld (σ'.set oid (some (.cells T ls'))) w e ws ∧ (∀ t ∈ foot x', t ∉ foot w) ∧ ∀ t ∈ foot x' ++ foot w, σ1.length ≤ t := by
  have hf := ha.fr
  have h1 : σ'[oid]? = some (some (.cells T ls)) := by rw [hf.old oid (List.getElem?_eq_some_iff.1 ho1).1 (bx.ne ho1 (by simp)), ho1]
  have hlen := (List.getElem?_eq_some_iff.1 h1).1
  have hx := ho.ext.le
  refine ⟨h1, ⟨.inr ⟨oid, by rw [hl]; exact hv, by simp [hlen], holo⟩, (hf.toExt ho.ext fun j hj => lo j (by simp [hj])).set holo _⟩, ha.bld.keep fun j hj => List.getElem?_set_ne fun e1 => ?_, bw.keep fun j hj => ?_, fun t ht hw => ?_, fun t ht => ?_⟩
  · exact ha.bld.ne h1 (by simp) (by rw [e1]; exact hj)
  · rw [List.getElem?_set_ne (fun e1 : oid = j => bw.ne ho1 (by simp) (by rw [e1]; exact hj)), hf.old j (bw.lt j hj) (fun e1 => dj j e1 hj)]
  · rcases ha.foot bx t ht with h2 | h2
    · exact dj t h2 hw
    · have := bw.lt t hw; omega
  · rcases List.mem_append.1 ht with h2 | h2
    · rcases ha.foot bx t h2 with h3 | h3
      · exact lo t (by simp [h3])
      · omega
    · exact lo t (by simp [h2])
end Go.Av
end
section
namespace Go.Proofs.Tryz
open Go Go.Av
set_option maxRecDepth 10000
set_option linter.unusedSimpArgs false
set_option linter.unusedVariables false
variable {W0 : World}

/-- What a report tells of one package. -/
structure Rep where
  name : List UInt8
  ver : List UInt8
  can : Bool
  needs : List Nat
  never : List Nat

def nlAV (l : List Nat) : AV := .sl 3 (l.map fun k => .int .i64 (k : Nat))
def repAV (r : Rep) : AV := .agg 32 [.str r.name, .str r.ver, .bool r.can, nlAV r.needs, nlAV r.never]

noncomputable def needsE (all : List Pkg) (i : Nat) (j : Nat) : Bool := i != j && canE all [litN i] && !canE all [litN i, -litN j]
noncomputable def neverE (all : List Pkg) (i : Nat) (j : Nat) : Bool := i != j && canE all [litN i] && canE all [litN j] && !canE all [litN i, litN j]
noncomputable def repE (all : List Pkg) (i : Nat) (p : Pkg) : Rep := ⟨p.name, p.ver, canE all [litN i], (List.range all.length).filter (needsE all i), (List.range all.length).filter (neverE all i)⟩
noncomputable def reportE (all : List Pkg) : List Rep := all.mapIdx (repE all)

def repsAV (l : List Rep) : AV := .sl 32 (l.map repAV)

theorem rep_ids (r : Rep) : IdsLt 0 (repAV r) := .agg fun x hx => by
  simp at hx
  rcases hx with rfl | rfl | rfl | rfl | rfl
  · exact .str _
  · exact .str _
  · exact .bool _
  · exact ids_map (fun _ => .int _ _) _
  · exact ids_map (fun _ => .int _ _) _

/-- One row of a report, under way. -/
noncomputable def rowE (all : List Pkg) (i : Nat) (x y : AV) : AV := .agg 32 [.str ((all[i]?.map (·.name)).getD []), .str ((all[i]?.map (·.ver)).getD []), .bool (canE all [litN i]), x, y]

theorem rowE_2 (all : List Pkg) (i : Nat) (x y : AV) : (rowE all i x y).at [2] = some (.bool (canE all [litN i])) := rfl
theorem rowE_3 (all : List Pkg) (i : Nat) (x y : AV) : (rowE all i x y).at [3] = some x := by rw [rowE, at_cons]; exact at_nil x
theorem rowE_4 (all : List Pkg) (i : Nat) (x y : AV) : (rowE all i x y).at [4] = some y := by rw [rowE, at_cons]; exact at_nil y
theorem rowE_s3 (all : List Pkg) (i : Nat) (x y z : AV) : (rowE all i x y).setAt [3] z = rowE all i z y := by rw [rowE, setAt_cons]; simp [setAt_nil]; rfl
theorem rowE_s4 (all : List Pkg) (i : Nat) (x y z : AV) : (rowE all i x y).setAt [4] z = rowE all i x z := by rw [rowE, setAt_cons]; simp [setAt_nil]; rfl

theorem set_range {α : Type} (g : Nat → α) (n i : Nat) (z : α) : ((List.range n).map g).set i z = (List.range n).map fun k => if k = i then z else g k := by
  refine List.ext_getElem? fun k => ?_
  rw [List.getElem?_set]
  simp only [List.getElem?_map, List.length_map, List.length_range]
  by_cases hk : k < n
  · rw [List.getElem?_range hk]
    by_cases e : i = k
    · subst e; simp [hk]
    · rw [if_neg e, Option.map_some, Option.map_some, if_neg (fun h => e h.symm)]
  · rw [List.getElem?_eq_none (show (List.range n).length ≤ k by simp; omega)]
    simp; omega

theorem st_report (all : List Pkg) (hp : ∀ p ∈ all, MayN p) (h11 : all.length ≤ 11) :
    PureFn prog W0 10 [pkgsAV all] (.tup [if mayAll all = 0 then repsAV (reportE all) else .nils, .int .i64 (mayAll all)]) := by
  refine fn_pureZ [2, 3] [8, 2000038, 2000006, 3000035] func10 rfl rfl ntmps10 rfl rfl (.tup fun x hx => by
    simp at hx
    rcases hx with rfl | rfl
    · split
      · exact ids_map rep_ids _
      · exact .nils
    · exact .int _ _) fun hs σ => ?_
  simp only [go_sem, simprocAttr, ↓reduceIte]
  refine CallA.goes (by simp only [go_sem, simprocAttr, ↓reduceIte]) ((st_ask σ all [] hp h11 (by simp)).weak (.cons (.refl _) (.cons (.nils _) .nil))) fun r σ1 ⟨hx, hr⟩ => ?_
  rcases hr with ⟨h0, rfl⟩ | ⟨h0, h1, rfl⟩ | ⟨h0, h1, aid, sid, cv, cls, rfl, ha, hM⟩
  · have e1 : (mayAll all != 0) = true := by simp [h0]
    simp only [go_sem, simprocAttr, ↓reduceIte, e1]
    refine EndR.ret ?_
    simp only [go_sem, simprocAttr, ↓reduceIte]
    rw [if_neg h0]
    exact ⟨.refl _, hx⟩
  · simp at h1
  · rw [if_pos h0, h0]
    simp only [go_sem, simprocAttr, ↓reduceIte, pkgsAV, List.length_map]
    refine LoopVC.at [4] (.of (by kernel_rfl)) (fun A => ∃ v, A.env 6 = v ∧ OutR σ1 A.st v 32 ((List.range all.length).map fun k => rowE all k .nils .nils)) ?_ fun B ⟨v, h6, hv⟩ => ?_
    · refine LoopVC.upto [4, 19, 20] (.of (by kernel_rfl)) all.length (fun i A => A.env 21 = .int .i64 i ∧ ∃ v, A.env 6 = v ∧ OutR σ1 A.st v 32 ((List.range i).map fun k => rowE all k .nils .nils)) 0 (Nat.zero_le _) ?_ fun i B hi ⟨h21, v, h6, hv⟩ => ?_
      · simp only [go_sem, simprocAttr, ↓reduceIte]
        exact ⟨_, rfl, OutR.nil (.refl _) _⟩
      simp only [go_sem, simprocAttr, ↓reduceIte, h21, h6, List.length_map, hv.st.ok, hv.st.un]
      refine ⟨fun hlt => ⟨hlt, ?_⟩, fun hge => ?_⟩
      · obtain ⟨p, hpi⟩ := get_some hlt
        have hv2 := hv.more [none]
        have ha2 : AskSt σ (B.st ++ [none]) aid sid all.length cv cls := by rw [hv2.ext.eq]; exact ha.more _
        simp only [atV_map hpi]
        simp only [go_sem, simprocAttr, ↓reduceIte, pkgAV, h21, h6, hv.st.ok, hv.st.un]
        refine ⟨.of (by kernel_rfl), CallP.fn (st_lit i (by omega)) ?_⟩
        simp only [go_sem, simprocAttr, ↓reduceIte, h21, h6, hv.st.ok, hv.st.un]
        refine CallP.st ((ha2.can hM [litN i] (by simp)).weak (.cons (.refl _) (.cons (.lit _ _) .nil))) ?_
        simp only [go_sem, simprocAttr, ↓reduceIte, h21, h6, hv.st.ok, hv.st.un]
        have er : rowE all i .nils .nils = .agg 32 [.str p.name, .str p.ver, .bool (canE all [litN i]), .nils, .nils] := by rw [rowE, hpi]; rfl
        refine AppA.out 1048576 (by kernel_rfl) hv2 (.lit _ _ _) (by simp; omega) fun v' st' hv' => ?_
        simp only [go_sem, simprocAttr, ↓reduceIte, h21, hv'.st.ok, hv'.st.un]
        refine ⟨hlt, int_succ hlt (by rw [maxLen_eq]; omega), _, rfl, ?_⟩
        rw [List.map_append, List.map_cons, List.map_nil, er]
        exact hv'
      · have : i = all.length := by omega
        subst this
        exact ⟨_, rfl, hv⟩
    simp only [go_sem, simprocAttr, ↓reduceIte, h6, hv.st.ok, hv.st.un, hv.st.len, hv.st.lenC, List.length_map, List.length_range]
    have ha3 : AskSt σ B.st aid sid all.length cv cls := by rw [hv.ext.eq]; exact ha.more _
    have hal : all.length ≤ 1048576 := by omega
    have ha3 : ∀ st, Ext σ1 st → AskSt σ st aid sid all.length cv cls := fun st he => by rw [he.eq]; exact ha.more _
    refine LoopVC.at [6] (.of (by kernel_rfl)) (fun A => ∃ X Y : Nat → AV, OutR σ1 A.st v 32 ((List.range all.length).map fun k => rowE all k (X k) (Y k)) ∧ ∀ k, k < all.length → Sub (X k) (nlAV ((List.range all.length).filter (needsE all k))) ∧ Sub (Y k) (nlAV ((List.range all.length).filter (neverE all k)))) ?_ fun B2 ⟨X, Y, ho, hXY⟩ => ?_
    · refine LoopVC.upto [4, 6, 41] (.of (by kernel_rfl)) all.length (fun i A => A.env 42 = .int .i64 i ∧ ∃ X Y : Nat → AV, OutR σ1 A.st v 32 ((List.range all.length).map fun k => rowE all k (X k) (Y k)) ∧ (∀ k, k < i → Sub (X k) (nlAV ((List.range all.length).filter (needsE all k))) ∧ Sub (Y k) (nlAV ((List.range all.length).filter (neverE all k)))) ∧ ∀ k, i ≤ k → X k = .nils ∧ Y k = .nils) 0 (Nat.zero_le _) ?_ fun i B2 hi ⟨h42, X, Y, ho, hXY, hn⟩ => ?_
      · simp only [go_sem, simprocAttr, ↓reduceIte]
        refine ⟨fun _ => .nils, fun _ => .nils, hv, ?_⟩
        first | exact fun k _ => ⟨rfl, rfl⟩ | exact ⟨fun k h => by omega, fun k _ => ⟨rfl, rfl⟩⟩
      simp only [go_sem, simprocAttr, ↓reduceIte, h42, h6, ho.st.ok, ho.st.un, ho.st.len, ho.st.lenC, List.length_map, List.length_range]
      refine ⟨fun hlt => ?_, fun hge => ⟨X, Y, ho, fun k hk => hXY k (by omega)⟩⟩
      refine LoopVC.ats [4, 6, 41, 42] (.of (by kernel_rfl)) (fun A => ∃ X Y : Nat → AV, OutR σ1 A.st v 32 ((List.range all.length).map fun k => rowE all k (X k) (Y k)) ∧ (∀ k, k < i + 1 → Sub (X k) (nlAV ((List.range all.length).filter (needsE all k))) ∧ Sub (Y k) (nlAV ((List.range all.length).filter (neverE all k)))) ∧ ∀ k, i + 1 ≤ k → X k = .nils ∧ Y k = .nils) ?_ fun B3 ⟨X, Y, ho, hXY, hn⟩ => ?_
      · refine LoopVC.upto [4, 6, 9, 41, 42, 46] (.of (by kernel_rfl)) all.length (fun j A => A.env 47 = .int .i64 j ∧ ∃ X Y : Nat → AV, OutR σ1 A.st v 32 ((List.range all.length).map fun k => rowE all k (X k) (Y k)) ∧ (∀ k, k < i → Sub (X k) (nlAV ((List.range all.length).filter (needsE all k))) ∧ Sub (Y k) (nlAV ((List.range all.length).filter (neverE all k)))) ∧ (∀ k, i + 1 ≤ k → X k = .nils ∧ Y k = .nils) ∧
            Bld A.st (X i) 3 (((List.range j).filter (needsE all i)).map fun k => .int .i64 (k : Nat)) ∧ Bld A.st (Y i) 3 (((List.range j).filter (neverE all i)).map fun k => .int .i64 (k : Nat)) ∧ (∀ t ∈ foot (X i), t ∉ foot (Y i)) ∧ ∀ t ∈ foot (X i) ++ foot (Y i), σ1.length ≤ t) 0 (Nat.zero_le _) ?_ fun j B3 hj ⟨h47, X, Y, ho, hXY, hn, bx, by_, hxy, hlo⟩ => ?_
        · simp only [go_sem, simprocAttr, ↓reduceIte]
          refine ⟨X, Y, ho, hXY, fun k hk => hn k (by omega), .inl ⟨(hn i (Nat.le_refl _)).1, rfl⟩, .inl ⟨(hn i (Nat.le_refl _)).2, rfl⟩, by rw [(hn i (Nat.le_refl _)).1]; simp [foot], by rw [(hn i (Nat.le_refl _)).1, (hn i (Nat.le_refl _)).2]; simp [foot]⟩
        obtain ⟨oid, hvr, ho1, holo⟩ : ∃ id, v = .row 32 id 0 all.length ∧ B3.st[id]? = some (some (.cells 32 ((List.range all.length).map fun k => rowE all k (X k) (Y k)))) ∧ σ1.length ≤ id := by
          rcases ho.row with ⟨_, h⟩ | ⟨id, h, h2, h3⟩
          · rw [List.map_eq_nil_iff, List.range_eq_nil] at h; omega
          · exact ⟨id, by simpa using h, h2, h3⟩
        have hxi : ((List.range all.length).map fun k => rowE all k (X k) (Y k))[i]? = some (rowE all i (X i) (Y i)) := by
          rw [List.getElem?_map, List.getElem?_range hlt]; rfl
        have hasker := ha3 _ ho.ext
        simp only [go_sem, simprocAttr, ↓reduceIte, h47]
        refine ⟨fun hlt2 => ?_, fun hge2 => ?_⟩
        · have hij : ((i : Int) == (j : Int)) = (i == j) := by rw [Bool.eq_iff_iff]; simp; omega
          simp only [go_sem, simprocAttr, ↓reduceIte, h47, h6, hvr, look_id ho1, live_id ho1, Nat.zero_add, hxi, rowE_2, Option.bind_some, Option.isSome_some, Option.getD_some, hij]
          have fsucc : ∀ q : Nat → Bool, (List.range j ++ [j]).filter q = (List.range j).filter q ++ (if q j = true then [j] else []) := fun q => by rw [List.filter_append]; simp [List.filter_cons]
          refine ⟨fun _ => hlt, fun hq => ?_, fun hq => ?_⟩
          · have q1 : needsE all i j = false := by
              unfold needsE
              cases h1 : (i == j) <;> cases h2 : canE all [litN i] <;> simp_all
            have q2 : neverE all i j = false := by
              unfold neverE
              cases h1 : (i == j) <;> cases h2 : canE all [litN i] <;> simp_all
            refine ⟨hlt2, int_succ hlt2 (by rw [maxLen_eq]; omega), X, Y, by rw [← hvr]; exact ho, hXY, hn, ?_, ?_, hxy, hlo⟩
            · rw [fsucc, q1, if_neg (by simp), List.append_nil]; exact bx
            · rw [fsucc, q2, if_neg (by simp), List.append_nil]; exact by_
          have hne : (i == j) = false ∧ canE all [litN i] = true := by
            cases h1 : (i == j) <;> cases h2 : canE all [litN i] <;> simp_all
          have hwj : IntKind.i64.wrap (-(((j + 1 : Nat) : Int))) = -litN j := by rw [wrap_in (by omega)]; rfl
          refine CallA.fn (st_lit i (by omega)) ?_
          simp only [go_sem, simprocAttr, ↓reduceIte, h47]
          refine CallA.fn (st_lit j (by omega)) ?_
          simp only [go_sem, simprocAttr, ↓reduceIte, h47, hwj]
          refine CallA.reads (by simp only [go_sem, simprocAttr, ↓reduceIte]) ((hasker.can hM [litN i, -litN j] (by simp)).weak (.cons (.refl _) (.cons (.lit _ _) .nil))) ?_
          simp only [go_sem, simprocAttr, ↓reduceIte, h47]
          refine JoinVC.at [4, 6, 9, 10, 41, 42, 46, 47] (by kernel_rfl) (fun A => ∃ X' : Nat → AV, OutR σ1 A.st v 32 ((List.range all.length).map fun k => rowE all k (X' k) (Y k)) ∧ (∀ k, k ≠ i → X' k = X k) ∧ Bld A.st (X' i) 3 (((List.range (j + 1)).filter (needsE all i)).map fun k => .int .i64 (k : Nat)) ∧ Bld A.st (Y i) 3 (((List.range j).filter (neverE all i)).map fun k => .int .i64 (k : Nat)) ∧ (∀ t ∈ foot (X' i), t ∉ foot (Y i)) ∧ ∀ t ∈ foot (X' i) ++ foot (Y i), σ1.length ≤ t) (fun hc => ?_) (fun hc => ?_) fun B4 ⟨X', ho4, hX', bx4, by4, hxy4, hlo4⟩ => ?_
          · have q1 : needsE all i j = true := by
              simp only [Bool.not_eq_true'] at hc
              unfold needsE
              rw [hne.2, hc]
              have := hne.1
              simp only [beq_eq_false_iff_ne] at this
              simp [this]
            simp only [go_sem, simprocAttr, ↓reduceIte, h47, h6, hvr, look_id ho1, live_id ho1, Nat.zero_add, hxi, rowE_3, Option.bind_some, Option.isSome_some, Option.getD_some, bx.ok, bx.un]
            refine ⟨hlt, AppA.ownS (σ := B3.st) (by simp only [go_sem, simprocAttr, ↓reduceIte]) 1048576 (by kernel_rfl) bx (.lit _ _ _) (by have := List.length_filter_le (needsE all i) (List.range j); simp at this ⊢; omega) fun x' σ' hap => ?_⟩
            have hx' : ∀ z : AV, ((List.range all.length).map fun k => rowE all k (X k) (Y k)).set i (rowE all i z (Y i)) = (List.range all.length).map fun k => rowE all k (if k = i then z else X k) (Y k) := fun z => by
              rw [set_range]
              refine List.map_congr_left fun k _ => ?_
              by_cases e : k = i
              · subst e; simp
              · simp [e]
            obtain ⟨p1, p2, p3, p4, p5, p6⟩ := OutR.fld (ls' := (List.range all.length).map fun k => rowE all k (if k = i then x' else X k) (Y k)) (by simp) (by simpa using hvr) ho ho1 holo bx by_ hxy hlo hap
            have hbx' := hap.bld
            have hpl := (List.getElem?_eq_some_iff.1 p1).1
            simp only [go_sem, simprocAttr, ↓reduceIte, h47, h6, hvr, look_id p1, live_id p1, setLook_id p1, Nat.zero_add, hxi, rowE_3, rowE_s3, hx', Option.bind_some, Option.isSome_some, Option.getD_some, hbx'.ok, hbx'.un, hbx'.fits]
            refine ⟨hlt, fun k => if k = i then x' else X k, by rw [← hvr]; exact p2, fun k hk => if_neg hk, ?_, p4, ?_, ?_⟩
            · rw [fsucc, q1, if_pos rfl, List.map_append]; simp only [if_true]; exact p3
            · simp only [if_true]; exact p5
            · simp only [if_true]; exact p6
          · have q1 : needsE all i j = false := by
              simp only [Bool.not_eq_false'] at hc
              unfold needsE
              rw [hc]; simp
            simp only [go_sem, simprocAttr, ↓reduceIte]
            refine ⟨X, ho, fun _ _ => rfl, ?_, by_, hxy, hlo⟩
            rw [fsucc, q1, if_neg (by simp), List.append_nil]
            exact bx
          have hvr4 : B4.st[oid]? = some (some (.cells 32 ((List.range all.length).map fun k => rowE all k (X' k) (Y k)))) := by
            rcases ho4.row with ⟨h, _⟩ | ⟨id, h, h2, h3⟩
            · rw [hvr] at h; cases h
            · rw [hvr] at h; simp only [AV.row.injEq] at h; rw [h.2.1]; exact h2
          have hxj4 : ∀ k, k < all.length → ((List.range all.length).map fun k => rowE all k (X' k) (Y k))[k]? = some (rowE all k (X' k) (Y k)) := fun k hk => by
            rw [List.getElem?_map, List.getElem?_range hk]; rfl
          have hasker4 := ha3 _ ho4.ext
          rw [List.range_succ] at bx4
          simp only [go_sem, simprocAttr, ↓reduceIte, h47, h6, hvr, look_id hvr4, live_id hvr4, Nat.zero_add, hxj4 j hlt2, rowE_2, Option.bind_some, Option.isSome_some, Option.getD_some]
          refine ⟨hlt2, CallP.fnG (fun _ => st_lit i (by omega)) ?_⟩
          simp only [go_sem, simprocAttr, ↓reduceIte, h47]
          refine CallP.fnG (fun _ => st_lit j (by omega)) ?_
          simp only [go_sem, simprocAttr, ↓reduceIte, h47]
          refine CallP.st (fun _ => (hasker4.can hM [litN i, litN j] (by simp)).weak (.cons (.refl _) (.cons (.lit _ _) .nil))) ?_
          simp only [go_sem, simprocAttr, ↓reduceIte, h47]
          refine ⟨fun hc => ?_, fun hc => ?_⟩
          · have q2 : neverE all i j = true := by
              simp only [Bool.and_eq_true, Bool.not_eq_true'] at hc
              unfold neverE
              rw [hne.2, hc.1, hc.2]
              have := hne.1
              simp only [beq_eq_false_iff_ne] at this
              simp [this]
            simp only [go_sem, simprocAttr, ↓reduceIte, h47, h6, hvr, look_id hvr4, live_id hvr4, Nat.zero_add, hxj4 i hlt, rowE_4, Option.bind_some, Option.isSome_some, Option.getD_some, by4.ok, by4.un]
            refine ⟨hlt, AppA.ownS (σ := B4.st) (by simp only [go_sem, simprocAttr, ↓reduceIte]) 1048576 (by kernel_rfl) by4 (.lit _ _ _) (by have := List.length_filter_le (neverE all i) (List.range j); simp at this ⊢; omega) fun y' σ' hap => ?_⟩
            have hy' : ∀ z : AV, ((List.range all.length).map fun k => rowE all k (X' k) (Y k)).set i (rowE all i (X' i) z) = (List.range all.length).map fun k => rowE all k (X' k) (if k = i then z else Y k) := fun z => by
              rw [set_range]
              refine List.map_congr_left fun k _ => ?_
              by_cases e : k = i
              · subst e; simp
              · simp [e]
            obtain ⟨p1, p2, p3, p4, p5, p6⟩ := OutR.fld (ls' := (List.range all.length).map fun k => rowE all k (X' k) (if k = i then y' else Y k)) (by simp) (by simpa using hvr) ho4 hvr4 holo by4 bx4 (fun t ht hx => hxy4 t hx ht) (fun t ht => hlo4 t (by rw [List.mem_append] at ht ⊢; exact ht.symm)) hap
            have hby' := hap.bld
            simp only [go_sem, simprocAttr, ↓reduceIte, h47, h6, hvr, look_id p1, live_id p1, setLook_id p1, Nat.zero_add, hxj4 i hlt, rowE_4, rowE_s4, hy', Option.bind_some, Option.isSome_some, Option.getD_some, hby'.ok, hby'.un, hby'.fits]
            refine ⟨hlt, hlt2, int_succ hlt2 (by rw [maxLen_eq]; omega), X', fun k => if k = i then y' else Y k, by rw [← hvr]; exact p2, fun k hk => ?_, fun k hk => ?_, ?_, ?_, ?_, ?_⟩
            · have hki : k ≠ i := by omega
              rw [hX' k hki]; simp only [hki, if_false]; exact hXY k hk
            · have hki : k ≠ i := by omega
              rw [hX' k hki]; simp only [hki, if_false]; exact hn k hk
            · exact p4
            · rw [fsucc, q2, if_pos rfl, List.map_append]; simp only [if_true]; exact p3
            · simp only [if_true]; exact fun t ht hy => p5 t hy ht
            · simp only [if_true]; exact fun t ht => p6 t (by rw [List.mem_append] at ht ⊢; exact ht.symm)
          · have q2 : neverE all i j = false := by
              unfold neverE
              rw [hne.2]
              simp only [Bool.and_eq_false_iff, Bool.not_eq_false'] at hc
              rcases hc with hc | hc <;> rw [hc] <;> simp
            refine ⟨hlt2, int_succ hlt2 (by rw [maxLen_eq]; omega), X', Y, ?_, fun k hk => by rw [hX' k (by omega)]; exact hXY k hk, fun k hk => by rw [hX' k (by omega)]; exact hn k hk, bx4, ?_, hxy4, hlo4⟩
            · first | exact ho4 | (rw [← hvr]; exact ho4)
            · rw [fsucc, q2, if_neg (by simp), List.append_nil]; exact by4
        · have : j = all.length := by omega
          subst this
          refine ⟨X, Y, ho, fun k hk => ?_, hn⟩
          rcases Nat.lt_succ_iff_lt_or_eq.1 hk with hk | rfl
          · exact hXY k hk
          · have key : ∀ {st : Store} {v : AV} {e : TypeId} {xs : List AV}, Bld st v e xs → Sub v (.sl e xs) := fun h => by
              rcases h with ⟨rfl, rfl⟩ | rfl | ⟨t, rfl, _⟩
              · exact .nils _
              · exact .lit _ _
              · exact .own _ _ _
            exact ⟨key bx, key by_⟩
      simp only [go_sem, simprocAttr, ↓reduceIte, h42]
      exact ⟨hlt, int_succ hlt (by rw [maxLen_eq]; omega), X, Y, ho, hXY, hn⟩
    simp only [go_sem, simprocAttr, ↓reduceIte, h6, ho.st.ok, ho.st.un]
    have hrep : ∀ k p, all[k]? = some p → Sub (rowE all k (X k) (Y k)) (repAV (repE all k p)) := fun k p hk => by
      have hkl := (List.getElem?_eq_some_iff.1 hk).1
      obtain ⟨s1, s2⟩ := hXY k hkl
      rw [rowE, hk]
      refine .agg rfl fun q x y hx hy => ?_
      rcases q with _ | _ | _ | _ | _ | q <;> simp at hx hy
      · rw [← hx, ← hy]; exact .refl _
      · rw [← hx, ← hy]; exact .refl _
      · rw [← hx, ← hy]; exact .refl _
      · rw [← hx, ← hy]; exact s1
      · rw [← hx, ← hy]; exact s2
    have hall : Sub (.sl 32 ((List.range all.length).map fun k => rowE all k (X k) (Y k))) (repsAV (reportE all)) := by
      refine .sls (by simp [reportE]) fun k x y hx hy => ?_
      have hkl : k < all.length := by have := (List.getElem?_eq_some_iff.1 hx).1; simpa using this
      obtain ⟨p, hk⟩ := get_some hkl
      rw [List.getElem?_map, List.getElem?_range hkl] at hx
      rw [List.getElem?_map, reportE, List.getElem?_mapIdx, hk] at hy
      simp at hx hy
      rw [← hx, ← hy]
      exact hrep k p hk
    have hxs : Ext σ B2.st := hx.trans ho.ext
    rcases ho.row with ⟨hv0, hl0⟩ | ⟨id, hvr, hi1, hi2⟩
    · refine EndR.ret ?_
      simp only [go_sem, simprocAttr, ↓reduceIte]
      refine ⟨.tup rfl fun q x y hx hy => ?_, hxs⟩
      rcases q with _ | _ | q <;> simp at hx hy
      · rw [← hx, ← hy, hv0]
        exact (Weak.nils _).trans (.sub (by rw [← hl0]; exact hall))
      · rw [← hx, ← hy]; exact .refl _
    · refine EndR.frz (e := 32) (te := 32) (id := id) (off := 0) (m := _) (xs := _) 2 (by simp only [go_sem, simprocAttr, ↓reduceIte]; exact hvr) (by simp only [go_sem, simprocAttr, ↓reduceIte]; exact hi1) (by simp) (EndR.ret ?_)
      simp only [go_sem, simprocAttr, ↓reduceIte]
      refine ⟨.tup rfl fun q x y hx hy => ?_, ?_⟩
      · rcases q with _ | _ | q <;> simp at hx hy
        · rw [← hx, ← hy]
          exact .sub (by simpa using hall)
        · rw [← hx, ← hy]; exact .refl _
      · exact hxs.set (by have := hx.le; omega) _
end Go.Proofs.Tryz
end
section
namespace Go.Av

/-- A choice of places that meets all that their packages ask. -/
structure SelOk (all : List Pkg) (S : Nat → Bool) : Prop where
  dep : ∀ (i : Nat) (p : Pkg), all[i]? = some p → S i = true → ∀ c ∈ p.pre ++ p.dep, ∃ (k : Nat) (q : Pkg), all[k]? = some q ∧ c.any (satP q) = true ∧ S k = true
  con : ∀ (i : Nat) (p : Pkg) (k : Nat) (q : Pkg), all[i]? = some p → all[k]? = some q → k < i → S i = true → S k = true → p.name ≠ q.name ∧ clashP p q = false

theorem litT_pos (M : Nat → Bool) (i : Nat) : litT M (litN i) = M (i + 1) := by
  unfold litT
  rw [if_pos (litN_pos i), litN_abs]
theorem litT_not (M : Nat → Bool) (i : Nat) : litT M (-litN i) = !M (i + 1) := by
  rw [litT_neg (by have := litN_pos i; omega), litT_pos]

theorem meetL_claT {M : Nat → Bool} {c : Clause} : ∀ (i : Nat) (l : List Pkg), claT M (meetL c i l) = true ↔ ∃ (k : Nat) (q : Pkg), l[k]? = some q ∧ c.any (satP q) = true ∧ M (i + k + 1) = true
  | i, [] => by simp [meetL, claT]
  | i, q :: r => by
    have ih := meetL_claT (M := M) (c := c) (i + 1) r
    have e : claT M (meetL c i (q :: r)) = (claT M (if c.any (satP q) = true then [litN i] else []) || claT M (meetL c (i + 1) r)) := by rw [meetL, claT, List.any_append]; rfl
    rw [e, Bool.or_eq_true, ih]
    constructor
    · rintro (h | ⟨k, q', h1, h2, h3⟩)
      · split at h
        · rename_i hc
          refine ⟨0, q, rfl, hc, ?_⟩
          simpa [claT, litT_pos] using h
        · simp [claT] at h
      · exact ⟨k + 1, q', by simpa using h1, h2, by rw [show i + (k + 1) + 1 = i + 1 + k + 1 by omega]; exact h3⟩
    · rintro ⟨k, q', h1, h2, h3⟩
      cases k with
      | zero =>
        simp at h1; subst h1
        left
        rw [if_pos h2]
        simpa [claT, litT_pos] using h3
      | succ k => exact .inr ⟨k, q', by simpa using h1, h2, by rw [show i + 1 + k + 1 = i + (k + 1) + 1 by omega]; exact h3⟩

theorem depL_claT {M : Nat → Bool} {all : List Pkg} {i : Nat} {c : Clause} : claT M (depL all i c) = true ↔ (M (i + 1) = true → ∃ (k : Nat) (q : Pkg), all[k]? = some q ∧ c.any (satP q) = true ∧ M (k + 1) = true) := by
  have e : claT M (depL all i c) = (litT M (-litN i) || claT M (meetL c 0 all)) := rfl
  rw [e, litT_not, Bool.or_eq_true, meetL_claT]
  simp only [Nat.zero_add]
  cases h : M (i + 1) <;> simp

theorem conL_setT {M : Nat → Bool} {p : Pkg} {i : Nat} : ∀ (j : Nat) (l : List Pkg), setT M (conL p i j l) = true ↔ ∀ (k : Nat) (q : Pkg), l[k]? = some q → (p.name == q.name || clashP p q) = true → M (i + 1) = true → M (j + k + 1) = true → False
  | j, [] => by simp [conL, setT]
  | j, q :: r => by
    have ih := conL_setT (M := M) (p := p) (i := i) (j + 1) r
    rw [conL, setT_app, Bool.and_eq_true, ih]
    constructor
    · rintro ⟨h1, h2⟩ k q' hk hc hi hj
      cases k with
      | zero =>
        simp at hk; subst hk
        rw [if_pos hc] at h1
        simp [setT, claT, litT_not] at h1
        rcases h1 with h | h
        · rw [hi] at h; cases h
        · rw [Nat.add_zero] at hj; rw [hj] at h; cases h
      | succ k => exact h2 k q' (by simpa using hk) hc hi (by rw [show j + 1 + k + 1 = j + (k + 1) + 1 by omega]; exact hj)
    · intro h
      refine ⟨?_, fun k q' hk hc hi hj => h (k + 1) q' (by simpa using hk) hc hi (by rw [show j + (k + 1) + 1 = j + 1 + k + 1 by omega]; exact hj)⟩
      split
      · rename_i hc
        have := h 0 q rfl hc
        simp only [setT, claT, List.all_cons, List.any_cons, List.any_nil, List.all_nil, litT_not, Nat.add_zero] at this ⊢
        cases h1 : M (i + 1) <;> cases h2 : M (j + 1) <;> simp_all
      · rfl

theorem allL_setT {M : Nat → Bool} {all : List Pkg} : ∀ (j : Nat) (l : List Pkg), setT M (allL all j l) = true ↔ ∀ (k : Nat) (p : Pkg), l[k]? = some p → setT M (pkgL all (j + k) p) = true
  | j, [] => by simp [allL, setT]
  | j, p :: r => by
    have ih := allL_setT (M := M) (all := all) (j + 1) r
    rw [allL, setT_app, Bool.and_eq_true, ih]
    constructor
    · rintro ⟨h1, h2⟩ k q hk
      cases k with
      | zero => simp at hk; subst hk; exact h1
      | succ k => have := h2 k q (by simpa using hk); rw [show j + (k + 1) = j + 1 + k by omega]; exact this
    · intro h
      exact ⟨h 0 p rfl, fun k q hk => by have := h (k + 1) q (by simpa using hk); rw [show j + 1 + k = j + (k + 1) by omega]; exact this⟩

theorem setT_sel {M : Nat → Bool} {all : List Pkg} : setT M (allL all 0 all) = true ↔ SelOk all fun i => M (i + 1) := by
  rw [allL_setT]
  constructor
  · intro h
    refine ⟨fun i p hp hS c hc => ?_, fun i p k q hp hq hki hi hk => ?_⟩
    · have := h i p hp
      rw [pkgL, setT_app, Bool.and_eq_true, Nat.zero_add] at this
      have := (List.all_eq_true.1 this.1) _ (List.mem_map.2 ⟨c, hc, rfl⟩)
      exact depL_claT.1 this hS
    · have := h i p hp
      rw [pkgL, setT_app, Bool.and_eq_true, Nat.zero_add] at this
      have := (conL_setT _ _).1 this.2 k q (by rw [List.getElem?_take_of_lt hki]; exact hq)
      have h2 : ¬ (p.name == q.name || clashP p q) = true := fun e => this e hi (by simpa using hk)
      simp at h2
      exact ⟨h2.1, h2.2⟩
  · intro h k p hp
    rw [pkgL, setT_app, Bool.and_eq_true, Nat.zero_add]
    refine ⟨List.all_eq_true.2 fun x hx => ?_, (conL_setT _ _).2 fun j q hj hc hi hk => ?_⟩
    · obtain ⟨c, hc, rfl⟩ := List.mem_map.1 hx
      exact depL_claT.2 fun hS => h.dep k p hp hS c hc
    · have hjk : j < k := by
        have := (List.getElem?_eq_some_iff.1 hj).1
        rw [List.length_take] at this; omega
      rw [List.getElem?_take_of_lt hjk] at hj
      have := h.con k p j q hp hj hjk hi (by simpa using hk)
      simp [this.1, this.2] at hc

/-- What a literal asks of a choice. -/
def litS (S : Nat → Bool) (l : Int) : Prop := if 0 < l then S (l.natAbs - 1) = true else S (l.natAbs - 1) = false
theorem litS_pos (S : Nat → Bool) (i : Nat) : litS S (litN i) ↔ S i = true := by
  unfold litS; rw [if_pos (litN_pos i), litN_abs]; simp
theorem litS_not (S : Nat → Bool) (i : Nat) : litS S (-litN i) ↔ S i = false := by
  unfold litS; rw [if_neg (by have := litN_pos i; omega), Int.natAbs_neg, litN_abs]; simp

theorem satA_sel {all : List Pkg} {asm : List Int} : satA all.length (allL all 0 all) asm ↔ (∀ l ∈ asm, wfL all.length l = true) ∧ ∃ S, SelOk all S ∧ ∀ l ∈ asm, litS S l := by
  have key : ∀ (M : Nat → Bool) (l : Int), l ≠ 0 → (litT M l = true ↔ litS (fun i => M (i + 1)) l) := fun M l hl => by
    have e : l.natAbs - 1 + 1 = l.natAbs := by omega
    unfold litT litS
    simp only [e]
    split <;> simp
  unfold satA
  refine ⟨fun ⟨h, M, h1, h2⟩ => ⟨h, fun i => M (i + 1), setT_sel.1 h1, fun l hl => ?_⟩, fun ⟨h, S, h1, h2⟩ => ⟨h, fun i => S (i - 1), setT_sel.2 (by simpa using h1), fun l hl => ?_⟩⟩
  · exact (key M l (by have := h l hl; simp [wfL] at this; exact this.1)).1 (h2 l hl)
  · exact (key _ l (by have := h l hl; simp [wfL] at this; exact this.1)).2 (by simpa using h2 l hl)

theorem wfL_lit {n i : Nat} (h : i < n) : wfL n (litN i) = true := by
  have := litN_pos i; have := litN_abs i
  simp [wfL]; omega
theorem wfL_not {n i : Nat} (h : i < n) : wfL n (-litN i) = true := by
  have := litN_pos i; have := litN_abs i
  simp [wfL]; omega
end Go.Av
end
section
namespace Go.Av

def lightD (d : List Clause) : Bool := decide (d.length ≤ 14) && d.all fun c => decide (c.length ≤ 10)
def lightP (i : Nat) (p : Pkg) : Bool := decide (i < 26) && decide (p.con.length + p.brk.length + p.prov.length ≤ 40) && [p.pre, p.dep, p.rcm].all lightD
def lightL : Nat → List Pkg → Bool
  | _, [] => true
  | i, p :: r => lightP i p && lightL (i + 1) r
theorem lightL_get : ∀ {i : Nat} {l : List Pkg}, lightL i l = true → ∀ p ∈ l, p.con.length + p.brk.length + p.prov.length ≤ 40
  | _, [], _, p, hp => by simp at hp
  | i, q :: r, h, p, hp => by
    rw [lightL, Bool.and_eq_true] at h
    rcases List.mem_cons.1 hp with rfl | hp
    · have := h.1
      simp [lightP] at this
      exact this.1.2
    · exact lightL_get h.2 p hp
end Go.Av
end
section
namespace Go.Proofs.Tryz
open Go Go.Av
set_option maxRecDepth 10000
set_option linter.unusedSimpArgs false
set_option linter.unusedVariables false
variable {W0 : World}

theorem reach_eq : reachBytes = 140737488351232 := by decide

theorem l19_light (l : List Pkg) (hp : ∀ p ∈ l, PkgR p) : PureFn prog W0 15 [pkgsAV l] (.bool (lightL 0 l)) := by
  refine fn_pure [2] [4] func15 rfl rfl ntmps15 rfl rfl (.bool _) fun hs σ => ?_
  have hl := (small_map (hs _ (List.mem_cons_self ..))).1
  have hls := (small_map (hs _ (List.mem_cons_self ..))).2
  simp only [go_sem, simprocAttr, ↓reduceIte, pkgsAV, List.length_map]
  refine LoopVC.upto [9, 10] (.of (by kernel_rfl)) l.length (fun i A => A.env 11 = .int .i64 i ∧ Ext σ A.st ∧ lightL i (l.drop i) = lightL 0 l) 0 (Nat.zero_le _) ?_ fun i B hi ⟨h8, hst, hI⟩ => ?_
  · simp only [go_sem, simprocAttr, ↓reduceIte]
    simp [Ext.refl]
  simp only [go_sem, simprocAttr, ↓reduceIte, h8, List.length_map]
  refine ⟨fun hc => ⟨hc, ?_⟩, fun hc => ?_⟩
  · obtain ⟨p, hpi⟩ := get_some hc
    simp only [atV_map hpi]
    have hR := hp p (List.mem_of_getElem? hpi)
    have r1 := hR.con; have r2 := hR.brk; have r3 := hR.prov
    rw [reach_eq] at r1 r2 r3
    have hw1 : IntKind.i64.wrap ((p.con.length : Int) + (p.brk.length : Int)) = ((p.con.length : Int) + (p.brk.length : Int)) := wrap_in (by omega)
    have hw2 : IntKind.i64.wrap ((p.con.length : Int) + (p.brk.length : Int) + (p.prov.length : Int)) = ((p.con.length : Int) + (p.brk.length : Int) + (p.prov.length : Int)) := wrap_in (by omega)
    rw [List.drop_eq_getElem_cons hc, lightL] at hI
    have hpe : l[i] = p := (List.getElem?_eq_some_iff.1 hpi).2
    rw [hpe] at hI
    simp only [go_sem, simprocAttr, ↓reduceIte, pkgAV, atomsAV, provsAV, h8, List.length_map, hw1, hw2]
    have e3 : [clausesAV p.pre, clausesAV p.dep, clausesAV p.rcm] = [p.pre, p.dep, p.rcm].map clausesAV := rfl
    refine ⟨fun hb => ⟨weak_bool ?_, hst.app _⟩, fun hb => ?_⟩
    · have : lightP i p = false := by
        unfold lightP
        simp only [Bool.or_eq_true, decide_eq_true_eq] at hb
        rcases hb with hb | hb
        · rw [decide_eq_false (show ¬ i < 26 by omega)]; rfl
        · rw [decide_eq_false (show ¬ p.con.length + p.brk.length + p.prov.length ≤ 40 by omega), Bool.and_false]; rfl
      rw [← hI, this]; rfl
    simp only [Bool.or_eq_false_iff, decide_eq_false_iff_not] at hb
    have hP : lightP i p = [p.pre, p.dep, p.rcm].all lightD := by
      unfold lightP
      rw [decide_eq_true (show i < 26 by omega), decide_eq_true (show p.con.length + p.brk.length + p.prov.length ≤ 40 by omega)]; rfl
    simp only [e3]
    have hds := hls p (List.mem_of_getElem? hpi)
    refine LoopVC.ats [9, 10, 11] (.of (by kernel_rfl)) (fun A => Ext σ A.st ∧ lightP i p = true) ?_ fun B2 ⟨hst, h6⟩ => ?_
    · refine LoopVC.upto [9, 10, 11, 38] (.of (by kernel_rfl)) 3 (fun j A => A.env 39 = .int .i64 j ∧ Ext σ A.st ∧ ([p.pre, p.dep, p.rcm].drop j).all lightD = [p.pre, p.dep, p.rcm].all lightD) 0 (Nat.zero_le _) ?_ fun j B2 hj ⟨h39, hst, hJ⟩ => ?_
      · simp only [go_sem, simprocAttr, ↓reduceIte]
        exact hst.app _
      simp only [go_sem, simprocAttr, ↓reduceIte, h39]
      simp only [e3]
      refine ⟨fun hc2 => ?_, fun hc2 => ?_⟩
      · have hc3 : j < [p.pre, p.dep, p.rcm].length := by show j < 3; omega
        obtain ⟨d, hdj⟩ := get_some hc3
        have hde := (List.getElem?_eq_some_iff.1 hdj).2
        rw [List.drop_eq_getElem_cons hc3, hde, List.all_cons] at hJ
        simp only [getD_map hdj]
        simp only [go_sem, simprocAttr, ↓reduceIte, clausesAV, h39, List.length_map]
        refine ⟨hc3, ?_⟩
        have hlD : lightD d = (decide (d.length ≤ 14) && d.all fun c => decide (c.length ≤ 10)) := rfl
        refine ⟨fun hb => ⟨weak_bool ?_, hst⟩, fun hb => ?_⟩
        · rw [← hI, hP, ← hJ, hlD, decide_eq_false (by omega)]; rfl
        rw [decide_eq_true (show d.length ≤ 14 by omega), Bool.true_and] at hlD
        refine LoopVC.ats [9, 10, 11, 38, 39] (.of (by kernel_rfl)) (fun A => Ext σ A.st ∧ (d.all fun c => decide (c.length ≤ 10)) = true) ?_ fun B3 ⟨hst, h6⟩ => ?_
        · refine LoopVC.upto [9, 10, 11, 38, 39, 45, 46] (.of (by kernel_rfl)) d.length (fun k A => A.env 47 = .int .i64 k ∧ Ext σ A.st ∧ ∀ c ∈ d.take k, c.length ≤ 10) 0 (Nat.zero_le _) ?_ fun k B3 hk ⟨h47, hst, hK⟩ => ?_
          · simp only [go_sem, simprocAttr, ↓reduceIte]
            simp [hst]
          simp only [go_sem, simprocAttr, ↓reduceIte, h47, List.length_map]
          refine ⟨fun hc4 => ⟨hc4, ?_⟩, fun hc4 => ?_⟩
          · obtain ⟨c, hck⟩ := get_some hc4
            simp only [atV_map hck]
            simp only [go_sem, simprocAttr, ↓reduceIte, atomsAV, h47, List.length_map]
            refine ⟨fun hb => ⟨weak_bool ?_, hst⟩, fun hb => ⟨hc4, int_succ hc4 (by rw [maxLen_eq]; omega), hst, ?_⟩⟩
            · have : (d.all fun c => decide (c.length ≤ 10)) = false := by
                rw [List.all_eq_false]
                exact ⟨c, List.mem_of_getElem? hck, by simp; omega⟩
              rw [← hI, hP, ← hJ, hlD, this]; rfl
            · rw [take_succ_get hck]
              intro x hx
              rcases List.mem_append.1 hx with hx | hx
              · exact hK x hx
              · rw [List.mem_singleton.1 hx]; omega
          · rw [List.take_of_length_le hc4] at hK
            exact ⟨hst, List.all_eq_true.2 fun c hcm => decide_eq_true (hK c hcm)⟩
        simp only [go_sem, simprocAttr, ↓reduceIte, h39]
        refine ⟨by omega, int_succ (show j < 3 by omega) (by rw [maxLen_eq]; omega), hst, ?_⟩
        rw [hlD, h6, Bool.true_and] at hJ
        simpa using hJ
      · have : j = 3 := by omega
        subst this
        exact ⟨hst, by rw [hP, ← hJ]; rfl⟩
    simp only [go_sem, simprocAttr, ↓reduceIte, h8]
    refine ⟨hc, int_succ hc hl, hst, ?_⟩
    rw [h6, Bool.true_and] at hI
    exact hI
  · have : i = l.length := by omega
    subst this
    rw [List.drop_length] at hI
    exact ⟨weak_bool hI, hst⟩

theorem l19_few (l : List Pkg) (hp : ∀ p ∈ l, PkgR p) : PureFn prog W0 8 [pkgsAV l] (.bool (lightL 0 l && decide (l.length ≤ 7))) := by
  refine fn_pure [2] [] func8 rfl rfl ntmps8 rfl rfl (.bool _) fun hs σ => ?_
  simp only [go_sem, simprocAttr, ↓reduceIte]
  refine CallA.fn (l19_light l hp) ?_
  simp only [go_sem, simprocAttr, ↓reduceIte, pkgsAV, List.length_map]
  exact weak_bool (by congr 1; exact decide_eq_decide.2 (by omega))
end Go.Proofs.Tryz
end
section
namespace Go.Av

def all2 {α β : Type} (f : α → β → Bool) : List α → List β → Bool
  | [], [] => true
  | x :: xs, y :: ys => f x y && all2 f xs ys
  | _, _ => false
theorem all2_get {α β : Type} {f : α → β → Bool} : ∀ {xs : List α} {ys : List β}, all2 f xs ys = true → xs.length = ys.length ∧ ∀ (i : Nat) (x : α) (y : β), xs[i]? = some x → ys[i]? = some y → f x y = true
  | [], [], _ => ⟨rfl, by simp⟩
  | [], _ :: _, h => by simp [all2] at h
  | _ :: _, [], h => by simp [all2] at h
  | x :: xs, y :: ys, h => by
    rw [all2, Bool.and_eq_true] at h
    obtain ⟨h1, h2⟩ := all2_get h.2
    refine ⟨by simp [h1], fun i x' y' hx hy => ?_⟩
    cases i with
    | zero => simp at hx hy; subst hx hy; exact h.1
    | succ i => exact h2 i x' y' (by simpa using hx) (by simpa using hy)

def subB : Nat → AV → AV → Bool
  | 0, _, _ => false
  | n + 1, x, y => match x, y with
    | .int k a, .int k' b => decide (k = k') && a == b
    | .bool a, .bool b => a == b
    | .str a, .str b => a == b
    | .nil, .nil => true
    | .nils, .nils => true
    | .nils, .sl _ [] => true
    | .sl e xs, .sl e' ys => e == e' && all2 (subB n) xs ys
    | .lit e xs, .sl e' ys => e == e' && all2 (subB n) xs ys
    | .agg t xs, .agg t' ys => t == t' && all2 (subB n) xs ys
    | _, _ => false
theorem subB_sound : ∀ {n : Nat} {x y : AV}, subB n x y = true → Sub x y
  | 0, _, _, h => by simp [subB] at h
  | n + 1, x, y, h => by
    unfold subB at h
    split at h
    · simp only [Bool.and_eq_true, decide_eq_true_eq, beq_iff_eq] at h
      rw [h.1, h.2]; exact .refl _
    · rw [beq_iff_eq.1 h]; exact .refl _
    · rw [beq_iff_eq.1 h]; exact .refl _
    · exact .refl _
    · exact .refl _
    · exact .nils _
    · rw [Bool.and_eq_true, beq_iff_eq] at h
      obtain ⟨rfl, h⟩ := h
      obtain ⟨h1, h2⟩ := all2_get h
      exact .sls h1 fun i x y hx hy => subB_sound (h2 i x y hx hy)
    · rw [Bool.and_eq_true, beq_iff_eq] at h
      obtain ⟨rfl, h⟩ := h
      obtain ⟨h1, h2⟩ := all2_get h
      exact .trans (.lits h1 fun i x y hx hy => subB_sound (h2 i x y hx hy)) (.lit _ _)
    · rw [Bool.and_eq_true, beq_iff_eq] at h
      obtain ⟨rfl, h⟩ := h
      obtain ⟨h1, h2⟩ := all2_get h
      exact .agg h1 fun i x y hx hy => subB_sound (h2 i x y hx hy)
    · cases h

/-- The packages of the report that every program must know. -/
def awA : Pkg := ⟨[97, 97], [49], [], [[⟨[98, 98], 0, []⟩]], [], [], [], [], false⟩
def awB : Pkg := ⟨[98, 98], [49], [], [], [], [], [], [], false⟩
def awC : Pkg := ⟨[99, 99], [49], [], [], [], [⟨[98, 98], 0, []⟩], [], [], false⟩
def awL : List Pkg := [awA, awB, awC]
theorem aw_cls : allL awL 0 awL = [[-1, 2], [-3, -2]] := by decide +kernel
theorem aw_may : mayAll awL = 0 := by decide +kernel
end Go.Av
end
section
namespace Go.Proofs.Tryz
open Go Go.Av
set_option maxRecDepth 10000
set_option linter.unusedSimpArgs false
set_option linter.unusedVariables false
variable {W0 : World}

theorem canE_sel {all : List Pkg} {asm : List Int} : canE all asm = true ↔ (∀ l ∈ asm, wfL all.length l = true) ∧ ∃ S, SelOk all S ∧ ∀ l ∈ asm, litS S l := by
  rw [← satA_sel, canE]
  by_cases h : satA all.length (allL all 0 all) asm
  · rw [satB_true h]; simp [h]
  · rw [satB_false h]; simp [h]
theorem canE_sat {all : List Pkg} {asm : List Int} : canE all asm = true ↔ satA all.length (allL all 0 all) asm := by rw [canE_sel, satA_sel]

theorem aw_can {asm : List Int} (M : Nat → Bool) (h : (asm.all (wfL 3) && (setT M [[-1, 2], [-3, -2]] && asm.all (litT M))) = true) : canE awL asm = true := by
  rw [canE_sat, aw_cls]
  simp only [Bool.and_eq_true, List.all_eq_true] at h
  exact ⟨h.1, M, h.2.1, h.2.2⟩
theorem aw_not {asm : List Int} (h : ∀ M, setT M [[-1, 2], [-3, -2]] = true → asm.all (litT M) = false) : canE awL asm = false := by
  have : ¬ canE awL asm = true := fun e => by
    rw [canE_sat, aw_cls] at e
    obtain ⟨_, M, h1, h2⟩ := e
    have := h M h1
    rw [List.all_eq_true.2 h2] at this
    cases this
  simpa using this

theorem aw_rep : ∃ r1 r2, reportE awL = [⟨[97, 97], [49], true, [1], [2]⟩, r1, r2] := by
  have c1 : canE awL [litN 0] = true := aw_can (fun i => decide (i ≤ 2)) (by decide +kernel)
  have c2 : canE awL [litN 1] = true := aw_can (fun i => decide (i = 2)) (by decide +kernel)
  have c3 : canE awL [litN 2] = true := aw_can (fun i => decide (i = 3)) (by decide +kernel)
  have n1 : canE awL [litN 0, -litN 1] = false := aw_not fun M h => by
    simp [setT, claT, litT, litN] at h ⊢
    cases h1 : M 1 <;> cases h2 : M 2 <;> simp_all
  have n2 : canE awL [litN 0, -litN 2] = true := aw_can (fun i => decide (i ≤ 2)) (by decide +kernel)
  have m1 : canE awL [litN 0, litN 1] = true := aw_can (fun i => decide (i ≤ 2)) (by decide +kernel)
  have m2 : canE awL [litN 0, litN 2] = false := aw_not fun M h => by
    simp [setT, claT, litT, litN] at h ⊢
    cases h1 : M 1 <;> cases h2 : M 2 <;> cases h3 : M 3 <;> simp_all
  refine ⟨repE awL 1 awB, repE awL 2 awC, ?_⟩
  have e0 : repE awL 0 awA = ⟨[97, 97], [49], true, [1], [2]⟩ := by
    have er : List.range awL.length = [0, 1, 2] := rfl
    unfold repE
    rw [c1, er]
    have x0 : needsE awL 0 0 = false := by simp [needsE]
    have x1 : needsE awL 0 1 = true := by simp [needsE, c1, n1]
    have x2 : needsE awL 0 2 = false := by simp [needsE, c1, n2]
    have y0 : neverE awL 0 0 = false := by simp [neverE]
    have y1 : neverE awL 0 1 = false := by simp [neverE, m1]
    have y2 : neverE awL 0 2 = true := by simp [neverE, c1, c3, m2]
    simp [List.filter, x0, x1, x2, y0, y1, y2, awA]
  rw [← e0]
  rfl

theorem l19_awake : PureFn prog W0 9 [] (.bool true) := by
  refine fn_pure [0] [] func9 rfl rfl ntmps9 rfl rfl (.bool _) fun hs σ => ?_
  simp only [go_sem, simprocAttr, ↓reduceIte]
  refine CallA.fn ((st_report awL (fun p hp => ?_) (by decide)).weak (.cons (.sub (subB_sound (n := 10) (by kernel_rfl))) .nil)) ?_
  · simp [awL] at hp
    rcases hp with rfl | rfl | rfl <;> exact ⟨by decide, by decide, by decide⟩
  obtain ⟨r1, r2, hr⟩ := aw_rep
  rw [if_pos aw_may, aw_may, hr]
  have a0 : ∀ (x : AV) (l : List AV), atV (x :: l) 0 = x := fun _ _ => rfl
  simp only [go_sem, simprocAttr, ↓reduceIte, repsAV, repAV, nlAV, a0]
  done
end Go.Proofs.Tryz
end
section
namespace Go.Av

def bareP (p : Pkg) : Bool := decide (p.pre.length + p.dep.length + p.con.length + p.brk.length = 0)
theorem bareP_nil {p : Pkg} (h : bareP p = true) : p.pre = [] ∧ p.dep = [] ∧ p.con = [] ∧ p.brk = [] := by
  simp only [bareP, decide_eq_true_eq] at h
  refine ⟨?_, ?_, ?_, ?_⟩ <;> exact List.eq_nil_of_length_eq_zero (by omega)
theorem sel_bare {all : List Pkg} {i : Nat} {p : Pkg} (hi : all[i]? = some p) (hb : bareP p = true) : SelOk all fun k => k == i := by
  obtain ⟨h1, h2, _, _⟩ := bareP_nil hb
  refine ⟨fun k q hk hS c hc => ?_, fun k q j r _ _ hjk hk hj => ?_⟩
  · rw [beq_iff_eq] at hS
    subst hS
    rw [hi] at hk
    cases hk
    rw [h1, h2] at hc
    cases hc
  · rw [beq_iff_eq] at hk hj
    omega
theorem mayAll_one (p : Pkg) : mayAll [p] = mayPkg p := by
  have h1 : orL ([p].map mayPkg) = mayPkg p := by
    simp only [List.map_cons, List.map_nil, orL]
    split
    · rfl
    · rename_i h; exact (Classical.not_not.1 h).symm
  have h2 : dupL [] [p] = false := rfl
  have h3 : (namesL [p] []).length = 1 := rfl
  unfold mayAll
  rw [if_neg (by simp), h1, h2, h3]
  by_cases h : mayPkg p = 0
  · simp [h]
  · simp [h]
theorem sel_one {p : Pkg} : (∃ S, SelOk [p] S ∧ S 0 = true) ↔ ∀ c ∈ p.pre ++ p.dep, c.any (satP p) = true := by
  constructor
  · rintro ⟨S, h, h0⟩ c hc
    obtain ⟨k, q, hk, h1, _⟩ := h.dep 0 p rfl h0 c hc
    cases k with
    | zero => simp at hk; subst hk; exact h1
    | succ k => simp at hk
  · intro h
    refine ⟨fun _ => true, ⟨fun k q hk _ c hc => ⟨0, p, rfl, ?_, rfl⟩, fun i p' k q hi hk hki _ _ => ?_⟩, rfl⟩
    · cases k with
      | zero => simp at hk; subst hk; exact h c hc
      | succ k => simp at hk
    · have := (List.getElem?_eq_some_iff.1 hi).1
      simp at this; omega
theorem healthy_one {p : Pkg} (hm : mayPkg p = 0) : healthyP [p] = decide (∀ c ∈ p.pre ++ p.dep, c.any (satP p) = true) := by
  have hmet : ∀ c : Clause, metP c [p] = c.any (satP p) := fun c => by
    unfold metP
    congr 1
    funext a
    simp
  rw [healthyP, sickL, sickL, sickP, hm, Bool.eq_iff_iff]
  simp only [hmet, List.any_nil, Bool.or_false, Bool.not_eq_true', decide_eq_true_eq, bne_self_eq_false, Bool.false_or, Bool.or_eq_false_iff, List.any_eq_false, Bool.not_eq_false', Bool.not_eq_true', List.mem_append]
  constructor
  · rintro ⟨h1, h2⟩ c (hc | hc)
    · simpa using h1 c hc
    · simpa using h2 c hc
  · intro h
    exact ⟨fun c hc => by simpa using h c (.inl hc), fun c hc => by simpa using h c (.inr hc)⟩
end Go.Av
end
section
namespace Go.Proofs.Tryz
open Go Go.Av
set_option maxRecDepth 10000
set_option linter.unusedSimpArgs false
set_option linter.unusedVariables false
variable {W0 : World}

theorem bare_can {all : List Pkg} {i : Nat} {p : Pkg} (hi : all[i]? = some p) (hb : bareP p = true) : canE all [litN i] = true :=
  canE_sel.2 ⟨by simp; exact wfL_lit (List.getElem?_eq_some_iff.1 hi).1, _, sel_bare hi hb, by simp; exact (litS_pos _ _).2 (by simp)⟩
theorem bare_needs {all : List Pkg} {i j : Nat} {p : Pkg} (hi : all[i]? = some p) (hb : bareP p = true) (hj : j < all.length) : canE all [litN i, -litN j] = !(i == j) := by
  by_cases e : i = j
  · subst e
    have : ¬ canE all [litN i, -litN i] = true := fun h => by
      obtain ⟨_, S, _, h2⟩ := canE_sel.1 h
      have a := (litS_pos _ _).1 (h2 (litN i) (by simp))
      have b := (litS_not _ _).1 (h2 (-litN i) (by simp))
      rw [a] at b; cases b
    simpa using this
  · have : (i == j) = false := by simp [e]
    rw [this]
    refine canE_sel.2 ⟨?_, _, sel_bare hi hb, ?_⟩
    · intro l hl
      simp at hl
      rcases hl with rfl | rfl
      · exact wfL_lit (List.getElem?_eq_some_iff.1 hi).1
      · exact wfL_not hj
    · intro l hl
      simp at hl
      rcases hl with rfl | rfl
      · exact (litS_pos _ _).2 (by simp)
      · exact (litS_not _ _).2 (by simp; omega)
theorem one_can {p : Pkg} (hm : mayPkg p = 0) : canE [p] [litN 0] = healthyP [p] := by
  rw [healthy_one hm, Bool.eq_iff_iff, decide_eq_true_eq, ← sel_one, canE_sel]
  constructor
  · rintro ⟨_, S, h1, h2⟩
    exact ⟨S, h1, (litS_pos _ _).1 (h2 _ (by simp))⟩
  · rintro ⟨S, h1, h2⟩
    exact ⟨by simp; exact wfL_lit (by simp), S, h1, by simp; exact (litS_pos _ _).2 h2⟩
theorem errE_in {all : List Pkg} {l : List Nat} (h0 : mayAll all = 0) (hl : ∀ i ∈ l, i < all.length) : errE all (l.map fun (i : Nat) => (i : Int)) = 0 := by
  rw [errE, if_neg (by simp [h0]), if_neg]
  simp only [List.any_eq_true, List.mem_map, not_exists, not_and]
  rintro x ⟨i, hi, rfl⟩
  have := hl i hi
  simp; omega
theorem light_may {all : List Pkg} (h : lightL 0 all = true) : ∀ p ∈ all, MayN p := fun p hp => by
  have := lightL_get h p hp
  exact ⟨by omega, by omega, by omega⟩

theorem l19_alone (all : List Pkg) (p : Pkg) (hp : ∀ p ∈ all, PkgR p) (hq : PkgR p) : PureFn prog W0 6 [pkgsAV all, pkgAV p] (.bool true) := by
  refine fn_pure [4] [3, 6] func6 rfl rfl ntmps6 rfl rfl (.bool _) fun hs σ => ?_
  have hl := (small_map (hs _ (List.mem_cons_self ..))).1
  simp only [go_sem, simprocAttr, ↓reduceIte]
  refine CallA.fn (l19_light all hp) ?_
  simp only [go_sem, simprocAttr, ↓reduceIte]
  refine CallP.fnG (fun _ => (l19_light [p] (by simpa using hq)).weak (.cons (.lit _ _) .nil)) ?_
  simp only [go_sem, simprocAttr, ↓reduceIte, pkgsAV, List.length_map]
  refine CallP.fnG (fun _ => r9_mayAll all) ?_
  simp only [go_sem, simprocAttr, ↓reduceIte]
  refine ⟨fun _ => CallA.fn l19_awake ?_, fun h => ?_⟩
  · simp only [go_sem, simprocAttr, ↓reduceIte]
    done
  simp only [Bool.or_eq_false_iff, Bool.not_eq_false', decide_eq_false_iff_not, bne_eq_false_iff_eq] at h
  obtain ⟨⟨⟨hla, hlp⟩, h10⟩, h0⟩ := h
  have hma := light_may hla
  have hmp : MayN p := light_may hlp p (by simp)
  have h11 : all.length ≤ 11 := by omega
  refine LoopVC.at [3] (.of (by kernel_rfl)) (fun A => Ext σ A.st) ?_ fun B hst => ?_
  · refine LoopVC.upto [0, 3, 35, 36] (.of (by kernel_rfl)) all.length (fun i A => A.env 37 = .int .i64 i ∧ Ext σ A.st) 0 (Nat.zero_le _) ?_ fun i B hi ⟨h8, hst⟩ => ?_
    · simp only [go_sem, simprocAttr, ↓reduceIte]
      exact .refl _
    simp only [go_sem, simprocAttr, ↓reduceIte, h8, List.length_map]
    refine ⟨fun hc => ⟨hc, ?_⟩, fun hc => hst⟩
    obtain ⟨q, hqi⟩ := get_some hc
    simp only [atV_map hqi]
    have hR := hp q (List.mem_of_getElem? hqi)
    have r1 := hR.pre; have r2 := hR.dep; have r3 := hR.con; have r4 := hR.brk
    rw [reach_eq] at r1 r2 r3 r4
    have hw1 : IntKind.i64.wrap ((q.pre.length : Int) + (q.dep.length : Int)) = ((q.pre.length : Int) + (q.dep.length : Int)) := wrap_in (by omega)
    have hw2 : IntKind.i64.wrap ((q.pre.length : Int) + (q.dep.length : Int) + (q.con.length : Int)) = ((q.pre.length : Int) + (q.dep.length : Int) + (q.con.length : Int)) := wrap_in (by omega)
    have hw3 : IntKind.i64.wrap ((q.pre.length : Int) + (q.dep.length : Int) + (q.con.length : Int) + (q.brk.length : Int)) = ((q.pre.length : Int) + (q.dep.length : Int) + (q.con.length : Int) + (q.brk.length : Int)) := wrap_in (by omega)
    simp only [go_sem, simprocAttr, ↓reduceIte, pkgAV, atomsAV, clausesAV, h8, List.length_map, hw1, hw2, hw3]
    refine ⟨fun _ => ⟨hc, int_succ hc hl, hst.app _⟩, fun hb => ?_⟩
    have hbare : bareP q = true := by
      unfold bareP
      exact decide_eq_true (by omega)
    have c1 := bare_can hqi hbare
    have hi1 : errE all [(i : Int)] = 0 := errE_in (l := [i]) h0 (by simpa using hc)
    refine CallA.fn (st_installable all hma h11 i) ?_
    simp only [go_sem, simprocAttr, ↓reduceIte, pairAV, h8, hi1, c1]
    refine LoopVC.ats [0, 3, 35, 36, 37] (.of (by kernel_rfl)) (fun A => Ext σ A.st) ?_ fun B2 hst => ?_
    · refine LoopVC.upto [0, 3, 5, 35, 36, 37, 71] (.of (by kernel_rfl)) all.length (fun j A => A.env 72 = .int .i64 j ∧ Ext σ A.st) 0 (Nat.zero_le _) ?_ fun j B2 hj ⟨h72, hst⟩ => ?_
      · simp only [go_sem, simprocAttr, ↓reduceIte]
        exact hst.app _
      simp only [go_sem, simprocAttr, ↓reduceIte, h72, List.length_map]
      refine ⟨fun hc2 => ?_, fun hc2 => hst⟩
      have hi2 : errE all [(i : Int), (j : Int)] = 0 := errE_in (l := [i, j]) h0 (by simp; exact ⟨hc, hc2⟩)
      have c2 := bare_needs hqi hbare hc2
      have hij : ((i : Int) == (j : Int)) = (i == j) := by rw [Bool.eq_iff_iff]; simp; omega
      refine CallA.fn (st_needs all hma h11 i j) ?_
      simp only [go_sem, simprocAttr, ↓reduceIte, pairAV, h72, hi2, c1, c2, hij]
      exact ⟨fun h => absurd (Bool.not_not _) h, fun _ => ⟨hc2, int_succ hc2 hl, hst⟩⟩
    simp only [go_sem, simprocAttr, ↓reduceIte, h8]
    exact ⟨hc, int_succ hc hl, hst⟩
  simp only [go_sem, simprocAttr, ↓reduceIte]
  refine CallA.fn ((st_installable [p] (by simpa using hmp) (by simp) 0).weak (.cons (.lit _ _) (.cons (.refl _) .nil))) ?_
  have he : errE [p] [(0 : Int)] = mayPkg p := by
    by_cases h : mayPkg p = 0
    · rw [h]; exact errE_in (all := [p]) (l := [0]) (by rw [mayAll_one]; exact h) (by simp)
    · rw [errE, mayAll_one, if_pos h]
  simp only [go_sem, simprocAttr, ↓reduceIte, pairAV, he]
  refine CallA.fn (r9_may p) ?_
  simp only [go_sem, simprocAttr, ↓reduceIte]
  refine ⟨fun hm => ?_, fun hm => ?_⟩
  · refine CallP.fnG (fun _ => l19_awake) ?_
    have e0 : (mayPkg p == 0) = false := by simp [hm]
    simp only [go_sem, simprocAttr, ↓reduceIte, e0]
    exact hst
  · refine CallP.fnG (fun _ => (r10_healthy [p]).weak (.cons (.lit _ _) .nil)) ?_
    simp only [go_sem, simprocAttr, ↓reduceIte]
    refine CallP.fnG (fun _ => l19_awake) ?_
    have e0 : (mayPkg p == 0) = true := by simp [hm]
    simp only [go_sem, simprocAttr, ↓reduceIte, e0, one_can hm]
    exact hst
end Go.Proofs.Tryz
end
section
namespace Go.Proofs.YtljcjoglabbcoaaGreatDoor
open Go Go.Av Go.ChangeShapes Go.WideShapes Go.ChangeAt Go.RowKit

set_option maxRecDepth 100000
theorem ownK : ownKnob Tryz.prog.godebug = none := by kernel_rfl
theorem laidOutP : laidOutB Tryz.prog = true := by kernel_rfl

/-- A world that fits: the settled one, the listed tables holding what is listed. -/
noncomputable def fillRow (l : List Nat) : Obj → Obj
  | .cells _ t frozen => .cells (l.map fun n => Value.int .u8 (n : Nat)).toArray t frozen
  | o => o
noncomputable def laidWorld (os : Os) : World :=
  { World.holding Tryz.prog os ⟨#[], #[], []⟩ with heap := ((World.holding Tryz.prog os ⟨#[], #[], []⟩).heap.modify 1 (fillRow Pinned.utf8FirstZ)).modify 2 (fillRow [128, 191, 160, 191, 128, 159, 144, 191, 128, 143, 0, 0, 0, 0, 0, 0, 0, 0, 0, 0, 0, 0, 0, 0, 0, 0, 0, 0, 0, 0, 0, 0]) }

namespace StrongAlone
theorem contract (H : Type) (enc : TypeId × Value → H) (W : World) (base : Nat) (args : Array Value) (ds gs : List (DataW H)) (before : List MemPlace) (vt : List TypeId)
    (hval : ∀ (j : Nat) t v, Tryz.f6.params[j]? = some t → args[j]? = some v → Value.okWide Tryz.prog W .any base t v)
    (hW : DataW.Whole enc Tryz.prog Tryz.f6.params.toList Rows.strongAloneSpec.vars false W args.toList ds gs before)
    (hwt : (DataW.weightsEach Tryz.prog (Tryz.f6.params.toList ++ vt) (ds ++ gs)).all (· ≤ reachBytes) = true) :
    Calls Tryz.prog 6 args W fun e W' => ∃ v, e = .returned v ∧ Rows.strongAloneSpec.post enc Tryz.prog Tryz.f6 false true false false W args v W' := by
  refine law_contract (m := 12) (tb := 4) Tryz.func6 rfl laidOutP (by kernel_rfl) (by kernel_rfl) (by kernel_rfl) (by kernel_rfl) rfl (fun ds hd => ?_) hval hW hwt fun xs hl ha => ?_
  · have hd : ds.length = 2 := hd
    obtain _ | ⟨d, _ | ⟨d', _ | _⟩⟩ := ds <;> simp at hd
    rfl
  · have hl : xs.length = 2 := hl
    obtain _ | ⟨a, _ | ⟨b, _ | _⟩⟩ := xs <;> simp at hl
    obtain ⟨all, rfl, _, hp⟩ := Tryz.ofT_pkgs (n := 6) (ha 0 22 a (by kernel_rfl) rfl)
    obtain ⟨p, rfl, hq⟩ := Tryz.ofT_pkg (n := 7) (ha 1 38 b (by kernel_rfl) rfl)
    exact Tryz.l19_alone all p hp hq

/-- The witness: no packages; an empty one. -/
noncomputable def wargs : Array Value := #[.slice none 0 0, .agg #[.string ⟨#[]⟩, .string ⟨#[]⟩, .slice none 0 0, .slice none 0 0, .slice none 0 0, .slice none 0 0, .slice none 0 0, .slice none 0 0, .bool false]]
theorem laid_met (os : Os) : laidMetH Tryz.prog Rows.strongAloneRow.laid ((laidWorld os).forCall (fun _ _ => 0) ⟨#[], wargs, []⟩).memory :=
  laidMet_of_run' 8 (by kernel_rfl) (by kernel_rfl)
theorem reads (os : Os) {H : Type} (enc : TypeId × Value → H) : ∃ places, DataW.whole enc Tryz.prog ((laidWorld os).forCall (fun _ _ => 0) ⟨#[], wargs, []⟩).memory Tryz.f6.params.toList Rows.strongAloneSpec.vars false wargs.toList 8 = some ([.nil, .agg [.lit (.string []), .lit (.string []), .nil, .nil, .nil, .nil, .nil, .nil, .lit (.bool false)]], [], places) :=
  ⟨[], by kernel_rfl⟩
theorem lifted (os : Os) (started : os.Started) (H : Type) (enc : TypeId × Value → H) (F : Stop.Interp) :
    ReturnsInHanded {} Tryz.checked os 6 .any ((OpenSpec.ofChange Rows.strongAloneSpec).preRow enc Tryz.prog Tryz.f6 Rows.strongAloneRow.domain false Rows.strongAloneRow.laid) (((OpenSpec.ofChange Rows.strongAloneSpec).at F).post enc Tryz.prog Tryz.f6 false true false false) := by
  obtain ⟨places, hx⟩ := reads os enc
  refine returnsInHanded_of_row (C := Tryz.checked) (s := OpenSpec.ofChange Rows.strongAloneSpec) ownK started (by kernel_rfl) Tryz.func6
    (witness_row_at (enc := enc) (C := Tryz.checked) false (laidWorld os) wargs rfl (by kernel_rfl) (by kernel_rfl) (by kernel_rfl)
      (OpenSpec.preRow_of_cond 8 hx (by kernel_rfl) (fun k hk => by cases hk) (by kernel_rfl) (laid_met os))) ?_
  intro W base args ds gs before hval hW _ _ hwt _ _ _
  exact contract H enc W base args ds gs before _ hval hW hwt
theorem said : Rows.StrongAloneSaid :=
  OpenClaim.holds_of_cond 6 Tryz.f6 rfl rfl rfl rfl rfl rfl rfl ⟨rfl, rfl, rfl, rfl, rfl⟩ rfl rfl rfl rfl rfl (by kernel_rfl) Tryz.func6 (by kernel_rfl)
    (of_decide_eq_true (by kernel_rfl)) (by unfold Func.isWrapper; first | (rw [if_pos (by decide +kernel)]; kernel_rfl) | (rw [if_neg (by decide +kernel)]; exact ⟨rfl, rfl⟩))
    (fun os started H enc _ F => by rw [OpenClaim.pre_eq_preRow]; exact lifted os started H enc F)
theorem plain (f : FuncId) (fn : Func) (hf : Tryz.pinned.checked.prog.funcNamed "chandler/chandlerlaw19.StrongAlone" = some f) (hfn : Tryz.pinned.checked.prog.funcs[f]? = some fn) :
    false = Tryz.pinned.checked.prog.looks [] ∧ ∀ (j : Nat) t, fn.params[j]? = some t → Tryz.pinned.checked.prog.wantsStandIn t = false := by
  obtain rfl : f = 6 := Option.some.inj ((show Tryz.prog.funcNamed "chandler/chandlerlaw19.StrongAlone" = some 6 by kernel_rfl).symm.trans hf) |>.symm
  obtain rfl : fn = Tryz.f6 := (Option.some.inj (Tryz.func6.symm.trans hfn)).symm
  refine ⟨by kernel_rfl, fun j t ht => ?_⟩
  have := List.all_eq_true.1 (show Tryz.f6.params.toList.all (fun t => !Tryz.prog.wantsStandIn t) = true by kernel_rfl) t (List.mem_of_getElem? (by simpa using ht))
  show Tryz.prog.wantsStandIn t = false
  simpa using this
theorem card : Rows.StrongAloneCardSaid :=
  Claim7.holds_tied_plain_at .later [] _ _ _ _ said (fun _ h => by cases h) (by kernel_rfl) (fun _ h => by cases h) strongAlone_row_tie rfl ⟨rfl, rfl⟩ (by kernel_rfl) rfl plain (by kernel_rfl)
end StrongAlone
end Go.Proofs.YtljcjoglabbcoaaGreatDoor
end
