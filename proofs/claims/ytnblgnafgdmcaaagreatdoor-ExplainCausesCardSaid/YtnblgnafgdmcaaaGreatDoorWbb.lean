/- Texts that the last one of this claim rests on: a layer over the guide's own conditions for code; contracts of the functions that the law reaches, one by one. No conditions beside those of the given rows. -/
import Derived.Test.YtnblgnafgdmcaaaGreatDoorWaz
import Derived.Test.YtnblgnafgdmcaaaGreatDoorWba
section
set_option linter.unusedSimpArgs false
set_option linter.unusedVariables false
namespace Go.Proofs.Tryz
open Go Go.Av
set_option maxRecDepth 10000
set_option linter.unusedSimpArgs false
set_option linter.unusedVariables false
variable {W0 : World}

theorem ixLitR {α : Type} (enc : α → AV) (hp : ∀ a, NotM (enc a)) (l : List α) (q : α → Bool) (g : FuncId) (caps : List AV) (σ : Store) (h : ∀ a ∈ l, ACall prog W0 g ([enc a] ++ caps) σ fun r σ' => r = .bool (q a) ∧ σ' = σ) :
    ACall prog W0 162 [.sl 88 (l.map enc), .fn g caps] σ fun r σ' => r = .int .i64 (idxL q l) ∧ σ' = σ := by
  refine fn_st [4] [] func162 rfl rfl ntmps162 rfl rfl (.int _ _) fun hs => ?_
  have hl := (small_map (hs _ (List.mem_cons_self ..))).1
  simp only [go_sem, simprocAttr, ↓reduceIte]
  refine LoopVC.upto [0, 1, 7] (.of (by kernel_rfl)) l.length (fun i A => A.env 8 = .int .i64 i ∧ A.st = σ ∧ ∀ a ∈ l.take i, q a = false) 0 (Nat.zero_le _) ?_ fun i B hi ⟨h8, hst, hI⟩ => ?_
  · simp only [go_sem, simprocAttr, ↓reduceIte]
    all_goals simp
  simp only [go_sem, simprocAttr, ↓reduceIte, h8, hst, List.length_map]
  refine ⟨fun hc => ⟨hc, ?_⟩, fun hc => EndR.ret ?_⟩
  · obtain ⟨a, ha⟩ := get_some hc
    simp only [atV_map ha, okM_notM (hp a), unm_notM (hp a), true_and]
    refine CallA.readsC (by simp only [go_sem, simprocAttr, ↓reduceIte, hst]) (h a (List.mem_of_getElem? ha)) ?_
    simp only [go_sem, simprocAttr, ↓reduceIte, h8, hst]
    refine ⟨fun hq => EndR.ret ?_, fun hq => ⟨hc, int_succ hc hl, ?_⟩⟩
    · simp only [go_sem, simprocAttr, ↓reduceIte, hst]
      exact weak_int (idxL_at ha hq hI).symm
    rw [take_succ_get ha]
    intro b hb
    rcases List.mem_append.1 hb with hb | hb
    · exact hI b hb
    · rw [List.mem_singleton.1 hb]; exact hq
  · simp only [go_sem, simprocAttr, ↓reduceIte, hst]
    rw [idxL_none (by rwa [List.take_of_length_le hc] at hI)]
    exact .refl _
theorem ixLitsR {α : Type} (enc : α → AV) (hp : ∀ a, NotM (enc a)) (l : List α) (q : α → Bool) (g : FuncId) (caps : List AV) (σ : Store) (h : ∀ a ∈ l, ACall prog W0 g ([enc a] ++ caps) σ fun r σ' => r = .bool (q a) ∧ σ' = σ) :
    ACall prog W0 139 [.sl 90 (l.map enc), .fn g caps] σ fun r σ' => r = .int .i64 (idxL q l) ∧ σ' = σ := by
  refine fn_st [4] [] func139 rfl rfl ntmps139 rfl rfl (.int _ _) fun hs => ?_
  have hl := (small_map (hs _ (List.mem_cons_self ..))).1
  simp only [go_sem, simprocAttr, ↓reduceIte]
  refine LoopVC.upto [0, 1, 7] (.of (by kernel_rfl)) l.length (fun i A => A.env 8 = .int .i64 i ∧ A.st = σ ∧ ∀ a ∈ l.take i, q a = false) 0 (Nat.zero_le _) ?_ fun i B hi ⟨h8, hst, hI⟩ => ?_
  · simp only [go_sem, simprocAttr, ↓reduceIte]
    all_goals simp
  simp only [go_sem, simprocAttr, ↓reduceIte, h8, hst, List.length_map]
  refine ⟨fun hc => ⟨hc, ?_⟩, fun hc => EndR.ret ?_⟩
  · obtain ⟨a, ha⟩ := get_some hc
    simp only [atV_map ha, okM_notM (hp a), unm_notM (hp a), true_and]
    refine CallA.readsC (by simp only [go_sem, simprocAttr, ↓reduceIte, hst]) (h a (List.mem_of_getElem? ha)) ?_
    simp only [go_sem, simprocAttr, ↓reduceIte, h8, hst]
    refine ⟨fun hq => EndR.ret ?_, fun hq => ⟨hc, int_succ hc hl, ?_⟩⟩
    · simp only [go_sem, simprocAttr, ↓reduceIte, hst]
      exact weak_int (idxL_at ha hq hI).symm
    rw [take_succ_get ha]
    intro b hb
    rcases List.mem_append.1 hb with hb | hb
    · exact hI b hb
    · rw [List.mem_singleton.1 hb]; exact hq
  · simp only [go_sem, simprocAttr, ↓reduceIte, hst]
    rw [idxL_none (by rwa [List.take_of_length_le hc] at hI)]
    exact .refl _
theorem anLitR {α : Type} (enc : α → AV) (hp : ∀ a, NotM (enc a)) (l : List α) (q : α → Bool) (g : FuncId) (caps : List AV) (σ : Store) (h : ∀ a ∈ l, ACall prog W0 g ([enc a] ++ caps) σ fun r σ' => r = .bool (q a) ∧ σ' = σ) :
    ACall prog W0 141 [.sl 88 (l.map enc), .fn g caps] σ fun r σ' => r = .bool (l.any q) ∧ σ' = σ := by
  refine fn_st [4] [] func141 rfl rfl ntmps141 rfl rfl (.bool _) fun hs => ?_
  simp only [go_sem, simprocAttr, ↓reduceIte]
  refine CallA.reads (by simp only [go_sem, simprocAttr, ↓reduceIte]) (ixLitR enc hp l q g caps σ h) ?_
  simp only [go_sem, simprocAttr, ↓reduceIte]
  refine EndR.ret ?_
  simp only [go_sem, simprocAttr, ↓reduceIte]
  rw [idxL_ge]
  exact .refl _

theorem cn_variable (l : Int) (h : l.natAbs ≤ 9223372036854775807) : PureFn prog W0 145 [.int .i64 l] (.int .u64 (l.natAbs : Nat)) := by
  refine fn_pure [2] [] func145 rfl rfl ntmps145 rfl rfl (.int _ _) fun hs σ => ?_
  simp only [go_sem, simprocAttr, ↓reduceIte]
  refine ⟨fun h0 => weak_int ?_, fun h0 => weak_int ?_⟩
  · rw [IntKind.wrap_u64, IntKind.wrap_u64]; omega
  · rw [IntKind.wrap_u64]; omega

def litsAV (c : List Int) : AV := .sl 88 (c.map (.int .i64))
theorem NotM.int64 (n : Int) : NotM (AV.int .i64 n) := trivial
theorem NotM.lits (c : List Int) : NotM (litsAV c) := trivial
@[go_sem] theorem okM_litsAV (g : Option Bool) (l : List Int) : okM g (litsAV l) = True := eq_true trivial
@[go_sem] theorem unm_litsAV (l : List Int) : unm (litsAV l) = litsAV l := rfl
@[go_sem] theorem fitsB_litsAV (P : Program) (t : TypeId) (l : List Int) : fitsB P t (litsAV l) = prim P t := rfl
theorem ids_lits (c : List Int) : IdsLt 0 (litsAV c) := ids_map (fun _ => .int _ _) c
/-- A set of clauses: its variables, its clauses. -/
def setO (n : Nat) (cv : AV) : Option SObj := some (.cells 160 [.agg 160 [.int .i64 n, cv]])

theorem cn_cmp (a b : Int) (ha : a.natAbs ≤ 9223372036854775807) (hb : b.natAbs ≤ 9223372036854775807) : PureFn prog W0 148 [.int .i64 a, .int .i64 b] (.int .i64 (orL [sgn (a.natAbs : Nat) (b.natAbs : Nat), sgn a b])) := by
  refine fn_pure [4] [] func148 rfl rfl ntmps148 rfl rfl (.int _ _) fun hs σ => ?_
  simp only [go_sem, simprocAttr, ↓reduceIte]
  refine CallA.fn (cn_variable a ha) ?_
  simp only [go_sem, simprocAttr, ↓reduceIte]
  refine CallA.fn (cn_variable b hb) ?_
  simp only [go_sem, simprocAttr, ↓reduceIte]
  refine CallA.fn (cmpUint _ _) ?_
  simp only [go_sem, simprocAttr, ↓reduceIte]
  refine CallA.fn (cmpLit a b) ?_
  simp only [go_sem, simprocAttr, ↓reduceIte]
  refine CallA.fn ((cmp_or [_, _]).weak (.cons (.lit _ _) .nil)) ?_
  simp only [go_sem, simprocAttr, ↓reduceIte]
  try exact .refl _

theorem cn_may1 (σ : Store) (id n : Nat) (cv : AV) (hid : σ[id]? = some (setO n cv)) (hn : n ≤ 9223372036854775807) (l : Int) (hl : l.natAbs ≤ 9223372036854775807) :
    ACall prog W0 144 [.int .i64 l, .loc 86 (.ptr 160 id 0 [])] σ fun r σ' => r = .bool (!wfL n l) ∧ σ' = σ := by
  refine fn_st [3] [] func144 rfl rfl ntmps144 rfl rfl (.bool _) fun hs => ?_
  simp only [go_sem, simprocAttr, ↓reduceIte]
  refine ⟨.of (by kernel_rfl), CallP.fnG (fun _ => cn_variable l hl) ?_⟩
  simp only [go_sem, simprocAttr, ↓reduceIte, look_id hid]
  refine EndR.ret ?_
  simp only [go_sem, simprocAttr, ↓reduceIte]
  refine weak_bool ?_
  have hw : IntKind.u64.wrap (n : Int) = n := by rw [IntKind.wrap_u64]; omega
  rw [hw, wfL, Bool.not_and, ← decide_not, ← decide_not]
  congr 1
  · rw [Bool.eq_iff_iff]; simp
  · exact decide_eq_decide.2 (by omega)

theorem cn_may (σ : Store) (id n : Nat) (cv : AV) (cls : List (List Int)) (hid : σ[id]? = some (setO n cv)) (hb : Bld σ cv 90 (cls.map litsAV)) (hn : n ≤ 9223372036854775807) (hc5 : cls.length < 5000) (c : List Int) (hc : ∀ l ∈ c, l.natAbs ≤ 9223372036854775807) :
    ACall prog W0 113 [.ptr 160 id 0 [], litsAV c] σ fun r σ' => r = .bool (wfC n c) ∧ σ' = σ := by
  refine fn_st [4] [2] func113 rfl rfl ntmps113 rfl rfl (.bool _) fun hs => ?_
  have h5 : decide ((cls.length : Int) < 5000) = true := decide_eq_true (by omega)
  simp only [go_sem, simprocAttr, ↓reduceIte, look_id hid, hb.ok, hb.un, hb.len, hb.lenC, List.length_map, h5]
  refine CallP.st (fun _ => anLitR (.int .i64) NotM.int64 c (fun l => !wfL n l) _ [.loc 86 (.ptr 160 id 0 [])] σ fun l hl => cn_may1 σ id n cv hid hn l (hc l hl)) ?_
  simp only [go_sem, simprocAttr, ↓reduceIte]
  refine EndR.ret ?_
  simp only [go_sem, simprocAttr, ↓reduceIte]
  refine weak_bool ?_
  rw [wfC, List.all_eq_not_any_not]

theorem sl_clone (c : List Int) (h0 : c ≠ []) (hl : c.length ≤ 1048576) : PureFn prog W0 146 [litsAV c] (litsAV c) := by
  refine fn_pure [2] [] func146 rfl rfl ntmps146 rfl rfl (ids_lits _) fun hs σ => ?_
  cases c with
  | nil => exact absurd rfl h0
  | cons x c =>
    simp only [go_sem, simprocAttr, ↓reduceIte, litsAV]
    refine AppA.own 1048576 (by kernel_rfl) (.inr (.inl rfl)) (.sl _ _ _) (by simpa using hl) fun v' σ' ha' => ?_
    have hb' := (Built.app (σ := σ) ⟨.inr (.inl rfl), .refl _, fun t h => by cases h⟩ ha')
    simp only [go_sem, simprocAttr, ↓reduceIte, hb'.ok, hb'.un]
    exact ⟨hb'.weak, hb'.ext⟩

theorem sl_cloneRow (σ : Store) (c : List Int) (h0 : c ≠ []) (hl : c.length ≤ 1048576) : ACall prog W0 146 [litsAV c] σ fun r σ' => r = .row 88 σ.length 0 c.length ∧ σ' = σ ++ [some (.cells 88 (c.map (.int .i64)))] := by
  refine fn_call [2] [] func146 rfl rfl ntmps146 rfl rfl fun hs => ?_
  cases c with
  | nil => exact absurd rfl h0
  | cons x c =>
    simp only [go_sem, simprocAttr, ↓reduceIte, litsAV]
    refine AppA.row 1048576 (by kernel_rfl) (.inr (.inl rfl)) (.sl _ _ _) (by simpa using hl) (fun h => by cases h) fun _ => ?_
    simp only [go_sem, simprocAttr, ↓reduceIte]
    refine EndR.ret ?_
    simp only [go_sem, simprocAttr, ↓reduceIte]
    exact ⟨_, .refl _, by simp [killOf], by simp, rfl⟩

theorem so_insertion (σ : Store) (id : Nat) (xs : List Int) (lo hi : Nat) (hlo : lo ≤ hi) (hhi : hi ≤ xs.length) (hid : σ[id]? = some (some (.cells 88 (xs.map (.int .i64))))) (hx : xs.length ≤ 1048576) (f : Int → Int → Int) (g : FuncId) (caps : List AV)
    (hcmp : ∀ a ∈ xs, ∀ b ∈ xs, PureFn prog W0 g ([.int .i64 a, .int .i64 b] ++ caps) (.int .i64 (f a b))) :
    ACall prog W0 174 [.row 88 id 0 xs.length, .int .i64 lo, .int .i64 hi, .fn g caps] σ fun r σ' => ∃ ys : List Int, ys.Perm xs ∧ σ' = σ.set id (some (.cells 88 (ys.map (.int .i64)))) := by
  have hidl : id < σ.length := (List.getElem?_eq_some_iff.1 hid).1
  refine fn_call [] [] func174 rfl rfl ntmps174 rfl rfl fun hs => ?_
  simp only [go_sem, simprocAttr, ↓reduceIte]
  refine LoopVC.falls [0, 1, 2, 3] (.of (by kernel_rfl)) (fun k A => ∃ i : Nat, A.env 8 = .int .i64 i ∧ k = hi - i ∧ 0 < i ∧ lo < i ∧ ∃ ys : List Int, ys.Perm xs ∧ A.st = σ.set id (some (.cells 88 (ys.map (.int .i64))))) (hi - (lo + 1)) ?_ fun k B ⟨i, h8, hk, hi0, hli, ys, hp, hst⟩ => ?_
  · simp only [go_sem, simprocAttr, ↓reduceIte]
    exact ⟨lo + 1, int_succ (N := 1048577) (by omega) (by rw [maxLen_eq]; omega), rfl, by omega, by omega, xs, .refl _, (set_id hid).symm⟩
  simp only [go_sem, simprocAttr, ↓reduceIte, h8, hst]
  refine ⟨fun hih => ?_, fun hih => EndR.normal ?_⟩
  · refine LoopVC.ats [0, 1, 2, 3, 8] (.of (by kernel_rfl)) (fun A => ∃ ys : List Int, ys.Perm xs ∧ A.st = σ.set id (some (.cells 88 (ys.map (.int .i64))))) ?_ fun A ⟨ys, hp, hst⟩ => ?_
    · refine LoopVC.falls [0, 1, 2, 3, 8] (.of (by kernel_rfl)) (fun k A => ∃ ys : List Int, A.env 9 = .int .i64 (k : Nat) ∧ k ≤ i ∧ ys.Perm xs ∧ A.st = σ.set id (some (.cells 88 (ys.map (.int .i64))))) i ?_ fun k A ⟨ys, h9, hki, hp, hst⟩ => ?_
      · simp only [go_sem, simprocAttr, ↓reduceIte]
        exact ⟨ys, hp, hst⟩
      have hyl := hp.length_eq
      obtain ⟨a, ha⟩ := get_some (show k < ys.length by omega)
      obtain ⟨b, hb⟩ := get_some (show k - 1 < ys.length by omega)
      have hw : IntKind.i64.wrap ((k : Int) - 1) = (k : Int) - 1 := wrap_in (by omega)
      have hn : ((k : Int) - 1).toNat = k - 1 := by omega
      have ham := hp.subset (List.mem_of_getElem? ha)
      have hbm := hp.subset (List.mem_of_getElem? hb)
      simp only [go_sem, simprocAttr, ↓reduceIte, h9, hst, look_set hidl, live_set hidl, hw, hn, Nat.zero_add, List.getElem?_map, ha, hb, Option.map_some]
      refine ⟨.of (by kernel_rfl), fun _ => by omega, fun _ => by omega, CallP.go (fun _ => hcmp a ham b hbm) ?_⟩
      simp only [go_sem, simprocAttr, ↓reduceIte, h9, hst]
      refine ⟨fun hlt => ?_, fun hge => ⟨ys, hp, rfl⟩⟩
      have hlk : lo < k := by simp only [Bool.and_eq_true, decide_eq_true_eq] at hlt; exact hlt.1
      simp only [go_sem, simprocAttr, ↓reduceIte, h9, hst, look_set hidl, live_set hidl, setLook_set hidl, hw, hn, Nat.zero_add, List.getElem?_map, ha, hb, Option.map_some]
      refine ⟨.of (by kernel_rfl), by omega, by omega, by omega, by omega, ?_, .here (k - 1) (by omega) ⟨(ys.set k b).set (k - 1) a, ?_, by omega, (swap_perm hb ha).trans hp, ?_⟩⟩
      · rw [← List.map_set]
        obtain ⟨y, hy⟩ := get_some (show k - 1 < ((ys.set k b).map (AV.int .i64)).length by simp; omega)
        rw [hy]; rfl
      · simp only [go_sem, simprocAttr, ↓reduceIte]
        congr 1
        omega
      · simp only [go_sem, simprocAttr, ↓reduceIte, hst]
        rw [List.map_set, List.map_set]
    simp only [go_sem, simprocAttr, ↓reduceIte, h8, hst]
    exact .here (hi - (i + 1)) (by omega) ⟨i + 1, int_succ hih (by rw [maxLen_eq]; omega), rfl, by omega, by omega, ys, hp, by simp only [go_sem, simprocAttr, ↓reduceIte, hst]⟩
  · simp only [go_sem, simprocAttr, ↓reduceIte, hst]
    exact ⟨_, .refl _, by simp, ys, hp, rfl⟩
end Go.Proofs.Tryz
end
section
set_option linter.unusedSimpArgs false
set_option linter.unusedVariables false
namespace Go.Proofs.Tryz
open Go Go.Av
set_option maxRecDepth 10000
set_option linter.unusedSimpArgs false
set_option linter.unusedVariables false
variable {W0 : World}

def tabOf (l : List UInt8) : List UInt8 := l
theorem val_tab (A : AState) (l m : List UInt8) (h : (l.append m).length ≤ maxLen) : A.val (.const (.string ⟨(l.append m).toArray⟩)) = .str (tabOf (l.append m)) := by
  show (if (l.append m).toArray.toList.length ≤ maxLen then AV.str (l.append m).toArray.toList else .undef) = _
  rw [if_pos (by simpa using h)]; rfl
theorem bi_len64 (σ : Store) (n : Nat) (hn : n < 256) : ACall prog W0 183 [.int .u64 n] σ fun r σ' => (∃ m : Nat, m ≤ 255 ∧ r = .int .i64 m) ∧ σ' = σ := by
  · refine fn_call [2] [] func183 rfl rfl ntmps183 rfl rfl fun hs => ?_
    have h1 : decide ((4294967296 : Int) ≤ (n : Int)) = false := decide_eq_false (by omega)
    have h2 : decide ((65536 : Int) ≤ (n : Int)) = false := decide_eq_false (by omega)
    have h3 : decide ((256 : Int) ≤ (n : Int)) = false := decide_eq_false (by omega)
    simp only [go_sem, simprocAttr, ↓reduceIte, h1, h2, h3]
    refine JoinVC.at [] (by kernel_rfl) (fun A => A.st = σ ∧ A.env 0 = .int .u64 n ∧ A.env 2 = .int .i64 0) (fun h => by cases h) (fun _ => ?_) fun B ⟨hst, hx, hy⟩ => ?_
    · simp only [go_sem, simprocAttr, ↓reduceIte]
    simp only [go_sem, simprocAttr, ↓reduceIte, h1, h2, h3, hst, hx, hy]
    refine JoinVC.at [] (by kernel_rfl) (fun A => A.st = σ ∧ A.env 0 = .int .u64 n ∧ A.env 2 = .int .i64 0) (fun h => by cases h) (fun _ => ?_) fun B ⟨hst, hx, hy⟩ => ?_
    · simp only [go_sem, simprocAttr, ↓reduceIte, hst, hx, hy]
    simp only [go_sem, simprocAttr, ↓reduceIte, h1, h2, h3, hst, hx, hy]
    refine JoinVC.at [] (by kernel_rfl) (fun A => A.st = σ ∧ A.env 0 = .int .u64 n ∧ A.env 2 = .int .i64 0) (fun h => by cases h) (fun _ => ?_) fun B ⟨hst, hx, hy⟩ => ?_
    · simp only [go_sem, simprocAttr, ↓reduceIte, hst, hx, hy]
    simp only [go_sem, simprocAttr, ↓reduceIte, h1, h2, h3, hst, hx, hy]
    simp (decide := true) only [val_tab]
    generalize hT : tabOf _ = tab
    have hlen : tab.length = 256 := by rw [← hT]; decide
    clear hT
    simp only [go_sem, simprocAttr, ↓reduceIte]
    have hw : (IntKind.u8.wrap (n : Int)).toNat = n := by
      show ((n : Int) % 256).toNat = n
      omega
    refine ⟨by rw [hw, hlen]; exact hn, EndR.ret ?_⟩
    simp only [go_sem, simprocAttr, ↓reduceIte]
    refine ⟨_, .refl _, by simp [hst], ⟨(tab[(IntKind.u8.wrap (n : Int)).toNat]?.getD 0).toNat, ?_, ?_⟩, hst⟩
    · have := (tab[(IntKind.u8.wrap (n : Int)).toNat]?.getD 0).toNat_lt
      omega
    · have := (tab[(IntKind.u8.wrap (n : Int)).toNat]?.getD 0).toNat_lt
      rw [wrap_in (by omega), Int.zero_add]

theorem bi_len (σ : Store) (n : Nat) (hn : n < 256) : ACall prog W0 165 [.int .u64 n] σ fun r σ' => (∃ m : Nat, m ≤ 255 ∧ r = .int .i64 m) ∧ σ' = σ := by
  refine fn_call [2] [] func165 rfl rfl ntmps165 rfl rfl fun hs => ?_
  simp only [go_sem, simprocAttr, ↓reduceIte]
  refine CallA.goes (by simp only [go_sem, simprocAttr, ↓reduceIte]) (bi_len64 σ n hn) fun r σ' ⟨⟨m, hm, hr⟩, hσ⟩ => ?_
  subst hr hσ
  simp only [go_sem, simprocAttr, ↓reduceIte]
  refine EndR.ret ?_
  simp only [go_sem, simprocAttr, ↓reduceIte]
  exact ⟨_, .refl _, m, hm, rfl⟩

end Go.Proofs.Tryz
end
section
set_option linter.unusedSimpArgs false
set_option linter.unusedVariables false
namespace Go.Proofs.Tryz
open Go Go.Av
set_option maxRecDepth 10000
set_option linter.unusedSimpArgs false
set_option linter.unusedVariables false
variable {W0 : World}

def ints (ys : List Int) : Option SObj := some (.cells 88 (ys.map (.int .i64)))
/-- The row, put in some other order. -/
def Perms (σ st : Store) (id : Nat) (xs : List Int) : Prop := ∃ ys : List Int, ys.Perm xs ∧ st = σ.set id (ints ys)

theorem isSome_at {l : List AV} {i : Nat} (h : i < l.length) : (l[i]?.bind fun x => some x).isSome = true := by
  rw [List.getElem?_eq_getElem h]; rfl

theorem so_reverse (σ : Store) (id : Nat) (xs : List Int) (lo hi : Nat) (hlo : lo < hi) (hhi : hi ≤ xs.length) (hid : σ[id]? = some (ints xs)) (hx : xs.length ≤ 1048576) (g : AV) :
    ACall prog W0 178 [.row 88 id 0 xs.length, .int .i64 lo, .int .i64 hi, g] σ fun r σ' => Perms σ σ' id xs := by
  have hidl : id < σ.length := (List.getElem?_eq_some_iff.1 hid).1
  refine fn_call [] [] func178 rfl rfl ntmps178 rfl rfl fun hs => ?_
  have hw0 : IntKind.i64.wrap ((hi : Int) - 1) = ((hi - 1 : Nat) : Int) := by rw [wrap_in (by omega)]; omega
  simp only [go_sem, simprocAttr, ↓reduceIte, hw0]
  refine LoopVC.falls [0] (.of (by kernel_rfl)) (fun k A => ∃ i j : Nat, A.env 8 = .int .i64 i ∧ A.env 9 = .int .i64 j ∧ k = j ∧ j < xs.length ∧ ∃ ys : List Int, ys.Perm xs ∧ A.st = σ.set id (ints ys)) (hi - 1) ?_ fun k B ⟨i, j, h8, h9, hk, hj, ys, hp, hst⟩ => ?_
  · simp only [go_sem, simprocAttr, ↓reduceIte]
    exact ⟨lo, hi - 1, rfl, rfl, rfl, by omega, xs, .refl _, (set_id hid).symm⟩
  have hyl := hp.length_eq
  unfold ints at hst
  simp only [go_sem, simprocAttr, ↓reduceIte, h8, h9, hst]
  refine ⟨fun hlt => ?_, fun hge => EndR.normal ?_⟩
  · obtain ⟨a, ha⟩ := get_some (show i < ys.length by omega)
    obtain ⟨b, hb⟩ := get_some (show j < ys.length by omega)
    have hw1 : IntKind.i64.wrap ((j : Int) - 1) = ((j - 1 : Nat) : Int) := by rw [wrap_in (by omega)]; omega
    simp only [go_sem, simprocAttr, ↓reduceIte, h8, h9, hst, look_set hidl, live_set hidl, setLook_set hidl, hw1, Nat.zero_add, List.getElem?_map, ha, hb, Option.map_some, Int.toNat_natCast]
    refine ⟨.of (by kernel_rfl), by omega, by omega, by omega, by omega, ?_, .here (j - 1) (by omega) ⟨i + 1, j - 1, int_succ (N := 1048577) (by omega) (by rw [maxLen_eq]; omega), rfl, rfl, by omega, (ys.set i b).set j a, (swap_perm hb ha).trans hp, ?_⟩⟩
    · exact isSome_at (by simp; omega)
    · unfold ints
      simp only [go_sem, simprocAttr, ↓reduceIte, hst]
      rw [List.map_set, List.map_set]
  · simp only [go_sem, simprocAttr, ↓reduceIte, hst]
    exact ⟨_, .refl _, by simp, ys, hp, rfl⟩

theorem so_partEq (σ : Store) (id : Nat) (xs : List Int) (lo hi pv : Nat) (hlo : lo < hi) (hhi : hi ≤ xs.length) (hpl : lo ≤ pv) (hph : pv < hi) (hid : σ[id]? = some (ints xs)) (hx : xs.length ≤ 1048576) (f : Int → Int → Int) (g : FuncId) (caps : List AV)
    (hcmp : ∀ a ∈ xs, ∀ b ∈ xs, PureFn prog W0 g ([.int .i64 a, .int .i64 b] ++ caps) (.int .i64 (f a b))) :
    ACall prog W0 180 [.row 88 id 0 xs.length, .int .i64 lo, .int .i64 hi, .int .i64 pv, .fn g caps] σ fun r σ' => (∃ i : Nat, r = .int .i64 i ∧ lo < i ∧ i ≤ hi) ∧ Perms σ σ' id xs := by
  have hidl : id < σ.length := (List.getElem?_eq_some_iff.1 hid).1
  have hid' := hid
  unfold ints at hid'
  refine fn_call [10] [] func180 rfl rfl ntmps180 rfl rfl fun hs => ?_
  obtain ⟨a, ha⟩ := get_some (show lo < xs.length by omega)
  obtain ⟨b, hb⟩ := get_some (show pv < xs.length by omega)
  have hw0 : IntKind.i64.wrap ((hi : Int) - 1) = ((hi - 1 : Nat) : Int) := by rw [wrap_in (by omega)]; omega
  simp only [go_sem, simprocAttr, ↓reduceIte, hw0, look_id hid', live_id hid', setLook_id hid', look_set hidl, live_set hidl, setLook_set hidl, Nat.zero_add, List.getElem?_map, ha, hb, Option.map_some, Int.toNat_natCast]
  refine ⟨.of (by kernel_rfl), by omega, by omega, by omega, by omega, isSome_at (by simp; omega), ?_⟩
  have hp0 : ((xs.set lo b).set pv a).Perm xs := swap_perm hb ha
  refine LoopVC.at [] (.of (by kernel_rfl)) (fun A => ∃ i : Nat, A.env 11 = .int .i64 i ∧ lo < i ∧ i ≤ hi ∧ Perms σ A.st id xs) ?_ fun B ⟨i, h11, q1, q2, q3⟩ => ?_
  · refine LoopVC.falls [0, 1, 4] (.of (by kernel_rfl)) (fun k A => ∃ i j : Nat, A.env 11 = .int .i64 i ∧ A.env 12 = .int .i64 j ∧ k = hi - i ∧ lo < i ∧ i ≤ hi ∧ lo ≤ j ∧ j < hi ∧ ∃ ys : List Int, ys.Perm xs ∧ A.st = σ.set id (ints ys)) (hi - (lo + 1)) ?_ fun k B ⟨i, j, h11, h12, hk, hi1, hi2, hj1, hj2, ys, hp, hst⟩ => ?_
    · simp only [go_sem, simprocAttr, ↓reduceIte]
      exact ⟨lo + 1, hi - 1, int_succ (N := 1048577) (by omega) (by rw [maxLen_eq]; omega), rfl, rfl, by omega, by omega, by omega, by omega, _, hp0, by unfold ints; rw [List.map_set, List.map_set]⟩
    have hyl := hp.length_eq
    unfold ints at hst
    obtain ⟨a, ha⟩ := get_some (show lo < ys.length by omega)
    have ham := hp.subset (List.mem_of_getElem? ha)
    refine LoopVC.at [0, 1, 4, 12] (.of (by kernel_rfl)) (fun A => ∃ i' : Nat, A.env 11 = .int .i64 i' ∧ i ≤ i' ∧ i' ≤ hi ∧ (i' ≤ j + 1 ∨ i' = i) ∧ A.st = B.st) ?_ fun B2 ⟨i2, h11b, g1, g2, g3, hst2⟩ => ?_
    · refine LoopVC.falls [0, 1, 4, 12] (.of (by kernel_rfl)) (fun k A => ∃ i' : Nat, A.env 11 = .int .i64 i' ∧ k = hi - i' ∧ i ≤ i' ∧ i' ≤ hi ∧ (i' ≤ j + 1 ∨ i' = i) ∧ A.st = B.st) (hi - i) ?_ fun k A ⟨i', h11', hk', e1, e2, e3, hst'⟩ => ?_
      · simp only [go_sem, simprocAttr, ↓reduceIte, h11]
        exact ⟨i, rfl, rfl, Nat.le_refl _, hi2, .inr rfl⟩
      simp only [go_sem, simprocAttr, ↓reduceIte, h11', h12, hst', hst, look_set hidl, live_set hidl, Nat.zero_add, List.getElem?_map, ha, Option.map_some, Int.toNat_natCast]
      refine ⟨.of (by kernel_rfl), fun _ => by omega, fun _ => by omega, fun _ => by rw [List.getElem?_eq_getElem (show i' < ys.length by omega)]; rfl, CallP.go (r := .int .i64 (f a (ys[i']?.getD 0))) (fun hg => ?_) ?_⟩
      · have hg := of_decide_eq_true hg
        obtain ⟨c, hc⟩ := get_some (show i' < ys.length by omega)
        rw [hc]
        exact hcmp a ham c (hp.subset (List.mem_of_getElem? hc))
      simp only [go_sem, simprocAttr, ↓reduceIte, h11', h12, hst']
      refine ⟨fun hb => ?_, fun _ => ⟨i', rfl, e1, e2, e3⟩⟩
      have hij : i' ≤ j := by simp only [Bool.and_eq_true, decide_eq_true_eq] at hb; exact hb.1
      exact .here (hi - (i' + 1)) (by omega) ⟨i' + 1, int_succ (N := 1048577) (by omega) (by rw [maxLen_eq]; omega), rfl, by omega, by omega, .inl (by omega), hst'⟩
    simp only [go_sem, simprocAttr, ↓reduceIte]
    refine LoopVC.at [0, 1, 4, 11] (.of (by kernel_rfl)) (fun A => ∃ j' : Nat, A.env 12 = .int .i64 j' ∧ lo ≤ j' ∧ j' ≤ j ∧ A.st = B.st) ?_ fun B3 ⟨j2, h12b, f1, f2, hst3⟩ => ?_
    · refine LoopVC.falls [0, 1, 4, 11] (.of (by kernel_rfl)) (fun k A => ∃ j' : Nat, A.env 12 = .int .i64 j' ∧ k = j' ∧ lo ≤ j' ∧ j' ≤ j ∧ A.st = B.st) j ?_ fun k A ⟨j', h12', hk', e1, e2, hst'⟩ => ?_
      · simp only [go_sem, simprocAttr, ↓reduceIte]
        exact ⟨j, h12, rfl, hj1, Nat.le_refl _, hst2⟩
      obtain ⟨c, hc⟩ := get_some (show j' < ys.length by omega)
      have hcm := hp.subset (List.mem_of_getElem? hc)
      simp only [go_sem, simprocAttr, ↓reduceIte, h12', h11b, hst', hst, look_set hidl, live_set hidl, Nat.zero_add, List.getElem?_map, ha, hc, Option.map_some, Int.toNat_natCast]
      refine ⟨.of (by kernel_rfl), fun _ => by omega, fun _ => by omega, CallP.go (fun hg => hcmp a ham c hcm) ?_⟩
      simp only [go_sem, simprocAttr, ↓reduceIte, h12', h11b, hst']
      refine ⟨fun hb => ?_, fun _ => ⟨j', rfl, e1, e2⟩⟩
      have hij : i2 ≤ j' := by simp only [Bool.and_eq_true, decide_eq_true_eq] at hb; exact hb.1
      have hw1 : IntKind.i64.wrap ((j' : Int) - 1) = ((j' - 1 : Nat) : Int) := by rw [wrap_in (by omega)]; omega
      simp only [go_sem, simprocAttr, ↓reduceIte, h12', hw1]
      exact .here (j' - 1) (by omega) ⟨j' - 1, rfl, rfl, by omega, by omega, hst'⟩
    obtain ⟨c, hc⟩ := get_some (show j2 < ys.length by omega)
    simp only [go_sem, simprocAttr, ↓reduceIte, h11b, h12b]
    refine ⟨fun hgt => ⟨i2, rfl, by omega, g2, ys, hp, by rw [hst3, hst]; rfl⟩, fun hle => ?_⟩
    obtain ⟨d, hd⟩ := get_some (show i2 < ys.length by omega)
    have hw1 : IntKind.i64.wrap ((j2 : Int) - 1) = ((j2 - 1 : Nat) : Int) := by rw [wrap_in (by omega)]; omega
    simp only [go_sem, simprocAttr, ↓reduceIte, h12b, h11b, hst3, hst, hw1, look_set hidl, live_set hidl, setLook_set hidl, Nat.zero_add, List.getElem?_map, hc, hd, Option.map_some, Int.toNat_natCast]
    refine ⟨.of (by kernel_rfl), by omega, by omega, by omega, by omega, isSome_at (by simp; omega), .here (hi - (i2 + 1)) (by omega) ⟨i2 + 1, j2 - 1, int_succ (N := 1048577) (by omega) (by rw [maxLen_eq]; omega), rfl, rfl, by omega, by omega, by omega, by omega, (ys.set i2 c).set j2 d, (swap_perm hc hd).trans hp, by unfold ints; simp only [go_sem, simprocAttr, ↓reduceIte]; rw [List.map_set, List.map_set]⟩⟩
  simp only [go_sem, simprocAttr, ↓reduceIte, h11]
  refine EndR.ret ?_
  simp only [go_sem, simprocAttr, ↓reduceIte]
  exact ⟨_, .refl _, by obtain ⟨ys, _, e⟩ := q3; rw [e]; simp, ⟨i, rfl, q1, q2⟩, q3⟩
end Go.Proofs.Tryz
end
section
set_option linter.unusedSimpArgs false
set_option linter.unusedVariables false
namespace Go.Proofs.Tryz
open Go Go.Av
set_option maxRecDepth 10000
set_option linter.unusedSimpArgs false
set_option linter.unusedVariables false
variable {W0 : World}

theorem so_part (σ : Store) (id : Nat) (xs : List Int) (lo hi pv : Nat) (hlo : lo < hi) (hhi : hi ≤ xs.length) (hpl : lo ≤ pv) (hph : pv < hi) (hid : σ[id]? = some (ints xs)) (hx : xs.length ≤ 1048576) (f : Int → Int → Int) (g : FuncId) (caps : List AV)
    (hcmp : ∀ a ∈ xs, ∀ b ∈ xs, PureFn prog W0 g ([.int .i64 a, .int .i64 b] ++ caps) (.int .i64 (f a b))) :
    ACall prog W0 181 [.row 88 id 0 xs.length, .int .i64 lo, .int .i64 hi, .int .i64 pv, .fn g caps] σ fun r σ' => (∃ (j : Nat) (b : Bool), r = .tup [.int .i64 j, .bool b] ∧ lo ≤ j ∧ j < hi) ∧ Perms σ σ' id xs := by
  have hidl : id < σ.length := (List.getElem?_eq_some_iff.1 hid).1
  have hid' := hid
  unfold ints at hid'
  refine fn_call [10, 11] [] func181 rfl rfl ntmps181 rfl rfl fun hs => ?_
  obtain ⟨a, ha⟩ := get_some (show lo < xs.length by omega)
  obtain ⟨b, hb⟩ := get_some (show pv < xs.length by omega)
  have hw0 : IntKind.i64.wrap ((hi : Int) - 1) = ((hi - 1 : Nat) : Int) := by rw [wrap_in (by omega)]; omega
  simp only [go_sem, simprocAttr, ↓reduceIte, hw0, look_id hid', live_id hid', setLook_id hid', look_set hidl, live_set hidl, setLook_set hidl, Nat.zero_add, List.getElem?_map, ha, hb, Option.map_some, Int.toNat_natCast]
  refine ⟨.of (by kernel_rfl), by omega, by omega, by omega, by omega, isSome_at (by simp; omega), ?_⟩
  have hp0 : ((xs.set lo b).set pv a).Perm xs := swap_perm hb ha
  obtain ⟨ys, hys⟩ : ∃ ys, ys = (xs.set lo b).set pv a := ⟨_, rfl⟩
  have hp : ys.Perm xs := by rw [hys]; exact hp0
  have hyl := hp.length_eq
  have hst0 : ((xs.map (AV.int .i64)).set lo (.int .i64 b)).set pv (.int .i64 a) = ys.map (.int .i64) := by rw [hys, List.map_set, List.map_set]
  rw [hst0]
  obtain ⟨a, ha⟩ := get_some (show lo < ys.length by omega)
  have ham := hp.subset (List.mem_of_getElem? ha)
  refine LoopVC.at [0, 1, 4, 13] (.of (by kernel_rfl)) (fun A => ∃ i' : Nat, A.env 12 = .int .i64 i' ∧ (lo + 1) ≤ i' ∧ i' ≤ hi ∧ (i' ≤ (hi - 1) + 1 ∨ i' = (lo + 1)) ∧ A.st = σ.set id (some (.cells 88 (ys.map (.int .i64))))) ?_ fun B2 ⟨i2, h12b, g1, g2, g3, hst2⟩ => ?_
  · refine LoopVC.falls [0, 1, 4, 13] (.of (by kernel_rfl)) (fun k A => ∃ i' : Nat, A.env 12 = .int .i64 i' ∧ k = hi - i' ∧ (lo + 1) ≤ i' ∧ i' ≤ hi ∧ (i' ≤ (hi - 1) + 1 ∨ i' = (lo + 1)) ∧ A.st = σ.set id (some (.cells 88 (ys.map (.int .i64))))) (hi - (lo + 1)) ?_ fun k A ⟨i', h11', hk', e1, e2, e3, hst'⟩ => ?_
    · simp only [go_sem, simprocAttr, ↓reduceIte]
      exact ⟨(lo + 1), int_succ (N := 1048577) (by omega) (by rw [maxLen_eq]; omega), rfl, by omega, by omega, .inr rfl⟩
    simp only [go_sem, simprocAttr, ↓reduceIte, h11', Nat.zero_add, hst', look_set hidl, live_set hidl, Nat.zero_add, List.getElem?_map, ha, Option.map_some, Int.toNat_natCast]
    refine ⟨.of (by kernel_rfl), fun _ => by omega, fun _ => by rw [List.getElem?_eq_getElem (show i' < ys.length by omega)]; rfl, fun _ => by omega, CallP.go (r := .int .i64 (f (ys[i']?.getD 0) a)) (fun hg => ?_) ?_⟩
    · have hg := of_decide_eq_true hg
      obtain ⟨c, hc⟩ := get_some (show i' < ys.length by omega)
      rw [hc]
      exact hcmp c (hp.subset (List.mem_of_getElem? hc)) a ham
    simp only [go_sem, simprocAttr, ↓reduceIte, h11', hst']
    refine ⟨fun hb => ?_, fun _ => ⟨i', rfl, e1, e2, e3⟩⟩
    have hij : i' ≤ (hi - 1) := by simp only [Bool.and_eq_true, decide_eq_true_eq] at hb; exact hb.1
    exact .here (hi - (i' + 1)) (by omega) ⟨i' + 1, int_succ (N := 1048577) (by omega) (by rw [maxLen_eq]; omega), rfl, by omega, by omega, .inl (by omega), hst'⟩
  simp only [go_sem, simprocAttr, ↓reduceIte]
  refine LoopVC.at [0, 1, 4, 12] (.of (by kernel_rfl)) (fun A => ∃ j' : Nat, A.env 13 = .int .i64 j' ∧ lo ≤ j' ∧ j' ≤ (hi - 1) ∧ A.st = σ.set id (some (.cells 88 (ys.map (.int .i64))))) ?_ fun B3 ⟨j2, h13b, f1, f2, hst3⟩ => ?_
  · refine LoopVC.falls [0, 1, 4, 12] (.of (by kernel_rfl)) (fun k A => ∃ j' : Nat, A.env 13 = .int .i64 j' ∧ k = j' ∧ lo ≤ j' ∧ j' ≤ (hi - 1) ∧ A.st = σ.set id (some (.cells 88 (ys.map (.int .i64))))) (hi - 1) ?_ fun k A ⟨j', h12', hk', e1, e2, hst'⟩ => ?_
    · simp only [go_sem, simprocAttr, ↓reduceIte]
      exact ⟨(hi - 1), rfl, rfl, by omega, Nat.le_refl _, hst2⟩
    obtain ⟨c, hc⟩ := get_some (show j' < ys.length by omega)
    have hcm := hp.subset (List.mem_of_getElem? hc)
    simp only [go_sem, simprocAttr, ↓reduceIte, h12', h12b, hst', look_set hidl, live_set hidl, Nat.zero_add, List.getElem?_map, ha, hc, Option.map_some, Int.toNat_natCast]
    refine ⟨.of (by kernel_rfl), fun _ => by omega, fun _ => by omega, CallP.go (fun hg => hcmp c hcm a ham) ?_⟩
    simp only [go_sem, simprocAttr, ↓reduceIte, h12', h12b, hst']
    refine ⟨fun hb => ?_, fun _ => ⟨j', rfl, e1, e2⟩⟩
    have hij : i2 ≤ j' := by simp only [Bool.and_eq_true, decide_eq_true_eq] at hb; exact hb.1
    have hw1 : IntKind.i64.wrap ((j' : Int) - 1) = ((j' - 1 : Nat) : Int) := by rw [wrap_in (by omega)]; omega
    simp only [go_sem, simprocAttr, ↓reduceIte, h12', hw1]
    exact .here (j' - 1) (by omega) ⟨j' - 1, rfl, rfl, by omega, by omega, hst'⟩
  obtain ⟨c, hc⟩ := get_some (show j2 < ys.length by omega)
  simp only [go_sem, simprocAttr, ↓reduceIte, h12b, h13b]
  refine ⟨fun hgt => ?_, fun hle => ?_⟩
  · simp only [go_sem, simprocAttr, ↓reduceIte, h12b, h13b, hst3, look_set hidl, live_set hidl, setLook_set hidl, Nat.zero_add, List.getElem?_map, hc, ha, Option.map_some, Int.toNat_natCast]
    refine ⟨.of (by kernel_rfl), by omega, by omega, by omega, by omega, isSome_at (by simp; omega), EndR.ret ?_⟩
    simp only [go_sem, simprocAttr, ↓reduceIte]
    exact ⟨_, .refl _, by simp, ⟨j2, true, rfl, by omega, by omega⟩, (ys.set j2 a).set lo c, (swap_perm ha hc).trans hp, by unfold ints; rw [List.map_set, List.map_set]⟩
  obtain ⟨d, hd⟩ := get_some (show i2 < ys.length by omega)
  have hw1 : IntKind.i64.wrap ((j2 : Int) - 1) = ((j2 - 1 : Nat) : Int) := by rw [wrap_in (by omega)]; omega
  simp only [go_sem, simprocAttr, ↓reduceIte, h12b, h13b, hst3, hw1, look_set hidl, live_set hidl, setLook_set hidl, Nat.zero_add, List.getElem?_map, hc, hd, Option.map_some, Int.toNat_natCast]
  refine ⟨.of (by kernel_rfl), by omega, by omega, by omega, by omega, isSome_at (by simp; omega), ?_⟩
  have hp1 : ((ys.set i2 c).set j2 d).Perm xs := (swap_perm hc hd).trans hp
  refine LoopVC.at [0, 1] (.of (by kernel_rfl)) (fun A => ∃ j : Nat, A.env 13 = .int .i64 j ∧ lo ≤ j ∧ j < hi ∧ ∃ ys : List Int, ys.Perm xs ∧ A.st = σ.set id (ints ys)) ?_ fun B ⟨j, h13, q1, q2, ys, hp, hst⟩ => ?_
  · refine LoopVC.falls [0, 1, 4] (.of (by kernel_rfl)) (fun k A => ∃ i j : Nat, A.env 12 = .int .i64 i ∧ A.env 13 = .int .i64 j ∧ k = hi - i ∧ lo < i ∧ i ≤ hi ∧ lo ≤ j ∧ j < hi ∧ ∃ ys : List Int, ys.Perm xs ∧ A.st = σ.set id (ints ys)) (hi - (i2 + 1)) ?_ fun k B ⟨i, j, h12, h13, hk, hi1, hi2, hj1, hj2, ys, hp, hst⟩ => ?_
    · simp only [go_sem, simprocAttr, ↓reduceIte]
      exact ⟨i2 + 1, j2 - 1, int_succ (N := 1048577) (by omega) (by rw [maxLen_eq]; omega), rfl, rfl, by omega, by omega, by omega, by omega, _, hp1, by unfold ints; rw [List.map_set, List.map_set]⟩
    have hyl := hp.length_eq
    unfold ints at hst
    obtain ⟨a, ha⟩ := get_some (show lo < ys.length by omega)
    have ham := hp.subset (List.mem_of_getElem? ha)
    refine LoopVC.at [0, 1, 4, 13] (.of (by kernel_rfl)) (fun A => ∃ i' : Nat, A.env 12 = .int .i64 i' ∧ i ≤ i' ∧ i' ≤ hi ∧ (i' ≤ j + 1 ∨ i' = i) ∧ A.st = σ.set id (some (.cells 88 (ys.map (.int .i64))))) ?_ fun B2 ⟨i2, h12b, g1, g2, g3, hst2⟩ => ?_
    · refine LoopVC.falls [0, 1, 4, 13] (.of (by kernel_rfl)) (fun k A => ∃ i' : Nat, A.env 12 = .int .i64 i' ∧ k = hi - i' ∧ i ≤ i' ∧ i' ≤ hi ∧ (i' ≤ j + 1 ∨ i' = i) ∧ A.st = σ.set id (some (.cells 88 (ys.map (.int .i64))))) (hi - i) ?_ fun k A ⟨i', h11', hk', e1, e2, e3, hst'⟩ => ?_
      · simp only [go_sem, simprocAttr, ↓reduceIte, h12]
        exact ⟨i, rfl, rfl, by omega, by omega, .inr rfl, hst⟩
      simp only [go_sem, simprocAttr, ↓reduceIte, h11', h13, hst', look_set hidl, live_set hidl, Nat.zero_add, List.getElem?_map, ha, Option.map_some, Int.toNat_natCast]
      refine ⟨.of (by kernel_rfl), fun _ => by omega, fun _ => by rw [List.getElem?_eq_getElem (show i' < ys.length by omega)]; rfl, fun _ => by omega, CallP.go (r := .int .i64 (f (ys[i']?.getD 0) a)) (fun hg => ?_) ?_⟩
      · have hg := of_decide_eq_true hg
        obtain ⟨c, hc⟩ := get_some (show i' < ys.length by omega)
        rw [hc]
        exact hcmp c (hp.subset (List.mem_of_getElem? hc)) a ham
      simp only [go_sem, simprocAttr, ↓reduceIte, h11', hst']
      refine ⟨fun hb => ?_, fun _ => ⟨i', rfl, e1, e2, e3⟩⟩
      have hij : i' ≤ j := by simp only [Bool.and_eq_true, decide_eq_true_eq] at hb; exact hb.1
      exact .here (hi - (i' + 1)) (by omega) ⟨i' + 1, int_succ (N := 1048577) (by omega) (by rw [maxLen_eq]; omega), rfl, by omega, by omega, .inl (by omega), hst'⟩
    simp only [go_sem, simprocAttr, ↓reduceIte]
    refine LoopVC.at [0, 1, 4, 12] (.of (by kernel_rfl)) (fun A => ∃ j' : Nat, A.env 13 = .int .i64 j' ∧ lo ≤ j' ∧ j' ≤ j ∧ A.st = σ.set id (some (.cells 88 (ys.map (.int .i64))))) ?_ fun B3 ⟨j2, h13b, f1, f2, hst3⟩ => ?_
    · refine LoopVC.falls [0, 1, 4, 12] (.of (by kernel_rfl)) (fun k A => ∃ j' : Nat, A.env 13 = .int .i64 j' ∧ k = j' ∧ lo ≤ j' ∧ j' ≤ j ∧ A.st = σ.set id (some (.cells 88 (ys.map (.int .i64))))) j ?_ fun k A ⟨j', h12', hk', e1, e2, hst'⟩ => ?_
      · simp only [go_sem, simprocAttr, ↓reduceIte]
        exact ⟨j, h13, rfl, by omega, Nat.le_refl _, hst2⟩
      obtain ⟨c, hc⟩ := get_some (show j' < ys.length by omega)
      have hcm := hp.subset (List.mem_of_getElem? hc)
      simp only [go_sem, simprocAttr, ↓reduceIte, h12', h12b, hst', look_set hidl, live_set hidl, Nat.zero_add, List.getElem?_map, ha, hc, Option.map_some, Int.toNat_natCast]
      refine ⟨.of (by kernel_rfl), fun _ => by omega, fun _ => by omega, CallP.go (fun hg => hcmp c hcm a ham) ?_⟩
      simp only [go_sem, simprocAttr, ↓reduceIte, h12', h12b, hst']
      refine ⟨fun hb => ?_, fun _ => ⟨j', rfl, e1, e2⟩⟩
      have hij : i2 ≤ j' := by simp only [Bool.and_eq_true, decide_eq_true_eq] at hb; exact hb.1
      have hw1 : IntKind.i64.wrap ((j' : Int) - 1) = ((j' - 1 : Nat) : Int) := by rw [wrap_in (by omega)]; omega
      simp only [go_sem, simprocAttr, ↓reduceIte, h12', hw1]
      exact .here (j' - 1) (by omega) ⟨j' - 1, rfl, rfl, by omega, by omega, hst'⟩
    obtain ⟨c, hc⟩ := get_some (show j2 < ys.length by omega)
    simp only [go_sem, simprocAttr, ↓reduceIte, h12b, h13b]
    refine ⟨fun hgt => ⟨j2, rfl, f1, by omega, ys, hp, hst3⟩, fun hle => ?_⟩
    obtain ⟨d, hd⟩ := get_some (show i2 < ys.length by omega)
    have hw1 : IntKind.i64.wrap ((j2 : Int) - 1) = ((j2 - 1 : Nat) : Int) := by rw [wrap_in (by omega)]; omega
    simp only [go_sem, simprocAttr, ↓reduceIte, h12b, h13b, hst3, hw1, look_set hidl, live_set hidl, setLook_set hidl, Nat.zero_add, List.getElem?_map, hc, hd, Option.map_some, Int.toNat_natCast]
    refine ⟨.of (by kernel_rfl), by omega, by omega, by omega, by omega, isSome_at (by simp; omega), .here (hi - (i2 + 1)) (by omega) ⟨i2 + 1, j2 - 1, int_succ (N := 1048577) (by omega) (by rw [maxLen_eq]; omega), rfl, rfl, by omega, by omega, by omega, by omega, (ys.set i2 c).set j2 d, (swap_perm hc hd).trans hp, by unfold ints; simp only [go_sem, simprocAttr, ↓reduceIte]; rw [List.map_set, List.map_set]⟩⟩
  have hyl := hp.length_eq
  unfold ints at hst
  obtain ⟨a, ha⟩ := get_some (show lo < ys.length by omega)
  obtain ⟨c, hc⟩ := get_some (show j < ys.length by omega)
  simp only [go_sem, simprocAttr, ↓reduceIte, h13, hst, look_set hidl, live_set hidl, setLook_set hidl, Nat.zero_add, List.getElem?_map, hc, ha, Option.map_some, Int.toNat_natCast]
  refine ⟨.of (by kernel_rfl), by omega, by omega, by omega, by omega, isSome_at (by simp; omega), EndR.ret ?_⟩
  simp only [go_sem, simprocAttr, ↓reduceIte]
  exact ⟨_, .refl _, by simp, ⟨j, false, rfl, by omega, by omega⟩, (ys.set j a).set lo c, (swap_perm ha hc).trans hp, by unfold ints; rw [List.map_set, List.map_set]⟩
end Go.Proofs.Tryz
end
section
set_option linter.unusedSimpArgs false
set_option linter.unusedVariables false
namespace Go.Proofs.Tryz
open Go Go.Av
set_option maxRecDepth 10000
set_option linter.unusedSimpArgs false
set_option linter.unusedVariables false
variable {W0 : World}

/-- A counter. -/
def cntO (n : Nat) : Option SObj := some (.cells 3 [.int .i64 n])

theorem so_order2 (σ : Store) (id sid n : Nat) (xs : List Int) (i j : Nat) (hi : i < xs.length) (hj : j < xs.length) (hid : σ[id]? = some (ints xs)) (hsid : σ[sid]? = some (cntO n)) (hn : n ≤ 1000) (hx : xs.length ≤ 1048576) (f : Int → Int → Int) (g : FuncId) (caps : List AV)
    (hcmp : ∀ a ∈ xs, ∀ b ∈ xs, PureFn prog W0 g ([.int .i64 a, .int .i64 b] ++ caps) (.int .i64 (f a b))) :
    ACall prog W0 202 [.row 88 id 0 xs.length, .int .i64 i, .int .i64 j, .ptr 3 sid 0 [], .fn g caps] σ fun r σ' => (r = .tup [.int .i64 i, .int .i64 j] ∨ r = .tup [.int .i64 j, .int .i64 i]) ∧ ∃ n', n' ≤ n + 1 ∧ σ' = σ.set sid (cntO n') := by
  have hid' := hid
  have hsid' := hsid
  unfold ints at hid'
  unfold cntO at hsid'
  refine fn_call [10, 11] [] func202 rfl rfl ntmps202 rfl rfl fun hs => ?_
  obtain ⟨a, ha⟩ := get_some hi
  obtain ⟨b, hb⟩ := get_some hj
  simp only [go_sem, simprocAttr, ↓reduceIte, look_id hid', live_id hid', Nat.zero_add, List.getElem?_map, ha, hb, Option.map_some, Int.toNat_natCast]
  refine ⟨.of (by kernel_rfl), by omega, by omega, CallP.go (hcmp b (List.mem_of_getElem? hb) a (List.mem_of_getElem? ha)) ?_⟩
  simp only [go_sem, simprocAttr, ↓reduceIte]
  refine ⟨fun hlt => ?_, fun hge => ?_⟩
  · simp only [go_sem, simprocAttr, ↓reduceIte, look_id hsid', setLook_id hsid']
    refine EndR.ret ?_
    simp only [go_sem, simprocAttr, ↓reduceIte]
    refine ⟨_, .refl _, by simp, .inr rfl, n + 1, Nat.le_refl _, ?_⟩
    unfold cntO
    rw [int_succ (N := 2000) (by omega) (by rw [maxLen_eq]; omega)]
  · refine EndR.ret ?_
    simp only [go_sem, simprocAttr, ↓reduceIte]
    exact ⟨_, .refl _, .inl rfl, n, by omega, by rw [set_id hsid]⟩

theorem so_median (σ : Store) (id sid n : Nat) (xs : List Int) (i j k : Nat) (hi : i < xs.length) (hj : j < xs.length) (hk : k < xs.length) (hne : id ≠ sid) (hid : σ[id]? = some (ints xs)) (hsid : σ[sid]? = some (cntO n)) (hn : n ≤ 900) (hx : xs.length ≤ 1048576) (f : Int → Int → Int) (g : FuncId) (caps : List AV)
    (hcmp : ∀ a ∈ xs, ∀ b ∈ xs, PureFn prog W0 g ([.int .i64 a, .int .i64 b] ++ caps) (.int .i64 (f a b))) :
    ACall prog W0 195 [.row 88 id 0 xs.length, .int .i64 i, .int .i64 j, .int .i64 k, .ptr 3 sid 0 [], .fn g caps] σ fun r σ' => (∃ m : Nat, r = .int .i64 m ∧ (m = i ∨ m = j ∨ m = k)) ∧ ∃ n', n' ≤ n + 3 ∧ σ' = σ.set sid (cntO n') := by
  have hsl : sid < σ.length := (List.getElem?_eq_some_iff.1 hsid).1
  refine fn_call [12] [] func195 rfl rfl ntmps195 rfl rfl fun hs => ?_
  simp only [go_sem, simprocAttr, ↓reduceIte]
  refine CallA.goes (by simp only [go_sem, simprocAttr, ↓reduceIte]) (so_order2 σ id sid n xs i j hi hj hid hsid (by omega) hx f g caps hcmp) fun r σ1 ⟨hr, n1, hn1, hσ⟩ => ?_
  have hid1 : σ1[id]? = some (ints xs) := by rw [hσ, List.getElem?_set_ne (fun e => hne e.symm), hid]
  have hs1 : σ1[sid]? = some (cntO n1) := by rw [hσ, List.getElem?_set_self hsl]
  obtain ⟨i1, j1, rfl, h1⟩ : ∃ i1 j1 : Nat, r = .tup [.int .i64 i1, .int .i64 j1] ∧ (i1 = i ∧ j1 = j ∨ i1 = j ∧ j1 = i) := by
    rcases hr with rfl | rfl
    · exact ⟨i, j, rfl, .inl ⟨rfl, rfl⟩⟩
    · exact ⟨j, i, rfl, .inr ⟨rfl, rfl⟩⟩
  simp only [go_sem, simprocAttr, ↓reduceIte]
  refine CallA.goes (by simp only [go_sem, simprocAttr, ↓reduceIte]) (so_order2 σ1 id sid n1 xs j1 k (by omega) hk hid1 hs1 (by omega) hx f g caps hcmp) fun r σ2 ⟨hr, n2, hn2, hσ2⟩ => ?_
  have hid2 : σ2[id]? = some (ints xs) := by rw [hσ2, List.getElem?_set_ne (fun e => hne e.symm), hid1]
  have hs2 : σ2[sid]? = some (cntO n2) := by rw [hσ2, List.getElem?_set_self (by rw [hσ]; simpa using hsl)]
  obtain ⟨j2, k2, rfl, h2⟩ : ∃ j2 k2 : Nat, r = .tup [.int .i64 j2, .int .i64 k2] ∧ (j2 = j1 ∧ k2 = k ∨ j2 = k ∧ k2 = j1) := by
    rcases hr with rfl | rfl
    · exact ⟨j1, k, rfl, .inl ⟨rfl, rfl⟩⟩
    · exact ⟨k, j1, rfl, .inr ⟨rfl, rfl⟩⟩
  simp only [go_sem, simprocAttr, ↓reduceIte]
  refine CallA.goes (by simp only [go_sem, simprocAttr, ↓reduceIte]) (so_order2 σ2 id sid n2 xs i1 j2 (by omega) (by omega) hid2 hs2 (by omega) hx f g caps hcmp) fun r σ3 ⟨hr, n3, hn3, hσ3⟩ => ?_
  obtain ⟨i3, j3, rfl, h3⟩ : ∃ i3 j3 : Nat, r = .tup [.int .i64 i3, .int .i64 j3] ∧ (i3 = i1 ∧ j3 = j2 ∨ i3 = j2 ∧ j3 = i1) := by
    rcases hr with rfl | rfl
    · exact ⟨i1, j2, rfl, .inl ⟨rfl, rfl⟩⟩
    · exact ⟨j2, i1, rfl, .inr ⟨rfl, rfl⟩⟩
  simp only [go_sem, simprocAttr, ↓reduceIte]
  refine EndR.ret ?_
  simp only [go_sem, simprocAttr, ↓reduceIte]
  exact ⟨_, .refl _, by rw [hσ3, hσ2, hσ]; simp, ⟨j3, rfl, by omega⟩, n3, by omega, by rw [hσ3, hσ2, hσ, List.set_set, List.set_set]⟩

theorem so_pivot (σ : Store) (id : Nat) (xs : List Int) (lo hi : Nat) (h12 : lo + 12 < hi) (h50 : hi < lo + 50) (hhi : hi ≤ xs.length) (hid : σ[id]? = some (ints xs)) (hx : xs.length ≤ 1048576) (f : Int → Int → Int) (g : FuncId) (caps : List AV)
    (hcmp : ∀ a ∈ xs, ∀ b ∈ xs, PureFn prog W0 g ([.int .i64 a, .int .i64 b] ++ caps) (.int .i64 (f a b))) :
    ACall prog W0 177 [.row 88 id 0 xs.length, .int .i64 lo, .int .i64 hi, .fn g caps] σ fun r σ' => (∃ (m : Nat) (h : Int), r = .tup [.int .i64 m, .int .i64 h] ∧ lo ≤ m ∧ m < hi) ∧ Ext σ σ' := by
  have hidl : id < σ.length := (List.getElem?_eq_some_iff.1 hid).1
  refine fn_call [8, 9] [] func177 rfl rfl ntmps177 rfl rfl fun hs => ?_
  have hw0 : IntKind.i64.wrap ((hi : Int) - lo) = ((hi - lo : Nat) : Int) := by rw [wrap_in (by omega)]; omega
  have hw1 : IntKind.i64.wrap (Int.tdiv ((hi - lo : Nat) : Int) 4) = (((hi - lo) / 4 : Nat) : Int) := by
    rw [show Int.tdiv ((hi - lo : Nat) : Int) 4 = (((hi - lo) / 4 : Nat) : Int) from rfl, wrap_in (by omega)]
  have hm1 : IntKind.i64.wrap ((((hi - lo) / 4 : Nat) : Int) * 1) = (((hi - lo) / 4 : Nat) : Int) := by rw [wrap_in (by omega)]; omega
  have hm2 : IntKind.i64.wrap ((((hi - lo) / 4 : Nat) : Int) * 2) = (((hi - lo) / 4 * 2 : Nat) : Int) := by rw [wrap_in (by omega)]; omega
  have hm3 : IntKind.i64.wrap ((((hi - lo) / 4 : Nat) : Int) * 3) = (((hi - lo) / 4 * 3 : Nat) : Int) := by rw [wrap_in (by omega)]; omega
  have ha1 : IntKind.i64.wrap ((lo : Int) + (((hi - lo) / 4 : Nat) : Int)) = ((lo + (hi - lo) / 4 : Nat) : Int) := by rw [wrap_in (by omega)]; omega
  have ha2 : IntKind.i64.wrap ((lo : Int) + (((hi - lo) / 4 * 2 : Nat) : Int)) = ((lo + (hi - lo) / 4 * 2 : Nat) : Int) := by rw [wrap_in (by omega)]; omega
  have ha3 : IntKind.i64.wrap ((lo : Int) + (((hi - lo) / 4 * 3 : Nat) : Int)) = ((lo + (hi - lo) / 4 * 3 : Nat) : Int) := by rw [wrap_in (by omega)]; omega
  have h8 : decide ((8 : Int) ≤ ((hi - lo : Nat) : Int)) = true := decide_eq_true (by omega)
  have h5 : decide ((50 : Int) ≤ ((hi - lo : Nat) : Int)) = false := decide_eq_false (by omega)
  simp only [go_sem, simprocAttr, ↓reduceIte, hw0, hw1, hm1, hm2, hm3, ha1, ha2, ha3, h8, h5]
  have hst0 : σ ++ [some (SObj.cells 3 [AV.int .i64 0])] = σ ++ [cntO 0] := rfl
  refine JoinVC.at [11] (by kernel_rfl) (fun A => (∃ m : Nat, A.env 13 = .int .i64 m ∧ lo ≤ m ∧ m < hi) ∧ ∃ n', n' ≤ 3 ∧ A.st = σ ++ [cntO n']) (fun _ => ?_) (fun h => by cases h) fun B ⟨⟨m, h13, hm1, hm2⟩, n', hn', hst⟩ => ?_
  · simp only [go_sem, simprocAttr, ↓reduceIte, hw0, h5]
    refine JoinVC.at [0, 3, 11] (by kernel_rfl) (fun A => A.env 12 = .int .i64 ((lo + (hi - lo) / 4 : Nat) : Int) ∧ A.env 13 = .int .i64 ((lo + (hi - lo) / 4 * 2 : Nat) : Int) ∧ A.env 14 = .int .i64 ((lo + (hi - lo) / 4 * 3 : Nat) : Int) ∧ A.st = σ ++ [cntO 0]) (fun h => by cases h) (fun _ => ?_) fun B ⟨h12, h13, h14, hst⟩ => ?_
    · simp only [go_sem, simprocAttr, ↓reduceIte]
      first | done | rfl
    have hid2 : (σ ++ [cntO 0])[id]? = some (ints xs) := by rw [List.getElem?_append_left hidl]; exact hid
    have hs2 : (σ ++ [cntO 0])[σ.length]? = some (cntO 0) := by simp
    simp only [go_sem, simprocAttr, ↓reduceIte, h12, h13, h14, hst]
    refine CallA.goes (by simp only [go_sem, simprocAttr, ↓reduceIte, hst]) (so_median (σ ++ [cntO 0]) id σ.length 0 xs (lo + (hi - lo) / 4) (lo + (hi - lo) / 4 * 2) (lo + (hi - lo) / 4 * 3) (by omega) (by omega) (by omega) (by omega) hid2 hs2 (by omega) hx f g caps hcmp) fun r σ1 ⟨⟨m, hr, hm⟩, n', hn', hσ⟩ => ?_
    subst hr
    simp only [go_sem, simprocAttr, ↓reduceIte]
    exact ⟨⟨m, rfl, by omega, by omega⟩, n', by omega, by rw [hσ]; simp⟩
  have hl : (σ ++ [cntO n'])[σ.length]? = some (some (SObj.cells 3 [AV.int .i64 n'])) := by simp [cntO]
  simp only [go_sem, simprocAttr, ↓reduceIte, h13, hst, look_id hl]
  refine ⟨fun _ => EndR.ret ?_, fun _ => ⟨fun _ => EndR.ret ?_, fun _ => EndR.ret ?_⟩⟩
  · simp only [go_sem, simprocAttr, ↓reduceIte, h13, hst]
    exact ⟨_, .refl _, by simp, ⟨m, _, rfl, hm1, hm2⟩, (Ext.refl _).app _⟩
  · simp only [go_sem, simprocAttr, ↓reduceIte, h13, hst]
    exact ⟨_, .refl _, by simp, ⟨m, _, rfl, hm1, hm2⟩, (Ext.refl _).app _⟩
  · simp only [go_sem, simprocAttr, ↓reduceIte, h13, hst]
    exact ⟨_, .refl _, by simp, ⟨m, _, rfl, hm1, hm2⟩, (Ext.refl _).app _⟩

theorem so_partial (σ : Store) (id : Nat) (xs : List Int) (lo hi : Nat) (hlo : lo < hi) (h50 : hi < lo + 50) (hhi : hi ≤ xs.length) (hid : σ[id]? = some (ints xs)) (hx : xs.length ≤ 1048576) (f : Int → Int → Int) (g : FuncId) (caps : List AV)
    (hcmp : ∀ a ∈ xs, ∀ b ∈ xs, PureFn prog W0 g ([.int .i64 a, .int .i64 b] ++ caps) (.int .i64 (f a b))) :
    ACall prog W0 179 [.row 88 id 0 xs.length, .int .i64 lo, .int .i64 hi, .fn g caps] σ fun r σ' => (∃ b : Bool, r = .bool b) ∧ σ' = σ := by
  have hidl : id < σ.length := (List.getElem?_eq_some_iff.1 hid).1
  have hid' := hid
  unfold ints at hid'
  refine fn_call [8] [] func179 rfl rfl ntmps179 rfl rfl fun hs => ?_
  simp only [go_sem, simprocAttr, ↓reduceIte]
  refine LoopVC.upto [0, 1, 2, 3] (.of (by kernel_rfl)) 0 (fun k A => A.env 9 = .int .i64 ((lo + 1 : Nat) : Int) ∧ A.env 10 = .int .i64 0 ∧ A.st = σ) 0 (Nat.le_refl _) ?_ fun k B hk ⟨h9, h10, hst⟩ => ?_
  · simp only [go_sem, simprocAttr, ↓reduceIte]
    exact int_succ (N := 1048577) (by omega) (by rw [maxLen_eq]; omega)
  simp only [go_sem, simprocAttr, ↓reduceIte, h9, h10, hst]
  refine LoopVC.at [0, 1, 2, 3, 10] (.of (by kernel_rfl)) (fun A => ∃ i : Nat, A.env 9 = .int .i64 i ∧ lo < i ∧ i ≤ hi ∧ A.st = σ) ?_ fun B2 ⟨i, h9b, q1, q2, hst2⟩ => ?_
  · refine LoopVC.falls [0, 1, 2, 3, 10] (.of (by kernel_rfl)) (fun k A => ∃ i : Nat, A.env 9 = .int .i64 i ∧ k = hi - i ∧ lo < i ∧ i ≤ hi ∧ A.st = σ) (hi - (lo + 1)) ?_ fun k A ⟨i, h9', hk', e1, e2, hst'⟩ => ?_
    · simp only [go_sem, simprocAttr, ↓reduceIte, h9]
      exact ⟨lo + 1, rfl, rfl, by omega, by omega, hst⟩
    obtain ⟨c, hc⟩ := get_some (show i - 1 < xs.length by omega)
    have hw1 : IntKind.i64.wrap ((i : Int) - 1) = ((i - 1 : Nat) : Int) := by rw [wrap_in (by omega)]; omega
    simp only [go_sem, simprocAttr, ↓reduceIte, h9', hst', look_id hid', live_id hid', hw1, Nat.zero_add, List.getElem?_map, hc, Option.map_some, Int.toNat_natCast]
    refine ⟨.of (by kernel_rfl), fun _ => by omega, fun _ => by rw [List.getElem?_eq_getElem (show i < xs.length by omega)]; rfl, fun _ => by omega, CallP.go (r := .int .i64 (f (xs[i]?.getD 0) c)) (fun hg => ?_) ?_⟩
    · have hg := of_decide_eq_true hg
      obtain ⟨d, hd⟩ := get_some (show i < xs.length by omega)
      rw [hd]
      exact hcmp d (List.mem_of_getElem? hd) c (List.mem_of_getElem? hc)
    simp only [go_sem, simprocAttr, ↓reduceIte, h9', hst']
    refine ⟨fun hb => ?_, fun _ => ⟨i, rfl, e1, e2⟩⟩
    have hij : i < hi := by simp only [Bool.and_eq_true, decide_eq_true_eq] at hb; exact hb.1
    exact .here (hi - (i + 1)) (by omega) ⟨i + 1, int_succ (N := 1048577) (by omega) (by rw [maxLen_eq]; omega), rfl, by omega, by omega, hst'⟩
  have hw0 : IntKind.i64.wrap ((hi : Int) - lo) = ((hi - lo : Nat) : Int) := by rw [wrap_in (by omega)]; omega
  have h5 : decide (((hi - lo : Nat) : Int) < 50) = true := decide_eq_true (by omega)
  simp only [go_sem, simprocAttr, ↓reduceIte, h9b, hst2, hw0, h5]
  refine ⟨fun _ => EndR.ret ?_, fun _ => EndR.ret ?_⟩
  · simp only [go_sem, simprocAttr, ↓reduceIte, hst2]
    exact ⟨_, .refl _, ⟨_, rfl⟩⟩
  · simp only [go_sem, simprocAttr, ↓reduceIte, hst2]
    exact ⟨_, .refl _, ⟨_, rfl⟩⟩
end Go.Proofs.Tryz
end
section
set_option linter.unusedSimpArgs false
set_option linter.unusedVariables false
namespace Go.Proofs.Tryz
open Go Go.Av
set_option maxRecDepth 10000
set_option linter.unusedSimpArgs false
set_option linter.unusedVariables false
variable {W0 : World}

theorem so_sift (σ : Store) (id : Nat) (xs : List Int) (lo hi fst : Nat) (hhi : fst + hi ≤ xs.length) (hid : σ[id]? = some (ints xs)) (hx : xs.length ≤ 1048576) (hlo : lo ≤ 1048576) (f : Int → Int → Int) (g : FuncId) (caps : List AV)
    (hcmp : ∀ a ∈ xs, ∀ b ∈ xs, PureFn prog W0 g ([.int .i64 a, .int .i64 b] ++ caps) (.int .i64 (f a b))) :
    ACall prog W0 191 [.row 88 id 0 xs.length, .int .i64 lo, .int .i64 hi, .int .i64 fst, .fn g caps] σ fun r σ' => Perms σ σ' id xs := by
  have hidl : id < σ.length := (List.getElem?_eq_some_iff.1 hid).1
  refine fn_call [] [] func191 rfl rfl ntmps191 rfl rfl fun hs => ?_
  simp only [go_sem, simprocAttr, ↓reduceIte]
  refine LoopVC.falls [0, 2, 3, 4] (.of (by kernel_rfl)) (fun k A => ∃ i : Nat, A.env 10 = .int .i64 i ∧ k = hi - i ∧ i ≤ 1048576 ∧ ∃ ys : List Int, ys.Perm xs ∧ A.st = σ.set id (ints ys)) (hi - lo) ?_ fun k B ⟨i, h10, hk, hi1, ys, hp, hst⟩ => ?_
  · simp only [go_sem, simprocAttr, ↓reduceIte]
    exact ⟨lo, rfl, rfl, hlo, xs, .refl _, (set_id hid).symm⟩
  have hyl := hp.length_eq
  unfold ints at hst
  have hw1 : IntKind.i64.wrap (2 * (i : Int)) = ((2 * i : Nat) : Int) := by rw [wrap_in (by omega)]; omega
  have hw2 : IntKind.i64.wrap (((2 * i : Nat) : Int) + 1) = ((2 * i + 1 : Nat) : Int) := by rw [wrap_in (by omega)]; omega
  simp only [go_sem, simprocAttr, ↓reduceIte, h10, hw1, hw2]
  refine ⟨fun hge => EndR.normal ?_, fun hlt => ?_⟩
  · simp only [go_sem, simprocAttr, ↓reduceIte, hst]
    exact ⟨_, .refl _, by simp, ys, hp, rfl⟩
  have hlt : 2 * i + 1 < hi := by omega
  have hw3 : IntKind.i64.wrap (((2 * i + 1 : Nat) : Int) + 1) = ((2 * i + 2 : Nat) : Int) := by rw [wrap_in (by omega)]; omega
  have hw4 : IntKind.i64.wrap ((fst : Int) + ((2 * i + 1 : Nat) : Int)) = ((fst + (2 * i + 1) : Nat) : Int) := by rw [wrap_in (by omega)]; omega
  have hw5 : IntKind.i64.wrap (((fst + (2 * i + 1) : Nat) : Int) + 1) = ((fst + (2 * i + 1) + 1 : Nat) : Int) := by rw [wrap_in (by omega)]; omega
  obtain ⟨c, hc⟩ := get_some (show fst + (2 * i + 1) < ys.length by omega)
  have hcm := hp.subset (List.mem_of_getElem? hc)
  simp only [go_sem, simprocAttr, ↓reduceIte, h10, hst, hw3, hw4, hw5, look_set hidl, live_set hidl, Nat.zero_add, List.getElem?_map, hc, Option.map_some, Int.toNat_natCast]
  refine ⟨.of (by kernel_rfl), fun _ => by omega, fun _ => by omega, fun _ => by rw [List.getElem?_eq_getElem (show fst + (2 * i + 1) + 1 < ys.length by omega)]; rfl, CallP.go (r := .int .i64 (f c (ys[fst + (2 * i + 1) + 1]?.getD 0))) (fun hg => ?_) ?_⟩
  · have hg := of_decide_eq_true hg
    obtain ⟨d, hd⟩ := get_some (show fst + (2 * i + 1) + 1 < ys.length by omega)
    rw [hd]
    exact hcmp c hcm d (hp.subset (List.mem_of_getElem? hd))
  simp only [go_sem, simprocAttr, ↓reduceIte, h10, hst]
  refine JoinVC.at [0, 2, 3, 4, 10] (by kernel_rfl) (fun A => (∃ j : Nat, A.env 11 = .int .i64 j ∧ i < j ∧ j < hi) ∧ A.st = σ.set id (some (.cells 88 (ys.map (.int .i64))))) (fun hb => ?_) (fun hb => ?_) fun B2 ⟨⟨j, h11, hj1, hj2⟩, hst2⟩ => ?_
  · have hij : 2 * i + 2 < hi := by simp only [Bool.and_eq_true, decide_eq_true_eq] at hb; exact hb.1
    simp only [go_sem, simprocAttr, ↓reduceIte, hw3, hst]
    exact ⟨2 * i + 2, rfl, by omega, hij⟩
  · simp only [go_sem, simprocAttr, ↓reduceIte, hst]
    exact ⟨2 * i + 1, rfl, by omega, hlt⟩
  have hv1 : IntKind.i64.wrap ((fst : Int) + (i : Int)) = ((fst + i : Nat) : Int) := by rw [wrap_in (by omega)]; omega
  have hv2 : IntKind.i64.wrap ((fst : Int) + (j : Int)) = ((fst + j : Nat) : Int) := by rw [wrap_in (by omega)]; omega
  obtain ⟨a, ha⟩ := get_some (show fst + i < ys.length by omega)
  obtain ⟨b, hb⟩ := get_some (show fst + j < ys.length by omega)
  simp only [go_sem, simprocAttr, ↓reduceIte, h10, h11, hst2, hv1, hv2, look_set hidl, live_set hidl, Nat.zero_add, List.getElem?_map, ha, hb, Option.map_some, Int.toNat_natCast]
  refine ⟨.of (by kernel_rfl), by omega, by omega, CallP.go (hcmp a (hp.subset (List.mem_of_getElem? ha)) b (hp.subset (List.mem_of_getElem? hb))) ?_⟩
  simp only [go_sem, simprocAttr, ↓reduceIte, h10, h11, hst2]
  refine ⟨fun _ => EndR.ret ?_, fun _ => ?_⟩
  · simp only [go_sem, simprocAttr, ↓reduceIte, hst2]
    exact ⟨_, .refl _, by simp, ys, hp, rfl⟩
  simp only [go_sem, simprocAttr, ↓reduceIte, h10, h11, hst2, hv1, hv2, look_set hidl, live_set hidl, setLook_set hidl, Nat.zero_add, List.getElem?_map, ha, hb, Option.map_some, Int.toNat_natCast]
  refine ⟨.of (by kernel_rfl), by omega, by omega, by omega, by omega, isSome_at (by simp; omega), .here (hi - j) (by omega) ⟨j, rfl, rfl, by omega, (ys.set (fst + i) b).set (fst + j) a, (swap_perm hb ha).trans hp, by unfold ints; simp only [go_sem, simprocAttr, ↓reduceIte]; rw [List.map_set, List.map_set]⟩⟩

theorem so_heap (σ : Store) (id : Nat) (xs : List Int) (lo hi : Nat) (hlo : lo < hi) (hhi : hi ≤ xs.length) (hid : σ[id]? = some (ints xs)) (hx : xs.length ≤ 1048576) (f : Int → Int → Int) (g : FuncId) (caps : List AV)
    (hcmp : ∀ a ∈ xs, ∀ b ∈ xs, PureFn prog W0 g ([.int .i64 a, .int .i64 b] ++ caps) (.int .i64 (f a b))) :
    ACall prog W0 175 [.row 88 id 0 xs.length, .int .i64 lo, .int .i64 hi, .fn g caps] σ fun r σ' => Perms σ σ' id xs := by
  have hidl : id < σ.length := (List.getElem?_eq_some_iff.1 hid).1
  refine fn_call [] [] func175 rfl rfl ntmps175 rfl rfl fun hs => ?_
  have hw0 : IntKind.i64.wrap ((hi : Int) - lo) = ((hi - lo : Nat) : Int) := by rw [wrap_in (by omega)]; omega
  have hw1 : IntKind.i64.wrap (((hi - lo : Nat) : Int) - 1) = ((hi - lo - 1 : Nat) : Int) := by rw [wrap_in (by omega)]; omega
  have hw2 : IntKind.i64.wrap (Int.tdiv ((hi - lo - 1 : Nat) : Int) 2) = (((hi - lo - 1) / 2 : Nat) : Int) := by
    rw [show Int.tdiv ((hi - lo - 1 : Nat) : Int) 2 = (((hi - lo - 1) / 2 : Nat) : Int) from rfl, wrap_in (by omega)]
  simp only [go_sem, simprocAttr, ↓reduceIte, hw0, hw1, hw2]
  refine LoopVC.at [0, 3, 8, 9, 10] (.of (by kernel_rfl)) (fun A => ∃ ys : List Int, ys.Perm xs ∧ A.st = σ.set id (ints ys)) ?_ fun B ⟨ys, hp, hst⟩ => ?_
  · refine LoopVC.falls [0, 3, 8, 9, 10] (.of (by kernel_rfl)) (fun k A => ∃ n : Nat, A.env 11 = .int .i64 ((n : Int) - 1) ∧ k = n ∧ n ≤ hi - lo ∧ ∃ ys : List Int, ys.Perm xs ∧ A.st = σ.set id (ints ys)) ((hi - lo - 1) / 2 + 1) ?_ fun k B ⟨n, h11, hk, hn, ys, hp, hst⟩ => ?_
    · simp only [go_sem, simprocAttr, ↓reduceIte]
      exact ⟨(hi - lo - 1) / 2 + 1, by congr 1; omega, rfl, by omega, xs, .refl _, (set_id hid).symm⟩
    cases n with
    | zero =>
      have h11 : B.env 11 = .int .i64 (-1) := h11
      simp only [go_sem, simprocAttr, ↓reduceIte, h11]
      exact ⟨ys, hp, hst⟩
    | succ m =>
      have e1 : (((m + 1 : Nat) : Int) - 1) = (m : Int) := by omega
      have hids : (σ.set id (ints ys))[id]? = some (ints ys) := List.getElem?_set_self hidl
      have hyl := hp.length_eq
      have h0 : decide ((0 : Int) ≤ (m : Int)) = true := decide_eq_true (by omega)
      rw [e1] at h11
      simp only [go_sem, simprocAttr, ↓reduceIte, h11, h0, hst, ← hyl]
      refine CallA.goes (by simp only [go_sem, simprocAttr, ↓reduceIte, hst]) (so_sift (σ.set id (ints ys)) id ys m (hi - lo) lo (by omega) hids (by omega) (by omega) f g caps fun a ha b hb => hcmp a (hp.subset ha) b (hp.subset hb)) fun r σ1 ⟨zs, hz, hσ⟩ => ?_
      have hw3 : IntKind.i64.wrap ((m : Int) - 1) = (m : Int) - 1 := wrap_in (by omega)
      simp only [go_sem, simprocAttr, ↓reduceIte, h11, hw3]
      exact .here m (by omega) ⟨m, rfl, rfl, by omega, zs, hz.trans hp, by simp only [go_sem, simprocAttr, ↓reduceIte]; rw [hσ, List.set_set]⟩
  simp only [go_sem, simprocAttr, ↓reduceIte]
  refine LoopVC.falls [0, 3, 8, 9] (.of (by kernel_rfl)) (fun k A => ∃ n : Nat, A.env 12 = .int .i64 ((n : Int) - 1) ∧ k = n ∧ n ≤ hi - lo ∧ ∃ ys : List Int, ys.Perm xs ∧ A.st = σ.set id (ints ys)) (hi - lo) ?_ fun k B ⟨n, h12, hk, hn, ys, hp, hst⟩ => ?_
  · simp only [go_sem, simprocAttr, ↓reduceIte, hw1]
    exact ⟨hi - lo, by congr 1; omega, rfl, Nat.le_refl _, ys, hp, hst⟩
  cases n with
  | zero =>
    have h12 : B.env 12 = .int .i64 (-1) := h12
    simp only [go_sem, simprocAttr, ↓reduceIte, h12]
    refine EndR.normal ?_
    simp only [go_sem, simprocAttr, ↓reduceIte, hst]
    exact ⟨_, .refl _, by simp, ys, hp, rfl⟩
  | succ m =>
    have h0 : decide ((0 : Int) ≤ (m : Int)) = true := decide_eq_true (by omega)
    have e1 : (((m + 1 : Nat) : Int) - 1) = (m : Int) := by omega
    have hyl := hp.length_eq
    rw [e1] at h12
    have hw3 : IntKind.i64.wrap ((m : Int) - 1) = (m : Int) - 1 := wrap_in (by omega)
    have hv1 : IntKind.i64.wrap ((lo : Int) + (m : Int)) = ((lo + m : Nat) : Int) := by rw [wrap_in (by omega)]; omega
    obtain ⟨a, ha⟩ := get_some (show lo < ys.length by omega)
    obtain ⟨b, hb⟩ := get_some (show lo + m < ys.length by omega)
    unfold ints at hst
    simp only [go_sem, simprocAttr, ↓reduceIte, h12, h0, hst, hv1, look_set hidl, live_set hidl, setLook_set hidl, Nat.zero_add, List.getElem?_map, ha, hb, Option.map_some, Int.toNat_natCast]
    refine ⟨.of (by kernel_rfl), by omega, by omega, by omega, by omega, isSome_at (by simp; omega), ?_⟩
    obtain ⟨zs, hzs⟩ : ∃ zs, zs = (ys.set lo b).set (lo + m) a := ⟨_, rfl⟩
    have hpz : zs.Perm xs := by rw [hzs]; exact (swap_perm hb ha).trans hp
    have hzl := hpz.length_eq
    have hst0 : some (SObj.cells 88 (((ys.map (AV.int .i64)).set lo (.int .i64 b)).set (lo + m) (.int .i64 a))) = ints zs := by rw [hzs, ints, List.map_set, List.map_set]
    have hids : (σ.set id (ints zs))[id]? = some (ints zs) := List.getElem?_set_self hidl
    rw [hst0]
    simp only [go_sem, simprocAttr, ↓reduceIte, h12, ← hzl]
    refine CallA.goes (by simp only [go_sem, simprocAttr, ↓reduceIte, hst]) (so_sift (σ.set id (ints zs)) id zs 0 m lo (by omega) hids (by omega) (by omega) f g caps fun a ha b hb => hcmp a (hpz.subset ha) b (hpz.subset hb)) fun r σ1 ⟨us, hu, hσ⟩ => ?_
    simp only [go_sem, simprocAttr, ↓reduceIte, h12, hw3]
    exact .here m (by omega) ⟨m, rfl, rfl, by omega, us, hu.trans hpz, by simp only [go_sem, simprocAttr, ↓reduceIte]; rw [hσ, List.set_set]⟩
end Go.Proofs.Tryz
end
section
set_option linter.unusedSimpArgs false
set_option linter.unusedVariables false
namespace Go.Proofs.Tryz
open Go Go.Av
set_option maxRecDepth 10000
set_option linter.unusedSimpArgs false
set_option linter.unusedVariables false
variable {W0 : World}

theorem bi_len64p (σ : Store) (n : Nat) (h0 : 0 < n) (hn : n < 64) : ACall prog W0 183 [.int .u64 n] σ fun r σ' => (∃ m : Nat, m ≤ 10 ∧ 2 ^ m ≤ 2 * n ∧ r = .int .i64 m) ∧ σ' = σ := by
  · refine fn_call [2] [] func183 rfl rfl ntmps183 rfl rfl fun hs => ?_
    have h1 : decide ((4294967296 : Int) ≤ (n : Int)) = false := decide_eq_false (by omega)
    have h2 : decide ((65536 : Int) ≤ (n : Int)) = false := decide_eq_false (by omega)
    have h3 : decide ((256 : Int) ≤ (n : Int)) = false := decide_eq_false (by omega)
    simp only [go_sem, simprocAttr, ↓reduceIte, h1, h2, h3]
    refine JoinVC.at [] (by kernel_rfl) (fun A => A.st = σ ∧ A.env 0 = .int .u64 n ∧ A.env 2 = .int .i64 0) (fun h => by cases h) (fun _ => ?_) fun B ⟨hst, hx, hy⟩ => ?_
    · simp only [go_sem, simprocAttr, ↓reduceIte]
    simp only [go_sem, simprocAttr, ↓reduceIte, h1, h2, h3, hst, hx, hy]
    refine JoinVC.at [] (by kernel_rfl) (fun A => A.st = σ ∧ A.env 0 = .int .u64 n ∧ A.env 2 = .int .i64 0) (fun h => by cases h) (fun _ => ?_) fun B ⟨hst, hx, hy⟩ => ?_
    · simp only [go_sem, simprocAttr, ↓reduceIte, hst, hx, hy]
    simp only [go_sem, simprocAttr, ↓reduceIte, h1, h2, h3, hst, hx, hy]
    refine JoinVC.at [] (by kernel_rfl) (fun A => A.st = σ ∧ A.env 0 = .int .u64 n ∧ A.env 2 = .int .i64 0) (fun h => by cases h) (fun _ => ?_) fun B ⟨hst, hx, hy⟩ => ?_
    · simp only [go_sem, simprocAttr, ↓reduceIte, hst, hx, hy]
    simp only [go_sem, simprocAttr, ↓reduceIte, h1, h2, h3, hst, hx, hy]
    simp (decide := true) only [val_tab]
    generalize hT : tabOf _ = tab
    have hlen : tab.length = 256 := by rw [← hT]; decide
    have hle : ∀ i : Fin 64, 0 < i.val → (tab[i.val]?.getD 0).toNat ≤ 10 ∧ 2 ^ (tab[i.val]?.getD 0).toNat ≤ 2 * i.val := by rw [← hT]; decide
    clear hT
    simp only [go_sem, simprocAttr, ↓reduceIte]
    have hw : (IntKind.u8.wrap (n : Int)).toNat = n := by
      show ((n : Int) % 256).toNat = n
      omega
    refine ⟨by rw [hw, hlen]; omega, EndR.ret ?_⟩
    simp only [go_sem, simprocAttr, ↓reduceIte]
    have := hle ⟨n, hn⟩ h0
    refine ⟨_, .refl _, by simp [hst], ⟨(tab[n]?.getD 0).toNat, this.1, this.2, ?_⟩, hst⟩
    rw [hw, wrap_in (by have := this.1; simp only at this; omega), Int.zero_add]

theorem so_pow (σ : Store) (n : Nat) (h0 : 0 < n) (hn : n < 64) : ACall prog W0 192 [.int .i64 n] σ fun r σ' => (∃ m : Nat, 0 < m ∧ m ≤ 2 * n ∧ r = .int .u64 m) ∧ σ' = σ := by
  refine fn_call [2] [] func192 rfl rfl ntmps192 rfl rfl fun hs => ?_
  have hw : IntKind.u64.wrap (n : Int) = n := by rw [IntKind.wrap_u64]; omega
  simp only [go_sem, simprocAttr, ↓reduceIte, hw]
  refine CallA.goes (by simp only [go_sem, simprocAttr, ↓reduceIte]) (show ACall prog W0 165 [.int .u64 n] σ fun r σ' => (∃ m : Nat, m ≤ 10 ∧ 2 ^ m ≤ 2 * n ∧ r = .int .i64 m) ∧ σ' = σ from ?_) fun r σ1 ⟨⟨m, hm, hm2, hr⟩, hσ⟩ => ?_
  · refine fn_call [2] [] func165 rfl rfl ntmps165 rfl rfl fun hs => ?_
    simp only [go_sem, simprocAttr, ↓reduceIte]
    refine CallA.goes (by simp only [go_sem, simprocAttr, ↓reduceIte]) (bi_len64p σ n h0 hn) fun r σ' ⟨⟨m, hm, hm2, hr⟩, hσ⟩ => ?_
    subst hr hσ
    simp only [go_sem, simprocAttr, ↓reduceIte]
    refine EndR.ret ?_
    simp only [go_sem, simprocAttr, ↓reduceIte]
    exact ⟨_, .refl _, m, hm, hm2, rfl⟩
  subst hr hσ
  have h1 : decide ((m : Int) < 0) = false := decide_eq_false (by omega)
  have hb : IntKind.u64.bits = 64 := rfl
  simp only [go_sem, simprocAttr, ↓reduceIte, h1, hb]
  have hm0 : ¬ (m : Int) < 0 := by omega
  refine ⟨hm0, EndR.ret ?_⟩
  have hpos : 0 < 2 ^ m := Nat.two_pow_pos m
  have hw2 : IntKind.u64.wrap (1 * 2 ^ min m 64) = ((2 ^ m : Nat) : Int) := by
    rw [Nat.min_eq_left (by omega), Int.one_mul, show ((2 : Int) ^ m) = ((2 ^ m : Nat) : Int) by simp, IntKind.wrap_u64]; omega
  simp only [go_sem, simprocAttr, ↓reduceIte]
  rw [if_neg hm0, hw2]
  exact ⟨_, .refl _, ⟨2 ^ m, hpos, hm2, rfl⟩⟩

/-- A generator of numbers. -/
def rndO (r : Int) : Option SObj := some (.cells 212 [.int .u64 r])

theorem so_next (σ : Store) (rid : Nat) (q : Int) (hr : σ[rid]? = some (rndO q)) : ACall prog W0 193 [.ptr 212 rid 0 []] σ fun r σ' => ∃ q', r = .int .u64 q' ∧ σ' = σ.set rid (rndO q') := by
  have hrl : rid < σ.length := (List.getElem?_eq_some_iff.1 hr).1
  have hr' := hr
  unfold rndO at hr'
  refine fn_call [2] [] func193 rfl rfl ntmps193 rfl rfl fun hs => ?_
  have hd1 : decide ((13 : Int) < 0) = false := rfl
  simp only [go_sem, simprocAttr, ↓reduceIte, look_id hr', live_id hr', setLook_id hr', look_set hrl, live_set hrl, setLook_set hrl]
  refine ⟨.of (by kernel_rfl), .of (by kernel_rfl), .of (by kernel_rfl), EndR.ret ?_⟩
  simp only [go_sem, simprocAttr, ↓reduceIte]
  exact ⟨_, .refl _, by simp, _, rfl, rfl⟩

theorem bits_and (q : Int) (v : Nat) (hv : v < 18446744073709551616) : ∃ n : Nat, n ≤ v ∧ bits .and .u64 q (v : Int) = (n : Int) := by
  have hb : (BitVec.ofInt 64 (v : Int)).toNat = v := by simp; omega
  refine ⟨(BitVec.ofInt 64 q &&& BitVec.ofInt 64 (v : Int)).toNat, ?_, ?_⟩
  · rw [BitVec.toNat_and, hb]
    exact Nat.and_le_right
  · show IntKind.u64.wrap ((BitVec.ofInt 64 q &&& BitVec.ofInt 64 (v : Int)).toNat : Int) = _
    have := (BitVec.ofInt 64 q &&& BitVec.ofInt 64 (v : Int)).isLt
    rw [IntKind.wrap_u64]
    omega

theorem so_break (σ : Store) (id : Nat) (xs : List Int) (lo hi : Nat) (h12 : lo + 12 < hi) (h50 : hi < lo + 50) (hhi : hi ≤ xs.length) (hid : σ[id]? = some (ints xs)) (hx : xs.length ≤ 1048576) (g : AV) :
    ACall prog W0 176 [.row 88 id 0 xs.length, .int .i64 lo, .int .i64 hi, g] σ fun r σ' => ∃ (q : Int) (ys : List Int), ys.Perm xs ∧ σ' = σ.set id (ints ys) ++ [rndO q] := by
  have hidl : id < σ.length := (List.getElem?_eq_some_iff.1 hid).1
  refine fn_call [] [] func176 rfl rfl ntmps176 rfl rfl fun hs => ?_
  have hw0 : IntKind.i64.wrap ((hi : Int) - lo) = ((hi - lo : Nat) : Int) := by rw [wrap_in (by omega)]; omega
  have hw1 : IntKind.i64.wrap (Int.tdiv ((hi - lo : Nat) : Int) 4) = (((hi - lo) / 4 : Nat) : Int) := by
    rw [show Int.tdiv ((hi - lo : Nat) : Int) 4 = (((hi - lo) / 4 : Nat) : Int) from rfl, wrap_in (by omega)]
  have hm2 : IntKind.i64.wrap ((((hi - lo) / 4 : Nat) : Int) * 2) = (((hi - lo) / 4 * 2 : Nat) : Int) := by rw [wrap_in (by omega)]; omega
  have ha2 : IntKind.i64.wrap ((lo : Int) + (((hi - lo) / 4 * 2 : Nat) : Int)) = ((lo + (hi - lo) / 4 * 2 : Nat) : Int) := by rw [wrap_in (by omega)]; omega
  have ha3 : IntKind.i64.wrap (((lo + (hi - lo) / 4 * 2 : Nat) : Int) - 1) = ((lo + (hi - lo) / 4 * 2 - 1 : Nat) : Int) := by rw [wrap_in (by omega)]; omega
  have ha4 : IntKind.i64.wrap (((lo + (hi - lo) / 4 * 2 : Nat) : Int) + 1) = ((lo + (hi - lo) / 4 * 2 + 1 : Nat) : Int) := by rw [wrap_in (by omega)]; omega
  have h8 : decide ((8 : Int) ≤ ((hi - lo : Nat) : Int)) = true := decide_eq_true (by omega)
  have hu : IntKind.u64.wrap ((hi - lo : Nat) : Int) = ((hi - lo : Nat) : Int) := by rw [IntKind.wrap_u64]; omega
  have hlen1 : (σ ++ [some (SObj.cells 212 [AV.int .u64 0])]).length = σ.length + 1 := by simp
  have hrid : (σ ++ [some (SObj.cells 212 [AV.int .u64 0])])[σ.length]? = some (some (SObj.cells 212 [AV.int .u64 0])) := by simp
  simp only [go_sem, simprocAttr, ↓reduceIte, hw0, h8, hu, look_id hrid, live_id hrid, setLook_id hrid]
  have hs1 : (σ ++ [some (SObj.cells 212 [AV.int .u64 0])]).set σ.length (some (.cells 212 [.int .u64 ((hi - lo : Nat) : Int)])) = σ ++ [rndO ((hi - lo : Nat) : Int)] := by simp [rndO]
  try rw [hs1]
  refine CallA.goes (by first | (simp only [go_sem, simprocAttr, ↓reduceIte]; rfl) | (simp only [go_sem, simprocAttr, ↓reduceIte]; done)) (so_pow (σ ++ [rndO ((hi - lo : Nat) : Int)]) (hi - lo) (by omega) (by omega)) fun r σ1 ⟨⟨m, hm0, hm1, hr⟩, hσ⟩ => ?_
  subst hr hσ
  simp only [go_sem, simprocAttr, ↓reduceIte, hw1, hm2, ha2, ha3, hu]
  refine LoopVC.falls [0, 1, 8, 9, 10] (.of (by kernel_rfl)) (fun k A => ∃ i : Nat, A.env 11 = .int .i64 i ∧ k = lo + (hi - lo) / 4 * 2 + 2 - i ∧ lo ≤ i ∧ ∃ (q : Int) (ys : List Int), ys.Perm xs ∧ A.st = σ.set id (ints ys) ++ [rndO q]) 3 ?_ fun k B ⟨i, h11, hk, hi1, q, ys, hp, hst⟩ => ?_
  · simp only [go_sem, simprocAttr, ↓reduceIte]
    exact ⟨lo + (hi - lo) / 4 * 2 - 1, rfl, by omega, by omega, _, xs, .refl _, by rw [set_id hid]⟩
  have hyl := hp.length_eq
  simp only [go_sem, simprocAttr, ↓reduceIte, h11, hw1, hm2, ha2, ha4, hst]
  refine ⟨fun hle => ?_, fun _ => EndR.normal ?_⟩
  case refine_2 =>
    simp only [go_sem, simprocAttr, ↓reduceIte, hst]
    exact ⟨_, .refl _, by simp, q, ys, hp, rfl⟩
  have hrl : (σ.set id (ints ys) ++ [rndO q])[σ.length]? = some (rndO q) := by simp
  refine CallA.goes (by simp only [go_sem, simprocAttr, ↓reduceIte, hst]) (so_next (σ.set id (ints ys) ++ [rndO q]) σ.length q hrl) fun r σ1 ⟨q', hr, hσ⟩ => ?_
  have hσ : σ1 = σ.set id (ints ys) ++ [rndO q'] := by rw [hσ]; simp
  subst hr hσ
  have hmw : IntKind.u64.wrap ((m : Int) - 1) = ((m - 1 : Nat) : Int) := by rw [IntKind.wrap_u64]; omega
  obtain ⟨n, hn, hb⟩ := bits_and q' (m - 1) (by omega)
  have hnw : IntKind.i64.wrap (n : Int) = n := wrap_in (by omega)
  simp only [go_sem, simprocAttr, ↓reduceIte, hmw, hb, hnw]
  refine JoinVC.at [0, 1, 8, 9, 10, 11] (by kernel_rfl) (fun A => (∃ o : Nat, A.env 12 = .int .i64 o ∧ o < hi - lo) ∧ A.st = σ.set id (ints ys) ++ [rndO q']) (fun hge => ?_) (fun hlt => ?_) fun B2 ⟨⟨o, h12', ho⟩, hst2⟩ => ?_
  · simp only [decide_eq_true_eq] at hge
    have hnw2 : IntKind.i64.wrap ((n : Int) - ((hi - lo : Nat) : Int)) = ((n - (hi - lo) : Nat) : Int) := by rw [wrap_in (by omega)]; omega
    simp only [go_sem, simprocAttr, ↓reduceIte, hnw2]
    exact ⟨n - (hi - lo), rfl, by omega⟩
  · simp only [decide_eq_false_iff_not] at hlt
    simp only [go_sem, simprocAttr, ↓reduceIte]
    exact ⟨n, rfl, by omega⟩
  have hv1 : IntKind.i64.wrap ((lo : Int) + (o : Int)) = ((lo + o : Nat) : Int) := by rw [wrap_in (by omega)]; omega
  have hie : i ≤ lo + (hi - lo) / 4 * 2 + 1 := by omega
  obtain ⟨a, ha⟩ := get_some (show i < ys.length by omega)
  obtain ⟨b, hb⟩ := get_some (show lo + o < ys.length by omega)
  have hrow : ∀ zs : List Int, (σ.set id (ints zs) ++ [rndO q'])[id]? = some (some (SObj.cells 88 (zs.map (.int .i64)))) := fun zs => by
    rw [List.getElem?_append_left (by simpa using hidl), List.getElem?_set_self hidl]; rfl
  have hidl2 : id < (σ.set id (ints ys) ++ [rndO q']).length := by simp; omega
  simp only [go_sem, simprocAttr, ↓reduceIte, h11, h12', hst2, hv1, look_id (hrow ys), live_id (hrow ys), setLook_id (hrow ys), look_set hidl2, live_set hidl2, setLook_set hidl2, Nat.zero_add, List.getElem?_map, ha, hb, Option.map_some, Int.toNat_natCast]
  refine ⟨.of (by kernel_rfl), by omega, by omega, by omega, by omega, isSome_at (by simp; omega), .here (lo + (hi - lo) / 4 * 2 + 2 - (i + 1)) (by omega) ⟨i + 1, int_succ (N := 1048577) (by omega) (by rw [maxLen_eq]; omega), rfl, by omega, q', (ys.set i b).set (lo + o) a, (swap_perm hb ha).trans hp, ?_⟩⟩
  simp only [go_sem, simprocAttr, ↓reduceIte]
  rw [List.set_append_left _ _ (by simpa using hidl), List.set_set, ints, List.map_set, List.map_set]
end Go.Proofs.Tryz
end
section
set_option linter.unusedSimpArgs false
set_option linter.unusedVariables false
namespace Go.Proofs.Tryz
open Go Go.Av
set_option maxRecDepth 10000
set_option linter.unusedSimpArgs false
set_option linter.unusedVariables false
variable {W0 : World}

/-- The row in some other order, all else that was there as it was. -/
def PermF (σ st : Store) (id : Nat) (xs : List Int) : Prop := (∃ ys : List Int, ys.Perm xs ∧ st[id]? = some (ints ys)) ∧ Fr [id] σ st

theorem PermF.of {σ st : Store} {id : Nat} {xs : List Int} (hid : id < σ.length) (h : Perms σ st id xs) : PermF σ st id xs := by
  obtain ⟨ys, hp, rfl⟩ := h
  exact ⟨⟨ys, hp, List.getElem?_set_self hid⟩, ⟨by simp, fun j hj hn => List.getElem?_set_ne fun e => hn (by simp [e])⟩⟩

theorem PermF.step {σ τ st : Store} {id : Nat} {xs ys : List Int} (h1 : Fr [id] σ τ) (hy : ys.Perm xs) (h2 : PermF τ st id ys) : PermF σ st id xs := by
  obtain ⟨⟨zs, hz, hs⟩, hf⟩ := h2
  exact ⟨⟨zs, hz.trans hy, hs⟩, ⟨Nat.le_trans h1.len hf.len, fun j hj hn => by rw [hf.old j (Nat.lt_of_lt_of_le hj h1.len) hn, h1.old j hj hn]⟩⟩
theorem fr_perm {σ τ : Store} {id : Nat} {xs : List Int} (h1 : Fr [id] σ τ) {ys : List Int} (hy : ys.Perm xs) (hs : τ[id]? = some (ints ys)) : PermF σ τ id xs := ⟨⟨ys, hy, hs⟩, h1⟩

theorem so_pdqR (n : Nat) : ∀ (σ : Store) (id : Nat) (xs : List Int) (lo hi lim : Nat) (hn : hi - lo ≤ n) (hlo : lo ≤ hi) (hhi : hi ≤ xs.length) (hid : σ[id]? = some (ints xs)) (hx : xs.length < 50) (hlim : lim ≤ 300) (f : Int → Int → Int) (g : FuncId) (caps : List AV)
    (hcmp : ∀ a ∈ xs, ∀ b ∈ xs, PureFn prog W0 g ([.int .i64 a, .int .i64 b] ++ caps) (.int .i64 (f a b))),
    ACall prog W0 164 [.row 88 id 0 xs.length, .int .i64 lo, .int .i64 hi, .int .i64 lim, .fn g caps] σ fun r σ' => PermF σ σ' id xs := by
  induction n using Nat.strongRecOn with
  | ind n ih =>
  intro σ id xs lo hi lim hn hlo hhi hid hx hlim f g caps hcmp
  have hidl : id < σ.length := (List.getElem?_eq_some_iff.1 hid).1
  refine fn_call [] [] func164 rfl rfl ntmps164 rfl rfl fun hs => ?_
  simp only [go_sem, simprocAttr, ↓reduceIte]
  refine LoopVC.falls [0, 4] (.of (by kernel_rfl)) (fun k A => ∃ (a b lim : Nat) (wb wp : Bool), A.env 1 = .int .i64 a ∧ A.env 2 = .int .i64 b ∧ A.env 3 = .int .i64 lim ∧ A.env 10 = .bool wb ∧ A.env 11 = .bool wp ∧ k = b - a ∧ a ≤ b ∧ b ≤ xs.length ∧ b - a ≤ n ∧ lim ≤ 300 ∧ PermF σ A.st id xs) (hi - lo) ?_ fun k B ⟨a, b, lim, wb, wp, h1, h2, h3, h10, h11, hk, hab, hb, hbn, hl, hP⟩ => ?_
  · simp only [go_sem, simprocAttr, ↓reduceIte]
    exact ⟨lo, hi, lim, true, true, rfl, rfl, rfl, rfl, rfl, rfl, hlo, hhi, hn, hlim, fr_perm (Fr.refl _ _) (.refl _) hid⟩
  have hPc := hP
  obtain ⟨⟨ys, hp, hids⟩, hF⟩ := hPc
  have hyl := hp.length_eq
  have hw0 : IntKind.i64.wrap ((b : Int) - a) = ((b - a : Nat) : Int) := by rw [wrap_in (by omega)]; omega
  simp only [go_sem, simprocAttr, ↓reduceIte, h1, h2, h3, hw0]
  refine ⟨fun hle => ?_, fun hgt => ?_⟩
  · have hle : b - a ≤ 12 := by omega
    have hc := so_insertion (W0 := W0) B.st id ys a b hab (by omega) hids (by omega) f g caps fun a ha b hb => hcmp a (hp.subset ha) b (hp.subset hb)
    rw [hyl] at hc
    refine CallA.goes (by simp only [go_sem, simprocAttr, ↓reduceIte]) hc fun r σ1 ⟨zs, hz, hσ⟩ => ?_
    simp only [go_sem, simprocAttr, ↓reduceIte]
    refine EndR.ret ?_
    simp only [go_sem, simprocAttr, ↓reduceIte]
    have hP1 : PermF σ σ1 id xs := PermF.step hF hp (PermF.of (List.getElem?_eq_some_iff.1 hids).1 ⟨zs, hz, hσ⟩)
    exact ⟨_, .refl _, hP1.2.len, hP1⟩
  have hgt : a + 12 < b := by omega
  refine ⟨fun h0 => ?_, fun h0 => ?_⟩
  · have hc := so_heap (W0 := W0) B.st id ys a b (by omega) (by omega) hids (by omega) f g caps fun a ha b hb => hcmp a (hp.subset ha) b (hp.subset hb)
    rw [hyl] at hc
    refine CallA.goes (by simp only [go_sem, simprocAttr, ↓reduceIte]) hc fun r σ1 hσ => ?_
    simp only [go_sem, simprocAttr, ↓reduceIte]
    refine EndR.ret ?_
    simp only [go_sem, simprocAttr, ↓reduceIte]
    have hP1 : PermF σ σ1 id xs := PermF.step hF hp (PermF.of (List.getElem?_eq_some_iff.1 hids).1 hσ)
    exact ⟨_, .refl _, hP1.2.len, hP1⟩
  simp only [go_sem, simprocAttr, ↓reduceIte, h10]
  refine JoinVC.at [0, 1, 2, 4, 10, 11, 12] (by kernel_rfl) (fun A => (∃ lim : Nat, A.env 3 = .int .i64 lim ∧ lim ≤ 300) ∧ PermF σ A.st id xs) (fun hwb => ?_) (fun hwb => ?_) fun B2 ⟨⟨lim, h3, hl⟩, hP⟩ => ?_
  · simp only [go_sem, simprocAttr, ↓reduceIte, h1, h2]
    have hc := so_break (W0 := W0) B.st id ys a b hgt (by omega) (by omega) hids (by omega) (.fn g caps)
    rw [hyl] at hc
    refine CallA.goes (by simp only [go_sem, simprocAttr, ↓reduceIte]) hc fun r σ1 ⟨q, zs, hz, hσ⟩ => ?_
    have hwl : IntKind.i64.wrap ((lim : Int) - 1) = ((lim - 1 : Nat) : Int) := by rw [wrap_in (by omega)]; omega
    simp only [go_sem, simprocAttr, ↓reduceIte, h3, hwl]
    refine ⟨⟨lim - 1, rfl, by omega⟩, PermF.step hF hp ?_⟩
    have hil := (List.getElem?_eq_some_iff.1 hids).1
    have := PermF.of (σ := B.st) (xs := ys) hil ⟨zs, hz, rfl⟩
    rw [hσ]
    exact ⟨⟨zs, hz, by rw [List.getElem?_append_left (by simpa using hil), List.getElem?_set_self hil]⟩, this.2.app _⟩
  · simp only [go_sem, simprocAttr, ↓reduceIte, h3]
    exact ⟨⟨lim, rfl, hl⟩, hP⟩
  have hPc := hP
  obtain ⟨⟨ys, hp, hids⟩, hF⟩ := hPc
  have hyl := hp.length_eq
  simp only [go_sem, simprocAttr, ↓reduceIte, h1, h2, h3]
  have hc := so_pivot (W0 := W0) B2.st id ys a b hgt (by omega) (by omega) hids (by omega) f g caps fun a ha b hb => hcmp a (hp.subset ha) b (hp.subset hb)
  rw [hyl] at hc
  refine CallA.goes (by simp only [go_sem, simprocAttr, ↓reduceIte]) hc fun r σ1 ⟨⟨m, h, hr, hm1, hm2⟩, hE⟩ => ?_
  subst hr
  have hP : PermF σ σ1 id xs := PermF.step hF hp ⟨⟨ys, .refl _, by rw [hE.eq, List.getElem?_append_left (List.getElem?_eq_some_iff.1 hids).1]; exact hids⟩, Fr.ext hE⟩
  simp only [go_sem, simprocAttr, ↓reduceIte]
  refine JoinVC.at [0, 1, 2, 3, 4, 10, 11, 12] (by kernel_rfl) (fun A => (∃ (p : Nat) (h : Int), A.env 13 = .int .i64 p ∧ A.env 14 = .int .i64 h ∧ a ≤ p ∧ p < b) ∧ PermF σ A.st id xs) (fun _ => ?_) (fun _ => ?_) fun B3 ⟨⟨p, h, h13, h14, hp1, hp2⟩, hP⟩ => ?_
  · have hPc := hP
    obtain ⟨⟨ys, hp, hids⟩, hF⟩ := hPc
    have hyl := hp.length_eq
    have hc := so_reverse (W0 := W0) σ1 id ys a b (by omega) (by omega) hids (by omega) (.fn g caps)
    rw [hyl] at hc
    simp only [go_sem, simprocAttr, ↓reduceIte, h1, h2]
    refine CallA.goes (by simp only [go_sem, simprocAttr, ↓reduceIte]) hc fun r σ2 hσ => ?_
    have hw1 : IntKind.i64.wrap ((b : Int) - 1) = ((b - 1 : Nat) : Int) := by rw [wrap_in (by omega)]; omega
    have hw2 : IntKind.i64.wrap ((m : Int) - a) = ((m - a : Nat) : Int) := by rw [wrap_in (by omega)]; omega
    have hw3 : IntKind.i64.wrap (((b - 1 : Nat) : Int) - ((m - a : Nat) : Int)) = ((b - 1 - (m - a) : Nat) : Int) := by rw [wrap_in (by omega)]; omega
    simp only [go_sem, simprocAttr, ↓reduceIte, h1, h2, hw1, hw2, hw3]
    exact ⟨⟨b - 1 - (m - a), 1, rfl, rfl, by omega, by omega⟩, PermF.step hF hp (PermF.of (List.getElem?_eq_some_iff.1 hids).1 hσ)⟩
  · simp only [go_sem, simprocAttr, ↓reduceIte]
    exact ⟨⟨m, h, rfl, rfl, hm1, hm2⟩, hP⟩
  simp only [go_sem, simprocAttr, ↓reduceIte, h10, h11, h14]
  refine JoinVC.at [0, 1, 2, 3, 4, 10, 11, 12, 13] (by kernel_rfl) (fun A => PermF σ A.st id xs) (fun _ => ?_) (fun _ => ?_) fun B4 hP => ?_
  · have hPc := hP
    obtain ⟨⟨ys, hp, hids⟩, hF⟩ := hPc
    have hyl := hp.length_eq
    have hc := so_partial (W0 := W0) B3.st id ys a b (by omega) (by omega) (by omega) hids (by omega) f g caps fun a ha b hb => hcmp a (hp.subset ha) b (hp.subset hb)
    rw [hyl] at hc
    simp only [go_sem, simprocAttr, ↓reduceIte, h1, h2]
    refine CallA.goes (by simp only [go_sem, simprocAttr, ↓reduceIte]) hc fun r σ2 ⟨⟨q, hr⟩, hσ⟩ => ?_
    subst hr hσ
    simp only [go_sem, simprocAttr, ↓reduceIte]
    refine ⟨fun _ => EndR.ret ?_, fun _ => hP⟩
    simp only [go_sem, simprocAttr, ↓reduceIte]
    exact ⟨_, .refl _, hP.2.len, hP⟩
  · simp only [go_sem, simprocAttr, ↓reduceIte]
    exact hP
  have hPc := hP
  obtain ⟨⟨ys, hp, hids⟩, hF⟩ := hPc
  have hyl := hp.length_eq
  have hids' := hids
  unfold ints at hids'
  obtain ⟨c, hc⟩ := get_some (show p < ys.length by omega)
  have hcm := hp.subset (List.mem_of_getElem? hc)
  have hwa : 0 < (a : Int) → IntKind.i64.wrap ((a : Int) - 1) = ((a - 1 : Nat) : Int) := fun h => by rw [wrap_in (by omega)]; omega
  obtain ⟨d, hd⟩ := get_some (show a - 1 < ys.length by omega)
  simp only [go_sem, simprocAttr, ↓reduceIte, h1, h13, look_id hids', live_id hids', Nat.zero_add, List.getElem?_map, hc, Option.map_some, Int.toNat_natCast]
  refine ⟨.of (by kernel_rfl), fun h => by rw [hwa h]; omega, fun h => by rw [hwa h, Int.toNat_natCast, hd]; rfl, fun _ => by omega, CallP.go (r := .int .i64 (f d c)) (fun h => ?_) ?_⟩
  · have h := of_decide_eq_true h
    rw [hwa h, Int.toNat_natCast, hd]
    exact hcmp d (hp.subset (List.mem_of_getElem? hd)) c hcm
  simp only [go_sem, simprocAttr, ↓reduceIte, h1, h2, h13]
  refine ⟨fun hq => ?_, fun hq => ?_⟩
  · have hc := so_partEq (W0 := W0) B4.st id ys a b p (by omega) (by omega) hp1 hp2 hids (by omega) f g caps fun a ha b hb => hcmp a (hp.subset ha) b (hp.subset hb)
    rw [hyl] at hc
    refine CallA.goes (by simp only [go_sem, simprocAttr, ↓reduceIte]) hc fun r σ2 ⟨⟨i, hr, hi1, hi2⟩, hσ⟩ => ?_
    subst hr
    simp only [go_sem, simprocAttr, ↓reduceIte, h2, h3, h10, h11]
    exact .here (b - i) (by omega) ⟨i, b, lim, wb, wp, rfl, by simp only [go_sem, simprocAttr, ↓reduceIte, h2], by simp only [go_sem, simprocAttr, ↓reduceIte, h3], by simp only [go_sem, simprocAttr, ↓reduceIte, h10], by simp only [go_sem, simprocAttr, ↓reduceIte, h11], rfl, hi2, hb, by omega, hl, PermF.step hF hp (PermF.of (List.getElem?_eq_some_iff.1 hids).1 hσ)⟩
  have hc := so_part (W0 := W0) B4.st id ys a b p (by omega) (by omega) hp1 hp2 hids (by omega) f g caps fun a ha b hb => hcmp a (hp.subset ha) b (hp.subset hb)
  rw [hyl] at hc
  refine CallA.goes (by simp only [go_sem, simprocAttr, ↓reduceIte]) hc fun r σ2 ⟨⟨mid, al, hr, hi1, hi2⟩, hσ⟩ => ?_
  subst hr
  have hP2 : PermF σ σ2 id xs := PermF.step hF hp (PermF.of (List.getElem?_eq_some_iff.1 hids).1 hσ)
  obtain ⟨⟨zs, hpz, hidz⟩, hFz⟩ := hP2
  have hzl := hpz.length_eq
  have hv1 : IntKind.i64.wrap ((mid : Int) - a) = ((mid - a : Nat) : Int) := by rw [wrap_in (by omega)]; omega
  have hv2 : IntKind.i64.wrap ((b : Int) - mid) = ((b - mid : Nat) : Int) := by rw [wrap_in (by omega)]; omega
  have hv3 : IntKind.i64.wrap (Int.tdiv ((b - a : Nat) : Int) 8) = (((b - a) / 8 : Nat) : Int) := by
    rw [show Int.tdiv ((b - a : Nat) : Int) 8 = (((b - a) / 8 : Nat) : Int) from rfl, wrap_in (by omega)]
  have hv4 : IntKind.i64.wrap ((mid : Int) + 1) = ((mid + 1 : Nat) : Int) := by rw [wrap_in (by omega)]; omega
  simp only [go_sem, simprocAttr, ↓reduceIte, h1, h2, h3, hv1, hv2, hv3]
  refine ⟨fun _ => ?_, fun _ => ?_⟩
  · have hc := ih (mid - a) (by omega) σ2 id zs a mid lim (Nat.le_refl _) hi1 (by omega) hidz (by omega) hl f g caps fun a ha b hb => hcmp a (hpz.subset ha) b (hpz.subset hb)
    rw [hzl] at hc
    refine CallA.goes (by simp only [go_sem, simprocAttr, ↓reduceIte]) hc fun r σ3 hσ3 => ?_
    simp only [go_sem, simprocAttr, ↓reduceIte, h2, h3, hv4]
    refine .here (b - (mid + 1)) (by omega) ⟨mid + 1, b, lim, _, al, rfl, by simp only [go_sem, simprocAttr, ↓reduceIte, h2], by simp only [go_sem, simprocAttr, ↓reduceIte, h3], rfl, rfl, rfl, by omega, hb, by omega, hl, PermF.step hFz hpz hσ3⟩
  · have hc := ih (b - (mid + 1)) (by omega) σ2 id zs (mid + 1) b lim (Nat.le_refl _) (by omega) (by omega) hidz (by omega) hl f g caps fun a ha b hb => hcmp a (hpz.subset ha) b (hpz.subset hb)
    rw [hzl] at hc
    simp only [go_sem, simprocAttr, ↓reduceIte, h2, h3, hv4]
    refine CallA.goes (by simp only [go_sem, simprocAttr, ↓reduceIte]) hc fun r σ3 hσ3 => ?_
    simp only [go_sem, simprocAttr, ↓reduceIte, h1, h3]
    refine .here (mid - a) (by omega) ⟨a, mid, lim, _, al, by simp only [go_sem, simprocAttr, ↓reduceIte, h1], rfl, by simp only [go_sem, simprocAttr, ↓reduceIte, h3], rfl, rfl, rfl, hi1, by omega, by omega, hl, PermF.step hFz hpz hσ3⟩

theorem so_sortF (σ : Store) (id : Nat) (xs : List Int) (hid : σ[id]? = some (ints xs)) (hx : xs.length < 50) (f : Int → Int → Int) (g : FuncId) (caps : List AV)
    (hcmp : ∀ a ∈ xs, ∀ b ∈ xs, PureFn prog W0 g ([.int .i64 a, .int .i64 b] ++ caps) (.int .i64 (f a b))) :
    ACall prog W0 147 [.row 88 id 0 xs.length, .fn g caps] σ fun r σ' => PermF σ σ' id xs := by
  refine fn_call [] [] func147 rfl rfl ntmps147 rfl rfl fun hs => ?_
  have hw : IntKind.u64.wrap (xs.length : Int) = xs.length := by rw [IntKind.wrap_u64]; omega
  simp only [go_sem, simprocAttr, ↓reduceIte, hw]
  refine CallA.goes (by simp only [go_sem, simprocAttr, ↓reduceIte]) (bi_len σ xs.length (by omega)) fun r σ' ⟨⟨m, hm, hr⟩, hσ⟩ => ?_
  subst hr hσ
  simp only [go_sem, simprocAttr, ↓reduceIte]
  have hc := so_pdqR (W0 := W0) xs.length σ' id xs 0 xs.length m (by omega) (by omega) (Nat.le_refl _) hid hx (by omega) f g caps hcmp
  refine CallA.goes (by simp only [go_sem, simprocAttr, ↓reduceIte]) hc fun r σ'' hσ => ?_
  simp only [go_sem, simprocAttr, ↓reduceIte]
  refine EndR.normal ?_
  simp only [go_sem, simprocAttr, ↓reduceIte]
  exact ⟨_, .refl _, hσ.2.len, hσ⟩
/-- A row at the end of the store, put in some other order. -/
theorem permF_last {σ τ : Store} {o : Option SObj} {xs : List Int} (h : PermF (σ ++ [o]) τ σ.length xs) : ∃ (ys : List Int) (l : Store), ys.Perm xs ∧ τ = σ ++ [ints ys] ++ l := by
  obtain ⟨⟨ys, hp, hs⟩, hl, ho⟩ := h
  refine ⟨ys, τ.drop (σ.length + 1), hp, ?_⟩
  refine List.ext_getElem? fun j => ?_
  rw [List.length_append] at hl
  simp only [List.length_singleton] at hl
  rw [List.append_assoc]
  by_cases h1 : j < σ.length
  · rw [List.getElem?_append_left h1, ho j (by simp; omega) (by simp; omega), List.getElem?_append_left h1]
  · rw [List.getElem?_append_right (by omega)]
    by_cases h2 : j = σ.length
    · subst h2
      simp [hs]
    · rw [List.getElem?_append_right (by simp; omega), List.getElem?_drop]
      congr 1
      simp
      omega
end Go.Proofs.Tryz
end
section
set_option linter.unusedSimpArgs false
set_option linter.unusedVariables false
namespace Go.Proofs.Tryz
open Go Go.Av
set_option maxRecDepth 10000
set_option linter.unusedSimpArgs false
set_option linter.unusedVariables false
variable {W0 : World}

theorem sl_compact (σ : Store) (id : Nat) (xs : List Int) (hid : σ[id]? = some (some (.cells 88 (xs.map (.int .i64))))) (hx : xs.length ≤ 1048576) (hnd : xs.Nodup) :
    ACall prog W0 151 [.row 88 id 0 xs.length] σ fun r σ' => r = .row 88 id 0 xs.length ∧ σ' = σ := by
  refine fn_call [2] [] func151 rfl rfl ntmps151 rfl rfl fun hs => ?_
  simp only [go_sem, simprocAttr, ↓reduceIte]
  refine ⟨fun _ => EndR.ret ?_, fun h2 => ?_⟩
  · simp only [go_sem, simprocAttr, ↓reduceIte]
    exact ⟨_, .refl _, rfl⟩
  refine LoopVC.falls [0] (.of (by kernel_rfl)) (fun k A => ∃ j : Nat, A.env 3 = .int .i64 j ∧ k = xs.length - j ∧ 0 < j ∧ A.st = σ) (xs.length - 1) ⟨1, ?_⟩ fun k B ⟨j, h3, hk, hj, hst⟩ => ?_
  · simp only [go_sem, simprocAttr, ↓reduceIte]
    done
  simp only [go_sem, simprocAttr, ↓reduceIte, h3, hst]
  refine ⟨fun hlt => ?_, fun hge => EndR.ret ?_⟩
  · obtain ⟨a, ha⟩ := get_some hlt
    obtain ⟨b, hb⟩ := get_some (show j - 1 < xs.length by omega)
    have hw : IntKind.i64.wrap ((j : Int) - 1) = (j : Int) - 1 := wrap_in (by omega)
    have hn : ((j : Int) - 1).toNat = j - 1 := by omega
    have hab : (a == b) = false := by
      obtain ⟨h1, h2⟩ := List.getElem?_eq_some_iff.1 ha
      obtain ⟨h3, h4⟩ := List.getElem?_eq_some_iff.1 hb
      rw [beq_eq_false_iff_ne]
      intro e
      rw [← h2, ← h4] at e
      have := (List.getElem_inj hnd).1 e
      omega
    simp only [go_sem, simprocAttr, ↓reduceIte, h3, hst, look_id hid, live_id hid, hw, hn, Nat.zero_add, List.getElem?_map, ha, hb, Option.map_some, hab]
    exact ⟨.of (by kernel_rfl), hlt, by omega, .here (xs.length - (j + 1)) (by omega) ⟨j + 1, int_succ hlt (by rw [maxLen_eq]; omega), rfl, by omega, by simp only [go_sem, simprocAttr, ↓reduceIte, hst]⟩⟩
  · simp only [go_sem, simprocAttr, ↓reduceIte, hst]
    exact ⟨_, .refl _, rfl⟩

theorem cn_tidy (σ : Store) (c : List Int) (h0 : c ≠ []) (hl : c.length < 50) (hnd : c.Nodup) (hc : ∀ l ∈ c, l ≠ 0 ∧ l.natAbs ≤ 9223372036854775807) :
    ACall prog W0 114 [litsAV c] σ fun r σ' => Ext σ σ' ∧ ((∃ d : List Int, d.Perm c ∧ r = .tup [litsAV d, .bool true]) ∨ (r = .tup [.nils, .bool false] ∧ ∀ M, claT M c = true)) := by
  refine fn_call [2, 3] [] func114 rfl rfl ntmps114 rfl rfl fun hs => ?_
  simp only [go_sem, simprocAttr, ↓reduceIte]
  refine CallA.goes (by simp only [go_sem, simprocAttr, ↓reduceIte]) (sl_cloneRow σ c h0 (by omega)) fun r σ' ⟨hr, hσ⟩ => ?_
  subst hr hσ
  simp only [go_sem, simprocAttr, ↓reduceIte]
  have hid : (σ ++ [some (SObj.cells 88 (c.map (AV.int .i64)))])[σ.length]? = some (some (.cells 88 (c.map (.int .i64)))) := by simp
  refine CallA.goes (by simp only [go_sem, simprocAttr, ↓reduceIte]) (so_sortF _ σ.length c hid hl (fun a b => orL [sgn (a.natAbs : Nat) (b.natAbs : Nat), sgn a b]) _ [] fun a ha b hb => cn_cmp a b (hc a ha).2 (hc b hb).2) fun r τ hσ => ?_
  obtain ⟨ys, l, hp, hτ⟩ := permF_last hσ
  simp only [go_sem, simprocAttr, ↓reduceIte]
  have hyl := hp.length_eq
  have hid : τ[σ.length]? = some (some (.cells 88 (ys.map (.int .i64)))) := by rw [hτ]; simp [ints]
  have hτl : σ.length ≤ τ.length := by rw [hτ]; simp
  have hτe : Ext σ τ := by rw [hτ, List.append_assoc]; exact (Ext.refl _).app _
  rw [← hyl]
  refine CallA.goes (by simp only [go_sem, simprocAttr, ↓reduceIte]) (sl_compact _ σ.length ys hid (by omega) ((List.Perm.nodup_iff hp).2 hnd)) fun r σ' ⟨hr, hσ⟩ => ?_
  subst hr
  rw [hσ]
  clear hσ
  simp only [go_sem, simprocAttr, ↓reduceIte]
  refine LoopVC.at [4] (.of (by kernel_rfl)) (fun A => A.st = τ) ?_ fun B hst => ?_
  · refine LoopVC.upto [4, 13, 14] (.of (by kernel_rfl)) ys.length (fun i A => A.env 15 = .int .i64 i ∧ A.st = τ) 0 (Nat.zero_le _) ?_ fun i B hi ⟨h15, hst⟩ => ?_
    · simp only [go_sem, simprocAttr, ↓reduceIte]
      done
    by_cases hlt : i < ys.length
    · obtain ⟨a, ha⟩ := get_some hlt
      obtain ⟨b, hb⟩ := get_some (show i - 1 < ys.length by omega)
      have hw : IntKind.i64.wrap ((i : Int) - 1) = (i : Int) - 1 := wrap_in (by omega)
      have hn : ((i : Int) - 1).toNat = i - 1 := by omega
      have ham := hc a (hp.subset (List.mem_of_getElem? ha))
      have hbm := hc b (hp.subset (List.mem_of_getElem? hb))
      have ha0 : (a == 0) = false := by simp [ham.1]
      simp only [go_sem, simprocAttr, ↓reduceIte, h15, hst, hw, hn, Nat.zero_add, List.getElem?_map, ha, hb, Option.map_some, look_id hid, live_id hid, ha0, Option.bind_some, Option.isSome_some, Option.getD_some]
      refine fun _ => ⟨hlt, fun hg => by omega, CallP.fnG (fun _ => cn_variable b hbm.2) ?_⟩
      simp only [go_sem, simprocAttr, ↓reduceIte, h15, hst]
      refine CallP.fnG (fun _ => cn_variable a ham.2) ?_
      simp only [go_sem, simprocAttr, ↓reduceIte, h15, hst]
      refine ⟨fun hq => ?_, fun hq => ⟨hlt, int_succ hlt (by rw [maxLen_eq]; omega)⟩⟩
      refine EndR.ret ?_
      simp only [go_sem, simprocAttr, ↓reduceIte, hst]
      refine ⟨_, .refl _, hτl, hτe, .inr ⟨rfl, fun M => ?_⟩⟩
      simp only [Bool.and_eq_true, decide_eq_true_eq, beq_iff_eq] at hq
      obtain ⟨hi0, hab⟩ := hq
      have hne : a ≠ b := fun e => by
        obtain ⟨h1, h2⟩ := List.getElem?_eq_some_iff.1 ha
        obtain ⟨h3, h4⟩ := List.getElem?_eq_some_iff.1 hb
        rw [← h2, ← h4] at e
        have := (List.getElem_inj ((List.Perm.nodup_iff hp).2 hnd)).1 e
        omega
      have hneg : b = -a := by omega
      have h1 : a ∈ c := hp.subset (List.mem_of_getElem? ha)
      have h2 : -a ∈ c := by rw [← hneg]; exact hp.subset (List.mem_of_getElem? hb)
      refine List.any_eq_true.2 ?_
      cases ht : litT M a with
      | true => exact ⟨a, h1, ht⟩
      | false => exact ⟨-a, h2, by rw [litT_neg ham.1, ht]; rfl⟩
    · have hd : decide ((i : Int) < (ys.length : Int)) = false := decide_eq_false (by omega)
      simp only [go_sem, simprocAttr, ↓reduceIte, h15, hst, hd]
      try exact fun h => absurd h hlt
  simp only [go_sem, simprocAttr, ↓reduceIte, hst]
  refine EndR.frz (e := 88) (te := 88) (id := σ.length) (off := 0) (m := ys.length) (xs := ys.map (.int .i64)) 2 (by simp only [go_sem, simprocAttr, ↓reduceIte]) (by simp only [go_sem, simprocAttr, ↓reduceIte, hst]; exact hid) (by simp) (EndR.ret ?_)
  simp only [go_sem, simprocAttr, ↓reduceIte, hst]
  rw [List.take_of_length_le (by simp)]
  exact ⟨_, .refl _, by simpa using hτl, hτe.set (Nat.le_refl _) _, .inl ⟨ys, hp, rfl⟩⟩

theorem cn_new (σ : Store) (n : Nat) (hn : n ≤ 200) : ACall prog W0 85 [.int .i64 n] σ fun r σ' => r = .ptr 160 σ.length 0 [] ∧ σ' = σ ++ [setO n .nils] := by
  refine fn_call [2] [] func85 rfl rfl ntmps85 rfl rfl fun hs => ?_
  have e1 : minI (n : Int) 200 = n := by unfold minI; split <;> omega
  have e2 : maxI 0 (n : Int) = n := by unfold maxI; split <;> omega
  simp only [go_sem, simprocAttr, ↓reduceIte, e1, e2]
  refine EndR.ret ?_
  simp only [go_sem, simprocAttr, ↓reduceIte]
  exact ⟨_, .refl _, by simp, rfl, rfl⟩

theorem cn_vars (σ : Store) (id n : Nat) (cv : AV) (hid : σ[id]? = some (setO n cv)) : ACall prog W0 107 [.ptr 160 id 0 []] σ fun r σ' => r = .int .i64 n ∧ σ' = σ := by
  refine fn_st [2] [] func107 rfl rfl ntmps107 rfl rfl (.int _ _) fun hs => ?_
  simp only [go_sem, simprocAttr, ↓reduceIte, look_id hid]
  refine EndR.ret ?_
  simp only [go_sem, simprocAttr, ↓reduceIte]
  try exact .refl _

theorem cn_len (σ : Store) (id n : Nat) (cv : AV) (cls : List (List Int)) (hid : σ[id]? = some (setO n cv)) (hb : Bld σ cv 90 (cls.map litsAV)) : ACall prog W0 134 [.ptr 160 id 0 []] σ fun r σ' => r = .int .i64 cls.length ∧ σ' = σ := by
  refine fn_st [2] [] func134 rfl rfl ntmps134 rfl rfl (.int _ _) fun hs => ?_
  simp only [go_sem, simprocAttr, ↓reduceIte, look_id hid, hb.ok, hb.un, hb.len, hb.lenC, List.length_map]
  refine EndR.ret ?_
  simp only [go_sem, simprocAttr, ↓reduceIte]
  try exact .refl _

theorem cn_at (σ : Store) (id n : Nat) (cv : AV) (cls : List (List Int)) (hid : σ[id]? = some (setO n cv)) (hb : Bld σ cv 90 (cls.map litsAV)) (i : Nat) (c : List Int) (hc : cls[i]? = some c) (h0 : c ≠ []) (hl : c.length ≤ 1048576) :
    ACall prog W0 135 [.ptr 160 id 0 [], .int .i64 i] σ fun r σ' => r = litsAV c ∧ σ' = σ := by
  refine fn_st [4] [] func135 rfl rfl ntmps135 rfl rfl (idsLt_mono (Nat.zero_le _) (ids_lits _)) fun hs => ?_
  have hlt := (List.getElem?_eq_some_iff.1 hc).1
  simp only [go_sem, simprocAttr, ↓reduceIte]
  refine CallP.st (fun _ => cn_len σ id n cv cls hid hb) ?_
  simp only [go_sem, simprocAttr, ↓reduceIte]
  have h1 : decide ((cls.length : Int) ≤ (i : Int)) = false := decide_eq_false (by omega)
  have h2 : decide ((i : Int) < 0) = false := decide_eq_false (by omega)
  have h3 : decide (cls.length ≤ i) = false := decide_eq_false (by omega)
  have hm : cls.map litsAV ≠ [] := by
    cases cls with
    | nil => simp at hlt
    | cons => simp
  rcases hb with ⟨rfl, hn⟩ | rfl | ⟨t, rfl, ht⟩
  · exact absurd hn hm
  all_goals
    simp only [go_sem, simprocAttr, ↓reduceIte, h1, h2, h3, look_id hid, List.length_map, atV_map hc]
    refine ⟨hlt, CallA.fn (sl_clone c h0 hl) ?_⟩
    simp only [go_sem, simprocAttr, ↓reduceIte]
    refine EndR.ret ?_
    simp only [go_sem, simprocAttr, ↓reduceIte]
    try exact .refl _

theorem cn_add (σ : Store) (id n : Nat) (cv : AV) (cls : List (List Int)) (hid : σ[id]? = some (setO n cv)) (hb : Bld σ cv 90 (cls.map litsAV)) (hn : n ≤ 200) (hc5 : cls.length < 5000) (c : List Int) (hw : wfC n c = true) (h0 : c ≠ []) (hl : c.length < 50) (hnd : c.Nodup) :
    ACall prog W0 87 [.ptr 160 id 0 [], litsAV c] σ fun r σ' => r = .bool true ∧ Fr (id :: foot cv) σ σ' ∧ ∃ cv' cls', σ'[id]? = some (setO n cv') ∧ Bld σ' cv' 90 (cls'.map litsAV) ∧ (∀ j ∈ foot cv', j ∈ foot cv ∨ σ.length ≤ j) ∧
      (∀ M, setT M cls' = (setT M cls && claT M c)) ∧ cls'.length ≤ cls.length + 1 ∧ ∀ d ∈ cls', d ∈ cls ∨ d.Perm c := by
  refine fn_call [4] [] func87 rfl rfl ntmps87 rfl rfl fun hs => ?_
  have hc : ∀ l ∈ c, l ≠ 0 ∧ l.natAbs ≤ n := fun l hl => by
    have := List.all_eq_true.1 hw l hl
    simpa [wfL] using this
  simp only [go_sem, simprocAttr, ↓reduceIte]
  refine CallA.reads (by simp only [go_sem, simprocAttr, ↓reduceIte]) (cn_may σ id n cv cls hid hb (by omega) hc5 c fun l hl => by have := (hc l hl).2; omega) ?_
  rw [hw]
  simp only [go_sem, simprocAttr, ↓reduceIte]
  refine CallA.goes (by simp only [go_sem, simprocAttr, ↓reduceIte]) (cn_tidy σ c h0 hl hnd fun l hl => ⟨(hc l hl).1, by have := (hc l hl).2; omega⟩) fun r σ' ⟨hx, hr⟩ => ?_
  have hidl := (List.getElem?_eq_some_iff.1 hid).1
  have hid' : σ'[id]? = some (setO n cv) := by rw [(Fr.ext (F := []) hx).old id hidl (by simp), hid]
  have hb' : Bld σ' cv 90 (cls.map litsAV) := hb.keep fun j hj => (Fr.ext (F := []) hx).old j (hb.lt j hj) (by simp)
  rcases hr with ⟨d, hp, rfl⟩ | ⟨rfl, hM⟩
  · simp only [go_sem, simprocAttr, ↓reduceIte]
    refine JoinVC.both (fun _ => ?_) (fun h => by cases h)
    simp only [go_sem, simprocAttr, ↓reduceIte, look_id hid', hb'.ok, hb'.un]
    refine AppA.ownS (σ := σ') (by simp only [go_sem, simprocAttr, ↓reduceIte]) 1048576 (by kernel_rfl) hb' (.lit _ _ _) (by simp; omega) fun v' σ'' ha => ?_
    have hf := ha.fr
    have hidl' := (List.getElem?_eq_some_iff.1 hid').1
    have hid'' : σ''[id]? = some (setO n cv) := by rw [hf.old id hidl' (hb'.ne hid' (by simp)), hid']
    have hbv := ha.bld
    simp only [go_sem, simprocAttr, ↓reduceIte, look_id hid'', setLook_id hid'', hbv.ok, hbv.un, hbv.fits]
    refine EndR.ret ?_
    simp only [go_sem, simprocAttr, ↓reduceIte]
    have hne : id ∉ foot v' := hbv.ne hid'' (by simp)
    refine ⟨_, .refl _, by have := hf.len; have := hx.le; simp; omega, rfl, ?_, v', cls ++ [d], ?_, ?_, ?_, ?_, ?_, ?_⟩
    · exact ((Fr.ext (F := id :: foot cv) hx).trans (hf.mono (G := id :: foot cv) fun j hj => by simp [hj]) fun j hj => .inl hj).set (.inl (by simp)) _
    · have := hf.len; simp [show id < σ''.length by omega]; rfl
    · rw [List.map_append]
      exact hbv.keep fun j hj => List.getElem?_set_ne (fun e => hne (by rw [e]; exact hj))
    · exact fun j hj => (ha.foot hb' j hj).imp_right fun h => by have := hx.le; omega
    · exact fun M => by simp only [setT, List.all_append, List.all_cons, List.all_nil, Bool.and_true]; rw [claT_perm (M := M) fun l => hp.mem_iff]
    · simp
    · exact fun e he => (List.mem_append.1 he).imp_right fun h => by rw [List.mem_singleton.1 h]; exact hp
  · simp only [go_sem, simprocAttr, ↓reduceIte]
    refine JoinVC.both (fun h => by cases h) (fun _ => ?_)
    simp only [go_sem, simprocAttr, ↓reduceIte]
    refine EndR.ret ?_
    simp only [go_sem, simprocAttr, ↓reduceIte]
    refine ⟨_, .refl _, hx.le, rfl, .ext hx, cv, cls, hid', hb', fun j hj => .inl hj, fun M => by rw [hM, Bool.and_true], by omega, fun d hd => .inl hd⟩
end Go.Proofs.Tryz
end
