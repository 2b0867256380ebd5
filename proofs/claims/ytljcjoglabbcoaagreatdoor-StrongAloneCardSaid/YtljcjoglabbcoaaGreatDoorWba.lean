/- Texts that the last one of this claim rests on: a layer over the guide's own conditions for code; contracts of the functions that the law reaches, one by one. No conditions beside those of the given rows. -/
import Derived.Test.YtljcjoglabbcoaaGreatDoorWay
import Derived.Test.YtljcjoglabbcoaaGreatDoorWaz
section
set_option linter.unusedSimpArgs false
set_option linter.unusedVariables false
namespace Go.Proofs.Tryz
open Go Go.Av
set_option maxRecDepth 10000
set_option linter.unusedSimpArgs false
set_option linter.unusedVariables false
variable {W0 : World}

theorem ixLitR {α : Type} (enc : α → AV) (hp : ∀ a, NotM (enc a)) (l : List α) (q : α → Bool) (g : FuncId) (caps : List AV) (σ : Store) (h : ∀ a ∈ l, ACall prog W0 g ([enc a] ++ caps) σ fun r σ' => r = .bool (q a) ∧ σ' = σ) :
    ACall prog W0 133 [.sl 54 (l.map enc), .fn g caps] σ fun r σ' => r = .int .i64 (idxL q l) ∧ σ' = σ := by
  refine fn_st [4] [] func133 rfl rfl ntmps133 rfl rfl (.int _ _) fun hs => ?_
  have hl := (small_map (hs _ (List.mem_cons_self ..))).1
  simp only [go_sem, simprocAttr, ↓reduceIte]
  refine LoopVC.upto [0, 1, 7] (.of (by kernel_rfl)) l.length (fun i A => A.env 8 = .int .i64 i ∧ A.st = σ ∧ ∀ a ∈ l.take i, q a = false) 0 (Nat.zero_le _) ?_ fun i B hi ⟨h8, hst, hI⟩ => ?_
  · simp only [go_sem, simprocAttr, ↓reduceIte]
    all_goals simp
  simp only [go_sem, simprocAttr, ↓reduceIte, h8, hst, List.length_map]
  refine ⟨fun hc => ⟨hc, ?_⟩, fun hc => EndR.ret ?_⟩
  · obtain ⟨a, ha⟩ := get_some hc
    simp only [atV_map ha, okM_notM (hp a), unm_notM (hp a), true_and]
    refine CallA.readsC (by simp only [go_sem, simprocAttr, ↓reduceIte, hst]) (h a (List.mem_of_getElem? ha)) ?_
    simp only [go_sem, simprocAttr, ↓reduceIte, h8, hst]
    refine ⟨fun hq => EndR.ret ?_, fun hq => ⟨hc, int_succ hc hl, ?_⟩⟩
    · simp only [go_sem, simprocAttr, ↓reduceIte, hst]
      exact weak_int (idxL_at ha hq hI).symm
    rw [take_succ_get ha]
    intro b hb
    rcases List.mem_append.1 hb with hb | hb
    · exact hI b hb
    · rw [List.mem_singleton.1 hb]; exact hq
  · simp only [go_sem, simprocAttr, ↓reduceIte, hst]
    rw [idxL_none (by rwa [List.take_of_length_le hc] at hI)]
    exact .refl _
theorem ixLitsR {α : Type} (enc : α → AV) (hp : ∀ a, NotM (enc a)) (l : List α) (q : α → Bool) (g : FuncId) (caps : List AV) (σ : Store) (h : ∀ a ∈ l, ACall prog W0 g ([enc a] ++ caps) σ fun r σ' => r = .bool (q a) ∧ σ' = σ) :
    ACall prog W0 144 [.sl 84 (l.map enc), .fn g caps] σ fun r σ' => r = .int .i64 (idxL q l) ∧ σ' = σ := by
  refine fn_st [4] [] func144 rfl rfl ntmps144 rfl rfl (.int _ _) fun hs => ?_
  have hl := (small_map (hs _ (List.mem_cons_self ..))).1
  simp only [go_sem, simprocAttr, ↓reduceIte]
  refine LoopVC.upto [0, 1, 7] (.of (by kernel_rfl)) l.length (fun i A => A.env 8 = .int .i64 i ∧ A.st = σ ∧ ∀ a ∈ l.take i, q a = false) 0 (Nat.zero_le _) ?_ fun i B hi ⟨h8, hst, hI⟩ => ?_
  · simp only [go_sem, simprocAttr, ↓reduceIte]
    all_goals simp
  simp only [go_sem, simprocAttr, ↓reduceIte, h8, hst, List.length_map]
  refine ⟨fun hc => ⟨hc, ?_⟩, fun hc => EndR.ret ?_⟩
  · obtain ⟨a, ha⟩ := get_some hc
    simp only [atV_map ha, okM_notM (hp a), unm_notM (hp a), true_and]
    refine CallA.readsC (by simp only [go_sem, simprocAttr, ↓reduceIte, hst]) (h a (List.mem_of_getElem? ha)) ?_
    simp only [go_sem, simprocAttr, ↓reduceIte, h8, hst]
    refine ⟨fun hq => EndR.ret ?_, fun hq => ⟨hc, int_succ hc hl, ?_⟩⟩
    · simp only [go_sem, simprocAttr, ↓reduceIte, hst]
      exact weak_int (idxL_at ha hq hI).symm
    rw [take_succ_get ha]
    intro b hb
    rcases List.mem_append.1 hb with hb | hb
    · exact hI b hb
    · rw [List.mem_singleton.1 hb]; exact hq
  · simp only [go_sem, simprocAttr, ↓reduceIte, hst]
    rw [idxL_none (by rwa [List.take_of_length_le hc] at hI)]
    exact .refl _
theorem anLitR {α : Type} (enc : α → AV) (hp : ∀ a, NotM (enc a)) (l : List α) (q : α → Bool) (g : FuncId) (caps : List AV) (σ : Store) (h : ∀ a ∈ l, ACall prog W0 g ([enc a] ++ caps) σ fun r σ' => r = .bool (q a) ∧ σ' = σ) :
    ACall prog W0 99 [.sl 54 (l.map enc), .fn g caps] σ fun r σ' => r = .bool (l.any q) ∧ σ' = σ := by
  refine fn_st [4] [] func99 rfl rfl ntmps99 rfl rfl (.bool _) fun hs => ?_
  simp only [go_sem, simprocAttr, ↓reduceIte]
  refine CallA.reads (by simp only [go_sem, simprocAttr, ↓reduceIte]) (ixLitR enc hp l q g caps σ h) ?_
  simp only [go_sem, simprocAttr, ↓reduceIte]
  refine EndR.ret ?_
  simp only [go_sem, simprocAttr, ↓reduceIte]
  rw [idxL_ge]
  exact .refl _

theorem cn_variable (l : Int) (h : l.natAbs ≤ 9223372036854775807) : PureFn prog W0 101 [.int .i64 l] (.int .u64 (l.natAbs : Nat)) := by
  refine fn_pure [2] [] func101 rfl rfl ntmps101 rfl rfl (.int _ _) fun hs σ => ?_
  simp only [go_sem, simprocAttr, ↓reduceIte]
  refine ⟨fun h0 => weak_int ?_, fun h0 => weak_int ?_⟩
  · rw [IntKind.wrap_u64, IntKind.wrap_u64]; omega
  · rw [IntKind.wrap_u64]; omega

def litsAV (c : List Int) : AV := .sl 54 (c.map (.int .i64))
def clsAV (l : List (List Int)) : AV := .sl 84 (l.map litsAV)
theorem NotM.int64 (n : Int) : NotM (AV.int .i64 n) := trivial
theorem NotM.lits (c : List Int) : NotM (litsAV c) := trivial
@[go_sem] theorem okM_litsAV (g : Option Bool) (l : List Int) : okM g (litsAV l) = True := eq_true trivial
@[go_sem] theorem unm_litsAV (l : List Int) : unm (litsAV l) = litsAV l := rfl
@[go_sem] theorem fitsB_litsAV (P : Program) (t : TypeId) (l : List Int) : fitsB P t (litsAV l) = prim P t := rfl
theorem ids_lits (c : List Int) : IdsLt 0 (litsAV c) := ids_map (fun _ => .int _ _) c
theorem ids_cls (l : List (List Int)) : IdsLt 0 (clsAV l) := ids_map ids_lits l

/-- A set of clauses: its variables, its clauses. -/
def setO (n : Nat) (cv : AV) : Option SObj := some (.cells 112 [.agg 112 [.int .i64 n, cv]])

theorem cn_cmp (a b : Int) (ha : a.natAbs ≤ 9223372036854775807) (hb : b.natAbs ≤ 9223372036854775807) : PureFn prog W0 104 [.int .i64 a, .int .i64 b] (.int .i64 (orL [sgn (a.natAbs : Nat) (b.natAbs : Nat), sgn a b])) := by
  refine fn_pure [4] [] func104 rfl rfl ntmps104 rfl rfl (.int _ _) fun hs σ => ?_
  simp only [go_sem, simprocAttr, ↓reduceIte]
  refine CallA.fn (cn_variable a ha) ?_
  simp only [go_sem, simprocAttr, ↓reduceIte]
  refine CallA.fn (cn_variable b hb) ?_
  simp only [go_sem, simprocAttr, ↓reduceIte]
  refine CallA.fn (cmpUint _ _) ?_
  simp only [go_sem, simprocAttr, ↓reduceIte]
  refine CallA.fn (cmpLit a b) ?_
  simp only [go_sem, simprocAttr, ↓reduceIte]
  refine CallA.fn ((cmp_or [_, _]).weak (.cons (.lit _ _) .nil)) ?_
  simp only [go_sem, simprocAttr, ↓reduceIte]
  try exact .refl _

theorem cn_may1 (σ : Store) (id n : Nat) (cv : AV) (hid : σ[id]? = some (setO n cv)) (hn : n ≤ 9223372036854775807) (l : Int) (hl : l.natAbs ≤ 9223372036854775807) :
    ACall prog W0 100 [.int .i64 l, .loc 79 (.ptr 112 id 0 [])] σ fun r σ' => r = .bool (!wfL n l) ∧ σ' = σ := by
  refine fn_st [3] [] func100 rfl rfl ntmps100 rfl rfl (.bool _) fun hs => ?_
  simp only [go_sem, simprocAttr, ↓reduceIte]
  refine ⟨.of (by kernel_rfl), CallP.fnG (fun _ => cn_variable l hl) ?_⟩
  simp only [go_sem, simprocAttr, ↓reduceIte, look_id hid]
  refine EndR.ret ?_
  simp only [go_sem, simprocAttr, ↓reduceIte]
  refine weak_bool ?_
  have hw : IntKind.u64.wrap (n : Int) = n := by rw [IntKind.wrap_u64]; omega
  rw [hw, wfL, Bool.not_and, ← decide_not, ← decide_not]
  congr 1
  · rw [Bool.eq_iff_iff]; simp
  · exact decide_eq_decide.2 (by omega)

theorem cn_may (σ : Store) (id n : Nat) (cv : AV) (cls : List (List Int)) (hid : σ[id]? = some (setO n cv)) (hb : Bld σ cv 84 (cls.map litsAV)) (hn : n ≤ 9223372036854775807) (hc5 : cls.length < 5000) (c : List Int) (hc : ∀ l ∈ c, l.natAbs ≤ 9223372036854775807) :
    ACall prog W0 77 [.ptr 112 id 0 [], litsAV c] σ fun r σ' => r = .bool (wfC n c) ∧ σ' = σ := by
  refine fn_st [4] [2] func77 rfl rfl ntmps77 rfl rfl (.bool _) fun hs => ?_
  have h5 : decide ((cls.length : Int) < 5000) = true := decide_eq_true (by omega)
  simp only [go_sem, simprocAttr, ↓reduceIte, look_id hid, hb.ok, hb.un, hb.len, hb.lenC, List.length_map, h5]
  refine CallP.st (fun _ => anLitR (.int .i64) NotM.int64 c (fun l => !wfL n l) _ [.loc 79 (.ptr 112 id 0 [])] σ fun l hl => cn_may1 σ id n cv hid hn l (hc l hl)) ?_
  simp only [go_sem, simprocAttr, ↓reduceIte]
  refine EndR.ret ?_
  simp only [go_sem, simprocAttr, ↓reduceIte]
  refine weak_bool ?_
  rw [wfC, List.all_eq_not_any_not]

theorem sl_clone (c : List Int) (h0 : c ≠ []) (hl : c.length ≤ 1048576) : PureFn prog W0 102 [litsAV c] (litsAV c) := by
  refine fn_pure [2] [] func102 rfl rfl ntmps102 rfl rfl (ids_lits _) fun hs σ => ?_
  cases c with
  | nil => exact absurd rfl h0
  | cons x c =>
    simp only [go_sem, simprocAttr, ↓reduceIte, litsAV]
    refine AppA.own 1048576 (by kernel_rfl) (.inr (.inl rfl)) (.sl _ _ _) (by simpa using hl) fun v' σ' ha' => ?_
    have hb' := (Built.app (σ := σ) ⟨.inr (.inl rfl), .refl _, fun t h => by cases h⟩ ha')
    simp only [go_sem, simprocAttr, ↓reduceIte, hb'.ok, hb'.un]
    exact ⟨hb'.weak, hb'.ext⟩

theorem sl_cloneRow (σ : Store) (c : List Int) (h0 : c ≠ []) (hl : c.length ≤ 1048576) : ACall prog W0 102 [litsAV c] σ fun r σ' => r = .row 54 σ.length 0 c.length ∧ σ' = σ ++ [some (.cells 54 (c.map (.int .i64)))] := by
  refine fn_call [2] [] func102 rfl rfl ntmps102 rfl rfl fun hs => ?_
  cases c with
  | nil => exact absurd rfl h0
  | cons x c =>
    simp only [go_sem, simprocAttr, ↓reduceIte, litsAV]
    refine AppA.row 1048576 (by kernel_rfl) (.inr (.inl rfl)) (.sl _ _ _) (by simpa using hl) (fun h => by cases h) fun _ => ?_
    simp only [go_sem, simprocAttr, ↓reduceIte]
    refine EndR.ret ?_
    simp only [go_sem, simprocAttr, ↓reduceIte]
    exact ⟨_, .refl _, by simp [killOf], by simp, rfl⟩

theorem so_insertion (σ : Store) (id : Nat) (xs : List Int) (lo hi : Nat) (hlo : lo ≤ hi) (hhi : hi ≤ xs.length) (hid : σ[id]? = some (some (.cells 54 (xs.map (.int .i64))))) (hx : xs.length ≤ 1048576) (f : Int → Int → Int) (g : FuncId) (caps : List AV)
    (hcmp : ∀ a ∈ xs, ∀ b ∈ xs, PureFn prog W0 g ([.int .i64 a, .int .i64 b] ++ caps) (.int .i64 (f a b))) :
    ACall prog W0 155 [.row 54 id 0 xs.length, .int .i64 lo, .int .i64 hi, .fn g caps] σ fun r σ' => ∃ ys : List Int, ys.Perm xs ∧ σ' = σ.set id (some (.cells 54 (ys.map (.int .i64)))) := by
  have hidl : id < σ.length := (List.getElem?_eq_some_iff.1 hid).1
  refine fn_call [] [] func155 rfl rfl ntmps155 rfl rfl fun hs => ?_
  simp only [go_sem, simprocAttr, ↓reduceIte]
  refine LoopVC.falls [0, 1, 2, 3] (.of (by kernel_rfl)) (fun k A => ∃ i : Nat, A.env 8 = .int .i64 i ∧ k = hi - i ∧ 0 < i ∧ lo < i ∧ ∃ ys : List Int, ys.Perm xs ∧ A.st = σ.set id (some (.cells 54 (ys.map (.int .i64))))) (hi - (lo + 1)) ?_ fun k B ⟨i, h8, hk, hi0, hli, ys, hp, hst⟩ => ?_
  · simp only [go_sem, simprocAttr, ↓reduceIte]
    exact ⟨lo + 1, int_succ (N := 1048577) (by omega) (by rw [maxLen_eq]; omega), rfl, by omega, by omega, xs, .refl _, (set_id hid).symm⟩
  simp only [go_sem, simprocAttr, ↓reduceIte, h8, hst]
  refine ⟨fun hih => ?_, fun hih => EndR.normal ?_⟩
  · refine LoopVC.ats [0, 1, 2, 3, 8] (.of (by kernel_rfl)) (fun A => ∃ ys : List Int, ys.Perm xs ∧ A.st = σ.set id (some (.cells 54 (ys.map (.int .i64))))) ?_ fun A ⟨ys, hp, hst⟩ => ?_
    · refine LoopVC.falls [0, 1, 2, 3, 8] (.of (by kernel_rfl)) (fun k A => ∃ ys : List Int, A.env 9 = .int .i64 (k : Nat) ∧ k ≤ i ∧ ys.Perm xs ∧ A.st = σ.set id (some (.cells 54 (ys.map (.int .i64))))) i ?_ fun k A ⟨ys, h9, hki, hp, hst⟩ => ?_
      · simp only [go_sem, simprocAttr, ↓reduceIte]
        exact ⟨ys, hp, hst⟩
      have hyl := hp.length_eq
      obtain ⟨a, ha⟩ := get_some (show k < ys.length by omega)
      obtain ⟨b, hb⟩ := get_some (show k - 1 < ys.length by omega)
      have hw : IntKind.i64.wrap ((k : Int) - 1) = (k : Int) - 1 := wrap_in (by omega)
      have hn : ((k : Int) - 1).toNat = k - 1 := by omega
      have ham := hp.subset (List.mem_of_getElem? ha)
      have hbm := hp.subset (List.mem_of_getElem? hb)
      simp only [go_sem, simprocAttr, ↓reduceIte, h9, hst, look_set hidl, live_set hidl, hw, hn, Nat.zero_add, List.getElem?_map, ha, hb, Option.map_some]
      refine ⟨.of (by kernel_rfl), fun _ => by omega, fun _ => by omega, CallP.go (fun _ => hcmp a ham b hbm) ?_⟩
      simp only [go_sem, simprocAttr, ↓reduceIte, h9, hst]
      refine ⟨fun hlt => ?_, fun hge => ⟨ys, hp, rfl⟩⟩
      have hlk : lo < k := by simp only [Bool.and_eq_true, decide_eq_true_eq] at hlt; exact hlt.1
      simp only [go_sem, simprocAttr, ↓reduceIte, h9, hst, look_set hidl, live_set hidl, setLook_set hidl, hw, hn, Nat.zero_add, List.getElem?_map, ha, hb, Option.map_some]
      refine ⟨.of (by kernel_rfl), by omega, by omega, by omega, by omega, ?_, .here (k - 1) (by omega) ⟨(ys.set k b).set (k - 1) a, ?_, by omega, (swap_perm hb ha).trans hp, ?_⟩⟩
      · rw [← List.map_set]
        obtain ⟨y, hy⟩ := get_some (show k - 1 < ((ys.set k b).map (AV.int .i64)).length by simp; omega)
        rw [hy]; rfl
      · simp only [go_sem, simprocAttr, ↓reduceIte]
        congr 1
        omega
      · simp only [go_sem, simprocAttr, ↓reduceIte, hst]
        rw [List.map_set, List.map_set]
    simp only [go_sem, simprocAttr, ↓reduceIte, h8, hst]
    exact .here (hi - (i + 1)) (by omega) ⟨i + 1, int_succ hih (by rw [maxLen_eq]; omega), rfl, by omega, by omega, ys, hp, by simp only [go_sem, simprocAttr, ↓reduceIte, hst]⟩
  · simp only [go_sem, simprocAttr, ↓reduceIte, hst]
    exact ⟨_, .refl _, by simp, ys, hp, rfl⟩
end Go.Proofs.Tryz
end
section
set_option linter.unusedSimpArgs false
set_option linter.unusedVariables false
namespace Go.Proofs.Tryz
open Go Go.Av
set_option maxRecDepth 10000
set_option linter.unusedSimpArgs false
set_option linter.unusedVariables false
variable {W0 : World}

def tabOf (l : List UInt8) : List UInt8 := l
theorem val_tab (A : AState) (l m : List UInt8) (h : (l.append m).length ≤ maxLen) : A.val (.const (.string ⟨(l.append m).toArray⟩)) = .str (tabOf (l.append m)) := by
  show (if (l.append m).toArray.toList.length ≤ maxLen then AV.str (l.append m).toArray.toList else .undef) = _
  rw [if_pos (by simpa using h)]; rfl
theorem bi_len64 (σ : Store) (n : Nat) (hn : n < 256) : ACall prog W0 164 [.int .u64 n] σ fun r σ' => (∃ m : Nat, m ≤ 255 ∧ r = .int .i64 m) ∧ σ' = σ := by
  · refine fn_call [2] [] func164 rfl rfl ntmps164 rfl rfl fun hs => ?_
    have h1 : decide ((4294967296 : Int) ≤ (n : Int)) = false := decide_eq_false (by omega)
    have h2 : decide ((65536 : Int) ≤ (n : Int)) = false := decide_eq_false (by omega)
    have h3 : decide ((256 : Int) ≤ (n : Int)) = false := decide_eq_false (by omega)
    simp only [go_sem, simprocAttr, ↓reduceIte, h1, h2, h3]
    refine JoinVC.at [] (by kernel_rfl) (fun A => A.st = σ ∧ A.env 0 = .int .u64 n ∧ A.env 2 = .int .i64 0) (fun h => by cases h) (fun _ => ?_) fun B ⟨hst, hx, hy⟩ => ?_
    · simp only [go_sem, simprocAttr, ↓reduceIte]
    simp only [go_sem, simprocAttr, ↓reduceIte, h1, h2, h3, hst, hx, hy]
    refine JoinVC.at [] (by kernel_rfl) (fun A => A.st = σ ∧ A.env 0 = .int .u64 n ∧ A.env 2 = .int .i64 0) (fun h => by cases h) (fun _ => ?_) fun B ⟨hst, hx, hy⟩ => ?_
    · simp only [go_sem, simprocAttr, ↓reduceIte, hst, hx, hy]
    simp only [go_sem, simprocAttr, ↓reduceIte, h1, h2, h3, hst, hx, hy]
    refine JoinVC.at [] (by kernel_rfl) (fun A => A.st = σ ∧ A.env 0 = .int .u64 n ∧ A.env 2 = .int .i64 0) (fun h => by cases h) (fun _ => ?_) fun B ⟨hst, hx, hy⟩ => ?_
    · simp only [go_sem, simprocAttr, ↓reduceIte, hst, hx, hy]
    simp only [go_sem, simprocAttr, ↓reduceIte, h1, h2, h3, hst, hx, hy]
    simp (decide := true) only [val_tab]
    generalize hT : tabOf _ = tab
    have hlen : tab.length = 256 := by rw [← hT]; decide
    clear hT
    simp only [go_sem, simprocAttr, ↓reduceIte]
    have hw : (IntKind.u8.wrap (n : Int)).toNat = n := by
      show ((n : Int) % 256).toNat = n
      omega
    refine ⟨by rw [hw, hlen]; exact hn, EndR.ret ?_⟩
    simp only [go_sem, simprocAttr, ↓reduceIte]
    refine ⟨_, .refl _, by simp [hst], ⟨(tab[(IntKind.u8.wrap (n : Int)).toNat]?.getD 0).toNat, ?_, ?_⟩, hst⟩
    · have := (tab[(IntKind.u8.wrap (n : Int)).toNat]?.getD 0).toNat_lt
      omega
    · have := (tab[(IntKind.u8.wrap (n : Int)).toNat]?.getD 0).toNat_lt
      rw [wrap_in (by omega), Int.zero_add]

theorem bi_len (σ : Store) (n : Nat) (hn : n < 256) : ACall prog W0 135 [.int .u64 n] σ fun r σ' => (∃ m : Nat, m ≤ 255 ∧ r = .int .i64 m) ∧ σ' = σ := by
  refine fn_call [2] [] func135 rfl rfl ntmps135 rfl rfl fun hs => ?_
  simp only [go_sem, simprocAttr, ↓reduceIte]
  refine CallA.goes (by simp only [go_sem, simprocAttr, ↓reduceIte]) (bi_len64 σ n hn) fun r σ' ⟨⟨m, hm, hr⟩, hσ⟩ => ?_
  subst hr hσ
  simp only [go_sem, simprocAttr, ↓reduceIte]
  refine EndR.ret ?_
  simp only [go_sem, simprocAttr, ↓reduceIte]
  exact ⟨_, .refl _, m, hm, rfl⟩

theorem so_pdq (σ : Store) (id : Nat) (xs : List Int) (k : Int) (hid : σ[id]? = some (some (.cells 54 (xs.map (.int .i64))))) (hx : xs.length ≤ 12) (f : Int → Int → Int) (g : FuncId) (caps : List AV)
    (hcmp : ∀ a ∈ xs, ∀ b ∈ xs, PureFn prog W0 g ([.int .i64 a, .int .i64 b] ++ caps) (.int .i64 (f a b))) :
    ACall prog W0 134 [.row 54 id 0 xs.length, .int .i64 0, .int .i64 xs.length, .int .i64 k, .fn g caps] σ fun r σ' => ∃ ys : List Int, ys.Perm xs ∧ σ' = σ.set id (some (.cells 54 (ys.map (.int .i64)))) := by
  refine fn_call [] [] func134 rfl rfl ntmps134 rfl rfl fun hs => ?_
  simp only [go_sem, simprocAttr, ↓reduceIte]
  refine LoopVC.upto [0, 4] (.of (by kernel_rfl)) 0 (fun i A => A.env 1 = .int .i64 0 ∧ A.env 2 = .int .i64 xs.length ∧ A.st = σ) 0 (Nat.le_refl _) ?_ fun i B hi ⟨h1, h2, hst⟩ => ?_
  · simp only [go_sem, simprocAttr, ↓reduceIte]
    done
  have hw : IntKind.i64.wrap ((xs.length : Int) - 0) = xs.length := by rw [Int.sub_zero, wrap_in (by omega)]
  have h12 : decide ((xs.length : Int) ≤ 12) = true := decide_eq_true (by omega)
  simp only [go_sem, simprocAttr, ↓reduceIte, h1, h2, hst, hw, h12]
  refine CallA.goes (by simp only [go_sem, simprocAttr, ↓reduceIte, hst]) (so_insertion σ id xs 0 xs.length (Nat.zero_le _) (Nat.le_refl _) hid (by omega) f g caps hcmp) fun r σ' ⟨ys, hp, hσ⟩ => ?_
  subst hσ
  simp only [go_sem, simprocAttr, ↓reduceIte]
  refine EndR.ret ?_
  simp only [go_sem, simprocAttr, ↓reduceIte]
  exact ⟨_, .refl _, by simp, ys, hp, rfl⟩

theorem so_sort (σ : Store) (id : Nat) (xs : List Int) (hid : σ[id]? = some (some (.cells 54 (xs.map (.int .i64))))) (hx : xs.length ≤ 12) (f : Int → Int → Int) (g : FuncId) (caps : List AV)
    (hcmp : ∀ a ∈ xs, ∀ b ∈ xs, PureFn prog W0 g ([.int .i64 a, .int .i64 b] ++ caps) (.int .i64 (f a b))) :
    ACall prog W0 103 [.row 54 id 0 xs.length, .fn g caps] σ fun r σ' => ∃ ys : List Int, ys.Perm xs ∧ σ' = σ.set id (some (.cells 54 (ys.map (.int .i64)))) := by
  refine fn_call [] [] func103 rfl rfl ntmps103 rfl rfl fun hs => ?_
  have hw : IntKind.u64.wrap (xs.length : Int) = xs.length := by rw [IntKind.wrap_u64]; omega
  simp only [go_sem, simprocAttr, ↓reduceIte, hw]
  refine CallA.goes (by simp only [go_sem, simprocAttr, ↓reduceIte]) (bi_len σ xs.length (by omega)) fun r σ' ⟨⟨m, hm, hr⟩, hσ⟩ => ?_
  subst hr hσ
  simp only [go_sem, simprocAttr, ↓reduceIte]
  refine CallA.goes (by simp only [go_sem, simprocAttr, ↓reduceIte]) (so_pdq σ' id xs m hid hx f g caps hcmp) fun r σ'' ⟨ys, hp, hσ⟩ => ?_
  subst hσ
  simp only [go_sem, simprocAttr, ↓reduceIte]
  refine EndR.normal ?_
  simp only [go_sem, simprocAttr, ↓reduceIte]
  exact ⟨_, .refl _, by simp, ys, hp, rfl⟩
end Go.Proofs.Tryz
end
section
set_option linter.unusedSimpArgs false
set_option linter.unusedVariables false
namespace Go.Proofs.Tryz
open Go Go.Av
set_option maxRecDepth 10000
set_option linter.unusedSimpArgs false
set_option linter.unusedVariables false
variable {W0 : World}

theorem sl_compact (σ : Store) (id : Nat) (xs : List Int) (hid : σ[id]? = some (some (.cells 54 (xs.map (.int .i64))))) (hx : xs.length ≤ 1048576) (hnd : xs.Nodup) :
    ACall prog W0 108 [.row 54 id 0 xs.length] σ fun r σ' => r = .row 54 id 0 xs.length ∧ σ' = σ := by
  refine fn_call [2] [] func108 rfl rfl ntmps108 rfl rfl fun hs => ?_
  simp only [go_sem, simprocAttr, ↓reduceIte]
  refine ⟨fun _ => EndR.ret ?_, fun h2 => ?_⟩
  · simp only [go_sem, simprocAttr, ↓reduceIte]
    exact ⟨_, .refl _, rfl⟩
  refine LoopVC.falls [0] (.of (by kernel_rfl)) (fun k A => ∃ j : Nat, A.env 3 = .int .i64 j ∧ k = xs.length - j ∧ 0 < j ∧ A.st = σ) (xs.length - 1) ⟨1, ?_⟩ fun k B ⟨j, h3, hk, hj, hst⟩ => ?_
  · simp only [go_sem, simprocAttr, ↓reduceIte]
    done
  simp only [go_sem, simprocAttr, ↓reduceIte, h3, hst]
  refine ⟨fun hlt => ?_, fun hge => EndR.ret ?_⟩
  · obtain ⟨a, ha⟩ := get_some hlt
    obtain ⟨b, hb⟩ := get_some (show j - 1 < xs.length by omega)
    have hw : IntKind.i64.wrap ((j : Int) - 1) = (j : Int) - 1 := wrap_in (by omega)
    have hn : ((j : Int) - 1).toNat = j - 1 := by omega
    have hab : (a == b) = false := by
      obtain ⟨h1, h2⟩ := List.getElem?_eq_some_iff.1 ha
      obtain ⟨h3, h4⟩ := List.getElem?_eq_some_iff.1 hb
      rw [beq_eq_false_iff_ne]
      intro e
      rw [← h2, ← h4] at e
      have := (List.getElem_inj hnd).1 e
      omega
    simp only [go_sem, simprocAttr, ↓reduceIte, h3, hst, look_id hid, live_id hid, hw, hn, Nat.zero_add, List.getElem?_map, ha, hb, Option.map_some, hab]
    exact ⟨.of (by kernel_rfl), hlt, by omega, .here (xs.length - (j + 1)) (by omega) ⟨j + 1, int_succ hlt (by rw [maxLen_eq]; omega), rfl, by omega, by simp only [go_sem, simprocAttr, ↓reduceIte, hst]⟩⟩
  · simp only [go_sem, simprocAttr, ↓reduceIte, hst]
    exact ⟨_, .refl _, rfl⟩

theorem cn_tidy (σ : Store) (c : List Int) (h0 : c ≠ []) (hl : c.length ≤ 12) (hnd : c.Nodup) (hc : ∀ l ∈ c, l ≠ 0 ∧ l.natAbs ≤ 9223372036854775807) :
    ACall prog W0 78 [litsAV c] σ fun r σ' => Ext σ σ' ∧ ((∃ d : List Int, d.Perm c ∧ r = .tup [litsAV d, .bool true]) ∨ (r = .tup [.nils, .bool false] ∧ ∀ M, claT M c = true)) := by
  refine fn_call [2, 3] [] func78 rfl rfl ntmps78 rfl rfl fun hs => ?_
  simp only [go_sem, simprocAttr, ↓reduceIte]
  refine CallA.goes (by simp only [go_sem, simprocAttr, ↓reduceIte]) (sl_cloneRow σ c h0 (by omega)) fun r σ' ⟨hr, hσ⟩ => ?_
  subst hr hσ
  simp only [go_sem, simprocAttr, ↓reduceIte]
  have hid : (σ ++ [some (SObj.cells 54 (c.map (AV.int .i64)))])[σ.length]? = some (some (.cells 54 (c.map (.int .i64)))) := by simp
  refine CallA.goes (by simp only [go_sem, simprocAttr, ↓reduceIte]) (so_sort _ σ.length c hid hl (fun a b => orL [sgn (a.natAbs : Nat) (b.natAbs : Nat), sgn a b]) _ [] fun a ha b hb => cn_cmp a b (hc a ha).2 (hc b hb).2) fun r σ' ⟨ys, hp, hσ⟩ => ?_
  subst hσ
  simp only [go_sem, simprocAttr, ↓reduceIte]
  have hyl := hp.length_eq
  have hid : (σ ++ [some (SObj.cells 54 (ys.map (AV.int .i64)))])[σ.length]? = some (some (.cells 54 (ys.map (.int .i64)))) := by simp
  rw [← hyl]
  refine CallA.goes (by simp only [go_sem, simprocAttr, ↓reduceIte]) (sl_compact _ σ.length ys hid (by omega) ((List.Perm.nodup_iff hp).2 hnd)) fun r σ' ⟨hr, hσ⟩ => ?_
  subst hr hσ
  simp only [go_sem, simprocAttr, ↓reduceIte]
  refine LoopVC.at [4] (.of (by kernel_rfl)) (fun A => A.st = σ ++ [some (.cells 54 (ys.map (.int .i64)))]) ?_ fun B hst => ?_
  · refine LoopVC.upto [4, 13, 14] (.of (by kernel_rfl)) ys.length (fun i A => A.env 15 = .int .i64 i ∧ A.st = σ ++ [some (.cells 54 (ys.map (.int .i64)))]) 0 (Nat.zero_le _) ?_ fun i B hi ⟨h15, hst⟩ => ?_
    · simp only [go_sem, simprocAttr, ↓reduceIte]
      done
    by_cases hlt : i < ys.length
    · obtain ⟨a, ha⟩ := get_some hlt
      obtain ⟨b, hb⟩ := get_some (show i - 1 < ys.length by omega)
      have hw : IntKind.i64.wrap ((i : Int) - 1) = (i : Int) - 1 := wrap_in (by omega)
      have hn : ((i : Int) - 1).toNat = i - 1 := by omega
      have ham := hc a (hp.subset (List.mem_of_getElem? ha))
      have hbm := hc b (hp.subset (List.mem_of_getElem? hb))
      have ha0 : (a == 0) = false := by simp [ham.1]
      simp only [go_sem, simprocAttr, ↓reduceIte, h15, hst, hw, hn, Nat.zero_add, List.getElem?_map, ha, hb, Option.map_some, live_id hid, ha0, Option.bind_some, Option.isSome_some, Option.getD_some]
      refine fun _ => ⟨hlt, fun hg => by omega, CallP.fnG (fun _ => cn_variable b hbm.2) ?_⟩
      simp only [go_sem, simprocAttr, ↓reduceIte, h15, hst]
      refine CallP.fnG (fun _ => cn_variable a ham.2) ?_
      simp only [go_sem, simprocAttr, ↓reduceIte, h15, hst]
      refine ⟨fun hq => ?_, fun hq => ⟨hlt, int_succ hlt (by rw [maxLen_eq]; omega)⟩⟩
      refine EndR.ret ?_
      simp only [go_sem, simprocAttr, ↓reduceIte, hst]
      refine ⟨_, .refl _, by simp, (Ext.refl _).app _, .inr ⟨rfl, fun M => ?_⟩⟩
      simp only [Bool.and_eq_true, decide_eq_true_eq, beq_iff_eq] at hq
      obtain ⟨hi0, hab⟩ := hq
      have hne : a ≠ b := fun e => by
        obtain ⟨h1, h2⟩ := List.getElem?_eq_some_iff.1 ha
        obtain ⟨h3, h4⟩ := List.getElem?_eq_some_iff.1 hb
        rw [← h2, ← h4] at e
        have := (List.getElem_inj ((List.Perm.nodup_iff hp).2 hnd)).1 e
        omega
      have hneg : b = -a := by omega
      have h1 : a ∈ c := hp.subset (List.mem_of_getElem? ha)
      have h2 : -a ∈ c := by rw [← hneg]; exact hp.subset (List.mem_of_getElem? hb)
      refine List.any_eq_true.2 ?_
      cases ht : litT M a with
      | true => exact ⟨a, h1, ht⟩
      | false => exact ⟨-a, h2, by rw [litT_neg ham.1, ht]; rfl⟩
    · have hd : decide ((i : Int) < (ys.length : Int)) = false := decide_eq_false (by omega)
      simp only [go_sem, simprocAttr, ↓reduceIte, h15, hst, hd]
      try exact fun h => absurd h hlt
  simp only [go_sem, simprocAttr, ↓reduceIte, hst]
  refine EndR.frz (e := 54) (te := 54) (id := σ.length) (off := 0) (m := ys.length) (xs := ys.map (.int .i64)) 2 (by simp only [go_sem, simprocAttr, ↓reduceIte]) (by simp only [go_sem, simprocAttr, ↓reduceIte, hst]) (by simp) (EndR.ret ?_)
  simp only [go_sem, simprocAttr, ↓reduceIte, hst]
  rw [List.take_of_length_le (by simp)]
  exact ⟨_, .refl _, by omega, (Ext.refl _).app _, .inl ⟨ys, hp, rfl⟩⟩

theorem cn_new (σ : Store) (n : Nat) (hn : n ≤ 200) : ACall prog W0 45 [.int .i64 n] σ fun r σ' => r = .ptr 112 σ.length 0 [] ∧ σ' = σ ++ [setO n .nils] := by
  refine fn_call [2] [] func45 rfl rfl ntmps45 rfl rfl fun hs => ?_
  have e1 : minI (n : Int) 200 = n := by unfold minI; split <;> omega
  have e2 : maxI 0 (n : Int) = n := by unfold maxI; split <;> omega
  simp only [go_sem, simprocAttr, ↓reduceIte, e1, e2]
  refine EndR.ret ?_
  simp only [go_sem, simprocAttr, ↓reduceIte]
  exact ⟨_, .refl _, by simp, rfl, rfl⟩

theorem cn_vars (σ : Store) (id n : Nat) (cv : AV) (hid : σ[id]? = some (setO n cv)) : ACall prog W0 112 [.ptr 112 id 0 []] σ fun r σ' => r = .int .i64 n ∧ σ' = σ := by
  refine fn_st [2] [] func112 rfl rfl ntmps112 rfl rfl (.int _ _) fun hs => ?_
  simp only [go_sem, simprocAttr, ↓reduceIte, look_id hid]
  refine EndR.ret ?_
  simp only [go_sem, simprocAttr, ↓reduceIte]
  try exact .refl _

theorem cn_len (σ : Store) (id n : Nat) (cv : AV) (cls : List (List Int)) (hid : σ[id]? = some (setO n cv)) (hb : Bld σ cv 84 (cls.map litsAV)) : ACall prog W0 139 [.ptr 112 id 0 []] σ fun r σ' => r = .int .i64 cls.length ∧ σ' = σ := by
  refine fn_st [2] [] func139 rfl rfl ntmps139 rfl rfl (.int _ _) fun hs => ?_
  simp only [go_sem, simprocAttr, ↓reduceIte, look_id hid, hb.ok, hb.un, hb.len, hb.lenC, List.length_map]
  refine EndR.ret ?_
  simp only [go_sem, simprocAttr, ↓reduceIte]
  try exact .refl _

theorem cn_at (σ : Store) (id n : Nat) (cv : AV) (cls : List (List Int)) (hid : σ[id]? = some (setO n cv)) (hb : Bld σ cv 84 (cls.map litsAV)) (i : Nat) (c : List Int) (hc : cls[i]? = some c) (h0 : c ≠ []) (hl : c.length ≤ 1048576) :
    ACall prog W0 140 [.ptr 112 id 0 [], .int .i64 i] σ fun r σ' => r = litsAV c ∧ σ' = σ := by
  refine fn_st [4] [] func140 rfl rfl ntmps140 rfl rfl (idsLt_mono (Nat.zero_le _) (ids_lits _)) fun hs => ?_
  have hlt := (List.getElem?_eq_some_iff.1 hc).1
  simp only [go_sem, simprocAttr, ↓reduceIte]
  refine CallP.st (fun _ => cn_len σ id n cv cls hid hb) ?_
  simp only [go_sem, simprocAttr, ↓reduceIte]
  have h1 : decide ((cls.length : Int) ≤ (i : Int)) = false := decide_eq_false (by omega)
  have h2 : decide ((i : Int) < 0) = false := decide_eq_false (by omega)
  have h3 : decide (cls.length ≤ i) = false := decide_eq_false (by omega)
  have hm : cls.map litsAV ≠ [] := by
    cases cls with
    | nil => simp at hlt
    | cons => simp
  rcases hb with ⟨rfl, hn⟩ | rfl | ⟨t, rfl, ht⟩
  · exact absurd hn hm
  all_goals
    simp only [go_sem, simprocAttr, ↓reduceIte, h1, h2, h3, look_id hid, List.length_map, atV_map hc]
    refine ⟨hlt, CallA.fn (sl_clone c h0 hl) ?_⟩
    simp only [go_sem, simprocAttr, ↓reduceIte]
    refine EndR.ret ?_
    simp only [go_sem, simprocAttr, ↓reduceIte]
    try exact .refl _

theorem cn_add (σ : Store) (id n : Nat) (cv : AV) (cls : List (List Int)) (hid : σ[id]? = some (setO n cv)) (hb : Bld σ cv 84 (cls.map litsAV)) (hn : n ≤ 200) (hc5 : cls.length < 5000) (c : List Int) (hw : wfC n c = true) (h0 : c ≠ []) (hl : c.length ≤ 12) (hnd : c.Nodup) :
    ACall prog W0 50 [.ptr 112 id 0 [], litsAV c] σ fun r σ' => r = .bool true ∧ Fr (id :: foot cv) σ σ' ∧ ∃ cv' cls', σ'[id]? = some (setO n cv') ∧ Bld σ' cv' 84 (cls'.map litsAV) ∧ (∀ j ∈ foot cv', j ∈ foot cv ∨ σ.length ≤ j) ∧
      (∀ M, setT M cls' = (setT M cls && claT M c)) ∧ cls'.length ≤ cls.length + 1 ∧ ∀ d ∈ cls', d ∈ cls ∨ d.Perm c := by
  refine fn_call [4] [] func50 rfl rfl ntmps50 rfl rfl fun hs => ?_
  have hc : ∀ l ∈ c, l ≠ 0 ∧ l.natAbs ≤ n := fun l hl => by
    have := List.all_eq_true.1 hw l hl
    simpa [wfL] using this
  simp only [go_sem, simprocAttr, ↓reduceIte]
  refine CallA.reads (by simp only [go_sem, simprocAttr, ↓reduceIte]) (cn_may σ id n cv cls hid hb (by omega) hc5 c fun l hl => by have := (hc l hl).2; omega) ?_
  rw [hw]
  simp only [go_sem, simprocAttr, ↓reduceIte]
  refine CallA.goes (by simp only [go_sem, simprocAttr, ↓reduceIte]) (cn_tidy σ c h0 hl hnd fun l hl => ⟨(hc l hl).1, by have := (hc l hl).2; omega⟩) fun r σ' ⟨hx, hr⟩ => ?_
  have hidl := (List.getElem?_eq_some_iff.1 hid).1
  have hid' : σ'[id]? = some (setO n cv) := by rw [(Fr.ext (F := []) hx).old id hidl (by simp), hid]
  have hb' : Bld σ' cv 84 (cls.map litsAV) := hb.keep fun j hj => (Fr.ext (F := []) hx).old j (hb.lt j hj) (by simp)
  rcases hr with ⟨d, hp, rfl⟩ | ⟨rfl, hM⟩
  · simp only [go_sem, simprocAttr, ↓reduceIte]
    refine JoinVC.both (fun _ => ?_) (fun h => by cases h)
    simp only [go_sem, simprocAttr, ↓reduceIte, look_id hid', hb'.ok, hb'.un]
    refine AppA.ownS (σ := σ') (by simp only [go_sem, simprocAttr, ↓reduceIte]) 1048576 (by kernel_rfl) hb' (.lit _ _ _) (by simp; omega) fun v' σ'' ha => ?_
    have hf := ha.fr
    have hidl' := (List.getElem?_eq_some_iff.1 hid').1
    have hid'' : σ''[id]? = some (setO n cv) := by rw [hf.old id hidl' (hb'.ne hid' (by simp)), hid']
    have hbv := ha.bld
    simp only [go_sem, simprocAttr, ↓reduceIte, look_id hid'', setLook_id hid'', hbv.ok, hbv.un, hbv.fits]
    refine EndR.ret ?_
    simp only [go_sem, simprocAttr, ↓reduceIte]
    have hne : id ∉ foot v' := hbv.ne hid'' (by simp)
    refine ⟨_, .refl _, by have := hf.len; have := hx.le; simp; omega, rfl, ?_, v', cls ++ [d], ?_, ?_, ?_, ?_, ?_, ?_⟩
    · exact ((Fr.ext (F := id :: foot cv) hx).trans (hf.mono (G := id :: foot cv) fun j hj => by simp [hj]) fun j hj => .inl hj).set (.inl (by simp)) _
    · have := hf.len; simp [show id < σ''.length by omega]; rfl
    · rw [List.map_append]
      exact hbv.keep fun j hj => List.getElem?_set_ne (fun e => hne (by rw [e]; exact hj))
    · exact fun j hj => (ha.foot hb' j hj).imp_right fun h => by have := hx.le; omega
    · exact fun M => by simp only [setT, List.all_append, List.all_cons, List.all_nil, Bool.and_true]; rw [claT_perm (M := M) fun l => hp.mem_iff]
    · simp
    · exact fun e he => (List.mem_append.1 he).imp_right fun h => by rw [List.mem_singleton.1 h]; exact hp
  · simp only [go_sem, simprocAttr, ↓reduceIte]
    refine JoinVC.both (fun h => by cases h) (fun _ => ?_)
    simp only [go_sem, simprocAttr, ↓reduceIte]
    refine EndR.ret ?_
    simp only [go_sem, simprocAttr, ↓reduceIte]
    refine ⟨_, .refl _, hx.le, rfl, .ext hx, cv, cls, hid', hb', fun j hj => .inl hj, fun M => by rw [hM, Bool.and_true], by omega, fun d hd => .inl hd⟩
end Go.Proofs.Tryz
end
