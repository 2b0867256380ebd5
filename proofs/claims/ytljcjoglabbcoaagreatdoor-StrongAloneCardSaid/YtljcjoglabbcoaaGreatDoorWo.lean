/- Texts that the last one of this claim rests on: a layer over the guide's own conditions for code; contracts of the functions that the law reaches, one by one. No conditions beside those of the given rows. -/
import Derived.Lib.Bytealg
import Derived.Test.YtljcjoglabbcoaaGreatDoorWm
import Derived.Test.YtljcjoglabbcoaaGreatDoorWn
section
namespace Go.Proofs.Tryz
open Go Go.Av
set_option maxRecDepth 10000
set_option linter.unusedSimpArgs false
set_option linter.unusedVariables false
variable {W0 : World}

def atomAV (a : Atom) : AV := .agg 48 [.str a.name, .int .i64 a.rel, .str a.ver]
def atomsAV (l : List Atom) : AV := .sl 48 (l.map atomAV)
def clausesAV (l : List Clause) : AV := .sl 49 (l.map atomsAV)
def provAV (p : Prov) : AV := .agg 105 [.str p.name, .str p.ver]
def provsAV (l : List Prov) : AV := .sl 105 (l.map provAV)
def pkgAV (p : Pkg) : AV := .agg 38 [.str p.name, .str p.ver, clausesAV p.pre, clausesAV p.dep, clausesAV p.rcm, atomsAV p.con, atomsAV p.brk, provsAV p.prov, .bool p.ess]
def pkgsAV (l : List Pkg) : AV := .sl 38 (l.map pkgAV)

theorem r4_name (s : List UInt8) : PureFn prog W0 33 [.str s] (.bool (nameOk s)) := by
  refine fn_pure [2] [] func33 rfl rfl ntmps33 rfl rfl (.bool _) fun hs σ => ?_
  have hsl : s.length ≤ maxLen := small_str (hs _ (by simp))
  simp only [go_sem, simprocAttr, ↓reduceIte]
  refine VC.upto [] s.length (fun i A => A.env 0 = .str s ∧ A.env 6 = .int .i64 s.length ∧ A.env 7 = .int .i64 i ∧ A.st = σ ∧ ∀ j c, j < i → s[j]? = some c → nameCh j c = true) 0 (Nat.zero_le _) (.here ?_) fun i A hi ⟨h0, h6, h7, hst, hI⟩ => ?_
  · simp only [go_sem, simprocAttr, ↓reduceIte]
    all_goals simp
  simp only [go_sem, simprocAttr, ↓reduceIte, h0, h6, h7, hst]
  refine ⟨fun hc => ⟨hc, CallA.fn (r4_small _) ?_⟩, fun hc => ?_⟩
  · obtain ⟨c, hc'⟩ := get_some hc
    simp only [go_sem, simprocAttr, ↓reduceIte, h0, h6, h7, hst, hc']
    refine CallP.fnG (fun _ => r4_digit _) ?_
    simp only [go_sem, simprocAttr, ↓reduceIte, h0, h6, h7, hst, hc']
    refine ⟨fun hb => weak_bool ?_, fun hb => ⟨hc, .here ?_⟩⟩
    · have : nameCh i c = false := by simp [nameCh] at hb ⊢; refine ⟨hb.1, ?_⟩; omega
      rw [nameOk, allIdxB_false hc' this, Bool.and_false]
    · simp only [go_sem, simprocAttr, ↓reduceIte, h0, h6, h7, hst]
      refine ⟨int_succ hc hsl, fun j d hj hd => ?_⟩
      rcases Nat.lt_succ_iff_lt_or_eq.1 hj with hj | rfl
      · exact hI j d hj hd
      · have e : d = c := by rw [hd] at hc'; exact Option.some.inj hc'
        subst e
        revert hb
        unfold nameCh
        cases smallC d <;> cases digitC d <;> simp
        omega
  · have : allIdxB nameCh 0 s = true := allIdxB_iff.2 fun j c hj => by rw [Nat.zero_add]; exact hI j c (by have := (List.getElem?_eq_some_iff.1 hj).1; omega) hj
    refine weak_bool ?_
    rw [nameOk, this, Bool.and_true]
    congr 1 <;> exact decide_eq_decide.2 (by omega)

theorem signV_some (rel : Int) : (!(signV rel == [])) = (decide (1 ≤ rel) && decide (rel ≤ 5)) := by
  unfold signV
  by_cases h1 : rel = 1
  · subst h1; rfl
  by_cases h2 : rel = 2
  · subst h2; rfl
  by_cases h3 : rel = 3
  · subst h3; rfl
  by_cases h4 : rel = 4
  · subst h4; rfl
  by_cases h5 : rel = 5
  · subst h5; rfl
  rw [if_neg h1, if_neg h2, if_neg h3, if_neg h4, if_neg h5]
  simp
  omega

theorem r4_mayAtom (a : Atom) : PureFn prog W0 62 [atomAV a] (.bool (mayAtom a)) := by
  refine fn_pure [2] [1] func62 rfl rfl ntmps62 rfl rfl (.bool _) fun hs σ => ?_
  simp only [go_sem, simprocAttr, ↓reduceIte, atomAV]
  refine CallA.fn (r4_name a.name) ?_
  simp only [go_sem, simprocAttr, ↓reduceIte, atomAV]
  refine ⟨fun hn => weak_bool (by rw [mayAtom, hn]; rfl), fun hn => ⟨fun h0 => weak_bool (by rw [mayAtom, hn, if_pos h0]; rfl), fun h0 => CallA.fn (r4_signV a.rel) ?_⟩⟩
  simp only [go_sem, simprocAttr, ↓reduceIte, atomAV]
  refine CallP.fnG (fun _ => r4_is a.ver) ?_
  simp only [go_sem, simprocAttr, ↓reduceIte, atomAV]
  refine weak_bool ?_
  rw [mayAtom, hn, if_neg h0, Bool.true_and, signV_some]
end Go.Proofs.Tryz
end
section
namespace Go.Proofs.Tryz
open Go Go.Av
set_option maxRecDepth 10000
set_option linter.unusedSimpArgs false
set_option linter.unusedVariables false
variable {W0 : World}

theorem ve_digit (c : UInt8) : PureFn prog W0 128 [.int .u8 c.toNat] (.bool (digitC c)) := by
  refine fn_pure [2] [] func128 rfl rfl ntmps128 rfl rfl (.bool _) fun _ σ => ?_
  simp only [go_sem, simprocAttr, ↓reduceIte]
  exact weak_bool (by rw [digitC]; congr 1 <;> exact decide_eq_decide.2 (by omega))

theorem ve_letter (c : UInt8) : PureFn prog W0 150 [.int .u8 c.toNat] (.bool (letterC c)) := by
  refine fn_pure [2] [] func150 rfl rfl ntmps150 rfl rfl (.bool _) fun _ σ => ?_
  simp only [go_sem, simprocAttr, ↓reduceIte]
  refine weak_bool ?_
  unfold letterC smallC
  congr 2 <;> exact decide_eq_decide.2 (by omega)

theorem ve_epochOf (s : List UInt8) : PureFn prog W0 126 [.str s] (.bool (decide (1 ≤ s.length) && decide (s.length ≤ 9) && s.all digitC)) := by
  refine fn_pure [2] [] func126 rfl rfl ntmps126 rfl rfl (.bool _) fun hs σ => ?_
  simp only [go_sem, simprocAttr, ↓reduceIte]
  refine ⟨fun h => weak_bool ?_, fun h => ?_⟩
  · cases s with
    | nil => rfl
    | cons c r =>
      have : ¬ ((c :: r).length ≤ 9) := by simp at h ⊢; omega
      rw [decide_eq_false this]; simp
  have hl : 1 ≤ s.length ∧ s.length ≤ 9 := by cases s <;> simp at h ⊢; omega
  refine VC.falls [] (fun k A => ∃ pos, A.env 13 = .it σ.length ∧ A.st = σ ++ [some (.iter s pos)] ∧ k = s.length - pos ∧ pos ≤ s.length ∧ (s.take pos).all digitC = true) s.length (.here ⟨0, ?_⟩) fun k A ⟨pos, h13, hst, hk, hp, hI⟩ => ?_
  · simp only [go_sem, simprocAttr, ↓reduceIte]
    all_goals simp
  simp only [go_sem, simprocAttr, ↓reduceIte, h13, hst]
  refine ⟨fun hlt => ?_, fun hge => ?_⟩
  · obtain ⟨c, hc⟩ := get_some hlt
    simp only [Bool.or_eq_true, Bool.or_eq_false_iff, decide_eq_true_eq, decide_eq_false_iff_not]
    have bad : digitC c = false → (decide (1 ≤ s.length) && decide (s.length ≤ 9) && s.all digitC) = false := fun hd => by rw [all_false hc hd, Bool.and_false]
    rcases Nat.lt_or_ge c.toNat 128 with h8 | h8
    · rw [decAt_ascii hc h8]
      refine ⟨fun hb => weak_bool (bad ?_).symm, fun hb => .here (s.length - (pos + 1)) (by omega) ⟨pos + 1, ?_⟩⟩
      · simp [digitC]; omega
      · simp only [go_sem, simprocAttr, ↓reduceIte, h13, hst]
        exact ⟨by omega, all_take hI hc (by simp [digitC]; omega)⟩
    · have := decAt_big hc h8
      refine ⟨fun hb => weak_bool (bad ?_).symm, fun hb => by omega⟩
      simp [digitC]; omega
  · have : pos = s.length := by omega
    rw [this, List.take_length] at hI
    refine weak_bool ?_
    simp [hl, hI]
end Go.Proofs.Tryz
end
section
namespace Go.Proofs.Tryz
open Go Go.Av
set_option maxRecDepth 10000
set_option linter.unusedSimpArgs false
set_option linter.unusedVariables false
variable {W0 : World}

theorem ixAtomC {α : Type} (enc : α → AV) (hp : ∀ a, NotM (enc a)) (l : List α) (q : α → Bool) (g : FuncId) (caps : List AV) (h : ∀ a ∈ l, PureFn prog W0 g ([enc a] ++ caps) (.bool (q a))) :
    PureFn prog W0 72 [.sl 48 (l.map enc), .fn g caps] (.int .i64 (idxL q l)) := by
  refine fn_pure [4] [] func72 rfl rfl ntmps72 rfl rfl (.int _ _) fun hs σ => ?_
  have hl := (small_map (hs _ (List.mem_cons_self ..))).1
  simp only [go_sem, simprocAttr, ↓reduceIte]
  refine LoopVC.upto [0, 1, 7] (.of (by kernel_rfl)) l.length (fun i A => A.env 8 = .int .i64 i ∧ A.st = σ ∧ ∀ a ∈ l.take i, q a = false) 0 (Nat.zero_le _) ?_ fun i B hi ⟨h8, hst, hI⟩ => ?_
  · simp only [go_sem, simprocAttr, ↓reduceIte]
    all_goals simp
  simp only [go_sem, simprocAttr, ↓reduceIte, h8, hst, List.length_map]
  refine ⟨fun hc => ⟨hc, ?_⟩, fun hc => weak_int ?_⟩
  · obtain ⟨a, ha⟩ := get_some hc
    simp only [atV_map ha, okM_notM (hp a), unm_notM (hp a), true_and]
    refine CallA.pure (h a (List.mem_of_getElem? ha)) ?_
    simp only [go_sem, simprocAttr, ↓reduceIte, h8, hst]
    refine ⟨fun hq => weak_int (idxL_at ha hq hI).symm, fun hq => ⟨hc, int_succ hc hl, ?_⟩⟩
    rw [take_succ_get ha]
    intro b hb
    rcases List.mem_append.1 hb with hb | hb
    · exact hI b hb
    · rw [List.mem_singleton.1 hb]; exact hq
  · rw [idxL_none]
    rwa [List.take_of_length_le hc] at hI
theorem ixAtom {α : Type} (enc : α → AV) (hp : ∀ a, NotM (enc a)) (l : List α) (q : α → Bool) (g : FuncId) (caps : List AV) (h : ∀ a ∈ l, PureFn prog W0 g ([enc a] ++ caps) (.bool (q a))) :
    PureFn prog W0 138 [.sl 48 (l.map enc), .fn g caps] (.int .i64 (idxL q l)) := by
  refine fn_pure [4] [] func138 rfl rfl ntmps138 rfl rfl (.int _ _) fun hs σ => ?_
  have hl := (small_map (hs _ (List.mem_cons_self ..))).1
  simp only [go_sem, simprocAttr, ↓reduceIte]
  refine LoopVC.upto [0, 1, 7] (.of (by kernel_rfl)) l.length (fun i A => A.env 8 = .int .i64 i ∧ A.st = σ ∧ ∀ a ∈ l.take i, q a = false) 0 (Nat.zero_le _) ?_ fun i B hi ⟨h8, hst, hI⟩ => ?_
  · simp only [go_sem, simprocAttr, ↓reduceIte]
    all_goals simp
  simp only [go_sem, simprocAttr, ↓reduceIte, h8, hst, List.length_map]
  refine ⟨fun hc => ⟨hc, ?_⟩, fun hc => weak_int ?_⟩
  · obtain ⟨a, ha⟩ := get_some hc
    simp only [atV_map ha, okM_notM (hp a), unm_notM (hp a), true_and]
    refine CallA.pure (h a (List.mem_of_getElem? ha)) ?_
    simp only [go_sem, simprocAttr, ↓reduceIte, h8, hst]
    refine ⟨fun hq => weak_int (idxL_at ha hq hI).symm, fun hq => ⟨hc, int_succ hc hl, ?_⟩⟩
    rw [take_succ_get ha]
    intro b hb
    rcases List.mem_append.1 hb with hb | hb
    · exact hI b hb
    · rw [List.mem_singleton.1 hb]; exact hq
  · rw [idxL_none]
    rwa [List.take_of_length_le hc] at hI
theorem ixInt {α : Type} (enc : α → AV) (hp : ∀ a, NotM (enc a)) (l : List α) (q : α → Bool) (g : FuncId) (caps : List AV) (h : ∀ a ∈ l, PureFn prog W0 g ([enc a] ++ caps) (.bool (q a))) :
    PureFn prog W0 70 [.sl 3 (l.map enc), .fn g caps] (.int .i64 (idxL q l)) := by
  refine fn_pure [4] [] func70 rfl rfl ntmps70 rfl rfl (.int _ _) fun hs σ => ?_
  have hl := (small_map (hs _ (List.mem_cons_self ..))).1
  simp only [go_sem, simprocAttr, ↓reduceIte]
  refine LoopVC.upto [0, 1, 7] (.of (by kernel_rfl)) l.length (fun i A => A.env 8 = .int .i64 i ∧ A.st = σ ∧ ∀ a ∈ l.take i, q a = false) 0 (Nat.zero_le _) ?_ fun i B hi ⟨h8, hst, hI⟩ => ?_
  · simp only [go_sem, simprocAttr, ↓reduceIte]
    all_goals simp
  simp only [go_sem, simprocAttr, ↓reduceIte, h8, hst, List.length_map]
  refine ⟨fun hc => ⟨hc, ?_⟩, fun hc => weak_int ?_⟩
  · obtain ⟨a, ha⟩ := get_some hc
    simp only [atV_map ha, okM_notM (hp a), unm_notM (hp a), true_and]
    refine CallA.pure (h a (List.mem_of_getElem? ha)) ?_
    simp only [go_sem, simprocAttr, ↓reduceIte, h8, hst]
    refine ⟨fun hq => weak_int (idxL_at ha hq hI).symm, fun hq => ⟨hc, int_succ hc hl, ?_⟩⟩
    rw [take_succ_get ha]
    intro b hb
    rcases List.mem_append.1 hb with hb | hb
    · exact hI b hb
    · rw [List.mem_singleton.1 hb]; exact hq
  · rw [idxL_none]
    rwa [List.take_of_length_le hc] at hI
theorem ixPkg {α : Type} (enc : α → AV) (hp : ∀ a, NotM (enc a)) (l : List α) (q : α → Bool) (g : FuncId) (caps : List AV) (h : ∀ a ∈ l, PureFn prog W0 g ([enc a] ++ caps) (.bool (q a))) :
    PureFn prog W0 95 [.sl 38 (l.map enc), .fn g caps] (.int .i64 (idxL q l)) := by
  refine fn_pure [4] [] func95 rfl rfl ntmps95 rfl rfl (.int _ _) fun hs σ => ?_
  have hl := (small_map (hs _ (List.mem_cons_self ..))).1
  simp only [go_sem, simprocAttr, ↓reduceIte]
  refine LoopVC.upto [0, 1, 7] (.of (by kernel_rfl)) l.length (fun i A => A.env 8 = .int .i64 i ∧ A.st = σ ∧ ∀ a ∈ l.take i, q a = false) 0 (Nat.zero_le _) ?_ fun i B hi ⟨h8, hst, hI⟩ => ?_
  · simp only [go_sem, simprocAttr, ↓reduceIte]
    all_goals simp
  simp only [go_sem, simprocAttr, ↓reduceIte, h8, hst, List.length_map]
  refine ⟨fun hc => ⟨hc, ?_⟩, fun hc => weak_int ?_⟩
  · obtain ⟨a, ha⟩ := get_some hc
    simp only [atV_map ha, okM_notM (hp a), unm_notM (hp a), true_and]
    refine CallA.pure (h a (List.mem_of_getElem? ha)) ?_
    simp only [go_sem, simprocAttr, ↓reduceIte, h8, hst]
    refine ⟨fun hq => weak_int (idxL_at ha hq hI).symm, fun hq => ⟨hc, int_succ hc hl, ?_⟩⟩
    rw [take_succ_get ha]
    intro b hb
    rcases List.mem_append.1 hb with hb | hb
    · exact hI b hb
    · rw [List.mem_singleton.1 hb]; exact hq
  · rw [idxL_none]
    rwa [List.take_of_length_le hc] at hI
theorem ixProv {α : Type} (enc : α → AV) (hp : ∀ a, NotM (enc a)) (l : List α) (q : α → Bool) (g : FuncId) (caps : List AV) (h : ∀ a ∈ l, PureFn prog W0 g ([enc a] ++ caps) (.bool (q a))) :
    PureFn prog W0 98 [.sl 105 (l.map enc), .fn g caps] (.int .i64 (idxL q l)) := by
  refine fn_pure [4] [] func98 rfl rfl ntmps98 rfl rfl (.int _ _) fun hs σ => ?_
  have hl := (small_map (hs _ (List.mem_cons_self ..))).1
  simp only [go_sem, simprocAttr, ↓reduceIte]
  refine LoopVC.upto [0, 1, 7] (.of (by kernel_rfl)) l.length (fun i A => A.env 8 = .int .i64 i ∧ A.st = σ ∧ ∀ a ∈ l.take i, q a = false) 0 (Nat.zero_le _) ?_ fun i B hi ⟨h8, hst, hI⟩ => ?_
  · simp only [go_sem, simprocAttr, ↓reduceIte]
    all_goals simp
  simp only [go_sem, simprocAttr, ↓reduceIte, h8, hst, List.length_map]
  refine ⟨fun hc => ⟨hc, ?_⟩, fun hc => weak_int ?_⟩
  · obtain ⟨a, ha⟩ := get_some hc
    simp only [atV_map ha, okM_notM (hp a), unm_notM (hp a), true_and]
    refine CallA.pure (h a (List.mem_of_getElem? ha)) ?_
    simp only [go_sem, simprocAttr, ↓reduceIte, h8, hst]
    refine ⟨fun hq => weak_int (idxL_at ha hq hI).symm, fun hq => ⟨hc, int_succ hc hl, ?_⟩⟩
    rw [take_succ_get ha]
    intro b hb
    rcases List.mem_append.1 hb with hb | hb
    · exact hI b hb
    · rw [List.mem_singleton.1 hb]; exact hq
  · rw [idxL_none]
    rwa [List.take_of_length_le hc] at hI
theorem ixLit {α : Type} (enc : α → AV) (hp : ∀ a, NotM (enc a)) (l : List α) (q : α → Bool) (g : FuncId) (caps : List AV) (h : ∀ a ∈ l, PureFn prog W0 g ([enc a] ++ caps) (.bool (q a))) :
    PureFn prog W0 133 [.sl 54 (l.map enc), .fn g caps] (.int .i64 (idxL q l)) := by
  refine fn_pure [4] [] func133 rfl rfl ntmps133 rfl rfl (.int _ _) fun hs σ => ?_
  have hl := (small_map (hs _ (List.mem_cons_self ..))).1
  simp only [go_sem, simprocAttr, ↓reduceIte]
  refine LoopVC.upto [0, 1, 7] (.of (by kernel_rfl)) l.length (fun i A => A.env 8 = .int .i64 i ∧ A.st = σ ∧ ∀ a ∈ l.take i, q a = false) 0 (Nat.zero_le _) ?_ fun i B hi ⟨h8, hst, hI⟩ => ?_
  · simp only [go_sem, simprocAttr, ↓reduceIte]
    all_goals simp
  simp only [go_sem, simprocAttr, ↓reduceIte, h8, hst, List.length_map]
  refine ⟨fun hc => ⟨hc, ?_⟩, fun hc => weak_int ?_⟩
  · obtain ⟨a, ha⟩ := get_some hc
    simp only [atV_map ha, okM_notM (hp a), unm_notM (hp a), true_and]
    refine CallA.pure (h a (List.mem_of_getElem? ha)) ?_
    simp only [go_sem, simprocAttr, ↓reduceIte, h8, hst]
    refine ⟨fun hq => weak_int (idxL_at ha hq hI).symm, fun hq => ⟨hc, int_succ hc hl, ?_⟩⟩
    rw [take_succ_get ha]
    intro b hb
    rcases List.mem_append.1 hb with hb | hb
    · exact hI b hb
    · rw [List.mem_singleton.1 hb]; exact hq
  · rw [idxL_none]
    rwa [List.take_of_length_le hc] at hI
theorem ixLits {α : Type} (enc : α → AV) (hp : ∀ a, NotM (enc a)) (l : List α) (q : α → Bool) (g : FuncId) (caps : List AV) (h : ∀ a ∈ l, PureFn prog W0 g ([enc a] ++ caps) (.bool (q a))) :
    PureFn prog W0 144 [.sl 84 (l.map enc), .fn g caps] (.int .i64 (idxL q l)) := by
  refine fn_pure [4] [] func144 rfl rfl ntmps144 rfl rfl (.int _ _) fun hs σ => ?_
  have hl := (small_map (hs _ (List.mem_cons_self ..))).1
  simp only [go_sem, simprocAttr, ↓reduceIte]
  refine LoopVC.upto [0, 1, 7] (.of (by kernel_rfl)) l.length (fun i A => A.env 8 = .int .i64 i ∧ A.st = σ ∧ ∀ a ∈ l.take i, q a = false) 0 (Nat.zero_le _) ?_ fun i B hi ⟨h8, hst, hI⟩ => ?_
  · simp only [go_sem, simprocAttr, ↓reduceIte]
    all_goals simp
  simp only [go_sem, simprocAttr, ↓reduceIte, h8, hst, List.length_map]
  refine ⟨fun hc => ⟨hc, ?_⟩, fun hc => weak_int ?_⟩
  · obtain ⟨a, ha⟩ := get_some hc
    simp only [atV_map ha, okM_notM (hp a), unm_notM (hp a), true_and]
    refine CallA.pure (h a (List.mem_of_getElem? ha)) ?_
    simp only [go_sem, simprocAttr, ↓reduceIte, h8, hst]
    refine ⟨fun hq => weak_int (idxL_at ha hq hI).symm, fun hq => ⟨hc, int_succ hc hl, ?_⟩⟩
    rw [take_succ_get ha]
    intro b hb
    rcases List.mem_append.1 hb with hb | hb
    · exact hI b hb
    · rw [List.mem_singleton.1 hb]; exact hq
  · rw [idxL_none]
    rwa [List.take_of_length_le hc] at hI
theorem ixClause {α : Type} (enc : α → AV) (hp : ∀ a, NotM (enc a)) (l : List α) (q : α → Bool) (g : FuncId) (caps : List AV) (h : ∀ a ∈ l, PureFn prog W0 g ([enc a] ++ caps) (.bool (q a))) :
    PureFn prog W0 152 [.sl 49 (l.map enc), .fn g caps] (.int .i64 (idxL q l)) := by
  refine fn_pure [4] [] func152 rfl rfl ntmps152 rfl rfl (.int _ _) fun hs σ => ?_
  have hl := (small_map (hs _ (List.mem_cons_self ..))).1
  simp only [go_sem, simprocAttr, ↓reduceIte]
  refine LoopVC.upto [0, 1, 7] (.of (by kernel_rfl)) l.length (fun i A => A.env 8 = .int .i64 i ∧ A.st = σ ∧ ∀ a ∈ l.take i, q a = false) 0 (Nat.zero_le _) ?_ fun i B hi ⟨h8, hst, hI⟩ => ?_
  · simp only [go_sem, simprocAttr, ↓reduceIte]
    all_goals simp
  simp only [go_sem, simprocAttr, ↓reduceIte, h8, hst, List.length_map]
  refine ⟨fun hc => ⟨hc, ?_⟩, fun hc => weak_int ?_⟩
  · obtain ⟨a, ha⟩ := get_some hc
    simp only [atV_map ha, okM_notM (hp a), unm_notM (hp a), true_and]
    refine CallA.pure (h a (List.mem_of_getElem? ha)) ?_
    simp only [go_sem, simprocAttr, ↓reduceIte, h8, hst]
    refine ⟨fun hq => weak_int (idxL_at ha hq hI).symm, fun hq => ⟨hc, int_succ hc hl, ?_⟩⟩
    rw [take_succ_get ha]
    intro b hb
    rcases List.mem_append.1 hb with hb | hb
    · exact hI b hb
    · rw [List.mem_singleton.1 hb]; exact hq
  · rw [idxL_none]
    rwa [List.take_of_length_le hc] at hI
end Go.Proofs.Tryz
end
section
namespace Go.Proofs.Tryz
open Go Go.Av
set_option maxRecDepth 10000
set_option linter.unusedSimpArgs false
set_option linter.unusedVariables false
variable {W0 : World}

theorem anAtomC {α : Type} (enc : α → AV) (hp : ∀ a, NotM (enc a)) (l : List α) (q : α → Bool) (g : FuncId) (caps : List AV) (h : ∀ a ∈ l, PureFn prog W0 g ([enc a] ++ caps) (.bool (q a))) :
    PureFn prog W0 47 [.sl 48 (l.map enc), .fn g caps] (.bool (l.any q)) := by
  refine fn_pure [4] [] func47 rfl rfl ntmps47 rfl rfl (.bool _) fun hs σ => ?_
  simp only [go_sem, simprocAttr, ↓reduceIte]
  refine CallA.fn (ixAtomC enc hp l q g caps h) ?_
  simp only [go_sem, simprocAttr, ↓reduceIte]
  exact weak_bool idxL_ge
theorem anAtom {α : Type} (enc : α → AV) (hp : ∀ a, NotM (enc a)) (l : List α) (q : α → Bool) (g : FuncId) (caps : List AV) (h : ∀ a ∈ l, PureFn prog W0 g ([enc a] ++ caps) (.bool (q a))) :
    PureFn prog W0 110 [.sl 48 (l.map enc), .fn g caps] (.bool (l.any q)) := by
  refine fn_pure [4] [] func110 rfl rfl ntmps110 rfl rfl (.bool _) fun hs σ => ?_
  simp only [go_sem, simprocAttr, ↓reduceIte]
  refine CallA.fn (ixAtom enc hp l q g caps h) ?_
  simp only [go_sem, simprocAttr, ↓reduceIte]
  exact weak_bool idxL_ge
theorem anInt {α : Type} (enc : α → AV) (hp : ∀ a, NotM (enc a)) (l : List α) (q : α → Bool) (g : FuncId) (caps : List AV) (h : ∀ a ∈ l, PureFn prog W0 g ([enc a] ++ caps) (.bool (q a))) :
    PureFn prog W0 43 [.sl 3 (l.map enc), .fn g caps] (.bool (l.any q)) := by
  refine fn_pure [4] [] func43 rfl rfl ntmps43 rfl rfl (.bool _) fun hs σ => ?_
  simp only [go_sem, simprocAttr, ↓reduceIte]
  refine CallA.fn (ixInt enc hp l q g caps h) ?_
  simp only [go_sem, simprocAttr, ↓reduceIte]
  exact weak_bool idxL_ge
theorem anPkg {α : Type} (enc : α → AV) (hp : ∀ a, NotM (enc a)) (l : List α) (q : α → Bool) (g : FuncId) (caps : List AV) (h : ∀ a ∈ l, PureFn prog W0 g ([enc a] ++ caps) (.bool (q a))) :
    PureFn prog W0 66 [.sl 38 (l.map enc), .fn g caps] (.bool (l.any q)) := by
  refine fn_pure [4] [] func66 rfl rfl ntmps66 rfl rfl (.bool _) fun hs σ => ?_
  simp only [go_sem, simprocAttr, ↓reduceIte]
  refine CallA.fn (ixPkg enc hp l q g caps h) ?_
  simp only [go_sem, simprocAttr, ↓reduceIte]
  exact weak_bool idxL_ge
theorem anProv {α : Type} (enc : α → AV) (hp : ∀ a, NotM (enc a)) (l : List α) (q : α → Bool) (g : FuncId) (caps : List AV) (h : ∀ a ∈ l, PureFn prog W0 g ([enc a] ++ caps) (.bool (q a))) :
    PureFn prog W0 75 [.sl 105 (l.map enc), .fn g caps] (.bool (l.any q)) := by
  refine fn_pure [4] [] func75 rfl rfl ntmps75 rfl rfl (.bool _) fun hs σ => ?_
  simp only [go_sem, simprocAttr, ↓reduceIte]
  refine CallA.fn (ixProv enc hp l q g caps h) ?_
  simp only [go_sem, simprocAttr, ↓reduceIte]
  exact weak_bool idxL_ge
theorem anLit {α : Type} (enc : α → AV) (hp : ∀ a, NotM (enc a)) (l : List α) (q : α → Bool) (g : FuncId) (caps : List AV) (h : ∀ a ∈ l, PureFn prog W0 g ([enc a] ++ caps) (.bool (q a))) :
    PureFn prog W0 99 [.sl 54 (l.map enc), .fn g caps] (.bool (l.any q)) := by
  refine fn_pure [4] [] func99 rfl rfl ntmps99 rfl rfl (.bool _) fun hs σ => ?_
  simp only [go_sem, simprocAttr, ↓reduceIte]
  refine CallA.fn (ixLit enc hp l q g caps h) ?_
  simp only [go_sem, simprocAttr, ↓reduceIte]
  exact weak_bool idxL_ge
theorem anClause {α : Type} (enc : α → AV) (hp : ∀ a, NotM (enc a)) (l : List α) (q : α → Bool) (g : FuncId) (caps : List AV) (h : ∀ a ∈ l, PureFn prog W0 g ([enc a] ++ caps) (.bool (q a))) :
    PureFn prog W0 129 [.sl 49 (l.map enc), .fn g caps] (.bool (l.any q)) := by
  refine fn_pure [4] [] func129 rfl rfl ntmps129 rfl rfl (.bool _) fun hs σ => ?_
  simp only [go_sem, simprocAttr, ↓reduceIte]
  refine CallA.fn (ixClause enc hp l q g caps h) ?_
  simp only [go_sem, simprocAttr, ↓reduceIte]
  exact weak_bool idxL_ge

theorem ix_str (l : List (List UInt8)) (s : List UInt8) : PureFn prog W0 97 [.sl 9 (l.map .str), .str s] (.int .i64 (idxL (fun x => s == x) l)) := by
  refine fn_pure [4] [] func97 rfl rfl ntmps97 rfl rfl (.int _ _) fun hs σ => ?_
  have hl := (small_map (hs _ (List.mem_cons_self ..))).1
  simp only [go_sem, simprocAttr, ↓reduceIte]
  refine LoopVC.upto [0, 1, 7] (.of (by kernel_rfl)) l.length (fun i A => A.env 8 = .int .i64 i ∧ A.st = σ ∧ ∀ a ∈ l.take i, (s == a) = false) 0 (Nat.zero_le _) ?_ fun i B hi ⟨h8, hst, hI⟩ => ?_
  · simp only [go_sem, simprocAttr, ↓reduceIte]
    all_goals simp
  simp only [go_sem, simprocAttr, ↓reduceIte, h8, hst, List.length_map]
  refine ⟨fun hc => ⟨hc, ?_⟩, fun hc => weak_int ?_⟩
  · obtain ⟨a, ha⟩ := get_some hc
    simp only [atV_map ha]
    simp only [go_sem, simprocAttr, ↓reduceIte, h8, hst]
    refine ⟨fun hq => weak_int (idxL_at (q := fun x => s == x) ha (by simpa using hq) hI).symm, fun hq => ⟨hc, int_succ hc hl, ?_⟩⟩
    rw [take_succ_get ha]
    intro b hb
    rcases List.mem_append.1 hb with hb | hb
    · simpa using hI b hb
    · rw [List.mem_singleton.1 hb]; simpa using hq
  · rw [idxL_none]
    rwa [List.take_of_length_le hc] at hI

theorem an_str (l : List (List UInt8)) (s : List UInt8) : PureFn prog W0 69 [.sl 9 (l.map .str), .str s] (.bool (l.any fun x => s == x)) := by
  refine fn_pure [4] [] func69 rfl rfl ntmps69 rfl rfl (.bool _) fun hs σ => ?_
  simp only [go_sem, simprocAttr, ↓reduceIte]
  refine CallA.fn (ix_str l s) ?_
  simp only [go_sem, simprocAttr, ↓reduceIte]
  exact weak_bool idxL_ge

theorem nanUint (a : Int) : PureFn prog W0 136 [.int .u64 a] (.bool false) := by
  refine fn_pure [2] [] func136 rfl rfl ntmps136 rfl rfl (.bool _) fun hs σ => ?_
  simp only [go_sem, simprocAttr, ↓reduceIte]
  exact weak_bool (by simp)

theorem cmpUint (a b : Int) : PureFn prog W0 106 [.int .u64 a, .int .u64 b] (.int .i64 (sgn a b)) := by
  refine fn_pure [4] [] func106 rfl rfl ntmps106 rfl rfl (.int _ _) fun hs σ => ?_
  simp only [go_sem, simprocAttr, ↓reduceIte]
  refine CallA.fn (nanUint a) ?_
  simp only [go_sem, simprocAttr, ↓reduceIte]
  refine CallA.fn (nanUint b) ?_
  simp only [go_sem, simprocAttr, ↓reduceIte]
  refine ⟨fun h => weak_int (by simp [sgn, h]), fun h => ⟨fun h' => weak_int (by simp [sgn, h']; omega), fun h' => weak_int (by rw [sgn, if_neg (by omega), if_neg (by omega)])⟩⟩
theorem nanLit (a : Int) : PureFn prog W0 137 [.int .i64 a] (.bool false) := by
  refine fn_pure [2] [] func137 rfl rfl ntmps137 rfl rfl (.bool _) fun hs σ => ?_
  simp only [go_sem, simprocAttr, ↓reduceIte]
  exact weak_bool (by simp)

theorem cmpLit (a b : Int) : PureFn prog W0 107 [.int .i64 a, .int .i64 b] (.int .i64 (sgn a b)) := by
  refine fn_pure [4] [] func107 rfl rfl ntmps107 rfl rfl (.int _ _) fun hs σ => ?_
  simp only [go_sem, simprocAttr, ↓reduceIte]
  refine CallA.fn (nanLit a) ?_
  simp only [go_sem, simprocAttr, ↓reduceIte]
  refine CallA.fn (nanLit b) ?_
  simp only [go_sem, simprocAttr, ↓reduceIte]
  refine ⟨fun h => weak_int (by simp [sgn, h]), fun h => ⟨fun h' => weak_int (by simp [sgn, h']; omega), fun h' => weak_int (by rw [sgn, if_neg (by omega), if_neg (by omega)])⟩⟩
theorem nanInt (a : Int) : PureFn prog W0 182 [.int .i64 a] (.bool false) := by
  refine fn_pure [2] [] func182 rfl rfl ntmps182 rfl rfl (.bool _) fun hs σ => ?_
  simp only [go_sem, simprocAttr, ↓reduceIte]
  exact weak_bool (by simp)

theorem cmpInt (a b : Int) : PureFn prog W0 170 [.int .i64 a, .int .i64 b] (.int .i64 (sgn a b)) := by
  refine fn_pure [4] [] func170 rfl rfl ntmps170 rfl rfl (.int _ _) fun hs σ => ?_
  simp only [go_sem, simprocAttr, ↓reduceIte]
  refine CallA.fn (nanInt a) ?_
  simp only [go_sem, simprocAttr, ↓reduceIte]
  refine CallA.fn (nanInt b) ?_
  simp only [go_sem, simprocAttr, ↓reduceIte]
  refine ⟨fun h => weak_int (by simp [sgn, h]), fun h => ⟨fun h' => weak_int (by simp [sgn, h']; omega), fun h' => weak_int (by rw [sgn, if_neg (by omega), if_neg (by omega)])⟩⟩

theorem nan_str (s : List UInt8) : PureFn prog W0 184 [.str s] (.bool false) := by
  refine fn_pure [2] [] func184 rfl rfl ntmps184 rfl rfl (.bool _) fun hs σ => ?_
  simp only [go_sem, simprocAttr, ↓reduceIte]

theorem cmp_str (a b : List UInt8) : PureFn prog W0 172 [.str a, .str b] (.int .i64 (cmpS a b)) := by
  refine fn_pure [4] [] func172 rfl rfl ntmps172 rfl rfl (.int _ _) fun hs σ => ?_
  simp only [go_sem, simprocAttr, ↓reduceIte]
  refine CallA.fn (nan_str a) ?_
  simp only [go_sem, simprocAttr, ↓reduceIte]
  refine CallA.fn (nan_str b) ?_
  simp only [go_sem, simprocAttr, ↓reduceIte]
  refine ⟨fun h => weak_int (by simp [cmpS, h]), fun h => ⟨fun h' => weak_int (by simp at h'; simp [cmpS, h, h'.2]), fun h' => weak_int ?_⟩⟩
  rw [cmpS, h]
  simp at h' ⊢
  rcases h' with h' | h'
  · rw [h] at h'; cases h'
  · exact h'

theorem cmp_or (l : List Int) : PureFn prog W0 105 [.sl 3 (l.map (.int .i64))] (.int .i64 (orL l)) := by
  refine fn_pure [2] [] func105 rfl rfl ntmps105 rfl rfl (.int _ _) fun hs σ => ?_
  have hl := (small_map (hs _ (List.mem_cons_self ..))).1
  simp only [go_sem, simprocAttr, ↓reduceIte]
  refine LoopVC.upto [3, 6, 7] (.of (by kernel_rfl)) l.length (fun i A => A.env 8 = .int .i64 i ∧ A.st = σ ∧ orL (l.drop i) = orL l) 0 (Nat.zero_le _) ?_ fun i B hi ⟨h8, hst, hI⟩ => ?_
  · simp only [go_sem, simprocAttr, ↓reduceIte]
    all_goals simp
  simp only [go_sem, simprocAttr, ↓reduceIte, h8, hst, List.length_map]
  refine ⟨fun hc => ⟨hc, ?_⟩, fun hc => weak_int ?_⟩
  · obtain ⟨a, ha⟩ := get_some hc
    obtain ⟨hlt, hae⟩ := List.getElem?_eq_some_iff.1 ha
    simp only [atV_map ha]
    simp only [go_sem, simprocAttr, ↓reduceIte, h8, hst]
    rw [List.drop_eq_getElem_cons hlt, hae] at hI
    refine ⟨fun hq => weak_int (by rw [← hI, orL, if_pos hq]), fun hq => ⟨hc, int_succ hc hl, ?_⟩⟩
    rw [← hI, orL, if_neg (by simpa using hq)]
  · rw [List.drop_eq_nil_of_le hc] at hI
    exact hI

theorem ba_indexByte (s : List UInt8) (c : UInt8) : PureFn prog W0 186 [.str s, .int .u8 c.toNat] (.int .i64 (firstOf c s)) := by
  refine fn_ext (e := Extern.BytealgIndexByte.indexByte) func186 (by kernel_rfl) (by kernel_rfl) (by kernel_rfl) (by kernel_rfl) fun w C vs hl hv => ?_
  obtain ⟨x, y, rfl⟩ : ∃ x y, vs = [x, y] := by
    match vs, hl with
    | [x, y], _ => exact ⟨x, y, rfl⟩
  obtain ⟨hx, _⟩ := (hv 0 _ x rfl rfl).str_inv
  have hy := (hv 1 _ y rfl rfl).int_inv
  subst hx hy
  refine ⟨_, Lib.run_indexByteString _ _ w, ?_⟩
  have e : Lib.indexByte s (c.toNat : Int).toNat.toUInt8 = firstOf c s := by rw [show (c.toNat : Int).toNat.toUInt8 = c by simp]; exact indexByte_firstOf s c
  rw [show (ByteArray.mk s.toArray).data.toList = s from rfl, e]
  exact .one rfl (.int _ _)

theorem sl_indexByte (s : List UInt8) (c : UInt8) : PureFn prog W0 178 [.str s, .int .u8 c.toNat] (.int .i64 (firstOf c s)) := by
  refine fn_pure [4] [] func178 rfl rfl ntmps178 rfl rfl (.int _ _) fun hs σ => ?_
  simp only [go_sem, simprocAttr, ↓reduceIte]
  refine CallA.fn (ba_indexByte s c) ?_
  simp only [go_sem, simprocAttr, ↓reduceIte]

theorem sl_index (s : List UInt8) (c : UInt8) : PureFn prog W0 167 [.str s, .str [c]] (.int .i64 (firstOf c s)) := by
  refine fn_pure [4] [] func167 rfl rfl ntmps167 rfl rfl (.int _ _) fun hs σ => ?_
  simp only [go_sem, simprocAttr, ↓reduceIte]
  refine ⟨fun h => weak_int (by rw [← h]; simp [firstOf, List.findIdx?_cons]), fun h => CallA.fn (sl_indexByte s c) ?_⟩
  simp only [go_sem, simprocAttr, ↓reduceIte]

theorem st_index (s : List UInt8) (c : UInt8) : PureFn prog W0 168 [.str s, .str [c]] (.int .i64 (firstOf c s)) := by
  refine fn_pure [4] [] func168 rfl rfl ntmps168 rfl rfl (.int _ _) fun hs σ => ?_
  simp only [go_sem, simprocAttr, ↓reduceIte]
  refine CallA.fn (sl_index s c) ?_
  simp only [go_sem, simprocAttr, ↓reduceIte]

theorem st_contains (s : List UInt8) (c : UInt8) : PureFn prog W0 151 [.str s, .str [c]] (.bool (s.contains c)) := by
  refine fn_pure [4] [] func151 rfl rfl ntmps151 rfl rfl (.bool _) fun hs σ => ?_
  simp only [go_sem, simprocAttr, ↓reduceIte]
  refine CallA.fn (st_index s c) ?_
  simp only [go_sem, simprocAttr, ↓reduceIte]
  exact weak_bool (firstOf_ge s c)

theorem sl_cut (s : List UInt8) (c : UInt8) : PureFn prog W0 148 [.str s, .str [c]] (cutAV c s) := by
  refine fn_pure [4, 5, 6] [] func148 rfl rfl ntmps148 rfl rfl (cutAV_ids c s) fun hs σ => ?_
  have hl : s.length ≤ maxLen := small_str (hs _ (by simp))
  simp only [go_sem, simprocAttr, ↓reduceIte]
  refine CallA.fn (sl_index s c) ?_
  simp only [go_sem, simprocAttr, ↓reduceIte]
  refine ⟨fun h => ?_, fun h => ?_⟩
  · obtain ⟨i, hi, hg, hlt⟩ := (firstOf_cases c s).resolve_left (fun e => by rw [e.1] at h; simp at h)
    rw [hi]
    have hw : IntKind.i64.wrap ((i : Int) + 1) = ((i + 1 : Nat) : Int) := wrap_succ hlt hl
    simp only [go_sem, simprocAttr, ↓reduceIte, hw]
    refine ⟨.of (by kernel_rfl), by omega, by omega, ?_⟩
    rw [cutAV, cutA, cutB, hi, if_pos (by omega), if_pos (by omega), Int.toNat_natCast, decide_eq_true (by omega)]
    exact .refl _
  · have h := h
    simp at h
    rw [cutAV, cutA, cutB, if_neg (by omega), if_neg (by omega), decide_eq_false (by omega)]
    exact .refl _

theorem st_cut (s : List UInt8) (c : UInt8) : PureFn prog W0 124 [.str s, .str [c]] (cutAV c s) := by
  refine fn_pure [4, 5, 6] [] func124 rfl rfl ntmps124 rfl rfl (cutAV_ids c s) fun hs σ => ?_
  simp only [go_sem, simprocAttr, ↓reduceIte]
  refine CallA.fn (sl_cut s c) ?_
  simp only [go_sem, simprocAttr, ↓reduceIte, cutAV]

theorem ba_lastIndexByte (s : List UInt8) (c : UInt8) : PureFn prog W0 149 [.str s, .int .u8 c.toNat] (.int .i64 (lastOf c s)) := by
  refine fn_pure [4] [] func149 rfl rfl ntmps149 rfl rfl (.int _ _) fun hs σ => ?_
  have hsl : s.length ≤ 9223372036854775807 := small_str (hs _ (by simp))
  simp only [go_sem, simprocAttr, ↓reduceIte]
  refine LoopVC.falls [0, 1] (.of (by kernel_rfl)) (fun k A => A.env 5 = .int .i64 ((k : Int) - 1) ∧ A.st = σ ∧ k ≤ s.length ∧ lastOf c s = lastTo c s k) s.length ?_ fun k B ⟨h5, hst, hk, hI⟩ => ?_
  · simp only [go_sem, simprocAttr, ↓reduceIte]
    exact ⟨by rw [wrap_in (by omega)], rfl⟩
  simp only [go_sem, simprocAttr, ↓reduceIte, h5, hst]
  refine ⟨fun hc => ?_, fun hc => ?_⟩
  · obtain ⟨k, rfl⟩ : ∃ j, k = j + 1 := ⟨k - 1, by omega⟩
    have e : (((k + 1 : Nat) : Int) - 1) = (k : Int) := by omega
    simp only [go_sem, simprocAttr, ↓reduceIte, e]
    obtain ⟨x, hx⟩ := get_some (show k < s.length by omega)
    simp only [hx, Option.getD_some]
    refine ⟨by omega, fun h => weak_int ?_, fun h => .here k (by omega) ?_⟩
    · rw [hI, lastTo, if_pos (by rw [hx]; congr 1)]
    · simp only [go_sem, simprocAttr, ↓reduceIte, hst]
      refine ⟨by rw [wrap_in (by omega)], by omega, ?_⟩
      rw [hI, lastTo, if_neg (by rw [hx]; simpa using h)]
  · have : k = 0 := by omega
    subst this
    exact weak_int (by rw [hI]; rfl)

theorem st_lastIndexByte (s : List UInt8) (c : UInt8) : PureFn prog W0 125 [.str s, .int .u8 c.toNat] (.int .i64 (lastOf c s)) := by
  refine fn_pure [4] [] func125 rfl rfl ntmps125 rfl rfl (.int _ _) fun hs σ => ?_
  simp only [go_sem, simprocAttr, ↓reduceIte]
  refine CallA.fn (ba_lastIndexByte s c) ?_
  simp only [go_sem, simprocAttr, ↓reduceIte]

theorem st_trimLeftByte (s : List UInt8) (c : UInt8) : PureFn prog W0 188 [.str s, .int .u8 c.toNat] (.str (s.dropWhile (· == c))) := by
  refine fn_pure [4] [] func188 rfl rfl ntmps188 rfl rfl (.str _) fun hs σ => ?_
  simp only [go_sem, simprocAttr, ↓reduceIte]
  refine LoopVC.falls [1] (.of (by kernel_rfl)) (fun k A => ∃ x, A.env 0 = .str x ∧ A.st = σ ∧ k = x.length ∧ x.dropWhile (· == c) = s.dropWhile (· == c)) s.length ⟨s, ?_⟩ fun k B ⟨x, h0, hst, hk, hI⟩ => ?_
  · simp only [go_sem, simprocAttr, ↓reduceIte]
  cases x with
  | nil =>
    simp only [go_sem, simprocAttr, ↓reduceIte, h0, hst]
    exact weak_str hI
  | cons d r =>
    simp only [go_sem, simprocAttr, ↓reduceIte, h0, hst]
    refine ⟨fun h => .here r.length (by simp [hk]) ⟨r, ?_⟩, fun h => weak_str ?_⟩
    · simp only [go_sem, simprocAttr, ↓reduceIte, hst]
      rw [← hI, List.dropWhile_cons, if_pos (by have h := h; simp at h ⊢; exact UInt8.toNat_inj.1 (by omega))]
    · rw [← hI, List.dropWhile_cons, if_neg (by have h := h; simp at h ⊢; intro e; subst e; exact h rfl)]

theorem st_trimLeft (s : List UInt8) (c : UInt8) (hc : c.toNat < 128) : PureFn prog W0 183 [.str s, .str [c]] (.str (s.dropWhile (· == c))) := by
  refine fn_pure [4] [] func183 rfl rfl ntmps183 rfl rfl (.str _) fun hs σ => ?_
  cases s with
  | nil => simp only [go_sem, simprocAttr, ↓reduceIte]; exact .refl _
  | cons d r =>
    have hc' : ((c.toNat : Int) < 128) := by omega
    simp only [go_sem, simprocAttr, ↓reduceIte, hc']
    refine CallA.fn (st_trimLeftByte (d :: r) c) ?_
    simp only [go_sem, simprocAttr, ↓reduceIte]
end Go.Proofs.Tryz
end
section
namespace Go.Proofs.Tryz
open Go Go.Av
set_option maxRecDepth 10000
set_option linter.unusedSimpArgs false
set_option linter.unusedVariables false
variable {W0 : World}

theorem ve_rank (s : List UInt8) : PureFn prog W0 169 [.str s] (.int .i64 (rkP s)) := by
  refine fn_pure [2] [] func169 rfl rfl ntmps169 rfl rfl (.int _ _) fun hs σ => ?_
  cases s with
  | nil =>
    simp only [go_sem, simprocAttr, ↓reduceIte]
    refine CallP.fnG (fun h => by simp at h) (r := .bool false) ?_
    simp only [go_sem, simprocAttr, ↓reduceIte]
    exact .refl _
  | cons c r =>
    have h8 := c.toNat_lt
    simp only [go_sem, simprocAttr, ↓reduceIte]
    refine CallP.fnG (fun _ => ve_digit c) ?_
    simp only [go_sem, simprocAttr, ↓reduceIte]
    refine ⟨fun h => weak_int (by simp [rkP, h]), fun h => ⟨fun h' => weak_int ?_, fun h' => CallA.fn (ve_letter c) ?_⟩⟩
    · have : c.toNat = 126 := by omega
      simp [rkP, h, rankP, this]
    simp only [go_sem, simprocAttr, ↓reduceIte]
    have hn : ¬ c.toNat = 126 := by omega
    refine ⟨fun hl => weak_int (by simp [rkP, h, rankP, hn, hl]), fun hl => weak_int ?_⟩
    rw [wrap_in (by omega)]
    simp [rkP, h, rankP, hn, hl]

theorem ve_digits (s : List UInt8) : PureFn prog W0 171 [.str s] (.tup [.str (digsP s), .str (restP s)]) := by
  refine fn_pure [2, 3] [] func171 rfl rfl ntmps171 rfl rfl (.tup (by intro x hx; simp at hx; rcases hx with rfl | rfl <;> exact .str _)) fun hs σ => ?_
  have hsl : s.length ≤ maxLen := small_str (hs _ (by simp))
  simp only [go_sem, simprocAttr, ↓reduceIte]
  refine LoopVC.at [0] (.of (by kernel_rfl)) (fun A => ∃ i : Nat, A.env 4 = .int .i64 i ∧ A.st = σ ∧ i = runS s) ?_ fun B ⟨i, h4, hst, hi⟩ => ?_
  · refine LoopVC.upto [0] (.of (by kernel_rfl)) s.length (fun i A => A.env 4 = .int .i64 i ∧ A.st = σ ∧ ∀ c ∈ s.take i, digitC c = true) 0 (Nat.zero_le _) ?_ fun i B hi ⟨h4, hst, hI⟩ => ?_
    · simp only [go_sem, simprocAttr, ↓reduceIte]
      simp
    simp only [go_sem, simprocAttr, ↓reduceIte, h4, hst]
    refine CallP.fnG (fun _ => ve_digit _) ?_
    simp only [go_sem, simprocAttr, ↓reduceIte, h4, hst]
    refine ⟨fun h => ?_, fun h => ⟨i, rfl, ?_⟩⟩
    · obtain ⟨c, hc, hd⟩ := at_and.1 h
      have hlt := (List.getElem?_eq_some_iff.1 hc).1
      refine ⟨hlt, int_succ hlt hsl, fun d hdm => ?_⟩
      rw [take_succ_get hc] at hdm
      rcases List.mem_append.1 hdm with hdm | hdm
      · exact hI d hdm
      · rw [List.mem_singleton.1 hdm]; exact hd
    · exact (runS_at hi hI (at_and_f.1 h)).symm
  simp only [go_sem, simprocAttr, ↓reduceIte, h4, hst]
  subst hi
  have hle := runS_le s
  refine ⟨.of (by kernel_rfl), ⟨Nat.zero_le _, hle⟩, ?_⟩
  refine CallP.fn (st_trimLeft _ 48 (by decide)) ?_
  simp only [go_sem, simprocAttr, ↓reduceIte, h4, hst]
  refine ⟨hle, ?_⟩
  have key : ∀ s : List UInt8, s.takeWhile digitC = s.take (runS s) ∧ s.dropWhile digitC = s.drop (runS s) := fun s => by
    induction s with
    | nil => exact ⟨rfl, rfl⟩
    | cons c r ih =>
      cases h : digitC c with
      | true =>
        have e : runS (c :: r) = runS r + 1 := by simp [runS, h]
        rw [e, List.takeWhile_cons, List.dropWhile_cons, if_pos h, if_pos h, List.take_succ_cons, List.drop_succ_cons, ih.1, ih.2]
        exact ⟨rfl, rfl⟩
      | false =>
        have e : runS (c :: r) = 0 := by simp [runS, h]
        rw [e, List.takeWhile_cons, List.dropWhile_cons, h]
        exact ⟨rfl, rfl⟩
  rw [digsP, restP, (key s).1, (key s).2]
  exact .refl _

/-- Two texts of which the same has been read, in memory. -/
abbrev sidesO (x y : List UInt8) : Option SObj := some (.cells 180 [.agg 180 [.str x, .str y]])

theorem ve_signs (σ : Store) (id : Nat) (a b : List UInt8) (hid : σ[id]? = some (sidesO a b)) (hal : a.length ≤ maxLen) (hbl : b.length ≤ maxLen) :
    ACall prog W0 153 [.ptr 180 id 0 []] σ fun r σ' => r = .int .i64 (signsL a b) ∧ ∃ x y, σ' = σ.set id (sidesO x y) ∧ (signsL a b = 0 → x = skipD a ∧ y = skipD b) := by
  have hidl : id < σ.length := (List.getElem?_eq_some_iff.1 hid).1
  refine fn_call [2] [] func153 rfl rfl ntmps153 rfl rfl fun hs => ?_
  simp only [go_sem, simprocAttr, ↓reduceIte]
  refine LoopVC.falls [0] (.of (by kernel_rfl)) (fun k A => ∃ x y, A.st = σ.set id (sidesO x y) ∧ k = x.length + y.length ∧ signsL x y = signsL a b ∧ skipD x = skipD a ∧ skipD y = skipD b ∧ x.length ≤ maxLen ∧ y.length ≤ maxLen) (a.length + b.length) ⟨a, b, ?_, rfl, rfl, rfl, rfl, hal, hbl⟩ fun k B ⟨x, y, hst, hk, hI, hx, hy, hxl, hyl⟩ => ?_
  · simp only [go_sem, simprocAttr, ↓reduceIte]
    exact (set_id hid).symm
  simp only [go_sem, simprocAttr, ↓reduceIte, hst, look_set hidl]
  refine ⟨.of (by kernel_rfl), CallP.fn (ve_rank x) ?_⟩
  simp only [go_sem, simprocAttr, ↓reduceIte, hst, look_set hidl]
  refine CallP.fn (ve_rank y) ?_
  simp only [go_sem, simprocAttr, ↓reduceIte, hst, look_set hidl]
  refine ⟨fun h => CallA.fn (cmpInt _ _) ?_, fun h => ⟨fun h0 => EndR.ret ?_, fun h0 => ?_⟩⟩
  · simp only [go_sem, simprocAttr, ↓reduceIte, hst, look_set hidl]
    refine EndR.ret ?_
    simp only [go_sem, simprocAttr, ↓reduceIte, hst]
    have hne : rk x ≠ rk y := fun e => h ((rkP_eq x y).2 e)
    refine ⟨_, .refl _, by simp, by rw [← hI, signsL_ne hne, rkP_cmp], x, y, rfl, fun h0 => ?_⟩
    rw [← hI, signsL_ne hne] at h0
    exact absurd (sgn_eq h0) hne
  · simp only [go_sem, simprocAttr, ↓reduceIte, hst]
    have hx0 := (rkP_zero x).1 h0
    have hy0 : rk y = 0 := by rw [← rkP_zero, ← h]; exact h0
    refine ⟨_, .refl _, by simp, by rw [← hI, signsL_zero hx0 hy0], x, y, rfl, fun _ => ⟨by rw [← hx, skipD_rk hx0], by rw [← hy, skipD_rk hy0]⟩⟩
  · have hx0 : rk x ≠ 0 := fun e => h0 ((rkP_zero x).2 e)
    have hxy : rk x = rk y := (rkP_eq x y).1 h
    have hy0 : rk y ≠ 0 := by rw [← hxy]; exact hx0
    obtain ⟨c, r, rfl, hc⟩ := rk_ne hx0
    obtain ⟨d, r', rfl, hd⟩ := rk_ne hy0
    simp only [go_sem, simprocAttr, ↓reduceIte, hst, look_set hidl, setLook_set hidl]
    refine ⟨.of (by kernel_rfl), .here (r.length + r'.length) (by simp [hk]; omega) ⟨r, r', ?_⟩⟩
    simp only [go_sem, simprocAttr, ↓reduceIte, hst, look_set hidl, setLook_set hidl]
    simp at hxl hyl
    exact ⟨by rw [← hI, signsL_step hx0 hxy]; rfl, by rw [← hx]; exact skipD_tail hx0, by rw [← hy]; exact skipD_tail hy0, by omega, by omega⟩
theorem ve_numbers (σ : Store) (id : Nat) (a b : List UInt8) (hid : σ[id]? = some (sidesO a b)) :
    ACall prog W0 154 [.ptr 180 id 0 []] σ fun r σ' => r = .int .i64 (numC a b) ∧ σ' = σ.set id (sidesO (restP a) (restP b)) := by
  have hidl : id < σ.length := (List.getElem?_eq_some_iff.1 hid).1
  refine fn_call [2] [] func154 rfl rfl ntmps154 rfl rfl fun hs => ?_
  simp only [go_sem, simprocAttr, ↓reduceIte, look_id hid]
  refine CallA.fn (ve_digits a) ?_
  simp only [go_sem, simprocAttr, ↓reduceIte, look_id hid]
  refine CallA.fn (ve_digits b) ?_
  simp only [go_sem, simprocAttr, ↓reduceIte, look_id hid, setLook_id hid, look_set hidl, setLook_set hidl]
  refine ⟨fun h => CallA.fn (cmpInt _ _) ?_, fun h => CallA.fn (cmp_str _ _) ?_⟩
  · simp only [go_sem, simprocAttr, ↓reduceIte]
    refine EndR.ret ?_
    simp only [go_sem, simprocAttr, ↓reduceIte]
    exact ⟨_, .refl _, by simp, by rw [numC, if_pos h]⟩
  · simp only [go_sem, simprocAttr, ↓reduceIte]
    refine EndR.ret ?_
    simp only [go_sem, simprocAttr, ↓reduceIte]
    exact ⟨_, .refl _, by simp, by rw [numC, if_neg (by simpa using h)]⟩

theorem ve_part (a b : List UInt8) : PureFn prog W0 132 [.str a, .str b] (.int .i64 (partV a b)) := by
  refine fn_pure [4] [] func132 rfl rfl ntmps132 rfl rfl (.int _ _) fun hs σ => ?_
  have hal : a.length ≤ maxLen := small_str (hs (.str a) (by simp))
  have hbl : b.length ≤ maxLen := small_str (hs (.str b) (by simp))
  simp only [go_sem, simprocAttr, ↓reduceIte]
  refine LoopVC.falls [5] (.of (by kernel_rfl)) (fun k A => ∃ x y, A.st = σ ++ [sidesO x y] ∧ k = x.length + y.length ∧ partV x y = partV a b ∧ x.length ≤ maxLen ∧ y.length ≤ maxLen) (a.length + b.length) ⟨a, b, ?_, rfl, rfl, hal, hbl⟩ fun k B ⟨x, y, hst, hk, hI, hxl, hyl⟩ => ?_
  · simp only [go_sem, simprocAttr, ↓reduceIte]
  simp only [go_sem, simprocAttr, ↓reduceIte, hst]
  refine ⟨fun h => ?_, fun h => ?_⟩
  case refine_2 =>
    have : x = [] ∧ y = [] := by cases x <;> cases y <;> simp at h ⊢
    exact weak_int (by rw [← hI, partV, dif_pos this])
  have hne : ¬ (x = [] ∧ y = []) := fun ⟨e, e'⟩ => by subst e e'; simp at h
  have hid : (σ ++ [sidesO x y])[σ.length]? = some (sidesO x y) := by simp
  refine CallA.goes (by simp only [go_sem, simprocAttr, ↓reduceIte, hst]) (ve_signs _ σ.length x y hid hxl hyl) fun r σ' ⟨hr, x', y', hσ, hz⟩ => ?_
  subst hr hσ
  simp only [go_sem, simprocAttr, ↓reduceIte, hst]
  refine ⟨fun h1 => weak_int ?_, fun h1 => ?_⟩
  · rw [← hI, partV_step hne, if_pos h1]
  obtain ⟨rfl, rfl⟩ := hz h1
  have hid : (σ ++ [sidesO (skipD x) (skipD y)])[σ.length]? = some (sidesO (skipD x) (skipD y)) := by simp
  refine CallA.goes (by simp only [go_sem, simprocAttr, ↓reduceIte]) (ve_numbers _ σ.length _ _ hid) fun r σ' ⟨hr, hσ⟩ => ?_
  subst hr hσ
  simp only [go_sem, simprocAttr, ↓reduceIte, hst]
  have l1 := restP_le (skipD x)
  have l2 := restP_le (skipD y)
  have l3 := dropWhile_le (p := fun c => !digitC c) x
  have l4 := dropWhile_le (p := fun c => !digitC c) y
  refine ⟨fun h2 => weak_int ?_, fun h2 => .here ((restP (skipD x)).length + (restP (skipD y)).length) (by rw [hk]; exact partV_fall hne) ⟨restP (skipD x), restP (skipD y), ?_⟩⟩
  · rw [← hI, partV_step hne, if_neg (by simp [h1]), if_pos h2]
  · simp only [go_sem, simprocAttr, ↓reduceIte]
    unfold skipD at *
    exact ⟨by rw [← hI, partV_step hne, if_neg (by simp [h1]), if_neg (by unfold skipD; simp [h2])]; rfl, by omega, by omega⟩

theorem ve_of (beside s : List UInt8) (hbs : ∀ c ∈ beside, c.toNat ≤ 126) : PureFn prog W0 127 [.str s, .str beside] (.bool (ofV beside s)) := by
  refine fn_pure [4] [] func127 rfl rfl ntmps127 rfl rfl (.bool _) fun hs σ => ?_
  simp only [go_sem, simprocAttr, ↓reduceIte]
  refine LoopVC.falls [1, 8] (.of (by kernel_rfl)) (fun k A => ∃ pos, A.st = σ ++ [some (.iter s pos)] ∧ k = s.length - pos ∧ pos ≤ s.length ∧ ofV beside (s.take pos) = true) s.length ⟨0, ?_⟩ fun k B ⟨pos, hst, hk, hp, hI⟩ => ?_
  · simp only [go_sem, simprocAttr, ↓reduceIte]
    simp [ofV]
  simp only [go_sem, simprocAttr, ↓reduceIte, hst]
  refine ⟨fun hlt => ?_, fun hge => ?_⟩
  · obtain ⟨c, hc⟩ := get_some hlt
    have bad : (digitC c || letterC c || beside.contains c) = false → ofV beside s = false := fun hd => by
      unfold ofV; exact all_false hc hd
    rcases Nat.lt_or_ge c.toNat 128 with h8 | h8
    · rw [decAt_ascii hc h8]
      have hcv := u8_wrap c
      have hce := encL_ascii h8
      simp only [go_sem, simprocAttr, ↓reduceIte, hcv, hce]
      refine CallP.fnG (fun _ => ve_digit c) ?_
      simp only [go_sem, simprocAttr, ↓reduceIte, hcv, hce]
      refine CallP.fnG (fun _ => ve_letter c) ?_
      simp only [go_sem, simprocAttr, ↓reduceIte, hcv, hce]
      refine CallP.fnG (fun _ => st_contains beside c) ?_
      simp only [go_sem, simprocAttr, ↓reduceIte, hcv, hce]
      refine ⟨fun hb => weak_bool ?_, fun hb => .here (s.length - (pos + 1)) (by omega) ⟨pos + 1, ?_⟩⟩
      · refine (bad ?_).symm
        simp only [Bool.or_eq_true, decide_eq_true_eq, Bool.and_eq_true, Bool.not_eq_true'] at hb
        rcases hb with hb | ⟨⟨h1, h2⟩, h3⟩
        · have h1 : digitC c = false := by simp [digitC]; omega
          have h2 : letterC c = false := by simp [letterC, smallC]; omega
          have h3 : beside.contains c = false := by
            cases hx : beside.contains c with
            | false => rfl
            | true => have := hbs c (by simpa using hx); omega
          simp only [h1, h2, h3, Bool.or_false]
        · simp only [h1, h2, h3, Bool.or_false]
      · simp only [go_sem, simprocAttr, ↓reduceIte, hst]
        refine ⟨by omega, all_take hI hc ?_⟩
        simp at hb
        have hb2 := hb.2
        cases hd : digitC c <;> cases hl : letterC c <;> cases hx : beside.contains c <;> simp_all
    · have := decAt_big hc h8
      have hd : decide ((126 : Int) < ((decAt s pos).1 : Int)) = true := decide_eq_true (by omega)
      simp only [go_sem, simprocAttr, ↓reduceIte, hd]
      refine CallP.fnG (fun h => by simp at h) (r := .bool false) ?_
      simp only [go_sem, simprocAttr, ↓reduceIte, hd]
      refine CallP.fnG (fun h => by simp at h) (r := .bool false) ?_
      simp only [go_sem, simprocAttr, ↓reduceIte, hd]
      refine CallP.fnG (fun h => by simp at h) (r := .bool false) ?_
      simp only [go_sem, simprocAttr, ↓reduceIte, hd]
      refine weak_bool (bad ?_).symm
      have h1 : digitC c = false := by simp [digitC]; omega
      have h2 : letterC c = false := by simp [letterC, smallC]; omega
      have h3 : beside.contains c = false := by
        cases hx : beside.contains c with
        | false => rfl
        | true => have := hbs c (by simpa using hx); omega
      simp only [h1, h2, h3, Bool.or_false]
  · have : pos = s.length := by omega
    rw [this, List.take_length] at hI
    exact weak_bool hI.symm

theorem ve_parse (s : List UInt8) : PureFn prog W0 90 [.str s] (verPAV (verP s)) := by
  refine fn_pure [2, 3, 4, 5] [] func90 rfl rfl ntmps90 rfl rfl (verPAV_ids _) fun hs σ => ?_
  have hsl : s.length ≤ maxLen := small_str (hs _ (by simp))
  have none_end : verP s = none → Weak (AV.tup [.str [], .str [], .str [], .int .i64 3]) (verPAV (verP s)) := fun e => by rw [e]; exact .refl _
  simp only [go_sem, simprocAttr, ↓reduceIte]
  refine ⟨fun h => none_end ?_, fun h => ?_⟩
  · have h' : s.length = 0 ∨ 48 < s.length := by
      simp only [Bool.or_eq_true, beq_iff_eq, decide_eq_true_eq] at h
      rcases h with h | h
      · left; rw [h]; rfl
      · right; omega
    rw [verP, if_pos h']
  have hlen : ¬ (s.length = 0 ∨ 48 < s.length) := by
    simp only [Bool.or_eq_false_iff, beq_eq_false_iff_ne, decide_eq_false_iff_not] at h
    rintro (h1 | h1)
    · exact h.1 (List.length_eq_zero_iff.1 h1)
    · exact h.2 (by omega)
  refine CallA.fn (st_cut s 58) ?_
  simp only [go_sem, simprocAttr, ↓reduceIte, cutAV]
  have hv : ∀ e t : List UInt8, (e, t) = (if 0 ≤ firstOf 58 s then (s.take (firstOf 58 s).toNat, s.drop ((firstOf 58 s).toNat + 1)) else ([48], s)) → verP s = (match revP t with
     | none => none
     | some (u, r) => if (decide (1 ≤ e.length) && decide (e.length ≤ 9) && e.all digitC) && ofV [43, 46, 126] r && startsD u && ofV [43, 46, 126, 45, 58] u then some (e, u, r) else none) := fun e t he => by
    rw [verP_eq, if_neg hlen, ← he]
    rfl
  refine JoinVC.at [4] (by kernel_rfl) (fun A => ∃ e t, A.env 2 = .str e ∧ A.env 6 = .str t ∧ A.st = σ ∧ t.length ≤ s.length ∧ (e, t) = (if 0 ≤ firstOf 58 s then (s.take (firstOf 58 s).toNat, s.drop ((firstOf 58 s).toNat + 1)) else ([48], s))) (fun hf => ?_) (fun hf => ?_) fun B ⟨e, t, h2, h6, hst, htl, het⟩ => ?_
  · have hf : 0 ≤ firstOf 58 s := by simpa using hf
    simp only [go_sem, simprocAttr, ↓reduceIte]
    exact ⟨_, _, rfl, rfl, by rw [cutB, if_pos hf]; simp, by rw [cutA, cutB, if_pos hf, if_pos hf, if_pos hf]⟩
  · have hf : ¬ 0 ≤ firstOf 58 s := by simpa using hf
    simp only [go_sem, simprocAttr, ↓reduceIte]
    exact ⟨_, _, rfl, rfl, Nat.le_refl _, by rw [if_neg hf]⟩
  have hv := hv e t het
  simp only [go_sem, simprocAttr, ↓reduceIte, h2, h6, hst]
  refine CallA.fn (st_lastIndexByte t 45) ?_
  simp only [go_sem, simprocAttr, ↓reduceIte, h2, h6, hst]
  refine JoinVC.at [] (by kernel_rfl) (fun A => ∃ u r, revP t = some (u, r) ∧ A.env 2 = .str e ∧ A.env 3 = .str u ∧ A.env 4 = .str r ∧ A.st = σ) (fun hf => ?_) (fun hf => ?_) fun B ⟨u, r, hrv, h2, h3, h4, hst⟩ => ?_
  · obtain ⟨i, hi, hgi, hlt⟩ := (lastOf_cases 45 t).resolve_left (fun e => by rw [e.1] at hf; simp at hf)
    rw [hi]
    have hw : IntKind.i64.wrap ((i : Int) + 1) = ((i + 1 : Nat) : Int) := wrap_succ hlt (by omega)
    have hrv : revP t = if t.drop (i + 1) = [] then none else some (t.take i, t.drop (i + 1)) := by
      rw [revP, hi, if_pos (by omega)]; rfl
    simp only [go_sem, simprocAttr, ↓reduceIte, hw, h2, h6, hst]
    refine ⟨.of (by kernel_rfl), by omega, by omega, fun hb => none_end (by rw [hv]; simp only [hrv, if_pos hb]), fun hb => ⟨t.take i, t.drop (i + 1), ?_⟩⟩
    rw [hrv, if_neg hb]
    simp
  · have hf' : ¬ (0 ≤ lastOf 45 t) := by simpa using hf
    simp only [go_sem, simprocAttr, ↓reduceIte, h2, h6, hst]
    exact ⟨t, [], by simp [revP, hf']⟩
  rw [hrv] at hv
  simp only at hv
  simp only [go_sem, simprocAttr, ↓reduceIte, h2, h3, h4, hst]
  refine CallA.fn (ve_epochOf e) ?_
  simp only [go_sem, simprocAttr, ↓reduceIte, h2, h3, h4, hst]
  refine CallP.fnG (fun _ => ve_of [43, 46, 126] r (by decide)) ?_
  simp only [go_sem, simprocAttr, ↓reduceIte, h2, h3, h4, hst]
  have fin : ∀ b : Bool, b = (!((decide (1 ≤ e.length) && decide (e.length ≤ 9) && e.all digitC) && ofV [43, 46, 126] r && startsD u && ofV [43, 46, 126, 45, 58] u)) → (b = true → verP s = none) ∧ (b = false → verP s = some (e, u, r)) := fun b hb => by
    rw [hv]
    refine ⟨fun h => if_neg ?_, fun h => if_pos ?_⟩
    · rw [h] at hb
      intro hc
      rw [hc] at hb
      cases hb
    · rw [h] at hb
      cases hc : (decide (1 ≤ e.length) && decide (e.length ≤ 9) && e.all digitC) && ofV [43, 46, 126] r && startsD u && ofV [43, 46, 126, 45, 58] u with
      | true => rfl
      | false => rw [hc] at hb; cases hb
  cases u with
  | nil =>
    simp only [go_sem, simprocAttr, ↓reduceIte, h2, h3, h4, hst]
    refine CallP.fnG (fun h => by simp at h) (r := .bool false) ?_
    simp only [go_sem, simprocAttr, ↓reduceIte, h2, h3, h4, hst]
    refine CallP.fnG (fun h => by simp at h) (r := .bool false) ?_
    simp only [go_sem, simprocAttr, ↓reduceIte, h2, h3, h4, hst]
    exact none_end ((fin true (by simp [startsD])).1 rfl)
  | cons c u' =>
    simp only [go_sem, simprocAttr, ↓reduceIte, h2, h3, h4, hst]
    refine CallP.fnG (fun _ => ve_digit c) ?_
    simp only [go_sem, simprocAttr, ↓reduceIte, h2, h3, h4, hst]
    refine CallP.fnG (fun _ => ve_of [43, 46, 126, 45, 58] (c :: u') (by decide)) ?_
    simp only [go_sem, simprocAttr, ↓reduceIte, h2, h3, h4, hst]
    refine ⟨fun h => none_end ((fin _ ?_).1 h), fun h => ?_⟩
    · simp only [startsD]
      cases (decide (1 ≤ e.length) && decide (e.length ≤ 9) && e.all digitC) <;> cases ofV [43, 46, 126] r <;> cases digitC c <;> cases ofV [43, 46, 126, 45, 58] (c :: u') <;> rfl
    · rw [(fin _ (by
        simp only [startsD]
        cases (decide (1 ≤ e.length) && decide (e.length ≤ 9) && e.all digitC) <;> cases ofV [43, 46, 126] r <;> cases digitC c <;> cases ofV [43, 46, 126, 45, 58] (c :: u') <;> rfl)).2 h]
      exact .refl _
end Go.Proofs.Tryz
end
section
namespace Go.Proofs.Tryz
open Go Go.Av
set_option maxRecDepth 10000
set_option linter.unusedSimpArgs false
set_option linter.unusedVariables false
variable {W0 : World}

def cmpAV (a b : List UInt8) : AV := .tup [.int .i64 (cmpVer a b), .bool (isVer a && isVer b)]
theorem cmpAV_ids (a b : List UInt8) : IdsLt 0 (cmpAV a b) := by
  refine .tup fun x hx => ?_
  simp at hx
  rcases hx with rfl | rfl
  · exact .int _ _
  · exact .bool _

theorem ve_compare (a b : List UInt8) : PureFn prog W0 96 [.str a, .str b] (cmpAV a b) := by
  refine fn_pure [4, 5] [] func96 rfl rfl ntmps96 rfl rfl (cmpAV_ids _ _) fun hs σ => ?_
  simp only [go_sem, simprocAttr, ↓reduceIte]
  refine CallA.fn (ve_parse a) ?_
  cases h : verP a with
  | none =>
    simp only [go_sem, simprocAttr, ↓reduceIte, verPAV]
    refine CallA.fn (ve_parse b) ?_
    cases h' : verP b with
    | none => simp only [go_sem, simprocAttr, ↓reduceIte, verPAV]; simp only [cmpAV, cmpVer, isVer, h, h']; exact .refl _
    | some v => obtain ⟨f, v, t⟩ := v; simp only [go_sem, simprocAttr, ↓reduceIte, verPAV]; simp only [cmpAV, cmpVer, isVer, h, h']; exact .refl _
  | some v =>
    obtain ⟨e, u, r⟩ := v
    simp only [go_sem, simprocAttr, ↓reduceIte, verPAV]
    refine CallA.fn (ve_parse b) ?_
    cases h' : verP b with
    | none => simp only [go_sem, simprocAttr, ↓reduceIte, verPAV]; simp only [cmpAV, cmpVer, isVer, h, h']; exact .refl _
    | some v =>
      obtain ⟨f, v, t⟩ := v
      simp only [go_sem, simprocAttr, ↓reduceIte, verPAV]
      refine CallA.fn (ve_part e f) ?_
      simp only [go_sem, simprocAttr, ↓reduceIte]
      refine CallA.fn (ve_part u v) ?_
      simp only [go_sem, simprocAttr, ↓reduceIte]
      refine CallA.fn (ve_part r t) ?_
      simp only [go_sem, simprocAttr, ↓reduceIte]
      refine ⟨by decide, CallA.fn ((cmp_or [partV e f, partV u v, partV r t]).weak (.cons (.lit _ _) .nil)) ?_⟩
      simp only [go_sem, simprocAttr, ↓reduceIte]
      have : orL [partV e f, partV u v, partV r t] = cmpVer a b := by
        simp only [cmpVer, h, h', orL]
        by_cases h1 : partV e f = 0
        · by_cases h2 : partV u v = 0
          · by_cases h3 : partV r t = 0
            · simp [h1, h2, h3]
            · simp [h1, h2, h3]
          · simp [h1, h2]
        · simp [h1]
      rw [this, cmpAV]
      simp only [isVer, h, h']
      exact .refl _

theorem ve_same (a b : List UInt8) : PureFn prog W0 68 [.str a, .str b] (.bool (sameVer a b)) := by
  refine fn_pure [4] [] func68 rfl rfl ntmps68 rfl rfl (.bool _) fun hs σ => ?_
  simp only [go_sem, simprocAttr, ↓reduceIte]
  refine CallA.fn (ve_compare a b) ?_
  simp only [go_sem, simprocAttr, ↓reduceIte, cmpAV]
  exact weak_bool (by rw [sameVer])

theorem ve_holds (rel : Int) (a b : List UInt8) : PureFn prog W0 74 [.int .i64 rel, .str a, .str b] (.bool (holdsV rel a b)) := by
  refine fn_pure [6] [] func74 rfl rfl ntmps74 rfl rfl (.bool _) fun hs σ => ?_
  simp only [go_sem, simprocAttr, ↓reduceIte]
  refine ⟨fun h0 => CallA.fn (ve_parse a) ?_, fun h0 => CallA.fn (ve_compare a b) ?_⟩
  · cases h : verP a with
    | none => simp only [go_sem, simprocAttr, ↓reduceIte, verPAV]; exact weak_bool (by rw [holdsV, if_pos h0, isVer, h]; rfl)
    | some v => obtain ⟨e, u, r⟩ := v; simp only [go_sem, simprocAttr, ↓reduceIte, verPAV]; exact weak_bool (by rw [holdsV, if_pos h0, isVer, h]; rfl)
  simp only [go_sem, simprocAttr, ↓reduceIte, cmpAV]
  refine ⟨fun hb => weak_bool (by rw [holdsV, if_neg h0, hb]; rfl), fun hb => ?_⟩
  have hh : holdsV rel a b = (if rel = 1 then decide (cmpVer a b < 0) else if rel = 2 then decide (cmpVer a b ≤ 0) else if rel = 3 then cmpVer a b == 0
     else if rel = 4 then decide (0 ≤ cmpVer a b) else if rel = 5 then decide (0 < cmpVer a b) else false) := by rw [holdsV, if_neg h0, if_pos hb]
  refine ⟨fun h1 => weak_bool (by rw [hh, if_pos h1]), fun h1 => ⟨fun h2 => weak_bool (by rw [hh, if_neg h1, if_pos h2]), fun h2 => ⟨fun h3 => weak_bool (by rw [hh, if_neg h1, if_neg h2, if_pos h3]), fun h3 => ⟨fun h4 => weak_bool (by rw [hh, if_neg h1, if_neg h2, if_neg h3, if_pos h4]), fun h4 => ⟨fun h5 => weak_bool (by rw [hh, if_neg h1, if_neg h2, if_neg h3, if_neg h4, if_pos h5]), fun h5 => weak_bool (by rw [hh, if_neg h1, if_neg h2, if_neg h3, if_neg h4, if_neg h5])⟩⟩⟩⟩⟩

theorem tx_name (s : List UInt8) : PureFn prog W0 91 [.str s] (.bool (nameOk s)) := by
  refine fn_pure [2] [] func91 rfl rfl ntmps91 rfl rfl (.bool _) fun hs σ => ?_
  have hsl : s.length ≤ maxLen := small_str (hs _ (by simp))
  simp only [go_sem, simprocAttr, ↓reduceIte]
  refine ⟨fun h => weak_bool ?_, fun h => ?_⟩
  · have : (decide (2 ≤ s.length) && decide (s.length ≤ 24)) = false := by
      simp only [Bool.or_eq_true, decide_eq_true_eq] at h
      simp only [Bool.and_eq_false_iff, decide_eq_false_iff_not]
      omega
    rw [nameOk, this]; rfl
  have hlen : (decide (2 ≤ s.length) && decide (s.length ≤ 24)) = true := by
    simp only [Bool.or_eq_false_iff, decide_eq_false_iff_not] at h
    simp only [Bool.and_eq_true, decide_eq_true_eq]
    omega
  refine LoopVC.falls [15] (.of (by kernel_rfl)) (fun k A => ∃ pos, A.st = σ ++ [some (.iter s pos)] ∧ k = s.length - pos ∧ pos ≤ s.length ∧ ∀ j c, j < pos → s[j]? = some c → nameCh j c = true) s.length ⟨0, ?_⟩ fun k B ⟨pos, hst, hk, hp, hI⟩ => ?_
  · simp only [go_sem, simprocAttr, ↓reduceIte]
    simp
  simp only [go_sem, simprocAttr, ↓reduceIte, hst]
  refine ⟨fun hlt => ?_, fun hge => ?_⟩
  · obtain ⟨c, hc⟩ := get_some hlt
    have bad : nameCh pos c = false → nameOk s = false := fun hd => by
      rw [nameOk, allIdxB_false hc hd, Bool.and_false]
    rcases Nat.lt_or_ge c.toNat 128 with h8 | h8
    · rw [decAt_ascii hc h8]
      simp only [go_sem, simprocAttr, ↓reduceIte]
      refine ⟨fun hb => weak_bool ?_, fun hb => .here (s.length - (pos + 1)) (by omega) ⟨pos + 1, ?_⟩⟩
      · refine (bad ?_).symm
        revert hb
        simp only [nameCh, smallC, digitC]
        simp
        omega
      · simp only [go_sem, simprocAttr, ↓reduceIte, hst]
        refine ⟨by omega, fun j d hj hd => ?_⟩
        rcases Nat.lt_succ_iff_lt_or_eq.1 hj with hj | rfl
        · exact hI j d hj hd
        · have e : d = c := by rw [hd] at hc; exact Option.some.inj hc
          subst e
          revert hb
          simp only [nameCh, smallC, digitC]
          simp
          omega
    · have := decAt_big hc h8
      refine ⟨fun hb => weak_bool (bad ?_).symm, fun hb => ?_⟩
      · simp only [nameCh, smallC, digitC]
        simp
        omega
      · simp at hb
        omega
  · have : pos = s.length := by omega
    have : allIdxB nameCh 0 s = true := allIdxB_iff.2 fun j c hj => by rw [Nat.zero_add]; exact hI j c (by have := (List.getElem?_eq_some_iff.1 hj).1; omega) hj
    exact weak_bool (by rw [nameOk, this, hlen]; rfl)

theorem rl_mayAtom (a : Atom) : PureFn prog W0 73 [atomAV a] (.bool (mayAtom a)) := by
  refine fn_pure [2] [1] func73 rfl rfl ntmps73 rfl rfl (.bool _) fun hs σ => ?_
  simp only [go_sem, simprocAttr, ↓reduceIte, atomAV]
  refine CallA.fn (tx_name a.name) ?_
  simp only [go_sem, simprocAttr, ↓reduceIte, atomAV]
  have low : (!nameOk a.name || decide (a.rel < 0) || decide (5 < a.rel)) = true → mayAtom a = false := fun h => by
    unfold mayAtom
    cases hn : nameOk a.name with
    | false => rfl
    | true =>
      rw [hn] at h
      simp only [Bool.not_true, Bool.false_or, Bool.or_eq_true, decide_eq_true_eq] at h
      rw [if_neg (by omega)]
      have : (decide (1 ≤ a.rel) && decide (a.rel ≤ 5)) = false := by
        simp only [Bool.and_eq_false_iff, decide_eq_false_iff_not]; omega
      rw [this]; rfl
  have high : (!nameOk a.name || decide (a.rel < 0) || decide (5 < a.rel)) = false → mayAtom a = if a.rel = 0 then a.ver == [] else isVer a.ver := fun h => by
    simp only [Bool.or_eq_false_iff, Bool.not_eq_false', decide_eq_false_iff_not] at h
    rw [mayAtom, h.1.1, Bool.true_and]
    split
    · rfl
    · have h1 : decide (1 ≤ a.rel) = true := decide_eq_true (by omega)
      have h2 : decide (a.rel ≤ 5) = true := decide_eq_true (by omega)
      rw [h1, h2]; rfl
  refine ⟨fun h => weak_bool (low h).symm, fun h => ⟨fun h0 => weak_bool (by rw [high h, if_pos h0]), fun h0 => CallA.fn (ve_parse a.ver) ?_⟩⟩
  have hm := high h
  rw [if_neg h0] at hm
  cases h : verP a.ver with
  | none => simp only [go_sem, simprocAttr, ↓reduceIte, verPAV]; exact weak_bool (by rw [hm, isVer, h]; rfl)
  | some v => obtain ⟨e, u, r⟩ := v; simp only [go_sem, simprocAttr, ↓reduceIte, verPAV]; exact weak_bool (by rw [hm, isVer, h]; rfl)
end Go.Proofs.Tryz
end
section
namespace Go.Proofs.Tryz
open Go Go.Av
set_option maxRecDepth 10000
set_option linter.unusedSimpArgs false
set_option linter.unusedVariables false
variable {W0 : World}

def clause1 (a : Atom) : AV := .lit 48 [atomAV a]
theorem NotM.atom (a : Atom) : NotM (atomAV a) := trivial
theorem NotM.atoms (l : List Atom) : NotM (atomsAV l) := trivial
@[go_sem] theorem okM_atomsAV (g : Option Bool) (l : List Atom) : okM g (atomsAV l) = True := eq_true trivial
@[go_sem] theorem unm_atomsAV (l : List Atom) : unm (atomsAV l) = atomsAV l := rfl
@[go_sem] theorem fitsB_atomsAV (P : Program) (t : TypeId) (l : List Atom) : fitsB P t (atomsAV l) = prim P t := rfl
@[go_sem] theorem okM_clausesAV (g : Option Bool) (l : List Clause) : okM g (clausesAV l) = True := eq_true trivial
@[go_sem] theorem unm_clausesAV (l : List Clause) : unm (clausesAV l) = clausesAV l := rfl
@[go_sem] theorem fitsB_clausesAV (P : Program) (t : TypeId) (l : List Clause) : fitsB P t (clausesAV l) = prim P t := rfl
@[go_sem] theorem okM_provsAV (g : Option Bool) (l : List Prov) : okM g (provsAV l) = True := eq_true trivial
@[go_sem] theorem unm_provsAV (l : List Prov) : unm (provsAV l) = provsAV l := rfl
@[go_sem] theorem fitsB_provsAV (P : Program) (t : TypeId) (l : List Prov) : fitsB P t (provsAV l) = prim P t := rfl
@[go_sem] theorem okM_pkgsAV (g : Option Bool) (l : List Pkg) : okM g (pkgsAV l) = True := eq_true trivial
@[go_sem] theorem unm_pkgsAV (l : List Pkg) : unm (pkgsAV l) = pkgsAV l := rfl
@[go_sem] theorem fitsB_pkgsAV (P : Program) (t : TypeId) (l : List Pkg) : fitsB P t (pkgsAV l) = prim P t := rfl
theorem clauses_single (l : List Atom) : Sub (.sl 49 (l.map clause1)) (clausesAV (single l)) := by
  rw [clausesAV, single, List.map_map]
  exact .slmap l fun a _ => .lit _ _

theorem ids_map {α : Type} {f : α → AV} {e : TypeId} (h : ∀ a, IdsLt 0 (f a)) (l : List α) : IdsLt 0 (.sl e (l.map f)) := .sl fun x hx => by
  obtain ⟨a, _, rfl⟩ := List.mem_map.1 hx
  exact h a
theorem ids_atom (a : Atom) : IdsLt 0 (atomAV a) := .agg fun x hx => by
  simp at hx
  rcases hx with rfl | rfl | rfl
  · exact .str _
  · exact .int _ _
  · exact .str _
theorem ids_atoms (l : List Atom) : IdsLt 0 (atomsAV l) := ids_map ids_atom l
theorem ids_clauses (l : List Clause) : IdsLt 0 (clausesAV l) := ids_map ids_atoms l
theorem ids_prov (a : Prov) : IdsLt 0 (provAV a) := .agg fun x hx => by
  simp at hx
  rcases hx with rfl | rfl <;> exact .str _
theorem ids_provs (l : List Prov) : IdsLt 0 (provsAV l) := ids_map ids_prov l
theorem ids_pkg (p : Pkg) : IdsLt 0 (pkgAV p) := .agg fun x hx => by
  simp at hx
  rcases hx with rfl | rfl | rfl | rfl | rfl | rfl | rfl | rfl | rfl
  · exact .str _
  · exact .str _
  · exact ids_clauses _
  · exact ids_clauses _
  · exact ids_clauses _
  · exact ids_atoms _
  · exact ids_atoms _
  · exact ids_provs _
  · exact .bool _
theorem ids_pkgs (l : List Pkg) : IdsLt 0 (pkgsAV l) := ids_map ids_pkg l

theorem re_singles (l : List Atom) (hl : l.length ≤ 1048576) : PureFn prog W0 92 [atomsAV l] (clausesAV (single l)) := by
  refine fn_pure [2] [5] func92 rfl rfl ntmps92 rfl rfl (ids_clauses _) fun hs σ => ?_
  simp only [go_sem, simprocAttr, ↓reduceIte, atomsAV]
  refine LoopVC.at [6, 7] (.of (by kernel_rfl)) (fun A => ∃ v, A.env 3 = v ∧ Built σ A.st v 49 (l.map clause1)) ?_ fun B ⟨v, h3, hb⟩ => ?_
  · refine LoopVC.upto [6, 7] (.of (by kernel_rfl)) l.length (fun i A => ∃ v, A.env 3 = v ∧ A.env 8 = .int .i64 i ∧ Built σ A.st v 49 ((l.take i).map clause1)) 0 (Nat.zero_le _) ?_ fun i B hi ⟨v, h3, h8, hb⟩ => ?_
    · simp only [go_sem, simprocAttr, ↓reduceIte]
      exact ⟨_, rfl, Built.nil (.refl _) _⟩
    simp only [go_sem, simprocAttr, ↓reduceIte, h3, h8, hb.ok, hb.un, List.length_map]
    refine ⟨fun hc => ⟨hc, ?_⟩, fun hc => ?_⟩
    · obtain ⟨a, ha⟩ := get_some hc
      simp only [atV_map ha]
      simp only [go_sem, simprocAttr, ↓reduceIte, atomAV, h3, h8, hb.ok, hb.un]
      refine AppA.own 1048576 (by kernel_rfl) (hb.more _).bld (.lit _ _ _) (by simp; omega) fun v' σ' ha' => ?_
      have hb' := (hb.more _).app ha'
      simp only [go_sem, simprocAttr, ↓reduceIte, h3, h8, hb.ok, hb.un, hb'.ok, hb'.un]
      refine ⟨hc, _, rfl, int_succ hc (by rw [maxLen_eq]; omega), ?_⟩
      rw [take_succ_get ha, List.map_append]
      exact hb'
    · rw [List.take_of_length_le hc] at hb
      exact ⟨_, rfl, hb⟩
  simp only [go_sem, simprocAttr, ↓reduceIte, h3, hb.ok, hb.un]
  exact ⟨hb.weak.trans (.sub (clauses_single l)), hb.ext⟩
theorem r4_singles (l : List Atom) (hl : l.length ≤ 1048576) : PureFn prog W0 35 [atomsAV l] (clausesAV (single l)) := by
  refine fn_pure [2] [5] func35 rfl rfl ntmps35 rfl rfl (ids_clauses _) fun hs σ => ?_
  simp only [go_sem, simprocAttr, ↓reduceIte, atomsAV]
  refine LoopVC.at [6, 7] (.of (by kernel_rfl)) (fun A => ∃ v, A.env 3 = v ∧ Built σ A.st v 49 (l.map clause1)) ?_ fun B ⟨v, h3, hb⟩ => ?_
  · refine LoopVC.upto [6, 7] (.of (by kernel_rfl)) l.length (fun i A => ∃ v, A.env 3 = v ∧ A.env 8 = .int .i64 i ∧ Built σ A.st v 49 ((l.take i).map clause1)) 0 (Nat.zero_le _) ?_ fun i B hi ⟨v, h3, h8, hb⟩ => ?_
    · simp only [go_sem, simprocAttr, ↓reduceIte]
      exact ⟨_, rfl, Built.nil (.refl _) _⟩
    simp only [go_sem, simprocAttr, ↓reduceIte, h3, h8, hb.ok, hb.un, List.length_map]
    refine ⟨fun hc => ⟨hc, ?_⟩, fun hc => ?_⟩
    · obtain ⟨a, ha⟩ := get_some hc
      simp only [atV_map ha]
      simp only [go_sem, simprocAttr, ↓reduceIte, atomAV, h3, h8, hb.ok, hb.un]
      refine AppA.own 1048576 (by kernel_rfl) (hb.more _).bld (.lit _ _ _) (by simp; omega) fun v' σ' ha' => ?_
      have hb' := (hb.more _).app ha'
      simp only [go_sem, simprocAttr, ↓reduceIte, h3, h8, hb.ok, hb.un, hb'.ok, hb'.un]
      refine ⟨hc, _, rfl, int_succ hc (by rw [maxLen_eq]; omega), ?_⟩
      rw [take_succ_get ha, List.map_append]
      exact hb'
    · rw [List.take_of_length_le hc] at hb
      exact ⟨_, rfl, hb⟩
  simp only [go_sem, simprocAttr, ↓reduceIte, h3, hb.ok, hb.un]
  exact ⟨hb.weak.trans (.sub (clauses_single l)), hb.ext⟩

theorem atoms_map (l : List Atom) : Sub (.sl 48 (l.map atomAV)) (atomsAV l) := .refl _
theorem re_provided (l : List Prov) (hl : l.length ≤ 1048576) : PureFn prog W0 93 [provsAV l] (clausesAV (single (l.map provAtom))) := by
  refine fn_pure [2] [5] func93 rfl rfl ntmps93 rfl rfl (ids_clauses _) fun hs σ => ?_
  simp only [go_sem, simprocAttr, ↓reduceIte, provsAV]
  refine LoopVC.at [7, 8] (.of (by kernel_rfl)) (fun A => ∃ v, A.env 3 = v ∧ Built σ A.st v 49 (l.map fun p => clause1 (provAtom p))) ?_ fun B ⟨v, h3, hb⟩ => ?_
  · refine LoopVC.upto [7, 8] (.of (by kernel_rfl)) l.length (fun i A => ∃ v, A.env 3 = v ∧ A.env 9 = .int .i64 i ∧ Built σ A.st v 49 ((l.take i).map fun p => clause1 (provAtom p))) 0 (Nat.zero_le _) ?_ fun i B hi ⟨v, h3, h8, hb⟩ => ?_
    · simp only [go_sem, simprocAttr, ↓reduceIte]
      exact ⟨_, rfl, Built.nil (.refl _) _⟩
    simp only [go_sem, simprocAttr, ↓reduceIte, h3, h8, hb.ok, hb.un, List.length_map]
    refine ⟨fun hc => ⟨hc, ?_⟩, fun hc => ?_⟩
    · obtain ⟨a, ha⟩ := get_some hc
      simp only [atV_map ha]
      simp only [go_sem, simprocAttr, ↓reduceIte, provAV, h3, h8, hb.ok, hb.un]
      refine JoinVC.at [3, 6, 7, 8, 9] (by kernel_rfl) (fun A => A.st = B.st ++ [none, some (.cells 48 [atomAV (provAtom a)])]) (fun h => ?_) (fun h => ?_) fun A hst => ?_
      · simp only [go_sem, simprocAttr, ↓reduceIte, atomAV, provAtom]
        simp only [Bool.not_eq_true', beq_eq_false_iff_ne] at h
        rw [if_neg h]
      · simp only [go_sem, simprocAttr, ↓reduceIte, atomAV, provAtom]
        simp only [Bool.not_eq_false', beq_iff_eq] at h
        rw [if_pos h]
      have hb2 : Built σ A.st v 49 ((l.take i).map fun p => clause1 (provAtom p)) := by rw [hst]; exact hb.more _
      simp only [go_sem, simprocAttr, ↓reduceIte, h3, h8, hst, hb.ok, hb.un, atomAV]
      refine AppA.own 1048576 (by kernel_rfl) hb2.bld (.lit _ _ _) (by simp; omega) fun v' σ' ha' => ?_
      have hb' := hb2.app ha'
      simp only [go_sem, simprocAttr, ↓reduceIte, h3, h8, hb.ok, hb.un, hb'.ok, hb'.un]
      refine ⟨hc, _, rfl, int_succ hc (by rw [maxLen_eq]; omega), ?_⟩
      rw [take_succ_get ha, List.map_append]
      exact hb'
    · rw [List.take_of_length_le hc] at hb
      exact ⟨_, rfl, hb⟩
  simp only [go_sem, simprocAttr, ↓reduceIte, h3, hb.ok, hb.un]
  refine ⟨hb.weak.trans (.sub ?_), hb.ext⟩
  have := clauses_single (l.map provAtom)
  rw [List.map_map] at this
  exact this
theorem r4_provided (l : List Prov) (hl : l.length ≤ 1048576) : PureFn prog W0 37 [provsAV l] (atomsAV (l.map provAtom)) := by
  refine fn_pure [2] [5] func37 rfl rfl ntmps37 rfl rfl (ids_atoms _) fun hs σ => ?_
  simp only [go_sem, simprocAttr, ↓reduceIte, provsAV]
  refine LoopVC.at [7, 8] (.of (by kernel_rfl)) (fun A => ∃ v, A.env 3 = v ∧ Built σ A.st v 48 (l.map fun p => atomAV (provAtom p))) ?_ fun B ⟨v, h3, hb⟩ => ?_
  · refine LoopVC.upto [7, 8] (.of (by kernel_rfl)) l.length (fun i A => ∃ v, A.env 3 = v ∧ A.env 9 = .int .i64 i ∧ Built σ A.st v 48 ((l.take i).map fun p => atomAV (provAtom p))) 0 (Nat.zero_le _) ?_ fun i B hi ⟨v, h3, h8, hb⟩ => ?_
    · simp only [go_sem, simprocAttr, ↓reduceIte]
      exact ⟨_, rfl, Built.nil (.refl _) _⟩
    simp only [go_sem, simprocAttr, ↓reduceIte, h3, h8, hb.ok, hb.un, List.length_map]
    refine ⟨fun hc => ⟨hc, ?_⟩, fun hc => ?_⟩
    · obtain ⟨a, ha⟩ := get_some hc
      simp only [atV_map ha]
      simp only [go_sem, simprocAttr, ↓reduceIte, provAV, h3, h8, hb.ok, hb.un]
      refine JoinVC.at [3, 6, 7, 8, 9] (by kernel_rfl) (fun A => A.st = B.st ++ [none, some (.cells 48 [atomAV (provAtom a)])]) (fun h => ?_) (fun h => ?_) fun A hst => ?_
      · simp only [go_sem, simprocAttr, ↓reduceIte, atomAV, provAtom]
        simp only [Bool.not_eq_true', beq_eq_false_iff_ne] at h
        rw [if_neg h]
      · simp only [go_sem, simprocAttr, ↓reduceIte, atomAV, provAtom]
        simp only [Bool.not_eq_false', beq_iff_eq] at h
        rw [if_pos h]
      have hb2 : Built σ A.st v 48 ((l.take i).map fun p => atomAV (provAtom p)) := by rw [hst]; exact hb.more _
      simp only [go_sem, simprocAttr, ↓reduceIte, h3, h8, hst, hb.ok, hb.un, atomAV]
      refine AppA.own 1048576 (by kernel_rfl) hb2.bld (.lit _ _ _) (by simp; omega) fun v' σ' ha' => ?_
      have hb' := hb2.app ha'
      simp only [go_sem, simprocAttr, ↓reduceIte, h3, h8, hb.ok, hb.un, hb'.ok, hb'.un]
      refine ⟨hc, _, rfl, int_succ hc (by rw [maxLen_eq]; omega), ?_⟩
      rw [take_succ_get ha, List.map_append]
      exact hb'
    · rw [List.take_of_length_le hc] at hb
      exact ⟨_, rfl, hb⟩
  simp only [go_sem, simprocAttr, ↓reduceIte, h3, hb.ok, hb.un]
  refine ⟨hb.weak.trans (.sub ?_), hb.ext⟩
  have := atoms_map (l.map provAtom)
  rw [List.map_map] at this
  exact this


theorem lenN {α : Type} (l : List α) (n : Nat) : (((n : Nat) : Int) < (l.length : Int)) ↔ n < l.length := by omega
theorem re_long (c : Clause) : PureFn prog W0 130 [atomsAV c] (.bool (decide (6 < c.length))) := by
  refine fn_pure [2] [] func130 rfl rfl ntmps130 rfl rfl (.bool _) fun hs σ => ?_
  simp only [go_sem, simprocAttr, ↓reduceIte, atomsAV, List.length_map]
  exact weak_bool (decide_eq_decide.2 (lenN c 6))
theorem re_wrong (a : Atom) : PureFn prog W0 131 [atomAV a] (.bool (!mayAtom a)) := by
  refine fn_pure [2] [1] func131 rfl rfl ntmps131 rfl rfl (.bool _) fun hs σ => ?_
  simp only [go_sem, simprocAttr, ↓reduceIte, atomAV]
  refine CallA.fn (rl_mayAtom a) ?_
  simp only [go_sem, simprocAttr, ↓reduceIte]
  done

theorem re_mayCl (l : List Clause) : PureFn prog W0 94 [clausesAV l] (.int .i64 (mayCl l)) := by
  refine fn_pure [2] [] func94 rfl rfl ntmps94 rfl rfl (.int _ _) fun hs σ => ?_
  have hl := (small_map (hs _ (List.mem_cons_self ..))).1
  simp only [go_sem, simprocAttr, ↓reduceIte, clausesAV, List.length_map]
  refine CallP.fnG (fun _ => anClause atomsAV NotM.atoms l (fun c => decide (6 < c.length)) _ [] (fun a _ => re_long a)) ?_
  simp only [go_sem, simprocAttr, ↓reduceIte]
  have e : (decide ((12 : Int) < l.length) || l.any fun c => decide (6 < c.length)) = decide (12 < l.length ∨ (l.any fun c => decide (6 < c.length)) = true) := by
    rw [Bool.decide_or, Bool.decide_eq_true]; congr 1; exact decide_eq_decide.2 (lenN l 12)
  rw [e]
  refine ⟨fun h => weak_int (by rw [mayCl, if_pos (of_decide_eq_true h)]), fun h => ?_⟩
  have hm : mayCl l = if l.any (fun c => decide (c.length = 0) || c.any fun a => !mayAtom a) = true then 3 else 0 := by rw [mayCl, if_neg (of_decide_eq_false h)]
  refine LoopVC.upto [12, 13] (.of (by kernel_rfl)) l.length (fun i A => A.env 14 = .int .i64 i ∧ A.st = σ ∧ ∀ c ∈ l.take i, (decide (c.length = 0) || c.any fun a => !mayAtom a) = false) 0 (Nat.zero_le _) ?_ fun i B hi ⟨h8, hst, hI⟩ => ?_
  · simp only [go_sem, simprocAttr, ↓reduceIte]
    simp
  simp only [go_sem, simprocAttr, ↓reduceIte, h8, hst, List.length_map]
  refine ⟨fun hc => ⟨hc, ?_⟩, fun hc => ?_⟩
  · obtain ⟨a, ha⟩ := get_some hc
    simp only [atV_map ha]
    simp only [go_sem, simprocAttr, ↓reduceIte, atomsAV, h8, hst, List.length_map]
    refine CallP.fnG (fun _ => anAtomC atomAV NotM.atom a (fun c => !mayAtom c) _ [] (fun a _ => re_wrong a)) ?_
    simp only [go_sem, simprocAttr, ↓reduceIte, h8, hst]
    have e : ((a.length : Int) == 0) = decide (a.length = 0) := by rw [Bool.eq_iff_iff]; simp
    simp only [e]
    refine ⟨fun hb => weak_int ?_, fun hb => ⟨hc, int_succ hc hl, ?_⟩⟩
    · rw [hm, if_pos (any_true ha hb)]
    · rw [take_succ_get ha]
      intro c hcm
      rcases List.mem_append.1 hcm with hcm | hcm
      · exact hI c hcm
      · rw [List.mem_singleton.1 hcm]; exact hb
  · refine weak_int ?_
    rw [List.take_of_length_le hc] at hI
    rw [hm, if_neg]
    intro h
    obtain ⟨c, hc1, hc2⟩ := List.any_eq_true.1 h
    rw [hI c hc1] at hc2
    cases hc2
end Go.Proofs.Tryz
end
section
namespace Go.Proofs.Tryz
open Go Go.Av
set_option maxRecDepth 10000
set_option linter.unusedSimpArgs false
set_option linter.unusedVariables false
variable {W0 : World}

theorem r9_mayCl (l : List Clause) : PureFn prog W0 39 [clausesAV l] (.int .i64 (mayCl l)) := by
  refine fn_pure [2] [8] func39 rfl rfl ntmps39 rfl rfl (.int _ _) fun hs σ => ?_
  have hl := (small_map (hs _ (List.mem_cons_self ..))).1
  have hls := (small_map (hs _ (List.mem_cons_self ..))).2
  simp only [go_sem, simprocAttr, ↓reduceIte, clausesAV, List.length_map]
  refine ⟨fun h => weak_int (by rw [mayCl, if_pos (.inl ((lenN l 12).1 (by simpa using h)))]), fun h => ?_⟩
  have h12 : ¬ 12 < l.length := fun e => by have := (lenN l 12).2 e; omega
  refine LoopVC.at [0] (.of (by kernel_rfl)) (fun A => A.st = σ ∧ (l.any fun c => decide (6 < c.length)) = false) ?_ fun B ⟨hst, h6⟩ => ?_
  · refine LoopVC.upto [0, 12, 13] (.of (by kernel_rfl)) l.length (fun i A => A.env 14 = .int .i64 i ∧ A.st = σ ∧ ∀ c ∈ l.take i, c.length ≤ 6) 0 (Nat.zero_le _) ?_ fun i B hi ⟨h8, hst, hI⟩ => ?_
    · simp only [go_sem, simprocAttr, ↓reduceIte]
      simp
    simp only [go_sem, simprocAttr, ↓reduceIte, h8, hst, List.length_map]
    refine ⟨fun hc => ⟨hc, ?_⟩, fun hc => ?_⟩
    · obtain ⟨a, ha⟩ := get_some hc
      simp only [atV_map ha]
      simp only [go_sem, simprocAttr, ↓reduceIte, atomsAV, h8, hst, List.length_map]
      refine ⟨fun hb => weak_int ?_, fun hb => ⟨hc, int_succ hc hl, ?_⟩⟩
      · rw [mayCl, if_pos (.inr (any_true ha (decide_eq_true ((lenN a 6).1 (by simpa using hb)))))]
      · rw [take_succ_get ha]
        intro c hcm
        rcases List.mem_append.1 hcm with hcm | hcm
        · exact hI c hcm
        · rw [List.mem_singleton.1 hcm]; omega
    · rw [List.take_of_length_le hc] at hI
      rw [List.any_eq_false]
      exact fun c hcm => by have := hI c hcm; simp; omega
  have hm : mayCl l = if l.any (fun c => decide (c.length = 0) || c.any fun a => !mayAtom a) = true then 3 else 0 := by rw [mayCl, if_neg (by rw [h6]; simp; omega)]
  simp only [go_sem, simprocAttr, ↓reduceIte, hst]
  refine LoopVC.upto [22, 23] (.of (by kernel_rfl)) l.length (fun i A => A.env 24 = .int .i64 i ∧ Ext σ A.st ∧ ∀ c ∈ l.take i, (decide (c.length = 0) || c.any fun a => !mayAtom a) = false) 0 (Nat.zero_le _) ?_ fun i B hi ⟨h8, hst, hI⟩ => ?_
  · simp only [go_sem, simprocAttr, ↓reduceIte]
    simp [hst, Ext.refl]
  simp only [go_sem, simprocAttr, ↓reduceIte, h8, List.length_map]
  refine ⟨fun hc => ⟨hc, ?_⟩, fun hc => ⟨weak_int ?_, hst⟩⟩
  · obtain ⟨c, hcc⟩ := get_some hc
    simp only [atV_map hcc]
    have hcl : c.length ≤ maxLen := (small_map (hls c (List.mem_of_getElem? hcc))).1
    simp only [go_sem, simprocAttr, ↓reduceIte, atomsAV, h8, List.length_map]
    refine ⟨fun h0 => ⟨weak_int ?_, hst⟩, fun h0 => ?_⟩
    · have : c.length = 0 := by omega
      rw [hm, if_pos (any_true hcc (by simp [this]))]
    refine LoopVC.ats [22, 23, 24] (.of (by kernel_rfl)) (fun A => Ext σ A.st ∧ (c.any fun a => !mayAtom a) = false) ?_ fun B ⟨hst, h6⟩ => ?_
    · refine LoopVC.upto [22, 23, 24, 31, 32] (.of (by kernel_rfl)) c.length (fun i A => A.env 33 = .int .i64 i ∧ Ext σ A.st ∧ ∀ a ∈ c.take i, mayAtom a = true) 0 (Nat.zero_le _) ?_ fun j B hj ⟨h33, hst, hJ⟩ => ?_
      · simp only [go_sem, simprocAttr, ↓reduceIte]
        simp [hst]
      simp only [go_sem, simprocAttr, ↓reduceIte, h33, List.length_map]
      refine ⟨fun hc' => ⟨hc', ?_⟩, fun hc' => ?_⟩
      · obtain ⟨a, ha⟩ := get_some hc'
        simp only [atV_map ha]
        simp only [go_sem, simprocAttr, ↓reduceIte, atomAV, h33]
        refine CallA.fn (r4_mayAtom a) ?_
        simp only [go_sem, simprocAttr, ↓reduceIte, h33]
        refine ⟨fun hb => ⟨weak_int ?_, hst.app _⟩, fun hb => ⟨hc', int_succ hc' hcl, hst.app _, ?_⟩⟩
        · rw [hm, if_pos (any_true hcc (by rw [any_true ha (by rw [hb]; rfl), Bool.or_true]))]
        · rw [take_succ_get ha]
          intro x hxm
          rcases List.mem_append.1 hxm with hxm | hxm
          · exact hJ x hxm
          · rw [List.mem_singleton.1 hxm]; exact hb
      · rw [List.take_of_length_le hc'] at hJ
        refine ⟨hst, ?_⟩
        rw [List.any_eq_false]
        exact fun x hxm => by rw [hJ x hxm]; simp
    simp only [go_sem, simprocAttr, ↓reduceIte, h8]
    refine ⟨hc, int_succ hc hl, hst, ?_⟩
    rw [take_succ_get hcc]
    intro x hxm
    rcases List.mem_append.1 hxm with hxm | hxm
    · exact hI x hxm
    · rw [List.mem_singleton.1 hxm, h6, Bool.or_false]; exact decide_eq_false (by omega)
  · rw [List.take_of_length_le hc] at hI
    rw [hm, if_neg]
    intro h
    obtain ⟨c, hc1, hc2⟩ := List.any_eq_true.1 h
    rw [hI c hc1] at hc2
    cases hc2


theorem getD_map {α : Type} {f : α → AV} {l : List α} {i : Nat} {a : α} {d : AV} (h : l[i]? = some a) : (l.map f)[i]?.getD d = f a := by
  rw [List.getElem?_map, h]; rfl
theorem r9_cut (l : List Atom) : PureFn prog W0 36 [.sl 48 (l.map atomAV)] (.sl 48 ((l.take 13).map atomAV)) := by
  refine fn_pure [2] [] func36 rfl rfl ntmps36 rfl rfl (ids_map ids_atom _) fun hs σ => ?_
  have e : minI (l.length : Int) 13 = ((min l.length 13 : Nat) : Int) := by unfold minI; split <;> omega
  simp only [go_sem, simprocAttr, ↓reduceIte, List.length_map, e]
  refine ⟨by omega, ?_⟩
  rw [← List.map_take, List.take_eq_take_iff.2 (show min (min l.length 13) l.length = min 13 l.length by omega)]
  exact .refl _
theorem r9_cutProv (l : List Prov) : PureFn prog W0 38 [.sl 105 (l.map provAV)] (.sl 105 ((l.take 13).map provAV)) := by
  refine fn_pure [2] [] func38 rfl rfl ntmps38 rfl rfl (ids_map ids_prov _) fun hs σ => ?_
  have e : minI (l.length : Int) 13 = ((min l.length 13 : Nat) : Int) := by unfold minI; split <;> omega
  simp only [go_sem, simprocAttr, ↓reduceIte, List.length_map, e]
  refine ⟨by omega, ?_⟩
  rw [← List.map_take, List.take_eq_take_iff.2 (show min (min l.length 13) l.length = min 13 l.length by omega)]
  exact .refl _
theorem mayCl_cut (l : List Atom) : mayCl (single (l.take 13)) = mayCl (single l) := by
  rcases Nat.lt_or_ge 12 l.length with h | h
  · rw [mayCl, mayCl, if_pos (.inl (by simp [single]; omega)), if_pos (.inl (by simpa [single] using h))]
  · rw [List.take_of_length_le (by omega)]


theorem r9_may (p : Pkg) : PureFn prog W0 19 [pkgAV p] (.int .i64 (mayPkg p)) := by
  refine fn_pure [2] [1] func19 rfl rfl ntmps19 rfl rfl (.int _ _) fun hs σ => ?_
  simp only [go_sem, simprocAttr, ↓reduceIte, pkgAV]
  refine CallA.fn (r4_name p.name) ?_
  simp only [go_sem, simprocAttr, ↓reduceIte, pkgAV]
  refine CallP.fnG (fun _ => r4_is p.ver) ?_
  simp only [go_sem, simprocAttr, ↓reduceIte, pkgAV]
  refine ⟨fun h => weak_int (by rw [mayPkg, if_pos h]), fun h => ?_⟩
  have hm : mayPkg p = orL [mayCl p.pre, mayCl p.dep, mayCl p.rcm, mayCl (single p.con), mayCl (single p.brk), mayCl (single (p.prov.map provAtom))] := by rw [mayPkg, if_neg (by rw [h]; simp)]
  refine ⟨.of (by kernel_rfl), CallP.fn (r9_cut p.con) ?_⟩
  simp only [go_sem, simprocAttr, ↓reduceIte]
  refine CallP.fn (r4_singles (p.con.take 13) (by rw [List.length_take]; omega)) ?_
  simp only [go_sem, simprocAttr, ↓reduceIte]
  refine CallP.fn (r9_cut p.brk) ?_
  simp only [go_sem, simprocAttr, ↓reduceIte]
  refine CallP.fn (r4_singles (p.brk.take 13) (by rw [List.length_take]; omega)) ?_
  simp only [go_sem, simprocAttr, ↓reduceIte]
  refine CallP.fn (r9_cutProv p.prov) ?_
  simp only [go_sem, simprocAttr, ↓reduceIte]
  refine CallP.fn (r4_provided (p.prov.take 13) (by rw [List.length_take]; omega)) ?_
  simp only [go_sem, simprocAttr, ↓reduceIte]
  refine CallP.fn (r4_singles ((p.prov.take 13).map provAtom) (by rw [List.length_map, List.length_take]; omega)) ?_
  simp only [go_sem, simprocAttr, ↓reduceIte]
  let ls := [p.pre, p.dep, p.rcm, single (p.con.take 13), single (p.brk.take 13), single ((p.prov.take 13).map provAtom)]
  have hl : orL (ls.map mayCl) = mayPkg p := by
    rw [hm]
    simp only [ls, List.map_cons, List.map_nil, mayCl_cut, List.map_take]
  have e : [clausesAV p.pre, clausesAV p.dep, clausesAV p.rcm, clausesAV (single (p.con.take 13)), clausesAV (single (p.brk.take 13)), clausesAV (single ((p.prov.take 13).map provAtom))] = ls.map clausesAV := rfl
  simp only [e]
  refine LoopVC.upto [35] (.of (by kernel_rfl)) 6 (fun i A => A.env 36 = .int .i64 i ∧ A.st = σ ∧ orL ((ls.map mayCl).drop i) = mayPkg p) 0 (Nat.zero_le _) ?_ fun i B hi ⟨h8, hst, hI⟩ => ?_
  · simp only [go_sem, simprocAttr, ↓reduceIte]
    exact hl
  simp only [go_sem, simprocAttr, ↓reduceIte, h8, hst]
  refine ⟨fun hc => ?_, fun hc => weak_int ?_⟩
  · have hc' : i < ls.length := by show i < 6; omega
    obtain ⟨c, hcc⟩ := get_some hc'
    obtain ⟨hlt, hae⟩ := List.getElem?_eq_some_iff.1 hcc
    rw [List.drop_eq_getElem_cons (by simpa using hc'), List.getElem_map, hae] at hI
    simp only [getD_map hcc]
    refine ⟨by simpa using hc', trivial, CallA.fn (r9_mayCl c) ?_⟩
    simp only [go_sem, simprocAttr, ↓reduceIte, h8, hst]
    refine ⟨fun hq => weak_int (by rw [← hI, orL, if_pos hq]), fun hq => ⟨by omega, int_succ (show i < 6 by omega) (by rw [maxLen_eq]; omega), ?_⟩⟩
    rw [← hI, orL, if_neg (by simpa using hq)]
  · rw [List.drop_eq_nil_of_le (by show 6 ≤ i; omega)] at hI
    exact hI

/-- Lists that are small enough to be copied. -/
structure MayN (p : Pkg) : Prop where
  con : p.con.length ≤ 1048576
  brk : p.brk.length ≤ 1048576
  prov : p.prov.length ≤ 1048576

theorem re_may (p : Pkg) (hp : MayN p) : PureFn prog W0 65 [pkgAV p] (.int .i64 (mayPkg p)) := by
  refine fn_pure [2] [1] func65 rfl rfl ntmps65 rfl rfl (.int _ _) fun hs σ => ?_
  simp only [go_sem, simprocAttr, ↓reduceIte, pkgAV]
  refine CallA.fn (ve_parse p.ver) ?_
  have hpv : ∃ e u r, verPAV (verP p.ver) = .tup [.str e, .str u, .str r, .int .i64 (if isVer p.ver then 0 else 3)] := by
    cases h : verP p.ver with
    | none => exact ⟨_, _, _, by rw [isVer, h]; rfl⟩
    | some v => exact ⟨_, _, _, by rw [isVer, h]; rfl⟩
  obtain ⟨e, u, r, hpv⟩ := hpv
  rw [hpv]
  simp only [go_sem, simprocAttr, ↓reduceIte, pkgAV]
  refine CallA.fn (tx_name p.name) ?_
  simp only [go_sem, simprocAttr, ↓reduceIte, pkgAV]
  have hb : (!nameOk p.name || (if isVer p.ver = true then (0 : Int) else 3) != 0) = (!nameOk p.name || !isVer p.ver) := by cases isVer p.ver <;> rfl
  simp only [hb]
  refine ⟨fun h => weak_int (by rw [mayPkg, if_pos h]), fun h => ?_⟩
  have hm : mayPkg p = orL [mayCl p.pre, mayCl p.dep, mayCl p.rcm, mayCl (single p.con), mayCl (single p.brk), mayCl (single (p.prov.map provAtom))] := by rw [mayPkg, if_neg (by rw [h]; simp)]
  refine ⟨.of (by kernel_rfl), CallP.fn (re_singles p.con hp.con) ?_⟩
  simp only [go_sem, simprocAttr, ↓reduceIte]
  refine CallP.fn (re_singles p.brk hp.brk) ?_
  simp only [go_sem, simprocAttr, ↓reduceIte]
  refine CallP.fn (re_provided p.prov hp.prov) ?_
  simp only [go_sem, simprocAttr, ↓reduceIte]
  let ls := [p.pre, p.dep, p.rcm, single p.con, single p.brk, single (p.prov.map provAtom)]
  have hl : orL (ls.map mayCl) = mayPkg p := by
    rw [hm]
    simp only [ls, List.map_cons, List.map_nil]
  have e : [clausesAV p.pre, clausesAV p.dep, clausesAV p.rcm, clausesAV (single p.con), clausesAV (single p.brk), clausesAV (single (p.prov.map provAtom))] = ls.map clausesAV := rfl
  simp only [e]
  refine LoopVC.upto [41, 42] (.of (by kernel_rfl)) 6 (fun i A => A.env 43 = .int .i64 i ∧ A.st = σ ∧ orL ((ls.map mayCl).drop i) = mayPkg p) 0 (Nat.zero_le _) ?_ fun i B hi ⟨h8, hst, hI⟩ => ?_
  · simp only [go_sem, simprocAttr, ↓reduceIte]
    exact hl
  simp only [go_sem, simprocAttr, ↓reduceIte, h8, hst]
  refine ⟨fun hc => ?_, fun hc => weak_int ?_⟩
  · have hc' : i < ls.length := by show i < 6; omega
    obtain ⟨c, hcc⟩ := get_some hc'
    obtain ⟨hlt, hae⟩ := List.getElem?_eq_some_iff.1 hcc
    rw [List.drop_eq_getElem_cons (by simpa using hc'), List.getElem_map, hae] at hI
    simp only [atV_map hcc]
    refine ⟨by simpa using hc', trivial, CallA.fn (re_mayCl c) ?_⟩
    simp only [go_sem, simprocAttr, ↓reduceIte, h8, hst]
    refine ⟨fun hq => weak_int (by rw [← hI, orL, if_pos hq]), fun hq => ⟨by omega, int_succ (show i < 6 by omega) (by rw [maxLen_eq]; omega), ?_⟩⟩
    rw [← hI, orL, if_neg (by simpa using hq)]
  · rw [List.drop_eq_nil_of_le (by show 6 ≤ i; omega)] at hI
    exact hI

theorem re_same (p q : Pkg) : PureFn prog W0 67 [pkgAV q, .loc 38 (pkgAV p)] (.bool (sameNV p q)) := by
  refine fn_pure [3] [2] func67 rfl rfl ntmps67 rfl rfl (.bool _) fun hs σ => ?_
  simp only [go_sem, simprocAttr, ↓reduceIte, pkgAV]
  refine CallP.fnG (fun _ => ve_same q.ver p.ver) ?_
  simp only [go_sem, simprocAttr, ↓reduceIte]
  exact weak_bool rfl

theorem NotM.pkg (p : Pkg) : NotM (pkgAV p) := trivial
@[go_sem] theorem okM_pkgAV (g : Option Bool) (p : Pkg) : okM g (pkgAV p) = True := eq_true trivial
@[go_sem] theorem unm_pkgAV (p : Pkg) : unm (pkgAV p) = pkgAV p := rfl

theorem re_mayAll (l : List Pkg) (hp : ∀ p ∈ l, MayN p) : PureFn prog W0 42 [pkgsAV l] (.int .i64 (mayAll l)) := by
  refine fn_pure [2] [4, 8] func42 rfl rfl ntmps42 rfl rfl (.int _ _) fun hs σ => ?_
  have hl := (small_map (hs _ (List.mem_cons_self ..))).1
  simp only [go_sem, simprocAttr, ↓reduceIte, pkgsAV, List.length_map]
  refine ⟨fun h => weak_int (by rw [mayAll, if_pos ((lenN l 24).1 (by simpa using h))]), fun h => ?_⟩
  have h24 : ¬ 24 < l.length := fun e => by have := (lenN l 24).2 e; omega
  refine LoopVC.at [0] (.of (by kernel_rfl)) (fun A => Ext σ A.st ∧ orL (l.map mayPkg) = 0) ?_ fun B ⟨hst, h6⟩ => ?_
  · refine LoopVC.upto [0, 12, 13] (.of (by kernel_rfl)) l.length (fun i A => A.env 14 = .int .i64 i ∧ Ext σ A.st ∧ orL ((l.map mayPkg).drop i) = orL (l.map mayPkg)) 0 (Nat.zero_le _) ?_ fun i B hi ⟨h8, hst, hI⟩ => ?_
    · simp only [go_sem, simprocAttr, ↓reduceIte]
      simp [Ext.refl]
    simp only [go_sem, simprocAttr, ↓reduceIte, h8, List.length_map]
    refine ⟨fun hc => ⟨hc, ?_⟩, fun hc => ?_⟩
    · obtain ⟨a, ha⟩ := get_some hc
      obtain ⟨hlt, hae⟩ := List.getElem?_eq_some_iff.1 ha
      rw [List.drop_eq_getElem_cons (by simpa using hc), List.getElem_map, hae] at hI
      simp only [atV_map ha]
      simp only [go_sem, simprocAttr, ↓reduceIte, h8, List.length_map]
      refine ⟨by kernel_rfl, CallA.fn (re_may a (hp a (List.mem_of_getElem? ha))) ?_⟩
      simp only [go_sem, simprocAttr, ↓reduceIte, h8]
      refine ⟨fun hq => ⟨weak_int ?_, hst.app _⟩, fun hq => ⟨hc, int_succ hc hl, hst.app _, ?_⟩⟩
      · rw [orL, if_pos hq] at hI
        rw [mayAll, if_neg h24, if_pos (by rw [← hI]; exact hq), hI]
      · rw [← hI, orL, if_neg (by simpa using hq)]
    · rw [List.drop_eq_nil_of_le (by simpa using hc)] at hI
      exact ⟨hst, hI.symm⟩
  have hm : mayAll l = if dupL [] l = true then 4 else if 10 < (namesL l []).length then 12 else 0 := by rw [mayAll, if_neg h24, if_neg (by simp [h6])]
  simp only [go_sem, simprocAttr, ↓reduceIte, List.length_map]
  refine LoopVC.at [0, 24, 25] (.of (by kernel_rfl)) (fun A => ∃ v, A.env 6 = v ∧ Built σ A.st v 9 ((namesL l []).map .str) ∧ dupL [] l = false) ?_ fun B ⟨v, h6, hb, hd⟩ => ?_
  · refine LoopVC.upto [0, 24, 25] (.of (by kernel_rfl)) l.length (fun i A => ∃ v acc, A.env 6 = v ∧ A.env 26 = .int .i64 i ∧ Built σ A.st v 9 (acc.map .str) ∧ namesL (l.drop i) acc = namesL l [] ∧ dupL (l.take i) (l.drop i) = dupL [] l ∧ acc.length ≤ i) 0 (Nat.zero_le _) ?_ fun i B hi ⟨v, acc, h6, h8, hb, hn, hd, hal⟩ => ?_
    · simp only [go_sem, simprocAttr, ↓reduceIte]
      exact ⟨_, [], rfl, Built.nil hst _, by simp⟩
    simp only [go_sem, simprocAttr, ↓reduceIte, h6, h8, hb.ok, hb.un, List.length_map]
    refine ⟨fun hc => ⟨hc, ?_⟩, fun hc => ?_⟩
    · obtain ⟨a, ha⟩ := get_some hc
      obtain ⟨hlt, hae⟩ := List.getElem?_eq_some_iff.1 ha
      rw [List.drop_eq_getElem_cons hc, hae] at hn hd
      simp only [atV_map ha]
      simp only [go_sem, simprocAttr, ↓reduceIte, h6, h8, hb.ok, hb.un, List.length_map]
      rw [← List.map_take]
      refine ⟨by kernel_rfl, ⟨Nat.zero_le _, hi⟩, CallA.fn (anPkg pkgAV NotM.pkg (l.take i) (sameNV a) _ [.loc 38 (pkgAV a)] (fun q _ => re_same a q)) ?_⟩
      simp only [go_sem, simprocAttr, ↓reduceIte, pkgAV, h6, h8, hb.ok, hb.un]
      rw [dupL] at hd
      refine ⟨fun hq => ⟨weak_int ?_, hb.ext.app _⟩, fun hq => CallA.fn ((an_str acc a.name).weak (.cons hb.weak (.cons (.refl _) .nil))) ?_⟩
      · rw [hm, ← hd, hq, if_pos (by simp)]
      rw [hq, Bool.false_or, ← take_succ_get ha] at hd
      simp only [go_sem, simprocAttr, ↓reduceIte, pkgAV, h6, h8, hb.ok, hb.un]
      rw [namesL] at hn
      have hb2 := (hb.more [none])
      refine ⟨fun h => ?_, fun h => ⟨hc, v, acc, rfl, int_succ hc hl, hb2, ?_, hd, by omega⟩⟩
      · refine AppA.own 1048576 (by kernel_rfl) hb2.bld (.lit _ _ _) (by simp; omega) fun v' σ' ha' => ?_
        have hb' := hb2.app ha'
        simp only [go_sem, simprocAttr, ↓reduceIte, h6, h8, hb'.ok, hb'.un]
        refine ⟨hc, _, acc ++ [a.name], rfl, int_succ hc hl, by simpa using hb', ?_, hd, by simp; omega⟩
        rw [if_neg (by simp [h])] at hn
        exact hn
      · rw [if_pos h] at hn
        exact hn
    · rw [List.drop_eq_nil_of_le hc] at hn hd
      exact ⟨_, rfl, by rw [← hn]; exact hb, hd.symm⟩
  simp only [go_sem, simprocAttr, ↓reduceIte, h6, hb.ok, hb.un, hb.len, hb.lenC, List.length_map]
  refine ⟨fun hq => ⟨weak_int ?_, hb.ext⟩, fun hq => ⟨weak_int ?_, hb.ext⟩⟩
  · rw [hm, hd, if_neg (by simp), if_pos ((lenN _ 10).1 hq)]
  · rw [hm, hd, if_neg (by simp), if_neg (fun e => hq ((lenN _ 10).2 e))]
end Go.Proofs.Tryz
end
section
namespace Go.Proofs.Tryz
open Go Go.Av
set_option maxRecDepth 10000
set_option linter.unusedSimpArgs false
set_option linter.unusedVariables false
variable {W0 : World}

theorem r9_mayAll (l : List Pkg) : PureFn prog W0 11 [pkgsAV l] (.int .i64 (mayAll l)) := by
  refine fn_pure [2] [4, 8, 11] func11 rfl rfl ntmps11 rfl rfl (.int _ _) fun hs σ => ?_
  have hl := (small_map (hs _ (List.mem_cons_self ..))).1
  simp only [go_sem, simprocAttr, ↓reduceIte, pkgsAV, List.length_map]
  refine ⟨fun h => weak_int (by rw [mayAll, if_pos ((lenN l 24).1 (by simpa using h))]), fun h => ?_⟩
  have h24 : ¬ 24 < l.length := fun e => by have := (lenN l 24).2 e; omega
  refine LoopVC.at [0] (.of (by kernel_rfl)) (fun A => Ext σ A.st ∧ orL (l.map mayPkg) = 0) ?_ fun B ⟨hst, h6⟩ => ?_
  · refine LoopVC.upto [0, 15, 16] (.of (by kernel_rfl)) l.length (fun i A => A.env 17 = .int .i64 i ∧ Ext σ A.st ∧ orL ((l.map mayPkg).drop i) = orL (l.map mayPkg)) 0 (Nat.zero_le _) ?_ fun i B hi ⟨h8, hst, hI⟩ => ?_
    · simp only [go_sem, simprocAttr, ↓reduceIte]
      simp [Ext.refl]
    simp only [go_sem, simprocAttr, ↓reduceIte, h8, List.length_map]
    refine ⟨fun hc => ⟨hc, ?_⟩, fun hc => ?_⟩
    · obtain ⟨a, ha⟩ := get_some hc
      obtain ⟨hlt, hae⟩ := List.getElem?_eq_some_iff.1 ha
      rw [List.drop_eq_getElem_cons (by simpa using hc), List.getElem_map, hae] at hI
      simp only [atV_map ha]
      simp only [go_sem, simprocAttr, ↓reduceIte, h8, List.length_map]
      refine ⟨by kernel_rfl, CallA.fn (r9_may a) ?_⟩
      simp only [go_sem, simprocAttr, ↓reduceIte, h8]
      refine ⟨fun hq => ⟨weak_int ?_, hst.app _⟩, fun hq => ⟨hc, int_succ hc hl, hst.app _, ?_⟩⟩
      · rw [orL, if_pos hq] at hI
        rw [mayAll, if_neg h24, if_pos (by rw [← hI]; exact hq), hI]
      · rw [← hI, orL, if_neg (by simpa using hq)]
    · rw [List.drop_eq_nil_of_le (by simpa using hc)] at hI
      exact ⟨hst, hI.symm⟩
  have hm : mayAll l = if dupL [] l = true then 4 else if 10 < (namesL l []).length then 12 else 0 := by rw [mayAll, if_neg h24, if_neg (by simp [h6])]
  simp only [go_sem, simprocAttr, ↓reduceIte, List.length_map]
  refine LoopVC.at [0, 27, 28] (.of (by kernel_rfl)) (fun A => ∃ v, A.env 6 = v ∧ Built σ A.st v 9 ((namesL l []).map .str) ∧ dupL [] l = false) ?_ fun B ⟨v, h6, hb, hd⟩ => ?_
  · refine LoopVC.upto [0, 27, 28] (.of (by kernel_rfl)) l.length (fun i A => ∃ v acc, A.env 6 = v ∧ A.env 29 = .int .i64 i ∧ Built σ A.st v 9 (acc.map .str) ∧ namesL (l.drop i) acc = namesL l [] ∧ dupL (l.take i) (l.drop i) = dupL [] l ∧ acc.length ≤ i ∧ ∀ n, acc.any (fun x => n == x) = (l.take i).any (fun q => q.name == n)) 0 (Nat.zero_le _) ?_ fun i B hi ⟨v, acc, h6, h8, hb, hn, hd, hal, hnm⟩ => ?_
    · simp only [go_sem, simprocAttr, ↓reduceIte]
      exact ⟨_, [], rfl, Built.nil hst _, by simp⟩
    simp only [go_sem, simprocAttr, ↓reduceIte, h6, h8, hb.ok, hb.un, List.length_map]
    refine ⟨fun hc => ⟨hc, ?_⟩, fun hc => ?_⟩
    · obtain ⟨a, ha⟩ := get_some hc
      obtain ⟨hlt, hae⟩ := List.getElem?_eq_some_iff.1 ha
      rw [List.drop_eq_getElem_cons hc, hae] at hn hd
      simp only [atV_map ha]
      simp only [go_sem, simprocAttr, ↓reduceIte, h6, h8, hb.ok, hb.un, List.length_map]
      rw [← List.map_take]
      refine ⟨by kernel_rfl, ⟨Nat.zero_le _, hi⟩, ?_⟩
      rw [dupL] at hd
      rw [namesL] at hn
      have hb2 := (hb.more [none])
      have hil : (l.take i).length = i := by rw [List.length_take]; omega
      refine LoopVC.at [0, 6, 8, 27, 28, 29] (.of (by kernel_rfl)) (fun A => Ext (B.st ++ [none]) A.st ∧ A.env 9 = .bool ((l.take i).any fun q => q.name == a.name) ∧ (l.take i).any (sameNV a) = false) ?_ fun A ⟨hst, h9, hd2⟩ => ?_
      · refine LoopVC.upto [0, 6, 8, 27, 28, 29, 36, 37] (.of (by kernel_rfl)) i (fun j A => A.env 38 = .int .i64 j ∧ Ext (B.st ++ [none]) A.st ∧ A.env 9 = .bool (((l.take i).take j).any fun q => q.name == a.name) ∧ ((l.take i).take j).any (sameNV a) = false) 0 (Nat.zero_le _) ?_ fun j A hj ⟨h38, hst, h9, hd2⟩ => ?_
        · simp only [go_sem, simprocAttr, ↓reduceIte, List.length_map]
          exact ⟨.refl _, by simp, by simp⟩
        simp only [go_sem, simprocAttr, ↓reduceIte, h38, h9, List.length_map]
        refine ⟨fun hj' => ⟨hj', ?_⟩, fun hj' => ?_⟩
        · obtain ⟨b, hbj⟩ := get_some hj'
          have hjl : j < i := by omega
          simp only [atV_map hbj]
          simp only [go_sem, simprocAttr, ↓reduceIte, pkgAV, h38, h9]
          have he : ∀ f : Pkg → Bool, ((l.take i).take (j + 1)).any f = (((l.take i).take j).any f || f b) := fun f => by rw [take_succ_get hbj, List.any_append]; simp
          refine ⟨fun hq => CallA.fn (r4_sameVersion b.ver a.ver) ?_, fun hq => ?_⟩
          · simp only [go_sem, simprocAttr, ↓reduceIte, h38, h9]
            refine ⟨fun hv => ⟨weak_int ?_, hb2.ext.trans (hst.app _)⟩, fun hv => ⟨hjl, int_succ hjl (by omega), hst.app _, ?_, ?_⟩⟩
            · have : (l.take i).any (sameNV a) = true := any_true hbj (by simp [sameNV, hq, hv])
              rw [hm, ← hd, this, if_pos (by simp)]
            · rw [he]; simp [hq]
            · rw [he, hd2]; simp [sameNV, hv]
          · refine ⟨hjl, int_succ hjl (by omega), hst.app _, ?_, ?_⟩
            · rw [he]; simp [hq]
            · rw [he, hd2]; simp [sameNV, hq]
        · rw [List.take_of_length_le hj'] at h9 hd2 ⊢
          exact ⟨hst, rfl, hd2⟩
      have hb3 := hb2.on hst
      rw [hd2, Bool.false_or, ← take_succ_get ha] at hd
      have hns : ∀ acc' : List (List UInt8), acc' = (if (acc.any fun x => a.name == x) = true then acc else acc ++ [a.name]) → ∀ n, acc'.any (fun x => n == x) = (l.take (i + 1)).any (fun q => q.name == n) := fun acc' e n => by
        rw [take_succ_get ha, List.any_append, ← hnm n, e]
        by_cases hx : (acc.any fun x => a.name == x) = true
        · rw [if_pos hx]
          by_cases hna : a.name = n
          · subst hna; simp [hx]
          · simp [hna]
        · rw [if_neg hx, List.any_append]
          have : (n == a.name) = (a.name == n) := by rw [Bool.eq_iff_iff, beq_iff_eq, beq_iff_eq]; exact ⟨Eq.symm, Eq.symm⟩
          simp [this]
      simp only [go_sem, simprocAttr, ↓reduceIte, pkgAV, h6, h8, h9, hb3.ok, hb3.un]
      refine ⟨fun h => ?_, fun h => ⟨hc, v, acc, rfl, int_succ hc hl, hb3, ?_, hd, by omega, ?_⟩⟩
      · refine AppA.own 1048576 (by kernel_rfl) hb3.bld (.lit _ _ _) (by simp; omega) fun v' σ' ha' => ?_
        have hb' := hb3.app ha'
        simp only [go_sem, simprocAttr, ↓reduceIte, h6, h8, hb'.ok, hb'.un]
        rw [← hnm] at h
        rw [if_neg (by rw [h]; simp)] at hn hns
        refine ⟨hc, _, acc ++ [a.name], rfl, int_succ hc hl, by simpa using hb', hn, hd, by simp; omega, hns _ rfl⟩
      · rw [← hnm] at h
        rw [if_pos h] at hn
        exact hn
      · rw [← hnm] at h
        rw [if_pos h] at hns
        exact hns _ rfl
    · rw [List.drop_eq_nil_of_le hc] at hn hd
      exact ⟨_, rfl, by rw [← hn]; exact hb, hd.symm⟩
  simp only [go_sem, simprocAttr, ↓reduceIte, h6, hb.ok, hb.un, hb.len, hb.lenC, List.length_map]
  refine ⟨fun hq => ⟨weak_int ?_, hb.ext⟩, fun hq => ⟨weak_int ?_, hb.ext⟩⟩
  · rw [hm, hd, if_neg (by simp), if_pos ((lenN _ 10).1 hq)]
  · rw [hm, hd, if_neg (by simp), if_neg (fun e => hq ((lenN _ 10).2 e))]
end Go.Proofs.Tryz
end
section
namespace Go.Proofs.Tryz
open Go Go.Av
set_option maxRecDepth 10000
set_option linter.unusedSimpArgs false
set_option linter.unusedVariables false
variable {W0 : World}

@[go_sem] theorem okM_atomAV (g : Option Bool) (p : Atom) : okM g (atomAV p) = True := eq_true trivial
@[go_sem] theorem unm_atomAV (p : Atom) : unm (atomAV p) = atomAV p := rfl
@[go_sem] theorem fits_atomAV (p : Atom) : fitsB prog 48 (atomAV p) = true := by kernel_rfl
@[go_sem] theorem fits_pkgAV (p : Pkg) : fitsB prog 38 (pkgAV p) = true := by kernel_rfl
@[go_sem] theorem fits_provAV (p : Prov) : fitsB prog 105 (provAV p) = true := by kernel_rfl
@[go_sem] theorem okM_provAV (g : Option Bool) (p : Prov) : okM g (provAV p) = True := eq_true trivial
@[go_sem] theorem unm_provAV (p : Prov) : unm (provAV p) = provAV p := rfl
theorem NotM.prov (p : Prov) : NotM (provAV p) := trivial

theorem ix_sat1 (a : Atom) (v : Prov) : PureFn prog W0 76 [provAV v, .loc 48 (atomAV a)] (.bool (v.name == a.name && (a.rel == 0 || holdsV a.rel v.ver a.ver))) := by
  refine fn_pure [3] [2] func76 rfl rfl ntmps76 rfl rfl (.bool _) fun hs σ => ?_
  simp only [go_sem, simprocAttr, ↓reduceIte, provAV, atomAV]
  refine CallP.fnG (fun _ => ve_holds a.rel v.ver a.ver) ?_
  simp only [go_sem, simprocAttr, ↓reduceIte]

theorem ix_sat (p : Pkg) (a : Atom) : PureFn prog W0 49 [pkgAV p, atomAV a] (.bool (satP p a)) := by
  refine fn_pure [4] [2, 3] func49 rfl rfl ntmps49 rfl rfl (.bool _) fun hs σ => ?_
  simp only [go_sem, simprocAttr, ↓reduceIte, pkgAV, atomAV]
  refine CallA.fn (rl_mayAtom a) ?_
  simp only [go_sem, simprocAttr, ↓reduceIte, pkgAV, atomAV]
  refine ⟨fun h => weak_bool (by rw [satP, h]; rfl), fun h => CallP.fnG (fun _ => ve_holds a.rel p.ver a.ver) ?_⟩
  simp only [go_sem, simprocAttr, ↓reduceIte, pkgAV, atomAV]
  refine ⟨fun h2 => weak_bool (by rw [satP, h, h2]; rfl), fun h2 => CallA.fn (anProv provAV NotM.prov p.prov _ _ [.loc 48 (atomAV a)] (fun q _ => ix_sat1 a q)) ?_⟩
  simp only [go_sem, simprocAttr, ↓reduceIte]
  exact weak_bool (by rw [satP, h, h2]; simp)

theorem ix_against1 (q : Pkg) (a : Atom) : PureFn prog W0 109 [atomAV a, .loc 38 (pkgAV q)] (.bool (satP q a)) := by
  refine fn_pure [3] [2] func109 rfl rfl ntmps109 rfl rfl (.bool _) fun hs σ => ?_
  simp only [go_sem, simprocAttr, ↓reduceIte]
  refine CallA.fn (ix_sat q a) ?_
  simp only [go_sem, simprocAttr, ↓reduceIte]
  try exact weak_bool rfl

theorem ix_against (p q : Pkg) : PureFn prog W0 79 [pkgAV p, pkgAV q] (.bool (againstP p q)) := by
  refine fn_pure [4] [2, 3] func79 rfl rfl ntmps79 rfl rfl (.bool _) fun hs σ => ?_
  simp only [go_sem, simprocAttr, ↓reduceIte, pkgAV]
  refine CallA.fn (anAtom atomAV NotM.atom p.con (satP q) _ [.loc 38 (pkgAV q)] (fun a _ => ix_against1 q a)) ?_
  simp only [go_sem, simprocAttr, ↓reduceIte, pkgAV]
  refine CallP.go (fun _ => anAtom atomAV NotM.atom p.brk (satP q) _ [.loc 38 (pkgAV q)] (fun a _ => ix_against1 q a)) ?_
  simp only [go_sem, simprocAttr, ↓reduceIte]
  try exact weak_bool rfl

theorem ix_clash (p q : Pkg) : PureFn prog W0 51 [pkgAV p, pkgAV q] (.bool (clashP p q)) := by
  refine fn_pure [4] [2, 3] func51 rfl rfl ntmps51 rfl rfl (.bool _) fun hs σ => ?_
  simp only [go_sem, simprocAttr, ↓reduceIte, pkgAV]
  refine CallP.fnG (fun _ => ix_against p q) ?_
  simp only [go_sem, simprocAttr, ↓reduceIte]
  refine CallP.fnG (fun _ => ix_against q p) ?_
  simp only [go_sem, simprocAttr, ↓reduceIte]
  try exact weak_bool rfl

theorem r10_sat (p : Pkg) (a : Atom) : PureFn prog W0 64 [pkgAV p, atomAV a] (.bool (satP p a)) := by
  refine fn_pure [4] [2, 3, 6] func64 rfl rfl ntmps64 rfl rfl (.bool _) fun hs σ => ?_
  have hl := (small_map (small_agg (hs _ (List.mem_cons_self ..)) (provsAV p.prov) (by simp))).1
  simp only [go_sem, simprocAttr, ↓reduceIte, pkgAV, atomAV]
  refine CallA.fn (r4_mayAtom a) ?_
  simp only [go_sem, simprocAttr, ↓reduceIte, pkgAV, atomAV]
  refine ⟨fun h => weak_bool (by rw [satP, h]; rfl), fun h => CallP.fnG (fun _ => r4_holds a.rel p.ver a.ver) ?_⟩
  simp only [go_sem, simprocAttr, ↓reduceIte, pkgAV, atomAV]
  refine ⟨fun h2 => weak_bool (by rw [satP, h, h2]; rfl), fun h2 => ?_⟩
  simp only [go_sem, simprocAttr, ↓reduceIte, provsAV, List.length_map]
  refine LoopVC.upto [3, 25, 26] (.of (by kernel_rfl)) p.prov.length (fun i A => A.env 27 = .int .i64 i ∧ Ext σ A.st ∧ (p.prov.take i).any (fun v => v.name == a.name && (a.rel == 0 || holdsV a.rel v.ver a.ver)) = false) 0 (Nat.zero_le _) ?_ fun i B hi ⟨h8, hst, hI⟩ => ?_
  · simp only [go_sem, simprocAttr, ↓reduceIte]
    simp [Ext.refl]
  simp only [go_sem, simprocAttr, ↓reduceIte, h8, List.length_map]
  refine ⟨fun hc => ⟨hc, ?_⟩, fun hc => ⟨weak_bool ?_, hst⟩⟩
  · obtain ⟨v, hv⟩ := get_some hc
    simp only [atV_map hv]
    simp only [go_sem, simprocAttr, ↓reduceIte, provAV, h8]
    refine CallP.fnG (fun _ => r4_holds a.rel v.ver a.ver) ?_
    simp only [go_sem, simprocAttr, ↓reduceIte, h8]
    have e : (v.name == a.name && (a.rel == 0 || !v.ver == [] && holdsV a.rel v.ver a.ver)) = (v.name == a.name && (a.rel == 0 || holdsV a.rel v.ver a.ver)) := by
      cases hv : v.ver with
      | nil => rw [holds_nil]; simp
      | cons c r => simp
    simp only [e]
    refine ⟨fun hq => ⟨weak_bool ?_, hst.app _⟩, fun hq => ⟨hc, int_succ hc hl, hst.app _, by rw [any_succ hv, hI, hq]; rfl⟩⟩
    rw [satP, h, h2, any_true hv hq]; rfl
  · rw [any_end hc] at hI
    rw [satP, h, h2, hI]; rfl

theorem r10_forbids (p q : Pkg) : PureFn prog W0 63 [pkgAV p, pkgAV q] (.bool (againstP p q)) := by
  refine fn_pure [4] [2, 3, 8] func63 rfl rfl ntmps63 rfl rfl (.bool _) fun hs σ => ?_
  have hl1 := (small_map (small_agg (hs _ (List.mem_cons_self ..)) (atomsAV p.con) (by simp))).1
  have hl2 := (small_map (small_agg (hs _ (List.mem_cons_self ..)) (atomsAV p.brk) (by simp))).1
  simp only [go_sem, simprocAttr, ↓reduceIte, pkgAV]
  let ls := [p.con, p.brk]
  have e : [atomsAV p.con, atomsAV p.brk] = ls.map atomsAV := rfl
  have hls : ∀ l ∈ ls, l.length ≤ maxLen := by simp only [ls]; simp [hl1, hl2]
  have ha : againstP p q = ls.any fun l => l.any (satP q) := by simp only [ls]; simp [againstP]
  simp only [e]
  refine LoopVC.upto [3, 13] (.of (by kernel_rfl)) 2 (fun i A => A.env 14 = .int .i64 i ∧ Ext σ A.st ∧ ((ls.take i).any fun l => l.any (satP q)) = false) 0 (Nat.zero_le _) ?_ fun i B hi ⟨h8, hst, hI⟩ => ?_
  · simp only [go_sem, simprocAttr, ↓reduceIte]
    simp [Ext.refl]
  simp only [go_sem, simprocAttr, ↓reduceIte, h8]
  refine ⟨fun hc => ?_, fun hc => ⟨weak_bool ?_, hst⟩⟩
  · have hc' : i < ls.length := by show i < 2; omega
    obtain ⟨l, hll⟩ := get_some hc'
    have hl := hls l (List.mem_of_getElem? hll)
    simp only [getD_map hll]
    simp only [go_sem, simprocAttr, ↓reduceIte, atomsAV, List.length_map]
    refine ⟨hc', LoopVC.ats [3, 13, 14] (.of (by kernel_rfl)) (fun A => Ext σ A.st ∧ l.any (satP q) = false) ?_ fun A ⟨hst, hd⟩ => ?_⟩
    · refine LoopVC.upto [3, 13, 14, 17, 18] (.of (by kernel_rfl)) l.length (fun j A => A.env 19 = .int .i64 j ∧ Ext σ A.st ∧ (l.take j).any (satP q) = false) 0 (Nat.zero_le _) ?_ fun j A hj ⟨h19, hst, hJ⟩ => ?_
      · simp only [go_sem, simprocAttr, ↓reduceIte]
        simp [hst]
      simp only [go_sem, simprocAttr, ↓reduceIte, h19, List.length_map]
      refine ⟨fun hc' => ⟨hc', ?_⟩, fun hc' => ⟨hst, by rwa [any_end hc'] at hJ⟩⟩
      obtain ⟨a, ha'⟩ := get_some hc'
      simp only [atV_map ha']
      simp only [go_sem, simprocAttr, ↓reduceIte, h19]
      refine CallA.fn (r10_sat q a) ?_
      simp only [go_sem, simprocAttr, ↓reduceIte, h19]
      refine ⟨fun hq => ⟨weak_bool ?_, hst.app _⟩, fun hq => ⟨hc', int_succ hc' hl, hst.app _, by rw [any_succ ha', hJ, hq]; rfl⟩⟩
      rw [ha, any_true hll (any_true ha' hq)]
    simp only [go_sem, simprocAttr, ↓reduceIte, h8]
    exact ⟨by omega, int_succ (show i < 2 by omega) (by rw [maxLen_eq]; omega), hst, by rw [any_succ hll, hI, hd]; rfl⟩
  · rw [any_end (by show 2 ≤ i; omega)] at hI
    rw [ha, hI]

theorem r10_clash (p q : Pkg) : PureFn prog W0 40 [pkgAV p, pkgAV q] (.bool (clashP p q)) := by
  refine fn_pure [4] [2, 3] func40 rfl rfl ntmps40 rfl rfl (.bool _) fun hs σ => ?_
  simp only [go_sem, simprocAttr, ↓reduceIte, pkgAV]
  refine CallP.fnG (fun _ => r10_forbids p q) ?_
  simp only [go_sem, simprocAttr, ↓reduceIte]
  refine CallP.fnG (fun _ => r10_forbids q p) ?_
  simp only [go_sem, simprocAttr, ↓reduceIte]
  try exact weak_bool rfl

theorem r10_met (c : Clause) (l : List Pkg) : PureFn prog W0 41 [atomsAV c, pkgsAV l] (.bool (metP c l)) := by
  refine fn_pure [4] [6, 8] func41 rfl rfl ntmps41 rfl rfl (.bool _) fun hs σ => ?_
  have hcl := (small_map (hs _ (List.mem_cons_self ..))).1
  have hl := (small_map (hs (pkgsAV l) (by simp))).1
  simp only [go_sem, simprocAttr, ↓reduceIte, atomsAV, pkgsAV, List.length_map]
  refine LoopVC.upto [1, 9, 10] (.of (by kernel_rfl)) c.length (fun i A => A.env 11 = .int .i64 i ∧ Ext σ A.st ∧ ((c.take i).any fun a => l.any fun p => satP p a) = false) 0 (Nat.zero_le _) ?_ fun i B hi ⟨h8, hst, hI⟩ => ?_
  · simp only [go_sem, simprocAttr, ↓reduceIte]
    simp [Ext.refl]
  simp only [go_sem, simprocAttr, ↓reduceIte, h8, List.length_map]
  refine ⟨fun hc => ⟨hc, ?_⟩, fun hc => ⟨weak_bool ?_, hst⟩⟩
  · obtain ⟨a, ha⟩ := get_some hc
    simp only [atV_map ha]
    simp only [go_sem, simprocAttr, ↓reduceIte, h8, List.length_map]
    refine LoopVC.ats [1, 9, 10, 11] (.of (by kernel_rfl)) (fun A => Ext σ A.st ∧ (l.any fun p => satP p a) = false) ?_ fun A ⟨hst, hd⟩ => ?_
    · refine LoopVC.upto [1, 6, 9, 10, 11, 15, 16] (.of (by kernel_rfl)) l.length (fun j A => A.env 17 = .int .i64 j ∧ Ext σ A.st ∧ ((l.take j).any fun p => satP p a) = false) 0 (Nat.zero_le _) ?_ fun j A hj ⟨h19, hst, hJ⟩ => ?_
      · simp only [go_sem, simprocAttr, ↓reduceIte]
        simp [hst.app]
      simp only [go_sem, simprocAttr, ↓reduceIte, h19, List.length_map]
      refine ⟨fun hc' => ⟨hc', ?_⟩, fun hc' => ⟨hst, by rwa [any_end hc'] at hJ⟩⟩
      obtain ⟨p, hp⟩ := get_some hc'
      simp only [atV_map hp]
      simp only [go_sem, simprocAttr, ↓reduceIte, h19]
      refine CallA.fn (r10_sat p a) ?_
      simp only [go_sem, simprocAttr, ↓reduceIte, h19]
      refine ⟨fun hq => ⟨weak_bool ?_, hst.app _⟩, fun hq => ⟨hc', int_succ hc' hl, hst.app _, by rw [any_succ hp, hJ, hq]; rfl⟩⟩
      rw [metP, any_true ha (any_true hp hq)]
    simp only [go_sem, simprocAttr, ↓reduceIte, h8]
    exact ⟨hc, int_succ hc hcl, hst, by rw [any_succ ha, hI, hd]; rfl⟩
  · rw [any_end hc] at hI
    exact hI.symm

theorem r10_healthy (l : List Pkg) : PureFn prog W0 20 [pkgsAV l] (.bool (healthyP l)) := by
  refine fn_pure [2] [4, 6] func20 rfl rfl ntmps20 rfl rfl (.bool _) fun hs σ => ?_
  have hl := (small_map (hs _ (List.mem_cons_self ..))).1
  have hls := (small_map (hs _ (List.mem_cons_self ..))).2
  simp only [go_sem, simprocAttr, ↓reduceIte, pkgsAV, List.length_map]
  refine LoopVC.upto [0, 11, 12] (.of (by kernel_rfl)) l.length (fun i A => A.env 13 = .int .i64 i ∧ Ext σ A.st ∧ sickL l (l.take i) (l.drop i) = sickL l [] l) 0 (Nat.zero_le _) ?_ fun i B hi ⟨h8, hst, hI⟩ => ?_
  · simp only [go_sem, simprocAttr, ↓reduceIte]
    simp [Ext.refl]
  simp only [go_sem, simprocAttr, ↓reduceIte, h8, List.length_map]
  refine ⟨fun hc => ⟨hc, ?_⟩, fun hc => ⟨weak_bool ?_, hst⟩⟩
  · obtain ⟨a, ha⟩ := get_some hc
    obtain ⟨hlt, hae⟩ := List.getElem?_eq_some_iff.1 ha
    have hsm := small_agg (hls a (List.mem_of_getElem? ha))
    have hpre : a.pre.length ≤ maxLen := (small_map (hsm (clausesAV a.pre) (by simp))).1
    have hdep : a.dep.length ≤ maxLen := (small_map (hsm (clausesAV a.dep) (by simp))).1
    rw [List.drop_eq_getElem_cons hc, hae, sickL] at hI
    have sick : sickP l (l.take i) a = true → false = healthyP l := fun e => by rw [healthyP, ← hI, e]; rfl
    simp only [atV_map ha]
    simp only [go_sem, simprocAttr, ↓reduceIte, h8, List.length_map]
    refine CallA.fn (r9_may a) ?_
    simp only [go_sem, simprocAttr, ↓reduceIte, h8, List.length_map]
    refine ⟨fun hq => ⟨weak_bool (sick ?_), hst.app _⟩, fun hq => ?_⟩
    · simp [sickP, hq]
    rw [← List.map_take]
    have hil : (l.take i).length = i := by rw [List.length_take]; omega
    refine ⟨⟨Nat.zero_le _, hi⟩, LoopVC.at [0, 4, 11, 12, 13] (.of (by kernel_rfl)) (fun A => Ext σ A.st ∧ (l.take i).any (fun q => q.name == a.name || clashP a q) = false) ?_ fun A ⟨hst, hn⟩ => ?_⟩
    · refine LoopVC.upto [0, 4, 11, 12, 13, 23, 24] (.of (by kernel_rfl)) i (fun j A => A.env 25 = .int .i64 j ∧ Ext σ A.st ∧ ((l.take i).take j).any (fun q => q.name == a.name || clashP a q) = false) 0 (Nat.zero_le _) ?_ fun j A hj ⟨h25, hst, hJ⟩ => ?_
      · simp only [go_sem, simprocAttr, ↓reduceIte]
        simp [hst.app]
      simp only [go_sem, simprocAttr, ↓reduceIte, h25, List.length_map]
      refine ⟨fun hj' => ⟨hj', ?_⟩, fun hj' => ⟨hst, by rwa [any_end hj'] at hJ⟩⟩
      obtain ⟨b, hbj⟩ := get_some hj'
      simp only [atV_map hbj]
      simp only [go_sem, simprocAttr, ↓reduceIte, pkgAV, h25]
      refine CallP.fnG (fun _ => r10_clash a b) ?_
      simp only [go_sem, simprocAttr, ↓reduceIte, h25]
      refine ⟨fun hq => ⟨weak_bool (sick ?_), hst.app _⟩, fun hq => ⟨by omega, int_succ (show j < i by omega) (by omega), hst.app _, by rw [any_succ hbj, hJ, hq]; rfl⟩⟩
      rw [sickP, any_true hbj hq]; simp
    simp only [go_sem, simprocAttr, ↓reduceIte, pkgAV, h8]
    let ls := [a.pre, a.dep]
    have e : [clausesAV a.pre, clausesAV a.dep] = ls.map clausesAV := rfl
    have hls : ∀ l ∈ ls, l.length ≤ maxLen := by simp only [ls]; simp [hpre, hdep]
    have hms : (a.pre.any (fun c => !metP c l) || a.dep.any (fun c => !metP c l)) = ls.any fun d => d.any fun c => !metP c l := by simp only [ls]; simp
    simp only [e]
    refine LoopVC.ats [0, 11, 12, 13] (.of (by kernel_rfl)) (fun A => Ext σ A.st ∧ (ls.any fun d => d.any fun c => !metP c l) = false) ?_ fun A ⟨hst, hd⟩ => ?_
    · refine LoopVC.upto [0, 11, 12, 13, 44] (.of (by kernel_rfl)) 2 (fun k A => A.env 45 = .int .i64 k ∧ Ext σ A.st ∧ ((ls.take k).any fun d => d.any fun c => !metP c l) = false) 0 (Nat.zero_le _) ?_ fun k A hk ⟨h45, hst, hK⟩ => ?_
      · simp only [go_sem, simprocAttr, ↓reduceIte]
        simp [hst]
      simp only [go_sem, simprocAttr, ↓reduceIte, h45]
      refine ⟨fun hc => ?_, fun hc => ⟨hst, by rwa [any_end (by show 2 ≤ k; omega)] at hK⟩⟩
      have hc' : k < ls.length := by show k < 2; omega
      obtain ⟨d, hd⟩ := get_some hc'
      have hl := hls d (List.mem_of_getElem? hd)
      simp only [getD_map hd]
      simp only [go_sem, simprocAttr, ↓reduceIte, clausesAV, h45, List.length_map]
      refine ⟨hc', LoopVC.ats [0, 11, 12, 13, 44, 45] (.of (by kernel_rfl)) (fun A => Ext σ A.st ∧ (d.any fun c => !metP c l) = false) ?_ fun A ⟨hst, hd'⟩ => ?_⟩
      · refine LoopVC.upto [0, 11, 12, 13, 44, 45, 48, 49] (.of (by kernel_rfl)) d.length (fun j A => A.env 50 = .int .i64 j ∧ Ext σ A.st ∧ ((d.take j).any fun c => !metP c l) = false) 0 (Nat.zero_le _) ?_ fun j A hj ⟨h50, hst, hJ⟩ => ?_
        · simp only [go_sem, simprocAttr, ↓reduceIte]
          simp [hst]
        simp only [go_sem, simprocAttr, ↓reduceIte, h50, List.length_map]
        refine ⟨fun hc' => ⟨hc', ?_⟩, fun hc' => ⟨hst, by rwa [any_end hc'] at hJ⟩⟩
        obtain ⟨c, hcj⟩ := get_some hc'
        simp only [atV_map hcj]
        simp only [go_sem, simprocAttr, ↓reduceIte, h50]
        refine CallA.fn (r10_met c l) ?_
        simp only [go_sem, simprocAttr, ↓reduceIte, h50]
        refine ⟨fun hq => ⟨weak_bool (sick ?_), hst⟩, fun hq => ⟨hc', int_succ hc' hl, hst, by rw [any_succ hcj, hJ, hq]; rfl⟩⟩
        rw [sickP, hms, any_true hd (any_true hcj (by rw [hq]; rfl))]; simp
      simp only [go_sem, simprocAttr, ↓reduceIte, h45]
      exact ⟨by omega, int_succ (show k < 2 by omega) (by rw [maxLen_eq]; omega), hst, by rw [any_succ hd, hK, hd']; rfl⟩
    simp only [go_sem, simprocAttr, ↓reduceIte, h8]
    refine ⟨hc, int_succ hc hl, hst, ?_⟩
    have : sickP l (l.take i) a = false := by rw [sickP, hn, hms, hd, hq]; rfl
    rw [this, Bool.false_or, ← take_succ_get ha] at hI
    exact hI
  · rw [List.drop_eq_nil_of_le hc] at hI
    rw [healthyP, ← hI]; rfl
end Go.Proofs.Tryz
end
section
namespace Go.Proofs.Tryz
open Go Go.Av
set_option maxRecDepth 10000
set_option linter.unusedSimpArgs false
set_option linter.unusedVariables false
variable {W0 : World}

theorem sl_grow (σ : Store) (n : Nat) (hn : n ≤ 1048576) :
    ACall prog W0 71 [.nils, .int .i64 n] σ fun r σ' => Rowed σ σ' r 49 [] := by
  refine fn_call [4] [] func71 rfl rfl ntmps71 rfl rfl fun hs => ?_
  simp only [go_sem, simprocAttr, ↓reduceIte]
  refine JoinVC.at [0, 1] (by kernel_rfl) (fun A => A.st = σ) (fun h => absurd (of_decide_eq_true h) (by omega)) (fun _ => ?_) fun B hst => ?_
  · simp only [go_sem, simprocAttr, ↓reduceIte]
  simp only [go_sem, simprocAttr, ↓reduceIte, hst]
  have hw : IntKind.i64.wrap ((n : Int) - 0) = n := by rw [Int.sub_zero, wrap_in (by omega)]
  simp only [hw]
  refine JoinVC.at [] (by kernel_rfl) (fun A => Rowed σ A.st (A.env 0) 49 []) (fun h => ?_) (fun _ => ?_) fun B hb => ?_
  · simp only [go_sem, simprocAttr, ↓reduceIte, hst]
    refine AppA.zero (e := 49) 1048576 (by kernel_rfl) (kn := .i64) (by kernel_rfl) (z := .nils) (by kernel_rfl) (by kernel_rfl) (by have := of_decide_eq_true h; omega) hn ?_
    simp only [go_sem, simprocAttr, ↓reduceIte, hst]
    exact ⟨Nat.zero_le _, .inr (.inr ⟨_, 0, 0, List.replicate n .nils, rfl, by simp, by simp, rfl⟩), (Ext.refl _).app _, fun id h => by cases h; exact Nat.le_refl _⟩
  · simp only [go_sem, simprocAttr, ↓reduceIte, hst]
    exact .nil (.refl _) _
  simp only [go_sem, simprocAttr, ↓reduceIte, hb.ok, hb.un]
  refine EndR.ret ?_
  simp only [go_sem, simprocAttr, ↓reduceIte]
  exact ⟨_, .refl _, hb.ext.le, hb⟩

theorem flat_succ {α : Type} {ls : List (List α)} {i : Nat} {l : List α} (h : ls[i]? = some l) : (ls.take (i + 1)).flatten = (ls.take i).flatten ++ l := by
  rw [take_succ_get h, List.flatten_append]; simp

theorem sl_concat (ls : List (List Clause)) (hls : ls.length ≤ 1048576) (hn : ls.flatten.length ≤ 1048576) :
    PureFn prog W0 46 [.sl 34 (ls.map clausesAV)] (clausesAV ls.flatten) := by
  refine fn_pureZ [2] [] func46 rfl rfl ntmps46 rfl rfl (ids_clauses _) fun hs σ => ?_
  have hfl : ∀ i, (ls.take i).flatten.length ≤ 1048576 := fun i => by
    have : ls.flatten.length = (ls.take i).flatten.length + (ls.drop i).flatten.length := by
      rw [← List.length_append, ← List.flatten_append, List.take_append_drop]
    omega
  simp only [go_sem, simprocAttr, ↓reduceIte, List.length_map]
  refine LoopVC.at [0] (.of (by kernel_rfl)) (fun A => A.env 3 = .int .i64 ls.flatten.length ∧ A.st = σ) ?_ fun B ⟨h3, hst⟩ => ?_
  · refine LoopVC.upto [0, 9, 10] (.of (by kernel_rfl)) ls.length (fun i A => A.env 11 = .int .i64 i ∧ A.st = σ ∧ A.env 3 = .int .i64 (ls.take i).flatten.length) 0 (Nat.zero_le _) ?_ fun i B hi ⟨h8, hst, h3⟩ => ?_
    · simp only [go_sem, simprocAttr, ↓reduceIte]
      try simp
    simp only [go_sem, simprocAttr, ↓reduceIte, h8, h3, hst, List.length_map]
    refine ⟨fun hc => ⟨hc, ?_⟩, fun hc => by rw [List.take_of_length_le hc]⟩
    obtain ⟨l, hl⟩ := get_some hc
    simp only [atV_map hl]
    have h1 := hfl i
    have h2 := hfl (i + 1)
    rw [flat_succ hl, List.length_append] at h2
    have hw : IntKind.i64.wrap (((ls.take i).flatten.length : Int) + (l.length : Int)) = (((ls.take (i + 1)).flatten.length : Nat) : Int) := by
      rw [flat_succ hl, List.length_append, wrap_in (by omega), Int.natCast_add]
    simp only [go_sem, simprocAttr, ↓reduceIte, clausesAV, h8, h3, hst, List.length_map, hw]
    exact ⟨fun h => absurd h (by omega), fun _ => ⟨hc, int_succ hc (by rw [maxLen_eq]; omega)⟩⟩
  simp only [go_sem, simprocAttr, ↓reduceIte, h3, hst]
  refine CallA.goes (by simp only [go_sem, simprocAttr, ↓reduceIte, hst]) (sl_grow σ _ hn) fun r σ' hr => ?_
  simp only [go_sem, simprocAttr, ↓reduceIte, h3, hst, hr.ok, hr.un, List.length_map]
  refine LoopVC.at [] (.of (by kernel_rfl)) (fun A => ∃ v, A.env 6 = v ∧ Rowed σ A.st v 49 (ls.flatten.map atomsAV)) ?_ fun B ⟨v, h6, hb⟩ => ?_
  · refine LoopVC.upto [25, 26] (.of (by kernel_rfl)) ls.length (fun i A => A.env 27 = .int .i64 i ∧ ∃ v, A.env 6 = v ∧ Rowed σ A.st v 49 ((ls.take i).flatten.map atomsAV)) 0 (Nat.zero_le _) ?_ fun i B hi ⟨h8, v, h6, hb⟩ => ?_
    · simp only [go_sem, simprocAttr, ↓reduceIte]
      exact ⟨_, rfl, hr⟩
    simp only [go_sem, simprocAttr, ↓reduceIte, h8, h6, List.length_map]
    refine ⟨fun hc => ⟨hc, ?_⟩, fun hc => ⟨_, rfl, by rw [List.take_of_length_le hc] at hb; exact hb⟩⟩
    obtain ⟨l, hl⟩ := get_some hc
    have h2 := hfl (i + 1)
    rw [flat_succ hl, List.length_append] at h2
    simp only [atV_map hl]
    simp only [go_sem, simprocAttr, ↓reduceIte, clausesAV, h8, h6, hb.ok, hb.un, List.length_map]
    refine AppA.rowed 1048576 (by kernel_rfl) hb (.sl _ _ _) (by rw [List.length_map, List.length_map]; exact h2) fun v' st' hb' => ?_
    simp only [go_sem, simprocAttr, ↓reduceIte, h8]
    refine ⟨hc, int_succ hc (by rw [maxLen_eq]; omega), _, rfl, ?_⟩
    rw [flat_succ hl, List.map_append]
    exact hb'
  simp only [go_sem, simprocAttr, ↓reduceIte, h6, hb.ok, hb.un]
  exact Rowed.endr (hb) (.inl rfl) (by simp only [go_sem, simprocAttr, ↓reduceIte])
end Go.Proofs.Tryz
end
section
namespace Go.Proofs.Tryz
open Go Go.Av
set_option maxRecDepth 10000
set_option linter.unusedSimpArgs false
set_option linter.unusedVariables false
variable {W0 : World}

theorem ixLitR {α : Type} (enc : α → AV) (hp : ∀ a, NotM (enc a)) (l : List α) (q : α → Bool) (g : FuncId) (caps : List AV) (σ : Store) (h : ∀ a ∈ l, ACall prog W0 g ([enc a] ++ caps) σ fun r σ' => r = .bool (q a) ∧ σ' = σ) :
    ACall prog W0 133 [.sl 54 (l.map enc), .fn g caps] σ fun r σ' => r = .int .i64 (idxL q l) ∧ σ' = σ := by
  refine fn_st [4] [] func133 rfl rfl ntmps133 rfl rfl (.int _ _) fun hs => ?_
  have hl := (small_map (hs _ (List.mem_cons_self ..))).1
  simp only [go_sem, simprocAttr, ↓reduceIte]
  refine LoopVC.upto [0, 1, 7] (.of (by kernel_rfl)) l.length (fun i A => A.env 8 = .int .i64 i ∧ A.st = σ ∧ ∀ a ∈ l.take i, q a = false) 0 (Nat.zero_le _) ?_ fun i B hi ⟨h8, hst, hI⟩ => ?_
  · simp only [go_sem, simprocAttr, ↓reduceIte]
    all_goals simp
  simp only [go_sem, simprocAttr, ↓reduceIte, h8, hst, List.length_map]
  refine ⟨fun hc => ⟨hc, ?_⟩, fun hc => EndR.ret ?_⟩
  · obtain ⟨a, ha⟩ := get_some hc
    simp only [atV_map ha, okM_notM (hp a), unm_notM (hp a), true_and]
    refine CallA.readsC (by simp only [go_sem, simprocAttr, ↓reduceIte, hst]) (h a (List.mem_of_getElem? ha)) ?_
    simp only [go_sem, simprocAttr, ↓reduceIte, h8, hst]
    refine ⟨fun hq => EndR.ret ?_, fun hq => ⟨hc, int_succ hc hl, ?_⟩⟩
    · simp only [go_sem, simprocAttr, ↓reduceIte, hst]
      exact weak_int (idxL_at ha hq hI).symm
    rw [take_succ_get ha]
    intro b hb
    rcases List.mem_append.1 hb with hb | hb
    · exact hI b hb
    · rw [List.mem_singleton.1 hb]; exact hq
  · simp only [go_sem, simprocAttr, ↓reduceIte, hst]
    rw [idxL_none (by rwa [List.take_of_length_le hc] at hI)]
    exact .refl _
theorem ixLitsR {α : Type} (enc : α → AV) (hp : ∀ a, NotM (enc a)) (l : List α) (q : α → Bool) (g : FuncId) (caps : List AV) (σ : Store) (h : ∀ a ∈ l, ACall prog W0 g ([enc a] ++ caps) σ fun r σ' => r = .bool (q a) ∧ σ' = σ) :
    ACall prog W0 144 [.sl 84 (l.map enc), .fn g caps] σ fun r σ' => r = .int .i64 (idxL q l) ∧ σ' = σ := by
  refine fn_st [4] [] func144 rfl rfl ntmps144 rfl rfl (.int _ _) fun hs => ?_
  have hl := (small_map (hs _ (List.mem_cons_self ..))).1
  simp only [go_sem, simprocAttr, ↓reduceIte]
  refine LoopVC.upto [0, 1, 7] (.of (by kernel_rfl)) l.length (fun i A => A.env 8 = .int .i64 i ∧ A.st = σ ∧ ∀ a ∈ l.take i, q a = false) 0 (Nat.zero_le _) ?_ fun i B hi ⟨h8, hst, hI⟩ => ?_
  · simp only [go_sem, simprocAttr, ↓reduceIte]
    all_goals simp
  simp only [go_sem, simprocAttr, ↓reduceIte, h8, hst, List.length_map]
  refine ⟨fun hc => ⟨hc, ?_⟩, fun hc => EndR.ret ?_⟩
  · obtain ⟨a, ha⟩ := get_some hc
    simp only [atV_map ha, okM_notM (hp a), unm_notM (hp a), true_and]
    refine CallA.readsC (by simp only [go_sem, simprocAttr, ↓reduceIte, hst]) (h a (List.mem_of_getElem? ha)) ?_
    simp only [go_sem, simprocAttr, ↓reduceIte, h8, hst]
    refine ⟨fun hq => EndR.ret ?_, fun hq => ⟨hc, int_succ hc hl, ?_⟩⟩
    · simp only [go_sem, simprocAttr, ↓reduceIte, hst]
      exact weak_int (idxL_at ha hq hI).symm
    rw [take_succ_get ha]
    intro b hb
    rcases List.mem_append.1 hb with hb | hb
    · exact hI b hb
    · rw [List.mem_singleton.1 hb]; exact hq
  · simp only [go_sem, simprocAttr, ↓reduceIte, hst]
    rw [idxL_none (by rwa [List.take_of_length_le hc] at hI)]
    exact .refl _
theorem anLitR {α : Type} (enc : α → AV) (hp : ∀ a, NotM (enc a)) (l : List α) (q : α → Bool) (g : FuncId) (caps : List AV) (σ : Store) (h : ∀ a ∈ l, ACall prog W0 g ([enc a] ++ caps) σ fun r σ' => r = .bool (q a) ∧ σ' = σ) :
    ACall prog W0 99 [.sl 54 (l.map enc), .fn g caps] σ fun r σ' => r = .bool (l.any q) ∧ σ' = σ := by
  refine fn_st [4] [] func99 rfl rfl ntmps99 rfl rfl (.bool _) fun hs => ?_
  simp only [go_sem, simprocAttr, ↓reduceIte]
  refine CallA.reads (by simp only [go_sem, simprocAttr, ↓reduceIte]) (ixLitR enc hp l q g caps σ h) ?_
  simp only [go_sem, simprocAttr, ↓reduceIte]
  refine EndR.ret ?_
  simp only [go_sem, simprocAttr, ↓reduceIte]
  rw [idxL_ge]
  exact .refl _

theorem cn_variable (l : Int) (h : l.natAbs ≤ 9223372036854775807) : PureFn prog W0 101 [.int .i64 l] (.int .u64 (l.natAbs : Nat)) := by
  refine fn_pure [2] [] func101 rfl rfl ntmps101 rfl rfl (.int _ _) fun hs σ => ?_
  simp only [go_sem, simprocAttr, ↓reduceIte]
  refine ⟨fun h0 => weak_int ?_, fun h0 => weak_int ?_⟩
  · rw [IntKind.wrap_u64, IntKind.wrap_u64]; omega
  · rw [IntKind.wrap_u64]; omega

def litsAV (c : List Int) : AV := .sl 54 (c.map (.int .i64))
def clsAV (l : List (List Int)) : AV := .sl 84 (l.map litsAV)
theorem NotM.int64 (n : Int) : NotM (AV.int .i64 n) := trivial
theorem NotM.lits (c : List Int) : NotM (litsAV c) := trivial
@[go_sem] theorem okM_litsAV (g : Option Bool) (l : List Int) : okM g (litsAV l) = True := eq_true trivial
@[go_sem] theorem unm_litsAV (l : List Int) : unm (litsAV l) = litsAV l := rfl
@[go_sem] theorem fitsB_litsAV (P : Program) (t : TypeId) (l : List Int) : fitsB P t (litsAV l) = prim P t := rfl
theorem ids_lits (c : List Int) : IdsLt 0 (litsAV c) := ids_map (fun _ => .int _ _) c
theorem ids_cls (l : List (List Int)) : IdsLt 0 (clsAV l) := ids_map ids_lits l

/-- A set of clauses: its variables, its clauses. -/
def setO (n : Nat) (cv : AV) : Option SObj := some (.cells 112 [.agg 112 [.int .i64 n, cv]])

theorem cn_cmp (a b : Int) (ha : a.natAbs ≤ 9223372036854775807) (hb : b.natAbs ≤ 9223372036854775807) : PureFn prog W0 104 [.int .i64 a, .int .i64 b] (.int .i64 (orL [sgn (a.natAbs : Nat) (b.natAbs : Nat), sgn a b])) := by
  refine fn_pure [4] [] func104 rfl rfl ntmps104 rfl rfl (.int _ _) fun hs σ => ?_
  simp only [go_sem, simprocAttr, ↓reduceIte]
  refine CallA.fn (cn_variable a ha) ?_
  simp only [go_sem, simprocAttr, ↓reduceIte]
  refine CallA.fn (cn_variable b hb) ?_
  simp only [go_sem, simprocAttr, ↓reduceIte]
  refine CallA.fn (cmpUint _ _) ?_
  simp only [go_sem, simprocAttr, ↓reduceIte]
  refine CallA.fn (cmpLit a b) ?_
  simp only [go_sem, simprocAttr, ↓reduceIte]
  refine CallA.fn ((cmp_or [_, _]).weak (.cons (.lit _ _) .nil)) ?_
  simp only [go_sem, simprocAttr, ↓reduceIte]
  try exact .refl _

theorem cn_may1 (σ : Store) (id n : Nat) (cv : AV) (hid : σ[id]? = some (setO n cv)) (hn : n ≤ 9223372036854775807) (l : Int) (hl : l.natAbs ≤ 9223372036854775807) :
    ACall prog W0 100 [.int .i64 l, .loc 79 (.ptr 112 id 0 [])] σ fun r σ' => r = .bool (!wfL n l) ∧ σ' = σ := by
  refine fn_st [3] [] func100 rfl rfl ntmps100 rfl rfl (.bool _) fun hs => ?_
  simp only [go_sem, simprocAttr, ↓reduceIte]
  refine ⟨.of (by kernel_rfl), CallP.fnG (fun _ => cn_variable l hl) ?_⟩
  simp only [go_sem, simprocAttr, ↓reduceIte, look_id hid]
  refine EndR.ret ?_
  simp only [go_sem, simprocAttr, ↓reduceIte]
  refine weak_bool ?_
  have hw : IntKind.u64.wrap (n : Int) = n := by rw [IntKind.wrap_u64]; omega
  rw [hw, wfL, Bool.not_and, ← decide_not, ← decide_not]
  congr 1
  · rw [Bool.eq_iff_iff]; simp
  · exact decide_eq_decide.2 (by omega)

theorem cn_may (σ : Store) (id n : Nat) (cv : AV) (cls : List (List Int)) (hid : σ[id]? = some (setO n cv)) (hb : Bld σ cv 84 (cls.map litsAV)) (hn : n ≤ 9223372036854775807) (hc5 : cls.length < 5000) (c : List Int) (hc : ∀ l ∈ c, l.natAbs ≤ 9223372036854775807) :
    ACall prog W0 77 [.ptr 112 id 0 [], litsAV c] σ fun r σ' => r = .bool (wfC n c) ∧ σ' = σ := by
  refine fn_st [4] [2] func77 rfl rfl ntmps77 rfl rfl (.bool _) fun hs => ?_
  have h5 : decide ((cls.length : Int) < 5000) = true := decide_eq_true (by omega)
  simp only [go_sem, simprocAttr, ↓reduceIte, look_id hid, hb.ok, hb.un, hb.len, hb.lenC, List.length_map, h5]
  refine CallP.st (fun _ => anLitR (.int .i64) NotM.int64 c (fun l => !wfL n l) _ [.loc 79 (.ptr 112 id 0 [])] σ fun l hl => cn_may1 σ id n cv hid hn l (hc l hl)) ?_
  simp only [go_sem, simprocAttr, ↓reduceIte]
  refine EndR.ret ?_
  simp only [go_sem, simprocAttr, ↓reduceIte]
  refine weak_bool ?_
  rw [wfC, List.all_eq_not_any_not]

theorem sl_clone (c : List Int) (h0 : c ≠ []) (hl : c.length ≤ 1048576) : PureFn prog W0 102 [litsAV c] (litsAV c) := by
  refine fn_pure [2] [] func102 rfl rfl ntmps102 rfl rfl (ids_lits _) fun hs σ => ?_
  cases c with
  | nil => exact absurd rfl h0
  | cons x c =>
    simp only [go_sem, simprocAttr, ↓reduceIte, litsAV]
    refine AppA.own 1048576 (by kernel_rfl) (.inr (.inl rfl)) (.sl _ _ _) (by simpa using hl) fun v' σ' ha' => ?_
    have hb' := (Built.app (σ := σ) ⟨.inr (.inl rfl), .refl _, fun t h => by cases h⟩ ha')
    simp only [go_sem, simprocAttr, ↓reduceIte, hb'.ok, hb'.un]
    exact ⟨hb'.weak, hb'.ext⟩

theorem sl_cloneRow (σ : Store) (c : List Int) (h0 : c ≠ []) (hl : c.length ≤ 1048576) : ACall prog W0 102 [litsAV c] σ fun r σ' => r = .row 54 σ.length 0 c.length ∧ σ' = σ ++ [some (.cells 54 (c.map (.int .i64)))] := by
  refine fn_call [2] [] func102 rfl rfl ntmps102 rfl rfl fun hs => ?_
  cases c with
  | nil => exact absurd rfl h0
  | cons x c =>
    simp only [go_sem, simprocAttr, ↓reduceIte, litsAV]
    refine AppA.row 1048576 (by kernel_rfl) (.inr (.inl rfl)) (.sl _ _ _) (by simpa using hl) (fun h => by cases h) fun _ => ?_
    simp only [go_sem, simprocAttr, ↓reduceIte]
    refine EndR.ret ?_
    simp only [go_sem, simprocAttr, ↓reduceIte]
    exact ⟨_, .refl _, by simp [killOf], by simp, rfl⟩

theorem so_insertion (σ : Store) (id : Nat) (xs : List Int) (lo hi : Nat) (hlo : lo ≤ hi) (hhi : hi ≤ xs.length) (hid : σ[id]? = some (some (.cells 54 (xs.map (.int .i64))))) (hx : xs.length ≤ 1048576) (f : Int → Int → Int) (g : FuncId) (caps : List AV)
    (hcmp : ∀ a ∈ xs, ∀ b ∈ xs, PureFn prog W0 g ([.int .i64 a, .int .i64 b] ++ caps) (.int .i64 (f a b))) :
    ACall prog W0 155 [.row 54 id 0 xs.length, .int .i64 lo, .int .i64 hi, .fn g caps] σ fun r σ' => ∃ ys : List Int, ys.Perm xs ∧ σ' = σ.set id (some (.cells 54 (ys.map (.int .i64)))) := by
  have hidl : id < σ.length := (List.getElem?_eq_some_iff.1 hid).1
  refine fn_call [] [] func155 rfl rfl ntmps155 rfl rfl fun hs => ?_
  simp only [go_sem, simprocAttr, ↓reduceIte]
  refine LoopVC.falls [0, 1, 2, 3] (.of (by kernel_rfl)) (fun k A => ∃ i : Nat, A.env 8 = .int .i64 i ∧ k = hi - i ∧ 0 < i ∧ lo < i ∧ ∃ ys : List Int, ys.Perm xs ∧ A.st = σ.set id (some (.cells 54 (ys.map (.int .i64))))) (hi - (lo + 1)) ?_ fun k B ⟨i, h8, hk, hi0, hli, ys, hp, hst⟩ => ?_
  · simp only [go_sem, simprocAttr, ↓reduceIte]
    exact ⟨lo + 1, int_succ (N := 1048577) (by omega) (by rw [maxLen_eq]; omega), rfl, by omega, by omega, xs, .refl _, (set_id hid).symm⟩
  simp only [go_sem, simprocAttr, ↓reduceIte, h8, hst]
  refine ⟨fun hih => ?_, fun hih => EndR.normal ?_⟩
  · refine LoopVC.ats [0, 1, 2, 3, 8] (.of (by kernel_rfl)) (fun A => ∃ ys : List Int, ys.Perm xs ∧ A.st = σ.set id (some (.cells 54 (ys.map (.int .i64))))) ?_ fun A ⟨ys, hp, hst⟩ => ?_
    · refine LoopVC.falls [0, 1, 2, 3, 8] (.of (by kernel_rfl)) (fun k A => ∃ ys : List Int, A.env 9 = .int .i64 (k : Nat) ∧ k ≤ i ∧ ys.Perm xs ∧ A.st = σ.set id (some (.cells 54 (ys.map (.int .i64))))) i ?_ fun k A ⟨ys, h9, hki, hp, hst⟩ => ?_
      · simp only [go_sem, simprocAttr, ↓reduceIte]
        exact ⟨ys, hp, hst⟩
      have hyl := hp.length_eq
      obtain ⟨a, ha⟩ := get_some (show k < ys.length by omega)
      obtain ⟨b, hb⟩ := get_some (show k - 1 < ys.length by omega)
      have hw : IntKind.i64.wrap ((k : Int) - 1) = (k : Int) - 1 := wrap_in (by omega)
      have hn : ((k : Int) - 1).toNat = k - 1 := by omega
      have ham := hp.subset (List.mem_of_getElem? ha)
      have hbm := hp.subset (List.mem_of_getElem? hb)
      simp only [go_sem, simprocAttr, ↓reduceIte, h9, hst, look_set hidl, live_set hidl, hw, hn, Nat.zero_add, List.getElem?_map, ha, hb, Option.map_some]
      refine ⟨.of (by kernel_rfl), fun _ => by omega, fun _ => by omega, CallP.go (fun _ => hcmp a ham b hbm) ?_⟩
      simp only [go_sem, simprocAttr, ↓reduceIte, h9, hst]
      refine ⟨fun hlt => ?_, fun hge => ⟨ys, hp, rfl⟩⟩
      have hlk : lo < k := by simp only [Bool.and_eq_true, decide_eq_true_eq] at hlt; exact hlt.1
      simp only [go_sem, simprocAttr, ↓reduceIte, h9, hst, look_set hidl, live_set hidl, setLook_set hidl, hw, hn, Nat.zero_add, List.getElem?_map, ha, hb, Option.map_some]
      refine ⟨.of (by kernel_rfl), by omega, by omega, by omega, by omega, ?_, .here (k - 1) (by omega) ⟨(ys.set k b).set (k - 1) a, ?_, by omega, (swap_perm hb ha).trans hp, ?_⟩⟩
      · rw [← List.map_set]
        obtain ⟨y, hy⟩ := get_some (show k - 1 < ((ys.set k b).map (AV.int .i64)).length by simp; omega)
        rw [hy]; rfl
      · simp only [go_sem, simprocAttr, ↓reduceIte]
        congr 1
        omega
      · simp only [go_sem, simprocAttr, ↓reduceIte, hst]
        rw [List.map_set, List.map_set]
    simp only [go_sem, simprocAttr, ↓reduceIte, h8, hst]
    exact .here (hi - (i + 1)) (by omega) ⟨i + 1, int_succ hih (by rw [maxLen_eq]; omega), rfl, by omega, by omega, ys, hp, by simp only [go_sem, simprocAttr, ↓reduceIte, hst]⟩
  · simp only [go_sem, simprocAttr, ↓reduceIte, hst]
    exact ⟨_, .refl _, by simp, ys, hp, rfl⟩
end Go.Proofs.Tryz
end
section
namespace Go.Proofs.Tryz
open Go Go.Av
set_option maxRecDepth 10000
set_option linter.unusedSimpArgs false
set_option linter.unusedVariables false
variable {W0 : World}

def tabOf (l : List UInt8) : List UInt8 := l
theorem val_tab (A : AState) (l m : List UInt8) (h : (l.append m).length ≤ maxLen) : A.val (.const (.string ⟨(l.append m).toArray⟩)) = .str (tabOf (l.append m)) := by
  show (if (l.append m).toArray.toList.length ≤ maxLen then AV.str (l.append m).toArray.toList else .undef) = _
  rw [if_pos (by simpa using h)]; rfl
theorem bi_len64 (σ : Store) (n : Nat) (hn : n < 256) : ACall prog W0 164 [.int .u64 n] σ fun r σ' => (∃ m : Nat, m ≤ 255 ∧ r = .int .i64 m) ∧ σ' = σ := by
  · refine fn_call [2] [] func164 rfl rfl ntmps164 rfl rfl fun hs => ?_
    have h1 : decide ((4294967296 : Int) ≤ (n : Int)) = false := decide_eq_false (by omega)
    have h2 : decide ((65536 : Int) ≤ (n : Int)) = false := decide_eq_false (by omega)
    have h3 : decide ((256 : Int) ≤ (n : Int)) = false := decide_eq_false (by omega)
    simp only [go_sem, simprocAttr, ↓reduceIte, h1, h2, h3]
    refine JoinVC.at [] (by kernel_rfl) (fun A => A.st = σ ∧ A.env 0 = .int .u64 n ∧ A.env 2 = .int .i64 0) (fun h => by cases h) (fun _ => ?_) fun B ⟨hst, hx, hy⟩ => ?_
    · simp only [go_sem, simprocAttr, ↓reduceIte]
    simp only [go_sem, simprocAttr, ↓reduceIte, h1, h2, h3, hst, hx, hy]
    refine JoinVC.at [] (by kernel_rfl) (fun A => A.st = σ ∧ A.env 0 = .int .u64 n ∧ A.env 2 = .int .i64 0) (fun h => by cases h) (fun _ => ?_) fun B ⟨hst, hx, hy⟩ => ?_
    · simp only [go_sem, simprocAttr, ↓reduceIte, hst, hx, hy]
    simp only [go_sem, simprocAttr, ↓reduceIte, h1, h2, h3, hst, hx, hy]
    refine JoinVC.at [] (by kernel_rfl) (fun A => A.st = σ ∧ A.env 0 = .int .u64 n ∧ A.env 2 = .int .i64 0) (fun h => by cases h) (fun _ => ?_) fun B ⟨hst, hx, hy⟩ => ?_
    · simp only [go_sem, simprocAttr, ↓reduceIte, hst, hx, hy]
    simp only [go_sem, simprocAttr, ↓reduceIte, h1, h2, h3, hst, hx, hy]
    simp (decide := true) only [val_tab]
    generalize hT : tabOf _ = tab
    have hlen : tab.length = 256 := by rw [← hT]; decide
    clear hT
    simp only [go_sem, simprocAttr, ↓reduceIte]
    have hw : (IntKind.u8.wrap (n : Int)).toNat = n := by
      show ((n : Int) % 256).toNat = n
      omega
    refine ⟨by rw [hw, hlen]; exact hn, EndR.ret ?_⟩
    simp only [go_sem, simprocAttr, ↓reduceIte]
    refine ⟨_, .refl _, by simp [hst], ⟨(tab[(IntKind.u8.wrap (n : Int)).toNat]?.getD 0).toNat, ?_, ?_⟩, hst⟩
    · have := (tab[(IntKind.u8.wrap (n : Int)).toNat]?.getD 0).toNat_lt
      omega
    · have := (tab[(IntKind.u8.wrap (n : Int)).toNat]?.getD 0).toNat_lt
      rw [wrap_in (by omega), Int.zero_add]

theorem bi_len (σ : Store) (n : Nat) (hn : n < 256) : ACall prog W0 135 [.int .u64 n] σ fun r σ' => (∃ m : Nat, m ≤ 255 ∧ r = .int .i64 m) ∧ σ' = σ := by
  refine fn_call [2] [] func135 rfl rfl ntmps135 rfl rfl fun hs => ?_
  simp only [go_sem, simprocAttr, ↓reduceIte]
  refine CallA.goes (by simp only [go_sem, simprocAttr, ↓reduceIte]) (bi_len64 σ n hn) fun r σ' ⟨⟨m, hm, hr⟩, hσ⟩ => ?_
  subst hr hσ
  simp only [go_sem, simprocAttr, ↓reduceIte]
  refine EndR.ret ?_
  simp only [go_sem, simprocAttr, ↓reduceIte]
  exact ⟨_, .refl _, m, hm, rfl⟩

theorem so_pdq (σ : Store) (id : Nat) (xs : List Int) (k : Int) (hid : σ[id]? = some (some (.cells 54 (xs.map (.int .i64))))) (hx : xs.length ≤ 12) (f : Int → Int → Int) (g : FuncId) (caps : List AV)
    (hcmp : ∀ a ∈ xs, ∀ b ∈ xs, PureFn prog W0 g ([.int .i64 a, .int .i64 b] ++ caps) (.int .i64 (f a b))) :
    ACall prog W0 134 [.row 54 id 0 xs.length, .int .i64 0, .int .i64 xs.length, .int .i64 k, .fn g caps] σ fun r σ' => ∃ ys : List Int, ys.Perm xs ∧ σ' = σ.set id (some (.cells 54 (ys.map (.int .i64)))) := by
  refine fn_call [] [] func134 rfl rfl ntmps134 rfl rfl fun hs => ?_
  simp only [go_sem, simprocAttr, ↓reduceIte]
  refine LoopVC.upto [0, 4] (.of (by kernel_rfl)) 0 (fun i A => A.env 1 = .int .i64 0 ∧ A.env 2 = .int .i64 xs.length ∧ A.st = σ) 0 (Nat.le_refl _) ?_ fun i B hi ⟨h1, h2, hst⟩ => ?_
  · simp only [go_sem, simprocAttr, ↓reduceIte]
    done
  have hw : IntKind.i64.wrap ((xs.length : Int) - 0) = xs.length := by rw [Int.sub_zero, wrap_in (by omega)]
  have h12 : decide ((xs.length : Int) ≤ 12) = true := decide_eq_true (by omega)
  simp only [go_sem, simprocAttr, ↓reduceIte, h1, h2, hst, hw, h12]
  refine CallA.goes (by simp only [go_sem, simprocAttr, ↓reduceIte, hst]) (so_insertion σ id xs 0 xs.length (Nat.zero_le _) (Nat.le_refl _) hid (by omega) f g caps hcmp) fun r σ' ⟨ys, hp, hσ⟩ => ?_
  subst hσ
  simp only [go_sem, simprocAttr, ↓reduceIte]
  refine EndR.ret ?_
  simp only [go_sem, simprocAttr, ↓reduceIte]
  exact ⟨_, .refl _, by simp, ys, hp, rfl⟩

theorem so_sort (σ : Store) (id : Nat) (xs : List Int) (hid : σ[id]? = some (some (.cells 54 (xs.map (.int .i64))))) (hx : xs.length ≤ 12) (f : Int → Int → Int) (g : FuncId) (caps : List AV)
    (hcmp : ∀ a ∈ xs, ∀ b ∈ xs, PureFn prog W0 g ([.int .i64 a, .int .i64 b] ++ caps) (.int .i64 (f a b))) :
    ACall prog W0 103 [.row 54 id 0 xs.length, .fn g caps] σ fun r σ' => ∃ ys : List Int, ys.Perm xs ∧ σ' = σ.set id (some (.cells 54 (ys.map (.int .i64)))) := by
  refine fn_call [] [] func103 rfl rfl ntmps103 rfl rfl fun hs => ?_
  have hw : IntKind.u64.wrap (xs.length : Int) = xs.length := by rw [IntKind.wrap_u64]; omega
  simp only [go_sem, simprocAttr, ↓reduceIte, hw]
  refine CallA.goes (by simp only [go_sem, simprocAttr, ↓reduceIte]) (bi_len σ xs.length (by omega)) fun r σ' ⟨⟨m, hm, hr⟩, hσ⟩ => ?_
  subst hr hσ
  simp only [go_sem, simprocAttr, ↓reduceIte]
  refine CallA.goes (by simp only [go_sem, simprocAttr, ↓reduceIte]) (so_pdq σ' id xs m hid hx f g caps hcmp) fun r σ'' ⟨ys, hp, hσ⟩ => ?_
  subst hσ
  simp only [go_sem, simprocAttr, ↓reduceIte]
  refine EndR.normal ?_
  simp only [go_sem, simprocAttr, ↓reduceIte]
  exact ⟨_, .refl _, by simp, ys, hp, rfl⟩
end Go.Proofs.Tryz
end
section
namespace Go.Proofs.Tryz
open Go Go.Av
set_option maxRecDepth 10000
set_option linter.unusedSimpArgs false
set_option linter.unusedVariables false
variable {W0 : World}

theorem sl_compact (σ : Store) (id : Nat) (xs : List Int) (hid : σ[id]? = some (some (.cells 54 (xs.map (.int .i64))))) (hx : xs.length ≤ 1048576) (hnd : xs.Nodup) :
    ACall prog W0 108 [.row 54 id 0 xs.length] σ fun r σ' => r = .row 54 id 0 xs.length ∧ σ' = σ := by
  refine fn_call [2] [] func108 rfl rfl ntmps108 rfl rfl fun hs => ?_
  simp only [go_sem, simprocAttr, ↓reduceIte]
  refine ⟨fun _ => EndR.ret ?_, fun h2 => ?_⟩
  · simp only [go_sem, simprocAttr, ↓reduceIte]
    exact ⟨_, .refl _, rfl⟩
  refine LoopVC.falls [0] (.of (by kernel_rfl)) (fun k A => ∃ j : Nat, A.env 3 = .int .i64 j ∧ k = xs.length - j ∧ 0 < j ∧ A.st = σ) (xs.length - 1) ⟨1, ?_⟩ fun k B ⟨j, h3, hk, hj, hst⟩ => ?_
  · simp only [go_sem, simprocAttr, ↓reduceIte]
    done
  simp only [go_sem, simprocAttr, ↓reduceIte, h3, hst]
  refine ⟨fun hlt => ?_, fun hge => EndR.ret ?_⟩
  · obtain ⟨a, ha⟩ := get_some hlt
    obtain ⟨b, hb⟩ := get_some (show j - 1 < xs.length by omega)
    have hw : IntKind.i64.wrap ((j : Int) - 1) = (j : Int) - 1 := wrap_in (by omega)
    have hn : ((j : Int) - 1).toNat = j - 1 := by omega
    have hab : (a == b) = false := by
      obtain ⟨h1, h2⟩ := List.getElem?_eq_some_iff.1 ha
      obtain ⟨h3, h4⟩ := List.getElem?_eq_some_iff.1 hb
      rw [beq_eq_false_iff_ne]
      intro e
      rw [← h2, ← h4] at e
      have := (List.getElem_inj hnd).1 e
      omega
    simp only [go_sem, simprocAttr, ↓reduceIte, h3, hst, look_id hid, live_id hid, hw, hn, Nat.zero_add, List.getElem?_map, ha, hb, Option.map_some, hab]
    exact ⟨.of (by kernel_rfl), hlt, by omega, .here (xs.length - (j + 1)) (by omega) ⟨j + 1, int_succ hlt (by rw [maxLen_eq]; omega), rfl, by omega, by simp only [go_sem, simprocAttr, ↓reduceIte, hst]⟩⟩
  · simp only [go_sem, simprocAttr, ↓reduceIte, hst]
    exact ⟨_, .refl _, rfl⟩

theorem cn_tidy (σ : Store) (c : List Int) (h0 : c ≠ []) (hl : c.length ≤ 12) (hnd : c.Nodup) (hc : ∀ l ∈ c, l ≠ 0 ∧ l.natAbs ≤ 9223372036854775807) :
    ACall prog W0 78 [litsAV c] σ fun r σ' => Ext σ σ' ∧ ((∃ d : List Int, d.Perm c ∧ r = .tup [litsAV d, .bool true]) ∨ (r = .tup [.nils, .bool false] ∧ ∀ M, claT M c = true)) := by
  refine fn_call [2, 3] [] func78 rfl rfl ntmps78 rfl rfl fun hs => ?_
  simp only [go_sem, simprocAttr, ↓reduceIte]
  refine CallA.goes (by simp only [go_sem, simprocAttr, ↓reduceIte]) (sl_cloneRow σ c h0 (by omega)) fun r σ' ⟨hr, hσ⟩ => ?_
  subst hr hσ
  simp only [go_sem, simprocAttr, ↓reduceIte]
  have hid : (σ ++ [some (SObj.cells 54 (c.map (AV.int .i64)))])[σ.length]? = some (some (.cells 54 (c.map (.int .i64)))) := by simp
  refine CallA.goes (by simp only [go_sem, simprocAttr, ↓reduceIte]) (so_sort _ σ.length c hid hl (fun a b => orL [sgn (a.natAbs : Nat) (b.natAbs : Nat), sgn a b]) _ [] fun a ha b hb => cn_cmp a b (hc a ha).2 (hc b hb).2) fun r σ' ⟨ys, hp, hσ⟩ => ?_
  subst hσ
  simp only [go_sem, simprocAttr, ↓reduceIte]
  have hyl := hp.length_eq
  have hid : (σ ++ [some (SObj.cells 54 (ys.map (AV.int .i64)))])[σ.length]? = some (some (.cells 54 (ys.map (.int .i64)))) := by simp
  rw [← hyl]
  refine CallA.goes (by simp only [go_sem, simprocAttr, ↓reduceIte]) (sl_compact _ σ.length ys hid (by omega) ((List.Perm.nodup_iff hp).2 hnd)) fun r σ' ⟨hr, hσ⟩ => ?_
  subst hr hσ
  simp only [go_sem, simprocAttr, ↓reduceIte]
  refine LoopVC.at [4] (.of (by kernel_rfl)) (fun A => A.st = σ ++ [some (.cells 54 (ys.map (.int .i64)))]) ?_ fun B hst => ?_
  · refine LoopVC.upto [4, 13, 14] (.of (by kernel_rfl)) ys.length (fun i A => A.env 15 = .int .i64 i ∧ A.st = σ ++ [some (.cells 54 (ys.map (.int .i64)))]) 0 (Nat.zero_le _) ?_ fun i B hi ⟨h15, hst⟩ => ?_
    · simp only [go_sem, simprocAttr, ↓reduceIte]
      done
    by_cases hlt : i < ys.length
    · obtain ⟨a, ha⟩ := get_some hlt
      obtain ⟨b, hb⟩ := get_some (show i - 1 < ys.length by omega)
      have hw : IntKind.i64.wrap ((i : Int) - 1) = (i : Int) - 1 := wrap_in (by omega)
      have hn : ((i : Int) - 1).toNat = i - 1 := by omega
      have ham := hc a (hp.subset (List.mem_of_getElem? ha))
      have hbm := hc b (hp.subset (List.mem_of_getElem? hb))
      have ha0 : (a == 0) = false := by simp [ham.1]
      simp only [go_sem, simprocAttr, ↓reduceIte, h15, hst, hw, hn, Nat.zero_add, List.getElem?_map, ha, hb, Option.map_some, live_id hid, ha0, Option.bind_some, Option.isSome_some, Option.getD_some]
      refine fun _ => ⟨hlt, fun hg => by omega, CallP.fnG (fun _ => cn_variable b hbm.2) ?_⟩
      simp only [go_sem, simprocAttr, ↓reduceIte, h15, hst]
      refine CallP.fnG (fun _ => cn_variable a ham.2) ?_
      simp only [go_sem, simprocAttr, ↓reduceIte, h15, hst]
      refine ⟨fun hq => ?_, fun hq => ⟨hlt, int_succ hlt (by rw [maxLen_eq]; omega)⟩⟩
      refine EndR.ret ?_
      simp only [go_sem, simprocAttr, ↓reduceIte, hst]
      refine ⟨_, .refl _, by simp, (Ext.refl _).app _, .inr ⟨rfl, fun M => ?_⟩⟩
      simp only [Bool.and_eq_true, decide_eq_true_eq, beq_iff_eq] at hq
      obtain ⟨hi0, hab⟩ := hq
      have hne : a ≠ b := fun e => by
        obtain ⟨h1, h2⟩ := List.getElem?_eq_some_iff.1 ha
        obtain ⟨h3, h4⟩ := List.getElem?_eq_some_iff.1 hb
        rw [← h2, ← h4] at e
        have := (List.getElem_inj ((List.Perm.nodup_iff hp).2 hnd)).1 e
        omega
      have hneg : b = -a := by omega
      have h1 : a ∈ c := hp.subset (List.mem_of_getElem? ha)
      have h2 : -a ∈ c := by rw [← hneg]; exact hp.subset (List.mem_of_getElem? hb)
      refine List.any_eq_true.2 ?_
      cases ht : litT M a with
      | true => exact ⟨a, h1, ht⟩
      | false => exact ⟨-a, h2, by rw [litT_neg ham.1, ht]; rfl⟩
    · have hd : decide ((i : Int) < (ys.length : Int)) = false := decide_eq_false (by omega)
      simp only [go_sem, simprocAttr, ↓reduceIte, h15, hst, hd]
      try exact fun h => absurd h hlt
  simp only [go_sem, simprocAttr, ↓reduceIte, hst]
  refine EndR.frz (e := 54) (te := 54) (id := σ.length) (off := 0) (m := ys.length) (xs := ys.map (.int .i64)) 2 (by simp only [go_sem, simprocAttr, ↓reduceIte]) (by simp only [go_sem, simprocAttr, ↓reduceIte, hst]) (by simp) (EndR.ret ?_)
  simp only [go_sem, simprocAttr, ↓reduceIte, hst]
  rw [List.take_of_length_le (by simp)]
  exact ⟨_, .refl _, by omega, (Ext.refl _).app _, .inl ⟨ys, hp, rfl⟩⟩

theorem cn_new (σ : Store) (n : Nat) (hn : n ≤ 200) : ACall prog W0 45 [.int .i64 n] σ fun r σ' => r = .ptr 112 σ.length 0 [] ∧ σ' = σ ++ [setO n .nils] := by
  refine fn_call [2] [] func45 rfl rfl ntmps45 rfl rfl fun hs => ?_
  have e1 : minI (n : Int) 200 = n := by unfold minI; split <;> omega
  have e2 : maxI 0 (n : Int) = n := by unfold maxI; split <;> omega
  simp only [go_sem, simprocAttr, ↓reduceIte, e1, e2]
  refine EndR.ret ?_
  simp only [go_sem, simprocAttr, ↓reduceIte]
  exact ⟨_, .refl _, by simp, rfl, rfl⟩

theorem cn_vars (σ : Store) (id n : Nat) (cv : AV) (hid : σ[id]? = some (setO n cv)) : ACall prog W0 112 [.ptr 112 id 0 []] σ fun r σ' => r = .int .i64 n ∧ σ' = σ := by
  refine fn_st [2] [] func112 rfl rfl ntmps112 rfl rfl (.int _ _) fun hs => ?_
  simp only [go_sem, simprocAttr, ↓reduceIte, look_id hid]
  refine EndR.ret ?_
  simp only [go_sem, simprocAttr, ↓reduceIte]
  try exact .refl _

theorem cn_len (σ : Store) (id n : Nat) (cv : AV) (cls : List (List Int)) (hid : σ[id]? = some (setO n cv)) (hb : Bld σ cv 84 (cls.map litsAV)) : ACall prog W0 139 [.ptr 112 id 0 []] σ fun r σ' => r = .int .i64 cls.length ∧ σ' = σ := by
  refine fn_st [2] [] func139 rfl rfl ntmps139 rfl rfl (.int _ _) fun hs => ?_
  simp only [go_sem, simprocAttr, ↓reduceIte, look_id hid, hb.ok, hb.un, hb.len, hb.lenC, List.length_map]
  refine EndR.ret ?_
  simp only [go_sem, simprocAttr, ↓reduceIte]
  try exact .refl _

theorem cn_at (σ : Store) (id n : Nat) (cv : AV) (cls : List (List Int)) (hid : σ[id]? = some (setO n cv)) (hb : Bld σ cv 84 (cls.map litsAV)) (i : Nat) (c : List Int) (hc : cls[i]? = some c) (h0 : c ≠ []) (hl : c.length ≤ 1048576) :
    ACall prog W0 140 [.ptr 112 id 0 [], .int .i64 i] σ fun r σ' => r = litsAV c ∧ σ' = σ := by
  refine fn_st [4] [] func140 rfl rfl ntmps140 rfl rfl (idsLt_mono (Nat.zero_le _) (ids_lits _)) fun hs => ?_
  have hlt := (List.getElem?_eq_some_iff.1 hc).1
  simp only [go_sem, simprocAttr, ↓reduceIte]
  refine CallP.st (fun _ => cn_len σ id n cv cls hid hb) ?_
  simp only [go_sem, simprocAttr, ↓reduceIte]
  have h1 : decide ((cls.length : Int) ≤ (i : Int)) = false := decide_eq_false (by omega)
  have h2 : decide ((i : Int) < 0) = false := decide_eq_false (by omega)
  have h3 : decide (cls.length ≤ i) = false := decide_eq_false (by omega)
  have hm : cls.map litsAV ≠ [] := by
    cases cls with
    | nil => simp at hlt
    | cons => simp
  rcases hb with ⟨rfl, hn⟩ | rfl | ⟨t, rfl, ht⟩
  · exact absurd hn hm
  all_goals
    simp only [go_sem, simprocAttr, ↓reduceIte, h1, h2, h3, look_id hid, List.length_map, atV_map hc]
    refine ⟨hlt, CallA.fn (sl_clone c h0 hl) ?_⟩
    simp only [go_sem, simprocAttr, ↓reduceIte]
    refine EndR.ret ?_
    simp only [go_sem, simprocAttr, ↓reduceIte]
    try exact .refl _

theorem cn_add (σ : Store) (id n : Nat) (cv : AV) (cls : List (List Int)) (hid : σ[id]? = some (setO n cv)) (hb : Bld σ cv 84 (cls.map litsAV)) (hn : n ≤ 200) (hc5 : cls.length < 5000) (c : List Int) (hw : wfC n c = true) (h0 : c ≠ []) (hl : c.length ≤ 12) (hnd : c.Nodup) :
    ACall prog W0 50 [.ptr 112 id 0 [], litsAV c] σ fun r σ' => r = .bool true ∧ Fr (id :: foot cv) σ σ' ∧ ∃ cv' cls', σ'[id]? = some (setO n cv') ∧ Bld σ' cv' 84 (cls'.map litsAV) ∧ (∀ j ∈ foot cv', j ∈ foot cv ∨ σ.length ≤ j) ∧
      (∀ M, setT M cls' = (setT M cls && claT M c)) ∧ cls'.length ≤ cls.length + 1 ∧ ∀ d ∈ cls', d ∈ cls ∨ d.Perm c := by
  refine fn_call [4] [] func50 rfl rfl ntmps50 rfl rfl fun hs => ?_
  have hc : ∀ l ∈ c, l ≠ 0 ∧ l.natAbs ≤ n := fun l hl => by
    have := List.all_eq_true.1 hw l hl
    simpa [wfL] using this
  simp only [go_sem, simprocAttr, ↓reduceIte]
  refine CallA.reads (by simp only [go_sem, simprocAttr, ↓reduceIte]) (cn_may σ id n cv cls hid hb (by omega) hc5 c fun l hl => by have := (hc l hl).2; omega) ?_
  rw [hw]
  simp only [go_sem, simprocAttr, ↓reduceIte]
  refine CallA.goes (by simp only [go_sem, simprocAttr, ↓reduceIte]) (cn_tidy σ c h0 hl hnd fun l hl => ⟨(hc l hl).1, by have := (hc l hl).2; omega⟩) fun r σ' ⟨hx, hr⟩ => ?_
  have hidl := (List.getElem?_eq_some_iff.1 hid).1
  have hid' : σ'[id]? = some (setO n cv) := by rw [(Fr.ext (F := []) hx).old id hidl (by simp), hid]
  have hb' : Bld σ' cv 84 (cls.map litsAV) := hb.keep fun j hj => (Fr.ext (F := []) hx).old j (hb.lt j hj) (by simp)
  rcases hr with ⟨d, hp, rfl⟩ | ⟨rfl, hM⟩
  · simp only [go_sem, simprocAttr, ↓reduceIte]
    refine JoinVC.both (fun _ => ?_) (fun h => by cases h)
    simp only [go_sem, simprocAttr, ↓reduceIte, look_id hid', hb'.ok, hb'.un]
    refine AppA.ownS (σ := σ') (by simp only [go_sem, simprocAttr, ↓reduceIte]) 1048576 (by kernel_rfl) hb' (.lit _ _ _) (by simp; omega) fun v' σ'' ha => ?_
    have hf := ha.fr
    have hidl' := (List.getElem?_eq_some_iff.1 hid').1
    have hid'' : σ''[id]? = some (setO n cv) := by rw [hf.old id hidl' (hb'.ne hid' (by simp)), hid']
    have hbv := ha.bld
    simp only [go_sem, simprocAttr, ↓reduceIte, look_id hid'', setLook_id hid'', hbv.ok, hbv.un, hbv.fits]
    refine EndR.ret ?_
    simp only [go_sem, simprocAttr, ↓reduceIte]
    have hne : id ∉ foot v' := hbv.ne hid'' (by simp)
    refine ⟨_, .refl _, by have := hf.len; have := hx.le; simp; omega, rfl, ?_, v', cls ++ [d], ?_, ?_, ?_, ?_, ?_, ?_⟩
    · exact ((Fr.ext (F := id :: foot cv) hx).trans (hf.mono (G := id :: foot cv) fun j hj => by simp [hj]) fun j hj => .inl hj).set (.inl (by simp)) _
    · have := hf.len; simp [show id < σ''.length by omega]; rfl
    · rw [List.map_append]
      exact hbv.keep fun j hj => List.getElem?_set_ne (fun e => hne (by rw [e]; exact hj))
    · exact fun j hj => (ha.foot hb' j hj).imp_right fun h => by have := hx.le; omega
    · exact fun M => by simp only [setT, List.all_append, List.all_cons, List.all_nil, Bool.and_true]; rw [claT_perm (M := M) fun l => hp.mem_iff]
    · simp
    · exact fun e he => (List.mem_append.1 he).imp_right fun h => by rw [List.mem_singleton.1 h]; exact hp
  · simp only [go_sem, simprocAttr, ↓reduceIte]
    refine JoinVC.both (fun h => by cases h) (fun _ => ?_)
    simp only [go_sem, simprocAttr, ↓reduceIte]
    refine EndR.ret ?_
    simp only [go_sem, simprocAttr, ↓reduceIte]
    refine ⟨_, .refl _, hx.le, rfl, .ext hx, cv, cls, hid', hb', fun j hj => .inl hj, fun M => by rw [hM, Bool.and_true], by omega, fun d hd => .inl hd⟩
end Go.Proofs.Tryz
end
section
namespace Go.Proofs.Tryz
open Go Go.Av
set_option maxRecDepth 10000
set_option linter.unusedSimpArgs false
set_option linter.unusedVariables false
variable {W0 : World}

def trailO (cv : AV) (vid n : Nat) (ov lv : AV) : Option SObj := some (.cells 157 [.agg 157 [cv, .row 3 vid 0 (n + 1), ov, lv]])

/-- A trail in memory: its clauses, what each variable is, the literals in order, where levels begin. -/
structure Trail (st : Store) (tid : Nat) (cv : AV) (vid : Nat) (ov lv : AV) (n : Nat) (cls : List (List Int)) (ord : List Int) (lev : List Nat) : Prop where
  hobj : st[tid]? = some (trailO cv vid n ov lv)
  hcls : Bld st cv 84 (cls.map litsAV)
  hvals : st[vid]? = some (some (.cells 3 ((vals n ord).map (.int .i64))))
  hord : RowV st ov 54 (ord.map (.int .i64))
  hlev : RowV st lv 3 (lev.map fun k => .int .i64 (k : Nat))
  hne : vid ∉ foot lv
  good : GoodOrd n ord
  small : n ≤ 200
  clen : cls.length ≤ 5000
  wf : ∀ c ∈ cls, ∀ l ∈ c, l ≠ 0 ∧ l.natAbs ≤ n

variable {σ : Store} {tid vid n : Nat} {cv ov lv : AV} {cls : List (List Int)} {ord : List Int} {lev : List Nat}

theorem pr_of (h : Trail σ tid cv vid ov lv n cls ord lev) (l : Int) (h0 : l ≠ 0) (hl : l.natAbs ≤ n) :
    ACall prog W0 142 [.ptr 157 tid 0 [], .int .i64 l] σ fun r σ' => r = .int .i64 (valT ord l) ∧ σ' = σ := by
  refine fn_st [4] [] func142 rfl rfl ntmps142 rfl rfl (.int _ _) fun hs => ?_
  have hn := h.small
  have hg := vals_get (ord := ord) hl
  simp only [go_sem, simprocAttr, ↓reduceIte, look_id h.hobj, look_id h.hvals, live_id h.hvals]
  refine ⟨fun hneg => ?_, fun hpos => ?_⟩
  · have hw : IntKind.i64.wrap (-l) = -l := wrap_in (by omega)
    have ha : (-l).toNat = l.natAbs := by omega
    have he : ((l.natAbs : Nat) : Int) = -l := by omega
    rw [he, valT_neg h.good] at hg
    simp only [go_sem, simprocAttr, ↓reduceIte, look_id h.hobj, look_id h.hvals, live_id h.hvals, hw, ha, Nat.zero_add, List.getElem?_map, hg, Option.map_some]
    refine ⟨by omega, EndR.ret ?_⟩
    simp only [go_sem, simprocAttr, ↓reduceIte]
    rcases valT_cases ord l with ⟨h1, _⟩ | ⟨h1, _⟩ | ⟨h1, _⟩ <;> rw [h1] <;> exact weak_int rfl
  · have ha : l.toNat = l.natAbs := by omega
    have he : ((l.natAbs : Nat) : Int) = l := by omega
    rw [he] at hg
    simp only [go_sem, simprocAttr, ↓reduceIte, look_id h.hobj, look_id h.hvals, live_id h.hvals, ha, Nat.zero_add, List.getElem?_map, hg, Option.map_some]
    refine ⟨by omega, EndR.ret ?_⟩
    simp only [go_sem, simprocAttr, ↓reduceIte]
    try exact .refl _

theorem pr_forced (h : Trail σ tid cv vid ov lv n cls ord lev) (c : List Int) (hc : ∀ l ∈ c, l ≠ 0 ∧ l.natAbs ≤ n) :
    ACall prog W0 165 [.ptr 157 tid 0 [], litsAV c] σ fun r σ' => r = .int .i64 (forcedL ord c 0) ∧ σ' = σ := by
  refine fn_st [4] [] func165 rfl rfl ntmps165 rfl rfl (.int _ _) fun hs => ?_
  have hcl := (small_map (hs (litsAV c) (by simp))).1
  simp only [go_sem, simprocAttr, ↓reduceIte, litsAV, List.length_map]
  refine LoopVC.upto [0, 9, 10] (.of (by kernel_rfl)) c.length (fun i A => ∃ out : Int, A.env 11 = .int .i64 i ∧ A.env 5 = .int .i64 out ∧ A.st = σ ∧ forcedL ord (c.drop i) out = forcedL ord c 0) 0 (Nat.zero_le _) ?_ fun i B hi ⟨out, h11, h5, hst, hI⟩ => ?_
  · simp only [go_sem, simprocAttr, ↓reduceIte]
    exact ⟨0, rfl, rfl⟩
  simp only [go_sem, simprocAttr, ↓reduceIte, h11, h5, hst, List.length_map]
  refine ⟨fun hlt => ⟨hlt, ?_⟩, fun hge => EndR.ret ?_⟩
  · obtain ⟨l, hl⟩ := get_some hlt
    obtain ⟨hlt', hle⟩ := List.getElem?_eq_some_iff.1 hl
    have hlc := hc l (List.mem_of_getElem? hl)
    rw [List.drop_eq_getElem_cons hlt', hle, forcedL] at hI
    simp only [atV_map hl]
    simp only [go_sem, simprocAttr, ↓reduceIte, h11, h5, hst]
    refine CallA.reads (by simp only [go_sem, simprocAttr, ↓reduceIte, hst]) (pr_of h l hlc.1 hlc.2) ?_
    simp only [go_sem, simprocAttr, ↓reduceIte, h11, h5, hst]
    have key : (decide (0 < valT ord l) || (valT ord l == 0 && out != 0)) = decide (0 < valT ord l ∨ (valT ord l = 0 ∧ out ≠ 0)) := by
      rw [Bool.eq_iff_iff]; simp
    simp only [key]
    refine ⟨fun hb => EndR.ret ?_, fun hb => ?_⟩
    · simp only [go_sem, simprocAttr, ↓reduceIte, hst]
      rw [if_pos (of_decide_eq_true hb)] at hI
      exact weak_int hI
    · rw [if_neg (of_decide_eq_false hb)] at hI
      refine ⟨fun hz => ⟨hlt, l, int_succ hlt hcl, rfl, by rw [if_pos hz] at hI; exact hI⟩, fun hz => ⟨hlt, out, int_succ hlt hcl, rfl, by rw [if_neg hz] at hI; exact hI⟩⟩
  · simp only [go_sem, simprocAttr, ↓reduceIte, hst]
    rw [List.drop_eq_nil_of_le hge] at hI
    exact weak_int hI

theorem pr_take (h : Trail σ tid cv vid ov lv n cls ord lev) (l : Int) (h0 : l ≠ 0) (hl : l.natAbs ≤ n) (hv : valT ord l = 0) :
    ACall prog W0 143 [.ptr 157 tid 0 [], .int .i64 l] σ fun r σ' => Fr (tid :: vid :: foot ov) σ σ' ∧ ∃ ov', Trail σ' tid cv vid ov' lv n cls (ord ++ [l]) lev ∧ ∀ j ∈ foot ov', j ∈ foot ov ∨ σ.length ≤ j := by
  refine fn_call [] [] func143 rfl rfl ntmps143 rfl rfl fun hs => ?_
  have hn := h.small
  have hlen := h.good.len
  have hg := h.good.app h0 hl hv
  have ho := h.hord.st
  simp only [go_sem, simprocAttr, ↓reduceIte, look_id h.hobj, ho.ok, ho.un]
  refine AppA.rowS (σ := σ) (by simp only [go_sem, simprocAttr, ↓reduceIte]) 1048576 (by kernel_rfl) h.hord (.lit _ _ _) (by simp; omega) fun ov' σ1 ha => ?_
  have hr := ha.row.st
  have t1 : tid < σ.length := (List.getElem?_eq_some_iff.1 h.hobj).1
  have hobj1 : σ1[tid]? = some (trailO cv vid n ov lv) := by rw [ha.fr.old tid t1 (h.hord.ne h.hobj (by decide)), h.hobj]
  have t1' := (List.getElem?_eq_some_iff.1 hobj1).1
  have v1 : vid < σ.length := (List.getElem?_eq_some_iff.1 h.hvals).1
  have htv : tid ≠ vid := fun e => by have := h.hobj; rw [e, h.hvals] at this; simp [trailO] at this
  have hvals1 : σ1[vid]? = some (some (.cells 3 ((vals n ord).map (.int .i64)))) := by rw [ha.fr.old vid v1 (h.hord.ne h.hvals (by decide)), h.hvals]
  have hvals2 : ∀ o, (σ1.set tid o)[vid]? = some (some (.cells 3 ((vals n ord).map (.int .i64)))) := fun o => by rw [List.getElem?_set_ne htv, hvals1]
  have v1' := (List.getElem?_eq_some_iff.1 hvals1).1
  have fin : ∀ x : Int, x = (if 0 < l then 1 else -1) → ∀ st, st = (σ1.set tid (trailO cv vid n ov' lv)).set vid (some (.cells 3 (((vals n ord).map (AV.int .i64)).set l.natAbs (.int .i64 x)))) →
      σ.length ≤ st.length ∧ Fr (tid :: vid :: foot ov) σ st ∧ ∃ ov', Trail st tid cv vid ov' lv n cls (ord ++ [l]) lev ∧ ∀ j ∈ foot ov', j ∈ foot ov ∨ σ.length ≤ j := fun x hx st hst => by
    have fr : Fr (tid :: vid :: foot ov) σ st := by
      rw [hst]
      exact ((ha.fr.mono fun j hj => by simp [hj]).set (.inl (by simp)) _).set (.inl (by simp)) _
    have old : ∀ j, j ≠ tid → j ≠ vid → st[j]? = σ1[j]? := fun j h1 h2 => by rw [hst, List.getElem?_set_ne (fun e => h2 e.symm), List.getElem?_set_ne (fun e => h1 e.symm)]
    have hor1 := ha.row
    refine ⟨fr.len, fr, ov', ⟨?_, ?_, ?_, ?_, ?_, h.hne, hg, h.small, h.clen, h.wf⟩, ha.foot⟩
    · rw [hst, List.getElem?_set_ne (fun e => htv e.symm)]; simp [t1']
    · refine h.hcls.keep fun j hj => ?_
      have hjl := h.hcls.lt j hj
      have e1 : j ≠ tid := fun e => h.hcls.ne h.hobj (by simp) (e ▸ hj)
      have e2 : j ≠ vid := fun e => h.hcls.ne h.hvals (by simp) (e ▸ hj)
      rw [old j e1 e2]
      refine ha.fr.old j hjl fun e => ?_
      rcases h.hcls with ⟨rfl, _⟩ | h1 | ⟨t, rfl, h1⟩
      · simp [foot] at hj
      · rw [h1] at hj; simp [foot] at hj
      · simp [foot] at hj
        subst hj
        rcases h.hord with ⟨rfl, _⟩ | ⟨id, off, m, zs, rfl, h2, _⟩
        · simp [foot] at e
        · simp [foot] at e; subst e; rw [h1] at h2; cases h2
    · rw [hst, List.getElem?_set_self (by simpa using v1'), vals_app hg, List.map_set, hx]
    · refine RowV.keep (by rw [List.map_append]; exact hor1) fun j hj => old j (fun e => ?_) (fun e => ?_)
      · exact hor1.ne hobj1 (by decide) (e ▸ hj)
      · exact hor1.ne hvals1 (by decide) (e ▸ hj)
    · refine h.hlev.keep fun j hj => ?_
      have hjl := h.hlev.lt j hj
      have e1 : j ≠ tid := fun e => h.hlev.ne h.hobj (by decide) (e ▸ hj)
      have e2 : j ≠ vid := fun e => h.hne (e ▸ hj)
      rw [old j e1 e2]
      refine ha.fr.old j hjl fun e => ?_
      rcases h.hlev with ⟨rfl, _⟩ | ⟨id, off, m, zs, rfl, h1, _⟩
      · simp [foot] at hj
      · simp [foot] at hj
        subst hj
        exact h.hord.ne h1 (by decide) e
  simp only [go_sem, simprocAttr, ↓reduceIte, look_id hobj1, setLook_id hobj1, hr.ok, hr.un, hr.fits]
  have hll : l.natAbs < ((vals n ord).map (AV.int .i64)).length := by rw [List.length_map, vals_len]; omega
  obtain ⟨y, hy⟩ := get_some hll
  refine ⟨fun hneg => ?_, fun hpos => ?_⟩
  · have hw : IntKind.i64.wrap (-l) = -l := wrap_in (by omega)
    have ha : (-l).toNat = l.natAbs := by omega
    simp only [go_sem, simprocAttr, ↓reduceIte, look_set t1', look_id (hvals2 _), live_id (hvals2 _), setLook_id (hvals2 _), hw, ha, Nat.zero_add, hy, Option.bind_some, Option.isSome_some]
    refine ⟨by omega, EndR.normal ?_⟩
    simp only [go_sem, simprocAttr, ↓reduceIte]
    exact ⟨_, .refl _, fin (-1) (by rw [if_neg (by omega)]) _ rfl⟩
  · have ha : l.toNat = l.natAbs := by omega
    simp only [go_sem, simprocAttr, ↓reduceIte, look_set t1', look_id (hvals2 _), live_id (hvals2 _), setLook_id (hvals2 _), ha, Nat.zero_add, hy, Option.bind_some, Option.isSome_some]
    refine ⟨by omega, EndR.normal ?_⟩
    simp only [go_sem, simprocAttr, ↓reduceIte]
    exact ⟨_, .refl _, fin 1 (by rw [if_pos (by omega)]) _ rfl⟩
end Go.Proofs.Tryz
end
section
namespace Go.Proofs.Tryz
open Go Go.Av
set_option maxRecDepth 10000
set_option linter.unusedSimpArgs false
set_option linter.unusedVariables false
variable {W0 : World}
variable {σ : Store} {tid vid n : Nat} {cv ov lv : AV} {cls : List (List Int)} {ord : List Int} {lev : List Nat}

/-- A trail that has been followed for a while. -/
structure Foll (σ st : Store) (tid : Nat) (cv : AV) (vid : Nat) (ov ov' lv : AV) (n : Nat) (cls : List (List Int)) (ord ord' : List Int) (lev : List Nat) : Prop where
  tr : Trail st tid cv vid ov' lv n cls ord' lev
  fr : Fr (tid :: vid :: foot ov) σ st
  ft : ∀ j ∈ foot ov', j ∈ foot ov ∨ σ.length ≤ j
  pre : ∃ fs, ord' = ord ++ fs
  snd : ∀ M, setT M cls = true → Agr M ord → Agr M ord'

theorem Foll.refl (h : Trail σ tid cv vid ov lv n cls ord lev) : Foll σ σ tid cv vid ov ov lv n cls ord ord lev := ⟨h, .refl _ _, fun j hj => .inl hj, ⟨[], by simp⟩, fun M _ h => h⟩

theorem Foll.step {st st2 : Store} {ov' ov2 : AV} {ord' c : List Int} (h : Foll σ st tid cv vid ov ov' lv n cls ord ord' lev) (hc : c ∈ cls) (hf : forcedL ord' c 0 ≠ 0) (fr : Fr (tid :: vid :: foot ov') st st2) (tr : Trail st2 tid cv vid ov2 lv n cls (ord' ++ [forcedL ord' c 0]) lev) (ft : ∀ j ∈ foot ov2, j ∈ foot ov' ∨ st.length ≤ j) : Foll σ st2 tid cv vid ov ov2 lv n cls ord (ord' ++ [forcedL ord' c 0]) lev := by
  refine ⟨tr, h.fr.trans fr fun j hj => ?_, fun j hj => ?_, ?_, fun M hM ha l hl => ?_⟩
  · rcases List.mem_cons.1 hj with rfl | hj
    · exact .inl (by simp)
    rcases List.mem_cons.1 hj with rfl | hj
    · exact .inl (by simp)
    exact (h.ft j hj).imp_left fun h => by simp [h]
  · rcases ft j hj with h1 | h1
    · exact h.ft j h1
    · have := h.fr.len; exact .inr (by omega)
  · obtain ⟨fs, e⟩ := h.pre
    exact ⟨fs ++ [forcedL ord' c 0], by rw [e, List.append_assoc]⟩
  · rcases List.mem_append.1 hl with h1 | h1
    · exact h.snd M hM ha l h1
    · rw [List.mem_singleton.1 h1]
      exact forced_agr (h.snd M hM ha) h.tr.good (fun l hl => (h.tr.wf c hc l hl).1) (List.all_eq_true.1 hM c hc) hf

theorem pr_follow (h : Trail σ tid cv vid ov lv n cls ord lev) :
    ACall prog W0 141 [.ptr 157 tid 0 []] σ fun r σ' => ∃ ov' ord', Foll σ σ' tid cv vid ov ov' lv n cls ord ord' lev := by
  refine fn_call [] [] func141 rfl rfl ntmps141 rfl rfl fun hs => ?_
  simp only [go_sem, simprocAttr, ↓reduceIte]
  refine LoopVC.falls [0] (.of (by kernel_rfl)) (fun k A => ∃ b ov' ord', A.env 2 = .bool b ∧ Foll σ A.st tid cv vid ov ov' lv n cls ord ord' lev ∧ k = 2 * (n - ord'.length) + (if b = true then 1 else 0)) (2 * (n - ord.length) + 1) ⟨true, ov, ord, ?_⟩ fun k B ⟨b, ov', ord', h2, hF, hk⟩ => ?_
  · simp only [go_sem, simprocAttr, ↓reduceIte]
    exact .refl h
  simp only [go_sem, simprocAttr, ↓reduceIte, h2]
  refine ⟨fun hb => ?_, fun hb => EndR.normal ?_⟩
  · subst hb
    have hb := hF.tr.hcls
    simp only [go_sem, simprocAttr, ↓reduceIte, look_id hF.tr.hobj, hb.ok, hb.un, hb.len, hb.lenC, List.length_map]
    refine LoopVC.ats [0] (.of (by kernel_rfl)) (fun A => ∃ b ov2 ord2, A.env 2 = .bool b ∧ Foll σ A.st tid cv vid ov ov2 lv n cls ord ord2 lev ∧ ord'.length ≤ ord2.length ∧ (b = true → ord'.length < ord2.length)) ?_ fun A ⟨b, ov2, ord2, h2, hF2, hl1, hl2⟩ => ?_
    · refine LoopVC.upto [0, 10, 11] (.of (by kernel_rfl)) cls.length (fun i A => A.env 12 = .int .i64 i ∧ ∃ b ov2 ord2, A.env 2 = .bool b ∧ Foll σ A.st tid cv vid ov ov2 lv n cls ord ord2 lev ∧ ord'.length ≤ ord2.length ∧ (b = true → ord'.length < ord2.length)) 0 (Nat.zero_le _) ?_ fun i A hi ⟨h12, b, ov2, ord2, h2, hF2, hl1, hl2⟩ => ?_
      · simp only [go_sem, simprocAttr, ↓reduceIte]
        exact ⟨false, ov', ord', rfl, hF, Nat.le_refl _, fun h => by cases h⟩
      simp only [go_sem, simprocAttr, ↓reduceIte, h12, h2]
      refine ⟨fun hlt => ?_, fun hge => ⟨b, ov2, ord2, rfl, hF2, hl1, hl2⟩⟩
      obtain ⟨c, hc⟩ := get_some hlt
      have hcm := List.mem_of_getElem? hc
      have h0 : 0 < (cls.map litsAV).length := by rw [List.length_map]; omega
      simp only [go_sem, simprocAttr, ↓reduceIte, h12, h2, hb.ok, hb.un, hb.idxV h0, hb.idxC h0, List.length_map, atV_map hc]
      refine ⟨hlt, CallA.reads (by simp only [go_sem, simprocAttr, ↓reduceIte]) (pr_forced hF2.tr c (hF2.tr.wf c hcm)) ?_⟩
      simp only [go_sem, simprocAttr, ↓reduceIte, h12, h2]
      refine ⟨fun hf => ?_, fun hf => ?_⟩
      · obtain ⟨g1, g2⟩ | ⟨_, g2, g3, g4⟩ := forcedL_sound c 0 (fun l hl => (hF2.tr.wf c hcm l hl).1) hf
        · exact absurd g1 hf
        have hw := hF2.tr.wf c hcm _ g2
        refine CallA.goes (by simp only [go_sem, simprocAttr, ↓reduceIte]) (pr_take hF2.tr _ hw.1 hw.2 g3) fun r σ' ⟨fr, ov3, tr, ft⟩ => ?_
        simp only [go_sem, simprocAttr, ↓reduceIte, h12]
        exact ⟨hlt, int_succ hlt (by have := h.clen; rw [maxLen_eq]; omega), true, ov3, _, rfl, hF2.step hcm hf fr tr ft, by simp; omega, fun _ => by simp; omega⟩
      · exact ⟨hlt, int_succ hlt (by have := h.clen; rw [maxLen_eq]; omega), b, ov2, ord2, rfl, hF2, hl1, hl2⟩
    simp only [go_sem, simprocAttr, ↓reduceIte, h2]
    have g1 := hF.tr.good.len
    have g2 := hF2.tr.good.len
    refine .here (2 * (n - ord2.length) + (if b = true then 1 else 0)) ?_ ⟨b, ov2, ord2, h2, hF2, rfl⟩
    rw [hk, if_pos rfl]
    cases b with
    | true => have := hl2 rfl; simp; omega
    | false => simp; omega
  · simp only [go_sem, simprocAttr, ↓reduceIte]
    exact ⟨_, .refl _, hF.fr.len, ov', ord', hF⟩
end Go.Proofs.Tryz
end
section
namespace Go.Proofs.Tryz
open Go Go.Av
set_option maxRecDepth 10000
set_option linter.unusedSimpArgs false
set_option linter.unusedVariables false
variable {W0 : World}
variable {σ : Store} {tid vid n : Nat} {cv ov lv : AV} {cls : List (List Int)} {ord : List Int} {lev : List Nat}

theorem pr_clash2 (h : Trail σ tid cv vid ov lv n cls ord lev) (l : Int) (h0 : l ≠ 0) (hl : l.natAbs ≤ n) :
    ACall prog W0 146 [.int .i64 l, .loc 125 (.ptr 157 tid 0 [])] σ fun r σ' => r = .bool (decide (0 ≤ valT ord l)) ∧ σ' = σ := by
  refine fn_st [3] [] func146 rfl rfl ntmps146 rfl rfl (.bool _) fun hs => ?_
  simp only [go_sem, simprocAttr, ↓reduceIte]
  refine CallA.reads (by simp only [go_sem, simprocAttr, ↓reduceIte]) (pr_of h l h0 hl) ?_
  simp only [go_sem, simprocAttr, ↓reduceIte]
  refine EndR.ret ?_
  simp only [go_sem, simprocAttr, ↓reduceIte]
  try exact .refl _

theorem pr_clash1 (h : Trail σ tid cv vid ov lv n cls ord lev) (c : List Int) (hc : ∀ l ∈ c, l ≠ 0 ∧ l.natAbs ≤ n) :
    ACall prog W0 145 [litsAV c, .loc 125 (.ptr 157 tid 0 [])] σ fun r σ' => r = .bool (lostC ord c) ∧ σ' = σ := by
  refine fn_st [3] [] func145 rfl rfl ntmps145 rfl rfl (.bool _) fun hs => ?_
  simp only [go_sem, simprocAttr, ↓reduceIte]
  refine CallA.reads (by simp only [go_sem, simprocAttr, ↓reduceIte]) (anLitR (.int .i64) NotM.int64 c (fun l => decide (0 ≤ valT ord l)) _ [.loc 125 (.ptr 157 tid 0 [])] σ fun l hl => pr_clash2 h l (hc l hl).1 (hc l hl).2) ?_
  simp only [go_sem, simprocAttr, ↓reduceIte]
  refine EndR.ret ?_
  simp only [go_sem, simprocAttr, ↓reduceIte]
  try exact .refl _

theorem pr_clash (h : Trail σ tid cv vid ov lv n cls ord lev) :
    ACall prog W0 115 [.ptr 157 tid 0 []] σ fun r σ' => r = .int .i64 (idxL (lostC ord) cls) ∧ σ' = σ := by
  refine fn_st [2] [1] func115 rfl rfl ntmps115 rfl rfl (.int _ _) fun hs => ?_
  have hb := h.hcls
  simp only [go_sem, simprocAttr, ↓reduceIte, look_id h.hobj, hb.ok, hb.un]
  refine CallA.reads (by simp only [go_sem, simprocAttr, ↓reduceIte]) ((ixLitsR litsAV NotM.lits cls (lostC ord) _ [.loc 125 (.ptr 157 tid 0 [])] σ fun c hc => pr_clash1 h c (h.wf c hc)).weak (.cons hb.weak (.cons (.refl _) .nil))) ?_
  simp only [go_sem, simprocAttr, ↓reduceIte]
  refine EndR.ret ?_
  simp only [go_sem, simprocAttr, ↓reduceIte]
  try exact .refl _

theorem pr_levels (h : Trail σ tid cv vid ov lv n cls ord lev) :
    ACall prog W0 166 [.ptr 157 tid 0 []] σ fun r σ' => r = .int .i64 lev.length ∧ σ' = σ := by
  refine fn_st [2] [] func166 rfl rfl ntmps166 rfl rfl (.int _ _) fun hs => ?_
  have hb := h.hlev.st
  simp only [go_sem, simprocAttr, ↓reduceIte, look_id h.hobj, hb.ok, hb.un, hb.len, hb.lenC, List.length_map]
  refine EndR.ret ?_
  simp only [go_sem, simprocAttr, ↓reduceIte]
  try exact .refl _

theorem pr_value (h : Trail σ tid cv vid ov lv n cls ord lev) (v : Nat) (h0 : 0 < v) (hv : v ≤ n) :
    ACall prog W0 82 [.ptr 157 tid 0 [], .int .i64 v] σ fun r σ' => r = .int .i64 (valT ord v) ∧ σ' = σ := by
  refine fn_st [4] [] func82 rfl rfl ntmps82 rfl rfl (.int _ _) fun hs => ?_
  have h1 : decide ((v : Int) < 1) = false := decide_eq_false (by omega)
  have h2 : decide (((n + 1 : Nat) : Int) ≤ (v : Int)) = false := decide_eq_false (by omega)
  have hg := vals_get (ord := ord) hv
  simp only [go_sem, simprocAttr, ↓reduceIte, look_id h.hobj, look_id h.hvals, live_id h.hvals, h1, h2, Nat.zero_add, List.getElem?_map, hg, Option.map_some]
  refine ⟨fun h => absurd h (by omega), fun _ => ⟨by omega, EndR.ret ?_⟩⟩
  simp only [go_sem, simprocAttr, ↓reduceIte]
  try exact .refl _

theorem Trail.ids (h : Trail σ tid cv vid ov lv n cls ord lev) : tid < σ.length ∧ vid < σ.length ∧ tid ≠ vid := ⟨(List.getElem?_eq_some_iff.1 h.hobj).1, (List.getElem?_eq_some_iff.1 h.hvals).1, fun e => by have := h.hobj; rw [e, h.hvals] at this; simp [trailO] at this⟩
theorem Trail.tok (h : Trail σ tid cv vid ov lv n cls ord lev) {j : Nat} (hj : j ∈ foot cv) : j ≠ tid ∧ j ≠ vid ∧ j ∉ foot ov ∧ j ∉ foot lv := by
  refine ⟨fun e => h.hcls.ne h.hobj (by simp) (e ▸ hj), fun e => h.hcls.ne h.hvals (by simp) (e ▸ hj), fun e => ?_, fun e => ?_⟩
  · rcases h.hord with ⟨rfl, _⟩ | ⟨id, off, m, zs, rfl, h2, _⟩
    · simp [foot] at e
    · simp [foot] at e; subst e; exact h.hcls.ne h2 (by simp) hj
  · rcases h.hlev with ⟨rfl, _⟩ | ⟨id, off, m, zs, rfl, h2, _⟩
    · simp [foot] at e
    · simp [foot] at e; subst e; exact h.hcls.ne h2 (by simp) hj
theorem Trail.ovs (h : Trail σ tid cv vid ov lv n cls ord lev) {j : Nat} (hj : j ∈ foot ov) : j ≠ tid ∧ j ≠ vid ∧ j ∉ foot lv := by
  refine ⟨fun e => h.hord.ne h.hobj (by decide) (e ▸ hj), fun e => h.hord.ne h.hvals (by decide) (e ▸ hj), fun e => ?_⟩
  rcases h.hlev with ⟨rfl, _⟩ | ⟨id, off, m, zs, rfl, h2, _⟩
  · simp [foot] at e
  · simp [foot] at e; subst e; exact h.hord.ne h2 (by decide) hj
theorem Trail.lvs (h : Trail σ tid cv vid ov lv n cls ord lev) {j : Nat} (hj : j ∈ foot lv) : j ≠ tid ∧ j ≠ vid := ⟨fun e => h.hlev.ne h.hobj (by decide) (e ▸ hj), fun e => h.hne (e ▸ hj)⟩

/-- New levels. -/
theorem Trail.levs (h : Trail σ tid cv vid ov lv n cls ord lev) {lv' : AV} {σ1 : Store} {lev2 : List Nat} (hf : Fr (foot lv) σ σ1) (hr : RowV σ1 lv' 3 (lev2.map fun k => .int .i64 (k : Nat))) (hft : ∀ j ∈ foot lv', j ∈ foot lv ∨ σ.length ≤ j) :
    σ1[tid]? = some (trailO cv vid n ov lv) ∧ Trail (σ1.set tid (trailO cv vid n ov lv')) tid cv vid ov lv' n cls ord lev2 := by
  obtain ⟨i1, i2, i3⟩ := h.ids
  have o1 : σ1[tid]? = some (trailO cv vid n ov lv) := by rw [hf.old tid i1 (fun e => (h.lvs e).1 rfl), h.hobj]
  have t1 := (List.getElem?_eq_some_iff.1 o1).1
  have old : ∀ j, j ≠ tid → j < σ.length → j ∉ foot lv → (σ1.set tid (trailO cv vid n ov lv'))[j]? = σ[j]? := fun j e1 e2 e3 => by rw [List.getElem?_set_ne (fun e => e1 e.symm), hf.old j e2 e3]
  refine ⟨o1, by simp [t1], ?_, ?_, ?_, ?_, fun e => ?_, h.good, h.small, h.clen, h.wf⟩
  · exact h.hcls.keep fun j hj => old j (h.tok hj).1 (h.hcls.lt j hj) (h.tok hj).2.2.2
  · rw [old vid (fun e => i3 e.symm) i2 h.hne, h.hvals]
  · exact h.hord.keep fun j hj => old j (h.ovs hj).1 (h.hord.lt j hj) (h.ovs hj).2.2
  · exact hr.keep fun j hj => List.getElem?_set_ne fun e => by
      rcases hft j hj with h1 | h1
      · exact (h.lvs h1).1 e.symm
      · omega
  · rcases hft vid e with h1 | h1
    · exact h.hne h1
    · omega

theorem pr_push (h : Trail σ tid cv vid ov lv n cls ord lev) (l : Int) (h0 : l ≠ 0) (hl : l.natAbs ≤ n) (hv : valT ord l = 0) (hc : cls.any (lostC ord) = false) (hlv : lev.length ≤ 100000) :
    ACall prog W0 114 [.ptr 157 tid 0 [], .int .i64 l] σ fun r σ' => r = .bool true ∧ ∃ ov' lv' fs, Trail σ' tid cv vid ov' lv' n cls (ord ++ l :: fs) (lev ++ [ord.length]) ∧ Fr (tid :: vid :: (foot ov ++ foot lv)) σ σ' ∧ (∀ j ∈ foot ov' ++ foot lv', j ∈ foot ov ++ foot lv ∨ σ.length ≤ j) ∧ ∀ M, setT M cls = true → Agr M (ord ++ [l]) → Agr M (ord ++ l :: fs) := by
  refine fn_call [4] [2000052, 4000003] func114 rfl rfl ntmps114 rfl rfl fun hs => ?_
  have hn := h.small
  have hw : IntKind.i64.wrap (-((n + 1 : Nat) : Int)) = -((n + 1 : Nat) : Int) := wrap_in (by omega)
  have e1 : (l == 0) = false := by simp [h0]
  have e2 : decide (l ≤ -((n + 1 : Nat) : Int)) = false := decide_eq_false (by omega)
  have e3 : decide (((n + 1 : Nat) : Int) ≤ l) = false := decide_eq_false (by omega)
  simp only [go_sem, simprocAttr, ↓reduceIte, look_id h.hobj, hw, e1, e2, e3, Bool.or_false]
  refine CallP.st (fun _ => pr_of h l h0 hl) ?_
  simp only [go_sem, simprocAttr, ↓reduceIte, hv]
  refine CallP.st (fun _ => pr_clash h) ?_
  have e4 : decide (0 ≤ idxL (lostC ord) cls) = false := by rw [idxL_ge, hc]
  have hov := h.hord.st
  have hlvs := h.hlev.st
  simp only [go_sem, simprocAttr, ↓reduceIte, e4, look_id h.hobj, hov.ok, hov.un, hov.len, hov.lenC, hlvs.ok, hlvs.un, List.length_map]
  refine ⟨.of (by kernel_rfl), AppA.rowS (σ := σ) (by simp only [go_sem, simprocAttr, ↓reduceIte]) 1048576 (by kernel_rfl) h.hlev (.lit _ _ _) (by simp; omega) fun lv' σ1 ha => ?_⟩
  have hr' : RowV σ1 lv' 3 ((lev ++ [ord.length]).map fun k => .int .i64 (k : Nat)) := by rw [List.map_append]; exact ha.row
  obtain ⟨o1, h2⟩ := h.levs ha.fr hr' ha.foot
  have hr := ha.row.st
  simp only [go_sem, simprocAttr, ↓reduceIte, look_id o1, setLook_id o1, hr.ok, hr.un, hr.fits]
  refine CallA.goes (by simp only [go_sem, simprocAttr, ↓reduceIte, trailO]) (pr_take h2 l h0 hl hv) fun r σ3 ⟨fr3, ov3, h3, ft3⟩ => ?_
  simp only [go_sem, simprocAttr, ↓reduceIte]
  refine CallA.goes (by simp only [go_sem, simprocAttr, ↓reduceIte]) (pr_follow h3) fun r σ4 ⟨ov4, ord4, hF⟩ => ?_
  simp only [go_sem, simprocAttr, ↓reduceIte]
  refine EndR.ret ?_
  simp only [go_sem, simprocAttr, ↓reduceIte]
  obtain ⟨fs, hfs⟩ := hF.pre
  rw [List.append_assoc, List.singleton_append] at hfs
  subst hfs
  have hl1 := ha.fr.len
  have hl3 : σ.length ≤ σ3.length := by have := fr3.len; simp at this; omega
  have hl4 := hF.fr.len
  refine ⟨_, .refl _, by omega, rfl, ov4, lv', fs, hF.tr, ?_, ?_, hF.snd⟩
  · have f1 : Fr (tid :: vid :: (foot ov ++ foot lv)) σ (σ1.set tid (trailO cv vid n ov lv')) := (ha.fr.mono fun j hj => by simp [hj]).set (.inl (by simp)) _
    have f2 := f1.trans fr3 fun j hj => by simp at hj ⊢; rcases hj with h | h | h <;> simp [h]
    refine f2.trans hF.fr fun j hj => ?_
    simp at hj ⊢
    rcases hj with h | h | h
    · simp [h]
    · simp [h]
    · rcases ft3 j h with h | h
      · simp [h]
      · simp at h; right; omega
  · intro j hj
    rcases List.mem_append.1 hj with hj | hj
    · rcases hF.ft j hj with h | h
      · rcases ft3 j h with h | h
        · simp [h]
        · simp at h; right; omega
      · right; omega
    · rcases ha.foot j hj with h | h
      · simp [h]
      · right; exact h
end Go.Proofs.Tryz
end
section
namespace Go.Proofs.Tryz
open Go Go.Av
set_option maxRecDepth 10000
set_option linter.unusedSimpArgs false
set_option linter.unusedVariables false
variable {W0 : World}
variable {σ : Store} {tid vid n : Nat} {cv ov lv : AV} {cls : List (List Int)} {ord : List Int} {lev : List Nat}

theorem pr_pushNo (h : Trail σ tid cv vid ov lv n cls ord lev) (l : Int) (h0 : l ≠ 0) (hl : l.natAbs ≤ n) (hv : valT ord l = 0) (hc : cls.any (lostC ord) = true) :
    ACall prog W0 114 [.ptr 157 tid 0 [], .int .i64 l] σ fun r σ' => r = .bool false ∧ σ' = σ := by
  refine fn_call [4] [2000052, 4000003] func114 rfl rfl ntmps114 rfl rfl fun hs => ?_
  have hn := h.small
  have hw : IntKind.i64.wrap (-((n + 1 : Nat) : Int)) = -((n + 1 : Nat) : Int) := wrap_in (by omega)
  have e1 : (l == 0) = false := by simp [h0]
  have e2 : decide (l ≤ -((n + 1 : Nat) : Int)) = false := decide_eq_false (by omega)
  have e3 : decide (((n + 1 : Nat) : Int) ≤ l) = false := decide_eq_false (by omega)
  simp only [go_sem, simprocAttr, ↓reduceIte, look_id h.hobj, hw, e1, e2, e3, Bool.or_false]
  refine CallP.st (fun _ => pr_of h l h0 hl) ?_
  simp only [go_sem, simprocAttr, ↓reduceIte, hv]
  refine CallP.st (fun _ => pr_clash h) ?_
  have e4 : decide (0 ≤ idxL (lostC ord) cls) = true := by rw [idxL_ge, hc]
  simp only [go_sem, simprocAttr, ↓reduceIte, e4]
  refine EndR.ret ?_
  simp only [go_sem, simprocAttr, ↓reduceIte]
  exact ⟨_, .refl _, rfl⟩

theorem RowV.at {st : Store} {v : AV} {e : TypeId} {xs : List AV} {i : Nat} {x : AV} (h : RowV st v e xs) (hx : xs[i]? = some x) : ∃ id off m zs, v = .row e id off m ∧ st[id]? = some (some (.cells e zs)) ∧ m = xs.length ∧ zs[off + i]? = some x := by
  rcases h with ⟨_, rfl⟩ | ⟨id, off, m, zs, rfl, h1, h2, h3⟩
  · simp at hx
  · refine ⟨id, off, m, zs, rfl, h1, (RowV.len' (σ := st) (e := e) (id := id) h2 h3).symm, ?_⟩
    rw [h3, List.getElem?_take, List.getElem?_drop] at hx
    split at hx
    · exact hx
    · cases hx

theorem pr_pop {k : Nat} (h : Trail σ tid cv vid ov lv n cls ord (lev ++ [k])) (hk : k ≤ ord.length) (hll : lev.length ≤ 100000) :
    ACall prog W0 147 [.ptr 157 tid 0 []] σ fun r σ' => ∃ ov' lv', Trail σ' tid cv vid ov' lv' n cls (ord.take k) lev ∧ Fr [tid, vid] σ σ' ∧ foot ov' = foot ov ∧ foot lv' = foot lv := by
  refine fn_call [2] [4000010] func147 rfl rfl ntmps147 rfl rfl fun hs => ?_
  have hn := h.small
  have hol := h.good.len
  obtain ⟨i1, i2, i3⟩ := h.ids
  simp only [go_sem, simprocAttr, ↓reduceIte]
  refine CallA.reads (by simp only [go_sem, simprocAttr, ↓reduceIte]) (pr_levels h) ?_
  have e0 : (((lev ++ [k]).length : Int) == 0) = false := by simp; omega
  simp only [go_sem, simprocAttr, ↓reduceIte, e0]
  obtain ⟨lid, loff, lm, lz, hlv, hl1, hlm, hl2⟩ := RowV.at h.hlev (i := lev.length) (x := .int .i64 (k : Nat)) (by simp)
  have hlm' : lm = lev.length + 1 := by rw [hlm]; simp
  have hw : IntKind.i64.wrap ((lm : Int) - 1) = (lev.length : Nat) := by rw [wrap_in (by omega)]; omega
  have hov := h.hord
  have hovs := hov.st
  have ht : elT prog 84 = some 54 := by kernel_rfl
  have hcut := hov.cut (a := k) (b := ord.length) hk (by simp)
  rw [List.take_of_length_le (by simp), ← List.map_drop] at hcut
  have hcs := hcut.st
  simp only [go_sem, simprocAttr, ↓reduceIte, look_id h.hobj, hlv, hw, look_id hl1, live_id hl1, hl2, Option.bind_some, Option.isSome_some, hovs.ok, hovs.un, hov.cutV, hov.cutC ht, hcs.ok, hcs.un, hcs.len, hcs.lenC, List.length_map]
  refine ⟨by omega, hk, ?_⟩
  refine LoopVC.at [0, 3, 4] (.of (by kernel_rfl)) (fun A => A.st = σ.set vid (some (.cells 3 ((vals n (ord.take k)).map (.int .i64))))) ?_ fun B hst => ?_
  · refine LoopVC.upto [0, 3, 4, 28, 29] (.of (by kernel_rfl)) (ord.drop k).length (fun i A => A.env 30 = .int .i64 i ∧ A.st = σ.set vid (some (.cells 3 ((vals n (ord.take k ++ (ord.drop k).drop i)).map (.int .i64))))) 0 (Nat.zero_le _) ?_ fun i B hi ⟨h30, hst⟩ => ?_
    · simp only [go_sem, simprocAttr, ↓reduceIte]
      rw [List.take_append_drop]
      exact (set_id h.hvals).symm
    simp only [go_sem, simprocAttr, ↓reduceIte, h30, hst, List.length_map]
    refine ⟨fun hlt => ?_, fun hge => ?_⟩
    · obtain ⟨l, hl⟩ := get_some hlt
      obtain ⟨hlt', hle⟩ := List.getElem?_eq_some_iff.1 hl
      obtain ⟨oid, ooff, om, oz, hcv, ho1, hom, ho2⟩ := RowV.at hcut (i := i) (x := .int .i64 l) (by rw [List.getElem?_map, hl]; rfl)
      rw [List.length_map] at hom
      have hoid : vid ≠ oid := fun e => by have := h.hvals; rw [e, ho1] at this; cases this
      have ho1' : ∀ o, (σ.set vid o)[oid]? = some (some (.cells 54 oz)) := fun o => by rw [List.getElem?_set_ne hoid, ho1]
      have htid : ∀ o, (σ.set vid o)[tid]? = some (trailO cv vid n ov lv) := fun o => by rw [List.getElem?_set_ne (fun e => i3 e.symm), h.hobj]
      have hlm := h.good.wf l (List.mem_of_mem_drop (List.mem_of_getElem? hl))
      have hwl : IntKind.i64.wrap (-l) = -l := wrap_in (by omega)
      have hmx : maxI l (-l) = ((l.natAbs : Nat) : Int) := by unfold maxI; split <;> omega
      have hlen : l.natAbs < ((vals n (ord.take k ++ (ord.drop k).drop i)).map (AV.int .i64)).length := by rw [List.length_map, vals_len]; omega
      obtain ⟨y, hy⟩ := get_some hlen
      simp only [go_sem, simprocAttr, ↓reduceIte, h30, hst, hcv, look_id (ho1' _), live_id (ho1' _), ho2, Option.bind_some, Option.isSome_some, look_id (htid _), hlv, hwl, hmx, look_set i2, live_set i2, setLook_set i2, Nat.zero_add, hy, Option.getD_some]
      refine ⟨by omega, by omega, hlt, int_succ hlt (by rw [List.length_drop, maxLen_eq]; omega), ?_⟩
      have hd : (ord.drop k).drop i = l :: (ord.drop k).drop (i + 1) := by rw [List.drop_eq_getElem_cons hlt', hle]
      have hgd : GoodOrd n (ord.take k ++ l :: (ord.drop k).drop (i + 1)) := by
        rw [← hd]
        have := List.Sublist.append (List.Sublist.refl (ord.take k)) (List.drop_sublist i (ord.drop k))
        rw [List.take_append_drop] at this
        exact h.good.sub this
      have e : ((vals n (ord.take k ++ (ord.drop k).drop i)).map (AV.int .i64)).set l.natAbs (.int .i64 0) = (vals n (ord.take k ++ (ord.drop k).drop (i + 1))).map (.int .i64) := by
        rw [hd, ← vals_drop hgd, List.map_set]
      rw [e]
    · rw [List.drop_eq_nil_of_le hge, List.append_nil]
  have htid : ∀ o, (σ.set vid o)[tid]? = some (trailO cv vid n ov lv) := fun o => by rw [List.getElem?_set_ne (fun e => i3 e.symm), h.hobj]
  simp only [go_sem, simprocAttr, ↓reduceIte, hst, look_id (htid _), hovs.ok, hovs.un, hov.cutV, hov.cutC ht, hlv, List.length_map]
  have hcut2 := hov.cut (a := 0) (b := k) (Nat.zero_le _) (by simpa using hk)
  have hc2 := hcut2.st
  have t1 : ∀ o, tid < (σ.set vid o).length := fun o => by simpa using i1
  simp only [go_sem, simprocAttr, ↓reduceIte, hc2.ok, hc2.un, hc2.fits, setLook_id (htid _), look_set (t1 _), setLook_set (t1 _)]
  refine ⟨.of (by kernel_rfl), ⟨Nat.zero_le _, hk⟩, ⟨Nat.zero_le _, by omega⟩, EndR.ret ?_⟩
  simp only [go_sem, simprocAttr, ↓reduceIte]
  have hcut3 := h.hlev.cut (a := 0) (b := lev.length) (Nat.zero_le _) (by simp)
  have old : ∀ j, j ≠ tid → j ≠ vid → ∀ o o', ((σ.set vid o).set tid o')[j]? = σ[j]? := fun j e1 e2 o o' => by rw [List.getElem?_set_ne (fun e => e1 e.symm), List.getElem?_set_ne (fun e => e2 e.symm)]
  have e2 : (ord.map (AV.int .i64)).drop 0 = ord.map (AV.int .i64) := rfl
  rw [List.drop_zero, Nat.sub_zero, ← List.map_take] at hcut2 hcut3
  have e3 : (lev ++ [k]).take lev.length = lev := by rw [List.take_append_of_le_length (Nat.le_refl _), List.take_length]
  rw [e3, hlv, cutR_row] at hcut3
  refine ⟨_, .refl _, by simp, cutR 0 k ov, .row 3 lid (loff + 0) (lev.length - 0), ⟨?_, ?_, ?_, ?_, ?_, ?_, h.good.take k, h.small, h.clen, h.wf⟩, ?_, foot_cutR _ _ _, rfl⟩
  · simp [i1]; rfl
  · exact h.hcls.keep fun j hj => old j (h.tok hj).1 (h.tok hj).2.1 _ _
  · rw [List.getElem?_set_ne i3, List.getElem?_set_self i2]
  · exact hcut2.keep fun j hj => by rw [foot_cutR] at hj; exact old j (h.ovs hj).1 (h.ovs hj).2.1 _ _
  · exact hcut3.keep fun j hj => by
      have : j ∈ foot lv := by rw [hlv]; exact hj
      exact old j (h.lvs this).1 (h.lvs this).2 _ _
  · intro e
    exact h.hne (by rw [hlv]; exact e)
  · exact ((Fr.refl _ _).set (.inl (by simp)) _).set (.inl (by simp)) _
end Go.Proofs.Tryz
end
section
namespace Go.Proofs.Tryz
open Go Go.Av
set_option maxRecDepth 10000
set_option linter.unusedSimpArgs false
set_option linter.unusedVariables false
variable {W0 : World}
variable {σ : Store} {tid vid n : Nat} {cv ov lv : AV} {cls : List (List Int)} {ord : List Int} {lev : List Nat}

/-- A trail that lies behind a store. -/
structure Own (τ : Store) (tid : Nat) (cv : AV) (vid : Nat) (ov lv : AV) : Prop where
  tid : τ.length ≤ tid
  vid : τ.length ≤ vid
  cv : ∀ j ∈ foot cv, τ.length ≤ j
  ov : ∀ j ∈ foot ov, τ.length ≤ j
  lv : ∀ j ∈ foot lv, τ.length ≤ j

/-- More clauses. -/
theorem Trail.more (h : Trail σ tid cv vid ov lv n cls ord lev) {cv' : AV} {σ1 : Store} {c : List Int} (ha : App σ cv 84 (cls.map litsAV ++ [litsAV c]) cv' σ1) (hl : cls.length < 5000) (hc : ∀ l ∈ c, l ≠ 0 ∧ l.natAbs ≤ n) :
    σ1[tid]? = some (trailO cv vid n ov lv) ∧ Trail (σ1.set tid (trailO cv' vid n ov lv)) tid cv' vid ov lv n (cls ++ [c]) ord lev := by
  obtain ⟨i1, i2, i3⟩ := h.ids
  have hf := ha.fr
  have o1 : σ1[tid]? = some (trailO cv vid n ov lv) := by rw [hf.old tid i1 (fun e => (h.tok e).1 rfl), h.hobj]
  have t1 := (List.getElem?_eq_some_iff.1 o1).1
  have old : ∀ j, j ≠ tid → j < σ.length → j ∉ foot cv → (σ1.set tid (trailO cv' vid n ov lv))[j]? = σ[j]? := fun j e1 e2 e3 => by rw [List.getElem?_set_ne (fun e => e1 e.symm), hf.old j e2 e3]
  refine ⟨o1, by simp [t1], ?_, ?_, ?_, ?_, h.hne, h.good, h.small, by simp; omega, fun d hd => ?_⟩
  · rw [List.map_append]
    refine ha.bld.keep fun j hj => List.getElem?_set_ne fun e => ?_
    rcases ha.foot h.hcls j hj with h1 | h1
    · exact (h.tok h1).1 e.symm
    · omega
  · rw [old vid (fun e => i3 e.symm) i2 (fun e => (h.tok e).2.1 rfl), h.hvals]
  · exact h.hord.keep fun j hj => old j (h.ovs hj).1 (h.hord.lt j hj) (fun e => (h.tok e).2.2.1 hj)
  · exact h.hlev.keep fun j hj => old j (h.lvs hj).1 (h.hlev.lt j hj) (fun e => (h.tok e).2.2.2 hj)
  · rcases List.mem_append.1 hd with h1 | h1
    · exact h.wf d h1
    · rw [List.mem_singleton.1 h1]; exact hc

theorem pr_new (sid : Nat) (hid : σ[sid]? = some (setO n cv)) (hb : Bld σ cv 84 (cls.map litsAV)) (hn : n ≤ 200) (hc5 : cls.length ≤ 5000) (hc : ∀ c ∈ cls, c ≠ [] ∧ c.length ≤ 1048576 ∧ ∀ l ∈ c, l ≠ 0 ∧ l.natAbs ≤ n) :
    ACall prog W0 111 [.ptr 112 sid 0 []] σ fun r σ' => ∃ tid cv' vid ov' ord, r = .ptr 157 tid 0 [] ∧ Trail σ' tid cv' vid ov' .nils n cls ord [] ∧ Own σ tid cv' vid ov' .nils ∧ Ext σ σ' ∧ ∀ M, setT M cls = true → Agr M ord := by
  refine fn_call [2] [2000027, 3000025, 4000007] func111 rfl rfl ntmps111 rfl rfl fun hs => ?_
  simp only [go_sem, simprocAttr, ↓reduceIte]
  refine CallA.reads (by simp only [go_sem, simprocAttr, ↓reduceIte]) (cn_vars σ sid n cv hid) ?_
  have hw : IntKind.i64.wrap ((n : Int) + 1) = ((n + 1 : Nat) : Int) := by rw [wrap_in (by omega)]; omega
  simp only [go_sem, simprocAttr, ↓reduceIte, hw]
  have hE : ∀ st, Ext σ st → st[sid]? = some (setO n cv) ∧ Bld st cv 84 (cls.map litsAV) := fun st he => by
    have f := Fr.ext (F := []) he
    exact ⟨by rw [f.old sid (List.getElem?_eq_some_iff.1 hid).1 (by simp), hid], hb.keep fun j hj => f.old j (hb.lt j hj) (by simp)⟩
  refine MakeA.go (e := 3) 201 (by kernel_rfl) (z := .int .i64 0) (by kernel_rfl) (by kernel_rfl) (by omega) ?_
  simp only [go_sem, simprocAttr, ↓reduceIte]
  have x1 : Ext σ (σ ++ [some (.cells 3 (List.replicate (n + 1) (.int .i64 0))), trailO .nils σ.length n .nils .nils]) := (Ext.refl _).app _
  refine CallA.reads (by simp only [go_sem, simprocAttr, ↓reduceIte, trailO]) (cn_len _ sid n cv cls (hE _ x1).1 (hE _ x1).2) ?_
  simp only [go_sem, simprocAttr, ↓reduceIte]
  have t0 : Trail (σ ++ [some (.cells 3 (List.replicate (n + 1) (.int .i64 0))), trailO .nils σ.length n .nils .nils]) (σ.length + 1) .nils σ.length .nils .nils n [] [] [] :=
    ⟨by simp, .inl ⟨rfl, rfl⟩, by simp [vals_nil], .inl ⟨rfl, rfl⟩, .inl ⟨rfl, rfl⟩, by simp [foot], GoodOrd.nil n, hn, by simp, by simp⟩
  refine LoopVC.at [3] (.of (by kernel_rfl)) (fun A => ∃ cv', Trail A.st (σ.length + 1) cv' σ.length .nils .nils n cls [] [] ∧ Ext σ A.st ∧ ∀ j ∈ foot cv', σ.length ≤ j) ?_ fun B ⟨cv', ht, hx, hft⟩ => ?_
  · refine LoopVC.upto [0, 3, 14] (.of (by kernel_rfl)) cls.length (fun i A => A.env 15 = .int .i64 i ∧ ∃ cv', Trail A.st (σ.length + 1) cv' σ.length .nils .nils n (cls.take i) [] [] ∧ Ext σ A.st ∧ ∀ j ∈ foot cv', σ.length ≤ j) 0 (Nat.zero_le _) ?_ fun i B hi ⟨h15, cv', ht, hx, hft⟩ => ?_
    · simp only [go_sem, simprocAttr, ↓reduceIte]
      exact ⟨.nils, t0, x1, by simp [foot]⟩
    simp only [go_sem, simprocAttr, ↓reduceIte, h15]
    refine ⟨fun hlt => ?_, fun hge => ?_⟩
    · obtain ⟨c, hcc⟩ := get_some hlt
      have hcm := hc c (List.mem_of_getElem? hcc)
      have hbv := ht.hcls
      simp only [go_sem, simprocAttr, ↓reduceIte, h15, look_id ht.hobj, hbv.ok, hbv.un]
      refine ⟨.of (by kernel_rfl), CallP.st (cn_at _ sid n cv cls (hE _ hx).1 (hE _ hx).2 i c hcc hcm.1 hcm.2.1) ?_⟩
      simp only [go_sem, simprocAttr, ↓reduceIte, h15, look_id ht.hobj, hbv.ok, hbv.un]
      have htl : (cls.take i).length = i := by rw [List.length_take]; omega
      refine AppA.ownS (σ := B.st) (by simp only [go_sem, simprocAttr, ↓reduceIte]) 1048576 (by kernel_rfl) hbv (.lit _ _ _) (by simp; omega) fun cv2 σ2 ha => ?_
      obtain ⟨o2, t2⟩ := ht.more ha (by omega) hcm.2.2
      have hb2 := ha.bld
      simp only [go_sem, simprocAttr, ↓reduceIte, h15, look_id o2, setLook_id o2, hb2.ok, hb2.un, hb2.fits]
      refine ⟨hlt, int_succ hlt (by rw [maxLen_eq]; omega), cv2, by rw [take_succ_get hcc]; exact t2, ?_, fun j hj => ?_⟩
      · exact (ha.fr.toExt hx hft).set (by omega) _
      · rcases ha.foot hbv j hj with h1 | h1
        · exact hft j h1
        · have := hx.le; omega
    · rw [List.take_of_length_le hge] at ht
      exact ⟨cv', ht, hx, hft⟩
  simp only [go_sem, simprocAttr, ↓reduceIte]
  refine CallA.goes (by simp only [go_sem, simprocAttr, ↓reduceIte]) (pr_follow ht) fun r σ' ⟨ov', ord', hF⟩ => ?_
  simp only [go_sem, simprocAttr, ↓reduceIte]
  refine EndR.ret ?_
  simp only [go_sem, simprocAttr, ↓reduceIte]
  obtain ⟨fs, hfs⟩ := hF.pre
  have hxl := hx.le
  have hfl := hF.fr.len
  refine ⟨_, .refl _, by omega, σ.length + 1, cv', σ.length, ov', ord', rfl, hF.tr, ⟨by omega, Nat.le_refl _, hft, fun j hj => ?_, by simp [foot]⟩, hF.fr.toExt hx ?_, fun M hM => hF.snd M hM (by simp [Agr])⟩
  · rcases hF.ft j hj with h1 | h1
    · simp [foot] at h1
    · omega
  · intro j hj
    simp [foot] at hj
    rcases hj with rfl | rfl <;> omega
end Go.Proofs.Tryz
end
section
namespace Go.Proofs.Tryz
open Go Go.Av
set_option maxRecDepth 10000
set_option linter.unusedSimpArgs false
set_option linter.unusedVariables false
variable {W0 : World}

def srchO (tid n : Nat) (dv : AV) (z : Int) : Option SObj := some (.cells 127 [.agg 127 [.ptr 157 tid 0 [], .int .i64 n, dv, .int .i64 z]])

/-- A search in memory, behind a store τ. -/
structure Srch (τ st : Store) (xid tid : Nat) (cv : AV) (vid : Nat) (ov lv dv : AV) (z : Int) (n : Nat) (cls : List (List Int)) (ord : List Int) (lev : List Nat) (dec : List Int) : Prop where
  tr : Trail st tid cv vid ov lv n cls ord lev
  own : Own τ tid cv vid ov lv
  ext : Ext τ st
  obj : st[xid]? = some (srchO tid n dv z)
  hdec : RowV st dv 3 (dec.map (.int .i64))
  xlo : τ.length ≤ xid
  dlo : ∀ j ∈ foot dv, τ.length ≤ j
  dv1 : vid ∉ foot dv
  dv2 : ∀ j ∈ foot dv, j ∉ foot lv

variable {τ σ : Store} {xid tid vid n : Nat} {cv ov lv dv : AV} {z : Int} {cls : List (List Int)} {ord dec : List Int} {lev : List Nat}

theorem Srch.xne (h : Srch τ σ xid tid cv vid ov lv dv z n cls ord lev dec) : xid ≠ tid ∧ xid ≠ vid ∧ xid ∉ foot cv ∧ xid ∉ foot ov ∧ xid ∉ foot lv ∧ xid ∉ foot dv ∧ xid < σ.length := by
  refine ⟨fun e => ?_, fun e => ?_, h.tr.hcls.ne h.obj (by simp), h.tr.hord.ne h.obj (by decide), h.tr.hlev.ne h.obj (by decide), h.hdec.ne h.obj (by decide), (List.getElem?_eq_some_iff.1 h.obj).1⟩
  · have := h.obj; rw [e, h.tr.hobj] at this; simp [trailO, srchO] at this
  · have := h.obj; rw [e, h.tr.hvals] at this; simp [srchO] at this
theorem Srch.dne (h : Srch τ σ xid tid cv vid ov lv dv z n cls ord lev dec) {j : Nat} (hj : j ∈ foot dv) : j ≠ xid ∧ j ≠ tid ∧ j ≠ vid ∧ j ∉ foot cv ∧ j ∉ foot ov ∧ j ∉ foot lv ∧ j < σ.length := by
  refine ⟨fun e => h.xne.2.2.2.2.2.1 (e ▸ hj), fun e => h.hdec.ne h.tr.hobj (by decide) (e ▸ hj), fun e => h.dv1 (e ▸ hj), fun e => ?_, fun e => ?_, h.dv2 j hj, h.hdec.lt j hj⟩
  · rcases h.hdec with ⟨rfl, _⟩ | ⟨id, off, m, zs, rfl, h2, _⟩
    · simp [foot] at hj
    · simp [foot] at hj; subst hj; exact h.tr.hcls.ne h2 (by simp) e
  · rcases h.hdec with ⟨rfl, _⟩ | ⟨id, off, m, zs, rfl, h2, _⟩
    · simp [foot] at hj
    · simp [foot] at hj; subst hj; exact h.tr.hord.ne h2 (by decide) e

/-- Behind a step of the trail's. -/
theorem Srch.step (h : Srch τ σ xid tid cv vid ov lv dv z n cls ord lev dec) {σ' : Store} {ov' lv' : AV} {ord' : List Int} {lev' : List Nat} (tr : Trail σ' tid cv vid ov' lv' n cls ord' lev') (fr : Fr (tid :: vid :: (foot ov ++ foot lv)) σ σ') (fo : ∀ j ∈ foot ov', j ∈ foot ov ++ foot lv ∨ σ.length ≤ j) (fl : ∀ j ∈ foot lv', j ∈ foot ov ++ foot lv ∨ σ.length ≤ j) :
    Srch τ σ' xid tid cv vid ov' lv' dv z n cls ord' lev' dec := by
  obtain ⟨x1, x2, x3, x4, x5, x6, x7⟩ := h.xne
  have hx := h.ext.le
  refine ⟨tr, ⟨h.own.tid, h.own.vid, h.own.cv, fun j hj => ?_, fun j hj => ?_⟩, fr.toExt h.ext fun j hj => ?_, ?_, h.hdec.keep fun j hj => ?_, h.xlo, h.dlo, h.dv1, fun j hj hl => ?_⟩
  · rcases fo j hj with h1 | h1
    · rcases List.mem_append.1 h1 with h1 | h1
      · exact h.own.ov j h1
      · exact h.own.lv j h1
    · omega
  · rcases fl j hj with h1 | h1
    · rcases List.mem_append.1 h1 with h1 | h1
      · exact h.own.ov j h1
      · exact h.own.lv j h1
    · omega
  · simp at hj
    rcases hj with rfl | rfl | h1 | h1
    · exact h.own.tid
    · exact h.own.vid
    · exact h.own.ov j h1
    · exact h.own.lv j h1
  · rw [fr.old xid x7 (by simp [x1, x2, x4, x5]), h.obj]
  · have := h.dne hj
    exact fr.old j this.2.2.2.2.2.2 (by simp [this.2.1, this.2.2.1, this.2.2.2.2.1, this.2.2.2.2.2.1])
  · rcases fl j hl with h1 | h1
    · rcases List.mem_append.1 h1 with h1 | h1
      · exact (h.dne hj).2.2.2.2.1 h1
      · exact h.dv2 j hj h1
    · have := h.hdec.lt j hj; omega

/-- Other decisions. -/
theorem Srch.decs (h : Srch τ σ xid tid cv vid ov lv dv z n cls ord lev dec) {σ1 : Store} {dv' : AV} {dec' : List Int} (z' : Int) (fr : Fr (foot dv) σ σ1) (hr : RowV σ1 dv' 3 (dec'.map (.int .i64))) (hf : ∀ j ∈ foot dv', j ∈ foot dv ∨ σ.length ≤ j) :
    σ1[xid]? = some (srchO tid n dv z) ∧ Srch τ (σ1.set xid (srchO tid n dv' z')) xid tid cv vid ov lv dv' z' n cls ord lev dec' := by
  obtain ⟨x1, x2, x3, x4, x5, x6, x7⟩ := h.xne
  have hx := h.ext.le
  have o1 : σ1[xid]? = some (srchO tid n dv z) := by rw [fr.old xid x7 x6, h.obj]
  have l1 := (List.getElem?_eq_some_iff.1 o1).1
  have old : ∀ j, j ≠ xid → j < σ.length → j ∉ foot dv → (σ1.set xid (srchO tid n dv' z'))[j]? = σ[j]? := fun j e1 e2 e3 => by rw [List.getElem?_set_ne (fun e => e1 e.symm), fr.old j e2 e3]
  obtain ⟨i1, i2, i3⟩ := h.tr.ids
  refine ⟨o1, ⟨?_, ?_, ?_, ?_, ?_, h.tr.hne, h.tr.good, h.tr.small, h.tr.clen, h.tr.wf⟩, h.own, (fr.toExt h.ext h.dlo).set h.xlo _, by simp [l1], hr.keep fun j hj => ?_, h.xlo, fun j hj => ?_, fun e => ?_, fun j hj hl => ?_⟩
  · rw [old tid (fun e => x1 e.symm) i1 (fun e => (h.dne e).2.1 rfl), h.tr.hobj]
  · exact h.tr.hcls.keep fun j hj => old j (fun e => x3 (e ▸ hj)) (h.tr.hcls.lt j hj) (fun e => (h.dne e).2.2.2.1 hj)
  · rw [old vid (fun e => x2 e.symm) i2 h.dv1, h.tr.hvals]
  · exact h.tr.hord.keep fun j hj => old j (fun e => x4 (e ▸ hj)) (h.tr.hord.lt j hj) (fun e => (h.dne e).2.2.2.2.1 hj)
  · exact h.tr.hlev.keep fun j hj => old j (fun e => x5 (e ▸ hj)) (h.tr.hlev.lt j hj) (fun e => (h.dne e).2.2.2.2.2.1 hj)
  · refine List.getElem?_set_ne fun e => ?_
    rcases hf j hj with h1 | h1
    · exact (h.dne h1).1 e.symm
    · omega
  · rcases hf j hj with h1 | h1
    · exact h.dlo j h1
    · omega
  · rcases hf vid e with h1 | h1
    · exact h.dv1 h1
    · omega
  · rcases hf j hj with h1 | h1
    · exact h.dv2 j h1 hl
    · have := h.tr.hlev.lt j hl; omega

theorem sa_may (sid : Nat) (hid : σ[sid]? = some (setO n cv)) (hn : n ≤ 200) (l : Int) :
    ACall prog W0 113 [.ptr 112 sid 0 [], .int .i64 l] σ fun r σ' => r = .bool (wfL n l) ∧ σ' = σ := by
  refine fn_st [4] [] func113 rfl rfl ntmps113 rfl rfl (.bool _) fun hs => ?_
  simp only [go_sem, simprocAttr, ↓reduceIte]
  refine CallP.st (fun _ => cn_vars σ sid n cv hid) ?_
  simp only [go_sem, simprocAttr, ↓reduceIte]
  refine CallP.st (fun _ => cn_vars σ sid n cv hid) ?_
  have hw : IntKind.i64.wrap (-(n : Int)) = -(n : Int) := wrap_in (by omega)
  simp only [go_sem, simprocAttr, ↓reduceIte, hw]
  refine EndR.ret ?_
  simp only [go_sem, simprocAttr, ↓reduceIte]
  refine weak_bool ?_
  rw [wfL, Bool.eq_iff_iff]
  simp
  omega

theorem sa_open (h : Srch τ σ xid tid cv vid ov lv dv z n cls ord lev dec) :
    ACall prog W0 117 [.ptr 127 xid 0 []] σ fun r σ' => σ' = σ ∧ ∃ v : Nat, r = .int .i64 v ∧ ((v = 0 ∧ ∀ v : Nat, 0 < v → v ≤ n → valT ord (v : Nat) ≠ 0) ∨ (0 < v ∧ v ≤ n ∧ valT ord (v : Nat) = 0)) := by
  refine fn_call [2] [] func117 rfl rfl ntmps117 rfl rfl fun hs => ?_
  have hn := h.tr.small
  simp only [go_sem, simprocAttr, ↓reduceIte]
  refine LoopVC.falls [0] (.of (by kernel_rfl)) (fun k A => ∃ j : Nat, A.env 3 = .int .i64 j ∧ k = n + 1 - j ∧ 0 < j ∧ j ≤ n + 1 ∧ A.st = σ ∧ ∀ v : Nat, 0 < v → v < j → valT ord (v : Nat) ≠ 0) n ⟨1, ?_⟩ fun k B ⟨j, h3, hk, hj, hjn, hst, hI⟩ => ?_
  · simp only [go_sem, Nat.reduceEqDiff, Nat.reduceLT, ↓reduceIte, Int.reduceToNat, Int.reduceLE, Int.reduceLT, Int.reduceEq, Int.reduceBEq, Int.reduceBNe, Int.reduceNeg, Int.reduceAdd, Int.reduceSub, Nat.reduceBEq, Nat.reduceAdd, Nat.reduceMul, Nat.reduceSub, Nat.reduceLeDiff]
    exact ⟨by omega, fun v h1 h2 => by omega⟩
  simp only [go_sem, simprocAttr, ↓reduceIte, h3, hst, look_id h.obj]
  refine ⟨fun hle => ?_, fun hgt => EndR.ret ?_⟩
  · refine CallA.reads (by simp only [go_sem, simprocAttr, ↓reduceIte, hst]) (pr_value h.tr j hj (by omega)) ?_
    simp only [go_sem, simprocAttr, ↓reduceIte, h3, hst]
    refine ⟨fun hv => EndR.ret ?_, fun hv => .here (n + 1 - (j + 1)) (by omega) ⟨j + 1, int_succ (N := 1000) (by omega) (by rw [maxLen_eq]; omega), rfl, by omega, by omega, by simp only [go_sem, simprocAttr, ↓reduceIte, hst], fun v h1 h2 => ?_⟩⟩
    · simp only [go_sem, simprocAttr, ↓reduceIte, hst]
      exact ⟨_, .refl _, j, rfl, .inr ⟨hj, by omega, by simpa using hv⟩⟩
    · rcases Nat.lt_succ_iff_lt_or_eq.1 h2 with h2 | rfl
      · exact hI v h1 h2
      · simpa using hv
  · simp only [go_sem, simprocAttr, ↓reduceIte, hst]
    exact ⟨_, .refl _, 0, rfl, .inl ⟨rfl, fun v h1 h2 => hI v h1 (by omega)⟩⟩
end Go.Proofs.Tryz
end
section
namespace Go.Proofs.Tryz
open Go Go.Av
set_option maxRecDepth 10000
set_option linter.unusedSimpArgs false
set_option linter.unusedVariables false
variable {W0 : World}
variable {τ σ : Store} {xid tid vid n : Nat} {cv ov lv dv : AV} {z : Int} {cls : List (List Int)} {ord dec asm : List Int} {lev lev0 : List Nat} {stk : List (Nat × Int)} {base : Nat}

/-- A search between two steps: its decisions, those that are behind it. -/
structure Way (τ st : Store) (xid tid : Nat) (cv : AV) (vid n : Nat) (cls : List (List Int)) (asm : List Int) (base : Nat) (lev0 : List Nat) (ord : List Int) (stk : List (Nat × Int)) (ov lv dv : AV) (z : Int) : Prop where
  s : Srch τ st xid tid cv vid ov lv dv z n cls ord (lev0 ++ stk.map (·.1)) (stk.map (·.2))
  ok : StkOk n cls ord base stk
  asm : ∀ l ∈ asm, l ∈ ord.take base
  lev0 : lev0.length ≤ 1000

/-- No model is on the way. -/
def Lost (cls : List (List Int)) (asm ord : List Int) (stk : List (Nat × Int)) : Prop := ∀ M, setT M cls = true → Agr M asm → Alts ord stk M

theorem sa_back (h : Way τ σ xid tid cv vid n cls asm base lev0 ord stk ov lv dv z) (hL : Lost cls asm ord stk) :
    ACall prog W0 116 [.ptr 127 xid 0 []] σ fun r σ' => Ext τ σ' ∧ σ.length ≤ σ'.length ∧ ((r = .bool false ∧ ∀ M, setT M cls = true → ¬ Agr M asm) ∨
      (r = .bool true ∧ ∃ ord' stk' ov' lv' dv', Way τ σ' xid tid cv vid n cls asm base lev0 ord' stk' ov' lv' dv' z ∧ OpenW cls asm ord' stk' ∧ mu n stk' < mu n stk)) := by
  refine fn_call [2] [] func116 rfl rfl ntmps116 rfl rfl fun hs => ?_
  have hn := h.s.tr.small
  simp only [go_sem, simprocAttr, ↓reduceIte]
  refine LoopVC.falls [0] (.of (by kernel_rfl)) (fun k A => ∃ ord2 stk2 tr ov2 lv2 dv2, k = stk2.length ∧ stk = stk2 ++ tr ∧ Way τ A.st xid tid cv vid n cls asm base lev0 ord2 stk2 ov2 lv2 dv2 z ∧ Lost cls asm ord2 stk2 ∧ σ.length ≤ A.st.length) stk.length ⟨ord, stk, [], ov, lv, dv, ?_⟩ fun k B ⟨ord2, stk2, tr, ov2, lv2, dv2, hk, htr, hW, hL2, hsl⟩ => ?_
  · simp only [go_sem, simprocAttr, ↓reduceIte]
    exact ⟨by simp, h, hL⟩
  have hS := hW.s
  have hds := hS.hdec.st
  have hxl := h.s.ext
  simp only [go_sem, simprocAttr, ↓reduceIte, look_id hS.obj, hds.ok, hds.un, hds.len, hds.lenC, List.length_map]
  refine ⟨fun hlt => ?_, fun hge => EndR.ret ?_⟩
  case refine_2 =>
    have : stk2 = [] := List.eq_nil_of_length_eq_zero (by omega)
    subst this
    simp only [go_sem, simprocAttr, ↓reduceIte]
    have hle := hS.ext.le
    refine ⟨_, .refl _, hsl, hS.ext, hsl, .inl ⟨rfl, fun M h1 h2 => ?_⟩⟩
    · obtain ⟨p, hp, _⟩ := hL2 M h1 h2
      simp at hp
  obtain ⟨stk3, p, rfl⟩ : ∃ s p, stk2 = s ++ [p] := ⟨stk2.dropLast, stk2.getLast (by intro e; subst e; simp at hlt), (List.dropLast_concat_getLast _).symm⟩
  obtain ⟨kk, d⟩ := p
  obtain ⟨g1, g2, g3, g4, g5, g6, g7⟩ := hW.ok.pop
  obtain ⟨did, doff, dm, dz, hdv, hd1, hdm, hd2⟩ := RowV.at hS.hdec (i := stk3.length) (x := .int .i64 d) (by simp)
  have hdm' : dm = stk3.length + 1 := by rw [hdm]; simp
  have hle3 := hW.ok.le
  have hgl := hS.tr.good.len
  have hwl : IntKind.i64.wrap (((stk3.length + 1 : Nat) : Int) - 1) = (stk3.length : Nat) := by rw [wrap_in (by simp at hle3; omega)]; omega
  simp only [go_sem, simprocAttr, ↓reduceIte, look_id hS.obj, hdv, hwl, look_id hd1, live_id hd1, hd2, Option.bind_some, Option.isSome_some]
  have hS' := hS
  rw [List.map_append, List.map_append, ← List.append_assoc] at hS'
  have htr0 : Trail B.st tid cv vid ov2 lv2 n cls ord2 ((lev0 ++ stk3.map (·.1)) ++ [kk]) := hS'.tr
  refine ⟨by omega, CallA.goes (by simp only [go_sem, simprocAttr, ↓reduceIte]) (pr_pop htr0 (by omega) ?_) fun r σ1 ⟨ov3, lv3, ht3, fr3, fo3, fl3⟩ => ?_⟩
  · have := hW.lev0; simp at hle3 ⊢; omega
  have hS3 := hS.step ht3 (fr3.mono fun j hj => by simp at hj ⊢; rcases hj with rfl | rfl <;> simp) (fun j hj => .inl (by rw [fo3] at hj; simp [hj])) (fun j hj => .inl (by rw [fl3] at hj; simp [hj]))
  obtain ⟨y1, y2, y3, y4, y5, y6, y7⟩ := hS3.xne
  have hcut := hS3.hdec.cut (a := 0) (b := stk3.length) (Nat.zero_le _) (by simp)
  have e3 : ((((stk3 ++ [(kk, d)]).map (·.2)).map (AV.int .i64)).drop 0).take (stk3.length - 0) = (stk3.map (·.2)).map (AV.int .i64) := by
    rw [List.drop_zero, Nat.sub_zero, List.map_append, List.map_append, List.take_append_of_le_length (by simp), List.take_of_length_le (by simp)]
  rw [e3] at hcut
  obtain ⟨o4, hS4⟩ := hS3.decs z (.refl _ _) hcut (fun j hj => .inl (by rwa [foot_cutR] at hj))
  rw [hdv, cutR_row] at hS4
  rw [hdv] at o4
  simp only [go_sem, simprocAttr, ↓reduceIte, look_id hS3.obj, hdv, setLook_id o4, look_set y7]
  have hLtk : ∀ M, setT M cls = true → Agr M asm → (0 < d ∧ Agr M (ord2.take kk) ∧ litT M d = true) ∨ Alts (ord2.take kk) stk3 M := fun M h1 h2 => by
    obtain ⟨p, hp, h3, h4, h5⟩ := hL2 M h1 h2
    rcases List.mem_append.1 hp with hp | hp
    · exact .inr (Alts.take g7 ⟨p, hp, h3, h4, h5⟩)
    · rw [List.mem_singleton.1 hp] at h3 h4 h5
      exact .inl ⟨h3, h4, h5⟩
  have hbase : ∀ l ∈ asm, l ∈ (ord2.take kk).take base := fun l hl => by
    have := g1.le
    rw [List.length_take] at this
    rw [List.take_take, Nat.min_eq_left (by omega)]
    exact hW.asm l hl
  have hl1 := fr3.len
  refine ⟨⟨Nat.zero_le _, by omega⟩, fun hd => ?_, fun hd => .here stk3.length (by rw [hk]; simp) ⟨ord2.take kk, stk3, (kk, d) :: tr, ov3, lv3, _, rfl, by rw [htr]; simp, ⟨hS4, g1, hbase, hW.lev0⟩, fun M h1 h2 => ?_, ?_⟩⟩
  case refine_2 =>
    rcases hLtk M h1 h2 with h3 | h3
    · exact absurd h3.1 hd
    · exact h3
  case refine_3 =>
    simp only [go_sem, simprocAttr, ↓reduceIte]
    simp
    omega
  have hwd : IntKind.i64.wrap (-d) = -d := wrap_in (by omega)
  simp only [go_sem, simprocAttr, ↓reduceIte, hwd]
  refine AppA.rowS (σ := σ1.set xid (srchO tid n (.row 3 did (doff + 0) (stk3.length - 0)) z)) (by simp only [go_sem, simprocAttr, ↓reduceIte, srchO]) 1048576 (by kernel_rfl) hS4.hdec (.lit _ _ _) (by simp at hle3 ⊢; omega) fun dv5 σ3 ha => ?_
  have hr5 : RowV σ3 dv5 3 ((stk3.map (·.2) ++ [-d]).map (.int .i64)) := by rw [List.map_append]; exact ha.row
  obtain ⟨o5, hS5⟩ := hS4.decs z ha.fr hr5 ha.foot
  have hr := ha.row.st
  have t5 := (List.getElem?_eq_some_iff.1 o5).1
  simp only [go_sem, simprocAttr, ↓reduceIte, look_id o5, setLook_id o5, hr.ok, hr.un, hr.fits, look_set t5]
  have hll : (lev0 ++ stk3.map (·.1)).length ≤ 100000 := by have := hW.lev0; simp at hle3 ⊢; omega
  refine CallA.goes (by simp only [go_sem, simprocAttr, ↓reduceIte, srchO]) (pr_push hS5.tr d g3 g4 g5 g6 hll) fun r σ5 ⟨hr6, ov6, lv6, fs, ht6, fr6, ff6, snd6⟩ => ?_
  subst hr6
  simp only [go_sem, simprocAttr, ↓reduceIte]
  refine EndR.ret ?_
  simp only [go_sem, simprocAttr, ↓reduceIte]
  have hS6 := hS5.step ht6 fr6 (fun j hj => ff6 j (by simp [hj])) (fun j hj => ff6 j (by simp [hj]))
  have ekk : (ord2.take kk).length = kk := by rw [List.length_take]; omega
  have eS : ∀ q : List (Nat × Int), lev0 ++ (stk3 ++ q).map (·.1) = lev0 ++ stk3.map (·.1) ++ q.map (·.1) := fun q => by rw [List.map_append, List.append_assoc]
  have hl3 := ha.fr.len
  have hl6 := fr6.len
  simp at hl3 hl6
  have tk : ∀ i, i ≤ (ord2.take kk).length → (ord2.take kk ++ d :: fs).take i = (ord2.take kk).take i := fun i hi => List.take_append_of_le_length hi
  have hlt6 : mu n (stk3 ++ [(kk, -d)]) < mu n stk := by
    rw [htr, List.append_assoc]
    exact mu_flip n stk3 tr kk d hd (by simp at hle3; omega)
  refine ⟨_, .refl _, by omega, hS6.ext, by omega, .inr ⟨rfl, ord2.take kk ++ d :: fs, stk3 ++ [(kk, -d)], ov6, lv6, dv5, ⟨?_, ?_, fun l hl => ?_, hW.lev0⟩, fun M h1 h2 => ?_, hlt6⟩⟩
  · rw [eS, List.map_append]
    rw [ekk] at hS6
    exact hS6
  · exact g1.app tk ekk.symm (by simp; omega) (by omega) (by omega) (by rw [valT_neg (hS3.tr.good)]; omega) g6
  · have := g1.le
    rw [tk _ (by omega)]
    exact hbase l hl
  · rcases hLtk M h1 h2 with ⟨_, h3, h4⟩ | h3
    · left
      refine snd6 M h1 fun l hl => ?_
      rcases List.mem_append.1 hl with hl | hl
      · exact h3 l hl
      · rw [List.mem_singleton.1 hl]; exact h4
    · exact .inr (h3.more (fun p hp => tk _ (by rw [ekk]; exact g7 p hp)) _)
end Go.Proofs.Tryz
end
section
namespace Go.Proofs.Tryz
open Go Go.Av
set_option maxRecDepth 10000
set_option linter.unusedSimpArgs false
set_option linter.unusedVariables false
variable {W0 : World}
variable {τ σ : Store} {xid tid vid n : Nat} {cv ov lv dv : AV} {z : Int} {cls : List (List Int)} {ord dec asm : List Int} {lev lev0 : List Nat} {stk : List (Nat × Int)} {base : Nat}

theorem lost_Lost (h : Srch τ σ xid tid cv vid ov lv dv z n cls ord lev dec) (hO : OpenW cls asm ord stk) (hc : cls.any (lostC ord) = true) : Lost cls asm ord stk := fun M h1 h2 => by
  rcases hO M h1 h2 with h3 | h3
  · obtain ⟨c, hc1, hc2⟩ := List.any_eq_true.1 hc
    have := lost_none h3 h.tr.good hc2
    rw [List.all_eq_true.1 h1 c hc1] at this
    cases this
  · exact h3

theorem sa_next (h : Way τ σ xid tid cv vid n cls asm base lev0 ord stk ov lv dv z) (hO : OpenW cls asm ord stk) :
    ACall prog W0 81 [.ptr 127 xid 0 [], .int .i64 0] σ fun r σ' => Ext τ σ' ∧ σ.length ≤ σ'.length ∧ ((r = .tup [.bool false, .int .i64 0] ∧ ∀ M, setT M cls = true → ¬ Agr M asm) ∨
      (r = .tup [.bool true, .int .i64 0] ∧ ∃ ord' stk' ov' lv' dv' z', Way τ σ' xid tid cv vid n cls asm base lev0 ord' stk' ov' lv' dv' z' ∧ cls.any (lostC ord') = false ∧ ∀ v : Nat, 0 < v → v ≤ n → valT ord' (v : Nat) ≠ 0)) := by
  refine fn_call [4, 5] [] func81 rfl rfl ntmps81 rfl rfl fun hs => ?_
  have hn := h.s.tr.small
  simp only [go_sem, simprocAttr, ↓reduceIte]
  refine LoopVC.falls [0, 1] (.of (by kernel_rfl)) (fun k A => ∃ ord2 stk2 ov2 lv2 dv2 z2, k = mu n stk2 ∧ Way τ A.st xid tid cv vid n cls asm base lev0 ord2 stk2 ov2 lv2 dv2 z2 ∧ OpenW cls asm ord2 stk2 ∧ σ.length ≤ A.st.length) (mu n stk) ⟨ord, stk, ov, lv, dv, z, ?_⟩ fun k B ⟨ord2, stk2, ov2, lv2, dv2, z2, hk, hW, hO2, hsl⟩ => ?_
  · simp only [go_sem, simprocAttr, ↓reduceIte]
    exact ⟨h, hO⟩
  have hS := hW.s
  simp only [go_sem, simprocAttr, ↓reduceIte, look_id hS.obj]
  refine CallA.reads (by simp only [go_sem, simprocAttr, ↓reduceIte]) (pr_clash hS.tr) ?_
  simp only [go_sem, simprocAttr, ↓reduceIte]
  refine ⟨fun hc => ?_, fun hc => ?_⟩
  · have hc : cls.any (lostC ord2) = true := by rw [← idxL_ge]; exact decide_eq_true hc
    refine CallA.goes (by simp only [go_sem, simprocAttr, ↓reduceIte]) (sa_back hW (lost_Lost hS hO2 hc)) fun r σ1 ⟨hx1, hl1, hr⟩ => ?_
    rcases hr with ⟨rfl, hno⟩ | ⟨rfl, ord3, stk3, ov3, lv3, dv3, hW3, hO3, hmu⟩
    · simp only [go_sem, simprocAttr, ↓reduceIte]
      refine EndR.ret ?_
      simp only [go_sem, simprocAttr, ↓reduceIte]
      exact ⟨_, .refl _, by omega, hx1, by omega, .inl ⟨rfl, hno⟩⟩
    · simp only [go_sem, simprocAttr, ↓reduceIte]
      refine .here (mu n stk3) (by omega) ⟨ord3, stk3, ov3, lv3, dv3, z2, rfl, ?_, hO3, ?_⟩
      · simp only [go_sem, simprocAttr, ↓reduceIte]
        exact hW3
      · simp only [go_sem, simprocAttr, ↓reduceIte]
        omega
  · have hc : cls.any (lostC ord2) = false := by rw [← idxL_ge]; exact decide_eq_false hc
    refine CallA.goes (by simp only [go_sem, simprocAttr, ↓reduceIte]) (sa_open hS) fun r σ1 ⟨hσ, v, hr, hv⟩ => ?_
    subst hr
    obtain rfl : σ1 = B.st := hσ
    simp only [go_sem, simprocAttr, ↓reduceIte]
    refine ⟨fun h0 => EndR.ret ?_, fun h0 => ?_⟩
    · have h0 : v = 0 := by omega
      subst h0
      simp only [go_sem, simprocAttr, ↓reduceIte]
      refine ⟨_, .refl _, hsl, hS.ext, hsl, .inr ⟨rfl, ord2, stk2, ov2, lv2, dv2, z2, hW, hc, ?_⟩⟩
      rcases hv with ⟨_, h1⟩ | ⟨h1, _⟩
      · exact h1
      · omega
    obtain ⟨v0, vn, vv⟩ : 0 < v ∧ v ≤ n ∧ valT ord2 (v : Nat) = 0 := hv.resolve_left fun h => h0 (by rw [h.1]; rfl)
    have hds := hS.hdec.st
    obtain ⟨y1, y2, y3, y4, y5, y6, y7⟩ := hS.xne
    have hle := hW.ok.le
    have hgl := hS.tr.good.len
    obtain ⟨o2, hS2⟩ := hS.decs (IntKind.i64.wrap (z2 + 1)) (.refl _ _) hS.hdec (fun j hj => .inl hj)
    simp only [go_sem, simprocAttr, ↓reduceIte, look_id hS.obj, setLook_id hS.obj, look_set y7, hds.ok, hds.un]
    refine AppA.rowS (σ := B.st.set xid (srchO tid n dv2 (IntKind.i64.wrap (z2 + 1)))) (by simp only [go_sem, simprocAttr, ↓reduceIte, srchO]) 1048576 (by kernel_rfl) hS2.hdec (.lit _ _ _) (by simp; omega) fun dv5 σ3 ha => ?_
    have hr5 : RowV σ3 dv5 3 ((stk2.map (·.2) ++ [(v : Int)]).map (.int .i64)) := by rw [List.map_append]; exact ha.row
    obtain ⟨o5, hS5⟩ := hS2.decs (IntKind.i64.wrap (z2 + 1)) ha.fr hr5 ha.foot
    have hr := ha.row.st
    have t5 := (List.getElem?_eq_some_iff.1 o5).1
    have hwv : IntKind.i64.wrap (-(v : Int)) = -(v : Int) := wrap_in (by omega)
    simp only [go_sem, simprocAttr, ↓reduceIte, look_id o5, setLook_id o5, hr.ok, hr.un, hr.fits, look_set t5, hwv]
    have hll : (lev0 ++ stk2.map (·.1)).length ≤ 100000 := by have := hW.lev0; simp; omega
    have hvn : valT ord2 (-(v : Int)) = 0 := by rw [valT_neg hS.tr.good, vv]; rfl
    refine CallA.goes (by simp only [go_sem, simprocAttr, ↓reduceIte, srchO]) (pr_push hS5.tr (-(v : Int)) (by omega) (by omega) hvn hc hll) fun r σ5 ⟨hr6, ov6, lv6, fs, ht6, fr6, ff6, snd6⟩ => ?_
    subst hr6
    simp only [go_sem, simprocAttr, ↓reduceIte]
    have hS6 := hS5.step ht6 fr6 (fun j hj => ff6 j (by simp [hj])) (fun j hj => ff6 j (by simp [hj]))
    have eS : ∀ q : List (Nat × Int), lev0 ++ (stk2 ++ q).map (·.1) = lev0 ++ stk2.map (·.1) ++ q.map (·.1) := fun q => by rw [List.map_append, List.append_assoc]
    have hl3 := ha.fr.len
    have hl6 := fr6.len
    simp at hl3 hl6
    have tk : ∀ i, i ≤ ord2.length → (ord2 ++ -(v : Int) :: fs).take i = ord2.take i := fun i hi => List.take_append_of_le_length hi
    have hkp : ∀ p ∈ stk2, p.1 ≤ ord2.length := fun p hp => by
      have key : ∀ {lo : Nat} {s : List (Nat × Int)}, StkOk n cls ord2 lo s → ∀ p ∈ s, p.1 ≤ ord2.length := fun {lo s} => by
        induction s generalizing lo with
        | nil => intro _ p hp; simp at hp
        | cons q s ih =>
          intro ⟨_, h2, _, _, _, _, h7⟩ p hp
          rcases List.mem_cons.1 hp with rfl | hp
          · omega
          · exact ih h7 p hp
      exact key hW.ok p hp
    have hlen6 := hS6.tr.good.len
    simp at hlen6
    refine .here (mu n (stk2 ++ [(ord2.length, (v : Int))])) (by rw [hk]; exact mu_push n stk2 _ _ (by omega)) ⟨ord2 ++ -(v : Int) :: fs, stk2 ++ [(ord2.length, (v : Int))], ov6, lv6, dv5, IntKind.i64.wrap (z2 + 1), rfl, ?_, fun M h1 h2 => ?_, ?_⟩
    · simp only [go_sem, simprocAttr, ↓reduceIte]
      refine ⟨?_, hW.ok.app tk rfl (by simp) (by omega) (by omega) vv hc, fun l hl => ?_, hW.lev0⟩
      · rw [eS, List.map_append]
        exact hS6
      · rw [tk _ (by omega)]
        exact hW.asm l hl
    · rcases hO2 M h1 h2 with h3 | h3
      · cases ht : litT M (v : Int) with
        | true => exact .inr ⟨(ord2.length, (v : Int)), by simp, by show (0 : Int) < v; omega, by rw [tk _ (Nat.le_refl _), List.take_length]; exact h3, ht⟩
        | false =>
          left
          refine snd6 M h1 fun l hl => ?_
          rcases List.mem_append.1 hl with hl | hl
          · exact h3 l hl
          · rw [List.mem_singleton.1 hl, litT_neg (by omega), ht]; rfl
      · exact .inr (h3.more (fun p hp => tk _ (hkp p hp)) _)
    · simp only [go_sem, simprocAttr, ↓reduceIte]
      omega
end Go.Proofs.Tryz
end
section
namespace Go.Proofs.Tryz
open Go Go.Av
set_option maxRecDepth 10000
set_option linter.unusedSimpArgs false
set_option linter.unusedVariables false
variable {W0 : World}
variable {τ σ : Store} {xid tid vid n : Nat} {cv ov lv dv : AV} {z : Int} {cls : List (List Int)} {ord dec asm : List Int} {lev lev0 : List Nat} {stk : List (Nat × Int)} {base : Nat}

/-- A set of clauses that is well made. -/
structure SetOk (n : Nat) (cls : List (List Int)) : Prop where
  small : n ≤ 200
  len : cls.length ≤ 5000
  wf : ∀ c ∈ cls, c ≠ [] ∧ c.length ≤ 1048576 ∧ ∀ l ∈ c, l ≠ 0 ∧ l.natAbs ≤ n

theorem wfL_iff {n : Nat} {l : Int} : wfL n l = true ↔ l ≠ 0 ∧ l.natAbs ≤ n := by simp [wfL]

theorem sa_begin (sid : Nat) (hid : σ[sid]? = some (setO n cv)) (hb : Bld σ cv 84 (cls.map litsAV)) (hk : SetOk n cls) (asm : List Int) (ha : asm.length ≤ 1000) :
    ACall prog W0 80 [.ptr 112 sid 0 [], litsAV asm] σ fun r σ' => Ext σ σ' ∧ ((r = .tup [.nil, .bool false] ∧ ¬ satA n cls asm) ∨
      ∃ xid tid cv' vid ov lv ord lev0, r = .tup [.ptr 127 xid 0 [], .bool true] ∧ Way σ σ' xid tid cv' vid n cls asm ord.length lev0 ord [] ov lv .nils 0 ∧ OpenW cls asm ord [] ∧ ∀ l ∈ asm, wfL n l = true) := by
  refine fn_call [4, 5] [2000053] func80 rfl rfl ntmps80 rfl rfl fun hs => ?_
  have hn := hk.small
  simp only [go_sem, simprocAttr, ↓reduceIte]
  refine JoinVC.at [1] (by kernel_rfl) (fun A => A.env 0 = .ptr 112 sid 0 [] ∧ A.st = σ) (fun h => by cases h) (fun _ => ?_) fun B ⟨hs0, hst⟩ => ?_
  · simp only [go_sem, simprocAttr, ↓reduceIte]
  simp only [go_sem, simprocAttr, ↓reduceIte, hs0, hst]
  refine CallA.goes (by simp only [go_sem, simprocAttr, ↓reduceIte, hst]) (pr_new sid hid hb hk.small hk.len hk.wf) fun r σ1 ⟨tid, cv1, vid, ov1, ord1, hr, ht1, ho1, hx1, hm1⟩ => ?_
  subst hr
  have hE : ∀ st, Ext σ st → st[sid]? = some (setO n cv) := fun st he => by rw [(Fr.ext (F := []) he).old sid (List.getElem?_eq_some_iff.1 hid).1 (by simp), hid]
  simp only [go_sem, simprocAttr, ↓reduceIte, hs0]
  refine CallA.reads (by simp only [go_sem, simprocAttr, ↓reduceIte]) (cn_vars σ1 sid n cv (hE _ hx1)) ?_
  simp only [go_sem, simprocAttr, ↓reduceIte, hs0, litsAV, List.length_map]
  have hxl := hx1.le
  have hS0 : Srch σ (σ1 ++ [srchO tid n .nils 0]) σ1.length tid cv1 vid ov1 .nils .nils 0 n cls ord1 [] [] := by
    have old : ∀ j, j < σ1.length → (σ1 ++ [srchO tid n .nils 0])[j]? = σ1[j]? := fun j hj => List.getElem?_append_left hj
    obtain ⟨i1, i2, i3⟩ := ht1.ids
    refine ⟨⟨by rw [old _ i1, ht1.hobj], ht1.hcls.keep fun j hj => old j (ht1.hcls.lt j hj), by rw [old _ i2, ht1.hvals], ht1.hord.keep fun j hj => old j (ht1.hord.lt j hj), ht1.hlev.keep fun j hj => old j (ht1.hlev.lt j hj), ht1.hne, ht1.good, ht1.small, ht1.clen, ht1.wf⟩, ho1, hx1.app _, by simp, .inl ⟨rfl, rfl⟩, hxl, by simp [foot], by simp [foot], by simp [foot]⟩
  refine LoopVC.at [6] (.of (by kernel_rfl)) (fun A => ∃ ov lv ord lev, Srch σ A.st σ1.length tid cv1 vid ov lv .nils 0 n cls ord lev [] ∧ (∀ M, setT M cls = true → Agr M asm → Agr M ord) ∧ (∀ l ∈ asm, l ∈ ord) ∧ (∀ l ∈ asm, wfL n l = true) ∧ lev.length ≤ 1000) ?_ fun B ⟨ov, lv, ord, lev, hS, hM, hi, hwf, hlv⟩ => ?_
  · refine LoopVC.upto [0, 6, 19, 20] (.of (by kernel_rfl)) asm.length (fun i A => A.env 21 = .int .i64 i ∧ ∃ ov lv ord lev, Srch σ A.st σ1.length tid cv1 vid ov lv .nils 0 n cls ord lev [] ∧ (∀ M, setT M cls = true → Agr M (asm.take i) → Agr M ord) ∧ (∀ l ∈ asm.take i, l ∈ ord) ∧ (∀ l ∈ asm.take i, wfL n l = true) ∧ lev.length ≤ i) 0 (Nat.zero_le _) ?_ fun i B hi ⟨h21, ov, lv, ord, lev, hS, hM, hin, hwf, hlv⟩ => ?_
    · simp only [go_sem, simprocAttr, ↓reduceIte]
      exact ⟨ov1, .nils, ord1, [], hS0, fun M h1 _ => hm1 M h1, by simp⟩
    simp only [go_sem, simprocAttr, ↓reduceIte, h21, hs0, List.length_map]
    refine ⟨fun hlt => ⟨hlt, ?_⟩, fun hge => ?_⟩
    · obtain ⟨l, hl⟩ := get_some hlt
      simp only [atV_map hl]
      simp only [go_sem, simprocAttr, ↓reduceIte, h21, hs0]
      refine CallA.reads (by simp only [go_sem, simprocAttr, ↓reduceIte]) (sa_may sid (hE _ hS.ext) hn l) ?_
      simp only [go_sem, simprocAttr, ↓reduceIte, h21, hs0]
      have hlm := List.mem_of_getElem? hl
      refine ⟨fun hw => EndR.ret ?_, fun hw => ?_⟩
      · simp only [go_sem, simprocAttr, ↓reduceIte]
        exact ⟨_, .refl _, hS.ext.le, hS.ext, .inl ⟨rfl, fun h => by have := h.1 l hlm; rw [hw] at this; cases this⟩⟩
      obtain ⟨w1, w2⟩ := wfL_iff.1 hw
      have hwn : IntKind.i64.wrap (-l) = -l := wrap_in (by omega)
      have hmx : maxI l (-l) = ((l.natAbs : Nat) : Int) := by unfold maxI; split <;> omega
      simp only [go_sem, simprocAttr, ↓reduceIte, look_id hS.obj, hwn, hmx]
      refine CallA.reads (by simp only [go_sem, simprocAttr, ↓reduceIte]) (pr_value hS.tr l.natAbs (by omega) w2) ?_
      simp only [go_sem, simprocAttr, ↓reduceIte, h21, hs0]
      refine JoinVC.at [0, 6, 8, 19, 20, 21] (by kernel_rfl) (fun A => A.env 9 = .int .i64 (valT ord l) ∧ A.st = B.st) (fun h => ?_) (fun h => ?_) fun A ⟨h9, hst⟩ => ?_
      · simp only [go_sem, simprocAttr, ↓reduceIte]
        have hneg := of_decide_eq_true h
        have e : ((l.natAbs : Nat) : Int) = -l := by omega
        rw [e, valT_neg hS.tr.good]
        rcases valT_cases ord l with ⟨h1, _⟩ | ⟨h1, _⟩ | ⟨h1, _⟩ <;> rw [h1] <;> rfl
      · simp only [go_sem, simprocAttr, ↓reduceIte]
        have hneg := of_decide_eq_false h
        have e : ((l.natAbs : Nat) : Int) = l := by omega
        rw [e]
      have htk : ∀ M, Agr M asm → Agr M (asm.take i) := fun M h l hl => h l (List.mem_of_mem_take hl)
      have hcont : ∀ {st : Store} {ov' lv' : AV} {ord' : List Int} {lev' : List Nat}, Srch σ st σ1.length tid cv1 vid ov' lv' .nils 0 n cls ord' lev' [] → (∀ M, setT M cls = true → Agr M (asm.take (i + 1)) → Agr M ord') → (∀ l ∈ asm.take i, l ∈ ord') → l ∈ ord' → lev'.length ≤ i + 1 →
          ∃ ov lv ord lev, Srch σ st σ1.length tid cv1 vid ov lv .nils 0 n cls ord lev [] ∧ (∀ M, setT M cls = true → Agr M (asm.take (i + 1)) → Agr M ord) ∧ (∀ l ∈ asm.take (i + 1), l ∈ ord) ∧ (∀ l ∈ asm.take (i + 1), wfL n l = true) ∧ lev.length ≤ i + 1 := fun {st ov' lv' ord' lev'} a1 a2 a3 a4 a5 => by
        refine ⟨ov', lv', ord', lev', a1, a2, fun m hm => ?_, fun m hm => ?_, a5⟩
        · rw [take_succ_get hl] at hm
          rcases List.mem_append.1 hm with hm | hm
          · exact a3 m hm
          · rw [List.mem_singleton.1 hm]; exact a4
        · rw [take_succ_get hl] at hm
          rcases List.mem_append.1 hm with hm | hm
          · exact hwf m hm
          · rw [List.mem_singleton.1 hm]; exact hw
      have hup : ∀ M, Agr M (asm.take (i + 1)) → Agr M (asm.take i) ∧ litT M l = true := fun M h => by
        rw [take_succ_get hl] at h
        exact ⟨fun m hm => h m (List.mem_append_left _ hm), h l (by simp)⟩
      have hsl := hS.ext.le
      rcases valT_cases ord l with ⟨hv, hlo⟩ | ⟨hv, _, hlo⟩ | ⟨hv, _⟩
      · have d1 : decide ((1 : Int) < 0) = false := rfl
        have d2 : ((1 : Int) == 0) = false := rfl
        simp only [go_sem, simprocAttr, ↓reduceIte, h9, hst, h21, hs0, look_id hS.obj, hv, d1, d2]
        refine ⟨.bool false, ?_⟩
        simp only [go_sem, simprocAttr, ↓reduceIte, h9, hst, h21, hs0]
        exact ⟨hlt, int_succ hlt (by rw [maxLen_eq]; omega), hcont hS (fun M h1 h2 => hM M h1 (hup M h2).1) hin hlo (by omega)⟩
      · have d1 : decide ((-1 : Int) < 0) = true := rfl
        simp only [go_sem, simprocAttr, ↓reduceIte, h9, hst, h21, hs0, look_id hS.obj, hv, d1]
        refine ⟨.bool false, ?_⟩
        simp only [go_sem, simprocAttr, ↓reduceIte, h9, hst, h21, hs0]
        refine EndR.ret ?_
        simp only [go_sem, simprocAttr, ↓reduceIte, hst]
        refine ⟨_, .refl _, hsl, hS.ext, .inl ⟨rfl, fun ⟨_, M, h1, h2⟩ => ?_⟩⟩
        have := (hM M h1 (htk M h2)).neg hS.tr.good hv
        rw [h2 l hlm] at this
        cases this
      · have d1 : decide ((0 : Int) < 0) = false := rfl
        have d2 : ((0 : Int) == 0) = true := rfl
        simp only [go_sem, simprocAttr, ↓reduceIte, h9, hst, h21, hs0, look_id hS.obj, hv, d1, d2]
        cases hcl : cls.any (lostC ord) with
        | true =>
          refine CallA.goes (by simp only [go_sem, simprocAttr, ↓reduceIte, hst]) (pr_pushNo hS.tr l w1 w2 hv hcl) fun r σ2 ⟨hr, hσ⟩ => ?_
          subst hr hσ
          simp only [go_sem, simprocAttr, ↓reduceIte]
          refine EndR.ret ?_
          simp only [go_sem, simprocAttr, ↓reduceIte]
          refine ⟨_, .refl _, hsl, hS.ext, .inl ⟨rfl, fun ⟨_, M, h1, h2⟩ => ?_⟩⟩
          obtain ⟨c, hc1, hc2⟩ := List.any_eq_true.1 hcl
          have := lost_none (hM M h1 (htk M h2)) hS.tr.good hc2
          rw [List.all_eq_true.1 h1 c hc1] at this
          cases this
        | false =>
          refine CallA.goes (by simp only [go_sem, simprocAttr, ↓reduceIte, hst]) (pr_push hS.tr l w1 w2 hv hcl (by omega)) fun r σ2 ⟨hr, ov6, lv6, fs, ht6, fr6, ff6, snd6⟩ => ?_
          subst hr
          have hS6 := hS.step ht6 fr6 (fun j hj => ff6 j (by simp [hj])) (fun j hj => ff6 j (by simp [hj]))
          simp only [go_sem, simprocAttr, ↓reduceIte, h21]
          refine ⟨hlt, int_succ hlt (by rw [maxLen_eq]; omega), hcont hS6 (fun M h1 h2 => snd6 M h1 fun m hm => ?_) (fun m hm => by simp [hin m hm]) (by simp) (by simp; omega)⟩
          rcases List.mem_append.1 hm with hm | hm
          · exact hM M h1 (hup M h2).1 m hm
          · rw [List.mem_singleton.1 hm]; exact (hup M h2).2
    · rw [List.take_of_length_le hge] at hM hin hwf
      exact ⟨ov, lv, ord, lev, hS, hM, hin, hwf, by omega⟩
  simp only [go_sem, simprocAttr, ↓reduceIte]
  refine EndR.ret ?_
  simp only [go_sem, simprocAttr, ↓reduceIte]
  refine ⟨_, .refl _, hS.ext.le, hS.ext, .inr ⟨σ1.length, tid, cv1, vid, ov, lv, ord, lev, rfl, ⟨by simpa using hS, Nat.le_refl _, fun l hl => by rw [List.take_length]; exact hi l hl, hlv⟩, fun M h1 h2 => .inl (hM M h1 h2), hwf⟩⟩
end Go.Proofs.Tryz
end
section
namespace Go.Proofs.Tryz
open Go Go.Av
set_option maxRecDepth 10000
set_option linter.unusedSimpArgs false
set_option linter.unusedVariables false
variable {W0 : World}
variable {τ σ : Store} {xid tid vid n : Nat} {cv ov lv dv : AV} {z : Int} {cls : List (List Int)} {ord dec asm : List Int} {lev lev0 : List Nat} {stk : List (Nat × Int)} {base : Nat}

theorem sa_solve (sid : Nat) (hid : σ[sid]? = some (setO n cv)) (hb : Bld σ cv 84 (cls.map litsAV)) (hk : SetOk n cls) (asm : List Int) (ha : asm.length ≤ 1000) :
    ACall prog W0 52 [.ptr 112 sid 0 [], litsAV asm, .int .i64 0] σ fun r σ' => Ext σ σ' ∧ ((r = .tup [.nils, .bool false, .int .i64 0] ∧ ¬ satA n cls asm) ∨
      ∃ M, r = .tup [.sl 4 ((List.range n).map fun i => .bool (M (i + 1))), .bool true, .int .i64 0] ∧ setT M cls = true ∧ Agr M asm ∧ ∀ l ∈ asm, wfL n l = true) := by
  refine fn_call [6, 7, 8] [] func52 rfl rfl ntmps52 rfl rfl fun hs => ?_
  have hn := hk.small
  simp only [go_sem, simprocAttr, ↓reduceIte]
  refine CallA.goes (by simp only [go_sem, simprocAttr, ↓reduceIte]) (sa_begin sid hid hb hk asm ha) fun r σ1 ⟨hx1, hr⟩ => ?_
  rcases hr with ⟨rfl, hno⟩ | ⟨xid, tid, cv1, vid, ov1, lv1, ord1, lev1, rfl, hW, hO, hwf⟩
  · simp only [go_sem, simprocAttr, ↓reduceIte]
    refine EndR.ret ?_
    simp only [go_sem, simprocAttr, ↓reduceIte]
    exact ⟨_, .refl _, hx1.le, hx1, .inl ⟨rfl, hno⟩⟩
  simp only [go_sem, simprocAttr, ↓reduceIte]
  refine CallA.goes (by simp only [go_sem, simprocAttr, ↓reduceIte]) (sa_next hW hO) fun r σ2 ⟨hx2, hl2, hr⟩ => ?_
  rcases hr with ⟨rfl, hno⟩ | ⟨rfl, ord2, stk2, ov2, lv2, dv2, z2, hW2, hc, hall⟩
  · simp only [go_sem, simprocAttr, ↓reduceIte]
    refine EndR.ret ?_
    simp only [go_sem, simprocAttr, ↓reduceIte]
    exact ⟨_, .refl _, hx2.le, hx2, .inl ⟨rfl, fun ⟨_, M, h1, h2⟩ => hno M h1 h2⟩⟩
  have hS := hW2.s
  obtain ⟨M, hM1, hM2, hM3⟩ := model_of hS.tr.good hall hc hS.tr.wf
  simp only [go_sem, simprocAttr, ↓reduceIte, look_id hS.obj]
  refine MakeA.go (e := 4) 200 (by kernel_rfl) (z := .bool false) (by kernel_rfl) (by kernel_rfl) hn ?_
  simp only [go_sem, simprocAttr, ↓reduceIte]
  have hasm : Agr M asm := fun l hl => hM2 l (List.mem_of_mem_take (hW2.asm l hl))
  let ms (i : Nat) : List AV := (List.range n).map fun j => .bool (if j < i then M (j + 1) else false)
  have hml : ∀ i, (ms i).length = n := fun i => by simp [ms]
  have hm0 : ms 0 = List.replicate n (.bool false) := by
    refine List.ext_getElem? fun j => ?_
    simp only [ms, List.getElem?_map, List.getElem?_range, List.getElem?_replicate]
    by_cases hj : j < n
    · simp [hj]
    · simp [hj]
  have hms : ∀ i, i < n → (ms i).set i (.bool (M (i + 1))) = ms (i + 1) := fun i hi => by
    refine List.ext_getElem? fun j => ?_
    rw [List.getElem?_set, hml]
    simp only [ms, List.getElem?_map]
    by_cases hj : j < n
    · rw [List.getElem?_range hj]
      by_cases e : i = j
      · subst e; simp [hj]
      · simp only [e, if_false, Option.map_some]
        by_cases h1 : j < i
        · simp [h1, show j < i + 1 by omega]
        · simp [h1, show ¬ j < i + 1 by omega]
    · rw [List.getElem?_eq_none (show (List.range n).length ≤ j by simp; omega)]
      simp; omega
  have hmn : ms n = (List.range n).map fun i => .bool (M (i + 1)) := List.map_congr_left fun j hj => by rw [if_pos (List.mem_range.1 hj)]
  rw [← hm0]
  have hl2' := hx2.le
  have hS' : ∀ o, Trail (σ2 ++ [o]) tid cv1 vid ov2 lv2 n cls ord2 (lev1 ++ stk2.map (·.1)) ∧ (σ2 ++ [o])[xid]? = some (srchO tid n dv2 z2) := fun o => by
    have old : ∀ j, j < σ2.length → (σ2 ++ [o])[j]? = σ2[j]? := fun j hj => List.getElem?_append_left hj
    have ht1 := hS.tr
    obtain ⟨i1, i2, i3⟩ := ht1.ids
    exact ⟨⟨by rw [old _ i1, ht1.hobj], ht1.hcls.keep fun j hj => old j (ht1.hcls.lt j hj), by rw [old _ i2, ht1.hvals], ht1.hord.keep fun j hj => old j (ht1.hord.lt j hj), ht1.hlev.keep fun j hj => old j (ht1.hlev.lt j hj), ht1.hne, ht1.good, ht1.small, ht1.clen, ht1.wf⟩, by rw [old _ hS.xne.2.2.2.2.2.2, hS.obj]⟩
  refine LoopVC.at [12] (.of (by kernel_rfl)) (fun A => A.st = σ2 ++ [some (.cells 4 (ms n))]) ?_ fun B hst => ?_
  · refine LoopVC.upto [9, 12, 37] (.of (by kernel_rfl)) n (fun i A => A.env 38 = .int .i64 i ∧ A.st = σ2 ++ [some (.cells 4 (ms i))]) 0 (Nat.zero_le _) ?_ fun i B hi ⟨h38, hst⟩ => ?_
    · simp only [go_sem, simprocAttr, ↓reduceIte]
    simp only [go_sem, simprocAttr, ↓reduceIte, h38, hst]
    refine ⟨fun hlt => ?_, fun hge => ?_⟩
    · obtain ⟨ht, hx⟩ := hS' (some (.cells 4 (ms i)))
      have hw : IntKind.i64.wrap ((i : Int) + 1) = ((i + 1 : Nat) : Int) := wrap_succ hlt (by rw [maxLen_eq]; omega)
      simp only [go_sem, simprocAttr, ↓reduceIte, h38, hst, look_id hx, hw]
      refine CallA.reads (by simp only [go_sem, simprocAttr, ↓reduceIte, hst]) (pr_value ht (i + 1) (by omega) (by omega)) ?_
      obtain ⟨y, hy⟩ := get_some (show i < (ms i).length by rw [hml]; exact hlt)
      simp only [go_sem, simprocAttr, ↓reduceIte, h38, hst, Nat.zero_add, hy, Option.bind_some, Option.isSome_some]
      refine ⟨⟨hlt, ⟨4, ms i, by simp⟩⟩, hlt, int_succ hlt (by rw [maxLen_eq]; omega), ?_⟩
      rw [← hM3, hms i hlt]
    · have : i = n := by omega
      subst this
      rfl
  simp only [go_sem, simprocAttr, ↓reduceIte]
  refine EndR.frz (e := 4) (te := 4) (id := σ2.length) (off := 0) (m := n) (xs := ms n) 6 (by simp only [go_sem, simprocAttr, ↓reduceIte]) (by simp only [go_sem, simprocAttr, ↓reduceIte, hst]) (by rw [hml]; omega) (EndR.ret ?_)
  simp only [go_sem, simprocAttr, ↓reduceIte, hst]
  rw [List.take_of_length_le (by rw [hml]; omega), hmn]
  exact ⟨_, .refl _, by omega, hx2.app _, .inr ⟨M, rfl, hM1, hasm, hwf⟩⟩
end Go.Proofs.Tryz
end
section
namespace Go.Proofs.Tryz
open Go Go.Av
set_option maxRecDepth 10000
set_option linter.unusedSimpArgs false
set_option linter.unusedVariables false
variable {W0 : World}
variable {σ : Store} {n : Nat} {cv : AV} {cls : List (List Int)}

/-- Can they hold together? -/
noncomputable def satB (n : Nat) (cls : List (List Int)) (asm : List Int) : Bool := @decide (satA n cls asm) (Classical.propDecidable _)
theorem satB_true {n : Nat} {cls : List (List Int)} {asm : List Int} (h : satA n cls asm) : satB n cls asm = true := @decide_eq_true _ (Classical.propDecidable _) h
theorem satB_false {n : Nat} {cls : List (List Int)} {asm : List Int} (h : ¬ satA n cls asm) : satB n cls asm = false := @decide_eq_false _ (Classical.propDecidable _) h

def askO (n sid : Nat) : Option SObj := some (.cells 82 [.agg 82 [.int .i64 n, .ptr 112 sid 0 []]])

theorem st_lit (i : Nat) (hi : i ≤ 1048576) : PureFn prog W0 24 [.int .i64 i] (.int .i64 ((i + 1 : Nat) : Int)) := by
  refine fn_pure [2] [] func24 rfl rfl ntmps24 rfl rfl (.int _ _) fun hs σ => ?_
  simp only [go_sem, simprocAttr, ↓reduceIte]
  exact weak_int (wrap_succ (N := 1048577) (by omega) (by rw [maxLen_eq]; omega))

theorem st_can (aid sid : Nat) (ha : σ[aid]? = some (askO n sid)) (hid : σ[sid]? = some (setO n cv)) (hb : Bld σ cv 84 (cls.map litsAV)) (hk : SetOk n cls) (asm : List Int) (hl : asm.length ≤ 1000) :
    ACall prog W0 23 [.ptr 82 aid 0 [], litsAV asm] σ fun r σ' => r = .bool (satB n cls asm) ∧ σ' = σ := by
  refine fn_st [4] [] func23 rfl rfl ntmps23 rfl rfl (.bool _) fun hs => ?_
  simp only [go_sem, simprocAttr, ↓reduceIte, look_id ha]
  refine CallA.goes (by simp only [go_sem, simprocAttr, ↓reduceIte]) (sa_solve sid hid hb hk asm hl) fun r σ1 ⟨hx, hr⟩ => ?_
  rcases hr with ⟨rfl, hno⟩ | ⟨M, rfl, h1, h2, h3⟩
  · simp only [go_sem, simprocAttr, ↓reduceIte]
    refine EndR.ret ?_
    simp only [go_sem, simprocAttr, ↓reduceIte]
    exact ⟨weak_bool (satB_false hno).symm, hx⟩
  · simp only [go_sem, simprocAttr, ↓reduceIte]
    refine EndR.ret ?_
    simp only [go_sem, simprocAttr, ↓reduceIte]
    exact ⟨weak_bool (satB_true ⟨h3, M, h1, h2⟩).symm, hx⟩

theorem st_ask1 (all : List Pkg) (i : Int) : PureFn prog W0 44 [.int .i64 i, .loc 22 (pkgsAV all)] (.bool (decide (i < 0) || decide ((all.length : Int) ≤ i))) := by
  refine fn_pure [3] [] func44 rfl rfl ntmps44 rfl rfl (.bool _) fun hs σ => ?_
  simp only [go_sem, simprocAttr, ↓reduceIte, pkgsAV, List.length_map]
  try exact .refl _

theorem st_ask2 (q : Pkg) (a : Atom) : PureFn prog W0 48 [atomAV a, .loc 38 (pkgAV q)] (.bool (satP q a)) := by
  refine fn_pure [3] [2] func48 rfl rfl ntmps48 rfl rfl (.bool _) fun hs σ => ?_
  simp only [go_sem, simprocAttr, ↓reduceIte]
  refine CallA.fn (ix_sat q a) ?_
  simp only [go_sem, simprocAttr, ↓reduceIte]
  try exact .refl _
end Go.Proofs.Tryz
end
section
namespace Go.Proofs.Tryz
open Go Go.Av
set_option maxRecDepth 10000
set_option linter.unusedSimpArgs false
set_option linter.unusedVariables false
variable {W0 : World}

/-- An asker in memory, behind a store. -/
structure AskSt (τ st : Store) (aid sid n : Nat) (cv : AV) (cls : List (List Int)) : Prop where
  ext : Ext τ st
  alo : τ.length ≤ aid
  slo : τ.length ≤ sid
  ao : st[aid]? = some (askO n sid)
  so : st[sid]? = some (setO n cv)
  bld : Bld st cv 84 (cls.map litsAV)
  clo : ∀ j ∈ foot cv, τ.length ≤ j
  ok : SetOk n cls

theorem AskSt.more {τ st : Store} {aid sid n : Nat} {cv : AV} {cls : List (List Int)} (h : AskSt τ st aid sid n cv cls) (l : Store) : AskSt τ (st ++ l) aid sid n cv cls := by
  have old : ∀ j, j < st.length → (st ++ l)[j]? = st[j]? := fun j hj => List.getElem?_append_left hj
  exact ⟨h.ext.app l, h.alo, h.slo, by rw [old _ (List.getElem?_eq_some_iff.1 h.ao).1, h.ao], by rw [old _ (List.getElem?_eq_some_iff.1 h.so).1, h.so], h.bld.keep fun j hj => old j (h.bld.lt j hj), h.clo, h.ok⟩

theorem AskSt.add {τ st st' : Store} {aid sid n : Nat} {cv cv' : AV} {cls cls' : List (List Int)} {c : List Int} (h : AskSt τ st aid sid n cv cls) (hf : Fr (sid :: foot cv) st st') (hs : st'[sid]? = some (setO n cv')) (hb : Bld st' cv' 84 (cls'.map litsAV)) (hft : ∀ j ∈ foot cv', j ∈ foot cv ∨ st.length ≤ j)
    (hl : cls'.length ≤ 5000) (hd : ∀ d ∈ cls', d ∈ cls ∨ d.Perm c) (hw : wfC n c = true) (h0 : c ≠ []) (hc : c.length ≤ 1048576) : AskSt τ st' aid sid n cv' cls' := by
  have hx := h.ext.le
  have ne : aid ≠ sid := fun e => by have := h.ao; rw [e, h.so] at this; simp [askO, setO] at this
  refine ⟨hf.toExt h.ext fun j hj => ?_, h.alo, h.slo, ?_, hs, hb, fun j hj => ?_, ⟨h.ok.small, hl, fun d hdm => ?_⟩⟩
  · rcases List.mem_cons.1 hj with rfl | hj
    · exact h.slo
    · exact h.clo j hj
  · rw [hf.old aid (List.getElem?_eq_some_iff.1 h.ao).1 (by simp [ne, h.bld.ne h.ao]), h.ao]
  · rcases hft j hj with h1 | h1
    · exact h.clo j h1
    · omega
  · rcases hd d hdm with h1 | h1
    · exact h.ok.wf d h1
    · refine ⟨fun e => h0 ?_, by rw [h1.length_eq]; exact hc, fun l hl => ?_⟩
      · subst e; exact h1.symm.eq_nil
      · have := List.all_eq_true.1 hw l (h1.subset hl)
        exact wfL_iff.1 this

theorem st_ask (σ : Store) (all : List Pkg) (places : List Int) (hp : ∀ p ∈ all, MayN p) (h11 : all.length ≤ 11) (hpl : places.length ≤ 1000) :
    ACall prog W0 22 [pkgsAV all, .sl 3 (places.map (.int .i64))] σ fun r σ' => Ext σ σ' ∧
      ((mayAll all ≠ 0 ∧ r = .tup [.nil, .int .i64 (mayAll all)]) ∨ (mayAll all = 0 ∧ (places.any fun i => decide (i < 0) || decide ((all.length : Int) ≤ i)) = true ∧ r = .tup [.nil, .int .i64 1]) ∨
       (mayAll all = 0 ∧ (places.any fun i => decide (i < 0) || decide ((all.length : Int) ≤ i)) = false ∧ ∃ aid sid cv cls, r = .tup [.ptr 82 aid 0 [], .int .i64 0] ∧ AskSt σ σ' aid sid all.length cv cls ∧ ∀ M, setT M cls = setT M (allL all 0 all))) := by
  refine fn_call [4, 5] [2, 9, 14, 16, 2000029, 2000030, 2000031, 2000007, 2000107] func22 rfl rfl ntmps22 rfl rfl fun hs => ?_
  simp only [go_sem, simprocAttr, ↓reduceIte, pkgsAV]
  refine CallA.fn (re_mayAll all hp) ?_
  simp only [go_sem, simprocAttr, ↓reduceIte, pkgsAV]
  refine ⟨fun h0 => EndR.ret ?_, fun h0 => ?_⟩
  · simp only [go_sem, simprocAttr, ↓reduceIte]
    exact ⟨_, .refl _, .refl _, .inl ⟨h0, rfl⟩⟩
  refine CallA.fn (anInt (.int .i64) NotM.int64 places _ _ [.loc 22 (pkgsAV all)] (fun i _ => st_ask1 all i)) ?_
  simp only [go_sem, simprocAttr, ↓reduceIte, pkgsAV]
  refine ⟨fun h1 => EndR.ret ?_, fun h1 => ?_⟩
  · simp only [go_sem, simprocAttr, ↓reduceIte]
    exact ⟨_, .refl _, .refl _, .inr (.inl ⟨h0, h1, rfl⟩)⟩
  have hal : all.length ≤ 200 := by omega
  simp only [go_sem, simprocAttr, ↓reduceIte, pkgsAV, List.length_map]
  refine ⟨.of (by kernel_rfl), CallA.goes (by simp only [go_sem, simprocAttr, ↓reduceIte]) (cn_new σ all.length hal) fun r σ1 ⟨hr, hσ⟩ => ?_⟩
  subst hr hσ
  simp only [go_sem, simprocAttr, ↓reduceIte, List.length_map]
  have a0 : AskSt σ (σ ++ [setO all.length .nils, askO all.length σ.length]) (σ.length + 1) σ.length all.length .nils [] :=
    ⟨(Ext.refl _).app _, by omega, Nat.le_refl _, by simp, by simp, .inl ⟨rfl, rfl⟩, by simp [foot], ⟨hal, by simp, by simp⟩⟩
  refine LoopVC.at [7] (.of (by kernel_rfl)) (fun A => ∃ cv cls, AskSt σ A.st (σ.length + 1) σ.length all.length cv cls ∧ ∀ M, setT M cls = setT M (allL all 0 all)) ?_ fun B ⟨cv, cls, ha, hM⟩ => ?_
  · refine LoopVC.upto [2, 7, 32, 33] (.of (by kernel_rfl)) all.length (fun i A => A.env 34 = .int .i64 i ∧ ∃ cv cls, AskSt σ A.st (σ.length + 1) σ.length all.length cv cls ∧ (∀ M, setT M cls = setT M (allL all 0 (all.take i))) ∧ cls.length ≤ i * 60) 0 (Nat.zero_le _) ?_ fun i B hi ⟨h34, cv, cls, ha, hM, hcl⟩ => ?_
    · simp only [go_sem, simprocAttr, ↓reduceIte]
      exact ⟨.nils, [], a0, fun M => rfl, by simp⟩
    simp only [go_sem, simprocAttr, ↓reduceIte, h34, List.length_map]
    refine ⟨fun hlt => ⟨hlt, ?_⟩, fun hge => ?_⟩
    · obtain ⟨p, hpi⟩ := get_some hlt
      have hpm := mayPkg_len (mayAll_pkg h0 (List.mem_of_getElem? hpi))
      simp only [atV_map hpi]
      simp only [go_sem, simprocAttr, ↓reduceIte, pkgAV, h34]
      refine CallA.fn ((sl_concat [p.pre, p.dep] (by simp) (by simp; omega)).weak (.cons (.lit _ _) .nil)) ?_
      have efl : [p.pre, p.dep].flatten = p.pre ++ p.dep := by simp
      rw [efl]
      have hpl2 : (p.pre ++ p.dep).length ≤ 24 := by simp; omega
      generalize hD : p.pre ++ p.dep = D at hpl2 ⊢
      clear efl
      have hil : i ≤ 1048576 := by omega
      simp only [go_sem, simprocAttr, ↓reduceIte, clausesAV, List.length_map, h34]
      refine LoopVC.at [2, 7, 8, 9, 32, 33, 34] (.of (by kernel_rfl)) (fun A => ∃ cv cls', AskSt σ A.st (σ.length + 1) σ.length all.length cv cls' ∧ (∀ M, setT M cls' = (setT M (allL all 0 (all.take i)) && setT M (D.map (depL all i)))) ∧ cls'.length ≤ i * 60 + 24) ?_ fun B2 ⟨cv2, cls2, ha2, hM2, hcl2⟩ => ?_
      · refine LoopVC.upto [2, 7, 8, 9, 32, 33, 34, 44, 45] (.of (by kernel_rfl)) D.length (fun j A => A.env 46 = .int .i64 j ∧ ∃ cv cls', AskSt σ A.st (σ.length + 1) σ.length all.length cv cls' ∧ (∀ M, setT M cls' = (setT M (allL all 0 (all.take i)) && setT M ((D.take j).map (depL all i)))) ∧ cls'.length ≤ i * 60 + j) 0 (Nat.zero_le _) ?_ fun j B2 hj ⟨h46, cv2, cls2, ha2, hM2, hcl2⟩ => ?_
        · simp only [go_sem, simprocAttr, ↓reduceIte]
          exact ⟨cv, cls, ha.more _, fun M => by rw [hM M]; simp [setT], by omega⟩
        simp only [go_sem, simprocAttr, ↓reduceIte, h46, List.length_map]
        refine ⟨fun hlt2 => ?_, fun hge2 => ?_⟩
        · obtain ⟨c, hc⟩ := get_some hlt2
          simp only [atV_map hc]
          refine ⟨hlt2, CallA.fn (st_lit i hil) ?_⟩
          have hwn : IntKind.i64.wrap (-(((i + 1 : Nat) : Int))) = -litN i := by rw [wrap_in (by omega)]; rfl
          simp only [go_sem, simprocAttr, ↓reduceIte, h46, List.length_map, hwn]
          refine LoopVC.at [2, 7, 8, 9, 32, 33, 34, 44, 45, 46] (.of (by kernel_rfl)) (fun A => ∃ v, A.env 12 = v ∧ Built B2.st A.st v 54 ((depL all i c).map (.int .i64))) ?_ fun B3 ⟨v, h12, hv⟩ => ?_
          · refine LoopVC.upto [2, 7, 8, 9, 11, 32, 33, 34, 44, 45, 46, 54, 55] (.of (by kernel_rfl)) all.length (fun k A => A.env 56 = .int .i64 k ∧ ∃ v, A.env 12 = v ∧ Built B2.st A.st v 54 ((-litN i :: meetL c 0 (all.take k)).map (.int .i64))) 0 (Nat.zero_le _) ?_ fun k B3 hk ⟨h56, v, h12, hv⟩ => ?_
            · simp only [go_sem, simprocAttr, ↓reduceIte]
              exact ⟨_, rfl, ⟨.inr (.inl rfl), .refl _, fun t h => by cases h⟩⟩
            simp only [go_sem, simprocAttr, ↓reduceIte, h56, h12, List.length_map, hv.ok, hv.un]
            refine ⟨fun hlt3 => ⟨hlt3, ?_⟩, fun hge3 => ?_⟩
            · obtain ⟨q, hq⟩ := get_some hlt3
              simp only [atV_map hq]
              simp only [go_sem, simprocAttr, ↓reduceIte, h56, h12, hv.ok, hv.un]
              have hsl := meetL_succ (c := c) all 0 k q hq
              rw [Nat.zero_add] at hsl
              have hlm := meetL_len (c := c) 0 (all.take k)
              rw [List.length_take] at hlm
              refine CallA.fn (anAtomC atomAV NotM.atom c (satP q) _ [.loc 38 (pkgAV q)] (fun a _ => st_ask2 q a)) ?_
              simp only [go_sem, simprocAttr, ↓reduceIte, h56, h12, hv.ok, hv.un]
              refine ⟨fun hb => ?_, fun hb => ⟨hlt3, int_succ hlt3 (by rw [maxLen_eq]; omega), _, rfl, by rw [hsl, hb, if_neg (by simp), List.append_nil]; exact hv.more _⟩⟩
              refine CallA.fn (st_lit k (by omega)) ?_
              simp only [go_sem, simprocAttr, ↓reduceIte, h56, h12, hv.ok, hv.un]
              refine AppA.own 1048576 (by kernel_rfl) (hv.more _).bld (.lit _ _ _) (by simp; omega) fun v' σ' ha' => ?_
              have hv' := (hv.more _).app ha'
              simp only [go_sem, simprocAttr, ↓reduceIte, h56, hv'.ok, hv'.un]
              refine ⟨hlt3, int_succ hlt3 (by rw [maxLen_eq]; omega), _, rfl, ?_⟩
              rw [hsl, hb, if_pos rfl, List.map_append]
              exact hv'
            · rw [List.take_of_length_le hge3] at hv
              exact ⟨_, rfl, hv⟩
          have ha3 : AskSt σ B3.st (σ.length + 1) σ.length all.length cv2 cls2 := by rw [hv.ext.eq]; exact ha2.more _
          obtain ⟨k1, k2, k3⟩ := depL_ok hlt c
          simp only [go_sem, simprocAttr, ↓reduceIte, h12, hv.ok, hv.un, look_id ha3.ao]
          refine CallA.goes (by simp only [go_sem, simprocAttr, ↓reduceIte]) ((cn_add B3.st σ.length all.length cv2 cls2 ha3.so ha3.bld hal (by omega) (depL all i c) k1 (by simp [depL]) (by omega) k2).weak (.cons (.refl _) (.cons hv.weak .nil))) fun r σ4 ⟨hr, hf, cv4, cls4, hso, hbl, hft, hM4, hcl4, hd4⟩ => ?_
          have ha4 := ha3.add hf hso hbl hft (by omega) hd4 k1 (by simp [depL]) (by omega)
          simp only [go_sem, simprocAttr, ↓reduceIte, h46]
          refine ⟨hlt2, int_succ hlt2 (by rw [maxLen_eq]; omega), cv4, cls4, ha4, fun M => ?_, by omega⟩
          rw [hM4, hM2, take_succ_get hc, List.map_append, setT_app, Bool.and_assoc]
          simp [setT]
        · rw [List.take_of_length_le hge2] at hM2
          exact ⟨cv2, cls2, ha2, hM2, by omega⟩
      simp only [go_sem, simprocAttr, ↓reduceIte, h34, List.length_map]
      have hil2 : (all.take i).length = i := by rw [List.length_take]; omega
      rw [← List.map_take]
      refine ⟨⟨Nat.zero_le _, hi⟩, ?_⟩
      refine LoopVC.ats [2, 7, 32, 33, 34] (.of (by kernel_rfl)) (fun A => ∃ cv cls', AskSt σ A.st (σ.length + 1) σ.length all.length cv cls' ∧ (∀ M, setT M cls' = setT M (allL all 0 (all.take (i + 1)))) ∧ cls'.length ≤ i * 60 + 24 + i) ?_ fun B5 ⟨cv5, cls5, ha5, hM5, hcl5⟩ => ?_
      · refine LoopVC.upto [2, 7, 8, 9, 32, 33, 34, 79, 80] (.of (by kernel_rfl)) i (fun k A => A.env 81 = .int .i64 k ∧ ∃ cv cls', AskSt σ A.st (σ.length + 1) σ.length all.length cv cls' ∧ (∀ M, setT M cls' = (setT M cls2 && setT M (conL p i 0 ((all.take i).take k)))) ∧ cls'.length ≤ i * 60 + 24 + k) 0 (Nat.zero_le _) ?_ fun k B6 hk ⟨h81, cv6, cls6, ha6, hM6, hcl6⟩ => ?_
        · simp only [go_sem, simprocAttr, ↓reduceIte]
          exact ⟨cv2, cls2, ha2, fun M => by simp [conL, setT], by omega⟩
        simp only [go_sem, simprocAttr, ↓reduceIte, h81, List.length_map]
        refine ⟨fun hlt6 => ⟨hlt6, ?_⟩, fun hge6 => ?_⟩
        · obtain ⟨q, hq⟩ := get_some hlt6
          simp only [atV_map hq]
          simp only [go_sem, simprocAttr, ↓reduceIte, pkgAV, h81, h34]
          refine CallP.fnG (fun _ => ix_clash p q) ?_
          have hcs := conL_succ (p := p) (i := i) (all.take i) 0 k q hq
          rw [Nat.zero_add] at hcs
          simp only [go_sem, simprocAttr, ↓reduceIte, h81, h34]
          refine ⟨fun hb => ?_, fun hb => ?_⟩
          · have ha7 := ha6.more [none]
            simp only [go_sem, simprocAttr, ↓reduceIte, h81, h34, look_id ha7.ao]
            have hki : k < i := by omega
            obtain ⟨w1, w2⟩ := conP_ok hlt hki
            have hw1 : IntKind.i64.wrap (-(((i + 1 : Nat) : Int))) = -litN i := by rw [wrap_in (by omega)]; rfl
            have hw2 : IntKind.i64.wrap (-(((k + 1 : Nat) : Int))) = -litN k := by rw [wrap_in (by omega)]; rfl
            refine ⟨.of (by kernel_rfl), CallP.fn (st_lit i hil) ?_⟩
            simp only [go_sem, simprocAttr, ↓reduceIte, h81, h34, hw1]
            refine CallP.fn (st_lit k (by omega)) ?_
            simp only [go_sem, simprocAttr, ↓reduceIte, h81, h34, hw2]
            refine CallA.goes (by simp only [go_sem, simprocAttr, ↓reduceIte]) ((cn_add (B6.st ++ [none]) σ.length all.length cv6 cls6 ha7.so ha7.bld hal (by omega) [-litN i, -litN k] w1 (by simp) (by simp) w2).weak (.cons (.refl _) (.cons (.lit _ _) .nil))) fun r σ8 ⟨hr, hf, cv8, cls8, hso, hbl, hft, hM8, hcl8, hd8⟩ => ?_
            have ha8 := ha7.add hf hso hbl hft (by omega) hd8 w1 (by simp) (by simp)
            simp only [go_sem, simprocAttr, ↓reduceIte, h81]
            refine ⟨hki, int_succ hki (by rw [maxLen_eq]; omega), cv8, cls8, ha8, fun M => ?_, by omega⟩
            rw [hM8, hM6, hcs, hb, if_pos rfl, setT_app, Bool.and_assoc]
            simp [setT]
          · refine ⟨by omega, int_succ (show k < i by omega) (by rw [maxLen_eq]; omega), cv6, cls6, ha6.more _, fun M => ?_, by omega⟩
            rw [hM6, hcs, hb]
            simp
        · rw [List.take_of_length_le hge6] at hM6
          refine ⟨cv6, cls6, ha6, fun M => ?_, by omega⟩
          rw [hM6, hM2, allL_succ all all 0 i p hpi, setT_app, pkgL, setT_app, Nat.zero_add, hD, Bool.and_assoc]
      simp only [go_sem, simprocAttr, ↓reduceIte, h34]
      exact ⟨hlt, int_succ hlt (by rw [maxLen_eq]; omega), cv5, cls5, ha5, hM5, by omega⟩
    · rw [List.take_of_length_le hge] at hM
      exact ⟨cv, cls, ha, hM⟩
  simp only [go_sem, simprocAttr, ↓reduceIte]
  refine EndR.ret ?_
  simp only [go_sem, simprocAttr, ↓reduceIte]
  exact ⟨_, .refl _, ha.ext.le, ha.ext, .inr (.inr ⟨h0, h1, _, _, cv, cls, rfl, ha, hM⟩)⟩
end Go.Proofs.Tryz
end
section
namespace Go.Proofs.Tryz
open Go Go.Av
set_option maxRecDepth 10000
set_option linter.unusedSimpArgs false
set_option linter.unusedVariables false
variable {W0 : World}

/-- Can those places hold together? -/
noncomputable def canE (all : List Pkg) (asm : List Int) : Bool := satB all.length (allL all 0 all) asm
theorem satB_congr {n : Nat} {cls cls' : List (List Int)} {asm : List Int} (h : ∀ M, setT M cls = setT M cls') : satB n cls asm = satB n cls' asm := by
  have : satA n cls asm ↔ satA n cls' asm := by unfold satA; simp only [h]
  by_cases hs : satA n cls asm
  · rw [satB_true hs, satB_true (this.1 hs)]
  · rw [satB_false hs, satB_false (fun h => hs (this.2 h))]
/-- Places that there aren't; packages that may not be. -/
def errE (all : List Pkg) (places : List Int) : Int := if mayAll all ≠ 0 then mayAll all else if (places.any fun i => decide (i < 0) || decide ((all.length : Int) ≤ i)) = true then 1 else 0

theorem AskSt.can {τ st : Store} {aid sid : Nat} {cv : AV} {cls : List (List Int)} {all : List Pkg} (h : AskSt τ st aid sid all.length cv cls) (hM : ∀ M, setT M cls = setT M (allL all 0 all)) (asm : List Int) (hl : asm.length ≤ 1000) :
    ACall prog W0 23 [.ptr 82 aid 0 [], litsAV asm] st fun r σ' => r = .bool (canE all asm) ∧ σ' = st := by
  have := st_can (W0 := W0) aid sid h.ao h.so h.bld h.ok asm hl
  rwa [satB_congr hM] at this

def pairAV (b : Bool) (e : Int) : AV := .tup [.bool b, .int .i64 e]
theorem pairAV_ids (b : Bool) (e : Int) : IdsLt 0 (pairAV b e) := by
  refine .tup fun x hx => ?_
  simp at hx
  rcases hx with rfl | rfl
  · exact .bool _
  · exact .int _ _

theorem st_installable (all : List Pkg) (hp : ∀ p ∈ all, MayN p) (h11 : all.length ≤ 11) (i : Int) :
    PureFn prog W0 17 [pkgsAV all, .int .i64 i] (pairAV (errE all [i] == 0 && canE all [litN i.toNat]) (errE all [i])) := by
  refine fn_pureZ [4, 5] [] func17 rfl rfl ntmps17 rfl rfl (pairAV_ids _ _) fun hs σ => ?_
  simp only [go_sem, simprocAttr, ↓reduceIte]
  refine CallA.goes (by simp only [go_sem, simprocAttr, ↓reduceIte]) ((st_ask σ all [i] hp h11 (by simp)).weak (.cons (.refl _) (.cons (.lit _ _) .nil))) fun r σ1 ⟨hx, hr⟩ => ?_
  rcases hr with ⟨h0, rfl⟩ | ⟨h0, h1, rfl⟩ | ⟨h0, h1, aid, sid, cv, cls, rfl, ha, hM⟩
  · have he : errE all [i] = mayAll all := by rw [errE, if_pos h0]
    have e1 : (mayAll all != 0) = true := by simp [h0]
    simp only [go_sem, simprocAttr, ↓reduceIte, e1]
    refine EndR.ret ?_
    simp only [go_sem, simprocAttr, ↓reduceIte]
    rw [he]
    have e2 : (mayAll all == 0) = false := by simp [h0]
    rw [e2]
    exact ⟨.refl _, hx⟩
  · have he : errE all [i] = 1 := by rw [errE, if_neg (by simp [h0]), if_pos h1]
    simp only [go_sem, simprocAttr, ↓reduceIte]
    refine EndR.ret ?_
    simp only [go_sem, simprocAttr, ↓reduceIte]
    rw [he]
    exact ⟨.refl _, hx⟩
  · have he : errE all [i] = 0 := by rw [errE, if_neg (by simp [h0]), if_neg (by rw [h1]; simp)]
    have hir : 0 ≤ i ∧ i < all.length := by simp at h1; omega
    obtain ⟨k, rfl⟩ := Int.eq_ofNat_of_zero_le hir.1
    simp only [go_sem, simprocAttr, ↓reduceIte]
    refine CallA.fn (st_lit k (by omega)) ?_
    simp only [go_sem, simprocAttr, ↓reduceIte]
    refine CallA.reads (by simp only [go_sem, simprocAttr, ↓reduceIte]) ((ha.can hM [litN k] (by simp)).weak (.cons (.refl _) (.cons (.lit _ _) .nil))) ?_
    simp only [go_sem, simprocAttr, ↓reduceIte]
    refine EndR.ret ?_
    simp only [go_sem, simprocAttr, ↓reduceIte]
    rw [he]
    exact ⟨.refl _, hx⟩

theorem st_needs (all : List Pkg) (hp : ∀ p ∈ all, MayN p) (h11 : all.length ≤ 11) (i j : Int) :
    PureFn prog W0 18 [pkgsAV all, .int .i64 i, .int .i64 j] (pairAV (errE all [i, j] == 0 && (canE all [litN i.toNat] && !canE all [litN i.toNat, -litN j.toNat])) (errE all [i, j])) := by
  refine fn_pureZ [6, 7] [] func18 rfl rfl ntmps18 rfl rfl (pairAV_ids _ _) fun hs σ => ?_
  simp only [go_sem, simprocAttr, ↓reduceIte]
  refine CallA.goes (by simp only [go_sem, simprocAttr, ↓reduceIte]) ((st_ask σ all [i, j] hp h11 (by simp)).weak (.cons (.refl _) (.cons (.lit _ _) .nil))) fun r σ1 ⟨hx, hr⟩ => ?_
  rcases hr with ⟨h0, rfl⟩ | ⟨h0, h1, rfl⟩ | ⟨h0, h1, aid, sid, cv, cls, rfl, ha, hM⟩
  · have he : errE all [i, j] = mayAll all := by rw [errE, if_pos h0]
    have e1 : (mayAll all != 0) = true := by simp [h0]
    simp only [go_sem, simprocAttr, ↓reduceIte, e1]
    refine EndR.ret ?_
    simp only [go_sem, simprocAttr, ↓reduceIte]
    rw [he]
    have e2 : (mayAll all == 0) = false := by simp [h0]
    rw [e2]
    exact ⟨.refl _, hx⟩
  · have he : errE all [i, j] = 1 := by rw [errE, if_neg (by simp [h0]), if_pos h1]
    simp only [go_sem, simprocAttr, ↓reduceIte]
    refine EndR.ret ?_
    simp only [go_sem, simprocAttr, ↓reduceIte]
    rw [he]
    exact ⟨.refl _, hx⟩
  · have he : errE all [i, j] = 0 := by rw [errE, if_neg (by simp [h0]), if_neg (by rw [h1]; simp)]
    have hir : (0 ≤ i ∧ i < all.length) ∧ (0 ≤ j ∧ j < all.length) := by
      simp only [List.any_cons, List.any_nil, Bool.or_false, Bool.or_eq_false_iff, decide_eq_false_iff_not] at h1
      omega
    obtain ⟨k, rfl⟩ := Int.eq_ofNat_of_zero_le hir.1.1
    obtain ⟨m, rfl⟩ := Int.eq_ofNat_of_zero_le hir.2.1
    have hwm : IntKind.i64.wrap (-(((m + 1 : Nat) : Int))) = -litN m := by rw [wrap_in (by omega)]; rfl
    simp only [go_sem, simprocAttr, ↓reduceIte]
    refine CallA.fn (st_lit k (by omega)) ?_
    simp only [go_sem, simprocAttr, ↓reduceIte]
    refine CallA.reads (by simp only [go_sem, simprocAttr, ↓reduceIte]) ((ha.can hM [litN k] (by simp)).weak (.cons (.refl _) (.cons (.lit _ _) .nil))) ?_
    simp only [go_sem, simprocAttr, ↓reduceIte]
    refine CallP.fnG (fun _ => st_lit k (by omega)) ?_
    simp only [go_sem, simprocAttr, ↓reduceIte]
    refine CallP.fnG (fun _ => st_lit m (by omega)) ?_
    simp only [go_sem, simprocAttr, ↓reduceIte, hwm]
    refine CallP.st (fun _ => (ha.can hM [litN k, -litN m] (by simp)).weak (.cons (.refl _) (.cons (.lit _ _) .nil))) ?_
    simp only [go_sem, simprocAttr, ↓reduceIte]
    refine EndR.ret ?_
    simp only [go_sem, simprocAttr, ↓reduceIte]
    rw [he]
    exact ⟨.refl _, hx⟩
theorem st_together (all : List Pkg) (hp : ∀ p ∈ all, MayN p) (h11 : all.length ≤ 11) (i j : Int) :
    PureFn prog W0 21 [pkgsAV all, .int .i64 i, .int .i64 j] (pairAV (errE all [i, j] == 0 && (canE all [litN i.toNat, litN j.toNat])) (errE all [i, j])) := by
  refine fn_pureZ [6, 7] [] func21 rfl rfl ntmps21 rfl rfl (pairAV_ids _ _) fun hs σ => ?_
  simp only [go_sem, simprocAttr, ↓reduceIte]
  refine CallA.goes (by simp only [go_sem, simprocAttr, ↓reduceIte]) ((st_ask σ all [i, j] hp h11 (by simp)).weak (.cons (.refl _) (.cons (.lit _ _) .nil))) fun r σ1 ⟨hx, hr⟩ => ?_
  rcases hr with ⟨h0, rfl⟩ | ⟨h0, h1, rfl⟩ | ⟨h0, h1, aid, sid, cv, cls, rfl, ha, hM⟩
  · have he : errE all [i, j] = mayAll all := by rw [errE, if_pos h0]
    have e1 : (mayAll all != 0) = true := by simp [h0]
    simp only [go_sem, simprocAttr, ↓reduceIte, e1]
    refine EndR.ret ?_
    simp only [go_sem, simprocAttr, ↓reduceIte]
    rw [he]
    have e2 : (mayAll all == 0) = false := by simp [h0]
    rw [e2]
    exact ⟨.refl _, hx⟩
  · have he : errE all [i, j] = 1 := by rw [errE, if_neg (by simp [h0]), if_pos h1]
    simp only [go_sem, simprocAttr, ↓reduceIte]
    refine EndR.ret ?_
    simp only [go_sem, simprocAttr, ↓reduceIte]
    rw [he]
    exact ⟨.refl _, hx⟩
  · have he : errE all [i, j] = 0 := by rw [errE, if_neg (by simp [h0]), if_neg (by rw [h1]; simp)]
    have hir : (0 ≤ i ∧ i < all.length) ∧ (0 ≤ j ∧ j < all.length) := by
      simp only [List.any_cons, List.any_nil, Bool.or_false, Bool.or_eq_false_iff, decide_eq_false_iff_not] at h1
      omega
    obtain ⟨k, rfl⟩ := Int.eq_ofNat_of_zero_le hir.1.1
    obtain ⟨m, rfl⟩ := Int.eq_ofNat_of_zero_le hir.2.1
    have hwm : IntKind.i64.wrap (-(((m + 1 : Nat) : Int))) = -litN m := by rw [wrap_in (by omega)]; rfl
    simp only [go_sem, simprocAttr, ↓reduceIte]
    refine CallA.fn (st_lit k (by omega)) ?_
    simp only [go_sem, simprocAttr, ↓reduceIte]
    refine CallA.fn (st_lit m (by omega)) ?_
    simp only [go_sem, simprocAttr, ↓reduceIte]
    refine CallA.reads (by simp only [go_sem, simprocAttr, ↓reduceIte]) ((ha.can hM [litN k, litN m] (by simp)).weak (.cons (.refl _) (.cons (.lit _ _) .nil))) ?_
    simp only [go_sem, simprocAttr, ↓reduceIte]
    refine EndR.ret ?_
    simp only [go_sem, simprocAttr, ↓reduceIte]
    rw [he]
    exact ⟨.refl _, hx⟩
end Go.Proofs.Tryz
end
