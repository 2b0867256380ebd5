/- Texts that the last one of this claim rests on: a layer over the guide's own conditions for code; contracts of the functions that the law reaches, one by one. No conditions beside those of the given rows. -/
import Derived.Lib.Bytealg
import Derived.Test.YtnblgnafgdmcaaaGreatDoorWao
import Derived.Test.YtnblgnafgdmcaaaGreatDoorWaq
section
set_option linter.unusedSimpArgs false
set_option linter.unusedVariables false
namespace Go.Proofs.Tryz
open Go Go.Av
set_option maxRecDepth 10000
set_option linter.unusedSimpArgs false
set_option linter.unusedVariables false
variable {W0 : World}

def atomAV (a : Atom) : AV := .agg 50 [.str a.name, .int .i64 a.rel, .str a.ver]
def atomsAV (l : List Atom) : AV := .sl 50 (l.map atomAV)
def clausesAV (l : List Clause) : AV := .sl 52 (l.map atomsAV)
def provAV (p : Prov) : AV := .agg 112 [.str p.name, .str p.ver]
def provsAV (l : List Prov) : AV := .sl 112 (l.map provAV)
def pkgAV (p : Pkg) : AV := .agg 56 [.str p.name, .str p.ver, clausesAV p.pre, clausesAV p.dep, clausesAV p.rcm, atomsAV p.con, atomsAV p.brk, provsAV p.prov, .bool p.ess]
def pkgsAV (l : List Pkg) : AV := .sl 56 (l.map pkgAV)

theorem r4_name (s : List UInt8) : PureFn prog W0 55 [.str s] (.bool (nameOk s)) := by
  refine fn_pure [2] [] func55 rfl rfl ntmps55 rfl rfl (.bool _) fun hs σ => ?_
  have hsl : s.length ≤ maxLen := small_str (hs _ (by simp))
  simp only [go_sem, simprocAttr, ↓reduceIte]
  refine VC.upto [] s.length (fun i A => A.env 0 = .str s ∧ A.env 6 = .int .i64 s.length ∧ A.env 7 = .int .i64 i ∧ A.st = σ ∧ ∀ j c, j < i → s[j]? = some c → nameCh j c = true) 0 (Nat.zero_le _) (.here ?_) fun i A hi ⟨h0, h6, h7, hst, hI⟩ => ?_
  · simp only [go_sem, simprocAttr, ↓reduceIte]
    all_goals simp
  simp only [go_sem, simprocAttr, ↓reduceIte, h0, h6, h7, hst]
  refine ⟨fun hc => ⟨hc, CallA.fn (r4_small _) ?_⟩, fun hc => ?_⟩
  · obtain ⟨c, hc'⟩ := get_some hc
    simp only [go_sem, simprocAttr, ↓reduceIte, h0, h6, h7, hst, hc']
    refine CallP.fnG (fun _ => r4_digit _) ?_
    simp only [go_sem, simprocAttr, ↓reduceIte, h0, h6, h7, hst, hc']
    refine ⟨fun hb => weak_bool ?_, fun hb => ⟨hc, .here ?_⟩⟩
    · have : nameCh i c = false := by simp [nameCh] at hb ⊢; refine ⟨hb.1, ?_⟩; omega
      rw [nameOk, allIdxB_false hc' this, Bool.and_false]
    · simp only [go_sem, simprocAttr, ↓reduceIte, h0, h6, h7, hst]
      refine ⟨int_succ hc hsl, fun j d hj hd => ?_⟩
      rcases Nat.lt_succ_iff_lt_or_eq.1 hj with hj | rfl
      · exact hI j d hj hd
      · have e : d = c := by rw [hd] at hc'; exact Option.some.inj hc'
        subst e
        revert hb
        unfold nameCh
        cases smallC d <;> cases digitC d <;> simp
        omega
  · have : allIdxB nameCh 0 s = true := allIdxB_iff.2 fun j c hj => by rw [Nat.zero_add]; exact hI j c (by have := (List.getElem?_eq_some_iff.1 hj).1; omega) hj
    refine weak_bool ?_
    rw [nameOk, this, Bool.and_true]
    congr 1 <;> exact decide_eq_decide.2 (by omega)

theorem signV_some (rel : Int) : (!(signV rel == [])) = (decide (1 ≤ rel) && decide (rel ≤ 5)) := by
  unfold signV
  by_cases h1 : rel = 1
  · subst h1; rfl
  by_cases h2 : rel = 2
  · subst h2; rfl
  by_cases h3 : rel = 3
  · subst h3; rfl
  by_cases h4 : rel = 4
  · subst h4; rfl
  by_cases h5 : rel = 5
  · subst h5; rfl
  rw [if_neg h1, if_neg h2, if_neg h3, if_neg h4, if_neg h5]
  simp
  omega

theorem r4_mayAtom (a : Atom) : PureFn prog W0 76 [atomAV a] (.bool (mayAtom a)) := by
  refine fn_pure [2] [1] func76 rfl rfl ntmps76 rfl rfl (.bool _) fun hs σ => ?_
  simp only [go_sem, simprocAttr, ↓reduceIte, atomAV]
  refine CallA.fn (r4_name a.name) ?_
  simp only [go_sem, simprocAttr, ↓reduceIte, atomAV]
  refine ⟨fun hn => weak_bool (by rw [mayAtom, hn]; rfl), fun hn => ⟨fun h0 => weak_bool (by rw [mayAtom, hn, if_pos h0]; rfl), fun h0 => CallA.fn (r4_signV a.rel) ?_⟩⟩
  simp only [go_sem, simprocAttr, ↓reduceIte, atomAV]
  refine CallP.fnG (fun _ => r4_is a.ver) ?_
  simp only [go_sem, simprocAttr, ↓reduceIte, atomAV]
  refine weak_bool ?_
  rw [mayAtom, hn, if_neg h0, Bool.true_and, signV_some]
end Go.Proofs.Tryz
end
section
set_option linter.unusedSimpArgs false
set_option linter.unusedVariables false
namespace Go.Proofs.Tryz
open Go Go.Av
set_option maxRecDepth 10000
set_option linter.unusedSimpArgs false
set_option linter.unusedVariables false
variable {W0 : World}

theorem ve_digit (c : UInt8) : PureFn prog W0 126 [.int .u8 c.toNat] (.bool (digitC c)) := by
  refine fn_pure [2] [] func126 rfl rfl ntmps126 rfl rfl (.bool _) fun _ σ => ?_
  simp only [go_sem, simprocAttr, ↓reduceIte]
  exact weak_bool (by rw [digitC]; congr 1 <;> exact decide_eq_decide.2 (by omega))

theorem ve_letter (c : UInt8) : PureFn prog W0 154 [.int .u8 c.toNat] (.bool (letterC c)) := by
  refine fn_pure [2] [] func154 rfl rfl ntmps154 rfl rfl (.bool _) fun _ σ => ?_
  simp only [go_sem, simprocAttr, ↓reduceIte]
  refine weak_bool ?_
  unfold letterC smallC
  congr 2 <;> exact decide_eq_decide.2 (by omega)

theorem ve_epochOf (s : List UInt8) : PureFn prog W0 124 [.str s] (.bool (decide (1 ≤ s.length) && decide (s.length ≤ 9) && s.all digitC)) := by
  refine fn_pure [2] [] func124 rfl rfl ntmps124 rfl rfl (.bool _) fun hs σ => ?_
  simp only [go_sem, simprocAttr, ↓reduceIte]
  refine ⟨fun h => weak_bool ?_, fun h => ?_⟩
  · cases s with
    | nil => rfl
    | cons c r =>
      have : ¬ ((c :: r).length ≤ 9) := by simp at h ⊢; omega
      rw [decide_eq_false this]; simp
  have hl : 1 ≤ s.length ∧ s.length ≤ 9 := by cases s <;> simp at h ⊢; omega
  refine VC.falls [] (fun k A => ∃ pos, A.env 13 = .it σ.length ∧ A.st = σ ++ [some (.iter s pos)] ∧ k = s.length - pos ∧ pos ≤ s.length ∧ (s.take pos).all digitC = true) s.length (.here ⟨0, ?_⟩) fun k A ⟨pos, h13, hst, hk, hp, hI⟩ => ?_
  · simp only [go_sem, simprocAttr, ↓reduceIte]
    all_goals simp
  simp only [go_sem, simprocAttr, ↓reduceIte, h13, hst]
  refine ⟨fun hlt => ?_, fun hge => ?_⟩
  · obtain ⟨c, hc⟩ := get_some hlt
    simp only [Bool.or_eq_true, Bool.or_eq_false_iff, decide_eq_true_eq, decide_eq_false_iff_not]
    have bad : digitC c = false → (decide (1 ≤ s.length) && decide (s.length ≤ 9) && s.all digitC) = false := fun hd => by rw [all_false hc hd, Bool.and_false]
    rcases Nat.lt_or_ge c.toNat 128 with h8 | h8
    · rw [decAt_ascii hc h8]
      refine ⟨fun hb => weak_bool (bad ?_).symm, fun hb => .here (s.length - (pos + 1)) (by omega) ⟨pos + 1, ?_⟩⟩
      · simp [digitC]; omega
      · simp only [go_sem, simprocAttr, ↓reduceIte, h13, hst]
        exact ⟨by omega, all_take hI hc (by simp [digitC]; omega)⟩
    · have := decAt_big hc h8
      refine ⟨fun hb => weak_bool (bad ?_).symm, fun hb => by omega⟩
      simp [digitC]; omega
  · have : pos = s.length := by omega
    rw [this, List.take_length] at hI
    refine weak_bool ?_
    simp [hl, hI]
end Go.Proofs.Tryz
end
section
set_option linter.unusedSimpArgs false
set_option linter.unusedVariables false
namespace Go.Proofs.Tryz
open Go Go.Av
set_option maxRecDepth 10000
set_option linter.unusedSimpArgs false
set_option linter.unusedVariables false
variable {W0 : World}

theorem ixAtomC {α : Type} (enc : α → AV) (hp : ∀ a, NotM (enc a)) (l : List α) (q : α → Bool) (g : FuncId) (caps : List AV) (h : ∀ a ∈ l, PureFn prog W0 g ([enc a] ++ caps) (.bool (q a))) :
    PureFn prog W0 78 [.sl 50 (l.map enc), .fn g caps] (.int .i64 (idxL q l)) := by
  refine fn_pure [4] [] func78 rfl rfl ntmps78 rfl rfl (.int _ _) fun hs σ => ?_
  have hl := (small_map (hs _ (List.mem_cons_self ..))).1
  simp only [go_sem, simprocAttr, ↓reduceIte]
  refine LoopVC.upto [0, 1, 7] (.of (by kernel_rfl)) l.length (fun i A => A.env 8 = .int .i64 i ∧ A.st = σ ∧ ∀ a ∈ l.take i, q a = false) 0 (Nat.zero_le _) ?_ fun i B hi ⟨h8, hst, hI⟩ => ?_
  · simp only [go_sem, simprocAttr, ↓reduceIte]
    all_goals simp
  simp only [go_sem, simprocAttr, ↓reduceIte, h8, hst, List.length_map]
  refine ⟨fun hc => ⟨hc, ?_⟩, fun hc => weak_int ?_⟩
  · obtain ⟨a, ha⟩ := get_some hc
    simp only [atV_map ha, okM_notM (hp a), unm_notM (hp a), true_and]
    refine CallA.pure (h a (List.mem_of_getElem? ha)) ?_
    simp only [go_sem, simprocAttr, ↓reduceIte, h8, hst]
    refine ⟨fun hq => weak_int (idxL_at ha hq hI).symm, fun hq => ⟨hc, int_succ hc hl, ?_⟩⟩
    rw [take_succ_get ha]
    intro b hb
    rcases List.mem_append.1 hb with hb | hb
    · exact hI b hb
    · rw [List.mem_singleton.1 hb]; exact hq
  · rw [idxL_none]
    rwa [List.take_of_length_le hc] at hI
theorem ixPkg {α : Type} (enc : α → AV) (hp : ∀ a, NotM (enc a)) (l : List α) (q : α → Bool) (g : FuncId) (caps : List AV) (h : ∀ a ∈ l, PureFn prog W0 g ([enc a] ++ caps) (.bool (q a))) :
    PureFn prog W0 98 [.sl 56 (l.map enc), .fn g caps] (.int .i64 (idxL q l)) := by
  refine fn_pure [4] [] func98 rfl rfl ntmps98 rfl rfl (.int _ _) fun hs σ => ?_
  have hl := (small_map (hs _ (List.mem_cons_self ..))).1
  simp only [go_sem, simprocAttr, ↓reduceIte]
  refine LoopVC.upto [0, 1, 7] (.of (by kernel_rfl)) l.length (fun i A => A.env 8 = .int .i64 i ∧ A.st = σ ∧ ∀ a ∈ l.take i, q a = false) 0 (Nat.zero_le _) ?_ fun i B hi ⟨h8, hst, hI⟩ => ?_
  · simp only [go_sem, simprocAttr, ↓reduceIte]
    all_goals simp
  simp only [go_sem, simprocAttr, ↓reduceIte, h8, hst, List.length_map]
  refine ⟨fun hc => ⟨hc, ?_⟩, fun hc => weak_int ?_⟩
  · obtain ⟨a, ha⟩ := get_some hc
    simp only [atV_map ha, okM_notM (hp a), unm_notM (hp a), true_and]
    refine CallA.pure (h a (List.mem_of_getElem? ha)) ?_
    simp only [go_sem, simprocAttr, ↓reduceIte, h8, hst]
    refine ⟨fun hq => weak_int (idxL_at ha hq hI).symm, fun hq => ⟨hc, int_succ hc hl, ?_⟩⟩
    rw [take_succ_get ha]
    intro b hb
    rcases List.mem_append.1 hb with hb | hb
    · exact hI b hb
    · rw [List.mem_singleton.1 hb]; exact hq
  · rw [idxL_none]
    rwa [List.take_of_length_le hc] at hI
theorem ixProv {α : Type} (enc : α → AV) (hp : ∀ a, NotM (enc a)) (l : List α) (q : α → Bool) (g : FuncId) (caps : List AV) (h : ∀ a ∈ l, PureFn prog W0 g ([enc a] ++ caps) (.bool (q a))) :
    PureFn prog W0 105 [.sl 112 (l.map enc), .fn g caps] (.int .i64 (idxL q l)) := by
  refine fn_pure [4] [] func105 rfl rfl ntmps105 rfl rfl (.int _ _) fun hs σ => ?_
  have hl := (small_map (hs _ (List.mem_cons_self ..))).1
  simp only [go_sem, simprocAttr, ↓reduceIte]
  refine LoopVC.upto [0, 1, 7] (.of (by kernel_rfl)) l.length (fun i A => A.env 8 = .int .i64 i ∧ A.st = σ ∧ ∀ a ∈ l.take i, q a = false) 0 (Nat.zero_le _) ?_ fun i B hi ⟨h8, hst, hI⟩ => ?_
  · simp only [go_sem, simprocAttr, ↓reduceIte]
    all_goals simp
  simp only [go_sem, simprocAttr, ↓reduceIte, h8, hst, List.length_map]
  refine ⟨fun hc => ⟨hc, ?_⟩, fun hc => weak_int ?_⟩
  · obtain ⟨a, ha⟩ := get_some hc
    simp only [atV_map ha, okM_notM (hp a), unm_notM (hp a), true_and]
    refine CallA.pure (h a (List.mem_of_getElem? ha)) ?_
    simp only [go_sem, simprocAttr, ↓reduceIte, h8, hst]
    refine ⟨fun hq => weak_int (idxL_at ha hq hI).symm, fun hq => ⟨hc, int_succ hc hl, ?_⟩⟩
    rw [take_succ_get ha]
    intro b hb
    rcases List.mem_append.1 hb with hb | hb
    · exact hI b hb
    · rw [List.mem_singleton.1 hb]; exact hq
  · rw [idxL_none]
    rwa [List.take_of_length_le hc] at hI
theorem ixClause {α : Type} (enc : α → AV) (hp : ∀ a, NotM (enc a)) (l : List α) (q : α → Bool) (g : FuncId) (caps : List AV) (h : ∀ a ∈ l, PureFn prog W0 g ([enc a] ++ caps) (.bool (q a))) :
    PureFn prog W0 156 [.sl 52 (l.map enc), .fn g caps] (.int .i64 (idxL q l)) := by
  refine fn_pure [4] [] func156 rfl rfl ntmps156 rfl rfl (.int _ _) fun hs σ => ?_
  have hl := (small_map (hs _ (List.mem_cons_self ..))).1
  simp only [go_sem, simprocAttr, ↓reduceIte]
  refine LoopVC.upto [0, 1, 7] (.of (by kernel_rfl)) l.length (fun i A => A.env 8 = .int .i64 i ∧ A.st = σ ∧ ∀ a ∈ l.take i, q a = false) 0 (Nat.zero_le _) ?_ fun i B hi ⟨h8, hst, hI⟩ => ?_
  · simp only [go_sem, simprocAttr, ↓reduceIte]
    all_goals simp
  simp only [go_sem, simprocAttr, ↓reduceIte, h8, hst, List.length_map]
  refine ⟨fun hc => ⟨hc, ?_⟩, fun hc => weak_int ?_⟩
  · obtain ⟨a, ha⟩ := get_some hc
    simp only [atV_map ha, okM_notM (hp a), unm_notM (hp a), true_and]
    refine CallA.pure (h a (List.mem_of_getElem? ha)) ?_
    simp only [go_sem, simprocAttr, ↓reduceIte, h8, hst]
    refine ⟨fun hq => weak_int (idxL_at ha hq hI).symm, fun hq => ⟨hc, int_succ hc hl, ?_⟩⟩
    rw [take_succ_get ha]
    intro b hb
    rcases List.mem_append.1 hb with hb | hb
    · exact hI b hb
    · rw [List.mem_singleton.1 hb]; exact hq
  · rw [idxL_none]
    rwa [List.take_of_length_le hc] at hI
end Go.Proofs.Tryz
end
section
set_option linter.unusedSimpArgs false
set_option linter.unusedVariables false
namespace Go.Proofs.Tryz
open Go Go.Av
set_option maxRecDepth 10000
set_option linter.unusedSimpArgs false
set_option linter.unusedVariables false
variable {W0 : World}

theorem anAtomC {α : Type} (enc : α → AV) (hp : ∀ a, NotM (enc a)) (l : List α) (q : α → Bool) (g : FuncId) (caps : List AV) (h : ∀ a ∈ l, PureFn prog W0 g ([enc a] ++ caps) (.bool (q a))) :
    PureFn prog W0 49 [.sl 50 (l.map enc), .fn g caps] (.bool (l.any q)) := by
  refine fn_pure [4] [] func49 rfl rfl ntmps49 rfl rfl (.bool _) fun hs σ => ?_
  simp only [go_sem, simprocAttr, ↓reduceIte]
  refine CallA.fn (ixAtomC enc hp l q g caps h) ?_
  simp only [go_sem, simprocAttr, ↓reduceIte]
  exact weak_bool idxL_ge
theorem anPkg {α : Type} (enc : α → AV) (hp : ∀ a, NotM (enc a)) (l : List α) (q : α → Bool) (g : FuncId) (caps : List AV) (h : ∀ a ∈ l, PureFn prog W0 g ([enc a] ++ caps) (.bool (q a))) :
    PureFn prog W0 68 [.sl 56 (l.map enc), .fn g caps] (.bool (l.any q)) := by
  refine fn_pure [4] [] func68 rfl rfl ntmps68 rfl rfl (.bool _) fun hs σ => ?_
  simp only [go_sem, simprocAttr, ↓reduceIte]
  refine CallA.fn (ixPkg enc hp l q g caps h) ?_
  simp only [go_sem, simprocAttr, ↓reduceIte]
  exact weak_bool idxL_ge
theorem anProv {α : Type} (enc : α → AV) (hp : ∀ a, NotM (enc a)) (l : List α) (q : α → Bool) (g : FuncId) (caps : List AV) (h : ∀ a ∈ l, PureFn prog W0 g ([enc a] ++ caps) (.bool (q a))) :
    PureFn prog W0 80 [.sl 112 (l.map enc), .fn g caps] (.bool (l.any q)) := by
  refine fn_pure [4] [] func80 rfl rfl ntmps80 rfl rfl (.bool _) fun hs σ => ?_
  simp only [go_sem, simprocAttr, ↓reduceIte]
  refine CallA.fn (ixProv enc hp l q g caps h) ?_
  simp only [go_sem, simprocAttr, ↓reduceIte]
  exact weak_bool idxL_ge
theorem anClause {α : Type} (enc : α → AV) (hp : ∀ a, NotM (enc a)) (l : List α) (q : α → Bool) (g : FuncId) (caps : List AV) (h : ∀ a ∈ l, PureFn prog W0 g ([enc a] ++ caps) (.bool (q a))) :
    PureFn prog W0 127 [.sl 52 (l.map enc), .fn g caps] (.bool (l.any q)) := by
  refine fn_pure [4] [] func127 rfl rfl ntmps127 rfl rfl (.bool _) fun hs σ => ?_
  simp only [go_sem, simprocAttr, ↓reduceIte]
  refine CallA.fn (ixClause enc hp l q g caps h) ?_
  simp only [go_sem, simprocAttr, ↓reduceIte]
  exact weak_bool idxL_ge

theorem ix_str (l : List (List UInt8)) (s : List UInt8) : PureFn prog W0 100 [.sl 9 (l.map .str), .str s] (.int .i64 (idxL (fun x => s == x) l)) := by
  refine fn_pure [4] [] func100 rfl rfl ntmps100 rfl rfl (.int _ _) fun hs σ => ?_
  have hl := (small_map (hs _ (List.mem_cons_self ..))).1
  simp only [go_sem, simprocAttr, ↓reduceIte]
  refine LoopVC.upto [0, 1, 7] (.of (by kernel_rfl)) l.length (fun i A => A.env 8 = .int .i64 i ∧ A.st = σ ∧ ∀ a ∈ l.take i, (s == a) = false) 0 (Nat.zero_le _) ?_ fun i B hi ⟨h8, hst, hI⟩ => ?_
  · simp only [go_sem, simprocAttr, ↓reduceIte]
    all_goals simp
  simp only [go_sem, simprocAttr, ↓reduceIte, h8, hst, List.length_map]
  refine ⟨fun hc => ⟨hc, ?_⟩, fun hc => weak_int ?_⟩
  · obtain ⟨a, ha⟩ := get_some hc
    simp only [atV_map ha]
    simp only [go_sem, simprocAttr, ↓reduceIte, h8, hst]
    refine ⟨fun hq => weak_int (idxL_at (q := fun x => s == x) ha (by simpa using hq) hI).symm, fun hq => ⟨hc, int_succ hc hl, ?_⟩⟩
    rw [take_succ_get ha]
    intro b hb
    rcases List.mem_append.1 hb with hb | hb
    · simpa using hI b hb
    · rw [List.mem_singleton.1 hb]; simpa using hq
  · rw [idxL_none]
    rwa [List.take_of_length_le hc] at hI

theorem an_str (l : List (List UInt8)) (s : List UInt8) : PureFn prog W0 71 [.sl 9 (l.map .str), .str s] (.bool (l.any fun x => s == x)) := by
  refine fn_pure [4] [] func71 rfl rfl ntmps71 rfl rfl (.bool _) fun hs σ => ?_
  simp only [go_sem, simprocAttr, ↓reduceIte]
  refine CallA.fn (ix_str l s) ?_
  simp only [go_sem, simprocAttr, ↓reduceIte]
  exact weak_bool idxL_ge

theorem nanUint (a : Int) : PureFn prog W0 166 [.int .u64 a] (.bool false) := by
  refine fn_pure [2] [] func166 rfl rfl ntmps166 rfl rfl (.bool _) fun hs σ => ?_
  simp only [go_sem, simprocAttr, ↓reduceIte]
  exact weak_bool (by simp)

theorem cmpUint (a b : Int) : PureFn prog W0 149 [.int .u64 a, .int .u64 b] (.int .i64 (sgn a b)) := by
  refine fn_pure [4] [] func149 rfl rfl ntmps149 rfl rfl (.int _ _) fun hs σ => ?_
  simp only [go_sem, simprocAttr, ↓reduceIte]
  refine CallA.fn (nanUint a) ?_
  simp only [go_sem, simprocAttr, ↓reduceIte]
  refine CallA.fn (nanUint b) ?_
  simp only [go_sem, simprocAttr, ↓reduceIte]
  refine ⟨fun h => weak_int (by simp [sgn, h]), fun h => ⟨fun h' => weak_int (by simp [sgn, h']; omega), fun h' => weak_int (by rw [sgn, if_neg (by omega), if_neg (by omega)])⟩⟩
theorem nanLit (a : Int) : PureFn prog W0 167 [.int .i64 a] (.bool false) := by
  refine fn_pure [2] [] func167 rfl rfl ntmps167 rfl rfl (.bool _) fun hs σ => ?_
  simp only [go_sem, simprocAttr, ↓reduceIte]
  exact weak_bool (by simp)

theorem cmpLit (a b : Int) : PureFn prog W0 150 [.int .i64 a, .int .i64 b] (.int .i64 (sgn a b)) := by
  refine fn_pure [4] [] func150 rfl rfl ntmps150 rfl rfl (.int _ _) fun hs σ => ?_
  simp only [go_sem, simprocAttr, ↓reduceIte]
  refine CallA.fn (nanLit a) ?_
  simp only [go_sem, simprocAttr, ↓reduceIte]
  refine CallA.fn (nanLit b) ?_
  simp only [go_sem, simprocAttr, ↓reduceIte]
  refine ⟨fun h => weak_int (by simp [sgn, h]), fun h => ⟨fun h' => weak_int (by simp [sgn, h']; omega), fun h' => weak_int (by rw [sgn, if_neg (by omega), if_neg (by omega)])⟩⟩
theorem nanInt (a : Int) : PureFn prog W0 188 [.int .i64 a] (.bool false) := by
  refine fn_pure [2] [] func188 rfl rfl ntmps188 rfl rfl (.bool _) fun hs σ => ?_
  simp only [go_sem, simprocAttr, ↓reduceIte]
  exact weak_bool (by simp)

theorem cmpInt (a b : Int) : PureFn prog W0 171 [.int .i64 a, .int .i64 b] (.int .i64 (sgn a b)) := by
  refine fn_pure [4] [] func171 rfl rfl ntmps171 rfl rfl (.int _ _) fun hs σ => ?_
  simp only [go_sem, simprocAttr, ↓reduceIte]
  refine CallA.fn (nanInt a) ?_
  simp only [go_sem, simprocAttr, ↓reduceIte]
  refine CallA.fn (nanInt b) ?_
  simp only [go_sem, simprocAttr, ↓reduceIte]
  refine ⟨fun h => weak_int (by simp [sgn, h]), fun h => ⟨fun h' => weak_int (by simp [sgn, h']; omega), fun h' => weak_int (by rw [sgn, if_neg (by omega), if_neg (by omega)])⟩⟩

theorem nan_str (s : List UInt8) : PureFn prog W0 190 [.str s] (.bool false) := by
  refine fn_pure [2] [] func190 rfl rfl ntmps190 rfl rfl (.bool _) fun hs σ => ?_
  simp only [go_sem, simprocAttr, ↓reduceIte]

theorem cmp_str (a b : List UInt8) : PureFn prog W0 173 [.str a, .str b] (.int .i64 (cmpS a b)) := by
  refine fn_pure [4] [] func173 rfl rfl ntmps173 rfl rfl (.int _ _) fun hs σ => ?_
  simp only [go_sem, simprocAttr, ↓reduceIte]
  refine CallA.fn (nan_str a) ?_
  simp only [go_sem, simprocAttr, ↓reduceIte]
  refine CallA.fn (nan_str b) ?_
  simp only [go_sem, simprocAttr, ↓reduceIte]
  refine ⟨fun h => weak_int (by simp [cmpS, h]), fun h => ⟨fun h' => weak_int (by simp at h'; simp [cmpS, h, h'.2]), fun h' => weak_int ?_⟩⟩
  rw [cmpS, h]
  simp at h' ⊢
  rcases h' with h' | h'
  · rw [h] at h'; cases h'
  · exact h'

theorem cmp_or (l : List Int) : PureFn prog W0 130 [.sl 3 (l.map (.int .i64))] (.int .i64 (orL l)) := by
  refine fn_pure [2] [] func130 rfl rfl ntmps130 rfl rfl (.int _ _) fun hs σ => ?_
  have hl := (small_map (hs _ (List.mem_cons_self ..))).1
  simp only [go_sem, simprocAttr, ↓reduceIte]
  refine LoopVC.upto [3, 6, 7] (.of (by kernel_rfl)) l.length (fun i A => A.env 8 = .int .i64 i ∧ A.st = σ ∧ orL (l.drop i) = orL l) 0 (Nat.zero_le _) ?_ fun i B hi ⟨h8, hst, hI⟩ => ?_
  · simp only [go_sem, simprocAttr, ↓reduceIte]
    all_goals simp
  simp only [go_sem, simprocAttr, ↓reduceIte, h8, hst, List.length_map]
  refine ⟨fun hc => ⟨hc, ?_⟩, fun hc => weak_int ?_⟩
  · obtain ⟨a, ha⟩ := get_some hc
    obtain ⟨hlt, hae⟩ := List.getElem?_eq_some_iff.1 ha
    simp only [atV_map ha]
    simp only [go_sem, simprocAttr, ↓reduceIte, h8, hst]
    rw [List.drop_eq_getElem_cons hlt, hae] at hI
    refine ⟨fun hq => weak_int (by rw [← hI, orL, if_pos hq]), fun hq => ⟨hc, int_succ hc hl, ?_⟩⟩
    rw [← hI, orL, if_neg (by simpa using hq)]
  · rw [List.drop_eq_nil_of_le hc] at hI
    exact hI

theorem ba_indexByte (s : List UInt8) (c : UInt8) : PureFn prog W0 196 [.str s, .int .u8 c.toNat] (.int .i64 (firstOf c s)) := by
  refine fn_ext (e := Extern.BytealgIndexByte.indexByte) func196 (by kernel_rfl) (by kernel_rfl) (by kernel_rfl) (by kernel_rfl) fun w C vs hl hv => ?_
  obtain ⟨x, y, rfl⟩ : ∃ x y, vs = [x, y] := by
    match vs, hl with
    | [x, y], _ => exact ⟨x, y, rfl⟩
  obtain ⟨hx, _⟩ := (hv 0 _ x rfl rfl).str_inv
  have hy := (hv 1 _ y rfl rfl).int_inv
  subst hx hy
  refine ⟨_, Lib.run_indexByteString _ _ w, ?_⟩
  have e : Lib.indexByte s (c.toNat : Int).toNat.toUInt8 = firstOf c s := by rw [show (c.toNat : Int).toNat.toUInt8 = c by simp]; exact indexByte_firstOf s c
  rw [show (ByteArray.mk s.toArray).data.toList = s from rfl, e]
  exact .one rfl (.int _ _)

theorem sl_indexByte (s : List UInt8) (c : UInt8) : PureFn prog W0 184 [.str s, .int .u8 c.toNat] (.int .i64 (firstOf c s)) := by
  refine fn_pure [4] [] func184 rfl rfl ntmps184 rfl rfl (.int _ _) fun hs σ => ?_
  simp only [go_sem, simprocAttr, ↓reduceIte]
  refine CallA.fn (ba_indexByte s c) ?_
  simp only [go_sem, simprocAttr, ↓reduceIte]

theorem sl_index (s : List UInt8) (c : UInt8) : PureFn prog W0 168 [.str s, .str [c]] (.int .i64 (firstOf c s)) := by
  refine fn_pure [4] [] func168 rfl rfl ntmps168 rfl rfl (.int _ _) fun hs σ => ?_
  simp only [go_sem, simprocAttr, ↓reduceIte]
  refine ⟨fun h => weak_int (by rw [← h]; simp [firstOf, List.findIdx?_cons]), fun h => CallA.fn (sl_indexByte s c) ?_⟩
  simp only [go_sem, simprocAttr, ↓reduceIte]

theorem st_index (s : List UInt8) (c : UInt8) : PureFn prog W0 169 [.str s, .str [c]] (.int .i64 (firstOf c s)) := by
  refine fn_pure [4] [] func169 rfl rfl ntmps169 rfl rfl (.int _ _) fun hs σ => ?_
  simp only [go_sem, simprocAttr, ↓reduceIte]
  refine CallA.fn (sl_index s c) ?_
  simp only [go_sem, simprocAttr, ↓reduceIte]

theorem st_contains (s : List UInt8) (c : UInt8) : PureFn prog W0 155 [.str s, .str [c]] (.bool (s.contains c)) := by
  refine fn_pure [4] [] func155 rfl rfl ntmps155 rfl rfl (.bool _) fun hs σ => ?_
  simp only [go_sem, simprocAttr, ↓reduceIte]
  refine CallA.fn (st_index s c) ?_
  simp only [go_sem, simprocAttr, ↓reduceIte]
  exact weak_bool (firstOf_ge s c)

theorem sl_cut (s : List UInt8) (c : UInt8) : PureFn prog W0 152 [.str s, .str [c]] (cutAV c s) := by
  refine fn_pure [4, 5, 6] [] func152 rfl rfl ntmps152 rfl rfl (cutAV_ids c s) fun hs σ => ?_
  have hl : s.length ≤ maxLen := small_str (hs _ (by simp))
  simp only [go_sem, simprocAttr, ↓reduceIte]
  refine CallA.fn (sl_index s c) ?_
  simp only [go_sem, simprocAttr, ↓reduceIte]
  refine ⟨fun h => ?_, fun h => ?_⟩
  · obtain ⟨i, hi, hg, hlt⟩ := (firstOf_cases c s).resolve_left (fun e => by rw [e.1] at h; simp at h)
    rw [hi]
    have hw : IntKind.i64.wrap ((i : Int) + 1) = ((i + 1 : Nat) : Int) := wrap_succ hlt hl
    simp only [go_sem, simprocAttr, ↓reduceIte, hw]
    refine ⟨.of (by kernel_rfl), by omega, by omega, ?_⟩
    rw [cutAV, cutA, cutB, hi, if_pos (by omega), if_pos (by omega), Int.toNat_natCast, decide_eq_true (by omega)]
    exact .refl _
  · have h := h
    simp at h
    rw [cutAV, cutA, cutB, if_neg (by omega), if_neg (by omega), decide_eq_false (by omega)]
    exact .refl _

theorem st_cut (s : List UInt8) (c : UInt8) : PureFn prog W0 122 [.str s, .str [c]] (cutAV c s) := by
  refine fn_pure [4, 5, 6] [] func122 rfl rfl ntmps122 rfl rfl (cutAV_ids c s) fun hs σ => ?_
  simp only [go_sem, simprocAttr, ↓reduceIte]
  refine CallA.fn (sl_cut s c) ?_
  simp only [go_sem, simprocAttr, ↓reduceIte, cutAV]

theorem ba_lastIndexByte (s : List UInt8) (c : UInt8) : PureFn prog W0 153 [.str s, .int .u8 c.toNat] (.int .i64 (lastOf c s)) := by
  refine fn_pure [4] [] func153 rfl rfl ntmps153 rfl rfl (.int _ _) fun hs σ => ?_
  have hsl : s.length ≤ 9223372036854775807 := small_str (hs _ (by simp))
  simp only [go_sem, simprocAttr, ↓reduceIte]
  refine LoopVC.falls [0, 1] (.of (by kernel_rfl)) (fun k A => A.env 5 = .int .i64 ((k : Int) - 1) ∧ A.st = σ ∧ k ≤ s.length ∧ lastOf c s = lastTo c s k) s.length ?_ fun k B ⟨h5, hst, hk, hI⟩ => ?_
  · simp only [go_sem, simprocAttr, ↓reduceIte]
    exact ⟨by rw [wrap_in (by omega)], rfl⟩
  simp only [go_sem, simprocAttr, ↓reduceIte, h5, hst]
  refine ⟨fun hc => ?_, fun hc => ?_⟩
  · obtain ⟨k, rfl⟩ : ∃ j, k = j + 1 := ⟨k - 1, by omega⟩
    have e : (((k + 1 : Nat) : Int) - 1) = (k : Int) := by omega
    simp only [go_sem, simprocAttr, ↓reduceIte, e]
    obtain ⟨x, hx⟩ := get_some (show k < s.length by omega)
    simp only [hx, Option.getD_some]
    refine ⟨by omega, fun h => weak_int ?_, fun h => .here k (by omega) ?_⟩
    · rw [hI, lastTo, if_pos (by rw [hx]; congr 1)]
    · simp only [go_sem, simprocAttr, ↓reduceIte, hst]
      refine ⟨by rw [wrap_in (by omega)], by omega, ?_⟩
      rw [hI, lastTo, if_neg (by rw [hx]; simpa using h)]
  · have : k = 0 := by omega
    subst this
    exact weak_int (by rw [hI]; rfl)

theorem st_lastIndexByte (s : List UInt8) (c : UInt8) : PureFn prog W0 123 [.str s, .int .u8 c.toNat] (.int .i64 (lastOf c s)) := by
  refine fn_pure [4] [] func123 rfl rfl ntmps123 rfl rfl (.int _ _) fun hs σ => ?_
  simp only [go_sem, simprocAttr, ↓reduceIte]
  refine CallA.fn (ba_lastIndexByte s c) ?_
  simp only [go_sem, simprocAttr, ↓reduceIte]

theorem st_trimLeftByte (s : List UInt8) (c : UInt8) : PureFn prog W0 198 [.str s, .int .u8 c.toNat] (.str (s.dropWhile (· == c))) := by
  refine fn_pure [4] [] func198 rfl rfl ntmps198 rfl rfl (.str _) fun hs σ => ?_
  simp only [go_sem, simprocAttr, ↓reduceIte]
  refine LoopVC.falls [1] (.of (by kernel_rfl)) (fun k A => ∃ x, A.env 0 = .str x ∧ A.st = σ ∧ k = x.length ∧ x.dropWhile (· == c) = s.dropWhile (· == c)) s.length ⟨s, ?_⟩ fun k B ⟨x, h0, hst, hk, hI⟩ => ?_
  · simp only [go_sem, simprocAttr, ↓reduceIte]
  cases x with
  | nil =>
    simp only [go_sem, simprocAttr, ↓reduceIte, h0, hst]
    exact weak_str hI
  | cons d r =>
    simp only [go_sem, simprocAttr, ↓reduceIte, h0, hst]
    refine ⟨fun h => .here r.length (by simp [hk]) ⟨r, ?_⟩, fun h => weak_str ?_⟩
    · simp only [go_sem, simprocAttr, ↓reduceIte, hst]
      rw [← hI, List.dropWhile_cons, if_pos (by have h := h; simp at h ⊢; exact UInt8.toNat_inj.1 (by omega))]
    · rw [← hI, List.dropWhile_cons, if_neg (by have h := h; simp at h ⊢; intro e; subst e; exact h rfl)]

theorem st_trimLeft (s : List UInt8) (c : UInt8) (hc : c.toNat < 128) : PureFn prog W0 189 [.str s, .str [c]] (.str (s.dropWhile (· == c))) := by
  refine fn_pure [4] [] func189 rfl rfl ntmps189 rfl rfl (.str _) fun hs σ => ?_
  cases s with
  | nil => simp only [go_sem, simprocAttr, ↓reduceIte]; exact .refl _
  | cons d r =>
    have hc' : ((c.toNat : Int) < 128) := by omega
    simp only [go_sem, simprocAttr, ↓reduceIte, hc']
    refine CallA.fn (st_trimLeftByte (d :: r) c) ?_
    simp only [go_sem, simprocAttr, ↓reduceIte]
end Go.Proofs.Tryz
end
