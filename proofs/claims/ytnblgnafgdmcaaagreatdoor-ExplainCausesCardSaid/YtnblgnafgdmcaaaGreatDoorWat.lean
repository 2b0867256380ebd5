/- Texts that the last one of this claim rests on: a layer over the guide's own conditions for code; contracts of the functions that the law reaches, one by one. No conditions beside those of the given rows. -/
import Derived.Test.YtnblgnafgdmcaaaGreatDoorWar
import Derived.Test.YtnblgnafgdmcaaaGreatDoorWas
section
set_option linter.unusedSimpArgs false
set_option linter.unusedVariables false
namespace Go.Proofs.Tryz
open Go Go.Av
set_option maxRecDepth 10000
set_option linter.unusedSimpArgs false
set_option linter.unusedVariables false
variable {W0 : World}

theorem ve_rank (s : List UInt8) : PureFn prog W0 170 [.str s] (.int .i64 (rkP s)) := by
  refine fn_pure [2] [] func170 rfl rfl ntmps170 rfl rfl (.int _ _) fun hs σ => ?_
  cases s with
  | nil =>
    simp only [go_sem, simprocAttr, ↓reduceIte]
    refine CallP.fnG (fun h => by simp at h) (r := .bool false) ?_
    simp only [go_sem, simprocAttr, ↓reduceIte]
    exact .refl _
  | cons c r =>
    have h8 := c.toNat_lt
    simp only [go_sem, simprocAttr, ↓reduceIte]
    refine CallP.fnG (fun _ => ve_digit c) ?_
    simp only [go_sem, simprocAttr, ↓reduceIte]
    refine ⟨fun h => weak_int (by simp [rkP, h]), fun h => ⟨fun h' => weak_int ?_, fun h' => CallA.fn (ve_letter c) ?_⟩⟩
    · have : c.toNat = 126 := by omega
      simp [rkP, h, rankP, this]
    simp only [go_sem, simprocAttr, ↓reduceIte]
    have hn : ¬ c.toNat = 126 := by omega
    refine ⟨fun hl => weak_int (by simp [rkP, h, rankP, hn, hl]), fun hl => weak_int ?_⟩
    rw [wrap_in (by omega)]
    simp [rkP, h, rankP, hn, hl]

theorem ve_digits (s : List UInt8) : PureFn prog W0 172 [.str s] (.tup [.str (digsP s), .str (restP s)]) := by
  refine fn_pure [2, 3] [] func172 rfl rfl ntmps172 rfl rfl (.tup (by intro x hx; simp at hx; rcases hx with rfl | rfl <;> exact .str _)) fun hs σ => ?_
  have hsl : s.length ≤ maxLen := small_str (hs _ (by simp))
  simp only [go_sem, simprocAttr, ↓reduceIte]
  refine LoopVC.at [0] (.of (by kernel_rfl)) (fun A => ∃ i : Nat, A.env 4 = .int .i64 i ∧ A.st = σ ∧ i = runS s) ?_ fun B ⟨i, h4, hst, hi⟩ => ?_
  · refine LoopVC.upto [0] (.of (by kernel_rfl)) s.length (fun i A => A.env 4 = .int .i64 i ∧ A.st = σ ∧ ∀ c ∈ s.take i, digitC c = true) 0 (Nat.zero_le _) ?_ fun i B hi ⟨h4, hst, hI⟩ => ?_
    · simp only [go_sem, simprocAttr, ↓reduceIte]
      simp
    simp only [go_sem, simprocAttr, ↓reduceIte, h4, hst]
    refine CallP.fnG (fun _ => ve_digit _) ?_
    simp only [go_sem, simprocAttr, ↓reduceIte, h4, hst]
    refine ⟨fun h => ?_, fun h => ⟨i, rfl, ?_⟩⟩
    · obtain ⟨c, hc, hd⟩ := at_and.1 h
      have hlt := (List.getElem?_eq_some_iff.1 hc).1
      refine ⟨hlt, int_succ hlt hsl, fun d hdm => ?_⟩
      rw [take_succ_get hc] at hdm
      rcases List.mem_append.1 hdm with hdm | hdm
      · exact hI d hdm
      · rw [List.mem_singleton.1 hdm]; exact hd
    · exact (runS_at hi hI (at_and_f.1 h)).symm
  simp only [go_sem, simprocAttr, ↓reduceIte, h4, hst]
  subst hi
  have hle := runS_le s
  refine ⟨.of (by kernel_rfl), ⟨Nat.zero_le _, hle⟩, ?_⟩
  refine CallP.fn (st_trimLeft _ 48 (by decide)) ?_
  simp only [go_sem, simprocAttr, ↓reduceIte, h4, hst]
  refine ⟨hle, ?_⟩
  have key : ∀ s : List UInt8, s.takeWhile digitC = s.take (runS s) ∧ s.dropWhile digitC = s.drop (runS s) := fun s => by
    induction s with
    | nil => exact ⟨rfl, rfl⟩
    | cons c r ih =>
      cases h : digitC c with
      | true =>
        have e : runS (c :: r) = runS r + 1 := by simp [runS, h]
        rw [e, List.takeWhile_cons, List.dropWhile_cons, if_pos h, if_pos h, List.take_succ_cons, List.drop_succ_cons, ih.1, ih.2]
        exact ⟨rfl, rfl⟩
      | false =>
        have e : runS (c :: r) = 0 := by simp [runS, h]
        rw [e, List.takeWhile_cons, List.dropWhile_cons, h]
        exact ⟨rfl, rfl⟩
  rw [digsP, restP, (key s).1, (key s).2]
  exact .refl _

/-- Two texts of which the same has been read, in memory. -/
abbrev sidesO (x y : List UInt8) : Option SObj := some (.cells 189 [.agg 189 [.str x, .str y]])

theorem ve_signs (σ : Store) (id : Nat) (a b : List UInt8) (hid : σ[id]? = some (sidesO a b)) (hal : a.length ≤ maxLen) (hbl : b.length ≤ maxLen) :
    ACall prog W0 157 [.ptr 189 id 0 []] σ fun r σ' => r = .int .i64 (signsL a b) ∧ ∃ x y, σ' = σ.set id (sidesO x y) ∧ (signsL a b = 0 → x = skipD a ∧ y = skipD b) := by
  have hidl : id < σ.length := (List.getElem?_eq_some_iff.1 hid).1
  refine fn_call [2] [] func157 rfl rfl ntmps157 rfl rfl fun hs => ?_
  simp only [go_sem, simprocAttr, ↓reduceIte]
  refine LoopVC.falls [0] (.of (by kernel_rfl)) (fun k A => ∃ x y, A.st = σ.set id (sidesO x y) ∧ k = x.length + y.length ∧ signsL x y = signsL a b ∧ skipD x = skipD a ∧ skipD y = skipD b ∧ x.length ≤ maxLen ∧ y.length ≤ maxLen) (a.length + b.length) ⟨a, b, ?_, rfl, rfl, rfl, rfl, hal, hbl⟩ fun k B ⟨x, y, hst, hk, hI, hx, hy, hxl, hyl⟩ => ?_
  · simp only [go_sem, simprocAttr, ↓reduceIte]
    exact (set_id hid).symm
  simp only [go_sem, simprocAttr, ↓reduceIte, hst, look_set hidl]
  refine ⟨.of (by kernel_rfl), CallP.fn (ve_rank x) ?_⟩
  simp only [go_sem, simprocAttr, ↓reduceIte, hst, look_set hidl]
  refine CallP.fn (ve_rank y) ?_
  simp only [go_sem, simprocAttr, ↓reduceIte, hst, look_set hidl]
  refine ⟨fun h => CallA.fn (cmpInt _ _) ?_, fun h => ⟨fun h0 => EndR.ret ?_, fun h0 => ?_⟩⟩
  · simp only [go_sem, simprocAttr, ↓reduceIte, hst, look_set hidl]
    refine EndR.ret ?_
    simp only [go_sem, simprocAttr, ↓reduceIte, hst]
    have hne : rk x ≠ rk y := fun e => h ((rkP_eq x y).2 e)
    refine ⟨_, .refl _, by simp, by rw [← hI, signsL_ne hne, rkP_cmp], x, y, rfl, fun h0 => ?_⟩
    rw [← hI, signsL_ne hne] at h0
    exact absurd (sgn_eq h0) hne
  · simp only [go_sem, simprocAttr, ↓reduceIte, hst]
    have hx0 := (rkP_zero x).1 h0
    have hy0 : rk y = 0 := by rw [← rkP_zero, ← h]; exact h0
    refine ⟨_, .refl _, by simp, by rw [← hI, signsL_zero hx0 hy0], x, y, rfl, fun _ => ⟨by rw [← hx, skipD_rk hx0], by rw [← hy, skipD_rk hy0]⟩⟩
  · have hx0 : rk x ≠ 0 := fun e => h0 ((rkP_zero x).2 e)
    have hxy : rk x = rk y := (rkP_eq x y).1 h
    have hy0 : rk y ≠ 0 := by rw [← hxy]; exact hx0
    obtain ⟨c, r, rfl, hc⟩ := rk_ne hx0
    obtain ⟨d, r', rfl, hd⟩ := rk_ne hy0
    simp only [go_sem, simprocAttr, ↓reduceIte, hst, look_set hidl, setLook_set hidl]
    refine ⟨.of (by kernel_rfl), .here (r.length + r'.length) (by simp [hk]; omega) ⟨r, r', ?_⟩⟩
    simp only [go_sem, simprocAttr, ↓reduceIte, hst, look_set hidl, setLook_set hidl]
    simp at hxl hyl
    exact ⟨by rw [← hI, signsL_step hx0 hxy]; rfl, by rw [← hx]; exact skipD_tail hx0, by rw [← hy]; exact skipD_tail hy0, by omega, by omega⟩
theorem ve_numbers (σ : Store) (id : Nat) (a b : List UInt8) (hid : σ[id]? = some (sidesO a b)) :
    ACall prog W0 158 [.ptr 189 id 0 []] σ fun r σ' => r = .int .i64 (numC a b) ∧ σ' = σ.set id (sidesO (restP a) (restP b)) := by
  have hidl : id < σ.length := (List.getElem?_eq_some_iff.1 hid).1
  refine fn_call [2] [] func158 rfl rfl ntmps158 rfl rfl fun hs => ?_
  simp only [go_sem, simprocAttr, ↓reduceIte, look_id hid]
  refine CallA.fn (ve_digits a) ?_
  simp only [go_sem, simprocAttr, ↓reduceIte, look_id hid]
  refine CallA.fn (ve_digits b) ?_
  simp only [go_sem, simprocAttr, ↓reduceIte, look_id hid, setLook_id hid, look_set hidl, setLook_set hidl]
  refine ⟨fun h => CallA.fn (cmpInt _ _) ?_, fun h => CallA.fn (cmp_str _ _) ?_⟩
  · simp only [go_sem, simprocAttr, ↓reduceIte]
    refine EndR.ret ?_
    simp only [go_sem, simprocAttr, ↓reduceIte]
    exact ⟨_, .refl _, by simp, by rw [numC, if_pos h]⟩
  · simp only [go_sem, simprocAttr, ↓reduceIte]
    refine EndR.ret ?_
    simp only [go_sem, simprocAttr, ↓reduceIte]
    exact ⟨_, .refl _, by simp, by rw [numC, if_neg (by simpa using h)]⟩

theorem ve_part (a b : List UInt8) : PureFn prog W0 131 [.str a, .str b] (.int .i64 (partV a b)) := by
  refine fn_pure [4] [] func131 rfl rfl ntmps131 rfl rfl (.int _ _) fun hs σ => ?_
  have hal : a.length ≤ maxLen := small_str (hs (.str a) (by simp))
  have hbl : b.length ≤ maxLen := small_str (hs (.str b) (by simp))
  simp only [go_sem, simprocAttr, ↓reduceIte]
  refine LoopVC.falls [5] (.of (by kernel_rfl)) (fun k A => ∃ x y, A.st = σ ++ [sidesO x y] ∧ k = x.length + y.length ∧ partV x y = partV a b ∧ x.length ≤ maxLen ∧ y.length ≤ maxLen) (a.length + b.length) ⟨a, b, ?_, rfl, rfl, hal, hbl⟩ fun k B ⟨x, y, hst, hk, hI, hxl, hyl⟩ => ?_
  · simp only [go_sem, simprocAttr, ↓reduceIte]
  simp only [go_sem, simprocAttr, ↓reduceIte, hst]
  refine ⟨fun h => ?_, fun h => ?_⟩
  case refine_2 =>
    have : x = [] ∧ y = [] := by cases x <;> cases y <;> simp at h ⊢
    exact weak_int (by rw [← hI, partV, dif_pos this])
  have hne : ¬ (x = [] ∧ y = []) := fun ⟨e, e'⟩ => by subst e e'; simp at h
  have hid : (σ ++ [sidesO x y])[σ.length]? = some (sidesO x y) := by simp
  refine CallA.goes (by simp only [go_sem, simprocAttr, ↓reduceIte, hst]) (ve_signs _ σ.length x y hid hxl hyl) fun r σ' ⟨hr, x', y', hσ, hz⟩ => ?_
  subst hr hσ
  simp only [go_sem, simprocAttr, ↓reduceIte, hst]
  refine ⟨fun h1 => weak_int ?_, fun h1 => ?_⟩
  · rw [← hI, partV_step hne, if_pos h1]
  obtain ⟨rfl, rfl⟩ := hz h1
  have hid : (σ ++ [sidesO (skipD x) (skipD y)])[σ.length]? = some (sidesO (skipD x) (skipD y)) := by simp
  refine CallA.goes (by simp only [go_sem, simprocAttr, ↓reduceIte]) (ve_numbers _ σ.length _ _ hid) fun r σ' ⟨hr, hσ⟩ => ?_
  subst hr hσ
  simp only [go_sem, simprocAttr, ↓reduceIte, hst]
  have l1 := restP_le (skipD x)
  have l2 := restP_le (skipD y)
  have l3 := dropWhile_le (p := fun c => !digitC c) x
  have l4 := dropWhile_le (p := fun c => !digitC c) y
  refine ⟨fun h2 => weak_int ?_, fun h2 => .here ((restP (skipD x)).length + (restP (skipD y)).length) (by rw [hk]; exact partV_fall hne) ⟨restP (skipD x), restP (skipD y), ?_⟩⟩
  · rw [← hI, partV_step hne, if_neg (by simp [h1]), if_pos h2]
  · simp only [go_sem, simprocAttr, ↓reduceIte]
    unfold skipD at *
    exact ⟨by rw [← hI, partV_step hne, if_neg (by simp [h1]), if_neg (by unfold skipD; simp [h2])]; rfl, by omega, by omega⟩

theorem ve_of (beside s : List UInt8) (hbs : ∀ c ∈ beside, c.toNat ≤ 126) : PureFn prog W0 125 [.str s, .str beside] (.bool (ofV beside s)) := by
  refine fn_pure [4] [] func125 rfl rfl ntmps125 rfl rfl (.bool _) fun hs σ => ?_
  simp only [go_sem, simprocAttr, ↓reduceIte]
  refine LoopVC.falls [1, 8] (.of (by kernel_rfl)) (fun k A => ∃ pos, A.st = σ ++ [some (.iter s pos)] ∧ k = s.length - pos ∧ pos ≤ s.length ∧ ofV beside (s.take pos) = true) s.length ⟨0, ?_⟩ fun k B ⟨pos, hst, hk, hp, hI⟩ => ?_
  · simp only [go_sem, simprocAttr, ↓reduceIte]
    simp [ofV]
  simp only [go_sem, simprocAttr, ↓reduceIte, hst]
  refine ⟨fun hlt => ?_, fun hge => ?_⟩
  · obtain ⟨c, hc⟩ := get_some hlt
    have bad : (digitC c || letterC c || beside.contains c) = false → ofV beside s = false := fun hd => by
      unfold ofV; exact all_false hc hd
    rcases Nat.lt_or_ge c.toNat 128 with h8 | h8
    · rw [decAt_ascii hc h8]
      have hcv := u8_wrap c
      have hce := encL_ascii h8
      simp only [go_sem, simprocAttr, ↓reduceIte, hcv, hce]
      refine CallP.fnG (fun _ => ve_digit c) ?_
      simp only [go_sem, simprocAttr, ↓reduceIte, hcv, hce]
      refine CallP.fnG (fun _ => ve_letter c) ?_
      simp only [go_sem, simprocAttr, ↓reduceIte, hcv, hce]
      refine CallP.fnG (fun _ => st_contains beside c) ?_
      simp only [go_sem, simprocAttr, ↓reduceIte, hcv, hce]
      refine ⟨fun hb => weak_bool ?_, fun hb => .here (s.length - (pos + 1)) (by omega) ⟨pos + 1, ?_⟩⟩
      · refine (bad ?_).symm
        simp only [Bool.or_eq_true, decide_eq_true_eq, Bool.and_eq_true, Bool.not_eq_true'] at hb
        rcases hb with hb | ⟨⟨h1, h2⟩, h3⟩
        · have h1 : digitC c = false := by simp [digitC]; omega
          have h2 : letterC c = false := by simp [letterC, smallC]; omega
          have h3 : beside.contains c = false := by
            cases hx : beside.contains c with
            | false => rfl
            | true => have := hbs c (by simpa using hx); omega
          simp only [h1, h2, h3, Bool.or_false]
        · simp only [h1, h2, h3, Bool.or_false]
      · simp only [go_sem, simprocAttr, ↓reduceIte, hst]
        refine ⟨by omega, all_take hI hc ?_⟩
        simp at hb
        have hb2 := hb.2
        cases hd : digitC c <;> cases hl : letterC c <;> cases hx : beside.contains c <;> simp_all
    · have := decAt_big hc h8
      have hd : decide ((126 : Int) < ((decAt s pos).1 : Int)) = true := decide_eq_true (by omega)
      simp only [go_sem, simprocAttr, ↓reduceIte, hd]
      refine CallP.fnG (fun h => by simp at h) (r := .bool false) ?_
      simp only [go_sem, simprocAttr, ↓reduceIte, hd]
      refine CallP.fnG (fun h => by simp at h) (r := .bool false) ?_
      simp only [go_sem, simprocAttr, ↓reduceIte, hd]
      refine CallP.fnG (fun h => by simp at h) (r := .bool false) ?_
      simp only [go_sem, simprocAttr, ↓reduceIte, hd]
      refine weak_bool (bad ?_).symm
      have h1 : digitC c = false := by simp [digitC]; omega
      have h2 : letterC c = false := by simp [letterC, smallC]; omega
      have h3 : beside.contains c = false := by
        cases hx : beside.contains c with
        | false => rfl
        | true => have := hbs c (by simpa using hx); omega
      simp only [h1, h2, h3, Bool.or_false]
  · have : pos = s.length := by omega
    rw [this, List.take_length] at hI
    exact weak_bool hI.symm

theorem ve_parse (s : List UInt8) : PureFn prog W0 93 [.str s] (verPAV (verP s)) := by
  refine fn_pure [2, 3, 4, 5] [] func93 rfl rfl ntmps93 rfl rfl (verPAV_ids _) fun hs σ => ?_
  have hsl : s.length ≤ maxLen := small_str (hs _ (by simp))
  have none_end : verP s = none → Weak (AV.tup [.str [], .str [], .str [], .int .i64 3]) (verPAV (verP s)) := fun e => by rw [e]; exact .refl _
  simp only [go_sem, simprocAttr, ↓reduceIte]
  refine ⟨fun h => none_end ?_, fun h => ?_⟩
  · have h' : s.length = 0 ∨ 48 < s.length := by
      simp only [Bool.or_eq_true, beq_iff_eq, decide_eq_true_eq] at h
      rcases h with h | h
      · left; rw [h]; rfl
      · right; omega
    rw [verP, if_pos h']
  have hlen : ¬ (s.length = 0 ∨ 48 < s.length) := by
    simp only [Bool.or_eq_false_iff, beq_eq_false_iff_ne, decide_eq_false_iff_not] at h
    rintro (h1 | h1)
    · exact h.1 (List.length_eq_zero_iff.1 h1)
    · exact h.2 (by omega)
  refine CallA.fn (st_cut s 58) ?_
  simp only [go_sem, simprocAttr, ↓reduceIte, cutAV]
  have hv : ∀ e t : List UInt8, (e, t) = (if 0 ≤ firstOf 58 s then (s.take (firstOf 58 s).toNat, s.drop ((firstOf 58 s).toNat + 1)) else ([48], s)) → verP s = (match revP t with
     | none => none
     | some (u, r) => if (decide (1 ≤ e.length) && decide (e.length ≤ 9) && e.all digitC) && ofV [43, 46, 126] r && startsD u && ofV [43, 46, 126, 45, 58] u then some (e, u, r) else none) := fun e t he => by
    rw [verP_eq, if_neg hlen, ← he]
    rfl
  refine JoinVC.at [4] (by kernel_rfl) (fun A => ∃ e t, A.env 2 = .str e ∧ A.env 6 = .str t ∧ A.st = σ ∧ t.length ≤ s.length ∧ (e, t) = (if 0 ≤ firstOf 58 s then (s.take (firstOf 58 s).toNat, s.drop ((firstOf 58 s).toNat + 1)) else ([48], s))) (fun hf => ?_) (fun hf => ?_) fun B ⟨e, t, h2, h6, hst, htl, het⟩ => ?_
  · have hf : 0 ≤ firstOf 58 s := by simpa using hf
    simp only [go_sem, simprocAttr, ↓reduceIte]
    exact ⟨_, _, rfl, rfl, by rw [cutB, if_pos hf]; simp, by rw [cutA, cutB, if_pos hf, if_pos hf, if_pos hf]⟩
  · have hf : ¬ 0 ≤ firstOf 58 s := by simpa using hf
    simp only [go_sem, simprocAttr, ↓reduceIte]
    exact ⟨_, _, rfl, rfl, Nat.le_refl _, by rw [if_neg hf]⟩
  have hv := hv e t het
  simp only [go_sem, simprocAttr, ↓reduceIte, h2, h6, hst]
  refine CallA.fn (st_lastIndexByte t 45) ?_
  simp only [go_sem, simprocAttr, ↓reduceIte, h2, h6, hst]
  refine JoinVC.at [] (by kernel_rfl) (fun A => ∃ u r, revP t = some (u, r) ∧ A.env 2 = .str e ∧ A.env 3 = .str u ∧ A.env 4 = .str r ∧ A.st = σ) (fun hf => ?_) (fun hf => ?_) fun B ⟨u, r, hrv, h2, h3, h4, hst⟩ => ?_
  · obtain ⟨i, hi, hgi, hlt⟩ := (lastOf_cases 45 t).resolve_left (fun e => by rw [e.1] at hf; simp at hf)
    rw [hi]
    have hw : IntKind.i64.wrap ((i : Int) + 1) = ((i + 1 : Nat) : Int) := wrap_succ hlt (by omega)
    have hrv : revP t = if t.drop (i + 1) = [] then none else some (t.take i, t.drop (i + 1)) := by
      rw [revP, hi, if_pos (by omega)]; rfl
    simp only [go_sem, simprocAttr, ↓reduceIte, hw, h2, h6, hst]
    refine ⟨.of (by kernel_rfl), by omega, by omega, fun hb => none_end (by rw [hv]; simp only [hrv, if_pos hb]), fun hb => ⟨t.take i, t.drop (i + 1), ?_⟩⟩
    rw [hrv, if_neg hb]
    simp
  · have hf' : ¬ (0 ≤ lastOf 45 t) := by simpa using hf
    simp only [go_sem, simprocAttr, ↓reduceIte, h2, h6, hst]
    exact ⟨t, [], by simp [revP, hf']⟩
  rw [hrv] at hv
  simp only at hv
  simp only [go_sem, simprocAttr, ↓reduceIte, h2, h3, h4, hst]
  refine CallA.fn (ve_epochOf e) ?_
  simp only [go_sem, simprocAttr, ↓reduceIte, h2, h3, h4, hst]
  refine CallP.fnG (fun _ => ve_of [43, 46, 126] r (by decide)) ?_
  simp only [go_sem, simprocAttr, ↓reduceIte, h2, h3, h4, hst]
  have fin : ∀ b : Bool, b = (!((decide (1 ≤ e.length) && decide (e.length ≤ 9) && e.all digitC) && ofV [43, 46, 126] r && startsD u && ofV [43, 46, 126, 45, 58] u)) → (b = true → verP s = none) ∧ (b = false → verP s = some (e, u, r)) := fun b hb => by
    rw [hv]
    refine ⟨fun h => if_neg ?_, fun h => if_pos ?_⟩
    · rw [h] at hb
      intro hc
      rw [hc] at hb
      cases hb
    · rw [h] at hb
      cases hc : (decide (1 ≤ e.length) && decide (e.length ≤ 9) && e.all digitC) && ofV [43, 46, 126] r && startsD u && ofV [43, 46, 126, 45, 58] u with
      | true => rfl
      | false => rw [hc] at hb; cases hb
  cases u with
  | nil =>
    simp only [go_sem, simprocAttr, ↓reduceIte, h2, h3, h4, hst]
    refine CallP.fnG (fun h => by simp at h) (r := .bool false) ?_
    simp only [go_sem, simprocAttr, ↓reduceIte, h2, h3, h4, hst]
    refine CallP.fnG (fun h => by simp at h) (r := .bool false) ?_
    simp only [go_sem, simprocAttr, ↓reduceIte, h2, h3, h4, hst]
    exact none_end ((fin true (by simp [startsD])).1 rfl)
  | cons c u' =>
    simp only [go_sem, simprocAttr, ↓reduceIte, h2, h3, h4, hst]
    refine CallP.fnG (fun _ => ve_digit c) ?_
    simp only [go_sem, simprocAttr, ↓reduceIte, h2, h3, h4, hst]
    refine CallP.fnG (fun _ => ve_of [43, 46, 126, 45, 58] (c :: u') (by decide)) ?_
    simp only [go_sem, simprocAttr, ↓reduceIte, h2, h3, h4, hst]
    refine ⟨fun h => none_end ((fin _ ?_).1 h), fun h => ?_⟩
    · simp only [startsD]
      cases (decide (1 ≤ e.length) && decide (e.length ≤ 9) && e.all digitC) <;> cases ofV [43, 46, 126] r <;> cases digitC c <;> cases ofV [43, 46, 126, 45, 58] (c :: u') <;> rfl
    · rw [(fin _ (by
        simp only [startsD]
        cases (decide (1 ≤ e.length) && decide (e.length ≤ 9) && e.all digitC) <;> cases ofV [43, 46, 126] r <;> cases digitC c <;> cases ofV [43, 46, 126, 45, 58] (c :: u') <;> rfl)).2 h]
      exact .refl _
end Go.Proofs.Tryz
end
section
set_option linter.unusedSimpArgs false
set_option linter.unusedVariables false
namespace Go.Proofs.Tryz
open Go Go.Av
set_option maxRecDepth 10000
set_option linter.unusedSimpArgs false
set_option linter.unusedVariables false
variable {W0 : World}

def cmpAV (a b : List UInt8) : AV := .tup [.int .i64 (cmpVer a b), .bool (isVer a && isVer b)]
theorem cmpAV_ids (a b : List UInt8) : IdsLt 0 (cmpAV a b) := by
  refine .tup fun x hx => ?_
  simp at hx
  rcases hx with rfl | rfl
  · exact .int _ _
  · exact .bool _

theorem ve_compare (a b : List UInt8) : PureFn prog W0 99 [.str a, .str b] (cmpAV a b) := by
  refine fn_pure [4, 5] [] func99 rfl rfl ntmps99 rfl rfl (cmpAV_ids _ _) fun hs σ => ?_
  simp only [go_sem, simprocAttr, ↓reduceIte]
  refine CallA.fn (ve_parse a) ?_
  cases h : verP a with
  | none =>
    simp only [go_sem, simprocAttr, ↓reduceIte, verPAV]
    refine CallA.fn (ve_parse b) ?_
    cases h' : verP b with
    | none => simp only [go_sem, simprocAttr, ↓reduceIte, verPAV]; simp only [cmpAV, cmpVer, isVer, h, h']; exact .refl _
    | some v => obtain ⟨f, v, t⟩ := v; simp only [go_sem, simprocAttr, ↓reduceIte, verPAV]; simp only [cmpAV, cmpVer, isVer, h, h']; exact .refl _
  | some v =>
    obtain ⟨e, u, r⟩ := v
    simp only [go_sem, simprocAttr, ↓reduceIte, verPAV]
    refine CallA.fn (ve_parse b) ?_
    cases h' : verP b with
    | none => simp only [go_sem, simprocAttr, ↓reduceIte, verPAV]; simp only [cmpAV, cmpVer, isVer, h, h']; exact .refl _
    | some v =>
      obtain ⟨f, v, t⟩ := v
      simp only [go_sem, simprocAttr, ↓reduceIte, verPAV]
      refine CallA.fn (ve_part e f) ?_
      simp only [go_sem, simprocAttr, ↓reduceIte]
      refine CallA.fn (ve_part u v) ?_
      simp only [go_sem, simprocAttr, ↓reduceIte]
      refine CallA.fn (ve_part r t) ?_
      simp only [go_sem, simprocAttr, ↓reduceIte]
      refine ⟨by decide, CallA.fn ((cmp_or [partV e f, partV u v, partV r t]).weak (.cons (.lit _ _) .nil)) ?_⟩
      simp only [go_sem, simprocAttr, ↓reduceIte]
      have : orL [partV e f, partV u v, partV r t] = cmpVer a b := by
        simp only [cmpVer, h, h', orL]
        by_cases h1 : partV e f = 0
        · by_cases h2 : partV u v = 0
          · by_cases h3 : partV r t = 0
            · simp [h1, h2, h3]
            · simp [h1, h2, h3]
          · simp [h1, h2]
        · simp [h1]
      rw [this, cmpAV]
      simp only [isVer, h, h']
      exact .refl _

theorem ve_same (a b : List UInt8) : PureFn prog W0 70 [.str a, .str b] (.bool (sameVer a b)) := by
  refine fn_pure [4] [] func70 rfl rfl ntmps70 rfl rfl (.bool _) fun hs σ => ?_
  simp only [go_sem, simprocAttr, ↓reduceIte]
  refine CallA.fn (ve_compare a b) ?_
  simp only [go_sem, simprocAttr, ↓reduceIte, cmpAV]
  exact weak_bool (by rw [sameVer])

theorem ve_holds (rel : Int) (a b : List UInt8) : PureFn prog W0 79 [.int .i64 rel, .str a, .str b] (.bool (holdsV rel a b)) := by
  refine fn_pure [6] [] func79 rfl rfl ntmps79 rfl rfl (.bool _) fun hs σ => ?_
  simp only [go_sem, simprocAttr, ↓reduceIte]
  refine ⟨fun h0 => CallA.fn (ve_parse a) ?_, fun h0 => CallA.fn (ve_compare a b) ?_⟩
  · cases h : verP a with
    | none => simp only [go_sem, simprocAttr, ↓reduceIte, verPAV]; exact weak_bool (by rw [holdsV, if_pos h0, isVer, h]; rfl)
    | some v => obtain ⟨e, u, r⟩ := v; simp only [go_sem, simprocAttr, ↓reduceIte, verPAV]; exact weak_bool (by rw [holdsV, if_pos h0, isVer, h]; rfl)
  simp only [go_sem, simprocAttr, ↓reduceIte, cmpAV]
  refine ⟨fun hb => weak_bool (by rw [holdsV, if_neg h0, hb]; rfl), fun hb => ?_⟩
  have hh : holdsV rel a b = (if rel = 1 then decide (cmpVer a b < 0) else if rel = 2 then decide (cmpVer a b ≤ 0) else if rel = 3 then cmpVer a b == 0
     else if rel = 4 then decide (0 ≤ cmpVer a b) else if rel = 5 then decide (0 < cmpVer a b) else false) := by rw [holdsV, if_neg h0, if_pos hb]
  refine ⟨fun h1 => weak_bool (by rw [hh, if_pos h1]), fun h1 => ⟨fun h2 => weak_bool (by rw [hh, if_neg h1, if_pos h2]), fun h2 => ⟨fun h3 => weak_bool (by rw [hh, if_neg h1, if_neg h2, if_pos h3]), fun h3 => ⟨fun h4 => weak_bool (by rw [hh, if_neg h1, if_neg h2, if_neg h3, if_pos h4]), fun h4 => ⟨fun h5 => weak_bool (by rw [hh, if_neg h1, if_neg h2, if_neg h3, if_neg h4, if_pos h5]), fun h5 => weak_bool (by rw [hh, if_neg h1, if_neg h2, if_neg h3, if_neg h4, if_neg h5])⟩⟩⟩⟩⟩

theorem tx_name (s : List UInt8) : PureFn prog W0 94 [.str s] (.bool (nameOk s)) := by
  refine fn_pure [2] [] func94 rfl rfl ntmps94 rfl rfl (.bool _) fun hs σ => ?_
  have hsl : s.length ≤ maxLen := small_str (hs _ (by simp))
  simp only [go_sem, simprocAttr, ↓reduceIte]
  refine ⟨fun h => weak_bool ?_, fun h => ?_⟩
  · have : (decide (2 ≤ s.length) && decide (s.length ≤ 24)) = false := by
      simp only [Bool.or_eq_true, decide_eq_true_eq] at h
      simp only [Bool.and_eq_false_iff, decide_eq_false_iff_not]
      omega
    rw [nameOk, this]; rfl
  have hlen : (decide (2 ≤ s.length) && decide (s.length ≤ 24)) = true := by
    simp only [Bool.or_eq_false_iff, decide_eq_false_iff_not] at h
    simp only [Bool.and_eq_true, decide_eq_true_eq]
    omega
  refine LoopVC.falls [15] (.of (by kernel_rfl)) (fun k A => ∃ pos, A.st = σ ++ [some (.iter s pos)] ∧ k = s.length - pos ∧ pos ≤ s.length ∧ ∀ j c, j < pos → s[j]? = some c → nameCh j c = true) s.length ⟨0, ?_⟩ fun k B ⟨pos, hst, hk, hp, hI⟩ => ?_
  · simp only [go_sem, simprocAttr, ↓reduceIte]
    simp
  simp only [go_sem, simprocAttr, ↓reduceIte, hst]
  refine ⟨fun hlt => ?_, fun hge => ?_⟩
  · obtain ⟨c, hc⟩ := get_some hlt
    have bad : nameCh pos c = false → nameOk s = false := fun hd => by
      rw [nameOk, allIdxB_false hc hd, Bool.and_false]
    rcases Nat.lt_or_ge c.toNat 128 with h8 | h8
    · rw [decAt_ascii hc h8]
      simp only [go_sem, simprocAttr, ↓reduceIte]
      refine ⟨fun hb => weak_bool ?_, fun hb => .here (s.length - (pos + 1)) (by omega) ⟨pos + 1, ?_⟩⟩
      · refine (bad ?_).symm
        revert hb
        simp only [nameCh, smallC, digitC]
        simp
        omega
      · simp only [go_sem, simprocAttr, ↓reduceIte, hst]
        refine ⟨by omega, fun j d hj hd => ?_⟩
        rcases Nat.lt_succ_iff_lt_or_eq.1 hj with hj | rfl
        · exact hI j d hj hd
        · have e : d = c := by rw [hd] at hc; exact Option.some.inj hc
          subst e
          revert hb
          simp only [nameCh, smallC, digitC]
          simp
          omega
    · have := decAt_big hc h8
      refine ⟨fun hb => weak_bool (bad ?_).symm, fun hb => ?_⟩
      · simp only [nameCh, smallC, digitC]
        simp
        omega
      · simp at hb
        omega
  · have : pos = s.length := by omega
    have : allIdxB nameCh 0 s = true := allIdxB_iff.2 fun j c hj => by rw [Nat.zero_add]; exact hI j c (by have := (List.getElem?_eq_some_iff.1 hj).1; omega) hj
    exact weak_bool (by rw [nameOk, this, hlen]; rfl)

theorem rl_mayAtom (a : Atom) : PureFn prog W0 73 [atomAV a] (.bool (mayAtom a)) := by
  refine fn_pure [2] [1] func73 rfl rfl ntmps73 rfl rfl (.bool _) fun hs σ => ?_
  simp only [go_sem, simprocAttr, ↓reduceIte, atomAV]
  refine CallA.fn (tx_name a.name) ?_
  simp only [go_sem, simprocAttr, ↓reduceIte, atomAV]
  have low : (!nameOk a.name || decide (a.rel < 0) || decide (5 < a.rel)) = true → mayAtom a = false := fun h => by
    unfold mayAtom
    cases hn : nameOk a.name with
    | false => rfl
    | true =>
      rw [hn] at h
      simp only [Bool.not_true, Bool.false_or, Bool.or_eq_true, decide_eq_true_eq] at h
      rw [if_neg (by omega)]
      have : (decide (1 ≤ a.rel) && decide (a.rel ≤ 5)) = false := by
        simp only [Bool.and_eq_false_iff, decide_eq_false_iff_not]; omega
      rw [this]; rfl
  have high : (!nameOk a.name || decide (a.rel < 0) || decide (5 < a.rel)) = false → mayAtom a = if a.rel = 0 then a.ver == [] else isVer a.ver := fun h => by
    simp only [Bool.or_eq_false_iff, Bool.not_eq_false', decide_eq_false_iff_not] at h
    rw [mayAtom, h.1.1, Bool.true_and]
    split
    · rfl
    · have h1 : decide (1 ≤ a.rel) = true := decide_eq_true (by omega)
      have h2 : decide (a.rel ≤ 5) = true := decide_eq_true (by omega)
      rw [h1, h2]; rfl
  refine ⟨fun h => weak_bool (low h).symm, fun h => ⟨fun h0 => weak_bool (by rw [high h, if_pos h0]), fun h0 => CallA.fn (ve_parse a.ver) ?_⟩⟩
  have hm := high h
  rw [if_neg h0] at hm
  cases h : verP a.ver with
  | none => simp only [go_sem, simprocAttr, ↓reduceIte, verPAV]; exact weak_bool (by rw [hm, isVer, h]; rfl)
  | some v => obtain ⟨e, u, r⟩ := v; simp only [go_sem, simprocAttr, ↓reduceIte, verPAV]; exact weak_bool (by rw [hm, isVer, h]; rfl)
end Go.Proofs.Tryz
end
