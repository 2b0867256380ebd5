/- Texts that the last one of this claim rests on: a layer over the guide's own conditions for code; contracts of the functions that the law reaches, one by one. No conditions beside those of the given rows. -/
import Derived.Test.YtnblgnafgdmcaaaGreatDoorWaa
import Derived.Test.YtnblgnafgdmcaaaGreatDoorWbp
section
set_option linter.unusedSimpArgs false
set_option linter.unusedVariables false
namespace Go.Av
open Go

section
variable {P : Program} {W0 w w' : World} {C : Ctx} {σ : Store}
theorem Step.below (hB : RowKit.Below w.heap.size w w') : Step w C w' C where
  nx := Nat.le_refl _
  dead := fun _ _ _ h => h
  stable := fun b o h => ⟨by simp only [World.cell?, hB.block b h.1], Nat.lt_of_lt_of_le h.1 hB.size, h.2⟩
  os := hB.os
  tape := hB.tape
  output := hB.output
  size := hB.size
  block := fun b hb hn => ⟨hB.block b hb, hn⟩
theorem StRel.blk_lt (h : StRel P W0 w C σ) {i : Nat} {ow : Own} (hm : C.m i = some ow) : ow.blk < w.heap.size := by
  have ho := h.obj i
  rw [hm] at ho
  have key : ∀ {b : Nat} {o : Obj}, w.heap[b]? = some o → b < w.heap.size := fun hb => (Array.getElem?_eq_some_iff.1 hb).1
  generalize (σ[i]?).join = so at ho
  cases so with
  | none => exact ho.elim
  | some so =>
    cases so <;> cases ow <;> first
      | exact False.elim ho
      | (obtain ⟨_, arr, t', hb, _⟩ := ho; exact key hb)
      | (obtain ⟨arr, hb, _⟩ := ho; exact key hb)
      | (obtain ⟨es, clock, hb, _⟩ := ho; exact key hb)
      | exact key ho
/-- A contract that leaves what lies below the heap's end as it was. -/
theorem pure_below {f : FuncId} {fn : Func} {args : List AV} {r : AV} (hf : P.funcs[f]? = some fn) (hb : fn.body.isSome = true) (hnm : (fn.name == "runtime.NumGoroutine") = false)
    (h : ∀ (w : World) (C : Ctx) (vs : List Value), args.length = vs.length → (∀ (i : Nat) (a : AV) (v : Value), args[i]? = some a → vs[i]? = some v → RelV P w C a v) → Calls P f vs.toArray w fun e w' => ∃ v, e = .returned v ∧ (∀ w C, RelV P w C r v) ∧ RowKit.Below w.heap.size w w') : PureFn P W0 f args r := fun σ w C vs hst hl hv =>
  .inl ⟨⟨fn, hf, hb, hnm⟩, (h w C vs hl hv).mono fun e w' ⟨v, he, hr, hB⟩ => by
    have hs : Step w C w' C := .below hB
    exact ⟨v, r, σ, C, he, ⟨rfl, rfl⟩, hst.world hs fun i ow hm => hB.block _ (hst.blk_lt hm), hr w' C, hs⟩⟩
end
/-- Texts, with one between any two. -/
def joinL (l : List (List UInt8)) (sep : List UInt8) : List UInt8 := Lib.join l sep
theorem joinL_nil (sep : List UInt8) : joinL [] sep = [] := rfl
theorem joinL_one (x sep : List UInt8) : joinL [x] sep = x := Lib.join_one x sep
end Go.Av
namespace Go.Proofs.Tryz
open Go Go.Av
set_option maxRecDepth 10000
set_option linter.unusedSimpArgs false
set_option linter.unusedVariables false
variable {W0 : World}

def strsAV (l : List (List UInt8)) : AV := .sl 9 (l.map .str)
theorem str_join (l : List (List UInt8)) (sep : List UInt8) (hl : l.length ≤ 140737488355328) (hlen : (joinL l sep).length ≤ 140737488355328) : PureFn prog W0 74 [strsAV l, .str sep] (.str (joinL l sep)) := by
  refine pure_below func74 (by kernel_rfl) (by kernel_rfl) fun w C vs hvl hv => ?_
  obtain _ | ⟨v1, _ | ⟨v2, _ | ⟨_, _⟩⟩⟩ := vs <;> simp at hvl
  have h1 := hv 0 _ _ rfl rfl
  have h2 := hv 1 _ _ rfl rfl
  have hr : ∀ w C, RelV prog w C (.str (joinL l sep)) (.string ⟨(joinL l sep).toArray⟩) := fun w C => .one rfl (.str (by rw [maxLen_eq]; omega))
  have e2 : v2 = .string ⟨sep.toArray⟩ := by
    have := h2.one_inv rfl
    cases this
    rfl
  subst e2
  obtain ⟨ad, cap, cf, rfl, x1, x2, x3, x4, x5⟩ := (h1.one_inv rfl).sl_of (e := 9) (xs := l.map .str) (.inl rfl)
  have hml : (l.map AV.str).length = l.length := List.length_map ..
  rw [hml] at x1 x5 ⊢
  have hsz : szOf prog 9 = 1 := by kernel_rfl
  by_cases hl0 : l = []
  · subst hl0
    exact (Any.strings_Join_none Tryz.lays156 Tryz.extra156 ad cap ⟨sep.toArray⟩ w).mono fun e w' ⟨he, hw⟩ => ⟨_, he, hr, hw ▸ RowKit.Below.refl _ _⟩
  have hpos : 0 < l.length := by cases l with | nil => exact absurd rfl hl0 | cons => simp
  obtain ⟨b, o, rfl, hc⟩ := x5 hpos
  have hcell : ∀ (j : Nat) (s : List UInt8), l[j]? = some s → w.cell? ⟨b, o + j, none⟩ = some (.string ⟨s.toArray⟩) ∧ b < w.heap.size := fun j s hj => by
    have hjs : (l.map AV.str)[j]? = some (.str s) := by rw [List.getElem?_map, hj]; rfl
    have hcf : cf j = [.string ⟨s.toArray⟩] := by
      have := x3 j _ hjs
      generalize cf j = z at this
      cases this
      rfl
    have := hc j (List.getElem?_eq_some_iff.1 hj).1 0 (.string ⟨s.toArray⟩) (by rw [hcf]; rfl)
    rw [hsz, Nat.mul_one, Nat.add_zero] at this
    exact ⟨this.1, this.2.1⟩
  obtain ⟨s0, hs0⟩ := get_some hpos
  have hj := Any.strings_Join Tryz.lays156 Tryz.extra156 b o cap (l.map fun s => ⟨s.toArray⟩) ⟨sep.toArray⟩ w (fun j x hx => by
    rw [List.getElem?_map] at hx
    obtain ⟨s, hs, rfl⟩ := Option.map_eq_some_iff.1 hx
    exact (hcell j s hs).1) (hcell 0 s0 hs0).2 (by simpa using hl) (by simpa using x1) (by simpa [joinL, Function.comp_def] using hlen)
  simp only [List.length_map, List.map_map, Function.comp_def, List.map_id'] at hj
  exact hj.mono fun e w' ⟨he, hw⟩ => ⟨_, he, hr, hw⟩
end Go.Proofs.Tryz
end
section
set_option linter.unusedSimpArgs false
set_option linter.unusedVariables false
namespace Go.Av
def signT (r : Int) : List UInt8 := if r = 1 then [60, 60] else if r = 2 then [60, 61] else if r = 3 then [61] else if r = 4 then [62, 61] else if r = 5 then [62, 62] else []
/-- An atom's text. -/
def atomT (a : Atom) : List UInt8 := if mayAtom a = true then (if a.rel = 0 then a.name else ((((a.name ++ [32, 40]) ++ signT a.rel) ++ [32]) ++ a.ver) ++ [41]) else []
theorem signT_len (r : Int) : (signT r).length ≤ 2 := by
  unfold signT
  repeat' split
  all_goals decide
theorem nameOk_len {s : List UInt8} (h : nameOk s = true) : s.length ≤ 24 := by
  unfold nameOk at h
  simp only [Bool.and_eq_true, decide_eq_true_eq] at h
  exact h.1.2
theorem isVer_len {s : List UInt8} (h : isVer s = true) : s.length ≤ 48 := by
  unfold isVer verP at h
  split at h
  · cases h
  · omega
theorem mayAtom_len {a : Atom} (h : mayAtom a = true) : a.name.length ≤ 24 ∧ a.ver.length ≤ 48 := by
  unfold mayAtom at h
  rw [Bool.and_eq_true] at h
  refine ⟨nameOk_len h.1, ?_⟩
  have h2 := h.2
  split at h2
  · simp only [beq_iff_eq] at h2
    rw [h2]; simp
  · simp only [Bool.and_eq_true] at h2
    exact isVer_len h2.2
theorem atomT_len (a : Atom) : (atomT a).length ≤ 78 := by
  unfold atomT
  split
  · rename_i h
    obtain ⟨h1, h2⟩ := mayAtom_len h
    have h3 := signT_len a.rel
    split
    · omega
    · simp only [List.length_append, List.length_cons, List.length_nil]
      omega
  · simp
end Go.Av
namespace Go.Proofs.Tryz
open Go Go.Av
set_option maxRecDepth 10000
set_option linter.unusedSimpArgs false
set_option linter.unusedVariables false
variable {W0 : World}

theorem ve_sign (r : Int) : PureFn prog W0 75 [.int .i64 r] (.str (signT r)) := by
  refine fn_pure [2] [] func75 rfl rfl ntmps75 rfl rfl (.str _) fun hs σ => ?_
  simp only [go_sem, simprocAttr, ↓reduceIte]
  refine ⟨fun h => ?_, fun h => ⟨fun h2 => ?_, fun h2 => ⟨fun h3 => ?_, fun h3 => ⟨fun h4 => ?_, fun h4 => ⟨fun h5 => ?_, fun h5 => ?_⟩⟩⟩⟩⟩
  all_goals exact weak_str (by simp [signT, *])
theorem r4_Sign (r : Int) : PureFn prog W0 77 [.int .i64 r] (.str (signT r)) := by
  refine fn_pure [2] [] func77 rfl rfl ntmps77 rfl rfl (.str _) fun hs σ => ?_
  simp only [go_sem, simprocAttr, ↓reduceIte]
  refine ⟨fun h => ?_, fun h => ⟨fun h2 => ?_, fun h2 => ⟨fun h3 => ?_, fun h3 => ⟨fun h4 => ?_, fun h4 => ⟨fun h5 => ?_, fun h5 => ?_⟩⟩⟩⟩⟩
  all_goals exact weak_str (by simp [signT, *])
theorem rl_atom (a : Atom) : PureFn prog W0 45 [atomAV a] (.str (atomT a)) := by
  refine fn_pure [2] [1] func45 rfl rfl ntmps45 rfl rfl (.str _) fun hs σ => ?_
  simp only [go_sem, simprocAttr, ↓reduceIte, atomAV]
  refine CallA.fn (rl_mayAtom a) ?_
  cases hm : mayAtom a with
  | false =>
    simp only [go_sem, simprocAttr, ↓reduceIte]
    exact weak_str (by simp [atomT, hm])
  | true =>
    obtain ⟨l1, l2⟩ := mayAtom_len hm
    have l3 := signT_len a.rel
    have b1 : a.name.length + 2 ≤ maxLen := by rw [maxLen_eq]; omega
    have b2 : (a.name ++ [32, 40]).length + (signT a.rel).length ≤ maxLen := by rw [maxLen_eq]; simp only [List.length_append, List.length_cons, List.length_nil]; omega
    have b3 : ((a.name ++ [32, 40]) ++ signT a.rel).length + 1 ≤ maxLen := by rw [maxLen_eq]; simp only [List.length_append, List.length_cons, List.length_nil]; omega
    have b4 : (((a.name ++ [32, 40]) ++ signT a.rel) ++ [32]).length + a.ver.length ≤ maxLen := by rw [maxLen_eq]; simp only [List.length_append, List.length_cons, List.length_nil]; omega
    have b5 : ((((a.name ++ [32, 40]) ++ signT a.rel) ++ [32]) ++ a.ver).length + 1 ≤ maxLen := by rw [maxLen_eq]; simp only [List.length_append, List.length_cons, List.length_nil]; omega
    simp only [go_sem, simprocAttr, ↓reduceIte] at b2 b3 b4 b5
    simp only [go_sem, simprocAttr, ↓reduceIte, b1]
    refine ⟨fun h => weak_str (by simp [atomT, hm, h]), fun h => ⟨.of (by kernel_rfl), CallP.fn (ve_sign _) ?_⟩⟩
    simp only [go_sem, simprocAttr, ↓reduceIte, b1, b2, b3, b4, b5]
    refine weak_str ?_
    unfold atomT
    rw [if_pos hm, if_neg h]
    simp only [List.append_assoc, List.cons_append, List.nil_append]
theorem r4_Atom (a : Atom) : PureFn prog W0 48 [atomAV a] (.str (atomT a)) := by
  refine fn_pure [2] [1] func48 rfl rfl ntmps48 rfl rfl (.str _) fun hs σ => ?_
  simp only [go_sem, simprocAttr, ↓reduceIte, atomAV]
  refine CallA.fn (r4_mayAtom a) ?_
  cases hm : mayAtom a with
  | false =>
    simp only [go_sem, simprocAttr, ↓reduceIte]
    exact weak_str (by simp [atomT, hm])
  | true =>
    obtain ⟨l1, l2⟩ := mayAtom_len hm
    have l3 := signT_len a.rel
    have b1 : a.name.length + 2 ≤ maxLen := by rw [maxLen_eq]; omega
    have b2 : (a.name ++ [32, 40]).length + (signT a.rel).length ≤ maxLen := by rw [maxLen_eq]; simp only [List.length_append, List.length_cons, List.length_nil]; omega
    have b3 : ((a.name ++ [32, 40]) ++ signT a.rel).length + 1 ≤ maxLen := by rw [maxLen_eq]; simp only [List.length_append, List.length_cons, List.length_nil]; omega
    have b4 : (((a.name ++ [32, 40]) ++ signT a.rel) ++ [32]).length + a.ver.length ≤ maxLen := by rw [maxLen_eq]; simp only [List.length_append, List.length_cons, List.length_nil]; omega
    have b5 : ((((a.name ++ [32, 40]) ++ signT a.rel) ++ [32]) ++ a.ver).length + 1 ≤ maxLen := by rw [maxLen_eq]; simp only [List.length_append, List.length_cons, List.length_nil]; omega
    simp only [go_sem, simprocAttr, ↓reduceIte] at b2 b3 b4 b5
    simp only [go_sem, simprocAttr, ↓reduceIte, b1]
    refine ⟨fun h => weak_str (by simp [atomT, hm, h]), fun h => ⟨.of (by kernel_rfl), CallP.fn (r4_Sign _) ?_⟩⟩
    simp only [go_sem, simprocAttr, ↓reduceIte, b1, b2, b3, b4, b5]
    refine weak_str ?_
    unfold atomT
    rw [if_pos hm, if_neg h]
    simp only [List.append_assoc, List.cons_append, List.nil_append]
end Go.Proofs.Tryz
end
section
set_option linter.unusedSimpArgs false
set_option linter.unusedVariables false
namespace Go.Av
theorem joinL_snoc {l : List (List UInt8)} (x sep : List UInt8) (h : l ≠ []) : joinL (l ++ [x]) sep = joinL l sep ++ (sep ++ x) := by
  cases l with
  | nil => exact absurd rfl h
  | cons y r =>
    unfold joinL
    rw [List.cons_append, Lib.join_cons, Lib.join_cons, Lib.joinTail, Lib.joinTail]
    simp
theorem joinL_le {k : Nat} {sep : List UInt8} : ∀ {l : List (List UInt8)}, (∀ x ∈ l, x.length ≤ k) → (joinL l sep).length ≤ l.length * (k + sep.length)
  | [], _ => by simp [joinL, Lib.join_nil]
  | y :: r, h => by
    have hy := h y (by simp)
    have ht : ∀ (r : List (List UInt8)), (∀ x ∈ r, x.length ≤ k) → (Lib.joinTail sep r).length ≤ r.length * (k + sep.length) := fun r => by
      induction r with
      | nil => intro _; simp [Lib.joinTail]
      | cons z r ih =>
        intro h
        have h1 := ih fun x hx => h x (by simp [hx])
        have h2 := h z (by simp)
        unfold Lib.joinTail at h1 ⊢
        simp only [List.map_cons, List.flatten_cons, List.length_append, List.length_cons, Nat.succ_mul] at h1 ⊢
        omega
    have h1 := ht r fun x hx => h x (by simp [hx])
    unfold joinL
    rw [Lib.join_cons, List.length_append, List.length_cons, Nat.succ_mul]
    omega
/-- A clause that may stand in a relation. -/
def goodCl (c : Clause) : Bool := decide (c.length ≠ 0) && decide (c.length ≤ 6) && c.all mayAtom
def clT (c : Clause) : List UInt8 := joinL (c.map atomT) [32, 124, 32]
/-- The text of clauses; of those that may not be: none. -/
def textL (l : List Clause) : List UInt8 := if 12 < l.length ∨ l.all goodCl = false then [] else joinL (l.map clT) [44, 32]
theorem clT_len {c : Clause} (h : c.length ≤ 6) : (clT c).length ≤ 486 := by
  have := joinL_le (k := 78) (sep := [32, 124, 32]) (l := c.map atomT) fun x hx => by
    obtain ⟨a, _, rfl⟩ := List.mem_map.1 hx
    exact atomT_len a
  unfold clT
  simp only [List.length_map, List.length_cons, List.length_nil] at this
  have h2 : c.length * 81 ≤ 6 * 81 := Nat.mul_le_mul_right _ h
  omega
theorem good_len {c : Clause} (h : goodCl c = true) : c.length ≤ 6 := by
  unfold goodCl at h
  simp only [Bool.and_eq_true, decide_eq_true_eq] at h
  exact h.1.2
theorem joinC_len {l : List Clause} (h : l.all goodCl = true) (h12 : l.length ≤ 12) : (joinL (l.map clT) [44, 32]).length ≤ 5856 := by
  have := joinL_le (k := 486) (sep := [44, 32]) (l := l.map clT) fun x hx => by
    obtain ⟨c, hc, rfl⟩ := List.mem_map.1 hx
    exact clT_len (good_len (List.all_eq_true.1 h c hc))
  simp only [List.length_map, List.length_cons, List.length_nil] at this
  have h2 : l.length * 488 ≤ 12 * 488 := Nat.mul_le_mul_right _ h12
  omega
theorem textL_bad {l : List Clause} {c : Clause} (hc : c ∈ l) (h : goodCl c = false) : textL l = [] := by
  unfold textL
  rw [if_pos (.inr (List.all_eq_false.2 ⟨c, hc, by simp [h]⟩))]
end Go.Av
namespace Go.Proofs.Tryz
open Go Go.Av
set_option maxRecDepth 10000
set_option linter.unusedSimpArgs false
set_option linter.unusedVariables false
variable {W0 : World}

theorem rl_text (l : List Clause) : PureFn prog W0 44 [clausesAV l] (.str (textL l)) := by
  refine fn_pure [2] [8] func44 rfl rfl ntmps44 rfl rfl (.str _) fun hs σ => ?_
  simp only [go_sem, simprocAttr, ↓reduceIte, clausesAV, List.length_map]
  refine ⟨fun h12 => weak_str (by unfold textL; rw [if_pos (.inl (by omega))]), fun h12 => ?_⟩
  refine LoopVC.at [] (.of (by kernel_rfl)) (fun A => ∃ v, A.env 3 = v ∧ Built σ A.st v 9 (l.map fun c => .str (clT c)) ∧ l.all goodCl = true) ?_ fun B ⟨v, h3, hb, hg⟩ => ?_
  · refine LoopVC.upto [12, 13] (.of (by kernel_rfl)) l.length (fun i A => ∃ v, A.env 3 = v ∧ A.env 14 = .int .i64 i ∧ Built σ A.st v 9 ((l.take i).map fun c => .str (clT c)) ∧ (l.take i).all goodCl = true) 0 (Nat.zero_le _) ?_ fun i B hi ⟨v, h3, h14, hb, hg⟩ => ?_
    · simp only [go_sem, simprocAttr, ↓reduceIte]
      exact ⟨_, rfl, Built.nil (.refl _) _, by simp⟩
    have o1 := hb.ok
    have o2 := hb.un
    simp only [go_sem, simprocAttr, ↓reduceIte, h3, h14, o1, o2, List.length_map]
    refine ⟨fun hc => ⟨hc, ?_⟩, fun hc => ?_⟩
    · obtain ⟨c, hci⟩ := get_some hc
      have hcm := List.mem_of_getElem? hci
      simp only [go_sem, simprocAttr, ↓reduceIte, atV_map hci, atomsAV, List.length_map]
      refine ⟨fun hbad => ⟨weak_str ?_, hb.ext⟩, fun hlen => ?_⟩
      · refine (textL_bad hcm ?_).symm
        unfold goodCl
        simp only [Bool.or_eq_true, decide_eq_true_eq, beq_iff_eq] at hbad
        rcases hbad with h | h
        · rw [decide_eq_false (by omega)]; rfl
        · rw [decide_eq_false (show ¬ c.length ≤ 6 by omega), Bool.and_false]; rfl
      simp only [Bool.or_eq_false_iff, decide_eq_false_iff_not, beq_eq_false_iff_ne] at hlen
      refine LoopVC.ats [3, 12, 13, 14] (.of (by kernel_rfl)) (fun A => ∃ v, A.env 6 = v ∧ Built B.st A.st v 9 (c.map fun a => .str (atomT a)) ∧ c.all mayAtom = true) ?_ fun C ⟨v6, h6, hb6, hm⟩ => ?_
      · refine LoopVC.upto [3, 12, 13, 14, 26, 27] (.of (by kernel_rfl)) c.length (fun k A => ∃ v, A.env 6 = v ∧ A.env 28 = .int .i64 k ∧ Built B.st A.st v 9 ((c.take k).map fun a => .str (atomT a)) ∧ (c.take k).all mayAtom = true) 0 (Nat.zero_le _) ?_ fun k C hk ⟨v6, h6, h28, hb6, hm⟩ => ?_
        · simp only [go_sem, simprocAttr, ↓reduceIte]
          exact ⟨_, rfl, Built.nil (.refl _) _, by simp⟩
        have o3 := hb6.ok
        have o4 := hb6.un
        simp only [go_sem, simprocAttr, ↓reduceIte, h6, h28, o3, o4, List.length_map]
        refine ⟨fun hc2 => ⟨hc2, ?_⟩, fun hc2 => ?_⟩
        · obtain ⟨a, ha⟩ := get_some hc2
          simp only [go_sem, simprocAttr, ↓reduceIte, h6, h28, o3, o4, atV_map ha, atomAV]
          refine CallA.fn (rl_mayAtom a) ?_
          simp only [go_sem, simprocAttr, ↓reduceIte, h6, h28, o3, o4]
          refine ⟨fun hf => ⟨weak_str ?_, ?_⟩, fun ht => CallA.fn (rl_atom a) ?_⟩
          · refine (textL_bad hcm ?_).symm
            unfold goodCl
            rw [Bool.and_eq_false_iff]
            right
            rw [List.all_eq_false]
            exact ⟨a, List.mem_of_getElem? ha, by simp [hf]⟩
          · exact (hb.ext.trans hb6.ext).app _
          simp only [go_sem, simprocAttr, ↓reduceIte, h6, h28, o3, o4]
          refine AppA.ownS (σ := C.st ++ [none]) (by simp only [go_sem, simprocAttr, ↓reduceIte]) 1048576 (by kernel_rfl) (hb6.more [none]).bld (.lit _ _ _) (by simp; omega) fun v' σ' ha' => ?_
          have hb' := (hb6.more [none]).app ha'
          have o5 := hb'.ok
          have o6 := hb'.un
          simp only [go_sem, simprocAttr, ↓reduceIte, h6, h28, o5, o6]
          refine ⟨hc2, _, rfl, int_succ hc2 (by rw [maxLen_eq]; omega), ?_, ?_⟩
          · rw [take_succ_get ha, List.map_append]; exact hb'
          · rw [take_succ_get ha, List.all_append, hm]; simp [ht]
        · rw [List.take_of_length_le hc2] at hm hb6
          exact ⟨_, rfl, hb6, hm⟩
      have hgc : goodCl c = true := by
        unfold goodCl
        rw [hm, decide_eq_true (show c.length ≠ 0 by omega), decide_eq_true (show c.length ≤ 6 by omega)]
        rfl
      have o3 := hb6.ok
      have o4 := hb6.un
      have w6 : Weak v6 (strsAV (c.map atomT)) := by
        have := hb6.weak
        unfold strsAV
        rw [List.map_map]
        exact this
      have hl6 := clT_len (good_len hgc)
      simp only [go_sem, simprocAttr, ↓reduceIte, h3, h6, o3, o4]
      refine CallA.fn ((str_join (c.map atomT) [32, 124, 32] (by rw [List.length_map]; omega) (by unfold clT at hl6; omega)).weak (.cons w6 (.cons (.refl _) .nil))) ?_
      have hbo := hb.on hb6.ext
      have o5 := hbo.ok
      have o6 := hbo.un
      simp only [go_sem, simprocAttr, ↓reduceIte, h3, o5, o6]
      refine AppA.ownS (σ := C.st) (by simp only [go_sem, simprocAttr, ↓reduceIte]) 1048576 (by kernel_rfl) hbo.bld (.lit _ _ _) (by simp; omega) fun v' σ' ha' => ?_
      have hb' := hbo.app ha'
      have o7 := hb'.ok
      have o8 := hb'.un
      simp only [go_sem, simprocAttr, ↓reduceIte, h14, o7, o8]
      refine ⟨hc, _, rfl, int_succ hc (by rw [maxLen_eq]; omega), ?_, ?_⟩
      · rw [take_succ_get hci, List.map_append]; exact hb'
      · rw [take_succ_get hci, List.all_append, hg]; simp [hgc]
    · rw [List.take_of_length_le hc] at hb hg
      exact ⟨_, rfl, hb, hg⟩
  have o1 := hb.ok
  have o2 := hb.un
  have w3 : Weak v (strsAV (l.map clT)) := by
    have := hb.weak
    unfold strsAV
    rw [List.map_map]
    exact this
  have hl3 := joinC_len hg (by omega)
  simp only [go_sem, simprocAttr, ↓reduceIte, h3, o1, o2]
  refine CallA.fn ((str_join (l.map clT) [44, 32] (by rw [List.length_map]; omega) (by omega)).weak (.cons w3 (.cons (.refl _) .nil))) ?_
  simp only [go_sem, simprocAttr, ↓reduceIte]
  refine ⟨weak_str ?_, hb.ext⟩
  unfold textL
  rw [if_neg (by rw [hg]; simp; omega)]
end Go.Proofs.Tryz
end
section
set_option linter.unusedSimpArgs false
set_option linter.unusedVariables false
namespace Go.Proofs.Tryz
open Go Go.Av
set_option maxRecDepth 10000
set_option linter.unusedSimpArgs false
set_option linter.unusedVariables false
variable {W0 : World}

/-- What stands ahead of the next text. -/
def preL (l : List (List UInt8)) (sep : List UInt8) : List UInt8 := if l = [] then [] else joinL l sep ++ sep
theorem preL_app (l : List (List UInt8)) (x sep : List UInt8) : preL l sep ++ x = joinL (l ++ [x]) sep := by
  unfold preL
  split
  · rename_i h; subst h; rw [List.nil_append, List.nil_append, joinL_one]
  · rename_i h; rw [joinL_snoc x sep h, List.append_assoc]
theorem joinA_len (c : Clause) (h : c.length ≤ 6) : (joinL (c.map atomT) [32, 124, 32]).length ≤ 486 := clT_len h

theorem r4_text (l : List Clause) : PureFn prog W0 47 [clausesAV l] (.str (textL l)) := by
  refine fn_pure [2] [7] func47 rfl rfl ntmps47 rfl rfl (.str _) fun hs σ => ?_
  simp only [go_sem, simprocAttr, ↓reduceIte, clausesAV, List.length_map]
  refine ⟨fun h12 => weak_str (by unfold textL; rw [if_pos (.inl (by omega))]), fun h12 => ?_⟩
  refine LoopVC.at [] (.of (by kernel_rfl)) (fun A => A.env 3 = .str (joinL (l.map clT) [44, 32]) ∧ Ext σ A.st ∧ l.all goodCl = true) ?_ fun B ⟨h3, hst, hg⟩ => ?_
  · refine LoopVC.upto [11, 12] (.of (by kernel_rfl)) l.length (fun i A => A.env 3 = .str (joinL ((l.take i).map clT) [44, 32]) ∧ A.env 13 = .int .i64 i ∧ Ext σ A.st ∧ (l.take i).all goodCl = true) 0 (Nat.zero_le _) ?_ fun i B hi ⟨h3, h13, hst, hg⟩ => ?_
    · simp only [go_sem, simprocAttr, ↓reduceIte]
      simp [joinL_nil, Ext.refl]
    simp only [go_sem, simprocAttr, ↓reduceIte, h3, h13, List.length_map]
    refine ⟨fun hc => ⟨hc, ?_⟩, fun hc => ?_⟩
    · obtain ⟨c, hci⟩ := get_some hc
      have hcm := List.mem_of_getElem? hci
      have hj := joinC_len hg (by rw [List.length_take]; omega)
      generalize hJ : joinL ((l.take i).map clT) [44, 32] = J at hj h3
      have hbj : J.length + 2 ≤ maxLen := by rw [maxLen_eq]; omega
      simp only [go_sem, simprocAttr, ↓reduceIte, h3, h13, atV_map hci, atomsAV, List.length_map, hbj]
      refine JoinVC.at [5, 11, 12, 13] (by kernel_rfl) (fun A => A.env 3 = .str (preL ((l.take i).map clT) [44, 32]) ∧ Ext σ A.st) (fun h => ?_) (fun h => ?_) fun B2 ⟨h3, hst⟩ => ?_
      · simp only [go_sem, simprocAttr, ↓reduceIte, h3, hbj]
        refine ⟨?_, hst⟩
        unfold preL
        rw [if_neg, hJ]
        intro e
        have h1 := congrArg List.length e
        have h2 : 0 < i := by simpa using h
        rw [List.length_map, List.length_take, List.length_nil] at h1
        omega
      · simp only [go_sem, simprocAttr, ↓reduceIte, h3]
        refine ⟨?_, hst⟩
        have : i = 0 := by simpa using h
        subst this
        rw [← hJ]
        rfl
      have hpl : (preL ((l.take i).map clT) [44, 32]).length ≤ 5858 := by
        unfold preL
        split
        · simp
        · rw [hJ, List.length_append]; simp only [List.length_cons, List.length_nil]; omega
      generalize hP : preL ((l.take i).map clT) [44, 32] = pre at hpl h3
      simp only [go_sem, simprocAttr, ↓reduceIte, h3, List.length_map]
      refine ⟨fun hbad => ⟨weak_str ?_, hst⟩, fun hlen => ?_⟩
      · refine (textL_bad hcm ?_).symm
        unfold goodCl
        simp only [Bool.or_eq_true, decide_eq_true_eq, beq_iff_eq] at hbad
        rcases hbad with h | h
        · rw [decide_eq_false (by omega)]; rfl
        · rw [decide_eq_false (show ¬ c.length ≤ 6 by omega), Bool.and_false]; rfl
      simp only [Bool.or_eq_false_iff, decide_eq_false_iff_not, beq_eq_false_iff_ne] at hlen
      refine LoopVC.ats [11, 12, 13] (.of (by kernel_rfl)) (fun A => A.env 3 = .str (pre ++ clT c) ∧ Ext σ A.st ∧ c.all mayAtom = true) ?_ fun C ⟨h3, hst, hm⟩ => ?_
      · refine LoopVC.upto [11, 12, 13, 30, 31] (.of (by kernel_rfl)) c.length (fun k A => A.env 3 = .str (pre ++ joinL ((c.take k).map atomT) [32, 124, 32]) ∧ A.env 32 = .int .i64 k ∧ Ext σ A.st ∧ (c.take k).all mayAtom = true) 0 (Nat.zero_le _) ?_ fun k C hk ⟨h3, h32, hst, hm⟩ => ?_
        · simp only [go_sem, simprocAttr, ↓reduceIte, h3]
          simp [joinL_nil, hst]
        simp only [go_sem, simprocAttr, ↓reduceIte, h3, h32, List.length_map]
        refine ⟨fun hc2 => ⟨hc2, ?_⟩, fun hc2 => ?_⟩
        · obtain ⟨a, ha⟩ := get_some hc2
          have hj2 := joinA_len (c.take k) (by rw [List.length_take]; omega)
          generalize hJ2 : joinL ((c.take k).map atomT) [32, 124, 32] = J2 at hj2 h3
          have hb2 : pre.length + J2.length + 3 ≤ maxLen := by rw [maxLen_eq]; omega
          simp only [go_sem, simprocAttr, ↓reduceIte, h3, h32, atV_map ha, atomAV, List.length_append, hb2]
          refine JoinVC.at [7, 11, 12, 13, 30, 31, 32] (by kernel_rfl) (fun A => A.env 3 = .str (pre ++ preL ((c.take k).map atomT) [32, 124, 32]) ∧ Ext σ A.st) (fun h => ?_) (fun h => ?_) fun B3 ⟨h3, hst⟩ => ?_
          · simp only [go_sem, simprocAttr, ↓reduceIte, h3, List.length_append, hb2]
            refine ⟨?_, hst.app _⟩
            unfold preL
            rw [if_neg, hJ2]
            intro e
            have h1 := congrArg List.length e
            have h2 : 0 < k := by simpa using h
            rw [List.length_map, List.length_take, List.length_nil] at h1
            omega
          · simp only [go_sem, simprocAttr, ↓reduceIte, h3]
            refine ⟨?_, hst.app _⟩
            have : k = 0 := by simpa using h
            subst this
            rw [← hJ2]
            rfl
          have hpl2 : (preL ((c.take k).map atomT) [32, 124, 32]).length ≤ 489 := by
            unfold preL
            split
            · simp
            · rw [hJ2, List.length_append]; simp only [List.length_cons, List.length_nil]; omega
          have hal := atomT_len a
          have hpa := preL_app ((c.take k).map atomT) (atomT a) [32, 124, 32]
          generalize hP2 : preL ((c.take k).map atomT) [32, 124, 32] = pre2 at hpl2 h3 hpa
          simp only [go_sem, simprocAttr, ↓reduceIte, h3]
          refine CallA.fn (r4_mayAtom a) ?_
          simp only [go_sem, simprocAttr, ↓reduceIte, h3]
          refine ⟨fun hf => ⟨weak_str ?_, hst⟩, fun ht => CallA.fn (r4_Atom a) ?_⟩
          · refine (textL_bad hcm ?_).symm
            unfold goodCl
            rw [Bool.and_eq_false_iff]
            right
            rw [List.all_eq_false]
            exact ⟨a, List.mem_of_getElem? ha, by simp [hf]⟩
          have hb3 : pre.length + pre2.length + (atomT a).length ≤ maxLen := by rw [maxLen_eq]; omega
          simp only [go_sem, simprocAttr, ↓reduceIte, h3, h32, List.length_append, hb3]
          refine ⟨hc2, ?_, int_succ hc2 (by rw [maxLen_eq]; omega), hst, ?_⟩
          · rw [take_succ_get ha, List.map_append, List.map_singleton, ← hpa]
          · rw [take_succ_get ha, List.all_append, hm]; simp [ht]
        · rw [List.take_of_length_le hc2] at hm
          exact ⟨by rw [List.take_of_length_le hc2]; rfl, hst, hm⟩
      have hgc : goodCl c = true := by
        unfold goodCl
        rw [hm, decide_eq_true (show c.length ≠ 0 by omega), decide_eq_true (show c.length ≤ 6 by omega)]
        rfl
      simp only [go_sem, simprocAttr, ↓reduceIte, h13, h3]
      refine ⟨hc, ?_, int_succ hc (by rw [maxLen_eq]; omega), hst, ?_⟩
      · rw [take_succ_get hci, List.map_append, List.map_singleton, ← preL_app, hP]
      · rw [take_succ_get hci, List.all_append, hg]; simp [hgc]
    · rw [List.take_of_length_le hc] at hg
      exact ⟨by rw [List.take_of_length_le hc], hst, hg⟩
  simp only [go_sem, simprocAttr, ↓reduceIte, h3]
  refine ⟨weak_str ?_, hst⟩
  unfold textL
  rw [if_neg (by rw [hg]; simp; omega)]
end Go.Proofs.Tryz
end
