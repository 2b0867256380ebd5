/- Texts that the last one of this claim rests on: a layer over the guide's own conditions for code; contracts of the functions that the law reaches, one by one. No conditions beside those of the given rows. -/
import Derived.Test.YtnblgnafgdmcaaaGreatDoorWbo
import Derived.Test.YtnblgnafgdmcaaaGreatDoorWbp
section
set_option linter.unusedSimpArgs false
set_option linter.unusedVariables false
namespace Go.Av
/-- A list: by value, or a row that is whole. -/
def LstR (st : Store) (v : AV) (e : TypeId) (xs : List AV) : Prop := v = .sl e xs ∨ ∃ id, v = .row e id 0 xs.length ∧ st[id]? = some (some (.cells e xs))
/-- Where an element lies. -/
def slotV (e : TypeId) (xs : List AV) (i : Int) : AV → AV
  | .row _ id off _ => .ptr e id (off + i.toNat) []
  | _ => .loc e (atV xs i)
section
variable {σ st : Store} {v : AV} {e : TypeId} {xs : List AV}
theorem LstR.notM (h : LstR st v e xs) : NotM v := by
  rcases h with rfl | ⟨_, rfl, _⟩ <;> trivial
theorem LstR.ok (h : LstR st v e xs) (g : Option Bool) : okM g v = True := okM_notM h.notM
theorem LstR.un (h : LstR st v e xs) : unm v = v := unm_notM h.notM
theorem LstR.len (h : LstR st v e xs) : lenV v = .int .i64 xs.length := by
  rcases h with rfl | ⟨_, rfl, _⟩ <;> rfl
theorem LstR.ext (h : LstR σ v e xs) (hx : Ext σ st) : LstR st v e xs := by
  rcases h with h | ⟨id, h1, h2⟩
  · exact .inl h
  · exact .inr ⟨id, h1, by rw [(Fr.ext (F := []) hx).old id (List.getElem?_eq_some_iff.1 h2).1 (by simp)]; exact h2⟩
theorem LstR.lenC (h : LstR st v e xs) (P : Program) (t : TypeId) : lenC P t v = ((elT P t).isSome = true) := by
  rcases h with rfl | ⟨_, rfl, _⟩ <;> rfl
theorem LstR.idxV (h : LstR st v e xs) (P : Program) (t : TypeId) (i : Int) : indexAddrV P t i v = slotV e xs i v := by
  rcases h with rfl | ⟨_, rfl, _⟩ <;> rfl
theorem LstR.idxC (h : LstR st v e xs) (P : Program) (gd : Option Bool) (t : TypeId) (i : Int) : indexAddrC P gd st t i v = (elT P t = some e ∧ 0 < szOf P e ∧ imp gd (0 ≤ i ∧ i.toNat < xs.length)) := by
  rcases h with rfl | ⟨id, rfl, h⟩
  · rfl
  · refine propext ⟨fun ⟨h1, h2, h3, _⟩ => ⟨h1, h2, h3⟩, fun ⟨h1, h2, h3⟩ => ⟨h1, h2, h3, _, _, h⟩⟩
theorem slotV_ok (g : Option Bool) (e : TypeId) (xs : List AV) (i : Int) (v : AV) : okM g (slotV e xs i v) = True := by unfold slotV; split <;> rfl
theorem slotV_un (e : TypeId) (xs : List AV) (i : Int) (v : AV) : unm (slotV e xs i v) = slotV e xs i v := by unfold slotV; split <;> rfl
theorem LstR.ldV (h : LstR st v e xs) {i : Nat} {x : AV} (hx : xs[i]? = some x) : loadV st (slotV e xs i v) = x := by
  rcases h with rfl | ⟨id, rfl, h⟩
  · show atV xs i = x
    rw [atV, Int.toNat_natCast, hx]; rfl
  · simp only [slotV, loadV, Nat.zero_add, Int.toNat_natCast, look_id h, hx]
    rfl
theorem LstR.ldC (h : LstR st v e xs) {i : Nat} {x : AV} (hx : xs[i]? = some x) (gd : Option Bool) (t : TypeId) : loadC gd st t (slotV e xs i v) = (e = t) := by
  rcases h with rfl | ⟨id, rfl, h⟩
  · rfl
  · have hl : Av.look st id i [] = some x := by rw [look_id h, hx]; rfl
    refine propext ?_
    simp only [slotV, loadC, Nat.zero_add, Int.toNat_natCast, hl, Option.isSome_some]
    exact ⟨fun h => h.1, fun h => ⟨h, by cases gd <;> simp [imp]⟩⟩
end
end Go.Av
namespace Go.Proofs.Tryz
open Go Go.Av
set_option maxRecDepth 10000
set_option linter.unusedSimpArgs false
set_option linter.unusedVariables false
variable {W0 : World}

theorem ix_ints (l : List Int) (s : Int) : PureFn prog W0 64 [intsAV l, .int .i64 s] (.int .i64 (idxL (fun x => s == x) l)) := by
  refine fn_pure [4] [] func64 rfl rfl ntmps64 rfl rfl (.int _ _) fun hs σ => ?_
  have hl := (small_map (hs _ (List.mem_cons_self ..))).1
  simp only [go_sem, simprocAttr, ↓reduceIte, intsAV]
  refine LoopVC.upto [0, 1, 7] (.of (by kernel_rfl)) l.length (fun i A => A.env 8 = .int .i64 i ∧ A.st = σ ∧ ∀ a ∈ l.take i, (s == a) = false) 0 (Nat.zero_le _) ?_ fun i B hi ⟨h8, hst, hI⟩ => ?_
  · simp only [go_sem, simprocAttr, ↓reduceIte]
    all_goals simp
  simp only [go_sem, simprocAttr, ↓reduceIte, h8, hst, List.length_map]
  refine ⟨fun hc => ⟨hc, ?_⟩, fun hc => weak_int ?_⟩
  · obtain ⟨a, ha⟩ := get_some hc
    simp only [atV_map ha]
    simp only [go_sem, simprocAttr, ↓reduceIte, h8, hst]
    refine ⟨fun hq => weak_int (idxL_at (q := fun x => s == x) ha (by simpa using hq) hI).symm, fun hq => ⟨hc, int_succ hc hl, ?_⟩⟩
    rw [take_succ_get ha]
    intro b hb
    rcases List.mem_append.1 hb with hb | hb
    · simpa using hI b hb
    · rw [List.mem_singleton.1 hb]; simpa using hq
  · rw [idxL_none]
    rwa [List.take_of_length_le hc] at hI
theorem an_ints (l : List Int) (s : Int) : PureFn prog W0 33 [intsAV l, .int .i64 s] (.bool (l.any fun x => s == x)) := by
  refine fn_pure [4] [] func33 rfl rfl ntmps33 rfl rfl (.bool _) fun hs σ => ?_
  simp only [go_sem, simprocAttr, ↓reduceIte, intsAV]
  refine CallA.fn (ix_ints l s) ?_
  simp only [go_sem, simprocAttr, ↓reduceIte]
  exact weak_bool idxL_ge

theorem ex_isI (all : List Pkg) (c : Int × Int × Int) : PureFn prog W0 32 [pkgsAV all, causeI c] (.bool (isB all c)) := by
  obtain ⟨i, d, k⟩ := c
  by_cases hg : 0 ≤ i ∧ i < all.length ∧ 0 ≤ k
  case neg =>
    have hf : isB all (i, d, k) = false := by
      cases h : isB all (i, d, k) with
      | false => rfl
      | true =>
        obtain ⟨⟨a, b, c⟩, he, p, hp, _⟩ := isB_iff.1 h
        simp only [natI, Prod.mk.injEq] at he hp
        have := (List.getElem?_eq_some_iff.1 hp).1
        omega
    rw [hf]
    refine fn_pure [4] [3] func32 rfl rfl ntmps32 rfl rfl (.bool _) fun hs σ => ?_
    simp only [go_sem, simprocAttr, ↓reduceIte, pkgsAV, causeI, List.length_map]
    intro h
    exfalso
    simp only [Bool.or_eq_false_iff, decide_eq_false_iff_not] at h
    omega
  obtain ⟨g1, g2, g3⟩ := hg
  obtain ⟨i, rfl⟩ : ∃ n : Nat, i = n := ⟨i.toNat, by omega⟩
  obtain ⟨k, rfl⟩ : ∃ n : Nat, k = n := ⟨k.toNat, by omega⟩
  have hi : i < all.length := by omega
  obtain ⟨p, hp⟩ := get_some hi
  have hv : isB all ((i : Nat), d, (k : Nat)) = (decide ((k : Int) < (clI p d).length) || decide ((k : Int) < (atI p d).length)) := by
    rw [Bool.eq_iff_iff, Bool.or_eq_true, decide_eq_true_eq, decide_eq_true_eq]
    constructor
    · intro h
      obtain ⟨⟨a, b, c⟩, he, p', hp', h1, h2, h3⟩ := isB_iff.1 h
      simp only [natI, Prod.mk.injEq] at he hp' h1 h2 h3
      obtain ⟨e1, rfl, e3⟩ := he
      have ea : a = i := by omega
      have ec : c = k := by omega
      subst ea ec
      rw [hp] at hp'
      cases hp'
      obtain rfl | rfl | rfl | rfl : b = 1 ∨ b = 2 ∨ b = 3 ∨ b = 4 := by omega
      all_goals (simp [kindN] at h3; simp [clI, atI]; omega)
    · intro h
      have hd : d = 1 ∨ d = 2 ∨ d = 3 ∨ d = 4 := by
        refine Classical.byContradiction fun hn => ?_
        have n1 : ¬ d = 1 := fun e => hn (.inl e)
        have n2 : ¬ d = 2 := fun e => hn (.inr (.inl e))
        have n3 : ¬ d = 3 := fun e => hn (.inr (.inr (.inl e)))
        have n4 : ¬ d = 4 := fun e => hn (.inr (.inr (.inr e)))
        have c0 : clI p d = [] := by unfold clI; rw [if_neg n1, if_neg n2]
        have a0 : atI p d = [] := by unfold atI; rw [if_neg n3, if_neg n4]
        rw [c0, a0] at h
        simp only [List.length_nil] at h
        omega
      refine isB_iff.2 ⟨(i, d.toNat, k), ?_, p, hp, ?_, ?_, ?_⟩
      · have hdn : ((d.toNat : Nat) : Int) = d := by omega
        show (((i : Nat) : Int), ((d.toNat : Nat) : Int), ((k : Nat) : Int)) = _
        rw [hdn]
      · show 1 ≤ d.toNat
        omega
      · show d.toNat ≤ 4
        omega
      · rcases hd with rfl | rfl | rfl | rfl <;> (simp [clI, atI] at h; simp [kindN]; omega)
  rw [hv]
  refine fn_pure [4] [3] func32 rfl rfl ntmps32 rfl rfl (.bool _) fun hs σ => ?_
  have e1 : decide ((i : Int) < 0) = false := decide_eq_false (by omega)
  have e5 : decide ((k : Int) < 0) = false := decide_eq_false (by omega)
  simp only [go_sem, simprocAttr, ↓reduceIte, pkgsAV, causeI, List.length_map, e1, e5, atV_map hp]
  refine ⟨fun h => absurd hi (by omega), fun _ => ⟨.of (by kernel_rfl), hi, CallP.fn (ex_clauses p d) ?_⟩⟩
  simp only [go_sem, simprocAttr, ↓reduceIte, clausesAV, List.length_map]
  rw [atV_map hp]
  refine ⟨fun _ => hi, CallP.fnG (fun _ => ex_atoms p d) ?_⟩
  simp only [go_sem, simprocAttr, ↓reduceIte, atomsAV, List.length_map]
theorem ex_holds1 (all : List Pkg) {i j : Int} (hi : 0 ≤ i ∧ i < all.length) (hj : 0 ≤ j ∧ j < all.length) : PureFn prog W0 31 [.int .i64 j, .loc 22 (pkgsAV all), .loc 3 (.int .i64 i)] (.bool (decide (nameI all j = nameI all i))) := by
  obtain ⟨i, rfl⟩ : ∃ n : Nat, i = n := ⟨i.toNat, by omega⟩
  obtain ⟨j, rfl⟩ : ∃ n : Nat, j = n := ⟨j.toNat, by omega⟩
  have hil : i < all.length := by omega
  have hjl : j < all.length := by omega
  obtain ⟨p, hp⟩ := get_some hil
  obtain ⟨q, hq⟩ := get_some hjl
  have en : decide (nameI all j = nameI all i) = (q.name == p.name) := by
    rw [Bool.eq_iff_iff]
    simp [nameI, nameO, hp, hq]
  rw [en]
  refine fn_pure [4] [1, 2] func31 rfl rfl ntmps31 rfl rfl (.bool _) fun hs σ => ?_
  simp only [go_sem, simprocAttr, ↓reduceIte, pkgsAV, List.length_map, atV_map hp, atV_map hq, pkgAV]
  exact ⟨.of (by kernel_rfl), hjl, hil⟩
theorem ex_holds2 (t : List Int) (m : Nat) : PureFn prog W0 35 [eN m, .loc 37 (intsAV t)] (.bool (!t.any fun x => (m : Int) == x)) := by
  refine fn_pure [3] [1] func35 rfl rfl ntmps35 rfl rfl (.bool _) fun hs σ => ?_
  simp only [go_sem, simprocAttr, ↓reduceIte, eN, intsAV]
  refine CallA.fn (an_ints t m) ?_
  simp only [go_sem, simprocAttr, ↓reduceIte]
  try exact .refl _
theorem ex_holds3 (c : Int × Int × Int) (m : Nat) : PureFn prog W0 36 [eN m, .loc 40 (causeI c)] (.bool (decide ((m : Int) ≠ c.1))) := by
  refine fn_pure [3] [1] func36 rfl rfl ntmps36 rfl rfl (.bool _) fun hs σ => ?_
  simp only [go_sem, simprocAttr, ↓reduceIte, eN, causeI]
  refine weak_bool ?_
  rw [Bool.eq_iff_iff]
  simp

theorem holdsI_under {all : List Pkg} {e : List (Int × Int × Int)} {t : List Nat} {c : Nat × Nat × Nat} (hc : natI c ∈ e) (ht : c.1 ∈ t) (h : underC all c t = false) : holdsI all e (t.map fun j : Nat => (j : Int)) = false := by
  have h4 : (t.map fun j : Nat => (j : Int)).map Int.toNat = t := by
    rw [List.map_map]
    exact (List.map_congr_left fun c _ => by simp).trans (List.map_id t)
  have h5 : c ∈ e.map fun c => (c.1.toNat, c.2.1.toNat, c.2.2.toNat) := List.mem_map.2 ⟨_, hc, by simp [natI]⟩
  rw [holdsI, h4]
  have : underP all (e.map fun c => (c.1.toNat, c.2.1.toNat, c.2.2.toNat)) t = false := by
    unfold underP
    rw [Bool.and_eq_false_iff]
    right
    rw [List.all_eq_false]
    exact ⟨c, h5, by simp [ht, h]⟩
  rw [this, Bool.and_false]

theorem ex_holdsG (all : List Pkg) (e : List (Int × Int × Int)) (t : List Int) (hal : all.length ≤ 1000000) (hn : t.length ≤ 1048576) (hel : e.length ≤ 1048576) {v : AV} (σ : Store) (hv : LstR σ v 40 (e.map causeI)) : ACall prog W0 17 [pkgsAV all, v, intsAV t] σ fun r σ' => r = .bool (holdsI all e t) ∧ σ' = σ := by
  refine fn_st [6] [3, 5, 8, 10] func17 rfl rfl ntmps17 rfl rfl (.bool _) fun hs => ?_
  simp only [go_sem, simprocAttr, ↓reduceIte, pkgsAV, intsAV, List.length_map]
  refine LoopVC.at [1, 3, 5] (.of (by kernel_rfl)) (fun A => Ext σ A.st ∧ inR all t ∧ t.Pairwise fun x y => nameI all x ≠ nameI all y) ?_ fun B ⟨hst, hR, hP⟩ => ?_
  · refine LoopVC.upto [1, 3, 5, 12, 13] (.of (by kernel_rfl)) t.length (fun b A => A.env 14 = .int .i64 b ∧ Ext σ A.st ∧ inR all (t.take b) ∧ (t.take b).Pairwise fun x y => nameI all x ≠ nameI all y) 0 (Nat.zero_le _) ?_ fun b B hb ⟨h14, hst, hR, hP⟩ => ?_
    · simp only [go_sem, simprocAttr, ↓reduceIte]
      exact ⟨.refl _, fun x hx => by simp at hx, by simp⟩
    simp only [go_sem, simprocAttr, ↓reduceIte, h14, List.length_map]
    refine ⟨fun hb2 => ⟨hb2, ?_⟩, fun hb2 => ?_⟩
    · obtain ⟨i, hi⟩ := get_some hb2
      have hlen : (t.take b).length = b := by rw [List.length_take]; omega
      by_cases hil : 0 ≤ i ∧ i < all.length
      case neg =>
        have ho : (decide (i < 0) || decide ((all.length : Int) ≤ i)) = true := by
          simp only [Bool.or_eq_true, decide_eq_true_eq]
          omega
        simp only [go_sem, simprocAttr, ↓reduceIte, h14, atV_map hi, List.length_map, ho]
        refine CallP.fnG (r := .bool false) (fun h => (Bool.false_ne_true h).elim) ?_
        simp only [go_sem, simprocAttr, ↓reduceIte]
        refine EndR.ret ?_
        simp only [go_sem, simprocAttr, ↓reduceIte]
        exact ⟨weak_bool (holdsI_out (List.mem_of_getElem? hi) (by omega)).symm, hst.app _⟩
      have e1 : decide (i < 0) = false := decide_eq_false (by omega)
      have e2 : decide ((all.length : Int) ≤ i) = false := decide_eq_false (by omega)
      simp only [go_sem, simprocAttr, ↓reduceIte, h14, atV_map hi, List.length_map, e1, e2]
      rw [← List.map_take]
      refine ⟨⟨Nat.zero_le _, hb⟩, CallP.fnG (fun _ => anInt (.int .i64) NotM.int64 (t.take b) (fun j => decide (nameI all j = nameI all i)) 31 [.loc 22 (pkgsAV all), .loc 3 (.int .i64 i)] (fun j hj => ex_holds1 all hil (hR j hj))) ?_⟩
      simp only [go_sem, simprocAttr, ↓reduceIte, h14]
      refine ⟨fun hd => EndR.ret ?_, fun hd => ⟨hb2, int_succ hb2 (by rw [maxLen_eq]; omega), hst.app _, fun x hx => ?_, (pair_take hi).2 ⟨hP, fun y hy hyn => ?_⟩⟩⟩
      · simp only [go_sem, simprocAttr, ↓reduceIte]
        refine ⟨weak_bool ?_, hst.app _⟩
        obtain ⟨j, hj, hjn⟩ := List.any_eq_true.1 hd
        exact (holdsI_dup hi hj (by simpa using hjn)).symm
      · rw [take_succ_get hi] at hx
        rcases List.mem_append.1 hx with h1 | h1
        · exact hR x h1
        · rw [List.mem_singleton.1 h1]; exact hil
      · have := List.any_eq_false.1 hd y hy
        simp [hyn] at this
    · rw [List.take_of_length_le hb2] at hP hR
      exact ⟨hst, hR, hP⟩
  obtain ⟨tn, rfl, htn⟩ := inR_nat hR
  rw [List.length_map] at hn
  have hP2 : tn.Pairwise fun x y => nameO all x ≠ nameO all y := by
    rw [List.pairwise_map] at hP
    exact hP
  clear hP hR
  have v1 := hv.ok
  have v2 := hv.un
  have v3 := hv.len
  have v4 := hv.lenC
  generalize hT : (tn.map fun j : Nat => (j : Int)) = t at *
  simp only [go_sem, simprocAttr, ↓reduceIte, v1, v2, v3, v4, List.length_map]
  refine LoopVC.upto [3, 5, 35, 36] (.of (by kernel_rfl)) e.length (fun b A => A.env 37 = .int .i64 b ∧ Ext σ A.st ∧ ∀ c ∈ e.take b, isB all c = true ∧ ∀ d, natI d = c → d.1 ∈ tn → underC all d tn = true) 0 (Nat.zero_le _) ?_ fun b B hb ⟨h37, hst, hI⟩ => ?_
  · simp only [go_sem, simprocAttr, ↓reduceIte]
    exact ⟨hst, fun c hc => by simp at hc⟩
  simp only [go_sem, simprocAttr, ↓reduceIte, h37, v1, v2, List.length_map]
  refine ⟨fun hb2 => ?_, fun hb2 => ?_⟩
  · obtain ⟨c, hc⟩ := get_some hb2
    have hB := hv.ext hst
    have hcm : (e.map causeI)[b]? = some (causeI c) := by rw [List.getElem?_map, hc]; rfl
    have v5 := hB.idxV
    have v6 := hB.idxC
    have v7 := hB.ldV hcm
    have v8 := hB.ldC hcm
    simp only [go_sem, simprocAttr, ↓reduceIte, h37, v1, v2, v5, v6, slotV_ok, slotV_un, v7, v8, causeI, List.length_map]
    refine ⟨hb2, ?_⟩
    refine CallA.fn (ex_isI all c) ?_
    simp only [go_sem, simprocAttr, ↓reduceIte, h37]
    refine ⟨fun hf => EndR.ret ?_, fun hvc => ?_⟩
    · simp only [go_sem, simprocAttr, ↓reduceIte]
      exact ⟨weak_bool (holdsI_bad (List.mem_of_getElem? hc) hf).symm, hst.app _⟩
    obtain ⟨d, rfl, hdv⟩ := isB_iff.1 hvc
    refine CallA.fn (an_ints t (natI d).1) ?_
    have hany : (t.any fun x => (natI d).1 == x) = decide (d.1 ∈ tn) := by
      rw [Bool.eq_iff_iff, List.any_eq_true, decide_eq_true_eq, ← hT]
      constructor
      · rintro ⟨x, hx, h1⟩
        obtain ⟨j, hj, rfl⟩ := List.mem_map.1 hx
        have : j = d.1 := by
          have := beq_iff_eq.1 h1
          simp only [natI] at this
          omega
        rw [← this]; exact hj
      · intro h
        exact ⟨_, List.mem_map.2 ⟨d.1, h, rfl⟩, by simp [natI]⟩
    rw [hany]
    simp only [go_sem, simprocAttr, ↓reduceIte, h37]
    have hnew : (d.1 ∈ tn → underC all d tn = true) → ∀ c ∈ e.take (b + 1), isB all c = true ∧ ∀ d, natI d = c → d.1 ∈ tn → underC all d tn = true := fun h c hc2 => by
      rw [take_succ_get hc] at hc2
      rcases List.mem_append.1 hc2 with h1 | h1
      · exact hI c h1
      · rw [List.mem_singleton.1 h1]
        refine ⟨hvc, fun d' hd' => ?_⟩
        have : d' = d := by
          obtain ⟨a1, a2, a3⟩ := d
          obtain ⟨b1, b2, b3⟩ := d'
          simp only [natI, Prod.mk.injEq] at hd'
          have g1 : b1 = a1 := by omega
          have g2 : b2 = a2 := by omega
          have g3 : b3 = a3 := by omega
          rw [g1, g2, g3]
        rw [this]
        exact h
    refine ⟨fun hno => ⟨hb2, int_succ hb2 (by rw [maxLen_eq]; omega), hst.app _, hnew fun h => absurd h hno⟩, fun hin => ?_⟩
    refine CallA.goes (by simp only [go_sem, simprocAttr, ↓reduceIte]) (ex_meetsR all hdv hal (B.st ++ [none])) fun r σ1 ⟨hx1, hr1⟩ => ?_
    have q1 := hr1.rs.ok
    have q2 := hr1.rs.un
    simp only [go_sem, simprocAttr, ↓reduceIte, q1, q2]
    refine CallA.goes (by simp only [go_sem, simprocAttr, ↓reduceIte]) (sl_delInt (l := meetsL all d) hx1 hr1 (fun m => !t.any fun x => (m : Int) == x) 35 [.loc 37 (intsAV t)] (fun m _ => ex_holds2 t m)) fun r σ2 ⟨hx2, hr2⟩ => ?_
    have hth : ((meetsL all d).filter fun m : Nat => !!t.any fun x => (m : Int) == x) = there all d tn := by
      unfold there
      refine List.filter_congr fun m _ => ?_
      rw [Bool.not_not, Bool.eq_iff_iff, List.any_eq_true, decide_eq_true_eq, ← hT]
      constructor
      · rintro ⟨x, hx, h1⟩
        obtain ⟨j, hj, rfl⟩ := List.mem_map.1 hx
        have : j = m := by have := beq_iff_eq.1 h1; omega
        rw [← this]; exact hj
      · intro h
        exact ⟨_, List.mem_map.2 ⟨m, h, rfl⟩, by simp⟩
    rw [hth] at hr2
    subst hr2
    have hst2 : Ext σ σ2 := (hst.app [none]).trans hx2
    have hut := under_there htn hdv
    have hk1 : ((natI d).2.1 == 1) = decide (d.2.1 = 1) := by rw [Bool.eq_iff_iff]; simp [natI]; omega
    have hk2 : ((natI d).2.1 == 2) = decide (d.2.1 = 2) := by rw [Bool.eq_iff_iff]; simp [natI]; omega
    simp only [go_sem, simprocAttr, ↓reduceIte, h37, nlAV, hk1, hk2, List.length_map]
    have hfalse : underC all d tn = false → holdsI all e t = false := fun h => by
      rw [← hT]
      exact holdsI_under (List.mem_of_getElem? hc) hin h
    refine ⟨fun hk => ⟨fun h0 => EndR.ret ?_, fun h0 => ⟨hb2, int_succ hb2 (by rw [maxLen_eq]; omega), hst2, hnew fun _ => ?_⟩⟩, fun hk => ?_⟩
    · simp only [go_sem, simprocAttr, ↓reduceIte]
      refine ⟨weak_bool (hfalse ?_).symm, hst2⟩
      rw [hut, if_pos (by simpa using hk), decide_eq_true (by omega)]
      rfl
    · rw [hut, if_pos (by simpa using hk), decide_eq_false (by omega)]
      rfl
    have hk3 : ¬ (d.2.1 = 1 ∨ d.2.1 = 2) := by
      simpa using hk
    rw [if_neg hk3] at hut
    refine CallA.fn (anInt eN NotM.eN (there all d tn) (fun m => decide ((m : Int) ≠ (natI d).1)) 36 [.loc 40 (causeI (natI d))] (fun m _ => ex_holds3 _ m)) ?_
    have hq : ((there all d tn).any fun m : Nat => decide ((m : Int) ≠ (natI d).1)) = !underC all d tn := by
      rw [hut, Bool.not_not]
      refine congrArg _ (funext fun m => decide_eq_decide.2 (not_congr ?_))
      show (m : Int) = (d.1 : Nat) ↔ m = d.1
      omega
    rw [hq]
    simp only [go_sem, simprocAttr, ↓reduceIte, h37]
    refine ⟨fun h => EndR.ret ?_, fun h => ⟨hb2, int_succ hb2 (by rw [maxLen_eq]; omega), hst2, hnew fun _ => by simpa using h⟩⟩
    simp only [go_sem, simprocAttr, ↓reduceIte]
    exact ⟨weak_bool (hfalse (by simpa using h)).symm, hst2⟩
  · refine EndR.ret ?_
    simp only [go_sem, simprocAttr, ↓reduceIte]
    refine ⟨weak_bool ?_, hst⟩
    rw [List.take_of_length_le hb2] at hI
    obtain ⟨en, rfl, hen⟩ := isB_nat fun c hc => (hI c hc).1
    rw [← hT, holdsI_nat htn hen]
    unfold underP
    rw [decide_eq_true hP2, Bool.true_and, eq_comm, List.all_eq_true]
    intro c hc
    by_cases hin : c.1 ∈ tn
    · rw [decide_eq_true hin, (hI _ (List.mem_map.2 ⟨c, hc, rfl⟩)).2 c rfl hin]
      rfl
    · rw [decide_eq_false hin]
      rfl
theorem ex_holds (all : List Pkg) (e : List (Int × Int × Int)) (t : List Int) (hal : all.length ≤ 1000000) (hn : t.length ≤ 1048576) (hel : e.length ≤ 1048576) : PureFn prog W0 17 [pkgsAV all, causesI e, intsAV t] (.bool (holdsI all e t)) := fun σ => ex_holdsG all e t hal hn hel σ (.inl rfl)
end Go.Proofs.Tryz
end
section
set_option linter.unusedSimpArgs false
set_option linter.unusedVariables false
namespace Go.Proofs.Tryz
open Go Go.Av
set_option maxRecDepth 10000
set_option linter.unusedSimpArgs false
set_option linter.unusedVariables false
variable {W0 : World}

theorem r10_UnderG (all : List Pkg) (e : List (Int × Int × Int)) (t : List Int) (hn : t.length ≤ 1048576) (hl : ∀ p ∈ all, p.con.length ≤ 1000) (hel : e.length ≤ 1048576) {v : AV} (σ : Store) (hv : LstR σ v 40 (e.map causeI)) : ACall prog W0 18 [pkgsAV all, v, intsAV t] σ fun r σ' => r = .bool (holdsI all e t) ∧ σ' = σ := by
  refine fn_st [6] [12, 14] func18 rfl rfl ntmps18 rfl rfl (.bool _) fun hs => ?_
  have v1 := hv.ok
  have v2 := hv.un
  have v3 := hv.len
  have v4 := hv.lenC
  simp only [go_sem, simprocAttr, ↓reduceIte, pkgsAV, intsAV, v1, v2, List.length_map]
  refine LoopVC.at [0, 1, 2] (.of (by kernel_rfl)) (fun A => Ext σ A.st ∧ inR all t ∧ t.Pairwise fun x y => nameI all x ≠ nameI all y) ?_ fun B ⟨hst, hR, hP⟩ => ?_
  · refine LoopVC.upto [0, 1, 2, 17, 18] (.of (by kernel_rfl)) t.length (fun b A => A.env 19 = .int .i64 b ∧ Ext σ A.st ∧ inR all (t.take b) ∧ (t.take b).Pairwise fun x y => nameI all x ≠ nameI all y) 0 (Nat.zero_le _) ?_ fun b B hb ⟨h19, hst, hR, hP⟩ => ?_
    · simp only [go_sem, simprocAttr, ↓reduceIte]
      exact ⟨.refl _, fun x hx => by simp at hx, by simp⟩
    simp only [go_sem, simprocAttr, ↓reduceIte, h19, List.length_map]
    refine ⟨fun hb2 => ?_, fun hb2 => ?_⟩
    · obtain ⟨i, hi⟩ := get_some hb2
      simp only [go_sem, simprocAttr, ↓reduceIte, h19, atV_map hi, List.length_map]
      have hlen : (t.take b).length = b := by rw [List.length_take]; omega
      simp only [← List.map_take, List.length_map, hlen]
      refine ⟨hb2, fun h => EndR.ret ?_, fun h => ⟨⟨Nat.zero_le _, hb⟩, ?_⟩⟩
      · simp only [go_sem, simprocAttr, ↓reduceIte]
        refine ⟨weak_bool (holdsI_out (List.mem_of_getElem? hi) ?_).symm, hst⟩
        simp only [Bool.or_eq_true, decide_eq_true_eq] at h
        omega
      have hil : 0 ≤ i ∧ i < all.length := by
        simp only [Bool.or_eq_false_iff, decide_eq_false_iff_not] at h
        omega
      obtain ⟨p, hp⟩ := get_some (l := all) (show i.toNat < all.length by omega)
      have hit : ((i.toNat : Nat) : Int) = i := by omega
      refine LoopVC.ats [0, 1, 2, 17, 18, 19] (.of (by kernel_rfl)) (fun A => Ext σ A.st ∧ ∀ y ∈ t.take b, nameI all y ≠ nameI all i) ?_ fun C ⟨hst, hQ⟩ => ?_
      · refine LoopVC.upto [0, 1, 2, 8, 17, 18, 19, 34, 35] (.of (by kernel_rfl)) b (fun a A => A.env 36 = .int .i64 a ∧ Ext σ A.st ∧ ∀ y ∈ (t.take b).take a, nameI all y ≠ nameI all i) 0 (Nat.zero_le _) ?_ fun a C ha ⟨h36, hst, hQ⟩ => ?_
        · simp only [go_sem, simprocAttr, ↓reduceIte]
          exact ⟨hst, fun y hy => by simp at hy⟩
        simp only [go_sem, simprocAttr, ↓reduceIte, h36]
        refine ⟨fun ha2 => ?_, fun ha2 => ?_⟩
        · obtain ⟨j, hj⟩ := get_some (l := t.take b) (show a < (t.take b).length by rw [hlen]; exact ha2)
          have hjt : j ∈ t := List.mem_of_mem_take (List.mem_of_getElem? hj)
          have hjl := hR j (List.mem_of_getElem? hj)
          obtain ⟨q, hq⟩ := get_some (l := all) (show j.toNat < all.length by omega)
          have aq : atV (all.map pkgAV) j = pkgAV q := by have := atV_map (f := pkgAV) hq; rwa [show ((j.toNat : Nat) : Int) = j by omega] at this
          have ap : atV (all.map pkgAV) i = pkgAV p := by have := atV_map (f := pkgAV) hp; rwa [hit] at this
          have n1 : i.toNat < all.length := by omega
          have n2 : j.toNat < all.length := by omega
          simp only [go_sem, simprocAttr, ↓reduceIte, h36, atV_map hj, hlen, List.length_map, aq, ap, pkgAV, hil.1, hjl.1, n1, n2]
          have en : nameI all j = nameI all i ↔ q.name = p.name := by simp [nameI, nameO, hq, hp]
          refine ⟨ha2, .of (by kernel_rfl), fun h => EndR.ret ?_, fun h => ⟨ha2, int_succ ha2 (by rw [maxLen_eq]; omega), hst, fun y hy => ?_⟩⟩
          · simp only [go_sem, simprocAttr, ↓reduceIte]
            refine ⟨weak_bool ?_, hst⟩
            rw [holdsI_dup hi (List.mem_of_getElem? hj)]
            rcases (Bool.or_eq_true _ _ ▸ h : _ = true ∨ _ = true) with h | h
            · have : j = i := eq_of_beq h
              rw [this]
            · exact en.2 (by simpa using h)
          · rw [take_succ_get hj] at hy
            rcases List.mem_append.1 hy with h1 | h1
            · exact hQ y h1
            · rw [List.mem_singleton.1 h1, en]
              intro h2
              simp [h2] at h
        · rw [List.take_of_length_le (by omega)] at hQ
          exact ⟨hst, hQ⟩
      simp only [go_sem, simprocAttr, ↓reduceIte, h19]
      refine ⟨hb2, int_succ hb2 (by rw [maxLen_eq]; omega), hst, fun x hx => ?_, (pair_take hi).2 ⟨hP, hQ⟩⟩
      rw [take_succ_get hi] at hx
      rcases List.mem_append.1 hx with h1 | h1
      · exact hR x h1
      · rw [List.mem_singleton.1 h1]; exact hil
    · rw [List.take_of_length_le hb2] at hP hR
      exact ⟨hst, hR, hP⟩
  simp only [go_sem, simprocAttr, ↓reduceIte, v1, v2, v3, v4, List.length_map]
  refine LoopVC.at [0, 1, 2] (.of (by kernel_rfl)) (fun A => Ext σ A.st ∧ ∀ c ∈ e, isB all c = true) ?_ fun B ⟨hst, hE⟩ => ?_
  · refine LoopVC.upto [0, 1, 2, 58, 59] (.of (by kernel_rfl)) e.length (fun b A => A.env 60 = .int .i64 b ∧ Ext σ A.st ∧ ∀ c ∈ e.take b, isB all c = true) 0 (Nat.zero_le _) ?_ fun b B hb ⟨h60, hst, hE⟩ => ?_
    · simp only [go_sem, simprocAttr, ↓reduceIte]
      exact ⟨hst, fun c hc => by simp at hc⟩
    simp only [go_sem, simprocAttr, ↓reduceIte, h60, v1, v2, List.length_map]
    refine ⟨fun hb2 => ?_, fun hb2 => ⟨hst, by rw [List.take_of_length_le hb2] at hE; exact hE⟩⟩
    obtain ⟨c, hc⟩ := get_some hb2
    have hB := hv.ext hst
    have hcm : (e.map causeI)[b]? = some (causeI c) := by rw [List.getElem?_map, hc]; rfl
    have v5 := hB.idxV
    have v6 := hB.idxC
    have v7 := hB.ldV hcm
    have v8 := hB.ldC hcm
    simp only [go_sem, simprocAttr, ↓reduceIte, h60, v1, v2, v5, v6, slotV_ok, slotV_un, v7, v8, causeI, List.length_map]
    refine ⟨hb2, CallA.fn (r10_isI all c) ?_⟩
    simp only [go_sem, simprocAttr, ↓reduceIte, h60]
    refine ⟨fun hf => EndR.ret (by simp only [go_sem, simprocAttr, ↓reduceIte]; exact ⟨weak_bool (holdsI_bad (List.mem_of_getElem? hc) hf).symm, hst.app _⟩), fun ht => ⟨hb2, int_succ hb2 (by rw [maxLen_eq]; omega), hst.app _, fun x hx => ?_⟩⟩
    rw [take_succ_get hc] at hx
    rcases List.mem_append.1 hx with h1 | h1
    · exact hE x h1
    · rw [List.mem_singleton.1 h1]; exact ht
  obtain ⟨tn, rfl, htn⟩ := inR_nat hR
  obtain ⟨en, rfl, hen⟩ := isB_nat hE
  rw [holdsI_nat htn hen]
  have hP2 : tn.Pairwise fun x y => nameO all x ≠ nameO all y := by
    rw [List.pairwise_map] at hP
    exact hP
  rw [List.length_map] at hn hel
  have ec : (en.map natI).map causeI = en.map causeAV := by rw [List.map_map]; rfl
  rw [ec] at hv v3
  clear hP hR hE ec
  generalize tn = t at *
  generalize en = e at *
  have ht := htn
  have he := hen
  have hP := hP2
  have et : (t.map fun j : Nat => (j : Int)).map (AV.int .i64) = t.map fun k : Nat => AV.int .i64 (k : Nat) := by rw [List.map_map]; rfl
  simp only [go_sem, simprocAttr, ↓reduceIte, v1, v2, v3, v4, intsAV, List.length_map, et]
  refine LoopVC.at [] (.of (by kernel_rfl)) (fun A => Ext σ A.st ∧ ∀ c ∈ e, (!decide (c.1 ∈ t) || underC all c t) = true) ?_ fun B ⟨hst, hQ⟩ => ?_
  · refine LoopVC.upto [0, 2, 69, 70] (.of (by kernel_rfl)) e.length (fun b A => A.env 71 = .int .i64 b ∧ Ext σ A.st ∧ ∀ c ∈ e.take b, (!decide (c.1 ∈ t) || underC all c t) = true) 0 (Nat.zero_le _) ?_ fun b B hb ⟨h71, hst, hQ⟩ => ?_
    · simp only [go_sem, simprocAttr, ↓reduceIte]
      exact ⟨hst, fun c hc => by simp at hc⟩
    simp only [go_sem, simprocAttr, ↓reduceIte, h71, v1, v2, List.length_map]
    refine ⟨fun hb2 => ?_, fun hb2 => ?_⟩
    · obtain ⟨c, hc⟩ := get_some hb2
      have hB := hv.ext hst
      have hcm : (e.map causeAV)[b]? = some (causeAV c) := by rw [List.getElem?_map, hc]; rfl
      have v5 := hB.idxV
      have v6 := hB.idxC
      have v7 := hB.ldV hcm
      have v8 := hB.ldC hcm
      have hv := he c (List.mem_of_getElem? hc)
      have hcall := r10_underC (W0 := W0) all t ht hn hl hv
      simp only [go_sem, simprocAttr, ↓reduceIte, h71, v1, v2, v5, v6, slotV_ok, slotV_un, v7, v8, causeAV, nlAV, List.length_map]
      refine ⟨hb2, ?_⟩
      refine LoopVC.ats [0, 2, 69, 70, 71] (.of (by kernel_rfl)) (fun A => Ext σ A.st ∧ (!decide (c.1 ∈ t) || underC all c t) = true) ?_ fun C ⟨hst, hR⟩ => ?_
      · refine LoopVC.upto [0, 2, 14, 69, 70, 71, 75, 76] (.of (by kernel_rfl)) t.length (fun a A => A.env 77 = .int .i64 a ∧ Ext σ A.st ∧ (c.1 ∈ t.take a → underC all c t = true)) 0 (Nat.zero_le _) ?_ fun a C ha ⟨h77, hst, hR⟩ => ?_
        · simp only [go_sem, simprocAttr, ↓reduceIte]
          exact ⟨hst.app _, fun h => by simp at h⟩
        simp only [go_sem, simprocAttr, ↓reduceIte, h77, List.length_map]
        refine ⟨fun ha2 => ?_, fun ha2 => ?_⟩
        · obtain ⟨j, hj⟩ := get_some ha2
          simp only [go_sem, simprocAttr, ↓reduceIte, h77, atV_map hj, List.length_map]
          refine ⟨ha2, CallP.fnG (fun _ => hcall) ?_⟩
          simp only [go_sem, simprocAttr, ↓reduceIte, h77]
          refine ⟨fun h => EndR.ret ?_, fun h => ⟨ha2, int_succ ha2 (by rw [maxLen_eq]; omega), hst, fun hm => ?_⟩⟩
          · simp only [go_sem, simprocAttr, ↓reduceIte]
            refine ⟨weak_bool ?_, hst⟩
            simp only [Bool.and_eq_true, beq_iff_eq] at h
            have ej : c.1 = j := by omega
            unfold underP
            rw [eq_comm, Bool.and_eq_false_iff]
            right
            rw [List.all_eq_false]
            refine ⟨c, List.mem_of_getElem? hc, ?_⟩
            have hm : c.1 ∈ t := by rw [ej]; exact List.mem_of_getElem? hj
            have h2 := h.2
            simp [hm]
            simpa using h2
          · rw [take_succ_get hj] at hm
            rcases List.mem_append.1 hm with h1 | h1
            · exact hR h1
            · rw [List.mem_singleton.1 h1] at h
              simpa using h
        · rw [List.take_of_length_le ha2] at hR
          refine ⟨hst, ?_⟩
          by_cases hm : c.1 ∈ t
          · simp [hR hm]
          · simp [hm]
      simp only [go_sem, simprocAttr, ↓reduceIte, h71]
      refine ⟨hb2, int_succ hb2 (by rw [maxLen_eq]; omega), hst, fun x hx => ?_⟩
      rw [take_succ_get hc] at hx
      rcases List.mem_append.1 hx with h1 | h1
      · exact hQ x h1
      · rw [List.mem_singleton.1 h1]
        exact hR
    · rw [List.take_of_length_le hb2] at hQ
      exact ⟨hst, hQ⟩
  simp only [go_sem, simprocAttr, ↓reduceIte]
  refine EndR.ret ?_
  simp only [go_sem, simprocAttr, ↓reduceIte]
  refine ⟨weak_bool ?_, hst⟩
  unfold underP
  rw [decide_eq_true hP, Bool.true_and, eq_comm, List.all_eq_true]
  exact hQ
end Go.Proofs.Tryz
end
section
set_option linter.unusedSimpArgs false
set_option linter.unusedVariables false
namespace Go.Proofs.Tryz
open Go Go.Av
set_option maxRecDepth 10000
set_option linter.unusedSimpArgs false
set_option linter.unusedVariables false
variable {W0 : World}

theorem lightL_len : ∀ {i : Nat} {l : List Pkg}, lightL i l = true → l = [] ∨ i + l.length ≤ 26
  | _, [], _ => .inl rfl
  | i, q :: r, h => by
    rw [lightL, Bool.and_eq_true] at h
    have h1 : i < 26 := by
      have := h.1
      unfold lightP at this
      simp only [Bool.and_eq_true, decide_eq_true_eq] at this
      exact this.1.1
    right
    rw [List.length_cons]
    rcases lightL_len h.2 with rfl | h2
    · simp only [List.length_nil]; omega
    · omega
theorem light_len {l : List Pkg} (h : lightL 0 l = true) : l.length ≤ 26 := by
  rcases lightL_len h with rfl | h
  · simp
  · omega
def boolsAV (l : List Bool) : AV := .sl 4 (l.map .bool)
theorem map_nat (l : List (Nat × Nat × Nat)) : (l.map natI).map causeI = l.map causeAV := by rw [List.map_map]; rfl

theorem l20_holds (all : List Pkg) (hp : ∀ p ∈ all, PkgR p) (pick : List Bool) (t : List Int) (odd : List (Int × Int × Int)) : PureFn prog W0 5 [pkgsAV all, boolsAV pick, intsAV t, causesI odd] (.bool true) := by
  refine fn_pure [8] [11, 2000067, 2000069, 2000073, 2000075] func5 rfl rfl ntmps5 rfl rfl (.bool _) fun hs σ => ?_
  simp only [go_sem, simprocAttr, ↓reduceIte]
  refine CallA.fn (l20_light all hp) ?_
  simp only [go_sem, simprocAttr, ↓reduceIte]
  refine CallP.fnG (fun _ => r9_mayAll all) ?_
  simp only [go_sem, simprocAttr, ↓reduceIte, intsAV, causesI, List.length_map]
  refine ⟨fun _ => CallA.fn l20_awake ?_, fun h => ?_⟩
  · simp only [go_sem, simprocAttr, ↓reduceIte]
    done
  simp only [Bool.or_eq_false_iff, Bool.not_eq_false', decide_eq_false_iff_not, bne_eq_false_iff_eq] at h
  obtain ⟨⟨⟨hla, h0⟩, ht⟩, ho⟩ := h
  have h26 := light_len hla
  have hcon := light_con hla
  have hm : ∀ p ∈ all, mayPkg p = 0 := fun p hp => mayAll_pkg h0 hp
  have hcl := causesA_len hm all.length
  refine CallA.fn (r10_causes all hm h26) ?_
  generalize causesA all all.length = C at hcl
  simp only [go_sem, simprocAttr, ↓reduceIte, causesAV, List.length_map]
  refine LoopVC.at [0, 2, 3] (.of (by kernel_rfl)) (fun A => ∃ v L, A.env 9 = v ∧ Ext σ A.st ∧ L.length ≤ 2000 ∧ RowX σ A.st v 40 ((L : List (Nat × Nat × Nat)).map causeAV)) ?_ fun B ⟨v, L, h9, hst, hL, hv⟩ => ?_
  · refine LoopVC.upto [0, 1, 2, 3, 32, 33] (.of (by kernel_rfl)) C.length (fun b A => ∃ v L, A.env 9 = v ∧ A.env 34 = .int .i64 b ∧ Ext σ A.st ∧ L.length ≤ b ∧ RowX σ A.st v 40 ((L : List (Nat × Nat × Nat)).map causeAV)) 0 (Nat.zero_le _) ?_ fun b B hb ⟨v, L, h9, h34, hst, hL, hv⟩ => ?_
    · simp only [go_sem, simprocAttr, ↓reduceIte]
      exact ⟨_, [], rfl, .refl _, by simp, .inl ⟨rfl, rfl⟩⟩
    have v1 := hv.rs.ok
    have v2 := hv.rs.un
    simp only [go_sem, simprocAttr, ↓reduceIte, h9, h34, v1, v2, List.length_map]
    refine ⟨fun hb2 => ⟨hb2, ?_⟩, fun hb2 => ⟨_, L, rfl, hst, by omega, hv⟩⟩
    obtain ⟨c, hc⟩ := get_some hb2
    by_cases hbp : b < pick.length
    case neg =>
      have e1 : decide (b < pick.length) = false := decide_eq_false hbp
      simp only [go_sem, simprocAttr, ↓reduceIte, h9, h34, v1, v2, atV_map hc, causeAV, boolsAV, List.length_map, e1, pickV_f]
      exact ⟨hb2, _, L, rfl, int_succ hb2 (by rw [maxLen_eq]; omega), hst.app _, by omega, hv.more _⟩
    obtain ⟨g, hg⟩ := get_some hbp
    have e1 : decide (b < pick.length) = true := decide_eq_true hbp
    simp only [go_sem, simprocAttr, ↓reduceIte, h9, h34, v1, v2, atV_map hc, atV_map hg, causeAV, boolsAV, List.length_map, e1]
    refine ⟨hbp, fun _ => AppA.rowX (σ := σ) 1048576 (by kernel_rfl) (by simp only [go_sem, simprocAttr, ↓reduceIte]; exact hst.app [none]) (by simp only [go_sem, simprocAttr, ↓reduceIte]; exact hv.more [none]) (.lit _ _ _) (by simp; omega) fun v' st' hx' hr' => ?_, fun _ => ⟨hb2, _, L, rfl, int_succ hb2 (by rw [maxLen_eq]; omega), hst.app _, by omega, hv.more _⟩⟩
    have v3 := hr'.rs.ok
    have v4 := hr'.rs.un
    simp only [go_sem, simprocAttr, ↓reduceIte, h9, h34, v3, v4]
    exact ⟨hb2, _, L ++ [c], rfl, int_succ hb2 (by rw [maxLen_eq]; omega), hx', by simp; omega, by rw [List.map_append]; exact hr'⟩
  have a1 := l20_awake (W0 := W0)
  rcases hv with ⟨rfl, hL0⟩ | ⟨id, rfl, hid, hlo⟩
  · simp only [go_sem, simprocAttr, ↓reduceIte, h9, intsAV, causesI]
    refine CallA.fn ((ex_holds all [] t (by omega) (by omega) (by simp)).weak (.cons (.refl _) (.cons (.nils _) (.cons (.refl _) .nil)))) ?_
    simp only [go_sem, simprocAttr, ↓reduceIte, h9]
    refine CallA.fn ((r10_UnderI all [] t (by omega) hcon (by simp)).weak (.cons (.refl _) (.cons (.nils _) (.cons (.refl _) .nil)))) ?_
    simp only [go_sem, simprocAttr, ↓reduceIte, h9]
    refine AppA.ownS (σ := B.st) (by simp only [go_sem, simprocAttr, ↓reduceIte]) 1048576 (by kernel_rfl) (.inl ⟨rfl, rfl⟩) (.sl _ _ _) (by simp; omega) fun v1 σ1 b1 => ?_
    have p1 := b1.bld.ok
    have p2 := b1.bld.un
    have w1 : Weak v1 (causesI odd) := b1.bld.weak
    simp only [go_sem, simprocAttr, ↓reduceIte, p1, p2, h9]
    refine CallA.fn ((ex_holds all odd t (by omega) (by omega) (by omega)).weak (.cons (.refl _) (.cons w1 (.cons (.refl _) .nil)))) ?_
    simp only [go_sem, simprocAttr, ↓reduceIte, h9]
    refine AppA.ownS (σ := σ1) (by simp only [go_sem, simprocAttr, ↓reduceIte]) 1048576 (by kernel_rfl) (.inl ⟨rfl, rfl⟩) (.sl _ _ _) (by simp; omega) fun v2 σ2 b2 => ?_
    have p3 := b2.bld.ok
    have p4 := b2.bld.un
    have w2 : Weak v2 (causesI odd) := b2.bld.weak
    simp only [go_sem, simprocAttr, ↓reduceIte, p3, p4, h9]
    refine CallA.fn ((r10_UnderI all odd t (by omega) hcon (by omega)).weak (.cons (.refl _) (.cons w2 (.cons (.refl _) .nil)))) ?_
    simp only [go_sem, simprocAttr, ↓reduceIte, h9]
    refine CallP.fnG (fun _ => a1) ?_
    simp only [go_sem, simprocAttr, ↓reduceIte]
    exact b2.fr.toExt (b1.fr.toExt hst (by simp [foot])) (by simp [foot])
  rw [List.length_map] at h9
  have hz : (L.map causeAV).length = L.length := List.length_map ..
  have hzo : (odd.map causeI).length = odd.length := List.length_map ..
  have hidl : id < B.st.length := (List.getElem?_eq_some_iff.1 hid).1
  have em : L.map causeAV ++ odd.map causeI = (L.map natI ++ odd).map causeI := by rw [List.map_append, map_nat]
  have el : (L.map natI ++ odd).length = L.length + odd.length := by simp
  simp only [go_sem, simprocAttr, ↓reduceIte, h9, intsAV, causesI]
  refine CallA.readsC rfl (ex_holdsG all (L.map natI) t (by omega) (by omega) (by simp; omega) B.st (.inr ⟨id, by simp, by rw [map_nat]; exact hid⟩)) ?_
  simp only [go_sem, simprocAttr, ↓reduceIte, h9]
  refine CallA.readsC rfl (r10_UnderG all (L.map natI) t (by omega) hcon (by simp; omega) B.st (.inr ⟨id, by simp, by rw [map_nat]; exact hid⟩)) ?_
  simp only [go_sem, simprocAttr, ↓reduceIte, h9]
  refine AppA.keep (zs := L.map causeAV) (ys := odd.map causeI) 1048576 (by kernel_rfl) (by simp only [go_sem, simprocAttr, ↓reduceIte]; exact hid) (by omega) (.sl _ _ _) (by omega) ?_ ?_
  · rw [hzo, em]
    have hid1 : (B.st.set id (some (.cells 40 ((L.map natI ++ odd).map causeI))))[id]? = some (some (.cells 40 ((L.map natI ++ odd).map causeI))) := List.getElem?_set_self hidl
    have hx1 : Ext σ (B.st.set id (some (.cells 40 ((L.map natI ++ odd).map causeI)))) := hst.set hlo _
    generalize hS : B.st.set id (some (.cells 40 ((L.map natI ++ odd).map causeI))) = S at hid1 hx1
    simp only [go_sem, simprocAttr, ↓reduceIte, h9, hS]
    refine CallA.readsC (by simp only [go_sem, simprocAttr, ↓reduceIte]) (ex_holdsG all (L.map natI ++ odd) t (by omega) (by omega) (by omega) S (.inr ⟨id, by simp, hid1⟩)) ?_
    simp only [go_sem, simprocAttr, ↓reduceIte, h9, hS]
    refine AppA.inRow (zs := (L.map natI ++ odd).map causeI) (ys := odd.map causeI) (by kernel_rfl) (by kernel_rfl) (by simp only [go_sem, simprocAttr, ↓reduceIte]) (by simp only [go_sem, simprocAttr, ↓reduceIte]; exact hid1) (.sl _ _ _) (by simp) ?_
    rw [hzo]
    have hid2 : (S.set id (some (.cells 40 (laidL ((L.map natI ++ odd).map causeI) (0 + L.length) (odd.map causeI)))))[id]? = some (some (.cells 40 ((L.map natI ++ odd).map causeI))) := by
      rw [List.getElem?_set_self (List.getElem?_eq_some_iff.1 hid1).1]
      congr 3
      rw [laidL, hzo, Nat.zero_add, ← em, List.take_append_of_le_length (by omega), List.take_of_length_le (by omega), List.drop_eq_nil_of_le (by rw [List.length_append]; omega), List.append_nil]
    have hx2 : Ext σ (S.set id (some (.cells 40 (laidL ((L.map natI ++ odd).map causeI) (0 + L.length) (odd.map causeI))))) := hx1.set hlo _
    generalize hS2 : S.set id (some (.cells 40 (laidL ((L.map natI ++ odd).map causeI) (0 + L.length) (odd.map causeI)))) = S2 at hid2 hx2
    simp only [go_sem, simprocAttr, ↓reduceIte, h9, hS2]
    refine CallA.readsC (by simp only [go_sem, simprocAttr, ↓reduceIte]) (r10_UnderG all (L.map natI ++ odd) t (by omega) hcon (by omega) S2 (.inr ⟨id, by simp, hid2⟩)) ?_
    simp only [go_sem, simprocAttr, ↓reduceIte, h9]
    refine CallP.fnG (fun _ => a1) ?_
    simp only [go_sem, simprocAttr, ↓reduceIte]
    exact hx2
  · rw [hzo, List.drop_zero, em]
    have hid1 : (B.st ++ [some (.cells 40 ((L.map natI ++ odd).map causeI))])[B.st.length]? = some (some (.cells 40 ((L.map natI ++ odd).map causeI))) := by rw [List.getElem?_append_right (Nat.le_refl _), Nat.sub_self]; rfl
    have hid0 : (B.st ++ [some (.cells 40 ((L.map natI ++ odd).map causeI))])[id]? = some (some (.cells 40 (L.map causeAV))) := by rw [List.getElem?_append_left hidl]; exact hid
    have hx1 : Ext σ (B.st ++ [some (.cells 40 ((L.map natI ++ odd).map causeI))]) := hst.app _
    generalize hS : B.st ++ [some (.cells 40 ((L.map natI ++ odd).map causeI))] = S at hid1 hid0 hx1
    simp only [go_sem, simprocAttr, ↓reduceIte, h9, hS]
    refine CallA.readsC (by simp only [go_sem, simprocAttr, ↓reduceIte]) (ex_holdsG all (L.map natI ++ odd) t (by omega) (by omega) (by omega) S (.inr ⟨_, by simp, hid1⟩)) ?_
    simp only [go_sem, simprocAttr, ↓reduceIte, h9, hS]
    have hidS : id < S.length := (List.getElem?_eq_some_iff.1 hid0).1
    refine AppA.keep (zs := L.map causeAV) (ys := odd.map causeI) 1048576 (by kernel_rfl) (by simp only [go_sem, simprocAttr, ↓reduceIte]; exact hid0) (by omega) (.sl _ _ _) (by omega) ?_ ?_
    · rw [hzo, em]
      have hid2 : (S.set id (some (.cells 40 ((L.map natI ++ odd).map causeI))))[id]? = some (some (.cells 40 ((L.map natI ++ odd).map causeI))) := List.getElem?_set_self hidS
      have hx2 : Ext σ (S.set id (some (.cells 40 ((L.map natI ++ odd).map causeI)))) := hx1.set hlo _
      generalize hS2 : S.set id (some (.cells 40 ((L.map natI ++ odd).map causeI))) = S2 at hid2 hx2
      simp only [go_sem, simprocAttr, ↓reduceIte, h9, hS2]
      refine CallA.readsC (by simp only [go_sem, simprocAttr, ↓reduceIte]) (r10_UnderG all (L.map natI ++ odd) t (by omega) hcon (by omega) S2 (.inr ⟨_, by simp, hid2⟩)) ?_
      simp only [go_sem, simprocAttr, ↓reduceIte, h9]
      refine CallP.fnG (fun _ => a1) ?_
      simp only [go_sem, simprocAttr, ↓reduceIte]
      exact hx2
    · rw [hzo, List.drop_zero, em]
      have hid2 : (S ++ [some (.cells 40 ((L.map natI ++ odd).map causeI))])[S.length]? = some (some (.cells 40 ((L.map natI ++ odd).map causeI))) := by rw [List.getElem?_append_right (Nat.le_refl _), Nat.sub_self]; rfl
      have hx2 : Ext σ (S ++ [some (.cells 40 ((L.map natI ++ odd).map causeI))]) := hx1.app _
      generalize hS2 : S ++ [some (.cells 40 ((L.map natI ++ odd).map causeI))] = S2 at hid2 hx2
      simp only [go_sem, simprocAttr, ↓reduceIte, h9, hS2]
      refine CallA.readsC (by simp only [go_sem, simprocAttr, ↓reduceIte]) (r10_UnderG all (L.map natI ++ odd) t (by omega) hcon (by omega) S2 (.inr ⟨_, by simp, hid2⟩)) ?_
      simp only [go_sem, simprocAttr, ↓reduceIte, h9]
      refine CallP.fnG (fun _ => a1) ?_
      simp only [go_sem, simprocAttr, ↓reduceIte]
      exact hx2
end Go.Proofs.Tryz
end
