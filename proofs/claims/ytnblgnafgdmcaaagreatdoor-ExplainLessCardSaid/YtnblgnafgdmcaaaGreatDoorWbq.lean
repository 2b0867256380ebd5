/- Texts that the last one of this claim rests on: a layer over the guide's own conditions for code; contracts of the functions that the law reaches, one by one. No conditions beside those of the given rows. -/
import Derived.Test.YtnblgnafgdmcaaaGreatDoorWbo
import Derived.Test.YtnblgnafgdmcaaaGreatDoorWbp
section
set_option linter.unusedSimpArgs false
set_option linter.unusedVariables false
namespace Go.Av
/-- A list: by value, or a row that is whole. -/
def LstR (st : Store) (v : AV) (e : TypeId) (xs : List AV) : Prop := v = .sl e xs ∨ ∃ id, v = .row e id 0 xs.length ∧ st[id]? = some (some (.cells e xs))
/-- Where an element lies. -/
def slotV (e : TypeId) (xs : List AV) (i : Int) : AV → AV
  | .row _ id off _ => .ptr e id (off + i.toNat) []
  | _ => .loc e (atV xs i)
section
variable {σ st : Store} {v : AV} {e : TypeId} {xs : List AV}
theorem LstR.notM (h : LstR st v e xs) : NotM v := by
  rcases h with rfl | ⟨_, rfl, _⟩ <;> trivial
theorem LstR.ok (h : LstR st v e xs) (g : Option Bool) : okM g v = True := okM_notM h.notM
theorem LstR.un (h : LstR st v e xs) : unm v = v := unm_notM h.notM
theorem LstR.len (h : LstR st v e xs) : lenV v = .int .i64 xs.length := by
  rcases h with rfl | ⟨_, rfl, _⟩ <;> rfl
theorem LstR.ext (h : LstR σ v e xs) (hx : Ext σ st) : LstR st v e xs := by
  rcases h with h | ⟨id, h1, h2⟩
  · exact .inl h
  · exact .inr ⟨id, h1, by rw [(Fr.ext (F := []) hx).old id (List.getElem?_eq_some_iff.1 h2).1 (by simp)]; exact h2⟩
theorem LstR.lenC (h : LstR st v e xs) (P : Program) (t : TypeId) : lenC P t v = ((elT P t).isSome = true) := by
  rcases h with rfl | ⟨_, rfl, _⟩ <;> rfl
theorem LstR.idxV (h : LstR st v e xs) (P : Program) (t : TypeId) (i : Int) : indexAddrV P t i v = slotV e xs i v := by
  rcases h with rfl | ⟨_, rfl, _⟩ <;> rfl
theorem LstR.idxC (h : LstR st v e xs) (P : Program) (gd : Option Bool) (t : TypeId) (i : Int) : indexAddrC P gd st t i v = (elT P t = some e ∧ 0 < szOf P e ∧ imp gd (0 ≤ i ∧ i.toNat < xs.length)) := by
  rcases h with rfl | ⟨id, rfl, h⟩
  · rfl
  · refine propext ⟨fun ⟨h1, h2, h3, _⟩ => ⟨h1, h2, h3⟩, fun ⟨h1, h2, h3⟩ => ⟨h1, h2, h3, _, _, h⟩⟩
theorem slotV_ok (g : Option Bool) (e : TypeId) (xs : List AV) (i : Int) (v : AV) : okM g (slotV e xs i v) = True := by unfold slotV; split <;> rfl
theorem slotV_un (e : TypeId) (xs : List AV) (i : Int) (v : AV) : unm (slotV e xs i v) = slotV e xs i v := by unfold slotV; split <;> rfl
theorem LstR.ldV (h : LstR st v e xs) {i : Nat} {x : AV} (hx : xs[i]? = some x) : loadV st (slotV e xs i v) = x := by
  rcases h with rfl | ⟨id, rfl, h⟩
  · show atV xs i = x
    rw [atV, Int.toNat_natCast, hx]; rfl
  · simp only [slotV, loadV, Nat.zero_add, Int.toNat_natCast, look_id h, hx]
    rfl
theorem LstR.ldC (h : LstR st v e xs) {i : Nat} {x : AV} (hx : xs[i]? = some x) (gd : Option Bool) (t : TypeId) : loadC gd st t (slotV e xs i v) = (e = t) := by
  rcases h with rfl | ⟨id, rfl, h⟩
  · rfl
  · have hl : Av.look st id i [] = some x := by rw [look_id h, hx]; rfl
    refine propext ?_
    simp only [slotV, loadC, Nat.zero_add, Int.toNat_natCast, hl, Option.isSome_some]
    exact ⟨fun h => h.1, fun h => ⟨h, by cases gd <;> simp [imp]⟩⟩
end
end Go.Av
namespace Go.Proofs.Tryz
open Go Go.Av
set_option maxRecDepth 10000
set_option linter.unusedSimpArgs false
set_option linter.unusedVariables false
variable {W0 : World}

theorem ix_ints (l : List Int) (s : Int) : PureFn prog W0 64 [intsAV l, .int .i64 s] (.int .i64 (idxL (fun x => s == x) l)) := by
  refine fn_pure [4] [] func64 rfl rfl ntmps64 rfl rfl (.int _ _) fun hs σ => ?_
  have hl := (small_map (hs _ (List.mem_cons_self ..))).1
  simp only [go_sem, simprocAttr, ↓reduceIte, intsAV]
  refine LoopVC.upto [0, 1, 7] (.of (by kernel_rfl)) l.length (fun i A => A.env 8 = .int .i64 i ∧ A.st = σ ∧ ∀ a ∈ l.take i, (s == a) = false) 0 (Nat.zero_le _) ?_ fun i B hi ⟨h8, hst, hI⟩ => ?_
  · simp only [go_sem, simprocAttr, ↓reduceIte]
    all_goals simp
  simp only [go_sem, simprocAttr, ↓reduceIte, h8, hst, List.length_map]
  refine ⟨fun hc => ⟨hc, ?_⟩, fun hc => weak_int ?_⟩
  · obtain ⟨a, ha⟩ := get_some hc
    simp only [atV_map ha]
    simp only [go_sem, simprocAttr, ↓reduceIte, h8, hst]
    refine ⟨fun hq => weak_int (idxL_at (q := fun x => s == x) ha (by simpa using hq) hI).symm, fun hq => ⟨hc, int_succ hc hl, ?_⟩⟩
    rw [take_succ_get ha]
    intro b hb
    rcases List.mem_append.1 hb with hb | hb
    · simpa using hI b hb
    · rw [List.mem_singleton.1 hb]; simpa using hq
  · rw [idxL_none]
    rwa [List.take_of_length_le hc] at hI
theorem an_ints (l : List Int) (s : Int) : PureFn prog W0 33 [intsAV l, .int .i64 s] (.bool (l.any fun x => s == x)) := by
  refine fn_pure [4] [] func33 rfl rfl ntmps33 rfl rfl (.bool _) fun hs σ => ?_
  simp only [go_sem, simprocAttr, ↓reduceIte, intsAV]
  refine CallA.fn (ix_ints l s) ?_
  simp only [go_sem, simprocAttr, ↓reduceIte]
  exact weak_bool idxL_ge

theorem ex_isI (all : List Pkg) (c : Int × Int × Int) : PureFn prog W0 32 [pkgsAV all, causeI c] (.bool (isB all c)) := by
  obtain ⟨i, d, k⟩ := c
  by_cases hg : 0 ≤ i ∧ i < all.length ∧ 0 ≤ k
  case neg =>
    have hf : isB all (i, d, k) = false := by
      cases h : isB all (i, d, k) with
      | false => rfl
      | true =>
        obtain ⟨⟨a, b, c⟩, he, p, hp, _⟩ := isB_iff.1 h
        simp only [natI, Prod.mk.injEq] at he hp
        have := (List.getElem?_eq_some_iff.1 hp).1
        omega
    rw [hf]
    refine fn_pure [4] [3] func32 rfl rfl ntmps32 rfl rfl (.bool _) fun hs σ => ?_
    simp only [go_sem, simprocAttr, ↓reduceIte, pkgsAV, causeI, List.length_map]
    intro h
    exfalso
    simp only [Bool.or_eq_false_iff, decide_eq_false_iff_not] at h
    omega
  obtain ⟨g1, g2, g3⟩ := hg
  obtain ⟨i, rfl⟩ : ∃ n : Nat, i = n := ⟨i.toNat, by omega⟩
  obtain ⟨k, rfl⟩ : ∃ n : Nat, k = n := ⟨k.toNat, by omega⟩
  have hi : i < all.length := by omega
  obtain ⟨p, hp⟩ := get_some hi
  have hv : isB all ((i : Nat), d, (k : Nat)) = (decide ((k : Int) < (clI p d).length) || decide ((k : Int) < (atI p d).length)) := by
    rw [Bool.eq_iff_iff, Bool.or_eq_true, decide_eq_true_eq, decide_eq_true_eq]
    constructor
    · intro h
      obtain ⟨⟨a, b, c⟩, he, p', hp', h1, h2, h3⟩ := isB_iff.1 h
      simp only [natI, Prod.mk.injEq] at he hp' h1 h2 h3
      obtain ⟨e1, rfl, e3⟩ := he
      have ea : a = i := by omega
      have ec : c = k := by omega
      subst ea ec
      rw [hp] at hp'
      cases hp'
      obtain rfl | rfl | rfl | rfl : b = 1 ∨ b = 2 ∨ b = 3 ∨ b = 4 := by omega
      all_goals (simp [kindN] at h3; simp [clI, atI]; omega)
    · intro h
      have hd : d = 1 ∨ d = 2 ∨ d = 3 ∨ d = 4 := by
        refine Classical.byContradiction fun hn => ?_
        have n1 : ¬ d = 1 := fun e => hn (.inl e)
        have n2 : ¬ d = 2 := fun e => hn (.inr (.inl e))
        have n3 : ¬ d = 3 := fun e => hn (.inr (.inr (.inl e)))
        have n4 : ¬ d = 4 := fun e => hn (.inr (.inr (.inr e)))
        have c0 : clI p d = [] := by unfold clI; rw [if_neg n1, if_neg n2]
        have a0 : atI p d = [] := by unfold atI; rw [if_neg n3, if_neg n4]
        rw [c0, a0] at h
        simp only [List.length_nil] at h
        omega
      refine isB_iff.2 ⟨(i, d.toNat, k), ?_, p, hp, ?_, ?_, ?_⟩
      · have hdn : ((d.toNat : Nat) : Int) = d := by omega
        show (((i : Nat) : Int), ((d.toNat : Nat) : Int), ((k : Nat) : Int)) = _
        rw [hdn]
      · show 1 ≤ d.toNat
        omega
      · show d.toNat ≤ 4
        omega
      · rcases hd with rfl | rfl | rfl | rfl <;> (simp [clI, atI] at h; simp [kindN]; omega)
  rw [hv]
  refine fn_pure [4] [3] func32 rfl rfl ntmps32 rfl rfl (.bool _) fun hs σ => ?_
  have e1 : decide ((i : Int) < 0) = false := decide_eq_false (by omega)
  have e5 : decide ((k : Int) < 0) = false := decide_eq_false (by omega)
  simp only [go_sem, simprocAttr, ↓reduceIte, pkgsAV, causeI, List.length_map, e1, e5, atV_map hp]
  refine ⟨fun h => absurd hi (by omega), fun _ => ⟨.of (by kernel_rfl), hi, CallP.fn (ex_clauses p d) ?_⟩⟩
  simp only [go_sem, simprocAttr, ↓reduceIte, clausesAV, List.length_map]
  rw [atV_map hp]
  refine ⟨fun _ => hi, CallP.fnG (fun _ => ex_atoms p d) ?_⟩
  simp only [go_sem, simprocAttr, ↓reduceIte, atomsAV, List.length_map]
theorem ex_holds1 (all : List Pkg) {i j : Int} (hi : 0 ≤ i ∧ i < all.length) (hj : 0 ≤ j ∧ j < all.length) : PureFn prog W0 31 [.int .i64 j, .loc 22 (pkgsAV all), .loc 3 (.int .i64 i)] (.bool (decide (nameI all j = nameI all i))) := by
  obtain ⟨i, rfl⟩ : ∃ n : Nat, i = n := ⟨i.toNat, by omega⟩
  obtain ⟨j, rfl⟩ : ∃ n : Nat, j = n := ⟨j.toNat, by omega⟩
  have hil : i < all.length := by omega
  have hjl : j < all.length := by omega
  obtain ⟨p, hp⟩ := get_some hil
  obtain ⟨q, hq⟩ := get_some hjl
  have en : decide (nameI all j = nameI all i) = (q.name == p.name) := by
    rw [Bool.eq_iff_iff]
    simp [nameI, nameO, hp, hq]
  rw [en]
  refine fn_pure [4] [1, 2] func31 rfl rfl ntmps31 rfl rfl (.bool _) fun hs σ => ?_
  simp only [go_sem, simprocAttr, ↓reduceIte, pkgsAV, List.length_map, atV_map hp, atV_map hq, pkgAV]
  exact ⟨.of (by kernel_rfl), hjl, hil⟩
theorem ex_holds2 (t : List Int) (m : Nat) : PureFn prog W0 35 [eN m, .loc 37 (intsAV t)] (.bool (!t.any fun x => (m : Int) == x)) := by
  refine fn_pure [3] [1] func35 rfl rfl ntmps35 rfl rfl (.bool _) fun hs σ => ?_
  simp only [go_sem, simprocAttr, ↓reduceIte, eN, intsAV]
  refine CallA.fn (an_ints t m) ?_
  simp only [go_sem, simprocAttr, ↓reduceIte]
  try exact .refl _
theorem ex_holds3 (c : Int × Int × Int) (m : Nat) : PureFn prog W0 36 [eN m, .loc 40 (causeI c)] (.bool (decide ((m : Int) ≠ c.1))) := by
  refine fn_pure [3] [1] func36 rfl rfl ntmps36 rfl rfl (.bool _) fun hs σ => ?_
  simp only [go_sem, simprocAttr, ↓reduceIte, eN, causeI]
  refine weak_bool ?_
  rw [Bool.eq_iff_iff]
  simp

theorem holdsI_under {all : List Pkg} {e : List (Int × Int × Int)} {t : List Nat} {c : Nat × Nat × Nat} (hc : natI c ∈ e) (ht : c.1 ∈ t) (h : underC all c t = false) : holdsI all e (t.map fun j : Nat => (j : Int)) = false := by
  have h4 : (t.map fun j : Nat => (j : Int)).map Int.toNat = t := by
    rw [List.map_map]
    exact (List.map_congr_left fun c _ => by simp).trans (List.map_id t)
  have h5 : c ∈ e.map fun c => (c.1.toNat, c.2.1.toNat, c.2.2.toNat) := List.mem_map.2 ⟨_, hc, by simp [natI]⟩
  rw [holdsI, h4]
  have : underP all (e.map fun c => (c.1.toNat, c.2.1.toNat, c.2.2.toNat)) t = false := by
    unfold underP
    rw [Bool.and_eq_false_iff]
    right
    rw [List.all_eq_false]
    exact ⟨c, h5, by simp [ht, h]⟩
  rw [this, Bool.and_false]

theorem ex_holdsG (all : List Pkg) (e : List (Int × Int × Int)) (t : List Int) (hal : all.length ≤ 1000000) (hn : t.length ≤ 1048576) (hel : e.length ≤ 1048576) {v : AV} (σ : Store) (hv : LstR σ v 40 (e.map causeI)) : ACall prog W0 17 [pkgsAV all, v, intsAV t] σ fun r σ' => r = .bool (holdsI all e t) ∧ σ' = σ := by
  refine fn_st [6] [3, 5, 8, 10] func17 rfl rfl ntmps17 rfl rfl (.bool _) fun hs => ?_
  simp only [go_sem, simprocAttr, ↓reduceIte, pkgsAV, intsAV, List.length_map]
  refine LoopVC.at [1, 3, 5] (.of (by kernel_rfl)) (fun A => Ext σ A.st ∧ inR all t ∧ t.Pairwise fun x y => nameI all x ≠ nameI all y) ?_ fun B ⟨hst, hR, hP⟩ => ?_
  · refine LoopVC.upto [1, 3, 5, 12, 13] (.of (by kernel_rfl)) t.length (fun b A => A.env 14 = .int .i64 b ∧ Ext σ A.st ∧ inR all (t.take b) ∧ (t.take b).Pairwise fun x y => nameI all x ≠ nameI all y) 0 (Nat.zero_le _) ?_ fun b B hb ⟨h14, hst, hR, hP⟩ => ?_
    · simp only [go_sem, simprocAttr, ↓reduceIte]
      exact ⟨.refl _, fun x hx => by simp at hx, by simp⟩
    simp only [go_sem, simprocAttr, ↓reduceIte, h14, List.length_map]
    refine ⟨fun hb2 => ⟨hb2, ?_⟩, fun hb2 => ?_⟩
    · obtain ⟨i, hi⟩ := get_some hb2
      have hlen : (t.take b).length = b := by rw [List.length_take]; omega
      by_cases hil : 0 ≤ i ∧ i < all.length
      case neg =>
        have ho : (decide (i < 0) || decide ((all.length : Int) ≤ i)) = true := by
          simp only [Bool.or_eq_true, decide_eq_true_eq]
          omega
        simp only [go_sem, simprocAttr, ↓reduceIte, h14, atV_map hi, List.length_map, ho]
        refine CallP.fnG (r := .bool false) (fun h => (Bool.false_ne_true h).elim) ?_
        simp only [go_sem, simprocAttr, ↓reduceIte]
        refine EndR.ret ?_
        simp only [go_sem, simprocAttr, ↓reduceIte]
        exact ⟨weak_bool (holdsI_out (List.mem_of_getElem? hi) (by omega)).symm, hst.app _⟩
      have e1 : decide (i < 0) = false := decide_eq_false (by omega)
      have e2 : decide ((all.length : Int) ≤ i) = false := decide_eq_false (by omega)
      simp only [go_sem, simprocAttr, ↓reduceIte, h14, atV_map hi, List.length_map, e1, e2]
      rw [← List.map_take]
      refine ⟨⟨Nat.zero_le _, hb⟩, CallP.fnG (fun _ => anInt (.int .i64) NotM.int64 (t.take b) (fun j => decide (nameI all j = nameI all i)) 31 [.loc 22 (pkgsAV all), .loc 3 (.int .i64 i)] (fun j hj => ex_holds1 all hil (hR j hj))) ?_⟩
      simp only [go_sem, simprocAttr, ↓reduceIte, h14]
      refine ⟨fun hd => EndR.ret ?_, fun hd => ⟨hb2, int_succ hb2 (by rw [maxLen_eq]; omega), hst.app _, fun x hx => ?_, (pair_take hi).2 ⟨hP, fun y hy hyn => ?_⟩⟩⟩
      · simp only [go_sem, simprocAttr, ↓reduceIte]
        refine ⟨weak_bool ?_, hst.app _⟩
        obtain ⟨j, hj, hjn⟩ := List.any_eq_true.1 hd
        exact (holdsI_dup hi hj (by simpa using hjn)).symm
      · rw [take_succ_get hi] at hx
        rcases List.mem_append.1 hx with h1 | h1
        · exact hR x h1
        · rw [List.mem_singleton.1 h1]; exact hil
      · have := List.any_eq_false.1 hd y hy
        simp [hyn] at this
    · rw [List.take_of_length_le hb2] at hP hR
      exact ⟨hst, hR, hP⟩
  obtain ⟨tn, rfl, htn⟩ := inR_nat hR
  rw [List.length_map] at hn
  have hP2 : tn.Pairwise fun x y => nameO all x ≠ nameO all y := by
    rw [List.pairwise_map] at hP
    exact hP
  clear hP hR
  have v1 := hv.ok
  have v2 := hv.un
  have v3 := hv.len
  have v4 := hv.lenC
  generalize hT : (tn.map fun j : Nat => (j : Int)) = t at *
  simp only [go_sem, simprocAttr, ↓reduceIte, v1, v2, v3, v4, List.length_map]
  refine LoopVC.upto [3, 5, 35, 36] (.of (by kernel_rfl)) e.length (fun b A => A.env 37 = .int .i64 b ∧ Ext σ A.st ∧ ∀ c ∈ e.take b, isB all c = true ∧ ∀ d, natI d = c → d.1 ∈ tn → underC all d tn = true) 0 (Nat.zero_le _) ?_ fun b B hb ⟨h37, hst, hI⟩ => ?_
  · simp only [go_sem, simprocAttr, ↓reduceIte]
    exact ⟨hst, fun c hc => by simp at hc⟩
  simp only [go_sem, simprocAttr, ↓reduceIte, h37, v1, v2, List.length_map]
  refine ⟨fun hb2 => ?_, fun hb2 => ?_⟩
  · obtain ⟨c, hc⟩ := get_some hb2
    have hB := hv.ext hst
    have hcm : (e.map causeI)[b]? = some (causeI c) := by rw [List.getElem?_map, hc]; rfl
    have v5 := hB.idxV
    have v6 := hB.idxC
    have v7 := hB.ldV hcm
    have v8 := hB.ldC hcm
    simp only [go_sem, simprocAttr, ↓reduceIte, h37, v1, v2, v5, v6, slotV_ok, slotV_un, v7, v8, causeI, List.length_map]
    refine ⟨hb2, ?_⟩
    refine CallA.fn (ex_isI all c) ?_
    simp only [go_sem, simprocAttr, ↓reduceIte, h37]
    refine ⟨fun hf => EndR.ret ?_, fun hvc => ?_⟩
    · simp only [go_sem, simprocAttr, ↓reduceIte]
      exact ⟨weak_bool (holdsI_bad (List.mem_of_getElem? hc) hf).symm, hst.app _⟩
    obtain ⟨d, rfl, hdv⟩ := isB_iff.1 hvc
    refine CallA.fn (an_ints t (natI d).1) ?_
    have hany : (t.any fun x => (natI d).1 == x) = decide (d.1 ∈ tn) := by
      rw [Bool.eq_iff_iff, List.any_eq_true, decide_eq_true_eq, ← hT]
      constructor
      · rintro ⟨x, hx, h1⟩
        obtain ⟨j, hj, rfl⟩ := List.mem_map.1 hx
        have : j = d.1 := by
          have := beq_iff_eq.1 h1
          simp only [natI] at this
          omega
        rw [← this]; exact hj
      · intro h
        exact ⟨_, List.mem_map.2 ⟨d.1, h, rfl⟩, by simp [natI]⟩
    rw [hany]
    simp only [go_sem, simprocAttr, ↓reduceIte, h37]
    have hnew : (d.1 ∈ tn → underC all d tn = true) → ∀ c ∈ e.take (b + 1), isB all c = true ∧ ∀ d, natI d = c → d.1 ∈ tn → underC all d tn = true := fun h c hc2 => by
      rw [take_succ_get hc] at hc2
      rcases List.mem_append.1 hc2 with h1 | h1
      · exact hI c h1
      · rw [List.mem_singleton.1 h1]
        refine ⟨hvc, fun d' hd' => ?_⟩
        have : d' = d := by
          obtain ⟨a1, a2, a3⟩ := d
          obtain ⟨b1, b2, b3⟩ := d'
          simp only [natI, Prod.mk.injEq] at hd'
          have g1 : b1 = a1 := by omega
          have g2 : b2 = a2 := by omega
          have g3 : b3 = a3 := by omega
          rw [g1, g2, g3]
        rw [this]
        exact h
    refine ⟨fun hno => ⟨hb2, int_succ hb2 (by rw [maxLen_eq]; omega), hst.app _, hnew fun h => absurd h hno⟩, fun hin => ?_⟩
    refine CallA.goes (by simp only [go_sem, simprocAttr, ↓reduceIte]) (ex_meetsR all hdv hal (B.st ++ [none])) fun r σ1 ⟨hx1, hr1⟩ => ?_
    have q1 := hr1.rs.ok
    have q2 := hr1.rs.un
    simp only [go_sem, simprocAttr, ↓reduceIte, q1, q2]
    refine CallA.goes (by simp only [go_sem, simprocAttr, ↓reduceIte]) (sl_delInt (l := meetsL all d) hx1 hr1 (fun m => !t.any fun x => (m : Int) == x) 35 [.loc 37 (intsAV t)] (fun m _ => ex_holds2 t m)) fun r σ2 ⟨hx2, hr2⟩ => ?_
    have hth : ((meetsL all d).filter fun m : Nat => !!t.any fun x => (m : Int) == x) = there all d tn := by
      unfold there
      refine List.filter_congr fun m _ => ?_
      rw [Bool.not_not, Bool.eq_iff_iff, List.any_eq_true, decide_eq_true_eq, ← hT]
      constructor
      · rintro ⟨x, hx, h1⟩
        obtain ⟨j, hj, rfl⟩ := List.mem_map.1 hx
        have : j = m := by have := beq_iff_eq.1 h1; omega
        rw [← this]; exact hj
      · intro h
        exact ⟨_, List.mem_map.2 ⟨m, h, rfl⟩, by simp⟩
    rw [hth] at hr2
    subst hr2
    have hst2 : Ext σ σ2 := (hst.app [none]).trans hx2
    have hut := under_there htn hdv
    have hk1 : ((natI d).2.1 == 1) = decide (d.2.1 = 1) := by rw [Bool.eq_iff_iff]; simp [natI]; omega
    have hk2 : ((natI d).2.1 == 2) = decide (d.2.1 = 2) := by rw [Bool.eq_iff_iff]; simp [natI]; omega
    simp only [go_sem, simprocAttr, ↓reduceIte, h37, nlAV, hk1, hk2, List.length_map]
    have hfalse : underC all d tn = false → holdsI all e t = false := fun h => by
      rw [← hT]
      exact holdsI_under (List.mem_of_getElem? hc) hin h
    refine ⟨fun hk => ⟨fun h0 => EndR.ret ?_, fun h0 => ⟨hb2, int_succ hb2 (by rw [maxLen_eq]; omega), hst2, hnew fun _ => ?_⟩⟩, fun hk => ?_⟩
    · simp only [go_sem, simprocAttr, ↓reduceIte]
      refine ⟨weak_bool (hfalse ?_).symm, hst2⟩
      rw [hut, if_pos (by simpa using hk), decide_eq_true (by omega)]
      rfl
    · rw [hut, if_pos (by simpa using hk), decide_eq_false (by omega)]
      rfl
    have hk3 : ¬ (d.2.1 = 1 ∨ d.2.1 = 2) := by
      simpa using hk
    rw [if_neg hk3] at hut
    refine CallA.fn (anInt eN NotM.eN (there all d tn) (fun m => decide ((m : Int) ≠ (natI d).1)) 36 [.loc 40 (causeI (natI d))] (fun m _ => ex_holds3 _ m)) ?_
    have hq : ((there all d tn).any fun m : Nat => decide ((m : Int) ≠ (natI d).1)) = !underC all d tn := by
      rw [hut, Bool.not_not]
      refine congrArg _ (funext fun m => decide_eq_decide.2 (not_congr ?_))
      show (m : Int) = (d.1 : Nat) ↔ m = d.1
      omega
    rw [hq]
    simp only [go_sem, simprocAttr, ↓reduceIte, h37]
    refine ⟨fun h => EndR.ret ?_, fun h => ⟨hb2, int_succ hb2 (by rw [maxLen_eq]; omega), hst2, hnew fun _ => by simpa using h⟩⟩
    simp only [go_sem, simprocAttr, ↓reduceIte]
    exact ⟨weak_bool (hfalse (by simpa using h)).symm, hst2⟩
  · refine EndR.ret ?_
    simp only [go_sem, simprocAttr, ↓reduceIte]
    refine ⟨weak_bool ?_, hst⟩
    rw [List.take_of_length_le hb2] at hI
    obtain ⟨en, rfl, hen⟩ := isB_nat fun c hc => (hI c hc).1
    rw [← hT, holdsI_nat htn hen]
    unfold underP
    rw [decide_eq_true hP2, Bool.true_and, eq_comm, List.all_eq_true]
    intro c hc
    by_cases hin : c.1 ∈ tn
    · rw [decide_eq_true hin, (hI _ (List.mem_map.2 ⟨c, hc, rfl⟩)).2 c rfl hin]
      rfl
    · rw [decide_eq_false hin]
      rfl
theorem ex_holds (all : List Pkg) (e : List (Int × Int × Int)) (t : List Int) (hal : all.length ≤ 1000000) (hn : t.length ≤ 1048576) (hel : e.length ≤ 1048576) : PureFn prog W0 17 [pkgsAV all, causesI e, intsAV t] (.bool (holdsI all e t)) := fun σ => ex_holdsG all e t hal hn hel σ (.inl rfl)
end Go.Proofs.Tryz
end
section
set_option linter.unusedSimpArgs false
set_option linter.unusedVariables false
namespace Go.Proofs.Tryz
open Go Go.Av
set_option maxRecDepth 10000
set_option linter.unusedSimpArgs false
set_option linter.unusedVariables false
variable {W0 : World}

end Go.Proofs.Tryz
end
section
set_option linter.unusedSimpArgs false
set_option linter.unusedVariables false
namespace Go.Proofs.Tryz
open Go Go.Av
set_option maxRecDepth 10000
set_option linter.unusedSimpArgs false
set_option linter.unusedVariables false
variable {W0 : World}

theorem lightL_len : ∀ {i : Nat} {l : List Pkg}, lightL i l = true → l = [] ∨ i + l.length ≤ 26
  | _, [], _ => .inl rfl
  | i, q :: r, h => by
    rw [lightL, Bool.and_eq_true] at h
    have h1 : i < 26 := by
      have := h.1
      unfold lightP at this
      simp only [Bool.and_eq_true, decide_eq_true_eq] at this
      exact this.1.1
    right
    rw [List.length_cons]
    rcases lightL_len h.2 with rfl | h2
    · simp only [List.length_nil]; omega
    · omega
theorem light_len {l : List Pkg} (h : lightL 0 l = true) : l.length ≤ 26 := by
  rcases lightL_len h with rfl | h
  · simp
  · omega
def boolsAV (l : List Bool) : AV := .sl 4 (l.map .bool)
theorem map_nat (l : List (Nat × Nat × Nat)) : (l.map natI).map causeI = l.map causeAV := by rw [List.map_map]; rfl

end Go.Proofs.Tryz
end
