/- Texts that the last one of this claim rests on: a layer over the guide's own conditions for code; contracts of the functions that the law reaches, one by one. No conditions beside those of the given rows. -/
import Derived.WideKeyPair
import Derived.DeepKeys4
import Derived.Test.YtnblgnafgdmcaaaGreatDoorWbl
section
set_option linter.unusedSimpArgs false
set_option linter.unusedVariables false
namespace Go.Proofs.Tryz
open Go Go.Av
set_option maxRecDepth 10000
set_option linter.unusedSimpArgs false
set_option linter.unusedVariables false
variable {W0 : World}

def keyAV (a b : Nat) : AV := .agg 125 [.int .i64 (a : Nat), .int .i64 (b : Nat)]
theorem laid_out : laidOutB prog = true := by kernel_rfl
theorem pair_arr : Go.WideMaps.ArrKey prog 125 3 2 := ⟨by kernel_rfl, by kernel_rfl, by kernel_rfl, by kernel_rfl⟩
theorem pair_law : Go.Maps.Keyed prog 125 := Go.Maps.Keyed.of_law (deep_law_laid laid_out (m := 2) (by omega) (of_decide_eq_true (by kernel_rfl)) (by kernel_rfl) (by rw [show prog.underlying 125 = some (.array 2 3) from by kernel_rfl]))
theorem pair_rig (a b : Nat) : rig prog (keyAV a b) = some (.agg #[.int .i64 (a : Nat), .int .i64 (b : Nat)]) := by
  have h1 : flds prog 125 = some [3, 3] := by kernel_rfl
  have h2 : [3, 3].all (fun ty => szOf prog ty == 1) = true := by kernel_rfl
  unfold keyAV rig
  simp only [h1, h2, if_true]
  rfl
theorem pair_wf (a : Nat) (h : a ≤ 1048576) : (Lit.int .i64 (a : Nat)).wf = true := by
  have h1 : IntKind.i64.min ≤ (a : Int) := Int.le_trans (show IntKind.i64.min ≤ 0 by decide) (by omega)
  have h2 : (a : Int) ≤ IntKind.i64.max := Int.le_trans (show (a : Int) ≤ 1048576 by omega) (by decide)
  simp only [Lit.wf, decide_eq_true h1, decide_eq_true h2, Bool.and_self]
theorem pair_key (a b : Nat) (ha : a ≤ 1048576) (hb : b ≤ 1048576) : keyC prog 125 (keyAV a b) :=
  ⟨_, _, pair_rig a b, Go.WideMaps.keyOf_pair pair_arr (by kernel_rfl) ⟨prog.types.size - 1, by kernel_rfl⟩ (pair_wf a ha) (pair_wf b hb)⟩
theorem pair_inj {a b c d : Nat} (h : rig prog (keyAV a b) = rig prog (keyAV c d)) : a = c ∧ b = d := by
  rw [pair_rig, pair_rig] at h
  injection h with h
  injection h with h
  have h1 := congrArg (fun x : Array Value => x[0]?) h
  have h2 := congrArg (fun x : Array Value => x[1]?) h
  simp at h1 h2
  exact ⟨by omega, by omega⟩
end Go.Proofs.Tryz
end
section
set_option linter.unusedSimpArgs false
set_option linter.unusedVariables false
namespace Go.Proofs.Tryz
open Go Go.Av
set_option maxRecDepth 10000
set_option linter.unusedSimpArgs false
set_option linter.unusedVariables false
variable {W0 : World}

theorem clI_get {all : List Pkg} {i d k : Nat} {p : Pkg} (hp : all[i]? = some p) (hd : d = 1 ∨ d = 2) (hk : k < kindN p d) : (clI p d)[k]? = some (clauseO all (i, d, k)) := by
  rcases hd with rfl | rfl
  · obtain ⟨x, hx⟩ := get_some (l := p.pre) (show k < p.pre.length from hk)
    simp [clI, clauseO, hp, hx]
  · obtain ⟨x, hx⟩ := get_some (l := p.dep) (show k < p.dep.length from hk)
    simp [clI, clauseO, hp, hx]
theorem atI_get {all : List Pkg} {i d k : Nat} {p : Pkg} (hp : all[i]? = some p) (hd : d = 3 ∨ d = 4) (hk : k < kindN p d) : ∃ a, (atI p d)[k]? = some a ∧ clauseO all (i, d, k) = [a] := by
  rcases hd with rfl | rfl
  · obtain ⟨x, hx⟩ := get_some (l := p.con) (show k < p.con.length from hk)
    exact ⟨x, by simpa [atI] using hx, by simp [clauseO, hp, hx]⟩
  · obtain ⟨x, hx⟩ := get_some (l := p.brk) (show k < p.brk.length from hk)
    exact ⟨x, by simpa [atI] using hx, by simp [clauseO, hp, hx]⟩

theorem ex_meets (all : List Pkg) {c : Nat × Nat × Nat} (hc : ValidC all c) (hal : all.length ≤ 1000000) : PureFn prog W0 23 [pkgsAV all, causeAV c] (nlAV (meetsL all c)) := by
  obtain ⟨p, hp, v1, v2, v3⟩ := hc
  obtain ⟨i, d, k⟩ := c
  simp only at hp v1 v2 v3
  have hi := (List.getElem?_eq_some_iff.1 hp).1
  refine fn_pure [4] [3, 8] func23 rfl rfl ntmps23 rfl rfl (ids_map (fun _ => .int _ _) _) fun hs σ => ?_
  simp only [go_sem, simprocAttr, ↓reduceIte, pkgsAV, causeAV]
  refine JoinVC.at [0, 5] (by kernel_rfl) (fun A => (∃ v, A.env 6 = v ∧ (v = atomsAV (clauseO all (i, d, k)) ∨ v = .lit 50 ((clauseO all (i, d, k)).map atomAV))) ∧ A.st = σ) (fun h => ?_) (fun h => ?_) fun B ⟨⟨v, h6, hv⟩, hst⟩ => ?_
  · have hd : d = 1 ∨ d = 2 := by
      simp only [Bool.or_eq_true, beq_iff_eq] at h
      omega
    simp only [go_sem, simprocAttr, ↓reduceIte, List.length_map, atV_map hp]
    refine ⟨.of (by kernel_rfl), hi, ?_⟩
    have hg := clI_get hp hd v3
    have hgl := (List.getElem?_eq_some_iff.1 hg).1
    refine CallP.fn (ex_clauses p d) ?_
    simp only [go_sem, simprocAttr, ↓reduceIte, clausesAV, List.length_map, atV_map hg]
    exact ⟨hgl, _, rfl, .inl rfl⟩
  · have hd : d = 3 ∨ d = 4 := by
      simp only [Bool.or_eq_false_iff, beq_eq_false_iff_ne] at h
      omega
    simp only [go_sem, simprocAttr, ↓reduceIte, List.length_map, atV_map hp]
    refine ⟨.of (by kernel_rfl), hi, ?_⟩
    obtain ⟨a, hg, hca⟩ := atI_get hp hd v3
    have hgl := (List.getElem?_eq_some_iff.1 hg).1
    refine CallP.fn (ex_atoms p d) ?_
    simp only [go_sem, simprocAttr, ↓reduceIte, atomsAV, List.length_map, atV_map hg]
    exact ⟨hgl, _, rfl, .inr (by rw [hca]; rfl)⟩
  generalize hcl : clauseO all (i, d, k) = cl at hv
  have hvw : Weak v (atomsAV cl) := by
    rcases hv with rfl | rfl
    · exact .refl _
    · exact .lit _ _
  have hvo : ∀ g, okM g v = True := fun g => by rcases hv with rfl | rfl <;> rfl
  have hvu : unm v = v := by rcases hv with rfl | rfl <;> rfl
  have hml : meetsL all (i, d, k) = meetsN all cl all.length := by rw [meetsL, hcl]
  rw [hml]
  simp only [go_sem, simprocAttr, ↓reduceIte, h6, hst, hvo, hvu, List.length_map]
  refine LoopVC.at [6, 43, 44] (.of (by kernel_rfl)) (fun A => ∃ u, A.env 5 = u ∧ Built σ A.st u 3 ((meetsN all cl all.length).map fun m => .int .i64 (m : Nat))) ?_ fun B2 ⟨u, h5, hb⟩ => ?_
  · refine LoopVC.upto [6, 43, 44] (.of (by kernel_rfl)) all.length (fun m A => A.env 45 = .int .i64 m ∧ ∃ u, A.env 5 = u ∧ Built σ A.st u 3 ((meetsN all cl m).map fun m => .int .i64 (m : Nat))) 0 (Nat.zero_le _) ?_ fun m B2 hm ⟨h45, u, h5, hb⟩ => ?_
    · simp only [go_sem, simprocAttr, ↓reduceIte, hst]
      exact ⟨_, rfl, Built.nil (.refl _) _⟩
    have o1 := hb.ok
    have o2 := hb.un
    simp only [go_sem, simprocAttr, ↓reduceIte, h45, h5, o1, o2, List.length_map, h6]
    refine ⟨fun hlt => ⟨hlt, ?_⟩, fun hge => ⟨_, rfl, (show m = all.length by omega) ▸ hb⟩⟩
    obtain ⟨q, hq⟩ := get_some hlt
    simp only [go_sem, simprocAttr, ↓reduceIte, atV_map hq, h45, h5, o1, o2, h6, hvo, hvu]
    refine CallA.fn ((anAtomC atomAV NotM.atom cl (satP q) _ [.loc 56 (pkgAV q)] (fun a _ => ex_meets1 q a)).weak (.cons hvw (.cons (.refl _) .nil))) ?_
    simp only [go_sem, simprocAttr, ↓reduceIte, h45, h5, o1, o2]
    have hn := meetsN_succ all cl m hq
    have hln := meetsN_len all cl m
    refine ⟨fun hs => ?_, fun hs => ⟨hlt, int_succ hlt (by rw [maxLen_eq]; omega), _, rfl, by rw [hn, hs, if_neg (by simp), List.append_nil]; exact hb.more _⟩⟩
    refine AppA.own 1048576 (by kernel_rfl) (hb.more _).bld (.lit _ _ _) (by simp; omega) fun v' σ' ha' => ?_
    have hb' := (hb.more _).app ha'
    simp only [go_sem, simprocAttr, ↓reduceIte, h45, hb'.ok, hb'.un]
    refine ⟨hlt, int_succ hlt (by rw [maxLen_eq]; omega), _, rfl, ?_⟩
    rw [hn, hs, if_pos rfl, List.map_append]
    exact hb'
  simp only [go_sem, simprocAttr, ↓reduceIte, h5, hb.ok, hb.un]
  exact ⟨hb.weak, hb.ext⟩

theorem ex_causes (all : List Pkg) (hpm : ∀ p ∈ all, MayN p) (h24 : all.length ≤ 26) : PureFn prog W0 19 [pkgsAV all] (if mayAll all = 0 then .tup [causesAV (causesA all all.length), .int .i64 0] else .tup [.nils, .int .i64 (mayAll all)]) := by
  refine fn_pure [2, 3] [7] func19 rfl rfl ntmps19 rfl rfl (by
    split
    · refine .tup fun x hx => ?_
      simp at hx
      rcases hx with rfl | rfl
      · exact ids_map (fun c => .agg fun x hx => by simp at hx; rcases hx with rfl | rfl | rfl <;> exact .int _ _) _
      · exact .int _ _
    · refine .tup fun x hx => ?_
      simp at hx
      rcases hx with rfl | rfl
      · exact .nils
      · exact .int _ _) fun hs σ => ?_
  simp only [go_sem, simprocAttr, ↓reduceIte, pkgsAV]
  refine CallA.fn (re_mayAll all hpm) ?_
  simp only [go_sem, simprocAttr, ↓reduceIte, pkgsAV]
  refine ⟨fun h0 => ?_, fun h0 => ?_⟩
  · rw [if_neg (by simpa using h0)]
    exact .refl _
  have h0' : mayAll all = 0 := by simpa using h0
  have hm : ∀ p ∈ all, mayPkg p = 0 := fun p hp => mayAll_pkg h0' hp
  rw [if_pos h0']
  refine LoopVC.at [15, 16] (.of (by kernel_rfl)) (fun A => ∃ v, A.env 5 = v ∧ Built σ A.st v 40 ((causesA all all.length).map causeAV)) ?_ fun B ⟨v, h3, hb⟩ => ?_
  · refine LoopVC.upto [15, 16] (.of (by kernel_rfl)) all.length (fun i A => ∃ v, A.env 5 = v ∧ A.env 17 = .int .i64 i ∧ Built σ A.st v 40 ((causesA all i).map causeAV)) 0 (Nat.zero_le _) ?_ fun i B hi ⟨v, h3, h11, hb⟩ => ?_
    · simp only [go_sem, simprocAttr, ↓reduceIte]
      exact ⟨_, rfl, Built.nil (.refl _) _⟩
    have o1 := hb.ok
    have o2 := hb.un
    simp only [go_sem, simprocAttr, ↓reduceIte, h3, h11, o1, o2, List.length_map]
    refine ⟨fun hc => ?_, fun hc => ⟨_, rfl, (show i = all.length by omega) ▸ hb⟩⟩
    obtain ⟨p, hp⟩ := get_some hc
    have hcl := causesA_len hm i
    have hpm := hm p (List.mem_of_getElem? hp)
    simp only [go_sem, simprocAttr, ↓reduceIte, atV_map hp, h3, h11, o1, o2, List.length_map]
    refine ⟨hc, LoopVC.ats [15, 16, 17] (.of (by kernel_rfl)) (fun A => ∃ v, A.env 5 = v ∧ Built σ A.st v 40 ((causesA all (i + 1)).map causeAV)) ?_ fun C ⟨v2, h3, hb2⟩ => ?_⟩
    · refine LoopVC.upto [6, 7, 15, 16, 17] (.of (by kernel_rfl)) 5 (fun d A => 1 ≤ d ∧ A.env 8 = .int .i64 d ∧ ∃ v, A.env 5 = v ∧ Built σ A.st v 40 ((causesA all i ++ (List.range d).flatMap fun d => causesK p i d).map causeAV)) 1 (by omega) ?_ fun d C hd ⟨hd1, h29, v2, h3, hb2⟩ => ?_
      · simp only [go_sem, simprocAttr, ↓reduceIte]
        refine ⟨v, h3, ?_⟩
        have : (List.range 0 ++ [0]).flatMap (fun d => causesK p i d) = [] := by simp [causesK, kindN]
        rw [this, List.append_nil]
        exact hb.more [none]
      have o3 := hb2.ok
      have o4 := hb2.un
      have hrl := causesR_len hpm i d
      rcases Nat.lt_or_ge d 5 with hd5 | hd5
      · have hd6 : (d : Int) ≤ 4 := by omega
        have hkl := kind_le hpm d
        have hkI := kindN_I p d hd1 hd5
        simp only [go_sem, simprocAttr, ↓reduceIte, h29, h3, o3, o4, hd6]
        refine ⟨.of (by kernel_rfl), CallP.fn (ex_clauses p d) ?_⟩
        simp only [go_sem, simprocAttr, ↓reduceIte, h29, h3, o3, o4, clausesAV, List.length_map]
        refine CallP.fn (ex_atoms p d) ?_
        have hw : IntKind.i64.wrap (((clI p d).length : Int) + ((atI p d).length : Int)) = (kindN p d : Nat) := by rw [wrap_in (by omega), hkI]; simp
        simp only [go_sem, simprocAttr, ↓reduceIte, h29, h3, o3, o4, atomsAV, List.length_map, hw]
        refine LoopVC.ats [6, 7, 8, 15, 16, 17] (.of (by kernel_rfl)) (fun A => ∃ v, A.env 5 = v ∧ Built σ A.st v 40 ((causesA all i ++ (List.range (d + 1)).flatMap fun d => causesK p i d).map causeAV)) ?_ fun D ⟨v3, h3, hb3⟩ => ?_
        · refine LoopVC.upto [6, 7, 8, 15, 16, 17, 34] (.of (by kernel_rfl)) (kindN p d) (fun k A => A.env 35 = .int .i64 k ∧ ∃ v, A.env 5 = v ∧ Built σ A.st v 40 (((causesA all i ++ (List.range d).flatMap fun d => causesK p i d) ++ (List.range k).map fun k => (i, d, k)).map causeAV)) 0 (Nat.zero_le _) ?_ fun k D hk ⟨h34, v3, h3, hb3⟩ => ?_
          · simp only [go_sem, simprocAttr, ↓reduceIte]
            exact ⟨v2, h3, by simpa using hb2⟩
          have o5 := hb3.ok
          have o6 := hb3.un
          simp only [go_sem, simprocAttr, ↓reduceIte, h34, h3, h29, o5, o6]
          refine ⟨fun hkd => ?_, fun hkd => ⟨_, rfl, ?_⟩⟩
          · have hlen : ((causesA all i ++ (List.range d).flatMap fun d => causesK p i d) ++ (List.range k).map fun k => (i, d, k)).length ≤ 2000 := by
              rw [List.length_append, List.length_append, List.length_map, List.length_range]
              omega
            refine AppA.ownS (σ := D.st) (by simp only [go_sem, simprocAttr, ↓reduceIte]) 1048576 (by kernel_rfl) hb3.bld (.lit _ _ _) (Nat.le_trans (Nat.add_le_add_right (by rw [List.length_map]; exact hlen) 1) (by decide)) fun v' σ' ha' => ?_
            have hb' := hb3.app ha'
            have o7 := hb'.ok
            have o8 := hb'.un
            simp only [go_sem, simprocAttr, ↓reduceIte, h34, h3, h29, o5, o6, o7, o8]
            refine ⟨hkd, int_succ hkd (by rw [maxLen_eq]; omega), _, rfl, ?_⟩
            simpa [List.range_succ, causeAV] using hb'
          · have e : k = kindN p d := by omega
            rw [List.flatMap_append, List.flatMap_singleton, causesK, ← e, ← List.append_assoc]
            exact hb3
        simp only [go_sem, simprocAttr, ↓reduceIte, h3, h29]
        exact ⟨hd5, int_succ hd5 (by rw [maxLen_eq]; omega), _, rfl, by rw [← List.range_succ]; exact hb3⟩
      · have hd6 : ¬(d : Int) ≤ 4 := by omega
        simp only [go_sem, simprocAttr, ↓reduceIte, h29, h3, o3, o4, hd6]
        have e5 : d = 5 := by omega
        refine ⟨_, rfl, ?_⟩
        rw [causesA_succ hp, ← e5]
        exact hb2
    simp only [go_sem, simprocAttr, ↓reduceIte, h3, h11, hb2.ok, hb2.un]
    exact ⟨hc, _, rfl, int_succ hc (by rw [maxLen_eq]; omega), hb2⟩
  simp only [go_sem, simprocAttr, ↓reduceIte, h3, hb.ok, hb.un]
  exact ⟨weak_tup2 hb.weak (.refl _), hb.ext⟩
end Go.Proofs.Tryz
end
section
set_option linter.unusedSimpArgs false
set_option linter.unusedVariables false
namespace Go.Proofs.Tryz
open Go Go.Av
set_option maxRecDepth 10000
set_option linter.unusedSimpArgs false
set_option linter.unusedVariables false
variable {W0 : World}

/-- No model has both. -/
def Apart (cls : List (List Int)) (a b : Nat) : Prop := ∀ M, setT M cls = true → M (a + 1) = true → M (b + 1) = true → False
/-- The clauses that are being made, and the pairs that have been. -/
structure SplSt (τ st : Store) (mid sid n : Nat) (cv : AV) (cls : List (List Int)) : Prop where
  ext : Ext τ st
  mlo : τ.length ≤ mid
  slo : τ.length ≤ sid
  mo : ∃ l, st[mid]? = some (some (.mp 125 l)) ∧ ∀ p ∈ l, ∃ a b, p = (keyAV a b, .int .i64 1) ∧ Apart cls a b
  so : st[sid]? = some (setO n cv)
  bld : Bld st cv 90 (cls.map litsAV)
  clo : ∀ j ∈ foot cv, τ.length ≤ j
  ok : SetOk n cls

theorem SplSt.more {τ st : Store} {mid sid n : Nat} {cv : AV} {cls : List (List Int)} (h : SplSt τ st mid sid n cv cls) (l : Store) : SplSt τ (st ++ l) mid sid n cv cls := by
  have old : ∀ j, j < st.length → (st ++ l)[j]? = st[j]? := fun j hj => List.getElem?_append_left hj
  obtain ⟨m, hm, hm2⟩ := h.mo
  exact ⟨h.ext.app l, h.mlo, h.slo, ⟨m, by rw [old _ (List.getElem?_eq_some_iff.1 hm).1, hm], hm2⟩, by rw [old _ (List.getElem?_eq_some_iff.1 h.so).1, h.so], h.bld.keep fun j hj => old j (h.bld.lt j hj), h.clo, h.ok⟩

theorem setOk_add {n : Nat} {cls cls' : List (List Int)} {c : List Int} (h : SetOk n cls) (hl : cls'.length ≤ 5000) (hd : ∀ d ∈ cls', d ∈ cls ∨ d.Perm c) (hw : wfC n c = true) (h0 : c ≠ []) (hc : c.length ≤ 1048576) : SetOk n cls' := by
  refine ⟨h.small, hl, fun d hdm => ?_⟩
  rcases hd d hdm with h1 | h1
  · exact h.wf d h1
  · refine ⟨fun e => h0 ?_, by rw [h1.length_eq]; exact hc, fun l hl => ?_⟩
    · subst e; exact h1.symm.eq_nil
    · have := List.all_eq_true.1 hw l (h1.subset hl)
      exact wfL_iff.1 this

/-- A clause more; whatever the map is now, its pairs are apart. -/
theorem SplSt.add {τ st st' : Store} {mid sid n : Nat} {cv cv' : AV} {cls cls' : List (List Int)} {c : List Int} {l : List (AV × AV)} (hx : Ext τ st) (hml : τ.length ≤ mid) (hsl : τ.length ≤ sid) (hmo : st[mid]? = some (some (.mp 125 l))) (hso : st[sid]? = some (setO n cv)) (hbl : Bld st cv 90 (cls.map litsAV)) (hcl : ∀ j ∈ foot cv, τ.length ≤ j) (hok : SetOk n cls)
    (hp : ∀ p ∈ l, ∃ a b, p = (keyAV a b, .int .i64 1) ∧ Apart cls' a b) (hf : Fr (sid :: foot cv) st st') (hs : st'[sid]? = some (setO n cv')) (hb : Bld st' cv' 90 (cls'.map litsAV)) (hft : ∀ j ∈ foot cv', j ∈ foot cv ∨ st.length ≤ j)
    (hl : cls'.length ≤ 5000) (hd : ∀ d ∈ cls', d ∈ cls ∨ d.Perm c) (hw : wfC n c = true) (h0 : c ≠ []) (hc : c.length ≤ 1048576) : SplSt τ st' mid sid n cv' cls' := by
  have ne : mid ≠ sid := fun e => by rw [e, hso] at hmo; simp [setO] at hmo
  refine ⟨hf.toExt hx fun j hj => ?_, hml, hsl, ⟨l, ?_, hp⟩, hs, hb, fun j hj => ?_, setOk_add hok hl hd hw h0 hc⟩
  · rcases List.mem_cons.1 hj with rfl | hj
    · exact hsl
    · exact hcl j hj
  · rw [hf.old mid (List.getElem?_eq_some_iff.1 hmo).1 (by simp [ne, hbl.ne hmo]), hmo]
  · rcases hft j hj with h1 | h1
    · exact hcl j h1
    · have := hx.le; omega

theorem neg_pair_wf {n i k : Nat} (hi : i < n) (hk : k < n) : wfC n [-litN i, -litN k] = true := by
  simp only [wfC, List.all_cons, List.all_nil, Bool.and_true, Bool.and_eq_true, wfL_iff, litN]
  exact ⟨⟨by omega, by omega⟩, by omega, by omega⟩
theorem neg_pair_cla (M : Nat → Bool) (i k : Nat) : claT M [-litN i, -litN k] = true ↔ (M (i + 1) = true → M (k + 1) = true → False) := by
  simp only [claT, List.any_cons, List.any_nil, Bool.or_false, litT_not]
  cases M (i + 1) <;> cases M (k + 1) <;> simp

theorem ex_split {τ st : Store} {mid sid n : Nat} {cv : AV} {cls : List (List Int)} (h : SplSt τ st mid sid n cv cls) (hl5 : cls.length < 5000) (i k : Nat) (hi : i < n) (hk : k < n) :
    ACall prog W0 86 [.int .i64 i, .int .i64 k, .loc 124 (.mp mid), .loc 86 (.ptr 160 sid 0 [])] st fun r st' => ∃ cv' cls', SplSt τ st' mid sid n cv' cls' ∧
      (∀ M, setT M cls' = true ↔ setT M cls = true ∧ (i ≠ k → M (i + 1) = true → M (k + 1) = true → False)) ∧ cls'.length ≤ cls.length + 1 ∧ Fr (mid :: sid :: foot cv) st st' ∧ ∀ j ∈ foot cv', j ∈ foot cv ∨ st.length ≤ j := by
  have hn := h.ok.small
  refine fn_call [] [6, 2000033] func86 rfl rfl ntmps86 rfl rfl fun hs => ?_
  have hmin : minI (i : Int) (k : Int) = ((min i k : Nat) : Int) := by unfold minI; split <;> omega
  have hmax : maxI (i : Int) (k : Int) = ((max i k : Nat) : Int) := by unfold maxI; split <;> omega
  obtain ⟨l, hm, hent⟩ := h.mo
  have hml : mid < st.length := (List.getElem?_eq_some_iff.1 hm).1
  have hmt : mapT prog 124 = some (125, 3) := by kernel_rfl
  have hz : zero1 prog 3 = .int .i64 0 := by kernel_rfl
  have hm' : (st ++ [none])[mid]? = some (some (.mp 125 l)) := by rw [List.getElem?_append_left hml, hm]
  have hat : mpAt (st ++ [none]) 125 (.mp mid) = some l := by simp [mpAt, hm']
  have hkey := pair_key (min i k) (max i k) (by omega) (by omega)
  have hC : ∀ gd, lookC prog gd (st ++ [none]) 124 (.agg 125 [.int .i64 (min i k : Nat), .int .i64 (max i k : Nat)]) (.mp mid) = True := fun gd => by
    refine eq_true ?_
    unfold lookC
    simp only [hmt]
    exact ⟨by kernel_rfl, pair_law, .of hkey, by rw [hat]; rfl⟩
  obtain ⟨v, hV, hv⟩ : ∃ v : Int, lookV prog (st ++ [none]) 124 (.agg 125 [.int .i64 (min i k : Nat), .int .i64 (max i k : Nat)]) (.mp mid) = .int .i64 v ∧ (v = 0 ∨ (v = 1 ∧ Apart cls (min i k) (max i k))) := by
    unfold lookV
    simp only [hmt, hat, Option.getD_some, hz]
    rcases mget_cases (P := prog) l (keyAV (min i k) (max i k)) (.int .i64 0) with ⟨p, hp, h1, h2⟩ | ⟨_, h2⟩
    · obtain ⟨a, b, rfl, h3⟩ := hent p hp
      obtain ⟨rfl, rfl⟩ := pair_inj h1
      exact ⟨1, h2, .inr ⟨rfl, h3⟩⟩
    · exact ⟨0, h2, .inl rfl⟩
  simp only [go_sem, simprocAttr, ↓reduceIte, hmin, hmax, hC, hV]
  have hap : (∃ a b, keyAV a b = keyAV (min i k) (max i k) ∧ Apart cls a b) → ∀ M, setT M cls = true → M (i + 1) = true → M (k + 1) = true → False := fun ⟨a, b, hab, h1⟩ M hM h2 h3 => by
    obtain ⟨rfl, rfl⟩ := pair_inj (congrArg (rig prog) hab)
    rcases Nat.le_total i k with hle | hle
    · rw [Nat.min_eq_left hle, Nat.max_eq_right hle] at h1
      exact h1 M hM h2 h3
    · rw [Nat.min_eq_right hle, Nat.max_eq_left hle] at h1
      exact h1 M hM h3 h2
  refine ⟨fun hg => ?_, fun hg => EndR.normal ?_⟩
  · simp only [Bool.and_eq_true, bne_iff_ne, ne_eq, beq_iff_eq] at hg
    obtain ⟨hik, hv0⟩ := hg
    have hik : i ≠ k := fun e => hik (by rw [e])
    refine PutA.put hmt pair_law hkey rfl hm' ?_
    generalize hσ1 : (st ++ [none]).set mid (some (.mp 125 (mset prog l (.agg 125 [.int .i64 (min i k : Nat), .int .i64 (max i k : Nat)]) (.int .i64 1)))) = σ1
    have hother : ∀ j, j < st.length → j ≠ mid → σ1[j]? = st[j]? := fun j hj hne => by
      rw [← hσ1, List.getElem?_set_ne (Ne.symm hne), List.getElem?_append_left hj]
    have hsl : sid < st.length := (List.getElem?_eq_some_iff.1 h.so).1
    have hne : mid ≠ sid := fun e => by rw [e, h.so] at hm; simp [setO] at hm
    have hso1 : σ1[sid]? = some (setO n cv) := by rw [hother sid hsl (Ne.symm hne), h.so]
    have hb1 : Bld σ1 cv 90 (cls.map litsAV) := h.bld.keep fun j hj => hother j (h.bld.lt j hj) (fun e => h.bld.ne hm (by simp) (by rw [← e]; exact hj))
    have hmo1 : σ1[mid]? = some (some (.mp 125 (mset prog l (keyAV (min i k) (max i k)) (.int .i64 1)))) := by
      rw [← hσ1, List.getElem?_set_self (by simp; omega)]
      rfl
    have hx1 : Ext τ σ1 := by rw [← hσ1]; exact (h.ext.app [none]).set h.mlo _
    have hlen1 : σ1.length = st.length + 1 := by rw [← hσ1]; simp
    simp only [go_sem, simprocAttr, ↓reduceIte]
    refine ⟨.of (by kernel_rfl), CallP.fn (ex_lit i (by omega)) ?_⟩
    have hw1 : IntKind.i64.wrap (-litN i) = -litN i := wrap_in (by unfold litN; omega)
    have hw2 : IntKind.i64.wrap (-litN k) = -litN k := wrap_in (by unfold litN; omega)
    simp only [go_sem, simprocAttr, ↓reduceIte, hw1]
    refine CallP.fn (ex_lit k (by omega)) ?_
    simp only [go_sem, simprocAttr, ↓reduceIte, hw2]
    refine CallA.goes (by simp only [go_sem, simprocAttr, ↓reduceIte]; exact hσ1) ((cn_add σ1 sid n cv cls hso1 hb1 hn hl5 [-litN i, -litN k] (neg_pair_wf hi hk) (by simp) (by simp) (by simp [litN]; omega)).weak (.cons (.refl _) (.cons (.lit _ _) .nil))) fun r σ4 ⟨hr, hf, cv4, cls4, hso, hbl, hft, hM4, hcl4, hd4⟩ => ?_
    simp only [go_sem, simprocAttr, ↓reduceIte]
    refine EndR.normal ?_
    simp only [go_sem, simprocAttr, ↓reduceIte]
    have hM : ∀ M, setT M cls4 = true ↔ setT M cls = true ∧ (M (i + 1) = true → M (k + 1) = true → False) := fun M => by
      rw [hM4 M, Bool.and_eq_true, neg_pair_cla]
    refine ⟨_, .refl _, by have := hf.len; omega, cv4, cls4, SplSt.add hx1 h.mlo h.slo hmo1 hso1 hb1 h.clo h.ok (fun p hp => ?_) hf hso hbl hft (by omega) hd4 (neg_pair_wf hi hk) (by simp) (by simp), fun M => by rw [hM M]; simp [hik], hcl4, ?_, fun j hj => (hft j hj).imp_right fun h => by omega⟩
    rotate_left
    · refine ⟨by have := hf.len; omega, fun j hj hF => ?_⟩
      simp only [List.mem_cons, not_or] at hF
      rw [hf.old j (by omega) (by simp only [List.mem_cons, not_or]; exact hF.2), hother j hj hF.1]
    rcases mset_mem hp with hp | rfl
    · obtain ⟨a, b, rfl, h3⟩ := hent p hp
      exact ⟨a, b, rfl, fun M hM' => h3 M ((hM M).1 hM').1⟩
    · refine ⟨min i k, max i k, rfl, fun M hM' h1 h2 => ?_⟩
      rcases Nat.le_total i k with hle | hle
      · rw [Nat.min_eq_left hle] at h1
        rw [Nat.max_eq_right hle] at h2
        exact ((hM M).1 hM').2 h1 h2
      · rw [Nat.min_eq_right hle] at h1
        rw [Nat.max_eq_left hle] at h2
        exact ((hM M).1 hM').2 h2 h1
  · simp only [go_sem, simprocAttr, ↓reduceIte]
    refine ⟨_, .refl _, by simp, cv, cls, h.more [none], fun M => ⟨fun hM => ⟨hM, fun hne h1 h2 => ?_⟩, fun hM => hM.1⟩, by omega, .ext ((Ext.refl _).app _), fun j hj => .inl hj⟩
    rcases hv with rfl | ⟨rfl, hv⟩
    · have hne' : ¬ (i : Int) = (k : Int) := by omega
      simp [hne'] at hg
    · exact hap ⟨_, _, rfl, hv⟩ M hM h1 h2
end Go.Proofs.Tryz
end
section
set_option linter.unusedSimpArgs false
set_option linter.unusedVariables false
namespace Go.Proofs.Tryz
open Go Go.Av
set_option maxRecDepth 10000
set_option linter.unusedSimpArgs false
set_option linter.unusedVariables false
variable {W0 : World}

/-- A relation, and who meets it. -/
def causeM (all : List Pkg) (c : Nat × Nat × Nat) : AV := .agg 60 [causeAV c, nlAV (meetsL all c)]
def causesM (all : List Pkg) (l : List (Nat × Nat × Nat)) : AV := .sl 60 (l.map (causeM all))

/-- Of the first names so many are apart. -/
def NameS (all : List Pkg) (S : Nat → Bool) (n : Nat) : Prop := ∀ i k, k < i → i < n → nameO all k = nameO all i → S i = true → S k = true → False
def ConS (S : Nat → Bool) (c : Nat × Nat × Nat) (l : List Nat) : Prop := (c.2.1 = 3 ∨ c.2.1 = 4) → ∀ m ∈ l, m ≠ c.1 → S c.1 = true → S m = true → False
def DepS (all : List Pkg) (S : Nat → Bool) (c : Nat × Nat × Nat) : Prop := (c.2.1 = 1 ∨ c.2.1 = 2) → S c.1 = true → ∃ m ∈ meetsL all c, S m = true

/-- The clauses, and a clause that is being made beside them. -/
structure EncL (τ st : Store) (mid sid n : Nat) (cv : AV) (cls : List (List Int)) (v : AV) (xs : List AV) : Prop where
  s : SplSt τ st mid sid n cv cls
  b : Bld st v 88 xs
  ne : ∀ j ∈ foot v, j ∉ foot cv
  lo : ∀ j ∈ foot v, τ.length ≤ j
theorem EncL.more {τ st : Store} {mid sid n : Nat} {cv v : AV} {cls : List (List Int)} {xs : List AV} (h : EncL τ st mid sid n cv cls v xs) (l : Store) : EncL τ (st ++ l) mid sid n cv cls v xs :=
  ⟨h.s.more l, h.b.keep fun j hj => List.getElem?_append_left (h.b.lt j hj), h.ne, h.lo⟩
theorem EncL.split {τ st st' : Store} {mid sid n : Nat} {cv cv' v : AV} {cls cls' : List (List Int)} {xs : List AV} (h : EncL τ st mid sid n cv cls v xs) (hs : SplSt τ st' mid sid n cv' cls') (hf : Fr (mid :: sid :: foot cv) st st') (hft : ∀ j ∈ foot cv', j ∈ foot cv ∨ st.length ≤ j) : EncL τ st' mid sid n cv' cls' v xs := by
  obtain ⟨l, hm, _⟩ := h.s.mo
  refine ⟨hs, h.b.keep fun j hj => hf.old j (h.b.lt j hj) ?_, fun j hj hj2 => ?_, h.lo⟩
  · simp only [List.mem_cons, not_or]
    exact ⟨fun e => h.b.ne hm (by simp) (by rw [← e]; exact hj), fun e => h.b.ne h.s.so (by simp) (by rw [← e]; exact hj), h.ne j hj⟩
  · rcases hft j hj2 with h1 | h1
    · exact h.ne j hj h1
    · have := h.b.lt j hj; omega
theorem EncL.app {τ st st' : Store} {mid sid n : Nat} {cv v v' : AV} {cls : List (List Int)} {xs zs : List AV} (h : EncL τ st mid sid n cv cls v xs) (ha : App st v 88 zs v' st') : EncL τ st' mid sid n cv cls v' zs := by
  obtain ⟨l, hm, hl⟩ := h.s.mo
  have hf := ha.fr
  have hx := h.s.ext.le
  have old : ∀ j, j < st.length → j ∉ foot v → st'[j]? = st[j]? := fun j hj hn => hf.old j hj hn
  have hft := ha.foot h.b
  refine ⟨⟨hf.toExt h.s.ext h.lo, h.s.mlo, h.s.slo, ⟨l, ?_, hl⟩, ?_, h.s.bld.keep fun j hj => old j (h.s.bld.lt j hj) fun e => h.ne j e hj, h.s.clo, h.s.ok⟩, ha.bld, fun j hj hj2 => ?_, fun j hj => ?_⟩
  · rw [old mid (List.getElem?_eq_some_iff.1 hm).1 (h.b.ne hm (by simp)), hm]
  · rw [old sid (List.getElem?_eq_some_iff.1 h.s.so).1 (h.b.ne h.s.so (by simp)), h.s.so]
  · rcases hft j hj with h1 | h1
    · exact h.ne j h1 hj2
    · have := h.s.bld.lt j hj2; omega
  · rcases hft j hj with h1 | h1
    · exact h.lo j h1
    · omega

theorem dep_cla {M : Nat → Bool} {i : Nat} {l : List Nat} : claT M (-litN i :: l.map litN) = true ↔ (M (i + 1) = true → ∃ m ∈ l, M (m + 1) = true) := by
  have e : claT M (-litN i :: l.map litN) = (litT M (-litN i) || (l.map litN).any (litT M)) := rfl
  rw [e, litT_not, Bool.or_eq_true, List.any_map]
  have h2 : l.any (litT M ∘ litN) = true ↔ ∃ m ∈ l, M (m + 1) = true := by
    rw [List.any_eq_true]
    simp only [Function.comp, litT_pos]
  rw [h2]
  cases M (i + 1) <;> simp
theorem litN_inj {a b : Nat} (h : litN a = litN b) : a = b := by unfold litN at h; omega
theorem dep_wf {n i : Nat} {l : List Nat} (hi : i < n) (hl : ∀ m ∈ l, m < n) : wfC n (-litN i :: l.map litN) = true := by
  simp only [wfC, List.all_cons, Bool.and_eq_true, wfL_iff, List.all_map, List.all_eq_true]
  refine ⟨⟨by unfold litN; omega, by unfold litN; omega⟩, fun m hm => ?_⟩
  have := hl m hm
  simp only [Function.comp]
  exact wfL_iff.2 ⟨by unfold litN; omega, by unfold litN; omega⟩
theorem dep_nodup {i : Nat} {l : List Nat} (hl : l.Nodup) : (-litN i :: l.map litN).Nodup := by
  refine List.nodup_cons.2 ⟨fun h => ?_, List.Pairwise.map _ (fun a b hab e => hab (litN_inj e)) hl⟩
  obtain ⟨m, _, h2⟩ := List.mem_map.1 h
  unfold litN at h2
  omega

theorem ex_encode (all : List Pkg) (e : List (Nat × Nat × Nat)) (h24 : all.length ≤ 8) (he : ∀ c ∈ e, ValidC all c) (hel : e.length ≤ 500) (σ : Store) :
    ACall prog W0 53 [pkgsAV all, causesM all e] σ fun r σ' => ∃ sid cv cls, r = .ptr 160 sid 0 [] ∧ Ext σ σ' ∧ σ'[sid]? = some (setO all.length cv) ∧ Bld σ' cv 90 (cls.map litsAV) ∧ SetOk all.length cls ∧ ∀ M, setT M cls = true ↔ EncS all e fun i => M (i + 1) := by
  refine fn_call [4] [5, 6, 9, 11, 13] func53 rfl rfl ntmps53 rfl rfl fun hs => ?_
  simp only [go_sem, simprocAttr, ↓reduceIte, pkgsAV, List.length_map]
  refine CallA.goes (by simp only [go_sem, simprocAttr, ↓reduceIte]) (cn_new σ all.length (by omega)) fun r σ1 ⟨hr, hσ⟩ => ?_
  subst hr hσ
  have hmt : mapT prog 124 = some (125, 3) := by kernel_rfl
  have hzm : (zeroOf prog 124).isSome = true := by kernel_rfl
  simp only [go_sem, simprocAttr, ↓reduceIte, hmt, hzm, List.length_map]
  have a0 : SplSt σ (σ ++ [setO all.length .nils, none, some (SObj.mp 125 []), none]) (σ.length + 2) σ.length all.length .nils [] :=
    ⟨(Ext.refl _).app _, by omega, Nat.le_refl _, ⟨[], by simp, by simp⟩, by simp, .inl ⟨rfl, rfl⟩, by simp [foot], ⟨by omega, by simp, by simp⟩⟩
  refine LoopVC.at [1, 5, 7] (.of (by kernel_rfl)) (fun A => ∃ cv cls, SplSt σ A.st (σ.length + 2) σ.length all.length cv cls ∧ (∀ M, setT M cls = true ↔ NameS all (fun i => M (i + 1)) all.length) ∧ cls.length ≤ 64) ?_ fun B ⟨cv, cls, ha, hM, hcl⟩ => ?_
  · refine LoopVC.upto [0, 1, 5, 7, 22, 23] (.of (by kernel_rfl)) all.length (fun i A => A.env 24 = .int .i64 i ∧ ∃ cv cls, SplSt σ A.st (σ.length + 2) σ.length all.length cv cls ∧ (∀ M, setT M cls = true ↔ NameS all (fun i => M (i + 1)) i) ∧ cls.length ≤ i * 8) 0 (Nat.zero_le _) ?_ fun i B hi ⟨h24', cv, cls, ha, hM, hcl⟩ => ?_
    · simp only [go_sem, simprocAttr, ↓reduceIte]
      exact ⟨.nils, [], a0, fun M => ⟨fun _ i k _ h => by omega, fun _ => rfl⟩, by simp⟩
    simp only [go_sem, simprocAttr, ↓reduceIte, h24', List.length_map]
    refine ⟨fun hlt => ⟨hlt, ?_⟩, fun hge => ⟨cv, cls, ha, fun M => by rw [hM M, show i = all.length by omega], by omega⟩⟩
    obtain ⟨p, hp⟩ := get_some hlt
    simp only [go_sem, simprocAttr, ↓reduceIte, atV_map hp, h24', List.length_map]
    refine ⟨by omega, LoopVC.ats [0, 1, 5, 7, 22, 23, 24] (.of (by kernel_rfl)) (fun A => ∃ cv cls, SplSt σ A.st (σ.length + 2) σ.length all.length cv cls ∧ (∀ M, setT M cls = true ↔ NameS all (fun i => M (i + 1)) (i + 1)) ∧ cls.length ≤ (i + 1) * 8) ?_ fun C ⟨cv2, cls2, ha2, hM2, hcl2⟩ => ?_⟩
    · have hmi : min i all.length = i := by omega
      refine LoopVC.upto [0, 1, 5, 7, 8, 9, 22, 23, 24, 31, 32] (.of (by kernel_rfl)) i (fun k A => A.env 33 = .int .i64 k ∧ ∃ cv cls, SplSt σ A.st (σ.length + 2) σ.length all.length cv cls ∧
        (∀ M, setT M cls = true ↔ NameS all (fun i => M (i + 1)) i ∧ ∀ k', k' < k → nameO all k' = nameO all i → M (i + 1) = true → M (k' + 1) = true → False) ∧ cls.length ≤ i * 8 + k) 0 (Nat.zero_le _) ?_ fun k C hk ⟨h33, cv2, cls2, ha2, hM2, hcl2⟩ => ?_
      · simp only [go_sem, simprocAttr, ↓reduceIte]
        exact ⟨cv, cls, ha.more [none], fun M => hM M, by omega⟩
      simp only [go_sem, simprocAttr, ↓reduceIte, h33, List.length_map, List.length_take, hmi]
      refine ⟨fun hki => ?_, fun hki => ⟨cv2, cls2, ha2, fun M => ?_, by omega⟩⟩
      · obtain ⟨q, hq⟩ := get_some (l := all) (show k < all.length by omega)
        have hqt : (all.take i)[k]? = some q := by rw [List.getElem?_take_of_lt hki, hq]
        have hac : atV (List.take i (List.map pkgAV all)) (k : Int) = pkgAV q := by rw [← List.map_take]; exact atV_map hqt
        simp only [go_sem, simprocAttr, ↓reduceIte, h33, List.length_map, List.length_take, hmi, hac, pkgAV]
        have en : p.name = q.name ↔ nameO all k = nameO all i := by
          simp only [nameO, hp, hq, Option.map_some, Option.some.injEq]
          exact eq_comm
        refine ⟨hki, fun hn => ?_, fun hn => ⟨hki, int_succ hki (by rw [maxLen_eq]; omega), cv2, cls2, ha2.more [none], fun M => ?_, by omega⟩⟩
        · refine CallA.goes (by simp only [go_sem, simprocAttr, ↓reduceIte]) (ex_split (ha2.more [none]) (by omega) i k hlt (by omega)) fun r σ2 ⟨cv3, cls3, ha3, hM3, hcl3, _, _⟩ => ?_
          simp only [go_sem, simprocAttr, ↓reduceIte, h33]
          refine ⟨hki, int_succ hki (by rw [maxLen_eq]; omega), cv3, cls3, ha3, fun M => ?_, by omega⟩
          rw [hM3 M, hM2 M]
          constructor
          · rintro ⟨⟨h1, h2⟩, h3⟩
            refine ⟨h1, fun k' hk' hn' => ?_⟩
            rcases Nat.lt_or_ge k' k with h | h
            · exact h2 k' h hn'
            · rw [show k' = k by omega]; exact h3 (by omega)
          · rintro ⟨h1, h2⟩
            exact ⟨⟨h1, fun k' hk' => h2 k' (by omega)⟩, fun _ => h2 k (by omega) (en.1 hn)⟩
        · rw [hM2 M]
          constructor
          · rintro ⟨h1, h2⟩
            refine ⟨h1, fun k' hk' hn' => ?_⟩
            rcases Nat.lt_or_ge k' k with h | h
            · exact h2 k' h hn'
            · rw [show k' = k by omega] at hn'
              exact (hn (en.2 hn')).elim
          · rintro ⟨h1, h2⟩
            exact ⟨h1, fun k' hk' => h2 k' (by omega)⟩
      · rw [hM2 M]
        constructor
        · rintro ⟨h1, h2⟩ a b hba hai hn'
          rcases Nat.lt_or_ge a i with h | h
          · exact h1 a b hba h hn'
          · have e : a = i := by omega
            subst e
            exact h2 b (by omega) hn'
        · intro h
          exact ⟨fun a b hba hai => h a b hba (by omega), fun k' hk' hn' => h i k' (by omega) (by omega) hn'⟩
    simp only [go_sem, simprocAttr, ↓reduceIte, h24']
    exact ⟨hlt, int_succ hlt (by rw [maxLen_eq]; omega), cv2, cls2, ha2, hM2, hcl2⟩
  simp only [go_sem, simprocAttr, ↓reduceIte, causesM, List.length_map]
  refine LoopVC.at [5] (.of (by kernel_rfl)) (fun A => ∃ cv cls, SplSt σ A.st (σ.length + 2) σ.length all.length cv cls ∧ ∀ M, setT M cls = true ↔ EncS all e fun i => M (i + 1)) ?_ fun B2 ⟨cv2, cls2, ha2, hM2⟩ => ?_
  · refine LoopVC.upto [5, 7, 49, 50] (.of (by kernel_rfl)) e.length (fun b A => A.env 51 = .int .i64 b ∧ ∃ cv cls, SplSt σ A.st (σ.length + 2) σ.length all.length cv cls ∧
      (∀ M, setT M cls = true ↔ NameS all (fun i => M (i + 1)) all.length ∧ ∀ c ∈ e.take b, ConS (fun i => M (i + 1)) c (meetsL all c) ∧ DepS all (fun i => M (i + 1)) c) ∧ cls.length ≤ 64 + b * 9) 0 (Nat.zero_le _) ?_ fun b C hb ⟨h51, cv2, cls2, ha2, hM2, hcl2⟩ => ?_
    · simp only [go_sem, simprocAttr, ↓reduceIte]
      exact ⟨cv, cls, ha, fun M => by rw [hM M]; simp, by omega⟩
    simp only [go_sem, simprocAttr, ↓reduceIte, h51, List.length_map]
    refine ⟨fun hlt => ⟨hlt, ?_⟩, fun hge => ⟨cv2, cls2, ha2, fun M => ?_⟩⟩
    · obtain ⟨c, hc⟩ := get_some hlt
      obtain ⟨i, d, k⟩ := c
      have hcv := he _ (List.mem_of_getElem? hc)
      obtain ⟨p, hp, v1, v2, v3⟩ := hcv
      simp only at hp v1 v2 v3
      have hil := (List.getElem?_eq_some_iff.1 hp).1
      have hml : (meetsL all (i, d, k)).length ≤ 8 := Nat.le_trans (meetsN_len _ _ _) h24
      have hmlt : ∀ m ∈ meetsL all (i, d, k), m < all.length := fun m hm => meetsL_lt hm
      have hmnd := meetsL_nodup all (i, d, k)
      simp only [atV_map hc]
      generalize hms : meetsL all (i, d, k) = ms at hml hmlt hmnd
      have hcm : causeM all (i, d, k) = .agg 60 [.agg 40 [.int .i64 (i : Nat), .int .i64 (d : Nat), .int .i64 (k : Nat)], .sl 3 (ms.map fun k => .int .i64 (k : Nat))] := by rw [causeM, hms]; rfl
      simp only [go_sem, simprocAttr, ↓reduceIte, hcm, h51]
      refine CallA.fn (ex_lit i (by omega)) ?_
      have hw1 : IntKind.i64.wrap (-litN i) = -litN i := wrap_in (by unfold litN; omega)
      simp only [go_sem, simprocAttr, ↓reduceIte, hw1, List.length_map]
      refine LoopVC.at [5, 7, 13, 49, 50, 51] (.of (by kernel_rfl)) (fun A => ∃ cv cls v, A.env 14 = v ∧ EncL σ A.st (σ.length + 2) σ.length all.length cv cls v ((-litN i :: ms.map litN).map (.int .i64)) ∧
        (∀ M, setT M cls = true ↔ setT M cls2 = true ∧ ConS (fun i => M (i + 1)) (i, d, k) ms) ∧ cls.length ≤ cls2.length + 8) ?_ fun D ⟨cv3, cls3, v, h14, hL, hM3, hcl3⟩ => ?_
      · refine LoopVC.upto [5, 7, 13, 49, 50, 51, 62, 63] (.of (by kernel_rfl)) ms.length (fun m A => A.env 64 = .int .i64 m ∧ ∃ cv cls v, A.env 14 = v ∧ EncL σ A.st (σ.length + 2) σ.length all.length cv cls v ((-litN i :: (ms.take m).map litN).map (.int .i64)) ∧
          (∀ M, setT M cls = true ↔ setT M cls2 = true ∧ ConS (fun i => M (i + 1)) (i, d, k) (ms.take m)) ∧ cls.length ≤ cls2.length + m) 0 (Nat.zero_le _) ?_ fun m D hm ⟨h64, cv3, cls3, v, h14, hL, hM3, hcl3⟩ => ?_
        · simp only [go_sem, simprocAttr, ↓reduceIte]
          refine ⟨cv2, cls2, _, rfl, ⟨ha2.more [none], .inr (.inl rfl), by simp [foot], by simp [foot]⟩, fun M => ?_, by omega⟩
          exact ⟨fun h => ⟨h, fun _ m hm => by simp at hm⟩, fun h => h.1⟩
        have o1 := hL.b.ok
        have o2 := hL.b.un
        simp only [go_sem, simprocAttr, ↓reduceIte, h64, h14, o1, o2, List.length_map]
        refine ⟨fun hlt2 => ?_, fun hge2 => ⟨cv3, cls3, v, rfl, by rw [List.take_of_length_le hge2] at hL; exact hL, fun M => by rw [hM3 M, List.take_of_length_le hge2], by omega⟩⟩
        obtain ⟨x, hx⟩ := get_some hlt2
        have hxl := hmlt x (List.mem_of_getElem? hx)
        have hax : atV (List.map (fun k : Nat => AV.int IntKind.i64 (k : Nat)) ms) (m : Int) = .int .i64 (x : Nat) := atV_map (f := fun k : Nat => AV.int .i64 (k : Nat)) hx
        try simp only [hax]
        refine ⟨hlt2, JoinVC.at [5, 7, 13, 14, 16, 49, 50, 51, 62, 63, 64] (by kernel_rfl) (fun A => ∃ cv cls, EncL σ A.st (σ.length + 2) σ.length all.length cv cls v ((-litN i :: (ms.take m).map litN).map (.int .i64)) ∧
          (∀ M, setT M cls = true ↔ setT M cls2 = true ∧ ConS (fun i => M (i + 1)) (i, d, k) (ms.take (m + 1))) ∧ cls.length ≤ cls2.length + (m + 1)) (fun hd => ?_) (fun hd => ?_) fun E ⟨cv4, cls4, hL4, hM4, hcl4⟩ => ?_⟩
        · have hd34 : d = 3 ∨ d = 4 := by
            simp only [Bool.or_eq_true, beq_iff_eq] at hd
            omega
          simp only [go_sem, simprocAttr, ↓reduceIte]
          refine CallA.goes (by simp only [go_sem, simprocAttr, ↓reduceIte]) (ex_split hL.s (by omega) i x hil hxl) fun r σ2 ⟨cv4, cls4, ha4, hM4, hcl4, hf4, hft4⟩ => ?_
          simp only [go_sem, simprocAttr, ↓reduceIte]
          refine ⟨cv4, cls4, hL.split ha4 hf4 hft4, fun M => ?_, by omega⟩
          rw [hM4 M, hM3 M, take_succ_get hx]
          constructor
          · rintro ⟨⟨h1, h2⟩, h3⟩
            refine ⟨h1, fun hk y hy hyi g1 g2 => ?_⟩
            rcases List.mem_append.1 hy with hy | hy
            · exact h2 hk y hy hyi g1 g2
            · rw [List.mem_singleton.1 hy] at hyi g2
              exact h3 (fun e => hyi e.symm) g1 g2
          · rintro ⟨h1, h2⟩
            exact ⟨⟨h1, fun hk y hy => h2 hk y (List.mem_append_left _ hy)⟩, fun hne g1 g2 => h2 hd34 x (by simp) (fun e => hne e.symm) g1 g2⟩
        · have hd34 : ¬ (d = 3 ∨ d = 4) := by
            simp only [Bool.or_eq_false_iff, beq_eq_false_iff_ne] at hd
            omega
          simp only [go_sem, simprocAttr, ↓reduceIte]
          refine ⟨cv3, cls3, hL, fun M => ?_, by omega⟩
          rw [hM3 M]
          exact ⟨fun h => ⟨h.1, fun hk => (hd34 hk).elim⟩, fun h => ⟨h.1, fun hk => (hd34 hk).elim⟩⟩
        · have o1 := hL4.b.ok
          have o2 := hL4.b.un
          simp only [go_sem, simprocAttr, ↓reduceIte, h64, h14, o1, o2, hax]
          refine CallA.fn (ex_lit x (by omega)) ?_
          simp only [go_sem, simprocAttr, ↓reduceIte, h64, h14, o1, o2]
          refine AppA.ownS (σ := E.st) (by simp only [go_sem, simprocAttr, ↓reduceIte]) 1048576 (by kernel_rfl) hL4.b (.lit _ _ _) (by simp; omega) fun v' σ' ha' => ?_
          have hL5 := hL4.app ha'
          have o3 := hL5.b.ok
          have o4 := hL5.b.un
          simp only [go_sem, simprocAttr, ↓reduceIte, h64, h14, o3, o4]
          refine ⟨hlt2, int_succ hlt2 (by rw [maxLen_eq]; omega), cv4, cls4, v', rfl, ?_, hM4, hcl4⟩
          rw [take_succ_get hx]
          simpa using hL5
      · have o1 := hL.b.ok
        have o2 := hL.b.un
        have hstep : ∀ M : Nat → Bool, (NameS all (fun i => M (i + 1)) all.length ∧ ∀ c ∈ e.take (b + 1), ConS (fun i => M (i + 1)) c (meetsL all c) ∧ DepS all (fun i => M (i + 1)) c) ↔ (setT M cls3 = true ∧ DepS all (fun i => M (i + 1)) (i, d, k)) := fun M => by
          rw [hM3 M, hM2 M, take_succ_get hc]
          constructor
          · rintro ⟨h1, h2⟩
            have := h2 (i, d, k) (by simp)
            rw [hms] at this
            exact ⟨⟨⟨h1, fun c hc => h2 c (List.mem_append_left _ hc)⟩, this.1⟩, this.2⟩
          · rintro ⟨⟨⟨h1, h2⟩, h3⟩, h4⟩
            refine ⟨h1, fun c hc => ?_⟩
            rcases List.mem_append.1 hc with hc | hc
            · exact h2 c hc
            · rw [List.mem_singleton.1 hc, hms]
              exact ⟨h3, h4⟩
        simp only [go_sem, simprocAttr, ↓reduceIte, h51, h14, o1, o2]
        refine ⟨fun hd => ?_, fun hd => ?_⟩
        · have hd12 : d = 1 ∨ d = 2 := by
            simp only [Bool.or_eq_true, beq_iff_eq] at hd
            omega
          obtain ⟨l, hm, hent⟩ := hL.s.mo
          refine CallA.goes (by simp only [go_sem, simprocAttr, ↓reduceIte]) ((cn_add D.st σ.length all.length cv3 cls3 hL.s.so hL.s.bld (by omega) (by omega) (-litN i :: ms.map litN) (dep_wf hil hmlt) (by simp) (by simp; omega) (dep_nodup hmnd)).weak (.cons (.refl _) (.cons hL.b.weak .nil))) fun r σ4 ⟨hr, hf, cv4, cls4, hso, hbl, hft, hM4, hcl4, hd4⟩ => ?_
          have ha4 := SplSt.add hL.s.ext hL.s.mlo hL.s.slo hm hL.s.so hL.s.bld hL.s.clo hL.s.ok (fun q hq => by
            obtain ⟨x, y, rfl, h3⟩ := hent q hq
            exact ⟨x, y, rfl, fun M hM' => h3 M (by rw [hM4 M, Bool.and_eq_true] at hM'; exact hM'.1)⟩) hf hso hbl hft (by omega) hd4 (dep_wf hil hmlt) (by simp) (by simp; omega)
          simp only [go_sem, simprocAttr, ↓reduceIte, h51]
          refine ⟨hlt, int_succ hlt (by rw [maxLen_eq]; omega), cv4, cls4, ha4, fun M => ?_, by omega⟩
          rw [hstep M, hM4 M, Bool.and_eq_true, dep_cla]
          refine and_congr_right fun _ => ?_
          unfold DepS
          rw [hms]
          exact ⟨fun h _ => h, fun h => h hd12⟩
        · have hd12 : ¬ (d = 1 ∨ d = 2) := by
            simp only [Bool.or_eq_false_iff, beq_eq_false_iff_ne] at hd
            omega
          refine ⟨hlt, int_succ hlt (by rw [maxLen_eq]; omega), cv3, cls3, hL.s, fun M => ?_, by omega⟩
          rw [hstep M]
          exact ⟨fun h => ⟨h, fun h => (hd12 h).elim⟩, fun h => h.1⟩
    · rw [hM2 M, List.take_of_length_le hge]
      constructor
      · rintro ⟨h1, h2⟩
        exact ⟨h1, fun c hc => (h2 c hc).1, fun c hc => (h2 c hc).2⟩
      · intro h
        exact ⟨h.name, fun c hc => ⟨h.con c hc, h.dep c hc⟩⟩
  have hidl := (List.getElem?_eq_some_iff.1 ha2.so).1
  simp only [go_sem, simprocAttr, ↓reduceIte]
  refine EndR.ret ?_
  simp only [go_sem, simprocAttr, ↓reduceIte]
  exact ⟨_, .refl _, ha2.ext.le, _, cv2, cls2, rfl, ha2.ext, ha2.so, ha2.bld, ha2.ok, hM2⟩
end Go.Proofs.Tryz
end
section
set_option linter.unusedSimpArgs false
set_option linter.unusedVariables false
namespace Go.Av
/-- A list, by whatever road it came. -/
def LstV (st : Store) (v : AV) (e : TypeId) (xs : List AV) : Prop := Bld st v e xs ∨ v = .sl e xs
section
variable {st : Store} {v : AV} {e : TypeId} {xs : List AV}
theorem LstV.notM (h : LstV st v e xs) : NotM v := by
  rcases h with h | rfl
  · exact h.notM
  · trivial
theorem LstV.ok (h : LstV st v e xs) (g : Option Bool) : okM g v = True := okM_notM h.notM
theorem LstV.un (h : LstV st v e xs) : unm v = v := unm_notM h.notM
theorem LstV.len (h : LstV st v e xs) : lenV v = .int .i64 xs.length := by
  rcases h with h | rfl
  · exact h.len
  · rfl
theorem LstV.lenC (h : LstV st v e xs) (P : Program) (t : TypeId) : lenC P t v = ((elT P t).isSome = true) := by
  rcases h with h | rfl
  · exact h.lenC P t
  · rfl
theorem LstV.idxV (h : LstV st v e xs) (h0 : 0 < xs.length) (P : Program) (t : TypeId) (i : Int) : indexAddrV P t i v = .loc e (atV xs i) := by
  rcases h with h | rfl
  · exact h.idxV h0 P t i
  · rfl
theorem LstV.idxC (h : LstV st v e xs) (h0 : 0 < xs.length) (P : Program) (gd : Option Bool) (σ : Store) (t : TypeId) (i : Int) : indexAddrC P gd σ t i v = (elT P t = some e ∧ 0 < szOf P e ∧ imp gd (0 ≤ i ∧ i.toNat < xs.length)) := by
  rcases h with h | rfl
  · exact h.idxC h0 P gd σ t i
  · rfl
theorem LstV.weak (h : LstV st v e xs) : Weak v (.sl e xs) := by
  rcases h with h | rfl
  · exact h.weak
  · exact .refl _
theorem LstV.more (h : LstV st v e xs) (l : Store) : LstV (st ++ l) v e xs := by
  rcases h with h | h
  · exact .inl (h.keep fun j hj => List.getElem?_append_left (h.lt j hj))
  · exact .inr h
end
end Go.Av
namespace Go.Proofs.Tryz
open Go Go.Av
set_option maxRecDepth 10000
set_option linter.unusedSimpArgs false
set_option linter.unusedVariables false
variable {W0 : World}

theorem can_some {all : List Pkg} {e : List (Nat × Nat × Nat)} {i : Nat} (hi : i < all.length) (he : ∀ c ∈ e, ValidC all c) {cls : List (List Int)} (hM : ∀ M, setT M cls = true ↔ EncS all e fun i => M (i + 1)) : satA all.length cls [litN i] ↔ someA all e i = true := by
  rw [someA_iff hi he]
  constructor
  · rintro ⟨_, M, h1, h2⟩
    refine ⟨fun i => M (i + 1), (enc_sel he).1 ((hM M).1 h1), ?_⟩
    have := h2 (litN i) (by simp)
    rwa [litT_pos] at this
  · rintro ⟨S, h1, h2⟩
    refine ⟨fun l hl => ?_, fun j => S (j - 1), (hM _).2 ?_, fun l hl => ?_⟩
    · rw [List.mem_singleton.1 hl]
      exact wfL_iff.2 ⟨by unfold litN; omega, by unfold litN; omega⟩
    · exact (enc_sel he).2 (by simpa using h1)
    · rw [List.mem_singleton.1 hl, litT_pos]
      simpa using h2

theorem ex_can (all : List Pkg) (e : List (Nat × Nat × Nat)) (h8 : all.length ≤ 8) (he : ∀ c ∈ e, ValidC all c) (hel : e.length ≤ 500) (i : Nat) (hi : i < all.length) : PureFn prog W0 24 [pkgsAV all, causesM all e, .int .i64 i] (.bool (someA all e i)) := by
  refine fn_pure [6] [] func24 rfl rfl ntmps24 rfl rfl (.bool _) fun hs σ => ?_
  simp only [go_sem, simprocAttr, ↓reduceIte, causesM, pkgsAV]
  refine CallA.goes (by simp only [go_sem, simprocAttr, ↓reduceIte]) (ex_encode all e h8 he hel σ) fun r σ1 ⟨sid, cv, cls, hr, hx, hid, hb, hk, hM⟩ => ?_
  subst hr
  simp only [go_sem, simprocAttr, ↓reduceIte]
  refine CallA.fn (ex_lit i (by omega)) ?_
  simp only [go_sem, simprocAttr, ↓reduceIte]
  refine CallA.goes (by simp only [go_sem, simprocAttr, ↓reduceIte]) ((sa_solve sid hid hb hk [litN i] (by simp)).weak (.cons (.refl _) (.cons (.lit _ _) (.cons (.refl _) .nil)))) fun r σ2 ⟨hx2, hr⟩ => ?_
  have hx3 := hx.trans hx2
  rcases hr with ⟨rfl, hno⟩ | ⟨M, rfl, h1, h2, h3⟩
  · simp only [go_sem, simprocAttr, ↓reduceIte]
    refine ⟨weak_bool ?_, hx3⟩
    rw [can_some hi he hM] at hno
    simpa using hno
  · simp only [go_sem, simprocAttr, ↓reduceIte]
    exact ⟨weak_bool ((can_some hi he hM).1 ⟨h3, M, h1, h2⟩).symm, hx3⟩

theorem sl_cloneC (σ : Store) (l : List AV) (h0 : l ≠ []) (hl : l.length ≤ 1048576) : ACall prog W0 26 [.sl 60 l] σ fun r σ' => r = .row 60 σ.length 0 l.length ∧ σ' = σ ++ [some (.cells 60 l)] := by
  refine fn_call [2] [] func26 rfl rfl ntmps26 rfl rfl fun hs => ?_
  cases l with
  | nil => exact absurd rfl h0
  | cons x l =>
    simp only [go_sem, simprocAttr, ↓reduceIte]
    refine AppA.row 1048576 (by kernel_rfl) (.inr (.inl rfl)) (.sl _ _ _) (by simpa using hl) (fun h => by cases h) fun _ => ?_
    simp only [go_sem, simprocAttr, ↓reduceIte]
    refine EndR.ret ?_
    simp only [go_sem, simprocAttr, ↓reduceIte]
    exact ⟨_, .refl _, by simp [killOf], by simp, rfl⟩

theorem erase_map {α β : Type} (f : α → β) (l : List α) (k : Nat) : (l.map f).eraseIdx k = (l.eraseIdx k).map f := by
  refine List.ext_getElem? fun j => ?_
  simp only [List.getElem?_eraseIdx, List.getElem?_map]
  split <;> rfl
theorem whyF_len {can : List (Nat × Nat × Nat) → Bool} : ∀ (f : Nat) (l : List (Nat × Nat × Nat)) (k : Nat), (whyF can f l k).length ≤ l.length
  | 0, l, k => Nat.le_refl _
  | f + 1, l, k => by
    rw [whyF]
    split
    · split
      · exact whyF_len f l (k + 1)
      · exact Nat.le_trans (whyF_len f _ k) (by rw [List.length_eraseIdx]; split <;> omega)
    · exact Nat.le_refl _
theorem laid_erase {l : List AV} {i : Nat} (hi : i < l.length) {w : AV} : (laidL (laidL l i (l.drop (i + 1))) (l.length - 1) [w]).take (l.length - 1) = l.eraseIdx i := by
  have h1 : i + (l.drop (i + 1)).length ≤ l.length := by simp; omega
  have h2 : l.length - 1 + [w].length ≤ (laidL l i (l.drop (i + 1))).length := by rw [laidL_len h1]; simp; omega
  refine List.ext_getElem? fun j => ?_
  rw [List.getElem?_take, List.getElem?_eraseIdx]
  by_cases hj : j < l.length - 1
  · rw [if_pos hj, laidL_get h2, if_neg (by omega), laidL_get h1]
    by_cases hji : j < i
    · rw [if_neg (by omega), if_pos hji]
    · rw [if_pos ⟨by omega, by simp; omega⟩, if_neg hji, List.getElem?_drop]
      congr 1
      omega
  · rw [if_neg hj]
    split
    · omega
    · rw [List.getElem?_eq_none (by omega)]

theorem sl_delC (σ : Store) (id : Nat) (l : List AV) (hid : σ[id]? = some (some (.cells 60 l))) (i : Nat) (hi : i < l.length) (hl : l.length ≤ 1048576) :
    ACall prog W0 25 [.row 60 id 0 l.length, .int .i64 i, .int .i64 ((i + 1 : Nat) : Int)] σ fun r σ' => r = .sl 60 (l.eraseIdx i) ∧ σ' = σ.set id none := by
  have hidl : id < σ.length := (List.getElem?_eq_some_iff.1 hid).1
  refine fn_call [6] [5000013, 5000031, 2000026, 2000000] func25 rfl rfl ntmps25 rfl rfl fun hs => ?_
  have b1 : (i : Int) ≤ ((i + 1 : Nat) : Int) := by omega
  have b2 : ((i : Int) == ((i + 1 : Nat) : Int)) = false := by rw [beq_eq_false_iff_ne]; omega
  simp only [go_sem, simprocAttr, ↓reduceIte, b1, b2]
  have hyl : ((l.drop (i + 1)).take (l.length - (i + 1))).length = l.length - (i + 1) := by simp
  have hye : (l.drop (i + 1)).take (l.length - (i + 1)) = l.drop (i + 1) := List.take_of_length_le (by simp)
  have hdl : (l.drop (i + 1)).length = l.length - (i + 1) := by simp
  refine ⟨⟨by omega, by omega⟩, .of (by kernel_rfl), ⟨by omega, by omega⟩, by omega, ?_⟩
  refine AppA.inRow (ys := l.drop (i + 1)) (by kernel_rfl) (by kernel_rfl) (by simp only [go_sem, simprocAttr, ↓reduceIte]) (zs := l) (by simp only [go_sem, simprocAttr, ↓reduceIte]; exact hid) (.inr (.inr ⟨id, _, _, l, rfl, by simp only [go_sem, simprocAttr, ↓reduceIte]; exact hid, by omega, by rw [Nat.zero_add, hye]⟩)) (by rw [hdl]; omega) ?_
  rw [Nat.zero_add, Nat.sub_zero, hdl, show i + (l.length - (i + 1)) = l.length - 1 by omega]
  simp only [go_sem, simprocAttr, ↓reduceIte]
  have h1 : i + (l.drop (i + 1)).length ≤ l.length := by rw [hdl]; omega
  have e1 : l.length - (l.length - 1) = 1 := by omega
  rw [Nat.zero_add, Nat.zero_add, Nat.zero_add, e1]
  refine ⟨⟨by omega, ⟨_, _, List.getElem?_set_self hidl, by rw [laidL_len h1]; omega⟩⟩, ?_⟩
  refine ClearA.row (v := .agg 60 [.agg 40 [.int .i64 0, .int .i64 0, .int .i64 0], .nils]) (by kernel_rfl) (by simp only [go_sem, simprocAttr, ↓reduceIte]) (by kernel_rfl) (zs := laidL l i (l.drop (i + 1))) (by simp only [go_sem, simprocAttr, ↓reduceIte]; exact List.getElem?_set_self hidl) (by rw [laidL_len h1]; omega) ?_
  simp only [go_sem, simprocAttr, ↓reduceIte]
  rw [List.set_set]
  generalize hw : laidL (laidL l i (l.drop (i + 1))) (l.length - 1) _ = zs
  have hwe : zs.take (l.length - 1) = l.eraseIdx i := by rw [← hw]; exact laid_erase hi
  have hwl : zs.length = l.length := by rw [← hw, laidL_len (by rw [laidL_len h1]; simp; omega), laidL_len h1]
  refine EndR.frz (e := 60) (te := 60) (id := id) (off := 0) (m := l.length - 1) (xs := zs) 6 (by simp only [go_sem, simprocAttr, ↓reduceIte]) (by simp only [go_sem, simprocAttr, ↓reduceIte]; exact List.getElem?_set_self hidl) (by omega) (EndR.ret ?_)
  simp only [go_sem, simprocAttr, ↓reduceIte]
  rw [hwe, List.set_set]
  exact ⟨_, .refl _, by simp, rfl, rfl⟩
/-- A least set of relations, as the program tells it. -/
def whyAV (all : List Pkg) (i : Int) : AV := if mayAll all = 0 then (if 0 ≤ i ∧ i < all.length then (if someA all (causesA all all.length) i.toNat = true then .tup [causesAV [], .bool false, .int .i64 0] else .tup [causesAV (whyL all i.toNat), .bool true, .int .i64 0]) else .tup [causesAV [], .bool false, .int .i64 1]) else .tup [causesAV [], .bool false, .int .i64 (mayAll all)]
theorem ids_cause (c : Nat × Nat × Nat) : IdsLt 0 (causeAV c) := .agg fun x hx => by simp at hx; rcases hx with rfl | rfl | rfl <;> exact .int _ _
theorem ids_tup3 {x y z : AV} (h1 : IdsLt 0 x) (h2 : IdsLt 0 y) (h3 : IdsLt 0 z) : IdsLt 0 (.tup [x, y, z]) := .tup fun a ha => by
  simp at ha
  rcases ha with rfl | rfl | rfl
  · exact h1
  · exact h2
  · exact h3
theorem ids_why (all : List Pkg) (i : Int) : IdsLt 0 (whyAV all i) := by
  unfold whyAV
  split
  · split
    · split <;> exact ids_tup3 (ids_map ids_cause _) (.bool _) (.int _ _)
    · exact ids_tup3 (ids_map ids_cause _) (.bool _) (.int _ _)
  · exact ids_tup3 (ids_map ids_cause _) (.bool _) (.int _ _)

theorem ex_why (all : List Pkg) (hpm : ∀ p ∈ all, MayN p) (h8 : all.length ≤ 8) (i : Int) : PureFn prog W0 10 [pkgsAV all, .int .i64 i] (whyAV all i) := by
  refine fn_pure [4, 5, 6] [11, 16, 2000048, 2000009] func10 rfl rfl ntmps10 rfl rfl (ids_why all i) fun hs σ => ?_
  simp only [go_sem, simprocAttr, ↓reduceIte]
  refine CallA.fn (ex_causes all hpm (by omega)) ?_
  by_cases hm0 : mayAll all = 0
  · rw [if_pos hm0]
    simp only [go_sem, simprocAttr, ↓reduceIte, pkgsAV, List.length_map]
    unfold whyAV
    rw [if_pos hm0]
    refine ⟨fun h => ?_, fun h => ?_⟩
    · have hi : ¬ (0 ≤ i ∧ i < all.length) := by
        simp only [Bool.or_eq_true, decide_eq_true_eq] at h
        omega
      rw [if_neg hi]
      exact weak_tup3 (.sub (.nils _)) (.refl _) (.refl _)
    have hi : 0 ≤ i ∧ i < all.length := by
      simp only [Bool.or_eq_false_iff, decide_eq_false_iff_not] at h
      omega
    rw [if_pos hi]
    obtain ⟨n, rfl⟩ : ∃ n : Nat, i = n := ⟨i.toNat, by omega⟩
    have hn : n < all.length := by omega
    have hnt : ((n : Nat) : Int).toNat = n := by omega
    rw [hnt]
    generalize hL : causesA all all.length = L
    have hLv : ∀ c ∈ L, ValidC all c := by rw [← hL]; exact causesA_valid
    have hLl : L.length ≤ 480 := by
      rw [← hL]
      have := causesA_len (fun p hp => mayAll_pkg hm0 hp) all.length
      omega
    simp only [go_sem, simprocAttr, ↓reduceIte, causesAV, List.length_map]
    refine LoopVC.at [0, 1] (.of (by kernel_rfl)) (fun A => ∃ v, A.env 9 = v ∧ Built σ A.st v 60 (L.map (causeM all))) ?_ fun B ⟨v, h9, hb⟩ => ?_
    · refine LoopVC.upto [0, 1, 35, 36] (.of (by kernel_rfl)) L.length (fun b A => A.env 37 = .int .i64 b ∧ ∃ v, A.env 9 = v ∧ Built σ A.st v 60 ((L.take b).map (causeM all))) 0 (Nat.zero_le _) ?_ fun b B hb0 ⟨h37, v, h9, hb⟩ => ?_
      · simp only [go_sem, simprocAttr, ↓reduceIte]
        exact ⟨_, rfl, Built.nil (.refl _) _⟩
      have o1 := hb.ok
      have o2 := hb.un
      simp only [go_sem, simprocAttr, ↓reduceIte, h37, h9, o1, o2, List.length_map]
      refine ⟨fun hlt => ⟨hlt, ?_⟩, fun hge => ⟨_, rfl, by rw [List.take_of_length_le hge] at hb; exact hb⟩⟩
      obtain ⟨c, hc⟩ := get_some hlt
      have hac : atV (L.map causeAV) (b : Int) = .agg 40 [.int .i64 (c.1 : Nat), .int .i64 (c.2.1 : Nat), .int .i64 (c.2.2 : Nat)] := atV_map hc
      simp only [go_sem, simprocAttr, ↓reduceIte, hac, h37, h9, o1, o2]
      refine ⟨.of (by kernel_rfl), CallP.fn (ex_meets all (hLv c (List.mem_of_getElem? hc)) (by omega)) ?_⟩
      simp only [go_sem, simprocAttr, ↓reduceIte, h37, h9, o1, o2, nlAV]
      refine AppA.own 1048576 (by kernel_rfl) (hb.more _).bld (.lit _ _ _) (by simp; omega) fun v' σ' ha' => ?_
      have hb' := (hb.more _).app ha'
      have o3 := hb'.ok
      have o4 := hb'.un
      simp only [go_sem, simprocAttr, ↓reduceIte, h37, o3, o4]
      refine ⟨hlt, int_succ hlt (by rw [maxLen_eq]; omega), _, rfl, ?_⟩
      rw [take_succ_get hc, List.map_append]
      exact hb'
    have o1 := hb.ok
    have o2 := hb.un
    simp only [go_sem, simprocAttr, ↓reduceIte, h9, o1, o2]
    refine CallA.fn ((ex_can all L h8 hLv (by omega) n hn).weak (.cons (.refl _) (.cons hb.weak (.cons (.refl _) .nil)))) ?_
    simp only [go_sem, simprocAttr, ↓reduceIte, h9, o1, o2]
    refine ⟨fun hs => ?_, fun hs => ?_⟩
    · rw [if_pos hs]
      exact ⟨weak_tup3 (.sub (.nils _)) (.refl _) (.refl _), hb.ext⟩
    rw [if_neg (by simp [hs])]
    refine LoopVC.at [0, 1] (.of (by kernel_rfl)) (fun A => ∃ v, A.env 9 = v ∧ LstV A.st v 60 ((whyL all n).map (causeM all)) ∧ Ext σ A.st) ?_ fun C ⟨u, h9, hu, hst⟩ => ?_
    · refine LoopVC.falls [0, 1] (.of (by kernel_rfl)) (fun f A => ∃ (l : List (Nat × Nat × Nat)) (k : Nat) (v : AV), A.env 9 = v ∧ LstV A.st v 60 (l.map (causeM all)) ∧ A.env 12 = .int .i64 k ∧ f = l.length - k ∧ whyF (fun e => someA all e n) f l k = whyL all n ∧ (∀ c ∈ l, ValidC all c) ∧ l.length ≤ 480 ∧ Ext σ A.st) L.length ?_ fun f C ⟨l, k, u, h9, hu, h12, hf, hw, hlv, hll, hst⟩ => ?_
      · simp only [go_sem, simprocAttr, ↓reduceIte, h9]
        exact ⟨L, 0, v, rfl, .inl hb.bld, rfl, by omega, by rw [whyL, hL], hLv, hLl, hb.ext⟩
      have o3 := hu.ok
      have o4 := hu.un
      have o5 := hu.len
      have o6 := hu.lenC
      simp only [go_sem, simprocAttr, ↓reduceIte, h9, h12, o3, o4, o5, o6, List.length_map]
      refine ⟨fun hk => ?_, fun hk => ?_⟩
      · have hne : l.map (causeM all) ≠ [] := fun e => by have := congrArg List.length e; simp at this; rw [this] at hk; simp at hk
        have hml : (l.map (causeM all)).length = l.length := List.length_map ..
        refine CallA.goes (by simp only [go_sem, simprocAttr, ↓reduceIte]) ((sl_cloneC C.st (l.map (causeM all)) hne (by omega)).weak (.cons hu.weak .nil)) fun r σ1 ⟨hr, hσ⟩ => ?_
        subst hr hσ
        have hw1 : IntKind.i64.wrap ((k : Int) + 1) = ((k + 1 : Nat) : Int) := by rw [wrap_in (by omega)]; omega
        simp only [go_sem, simprocAttr, ↓reduceIte, h12, hw1]
        refine CallA.goes (by simp only [go_sem, simprocAttr, ↓reduceIte]) (sl_delC (C.st ++ [some (.cells 60 (l.map (causeM all)))]) C.st.length (l.map (causeM all)) (by simp) k (by omega) (by omega)) fun r σ2 ⟨hr, hσ⟩ => ?_
        have hme : (l.map (causeM all)).eraseIdx k = (l.eraseIdx k).map (causeM all) := erase_map _ _ _
        have hσ' : σ2 = C.st ++ [none] := by rw [hσ, List.set_append_right _ _ (Nat.le_refl _), Nat.sub_self]; rfl
        rw [hme] at hr
        subst hr hσ'
        have hel : (l.eraseIdx k).length = l.length - 1 := List.length_eraseIdx_of_lt hk
        have hev : ∀ c ∈ l.eraseIdx k, ValidC all c := fun c hc => hlv c ((List.eraseIdx_sublist l k).subset hc)
        simp only [go_sem, simprocAttr, ↓reduceIte]
        refine CallA.fn (ex_can all (l.eraseIdx k) h8 hev (by omega) n hn) ?_
        have hff : f = (f - 1) + 1 := by omega
        rw [hff, whyF, if_pos hk] at hw
        simp only [go_sem, simprocAttr, ↓reduceIte, h9, h12, o3, o4, hw1]
        refine ⟨fun hs2 => ?_, fun hs2 => ?_⟩
        · rw [if_pos hs2] at hw
          exact .here (f - 1) (by omega) ⟨l, k + 1, u, (by simp only [go_sem, simprocAttr, ↓reduceIte, h9]), hu.more _, (by simp only [go_sem, simprocAttr, ↓reduceIte]), by omega, hw, hlv, hll, hst.app _⟩
        · rw [if_neg (by simp [hs2])] at hw
          exact .here (f - 1) (by omega) ⟨l.eraseIdx k, k, _, (by simp only [go_sem, simprocAttr, ↓reduceIte]), .inr rfl, (by simp only [go_sem, simprocAttr, ↓reduceIte, h12]), by omega, hw, hev, by omega, hst.app _⟩
      · have hf0 : f = 0 := by omega
        rw [hf0, whyF] at hw
        rw [← hw]
        exact ⟨u, rfl, hu, hst⟩
    have o3 := hu.ok
    have o4 := hu.un
    have o5 := hu.len
    have o6 := hu.lenC
    have hwl : (whyL all n).length ≤ 480 := by
      have := whyF_len (can := fun e => someA all e n) (causesA all all.length).length (causesA all all.length) 0
      rw [← whyL, hL] at this
      omega
    generalize whyL all n = R at hu hwl o5
    simp only [go_sem, simprocAttr, ↓reduceIte, h9, o3, o4, o5, o6, List.length_map]
    refine LoopVC.at [] (.of (by kernel_rfl)) (fun A => ∃ v, A.env 14 = v ∧ Built σ A.st v 40 (R.map causeAV)) ?_ fun D ⟨w, h14, hb3⟩ => ?_
    · refine LoopVC.upto [71, 72] (.of (by kernel_rfl)) R.length (fun b A => A.env 73 = .int .i64 b ∧ ∃ v, A.env 14 = v ∧ Built σ A.st v 40 ((R.take b).map causeAV)) 0 (Nat.zero_le _) ?_ fun b D hb0 ⟨h73, w, h14, hb3⟩ => ?_
      · simp only [go_sem, simprocAttr, ↓reduceIte]
        exact ⟨_, rfl, Built.nil hst _⟩
      have p1 := hb3.ok
      have p2 := hb3.un
      simp only [go_sem, simprocAttr, ↓reduceIte, h73, h14, p1, p2]
      refine ⟨fun hlt => ?_, fun hge => ⟨_, rfl, by rw [List.take_of_length_le hge] at hb3; exact hb3⟩⟩
      obtain ⟨c, hc⟩ := get_some hlt
      have hpos : 0 < (R.map (causeM all)).length := by rw [List.length_map]; omega
      have hac : atV (R.map (causeM all)) (b : Int) = .agg 60 [causeAV c, nlAV (meetsL all c)] := atV_map hc
      simp only [go_sem, simprocAttr, ↓reduceIte, h73, h14, p1, p2, o3, o4, hu.idxV hpos, hu.idxC hpos, hac, List.length_map, causeAV, nlAV]
      refine ⟨hlt, AppA.own 1048576 (by kernel_rfl) (hb3.more _).bld (.lit _ _ _) (by simp; omega) fun v' σ' ha' => ?_⟩
      have hb' := (hb3.more _).app ha'
      have o7 := hb'.ok
      have o8 := hb'.un
      simp only [go_sem, simprocAttr, ↓reduceIte, h73, o7, o8]
      refine ⟨hlt, int_succ hlt (by rw [maxLen_eq]; omega), _, rfl, ?_⟩
      rw [take_succ_get hc, List.map_append]
      exact hb'
    simp only [go_sem, simprocAttr, ↓reduceIte, h14, hb3.ok, hb3.un]
    exact ⟨weak_tup3 hb3.weak (.refl _) (.refl _), hb3.ext⟩
  · rw [if_neg hm0]
    simp only [go_sem, simprocAttr, ↓reduceIte]
    unfold whyAV
    rw [if_neg hm0]
    exact ⟨fun _ => weak_tup3 (.sub (.nils _)) (.refl _) (.refl _), fun h => absurd h hm0⟩
end Go.Proofs.Tryz
end
section
set_option linter.unusedSimpArgs false
set_option linter.unusedVariables false
namespace Go.Av
section
variable {st : Store} {v : AV} {e : TypeId} {xs : List AV}
end
end Go.Av
namespace Go.Proofs.Tryz
open Go Go.Av
set_option maxRecDepth 10000
set_option linter.unusedSimpArgs false
set_option linter.unusedVariables false
variable {W0 : World}

end Go.Proofs.Tryz
end
