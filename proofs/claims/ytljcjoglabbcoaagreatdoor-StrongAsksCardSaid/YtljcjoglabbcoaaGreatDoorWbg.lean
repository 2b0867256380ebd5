/- Texts that the last one of this claim rests on: a layer over the guide's own conditions for code; contracts of the functions that the law reaches, one by one. No conditions beside those of the given rows. -/
import Derived.Test.YtljcjoglabbcoaaGreatDoorWbe
import Derived.Test.YtljcjoglabbcoaaGreatDoorWbf
section
set_option linter.unusedSimpArgs false
set_option linter.unusedVariables false
namespace Go.Proofs.Tryz
open Go Go.Av
set_option maxRecDepth 10000
set_option linter.unusedSimpArgs false
set_option linter.unusedVariables false
variable {W0 : World}

/-- An asker in memory, behind a store. -/
structure AskSt (τ st : Store) (aid sid n : Nat) (cv : AV) (cls : List (List Int)) : Prop where
  ext : Ext τ st
  alo : τ.length ≤ aid
  slo : τ.length ≤ sid
  ao : st[aid]? = some (askO n sid)
  so : st[sid]? = some (setO n cv)
  bld : Bld st cv 84 (cls.map litsAV)
  clo : ∀ j ∈ foot cv, τ.length ≤ j
  ok : SetOk n cls

theorem AskSt.more {τ st : Store} {aid sid n : Nat} {cv : AV} {cls : List (List Int)} (h : AskSt τ st aid sid n cv cls) (l : Store) : AskSt τ (st ++ l) aid sid n cv cls := by
  have old : ∀ j, j < st.length → (st ++ l)[j]? = st[j]? := fun j hj => List.getElem?_append_left hj
  exact ⟨h.ext.app l, h.alo, h.slo, by rw [old _ (List.getElem?_eq_some_iff.1 h.ao).1, h.ao], by rw [old _ (List.getElem?_eq_some_iff.1 h.so).1, h.so], h.bld.keep fun j hj => old j (h.bld.lt j hj), h.clo, h.ok⟩

theorem AskSt.add {τ st st' : Store} {aid sid n : Nat} {cv cv' : AV} {cls cls' : List (List Int)} {c : List Int} (h : AskSt τ st aid sid n cv cls) (hf : Fr (sid :: foot cv) st st') (hs : st'[sid]? = some (setO n cv')) (hb : Bld st' cv' 84 (cls'.map litsAV)) (hft : ∀ j ∈ foot cv', j ∈ foot cv ∨ st.length ≤ j)
    (hl : cls'.length ≤ 5000) (hd : ∀ d ∈ cls', d ∈ cls ∨ d.Perm c) (hw : wfC n c = true) (h0 : c ≠ []) (hc : c.length ≤ 1048576) : AskSt τ st' aid sid n cv' cls' := by
  have hx := h.ext.le
  have ne : aid ≠ sid := fun e => by have := h.ao; rw [e, h.so] at this; simp [askO, setO] at this
  refine ⟨hf.toExt h.ext fun j hj => ?_, h.alo, h.slo, ?_, hs, hb, fun j hj => ?_, ⟨h.ok.small, hl, fun d hdm => ?_⟩⟩
  · rcases List.mem_cons.1 hj with rfl | hj
    · exact h.slo
    · exact h.clo j hj
  · rw [hf.old aid (List.getElem?_eq_some_iff.1 h.ao).1 (by simp [ne, h.bld.ne h.ao]), h.ao]
  · rcases hft j hj with h1 | h1
    · exact h.clo j h1
    · omega
  · rcases hd d hdm with h1 | h1
    · exact h.ok.wf d h1
    · refine ⟨fun e => h0 ?_, by rw [h1.length_eq]; exact hc, fun l hl => ?_⟩
      · subst e; exact h1.symm.eq_nil
      · have := List.all_eq_true.1 hw l (h1.subset hl)
        exact wfL_iff.1 this

theorem st_ask (σ : Store) (all : List Pkg) (places : List Int) (hp : ∀ p ∈ all, MayN p) (h11 : all.length ≤ 24) (hpl : places.length ≤ 1000) :
    ACall prog W0 22 [pkgsAV all, .sl 3 (places.map (.int .i64))] σ fun r σ' => Ext σ σ' ∧
      ((mayAll all ≠ 0 ∧ r = .tup [.nil, .int .i64 (mayAll all)]) ∨ (mayAll all = 0 ∧ (places.any fun i => decide (i < 0) || decide ((all.length : Int) ≤ i)) = true ∧ r = .tup [.nil, .int .i64 1]) ∨
       (mayAll all = 0 ∧ (places.any fun i => decide (i < 0) || decide ((all.length : Int) ≤ i)) = false ∧ ∃ aid sid cv cls, r = .tup [.ptr 82 aid 0 [], .int .i64 0] ∧ AskSt σ σ' aid sid all.length cv cls ∧ ∀ M, setT M cls = setT M (allL all 0 all))) := by
  refine fn_call [4, 5] [2, 9, 14, 16, 2000029, 2000030, 2000031, 2000007, 2000107] func22 rfl rfl ntmps22 rfl rfl fun hs => ?_
  simp only [go_sem, simprocAttr, ↓reduceIte, pkgsAV]
  refine CallA.fn (re_mayAll all hp) ?_
  simp only [go_sem, simprocAttr, ↓reduceIte, pkgsAV]
  refine ⟨fun h0 => EndR.ret ?_, fun h0 => ?_⟩
  · simp only [go_sem, simprocAttr, ↓reduceIte]
    exact ⟨_, .refl _, .refl _, .inl ⟨h0, rfl⟩⟩
  refine CallA.fn (anInt (.int .i64) NotM.int64 places _ _ [.loc 22 (pkgsAV all)] (fun i _ => st_ask1 all i)) ?_
  simp only [go_sem, simprocAttr, ↓reduceIte, pkgsAV]
  refine ⟨fun h1 => EndR.ret ?_, fun h1 => ?_⟩
  · simp only [go_sem, simprocAttr, ↓reduceIte]
    exact ⟨_, .refl _, .refl _, .inr (.inl ⟨h0, h1, rfl⟩)⟩
  have hal : all.length ≤ 200 := by omega
  simp only [go_sem, simprocAttr, ↓reduceIte, pkgsAV, List.length_map]
  refine ⟨.of (by kernel_rfl), CallA.goes (by simp only [go_sem, simprocAttr, ↓reduceIte]) (cn_new σ all.length hal) fun r σ1 ⟨hr, hσ⟩ => ?_⟩
  subst hr hσ
  simp only [go_sem, simprocAttr, ↓reduceIte, List.length_map]
  have a0 : AskSt σ (σ ++ [setO all.length .nils, askO all.length σ.length]) (σ.length + 1) σ.length all.length .nils [] :=
    ⟨(Ext.refl _).app _, by omega, Nat.le_refl _, by simp, by simp, .inl ⟨rfl, rfl⟩, by simp [foot], ⟨hal, by simp, by simp⟩⟩
  refine LoopVC.at [7] (.of (by kernel_rfl)) (fun A => ∃ cv cls, AskSt σ A.st (σ.length + 1) σ.length all.length cv cls ∧ ∀ M, setT M cls = setT M (allL all 0 all)) ?_ fun B ⟨cv, cls, ha, hM⟩ => ?_
  · refine LoopVC.upto [2, 7, 32, 33] (.of (by kernel_rfl)) all.length (fun i A => A.env 34 = .int .i64 i ∧ ∃ cv cls, AskSt σ A.st (σ.length + 1) σ.length all.length cv cls ∧ (∀ M, setT M cls = setT M (allL all 0 (all.take i))) ∧ cls.length ≤ i * 60) 0 (Nat.zero_le _) ?_ fun i B hi ⟨h34, cv, cls, ha, hM, hcl⟩ => ?_
    · simp only [go_sem, simprocAttr, ↓reduceIte]
      exact ⟨.nils, [], a0, fun M => rfl, by simp⟩
    simp only [go_sem, simprocAttr, ↓reduceIte, h34, List.length_map]
    refine ⟨fun hlt => ⟨hlt, ?_⟩, fun hge => ?_⟩
    · obtain ⟨p, hpi⟩ := get_some hlt
      have hpm := mayPkg_len (mayAll_pkg h0 (List.mem_of_getElem? hpi))
      simp only [atV_map hpi]
      simp only [go_sem, simprocAttr, ↓reduceIte, pkgAV, h34]
      refine CallA.fn ((sl_concat [p.pre, p.dep] (by simp) (by simp; omega)).weak (.cons (.lit _ _) .nil)) ?_
      have efl : [p.pre, p.dep].flatten = p.pre ++ p.dep := by simp
      rw [efl]
      have hpl2 : (p.pre ++ p.dep).length ≤ 24 := by simp; omega
      generalize hD : p.pre ++ p.dep = D at hpl2 ⊢
      clear efl
      have hil : i ≤ 1048576 := by omega
      simp only [go_sem, simprocAttr, ↓reduceIte, clausesAV, List.length_map, h34]
      refine LoopVC.at [2, 7, 8, 9, 32, 33, 34] (.of (by kernel_rfl)) (fun A => ∃ cv cls', AskSt σ A.st (σ.length + 1) σ.length all.length cv cls' ∧ (∀ M, setT M cls' = (setT M (allL all 0 (all.take i)) && setT M (D.map (depL all i)))) ∧ cls'.length ≤ i * 60 + 24) ?_ fun B2 ⟨cv2, cls2, ha2, hM2, hcl2⟩ => ?_
      · refine LoopVC.upto [2, 7, 8, 9, 32, 33, 34, 44, 45] (.of (by kernel_rfl)) D.length (fun j A => A.env 46 = .int .i64 j ∧ ∃ cv cls', AskSt σ A.st (σ.length + 1) σ.length all.length cv cls' ∧ (∀ M, setT M cls' = (setT M (allL all 0 (all.take i)) && setT M ((D.take j).map (depL all i)))) ∧ cls'.length ≤ i * 60 + j) 0 (Nat.zero_le _) ?_ fun j B2 hj ⟨h46, cv2, cls2, ha2, hM2, hcl2⟩ => ?_
        · simp only [go_sem, simprocAttr, ↓reduceIte]
          exact ⟨cv, cls, ha.more _, fun M => by rw [hM M]; simp [setT], by omega⟩
        simp only [go_sem, simprocAttr, ↓reduceIte, h46, List.length_map]
        refine ⟨fun hlt2 => ?_, fun hge2 => ?_⟩
        · obtain ⟨c, hc⟩ := get_some hlt2
          simp only [atV_map hc]
          refine ⟨hlt2, CallA.fn (st_lit i hil) ?_⟩
          have hwn : IntKind.i64.wrap (-(((i + 1 : Nat) : Int))) = -litN i := by rw [wrap_in (by omega)]; rfl
          simp only [go_sem, simprocAttr, ↓reduceIte, h46, List.length_map, hwn]
          refine LoopVC.at [2, 7, 8, 9, 32, 33, 34, 44, 45, 46] (.of (by kernel_rfl)) (fun A => ∃ v, A.env 12 = v ∧ Built B2.st A.st v 54 ((depL all i c).map (.int .i64))) ?_ fun B3 ⟨v, h12, hv⟩ => ?_
          · refine LoopVC.upto [2, 7, 8, 9, 11, 32, 33, 34, 44, 45, 46, 54, 55] (.of (by kernel_rfl)) all.length (fun k A => A.env 56 = .int .i64 k ∧ ∃ v, A.env 12 = v ∧ Built B2.st A.st v 54 ((-litN i :: meetL c 0 (all.take k)).map (.int .i64))) 0 (Nat.zero_le _) ?_ fun k B3 hk ⟨h56, v, h12, hv⟩ => ?_
            · simp only [go_sem, simprocAttr, ↓reduceIte]
              exact ⟨_, rfl, ⟨.inr (.inl rfl), .refl _, fun t h => by cases h⟩⟩
            simp only [go_sem, simprocAttr, ↓reduceIte, h56, h12, List.length_map, hv.ok, hv.un]
            refine ⟨fun hlt3 => ⟨hlt3, ?_⟩, fun hge3 => ?_⟩
            · obtain ⟨q, hq⟩ := get_some hlt3
              simp only [atV_map hq]
              simp only [go_sem, simprocAttr, ↓reduceIte, h56, h12, hv.ok, hv.un]
              have hsl := meetL_succ (c := c) all 0 k q hq
              rw [Nat.zero_add] at hsl
              have hlm := meetL_len (c := c) 0 (all.take k)
              rw [List.length_take] at hlm
              refine CallA.fn (anAtomC atomAV NotM.atom c (satP q) _ [.loc 38 (pkgAV q)] (fun a _ => st_ask2 q a)) ?_
              simp only [go_sem, simprocAttr, ↓reduceIte, h56, h12, hv.ok, hv.un]
              refine ⟨fun hb => ?_, fun hb => ⟨hlt3, int_succ hlt3 (by rw [maxLen_eq]; omega), _, rfl, by rw [hsl, hb, if_neg (by simp), List.append_nil]; exact hv.more _⟩⟩
              refine CallA.fn (st_lit k (by omega)) ?_
              simp only [go_sem, simprocAttr, ↓reduceIte, h56, h12, hv.ok, hv.un]
              refine AppA.own 1048576 (by kernel_rfl) (hv.more _).bld (.lit _ _ _) (by simp; omega) fun v' σ' ha' => ?_
              have hv' := (hv.more _).app ha'
              simp only [go_sem, simprocAttr, ↓reduceIte, h56, hv'.ok, hv'.un]
              refine ⟨hlt3, int_succ hlt3 (by rw [maxLen_eq]; omega), _, rfl, ?_⟩
              rw [hsl, hb, if_pos rfl, List.map_append]
              exact hv'
            · rw [List.take_of_length_le hge3] at hv
              exact ⟨_, rfl, hv⟩
          have ha3 : AskSt σ B3.st (σ.length + 1) σ.length all.length cv2 cls2 := by rw [hv.ext.eq]; exact ha2.more _
          obtain ⟨k1, k2, k3⟩ := depL_ok hlt c
          simp only [go_sem, simprocAttr, ↓reduceIte, h12, hv.ok, hv.un, look_id ha3.ao]
          refine CallA.goes (by simp only [go_sem, simprocAttr, ↓reduceIte]) ((cn_add B3.st σ.length all.length cv2 cls2 ha3.so ha3.bld hal (by omega) (depL all i c) k1 (by simp [depL]) (by omega) k2).weak (.cons (.refl _) (.cons hv.weak .nil))) fun r σ4 ⟨hr, hf, cv4, cls4, hso, hbl, hft, hM4, hcl4, hd4⟩ => ?_
          have ha4 := ha3.add hf hso hbl hft (by omega) hd4 k1 (by simp [depL]) (by omega)
          simp only [go_sem, simprocAttr, ↓reduceIte, h46]
          refine ⟨hlt2, int_succ hlt2 (by rw [maxLen_eq]; omega), cv4, cls4, ha4, fun M => ?_, by omega⟩
          rw [hM4, hM2, take_succ_get hc, List.map_append, setT_app, Bool.and_assoc]
          simp [setT]
        · rw [List.take_of_length_le hge2] at hM2
          exact ⟨cv2, cls2, ha2, hM2, by omega⟩
      simp only [go_sem, simprocAttr, ↓reduceIte, h34, List.length_map]
      have hil2 : (all.take i).length = i := by rw [List.length_take]; omega
      rw [← List.map_take]
      refine ⟨⟨Nat.zero_le _, hi⟩, ?_⟩
      refine LoopVC.ats [2, 7, 32, 33, 34] (.of (by kernel_rfl)) (fun A => ∃ cv cls', AskSt σ A.st (σ.length + 1) σ.length all.length cv cls' ∧ (∀ M, setT M cls' = setT M (allL all 0 (all.take (i + 1)))) ∧ cls'.length ≤ i * 60 + 24 + i) ?_ fun B5 ⟨cv5, cls5, ha5, hM5, hcl5⟩ => ?_
      · refine LoopVC.upto [2, 7, 8, 9, 32, 33, 34, 79, 80] (.of (by kernel_rfl)) i (fun k A => A.env 81 = .int .i64 k ∧ ∃ cv cls', AskSt σ A.st (σ.length + 1) σ.length all.length cv cls' ∧ (∀ M, setT M cls' = (setT M cls2 && setT M (conL p i 0 ((all.take i).take k)))) ∧ cls'.length ≤ i * 60 + 24 + k) 0 (Nat.zero_le _) ?_ fun k B6 hk ⟨h81, cv6, cls6, ha6, hM6, hcl6⟩ => ?_
        · simp only [go_sem, simprocAttr, ↓reduceIte]
          exact ⟨cv2, cls2, ha2, fun M => by simp [conL, setT], by omega⟩
        simp only [go_sem, simprocAttr, ↓reduceIte, h81, List.length_map]
        refine ⟨fun hlt6 => ⟨hlt6, ?_⟩, fun hge6 => ?_⟩
        · obtain ⟨q, hq⟩ := get_some hlt6
          simp only [atV_map hq]
          simp only [go_sem, simprocAttr, ↓reduceIte, pkgAV, h81, h34]
          refine CallP.fnG (fun _ => ix_clash p q) ?_
          have hcs := conL_succ (p := p) (i := i) (all.take i) 0 k q hq
          rw [Nat.zero_add] at hcs
          simp only [go_sem, simprocAttr, ↓reduceIte, h81, h34]
          refine ⟨fun hb => ?_, fun hb => ?_⟩
          · have ha7 := ha6.more [none]
            simp only [go_sem, simprocAttr, ↓reduceIte, h81, h34, look_id ha7.ao]
            have hki : k < i := by omega
            obtain ⟨w1, w2⟩ := conP_ok hlt hki
            have hw1 : IntKind.i64.wrap (-(((i + 1 : Nat) : Int))) = -litN i := by rw [wrap_in (by omega)]; rfl
            have hw2 : IntKind.i64.wrap (-(((k + 1 : Nat) : Int))) = -litN k := by rw [wrap_in (by omega)]; rfl
            refine ⟨.of (by kernel_rfl), CallP.fn (st_lit i hil) ?_⟩
            simp only [go_sem, simprocAttr, ↓reduceIte, h81, h34, hw1]
            refine CallP.fn (st_lit k (by omega)) ?_
            simp only [go_sem, simprocAttr, ↓reduceIte, h81, h34, hw2]
            refine CallA.goes (by simp only [go_sem, simprocAttr, ↓reduceIte]) ((cn_add (B6.st ++ [none]) σ.length all.length cv6 cls6 ha7.so ha7.bld hal (by omega) [-litN i, -litN k] w1 (by simp) (by simp) w2).weak (.cons (.refl _) (.cons (.lit _ _) .nil))) fun r σ8 ⟨hr, hf, cv8, cls8, hso, hbl, hft, hM8, hcl8, hd8⟩ => ?_
            have ha8 := ha7.add hf hso hbl hft (by omega) hd8 w1 (by simp) (by simp)
            simp only [go_sem, simprocAttr, ↓reduceIte, h81]
            refine ⟨hki, int_succ hki (by rw [maxLen_eq]; omega), cv8, cls8, ha8, fun M => ?_, by omega⟩
            rw [hM8, hM6, hcs, hb, if_pos rfl, setT_app, Bool.and_assoc]
            simp [setT]
          · refine ⟨by omega, int_succ (show k < i by omega) (by rw [maxLen_eq]; omega), cv6, cls6, ha6.more _, fun M => ?_, by omega⟩
            rw [hM6, hcs, hb]
            simp
        · rw [List.take_of_length_le hge6] at hM6
          refine ⟨cv6, cls6, ha6, fun M => ?_, by omega⟩
          rw [hM6, hM2, allL_succ all all 0 i p hpi, setT_app, pkgL, setT_app, Nat.zero_add, hD, Bool.and_assoc]
      simp only [go_sem, simprocAttr, ↓reduceIte, h34]
      exact ⟨hlt, int_succ hlt (by rw [maxLen_eq]; omega), cv5, cls5, ha5, hM5, by omega⟩
    · rw [List.take_of_length_le hge] at hM
      exact ⟨cv, cls, ha, hM⟩
  simp only [go_sem, simprocAttr, ↓reduceIte]
  refine EndR.ret ?_
  simp only [go_sem, simprocAttr, ↓reduceIte]
  exact ⟨_, .refl _, ha.ext.le, ha.ext, .inr (.inr ⟨h0, h1, _, _, cv, cls, rfl, ha, hM⟩)⟩
end Go.Proofs.Tryz
end
section
set_option linter.unusedSimpArgs false
set_option linter.unusedVariables false
namespace Go.Proofs.Tryz
open Go Go.Av
set_option maxRecDepth 10000
set_option linter.unusedSimpArgs false
set_option linter.unusedVariables false
variable {W0 : World}

/-- Can those places hold together? -/
noncomputable def canE (all : List Pkg) (asm : List Int) : Bool := satB all.length (allL all 0 all) asm
theorem satB_congr {n : Nat} {cls cls' : List (List Int)} {asm : List Int} (h : ∀ M, setT M cls = setT M cls') : satB n cls asm = satB n cls' asm := by
  have : satA n cls asm ↔ satA n cls' asm := by unfold satA; simp only [h]
  by_cases hs : satA n cls asm
  · rw [satB_true hs, satB_true (this.1 hs)]
  · rw [satB_false hs, satB_false (fun h => hs (this.2 h))]
/-- Places that there aren't; packages that may not be. -/
def errE (all : List Pkg) (places : List Int) : Int := if mayAll all ≠ 0 then mayAll all else if (places.any fun i => decide (i < 0) || decide ((all.length : Int) ≤ i)) = true then 1 else 0

theorem AskSt.can {τ st : Store} {aid sid : Nat} {cv : AV} {cls : List (List Int)} {all : List Pkg} (h : AskSt τ st aid sid all.length cv cls) (hM : ∀ M, setT M cls = setT M (allL all 0 all)) (asm : List Int) (hl : asm.length ≤ 1000) :
    ACall prog W0 23 [.ptr 82 aid 0 [], litsAV asm] st fun r σ' => r = .bool (canE all asm) ∧ σ' = st := by
  have := st_can (W0 := W0) aid sid h.ao h.so h.bld h.ok asm hl
  rwa [satB_congr hM] at this

def pairAV (b : Bool) (e : Int) : AV := .tup [.bool b, .int .i64 e]
theorem pairAV_ids (b : Bool) (e : Int) : IdsLt 0 (pairAV b e) := by
  refine .tup fun x hx => ?_
  simp at hx
  rcases hx with rfl | rfl
  · exact .bool _
  · exact .int _ _

theorem st_installable (all : List Pkg) (hp : ∀ p ∈ all, MayN p) (h11 : all.length ≤ 24) (i : Int) :
    PureFn prog W0 17 [pkgsAV all, .int .i64 i] (pairAV (errE all [i] == 0 && canE all [litN i.toNat]) (errE all [i])) := by
  refine fn_pureZ [4, 5] [] func17 rfl rfl ntmps17 rfl rfl (pairAV_ids _ _) fun hs σ => ?_
  simp only [go_sem, simprocAttr, ↓reduceIte]
  refine CallA.goes (by simp only [go_sem, simprocAttr, ↓reduceIte]) ((st_ask σ all [i] hp h11 (by simp)).weak (.cons (.refl _) (.cons (.lit _ _) .nil))) fun r σ1 ⟨hx, hr⟩ => ?_
  rcases hr with ⟨h0, rfl⟩ | ⟨h0, h1, rfl⟩ | ⟨h0, h1, aid, sid, cv, cls, rfl, ha, hM⟩
  · have he : errE all [i] = mayAll all := by rw [errE, if_pos h0]
    have e1 : (mayAll all != 0) = true := by simp [h0]
    simp only [go_sem, simprocAttr, ↓reduceIte, e1]
    refine EndR.ret ?_
    simp only [go_sem, simprocAttr, ↓reduceIte]
    rw [he]
    have e2 : (mayAll all == 0) = false := by simp [h0]
    rw [e2]
    exact ⟨.refl _, hx⟩
  · have he : errE all [i] = 1 := by rw [errE, if_neg (by simp [h0]), if_pos h1]
    simp only [go_sem, simprocAttr, ↓reduceIte]
    refine EndR.ret ?_
    simp only [go_sem, simprocAttr, ↓reduceIte]
    rw [he]
    exact ⟨.refl _, hx⟩
  · have he : errE all [i] = 0 := by rw [errE, if_neg (by simp [h0]), if_neg (by rw [h1]; simp)]
    have hir : 0 ≤ i ∧ i < all.length := by simp at h1; omega
    obtain ⟨k, rfl⟩ := Int.eq_ofNat_of_zero_le hir.1
    simp only [go_sem, simprocAttr, ↓reduceIte]
    refine CallA.fn (st_lit k (by omega)) ?_
    simp only [go_sem, simprocAttr, ↓reduceIte]
    refine CallA.reads (by simp only [go_sem, simprocAttr, ↓reduceIte]) ((ha.can hM [litN k] (by simp)).weak (.cons (.refl _) (.cons (.lit _ _) .nil))) ?_
    simp only [go_sem, simprocAttr, ↓reduceIte]
    refine EndR.ret ?_
    simp only [go_sem, simprocAttr, ↓reduceIte]
    rw [he]
    exact ⟨.refl _, hx⟩

theorem st_needs (all : List Pkg) (hp : ∀ p ∈ all, MayN p) (h11 : all.length ≤ 24) (i j : Int) :
    PureFn prog W0 18 [pkgsAV all, .int .i64 i, .int .i64 j] (pairAV (errE all [i, j] == 0 && (canE all [litN i.toNat] && !canE all [litN i.toNat, -litN j.toNat])) (errE all [i, j])) := by
  refine fn_pureZ [6, 7] [] func18 rfl rfl ntmps18 rfl rfl (pairAV_ids _ _) fun hs σ => ?_
  simp only [go_sem, simprocAttr, ↓reduceIte]
  refine CallA.goes (by simp only [go_sem, simprocAttr, ↓reduceIte]) ((st_ask σ all [i, j] hp h11 (by simp)).weak (.cons (.refl _) (.cons (.lit _ _) .nil))) fun r σ1 ⟨hx, hr⟩ => ?_
  rcases hr with ⟨h0, rfl⟩ | ⟨h0, h1, rfl⟩ | ⟨h0, h1, aid, sid, cv, cls, rfl, ha, hM⟩
  · have he : errE all [i, j] = mayAll all := by rw [errE, if_pos h0]
    have e1 : (mayAll all != 0) = true := by simp [h0]
    simp only [go_sem, simprocAttr, ↓reduceIte, e1]
    refine EndR.ret ?_
    simp only [go_sem, simprocAttr, ↓reduceIte]
    rw [he]
    have e2 : (mayAll all == 0) = false := by simp [h0]
    rw [e2]
    exact ⟨.refl _, hx⟩
  · have he : errE all [i, j] = 1 := by rw [errE, if_neg (by simp [h0]), if_pos h1]
    simp only [go_sem, simprocAttr, ↓reduceIte]
    refine EndR.ret ?_
    simp only [go_sem, simprocAttr, ↓reduceIte]
    rw [he]
    exact ⟨.refl _, hx⟩
  · have he : errE all [i, j] = 0 := by rw [errE, if_neg (by simp [h0]), if_neg (by rw [h1]; simp)]
    have hir : (0 ≤ i ∧ i < all.length) ∧ (0 ≤ j ∧ j < all.length) := by
      simp only [List.any_cons, List.any_nil, Bool.or_false, Bool.or_eq_false_iff, decide_eq_false_iff_not] at h1
      omega
    obtain ⟨k, rfl⟩ := Int.eq_ofNat_of_zero_le hir.1.1
    obtain ⟨m, rfl⟩ := Int.eq_ofNat_of_zero_le hir.2.1
    have hwm : IntKind.i64.wrap (-(((m + 1 : Nat) : Int))) = -litN m := by rw [wrap_in (by omega)]; rfl
    simp only [go_sem, simprocAttr, ↓reduceIte]
    refine CallA.fn (st_lit k (by omega)) ?_
    simp only [go_sem, simprocAttr, ↓reduceIte]
    refine CallA.reads (by simp only [go_sem, simprocAttr, ↓reduceIte]) ((ha.can hM [litN k] (by simp)).weak (.cons (.refl _) (.cons (.lit _ _) .nil))) ?_
    simp only [go_sem, simprocAttr, ↓reduceIte]
    refine CallP.fnG (fun _ => st_lit k (by omega)) ?_
    simp only [go_sem, simprocAttr, ↓reduceIte]
    refine CallP.fnG (fun _ => st_lit m (by omega)) ?_
    simp only [go_sem, simprocAttr, ↓reduceIte, hwm]
    refine CallP.st (fun _ => (ha.can hM [litN k, -litN m] (by simp)).weak (.cons (.refl _) (.cons (.lit _ _) .nil))) ?_
    simp only [go_sem, simprocAttr, ↓reduceIte]
    refine EndR.ret ?_
    simp only [go_sem, simprocAttr, ↓reduceIte]
    rw [he]
    exact ⟨.refl _, hx⟩
theorem st_together (all : List Pkg) (hp : ∀ p ∈ all, MayN p) (h11 : all.length ≤ 24) (i j : Int) :
    PureFn prog W0 21 [pkgsAV all, .int .i64 i, .int .i64 j] (pairAV (errE all [i, j] == 0 && (canE all [litN i.toNat, litN j.toNat])) (errE all [i, j])) := by
  refine fn_pureZ [6, 7] [] func21 rfl rfl ntmps21 rfl rfl (pairAV_ids _ _) fun hs σ => ?_
  simp only [go_sem, simprocAttr, ↓reduceIte]
  refine CallA.goes (by simp only [go_sem, simprocAttr, ↓reduceIte]) ((st_ask σ all [i, j] hp h11 (by simp)).weak (.cons (.refl _) (.cons (.lit _ _) .nil))) fun r σ1 ⟨hx, hr⟩ => ?_
  rcases hr with ⟨h0, rfl⟩ | ⟨h0, h1, rfl⟩ | ⟨h0, h1, aid, sid, cv, cls, rfl, ha, hM⟩
  · have he : errE all [i, j] = mayAll all := by rw [errE, if_pos h0]
    have e1 : (mayAll all != 0) = true := by simp [h0]
    simp only [go_sem, simprocAttr, ↓reduceIte, e1]
    refine EndR.ret ?_
    simp only [go_sem, simprocAttr, ↓reduceIte]
    rw [he]
    have e2 : (mayAll all == 0) = false := by simp [h0]
    rw [e2]
    exact ⟨.refl _, hx⟩
  · have he : errE all [i, j] = 1 := by rw [errE, if_neg (by simp [h0]), if_pos h1]
    simp only [go_sem, simprocAttr, ↓reduceIte]
    refine EndR.ret ?_
    simp only [go_sem, simprocAttr, ↓reduceIte]
    rw [he]
    exact ⟨.refl _, hx⟩
  · have he : errE all [i, j] = 0 := by rw [errE, if_neg (by simp [h0]), if_neg (by rw [h1]; simp)]
    have hir : (0 ≤ i ∧ i < all.length) ∧ (0 ≤ j ∧ j < all.length) := by
      simp only [List.any_cons, List.any_nil, Bool.or_false, Bool.or_eq_false_iff, decide_eq_false_iff_not] at h1
      omega
    obtain ⟨k, rfl⟩ := Int.eq_ofNat_of_zero_le hir.1.1
    obtain ⟨m, rfl⟩ := Int.eq_ofNat_of_zero_le hir.2.1
    have hwm : IntKind.i64.wrap (-(((m + 1 : Nat) : Int))) = -litN m := by rw [wrap_in (by omega)]; rfl
    simp only [go_sem, simprocAttr, ↓reduceIte]
    refine CallA.fn (st_lit k (by omega)) ?_
    simp only [go_sem, simprocAttr, ↓reduceIte]
    refine CallA.fn (st_lit m (by omega)) ?_
    simp only [go_sem, simprocAttr, ↓reduceIte]
    refine CallA.reads (by simp only [go_sem, simprocAttr, ↓reduceIte]) ((ha.can hM [litN k, litN m] (by simp)).weak (.cons (.refl _) (.cons (.lit _ _) .nil))) ?_
    simp only [go_sem, simprocAttr, ↓reduceIte]
    refine EndR.ret ?_
    simp only [go_sem, simprocAttr, ↓reduceIte]
    rw [he]
    exact ⟨.refl _, hx⟩
end Go.Proofs.Tryz
end
