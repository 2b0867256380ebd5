/- Texts that the last one of this claim rests on: a layer over the guide's own conditions for code; contracts of the functions that the law reaches, one by one. No conditions beside those of the given rows. -/
import Derived.Test.YtnblgnafgdmcaaaGreatDoorWbb
import Derived.Test.YtnblgnafgdmcaaaGreatDoorWbc
section
set_option linter.unusedSimpArgs false
set_option linter.unusedVariables false
namespace Go.Proofs.Tryz
open Go Go.Av
set_option maxRecDepth 10000
set_option linter.unusedSimpArgs false
set_option linter.unusedVariables false
variable {W0 : World}

def trailO (cv : AV) (vid n : Nat) (ov lv : AV) : Option SObj := some (.cells 158 [.agg 158 [cv, .row 3 vid 0 (n + 1), ov, lv]])

/-- A trail in memory: its clauses, what each variable is, the literals in order, where levels begin. -/
structure Trail (st : Store) (tid : Nat) (cv : AV) (vid : Nat) (ov lv : AV) (n : Nat) (cls : List (List Int)) (ord : List Int) (lev : List Nat) : Prop where
  hobj : st[tid]? = some (trailO cv vid n ov lv)
  hcls : Bld st cv 90 (cls.map litsAV)
  hvals : st[vid]? = some (some (.cells 3 ((vals n ord).map (.int .i64))))
  hord : RowV st ov 88 (ord.map (.int .i64))
  hlev : RowV st lv 3 (lev.map fun k => .int .i64 (k : Nat))
  hne : vid ∉ foot lv
  good : GoodOrd n ord
  small : n ≤ 200
  clen : cls.length ≤ 5000
  wf : ∀ c ∈ cls, ∀ l ∈ c, l ≠ 0 ∧ l.natAbs ≤ n

variable {σ : Store} {tid vid n : Nat} {cv ov lv : AV} {cls : List (List Int)} {ord : List Int} {lev : List Nat}

theorem pr_of (h : Trail σ tid cv vid ov lv n cls ord lev) (l : Int) (h0 : l ≠ 0) (hl : l.natAbs ≤ n) :
    ACall prog W0 137 [.ptr 158 tid 0 [], .int .i64 l] σ fun r σ' => r = .int .i64 (valT ord l) ∧ σ' = σ := by
  refine fn_st [4] [] func137 rfl rfl ntmps137 rfl rfl (.int _ _) fun hs => ?_
  have hn := h.small
  have hg := vals_get (ord := ord) hl
  simp only [go_sem, simprocAttr, ↓reduceIte, look_id h.hobj, look_id h.hvals, live_id h.hvals]
  refine ⟨fun hneg => ?_, fun hpos => ?_⟩
  · have hw : IntKind.i64.wrap (-l) = -l := wrap_in (by omega)
    have ha : (-l).toNat = l.natAbs := by omega
    have he : ((l.natAbs : Nat) : Int) = -l := by omega
    rw [he, valT_neg h.good] at hg
    simp only [go_sem, simprocAttr, ↓reduceIte, look_id h.hobj, look_id h.hvals, live_id h.hvals, hw, ha, Nat.zero_add, List.getElem?_map, hg, Option.map_some]
    refine ⟨by omega, EndR.ret ?_⟩
    simp only [go_sem, simprocAttr, ↓reduceIte]
    rcases valT_cases ord l with ⟨h1, _⟩ | ⟨h1, _⟩ | ⟨h1, _⟩ <;> rw [h1] <;> exact weak_int rfl
  · have ha : l.toNat = l.natAbs := by omega
    have he : ((l.natAbs : Nat) : Int) = l := by omega
    rw [he] at hg
    simp only [go_sem, simprocAttr, ↓reduceIte, look_id h.hobj, look_id h.hvals, live_id h.hvals, ha, Nat.zero_add, List.getElem?_map, hg, Option.map_some]
    refine ⟨by omega, EndR.ret ?_⟩
    simp only [go_sem, simprocAttr, ↓reduceIte]
    try exact .refl _

theorem pr_forced (h : Trail σ tid cv vid ov lv n cls ord lev) (c : List Int) (hc : ∀ l ∈ c, l ≠ 0 ∧ l.natAbs ≤ n) :
    ACall prog W0 161 [.ptr 158 tid 0 [], litsAV c] σ fun r σ' => r = .int .i64 (forcedL ord c 0) ∧ σ' = σ := by
  refine fn_st [4] [] func161 rfl rfl ntmps161 rfl rfl (.int _ _) fun hs => ?_
  have hcl := (small_map (hs (litsAV c) (by simp))).1
  simp only [go_sem, simprocAttr, ↓reduceIte, litsAV, List.length_map]
  refine LoopVC.upto [0, 9, 10] (.of (by kernel_rfl)) c.length (fun i A => ∃ out : Int, A.env 11 = .int .i64 i ∧ A.env 5 = .int .i64 out ∧ A.st = σ ∧ forcedL ord (c.drop i) out = forcedL ord c 0) 0 (Nat.zero_le _) ?_ fun i B hi ⟨out, h11, h5, hst, hI⟩ => ?_
  · simp only [go_sem, simprocAttr, ↓reduceIte]
    exact ⟨0, rfl, rfl⟩
  simp only [go_sem, simprocAttr, ↓reduceIte, h11, h5, hst, List.length_map]
  refine ⟨fun hlt => ⟨hlt, ?_⟩, fun hge => EndR.ret ?_⟩
  · obtain ⟨l, hl⟩ := get_some hlt
    obtain ⟨hlt', hle⟩ := List.getElem?_eq_some_iff.1 hl
    have hlc := hc l (List.mem_of_getElem? hl)
    rw [List.drop_eq_getElem_cons hlt', hle, forcedL] at hI
    simp only [atV_map hl]
    simp only [go_sem, simprocAttr, ↓reduceIte, h11, h5, hst]
    refine CallA.reads (by simp only [go_sem, simprocAttr, ↓reduceIte, hst]) (pr_of h l hlc.1 hlc.2) ?_
    simp only [go_sem, simprocAttr, ↓reduceIte, h11, h5, hst]
    have key : (decide (0 < valT ord l) || (valT ord l == 0 && out != 0)) = decide (0 < valT ord l ∨ (valT ord l = 0 ∧ out ≠ 0)) := by
      rw [Bool.eq_iff_iff]; simp
    simp only [key]
    refine ⟨fun hb => EndR.ret ?_, fun hb => ?_⟩
    · simp only [go_sem, simprocAttr, ↓reduceIte, hst]
      rw [if_pos (of_decide_eq_true hb)] at hI
      exact weak_int hI
    · rw [if_neg (of_decide_eq_false hb)] at hI
      refine ⟨fun hz => ⟨hlt, l, int_succ hlt hcl, rfl, by rw [if_pos hz] at hI; exact hI⟩, fun hz => ⟨hlt, out, int_succ hlt hcl, rfl, by rw [if_neg hz] at hI; exact hI⟩⟩
  · simp only [go_sem, simprocAttr, ↓reduceIte, hst]
    rw [List.drop_eq_nil_of_le hge] at hI
    exact weak_int hI

theorem pr_take (h : Trail σ tid cv vid ov lv n cls ord lev) (l : Int) (h0 : l ≠ 0) (hl : l.natAbs ≤ n) (hv : valT ord l = 0) :
    ACall prog W0 138 [.ptr 158 tid 0 [], .int .i64 l] σ fun r σ' => Fr (tid :: vid :: foot ov) σ σ' ∧ ∃ ov', Trail σ' tid cv vid ov' lv n cls (ord ++ [l]) lev ∧ ∀ j ∈ foot ov', j ∈ foot ov ∨ σ.length ≤ j := by
  refine fn_call [] [] func138 rfl rfl ntmps138 rfl rfl fun hs => ?_
  have hn := h.small
  have hlen := h.good.len
  have hg := h.good.app h0 hl hv
  have ho := h.hord.st
  simp only [go_sem, simprocAttr, ↓reduceIte, look_id h.hobj, ho.ok, ho.un]
  refine AppA.rowS (σ := σ) (by simp only [go_sem, simprocAttr, ↓reduceIte]) 1048576 (by kernel_rfl) h.hord (.lit _ _ _) (by simp; omega) fun ov' σ1 ha => ?_
  have hr := ha.row.st
  have t1 : tid < σ.length := (List.getElem?_eq_some_iff.1 h.hobj).1
  have hobj1 : σ1[tid]? = some (trailO cv vid n ov lv) := by rw [ha.fr.old tid t1 (h.hord.ne h.hobj (by decide)), h.hobj]
  have t1' := (List.getElem?_eq_some_iff.1 hobj1).1
  have v1 : vid < σ.length := (List.getElem?_eq_some_iff.1 h.hvals).1
  have htv : tid ≠ vid := fun e => by have := h.hobj; rw [e, h.hvals] at this; simp [trailO] at this
  have hvals1 : σ1[vid]? = some (some (.cells 3 ((vals n ord).map (.int .i64)))) := by rw [ha.fr.old vid v1 (h.hord.ne h.hvals (by decide)), h.hvals]
  have hvals2 : ∀ o, (σ1.set tid o)[vid]? = some (some (.cells 3 ((vals n ord).map (.int .i64)))) := fun o => by rw [List.getElem?_set_ne htv, hvals1]
  have v1' := (List.getElem?_eq_some_iff.1 hvals1).1
  have fin : ∀ x : Int, x = (if 0 < l then 1 else -1) → ∀ st, st = (σ1.set tid (trailO cv vid n ov' lv)).set vid (some (.cells 3 (((vals n ord).map (AV.int .i64)).set l.natAbs (.int .i64 x)))) →
      σ.length ≤ st.length ∧ Fr (tid :: vid :: foot ov) σ st ∧ ∃ ov', Trail st tid cv vid ov' lv n cls (ord ++ [l]) lev ∧ ∀ j ∈ foot ov', j ∈ foot ov ∨ σ.length ≤ j := fun x hx st hst => by
    have fr : Fr (tid :: vid :: foot ov) σ st := by
      rw [hst]
      exact ((ha.fr.mono fun j hj => by simp [hj]).set (.inl (by simp)) _).set (.inl (by simp)) _
    have old : ∀ j, j ≠ tid → j ≠ vid → st[j]? = σ1[j]? := fun j h1 h2 => by rw [hst, List.getElem?_set_ne (fun e => h2 e.symm), List.getElem?_set_ne (fun e => h1 e.symm)]
    have hor1 := ha.row
    refine ⟨fr.len, fr, ov', ⟨?_, ?_, ?_, ?_, ?_, h.hne, hg, h.small, h.clen, h.wf⟩, ha.foot⟩
    · rw [hst, List.getElem?_set_ne (fun e => htv e.symm)]; simp [t1']
    · refine h.hcls.keep fun j hj => ?_
      have hjl := h.hcls.lt j hj
      have e1 : j ≠ tid := fun e => h.hcls.ne h.hobj (by simp) (e ▸ hj)
      have e2 : j ≠ vid := fun e => h.hcls.ne h.hvals (by simp) (e ▸ hj)
      rw [old j e1 e2]
      refine ha.fr.old j hjl fun e => ?_
      rcases h.hcls with ⟨rfl, _⟩ | h1 | ⟨t, rfl, h1⟩
      · simp [foot] at hj
      · rw [h1] at hj; simp [foot] at hj
      · simp [foot] at hj
        subst hj
        rcases h.hord with ⟨rfl, _⟩ | ⟨id, off, m, zs, rfl, h2, _⟩
        · simp [foot] at e
        · simp [foot] at e; subst e; rw [h1] at h2; cases h2
    · rw [hst, List.getElem?_set_self (by simpa using v1'), vals_app hg, List.map_set, hx]
    · refine RowV.keep (by rw [List.map_append]; exact hor1) fun j hj => old j (fun e => ?_) (fun e => ?_)
      · exact hor1.ne hobj1 (by decide) (e ▸ hj)
      · exact hor1.ne hvals1 (by decide) (e ▸ hj)
    · refine h.hlev.keep fun j hj => ?_
      have hjl := h.hlev.lt j hj
      have e1 : j ≠ tid := fun e => h.hlev.ne h.hobj (by decide) (e ▸ hj)
      have e2 : j ≠ vid := fun e => h.hne (e ▸ hj)
      rw [old j e1 e2]
      refine ha.fr.old j hjl fun e => ?_
      rcases h.hlev with ⟨rfl, _⟩ | ⟨id, off, m, zs, rfl, h1, _⟩
      · simp [foot] at hj
      · simp [foot] at hj
        subst hj
        exact h.hord.ne h1 (by decide) e
  simp only [go_sem, simprocAttr, ↓reduceIte, look_id hobj1, setLook_id hobj1, hr.ok, hr.un, hr.fits]
  have hll : l.natAbs < ((vals n ord).map (AV.int .i64)).length := by rw [List.length_map, vals_len]; omega
  obtain ⟨y, hy⟩ := get_some hll
  refine ⟨fun hneg => ?_, fun hpos => ?_⟩
  · have hw : IntKind.i64.wrap (-l) = -l := wrap_in (by omega)
    have ha : (-l).toNat = l.natAbs := by omega
    simp only [go_sem, simprocAttr, ↓reduceIte, look_set t1', look_id (hvals2 _), live_id (hvals2 _), setLook_id (hvals2 _), hw, ha, Nat.zero_add, hy, Option.bind_some, Option.isSome_some]
    refine ⟨by omega, EndR.normal ?_⟩
    simp only [go_sem, simprocAttr, ↓reduceIte]
    exact ⟨_, .refl _, fin (-1) (by rw [if_neg (by omega)]) _ rfl⟩
  · have ha : l.toNat = l.natAbs := by omega
    simp only [go_sem, simprocAttr, ↓reduceIte, look_set t1', look_id (hvals2 _), live_id (hvals2 _), setLook_id (hvals2 _), ha, Nat.zero_add, hy, Option.bind_some, Option.isSome_some]
    refine ⟨by omega, EndR.normal ?_⟩
    simp only [go_sem, simprocAttr, ↓reduceIte]
    exact ⟨_, .refl _, fin 1 (by rw [if_pos (by omega)]) _ rfl⟩
end Go.Proofs.Tryz
end
section
set_option linter.unusedSimpArgs false
set_option linter.unusedVariables false
namespace Go.Proofs.Tryz
open Go Go.Av
set_option maxRecDepth 10000
set_option linter.unusedSimpArgs false
set_option linter.unusedVariables false
variable {W0 : World}
variable {σ : Store} {tid vid n : Nat} {cv ov lv : AV} {cls : List (List Int)} {ord : List Int} {lev : List Nat}

/-- A trail that has been followed for a while. -/
structure Foll (σ st : Store) (tid : Nat) (cv : AV) (vid : Nat) (ov ov' lv : AV) (n : Nat) (cls : List (List Int)) (ord ord' : List Int) (lev : List Nat) : Prop where
  tr : Trail st tid cv vid ov' lv n cls ord' lev
  fr : Fr (tid :: vid :: foot ov) σ st
  ft : ∀ j ∈ foot ov', j ∈ foot ov ∨ σ.length ≤ j
  pre : ∃ fs, ord' = ord ++ fs
  snd : ∀ M, setT M cls = true → Agr M ord → Agr M ord'

theorem Foll.refl (h : Trail σ tid cv vid ov lv n cls ord lev) : Foll σ σ tid cv vid ov ov lv n cls ord ord lev := ⟨h, .refl _ _, fun j hj => .inl hj, ⟨[], by simp⟩, fun M _ h => h⟩

theorem Foll.step {st st2 : Store} {ov' ov2 : AV} {ord' c : List Int} (h : Foll σ st tid cv vid ov ov' lv n cls ord ord' lev) (hc : c ∈ cls) (hf : forcedL ord' c 0 ≠ 0) (fr : Fr (tid :: vid :: foot ov') st st2) (tr : Trail st2 tid cv vid ov2 lv n cls (ord' ++ [forcedL ord' c 0]) lev) (ft : ∀ j ∈ foot ov2, j ∈ foot ov' ∨ st.length ≤ j) : Foll σ st2 tid cv vid ov ov2 lv n cls ord (ord' ++ [forcedL ord' c 0]) lev := by
  refine ⟨tr, h.fr.trans fr fun j hj => ?_, fun j hj => ?_, ?_, fun M hM ha l hl => ?_⟩
  · rcases List.mem_cons.1 hj with rfl | hj
    · exact .inl (by simp)
    rcases List.mem_cons.1 hj with rfl | hj
    · exact .inl (by simp)
    exact (h.ft j hj).imp_left fun h => by simp [h]
  · rcases ft j hj with h1 | h1
    · exact h.ft j h1
    · have := h.fr.len; exact .inr (by omega)
  · obtain ⟨fs, e⟩ := h.pre
    exact ⟨fs ++ [forcedL ord' c 0], by rw [e, List.append_assoc]⟩
  · rcases List.mem_append.1 hl with h1 | h1
    · exact h.snd M hM ha l h1
    · rw [List.mem_singleton.1 h1]
      exact forced_agr (h.snd M hM ha) h.tr.good (fun l hl => (h.tr.wf c hc l hl).1) (List.all_eq_true.1 hM c hc) hf

theorem pr_follow (h : Trail σ tid cv vid ov lv n cls ord lev) :
    ACall prog W0 136 [.ptr 158 tid 0 []] σ fun r σ' => ∃ ov' ord', Foll σ σ' tid cv vid ov ov' lv n cls ord ord' lev := by
  refine fn_call [] [] func136 rfl rfl ntmps136 rfl rfl fun hs => ?_
  simp only [go_sem, simprocAttr, ↓reduceIte]
  refine LoopVC.falls [0] (.of (by kernel_rfl)) (fun k A => ∃ b ov' ord', A.env 2 = .bool b ∧ Foll σ A.st tid cv vid ov ov' lv n cls ord ord' lev ∧ k = 2 * (n - ord'.length) + (if b = true then 1 else 0)) (2 * (n - ord.length) + 1) ⟨true, ov, ord, ?_⟩ fun k B ⟨b, ov', ord', h2, hF, hk⟩ => ?_
  · simp only [go_sem, simprocAttr, ↓reduceIte]
    exact .refl h
  simp only [go_sem, simprocAttr, ↓reduceIte, h2]
  refine ⟨fun hb => ?_, fun hb => EndR.normal ?_⟩
  · subst hb
    have hb := hF.tr.hcls
    simp only [go_sem, simprocAttr, ↓reduceIte, look_id hF.tr.hobj, hb.ok, hb.un, hb.len, hb.lenC, List.length_map]
    refine LoopVC.ats [0] (.of (by kernel_rfl)) (fun A => ∃ b ov2 ord2, A.env 2 = .bool b ∧ Foll σ A.st tid cv vid ov ov2 lv n cls ord ord2 lev ∧ ord'.length ≤ ord2.length ∧ (b = true → ord'.length < ord2.length)) ?_ fun A ⟨b, ov2, ord2, h2, hF2, hl1, hl2⟩ => ?_
    · refine LoopVC.upto [0, 10, 11] (.of (by kernel_rfl)) cls.length (fun i A => A.env 12 = .int .i64 i ∧ ∃ b ov2 ord2, A.env 2 = .bool b ∧ Foll σ A.st tid cv vid ov ov2 lv n cls ord ord2 lev ∧ ord'.length ≤ ord2.length ∧ (b = true → ord'.length < ord2.length)) 0 (Nat.zero_le _) ?_ fun i A hi ⟨h12, b, ov2, ord2, h2, hF2, hl1, hl2⟩ => ?_
      · simp only [go_sem, simprocAttr, ↓reduceIte]
        exact ⟨false, ov', ord', rfl, hF, Nat.le_refl _, fun h => by cases h⟩
      simp only [go_sem, simprocAttr, ↓reduceIte, h12, h2]
      refine ⟨fun hlt => ?_, fun hge => ⟨b, ov2, ord2, rfl, hF2, hl1, hl2⟩⟩
      obtain ⟨c, hc⟩ := get_some hlt
      have hcm := List.mem_of_getElem? hc
      have h0 : 0 < (cls.map litsAV).length := by rw [List.length_map]; omega
      simp only [go_sem, simprocAttr, ↓reduceIte, h12, h2, hb.ok, hb.un, hb.idxV h0, hb.idxC h0, List.length_map, atV_map hc]
      refine ⟨hlt, CallA.reads (by simp only [go_sem, simprocAttr, ↓reduceIte]) (pr_forced hF2.tr c (hF2.tr.wf c hcm)) ?_⟩
      simp only [go_sem, simprocAttr, ↓reduceIte, h12, h2]
      refine ⟨fun hf => ?_, fun hf => ?_⟩
      · obtain ⟨g1, g2⟩ | ⟨_, g2, g3, g4⟩ := forcedL_sound c 0 (fun l hl => (hF2.tr.wf c hcm l hl).1) hf
        · exact absurd g1 hf
        have hw := hF2.tr.wf c hcm _ g2
        refine CallA.goes (by simp only [go_sem, simprocAttr, ↓reduceIte]) (pr_take hF2.tr _ hw.1 hw.2 g3) fun r σ' ⟨fr, ov3, tr, ft⟩ => ?_
        simp only [go_sem, simprocAttr, ↓reduceIte, h12]
        exact ⟨hlt, int_succ hlt (by have := h.clen; rw [maxLen_eq]; omega), true, ov3, _, rfl, hF2.step hcm hf fr tr ft, by simp; omega, fun _ => by simp; omega⟩
      · exact ⟨hlt, int_succ hlt (by have := h.clen; rw [maxLen_eq]; omega), b, ov2, ord2, rfl, hF2, hl1, hl2⟩
    simp only [go_sem, simprocAttr, ↓reduceIte, h2]
    have g1 := hF.tr.good.len
    have g2 := hF2.tr.good.len
    refine .here (2 * (n - ord2.length) + (if b = true then 1 else 0)) ?_ ⟨b, ov2, ord2, h2, hF2, rfl⟩
    rw [hk, if_pos rfl]
    cases b with
    | true => have := hl2 rfl; simp; omega
    | false => simp; omega
  · simp only [go_sem, simprocAttr, ↓reduceIte]
    exact ⟨_, .refl _, hF.fr.len, ov', ord', hF⟩
end Go.Proofs.Tryz
end
section
set_option linter.unusedSimpArgs false
set_option linter.unusedVariables false
namespace Go.Proofs.Tryz
open Go Go.Av
set_option maxRecDepth 10000
set_option linter.unusedSimpArgs false
set_option linter.unusedVariables false
variable {W0 : World}
variable {σ : Store} {tid vid n : Nat} {cv ov lv : AV} {cls : List (List Int)} {ord : List Int} {lev : List Nat}

theorem pr_clash2 (h : Trail σ tid cv vid ov lv n cls ord lev) (l : Int) (h0 : l ≠ 0) (hl : l.natAbs ≤ n) :
    ACall prog W0 142 [.int .i64 l, .loc 119 (.ptr 158 tid 0 [])] σ fun r σ' => r = .bool (decide (0 ≤ valT ord l)) ∧ σ' = σ := by
  refine fn_st [3] [] func142 rfl rfl ntmps142 rfl rfl (.bool _) fun hs => ?_
  simp only [go_sem, simprocAttr, ↓reduceIte]
  refine CallA.reads (by simp only [go_sem, simprocAttr, ↓reduceIte]) (pr_of h l h0 hl) ?_
  simp only [go_sem, simprocAttr, ↓reduceIte]
  refine EndR.ret ?_
  simp only [go_sem, simprocAttr, ↓reduceIte]
  try exact .refl _

theorem pr_clash1 (h : Trail σ tid cv vid ov lv n cls ord lev) (c : List Int) (hc : ∀ l ∈ c, l ≠ 0 ∧ l.natAbs ≤ n) :
    ACall prog W0 140 [litsAV c, .loc 119 (.ptr 158 tid 0 [])] σ fun r σ' => r = .bool (lostC ord c) ∧ σ' = σ := by
  refine fn_st [3] [] func140 rfl rfl ntmps140 rfl rfl (.bool _) fun hs => ?_
  simp only [go_sem, simprocAttr, ↓reduceIte]
  refine CallA.reads (by simp only [go_sem, simprocAttr, ↓reduceIte]) (anLitR (.int .i64) NotM.int64 c (fun l => decide (0 ≤ valT ord l)) _ [.loc 119 (.ptr 158 tid 0 [])] σ fun l hl => pr_clash2 h l (hc l hl).1 (hc l hl).2) ?_
  simp only [go_sem, simprocAttr, ↓reduceIte]
  refine EndR.ret ?_
  simp only [go_sem, simprocAttr, ↓reduceIte]
  try exact .refl _

theorem pr_clash (h : Trail σ tid cv vid ov lv n cls ord lev) :
    ACall prog W0 110 [.ptr 158 tid 0 []] σ fun r σ' => r = .int .i64 (idxL (lostC ord) cls) ∧ σ' = σ := by
  refine fn_st [2] [1] func110 rfl rfl ntmps110 rfl rfl (.int _ _) fun hs => ?_
  have hb := h.hcls
  simp only [go_sem, simprocAttr, ↓reduceIte, look_id h.hobj, hb.ok, hb.un]
  refine CallA.reads (by simp only [go_sem, simprocAttr, ↓reduceIte]) ((ixLitsR litsAV NotM.lits cls (lostC ord) _ [.loc 119 (.ptr 158 tid 0 [])] σ fun c hc => pr_clash1 h c (h.wf c hc)).weak (.cons hb.weak (.cons (.refl _) .nil))) ?_
  simp only [go_sem, simprocAttr, ↓reduceIte]
  refine EndR.ret ?_
  simp only [go_sem, simprocAttr, ↓reduceIte]
  try exact .refl _

theorem pr_levels (h : Trail σ tid cv vid ov lv n cls ord lev) :
    ACall prog W0 163 [.ptr 158 tid 0 []] σ fun r σ' => r = .int .i64 lev.length ∧ σ' = σ := by
  refine fn_st [2] [] func163 rfl rfl ntmps163 rfl rfl (.int _ _) fun hs => ?_
  have hb := h.hlev.st
  simp only [go_sem, simprocAttr, ↓reduceIte, look_id h.hobj, hb.ok, hb.un, hb.len, hb.lenC, List.length_map]
  refine EndR.ret ?_
  simp only [go_sem, simprocAttr, ↓reduceIte]
  try exact .refl _

theorem pr_value (h : Trail σ tid cv vid ov lv n cls ord lev) (v : Nat) (h0 : 0 < v) (hv : v ≤ n) :
    ACall prog W0 84 [.ptr 158 tid 0 [], .int .i64 v] σ fun r σ' => r = .int .i64 (valT ord v) ∧ σ' = σ := by
  refine fn_st [4] [] func84 rfl rfl ntmps84 rfl rfl (.int _ _) fun hs => ?_
  have h1 : decide ((v : Int) < 1) = false := decide_eq_false (by omega)
  have h2 : decide (((n + 1 : Nat) : Int) ≤ (v : Int)) = false := decide_eq_false (by omega)
  have hg := vals_get (ord := ord) hv
  simp only [go_sem, simprocAttr, ↓reduceIte, look_id h.hobj, look_id h.hvals, live_id h.hvals, h1, h2, Nat.zero_add, List.getElem?_map, hg, Option.map_some]
  refine ⟨fun h => absurd h (by omega), fun _ => ⟨by omega, EndR.ret ?_⟩⟩
  simp only [go_sem, simprocAttr, ↓reduceIte]
  try exact .refl _

theorem Trail.ids (h : Trail σ tid cv vid ov lv n cls ord lev) : tid < σ.length ∧ vid < σ.length ∧ tid ≠ vid := ⟨(List.getElem?_eq_some_iff.1 h.hobj).1, (List.getElem?_eq_some_iff.1 h.hvals).1, fun e => by have := h.hobj; rw [e, h.hvals] at this; simp [trailO] at this⟩
theorem Trail.tok (h : Trail σ tid cv vid ov lv n cls ord lev) {j : Nat} (hj : j ∈ foot cv) : j ≠ tid ∧ j ≠ vid ∧ j ∉ foot ov ∧ j ∉ foot lv := by
  refine ⟨fun e => h.hcls.ne h.hobj (by simp) (e ▸ hj), fun e => h.hcls.ne h.hvals (by simp) (e ▸ hj), fun e => ?_, fun e => ?_⟩
  · rcases h.hord with ⟨rfl, _⟩ | ⟨id, off, m, zs, rfl, h2, _⟩
    · simp [foot] at e
    · simp [foot] at e; subst e; exact h.hcls.ne h2 (by simp) hj
  · rcases h.hlev with ⟨rfl, _⟩ | ⟨id, off, m, zs, rfl, h2, _⟩
    · simp [foot] at e
    · simp [foot] at e; subst e; exact h.hcls.ne h2 (by simp) hj
theorem Trail.ovs (h : Trail σ tid cv vid ov lv n cls ord lev) {j : Nat} (hj : j ∈ foot ov) : j ≠ tid ∧ j ≠ vid ∧ j ∉ foot lv := by
  refine ⟨fun e => h.hord.ne h.hobj (by decide) (e ▸ hj), fun e => h.hord.ne h.hvals (by decide) (e ▸ hj), fun e => ?_⟩
  rcases h.hlev with ⟨rfl, _⟩ | ⟨id, off, m, zs, rfl, h2, _⟩
  · simp [foot] at e
  · simp [foot] at e; subst e; exact h.hord.ne h2 (by decide) hj
theorem Trail.lvs (h : Trail σ tid cv vid ov lv n cls ord lev) {j : Nat} (hj : j ∈ foot lv) : j ≠ tid ∧ j ≠ vid := ⟨fun e => h.hlev.ne h.hobj (by decide) (e ▸ hj), fun e => h.hne (e ▸ hj)⟩

/-- New levels. -/
theorem Trail.levs (h : Trail σ tid cv vid ov lv n cls ord lev) {lv' : AV} {σ1 : Store} {lev2 : List Nat} (hf : Fr (foot lv) σ σ1) (hr : RowV σ1 lv' 3 (lev2.map fun k => .int .i64 (k : Nat))) (hft : ∀ j ∈ foot lv', j ∈ foot lv ∨ σ.length ≤ j) :
    σ1[tid]? = some (trailO cv vid n ov lv) ∧ Trail (σ1.set tid (trailO cv vid n ov lv')) tid cv vid ov lv' n cls ord lev2 := by
  obtain ⟨i1, i2, i3⟩ := h.ids
  have o1 : σ1[tid]? = some (trailO cv vid n ov lv) := by rw [hf.old tid i1 (fun e => (h.lvs e).1 rfl), h.hobj]
  have t1 := (List.getElem?_eq_some_iff.1 o1).1
  have old : ∀ j, j ≠ tid → j < σ.length → j ∉ foot lv → (σ1.set tid (trailO cv vid n ov lv'))[j]? = σ[j]? := fun j e1 e2 e3 => by rw [List.getElem?_set_ne (fun e => e1 e.symm), hf.old j e2 e3]
  refine ⟨o1, by simp [t1], ?_, ?_, ?_, ?_, fun e => ?_, h.good, h.small, h.clen, h.wf⟩
  · exact h.hcls.keep fun j hj => old j (h.tok hj).1 (h.hcls.lt j hj) (h.tok hj).2.2.2
  · rw [old vid (fun e => i3 e.symm) i2 h.hne, h.hvals]
  · exact h.hord.keep fun j hj => old j (h.ovs hj).1 (h.hord.lt j hj) (h.ovs hj).2.2
  · exact hr.keep fun j hj => List.getElem?_set_ne fun e => by
      rcases hft j hj with h1 | h1
      · exact (h.lvs h1).1 e.symm
      · omega
  · rcases hft vid e with h1 | h1
    · exact h.hne h1
    · omega

theorem pr_push (h : Trail σ tid cv vid ov lv n cls ord lev) (l : Int) (h0 : l ≠ 0) (hl : l.natAbs ≤ n) (hv : valT ord l = 0) (hc : cls.any (lostC ord) = false) (hlv : lev.length ≤ 100000) :
    ACall prog W0 109 [.ptr 158 tid 0 [], .int .i64 l] σ fun r σ' => r = .bool true ∧ ∃ ov' lv' fs, Trail σ' tid cv vid ov' lv' n cls (ord ++ l :: fs) (lev ++ [ord.length]) ∧ Fr (tid :: vid :: (foot ov ++ foot lv)) σ σ' ∧ (∀ j ∈ foot ov' ++ foot lv', j ∈ foot ov ++ foot lv ∨ σ.length ≤ j) ∧ ∀ M, setT M cls = true → Agr M (ord ++ [l]) → Agr M (ord ++ l :: fs) := by
  refine fn_call [4] [2000052, 4000003] func109 rfl rfl ntmps109 rfl rfl fun hs => ?_
  have hn := h.small
  have hw : IntKind.i64.wrap (-((n + 1 : Nat) : Int)) = -((n + 1 : Nat) : Int) := wrap_in (by omega)
  have e1 : (l == 0) = false := by simp [h0]
  have e2 : decide (l ≤ -((n + 1 : Nat) : Int)) = false := decide_eq_false (by omega)
  have e3 : decide (((n + 1 : Nat) : Int) ≤ l) = false := decide_eq_false (by omega)
  simp only [go_sem, simprocAttr, ↓reduceIte, look_id h.hobj, hw, e1, e2, e3, Bool.or_false]
  refine CallP.st (fun _ => pr_of h l h0 hl) ?_
  simp only [go_sem, simprocAttr, ↓reduceIte, hv]
  refine CallP.st (fun _ => pr_clash h) ?_
  have e4 : decide (0 ≤ idxL (lostC ord) cls) = false := by rw [idxL_ge, hc]
  have hov := h.hord.st
  have hlvs := h.hlev.st
  simp only [go_sem, simprocAttr, ↓reduceIte, e4, look_id h.hobj, hov.ok, hov.un, hov.len, hov.lenC, hlvs.ok, hlvs.un, List.length_map]
  refine ⟨.of (by kernel_rfl), AppA.rowS (σ := σ) (by simp only [go_sem, simprocAttr, ↓reduceIte]) 1048576 (by kernel_rfl) h.hlev (.lit _ _ _) (by simp; omega) fun lv' σ1 ha => ?_⟩
  have hr' : RowV σ1 lv' 3 ((lev ++ [ord.length]).map fun k => .int .i64 (k : Nat)) := by rw [List.map_append]; exact ha.row
  obtain ⟨o1, h2⟩ := h.levs ha.fr hr' ha.foot
  have hr := ha.row.st
  simp only [go_sem, simprocAttr, ↓reduceIte, look_id o1, setLook_id o1, hr.ok, hr.un, hr.fits]
  refine CallA.goes (by simp only [go_sem, simprocAttr, ↓reduceIte, trailO]) (pr_take h2 l h0 hl hv) fun r σ3 ⟨fr3, ov3, h3, ft3⟩ => ?_
  simp only [go_sem, simprocAttr, ↓reduceIte]
  refine CallA.goes (by simp only [go_sem, simprocAttr, ↓reduceIte]) (pr_follow h3) fun r σ4 ⟨ov4, ord4, hF⟩ => ?_
  simp only [go_sem, simprocAttr, ↓reduceIte]
  refine EndR.ret ?_
  simp only [go_sem, simprocAttr, ↓reduceIte]
  obtain ⟨fs, hfs⟩ := hF.pre
  rw [List.append_assoc, List.singleton_append] at hfs
  subst hfs
  have hl1 := ha.fr.len
  have hl3 : σ.length ≤ σ3.length := by have := fr3.len; simp at this; omega
  have hl4 := hF.fr.len
  refine ⟨_, .refl _, by omega, rfl, ov4, lv', fs, hF.tr, ?_, ?_, hF.snd⟩
  · have f1 : Fr (tid :: vid :: (foot ov ++ foot lv)) σ (σ1.set tid (trailO cv vid n ov lv')) := (ha.fr.mono fun j hj => by simp [hj]).set (.inl (by simp)) _
    have f2 := f1.trans fr3 fun j hj => by simp at hj ⊢; rcases hj with h | h | h <;> simp [h]
    refine f2.trans hF.fr fun j hj => ?_
    simp at hj ⊢
    rcases hj with h | h | h
    · simp [h]
    · simp [h]
    · rcases ft3 j h with h | h
      · simp [h]
      · simp at h; right; omega
  · intro j hj
    rcases List.mem_append.1 hj with hj | hj
    · rcases hF.ft j hj with h | h
      · rcases ft3 j h with h | h
        · simp [h]
        · simp at h; right; omega
      · right; omega
    · rcases ha.foot j hj with h | h
      · simp [h]
      · right; exact h
end Go.Proofs.Tryz
end
section
set_option linter.unusedSimpArgs false
set_option linter.unusedVariables false
namespace Go.Proofs.Tryz
open Go Go.Av
set_option maxRecDepth 10000
set_option linter.unusedSimpArgs false
set_option linter.unusedVariables false
variable {W0 : World}
variable {σ : Store} {tid vid n : Nat} {cv ov lv : AV} {cls : List (List Int)} {ord : List Int} {lev : List Nat}

theorem pr_pushNo (h : Trail σ tid cv vid ov lv n cls ord lev) (l : Int) (h0 : l ≠ 0) (hl : l.natAbs ≤ n) (hv : valT ord l = 0) (hc : cls.any (lostC ord) = true) :
    ACall prog W0 109 [.ptr 158 tid 0 [], .int .i64 l] σ fun r σ' => r = .bool false ∧ σ' = σ := by
  refine fn_call [4] [2000052, 4000003] func109 rfl rfl ntmps109 rfl rfl fun hs => ?_
  have hn := h.small
  have hw : IntKind.i64.wrap (-((n + 1 : Nat) : Int)) = -((n + 1 : Nat) : Int) := wrap_in (by omega)
  have e1 : (l == 0) = false := by simp [h0]
  have e2 : decide (l ≤ -((n + 1 : Nat) : Int)) = false := decide_eq_false (by omega)
  have e3 : decide (((n + 1 : Nat) : Int) ≤ l) = false := decide_eq_false (by omega)
  simp only [go_sem, simprocAttr, ↓reduceIte, look_id h.hobj, hw, e1, e2, e3, Bool.or_false]
  refine CallP.st (fun _ => pr_of h l h0 hl) ?_
  simp only [go_sem, simprocAttr, ↓reduceIte, hv]
  refine CallP.st (fun _ => pr_clash h) ?_
  have e4 : decide (0 ≤ idxL (lostC ord) cls) = true := by rw [idxL_ge, hc]
  simp only [go_sem, simprocAttr, ↓reduceIte, e4]
  refine EndR.ret ?_
  simp only [go_sem, simprocAttr, ↓reduceIte]
  exact ⟨_, .refl _, rfl⟩

theorem RowV.at {st : Store} {v : AV} {e : TypeId} {xs : List AV} {i : Nat} {x : AV} (h : RowV st v e xs) (hx : xs[i]? = some x) : ∃ id off m zs, v = .row e id off m ∧ st[id]? = some (some (.cells e zs)) ∧ m = xs.length ∧ zs[off + i]? = some x := by
  rcases h with ⟨_, rfl⟩ | ⟨id, off, m, zs, rfl, h1, h2, h3⟩
  · simp at hx
  · refine ⟨id, off, m, zs, rfl, h1, (RowV.len' (σ := st) (e := e) (id := id) h2 h3).symm, ?_⟩
    rw [h3, List.getElem?_take, List.getElem?_drop] at hx
    split at hx
    · exact hx
    · cases hx

theorem pr_pop {k : Nat} (h : Trail σ tid cv vid ov lv n cls ord (lev ++ [k])) (hk : k ≤ ord.length) (hll : lev.length ≤ 100000) :
    ACall prog W0 143 [.ptr 158 tid 0 []] σ fun r σ' => ∃ ov' lv', Trail σ' tid cv vid ov' lv' n cls (ord.take k) lev ∧ Fr [tid, vid] σ σ' ∧ foot ov' = foot ov ∧ foot lv' = foot lv := by
  refine fn_call [2] [4000010] func143 rfl rfl ntmps143 rfl rfl fun hs => ?_
  have hn := h.small
  have hol := h.good.len
  obtain ⟨i1, i2, i3⟩ := h.ids
  simp only [go_sem, simprocAttr, ↓reduceIte]
  refine CallA.reads (by simp only [go_sem, simprocAttr, ↓reduceIte]) (pr_levels h) ?_
  have e0 : (((lev ++ [k]).length : Int) == 0) = false := by simp; omega
  simp only [go_sem, simprocAttr, ↓reduceIte, e0]
  obtain ⟨lid, loff, lm, lz, hlv, hl1, hlm, hl2⟩ := RowV.at h.hlev (i := lev.length) (x := .int .i64 (k : Nat)) (by simp)
  have hlm' : lm = lev.length + 1 := by rw [hlm]; simp
  have hw : IntKind.i64.wrap ((lm : Int) - 1) = (lev.length : Nat) := by rw [wrap_in (by omega)]; omega
  have hov := h.hord
  have hovs := hov.st
  have ht : elT prog 90 = some 88 := by kernel_rfl
  have hcut := hov.cut (a := k) (b := ord.length) hk (by simp)
  rw [List.take_of_length_le (by simp), ← List.map_drop] at hcut
  have hcs := hcut.st
  simp only [go_sem, simprocAttr, ↓reduceIte, look_id h.hobj, hlv, hw, look_id hl1, live_id hl1, hl2, Option.bind_some, Option.isSome_some, hovs.ok, hovs.un, hov.cutV, hov.cutC ht, hcs.ok, hcs.un, hcs.len, hcs.lenC, List.length_map]
  refine ⟨by omega, hk, ?_⟩
  refine LoopVC.at [0, 3, 4] (.of (by kernel_rfl)) (fun A => A.st = σ.set vid (some (.cells 3 ((vals n (ord.take k)).map (.int .i64))))) ?_ fun B hst => ?_
  · refine LoopVC.upto [0, 3, 4, 28, 29] (.of (by kernel_rfl)) (ord.drop k).length (fun i A => A.env 30 = .int .i64 i ∧ A.st = σ.set vid (some (.cells 3 ((vals n (ord.take k ++ (ord.drop k).drop i)).map (.int .i64))))) 0 (Nat.zero_le _) ?_ fun i B hi ⟨h30, hst⟩ => ?_
    · simp only [go_sem, simprocAttr, ↓reduceIte]
      rw [List.take_append_drop]
      exact (set_id h.hvals).symm
    simp only [go_sem, simprocAttr, ↓reduceIte, h30, hst, List.length_map]
    refine ⟨fun hlt => ?_, fun hge => ?_⟩
    · obtain ⟨l, hl⟩ := get_some hlt
      obtain ⟨hlt', hle⟩ := List.getElem?_eq_some_iff.1 hl
      obtain ⟨oid, ooff, om, oz, hcv, ho1, hom, ho2⟩ := RowV.at hcut (i := i) (x := .int .i64 l) (by rw [List.getElem?_map, hl]; rfl)
      rw [List.length_map] at hom
      have hoid : vid ≠ oid := fun e => by have := h.hvals; rw [e, ho1] at this; cases this
      have ho1' : ∀ o, (σ.set vid o)[oid]? = some (some (.cells 88 oz)) := fun o => by rw [List.getElem?_set_ne hoid, ho1]
      have htid : ∀ o, (σ.set vid o)[tid]? = some (trailO cv vid n ov lv) := fun o => by rw [List.getElem?_set_ne (fun e => i3 e.symm), h.hobj]
      have hlm := h.good.wf l (List.mem_of_mem_drop (List.mem_of_getElem? hl))
      have hwl : IntKind.i64.wrap (-l) = -l := wrap_in (by omega)
      have hmx : maxI l (-l) = ((l.natAbs : Nat) : Int) := by unfold maxI; split <;> omega
      have hlen : l.natAbs < ((vals n (ord.take k ++ (ord.drop k).drop i)).map (AV.int .i64)).length := by rw [List.length_map, vals_len]; omega
      obtain ⟨y, hy⟩ := get_some hlen
      simp only [go_sem, simprocAttr, ↓reduceIte, h30, hst, hcv, look_id (ho1' _), live_id (ho1' _), ho2, Option.bind_some, Option.isSome_some, look_id (htid _), hlv, hwl, hmx, look_set i2, live_set i2, setLook_set i2, Nat.zero_add, hy, Option.getD_some]
      refine ⟨by omega, by omega, hlt, int_succ hlt (by rw [List.length_drop, maxLen_eq]; omega), ?_⟩
      have hd : (ord.drop k).drop i = l :: (ord.drop k).drop (i + 1) := by rw [List.drop_eq_getElem_cons hlt', hle]
      have hgd : GoodOrd n (ord.take k ++ l :: (ord.drop k).drop (i + 1)) := by
        rw [← hd]
        have := List.Sublist.append (List.Sublist.refl (ord.take k)) (List.drop_sublist i (ord.drop k))
        rw [List.take_append_drop] at this
        exact h.good.sub this
      have e : ((vals n (ord.take k ++ (ord.drop k).drop i)).map (AV.int .i64)).set l.natAbs (.int .i64 0) = (vals n (ord.take k ++ (ord.drop k).drop (i + 1))).map (.int .i64) := by
        rw [hd, ← vals_drop hgd, List.map_set]
      rw [e]
    · rw [List.drop_eq_nil_of_le hge, List.append_nil]
  have htid : ∀ o, (σ.set vid o)[tid]? = some (trailO cv vid n ov lv) := fun o => by rw [List.getElem?_set_ne (fun e => i3 e.symm), h.hobj]
  simp only [go_sem, simprocAttr, ↓reduceIte, hst, look_id (htid _), hovs.ok, hovs.un, hov.cutV, hov.cutC ht, hlv, List.length_map]
  have hcut2 := hov.cut (a := 0) (b := k) (Nat.zero_le _) (by simpa using hk)
  have hc2 := hcut2.st
  have t1 : ∀ o, tid < (σ.set vid o).length := fun o => by simpa using i1
  simp only [go_sem, simprocAttr, ↓reduceIte, hc2.ok, hc2.un, hc2.fits, setLook_id (htid _), look_set (t1 _), setLook_set (t1 _)]
  refine ⟨.of (by kernel_rfl), ⟨Nat.zero_le _, hk⟩, ⟨Nat.zero_le _, by omega⟩, EndR.ret ?_⟩
  simp only [go_sem, simprocAttr, ↓reduceIte]
  have hcut3 := h.hlev.cut (a := 0) (b := lev.length) (Nat.zero_le _) (by simp)
  have old : ∀ j, j ≠ tid → j ≠ vid → ∀ o o', ((σ.set vid o).set tid o')[j]? = σ[j]? := fun j e1 e2 o o' => by rw [List.getElem?_set_ne (fun e => e1 e.symm), List.getElem?_set_ne (fun e => e2 e.symm)]
  have e2 : (ord.map (AV.int .i64)).drop 0 = ord.map (AV.int .i64) := rfl
  rw [List.drop_zero, Nat.sub_zero, ← List.map_take] at hcut2 hcut3
  have e3 : (lev ++ [k]).take lev.length = lev := by rw [List.take_append_of_le_length (Nat.le_refl _), List.take_length]
  rw [e3, hlv, cutR_row] at hcut3
  refine ⟨_, .refl _, by simp, cutR 0 k ov, .row 3 lid (loff + 0) (lev.length - 0), ⟨?_, ?_, ?_, ?_, ?_, ?_, h.good.take k, h.small, h.clen, h.wf⟩, ?_, foot_cutR _ _ _, rfl⟩
  · simp [i1]; rfl
  · exact h.hcls.keep fun j hj => old j (h.tok hj).1 (h.tok hj).2.1 _ _
  · rw [List.getElem?_set_ne i3, List.getElem?_set_self i2]
  · exact hcut2.keep fun j hj => by rw [foot_cutR] at hj; exact old j (h.ovs hj).1 (h.ovs hj).2.1 _ _
  · exact hcut3.keep fun j hj => by
      have : j ∈ foot lv := by rw [hlv]; exact hj
      exact old j (h.lvs this).1 (h.lvs this).2 _ _
  · intro e
    exact h.hne (by rw [hlv]; exact e)
  · exact ((Fr.refl _ _).set (.inl (by simp)) _).set (.inl (by simp)) _
end Go.Proofs.Tryz
end
section
set_option linter.unusedSimpArgs false
set_option linter.unusedVariables false
namespace Go.Proofs.Tryz
open Go Go.Av
set_option maxRecDepth 10000
set_option linter.unusedSimpArgs false
set_option linter.unusedVariables false
variable {W0 : World}
variable {σ : Store} {tid vid n : Nat} {cv ov lv : AV} {cls : List (List Int)} {ord : List Int} {lev : List Nat}

/-- A trail that lies behind a store. -/
structure Own (τ : Store) (tid : Nat) (cv : AV) (vid : Nat) (ov lv : AV) : Prop where
  tid : τ.length ≤ tid
  vid : τ.length ≤ vid
  cv : ∀ j ∈ foot cv, τ.length ≤ j
  ov : ∀ j ∈ foot ov, τ.length ≤ j
  lv : ∀ j ∈ foot lv, τ.length ≤ j

/-- More clauses. -/
theorem Trail.more (h : Trail σ tid cv vid ov lv n cls ord lev) {cv' : AV} {σ1 : Store} {c : List Int} (ha : App σ cv 90 (cls.map litsAV ++ [litsAV c]) cv' σ1) (hl : cls.length < 5000) (hc : ∀ l ∈ c, l ≠ 0 ∧ l.natAbs ≤ n) :
    σ1[tid]? = some (trailO cv vid n ov lv) ∧ Trail (σ1.set tid (trailO cv' vid n ov lv)) tid cv' vid ov lv n (cls ++ [c]) ord lev := by
  obtain ⟨i1, i2, i3⟩ := h.ids
  have hf := ha.fr
  have o1 : σ1[tid]? = some (trailO cv vid n ov lv) := by rw [hf.old tid i1 (fun e => (h.tok e).1 rfl), h.hobj]
  have t1 := (List.getElem?_eq_some_iff.1 o1).1
  have old : ∀ j, j ≠ tid → j < σ.length → j ∉ foot cv → (σ1.set tid (trailO cv' vid n ov lv))[j]? = σ[j]? := fun j e1 e2 e3 => by rw [List.getElem?_set_ne (fun e => e1 e.symm), hf.old j e2 e3]
  refine ⟨o1, by simp [t1], ?_, ?_, ?_, ?_, h.hne, h.good, h.small, by simp; omega, fun d hd => ?_⟩
  · rw [List.map_append]
    refine ha.bld.keep fun j hj => List.getElem?_set_ne fun e => ?_
    rcases ha.foot h.hcls j hj with h1 | h1
    · exact (h.tok h1).1 e.symm
    · omega
  · rw [old vid (fun e => i3 e.symm) i2 (fun e => (h.tok e).2.1 rfl), h.hvals]
  · exact h.hord.keep fun j hj => old j (h.ovs hj).1 (h.hord.lt j hj) (fun e => (h.tok e).2.2.1 hj)
  · exact h.hlev.keep fun j hj => old j (h.lvs hj).1 (h.hlev.lt j hj) (fun e => (h.tok e).2.2.2 hj)
  · rcases List.mem_append.1 hd with h1 | h1
    · exact h.wf d h1
    · rw [List.mem_singleton.1 h1]; exact hc

theorem pr_new (sid : Nat) (hid : σ[sid]? = some (setO n cv)) (hb : Bld σ cv 90 (cls.map litsAV)) (hn : n ≤ 200) (hc5 : cls.length ≤ 5000) (hc : ∀ c ∈ cls, c ≠ [] ∧ c.length ≤ 1048576 ∧ ∀ l ∈ c, l ≠ 0 ∧ l.natAbs ≤ n) :
    ACall prog W0 106 [.ptr 160 sid 0 []] σ fun r σ' => ∃ tid cv' vid ov' ord, r = .ptr 158 tid 0 [] ∧ Trail σ' tid cv' vid ov' .nils n cls ord [] ∧ Own σ tid cv' vid ov' .nils ∧ Ext σ σ' ∧ ∀ M, setT M cls = true → Agr M ord := by
  refine fn_call [2] [2000027, 3000025, 4000007] func106 rfl rfl ntmps106 rfl rfl fun hs => ?_
  simp only [go_sem, simprocAttr, ↓reduceIte]
  refine CallA.reads (by simp only [go_sem, simprocAttr, ↓reduceIte]) (cn_vars σ sid n cv hid) ?_
  have hw : IntKind.i64.wrap ((n : Int) + 1) = ((n + 1 : Nat) : Int) := by rw [wrap_in (by omega)]; omega
  simp only [go_sem, simprocAttr, ↓reduceIte, hw]
  have hE : ∀ st, Ext σ st → st[sid]? = some (setO n cv) ∧ Bld st cv 90 (cls.map litsAV) := fun st he => by
    have f := Fr.ext (F := []) he
    exact ⟨by rw [f.old sid (List.getElem?_eq_some_iff.1 hid).1 (by simp), hid], hb.keep fun j hj => f.old j (hb.lt j hj) (by simp)⟩
  refine MakeA.go (e := 3) 201 (by kernel_rfl) (z := .int .i64 0) (by kernel_rfl) (by kernel_rfl) (by omega) ?_
  simp only [go_sem, simprocAttr, ↓reduceIte]
  have x1 : Ext σ (σ ++ [some (.cells 3 (List.replicate (n + 1) (.int .i64 0))), trailO .nils σ.length n .nils .nils]) := (Ext.refl _).app _
  refine CallA.reads (by simp only [go_sem, simprocAttr, ↓reduceIte, trailO]) (cn_len _ sid n cv cls (hE _ x1).1 (hE _ x1).2) ?_
  simp only [go_sem, simprocAttr, ↓reduceIte]
  have t0 : Trail (σ ++ [some (.cells 3 (List.replicate (n + 1) (.int .i64 0))), trailO .nils σ.length n .nils .nils]) (σ.length + 1) .nils σ.length .nils .nils n [] [] [] :=
    ⟨by simp, .inl ⟨rfl, rfl⟩, by simp [vals_nil], .inl ⟨rfl, rfl⟩, .inl ⟨rfl, rfl⟩, by simp [foot], GoodOrd.nil n, hn, by simp, by simp⟩
  refine LoopVC.at [3] (.of (by kernel_rfl)) (fun A => ∃ cv', Trail A.st (σ.length + 1) cv' σ.length .nils .nils n cls [] [] ∧ Ext σ A.st ∧ ∀ j ∈ foot cv', σ.length ≤ j) ?_ fun B ⟨cv', ht, hx, hft⟩ => ?_
  · refine LoopVC.upto [0, 3, 14] (.of (by kernel_rfl)) cls.length (fun i A => A.env 15 = .int .i64 i ∧ ∃ cv', Trail A.st (σ.length + 1) cv' σ.length .nils .nils n (cls.take i) [] [] ∧ Ext σ A.st ∧ ∀ j ∈ foot cv', σ.length ≤ j) 0 (Nat.zero_le _) ?_ fun i B hi ⟨h15, cv', ht, hx, hft⟩ => ?_
    · simp only [go_sem, simprocAttr, ↓reduceIte]
      exact ⟨.nils, t0, x1, by simp [foot]⟩
    simp only [go_sem, simprocAttr, ↓reduceIte, h15]
    refine ⟨fun hlt => ?_, fun hge => ?_⟩
    · obtain ⟨c, hcc⟩ := get_some hlt
      have hcm := hc c (List.mem_of_getElem? hcc)
      have hbv := ht.hcls
      simp only [go_sem, simprocAttr, ↓reduceIte, h15, look_id ht.hobj, hbv.ok, hbv.un]
      refine ⟨.of (by kernel_rfl), CallP.st (cn_at _ sid n cv cls (hE _ hx).1 (hE _ hx).2 i c hcc hcm.1 hcm.2.1) ?_⟩
      simp only [go_sem, simprocAttr, ↓reduceIte, h15, look_id ht.hobj, hbv.ok, hbv.un]
      have htl : (cls.take i).length = i := by rw [List.length_take]; omega
      refine AppA.ownS (σ := B.st) (by simp only [go_sem, simprocAttr, ↓reduceIte]) 1048576 (by kernel_rfl) hbv (.lit _ _ _) (by simp; omega) fun cv2 σ2 ha => ?_
      obtain ⟨o2, t2⟩ := ht.more ha (by omega) hcm.2.2
      have hb2 := ha.bld
      simp only [go_sem, simprocAttr, ↓reduceIte, h15, look_id o2, setLook_id o2, hb2.ok, hb2.un, hb2.fits]
      refine ⟨hlt, int_succ hlt (by rw [maxLen_eq]; omega), cv2, by rw [take_succ_get hcc]; exact t2, ?_, fun j hj => ?_⟩
      · exact (ha.fr.toExt hx hft).set (by omega) _
      · rcases ha.foot hbv j hj with h1 | h1
        · exact hft j h1
        · have := hx.le; omega
    · rw [List.take_of_length_le hge] at ht
      exact ⟨cv', ht, hx, hft⟩
  simp only [go_sem, simprocAttr, ↓reduceIte]
  refine CallA.goes (by simp only [go_sem, simprocAttr, ↓reduceIte]) (pr_follow ht) fun r σ' ⟨ov', ord', hF⟩ => ?_
  simp only [go_sem, simprocAttr, ↓reduceIte]
  refine EndR.ret ?_
  simp only [go_sem, simprocAttr, ↓reduceIte]
  obtain ⟨fs, hfs⟩ := hF.pre
  have hxl := hx.le
  have hfl := hF.fr.len
  refine ⟨_, .refl _, by omega, σ.length + 1, cv', σ.length, ov', ord', rfl, hF.tr, ⟨by omega, Nat.le_refl _, hft, fun j hj => ?_, by simp [foot]⟩, hF.fr.toExt hx ?_, fun M hM => hF.snd M hM (by simp [Agr])⟩
  · rcases hF.ft j hj with h1 | h1
    · simp [foot] at h1
    · omega
  · intro j hj
    simp [foot] at hj
    rcases hj with rfl | rfl <;> omega
end Go.Proofs.Tryz
end
