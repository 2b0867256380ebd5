/- Texts that the last one of this claim rests on: a layer over the guide's own conditions for code; contracts of the functions that the law reaches, one by one. No conditions beside those of the given rows. -/
import Derived.Test.YtnblgnafgdmcaaaGreatDoorWbd
import Derived.Test.YtnblgnafgdmcaaaGreatDoorWbe
section
set_option linter.unusedSimpArgs false
set_option linter.unusedVariables false
namespace Go.Proofs.Tryz
open Go Go.Av
set_option maxRecDepth 10000
set_option linter.unusedSimpArgs false
set_option linter.unusedVariables false
variable {W0 : World}

def srchO (tid n : Nat) (dv : AV) (z : Int) : Option SObj := some (.cells 121 [.agg 121 [.ptr 158 tid 0 [], .int .i64 n, dv, .int .i64 z]])

/-- A search in memory, behind a store τ. -/
structure Srch (τ st : Store) (xid tid : Nat) (cv : AV) (vid : Nat) (ov lv dv : AV) (z : Int) (n : Nat) (cls : List (List Int)) (ord : List Int) (lev : List Nat) (dec : List Int) : Prop where
  tr : Trail st tid cv vid ov lv n cls ord lev
  own : Own τ tid cv vid ov lv
  ext : Ext τ st
  obj : st[xid]? = some (srchO tid n dv z)
  hdec : RowV st dv 3 (dec.map (.int .i64))
  xlo : τ.length ≤ xid
  dlo : ∀ j ∈ foot dv, τ.length ≤ j
  dv1 : vid ∉ foot dv
  dv2 : ∀ j ∈ foot dv, j ∉ foot lv

variable {τ σ : Store} {xid tid vid n : Nat} {cv ov lv dv : AV} {z : Int} {cls : List (List Int)} {ord dec : List Int} {lev : List Nat}

theorem Srch.xne (h : Srch τ σ xid tid cv vid ov lv dv z n cls ord lev dec) : xid ≠ tid ∧ xid ≠ vid ∧ xid ∉ foot cv ∧ xid ∉ foot ov ∧ xid ∉ foot lv ∧ xid ∉ foot dv ∧ xid < σ.length := by
  refine ⟨fun e => ?_, fun e => ?_, h.tr.hcls.ne h.obj (by simp), h.tr.hord.ne h.obj (by decide), h.tr.hlev.ne h.obj (by decide), h.hdec.ne h.obj (by decide), (List.getElem?_eq_some_iff.1 h.obj).1⟩
  · have := h.obj; rw [e, h.tr.hobj] at this; simp [trailO, srchO] at this
  · have := h.obj; rw [e, h.tr.hvals] at this; simp [srchO] at this
theorem Srch.dne (h : Srch τ σ xid tid cv vid ov lv dv z n cls ord lev dec) {j : Nat} (hj : j ∈ foot dv) : j ≠ xid ∧ j ≠ tid ∧ j ≠ vid ∧ j ∉ foot cv ∧ j ∉ foot ov ∧ j ∉ foot lv ∧ j < σ.length := by
  refine ⟨fun e => h.xne.2.2.2.2.2.1 (e ▸ hj), fun e => h.hdec.ne h.tr.hobj (by decide) (e ▸ hj), fun e => h.dv1 (e ▸ hj), fun e => ?_, fun e => ?_, h.dv2 j hj, h.hdec.lt j hj⟩
  · rcases h.hdec with ⟨rfl, _⟩ | ⟨id, off, m, zs, rfl, h2, _⟩
    · simp [foot] at hj
    · simp [foot] at hj; subst hj; exact h.tr.hcls.ne h2 (by simp) e
  · rcases h.hdec with ⟨rfl, _⟩ | ⟨id, off, m, zs, rfl, h2, _⟩
    · simp [foot] at hj
    · simp [foot] at hj; subst hj; exact h.tr.hord.ne h2 (by decide) e

/-- Behind a step of the trail's. -/
theorem Srch.step (h : Srch τ σ xid tid cv vid ov lv dv z n cls ord lev dec) {σ' : Store} {ov' lv' : AV} {ord' : List Int} {lev' : List Nat} (tr : Trail σ' tid cv vid ov' lv' n cls ord' lev') (fr : Fr (tid :: vid :: (foot ov ++ foot lv)) σ σ') (fo : ∀ j ∈ foot ov', j ∈ foot ov ++ foot lv ∨ σ.length ≤ j) (fl : ∀ j ∈ foot lv', j ∈ foot ov ++ foot lv ∨ σ.length ≤ j) :
    Srch τ σ' xid tid cv vid ov' lv' dv z n cls ord' lev' dec := by
  obtain ⟨x1, x2, x3, x4, x5, x6, x7⟩ := h.xne
  have hx := h.ext.le
  refine ⟨tr, ⟨h.own.tid, h.own.vid, h.own.cv, fun j hj => ?_, fun j hj => ?_⟩, fr.toExt h.ext fun j hj => ?_, ?_, h.hdec.keep fun j hj => ?_, h.xlo, h.dlo, h.dv1, fun j hj hl => ?_⟩
  · rcases fo j hj with h1 | h1
    · rcases List.mem_append.1 h1 with h1 | h1
      · exact h.own.ov j h1
      · exact h.own.lv j h1
    · omega
  · rcases fl j hj with h1 | h1
    · rcases List.mem_append.1 h1 with h1 | h1
      · exact h.own.ov j h1
      · exact h.own.lv j h1
    · omega
  · simp at hj
    rcases hj with rfl | rfl | h1 | h1
    · exact h.own.tid
    · exact h.own.vid
    · exact h.own.ov j h1
    · exact h.own.lv j h1
  · rw [fr.old xid x7 (by simp [x1, x2, x4, x5]), h.obj]
  · have := h.dne hj
    exact fr.old j this.2.2.2.2.2.2 (by simp [this.2.1, this.2.2.1, this.2.2.2.2.1, this.2.2.2.2.2.1])
  · rcases fl j hl with h1 | h1
    · rcases List.mem_append.1 h1 with h1 | h1
      · exact (h.dne hj).2.2.2.2.1 h1
      · exact h.dv2 j hj h1
    · have := h.hdec.lt j hj; omega

/-- Other decisions. -/
theorem Srch.decs (h : Srch τ σ xid tid cv vid ov lv dv z n cls ord lev dec) {σ1 : Store} {dv' : AV} {dec' : List Int} (z' : Int) (fr : Fr (foot dv) σ σ1) (hr : RowV σ1 dv' 3 (dec'.map (.int .i64))) (hf : ∀ j ∈ foot dv', j ∈ foot dv ∨ σ.length ≤ j) :
    σ1[xid]? = some (srchO tid n dv z) ∧ Srch τ (σ1.set xid (srchO tid n dv' z')) xid tid cv vid ov lv dv' z' n cls ord lev dec' := by
  obtain ⟨x1, x2, x3, x4, x5, x6, x7⟩ := h.xne
  have hx := h.ext.le
  have o1 : σ1[xid]? = some (srchO tid n dv z) := by rw [fr.old xid x7 x6, h.obj]
  have l1 := (List.getElem?_eq_some_iff.1 o1).1
  have old : ∀ j, j ≠ xid → j < σ.length → j ∉ foot dv → (σ1.set xid (srchO tid n dv' z'))[j]? = σ[j]? := fun j e1 e2 e3 => by rw [List.getElem?_set_ne (fun e => e1 e.symm), fr.old j e2 e3]
  obtain ⟨i1, i2, i3⟩ := h.tr.ids
  refine ⟨o1, ⟨?_, ?_, ?_, ?_, ?_, h.tr.hne, h.tr.good, h.tr.small, h.tr.clen, h.tr.wf⟩, h.own, (fr.toExt h.ext h.dlo).set h.xlo _, by simp [l1], hr.keep fun j hj => ?_, h.xlo, fun j hj => ?_, fun e => ?_, fun j hj hl => ?_⟩
  · rw [old tid (fun e => x1 e.symm) i1 (fun e => (h.dne e).2.1 rfl), h.tr.hobj]
  · exact h.tr.hcls.keep fun j hj => old j (fun e => x3 (e ▸ hj)) (h.tr.hcls.lt j hj) (fun e => (h.dne e).2.2.2.1 hj)
  · rw [old vid (fun e => x2 e.symm) i2 h.dv1, h.tr.hvals]
  · exact h.tr.hord.keep fun j hj => old j (fun e => x4 (e ▸ hj)) (h.tr.hord.lt j hj) (fun e => (h.dne e).2.2.2.2.1 hj)
  · exact h.tr.hlev.keep fun j hj => old j (fun e => x5 (e ▸ hj)) (h.tr.hlev.lt j hj) (fun e => (h.dne e).2.2.2.2.2.1 hj)
  · refine List.getElem?_set_ne fun e => ?_
    rcases hf j hj with h1 | h1
    · exact (h.dne h1).1 e.symm
    · omega
  · rcases hf j hj with h1 | h1
    · exact h.dlo j h1
    · omega
  · rcases hf vid e with h1 | h1
    · exact h.dv1 h1
    · omega
  · rcases hf j hj with h1 | h1
    · exact h.dv2 j h1 hl
    · have := h.tr.hlev.lt j hl; omega

theorem sa_may (sid : Nat) (hid : σ[sid]? = some (setO n cv)) (hn : n ≤ 200) (l : Int) :
    ACall prog W0 108 [.ptr 160 sid 0 [], .int .i64 l] σ fun r σ' => r = .bool (wfL n l) ∧ σ' = σ := by
  refine fn_st [4] [] func108 rfl rfl ntmps108 rfl rfl (.bool _) fun hs => ?_
  simp only [go_sem, simprocAttr, ↓reduceIte]
  refine CallP.st (fun _ => cn_vars σ sid n cv hid) ?_
  simp only [go_sem, simprocAttr, ↓reduceIte]
  refine CallP.st (fun _ => cn_vars σ sid n cv hid) ?_
  have hw : IntKind.i64.wrap (-(n : Int)) = -(n : Int) := wrap_in (by omega)
  simp only [go_sem, simprocAttr, ↓reduceIte, hw]
  refine EndR.ret ?_
  simp only [go_sem, simprocAttr, ↓reduceIte]
  refine weak_bool ?_
  rw [wfL, Bool.eq_iff_iff]
  simp
  omega

theorem sa_open (h : Srch τ σ xid tid cv vid ov lv dv z n cls ord lev dec) :
    ACall prog W0 112 [.ptr 121 xid 0 []] σ fun r σ' => σ' = σ ∧ ∃ v : Nat, r = .int .i64 v ∧ ((v = 0 ∧ ∀ v : Nat, 0 < v → v ≤ n → valT ord (v : Nat) ≠ 0) ∨ (0 < v ∧ v ≤ n ∧ valT ord (v : Nat) = 0)) := by
  refine fn_call [2] [] func112 rfl rfl ntmps112 rfl rfl fun hs => ?_
  have hn := h.tr.small
  simp only [go_sem, simprocAttr, ↓reduceIte]
  refine LoopVC.falls [0] (.of (by kernel_rfl)) (fun k A => ∃ j : Nat, A.env 3 = .int .i64 j ∧ k = n + 1 - j ∧ 0 < j ∧ j ≤ n + 1 ∧ A.st = σ ∧ ∀ v : Nat, 0 < v → v < j → valT ord (v : Nat) ≠ 0) n ⟨1, ?_⟩ fun k B ⟨j, h3, hk, hj, hjn, hst, hI⟩ => ?_
  · simp only [go_sem, Nat.reduceEqDiff, Nat.reduceLT, ↓reduceIte, Int.reduceToNat, Int.reduceLE, Int.reduceLT, Int.reduceEq, Int.reduceBEq, Int.reduceBNe, Int.reduceNeg, Int.reduceAdd, Int.reduceSub, Nat.reduceBEq, Nat.reduceAdd, Nat.reduceMul, Nat.reduceSub, Nat.reduceLeDiff]
    exact ⟨by omega, fun v h1 h2 => by omega⟩
  simp only [go_sem, simprocAttr, ↓reduceIte, h3, hst, look_id h.obj]
  refine ⟨fun hle => ?_, fun hgt => EndR.ret ?_⟩
  · refine CallA.reads (by simp only [go_sem, simprocAttr, ↓reduceIte, hst]) (pr_value h.tr j hj (by omega)) ?_
    simp only [go_sem, simprocAttr, ↓reduceIte, h3, hst]
    refine ⟨fun hv => EndR.ret ?_, fun hv => .here (n + 1 - (j + 1)) (by omega) ⟨j + 1, int_succ (N := 1000) (by omega) (by rw [maxLen_eq]; omega), rfl, by omega, by omega, by simp only [go_sem, simprocAttr, ↓reduceIte, hst], fun v h1 h2 => ?_⟩⟩
    · simp only [go_sem, simprocAttr, ↓reduceIte, hst]
      exact ⟨_, .refl _, j, rfl, .inr ⟨hj, by omega, by simpa using hv⟩⟩
    · rcases Nat.lt_succ_iff_lt_or_eq.1 h2 with h2 | rfl
      · exact hI v h1 h2
      · simpa using hv
  · simp only [go_sem, simprocAttr, ↓reduceIte, hst]
    exact ⟨_, .refl _, 0, rfl, .inl ⟨rfl, fun v h1 h2 => hI v h1 (by omega)⟩⟩
end Go.Proofs.Tryz
end
section
set_option linter.unusedSimpArgs false
set_option linter.unusedVariables false
namespace Go.Proofs.Tryz
open Go Go.Av
set_option maxRecDepth 10000
set_option linter.unusedSimpArgs false
set_option linter.unusedVariables false
variable {W0 : World}
variable {τ σ : Store} {xid tid vid n : Nat} {cv ov lv dv : AV} {z : Int} {cls : List (List Int)} {ord dec asm : List Int} {lev lev0 : List Nat} {stk : List (Nat × Int)} {base : Nat}

/-- A search between two steps: its decisions, those that are behind it. -/
structure Way (τ st : Store) (xid tid : Nat) (cv : AV) (vid n : Nat) (cls : List (List Int)) (asm : List Int) (base : Nat) (lev0 : List Nat) (ord : List Int) (stk : List (Nat × Int)) (ov lv dv : AV) (z : Int) : Prop where
  s : Srch τ st xid tid cv vid ov lv dv z n cls ord (lev0 ++ stk.map (·.1)) (stk.map (·.2))
  ok : StkOk n cls ord base stk
  asm : ∀ l ∈ asm, l ∈ ord.take base
  lev0 : lev0.length ≤ 1000

/-- No model is on the way. -/
def Lost (cls : List (List Int)) (asm ord : List Int) (stk : List (Nat × Int)) : Prop := ∀ M, setT M cls = true → Agr M asm → Alts ord stk M

theorem sa_back (h : Way τ σ xid tid cv vid n cls asm base lev0 ord stk ov lv dv z) (hL : Lost cls asm ord stk) :
    ACall prog W0 111 [.ptr 121 xid 0 []] σ fun r σ' => Ext τ σ' ∧ σ.length ≤ σ'.length ∧ ((r = .bool false ∧ ∀ M, setT M cls = true → ¬ Agr M asm) ∨
      (r = .bool true ∧ ∃ ord' stk' ov' lv' dv', Way τ σ' xid tid cv vid n cls asm base lev0 ord' stk' ov' lv' dv' z ∧ OpenW cls asm ord' stk' ∧ mu n stk' < mu n stk)) := by
  refine fn_call [2] [] func111 rfl rfl ntmps111 rfl rfl fun hs => ?_
  have hn := h.s.tr.small
  simp only [go_sem, simprocAttr, ↓reduceIte]
  refine LoopVC.falls [0] (.of (by kernel_rfl)) (fun k A => ∃ ord2 stk2 tr ov2 lv2 dv2, k = stk2.length ∧ stk = stk2 ++ tr ∧ Way τ A.st xid tid cv vid n cls asm base lev0 ord2 stk2 ov2 lv2 dv2 z ∧ Lost cls asm ord2 stk2 ∧ σ.length ≤ A.st.length) stk.length ⟨ord, stk, [], ov, lv, dv, ?_⟩ fun k B ⟨ord2, stk2, tr, ov2, lv2, dv2, hk, htr, hW, hL2, hsl⟩ => ?_
  · simp only [go_sem, simprocAttr, ↓reduceIte]
    exact ⟨by simp, h, hL⟩
  have hS := hW.s
  have hds := hS.hdec.st
  have hxl := h.s.ext
  simp only [go_sem, simprocAttr, ↓reduceIte, look_id hS.obj, hds.ok, hds.un, hds.len, hds.lenC, List.length_map]
  refine ⟨fun hlt => ?_, fun hge => EndR.ret ?_⟩
  case refine_2 =>
    have : stk2 = [] := List.eq_nil_of_length_eq_zero (by omega)
    subst this
    simp only [go_sem, simprocAttr, ↓reduceIte]
    have hle := hS.ext.le
    refine ⟨_, .refl _, hsl, hS.ext, hsl, .inl ⟨rfl, fun M h1 h2 => ?_⟩⟩
    · obtain ⟨p, hp, _⟩ := hL2 M h1 h2
      simp at hp
  obtain ⟨stk3, p, rfl⟩ : ∃ s p, stk2 = s ++ [p] := ⟨stk2.dropLast, stk2.getLast (by intro e; subst e; simp at hlt), (List.dropLast_concat_getLast _).symm⟩
  obtain ⟨kk, d⟩ := p
  obtain ⟨g1, g2, g3, g4, g5, g6, g7⟩ := hW.ok.pop
  obtain ⟨did, doff, dm, dz, hdv, hd1, hdm, hd2⟩ := RowV.at hS.hdec (i := stk3.length) (x := .int .i64 d) (by simp)
  have hdm' : dm = stk3.length + 1 := by rw [hdm]; simp
  have hle3 := hW.ok.le
  have hgl := hS.tr.good.len
  have hwl : IntKind.i64.wrap (((stk3.length + 1 : Nat) : Int) - 1) = (stk3.length : Nat) := by rw [wrap_in (by simp at hle3; omega)]; omega
  simp only [go_sem, simprocAttr, ↓reduceIte, look_id hS.obj, hdv, hwl, look_id hd1, live_id hd1, hd2, Option.bind_some, Option.isSome_some]
  have hS' := hS
  rw [List.map_append, List.map_append, ← List.append_assoc] at hS'
  have htr0 : Trail B.st tid cv vid ov2 lv2 n cls ord2 ((lev0 ++ stk3.map (·.1)) ++ [kk]) := hS'.tr
  refine ⟨by omega, CallA.goes (by simp only [go_sem, simprocAttr, ↓reduceIte]) (pr_pop htr0 (by omega) ?_) fun r σ1 ⟨ov3, lv3, ht3, fr3, fo3, fl3⟩ => ?_⟩
  · have := hW.lev0; simp at hle3 ⊢; omega
  have hS3 := hS.step ht3 (fr3.mono fun j hj => by simp at hj ⊢; rcases hj with rfl | rfl <;> simp) (fun j hj => .inl (by rw [fo3] at hj; simp [hj])) (fun j hj => .inl (by rw [fl3] at hj; simp [hj]))
  obtain ⟨y1, y2, y3, y4, y5, y6, y7⟩ := hS3.xne
  have hcut := hS3.hdec.cut (a := 0) (b := stk3.length) (Nat.zero_le _) (by simp)
  have e3 : ((((stk3 ++ [(kk, d)]).map (·.2)).map (AV.int .i64)).drop 0).take (stk3.length - 0) = (stk3.map (·.2)).map (AV.int .i64) := by
    rw [List.drop_zero, Nat.sub_zero, List.map_append, List.map_append, List.take_append_of_le_length (by simp), List.take_of_length_le (by simp)]
  rw [e3] at hcut
  obtain ⟨o4, hS4⟩ := hS3.decs z (.refl _ _) hcut (fun j hj => .inl (by rwa [foot_cutR] at hj))
  rw [hdv, cutR_row] at hS4
  rw [hdv] at o4
  simp only [go_sem, simprocAttr, ↓reduceIte, look_id hS3.obj, hdv, setLook_id o4, look_set y7]
  have hLtk : ∀ M, setT M cls = true → Agr M asm → (0 < d ∧ Agr M (ord2.take kk) ∧ litT M d = true) ∨ Alts (ord2.take kk) stk3 M := fun M h1 h2 => by
    obtain ⟨p, hp, h3, h4, h5⟩ := hL2 M h1 h2
    rcases List.mem_append.1 hp with hp | hp
    · exact .inr (Alts.take g7 ⟨p, hp, h3, h4, h5⟩)
    · rw [List.mem_singleton.1 hp] at h3 h4 h5
      exact .inl ⟨h3, h4, h5⟩
  have hbase : ∀ l ∈ asm, l ∈ (ord2.take kk).take base := fun l hl => by
    have := g1.le
    rw [List.length_take] at this
    rw [List.take_take, Nat.min_eq_left (by omega)]
    exact hW.asm l hl
  have hl1 := fr3.len
  refine ⟨⟨Nat.zero_le _, by omega⟩, fun hd => ?_, fun hd => .here stk3.length (by rw [hk]; simp) ⟨ord2.take kk, stk3, (kk, d) :: tr, ov3, lv3, _, rfl, by rw [htr]; simp, ⟨hS4, g1, hbase, hW.lev0⟩, fun M h1 h2 => ?_, ?_⟩⟩
  case refine_2 =>
    rcases hLtk M h1 h2 with h3 | h3
    · exact absurd h3.1 hd
    · exact h3
  case refine_3 =>
    simp only [go_sem, simprocAttr, ↓reduceIte]
    simp
    omega
  have hwd : IntKind.i64.wrap (-d) = -d := wrap_in (by omega)
  simp only [go_sem, simprocAttr, ↓reduceIte, hwd]
  refine AppA.rowS (σ := σ1.set xid (srchO tid n (.row 3 did (doff + 0) (stk3.length - 0)) z)) (by simp only [go_sem, simprocAttr, ↓reduceIte, srchO]) 1048576 (by kernel_rfl) hS4.hdec (.lit _ _ _) (by simp at hle3 ⊢; omega) fun dv5 σ3 ha => ?_
  have hr5 : RowV σ3 dv5 3 ((stk3.map (·.2) ++ [-d]).map (.int .i64)) := by rw [List.map_append]; exact ha.row
  obtain ⟨o5, hS5⟩ := hS4.decs z ha.fr hr5 ha.foot
  have hr := ha.row.st
  have t5 := (List.getElem?_eq_some_iff.1 o5).1
  simp only [go_sem, simprocAttr, ↓reduceIte, look_id o5, setLook_id o5, hr.ok, hr.un, hr.fits, look_set t5]
  have hll : (lev0 ++ stk3.map (·.1)).length ≤ 100000 := by have := hW.lev0; simp at hle3 ⊢; omega
  refine CallA.goes (by simp only [go_sem, simprocAttr, ↓reduceIte, srchO]) (pr_push hS5.tr d g3 g4 g5 g6 hll) fun r σ5 ⟨hr6, ov6, lv6, fs, ht6, fr6, ff6, snd6⟩ => ?_
  subst hr6
  simp only [go_sem, simprocAttr, ↓reduceIte]
  refine EndR.ret ?_
  simp only [go_sem, simprocAttr, ↓reduceIte]
  have hS6 := hS5.step ht6 fr6 (fun j hj => ff6 j (by simp [hj])) (fun j hj => ff6 j (by simp [hj]))
  have ekk : (ord2.take kk).length = kk := by rw [List.length_take]; omega
  have eS : ∀ q : List (Nat × Int), lev0 ++ (stk3 ++ q).map (·.1) = lev0 ++ stk3.map (·.1) ++ q.map (·.1) := fun q => by rw [List.map_append, List.append_assoc]
  have hl3 := ha.fr.len
  have hl6 := fr6.len
  simp at hl3 hl6
  have tk : ∀ i, i ≤ (ord2.take kk).length → (ord2.take kk ++ d :: fs).take i = (ord2.take kk).take i := fun i hi => List.take_append_of_le_length hi
  have hlt6 : mu n (stk3 ++ [(kk, -d)]) < mu n stk := by
    rw [htr, List.append_assoc]
    exact mu_flip n stk3 tr kk d hd (by simp at hle3; omega)
  refine ⟨_, .refl _, by omega, hS6.ext, by omega, .inr ⟨rfl, ord2.take kk ++ d :: fs, stk3 ++ [(kk, -d)], ov6, lv6, dv5, ⟨?_, ?_, fun l hl => ?_, hW.lev0⟩, fun M h1 h2 => ?_, hlt6⟩⟩
  · rw [eS, List.map_append]
    rw [ekk] at hS6
    exact hS6
  · exact g1.app tk ekk.symm (by simp; omega) (by omega) (by omega) (by rw [valT_neg (hS3.tr.good)]; omega) g6
  · have := g1.le
    rw [tk _ (by omega)]
    exact hbase l hl
  · rcases hLtk M h1 h2 with ⟨_, h3, h4⟩ | h3
    · left
      refine snd6 M h1 fun l hl => ?_
      rcases List.mem_append.1 hl with hl | hl
      · exact h3 l hl
      · rw [List.mem_singleton.1 hl]; exact h4
    · exact .inr (h3.more (fun p hp => tk _ (by rw [ekk]; exact g7 p hp)) _)
end Go.Proofs.Tryz
end
section
set_option linter.unusedSimpArgs false
set_option linter.unusedVariables false
namespace Go.Proofs.Tryz
open Go Go.Av
set_option maxRecDepth 10000
set_option linter.unusedSimpArgs false
set_option linter.unusedVariables false
variable {W0 : World}
variable {τ σ : Store} {xid tid vid n : Nat} {cv ov lv dv : AV} {z : Int} {cls : List (List Int)} {ord dec asm : List Int} {lev lev0 : List Nat} {stk : List (Nat × Int)} {base : Nat}

theorem lost_Lost (h : Srch τ σ xid tid cv vid ov lv dv z n cls ord lev dec) (hO : OpenW cls asm ord stk) (hc : cls.any (lostC ord) = true) : Lost cls asm ord stk := fun M h1 h2 => by
  rcases hO M h1 h2 with h3 | h3
  · obtain ⟨c, hc1, hc2⟩ := List.any_eq_true.1 hc
    have := lost_none h3 h.tr.good hc2
    rw [List.all_eq_true.1 h1 c hc1] at this
    cases this
  · exact h3

theorem sa_next (h : Way τ σ xid tid cv vid n cls asm base lev0 ord stk ov lv dv z) (hO : OpenW cls asm ord stk) :
    ACall prog W0 83 [.ptr 121 xid 0 [], .int .i64 0] σ fun r σ' => Ext τ σ' ∧ σ.length ≤ σ'.length ∧ ((r = .tup [.bool false, .int .i64 0] ∧ ∀ M, setT M cls = true → ¬ Agr M asm) ∨
      (r = .tup [.bool true, .int .i64 0] ∧ ∃ ord' stk' ov' lv' dv' z', Way τ σ' xid tid cv vid n cls asm base lev0 ord' stk' ov' lv' dv' z' ∧ cls.any (lostC ord') = false ∧ ∀ v : Nat, 0 < v → v ≤ n → valT ord' (v : Nat) ≠ 0)) := by
  refine fn_call [4, 5] [] func83 rfl rfl ntmps83 rfl rfl fun hs => ?_
  have hn := h.s.tr.small
  simp only [go_sem, simprocAttr, ↓reduceIte]
  refine LoopVC.falls [0, 1] (.of (by kernel_rfl)) (fun k A => ∃ ord2 stk2 ov2 lv2 dv2 z2, k = mu n stk2 ∧ Way τ A.st xid tid cv vid n cls asm base lev0 ord2 stk2 ov2 lv2 dv2 z2 ∧ OpenW cls asm ord2 stk2 ∧ σ.length ≤ A.st.length) (mu n stk) ⟨ord, stk, ov, lv, dv, z, ?_⟩ fun k B ⟨ord2, stk2, ov2, lv2, dv2, z2, hk, hW, hO2, hsl⟩ => ?_
  · simp only [go_sem, simprocAttr, ↓reduceIte]
    exact ⟨h, hO⟩
  have hS := hW.s
  simp only [go_sem, simprocAttr, ↓reduceIte, look_id hS.obj]
  refine CallA.reads (by simp only [go_sem, simprocAttr, ↓reduceIte]) (pr_clash hS.tr) ?_
  simp only [go_sem, simprocAttr, ↓reduceIte]
  refine ⟨fun hc => ?_, fun hc => ?_⟩
  · have hc : cls.any (lostC ord2) = true := by rw [← idxL_ge]; exact decide_eq_true hc
    refine CallA.goes (by simp only [go_sem, simprocAttr, ↓reduceIte]) (sa_back hW (lost_Lost hS hO2 hc)) fun r σ1 ⟨hx1, hl1, hr⟩ => ?_
    rcases hr with ⟨rfl, hno⟩ | ⟨rfl, ord3, stk3, ov3, lv3, dv3, hW3, hO3, hmu⟩
    · simp only [go_sem, simprocAttr, ↓reduceIte]
      refine EndR.ret ?_
      simp only [go_sem, simprocAttr, ↓reduceIte]
      exact ⟨_, .refl _, by omega, hx1, by omega, .inl ⟨rfl, hno⟩⟩
    · simp only [go_sem, simprocAttr, ↓reduceIte]
      refine .here (mu n stk3) (by omega) ⟨ord3, stk3, ov3, lv3, dv3, z2, rfl, ?_, hO3, ?_⟩
      · simp only [go_sem, simprocAttr, ↓reduceIte]
        exact hW3
      · simp only [go_sem, simprocAttr, ↓reduceIte]
        omega
  · have hc : cls.any (lostC ord2) = false := by rw [← idxL_ge]; exact decide_eq_false hc
    refine CallA.goes (by simp only [go_sem, simprocAttr, ↓reduceIte]) (sa_open hS) fun r σ1 ⟨hσ, v, hr, hv⟩ => ?_
    subst hr
    obtain rfl : σ1 = B.st := hσ
    simp only [go_sem, simprocAttr, ↓reduceIte]
    refine ⟨fun h0 => EndR.ret ?_, fun h0 => ?_⟩
    · have h0 : v = 0 := by omega
      subst h0
      simp only [go_sem, simprocAttr, ↓reduceIte]
      refine ⟨_, .refl _, hsl, hS.ext, hsl, .inr ⟨rfl, ord2, stk2, ov2, lv2, dv2, z2, hW, hc, ?_⟩⟩
      rcases hv with ⟨_, h1⟩ | ⟨h1, _⟩
      · exact h1
      · omega
    obtain ⟨v0, vn, vv⟩ : 0 < v ∧ v ≤ n ∧ valT ord2 (v : Nat) = 0 := hv.resolve_left fun h => h0 (by rw [h.1]; rfl)
    have hds := hS.hdec.st
    obtain ⟨y1, y2, y3, y4, y5, y6, y7⟩ := hS.xne
    have hle := hW.ok.le
    have hgl := hS.tr.good.len
    obtain ⟨o2, hS2⟩ := hS.decs (IntKind.i64.wrap (z2 + 1)) (.refl _ _) hS.hdec (fun j hj => .inl hj)
    simp only [go_sem, simprocAttr, ↓reduceIte, look_id hS.obj, setLook_id hS.obj, look_set y7, hds.ok, hds.un]
    refine AppA.rowS (σ := B.st.set xid (srchO tid n dv2 (IntKind.i64.wrap (z2 + 1)))) (by simp only [go_sem, simprocAttr, ↓reduceIte, srchO]) 1048576 (by kernel_rfl) hS2.hdec (.lit _ _ _) (by simp; omega) fun dv5 σ3 ha => ?_
    have hr5 : RowV σ3 dv5 3 ((stk2.map (·.2) ++ [(v : Int)]).map (.int .i64)) := by rw [List.map_append]; exact ha.row
    obtain ⟨o5, hS5⟩ := hS2.decs (IntKind.i64.wrap (z2 + 1)) ha.fr hr5 ha.foot
    have hr := ha.row.st
    have t5 := (List.getElem?_eq_some_iff.1 o5).1
    have hwv : IntKind.i64.wrap (-(v : Int)) = -(v : Int) := wrap_in (by omega)
    simp only [go_sem, simprocAttr, ↓reduceIte, look_id o5, setLook_id o5, hr.ok, hr.un, hr.fits, look_set t5, hwv]
    have hll : (lev0 ++ stk2.map (·.1)).length ≤ 100000 := by have := hW.lev0; simp; omega
    have hvn : valT ord2 (-(v : Int)) = 0 := by rw [valT_neg hS.tr.good, vv]; rfl
    refine CallA.goes (by simp only [go_sem, simprocAttr, ↓reduceIte, srchO]) (pr_push hS5.tr (-(v : Int)) (by omega) (by omega) hvn hc hll) fun r σ5 ⟨hr6, ov6, lv6, fs, ht6, fr6, ff6, snd6⟩ => ?_
    subst hr6
    simp only [go_sem, simprocAttr, ↓reduceIte]
    have hS6 := hS5.step ht6 fr6 (fun j hj => ff6 j (by simp [hj])) (fun j hj => ff6 j (by simp [hj]))
    have eS : ∀ q : List (Nat × Int), lev0 ++ (stk2 ++ q).map (·.1) = lev0 ++ stk2.map (·.1) ++ q.map (·.1) := fun q => by rw [List.map_append, List.append_assoc]
    have hl3 := ha.fr.len
    have hl6 := fr6.len
    simp at hl3 hl6
    have tk : ∀ i, i ≤ ord2.length → (ord2 ++ -(v : Int) :: fs).take i = ord2.take i := fun i hi => List.take_append_of_le_length hi
    have hkp : ∀ p ∈ stk2, p.1 ≤ ord2.length := fun p hp => by
      have key : ∀ {lo : Nat} {s : List (Nat × Int)}, StkOk n cls ord2 lo s → ∀ p ∈ s, p.1 ≤ ord2.length := fun {lo s} => by
        induction s generalizing lo with
        | nil => intro _ p hp; simp at hp
        | cons q s ih =>
          intro ⟨_, h2, _, _, _, _, h7⟩ p hp
          rcases List.mem_cons.1 hp with rfl | hp
          · omega
          · exact ih h7 p hp
      exact key hW.ok p hp
    have hlen6 := hS6.tr.good.len
    simp at hlen6
    refine .here (mu n (stk2 ++ [(ord2.length, (v : Int))])) (by rw [hk]; exact mu_push n stk2 _ _ (by omega)) ⟨ord2 ++ -(v : Int) :: fs, stk2 ++ [(ord2.length, (v : Int))], ov6, lv6, dv5, IntKind.i64.wrap (z2 + 1), rfl, ?_, fun M h1 h2 => ?_, ?_⟩
    · simp only [go_sem, simprocAttr, ↓reduceIte]
      refine ⟨?_, hW.ok.app tk rfl (by simp) (by omega) (by omega) vv hc, fun l hl => ?_, hW.lev0⟩
      · rw [eS, List.map_append]
        exact hS6
      · rw [tk _ (by omega)]
        exact hW.asm l hl
    · rcases hO2 M h1 h2 with h3 | h3
      · cases ht : litT M (v : Int) with
        | true => exact .inr ⟨(ord2.length, (v : Int)), by simp, by show (0 : Int) < v; omega, by rw [tk _ (Nat.le_refl _), List.take_length]; exact h3, ht⟩
        | false =>
          left
          refine snd6 M h1 fun l hl => ?_
          rcases List.mem_append.1 hl with hl | hl
          · exact h3 l hl
          · rw [List.mem_singleton.1 hl, litT_neg (by omega), ht]; rfl
      · exact .inr (h3.more (fun p hp => tk _ (hkp p hp)) _)
    · simp only [go_sem, simprocAttr, ↓reduceIte]
      omega
end Go.Proofs.Tryz
end
section
set_option linter.unusedSimpArgs false
set_option linter.unusedVariables false
namespace Go.Proofs.Tryz
open Go Go.Av
set_option maxRecDepth 10000
set_option linter.unusedSimpArgs false
set_option linter.unusedVariables false
variable {W0 : World}
variable {τ σ : Store} {xid tid vid n : Nat} {cv ov lv dv : AV} {z : Int} {cls : List (List Int)} {ord dec asm : List Int} {lev lev0 : List Nat} {stk : List (Nat × Int)} {base : Nat}

/-- A set of clauses that is well made. -/
structure SetOk (n : Nat) (cls : List (List Int)) : Prop where
  small : n ≤ 200
  len : cls.length ≤ 5000
  wf : ∀ c ∈ cls, c ≠ [] ∧ c.length ≤ 1048576 ∧ ∀ l ∈ c, l ≠ 0 ∧ l.natAbs ≤ n

theorem wfL_iff {n : Nat} {l : Int} : wfL n l = true ↔ l ≠ 0 ∧ l.natAbs ≤ n := by simp [wfL]

theorem sa_begin (sid : Nat) (hid : σ[sid]? = some (setO n cv)) (hb : Bld σ cv 90 (cls.map litsAV)) (hk : SetOk n cls) (asm : List Int) (ha : asm.length ≤ 1000) :
    ACall prog W0 82 [.ptr 160 sid 0 [], litsAV asm] σ fun r σ' => Ext σ σ' ∧ ((r = .tup [.nil, .bool false] ∧ ¬ satA n cls asm) ∨
      ∃ xid tid cv' vid ov lv ord lev0, r = .tup [.ptr 121 xid 0 [], .bool true] ∧ Way σ σ' xid tid cv' vid n cls asm ord.length lev0 ord [] ov lv .nils 0 ∧ OpenW cls asm ord [] ∧ ∀ l ∈ asm, wfL n l = true) := by
  refine fn_call [4, 5] [2000053] func82 rfl rfl ntmps82 rfl rfl fun hs => ?_
  have hn := hk.small
  simp only [go_sem, simprocAttr, ↓reduceIte]
  refine JoinVC.at [1] (by kernel_rfl) (fun A => A.env 0 = .ptr 160 sid 0 [] ∧ A.st = σ) (fun h => by cases h) (fun _ => ?_) fun B ⟨hs0, hst⟩ => ?_
  · simp only [go_sem, simprocAttr, ↓reduceIte]
  simp only [go_sem, simprocAttr, ↓reduceIte, hs0, hst]
  refine CallA.goes (by simp only [go_sem, simprocAttr, ↓reduceIte, hst]) (pr_new sid hid hb hk.small hk.len hk.wf) fun r σ1 ⟨tid, cv1, vid, ov1, ord1, hr, ht1, ho1, hx1, hm1⟩ => ?_
  subst hr
  have hE : ∀ st, Ext σ st → st[sid]? = some (setO n cv) := fun st he => by rw [(Fr.ext (F := []) he).old sid (List.getElem?_eq_some_iff.1 hid).1 (by simp), hid]
  simp only [go_sem, simprocAttr, ↓reduceIte, hs0]
  refine CallA.reads (by simp only [go_sem, simprocAttr, ↓reduceIte]) (cn_vars σ1 sid n cv (hE _ hx1)) ?_
  simp only [go_sem, simprocAttr, ↓reduceIte, hs0, litsAV, List.length_map]
  have hxl := hx1.le
  have hS0 : Srch σ (σ1 ++ [srchO tid n .nils 0]) σ1.length tid cv1 vid ov1 .nils .nils 0 n cls ord1 [] [] := by
    have old : ∀ j, j < σ1.length → (σ1 ++ [srchO tid n .nils 0])[j]? = σ1[j]? := fun j hj => List.getElem?_append_left hj
    obtain ⟨i1, i2, i3⟩ := ht1.ids
    refine ⟨⟨by rw [old _ i1, ht1.hobj], ht1.hcls.keep fun j hj => old j (ht1.hcls.lt j hj), by rw [old _ i2, ht1.hvals], ht1.hord.keep fun j hj => old j (ht1.hord.lt j hj), ht1.hlev.keep fun j hj => old j (ht1.hlev.lt j hj), ht1.hne, ht1.good, ht1.small, ht1.clen, ht1.wf⟩, ho1, hx1.app _, by simp, .inl ⟨rfl, rfl⟩, hxl, by simp [foot], by simp [foot], by simp [foot]⟩
  refine LoopVC.at [6] (.of (by kernel_rfl)) (fun A => ∃ ov lv ord lev, Srch σ A.st σ1.length tid cv1 vid ov lv .nils 0 n cls ord lev [] ∧ (∀ M, setT M cls = true → Agr M asm → Agr M ord) ∧ (∀ l ∈ asm, l ∈ ord) ∧ (∀ l ∈ asm, wfL n l = true) ∧ lev.length ≤ 1000) ?_ fun B ⟨ov, lv, ord, lev, hS, hM, hi, hwf, hlv⟩ => ?_
  · refine LoopVC.upto [0, 6, 19, 20] (.of (by kernel_rfl)) asm.length (fun i A => A.env 21 = .int .i64 i ∧ ∃ ov lv ord lev, Srch σ A.st σ1.length tid cv1 vid ov lv .nils 0 n cls ord lev [] ∧ (∀ M, setT M cls = true → Agr M (asm.take i) → Agr M ord) ∧ (∀ l ∈ asm.take i, l ∈ ord) ∧ (∀ l ∈ asm.take i, wfL n l = true) ∧ lev.length ≤ i) 0 (Nat.zero_le _) ?_ fun i B hi ⟨h21, ov, lv, ord, lev, hS, hM, hin, hwf, hlv⟩ => ?_
    · simp only [go_sem, simprocAttr, ↓reduceIte]
      exact ⟨ov1, .nils, ord1, [], hS0, fun M h1 _ => hm1 M h1, by simp⟩
    simp only [go_sem, simprocAttr, ↓reduceIte, h21, hs0, List.length_map]
    refine ⟨fun hlt => ⟨hlt, ?_⟩, fun hge => ?_⟩
    · obtain ⟨l, hl⟩ := get_some hlt
      simp only [atV_map hl]
      simp only [go_sem, simprocAttr, ↓reduceIte, h21, hs0]
      refine CallA.reads (by simp only [go_sem, simprocAttr, ↓reduceIte]) (sa_may sid (hE _ hS.ext) hn l) ?_
      simp only [go_sem, simprocAttr, ↓reduceIte, h21, hs0]
      have hlm := List.mem_of_getElem? hl
      refine ⟨fun hw => EndR.ret ?_, fun hw => ?_⟩
      · simp only [go_sem, simprocAttr, ↓reduceIte]
        exact ⟨_, .refl _, hS.ext.le, hS.ext, .inl ⟨rfl, fun h => by have := h.1 l hlm; rw [hw] at this; cases this⟩⟩
      obtain ⟨w1, w2⟩ := wfL_iff.1 hw
      have hwn : IntKind.i64.wrap (-l) = -l := wrap_in (by omega)
      have hmx : maxI l (-l) = ((l.natAbs : Nat) : Int) := by unfold maxI; split <;> omega
      simp only [go_sem, simprocAttr, ↓reduceIte, look_id hS.obj, hwn, hmx]
      refine CallA.reads (by simp only [go_sem, simprocAttr, ↓reduceIte]) (pr_value hS.tr l.natAbs (by omega) w2) ?_
      simp only [go_sem, simprocAttr, ↓reduceIte, h21, hs0]
      refine JoinVC.at [0, 6, 8, 19, 20, 21] (by kernel_rfl) (fun A => A.env 9 = .int .i64 (valT ord l) ∧ A.st = B.st) (fun h => ?_) (fun h => ?_) fun A ⟨h9, hst⟩ => ?_
      · simp only [go_sem, simprocAttr, ↓reduceIte]
        have hneg := of_decide_eq_true h
        have e : ((l.natAbs : Nat) : Int) = -l := by omega
        rw [e, valT_neg hS.tr.good]
        rcases valT_cases ord l with ⟨h1, _⟩ | ⟨h1, _⟩ | ⟨h1, _⟩ <;> rw [h1] <;> rfl
      · simp only [go_sem, simprocAttr, ↓reduceIte]
        have hneg := of_decide_eq_false h
        have e : ((l.natAbs : Nat) : Int) = l := by omega
        rw [e]
      have htk : ∀ M, Agr M asm → Agr M (asm.take i) := fun M h l hl => h l (List.mem_of_mem_take hl)
      have hcont : ∀ {st : Store} {ov' lv' : AV} {ord' : List Int} {lev' : List Nat}, Srch σ st σ1.length tid cv1 vid ov' lv' .nils 0 n cls ord' lev' [] → (∀ M, setT M cls = true → Agr M (asm.take (i + 1)) → Agr M ord') → (∀ l ∈ asm.take i, l ∈ ord') → l ∈ ord' → lev'.length ≤ i + 1 →
          ∃ ov lv ord lev, Srch σ st σ1.length tid cv1 vid ov lv .nils 0 n cls ord lev [] ∧ (∀ M, setT M cls = true → Agr M (asm.take (i + 1)) → Agr M ord) ∧ (∀ l ∈ asm.take (i + 1), l ∈ ord) ∧ (∀ l ∈ asm.take (i + 1), wfL n l = true) ∧ lev.length ≤ i + 1 := fun {st ov' lv' ord' lev'} a1 a2 a3 a4 a5 => by
        refine ⟨ov', lv', ord', lev', a1, a2, fun m hm => ?_, fun m hm => ?_, a5⟩
        · rw [take_succ_get hl] at hm
          rcases List.mem_append.1 hm with hm | hm
          · exact a3 m hm
          · rw [List.mem_singleton.1 hm]; exact a4
        · rw [take_succ_get hl] at hm
          rcases List.mem_append.1 hm with hm | hm
          · exact hwf m hm
          · rw [List.mem_singleton.1 hm]; exact hw
      have hup : ∀ M, Agr M (asm.take (i + 1)) → Agr M (asm.take i) ∧ litT M l = true := fun M h => by
        rw [take_succ_get hl] at h
        exact ⟨fun m hm => h m (List.mem_append_left _ hm), h l (by simp)⟩
      have hsl := hS.ext.le
      rcases valT_cases ord l with ⟨hv, hlo⟩ | ⟨hv, _, hlo⟩ | ⟨hv, _⟩
      · have d1 : decide ((1 : Int) < 0) = false := rfl
        have d2 : ((1 : Int) == 0) = false := rfl
        simp only [go_sem, simprocAttr, ↓reduceIte, h9, hst, h21, hs0, look_id hS.obj, hv, d1, d2]
        refine ⟨.bool false, ?_⟩
        simp only [go_sem, simprocAttr, ↓reduceIte, h9, hst, h21, hs0]
        exact ⟨hlt, int_succ hlt (by rw [maxLen_eq]; omega), hcont hS (fun M h1 h2 => hM M h1 (hup M h2).1) hin hlo (by omega)⟩
      · have d1 : decide ((-1 : Int) < 0) = true := rfl
        simp only [go_sem, simprocAttr, ↓reduceIte, h9, hst, h21, hs0, look_id hS.obj, hv, d1]
        refine ⟨.bool false, ?_⟩
        simp only [go_sem, simprocAttr, ↓reduceIte, h9, hst, h21, hs0]
        refine EndR.ret ?_
        simp only [go_sem, simprocAttr, ↓reduceIte, hst]
        refine ⟨_, .refl _, hsl, hS.ext, .inl ⟨rfl, fun ⟨_, M, h1, h2⟩ => ?_⟩⟩
        have := (hM M h1 (htk M h2)).neg hS.tr.good hv
        rw [h2 l hlm] at this
        cases this
      · have d1 : decide ((0 : Int) < 0) = false := rfl
        have d2 : ((0 : Int) == 0) = true := rfl
        simp only [go_sem, simprocAttr, ↓reduceIte, h9, hst, h21, hs0, look_id hS.obj, hv, d1, d2]
        cases hcl : cls.any (lostC ord) with
        | true =>
          refine CallA.goes (by simp only [go_sem, simprocAttr, ↓reduceIte, hst]) (pr_pushNo hS.tr l w1 w2 hv hcl) fun r σ2 ⟨hr, hσ⟩ => ?_
          subst hr hσ
          simp only [go_sem, simprocAttr, ↓reduceIte]
          refine EndR.ret ?_
          simp only [go_sem, simprocAttr, ↓reduceIte]
          refine ⟨_, .refl _, hsl, hS.ext, .inl ⟨rfl, fun ⟨_, M, h1, h2⟩ => ?_⟩⟩
          obtain ⟨c, hc1, hc2⟩ := List.any_eq_true.1 hcl
          have := lost_none (hM M h1 (htk M h2)) hS.tr.good hc2
          rw [List.all_eq_true.1 h1 c hc1] at this
          cases this
        | false =>
          refine CallA.goes (by simp only [go_sem, simprocAttr, ↓reduceIte, hst]) (pr_push hS.tr l w1 w2 hv hcl (by omega)) fun r σ2 ⟨hr, ov6, lv6, fs, ht6, fr6, ff6, snd6⟩ => ?_
          subst hr
          have hS6 := hS.step ht6 fr6 (fun j hj => ff6 j (by simp [hj])) (fun j hj => ff6 j (by simp [hj]))
          simp only [go_sem, simprocAttr, ↓reduceIte, h21]
          refine ⟨hlt, int_succ hlt (by rw [maxLen_eq]; omega), hcont hS6 (fun M h1 h2 => snd6 M h1 fun m hm => ?_) (fun m hm => by simp [hin m hm]) (by simp) (by simp; omega)⟩
          rcases List.mem_append.1 hm with hm | hm
          · exact hM M h1 (hup M h2).1 m hm
          · rw [List.mem_singleton.1 hm]; exact (hup M h2).2
    · rw [List.take_of_length_le hge] at hM hin hwf
      exact ⟨ov, lv, ord, lev, hS, hM, hin, hwf, by omega⟩
  simp only [go_sem, simprocAttr, ↓reduceIte]
  refine EndR.ret ?_
  simp only [go_sem, simprocAttr, ↓reduceIte]
  refine ⟨_, .refl _, hS.ext.le, hS.ext, .inr ⟨σ1.length, tid, cv1, vid, ov, lv, ord, lev, rfl, ⟨by simpa using hS, Nat.le_refl _, fun l hl => by rw [List.take_length]; exact hi l hl, hlv⟩, fun M h1 h2 => .inl (hM M h1 h2), hwf⟩⟩
end Go.Proofs.Tryz
end
section
set_option linter.unusedSimpArgs false
set_option linter.unusedVariables false
namespace Go.Proofs.Tryz
open Go Go.Av
set_option maxRecDepth 10000
set_option linter.unusedSimpArgs false
set_option linter.unusedVariables false
variable {W0 : World}
variable {τ σ : Store} {xid tid vid n : Nat} {cv ov lv dv : AV} {z : Int} {cls : List (List Int)} {ord dec asm : List Int} {lev lev0 : List Nat} {stk : List (Nat × Int)} {base : Nat}

theorem sa_solve (sid : Nat) (hid : σ[sid]? = some (setO n cv)) (hb : Bld σ cv 90 (cls.map litsAV)) (hk : SetOk n cls) (asm : List Int) (ha : asm.length ≤ 1000) :
    ACall prog W0 52 [.ptr 160 sid 0 [], litsAV asm, .int .i64 0] σ fun r σ' => Ext σ σ' ∧ ((r = .tup [.nils, .bool false, .int .i64 0] ∧ ¬ satA n cls asm) ∨
      ∃ M, r = .tup [.sl 4 ((List.range n).map fun i => .bool (M (i + 1))), .bool true, .int .i64 0] ∧ setT M cls = true ∧ Agr M asm ∧ ∀ l ∈ asm, wfL n l = true) := by
  refine fn_call [6, 7, 8] [] func52 rfl rfl ntmps52 rfl rfl fun hs => ?_
  have hn := hk.small
  simp only [go_sem, simprocAttr, ↓reduceIte]
  refine CallA.goes (by simp only [go_sem, simprocAttr, ↓reduceIte]) (sa_begin sid hid hb hk asm ha) fun r σ1 ⟨hx1, hr⟩ => ?_
  rcases hr with ⟨rfl, hno⟩ | ⟨xid, tid, cv1, vid, ov1, lv1, ord1, lev1, rfl, hW, hO, hwf⟩
  · simp only [go_sem, simprocAttr, ↓reduceIte]
    refine EndR.ret ?_
    simp only [go_sem, simprocAttr, ↓reduceIte]
    exact ⟨_, .refl _, hx1.le, hx1, .inl ⟨rfl, hno⟩⟩
  simp only [go_sem, simprocAttr, ↓reduceIte]
  refine CallA.goes (by simp only [go_sem, simprocAttr, ↓reduceIte]) (sa_next hW hO) fun r σ2 ⟨hx2, hl2, hr⟩ => ?_
  rcases hr with ⟨rfl, hno⟩ | ⟨rfl, ord2, stk2, ov2, lv2, dv2, z2, hW2, hc, hall⟩
  · simp only [go_sem, simprocAttr, ↓reduceIte]
    refine EndR.ret ?_
    simp only [go_sem, simprocAttr, ↓reduceIte]
    exact ⟨_, .refl _, hx2.le, hx2, .inl ⟨rfl, fun ⟨_, M, h1, h2⟩ => hno M h1 h2⟩⟩
  have hS := hW2.s
  obtain ⟨M, hM1, hM2, hM3⟩ := model_of hS.tr.good hall hc hS.tr.wf
  simp only [go_sem, simprocAttr, ↓reduceIte, look_id hS.obj]
  refine MakeA.go (e := 4) 200 (by kernel_rfl) (z := .bool false) (by kernel_rfl) (by kernel_rfl) hn ?_
  simp only [go_sem, simprocAttr, ↓reduceIte]
  have hasm : Agr M asm := fun l hl => hM2 l (List.mem_of_mem_take (hW2.asm l hl))
  let ms (i : Nat) : List AV := (List.range n).map fun j => .bool (if j < i then M (j + 1) else false)
  have hml : ∀ i, (ms i).length = n := fun i => by simp [ms]
  have hm0 : ms 0 = List.replicate n (.bool false) := by
    refine List.ext_getElem? fun j => ?_
    simp only [ms, List.getElem?_map, List.getElem?_range, List.getElem?_replicate]
    by_cases hj : j < n
    · simp [hj]
    · simp [hj]
  have hms : ∀ i, i < n → (ms i).set i (.bool (M (i + 1))) = ms (i + 1) := fun i hi => by
    refine List.ext_getElem? fun j => ?_
    rw [List.getElem?_set, hml]
    simp only [ms, List.getElem?_map]
    by_cases hj : j < n
    · rw [List.getElem?_range hj]
      by_cases e : i = j
      · subst e; simp [hj]
      · simp only [e, if_false, Option.map_some]
        by_cases h1 : j < i
        · simp [h1, show j < i + 1 by omega]
        · simp [h1, show ¬ j < i + 1 by omega]
    · rw [List.getElem?_eq_none (show (List.range n).length ≤ j by simp; omega)]
      simp; omega
  have hmn : ms n = (List.range n).map fun i => .bool (M (i + 1)) := List.map_congr_left fun j hj => by rw [if_pos (List.mem_range.1 hj)]
  rw [← hm0]
  have hl2' := hx2.le
  have hS' : ∀ o, Trail (σ2 ++ [o]) tid cv1 vid ov2 lv2 n cls ord2 (lev1 ++ stk2.map (·.1)) ∧ (σ2 ++ [o])[xid]? = some (srchO tid n dv2 z2) := fun o => by
    have old : ∀ j, j < σ2.length → (σ2 ++ [o])[j]? = σ2[j]? := fun j hj => List.getElem?_append_left hj
    have ht1 := hS.tr
    obtain ⟨i1, i2, i3⟩ := ht1.ids
    exact ⟨⟨by rw [old _ i1, ht1.hobj], ht1.hcls.keep fun j hj => old j (ht1.hcls.lt j hj), by rw [old _ i2, ht1.hvals], ht1.hord.keep fun j hj => old j (ht1.hord.lt j hj), ht1.hlev.keep fun j hj => old j (ht1.hlev.lt j hj), ht1.hne, ht1.good, ht1.small, ht1.clen, ht1.wf⟩, by rw [old _ hS.xne.2.2.2.2.2.2, hS.obj]⟩
  refine LoopVC.at [12] (.of (by kernel_rfl)) (fun A => A.st = σ2 ++ [some (.cells 4 (ms n))]) ?_ fun B hst => ?_
  · refine LoopVC.upto [9, 12, 37] (.of (by kernel_rfl)) n (fun i A => A.env 38 = .int .i64 i ∧ A.st = σ2 ++ [some (.cells 4 (ms i))]) 0 (Nat.zero_le _) ?_ fun i B hi ⟨h38, hst⟩ => ?_
    · simp only [go_sem, simprocAttr, ↓reduceIte]
    simp only [go_sem, simprocAttr, ↓reduceIte, h38, hst]
    refine ⟨fun hlt => ?_, fun hge => ?_⟩
    · obtain ⟨ht, hx⟩ := hS' (some (.cells 4 (ms i)))
      have hw : IntKind.i64.wrap ((i : Int) + 1) = ((i + 1 : Nat) : Int) := wrap_succ hlt (by rw [maxLen_eq]; omega)
      simp only [go_sem, simprocAttr, ↓reduceIte, h38, hst, look_id hx, hw]
      refine CallA.reads (by simp only [go_sem, simprocAttr, ↓reduceIte, hst]) (pr_value ht (i + 1) (by omega) (by omega)) ?_
      obtain ⟨y, hy⟩ := get_some (show i < (ms i).length by rw [hml]; exact hlt)
      simp only [go_sem, simprocAttr, ↓reduceIte, h38, hst, Nat.zero_add, hy, Option.bind_some, Option.isSome_some]
      refine ⟨⟨hlt, ⟨4, ms i, by simp⟩⟩, hlt, int_succ hlt (by rw [maxLen_eq]; omega), ?_⟩
      rw [← hM3, hms i hlt]
    · have : i = n := by omega
      subst this
      rfl
  simp only [go_sem, simprocAttr, ↓reduceIte]
  refine EndR.frz (e := 4) (te := 4) (id := σ2.length) (off := 0) (m := n) (xs := ms n) 6 (by simp only [go_sem, simprocAttr, ↓reduceIte]) (by simp only [go_sem, simprocAttr, ↓reduceIte, hst]) (by rw [hml]; omega) (EndR.ret ?_)
  simp only [go_sem, simprocAttr, ↓reduceIte, hst]
  rw [List.take_of_length_le (by rw [hml]; omega), hmn]
  exact ⟨_, .refl _, by omega, hx2.app _, .inr ⟨M, rfl, hM1, hasm, hwf⟩⟩
end Go.Proofs.Tryz
end
section
set_option linter.unusedSimpArgs false
set_option linter.unusedVariables false
namespace Go.Proofs.Tryz
open Go Go.Av
set_option maxRecDepth 10000
set_option linter.unusedSimpArgs false
set_option linter.unusedVariables false
variable {W0 : World}
variable {σ : Store} {n : Nat} {cv : AV} {cls : List (List Int)}

end Go.Proofs.Tryz
end
