/- Texts that the last one of this claim rests on: a layer over the guide's own conditions for code; contracts of the functions that the law reaches, one by one. No conditions beside those of the given rows. -/
import Derived.Test.YtekjlnodoelblaaGreatDoorWam
import Derived.Test.YtekjlnodoelblaaGreatDoorWax
import Derived.Test.YtekjlnodoelblaaGreatDoorWay
section
set_option linter.unusedSimpArgs false
set_option linter.unusedVariables false
namespace Go.Av
open Go
theorem ConvA.keep {P : Program} {A : AState} {s e : TypeId} {id off m : Nat} {xs : List AV} {dst : Option Nat} {k : AState → Prop} (hs : elT P s = some e) (he : intT P e = some .u8) (h0 : 0 < m) (hσ : A.st[id]? = some (some (.cells e xs))) (hm : off + m ≤ xs.length)
    (hk : k ((A.put dst (.sl e ((xs.drop off).take m))).withSt (A.st.set id none))) : ConvA P s s (.row e id off m) dst A k .mk := .inr (.inr ⟨e, id, off, m, xs, rfl, ⟨rfl, hs, he⟩, h0, hσ, hm, hk⟩)
end Go.Av
namespace Go.Proofs.Tryz
open Go Go.Av
set_option maxRecDepth 10000
set_option linter.unusedSimpArgs false
set_option linter.unusedVariables false
variable {W0 : World}

theorem shape_at : eqShape prog 36 = some [1, 1] := by kernel_rfl
@[go_sem] theorem eqAt (a b c d : Int) : eqAgg prog 36 [.int .i64 a, .int .i64 b] [.int .i64 c, .int .i64 d] = some (a == c && b == d) := by
  simp only [eqAgg_K shape_at, eqKs, eqK1, if_true, Option.map_some, Option.bind_some, Bool.and_true]
theorem at0 (x : AV) (r : List AV) : atV (x :: r) 0 = x := rfl
theorem reach_eq9 : reachBytes = 140737488351232 := by decide
theorem l9_light (l : List Pkg) (hp : ∀ p ∈ l, PkgR p) : PureFn prog W0 26 [pkgsAV l] (.bool (lightL9 0 l)) := by
  refine fn_pure [2] [4] func26 rfl rfl ntmps26 rfl rfl (.bool _) fun hs σ => ?_
  have hl := (small_map (hs _ (List.mem_cons_self ..))).1
  have hls := (small_map (hs _ (List.mem_cons_self ..))).2
  simp only [go_sem, simprocAttr, ↓reduceIte, pkgsAV, List.length_map]
  refine LoopVC.upto [9, 10] (.of (by kernel_rfl)) l.length (fun i A => A.env 11 = .int .i64 i ∧ Ext σ A.st ∧ lightL9 i (l.drop i) = lightL9 0 l) 0 (Nat.zero_le _) ?_ fun i B hi ⟨h8, hst, hI⟩ => ?_
  · simp only [go_sem, simprocAttr, ↓reduceIte]
    simp [Ext.refl]
  simp only [go_sem, simprocAttr, ↓reduceIte, h8, List.length_map]
  refine ⟨fun hc => ⟨hc, ?_⟩, fun hc => ?_⟩
  · obtain ⟨p, hpi⟩ := get_some hc
    simp only [atV_map hpi]
    have hR := hp p (List.mem_of_getElem? hpi)
    have r1 := hR.con; have r2 := hR.brk; have r3 := hR.prov
    rw [reach_eq9] at r1 r2 r3
    have hw1 : IntKind.i64.wrap ((p.con.length : Int) + (p.brk.length : Int)) = ((p.con.length : Int) + (p.brk.length : Int)) := wrap_in (by omega)
    have hw2 : IntKind.i64.wrap ((p.con.length : Int) + (p.brk.length : Int) + (p.prov.length : Int)) = ((p.con.length : Int) + (p.brk.length : Int) + (p.prov.length : Int)) := wrap_in (by omega)
    rw [List.drop_eq_getElem_cons hc, lightL9] at hI
    have hpe : l[i] = p := (List.getElem?_eq_some_iff.1 hpi).2
    rw [hpe] at hI
    simp only [go_sem, simprocAttr, ↓reduceIte, pkgAV, atomsAV, provsAV, h8, List.length_map, hw1, hw2]
    have e3 : [clausesAV p.pre, clausesAV p.dep, clausesAV p.rcm] = [p.pre, p.dep, p.rcm].map clausesAV := rfl
    refine ⟨fun hb => ⟨weak_bool ?_, hst.app _⟩, fun hb => ?_⟩
    · have : lightP9 i p = false := by
        unfold lightP9
        simp only [Bool.or_eq_true, decide_eq_true_eq] at hb
        rcases hb with hb | hb
        · rw [decide_eq_false (show ¬ i < 40 by omega)]; rfl
        · rw [decide_eq_false (show ¬ p.con.length + p.brk.length + p.prov.length ≤ 60 by omega), Bool.and_false]; rfl
      rw [← hI, this]; rfl
    simp only [Bool.or_eq_false_iff, decide_eq_false_iff_not] at hb
    have hP : lightP9 i p = [p.pre, p.dep, p.rcm].all lightD9 := by
      unfold lightP9
      rw [decide_eq_true (show i < 40 by omega), decide_eq_true (show p.con.length + p.brk.length + p.prov.length ≤ 60 by omega)]; rfl
    simp only [e3]
    have hds := hls p (List.mem_of_getElem? hpi)
    refine LoopVC.ats [9, 10, 11] (.of (by kernel_rfl)) (fun A => Ext σ A.st ∧ lightP9 i p = true) ?_ fun B2 ⟨hst, h6⟩ => ?_
    · refine LoopVC.upto [9, 10, 11, 38] (.of (by kernel_rfl)) 3 (fun j A => A.env 39 = .int .i64 j ∧ Ext σ A.st ∧ ([p.pre, p.dep, p.rcm].drop j).all lightD9 = [p.pre, p.dep, p.rcm].all lightD9) 0 (Nat.zero_le _) ?_ fun j B2 hj ⟨h39, hst, hJ⟩ => ?_
      · simp only [go_sem, simprocAttr, ↓reduceIte]
        exact hst.app _
      simp only [go_sem, simprocAttr, ↓reduceIte, h39]
      simp only [e3]
      refine ⟨fun hc2 => ?_, fun hc2 => ?_⟩
      · have hc3 : j < [p.pre, p.dep, p.rcm].length := by show j < 3; omega
        obtain ⟨d, hdj⟩ := get_some hc3
        have hde := (List.getElem?_eq_some_iff.1 hdj).2
        rw [List.drop_eq_getElem_cons hc3, hde, List.all_cons] at hJ
        simp only [getD_map hdj]
        simp only [go_sem, simprocAttr, ↓reduceIte, clausesAV, h39, List.length_map]
        refine ⟨hc3, ?_⟩
        have hlD : lightD9 d = (decide (d.length ≤ 30) && d.all fun c => decide (c.length ≤ 30)) := rfl
        refine ⟨fun hb => ⟨weak_bool ?_, hst⟩, fun hb => ?_⟩
        · rw [← hI, hP, ← hJ, hlD, decide_eq_false (by omega)]; rfl
        rw [decide_eq_true (show d.length ≤ 30 by omega), Bool.true_and] at hlD
        refine LoopVC.ats [9, 10, 11, 38, 39] (.of (by kernel_rfl)) (fun A => Ext σ A.st ∧ (d.all fun c => decide (c.length ≤ 30)) = true) ?_ fun B3 ⟨hst, h6⟩ => ?_
        · refine LoopVC.upto [9, 10, 11, 38, 39, 45, 46] (.of (by kernel_rfl)) d.length (fun k A => A.env 47 = .int .i64 k ∧ Ext σ A.st ∧ ∀ c ∈ d.take k, c.length ≤ 30) 0 (Nat.zero_le _) ?_ fun k B3 hk ⟨h47, hst, hK⟩ => ?_
          · simp only [go_sem, simprocAttr, ↓reduceIte]
            simp [hst]
          simp only [go_sem, simprocAttr, ↓reduceIte, h47, List.length_map]
          refine ⟨fun hc4 => ⟨hc4, ?_⟩, fun hc4 => ?_⟩
          · obtain ⟨c, hck⟩ := get_some hc4
            simp only [atV_map hck]
            simp only [go_sem, simprocAttr, ↓reduceIte, atomsAV, h47, List.length_map]
            refine ⟨fun hb => ⟨weak_bool ?_, hst⟩, fun hb => ⟨hc4, int_succ hc4 (by rw [maxLen_eq]; omega), hst, ?_⟩⟩
            · have : (d.all fun c => decide (c.length ≤ 30)) = false := by
                rw [List.all_eq_false]
                exact ⟨c, List.mem_of_getElem? hck, by simp; omega⟩
              rw [← hI, hP, ← hJ, hlD, this]; rfl
            · rw [take_succ_get hck]
              intro x hx
              rcases List.mem_append.1 hx with hx | hx
              · exact hK x hx
              · rw [List.mem_singleton.1 hx]; omega
          · rw [List.take_of_length_le hc4] at hK
            exact ⟨hst, List.all_eq_true.2 fun c hcm => decide_eq_true (hK c hcm)⟩
        simp only [go_sem, simprocAttr, ↓reduceIte, h39]
        refine ⟨by omega, int_succ (show j < 3 by omega) (by rw [maxLen_eq]; omega), hst, ?_⟩
        rw [hlD, h6, Bool.true_and] at hJ
        simpa using hJ
      · have : j = 3 := by omega
        subst this
        exact ⟨hst, by rw [hP, ← hJ]; rfl⟩
    simp only [go_sem, simprocAttr, ↓reduceIte, h8]
    refine ⟨hc, int_succ hc hl, hst, ?_⟩
    rw [h6, Bool.true_and] at hI
    exact hI
  · have : i = l.length := by omega
    subst this
    rw [List.drop_length] at hI
    exact ⟨weak_bool hI, hst⟩


theorem l9_bare (l : List EntN) (hl : l.length ≤ 733007751829) : PureFn prog W0 27 [entsAV l] (pkgsAV (l.map (·.pkg))) := by
  refine fn_pure [2] [5] func27 rfl rfl ntmps27 rfl rfl (ids_pkgs _) fun hs σ => ?_
  simp only [go_sem, simprocAttr, ↓reduceIte, entsAV, List.length_map]
  refine LoopVC.at [6, 7] (.of (by kernel_rfl)) (fun A => ∃ v, A.env 3 = v ∧ Built σ A.st v 33 ((l.map (·.pkg)).map pkgAV)) ?_ fun B ⟨v, h3, hb⟩ => ?_
  · refine LoopVC.upto [6, 7] (.of (by kernel_rfl)) l.length (fun i A => ∃ v, A.env 3 = v ∧ A.env 8 = .int .i64 i ∧ Built σ A.st v 33 (((l.take i).map (·.pkg)).map pkgAV)) 0 (Nat.zero_le _) ?_ fun i B hi ⟨v, h3, h8, hb⟩ => ?_
    · simp only [go_sem, simprocAttr, ↓reduceIte]
      exact ⟨_, rfl, Built.nil (.refl _) _⟩
    simp only [go_sem, simprocAttr, ↓reduceIte, h3, h8, hb.ok, hb.un, List.length_map]
    refine ⟨fun hlt => ⟨hlt, ?_⟩, fun hlt => ?_⟩
    · obtain ⟨x, hx⟩ := get_some hlt
      simp only [atV_map hx]
      have hb1 := hb.more [none]
      simp only [go_sem, simprocAttr, ↓reduceIte, entAV, pkgAV, h3, h8, hb.ok, hb.un]
      refine AppA.own 733007751829 (by kernel_rfl) hb1.bld (.lit _ _ _) (by simp; omega) fun v' σ' ha' => ?_
      have hb' := hb1.app ha'
      simp only [go_sem, simprocAttr, ↓reduceIte, h3, h8, hb.ok, hb.un, hb'.ok, hb'.un]
      refine ⟨hlt, _, rfl, int_succ hlt (by rw [maxLen_eq]; omega), ?_⟩
      rw [take_succ_get hx, List.map_append, List.map_append]
      exact hb'
    · rw [List.take_of_length_le hlt] at hb
      exact ⟨_, rfl, hb⟩
  simp only [go_sem, simprocAttr, ↓reduceIte, h3, hb.ok, hb.un]
  exact ⟨hb.weak, hb.ext⟩
theorem l9_awake (hW : TabsOk W0) : PureFn prog W0 12 [] (.bool true) := by
  refine fn_pure [0] [2, 4, 5000006, 5000007, 5000012, 5000013] func12 rfl rfl ntmps12 rfl rfl (.bool _) fun hs σ => ?_
  simp only [go_sem, simprocAttr, ↓reduceIte]
  refine ConvA.keep (by kernel_rfl) (by kernel_rfl) (by decide) List.getElem?_concat_length (by simp) ?_
  simp only [go_sem, simprocAttr, ↓reduceIte]
  refine CallA.fn (re_Packages hW awT1) ?_
  rw [aw9_1]
  simp only [go_sem, simprocAttr, ↓reduceIte, pkgsAV, atAV]
  refine ConvA.keep (xs := awT2.map byteAV) (by kernel_rfl) (by kernel_rfl) (by decide) (show (σ ++ [none, none, some (.cells 5 (awT2.map byteAV))])[σ.length + 2]? = _ by simp) (by simp [awT2]) ?_
  simp only [go_sem, simprocAttr, ↓reduceIte]
  refine CallA.fn (re_Packages hW awT2) ?_
  rw [aw9_2]
  simp only [go_sem, simprocAttr, ↓reduceIte, pkgsAV, atAV, pkgAV, clausesAV, at0, Option.map_some, Option.getD_some]
theorem l9_may (hW : TabsOk W0) (l : List Pkg) (hl : ∀ p ∈ l, PkgR p) (s : List EntN) (hsp : ∀ x ∈ s, PkgR x.pkg) (hsl : s.length ≤ 733007751829) : PureFn prog W0 6 [pkgsAV l, entsAV s] (.bool true) := by
  refine fn_pure [4] [6] func6 rfl rfl ntmps6 rfl rfl (.bool _) fun hs σ => ?_
  simp only [go_sem, simprocAttr, ↓reduceIte]
  refine CallA.fn (l9_light l hl) ?_
  simp only [go_sem, simprocAttr, ↓reduceIte]
  refine ⟨fun _ => trivial, CallP.fnG (fun _ => l9_bare s hsl) ?_⟩
  simp only [go_sem, simprocAttr, ↓reduceIte]
  refine CallP.fnG (fun _ => l9_light (s.map (·.pkg)) (by simpa using hsp)) ?_
  simp only [go_sem, simprocAttr, ↓reduceIte]
  refine ⟨fun _ => CallA.fn (l9_awake hW) ?_, fun hb => ?_⟩
  · simp only [go_sem, simprocAttr, ↓reduceIte]
  have hb1 : lightL9 0 l = true := by cases h : lightL9 0 l <;> simp [h] at hb; rfl
  have hb2 : lightL9 0 (s.map (·.pkg)) = true := by cases h : lightL9 0 (s.map (·.pkg)) <;> simp [h] at hb; rfl
  have hmay : ∀ q : Pkg, q.con.length + q.brk.length + q.prov.length ≤ 60 → MayN q := fun q h => ⟨by omega, by omega, by omega⟩
  have hml : ∀ q ∈ l, MayN q := fun q hq => hmay q (lightL9_get hb1 q hq)
  have hms : ∀ x ∈ s, MayN x.pkg := fun x hx => hmay _ (lightL9_get hb2 _ (List.mem_map_of_mem hx))
  have hl40 := (small_map (hs _ (List.mem_cons_self ..))).1
  simp only [go_sem, simprocAttr, ↓reduceIte, pkgsAV, List.length_map]
  refine LoopVC.at [0, 1] (.of (by kernel_rfl)) (fun A => Ext σ A.st) ?_ fun B hst => ?_
  · refine LoopVC.upto [0, 1, 17, 18] (.of (by kernel_rfl)) l.length (fun i A => A.env 19 = .int .i64 i ∧ Ext σ A.st) 0 (Nat.zero_le _) ?_ fun i B hi ⟨h19, hst⟩ => ?_
    · simp only [go_sem, simprocAttr, ↓reduceIte]
      exact .refl _
    simp only [go_sem, simprocAttr, ↓reduceIte, h19, List.length_map]
    refine ⟨fun hc => ⟨hc, ?_⟩, fun hc => hst⟩
    obtain ⟨p, hp⟩ := get_some hc
    have hpm := hml p (List.mem_of_getElem? hp)
    simp only [atV_map hp]
    simp only [go_sem, simprocAttr, ↓reduceIte, pkgAV, h19, List.length_map]
    refine ⟨.of (by kernel_rfl), CallP.fn (re_may p hpm) ?_⟩
    simp only [go_sem, simprocAttr, ↓reduceIte, pkgAV, h19, List.length_map]
    refine CallP.fn (r9_may p) ?_
    simp only [go_sem, simprocAttr, ↓reduceIte, pkgAV, h19, List.length_map, bne_self_eq_false]
    have hself : decide (p = p) = true := decide_eq_true rfl
    refine CallP.fnG (fun _ => re_samePkg p p) ?_
    simp only [go_sem, simprocAttr, ↓reduceIte, pkgAV, h19, List.length_map, hself, pickV_f]
    cases i with
    | zero =>
      have hg : decide ((0 : Int) < ((0 : Nat) : Int)) = false := by decide
      simp only [go_sem, simprocAttr, ↓reduceIte, hg, h19]
      refine CallP.fnG (r := .bool false) (fun h => (Bool.false_ne_true h).elim) ?_
      simp only [go_sem, simprocAttr, ↓reduceIte, hg, h19]
      refine CallP.fnG (r := .bool false) (fun h => (Bool.false_ne_true h).elim) ?_
      simp only [go_sem, simprocAttr, ↓reduceIte, hg, h19, pickV_f]
      exact ⟨hc, hst.app _⟩
    | succ j =>
      have hg : decide ((0 : Int) < ((j + 1 : Nat) : Int)) = true := decide_eq_true (by omega)
      have hw : IntKind.i64.wrap (((j + 1 : Nat) : Int) - 1) = (j : Nat) := by rw [wrap_in (by rw [maxLen_eq] at hl40; omega)]; omega
      obtain ⟨q, hq⟩ := get_some (show j < l.length by omega)
      simp only [go_sem, simprocAttr, ↓reduceIte, hg, h19, hw, atV_map hq, pkgAV]
      refine ⟨fun _ => by omega, CallP.fnG (fun _ => re_samePkg p q) ?_⟩
      simp only [go_sem, simprocAttr, ↓reduceIte, hg, h19, hw, atV_map hq, pkgAV]
      refine ⟨by rw [List.length_map]; omega, CallP.fnG (fun _ => r9_same p q) ?_⟩
      simp only [go_sem, simprocAttr, ↓reduceIte, hg, h19, pickV_f, bne_self_eq_false]
      exact ⟨hc, int_succ hc hl40, hst.app _⟩
  simp only [go_sem, simprocAttr, ↓reduceIte, List.length_map]
  refine CallA.fn (re_mayAll l hml) ?_
  simp only [go_sem, simprocAttr, ↓reduceIte, pkgsAV]
  refine CallA.fn (r9_mayAll l) ?_
  simp only [go_sem, simprocAttr, ↓reduceIte, pkgsAV, beq_self_eq_true]
  refine ⟨trivial, CallP.fnG (fun _ => re_mayEnts s hms) ?_⟩
  simp only [go_sem, simprocAttr, ↓reduceIte, pkgsAV]
  refine ⟨trivial, CallP.fnG (fun _ => r9_mayEnts s) ?_⟩
  simp only [go_sem, simprocAttr, ↓reduceIte, pkgsAV, beq_self_eq_true]
  refine CallP.fnG (fun _ => l9_awake hW) ?_
  simp only [go_sem, simprocAttr, ↓reduceIte]
  exact hst
theorem ofT_ent {n : Nat} {a : AV} (h : OfT prog (n + 6) 46 a) : ∃ x, a = entAV x ∧ PkgR x.pkg := by
  obtain ⟨xs, rfl, g⟩ := ofT_flds (ts := [33, 4, 4]) (by kernel_rfl) h
  obtain _ | ⟨x1, _ | ⟨x2, _ | ⟨x3, _ | _⟩⟩⟩ := xs <;> simp only [AllT, and_false, and_true] at g
  obtain ⟨h1, h2, h3⟩ := g
  obtain ⟨p, rfl, hp⟩ := ofT_pkg (n := n) h1
  obtain ⟨b, rfl⟩ := ofT_bool (by kernel_rfl) h2
  obtain ⟨c, rfl⟩ := ofT_bool (by kernel_rfl) h3
  exact ⟨⟨p, b, c⟩, rfl, hp⟩
theorem ofT_ents {n : Nat} {a : AV} (h : OfT prog (n + 7) 43 a) : ∃ l, a = entsAV l ∧ l.length ≤ 733007751829 ∧ ∀ x ∈ l, PkgR x.pkg := by
  obtain ⟨xs, rfl, hl, hx⟩ := ofT_slb (e := 46) (by kernel_rfl) h
  obtain ⟨ps, rfl⟩ := all_map (f := fun q : { x : EntN // PkgR x.pkg } => entAV q.1) fun x hm => by
    obtain ⟨p, rfl, h1⟩ := ofT_ent (hx x hm)
    exact ⟨⟨p, h1⟩, rfl⟩
  refine ⟨ps.map (·.1), by rw [entsAV, List.map_map]; rfl, ?_, fun p hp => ?_⟩
  · have hb : prog.bytesOf 46 = 192 := by kernel_rfl
    rw [hb, List.length_map, reach_eq9] at hl
    rw [List.length_map]
    omega
  · obtain ⟨q, _, rfl⟩ := List.mem_map.1 hp
    exact q.2
end Go.Proofs.Tryz
end
