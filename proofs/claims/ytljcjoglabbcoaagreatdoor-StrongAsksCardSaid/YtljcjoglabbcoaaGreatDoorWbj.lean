/- Texts that the last one of this claim rests on: a layer over the guide's own conditions for code; contracts of the functions that the law reaches, one by one. No conditions beside those of the given rows. -/
import Derived.Test.YtljcjoglabbcoaaGreatDoorWbg
import Derived.Test.YtljcjoglabbcoaaGreatDoorWbi
section
set_option linter.unusedSimpArgs false
set_option linter.unusedVariables false
namespace Go.Proofs.Tryz
open Go Go.Av
set_option maxRecDepth 10000
set_option linter.unusedSimpArgs false
set_option linter.unusedVariables false
variable {W0 : World}

/-- What a report tells of one package. -/
structure Rep where
  name : List UInt8
  ver : List UInt8
  can : Bool
  needs : List Nat
  never : List Nat

def nlAV (l : List Nat) : AV := .sl 3 (l.map fun k => .int .i64 (k : Nat))
def repAV (r : Rep) : AV := .agg 32 [.str r.name, .str r.ver, .bool r.can, nlAV r.needs, nlAV r.never]

noncomputable def needsE (all : List Pkg) (i : Nat) (j : Nat) : Bool := i != j && canE all [litN i] && !canE all [litN i, -litN j]
noncomputable def neverE (all : List Pkg) (i : Nat) (j : Nat) : Bool := i != j && canE all [litN i] && canE all [litN j] && !canE all [litN i, litN j]
noncomputable def repE (all : List Pkg) (i : Nat) (p : Pkg) : Rep := ⟨p.name, p.ver, canE all [litN i], (List.range all.length).filter (needsE all i), (List.range all.length).filter (neverE all i)⟩
noncomputable def reportE (all : List Pkg) : List Rep := all.mapIdx (repE all)

def repsAV (l : List Rep) : AV := .sl 32 (l.map repAV)

theorem rep_ids (r : Rep) : IdsLt 0 (repAV r) := .agg fun x hx => by
  simp at hx
  rcases hx with rfl | rfl | rfl | rfl | rfl
  · exact .str _
  · exact .str _
  · exact .bool _
  · exact ids_map (fun _ => .int _ _) _
  · exact ids_map (fun _ => .int _ _) _

/-- One row of a report, under way. -/
noncomputable def rowE (all : List Pkg) (i : Nat) (x y : AV) : AV := .agg 32 [.str ((all[i]?.map (·.name)).getD []), .str ((all[i]?.map (·.ver)).getD []), .bool (canE all [litN i]), x, y]

theorem rowE_2 (all : List Pkg) (i : Nat) (x y : AV) : (rowE all i x y).at [2] = some (.bool (canE all [litN i])) := rfl
theorem rowE_3 (all : List Pkg) (i : Nat) (x y : AV) : (rowE all i x y).at [3] = some x := by rw [rowE, at_cons]; exact at_nil x
theorem rowE_4 (all : List Pkg) (i : Nat) (x y : AV) : (rowE all i x y).at [4] = some y := by rw [rowE, at_cons]; exact at_nil y
theorem rowE_s3 (all : List Pkg) (i : Nat) (x y z : AV) : (rowE all i x y).setAt [3] z = rowE all i z y := by rw [rowE, setAt_cons]; simp [setAt_nil]; rfl
theorem rowE_s4 (all : List Pkg) (i : Nat) (x y z : AV) : (rowE all i x y).setAt [4] z = rowE all i x z := by rw [rowE, setAt_cons]; simp [setAt_nil]; rfl

theorem set_range {α : Type} (g : Nat → α) (n i : Nat) (z : α) : ((List.range n).map g).set i z = (List.range n).map fun k => if k = i then z else g k := by
  refine List.ext_getElem? fun k => ?_
  rw [List.getElem?_set]
  simp only [List.getElem?_map, List.length_map, List.length_range]
  by_cases hk : k < n
  · rw [List.getElem?_range hk]
    by_cases e : i = k
    · subst e; simp [hk]
    · rw [if_neg e, Option.map_some, Option.map_some, if_neg (fun h => e h.symm)]
  · rw [List.getElem?_eq_none (show (List.range n).length ≤ k by simp; omega)]
    simp; omega

theorem st_report (all : List Pkg) (hp : ∀ p ∈ all, MayN p) (h11 : all.length ≤ 24) :
    PureFn prog W0 10 [pkgsAV all] (.tup [if mayAll all = 0 then repsAV (reportE all) else .nils, .int .i64 (mayAll all)]) := by
  refine fn_pureZ [2, 3] [8, 2000038, 2000006, 3000035] func10 rfl rfl ntmps10 rfl rfl (.tup fun x hx => by
    simp at hx
    rcases hx with rfl | rfl
    · split
      · exact ids_map rep_ids _
      · exact .nils
    · exact .int _ _) fun hs σ => ?_
  simp only [go_sem, simprocAttr, ↓reduceIte]
  refine CallA.goes (by simp only [go_sem, simprocAttr, ↓reduceIte]) ((st_ask σ all [] hp h11 (by simp)).weak (.cons (.refl _) (.cons (.nils _) .nil))) fun r σ1 ⟨hx, hr⟩ => ?_
  rcases hr with ⟨h0, rfl⟩ | ⟨h0, h1, rfl⟩ | ⟨h0, h1, aid, sid, cv, cls, rfl, ha, hM⟩
  · have e1 : (mayAll all != 0) = true := by simp [h0]
    simp only [go_sem, simprocAttr, ↓reduceIte, e1]
    refine EndR.ret ?_
    simp only [go_sem, simprocAttr, ↓reduceIte]
    rw [if_neg h0]
    exact ⟨.refl _, hx⟩
  · simp at h1
  · rw [if_pos h0, h0]
    simp only [go_sem, simprocAttr, ↓reduceIte, pkgsAV, List.length_map]
    refine LoopVC.at [4] (.of (by kernel_rfl)) (fun A => ∃ v, A.env 6 = v ∧ OutR σ1 A.st v 32 ((List.range all.length).map fun k => rowE all k .nils .nils)) ?_ fun B ⟨v, h6, hv⟩ => ?_
    · refine LoopVC.upto [4, 19, 20] (.of (by kernel_rfl)) all.length (fun i A => A.env 21 = .int .i64 i ∧ ∃ v, A.env 6 = v ∧ OutR σ1 A.st v 32 ((List.range i).map fun k => rowE all k .nils .nils)) 0 (Nat.zero_le _) ?_ fun i B hi ⟨h21, v, h6, hv⟩ => ?_
      · simp only [go_sem, simprocAttr, ↓reduceIte]
        exact ⟨_, rfl, OutR.nil (.refl _) _⟩
      simp only [go_sem, simprocAttr, ↓reduceIte, h21, h6, List.length_map, hv.st.ok, hv.st.un]
      refine ⟨fun hlt => ⟨hlt, ?_⟩, fun hge => ?_⟩
      · obtain ⟨p, hpi⟩ := get_some hlt
        have hv2 := hv.more [none]
        have ha2 : AskSt σ (B.st ++ [none]) aid sid all.length cv cls := by rw [hv2.ext.eq]; exact ha.more _
        simp only [atV_map hpi]
        simp only [go_sem, simprocAttr, ↓reduceIte, pkgAV, h21, h6, hv.st.ok, hv.st.un]
        refine ⟨.of (by kernel_rfl), CallP.fn (st_lit i (by omega)) ?_⟩
        simp only [go_sem, simprocAttr, ↓reduceIte, h21, h6, hv.st.ok, hv.st.un]
        refine CallP.st ((ha2.can hM [litN i] (by simp)).weak (.cons (.refl _) (.cons (.lit _ _) .nil))) ?_
        simp only [go_sem, simprocAttr, ↓reduceIte, h21, h6, hv.st.ok, hv.st.un]
        have er : rowE all i .nils .nils = .agg 32 [.str p.name, .str p.ver, .bool (canE all [litN i]), .nils, .nils] := by rw [rowE, hpi]; rfl
        refine AppA.out 1048576 (by kernel_rfl) hv2 (.lit _ _ _) (by simp; omega) fun v' st' hv' => ?_
        simp only [go_sem, simprocAttr, ↓reduceIte, h21, hv'.st.ok, hv'.st.un]
        refine ⟨hlt, int_succ hlt (by rw [maxLen_eq]; omega), _, rfl, ?_⟩
        rw [List.map_append, List.map_cons, List.map_nil, er]
        exact hv'
      · have : i = all.length := by omega
        subst this
        exact ⟨_, rfl, hv⟩
    simp only [go_sem, simprocAttr, ↓reduceIte, h6, hv.st.ok, hv.st.un, hv.st.len, hv.st.lenC, List.length_map, List.length_range]
    have ha3 : AskSt σ B.st aid sid all.length cv cls := by rw [hv.ext.eq]; exact ha.more _
    have hal : all.length ≤ 1048576 := by omega
    have ha3 : ∀ st, Ext σ1 st → AskSt σ st aid sid all.length cv cls := fun st he => by rw [he.eq]; exact ha.more _
    refine LoopVC.at [6] (.of (by kernel_rfl)) (fun A => ∃ X Y : Nat → AV, OutR σ1 A.st v 32 ((List.range all.length).map fun k => rowE all k (X k) (Y k)) ∧ ∀ k, k < all.length → Sub (X k) (nlAV ((List.range all.length).filter (needsE all k))) ∧ Sub (Y k) (nlAV ((List.range all.length).filter (neverE all k)))) ?_ fun B2 ⟨X, Y, ho, hXY⟩ => ?_
    · refine LoopVC.upto [4, 6, 41] (.of (by kernel_rfl)) all.length (fun i A => A.env 42 = .int .i64 i ∧ ∃ X Y : Nat → AV, OutR σ1 A.st v 32 ((List.range all.length).map fun k => rowE all k (X k) (Y k)) ∧ (∀ k, k < i → Sub (X k) (nlAV ((List.range all.length).filter (needsE all k))) ∧ Sub (Y k) (nlAV ((List.range all.length).filter (neverE all k)))) ∧ ∀ k, i ≤ k → X k = .nils ∧ Y k = .nils) 0 (Nat.zero_le _) ?_ fun i B2 hi ⟨h42, X, Y, ho, hXY, hn⟩ => ?_
      · simp only [go_sem, simprocAttr, ↓reduceIte]
        refine ⟨fun _ => .nils, fun _ => .nils, hv, ?_⟩
        first | exact fun k _ => ⟨rfl, rfl⟩ | exact ⟨fun k h => by omega, fun k _ => ⟨rfl, rfl⟩⟩
      simp only [go_sem, simprocAttr, ↓reduceIte, h42, h6, ho.st.ok, ho.st.un, ho.st.len, ho.st.lenC, List.length_map, List.length_range]
      refine ⟨fun hlt => ?_, fun hge => ⟨X, Y, ho, fun k hk => hXY k (by omega)⟩⟩
      refine LoopVC.ats [4, 6, 41, 42] (.of (by kernel_rfl)) (fun A => ∃ X Y : Nat → AV, OutR σ1 A.st v 32 ((List.range all.length).map fun k => rowE all k (X k) (Y k)) ∧ (∀ k, k < i + 1 → Sub (X k) (nlAV ((List.range all.length).filter (needsE all k))) ∧ Sub (Y k) (nlAV ((List.range all.length).filter (neverE all k)))) ∧ ∀ k, i + 1 ≤ k → X k = .nils ∧ Y k = .nils) ?_ fun B3 ⟨X, Y, ho, hXY, hn⟩ => ?_
      · refine LoopVC.upto [4, 6, 9, 41, 42, 46] (.of (by kernel_rfl)) all.length (fun j A => A.env 47 = .int .i64 j ∧ ∃ X Y : Nat → AV, OutR σ1 A.st v 32 ((List.range all.length).map fun k => rowE all k (X k) (Y k)) ∧ (∀ k, k < i → Sub (X k) (nlAV ((List.range all.length).filter (needsE all k))) ∧ Sub (Y k) (nlAV ((List.range all.length).filter (neverE all k)))) ∧ (∀ k, i + 1 ≤ k → X k = .nils ∧ Y k = .nils) ∧
            Bld A.st (X i) 3 (((List.range j).filter (needsE all i)).map fun k => .int .i64 (k : Nat)) ∧ Bld A.st (Y i) 3 (((List.range j).filter (neverE all i)).map fun k => .int .i64 (k : Nat)) ∧ (∀ t ∈ foot (X i), t ∉ foot (Y i)) ∧ ∀ t ∈ foot (X i) ++ foot (Y i), σ1.length ≤ t) 0 (Nat.zero_le _) ?_ fun j B3 hj ⟨h47, X, Y, ho, hXY, hn, bx, by_, hxy, hlo⟩ => ?_
        · simp only [go_sem, simprocAttr, ↓reduceIte]
          refine ⟨X, Y, ho, hXY, fun k hk => hn k (by omega), .inl ⟨(hn i (Nat.le_refl _)).1, rfl⟩, .inl ⟨(hn i (Nat.le_refl _)).2, rfl⟩, by rw [(hn i (Nat.le_refl _)).1]; simp [foot], by rw [(hn i (Nat.le_refl _)).1, (hn i (Nat.le_refl _)).2]; simp [foot]⟩
        obtain ⟨oid, hvr, ho1, holo⟩ : ∃ id, v = .row 32 id 0 all.length ∧ B3.st[id]? = some (some (.cells 32 ((List.range all.length).map fun k => rowE all k (X k) (Y k)))) ∧ σ1.length ≤ id := by
          rcases ho.row with ⟨_, h⟩ | ⟨id, h, h2, h3⟩
          · rw [List.map_eq_nil_iff, List.range_eq_nil] at h; omega
          · exact ⟨id, by simpa using h, h2, h3⟩
        have hxi : ((List.range all.length).map fun k => rowE all k (X k) (Y k))[i]? = some (rowE all i (X i) (Y i)) := by
          rw [List.getElem?_map, List.getElem?_range hlt]; rfl
        have hasker := ha3 _ ho.ext
        simp only [go_sem, simprocAttr, ↓reduceIte, h47]
        refine ⟨fun hlt2 => ?_, fun hge2 => ?_⟩
        · have hij : ((i : Int) == (j : Int)) = (i == j) := by rw [Bool.eq_iff_iff]; simp; omega
          simp only [go_sem, simprocAttr, ↓reduceIte, h47, h6, hvr, look_id ho1, live_id ho1, Nat.zero_add, hxi, rowE_2, Option.bind_some, Option.isSome_some, Option.getD_some, hij]
          have fsucc : ∀ q : Nat → Bool, (List.range j ++ [j]).filter q = (List.range j).filter q ++ (if q j = true then [j] else []) := fun q => by rw [List.filter_append]; simp [List.filter_cons]
          refine ⟨fun _ => hlt, fun hq => ?_, fun hq => ?_⟩
          · have q1 : needsE all i j = false := by
              unfold needsE
              cases h1 : (i == j) <;> cases h2 : canE all [litN i] <;> simp_all
            have q2 : neverE all i j = false := by
              unfold neverE
              cases h1 : (i == j) <;> cases h2 : canE all [litN i] <;> simp_all
            refine ⟨hlt2, int_succ hlt2 (by rw [maxLen_eq]; omega), X, Y, by rw [← hvr]; exact ho, hXY, hn, ?_, ?_, hxy, hlo⟩
            · rw [fsucc, q1, if_neg (by simp), List.append_nil]; exact bx
            · rw [fsucc, q2, if_neg (by simp), List.append_nil]; exact by_
          have hne : (i == j) = false ∧ canE all [litN i] = true := by
            cases h1 : (i == j) <;> cases h2 : canE all [litN i] <;> simp_all
          have hwj : IntKind.i64.wrap (-(((j + 1 : Nat) : Int))) = -litN j := by rw [wrap_in (by omega)]; rfl
          refine CallA.fn (st_lit i (by omega)) ?_
          simp only [go_sem, simprocAttr, ↓reduceIte, h47]
          refine CallA.fn (st_lit j (by omega)) ?_
          simp only [go_sem, simprocAttr, ↓reduceIte, h47, hwj]
          refine CallA.reads (by simp only [go_sem, simprocAttr, ↓reduceIte]) ((hasker.can hM [litN i, -litN j] (by simp)).weak (.cons (.refl _) (.cons (.lit _ _) .nil))) ?_
          simp only [go_sem, simprocAttr, ↓reduceIte, h47]
          refine JoinVC.at [4, 6, 9, 10, 41, 42, 46, 47] (by kernel_rfl) (fun A => ∃ X' : Nat → AV, OutR σ1 A.st v 32 ((List.range all.length).map fun k => rowE all k (X' k) (Y k)) ∧ (∀ k, k ≠ i → X' k = X k) ∧ Bld A.st (X' i) 3 (((List.range (j + 1)).filter (needsE all i)).map fun k => .int .i64 (k : Nat)) ∧ Bld A.st (Y i) 3 (((List.range j).filter (neverE all i)).map fun k => .int .i64 (k : Nat)) ∧ (∀ t ∈ foot (X' i), t ∉ foot (Y i)) ∧ ∀ t ∈ foot (X' i) ++ foot (Y i), σ1.length ≤ t) (fun hc => ?_) (fun hc => ?_) fun B4 ⟨X', ho4, hX', bx4, by4, hxy4, hlo4⟩ => ?_
          · have q1 : needsE all i j = true := by
              simp only [Bool.not_eq_true'] at hc
              unfold needsE
              rw [hne.2, hc]
              have := hne.1
              simp only [beq_eq_false_iff_ne] at this
              simp [this]
            simp only [go_sem, simprocAttr, ↓reduceIte, h47, h6, hvr, look_id ho1, live_id ho1, Nat.zero_add, hxi, rowE_3, Option.bind_some, Option.isSome_some, Option.getD_some, bx.ok, bx.un]
            refine ⟨hlt, AppA.ownS (σ := B3.st) (by simp only [go_sem, simprocAttr, ↓reduceIte]) 1048576 (by kernel_rfl) bx (.lit _ _ _) (by have := List.length_filter_le (needsE all i) (List.range j); simp at this ⊢; omega) fun x' σ' hap => ?_⟩
            have hx' : ∀ z : AV, ((List.range all.length).map fun k => rowE all k (X k) (Y k)).set i (rowE all i z (Y i)) = (List.range all.length).map fun k => rowE all k (if k = i then z else X k) (Y k) := fun z => by
              rw [set_range]
              refine List.map_congr_left fun k _ => ?_
              by_cases e : k = i
              · subst e; simp
              · simp [e]
            obtain ⟨p1, p2, p3, p4, p5, p6⟩ := OutR.fld (ls' := (List.range all.length).map fun k => rowE all k (if k = i then x' else X k) (Y k)) (by simp) (by simpa using hvr) ho ho1 holo bx by_ hxy hlo hap
            have hbx' := hap.bld
            have hpl := (List.getElem?_eq_some_iff.1 p1).1
            simp only [go_sem, simprocAttr, ↓reduceIte, h47, h6, hvr, look_id p1, live_id p1, setLook_id p1, Nat.zero_add, hxi, rowE_3, rowE_s3, hx', Option.bind_some, Option.isSome_some, Option.getD_some, hbx'.ok, hbx'.un, hbx'.fits]
            refine ⟨hlt, fun k => if k = i then x' else X k, by rw [← hvr]; exact p2, fun k hk => if_neg hk, ?_, p4, ?_, ?_⟩
            · rw [fsucc, q1, if_pos rfl, List.map_append]; simp only [if_true]; exact p3
            · simp only [if_true]; exact p5
            · simp only [if_true]; exact p6
          · have q1 : needsE all i j = false := by
              simp only [Bool.not_eq_false'] at hc
              unfold needsE
              rw [hc]; simp
            simp only [go_sem, simprocAttr, ↓reduceIte]
            refine ⟨X, ho, fun _ _ => rfl, ?_, by_, hxy, hlo⟩
            rw [fsucc, q1, if_neg (by simp), List.append_nil]
            exact bx
          have hvr4 : B4.st[oid]? = some (some (.cells 32 ((List.range all.length).map fun k => rowE all k (X' k) (Y k)))) := by
            rcases ho4.row with ⟨h, _⟩ | ⟨id, h, h2, h3⟩
            · rw [hvr] at h; cases h
            · rw [hvr] at h; simp only [AV.row.injEq] at h; rw [h.2.1]; exact h2
          have hxj4 : ∀ k, k < all.length → ((List.range all.length).map fun k => rowE all k (X' k) (Y k))[k]? = some (rowE all k (X' k) (Y k)) := fun k hk => by
            rw [List.getElem?_map, List.getElem?_range hk]; rfl
          have hasker4 := ha3 _ ho4.ext
          rw [List.range_succ] at bx4
          simp only [go_sem, simprocAttr, ↓reduceIte, h47, h6, hvr, look_id hvr4, live_id hvr4, Nat.zero_add, hxj4 j hlt2, rowE_2, Option.bind_some, Option.isSome_some, Option.getD_some]
          refine ⟨hlt2, CallP.fnG (fun _ => st_lit i (by omega)) ?_⟩
          simp only [go_sem, simprocAttr, ↓reduceIte, h47]
          refine CallP.fnG (fun _ => st_lit j (by omega)) ?_
          simp only [go_sem, simprocAttr, ↓reduceIte, h47]
          refine CallP.st (fun _ => (hasker4.can hM [litN i, litN j] (by simp)).weak (.cons (.refl _) (.cons (.lit _ _) .nil))) ?_
          simp only [go_sem, simprocAttr, ↓reduceIte, h47]
          refine ⟨fun hc => ?_, fun hc => ?_⟩
          · have q2 : neverE all i j = true := by
              simp only [Bool.and_eq_true, Bool.not_eq_true'] at hc
              unfold neverE
              rw [hne.2, hc.1, hc.2]
              have := hne.1
              simp only [beq_eq_false_iff_ne] at this
              simp [this]
            simp only [go_sem, simprocAttr, ↓reduceIte, h47, h6, hvr, look_id hvr4, live_id hvr4, Nat.zero_add, hxj4 i hlt, rowE_4, Option.bind_some, Option.isSome_some, Option.getD_some, by4.ok, by4.un]
            refine ⟨hlt, AppA.ownS (σ := B4.st) (by simp only [go_sem, simprocAttr, ↓reduceIte]) 1048576 (by kernel_rfl) by4 (.lit _ _ _) (by have := List.length_filter_le (neverE all i) (List.range j); simp at this ⊢; omega) fun y' σ' hap => ?_⟩
            have hy' : ∀ z : AV, ((List.range all.length).map fun k => rowE all k (X' k) (Y k)).set i (rowE all i (X' i) z) = (List.range all.length).map fun k => rowE all k (X' k) (if k = i then z else Y k) := fun z => by
              rw [set_range]
              refine List.map_congr_left fun k _ => ?_
              by_cases e : k = i
              · subst e; simp
              · simp [e]
            obtain ⟨p1, p2, p3, p4, p5, p6⟩ := OutR.fld (ls' := (List.range all.length).map fun k => rowE all k (X' k) (if k = i then y' else Y k)) (by simp) (by simpa using hvr) ho4 hvr4 holo by4 bx4 (fun t ht hx => hxy4 t hx ht) (fun t ht => hlo4 t (by rw [List.mem_append] at ht ⊢; exact ht.symm)) hap
            have hby' := hap.bld
            simp only [go_sem, simprocAttr, ↓reduceIte, h47, h6, hvr, look_id p1, live_id p1, setLook_id p1, Nat.zero_add, hxj4 i hlt, rowE_4, rowE_s4, hy', Option.bind_some, Option.isSome_some, Option.getD_some, hby'.ok, hby'.un, hby'.fits]
            refine ⟨hlt, hlt2, int_succ hlt2 (by rw [maxLen_eq]; omega), X', fun k => if k = i then y' else Y k, by rw [← hvr]; exact p2, fun k hk => ?_, fun k hk => ?_, ?_, ?_, ?_, ?_⟩
            · have hki : k ≠ i := by omega
              rw [hX' k hki]; simp only [hki, if_false]; exact hXY k hk
            · have hki : k ≠ i := by omega
              rw [hX' k hki]; simp only [hki, if_false]; exact hn k hk
            · exact p4
            · rw [fsucc, q2, if_pos rfl, List.map_append]; simp only [if_true]; exact p3
            · simp only [if_true]; exact fun t ht hy => p5 t hy ht
            · simp only [if_true]; exact fun t ht => p6 t (by rw [List.mem_append] at ht ⊢; exact ht.symm)
          · have q2 : neverE all i j = false := by
              unfold neverE
              rw [hne.2]
              simp only [Bool.and_eq_false_iff, Bool.not_eq_false'] at hc
              rcases hc with hc | hc <;> rw [hc] <;> simp
            refine ⟨hlt2, int_succ hlt2 (by rw [maxLen_eq]; omega), X', Y, ?_, fun k hk => by rw [hX' k (by omega)]; exact hXY k hk, fun k hk => by rw [hX' k (by omega)]; exact hn k hk, bx4, ?_, hxy4, hlo4⟩
            · first | exact ho4 | (rw [← hvr]; exact ho4)
            · rw [fsucc, q2, if_neg (by simp), List.append_nil]; exact by4
        · have : j = all.length := by omega
          subst this
          refine ⟨X, Y, ho, fun k hk => ?_, hn⟩
          rcases Nat.lt_succ_iff_lt_or_eq.1 hk with hk | rfl
          · exact hXY k hk
          · have key : ∀ {st : Store} {v : AV} {e : TypeId} {xs : List AV}, Bld st v e xs → Sub v (.sl e xs) := fun h => by
              rcases h with ⟨rfl, rfl⟩ | rfl | ⟨t, rfl, _⟩
              · exact .nils _
              · exact .lit _ _
              · exact .own _ _ _
            exact ⟨key bx, key by_⟩
      simp only [go_sem, simprocAttr, ↓reduceIte, h42]
      exact ⟨hlt, int_succ hlt (by rw [maxLen_eq]; omega), X, Y, ho, hXY, hn⟩
    simp only [go_sem, simprocAttr, ↓reduceIte, h6, ho.st.ok, ho.st.un]
    have hrep : ∀ k p, all[k]? = some p → Sub (rowE all k (X k) (Y k)) (repAV (repE all k p)) := fun k p hk => by
      have hkl := (List.getElem?_eq_some_iff.1 hk).1
      obtain ⟨s1, s2⟩ := hXY k hkl
      rw [rowE, hk]
      refine .agg rfl fun q x y hx hy => ?_
      rcases q with _ | _ | _ | _ | _ | q <;> simp at hx hy
      · rw [← hx, ← hy]; exact .refl _
      · rw [← hx, ← hy]; exact .refl _
      · rw [← hx, ← hy]; exact .refl _
      · rw [← hx, ← hy]; exact s1
      · rw [← hx, ← hy]; exact s2
    have hall : Sub (.sl 32 ((List.range all.length).map fun k => rowE all k (X k) (Y k))) (repsAV (reportE all)) := by
      refine .sls (by simp [reportE]) fun k x y hx hy => ?_
      have hkl : k < all.length := by have := (List.getElem?_eq_some_iff.1 hx).1; simpa using this
      obtain ⟨p, hk⟩ := get_some hkl
      rw [List.getElem?_map, List.getElem?_range hkl] at hx
      rw [List.getElem?_map, reportE, List.getElem?_mapIdx, hk] at hy
      simp at hx hy
      rw [← hx, ← hy]
      exact hrep k p hk
    have hxs : Ext σ B2.st := hx.trans ho.ext
    rcases ho.row with ⟨hv0, hl0⟩ | ⟨id, hvr, hi1, hi2⟩
    · refine EndR.ret ?_
      simp only [go_sem, simprocAttr, ↓reduceIte]
      refine ⟨.tup rfl fun q x y hx hy => ?_, hxs⟩
      rcases q with _ | _ | q <;> simp at hx hy
      · rw [← hx, ← hy, hv0]
        exact (Weak.nils _).trans (.sub (by rw [← hl0]; exact hall))
      · rw [← hx, ← hy]; exact .refl _
    · refine EndR.frz (e := 32) (te := 32) (id := id) (off := 0) (m := _) (xs := _) 2 (by simp only [go_sem, simprocAttr, ↓reduceIte]; exact hvr) (by simp only [go_sem, simprocAttr, ↓reduceIte]; exact hi1) (by simp) (EndR.ret ?_)
      simp only [go_sem, simprocAttr, ↓reduceIte]
      refine ⟨.tup rfl fun q x y hx hy => ?_, ?_⟩
      · rcases q with _ | _ | q <;> simp at hx hy
        · rw [← hx, ← hy]
          exact .sub (by simpa using hall)
        · rw [← hx, ← hy]; exact .refl _
      · exact hxs.set (by have := hx.le; omega) _
end Go.Proofs.Tryz
end
