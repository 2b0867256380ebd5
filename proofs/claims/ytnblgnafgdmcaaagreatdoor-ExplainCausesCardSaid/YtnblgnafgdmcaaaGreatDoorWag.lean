/- Texts that the last one of this claim rests on: a layer over the guide's own conditions for code; contracts of the functions that the law reaches, one by one. No conditions beside those of the given rows. -/
import Derived.Laws.MakeOwn
import Derived.Test.YtnblgnafgdmcaaaGreatDoorWaf
section
set_option linter.unusedSimpArgs false
set_option linter.unusedVariables false
namespace Go.Av
open Go

section
variable {P : Program} {W0 w w' : World} {C C' : Ctx} {σ σ' : Store} {n : Nat} {A : AState} {a : Act} {o : Oper}

theorem run_append_room_off (w : World) (t ty e : TypeId) (i : TypeInfo) (ht : P.underlying t = some (.slice e)) (hi : P.info? e = some i)
    (g off sLen sCap : Nat) (te : TypeId) (cur : Array Value) (hg : w.heap[g]? = some (.cells cur te (0, 0)))
    (a : Addr) (m c : Nat) (news : List Value) (hl : news.length = m * i.size) (hnews : ∀ j u, news[j]? = some u → w.cell? (a.add j) = some u) (h1 : ∀ u ∈ news, u.oneCell' = true)
    (hroom : sLen + m ≤ sCap) (hfit : off + sLen * i.size + news.length ≤ cur.size) :
    (Builtin.append_ #[t, t] ty #[.slice (some ⟨g, off, none⟩) sLen sCap, .slice (some a) m c]).run P w =
      .ok (.slice (some ⟨g, off, none⟩) (sLen + m) sCap) (w.setRow g (splice cur (off + sLen * i.size) news)) := by
  have hf := run_firstCells_some (P := P) w i.size m a m c news hl hnews
  have hst := run_storeCells_at P g (off + sLen * i.size) te news 0 cur w hg (by simpa using hfit) h1
  simp only [Nat.add_zero] at hst
  simp [Builtin.append_, run_underlying ht, sizeOf, typeInfo, hi, Builtin.lenOf, hroom, hf, Addr.add_lit, hst, splice]

/-- A new row that may be written. -/
theorem obj_new (h : StRel P W0 w C σ) {e : TypeId} {zs : List AV} {cap : Nat} {arr : Array Value} {cf : Nat → List Value} (hl : zs.length ≤ cap) (hc : cap ≤ maxLen) (hs : arr.size = cap * szOf P e)
    (hz : ∀ i x, zs[i]? = some x → Rel P w C x (cf i) ∧ (cf i).length = szOf P e ∧ fits P e x ∧ ∀ (j : Nat) (u : Value), (cf i)[j]? = some u → arr[i * szOf P e + j]? = some u) :
    ∃ C', Step w C (w.alloc (.cells arr e)) C' ∧ StRel P W0 (w.alloc (.cells arr e)) C' (σ ++ [some (.cells e zs)]) ∧ RelV P (w.alloc (.cells arr e)) C' (.row e σ.length 0 zs.length) (.slice (some ⟨w.heap.size, 0, none⟩) zs.length cap) := by
  have hhw : zs.length * szOf P e ≤ arr.size := by rw [hs]; exact Nat.mul_le_mul_right _ hl
  obtain ⟨h1, h2⟩ := h.push (ob := .cells arr e) (ow := .obj w.heap.size e 0 arr.size) (so := .cells e zs) rfl
    ⟨rfl, arr, e, heap_alloc_new w _, rfl, by simpa using hhw, cf, fun i x hx => by
      obtain ⟨g1, g2, g3, g4⟩ := hz i x hx
      exact ⟨g1.mono (step_push _ rfl), g2, g3, fun j c hj => by rw [Nat.zero_add]; exact g4 j c hj⟩⟩
  refine ⟨_, h1, h2, .one rfl (.row hl hc (by simp [Ctx.push, h.nx]) (fun ow how => ?_))⟩
  simp only [Ctx.push, h.nx, if_true, Option.some.injEq] at how
  subst how
  exact ⟨_, 0, _, rfl, fun _ => by simp, by simp [hs]⟩

/-- A row is written, and is from now on another object. -/
theorem obj_grow (h : StRel P W0 w C σ) {id b base base' room : Nat} {e t' : TypeId} {xs zs : List AV} {arr arr' : Array Value} {cf : Nat → List Value} (hs : σ[id]? = some (some (.cells e xs))) (hm : C.m id = some (.obj b e base room)) (hb : w.heap[b]? = some (.cells arr t' (0, 0)))
    (hsz : arr.size = room) (hsize : arr'.size = arr.size) (hfit : base' + zs.length * szOf P e ≤ room)
    (hz : ∀ i x, zs[i]? = some x → Rel P w C x (cf i) ∧ (cf i).length = szOf P e ∧ fits P e x ∧ ∀ (j : Nat) (u : Value), (cf i)[j]? = some u → arr'[base' + i * szOf P e + j]? = some u) :
    ∃ C', Step w C (w.setRow b arr') C' ∧ StRel P W0 (w.setRow b arr') C' (σ.set id none ++ [some (.cells e zs)]) ∧ C'.nx = σ.length + 1 ∧ C'.m σ.length = some (.obj b e base' room) := by
  have htl : id < σ.length := (List.getElem?_eq_some_iff.1 hs).1
  have hnew : (w.setRow b arr').heap[b]? = some (.cells arr' t' (0, 0)) := setRow_heap w b arr _ t' _ hb
  have hC : ∀ i ow, ((C.kill id).push (.obj b e base' room)).m i = some ow → (i = C.nx ∧ ow = .obj b e base' room) ∨ (i ≠ C.nx ∧ i ≠ id ∧ C.m i = some ow) := fun i ow hi => by
    rw [push_m, kill_nx, kill_m] at hi
    split at hi
    · rename_i he; cases hi; exact .inl ⟨he, rfl⟩
    · rename_i he
      split at hi
      · cases hi
      · rename_i ht; exact .inr ⟨he, ht, hi⟩
  have hne : ∀ i ow, i ≠ id → C.m i = some ow → ow.blk ≠ b := fun i ow hi hm' he => hi (h.inj i id ow _ hm' hm (by simpa [Own.blk] using he))
  have hstep : Step w C (w.setRow b arr') ((C.kill id).push (.obj b e base' room)) := by
    refine ⟨by simp [Ctx.push, Ctx.kill], fun i ow hid hi => ?_, fun b' i hst => ?_, rfl, rfl, rfl, by simp, fun b' hlt hn => ?_⟩
    · rcases hC i ow hi with ⟨e1, _⟩ | ⟨_, _, h'⟩
      · omega
      · exact h'
    · have hbb : b' ≠ b := fun e1 => by
        obtain ⟨_, _, _, e2, _⟩ := hst.2 id _ hm (by simp [Own.blk, e1])
        cases e2
      refine ⟨cell_setRow_other w b _ ⟨b', i, none⟩ hbb, by simpa using hst.1, fun i' ow hi he => ?_⟩
      rcases hC i' ow hi with ⟨_, rfl⟩ | ⟨_, _, h'⟩
      · exact absurd he (fun e1 => hbb e1.symm)
      · exact hst.2 i' ow h' he
    · refine ⟨setRow_other w b b' _ (fun e1 => hn id _ hm (by simp [Own.blk, e1])), fun i ow hi => ?_⟩
      rcases hC i ow hi with ⟨_, rfl⟩ | ⟨_, _, h'⟩
      · intro he; exact hn id _ hm he
      · exact hn i ow h'
  refine ⟨_, hstep, h.change hstep (fun i ow hi => ?_) (by simp [Ctx.push, Ctx.kill, h.nx]) (fun i j x y hi hj he => ?_) (fun i ow hi => ?_) (fun i => ?_), by simp [Ctx.push, Ctx.kill, h.nx], by simp [Ctx.push, Ctx.kill, h.nx]⟩
  · rcases hC i ow hi with ⟨_, rfl⟩ | ⟨_, _, h'⟩
    · exact h.low id (.obj b e base room) hm
    · exact h.low i ow h'
  · rcases hC i x hi with ⟨e1, rfl⟩ | ⟨e1, t1, h1⟩
    · rcases hC j y hj with ⟨e2, rfl⟩ | ⟨e2, t2, h2⟩
      · omega
      · exact absurd he.symm (hne j y t2 h2)
    · rcases hC j y hj with ⟨e2, rfl⟩ | ⟨e2, t2, h2⟩
      · exact absurd he (hne i x t1 h1)
      · exact h.inj i j x y h1 h2 he
  · simp only [Ctx.push, Ctx.kill]
    rcases hC i ow hi with ⟨e1, _⟩ | ⟨_, _, h1⟩
    · omega
    · have := h.dom i ow h1; omega
  · rw [join_push, List.length_set, join_set _ _ _ _ htl]
    by_cases hi : i = σ.length
    · left
      rw [if_pos hi]
      have : ((C.kill id).push (.obj b e base' room)).m i = some (.obj b e base' room) := by simp [Ctx.push, Ctx.kill, hi, h.nx]
      rw [this]
      refine ⟨rfl, _, t', hnew, by rw [hsize, hsz], hfit, cf, fun q x hx => ?_⟩
      obtain ⟨g1, g2, g3, g4⟩ := hz q x hx
      exact ⟨g1.mono hstep, g2, g3, g4⟩
    · rw [if_neg hi]
      by_cases ht : i = id
      · left
        rw [if_pos ht]
        have : ((C.kill id).push (.obj b e base' room)).m i = none := by
          rw [push_m, kill_nx, kill_m, if_neg (by rw [h.nx]; exact hi), if_pos ht]
        rw [this]
        trivial
      · right
        rw [if_neg ht]
        refine ⟨rfl, ?_, fun ow how => setRow_other w b _ _ (hne i ow ht how)⟩
        rw [push_m, kill_nx, kill_m, if_neg (by rw [h.nx]; exact hi), if_neg ht]

theorem ok_appendRow (hr : RelO P W0 o w C A a) {x y : Operand} {t u e : TypeId} {v z : AV} {xs ys : List AV} (ho : o.op = .call { callee := .builtin .append, args := #[x, y], argTypes := #[t, u] })
    (hx : Is P W0 o A x v) (hy : Is P W0 o A y z) (ht : elT P t = some e) (hu : elT P u = some e) (he : 0 < szOf P e) (hz0 : hasZero P e = true) (hb : RowSt A.st v e xs) (hys : ReadL A.st z e ys)
    (hbytes : (xs.length + ys.length) * bytesOf P e ≤ 140737488355328) (hmax : xs.length + ys.length ≤ maxLen) :
    ∃ r w' C' v' σ', (execOp a.eval o).run P w = .ok (.value r) w' ∧ ((ys = [] ∧ v' = v ∧ σ' = A.st) ∨ (ys ≠ [] ∧ v' = .row e A.st.length 0 (xs.length + ys.length) ∧ σ' = killOf v A.st ++ [some (.cells e (xs ++ ys))])) ∧ Step w C w' C' ∧ StRel P W0 w' C' σ' ∧ RelV P w' C' v' r := by
  obtain ⟨inf, hinf, hsz⟩ := szOf_info he
  have htu := elT_inv ht
  have hrun : ∀ b l c yv r w', (Builtin.append_ #[t, t] o.type #[.slice b l c, yv]).run P w = .ok r w' → a.eval x = .slice b l c → a.eval y = yv → (execOp a.eval o).run P w = .ok (.value r) w' := fun b l c yv r w' h h1 h2 => by
    rw [← run_append_types htu (elT_inv hu) hinf] at h
    simp [execOp, ho, resolve, invoke, builtin, h1, h2, h]
  have hxv := hx w C a hr
  have hyv := hy w C a hr
  obtain ⟨ady, capy, cfy, hye, y3, y4, y5⟩ := hys.cells hr.st hyv
  obtain ⟨bx, cx, hxe, hlx⟩ : ∃ b c, a.eval x = .slice b xs.length c ∧ xs.length ≤ c := by
    rcases hb with ⟨rfl, rfl⟩ | rfl | ⟨id, off, m, zs, rfl, hs, hm, rfl⟩
    · exact ⟨none, 0, hxv.nils_inv, Nat.le_refl _⟩
    · have := hxv.one_inv rfl
      cases hev : a.eval x <;> (rw [hev] at this; cases this)
      exact ⟨_, _, rfl, Nat.le_refl _⟩
    · obtain ⟨ad, cap, cf, hve, g1, _⟩ := row_cells hr.st hxv hs hm
      have hlen : ((zs.drop off).take m).length = m := by simp; omega
      rw [hlen]
      exact ⟨_, _, hve, g1⟩
  by_cases hyl : ys = []
  · subst hyl
    exact ⟨_, w, C, v, A.st, hrun _ _ _ _ _ _ (run_append_zero htu hinf _ _ _ _ _ _ hlx w) hxe hye, .inl ⟨rfl, rfl, rfl⟩, .refl _ _, hr.st, by rw [← hxe]; exact hxv⟩
  have hpos : 0 < ys.length := by cases ys with | nil => exact absurd rfl hyl | cons => simp
  obtain ⟨by_, oy, rfl, news, n1, n2, n3, n4⟩ := y5 hpos
  have n2' : ∀ j u, news[j]? = some u → w.cell? ((⟨by_, oy, none⟩ : Addr).add j) = some u := fun j u hj => by rw [Addr.add_lit]; exact n2 j u hj
  obtain ⟨inf', z0, hinf', hiz, hzs⟩ := hasZero_inv hz0
  obtain rfl : inf' = inf := by rw [hinf] at hinf'; exact (Option.some.inj hinf').symm
  have hmax' : xs.length + ys.length ≤ 9223372036854775807 := by unfold maxLen at hmax; omega
  rw [bytes_of hinf] at hbytes
  have hlen : (xs ++ ys).length = xs.length + ys.length := by simp
  have hgetl : ∀ i x, (xs ++ ys)[i]? = some x → (i < xs.length ∧ xs[i]? = some x) ∨ (xs.length ≤ i ∧ ys[i - xs.length]? = some x) := fun i x hx => by
    by_cases hi : i < xs.length
    · rw [List.getElem?_append_left hi] at hx; exact .inl ⟨hi, hx⟩
    · rw [List.getElem?_append_right (by omega)] at hx; exact .inr ⟨by omega, hx⟩
  -- a new row behind what stands in old cells
  have fresh : ∀ (C1 : Ctx) (σ1 : Store) (b : Addr) (cap : Nat) (olds : List Value) (cf : Nat → List Value), Step w C w C1 → StRel P W0 w C1 σ1 → σ1.length = A.st.length → a.eval x = .slice (some b) xs.length cap → cap < xs.length + ys.length →
      olds.length = xs.length * szOf P e → (∀ j u, olds[j]? = some u → w.cell? (b.add j) = some u) → (∀ (i : Nat) (x : AV), xs[i]? = some x → Rel P w C x (cf i)) → (∀ i x, xs[i]? = some x → (cf i).length = szOf P e ∧ fits P e x) →
      (∀ i x, xs[i]? = some x → ∀ (j : Nat) (u : Value), (cf i)[j]? = some u → olds[i * szOf P e + j]? = some u) →
      ∃ r w' C', (execOp a.eval o).run P w = .ok (.value r) w' ∧ Step w C w' C' ∧ StRel P W0 w' C' (σ1 ++ [some (.cells e (xs ++ ys))]) ∧ RelV P w' C' (.row e A.st.length 0 (xs.length + ys.length)) r := fun C1 σ1 b cap olds cf k1 k2 hl1 hxq hroom p1 p2 c3 c4 p4 => by
    have hap := run_append_grow (P := P) w t o.type e inf' z0 htu hinf hiz b xs.length cap olds (by rw [p1, hsz]) p2 ⟨by_, oy, none⟩ ys.length capy news (by rw [n1, hsz]) n2' hroom (by omega) (growslice_fits hroom hbytes)
    have hge := grownCap_ge w (xs.length + ys.length) cap e
    have hcap := grownCap_le_maxLen w (xs.length + ys.length) cap e hmax
    obtain ⟨C', g1, g2, g3⟩ := obj_new (P := P) (W0 := W0) k2.drew (e := e) (zs := xs ++ ys) (cap := grownCap w (xs.length + ys.length) cap e)
      (arr := olds.toArray ++ news.toArray ++ Builtin.zeroCells z0.cells (grownCap w (xs.length + ys.length) cap e - (xs.length + ys.length))) (cf := fun i => if i < xs.length then cf i else cfy (i - xs.length)) (by rw [hlen]; exact hge) hcap
      (by simp only [Array.size_append, List.size_toArray, size_zeroCells, p1, n1, hzs, ← Nat.add_mul]; congr 1; omega)
      (fun i x hx => by
        have hs := k1.trans (Step.drew w _)
        rcases hgetl i x hx with ⟨hi, hx'⟩ | ⟨hi, hx'⟩
        · simp only [hi, if_true]
          refine ⟨(c3 i x hx').mono hs, (c4 i x hx').1, (c4 i x hx').2, fun j u hj => ?_⟩
          have := p4 i x hx' j u hj
          have hl := (List.getElem?_eq_some_iff.1 this).1
          rw [Array.getElem?_append_left (by simp; omega), Array.getElem?_append_left (by simpa using hl)]
          simpa using this
        · simp only [show ¬ i < xs.length by omega, if_false]
          refine ⟨(y3 _ x hx').mono hs, (y4 _ x hx').1, (y4 _ x hx').2, fun j u hj => ?_⟩
          have := n4 _ x hx' j u hj
          have hl := (List.getElem?_eq_some_iff.1 this).1
          have hmul : i * szOf P e = xs.length * szOf P e + (i - xs.length) * szOf P e := by rw [← Nat.add_mul]; congr 1; omega
          rw [Array.getElem?_append_left (by simp; omega), Array.getElem?_append_right (by simp; omega)]
          simp only [List.size_toArray, p1, List.getElem?_toArray]
          rw [show i * szOf P e + j - xs.length * szOf P e = (i - xs.length) * szOf P e + j by omega]
          exact this)
    rw [hlen, hl1] at g3
    exact ⟨_, _, C', hrun _ _ _ _ _ _ hap hxq hye, (k1.trans (Step.drew w _)).trans g1, g2, g3⟩
  rcases hb with ⟨rfl, rfl⟩ | rfl | ⟨id, off, m, zs, rfl, hs, hm, rfl⟩
  · simp only [List.length_nil, Nat.zero_add] at hbytes hmax hmax'
    have hxe' := hxv.nils_inv
    have hap := run_append_nil (P := P) w t o.type e inf' z0 htu hinf hiz ⟨by_, oy, none⟩ ys.length capy news (by rw [n1, hsz]) n2' hpos (by omega) (by omega)
    have hge := grownCap_ge w ys.length 0 e
    have hcap := grownCap_le_maxLen w ys.length 0 e hmax
    obtain ⟨C', g1, g2, g3⟩ := obj_new (P := P) (W0 := W0) hr.st.drew (e := e) (zs := ys) (cap := grownCap w ys.length 0 e) (arr := news.toArray ++ Builtin.zeroCells z0.cells (grownCap w ys.length 0 e - ys.length)) (cf := cfy) hge hcap
      (by simp only [Array.size_append, List.size_toArray, size_zeroCells, n1, hzs, ← Nat.add_mul]; congr 1; omega)
      (fun i x hx => ⟨(y3 i x hx).mono (Step.drew w C), (y4 i x hx).1, (y4 i x hx).2, fun j u hj => by
        have := n4 i x hx j u hj
        rw [Array.getElem?_append_left (by simpa using (List.getElem?_eq_some_iff.1 this).1)]
        simpa using this⟩)
    exact ⟨_, _, C', _, _, hrun _ _ _ _ _ _ hap hxe' hye, .inr ⟨hyl, rfl, rfl⟩, (Step.drew w C).trans g1, by simpa [killOf] using g2, by simpa using g3⟩
  · obtain ⟨ad, capx, cfx, hxq, x1, x2, x3, x4, x5⟩ := (hxv.one_inv rfl).sl_of (.inr (.inl rfl))
    have hcx : capx = xs.length := by
      have := hxv.one_inv rfl
      rw [hxq] at this
      cases this
      rfl
    subst hcx
    by_cases hxl : xs = []
    · subst hxl
      simp only [List.length_nil, Nat.zero_add] at hbytes hmax hmax'
      cases ad with
      | none =>
        have hap := run_append_nil (P := P) w t o.type e inf' z0 htu hinf hiz ⟨by_, oy, none⟩ ys.length capy news (by rw [n1, hsz]) n2' hpos (by omega) (by omega)
        have hge := grownCap_ge w ys.length 0 e
        have hcap := grownCap_le_maxLen w ys.length 0 e hmax
        obtain ⟨C', g1, g2, g3⟩ := obj_new (P := P) (W0 := W0) hr.st.drew (e := e) (zs := ys) (cap := grownCap w ys.length 0 e) (arr := news.toArray ++ Builtin.zeroCells z0.cells (grownCap w ys.length 0 e - ys.length)) (cf := cfy) hge hcap
          (by simp only [Array.size_append, List.size_toArray, size_zeroCells, n1, hzs, ← Nat.add_mul]; congr 1; omega)
          (fun i x hx => ⟨(y3 i x hx).mono (Step.drew w C), (y4 i x hx).1, (y4 i x hx).2, fun j u hj => by
            have := n4 i x hx j u hj
            rw [Array.getElem?_append_left (by simpa using (List.getElem?_eq_some_iff.1 this).1)]
            simpa using this⟩)
        exact ⟨_, _, C', _, _, hrun _ _ _ _ _ _ hap hxq hye, .inr ⟨hyl, rfl, rfl⟩, (Step.drew w C).trans g1, by simpa [killOf] using g2, by simpa using g3⟩
      | some b =>
        obtain ⟨r, w', C', g0, g1, g2, g3⟩ := fresh C A.st b 0 [] cfx (.refl _ _) hr.st rfl hxq (by simpa using hpos) (by simp) (by simp) x3 x4 (by simp)
        exact ⟨r, w', C', _, _, g0, .inr ⟨hyl, rfl, rfl⟩, g1, g2, g3⟩
    · have hxp : 0 < xs.length := by cases xs with | nil => exact absurd rfl hxl | cons => simp
      obtain ⟨bx', ox', rfl, x6⟩ := x5 hxp
      obtain ⟨olds, p1, p2, p3, p4⟩ := list_cells x3 x4 x6
      obtain ⟨r, w', C', g0, g1, g2, g3⟩ := fresh C A.st ⟨bx', ox', none⟩ xs.length olds cfx (.refl _ _) hr.st rfl hxq (by omega) p1 (fun j u hj => by rw [Addr.add_lit]; exact p2 j u hj) x3 x4 p4
      exact ⟨r, w', C', _, _, g0, .inr ⟨hyl, rfl, rfl⟩, g1, g2, g3⟩
  · obtain ⟨ad, cap, cf, hxq, g1, g2, _, c3, c4, b, base, room, arr, t', m1, m2, m3, g5, g6, g7⟩ := row_cells hr.st hxv hs hm
    have hlm : ((zs.drop off).take m).length = m := by simp; omega
    have hidl : id < A.st.length := (List.getElem?_eq_some_iff.1 hs).1
    generalize hxs : (zs.drop off).take m = xs at *
    by_cases hroom : xs.length + ys.length ≤ cap
    · -- in place
      obtain rfl := g5 (by omega)
      have hfit : base + off * szOf P e + xs.length * szOf P e + news.length ≤ arr.size := by
        rw [n1, m3, Nat.add_assoc, Nat.add_assoc, ← Nat.add_mul, ← Nat.add_mul]
        exact Nat.le_trans (Nat.add_le_add_left (Nat.mul_le_mul_right _ (by omega)) _) (Nat.le_of_eq g6)
      have hap := run_append_room_off (P := P) w t o.type e inf' htu hinf b (base + off * szOf P e) xs.length cap t' arr m2 ⟨by_, oy, none⟩ ys.length capy news (by rw [n1, hsz]) n2' n3 hroom (by rw [hsz]; exact hfit)
      rw [hsz] at hap
      have hsize : (splice arr (base + off * szOf P e + xs.length * szOf P e) news).size = arr.size := splice_size hfit
      obtain ⟨C', k1, k2, k3, k4⟩ := obj_grow hr.st (base' := base + off * szOf P e) (zs := xs ++ ys) (cf := fun i => if i < xs.length then cf i else cfy (i - xs.length)) hs m1 m2 m3 hsize (by
          rw [hlen, Nat.add_assoc, ← Nat.add_mul]
          exact Nat.le_trans (Nat.add_le_add_left (Nat.mul_le_mul_right _ (by omega)) _) (Nat.le_of_eq g6)) (fun i x hx => by
        rcases hgetl i x hx with ⟨hi, hx'⟩ | ⟨hi, hx'⟩
        · simp only [hi, if_true]
          refine ⟨c3 i x hx', (c4 i x hx').1, (c4 i x hx').2, fun j u hj => ?_⟩
          have hjl : j < szOf P e := by rw [← (c4 i x hx').1]; exact (List.getElem?_eq_some_iff.1 hj).1
          have h5 : (i + 1) * szOf P e ≤ xs.length * szOf P e := Nat.mul_le_mul_right _ hi
          rw [Nat.succ_mul] at h5
          rw [Nat.add_assoc (base + off * szOf P e), splice_get hfit, if_neg (by omega)]
          have := g7 i x hx' j u hj
          rwa [show base + off * szOf P e + i * szOf P e + j = base + off * szOf P e + (i * szOf P e + j) by omega] at this
        · simp only [show ¬ i < xs.length by omega, if_false]
          refine ⟨y3 _ x hx', (y4 _ x hx').1, (y4 _ x hx').2, fun j u hj => ?_⟩
          have := n4 _ x hx' j u hj
          have hl := (List.getElem?_eq_some_iff.1 this).1
          have hmul : i * szOf P e = xs.length * szOf P e + (i - xs.length) * szOf P e := by rw [← Nat.add_mul]; congr 1; omega
          rw [Nat.add_assoc (base + off * szOf P e), splice_get hfit, if_pos (by omega), show base + off * szOf P e + (i * szOf P e + j) - (base + off * szOf P e + xs.length * szOf P e) = (i - xs.length) * szOf P e + j by omega]
          exact this)
      refine ⟨_, _, C', _, _, hrun _ _ _ _ _ _ hap (by rw [hxq, hlm]) hye, .inr ⟨hyl, rfl, rfl⟩, k1, k2, .one rfl (.row hroom g2 (by omega) (fun ow how => ?_))⟩
      rw [k4] at how
      cases how
      refine ⟨b, base + off * szOf P e, room, rfl, fun _ => by simp, ?_⟩
      rw [Nat.zero_add, Nat.add_assoc, ← Nat.add_mul]
      exact g6
    · obtain ⟨k1, k2⟩ := hr.st.kill id hidl
      cases ad with
      | none =>
        have hc0 : cap = 0 := by
          rcases Nat.eq_zero_or_pos cap with h | h
          · exact h
          · have := g5 h; cases this
        subst hc0
        have hm0 : m = 0 := by omega
        have hxs0 : xs = [] := by rw [← List.length_eq_zero_iff]; omega
        subst hxs0
        simp only [List.length_nil, Nat.zero_add] at hbytes hmax hmax' hlm
        have hap := run_append_nil (P := P) w t o.type e inf' z0 htu hinf hiz ⟨by_, oy, none⟩ ys.length capy news (by rw [n1, hsz]) n2' hpos (by omega) (by omega)
        have hge := grownCap_ge w ys.length 0 e
        have hcap := grownCap_le_maxLen w ys.length 0 e hmax
        obtain ⟨C', q1, q2, q3⟩ := obj_new (P := P) (W0 := W0) k2.drew (e := e) (zs := ys) (cap := grownCap w ys.length 0 e) (arr := news.toArray ++ Builtin.zeroCells z0.cells (grownCap w ys.length 0 e - ys.length)) (cf := cfy) hge hcap
          (by simp only [Array.size_append, List.size_toArray, size_zeroCells, n1, hzs, ← Nat.add_mul]; congr 1; omega)
          (fun i x hx => ⟨(y3 i x hx).mono (k1.trans (Step.drew w _)), (y4 i x hx).1, (y4 i x hx).2, fun j u hj => by
            have := n4 i x hx j u hj
            rw [Array.getElem?_append_left (by simpa using (List.getElem?_eq_some_iff.1 this).1)]
            simpa using this⟩)
        rw [List.length_set] at q3
        refine ⟨_, _, C', _, _, hrun _ _ _ _ _ _ hap (by rw [hxq, hm0]) hye, .inr ⟨hyl, rfl, rfl⟩, (k1.trans (Step.drew w _)).trans q1, by simpa [killOf] using q2, by simpa using q3⟩
      | some b' =>
        have hcells : ∃ olds : List Value, olds.length = xs.length * szOf P e ∧ (∀ (j : Nat) (u : Value), olds[j]? = some u → w.cell? (b'.add j) = some u) ∧ ∀ i x, xs[i]? = some x → ∀ (j : Nat) (u : Value), (cf i)[j]? = some u → olds[i * szOf P e + j]? = some u := by
          by_cases hxl : xs = []
          · subst hxl; exact ⟨[], by simp, by simp, by simp⟩
          · have hcp : 0 < cap := by
              have : 0 < xs.length := by cases xs with | nil => exact absurd rfl hxl | cons => simp
              omega
            have hb' := g5 hcp
            cases hb'
            have hrd : ReadL A.st (.row e id off m) e xs := .inr (.inr ⟨id, off, m, zs, rfl, hs, hm, hxs.symm⟩)
            refine ⟨(arr.toList.drop (base + off * szOf P e)).take (xs.length * szOf P e), ?_, fun j u hj => ?_, fun i x hx j u hj => ?_⟩
            · have h6 : base + (off + xs.length) * szOf P e ≤ arr.size := by rw [m3]; exact Nat.le_trans (Nat.add_le_add_left (Nat.mul_le_mul_right _ (by omega)) _) (Nat.le_of_eq g6)
              rw [Nat.add_mul] at h6
              simp only [List.length_take, List.length_drop, Array.length_toList]
              omega
            · rw [List.getElem?_take] at hj
              split at hj
              · rw [List.getElem?_drop, Array.getElem?_toList] at hj
                rw [Addr.add_lit]
                simp [World.cell?, m2, hj]
              · cases hj
            · have hi := (List.getElem?_eq_some_iff.1 hx).1
              have hjl : j < szOf P e := by rw [← (c4 i x hx).1]; exact (List.getElem?_eq_some_iff.1 hj).1
              have h5 : (i + 1) * szOf P e ≤ xs.length * szOf P e := Nat.mul_le_mul_right _ hi
              rw [Nat.succ_mul] at h5
              rw [List.getElem?_take, if_pos (by omega), List.getElem?_drop, Array.getElem?_toList]
              have := g7 i x hx j u hj
              rwa [show base + off * szOf P e + i * szOf P e + j = base + off * szOf P e + (i * szOf P e + j) by omega] at this
        obtain ⟨olds, p1, p2, p4⟩ := hcells
        obtain ⟨r, w', C', q0, q1, q2, q3⟩ := fresh (C.kill id) (A.st.set id none) b' cap olds cf k1 k2 (by simp) (by rw [hxq, hlm]) (by omega) p1 p2 c3 c4 p4
        exact ⟨r, w', C', _, _, q0, .inr ⟨hyl, rfl, rfl⟩, q1, q2, q3⟩

end
end Go.Av
end
