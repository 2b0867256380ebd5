/- Texts that the last one of this claim rests on: a layer over the guide's own conditions for code; contracts of the functions that the law reaches, one by one. No conditions beside those of the given rows. -/
import Derived.Lib.AppendZeros
import Derived.Test.YtnblgnafgdmcaaaGreatDoorWag
section
set_option linter.unusedSimpArgs false
set_option linter.unusedVariables false
namespace Go.Av
open Go

section
variable {P : Program} {W0 w w' : World} {C C' : Ctx} {σ σ' : Store} {n : Nat} {A : AState} {a : Act} {o : Oper}

theorem made_get {z : Array Value} {sz m i j : Nat} {u : Value} (hz : z.size = sz) (hi : i < m) (hj : z[j]? = some u) : (madeCells z (m * sz))[i * sz + j]? = some u := by
  have hjl : j < sz := by rw [← hz]; exact (Array.getElem?_eq_some_iff.1 hj).1
  have : (i + 1) * sz ≤ m * sz := Nat.mul_le_mul_right _ hi
  rw [Nat.succ_mul] at this
  have hlt : i * sz + j < m * sz := by omega
  have hmod : (i * sz + j) % z.size = j := by rw [hz, Nat.mul_comm, Nat.mul_add_mod]; exact Nat.mod_eq_of_lt hjl
  simp only [madeCells, Array.getElem?_map, Array.getElem?_range, hlt, if_true, Option.map_some]
  rw [hmod]
  obtain ⟨h1, h2⟩ := Array.getElem?_eq_some_iff.1 hj
  rw [getElem!_pos z j h1, h2]

theorem ok_makeSlice (hr : RelO P W0 o w C A a) {x y : Operand} {t e : TypeId} {k k' : IntKind} {m : Int} {v : AV} (ho : o.op = .makeSlice t x y) (hx : Is P W0 o A x (.int k m)) (hy : Is P W0 o A y (.int k' m)) (ht : elT P t = some e) (hz : zeroOf P e = some v) (he : 0 < szOf P e)
    (h0 : 0 ≤ m) (hb : m.toNat * bytesOf P e ≤ 281474976710656) (hm : m.toNat ≤ maxLen) :
    ∃ r w' C', (execOp a.eval o).run P w = .ok (.value r) w' ∧ Step w C w' C' ∧ StRel P W0 w' C' (A.st ++ [some (.cells e (List.replicate m.toNat v))]) ∧ RelV P w' C' (.row e A.st.length 0 m.toNat) r := by
  obtain ⟨inf, z, hi, hiz, hc, hf⟩ := zeroOf_rel (w := w) (C := C) hz
  obtain ⟨inf', hinf, hsz⟩ := szOf_info he
  obtain rfl : inf' = inf := by rw [hi] at hinf; exact (Option.some.inj hinf).symm
  have hcl : z.cells.size = szOf P e := by have := hc.length_fits hf; simpa using this
  rw [bytes_of hi] at hb
  have hm' : m ≤ 9223372036854775807 := by unfold maxLen at hm; omega
  have hxe := (hx w C a hr).int_inv
  have hye := (hy w C a hr).int_inv
  have hrun := run_make (P := P) w t e inf' z (elT_inv ht) hi hiz k k' m m h0 (Int.le_refl _) (by
    have h2 : ((inf'.bytes : Nat) : Int) * m = ((m.toNat * inf'.bytes : Nat) : Int) := by rw [Int.natCast_mul, Int.toNat_of_nonneg h0, Int.mul_comm]
    rw [h2]; exact Int.ofNat_le.2 hb) hm'
  obtain ⟨C', g1, g2, g3⟩ := obj_new (P := P) (W0 := W0) hr.st (e := e) (zs := List.replicate m.toNat v) (cap := m.toNat) (arr := madeCells z.cells (m.toNat * inf'.size)) (cf := fun _ => z.cells.toList) (by simp) hm (by rw [size_madeCells, hsz])
    (fun i x hx => by
      simp only [List.getElem?_replicate] at hx
      split at hx
      · cases hx
        rename_i hlt
        refine ⟨hc, by simpa using hcl, hf, fun j u hj => ?_⟩
        rw [hsz]
        exact made_get hcl hlt (by simpa using hj)
      · cases hx)
  simp only [List.length_replicate] at g3
  refine ⟨_, _, C', ?_, g1, g2, g3⟩
  simp [execOp, ho, hxe, hye, hrun]

theorem ok_appendZero (hr : RelO P W0 o w C A a) {x y : Operand} {t u e : TypeId} {k kn : IntKind} {m : Nat} {v : AV} (ho : o.op = .call { callee := .builtin .append, args := #[x, y], argTypes := #[t, u] })
    (hx : Is P W0 o A x .nils) (hy : Is P W0 o A y (.int k m)) (ht : elT P t = some e) (hu : P.underlying u = some (.int kn)) (he : 0 < szOf P e) (hz : zeroOf P e = some v) (h0 : 0 < m) (hb : m * bytesOf P e ≤ 140737488355328) (hm : m ≤ maxLen) :
    ∃ r w' C', (execOp a.eval o).run P w = .ok (.value r) w' ∧ Step w C w' C' ∧ StRel P W0 w' C' (A.st ++ [some (.cells e (List.replicate m v))]) ∧ RelV P w' C' (.row e A.st.length 0 m) r := by
  obtain ⟨inf, z, hi, hiz, hc, hf⟩ := zeroOf_rel (w := w) (C := C) hz
  obtain ⟨inf', hinf, hsz⟩ := szOf_info he
  obtain rfl : inf' = inf := by rw [hi] at hinf; exact (Option.some.inj hinf).symm
  have hcl : z.cells.size = szOf P e := by have := hc.length_fits hf; simpa using this
  rw [bytes_of hi] at hb
  have hm' : (m : Int) ≤ 9223372036854775807 := by unfold maxLen at hm; omega
  have hxe := (hx w C a hr).nils_inv
  have hye := (hy w C a hr).int_inv
  have hrun := Lib.run_append_nil_zeros (P := P) w t u o.type e inf' z k kn (elT_inv ht) hu hi hiz m h0 (by rw [hsz]; exact he) hm' (by omega)
  have hge := grownCap_ge w m 0 e
  have hcap := grownCap_le_maxLen w m 0 e (by omega)
  obtain ⟨C', g1, g2, g3⟩ := obj_new (P := P) (W0 := W0) hr.st.drew (e := e) (zs := List.replicate m v) (cap := grownCap w m 0 e) (arr := Builtin.zeroCells z.cells m ++ Builtin.zeroCells z.cells (grownCap w m 0 e - m)) (cf := fun _ => z.cells.toList) (by simpa using hge) hcap
    (by simp only [Array.size_append, size_zeroCells, hcl, ← Nat.add_mul]; congr 1; omega)
    (fun i x hx => by
      simp only [List.getElem?_replicate] at hx
      split at hx
      · cases hx
        rename_i hlt
        refine ⟨hc.mono (Step.drew w C), by simpa using hcl, hf, fun j u hj => ?_⟩
        have hjl : j < szOf P e := by rw [← hcl]; simpa using (List.getElem?_eq_some_iff.1 hj).1
        have h5 : (i + 1) * szOf P e ≤ m * szOf P e := Nat.mul_le_mul_right _ hlt
        rw [Nat.succ_mul] at h5
        rw [Array.getElem?_append_left (by rw [size_zeroCells, hcl]; omega)]
        have hzm : Builtin.zeroCells z.cells m = madeCells z.cells (m * szOf P e) := by simp only [Builtin.zeroCells, madeCells, hcl]
        rw [hzm]
        exact made_get hcl hlt (by simpa using hj)
      · cases hx)
  simp only [List.length_replicate] at g3
  refine ⟨_, _, C', ?_, (Step.drew w C).trans g1, g2, g3⟩
  simp [execOp, ho, resolve, invoke, builtin, hxe, hye, hrun]

end
end Go.Av
end
section
set_option linter.unusedSimpArgs false
set_option linter.unusedVariables false
namespace Go.Av
open Go

section
variable {P : Program} {W0 w w' : World} {C C' : Ctx} {σ σ' : Store} {n : Nat} {A : AState} {a : Act} {o : Oper}

/-- An object's cells are written. -/
theorem obj_set (h : StRel P W0 w C σ) {id b base room : Nat} {e t' : TypeId} {xs zs : List AV} {arr arr' : Array Value} {cf : Nat → List Value} (hs : σ[id]? = some (some (.cells e xs))) (hm : C.m id = some (.obj b e base room)) (hb : w.heap[b]? = some (.cells arr t' (0, 0)))
    (hsz : arr.size = room) (hsize : arr'.size = arr.size) (hfit : base + zs.length * szOf P e ≤ room)
    (hz : ∀ i x, zs[i]? = some x → Rel P w C x (cf i) ∧ (cf i).length = szOf P e ∧ fits P e x ∧ ∀ (j : Nat) (u : Value), (cf i)[j]? = some u → arr'[base + i * szOf P e + j]? = some u) :
    Step w C (w.setRow b arr') C ∧ StRel P W0 (w.setRow b arr') C (σ.set id (some (.cells e zs))) := by
  have hstep := step_setRow (w := w) hm arr'
  have hidl : id < σ.length := (List.getElem?_eq_some_iff.1 hs).1
  refine ⟨hstep, h.change hstep h.low (by simpa using h.nx) h.inj h.dom (fun j => ?_)⟩
  rw [join_set _ _ _ _ hidl]
  by_cases hj : j = id
  · left
    subst hj
    rw [if_pos rfl, hm]
    refine ⟨rfl, _, t', setRow_heap w b arr _ t' _ hb, by rw [hsize, hsz], hfit, cf, fun q x hq => ?_⟩
    obtain ⟨g1, g2, g3, g4⟩ := hz q x hq
    exact ⟨g1.mono hstep, g2, g3, g4⟩
  · right
    rw [if_neg hj]
    exact ⟨rfl, rfl, fun x hx => setRow_other w b x.blk _ (fun e => hj (h.inj j id x _ hx hm (by simpa [Own.blk] using e)))⟩

theorem laidL_len {zs ys : List AV} {k : Nat} (h : k + ys.length ≤ zs.length) : (laidL zs k ys).length = zs.length := by simp [laidL]; omega
theorem laidL_get {zs ys : List AV} {k : Nat} (h : k + ys.length ≤ zs.length) (i : Nat) : (laidL zs k ys)[i]? = if k ≤ i ∧ i < k + ys.length then ys[i - k]? else zs[i]? := by
  have hk : (zs.take k).length = k := by simp; omega
  unfold laidL
  by_cases h1 : i < k
  · rw [if_neg (by omega), List.append_assoc, List.getElem?_append_left (by omega), List.getElem?_take, if_pos h1]
  · by_cases h2 : i < k + ys.length
    · rw [if_pos ⟨by omega, h2⟩, List.getElem?_append_left (by simp; omega), List.getElem?_append_right (by omega), hk]
    · rw [if_neg (by omega), List.getElem?_append_right (by simp; omega), List.getElem?_drop]
      congr 1
      simp
      omega
theorem laidL_nil {zs : List AV} {k : Nat} : laidL zs k [] = zs := by simp [laidL]

/-- The row behind a value, and how far it may be cut. -/
theorem row_room (hr : StRel P W0 w C σ) {e te : TypeId} {id off m : Nat} {zs : List AV} {v : Value} (hv : RelV P w C (.row e id off m) v) (he : 0 < szOf P e) (hs : σ[id]? = some (some (.cells te zs))) :
    te = e ∧ ∃ ad cap b base room arr t', v = .slice ad m cap ∧ m ≤ cap ∧ cap ≤ maxLen ∧ C.m id = some (.obj b e base room) ∧ w.heap[b]? = some (.cells arr t' (0, 0)) ∧ arr.size = room ∧ base + zs.length * szOf P e ≤ room ∧
      (0 < cap → ad = some ⟨b, base + off * szOf P e, none⟩) ∧ zs.length ≤ off + cap ∧ id < C.nx ∧
      ∃ cf : Nat → List Value, ∀ i x, zs[i]? = some x → Rel P w C x (cf i) ∧ (cf i).length = szOf P e ∧ fits P e x ∧ ∀ (j : Nat) (c : Value), (cf i)[j]? = some c → arr[base + i * szOf P e + j]? = some c := by
  have hv' := hv.one_inv rfl
  obtain ⟨b, base, room, arr, t', m1, m2, m3, m4, cf, m5⟩ := hr.cells hs
  cases hv' with
  | row h1 h2 h3 h4 =>
    obtain ⟨b', base', room', e1, e2, e3⟩ := h4 _ m1
    cases e1
    refine ⟨rfl, _, _, b, base, room, arr, t', rfl, h1, h2, m1, m2, m3, m4, e2, ?_, h3, cf, m5⟩
    rw [← e3] at m4
    have := Nat.le_of_add_le_add_left m4
    exact Nat.le_of_mul_le_mul_right this he

theorem ok_appendIn (hr : RelO P W0 o w C A a) {x y : Operand} {t u e : TypeId} {id off m : Nat} {zs ys : List AV} {z : AV} (ho : o.op = .call { callee := .builtin .append, args := #[x, y], argTypes := #[t, u] })
    (hx : Is P W0 o A x (.row e id off m)) (hy : Is P W0 o A y z) (ht : elT P t = some e) (hu : elT P u = some e) (he : 0 < szOf P e) (hs : A.st[id]? = some (some (.cells e zs))) (hys : ReadL A.st z e ys) (hm : off + m + ys.length ≤ zs.length) :
    ∃ r w', (execOp a.eval o).run P w = .ok (.value r) w' ∧ Step w C w' C ∧ StRel P W0 w' C (A.st.set id (some (.cells e (laidL zs (off + m) ys)))) ∧ RelV P w' C (.row e id off (m + ys.length)) r := by
  obtain ⟨inf, hinf, hsz⟩ := szOf_info he
  have htu := elT_inv ht
  have hrun : ∀ b l c yv r w', (Builtin.append_ #[t, t] o.type #[.slice b l c, yv]).run P w = .ok r w' → a.eval x = .slice b l c → a.eval y = yv → (execOp a.eval o).run P w = .ok (.value r) w' := fun b l c yv r w' h h1 h2 => by
    rw [← run_append_types htu (elT_inv hu) hinf] at h
    simp [execOp, ho, resolve, invoke, builtin, h1, h2, h]
  have hxv := hx w C a hr
  have hyv := hy w C a hr
  obtain ⟨ady, capy, cfy, hye, y3, y4, y5⟩ := hys.cells hr.st hyv
  obtain ⟨_, ad, cap, b, base, room, arr, t', hxe, c1, c2, m1, m2, m3, m4, e2, e3, hid, cf, m5⟩ := row_room hr.st hxv he hs
  have hidl : id < A.st.length := (List.getElem?_eq_some_iff.1 hs).1
  by_cases hyl : ys = []
  · subst hyl
    rw [laidL_nil, show A.st.set id (some (.cells e zs)) = A.st from by
      refine List.ext_getElem? fun i => ?_
      by_cases hi : id = i
      · subst hi; rw [List.getElem?_set_self hidl, hs]
      · rw [List.getElem?_set_ne hi]]
    exact ⟨_, w, hrun _ _ _ _ _ _ (run_append_zero htu hinf _ _ _ _ _ _ c1 w) hxe hye, .refl _ _, hr.st, by rw [← hxe]; exact hxv⟩
  have hpos : 0 < ys.length := by cases ys with | nil => exact absurd rfl hyl | cons => simp
  obtain ⟨by_, oy, rfl, news, n1, n2, n3, n4⟩ := y5 hpos
  have n2' : ∀ j u, news[j]? = some u → w.cell? ((⟨by_, oy, none⟩ : Addr).add j) = some u := fun j u hj => by rw [Addr.add_lit]; exact n2 j u hj
  obtain rfl := e2 (by omega)
  have h6 : base + (off + m + ys.length) * szOf P e ≤ arr.size := by rw [m3]; exact Nat.le_trans (Nat.add_le_add_left (Nat.mul_le_mul_right _ hm) _) m4
  have hfit : base + off * szOf P e + m * szOf P e + news.length ≤ arr.size := by
    rw [n1]
    rw [Nat.add_mul, Nat.add_mul] at h6
    omega
  have hap := run_append_room_off (P := P) w t o.type e inf htu hinf b (base + off * szOf P e) m cap t' arr m2 ⟨by_, oy, none⟩ ys.length capy news (by rw [n1, hsz]) n2' n3 (by omega) (by rw [hsz]; exact hfit)
  rw [hsz] at hap
  have hsize : (splice arr (base + off * szOf P e + m * szOf P e) news).size = arr.size := splice_size hfit
  have hoff : base + off * szOf P e + m * szOf P e = base + (off + m) * szOf P e := by rw [Nat.add_mul]; omega
  obtain ⟨k1, k2⟩ := obj_set hr.st (zs := laidL zs (off + m) ys) (cf := fun i => if off + m ≤ i ∧ i < off + m + ys.length then cfy (i - (off + m)) else cf i) hs m1 m2 m3 hsize (by rw [laidL_len hm]; exact m4) (fun i x hx => by
    rw [laidL_get hm] at hx
    by_cases hi : off + m ≤ i ∧ i < off + m + ys.length
    · rw [if_pos hi] at hx
      simp only [hi, and_self, if_true]
      refine ⟨y3 _ x hx, (y4 _ x hx).1, (y4 _ x hx).2, fun j u hj => ?_⟩
      have := n4 _ x hx j u hj
      have hl := (List.getElem?_eq_some_iff.1 this).1
      have hmul : i * szOf P e = (off + m) * szOf P e + (i - (off + m)) * szOf P e := by rw [← Nat.add_mul]; congr 1; omega
      rw [splice_get hfit, if_pos (by omega), show base + i * szOf P e + j - (base + off * szOf P e + m * szOf P e) = (i - (off + m)) * szOf P e + j by omega]
      exact this
    · rw [if_neg hi] at hx
      simp only [hi, if_false]
      obtain ⟨q1, q2, q3, q4⟩ := m5 i x hx
      refine ⟨q1, q2, q3, fun j u hj => ?_⟩
      have hjl : j < szOf P e := by rw [← q2]; exact (List.getElem?_eq_some_iff.1 hj).1
      rw [splice_get hfit, if_neg ?_]
      · exact q4 j u hj
      · rintro ⟨b1, b2⟩
        rw [hoff] at b1 b2
        rw [n1] at b2
        rcases Nat.lt_or_ge i (off + m) with hlt | hge
        · have h5 : (i + 1) * szOf P e ≤ (off + m) * szOf P e := Nat.mul_le_mul_right _ hlt
          rw [Nat.succ_mul] at h5
          omega
        · have h5 : (off + m + ys.length) * szOf P e ≤ i * szOf P e := Nat.mul_le_mul_right _ (by omega)
          rw [Nat.add_mul] at h5
          omega)
  refine ⟨_, _, hrun _ _ _ _ _ _ hap hxe hye, k1, k2, .one rfl (.row (by omega) c2 hid (fun ow how => ?_))⟩
  have hxv' := hxv.one_inv rfl
  rw [hxe] at hxv'
  cases hxv' with
  | row _ _ _ h4 => exact h4 ow how

/-- An append to a row that is whole, which stays: within its room, or somewhere else. -/
theorem ok_appendKeep (hr : RelO P W0 o w C A a) {x y : Operand} {t u e : TypeId} {id off m : Nat} {zs ys : List AV} {z : AV} (ho : o.op = .call { callee := .builtin .append, args := #[x, y], argTypes := #[t, u] })
    (hx : Is P W0 o A x (.row e id off m)) (hy : Is P W0 o A y z) (ht : elT P t = some e) (hu : elT P u = some e) (he : 0 < szOf P e) (hz0 : hasZero P e = true) (hs : A.st[id]? = some (some (.cells e zs))) (hm : off + m = zs.length) (hys : ReadL A.st z e ys)
    (hbytes : (m + ys.length) * bytesOf P e ≤ 140737488355328) (hmax : m + ys.length ≤ maxLen) :
    ∃ r w' C' v' σ', (execOp a.eval o).run P w = .ok (.value r) w' ∧ ((v' = .row e id off (m + ys.length) ∧ σ' = A.st.set id (some (.cells e (zs ++ ys)))) ∨ (v' = .row e A.st.length 0 (m + ys.length) ∧ σ' = A.st ++ [some (.cells e (zs.drop off ++ ys))])) ∧ Step w C w' C' ∧ StRel P W0 w' C' σ' ∧ RelV P w' C' v' r := by
  obtain ⟨inf, hinf, hsz⟩ := szOf_info he
  have htu := elT_inv ht
  have hrun : ∀ b l c yv r w', (Builtin.append_ #[t, t] o.type #[.slice b l c, yv]).run P w = .ok r w' → a.eval x = .slice b l c → a.eval y = yv → (execOp a.eval o).run P w = .ok (.value r) w' := fun b l c yv r w' h h1 h2 => by
    rw [← run_append_types htu (elT_inv hu) hinf] at h
    simp [execOp, ho, resolve, invoke, builtin, h1, h2, h]
  have hxv := hx w C a hr
  have hyv := hy w C a hr
  obtain ⟨ady, capy, cfy, hye, y3, y4, y5⟩ := hys.cells hr.st hyv
  obtain ⟨_, ad, cap, b, base, room, arr, t', hxe, c1, c2, m1, m2, m3, m4, e2, e3, hid, cf, m5⟩ := row_room hr.st hxv he hs
  have hex : base + (off + cap) * szOf P e = room := by
    have hxv' := hxv.one_inv rfl
    rw [hxe] at hxv'
    cases hxv' with
    | row _ _ _ h4 =>
      obtain ⟨b', base', room', g1, _, g3⟩ := h4 _ m1
      cases g1
      exact g3
  have hidl : id < A.st.length := (List.getElem?_eq_some_iff.1 hs).1
  by_cases hyl : ys = []
  · subst hyl
    refine ⟨_, w, C, _, _, hrun _ _ _ _ _ _ (run_append_zero htu hinf _ _ _ _ _ _ c1 w) hxe hye, .inl ⟨rfl, rfl⟩, .refl _ _, ?_, by rw [← hxe]; exact hxv⟩
    rw [List.append_nil, show A.st.set id (some (.cells e zs)) = A.st from by
      refine List.ext_getElem? fun i => ?_
      by_cases hi : id = i
      · subst hi; rw [List.getElem?_set_self hidl, hs]
      · rw [List.getElem?_set_ne hi]]
    exact hr.st
  have hpos : 0 < ys.length := by cases ys with | nil => exact absurd rfl hyl | cons => simp
  obtain ⟨by_, oy, rfl, news, n1, n2, n3, n4⟩ := y5 hpos
  have n2' : ∀ j u, news[j]? = some u → w.cell? ((⟨by_, oy, none⟩ : Addr).add j) = some u := fun j u hj => by rw [Addr.add_lit]; exact n2 j u hj
  by_cases hroom : m + ys.length ≤ cap
  · -- within its room
    obtain rfl := e2 (by omega)
    have h6 : (off + (m + ys.length)) * szOf P e ≤ (off + cap) * szOf P e := Nat.mul_le_mul_right _ (by omega)
    have hoff : base + off * szOf P e + m * szOf P e = base + (off + m) * szOf P e := by rw [Nat.add_mul]; omega
    have hfit : base + off * szOf P e + m * szOf P e + news.length ≤ arr.size := by
      rw [n1, m3]
      simp only [Nat.add_mul] at h6 hex
      omega
    have hap := run_append_room_off (P := P) w t o.type e inf htu hinf b (base + off * szOf P e) m cap t' arr m2 ⟨by_, oy, none⟩ ys.length capy news (by rw [n1, hsz]) n2' n3 hroom (by rw [hsz]; exact hfit)
    rw [hsz] at hap
    have hsize : (splice arr (base + off * szOf P e + m * szOf P e) news).size = arr.size := splice_size hfit
    obtain ⟨k1, k2⟩ := obj_set hr.st (zs := zs ++ ys) (cf := fun i => if i < zs.length then cf i else cfy (i - zs.length)) hs m1 m2 m3 hsize (by
        rw [List.length_append, ← hm, ← hex]
        exact Nat.add_le_add_left (Nat.mul_le_mul_right _ (by omega)) _) (fun i x hx => by
      by_cases hi : i < zs.length
      · rw [List.getElem?_append_left hi] at hx
        simp only [hi, if_true]
        obtain ⟨q1, q2, q3, q4⟩ := m5 i x hx
        refine ⟨q1, q2, q3, fun j u hj => ?_⟩
        have hjl : j < szOf P e := by rw [← q2]; exact (List.getElem?_eq_some_iff.1 hj).1
        have h5 : (i + 1) * szOf P e ≤ (off + m) * szOf P e := Nat.mul_le_mul_right _ (by omega)
        rw [Nat.succ_mul] at h5
        rw [splice_get hfit, if_neg (by omega)]
        exact q4 j u hj
      · rw [List.getElem?_append_right (by omega)] at hx
        simp only [hi, if_false]
        refine ⟨y3 _ x hx, (y4 _ x hx).1, (y4 _ x hx).2, fun j u hj => ?_⟩
        have := n4 _ x hx j u hj
        have hl := (List.getElem?_eq_some_iff.1 this).1
        have hmul : i * szOf P e = (off + m) * szOf P e + (i - zs.length) * szOf P e := by rw [← Nat.add_mul]; congr 1; omega
        rw [splice_get hfit, if_pos (by omega), show base + i * szOf P e + j - (base + off * szOf P e + m * szOf P e) = (i - zs.length) * szOf P e + j by omega]
        exact this)
    refine ⟨_, _, C, _, _, hrun _ _ _ _ _ _ hap hxe hye, .inl ⟨rfl, rfl⟩, k1, k2, .one rfl (.row hroom c2 hid (fun ow how => ?_))⟩
    have hxv' := hxv.one_inv rfl
    rw [hxe] at hxv'
    cases hxv' with
    | row _ _ _ h4 => exact h4 ow how
  -- somewhere else
  obtain ⟨inf', z0, hinf', hiz, hzs⟩ := hasZero_inv hz0
  obtain rfl : inf' = inf := by rw [hinf] at hinf'; exact (Option.some.inj hinf').symm
  rw [bytes_of hinf] at hbytes
  have hdl : (zs.drop off).length = m := by rw [List.length_drop]; omega
  have hlen : (zs.drop off ++ ys).length = m + ys.length := by rw [List.length_append, hdl]
  have hgetl : ∀ i x, (zs.drop off ++ ys)[i]? = some x → (i < m ∧ zs[off + i]? = some x) ∨ (m ≤ i ∧ ys[i - m]? = some x) := fun i x hx => by
    by_cases hi : i < m
    · rw [List.getElem?_append_left (by omega), List.getElem?_drop] at hx; exact .inl ⟨hi, hx⟩
    · rw [List.getElem?_append_right (by omega), hdl] at hx; exact .inr ⟨by omega, hx⟩
  cases ad with
  | none =>
    have hc0 : cap = 0 := by
      rcases Nat.eq_zero_or_pos cap with h | h
      · exact h
      · have := e2 h; cases this
    subst hc0
    have hm0 : m = 0 := by omega
    subst hm0
    have hz : zs.drop off = [] := by rw [← List.length_eq_zero_iff]; exact hdl
    rw [hz]
    simp only [Nat.zero_add] at hbytes hmax
    have hap := run_append_nil (P := P) w t o.type e inf' z0 htu hinf hiz ⟨by_, oy, none⟩ ys.length capy news (by rw [n1, hsz]) n2' hpos (by unfold maxLen at hmax; omega) (by omega)
    have hge := grownCap_ge w ys.length 0 e
    have hcap := grownCap_le_maxLen w ys.length 0 e hmax
    obtain ⟨C', q1, q2, q3⟩ := obj_new (P := P) (W0 := W0) hr.st.drew (e := e) (zs := ys) (cap := grownCap w ys.length 0 e) (arr := news.toArray ++ Builtin.zeroCells z0.cells (grownCap w ys.length 0 e - ys.length)) (cf := cfy) hge hcap
      (by simp only [Array.size_append, List.size_toArray, size_zeroCells, n1, hzs, ← Nat.add_mul]; congr 1; omega)
      (fun i x hx => ⟨(y3 i x hx).mono (Step.drew w C), (y4 i x hx).1, (y4 i x hx).2, fun j u hj => by
        have := n4 i x hx j u hj
        rw [Array.getElem?_append_left (by simpa using (List.getElem?_eq_some_iff.1 this).1)]
        simpa using this⟩)
    exact ⟨_, _, C', _, _, hrun _ _ _ _ _ _ hap hxe hye, .inr ⟨rfl, rfl⟩, (Step.drew w C).trans q1, by simpa using q2, by simpa using q3⟩
  | some b' =>
    have hcells : ∃ olds : List Value, olds.length = m * szOf P e ∧ (∀ (j : Nat) (u : Value), olds[j]? = some u → w.cell? (b'.add j) = some u) ∧ ∀ i x, i < m → zs[off + i]? = some x → ∀ (j : Nat) (u : Value), (cf (off + i))[j]? = some u → olds[i * szOf P e + j]? = some u := by
      by_cases hxl : m = 0
      · subst hxl; exact ⟨[], by simp, by simp, fun i x hi => by omega⟩
      · have hb' := e2 (by omega)
        cases hb'
        refine ⟨(arr.toList.drop (base + off * szOf P e)).take (m * szOf P e), ?_, fun j u hj => ?_, fun i x hi hx j u hj => ?_⟩
        · have h6 : (off + m) * szOf P e ≤ (off + cap) * szOf P e := Nat.mul_le_mul_right _ (by omega)
          simp only [Nat.add_mul] at h6 hex
          simp only [List.length_take, List.length_drop, Array.length_toList]
          omega
        · rw [List.getElem?_take] at hj
          split at hj
          · rw [List.getElem?_drop, Array.getElem?_toList] at hj
            rw [Addr.add_lit]
            simp [World.cell?, m2, hj]
          · cases hj
        · obtain ⟨q1, q2, q3, q4⟩ := m5 _ x hx
          have hjl : j < szOf P e := by rw [← q2]; exact (List.getElem?_eq_some_iff.1 hj).1
          have h5 : (i + 1) * szOf P e ≤ m * szOf P e := Nat.mul_le_mul_right _ hi
          rw [Nat.succ_mul] at h5
          rw [List.getElem?_take, if_pos (by omega), List.getElem?_drop, Array.getElem?_toList]
          have := q4 j u hj
          rwa [Nat.add_mul, show base + (off * szOf P e + i * szOf P e) + j = base + off * szOf P e + (i * szOf P e + j) by omega] at this
    obtain ⟨olds, p1, p2, p4⟩ := hcells
    have hap := run_append_grow (P := P) w t o.type e inf' z0 htu hinf hiz b' m cap olds (by rw [p1, hsz]) p2 ⟨by_, oy, none⟩ ys.length capy news (by rw [n1, hsz]) n2' (by omega) (by unfold maxLen at hmax; omega) (growslice_fits (by omega) hbytes)
    have hge := grownCap_ge w (m + ys.length) cap e
    have hcap := grownCap_le_maxLen w (m + ys.length) cap e hmax
    obtain ⟨C', g1, g2, g3⟩ := obj_new (P := P) (W0 := W0) hr.st.drew (e := e) (zs := zs.drop off ++ ys) (cap := grownCap w (m + ys.length) cap e)
      (arr := olds.toArray ++ news.toArray ++ Builtin.zeroCells z0.cells (grownCap w (m + ys.length) cap e - (m + ys.length))) (cf := fun i => if i < m then cf (off + i) else cfy (i - m)) (by rw [hlen]; exact hge) hcap
      (by simp only [Array.size_append, List.size_toArray, size_zeroCells, p1, n1, hzs, ← Nat.add_mul]; congr 1; omega)
      (fun i x hx => by
        rcases hgetl i x hx with ⟨hi, hx'⟩ | ⟨hi, hx'⟩
        · simp only [hi, if_true]
          obtain ⟨q1, q2, q3, q4⟩ := m5 _ x hx'
          refine ⟨q1.mono (Step.drew w C), q2, q3, fun j u hj => ?_⟩
          have := p4 i x hi hx' j u hj
          have hl := (List.getElem?_eq_some_iff.1 this).1
          rw [Array.getElem?_append_left (by simp; omega), Array.getElem?_append_left (by simpa using hl)]
          simpa using this
        · simp only [show ¬ i < m by omega, if_false]
          refine ⟨(y3 _ x hx').mono (Step.drew w C), (y4 _ x hx').1, (y4 _ x hx').2, fun j u hj => ?_⟩
          have := n4 _ x hx' j u hj
          have hl := (List.getElem?_eq_some_iff.1 this).1
          have hmul : i * szOf P e = m * szOf P e + (i - m) * szOf P e := by rw [← Nat.add_mul]; congr 1; omega
          rw [Array.getElem?_append_left (by simp; omega), Array.getElem?_append_right (by simp; omega)]
          simp only [List.size_toArray, p1, List.getElem?_toArray]
          rw [show i * szOf P e + j - m * szOf P e = (i - m) * szOf P e + j by omega]
          exact this)
    rw [hlen] at g3
    exact ⟨_, _, C', _, _, hrun _ _ _ _ _ _ hap hxe hye, .inr ⟨rfl, rfl⟩, (Step.drew w C).trans g1, g2, g3⟩

theorem ok_clear (hr : RelO P W0 o w C A a) {x : Operand} {t e : TypeId} {id off m : Nat} {zs : List AV} {v : AV} (ho : o.op = .call { callee := .builtin .clear, args := #[x], argTypes := #[t] })
    (hx : Is P W0 o A x (.row e id off m)) (ht : elT P t = some e) (he : 0 < szOf P e) (hz : zeroOf P e = some v) (hs : A.st[id]? = some (some (.cells e zs))) (hm : off + m ≤ zs.length) :
    ∃ r w', (execOp a.eval o).run P w = .ok (.value r) w' ∧ Step w C w' C ∧ StRel P W0 w' C (A.st.set id (some (.cells e (laidL zs off (List.replicate m v))))) ∧ RelV P w' C (.tup []) r := by
  obtain ⟨inf, z, hi, hiz, hc, hf⟩ := zeroOf_rel (w := w) (C := C) hz
  obtain ⟨inf', hinf, hsz⟩ := szOf_info he
  obtain rfl : inf' = inf := by rw [hi] at hinf; exact (Option.some.inj hinf).symm
  have hcl : z.cells.size = szOf P e := by have := hc.length_fits hf; simpa using this
  have htu := elT_inv ht
  have hxv := hx w C a hr
  obtain ⟨_, ad, cap, b, base, room, arr, t', hxe, c1, c2, m1, m2, m3, m4, e2, e3, hid, cf, m5⟩ := row_room hr.st hxv he hs
  have hidl : id < A.st.length := (List.getElem?_eq_some_iff.1 hs).1
  have hrel : ∀ w', RelV P w' C (.tup []) (.tuple #[]) := fun w' => .tup (vs := []) rfl (fun i a v h => by simp at h)
  have hzv : (zeroValue e).run P w = .ok z w := by simp [zeroValue, typeInfo, hi, hiz]
  by_cases hm0 : m = 0
  · subst hm0
    rw [show laidL zs off (List.replicate 0 v) = zs from laidL_nil, show A.st.set id (some (.cells e zs)) = A.st from by
      refine List.ext_getElem? fun i => ?_
      by_cases hi : id = i
      · subst hi; rw [List.getElem?_set_self hidl, hs]
      · rw [List.getElem?_set_ne hi]]
    refine ⟨_, w, ?_, .refl _ _, hr.st, hrel _⟩
    cases ad <;> simp [execOp, ho, resolve, invoke, builtin, hxe, Builtin.clear_, run_underlying htu]
  obtain rfl := e2 (by omega)
  have hzm : Builtin.zeroCells z.cells m = madeCells z.cells (m * szOf P e) := by simp only [Builtin.zeroCells, madeCells, hcl]
  have hll : (Builtin.zeroCells z.cells m).toList.length = m * szOf P e := by simp [size_zeroCells, hcl]
  have hrl : (List.replicate m v).length = m := by simp
  have h6 : base + (off + m) * szOf P e ≤ arr.size := by rw [m3]; exact Nat.le_trans (Nat.add_le_add_left (Nat.mul_le_mul_right _ hm) _) m4
  have hfit : base + off * szOf P e + (Builtin.zeroCells z.cells m).toList.length ≤ arr.size := by
    rw [hll]
    rw [Nat.add_mul] at h6
    omega
  have hone : ∀ u ∈ (Builtin.zeroCells z.cells m).toList, u.oneCell' = true := fun u hu => by
    rw [hzm] at hu
    simp only [madeCells, Array.toList_map, List.mem_map] at hu
    obtain ⟨q, hq, rfl⟩ := hu
    have hq' : q % z.cells.size < z.cells.size := Nat.mod_lt _ (by omega)
    rw [getElem!_pos z.cells _ hq']
    exact hc.oneCell _ (by simp)
  have hst := run_storeCells_at P b (base + off * szOf P e) t' (Builtin.zeroCells z.cells m).toList 0 arr w m2 (by simpa using hfit) hone
  simp only [Nat.add_zero] at hst
  have hsize : (splice arr (base + off * szOf P e) (Builtin.zeroCells z.cells m).toList).size = arr.size := splice_size hfit
  obtain ⟨k1, k2⟩ := obj_set hr.st (zs := laidL zs off (List.replicate m v)) (cf := fun i => if off ≤ i ∧ i < off + m then z.cells.toList else cf i) hs m1 m2 m3 hsize (by rw [laidL_len (by rw [hrl]; exact hm)]; exact m4) (fun i x hx => by
    rw [laidL_get (by rw [hrl]; exact hm), hrl] at hx
    by_cases hi : off ≤ i ∧ i < off + m
    · rw [if_pos hi, List.getElem?_replicate, if_pos (by omega)] at hx
      cases hx
      simp only [hi, and_self, if_true]
      refine ⟨hc, by simpa using hcl, hf, fun j u hj => ?_⟩
      have hjl : j < szOf P e := by rw [← hcl]; simpa using (List.getElem?_eq_some_iff.1 hj).1
      have h5 : (i - off + 1) * szOf P e ≤ m * szOf P e := Nat.mul_le_mul_right _ (by omega)
      rw [Nat.succ_mul] at h5
      have hmul : i * szOf P e = off * szOf P e + (i - off) * szOf P e := by rw [← Nat.add_mul]; congr 1; omega
      rw [splice_get hfit, if_pos (by omega), show base + i * szOf P e + j - (base + off * szOf P e) = (i - off) * szOf P e + j by omega, hzm, Array.getElem?_toList]
      exact made_get hcl (show i - off < m by omega) (by simpa using hj)
    · rw [if_neg hi] at hx
      simp only [hi, if_false]
      obtain ⟨q1, q2, q3, q4⟩ := m5 i x hx
      refine ⟨q1, q2, q3, fun j u hj => ?_⟩
      have hjl : j < szOf P e := by rw [← q2]; exact (List.getElem?_eq_some_iff.1 hj).1
      rw [splice_get hfit, if_neg ?_]
      · exact q4 j u hj
      · rintro ⟨b1, b2⟩
        rw [hll] at b2
        rcases Nat.lt_or_ge i off with hlt | hge
        · have h5 : (i + 1) * szOf P e ≤ off * szOf P e := Nat.mul_le_mul_right _ hlt
          rw [Nat.succ_mul] at h5
          omega
        · have h5 : (off + m) * szOf P e ≤ i * szOf P e := Nat.mul_le_mul_right _ (by omega)
          rw [Nat.add_mul] at h5
          omega)
  refine ⟨_, _, ?_, k1, k2, hrel _⟩
  have esp : splice arr (base + off * szOf P e) (Builtin.zeroCells z.cells m).toList = (arr.toList.take (base + off * szOf P e) ++ (Builtin.zeroCells z.cells m).toList ++ arr.toList.drop (base + off * szOf P e + (Builtin.zeroCells z.cells m).toList.length)).toArray := rfl
  rw [esp]
  have hne : ∀ (q : Nat), m = q → (Builtin.clear_ #[t] o.type #[.slice (some ⟨b, base + off * szOf P e, none⟩) q cap]).run P w = .ok (.tuple #[]) (w.setRow b (arr.toList.take (base + off * szOf P e) ++ (Builtin.zeroCells z.cells m).toList ++ arr.toList.drop (base + off * szOf P e + (Builtin.zeroCells z.cells m).toList.length)).toArray) := fun q hq => by
    cases q with
    | zero => exact absurd hq hm0
    | succ q => simp [Builtin.clear_, run_underlying htu, hzv, ← hq, hst]
  simp [execOp, ho, resolve, invoke, builtin, hxe, hne m rfl]

/-- A slice beyond a row's length. -/
theorem ok_slice_over {t e te : TypeId} {x : Operand} {lo hi : Option Operand} {id off m p q : Nat} {zs : List AV} (ho : o.op = .slice t x lo hi none) (hx : Is P W0 o A x (.row e id off m)) (ht : elT P t = some e) (he : 0 < szOf P e)
    (hlo : BndIs P W0 o A lo 0 p) (hhi : BndIs P W0 o A hi m q) (h1 : p ≤ q) (hs : A.st[id]? = some (some (.cells te zs))) (h2 : off + q ≤ zs.length) : ValOk P W0 o A (.row e id (off + p) (q - p)) :=
  .of_same fun w C a hr => by
    obtain ⟨inf, hinf, hsz⟩ := szOf_info he
    obtain ⟨_, ad, cap, b, base, room, arr, t', hv, g1, g2, m1, m2, m3, m4, e2, e3, hid, cf, m5⟩ := row_room hr.st (hx w C a hr) he hs
    have hb := run_sliceBounds hr true hlo hhi h1 (show q ≤ cap by omega)
    have h := (hx w C a hr).one_inv rfl
    rw [hv] at h
    cases h with
    | row _ _ _ h4 =>
      refine ⟨.slice (if cap = p then ad else ad.map (·.add (p * szOf P e))) (q - p) (cap - p), ?_, .one rfl (.row (by omega) (by omega) hid (fun ow how => ?_))⟩
      · simp [execOp, ho, Instr.sliceAt, Instr.slice, run_underlying (elT_inv ht), hv, hb, sizeOf, typeInfo, hinf, hsz]
      · obtain ⟨b, base, room, e1, e2, e3⟩ := h4 ow how
        refine ⟨b, base, room, e1, fun hc => ?_, by rw [show off + p + (cap - p) = off + cap by omega]; exact e3⟩
        rw [if_neg (by omega), e2 (by omega)]
        simp [Addr.add_lit, Nat.add_mul, Nat.add_assoc]

/-- A slice whose room is cut, too: it may be looked at no more. -/
theorem ok_slice3 {t e : TypeId} {x lo hi mx : Operand} {id off m : Nat} {k1 k2 k3 : IntKind} {p q r : Int} (ho : o.op = .slice t x (some lo) (some hi) (some mx)) (hx : Is P W0 o A x (.row e id off m)) (ht : elT P t = some e) (he : 0 < szOf P e)
    (hlo : Is P W0 o A lo (.int k1 p)) (hhi : Is P W0 o A hi (.int k2 q)) (hmx : Is P W0 o A mx (.int k3 r)) (h0 : 0 ≤ p) (h1 : p ≤ q) (h2 : q ≤ r) (h3 : r ≤ m) : ValOk P W0 o A .undef :=
  .of_same fun w C a hr => by
    obtain ⟨inf, hinf, hsz⟩ := szOf_info he
    have h := (hx w C a hr).one_inv rfl
    have ⟨ad, cap, hv, g1⟩ : ∃ ad cap, a.eval x = .slice ad m cap ∧ m ≤ cap := by
      generalize a.eval x = v at h
      cases h with
      | row h1 h2 h3 h4 => exact ⟨_, _, rfl, h1⟩
    have e1 := (hlo w C a hr).int_inv
    have e2 := (hhi w C a hr).int_inv
    have e3 := (hmx w C a hr).int_inv
    have b1 := fun c => run_sliceBound (P := P) (w := w) k1 c (i := p) (y := q.toNat) h0 rfl (by omega)
    have b2 := fun c => run_sliceBound (P := P) (w := w) k2 c (i := q) (y := r.toNat) (by omega) rfl (by omega)
    have b3 := fun c => run_sliceBound (P := P) (w := w) k3 c (i := r) (y := cap) (by omega) rfl (by omega)
    refine ⟨.slice (if r.toNat = p.toNat then ad else ad.map (·.add (p.toNat * szOf P e))) (q.toNat - p.toNat) (r.toNat - p.toNat), ?_, .undef _⟩
    simp [execOp, ho, Instr.sliceAt, Instr.slice, Instr.sliceBounds, run_underlying (elT_inv ht), hv, e1, e2, e3, b1, b2, b3, sizeOf, typeInfo, hinf, hsz]
end
end Go.Av
end
section
set_option linter.unusedSimpArgs false
set_option linter.unusedVariables false
namespace Go.Av
open Go

section
variable {P : Program} {W0 w w' : World} {C C' : Ctx} {σ σ' : Store} {n : Nat} {A : AState} {a : Act} {o : Oper} {fz : List Nat} {K : AState → Prop}

theorem value_wp {v : Value} (hrun : (execOp a.eval o).run P w = .ok (.value v) w') {next : Act → World → Prop} {Qx : Exit → Act → World → Prop} (h : next (a.put o.dst v) w') : o.wp P a w next Qx := by
  unfold Oper.wp
  rw [hrun]
  exact h

theorem skip_wp (hrun : (execOp a.eval o).run P w = .ok .skip w') {next : Act → World → Prop} {Qx : Exit → Act → World → Prop} (h : next (a.put o.dst undef) w') : o.wp P a w next Qx := by
  unfold Oper.wp
  rw [hrun]
  exact h

theorem strip_none {x : Operand} (hm : x ∈ o.op.operands) {k : AV → Prop} (h : strip none (A.val x) k) : ∃ u, k u ∧ Is P W0 o A x u := strip_sound (gd := none) hm h
theorem stripL_none {xs : List Operand} (hm : ∀ x ∈ xs, x ∈ o.op.operands) {k : List AV → Prop} (h : stripL none (xs.map A.val) k) : ∃ us, k us ∧ IsL P W0 o A xs us := stripL_sound (gd := none) _ _ hm h

theorem storeVC_wp (hr : RelA P W0 n w C A a) (hd : dstOk n o.dst) {t : TypeId} {x y : Operand} {u v : AV} (ho : o.op = .store t x y) (hx : Is P W0 o A x u) (hy : Is P W0 o A y v)
    (h : storeVC P fz A t x u v fun A' => K (A'.put o.dst .undef)) {next : Act → World → Prop} {Qx : Exit → Act → World → Prop}
    (hn : ∀ A' C' a' w', K A' → RelA P W0 n w' C' A' a' → Step w C w' C' → next a' w') : o.wp P a w next Qx := by
  unfold storeVC at h
  split at h
  · obtain ⟨⟨rfl, hf⟩, h⟩ := h
    rename_i t' id i path
    split at h
    · rename_i te xs hs
      split at h
      · rename_i z hz
        split at h
        · rename_i y0 hy0
          split at h
          · rename_i d
            have hl : look A.st id i path = some y0 := by simp [look, hs, hz, hy0]
            obtain ⟨w', r1, r2, r3⟩ := store_ptr (hr.toO o) ho hx hy hl (fits_of_B hf) hs hz
            have hidl : id < A.st.length := (List.getElem?_eq_some_iff.1 hs).1
            split at h
            · -- given up
              obtain ⟨rfl, h⟩ := h
              have hzz : z = y0 := by cases z <;> simpa [AV.at] using hy0
              subst hzz
              have hi : i < xs.length := (List.getElem?_eq_some_iff.1 hz).1
              have hset : z.setAt [] v = v := by cases z <;> rfl
              rw [hset] at r3
              have hs' : (A.st.set id (some (.cells te (xs.set i v))))[id]? = some (some (.cells te (xs.set i v))) := by simp [hidl]
              have hv := (hx w C a (hr.toO o)).mono r2
              have hfr := freeze_ptr (x := v) r3 hv hs' (by simp [hi])
              obtain ⟨k1, k2⟩ := r3.kill id (by simpa using hidl)
              rw [List.set_set] at k2
              have hr1 := hr.step (r2.trans k1) k2
              have hdn : d < n := by
                by_cases hdn : d < n
                · exact hdn
                · have hle : a.tmps.size ≤ d := by rw [hr.size]; exact Nat.le_of_not_lt hdn
                  have : a.eval (.tmp d) = undef := by
                    show a.tmps.getD d undef = undef
                    rw [Array.getD_eq_getD_getElem?, Array.getElem?_eq_none hle]
                    rfl
                  rw [this] at hfr
                  obtain ⟨_, _, _, e, _⟩ := hfr.loc_inv
                  cases e
              have hr2 : RelA P W0 n w' (C.kill id) ((A.upd d (.loc t' v)).withSt (A.st.set id none)) a := by
                refine ⟨fun j => ?_, hr1.defers, hr1.size, hr1.st⟩
                by_cases hj : j = d
                · subst hj
                  have hfr' : RelV P w' (C.kill id) (.loc t' v) (a.tmps.getD j undef) := hfr
                  simpa [AState.upd, AState.withSt] using hfr'
                · have := hr1.env j; simpa [AState.upd, AState.withSt, hj] using this
              have hr3 := put_rel (o := o) (v := .undef) (x := undef) hr2 hd (.undef _)
              exact skip_wp r1 (hn _ _ _ _ h hr3 (r2.trans k1))
            · have hr1 := hr.step r2 r3
              have hr3 := put_rel (o := o) (v := .undef) (x := undef) hr1 hd (.undef _)
              exact skip_wp r1 (hn _ _ _ _ h hr3 r2)
          · exact h.elim
        · exact h.elim
      · exact h.elim
    · exact h.elim
  · exact h.elim

/-- No store gives up its object. -/
def noFz (fz : List Nat) : Op → Prop
  | .store _ (.tmp d) _ => fz.contains d = false
  | _ => True

theorem storeVC_wpO (hr : RelO P W0 o w C A a) {t : TypeId} {x y : Operand} {u v : AV} (ho : o.op = .store t x y) (hnf : noFz fz (.store t x y)) (hx : Is P W0 o A x u) (hy : Is P W0 o A y v)
    (h : storeVC P fz A t x u v fun A' => K (A'.put o.dst .undef)) {next : Act → World → Prop} {Qx : Exit → Act → World → Prop}
    (hn : ∀ v x σ' w' C', K ((A.put o.dst v).withSt σ') → RelV P w' C' v x → StRel P W0 w' C' σ' → Step w C w' C' → next (a.put o.dst x) w') : o.wp P a w next Qx := by
  unfold storeVC at h
  split at h
  · obtain ⟨⟨rfl, hf⟩, h⟩ := h
    rename_i t' id i path
    split at h
    · rename_i te xs hs
      split at h
      · rename_i z hz
        split at h
        · rename_i y0 hy0
          split at h
          · rename_i d
            have hl : look A.st id i path = some y0 := by simp [look, hs, hz, hy0]
            obtain ⟨w', r1, r2, r3⟩ := store_ptr hr ho hx hy hl (fits_of_B hf) hs hz
            rw [if_neg (by simp only [noFz] at hnf; rw [hnf]; simp)] at h
            refine skip_wp r1 (hn .undef undef _ w' C ?_ (.undef _) r3 r2)
            have e : ∀ σ, (A.withSt σ).put o.dst .undef = (A.put o.dst .undef).withSt σ := fun σ => by cases o.dst <;> rfl
            rw [← e]; exact h
          · exact h.elim
        · exact h.elim
      · exact h.elim
    · exact h.elim
  · exact h.elim

/-- An operation, from what it looks at alone. -/
theorem opVC_wpO (hr : RelO P W0 o w C A a) (hnf : noFz fz o.op) (h : opVC P W0 n fz o A K) {next : Act → World → Prop} {Qx : Exit → Act → World → Prop}
    (hn : ∀ v x σ' w' C', K ((A.put o.dst v).withSt σ') → RelV P w' C' v x → StRel P W0 w' C' σ' → Step w C w' C' → next (a.put o.dst x) w') : o.wp P a w next Qx := by
  have hval : valVC P W0 none o.op A (fun v => K (A.put o.dst v)) → o.wp P a w next Qx := fun h => by
    obtain ⟨v, hK, hp⟩ := valVC_sound hr h
    exact hp w C a hr _ _ fun x w' hv hs hst => hn v x A.st w' C (by
      have e : (A.put o.dst v).withSt A.st = A.put o.dst v := by cases o.dst <;> rfl
      rw [e]; exact hK) hv hst hs
  obtain ⟨hd, h⟩ := h
  split at h
  · rename_i c hc
    obtain ⟨callee, args, argTypes⟩ := c
    split at h
    · rename_i f hf
      simp only at hf
      subst hf
      obtain ⟨fv, h, hfv⟩ := strip_none (P := P) (W0 := W0) (o := o) (by simp [*, Op.operands, Call.operands]) h
      obtain ⟨us, h, hus⟩ := stripL_none (P := P) (W0 := W0) (o := o) (fun y hy => by simp [*, Op.operands, Call.operands]; simp at hy; simp [hy]) h
      split at h
      · refine acall_wp hr hc hfv hus h (fun v r σ' w' C' hK hst hv hs => hn r v σ' w' C' hK hv hst hs)
      · exact h.elim
    · rename_i hf
      simp only at hf
      subst hf
      obtain ⟨us, h2, hus⟩ := stripL_none (P := P) (W0 := W0) (o := o) (fun y hy => by simp [*, Op.operands, Call.operands]; simp at hy; simp [hy]) h
      clear h
      split at h2
      · obtain ⟨x, y, hxy, hx, hy⟩ := toList_two hus
        simp only at hxy
        subst hxy
        rcases h2 with h2 | h2 | h2 | h2 | h2
        · unfold appendVC at h2
          split at h2
          · rename_i ts t u hts
            obtain rfl : argTypes = #[t, u] := by rw [← Array.toArray_toList (xs := argTypes)]; simp only at hts; rw [hts]
            obtain ⟨e, xs, ys, ⟨h1, h2, h3, h4⟩, h5, h6, h7, h8, h9⟩ := h2
            obtain ⟨r, w', C', v', σ', g1, g2, g3, g4, g5⟩ := ok_append hr hc hx hy h1 h2 h3 h4 h5 h6 h7 h8
            exact value_wp g1 (hn v' r σ' w' C' (h9 v' σ' g2) g5 g4 g3)
          · exact h2.elim
        · unfold appendRowVC at h2
          split at h2
          · rename_i ts t u hts
            obtain rfl : argTypes = #[t, u] := by rw [← Array.toArray_toList (xs := argTypes)]; simp only at hts; rw [hts]
            obtain ⟨e, xs, ys, ⟨h1, h2, h3, h4⟩, h5, h6, h7, h8, h9, h10⟩ := h2
            obtain ⟨r, w', C', v', σ', g1, g2, g3, g4, g5⟩ := ok_appendRow hr hc hx hy h1 h2 h3 h4 h5 h6 h7 h8
            refine value_wp g1 (hn v' r σ' w' C' ?_ g5 g4 g3)
            rcases g2 with ⟨e1, rfl, rfl⟩ | ⟨e1, rfl, rfl⟩
            · exact h9 e1
            · exact h10 e1
          · exact h2.elim
        · unfold appendZeroVC at h2
          split at h2
          · rename_i ts t u hts
            obtain rfl : argTypes = #[t, u] := by rw [← Array.toArray_toList (xs := argTypes)]; simp only at hts; rw [hts]
            obtain ⟨e, m, z, k, kn, ⟨rfl, rfl⟩, ⟨h1, h2, h3, h4, h5⟩, h6, h7, h8, h9⟩ := h2
            obtain ⟨r, w', C', g1, g2, g3, g4⟩ := ok_appendZero hr hc hx hy h1 h2 h3 h5 h6 h7 h8
            exact value_wp g1 (hn _ r _ w' C' h9 g4 g3 g2)
          · exact h2.elim
        · unfold appendInVC at h2
          split at h2
          · rename_i ts t u hts
            obtain rfl : argTypes = #[t, u] := by rw [← Array.toArray_toList (xs := argTypes)]; simp only at hts; rw [hts]
            obtain ⟨e, id, off, m, zs, ys, ⟨h1, h2, h3⟩, rfl, h4, h5, h6, h7⟩ := h2
            obtain ⟨r, w', g1, g2, g3, g4⟩ := ok_appendIn hr hc hx hy h1 h2 h3 h4 h5 h6
            exact value_wp g1 (hn _ r _ w' C h7 g4 g3 g2)
          · exact h2.elim
        · unfold appendKeepVC at h2
          split at h2
          · rename_i ts t u hts
            obtain rfl : argTypes = #[t, u] := by rw [← Array.toArray_toList (xs := argTypes)]; simp only at hts; rw [hts]
            obtain ⟨e, id, off, m, zs, ys, ⟨h1, h2, h3, h4⟩, rfl, h5, h6, h7, h8, h9, h10, h11⟩ := h2
            obtain ⟨r, w', C', v', σ', g1, g5, g2, g3, g4⟩ := ok_appendKeep hr hc hx hy h1 h2 h3 h4 h5 h6 h7 h8 h9
            rcases g5 with ⟨rfl, rfl⟩ | ⟨rfl, rfl⟩
            · exact value_wp g1 (hn _ r _ w' C' h10 g4 g3 g2)
            · exact value_wp g1 (hn _ r _ w' C' h11 g4 g3 g2)
          · exact h2.elim
      · exact h2.elim
    · rename_i hf
      simp only at hf
      subst hf
      obtain ⟨us, h2, hus⟩ := stripL_none (P := P) (W0 := W0) (o := o) (fun y hy => by simp [*, Op.operands, Call.operands]; simp at hy; simp [hy]) h
      clear h
      split at h2
      · obtain ⟨x, hxy, hx⟩ := toList_one hus
        simp only at hxy
        subst hxy
        unfold clearVC at h2
        split at h2
        · rename_i ts t hts
          obtain rfl : argTypes = #[t] := by rw [← Array.toArray_toList (xs := argTypes)]; simp only at hts; rw [hts]
          obtain ⟨e, id, off, m, zs, v, ⟨h1, h2, h3⟩, rfl, h4, h5, h6⟩ := h2
          obtain ⟨r, w', g1, g2, g3, g4⟩ := ok_clear hr hc hx h1 h2 h3 h4 h5
          exact value_wp g1 (hn _ r _ w' C h6 g4 g3 g2)
        · exact h2.elim
      · exact h2.elim
    · exact hval h
  · rename_i t x hop
    split at h
    · rename_i d hdst
      split at h
      · obtain ⟨v, h, hv⟩ := strip_none (P := P) (W0 := W0) (o := o) (by simp [*, Op.operands]) h
        exact (ok_box hop hv (fits_of_B h.1)).pure w C a hr _ _ fun x w' hv hs hst => hn _ x A.st w' C (by
          have e : (A.put o.dst (.loc t v)).withSt A.st = A.put o.dst (.loc t v) := by cases o.dst <;> rfl
          rw [e, hdst]; exact h.2) hv hst hs
      · obtain ⟨v, h, hv⟩ := strip_none (P := P) (W0 := W0) (o := o) (by simp [*, Op.operands]) h
        obtain ⟨y, w', C', g1, g2, g3, g4⟩ := box_obj hr hop hv (fits_of_B h.1)
        exact value_wp g1 (hn _ y _ w' C' (by rw [hdst]; exact h.2) g2 g4 g3)
    · exact h.elim
  · rename_i t hop
    split at h
    · rename_i v hz
      obtain ⟨y, w', C', g1, g2, g3, g4⟩ := alloc_obj hr hop hz
      exact value_wp g1 (hn _ y _ w' C' h g2 g4 g3)
    · exact h.elim
  · rename_i t x y hop
    obtain ⟨u, h, hu⟩ := strip_none (P := P) (W0 := W0) (o := o) (by simp [*, Op.operands]) h
    obtain ⟨v, h, hv⟩ := strip_none (P := P) (W0 := W0) (o := o) (by simp [*, Op.operands]) h
    unfold makeVC at h
    split at h
    · obtain ⟨rfl, h⟩ := h
      split at h
      · rename_i e he
        split at h
        · rename_i z hz
          obtain ⟨h1, h2, h3, h4, h5⟩ := h
          obtain ⟨r, w', C', g1, g2, g3, g4⟩ := ok_makeSlice hr hop hu hv he hz h1 h2 h3 h4
          exact value_wp g1 (hn _ r _ w' C' h5 g4 g3 g2)
        · exact h.elim
      · exact h.elim
    · exact h.elim
  · rename_i t x y hop
    obtain ⟨u, h, hu⟩ := strip_none (P := P) (W0 := W0) (o := o) (by simp [*, Op.operands]) h
    obtain ⟨v, h, hv⟩ := strip_none (P := P) (W0 := W0) (o := o) (by simp [*, Op.operands]) h
    exact storeVC_wpO hr hop (by rw [hop] at hnf; exact hnf) hu hv h hn
  · rename_i t x hop
    obtain ⟨ht, h⟩ := h
    obtain ⟨u, h, hu⟩ := strip_none (P := P) (W0 := W0) (o := o) (by simp [*, Op.operands]) h
    split at h
    · obtain ⟨y, w', C', g1, g2, g3, g4⟩ := iter_obj hr hop hu (isStrT_inv ht)
      exact value_wp g1 (hn _ y _ w' C' h g2 g4 g3)
    · exact h.elim
  · rename_i x hop
    obtain ⟨u, h, hu⟩ := strip_none (P := P) (W0 := W0) (o := o) (by simp [*, Op.operands]) h
    split at h
    · split at h
      · rename_i l pos hs
        rcases Nat.lt_or_ge pos l.length with hp | hp
        · obtain ⟨y, w', g1, g2, g3, g4⟩ := iter_next hr hop hu hs hp
          exact value_wp g1 (hn _ y _ w' C (h.1 hp) g2 g4 g3)
        · obtain ⟨y, g1, g2⟩ := iter_over hr hop hu hs hp
          exact value_wp g1 (hn _ y A.st w C (by
            have e : (A.put o.dst (.tup [.bool false])).withSt A.st = A.put o.dst (.tup [.bool false]) := by cases o.dst <;> rfl
            rw [e]; exact h.2 hp) g2 hr.st (.refl _ _))
      · exact h.elim
    · exact h.elim
  · rename_i t x lo hi mx hop
    rcases h with h | h
    · exact hval h
    obtain ⟨u, h, hu⟩ := strip_none (P := P) (W0 := W0) (o := o) (by simp [*, Op.operands]) h
    have fin : ∀ v, ValOk P W0 o A v → K (A.put o.dst v) → o.wp P a w next Qx := fun v hv hK => hv.pure w C a hr _ _ fun x w' hv hs hst => hn v x A.st w' C (by
      have e : (A.put o.dst v).withSt A.st = A.put o.dst v := by cases o.dst <;> rfl
      rw [e]; exact hK) hv hst hs
    unfold overVC at h
    split at h
    · obtain ⟨⟨h1, h2⟩, h⟩ := h
      split at h
      · obtain ⟨p, h, hp⟩ := bndVC_sound (P := P) (W0 := W0) (o := o) (gd := none) (fun y hy => by simp [hop, Op.operands, hy]) h
        obtain ⟨q, h, hq⟩ := bndVC_sound (P := P) (W0 := W0) (o := o) (gd := none) (fun y hy => by simp [hop, Op.operands, hy]) h
        obtain ⟨⟨h3, te, zs, h4, h5⟩, hK⟩ := h
        exact fin _ (ok_slice_over hop hu h1 h2 hp hq h3 h4 h5) hK
      · obtain ⟨⟨hl, hh⟩, h⟩ := h
        obtain ⟨y1, rfl⟩ := Option.isSome_iff_exists.1 hl
        obtain ⟨y2, rfl⟩ := Option.isSome_iff_exists.1 hh
        rename_i y3
        obtain ⟨p, h, hp⟩ := bndVC_sound (P := P) (W0 := W0) (o := o) (gd := none) (fun y hy => by cases hy; simp [hop, Op.operands]) h
        obtain ⟨q, h, hq⟩ := bndVC_sound (P := P) (W0 := W0) (o := o) (gd := none) (fun y hy => by cases hy; simp [hop, Op.operands]) h
        obtain ⟨r, h, hr'⟩ := bndVC_sound (P := P) (W0 := W0) (o := o) (gd := none) (fun y hy => by cases hy; simp [hop, Op.operands]) h
        obtain ⟨⟨h3, h4, h5⟩, hK⟩ := h
        obtain ⟨k1, i1, p1, p2, p3⟩ := hp
        obtain ⟨k2, i2, q1, q2, q3⟩ := hq
        obtain ⟨k3, i3, r1, r2, r3⟩ := hr'
        exact fin _ (ok_slice3 hop hu h1 h2 p1 q1 r1 p2 (by omega) (by omega) (by omega)) hK
    · exact h.elim
  · rename_i t hop
    split at h
    · rename_i kt vt ht
      obtain ⟨y, w', C', g1, g2, g3, g4⟩ := map_new hr hop kt
      exact value_wp g1 (hn _ y _ w' C' h g2 g4 g3)
    · exact h.elim
  · rename_i t x ix y hop
    obtain ⟨u, h, hu⟩ := strip_none (P := P) (W0 := W0) (o := o) (by simp [*, Op.operands]) h
    obtain ⟨k, h, hk⟩ := strip_none (P := P) (W0 := W0) (o := o) (by simp [*, Op.operands]) h
    obtain ⟨v, h, hv⟩ := strip_none (P := P) (W0 := W0) (o := o) (by simp [*, Op.operands]) h
    unfold putVC at h
    split at h
    · obtain ⟨kt, vt, l, h1, h2, h3, h4, h5, h6⟩ := h
      obtain ⟨w', g1, g2, g3⟩ := map_put (u := .nil) hr hop hu hk hv h1 h2 h3 h4 h5
      exact skip_wp g1 (hn .undef undef _ w' C h6 (.undef _) g3 g2)
    · exact h.elim
  · exact hval h

theorem opVC_wp (hr : RelA P W0 n w C A a) (h : opVC P W0 n fz o A K) {next : Act → World → Prop} {Qx : Exit → Act → World → Prop}
    (hn : ∀ A' C' a' w', K A' → RelA P W0 n w' C' A' a' → Step w C w' C' → next a' w') : o.wp P a w next Qx := by
  have key : noFz fz o.op → o.wp P a w next Qx := fun hnf => opVC_wpO (hr.toO o) hnf h fun v x σ' w' C' hK hv hst hs => hn _ C' _ w' hK (put_step hr h.1 hs hst hv) hs
  cases hop : o.op
  case store t x y =>
    obtain ⟨hd, h2⟩ := h
    rw [hop] at h2
    obtain ⟨u, h2, hu⟩ := strip_none (P := P) (W0 := W0) (o := o) (by simp [*, Op.operands]) h2
    obtain ⟨v, h2, hv⟩ := strip_none (P := P) (W0 := W0) (o := o) (by simp [*, Op.operands]) h2
    exact storeVC_wp hr hd hop hu hv h2 hn
  all_goals exact key (by rw [hop]; trivial)

theorem gdOf_inv {ops : Array Oper} {j : Nat} {want G : Bool} (hr : RelA P W0 n w C A a) (h : gdOf ops A j want = some G) (ho : o.guard = some (j, want)) : Region.wanted o (yielded ops a.tmps) = G := by
  unfold gdOf at h
  split at h
  · rename_i d hd
    have he := hr.env d
    have hget : a.tmps.getD d undef = (a.tmps[d]?).getD undef := by simp
    split at h
    · rename_i b hb
      rw [hb] at he
      simp only [Option.some.injEq] at h
      have hv := he.bool_inv
      rw [hget] at hv
      cases ht : a.tmps[d]? with
      | none => rw [ht] at hv; cases hv
      | some v =>
        rw [ht] at hv
        simp only [Option.getD_some] at hv
        subst hv h
        have hy : yielded ops a.tmps j = some b := by unfold yielded; rw [hd]; simp only [Option.bind_some, ht]
        simp only [Region.wanted, ho, hy]
        cases b <;> cases want <;> rfl
    · rename_i g b hb
      rw [hb] at he
      simp only [Option.some.injEq] at h
      cases he with
      | one h1 => simp [AV.isOne] at h1
      | maybe h1 h2 =>
        cases g with
        | true =>
          have hv := (h1 rfl).bool_inv
          rw [hget] at hv
          cases ht : a.tmps[d]? with
          | none => rw [ht] at hv; cases hv
          | some v =>
            rw [ht] at hv
            simp only [Option.getD_some] at hv
            subst hv
            subst h
            have hy : yielded ops a.tmps j = some b := by unfold yielded; rw [hd]; simp only [Option.bind_some, ht]
            simp only [Region.wanted, ho, hy]
            cases b <;> cases want <;> rfl
        | false =>
          have hv := h2 rfl
          rw [hget] at hv
          subst h
          have hy : yielded ops a.tmps j = none := by
            unfold yielded
            rw [hd]
            simp only [Option.bind_some]
            cases ht : a.tmps[d]? with
            | none => rfl
            | some v =>
              rw [ht] at hv
              simp only [Option.getD_some] at hv
              subst hv
              rfl
          simp only [Region.wanted, ho, hy]
          cases want <;> rfl
    · rename_i v0 hnb hb
      rw [hb] at he
      simp only [Option.some.injEq] at h
      cases he with
      | one h1 => simp [AV.isOne] at h1
      | maybe h1 h2 =>
        have hv := h2 rfl
        rw [hget] at hv
        subst h
        have hy : yielded ops a.tmps j = none := by
          unfold yielded
          rw [hd]
          simp only [Option.bind_some]
          cases ht : a.tmps[d]? with
          | none => rfl
          | some v =>
            rw [ht] at hv
            simp only [Option.getD_some] at hv
            subst hv
            rfl
        simp only [Region.wanted, ho, hy]
        cases want <;> rfl
    · cases h
  · cases h

/-- A guarded operation. -/
theorem guard_wp {G : Bool} (hr : RelA P W0 n w C A a) (h : valVC P W0 (some G) o.op A fun v => K (A.put o.dst (.maybe G v))) :
    ∃ v, K (A.put o.dst (.maybe G v)) ∧ (G = true → PureOk P W0 o A v) := valVC_sound (hr.toO o) h

theorem opsVC_wp {ops : Array Oper} {Qx : Exit → Act → World → Prop} : ∀ (l : List Oper) (K : AState → Prop) (A : AState) (w : World) (C : Ctx) (a : Act), RelA P W0 n w C A a → opsVC P W0 n fz ops l K A →
    (∀ A' C' a' w', K A' → RelA P W0 n w' C' A' a' → Step w C w' C' → Qx .normal a' w') → wpList P ops Qx l a w
  | [], K, A, w, C, a, hr, h, hn => wpList_nil (hn A C a w h hr (.refl _ _))
  | o :: r, K, A, w, C, a, hr, h, hn => by
    simp only [opsVC] at h
    unfold wpList
    split at h
    · rename_i hg
      rw [if_pos (by simp [Region.wanted, hg])]
      left
      exact opVC_wp hr h (fun A' C' a' w' hK hr' hs => opsVC_wp r K A' w' C' a' hr' hK (fun A'' C'' a'' w'' hK' hr'' hs' => hn A'' C'' a'' w'' hK' hr'' (hs.trans hs')))
    · rename_i j want hg
      split at h
      · rename_i G hG
        obtain ⟨hd, h⟩ := h
        have hw := gdOf_inv hr hG hg
        rw [hw]
        rcases h with h | ⟨ht, hf⟩
        case inr =>
          cases G with
          | true =>
            rw [if_pos rfl]
            left
            exact opVC_wp hr (ht rfl) (fun A' C' a' w' hK hr' hs => opsVC_wp r K A' w' C' a' hr' hK (fun A'' C'' a'' w'' hK' hr'' hs' => hn A'' C'' a'' w'' hK' hr'' (hs.trans hs')))
          | false =>
            rw [if_neg (by simp)]
            obtain ⟨v0, hf0⟩ := hf rfl
            exact opsVC_wp r K (A.put o.dst (.maybe false v0)) w C _ (put_rel hr hd (RelV.maybe (fun e => by cases e) (fun _ => rfl))) hf0 hn
        obtain ⟨v, hK, hp⟩ := guard_wp hr h
        cases G with
        | true =>
          rw [if_pos rfl]
          left
          refine hp rfl w C a (hr.toO o) _ _ fun x w' hv hs hst => opsVC_wp r K (A.put o.dst (.maybe true v)) w' C _ ?_ hK (fun A'' C'' a'' w'' hK' hr'' hs' => hn A'' C'' a'' w'' hK' hr'' (hs.trans hs'))
          have := put_step (o := o) hr hd hs hst (RelV.maybe (g := true) (fun _ => hv) (fun e => by cases e))
          cases ho : o.dst <;> simpa [ho, AState.put, AState.upd, AState.withSt] using this
        | false =>
          rw [if_neg (by simp)]
          refine opsVC_wp r K (A.put o.dst (.maybe false v)) w C _ ?_ hK hn
          exact put_rel hr hd (RelV.maybe (fun e => by cases e) (fun _ => rfl))
      · exact h.elim

theorem VC.region {id : Nat} {l : List Oper} {Q : Exit → AState → Prop} (h : opsVC P W0 n fz l.toArray l (fun A' => Q .normal A') A) : VC P W0 n (.region id l.toArray false) Q A := fun w C a hr =>
  wp_region_lit (opsVC_wp l _ A w C a hr h fun A' C' _ _ q r s => ⟨A', C', q, r, s⟩)

/-- Slots at a call's beginning. -/
def envOf (args : List AV) : Nat → AV := fun i => args[i]?.getD .undef

/-- Results in slots. -/
def resOf (env : Nat → AV) : List Nat → AV
  | [t] => env t
  | ts => .tup (ts.map env)

theorem mapM_tmps {F : ResultVar → Sem Value} {tmps : Array Value} (hF : ∀ t, (F (.tmp t)).run P w = .ok (tmps.getD t undef) w) : ∀ ts : List Nat, ((ts.map ResultVar.tmp).mapM F).run P w = .ok (ts.map fun t => tmps.getD t undef) w
  | [] => rfl
  | t :: ts => by
    rw [List.map_cons, List.mapM_cons]
    simp only [Sem.run_bind, hF, Result.andThen_ok, mapM_tmps hF ts, Sem.run_pure, List.map_cons]

theorem results_rel {fn : Func} {ts : List Nat} (hr : RelA P W0 n w C A a) (h : fn.results = (ts.map ResultVar.tmp).toArray) : ∃ v, (results fn a.tmps).run P w = .ok v w ∧ RelV P w C (resOf A.env ts) v := by
  have hm : (results fn a.tmps).run P w = .ok (if h : (ts.map fun t => a.tmps.getD t undef).toArray.size = 1 then (ts.map fun t => a.tmps.getD t undef).toArray[0] else .tuple (ts.map fun t => a.tmps.getD t undef).toArray) w := by
    unfold results
    rw [h, Array.mapM_eq_mapM_toList]
    simp only [Sem.run_bind, Sem.run_map]
    rw [mapM_tmps (tmps := a.tmps) (fun t => rfl) ts]
    rfl
  match ts, hm with
  | [], hm => exact ⟨_, hm, .tup (vs := []) rfl (by simp)⟩
  | [t], hm => exact ⟨_, hm, hr.env t⟩
  | t :: u :: ts, hm =>
    refine ⟨_, hm, ?_⟩
    rw [dif_neg (by simp)]
    refine .tup (by simp) (fun i x v hx hv => ?_)
    simp only [List.getElem?_map, Option.map_eq_some_iff] at hx hv
    obtain ⟨q, hq, rfl⟩ := hx
    obtain ⟨q', hq', rfl⟩ := hv
    rw [hq] at hq'
    cases hq'
    exact hr.env q

/-- What holds at a function's end: of its result, and of its store. -/
def EndQ (ts : List Nat) (Q : AV → Store → Prop) (σ : Store) : Exit → AState → Prop
  | .normal, A | .ret, A => ∃ r' σ', Weak (resOf A.env ts) r' ∧ (σ.length ≤ σ'.length ∧ σ' = A.st.take σ'.length) ∧ (∀ id te xs, id < σ'.length → A.st[id]? = some (some (.cells te xs)) → ∀ x ∈ xs, IdsLt σ'.length x) ∧ IdsLt σ'.length r' ∧ Q r' σ'
  | _, _ => False

theorem rel_entry {args : List AV} {vs : List Value} {m : Nat} (hst : StRel P W0 w C σ) (hl : args.length = vs.length) (hv : ∀ (i : Nat) (a : AV) (v : Value), args[i]? = some a → vs[i]? = some v → RelV P w C a v) (hargs : args.length ≤ m) :
    RelA P W0 m w C ⟨envOf args, σ⟩ { tmps := vs.toArray ++ Array.replicate (m - vs.toArray.size) undef, defers := [] } := by
  refine ⟨fun i => ?_, rfl, by simp; omega, hst⟩
  simp only [envOf]
  by_cases hi : i < args.length
  · have h1 := List.getElem?_eq_getElem hi
    have h2 := List.getElem?_eq_getElem (l := vs) (show i < vs.length by omega)
    rw [h1, Option.getD_some]
    have h3 := hv i _ _ h1 h2
    have : (vs.toArray ++ Array.replicate (m - vs.toArray.size) undef).getD i undef = vs[i] := by
      rw [Array.getD_eq_getD_getElem?, Array.getElem?_append_left (by simp; omega)]
      simp [h2]
    rw [this]
    exact h3
  · rw [List.getElem?_eq_none (by omega), Option.getD_none]
    exact .undef _

theorem acall_of_vc {f : FuncId} {fn : Func} {c : Code} {args : List AV} {Q : AV → Store → Prop} (hf : P.funcs[f]? = some fn) (hb : fn.body = some c) (hnm : (fn.name == "runtime.NumGoroutine") = false) (hargs : args.length ≤ fn.ntmps) {ts : List Nat} (hres : fn.results = (ts.map ResultVar.tmp).toArray)
    (h : VC P W0 fn.ntmps c (EndQ ts Q σ) ⟨envOf args, σ⟩) : ACall P W0 f args σ Q := by
  refine fun w C vs hst hl hv => .inl ⟨⟨fn, hf, by simp [hb], hnm⟩, calls_of_wp hf hb ?_⟩
  have hr : RelA P W0 fn.ntmps w C ⟨envOf args, σ⟩ { tmps := vs.toArray ++ Array.replicate (fn.ntmps - vs.toArray.size) undef, defers := [] } := by
    refine ⟨fun i => ?_, rfl, by simp; omega, hst⟩
    simp only [envOf]
    by_cases hi : i < args.length
    · have h1 := List.getElem?_eq_getElem hi
      have h2 := List.getElem?_eq_getElem (l := vs) (show i < vs.length by omega)
      rw [h1, Option.getD_some]
      have h3 := hv i _ _ h1 h2
      have : (vs.toArray ++ Array.replicate (fn.ntmps - vs.toArray.size) undef).getD i undef = vs[i] := by
        rw [Array.getD_eq_getD_getElem?, Array.getElem?_append_left (by simp; omega)]
        simp [h2]
      rw [this]
      exact h3
    · rw [List.getElem?_eq_none (by omega), Option.getD_none]
      exact .undef _
  refine wp_mono (h w C _ hr) fun e a' w' ⟨A', C', q, r, s⟩ => ?_
  have fin : (∃ r' σ', Weak (resOf A'.env ts) r' ∧ (σ.length ≤ σ'.length ∧ σ' = A'.st.take σ'.length) ∧ (∀ id te xs, id < σ'.length → A'.st[id]? = some (some (.cells te xs)) → ∀ x ∈ xs, IdsLt σ'.length x) ∧ IdsLt σ'.length r' ∧ Q r' σ') →
      a'.defers = [] ∧ ∃ v, (results fn a'.tmps).run P w' = .ok v w' ∧ ∃ v₁ r σ' C', Ending.returned v = .returned v₁ ∧ Q r σ' ∧ StRel P W0 w' C' σ' ∧ RelV P w' C' r v₁ ∧ Step w C w' C' := by
    rintro ⟨r1, σ', h2, ⟨h3, h4⟩, h5, h6, h7⟩
    obtain ⟨v, g1, g2⟩ := results_rel r hres
    have hle : σ'.length ≤ A'.st.length := by have := congrArg List.length h4; rw [List.length_take] at this; omega
    refine ⟨r.defers, v, g1, v, r1, σ', C'.upTo σ'.length, rfl, h7, ?_, (g2.weak h2).upTo h6, s.upTo (by rw [hst.nx]; exact h3)⟩
    have := r.st.upTo hle h5
    rwa [← h4] at this
  cases e with
  | normal => exact fin q
  | ret => exact fin q
  | _ => exact q.elim

end
end Go.Av
end
