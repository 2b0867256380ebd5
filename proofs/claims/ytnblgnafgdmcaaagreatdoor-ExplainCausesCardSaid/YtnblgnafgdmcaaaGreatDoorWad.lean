/- Texts that the last one of this claim rests on: a layer over the guide's own conditions for code; contracts of the functions that the law reaches, one by one. No conditions beside those of the given rows. -/
import Derived.Lib.Strings
import Derived.Test.YtnblgnafgdmcaaaGreatDoorWac
section
set_option linter.unusedSimpArgs false
set_option linter.unusedVariables false
namespace Go.Av
open Go

/-- A bound of a cut: what it is, where it is given; else the default. -/
def BndIs (P : Program) (W0 : World) (o : Oper) (A : AState) (x : Option Operand) (d l : Nat) : Prop :=
  match x with
  | none => l = d
  | some y => ∃ k i, Is P W0 o A y (.int k i) ∧ 0 ≤ i ∧ i.toNat = l

/-- A part of a list, from one place up to another one. -/
def cutL {α : Type} (xs : List α) (lo hi : Nat) : List α := (xs.drop lo).take (hi - lo)
theorem cutL_length {α : Type} (xs : List α) {lo hi : Nat} (h : lo ≤ hi) (h' : hi ≤ xs.length) : (cutL xs lo hi).length = hi - lo := by simp [cutL]; omega
theorem cutL_get {α : Type} {xs : List α} {lo hi i : Nat} {x : α} (hx : (cutL xs lo hi)[i]? = some x) : xs[lo + i]? = some x ∧ i < hi - lo := by
  unfold cutL at hx
  rw [List.getElem?_take] at hx
  split at hx
  · rw [List.getElem?_drop] at hx; exact ⟨hx, by assumption⟩
  · cases hx

section
variable {P : Program} {W0 w w' : World} {C C' : Ctx} {σ σ' : Store} {n : Nat} {A : AState} {a : Act} {o : Oper}

theorem run_sliceBound {w : World} (k : IntKind) {i : Int} {y l : Nat} (code : BoundsCode) (h0 : 0 ≤ i) (hl : i.toNat = l) (hy : l ≤ y) : (Instr.sliceBound (.int k i) y code).run P w = .ok l w := by
  have h1 : 0 ≤ i ∧ i ≤ (y : Int) := ⟨h0, by omega⟩
  simp [Instr.sliceBound, asIntOf, h1, hl]

theorem run_sliceBounds (hr : RelO P W0 o w C A a) (isS : Bool) {lo hi : Option Operand} {len cap l h : Nat} (hlo : BndIs P W0 o A lo 0 l) (hhi : BndIs P W0 o A hi len h) (hlh : l ≤ h) (hhc : h ≤ cap) :
    (Instr.sliceBounds isS len cap (lo.map a.eval) (hi.map a.eval) none).run P w = .ok (l, h, cap) w := by
  have e : ∀ y k i, Is P W0 o A y (.int k i) → a.eval y = .int k i := fun y k i hy => (hy w C a hr).int_inv
  cases lo with
  | none =>
    cases hi with
    | none => simp only [BndIs] at hlo hhi; subst hlo hhi; simp [Instr.sliceBounds]
    | some y =>
      obtain ⟨k, i, h1, h2, h3⟩ := hhi
      simp only [BndIs] at hlo
      subst hlo
      simp [Instr.sliceBounds, e y k i h1, run_sliceBound k _ h2 h3 hhc]
  | some x =>
    obtain ⟨kx, ix, x1, x2, x3⟩ := hlo
    cases hi with
    | none =>
      simp only [BndIs] at hhi
      subst hhi
      simp [Instr.sliceBounds, e x kx ix x1, run_sliceBound kx _ x2 x3 hlh]
    | some y =>
      obtain ⟨k, i, h1, h2, h3⟩ := hhi
      simp [Instr.sliceBounds, e x kx ix x1, e y k i h1, run_sliceBound kx _ x2 x3 hlh, run_sliceBound k _ h2 h3 hhc]

theorem ok_slice_str {t : TypeId} {x : Operand} {lo hi : Option Operand} {l : List UInt8} {p q : Nat} (ho : o.op = .slice t x lo hi none) (hx : Is P W0 o A x (.str l)) (ht : P.underlying t = some .string)
    (hlo : BndIs P W0 o A lo 0 p) (hhi : BndIs P W0 o A hi l.length q) (h1 : p ≤ q) (h2 : q ≤ l.length) : ValOk P W0 o A (.str (cutL l p q)) :=
  .of_same fun w C a hr => by
    have h := hx w C a hr
    obtain ⟨hv, hle⟩ := h.str_inv
    have e : (⟨l.toArray⟩ : ByteArray).size = l.length := by show l.toArray.size = l.length; simp
    have hb := run_sliceBounds hr false hlo hhi h1 h2
    refine ⟨.string ⟨(cutL l p q).toArray⟩, ?_, .one rfl (.str ?_)⟩
    · have he := Lib.extract_eq (⟨l.toArray⟩ : ByteArray) p q
      simp only [] at he
      simp [execOp, ho, Instr.sliceAt, Instr.slice, run_underlying ht, hv, e, hb, he, cutL]
    · rw [cutL_length l h1 h2]; omega

theorem ok_slice_list {t e : TypeId} {x : Operand} {lo hi : Option Operand} {xs : List AV} {p q : Nat} {v : AV} (ho : o.op = .slice t x lo hi none) (hx : Is P W0 o A x v) (hl : v.asList = some (e, xs)) (ht : elT P t = some e) (he : 0 < szOf P e)
    (hlo : BndIs P W0 o A lo 0 p) (hhi : BndIs P W0 o A hi xs.length q) (h1 : p ≤ q) (h2 : q ≤ xs.length) : ValOk P W0 o A (.sl e (cutL xs p q)) :=
  .of_same fun w C a hr => by
    have h := hx w C a hr
    obtain ⟨hcase, hone⟩ := AV.asList_inv hl
    obtain ⟨ad, cap, cf, hv, c1, c2, c3, c4, c5⟩ := (h.one_inv hone).sl_of hcase
    obtain ⟨inf, hinf, hsz⟩ := szOf_info he
    have hb := run_sliceBounds hr true hlo hhi h1 (Nat.le_trans h2 c1)
    have hlen := cutL_length xs h1 h2
    refine ⟨.slice (if cap = p then ad else ad.map (·.add (p * szOf P e))) (q - p) (cap - p), ?_, ?_⟩
    · simp [execOp, ho, Instr.sliceAt, Instr.slice, run_underlying (elT_inv ht), hv, hb, sizeOf, typeInfo, hinf, hsz]
    · rw [← hlen]
      refine .one rfl (.sl (fun i => cf (p + i)) (by omega) (by omega) (fun i x hi => c3 _ _ (cutL_get hi).1) (fun i x hi => c4 _ _ (cutL_get hi).1) ?_)
      intro hpos
      rw [hlen] at hpos
      obtain ⟨b, off, rfl, hc⟩ := c5 (by omega)
      rw [if_neg (by omega)]
      refine ⟨b, off + p * szOf P e, by simp [Addr.add_lit], fun i hi => ?_⟩
      rw [hlen] at hi
      have := hc (p + i) (by omega)
      rwa [Nat.add_mul, ← Nat.add_assoc] at this

theorem ok_slice_row {t e : TypeId} {x : Operand} {lo hi : Option Operand} {id off m p q : Nat} (ho : o.op = .slice t x lo hi none) (hx : Is P W0 o A x (.row e id off m)) (ht : elT P t = some e) (he : 0 < szOf P e)
    (hlo : BndIs P W0 o A lo 0 p) (hhi : BndIs P W0 o A hi m q) (h1 : p ≤ q) (h2 : q ≤ m) : ValOk P W0 o A (.row e id (off + p) (q - p)) :=
  .of_same fun w C a hr => by
    have h := (hx w C a hr).one_inv rfl
    obtain ⟨inf, hinf, hsz⟩ := szOf_info he
    have ⟨ad, cap, hv, g1, g2, g3, g4⟩ : ∃ ad cap, a.eval x = .slice ad m cap ∧ m ≤ cap ∧ cap ≤ maxLen ∧ id < C.nx ∧ (∀ ow, C.m id = some ow → ∃ b base room, ow = .obj b e base room ∧ (0 < cap → ad = some ⟨b, base + off * szOf P e, none⟩) ∧ base + (off + cap) * szOf P e = room) := by
      generalize a.eval x = v at h
      cases h with
      | row h1 h2 h3 h4 => exact ⟨_, _, rfl, h1, h2, h3, h4⟩
    have hb := run_sliceBounds hr true hlo hhi h1 (Nat.le_trans h2 g1)
    refine ⟨.slice (if cap = p then ad else ad.map (·.add (p * szOf P e))) (q - p) (cap - p), ?_, .one rfl (.row (by omega) (by omega) g3 (fun ow how => ?_))⟩
    · simp [execOp, ho, Instr.sliceAt, Instr.slice, run_underlying (elT_inv ht), hv, hb, sizeOf, typeInfo, hinf, hsz]
    · obtain ⟨b, base, room, e1, e2, e3⟩ := g4 ow how
      refine ⟨b, base, room, e1, fun hc => ?_, by rw [show off + p + (cap - p) = off + cap by omega]; exact e3⟩
      rw [if_neg (by omega), e2 (by omega)]
      simp [Addr.add_lit, Nat.add_mul, Nat.add_assoc]

theorem ok_slice_nils {t e : TypeId} {x : Operand} {lo hi : Option Operand} (ho : o.op = .slice t x lo hi none) (hx : Is P W0 o A x .nils) (ht : elT P t = some e) (he : 0 < szOf P e)
    (hlo : BndIs P W0 o A lo 0 0) (hhi : BndIs P W0 o A hi 0 0) : ValOk P W0 o A .nils :=
  .of_same fun w C a hr => by
    have hv := (hx w C a hr).nils_inv
    obtain ⟨inf, hinf, hsz⟩ := szOf_info he
    have hb := run_sliceBounds hr (len := 0) (cap := 0) true hlo hhi (Nat.le_refl 0) (Nat.le_refl 0)
    exact ⟨.slice none 0 0, by simp [execOp, ho, Instr.sliceAt, Instr.slice, run_underlying (elT_inv ht), hv, hb, sizeOf, typeInfo, hinf], .one rfl .nils⟩

end
end Go.Av
end
section
set_option linter.unusedSimpArgs false
set_option linter.unusedVariables false
namespace Go.Av
open Go

/-- An array with some cells in the place of others. -/
def splice (arr : Array Value) (off : Nat) (l : List Value) : Array Value := (arr.toList.take off ++ l ++ arr.toList.drop (off + l.length)).toArray

theorem splice_size {arr : Array Value} {off : Nat} {l : List Value} (h : off + l.length ≤ arr.size) : (splice arr off l).size = arr.size := by
  simp only [splice, List.size_toArray, List.length_append, List.length_take, List.length_drop, Array.length_toList]; omega

theorem splice_get {arr : Array Value} {off : Nat} {l : List Value} (h : off + l.length ≤ arr.size) (p : Nat) : (splice arr off l)[p]? = if off ≤ p ∧ p < off + l.length then l[p - off]? else arr[p]? := by
  simp only [splice, List.getElem?_toArray, List.append_assoc]
  have ht : (arr.toList.take off).length = off := by simp; omega
  by_cases h1 : p < off
  · rw [List.getElem?_append_left (by omega), List.getElem?_take, if_pos h1, if_neg (by omega)]; simp
  · rw [List.getElem?_append_right (by omega), ht]
    by_cases h2 : p < off + l.length
    · rw [List.getElem?_append_left (by omega), if_pos ⟨by omega, h2⟩]
    · rw [List.getElem?_append_right (by omega), if_neg (by omega), List.getElem?_drop]
      simp only [Array.getElem?_toList]
      congr 1; omega

theorem splice_mem {arr : Array Value} {off : Nat} {l : List Value} {q : Value → Prop} (h1 : ∀ c ∈ arr.toList, q c) (h2 : ∀ c ∈ l, q c) : ∀ c ∈ (splice arr off l).toList, q c := by
  intro c hc
  simp only [splice, List.mem_append] at hc
  rcases hc with (hc | hc) | hc
  · exact h1 c (List.mem_of_mem_take hc)
  · exact h2 c hc
  · exact h1 c (List.mem_of_mem_drop hc)

theorem fold_splice : ∀ (l : List Value) (k off : Nat) (arr : Array Value), off + k + l.length ≤ arr.size → (l.zipIdx k).foldl (fun cs (x : Value × Nat) => cs.setIfInBounds (off + x.2) x.1) arr = splice arr (off + k) l
  | [], k, off, arr, _ => by simp [splice]
  | v :: r, k, off, arr, h => by
    simp only [List.zipIdx_cons, List.foldl_cons]
    simp only [List.length_cons] at h
    rw [fold_splice r (k + 1) off _ (by simp; omega)]
    apply Array.ext_getElem?
    intro p
    rw [splice_get (by simp; omega), splice_get (by simp; omega)]
    simp only [List.length_cons]
    by_cases h1 : off + k = p
    · subst h1
      rw [if_neg (by omega), if_pos (by omega)]
      simp [show off + k < arr.size by omega]
    · by_cases h2 : off + (k + 1) ≤ p ∧ p < off + (k + 1) + r.length
      · rw [if_pos h2, if_pos (by omega), show p - (off + k) = (p - (off + (k + 1))) + 1 by omega, List.getElem?_cons_succ]
      · rw [if_neg h2, if_neg (by omega), Array.getElem?_setIfInBounds_ne h1]

theorem fold_splice_array (v : Array Value) (off : Nat) (arr : Array Value) (h : off + v.size ≤ arr.size) : v.zipIdx.foldl (fun cs (x : Value × Nat) => cs.setIfInBounds (off + x.2) x.1) arr = splice arr off v.toList := by
  have := fold_splice v.toList 0 off arr (by simpa using h)
  simp only [Nat.add_zero] at this
  rw [← this, ← Array.foldl_toList]
  congr 1
  simp

section
variable {P : Program} {W0 w w' : World} {C C' : Ctx} {σ σ' : Store} {n : Nat} {A : AState} {a : Act} {o : Oper}

theorem offAt_succ {ts : List TypeId} {k : Nat} {ty : TypeId} (h : ts[k]? = some ty) : offAt P ts (k + 1) = offAt P ts k + szOf P ty := by
  obtain ⟨hk, he⟩ := List.getElem?_eq_some_iff.1 h
  simp only [offAt, List.take_succ_eq_append_getElem hk, List.map_append, List.sum_append, he]
  simp

theorem offAt_mono {ts : List TypeId} {i k : Nat} (h : i ≤ k) : offAt P ts i ≤ offAt P ts k := by
  induction h with
  | refl => exact Nat.le_refl _
  | step _ ih =>
    rename_i m hm
    refine Nat.le_trans ih ?_
    cases hk : ts[m]? with
    | some ty => rw [offAt_succ hk]; omega
    | none =>
      have : ts.length ≤ m := List.getElem?_eq_none_iff.1 hk
      unfold offAt
      rw [List.take_of_length_le this, List.take_of_length_le (by omega)]
      exact Nat.le_refl _

/-- Some cells are the parts of an aggregate. -/
structure Parts (P : Program) (w : World) (C : Ctx) (ts : List TypeId) (fs : List AV) (cs : List Value) : Prop where
  len : fs.length = ts.length
  size : cs.length = offAt P ts ts.length
  one : ∀ c ∈ cs, c.oneCell' = true
  part : ∃ cf : Nat → List Value, ∀ i x ty, fs[i]? = some x → ts[i]? = some ty → Rel P w C x (cf i) ∧ (cf i).length = szOf P ty ∧ fits P ty x ∧ ∀ (j : Nat) (u : Value), (cf i)[j]? = some u → cs[offAt P ts i + j]? = some u

theorem Parts.rel {t : TypeId} {ts : List TypeId} {fs : List AV} {cs : List Value} (h : Parts P w C ts fs cs) (ht : flds P t = some ts) : Rel P w C (.agg t fs) cs := by
  obtain ⟨cf, hcf⟩ := h.part
  have hget : ∀ i x, fs[i]? = some x → ∃ ty, ts[i]? = some ty := fun i x hx => by
    have : i < ts.length := by rw [← h.len]; exact (List.getElem?_eq_some_iff.1 hx).1
    exact ⟨_, List.getElem?_eq_getElem this⟩
  refine .agg cf ht h.len (by rw [h.size, offAt_total ht]) h.one (fun i x hx => ?_) (fun i x ty hx hty => ?_)
  · obtain ⟨ty, hty⟩ := hget i x hx
    exact (hcf i x ty hx hty).1
  · exact (hcf i x ty hx hty).2

theorem Rel.parts {t : TypeId} {ts : List TypeId} {fs : List AV} {cs : List Value} (h : Rel P w C (.agg t fs) cs) (ht : flds P t = some ts) : Parts P w C ts fs cs := by
  cases h with
  | agg cf h1 h2 h3 h4 h5 h6 =>
    rw [ht] at h1
    cases h1
    exact ⟨h2, by rw [h3, offAt_total ht], h4, cf, fun i x ty hx hty => ⟨h5 i x hx, h6 i x ty hx hty⟩⟩

theorem Parts.set {ts : List TypeId} {fs : List AV} {cs : List Value} (h : Parts P w C ts fs cs) {k : Nat} {ty : TypeId} {x : AV} {c : List Value} (hty : ts[k]? = some ty) (hx : Rel P w C x c) (hf : fits P ty x) :
    offAt P ts k + c.length ≤ cs.length ∧ Parts P w C ts (fs.set k x) (splice cs.toArray (offAt P ts k) c).toList := by
  obtain ⟨cf, hcf⟩ := h.part
  have hlen := hx.length_fits hf
  have hk : k < ts.length := (List.getElem?_eq_some_iff.1 hty).1
  have hfit : offAt P ts k + c.length ≤ cs.length := by
    rw [hlen, ← offAt_succ hty, h.size]; exact offAt_mono (by omega)
  refine ⟨hfit, ⟨by simpa using h.len, ?_, ?_, fun i => if i = k then c else cf i, fun i y ty' hy hty' => ?_⟩⟩
  · have := splice_size (arr := cs.toArray) (off := offAt P ts k) (l := c) (by simpa using hfit)
    simpa [h.size] using this
  · exact splice_mem (q := fun c => c.oneCell' = true) (by simpa using h.one) hx.oneCell
  · have hget : ∀ p, (splice cs.toArray (offAt P ts k) c).toList[p]? = if offAt P ts k ≤ p ∧ p < offAt P ts k + c.length then c[p - offAt P ts k]? else cs[p]? := fun p => by
      rw [Array.getElem?_toList, splice_get (by simpa using hfit)]; simp
    by_cases hik : i = k
    · subst hik
      rw [hty] at hty'
      cases hty'
      have : i < fs.length := by rw [h.len]; exact hk
      simp only [List.getElem?_set_self this, Option.some.injEq] at hy
      subst hy
      simp only [if_true]
      refine ⟨hx, hlen, hf, fun j u hj => ?_⟩
      have hjl : j < c.length := (List.getElem?_eq_some_iff.1 hj).1
      rw [hget, if_pos ⟨by omega, by omega⟩, Nat.add_sub_cancel_left]
      exact hj
    · rw [List.getElem?_set_ne (Ne.symm hik)] at hy
      simp only [hik, if_false]
      obtain ⟨r1, r2, r3, r4⟩ := hcf i y ty' hy hty'
      refine ⟨r1, r2, r3, fun j u hj => ?_⟩
      have hjl : j < szOf P ty' := by rw [← r2]; exact (List.getElem?_eq_some_iff.1 hj).1
      rw [hget, if_neg ?_]
      · exact r4 j u hj
      · rintro ⟨g1, g2⟩
        rcases Nat.lt_or_gt_of_ne hik with hlt | hgt
        · have := offAt_mono (P := P) (ts := ts) (show i + 1 ≤ k by omega)
          rw [offAt_succ hty'] at this
          omega
        · have := offAt_mono (P := P) (ts := ts) (show k + 1 ≤ i by omega)
          rw [offAt_succ hty, ← hlen] at this
          omega

end

/-- The pure value of a type's zero cells. -/
def zeroFlds (P : Program) (z : TypeId → List Value → Option AV) : List TypeId → List Value → Option (List AV)
  | [], _ => some []
  | t :: ts, cs => match z t (cs.take (szOf P t)), zeroFlds P z ts (cs.drop (szOf P t)) with
    | some a, some as => some (a :: as)
    | _, _ => none

def zeroFrom (P : Program) : Nat → TypeId → List Value → Option AV
  | 0, _, _ => none
  | f + 1, t, cs => match flds P t with
    | some ts => if cs.length == szOf P t && cs.all Value.oneCell' then (zeroFlds P (zeroFrom P f) ts cs).map (.agg t) else none
    | none => if prim P t then match cs with
        | [c] => if (constAV c).isOne then some (constAV c) else none
        | _ => none
      else none

def zeroOf (P : Program) (t : TypeId) : Option AV := ((P.info? t).bind (·.zero)).bind fun z => zeroFrom P 8 t z.cells.toList

section
variable {P : Program} {W0 w w' : World} {C C' : Ctx} {σ σ' : Store} {n : Nat} {A : AState} {a : Act} {o : Oper}

theorem zeroFlds_rel {z : TypeId → List Value → Option AV} : ∀ (ts : List TypeId) (cs : List Value) (as : List AV), zeroFlds P z ts cs = some as →
    as.length = ts.length ∧ ∀ i x ty, as[i]? = some x → ts[i]? = some ty → z ty ((cs.drop (offAt P ts i)).take (szOf P ty)) = some x
  | [], cs, as, h => by
    simp [zeroFlds] at h
    subst h
    exact ⟨rfl, by simp⟩
  | t :: ts, cs, as, h => by
    simp only [zeroFlds] at h
    split at h
    · rename_i a as' h1 h2
      simp only [Option.some.injEq] at h
      subst h
      obtain ⟨g1, g2⟩ := zeroFlds_rel ts _ as' h2
      refine ⟨by simp [g1], fun i x ty hx hty => ?_⟩
      cases i with
      | zero =>
        simp at hx hty
        subst hx hty
        simpa [offAt] using h1
      | succ i =>
        simp at hx hty
        have := g2 i x ty hx hty
        rw [List.drop_drop] at this
        simpa [offAt] using this
    · cases h

theorem zeroFrom_rel : ∀ (f : Nat) (t : TypeId) (cs : List Value) (x : AV), zeroFrom P f t cs = some x → Rel P w C x cs ∧ fits P t x
  | 0, _, _, _, h => by cases h
  | f + 1, t, cs, x, h => by
    simp only [zeroFrom] at h
    split at h
    · rename_i ts hts
      split at h
      · rename_i hok
        simp only [Bool.and_eq_true, beq_iff_eq, List.all_eq_true] at hok
        simp only [Option.map_eq_some_iff] at h
        obtain ⟨as, has, rfl⟩ := h
        obtain ⟨g1, g2⟩ := zeroFlds_rel ts cs as has
        have hp : Parts P w C ts as cs := by
          refine ⟨g1, by rw [hok.1, offAt_total hts], hok.2, fun i => (cs.drop (offAt P ts i)).take (szOf P (ts.getD i 0)), fun i x ty hx hty => ?_⟩
          have hd : ts.getD i 0 = ty := by simp [List.getD, hty]
          have hz := g2 i x ty hx hty
          obtain ⟨r1, r2⟩ := zeroFrom_rel f ty _ x hz
          simp only [hd]
          refine ⟨r1, r1.length_fits r2, r2, fun j u hj => ?_⟩
          rw [List.getElem?_take] at hj
          split at hj
          · rwa [List.getElem?_drop] at hj
          · cases hj
        exact ⟨hp.rel hts, rfl, by simp [hts]⟩
      · cases h
    · split at h
      · rename_i hp
        split at h
        · rename_i c
          split at h
          · rename_i hone
            simp only [Option.some.injEq] at h
            subst h
            refine ⟨(constAV_rel c).one_inv hone, ?_⟩
            cases hc : constAV c <;> simp_all [fits, AV.isOne]
          · cases h
        · cases h
      · cases h

theorem zeroOf_rel {t : TypeId} {x : AV} (h : zeroOf P t = some x) : ∃ i z, P.info? t = some i ∧ i.zero = some z ∧ Rel P w C x z.cells.toList ∧ fits P t x := by
  unfold zeroOf at h
  obtain ⟨z, hz, hf⟩ := Option.bind_eq_some_iff.1 h
  obtain ⟨i, hi, hz⟩ := Option.bind_eq_some_iff.1 hz
  exact ⟨i, z, hi, hz, zeroFrom_rel 8 t _ x hf⟩

/-- The fields with some of them set. -/
def setAll : List (Nat × AV) → List AV → List AV
  | [], fs => fs
  | (i, v) :: r, fs => setAll r (fs.set i v)

def partsFit (P : Program) (ts : List TypeId) (ps : List (Nat × AV)) : Prop := ∀ p ∈ ps, ∃ ty, ts[p.1]? = some ty ∧ fits P ty p.2

theorem run_fill {ts : List TypeId} {place : Nat → Option (Nat × Nat)} (hpl : ∀ k ty, ts[k]? = some ty → place k = some (offAt P ts k, szOf P ty)) :
    ∀ (ps : List (Nat × AV)) (vs : List (Nat × Value)) (fs : List AV) (cells : Array Value), Parts P w C ts fs cells.toList → ps.length = vs.length →
      (∀ (i : Nat) (p : Nat × AV) (v : Nat × Value), ps[i]? = some p → vs[i]? = some v → v.1 = p.1 ∧ RelV P w C p.2 v.2) → partsFit P ts ps → ∃ cells', Instr.fill place cells vs = some cells' ∧ Parts P w C ts (setAll ps fs) cells'.toList
  | [], vs, fs, cells, h, hl, _, _ => by
    have : vs = [] := List.eq_nil_of_length_eq_zero (by simpa using hl.symm)
    subst this
    exact ⟨cells, rfl, h⟩
  | (k, x) :: ps, [], fs, cells, h, hl, _, _ => by simp at hl
  | (k, x) :: ps, (k', v) :: vs, fs, cells, h, hl, hr, hf => by
    obtain ⟨e1, e2⟩ := hr 0 (k, x) (k', v) rfl rfl
    simp only at e1 e2
    subst e1
    obtain ⟨ty, hty, hfit⟩ := hf (k', x) (by simp)
    simp only at hty hfit
    have hc := e2.cells hfit
    obtain ⟨s1, s2⟩ := h.set hty hc hfit
    have hsz : v.cells.size = szOf P ty := by
      have := hc.length_fits hfit
      simpa using this
    have s1' : offAt P ts k' + v.cells.size ≤ cells.size := by simpa using s1
    obtain ⟨cells', r1, r2⟩ := run_fill hpl ps vs (fs.set k' x) (splice cells (offAt P ts k') v.cells.toList) s2 (by simpa using hl)
      (fun i p q hp hq => hr (i + 1) p q (by simpa using hp) (by simpa using hq)) (fun p hp => hf p (by simp [hp]))
    refine ⟨cells', ?_, r2⟩
    rw [← r1]
    have hfold := fold_splice_array v.cells (offAt P ts k') cells s1'
    simp only [Instr.fill, hpl _ _ hty, hsz, ne_eq, not_true_eq_false, decide_false, Bool.false_or]
    rw [if_neg (by simp; omega)]
    congr 1

/-- The parts that an operation builds with. -/
def IsParts (P : Program) (W0 : World) (o : Oper) (A : AState) (ps : List (Nat × Operand)) (qs : List (Nat × AV)) : Prop :=
  qs.length = ps.length ∧ ∀ (i : Nat) (p : Nat × Operand) (q : Nat × AV), ps[i]? = some p → qs[i]? = some q → p.1 = q.1 ∧ Is P W0 o A p.2 q.2

theorem IsParts.rel {ps : List (Nat × Operand)} {qs : List (Nat × AV)} (h : IsParts P W0 o A ps qs) (hr : RelO P W0 o w C A a) : ∀ (i : Nat) (p : Nat × AV) (v : Nat × Value), qs[i]? = some p → (ps.map fun q => (q.1, a.eval q.2))[i]? = some v → v.1 = p.1 ∧ RelV P w C p.2 v.2 := by
  intro i p v hp hv
  simp only [List.getElem?_map, Option.map_eq_some_iff] at hv
  obtain ⟨y, hy, rfl⟩ := hv
  obtain ⟨e1, e2⟩ := h.2 i y p hy hp
  exact ⟨e1, e2 w C a hr⟩

theorem mapM_fields (w : World) : ∀ (fs : List Field), (∀ f ∈ fs, 0 < szOf P f.type) → (fs.mapM (fun f => do pure (f.offset, ← sizeOf f.type) : Field → Sem (Nat × Nat))).run P w = .ok (fs.map fun f => (f.offset, szOf P f.type)) w
  | [], _ => rfl
  | f :: r, h => by
    obtain ⟨i, hi, hs⟩ := szOf_info (h f (by simp))
    have ih := mapM_fields w r (fun g hg => h g (by simp [hg]))
    rw [List.mapM_cons]
    have hsz : (sizeOf f.type).run P w = .ok (szOf P f.type) w := by simp [sizeOf, typeInfo, hi, hs]
    simp only [Sem.run_bind, hsz, ih, Result.andThen_ok, Sem.run_pure, List.map_cons]

theorem ok_build {t : TypeId} {ts : List TypeId} {ps : Array (Nat × Operand)} {fs : List AV} {qs : List (Nat × AV)} (ho : o.op = .build t ps) (hts : flds P t = some ts)
    (hz : zeroOf P t = some (.agg t fs)) (hq : IsParts P W0 o A ps.toList qs) (hf : partsFit P ts qs) : ValOk P W0 o A (.agg t (setAll qs fs)) :=
  .of_same fun w C a hr => by
    obtain ⟨inf, z, hi, hiz, hrel, hfit⟩ := zeroOf_rel (w := w) (C := C) hz
    have hparts := hrel.parts hts
    have e : (Array.map (fun x => (x.1, a.eval x.2)) ps).toList = ps.toList.map fun q => (q.1, a.eval q.2) := by simp
    have hzv : (zeroValue t).run P w = .ok z w := by simp [zeroValue, typeInfo, hi, hiz]
    rcases flds_inv hts with ⟨fl, hu, e1, e2, e3⟩ | ⟨m, el, hu, e1, e2⟩
    · have hm := mapM_fields (P := P) w fl.toList (fun f hf => by
        obtain ⟨k, hk, he⟩ := List.getElem_of_mem hf
        have : fl[k]? = some f := by rw [← he]; simp
        exact (e2 k f (by simpa using this)).2)
      have hpl : ∀ k ty, ts[k]? = some ty → ((fl.toList.map fun f => (f.offset, szOf P f.type)).toArray[·]?) k = some (offAt P ts k, szOf P ty) := fun k ty hk => by
        subst e1
        simp only [List.getElem?_map, Option.map_eq_some_iff] at hk
        obtain ⟨f, hf, rfl⟩ := hk
        have hf' : fl[k]? = some f := by simpa using hf
        have := (e2 k f hf').1
        simp [hf', this]
      obtain ⟨cells', r1, r2⟩ := run_fill hpl qs (ps.toList.map fun q => (q.1, a.eval q.2)) fs z.cells hparts (by simpa using hq.1) (hq.rel hr) hf
      refine ⟨.agg cells', ?_, ?_⟩
      · have hmA : (fl.mapM (fun f => do pure (f.offset, ← sizeOf f.type) : Field → Sem (Nat × Nat))).run P w = .ok (fl.toList.map fun f => (f.offset, szOf P f.type)).toArray w := by
          rw [← Array.toArray_toList (xs := fl), Array.mapM_eq_mapM_toList]
          simp only [Sem.run_map, hm, Result.andThen_ok]
        simp only [execOp, ho, Instr.build, Sem.run_bind, hzv, Result.andThen_ok, run_underlying hu, hmA]
        rw [e, r1]
        rfl
      · have := RelV.agg (r2.rel hts)
        simpa using this
    · have hpos : 0 < szOf P el := by
        rcases Nat.eq_zero_or_pos (szOf P el) with h0 | h0
        · have := flds_pos hts; rw [e2, h0] at this; simp at this
        · exact h0
      obtain ⟨inf', hinf, hsz⟩ := szOf_info hpos
      have hpl : ∀ k ty, ts[k]? = some ty → (fun i => some (i * szOf P el, szOf P el)) k = some (offAt P ts k, szOf P ty) := fun k ty hk => by
        subst e1
        have hk' := List.getElem?_eq_some_iff.1 hk
        obtain ⟨hlt, he⟩ := hk'
        simp only [List.length_replicate] at hlt
        simp only [List.getElem_replicate] at he
        subst he
        rw [offAt_replicate _ _ _ (by omega)]
      obtain ⟨cells', r1, r2⟩ := run_fill hpl qs (ps.toList.map fun q => (q.1, a.eval q.2)) fs z.cells hparts (by simpa using hq.1) (hq.rel hr) hf
      refine ⟨.agg cells', ?_, ?_⟩
      · have hso : (sizeOf el).run P w = .ok (szOf P el) w := by simp [sizeOf, typeInfo, hinf, hsz]
        simp only [execOp, ho, Instr.build, Sem.run_bind, hzv, Result.andThen_ok, run_underlying hu, hso]
        rw [e, r1]
        rfl
      · have := RelV.agg (r2.rel hts)
        simpa using this

/-- A row that the call itself has laid: it reads as a literal slice. -/
theorem row_new_rel {e : TypeId} {xs : List AV} {cf : Nat → List Value} {arr : Array Value} (hst : StRel P W0 w C σ) (hl : xs.length ≤ maxLen)
    (h : ∀ i x, xs[i]? = some x → Rel P w C x (cf i) ∧ fits P e x ∧ ∀ (j : Nat) (u : Value), (cf i)[j]? = some u → arr[i * szOf P e + j]? = some u) :
    RelV P (w.alloc (.cells arr e)) C (.lit e xs) (.slice (some ⟨w.heap.size, 0, none⟩) xs.length xs.length) := by
  refine .one rfl (.lit cf hl (fun i x hx => (h i x hx).1.mono (Step.alloc w C _)) (fun i x hx => ⟨(h i x hx).1.length_fits (h i x hx).2.1, (h i x hx).2.1⟩) (fun _ => ⟨w.heap.size, 0, rfl, fun i hi j u hj => ⟨?_, ?_⟩⟩))
  · have := (h i _ (List.getElem?_eq_getElem hi)).2.2 j u hj
    rw [World.cell?_alloc_new, Nat.zero_add]
    exact this
  · exact Stable.free (by simp) (hst.fresh)

/-- The cells of a literal, laid side by side. -/
def RowIs (P : Program) (w : World) (C : Ctx) (e : TypeId) (k : Nat) (xs : List AV) (cells : Array Value) : Prop :=
  ∃ cf : Nat → List Value, ∀ i x, xs[i]? = some x → Rel P w C x (cf (k + i)) ∧ fits P e x ∧ ∀ (j : Nat) (u : Value), (cf (k + i))[j]? = some u → cells[(k + i) * szOf P e + j]? = some u

theorem run_fill_row {e : TypeId} (N : Nat) : ∀ (ps : List (Nat × AV)) (vs : List (Nat × Value)) (k : Nat) (cells : Array Value), ps.map (·.1) = List.range' k ps.length → ps.length = vs.length → cells.size = N * szOf P e → k + ps.length ≤ N →
    (∀ (i : Nat) (p : Nat × AV) (v : Nat × Value), ps[i]? = some p → vs[i]? = some v → v.1 = p.1 ∧ RelV P w C p.2 v.2) → (∀ p ∈ ps, fits P e p.2) →
    ∃ cells', Instr.fill (fun i => some (i * szOf P e, szOf P e)) cells vs = some cells' ∧ cells'.size = cells.size ∧ (∀ p, p < k * szOf P e → cells'[p]? = cells[p]?) ∧ RowIs P w C e k (ps.map (·.2)) cells'
  | [], vs, k, cells, _, hl, _, _, _, _ => by
    have : vs = [] := List.eq_nil_of_length_eq_zero (by simpa using hl.symm)
    subst this
    exact ⟨cells, rfl, rfl, fun _ _ => rfl, fun _ => [], by simp⟩
  | (q, x) :: ps, [], k, cells, _, hl, _, _, _, _ => by simp at hl
  | (q, x) :: ps, (q', v) :: vs, k, cells, hk, hl, hs, hN, hr, hf => by
    simp only [List.map_cons, List.length_cons, List.range'_succ, List.cons.injEq] at hk
    obtain ⟨rfl, hk⟩ := hk
    obtain ⟨e1, e2⟩ := hr 0 (q, x) (q', v) rfl rfl
    simp only at e1 e2
    subst e1
    have hfit := hf (q', x) (by simp)
    simp only at hfit
    have hc := e2.cells hfit
    have hsz : v.cells.size = szOf P e := by
      have := hc.length_fits hfit
      simpa using this
    simp only [List.length_cons] at hN hl
    have hroom : q' * szOf P e + v.cells.size ≤ cells.size := by
      rw [hs, hsz, ← Nat.succ_mul]
      exact Nat.mul_le_mul_right _ (by omega)
    have hss := splice_size (arr := cells) (off := q' * szOf P e) (l := v.cells.toList) (by simpa using hroom)
    obtain ⟨cells', r1, r2, r3, cf, r4⟩ := run_fill_row N ps vs (q' + 1) (splice cells (q' * szOf P e) v.cells.toList) (by simpa using hk) (by omega) (by rw [hss, hs]) (by omega)
      (fun i p r hp hr' => hr (i + 1) p r (by simpa using hp) (by simpa using hr')) (fun p hp => hf p (by simp [hp]))
    have hmul : (q' + 1) * szOf P e = q' * szOf P e + szOf P e := Nat.succ_mul _ _
    refine ⟨cells', ?_, by rw [r2, hss], fun p hp => ?_, fun i => if i = q' then v.cells.toList else cf i, fun i y hy => ?_⟩
    · rw [← r1]
      have hfold := fold_splice_array v.cells (q' * szOf P e) cells hroom
      simp only [Instr.fill, hsz, ne_eq, not_true_eq_false, decide_false, Bool.false_or]
      rw [if_neg (by simp; omega)]
      congr 1
    · rw [r3 p (by omega), splice_get (by simpa using hroom), if_neg (by omega)]
    · cases i with
      | zero =>
        simp only [List.map_cons, List.getElem?_cons_zero, Option.some.injEq] at hy
        subst hy
        simp only [Nat.add_zero, if_true]
        refine ⟨hc, hfit, fun j u hj => ?_⟩
        have hjl : j < v.cells.size := by
          have := (List.getElem?_eq_some_iff.1 hj).1
          simpa using this
        rw [r3 _ (by omega), splice_get (by simpa using hroom), if_pos ⟨by omega, by simp; omega⟩, Nat.add_sub_cancel_left]
        exact hj
      | succ i =>
        simp only [List.map_cons, List.getElem?_cons_succ] at hy
        have := r4 i y hy
        rw [show q' + 1 + i = q' + (i + 1) by omega] at this
        simp only [show ¬ q' + (i + 1) = q' by omega, if_false]
        exact this

def hasZero (P : Program) (t : TypeId) : Bool := match (P.info? t).bind (·.zero) with | some z => z.cells.size == szOf P t | none => false

theorem hasZero_inv {t : TypeId} (h : hasZero P t = true) : ∃ inf z, P.info? t = some inf ∧ inf.zero = some z ∧ z.cells.size = szOf P t := by
  unfold hasZero at h
  split at h
  · rename_i z hz
    obtain ⟨inf, hinf, hiz⟩ := Option.bind_eq_some_iff.1 hz
    exact ⟨inf, z, hinf, hiz, by simpa using h⟩
  · cases h

theorem ok_buildSlice {t e : TypeId} {m : Nat} {ps : Array (Nat × Operand)} {qs : List (Nat × AV)} (ho : o.op = .buildSlice t m ps) (ht : elT P t = some e) (he : 0 < szOf P e) (hz : hasZero P e = true) (hm : m * szOf P e ≤ 2 ^ 24)
    (hq : IsParts P W0 o A ps.toList qs) (hk : qs.map (·.1) = List.range' 0 m) (hf : ∀ p ∈ qs, fits P e p.2) : ValOk P W0 o A (.lit e (qs.map (·.2))) :=
  fun w C a hr => by
    obtain ⟨inf, z, hinf, hiz, _⟩ := hasZero_inv hz
    have hsz : inf.size = szOf P e := by simp [szOf, hinf]
    have hlen : qs.length = m := by have := congrArg List.length hk; simpa using this
    have hzv : (zeroValue e).run P w = .ok z w := by simp [zeroValue, typeInfo, hinf, hiz]
    have hsv : (sizeOf e).run P w = .ok (szOf P e) w := by simp [sizeOf, typeInfo, hinf, hsz]
    have hbig : ¬ m * szOf P e > 2 ^ 24 := by omega
    have hrun : ∀ arr : Array Value, arr.size = m * szOf P e → ∃ cells', Instr.fill (fun i => some (i * szOf P e, szOf P e)) arr (ps.toList.map fun q => (q.1, a.eval q.2)) = some cells' ∧ cells'.size = arr.size ∧ (∀ p, p < 0 * szOf P e → cells'[p]? = arr[p]?) ∧ RowIs P w C e 0 (qs.map (·.2)) cells' :=
      fun arr harr => run_fill_row m qs (ps.toList.map fun q => (q.1, a.eval q.2)) 0 arr (by rw [hk, hlen]) (by simpa using hq.1) harr (by omega) (hq.rel hr) hf
    have e1 : (Array.map (fun x => (x.1, a.eval x.2)) ps).toList = ps.toList.map fun q => (q.1, a.eval q.2) := by simp
    obtain ⟨zc, hzc⟩ : ∃ zc : Array Value, zc = if m * szOf P e = 0 then #[] else z.cells := ⟨_, rfl⟩
    obtain ⟨cells', f1, f2, _, cf, f4⟩ := hrun ((Array.range (m * szOf P e)).map (zc[· % zc.size]!)) (by simp)
    have hl : (qs.map (·.2)).length = m := by simpa using hlen
    have hmax : m ≤ maxLen := by
      have : m * 1 ≤ m * szOf P e := Nat.mul_le_mul_left _ he
      unfold maxLen; omega
    have hrel := row_new_rel (P := P) (e := e) (xs := qs.map (·.2)) (cf := cf) (arr := cells') hr.st (by rw [hl]; exact hmax) (fun i x hx => by
      have := f4 i x hx
      rwa [Nat.zero_add] at this)
    rw [hl] at hrel
    refine ⟨_, _, ?_, hrel, Step.alloc _ _ _, hr.st.alloc _⟩
    simp only [execOp, ho, Instr.buildSlice, Sem.run_bind, Result.andThen_ok, run_underlying (elT_inv ht), hsv, hbig, if_false, Sem.run_pure]
    by_cases h0 : m * szOf P e = 0
    · rw [if_pos h0] at hzc ⊢
      subst hzc
      simp only [Sem.run_bind, Sem.run_pure, Result.andThen_ok]
      rw [e1, f1]
      simp only [newRow, newObj, Sem.run_bind, Sem.run_pure]
      rfl
    · rw [if_neg h0] at hzc ⊢
      subst hzc
      simp only [Sem.run_bind, Sem.run_pure, Result.andThen_ok, hzv]
      rw [e1, f1]
      simp only [newRow, newObj, Sem.run_bind, Sem.run_pure]
      rfl

/-- A variable that is never written again: a place. -/
theorem ok_box {t : TypeId} {x : Operand} {v : AV} (ho : o.op = .box t x) (hx : Is P W0 o A x v) (hf : fits P t v) : ValOk P W0 o A (.loc t v) := fun w C a hr => by
  have hc := (hx w C a hr).cells hf
  have hcl : (a.eval x).cells.toList.length = szOf P t := hc.length_fits hf
  refine ⟨.pointer (some ⟨w.heap.size, 0, none⟩), w.alloc (.cells (a.eval x).cells t), ?_, .one rfl (.loc (hc.mono (Step.alloc w C _)) hf hcl (fun j c hj => ⟨?_, Stable.free (by simp) hr.st.fresh⟩)), Step.alloc _ _ _, hr.st.alloc _⟩
  · simp only [execOp, ho, Instr.box, newVar, newRow, newObj, Sem.run_bind, Sem.run_pure]
    rfl
  · rw [World.cell?_alloc_new, Nat.zero_add]
    simpa using hj

end
end Go.Av
end
section
set_option linter.unusedSimpArgs false
set_option linter.unusedVariables false
namespace Go.Av
open Go

/-- The part of a value at a path. -/
def AV.at : AV → List Nat → Option AV
  | v, [] => some v
  | .agg _ fs, k :: r => (fs[k]?).bind (·.at r)
  | _, _ :: _ => none

/-- What the store holds at a place. -/
def look (σ : Store) (id i : Nat) (path : List Nat) : Option AV :=
  match σ[id]? with
  | some (some (.cells _ xs)) => (xs[i]?).bind (·.at path)
  | _ => none

section
variable {P : Program} {W0 w w' : World} {C C' : Ctx} {σ σ' : Store} {n : Nat} {A : AState} {a : Act} {o : Oper}

theorem at_rel : ∀ (path : List Nat) (te t : TypeId) (off : Nat) (x v : AV) (cs : List Value), Rel P w C x cs → fits P te x → place P te path = some (t, off) → x.at path = some v →
    ∃ c, Rel P w C v c ∧ fits P t v ∧ c.length = szOf P t ∧ ∀ (j : Nat) (u : Value), c[j]? = some u → cs[off + j]? = some u
  | [], te, t, off, x, v, cs, hr, hf, hp, hx => by
    simp only [place, Option.some.injEq, Prod.mk.injEq] at hp
    obtain ⟨rfl, rfl⟩ := hp
    have hv : x = v := by cases x <;> simpa [AV.at] using hx
    subst hv
    exact ⟨cs, hr, hf, hr.length_fits hf, fun j u hj => by rwa [Nat.zero_add]⟩
  | k :: r, te, t, off, x, v, cs, hr, hf, hp, hx => by
    cases x with
    | agg t' fs =>
      simp only [AV.at] at hx
      obtain ⟨y, hy, hyv⟩ := Option.bind_eq_some_iff.1 hx
      obtain ⟨rfl, _⟩ := hf
      simp only [place] at hp
      obtain ⟨ts, hts, hp⟩ := Option.bind_eq_some_iff.1 hp
      obtain ⟨ty, hty, hp'⟩ := Option.bind_eq_some_iff.1 hp
      simp only [Option.map_eq_some_iff, Prod.mk.injEq, Prod.exists] at hp'
      obtain ⟨t1, o1, hpl, rfl, rfl⟩ := hp'
      obtain ⟨c1, r1, r2, r3, r4⟩ := hr.part hts hy hty
      obtain ⟨c, g1, g2, g3, g4⟩ := at_rel r ty t1 o1 y v c1 r1 r3 hpl hyv
      refine ⟨c, g1, g2, g3, fun j u hj => ?_⟩
      rw [Nat.add_assoc]
      exact r4 _ _ (g4 j u hj)
    | _ => simp [AV.at] at hx

/-- A live object of the store, as the world has it. -/
theorem StRel.cells (h : StRel P W0 w C σ) {id : Nat} {te : TypeId} {xs : List AV} (hs : σ[id]? = some (some (.cells te xs))) :
    ∃ b base room arr t', C.m id = some (.obj b te base room) ∧ w.heap[b]? = some (.cells arr t' (0, 0)) ∧ arr.size = room ∧ base + xs.length * szOf P te ≤ room ∧
      ∃ cf : Nat → List Value, ∀ (i : Nat) (x : AV), xs[i]? = some x → Rel P w C x (cf i) ∧ (cf i).length = szOf P te ∧ fits P te x ∧ ∀ (j : Nat) (c : Value), (cf i)[j]? = some c → arr[base + i * szOf P te + j]? = some c := by
  have ho := h.obj id
  rw [hs] at ho
  simp only [Option.join_some] at ho
  cases hm : C.m id with
  | none => rw [hm] at ho; exact ho.elim
  | some ow =>
    rw [hm] at ho
    cases ow with
    | obj b te' base room =>
      obtain ⟨rfl, arr, t', h1, h2, h3, h4⟩ := ho
      exact ⟨b, base, room, arr, t', rfl, h1, h2, h3, h4⟩
    | tok => exact ho.elim
    | iter => exact ho.elim
    | mp => exact ho.elim

theorem RelV.ptr_inv {t : TypeId} {id i : Nat} {path : List Nat} {v : Value} (h : RelV P w C (.ptr t id i path) v) :
    ∃ a, v = .pointer (some a) ∧ id < C.nx ∧ ∀ ow, C.m id = some ow → ∃ b te base room off, ow = .obj b te base room ∧ place P te path = some (t, off) ∧ a = ⟨b, base + i * szOf P te + off, none⟩ := by
  have := h.one_inv rfl
  cases this with
  | ptr h1 h2 => exact ⟨_, rfl, h1, h2⟩

theorem look_inv {id i : Nat} {path : List Nat} {v : AV} (h : look σ id i path = some v) : ∃ te xs x, σ[id]? = some (some (.cells te xs)) ∧ xs[i]? = some x ∧ x.at path = some v := by
  unfold look at h
  split at h
  · rename_i te xs hs
    obtain ⟨x, hx, hv⟩ := Option.bind_eq_some_iff.1 h
    exact ⟨te, xs, x, hs, hx, hv⟩
  · cases h

theorem ok_load_ptr {t : TypeId} {id i : Nat} {path : List Nat} {v : AV} {x : Operand} (ho : o.op = .load t x) (hx : Is P W0 o A x (.ptr t id i path)) (hl : look A.st id i path = some v) : ValOk P W0 o A v :=
  .of_same fun w C a hr => by
    obtain ⟨ad, hv, _, hm⟩ := (hx w C a hr).ptr_inv
    obtain ⟨te, xs, y, hs, hy, hyv⟩ := look_inv hl
    obtain ⟨b, base, room, arr, t', m1, m2, m3, m4, cf, m5⟩ := hr.st.cells hs
    obtain ⟨b', te', base', room', off, e1, e2, rfl⟩ := hm _ m1
    cases e1
    obtain ⟨r1, r2, r3, r4⟩ := m5 i y hy
    obtain ⟨c, g1, g2, g3, g4⟩ := at_rel path te t off y v (cf i) r1 r3 e2 hyv
    have hcell : ∀ (j : Nat) (u : Value), c[j]? = some u → w.cell? ⟨b, base + i * szOf P te + off + j, none⟩ = some u := fun j u hj => by
      have := r4 (off + j) u (g4 j u hj)
      rw [← Nat.add_assoc] at this
      simp [World.cell?, m2, this]
    obtain ⟨z, hz, hzr⟩ := run_loadVar_rel g1 g2 hcell
    exact ⟨z, by simp [execOp, ho, Instr.loadAt, Instr.sureAddr, hv, hz], hzr⟩

def isStruct (P : Program) (t : TypeId) : Bool := match P.underlying t with | some (.struct _) => true | _ => false

theorem isStruct_any {s : TypeId} (h : isStruct P s = true) : (P.underlying s).any (fun d => match d with | .struct _ => true | _ => false) = true := by
  unfold isStruct at h
  split at h
  · rename_i hu; simp [hu]
  · cases h

theorem place_snoc : ∀ (path : List Nat) (te t : TypeId) (off : Nat) (k : Nat) (ts : List TypeId) (ty : TypeId), place P te path = some (t, off) → flds P t = some ts → ts[k]? = some ty → place P te (path ++ [k]) = some (ty, off + offAt P ts k)
  | [], te, t, off, k, ts, ty, h, ht, hk => by
    simp only [place, Option.some.injEq, Prod.mk.injEq] at h
    obtain ⟨rfl, rfl⟩ := h
    simp [place, ht, hk]
  | q :: r, te, t, off, k, ts, ty, h, ht, hk => by
    simp only [place] at h
    obtain ⟨ts', hts, hp⟩ := Option.bind_eq_some_iff.1 h
    obtain ⟨ty', hty, hp'⟩ := Option.bind_eq_some_iff.1 hp
    simp only [Option.map_eq_some_iff, Prod.mk.injEq, Prod.exists] at hp'
    obtain ⟨t1, o1, hpl, rfl, rfl⟩ := hp'
    have := place_snoc r ty' t1 o1 k ts ty hpl ht hk
    simp [place, hts, hty, this, Nat.add_assoc]

theorem ok_fieldAddr_ptr {s : TypeId} {ts : List TypeId} {x : Operand} {k id i : Nat} {path : List Nat} {ty : TypeId} (ho : o.op = .fieldAddr s x k) (hx : Is P W0 o A x (.ptr s id i path)) (hst : isStruct P s = true)
    (hts : flds P s = some ts) (hty : ts[k]? = some ty) : ValOk P W0 o A (.ptr ty id i (path ++ [k])) :=
  .of_same fun w C a hr => by
    obtain ⟨ad, hv, hid, hm⟩ := (hx w C a hr).ptr_inv
    rcases flds_inv hts with ⟨fl, hu, e1, e2, e3⟩ | ⟨m, e, hu, _⟩
    case inr => simp [isStruct, hu] at hst
    have hk : k < fl.size := by
      have : k < ts.length := (List.getElem?_eq_some_iff.1 hty).1
      rw [e1] at this; simpa using this
    have hfk : fl[k]? = some fl[k] := Array.getElem?_eq_getElem hk
    obtain ⟨hoff, hpos⟩ := e2 k _ hfk
    obtain ⟨inf, hinf, hsz⟩ := szOf_info hpos
    have hfp : (fieldPlace ad fl[k]).run P w = .ok (ad.add (offAt P ts k)) w := by
      simp [fieldPlace, sizeOf, typeInfo, hinf, hsz, Nat.ne_of_gt hpos, hoff]
    refine ⟨.pointer (some (ad.add (offAt P ts k))), ?_, .one rfl (.ptr hid (fun ow how => ?_))⟩
    · simp [execOp, ho, Instr.fieldAt, run_underlying hu, hfk, Instr.sureAddr, hv, hfp]
    · obtain ⟨b, te, base, room, off, g1, g2, rfl⟩ := hm ow how
      exact ⟨b, te, base, room, off + offAt P ts k, g1, place_snoc path te s off k ts ty g2 hts hty, by rw [Addr.add_lit]; simp⟩

theorem ok_indexAddr_row {t e : TypeId} {x ix : Operand} {k : IntKind} {i : Int} {id off m : Nat} (ho : o.op = .indexAddr t x ix) (hx : Is P W0 o A x (.row e id off m)) (hi : Is P W0 o A ix (.int k i))
    (ht : elT P t = some e) (he : 0 < szOf P e) (h0 : 0 ≤ i) (hm : i.toNat < m) (hlive : ∃ te xs, A.st[id]? = some (some (.cells te xs))) : ValOk P W0 o A (.ptr e id (off + i.toNat) []) :=
  .of_same fun w C a hr => by
    have hxv := (hx w C a hr).one_inv rfl
    have hiv := (hi w C a hr).int_inv
    obtain ⟨te, xs, hs⟩ := hlive
    obtain ⟨b, base, room, arr, t', m1, _⟩ := hr.st.cells hs
    generalize hval : a.eval x = v at hxv
    cases hxv with
    | row h1 h2 h3 h4 =>
      obtain ⟨b', base', room', g1, g2, g3⟩ := h4 _ m1
      cases g1
      have ha := g2 (by omega)
      subst ha
      obtain ⟨inf, hinf, hsz⟩ := szOf_info he
      have hlt' : i < (m : Int) := by omega
      refine ⟨.pointer (some ⟨b, base + off * szOf P e + i.toNat * szOf P e, none⟩), ?_, .one rfl (.ptr h3 (fun ow how => ?_))⟩
      · simp [execOp, ho, Instr.indexAt, hval, hiv, asIntOf, run_underlying (elT_inv ht), h0, hlt', sizeOf, typeInfo, hinf, hsz, Addr.add_lit]
      · rw [m1] at how
        cases how
        exact ⟨b, e, base, room, 0, rfl, rfl, by simp [Nat.add_mul, Nat.add_assoc]⟩

end
end Go.Av
end
section
set_option linter.unusedSimpArgs false
set_option linter.unusedVariables false
namespace Go.Av
open Go

def arrT (P : Program) (t : TypeId) : Option TypeId := match P.underlying t with | some (.array _ e) => some e | _ => none

section
variable {P : Program} {W0 w w' : World} {C C' : Ctx} {σ σ' : Store} {n : Nat} {A : AState} {a : Act} {o : Oper}

theorem arrT_inv {t e : TypeId} (h : arrT P t = some e) {ts : List TypeId} (hts : flds P t = some ts) : ∃ m, P.underlying t = some (.array m e) ∧ ts = List.replicate m e ∧ 0 < szOf P e := by
  unfold arrT at h
  split at h
  · rename_i m e' hu
    cases h
    have hpos := flds_pos hts
    rcases flds_inv hts with ⟨fl, hu', _⟩ | ⟨m', e', hu', h1, h2⟩
    · rw [hu] at hu'; cases hu'
    · rw [hu] at hu'
      cases hu'
      refine ⟨m, hu, h1, ?_⟩
      rcases Nat.eq_zero_or_pos (szOf P e) with h0 | h0
      · rw [h2, h0] at hpos; simp at hpos
      · exact h0
  · cases h

/-- A part of an aggregate's cells is the value that stands there. -/
theorem run_part_rel {t : TypeId} {v : AV} {cs : List Value} {arr : Array Value} {off : Nat} (hr : Rel P w C v cs) (hf : fits P t v) (hc : ∀ (j : Nat) (c : Value), cs[j]? = some c → arr[off + j]? = some c) :
    ∃ x, (part t arr off).run P w = .ok x w ∧ RelV P w C v x := by
  have hlen := hr.length_fits hf
  cases hv : v.isOne with
  | true =>
    obtain ⟨x, rfl⟩ := hr.one_cell hv
    have hp : prim P t = true := by
      cases v <;> simp_all [fits, AV.isOne]
    refine ⟨x, ?_, .one hv hr⟩
    have h0 := hc 0 x (by simp)
    simp only [Nat.add_zero] at h0
    simp [part, (isAgg_of_prim hp w).1, h0]
  | false =>
    cases v <;> simp only [AV.isOne, Bool.true_eq_false] at hv <;> simp only [fits, AV.isOne, Bool.false_eq_true, false_and] at hf
    rename_i t' fs
    obtain ⟨rfl, hf⟩ := hf
    obtain ⟨ts, hts⟩ := Option.isSome_iff_exists.1 hf
    obtain ⟨i, hi, hsz⟩ := szOf_info (flds_pos hts)
    refine ⟨.agg (arr.extract off (off + i.size)), by simp [part, isAgg_of_flds hts w, sizeOf, typeInfo, hi], ?_⟩
    have : arr.extract off (off + i.size) = cs.toArray := by
      refine Array.ext_getElem? fun j => ?_
      rw [hsz]
      by_cases hj : j < cs.length
      · have h1 := List.getElem?_eq_getElem hj
        have h2 := hc j _ h1
        have h3 := (Array.getElem?_eq_some_iff.1 h2).1
        rw [Array.getElem?_extract, if_pos (by omega), h2]
        simp [h1]
      · rw [Array.getElem?_extract]
        have : ¬ j < min (off + szOf P t') arr.size - off := by omega
        rw [if_neg this]
        simp
        omega
    rw [this]
    exact .agg hr

theorem ok_index_arr {t e : TypeId} {ts : List TypeId} {fs : List AV} {x ix : Operand} {k : IntKind} {i : Int} {y : AV} (ho : o.op = .index t x ix) (hx : Is P W0 o A x (.agg t fs)) (hi : Is P W0 o A ix (.int k i))
    (ha : arrT P t = some e) (hts : flds P t = some ts) (h0 : 0 ≤ i) (hy : fs[i.toNat]? = some y) : ValOk P W0 o A y :=
  .of_same fun w C a hr => by
    obtain ⟨cs, hv, hrel⟩ := (hx w C a hr).agg_inv
    have hiv := (hi w C a hr).int_inv
    obtain ⟨m, hu, rfl, hpos⟩ := arrT_inv ha hts
    have hlt : i.toNat < m := by
      have := (List.getElem?_eq_some_iff.1 hy).1
      rw [hrel.agg_length hts] at this
      simpa using this
    obtain ⟨c, r1, r2, r3, r4⟩ := hrel.part hts hy (ty := e) (by simp [hlt])
    obtain ⟨inf, hinf, hsz⟩ := szOf_info hpos
    obtain ⟨z, hz, hzr⟩ := run_part_rel (arr := cs.toArray) (off := i.toNat * szOf P e) r1 r3 (fun j u hj => by
      have := r4 j u hj
      rw [offAt_replicate _ _ _ (by omega)] at this
      simpa using this)
    refine ⟨z, ?_, hzr⟩
    have hlt' : i < (m : Int) := by omega
    simp [execOp, ho, Instr.index, hv, hiv, asIntOf, run_underlying hu, h0, hlt', sizeOf, typeInfo, hinf, hsz, hz]

theorem ok_indexAddr_arrP {t e : TypeId} {ts : List TypeId} {x ix : Operand} {k : IntKind} {i : Int} {id j : Nat} {path : List Nat} (ho : o.op = .indexAddr t x ix) (hx : Is P W0 o A x (.ptr t id j path)) (hi : Is P W0 o A ix (.int k i))
    (ha : arrT P t = some e) (hts : flds P t = some ts) (h0 : 0 ≤ i) (hlt : i.toNat < ts.length) : ValOk P W0 o A (.ptr e id j (path ++ [i.toNat])) :=
  .of_same fun w C a hr => by
    obtain ⟨ad, hv, hid, hm⟩ := (hx w C a hr).ptr_inv
    have hiv := (hi w C a hr).int_inv
    obtain ⟨m, hu, rfl, hpos⟩ := arrT_inv ha hts
    simp only [List.length_replicate] at hlt
    obtain ⟨inf, hinf, hsz⟩ := szOf_info hpos
    have hlt' : i < (m : Int) := by omega
    refine ⟨.pointer (some (ad.add (i.toNat * szOf P e))), ?_, .one rfl (.ptr hid (fun ow how => ?_))⟩
    · simp [execOp, ho, Instr.indexAt, hv, hiv, asIntOf, run_underlying hu, h0, hlt', sizeOf, typeInfo, hinf, hsz, Instr.sureAddr]
    · obtain ⟨b, te, base, room, off, g1, g2, rfl⟩ := hm ow how
      refine ⟨b, te, base, room, off + offAt P (List.replicate m e) i.toNat, g1, place_snoc path te t off i.toNat _ e g2 hts (by simp [hlt]), ?_⟩
      rw [offAt_replicate _ _ _ (by omega), Addr.add_lit]
      simp

theorem ok_indexAddr_arrL {t e : TypeId} {ts : List TypeId} {fs : List AV} {x ix : Operand} {k : IntKind} {i : Int} {y : AV} (ho : o.op = .indexAddr t x ix) (hx : Is P W0 o A x (.loc t (.agg t fs))) (hi : Is P W0 o A ix (.int k i))
    (ha : arrT P t = some e) (hts : flds P t = some ts) (h0 : 0 ≤ i) (hy : fs[i.toNat]? = some y) : ValOk P W0 o A (.loc e y) :=
  .of_same fun w C a hr => by
    obtain ⟨b, off, cs, hv, h1, h2, h3, h4⟩ := (hx w C a hr).loc_inv
    have hiv := (hi w C a hr).int_inv
    obtain ⟨m, hu, rfl, hpos⟩ := arrT_inv ha hts
    have hlt : i.toNat < m := by
      have := (List.getElem?_eq_some_iff.1 hy).1
      rw [h1.agg_length hts] at this
      simpa using this
    obtain ⟨c, r1, r2, r3, r4⟩ := h1.part hts hy (ty := e) (by simp [hlt])
    obtain ⟨inf, hinf, hsz⟩ := szOf_info hpos
    have hlt' : i < (m : Int) := by omega
    refine ⟨.pointer (some ⟨b, off + i.toNat * szOf P e, none⟩), ?_, .one rfl (.loc r1 r3 r2 (fun j u hj => ?_))⟩
    · simp [execOp, ho, Instr.indexAt, hv, hiv, asIntOf, run_underlying hu, h0, hlt', sizeOf, typeInfo, hinf, hsz, Instr.sureAddr, Addr.add_lit]
    · have := h4 (offAt P (List.replicate m e) i.toNat + j) u (r4 j u hj)
      rwa [offAt_replicate _ _ _ (by omega), ← Nat.add_assoc] at this

end
end Go.Av
end
