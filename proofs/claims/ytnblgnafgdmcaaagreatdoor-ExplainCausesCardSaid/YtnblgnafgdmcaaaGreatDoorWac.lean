/- Texts that the last one of this claim rests on: a layer over the guide's own conditions for code; contracts of the functions that the law reaches, one by one. No conditions beside those of the given rows. -/
import Derived.Laws.StructEq
import Derived.Laws.Concat
import Derived.Test.YtnblgnafgdmcaaaGreatDoorWab
section
set_option linter.unusedSimpArgs false
set_option linter.unusedVariables false
namespace Go.Av
open Go
set_option linter.unusedSimpArgs false

def intBin (op : BinOp) (k : IntKind) (a b : Int) : Option AV :=
  match op with
  | .add => some (.int k (k.wrap (a + b)))
  | .sub => some (.int k (k.wrap (a - b)))
  | .mul => some (.int k (k.wrap (a * b)))
  | .eql => some (.bool (a == b))
  | .neq => some (.bool (a != b))
  | .lss => some (.bool (decide (a < b)))
  | .leq => some (.bool (decide (a ≤ b)))
  | .gtr => some (.bool (decide (b < a)))
  | .geq => some (.bool (decide (b ≤ a)))
  | .quo => if b = 0 then none else some (.int k (k.wrap (a.tdiv b)))
  | .rem => if b = 0 then none else some (.int k (a.tmod b))
  | .and => some (.int k (bits .and k a b))
  | .or => some (.int k (bits .or k a b))
  | .xor => some (.int k (bits .xor k a b))
  | .andNot => some (.int k (bits .andNot k a b))
  | _ => none

def shBin (op : BinOp) (k : IntKind) (a b : Int) : Option AV :=
  if b < 0 then none else match op with
  | .shl => some (.int k (k.wrap (a * 2 ^ (min b.toNat k.bits))))
  | .shr => some (.int k (a.fdiv (2 ^ (min b.toNat k.bits))))
  | _ => none
def isSh : BinOp → Bool
  | .shl | .shr => true
  | _ => false

def strBin (op : BinOp) (a b : List UInt8) : Option AV :=
  match op with
  | .add => if a.length + b.length ≤ maxLen then some (.str (a ++ b)) else none
  | .eql => some (.bool (a == b))
  | .neq => some (.bool (!(a == b)))
  | .lss => some (.bool (Op.bytesLess a b))
  | .leq => some (.bool (Op.bytesLess a b || a == b))
  | .gtr => some (.bool (!(Op.bytesLess a b || a == b)))
  | .geq => some (.bool (!Op.bytesLess a b))
  | _ => none

/-- A pointer of whatever kind that isn't nil. -/
def AV.isPtr : AV → Bool
  | .loc _ _ | .ptr _ _ _ _ | .it _ => true
  | _ => false

def isPtrT (P : Program) (t : TypeId) : Bool := match P.underlying t with | some (.pointer _) => true | _ => false
def isBoolT (P : Program) (t : TypeId) : Bool := match P.underlying t with | some .bool => true | _ => false

/-- A list that isn't empty, of whatever kind. -/
def AV.isFull : AV → Bool
  | .sl _ (_ :: _) | .lit _ (_ :: _) | .own _ (_ :: _) _ => true
  | _ => false

/-- x == y of two that aren't numbers or texts. -/
def eqAV (P : Program) (t : TypeId) : AV → AV → Option Bool
  | .bool a, .bool b => if isBoolT P t then some (a == b) else none
  | .nils, .nils => if (elT P t).isSome then some true else none
  | .nils, y => if (elT P t).isSome && y.isFull then some false else none
  | x, .nils => if (elT P t).isSome && x.isFull then some false else none
  | .nil, .nil => if isPtrT P t then some true else none
  | .nil, y => if isPtrT P t && y.isPtr then some false else none
  | x, .nil => if isPtrT P t && x.isPtr then some false else none
  | _, _ => none

/-- Two values of a plain type. -/
def eq1 (P : Program) (ty : TypeId) (x y : AV) : Option Bool :=
  match P.underlying ty, x, y with
  | some (.int _), .int k a, .int k' b => if k = k' then some (a == b) else none
  | some .string, .str a, .str b => some (a == b)
  | some .bool, .bool a, .bool b => some (a == b)
  | _, _, _ => none
def eqFs (P : Program) : List TypeId → List AV → List AV → Option Bool
  | [], [], [] => some true
  | ty :: ts, x :: xs, y :: ys => (eq1 P ty x y).bind fun b => (eqFs P ts xs ys).map fun c => b && c
  | _, _, _ => none
/-- Two structs of plain fields. -/
def eqAgg (P : Program) (t : TypeId) (fs gs : List AV) : Option Bool :=
  match P.underlying t with
  | some (.struct fl) => if fl.toList.all (fun f => f.name != "_") && (!P.stoodInHeld t && !P.eqGuardType P.depth t) then (flds P t).bind fun ts => eqFs P ts fs gs else none
  | _ => none

def abin (P : Program) (op : BinOp) (t : TypeId) (x y : AV) : Option AV :=
  match x, y with
  | .int k a, .int k' b => if isSh op = true then shBin op k a b else if k = k' then intBin op k a b else none
  | .str a, .str b => strBin op a b
  | .agg t1 fs, .agg t2 gs => if t1 = t ∧ t2 = t then (match op with
    | .eql => (eqAgg P t fs gs).map .bool
    | .neq => (eqAgg P t fs gs).map fun b => .bool (!b)
    | _ => none) else none
  | x, y => match op with
    | .eql => (eqAV P t x y).map .bool
    | .neq => (eqAV P t x y).map fun b => .bool (!b)
    | _ => none

section
variable {P : Program} {W0 w w' : World} {C C' : Ctx} {σ σ' : Store} {n : Nat} {A : AState} {a : Act} {o : Oper}

theorem RelV.isPtr {x : AV} {v : Value} (h : RelV P w C x v) (hp : x.isPtr = true) : ∃ ad, v = .pointer (some ad) := by
  cases x <;> simp [AV.isPtr] at hp
  all_goals
    have := h.one_inv rfl
    cases this
    exact ⟨_, rfl⟩

theorem eqAt_bool {t : TypeId} (d : Nat) (hu : P.underlying t = some .bool) (p q : Bool) (w : World) : (Op.equalIn (d + 1) t (.bool p) (.bool q)).run P w = .ok (p == q) w := by
  simp [Op.equalIn, run_underlying hu]
theorem eqAt_nil {t e : TypeId} (d : Nat) (hu : P.underlying t = some (.pointer e)) (w : World) : (Op.equalIn (d + 1) t (.pointer none) (.pointer none)).run P w = .ok true w := by
  simp [Op.equalIn, run_underlying hu]
theorem eqAt_nilL {t e : TypeId} (d : Nat) (hu : P.underlying t = some (.pointer e)) (ad : Addr) (w : World) : (Op.equalIn (d + 1) t (.pointer none) (.pointer (some ad))).run P w = .ok false w := by
  simp [Op.equalIn, run_underlying hu]
theorem eqAt_nilR {t e : TypeId} (d : Nat) (hu : P.underlying t = some (.pointer e)) (ad : Addr) (w : World) : (Op.equalIn (d + 1) t (.pointer (some ad)) (.pointer none)).run P w = .ok false w := by
  simp [Op.equalIn, run_underlying hu]

theorem eqAt_nils {t e : TypeId} (d : Nat) (hu : P.underlying t = some (.slice e)) (w : World) : (Op.equalIn (d + 1) t (.slice none 0 0) (.slice none 0 0)).run P w = .ok true w := by
  simp [Op.equalIn, run_underlying hu]
theorem eqAt_nilsL {t e : TypeId} (d : Nat) (hu : P.underlying t = some (.slice e)) (ad : Addr) (l c : Nat) (w : World) : (Op.equalIn (d + 1) t (.slice none 0 0) (.slice (some ad) l c)).run P w = .ok false w := by
  simp [Op.equalIn, run_underlying hu]
theorem eqAt_nilsR {t e : TypeId} (d : Nat) (hu : P.underlying t = some (.slice e)) (ad : Addr) (l c : Nat) (w : World) : (Op.equalIn (d + 1) t (.slice (some ad) l c) (.slice none 0 0)).run P w = .ok false w := by
  simp [Op.equalIn, run_underlying hu]
theorem RelV.isFull {x : AV} {v : Value} (h : RelV P w C x v) (hp : x.isFull = true) : ∃ ad l c, v = .slice (some ad) l c := by
  have key : ∀ e xs, (x = .sl e xs ∨ x = .lit e xs ∨ ∃ tok, x = .own e xs tok) → 0 < xs.length → x.isOne = true → ∃ ad l c, v = .slice (some ad) l c := fun e xs hx hl ho => by
    obtain ⟨ad, cap, cf, hv, _, _, _, _, h5⟩ := (h.one_inv ho).sl_of hx
    obtain ⟨b, off, rfl, _⟩ := h5 hl
    exact ⟨_, _, _, hv⟩
  unfold AV.isFull at hp
  split at hp
  · exact key _ _ (.inl rfl) (by simp) rfl
  · exact key _ _ (.inr (.inl rfl)) (by simp) rfl
  · exact key _ _ (.inr (.inr ⟨_, rfl⟩)) (by simp) rfl
  · cases hp
theorem eqGuard_slice (op : BinOp) (t : TypeId) (x y : Operand) (b : Option Addr) (l c : Nat) (v : Value) (w : World) : (eqGuard op t x y (.slice b l c) v).run P w = .ok () w := by
  cases op <;> simp [eqGuard]

/-- A value on which '==' and '!=' are plain. -/
def Value.plainEq : Value → Bool
  | .bool _ | .pointer _ | .slice _ _ _ => true
  | _ => false

theorem eqAV_rel {t : TypeId} {x y : AV} {u v : Value} {b : Bool} (h : eqAV P t x y = some b) (hx : RelV P w C x u) (hy : RelV P w C y v) :
    (Op.equal t u v).run P w = .ok b w ∧ Value.plainEq u = true := by
  show (Op.equalIn (9999 + 1) t u v).run P w = .ok b w ∧ Value.plainEq u = true
  have hptr : isPtrT P t = true → ∃ e, P.underlying t = some (.pointer e) := fun hp => by
    unfold isPtrT at hp
    split at hp
    · exact ⟨_, by assumption⟩
    · cases hp
  unfold eqAV at h
  split at h
  · split at h
    · rename_i hb
      simp only [Option.some.injEq] at h
      subst h
      have hu : P.underlying t = some .bool := by
        unfold isBoolT at hb
        split at hb
        · assumption
        · cases hb
      rw [hx.bool_inv, hy.bool_inv]
      exact ⟨eqAt_bool _ hu _ _ _, rfl⟩
    · cases h
  · split at h
    · rename_i hp
      simp only [Option.some.injEq] at h
      subst h
      obtain ⟨e, hu⟩ := Option.isSome_iff_exists.1 hp
      rw [hx.nils_inv, hy.nils_inv]
      exact ⟨eqAt_nils _ (elT_inv hu) _, rfl⟩
    · cases h
  · split at h
    · rename_i hp
      simp only [Bool.and_eq_true] at hp
      simp only [Option.some.injEq] at h
      subst h
      obtain ⟨e, hu⟩ := Option.isSome_iff_exists.1 hp.1
      obtain ⟨ad, l, c, rfl⟩ := hy.isFull hp.2
      rw [hx.nils_inv]
      exact ⟨eqAt_nilsL _ (elT_inv hu) _ _ _ _, rfl⟩
    · cases h
  · split at h
    · rename_i hp
      simp only [Bool.and_eq_true] at hp
      simp only [Option.some.injEq] at h
      subst h
      obtain ⟨e, hu⟩ := Option.isSome_iff_exists.1 hp.1
      obtain ⟨ad, l, c, rfl⟩ := hx.isFull hp.2
      rw [hy.nils_inv]
      exact ⟨eqAt_nilsR _ (elT_inv hu) _ _ _ _, rfl⟩
    · cases h
  · split at h
    · rename_i hp
      simp only [Option.some.injEq] at h
      subst h
      obtain ⟨e, hu⟩ := hptr hp
      rw [hx.nil_inv, hy.nil_inv]
      exact ⟨eqAt_nil _ hu _, rfl⟩
    · cases h
  · split at h
    · rename_i hp
      simp only [Bool.and_eq_true] at hp
      simp only [Option.some.injEq] at h
      subst h
      obtain ⟨e, hu⟩ := hptr hp.1
      obtain ⟨ad, rfl⟩ := hy.isPtr hp.2
      rw [hx.nil_inv]
      exact ⟨eqAt_nilL _ hu _ _, rfl⟩
    · cases h
  · split at h
    · rename_i hp
      simp only [Bool.and_eq_true] at hp
      simp only [Option.some.injEq] at h
      subst h
      obtain ⟨e, hu⟩ := hptr hp.1
      obtain ⟨ad, rfl⟩ := hx.isPtr hp.2
      rw [hy.nil_inv]
      exact ⟨eqAt_nilR _ hu _ _, rfl⟩
    · cases h
  · cases h

theorem intBin_rel {op : BinOp} {t : TypeId} {k : IntKind} {p q : Int} {v : AV} (h : intBin op k p q = some v) (w : World) :
    ∃ x, (binOp op t (.int k p) (.int k q)).run P w = .ok x w ∧ RelV P w C v x := by
  by_cases h0 : q = 0
  · subst h0
    cases op <;> simp only [intBin, if_true, Option.some.injEq, reduceCtorEq] at h <;> subst h
    all_goals first
      | exact ⟨_, by simp [go_sem], .one rfl (.int _ _)⟩
      | exact ⟨_, by simp [go_sem], .one rfl (.bool _)⟩
  cases op <;> simp only [intBin, h0, if_false, Option.some.injEq, reduceCtorEq] at h <;> subst h
  all_goals first
    | exact ⟨_, by simp [go_sem, h0], .one rfl (.int _ _)⟩
    | exact ⟨_, by simp [go_sem, h0], .one rfl (.bool _)⟩

theorem shBin_rel {op : BinOp} {t : TypeId} {k k' : IntKind} {p q : Int} {v : AV} (h : shBin op k p q = some v) (w : World) :
    ∃ x, (binOp op t (.int k p) (.int k' q)).run P w = .ok x w ∧ RelV P w C v x := by
  unfold shBin at h
  split at h
  · cases h
  · rename_i h0
    cases op <;> simp only [Option.some.injEq, reduceCtorEq] at h <;> subst h
    · exact ⟨_, by simp only [binOp, Op.shift, h0, if_false]; rfl, .one rfl (.int _ _)⟩
    · exact ⟨_, by simp only [binOp, Op.shift, h0, if_false]; rfl, .one rfl (.int _ _)⟩

theorem strBin_rel {op : BinOp} {t : TypeId} {p q : List UInt8} {v : AV} (h : strBin op p q = some v) (w : World) :
    ∃ x, (binOp op t (.string ⟨p.toArray⟩) (.string ⟨q.toArray⟩)).run P w = .ok x w ∧ RelV P w C v x := by
  have hl : ∀ l : List UInt8, (⟨l.toArray⟩ : ByteArray).toList = l := fun l => by
    simp [ByteArray.toList_eq]
  by_cases ha : op = .add
  · subst ha
    simp only [strBin] at h
    split at h
    · rename_i hle
      cases h
      refine ⟨_, ?_, .one rfl (.str (l := p ++ q) (by simpa using hle))⟩
      have hn : ¬ ((((⟨p.toArray⟩ : ByteArray).size + (⟨q.toArray⟩ : ByteArray).size : Nat) : Int) > IntKind.i64.max) := by
        show ¬ (((p.toArray.size + q.toArray.size : Nat) : Int) > 9223372036854775807)
        simp only [List.size_toArray]
        unfold maxLen at hle
        omega
      simp only [binOp, Op.stringOp, hn, if_false]
      rw [ByteArray.mk_append_mk]
      rfl
    · cases h
  cases op <;> simp only [strBin, Option.some.injEq, reduceCtorEq, not_true_eq_false] at h ha <;> subst h
  all_goals exact ⟨_, by simp only [binOp, Op.stringOp, hl]; rfl, .one rfl (.bool _)⟩

theorem eq1_run {ty : TypeId} {x y : AV} {b : Bool} (h : eq1 P ty x y = some b) : x.isOne = true ∧ y.isOne = true ∧ (∀ (d : Nat) (v v' : Value), Rel P w C x [v] → Rel P w C y [v'] → (Op.equalIn (d + 1) ty v v').run P w = .ok b w) ∧
    ∀ (cs : Array Value) (off : Nat) (v : Value), cs[off]? = some v → (Go.part ty cs off).run P w = .ok v w := by
  unfold eq1 at h
  split at h
  · rename_i k0 k a k' b' hu
    split at h
    · rename_i hk
      subst hk
      cases h
      refine ⟨rfl, rfl, fun d v v' hv hv' => ?_, fun cs off v hv => by simp [Go.part, isAgg, run_underlying hu, hv]⟩
      cases hv; cases hv'
      exact run_equalIn_int w d ty _ _ _ _ hu
    · cases h
  · rename_i a b' hu
    cases h
    refine ⟨rfl, rfl, fun d v v' hv hv' => ?_, fun cs off v hv => by simp [Go.part, isAgg, run_underlying hu, hv]⟩
    cases hv; cases hv'
    rw [run_equalIn_string w d ty _ _ hu]
    simp [ByteArray.toList_eq]
  · rename_i a b' hu
    cases h
    refine ⟨rfl, rfl, fun d v v' hv hv' => ?_, fun cs off v hv => by simp [Go.part, isAgg, run_underlying hu, hv]⟩
    cases hv; cases hv'
    exact run_equalIn_bool' w d ty _ _ hu
  · cases h

theorem eqFs_run (d : Nat) {cs ds : List Value} : ∀ (fl : List Field) (xs ys : List AV) (b : Bool), fl.all (fun f => f.name != "_") = true →
    (∀ (i : Nat) (f : Field) (x : AV), fl[i]? = some f → xs[i]? = some x → x.isOne = true → ∃ v, Rel P w C x [v] ∧ cs[f.offset]? = some v) → (∀ (i : Nat) (f : Field) (x : AV), fl[i]? = some f → ys[i]? = some x → x.isOne = true → ∃ v, Rel P w C x [v] ∧ ds[f.offset]? = some v) →
    eqFs P (fl.map (·.type)) xs ys = some b → (Op.eqFields (d + 1) cs.toArray ds.toArray fl).run P w = .ok b w
  | [], xs, ys, b, _, _, _, h => by
    rcases xs with _ | ⟨x, xs⟩ <;> rcases ys with _ | ⟨y, ys⟩ <;> simp [eqFs] at h
    subst h
    simp [Op.eqFields]
  | f :: fl, xs, ys, b, hn, hx, hy, h => by
    rcases xs with _ | ⟨x, xs⟩ <;> rcases ys with _ | ⟨y, ys⟩ <;> simp only [List.map_cons, eqFs, reduceCtorEq] at h
    rw [List.all_cons, Bool.and_eq_true, bne_iff_ne] at hn
    cases h1 : eq1 P f.type x y with
    | none => rw [h1] at h; cases h
    | some b1 =>
      rw [h1, Option.bind_some] at h
      cases h2 : eqFs P (fl.map (·.type)) xs ys with
      | none => rw [h2] at h; cases h
      | some b2 =>
        rw [h2, Option.map_some] at h
        cases h
        obtain ⟨o1, o2, r1, r2⟩ := eq1_run (P := P) (w := w) (C := C) h1
        obtain ⟨v, hv, hc⟩ := hx 0 f x rfl rfl o1
        obtain ⟨v', hv', hc'⟩ := hy 0 f y rfl rfl o2
        have ih := eqFs_run d fl xs ys b2 hn.2 (fun i g z hg hz => hx (i + 1) g z (by simpa using hg) (by simpa using hz)) (fun i g z hg hz => hy (i + 1) g z (by simpa using hg) (by simpa using hz)) h2
        simp only [Op.eqFields, hn.1, ne_eq, not_false_eq_true, if_true, Sem.run_bind, r2 cs.toArray f.offset v (by simpa using hc), r2 ds.toArray f.offset v' (by simpa using hc'), Result.andThen_ok, r1 d v v' hv hv']
        cases b1
        · simp
        · simpa using ih

theorem eqAgg_rel {t : TypeId} {fs gs : List AV} {u u' : Value} {b : Bool} (h : eqAgg P t fs gs = some b) (hx : RelV P w C (.agg t fs) u) (hy : RelV P w C (.agg t gs) u') (op : BinOp) (ox oy : Operand) :
    (eqGuard op t ox oy u u').run P w = .ok () w ∧ (Op.equalIn 10000 t u u').run P w = .ok b w ∧ ∃ cs ds, u = .agg cs ∧ u' = .agg ds := by
  obtain ⟨cs, rfl, h1⟩ := hx.agg_inv
  obtain ⟨ds, rfl, h2⟩ := hy.agg_inv
  unfold eqAgg at h
  split at h
  · rename_i fl hu
    split at h
    · rename_i hok
      simp only [Bool.and_eq_true, Bool.not_eq_true'] at hok
      obtain ⟨hnm, hst, hg⟩ := hok
      cases hf : flds P t with
      | none => rw [hf] at h; cases h
      | some ts =>
        rw [hf, Option.bind_some] at h
        refine ⟨run_eqGuard_agg w op t ox oy _ _ hg, ?_, _, _, rfl, rfl⟩
        have hfo : P.fieldsOf t = fl := by simp [Program.fieldsOf, hu]
        rw [run_equalIn_struct w 9999 t _ _ (by rw [hfo]; exact hu) hst, hfo]
        rcases flds_inv hf with ⟨fl', hu', e1, e2, e3⟩ | ⟨m, e, hu', _⟩
        case inr => rw [hu] at hu'; cases hu'
        rw [hu] at hu'
        cases hu'
        have hts : ts = fl.toList.map (·.type) := by rw [e1]
        have key : ∀ {zs : List AV} {es : List Value}, Rel P w C (.agg t zs) es → ∀ (i : Nat) (f : Field) (x : AV), fl.toList[i]? = some f → zs[i]? = some x → x.isOne = true → ∃ v, Rel P w C x [v] ∧ es[f.offset]? = some v := fun {zs es} hz i f x hfi hxi ho => by
          have hty : ts[i]? = some f.type := by rw [hts, List.getElem?_map, hfi]; rfl
          obtain ⟨c, r1, r2, r3, r4⟩ := hz.part hf hxi hty
          obtain ⟨v, rfl⟩ := r1.one_cell ho
          have := r4 0 v rfl
          obtain ⟨hoff, _⟩ := e2 i f (by simpa using hfi)
          refine ⟨v, r1, ?_⟩
          rw [hoff]
          simpa using this
        rw [hts] at h
        exact eqFs_run 9998 fl.toList fs gs b hnm (key h1) (key h2) h
    · cases h
  · cases h

theorem abin_rel {op : BinOp} {t : TypeId} {x y v : AV} {u u' : Value} (h : abin P op t x y = some v) (hx : RelV P w C x u) (hy : RelV P w C y u') (ox oy : Operand) :
    ∃ z, (do eqGuard op t ox oy u u'; binOp op t u u').run P w = .ok z w ∧ RelV P w C v z := by
  unfold abin at h
  split at h
  · split at h
    · rename_i k p k' q hs
      rw [hx.int_inv, hy.int_inv, Sem.run_bind, show eqGuard op t ox oy (.int k p) (.int k' q) = pure () from by cases op <;> simp [isSh] at hs <;> simp [eqGuard]; ]
      exact shBin_rel h w
    split at h
    · rename_i k p k' q _ hk
      subst hk
      rw [hx.int_inv, hy.int_inv, eqGuard_at_int]
      exact intBin_rel h w
    · cases h
  · rw [hx.str_inv.1, hy.str_inv.1, eqGuard_at_string]
    exact strBin_rel h w
  · split at h
    · rename_i t1 fs t2 gs ht
      obtain ⟨rfl, rfl⟩ := ht
      split at h
      · cases hb : eqAgg P t2 fs gs with
        | none => rw [hb] at h; cases h
        | some b =>
          rw [hb] at h
          cases h
          obtain ⟨g1, g2, cs, ds, rfl, rfl⟩ := eqAgg_rel hb hx hy .eql ox oy
          refine ⟨.bool b, ?_, .one rfl (.bool _)⟩
          rw [Sem.run_bind, g1, Result.andThen_ok, run_eql_struct, g2]
          rfl
      · cases hb : eqAgg P t2 fs gs with
        | none => rw [hb] at h; cases h
        | some b =>
          rw [hb] at h
          cases h
          obtain ⟨g1, g2, cs, ds, rfl, rfl⟩ := eqAgg_rel hb hx hy .neq ox oy
          refine ⟨.bool (!b), ?_, .one rfl (.bool _)⟩
          rw [Sem.run_bind, g1, Result.andThen_ok, run_neq_struct, g2]
          rfl
      · cases h
    · cases h
  · rename_i h1 h2
    have key : ∀ b, eqAV P t x y = some b → (do eqGuard op t ox oy u u'; (pure () : Sem Unit)).run P w = .ok () w ∧ (Op.equal t u u').run P w = .ok b w ∧ Value.plainEq u = true := fun b hb => by
      obtain ⟨e1, e2⟩ := eqAV_rel hb hx hy
      refine ⟨?_, e1, e2⟩
      cases u <;> simp [Value.plainEq] at e2
      · rw [eqGuard_at_bool]; rfl
      · rw [eqGuard_at_pointer]; rfl
      · rw [Sem.run_bind, eqGuard_slice]; rfl
    split at h
    · cases hb : eqAV P t x y with
      | none => simp [hb] at h
      | some b =>
        simp [hb] at h
        subst h
        obtain ⟨g1, g2, g3⟩ := key b hb
        refine ⟨.bool b, ?_, .one rfl (.bool _)⟩
        cases u <;> simp [Value.plainEq] at g3
        · simp [eqGuard_at_bool, binOp, g2]
        · cases u' <;> simp [eqGuard_at_pointer, binOp, g2]
        · cases u' <;> simp [eqGuard_slice, binOp, g2]
    · cases hb : eqAV P t x y with
      | none => simp [hb] at h
      | some b =>
        simp [hb] at h
        subst h
        obtain ⟨g1, g2, g3⟩ := key b hb
        refine ⟨.bool (!b), ?_, .one rfl (.bool _)⟩
        cases u <;> simp [Value.plainEq] at g3
        · simp [eqGuard_at_bool, binOp, g2]
        · cases u' <;> simp [eqGuard_at_pointer, binOp, g2]
        · cases u' <;> simp [eqGuard_slice, binOp, g2]
    · cases h

theorem ok_binOp {op : BinOp} {t t' : TypeId} {x y : Operand} {u v z : AV} (ho : o.op = .binOp op t x y t') (hx : Is P W0 o A x u) (hy : Is P W0 o A y v) (hb : abin P op t u v = some z) : ValOk P W0 o A z :=
  .of_same fun w C a hr => by
    have h1 := hx w C a hr
    have h2 := hy w C a hr
    obtain ⟨r, h3, h4⟩ := abin_rel hb h1 h2 x y
    refine ⟨r, ?_, h4⟩
    simp only [execOp, ho, Sem.run_bind, h3, Result.andThen_ok, Sem.run_pure]

end
end Go.Av
end
section
set_option linter.unusedSimpArgs false
set_option linter.unusedVariables false
namespace Go.Av
open Go

/-- 'c ? x : y' of two Bools, in the forms that '&&' and '||' have. -/
def pickB (c x y : Bool) : Bool := if c then x else y
theorem pickB_false (c x : Bool) : pickB c x false = (c && x) := by cases c <;> rfl
theorem pickB_true (c y : Bool) : pickB c true y = (c || y) := by cases c <;> rfl

def pickAV (c : Bool) (x y : AV) : AV :=
  match x, y with
  | .bool p, .bool q => .bool (pickB c p q)
  | x, y => if c then x else y

section
variable {P : Program} {W0 w w' : World} {C C' : Ctx} {σ σ' : Store} {n : Nat} {A : AState} {a : Act} {o : Oper}

theorem pickAV_rel {c : Bool} {x y : AV} {u v : Value} (hx : c = true → RelV P w C x u) (hy : c = false → RelV P w C y v) : RelV P w C (pickAV c x y) (if c then u else v) := by
  unfold pickAV
  split
  · rename_i p q
    cases c
    · have := hy rfl; simpa [pickB] using this
    · have := hx rfl; simpa [pickB] using this
  · cases c
    · simpa using hy rfl
    · simpa using hx rfl

theorem ok_pick {c x y : Operand} {b : Bool} {u v : AV} (ho : o.op = .pick c x y) (hc : Is P W0 o A c (.bool b))
    (hx : b = true → Is P W0 o A x u) (hy : b = false → Is P W0 o A y v) : ValOk P W0 o A (pickAV b u v) :=
  .of_same fun w C a hr => by
    have h := (hc w C a hr).bool_inv
    refine ⟨if b then a.eval x else a.eval y, ?_, pickAV_rel (fun h => hx h w C a hr) (fun h => hy h w C a hr)⟩
    simp [execOp, ho, h, asBool]

theorem ok_not {t : TypeId} {x : Operand} {b : Bool} (ho : o.op = .unOp .not t x) (hx : Is P W0 o A x (.bool b)) : ValOk P W0 o A (.bool (!b)) :=
  .of_same fun w C a hr => by
    have h := hx w C a hr
    exact ⟨.bool (!b), by simp [execOp, ho, h.bool_inv, Op.unary], .one rfl (.bool _)⟩

theorem ok_neg {t : TypeId} {x : Operand} {k : IntKind} {m : Int} (ho : o.op = .unOp .neg t x) (hx : Is P W0 o A x (.int k m)) : ValOk P W0 o A (.int k (k.wrap (-m))) :=
  .of_same fun w C a hr => by
    have h := hx w C a hr
    exact ⟨.int k (k.wrap (-m)), by simp [execOp, ho, h.int_inv, Op.unary, Op.intArith], .one rfl (.int _ _)⟩

theorem ok_extract {x : Operand} {as : List AV} {k : Nat} {v : AV} (ho : o.op = .extract x k) (hx : Is P W0 o A x (.tup as)) (hv : as[k]? = some v) : ValOk P W0 o A v :=
  .of_same fun w C a hr => by
    have h := hx w C a hr
    obtain ⟨vs, e1, e2, e3⟩ := h.tup_inv
    have hk : k < vs.length := by rw [← e2]; exact (List.getElem?_eq_some_iff.1 hv).1
    exact ⟨vs[k], by simp [execOp, ho, e1, Instr.extract, hk], e3 k v _ hv (List.getElem?_eq_getElem hk)⟩

theorem ok_nilCheck {x : Operand} {v : AV} (ho : o.op = .nilCheck x) (hx : Is P W0 o A x v) (hp : v.isPtr = true) : ValOk P W0 o A v :=
  .of_same fun w C a hr => by
    have h := hx w C a hr
    obtain ⟨ad, had⟩ := h.isPtr hp
    exact ⟨.pointer (some ad), by simp [execOp, ho, had], by rw [← had]; exact h⟩

theorem ok_convert {s d : TypeId} {x : Operand} {k k' : IntKind} {m : Int} (ho : o.op = .convert s d x) (hx : Is P W0 o A x (.int k m)) (hs : (P.underlying s).isSome = true) (hd : P.underlying d = some (.int k')) :
    ValOk P W0 o A (.int k' (k'.wrap m)) :=
  .of_same fun w C a hr => by
    have h := hx w C a hr
    have hik : P.intKind d = k' := by simp [Program.intKind, hd]
    refine ⟨.int k' (k'.wrap m), ?_, .one rfl (.int _ _)⟩
    have := run_convert_int (P := P) w s d k m hs (by rw [hik]; exact hd)
    rw [hik] at this
    simp [execOp, ho, h.int_inv, this]

/-- Several operands read as these. -/
def IsL (P : Program) (W0 : World) (o : Oper) (A : AState) (xs : List Operand) (us : List AV) : Prop := xs.length = us.length ∧ ∀ (i : Nat) (x : Operand) (u : AV), xs[i]? = some x → us[i]? = some u → Is P W0 o A x u

theorem ok_makeFunc {f : FuncId} {caps : Array Operand} {vs : List AV} (ho : o.op = .makeFunc (.func f) #[] caps) (hv : IsL P W0 o A caps.toList vs) (h1 : vs.all AV.isOne = true) : ValOk P W0 o A (.fn f vs) :=
  .of_same fun w C a hr => by
    refine ⟨.func (.func f) #[] (caps.toList.map a.eval).toArray, ?_, .one rfl (.fn (by simp [← hv.1]) (fun i c hc => ?_) (fun i c v hc hi => ?_))⟩
    · have e : Array.map a.eval caps = (caps.toList.map a.eval).toArray := by rw [← Array.toList_map]
      simp [execOp, ho, Instr.makeFunc, e]
    · exact List.all_eq_true.1 h1 c (List.mem_of_getElem? hc)
    · have hone := List.all_eq_true.1 h1 c (List.mem_of_getElem? hc)
      simp only [List.getElem?_map, Option.map_eq_some_iff] at hi
      obtain ⟨y, hy, rfl⟩ := hi
      exact (hv.2 i y c hy hc w C a hr).one_inv hone

/-- How long a slice or a text is, where that is known. -/
def AV.lenOf : AV → Option Nat
  | .sl _ xs | .lit _ xs | .own _ xs _ => some xs.length
  | .nils => some 0
  | .row _ _ _ n => some n
  | _ => none

theorem RelV.slice_inv {x : AV} {v : Value} {m : Nat} (h : RelV P w C x v) (hl : x.lenOf = some m) : ∃ ad cap, v = .slice ad m cap ∧ m ≤ cap ∧ cap ≤ maxLen := by
  cases x <;> simp only [AV.lenOf, Option.some.injEq, reduceCtorEq] at hl <;> subst hl
  · rw [h.nils_inv]; exact ⟨_, _, rfl, Nat.le_refl _, Nat.zero_le _⟩
  · have := h.one_inv rfl; cases this with | sl cf h1 h2 => exact ⟨_, _, rfl, h1, h2⟩
  · have := h.one_inv rfl; cases this with | lit cf h1 => exact ⟨_, _, rfl, Nat.le_refl _, h1⟩
  · have := h.one_inv rfl; cases this with | own cf h1 h2 => exact ⟨_, _, rfl, h1, h2⟩
  · have := h.one_inv rfl; cases this with | row h1 h2 => exact ⟨_, _, rfl, h1, h2⟩

theorem len_le {x : AV} {v : Value} {m : Nat} (h : RelV P w C x v) (hl : x.lenOf = some m) : m ≤ maxLen := by
  obtain ⟨_, _, _, h1, h2⟩ := h.slice_inv hl; omega

theorem ok_len {x : Operand} {t : TypeId} {v : AV} {m : Nat} (ho : o.op = .call { callee := .builtin .len, args := #[x], argTypes := #[t] }) (hx : Is P W0 o A x v) (hl : v.lenOf = some m) (ht : (elT P t).isSome = true) : ValOk P W0 o A (.int .i64 m) :=
  .of_same fun w C a hr => by
    have h := hx w C a hr
    obtain ⟨ad, cap, hv, _, _⟩ := h.slice_inv hl
    obtain ⟨e, he⟩ := Option.isSome_iff_exists.1 ht
    exact ⟨.int .i64 m, by simp [execOp, ho, resolve, invoke, builtin, Builtin.len_, run_underlying (elT_inv he), hv, goInt], .one rfl (.int _ _)⟩

theorem ok_cap_nils {x : Operand} {t : TypeId} (ho : o.op = .call { callee := .builtin .cap, args := #[x], argTypes := #[t] }) (hx : Is P W0 o A x .nils) (ht : (elT P t).isSome = true) : ValOk P W0 o A (.int .i64 0) :=
  .of_same fun w C a hr => by
    have h := hx w C a hr
    obtain ⟨e, he⟩ := Option.isSome_iff_exists.1 ht
    exact ⟨.int .i64 0, by simp [execOp, ho, resolve, invoke, builtin, Builtin.cap_, run_underlying (elT_inv he), h.nils_inv, goInt], .one rfl (.int _ _)⟩

theorem ok_len_str {x : Operand} {t : TypeId} {l : List UInt8} (ho : o.op = .call { callee := .builtin .len, args := #[x], argTypes := #[t] }) (hx : Is P W0 o A x (.str l)) (ht : P.underlying t = some .string) : ValOk P W0 o A (.int .i64 l.length) :=
  .of_same fun w C a hr => by
    have h := hx w C a hr
    have e : (⟨l.toArray⟩ : ByteArray).size = l.length := by show l.toArray.size = l.length; simp
    exact ⟨.int .i64 l.length, by simp [execOp, ho, resolve, invoke, builtin, Builtin.len_, run_underlying ht, h.str_inv.1, goInt, e], .one rfl (.int _ _)⟩

def maxI (a b : Int) : Int := if b > a then b else a
def minI (a b : Int) : Int := if b < a then b else a

theorem ok_max {x y : Operand} {ts : Array TypeId} {k : IntKind} {p q : Int} (ho : o.op = .call { callee := .builtin .max, args := #[x, y], argTypes := ts }) (hx : Is P W0 o A x (.int k p)) (hy : Is P W0 o A y (.int k q)) : ValOk P W0 o A (.int k (maxI p q)) :=
  .of_same fun w C a hr => by
    have h1 := hx w C a hr
    have h2 := hy w C a hr
    exact ⟨.int k (maxI p q), by simp [execOp, ho, resolve, invoke, builtin, Builtin.max_, Builtin.max2, h1.int_inv, h2.int_inv, maxI], .one rfl (.int _ _)⟩

theorem ok_min {x y : Operand} {ts : Array TypeId} {k : IntKind} {p q : Int} (ho : o.op = .call { callee := .builtin .min, args := #[x, y], argTypes := ts }) (hx : Is P W0 o A x (.int k p)) (hy : Is P W0 o A y (.int k q)) : ValOk P W0 o A (.int k (minI p q)) :=
  .of_same fun w C a hr => by
    have h1 := hx w C a hr
    have h2 := hy w C a hr
    exact ⟨.int k (minI p q), by simp [execOp, ho, resolve, invoke, builtin, Builtin.min_, Builtin.min2, h1.int_inv, h2.int_inv, minI], .one rfl (.int _ _)⟩

end
end Go.Av
end
section
set_option linter.unusedSimpArgs false
set_option linter.unusedVariables false
namespace Go.Av
open Go

/-- A character's bytes. -/
def encL (m : Int) : List UInt8 := (Utf8.encode m).data.toList

section
variable {P : Program} {W0 w w' : World} {C C' : Ctx} {σ σ' : Store} {n : Nat} {A : AState} {a : Act} {o : Oper}

theorem encL_le (m : Int) : (encL m).length ≤ 4 := by
  unfold encL Utf8.encode
  simp only
  generalize (if Utf8.valid m then m.toNat else Utf8.runeError) = c
  by_cases h1 : c < 0x80
  · rw [if_pos h1]; exact Nat.le_of_ble_eq_true rfl
  by_cases h2 : c < 0x800
  · rw [if_neg h1, if_pos h2]; exact Nat.le_of_ble_eq_true rfl
  by_cases h3 : c < 0x10000
  · rw [if_neg h1, if_neg h2, if_pos h3]; exact Nat.le_of_ble_eq_true rfl
  · rw [if_neg h1, if_neg h2, if_neg h3]; exact Nat.le_of_ble_eq_true rfl

theorem ok_convert_rune {s d : TypeId} {x : Operand} {k : IntKind} {m : Int} (ho : o.op = .convert s d x) (hx : Is P W0 o A x (.int k m)) (hs : (P.underlying s).isSome = true) (hd : P.underlying d = some .string) :
    ValOk P W0 o A (.str (encL m)) :=
  .of_same fun w C a hr => by
    have h := hx w C a hr
    obtain ⟨su, hsu⟩ := Option.isSome_iff_exists.1 hs
    refine ⟨.string (Utf8.encode m), ?_, .one rfl (.str (Nat.le_trans (encL_le m) (by decide)))⟩
    have : (convert s d (.int k m)).run P w = .ok (.string (Utf8.encode m)) w := by
      simp only [convert, Sem.run_bind, run_underlying hsu, run_underlying hd, Result.andThen_ok]
      cases su <;> rfl
    simp [execOp, ho, h.int_inv, this]

theorem ok_convert_text {s d : TypeId} {x : Operand} {l : List UInt8} (ho : o.op = .convert s d x) (hx : Is P W0 o A x (.str l)) (hs : P.underlying s = some .string) (hd : P.underlying d = some .string) :
    ValOk P W0 o A (.str l) :=
  .of_same fun w C a hr => by
    have h := hx w C a hr
    refine ⟨.string ⟨l.toArray⟩, ?_, .one rfl (.str h.str_inv.2)⟩
    have : (convert s d (.string ⟨l.toArray⟩)).run P w = .ok (.string ⟨l.toArray⟩) w := by
      simp only [convert, Sem.run_bind, run_underlying hs, run_underlying hd, Result.andThen_ok]
      rfl
    simp [execOp, ho, h.str_inv.1, this]

end
end Go.Av
end
