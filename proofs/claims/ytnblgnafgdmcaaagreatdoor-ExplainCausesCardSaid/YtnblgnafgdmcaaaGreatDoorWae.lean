/- Texts that the last one of this claim rests on: a layer over the guide's own conditions for code; contracts of the functions that the law reaches, one by one. No conditions beside those of the given rows. -/
import Derived.Maps.Keyed
import Derived.Test.YtnblgnafgdmcaaaGreatDoorWad
section
set_option linter.unusedSimpArgs false
set_option linter.unusedVariables false
namespace Go.Av
open Go

section
variable {P : Program} {W0 w w' : World} {C C' : Ctx} {σ σ' : Store} {n : Nat} {A : AState} {a : Act} {o : Oper}

theorem rig1_one {x : AV} {v : Value} (h : rig1 x = some v) : x.isOne = true := by
  cases x <;> first | rfl | cases h
theorem rig1_rel {x : AV} {v u : Value} (h : rig1 x = some v) (hr : Rel P w C x [u]) : u = v := by
  cases x <;> simp only [rig1, reduceCtorEq, Option.some.injEq] at h
  · subst h; cases hr; rfl
  · subst h; cases hr; rfl
  · cases hr with
    | str hl => rw [if_pos hl] at h; exact Option.some.inj h
theorem rig1_out {x : AV} {v : Value} (h : rig1 x = some v) : RelV P w C x v := by
  cases x <;> first | cases h | skip
  · exact .one rfl (.int _ _)
  · exact .one rfl (.bool _)
  · simp only [rig1] at h
    split at h
    · cases h; exact .one rfl (.str (by assumption))
    · cases h
theorem rigL_get : ∀ {xs : List AV} {vs : List Value}, rigL xs = some vs → xs.length = vs.length ∧ ∀ (i : Nat) (x : AV), xs[i]? = some x → ∃ v, rig1 x = some v ∧ vs[i]? = some v
  | [], vs, h => by cases h; exact ⟨rfl, by simp⟩
  | x :: r, vs, h => by
    simp only [rigL] at h
    cases h1 : rig1 x with
    | none => rw [h1] at h; cases h
    | some v =>
      rw [h1, Option.bind_some] at h
      cases h2 : rigL r with
      | none => rw [h2] at h; cases h
      | some us =>
        rw [h2] at h
        cases h
        obtain ⟨g1, g2⟩ := rigL_get h2
        refine ⟨by simp [g1], fun i y hy => ?_⟩
        cases i with
        | zero => simp at hy; subst hy; exact ⟨v, h1, rfl⟩
        | succ i => simpa using g2 i y (by simpa using hy)
theorem sum_ones : ∀ {l : List Nat}, (∀ x ∈ l, x = 1) → l.sum = l.length
  | [], _ => rfl
  | x :: l, h => by
    have := sum_ones (l := l) fun y hy => h y (by simp [hy])
    have h1 := h x (by simp)
    simp only [List.sum_cons, List.length_cons]
    omega
theorem rig_rel {x : AV} {v u : Value} (h : rig P x = some v) (hr : RelV P w C x u) : u = v := by
  have plain : rig1 x = some v → u = v := fun h => rig1_rel h (hr.one_inv (rig1_one h))
  cases x
  case agg t fs =>
    obtain ⟨cs, rfl, hrel⟩ := hr.agg_inv
    simp only [rig] at h
    split at h
    · rename_i ts hts
      split at h
      · rename_i hall
        cases hL : rigL fs with
        | none => rw [hL] at h; cases h
        | some vs =>
          rw [hL] at h
          simp only [Option.map_some, Option.some.injEq] at h
          subst h
          obtain ⟨g1, g2⟩ := rigL_get hL
          cases hrel with
          | agg cf h1 h2 h3 h4 h5 h6 =>
            rename_i ts'
            rw [hts] at h1
            cases h1
            have ones : ∀ ty ∈ ts, szOf P ty = 1 := fun ty hty => by simpa using List.all_eq_true.1 hall ty hty
            have off : ∀ i, i ≤ ts.length → offAt P ts i = i := fun i hi => by
              unfold offAt
              rw [sum_ones (fun x hx => by
                obtain ⟨ty, hty, rfl⟩ := List.mem_map.1 hx
                exact ones ty (List.mem_of_mem_take hty))]
              simp; omega
            have hlen : cs.length = vs.length := by rw [h3, offAt_total hts, off _ (Nat.le_refl _), ← h2, g1]
            congr 1
            congr 1
            refine List.ext_getElem? fun i => ?_
            by_cases hi : i < fs.length
            · have hx := List.getElem?_eq_getElem hi
              obtain ⟨v, hv1, hv2⟩ := g2 i _ hx
              have hty := List.getElem?_eq_getElem (l := ts) (show i < ts.length by omega)
              obtain ⟨k1, k2, k3⟩ := h6 i _ _ hx hty
              obtain ⟨z, hz⟩ := (h5 i _ hx).one_cell (rig1_one hv1)
              have hrz := h5 i _ hx
              rw [hz] at hrz
              have := rig1_rel hv1 hrz
              subst this
              have h7 := k3 0 z (by rw [hz]; rfl)
              rw [off i (by omega), Nat.add_zero] at h7
              rw [h7, hv2]
            · rw [List.getElem?_eq_none (by omega), List.getElem?_eq_none (by omega)]
      · cases h
    · cases h
  all_goals exact plain h

def mapT (P : Program) (t : TypeId) : Option (TypeId × TypeId) := match P.underlying t with | some (.map k e) => some (k, e) | _ => none
theorem mapT_inv {t kt vt : TypeId} (h : mapT P t = some (kt, vt)) : P.underlying t = some (.map kt vt) := by
  unfold mapT at h
  split at h
  · cases h; assumption
  · cases h
/-- A value may be a key. -/
def keyC (P : Program) (kt : TypeId) (v : AV) : Prop := ∃ x q, rig P v = some x ∧ keyOf P kt x = some q
/-- The entries of a map in the store. -/
def mpAt (σ : Store) (kt : TypeId) : AV → Option (List (AV × AV))
  | .mp id => (match σ[id]? with | some (some (.mp kt' l)) => if kt' = kt then some l else none | _ => none)
  | _ => none
def zero1 (P : Program) (t : TypeId) : AV := match (P.info? t).bind (·.zero) with | some z => constAV z | none => .undef
open Classical in
/-- What stands at a key; z, if nothing does. -/
noncomputable def mget (P : Program) (l : List (AV × AV)) (k z : AV) : AV := if h : ∃ p ∈ l, rig P p.1 = rig P k then (Classical.choose h).2 else z
open Classical in
/-- With a value at a key. -/
noncomputable def mset (P : Program) (l : List (AV × AV)) (k v : AV) : List (AV × AV) := l.filter (fun p => decide (rig P p.1 ≠ rig P k)) ++ [(k, v)]

theorem mget_cases {P : Program} (l : List (AV × AV)) (k z : AV) : (∃ p ∈ l, rig P p.1 = rig P k ∧ mget P l k z = p.2) ∨ ((¬ ∃ p ∈ l, rig P p.1 = rig P k) ∧ mget P l k z = z) := by
  by_cases h : ∃ p ∈ l, rig P p.1 = rig P k
  · obtain ⟨h1, h2⟩ := Classical.choose_spec h
    exact .inl ⟨_, h1, h2, by rw [mget, dif_pos h]⟩
  · exact .inr ⟨h, by rw [mget, dif_neg h]⟩
theorem mset_mem {P : Program} {l : List (AV × AV)} {k v : AV} {p : AV × AV} (h : p ∈ mset P l k v) : p ∈ l ∨ p = (k, v) := by
  unfold mset at h
  rcases List.mem_append.1 h with h | h
  · exact .inl (List.mem_filter.1 h).1
  · exact .inr (List.mem_singleton.1 h)

theorem mpAt_inv {kt : TypeId} {u : AV} {l : List (AV × AV)} (h : mpAt σ kt u = some l) : ∃ id, u = .mp id ∧ σ[id]? = some (some (.mp kt l)) := by
  cases u <;> first | cases h | skip
  rename_i id
  simp only [mpAt] at h
  split at h
  · rename_i kt' l' hs
    split at h
    · rename_i he
      subst he
      cases h
      exact ⟨id, rfl, hs⟩
    · cases h
  · cases h
theorem StRel.mp (h : StRel P W0 w C σ) {id : Nat} {kt : TypeId} {l : List (AV × AV)} (hs : σ[id]? = some (some (.mp kt l))) : ∃ b, C.m id = some (.mp b) ∧ MapRel P w kt l b := by
  have ho := h.obj id
  rw [hs] at ho
  simp only [Option.join_some] at ho
  cases hm : C.m id with
  | none => rw [hm] at ho; exact ho.elim
  | some ow =>
    rw [hm] at ho
    cases ow with
    | mp b => exact ⟨b, rfl, ho⟩
    | _ => exact ho.elim
theorem mp_inv {id : Nat} {v : Value} (h : RelV P w C (.mp id) v) : ∃ r, v = .map (some r) ∧ ∀ ow, C.m id = some ow → ow = .mp r := by
  have := h.one_inv rfl
  cases this with
  | mp h1 h2 => exact ⟨_, rfl, h2⟩
theorem pair_uniq {es : List MapEntry} (h : es.Pairwise fun e f => e.key ≠ f.key) : ∀ {e f : MapEntry}, e ∈ es → f ∈ es → e.key = f.key → e = f := by
  induction es with
  | nil => intro e f he; cases he
  | cons x r ih =>
    rw [List.pairwise_cons] at h
    intro e f he hf hk
    rcases List.mem_cons.1 he with he' | he'
    · rcases List.mem_cons.1 hf with hf' | hf'
      · rw [he', hf']
      · rw [he'] at hk; exact absurd hk (h.1 f hf')
    · rcases List.mem_cons.1 hf with hf' | hf'
      · rw [hf'] at hk; exact absurd hk.symm (h.1 e he')
      · exact ih h.2 he' hf' hk

theorem ok_lookup {t kt vt : TypeId} {x ix : Operand} {u k : AV} {l : List (AV × AV)} (ho : o.op = .lookup t x ix false) (hx : Is P W0 o A x u) (hi : Is P W0 o A ix k) (ht : mapT P t = some (kt, vt)) (hz : hasZero P vt = true)
    (K : Maps.Keyed P kt) (hk : keyC P kt k) (hl : mpAt A.st kt u = some l) : ValOk P W0 o A (mget P l k (zero1 P vt)) := fun w C a hr => by
  obtain ⟨id, rfl, hs⟩ := mpAt_inv hl
  obtain ⟨r, hv, hm⟩ := mp_inv (hx w C a hr)
  obtain ⟨b, hc, es, clock, hb, hd, he1, he2⟩ := hr.st.mp hs
  cases hm _ hc
  obtain ⟨y, q, hy, hq⟩ := hk
  have hkey := rig_rel hy (hi w C a hr)
  obtain ⟨inf, z, hinf, hiz, _⟩ := hasZero_inv hz
  have hzv : (zeroValue vt).run P w = .ok z w := by simp [zeroValue, typeInfo, hinf, hiz]
  have hz1 : zero1 P vt = constAV z := by simp [zero1, hinf, hiz]
  have hu := mapT_inv ht
  rcases K.find w hq es.toList (fun e he => (he1 e he).1) with ⟨h1, h2⟩ | ⟨j, e, h1, h2, h3⟩
  · refine ⟨z, w, ?_, ?_, .refl _ _, hr.st⟩
    · simp [execOp, ho, hv, hkey, Instr.lookup, run_underlying hu, MapKept.run_getObj_map hb, K.check w _ hq, h1, hzv, Result.andThen]
    · have : ¬ ∃ p ∈ l, rig P p.1 = rig P k := fun ⟨p, hp, hpk⟩ => by
        obtain ⟨e, he, g1, _⟩ := he2 p hp
        rw [hpk, hy] at g1
        exact h2 e he (Option.some.inj g1).symm
      rw [mget, dif_neg this, hz1]
      exact constAV_rel z
  · refine ⟨e.val, w, ?_, ?_, .refl _ _, hr.st⟩
    · simp [execOp, ho, hv, hkey, Instr.lookup, run_underlying hu, MapKept.run_getObj_map hb, K.check w _ hq, h1, Result.andThen]
    · have hem : e ∈ es.toList := List.mem_of_getElem? h2
      obtain ⟨_, p, hp, g1, g2⟩ := he1 e hem
      have hex : ∃ p ∈ l, rig P p.1 = rig P k := ⟨p, hp, by rw [g1, h3, hy]⟩
      rw [mget, dif_pos hex]
      obtain ⟨hc1, hc2⟩ := Classical.choose_spec hex
      obtain ⟨f, hf, k1, k2⟩ := he2 _ hc1
      rw [hc2, hy] at k1
      have : f = e := pair_uniq hd hf hem (by rw [h3]; exact (Option.some.inj k1).symm)
      subst this
      exact rig1_out k2
end
end Go.Av
end
section
set_option linter.unusedSimpArgs false
set_option linter.unusedVariables false
namespace Go.Av
open Go

/-- A call comes to this: of a function that is walked, of one that the model answers itself. -/
def Runs (P : Program) (f : FuncId) (vs : Array Value) (w : World) (R : Ending → World → Prop) : Prop :=
  ((∃ fn, P.funcs[f]? = some fn ∧ fn.body.isSome = true ∧ (fn.name == "runtime.NumGoroutine") = false) ∧ Calls P f vs w R) ∨
  ∃ v w', (callFunc f vs).run P w = .ok (.value v) w' ∧ R (.returned v) w'

theorem Runs.mono {P : Program} {f : FuncId} {vs : Array Value} {w : World} {R R' : Ending → World → Prop} (h : Runs P f vs w R) (hr : ∀ e w', R e w' → R' e w') : Runs P f vs w R' := by
  rcases h with ⟨h1, h2⟩ | ⟨v, w', h1, h2⟩
  · exact .inl ⟨h1, h2.mono fun e w' => hr e w'⟩
  · exact .inr ⟨v, w', h1, hr _ _ h2⟩

/-- A call of a function on pure values, in a store: it returns, and this holds of the result and the store behind it. -/
def ACall (P : Program) (W0 : World) (f : FuncId) (args : List AV) (σ : Store) (Q : AV → Store → Prop) : Prop :=
  ∀ w C (vs : List Value), StRel P W0 w C σ → args.length = vs.length → (∀ (i : Nat) (a : AV) (v : Value), args[i]? = some a → vs[i]? = some v → RelV P w C a v) →
    Runs P f vs.toArray w fun e w' => ∃ v r σ' C', e = .returned v ∧ Q r σ' ∧ StRel P W0 w' C' σ' ∧ RelV P w' C' r v ∧ Step w C w' C'

/-- A function that leaves every store as it was. -/
def PureFn (P : Program) (W0 : World) (f : FuncId) (args : List AV) (r : AV) : Prop := ∀ σ, ACall P W0 f args σ fun r' σ' => r' = r ∧ σ' = σ

/-- An operation makes this value, whatever it calls, and leaves the store as it was. -/
def PureOk (P : Program) (W0 : World) (o : Oper) (A : AState) (v : AV) : Prop :=
  ∀ w C a, RelO P W0 o w C A a → ∀ (next : Act → World → Prop) (Q : Exit → Act → World → Prop),
    (∀ x w', RelV P w' C v x → Step w C w' C → StRel P W0 w' C A.st → next (a.put o.dst x) w') → o.wp P a w next Q

def imp (gd : Option Bool) (p : Prop) : Prop := match gd with | none => p | some g => (g = true → p)

theorem imp.of {gd : Option Bool} {p : Prop} (h : p) : imp gd p := by cases gd <;> first | exact h | exact fun _ => h
theorem imp.map {gd : Option Bool} {p q : Prop} (h : p → q) (hp : imp gd p) : imp gd q := by cases gd <;> first | exact h hp | exact fun g => h (hp g)
theorem imp.map2 {gd : Option Bool} {p q r : Prop} (h : p → q → r) (hp : imp gd p) (hq : imp gd q) : imp gd r := by cases gd <;> first | exact h hp hq | exact fun g => h (hp g) (hq g)
theorem imp.map3 {gd : Option Bool} {p q r s : Prop} (h : p → q → r → s) (hp : imp gd p) (hq : imp gd q) (hr : imp gd r) : imp gd s := by cases gd <;> first | exact h hp hq hr | exact fun g => h (hp g) (hq g) (hr g)

/-- The value behind a condition that is known. -/
def strip (gd : Option Bool) (x : AV) (k : AV → Prop) : Prop := match x with | .maybe g v => imp gd (g = true) ∧ k v | v => k v
def strip2 (gd : Option Bool) (b : Bool) (x : AV) (k : AV → Prop) : Prop := match x with | .maybe g v => imp gd (b = true → g = true) ∧ k v | v => k v
def stripL (gd : Option Bool) (xs : List AV) (k : List AV → Prop) : Prop :=
  match xs with
  | [] => k []
  | x :: r => strip gd x fun u => stripL gd r fun us => k (u :: us)

def binVC (P : Program) (op : BinOp) (t : TypeId) (u v : AV) (K : AV → Prop) : Prop := match abin P op t u v with | some z => K z | none => False

def unVC (op : UnOp) (u : AV) (K : AV → Prop) : Prop :=
  match op, u with
  | .not, .bool b => K (.bool (!b))
  | .neg, .int k m => K (.int k (k.wrap (-m)))
  | _, _ => False

def loadVC (gd : Option Bool) (σ : Store) (t : TypeId) (u : AV) (K : AV → Prop) : Prop :=
  match u with
  | .loc t' v => t' = t ∧ K v
  | .ptr t' id i path => t' = t ∧ (match look σ id i path with | some v => K v | none => imp gd False ∧ K .undef)
  | _ => False

def fieldVC (P : Program) (s : TypeId) (u : AV) (k : Nat) (K : AV → Prop) : Prop :=
  match u with
  | .loc t (.agg t' fs) => (t = s ∧ t' = s ∧ isStruct P s = true) ∧ (match flds P s with
    | some ts => (match fs[k]?, ts[k]? with
      | some y, some ty => K (.loc ty y)
      | _, _ => False)
    | none => False)
  | .ptr t id i path => (t = s ∧ isStruct P s = true) ∧ (match flds P s with
    | some ts => (match ts[k]? with
      | some ty => K (.ptr ty id i (path ++ [k]))
      | none => False)
    | none => False)
  | _ => False

def live (σ : Store) (id : Nat) : Prop := ∃ te xs, σ[id]? = some (some (.cells te xs))

def indexAddrVC (P : Program) (gd : Option Bool) (σ : Store) (t : TypeId) (u v : AV) (K : AV → Prop) : Prop :=
  match v with
  | .int _ i => (match u with
    | .row e id off m => (elT P t = some e ∧ 0 < szOf P e) ∧ imp gd (0 ≤ i ∧ i.toNat < m) ∧ live σ id ∧ K (.ptr e id (off + i.toNat) [])
    | .ptr t' id j path => (t' = t ∧ (arrT P t).isSome = true) ∧ (match flds P t with
      | some ts => imp gd (0 ≤ i ∧ i.toNat < ts.length) ∧ K (.ptr ((arrT P t).getD 0) id j (path ++ [i.toNat]))
      | none => False)
    | .loc t' (.agg t'' fs) => (t' = t ∧ t'' = t ∧ (arrT P t).isSome = true ∧ (flds P t).isSome = true) ∧ imp gd (0 ≤ i ∧ i.toNat < fs.length) ∧ K (.loc ((arrT P t).getD 0) (fs[i.toNat]?.getD .undef))
    | u => (match u.asList with
      | some (e, xs) => (elT P t = some e ∧ 0 < szOf P e) ∧ imp gd (0 ≤ i ∧ i.toNat < xs.length) ∧ K (.loc e (xs[i.toNat]?.getD .undef))
      | none => False))
  | _ => False

def isStrT (P : Program) (t : TypeId) : Bool := match P.underlying t with | some .string => true | _ => false

def indexVC (P : Program) (gd : Option Bool) (t : TypeId) (u v : AV) (K : AV → Prop) : Prop :=
  match u, v with
  | .str l, .int _ i => isStrT P t = true ∧ imp gd (0 ≤ i ∧ i.toNat < l.length) ∧ K (.int .u8 (l[i.toNat]?.getD 0).toNat)
  | .agg t' fs, .int _ i => (t' = t ∧ (arrT P t).isSome = true ∧ (flds P t).isSome = true) ∧ imp gd (0 ≤ i ∧ i.toNat < fs.length) ∧ K (fs[i.toNat]?.getD .undef)
  | _, _ => False

def extractVC (u : AV) (k : Nat) (K : AV → Prop) : Prop := match u with | .tup as => (match as[k]? with | some v => K v | none => False) | _ => False

def intT (P : Program) (t : TypeId) : Option IntKind := match P.underlying t with | some (.int k) => some k | _ => none

def convertVC (P : Program) (s d : TypeId) (u : AV) (K : AV → Prop) : Prop :=
  match u with
  | .int _ m => (match intT P s, intT P d with | some _, some k' => K (.int k' (k'.wrap m)) | some _, none => isStrT P d = true ∧ K (.str (encL m)) | _, _ => False)
  | .str l => (isStrT P s = true ∧ isStrT P d = true) ∧ K (.str l)
  | _ => False

def bndVC (gd : Option Bool) (A : AState) (x : Option Operand) (d : Nat) (k : Nat → Prop) : Prop :=
  match x with
  | none => k d
  | some y => strip gd (A.val y) fun v => (match v with | .int _ i => imp gd (0 ≤ i) ∧ k i.toNat | _ => False)

def sliceVC (P : Program) (gd : Option Bool) (A : AState) (t : TypeId) (u : AV) (lo hi : Option Operand) (K : AV → Prop) : Prop :=
  match u with
  | .str l => isStrT P t = true ∧ bndVC gd A lo 0 fun p => bndVC gd A hi l.length fun q => imp gd (p ≤ q ∧ q ≤ l.length) ∧ K (.str (cutL l p q))
  | .row e id off m => (elT P t = some e ∧ 0 < szOf P e) ∧ bndVC gd A lo 0 fun p => bndVC gd A hi m fun q => imp gd (p ≤ q ∧ q ≤ m) ∧ K (.row e id (off + p) (q - p))
  | .nils => (match elT P t with | some e => 0 < szOf P e ∧ bndVC gd A lo 0 fun p => bndVC gd A hi 0 fun q => imp gd (p = 0 ∧ q = 0) ∧ K .nils | none => False)
  | u => match u.asList with
    | some (e, xs) => (elT P t = some e ∧ 0 < szOf P e) ∧ bndVC gd A lo 0 fun p => bndVC gd A hi xs.length fun q => imp gd (p ≤ q ∧ q ≤ xs.length) ∧ K (.sl e (cutL xs p q))
    | none => False

def partsVC (gd : Option Bool) (A : AState) (ps : List (Nat × Operand)) (k : List (Nat × AV) → Prop) : Prop :=
  match ps with
  | [] => k []
  | (i, x) :: r => strip gd (A.val x) fun u => partsVC gd A r fun us => k ((i, u) :: us)

def fitsB (P : Program) (t : TypeId) (x : AV) : Bool :=
  match x with
  | .agg t' _ => t' == t && (flds P t).isSome
  | x => x.isOne && prim P t

theorem fits_of_B {P : Program} {t : TypeId} {x : AV} (h : fitsB P t x = true) : fits P t x := by
  cases x <;> simp_all [fitsB, fits]

def partsFitB (P : Program) (ts : List TypeId) (ps : List (Nat × AV)) : Bool := ps.all fun p => match ts[p.1]? with | some ty => fitsB P ty p.2 | none => false

def buildVC (P : Program) (t : TypeId) (qs : List (Nat × AV)) (K : AV → Prop) : Prop :=
  match flds P t, zeroOf P t with
  | some ts, some (.agg t' fs) => (t' = t ∧ partsFitB P ts qs = true) ∧ K (.agg t (setAll qs fs))
  | _, _ => False

def buildSliceVC (P : Program) (t : TypeId) (m : Nat) (qs : List (Nat × AV)) (K : AV → Prop) : Prop :=
  match elT P t with
  | some e => (0 < szOf P e ∧ hasZero P e = true ∧ m * szOf P e ≤ 16777216 ∧ qs.map (·.1) = List.range' 0 m ∧ qs.all (fun p => fitsB P e p.2) = true) ∧ K (.lit e (qs.map (·.2)))
  | none => False

def builtinVC (P : Program) (gd : Option Bool) (b : Builtin) (ts : List TypeId) (us : List AV) (K : AV → Prop) : Prop :=
  match b, us with
  | .len, [u] => (match ts with
    | [t] => (match u with
      | .str l => isStrT P t = true ∧ (imp gd (l.length ≤ maxLen) → K (.int .i64 l.length))
      | u => (match u.lenOf with
        | some m => (elT P t).isSome = true ∧ (imp gd (m ≤ maxLen) → K (.int .i64 m))
        | none => False))
    | _ => False)
  | .cap, [u] => (match ts with
    | [t] => (match u with
      | .nils => (elT P t).isSome = true ∧ K (.int .i64 0)
      | _ => False)
    | _ => False)
  | .max, [u, v] => (match u, v with | .int k p, .int k' q => k' = k ∧ K (.int k (maxI p q)) | _, _ => False)
  | .min, [u, v] => (match u, v with | .int k p, .int k' q => k' = k ∧ K (.int k (minI p q)) | _, _ => False)
  | _, _ => False

/-- A function that leaves the store as it was: this one, or every one. -/
def PureSt (P : Program) (W0 : World) (so : Option Store) (f : FuncId) (args : List AV) (r : AV) : Prop := match so with
  | none => PureFn P W0 f args r
  | some σ => ACall P W0 f args σ fun r' σ' => r' = r ∧ σ' = σ

def callVC (P : Program) (W0 : World) (gd : Option Bool) (so : Option Store) (f : AV) (us : List AV) (K : AV → Prop) : Prop :=
  match f with
  | .fn g caps => ∃ r, imp gd (PureSt P W0 so g (us ++ caps) r) ∧ K r
  | _ => False

def lookVC (P : Program) (gd : Option Bool) (σ : Store) (t : TypeId) (u v : AV) (K : AV → Prop) : Prop :=
  match mapT P t with
  | some (kt, vt) => hasZero P vt = true ∧ Maps.Keyed P kt ∧ imp gd (keyC P kt v) ∧ (match mpAt σ kt u with | some l => K (mget P l v (zero1 P vt)) | none => False)
  | none => False

def valVC (P : Program) (W0 : World) (gd : Option Bool) (op : Op) (A : AState) (K : AV → Prop) : Prop :=
  match op with
  | .move x => (match gd with | none => K (A.val x) | some _ => strip gd (A.val x) K)
  | .assign x => (match gd with | none => K (A.val x) | some _ => strip gd (A.val x) K)
  | .pick c x y => strip gd (A.val c) fun cv => (match cv with
    | .bool b => strip2 gd b (A.val x) fun u => strip2 gd (!b) (A.val y) fun v => K (pickAV b u v)
    | _ => False)
  | .binOp op t x y _ => strip gd (A.val x) fun u => strip gd (A.val y) fun v => binVC P op t u v K
  | .unOp op _ x => strip gd (A.val x) fun u => unVC op u K
  | .load t x => strip gd (A.val x) fun u => loadVC gd A.st t u K
  | .fieldAddr s x k => strip gd (A.val x) fun u => fieldVC P s u k K
  | .indexAddr t x ix => strip gd (A.val x) fun u => strip gd (A.val ix) fun v => indexAddrVC P gd A.st t u v K
  | .index t x ix => strip gd (A.val x) fun u => strip gd (A.val ix) fun v => indexVC P gd t u v K
  | .extract x k => strip gd (A.val x) fun u => extractVC u k K
  | .nilCheck x => strip gd (A.val x) fun u => u.isPtr = true ∧ K u
  | .convert s d x => strip gd (A.val x) fun u => convertVC P s d u K
  | .makeFunc fn first caps => (match fn with
    | .func f => first.toList = [] ∧ stripL gd (caps.toList.map A.val) fun vs => vs.all AV.isOne = true ∧ K (.fn f vs)
    | _ => False)
  | .slice t x lo hi mx => mx = none ∧ strip gd (A.val x) fun u => sliceVC P gd A t u lo hi K
  | .build t ps => partsVC gd A ps.toList fun qs => buildVC P t qs K
  | .buildSlice t m ps => partsVC gd A ps.toList fun qs => buildSliceVC P t m qs K
  | .box t x => strip gd (A.val x) fun v => fitsB P t v = true ∧ K (.loc t v)
  | .lookup t x ix false => strip gd (A.val x) fun u => strip gd (A.val ix) fun v => lookVC P gd A.st t u v K
  | .call c => (match c.callee with
    | .builtin b => stripL gd (c.args.toList.map A.val) fun us => builtinVC P gd b c.argTypes.toList us K
    | .value f => strip gd (A.val f) fun fv => stripL gd (c.args.toList.map A.val) fun us => callVC P W0 gd (some A.st) fv us K
    | _ => False)
  | _ => False

section
variable {P : Program} {W0 w w' : World} {C C' : Ctx} {σ σ' : Store} {n : Nat} {A : AState} {a : Act} {o : Oper} {gd : Option Bool} {K : AV → Prop}

theorem ValOk.pure {v : AV} (h : ValOk P W0 o A v) : PureOk P W0 o A v := fun w C a hr next Q hn => by
  obtain ⟨x, w', h1, h2, h3, h4⟩ := h w C a hr
  unfold Oper.wp
  rw [h1]
  exact hn x w' h2 h3 h4

theorem ctx_same (h : StRel P W0 w C σ) (h' : StRel P W0 w' C' σ) (hs : Step w C w' C') : C' = C := by
  have hm : ∀ i, C'.m i = C.m i := fun i => by
    have h1 := h.obj i
    have h2 := h'.obj i
    cases hc : C'.m i with
    | none =>
      cases hc' : C.m i with
      | none => rfl
      | some ow =>
        rw [hc] at h2
        rw [hc'] at h1
        cases ho : (σ[i]?).join with
        | none => rw [ho] at h1; cases ow <;> exact h1.elim
        | some s => rw [ho] at h2; cases s <;> exact h2.elim
    | some ow =>
      have hlt := h'.dom i ow hc
      rw [hs.dead i ow (by rw [h.nx, ← h'.nx]; exact hlt) hc]
  have hnx : C'.nx = C.nx := by rw [h.nx, h'.nx]
  cases C; cases C'
  simp only at hm hnx
  subst hnx
  congr
  exact funext hm

theorem strip_sound {x : Operand} (hm : x ∈ o.op.operands) {k : AV → Prop} (h : strip gd (A.val x) k) : ∃ u, k u ∧ imp gd (Is P W0 o A x u) := by
  unfold strip at h
  have hv := Is.val (P := P) (W0 := W0) A hm
  split at h
  · rename_i g v hx
    rw [hx] at hv
    exact ⟨v, h.2, h.1.map fun hg w C a hr => (hv w C a hr).strip hg⟩
  · exact ⟨_, h, .of hv⟩

theorem strip2_sound {b : Bool} {x : Operand} (hm : x ∈ o.op.operands) {k : AV → Prop} (h : strip2 gd b (A.val x) k) : ∃ u, k u ∧ imp gd (b = true → Is P W0 o A x u) := by
  unfold strip2 at h
  have hv := Is.val (P := P) (W0 := W0) A hm
  split at h
  · rename_i g v hx
    rw [hx] at hv
    exact ⟨v, h.2, h.1.map fun hg hb w C a hr => (hv w C a hr).strip (hg hb)⟩
  · exact ⟨_, h, .of fun _ => hv⟩

theorem stripL_sound : ∀ (xs : List Operand) (k : List AV → Prop), (∀ x ∈ xs, x ∈ o.op.operands) → stripL gd (xs.map A.val) k → ∃ us, k us ∧ imp gd (IsL P W0 o A xs us)
  | [], k, _, h => ⟨[], h, .of ⟨rfl, by simp⟩⟩
  | x :: r, k, hm, h => by
    obtain ⟨u, hu, hi⟩ := strip_sound (P := P) (W0 := W0) (hm x (by simp)) h
    obtain ⟨us, hus, hil⟩ := stripL_sound r _ (fun y hy => hm y (by simp [hy])) hu
    refine ⟨u :: us, hus, hi.map2 (fun h1 h2 => ⟨by simp [h2.1], fun i y v hy hv => ?_⟩) hil⟩
    cases i with
    | zero => simp at hy hv; subst hy hv; exact h1
    | succ i => simp at hy hv; exact h2.2 i y v hy hv

theorem partsVC_sound : ∀ (ps : List (Nat × Operand)) (k : List (Nat × AV) → Prop), (∀ p ∈ ps, p.2 ∈ o.op.operands) → partsVC gd A ps k → ∃ qs, k qs ∧ imp gd (IsParts P W0 o A ps qs)
  | [], k, _, h => ⟨[], h, .of ⟨rfl, by simp⟩⟩
  | (j, x) :: r, k, hm, h => by
    obtain ⟨u, hu, hi⟩ := strip_sound (P := P) (W0 := W0) (hm (j, x) (by simp)) h
    obtain ⟨us, hus, hil⟩ := partsVC_sound r _ (fun y hy => hm y (by simp [hy])) hu
    refine ⟨(j, u) :: us, hus, hi.map2 (fun h1 h2 => ⟨by simp [h2.1], fun i y v hy hv => ?_⟩) hil⟩
    cases i with
    | zero => simp at hy hv; subst hy hv; exact ⟨rfl, h1⟩
    | succ i => simp at hy hv; exact h2.2 i y v hy hv

theorem bndVC_sound {x : Option Operand} (hm : ∀ y, x = some y → y ∈ o.op.operands) {d : Nat} {k : Nat → Prop} (h : bndVC gd A x d k) : ∃ l, k l ∧ imp gd (BndIs P W0 o A x d l) := by
  unfold bndVC at h
  split at h
  · exact ⟨d, h, .of rfl⟩
  · obtain ⟨u, hu, hi⟩ := strip_sound (P := P) (W0 := W0) (hm _ rfl) h
    split at hu
    · rename_i k' i
      exact ⟨i.toNat, hu.2, hi.map2 (fun h1 h2 => ⟨k', i, h1, h2, rfl⟩) hu.1⟩
    · exact hu.elim

end
end Go.Av
end
section
set_option linter.unusedSimpArgs false
set_option linter.unusedVariables false
namespace Go.Av
open Go

section
variable {P : Program} {W0 w w' : World} {C C' : Ctx} {σ σ' : Store} {n : Nat} {A : AState} {a : Act} {o : Oper} {gd : Option Bool} {K : AV → Prop}

theorem isStrT_inv {t : TypeId} (h : isStrT P t = true) : P.underlying t = some .string := by
  unfold isStrT at h
  split at h
  · assumption
  · cases h

theorem intT_inv {t : TypeId} {k : IntKind} (h : intT P t = some k) : P.underlying t = some (.int k) := by
  unfold intT at h
  split at h
  · cases h; assumption
  · cases h

theorem sound_move {x : Operand} (ho : o.op = .move x ∨ o.op = .assign x) (hm : x ∈ o.op.operands) (h : match gd with | none => K (A.val x) | some _ => strip gd (A.val x) K) : ∃ v, K v ∧ imp gd (PureOk P W0 o A v) := by
  have key : ∀ u, Is P W0 o A x u → PureOk P W0 o A u := fun u hu => by
    rcases ho with ho | ho
    · exact (ok_move ho hu).pure
    · exact (ok_assign ho hu).pure
  cases gd with
  | none => exact ⟨_, h, key _ (Is.val A hm)⟩
  | some g =>
    obtain ⟨u, hu, hi⟩ := strip_sound (P := P) (W0 := W0) hm h
    exact ⟨u, hu, hi.map (key u)⟩

theorem sound_load {t : TypeId} {x : Operand} {u : AV} (ho : o.op = .load t x) (hi : imp gd (Is P W0 o A x u)) (h : loadVC gd A.st t u K) : ∃ v, K v ∧ imp gd (PureOk P W0 o A v) := by
  unfold loadVC at h
  split at h
  · obtain ⟨rfl, hk⟩ := h
    exact ⟨_, hk, hi.map fun hx => (ok_load_loc ho hx).pure⟩
  · obtain ⟨rfl, hk⟩ := h
    split at hk
    · rename_i v hv
      exact ⟨v, hk, hi.map fun hx => (ok_load_ptr ho hx hv).pure⟩
    · exact ⟨_, hk.2, hk.1.map False.elim⟩
  · exact h.elim

theorem sound_field {s : TypeId} {x : Operand} {k : Nat} {u : AV} (ho : o.op = .fieldAddr s x k) (hi : imp gd (Is P W0 o A x u)) (h : fieldVC P s u k K) : ∃ v, K v ∧ imp gd (PureOk P W0 o A v) := by
  unfold fieldVC at h
  split at h
  · obtain ⟨⟨rfl, rfl, hst⟩, h⟩ := h
    split at h
    · rename_i ts hts
      split at h
      · rename_i y ty hy hty
        exact ⟨_, h, hi.map fun hx => (ok_fieldAddr_loc ho hx (isStruct_any hst) hts hy hty).pure⟩
      · exact h.elim
    · exact h.elim
  · obtain ⟨⟨rfl, hst⟩, h⟩ := h
    split at h
    · rename_i ts hts
      split at h
      · rename_i ty hty
        exact ⟨_, h, hi.map fun hx => (ok_fieldAddr_ptr ho hx hst hts hty).pure⟩
      · exact h.elim
    · exact h.elim
  · exact h.elim

theorem sound_indexAddr {t : TypeId} {x ix : Operand} {u v : AV} (ho : o.op = .indexAddr t x ix) (hi : imp gd (Is P W0 o A x u)) (hj : imp gd (Is P W0 o A ix v)) (h : indexAddrVC P gd A.st t u v K) : ∃ v, K v ∧ imp gd (PureOk P W0 o A v) := by
  unfold indexAddrVC at h
  split at h
  · split at h
    · obtain ⟨⟨h1, h2⟩, h3, h4, h5⟩ := h
      exact ⟨_, h5, imp.map3 (fun hx hy h3 => (ok_indexAddr_row ho hx hy h1 h2 h3.1 h3.2 h4).pure) hi hj h3⟩
    · obtain ⟨⟨rfl, h1⟩, h⟩ := h
      obtain ⟨e, he⟩ := Option.isSome_iff_exists.1 h1
      split at h
      · rename_i ts hts
        rw [he] at h
        exact ⟨_, h.2, imp.map3 (fun hx hy h3 => (ok_indexAddr_arrP ho hx hy he hts h3.1 h3.2).pure) hi hj h.1⟩
      · exact h.elim
    · obtain ⟨⟨rfl, rfl, h1, h2⟩, h3, h4⟩ := h
      obtain ⟨e, he⟩ := Option.isSome_iff_exists.1 h1
      obtain ⟨ts, hts⟩ := Option.isSome_iff_exists.1 h2
      rw [he] at h4
      exact ⟨_, h4, imp.map3 (fun hx hy h3 => (ok_indexAddr_arrL ho hx hy he hts h3.1 (by simp [List.getElem?_eq_getElem h3.2])).pure) hi hj h3⟩
    · split at h
      · rename_i e xs hl
        obtain ⟨⟨h1, h2⟩, h3, h4⟩ := h
        exact ⟨_, h4, imp.map3 (fun hx hy h3 => (ok_indexAddr_list ho hx hl hy h1 h2 h3.1 (by simp [List.getElem?_eq_getElem h3.2])).pure) hi hj h3⟩
      · exact h.elim
  · exact h.elim

theorem sound_index {t : TypeId} {x ix : Operand} {u v : AV} (ho : o.op = .index t x ix) (hi : imp gd (Is P W0 o A x u)) (hj : imp gd (Is P W0 o A ix v)) (h : indexVC P gd t u v K) : ∃ v, K v ∧ imp gd (PureOk P W0 o A v) := by
  unfold indexVC at h
  split at h
  · obtain ⟨h1, h2, h3⟩ := h
    exact ⟨_, h3, imp.map3 (fun hx hy h2 => (ok_index_str ho hx hy (isStrT_inv h1) h2.1 (by simp [List.getElem?_eq_getElem h2.2])).pure) hi hj h2⟩
  · obtain ⟨⟨rfl, h1, h2⟩, h3, h4⟩ := h
    obtain ⟨e, he⟩ := Option.isSome_iff_exists.1 h1
    obtain ⟨ts, hts⟩ := Option.isSome_iff_exists.1 h2
    exact ⟨_, h4, imp.map3 (fun hx hy h3 => (ok_index_arr ho hx hy he hts h3.1 (by simp [List.getElem?_eq_getElem h3.2])).pure) hi hj h3⟩
  · exact h.elim

theorem sound_slice {t : TypeId} {x : Operand} {lo hi : Option Operand} {u : AV} (ho : o.op = .slice t x lo hi none) (hlo : ∀ y, lo = some y → y ∈ o.op.operands) (hhi : ∀ y, hi = some y → y ∈ o.op.operands) (hi' : imp gd (Is P W0 o A x u)) (h : sliceVC P gd A t u lo hi K) : ∃ v, K v ∧ imp gd (PureOk P W0 o A v) := by
  unfold sliceVC at h
  split at h
  · obtain ⟨h1, h⟩ := h
    obtain ⟨p, h, hp⟩ := bndVC_sound (P := P) (W0 := W0) hlo h
    obtain ⟨q, h, hq⟩ := bndVC_sound (P := P) (W0 := W0) hhi h
    exact ⟨_, h.2, imp.map3 (fun hx hpq hb => (ok_slice_str ho hx (isStrT_inv h1) hpq.1 hpq.2 hb.1 hb.2).pure) hi' (imp.map2 And.intro hp hq) h.1⟩
  · obtain ⟨⟨h1, h2⟩, h⟩ := h
    obtain ⟨p, h, hp⟩ := bndVC_sound (P := P) (W0 := W0) hlo h
    obtain ⟨q, h, hq⟩ := bndVC_sound (P := P) (W0 := W0) hhi h
    exact ⟨_, h.2, imp.map3 (fun hx hpq hb => (ok_slice_row ho hx h1 h2 hpq.1 hpq.2 hb.1 hb.2).pure) hi' (imp.map2 And.intro hp hq) h.1⟩
  · split at h
    · rename_i e he
      obtain ⟨h1, h⟩ := h
      obtain ⟨p, h, hp⟩ := bndVC_sound (P := P) (W0 := W0) hlo h
      obtain ⟨q, h, hq⟩ := bndVC_sound (P := P) (W0 := W0) hhi h
      exact ⟨_, h.2, imp.map3 (fun hx hpq hb => by
        obtain ⟨rfl, rfl⟩ := hb
        exact (ok_slice_nils ho hx he h1 hpq.1 hpq.2).pure) hi' (imp.map2 And.intro hp hq) h.1⟩
    · exact h.elim
  · split at h
    · rename_i e xs hl
      obtain ⟨⟨h1, h2⟩, h⟩ := h
      obtain ⟨p, h, hp⟩ := bndVC_sound (P := P) (W0 := W0) hlo h
      obtain ⟨q, h, hq⟩ := bndVC_sound (P := P) (W0 := W0) hhi h
      exact ⟨_, h.2, imp.map3 (fun hx hpq hb => (ok_slice_list ho hx hl h1 h2 hpq.1 hpq.2 hb.1 hb.2).pure) hi' (imp.map2 And.intro hp hq) h.1⟩
    · exact h.elim

theorem partsFit_of_B {ts : List TypeId} {ps : List (Nat × AV)} (h : partsFitB P ts ps = true) : partsFit P ts ps := fun p hp => by
  have := List.all_eq_true.1 h p hp
  split at this
  · rename_i ty hty
    exact ⟨ty, hty, fits_of_B this⟩
  · cases this

theorem sound_build {t : TypeId} {ps : Array (Nat × Operand)} {qs : List (Nat × AV)} (ho : o.op = .build t ps) (hi : imp gd (IsParts P W0 o A ps.toList qs)) (h : buildVC P t qs K) : ∃ v, K v ∧ imp gd (PureOk P W0 o A v) := by
  unfold buildVC at h
  split at h
  · rename_i ts t' fs hts hz
    obtain ⟨⟨rfl, h2⟩, h3⟩ := h
    exact ⟨_, h3, hi.map fun hq => (ok_build ho hts hz hq (partsFit_of_B h2)).pure⟩
  · exact h.elim

theorem sound_buildSlice {t : TypeId} {m : Nat} {ps : Array (Nat × Operand)} {qs : List (Nat × AV)} (ho : o.op = .buildSlice t m ps) (hi : imp gd (IsParts P W0 o A ps.toList qs)) (h : buildSliceVC P t m qs K) : ∃ v, K v ∧ imp gd (PureOk P W0 o A v) := by
  unfold buildSliceVC at h
  split at h
  · rename_i e he
    obtain ⟨⟨h1, h2, h3, h4, h5⟩, h6⟩ := h
    exact ⟨_, h6, hi.map fun hq => (ok_buildSlice ho he h1 h2 h3 hq h4 (fun p hp => fits_of_B (List.all_eq_true.1 h5 p hp))).pure⟩
  · exact h.elim

theorem toList_one {xs : Array Operand} {u : AV} (h : IsL P W0 o A xs.toList [u]) : ∃ x, xs = #[x] ∧ Is P W0 o A x u := by
  obtain ⟨l⟩ := xs
  obtain ⟨h1, h2⟩ := h
  match l, h1 with
  | [x], _ => exact ⟨x, rfl, h2 0 x u rfl rfl⟩

theorem toList_two {xs : Array Operand} {u v : AV} (h : IsL P W0 o A xs.toList [u, v]) : ∃ x y, xs = #[x, y] ∧ Is P W0 o A x u ∧ Is P W0 o A y v := by
  obtain ⟨l⟩ := xs
  obtain ⟨h1, h2⟩ := h
  match l, h1 with
  | [x, y], _ => exact ⟨x, y, rfl, h2 0 x u rfl rfl, h2 1 y v rfl rfl⟩

theorem sound_builtin (hr : RelO P W0 o w C A a) {b : Builtin} {xs : Array Operand} {ts : Array TypeId} {us : List AV} (ho : o.op = .call { callee := .builtin b, args := xs, argTypes := ts })
    (hi : imp gd (IsL P W0 o A xs.toList us)) (h : builtinVC P gd b ts.toList us K) : ∃ v, K v ∧ imp gd (PureOk P W0 o A v) := by
  unfold builtinVC at h
  split at h
  · split at h
    · rename_i t hts
      obtain rfl : ts = #[t] := by rw [← Array.toArray_toList (xs := ts), hts]
      split at h
      · rename_i l
        obtain ⟨h1, h2⟩ := h
        refine ⟨_, h2 (hi.map fun hq => ?_), hi.map fun hq => ?_⟩
        · obtain ⟨x, rfl, hx⟩ := toList_one hq
          exact (hx w C a hr).str_inv.2
        · obtain ⟨x, rfl, hx⟩ := toList_one hq
          exact (ok_len_str ho hx (isStrT_inv h1)).pure
      · split at h
        · rename_i m hl
          obtain ⟨h1, h2⟩ := h
          refine ⟨_, h2 (hi.map fun hq => ?_), hi.map fun hq => ?_⟩
          · obtain ⟨x, rfl, hx⟩ := toList_one hq
            exact len_le (hx w C a hr) hl
          · obtain ⟨x, rfl, hx⟩ := toList_one hq
            exact (ok_len ho hx hl h1).pure
        · exact h.elim
    · exact h.elim
  · split at h
    · rename_i t hts
      obtain rfl : ts = #[t] := by rw [← Array.toArray_toList (xs := ts), hts]
      split at h
      · obtain ⟨h1, h2⟩ := h
        refine ⟨_, h2, hi.map fun hq => ?_⟩
        obtain ⟨x, rfl, hx⟩ := toList_one hq
        exact (ok_cap_nils ho hx h1).pure
      · exact h.elim
    · exact h.elim
  · split at h
    · obtain ⟨rfl, h⟩ := h
      refine ⟨_, h, hi.map fun hq => ?_⟩
      obtain ⟨x, y, rfl, hx, hy⟩ := toList_two hq
      exact (ok_max ho hx hy).pure
    · exact h.elim
  · split at h
    · obtain ⟨rfl, h⟩ := h
      refine ⟨_, h, hi.map fun hq => ?_⟩
      obtain ⟨x, y, rfl, hx, hy⟩ := toList_two hq
      exact (ok_min ho hx hy).pure
    · exact h.elim
  · exact h.elim

/-- A call of a function: the goal that the walk comes to. -/
theorem call_wp {x : Operand} {xs : Array Operand} {ts : Array TypeId} {g : FuncId} {cv : List Value} {next : Act → World → Prop} {Q : Exit → Act → World → Prop} {R : Ending → World → Prop}
    (ho : o.op = .call { callee := .value x, args := xs, argTypes := ts })
    (e1 : a.eval x = .func (.func g) #[] cv.toArray) (hc : Runs P g (xs.toList.map a.eval ++ cv).toArray w R) (hR : ∀ e w', R e w' → ∃ v, e = .returned v ∧ next (a.put o.dst v) w') : o.wp P a w next Q := by
  have hargs : (Array.map a.eval xs) ++ cv.toArray = (xs.toList.map a.eval ++ cv).toArray := by
    apply Array.toList_inj.1
    simp
  rcases hc with ⟨⟨fn, h1, h2, h3⟩, hc⟩ | ⟨v, w', hc, hq⟩
  case inr =>
    have hrun : (execOp a.eval o).run P w = .ok (.value v) w' := by
      simp only [execOp, ho, resolve, e1, Deferred.ofValue, invoke, Sem.run_bind, Sem.run_pure, Result.andThen_ok, Array.empty_append]
      rw [hargs]
      exact hc
    obtain ⟨v', e, hn⟩ := hR _ _ hq
    cases e
    unfold Oper.wp
    rw [hrun]
    exact hn
  have hrun : (execOp a.eval o).run P w = .ok (.enter g (xs.toList.map a.eval ++ cv).toArray) w := by
    have hb : fn.body.isNone = false := by cases hb : fn.body <;> simp_all
    have hp : (program).run P w = .ok P w := rfl
    simp only [execOp, ho, resolve, e1, Deferred.ofValue, invoke, callFunc, Sem.run_bind, Sem.run_pure, Result.andThen_ok, hp, h1, h3, hb, Bool.false_eq_true, if_false, Array.empty_append]
    rw [hargs]
  unfold Oper.wp
  rw [hrun, Oper.upon_enter]
  refine hc.mono fun e w' hw => ?_
  obtain ⟨v, rfl, hn⟩ := hR e w' hw
  exact hn

theorem fn_inv {g : FuncId} {caps : List AV} {v : Value} (h : RelV P w C (.fn g caps) v) : ∃ cv : List Value, v = .func (.func g) #[] cv.toArray ∧ caps.length = cv.length ∧ ∀ (i : Nat) (c : AV) (v : Value), caps[i]? = some c → cv[i]? = some v → RelV P w C c v := by
  have := h.one_inv rfl
  cases this with
  | fn g1 g2 g3 => exact ⟨_, rfl, g1, fun i c v hc hv => .one (g2 i c hc) (g3 i c v hc hv)⟩

/-- What a call's contract gives at the call. -/
theorem acall_wp (hr : RelO P W0 o w C A a) {x : Operand} {xs : Array Operand} {ts : Array TypeId} {g : FuncId} {caps us : List AV} {R : AV → Store → Prop} (ho : o.op = .call { callee := .value x, args := xs, argTypes := ts })
    (hx : Is P W0 o A x (.fn g caps)) (hu : IsL P W0 o A xs.toList us) (hc : ACall P W0 g (us ++ caps) A.st R) {next : Act → World → Prop} {Q : Exit → Act → World → Prop}
    (hn : ∀ v r σ' w' C', R r σ' → StRel P W0 w' C' σ' → RelV P w' C' r v → Step w C w' C' → next (a.put o.dst v) w') : o.wp P a w next Q := by
  obtain ⟨cv, e1, e2, e3⟩ := fn_inv (hx w C a hr)
  have hl : (us ++ caps).length = (xs.toList.map a.eval ++ cv).length := by simp [← hu.1, e2]
  refine call_wp ho e1 (hc w C _ hr.st hl (fun i c v hc' hv => ?_)) (fun e w' he => ?_)
  · by_cases hi : i < us.length
    · rw [List.getElem?_append_left hi] at hc'
      rw [List.getElem?_append_left (by simpa [hu.1] using hi)] at hv
      simp only [List.getElem?_map, Option.map_eq_some_iff] at hv
      obtain ⟨y, hy, rfl⟩ := hv
      exact hu.2 i y c hy hc' w C a hr
    · rw [List.getElem?_append_right (by omega)] at hc'
      rw [List.getElem?_append_right (by simp only [List.length_map]; rw [hu.1]; omega)] at hv
      simp only [List.length_map, hu.1] at hv
      exact e3 _ c v hc' hv
  · obtain ⟨v, r, σ', C', rfl, g1, g2, g3, g4⟩ := he
    exact ⟨v, rfl, hn v r σ' w' C' g1 g2 g3 g4⟩

theorem sound_call {x : Operand} {xs : Array Operand} {ts : Array TypeId} {f : AV} {us : List AV} (ho : o.op = .call { callee := .value x, args := xs, argTypes := ts })
    (hx : imp gd (Is P W0 o A x f)) (hu : imp gd (IsL P W0 o A xs.toList us)) (h : callVC P W0 gd (some A.st) f us K) : ∃ v, K v ∧ imp gd (PureOk P W0 o A v) := by
  unfold callVC at h
  split at h
  · obtain ⟨r, h1, h2⟩ := h
    refine ⟨r, h2, imp.map3 (fun hx hu h1 w C a hr next Q hn => acall_wp hr ho hx hu h1 fun v r' σ' w' C' hR g2 g3 g4 => ?_) hx hu h1⟩
    obtain ⟨rfl, rfl⟩ := hR
    have hC := ctx_same hr.st g2 g4
    subst hC
    exact hn v w' g3 g4 g2
  · exact h.elim

theorem valVC_sound (hr : RelO P W0 o w C A a) (h : valVC P W0 gd o.op A K) : ∃ v, K v ∧ imp gd (PureOk P W0 o A v) := by
  generalize ho : o.op = op at h
  cases op <;> simp only [valVC] at h
  case move x => exact sound_move (.inl ho) (by simp [ho, Op.operands]) h
  case assign x => exact sound_move (.inr ho) (by simp [ho, Op.operands]) h
  case pick c x y =>
    obtain ⟨cv, h, hc⟩ := strip_sound (P := P) (W0 := W0) (o := o) (by simp [ho, Op.operands]) h
    split at h
    · obtain ⟨u, h, hu⟩ := strip2_sound (P := P) (W0 := W0) (o := o) (by simp [ho, Op.operands]) h
      obtain ⟨v, h, hv⟩ := strip2_sound (P := P) (W0 := W0) (o := o) (by simp [ho, Op.operands]) h
      exact ⟨_, h, imp.map3 (fun hc hu hv => (ok_pick ho hc hu (fun e => hv (by simp [e]))).pure) hc hu hv⟩
    · exact h.elim
  case binOp op t x y t' =>
    obtain ⟨u, h, hu⟩ := strip_sound (P := P) (W0 := W0) (o := o) (by simp [ho, Op.operands]) h
    obtain ⟨v, h, hv⟩ := strip_sound (P := P) (W0 := W0) (o := o) (by simp [ho, Op.operands]) h
    unfold binVC at h
    split at h
    · rename_i z hz
      exact ⟨z, h, imp.map2 (fun hu hv => (ok_binOp ho hu hv hz).pure) hu hv⟩
    · exact h.elim
  case unOp op t x =>
    obtain ⟨u, h, hu⟩ := strip_sound (P := P) (W0 := W0) (o := o) (by simp [ho, Op.operands]) h
    unfold unVC at h
    split at h
    · exact ⟨_, h, hu.map fun hu => (ok_not ho hu).pure⟩
    · exact ⟨_, h, hu.map fun hu => (ok_neg ho hu).pure⟩
    · exact h.elim
  case load t x =>
    obtain ⟨u, h, hu⟩ := strip_sound (P := P) (W0 := W0) (o := o) (by simp [ho, Op.operands]) h
    exact sound_load ho hu h
  case fieldAddr s x k =>
    obtain ⟨u, h, hu⟩ := strip_sound (P := P) (W0 := W0) (o := o) (by simp [ho, Op.operands]) h
    exact sound_field ho hu h
  case indexAddr t x ix =>
    obtain ⟨u, h, hu⟩ := strip_sound (P := P) (W0 := W0) (o := o) (by simp [ho, Op.operands]) h
    obtain ⟨v, h, hv⟩ := strip_sound (P := P) (W0 := W0) (o := o) (by simp [ho, Op.operands]) h
    exact sound_indexAddr ho hu hv h
  case index t x ix =>
    obtain ⟨u, h, hu⟩ := strip_sound (P := P) (W0 := W0) (o := o) (by simp [ho, Op.operands]) h
    obtain ⟨v, h, hv⟩ := strip_sound (P := P) (W0 := W0) (o := o) (by simp [ho, Op.operands]) h
    exact sound_index ho hu hv h
  case extract x k =>
    obtain ⟨u, h, hu⟩ := strip_sound (P := P) (W0 := W0) (o := o) (by simp [ho, Op.operands]) h
    unfold extractVC at h
    split at h
    · split at h
      · rename_i v hv
        exact ⟨v, h, hu.map fun hu => (ok_extract ho hu hv).pure⟩
      · exact h.elim
    · exact h.elim
  case nilCheck x =>
    obtain ⟨u, h, hu⟩ := strip_sound (P := P) (W0 := W0) (o := o) (by simp [ho, Op.operands]) h
    exact ⟨u, h.2, hu.map fun hu => (ok_nilCheck ho hu h.1).pure⟩
  case convert s d x =>
    obtain ⟨u, h, hu⟩ := strip_sound (P := P) (W0 := W0) (o := o) (by simp [ho, Op.operands]) h
    unfold convertVC at h
    split at h
    · split at h
      · rename_i k1 k2 hs hd
        exact ⟨_, h, hu.map fun hu => (ok_convert ho hu (by simp [intT_inv hs]) (intT_inv hd)).pure⟩
      · rename_i k1 hs hd
        exact ⟨_, h.2, hu.map fun hu => (ok_convert_rune ho hu (by simp [intT_inv hs]) (isStrT_inv h.1)).pure⟩
      · exact h.elim
    · exact ⟨_, h.2, hu.map fun hu => (ok_convert_text ho hu (isStrT_inv h.1.1) (isStrT_inv h.1.2)).pure⟩
    · exact h.elim
  case makeFunc fn first caps =>
    split at h
    · rename_i f
      obtain ⟨h1, h⟩ := h
      obtain rfl : first = #[] := by rw [← Array.toArray_toList (xs := first), h1]
      obtain ⟨us, h, hu⟩ := stripL_sound (P := P) (W0 := W0) (o := o) _ _ (fun y hy => by simp [ho, Op.operands]; simp at hy; simp [hy]) h
      exact ⟨_, h.2, hu.map fun hu => (ok_makeFunc ho hu h.1).pure⟩
    · exact h.elim
  case slice t x lo hi mx =>
    obtain ⟨rfl, h⟩ := h
    obtain ⟨u, h, hu⟩ := strip_sound (P := P) (W0 := W0) (o := o) (by simp [ho, Op.operands]) h
    exact sound_slice ho (fun y hy => by simp [ho, Op.operands, hy]) (fun y hy => by simp [ho, Op.operands, hy]) hu h
  case lookup t x ix c =>
    cases c
    case true => exact h.elim
    obtain ⟨u, h, hu⟩ := strip_sound (P := P) (W0 := W0) (o := o) (by simp [ho, Op.operands]) h
    obtain ⟨v, h, hv⟩ := strip_sound (P := P) (W0 := W0) (o := o) (by simp [ho, Op.operands]) h
    unfold lookVC at h
    split at h
    · rename_i kt vt ht
      obtain ⟨h1, h2, h3, h4⟩ := h
      split at h4
      · rename_i l hl
        exact ⟨_, h4, imp.map3 (fun hu hv h3 => (ok_lookup ho hu hv ht h1 h2 h3 hl).pure) hu hv h3⟩
      · exact h4.elim
    · exact h.elim
  case box t x =>
    obtain ⟨u, h, hu⟩ := strip_sound (P := P) (W0 := W0) (o := o) (by simp [ho, Op.operands]) h
    exact ⟨_, h.2, hu.map fun hu => (ok_box ho hu (fits_of_B h.1)).pure⟩
  case build t ps =>
    obtain ⟨qs, h, hq⟩ := partsVC_sound (P := P) (W0 := W0) (o := o) _ _ (fun p hp => by simp only [ho, Op.operands]; exact List.mem_toArray.2 (List.mem_map_of_mem hp)) h
    exact sound_build ho hq h
  case buildSlice t m ps =>
    obtain ⟨qs, h, hq⟩ := partsVC_sound (P := P) (W0 := W0) (o := o) _ _ (fun p hp => by simp only [ho, Op.operands]; exact List.mem_toArray.2 (List.mem_map_of_mem hp)) h
    exact sound_buildSlice ho hq h
  case call c =>
    obtain ⟨callee, args, argTypes⟩ := c
    cases callee with
    | builtin b =>
      obtain ⟨us, h, hu⟩ := stripL_sound (P := P) (W0 := W0) (o := o) _ _ (fun y hy => by simp [ho, Op.operands, Call.operands]; simp at hy; simp [hy]) h
      exact sound_builtin hr ho hu h
    | value f =>
      obtain ⟨fv, h, hf⟩ := strip_sound (P := P) (W0 := W0) (o := o) (by simp [ho, Op.operands, Call.operands]) h
      obtain ⟨us, h, hu⟩ := stripL_sound (P := P) (W0 := W0) (o := o) _ _ (fun y hy => by simp [ho, Op.operands, Call.operands]; simp at hy; simp [hy]) h
      exact sound_call ho hf hu h
    | invoke r m => exact h.elim

end
end Go.Av
end
section
set_option linter.unusedSimpArgs false
set_option linter.unusedVariables false
namespace Go.Av
open Go

def Ctx.push (C : Ctx) (ow : Own) : Ctx := { m := fun i => if i = C.nx then some ow else C.m i, nx := C.nx + 1 }
def Ctx.kill (C : Ctx) (id : Nat) : Ctx := { m := fun i => if i = id then none else C.m i, nx := C.nx }

theorem push_m (C : Ctx) (ow : Own) (i : Nat) : (C.push ow).m i = if i = C.nx then some ow else C.m i := rfl
theorem kill_m (C : Ctx) (id i : Nat) : (C.kill id).m i = if i = id then none else C.m i := rfl
theorem kill_nx (C : Ctx) (id : Nat) : (C.kill id).nx = C.nx := rfl

/-- A part of a value at a path, set. -/
def AV.setAt : AV → List Nat → AV → AV
  | _, [], v => v
  | .agg t fs, k :: r, v => match fs[k]? with
    | some y => .agg t (fs.set k (y.setAt r v))
    | none => .agg t fs
  | x, _ :: _, _ => x

section
variable {P : Program} {W0 w w' : World} {C C' : Ctx} {σ σ' : Store} {n : Nat} {A : AState} {a : Act} {o : Oper}

theorem join_push (σ : Store) (o : Option SObj) (i : Nat) : ((σ ++ [o])[i]?).join = if i = σ.length then o else (σ[i]?).join := by
  by_cases h : i < σ.length
  · rw [List.getElem?_append_left h, if_neg (by omega)]
  · rw [List.getElem?_append_right (by omega)]
    by_cases h' : i = σ.length
    · subst h'; simp
    · rw [if_neg h', List.getElem?_eq_none (by simp; omega), List.getElem?_eq_none (by omega)]

theorem join_set (σ : Store) (o : Option SObj) (id i : Nat) (h : id < σ.length) : ((σ.set id o)[i]?).join = if i = id then o else (σ[i]?).join := by
  by_cases h' : i = id
  · subst h'; simp [h]
  · rw [List.getElem?_set_ne (Ne.symm h'), if_neg h']

/-- A step that only lays a block, for what stands with it. -/
theorem step_push (ob : Obj) {ow : Own} (hb : ow.blk = w.heap.size) : Step w C (w.alloc ob) (C.push ow) := by
  refine ⟨Nat.le_succ _, fun id x hid hm => ?_, fun b i hst => ⟨World.cell?_alloc_lt w ob ⟨b, i, none⟩ hst.1, by simp [Nat.lt_succ_of_lt hst.1], fun id x hm he => ?_⟩, rfl, rfl, rfl, by simp, fun b hlt hn => ⟨RowKit.Below.heap_alloc w ob b hlt, fun id x hm => ?_⟩⟩
  · simp only [Ctx.push] at hm
    rw [if_neg (by omega)] at hm
    exact hm
  · simp only [Ctx.push] at hm
    split at hm
    · cases hm; rw [hb] at he; have := hst.1; omega
    · exact hst.2 id x hm he
  · simp only [Ctx.push] at hm
    split at hm
    · cases hm; rw [hb]; omega
    · exact hn id x hm

/-- A new block with a new object of the store in it. -/
theorem StRel.push (h : StRel P W0 w C σ) {ob : Obj} {ow : Own} {so : SObj} (hb : ow.blk = w.heap.size) (hobj : ObjRel P (w.alloc ob) (C.push ow) (some so) (some ow)) :
    Step w C (w.alloc ob) (C.push ow) ∧ StRel P W0 (w.alloc ob) (C.push ow) (σ ++ [some so]) := by
  have hs : Step w C (w.alloc ob) (C.push ow) := step_push ob hb
  refine ⟨hs, h.change hs (fun i x hm => ?_) (by simp [Ctx.push, h.nx]) (fun i j x y hi hj he => ?_) (fun i x hm => ?_) (fun i => ?_)⟩
  · simp only [Ctx.push] at hm
    split at hm
    · cases hm; rw [hb]; exact h.base.size
    · exact h.low i x hm
  · simp only [Ctx.push] at hi hj
    split at hi
    · split at hj
      · omega
      · cases hi; have := h.lt hj; omega
    · split at hj
      · cases hj; have := h.lt hi; omega
      · exact h.inj i j x y hi hj he
  · simp only [Ctx.push] at hm ⊢
    split at hm
    · omega
    · have := h.dom i x hm; omega
  · rw [join_push]
    simp only [Ctx.push]
    by_cases hi : i = σ.length
    · left
      rw [if_pos hi, if_pos (by rw [h.nx]; exact hi)]
      exact hobj
    · right
      rw [if_neg hi, if_neg (by rw [h.nx]; exact hi)]
      exact ⟨rfl, rfl, fun x hx => RowKit.Below.heap_alloc w ob _ (h.lt hx)⟩

/-- An object is given up. -/
theorem StRel.kill (h : StRel P W0 w C σ) (id : Nat) (hid : id < σ.length) : Step w C w (C.kill id) ∧ StRel P W0 w (C.kill id) (σ.set id none) := by
  have hsub : ∀ i x, (C.kill id).m i = some x → C.m i = some x := fun i x hm => by
    simp only [Ctx.kill] at hm
    split at hm
    · cases hm
    · exact hm
  have hs : Step w C w (C.kill id) :=
    ⟨Nat.le_refl _, fun i x _ hm => hsub i x hm, fun b i hst => ⟨rfl, hst.1, fun j x hm he => hst.2 j x (hsub j x hm) he⟩, rfl, rfl, rfl, Nat.le_refl _, fun b _ hn => ⟨rfl, fun j x hm => hn j x (hsub j x hm)⟩⟩
  refine ⟨hs, h.change hs (fun i x hm => h.low i x (hsub i x hm)) (by simp [Ctx.kill, h.nx]) (fun i j x y hi hj he => h.inj i j x y (hsub i x hi) (hsub j y hj) he) (fun i x hm => h.dom i x (hsub i x hm)) (fun i => ?_)⟩
  rw [join_set _ _ _ _ hid]
  by_cases hi : i = id
  · left; subst hi; simp [Ctx.kill, ObjRel]
  · right
    rw [if_neg hi]
    exact ⟨rfl, by simp [Ctx.kill, hi], fun _ _ => rfl⟩

/-- Cells of an object's block are written. -/
theorem step_setRow {id b base room : Nat} {te : TypeId} (hm : C.m id = some (.obj b te base room)) (arr : Array Value) : Step w C (w.setRow b arr) C := by
  refine ⟨Nat.le_refl _, fun _ _ _ hm => hm, fun b' i hst => ?_, rfl, rfl, rfl, by simp, fun b' hlt hn => ⟨setRow_other w b b' arr (fun e => hn id _ hm (by simp [Own.blk, e])), hn⟩⟩
  have hne : b' ≠ b := fun e => by
    obtain ⟨_, _, _, e1, _⟩ := hst.2 id _ hm (by simp [Own.blk, e])
    cases e1
  exact ⟨cell_setRow_other w b arr ⟨b', i, none⟩ hne, by simpa using hst.1, hst.2⟩

theorem splice_nil (arr : Array Value) (off : Nat) (c : List Value) (h : c.length = arr.size) (h0 : off = 0) : splice arr off c = c.toArray := by
  subst h0
  simp only [splice, List.take_zero, List.nil_append, Nat.zero_add]
  rw [List.drop_of_length_le (by simp [h])]
  simp

/-- A splice within a splice. -/
theorem splice_in {arr : Array Value} {o1 o2 : Nat} {c1 c : List Value} (h1 : o1 + c1.length ≤ arr.size) (h2 : o2 + c.length ≤ c1.length) (hat : ∀ (j : Nat) (u : Value), c1[j]? = some u → arr[o1 + j]? = some u) :
    splice arr o1 (splice c1.toArray o2 c).toList = splice arr (o1 + o2) c := by
  have hsz := splice_size (arr := c1.toArray) (off := o2) (l := c) (by simpa using h2)
  have hl : (splice c1.toArray o2 c).toList.length = c1.length := by simpa using hsz
  apply Array.ext_getElem?
  intro p
  rw [splice_get (by rw [hl]; exact h1), splice_get (by omega), hl]
  by_cases g1 : o1 ≤ p ∧ p < o1 + c1.length
  · rw [if_pos g1, Array.getElem?_toList, splice_get (by simpa using h2)]
    by_cases g2 : o2 ≤ p - o1 ∧ p - o1 < o2 + c.length
    · rw [if_pos g2, if_pos (by omega), show p - o1 - o2 = p - (o1 + o2) by omega]
    · rw [if_neg g2, if_neg (by omega)]
      have hlt : p - o1 < c1.length := by omega
      have := hat (p - o1) _ (List.getElem?_eq_getElem hlt)
      rw [show o1 + (p - o1) = p by omega] at this
      rw [this, List.getElem?_toArray, List.getElem?_eq_getElem hlt]
  · rw [if_neg g1, if_neg (by omega)]

theorem setAt_rel : ∀ (path : List Nat) (te t : TypeId) (off : Nat) (x v y : AV) (cs c : List Value), Rel P w C x cs → fits P te x → place P te path = some (t, off) → x.at path = some y → Rel P w C v c → fits P t v →
    off + c.length ≤ cs.length ∧ Rel P w C (x.setAt path v) (splice cs.toArray off c).toList ∧ fits P te (x.setAt path v)
  | [], te, t, off, x, v, y, cs, c, hr, hf, hp, hx, hv, hfv => by
    simp only [place, Option.some.injEq, Prod.mk.injEq] at hp
    obtain ⟨rfl, rfl⟩ := hp
    have hl : c.length = cs.length := by rw [hv.length_fits hfv, hr.length_fits hf]
    have e : x.setAt [] v = v := by cases x <;> rfl
    rw [e, splice_nil _ _ _ (by simpa using hl) rfl]
    exact ⟨by omega, by simpa using hv, hfv⟩
  | k :: r, te, t, off, x, v, y, cs, c, hr, hf, hp, hx, hv, hfv => by
    cases x with
    | agg t' fs =>
      simp only [AV.at] at hx
      obtain ⟨z, hz, hzv⟩ := Option.bind_eq_some_iff.1 hx
      obtain ⟨rfl, hfs⟩ := hf
      simp only [place] at hp
      obtain ⟨ts, hts, hp⟩ := Option.bind_eq_some_iff.1 hp
      obtain ⟨ty, hty, hp'⟩ := Option.bind_eq_some_iff.1 hp
      simp only [Option.map_eq_some_iff, Prod.mk.injEq, Prod.exists] at hp'
      obtain ⟨t1, o1, hpl, rfl, rfl⟩ := hp'
      obtain ⟨c1, r1, r2, r3, r4⟩ := hr.part hts hz hty
      obtain ⟨g1, g2, g3⟩ := setAt_rel r ty t1 o1 z v y c1 c r1 r3 hpl hzv hv hfv
      have hlen2 : (splice c1.toArray o1 c).toList.length = c1.length := by
        have := splice_size (arr := c1.toArray) (off := o1) (l := c) (by simpa using g1)
        simpa using this
      obtain ⟨s1, s2⟩ := (hr.parts hts).set hty g2 g3
      rw [hlen2] at s1
      have hin := splice_in (arr := cs.toArray) (o1 := offAt P ts k) (o2 := o1) (c1 := c1) (c := c) (by simpa using s1) g1 (fun j u hj => by simpa using r4 j u hj)
      rw [hin] at s2
      have hset : (AV.agg t' fs).setAt (k :: r) v = .agg t' (fs.set k (z.setAt r v)) := by simp [AV.setAt, hz]
      rw [hset]
      exact ⟨by omega, s2.rel hts, rfl, hfs⟩
    | _ => simp [AV.at] at hx

/-- A store into a part of an object. -/
theorem store_ptr (hr : RelO P W0 o w C A a) {t : TypeId} {x y : Operand} {id i : Nat} {path : List Nat} {u v : AV} (ho : o.op = .store t x y) (hx : Is P W0 o A x (.ptr t id i path)) (hy : Is P W0 o A y v)
    (hl : look A.st id i path = some u) (hf : fits P t v) {te : TypeId} {xs : List AV} {z : AV} (hs : A.st[id]? = some (some (.cells te xs))) (hz : xs[i]? = some z) :
    ∃ w', (execOp a.eval o).run P w = .ok .skip w' ∧ Step w C w' C ∧ StRel P W0 w' C (A.st.set id (some (.cells te (xs.set i (z.setAt path v))))) := by
  obtain ⟨ad, hv, hid, hm⟩ := (hx w C a hr).ptr_inv
  obtain ⟨te', xs', z', hs', hz', hzv⟩ := look_inv hl
  rw [hs] at hs'
  cases hs'
  rw [hz] at hz'
  cases hz'
  obtain ⟨b, base, room, arr, t', m1, m2, m3, m4, cf, m5⟩ := hr.st.cells hs
  obtain ⟨b', te', base', room', off, e1, e2, rfl⟩ := hm _ m1
  cases e1
  obtain ⟨r1, r2, r3, r4⟩ := m5 i z hz
  have hyv := hy w C a hr
  have hc := hyv.cells hf
  obtain ⟨g1, g2, g3⟩ := setAt_rel path te t off z v u (cf i) _ r1 r3 e2 hzv hc hf
  have hi : i < xs.length := (List.getElem?_eq_some_iff.1 hz).1
  have hcl : (a.eval y).cells.size = szOf P t := by have := hc.length_fits hf; simpa using this
  have hend : base + i * szOf P te + szOf P te ≤ arr.size := by
    rw [m3, Nat.add_assoc, ← Nat.succ_mul]
    exact Nat.le_trans (Nat.add_le_add_left (Nat.mul_le_mul_right _ hi) _) m4
  have hoff : off + (a.eval y).cells.toList.length ≤ szOf P te := by rw [← r2]; exact g1
  have hfit : base + i * szOf P te + off + 0 + (a.eval y).cells.toList.length ≤ arr.size := by omega
  have hst := run_storeCells_at P b (base + i * szOf P te + off) t' (a.eval y).cells.toList 0 arr w m2 hfit hc.oneCell
  simp only [Nat.add_zero] at hst hfit
  have hpos : 0 < szOf P t := by
    cases v <;> simp only [fits, AV.isOne, Bool.false_eq_true, false_and] at hf
    case agg t1 fs =>
      obtain ⟨ts, hts⟩ := Option.isSome_iff_exists.1 hf.2
      exact flds_pos hts
    all_goals rw [(isAgg_of_prim hf.2 default).2]; omega
  obtain ⟨inf, hinf, hsz⟩ := szOf_info hpos
  have hstep := step_setRow (w := w) m1 (splice arr (base + i * szOf P te + off) (a.eval y).cells.toList)
  refine ⟨_, ?_, hstep, ?_⟩
  · have e : splice arr (base + i * szOf P te + off) (a.eval y).cells.toList = (arr.toList.take (base + i * szOf P te + off) ++ (a.eval y).cells.toList ++ arr.toList.drop (base + i * szOf P te + off + (a.eval y).cells.toList.length)).toArray := rfl
    rw [e]
    simp [execOp, ho, Instr.storeAt, Instr.sureAddr, hv, storeVar, sizeOf, typeInfo, hinf, hsz, hcl, hst]
  · have hidl : id < A.st.length := (List.getElem?_eq_some_iff.1 hs).1
    refine hr.st.change hstep hr.st.low (by simpa using hr.st.nx) hr.st.inj hr.st.dom (fun j => ?_)
    rw [join_set _ _ _ _ hidl]
    by_cases hj : j = id
    · left
      subst hj
      rw [if_pos rfl, m1]
      have hsize : (splice arr (base + i * szOf P te + off) (a.eval y).cells.toList).size = arr.size := splice_size hfit
      refine ⟨rfl, _, t', setRow_heap w b arr _ t' _ m2, by rw [hsize, m3], by simpa using m4, fun q => if q = i then (splice (cf i).toArray off (a.eval y).cells.toList).toList else cf q, fun q zq hq => ?_⟩
      by_cases hqi : q = i
      · subst hqi
        simp only [List.getElem?_set_self hi, Option.some.injEq] at hq
        subst hq
        simp only [if_true]
        have hl2 : (splice (cf q).toArray off (a.eval y).cells.toList).toList.length = szOf P te := (g2.mono hstep).length_fits g3
        refine ⟨g2.mono hstep, hl2, g3, fun j c hj => ?_⟩
        have hjl : j < szOf P te := by rw [← hl2]; exact (List.getElem?_eq_some_iff.1 hj).1
        rw [Array.getElem?_toList, splice_get (by simpa using g1)] at hj
        rw [splice_get hfit]
        by_cases hin : off ≤ j ∧ j < off + (a.eval y).cells.toList.length
        · rw [if_pos hin] at hj
          rw [if_pos (by omega), show base + q * szOf P te + j - (base + q * szOf P te + off) = j - off by omega]
          exact hj
        · rw [if_neg hin] at hj
          rw [if_neg (by omega)]
          exact r4 j c (by simpa using hj)
      · rw [List.getElem?_set_ne (Ne.symm hqi)] at hq
        simp only [hqi, if_false]
        obtain ⟨q1, q2, q3, q4⟩ := m5 q zq hq
        refine ⟨q1.mono hstep, q2, q3, fun j c hj => ?_⟩
        have hjl : j < szOf P te := by rw [← q2]; exact (List.getElem?_eq_some_iff.1 hj).1
        rw [splice_get hfit, if_neg ?_]
        · exact q4 j c hj
        · rintro ⟨b1, b2⟩
          rcases Nat.lt_or_gt_of_ne hqi with hlt | hgt
          · have : (q + 1) * szOf P te ≤ i * szOf P te := Nat.mul_le_mul_right _ hlt
            rw [Nat.succ_mul] at this
            omega
          · have : (i + 1) * szOf P te ≤ q * szOf P te := Nat.mul_le_mul_right _ hgt
            rw [Nat.succ_mul] at this
            omega
    · right
      rw [if_neg hj]
      refine ⟨rfl, rfl, fun x hx => setRow_other w b x.blk _ (fun e => hj (hr.st.inj j id x _ hx m1 (by simpa [Own.blk] using e)))⟩

end
end Go.Av
end
section
set_option linter.unusedSimpArgs false
set_option linter.unusedVariables false
namespace Go.Av
open Go

section
variable {P : Program} {W0 w w' : World} {C C' : Ctx} {σ σ' : Store} {n : Nat} {A : AState} {a : Act} {o : Oper}

/-- A variable that may be written: an object. -/
theorem box_obj (hr : RelO P W0 o w C A a) {t : TypeId} {x : Operand} {v : AV} (ho : o.op = .box t x) (hx : Is P W0 o A x v) (hf : fits P t v) :
    ∃ y w' C', (execOp a.eval o).run P w = .ok (.value y) w' ∧ RelV P w' C' (.ptr t A.st.length 0 []) y ∧ Step w C w' C' ∧ StRel P W0 w' C' (A.st ++ [some (.cells t [v])]) := by
  have hc := (hx w C a hr).cells hf
  have hcl : (a.eval x).cells.size = szOf P t := by have := hc.length_fits hf; simpa using this
  obtain ⟨h1, h2⟩ := hr.st.push (ob := .cells (a.eval x).cells t) (ow := .obj w.heap.size t 0 (a.eval x).cells.size) (so := .cells t [v]) rfl
    ⟨rfl, (a.eval x).cells, t, heap_alloc_new w _, rfl, by simp [hcl], fun _ => (a.eval x).cells.toList, fun i z hz => by
      cases i with
      | zero =>
        simp at hz; subst hz
        refine ⟨?_, by simpa using hcl, hf, fun j c hj => by simpa using hj⟩
        exact hc.mono (step_push _ rfl)
      | succ i => simp at hz⟩
  refine ⟨.pointer (some ⟨w.heap.size, 0, none⟩), _, _, ?_, ?_, h1, h2⟩
  · simp only [execOp, ho, Instr.box, newVar, newRow, newObj, Sem.run_bind, Sem.run_pure]
    rfl
  · refine .one rfl (.ptr (by simp [Ctx.push, hr.st.nx]) (fun ow how => ?_))
    simp only [Ctx.push, hr.st.nx, if_true, Option.some.injEq] at how
    subst how
    exact ⟨_, t, 0, _, 0, rfl, rfl, by simp⟩

theorem alloc_obj (hr : RelO P W0 o w C A a) {t : TypeId} {v : AV} (ho : o.op = .alloc t) (hz : zeroOf P t = some v) :
    ∃ y w' C', (execOp a.eval o).run P w = .ok (.value y) w' ∧ RelV P w' C' (.ptr t A.st.length 0 []) y ∧ Step w C w' C' ∧ StRel P W0 w' C' (A.st ++ [some (.cells t [v])]) := by
  obtain ⟨inf, z, hi, hiz, hc, hf⟩ := zeroOf_rel (w := w) (C := C) hz
  have hcl : z.cells.size = szOf P t := by have := hc.length_fits hf; simpa using this
  obtain ⟨h1, h2⟩ := hr.st.push (ob := .cells z.cells t) (ow := .obj w.heap.size t 0 z.cells.size) (so := .cells t [v]) rfl
    ⟨rfl, z.cells, t, heap_alloc_new w _, rfl, by simp [hcl], fun _ => z.cells.toList, fun i y hy => by
      cases i with
      | zero =>
        simp at hy; subst hy
        exact ⟨hc.mono (step_push _ rfl), by simpa using hcl, hf, fun j c hj => by simpa using hj⟩
      | succ i => simp at hy⟩
  refine ⟨.pointer (some ⟨w.heap.size, 0, none⟩), _, _, ?_, ?_, h1, h2⟩
  · simp only [execOp, ho, Instr.alloc, zeroValue, typeInfo, newVar, newRow, newObj, Sem.run_bind]
    simp [Sem.run, program, hi, hiz]
  · refine .one rfl (.ptr (by simp [Ctx.push, hr.st.nx]) (fun ow how => ?_))
    simp only [Ctx.push, hr.st.nx, if_true, Option.some.injEq] at how
    subst how
    exact ⟨_, t, 0, _, 0, rfl, rfl, by simp⟩

/-- An object that is given up is a place to be read. -/
theorem freeze_ptr (h : StRel P W0 w C σ) {t te : TypeId} {id i : Nat} {xs : List AV} {x : AV} {v : Value} (hv : RelV P w C (.ptr t id i []) v) (hs : σ[id]? = some (some (.cells te xs))) (hx : xs[i]? = some x) :
    RelV P w (C.kill id) (.loc t x) v := by
  obtain ⟨ad, rfl, hid, hm⟩ := hv.ptr_inv
  obtain ⟨b, base, room, arr, t', m1, m2, m3, m4, cf, m5⟩ := h.cells hs
  obtain ⟨b', te', base', room', off, e1, e2, rfl⟩ := hm _ m1
  cases e1
  simp only [place, Option.some.injEq, Prod.mk.injEq] at e2
  obtain ⟨rfl, rfl⟩ := e2
  obtain ⟨r1, r2, r3, r4⟩ := m5 i x hx
  have hidl : id < σ.length := (List.getElem?_eq_some_iff.1 hs).1
  obtain ⟨k1, k2⟩ := h.kill id hidl
  refine .one rfl (.loc (r1.mono k1) r3 r2 (fun j c hj => ⟨?_, Stable.free (Array.getElem?_eq_some_iff.1 m2).1 (fun q x hq he => ?_)⟩))
  · have := r4 j c hj
    rw [Nat.add_zero]
    simp [World.cell?, m2, this]
  · simp only [Ctx.kill] at hq
    split at hq
    · cases hq
    · rename_i hne
      exact hne (h.inj q id x _ hq m1 (by simpa [Own.blk] using he))

/-- A row that is given up is a list to be read. -/
theorem freeze_row (h : StRel P W0 w C σ) {e te : TypeId} {id off m : Nat} {xs : List AV} {v : Value} (hv : RelV P w C (.row e id off m) v) (hs : σ[id]? = some (some (.cells te xs))) (hm : off + m ≤ xs.length) :
    RelV P w (C.kill id) (.sl e ((xs.drop off).take m)) v := by
  have hv' := hv.one_inv rfl
  obtain ⟨b, base, room, arr, t', m1, m2, m3, m4, cf, m5⟩ := h.cells hs
  have hidl : id < σ.length := (List.getElem?_eq_some_iff.1 hs).1
  obtain ⟨k1, k2⟩ := h.kill id hidl
  have hlen : ((xs.drop off).take m).length = m := by simp; omega
  have hget : ∀ i x, ((xs.drop off).take m)[i]? = some x → xs[off + i]? = some x := fun i x hx => by
    rw [List.getElem?_take] at hx
    split at hx
    · rwa [List.getElem?_drop] at hx
    · cases hx
  cases hv' with
  | row h1 h2 h3 h4 =>
    obtain ⟨b', base', room', e1, e2, e3⟩ := h4 _ m1
    cases e1
    have hrel : Rel P w (C.kill id) (.sl e ((xs.drop off).take m)) [.slice _ ((xs.drop off).take m).length _] :=
      .sl (a := _) (fun i => cf (off + i)) (by rw [hlen]; exact h1) h2 (fun i x hx => (m5 _ _ (hget i x hx)).1.mono k1) (fun i x hx => ⟨(m5 _ _ (hget i x hx)).2.1, (m5 _ _ (hget i x hx)).2.2.1⟩) (fun hpos => by
        rw [hlen] at hpos
        refine ⟨b, base + off * szOf P e, e2 (by omega), fun i hi j c hj => ⟨?_, Stable.free (Array.getElem?_eq_some_iff.1 m2).1 (fun q x hq he => ?_)⟩⟩
        · have hx := List.getElem?_eq_getElem hi
          have := (m5 _ _ (hget i _ hx)).2.2.2 j c hj
          rw [Nat.add_mul, ← Nat.add_assoc] at this
          simp [World.cell?, m2, this]
        · simp only [Ctx.kill] at hq
          split at hq
          · cases hq
          · rename_i hne
            exact hne (h.inj q id x _ hq m1 (by simpa [Own.blk] using he)))
    rw [hlen] at hrel
    exact .one rfl hrel

end
end Go.Av
end
section
set_option linter.unusedSimpArgs false
set_option linter.unusedVariables false
namespace Go.Av
open Go

/-- The character at a place, and how many bytes it has. -/
def decAt (l : List UInt8) (pos : Nat) : Nat × Nat := Utf8.decode ⟨l.toArray⟩ pos

section
variable {P : Program} {W0 w w' : World} {C C' : Ctx} {σ σ' : Store} {n : Nat} {A : AState} {a : Act} {o : Oper}

theorem iter_obj (hr : RelO P W0 o w C A a) {t : TypeId} {x : Operand} {l : List UInt8} (ho : o.op = .range t x) (hx : Is P W0 o A x (.str l)) (ht : P.underlying t = some .string) :
    ∃ y w' C', (execOp a.eval o).run P w = .ok (.value y) w' ∧ RelV P w' C' (.it A.st.length) y ∧ Step w C w' C' ∧ StRel P W0 w' C' (A.st ++ [some (.iter l 0)]) := by
  have hv := (hx w C a hr).str_inv.1
  obtain ⟨h1, h2⟩ := hr.st.push (ob := .stringIter ⟨l.toArray⟩ 0) (ow := .iter w.heap.size) (so := .iter l 0) rfl (heap_alloc_new w _)
  refine ⟨.pointer (some ⟨w.heap.size, 0, none⟩), _, _, ?_, ?_, h1, h2⟩
  · simp only [execOp, ho, Instr.range, newObj, Sem.run_bind, run_underlying ht, Result.andThen_ok, hv, Sem.run_pure]
    rfl
  · refine .one rfl (.it (by simp [Ctx.push, hr.st.nx]) (fun ow how => ?_))
    simp only [Ctx.push, hr.st.nx, if_true, Option.some.injEq] at how
    subst how
    exact ⟨_, rfl, rfl⟩

theorem StRel.iter (h : StRel P W0 w C σ) {id : Nat} {l : List UInt8} {pos : Nat} (hs : σ[id]? = some (some (.iter l pos))) : ∃ b, C.m id = some (.iter b) ∧ w.heap[b]? = some (.stringIter ⟨l.toArray⟩ pos) := by
  have ho := h.obj id
  rw [hs] at ho
  simp only [Option.join_some] at ho
  cases hm : C.m id with
  | none => rw [hm] at ho; exact ho.elim
  | some ow =>
    rw [hm] at ho
    cases ow with
    | iter b => exact ⟨b, rfl, ho⟩
    | _ => exact ho.elim

theorem it_inv {id : Nat} {v : Value} (h : RelV P w C (.it id) v) : ∃ ad, v = .pointer (some ad) ∧ ∀ ow, C.m id = some ow → ∃ b, ow = .iter b ∧ ad = ⟨b, 0, none⟩ := by
  have := h.one_inv rfl
  cases this with
  | it h1 h2 => exact ⟨_, rfl, h2⟩

theorem iter_over (hr : RelO P W0 o w C A a) {x : Operand} {id : Nat} {l : List UInt8} {pos : Nat} (ho : o.op = .next x true) (hx : Is P W0 o A x (.it id)) (hs : A.st[id]? = some (some (.iter l pos))) (hp : l.length ≤ pos) :
    ∃ y, (execOp a.eval o).run P w = .ok (.value y) w ∧ RelV P w C (.tup [.bool false]) y := by
  obtain ⟨ad, hv, hm⟩ := it_inv (hx w C a hr)
  obtain ⟨b, hc, hb⟩ := hr.st.iter hs
  obtain ⟨b', e, rfl⟩ := hm _ hc
  cases e
  have hsz : ¬ pos < (⟨l.toArray⟩ : ByteArray).size := by show ¬ pos < l.toArray.size; simp; omega
  refine ⟨.tuple #[.bool false], ?_, .tup (vs := [.bool false]) rfl (fun i u z hu hz => ?_)⟩
  · simp only [execOp, ho, Instr.next, hv, getObj, Sem.run_bind]
    simp [Sem.run, hb, hsz, Result.andThen]
  · cases i with
    | zero => simp at hu hz; subst hu hz; exact .one rfl (.bool _)
    | succ i => simp at hu

theorem iter_next (hr : RelO P W0 o w C A a) {x : Operand} {id : Nat} {l : List UInt8} {pos : Nat} (ho : o.op = .next x true) (hx : Is P W0 o A x (.it id)) (hs : A.st[id]? = some (some (.iter l pos))) (hp : pos < l.length) :
    ∃ y w', (execOp a.eval o).run P w = .ok (.value y) w' ∧ RelV P w' C (.tup [.bool true, .int .i64 pos, .int .i32 (decAt l pos).1]) y ∧ Step w C w' C ∧ StRel P W0 w' C (A.st.set id (some (.iter l (pos + (decAt l pos).2)))) := by
  obtain ⟨ad, hv, hm⟩ := it_inv (hx w C a hr)
  obtain ⟨b, hc, hb⟩ := hr.st.iter hs
  obtain ⟨b', e, rfl⟩ := hm _ hc
  cases e
  have hsz : pos < (⟨l.toArray⟩ : ByteArray).size := by show pos < l.toArray.size; simpa using hp
  have hblt : b < w.heap.size := (Array.getElem?_eq_some_iff.1 hb).1
  have hidl : id < A.st.length := (List.getElem?_eq_some_iff.1 hs).1
  have hother : ∀ (b' : Nat), b' ≠ b → (w.heap.setIfInBounds b (.stringIter ⟨l.toArray⟩ (pos + (decAt l pos).2)))[b']? = w.heap[b']? := fun b' hne => by
    rw [Array.getElem?_setIfInBounds_ne (Ne.symm hne)]
  have hstep : Step w C { w with heap := w.heap.setIfInBounds b (.stringIter ⟨l.toArray⟩ (pos + (decAt l pos).2)) } C := by
    refine ⟨Nat.le_refl _, fun _ _ _ hm => hm, fun b' i hst => ?_, rfl, rfl, rfl, by simp, fun b' hlt hn => ⟨hother b' (fun e => hn id _ hc (by simp [Own.blk, e])), hn⟩⟩
    have hne : b' ≠ b := fun e => by
      obtain ⟨_, _, _, e1, _⟩ := hst.2 id _ hc (by simp [Own.blk, e])
      cases e1
    refine ⟨?_, by simpa using hst.1, hst.2⟩
    simp only [World.cell?, hother b' hne]
  refine ⟨.tuple #[.bool true, goInt pos, .int .i32 (decAt l pos).1], _, ?_, .tup (vs := [.bool true, goInt pos, .int .i32 (decAt l pos).1]) rfl (fun i u z hu hz => ?_), hstep, ?_⟩
  · simp only [execOp, ho, Instr.next, hv, getObj, setObj, Sem.run_bind]
    simp [Sem.run, hb, hsz, Result.andThen, decAt]
  · match i with
    | 0 => simp at hu hz; subst hu hz; exact .one rfl (.bool _)
    | 1 => simp [goInt] at hu hz; subst hu hz; exact .one rfl (.int _ _)
    | 2 => simp at hu hz; subst hu hz; exact .one rfl (.int _ _)
    | i + 3 => simp at hu
  · refine hr.st.change hstep hr.st.low (by simpa using hr.st.nx) hr.st.inj hr.st.dom (fun j => ?_)
    rw [join_set _ _ _ _ hidl]
    by_cases hj : j = id
    · left
      subst hj
      rw [if_pos rfl, hc]
      show _ = _
      simp [hblt]
    · right
      rw [if_neg hj]
      refine ⟨rfl, rfl, fun y hy => hother y.blk (fun e => hj (hr.st.inj j id y _ hy hc (by simpa [Own.blk] using e)))⟩

end
end Go.Av
end
section
set_option linter.unusedSimpArgs false
set_option linter.unusedVariables false
namespace Go.Av
open Go

section
variable {P : Program} {W0 w w' : World} {C C' : Ctx} {σ σ' : Store} {n : Nat} {A : AState} {a : Act} {o : Oper}

theorem map_new (hr : RelO P W0 o w C A a) {t : TypeId} (ho : o.op = .makeMap t none) (kt : TypeId) :
    ∃ y w' C', (execOp a.eval o).run P w = .ok (.value y) w' ∧ RelV P w' C' (.mp A.st.length) y ∧ Step w C w' C' ∧ StRel P W0 w' C' (A.st ++ [some (.mp kt [])]) := by
  obtain ⟨h1, h2⟩ := hr.st.push (ob := .map #[] 0) (ow := .mp w.heap.size) (so := .mp kt []) rfl ⟨#[], 0, heap_alloc_new w _, by simp, by simp, by simp⟩
  refine ⟨.map (some w.heap.size), _, _, ?_, ?_, h1, h2⟩
  · simp only [execOp, ho, Instr.makeMap, newObj, Sem.run_bind, Sem.run_pure]
    rfl
  · refine .one rfl (.mp (by simp [Ctx.push, hr.st.nx]) (fun ow how => ?_))
    simp only [Ctx.push, hr.st.nx, if_true, Option.some.injEq] at how
    exact how.symm

theorem map_put (hr : RelO P W0 o w C A a) {t kt vt : TypeId} {x ix y : Operand} {u k v : AV} {id : Nat} {l : List (AV × AV)} (ho : o.op = .mapUpdate t x ix y) (hx : Is P W0 o A x (.mp id)) (hi : Is P W0 o A ix k) (hy : Is P W0 o A y v)
    (ht : mapT P t = some (kt, vt)) (K : Maps.Keyed P kt) (hk : keyC P kt k) (hv : (rig1 v).isSome = true) (hs : A.st[id]? = some (some (.mp kt l))) :
    ∃ w', (execOp a.eval o).run P w = .ok .skip w' ∧ Step w C w' C ∧ StRel P W0 w' C (A.st.set id (some (.mp kt (mset P l k v)))) := by
  obtain ⟨r, hvx, hm⟩ := mp_inv (hx w C a hr)
  obtain ⟨b, hc, es, clock, hb, hd, he1, he2⟩ := hr.st.mp hs
  have hrb : b = r := by cases hm _ hc; rfl
  subst hrb
  obtain ⟨kv, q, hkv, hq⟩ := hk
  have hkey := rig_rel hkv (hi w C a hr)
  obtain ⟨vv, hvv⟩ := Option.isSome_iff_exists.1 hv
  have hval : a.eval y = vv := rig1_rel hvv ((hy w C a hr).one_inv (rig1_one hvv))
  have hu := mapT_inv ht
  have hblt : b < w.heap.size := (Array.getElem?_eq_some_iff.1 hb).1
  have hidl : id < A.st.length := (List.getElem?_eq_some_iff.1 hs).1
  have hother : ∀ (ob : Obj) (b' : Nat), b' ≠ b → (w.heap.setIfInBounds b ob)[b']? = w.heap[b']? := fun ob b' hne => by
    rw [Array.getElem?_setIfInBounds_ne (Ne.symm hne)]
  have hstep : ∀ ob : Obj, Step w C { w with heap := w.heap.setIfInBounds b ob } C := fun ob => by
    refine ⟨Nat.le_refl _, fun _ _ _ hm => hm, fun b' i hst => ?_, rfl, rfl, rfl, by simp, fun b' hlt hn => ⟨hother ob b' (fun e => hn id _ hc (by simp [Own.blk, e])), hn⟩⟩
    have hne : b' ≠ b := fun e => by
      obtain ⟨_, _, _, e1, _⟩ := hst.2 id _ hc (by simp [Own.blk, e])
      cases e1
    refine ⟨?_, by simpa using hst.1, hst.2⟩
    simp only [World.cell?, hother ob b' hne]
  have fin : ∀ (es' : Array MapEntry) (clock' : Nat), MapRel P { w with heap := w.heap.setIfInBounds b (.map es' clock') } kt (mset P l k v) b → StRel P W0 { w with heap := w.heap.setIfInBounds b (.map es' clock') } C (A.st.set id (some (.mp kt (mset P l k v)))) := fun es' clock' hmr => by
    refine hr.st.change (hstep _) hr.st.low (by simpa using hr.st.nx) hr.st.inj hr.st.dom (fun j => ?_)
    rw [join_set _ _ _ _ hidl]
    by_cases hj : j = id
    · left
      subst hj
      rw [if_pos rfl, hc]
      exact hmr
    · right
      rw [if_neg hj]
      refine ⟨rfl, rfl, fun y hy => hother _ y.blk (fun e => hj (hr.st.inj j id y _ hy hc (by simpa [Own.blk] using e)))⟩
  have old : ∀ p, p ∈ mset P l k v ↔ (p ∈ l ∧ rig P p.1 ≠ some kv) ∨ p = (k, v) := fun p => by
    simp only [mset, List.mem_append, List.mem_filter, List.mem_singleton, decide_eq_true_eq, hkv]
  rcases K.find w hq es.toList (fun e he => (he1 e he).1) with ⟨h1, h2⟩ | ⟨j, e, h1, h2, h3⟩
  · refine ⟨_, ?_, hstep _, fin (es.push ⟨kv, vv, clock⟩) (clock + 1) ⟨es.push ⟨kv, vv, clock⟩, clock + 1, by simp [hblt], ?_, fun f hf => ?_, fun p hp => ?_⟩⟩
    · simp [execOp, ho, hvx, hkey, hval, Instr.mapUpdate, run_underlying hu, MapKept.run_getObj_map hb, K.check w false hq, h1, MapKept.run_setObj_map _ hb, Result.andThen]
    · rw [Array.toList_push, List.pairwise_append]
      refine ⟨hd, by simp, fun e he f hf => ?_⟩
      rw [List.mem_singleton.1 hf]
      exact h2 e he
    · rw [Array.toList_push, List.mem_append, List.mem_singleton] at hf
      rcases hf with hf | rfl
      · obtain ⟨g1, p, g2, g3, g4⟩ := he1 f hf
        exact ⟨g1, p, (old p).2 (.inl ⟨g2, fun e => h2 f hf (by rw [g3] at e; exact Option.some.inj e)⟩), g3, g4⟩
      · exact ⟨⟨q, hq⟩, (k, v), (old _).2 (.inr rfl), hkv, hvv⟩
    · rcases (old p).1 hp with ⟨g1, g2⟩ | rfl
      · obtain ⟨f, hf, g3⟩ := he2 p g1
        exact ⟨f, by rw [Array.toList_push]; exact List.mem_append_left _ hf, g3⟩
      · exact ⟨⟨kv, vv, clock⟩, by simp, hkv, hvv⟩
  · have hj : es[j]? = some e := by simpa using h2
    have hlist : (es.modify j fun f => { f with key := kv, val := vv }).toList = es.toList.set j { e with key := kv, val := vv } := by
      rw [Array.toList_modify]
      refine List.ext_getElem? fun q => ?_
      rw [List.getElem?_modify, List.getElem?_set]
      by_cases hq' : j = q
      · subst hq'
        obtain ⟨hjl', hje⟩ := Array.getElem?_eq_some_iff.1 hj
        simp [hjl', hje]
      · simp [hq']
    have hjl : j < es.toList.length := (List.getElem?_eq_some_iff.1 h2).1
    have hem : e ∈ es.toList := List.mem_of_getElem? h2
    have hin : ∀ f, f ∈ es.toList.set j { e with key := kv, val := vv } ↔ (f ∈ es.toList ∧ f.key ≠ kv) ∨ f = { e with key := kv, val := vv } := fun f => by
      constructor
      · intro hf
        obtain ⟨i, hi⟩ := List.mem_iff_getElem?.1 hf
        by_cases hij : j = i
        · subst hij
          rw [List.getElem?_set_self hjl] at hi
          exact .inr (Option.some.inj hi).symm
        · rw [List.getElem?_set_ne hij] at hi
          refine .inl ⟨List.mem_of_getElem? hi, fun hk => hij ?_⟩
          have hfe := pair_uniq hd (List.mem_of_getElem? hi) hem (by rw [hk, h3])
          subst hfe
          have hnd : es.toList.Nodup := hd.imp fun h e => h (by rw [e])
          exact (List.getElem?_inj hjl hnd).1 (by rw [h2, hi])
      · rintro (⟨hf, hk⟩ | rfl)
        · obtain ⟨i, hi⟩ := List.mem_iff_getElem?.1 hf
          have hij : j ≠ i := fun e1 => by
            subst e1
            rw [h2] at hi
            cases hi
            exact hk h3
          exact List.mem_of_getElem? (i := i) (by rw [List.getElem?_set_ne hij]; exact hi)
        · exact List.mem_of_getElem? (i := j) (by rw [List.getElem?_set_self hjl])
    have hst := K.stays w hq
    refine ⟨_, ?_, hstep _, fin (es.modify j fun f => { f with key := kv, val := vv }) clock ⟨es.modify j fun f => { f with key := kv, val := vv }, clock, by simp [hblt], ?_, fun f hf => ?_, fun p hp => ?_⟩⟩
    · simp [execOp, ho, hvx, hkey, hval, Instr.mapUpdate, run_underlying hu, MapKept.run_getObj_map hb, K.check w false hq, h1, hj, h3, hst, MapKept.run_setObj_map _ hb, Result.andThen]
    · rw [hlist, List.pairwise_iff_getElem]
      intro i m hi hm him
      rw [List.length_set] at hi hm
      have base := List.pairwise_iff_getElem.1 hd i m hi hm him
      rw [List.getElem_set, List.getElem_set]
      have ej : es.toList[j] = e := by rw [List.getElem?_eq_getElem hjl] at h2; exact Option.some.inj h2
      split
      · rename_i e1
        split
        · omega
        · subst e1
          rw [ej, h3] at base
          exact base
      · split
        · rename_i e1
          subst e1
          rw [ej, h3] at base
          exact base
        · exact base
    · rw [hlist, hin] at hf
      rcases hf with ⟨hf, hne⟩ | rfl
      · obtain ⟨g1, p, g2, g3, g4⟩ := he1 f hf
        exact ⟨g1, p, (old p).2 (.inl ⟨g2, fun e => hne (by rw [g3] at e; exact Option.some.inj e)⟩), g3, g4⟩
      · exact ⟨⟨q, hq⟩, (k, v), (old _).2 (.inr rfl), hkv, hvv⟩
    · rcases (old p).1 hp with ⟨g1, g2⟩ | rfl
      · obtain ⟨f, hf, g3, g4⟩ := he2 p g1
        exact ⟨f, by rw [hlist, hin]; exact .inl ⟨hf, fun e => g2 (by rw [g3, e])⟩, g3, g4⟩
      · exact ⟨{ e with key := kv, val := vv }, by rw [hlist, hin]; exact .inr rfl, hkv, hvv⟩
end
end Go.Av
end
section
set_option linter.unusedSimpArgs false
set_option linter.unusedVariables false
namespace Go.Av
open Go

/-- No object from n on is named. -/
inductive IdsLt (n : Nat) : AV → Prop
  | undef : IdsLt n .undef
  | int (k m) : IdsLt n (.int k m)
  | bool (b) : IdsLt n (.bool b)
  | str (l) : IdsLt n (.str l)
  | nil : IdsLt n .nil
  | nils : IdsLt n .nils
  | nilm : IdsLt n .nilm
  | sl {e xs} : (∀ x ∈ xs, IdsLt n x) → IdsLt n (.sl e xs)
  | lit {e xs} : (∀ x ∈ xs, IdsLt n x) → IdsLt n (.lit e xs)
  | own {e xs tok} : tok < n → (∀ x ∈ xs, IdsLt n x) → IdsLt n (.own e xs tok)
  | row {e id off m} : id < n → IdsLt n (.row e id off m)
  | agg {t fs} : (∀ x ∈ fs, IdsLt n x) → IdsLt n (.agg t fs)
  | loc {t v} : IdsLt n v → IdsLt n (.loc t v)
  | ptr {t id i path} : id < n → IdsLt n (.ptr t id i path)
  | it {id} : id < n → IdsLt n (.it id)
  | mp {id} : id < n → IdsLt n (.mp id)
  | fn {f caps} : (∀ x ∈ caps, IdsLt n x) → IdsLt n (.fn f caps)
  | tup {vs} : (∀ x ∈ vs, IdsLt n x) → IdsLt n (.tup vs)
  | maybe {g v} : IdsLt n v → IdsLt n (.maybe g v)

/-- What a value also is, wherever it stands. -/
inductive Sub : AV → AV → Prop
  | refl (x) : Sub x x
  | trans {x y z} : Sub x y → Sub y z → Sub x z
  | own (e xs tok) : Sub (.own e xs tok) (.sl e xs)
  | lit (e xs) : Sub (.lit e xs) (.sl e xs)
  | nils (e) : Sub .nils (.sl e [])
  | agg {t} {xs ys : List AV} : xs.length = ys.length → (∀ (i : Nat) (x y : AV), xs[i]? = some x → ys[i]? = some y → Sub x y) → Sub (.agg t xs) (.agg t ys)
  | sls {e} {xs ys : List AV} : xs.length = ys.length → (∀ (i : Nat) (x y : AV), xs[i]? = some x → ys[i]? = some y → Sub x y) → Sub (.sl e xs) (.sl e ys)
  | lits {e} {xs ys : List AV} : xs.length = ys.length → (∀ (i : Nat) (x y : AV), xs[i]? = some x → ys[i]? = some y → Sub x y) → Sub (.lit e xs) (.lit e ys)
  | owns {e tok} {xs ys : List AV} : xs.length = ys.length → (∀ (i : Nat) (x y : AV), xs[i]? = some x → ys[i]? = some y → Sub x y) → Sub (.own e xs tok) (.own e ys tok)
  | loc {t x y} : Sub x y → Sub (.loc t x) (.loc t y)

/-- What a value also is. -/
inductive Weak : AV → AV → Prop
  | sub {x y} : Sub x y → Weak x y
  | refl (x) : Weak x x
  | own (e xs tok) : Weak (.own e xs tok) (.sl e xs)
  | lit (e xs) : Weak (.lit e xs) (.sl e xs)
  | nils (e) : Weak .nils (.sl e [])
  | undef (x) : Weak x .undef
  | trans {x y z} : Weak x y → Weak y z → Weak x z
  | tup {xs ys : List AV} : xs.length = ys.length → (∀ (i : Nat) (x y : AV), xs[i]? = some x → ys[i]? = some y → Weak x y) → Weak (.tup xs) (.tup ys)

section
variable {P : Program} {W0 w w' : World} {C C' : Ctx} {σ σ' : Store} {n : Nat} {A : AState} {a : Act} {o : Oper}

theorem Rel.idsLt {x : AV} {cs : List Value} (h : Rel P w C x cs) : IdsLt C.nx x := by
  have mem : ∀ {xs : List AV} {cf : Nat → List Value}, (∀ (i : Nat) (x : AV), xs[i]? = some x → IdsLt C.nx x) → ∀ x ∈ xs, IdsLt C.nx x := fun {xs cf} h x hx => by
    obtain ⟨i, hi, he⟩ := List.getElem_of_mem hx
    exact h i x (by rw [← he]; exact List.getElem?_eq_getElem hi)
  induction h with
  | int k n => exact .int k n
  | bool b => exact .bool b
  | str => exact .str _
  | nil => exact .nil
  | nils => exact .nils
  | nilm => exact .nilm
  | sl cf _ _ _ _ _ ih => exact .sl (mem (cf := cf) ih)
  | lit cf _ _ _ _ ih => exact .lit (mem (cf := cf) ih)
  | own cf _ _ _ _ _ h6 _ ih => exact .own h6 (mem (cf := cf) ih)
  | row _ _ h3 => exact .row h3
  | agg cf _ _ _ _ _ _ ih => exact .agg (mem (cf := cf) ih)
  | loc _ _ _ _ ih => exact .loc ih
  | ptr h1 => exact .ptr h1
  | it h1 => exact .it h1
  | mp h1 => exact .mp h1
  | fn h1 h2 h3 ih =>
    refine .fn (mem (cf := fun _ => []) fun i x hx => ?_)
    have hi := (List.getElem?_eq_some_iff.1 hx).1
    exact ih i x _ hx (List.getElem?_eq_getElem (by rw [← h1]; exact hi))

theorem idsLt_mono {m : Nat} (hm : n ≤ m) {x : AV} (h : IdsLt n x) : IdsLt m x := by
  induction h with
  | undef => exact .undef
  | int k n => exact .int k n
  | bool b => exact .bool b
  | str => exact .str _
  | nil => exact .nil
  | nils => exact .nils
  | nilm => exact .nilm
  | sl _ ih => exact .sl ih
  | lit _ ih => exact .lit ih
  | own h1 _ ih => exact .own (Nat.lt_of_lt_of_le h1 hm) ih
  | row h1 => exact .row (Nat.lt_of_lt_of_le h1 hm)
  | agg _ ih => exact .agg ih
  | loc _ ih => exact .loc ih
  | ptr h1 => exact .ptr (Nat.lt_of_lt_of_le h1 hm)
  | it h1 => exact .it (Nat.lt_of_lt_of_le h1 hm)
  | mp h1 => exact .mp (Nat.lt_of_lt_of_le h1 hm)
  | fn _ ih => exact .fn ih
  | tup _ ih => exact .tup ih
  | maybe _ ih => exact .maybe ih

/-- The beginning of a context. -/
def Ctx.upTo (C : Ctx) (n : Nat) : Ctx := { m := fun i => if i < n then C.m i else none, nx := n }

theorem upTo_sub {i : Nat} {ow : Own} (h : (C.upTo n).m i = some ow) : i < n ∧ C.m i = some ow := by
  simp only [Ctx.upTo] at h
  split at h
  · exact ⟨by assumption, h⟩
  · cases h

theorem Stable.upTo {b i : Nat} (h : Stable w C b i) (n : Nat) : Stable w (C.upTo n) b i := ⟨h.1, fun id ow hm he => h.2 id ow (upTo_sub hm).2 he⟩

theorem Rel.upTo {x : AV} {cs : List Value} (h : Rel P w C x cs) (hi : IdsLt n x) : Rel P w (C.upTo n) x cs := by
  have hcells : ∀ {b off : Nat} {cs : List Value}, Cells w C b off cs → Cells w (C.upTo n) b off cs := fun hc j c hj => ⟨(hc j c hj).1, (hc j c hj).2.upTo n⟩
  have hreads : ∀ {size m : Nat} {a : Option Addr} {cf : Nat → List Value}, SlReads w C size a m cf → SlReads w (C.upTo n) size a m cf := fun hr hm => by
    obtain ⟨b, off, e, hc⟩ := hr hm
    exact ⟨b, off, e, fun i hi => hcells (hc i hi)⟩
  induction h with
  | int k n => exact .int k n
  | bool b => exact .bool b
  | str h => exact .str h
  | nil => exact .nil
  | nils => exact .nils
  | nilm => exact .nilm
  | sl cf h1 h2 _ h4 h5 ih => cases hi with | sl hi => exact .sl cf h1 h2 (fun i x hx => ih i x hx (hi x (List.mem_of_getElem? hx))) h4 (hreads h5)
  | lit cf h1 _ h4 h5 ih => cases hi with | lit hi => exact .lit cf h1 (fun i x hx => ih i x hx (hi x (List.mem_of_getElem? hx))) h4 (hreads h5)
  | own cf h1 h2 _ h4 h5 h6 h7 ih => cases hi with | own ht hi => exact .own cf h1 h2 (fun i x hx => ih i x hx (hi x (List.mem_of_getElem? hx))) h4 (hreads h5) ht (fun ow how => h7 ow (upTo_sub how).2)
  | row h1 h2 h3 h4 => cases hi with | row hi => exact .row h1 h2 hi (fun ow how => h4 ow (upTo_sub how).2)
  | agg cf h1 h2 h3 h4 _ h6 ih => cases hi with | agg hi => exact .agg cf h1 h2 h3 h4 (fun i x hx => ih i x hx (hi x (List.mem_of_getElem? hx))) h6
  | loc _ h2 h3 h4 ih => cases hi with | loc hi => exact .loc (ih hi) h2 h3 (hcells h4)
  | ptr h1 h2 => cases hi with | ptr hi => exact .ptr hi (fun ow how => h2 ow (upTo_sub how).2)
  | it h1 h2 => cases hi with | it hi => exact .it hi (fun ow how => h2 ow (upTo_sub how).2)
  | mp h1 h2 => cases hi with | mp hi => exact .mp hi (fun ow how => h2 ow (upTo_sub how).2)
  | fn h1 h2 _ ih => cases hi with | fn hi => exact .fn h1 h2 (fun i c v hc hv => ih i c v hc hv (hi c (List.mem_of_getElem? hc)))

theorem RelV.upTo {x : AV} {v : Value} (h : RelV P w C x v) (hi : IdsLt n x) : RelV P w (C.upTo n) x v := by
  induction h with
  | undef v => exact .undef v
  | maybe _ h2 ih => cases hi with | maybe hi => exact .maybe (fun g => ih g hi) h2
  | tup h1 _ ih => cases hi with | tup hi => exact .tup h1 (fun i a v ha hv => ih i a v ha hv (hi a (List.mem_of_getElem? ha)))
  | agg h1 => exact .agg (h1.upTo hi)
  | one h1 h2 => exact .one h1 (h2.upTo hi)

/-- What lies behind the beginning of a store is forgotten: where the beginning names nothing of it. -/
theorem StRel.upTo (h : StRel P W0 w C σ) (hn : n ≤ σ.length) (hi : ∀ id te xs, id < n → σ[id]? = some (some (.cells te xs)) → ∀ x ∈ xs, IdsLt n x) : StRel P W0 w (C.upTo n) (σ.take n) := by
  refine ⟨h.base, fun i ow hm => h.low i ow (upTo_sub hm).2, by simp [Ctx.upTo]; omega, fun i j a b ha hb he => h.inj i j a b (upTo_sub ha).2 (upTo_sub hb).2 he, fun i ow hm => (upTo_sub hm).1, fun i => ?_⟩
  by_cases hin : i < n
  · have e1 : (σ.take n)[i]? = σ[i]? := by rw [List.getElem?_take, if_pos hin]
    have e2 : (C.upTo n).m i = C.m i := by simp [Ctx.upTo, hin]
    rw [e1, e2]
    have ho := h.obj i
    unfold ObjRel at ho ⊢
    split at ho
    · trivial
    · rename_i te xs b te' base room hs hm
      have hs' : σ[i]? = some (some (.cells te xs)) := by
        cases hσ : σ[i]? with
        | none => rw [hσ] at hs; cases hs
        | some q => rw [hσ] at hs; simp at hs; rw [hs]
      obtain ⟨h1, arr, t', h2, h3, h4, cf, h5⟩ := ho
      refine ⟨h1, arr, t', h2, h3, h4, cf, fun q x hx => ?_⟩
      obtain ⟨r1, r2, r3, r4⟩ := h5 q x hx
      exact ⟨r1.upTo (hi i te xs hin hs' x (List.mem_of_getElem? hx)), r2, r3, r4⟩
    · exact ho
    · exact ho
    · exact ho
    · exact ho.elim
  · have e1 : ((σ.take n)[i]?).join = none := by rw [List.getElem?_take, if_neg hin]; rfl
    have e2 : (C.upTo n).m i = none := by simp [Ctx.upTo, hin]
    rw [e1, e2]
    trivial

theorem Step.upTo (h : Step w C w' C') (hn : C.nx ≤ n) : Step w C w' (C'.upTo n) where
  nx := hn
  dead := fun id ow hid hm => h.dead id ow hid (upTo_sub hm).2
  stable := fun b i hs => ⟨(h.stable b i hs).1, (h.stable b i hs).2.upTo n⟩
  os := h.os
  tape := h.tape
  output := h.output
  size := h.size
  block := fun b hb hf => ⟨(h.block b hb hf).1, fun id ow hm => (h.block b hb hf).2 id ow (upTo_sub hm).2⟩

/-- What is in a store names nothing behind it. -/
theorem StRel.ids (h : StRel P W0 w C σ) {id : Nat} {te : TypeId} {xs : List AV} (hs : σ[id]? = some (some (.cells te xs))) : ∀ x ∈ xs, IdsLt σ.length x := fun x hx => by
  obtain ⟨b, base, room, arr, t', m1, m2, m3, m4, cf, m5⟩ := h.cells hs
  obtain ⟨i, hi, he⟩ := List.getElem_of_mem hx
  rw [← h.nx]
  exact (m5 i x (by rw [← he]; exact List.getElem?_eq_getElem hi)).1.idsLt

theorem Rel.sl_weak {e : TypeId} {xs : List AV} {x : AV} {cs : List Value} (h : Rel P w C x cs) (hx : x = .lit e xs ∨ ∃ tok, x = .own e xs tok) : Rel P w C (.sl e xs) cs := by
  rcases hx with rfl | ⟨tok, rfl⟩
  · cases h with | lit cf h1 h3 h4 h5 => exact .sl cf (Nat.le_refl _) h1 h3 h4 h5
  · cases h with | own cf h1 h2 h3 h4 h5 => exact .sl cf h1 h2 h3 h4 h5

theorem Rel.nils_weak {e : TypeId} {cs : List Value} (h : Rel P w C .nils cs) : Rel P w C (.sl e []) cs := by
  cases h
  exact .sl (xs := []) (fun _ => []) (Nat.le_refl _) (Nat.zero_le _) (by simp) (by simp) (fun hp => absurd hp (by simp))

theorem Sub.one {x y : AV} (h : Sub x y) : y.isOne = x.isOne := by
  induction h with
  | trans _ _ ih1 ih2 => exact ih2.trans ih1
  | _ => rfl

theorem Sub.cases3 {x y : AV} (h : Sub x y) : x = y ∨ (x.isOne = true ∧ y.isOne = true) ∨ ∃ t fs fs', x = .agg t fs ∧ y = .agg t fs' := by
  induction h with
  | refl => exact .inl rfl
  | trans _ _ ih1 ih2 =>
    rcases ih1 with rfl | ⟨h1, h2⟩ | ⟨t, fs, fs', rfl, rfl⟩
    · exact ih2
    · rcases ih2 with rfl | ⟨h3, h4⟩ | ⟨t, fs, fs', rfl, rfl⟩
      · exact .inr (.inl ⟨h1, h2⟩)
      · exact .inr (.inl ⟨h1, h4⟩)
      · simp [AV.isOne] at h2
    · rcases ih2 with rfl | ⟨h3, h4⟩ | ⟨t', gs, gs', e, rfl⟩
      · exact .inr (.inr ⟨_, _, _, rfl, rfl⟩)
      · simp [AV.isOne] at h3
      · cases e
        exact .inr (.inr ⟨_, _, _, rfl, rfl⟩)
  | agg => exact .inr (.inr ⟨_, _, _, rfl, rfl⟩)
  | _ => exact .inr (.inl ⟨rfl, rfl⟩)

theorem Sub.fits {x y : AV} (h : Sub x y) (t : TypeId) (hf : fits P t x) : fits P t y := by
  induction h with
  | refl => exact hf
  | trans _ _ ih1 ih2 => exact ih2 (ih1 hf)
  | _ => exact hf

theorem Rel.sub {x y : AV} (hw : Sub x y) {cs : List Value} (h : Rel P w C x cs) : Rel P w C y cs := by
  have lists : ∀ {e : TypeId} {xs ys : List AV} {cf : Nat → List Value}, xs.length = ys.length → (∀ (i : Nat) (x y : AV), xs[i]? = some x → ys[i]? = some y → Sub x y) →
      (∀ (i : Nat) (x y : AV), xs[i]? = some x → ys[i]? = some y → ∀ {cs : List Value}, Rel P w C x cs → Rel P w C y cs) →
      (∀ (i : Nat) (x : AV), xs[i]? = some x → Rel P w C x (cf i)) → (∀ i x, xs[i]? = some x → (cf i).length = szOf P e ∧ Av.fits P e x) →
      (∀ (i : Nat) (x : AV), ys[i]? = some x → Rel P w C x (cf i)) ∧ (∀ i x, ys[i]? = some x → (cf i).length = szOf P e ∧ Av.fits P e x) := fun {e xs ys cf} hl hs ih h1 h2 => by
    have get : ∀ (i : Nat) (y : AV), ys[i]? = some y → ∃ x, xs[i]? = some x := fun i y hy => ⟨_, List.getElem?_eq_getElem (by rw [hl]; exact (List.getElem?_eq_some_iff.1 hy).1)⟩
    refine ⟨fun i y hy => ?_, fun i y hy => ?_⟩
    · obtain ⟨x, hx⟩ := get i y hy
      exact ih i x y hx hy (h1 i x hx)
    · obtain ⟨x, hx⟩ := get i y hy
      exact ⟨(h2 i x hx).1, (hs i x y hx hy).fits e (h2 i x hx).2⟩
  induction hw generalizing cs with
  | refl => exact h
  | trans _ _ ih1 ih2 => exact ih2 (ih1 h)
  | own e xs tok => exact h.sl_weak (.inr ⟨tok, rfl⟩)
  | lit e xs => exact h.sl_weak (.inl rfl)
  | nils e => exact h.nils_weak
  | agg hl hs ih =>
    rename_i t xs ys
    cases h with
    | agg cf h1 h2 h3 h4 h5 h6 =>
      have get : ∀ (i : Nat) (y : AV), ys[i]? = some y → ∃ x, xs[i]? = some x := fun i y hy => ⟨_, List.getElem?_eq_getElem (by rw [hl]; exact (List.getElem?_eq_some_iff.1 hy).1)⟩
      refine .agg cf h1 (by omega) h3 h4 (fun i y hy => ?_) (fun i y ty hy hty => ?_)
      · obtain ⟨x, hx⟩ := get i y hy
        exact ih i x y hx hy (h5 i x hx)
      · obtain ⟨x, hx⟩ := get i y hy
        obtain ⟨g1, g2, g3⟩ := h6 i x ty hx hty
        exact ⟨g1, (hs i x y hx hy).fits ty g2, g3⟩
  | sls hl hs ih =>
    cases h with
    | sl cf h1 h2 h3 h4 h5 =>
      obtain ⟨g1, g2⟩ := lists hl hs (fun i x y hx hy {cs} h => ih i x y hx hy h) h3 h4
      rw [hl] at h1 h5 ⊢
      exact .sl cf h1 h2 g1 g2 h5
  | lits hl hs ih =>
    cases h with
    | lit cf h1 h3 h4 h5 =>
      obtain ⟨g1, g2⟩ := lists hl hs (fun i x y hx hy {cs} h => ih i x y hx hy h) h3 h4
      rw [hl] at h1 h5 ⊢
      exact .lit cf h1 g1 g2 h5
  | owns hl hs ih =>
    cases h with
    | own cf h1 h2 h3 h4 h5 h6 h7 =>
      obtain ⟨g1, g2⟩ := lists hl hs (fun i x y hx hy {cs} h => ih i x y hx hy h) h3 h4
      rw [hl] at h1 h5 h7 ⊢
      exact .own cf h1 h2 g1 g2 h5 h6 h7
  | loc hs ih =>
    cases h with
    | loc h1 h2 h3 h4 => exact .loc (ih h1) (hs.fits _ h2) h3 h4

theorem RelV.weak {x y : AV} {v : Value} (hw : Weak x y) (h : RelV P w C x v) : RelV P w C y v := by
  induction hw generalizing v with
  | sub hs =>
    rcases hs.cases3 with rfl | ⟨h1, h2⟩ | ⟨t, fs, fs', rfl, rfl⟩
    · exact h
    · exact .one h2 ((h.one_inv h1).sub hs)
    · cases h with
      | agg h1 => exact .agg (h1.sub hs)
      | one h1 => simp [AV.isOne] at h1
  | refl x => exact h
  | own e xs tok => exact .one rfl ((h.one_inv rfl).sl_weak (.inr ⟨tok, rfl⟩))
  | lit e xs => exact .one rfl ((h.one_inv rfl).sl_weak (.inl rfl))
  | nils e => exact .one rfl (h.one_inv rfl).nils_weak
  | undef x => exact .undef v
  | trans _ _ ih1 ih2 => exact ih2 (ih1 h)
  | tup hl _ ih =>
    rename_i xs ys _
    obtain ⟨vs, rfl, e1, e2⟩ := h.tup_inv
    refine .tup (by omega) (fun i y v hy hv => ?_)
    have hi := (List.getElem?_eq_some_iff.1 hy).1
    have hx := List.getElem?_eq_getElem (l := xs) (show i < xs.length by omega)
    exact ih i _ y hx hy (e2 i _ v hx hv)

/-- Call with what the arguments also are. -/
inductive WeakL : List AV → List AV → Prop
  | nil : WeakL [] []
  | cons {x y xs ys} : Weak x y → WeakL xs ys → WeakL (x :: xs) (y :: ys)

theorem WeakL.get {xs ys : List AV} (h : WeakL xs ys) : xs.length = ys.length ∧ ∀ (i : Nat) (y : AV), ys[i]? = some y → ∃ x, xs[i]? = some x ∧ Weak x y := by
  induction h with
  | nil => exact ⟨rfl, by simp⟩
  | cons h1 _ ih =>
    refine ⟨by simp [ih.1], fun i y hy => ?_⟩
    cases i with
    | zero => simp at hy; subst hy; exact ⟨_, rfl, h1⟩
    | succ i => simp at hy ⊢; exact ih.2 i y hy

theorem WeakL.refl : ∀ xs, WeakL xs xs
  | [] => .nil
  | x :: xs => .cons (.refl x) (WeakL.refl xs)

theorem ACall.weak {f : FuncId} {xs ys : List AV} {Q : AV → Store → Prop} (h : ACall P W0 f ys σ Q) (hw : WeakL xs ys) : ACall P W0 f xs σ Q :=
  fun w C vs hst hl hr => h w C vs hst (by rw [← hw.get.1]; exact hl) (fun i y v hy hv => by
    obtain ⟨x, hx, hxy⟩ := hw.get.2 i y hy
    exact (hr i x v hx hv).weak hxy)

theorem ACall.mono {f : FuncId} {xs : List AV} {Q Q' : AV → Store → Prop} (h : ACall P W0 f xs σ Q) (hq : ∀ r σ', Q r σ' → Q' r σ') : ACall P W0 f xs σ Q' :=
  fun w C vs hst hl hr => (h w C vs hst hl hr).mono fun _ _ ⟨v, r, σ', C', e, q, rest⟩ => ⟨v, r, σ', C', e, hq _ _ q, rest⟩

theorem PureFn.weak {f : FuncId} {xs ys : List AV} {r : AV} (h : PureFn P W0 f ys r) (hw : WeakL xs ys) : PureFn P W0 f xs r := fun σ => (h σ).weak hw

end
end Go.Av
end
