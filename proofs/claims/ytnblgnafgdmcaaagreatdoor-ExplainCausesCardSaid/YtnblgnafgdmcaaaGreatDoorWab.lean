/- Texts that the last one of this claim rests on: a layer over the guide's own conditions for code; contracts of the functions that the law reaches, one by one. No conditions beside those of the given rows. -/
import Derived.WalkKit
import Derived.WalkSpells
import Derived.WalkLawsBesides
section
set_option linter.unusedSimpArgs false
set_option linter.unusedVariables false
namespace Go.Av
open Go

inductive AV where
  | undef
  | int (k : IntKind) (n : Int)
  | bool (b : Bool)
  | str (l : List UInt8)
  | nil
  | nils
  | nilm
  | sl (e : TypeId) (xs : List AV)
  | lit (e : TypeId) (xs : List AV)
  | own (e : TypeId) (xs : List AV) (tok : Nat)
  | row (e : TypeId) (id off n : Nat)
  | agg (t : TypeId) (fs : List AV)
  | loc (t : TypeId) (v : AV)
  | ptr (t : TypeId) (id i : Nat) (path : List Nat)
  | it (id : Nat)
  | mp (id : Nat)
  | fn (f : FuncId) (caps : List AV)
  | tup (vs : List AV)
  | maybe (g : Bool) (v : AV)
  deriving Inhabited

inductive SObj where
  | cells (t : TypeId) (xs : List AV)
  | tok
  | iter (l : List UInt8) (pos : Nat)
  | mp (kt : TypeId) (l : List (AV × AV))
  deriving Inhabited

abbrev Store := List (Option SObj)

inductive Own where
  | obj (b : Nat) (t : TypeId) (base room : Nat)
  | tok (b : Nat) (e : TypeId) (hw cap : Nat)
  | iter (b : Nat)
  | mp (b : Nat)
  deriving Inhabited

def Own.blk : Own → Nat
  | .obj b _ _ _ => b
  | .tok b _ _ _ => b
  | .iter b => b
  | .mp b => b

structure Ctx where
  m : Nat → Option Own
  nx : Nat

/-- Cells of a type. -/
def szOf (P : Program) (t : TypeId) : Nat := match P.info? t with | some i => i.size | none => 0

def fldsOk (P : Program) : List Field → Nat → Nat → Bool
  | [], o, n => o == n
  | f :: r, o, n => f.offset == o && (decide (0 < szOf P f.type) && fldsOk P r (o + szOf P f.type) n)

/-- The types of a struct's fields, of an array's elements (none: the type is neither). -/
def flds (P : Program) (t : TypeId) : Option (List TypeId) :=
  match P.underlying t with
  | some (.struct fs) => if fldsOk P fs.toList 0 (szOf P t) && decide (0 < szOf P t) then some (fs.toList.map (·.type)) else none
  | some (.array n e) => if szOf P t == n * szOf P e && decide (0 < szOf P t) then some (List.replicate n e) else none
  | _ => none

/-- A type whose values take one cell. -/
def prim (P : Program) (t : TypeId) : Bool :=
  match P.underlying t with
  | some (.struct _) | some (.array _ _) | none => false
  | some _ => szOf P t == 1

def elT (P : Program) (t : TypeId) : Option TypeId :=
  match P.underlying t with
  | some (.slice e) => some e
  | _ => none

def offAt (P : Program) (ts : List TypeId) (k : Nat) : Nat := ((ts.take k).map (szOf P)).sum

/-- The place that a path leads to: its type, its offset. -/
def place (P : Program) (te : TypeId) : List Nat → Option (TypeId × Nat)
  | [] => some (te, 0)
  | k :: r => (flds P te).bind fun ts => ts[k]?.bind fun ty => (place P ty r).map fun (t, o) => (t, offAt P ts k + o)

def AV.isOne : AV → Bool
  | .agg _ _ | .undef | .maybe _ _ | .tup _ => false
  | _ => true

/-- A value stands at a place of a type. -/
def fits (P : Program) (t : TypeId) (x : AV) : Prop :=
  match x with
  | .agg t' _ => t' = t ∧ (flds P t).isSome = true
  | x => x.isOne = true ∧ prim P t = true

/-- A cell that nothing that the layer allows writes. -/
def Stable (w : World) (C : Ctx) (b o : Nat) : Prop :=
  b < w.heap.size ∧ ∀ id ow, C.m id = some ow → ow.blk = b → ∃ e hw cap, ow = .tok b e hw cap ∧ o < hw

def Cells (w : World) (C : Ctx) (b o : Nat) (cs : List Value) : Prop :=
  ∀ j c, cs[j]? = some c → w.cell? ⟨b, o + j, none⟩ = some c ∧ Stable w C b (o + j)

def SlReads (w : World) (C : Ctx) (size : Nat) (a : Option Addr) (n : Nat) (cf : Nat → List Value) : Prop :=
  0 < n → ∃ b o, a = some ⟨b, o, none⟩ ∧ ∀ i, i < n → Cells w C b (o + i * size) (cf i)

inductive Rel (P : Program) (w : World) (C : Ctx) : AV → List Value → Prop
  | int (k n) : Rel P w C (.int k n) [.int k n]
  | bool (b) : Rel P w C (.bool b) [.bool b]
  | str {l} : l.length ≤ maxLen → Rel P w C (.str l) [.string ⟨l.toArray⟩]
  | nil : Rel P w C .nil [.pointer none]
  | nils : Rel P w C .nils [.slice none 0 0]
  | nilm : Rel P w C .nilm [.map none]
  | sl {e xs a cap} (cf : Nat → List Value) : xs.length ≤ cap → cap ≤ maxLen → (∀ (i : Nat) (x : AV), xs[i]? = some x → Rel P w C x (cf i)) →
      (∀ i x, xs[i]? = some x → (cf i).length = szOf P e ∧ fits P e x) → SlReads w C (szOf P e) a xs.length cf → Rel P w C (.sl e xs) [.slice a xs.length cap]
  | lit {e xs a} (cf : Nat → List Value) : xs.length ≤ maxLen → (∀ (i : Nat) (x : AV), xs[i]? = some x → Rel P w C x (cf i)) →
      (∀ i x, xs[i]? = some x → (cf i).length = szOf P e ∧ fits P e x) → SlReads w C (szOf P e) a xs.length cf → Rel P w C (.lit e xs) [.slice a xs.length xs.length]
  | own {e xs tok b cap} (cf : Nat → List Value) : xs.length ≤ cap → cap ≤ maxLen → (∀ (i : Nat) (x : AV), xs[i]? = some x → Rel P w C x (cf i)) →
      (∀ i x, xs[i]? = some x → (cf i).length = szOf P e ∧ fits P e x) → SlReads w C (szOf P e) (some ⟨b, 0, none⟩) xs.length cf →
      tok < C.nx → (∀ ow, C.m tok = some ow → ow = .tok b e (xs.length * szOf P e) cap) → Rel P w C (.own e xs tok) [.slice (some ⟨b, 0, none⟩) xs.length cap]
  | row {e id off n a cap} : n ≤ cap → cap ≤ maxLen → id < C.nx →
      (∀ ow, C.m id = some ow → ∃ b base room, ow = .obj b e base room ∧ (0 < cap → a = some ⟨b, base + off * szOf P e, none⟩) ∧ base + (off + cap) * szOf P e = room) → Rel P w C (.row e id off n) [.slice a n cap]
  | agg {t ts fs} {cs : List Value} (cf : Nat → List Value) : flds P t = some ts → fs.length = ts.length → cs.length = szOf P t → (∀ c ∈ cs, c.oneCell' = true) → (∀ (i : Nat) (x : AV), fs[i]? = some x → Rel P w C x (cf i)) →
      (∀ i x ty, fs[i]? = some x → ts[i]? = some ty → (cf i).length = szOf P ty ∧ fits P ty x ∧ ∀ (j : Nat) (u : Value), (cf i)[j]? = some u → cs[offAt P ts i + j]? = some u) → Rel P w C (.agg t fs) cs
  | loc {t v cs b o} : Rel P w C v cs → fits P t v → cs.length = szOf P t → Cells w C b o cs → Rel P w C (.loc t v) [.pointer (some ⟨b, o, none⟩)]
  | ptr {t id i path a} : id < C.nx → (∀ ow, C.m id = some ow → ∃ b te base room off, ow = .obj b te base room ∧ place P te path = some (t, off) ∧ a = ⟨b, base + i * szOf P te + off, none⟩) →
      Rel P w C (.ptr t id i path) [.pointer (some a)]
  | it {id a} : id < C.nx → (∀ ow, C.m id = some ow → ∃ b, ow = .iter b ∧ a = ⟨b, 0, none⟩) → Rel P w C (.it id) [.pointer (some a)]
  | mp {id r} : id < C.nx → (∀ ow, C.m id = some ow → ow = .mp r) → Rel P w C (.mp id) [.map (some r)]
  | fn {f caps} {vs : List Value} : caps.length = vs.length → (∀ (i : Nat) (c : AV), caps[i]? = some c → c.isOne = true) → (∀ (i : Nat) (c : AV) (v : Value), caps[i]? = some c → vs[i]? = some v → Rel P w C c [v]) → Rel P w C (.fn f caps) [.func (.func f) #[] vs.toArray]

inductive RelV (P : Program) (w : World) (C : Ctx) : AV → Value → Prop
  | undef (v) : RelV P w C .undef v
  | maybe {g a v} : (g = true → RelV P w C a v) → (g = false → v = Go.undef) → RelV P w C (.maybe g a) v
  | tup {as} {vs : List Value} : as.length = vs.length → (∀ (i : Nat) (a : AV) (v : Value), as[i]? = some a → vs[i]? = some v → RelV P w C a v) → RelV P w C (.tup as) (.tuple vs.toArray)
  | agg {t fs} {cs : List Value} : Rel P w C (.agg t fs) cs → RelV P w C (.agg t fs) (.agg cs.toArray)
  | one {a v} : a.isOne = true → Rel P w C a [v] → RelV P w C a v

/-- From one world to a later one: what is stable stays; no dead object comes to life. -/
structure Step (w : World) (C : Ctx) (w' : World) (C' : Ctx) : Prop where
  nx : C.nx ≤ C'.nx
  dead : ∀ id ow, id < C.nx → C'.m id = some ow → C.m id = some ow
  stable : ∀ b o, Stable w C b o → w'.cell? ⟨b, o, none⟩ = w.cell? ⟨b, o, none⟩ ∧ Stable w' C' b o
  os : w'.os = w.os
  tape : w'.tape = w.tape
  output : w'.output = w.output
  size : w.heap.size ≤ w'.heap.size
  block : ∀ b, b < w.heap.size → (∀ id ow, C.m id = some ow → ow.blk ≠ b) → w'.heap[b]? = w.heap[b]? ∧ ∀ id ow, C'.m id = some ow → ow.blk ≠ b

theorem Step.refl (w : World) (C : Ctx) : Step w C w C :=
  ⟨Nat.le_refl _, fun _ _ _ h => h, fun _ _ h => ⟨rfl, h⟩, rfl, rfl, rfl, Nat.le_refl _, fun _ _ h => ⟨rfl, h⟩⟩

theorem Step.trans {w w₁ w₂ : World} {C C₁ C₂ : Ctx} (h : Step w C w₁ C₁) (k : Step w₁ C₁ w₂ C₂) : Step w C w₂ C₂ where
  nx := Nat.le_trans h.nx k.nx
  dead := fun id ow hid hm => h.dead id ow hid (k.dead id ow (Nat.lt_of_lt_of_le hid h.nx) hm)
  stable := fun b o hs => by
    obtain ⟨e1, s1⟩ := h.stable b o hs
    obtain ⟨e2, s2⟩ := k.stable b o s1
    exact ⟨e2.trans e1, s2⟩
  os := k.os.trans h.os
  tape := k.tape.trans h.tape
  output := k.output.trans h.output
  size := Nat.le_trans h.size k.size
  block := fun b hb hn => by
    obtain ⟨e1, n1⟩ := h.block b hb hn
    obtain ⟨e2, n2⟩ := k.block b (Nat.lt_of_lt_of_le hb h.size) n1
    exact ⟨e2.trans e1, n2⟩

section mono
variable {P : Program} {w w' : World} {C C' : Ctx}

theorem Cells.mono (h : Step w C w' C') {b o : Nat} {cs : List Value} (hc : Cells w C b o cs) : Cells w' C' b o cs := fun j c hj => by
  obtain ⟨h1, h2⟩ := hc j c hj
  obtain ⟨e, s⟩ := h.stable _ _ h2
  exact ⟨e.trans h1, s⟩

theorem SlReads.mono (h : Step w C w' C') {size n : Nat} {a : Option Addr} {cf : Nat → List Value} (hr : SlReads w C size a n cf) : SlReads w' C' size a n cf := fun hn => by
  obtain ⟨b, o, e, hc⟩ := hr hn
  exact ⟨b, o, e, fun i hi => (hc i hi).mono h⟩

theorem Rel.mono (h : Step w C w' C') {a : AV} {cs : List Value} (hr : Rel P w C a cs) : Rel P w' C' a cs := by
  induction hr with
  | int k n => exact .int k n
  | bool b => exact .bool b
  | str hl => exact .str hl
  | nil => exact .nil
  | nils => exact .nils
  | nilm => exact .nilm
  | sl cf h1 h2 _ h4 h5 ih => exact .sl cf h1 h2 ih h4 (h5.mono h)
  | lit cf h1 _ h4 h5 ih => exact .lit cf h1 ih h4 (h5.mono h)
  | own cf h1 h2 _ h4 h5 h6 h7 ih => exact .own cf h1 h2 ih h4 (h5.mono h) (Nat.lt_of_lt_of_le h6 h.nx) (fun ow how => h7 ow (h.dead _ _ h6 how))
  | row h1 h2 h3 h4 => exact .row h1 h2 (Nat.lt_of_lt_of_le h3 h.nx) (fun ow how => h4 ow (h.dead _ _ h3 how))
  | agg cf h1 h2 h3 h4 _ h6 ih => exact .agg cf h1 h2 h3 h4 ih h6
  | loc _ h2 h3 h4 ih => exact .loc ih h2 h3 (h4.mono h)
  | ptr h1 h2 => exact .ptr (Nat.lt_of_lt_of_le h1 h.nx) (fun ow how => h2 ow (h.dead _ _ h1 how))
  | it h1 h2 => exact .it (Nat.lt_of_lt_of_le h1 h.nx) (fun ow how => h2 ow (h.dead _ _ h1 how))
  | mp h1 h2 => exact .mp (Nat.lt_of_lt_of_le h1 h.nx) (fun ow how => h2 ow (h.dead _ _ h1 how))
  | fn h1 h2 _ ih => exact .fn h1 h2 ih

theorem RelV.mono (h : Step w C w' C') {a : AV} {v : Value} (hr : RelV P w C a v) : RelV P w' C' a v := by
  induction hr with
  | undef v => exact .undef v
  | maybe _ h2 ih => exact .maybe ih h2
  | tup h1 _ ih => exact .tup h1 ih
  | agg h1 => exact .agg (h1.mono h)
  | one h1 h2 => exact .one h1 (h2.mono h)

end mono
end Go.Av
end
section
set_option linter.unusedSimpArgs false
set_option linter.unusedVariables false
namespace Go.Av
open Go

structure AState where
  env : Nat → AV
  st : Store

def AState.upd (A : AState) (d : Nat) (v : AV) : AState := { A with env := fun i => if i = d then v else A.env i }
def AState.put (A : AState) (d : Option Nat) (v : AV) : AState := match d with | some d => A.upd d v | none => A

def AState.withSt (A : AState) (σ : Store) : AState := { A with st := σ }

theorem AState.upd_same (A : AState) (d : Nat) (v : AV) : (A.upd d v).env d = v := by simp [AState.upd]
theorem AState.upd_ne (A : AState) {i d : Nat} (v : AV) (h : i ≠ d) : (A.upd d v).env i = A.env i := by simp [AState.upd, h]

/-- A plain value is known whole. -/
def rig1 : AV → Option Value
  | .int k n => some (.int k n)
  | .bool b => some (.bool b)
  | .str l => if l.length ≤ maxLen then some (.string ⟨l.toArray⟩) else none
  | _ => none
def rigL : List AV → Option (List Value)
  | [] => some []
  | x :: r => (rig1 x).bind fun v => (rigL r).map fun vs => v :: vs
/-- So is one made of plain ones. -/
def rig (P : Program) : AV → Option Value
  | .agg t fs => (match flds P t with
    | some ts => if ts.all (fun ty => szOf P ty == 1) = true then (rigL fs).map fun vs => .agg vs.toArray else none
    | none => none)
  | x => rig1 x
/-- A block holds a map of these entries. -/
def MapRel (P : Program) (w : World) (kt : TypeId) (l : List (AV × AV)) (b : Nat) : Prop := ∃ es clock, w.heap[b]? = some (.map es clock) ∧ (es.toList.Pairwise fun e f => e.key ≠ f.key) ∧
  (∀ e ∈ es.toList, (∃ q, keyOf P kt e.key = some q) ∧ ∃ p ∈ l, rig P p.1 = some e.key ∧ rig1 p.2 = some e.val) ∧ ∀ p ∈ l, ∃ e ∈ es.toList, rig P p.1 = some e.key ∧ rig1 p.2 = some e.val

def ObjRel (P : Program) (w : World) (C : Ctx) : Option SObj → Option Own → Prop
  | none, none => True
  | some (.cells te xs), some (.obj b te' base room) => te = te' ∧ ∃ arr t', w.heap[b]? = some (.cells arr t' (0, 0)) ∧ arr.size = room ∧ base + xs.length * szOf P te ≤ room ∧
      ∃ cf : Nat → List Value, ∀ (i : Nat) (x : AV), xs[i]? = some x → Rel P w C x (cf i) ∧ (cf i).length = szOf P te ∧ fits P te x ∧ ∀ (j : Nat) (c : Value), (cf i)[j]? = some c → arr[base + i * szOf P te + j]? = some c
  | some .tok, some (.tok b e hw cap) => ∃ arr, w.heap[b]? = some (.cells arr e (0, 0)) ∧ arr.size = cap * szOf P e ∧ hw ≤ arr.size
  | some (.iter l pos), some (.iter b) => w.heap[b]? = some (.stringIter ⟨l.toArray⟩ pos)
  | some (.mp kt l), some (.mp b) => MapRel P w kt l b
  | _, _ => False

structure StRel (P : Program) (W0 : World) (w : World) (C : Ctx) (σ : Store) : Prop where
  base : RowKit.Below W0.heap.size W0 w
  low : ∀ i ow, C.m i = some ow → W0.heap.size ≤ ow.blk
  nx : C.nx = σ.length
  inj : ∀ i j a b, C.m i = some a → C.m j = some b → a.blk = b.blk → i = j
  dom : ∀ i ow, C.m i = some ow → i < C.nx
  obj : ∀ i, ObjRel P w C (σ[i]?).join (C.m i)

structure RelA (P : Program) (W0 : World) (n : Nat) (w : World) (C : Ctx) (A : AState) (a : Act) : Prop where
  env : ∀ i, RelV P w C (A.env i) (a.tmps.getD i undef)
  defers : a.defers = []
  size : a.tmps.size = n
  st : StRel P W0 w C A.st

section
variable {P : Program} {W0 w w' : World} {C C' : Ctx} {σ σ' : Store} {n : Nat}

theorem Rel.oneCell {a : AV} {cs : List Value} (h : Rel P w C a cs) : ∀ c ∈ cs, c.oneCell' = true := by
  cases h with
  | agg cf _ _ _ h4 => exact h4
  | _ => intro c hc; simp only [List.mem_singleton] at hc; subst hc; rfl

theorem Rel.one_cell {a : AV} {cs : List Value} (h : Rel P w C a cs) (h1 : a.isOne = true) : ∃ v, cs = [v] := by
  cases h <;> first | exact ⟨_, rfl⟩ | (simp [AV.isOne] at h1)

theorem ObjRel.mono (h : Step w C w' C') {o : Option SObj} {ow : Option Own} (hr : ObjRel P w C o ow) (hb : ∀ x, ow = some x → w'.heap[x.blk]? = w.heap[x.blk]?) : ObjRel P w' C' o ow := by
  unfold ObjRel at hr ⊢
  split at hr
  · trivial
  · rename_i te xs b te' base room
    obtain ⟨h1, arr, t', h2, h3, h4, cf, h5⟩ := hr
    refine ⟨h1, arr, t', (hb _ rfl).trans h2, h3, h4, cf, fun i x hx => ?_⟩
    obtain ⟨r1, r2, r3, r4⟩ := h5 i x hx
    exact ⟨r1.mono h, r2, r3, r4⟩
  · obtain ⟨arr, h2, h3⟩ := hr
    exact ⟨arr, (hb _ rfl).trans h2, h3⟩
  · exact (hb _ rfl).trans hr
  · obtain ⟨es, clock, h2, h3⟩ := hr
    exact ⟨es, clock, (hb _ rfl).trans h2, h3⟩
  · exact hr.elim

theorem StRel.lt (h : StRel P W0 w C σ) {i : Nat} {ow : Own} (hm : C.m i = some ow) : ow.blk < w.heap.size := by
  have ho := h.obj i
  rw [hm] at ho
  have key : ∀ o, w.heap[ow.blk]? = some o → ow.blk < w.heap.size := fun o ho => (Array.getElem?_eq_some_iff.1 ho).1
  unfold ObjRel at ho
  split at ho
  · rename_i heq; cases heq
  · rename_i heq; cases heq; obtain ⟨_, arr, t', h2, _⟩ := ho; exact key _ h2
  · rename_i heq; cases heq; obtain ⟨arr, h2, _⟩ := ho; exact key _ h2
  · rename_i heq; cases heq; exact key _ ho
  · rename_i heq; cases heq; obtain ⟨es, clock, h2, _⟩ := ho; exact key _ h2
  · exact ho.elim

/-- The general change: of each id either all is new and shown, or nothing has turned. -/
theorem StRel.change (h : StRel P W0 w C σ) (hs : Step w C w' C') (low : ∀ i ow, C'.m i = some ow → W0.heap.size ≤ ow.blk) (hnx : C'.nx = σ'.length)
    (inj : ∀ i j a b, C'.m i = some a → C'.m j = some b → a.blk = b.blk → i = j) (dom : ∀ i ow, C'.m i = some ow → i < C'.nx)
    (hobj : ∀ i, ObjRel P w' C' (σ'[i]?).join (C'.m i) ∨ ((σ'[i]?).join = (σ[i]?).join ∧ C'.m i = C.m i ∧ ∀ ow, C.m i = some ow → w'.heap[ow.blk]? = w.heap[ow.blk]?)) :
    StRel P W0 w' C' σ' := by
  refine ⟨h.base.trans ⟨hs.os, hs.tape, hs.output, hs.size, fun k hk => (hs.block k (Nat.lt_of_lt_of_le hk h.base.size) (fun id ow hm e => ?_)).1⟩, low, hnx, inj, dom, fun i => ?_⟩
  · have := h.low id ow hm; omega
  rcases hobj i with h1 | ⟨h1, h2, h3⟩
  · exact h1
  · rw [h1, h2]
    exact (h.obj i).mono hs (fun x hx => h3 x hx)

/-- The world turns, the context does not, and no block of a live object does. -/
theorem StRel.world (h : StRel P W0 w C σ) (hs : Step w C w' C) (hb : ∀ i ow, C.m i = some ow → w'.heap[ow.blk]? = w.heap[ow.blk]?) : StRel P W0 w' C σ :=
  h.change hs h.low h.nx h.inj h.dom (fun i => .inr ⟨rfl, rfl, hb i⟩)

theorem Step.drew (w : World) (C : Ctx) : Step w C w.drew C :=
  ⟨Nat.le_refl _, fun _ _ _ h => h, fun _ _ h => ⟨rfl, h⟩, rfl, rfl, rfl, Nat.le_refl _, fun _ _ h => ⟨rfl, h⟩⟩

theorem Step.alloc (w : World) (C : Ctx) (o : Obj) : Step w C (w.alloc o) C where
  nx := Nat.le_refl _
  dead := fun _ _ _ h => h
  stable := fun b x h => ⟨World.cell?_alloc_lt w o ⟨b, x, none⟩ h.1, by simp [Nat.lt_succ_of_lt h.1], h.2⟩
  os := rfl
  tape := rfl
  output := rfl
  size := by simp
  block := fun b hb hn => ⟨RowKit.Below.heap_alloc w o b hb, hn⟩

theorem StRel.drew (h : StRel P W0 w C σ) : StRel P W0 w.drew C σ := h.world (Step.drew w C) (fun _ _ _ => rfl)
theorem StRel.alloc (h : StRel P W0 w C σ) (o : Obj) : StRel P W0 (w.alloc o) C σ :=
  h.world (Step.alloc w C o) (fun _ _ hm => RowKit.Below.heap_alloc w o _ (h.lt hm))

/-- A block that is not owned is stable. -/
theorem Stable.free {b o : Nat} (hb : b < w.heap.size) (hn : ∀ id ow, C.m id = some ow → ow.blk ≠ b) : Stable w C b o :=
  ⟨hb, fun id ow hm he => absurd he (hn id ow hm)⟩

theorem StRel.fresh (h : StRel P W0 w C σ) : ∀ id ow, C.m id = some ow → ow.blk ≠ w.heap.size := fun _ _ hm => Nat.ne_of_lt (h.lt hm)

theorem tmps_put {a : Array Value} {d i : Nat} {v : Value} (hd : d < a.size) : (a.setIfInBounds d v).getD i undef = if i = d then v else a.getD i undef := by
  by_cases h : i = d
  · subst h; simp [hd]
  · rw [if_neg h]
    simp [Array.getElem?_setIfInBounds_ne (Ne.symm h)]

theorem RelA.put {A : AState} {a : Act} (h : RelA P W0 n w C A a) {d : Nat} (hd : d < n) {v : AV} {x : Value} (hv : RelV P w C v x) : RelA P W0 n w C (A.upd d v) (a.put (some d) x) where
  env := fun i => by
    have hd' : d < a.tmps.size := by rw [h.size]; exact hd
    simp only [Act.put, AState.upd, tmps_put hd']
    by_cases hi : i = d
    · simp [hi, hv]
    · simp only [hi, if_false]; exact h.env i
  defers := h.defers
  size := by simpa [Act.put] using h.size
  st := h.st

theorem RelA.step {A : AState} {a : Act} {σ' : Store} (h : RelA P W0 n w C A a) (hs : Step w C w' C') (hst : StRel P W0 w' C' σ') : RelA P W0 n w' C' { A with st := σ' } a where
  env := fun i => (h.env i).mono hs
  defers := h.defers
  size := h.size
  st := hst

end
end Go.Av
end
section
set_option linter.unusedSimpArgs false
set_option linter.unusedVariables false
namespace Go.Av
open Go

def constAV : Value → AV
  | .int k n => .int k n
  | .bool b => .bool b
  | .string s => if s.data.toList.length ≤ maxLen then .str s.data.toList else .undef
  | .pointer none => .nil
  | .slice none 0 0 => .nils
  | .map none => .nilm
  | _ => .undef

def AState.val (A : AState) : Operand → AV
  | .tmp t => A.env t
  | .const v => constAV v
  | .func f => .fn f []
  | .global _ => .undef

/-- What an operation looks at, and the store. -/
structure RelO (P : Program) (W0 : World) (o : Oper) (w : World) (C : Ctx) (A : AState) (a : Act) : Prop where
  ops : ∀ x ∈ o.op.operands, RelV P w C (A.val x) (a.eval x)
  st : StRel P W0 w C A.st

/-- An operation makes this value and touches nothing that is known. -/
def ValOk (P : Program) (W0 : World) (o : Oper) (A : AState) (v : AV) : Prop :=
  ∀ w C a, RelO P W0 o w C A a → ∃ x w', (execOp a.eval o).run P w = .ok (.value x) w' ∧ RelV P w' C v x ∧ Step w C w' C ∧ StRel P W0 w' C A.st

/-- An operand reads as this. -/
def Is (P : Program) (W0 : World) (o : Oper) (A : AState) (x : Operand) (u : AV) : Prop := ∀ w C a, RelO P W0 o w C A a → RelV P w C u (a.eval x)

section
variable {P : Program} {W0 w w' : World} {C C' : Ctx} {σ σ' : Store} {n : Nat} {A : AState} {a : Act}

theorem constAV_rel (v : Value) : RelV P w C (constAV v) v := by
  unfold constAV
  split
  · exact .one rfl (.int _ _)
  · exact .one rfl (.bool _)
  · rename_i s
    split
    · rename_i h
      exact .one rfl (by
        have := Rel.str (P := P) (w := w) (C := C) h
        simpa using this)
    · exact .undef _
  · exact .one rfl .nil
  · exact .one rfl .nils
  · exact .one rfl .nilm
  · exact .undef _

theorem RelA.val (h : RelA P W0 n w C A a) (x : Operand) : RelV P w C (A.val x) (a.eval x) := by
  cases x with
  | tmp t => exact h.env t
  | const v => exact constAV_rel v
  | global g => exact .undef _
  | func f => exact .one rfl (.fn (vs := []) rfl (by simp) (by simp))

theorem RelA.toO (h : RelA P W0 n w C A a) (o : Oper) : RelO P W0 o w C A a := ⟨fun x _ => h.val x, h.st⟩

theorem Is.val {o : Oper} (A : AState) {x : Operand} (hx : x ∈ o.op.operands) : Is P W0 o A x (A.val x) := fun _ _ _ hr => hr.ops x hx

theorem RelV.int_inv {k : IntKind} {m : Int} {v : Value} (h : RelV P w C (.int k m) v) : v = .int k m := by
  cases h with
  | one _ h => cases h; rfl
theorem RelV.bool_inv {b : Bool} {v : Value} (h : RelV P w C (.bool b) v) : v = .bool b := by
  cases h with
  | one _ h => cases h; rfl
theorem RelV.str_inv {l : List UInt8} {v : Value} (h : RelV P w C (.str l) v) : v = .string ⟨l.toArray⟩ ∧ l.length ≤ maxLen := by
  cases h with
  | one _ h => cases h; exact ⟨rfl, ‹_›⟩
theorem RelV.nil_inv {v : Value} (h : RelV P w C .nil v) : v = .pointer none := by
  cases h with
  | one _ h => cases h; rfl
theorem RelV.nils_inv {v : Value} (h : RelV P w C .nils v) : v = .slice none 0 0 := by
  cases h with
  | one _ h => cases h; rfl
theorem RelV.tup_inv {as : List AV} {v : Value} (h : RelV P w C (.tup as) v) : ∃ vs : List Value, v = .tuple vs.toArray ∧ as.length = vs.length ∧ ∀ (i : Nat) (a : AV) (v : Value), as[i]? = some a → vs[i]? = some v → RelV P w C a v := by
  cases h with
  | tup h1 h2 => exact ⟨_, rfl, h1, h2⟩
  | one h => simp [AV.isOne] at h
theorem RelV.agg_inv {t : TypeId} {fs : List AV} {v : Value} (h : RelV P w C (.agg t fs) v) : ∃ cs : List Value, v = .agg cs.toArray ∧ Rel P w C (.agg t fs) cs := by
  cases h with
  | agg h => exact ⟨_, rfl, h⟩
  | one h => simp [AV.isOne] at h
theorem RelV.one_inv {x : AV} {v : Value} (h : RelV P w C x v) (h1 : x.isOne = true) : Rel P w C x [v] := by
  cases h with
  | one _ h => exact h
  | _ => simp [AV.isOne] at h1
/-- A value of the right size stands in a place, as cells. -/
theorem RelV.cells {t : TypeId} {x : AV} {v : Value} (h : RelV P w C x v) (hf : fits P t x) : Rel P w C x v.cells.toList := by
  cases h with
  | undef => simp [fits, AV.isOne] at hf
  | maybe => simp [fits, AV.isOne] at hf
  | tup => simp [fits, AV.isOne] at hf
  | agg h => simpa [Value.cells] using h
  | one h1 h =>
    have : v.cells = #[v] := by
      have := h.oneCell v (by simp)
      cases v <;> first | rfl | simp [Value.oneCell'] at this
    rw [this]; exact h

theorem szOf_info {t : TypeId} (h : 0 < szOf P t) : ∃ i, P.info? t = some i ∧ i.size = szOf P t := by
  unfold szOf at h ⊢
  cases hi : P.info? t with
  | none => simp [hi] at h
  | some i => exact ⟨i, rfl, rfl⟩

theorem fldsOk_off : ∀ (fs : List Field) (o n : Nat), fldsOk P fs o n = true → ∀ k f, fs[k]? = some f → f.offset = o + ((fs.take k).map fun f => szOf P f.type).sum
  | [], _, _, _, k, f, hk => by simp at hk
  | g :: r, o, n, h, 0, f, hk => by
    simp [fldsOk] at h hk
    subst hk; simp [h.1]
  | g :: r, o, n, h, k + 1, f, hk => by
    simp only [fldsOk, Bool.and_eq_true, beq_iff_eq, decide_eq_true_eq] at h
    have := fldsOk_off r (o + szOf P g.type) n h.2.2 k f (by simpa using hk)
    rw [this]; simp; omega

theorem fldsOk_total : ∀ (fs : List Field) (o n : Nat), fldsOk P fs o n = true → n = o + (fs.map fun f => szOf P f.type).sum
  | [], o, n, h => by simp [fldsOk] at h; simp [h]
  | g :: r, o, n, h => by
    simp only [fldsOk, Bool.and_eq_true, beq_iff_eq, decide_eq_true_eq] at h
    have := fldsOk_total r (o + szOf P g.type) n h.2.2
    rw [this]; simp; omega

theorem fldsOk_pos : ∀ (fs : List Field) (o n : Nat), fldsOk P fs o n = true → ∀ f ∈ fs, 0 < szOf P f.type
  | [], _, _, _, f, hf => by cases hf
  | g :: r, o, n, h, f, hf => by
    simp only [fldsOk, Bool.and_eq_true, beq_iff_eq, decide_eq_true_eq] at h
    rcases List.mem_cons.1 hf with rfl | hf
    · exact h.2.1
    · exact fldsOk_pos r _ n h.2.2 f hf

/-- What 'flds' tells of the type. -/
theorem flds_inv {t : TypeId} {ts : List TypeId} (h : flds P t = some ts) :
    (∃ fs, P.underlying t = some (.struct fs) ∧ ts = fs.toList.map (·.type) ∧ (∀ k f, fs[k]? = some f → f.offset = offAt P ts k ∧ 0 < szOf P f.type) ∧ szOf P t = offAt P ts ts.length) ∨
    (∃ n e, P.underlying t = some (.array n e) ∧ ts = List.replicate n e ∧ szOf P t = n * szOf P e) := by
  unfold flds at h
  split at h
  · rename_i fs hu
    split at h
    · rename_i hok
      simp only [Option.some.injEq] at h
      subst h
      simp only [Bool.and_eq_true, decide_eq_true_eq] at hok
      replace hok := hok.1
      refine .inl ⟨fs, hu, rfl, fun k f hk => ⟨?_, fldsOk_pos fs.toList 0 _ hok f (Array.mem_toList_iff.2 (Array.mem_of_getElem? hk))⟩, ?_⟩
      · have := fldsOk_off fs.toList 0 _ hok k f (by simpa using hk)
        rw [this, Nat.zero_add]
        simp only [offAt, List.map_take, List.map_map]
        rfl
      · have := fldsOk_total fs.toList 0 _ hok
        rw [this, Nat.zero_add, offAt, List.take_length, List.map_map]
        rfl
    · cases h
  · rename_i k e hu
    split at h
    · rename_i hok
      simp only [Option.some.injEq] at h
      subst h
      simp only [Bool.and_eq_true, decide_eq_true_eq, beq_iff_eq] at hok
      exact .inr ⟨k, e, hu, rfl, hok.1⟩
    · cases h
  · cases h

theorem offAt_replicate (k n : Nat) (e : TypeId) (h : k ≤ n) : offAt P (List.replicate n e) k = k * szOf P e := by
  simp [offAt, List.take_replicate, Nat.min_eq_left h]

theorem flds_pos {t : TypeId} {ts : List TypeId} (h : flds P t = some ts) : 0 < szOf P t := by
  unfold flds at h
  split at h
  · split at h
    · rename_i hok
      simp only [Bool.and_eq_true, decide_eq_true_eq] at hok
      exact hok.2
    · cases h
  · split at h
    · rename_i hok
      simp only [Bool.and_eq_true, decide_eq_true_eq] at hok
      exact hok.2
    · cases h
  · cases h

theorem offAt_total {t : TypeId} {ts : List TypeId} (h : flds P t = some ts) : szOf P t = offAt P ts ts.length := by
  rcases flds_inv h with ⟨fs, _, _, _, h4⟩ | ⟨n, e, _, h2, h3⟩
  · exact h4
  · subst h2; rw [List.length_replicate, offAt_replicate _ _ _ (Nat.le_refl _), h3]

theorem isAgg_of_flds {t : TypeId} {ts : List TypeId} (h : flds P t = some ts) (w : World) : (isAgg t).run P w = .ok true w := by
  rcases flds_inv h with ⟨fs, hu, _⟩ | ⟨n, e, hu, _⟩ <;> simp [isAgg, run_underlying hu]

theorem isAgg_of_prim {t : TypeId} (h : prim P t = true) (w : World) : (isAgg t).run P w = .ok false w ∧ szOf P t = 1 := by
  unfold prim at h
  split at h
  · cases h
  · cases h
  · cases h
  · rename_i d hs ha hu
    refine ⟨?_, by simpa using h⟩
    simp only [isAgg, Sem.run_bind, run_underlying hu, Result.andThen_ok]
    cases d <;> first | rfl | (exact absurd hu (hs _)) | (exact absurd hu (ha _ _))

theorem Rel.length_fits {t : TypeId} {x : AV} {cs : List Value} (h : Rel P w C x cs) (hf : fits P t x) : cs.length = szOf P t := by
  cases x <;> simp only [fits, AV.isOne, Bool.false_eq_true, false_and] at hf
  case agg t' fs =>
    obtain ⟨rfl, _⟩ := hf
    cases h with
    | agg cf h1 h2 h3 => exact h3
  all_goals
    obtain ⟨v, rfl⟩ := h.one_cell rfl
    rw [(isAgg_of_prim hf.2 default).2]; rfl

end
end Go.Av
end
section
set_option linter.unusedSimpArgs false
set_option linter.unusedVariables false
namespace Go.Av
open Go

section
variable {P : Program} {W0 w w' : World} {C C' : Ctx} {σ σ' : Store} {n : Nat} {A : AState} {a : Act} {o : Oper}

theorem ValOk.of_same {v : AV} (h : ∀ w C a, RelO P W0 o w C A a → ∃ x, (execOp a.eval o).run P w = .ok (.value x) w ∧ RelV P w C v x) : ValOk P W0 o A v :=
  fun w C a hr => let ⟨x, h1, h2⟩ := h w C a hr; ⟨x, w, h1, h2, .refl _ _, hr.st⟩

theorem ok_move {x : Operand} {u : AV} (ho : o.op = .move x) (hx : Is P W0 o A x u) : ValOk P W0 o A u :=
  .of_same fun w C a hr => ⟨a.eval x, by simp [execOp, ho], hx w C a hr⟩
theorem ok_assign {x : Operand} {u : AV} (ho : o.op = .assign x) (hx : Is P W0 o A x u) : ValOk P W0 o A u :=
  .of_same fun w C a hr => ⟨a.eval x, by simp [execOp, ho], hx w C a hr⟩

/-- A value known under a condition that holds. -/
theorem RelV.strip {g : Bool} {v : AV} {x : Value} (h : RelV P w C (.maybe g v) x) (hg : g = true) : RelV P w C v x := by
  cases h with
  | maybe h _ => exact h hg
  | one h => simp [AV.isOne] at h

theorem run_loadVar_rel {t : TypeId} {v : AV} {cs : List Value} {b off : Nat} (hr : Rel P w C v cs) (hf : fits P t v) (hc : ∀ (j : Nat) (c : Value), cs[j]? = some c → w.cell? ⟨b, off + j, none⟩ = some c) :
    ∃ x, (loadVar t ⟨b, off, none⟩).run P w = .ok x w ∧ RelV P w C v x := by
  have hlen := hr.length_fits hf
  cases hv : v.isOne with
  | true =>
    obtain ⟨x, rfl⟩ := hr.one_cell hv
    have hp : prim P t = true := by
      cases v <;> simp_all [fits, AV.isOne]
    refine ⟨x, ?_, .one hv hr⟩
    have h0 := hc 0 x (by simp)
    simp only [Nat.add_zero] at h0
    simp [loadVar, (isAgg_of_prim hp w).1, h0]
  | false =>
    cases v <;> simp only [AV.isOne, Bool.true_eq_false] at hv <;> simp only [fits, AV.isOne, Bool.false_eq_true, false_and] at hf
    rename_i t' fs
    obtain ⟨rfl, hf⟩ := hf
    obtain ⟨ts, hts⟩ := Option.isSome_iff_exists.1 hf
    obtain ⟨i, hi, hsz⟩ := szOf_info (flds_pos hts)
    have hl := run_loadCells_list (P := P) w ⟨b, off, none⟩ cs (fun j c hj => by rw [Addr.add_lit]; exact hc j c hj)
    rw [hlen, ← hsz] at hl
    exact ⟨.agg cs.toArray, by simp [loadVar, isAgg_of_flds hts w, sizeOf, typeInfo, hi, hl], .agg hr⟩

theorem RelV.loc_inv {t : TypeId} {v : AV} {x : Value} (h : RelV P w C (.loc t v) x) : ∃ b off cs, x = .pointer (some ⟨b, off, none⟩) ∧ Rel P w C v cs ∧ fits P t v ∧ cs.length = szOf P t ∧ Cells w C b off cs := by
  have := h.one_inv rfl
  cases this with
  | loc h1 h2 h3 h4 => exact ⟨_, _, _, rfl, h1, h2, h3, h4⟩

theorem ok_load_loc {t : TypeId} {v : AV} {x : Operand} (ho : o.op = .load t x) (hx : Is P W0 o A x (.loc t v)) : ValOk P W0 o A v :=
  .of_same fun w C a hr => by
    have h := hx w C a hr
    obtain ⟨b, off, cs, hv, h1, h2, h3, h4⟩ := h.loc_inv
    obtain ⟨y, hy, hr'⟩ := run_loadVar_rel h1 h2 (fun j c hj => (h4 j c hj).1)
    exact ⟨y, by simp [execOp, ho, Instr.loadAt, Instr.sureAddr, hv, hy], hr'⟩

/-- A part of an aggregate, and where its cells stand. -/
theorem Rel.part {t : TypeId} {ts : List TypeId} {fs : List AV} {cs : List Value} (h : Rel P w C (.agg t fs) cs) (hts : flds P t = some ts) {k : Nat} {x : AV} {ty : TypeId} (hx : fs[k]? = some x) (hty : ts[k]? = some ty) :
    ∃ c, Rel P w C x c ∧ c.length = szOf P ty ∧ fits P ty x ∧ (∀ (j : Nat) (u : Value), c[j]? = some u → cs[offAt P ts k + j]? = some u) := by
  cases h with
  | agg cf h1 h2 h3 h4 h5 h6 =>
    rw [hts] at h1
    cases h1
    exact ⟨cf k, h5 k x hx, h6 k x ty hx hty⟩

theorem Rel.agg_length {t : TypeId} {ts : List TypeId} {fs : List AV} {cs : List Value} (h : Rel P w C (.agg t fs) cs) (hts : flds P t = some ts) : fs.length = ts.length := by
  cases h with
  | agg cf h1 h2 => rw [hts] at h1; cases h1; exact h2

theorem run_fieldPlace {f : Field} (hf : 0 < szOf P f.type) (b off : Nat) (w : World) : (fieldPlace ⟨b, off, none⟩ f).run P w = .ok ⟨b, off + f.offset, none⟩ w := by
  obtain ⟨i, hi, hsz⟩ := szOf_info hf
  simp [fieldPlace, sizeOf, typeInfo, hi, hsz, Nat.ne_of_gt hf, Addr.add_lit]

theorem ok_fieldAddr_loc {s : TypeId} {ts : List TypeId} {fs : List AV} {x : Operand} {k : Nat} {y : AV} {ty : TypeId} (ho : o.op = .fieldAddr s x k) (hx : Is P W0 o A x (.loc s (.agg s fs))) (hst : (P.underlying s).any (fun d => match d with | .struct _ => true | _ => false) = true)
    (hts : flds P s = some ts) (hy : fs[k]? = some y) (hty : ts[k]? = some ty) : ValOk P W0 o A (.loc ty y) :=
  .of_same fun w C a hr => by
    have h := hx w C a hr
    obtain ⟨b, off, cs, hv, h1, h2, h3, h4⟩ := h.loc_inv
    rcases flds_inv hts with ⟨fl, hu, e1, e2, e3⟩ | ⟨m, e, hu, _⟩
    case inr => simp [hu] at hst
    obtain ⟨c, r1, r2, r3, r4⟩ := h1.part hts hy hty
    have hk : k < fl.size := by
      have : k < ts.length := (List.getElem?_eq_some_iff.1 hty).1
      rw [e1] at this; simpa using this
    have hfk : fl[k]? = some fl[k] := Array.getElem?_eq_getElem hk
    obtain ⟨hoff, hpos⟩ := e2 k _ hfk
    have hfp := run_fieldPlace hpos b off w
    refine ⟨.pointer (some ⟨b, off + offAt P ts k, none⟩), ?_, .one rfl (.loc r1 r3 r2 (fun j u hj => ?_))⟩
    · simp [execOp, ho, Instr.fieldAt, run_underlying hu, hfk, Instr.sureAddr, hv, hfp, hoff]
    · have := h4 (offAt P ts k + j) u (r4 j u hj)
      rwa [← Nat.add_assoc] at this

/-- A slice value that reads as a list. -/
theorem Rel.sl_of {e : TypeId} {xs : List AV} {x : AV} {v : Value} (h : Rel P w C x [v]) (hx : x = .sl e xs ∨ x = .lit e xs ∨ ∃ tok, x = .own e xs tok) :
    ∃ ad cap cf, v = .slice ad xs.length cap ∧ xs.length ≤ cap ∧ cap ≤ maxLen ∧ (∀ (i : Nat) (x : AV), xs[i]? = some x → Rel P w C x (cf i)) ∧
      (∀ i x, xs[i]? = some x → (cf i).length = szOf P e ∧ fits P e x) ∧ SlReads w C (szOf P e) ad xs.length cf := by
  rcases hx with rfl | rfl | ⟨tok, rfl⟩
  · cases h with | sl cf h1 h2 h3 h4 h5 => exact ⟨_, _, cf, rfl, h1, h2, h3, h4, h5⟩
  · cases h with | lit cf h1 h3 h4 h5 => exact ⟨_, _, cf, rfl, Nat.le_refl _, h1, h3, h4, h5⟩
  · cases h with | own cf h1 h2 h3 h4 h5 => exact ⟨_, _, cf, rfl, h1, h2, h3, h4, h5⟩

/-- A list as which a slice reads, of its elements' type. -/
def AV.asList : AV → Option (TypeId × List AV)
  | .sl e xs | .lit e xs | .own e xs _ => some (e, xs)
  | _ => none

theorem AV.asList_inv {x : AV} {e : TypeId} {xs : List AV} (h : x.asList = some (e, xs)) : (x = .sl e xs ∨ x = .lit e xs ∨ ∃ tok, x = .own e xs tok) ∧ x.isOne = true := by
  cases x <;> simp [AV.asList] at h <;> (obtain ⟨rfl, rfl⟩ := h; simp [AV.isOne])

theorem elT_inv {t e : TypeId} (h : elT P t = some e) : P.underlying t = some (.slice e) := by
  unfold elT at h
  split at h
  · cases h; assumption
  · cases h

theorem ok_indexAddr_list {t e : TypeId} {x ix : Operand} {xs : List AV} {k : IntKind} {i : Int} {l : AV} {y : AV} (ho : o.op = .indexAddr t x ix) (hx : Is P W0 o A x l) (hl : l.asList = some (e, xs)) (hi : Is P W0 o A ix (.int k i))
    (ht : elT P t = some e) (he : 0 < szOf P e) (h0 : 0 ≤ i) (hy : xs[i.toNat]? = some y) : ValOk P W0 o A (.loc e y) :=
  .of_same fun w C a hr => by
    have hxv := hx w C a hr
    obtain ⟨hcase, hone⟩ := AV.asList_inv hl
    obtain ⟨ad, cap, cf, hv, h1, h2, h3, h4, h5⟩ := (hxv.one_inv hone).sl_of hcase
    have hiv := hi w C a hr
    replace hiv := hiv.int_inv
    have hlt : i.toNat < xs.length := (List.getElem?_eq_some_iff.1 hy).1
    obtain ⟨b, off, rfl, hc⟩ := h5 (by omega)
    obtain ⟨inf, hinf, hsz⟩ := szOf_info he
    have hlt' : i < (xs.length : Int) := by omega
    refine ⟨.pointer (some ⟨b, off + i.toNat * szOf P e, none⟩), ?_, .one rfl (.loc (h3 _ _ hy) (h4 _ _ hy).2 (h4 _ _ hy).1 (hc _ hlt))⟩
    simp [execOp, ho, Instr.indexAt, hv, hiv, asIntOf, run_underlying (elT_inv ht), h0, hlt', sizeOf, typeInfo, hinf, hsz, Addr.add_lit]

theorem ok_index_str {t : TypeId} {x ix : Operand} {l : List UInt8} {k : IntKind} {i : Int} {c : UInt8} (ho : o.op = .index t x ix) (hx : Is P W0 o A x (.str l)) (hi : Is P W0 o A ix (.int k i))
    (ht : P.underlying t = some .string) (h0 : 0 ≤ i) (hy : l[i.toNat]? = some c) : ValOk P W0 o A (.int .u8 c.toNat) :=
  .of_same fun w C a hr => by
    have hxv := hx w C a hr
    obtain ⟨hxv, _⟩ := hxv.str_inv
    have hiv := hi w C a hr
    replace hiv := hiv.int_inv
    have hlt : i.toNat < l.length := (List.getElem?_eq_some_iff.1 hy).1
    refine ⟨.int .u8 c.toNat, ?_, .one rfl (.int _ _)⟩
    have hc : ({ data := l.toArray } : ByteArray)[i.toNat]? = some c := by
      have : i.toNat < ({ data := l.toArray } : ByteArray).size := by simpa [ByteArray.size] using hlt
      rw [getElem?_pos ({ data := l.toArray } : ByteArray) i.toNat this]
      have h2 := (List.getElem?_eq_some_iff.1 hy).2
      rw [← h2]
      rfl
    simp [execOp, ho, Instr.index, hxv, hiv, asIntOf, run_underlying ht, h0, hc]

end
end Go.Av
end
