/- Texts that the last one of this claim rests on: a layer over the guide's own conditions for code; contracts of the functions that the law reaches, one by one. No conditions beside those of the given rows. -/
import Derived.WalkKit
import Derived.WalkSpells
import Derived.WalkLawsBesides
import Derived.Laws.StructEq
import Derived.Laws.Concat
import Derived.ChangeKeysEq
import Derived.Laws.BytesArg
import Derived.Laws.BytesString
import Derived.Lib.Strings
import Derived.Maps.Keyed
import Derived.RangeFuncLeaves
import Derived.TacticsIn
import Derived.OrdersIn
set_option linter.unusedSimpArgs false
set_option linter.unusedVariables false
section
namespace Go.Av
open Go

inductive AV where
 | undef
 | int (k : IntKind) (n : Int)
 | bool (b : Bool)
 | str (l : List UInt8)
 | nil
 | au
 | jD
 | cw
 | iface (t : TypeId) (v : AV)
 | sl (e : TypeId) (xs : List AV)
 | lit (e : TypeId) (xs : List AV)
 | own (e : TypeId) (xs : List AV) (tok : Nat)
 | row (e : TypeId) (id off n : Nat)
 | agg (t : TypeId) (fs : List AV)
 | loc (t : TypeId) (v : AV)
 | ptr (t : TypeId) (id i : Nat) (path : List Nat)
 | it (id : Nat)
 | mp (id : Nat)
 | yl (l : Nat)
 | fn (f : FuncId) (caps : List AV)
 | tup (vs : List AV)
 | maybe (g : Bool) (v : AV)
 deriving Inhabited

inductive cM where
 | cells (t : TypeId) (xs : List AV)
 | tok
 | iter (l : List UInt8) (pos : Nat)
 | mp (kt : TypeId) (l : List (AV × AV))
 deriving Inhabited

abbrev ab:=List (Option cM)

inductive Own where
 | obj (b : Nat) (t : TypeId) (base room : Nat)
 | tok (b : Nat) (e : TypeId) (hw cap : Nat)
 | iter (b : Nat)
 | mp (b : Nat)
 deriving Inhabited

def Own.blk : Own → Nat
 | .obj b _ _ _=>b
 | .tok b _ _ _=>b
 | .iter b=>b
 | .mp b=>b

structure Ctx where
 m : Nat → Option Own
 nx : Nat

def ae (P : Program) (t : TypeId) : Nat:=match P.info? t with | some i=>i.size | none=>0

def jA (P : Program) : List Field → Nat → Nat → Bool
 | [],o,n=>o == n
 | f :: r,o,n=>f.offset == o && (decide (0 < ae P f.type) && jA P r (o + ae P f.type) n)

def bp (P : Program) (t : TypeId) : Option (List TypeId) :=
 match P.underlying t with
 | some (.struct fs)=>if jA P fs.toList 0 (ae P t) && decide (0 < ae P t) then some (fs.toList.map (·.type)) else none
 | some (.array n e)=>if ae P t == n * ae P e && decide (0 < ae P t) then some (List.replicate n e) else none
 | _=>none

def cb (P : Program) (t : TypeId) : Bool :=
 match P.underlying t with
 | some (.struct _) | some (.array _ _) | none=>false
 | some _=>ae P t == 1

def elT (P : Program) (t : TypeId) : Option TypeId :=
 match P.underlying t with
 | some (.slice e)=>some e
 | _=>none

def aT (P : Program) (ts : List TypeId) (k : Nat) : Nat:=((ts.take k).map (ae P)).sum

def place (P : Program) (te : TypeId) : List Nat → Option (TypeId × Nat)
 | []=>some (te,0)
 | k :: r=>(bp P te).bind fun ts=>ts[k]?.bind fun ty=>(place P ty r).map fun (t,o)=>(t,aT P ts k + o)

def AV.aS : AV → Bool
 | .agg _ _ | .undef | .maybe _ _ | .tup _=>false
 | _=>true

def fits (P : Program) (t : TypeId) (x : AV) : Prop :=
 match x with
 | .agg t' _=>t' = t ∧ (bp P t).isSome = true
 | x=>x.aS = true ∧ cb P t = true

def ec (w : World) (C : Ctx) (b o : Nat) : Prop :=
 b < w.heap.size ∧ ∀ id ow,C.m id = some ow → ow.blk = b → ∃ e hw cap,ow = .tok b e hw cap ∧ o < hw

def Cells (w : World) (C : Ctx) (b o : Nat) (cs : List Value) : Prop :=
 ∀ j c,cs[j]? = some c → w.cell? ⟨b,o + j,none⟩ = some c ∧ ec w C b (o + j)

def eE (w : World) (C : Ctx) (size : Nat) (a : Option Addr) (n : Nat) (cf : Nat → List Value) : Prop :=
 0 < n → ∃ b o,a = some ⟨b,o,none⟩ ∧ ∀ i,i < n → Cells w C b (o + i * size) (cf i)

inductive Rel (P : Program) (w : World) (C : Ctx) : AV → List Value → Prop
 | int (k n) : Rel P w C (.int k n) [.int k n]
 | bool (b) : Rel P w C (.bool b) [.bool b]
 | str {l} : l.length ≤ maxLen → Rel P w C (.str l) [.string ⟨l.toArray⟩]
 | nil : Rel P w C .nil [.pointer none]
 | au : Rel P w C .au [.slice none 0 0]
 | jD : Rel P w C .jD [.map none]
 | cw : Rel P w C .cw [.nilIface]
 | iface {t v x} : v.aS = true → Rel P w C v [x] → Rel P w C (.iface t v) [.iface t x]
 | sl {e xs a cap} (cf : Nat → List Value) : xs.length ≤ cap → cap ≤ maxLen → (∀ (i : Nat) (x : AV),xs[i]? = some x → Rel P w C x (cf i)) →
   (∀ i x,xs[i]? = some x → (cf i).length = ae P e ∧ fits P e x) → eE w C (ae P e) a xs.length cf → Rel P w C (.sl e xs) [.slice a xs.length cap]
 | lit {e xs a} (cf : Nat → List Value) : xs.length ≤ maxLen → (∀ (i : Nat) (x : AV),xs[i]? = some x → Rel P w C x (cf i)) →
   (∀ i x,xs[i]? = some x → (cf i).length = ae P e ∧ fits P e x) → eE w C (ae P e) a xs.length cf → Rel P w C (.lit e xs) [.slice a xs.length xs.length]
 | own {e xs tok b cap} (cf : Nat → List Value) : xs.length ≤ cap → cap ≤ maxLen → (∀ (i : Nat) (x : AV),xs[i]? = some x → Rel P w C x (cf i)) →
   (∀ i x,xs[i]? = some x → (cf i).length = ae P e ∧ fits P e x) → eE w C (ae P e) (some ⟨b,0,none⟩) xs.length cf →
   tok < C.nx → (∀ ow,C.m tok = some ow → ow = .tok b e (xs.length * ae P e) cap) → Rel P w C (.own e xs tok) [.slice (some ⟨b,0,none⟩) xs.length cap]
 | row {e id off n a cap} : n ≤ cap → cap ≤ maxLen → id < C.nx →
   (∀ ow,C.m id = some ow → ∃ b base room,ow = .obj b e base room ∧ (0 < cap → a = some ⟨b,base + off * ae P e,none⟩) ∧ base + (off + cap) * ae P e = room) → Rel P w C (.row e id off n) [.slice a n cap]
 | agg {t ts fs} {cs : List Value} (cf : Nat → List Value) : bp P t = some ts → fs.length = ts.length → cs.length = ae P t → (∀ c ∈ cs,c.oneCell' = true) → (∀ (i : Nat) (x : AV),fs[i]? = some x → Rel P w C x (cf i)) →
   (∀ i x ty,fs[i]? = some x → ts[i]? = some ty → (cf i).length = ae P ty ∧ fits P ty x ∧ ∀ (j : Nat) (u : Value),(cf i)[j]? = some u → cs[aT P ts i + j]? = some u) → Rel P w C (.agg t fs) cs
 | loc {t v cs b o} : Rel P w C v cs → fits P t v → cs.length = ae P t → Cells w C b o cs → Rel P w C (.loc t v) [.pointer (some ⟨b,o,none⟩)]
 | ptr {t id i path a} : id < C.nx → (∀ ow,C.m id = some ow → ∃ b te base room off,ow = .obj b te base room ∧ place P te path = some (t,off) ∧ a = ⟨b,base + i * ae P te + off,none⟩) →
   Rel P w C (.ptr t id i path) [.pointer (some a)]
 | it {id a} : id < C.nx → (∀ ow,C.m id = some ow → ∃ b,ow = .iter b ∧ a = ⟨b,0,none⟩) → Rel P w C (.it id) [.pointer (some a)]
 | mp {id r} : id < C.nx → (∀ ow,C.m id = some ow → ow = .mp r) → Rel P w C (.mp id) [.map (some r)]
 | yl (l) : Rel P w C (.yl l) [.func (.yield l) #[] #[]]
 | fn {f caps} {vs : List Value} : caps.length = vs.length → (∀ (i : Nat) (c : AV),caps[i]? = some c → c.aS = true) → (∀ (i : Nat) (c : AV) (v : Value),caps[i]? = some c → vs[i]? = some v → Rel P w C c [v]) → Rel P w C (.fn f caps) [.func (.func f) #[] vs.toArray]

inductive az (P : Program) (w : World) (C : Ctx) : AV → Value → Prop
 | undef (v) : az P w C .undef v
 | maybe {g a v} : (g = true → az P w C a v) → (g = false → v = Go.undef) → az P w C (.maybe g a) v
 | tup {as} {vs : List Value} : as.length = vs.length → (∀ (i : Nat) (a : AV) (v : Value),as[i]? = some a → vs[i]? = some v → az P w C a v) → az P w C (.tup as) (.tuple vs.toArray)
 | agg {t fs} {cs : List Value} : Rel P w C (.agg t fs) cs → az P w C (.agg t fs) (.agg cs.toArray)
 | one {a v} : a.aS = true → Rel P w C a [v] → az P w C a v

structure Step (w : World) (C : Ctx) (w' : World) (C' : Ctx) : Prop where
 nx : C.nx ≤ C'.nx
 dead : ∀ id ow,id < C.nx → C'.m id = some ow → C.m id = some ow
 fE : ∀ b o,ec w C b o → w'.cell? ⟨b,o,none⟩ = w.cell? ⟨b,o,none⟩ ∧ ec w' C' b o
 os : w'.os = w.os
 tape : w'.tape = w.tape
 output : w'.output = w.output
 size : w.heap.size ≤ w'.heap.size
 block : ∀ b,b < w.heap.size → (∀ id ow,C.m id = some ow → ow.blk ≠ b) → w'.heap[b]? = w.heap[b]? ∧ ∀ id ow,C'.m id = some ow → ow.blk ≠ b

structure kE (w : World) (C : Ctx) (w' : World) (C' : Ctx) : Prop where
 nx : C.nx ≤ C'.nx
 dead : ∀ id ow,id < C.nx → C'.m id = some ow → C.m id = some ow
 fE : ∀ b o,ec w C b o → w'.cell? ⟨b,o,none⟩ = w.cell? ⟨b,o,none⟩ ∧ ec w' C' b o
theorem Step.s {w w' : World} {C C' : Ctx} (h : Step w C w' C') : kE w C w' C':=⟨h.nx,h.dead,h.fE⟩

theorem Step.refl (w : World) (C : Ctx) : Step w C w C :=
 ⟨Nat.le_refl _,fun _ _ _ h=>h,fun _ _ h=>⟨rfl,h⟩,rfl,rfl,rfl,Nat.le_refl _,fun _ _ h=>⟨rfl,h⟩⟩

theorem Step.trans {w w₁ w₂ : World} {C C₁ C₂ : Ctx} (h : Step w C w₁ C₁) (k : Step w₁ C₁ w₂ C₂) : Step w C w₂ C₂ where
 nx:=Nat.le_trans h.nx k.nx
 dead:=fun id ow hid hm=>h.dead id ow hid (k.dead id ow (Nat.lt_of_lt_of_le hid h.nx) hm)
 fE:=fun b o hs=>by
  obtain ⟨e1,s1⟩:=h.fE b o hs
  obtain ⟨e2,s2⟩:=k.fE b o s1
  exact ⟨e2.trans e1,s2⟩
 os:=k.os.trans h.os
 tape:=k.tape.trans h.tape
 output:=k.output.trans h.output
 size:=Nat.le_trans h.size k.size
 block:=fun b hb hn=>by
  obtain ⟨e1,n1⟩:=h.block b hb hn
  obtain ⟨e2,n2⟩:=k.block b (Nat.lt_of_lt_of_le hb h.size) n1
  exact ⟨e2.trans e1,n2⟩

section mono
variable {P : Program} {w w' : World} {C C' : Ctx}

theorem Cells.eU (h : kE w C w' C') {b o : Nat} {cs : List Value} (hc : Cells w C b o cs) : Cells w' C' b o cs:=fun j c hj=>by
 obtain ⟨h1,h2⟩:=hc j c hj
 obtain ⟨e,s⟩:=h.fE _ _ h2
 exact ⟨e.trans h1,s⟩

theorem eE.eU (h : kE w C w' C') {size n : Nat} {a : Option Addr} {cf : Nat → List Value} (hr : eE w C size a n cf) : eE w' C' size a n cf:=fun hn=>by
 obtain ⟨b,o,e,hc⟩:=hr hn
 exact ⟨b,o,e,fun i hi=>(hc i hi).eU h⟩

theorem Rel.eU (h : kE w C w' C') {a : AV} {cs : List Value} (hr : Rel P w C a cs) : Rel P w' C' a cs:=by
 induction hr with
 | int k n=>exact .int k n
 | bool b=>exact .bool b
 | str hl=>exact .str hl
 | nil=>exact .nil
 | au=>exact .au
 | jD=>exact .jD
 | cw=>exact .cw
 | iface h1 _ ih=>exact .iface h1 ih
 | sl cf h1 h2 _ h4 h5 ih=>exact .sl cf h1 h2 ih h4 (h5.eU h)
 | lit cf h1 _ h4 h5 ih=>exact .lit cf h1 ih h4 (h5.eU h)
 | own cf h1 h2 _ h4 h5 h6 h7 ih=>exact .own cf h1 h2 ih h4 (h5.eU h) (Nat.lt_of_lt_of_le h6 h.nx) (fun ow how=>h7 ow (h.dead _ _ h6 how))
 | row h1 h2 h3 h4=>exact .row h1 h2 (Nat.lt_of_lt_of_le h3 h.nx) (fun ow how=>h4 ow (h.dead _ _ h3 how))
 | agg cf h1 h2 h3 h4 _ h6 ih=>exact .agg cf h1 h2 h3 h4 ih h6
 | loc _ h2 h3 h4 ih=>exact .loc ih h2 h3 (h4.eU h)
 | ptr h1 h2=>exact .ptr (Nat.lt_of_lt_of_le h1 h.nx) (fun ow how=>h2 ow (h.dead _ _ h1 how))
 | it h1 h2=>exact .it (Nat.lt_of_lt_of_le h1 h.nx) (fun ow how=>h2 ow (h.dead _ _ h1 how))
 | mp h1 h2=>exact .mp (Nat.lt_of_lt_of_le h1 h.nx) (fun ow how=>h2 ow (h.dead _ _ h1 how))
 | yl l=>exact .yl l
 | fn h1 h2 _ ih=>exact .fn h1 h2 ih

theorem az.eU (h : kE w C w' C') {a : AV} {v : Value} (hr : az P w C a v) : az P w' C' a v:=by
 induction hr with
 | undef v=>exact .undef v
 | maybe _ h2 ih=>exact .maybe ih h2
 | tup h1 _ ih=>exact .tup h1 ih
 | agg h1=>exact .agg (h1.eU h)
 | one h1 h2=>exact .one h1 (h2.eU h)

theorem Cells.mono (h : Step w C w' C') {b o : Nat} {cs : List Value} (hc : Cells w C b o cs) : Cells w' C' b o cs:=hc.eU h.s
theorem eE.mono (h : Step w C w' C') {size n : Nat} {a : Option Addr} {cf : Nat → List Value} (hr : eE w C size a n cf) : eE w' C' size a n cf:=hr.eU h.s
theorem Rel.mono (h : Step w C w' C') {a : AV} {cs : List Value} (hr : Rel P w C a cs) : Rel P w' C' a cs:=hr.eU h.s
theorem az.mono (h : Step w C w' C') {a : AV} {v : Value} (hr : az P w C a v) : az P w' C' a v:=hr.eU h.s

end mono
end Go.Av
end
section
namespace Go.Av
open Go

structure aa where
 env : Nat → AV
 st : ab

def aa.upd (A : aa) (d : Nat) (v : AV) : aa:={ A with env:=fun i=>if i = d then v else A.env i }
def aa.put (A : aa) (d : Option Nat) (v : AV) : aa:=match d with | some d=>A.upd d v | none=>A

def aa.ag (A : aa) (σ : ab) : aa:={ A with st:=σ }

theorem aa.vZ (A : aa) (d : Nat) (v : AV) : (A.upd d v).env d = v:=by simp [aa.upd]
theorem aa.qP (A : aa) {i d : Nat} (v : AV) (h : i ≠ d) : (A.upd d v).env i = A.env i:=by simp [aa.upd,h]

def mj : AV → Option Value
 | .int k n=>some (.int k n)
 | .bool b=>some (.bool b)
 | .str l=>if l.length ≤ maxLen then some (.string ⟨l.toArray⟩) else none
 | _=>none
def Cg : List AV → Option (List Value)
 | []=>some []
 | x :: r=>(mj x).bind fun v=>(Cg r).map fun vs=>v :: vs
def rig (P : Program) : AV → Option Value
 | .agg t fs=>(match bp P t with
  | some ts=>if ts.all (fun ty=>ae P ty == 1) = true then (Cg fs).map fun vs=>.agg vs.toArray else none
  | none=>none)
 | x=>mj x
def zK (P : Program) (w : World) (kt : TypeId) (l : List (AV × AV)) (b : Nat) : Prop:=∃ es clock,w.heap[b]? = some (.map es clock) ∧ (es.toList.Pairwise fun e f=>e.key ≠ f.key) ∧
 (∀ e ∈ es.toList,(∃ q,keyOf P kt e.key = some q) ∧ ∃ p ∈ l,rig P p.1 = some e.key ∧ mj p.2 = some e.val) ∧ ∀ p ∈ l,∃ e ∈ es.toList,rig P p.1 = some e.key ∧ mj p.2 = some e.val

def qd (fr : Nat × Nat) (n : Nat) : Prop:=fr = (0,0) ∨ n ≤ fr.1
def fM (P : Program) (w : World) (C : Ctx) : Option cM → Option Own → Prop
 | none,none=>True
 | some (.cells te xs),some (.obj b te' base room)=>te = te' ∧ ∃ arr t' fr,w.heap[b]? = some (.cells arr t' fr) ∧ qd fr arr.size ∧ arr.size = room ∧ base + xs.length * ae P te ≤ room ∧
   ∃ cf : Nat → List Value,∀ (i : Nat) (x : AV),xs[i]? = some x → Rel P w C x (cf i) ∧ (cf i).length = ae P te ∧ fits P te x ∧ ∀ (j : Nat) (c : Value),(cf i)[j]? = some c → arr[base + i * ae P te + j]? = some c
 | some .tok,some (.tok b e hw cap)=>∃ arr,w.heap[b]? = some (.cells arr e (0,0)) ∧ arr.size = cap * ae P e ∧ hw ≤ arr.size
 | some (.iter l pos),some (.iter b)=>w.heap[b]? = some (.stringIter ⟨l.toArray⟩ pos)
 | some (.mp kt l),some (.mp b)=>zK P w kt l b
 | _,_=>False

structure aw (P : Program) (W0 : World) (w : World) (C : Ctx) (σ : ab) : Prop where
 base : RowKit.Below W0.heap.size W0 w
 low : ∀ i ow,C.m i = some ow → W0.heap.size ≤ ow.blk
 nx : C.nx = σ.length
 inj : ∀ i j a b,C.m i = some a → C.m j = some b → a.blk = b.blk → i = j
 dom : ∀ i ow,C.m i = some ow → i < C.nx
 obj : ∀ i,fM P w C (σ[i]?).join (C.m i)

structure bE (P : Program) (W0 : World) (n : Nat) (w : World) (C : Ctx) (A : aa) (a : Act) : Prop where
 env : ∀ i,az P w C (A.env i) (a.tmps.getD i undef)
 defers : a.defers = []
 size : a.tmps.size = n
 st : aw P W0 w C A.st

section
variable {P : Program} {W0 w w' : World} {C C' : Ctx} {σ σ' : ab} {n : Nat}

theorem Rel.km {a : AV} {cs : List Value} (h : Rel P w C a cs) : ∀ c ∈ cs,c.oneCell' = true:=by
 cases h with
 | agg cf _ _ _ h4=>exact h4
 | _=>intro c hc; simp only [List.mem_singleton] at hc; subst hc; rfl

theorem Rel.one_cell {a : AV} {cs : List Value} (h : Rel P w C a cs) (h1 : a.aS = true) : ∃ v,cs = [v]:=by
 cases h <;> first | exact ⟨_,rfl⟩ | (simp [AV.aS] at h1)

theorem fM.eU (h : kE w C w' C') {o : Option cM} {ow : Option Own} (hr : fM P w C o ow) (hb : ∀ x,ow = some x → w'.heap[x.blk]? = w.heap[x.blk]?) : fM P w' C' o ow:=by
 unfold fM at hr ⊢
 split at hr
 ·trivial
 ·rename_i te xs b te' base room
  obtain ⟨h1,arr,t',fr,h2,hf,h3,h4,cf,h5⟩:=hr
  refine ⟨h1,arr,t',fr,(hb _ rfl).trans h2,hf,h3,h4,cf,fun i x hx=>?_⟩
  obtain ⟨r1,r2,r3,r4⟩:=h5 i x hx
  exact ⟨r1.eU h,r2,r3,r4⟩
 ·obtain ⟨arr,h2,h3⟩:=hr
  exact ⟨arr,(hb _ rfl).trans h2,h3⟩
 ·exact (hb _ rfl).trans hr
 ·obtain ⟨es,clock,h2,h3⟩:=hr
  exact ⟨es,clock,(hb _ rfl).trans h2,h3⟩
 ·exact hr.elim

theorem fM.mono (h : Step w C w' C') {o : Option cM} {ow : Option Own} (hr : fM P w C o ow) (hb : ∀ x,ow = some x → w'.heap[x.blk]? = w.heap[x.blk]?) : fM P w' C' o ow:=hr.eU h.s hb

theorem aw.lt (h : aw P W0 w C σ) {i : Nat} {ow : Own} (hm : C.m i = some ow) : ow.blk < w.heap.size:=by
 have ho:=h.obj i
 rw [hm] at ho
 have key : ∀ o,w.heap[ow.blk]? = some o → ow.blk < w.heap.size:=fun o ho=>(Array.getElem?_eq_some_iff.1 ho).1
 unfold fM at ho
 split at ho
 ·rename_i heq; cases heq
 ·rename_i heq; cases heq; obtain ⟨_,arr,t',fr,h2,_⟩:=ho; exact key _ h2
 ·rename_i heq; cases heq; obtain ⟨arr,h2,_⟩:=ho; exact key _ h2
 ·rename_i heq; cases heq; exact key _ ho
 ·rename_i heq; cases heq; obtain ⟨es,clock,h2,_⟩:=ho; exact key _ h2
 ·exact ho.elim

theorem aw.change (h : aw P W0 w C σ) (hs : Step w C w' C') (low : ∀ i ow,C'.m i = some ow → W0.heap.size ≤ ow.blk) (hnx : C'.nx = σ'.length)
  (inj : ∀ i j a b,C'.m i = some a → C'.m j = some b → a.blk = b.blk → i = j) (dom : ∀ i ow,C'.m i = some ow → i < C'.nx)
  (hobj : ∀ i,fM P w' C' (σ'[i]?).join (C'.m i) ∨ ((σ'[i]?).join = (σ[i]?).join ∧ C'.m i = C.m i ∧ ∀ ow,C.m i = some ow → w'.heap[ow.blk]? = w.heap[ow.blk]?)) :
  aw P W0 w' C' σ':=by
 refine ⟨h.base.trans ⟨hs.os,hs.tape,hs.output,hs.size,fun k hk=>(hs.block k (Nat.lt_of_lt_of_le hk h.base.size) (fun id ow hm e=>?_)).1⟩,low,hnx,inj,dom,fun i=>?_⟩
 ·have:=h.low id ow hm; omega
 rcases hobj i with h1 | ⟨h1,h2,h3⟩
 ·exact h1
 ·rw [h1,h2]
  exact (h.obj i).mono hs (fun x hx=>h3 x hx)

theorem aw.world (h : aw P W0 w C σ) (hs : Step w C w' C) (hb : ∀ i ow,C.m i = some ow → w'.heap[ow.blk]? = w.heap[ow.blk]?) : aw P W0 w' C σ :=
 h.change hs h.low h.nx h.inj h.dom (fun i=>.inr ⟨rfl,rfl,hb i⟩)

theorem Step.drew (w : World) (C : Ctx) : Step w C w.drew C :=
 ⟨Nat.le_refl _,fun _ _ _ h=>h,fun _ _ h=>⟨rfl,h⟩,rfl,rfl,rfl,Nat.le_refl _,fun _ _ h=>⟨rfl,h⟩⟩

theorem Step.alloc (w : World) (C : Ctx) (o : Obj) : Step w C (w.alloc o) C where
 nx:=Nat.le_refl _
 dead:=fun _ _ _ h=>h
 fE:=fun b x h=>⟨World.cell?_alloc_lt w o ⟨b,x,none⟩ h.1,by simp [Nat.lt_succ_of_lt h.1],h.2⟩
 os:=rfl
 tape:=rfl
 output:=rfl
 size:=by simp
 block:=fun b hb hn=>⟨RowKit.Below.heap_alloc w o b hb,hn⟩

theorem aw.drew (h : aw P W0 w C σ) : aw P W0 w.drew C σ:=h.world (Step.drew w C) (fun _ _ _=>rfl)
theorem aw.alloc (h : aw P W0 w C σ) (o : Obj) : aw P W0 (w.alloc o) C σ :=
 h.world (Step.alloc w C o) (fun _ _ hm=>RowKit.Below.heap_alloc w o _ (h.lt hm))

theorem ec.free {b o : Nat} (hb : b < w.heap.size) (hn : ∀ id ow,C.m id = some ow → ow.blk ≠ b) : ec w C b o :=
 ⟨hb,fun id ow hm he=>absurd he (hn id ow hm)⟩

theorem aw.fresh (h : aw P W0 w C σ) : ∀ id ow,C.m id = some ow → ow.blk ≠ w.heap.size:=fun _ _ hm=>Nat.ne_of_lt (h.lt hm)

theorem Eo {a : Array Value} {d i : Nat} {v : Value} (hd : d < a.size) : (a.setIfInBounds d v).getD i undef = if i = d then v else a.getD i undef:=by
 by_cases h : i = d
 ·subst h; simp [hd]
 ·rw [if_neg h]
  simp [Array.getElem?_setIfInBounds_ne (Ne.symm h)]

theorem bE.put {A : aa} {a : Act} (h : bE P W0 n w C A a) {d : Nat} (hd : d < n) {v : AV} {x : Value} (hv : az P w C v x) : bE P W0 n w C (A.upd d v) (a.put (some d) x) where
 env:=fun i=>by
  have hd' : d < a.tmps.size:=by rw [h.size]; exact hd
  simp only [Act.put,aa.upd,Eo hd']
  by_cases hi : i = d
  ·simp [hi,hv]
  ·simp only [hi,if_false]; exact h.env i
 defers:=h.defers
 size:=by simpa [Act.put] using h.size
 st:=h.st

theorem bE.step {A : aa} {a : Act} {σ' : ab} (h : bE P W0 n w C A a) (hs : Step w C w' C') (hst : aw P W0 w' C' σ') : bE P W0 n w' C' { A with st:=σ' } a where
 env:=fun i=>(h.env i).mono hs
 defers:=h.defers
 size:=h.size
 st:=hst

end
end Go.Av
end
section
namespace Go.Av
open Go

def iV : Value → AV
 | .int k n=>.int k n
 | .bool b=>.bool b
 | .string s=>if s.data.toList.length ≤ maxLen then .str s.data.toList else .undef
 | .pointer none=>.nil
 | .slice none 0 0=>.au
 | .map none=>.jD
 | .nilIface=>.cw
 | _=>.undef

def aa.val (A : aa) : Operand → AV
 | .tmp t=>A.env t
 | .const v=>iV v
 | .func f=>.fn f []
 | .global _=>.undef

structure eh (P : Program) (W0 : World) (o : Oper) (w : World) (C : Ctx) (A : aa) (a : Act) : Prop where
 ops : ∀ x ∈ o.op.operands,az P w C (A.val x) (a.eval x)
 st : aw P W0 w C A.st

def bN (P : Program) (W0 : World) (o : Oper) (A : aa) (v : AV) : Prop :=
 ∀ w C a,eh P W0 o w C A a → ∃ x w',(execOp a.eval o).run P w = .ok (.value x) w' ∧ az P w' C v x ∧ Step w C w' C ∧ aw P W0 w' C A.st

def Is (P : Program) (W0 : World) (o : Oper) (A : aa) (x : Operand) (u : AV) : Prop:=∀ w C a,eh P W0 o w C A a → az P w C u (a.eval x)

section
variable {P : Program} {W0 w w' : World} {C C' : Ctx} {σ σ' : ab} {n : Nat} {A : aa} {a : Act}

theorem jn (v : Value) : az P w C (iV v) v:=by
 unfold iV
 split
 ·exact .one rfl (.int _ _)
 ·exact .one rfl (.bool _)
 ·rename_i s
  split
  ·rename_i h
   exact .one rfl (by
    have:=Rel.str (P:=P) (w:=w) (C:=C) h
    simpa using this)
  ·exact .undef _
 ·exact .one rfl .nil
 ·exact .one rfl .au
 ·exact .one rfl .jD
 ·exact .one rfl .cw
 ·exact .undef _

theorem bE.val (h : bE P W0 n w C A a) (x : Operand) : az P w C (A.val x) (a.eval x):=by
 cases x with
 | tmp t=>exact h.env t
 | const v=>exact jn v
 | global g=>exact .undef _
 | func f=>exact .one rfl (.fn (vs:=[]) rfl (by simp) (by simp))

theorem bE.toO (h : bE P W0 n w C A a) (o : Oper) : eh P W0 o w C A a:=⟨fun x _=>h.val x,h.st⟩

theorem Is.val {o : Oper} (A : aa) {x : Operand} (hx : x ∈ o.op.operands) : Is P W0 o A x (A.val x):=fun _ _ _ hr=>hr.ops x hx

theorem az.bX {k : IntKind} {m : Int} {v : Value} (h : az P w C (.int k m) v) : v = .int k m:=by
 cases h with
 | one _ h=>cases h; rfl
theorem az.fx {b : Bool} {v : Value} (h : az P w C (.bool b) v) : v = .bool b:=by
 cases h with
 | one _ h=>cases h; rfl
theorem az.eW {l : List UInt8} {v : Value} (h : az P w C (.str l) v) : v = .string ⟨l.toArray⟩ ∧ l.length ≤ maxLen:=by
 cases h with
 | one _ h=>cases h; exact ⟨rfl,‹_›⟩
theorem az.qk {v : Value} (h : az P w C .nil v) : v = .pointer none:=by
 cases h with
 | one _ h=>cases h; rfl
theorem az.cR {v : Value} (h : az P w C .au v) : v = .slice none 0 0:=by
 cases h with
 | one _ h=>cases h; rfl
theorem az.zX {as : List AV} {v : Value} (h : az P w C (.tup as) v) : ∃ vs : List Value,v = .tuple vs.toArray ∧ as.length = vs.length ∧ ∀ (i : Nat) (a : AV) (v : Value),as[i]? = some a → vs[i]? = some v → az P w C a v:=by
 cases h with
 | tup h1 h2=>exact ⟨_,rfl,h1,h2⟩
 | one h=>simp [AV.aS] at h
theorem az.nK {t : TypeId} {fs : List AV} {v : Value} (h : az P w C (.agg t fs) v) : ∃ cs : List Value,v = .agg cs.toArray ∧ Rel P w C (.agg t fs) cs:=by
 cases h with
 | agg h=>exact ⟨_,rfl,h⟩
 | one h=>simp [AV.aS] at h
theorem az.aA {x : AV} {v : Value} (h : az P w C x v) (h1 : x.aS = true) : Rel P w C x [v]:=by
 cases h with
 | one _ h=>exact h
 | _=>simp [AV.aS] at h1
theorem az.cells {t : TypeId} {x : AV} {v : Value} (h : az P w C x v) (hf : fits P t x) : Rel P w C x v.cells.toList:=by
 cases h with
 | undef=>simp [fits,AV.aS] at hf
 | maybe=>simp [fits,AV.aS] at hf
 | tup=>simp [fits,AV.aS] at hf
 | agg h=>simpa [Value.cells] using h
 | one h1 h =>
  have : v.cells = #[v]:=by
   have:=h.km v (by simp)
   cases v <;> first | rfl | simp [Value.oneCell'] at this
  rw [this]; exact h

theorem bh {t : TypeId} (h : 0 < ae P t) : ∃ i,P.info? t = some i ∧ i.size = ae P t:=by
 unfold ae at h ⊢
 cases hi : P.info? t with
 | none=>simp [hi] at h
 | some i=>exact ⟨i,rfl,rfl⟩

theorem mE : ∀ (fs : List Field) (o n : Nat),jA P fs o n = true → ∀ k f,fs[k]? = some f → f.offset = o + ((fs.take k).map fun f=>ae P f.type).sum
 | [],_,_,_,k,f,hk=>by simp at hk
 | g :: r,o,n,h,0,f,hk=>by
  simp [jA] at h hk
  subst hk; simp [h.1]
 | g :: r,o,n,h,k + 1,f,hk=>by
  simp only [jA,Bool.and_eq_true,beq_iff_eq,decide_eq_true_eq] at h
  have:=mE r (o + ae P g.type) n h.2.2 k f (by simpa using hk)
  rw [this]; simp; omega

theorem nD : ∀ (fs : List Field) (o n : Nat),jA P fs o n = true → n = o + (fs.map fun f=>ae P f.type).sum
 | [],o,n,h=>by simp [jA] at h; simp [h]
 | g :: r,o,n,h=>by
  simp only [jA,Bool.and_eq_true,beq_iff_eq,decide_eq_true_eq] at h
  have:=nD r (o + ae P g.type) n h.2.2
  rw [this]; simp; omega

theorem rC : ∀ (fs : List Field) (o n : Nat),jA P fs o n = true → ∀ f ∈ fs,0 < ae P f.type
 | [],_,_,_,f,hf=>by cases hf
 | g :: r,o,n,h,f,hf=>by
  simp only [jA,Bool.and_eq_true,beq_iff_eq,decide_eq_true_eq] at h
  rcases List.mem_cons.1 hf with rfl | hf
  ·exact h.2.1
  ·exact rC r _ n h.2.2 f hf

theorem fH {t : TypeId} {ts : List TypeId} (h : bp P t = some ts) :
  (∃ fs,P.underlying t = some (.struct fs) ∧ ts = fs.toList.map (·.type) ∧ (∀ k f,fs[k]? = some f → f.offset = aT P ts k ∧ 0 < ae P f.type) ∧ ae P t = aT P ts ts.length) ∨
  (∃ n e,P.underlying t = some (.array n e) ∧ ts = List.replicate n e ∧ ae P t = n * ae P e):=by
 unfold bp at h
 split at h
 ·rename_i fs hu
  split at h
  ·rename_i hok
   simp only [Option.some.injEq] at h
   subst h
   simp only [Bool.and_eq_true,decide_eq_true_eq] at hok
   replace hok:=hok.1
   refine .inl ⟨fs,hu,rfl,fun k f hk=>⟨?_,rC fs.toList 0 _ hok f (Array.mem_toList_iff.2 (Array.mem_of_getElem? hk))⟩,?_⟩
   ·have:=mE fs.toList 0 _ hok k f (by simpa using hk)
    rw [this,Nat.zero_add]
    simp only [aT,List.map_take,List.map_map]
    rfl
   ·have:=nD fs.toList 0 _ hok
    rw [this,Nat.zero_add,aT,List.take_length,List.map_map]
    rfl
  ·cases h
 ·rename_i k e hu
  split at h
  ·rename_i hok
   simp only [Option.some.injEq] at h
   subst h
   simp only [Bool.and_eq_true,decide_eq_true_eq,beq_iff_eq] at hok
   exact .inr ⟨k,e,hu,rfl,hok.1⟩
  ·cases h
 ·cases h

theorem c8 (k n : Nat) (e : TypeId) (h : k ≤ n) : aT P (List.replicate n e) k = k * ae P e:=by
 simp [aT,List.take_replicate,Nat.min_eq_left h]

theorem kT {t : TypeId} {ts : List TypeId} (h : bp P t = some ts) : 0 < ae P t:=by
 unfold bp at h
 split at h
 ·split at h
  ·rename_i hok
   simp only [Bool.and_eq_true,decide_eq_true_eq] at hok
   exact hok.2
  ·cases h
 ·split at h
  ·rename_i hok
   simp only [Bool.and_eq_true,decide_eq_true_eq] at hok
   exact hok.2
  ·cases h
 ·cases h

theorem gv {t : TypeId} {ts : List TypeId} (h : bp P t = some ts) : ae P t = aT P ts ts.length:=by
 rcases fH h with ⟨fs,_,_,_,h4⟩ | ⟨n,e,_,h2,h3⟩
 ·exact h4
 ·subst h2; rw [List.length_replicate,c8 _ _ _ (Nat.le_refl _),h3]

theorem me {t : TypeId} {ts : List TypeId} (h : bp P t = some ts) (w : World) : (isAgg t).run P w = .ok true w:=by
 rcases fH h with ⟨fs,hu,_⟩ | ⟨n,e,hu,_⟩ <;> simp [isAgg,run_underlying hu]

theorem gp {t : TypeId} (h : cb P t = true) (w : World) : (isAgg t).run P w = .ok false w ∧ ae P t = 1:=by
 unfold cb at h
 split at h
 ·cases h
 ·cases h
 ·cases h
 ·rename_i d hs ha hu
  refine ⟨?_,by simpa using h⟩
  simp only [isAgg,Sem.run_bind,run_underlying hu,Result.andThen_ok]
  cases d <;> first | rfl | (exact absurd hu (hs _)) | (exact absurd hu (ha _ _))

theorem Rel.bk {t : TypeId} {x : AV} {cs : List Value} (h : Rel P w C x cs) (hf : fits P t x) : cs.length = ae P t:=by
 cases x <;> simp only [fits,AV.aS,Bool.false_eq_true,false_and] at hf
 case agg t' fs =>
  obtain ⟨rfl,_⟩:=hf
  cases h with
  | agg cf h1 h2 h3=>exact h3
 all_goals
  obtain ⟨v,rfl⟩:=h.one_cell rfl
  rw [(gp hf.2 default).2]; rfl

end
end Go.Av
end
section
namespace Go.Av
open Go

section
variable {P : Program} {W0 w w' : World} {C C' : Ctx} {σ σ' : ab} {n : Nat} {A : aa} {a : Act} {o : Oper}

theorem bN.of_same {v : AV} (h : ∀ w C a,eh P W0 o w C A a → ∃ x,(execOp a.eval o).run P w = .ok (.value x) w ∧ az P w C v x) : bN P W0 o A v :=
 fun w C a hr=>let ⟨x,h1,h2⟩:=h w C a hr; ⟨x,w,h1,h2,.refl _ _,hr.st⟩

theorem Ik {x : Operand} {u : AV} (ho : o.op = .move x) (hx : Is P W0 o A x u) : bN P W0 o A u :=
 .of_same fun w C a hr=>⟨a.eval x,by simp [execOp,ho],hx w C a hr⟩
theorem Ca {x : Operand} {u : AV} (ho : o.op = .assign x) (hx : Is P W0 o A x u) : bN P W0 o A u :=
 .of_same fun w C a hr=>⟨a.eval x,by simp [execOp,ho],hx w C a hr⟩

theorem az.strip {g : Bool} {v : AV} {x : Value} (h : az P w C (.maybe g v) x) (hg : g = true) : az P w C v x:=by
 cases h with
 | maybe h _=>exact h hg
 | one h=>simp [AV.aS] at h

theorem eZ {t : TypeId} {v : AV} {cs : List Value} {b off : Nat} (hr : Rel P w C v cs) (hf : fits P t v) (hc : ∀ (j : Nat) (c : Value),cs[j]? = some c → w.cell? ⟨b,off + j,none⟩ = some c) :
  ∃ x,(loadVar t ⟨b,off,none⟩).run P w = .ok x w ∧ az P w C v x:=by
 have hlen:=hr.bk hf
 cases hv : v.aS with
 | true =>
  obtain ⟨x,rfl⟩:=hr.one_cell hv
  have hp : cb P t = true:=by
   cases v <;> simp_all [fits,AV.aS]
  refine ⟨x,?_,.one hv hr⟩
  have h0:=hc 0 x (by simp)
  simp only [Nat.add_zero] at h0
  simp [loadVar,(gp hp w).1,h0]
 | false =>
  cases v <;> simp only [AV.aS,Bool.true_eq_false] at hv <;> simp only [fits,AV.aS,Bool.false_eq_true,false_and] at hf
  rename_i t' fs
  obtain ⟨rfl,hf⟩:=hf
  obtain ⟨ts,hts⟩:=Option.isSome_iff_exists.1 hf
  obtain ⟨i,hi,hsz⟩:=bh (kT hts)
  have hl:=run_loadCells_list (P:=P) w ⟨b,off,none⟩ cs (fun j c hj=>by rw [Addr.add_lit]; exact hc j c hj)
  rw [hlen,← hsz] at hl
  exact ⟨.agg cs.toArray,by simp [loadVar,me hts w,sizeOf,typeInfo,hi,hl],.agg hr⟩

theorem az.nu {t : TypeId} {v : AV} {x : Value} (h : az P w C (.loc t v) x) : ∃ b off cs,x = .pointer (some ⟨b,off,none⟩) ∧ Rel P w C v cs ∧ fits P t v ∧ cs.length = ae P t ∧ Cells w C b off cs:=by
 have:=h.aA rfl
 cases this with
 | loc h1 h2 h3 h4=>exact ⟨_,_,_,rfl,h1,h2,h3,h4⟩

theorem xP {t : TypeId} {v : AV} {x : Operand} (ho : o.op = .load t x) (hx : Is P W0 o A x (.loc t v)) : bN P W0 o A v :=
 .of_same fun w C a hr=>by
  have h:=hx w C a hr
  obtain ⟨b,off,cs,hv,h1,h2,h3,h4⟩:=h.nu
  obtain ⟨y,hy,hr'⟩:=eZ h1 h2 (fun j c hj=>(h4 j c hj).1)
  exact ⟨y,by simp [execOp,ho,Instr.loadAt,Instr.sureAddr,hv,hy],hr'⟩

theorem Rel.part {t : TypeId} {ts : List TypeId} {fs : List AV} {cs : List Value} (h : Rel P w C (.agg t fs) cs) (hts : bp P t = some ts) {k : Nat} {x : AV} {ty : TypeId} (hx : fs[k]? = some x) (hty : ts[k]? = some ty) :
  ∃ c,Rel P w C x c ∧ c.length = ae P ty ∧ fits P ty x ∧ (∀ (j : Nat) (u : Value),c[j]? = some u → cs[aT P ts k + j]? = some u):=by
 cases h with
 | agg cf h1 h2 h3 h4 h5 h6 =>
  rw [hts] at h1
  cases h1
  exact ⟨cf k,h5 k x hx,h6 k x ty hx hty⟩

theorem Rel.r8 {t : TypeId} {ts : List TypeId} {fs : List AV} {cs : List Value} (h : Rel P w C (.agg t fs) cs) (hts : bp P t = some ts) : fs.length = ts.length:=by
 cases h with
 | agg cf h1 h2=>rw [hts] at h1; cases h1; exact h2

theorem rD {f : Field} (hf : 0 < ae P f.type) (b off : Nat) (w : World) : (fieldPlace ⟨b,off,none⟩ f).run P w = .ok ⟨b,off + f.offset,none⟩ w:=by
 obtain ⟨i,hi,hsz⟩:=bh hf
 simp [fieldPlace,sizeOf,typeInfo,hi,hsz,Nat.ne_of_gt hf,Addr.add_lit]

theorem pe {s : TypeId} {ts : List TypeId} {fs : List AV} {x : Operand} {k : Nat} {y : AV} {ty : TypeId} (ho : o.op = .fieldAddr s x k) (hx : Is P W0 o A x (.loc s (.agg s fs))) (hst : (P.underlying s).any (fun d=>match d with | .struct _=>true | _=>false) = true)
  (hts : bp P s = some ts) (hy : fs[k]? = some y) (hty : ts[k]? = some ty) : bN P W0 o A (.loc ty y) :=
 .of_same fun w C a hr=>by
  have h:=hx w C a hr
  obtain ⟨b,off,cs,hv,h1,h2,h3,h4⟩:=h.nu
  rcases fH hts with ⟨fl,hu,e1,e2,e3⟩ | ⟨m,e,hu,_⟩
  case inr=>simp [hu] at hst
  obtain ⟨c,r1,r2,r3,r4⟩:=h1.part hts hy hty
  have hk : k < fl.size:=by
   have : k < ts.length:=(List.getElem?_eq_some_iff.1 hty).1
   rw [e1] at this; simpa using this
  have hfk : fl[k]? = some fl[k]:=Array.getElem?_eq_getElem hk
  obtain ⟨hoff,hpos⟩:=e2 k _ hfk
  have hfp:=rD hpos b off w
  refine ⟨.pointer (some ⟨b,off + aT P ts k,none⟩),?_,.one rfl (.loc r1 r3 r2 (fun j u hj=>?_))⟩
  ·simp [execOp,ho,Instr.fieldAt,run_underlying hu,hfk,Instr.sureAddr,hv,hfp,hoff]
  ·have:=h4 (aT P ts k + j) u (r4 j u hj)
   rwa [← Nat.add_assoc] at this

theorem Rel.lf {e : TypeId} {xs : List AV} {x : AV} {v : Value} (h : Rel P w C x [v]) (hx : x = .sl e xs ∨ x = .lit e xs ∨ ∃ tok,x = .own e xs tok) :
  ∃ ad cap cf,v = .slice ad xs.length cap ∧ xs.length ≤ cap ∧ cap ≤ maxLen ∧ (∀ (i : Nat) (x : AV),xs[i]? = some x → Rel P w C x (cf i)) ∧
   (∀ i x,xs[i]? = some x → (cf i).length = ae P e ∧ fits P e x) ∧ eE w C (ae P e) ad xs.length cf:=by
 rcases hx with rfl | rfl | ⟨tok,rfl⟩
 ·cases h with | sl cf h1 h2 h3 h4 h5=>exact ⟨_,_,cf,rfl,h1,h2,h3,h4,h5⟩
 ·cases h with | lit cf h1 h3 h4 h5=>exact ⟨_,_,cf,rfl,Nat.le_refl _,h1,h3,h4,h5⟩
 ·cases h with | own cf h1 h2 h3 h4 h5=>exact ⟨_,_,cf,rfl,h1,h2,h3,h4,h5⟩

def AV.ju : AV → Option (TypeId × List AV)
 | .sl e xs | .lit e xs | .own e xs _=>some (e,xs)
 | _=>none

theorem AV.kD {x : AV} {e : TypeId} {xs : List AV} (h : x.ju = some (e,xs)) : (x = .sl e xs ∨ x = .lit e xs ∨ ∃ tok,x = .own e xs tok) ∧ x.aS = true:=by
 cases x <;> simp [AV.ju] at h <;> (obtain ⟨rfl,rfl⟩:=h; simp [AV.aS])

theorem bF {t e : TypeId} (h : elT P t = some e) : P.underlying t = some (.slice e):=by
 unfold elT at h
 split at h
 ·cases h; assumption
 ·cases h

theorem ns {t e : TypeId} {x ix : Operand} {xs : List AV} {k : IntKind} {i : Int} {l : AV} {y : AV} (ho : o.op = .indexAddr t x ix) (hx : Is P W0 o A x l) (hl : l.ju = some (e,xs)) (hi : Is P W0 o A ix (.int k i))
  (ht : elT P t = some e) (he : 0 < ae P e) (h0 : 0 ≤ i) (hy : xs[i.toNat]? = some y) : bN P W0 o A (.loc e y) :=
 .of_same fun w C a hr=>by
  have hxv:=hx w C a hr
  obtain ⟨hcase,hone⟩:=AV.kD hl
  obtain ⟨ad,cap,cf,hv,h1,h2,h3,h4,h5⟩:=(hxv.aA hone).lf hcase
  have hiv:=hi w C a hr
  replace hiv:=hiv.bX
  have hlt : i.toNat < xs.length:=(List.getElem?_eq_some_iff.1 hy).1
  obtain ⟨b,off,rfl,hc⟩:=h5 (by omega)
  obtain ⟨inf,hinf,hsz⟩:=bh he
  have hlt' : i < (xs.length : Int):=by omega
  refine ⟨.pointer (some ⟨b,off + i.toNat * ae P e,none⟩),?_,.one rfl (.loc (h3 _ _ hy) (h4 _ _ hy).2 (h4 _ _ hy).1 (hc _ hlt))⟩
  simp [execOp,ho,Instr.indexAt,hv,hiv,asIntOf,run_underlying (bF ht),h0,hlt',sizeOf,typeInfo,hinf,hsz,Addr.add_lit]

theorem vA {t : TypeId} {x ix : Operand} {l : List UInt8} {k : IntKind} {i : Int} {c : UInt8} (ho : o.op = .index t x ix) (hx : Is P W0 o A x (.str l)) (hi : Is P W0 o A ix (.int k i))
  (ht : P.underlying t = some .string) (h0 : 0 ≤ i) (hy : l[i.toNat]? = some c) : bN P W0 o A (.int .u8 c.toNat) :=
 .of_same fun w C a hr=>by
  have hxv:=hx w C a hr
  obtain ⟨hxv,_⟩:=hxv.eW
  have hiv:=hi w C a hr
  replace hiv:=hiv.bX
  have hlt : i.toNat < l.length:=(List.getElem?_eq_some_iff.1 hy).1
  refine ⟨.int .u8 c.toNat,?_,.one rfl (.int _ _)⟩
  have hc : ({ data:=l.toArray } : ByteArray)[i.toNat]? = some c:=by
   have : i.toNat < ({ data:=l.toArray } : ByteArray).size:=by simpa [ByteArray.size] using hlt
   rw [getElem?_pos ({ data:=l.toArray } : ByteArray) i.toNat this]
   have h2:=(List.getElem?_eq_some_iff.1 hy).2
   rw [← h2]
   rfl
  simp [execOp,ho,Instr.index,hxv,hiv,asIntOf,run_underlying ht,h0,hc]

end
end Go.Av
end
section
namespace Go.Av
open Go

def cE (op : BinOp) (k : IntKind) (a b : Int) : Option AV :=
 match op with
 | .add=>some (.int k (k.wrap (a + b)))
 | .sub=>some (.int k (k.wrap (a - b)))
 | .mul=>some (.int k (k.wrap (a * b)))
 | .eql=>some (.bool (a == b))
 | .neq=>some (.bool (a != b))
 | .lss=>some (.bool (decide (a < b)))
 | .leq=>some (.bool (decide (a ≤ b)))
 | .gtr=>some (.bool (decide (b < a)))
 | .geq=>some (.bool (decide (b ≤ a)))
 | .quo=>if b = 0 then none else some (.int k (k.wrap (a.tdiv b)))
 | .rem=>if b = 0 then none else some (.int k (a.tmod b))
 | .and=>some (.int k (bits .and k a b))
 | .or=>some (.int k (bits .or k a b))
 | .xor=>some (.int k (bits .xor k a b))
 | .andNot=>some (.int k (bits .andNot k a b))
 | _=>none

def rq (op : BinOp) (k : IntKind) (a b : Int) : Option AV :=
 if b < 0 then none else match op with
 | .shl=>some (.int k (k.wrap (a * 2 ^ (min b.toNat k.bits))))
 | .shr=>some (.int k (a.fdiv (2 ^ (min b.toNat k.bits))))
 | _=>none
def fU : BinOp → Bool
 | .shl | .shr=>true
 | _=>false

def fO (op : BinOp) (a b : List UInt8) : Option AV :=
 match op with
 | .add=>if a.length + b.length ≤ maxLen then some (.str (a ++ b)) else none
 | .eql=>some (.bool (a == b))
 | .neq=>some (.bool (!(a == b)))
 | .lss=>some (.bool (Op.bytesLess a b))
 | .leq=>some (.bool (Op.bytesLess a b || a == b))
 | .gtr=>some (.bool (!(Op.bytesLess a b || a == b)))
 | .geq=>some (.bool (!Op.bytesLess a b))
 | _=>none

def AV.fI : AV → Bool
 | .loc _ _ | .ptr _ _ _ _ | .it _=>true
 | _=>false

def ep (P : Program) (t : TypeId) : Bool:=match P.underlying t with | some (.pointer _)=>true | _=>false
def nP (P : Program) (t : TypeId) : Bool:=match P.underlying t with | some .bool=>true | _=>false

def AV.isFull : AV → Bool
 | .sl _ (_ :: _) | .lit _ (_ :: _) | .own _ (_ :: _) _=>true
 | _=>false

def jy (P : Program) (t : TypeId) : AV → AV → Option Bool
 | .bool a,.bool b=>if nP P t then some (a == b) else none
 | .au,.au=>if (elT P t).isSome then some true else none
 | .au,y=>if (elT P t).isSome && y.isFull then some false else none
 | x,.au=>if (elT P t).isSome && x.isFull then some false else none
 | .nil,.nil=>if ep P t then some true else none
 | .nil,y=>if ep P t && y.fI then some false else none
 | x,.nil=>if ep P t && x.fI then some false else none
 | _,_=>none

def eq1 (P : Program) (ty : TypeId) (x y : AV) : Option Bool :=
 match P.underlying ty,x,y with
 | some (.int _),.int k a,.int k' b=>if k = k' then some (a == b) else none
 | some .string,.str a,.str b=>some (a == b)
 | some .bool,.bool a,.bool b=>some (a == b)
 | _,_,_=>none
def px (P : Program) : List TypeId → List AV → List AV → Option Bool
 | [],[],[]=>some true
 | ty :: ts,x :: xs,y :: ys=>(eq1 P ty x y).bind fun b=>(px P ts xs ys).map fun c=>b && c
 | _,_,_=>none
def gu (P : Program) (t : TypeId) (fs gs : List AV) : Option Bool :=
 match P.underlying t with
 | some (.struct fl) => if fl.toList.all (fun f => f.name != "_") && (!P.stoodInHeld t && !P.eqGuardType P.depth t) then (bp P t).bind fun ts => px P ts fs gs else none
 | some (.array n e)=>if ae P e == 1 && !P.eqGuardType P.depth t then (bp P t).bind fun ts=>px P ts fs gs else none
 | _=>none

def ck (P : Program) (op : BinOp) (t : TypeId) (x y : AV) : Option AV :=
 match x,y with
 | .int k a,.int k' b=>if fU op = true then rq op k a b else if k = k' then cE op k a b else none
 | .str a,.str b=>fO op a b
 | .agg t1 fs,.agg t2 gs=>if t1 = t ∧ t2 = t then (match op with
  | .eql=>(gu P t fs gs).map .bool
  | .neq=>(gu P t fs gs).map fun b=>.bool (!b)
  | _=>none) else none
 | x,y=>match op with
  | .eql=>(jy P t x y).map .bool
  | .neq=>(jy P t x y).map fun b=>.bool (!b)
  | _=>none

section
variable {P : Program} {W0 w w' : World} {C C' : Ctx} {σ σ' : ab} {n : Nat} {A : aa} {a : Act} {o : Oper}

theorem az.fI {x : AV} {v : Value} (h : az P w C x v) (hp : x.fI = true) : ∃ ad,v = .pointer (some ad):=by
 cases x <;> simp [AV.fI] at hp
 all_goals
  have:=h.aA rfl
  cases this
  exact ⟨_,rfl⟩

theorem BG {t : TypeId} (d : Nat) (hu : P.underlying t = some .bool) (p q : Bool) (w : World) : (Op.equalIn (d + 1) t (.bool p) (.bool q)).run P w = .ok (p == q) w:=by
 simp [Op.equalIn,run_underlying hu]
theorem EY {t e : TypeId} (d : Nat) (hu : P.underlying t = some (.pointer e)) (w : World) : (Op.equalIn (d + 1) t (.pointer none) (.pointer none)).run P w = .ok true w:=by
 simp [Op.equalIn,run_underlying hu]
theorem Ct {t e : TypeId} (d : Nat) (hu : P.underlying t = some (.pointer e)) (ad : Addr) (w : World) : (Op.equalIn (d + 1) t (.pointer none) (.pointer (some ad))).run P w = .ok false w:=by
 simp [Op.equalIn,run_underlying hu]
theorem Cl {t e : TypeId} (d : Nat) (hu : P.underlying t = some (.pointer e)) (ad : Addr) (w : World) : (Op.equalIn (d + 1) t (.pointer (some ad)) (.pointer none)).run P w = .ok false w:=by
 simp [Op.equalIn,run_underlying hu]

theorem BO {t e : TypeId} (d : Nat) (hu : P.underlying t = some (.slice e)) (w : World) : (Op.equalIn (d + 1) t (.slice none 0 0) (.slice none 0 0)).run P w = .ok true w:=by
 simp [Op.equalIn,run_underlying hu]
theorem yu {t e : TypeId} (d : Nat) (hu : P.underlying t = some (.slice e)) (ad : Addr) (l c : Nat) (w : World) : (Op.equalIn (d + 1) t (.slice none 0 0) (.slice (some ad) l c)).run P w = .ok false w:=by
 simp [Op.equalIn,run_underlying hu]
theorem yJ {t e : TypeId} (d : Nat) (hu : P.underlying t = some (.slice e)) (ad : Addr) (l c : Nat) (w : World) : (Op.equalIn (d + 1) t (.slice (some ad) l c) (.slice none 0 0)).run P w = .ok false w:=by
 simp [Op.equalIn,run_underlying hu]
theorem az.isFull {x : AV} {v : Value} (h : az P w C x v) (hp : x.isFull = true) : ∃ ad l c,v = .slice (some ad) l c:=by
 have key : ∀ e xs,(x = .sl e xs ∨ x = .lit e xs ∨ ∃ tok,x = .own e xs tok) → 0 < xs.length → x.aS = true → ∃ ad l c,v = .slice (some ad) l c:=fun e xs hx hl ho=>by
  obtain ⟨ad,cap,cf,hv,_,_,_,_,h5⟩:=(h.aA ho).lf hx
  obtain ⟨b,off,rfl,_⟩:=h5 hl
  exact ⟨_,_,_,hv⟩
 unfold AV.isFull at hp
 split at hp
 ·exact key _ _ (.inl rfl) (by simp) rfl
 ·exact key _ _ (.inr (.inl rfl)) (by simp) rfl
 ·exact key _ _ (.inr (.inr ⟨_,rfl⟩)) (by simp) rfl
 ·cases hp
theorem jB (op : BinOp) (t : TypeId) (x y : Operand) (b : Option Addr) (l c : Nat) (v : Value) (w : World) : (eqGuard op t x y (.slice b l c) v).run P w = .ok () w:=by
 cases op <;> simp [eqGuard]

def Value.lH : Value → Bool
 | .bool _ | .pointer _ | .slice _ _ _=>true
 | _=>false

theorem C4 {t : TypeId} {x y : AV} {u v : Value} {b : Bool} (h : jy P t x y = some b) (hx : az P w C x u) (hy : az P w C y v) :
  (Op.equal t u v).run P w = .ok b w ∧ Value.lH u = true:=by
 show (Op.equalIn (9999 + 1) t u v).run P w = .ok b w ∧ Value.lH u = true
 have hptr : ep P t = true → ∃ e,P.underlying t = some (.pointer e):=fun hp=>by
  unfold ep at hp
  split at hp
  ·exact ⟨_,by assumption⟩
  ·cases hp
 unfold jy at h
 split at h
 ·split at h
  ·rename_i hb
   simp only [Option.some.injEq] at h
   subst h
   have hu : P.underlying t = some .bool:=by
    unfold nP at hb
    split at hb
    ·assumption
    ·cases hb
   rw [hx.fx,hy.fx]
   exact ⟨BG _ hu _ _ _,rfl⟩
  ·cases h
 ·split at h
  ·rename_i hp
   simp only [Option.some.injEq] at h
   subst h
   obtain ⟨e,hu⟩:=Option.isSome_iff_exists.1 hp
   rw [hx.cR,hy.cR]
   exact ⟨BO _ (bF hu) _,rfl⟩
  ·cases h
 ·split at h
  ·rename_i hp
   simp only [Bool.and_eq_true] at hp
   simp only [Option.some.injEq] at h
   subst h
   obtain ⟨e,hu⟩:=Option.isSome_iff_exists.1 hp.1
   obtain ⟨ad,l,c,rfl⟩:=hy.isFull hp.2
   rw [hx.cR]
   exact ⟨yu _ (bF hu) _ _ _ _,rfl⟩
  ·cases h
 ·split at h
  ·rename_i hp
   simp only [Bool.and_eq_true] at hp
   simp only [Option.some.injEq] at h
   subst h
   obtain ⟨e,hu⟩:=Option.isSome_iff_exists.1 hp.1
   obtain ⟨ad,l,c,rfl⟩:=hx.isFull hp.2
   rw [hy.cR]
   exact ⟨yJ _ (bF hu) _ _ _ _,rfl⟩
  ·cases h
 ·split at h
  ·rename_i hp
   simp only [Option.some.injEq] at h
   subst h
   obtain ⟨e,hu⟩:=hptr hp
   rw [hx.qk,hy.qk]
   exact ⟨EY _ hu _,rfl⟩
  ·cases h
 ·split at h
  ·rename_i hp
   simp only [Bool.and_eq_true] at hp
   simp only [Option.some.injEq] at h
   subst h
   obtain ⟨e,hu⟩:=hptr hp.1
   obtain ⟨ad,rfl⟩:=hy.fI hp.2
   rw [hx.qk]
   exact ⟨Ct _ hu _ _,rfl⟩
  ·cases h
 ·split at h
  ·rename_i hp
   simp only [Bool.and_eq_true] at hp
   simp only [Option.some.injEq] at h
   subst h
   obtain ⟨e,hu⟩:=hptr hp.1
   obtain ⟨ad,rfl⟩:=hx.fI hp.2
   rw [hy.qk]
   exact ⟨Cl _ hu _ _,rfl⟩
  ·cases h
 ·cases h

theorem zr {op : BinOp} {t : TypeId} {k : IntKind} {p q : Int} {v : AV} (h : cE op k p q = some v) (w : World) :
  ∃ x,(binOp op t (.int k p) (.int k q)).run P w = .ok x w ∧ az P w C v x:=by
 by_cases h0 : q = 0
 ·subst h0
  cases op <;> simp only [cE,if_true,Option.some.injEq,reduceCtorEq] at h <;> subst h
  all_goals first
   | exact ⟨_,by simp [go_sem],.one rfl (.int _ _)⟩
   | exact ⟨_,by simp [go_sem],.one rfl (.bool _)⟩
 cases op <;> simp only [cE,h0,if_false,Option.some.injEq,reduceCtorEq] at h <;> subst h
 all_goals first
  | exact ⟨_,by simp [go_sem,h0],.one rfl (.int _ _)⟩
  | exact ⟨_,by simp [go_sem,h0],.one rfl (.bool _)⟩

theorem BM {op : BinOp} {t : TypeId} {k k' : IntKind} {p q : Int} {v : AV} (h : rq op k p q = some v) (w : World) :
  ∃ x,(binOp op t (.int k p) (.int k' q)).run P w = .ok x w ∧ az P w C v x:=by
 unfold rq at h
 split at h
 ·cases h
 ·rename_i h0
  cases op <;> simp only [Option.some.injEq,reduceCtorEq] at h <;> subst h
  ·exact ⟨_,by simp only [binOp,Op.shift,h0,if_false]; rfl,.one rfl (.int _ _)⟩
  ·exact ⟨_,by simp only [binOp,Op.shift,h0,if_false]; rfl,.one rfl (.int _ _)⟩

theorem yy {op : BinOp} {t : TypeId} {p q : List UInt8} {v : AV} (h : fO op p q = some v) (w : World) :
  ∃ x,(binOp op t (.string ⟨p.toArray⟩) (.string ⟨q.toArray⟩)).run P w = .ok x w ∧ az P w C v x:=by
 have hl : ∀ l : List UInt8,(⟨l.toArray⟩ : ByteArray).toList = l:=fun l=>by
  simp [ByteArray.toList_eq]
 by_cases ha : op = .add
 ·subst ha
  simp only [fO] at h
  split at h
  ·rename_i hle
   cases h
   refine ⟨_,?_,.one rfl (.str (l:=p ++ q) (by simpa using hle))⟩
   have hn : ¬ ((((⟨p.toArray⟩ : ByteArray).size + (⟨q.toArray⟩ : ByteArray).size : Nat) : Int) > IntKind.i64.max):=by
    show ¬ (((p.toArray.size + q.toArray.size : Nat) : Int) > 9223372036854775807)
    simp only [List.size_toArray]
    unfold maxLen at hle
    omega
   simp only [binOp,Op.stringOp,hn,if_false]
   rw [ByteArray.mk_append_mk]
   rfl
  ·cases h
 cases op <;> simp only [fO,Option.some.injEq,reduceCtorEq,not_true_eq_false] at h ha <;> subst h
 all_goals exact ⟨_,by simp only [binOp,Op.stringOp,hl]; rfl,.one rfl (.bool _)⟩

theorem AE {ty : TypeId} {x y : AV} {b : Bool} (h : eq1 P ty x y = some b) : x.aS = true ∧ y.aS = true ∧ (∀ (d : Nat) (v v' : Value),Rel P w C x [v] → Rel P w C y [v'] → (Op.equalIn (d + 1) ty v v').run P w = .ok b w) ∧
  ∀ (cs : Array Value) (off : Nat) (v : Value),cs[off]? = some v → (Go.part ty cs off).run P w = .ok v w:=by
 unfold eq1 at h
 split at h
 ·rename_i k0 k a k' b' hu
  split at h
  ·rename_i hk
   subst hk
   cases h
   refine ⟨rfl,rfl,fun d v v' hv hv'=>?_,fun cs off v hv=>by simp [Go.part,isAgg,run_underlying hu,hv]⟩
   cases hv; cases hv'
   exact run_equalIn_int w d ty _ _ _ _ hu
  ·cases h
 ·rename_i a b' hu
  cases h
  refine ⟨rfl,rfl,fun d v v' hv hv'=>?_,fun cs off v hv=>by simp [Go.part,isAgg,run_underlying hu,hv]⟩
  cases hv; cases hv'
  rw [run_equalIn_string w d ty _ _ hu]
  simp [ByteArray.toList_eq]
 ·rename_i a b' hu
  cases h
  refine ⟨rfl,rfl,fun d v v' hv hv'=>?_,fun cs off v hv=>by simp [Go.part,isAgg,run_underlying hu,hv]⟩
  cases hv; cases hv'
  exact run_equalIn_bool' w d ty _ _ hu
 ·cases h

theorem xM (d : Nat) {cs ds : List Value} : ∀ (fl : List Field) (xs ys : List AV) (b : Bool), fl.all (fun f => f.name != "_") = true →
  (∀ (i : Nat) (f : Field) (x : AV),fl[i]? = some f → xs[i]? = some x → x.aS = true → ∃ v,Rel P w C x [v] ∧ cs[f.offset]? = some v) → (∀ (i : Nat) (f : Field) (x : AV),fl[i]? = some f → ys[i]? = some x → x.aS = true → ∃ v,Rel P w C x [v] ∧ ds[f.offset]? = some v) →
  px P (fl.map (·.type)) xs ys = some b → (Op.eqFields (d + 1) cs.toArray ds.toArray fl).run P w = .ok b w
 | [],xs,ys,b,_,_,_,h=>by
  rcases xs with _ | ⟨x,xs⟩ <;> rcases ys with _ | ⟨y,ys⟩ <;> simp [px] at h
  subst h
  simp [Op.eqFields]
 | f :: fl,xs,ys,b,hn,hx,hy,h=>by
  rcases xs with _ | ⟨x,xs⟩ <;> rcases ys with _ | ⟨y,ys⟩ <;> simp only [List.map_cons,px,reduceCtorEq] at h
  rw [List.all_cons,Bool.and_eq_true,bne_iff_ne] at hn
  cases h1 : eq1 P f.type x y with
  | none=>rw [h1] at h; cases h
  | some b1 =>
   rw [h1,Option.bind_some] at h
   cases h2 : px P (fl.map (·.type)) xs ys with
   | none=>rw [h2] at h; cases h
   | some b2 =>
    rw [h2,Option.map_some] at h
    cases h
    obtain ⟨o1,o2,r1,r2⟩:=AE (P:=P) (w:=w) (C:=C) h1
    obtain ⟨v,hv,hc⟩:=hx 0 f x rfl rfl o1
    obtain ⟨v',hv',hc'⟩:=hy 0 f y rfl rfl o2
    have ih:=xM d fl xs ys b2 hn.2 (fun i g z hg hz=>hx (i + 1) g z (by simpa using hg) (by simpa using hz)) (fun i g z hg hz=>hy (i + 1) g z (by simpa using hg) (by simpa using hz)) h2
    simp only [Op.eqFields,hn.1,ne_eq,not_false_eq_true,if_true,Sem.run_bind,r2 cs.toArray f.offset v (by simpa using hc),r2 ds.toArray f.offset v' (by simpa using hc'),Result.andThen_ok,r1 d v v' hv hv']
    cases b1
    ·simp
    ·simpa using ih

theorem xn (d : Nat) {e : TypeId} {cs ds : List Value} : ∀ (m k : Nat) (xs ys : List AV) (b : Bool),
  (∀ (i : Nat) (x : AV),xs[i]? = some x → i < m → x.aS = true → ∃ v,Rel P w C x [v] ∧ cs[k + i]? = some v) → (∀ (i : Nat) (x : AV),ys[i]? = some x → i < m → x.aS = true → ∃ v,Rel P w C x [v] ∧ ds[k + i]? = some v) →
  px P (List.replicate m e) xs ys = some b → (Op.eqItems (d + 1) e 1 cs.toArray ds.toArray (List.range' k m)).run P w = .ok b w
 | 0,k,xs,ys,b,_,_,h=>by
  rcases xs with _ | ⟨x,xs⟩ <;> rcases ys with _ | ⟨y,ys⟩ <;> simp [px] at h
  subst h
  simp [Op.eqItems]
 | m + 1,k,xs,ys,b,hx,hy,h=>by
  rcases xs with _ | ⟨x,xs⟩ <;> rcases ys with _ | ⟨y,ys⟩ <;> simp only [List.replicate_succ,px,reduceCtorEq] at h
  cases h1 : eq1 P e x y with
  | none=>rw [h1] at h; cases h
  | some b1 =>
   rw [h1,Option.bind_some] at h
   cases h2 : px P (List.replicate m e) xs ys with
   | none=>rw [h2] at h; cases h
   | some b2 =>
    rw [h2,Option.map_some] at h
    cases h
    obtain ⟨o1,o2,r1,r2⟩:=AE (P:=P) (w:=w) (C:=C) h1
    obtain ⟨v,hv,hc⟩:=hx 0 x rfl (Nat.succ_pos _) o1
    obtain ⟨v',hv',hc'⟩:=hy 0 y rfl (Nat.succ_pos _) o2
    have ih:=xn d m (k + 1) xs ys b2 (fun i z hz hi=>by have:=hx (i + 1) z (by simpa using hz) (by omega); rwa [show k + (i + 1) = k + 1 + i by omega] at this) (fun i z hz hi=>by have:=hy (i + 1) z (by simpa using hz) (by omega); rwa [show k + (i + 1) = k + 1 + i by omega] at this) h2
    rw [List.range'_succ]
    simp only [Op.eqItems,Sem.run_bind,Nat.mul_one,r2 cs.toArray k v (by simpa using hc),r2 ds.toArray k v' (by simpa using hc'),Result.andThen_ok,r1 d v v' hv hv']
    cases b1
    ·simp
    ·simpa using ih
theorem Bs {e : TypeId} (h : ae P e = 1) (m : Nat) : ∀ i,i ≤ m → aT P (List.replicate m e) i = i:=fun i hi=>by
 unfold aT
 rw [List.take_replicate,Nat.min_eq_left hi,List.map_replicate,h,List.sum_replicate_nat,Nat.mul_one]

theorem tW {t : TypeId} {fs gs : List AV} {u u' : Value} {b : Bool} (h : gu P t fs gs = some b) (hx : az P w C (.agg t fs) u) (hy : az P w C (.agg t gs) u') (op : BinOp) (ox oy : Operand) :
  (eqGuard op t ox oy u u').run P w = .ok () w ∧ (Op.equalIn 10000 t u u').run P w = .ok b w ∧ ∃ cs ds,u = .agg cs ∧ u' = .agg ds:=by
 obtain ⟨cs,rfl,h1⟩:=hx.nK
 obtain ⟨ds,rfl,h2⟩:=hy.nK
 unfold gu at h
 split at h
 ·rename_i fl hu
  split at h
  ·rename_i hok
   simp only [Bool.and_eq_true,Bool.not_eq_true'] at hok
   obtain ⟨hnm,hst,hg⟩:=hok
   cases hf : bp P t with
   | none=>rw [hf] at h; cases h
   | some ts =>
    rw [hf,Option.bind_some] at h
    refine ⟨run_eqGuard_agg w op t ox oy _ _ hg,?_,_,_,rfl,rfl⟩
    have hfo : P.fieldsOf t = fl:=by simp [Program.fieldsOf,hu]
    rw [run_equalIn_struct w 9999 t _ _ (by rw [hfo]; exact hu) hst,hfo]
    rcases fH hf with ⟨fl',hu',e1,e2,e3⟩ | ⟨m,e,hu',_⟩
    case inr=>rw [hu] at hu'; cases hu'
    rw [hu] at hu'
    cases hu'
    have hts : ts = fl.toList.map (·.type):=by rw [e1]
    have key : ∀ {zs : List AV} {es : List Value},Rel P w C (.agg t zs) es → ∀ (i : Nat) (f : Field) (x : AV),fl.toList[i]? = some f → zs[i]? = some x → x.aS = true → ∃ v,Rel P w C x [v] ∧ es[f.offset]? = some v:=fun {zs es} hz i f x hfi hxi ho=>by
     have hty : ts[i]? = some f.type:=by rw [hts,List.getElem?_map,hfi]; rfl
     obtain ⟨c,r1,r2,r3,r4⟩:=hz.part hf hxi hty
     obtain ⟨v,rfl⟩:=r1.one_cell ho
     have:=r4 0 v rfl
     obtain ⟨hoff,_⟩:=e2 i f (by simpa using hfi)
     refine ⟨v,r1,?_⟩
     rw [hoff]
     simpa using this
    rw [hts] at h
    exact xM 9998 fl.toList fs gs b hnm (key h1) (key h2) h
  ·cases h
 ·rename_i n e hu
  split at h
  ·rename_i hok
   simp only [Bool.and_eq_true,Bool.not_eq_true',beq_iff_eq] at hok
   obtain ⟨hsz,hg⟩:=hok
   cases hf : bp P t with
   | none=>rw [hf] at h; cases h
   | some ts =>
    rw [hf,Option.bind_some] at h
    refine ⟨run_eqGuard_agg w op t ox oy _ _ hg,?_,_,_,rfl,rfl⟩
    obtain ⟨fi,hfi⟩ : ∃ fi,P.info? e = some fi:=by
     unfold ae at hsz
     cases hi : P.info? e with
     | none=>rw [hi] at hsz; cases hsz
     | some fi=>exact ⟨fi,rfl⟩
    have hce : P.cellsOf e = 1:=by
     unfold ae at hsz
     unfold Program.cellsOf
     rw [hfi] at hsz ⊢
     exact hsz
    rw [run_equalIn_array w 9999 _ _ hu hfi,hce,List.range_eq_range']
    rcases fH hf with ⟨fl',hu',_⟩ | ⟨m,e',hu',hts,_⟩
    ·rw [hu] at hu'; cases hu'
    rw [hu] at hu'
    cases hu'
    have key : ∀ {zs : List AV} {es : List Value},Rel P w C (.agg t zs) es → ∀ (i : Nat) (x : AV),zs[i]? = some x → i < n → x.aS = true → ∃ v,Rel P w C x [v] ∧ es[0 + i]? = some v:=fun {zs es} hz i x hxi hin ho=>by
     have hty : ts[i]? = some e:=by rw [hts,List.getElem?_replicate,if_pos hin]
     obtain ⟨c,r1,r2,r3,r4⟩:=hz.part hf hxi hty
     obtain ⟨v,rfl⟩:=r1.one_cell ho
     have:=r4 0 v rfl
     rw [hts,Bs hsz n i (by omega)] at this
     exact ⟨v,r1,by simpa using this⟩
    rw [hts] at h
    exact xn 9998 n 0 fs gs b (key h1) (key h2) h
  ·cases h
 ·cases h

theorem Fq {op : BinOp} {t : TypeId} {x y v : AV} {u u' : Value} (h : ck P op t x y = some v) (hx : az P w C x u) (hy : az P w C y u') (ox oy : Operand) :
  ∃ z,(do eqGuard op t ox oy u u'; binOp op t u u').run P w = .ok z w ∧ az P w C v z:=by
 unfold ck at h
 split at h
 ·split at h
  ·rename_i k p k' q hs
   rw [hx.bX,hy.bX,Sem.run_bind,show eqGuard op t ox oy (.int k p) (.int k' q) = pure () from by cases op <;> simp [fU] at hs <;> simp [eqGuard]; ]
   exact BM h w
  split at h
  ·rename_i k p k' q _ hk
   subst hk
   rw [hx.bX,hy.bX,eqGuard_at_int]
   exact zr h w
  ·cases h
 ·rw [hx.eW.1,hy.eW.1,eqGuard_at_string]
  exact yy h w
 ·split at h
  ·rename_i t1 fs t2 gs ht
   obtain ⟨rfl,rfl⟩:=ht
   split at h
   ·cases hb : gu P t2 fs gs with
    | none=>rw [hb] at h; cases h
    | some b =>
     rw [hb] at h
     cases h
     obtain ⟨g1,g2,cs,ds,rfl,rfl⟩:=tW hb hx hy .eql ox oy
     refine ⟨.bool b,?_,.one rfl (.bool _)⟩
     rw [Sem.run_bind,g1,Result.andThen_ok,run_eql_struct,g2]
     rfl
   ·cases hb : gu P t2 fs gs with
    | none=>rw [hb] at h; cases h
    | some b =>
     rw [hb] at h
     cases h
     obtain ⟨g1,g2,cs,ds,rfl,rfl⟩:=tW hb hx hy .neq ox oy
     refine ⟨.bool (!b),?_,.one rfl (.bool _)⟩
     rw [Sem.run_bind,g1,Result.andThen_ok,run_neq_struct,g2]
     rfl
   ·cases h
  ·cases h
 ·rename_i h1 h2
  have key : ∀ b,jy P t x y = some b → (do eqGuard op t ox oy u u'; (pure () : Sem Unit)).run P w = .ok () w ∧ (Op.equal t u u').run P w = .ok b w ∧ Value.lH u = true:=fun b hb=>by
   obtain ⟨e1,e2⟩:=C4 hb hx hy
   refine ⟨?_,e1,e2⟩
   cases u <;> simp [Value.lH] at e2
   ·rw [eqGuard_at_bool]; rfl
   ·rw [eqGuard_at_pointer]; rfl
   ·rw [Sem.run_bind,jB]; rfl
  split at h
  ·cases hb : jy P t x y with
   | none=>simp [hb] at h
   | some b =>
    simp [hb] at h
    subst h
    obtain ⟨g1,g2,g3⟩:=key b hb
    refine ⟨.bool b,?_,.one rfl (.bool _)⟩
    cases u <;> simp [Value.lH] at g3
    ·simp [eqGuard_at_bool,binOp,g2]
    ·cases u' <;> simp [eqGuard_at_pointer,binOp,g2]
    ·cases u' <;> simp [jB,binOp,g2]
  ·cases hb : jy P t x y with
   | none=>simp [hb] at h
   | some b =>
    simp [hb] at h
    subst h
    obtain ⟨g1,g2,g3⟩:=key b hb
    refine ⟨.bool (!b),?_,.one rfl (.bool _)⟩
    cases u <;> simp [Value.lH] at g3
    ·simp [eqGuard_at_bool,binOp,g2]
    ·cases u' <;> simp [eqGuard_at_pointer,binOp,g2]
    ·cases u' <;> simp [jB,binOp,g2]
  ·cases h

theorem Dh {op : BinOp} {t t' : TypeId} {x y : Operand} {u v z : AV} (ho : o.op = .binOp op t x y t') (hx : Is P W0 o A x u) (hy : Is P W0 o A y v) (hb : ck P op t u v = some z) : bN P W0 o A z :=
 .of_same fun w C a hr=>by
  have h1:=hx w C a hr
  have h2:=hy w C a hr
  obtain ⟨r,h3,h4⟩:=Fq hb h1 h2 x y
  refine ⟨r,?_,h4⟩
  simp only [execOp,ho,Sem.run_bind,h3,Result.andThen_ok,Sem.run_pure]

end
end Go.Av
end
section
namespace Go.Av
open Go

def r6 (c x y : Bool) : Bool:=if c then x else y
theorem yk (c x : Bool) : r6 c x false = (c && x):=by cases c <;> rfl
theorem zz (c y : Bool) : r6 c true y = (c || y):=by cases c <;> rfl

def mK (c : Bool) (x y : AV) : AV :=
 match x,y with
 | .bool p,.bool q=>.bool (r6 c p q)
 | x,y=>if c then x else y

section
variable {P : Program} {W0 w w' : World} {C C' : Ctx} {σ σ' : ab} {n : Nat} {A : aa} {a : Act} {o : Oper}

theorem yQ {c : Bool} {x y : AV} {u v : Value} (hx : c = true → az P w C x u) (hy : c = false → az P w C y v) : az P w C (mK c x y) (if c then u else v):=by
 unfold mK
 split
 ·rename_i p q
  cases c
  ·have:=hy rfl; simpa [r6] using this
  ·have:=hx rfl; simpa [r6] using this
 ·cases c
  ·simpa using hy rfl
  ·simpa using hx rfl

theorem HB {c x y : Operand} {b : Bool} {u v : AV} (ho : o.op = .pick c x y) (hc : Is P W0 o A c (.bool b))
  (hx : b = true → Is P W0 o A x u) (hy : b = false → Is P W0 o A y v) : bN P W0 o A (mK b u v) :=
 .of_same fun w C a hr=>by
  have h:=(hc w C a hr).fx
  refine ⟨if b then a.eval x else a.eval y,?_,yQ (fun h=>hx h w C a hr) (fun h=>hy h w C a hr)⟩
  simp [execOp,ho,h,asBool]

theorem Lt {t : TypeId} {x : Operand} {b : Bool} (ho : o.op = .unOp .not t x) (hx : Is P W0 o A x (.bool b)) : bN P W0 o A (.bool (!b)) :=
 .of_same fun w C a hr=>by
  have h:=hx w C a hr
  exact ⟨.bool (!b),by simp [execOp,ho,h.fx,Op.unary],.one rfl (.bool _)⟩

theorem Kt {t : TypeId} {x : Operand} {k : IntKind} {m : Int} (ho : o.op = .unOp .neg t x) (hx : Is P W0 o A x (.int k m)) : bN P W0 o A (.int k (k.wrap (-m))) :=
 .of_same fun w C a hr=>by
  have h:=hx w C a hr
  exact ⟨.int k (k.wrap (-m)),by simp [execOp,ho,h.bX,Op.unary,Op.intArith],.one rfl (.int _ _)⟩

theorem yN {x : Operand} {as : List AV} {k : Nat} {v : AV} (ho : o.op = .extract x k) (hx : Is P W0 o A x (.tup as)) (hv : as[k]? = some v) : bN P W0 o A v :=
 .of_same fun w C a hr=>by
  have h:=hx w C a hr
  obtain ⟨vs,e1,e2,e3⟩:=h.zX
  have hk : k < vs.length:=by rw [← e2]; exact (List.getElem?_eq_some_iff.1 hv).1
  exact ⟨vs[k],by simp [execOp,ho,e1,Instr.extract,hk],e3 k v _ hv (List.getElem?_eq_getElem hk)⟩

theorem xX {x : Operand} {v : AV} (ho : o.op = .nilCheck x) (hx : Is P W0 o A x v) (hp : v.fI = true) : bN P W0 o A v :=
 .of_same fun w C a hr=>by
  have h:=hx w C a hr
  obtain ⟨ad,had⟩:=h.fI hp
  exact ⟨.pointer (some ad),by simp [execOp,ho,had],by rw [← had]; exact h⟩

theorem zb {s d : TypeId} {x : Operand} {k k' : IntKind} {m : Int} (ho : o.op = .convert s d x) (hx : Is P W0 o A x (.int k m)) (hs : (P.underlying s).isSome = true) (hd : P.underlying d = some (.int k')) :
  bN P W0 o A (.int k' (k'.wrap m)) :=
 .of_same fun w C a hr=>by
  have h:=hx w C a hr
  have hik : P.intKind d = k':=by simp [Program.intKind,hd]
  refine ⟨.int k' (k'.wrap m),?_,.one rfl (.int _ _)⟩
  have:=run_convert_int (P:=P) w s d k m hs (by rw [hik]; exact hd)
  rw [hik] at this
  simp [execOp,ho,h.bX,this]

def IsL (P : Program) (W0 : World) (o : Oper) (A : aa) (xs : List Operand) (us : List AV) : Prop:=xs.length = us.length ∧ ∀ (i : Nat) (x : Operand) (u : AV),xs[i]? = some x → us[i]? = some u → Is P W0 o A x u

theorem yg {f : FuncId} {caps : Array Operand} {vs : List AV} (ho : o.op = .makeFunc (.func f) #[] caps) (hv : IsL P W0 o A caps.toList vs) (h1 : vs.all AV.aS = true) : bN P W0 o A (.fn f vs) :=
 .of_same fun w C a hr=>by
  refine ⟨.func (.func f) #[] (caps.toList.map a.eval).toArray,?_,.one rfl (.fn (by simp [← hv.1]) (fun i c hc=>?_) (fun i c v hc hi=>?_))⟩
  ·have e : Array.map a.eval caps = (caps.toList.map a.eval).toArray:=by rw [← Array.toList_map]
   simp [execOp,ho,Instr.makeFunc,e]
  ·exact List.all_eq_true.1 h1 c (List.mem_of_getElem? hc)
  ·have hone:=List.all_eq_true.1 h1 c (List.mem_of_getElem? hc)
   simp only [List.getElem?_map,Option.map_eq_some_iff] at hi
   obtain ⟨y,hy,rfl⟩:=hi
   exact (hv.2 i y c hy hc w C a hr).aA hone

def AV.lenOf : AV → Option Nat
 | .sl _ xs | .lit _ xs | .own _ xs _=>some xs.length
 | .au=>some 0
 | .row _ _ _ n=>some n
 | _=>none

theorem az.s6 {x : AV} {v : Value} {m : Nat} (h : az P w C x v) (hl : x.lenOf = some m) : ∃ ad cap,v = .slice ad m cap ∧ m ≤ cap ∧ cap ≤ maxLen:=by
 cases x <;> simp only [AV.lenOf,Option.some.injEq,reduceCtorEq] at hl <;> subst hl
 ·rw [h.cR]; exact ⟨_,_,rfl,Nat.le_refl _,Nat.zero_le _⟩
 ·have:=h.aA rfl; cases this with | sl cf h1 h2=>exact ⟨_,_,rfl,h1,h2⟩
 ·have:=h.aA rfl; cases this with | lit cf h1=>exact ⟨_,_,rfl,Nat.le_refl _,h1⟩
 ·have:=h.aA rfl; cases this with | own cf h1 h2=>exact ⟨_,_,rfl,h1,h2⟩
 ·have:=h.aA rfl; cases this with | row h1 h2=>exact ⟨_,_,rfl,h1,h2⟩

theorem L7 {x : AV} {v : Value} {m : Nat} (h : az P w C x v) (hl : x.lenOf = some m) : m ≤ maxLen:=by
 obtain ⟨_,_,_,h1,h2⟩:=h.s6 hl; omega

theorem LQ {x : Operand} {t : TypeId} {v : AV} {m : Nat} (ho : o.op = .call { callee:=.builtin .len,args:=#[x],argTypes:=#[t] }) (hx : Is P W0 o A x v) (hl : v.lenOf = some m) (ht : (elT P t).isSome = true) : bN P W0 o A (.int .i64 m) :=
 .of_same fun w C a hr=>by
  have h:=hx w C a hr
  obtain ⟨ad,cap,hv,_,_⟩:=h.s6 hl
  obtain ⟨e,he⟩:=Option.isSome_iff_exists.1 ht
  exact ⟨.int .i64 m,by simp [execOp,ho,resolve,invoke,builtin,Builtin.len_,run_underlying (bF he),hv,goInt],.one rfl (.int _ _)⟩

theorem wy {x : Operand} {t : TypeId} (ho : o.op = .call { callee:=.builtin .cap,args:=#[x],argTypes:=#[t] }) (hx : Is P W0 o A x .au) (ht : (elT P t).isSome = true) : bN P W0 o A (.int .i64 0) :=
 .of_same fun w C a hr=>by
  have h:=hx w C a hr
  obtain ⟨e,he⟩:=Option.isSome_iff_exists.1 ht
  exact ⟨.int .i64 0,by simp [execOp,ho,resolve,invoke,builtin,Builtin.cap_,run_underlying (bF he),h.cR,goInt],.one rfl (.int _ _)⟩

theorem yw {x : Operand} {t : TypeId} {l : List UInt8} (ho : o.op = .call { callee:=.builtin .len,args:=#[x],argTypes:=#[t] }) (hx : Is P W0 o A x (.str l)) (ht : P.underlying t = some .string) : bN P W0 o A (.int .i64 l.length) :=
 .of_same fun w C a hr=>by
  have h:=hx w C a hr
  have e : (⟨l.toArray⟩ : ByteArray).size = l.length:=by show l.toArray.size = l.length; simp
  exact ⟨.int .i64 l.length,by simp [execOp,ho,resolve,invoke,builtin,Builtin.len_,run_underlying ht,h.eW.1,goInt,e],.one rfl (.int _ _)⟩

def vY (a b : Int) : Int:=if b > a then b else a
def yd (a b : Int) : Int:=if b < a then b else a

theorem KW {x y : Operand} {ts : Array TypeId} {k : IntKind} {p q : Int} (ho : o.op = .call { callee:=.builtin .max,args:=#[x,y],argTypes:=ts }) (hx : Is P W0 o A x (.int k p)) (hy : Is P W0 o A y (.int k q)) : bN P W0 o A (.int k (vY p q)) :=
 .of_same fun w C a hr=>by
  have h1:=hx w C a hr
  have h2:=hy w C a hr
  exact ⟨.int k (vY p q),by simp [execOp,ho,resolve,invoke,builtin,Builtin.max_,Builtin.max2,h1.bX,h2.bX,vY],.one rfl (.int _ _)⟩

theorem Lf {x y : Operand} {ts : Array TypeId} {k : IntKind} {p q : Int} (ho : o.op = .call { callee:=.builtin .min,args:=#[x,y],argTypes:=ts }) (hx : Is P W0 o A x (.int k p)) (hy : Is P W0 o A y (.int k q)) : bN P W0 o A (.int k (yd p q)) :=
 .of_same fun w C a hr=>by
  have h1:=hx w C a hr
  have h2:=hy w C a hr
  exact ⟨.int k (yd p q),by simp [execOp,ho,resolve,invoke,builtin,Builtin.min_,Builtin.min2,h1.bX,h2.bX,yd],.one rfl (.int _ _)⟩

end
end Go.Av
end
section
namespace Go.Av
open Go

def xY (m : Int) : List UInt8:=(Utf8.encode m).data.toList

section
variable {P : Program} {W0 w w' : World} {C C' : Ctx} {σ σ' : ab} {n : Nat} {A : aa} {a : Act} {o : Oper}

theorem Gd (m : Int) : (xY m).length ≤ 4:=by
 unfold xY Utf8.encode
 simp only
 generalize (if Utf8.valid m then m.toNat else Utf8.runeError) = c
 by_cases h1 : c < 0x80
 ·rw [if_pos h1]; exact Nat.le_of_ble_eq_true rfl
 by_cases h2 : c < 0x800
 ·rw [if_neg h1,if_pos h2]; exact Nat.le_of_ble_eq_true rfl
 by_cases h3 : c < 0x10000
 ·rw [if_neg h1,if_neg h2,if_pos h3]; exact Nat.le_of_ble_eq_true rfl
 ·rw [if_neg h1,if_neg h2,if_neg h3]; exact Nat.le_of_ble_eq_true rfl

theorem p5 {s d : TypeId} {x : Operand} {k : IntKind} {m : Int} (ho : o.op = .convert s d x) (hx : Is P W0 o A x (.int k m)) (hs : (P.underlying s).isSome = true) (hd : P.underlying d = some .string) :
  bN P W0 o A (.str (xY m)) :=
 .of_same fun w C a hr=>by
  have h:=hx w C a hr
  obtain ⟨su,hsu⟩:=Option.isSome_iff_exists.1 hs
  refine ⟨.string (Utf8.encode m),?_,.one rfl (.str (Nat.le_trans (Gd m) (by decide)))⟩
  have : (convert s d (.int k m)).run P w = .ok (.string (Utf8.encode m)) w:=by
   simp only [convert,Sem.run_bind,run_underlying hsu,run_underlying hd,Result.andThen_ok]
   cases su <;> rfl
  simp [execOp,ho,h.bX,this]

theorem qc {s d : TypeId} {x : Operand} {l : List UInt8} (ho : o.op = .convert s d x) (hx : Is P W0 o A x (.str l)) (hs : P.underlying s = some .string) (hd : P.underlying d = some .string) :
  bN P W0 o A (.str l) :=
 .of_same fun w C a hr=>by
  have h:=hx w C a hr
  refine ⟨.string ⟨l.toArray⟩,?_,.one rfl (.str h.eW.2)⟩
  have : (convert s d (.string ⟨l.toArray⟩)).run P w = .ok (.string ⟨l.toArray⟩) w:=by
   simp only [convert,Sem.run_bind,run_underlying hs,run_underlying hd,Result.andThen_ok]
   rfl
  simp [execOp,ho,h.eW.1,this]

end
end Go.Av
end
section
namespace Go.Av
open Go

def cT (c : UInt8) : AV:=.int .u8 c.toNat
def iw : AV → UInt8 | .int _ n=>UInt8.ofNat n.toNat | _=>0
def isByte : AV → Prop | .int k n=>k = .u8 ∧ 0 ≤ n ∧ n < 256 | _=>False
def gk : List AV → Prop | []=>True | x :: r=>isByte x ∧ gk r
theorem Cp {x : AV} (h : isByte x) : x = cT (iw x):=by
 cases x <;> first | exact h.elim | skip
 rename_i k n
 obtain ⟨rfl,h1,h2⟩:=h
 have : ((UInt8.ofNat n.toNat).toNat : Int) = n:=by
  rw [UInt8.toNat_ofNat']
  omega
 simp only [cT,iw,this]
theorem rU : ∀ {xs : List AV},gk xs → xs = (xs.map iw).map cT
 | [],_=>rfl
 | x :: r,h=>by rw [List.map_cons,List.map_cons,← Cp h.1,← rU h.2]
section
variable {P : Program} {W0 w w' : World} {C C' : Ctx} {σ σ' : ab} {n : Nat} {A : aa} {a : Act} {o : Oper}
theorem oP {s d e : TypeId} {x : Operand} {u : AV} {l : List UInt8} (ho : o.op = .convert s d x) (hx : Is P W0 o A x u) (hu : u.ju = some (e,l.map cT)) (hs : P.underlying s = some (.slice e)) (he : P.underlying e = some (.int .u8)) (h1 : ae P e = 1)
  (hd : P.underlying d = some .string) : bN P W0 o A (.str l) :=
 .of_same fun w C a hr=>by
  have h:=hx w C a hr
  obtain ⟨hcase,hone⟩:=AV.kD hu
  obtain ⟨ad,cap,cf,hv,y1,y2,y3,y4,y5⟩:=(h.aA hone).lf hcase
  rw [List.length_map] at hv y1 y5
  have hlen : l.length ≤ maxLen:=Nat.le_trans y1 y2
  refine ⟨.string ⟨l.toArray⟩,?_,.one rfl (.str hlen)⟩
  by_cases hl0 : l = []
  ·subst hl0
   have hc1:=run_convert_bytes_string (P:=P) w s d e ad 0 cap hs he hd
   have : (Conv.bytesToString (.slice ad 0 cap)).run P w = .ok (.string ⟨#[]⟩) w:=by
    cases ad with
    | none=>rfl
    | some ad =>
     have:=run_bytesToString (P:=P) w ad 0 cap [] (by
      have:=run_loadCells_list (P:=P) (w:=w) ad [] (by simp)
      simpa using this)
     exact (by simpa using this : (Conv.bytesToString (.slice (some ad) 0 cap)).run P w = .ok (.string ByteArray.empty) w)
   rw [List.length_nil] at hv
   simp [execOp,ho,hv,hc1,this]
  ·obtain ⟨b,off,rfl,hc⟩:=y5 (by cases l with | nil=>exact absurd rfl hl0 | cons=>simp)
   have:=run_convert_bytes_arg (P:=P) w s e hs he b off l.length cap (l.map fun c=>((c.toNat : Nat) : Int)) (by simp) (fun i hi=>by
    obtain ⟨c,hcc⟩ : ∃ c,l[i]? = some c:=⟨_,List.getElem?_eq_getElem hi⟩
    have hx : (l.map cT)[i]? = some (cT c):=by rw [List.getElem?_map,hcc]; rfl
    have hcf : cf i = [.int .u8 c.toNat]:=by
     have:=y3 i _ hx
     generalize cf i = z at this
     cases this
     rfl
    have hg:=(hc i hi 0 (.int .u8 c.toNat) (by rw [hcf]; rfl)).1
    rw [h1,Nat.mul_one,Nat.add_zero] at hg
    rw [hg]
    have : (l.map fun c=>((c.toNat : Nat) : Int)).getD i 0 = c.toNat:=by rw [List.getD_eq_getElem?_getD,List.getElem?_map,hcc]; rfl
    rw [this]) d hd
   have hso : strOfNums (l.map fun c=>((c.toNat : Nat) : Int)) = ⟨l.toArray⟩:=by
    unfold strOfNums
    rw [List.map_map]
    congr 2
    refine (List.map_congr_left fun c _=>?_).trans (List.map_id l)
    simp
   rw [hso] at this
   simp [execOp,ho,hv,this]
end
end Go.Av
end
section
namespace Go.Av
open Go

def gZ (P : Program) (W0 : World) (o : Oper) (A : aa) (x : Option Operand) (d l : Nat) : Prop :=
 match x with
 | none=>l = d
 | some y=>∃ k i,Is P W0 o A y (.int k i) ∧ 0 ≤ i ∧ i.toNat = l

def fR {α : Type} (xs : List α) (lo hi : Nat) : List α:=(xs.drop lo).take (hi - lo)
theorem pF {α : Type} (xs : List α) {lo hi : Nat} (h : lo ≤ hi) (h' : hi ≤ xs.length) : (fR xs lo hi).length = hi - lo:=by simp [fR]; omega
theorem xQ {α : Type} {xs : List α} {lo hi i : Nat} {x : α} (hx : (fR xs lo hi)[i]? = some x) : xs[lo + i]? = some x ∧ i < hi - lo:=by
 unfold fR at hx
 rw [List.getElem?_take] at hx
 split at hx
 ·rw [List.getElem?_drop] at hx; exact ⟨hx,by assumption⟩
 ·cases hx

section
variable {P : Program} {W0 w w' : World} {C C' : Ctx} {σ σ' : ab} {n : Nat} {A : aa} {a : Act} {o : Oper}

theorem run_sliceBound {w : World} (k : IntKind) {i : Int} {y l : Nat} (code : BoundsCode) (h0 : 0 ≤ i) (hl : i.toNat = l) (hy : l ≤ y) : (Instr.sliceBound (.int k i) y code).run P w = .ok l w:=by
 have h1 : 0 ≤ i ∧ i ≤ (y : Int):=⟨h0,by omega⟩
 simp [Instr.sliceBound,asIntOf,h1,hl]

theorem dS (hr : eh P W0 o w C A a) (isS : Bool) {lo hi : Option Operand} {len cap l h : Nat} (hlo : gZ P W0 o A lo 0 l) (hhi : gZ P W0 o A hi len h) (hlh : l ≤ h) (hhc : h ≤ cap) :
  (Instr.sliceBounds isS len cap (lo.map a.eval) (hi.map a.eval) none).run P w = .ok (l,h,cap) w:=by
 have e : ∀ y k i,Is P W0 o A y (.int k i) → a.eval y = .int k i:=fun y k i hy=>(hy w C a hr).bX
 cases lo with
 | none =>
  cases hi with
  | none=>simp only [gZ] at hlo hhi; subst hlo hhi; simp [Instr.sliceBounds]
  | some y =>
   obtain ⟨k,i,h1,h2,h3⟩:=hhi
   simp only [gZ] at hlo
   subst hlo
   simp [Instr.sliceBounds,e y k i h1,run_sliceBound k _ h2 h3 hhc]
 | some x =>
  obtain ⟨kx,ix,x1,x2,x3⟩:=hlo
  cases hi with
  | none =>
   simp only [gZ] at hhi
   subst hhi
   simp [Instr.sliceBounds,e x kx ix x1,run_sliceBound kx _ x2 x3 hlh]
  | some y =>
   obtain ⟨k,i,h1,h2,h3⟩:=hhi
   simp [Instr.sliceBounds,e x kx ix x1,e y k i h1,run_sliceBound kx _ x2 x3 hlh,run_sliceBound k _ h2 h3 hhc]

theorem uV {t : TypeId} {x : Operand} {lo hi : Option Operand} {l : List UInt8} {p q : Nat} (ho : o.op = .slice t x lo hi none) (hx : Is P W0 o A x (.str l)) (ht : P.underlying t = some .string)
  (hlo : gZ P W0 o A lo 0 p) (hhi : gZ P W0 o A hi l.length q) (h1 : p ≤ q) (h2 : q ≤ l.length) : bN P W0 o A (.str (fR l p q)) :=
 .of_same fun w C a hr=>by
  have h:=hx w C a hr
  obtain ⟨hv,hle⟩:=h.eW
  have e : (⟨l.toArray⟩ : ByteArray).size = l.length:=by show l.toArray.size = l.length; simp
  have hb:=dS hr false hlo hhi h1 h2
  refine ⟨.string ⟨(fR l p q).toArray⟩,?_,.one rfl (.str ?_)⟩
  ·have he:=Lib.extract_eq (⟨l.toArray⟩ : ByteArray) p q
   simp only [] at he
   simp [execOp,ho,Instr.sliceAt,Instr.slice,run_underlying ht,hv,e,hb,he,fR]
  ·rw [pF l h1 h2]; omega

theorem sQ {t e : TypeId} {x : Operand} {lo hi : Option Operand} {xs : List AV} {p q : Nat} {v : AV} (ho : o.op = .slice t x lo hi none) (hx : Is P W0 o A x v) (hl : v.ju = some (e,xs)) (ht : elT P t = some e) (he : 0 < ae P e)
  (hlo : gZ P W0 o A lo 0 p) (hhi : gZ P W0 o A hi xs.length q) (h1 : p ≤ q) (h2 : q ≤ xs.length) : bN P W0 o A (.sl e (fR xs p q)) :=
 .of_same fun w C a hr=>by
  have h:=hx w C a hr
  obtain ⟨hcase,hone⟩:=AV.kD hl
  obtain ⟨ad,cap,cf,hv,c1,c2,c3,c4,c5⟩:=(h.aA hone).lf hcase
  obtain ⟨inf,hinf,hsz⟩:=bh he
  have hb:=dS hr true hlo hhi h1 (Nat.le_trans h2 c1)
  have hlen:=pF xs h1 h2
  refine ⟨.slice (if cap = p then ad else ad.map (·.add (p * ae P e))) (q - p) (cap - p),?_,?_⟩
  ·simp [execOp,ho,Instr.sliceAt,Instr.slice,run_underlying (bF ht),hv,hb,sizeOf,typeInfo,hinf,hsz]
  ·rw [← hlen]
   refine .one rfl (.sl (fun i=>cf (p + i)) (by omega) (by omega) (fun i x hi=>c3 _ _ (xQ hi).1) (fun i x hi=>c4 _ _ (xQ hi).1) ?_)
   intro hpos
   rw [hlen] at hpos
   obtain ⟨b,off,rfl,hc⟩:=c5 (by omega)
   rw [if_neg (by omega)]
   refine ⟨b,off + p * ae P e,by simp [Addr.add_lit],fun i hi=>?_⟩
   rw [hlen] at hi
   have:=hc (p + i) (by omega)
   rwa [Nat.add_mul,← Nat.add_assoc] at this

theorem uq {t e : TypeId} {x : Operand} {lo hi : Option Operand} {id off m p q : Nat} (ho : o.op = .slice t x lo hi none) (hx : Is P W0 o A x (.row e id off m)) (ht : elT P t = some e) (he : 0 < ae P e)
  (hlo : gZ P W0 o A lo 0 p) (hhi : gZ P W0 o A hi m q) (h1 : p ≤ q) (h2 : q ≤ m) : bN P W0 o A (.row e id (off + p) (q - p)) :=
 .of_same fun w C a hr=>by
  have h:=(hx w C a hr).aA rfl
  obtain ⟨inf,hinf,hsz⟩:=bh he
  have ⟨ad,cap,hv,g1,g2,g3,g4⟩ : ∃ ad cap,a.eval x = .slice ad m cap ∧ m ≤ cap ∧ cap ≤ maxLen ∧ id < C.nx ∧ (∀ ow,C.m id = some ow → ∃ b base room,ow = .obj b e base room ∧ (0 < cap → ad = some ⟨b,base + off * ae P e,none⟩) ∧ base + (off + cap) * ae P e = room):=by
   generalize a.eval x = v at h
   cases h with
   | row h1 h2 h3 h4=>exact ⟨_,_,rfl,h1,h2,h3,h4⟩
  have hb:=dS hr true hlo hhi h1 (Nat.le_trans h2 g1)
  refine ⟨.slice (if cap = p then ad else ad.map (·.add (p * ae P e))) (q - p) (cap - p),?_,.one rfl (.row (by omega) (by omega) g3 (fun ow how=>?_))⟩
  ·simp [execOp,ho,Instr.sliceAt,Instr.slice,run_underlying (bF ht),hv,hb,sizeOf,typeInfo,hinf,hsz]
  ·obtain ⟨b,base,room,e1,e2,e3⟩:=g4 ow how
   refine ⟨b,base,room,e1,fun hc=>?_,by rw [show off + p + (cap - p) = off + cap by omega]; exact e3⟩
   rw [if_neg (by omega),e2 (by omega)]
   simp [Addr.add_lit,Nat.add_mul,Nat.add_assoc]

theorem sP {t e : TypeId} {x : Operand} {lo hi : Option Operand} (ho : o.op = .slice t x lo hi none) (hx : Is P W0 o A x .au) (ht : elT P t = some e) (he : 0 < ae P e)
  (hlo : gZ P W0 o A lo 0 0) (hhi : gZ P W0 o A hi 0 0) : bN P W0 o A .au :=
 .of_same fun w C a hr=>by
  have hv:=(hx w C a hr).cR
  obtain ⟨inf,hinf,hsz⟩:=bh he
  have hb:=dS hr (len:=0) (cap:=0) true hlo hhi (Nat.le_refl 0) (Nat.le_refl 0)
  exact ⟨.slice none 0 0,by simp [execOp,ho,Instr.sliceAt,Instr.slice,run_underlying (bF ht),hv,hb,sizeOf,typeInfo,hinf],.one rfl .au⟩

end
end Go.Av
end
section
namespace Go.Av
open Go

def ba (arr : Array Value) (off : Nat) (l : List Value) : Array Value:=(arr.toList.take off ++ l ++ arr.toList.drop (off + l.length)).toArray

theorem cO {arr : Array Value} {off : Nat} {l : List Value} (h : off + l.length ≤ arr.size) : (ba arr off l).size = arr.size:=by
 simp only [ba,List.size_toArray,List.length_append,List.length_take,List.length_drop,Array.length_toList]; omega

theorem bg {arr : Array Value} {off : Nat} {l : List Value} (h : off + l.length ≤ arr.size) (p : Nat) : (ba arr off l)[p]? = if off ≤ p ∧ p < off + l.length then l[p - off]? else arr[p]?:=by
 simp only [ba,List.getElem?_toArray,List.append_assoc]
 have ht : (arr.toList.take off).length = off:=by simp; omega
 by_cases h1 : p < off
 ·rw [List.getElem?_append_left (by omega),List.getElem?_take,if_pos h1,if_neg (by omega)]; simp
 ·rw [List.getElem?_append_right (by omega),ht]
  by_cases h2 : p < off + l.length
  ·rw [List.getElem?_append_left (by omega),if_pos ⟨by omega,h2⟩]
  ·rw [List.getElem?_append_right (by omega),if_neg (by omega),List.getElem?_drop]
   simp only [Array.getElem?_toList]
   congr 1; omega

theorem zB {arr : Array Value} {off : Nat} {l : List Value} {q : Value → Prop} (h1 : ∀ c ∈ arr.toList,q c) (h2 : ∀ c ∈ l,q c) : ∀ c ∈ (ba arr off l).toList,q c:=by
 intro c hc
 simp only [ba,List.mem_append] at hc
 rcases hc with (hc | hc) | hc
 ·exact h1 c (List.mem_of_mem_take hc)
 ·exact h2 c hc
 ·exact h1 c (List.mem_of_mem_drop hc)

theorem pN : ∀ (l : List Value) (k off : Nat) (arr : Array Value),off + k + l.length ≤ arr.size → (l.zipIdx k).foldl (fun cs (x : Value × Nat)=>cs.setIfInBounds (off + x.2) x.1) arr = ba arr (off + k) l
 | [],k,off,arr,_=>by simp [ba]
 | v :: r,k,off,arr,h=>by
  simp only [List.zipIdx_cons,List.foldl_cons]
  simp only [List.length_cons] at h
  rw [pN r (k + 1) off _ (by simp; omega)]
  apply Array.ext_getElem?
  intro p
  rw [bg (by simp; omega),bg (by simp; omega)]
  simp only [List.length_cons]
  by_cases h1 : off + k = p
  ·subst h1
   rw [if_neg (by omega),if_pos (by omega)]
   simp [show off + k < arr.size by omega]
  ·by_cases h2 : off + (k + 1) ≤ p ∧ p < off + (k + 1) + r.length
   ·rw [if_pos h2,if_pos (by omega),show p - (off + k) = (p - (off + (k + 1))) + 1 by omega,List.getElem?_cons_succ]
   ·rw [if_neg h2,if_neg (by omega),Array.getElem?_setIfInBounds_ne h1]

theorem jq (v : Array Value) (off : Nat) (arr : Array Value) (h : off + v.size ≤ arr.size) : v.zipIdx.foldl (fun cs (x : Value × Nat)=>cs.setIfInBounds (off + x.2) x.1) arr = ba arr off v.toList:=by
 have:=pN v.toList 0 off arr (by simpa using h)
 simp only [Nat.add_zero] at this
 rw [← this,← Array.foldl_toList]
 congr 1
 simp

section
variable {P : Program} {W0 w w' : World} {C C' : Ctx} {σ σ' : ab} {n : Nat} {A : aa} {a : Act} {o : Oper}

theorem iH {ts : List TypeId} {k : Nat} {ty : TypeId} (h : ts[k]? = some ty) : aT P ts (k + 1) = aT P ts k + ae P ty:=by
 obtain ⟨hk,he⟩:=List.getElem?_eq_some_iff.1 h
 simp only [aT,List.take_succ_eq_append_getElem hk,List.map_append,List.sum_append,he]
 simp

theorem mi {ts : List TypeId} {i k : Nat} (h : i ≤ k) : aT P ts i ≤ aT P ts k:=by
 induction h with
 | refl=>exact Nat.le_refl _
 | step _ ih =>
  rename_i m hm
  refine Nat.le_trans ih ?_
  cases hk : ts[m]? with
  | some ty=>rw [iH hk]; omega
  | none =>
   have : ts.length ≤ m:=List.getElem?_eq_none_iff.1 hk
   unfold aT
   rw [List.take_of_length_le this,List.take_of_length_le (by omega)]
   exact Nat.le_refl _

structure n9 (P : Program) (w : World) (C : Ctx) (ts : List TypeId) (fs : List AV) (cs : List Value) : Prop where
 len : fs.length = ts.length
 size : cs.length = aT P ts ts.length
 one : ∀ c ∈ cs,c.oneCell' = true
 part : ∃ cf : Nat → List Value,∀ i x ty,fs[i]? = some x → ts[i]? = some ty → Rel P w C x (cf i) ∧ (cf i).length = ae P ty ∧ fits P ty x ∧ ∀ (j : Nat) (u : Value),(cf i)[j]? = some u → cs[aT P ts i + j]? = some u

theorem n9.rel {t : TypeId} {ts : List TypeId} {fs : List AV} {cs : List Value} (h : n9 P w C ts fs cs) (ht : bp P t = some ts) : Rel P w C (.agg t fs) cs:=by
 obtain ⟨cf,hcf⟩:=h.part
 have hget : ∀ i x,fs[i]? = some x → ∃ ty,ts[i]? = some ty:=fun i x hx=>by
  have : i < ts.length:=by rw [← h.len]; exact (List.getElem?_eq_some_iff.1 hx).1
  exact ⟨_,List.getElem?_eq_getElem this⟩
 refine .agg cf ht h.len (by rw [h.size,gv ht]) h.one (fun i x hx=>?_) (fun i x ty hx hty=>?_)
 ·obtain ⟨ty,hty⟩:=hget i x hx
  exact (hcf i x ty hx hty).1
 ·exact (hcf i x ty hx hty).2

theorem Rel.parts {t : TypeId} {ts : List TypeId} {fs : List AV} {cs : List Value} (h : Rel P w C (.agg t fs) cs) (ht : bp P t = some ts) : n9 P w C ts fs cs:=by
 cases h with
 | agg cf h1 h2 h3 h4 h5 h6 =>
  rw [ht] at h1
  cases h1
  exact ⟨h2,by rw [h3,gv ht],h4,cf,fun i x ty hx hty=>⟨h5 i x hx,h6 i x ty hx hty⟩⟩

theorem n9.set {ts : List TypeId} {fs : List AV} {cs : List Value} (h : n9 P w C ts fs cs) {k : Nat} {ty : TypeId} {x : AV} {c : List Value} (hty : ts[k]? = some ty) (hx : Rel P w C x c) (hf : fits P ty x) :
  aT P ts k + c.length ≤ cs.length ∧ n9 P w C ts (fs.set k x) (ba cs.toArray (aT P ts k) c).toList:=by
 obtain ⟨cf,hcf⟩:=h.part
 have hlen:=hx.bk hf
 have hk : k < ts.length:=(List.getElem?_eq_some_iff.1 hty).1
 have hfit : aT P ts k + c.length ≤ cs.length:=by
  rw [hlen,← iH hty,h.size]; exact mi (by omega)
 refine ⟨hfit,⟨by simpa using h.len,?_,?_,fun i=>if i = k then c else cf i,fun i y ty' hy hty'=>?_⟩⟩
 ·have:=cO (arr:=cs.toArray) (off:=aT P ts k) (l:=c) (by simpa using hfit)
  simpa [h.size] using this
 ·exact zB (q:=fun c=>c.oneCell' = true) (by simpa using h.one) hx.km
 ·have hget : ∀ p,(ba cs.toArray (aT P ts k) c).toList[p]? = if aT P ts k ≤ p ∧ p < aT P ts k + c.length then c[p - aT P ts k]? else cs[p]?:=fun p=>by
   rw [Array.getElem?_toList,bg (by simpa using hfit)]; simp
  by_cases hik : i = k
  ·subst hik
   rw [hty] at hty'
   cases hty'
   have : i < fs.length:=by rw [h.len]; exact hk
   simp only [List.getElem?_set_self this,Option.some.injEq] at hy
   subst hy
   simp only [if_true]
   refine ⟨hx,hlen,hf,fun j u hj=>?_⟩
   have hjl : j < c.length:=(List.getElem?_eq_some_iff.1 hj).1
   rw [hget,if_pos ⟨by omega,by omega⟩,Nat.add_sub_cancel_left]
   exact hj
  ·rw [List.getElem?_set_ne (Ne.symm hik)] at hy
   simp only [hik,if_false]
   obtain ⟨r1,r2,r3,r4⟩:=hcf i y ty' hy hty'
   refine ⟨r1,r2,r3,fun j u hj=>?_⟩
   have hjl : j < ae P ty':=by rw [← r2]; exact (List.getElem?_eq_some_iff.1 hj).1
   rw [hget,if_neg ?_]
   ·exact r4 j u hj
   ·rintro ⟨g1,g2⟩
    rcases Nat.lt_or_gt_of_ne hik with hlt | hgt
    ·have:=mi (P:=P) (ts:=ts) (show i + 1 ≤ k by omega)
     rw [iH hty'] at this
     omega
    ·have:=mi (P:=P) (ts:=ts) (show k + 1 ≤ i by omega)
     rw [iH hty,← hlen] at this
     omega

end

def lA (P : Program) (z : TypeId → List Value → Option AV) : List TypeId → List Value → Option (List AV)
 | [],_=>some []
 | t :: ts,cs=>match z t (cs.take (ae P t)),lA P z ts (cs.drop (ae P t)) with
  | some a,some as=>some (a :: as)
  | _,_=>none

def nS (P : Program) : Nat → TypeId → List Value → Option AV
 | 0,_,_=>none
 | f + 1,t,cs=>match bp P t with
  | some ts=>if cs.length == ae P t && cs.all Value.oneCell' then (lA P (nS P f) ts cs).map (.agg t) else none
  | none=>if cb P t then match cs with
    | [c]=>if (iV c).aS then some (iV c) else none
    | _=>none
   else none

def zeroOf (P : Program) (t : TypeId) : Option AV:=((P.info? t).bind (·.zero)).bind fun z=>nS P 8 t z.cells.toList

section
variable {P : Program} {W0 w w' : World} {C C' : Ctx} {σ σ' : ab} {n : Nat} {A : aa} {a : Act} {o : Oper}

theorem nH {z : TypeId → List Value → Option AV} : ∀ (ts : List TypeId) (cs : List Value) (as : List AV),lA P z ts cs = some as →
  as.length = ts.length ∧ ∀ i x ty,as[i]? = some x → ts[i]? = some ty → z ty ((cs.drop (aT P ts i)).take (ae P ty)) = some x
 | [],cs,as,h=>by
  simp [lA] at h
  subst h
  exact ⟨rfl,by simp⟩
 | t :: ts,cs,as,h=>by
  simp only [lA] at h
  split at h
  ·rename_i a as' h1 h2
   simp only [Option.some.injEq] at h
   subst h
   obtain ⟨g1,g2⟩:=nH ts _ as' h2
   refine ⟨by simp [g1],fun i x ty hx hty=>?_⟩
   cases i with
   | zero =>
    simp at hx hty
    subst hx hty
    simpa [aT] using h1
   | succ i =>
    simp at hx hty
    have:=g2 i x ty hx hty
    rw [List.drop_drop] at this
    simpa [aT] using this
  ·cases h

theorem nJ : ∀ (f : Nat) (t : TypeId) (cs : List Value) (x : AV),nS P f t cs = some x → Rel P w C x cs ∧ fits P t x
 | 0,_,_,_,h=>by cases h
 | f + 1,t,cs,x,h=>by
  simp only [nS] at h
  split at h
  ·rename_i ts hts
   split at h
   ·rename_i hok
    simp only [Bool.and_eq_true,beq_iff_eq,List.all_eq_true] at hok
    simp only [Option.map_eq_some_iff] at h
    obtain ⟨as,has,rfl⟩:=h
    obtain ⟨g1,g2⟩:=nH ts cs as has
    have hp : n9 P w C ts as cs:=by
     refine ⟨g1,by rw [hok.1,gv hts],hok.2,fun i=>(cs.drop (aT P ts i)).take (ae P (ts.getD i 0)),fun i x ty hx hty=>?_⟩
     have hd : ts.getD i 0 = ty:=by simp [List.getD,hty]
     have hz:=g2 i x ty hx hty
     obtain ⟨r1,r2⟩:=nJ f ty _ x hz
     simp only [hd]
     refine ⟨r1,r1.bk r2,r2,fun j u hj=>?_⟩
     rw [List.getElem?_take] at hj
     split at hj
     ·rwa [List.getElem?_drop] at hj
     ·cases hj
    exact ⟨hp.rel hts,rfl,by simp [hts]⟩
   ·cases h
  ·split at h
   ·rename_i hp
    split at h
    ·rename_i c
     split at h
     ·rename_i hone
      simp only [Option.some.injEq] at h
      subst h
      refine ⟨(jn c).aA hone,?_⟩
      cases hc : iV c <;> simp_all [fits,AV.aS]
     ·cases h
    ·cases h
   ·cases h

theorem iz {t : TypeId} {x : AV} (h : zeroOf P t = some x) : ∃ i z,P.info? t = some i ∧ i.zero = some z ∧ Rel P w C x z.cells.toList ∧ fits P t x:=by
 unfold zeroOf at h
 obtain ⟨z,hz,hf⟩:=Option.bind_eq_some_iff.1 h
 obtain ⟨i,hi,hz⟩:=Option.bind_eq_some_iff.1 hz
 exact ⟨i,z,hi,hz,nJ 8 t _ x hf⟩

def mO : List (Nat × AV) → List AV → List AV
 | [],fs=>fs
 | (i,v) :: r,fs=>mO r (fs.set i v)

def rB (P : Program) (ts : List TypeId) (ps : List (Nat × AV)) : Prop:=∀ p ∈ ps,∃ ty,ts[p.1]? = some ty ∧ fits P ty p.2

theorem qV {ts : List TypeId} {place : Nat → Option (Nat × Nat)} (hpl : ∀ k ty,ts[k]? = some ty → place k = some (aT P ts k,ae P ty)) :
  ∀ (ps : List (Nat × AV)) (vs : List (Nat × Value)) (fs : List AV) (cells : Array Value),n9 P w C ts fs cells.toList → ps.length = vs.length →
   (∀ (i : Nat) (p : Nat × AV) (v : Nat × Value),ps[i]? = some p → vs[i]? = some v → v.1 = p.1 ∧ az P w C p.2 v.2) → rB P ts ps → ∃ cells',Instr.fill place cells vs = some cells' ∧ n9 P w C ts (mO ps fs) cells'.toList
 | [],vs,fs,cells,h,hl,_,_=>by
  have : vs = []:=List.eq_nil_of_length_eq_zero (by simpa using hl.symm)
  subst this
  exact ⟨cells,rfl,h⟩
 | (k,x) :: ps,[],fs,cells,h,hl,_,_=>by simp at hl
 | (k,x) :: ps,(k',v) :: vs,fs,cells,h,hl,hr,hf=>by
  obtain ⟨e1,e2⟩:=hr 0 (k,x) (k',v) rfl rfl
  simp only at e1 e2
  subst e1
  obtain ⟨ty,hty,hfit⟩:=hf (k',x) (by simp)
  simp only at hty hfit
  have hc:=e2.cells hfit
  obtain ⟨s1,s2⟩:=h.set hty hc hfit
  have hsz : v.cells.size = ae P ty:=by
   have:=hc.bk hfit
   simpa using this
  have s1' : aT P ts k' + v.cells.size ≤ cells.size:=by simpa using s1
  obtain ⟨cells',r1,r2⟩:=qV hpl ps vs (fs.set k' x) (ba cells (aT P ts k') v.cells.toList) s2 (by simpa using hl)
   (fun i p q hp hq=>hr (i + 1) p q (by simpa using hp) (by simpa using hq)) (fun p hp=>hf p (by simp [hp]))
  refine ⟨cells',?_,r2⟩
  rw [← r1]
  have hfold:=jq v.cells (aT P ts k') cells s1'
  simp only [Instr.fill,hpl _ _ hty,hsz,ne_eq,not_true_eq_false,decide_false,Bool.false_or]
  rw [if_neg (by simp; omega)]
  congr 1

def ja (P : Program) (W0 : World) (o : Oper) (A : aa) (ps : List (Nat × Operand)) (qs : List (Nat × AV)) : Prop :=
 qs.length = ps.length ∧ ∀ (i : Nat) (p : Nat × Operand) (q : Nat × AV),ps[i]? = some p → qs[i]? = some q → p.1 = q.1 ∧ Is P W0 o A p.2 q.2

theorem ja.rel {ps : List (Nat × Operand)} {qs : List (Nat × AV)} (h : ja P W0 o A ps qs) (hr : eh P W0 o w C A a) : ∀ (i : Nat) (p : Nat × AV) (v : Nat × Value),qs[i]? = some p → (ps.map fun q=>(q.1,a.eval q.2))[i]? = some v → v.1 = p.1 ∧ az P w C p.2 v.2:=by
 intro i p v hp hv
 simp only [List.getElem?_map,Option.map_eq_some_iff] at hv
 obtain ⟨y,hy,rfl⟩:=hv
 obtain ⟨e1,e2⟩:=h.2 i y p hy hp
 exact ⟨e1,e2 w C a hr⟩

theorem pK (w : World) : ∀ (fs : List Field),(∀ f ∈ fs,0 < ae P f.type) → (fs.mapM (fun f=>do pure (f.offset,← sizeOf f.type) : Field → Sem (Nat × Nat))).run P w = .ok (fs.map fun f=>(f.offset,ae P f.type)) w
 | [],_=>rfl
 | f :: r,h=>by
  obtain ⟨i,hi,hs⟩:=bh (h f (by simp))
  have ih:=pK w r (fun g hg=>h g (by simp [hg]))
  rw [List.mapM_cons]
  have hsz : (sizeOf f.type).run P w = .ok (ae P f.type) w:=by simp [sizeOf,typeInfo,hi,hs]
  simp only [Sem.run_bind,hsz,ih,Result.andThen_ok,Sem.run_pure,List.map_cons]

theorem D2 {t : TypeId} {ts : List TypeId} {ps : Array (Nat × Operand)} {fs : List AV} {qs : List (Nat × AV)} (ho : o.op = .build t ps) (hts : bp P t = some ts)
  (hz : zeroOf P t = some (.agg t fs)) (hq : ja P W0 o A ps.toList qs) (hf : rB P ts qs) : bN P W0 o A (.agg t (mO qs fs)) :=
 .of_same fun w C a hr=>by
  obtain ⟨inf,z,hi,hiz,hrel,hfit⟩:=iz (w:=w) (C:=C) hz
  have hparts:=hrel.parts hts
  have e : (Array.map (fun x=>(x.1,a.eval x.2)) ps).toList = ps.toList.map fun q=>(q.1,a.eval q.2):=by simp
  have hzv : (zeroValue t).run P w = .ok z w:=by simp [zeroValue,typeInfo,hi,hiz]
  rcases fH hts with ⟨fl,hu,e1,e2,e3⟩ | ⟨m,el,hu,e1,e2⟩
  ·have hm:=pK (P:=P) w fl.toList (fun f hf=>by
    obtain ⟨k,hk,he⟩:=List.getElem_of_mem hf
    have : fl[k]? = some f:=by rw [← he]; simp
    exact (e2 k f (by simpa using this)).2)
   have hpl : ∀ k ty,ts[k]? = some ty → ((fl.toList.map fun f=>(f.offset,ae P f.type)).toArray[·]?) k = some (aT P ts k,ae P ty):=fun k ty hk=>by
    subst e1
    simp only [List.getElem?_map,Option.map_eq_some_iff] at hk
    obtain ⟨f,hf,rfl⟩:=hk
    have hf' : fl[k]? = some f:=by simpa using hf
    have:=(e2 k f hf').1
    simp [hf',this]
   obtain ⟨cells',r1,r2⟩:=qV hpl qs (ps.toList.map fun q=>(q.1,a.eval q.2)) fs z.cells hparts (by simpa using hq.1) (hq.rel hr) hf
   refine ⟨.agg cells',?_,?_⟩
   ·have hmA : (fl.mapM (fun f=>do pure (f.offset,← sizeOf f.type) : Field → Sem (Nat × Nat))).run P w = .ok (fl.toList.map fun f=>(f.offset,ae P f.type)).toArray w:=by
     rw [← Array.toArray_toList (xs:=fl),Array.mapM_eq_mapM_toList]
     simp only [Sem.run_map,hm,Result.andThen_ok]
    simp only [execOp,ho,Instr.build,Sem.run_bind,hzv,Result.andThen_ok,run_underlying hu,hmA]
    rw [e,r1]
    rfl
   ·have:=az.agg (r2.rel hts)
    simpa using this
  ·have hpos : 0 < ae P el:=by
    rcases Nat.eq_zero_or_pos (ae P el) with h0 | h0
    ·have:=kT hts; rw [e2,h0] at this; simp at this
    ·exact h0
   obtain ⟨inf',hinf,hsz⟩:=bh hpos
   have hpl : ∀ k ty,ts[k]? = some ty → (fun i=>some (i * ae P el,ae P el)) k = some (aT P ts k,ae P ty):=fun k ty hk=>by
    subst e1
    have hk':=List.getElem?_eq_some_iff.1 hk
    obtain ⟨hlt,he⟩:=hk'
    simp only [List.length_replicate] at hlt
    simp only [List.getElem_replicate] at he
    subst he
    rw [c8 _ _ _ (by omega)]
   obtain ⟨cells',r1,r2⟩:=qV hpl qs (ps.toList.map fun q=>(q.1,a.eval q.2)) fs z.cells hparts (by simpa using hq.1) (hq.rel hr) hf
   refine ⟨.agg cells',?_,?_⟩
   ·have hso : (sizeOf el).run P w = .ok (ae P el) w:=by simp [sizeOf,typeInfo,hinf,hsz]
    simp only [execOp,ho,Instr.build,Sem.run_bind,hzv,Result.andThen_ok,run_underlying hu,hso]
    rw [e,r1]
    rfl
   ·have:=az.agg (r2.rel hts)
    simpa using this

theorem wY {e : TypeId} {xs : List AV} {cf : Nat → List Value} {arr : Array Value} (hst : aw P W0 w C σ) (hl : xs.length ≤ maxLen)
  (h : ∀ i x,xs[i]? = some x → Rel P w C x (cf i) ∧ fits P e x ∧ ∀ (j : Nat) (u : Value),(cf i)[j]? = some u → arr[i * ae P e + j]? = some u) :
  az P (w.alloc (.cells arr e)) C (.lit e xs) (.slice (some ⟨w.heap.size,0,none⟩) xs.length xs.length):=by
 refine .one rfl (.lit cf hl (fun i x hx=>(h i x hx).1.mono (Step.alloc w C _)) (fun i x hx=>⟨(h i x hx).1.bk (h i x hx).2.1,(h i x hx).2.1⟩) (fun _=>⟨w.heap.size,0,rfl,fun i hi j u hj=>⟨?_,?_⟩⟩))
 ·have:=(h i _ (List.getElem?_eq_getElem hi)).2.2 j u hj
  rw [World.cell?_alloc_new,Nat.zero_add]
  exact this
 ·exact ec.free (by simp) (hst.fresh)

def CZ (P : Program) (w : World) (C : Ctx) (e : TypeId) (k : Nat) (xs : List AV) (cells : Array Value) : Prop :=
 ∃ cf : Nat → List Value,∀ i x,xs[i]? = some x → Rel P w C x (cf (k + i)) ∧ fits P e x ∧ ∀ (j : Nat) (u : Value),(cf (k + i))[j]? = some u → cells[(k + i) * ae P e + j]? = some u

theorem j6 {e : TypeId} (N : Nat) : ∀ (ps : List (Nat × AV)) (vs : List (Nat × Value)) (k : Nat) (cells : Array Value),ps.map (·.1) = List.range' k ps.length → ps.length = vs.length → cells.size = N * ae P e → k + ps.length ≤ N →
  (∀ (i : Nat) (p : Nat × AV) (v : Nat × Value),ps[i]? = some p → vs[i]? = some v → v.1 = p.1 ∧ az P w C p.2 v.2) → (∀ p ∈ ps,fits P e p.2) →
  ∃ cells',Instr.fill (fun i=>some (i * ae P e,ae P e)) cells vs = some cells' ∧ cells'.size = cells.size ∧ (∀ p,p < k * ae P e → cells'[p]? = cells[p]?) ∧ CZ P w C e k (ps.map (·.2)) cells'
 | [],vs,k,cells,_,hl,_,_,_,_=>by
  have : vs = []:=List.eq_nil_of_length_eq_zero (by simpa using hl.symm)
  subst this
  exact ⟨cells,rfl,rfl,fun _ _=>rfl,fun _=>[],by simp⟩
 | (q,x) :: ps,[],k,cells,_,hl,_,_,_,_=>by simp at hl
 | (q,x) :: ps,(q',v) :: vs,k,cells,hk,hl,hs,hN,hr,hf=>by
  simp only [List.map_cons,List.length_cons,List.range'_succ,List.cons.injEq] at hk
  obtain ⟨rfl,hk⟩:=hk
  obtain ⟨e1,e2⟩:=hr 0 (q,x) (q',v) rfl rfl
  simp only at e1 e2
  subst e1
  have hfit:=hf (q',x) (by simp)
  simp only at hfit
  have hc:=e2.cells hfit
  have hsz : v.cells.size = ae P e:=by
   have:=hc.bk hfit
   simpa using this
  simp only [List.length_cons] at hN hl
  have hroom : q' * ae P e + v.cells.size ≤ cells.size:=by
   rw [hs,hsz,← Nat.succ_mul]
   exact Nat.mul_le_mul_right _ (by omega)
  have hss:=cO (arr:=cells) (off:=q' * ae P e) (l:=v.cells.toList) (by simpa using hroom)
  obtain ⟨cells',r1,r2,r3,cf,r4⟩:=j6 N ps vs (q' + 1) (ba cells (q' * ae P e) v.cells.toList) (by simpa using hk) (by omega) (by rw [hss,hs]) (by omega)
   (fun i p r hp hr'=>hr (i + 1) p r (by simpa using hp) (by simpa using hr')) (fun p hp=>hf p (by simp [hp]))
  have hmul : (q' + 1) * ae P e = q' * ae P e + ae P e:=Nat.succ_mul _ _
  refine ⟨cells',?_,by rw [r2,hss],fun p hp=>?_,fun i=>if i = q' then v.cells.toList else cf i,fun i y hy=>?_⟩
  ·rw [← r1]
   have hfold:=jq v.cells (q' * ae P e) cells hroom
   simp only [Instr.fill,hsz,ne_eq,not_true_eq_false,decide_false,Bool.false_or]
   rw [if_neg (by simp; omega)]
   congr 1
  ·rw [r3 p (by omega),bg (by simpa using hroom),if_neg (by omega)]
  ·cases i with
   | zero =>
    simp only [List.map_cons,List.getElem?_cons_zero,Option.some.injEq] at hy
    subst hy
    simp only [Nat.add_zero,if_true]
    refine ⟨hc,hfit,fun j u hj=>?_⟩
    have hjl : j < v.cells.size:=by
     have:=(List.getElem?_eq_some_iff.1 hj).1
     simpa using this
    rw [r3 _ (by omega),bg (by simpa using hroom),if_pos ⟨by omega,by simp; omega⟩,Nat.add_sub_cancel_left]
    exact hj
   | succ i =>
    simp only [List.map_cons,List.getElem?_cons_succ] at hy
    have:=r4 i y hy
    rw [show q' + 1 + i = q' + (i + 1) by omega] at this
    simp only [show ¬ q' + (i + 1) = q' by omega,if_false]
    exact this

def aZ (P : Program) (t : TypeId) : Bool:=match (P.info? t).bind (·.zero) with | some z=>z.cells.size == ae P t | none=>false

theorem eC {t : TypeId} (h : aZ P t = true) : ∃ inf z,P.info? t = some inf ∧ inf.zero = some z ∧ z.cells.size = ae P t:=by
 unfold aZ at h
 split at h
 ·rename_i z hz
  obtain ⟨inf,hinf,hiz⟩:=Option.bind_eq_some_iff.1 hz
  exact ⟨inf,z,hinf,hiz,by simpa using h⟩
 ·cases h

theorem sE {t e : TypeId} {m : Nat} {ps : Array (Nat × Operand)} {qs : List (Nat × AV)} (ho : o.op = .buildSlice t m ps) (ht : elT P t = some e) (he : 0 < ae P e) (hz : aZ P e = true) (hm : m * ae P e ≤ 2 ^ 24)
  (hq : ja P W0 o A ps.toList qs) (hk : qs.map (·.1) = List.range' 0 m) (hf : ∀ p ∈ qs,fits P e p.2) : bN P W0 o A (.lit e (qs.map (·.2))) :=
 fun w C a hr=>by
  obtain ⟨inf,z,hinf,hiz,_⟩:=eC hz
  have hsz : inf.size = ae P e:=by simp [ae,hinf]
  have hlen : qs.length = m:=by have:=congrArg List.length hk; simpa using this
  have hzv : (zeroValue e).run P w = .ok z w:=by simp [zeroValue,typeInfo,hinf,hiz]
  have hsv : (sizeOf e).run P w = .ok (ae P e) w:=by simp [sizeOf,typeInfo,hinf,hsz]
  have hbig : ¬ m * ae P e > 2 ^ 24:=by omega
  have hrun : ∀ arr : Array Value,arr.size = m * ae P e → ∃ cells',Instr.fill (fun i=>some (i * ae P e,ae P e)) arr (ps.toList.map fun q=>(q.1,a.eval q.2)) = some cells' ∧ cells'.size = arr.size ∧ (∀ p,p < 0 * ae P e → cells'[p]? = arr[p]?) ∧ CZ P w C e 0 (qs.map (·.2)) cells' :=
   fun arr harr=>j6 m qs (ps.toList.map fun q=>(q.1,a.eval q.2)) 0 arr (by rw [hk,hlen]) (by simpa using hq.1) harr (by omega) (hq.rel hr) hf
  have e1 : (Array.map (fun x=>(x.1,a.eval x.2)) ps).toList = ps.toList.map fun q=>(q.1,a.eval q.2):=by simp
  obtain ⟨zc,hzc⟩ : ∃ zc : Array Value,zc = if m * ae P e = 0 then #[] else z.cells:=⟨_,rfl⟩
  obtain ⟨cells',f1,f2,_,cf,f4⟩:=hrun ((Array.range (m * ae P e)).map (zc[· % zc.size]!)) (by simp)
  have hl : (qs.map (·.2)).length = m:=by simpa using hlen
  have hmax : m ≤ maxLen:=by
   have : m * 1 ≤ m * ae P e:=Nat.mul_le_mul_left _ he
   unfold maxLen; omega
  have hrel:=wY (P:=P) (e:=e) (xs:=qs.map (·.2)) (cf:=cf) (arr:=cells') hr.st (by rw [hl]; exact hmax) (fun i x hx=>by
   have:=f4 i x hx
   rwa [Nat.zero_add] at this)
  rw [hl] at hrel
  refine ⟨_,_,?_,hrel,Step.alloc _ _ _,hr.st.alloc _⟩
  simp only [execOp,ho,Instr.buildSlice,Sem.run_bind,Result.andThen_ok,run_underlying (bF ht),hsv,hbig,if_false,Sem.run_pure]
  by_cases h0 : m * ae P e = 0
  ·rw [if_pos h0] at hzc ⊢
   subst hzc
   simp only [Sem.run_bind,Sem.run_pure,Result.andThen_ok]
   rw [e1,f1]
   simp only [newRow,newObj,Sem.run_bind,Sem.run_pure]
   rfl
  ·rw [if_neg h0] at hzc ⊢
   subst hzc
   simp only [Sem.run_bind,Sem.run_pure,Result.andThen_ok,hzv]
   rw [e1,f1]
   simp only [newRow,newObj,Sem.run_bind,Sem.run_pure]
   rfl

theorem Ee {t : TypeId} {x : Operand} {v : AV} (ho : o.op = .box t x) (hx : Is P W0 o A x v) (hf : fits P t v) : bN P W0 o A (.loc t v):=fun w C a hr=>by
 have hc:=(hx w C a hr).cells hf
 have hcl : (a.eval x).cells.toList.length = ae P t:=hc.bk hf
 refine ⟨.pointer (some ⟨w.heap.size,0,none⟩),w.alloc (.cells (a.eval x).cells t),?_,.one rfl (.loc (hc.mono (Step.alloc w C _)) hf hcl (fun j c hj=>⟨?_,ec.free (by simp) hr.st.fresh⟩)),Step.alloc _ _ _,hr.st.alloc _⟩
 ·simp only [execOp,ho,Instr.box,newVar,newRow,newObj,Sem.run_bind,Sem.run_pure]
  rfl
 ·rw [World.cell?_alloc_new,Nat.zero_add]
  simpa using hj

end
end Go.Av
end
section
namespace Go.Av
open Go

def AV.at : AV → List Nat → Option AV
 | v,[]=>some v
 | .agg _ fs,k :: r=>(fs[k]?).bind (·.at r)
 | _,_ :: _=>none

def look (σ : ab) (id i : Nat) (path : List Nat) : Option AV :=
 match σ[id]? with
 | some (some (.cells _ xs))=>(xs[i]?).bind (·.at path)
 | _=>none

section
variable {P : Program} {W0 w w' : World} {C C' : Ctx} {σ σ' : ab} {n : Nat} {A : aa} {a : Act} {o : Oper}

theorem vh : ∀ (path : List Nat) (te t : TypeId) (off : Nat) (x v : AV) (cs : List Value),Rel P w C x cs → fits P te x → place P te path = some (t,off) → x.at path = some v →
  ∃ c,Rel P w C v c ∧ fits P t v ∧ c.length = ae P t ∧ ∀ (j : Nat) (u : Value),c[j]? = some u → cs[off + j]? = some u
 | [],te,t,off,x,v,cs,hr,hf,hp,hx=>by
  simp only [place,Option.some.injEq,Prod.mk.injEq] at hp
  obtain ⟨rfl,rfl⟩:=hp
  have hv : x = v:=by cases x <;> simpa [AV.at] using hx
  subst hv
  exact ⟨cs,hr,hf,hr.bk hf,fun j u hj=>by rwa [Nat.zero_add]⟩
 | k :: r,te,t,off,x,v,cs,hr,hf,hp,hx=>by
  cases x with
  | agg t' fs =>
   simp only [AV.at] at hx
   obtain ⟨y,hy,hyv⟩:=Option.bind_eq_some_iff.1 hx
   obtain ⟨rfl,_⟩:=hf
   simp only [place] at hp
   obtain ⟨ts,hts,hp⟩:=Option.bind_eq_some_iff.1 hp
   obtain ⟨ty,hty,hp'⟩:=Option.bind_eq_some_iff.1 hp
   simp only [Option.map_eq_some_iff,Prod.mk.injEq,Prod.exists] at hp'
   obtain ⟨t1,o1,hpl,rfl,rfl⟩:=hp'
   obtain ⟨c1,r1,r2,r3,r4⟩:=hr.part hts hy hty
   obtain ⟨c,g1,g2,g3,g4⟩:=vh r ty t1 o1 y v c1 r1 r3 hpl hyv
   refine ⟨c,g1,g2,g3,fun j u hj=>?_⟩
   rw [Nat.add_assoc]
   exact r4 _ _ (g4 j u hj)
  | _=>simp [AV.at] at hx

theorem aw.cells (h : aw P W0 w C σ) {id : Nat} {te : TypeId} {xs : List AV} (hs : σ[id]? = some (some (.cells te xs))) :
  ∃ b base room arr t' fr,C.m id = some (.obj b te base room) ∧ w.heap[b]? = some (.cells arr t' fr) ∧ qd fr arr.size ∧ arr.size = room ∧ base + xs.length * ae P te ≤ room ∧
   ∃ cf : Nat → List Value,∀ (i : Nat) (x : AV),xs[i]? = some x → Rel P w C x (cf i) ∧ (cf i).length = ae P te ∧ fits P te x ∧ ∀ (j : Nat) (c : Value),(cf i)[j]? = some c → arr[base + i * ae P te + j]? = some c:=by
 have ho:=h.obj id
 rw [hs] at ho
 simp only [Option.join_some] at ho
 cases hm : C.m id with
 | none=>rw [hm] at ho; exact ho.elim
 | some ow =>
  rw [hm] at ho
  cases ow with
  | obj b te' base room =>
   obtain ⟨rfl,arr,t',fr,h1,hf,h2,h3,h4⟩:=ho
   exact ⟨b,base,room,arr,t',fr,rfl,h1,hf,h2,h3,h4⟩
  | tok=>exact ho.elim
  | iter=>exact ho.elim
  | mp=>exact ho.elim

theorem az.l5 {t : TypeId} {id i : Nat} {path : List Nat} {v : Value} (h : az P w C (.ptr t id i path) v) :
  ∃ a,v = .pointer (some a) ∧ id < C.nx ∧ ∀ ow,C.m id = some ow → ∃ b te base room off,ow = .obj b te base room ∧ place P te path = some (t,off) ∧ a = ⟨b,base + i * ae P te + off,none⟩:=by
 have:=h.aA rfl
 cases this with
 | ptr h1 h2=>exact ⟨_,rfl,h1,h2⟩

theorem nE {id i : Nat} {path : List Nat} {v : AV} (h : look σ id i path = some v) : ∃ te xs x,σ[id]? = some (some (.cells te xs)) ∧ xs[i]? = some x ∧ x.at path = some v:=by
 unfold look at h
 split at h
 ·rename_i te xs hs
  obtain ⟨x,hx,hv⟩:=Option.bind_eq_some_iff.1 h
  exact ⟨te,xs,x,hs,hx,hv⟩
 ·cases h

theorem vH {t : TypeId} {id i : Nat} {path : List Nat} {v : AV} {x : Operand} (ho : o.op = .load t x) (hx : Is P W0 o A x (.ptr t id i path)) (hl : look A.st id i path = some v) : bN P W0 o A v :=
 .of_same fun w C a hr=>by
  obtain ⟨ad,hv,_,hm⟩:=(hx w C a hr).l5
  obtain ⟨te,xs,y,hs,hy,hyv⟩:=nE hl
  obtain ⟨b,base,room,arr,t',fr,m1,m2,mf,m3,m4,cf,m5⟩:=hr.st.cells hs
  obtain ⟨b',te',base',room',off,e1,e2,rfl⟩:=hm _ m1
  cases e1
  obtain ⟨r1,r2,r3,r4⟩:=m5 i y hy
  obtain ⟨c,g1,g2,g3,g4⟩:=vh path te t off y v (cf i) r1 r3 e2 hyv
  have hcell : ∀ (j : Nat) (u : Value),c[j]? = some u → w.cell? ⟨b,base + i * ae P te + off + j,none⟩ = some u:=fun j u hj=>by
   have:=r4 (off + j) u (g4 j u hj)
   rw [← Nat.add_assoc] at this
   simp [World.cell?,m2,this]
  obtain ⟨z,hz,hzr⟩:=eZ g1 g2 hcell
  exact ⟨z,by simp [execOp,ho,Instr.loadAt,Instr.sureAddr,hv,hz],hzr⟩

def bo (P : Program) (t : TypeId) : Bool:=match P.underlying t with | some (.struct _)=>true | _=>false

theorem vl {s : TypeId} (h : bo P s = true) : (P.underlying s).any (fun d=>match d with | .struct _=>true | _=>false) = true:=by
 unfold bo at h
 split at h
 ·rename_i hu; simp [hu]
 ·cases h

theorem mP : ∀ (path : List Nat) (te t : TypeId) (off : Nat) (k : Nat) (ts : List TypeId) (ty : TypeId),place P te path = some (t,off) → bp P t = some ts → ts[k]? = some ty → place P te (path ++ [k]) = some (ty,off + aT P ts k)
 | [],te,t,off,k,ts,ty,h,ht,hk=>by
  simp only [place,Option.some.injEq,Prod.mk.injEq] at h
  obtain ⟨rfl,rfl⟩:=h
  simp [place,ht,hk]
 | q :: r,te,t,off,k,ts,ty,h,ht,hk=>by
  simp only [place] at h
  obtain ⟨ts',hts,hp⟩:=Option.bind_eq_some_iff.1 h
  obtain ⟨ty',hty,hp'⟩:=Option.bind_eq_some_iff.1 hp
  simp only [Option.map_eq_some_iff,Prod.mk.injEq,Prod.exists] at hp'
  obtain ⟨t1,o1,hpl,rfl,rfl⟩:=hp'
  have:=mP r ty' t1 o1 k ts ty hpl ht hk
  simp [place,hts,hty,this,Nat.add_assoc]

theorem oQ {s : TypeId} {ts : List TypeId} {x : Operand} {k id i : Nat} {path : List Nat} {ty : TypeId} (ho : o.op = .fieldAddr s x k) (hx : Is P W0 o A x (.ptr s id i path)) (hst : bo P s = true)
  (hts : bp P s = some ts) (hty : ts[k]? = some ty) : bN P W0 o A (.ptr ty id i (path ++ [k])) :=
 .of_same fun w C a hr=>by
  obtain ⟨ad,hv,hid,hm⟩:=(hx w C a hr).l5
  rcases fH hts with ⟨fl,hu,e1,e2,e3⟩ | ⟨m,e,hu,_⟩
  case inr=>simp [bo,hu] at hst
  have hk : k < fl.size:=by
   have : k < ts.length:=(List.getElem?_eq_some_iff.1 hty).1
   rw [e1] at this; simpa using this
  have hfk : fl[k]? = some fl[k]:=Array.getElem?_eq_getElem hk
  obtain ⟨hoff,hpos⟩:=e2 k _ hfk
  obtain ⟨inf,hinf,hsz⟩:=bh hpos
  have hfp : (fieldPlace ad fl[k]).run P w = .ok (ad.add (aT P ts k)) w:=by
   simp [fieldPlace,sizeOf,typeInfo,hinf,hsz,Nat.ne_of_gt hpos,hoff]
  refine ⟨.pointer (some (ad.add (aT P ts k))),?_,.one rfl (.ptr hid (fun ow how=>?_))⟩
  ·simp [execOp,ho,Instr.fieldAt,run_underlying hu,hfk,Instr.sureAddr,hv,hfp]
  ·obtain ⟨b,te,base,room,off,g1,g2,rfl⟩:=hm ow how
   exact ⟨b,te,base,room,off + aT P ts k,g1,mP path te s off k ts ty g2 hts hty,by rw [Addr.add_lit]; simp⟩

theorem pj {t e : TypeId} {x ix : Operand} {k : IntKind} {i : Int} {id off m : Nat} (ho : o.op = .indexAddr t x ix) (hx : Is P W0 o A x (.row e id off m)) (hi : Is P W0 o A ix (.int k i))
  (ht : elT P t = some e) (he : 0 < ae P e) (h0 : 0 ≤ i) (hm : i.toNat < m) (hlive : ∃ te xs,A.st[id]? = some (some (.cells te xs))) : bN P W0 o A (.ptr e id (off + i.toNat) []) :=
 .of_same fun w C a hr=>by
  have hxv:=(hx w C a hr).aA rfl
  have hiv:=(hi w C a hr).bX
  obtain ⟨te,xs,hs⟩:=hlive
  obtain ⟨b,base,room,arr,t',fr,m1,_⟩:=hr.st.cells hs
  generalize hval : a.eval x = v at hxv
  cases hxv with
  | row h1 h2 h3 h4 =>
   obtain ⟨b',base',room',g1,g2,g3⟩:=h4 _ m1
   cases g1
   have ha:=g2 (by omega)
   subst ha
   obtain ⟨inf,hinf,hsz⟩:=bh he
   have hlt' : i < (m : Int):=by omega
   refine ⟨.pointer (some ⟨b,base + off * ae P e + i.toNat * ae P e,none⟩),?_,.one rfl (.ptr h3 (fun ow how=>?_))⟩
   ·simp [execOp,ho,Instr.indexAt,hval,hiv,asIntOf,run_underlying (bF ht),h0,hlt',sizeOf,typeInfo,hinf,hsz,Addr.add_lit]
   ·rw [m1] at how
    cases how
    exact ⟨b,e,base,room,0,rfl,rfl,by simp [Nat.add_mul,Nat.add_assoc]⟩

end
end Go.Av
end
section
namespace Go.Av
open Go

def jE (P : Program) (t : TypeId) : Option TypeId:=match P.underlying t with | some (.array _ e)=>some e | _=>none

section
variable {P : Program} {W0 w w' : World} {C C' : Ctx} {σ σ' : ab} {n : Nat} {A : aa} {a : Act} {o : Oper}

theorem qJ {t e : TypeId} (h : jE P t = some e) {ts : List TypeId} (hts : bp P t = some ts) : ∃ m,P.underlying t = some (.array m e) ∧ ts = List.replicate m e ∧ 0 < ae P e:=by
 unfold jE at h
 split at h
 ·rename_i m e' hu
  cases h
  have hpos:=kT hts
  rcases fH hts with ⟨fl,hu',_⟩ | ⟨m',e',hu',h1,h2⟩
  ·rw [hu] at hu'; cases hu'
  ·rw [hu] at hu'
   cases hu'
   refine ⟨m,hu,h1,?_⟩
   rcases Nat.eq_zero_or_pos (ae P e) with h0 | h0
   ·rw [h2,h0] at hpos; simp at hpos
   ·exact h0
 ·cases h

theorem nf {t : TypeId} {v : AV} {cs : List Value} {arr : Array Value} {off : Nat} (hr : Rel P w C v cs) (hf : fits P t v) (hc : ∀ (j : Nat) (c : Value),cs[j]? = some c → arr[off + j]? = some c) :
  ∃ x,(part t arr off).run P w = .ok x w ∧ az P w C v x:=by
 have hlen:=hr.bk hf
 cases hv : v.aS with
 | true =>
  obtain ⟨x,rfl⟩:=hr.one_cell hv
  have hp : cb P t = true:=by
   cases v <;> simp_all [fits,AV.aS]
  refine ⟨x,?_,.one hv hr⟩
  have h0:=hc 0 x (by simp)
  simp only [Nat.add_zero] at h0
  simp [part,(gp hp w).1,h0]
 | false =>
  cases v <;> simp only [AV.aS,Bool.true_eq_false] at hv <;> simp only [fits,AV.aS,Bool.false_eq_true,false_and] at hf
  rename_i t' fs
  obtain ⟨rfl,hf⟩:=hf
  obtain ⟨ts,hts⟩:=Option.isSome_iff_exists.1 hf
  obtain ⟨i,hi,hsz⟩:=bh (kT hts)
  refine ⟨.agg (arr.extract off (off + i.size)),by simp [part,me hts w,sizeOf,typeInfo,hi],?_⟩
  have : arr.extract off (off + i.size) = cs.toArray:=by
   refine Array.ext_getElem? fun j=>?_
   rw [hsz]
   by_cases hj : j < cs.length
   ·have h1:=List.getElem?_eq_getElem hj
    have h2:=hc j _ h1
    have h3:=(Array.getElem?_eq_some_iff.1 h2).1
    rw [Array.getElem?_extract,if_pos (by omega),h2]
    simp [h1]
   ·rw [Array.getElem?_extract]
    have : ¬ j < min (off + ae P t') arr.size - off:=by omega
    rw [if_neg this]
    simp
    omega
  rw [this]
  exact .agg hr

theorem va {t e : TypeId} {ts : List TypeId} {fs : List AV} {x ix : Operand} {k : IntKind} {i : Int} {y : AV} (ho : o.op = .index t x ix) (hx : Is P W0 o A x (.agg t fs)) (hi : Is P W0 o A ix (.int k i))
  (ha : jE P t = some e) (hts : bp P t = some ts) (h0 : 0 ≤ i) (hy : fs[i.toNat]? = some y) : bN P W0 o A y :=
 .of_same fun w C a hr=>by
  obtain ⟨cs,hv,hrel⟩:=(hx w C a hr).nK
  have hiv:=(hi w C a hr).bX
  obtain ⟨m,hu,rfl,hpos⟩:=qJ ha hts
  have hlt : i.toNat < m:=by
   have:=(List.getElem?_eq_some_iff.1 hy).1
   rw [hrel.r8 hts] at this
   simpa using this
  obtain ⟨c,r1,r2,r3,r4⟩:=hrel.part hts hy (ty:=e) (by simp [hlt])
  obtain ⟨inf,hinf,hsz⟩:=bh hpos
  obtain ⟨z,hz,hzr⟩:=nf (arr:=cs.toArray) (off:=i.toNat * ae P e) r1 r3 (fun j u hj=>by
   have:=r4 j u hj
   rw [c8 _ _ _ (by omega)] at this
   simpa using this)
  refine ⟨z,?_,hzr⟩
  have hlt' : i < (m : Int):=by omega
  simp [execOp,ho,Instr.index,hv,hiv,asIntOf,run_underlying hu,h0,hlt',sizeOf,typeInfo,hinf,hsz,hz]

theorem Co {s ty : TypeId} {ts : List TypeId} {fs : List AV} {x : Operand} {k : Nat} {y : AV} (ho : o.op = .field s x k) (hx : Is P W0 o A x (.agg s fs)) (hst : bo P s = true) (hts : bp P s = some ts) (hy : fs[k]? = some y) (hty : ts[k]? = some ty) : bN P W0 o A y :=
 .of_same fun w C a hr=>by
  obtain ⟨cs,hv,hrel⟩:=(hx w C a hr).nK
  rcases fH hts with ⟨fl,hu,e1,e2,e3⟩ | ⟨m,e,hu,_⟩
  case inr=>simp [bo,hu] at hst
  have hk : k < fl.size:=by
   have : k < ts.length:=(List.getElem?_eq_some_iff.1 hty).1
   rw [e1] at this; simpa using this
  have hfk : fl[k]? = some fl[k]:=Array.getElem?_eq_getElem hk
  obtain ⟨hoff,hpos⟩:=e2 k _ hfk
  obtain ⟨c,r1,r2,r3,r4⟩:=hrel.part hts hy hty
  have htt : fl[k].type = ty:=by
   rw [e1,List.getElem?_map,Array.getElem?_toList,hfk] at hty
   simpa using hty
  obtain ⟨z,hz,hzr⟩:=nf (arr:=cs.toArray) (off:=aT P ts k) r1 r3 (fun j u hj=>by simpa using r4 j u hj)
  refine ⟨z,?_,hzr⟩
  simp [execOp,ho,Instr.field,asAgg,hv,run_underlying hu,hfk,hoff,htt,hz]

theorem ot {t e : TypeId} {ts : List TypeId} {x ix : Operand} {k : IntKind} {i : Int} {id j : Nat} {path : List Nat} (ho : o.op = .indexAddr t x ix) (hx : Is P W0 o A x (.ptr t id j path)) (hi : Is P W0 o A ix (.int k i))
  (ha : jE P t = some e) (hts : bp P t = some ts) (h0 : 0 ≤ i) (hlt : i.toNat < ts.length) : bN P W0 o A (.ptr e id j (path ++ [i.toNat])) :=
 .of_same fun w C a hr=>by
  obtain ⟨ad,hv,hid,hm⟩:=(hx w C a hr).l5
  have hiv:=(hi w C a hr).bX
  obtain ⟨m,hu,rfl,hpos⟩:=qJ ha hts
  simp only [List.length_replicate] at hlt
  obtain ⟨inf,hinf,hsz⟩:=bh hpos
  have hlt' : i < (m : Int):=by omega
  refine ⟨.pointer (some (ad.add (i.toNat * ae P e))),?_,.one rfl (.ptr hid (fun ow how=>?_))⟩
  ·simp [execOp,ho,Instr.indexAt,hv,hiv,asIntOf,run_underlying hu,h0,hlt',sizeOf,typeInfo,hinf,hsz,Instr.sureAddr]
  ·obtain ⟨b,te,base,room,off,g1,g2,rfl⟩:=hm ow how
   refine ⟨b,te,base,room,off + aT P (List.replicate m e) i.toNat,g1,mP path te t off i.toNat _ e g2 hts (by simp [hlt]),?_⟩
   rw [c8 _ _ _ (by omega),Addr.add_lit]
   simp

theorem ou {t e : TypeId} {ts : List TypeId} {fs : List AV} {x ix : Operand} {k : IntKind} {i : Int} {y : AV} (ho : o.op = .indexAddr t x ix) (hx : Is P W0 o A x (.loc t (.agg t fs))) (hi : Is P W0 o A ix (.int k i))
  (ha : jE P t = some e) (hts : bp P t = some ts) (h0 : 0 ≤ i) (hy : fs[i.toNat]? = some y) : bN P W0 o A (.loc e y) :=
 .of_same fun w C a hr=>by
  obtain ⟨b,off,cs,hv,h1,h2,h3,h4⟩:=(hx w C a hr).nu
  have hiv:=(hi w C a hr).bX
  obtain ⟨m,hu,rfl,hpos⟩:=qJ ha hts
  have hlt : i.toNat < m:=by
   have:=(List.getElem?_eq_some_iff.1 hy).1
   rw [h1.r8 hts] at this
   simpa using this
  obtain ⟨c,r1,r2,r3,r4⟩:=h1.part hts hy (ty:=e) (by simp [hlt])
  obtain ⟨inf,hinf,hsz⟩:=bh hpos
  have hlt' : i < (m : Int):=by omega
  refine ⟨.pointer (some ⟨b,off + i.toNat * ae P e,none⟩),?_,.one rfl (.loc r1 r3 r2 (fun j u hj=>?_))⟩
  ·simp [execOp,ho,Instr.indexAt,hv,hiv,asIntOf,run_underlying hu,h0,hlt',sizeOf,typeInfo,hinf,hsz,Instr.sureAddr,Addr.add_lit]
  ·have:=h4 (aT P (List.replicate m e) i.toNat + j) u (r4 j u hj)
   rwa [c8 _ _ _ (by omega),← Nat.add_assoc] at this

end
end Go.Av
end
section
namespace Go.Av
open Go

section
variable {P : Program} {W0 w w' : World} {C C' : Ctx} {σ σ' : ab} {n : Nat} {A : aa} {a : Act} {o : Oper}

theorem rG {x : AV} {v : Value} (h : mj x = some v) : x.aS = true:=by
 cases x <;> first | rfl | cases h
theorem rn {x : AV} {v u : Value} (h : mj x = some v) (hr : Rel P w C x [u]) : u = v:=by
 cases x <;> simp only [mj,reduceCtorEq,Option.some.injEq] at h
 ·subst h; cases hr; rfl
 ·subst h; cases hr; rfl
 ·cases hr with
  | str hl=>rw [if_pos hl] at h; exact Option.some.inj h
theorem DE {x : AV} {v : Value} (h : mj x = some v) : az P w C x v:=by
 cases x <;> first | cases h | skip
 ·exact .one rfl (.int _ _)
 ·exact .one rfl (.bool _)
 ·simp only [mj] at h
  split at h
  ·cases h; exact .one rfl (.str (by assumption))
  ·cases h
theorem xx : ∀ {xs : List AV} {vs : List Value},Cg xs = some vs → xs.length = vs.length ∧ ∀ (i : Nat) (x : AV),xs[i]? = some x → ∃ v,mj x = some v ∧ vs[i]? = some v
 | [],vs,h=>by cases h; exact ⟨rfl,by simp⟩
 | x :: r,vs,h=>by
  simp only [Cg] at h
  cases h1 : mj x with
  | none=>rw [h1] at h; cases h
  | some v =>
   rw [h1,Option.bind_some] at h
   cases h2 : Cg r with
   | none=>rw [h2] at h; cases h
   | some us =>
    rw [h2] at h
    cases h
    obtain ⟨g1,g2⟩:=xx h2
    refine ⟨by simp [g1],fun i y hy=>?_⟩
    cases i with
    | zero=>simp at hy; subst hy; exact ⟨v,h1,rfl⟩
    | succ i=>simpa using g2 i y (by simpa using hy)
theorem ym : ∀ {l : List Nat},(∀ x ∈ l,x = 1) → l.sum = l.length
 | [],_=>rfl
 | x :: l,h=>by
  have:=ym (l:=l) fun y hy=>h y (by simp [hy])
  have h1:=h x (by simp)
  simp only [List.sum_cons,List.length_cons]
  omega
theorem AW {x : AV} {v u : Value} (h : rig P x = some v) (hr : az P w C x u) : u = v:=by
 have plain : mj x = some v → u = v:=fun h=>rn h (hr.aA (rG h))
 cases x
 case agg t fs =>
  obtain ⟨cs,rfl,hrel⟩:=hr.nK
  simp only [rig] at h
  split at h
  ·rename_i ts hts
   split at h
   ·rename_i hall
    cases hL : Cg fs with
    | none=>rw [hL] at h; cases h
    | some vs =>
     rw [hL] at h
     simp only [Option.map_some,Option.some.injEq] at h
     subst h
     obtain ⟨g1,g2⟩:=xx hL
     cases hrel with
     | agg cf h1 h2 h3 h4 h5 h6 =>
      rename_i ts'
      rw [hts] at h1
      cases h1
      have ones : ∀ ty ∈ ts,ae P ty = 1:=fun ty hty=>by simpa using List.all_eq_true.1 hall ty hty
      have off : ∀ i,i ≤ ts.length → aT P ts i = i:=fun i hi=>by
       unfold aT
       rw [ym (fun x hx=>by
        obtain ⟨ty,hty,rfl⟩:=List.mem_map.1 hx
        exact ones ty (List.mem_of_mem_take hty))]
       simp; omega
      have hlen : cs.length = vs.length:=by rw [h3,gv hts,off _ (Nat.le_refl _),← h2,g1]
      congr 1
      congr 1
      refine List.ext_getElem? fun i=>?_
      by_cases hi : i < fs.length
      ·have hx:=List.getElem?_eq_getElem hi
       obtain ⟨v,hv1,hv2⟩:=g2 i _ hx
       have hty:=List.getElem?_eq_getElem (l:=ts) (show i < ts.length by omega)
       obtain ⟨k1,k2,k3⟩:=h6 i _ _ hx hty
       obtain ⟨z,hz⟩:=(h5 i _ hx).one_cell (rG hv1)
       have hrz:=h5 i _ hx
       rw [hz] at hrz
       have:=rn hv1 hrz
       subst this
       have h7:=k3 0 z (by rw [hz]; rfl)
       rw [off i (by omega),Nat.add_zero] at h7
       rw [h7,hv2]
      ·rw [List.getElem?_eq_none (by omega),List.getElem?_eq_none (by omega)]
   ·cases h
  ·cases h
 all_goals exact plain h

def nQ (P : Program) (t : TypeId) : Option (TypeId × TypeId):=match P.underlying t with | some (.map k e)=>some (k,e) | _=>none
theorem xS {t kt vt : TypeId} (h : nQ P t = some (kt,vt)) : P.underlying t = some (.map kt vt):=by
 unfold nQ at h
 split at h
 ·cases h; assumption
 ·cases h
def BR (P : Program) (kt : TypeId) (v : AV) : Prop:=∃ x q,rig P v = some x ∧ keyOf P kt x = some q
def Bw (σ : ab) (kt : TypeId) : AV → Option (List (AV × AV))
 | .mp id=>(match σ[id]? with | some (some (.mp kt' l))=>if kt' = kt then some l else none | _=>none)
 | _=>none
def lp (P : Program) (t : TypeId) : AV:=match (P.info? t).bind (·.zero) with | some z=>iV z | none=>.undef
open Classical in
noncomputable def CI (P : Program) (l : List (AV × AV)) (k z : AV) : AV:=if h : ∃ p ∈ l,rig P p.1 = rig P k then (Classical.choose h).2 else z
open Classical in
noncomputable def zp (P : Program) (l : List (AV × AV)) (k v : AV) : List (AV × AV):=l.filter (fun p=>decide (rig P p.1 ≠ rig P k)) ++ [(k,v)]

theorem Db {kt : TypeId} {u : AV} {l : List (AV × AV)} (h : Bw σ kt u = some l) : ∃ id,u = .mp id ∧ σ[id]? = some (some (.mp kt l)):=by
 cases u <;> first | cases h | skip
 rename_i id
 simp only [Bw] at h
 split at h
 ·rename_i kt' l' hs
  split at h
  ·rename_i he
   subst he
   cases h
   exact ⟨id,rfl,hs⟩
  ·cases h
 ·cases h
theorem aw.mp (h : aw P W0 w C σ) {id : Nat} {kt : TypeId} {l : List (AV × AV)} (hs : σ[id]? = some (some (.mp kt l))) : ∃ b,C.m id = some (.mp b) ∧ zK P w kt l b:=by
 have ho:=h.obj id
 rw [hs] at ho
 simp only [Option.join_some] at ho
 cases hm : C.m id with
 | none=>rw [hm] at ho; exact ho.elim
 | some ow =>
  rw [hm] at ho
  cases ow with
  | mp b=>exact ⟨b,rfl,ho⟩
  | _=>exact ho.elim
theorem Dq {id : Nat} {v : Value} (h : az P w C (.mp id) v) : ∃ r,v = .map (some r) ∧ ∀ ow,C.m id = some ow → ow = .mp r:=by
 have:=h.aA rfl
 cases this with
 | mp h1 h2=>exact ⟨_,rfl,h2⟩
theorem tu {es : List MapEntry} (h : es.Pairwise fun e f=>e.key ≠ f.key) : ∀ {e f : MapEntry},e ∈ es → f ∈ es → e.key = f.key → e = f:=by
 induction es with
 | nil=>intro e f he; cases he
 | cons x r ih =>
  rw [List.pairwise_cons] at h
  intro e f he hf hk
  rcases List.mem_cons.1 he with he' | he'
  ·rcases List.mem_cons.1 hf with hf' | hf'
   ·rw [he',hf']
   ·rw [he'] at hk; exact absurd hk (h.1 f hf')
  ·rcases List.mem_cons.1 hf with hf' | hf'
   ·rw [hf'] at hk; exact absurd hk.symm (h.1 e he')
   ·exact ih h.2 he' hf' hk

theorem CE {t kt vt : TypeId} {x ix : Operand} {u k : AV} {l : List (AV × AV)} (ho : o.op = .lookup t x ix false) (hx : Is P W0 o A x u) (hi : Is P W0 o A ix k) (ht : nQ P t = some (kt,vt)) (hz : aZ P vt = true)
  (K : Maps.Keyed P kt) (hk : BR P kt k) (hl : Bw A.st kt u = some l) : bN P W0 o A (CI P l k (lp P vt)):=fun w C a hr=>by
 obtain ⟨id,rfl,hs⟩:=Db hl
 obtain ⟨r,hv,hm⟩:=Dq (hx w C a hr)
 obtain ⟨b,hc,es,clock,hb,hd,he1,he2⟩:=hr.st.mp hs
 cases hm _ hc
 obtain ⟨y,q,hy,hq⟩:=hk
 have hkey:=AW hy (hi w C a hr)
 obtain ⟨inf,z,hinf,hiz,_⟩:=eC hz
 have hzv : (zeroValue vt).run P w = .ok z w:=by simp [zeroValue,typeInfo,hinf,hiz]
 have hz1 : lp P vt = iV z:=by simp [lp,hinf,hiz]
 have hu:=xS ht
 rcases K.find w hq es.toList (fun e he=>(he1 e he).1) with ⟨h1,h2⟩ | ⟨j,e,h1,h2,h3⟩
 ·refine ⟨z,w,?_,?_,.refl _ _,hr.st⟩
  ·simp [execOp,ho,hv,hkey,Instr.lookup,run_underlying hu,MapKept.run_getObj_map hb,K.check w _ hq,h1,hzv,Result.andThen]
  ·have : ¬ ∃ p ∈ l,rig P p.1 = rig P k:=fun ⟨p,hp,hpk⟩=>by
    obtain ⟨e,he,g1,_⟩:=he2 p hp
    rw [hpk,hy] at g1
    exact h2 e he (Option.some.inj g1).symm
   rw [CI,dif_neg this,hz1]
   exact jn z
 ·refine ⟨e.val,w,?_,?_,.refl _ _,hr.st⟩
  ·simp [execOp,ho,hv,hkey,Instr.lookup,run_underlying hu,MapKept.run_getObj_map hb,K.check w _ hq,h1,Result.andThen]
  ·have hem : e ∈ es.toList:=List.mem_of_getElem? h2
   obtain ⟨_,p,hp,g1,g2⟩:=he1 e hem
   have hex : ∃ p ∈ l,rig P p.1 = rig P k:=⟨p,hp,by rw [g1,h3,hy]⟩
   rw [CI,dif_pos hex]
   obtain ⟨hc1,hc2⟩:=Classical.choose_spec hex
   obtain ⟨f,hf,k1,k2⟩:=he2 _ hc1
   rw [hc2,hy] at k1
   have : f = e:=tu hd hf hem (by rw [h3]; exact (Option.some.inj k1).symm)
   subst this
   exact DE k2
end

def lj (P : Program) (t : TypeId) : Bool:=match P.underlying t with
 | some (.interface _)=>false
 | some _=>true
 | none=>false
def BJ (P : Program) (t : TypeId) : Bool:=((P.info? t).bind (·.zero)).isSome
def jk (P : Program) (d : TypeId) (ok : Bool) : AV → AV
 | .iface t v=>if t = d then (if ok = true then .tup [v,.bool true] else v) else .tup [lp P d,.bool false]
 | .cw=>.tup [lp P d,.bool false]
 | _=>.undef
def l0 (P : Program) (d : TypeId) (ok : Bool) : AV → Prop
 | .iface t _=>lj P d = true ∧ (t = d ∨ (ok = true ∧ BJ P d = true))
 | .cw=>lj P d = true ∧ ok = true ∧ BJ P d = true
 | _=>False
theorem pn {P : Program} {t : TypeId} (h : lj P t = true) : ∃ U,P.underlying t = some U ∧ ∀ m,U ≠ .interface m:=by
 unfold lj at h
 split at h
 ·cases h
 ·rename_i U hn hU
  exact ⟨U,hU,fun m e=>hn m (by rw [← e])⟩
 ·cases h
section
variable {P : Program} {W0 w w' : World} {C C' : Ctx} {σ σ' : ab} {n : Nat} {A : aa} {a : Act} {o : Oper}
theorem oC {t : TypeId} {x : Operand} {u : AV} (ho : o.op = .makeInterface t x) (hx : Is P W0 o A x u) (h1 : lj P t = true) (h2 : u.aS = true) : bN P W0 o A (.iface t u) :=
 .of_same fun w C a hr=>by
  have h:=(hx w C a hr).aA h2
  obtain ⟨U,hU,hn⟩:=pn h1
  refine ⟨.iface t (a.eval x),?_,.one rfl (.iface h2 h)⟩
  have : (Instr.makeInterface t (a.eval x)).run P w = .ok (.iface t (a.eval x)) w:=by
   simp only [Instr.makeInterface,Sem.run_bind,run_underlying hU,Result.andThen_ok]
   cases U <;> first | rfl | exact absurd rfl (hn _)
  simp [execOp,ho,this]
theorem sH {xt d : TypeId} {ok : Bool} {x : Operand} {u : AV} (ho : o.op = .typeAssert x xt d ok) (hx : Is P W0 o A x u) (h : l0 P d ok u) : bN P W0 o A (jk P d ok u) :=
 .of_same fun w C a hr=>by
  have hv:=hx w C a hr
  have hpair : ∀ (v : AV) (x : Value) (b : Bool),az P w C v x → az P w C (.tup [v,.bool b]) (.tuple #[x,.bool b]):=fun v x b hr=>by
   refine .tup (vs:=[x,.bool b]) rfl fun i a v ha hv=>?_
   rcases i with _ | _ | i
   ·cases ha; cases hv; exact hr
   ·cases ha; cases hv; exact .one rfl (.bool _)
   ·simp at ha
  have hzero : BJ P d = true → ∃ z,(zeroValue d).run P w = .ok z w ∧ az P w C (lp P d) z:=fun hz=>by
   unfold BJ at hz
   obtain ⟨z,hz⟩:=Option.isSome_iff_exists.1 hz
   obtain ⟨i,hi,hiz⟩:=Option.bind_eq_some_iff.1 hz
   refine ⟨z,by simp [zeroValue,typeInfo,hi,hiz],?_⟩
   unfold lp
   rw [hz]
   exact jn z
  cases u <;> first | exact h.elim | skip
  ·obtain ⟨h1,h2,h3⟩:=h
   obtain ⟨U,hU,hn⟩:=pn h1
   obtain ⟨z,hz1,hz2⟩:=hzero h3
   have hx':=hv.aA rfl
   generalize hev : a.eval x = xv at hx'
   cases hx'
   refine ⟨.tuple #[z,.bool false],?_,hpair _ _ _ hz2⟩
   have : (Instr.typeAssert .nilIface xt d ok).run P w = .ok (.tuple #[z,.bool false]) w:=by
    subst h2
    simp only [Instr.typeAssert,Sem.run_bind,run_underlying hU,Result.andThen_ok]
    cases U <;> first | exact absurd rfl (hn _) | simp [hz1]
   simp [execOp,ho,hev,this]
  ·rename_i t v
   obtain ⟨h1,h2⟩:=h
   obtain ⟨U,hU,hn⟩:=pn h1
   have hx':=hv.aA rfl
   generalize hev : a.eval x = xv at hx'
   cases hx' with
   | iface h3 h4 =>
    rename_i y
    by_cases htd : t = d
    ·subst htd
     refine ⟨if ok = true then .tuple #[y,.bool true] else y,?_,?_⟩
     ·have : (Instr.typeAssert (.iface t y) xt t ok).run P w = .ok (if ok = true then .tuple #[y,.bool true] else y) w:=by
       simp only [Instr.typeAssert,Sem.run_bind,run_underlying hU,Result.andThen_ok]
       cases U <;> first | exact absurd rfl (hn _) | simp
      simp [execOp,ho,hev,this]
     ·simp only [jk,if_true]
      cases ok
      ·exact .one h3 h4
      ·exact hpair _ _ _ (.one h3 h4)
    ·obtain ⟨h5,h6⟩:=h2.resolve_left htd
     obtain ⟨z,hz1,hz2⟩:=hzero h6
     refine ⟨.tuple #[z,.bool false],?_,by simp only [jk,if_neg htd]; exact hpair _ _ _ hz2⟩
     have : (Instr.typeAssert (.iface t y) xt d ok).run P w = .ok (.tuple #[z,.bool false]) w:=by
      subst h5
      simp only [Instr.typeAssert,Sem.run_bind,run_underlying hU,Result.andThen_ok]
      cases U <;> first | exact absurd rfl (hn _) | simp [htd,hz1]
     simp [execOp,ho,hev,this]
end
end Go.Av
end
section
namespace Go.Av
open Go

def BL (P : Program) (f : FuncId) (vs : Array Value) (w : World) (R : Ending → World → Prop) : Prop :=
 ((∃ fn, P.funcs[f]? = some fn ∧ fn.body.isSome = true ∧ (fn.name == "runtime.NumGoroutine") = false) ∧ Calls P f vs w R) ∨
 ∃ v w',(callFunc f vs).run P w = .ok (.value v) w' ∧ R (.returned v) w'

theorem BL.mono {P : Program} {f : FuncId} {vs : Array Value} {w : World} {R R' : Ending → World → Prop} (h : BL P f vs w R) (hr : ∀ e w',R e w' → R' e w') : BL P f vs w R':=by
 rcases h with ⟨h1,h2⟩ | ⟨v,w',h1,h2⟩
 ·exact .inl ⟨h1,h2.mono fun e w'=>hr e w'⟩
 ·exact .inr ⟨v,w',h1,hr _ _ h2⟩

def aU (P : Program) (W0 : World) (f : FuncId) (args : List AV) (σ : ab) (Q : AV → ab → Prop) : Prop :=
 ∀ w C (vs : List Value),aw P W0 w C σ → args.length = vs.length → (∀ (i : Nat) (a : AV) (v : Value),args[i]? = some a → vs[i]? = some v → az P w C a v) →
  BL P f vs.toArray w fun e w'=>∃ v r σ' C',e = .returned v ∧ Q r σ' ∧ aw P W0 w' C' σ' ∧ az P w' C' r v ∧ Step w C w' C'

def af (P : Program) (W0 : World) (f : FuncId) (args : List AV) (r : AV) : Prop:=∀ σ,aU P W0 f args σ fun r' σ'=>r' = r ∧ σ' = σ

def cV (P : Program) (W0 : World) (o : Oper) (A : aa) (v : AV) : Prop :=
 ∀ w C a,eh P W0 o w C A a → ∀ (next : Act → World → Prop) (Q : Exit → Act → World → Prop),
  (∀ x w',az P w' C v x → Step w C w' C → aw P W0 w' C A.st → next (a.put o.dst x) w') → o.wp P a w next Q

def imp (gd : Option Bool) (p : Prop) : Prop:=match gd with | none=>p | some g=>(g = true → p)

theorem imp.of {gd : Option Bool} {p : Prop} (h : p) : imp gd p:=by cases gd <;> first | exact h | exact fun _=>h
theorem imp.map {gd : Option Bool} {p q : Prop} (h : p → q) (hp : imp gd p) : imp gd q:=by cases gd <;> first | exact h hp | exact fun g=>h (hp g)
theorem imp.wZ {gd : Option Bool} {p q r : Prop} (h : p → q → r) (hp : imp gd p) (hq : imp gd q) : imp gd r:=by cases gd <;> first | exact h hp hq | exact fun g=>h (hp g) (hq g)
theorem imp.oG {gd : Option Bool} {p q r s : Prop} (h : p → q → r → s) (hp : imp gd p) (hq : imp gd q) (hr : imp gd r) : imp gd s:=by cases gd <;> first | exact h hp hq hr | exact fun g=>h (hp g) (hq g) (hr g)

def strip (gd : Option Bool) (x : AV) (k : AV → Prop) : Prop:=match x with | .maybe g v=>imp gd (g = true) ∧ k v | v=>k v
def r5 (gd : Option Bool) (b : Bool) (x : AV) (k : AV → Prop) : Prop:=match x with | .maybe g v=>imp gd (b = true → g = true) ∧ k v | v=>k v
def stripL (gd : Option Bool) (xs : List AV) (k : List AV → Prop) : Prop :=
 match xs with
 | []=>k []
 | x :: r=>strip gd x fun u=>stripL gd r fun us=>k (u :: us)

def Ey (P : Program) (op : BinOp) (t : TypeId) (u v : AV) (K : AV → Prop) : Prop:=match ck P op t u v with | some z=>K z | none=>False

def QI (op : UnOp) (u : AV) (K : AV → Prop) : Prop :=
 match op,u with
 | .not,.bool b=>K (.bool (!b))
 | .neg,.int k m=>K (.int k (k.wrap (-m)))
 | _,_=>False

def zn (gd : Option Bool) (σ : ab) (t : TypeId) (u : AV) (K : AV → Prop) : Prop :=
 match u with
 | .loc t' v=>t' = t ∧ K v
 | .ptr t' id i path=>t' = t ∧ (match look σ id i path with | some v=>K v | none=>imp gd False ∧ K .undef)
 | _=>False

def nG (P : Program) (s : TypeId) (u : AV) (k : Nat) (K : AV → Prop) : Prop :=
 match u with
 | .loc t (.agg t' fs)=>(t = s ∧ t' = s ∧ bo P s = true) ∧ (match bp P s with
  | some ts=>(match fs[k]?,ts[k]? with
   | some y,some ty=>K (.loc ty y)
   | _,_=>False)
  | none=>False)
 | .ptr t id i path=>(t = s ∧ bo P s = true) ∧ (match bp P s with
  | some ts=>(match ts[k]? with
   | some ty=>K (.ptr ty id i (path ++ [k]))
   | none=>False)
  | none=>False)
 | _=>False

def live (σ : ab) (id : Nat) : Prop:=∃ te xs,σ[id]? = some (some (.cells te xs))

def iY (P : Program) (gd : Option Bool) (σ : ab) (t : TypeId) (u v : AV) (K : AV → Prop) : Prop :=
 match v with
 | .int _ i=>(match u with
  | .row e id off m=>(elT P t = some e ∧ 0 < ae P e) ∧ imp gd (0 ≤ i ∧ i.toNat < m) ∧ live σ id ∧ K (.ptr e id (off + i.toNat) [])
  | .ptr t' id j path=>(t' = t ∧ (jE P t).isSome = true) ∧ (match bp P t with
   | some ts=>imp gd (0 ≤ i ∧ i.toNat < ts.length) ∧ K (.ptr ((jE P t).getD 0) id j (path ++ [i.toNat]))
   | none=>False)
  | .loc t' (.agg t'' fs)=>(t' = t ∧ t'' = t ∧ (jE P t).isSome = true ∧ (bp P t).isSome = true) ∧ imp gd (0 ≤ i ∧ i.toNat < fs.length) ∧ K (.loc ((jE P t).getD 0) (fs[i.toNat]?.getD .undef))
  | u=>(match u.ju with
   | some (e,xs)=>(elT P t = some e ∧ 0 < ae P e) ∧ imp gd (0 ≤ i ∧ i.toNat < xs.length) ∧ K (.loc e (xs[i.toNat]?.getD .undef))
   | none=>False))
 | _=>False

def bH (P : Program) (t : TypeId) : Bool:=match P.underlying t with | some .string=>true | _=>false

def vF (P : Program) (gd : Option Bool) (t : TypeId) (u v : AV) (K : AV → Prop) : Prop :=
 match u,v with
 | .str l,.int _ i=>bH P t = true ∧ imp gd (0 ≤ i ∧ i.toNat < l.length) ∧ K (.int .u8 (l[i.toNat]?.getD 0).toNat)
 | .agg t' fs,.int _ i=>(t' = t ∧ (jE P t).isSome = true ∧ (bp P t).isSome = true) ∧ imp gd (0 ≤ i ∧ i.toNat < fs.length) ∧ K (fs[i.toNat]?.getD .undef)
 | _,_=>False

def Mp (P : Program) (s : TypeId) (k : Nat) (u : AV) (K : AV → Prop) : Prop :=
 match u with
 | .agg t fs=>(match bp P s with
  | some ts=>(match ts[k]?,fs[k]? with
   | some _,some y=>(t = s ∧ bo P s = true) ∧ K y
   | _,_=>False)
  | none=>False)
 | _=>False
def oI (u : AV) (k : Nat) (K : AV → Prop) : Prop:=match u with | .tup as=>(match as[k]? with | some v=>K v | none=>False) | _=>False

def eB (P : Program) (t : TypeId) : Option IntKind:=match P.underlying t with | some (.int k)=>some k | _=>none

def lF (P : Program) (s d : TypeId) (u : AV) (K : AV → Prop) : Prop :=
 match u with
 | .int _ m=>(match eB P s,eB P d with | some _,some k'=>K (.int k' (k'.wrap m)) | some _,none=>bH P d = true ∧ K (.str (xY m)) | _,_=>False)
 | .str l=>(bH P s = true ∧ bH P d = true) ∧ K (.str l)
 | u=>(match u.ju with
  | some (e,xs)=>(elT P s = some e ∧ eB P e = some .u8 ∧ ae P e = 1 ∧ bH P d = true ∧ gk xs) ∧ K (.str (xs.map iw))
  | none=>False)

def eK (gd : Option Bool) (A : aa) (x : Option Operand) (d : Nat) (k : Nat → Prop) : Prop :=
 match x with
 | none=>k d
 | some y=>strip gd (A.val y) fun v=>(match v with | .int _ i=>imp gd (0 ≤ i) ∧ k i.toNat | _=>False)

def qv (P : Program) (gd : Option Bool) (A : aa) (t : TypeId) (u : AV) (lo hi : Option Operand) (K : AV → Prop) : Prop :=
 match u with
 | .str l=>bH P t = true ∧ eK gd A lo 0 fun p=>eK gd A hi l.length fun q=>imp gd (p ≤ q ∧ q ≤ l.length) ∧ K (.str (fR l p q))
 | .row e id off m=>(elT P t = some e ∧ 0 < ae P e) ∧ eK gd A lo 0 fun p=>eK gd A hi m fun q=>imp gd (p ≤ q ∧ q ≤ m) ∧ K (.row e id (off + p) (q - p))
 | .au=>(match elT P t with | some e=>0 < ae P e ∧ eK gd A lo 0 fun p=>eK gd A hi 0 fun q=>imp gd (p = 0 ∧ q = 0) ∧ K .au | none=>False)
 | u=>match u.ju with
  | some (e,xs)=>(elT P t = some e ∧ 0 < ae P e) ∧ eK gd A lo 0 fun p=>eK gd A hi xs.length fun q=>imp gd (p ≤ q ∧ q ≤ xs.length) ∧ K (.sl e (fR xs p q))
  | none=>False

def lY (gd : Option Bool) (A : aa) (ps : List (Nat × Operand)) (k : List (Nat × AV) → Prop) : Prop :=
 match ps with
 | []=>k []
 | (i,x) :: r=>strip gd (A.val x) fun u=>lY gd A r fun us=>k ((i,u) :: us)

def bf (P : Program) (t : TypeId) (x : AV) : Bool :=
 match x with
 | .agg t' _=>t' == t && (bp P t).isSome
 | x=>x.aS && cb P t

theorem eH {P : Program} {t : TypeId} {x : AV} (h : bf P t x = true) : fits P t x:=by
 cases x <;> simp_all [bf,fits]

def lI (P : Program) (ts : List TypeId) (ps : List (Nat × AV)) : Bool:=ps.all fun p=>match ts[p.1]? with | some ty=>bf P ty p.2 | none=>false

def qg (P : Program) (t : TypeId) (qs : List (Nat × AV)) (K : AV → Prop) : Prop :=
 match bp P t,zeroOf P t with
 | some ts,some (.agg t' fs)=>(t' = t ∧ lI P ts qs = true) ∧ K (.agg t (mO qs fs))
 | _,_=>False

def ic (P : Program) (t : TypeId) (m : Nat) (qs : List (Nat × AV)) (K : AV → Prop) : Prop :=
 match elT P t with
 | some e=>(0 < ae P e ∧ aZ P e = true ∧ m * ae P e ≤ 16777216 ∧ qs.map (·.1) = List.range' 0 m ∧ qs.all (fun p=>bf P e p.2) = true) ∧ K (.lit e (qs.map (·.2)))
 | none=>False

def lV (P : Program) (gd : Option Bool) (b : Builtin) (ts : List TypeId) (us : List AV) (K : AV → Prop) : Prop :=
 match b,us with
 | .len,[u]=>(match ts with
  | [t]=>(match u with
   | .str l=>bH P t = true ∧ (imp gd (l.length ≤ maxLen) → K (.int .i64 l.length))
   | u=>(match u.lenOf with
    | some m=>(elT P t).isSome = true ∧ (imp gd (m ≤ maxLen) → K (.int .i64 m))
    | none=>False))
  | _=>False)
 | .cap,[u]=>(match ts with
  | [t]=>(match u with
   | .au=>(elT P t).isSome = true ∧ K (.int .i64 0)
   | _=>False)
  | _=>False)
 | .max,[u,v]=>(match u,v with | .int k p,.int k' q=>k' = k ∧ K (.int k (vY p q)) | _,_=>False)
 | .min,[u,v]=>(match u,v with | .int k p,.int k' q=>k' = k ∧ K (.int k (yd p q)) | _,_=>False)
 | _,_=>False

def yZ (P : Program) (W0 : World) (so : Option ab) (f : FuncId) (args : List AV) (r : AV) : Prop:=match so with
 | none=>af P W0 f args r
 | some σ=>aU P W0 f args σ fun r' σ'=>r' = r ∧ σ' = σ

def iE (P : Program) (W0 : World) (gd : Option Bool) (so : Option ab) (f : AV) (us : List AV) (K : AV → Prop) : Prop :=
 match f with
 | .fn g caps=>∃ r,imp gd (yZ P W0 so g (us ++ caps) r) ∧ K r
 | _=>False

def yB (P : Program) (gd : Option Bool) (σ : ab) (t : TypeId) (u v : AV) (K : AV → Prop) : Prop :=
 match nQ P t with
 | some (kt,vt)=>aZ P vt = true ∧ Maps.Keyed P kt ∧ imp gd (BR P kt v) ∧ (match Bw σ kt u with | some l=>K (CI P l v (lp P vt)) | none=>False)
 | none=>False

def iC (P : Program) (W0 : World) (gd : Option Bool) (op : Op) (A : aa) (K : AV → Prop) : Prop :=
 match op with
 | .move x=>(match gd with | none=>K (A.val x) | some _=>strip gd (A.val x) K)
 | .assign x=>(match gd with | none=>K (A.val x) | some _=>strip gd (A.val x) K)
 | .pick c x y=>strip gd (A.val c) fun cv=>(match cv with
  | .bool b=>r5 gd b (A.val x) fun u=>r5 gd (!b) (A.val y) fun v=>K (mK b u v)
  | _=>False)
 | .binOp op t x y _=>strip gd (A.val x) fun u=>strip gd (A.val y) fun v=>Ey P op t u v K
 | .unOp op _ x=>strip gd (A.val x) fun u=>QI op u K
 | .load t x=>strip gd (A.val x) fun u=>zn gd A.st t u K
 | .fieldAddr s x k=>strip gd (A.val x) fun u=>nG P s u k K
 | .indexAddr t x ix=>strip gd (A.val x) fun u=>strip gd (A.val ix) fun v=>iY P gd A.st t u v K
 | .index t x ix=>strip gd (A.val x) fun u=>strip gd (A.val ix) fun v=>vF P gd t u v K
 | .extract x k=>strip gd (A.val x) fun u=>oI u k K
 | .field s x k=>strip gd (A.val x) fun u=>Mp P s k u K
 | .nilCheck x=>strip gd (A.val x) fun u=>u.fI = true ∧ K u
 | .convert s d x=>strip gd (A.val x) fun u=>lF P s d u K
 | .makeFunc fn first caps=>(match fn with
  | .func f=>first.toList = [] ∧ stripL gd (caps.toList.map A.val) fun vs=>vs.all AV.aS = true ∧ K (.fn f vs)
  | _=>False)
 | .slice t x lo hi mx=>mx = none ∧ strip gd (A.val x) fun u=>qv P gd A t u lo hi K
 | .build t ps=>lY gd A ps.toList fun qs=>qg P t qs K
 | .buildSlice t m ps=>lY gd A ps.toList fun qs=>ic P t m qs K
 | .box t x=>strip gd (A.val x) fun v=>bf P t v = true ∧ K (.loc t v)
 | .lookup t x ix false=>strip gd (A.val x) fun u=>strip gd (A.val ix) fun v=>yB P gd A.st t u v K
 | .makeInterface t x=>strip gd (A.val x) fun u=>(lj P t = true ∧ u.aS = true) ∧ K (.iface t u)
 | .typeAssert x _ d ok=>strip gd (A.val x) fun u=>l0 P d ok u ∧ K (jk P d ok u)
 | .call c=>(match c.callee with
  | .builtin b=>stripL gd (c.args.toList.map A.val) fun us=>lV P gd b c.argTypes.toList us K
  | .value f=>strip gd (A.val f) fun fv=>stripL gd (c.args.toList.map A.val) fun us=>iE P W0 gd (some A.st) fv us K
  | _=>False)
 | _=>False

section
variable {P : Program} {W0 w w' : World} {C C' : Ctx} {σ σ' : ab} {n : Nat} {A : aa} {a : Act} {o : Oper} {gd : Option Bool} {K : AV → Prop}

theorem bN.pure {v : AV} (h : bN P W0 o A v) : cV P W0 o A v:=fun w C a hr next Q hn=>by
 obtain ⟨x,w',h1,h2,h3,h4⟩:=h w C a hr
 unfold Oper.wp
 rw [h1]
 exact hn x w' h2 h3 h4

theorem E5 (h : aw P W0 w C σ) (h' : aw P W0 w' C' σ) (hs : Step w C w' C') : C' = C:=by
 have hm : ∀ i,C'.m i = C.m i:=fun i=>by
  have h1:=h.obj i
  have h2:=h'.obj i
  cases hc : C'.m i with
  | none =>
   cases hc' : C.m i with
   | none=>rfl
   | some ow =>
    rw [hc] at h2
    rw [hc'] at h1
    cases ho : (σ[i]?).join with
    | none=>rw [ho] at h1; cases ow <;> exact h1.elim
    | some s=>rw [ho] at h2; cases s <;> exact h2.elim
  | some ow =>
   have hlt:=h'.dom i ow hc
   rw [hs.dead i ow (by rw [h.nx,← h'.nx]; exact hlt) hc]
 have hnx : C'.nx = C.nx:=by rw [h.nx,h'.nx]
 cases C; cases C'
 simp only at hm hnx
 subst hnx
 congr
 exact funext hm

theorem aP {x : Operand} (hm : x ∈ o.op.operands) {k : AV → Prop} (h : strip gd (A.val x) k) : ∃ u,k u ∧ imp gd (Is P W0 o A x u):=by
 unfold strip at h
 have hv:=Is.val (P:=P) (W0:=W0) A hm
 split at h
 ·rename_i g v hx
  rw [hx] at hv
  exact ⟨v,h.2,h.1.map fun hg w C a hr=>(hv w C a hr).strip hg⟩
 ·exact ⟨_,h,.of hv⟩

theorem oa {b : Bool} {x : Operand} (hm : x ∈ o.op.operands) {k : AV → Prop} (h : r5 gd b (A.val x) k) : ∃ u,k u ∧ imp gd (b = true → Is P W0 o A x u):=by
 unfold r5 at h
 have hv:=Is.val (P:=P) (W0:=W0) A hm
 split at h
 ·rename_i g v hx
  rw [hx] at hv
  exact ⟨v,h.2,h.1.map fun hg hb w C a hr=>(hv w C a hr).strip (hg hb)⟩
 ·exact ⟨_,h,.of fun _=>hv⟩

theorem fQ : ∀ (xs : List Operand) (k : List AV → Prop),(∀ x ∈ xs,x ∈ o.op.operands) → stripL gd (xs.map A.val) k → ∃ us,k us ∧ imp gd (IsL P W0 o A xs us)
 | [],k,_,h=>⟨[],h,.of ⟨rfl,by simp⟩⟩
 | x :: r,k,hm,h=>by
  obtain ⟨u,hu,hi⟩:=aP (P:=P) (W0:=W0) (hm x (by simp)) h
  obtain ⟨us,hus,hil⟩:=fQ r _ (fun y hy=>hm y (by simp [hy])) hu
  refine ⟨u :: us,hus,hi.wZ (fun h1 h2=>⟨by simp [h2.1],fun i y v hy hv=>?_⟩) hil⟩
  cases i with
  | zero=>simp at hy hv; subst hy hv; exact h1
  | succ i=>simp at hy hv; exact h2.2 i y v hy hv

theorem gj : ∀ (ps : List (Nat × Operand)) (k : List (Nat × AV) → Prop),(∀ p ∈ ps,p.2 ∈ o.op.operands) → lY gd A ps k → ∃ qs,k qs ∧ imp gd (ja P W0 o A ps qs)
 | [],k,_,h=>⟨[],h,.of ⟨rfl,by simp⟩⟩
 | (j,x) :: r,k,hm,h=>by
  obtain ⟨u,hu,hi⟩:=aP (P:=P) (W0:=W0) (hm (j,x) (by simp)) h
  obtain ⟨us,hus,hil⟩:=gj r _ (fun y hy=>hm y (by simp [hy])) hu
  refine ⟨(j,u) :: us,hus,hi.wZ (fun h1 h2=>⟨by simp [h2.1],fun i y v hy hv=>?_⟩) hil⟩
  cases i with
  | zero=>simp at hy hv; subst hy hv; exact ⟨rfl,h1⟩
  | succ i=>simp at hy hv; exact h2.2 i y v hy hv

theorem ca {x : Option Operand} (hm : ∀ y,x = some y → y ∈ o.op.operands) {d : Nat} {k : Nat → Prop} (h : eK gd A x d k) : ∃ l,k l ∧ imp gd (gZ P W0 o A x d l):=by
 unfold eK at h
 split at h
 ·exact ⟨d,h,.of rfl⟩
 ·obtain ⟨u,hu,hi⟩:=aP (P:=P) (W0:=W0) (hm _ rfl) h
  split at hu
  ·rename_i k' i
   exact ⟨i.toNat,hu.2,hi.wZ (fun h1 h2=>⟨k',i,h1,h2,rfl⟩) hu.1⟩
  ·exact hu.elim

end
end Go.Av
end
section
namespace Go.Av
open Go

section
variable {P : Program} {W0 w w' : World} {C C' : Ctx} {σ σ' : ab} {n : Nat} {A : aa} {a : Act} {o : Oper} {gd : Option Bool} {K : AV → Prop}

theorem cS {t : TypeId} (h : bH P t = true) : P.underlying t = some .string:=by
 unfold bH at h
 split at h
 ·assumption
 ·cases h

theorem iS {t : TypeId} {k : IntKind} (h : eB P t = some k) : P.underlying t = some (.int k):=by
 unfold eB at h
 split at h
 ·cases h; assumption
 ·cases h

theorem se {x : Operand} (ho : o.op = .move x ∨ o.op = .assign x) (hm : x ∈ o.op.operands) (h : match gd with | none=>K (A.val x) | some _=>strip gd (A.val x) K) : ∃ v,K v ∧ imp gd (cV P W0 o A v):=by
 have key : ∀ u,Is P W0 o A x u → cV P W0 o A u:=fun u hu=>by
  rcases ho with ho | ho
  ·exact (Ik ho hu).pure
  ·exact (Ca ho hu).pure
 cases gd with
 | none=>exact ⟨_,h,key _ (Is.val A hm)⟩
 | some g =>
  obtain ⟨u,hu,hi⟩:=aP (P:=P) (W0:=W0) hm h
  exact ⟨u,hu,hi.map (key u)⟩

theorem yO {t : TypeId} {x : Operand} {u : AV} (ho : o.op = .load t x) (hi : imp gd (Is P W0 o A x u)) (h : zn gd A.st t u K) : ∃ v,K v ∧ imp gd (cV P W0 o A v):=by
 unfold zn at h
 split at h
 ·obtain ⟨rfl,hk⟩:=h
  exact ⟨_,hk,hi.map fun hx=>(xP ho hx).pure⟩
 ·obtain ⟨rfl,hk⟩:=h
  split at hk
  ·rename_i v hv
   exact ⟨v,hk,hi.map fun hx=>(vH ho hx hv).pure⟩
  ·exact ⟨_,hk.2,hk.1.map False.elim⟩
 ·exact h.elim

theorem xh {s : TypeId} {x : Operand} {k : Nat} {u : AV} (ho : o.op = .fieldAddr s x k) (hi : imp gd (Is P W0 o A x u)) (h : nG P s u k K) : ∃ v,K v ∧ imp gd (cV P W0 o A v):=by
 unfold nG at h
 split at h
 ·obtain ⟨⟨rfl,rfl,hst⟩,h⟩:=h
  split at h
  ·rename_i ts hts
   split at h
   ·rename_i y ty hy hty
    exact ⟨_,h,hi.map fun hx=>(pe ho hx (vl hst) hts hy hty).pure⟩
   ·exact h.elim
  ·exact h.elim
 ·obtain ⟨⟨rfl,hst⟩,h⟩:=h
  split at h
  ·rename_i ts hts
   split at h
   ·rename_i ty hty
    exact ⟨_,h,hi.map fun hx=>(oQ ho hx hst hts hty).pure⟩
   ·exact h.elim
  ·exact h.elim
 ·exact h.elim

theorem qe {t : TypeId} {x ix : Operand} {u v : AV} (ho : o.op = .indexAddr t x ix) (hi : imp gd (Is P W0 o A x u)) (hj : imp gd (Is P W0 o A ix v)) (h : iY P gd A.st t u v K) : ∃ v,K v ∧ imp gd (cV P W0 o A v):=by
 unfold iY at h
 split at h
 ·split at h
  ·obtain ⟨⟨h1,h2⟩,h3,h4,h5⟩:=h
   exact ⟨_,h5,imp.oG (fun hx hy h3=>(pj ho hx hy h1 h2 h3.1 h3.2 h4).pure) hi hj h3⟩
  ·obtain ⟨⟨rfl,h1⟩,h⟩:=h
   obtain ⟨e,he⟩:=Option.isSome_iff_exists.1 h1
   split at h
   ·rename_i ts hts
    rw [he] at h
    exact ⟨_,h.2,imp.oG (fun hx hy h3=>(ot ho hx hy he hts h3.1 h3.2).pure) hi hj h.1⟩
   ·exact h.elim
  ·obtain ⟨⟨rfl,rfl,h1,h2⟩,h3,h4⟩:=h
   obtain ⟨e,he⟩:=Option.isSome_iff_exists.1 h1
   obtain ⟨ts,hts⟩:=Option.isSome_iff_exists.1 h2
   rw [he] at h4
   exact ⟨_,h4,imp.oG (fun hx hy h3=>(ou ho hx hy he hts h3.1 (by simp [List.getElem?_eq_getElem h3.2])).pure) hi hj h3⟩
  ·split at h
   ·rename_i e xs hl
    obtain ⟨⟨h1,h2⟩,h3,h4⟩:=h
    exact ⟨_,h4,imp.oG (fun hx hy h3=>(ns ho hx hl hy h1 h2 h3.1 (by simp [List.getElem?_eq_getElem h3.2])).pure) hi hj h3⟩
   ·exact h.elim
 ·exact h.elim

theorem yp {t : TypeId} {x ix : Operand} {u v : AV} (ho : o.op = .index t x ix) (hi : imp gd (Is P W0 o A x u)) (hj : imp gd (Is P W0 o A ix v)) (h : vF P gd t u v K) : ∃ v,K v ∧ imp gd (cV P W0 o A v):=by
 unfold vF at h
 split at h
 ·obtain ⟨h1,h2,h3⟩:=h
  exact ⟨_,h3,imp.oG (fun hx hy h2=>(vA ho hx hy (cS h1) h2.1 (by simp [List.getElem?_eq_getElem h2.2])).pure) hi hj h2⟩
 ·obtain ⟨⟨rfl,h1,h2⟩,h3,h4⟩:=h
  obtain ⟨e,he⟩:=Option.isSome_iff_exists.1 h1
  obtain ⟨ts,hts⟩:=Option.isSome_iff_exists.1 h2
  exact ⟨_,h4,imp.oG (fun hx hy h3=>(va ho hx hy he hts h3.1 (by simp [List.getElem?_eq_getElem h3.2])).pure) hi hj h3⟩
 ·exact h.elim

theorem xj {t : TypeId} {x : Operand} {lo hi : Option Operand} {u : AV} (ho : o.op = .slice t x lo hi none) (hlo : ∀ y,lo = some y → y ∈ o.op.operands) (hhi : ∀ y,hi = some y → y ∈ o.op.operands) (hi' : imp gd (Is P W0 o A x u)) (h : qv P gd A t u lo hi K) : ∃ v,K v ∧ imp gd (cV P W0 o A v):=by
 unfold qv at h
 split at h
 ·obtain ⟨h1,h⟩:=h
  obtain ⟨p,h,hp⟩:=ca (P:=P) (W0:=W0) hlo h
  obtain ⟨q,h,hq⟩:=ca (P:=P) (W0:=W0) hhi h
  exact ⟨_,h.2,imp.oG (fun hx hpq hb=>(uV ho hx (cS h1) hpq.1 hpq.2 hb.1 hb.2).pure) hi' (imp.wZ And.intro hp hq) h.1⟩
 ·obtain ⟨⟨h1,h2⟩,h⟩:=h
  obtain ⟨p,h,hp⟩:=ca (P:=P) (W0:=W0) hlo h
  obtain ⟨q,h,hq⟩:=ca (P:=P) (W0:=W0) hhi h
  exact ⟨_,h.2,imp.oG (fun hx hpq hb=>(uq ho hx h1 h2 hpq.1 hpq.2 hb.1 hb.2).pure) hi' (imp.wZ And.intro hp hq) h.1⟩
 ·split at h
  ·rename_i e he
   obtain ⟨h1,h⟩:=h
   obtain ⟨p,h,hp⟩:=ca (P:=P) (W0:=W0) hlo h
   obtain ⟨q,h,hq⟩:=ca (P:=P) (W0:=W0) hhi h
   exact ⟨_,h.2,imp.oG (fun hx hpq hb=>by
    obtain ⟨rfl,rfl⟩:=hb
    exact (sP ho hx he h1 hpq.1 hpq.2).pure) hi' (imp.wZ And.intro hp hq) h.1⟩
  ·exact h.elim
 ·split at h
  ·rename_i e xs hl
   obtain ⟨⟨h1,h2⟩,h⟩:=h
   obtain ⟨p,h,hp⟩:=ca (P:=P) (W0:=W0) hlo h
   obtain ⟨q,h,hq⟩:=ca (P:=P) (W0:=W0) hhi h
   exact ⟨_,h.2,imp.oG (fun hx hpq hb=>(sQ ho hx hl h1 h2 hpq.1 hpq.2 hb.1 hb.2).pure) hi' (imp.wZ And.intro hp hq) h.1⟩
  ·exact h.elim

theorem sq {ts : List TypeId} {ps : List (Nat × AV)} (h : lI P ts ps = true) : rB P ts ps:=fun p hp=>by
 have:=List.all_eq_true.1 h p hp
 split at this
 ·rename_i ty hty
  exact ⟨ty,hty,eH this⟩
 ·cases this

theorem v7 {t : TypeId} {ps : Array (Nat × Operand)} {qs : List (Nat × AV)} (ho : o.op = .build t ps) (hi : imp gd (ja P W0 o A ps.toList qs)) (h : qg P t qs K) : ∃ v,K v ∧ imp gd (cV P W0 o A v):=by
 unfold qg at h
 split at h
 ·rename_i ts t' fs hts hz
  obtain ⟨⟨rfl,h2⟩,h3⟩:=h
  exact ⟨_,h3,hi.map fun hq=>(D2 ho hts hz hq (sq h2)).pure⟩
 ·exact h.elim

theorem pB {t : TypeId} {m : Nat} {ps : Array (Nat × Operand)} {qs : List (Nat × AV)} (ho : o.op = .buildSlice t m ps) (hi : imp gd (ja P W0 o A ps.toList qs)) (h : ic P t m qs K) : ∃ v,K v ∧ imp gd (cV P W0 o A v):=by
 unfold ic at h
 split at h
 ·rename_i e he
  obtain ⟨⟨h1,h2,h3,h4,h5⟩,h6⟩:=h
  exact ⟨_,h6,hi.map fun hq=>(sE ho he h1 h2 h3 hq h4 (fun p hp=>eH (List.all_eq_true.1 h5 p hp))).pure⟩
 ·exact h.elim

theorem gi {xs : Array Operand} {u : AV} (h : IsL P W0 o A xs.toList [u]) : ∃ x,xs = #[x] ∧ Is P W0 o A x u:=by
 obtain ⟨l⟩:=xs
 obtain ⟨h1,h2⟩:=h
 match l,h1 with
 | [x],_=>exact ⟨x,rfl,h2 0 x u rfl rfl⟩

theorem my {xs : Array Operand} {u v : AV} (h : IsL P W0 o A xs.toList [u,v]) : ∃ x y,xs = #[x,y] ∧ Is P W0 o A x u ∧ Is P W0 o A y v:=by
 obtain ⟨l⟩:=xs
 obtain ⟨h1,h2⟩:=h
 match l,h1 with
 | [x,y],_=>exact ⟨x,y,rfl,h2 0 x u rfl rfl,h2 1 y v rfl rfl⟩

theorem sC (hr : eh P W0 o w C A a) {b : Builtin} {xs : Array Operand} {ts : Array TypeId} {us : List AV} (ho : o.op = .call { callee:=.builtin b,args:=xs,argTypes:=ts })
  (hi : imp gd (IsL P W0 o A xs.toList us)) (h : lV P gd b ts.toList us K) : ∃ v,K v ∧ imp gd (cV P W0 o A v):=by
 unfold lV at h
 split at h
 ·split at h
  ·rename_i t hts
   obtain rfl : ts = #[t]:=by rw [← Array.toArray_toList (xs:=ts),hts]
   split at h
   ·rename_i l
    obtain ⟨h1,h2⟩:=h
    refine ⟨_,h2 (hi.map fun hq=>?_),hi.map fun hq=>?_⟩
    ·obtain ⟨x,rfl,hx⟩:=gi hq
     exact (hx w C a hr).eW.2
    ·obtain ⟨x,rfl,hx⟩:=gi hq
     exact (yw ho hx (cS h1)).pure
   ·split at h
    ·rename_i m hl
     obtain ⟨h1,h2⟩:=h
     refine ⟨_,h2 (hi.map fun hq=>?_),hi.map fun hq=>?_⟩
     ·obtain ⟨x,rfl,hx⟩:=gi hq
      exact L7 (hx w C a hr) hl
     ·obtain ⟨x,rfl,hx⟩:=gi hq
      exact (LQ ho hx hl h1).pure
    ·exact h.elim
  ·exact h.elim
 ·split at h
  ·rename_i t hts
   obtain rfl : ts = #[t]:=by rw [← Array.toArray_toList (xs:=ts),hts]
   split at h
   ·obtain ⟨h1,h2⟩:=h
    refine ⟨_,h2,hi.map fun hq=>?_⟩
    obtain ⟨x,rfl,hx⟩:=gi hq
    exact (wy ho hx h1).pure
   ·exact h.elim
  ·exact h.elim
 ·split at h
  ·obtain ⟨rfl,h⟩:=h
   refine ⟨_,h,hi.map fun hq=>?_⟩
   obtain ⟨x,y,rfl,hx,hy⟩:=my hq
   exact (KW ho hx hy).pure
  ·exact h.elim
 ·split at h
  ·obtain ⟨rfl,h⟩:=h
   refine ⟨_,h,hi.map fun hq=>?_⟩
   obtain ⟨x,y,rfl,hx,hy⟩:=my hq
   exact (Lf ho hx hy).pure
  ·exact h.elim
 ·exact h.elim

theorem IE {x : Operand} {xs : Array Operand} {ts : Array TypeId} {g : FuncId} {cv : List Value} {next : Act → World → Prop} {Q : Exit → Act → World → Prop} {R : Ending → World → Prop}
  (ho : o.op = .call { callee:=.value x,args:=xs,argTypes:=ts })
  (e1 : a.eval x = .func (.func g) #[] cv.toArray) (hc : BL P g (xs.toList.map a.eval ++ cv).toArray w R) (hR : ∀ e w',R e w' → ∃ v,e = .returned v ∧ next (a.put o.dst v) w') : o.wp P a w next Q:=by
 have hargs : (Array.map a.eval xs) ++ cv.toArray = (xs.toList.map a.eval ++ cv).toArray:=by
  apply Array.toList_inj.1
  simp
 rcases hc with ⟨⟨fn,h1,h2,h3⟩,hc⟩ | ⟨v,w',hc,hq⟩
 case inr =>
  have hrun : (execOp a.eval o).run P w = .ok (.value v) w':=by
   simp only [execOp,ho,resolve,e1,Deferred.ofValue,invoke,Sem.run_bind,Sem.run_pure,Result.andThen_ok,Array.empty_append]
   rw [hargs]
   exact hc
  obtain ⟨v',e,hn⟩:=hR _ _ hq
  cases e
  unfold Oper.wp
  rw [hrun]
  exact hn
 have hrun : (execOp a.eval o).run P w = .ok (.enter g (xs.toList.map a.eval ++ cv).toArray) w:=by
  have hb : fn.body.isNone = false:=by cases hb : fn.body <;> simp_all
  have hp : (program).run P w = .ok P w:=rfl
  simp only [execOp,ho,resolve,e1,Deferred.ofValue,invoke,callFunc,Sem.run_bind,Sem.run_pure,Result.andThen_ok,hp,h1,h3,hb,Bool.false_eq_true,if_false,Array.empty_append]
  rw [hargs]
 unfold Oper.wp
 rw [hrun,Oper.upon_enter]
 refine hc.mono fun e w' hw=>?_
 obtain ⟨v,rfl,hn⟩:=hR e w' hw
 exact hn

theorem Li {g : FuncId} {caps : List AV} {v : Value} (h : az P w C (.fn g caps) v) : ∃ cv : List Value,v = .func (.func g) #[] cv.toArray ∧ caps.length = cv.length ∧ ∀ (i : Nat) (c : AV) (v : Value),caps[i]? = some c → cv[i]? = some v → az P w C c v:=by
 have:=h.aA rfl
 cases this with
 | fn g1 g2 g3=>exact ⟨_,rfl,g1,fun i c v hc hv=>.one (g2 i c hc) (g3 i c v hc hv)⟩

theorem yq (hr : eh P W0 o w C A a) {x : Operand} {xs : Array Operand} {ts : Array TypeId} {g : FuncId} {caps us : List AV} {R : AV → ab → Prop} (ho : o.op = .call { callee:=.value x,args:=xs,argTypes:=ts })
  (hx : Is P W0 o A x (.fn g caps)) (hu : IsL P W0 o A xs.toList us) (hc : aU P W0 g (us ++ caps) A.st R) {next : Act → World → Prop} {Q : Exit → Act → World → Prop}
  (hn : ∀ v r σ' w' C',R r σ' → aw P W0 w' C' σ' → az P w' C' r v → Step w C w' C' → next (a.put o.dst v) w') : o.wp P a w next Q:=by
 obtain ⟨cv,e1,e2,e3⟩:=Li (hx w C a hr)
 have hl : (us ++ caps).length = (xs.toList.map a.eval ++ cv).length:=by simp [← hu.1,e2]
 refine IE ho e1 (hc w C _ hr.st hl (fun i c v hc' hv=>?_)) (fun e w' he=>?_)
 ·by_cases hi : i < us.length
  ·rw [List.getElem?_append_left hi] at hc'
   rw [List.getElem?_append_left (by simpa [hu.1] using hi)] at hv
   simp only [List.getElem?_map,Option.map_eq_some_iff] at hv
   obtain ⟨y,hy,rfl⟩:=hv
   exact hu.2 i y c hy hc' w C a hr
  ·rw [List.getElem?_append_right (by omega)] at hc'
   rw [List.getElem?_append_right (by simp only [List.length_map]; rw [hu.1]; omega)] at hv
   simp only [List.length_map,hu.1] at hv
   exact e3 _ c v hc' hv
 ·obtain ⟨v,r,σ',C',rfl,g1,g2,g3,g4⟩:=he
  exact ⟨v,rfl,hn v r σ' w' C' g1 g2 g3 g4⟩

theorem zH {x : Operand} {xs : Array Operand} {ts : Array TypeId} {f : AV} {us : List AV} (ho : o.op = .call { callee:=.value x,args:=xs,argTypes:=ts })
  (hx : imp gd (Is P W0 o A x f)) (hu : imp gd (IsL P W0 o A xs.toList us)) (h : iE P W0 gd (some A.st) f us K) : ∃ v,K v ∧ imp gd (cV P W0 o A v):=by
 unfold iE at h
 split at h
 ·obtain ⟨r,h1,h2⟩:=h
  refine ⟨r,h2,imp.oG (fun hx hu h1 w C a hr next Q hn=>yq hr ho hx hu h1 fun v r' σ' w' C' hR g2 g3 g4=>?_) hx hu h1⟩
  obtain ⟨rfl,rfl⟩:=hR
  have hC:=E5 hr.st g2 g4
  subst hC
  exact hn v w' g3 g4 g2
 ·exact h.elim

theorem fj (hr : eh P W0 o w C A a) (h : iC P W0 gd o.op A K) : ∃ v,K v ∧ imp gd (cV P W0 o A v):=by
 generalize ho : o.op = op at h
 cases op <;> simp only [iC] at h
 case move x=>exact se (.inl ho) (by simp [ho,Op.operands]) h
 case assign x=>exact se (.inr ho) (by simp [ho,Op.operands]) h
 case pick c x y =>
  obtain ⟨cv,h,hc⟩:=aP (P:=P) (W0:=W0) (o:=o) (by simp [ho,Op.operands]) h
  split at h
  ·obtain ⟨u,h,hu⟩:=oa (P:=P) (W0:=W0) (o:=o) (by simp [ho,Op.operands]) h
   obtain ⟨v,h,hv⟩:=oa (P:=P) (W0:=W0) (o:=o) (by simp [ho,Op.operands]) h
   exact ⟨_,h,imp.oG (fun hc hu hv=>(HB ho hc hu (fun e=>hv (by simp [e]))).pure) hc hu hv⟩
  ·exact h.elim
 case binOp op t x y t' =>
  obtain ⟨u,h,hu⟩:=aP (P:=P) (W0:=W0) (o:=o) (by simp [ho,Op.operands]) h
  obtain ⟨v,h,hv⟩:=aP (P:=P) (W0:=W0) (o:=o) (by simp [ho,Op.operands]) h
  unfold Ey at h
  split at h
  ·rename_i z hz
   exact ⟨z,h,imp.wZ (fun hu hv=>(Dh ho hu hv hz).pure) hu hv⟩
  ·exact h.elim
 case unOp op t x =>
  obtain ⟨u,h,hu⟩:=aP (P:=P) (W0:=W0) (o:=o) (by simp [ho,Op.operands]) h
  unfold QI at h
  split at h
  ·exact ⟨_,h,hu.map fun hu=>(Lt ho hu).pure⟩
  ·exact ⟨_,h,hu.map fun hu=>(Kt ho hu).pure⟩
  ·exact h.elim
 case load t x =>
  obtain ⟨u,h,hu⟩:=aP (P:=P) (W0:=W0) (o:=o) (by simp [ho,Op.operands]) h
  exact yO ho hu h
 case fieldAddr s x k =>
  obtain ⟨u,h,hu⟩:=aP (P:=P) (W0:=W0) (o:=o) (by simp [ho,Op.operands]) h
  exact xh ho hu h
 case indexAddr t x ix =>
  obtain ⟨u,h,hu⟩:=aP (P:=P) (W0:=W0) (o:=o) (by simp [ho,Op.operands]) h
  obtain ⟨v,h,hv⟩:=aP (P:=P) (W0:=W0) (o:=o) (by simp [ho,Op.operands]) h
  exact qe ho hu hv h
 case index t x ix =>
  obtain ⟨u,h,hu⟩:=aP (P:=P) (W0:=W0) (o:=o) (by simp [ho,Op.operands]) h
  obtain ⟨v,h,hv⟩:=aP (P:=P) (W0:=W0) (o:=o) (by simp [ho,Op.operands]) h
  exact yp ho hu hv h
 case field s x k =>
  obtain ⟨u,h1,hu⟩:=aP (P:=P) (W0:=W0) (o:=o) (by simp [ho,Op.operands]) h
  unfold Mp at h1
  split at h1
  ·split at h1
   ·rename_i ts hts
    split at h1
    ·rename_i ty y hty hy
     obtain ⟨⟨rfl,hst⟩,h2⟩:=h1
     exact ⟨_,h2,hu.map fun hx=>(Co ho hx hst hts hy hty).pure⟩
    ·exact h1.elim
   ·exact h1.elim
  ·exact h1.elim
 case extract x k =>
  obtain ⟨u,h,hu⟩:=aP (P:=P) (W0:=W0) (o:=o) (by simp [ho,Op.operands]) h
  unfold oI at h
  split at h
  ·split at h
   ·rename_i v hv
    exact ⟨v,h,hu.map fun hu=>(yN ho hu hv).pure⟩
   ·exact h.elim
  ·exact h.elim
 case nilCheck x =>
  obtain ⟨u,h,hu⟩:=aP (P:=P) (W0:=W0) (o:=o) (by simp [ho,Op.operands]) h
  exact ⟨u,h.2,hu.map fun hu=>(xX ho hu h.1).pure⟩
 case makeInterface t x =>
  obtain ⟨u,h,hu⟩:=aP (P:=P) (W0:=W0) (o:=o) (by simp [ho,Op.operands]) h
  exact ⟨_,h.2,hu.map fun hu=>(oC ho hu h.1.1 h.1.2).pure⟩
 case typeAssert x xt d ok =>
  obtain ⟨u,h,hu⟩:=aP (P:=P) (W0:=W0) (o:=o) (by simp [ho,Op.operands]) h
  exact ⟨_,h.2,hu.map fun hu=>(sH ho hu h.1).pure⟩
 case convert s d x =>
  obtain ⟨u,h,hu⟩:=aP (P:=P) (W0:=W0) (o:=o) (by simp [ho,Op.operands]) h
  unfold lF at h
  split at h
  ·split at h
   ·rename_i k1 k2 hs hd
    exact ⟨_,h,hu.map fun hu=>(zb ho hu (by simp [iS hs]) (iS hd)).pure⟩
   ·rename_i k1 hs hd
    exact ⟨_,h.2,hu.map fun hu=>(p5 ho hu (by simp [iS hs]) (cS h.1)).pure⟩
   ·exact h.elim
  ·exact ⟨_,h.2,hu.map fun hu=>(qc ho hu (cS h.1.1) (cS h.1.2)).pure⟩
  ·split at h
   ·rename_i e xs hl
    obtain ⟨⟨g1,g2,g3,g4,g5⟩,h⟩:=h
    rw [rU g5] at hl
    exact ⟨_,h,hu.map fun hu=>(oP ho hu hl (bF g1) (iS g2) g3 (cS g4)).pure⟩
   ·exact h.elim
 case makeFunc fn first caps =>
  split at h
  ·rename_i f
   obtain ⟨h1,h⟩:=h
   obtain rfl : first = #[]:=by rw [← Array.toArray_toList (xs:=first),h1]
   obtain ⟨us,h,hu⟩:=fQ (P:=P) (W0:=W0) (o:=o) _ _ (fun y hy=>by simp [ho,Op.operands]; simp at hy; simp [hy]) h
   exact ⟨_,h.2,hu.map fun hu=>(yg ho hu h.1).pure⟩
  ·exact h.elim
 case slice t x lo hi mx =>
  obtain ⟨rfl,h⟩:=h
  obtain ⟨u,h,hu⟩:=aP (P:=P) (W0:=W0) (o:=o) (by simp [ho,Op.operands]) h
  exact xj ho (fun y hy=>by simp [ho,Op.operands,hy]) (fun y hy=>by simp [ho,Op.operands,hy]) hu h
 case lookup t x ix c =>
  cases c
  case true=>exact h.elim
  obtain ⟨u,h,hu⟩:=aP (P:=P) (W0:=W0) (o:=o) (by simp [ho,Op.operands]) h
  obtain ⟨v,h,hv⟩:=aP (P:=P) (W0:=W0) (o:=o) (by simp [ho,Op.operands]) h
  unfold yB at h
  split at h
  ·rename_i kt vt ht
   obtain ⟨h1,h2,h3,h4⟩:=h
   split at h4
   ·rename_i l hl
    exact ⟨_,h4,imp.oG (fun hu hv h3=>(CE ho hu hv ht h1 h2 h3 hl).pure) hu hv h3⟩
   ·exact h4.elim
  ·exact h.elim
 case box t x =>
  obtain ⟨u,h,hu⟩:=aP (P:=P) (W0:=W0) (o:=o) (by simp [ho,Op.operands]) h
  exact ⟨_,h.2,hu.map fun hu=>(Ee ho hu (eH h.1)).pure⟩
 case build t ps =>
  obtain ⟨qs,h,hq⟩:=gj (P:=P) (W0:=W0) (o:=o) _ _ (fun p hp=>by simp only [ho,Op.operands]; exact List.mem_toArray.2 (List.mem_map_of_mem hp)) h
  exact v7 ho hq h
 case buildSlice t m ps =>
  obtain ⟨qs,h,hq⟩:=gj (P:=P) (W0:=W0) (o:=o) _ _ (fun p hp=>by simp only [ho,Op.operands]; exact List.mem_toArray.2 (List.mem_map_of_mem hp)) h
  exact pB ho hq h
 case call c =>
  obtain ⟨callee,args,argTypes⟩:=c
  cases callee with
  | builtin b =>
   obtain ⟨us,h,hu⟩:=fQ (P:=P) (W0:=W0) (o:=o) _ _ (fun y hy=>by simp [ho,Op.operands,Call.operands]; simp at hy; simp [hy]) h
   exact sC hr ho hu h
  | value f =>
   obtain ⟨fv,h,hf⟩:=aP (P:=P) (W0:=W0) (o:=o) (by simp [ho,Op.operands,Call.operands]) h
   obtain ⟨us,h,hu⟩:=fQ (P:=P) (W0:=W0) (o:=o) _ _ (fun y hy=>by simp [ho,Op.operands,Call.operands]; simp at hy; simp [hy]) h
   exact zH ho hf hu h
  | invoke r m=>exact h.elim

end
end Go.Av
end
section
namespace Go.Av
open Go

def Ctx.push (C : Ctx) (ow : Own) : Ctx:={ m:=fun i=>if i = C.nx then some ow else C.m i,nx:=C.nx + 1 }
def Ctx.kill (C : Ctx) (id : Nat) : Ctx:={ m:=fun i=>if i = id then none else C.m i,nx:=C.nx }

theorem py (C : Ctx) (ow : Own) (i : Nat) : (C.push ow).m i = if i = C.nx then some ow else C.m i:=rfl
theorem mM (C : Ctx) (id i : Nat) : (C.kill id).m i = if i = id then none else C.m i:=rfl
theorem lT (C : Ctx) (id : Nat) : (C.kill id).nx = C.nx:=rfl

def AV.setAt : AV → List Nat → AV → AV
 | _,[],v=>v
 | .agg t fs,k :: r,v=>match fs[k]? with
  | some y=>.agg t (fs.set k (y.setAt r v))
  | none=>.agg t fs
 | x,_ :: _,_=>x

section
variable {P : Program} {W0 w w' : World} {C C' : Ctx} {σ σ' : ab} {n : Nat} {A : aa} {a : Act} {o : Oper}

theorem o7 (σ : ab) (o : Option cM) (i : Nat) : ((σ ++ [o])[i]?).join = if i = σ.length then o else (σ[i]?).join:=by
 by_cases h : i < σ.length
 ·rw [List.getElem?_append_left h,if_neg (by omega)]
 ·rw [List.getElem?_append_right (by omega)]
  by_cases h' : i = σ.length
  ·subst h'; simp
  ·rw [if_neg h',List.getElem?_eq_none (by simp; omega),List.getElem?_eq_none (by omega)]

theorem im (σ : ab) (o : Option cM) (id i : Nat) (h : id < σ.length) : ((σ.set id o)[i]?).join = if i = id then o else (σ[i]?).join:=by
 by_cases h' : i = id
 ·subst h'; simp [h]
 ·rw [List.getElem?_set_ne (Ne.symm h'),if_neg h']

theorem lP (ob : Obj) {ow : Own} (hb : ow.blk = w.heap.size) : Step w C (w.alloc ob) (C.push ow):=by
 refine ⟨Nat.le_succ _,fun id x hid hm=>?_,fun b i hst=>⟨World.cell?_alloc_lt w ob ⟨b,i,none⟩ hst.1,by simp [Nat.lt_succ_of_lt hst.1],fun id x hm he=>?_⟩,rfl,rfl,rfl,by simp,fun b hlt hn=>⟨RowKit.Below.heap_alloc w ob b hlt,fun id x hm=>?_⟩⟩
 ·simp only [Ctx.push] at hm
  rw [if_neg (by omega)] at hm
  exact hm
 ·simp only [Ctx.push] at hm
  split at hm
  ·cases hm; rw [hb] at he; have:=hst.1; omega
  ·exact hst.2 id x hm he
 ·simp only [Ctx.push] at hm
  split at hm
  ·cases hm; rw [hb]; omega
  ·exact hn id x hm

theorem aw.push (h : aw P W0 w C σ) {ob : Obj} {ow : Own} {so : cM} (hb : ow.blk = w.heap.size) (hobj : fM P (w.alloc ob) (C.push ow) (some so) (some ow)) :
  Step w C (w.alloc ob) (C.push ow) ∧ aw P W0 (w.alloc ob) (C.push ow) (σ ++ [some so]):=by
 have hs : Step w C (w.alloc ob) (C.push ow):=lP ob hb
 refine ⟨hs,h.change hs (fun i x hm=>?_) (by simp [Ctx.push,h.nx]) (fun i j x y hi hj he=>?_) (fun i x hm=>?_) (fun i=>?_)⟩
 ·simp only [Ctx.push] at hm
  split at hm
  ·cases hm; rw [hb]; exact h.base.size
  ·exact h.low i x hm
 ·simp only [Ctx.push] at hi hj
  split at hi
  ·split at hj
   ·omega
   ·cases hi; have:=h.lt hj; omega
  ·split at hj
   ·cases hj; have:=h.lt hi; omega
   ·exact h.inj i j x y hi hj he
 ·simp only [Ctx.push] at hm ⊢
  split at hm
  ·omega
  ·have:=h.dom i x hm; omega
 ·rw [o7]
  simp only [Ctx.push]
  by_cases hi : i = σ.length
  ·left
   rw [if_pos hi,if_pos (by rw [h.nx]; exact hi)]
   exact hobj
  ·right
   rw [if_neg hi,if_neg (by rw [h.nx]; exact hi)]
   exact ⟨rfl,rfl,fun x hx=>RowKit.Below.heap_alloc w ob _ (h.lt hx)⟩

theorem aw.kill (h : aw P W0 w C σ) (id : Nat) (hid : id < σ.length) : Step w C w (C.kill id) ∧ aw P W0 w (C.kill id) (σ.set id none):=by
 have hsub : ∀ i x,(C.kill id).m i = some x → C.m i = some x:=fun i x hm=>by
  simp only [Ctx.kill] at hm
  split at hm
  ·cases hm
  ·exact hm
 have hs : Step w C w (C.kill id) :=
  ⟨Nat.le_refl _,fun i x _ hm=>hsub i x hm,fun b i hst=>⟨rfl,hst.1,fun j x hm he=>hst.2 j x (hsub j x hm) he⟩,rfl,rfl,rfl,Nat.le_refl _,fun b _ hn=>⟨rfl,fun j x hm=>hn j x (hsub j x hm)⟩⟩
 refine ⟨hs,h.change hs (fun i x hm=>h.low i x (hsub i x hm)) (by simp [Ctx.kill,h.nx]) (fun i j x y hi hj he=>h.inj i j x y (hsub i x hi) (hsub j y hj) he) (fun i x hm=>h.dom i x (hsub i x hm)) (fun i=>?_)⟩
 rw [im _ _ _ _ hid]
 by_cases hi : i = id
 ·left; subst hi; simp [Ctx.kill,fM]
 ·right
  rw [if_neg hi]
  exact ⟨rfl,by simp [Ctx.kill,hi],fun _ _=>rfl⟩

theorem pO {id b base room : Nat} {te : TypeId} (hm : C.m id = some (.obj b te base room)) (arr : Array Value) : Step w C (w.setRow b arr) C:=by
 refine ⟨Nat.le_refl _,fun _ _ _ hm=>hm,fun b' i hst=>?_,rfl,rfl,rfl,by simp,fun b' hlt hn=>⟨setRow_other w b b' arr (fun e=>hn id _ hm (by simp [Own.blk,e])),hn⟩⟩
 have hne : b' ≠ b:=fun e=>by
  obtain ⟨_,_,_,e1,_⟩:=hst.2 id _ hm (by simp [Own.blk,e])
  cases e1
 exact ⟨cell_setRow_other w b arr ⟨b',i,none⟩ hne,by simpa using hst.1,hst.2⟩

theorem zP (arr : Array Value) (off : Nat) (c : List Value) (h : c.length = arr.size) (h0 : off = 0) : ba arr off c = c.toArray:=by
 subst h0
 simp only [ba,List.take_zero,List.nil_append,Nat.zero_add]
 rw [List.drop_of_length_le (by simp [h])]
 simp

theorem BX {arr : Array Value} {o1 o2 : Nat} {c1 c : List Value} (h1 : o1 + c1.length ≤ arr.size) (h2 : o2 + c.length ≤ c1.length) (hat : ∀ (j : Nat) (u : Value),c1[j]? = some u → arr[o1 + j]? = some u) :
  ba arr o1 (ba c1.toArray o2 c).toList = ba arr (o1 + o2) c:=by
 have hsz:=cO (arr:=c1.toArray) (off:=o2) (l:=c) (by simpa using h2)
 have hl : (ba c1.toArray o2 c).toList.length = c1.length:=by simpa using hsz
 apply Array.ext_getElem?
 intro p
 rw [bg (by rw [hl]; exact h1),bg (by omega),hl]
 by_cases g1 : o1 ≤ p ∧ p < o1 + c1.length
 ·rw [if_pos g1,Array.getElem?_toList,bg (by simpa using h2)]
  by_cases g2 : o2 ≤ p - o1 ∧ p - o1 < o2 + c.length
  ·rw [if_pos g2,if_pos (by omega),show p - o1 - o2 = p - (o1 + o2) by omega]
  ·rw [if_neg g2,if_neg (by omega)]
   have hlt : p - o1 < c1.length:=by omega
   have:=hat (p - o1) _ (List.getElem?_eq_getElem hlt)
   rw [show o1 + (p - o1) = p by omega] at this
   rw [this,List.getElem?_toArray,List.getElem?_eq_getElem hlt]
 ·rw [if_neg g1,if_neg (by omega)]

theorem oV : ∀ (path : List Nat) (te t : TypeId) (off : Nat) (x v y : AV) (cs c : List Value),Rel P w C x cs → fits P te x → place P te path = some (t,off) → x.at path = some y → Rel P w C v c → fits P t v →
  off + c.length ≤ cs.length ∧ Rel P w C (x.setAt path v) (ba cs.toArray off c).toList ∧ fits P te (x.setAt path v)
 | [],te,t,off,x,v,y,cs,c,hr,hf,hp,hx,hv,hfv=>by
  simp only [place,Option.some.injEq,Prod.mk.injEq] at hp
  obtain ⟨rfl,rfl⟩:=hp
  have hl : c.length = cs.length:=by rw [hv.bk hfv,hr.bk hf]
  have e : x.setAt [] v = v:=by cases x <;> rfl
  rw [e,zP _ _ _ (by simpa using hl) rfl]
  exact ⟨by omega,by simpa using hv,hfv⟩
 | k :: r,te,t,off,x,v,y,cs,c,hr,hf,hp,hx,hv,hfv=>by
  cases x with
  | agg t' fs =>
   simp only [AV.at] at hx
   obtain ⟨z,hz,hzv⟩:=Option.bind_eq_some_iff.1 hx
   obtain ⟨rfl,hfs⟩:=hf
   simp only [place] at hp
   obtain ⟨ts,hts,hp⟩:=Option.bind_eq_some_iff.1 hp
   obtain ⟨ty,hty,hp'⟩:=Option.bind_eq_some_iff.1 hp
   simp only [Option.map_eq_some_iff,Prod.mk.injEq,Prod.exists] at hp'
   obtain ⟨t1,o1,hpl,rfl,rfl⟩:=hp'
   obtain ⟨c1,r1,r2,r3,r4⟩:=hr.part hts hz hty
   obtain ⟨g1,g2,g3⟩:=oV r ty t1 o1 z v y c1 c r1 r3 hpl hzv hv hfv
   have hlen2 : (ba c1.toArray o1 c).toList.length = c1.length:=by
    have:=cO (arr:=c1.toArray) (off:=o1) (l:=c) (by simpa using g1)
    simpa using this
   obtain ⟨s1,s2⟩:=(hr.parts hts).set hty g2 g3
   rw [hlen2] at s1
   have hin:=BX (arr:=cs.toArray) (o1:=aT P ts k) (o2:=o1) (c1:=c1) (c:=c) (by simpa using s1) g1 (fun j u hj=>by simpa using r4 j u hj)
   rw [hin] at s2
   have hset : (AV.agg t' fs).setAt (k :: r) v = .agg t' (fs.set k (z.setAt r v)):=by simp [AV.setAt,hz]
   rw [hset]
   exact ⟨by omega,s2.rel hts,rfl,hfs⟩
  | _=>simp [AV.at] at hx

theorem dK (P : Program) (g o : Nat) (t : TypeId) (fz : Nat × Nat) : ∀ (vs : List Value) (i : Nat) (cur : Array Value) (w : World),w.heap[g]? = some (.cells cur t fz) → qd fz cur.size → o + i + vs.length ≤ cur.size → (∀ v ∈ vs,v.oneCell' = true) →
  (storeCells ⟨g,o,none⟩ vs i).run P w = .ok () (w.setRow g (cur.toList.take (o + i) ++ vs ++ cur.toList.drop (o + i + vs.length)).toArray)
 | [],i,cur,w,hg,_,_,_=>by
  simp only [storeCells,List.append_nil,List.length_nil,Nat.add_zero,List.take_append_drop,Array.toArray_toList]
  rw [setRow_self w g cur t fz hg]
  rfl
 | v :: rest,i,cur,w,hg,hfz,hl,h1=>by
  have hi : o + i < cur.size:=by simp at hl; omega
  have hadd : (⟨g,o,none⟩ : Addr).add i = ⟨g,o + i,none⟩:=by unfold Addr.add; split <;> simp_all
  have hcell : w.cell? ⟨g,o + i,none⟩ = some cur[o + i]:=by simp [World.cell?,hg,hi]
  have hfro : w.frozen? ⟨g,o + i,none⟩ = false:=by
   obtain ⟨lo,hi'⟩:=fz
   simp only [World.frozen?,hg,Bool.and_eq_false_iff,decide_eq_false_iff_not]
   rcases hfz with e | e
   ·cases e; right; omega
   ·left; simp only at e; omega
  have hst : (store ((⟨g,o,none⟩ : Addr).add i) v).run P w = .ok () (w.setRow g (cur.setIfInBounds (o + i) v)):=by
   rw [hadd,run_store P w _ v _ (h1 v (by simp)),hcell]
   simp [hfro,setCell_eq_setRow w g (o + i) cur t fz v hg]
  have ih:=dK P g o t fz rest (i + 1) (cur.setIfInBounds (o + i) v) (w.setRow g (cur.setIfInBounds (o + i) v)) (setRow_heap w g cur _ t _ hg) (by simpa using hfz) (by simp at hl ⊢; omega) (fun x hx=>h1 x (by simp [hx]))
  simp only [storeCells,Sem.run_bind,hst,Result.andThen_ok,ih,setRow_setRow]
  congr 3
  have e:=list_seg_step cur.toList (o + i) v rest (by simp at hl ⊢; omega)
  simpa [Array.toList_setIfInBounds,Nat.add_assoc] using e

theorem ph (hr : eh P W0 o w C A a) {t : TypeId} {x y : Operand} {id i : Nat} {path : List Nat} {u v : AV} (ho : o.op = .store t x y) (hx : Is P W0 o A x (.ptr t id i path)) (hy : Is P W0 o A y v)
  (hl : look A.st id i path = some u) (hf : fits P t v) {te : TypeId} {xs : List AV} {z : AV} (hs : A.st[id]? = some (some (.cells te xs))) (hz : xs[i]? = some z) :
  ∃ w',(execOp a.eval o).run P w = .ok .skip w' ∧ Step w C w' C ∧ aw P W0 w' C (A.st.set id (some (.cells te (xs.set i (z.setAt path v))))):=by
 obtain ⟨ad,hv,hid,hm⟩:=(hx w C a hr).l5
 obtain ⟨te',xs',z',hs',hz',hzv⟩:=nE hl
 rw [hs] at hs'
 cases hs'
 rw [hz] at hz'
 cases hz'
 obtain ⟨b,base,room,arr,t',fr,m1,m2,mf,m3,m4,cf,m5⟩:=hr.st.cells hs
 obtain ⟨b',te',base',room',off,e1,e2,rfl⟩:=hm _ m1
 cases e1
 obtain ⟨r1,r2,r3,r4⟩:=m5 i z hz
 have hyv:=hy w C a hr
 have hc:=hyv.cells hf
 obtain ⟨g1,g2,g3⟩:=oV path te t off z v u (cf i) _ r1 r3 e2 hzv hc hf
 have hi : i < xs.length:=(List.getElem?_eq_some_iff.1 hz).1
 have hcl : (a.eval y).cells.size = ae P t:=by have:=hc.bk hf; simpa using this
 have hend : base + i * ae P te + ae P te ≤ arr.size:=by
  rw [m3,Nat.add_assoc,← Nat.succ_mul]
  exact Nat.le_trans (Nat.add_le_add_left (Nat.mul_le_mul_right _ hi) _) m4
 have hoff : off + (a.eval y).cells.toList.length ≤ ae P te:=by rw [← r2]; exact g1
 have hfit : base + i * ae P te + off + 0 + (a.eval y).cells.toList.length ≤ arr.size:=by omega
 have hst:=dK P b (base + i * ae P te + off) t' fr (a.eval y).cells.toList 0 arr w m2 mf hfit hc.km
 simp only [Nat.add_zero] at hst hfit
 have hpos : 0 < ae P t:=by
  cases v <;> simp only [fits,AV.aS,Bool.false_eq_true,false_and] at hf
  case agg t1 fs =>
   obtain ⟨ts,hts⟩:=Option.isSome_iff_exists.1 hf.2
   exact kT hts
  all_goals rw [(gp hf.2 default).2]; omega
 obtain ⟨inf,hinf,hsz⟩:=bh hpos
 have hstep:=pO (w:=w) m1 (ba arr (base + i * ae P te + off) (a.eval y).cells.toList)
 refine ⟨_,?_,hstep,?_⟩
 ·have e : ba arr (base + i * ae P te + off) (a.eval y).cells.toList = (arr.toList.take (base + i * ae P te + off) ++ (a.eval y).cells.toList ++ arr.toList.drop (base + i * ae P te + off + (a.eval y).cells.toList.length)).toArray:=rfl
  rw [e]
  simp [execOp,ho,Instr.storeAt,Instr.sureAddr,hv,storeVar,sizeOf,typeInfo,hinf,hsz,hcl,hst]
 ·have hidl : id < A.st.length:=(List.getElem?_eq_some_iff.1 hs).1
  refine hr.st.change hstep hr.st.low (by simpa using hr.st.nx) hr.st.inj hr.st.dom (fun j=>?_)
  rw [im _ _ _ _ hidl]
  by_cases hj : j = id
  ·left
   subst hj
   rw [if_pos rfl,m1]
   have hsize : (ba arr (base + i * ae P te + off) (a.eval y).cells.toList).size = arr.size:=cO hfit
   refine ⟨rfl,_,t',fr,setRow_heap w b arr _ t' _ m2,by rw [hsize]; exact mf,by rw [hsize,m3],by simpa using m4,fun q=>if q = i then (ba (cf i).toArray off (a.eval y).cells.toList).toList else cf q,fun q zq hq=>?_⟩
   by_cases hqi : q = i
   ·subst hqi
    simp only [List.getElem?_set_self hi,Option.some.injEq] at hq
    subst hq
    simp only [if_true]
    have hl2 : (ba (cf q).toArray off (a.eval y).cells.toList).toList.length = ae P te:=(g2.mono hstep).bk g3
    refine ⟨g2.mono hstep,hl2,g3,fun j c hj=>?_⟩
    have hjl : j < ae P te:=by rw [← hl2]; exact (List.getElem?_eq_some_iff.1 hj).1
    rw [Array.getElem?_toList,bg (by simpa using g1)] at hj
    rw [bg hfit]
    by_cases hin : off ≤ j ∧ j < off + (a.eval y).cells.toList.length
    ·rw [if_pos hin] at hj
     rw [if_pos (by omega),show base + q * ae P te + j - (base + q * ae P te + off) = j - off by omega]
     exact hj
    ·rw [if_neg hin] at hj
     rw [if_neg (by omega)]
     exact r4 j c (by simpa using hj)
   ·rw [List.getElem?_set_ne (Ne.symm hqi)] at hq
    simp only [hqi,if_false]
    obtain ⟨q1,q2,q3,q4⟩:=m5 q zq hq
    refine ⟨q1.mono hstep,q2,q3,fun j c hj=>?_⟩
    have hjl : j < ae P te:=by rw [← q2]; exact (List.getElem?_eq_some_iff.1 hj).1
    rw [bg hfit,if_neg ?_]
    ·exact q4 j c hj
    ·rintro ⟨b1,b2⟩
     rcases Nat.lt_or_gt_of_ne hqi with hlt | hgt
     ·have : (q + 1) * ae P te ≤ i * ae P te:=Nat.mul_le_mul_right _ hlt
      rw [Nat.succ_mul] at this
      omega
     ·have : (i + 1) * ae P te ≤ q * ae P te:=Nat.mul_le_mul_right _ hgt
      rw [Nat.succ_mul] at this
      omega
  ·right
   rw [if_neg hj]
   refine ⟨rfl,rfl,fun x hx=>setRow_other w b x.blk _ (fun e=>hj (hr.st.inj j id x _ hx m1 (by simpa [Own.blk] using e)))⟩

end
end Go.Av
end
section
namespace Go.Av
open Go

section
variable {P : Program} {W0 w w' : World} {C C' : Ctx} {σ σ' : ab} {n : Nat} {A : aa} {a : Act} {o : Oper}

theorem GF (hr : eh P W0 o w C A a) {t : TypeId} {x : Operand} {v : AV} (ho : o.op = .box t x) (hx : Is P W0 o A x v) (hf : fits P t v) :
  ∃ y w' C',(execOp a.eval o).run P w = .ok (.value y) w' ∧ az P w' C' (.ptr t A.st.length 0 []) y ∧ Step w C w' C' ∧ aw P W0 w' C' (A.st ++ [some (.cells t [v])]):=by
 have hc:=(hx w C a hr).cells hf
 have hcl : (a.eval x).cells.size = ae P t:=by have:=hc.bk hf; simpa using this
 obtain ⟨h1,h2⟩:=hr.st.push (ob:=.cells (a.eval x).cells t) (ow:=.obj w.heap.size t 0 (a.eval x).cells.size) (so:=.cells t [v]) rfl
  ⟨rfl,(a.eval x).cells,t,(0,0),heap_alloc_new w _,.inl rfl,rfl,by simp [hcl],fun _=>(a.eval x).cells.toList,fun i z hz=>by
   cases i with
   | zero =>
    simp at hz; subst hz
    refine ⟨?_,by simpa using hcl,hf,fun j c hj=>by simpa using hj⟩
    exact hc.mono (lP _ rfl)
   | succ i=>simp at hz⟩
 refine ⟨.pointer (some ⟨w.heap.size,0,none⟩),_,_,?_,?_,h1,h2⟩
 ·simp only [execOp,ho,Instr.box,newVar,newRow,newObj,Sem.run_bind,Sem.run_pure]
  rfl
 ·refine .one rfl (.ptr (by simp [Ctx.push,hr.st.nx]) (fun ow how=>?_))
  simp only [Ctx.push,hr.st.nx,if_true,Option.some.injEq] at how
  subst how
  exact ⟨_,t,0,_,0,rfl,rfl,by simp⟩

theorem B0 (hr : eh P W0 o w C A a) {t : TypeId} {v : AV} (ho : o.op = .alloc t) (hz : zeroOf P t = some v) :
  ∃ y w' C',(execOp a.eval o).run P w = .ok (.value y) w' ∧ az P w' C' (.ptr t A.st.length 0 []) y ∧ Step w C w' C' ∧ aw P W0 w' C' (A.st ++ [some (.cells t [v])]):=by
 obtain ⟨inf,z,hi,hiz,hc,hf⟩:=iz (w:=w) (C:=C) hz
 have hcl : z.cells.size = ae P t:=by have:=hc.bk hf; simpa using this
 obtain ⟨h1,h2⟩:=hr.st.push (ob:=.cells z.cells t) (ow:=.obj w.heap.size t 0 z.cells.size) (so:=.cells t [v]) rfl
  ⟨rfl,z.cells,t,(0,0),heap_alloc_new w _,.inl rfl,rfl,by simp [hcl],fun _=>z.cells.toList,fun i y hy=>by
   cases i with
   | zero =>
    simp at hy; subst hy
    exact ⟨hc.mono (lP _ rfl),by simpa using hcl,hf,fun j c hj=>by simpa using hj⟩
   | succ i=>simp at hy⟩
 refine ⟨.pointer (some ⟨w.heap.size,0,none⟩),_,_,?_,?_,h1,h2⟩
 ·simp only [execOp,ho,Instr.alloc,zeroValue,typeInfo,newVar,newRow,newObj,Sem.run_bind]
  simp [Sem.run,program,hi,hiz]
 ·refine .one rfl (.ptr (by simp [Ctx.push,hr.st.nx]) (fun ow how=>?_))
  simp only [Ctx.push,hr.st.nx,if_true,Option.some.injEq] at how
  subst how
  exact ⟨_,t,0,_,0,rfl,rfl,by simp⟩

theorem kA (h : aw P W0 w C σ) {t te : TypeId} {id i : Nat} {xs : List AV} {x : AV} {v : Value} (hv : az P w C (.ptr t id i []) v) (hs : σ[id]? = some (some (.cells te xs))) (hx : xs[i]? = some x) :
  az P w (C.kill id) (.loc t x) v:=by
 obtain ⟨ad,rfl,hid,hm⟩:=hv.l5
 obtain ⟨b,base,room,arr,t',fr,m1,m2,mf,m3,m4,cf,m5⟩:=h.cells hs
 obtain ⟨b',te',base',room',off,e1,e2,rfl⟩:=hm _ m1
 cases e1
 simp only [place,Option.some.injEq,Prod.mk.injEq] at e2
 obtain ⟨rfl,rfl⟩:=e2
 obtain ⟨r1,r2,r3,r4⟩:=m5 i x hx
 have hidl : id < σ.length:=(List.getElem?_eq_some_iff.1 hs).1
 obtain ⟨k1,k2⟩:=h.kill id hidl
 refine .one rfl (.loc (r1.mono k1) r3 r2 (fun j c hj=>⟨?_,ec.free (Array.getElem?_eq_some_iff.1 m2).1 (fun q x hq he=>?_)⟩))
 ·have:=r4 j c hj
  rw [Nat.add_zero]
  simp [World.cell?,m2,this]
 ·simp only [Ctx.kill] at hq
  split at hq
  ·cases hq
  ·rename_i hne
   exact hne (h.inj q id x _ hq m1 (by simpa [Own.blk] using he))

theorem j3 (h : aw P W0 w C σ) {e te : TypeId} {id off m : Nat} {xs : List AV} {v : Value} (hv : az P w C (.row e id off m) v) (hs : σ[id]? = some (some (.cells te xs))) (hm : off + m ≤ xs.length) :
  az P w (C.kill id) (.sl e ((xs.drop off).take m)) v:=by
 have hv':=hv.aA rfl
 obtain ⟨b,base,room,arr,t',fr,m1,m2,mf,m3,m4,cf,m5⟩:=h.cells hs
 have hidl : id < σ.length:=(List.getElem?_eq_some_iff.1 hs).1
 obtain ⟨k1,k2⟩:=h.kill id hidl
 have hlen : ((xs.drop off).take m).length = m:=by simp; omega
 have hget : ∀ i x,((xs.drop off).take m)[i]? = some x → xs[off + i]? = some x:=fun i x hx=>by
  rw [List.getElem?_take] at hx
  split at hx
  ·rwa [List.getElem?_drop] at hx
  ·cases hx
 cases hv' with
 | row h1 h2 h3 h4 =>
  obtain ⟨b',base',room',e1,e2,e3⟩:=h4 _ m1
  cases e1
  have hrel : Rel P w (C.kill id) (.sl e ((xs.drop off).take m)) [.slice _ ((xs.drop off).take m).length _] :=
   .sl (a:=_) (fun i=>cf (off + i)) (by rw [hlen]; exact h1) h2 (fun i x hx=>(m5 _ _ (hget i x hx)).1.mono k1) (fun i x hx=>⟨(m5 _ _ (hget i x hx)).2.1,(m5 _ _ (hget i x hx)).2.2.1⟩) (fun hpos=>by
    rw [hlen] at hpos
    refine ⟨b,base + off * ae P e,e2 (by omega),fun i hi j c hj=>⟨?_,ec.free (Array.getElem?_eq_some_iff.1 m2).1 (fun q x hq he=>?_)⟩⟩
    ·have hx:=List.getElem?_eq_getElem hi
     have:=(m5 _ _ (hget i _ hx)).2.2.2 j c hj
     rw [Nat.add_mul,← Nat.add_assoc] at this
     simp [World.cell?,m2,this]
    ·simp only [Ctx.kill] at hq
     split at hq
     ·cases hq
     ·rename_i hne
      exact hne (h.inj q id x _ hq m1 (by simpa [Own.blk] using he)))
  rw [hlen] at hrel
  exact .one rfl hrel

end
end Go.Av
end
section
namespace Go.Av
open Go

def fV (l : List UInt8) (pos : Nat) : Nat × Nat:=Utf8.decode ⟨l.toArray⟩ pos

section
variable {P : Program} {W0 w w' : World} {C C' : Ctx} {σ σ' : ab} {n : Nat} {A : aa} {a : Act} {o : Oper}

theorem ET (hr : eh P W0 o w C A a) {t : TypeId} {x : Operand} {l : List UInt8} (ho : o.op = .range t x) (hx : Is P W0 o A x (.str l)) (ht : P.underlying t = some .string) :
  ∃ y w' C',(execOp a.eval o).run P w = .ok (.value y) w' ∧ az P w' C' (.it A.st.length) y ∧ Step w C w' C' ∧ aw P W0 w' C' (A.st ++ [some (.iter l 0)]):=by
 have hv:=(hx w C a hr).eW.1
 obtain ⟨h1,h2⟩:=hr.st.push (ob:=.stringIter ⟨l.toArray⟩ 0) (ow:=.iter w.heap.size) (so:=.iter l 0) rfl (heap_alloc_new w _)
 refine ⟨.pointer (some ⟨w.heap.size,0,none⟩),_,_,?_,?_,h1,h2⟩
 ·simp only [execOp,ho,Instr.range,newObj,Sem.run_bind,run_underlying ht,Result.andThen_ok,hv,Sem.run_pure]
  rfl
 ·refine .one rfl (.it (by simp [Ctx.push,hr.st.nx]) (fun ow how=>?_))
  simp only [Ctx.push,hr.st.nx,if_true,Option.some.injEq] at how
  subst how
  exact ⟨_,rfl,rfl⟩

theorem aw.iter (h : aw P W0 w C σ) {id : Nat} {l : List UInt8} {pos : Nat} (hs : σ[id]? = some (some (.iter l pos))) : ∃ b,C.m id = some (.iter b) ∧ w.heap[b]? = some (.stringIter ⟨l.toArray⟩ pos):=by
 have ho:=h.obj id
 rw [hs] at ho
 simp only [Option.join_some] at ho
 cases hm : C.m id with
 | none=>rw [hm] at ho; exact ho.elim
 | some ow =>
  rw [hm] at ho
  cases ow with
  | iter b=>exact ⟨b,rfl,ho⟩
  | _=>exact ho.elim

theorem DT {id : Nat} {v : Value} (h : az P w C (.it id) v) : ∃ ad,v = .pointer (some ad) ∧ ∀ ow,C.m id = some ow → ∃ b,ow = .iter b ∧ ad = ⟨b,0,none⟩:=by
 have:=h.aA rfl
 cases this with
 | it h1 h2=>exact ⟨_,rfl,h2⟩

theorem Bv (hr : eh P W0 o w C A a) {x : Operand} {id : Nat} {l : List UInt8} {pos : Nat} (ho : o.op = .next x true) (hx : Is P W0 o A x (.it id)) (hs : A.st[id]? = some (some (.iter l pos))) (hp : l.length ≤ pos) :
  ∃ y,(execOp a.eval o).run P w = .ok (.value y) w ∧ az P w C (.tup [.bool false]) y:=by
 obtain ⟨ad,hv,hm⟩:=DT (hx w C a hr)
 obtain ⟨b,hc,hb⟩:=hr.st.iter hs
 obtain ⟨b',e,rfl⟩:=hm _ hc
 cases e
 have hsz : ¬ pos < (⟨l.toArray⟩ : ByteArray).size:=by show ¬ pos < l.toArray.size; simp; omega
 refine ⟨.tuple #[.bool false],?_,.tup (vs:=[.bool false]) rfl (fun i u z hu hz=>?_)⟩
 ·simp only [execOp,ho,Instr.next,hv,getObj,Sem.run_bind]
  simp [Sem.run,hb,hsz,Result.andThen]
 ·cases i with
  | zero=>simp at hu hz; subst hu hz; exact .one rfl (.bool _)
  | succ i=>simp at hu

theorem Cr (hr : eh P W0 o w C A a) {x : Operand} {id : Nat} {l : List UInt8} {pos : Nat} (ho : o.op = .next x true) (hx : Is P W0 o A x (.it id)) (hs : A.st[id]? = some (some (.iter l pos))) (hp : pos < l.length) :
  ∃ y w',(execOp a.eval o).run P w = .ok (.value y) w' ∧ az P w' C (.tup [.bool true,.int .i64 pos,.int .i32 (fV l pos).1]) y ∧ Step w C w' C ∧ aw P W0 w' C (A.st.set id (some (.iter l (pos + (fV l pos).2)))):=by
 obtain ⟨ad,hv,hm⟩:=DT (hx w C a hr)
 obtain ⟨b,hc,hb⟩:=hr.st.iter hs
 obtain ⟨b',e,rfl⟩:=hm _ hc
 cases e
 have hsz : pos < (⟨l.toArray⟩ : ByteArray).size:=by show pos < l.toArray.size; simpa using hp
 have hblt : b < w.heap.size:=(Array.getElem?_eq_some_iff.1 hb).1
 have hidl : id < A.st.length:=(List.getElem?_eq_some_iff.1 hs).1
 have hother : ∀ (b' : Nat),b' ≠ b → (w.heap.setIfInBounds b (.stringIter ⟨l.toArray⟩ (pos + (fV l pos).2)))[b']? = w.heap[b']?:=fun b' hne=>by
  rw [Array.getElem?_setIfInBounds_ne (Ne.symm hne)]
 have hstep : Step w C { w with heap:=w.heap.setIfInBounds b (.stringIter ⟨l.toArray⟩ (pos + (fV l pos).2)) } C:=by
  refine ⟨Nat.le_refl _,fun _ _ _ hm=>hm,fun b' i hst=>?_,rfl,rfl,rfl,by simp,fun b' hlt hn=>⟨hother b' (fun e=>hn id _ hc (by simp [Own.blk,e])),hn⟩⟩
  have hne : b' ≠ b:=fun e=>by
   obtain ⟨_,_,_,e1,_⟩:=hst.2 id _ hc (by simp [Own.blk,e])
   cases e1
  refine ⟨?_,by simpa using hst.1,hst.2⟩
  simp only [World.cell?,hother b' hne]
 refine ⟨.tuple #[.bool true,goInt pos,.int .i32 (fV l pos).1],_,?_,.tup (vs:=[.bool true,goInt pos,.int .i32 (fV l pos).1]) rfl (fun i u z hu hz=>?_),hstep,?_⟩
 ·simp only [execOp,ho,Instr.next,hv,getObj,setObj,Sem.run_bind]
  simp [Sem.run,hb,hsz,Result.andThen,fV]
 ·match i with
  | 0=>simp at hu hz; subst hu hz; exact .one rfl (.bool _)
  | 1=>simp [goInt] at hu hz; subst hu hz; exact .one rfl (.int _ _)
  | 2=>simp at hu hz; subst hu hz; exact .one rfl (.int _ _)
  | i + 3=>simp at hu
 ·refine hr.st.change hstep hr.st.low (by simpa using hr.st.nx) hr.st.inj hr.st.dom (fun j=>?_)
  rw [im _ _ _ _ hidl]
  by_cases hj : j = id
  ·left
   subst hj
   rw [if_pos rfl,hc]
   show _ = _
   simp [hblt]
  ·right
   rw [if_neg hj]
   refine ⟨rfl,rfl,fun y hy=>hother y.blk (fun e=>hj (hr.st.inj j id y _ hy hc (by simpa [Own.blk] using e)))⟩

end
end Go.Av
end
section
namespace Go.Av
open Go

section
variable {P : Program} {W0 w w' : World} {C C' : Ctx} {σ σ' : ab} {n : Nat} {A : aa} {a : Act} {o : Oper}

theorem HK (hr : eh P W0 o w C A a) {t : TypeId} (ho : o.op = .makeMap t none) (kt : TypeId) :
  ∃ y w' C',(execOp a.eval o).run P w = .ok (.value y) w' ∧ az P w' C' (.mp A.st.length) y ∧ Step w C w' C' ∧ aw P W0 w' C' (A.st ++ [some (.mp kt [])]):=by
 obtain ⟨h1,h2⟩:=hr.st.push (ob:=.map #[] 0) (ow:=.mp w.heap.size) (so:=.mp kt []) rfl ⟨#[],0,heap_alloc_new w _,by simp,by simp,by simp⟩
 refine ⟨.map (some w.heap.size),_,_,?_,?_,h1,h2⟩
 ·simp only [execOp,ho,Instr.makeMap,newObj,Sem.run_bind,Sem.run_pure]
  rfl
 ·refine .one rfl (.mp (by simp [Ctx.push,hr.st.nx]) (fun ow how=>?_))
  simp only [Ctx.push,hr.st.nx,if_true,Option.some.injEq] at how
  exact how.symm

theorem GX (hr : eh P W0 o w C A a) {t kt vt : TypeId} {x ix y : Operand} {u k v : AV} {id : Nat} {l : List (AV × AV)} (ho : o.op = .mapUpdate t x ix y) (hx : Is P W0 o A x (.mp id)) (hi : Is P W0 o A ix k) (hy : Is P W0 o A y v)
  (ht : nQ P t = some (kt,vt)) (K : Maps.Keyed P kt) (hk : BR P kt k) (hv : (mj v).isSome = true) (hs : A.st[id]? = some (some (.mp kt l))) :
  ∃ w',(execOp a.eval o).run P w = .ok .skip w' ∧ Step w C w' C ∧ aw P W0 w' C (A.st.set id (some (.mp kt (zp P l k v)))):=by
 obtain ⟨r,hvx,hm⟩:=Dq (hx w C a hr)
 obtain ⟨b,hc,es,clock,hb,hd,he1,he2⟩:=hr.st.mp hs
 have hrb : b = r:=by cases hm _ hc; rfl
 subst hrb
 obtain ⟨kv,q,hkv,hq⟩:=hk
 have hkey:=AW hkv (hi w C a hr)
 obtain ⟨vv,hvv⟩:=Option.isSome_iff_exists.1 hv
 have hval : a.eval y = vv:=rn hvv ((hy w C a hr).aA (rG hvv))
 have hu:=xS ht
 have hblt : b < w.heap.size:=(Array.getElem?_eq_some_iff.1 hb).1
 have hidl : id < A.st.length:=(List.getElem?_eq_some_iff.1 hs).1
 have hother : ∀ (ob : Obj) (b' : Nat),b' ≠ b → (w.heap.setIfInBounds b ob)[b']? = w.heap[b']?:=fun ob b' hne=>by
  rw [Array.getElem?_setIfInBounds_ne (Ne.symm hne)]
 have hstep : ∀ ob : Obj,Step w C { w with heap:=w.heap.setIfInBounds b ob } C:=fun ob=>by
  refine ⟨Nat.le_refl _,fun _ _ _ hm=>hm,fun b' i hst=>?_,rfl,rfl,rfl,by simp,fun b' hlt hn=>⟨hother ob b' (fun e=>hn id _ hc (by simp [Own.blk,e])),hn⟩⟩
  have hne : b' ≠ b:=fun e=>by
   obtain ⟨_,_,_,e1,_⟩:=hst.2 id _ hc (by simp [Own.blk,e])
   cases e1
  refine ⟨?_,by simpa using hst.1,hst.2⟩
  simp only [World.cell?,hother ob b' hne]
 have fin : ∀ (es' : Array MapEntry) (clock' : Nat),zK P { w with heap:=w.heap.setIfInBounds b (.map es' clock') } kt (zp P l k v) b → aw P W0 { w with heap:=w.heap.setIfInBounds b (.map es' clock') } C (A.st.set id (some (.mp kt (zp P l k v)))):=fun es' clock' hmr=>by
  refine hr.st.change (hstep _) hr.st.low (by simpa using hr.st.nx) hr.st.inj hr.st.dom (fun j=>?_)
  rw [im _ _ _ _ hidl]
  by_cases hj : j = id
  ·left
   subst hj
   rw [if_pos rfl,hc]
   exact hmr
  ·right
   rw [if_neg hj]
   refine ⟨rfl,rfl,fun y hy=>hother _ y.blk (fun e=>hj (hr.st.inj j id y _ hy hc (by simpa [Own.blk] using e)))⟩
 have old : ∀ p,p ∈ zp P l k v ↔ (p ∈ l ∧ rig P p.1 ≠ some kv) ∨ p = (k,v):=fun p=>by
  simp only [zp,List.mem_append,List.mem_filter,List.mem_singleton,decide_eq_true_eq,hkv]
 rcases K.find w hq es.toList (fun e he=>(he1 e he).1) with ⟨h1,h2⟩ | ⟨j,e,h1,h2,h3⟩
 ·refine ⟨_,?_,hstep _,fin (es.push ⟨kv,vv,clock⟩) (clock + 1) ⟨es.push ⟨kv,vv,clock⟩,clock + 1,by simp [hblt],?_,fun f hf=>?_,fun p hp=>?_⟩⟩
  ·simp [execOp,ho,hvx,hkey,hval,Instr.mapUpdate,run_underlying hu,MapKept.run_getObj_map hb,K.check w false hq,h1,MapKept.run_setObj_map _ hb,Result.andThen]
  ·rw [Array.toList_push,List.pairwise_append]
   refine ⟨hd,by simp,fun e he f hf=>?_⟩
   rw [List.mem_singleton.1 hf]
   exact h2 e he
  ·rw [Array.toList_push,List.mem_append,List.mem_singleton] at hf
   rcases hf with hf | rfl
   ·obtain ⟨g1,p,g2,g3,g4⟩:=he1 f hf
    exact ⟨g1,p,(old p).2 (.inl ⟨g2,fun e=>h2 f hf (by rw [g3] at e; exact Option.some.inj e)⟩),g3,g4⟩
   ·exact ⟨⟨q,hq⟩,(k,v),(old _).2 (.inr rfl),hkv,hvv⟩
  ·rcases (old p).1 hp with ⟨g1,g2⟩ | rfl
   ·obtain ⟨f,hf,g3⟩:=he2 p g1
    exact ⟨f,by rw [Array.toList_push]; exact List.mem_append_left _ hf,g3⟩
   ·exact ⟨⟨kv,vv,clock⟩,by simp,hkv,hvv⟩
 ·have hj : es[j]? = some e:=by simpa using h2
  have hlist : (es.modify j fun f=>{ f with key:=kv,val:=vv }).toList = es.toList.set j { e with key:=kv,val:=vv }:=by
   rw [Array.toList_modify]
   refine List.ext_getElem? fun q=>?_
   rw [List.getElem?_modify,List.getElem?_set]
   by_cases hq' : j = q
   ·subst hq'
    obtain ⟨hjl',hje⟩:=Array.getElem?_eq_some_iff.1 hj
    simp [hjl',hje]
   ·simp [hq']
  have hjl : j < es.toList.length:=(List.getElem?_eq_some_iff.1 h2).1
  have hem : e ∈ es.toList:=List.mem_of_getElem? h2
  have hin : ∀ f,f ∈ es.toList.set j { e with key:=kv,val:=vv } ↔ (f ∈ es.toList ∧ f.key ≠ kv) ∨ f = { e with key:=kv,val:=vv }:=fun f=>by
   constructor
   ·intro hf
    obtain ⟨i,hi⟩:=List.mem_iff_getElem?.1 hf
    by_cases hij : j = i
    ·subst hij
     rw [List.getElem?_set_self hjl] at hi
     exact .inr (Option.some.inj hi).symm
    ·rw [List.getElem?_set_ne hij] at hi
     refine .inl ⟨List.mem_of_getElem? hi,fun hk=>hij ?_⟩
     have hfe:=tu hd (List.mem_of_getElem? hi) hem (by rw [hk,h3])
     subst hfe
     have hnd : es.toList.Nodup:=hd.imp fun h e=>h (by rw [e])
     exact (List.getElem?_inj hjl hnd).1 (by rw [h2,hi])
   ·rintro (⟨hf,hk⟩ | rfl)
    ·obtain ⟨i,hi⟩:=List.mem_iff_getElem?.1 hf
     have hij : j ≠ i:=fun e1=>by
      subst e1
      rw [h2] at hi
      cases hi
      exact hk h3
     exact List.mem_of_getElem? (i:=i) (by rw [List.getElem?_set_ne hij]; exact hi)
    ·exact List.mem_of_getElem? (i:=j) (by rw [List.getElem?_set_self hjl])
  have hst:=K.stays w hq
  refine ⟨_,?_,hstep _,fin (es.modify j fun f=>{ f with key:=kv,val:=vv }) clock ⟨es.modify j fun f=>{ f with key:=kv,val:=vv },clock,by simp [hblt],?_,fun f hf=>?_,fun p hp=>?_⟩⟩
  ·simp [execOp,ho,hvx,hkey,hval,Instr.mapUpdate,run_underlying hu,MapKept.run_getObj_map hb,K.check w false hq,h1,hj,h3,hst,MapKept.run_setObj_map _ hb,Result.andThen]
  ·rw [hlist,List.pairwise_iff_getElem]
   intro i m hi hm him
   rw [List.length_set] at hi hm
   have base:=List.pairwise_iff_getElem.1 hd i m hi hm him
   rw [List.getElem_set,List.getElem_set]
   have ej : es.toList[j] = e:=by rw [List.getElem?_eq_getElem hjl] at h2; exact Option.some.inj h2
   split
   ·rename_i e1
    split
    ·omega
    ·subst e1
     rw [ej,h3] at base
     exact base
   ·split
    ·rename_i e1
     subst e1
     rw [ej,h3] at base
     exact base
    ·exact base
  ·rw [hlist,hin] at hf
   rcases hf with ⟨hf,hne⟩ | rfl
   ·obtain ⟨g1,p,g2,g3,g4⟩:=he1 f hf
    exact ⟨g1,p,(old p).2 (.inl ⟨g2,fun e=>hne (by rw [g3] at e; exact Option.some.inj e)⟩),g3,g4⟩
   ·exact ⟨⟨q,hq⟩,(k,v),(old _).2 (.inr rfl),hkv,hvv⟩
  ·rcases (old p).1 hp with ⟨g1,g2⟩ | rfl
   ·obtain ⟨f,hf,g3,g4⟩:=he2 p g1
    exact ⟨f,by rw [hlist,hin]; exact .inl ⟨hf,fun e=>g2 (by rw [g3,e])⟩,g3,g4⟩
   ·exact ⟨{ e with key:=kv,val:=vv },by rw [hlist,hin]; exact .inr rfl,hkv,hvv⟩
end
end Go.Av
end
section
namespace Go.Av
open Go

inductive aN (n : Nat) : AV → Prop
 | undef : aN n .undef
 | int (k m) : aN n (.int k m)
 | bool (b) : aN n (.bool b)
 | str (l) : aN n (.str l)
 | nil : aN n .nil
 | au : aN n .au
 | jD : aN n .jD
 | cw : aN n .cw
 | iface {t v} : aN n v → aN n (.iface t v)
 | sl {e xs} : (∀ x ∈ xs,aN n x) → aN n (.sl e xs)
 | lit {e xs} : (∀ x ∈ xs,aN n x) → aN n (.lit e xs)
 | own {e xs tok} : tok < n → (∀ x ∈ xs,aN n x) → aN n (.own e xs tok)
 | row {e id off m} : id < n → aN n (.row e id off m)
 | agg {t fs} : (∀ x ∈ fs,aN n x) → aN n (.agg t fs)
 | loc {t v} : aN n v → aN n (.loc t v)
 | ptr {t id i path} : id < n → aN n (.ptr t id i path)
 | it {id} : id < n → aN n (.it id)
 | mp {id} : id < n → aN n (.mp id)
 | yl (l) : aN n (.yl l)
 | fn {f caps} : (∀ x ∈ caps,aN n x) → aN n (.fn f caps)
 | tup {vs} : (∀ x ∈ vs,aN n x) → aN n (.tup vs)
 | maybe {g v} : aN n v → aN n (.maybe g v)

inductive Sub : AV → AV → Prop
 | refl (x) : Sub x x
 | trans {x y z} : Sub x y → Sub y z → Sub x z
 | own (e xs tok) : Sub (.own e xs tok) (.sl e xs)
 | lit (e xs) : Sub (.lit e xs) (.sl e xs)
 | au (e) : Sub .au (.sl e [])
 | agg {t} {xs ys : List AV} : xs.length = ys.length → (∀ (i : Nat) (x y : AV),xs[i]? = some x → ys[i]? = some y → Sub x y) → Sub (.agg t xs) (.agg t ys)
 | sls {e} {xs ys : List AV} : xs.length = ys.length → (∀ (i : Nat) (x y : AV),xs[i]? = some x → ys[i]? = some y → Sub x y) → Sub (.sl e xs) (.sl e ys)
 | lits {e} {xs ys : List AV} : xs.length = ys.length → (∀ (i : Nat) (x y : AV),xs[i]? = some x → ys[i]? = some y → Sub x y) → Sub (.lit e xs) (.lit e ys)
 | owns {e tok} {xs ys : List AV} : xs.length = ys.length → (∀ (i : Nat) (x y : AV),xs[i]? = some x → ys[i]? = some y → Sub x y) → Sub (.own e xs tok) (.own e ys tok)
 | loc {t x y} : Sub x y → Sub (.loc t x) (.loc t y)

inductive cI : AV → AV → Prop
 | sub {x y} : Sub x y → cI x y
 | refl (x) : cI x x
 | own (e xs tok) : cI (.own e xs tok) (.sl e xs)
 | lit (e xs) : cI (.lit e xs) (.sl e xs)
 | au (e) : cI .au (.sl e [])
 | undef (x) : cI x .undef
 | trans {x y z} : cI x y → cI y z → cI x z
 | tup {xs ys : List AV} : xs.length = ys.length → (∀ (i : Nat) (x y : AV),xs[i]? = some x → ys[i]? = some y → cI x y) → cI (.tup xs) (.tup ys)

section
variable {P : Program} {W0 w w' : World} {C C' : Ctx} {σ σ' : ab} {n : Nat} {A : aa} {a : Act} {o : Oper}

theorem Rel.PG {x : AV} {cs : List Value} (h : Rel P w C x cs) : aN C.nx x:=by
 have mem : ∀ {xs : List AV} {cf : Nat → List Value},(∀ (i : Nat) (x : AV),xs[i]? = some x → aN C.nx x) → ∀ x ∈ xs,aN C.nx x:=fun {xs cf} h x hx=>by
  obtain ⟨i,hi,he⟩:=List.getElem_of_mem hx
  exact h i x (by rw [← he]; exact List.getElem?_eq_getElem hi)
 induction h with
 | int k n=>exact .int k n
 | bool b=>exact .bool b
 | str=>exact .str _
 | nil=>exact .nil
 | au=>exact .au
 | jD=>exact .jD
 | cw=>exact .cw
 | iface _ _ ih=>exact .iface ih
 | sl cf _ _ _ _ _ ih=>exact .sl (mem (cf:=cf) ih)
 | lit cf _ _ _ _ ih=>exact .lit (mem (cf:=cf) ih)
 | own cf _ _ _ _ _ h6 _ ih=>exact .own h6 (mem (cf:=cf) ih)
 | row _ _ h3=>exact .row h3
 | agg cf _ _ _ _ _ _ ih=>exact .agg (mem (cf:=cf) ih)
 | loc _ _ _ _ ih=>exact .loc ih
 | ptr h1=>exact .ptr h1
 | it h1=>exact .it h1
 | mp h1=>exact .mp h1
 | yl l=>exact .yl l
 | fn h1 h2 h3 ih =>
  refine .fn (mem (cf:=fun _=>[]) fun i x hx=>?_)
  have hi:=(List.getElem?_eq_some_iff.1 hx).1
  exact ih i x _ hx (List.getElem?_eq_getElem (by rw [← h1]; exact hi))

theorem dJ {m : Nat} (hm : n ≤ m) {x : AV} (h : aN n x) : aN m x:=by
 induction h with
 | undef=>exact .undef
 | int k n=>exact .int k n
 | bool b=>exact .bool b
 | str=>exact .str _
 | nil=>exact .nil
 | au=>exact .au
 | jD=>exact .jD
 | cw=>exact .cw
 | iface _ ih=>exact .iface ih
 | sl _ ih=>exact .sl ih
 | lit _ ih=>exact .lit ih
 | own h1 _ ih=>exact .own (Nat.lt_of_lt_of_le h1 hm) ih
 | row h1=>exact .row (Nat.lt_of_lt_of_le h1 hm)
 | agg _ ih=>exact .agg ih
 | loc _ ih=>exact .loc ih
 | ptr h1=>exact .ptr (Nat.lt_of_lt_of_le h1 hm)
 | it h1=>exact .it (Nat.lt_of_lt_of_le h1 hm)
 | mp h1=>exact .mp (Nat.lt_of_lt_of_le h1 hm)
 | yl l=>exact .yl l
 | fn _ ih=>exact .fn ih
 | tup _ ih=>exact .tup ih
 | maybe _ ih=>exact .maybe ih

def Ctx.dp (C : Ctx) (n : Nat) : Ctx:={ m:=fun i=>if i < n then C.m i else none,nx:=n }

theorem dV {i : Nat} {ow : Own} (h : (C.dp n).m i = some ow) : i < n ∧ C.m i = some ow:=by
 simp only [Ctx.dp] at h
 split at h
 ·exact ⟨by assumption,h⟩
 ·cases h

theorem ec.dp {b i : Nat} (h : ec w C b i) (n : Nat) : ec w (C.dp n) b i:=⟨h.1,fun id ow hm he=>h.2 id ow (dV hm).2 he⟩

theorem Rel.dp {x : AV} {cs : List Value} (h : Rel P w C x cs) (hi : aN n x) : Rel P w (C.dp n) x cs:=by
 have hcells : ∀ {b off : Nat} {cs : List Value},Cells w C b off cs → Cells w (C.dp n) b off cs:=fun hc j c hj=>⟨(hc j c hj).1,(hc j c hj).2.dp n⟩
 have hreads : ∀ {size m : Nat} {a : Option Addr} {cf : Nat → List Value},eE w C size a m cf → eE w (C.dp n) size a m cf:=fun hr hm=>by
  obtain ⟨b,off,e,hc⟩:=hr hm
  exact ⟨b,off,e,fun i hi=>hcells (hc i hi)⟩
 induction h with
 | int k n=>exact .int k n
 | bool b=>exact .bool b
 | str h=>exact .str h
 | nil=>exact .nil
 | au=>exact .au
 | jD=>exact .jD
 | cw=>exact .cw
 | iface h1 _ ih=>cases hi with | iface hi=>exact .iface h1 (ih hi)
 | sl cf h1 h2 _ h4 h5 ih=>cases hi with | sl hi=>exact .sl cf h1 h2 (fun i x hx=>ih i x hx (hi x (List.mem_of_getElem? hx))) h4 (hreads h5)
 | lit cf h1 _ h4 h5 ih=>cases hi with | lit hi=>exact .lit cf h1 (fun i x hx=>ih i x hx (hi x (List.mem_of_getElem? hx))) h4 (hreads h5)
 | own cf h1 h2 _ h4 h5 h6 h7 ih=>cases hi with | own ht hi=>exact .own cf h1 h2 (fun i x hx=>ih i x hx (hi x (List.mem_of_getElem? hx))) h4 (hreads h5) ht (fun ow how=>h7 ow (dV how).2)
 | row h1 h2 h3 h4=>cases hi with | row hi=>exact .row h1 h2 hi (fun ow how=>h4 ow (dV how).2)
 | agg cf h1 h2 h3 h4 _ h6 ih=>cases hi with | agg hi=>exact .agg cf h1 h2 h3 h4 (fun i x hx=>ih i x hx (hi x (List.mem_of_getElem? hx))) h6
 | loc _ h2 h3 h4 ih=>cases hi with | loc hi=>exact .loc (ih hi) h2 h3 (hcells h4)
 | ptr h1 h2=>cases hi with | ptr hi=>exact .ptr hi (fun ow how=>h2 ow (dV how).2)
 | it h1 h2=>cases hi with | it hi=>exact .it hi (fun ow how=>h2 ow (dV how).2)
 | mp h1 h2=>cases hi with | mp hi=>exact .mp hi (fun ow how=>h2 ow (dV how).2)
 | yl l=>exact .yl l
 | fn h1 h2 _ ih=>cases hi with | fn hi=>exact .fn h1 h2 (fun i c v hc hv=>ih i c v hc hv (hi c (List.mem_of_getElem? hc)))

theorem az.dp {x : AV} {v : Value} (h : az P w C x v) (hi : aN n x) : az P w (C.dp n) x v:=by
 induction h with
 | undef v=>exact .undef v
 | maybe _ h2 ih=>cases hi with | maybe hi=>exact .maybe (fun g=>ih g hi) h2
 | tup h1 _ ih=>cases hi with | tup hi=>exact .tup h1 (fun i a v ha hv=>ih i a v ha hv (hi a (List.mem_of_getElem? ha)))
 | agg h1=>exact .agg (h1.dp hi)
 | one h1 h2=>exact .one h1 (h2.dp hi)

theorem aw.dp (h : aw P W0 w C σ) (hn : n ≤ σ.length) (hi : ∀ id te xs,id < n → σ[id]? = some (some (.cells te xs)) → ∀ x ∈ xs,aN n x) : aw P W0 w (C.dp n) (σ.take n):=by
 refine ⟨h.base,fun i ow hm=>h.low i ow (dV hm).2,by simp [Ctx.dp]; omega,fun i j a b ha hb he=>h.inj i j a b (dV ha).2 (dV hb).2 he,fun i ow hm=>(dV hm).1,fun i=>?_⟩
 by_cases hin : i < n
 ·have e1 : (σ.take n)[i]? = σ[i]?:=by rw [List.getElem?_take,if_pos hin]
  have e2 : (C.dp n).m i = C.m i:=by simp [Ctx.dp,hin]
  rw [e1,e2]
  have ho:=h.obj i
  unfold fM at ho ⊢
  split at ho
  ·trivial
  ·rename_i te xs b te' base room hs hm
   have hs' : σ[i]? = some (some (.cells te xs)):=by
    cases hσ : σ[i]? with
    | none=>rw [hσ] at hs; cases hs
    | some q=>rw [hσ] at hs; simp at hs; rw [hs]
   obtain ⟨h1,arr,t',fr,h2,hf,h3,h4,cf,h5⟩:=ho
   refine ⟨h1,arr,t',fr,h2,hf,h3,h4,cf,fun q x hx=>?_⟩
   obtain ⟨r1,r2,r3,r4⟩:=h5 q x hx
   exact ⟨r1.dp (hi i te xs hin hs' x (List.mem_of_getElem? hx)),r2,r3,r4⟩
  ·exact ho
  ·exact ho
  ·exact ho
  ·exact ho.elim
 ·have e1 : ((σ.take n)[i]?).join = none:=by rw [List.getElem?_take,if_neg hin]; rfl
  have e2 : (C.dp n).m i = none:=by simp [Ctx.dp,hin]
  rw [e1,e2]
  trivial

theorem Step.dp (h : Step w C w' C') (hn : C.nx ≤ n) : Step w C w' (C'.dp n) where
 nx:=hn
 dead:=fun id ow hid hm=>h.dead id ow hid (dV hm).2
 fE:=fun b i hs=>⟨(h.fE b i hs).1,(h.fE b i hs).2.dp n⟩
 os:=h.os
 tape:=h.tape
 output:=h.output
 size:=h.size
 block:=fun b hb hf=>⟨(h.block b hb hf).1,fun id ow hm=>(h.block b hb hf).2 id ow (dV hm).2⟩

theorem aw.ids (h : aw P W0 w C σ) {id : Nat} {te : TypeId} {xs : List AV} (hs : σ[id]? = some (some (.cells te xs))) : ∀ x ∈ xs,aN σ.length x:=fun x hx=>by
 obtain ⟨b,base,room,arr,t',fr,m1,m2,mf,m3,m4,cf,m5⟩:=h.cells hs
 obtain ⟨i,hi,he⟩:=List.getElem_of_mem hx
 rw [← h.nx]
 exact (m5 i x (by rw [← he]; exact List.getElem?_eq_getElem hi)).1.PG

theorem Rel.qf {e : TypeId} {xs : List AV} {x : AV} {cs : List Value} (h : Rel P w C x cs) (hx : x = .lit e xs ∨ ∃ tok,x = .own e xs tok) : Rel P w C (.sl e xs) cs:=by
 rcases hx with rfl | ⟨tok,rfl⟩
 ·cases h with | lit cf h1 h3 h4 h5=>exact .sl cf (Nat.le_refl _) h1 h3 h4 h5
 ·cases h with | own cf h1 h2 h3 h4 h5=>exact .sl cf h1 h2 h3 h4 h5

theorem Rel.tI {e : TypeId} {cs : List Value} (h : Rel P w C .au cs) : Rel P w C (.sl e []) cs:=by
 cases h
 exact .sl (xs:=[]) (fun _=>[]) (Nat.le_refl _) (Nat.zero_le _) (by simp) (by simp) (fun hp=>absurd hp (by simp))

theorem Sub.one {x y : AV} (h : Sub x y) : y.aS = x.aS:=by
 induction h with
 | trans _ _ ih1 ih2=>exact ih2.trans ih1
 | _=>rfl

theorem Sub.JT {x y : AV} (h : Sub x y) : x = y ∨ (x.aS = true ∧ y.aS = true) ∨ ∃ t fs fs',x = .agg t fs ∧ y = .agg t fs':=by
 induction h with
 | refl=>exact .inl rfl
 | trans _ _ ih1 ih2 =>
  rcases ih1 with rfl | ⟨h1,h2⟩ | ⟨t,fs,fs',rfl,rfl⟩
  ·exact ih2
  ·rcases ih2 with rfl | ⟨h3,h4⟩ | ⟨t,fs,fs',rfl,rfl⟩
   ·exact .inr (.inl ⟨h1,h2⟩)
   ·exact .inr (.inl ⟨h1,h4⟩)
   ·simp [AV.aS] at h2
  ·rcases ih2 with rfl | ⟨h3,h4⟩ | ⟨t',gs,gs',e,rfl⟩
   ·exact .inr (.inr ⟨_,_,_,rfl,rfl⟩)
   ·simp [AV.aS] at h3
   ·cases e
    exact .inr (.inr ⟨_,_,_,rfl,rfl⟩)
 | agg=>exact .inr (.inr ⟨_,_,_,rfl,rfl⟩)
 | _=>exact .inr (.inl ⟨rfl,rfl⟩)

theorem Sub.fits {x y : AV} (h : Sub x y) (t : TypeId) (hf : fits P t x) : fits P t y:=by
 induction h with
 | refl=>exact hf
 | trans _ _ ih1 ih2=>exact ih2 (ih1 hf)
 | _=>exact hf

theorem Rel.sub {x y : AV} (hw : Sub x y) {cs : List Value} (h : Rel P w C x cs) : Rel P w C y cs:=by
 have lists : ∀ {e : TypeId} {xs ys : List AV} {cf : Nat → List Value},xs.length = ys.length → (∀ (i : Nat) (x y : AV),xs[i]? = some x → ys[i]? = some y → Sub x y) →
   (∀ (i : Nat) (x y : AV),xs[i]? = some x → ys[i]? = some y → ∀ {cs : List Value},Rel P w C x cs → Rel P w C y cs) →
   (∀ (i : Nat) (x : AV),xs[i]? = some x → Rel P w C x (cf i)) → (∀ i x,xs[i]? = some x → (cf i).length = ae P e ∧ Av.fits P e x) →
   (∀ (i : Nat) (x : AV),ys[i]? = some x → Rel P w C x (cf i)) ∧ (∀ i x,ys[i]? = some x → (cf i).length = ae P e ∧ Av.fits P e x):=fun {e xs ys cf} hl hs ih h1 h2=>by
  have get : ∀ (i : Nat) (y : AV),ys[i]? = some y → ∃ x,xs[i]? = some x:=fun i y hy=>⟨_,List.getElem?_eq_getElem (by rw [hl]; exact (List.getElem?_eq_some_iff.1 hy).1)⟩
  refine ⟨fun i y hy=>?_,fun i y hy=>?_⟩
  ·obtain ⟨x,hx⟩:=get i y hy
   exact ih i x y hx hy (h1 i x hx)
  ·obtain ⟨x,hx⟩:=get i y hy
   exact ⟨(h2 i x hx).1,(hs i x y hx hy).fits e (h2 i x hx).2⟩
 induction hw generalizing cs with
 | refl=>exact h
 | trans _ _ ih1 ih2=>exact ih2 (ih1 h)
 | own e xs tok=>exact h.qf (.inr ⟨tok,rfl⟩)
 | lit e xs=>exact h.qf (.inl rfl)
 | au e=>exact h.tI
 | agg hl hs ih =>
  rename_i t xs ys
  cases h with
  | agg cf h1 h2 h3 h4 h5 h6 =>
   have get : ∀ (i : Nat) (y : AV),ys[i]? = some y → ∃ x,xs[i]? = some x:=fun i y hy=>⟨_,List.getElem?_eq_getElem (by rw [hl]; exact (List.getElem?_eq_some_iff.1 hy).1)⟩
   refine .agg cf h1 (by omega) h3 h4 (fun i y hy=>?_) (fun i y ty hy hty=>?_)
   ·obtain ⟨x,hx⟩:=get i y hy
    exact ih i x y hx hy (h5 i x hx)
   ·obtain ⟨x,hx⟩:=get i y hy
    obtain ⟨g1,g2,g3⟩:=h6 i x ty hx hty
    exact ⟨g1,(hs i x y hx hy).fits ty g2,g3⟩
 | sls hl hs ih =>
  cases h with
  | sl cf h1 h2 h3 h4 h5 =>
   obtain ⟨g1,g2⟩:=lists hl hs (fun i x y hx hy {cs} h=>ih i x y hx hy h) h3 h4
   rw [hl] at h1 h5 ⊢
   exact .sl cf h1 h2 g1 g2 h5
 | lits hl hs ih =>
  cases h with
  | lit cf h1 h3 h4 h5 =>
   obtain ⟨g1,g2⟩:=lists hl hs (fun i x y hx hy {cs} h=>ih i x y hx hy h) h3 h4
   rw [hl] at h1 h5 ⊢
   exact .lit cf h1 g1 g2 h5
 | owns hl hs ih =>
  cases h with
  | own cf h1 h2 h3 h4 h5 h6 h7 =>
   obtain ⟨g1,g2⟩:=lists hl hs (fun i x y hx hy {cs} h=>ih i x y hx hy h) h3 h4
   rw [hl] at h1 h5 h7 ⊢
   exact .own cf h1 h2 g1 g2 h5 h6 h7
 | loc hs ih =>
  cases h with
  | loc h1 h2 h3 h4=>exact .loc (ih h1) (hs.fits _ h2) h3 h4

theorem az.cK {x y : AV} {v : Value} (hw : cI x y) (h : az P w C x v) : az P w C y v:=by
 induction hw generalizing v with
 | sub hs =>
  rcases hs.JT with rfl | ⟨h1,h2⟩ | ⟨t,fs,fs',rfl,rfl⟩
  ·exact h
  ·exact .one h2 ((h.aA h1).sub hs)
  ·cases h with
   | agg h1=>exact .agg (h1.sub hs)
   | one h1=>simp [AV.aS] at h1
 | refl x=>exact h
 | own e xs tok=>exact .one rfl ((h.aA rfl).qf (.inr ⟨tok,rfl⟩))
 | lit e xs=>exact .one rfl ((h.aA rfl).qf (.inl rfl))
 | au e=>exact .one rfl (h.aA rfl).tI
 | undef x=>exact .undef v
 | trans _ _ ih1 ih2=>exact ih2 (ih1 h)
 | tup hl _ ih =>
  rename_i xs ys _
  obtain ⟨vs,rfl,e1,e2⟩:=h.zX
  refine .tup (by omega) (fun i y v hy hv=>?_)
  have hi:=(List.getElem?_eq_some_iff.1 hy).1
  have hx:=List.getElem?_eq_getElem (l:=xs) (show i < xs.length by omega)
  exact ih i _ y hx hy (e2 i _ v hx hv)

inductive mc : List AV → List AV → Prop
 | nil : mc [] []
 | cons {x y xs ys} : cI x y → mc xs ys → mc (x :: xs) (y :: ys)

theorem mc.get {xs ys : List AV} (h : mc xs ys) : xs.length = ys.length ∧ ∀ (i : Nat) (y : AV),ys[i]? = some y → ∃ x,xs[i]? = some x ∧ cI x y:=by
 induction h with
 | nil=>exact ⟨rfl,by simp⟩
 | cons h1 _ ih =>
  refine ⟨by simp [ih.1],fun i y hy=>?_⟩
  cases i with
  | zero=>simp at hy; subst hy; exact ⟨_,rfl,h1⟩
  | succ i=>simp at hy ⊢; exact ih.2 i y hy

theorem mc.refl : ∀ xs,mc xs xs
 | []=>.nil
 | x :: xs=>.cons (.refl x) (mc.refl xs)

theorem aU.cK {f : FuncId} {xs ys : List AV} {Q : AV → ab → Prop} (h : aU P W0 f ys σ Q) (hw : mc xs ys) : aU P W0 f xs σ Q :=
 fun w C vs hst hl hr=>h w C vs hst (by rw [← hw.get.1]; exact hl) (fun i y v hy hv=>by
  obtain ⟨x,hx,hxy⟩:=hw.get.2 i y hy
  exact (hr i x v hx hv).cK hxy)

theorem aU.mono {f : FuncId} {xs : List AV} {Q Q' : AV → ab → Prop} (h : aU P W0 f xs σ Q) (hq : ∀ r σ',Q r σ' → Q' r σ') : aU P W0 f xs σ Q' :=
 fun w C vs hst hl hr=>(h w C vs hst hl hr).mono fun _ _ ⟨v,r,σ',C',e,q,rest⟩=>⟨v,r,σ',C',e,hq _ _ q,rest⟩

theorem af.cK {f : FuncId} {xs ys : List AV} {r : AV} (h : af P W0 f ys r) (hw : mc xs ys) : af P W0 f xs r:=fun σ=>(h σ).cK hw

end
end Go.Av
end
section
namespace Go.Av
open Go

def RD : Option Nat → Fence
 | none=>.wide
 | some l=>Fence.wide.inRound l
def more (a : Act) (ds : List Deferred) : Act:={ tmps:=a.tmps,defers:=a.defers ++ ds }
def tO (ds : List Deferred) (Q : Exit → Act → World → Prop) : Exit → Act → World → Prop:=fun e a' w'=>∃ a0,a' = more a0 ds ∧ Q e a0 w'
def wpR (P : Program) (c : Code) (Q : Exit → Act → World → Prop) (a : Act) (w : World) : Prop:=∀ r n ds,c.wpIn (RD r) n P (tO ds Q) (more a ds) w

section
variable {P : Program} {Q : Exit → Act → World → Prop} {a : Act} {w : World} {ops : Array Oper} {o : Oper}
theorem Fg (r : Option Nat) (f : FuncId) : (RD r).fn f:=by cases r <;> trivial
theorem D6 (r : Option Nat) : (RD r).depth = none:=by cases r <;> rfl
theorem BA (P : Program) (r : Option Nat) : Machine.fenced P (RD r) = Machine.fenced P .wide:=by cases r <;> rfl
theorem dO (a : Act) : more a [] = a:=by simp [more]
theorem iO (a : Act) (ds : List Deferred) (d : Option Tmp) (v : Value) : more (a.put d v) ds = (more a ds).put d v:=by cases d <;> rfl
theorem put_defers (a : Act) (d : Option Tmp) (v : Value) : (a.put d v).defers = a.defers:=by cases d <;> rfl
theorem oH (a : Act) (ds : List Deferred) : (more a ds).tmps = a.tmps:=rfl
theorem BK (a : Act) (ds : List Deferred) : (more a ds).eval = a.eval:=rfl
theorem CO {f : FuncId} {args : Array Value} {R : Ending → World → Prop} (h : Calls P f args w R) (r : Option Nat) (n : Nat) : CallsIn (RD r) n P f args w R:=by
 cases r with
 | none=>exact callsIn_wide.2 h
 | some l=>exact show CallsIn .wide n P f args w R from callsIn_wide.2 h
theorem GR {row : String} {args : Array Value} {R : Value → World → Prop} (h : Rows P row args w R) (r : Option Nat) (n : Nat) : RowsIn (RD r) n P row args w R:=fun c cs _=>by
 obtain ⟨v,w',q,s⟩:=h c cs
 exact ⟨v,w',q,by rw [BA]; exact stepsIn_wide.2 s⟩
theorem AA {next next' : Act → World → Prop} (hnd : ∀ c,o.op ≠ .defer c) (h : o.wp P a w next Q) {r : Option Nat} {n : Nat} {ds : List Deferred} (hn : ∀ a0 w',next a0 w' → next' (more a0 ds) w') :
  o.wpIn (RD r) n P (more a ds) w next' (tO ds Q):=by
 refine ⟨fun f _=>Fg r f,?_⟩
 rw [Oper.semAt_eq _ _ _ hnd,BK]
 unfold Oper.wp at h
 revert h
 generalize (execOp a.eval o).run P w = res
 intro h
 have hd : (RD r).depth.isSome = true → 1 ≤ n:=fun e=>by rw [D6] at e; cases e
 cases res with
 | ok nx w' =>
  cases nx with
  | value v=>have:=hn _ _ h; rw [iO] at this; exact this
  | skip=>have:=hn _ _ h; rw [iO] at this; exact this
  | defer d=>have:=hn _ _ h; rw [iO] at this; exact this
  | enter f args =>
   refine ⟨hd,(CO h r _).mono fun e w'' hR=>?_⟩
   cases e with
   | returned v=>have:=hn _ _ hR; rw [iO] at this; exact this
   | panicked chain=>exact ⟨a,rfl,hR⟩
   | outgrown=>obtain ⟨a0,w0,hq⟩:=hR; exact ⟨_,w0,a0,rfl,hq⟩
  | row row args=>exact ⟨hd,(GR h r _).mono fun v w'' hR=>by have:=hn _ _ hR; rw [iO] at this; exact this⟩
  | _=>exact h.elim
 | halt x w' =>
  cases x with
  | panic v=>exact ⟨a,rfl,h⟩
  | _=>exact h.elim
theorem dA (h : o.wp P a w (fun a' _=>a'.defers = a.defers) (fun _ _ _=>False)) : ∀ c,o.op ≠ .defer c:=fun c hc=>by
 unfold Oper.wp execOp at h
 rw [hc] at h
 simp only [Sem.run_bind] at h
 revert h
 generalize (resolve a.eval c o.type).run P w = res
 intro h
 cases res with
 | ok d w' =>
  have:=congrArg List.length (show (({ a with defers:=d :: a.defers } : Act).put o.dst undef).defers = a.defers from h)
  rw [put_defers] at this
  simp at this
 | halt x w'=>cases x <;> exact h.elim

def ka (P : Program) (ops : Array Oper) (Q : Exit → Act → World → Prop) (l : List Oper) (a : Act) (w : World) : Prop:=∀ r n ds,wpListIn (RD r) n P ops (tO ds Q) l (more a ds) w
theorem wS (h : Q .normal a w) : ka P ops Q [] a w:=fun _ _ _=>⟨a,rfl,h⟩
theorem mQ {l : List Oper} (hw : Region.wanted o (yielded ops a.tmps) = true) (h : o.wp P a w (ka P ops Q l) Q) (hnd : ∀ c,o.op ≠ .defer c) : ka P ops Q (o :: l) a w:=fun r n ds=>by
 unfold wpListIn
 rw [oH,if_pos hw]
 exact AA hnd h fun a0 w' g=>g r n ds
theorem nA {l : List Oper} (hw : Region.wanted o (yielded ops a.tmps) = false) (h : ka P ops Q l (a.put o.dst undef) w) : ka P ops Q (o :: l) a w:=fun r n ds=>by
 unfold wpListIn
 rw [oH,if_neg (by simpa using hw),← iO]
 exact ⟨fun f _=>Fg r f,h r n ds⟩
def An (P : Program) (ops : Array Oper) (Q : Exit → Act → World → Prop) (i : Nat) (K : Act → World → Prop) (a : Act) (w : World) : Prop :=
 match ops[i]? with
 | none=>K a w
 | some o=>if Region.wanted o (yielded ops a.tmps) then o.wp P a w K Q ∧ ∀ c,o.op ≠ .defer c else K (a.put o.dst undef) w
def jx (P : Program) (md : Region.Mode) (ops : Array Oper) (Q : Exit → Act → World → Prop) : Nat → Array Bool → Act → World → Prop
 | 0,listed,a,w=>Region.ready md ops listed = [] ∧ Q .normal a w
 | fuel + 1,listed,a,w =>
  (Region.ready md ops listed = [] → Q .normal a w) ∧
  ∀ i ∈ Region.ready md ops listed,An P ops Q i (jx P md ops Q fuel (listed.setIfInBounds i true)) a w
theorem jc {md : Region.Mode} (r : Option Nat) (n : Nat) (ds : List Deferred) : ∀ (fuel : Nat) (listed : Array Bool) (a : Act) (w : World),jx P md ops Q fuel listed a w → wpAnyIn (RD r) n P md ops (tO ds Q) fuel listed (more a ds) w
 | 0,_,a,_,h=>⟨h.1,a,rfl,h.2⟩
 | fuel + 1,listed,a,w,h=>⟨fun e=>⟨a,rfl,h.1 e⟩,fun i hi=>by
  have:=h.2 i hi
  unfold An at this
  unfold wpOpIn
  cases ho : ops[i]? with
  | none =>
   rw [ho] at this
   exact jc r n ds fuel _ a w this
  | some o =>
   rw [ho] at this
   simp only at this ⊢
   rw [oH]
   split at this
   ·rename_i hw
    rw [if_pos hw]
    exact AA this.2 this.1 fun a0 w' g=>jc r n ds fuel _ a0 w' g
   ·rename_i hw
    rw [if_neg hw,← iO]
    exact ⟨fun f _=>Fg r f,jc r n ds fuel _ _ w this⟩⟩

theorem gK {c : Code} {Q' : Exit → Act → World → Prop} (h : wpR P c Q a w) (hq : ∀ e a w,Q e a w → Q' e a w) : wpR P c Q' a w:=fun r n ds =>
 wpIn_mono (h r n ds) fun _ _ _ ⟨a0,e,q⟩=>⟨a0,e,hq _ _ _ q⟩
theorem CJ (h : Q .normal a w) : wpR P .skip Q a w:=fun _ _ _=>wpIn_skip ⟨a,rfl,h⟩
theorem Ie (h : Q .ret a w) : wpR P .ret Q a w:=fun _ _ _=>wpIn_ret ⟨a,rfl,h⟩
theorem Fa {id : Nat} (h : Q (.exit id) a w) : wpR P (.exit id) Q a w:=fun _ _ _=>wpIn_exit ⟨a,rfl,h⟩
theorem GP {x y : Code} (h : wpR P x (Exit.then (fun a' w'=>wpR P y Q a' w') Q) a w) : wpR P (.seq x y) Q a w:=fun r n ds =>
 wpIn_seq (wpIn_mono (h r n ds) fun e a' w' ⟨a0,e0,q⟩=>by
  cases e with
  | normal=>subst e0; exact q r n ds
  | _=>exact ⟨a0,e0,q⟩)
theorem kO {c : Operand} {x y : Code} {t : Bool} (hc : a.eval c = .bool t) (ht : t = true → wpR P x Q a w) (hf : t = false → wpR P y Q a w) : wpR P (.cond c x y) Q a w:=fun r n ds =>
 wpIn_cond_split (t:=t) hc (fun e=>ht e r n ds) (fun e=>hf e r n ds)
theorem BN {id : Nat} {c : Code} (h : wpR P c (Exit.inBlock id Q) a w) : wpR P (.block id c) Q a w:=fun r n ds =>
 wpIn_block (wpIn_mono (h r n ds) fun e a' w' ⟨a0,e0,q⟩=>by
  cases e with
  | exit id' =>
   simp only [Exit.inBlock] at q ⊢
   split at q <;> rename_i he
   ·rw [if_pos he]; exact ⟨a0,e0,q⟩
   ·rw [if_neg he]; exact ⟨a0,e0,q⟩
  | _=>exact ⟨a0,e0,q⟩)
theorem Eb {p : Nat → Prop} : ∀ k,p k → ∃ k,p k ∧ ∀ j,p j → k ≤ j:=fun k=>by
 induction k using Nat.strongRecOn with
 | _ k ih =>
  intro h
  by_cases hx : ∃ j,j < k ∧ p j
  ·obtain ⟨j,hj,hp⟩:=hx
   exact ih j hj hp
  ·exact ⟨k,h,fun j hp=>Nat.le_of_not_lt fun hj=>hx ⟨j,hj,hp⟩⟩
theorem dy {p : Nat → Prop} (h : ∃ k,p k) : ∃ k,p k ∧ ∀ j,p j → k ≤ j:=let ⟨k,hk⟩:=h; Eb k hk
open Classical in
theorem D3 {c : Code} (I : Nat → Act → World → Prop) (k₀ : Nat) (h₀ : I k₀ a w) (round : ∀ k a w,I k a w → wpR P c (Exit.then (fun a' w'=>∃ k',k' < k ∧ I k' a' w') Q) a w) : wpR P (.loop c) Q a w:=fun r n ds=>by
 let p : Act → World → Nat → Prop:=fun a' w' k=>∃ a0,a' = more a0 ds ∧ I k a0 w'
 refine wpIn_loop (fun a' w'=>∃ k,p a' w' k) (fun a' w'=>if h : ∃ k,p a' w' k then Classical.choose (dy h) else 0) ⟨k₀,a,rfl,h₀⟩ fun a' w' hI=>?_
 obtain ⟨⟨a0,e0,hk⟩,hmin⟩:=Classical.choose_spec (dy hI)
 have hμ : (if h : ∃ k,p a' w' k then Classical.choose (dy h) else 0) = Classical.choose (dy hI):=dif_pos hI
 rw [hμ]
 generalize Classical.choose (dy hI) = k at hk hmin ⊢
 subst e0
 refine wpIn_mono (round k a0 w' hk r n ds) fun e a2 w2 ⟨a3,e3,q⟩=>?_
 cases e with
 | normal =>
  obtain ⟨k',hlt,hI'⟩:=q
  have hex : ∃ k,p a2 w2 k:=⟨k',a3,e3,hI'⟩
  refine ⟨hex,?_⟩
  rw [dif_pos hex]
  exact Nat.lt_of_le_of_lt ((Classical.choose_spec (dy hex)).2 k' ⟨a3,e3,hI'⟩) hlt
 | _=>exact ⟨a3,e3,q⟩
theorem q9 {id : Nat} {l : List Oper} (h : ka P l.toArray Q l a w) : wpR P (.region id l.toArray false) Q a w:=fun r n ds=>wpIn_region_lit (h r n ds)
theorem sn {id : Nat} (hm : P.follows .mixedOrders = true) (h : jx P .any ops Q ops.size (Array.replicate ops.size false) a { w with drawn:=w.drawn + 1 }) : wpR P (.region id ops true) Q a w:=fun r n ds =>
 wpIn_region_any hm (jc r n ds _ _ a _ h)
theorem vk {c : Code} (h : wpR P c Q a w) : c.wp P Q a w:=by
 have:=h none 0 []
 rw [dO] at this
 exact wpIn_wide.1 (wpIn_mono this fun e a' w' ⟨a0,e0,q⟩=>by rw [e0,dO]; exact q)
end
end Go.Av
end
section
namespace Go.Av
open Go

def Bld (σ : ab) (v : AV) (e : TypeId) (xs : List AV) : Prop:=(v = .au ∧ xs = []) ∨ v = .lit e xs ∨ ∃ tok,v = .own e xs tok ∧ σ[tok]? = some (some .tok)

def ef : AV → Option Nat
 | .own _ _ t=>some t
 | _=>none

structure App (σ : ab) (x : AV) (e : TypeId) (zs : List AV) (v : AV) (σ' : ab) : Prop where
 bld : Bld σ' v e zs
 len : σ.length ≤ σ'.length
 old : ∀ id,id < σ.length → ef x ≠ some id → σ'[id]? = σ[id]?
 tok : ef v = ef x ∨ ∃ t,ef v = some t ∧ σ.length ≤ t

def bytesOf (P : Program) (e : TypeId) : Nat:=match P.info? e with | some i=>i.bytes | none=>0

def dB (σ : ab) (z : AV) (e : TypeId) (ys : List AV) : Prop:=z.ju = some (e,ys) ∨ (z = .au ∧ ys = []) ∨ ∃ id off m zs,z = .row e id off m ∧ σ[id]? = some (some (.cells e zs)) ∧ off + m ≤ zs.length ∧ ys = (zs.drop off).take m

def c7 (σ : ab) (x : AV) (e : TypeId) (xs : List AV) : Prop:=(x = .au ∧ xs = []) ∨ x = .lit e xs ∨ ∃ id off m zs,x = .row e id off m ∧ σ[id]? = some (some (.cells e zs)) ∧ off + m ≤ zs.length ∧ xs = (zs.drop off).take m

def bY (x : AV) (σ : ab) : ab:=match x with | .row _ id _ _=>σ.set id none | _=>σ

def nX (P : Program) (σ : ab) (ts : List TypeId) (x y : AV) (K : AV → ab → Prop) : Prop :=
 match ts with
 | [t,u]=>∃ e xs ys,(elT P t = some e ∧ elT P u = some e ∧ 0 < ae P e ∧ aZ P e = true) ∧ Bld σ x e xs ∧ dB σ y e ys ∧ (xs.length + ys.length) * bytesOf P e ≤ 140737488355328 ∧
   xs.length + ys.length ≤ maxLen ∧ ∀ v σ',App σ x e (xs ++ ys) v σ' → K v σ'
 | _=>False

def ia (P : Program) (σ : ab) (ts : List TypeId) (x y : AV) (K : AV → ab → Prop) : Prop :=
 match ts with
 | [t,u]=>∃ e m z k kn,(x = .au ∧ y = .int k (m : Nat)) ∧ (elT P t = some e ∧ P.underlying u = some (.int kn) ∧ 0 < ae P e ∧ aZ P e = true ∧ zeroOf P e = some z) ∧ 0 < m ∧ m * bytesOf P e ≤ 140737488355328 ∧ m ≤ maxLen ∧
   K (.row e σ.length 0 m) (σ ++ [some (.cells e (List.replicate m z))])
 | _=>False

def jl (P : Program) (σ : ab) (ts : List TypeId) (x y : AV) (K : AV → ab → Prop) : Prop :=
 match ts with
 | [t,u]=>∃ e xs ys,(elT P t = some e ∧ elT P u = some e ∧ 0 < ae P e ∧ aZ P e = true) ∧ c7 σ x e xs ∧ dB σ y e ys ∧ (xs.length + ys.length) * bytesOf P e ≤ 140737488355328 ∧
   xs.length + ys.length ≤ maxLen ∧ (ys = [] → K x σ) ∧ (ys ≠ [] → K (.row e σ.length 0 (xs.length + ys.length)) (bY x σ ++ [some (.cells e (xs ++ ys))]))
 | _=>False

def uH (P : Program) (A : aa) (t : TypeId) (u v : AV) (K : AV → ab → Prop) : Prop :=
 match u,v with
 | .int _ m,.int _ m'=>m' = m ∧ (match elT P t with
  | some e=>(match zeroOf P e with
   | some z=>0 < ae P e ∧ 0 ≤ m ∧ m.toNat * bytesOf P e ≤ 281474976710656 ∧ m.toNat ≤ maxLen ∧ K (.row e A.st.length 0 m.toNat) (A.st ++ [some (.cells e (List.replicate m.toNat z))])
   | none=>False)
  | none=>False)
 | _,_=>False

def gW (zs : List AV) (k : Nat) (ys : List AV) : List AV:=zs.take k ++ ys ++ zs.drop (k + ys.length)

def j5 (P : Program) (σ : ab) (ts : List TypeId) (x y : AV) (K : AV → ab → Prop) : Prop :=
 match ts with
 | [t,u]=>∃ e id off m zs ys,(elT P t = some e ∧ elT P u = some e ∧ 0 < ae P e) ∧ x = .row e id off m ∧ σ[id]? = some (some (.cells e zs)) ∧ dB σ y e ys ∧ off + m + ys.length ≤ zs.length ∧
   K (.row e id off (m + ys.length)) (σ.set id (some (.cells e (gW zs (off + m) ys))))
 | _=>False

def ib (P : Program) (σ : ab) (ts : List TypeId) (x y : AV) (K : AV → ab → Prop) : Prop :=
 match ts with
 | [t,u]=>∃ e id off m zs ys,(elT P t = some e ∧ elT P u = some e ∧ 0 < ae P e ∧ aZ P e = true) ∧ x = .row e id off m ∧ σ[id]? = some (some (.cells e zs)) ∧ off + m = zs.length ∧ dB σ y e ys ∧ (m + ys.length) * bytesOf P e ≤ 140737488355328 ∧ m + ys.length ≤ maxLen ∧
   K (.row e id off (m + ys.length)) (σ.set id (some (.cells e (zs ++ ys)))) ∧ K (.row e σ.length 0 (m + ys.length)) (σ ++ [some (.cells e (zs.drop off ++ ys))])
 | _=>False

def iW (P : Program) (σ : ab) (ts : List TypeId) (x y : AV) (K : AV → ab → Prop) : Prop :=
 match ts with
 | [t,u]=>∃ e xs l,(elT P t = some e ∧ bH P u = true ∧ eB P e = some .u8 ∧ ae P e = 1 ∧ cb P e = true ∧ aZ P e = true) ∧ Bld σ x e xs ∧ y = .str l ∧ (xs.length + l.length) * bytesOf P e ≤ 140737488355328 ∧
   xs.length + l.length ≤ maxLen ∧ ∀ v σ',App σ x e (xs ++ l.map cT) v σ' → K v σ'
 | _=>False
def Aw (P : Program) (σ : ab) (s d : TypeId) (u : AV) (K : AV → ab → Prop) : Prop :=
 (∃ l e,u = .str l ∧ (bH P s = true ∧ elT P d = some e ∧ eB P e = some .u8 ∧ ae P e = 1 ∧ cb P e = true) ∧ K (.row e σ.length 0 l.length) (σ ++ [some (.cells e (l.map cT))])) ∨
 (∃ l e,dB σ u e (l.map cT) ∧ (elT P s = some e ∧ eB P e = some .u8 ∧ ae P e = 1 ∧ bH P d = true) ∧ K (.str l) σ) ∨
 (∃ e id off m xs,u = .row e id off m ∧ (s = d ∧ elT P s = some e ∧ eB P e = some .u8) ∧ 0 < m ∧ σ[id]? = some (some (.cells e xs)) ∧ off + m ≤ xs.length ∧ K (.sl e ((xs.drop off).take m)) (σ.set id none))
def mq (P : Program) (σ : ab) (t : TypeId) (m : Nat) (qs : List (Nat × AV)) (K : AV → ab → Prop) : Prop :=
 match elT P t with
 | some e=>(0 < ae P e ∧ aZ P e = true ∧ m * ae P e ≤ 16777216 ∧ qs.map (·.1) = List.range' 0 m ∧ qs.all (fun p=>bf P e p.2) = true) ∧ K (.row e σ.length 0 m) (σ ++ [some (.cells e (qs.map (·.2)))])
 | none=>False

def qi (P : Program) (σ : ab) (ts : List TypeId) (x : AV) (K : ab → Prop) : Prop :=
 match ts with
 | [t]=>∃ e id off m zs v,(elT P t = some e ∧ 0 < ae P e ∧ zeroOf P e = some v) ∧ x = .row e id off m ∧ σ[id]? = some (some (.cells e zs)) ∧ off + m ≤ zs.length ∧
   K (σ.set id (some (.cells e (gW zs off (List.replicate m v)))))
 | _=>False

def zh (P : Program) (A : aa) (t : TypeId) (u : AV) (lo hi mx : Option Operand) (K : AV → Prop) : Prop :=
 match u with
 | .row e id off m=>(elT P t = some e ∧ 0 < ae P e) ∧ (match mx with
  | none=>eK none A lo 0 fun p=>eK none A hi m fun q=>(p ≤ q ∧ ∃ te zs,A.st[id]? = some (some (.cells te zs)) ∧ off + q ≤ zs.length) ∧ K (.row e id (off + p) (q - p))
  | some _=>(lo.isSome = true ∧ hi.isSome = true) ∧ eK none A lo 0 fun p=>eK none A hi m fun q=>eK none A mx m fun r=>(p ≤ q ∧ q ≤ r ∧ r ≤ m) ∧ K .undef)
 | _=>False

def tX (P : Program) (σ : ab) (t : TypeId) (u k v : AV) (K : ab → Prop) : Prop :=
 match u with
 | .mp id=>∃ kt vt l,nQ P t = some (kt,vt) ∧ Maps.Keyed P kt ∧ BR P kt k ∧ (mj v).isSome = true ∧ σ[id]? = some (some (.mp kt l)) ∧ K (σ.set id (some (.mp kt (zp P l k v))))
 | _=>False

def jZ (P : Program) (fz : List Nat) (A : aa) (t : TypeId) (x : Operand) (u v : AV) (K : aa → Prop) : Prop :=
 match u with
 | .ptr t' id i path=>(t' = t ∧ bf P t v = true) ∧ (match A.st[id]? with
  | some (some (.cells te xs))=>(match xs[i]? with
   | some z=>(match z.at path with
    | some _=>(match x with
     | .tmp d=>if fz.contains d then path = [] ∧ K ((A.upd d (.loc t v)).ag (A.st.set id none)) else K (A.ag (A.st.set id (some (.cells te (xs.set i (z.setAt path v))))))
     | _=>False)
    | none=>False)
   | none=>False)
  | _=>False)
 | _=>False

def gY (n : Nat) : Option Nat → Prop
 | some d=>d < n
 | none=>True

def sv (P : Program) (W0 : World) (n : Nat) (fz : List Nat) (o : Oper) (A : aa) (K : aa → Prop) : Prop :=
 gY n o.dst ∧ (match o.op with
 | .call c=>(match c.callee with
  | .value f=>strip none (A.val f) fun fv=>stripL none (c.args.toList.map A.val) fun us=>(match fv with
   | .fn g caps=>aU P W0 g (us ++ caps) A.st fun r σ'=>K ((A.put o.dst r).ag (σ'))
   | _=>False)
  | .builtin .append=>stripL none (c.args.toList.map A.val) fun us=>(match us with
   | [x,y]=>(nX P A.st c.argTypes.toList x y fun v σ'=>K ((A.put o.dst v).ag (σ'))) ∨ (jl P A.st c.argTypes.toList x y fun v σ'=>K ((A.put o.dst v).ag (σ'))) ∨ (ia P A.st c.argTypes.toList x y fun v σ'=>K ((A.put o.dst v).ag (σ'))) ∨ j5 P A.st c.argTypes.toList x y (fun v σ'=>K ((A.put o.dst v).ag (σ'))) ∨ ib P A.st c.argTypes.toList x y (fun v σ'=>K ((A.put o.dst v).ag (σ'))) ∨ iW P A.st c.argTypes.toList x y fun v σ'=>K ((A.put o.dst v).ag (σ'))
   | _=>False)
  | .builtin .clear=>stripL none (c.args.toList.map A.val) fun us=>(match us with
   | [x]=>qi P A.st c.argTypes.toList x fun σ'=>K ((A.put o.dst (.tup [])).ag (σ'))
   | _=>False)
  | _=>iC P W0 none o.op A fun v=>K (A.put o.dst v))
 | .box t x=>(match o.dst with
  | some d=>if fz.contains d then strip none (A.val x) fun v=>bf P t v = true ∧ K (A.upd d (.loc t v))
   else strip none (A.val x) fun v=>bf P t v = true ∧ K ((A.upd d (.ptr t A.st.length 0 [])).ag (A.st ++ [some (.cells t [v])]))
  | none=>False)
 | .alloc t=>(match zeroOf P t with
  | some v=>K ((A.put o.dst (.ptr t A.st.length 0 [])).ag (A.st ++ [some (.cells t [v])]))
  | none=>False)
 | .makeSlice t x y=>strip none (A.val x) fun u=>strip none (A.val y) fun v=>uH P A t u v fun r σ'=>K ((A.put o.dst r).ag σ')
 | .store t x y=>strip none (A.val x) fun u=>strip none (A.val y) fun v=>jZ P fz A t x u v fun A'=>K (A'.put o.dst .undef)
 | .range t x=>bH P t = true ∧ strip none (A.val x) fun u=>(match u with
  | .str l=>K ((A.put o.dst (.it A.st.length)).ag (A.st ++ [some (.iter l 0)]))
  | _=>False)
 | .next x true=>strip none (A.val x) fun u=>(match u with
  | .it id=>(match A.st[id]? with
   | some (some (.iter l pos))=>(pos < l.length → K ((A.put o.dst (.tup [.bool true,.int .i64 pos,.int .i32 (fV l pos).1])).ag (A.st.set id (some (.iter l (pos + (fV l pos).2)))))) ∧ (l.length ≤ pos → K (A.put o.dst (.tup [.bool false])))
   | _=>False)
  | _=>False)
 | .slice t x lo hi mx=>(iC P W0 none o.op A fun v=>K (A.put o.dst v)) ∨ strip none (A.val x) fun u=>zh P A t u lo hi mx fun v=>K (A.put o.dst v)
 | .convert s d x=>(iC P W0 none o.op A fun v=>K (A.put o.dst v)) ∨ strip none (A.val x) fun u=>Aw P A.st s d u fun v σ'=>K ((A.put o.dst v).ag (σ'))
 | .buildSlice t m ps=>(iC P W0 none o.op A fun v=>K (A.put o.dst v)) ∨ lY none A ps.toList fun qs=>mq P A.st t m qs fun v σ'=>K ((A.put o.dst v).ag (σ'))
 | .makeMap t none=>(match nQ P t with
  | some (kt,_)=>K ((A.put o.dst (.mp A.st.length)).ag (A.st ++ [some (.mp kt [])]))
  | none=>False)
 | .mapUpdate t x ix y=>strip none (A.val x) fun u=>strip none (A.val ix) fun k=>strip none (A.val y) fun v=>tX P A.st t u k v fun σ'=>K ((A.put o.dst .undef).ag (σ'))
 | _=>iC P W0 none o.op A fun v=>K (A.put o.dst v))

def wW (ops : Array Oper) (A : aa) (j : Nat) (want : Bool) : Option Bool :=
 match (ops[j]?).bind (·.dst) with
 | some d=>(match A.env d with
  | .bool b=>some (b == want)
  | .maybe g (.bool b)=>some (g && (b == want))
  | .maybe false _=>some false
  | _=>none)
 | none=>none

def nk (P : Program) (W0 : World) (n : Nat) (fz : List Nat) (ops : Array Oper) : List Oper → (aa → Prop) → aa → Prop
 | [],K,A=>K A
 | o :: r,K,A=>match o.guard with
  | none=>sv P W0 n fz o A fun A'=>nk P W0 n fz ops r K A'
  | some (j,want)=>(match wW ops A j want with
   | some G=>gY n o.dst ∧ ((iC P W0 (some G) o.op A fun v=>nk P W0 n fz ops r K (A.put o.dst (.maybe G v))) ∨
    ((G = true → sv P W0 n fz o A fun A'=>nk P W0 n fz ops r K A') ∧ (G = false → ∃ v,nk P W0 n fz ops r K (A.put o.dst (.maybe false v)))))
   | none=>False)

def VC (P : Program) (W0 : World) (n : Nat) (c : Code) (Q : Exit → aa → Prop) (A : aa) : Prop :=
 ∀ w C a,bE P W0 n w C A a → wpR P c (fun e a' w'=>∃ A' C',Q e A' ∧ bE P W0 n w' C' A' a' ∧ Step w C w' C') a w

section
variable {P : Program} {W0 w w' : World} {C C' : Ctx} {σ σ' : ab} {n : Nat} {A : aa} {a : Act} {o : Oper} {Q : Exit → aa → Prop}

theorem VC.skip (h : Q .normal A) : VC P W0 n .skip Q A:=fun _ C _ hr=>CJ ⟨A,C,h,hr,.refl _ _⟩
theorem VC.ret (h : Q .ret A) : VC P W0 n .ret Q A:=fun _ C _ hr=>Ie ⟨A,C,h,hr,.refl _ _⟩
theorem VC.exit {id : Nat} (h : Q (.exit id) A) : VC P W0 n (.exit id) Q A:=fun _ C _ hr=>Fa ⟨A,C,h,hr,.refl _ _⟩

theorem VC.mono {c : Code} {Q' : Exit → aa → Prop} (h : VC P W0 n c Q A) (hq : ∀ e A,Q e A → Q' e A) : VC P W0 n c Q' A :=
 fun w C a hr=>gK (h w C a hr) fun _ _ _ ⟨A',C',q,r,s⟩=>⟨A',C',hq _ _ q,r,s⟩

def bS (K : aa → Prop) (Q : Exit → aa → Prop) : Exit → aa → Prop
 | .normal,A=>K A
 | e,A=>Q e A

theorem VC.seq {x y : Code} (h : VC P W0 n x (bS (VC P W0 n y Q) Q) A) : VC P W0 n (.seq x y) Q A:=fun w C a hr =>
 GP (gK (h w C a hr) fun e a' w' ⟨A',C',q,r,s⟩=>by
  cases e with
  | normal=>exact gK (q w' C' a' r) fun _ _ _ ⟨A'',C'',q',r',s'⟩=>⟨A'',C'',q',r',s.trans s'⟩
  | _=>exact ⟨A',C',q,r,s⟩)

theorem VC.cond {c : Operand} {x y : Code} {b : Bool} (hc : A.val c = .bool b) (ht : b = true → VC P W0 n x Q A) (hf : b = false → VC P W0 n y Q A) : VC P W0 n (.cond c x y) Q A:=fun w C a hr=>by
 have hv:=hr.val c
 rw [hc] at hv
 exact kO hv.fx (fun h=>ht h w C a hr) (fun h=>hf h w C a hr)

def dh (id : Nat) (Q : Exit → aa → Prop) : Exit → aa → Prop
 | .exit id',A=>if id' = id then Q .normal A else Q (.exit id') A
 | e,A=>Q e A

theorem VC.block {id : Nat} {c : Code} (h : VC P W0 n c (dh id Q) A) : VC P W0 n (.block id c) Q A:=fun w C a hr =>
 BN (gK (h w C a hr) fun e a' w' ⟨A',C',q,r,s⟩=>by
  cases e with
  | exit id' =>
   simp only [dh] at q
   simp only [Exit.inBlock]
   split at q
   ·rename_i he; rw [if_pos he]; exact ⟨A',C',q,r,s⟩
   ·rename_i he; rw [if_neg he]; exact ⟨A',C',q,r,s⟩
  | _=>exact ⟨A',C',q,r,s⟩)

theorem VC.loop {c : Code} (I : Nat → aa → Prop) (k₀ : Nat) (h₀ : I k₀ A) (round : ∀ k A,I k A → VC P W0 n c (bS (fun A'=>∃ k',k' < k ∧ I k' A') Q) A) : VC P W0 n (.loop c) Q A:=fun w C a hr =>
 D3 (fun k a' w'=>∃ A' C',I k A' ∧ bE P W0 n w' C' A' a' ∧ Step w C w' C') k₀ ⟨A,C,h₀,hr,.refl _ _⟩ fun k a' w' ⟨A',C',hI,hr',hs⟩ =>
  gK (round k A' hI w' C' a' hr') fun e a'' w'' ⟨A'',C'',q,r,s⟩=>by
   cases e with
   | normal =>
    obtain ⟨k',hk,hI'⟩:=q
    exact ⟨k',hk,A'',C'',hI',r,hs.trans s⟩
   | _=>exact ⟨A'',C'',q,r,hs.trans s⟩

theorem ki (hr : bE P W0 n w C A a) {v : AV} {x : Value} (hd : gY n o.dst) (hv : az P w C v x) : bE P W0 n w C (A.put o.dst v) (a.put o.dst x):=by
 cases ho : o.dst with
 | none=>simpa [aa.put,Act.put] using hr
 | some d =>
  rw [ho] at hd
  exact hr.put hd hv

theorem jI (hr : bE P W0 n w C A a) {v : AV} {x : Value} (hd : gY n o.dst) (hs : Step w C w' C') (hst : aw P W0 w' C' σ') (hv : az P w' C' v x) : bE P W0 n w' C' ((A.put o.dst v).ag (σ')) (a.put o.dst x):=by
 have h1:=hr.step hs hst
 have h2:=ki (o:=o) h1 hd hv
 cases ho : o.dst with
 | none=>rw [ho] at h2; exact h2
 | some d=>rw [ho] at h2; exact h2

end
end Go.Av
end
section
namespace Go.Av
open Go

section
variable {P : Program} {W0 w w' : World} {C C' : Ctx} {σ σ' : ab} {n : Nat} {A : aa} {a : Act} {o : Oper}

theorem gh {e : TypeId} {xs : List AV} {cf : Nat → List Value} {b off : Nat} (h3 : ∀ (i : Nat) (x : AV),xs[i]? = some x → Rel P w C x (cf i)) (h4 : ∀ i x,xs[i]? = some x → (cf i).length = ae P e ∧ fits P e x)
  (h5 : ∀ i,i < xs.length → Cells w C b (off + i * ae P e) (cf i)) :
  ∃ news : List Value,news.length = xs.length * ae P e ∧ (∀ (j : Nat) (u : Value),news[j]? = some u → w.cell? ⟨b,off + j,none⟩ = some u) ∧ (∀ u ∈ news,u.oneCell' = true) ∧
   ∀ i x,xs[i]? = some x → ∀ (j : Nat) (u : Value),(cf i)[j]? = some u → news[i * ae P e + j]? = some u:=by
 have key : ∀ k,k ≤ xs.length → ∃ news : List Value,news.length = k * ae P e ∧ (∀ (j : Nat) (u : Value),news[j]? = some u → w.cell? ⟨b,off + j,none⟩ = some u) ∧ (∀ u ∈ news,u.oneCell' = true) ∧
   ∀ i x,i < k → xs[i]? = some x → ∀ (j : Nat) (u : Value),(cf i)[j]? = some u → news[i * ae P e + j]? = some u:=by
  intro k
  induction k with
  | zero=>intro _; exact ⟨[],by simp,by simp,by simp,fun i x hi=>absurd hi (by omega)⟩
  | succ k ih =>
   intro hk
   obtain ⟨news,g1,g2,g3,g4⟩:=ih (by omega)
   have hx:=List.getElem?_eq_getElem (show k < xs.length by omega)
   have hl:=(h4 k _ hx).1
   refine ⟨news ++ cf k,by simp [g1,hl,Nat.succ_mul],fun j u hj=>?_,fun u hu=>?_,fun i x hi hxi j u hj=>?_⟩
   ·by_cases hjl : j < news.length
    ·rw [List.getElem?_append_left hjl] at hj; exact g2 j u hj
    ·rw [List.getElem?_append_right (by omega),g1] at hj
     have:=(h5 k (by omega) _ u hj).1
     rwa [show off + k * ae P e + (j - k * ae P e) = off + j by omega] at this
   ·rcases List.mem_append.1 hu with hu | hu
    ·exact g3 u hu
    ·exact (h3 k _ hx).km u hu
   ·by_cases hik : i = k
    ·subst hik
     rw [List.getElem?_append_right (by omega),g1,Nat.add_sub_cancel_left]
     exact hj
    ·have hjl : j < ae P e:=by rw [← (h4 i x hxi).1]; exact (List.getElem?_eq_some_iff.1 hj).1
     have : (i + 1) * ae P e ≤ k * ae P e:=Nat.mul_le_mul_right _ (by omega)
     rw [Nat.succ_mul] at this
     rw [List.getElem?_append_left (by omega)]
     exact g4 i x (by omega) hxi j u hj
 obtain ⟨news,g1,g2,g3,g4⟩:=key xs.length (Nat.le_refl _)
 exact ⟨news,g1,g2,g3,fun i x hx=>g4 i x (List.getElem?_eq_some_iff.1 hx).1 hx⟩

theorem pd (h : aw P W0 w C σ) {e te : TypeId} {id off m : Nat} {xs : List AV} {v : Value} (hv : az P w C (.row e id off m) v) (hs : σ[id]? = some (some (.cells te xs))) (_hm : off + m ≤ xs.length) :
  ∃ (ad : Option Addr) (cap : Nat) (cf : Nat → List Value),v = .slice ad m cap ∧ m ≤ cap ∧ cap ≤ maxLen ∧ te = e ∧ (∀ (i : Nat) (x : AV),((xs.drop off).take m)[i]? = some x → Rel P w C x (cf i)) ∧
   (∀ i x,((xs.drop off).take m)[i]? = some x → (cf i).length = ae P e ∧ fits P e x) ∧ ∃ b base room arr t' fr,C.m id = some (.obj b e base room) ∧ w.heap[b]? = some (.cells arr t' fr) ∧ qd fr arr.size ∧ arr.size = room ∧
    (0 < cap → ad = some ⟨b,base + off * ae P e,none⟩) ∧ base + (off + cap) * ae P e = room ∧
    (∀ i x,((xs.drop off).take m)[i]? = some x → ∀ (j : Nat) (c : Value),(cf i)[j]? = some c → arr[base + off * ae P e + i * ae P e + j]? = some c):=by
 have hv':=hv.aA rfl
 obtain ⟨b,base,room,arr,t',fr,m1,m2,mf,m3,m4,cf,m5⟩:=h.cells hs
 have hget : ∀ i x,((xs.drop off).take m)[i]? = some x → xs[off + i]? = some x:=fun i x hx=>by
  rw [List.getElem?_take] at hx
  split at hx
  ·rwa [List.getElem?_drop] at hx
  ·cases hx
 cases hv' with
 | row h1 h2 h3 h4 =>
  obtain ⟨b',base',room',e1,e2,e3⟩:=h4 _ m1
  cases e1
  refine ⟨_,_,fun i=>cf (off + i),rfl,h1,h2,rfl,fun i x hx=>(m5 _ _ (hget i x hx)).1,fun i x hx=>⟨(m5 _ _ (hget i x hx)).2.1,(m5 _ _ (hget i x hx)).2.2.1⟩,b,base,room,arr,t',fr,m1,m2,mf,m3,e2,e3,fun i x hx j c hj=>?_⟩
  have:=(m5 _ _ (hget i x hx)).2.2.2 j c hj
  rwa [show base + off * ae P e + i * ae P e + j = base + (off + i) * ae P e + j by rw [Nat.add_mul]; omega]

theorem dB.cells (h : aw P W0 w C σ) {z : AV} {e : TypeId} {ys : List AV} {v : Value} (hr : dB σ z e ys) (hv : az P w C z v) :
  ∃ (ad : Option Addr) (cap : Nat) (cf : Nat → List Value),v = .slice ad ys.length cap ∧ (∀ (i : Nat) (x : AV),ys[i]? = some x → Rel P w C x (cf i)) ∧ (∀ i x,ys[i]? = some x → (cf i).length = ae P e ∧ fits P e x) ∧
   (0 < ys.length → ∃ b off,ad = some ⟨b,off,none⟩ ∧ ∃ news : List Value,news.length = ys.length * ae P e ∧ (∀ (j : Nat) (u : Value),news[j]? = some u → w.cell? ⟨b,off + j,none⟩ = some u) ∧ (∀ u ∈ news,u.oneCell' = true) ∧
    ∀ i x,ys[i]? = some x → ∀ (j : Nat) (u : Value),(cf i)[j]? = some u → news[i * ae P e + j]? = some u):=by
 rcases hr with hr | ⟨rfl,rfl⟩ | ⟨id,off,m,zs,rfl,hs,hm,rfl⟩
 ·obtain ⟨hcase,hone⟩:=AV.kD hr
  obtain ⟨ad,capy,cfy,hye,y1,y2,y3,y4,y5⟩:=(hv.aA hone).lf hcase
  refine ⟨ad,capy,cfy,hye,y3,y4,fun hpos=>?_⟩
  obtain ⟨b,off,e1,y6⟩:=y5 hpos
  exact ⟨b,off,e1,gh y3 y4 y6⟩
 ·exact ⟨none,0,fun _=>[],hv.cR,by simp,by simp,by simp⟩
 ·obtain ⟨ad,cap,cf,hve,g1,g2,_,g3,g4,b,base,room,arr,t',fr,m1,m2,mf,m3,g5,g6,g7⟩:=pd h hv hs hm
  have hlen : ((zs.drop off).take m).length = m:=by simp; omega
  rw [hlen]
  refine ⟨ad,cap,cf,hve,g3,g4,fun hpos=>⟨b,base + off * ae P e,g5 (by omega),?_⟩⟩
  have key : ∀ k,k ≤ m → ∃ news : List Value,news.length = k * ae P e ∧ (∀ (j : Nat) (u : Value),news[j]? = some u → w.cell? ⟨b,base + off * ae P e + j,none⟩ = some u) ∧ (∀ u ∈ news,u.oneCell' = true) ∧
    ∀ i x,i < k → ((zs.drop off).take m)[i]? = some x → ∀ (j : Nat) (u : Value),(cf i)[j]? = some u → news[i * ae P e + j]? = some u:=by
   intro k
   induction k with
   | zero=>intro _; exact ⟨[],by simp,by simp,by simp,fun i x hi=>absurd hi (by omega)⟩
   | succ k ih =>
    intro hk
    obtain ⟨news,n1,n2,n3,n4⟩:=ih (by omega)
    have hx:=List.getElem?_eq_getElem (show k < ((zs.drop off).take m).length by omega)
    have hl:=(g4 k _ hx).1
    refine ⟨news ++ cf k,by simp [n1,hl,Nat.succ_mul],fun j u hj=>?_,fun u hu=>?_,fun i x hi hxi j u hj=>?_⟩
    ·by_cases hjl : j < news.length
     ·rw [List.getElem?_append_left hjl] at hj; exact n2 j u hj
     ·rw [List.getElem?_append_right (by omega),n1] at hj
      have:=g7 k _ hx _ u hj
      rw [show base + off * ae P e + k * ae P e + (j - k * ae P e) = base + off * ae P e + j by omega] at this
      simp [World.cell?,m2,this]
    ·rcases List.mem_append.1 hu with hu | hu
     ·exact n3 u hu
     ·exact (g3 k _ hx).km u hu
    ·by_cases hik : i = k
     ·subst hik
      rw [List.getElem?_append_right (by omega),n1,Nat.add_sub_cancel_left]
      exact hj
     ·have hjl : j < ae P e:=by rw [← (g4 i x hxi).1]; exact (List.getElem?_eq_some_iff.1 hj).1
      have : (i + 1) * ae P e ≤ k * ae P e:=Nat.mul_le_mul_right _ (by omega)
      rw [Nat.succ_mul] at this
      rw [List.getElem?_append_left (by omega)]
      exact n4 i x (by omega) hxi j u hj
  obtain ⟨news,n1,n2,n3,n4⟩:=key m (Nat.le_refl _)
  exact ⟨news,n1,n2,n3,fun i x hx=>n4 i x (by have:=(List.getElem?_eq_some_iff.1 hx).1; omega) hx⟩

end
end Go.Av
end
