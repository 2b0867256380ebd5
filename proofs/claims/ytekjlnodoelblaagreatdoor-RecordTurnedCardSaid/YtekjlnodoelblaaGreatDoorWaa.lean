/- Texts that the last one of this claim rests on: a layer over the guide's own conditions for code; contracts of the functions that the law reaches, one by one. No conditions beside those of the given rows. -/
import Derived.WalkKit
import Derived.WalkSpells
import Derived.WalkLawsBesides
import Derived.Laws.StructEq
import Derived.Laws.Concat
import Derived.Laws.BytesArg
import Derived.Laws.BytesString
import Derived.Lib.Strings
import Derived.Maps.Keyed
import Derived.Deep.LoopGhost
set_option linter.unusedSimpArgs false
set_option linter.unusedVariables false
section
namespace Go.Av
open Go

inductive AV where
 | undef
 | int (k : IntKind) (n : Int)
 | bool (b : Bool)
 | str (l : List UInt8)
 | nil
 | nils
 | nilm
 | niface
 | iface (t : TypeId) (v : AV)
 | sl (e : TypeId) (xs : List AV)
 | lit (e : TypeId) (xs : List AV)
 | own (e : TypeId) (xs : List AV) (tok : Nat)
 | row (e : TypeId) (id off n : Nat)
 | agg (t : TypeId) (fs : List AV)
 | loc (t : TypeId) (v : AV)
 | ptr (t : TypeId) (id i : Nat) (path : List Nat)
 | it (id : Nat)
 | mp (id : Nat)
 | fn (f : FuncId) (caps : List AV)
 | tup (vs : List AV)
 | maybe (g : Bool) (v : AV)
 deriving Inhabited

inductive SObj where
 | cells (t : TypeId) (xs : List AV)
 | tok
 | iter (l : List UInt8) (pos : Nat)
 | mp (kt : TypeId) (l : List (AV × AV))
 deriving Inhabited

abbrev Store:=List (Option SObj)

inductive Own where
 | obj (b : Nat) (t : TypeId) (base room : Nat)
 | tok (b : Nat) (e : TypeId) (hw cap : Nat)
 | iter (b : Nat)
 | mp (b : Nat)
 deriving Inhabited

def Own.blk : Own → Nat
 | .obj b _ _ _=>b
 | .tok b _ _ _=>b
 | .iter b=>b
 | .mp b=>b

structure Ctx where
 m : Nat → Option Own
 nx : Nat

def szOf (P : Program) (t : TypeId) : Nat:=match P.info? t with | some i=>i.size | none=>0

def fldsOk (P : Program) : List Field → Nat → Nat → Bool
 | [],o,n=>o == n
 | f :: r,o,n=>f.offset == o && (decide (0 < szOf P f.type) && fldsOk P r (o + szOf P f.type) n)

def flds (P : Program) (t : TypeId) : Option (List TypeId) :=
 match P.underlying t with
 | some (.struct fs)=>if fldsOk P fs.toList 0 (szOf P t) && decide (0 < szOf P t) then some (fs.toList.map (·.type)) else none
 | some (.array n e)=>if szOf P t == n * szOf P e && decide (0 < szOf P t) then some (List.replicate n e) else none
 | _=>none

def prim (P : Program) (t : TypeId) : Bool :=
 match P.underlying t with
 | some (.struct _) | some (.array _ _) | none=>false
 | some _=>szOf P t == 1

def elT (P : Program) (t : TypeId) : Option TypeId :=
 match P.underlying t with
 | some (.slice e)=>some e
 | _=>none

def offAt (P : Program) (ts : List TypeId) (k : Nat) : Nat:=((ts.take k).map (szOf P)).sum

def place (P : Program) (te : TypeId) : List Nat → Option (TypeId × Nat)
 | []=>some (te,0)
 | k :: r=>(flds P te).bind fun ts=>ts[k]?.bind fun ty=>(place P ty r).map fun (t,o)=>(t,offAt P ts k + o)

def AV.isOne : AV → Bool
 | .agg _ _ | .undef | .maybe _ _ | .tup _=>false
 | _=>true

def fits (P : Program) (t : TypeId) (x : AV) : Prop :=
 match x with
 | .agg t' _=>t' = t ∧ (flds P t).isSome = true
 | x=>x.isOne = true ∧ prim P t = true

def Stable (w : World) (C : Ctx) (b o : Nat) : Prop :=
 b < w.heap.size ∧ ∀ id ow,C.m id = some ow → ow.blk = b → ∃ e hw cap,ow = .tok b e hw cap ∧ o < hw

def Cells (w : World) (C : Ctx) (b o : Nat) (cs : List Value) : Prop :=
 ∀ j c,cs[j]? = some c → w.cell? ⟨b,o + j,none⟩ = some c ∧ Stable w C b (o + j)

def SlReads (w : World) (C : Ctx) (size : Nat) (a : Option Addr) (n : Nat) (cf : Nat → List Value) : Prop :=
 0 < n → ∃ b o,a = some ⟨b,o,none⟩ ∧ ∀ i,i < n → Cells w C b (o + i * size) (cf i)

inductive Rel (P : Program) (w : World) (C : Ctx) : AV → List Value → Prop
 | int (k n) : Rel P w C (.int k n) [.int k n]
 | bool (b) : Rel P w C (.bool b) [.bool b]
 | str {l} : l.length ≤ maxLen → Rel P w C (.str l) [.string ⟨l.toArray⟩]
 | nil : Rel P w C .nil [.pointer none]
 | nils : Rel P w C .nils [.slice none 0 0]
 | nilm : Rel P w C .nilm [.map none]
 | niface : Rel P w C .niface [.nilIface]
 | iface {t v x} : v.isOne = true → Rel P w C v [x] → Rel P w C (.iface t v) [.iface t x]
 | sl {e xs a cap} (cf : Nat → List Value) : xs.length ≤ cap → cap ≤ maxLen → (∀ (i : Nat) (x : AV),xs[i]? = some x → Rel P w C x (cf i)) →
   (∀ i x,xs[i]? = some x → (cf i).length = szOf P e ∧ fits P e x) → SlReads w C (szOf P e) a xs.length cf → Rel P w C (.sl e xs) [.slice a xs.length cap]
 | lit {e xs a} (cf : Nat → List Value) : xs.length ≤ maxLen → (∀ (i : Nat) (x : AV),xs[i]? = some x → Rel P w C x (cf i)) →
   (∀ i x,xs[i]? = some x → (cf i).length = szOf P e ∧ fits P e x) → SlReads w C (szOf P e) a xs.length cf → Rel P w C (.lit e xs) [.slice a xs.length xs.length]
 | own {e xs tok b cap} (cf : Nat → List Value) : xs.length ≤ cap → cap ≤ maxLen → (∀ (i : Nat) (x : AV),xs[i]? = some x → Rel P w C x (cf i)) →
   (∀ i x,xs[i]? = some x → (cf i).length = szOf P e ∧ fits P e x) → SlReads w C (szOf P e) (some ⟨b,0,none⟩) xs.length cf →
   tok < C.nx → (∀ ow,C.m tok = some ow → ow = .tok b e (xs.length * szOf P e) cap) → Rel P w C (.own e xs tok) [.slice (some ⟨b,0,none⟩) xs.length cap]
 | row {e id off n a cap} : n ≤ cap → cap ≤ maxLen → id < C.nx →
   (∀ ow,C.m id = some ow → ∃ b base room,ow = .obj b e base room ∧ (0 < cap → a = some ⟨b,base + off * szOf P e,none⟩) ∧ base + (off + cap) * szOf P e = room) → Rel P w C (.row e id off n) [.slice a n cap]
 | agg {t ts fs} {cs : List Value} (cf : Nat → List Value) : flds P t = some ts → fs.length = ts.length → cs.length = szOf P t → (∀ c ∈ cs,c.oneCell' = true) → (∀ (i : Nat) (x : AV),fs[i]? = some x → Rel P w C x (cf i)) →
   (∀ i x ty,fs[i]? = some x → ts[i]? = some ty → (cf i).length = szOf P ty ∧ fits P ty x ∧ ∀ (j : Nat) (u : Value),(cf i)[j]? = some u → cs[offAt P ts i + j]? = some u) → Rel P w C (.agg t fs) cs
 | loc {t v cs b o} : Rel P w C v cs → fits P t v → cs.length = szOf P t → Cells w C b o cs → Rel P w C (.loc t v) [.pointer (some ⟨b,o,none⟩)]
 | ptr {t id i path a} : id < C.nx → (∀ ow,C.m id = some ow → ∃ b te base room off,ow = .obj b te base room ∧ place P te path = some (t,off) ∧ a = ⟨b,base + i * szOf P te + off,none⟩) →
   Rel P w C (.ptr t id i path) [.pointer (some a)]
 | it {id a} : id < C.nx → (∀ ow,C.m id = some ow → ∃ b,ow = .iter b ∧ a = ⟨b,0,none⟩) → Rel P w C (.it id) [.pointer (some a)]
 | mp {id r} : id < C.nx → (∀ ow,C.m id = some ow → ow = .mp r) → Rel P w C (.mp id) [.map (some r)]
 | fn {f caps} {vs : List Value} : caps.length = vs.length → (∀ (i : Nat) (c : AV),caps[i]? = some c → c.isOne = true) → (∀ (i : Nat) (c : AV) (v : Value),caps[i]? = some c → vs[i]? = some v → Rel P w C c [v]) → Rel P w C (.fn f caps) [.func (.func f) #[] vs.toArray]

inductive RelV (P : Program) (w : World) (C : Ctx) : AV → Value → Prop
 | undef (v) : RelV P w C .undef v
 | maybe {g a v} : (g = true → RelV P w C a v) → (g = false → v = Go.undef) → RelV P w C (.maybe g a) v
 | tup {as} {vs : List Value} : as.length = vs.length → (∀ (i : Nat) (a : AV) (v : Value),as[i]? = some a → vs[i]? = some v → RelV P w C a v) → RelV P w C (.tup as) (.tuple vs.toArray)
 | agg {t fs} {cs : List Value} : Rel P w C (.agg t fs) cs → RelV P w C (.agg t fs) (.agg cs.toArray)
 | one {a v} : a.isOne = true → Rel P w C a [v] → RelV P w C a v

structure Step (w : World) (C : Ctx) (w' : World) (C' : Ctx) : Prop where
 nx : C.nx ≤ C'.nx
 dead : ∀ id ow,id < C.nx → C'.m id = some ow → C.m id = some ow
 stable : ∀ b o,Stable w C b o → w'.cell? ⟨b,o,none⟩ = w.cell? ⟨b,o,none⟩ ∧ Stable w' C' b o
 os : w'.os = w.os
 tape : w'.tape = w.tape
 output : w'.output = w.output
 size : w.heap.size ≤ w'.heap.size
 block : ∀ b,b < w.heap.size → (∀ id ow,C.m id = some ow → ow.blk ≠ b) → w'.heap[b]? = w.heap[b]? ∧ ∀ id ow,C'.m id = some ow → ow.blk ≠ b

theorem Step.refl (w : World) (C : Ctx) : Step w C w C :=
 ⟨Nat.le_refl _,fun _ _ _ h=>h,fun _ _ h=>⟨rfl,h⟩,rfl,rfl,rfl,Nat.le_refl _,fun _ _ h=>⟨rfl,h⟩⟩

theorem Step.trans {w w₁ w₂ : World} {C C₁ C₂ : Ctx} (h : Step w C w₁ C₁) (k : Step w₁ C₁ w₂ C₂) : Step w C w₂ C₂ where
 nx:=Nat.le_trans h.nx k.nx
 dead:=fun id ow hid hm=>h.dead id ow hid (k.dead id ow (Nat.lt_of_lt_of_le hid h.nx) hm)
 stable:=fun b o hs=>by
  obtain ⟨e1,s1⟩:=h.stable b o hs
  obtain ⟨e2,s2⟩:=k.stable b o s1
  exact ⟨e2.trans e1,s2⟩
 os:=k.os.trans h.os
 tape:=k.tape.trans h.tape
 output:=k.output.trans h.output
 size:=Nat.le_trans h.size k.size
 block:=fun b hb hn=>by
  obtain ⟨e1,n1⟩:=h.block b hb hn
  obtain ⟨e2,n2⟩:=k.block b (Nat.lt_of_lt_of_le hb h.size) n1
  exact ⟨e2.trans e1,n2⟩

section mono
variable {P : Program} {w w' : World} {C C' : Ctx}

theorem Cells.mono (h : Step w C w' C') {b o : Nat} {cs : List Value} (hc : Cells w C b o cs) : Cells w' C' b o cs:=fun j c hj=>by
 obtain ⟨h1,h2⟩:=hc j c hj
 obtain ⟨e,s⟩:=h.stable _ _ h2
 exact ⟨e.trans h1,s⟩

theorem SlReads.mono (h : Step w C w' C') {size n : Nat} {a : Option Addr} {cf : Nat → List Value} (hr : SlReads w C size a n cf) : SlReads w' C' size a n cf:=fun hn=>by
 obtain ⟨b,o,e,hc⟩:=hr hn
 exact ⟨b,o,e,fun i hi=>(hc i hi).mono h⟩

theorem Rel.mono (h : Step w C w' C') {a : AV} {cs : List Value} (hr : Rel P w C a cs) : Rel P w' C' a cs:=by
 induction hr with
 | int k n=>exact .int k n
 | bool b=>exact .bool b
 | str hl=>exact .str hl
 | nil=>exact .nil
 | nils=>exact .nils
 | nilm=>exact .nilm
 | niface=>exact .niface
 | iface h1 _ ih=>exact .iface h1 ih
 | sl cf h1 h2 _ h4 h5 ih=>exact .sl cf h1 h2 ih h4 (h5.mono h)
 | lit cf h1 _ h4 h5 ih=>exact .lit cf h1 ih h4 (h5.mono h)
 | own cf h1 h2 _ h4 h5 h6 h7 ih=>exact .own cf h1 h2 ih h4 (h5.mono h) (Nat.lt_of_lt_of_le h6 h.nx) (fun ow how=>h7 ow (h.dead _ _ h6 how))
 | row h1 h2 h3 h4=>exact .row h1 h2 (Nat.lt_of_lt_of_le h3 h.nx) (fun ow how=>h4 ow (h.dead _ _ h3 how))
 | agg cf h1 h2 h3 h4 _ h6 ih=>exact .agg cf h1 h2 h3 h4 ih h6
 | loc _ h2 h3 h4 ih=>exact .loc ih h2 h3 (h4.mono h)
 | ptr h1 h2=>exact .ptr (Nat.lt_of_lt_of_le h1 h.nx) (fun ow how=>h2 ow (h.dead _ _ h1 how))
 | it h1 h2=>exact .it (Nat.lt_of_lt_of_le h1 h.nx) (fun ow how=>h2 ow (h.dead _ _ h1 how))
 | mp h1 h2=>exact .mp (Nat.lt_of_lt_of_le h1 h.nx) (fun ow how=>h2 ow (h.dead _ _ h1 how))
 | fn h1 h2 _ ih=>exact .fn h1 h2 ih

theorem RelV.mono (h : Step w C w' C') {a : AV} {v : Value} (hr : RelV P w C a v) : RelV P w' C' a v:=by
 induction hr with
 | undef v=>exact .undef v
 | maybe _ h2 ih=>exact .maybe ih h2
 | tup h1 _ ih=>exact .tup h1 ih
 | agg h1=>exact .agg (h1.mono h)
 | one h1 h2=>exact .one h1 (h2.mono h)

end mono
end Go.Av
end
section
namespace Go.Av
open Go

structure AState where
 env : Nat → AV
 st : Store

def AState.upd (A : AState) (d : Nat) (v : AV) : AState:={ A with env:=fun i=>if i = d then v else A.env i }
def AState.put (A : AState) (d : Option Nat) (v : AV) : AState:=match d with | some d=>A.upd d v | none=>A

def AState.withSt (A : AState) (σ : Store) : AState:={ A with st:=σ }

theorem AState.upd_same (A : AState) (d : Nat) (v : AV) : (A.upd d v).env d = v:=by simp [AState.upd]
theorem AState.upd_ne (A : AState) {i d : Nat} (v : AV) (h : i ≠ d) : (A.upd d v).env i = A.env i:=by simp [AState.upd,h]

def rig1 : AV → Option Value
 | .int k n=>some (.int k n)
 | .bool b=>some (.bool b)
 | .str l=>if l.length ≤ maxLen then some (.string ⟨l.toArray⟩) else none
 | _=>none
def rigL : List AV → Option (List Value)
 | []=>some []
 | x :: r=>(rig1 x).bind fun v=>(rigL r).map fun vs=>v :: vs
def rig (P : Program) : AV → Option Value
 | .agg t fs=>(match flds P t with
  | some ts=>if ts.all (fun ty=>szOf P ty == 1) = true then (rigL fs).map fun vs=>.agg vs.toArray else none
  | none=>none)
 | x=>rig1 x
def MapRel (P : Program) (w : World) (kt : TypeId) (l : List (AV × AV)) (b : Nat) : Prop:=∃ es clock,w.heap[b]? = some (.map es clock) ∧ (es.toList.Pairwise fun e f=>e.key ≠ f.key) ∧
 (∀ e ∈ es.toList,(∃ q,keyOf P kt e.key = some q) ∧ ∃ p ∈ l,rig P p.1 = some e.key ∧ rig1 p.2 = some e.val) ∧ ∀ p ∈ l,∃ e ∈ es.toList,rig P p.1 = some e.key ∧ rig1 p.2 = some e.val

def FrOk (fr : Nat × Nat) (n : Nat) : Prop:=fr = (0,0) ∨ n ≤ fr.1
def ObjRel (P : Program) (w : World) (C : Ctx) : Option SObj → Option Own → Prop
 | none,none=>True
 | some (.cells te xs),some (.obj b te' base room)=>te = te' ∧ ∃ arr t' fr,w.heap[b]? = some (.cells arr t' fr) ∧ FrOk fr arr.size ∧ arr.size = room ∧ base + xs.length * szOf P te ≤ room ∧
   ∃ cf : Nat → List Value,∀ (i : Nat) (x : AV),xs[i]? = some x → Rel P w C x (cf i) ∧ (cf i).length = szOf P te ∧ fits P te x ∧ ∀ (j : Nat) (c : Value),(cf i)[j]? = some c → arr[base + i * szOf P te + j]? = some c
 | some .tok,some (.tok b e hw cap)=>∃ arr,w.heap[b]? = some (.cells arr e (0,0)) ∧ arr.size = cap * szOf P e ∧ hw ≤ arr.size
 | some (.iter l pos),some (.iter b)=>w.heap[b]? = some (.stringIter ⟨l.toArray⟩ pos)
 | some (.mp kt l),some (.mp b)=>MapRel P w kt l b
 | _,_=>False

structure StRel (P : Program) (W0 : World) (w : World) (C : Ctx) (σ : Store) : Prop where
 base : RowKit.Below W0.heap.size W0 w
 low : ∀ i ow,C.m i = some ow → W0.heap.size ≤ ow.blk
 nx : C.nx = σ.length
 inj : ∀ i j a b,C.m i = some a → C.m j = some b → a.blk = b.blk → i = j
 dom : ∀ i ow,C.m i = some ow → i < C.nx
 obj : ∀ i,ObjRel P w C (σ[i]?).join (C.m i)

structure RelA (P : Program) (W0 : World) (n : Nat) (w : World) (C : Ctx) (A : AState) (a : Act) : Prop where
 env : ∀ i,RelV P w C (A.env i) (a.tmps.getD i undef)
 defers : a.defers = []
 size : a.tmps.size = n
 st : StRel P W0 w C A.st

section
variable {P : Program} {W0 w w' : World} {C C' : Ctx} {σ σ' : Store} {n : Nat}

theorem Rel.oneCell {a : AV} {cs : List Value} (h : Rel P w C a cs) : ∀ c ∈ cs,c.oneCell' = true:=by
 cases h with
 | agg cf _ _ _ h4=>exact h4
 | _=>intro c hc; simp only [List.mem_singleton] at hc; subst hc; rfl

theorem Rel.one_cell {a : AV} {cs : List Value} (h : Rel P w C a cs) (h1 : a.isOne = true) : ∃ v,cs = [v]:=by
 cases h <;> first | exact ⟨_,rfl⟩ | (simp [AV.isOne] at h1)

theorem ObjRel.mono (h : Step w C w' C') {o : Option SObj} {ow : Option Own} (hr : ObjRel P w C o ow) (hb : ∀ x,ow = some x → w'.heap[x.blk]? = w.heap[x.blk]?) : ObjRel P w' C' o ow:=by
 unfold ObjRel at hr ⊢
 split at hr
 ·trivial
 ·rename_i te xs b te' base room
  obtain ⟨h1,arr,t',fr,h2,hf,h3,h4,cf,h5⟩:=hr
  refine ⟨h1,arr,t',fr,(hb _ rfl).trans h2,hf,h3,h4,cf,fun i x hx=>?_⟩
  obtain ⟨r1,r2,r3,r4⟩:=h5 i x hx
  exact ⟨r1.mono h,r2,r3,r4⟩
 ·obtain ⟨arr,h2,h3⟩:=hr
  exact ⟨arr,(hb _ rfl).trans h2,h3⟩
 ·exact (hb _ rfl).trans hr
 ·obtain ⟨es,clock,h2,h3⟩:=hr
  exact ⟨es,clock,(hb _ rfl).trans h2,h3⟩
 ·exact hr.elim

theorem StRel.lt (h : StRel P W0 w C σ) {i : Nat} {ow : Own} (hm : C.m i = some ow) : ow.blk < w.heap.size:=by
 have ho:=h.obj i
 rw [hm] at ho
 have key : ∀ o,w.heap[ow.blk]? = some o → ow.blk < w.heap.size:=fun o ho=>(Array.getElem?_eq_some_iff.1 ho).1
 unfold ObjRel at ho
 split at ho
 ·rename_i heq; cases heq
 ·rename_i heq; cases heq; obtain ⟨_,arr,t',fr,h2,_⟩:=ho; exact key _ h2
 ·rename_i heq; cases heq; obtain ⟨arr,h2,_⟩:=ho; exact key _ h2
 ·rename_i heq; cases heq; exact key _ ho
 ·rename_i heq; cases heq; obtain ⟨es,clock,h2,_⟩:=ho; exact key _ h2
 ·exact ho.elim

theorem StRel.change (h : StRel P W0 w C σ) (hs : Step w C w' C') (low : ∀ i ow,C'.m i = some ow → W0.heap.size ≤ ow.blk) (hnx : C'.nx = σ'.length)
  (inj : ∀ i j a b,C'.m i = some a → C'.m j = some b → a.blk = b.blk → i = j) (dom : ∀ i ow,C'.m i = some ow → i < C'.nx)
  (hobj : ∀ i,ObjRel P w' C' (σ'[i]?).join (C'.m i) ∨ ((σ'[i]?).join = (σ[i]?).join ∧ C'.m i = C.m i ∧ ∀ ow,C.m i = some ow → w'.heap[ow.blk]? = w.heap[ow.blk]?)) :
  StRel P W0 w' C' σ':=by
 refine ⟨h.base.trans ⟨hs.os,hs.tape,hs.output,hs.size,fun k hk=>(hs.block k (Nat.lt_of_lt_of_le hk h.base.size) (fun id ow hm e=>?_)).1⟩,low,hnx,inj,dom,fun i=>?_⟩
 ·have:=h.low id ow hm; omega
 rcases hobj i with h1 | ⟨h1,h2,h3⟩
 ·exact h1
 ·rw [h1,h2]
  exact (h.obj i).mono hs (fun x hx=>h3 x hx)

theorem StRel.world (h : StRel P W0 w C σ) (hs : Step w C w' C) (hb : ∀ i ow,C.m i = some ow → w'.heap[ow.blk]? = w.heap[ow.blk]?) : StRel P W0 w' C σ :=
 h.change hs h.low h.nx h.inj h.dom (fun i=>.inr ⟨rfl,rfl,hb i⟩)

theorem Step.drew (w : World) (C : Ctx) : Step w C w.drew C :=
 ⟨Nat.le_refl _,fun _ _ _ h=>h,fun _ _ h=>⟨rfl,h⟩,rfl,rfl,rfl,Nat.le_refl _,fun _ _ h=>⟨rfl,h⟩⟩

theorem Step.alloc (w : World) (C : Ctx) (o : Obj) : Step w C (w.alloc o) C where
 nx:=Nat.le_refl _
 dead:=fun _ _ _ h=>h
 stable:=fun b x h=>⟨World.cell?_alloc_lt w o ⟨b,x,none⟩ h.1,by simp [Nat.lt_succ_of_lt h.1],h.2⟩
 os:=rfl
 tape:=rfl
 output:=rfl
 size:=by simp
 block:=fun b hb hn=>⟨RowKit.Below.heap_alloc w o b hb,hn⟩

theorem StRel.drew (h : StRel P W0 w C σ) : StRel P W0 w.drew C σ:=h.world (Step.drew w C) (fun _ _ _=>rfl)
theorem StRel.alloc (h : StRel P W0 w C σ) (o : Obj) : StRel P W0 (w.alloc o) C σ :=
 h.world (Step.alloc w C o) (fun _ _ hm=>RowKit.Below.heap_alloc w o _ (h.lt hm))

theorem Stable.free {b o : Nat} (hb : b < w.heap.size) (hn : ∀ id ow,C.m id = some ow → ow.blk ≠ b) : Stable w C b o :=
 ⟨hb,fun id ow hm he=>absurd he (hn id ow hm)⟩

theorem StRel.fresh (h : StRel P W0 w C σ) : ∀ id ow,C.m id = some ow → ow.blk ≠ w.heap.size:=fun _ _ hm=>Nat.ne_of_lt (h.lt hm)

theorem tmps_put {a : Array Value} {d i : Nat} {v : Value} (hd : d < a.size) : (a.setIfInBounds d v).getD i undef = if i = d then v else a.getD i undef:=by
 by_cases h : i = d
 ·subst h; simp [hd]
 ·rw [if_neg h]
  simp [Array.getElem?_setIfInBounds_ne (Ne.symm h)]

theorem RelA.put {A : AState} {a : Act} (h : RelA P W0 n w C A a) {d : Nat} (hd : d < n) {v : AV} {x : Value} (hv : RelV P w C v x) : RelA P W0 n w C (A.upd d v) (a.put (some d) x) where
 env:=fun i=>by
  have hd' : d < a.tmps.size:=by rw [h.size]; exact hd
  simp only [Act.put,AState.upd,tmps_put hd']
  by_cases hi : i = d
  ·simp [hi,hv]
  ·simp only [hi,if_false]; exact h.env i
 defers:=h.defers
 size:=by simpa [Act.put] using h.size
 st:=h.st

theorem RelA.step {A : AState} {a : Act} {σ' : Store} (h : RelA P W0 n w C A a) (hs : Step w C w' C') (hst : StRel P W0 w' C' σ') : RelA P W0 n w' C' { A with st:=σ' } a where
 env:=fun i=>(h.env i).mono hs
 defers:=h.defers
 size:=h.size
 st:=hst

end
end Go.Av
end
section
namespace Go.Av
open Go

def constAV : Value → AV
 | .int k n=>.int k n
 | .bool b=>.bool b
 | .string s=>if s.data.toList.length ≤ maxLen then .str s.data.toList else .undef
 | .pointer none=>.nil
 | .slice none 0 0=>.nils
 | .map none=>.nilm
 | .nilIface=>.niface
 | _=>.undef

def AState.val (A : AState) : Operand → AV
 | .tmp t=>A.env t
 | .const v=>constAV v
 | .func f=>.fn f []
 | .global _=>.undef

structure RelO (P : Program) (W0 : World) (o : Oper) (w : World) (C : Ctx) (A : AState) (a : Act) : Prop where
 ops : ∀ x ∈ o.op.operands,RelV P w C (A.val x) (a.eval x)
 st : StRel P W0 w C A.st

def ValOk (P : Program) (W0 : World) (o : Oper) (A : AState) (v : AV) : Prop :=
 ∀ w C a,RelO P W0 o w C A a → ∃ x w',(execOp a.eval o).run P w = .ok (.value x) w' ∧ RelV P w' C v x ∧ Step w C w' C ∧ StRel P W0 w' C A.st

def Is (P : Program) (W0 : World) (o : Oper) (A : AState) (x : Operand) (u : AV) : Prop:=∀ w C a,RelO P W0 o w C A a → RelV P w C u (a.eval x)

section
variable {P : Program} {W0 w w' : World} {C C' : Ctx} {σ σ' : Store} {n : Nat} {A : AState} {a : Act}

theorem constAV_rel (v : Value) : RelV P w C (constAV v) v:=by
 unfold constAV
 split
 ·exact .one rfl (.int _ _)
 ·exact .one rfl (.bool _)
 ·rename_i s
  split
  ·rename_i h
   exact .one rfl (by
    have:=Rel.str (P:=P) (w:=w) (C:=C) h
    simpa using this)
  ·exact .undef _
 ·exact .one rfl .nil
 ·exact .one rfl .nils
 ·exact .one rfl .nilm
 ·exact .one rfl .niface
 ·exact .undef _

theorem RelA.val (h : RelA P W0 n w C A a) (x : Operand) : RelV P w C (A.val x) (a.eval x):=by
 cases x with
 | tmp t=>exact h.env t
 | const v=>exact constAV_rel v
 | global g=>exact .undef _
 | func f=>exact .one rfl (.fn (vs:=[]) rfl (by simp) (by simp))

theorem RelA.toO (h : RelA P W0 n w C A a) (o : Oper) : RelO P W0 o w C A a:=⟨fun x _=>h.val x,h.st⟩

theorem Is.val {o : Oper} (A : AState) {x : Operand} (hx : x ∈ o.op.operands) : Is P W0 o A x (A.val x):=fun _ _ _ hr=>hr.ops x hx

theorem RelV.int_inv {k : IntKind} {m : Int} {v : Value} (h : RelV P w C (.int k m) v) : v = .int k m:=by
 cases h with
 | one _ h=>cases h; rfl
theorem RelV.bool_inv {b : Bool} {v : Value} (h : RelV P w C (.bool b) v) : v = .bool b:=by
 cases h with
 | one _ h=>cases h; rfl
theorem RelV.str_inv {l : List UInt8} {v : Value} (h : RelV P w C (.str l) v) : v = .string ⟨l.toArray⟩ ∧ l.length ≤ maxLen:=by
 cases h with
 | one _ h=>cases h; exact ⟨rfl,‹_›⟩
theorem RelV.nil_inv {v : Value} (h : RelV P w C .nil v) : v = .pointer none:=by
 cases h with
 | one _ h=>cases h; rfl
theorem RelV.nils_inv {v : Value} (h : RelV P w C .nils v) : v = .slice none 0 0:=by
 cases h with
 | one _ h=>cases h; rfl
theorem RelV.tup_inv {as : List AV} {v : Value} (h : RelV P w C (.tup as) v) : ∃ vs : List Value,v = .tuple vs.toArray ∧ as.length = vs.length ∧ ∀ (i : Nat) (a : AV) (v : Value),as[i]? = some a → vs[i]? = some v → RelV P w C a v:=by
 cases h with
 | tup h1 h2=>exact ⟨_,rfl,h1,h2⟩
 | one h=>simp [AV.isOne] at h
theorem RelV.agg_inv {t : TypeId} {fs : List AV} {v : Value} (h : RelV P w C (.agg t fs) v) : ∃ cs : List Value,v = .agg cs.toArray ∧ Rel P w C (.agg t fs) cs:=by
 cases h with
 | agg h=>exact ⟨_,rfl,h⟩
 | one h=>simp [AV.isOne] at h
theorem RelV.one_inv {x : AV} {v : Value} (h : RelV P w C x v) (h1 : x.isOne = true) : Rel P w C x [v]:=by
 cases h with
 | one _ h=>exact h
 | _=>simp [AV.isOne] at h1
theorem RelV.cells {t : TypeId} {x : AV} {v : Value} (h : RelV P w C x v) (hf : fits P t x) : Rel P w C x v.cells.toList:=by
 cases h with
 | undef=>simp [fits,AV.isOne] at hf
 | maybe=>simp [fits,AV.isOne] at hf
 | tup=>simp [fits,AV.isOne] at hf
 | agg h=>simpa [Value.cells] using h
 | one h1 h =>
  have : v.cells = #[v]:=by
   have:=h.oneCell v (by simp)
   cases v <;> first | rfl | simp [Value.oneCell'] at this
  rw [this]; exact h

theorem szOf_info {t : TypeId} (h : 0 < szOf P t) : ∃ i,P.info? t = some i ∧ i.size = szOf P t:=by
 unfold szOf at h ⊢
 cases hi : P.info? t with
 | none=>simp [hi] at h
 | some i=>exact ⟨i,rfl,rfl⟩

theorem fldsOk_off : ∀ (fs : List Field) (o n : Nat),fldsOk P fs o n = true → ∀ k f,fs[k]? = some f → f.offset = o + ((fs.take k).map fun f=>szOf P f.type).sum
 | [],_,_,_,k,f,hk=>by simp at hk
 | g :: r,o,n,h,0,f,hk=>by
  simp [fldsOk] at h hk
  subst hk; simp [h.1]
 | g :: r,o,n,h,k + 1,f,hk=>by
  simp only [fldsOk,Bool.and_eq_true,beq_iff_eq,decide_eq_true_eq] at h
  have:=fldsOk_off r (o + szOf P g.type) n h.2.2 k f (by simpa using hk)
  rw [this]; simp; omega

theorem fldsOk_total : ∀ (fs : List Field) (o n : Nat),fldsOk P fs o n = true → n = o + (fs.map fun f=>szOf P f.type).sum
 | [],o,n,h=>by simp [fldsOk] at h; simp [h]
 | g :: r,o,n,h=>by
  simp only [fldsOk,Bool.and_eq_true,beq_iff_eq,decide_eq_true_eq] at h
  have:=fldsOk_total r (o + szOf P g.type) n h.2.2
  rw [this]; simp; omega

theorem fldsOk_pos : ∀ (fs : List Field) (o n : Nat),fldsOk P fs o n = true → ∀ f ∈ fs,0 < szOf P f.type
 | [],_,_,_,f,hf=>by cases hf
 | g :: r,o,n,h,f,hf=>by
  simp only [fldsOk,Bool.and_eq_true,beq_iff_eq,decide_eq_true_eq] at h
  rcases List.mem_cons.1 hf with rfl | hf
  ·exact h.2.1
  ·exact fldsOk_pos r _ n h.2.2 f hf

theorem flds_inv {t : TypeId} {ts : List TypeId} (h : flds P t = some ts) :
  (∃ fs,P.underlying t = some (.struct fs) ∧ ts = fs.toList.map (·.type) ∧ (∀ k f,fs[k]? = some f → f.offset = offAt P ts k ∧ 0 < szOf P f.type) ∧ szOf P t = offAt P ts ts.length) ∨
  (∃ n e,P.underlying t = some (.array n e) ∧ ts = List.replicate n e ∧ szOf P t = n * szOf P e):=by
 unfold flds at h
 split at h
 ·rename_i fs hu
  split at h
  ·rename_i hok
   simp only [Option.some.injEq] at h
   subst h
   simp only [Bool.and_eq_true,decide_eq_true_eq] at hok
   replace hok:=hok.1
   refine .inl ⟨fs,hu,rfl,fun k f hk=>⟨?_,fldsOk_pos fs.toList 0 _ hok f (Array.mem_toList_iff.2 (Array.mem_of_getElem? hk))⟩,?_⟩
   ·have:=fldsOk_off fs.toList 0 _ hok k f (by simpa using hk)
    rw [this,Nat.zero_add]
    simp only [offAt,List.map_take,List.map_map]
    rfl
   ·have:=fldsOk_total fs.toList 0 _ hok
    rw [this,Nat.zero_add,offAt,List.take_length,List.map_map]
    rfl
  ·cases h
 ·rename_i k e hu
  split at h
  ·rename_i hok
   simp only [Option.some.injEq] at h
   subst h
   simp only [Bool.and_eq_true,decide_eq_true_eq,beq_iff_eq] at hok
   exact .inr ⟨k,e,hu,rfl,hok.1⟩
  ·cases h
 ·cases h

theorem offAt_replicate (k n : Nat) (e : TypeId) (h : k ≤ n) : offAt P (List.replicate n e) k = k * szOf P e:=by
 simp [offAt,List.take_replicate,Nat.min_eq_left h]

theorem flds_pos {t : TypeId} {ts : List TypeId} (h : flds P t = some ts) : 0 < szOf P t:=by
 unfold flds at h
 split at h
 ·split at h
  ·rename_i hok
   simp only [Bool.and_eq_true,decide_eq_true_eq] at hok
   exact hok.2
  ·cases h
 ·split at h
  ·rename_i hok
   simp only [Bool.and_eq_true,decide_eq_true_eq] at hok
   exact hok.2
  ·cases h
 ·cases h

theorem offAt_total {t : TypeId} {ts : List TypeId} (h : flds P t = some ts) : szOf P t = offAt P ts ts.length:=by
 rcases flds_inv h with ⟨fs,_,_,_,h4⟩ | ⟨n,e,_,h2,h3⟩
 ·exact h4
 ·subst h2; rw [List.length_replicate,offAt_replicate _ _ _ (Nat.le_refl _),h3]

theorem isAgg_of_flds {t : TypeId} {ts : List TypeId} (h : flds P t = some ts) (w : World) : (isAgg t).run P w = .ok true w:=by
 rcases flds_inv h with ⟨fs,hu,_⟩ | ⟨n,e,hu,_⟩ <;> simp [isAgg,run_underlying hu]

theorem isAgg_of_prim {t : TypeId} (h : prim P t = true) (w : World) : (isAgg t).run P w = .ok false w ∧ szOf P t = 1:=by
 unfold prim at h
 split at h
 ·cases h
 ·cases h
 ·cases h
 ·rename_i d hs ha hu
  refine ⟨?_,by simpa using h⟩
  simp only [isAgg,Sem.run_bind,run_underlying hu,Result.andThen_ok]
  cases d <;> first | rfl | (exact absurd hu (hs _)) | (exact absurd hu (ha _ _))

theorem Rel.length_fits {t : TypeId} {x : AV} {cs : List Value} (h : Rel P w C x cs) (hf : fits P t x) : cs.length = szOf P t:=by
 cases x <;> simp only [fits,AV.isOne,Bool.false_eq_true,false_and] at hf
 case agg t' fs =>
  obtain ⟨rfl,_⟩:=hf
  cases h with
  | agg cf h1 h2 h3=>exact h3
 all_goals
  obtain ⟨v,rfl⟩:=h.one_cell rfl
  rw [(isAgg_of_prim hf.2 default).2]; rfl

end
end Go.Av
end
section
namespace Go.Av
open Go

section
variable {P : Program} {W0 w w' : World} {C C' : Ctx} {σ σ' : Store} {n : Nat} {A : AState} {a : Act} {o : Oper}

theorem ValOk.of_same {v : AV} (h : ∀ w C a,RelO P W0 o w C A a → ∃ x,(execOp a.eval o).run P w = .ok (.value x) w ∧ RelV P w C v x) : ValOk P W0 o A v :=
 fun w C a hr=>let ⟨x,h1,h2⟩:=h w C a hr; ⟨x,w,h1,h2,.refl _ _,hr.st⟩

theorem ok_move {x : Operand} {u : AV} (ho : o.op = .move x) (hx : Is P W0 o A x u) : ValOk P W0 o A u :=
 .of_same fun w C a hr=>⟨a.eval x,by simp [execOp,ho],hx w C a hr⟩
theorem ok_assign {x : Operand} {u : AV} (ho : o.op = .assign x) (hx : Is P W0 o A x u) : ValOk P W0 o A u :=
 .of_same fun w C a hr=>⟨a.eval x,by simp [execOp,ho],hx w C a hr⟩

theorem RelV.strip {g : Bool} {v : AV} {x : Value} (h : RelV P w C (.maybe g v) x) (hg : g = true) : RelV P w C v x:=by
 cases h with
 | maybe h _=>exact h hg
 | one h=>simp [AV.isOne] at h

theorem run_loadVar_rel {t : TypeId} {v : AV} {cs : List Value} {b off : Nat} (hr : Rel P w C v cs) (hf : fits P t v) (hc : ∀ (j : Nat) (c : Value),cs[j]? = some c → w.cell? ⟨b,off + j,none⟩ = some c) :
  ∃ x,(loadVar t ⟨b,off,none⟩).run P w = .ok x w ∧ RelV P w C v x:=by
 have hlen:=hr.length_fits hf
 cases hv : v.isOne with
 | true =>
  obtain ⟨x,rfl⟩:=hr.one_cell hv
  have hp : prim P t = true:=by
   cases v <;> simp_all [fits,AV.isOne]
  refine ⟨x,?_,.one hv hr⟩
  have h0:=hc 0 x (by simp)
  simp only [Nat.add_zero] at h0
  simp [loadVar,(isAgg_of_prim hp w).1,h0]
 | false =>
  cases v <;> simp only [AV.isOne,Bool.true_eq_false] at hv <;> simp only [fits,AV.isOne,Bool.false_eq_true,false_and] at hf
  rename_i t' fs
  obtain ⟨rfl,hf⟩:=hf
  obtain ⟨ts,hts⟩:=Option.isSome_iff_exists.1 hf
  obtain ⟨i,hi,hsz⟩:=szOf_info (flds_pos hts)
  have hl:=run_loadCells_list (P:=P) w ⟨b,off,none⟩ cs (fun j c hj=>by rw [Addr.add_lit]; exact hc j c hj)
  rw [hlen,← hsz] at hl
  exact ⟨.agg cs.toArray,by simp [loadVar,isAgg_of_flds hts w,sizeOf,typeInfo,hi,hl],.agg hr⟩

theorem RelV.loc_inv {t : TypeId} {v : AV} {x : Value} (h : RelV P w C (.loc t v) x) : ∃ b off cs,x = .pointer (some ⟨b,off,none⟩) ∧ Rel P w C v cs ∧ fits P t v ∧ cs.length = szOf P t ∧ Cells w C b off cs:=by
 have:=h.one_inv rfl
 cases this with
 | loc h1 h2 h3 h4=>exact ⟨_,_,_,rfl,h1,h2,h3,h4⟩

theorem ok_load_loc {t : TypeId} {v : AV} {x : Operand} (ho : o.op = .load t x) (hx : Is P W0 o A x (.loc t v)) : ValOk P W0 o A v :=
 .of_same fun w C a hr=>by
  have h:=hx w C a hr
  obtain ⟨b,off,cs,hv,h1,h2,h3,h4⟩:=h.loc_inv
  obtain ⟨y,hy,hr'⟩:=run_loadVar_rel h1 h2 (fun j c hj=>(h4 j c hj).1)
  exact ⟨y,by simp [execOp,ho,Instr.loadAt,Instr.sureAddr,hv,hy],hr'⟩

theorem Rel.part {t : TypeId} {ts : List TypeId} {fs : List AV} {cs : List Value} (h : Rel P w C (.agg t fs) cs) (hts : flds P t = some ts) {k : Nat} {x : AV} {ty : TypeId} (hx : fs[k]? = some x) (hty : ts[k]? = some ty) :
  ∃ c,Rel P w C x c ∧ c.length = szOf P ty ∧ fits P ty x ∧ (∀ (j : Nat) (u : Value),c[j]? = some u → cs[offAt P ts k + j]? = some u):=by
 cases h with
 | agg cf h1 h2 h3 h4 h5 h6 =>
  rw [hts] at h1
  cases h1
  exact ⟨cf k,h5 k x hx,h6 k x ty hx hty⟩

theorem Rel.agg_length {t : TypeId} {ts : List TypeId} {fs : List AV} {cs : List Value} (h : Rel P w C (.agg t fs) cs) (hts : flds P t = some ts) : fs.length = ts.length:=by
 cases h with
 | agg cf h1 h2=>rw [hts] at h1; cases h1; exact h2

theorem run_fieldPlace {f : Field} (hf : 0 < szOf P f.type) (b off : Nat) (w : World) : (fieldPlace ⟨b,off,none⟩ f).run P w = .ok ⟨b,off + f.offset,none⟩ w:=by
 obtain ⟨i,hi,hsz⟩:=szOf_info hf
 simp [fieldPlace,sizeOf,typeInfo,hi,hsz,Nat.ne_of_gt hf,Addr.add_lit]

theorem ok_fieldAddr_loc {s : TypeId} {ts : List TypeId} {fs : List AV} {x : Operand} {k : Nat} {y : AV} {ty : TypeId} (ho : o.op = .fieldAddr s x k) (hx : Is P W0 o A x (.loc s (.agg s fs))) (hst : (P.underlying s).any (fun d=>match d with | .struct _=>true | _=>false) = true)
  (hts : flds P s = some ts) (hy : fs[k]? = some y) (hty : ts[k]? = some ty) : ValOk P W0 o A (.loc ty y) :=
 .of_same fun w C a hr=>by
  have h:=hx w C a hr
  obtain ⟨b,off,cs,hv,h1,h2,h3,h4⟩:=h.loc_inv
  rcases flds_inv hts with ⟨fl,hu,e1,e2,e3⟩ | ⟨m,e,hu,_⟩
  case inr=>simp [hu] at hst
  obtain ⟨c,r1,r2,r3,r4⟩:=h1.part hts hy hty
  have hk : k < fl.size:=by
   have : k < ts.length:=(List.getElem?_eq_some_iff.1 hty).1
   rw [e1] at this; simpa using this
  have hfk : fl[k]? = some fl[k]:=Array.getElem?_eq_getElem hk
  obtain ⟨hoff,hpos⟩:=e2 k _ hfk
  have hfp:=run_fieldPlace hpos b off w
  refine ⟨.pointer (some ⟨b,off + offAt P ts k,none⟩),?_,.one rfl (.loc r1 r3 r2 (fun j u hj=>?_))⟩
  ·simp [execOp,ho,Instr.fieldAt,run_underlying hu,hfk,Instr.sureAddr,hv,hfp,hoff]
  ·have:=h4 (offAt P ts k + j) u (r4 j u hj)
   rwa [← Nat.add_assoc] at this

theorem Rel.sl_of {e : TypeId} {xs : List AV} {x : AV} {v : Value} (h : Rel P w C x [v]) (hx : x = .sl e xs ∨ x = .lit e xs ∨ ∃ tok,x = .own e xs tok) :
  ∃ ad cap cf,v = .slice ad xs.length cap ∧ xs.length ≤ cap ∧ cap ≤ maxLen ∧ (∀ (i : Nat) (x : AV),xs[i]? = some x → Rel P w C x (cf i)) ∧
   (∀ i x,xs[i]? = some x → (cf i).length = szOf P e ∧ fits P e x) ∧ SlReads w C (szOf P e) ad xs.length cf:=by
 rcases hx with rfl | rfl | ⟨tok,rfl⟩
 ·cases h with | sl cf h1 h2 h3 h4 h5=>exact ⟨_,_,cf,rfl,h1,h2,h3,h4,h5⟩
 ·cases h with | lit cf h1 h3 h4 h5=>exact ⟨_,_,cf,rfl,Nat.le_refl _,h1,h3,h4,h5⟩
 ·cases h with | own cf h1 h2 h3 h4 h5=>exact ⟨_,_,cf,rfl,h1,h2,h3,h4,h5⟩

def AV.asList : AV → Option (TypeId × List AV)
 | .sl e xs | .lit e xs | .own e xs _=>some (e,xs)
 | _=>none

theorem AV.asList_inv {x : AV} {e : TypeId} {xs : List AV} (h : x.asList = some (e,xs)) : (x = .sl e xs ∨ x = .lit e xs ∨ ∃ tok,x = .own e xs tok) ∧ x.isOne = true:=by
 cases x <;> simp [AV.asList] at h <;> (obtain ⟨rfl,rfl⟩:=h; simp [AV.isOne])

theorem elT_inv {t e : TypeId} (h : elT P t = some e) : P.underlying t = some (.slice e):=by
 unfold elT at h
 split at h
 ·cases h; assumption
 ·cases h

theorem ok_indexAddr_list {t e : TypeId} {x ix : Operand} {xs : List AV} {k : IntKind} {i : Int} {l : AV} {y : AV} (ho : o.op = .indexAddr t x ix) (hx : Is P W0 o A x l) (hl : l.asList = some (e,xs)) (hi : Is P W0 o A ix (.int k i))
  (ht : elT P t = some e) (he : 0 < szOf P e) (h0 : 0 ≤ i) (hy : xs[i.toNat]? = some y) : ValOk P W0 o A (.loc e y) :=
 .of_same fun w C a hr=>by
  have hxv:=hx w C a hr
  obtain ⟨hcase,hone⟩:=AV.asList_inv hl
  obtain ⟨ad,cap,cf,hv,h1,h2,h3,h4,h5⟩:=(hxv.one_inv hone).sl_of hcase
  have hiv:=hi w C a hr
  replace hiv:=hiv.int_inv
  have hlt : i.toNat < xs.length:=(List.getElem?_eq_some_iff.1 hy).1
  obtain ⟨b,off,rfl,hc⟩:=h5 (by omega)
  obtain ⟨inf,hinf,hsz⟩:=szOf_info he
  have hlt' : i < (xs.length : Int):=by omega
  refine ⟨.pointer (some ⟨b,off + i.toNat * szOf P e,none⟩),?_,.one rfl (.loc (h3 _ _ hy) (h4 _ _ hy).2 (h4 _ _ hy).1 (hc _ hlt))⟩
  simp [execOp,ho,Instr.indexAt,hv,hiv,asIntOf,run_underlying (elT_inv ht),h0,hlt',sizeOf,typeInfo,hinf,hsz,Addr.add_lit]

theorem ok_index_str {t : TypeId} {x ix : Operand} {l : List UInt8} {k : IntKind} {i : Int} {c : UInt8} (ho : o.op = .index t x ix) (hx : Is P W0 o A x (.str l)) (hi : Is P W0 o A ix (.int k i))
  (ht : P.underlying t = some .string) (h0 : 0 ≤ i) (hy : l[i.toNat]? = some c) : ValOk P W0 o A (.int .u8 c.toNat) :=
 .of_same fun w C a hr=>by
  have hxv:=hx w C a hr
  obtain ⟨hxv,_⟩:=hxv.str_inv
  have hiv:=hi w C a hr
  replace hiv:=hiv.int_inv
  have hlt : i.toNat < l.length:=(List.getElem?_eq_some_iff.1 hy).1
  refine ⟨.int .u8 c.toNat,?_,.one rfl (.int _ _)⟩
  have hc : ({ data:=l.toArray } : ByteArray)[i.toNat]? = some c:=by
   have : i.toNat < ({ data:=l.toArray } : ByteArray).size:=by simpa [ByteArray.size] using hlt
   rw [getElem?_pos ({ data:=l.toArray } : ByteArray) i.toNat this]
   have h2:=(List.getElem?_eq_some_iff.1 hy).2
   rw [← h2]
   rfl
  simp [execOp,ho,Instr.index,hxv,hiv,asIntOf,run_underlying ht,h0,hc]

end
end Go.Av
end
section
namespace Go.Av
open Go

def intBin (op : BinOp) (k : IntKind) (a b : Int) : Option AV :=
 match op with
 | .add=>some (.int k (k.wrap (a + b)))
 | .sub=>some (.int k (k.wrap (a - b)))
 | .mul=>some (.int k (k.wrap (a * b)))
 | .eql=>some (.bool (a == b))
 | .neq=>some (.bool (a != b))
 | .lss=>some (.bool (decide (a < b)))
 | .leq=>some (.bool (decide (a ≤ b)))
 | .gtr=>some (.bool (decide (b < a)))
 | .geq=>some (.bool (decide (b ≤ a)))
 | .quo=>if b = 0 then none else some (.int k (k.wrap (a.tdiv b)))
 | .rem=>if b = 0 then none else some (.int k (a.tmod b))
 | .and=>some (.int k (bits .and k a b))
 | .or=>some (.int k (bits .or k a b))
 | .xor=>some (.int k (bits .xor k a b))
 | .andNot=>some (.int k (bits .andNot k a b))
 | _=>none

def shBin (op : BinOp) (k : IntKind) (a b : Int) : Option AV :=
 if b < 0 then none else match op with
 | .shl=>some (.int k (k.wrap (a * 2 ^ (min b.toNat k.bits))))
 | .shr=>some (.int k (a.fdiv (2 ^ (min b.toNat k.bits))))
 | _=>none
def isSh : BinOp → Bool
 | .shl | .shr=>true
 | _=>false

def strBin (op : BinOp) (a b : List UInt8) : Option AV :=
 match op with
 | .add=>if a.length + b.length ≤ maxLen then some (.str (a ++ b)) else none
 | .eql=>some (.bool (a == b))
 | .neq=>some (.bool (!(a == b)))
 | .lss=>some (.bool (Op.bytesLess a b))
 | .leq=>some (.bool (Op.bytesLess a b || a == b))
 | .gtr=>some (.bool (!(Op.bytesLess a b || a == b)))
 | .geq=>some (.bool (!Op.bytesLess a b))
 | _=>none

def AV.isPtr : AV → Bool
 | .loc _ _ | .ptr _ _ _ _ | .it _=>true
 | _=>false

def isPtrT (P : Program) (t : TypeId) : Bool:=match P.underlying t with | some (.pointer _)=>true | _=>false
def isBoolT (P : Program) (t : TypeId) : Bool:=match P.underlying t with | some .bool=>true | _=>false

def AV.isFull : AV → Bool
 | .sl _ (_ :: _) | .lit _ (_ :: _) | .own _ (_ :: _) _=>true
 | _=>false

def eqAV (P : Program) (t : TypeId) : AV → AV → Option Bool
 | .bool a,.bool b=>if isBoolT P t then some (a == b) else none
 | .nils,.nils=>if (elT P t).isSome then some true else none
 | .nils,y=>if (elT P t).isSome && y.isFull then some false else none
 | x,.nils=>if (elT P t).isSome && x.isFull then some false else none
 | .nil,.nil=>if isPtrT P t then some true else none
 | .nil,y=>if isPtrT P t && y.isPtr then some false else none
 | x,.nil=>if isPtrT P t && x.isPtr then some false else none
 | _,_=>none

def eq1 (P : Program) (ty : TypeId) (x y : AV) : Option Bool :=
 match P.underlying ty,x,y with
 | some (.int _),.int k a,.int k' b=>if k = k' then some (a == b) else none
 | some .string,.str a,.str b=>some (a == b)
 | some .bool,.bool a,.bool b=>some (a == b)
 | _,_,_=>none
def eqFs (P : Program) : List TypeId → List AV → List AV → Option Bool
 | [],[],[]=>some true
 | ty :: ts,x :: xs,y :: ys=>(eq1 P ty x y).bind fun b=>(eqFs P ts xs ys).map fun c=>b && c
 | _,_,_=>none
def eqAgg (P : Program) (t : TypeId) (fs gs : List AV) : Option Bool :=
 match P.underlying t with
 | some (.struct fl) => if fl.toList.all (fun f => f.name != "_") && (!P.stoodInHeld t && !P.eqGuardType P.depth t) then (flds P t).bind fun ts => eqFs P ts fs gs else none
 | _=>none

def abin (P : Program) (op : BinOp) (t : TypeId) (x y : AV) : Option AV :=
 match x,y with
 | .int k a,.int k' b=>if isSh op = true then shBin op k a b else if k = k' then intBin op k a b else none
 | .str a,.str b=>strBin op a b
 | .agg t1 fs,.agg t2 gs=>if t1 = t ∧ t2 = t then (match op with
  | .eql=>(eqAgg P t fs gs).map .bool
  | .neq=>(eqAgg P t fs gs).map fun b=>.bool (!b)
  | _=>none) else none
 | x,y=>match op with
  | .eql=>(eqAV P t x y).map .bool
  | .neq=>(eqAV P t x y).map fun b=>.bool (!b)
  | _=>none

section
variable {P : Program} {W0 w w' : World} {C C' : Ctx} {σ σ' : Store} {n : Nat} {A : AState} {a : Act} {o : Oper}

theorem RelV.isPtr {x : AV} {v : Value} (h : RelV P w C x v) (hp : x.isPtr = true) : ∃ ad,v = .pointer (some ad):=by
 cases x <;> simp [AV.isPtr] at hp
 all_goals
  have:=h.one_inv rfl
  cases this
  exact ⟨_,rfl⟩

theorem eqAt_bool {t : TypeId} (d : Nat) (hu : P.underlying t = some .bool) (p q : Bool) (w : World) : (Op.equalIn (d + 1) t (.bool p) (.bool q)).run P w = .ok (p == q) w:=by
 simp [Op.equalIn,run_underlying hu]
theorem eqAt_nil {t e : TypeId} (d : Nat) (hu : P.underlying t = some (.pointer e)) (w : World) : (Op.equalIn (d + 1) t (.pointer none) (.pointer none)).run P w = .ok true w:=by
 simp [Op.equalIn,run_underlying hu]
theorem eqAt_nilL {t e : TypeId} (d : Nat) (hu : P.underlying t = some (.pointer e)) (ad : Addr) (w : World) : (Op.equalIn (d + 1) t (.pointer none) (.pointer (some ad))).run P w = .ok false w:=by
 simp [Op.equalIn,run_underlying hu]
theorem eqAt_nilR {t e : TypeId} (d : Nat) (hu : P.underlying t = some (.pointer e)) (ad : Addr) (w : World) : (Op.equalIn (d + 1) t (.pointer (some ad)) (.pointer none)).run P w = .ok false w:=by
 simp [Op.equalIn,run_underlying hu]

theorem eqAt_nils {t e : TypeId} (d : Nat) (hu : P.underlying t = some (.slice e)) (w : World) : (Op.equalIn (d + 1) t (.slice none 0 0) (.slice none 0 0)).run P w = .ok true w:=by
 simp [Op.equalIn,run_underlying hu]
theorem eqAt_nilsL {t e : TypeId} (d : Nat) (hu : P.underlying t = some (.slice e)) (ad : Addr) (l c : Nat) (w : World) : (Op.equalIn (d + 1) t (.slice none 0 0) (.slice (some ad) l c)).run P w = .ok false w:=by
 simp [Op.equalIn,run_underlying hu]
theorem eqAt_nilsR {t e : TypeId} (d : Nat) (hu : P.underlying t = some (.slice e)) (ad : Addr) (l c : Nat) (w : World) : (Op.equalIn (d + 1) t (.slice (some ad) l c) (.slice none 0 0)).run P w = .ok false w:=by
 simp [Op.equalIn,run_underlying hu]
theorem RelV.isFull {x : AV} {v : Value} (h : RelV P w C x v) (hp : x.isFull = true) : ∃ ad l c,v = .slice (some ad) l c:=by
 have key : ∀ e xs,(x = .sl e xs ∨ x = .lit e xs ∨ ∃ tok,x = .own e xs tok) → 0 < xs.length → x.isOne = true → ∃ ad l c,v = .slice (some ad) l c:=fun e xs hx hl ho=>by
  obtain ⟨ad,cap,cf,hv,_,_,_,_,h5⟩:=(h.one_inv ho).sl_of hx
  obtain ⟨b,off,rfl,_⟩:=h5 hl
  exact ⟨_,_,_,hv⟩
 unfold AV.isFull at hp
 split at hp
 ·exact key _ _ (.inl rfl) (by simp) rfl
 ·exact key _ _ (.inr (.inl rfl)) (by simp) rfl
 ·exact key _ _ (.inr (.inr ⟨_,rfl⟩)) (by simp) rfl
 ·cases hp
theorem eqGuard_slice (op : BinOp) (t : TypeId) (x y : Operand) (b : Option Addr) (l c : Nat) (v : Value) (w : World) : (eqGuard op t x y (.slice b l c) v).run P w = .ok () w:=by
 cases op <;> simp [eqGuard]

def Value.plainEq : Value → Bool
 | .bool _ | .pointer _ | .slice _ _ _=>true
 | _=>false

theorem eqAV_rel {t : TypeId} {x y : AV} {u v : Value} {b : Bool} (h : eqAV P t x y = some b) (hx : RelV P w C x u) (hy : RelV P w C y v) :
  (Op.equal t u v).run P w = .ok b w ∧ Value.plainEq u = true:=by
 show (Op.equalIn (9999 + 1) t u v).run P w = .ok b w ∧ Value.plainEq u = true
 have hptr : isPtrT P t = true → ∃ e,P.underlying t = some (.pointer e):=fun hp=>by
  unfold isPtrT at hp
  split at hp
  ·exact ⟨_,by assumption⟩
  ·cases hp
 unfold eqAV at h
 split at h
 ·split at h
  ·rename_i hb
   simp only [Option.some.injEq] at h
   subst h
   have hu : P.underlying t = some .bool:=by
    unfold isBoolT at hb
    split at hb
    ·assumption
    ·cases hb
   rw [hx.bool_inv,hy.bool_inv]
   exact ⟨eqAt_bool _ hu _ _ _,rfl⟩
  ·cases h
 ·split at h
  ·rename_i hp
   simp only [Option.some.injEq] at h
   subst h
   obtain ⟨e,hu⟩:=Option.isSome_iff_exists.1 hp
   rw [hx.nils_inv,hy.nils_inv]
   exact ⟨eqAt_nils _ (elT_inv hu) _,rfl⟩
  ·cases h
 ·split at h
  ·rename_i hp
   simp only [Bool.and_eq_true] at hp
   simp only [Option.some.injEq] at h
   subst h
   obtain ⟨e,hu⟩:=Option.isSome_iff_exists.1 hp.1
   obtain ⟨ad,l,c,rfl⟩:=hy.isFull hp.2
   rw [hx.nils_inv]
   exact ⟨eqAt_nilsL _ (elT_inv hu) _ _ _ _,rfl⟩
  ·cases h
 ·split at h
  ·rename_i hp
   simp only [Bool.and_eq_true] at hp
   simp only [Option.some.injEq] at h
   subst h
   obtain ⟨e,hu⟩:=Option.isSome_iff_exists.1 hp.1
   obtain ⟨ad,l,c,rfl⟩:=hx.isFull hp.2
   rw [hy.nils_inv]
   exact ⟨eqAt_nilsR _ (elT_inv hu) _ _ _ _,rfl⟩
  ·cases h
 ·split at h
  ·rename_i hp
   simp only [Option.some.injEq] at h
   subst h
   obtain ⟨e,hu⟩:=hptr hp
   rw [hx.nil_inv,hy.nil_inv]
   exact ⟨eqAt_nil _ hu _,rfl⟩
  ·cases h
 ·split at h
  ·rename_i hp
   simp only [Bool.and_eq_true] at hp
   simp only [Option.some.injEq] at h
   subst h
   obtain ⟨e,hu⟩:=hptr hp.1
   obtain ⟨ad,rfl⟩:=hy.isPtr hp.2
   rw [hx.nil_inv]
   exact ⟨eqAt_nilL _ hu _ _,rfl⟩
  ·cases h
 ·split at h
  ·rename_i hp
   simp only [Bool.and_eq_true] at hp
   simp only [Option.some.injEq] at h
   subst h
   obtain ⟨e,hu⟩:=hptr hp.1
   obtain ⟨ad,rfl⟩:=hx.isPtr hp.2
   rw [hy.nil_inv]
   exact ⟨eqAt_nilR _ hu _ _,rfl⟩
  ·cases h
 ·cases h

theorem intBin_rel {op : BinOp} {t : TypeId} {k : IntKind} {p q : Int} {v : AV} (h : intBin op k p q = some v) (w : World) :
  ∃ x,(binOp op t (.int k p) (.int k q)).run P w = .ok x w ∧ RelV P w C v x:=by
 by_cases h0 : q = 0
 ·subst h0
  cases op <;> simp only [intBin,if_true,Option.some.injEq,reduceCtorEq] at h <;> subst h
  all_goals first
   | exact ⟨_,by simp [go_sem],.one rfl (.int _ _)⟩
   | exact ⟨_,by simp [go_sem],.one rfl (.bool _)⟩
 cases op <;> simp only [intBin,h0,if_false,Option.some.injEq,reduceCtorEq] at h <;> subst h
 all_goals first
  | exact ⟨_,by simp [go_sem,h0],.one rfl (.int _ _)⟩
  | exact ⟨_,by simp [go_sem,h0],.one rfl (.bool _)⟩

theorem shBin_rel {op : BinOp} {t : TypeId} {k k' : IntKind} {p q : Int} {v : AV} (h : shBin op k p q = some v) (w : World) :
  ∃ x,(binOp op t (.int k p) (.int k' q)).run P w = .ok x w ∧ RelV P w C v x:=by
 unfold shBin at h
 split at h
 ·cases h
 ·rename_i h0
  cases op <;> simp only [Option.some.injEq,reduceCtorEq] at h <;> subst h
  ·exact ⟨_,by simp only [binOp,Op.shift,h0,if_false]; rfl,.one rfl (.int _ _)⟩
  ·exact ⟨_,by simp only [binOp,Op.shift,h0,if_false]; rfl,.one rfl (.int _ _)⟩

theorem strBin_rel {op : BinOp} {t : TypeId} {p q : List UInt8} {v : AV} (h : strBin op p q = some v) (w : World) :
  ∃ x,(binOp op t (.string ⟨p.toArray⟩) (.string ⟨q.toArray⟩)).run P w = .ok x w ∧ RelV P w C v x:=by
 have hl : ∀ l : List UInt8,(⟨l.toArray⟩ : ByteArray).toList = l:=fun l=>by
  simp [ByteArray.toList_eq]
 by_cases ha : op = .add
 ·subst ha
  simp only [strBin] at h
  split at h
  ·rename_i hle
   cases h
   refine ⟨_,?_,.one rfl (.str (l:=p ++ q) (by simpa using hle))⟩
   have hn : ¬ ((((⟨p.toArray⟩ : ByteArray).size + (⟨q.toArray⟩ : ByteArray).size : Nat) : Int) > IntKind.i64.max):=by
    show ¬ (((p.toArray.size + q.toArray.size : Nat) : Int) > 9223372036854775807)
    simp only [List.size_toArray]
    unfold maxLen at hle
    omega
   simp only [binOp,Op.stringOp,hn,if_false]
   rw [ByteArray.mk_append_mk]
   rfl
  ·cases h
 cases op <;> simp only [strBin,Option.some.injEq,reduceCtorEq,not_true_eq_false] at h ha <;> subst h
 all_goals exact ⟨_,by simp only [binOp,Op.stringOp,hl]; rfl,.one rfl (.bool _)⟩

theorem eq1_run {ty : TypeId} {x y : AV} {b : Bool} (h : eq1 P ty x y = some b) : x.isOne = true ∧ y.isOne = true ∧ (∀ (d : Nat) (v v' : Value),Rel P w C x [v] → Rel P w C y [v'] → (Op.equalIn (d + 1) ty v v').run P w = .ok b w) ∧
  ∀ (cs : Array Value) (off : Nat) (v : Value),cs[off]? = some v → (Go.part ty cs off).run P w = .ok v w:=by
 unfold eq1 at h
 split at h
 ·rename_i k0 k a k' b' hu
  split at h
  ·rename_i hk
   subst hk
   cases h
   refine ⟨rfl,rfl,fun d v v' hv hv'=>?_,fun cs off v hv=>by simp [Go.part,isAgg,run_underlying hu,hv]⟩
   cases hv; cases hv'
   exact run_equalIn_int w d ty _ _ _ _ hu
  ·cases h
 ·rename_i a b' hu
  cases h
  refine ⟨rfl,rfl,fun d v v' hv hv'=>?_,fun cs off v hv=>by simp [Go.part,isAgg,run_underlying hu,hv]⟩
  cases hv; cases hv'
  rw [run_equalIn_string w d ty _ _ hu]
  simp [ByteArray.toList_eq]
 ·rename_i a b' hu
  cases h
  refine ⟨rfl,rfl,fun d v v' hv hv'=>?_,fun cs off v hv=>by simp [Go.part,isAgg,run_underlying hu,hv]⟩
  cases hv; cases hv'
  exact run_equalIn_bool' w d ty _ _ hu
 ·cases h

theorem eqFs_run (d : Nat) {cs ds : List Value} : ∀ (fl : List Field) (xs ys : List AV) (b : Bool), fl.all (fun f => f.name != "_") = true →
  (∀ (i : Nat) (f : Field) (x : AV),fl[i]? = some f → xs[i]? = some x → x.isOne = true → ∃ v,Rel P w C x [v] ∧ cs[f.offset]? = some v) → (∀ (i : Nat) (f : Field) (x : AV),fl[i]? = some f → ys[i]? = some x → x.isOne = true → ∃ v,Rel P w C x [v] ∧ ds[f.offset]? = some v) →
  eqFs P (fl.map (·.type)) xs ys = some b → (Op.eqFields (d + 1) cs.toArray ds.toArray fl).run P w = .ok b w
 | [],xs,ys,b,_,_,_,h=>by
  rcases xs with _ | ⟨x,xs⟩ <;> rcases ys with _ | ⟨y,ys⟩ <;> simp [eqFs] at h
  subst h
  simp [Op.eqFields]
 | f :: fl,xs,ys,b,hn,hx,hy,h=>by
  rcases xs with _ | ⟨x,xs⟩ <;> rcases ys with _ | ⟨y,ys⟩ <;> simp only [List.map_cons,eqFs,reduceCtorEq] at h
  rw [List.all_cons,Bool.and_eq_true,bne_iff_ne] at hn
  cases h1 : eq1 P f.type x y with
  | none=>rw [h1] at h; cases h
  | some b1 =>
   rw [h1,Option.bind_some] at h
   cases h2 : eqFs P (fl.map (·.type)) xs ys with
   | none=>rw [h2] at h; cases h
   | some b2 =>
    rw [h2,Option.map_some] at h
    cases h
    obtain ⟨o1,o2,r1,r2⟩:=eq1_run (P:=P) (w:=w) (C:=C) h1
    obtain ⟨v,hv,hc⟩:=hx 0 f x rfl rfl o1
    obtain ⟨v',hv',hc'⟩:=hy 0 f y rfl rfl o2
    have ih:=eqFs_run d fl xs ys b2 hn.2 (fun i g z hg hz=>hx (i + 1) g z (by simpa using hg) (by simpa using hz)) (fun i g z hg hz=>hy (i + 1) g z (by simpa using hg) (by simpa using hz)) h2
    simp only [Op.eqFields,hn.1,ne_eq,not_false_eq_true,if_true,Sem.run_bind,r2 cs.toArray f.offset v (by simpa using hc),r2 ds.toArray f.offset v' (by simpa using hc'),Result.andThen_ok,r1 d v v' hv hv']
    cases b1
    ·simp
    ·simpa using ih

theorem eqAgg_rel {t : TypeId} {fs gs : List AV} {u u' : Value} {b : Bool} (h : eqAgg P t fs gs = some b) (hx : RelV P w C (.agg t fs) u) (hy : RelV P w C (.agg t gs) u') (op : BinOp) (ox oy : Operand) :
  (eqGuard op t ox oy u u').run P w = .ok () w ∧ (Op.equalIn 10000 t u u').run P w = .ok b w ∧ ∃ cs ds,u = .agg cs ∧ u' = .agg ds:=by
 obtain ⟨cs,rfl,h1⟩:=hx.agg_inv
 obtain ⟨ds,rfl,h2⟩:=hy.agg_inv
 unfold eqAgg at h
 split at h
 ·rename_i fl hu
  split at h
  ·rename_i hok
   simp only [Bool.and_eq_true,Bool.not_eq_true'] at hok
   obtain ⟨hnm,hst,hg⟩:=hok
   cases hf : flds P t with
   | none=>rw [hf] at h; cases h
   | some ts =>
    rw [hf,Option.bind_some] at h
    refine ⟨run_eqGuard_agg w op t ox oy _ _ hg,?_,_,_,rfl,rfl⟩
    have hfo : P.fieldsOf t = fl:=by simp [Program.fieldsOf,hu]
    rw [run_equalIn_struct w 9999 t _ _ (by rw [hfo]; exact hu) hst,hfo]
    rcases flds_inv hf with ⟨fl',hu',e1,e2,e3⟩ | ⟨m,e,hu',_⟩
    case inr=>rw [hu] at hu'; cases hu'
    rw [hu] at hu'
    cases hu'
    have hts : ts = fl.toList.map (·.type):=by rw [e1]
    have key : ∀ {zs : List AV} {es : List Value},Rel P w C (.agg t zs) es → ∀ (i : Nat) (f : Field) (x : AV),fl.toList[i]? = some f → zs[i]? = some x → x.isOne = true → ∃ v,Rel P w C x [v] ∧ es[f.offset]? = some v:=fun {zs es} hz i f x hfi hxi ho=>by
     have hty : ts[i]? = some f.type:=by rw [hts,List.getElem?_map,hfi]; rfl
     obtain ⟨c,r1,r2,r3,r4⟩:=hz.part hf hxi hty
     obtain ⟨v,rfl⟩:=r1.one_cell ho
     have:=r4 0 v rfl
     obtain ⟨hoff,_⟩:=e2 i f (by simpa using hfi)
     refine ⟨v,r1,?_⟩
     rw [hoff]
     simpa using this
    rw [hts] at h
    exact eqFs_run 9998 fl.toList fs gs b hnm (key h1) (key h2) h
  ·cases h
 ·cases h

theorem abin_rel {op : BinOp} {t : TypeId} {x y v : AV} {u u' : Value} (h : abin P op t x y = some v) (hx : RelV P w C x u) (hy : RelV P w C y u') (ox oy : Operand) :
  ∃ z,(do eqGuard op t ox oy u u'; binOp op t u u').run P w = .ok z w ∧ RelV P w C v z:=by
 unfold abin at h
 split at h
 ·split at h
  ·rename_i k p k' q hs
   rw [hx.int_inv,hy.int_inv,Sem.run_bind,show eqGuard op t ox oy (.int k p) (.int k' q) = pure () from by cases op <;> simp [isSh] at hs <;> simp [eqGuard]; ]
   exact shBin_rel h w
  split at h
  ·rename_i k p k' q _ hk
   subst hk
   rw [hx.int_inv,hy.int_inv,eqGuard_at_int]
   exact intBin_rel h w
  ·cases h
 ·rw [hx.str_inv.1,hy.str_inv.1,eqGuard_at_string]
  exact strBin_rel h w
 ·split at h
  ·rename_i t1 fs t2 gs ht
   obtain ⟨rfl,rfl⟩:=ht
   split at h
   ·cases hb : eqAgg P t2 fs gs with
    | none=>rw [hb] at h; cases h
    | some b =>
     rw [hb] at h
     cases h
     obtain ⟨g1,g2,cs,ds,rfl,rfl⟩:=eqAgg_rel hb hx hy .eql ox oy
     refine ⟨.bool b,?_,.one rfl (.bool _)⟩
     rw [Sem.run_bind,g1,Result.andThen_ok,run_eql_struct,g2]
     rfl
   ·cases hb : eqAgg P t2 fs gs with
    | none=>rw [hb] at h; cases h
    | some b =>
     rw [hb] at h
     cases h
     obtain ⟨g1,g2,cs,ds,rfl,rfl⟩:=eqAgg_rel hb hx hy .neq ox oy
     refine ⟨.bool (!b),?_,.one rfl (.bool _)⟩
     rw [Sem.run_bind,g1,Result.andThen_ok,run_neq_struct,g2]
     rfl
   ·cases h
  ·cases h
 ·rename_i h1 h2
  have key : ∀ b,eqAV P t x y = some b → (do eqGuard op t ox oy u u'; (pure () : Sem Unit)).run P w = .ok () w ∧ (Op.equal t u u').run P w = .ok b w ∧ Value.plainEq u = true:=fun b hb=>by
   obtain ⟨e1,e2⟩:=eqAV_rel hb hx hy
   refine ⟨?_,e1,e2⟩
   cases u <;> simp [Value.plainEq] at e2
   ·rw [eqGuard_at_bool]; rfl
   ·rw [eqGuard_at_pointer]; rfl
   ·rw [Sem.run_bind,eqGuard_slice]; rfl
  split at h
  ·cases hb : eqAV P t x y with
   | none=>simp [hb] at h
   | some b =>
    simp [hb] at h
    subst h
    obtain ⟨g1,g2,g3⟩:=key b hb
    refine ⟨.bool b,?_,.one rfl (.bool _)⟩
    cases u <;> simp [Value.plainEq] at g3
    ·simp [eqGuard_at_bool,binOp,g2]
    ·cases u' <;> simp [eqGuard_at_pointer,binOp,g2]
    ·cases u' <;> simp [eqGuard_slice,binOp,g2]
  ·cases hb : eqAV P t x y with
   | none=>simp [hb] at h
   | some b =>
    simp [hb] at h
    subst h
    obtain ⟨g1,g2,g3⟩:=key b hb
    refine ⟨.bool (!b),?_,.one rfl (.bool _)⟩
    cases u <;> simp [Value.plainEq] at g3
    ·simp [eqGuard_at_bool,binOp,g2]
    ·cases u' <;> simp [eqGuard_at_pointer,binOp,g2]
    ·cases u' <;> simp [eqGuard_slice,binOp,g2]
  ·cases h

theorem ok_binOp {op : BinOp} {t t' : TypeId} {x y : Operand} {u v z : AV} (ho : o.op = .binOp op t x y t') (hx : Is P W0 o A x u) (hy : Is P W0 o A y v) (hb : abin P op t u v = some z) : ValOk P W0 o A z :=
 .of_same fun w C a hr=>by
  have h1:=hx w C a hr
  have h2:=hy w C a hr
  obtain ⟨r,h3,h4⟩:=abin_rel hb h1 h2 x y
  refine ⟨r,?_,h4⟩
  simp only [execOp,ho,Sem.run_bind,h3,Result.andThen_ok,Sem.run_pure]

end
end Go.Av
end
section
namespace Go.Av
open Go

def pickB (c x y : Bool) : Bool:=if c then x else y
theorem pickB_false (c x : Bool) : pickB c x false = (c && x):=by cases c <;> rfl
theorem pickB_true (c y : Bool) : pickB c true y = (c || y):=by cases c <;> rfl

def pickAV (c : Bool) (x y : AV) : AV :=
 match x,y with
 | .bool p,.bool q=>.bool (pickB c p q)
 | x,y=>if c then x else y

section
variable {P : Program} {W0 w w' : World} {C C' : Ctx} {σ σ' : Store} {n : Nat} {A : AState} {a : Act} {o : Oper}

theorem pickAV_rel {c : Bool} {x y : AV} {u v : Value} (hx : c = true → RelV P w C x u) (hy : c = false → RelV P w C y v) : RelV P w C (pickAV c x y) (if c then u else v):=by
 unfold pickAV
 split
 ·rename_i p q
  cases c
  ·have:=hy rfl; simpa [pickB] using this
  ·have:=hx rfl; simpa [pickB] using this
 ·cases c
  ·simpa using hy rfl
  ·simpa using hx rfl

theorem ok_pick {c x y : Operand} {b : Bool} {u v : AV} (ho : o.op = .pick c x y) (hc : Is P W0 o A c (.bool b))
  (hx : b = true → Is P W0 o A x u) (hy : b = false → Is P W0 o A y v) : ValOk P W0 o A (pickAV b u v) :=
 .of_same fun w C a hr=>by
  have h:=(hc w C a hr).bool_inv
  refine ⟨if b then a.eval x else a.eval y,?_,pickAV_rel (fun h=>hx h w C a hr) (fun h=>hy h w C a hr)⟩
  simp [execOp,ho,h,asBool]

theorem ok_not {t : TypeId} {x : Operand} {b : Bool} (ho : o.op = .unOp .not t x) (hx : Is P W0 o A x (.bool b)) : ValOk P W0 o A (.bool (!b)) :=
 .of_same fun w C a hr=>by
  have h:=hx w C a hr
  exact ⟨.bool (!b),by simp [execOp,ho,h.bool_inv,Op.unary],.one rfl (.bool _)⟩

theorem ok_neg {t : TypeId} {x : Operand} {k : IntKind} {m : Int} (ho : o.op = .unOp .neg t x) (hx : Is P W0 o A x (.int k m)) : ValOk P W0 o A (.int k (k.wrap (-m))) :=
 .of_same fun w C a hr=>by
  have h:=hx w C a hr
  exact ⟨.int k (k.wrap (-m)),by simp [execOp,ho,h.int_inv,Op.unary,Op.intArith],.one rfl (.int _ _)⟩

theorem ok_extract {x : Operand} {as : List AV} {k : Nat} {v : AV} (ho : o.op = .extract x k) (hx : Is P W0 o A x (.tup as)) (hv : as[k]? = some v) : ValOk P W0 o A v :=
 .of_same fun w C a hr=>by
  have h:=hx w C a hr
  obtain ⟨vs,e1,e2,e3⟩:=h.tup_inv
  have hk : k < vs.length:=by rw [← e2]; exact (List.getElem?_eq_some_iff.1 hv).1
  exact ⟨vs[k],by simp [execOp,ho,e1,Instr.extract,hk],e3 k v _ hv (List.getElem?_eq_getElem hk)⟩

theorem ok_nilCheck {x : Operand} {v : AV} (ho : o.op = .nilCheck x) (hx : Is P W0 o A x v) (hp : v.isPtr = true) : ValOk P W0 o A v :=
 .of_same fun w C a hr=>by
  have h:=hx w C a hr
  obtain ⟨ad,had⟩:=h.isPtr hp
  exact ⟨.pointer (some ad),by simp [execOp,ho,had],by rw [← had]; exact h⟩

theorem ok_convert {s d : TypeId} {x : Operand} {k k' : IntKind} {m : Int} (ho : o.op = .convert s d x) (hx : Is P W0 o A x (.int k m)) (hs : (P.underlying s).isSome = true) (hd : P.underlying d = some (.int k')) :
  ValOk P W0 o A (.int k' (k'.wrap m)) :=
 .of_same fun w C a hr=>by
  have h:=hx w C a hr
  have hik : P.intKind d = k':=by simp [Program.intKind,hd]
  refine ⟨.int k' (k'.wrap m),?_,.one rfl (.int _ _)⟩
  have:=run_convert_int (P:=P) w s d k m hs (by rw [hik]; exact hd)
  rw [hik] at this
  simp [execOp,ho,h.int_inv,this]

def IsL (P : Program) (W0 : World) (o : Oper) (A : AState) (xs : List Operand) (us : List AV) : Prop:=xs.length = us.length ∧ ∀ (i : Nat) (x : Operand) (u : AV),xs[i]? = some x → us[i]? = some u → Is P W0 o A x u

theorem ok_makeFunc {f : FuncId} {caps : Array Operand} {vs : List AV} (ho : o.op = .makeFunc (.func f) #[] caps) (hv : IsL P W0 o A caps.toList vs) (h1 : vs.all AV.isOne = true) : ValOk P W0 o A (.fn f vs) :=
 .of_same fun w C a hr=>by
  refine ⟨.func (.func f) #[] (caps.toList.map a.eval).toArray,?_,.one rfl (.fn (by simp [← hv.1]) (fun i c hc=>?_) (fun i c v hc hi=>?_))⟩
  ·have e : Array.map a.eval caps = (caps.toList.map a.eval).toArray:=by rw [← Array.toList_map]
   simp [execOp,ho,Instr.makeFunc,e]
  ·exact List.all_eq_true.1 h1 c (List.mem_of_getElem? hc)
  ·have hone:=List.all_eq_true.1 h1 c (List.mem_of_getElem? hc)
   simp only [List.getElem?_map,Option.map_eq_some_iff] at hi
   obtain ⟨y,hy,rfl⟩:=hi
   exact (hv.2 i y c hy hc w C a hr).one_inv hone

def AV.lenOf : AV → Option Nat
 | .sl _ xs | .lit _ xs | .own _ xs _=>some xs.length
 | .nils=>some 0
 | .row _ _ _ n=>some n
 | _=>none

theorem RelV.slice_inv {x : AV} {v : Value} {m : Nat} (h : RelV P w C x v) (hl : x.lenOf = some m) : ∃ ad cap,v = .slice ad m cap ∧ m ≤ cap ∧ cap ≤ maxLen:=by
 cases x <;> simp only [AV.lenOf,Option.some.injEq,reduceCtorEq] at hl <;> subst hl
 ·rw [h.nils_inv]; exact ⟨_,_,rfl,Nat.le_refl _,Nat.zero_le _⟩
 ·have:=h.one_inv rfl; cases this with | sl cf h1 h2=>exact ⟨_,_,rfl,h1,h2⟩
 ·have:=h.one_inv rfl; cases this with | lit cf h1=>exact ⟨_,_,rfl,Nat.le_refl _,h1⟩
 ·have:=h.one_inv rfl; cases this with | own cf h1 h2=>exact ⟨_,_,rfl,h1,h2⟩
 ·have:=h.one_inv rfl; cases this with | row h1 h2=>exact ⟨_,_,rfl,h1,h2⟩

theorem len_le {x : AV} {v : Value} {m : Nat} (h : RelV P w C x v) (hl : x.lenOf = some m) : m ≤ maxLen:=by
 obtain ⟨_,_,_,h1,h2⟩:=h.slice_inv hl; omega

theorem ok_len {x : Operand} {t : TypeId} {v : AV} {m : Nat} (ho : o.op = .call { callee:=.builtin .len,args:=#[x],argTypes:=#[t] }) (hx : Is P W0 o A x v) (hl : v.lenOf = some m) (ht : (elT P t).isSome = true) : ValOk P W0 o A (.int .i64 m) :=
 .of_same fun w C a hr=>by
  have h:=hx w C a hr
  obtain ⟨ad,cap,hv,_,_⟩:=h.slice_inv hl
  obtain ⟨e,he⟩:=Option.isSome_iff_exists.1 ht
  exact ⟨.int .i64 m,by simp [execOp,ho,resolve,invoke,builtin,Builtin.len_,run_underlying (elT_inv he),hv,goInt],.one rfl (.int _ _)⟩

theorem ok_cap_nils {x : Operand} {t : TypeId} (ho : o.op = .call { callee:=.builtin .cap,args:=#[x],argTypes:=#[t] }) (hx : Is P W0 o A x .nils) (ht : (elT P t).isSome = true) : ValOk P W0 o A (.int .i64 0) :=
 .of_same fun w C a hr=>by
  have h:=hx w C a hr
  obtain ⟨e,he⟩:=Option.isSome_iff_exists.1 ht
  exact ⟨.int .i64 0,by simp [execOp,ho,resolve,invoke,builtin,Builtin.cap_,run_underlying (elT_inv he),h.nils_inv,goInt],.one rfl (.int _ _)⟩

theorem ok_len_str {x : Operand} {t : TypeId} {l : List UInt8} (ho : o.op = .call { callee:=.builtin .len,args:=#[x],argTypes:=#[t] }) (hx : Is P W0 o A x (.str l)) (ht : P.underlying t = some .string) : ValOk P W0 o A (.int .i64 l.length) :=
 .of_same fun w C a hr=>by
  have h:=hx w C a hr
  have e : (⟨l.toArray⟩ : ByteArray).size = l.length:=by show l.toArray.size = l.length; simp
  exact ⟨.int .i64 l.length,by simp [execOp,ho,resolve,invoke,builtin,Builtin.len_,run_underlying ht,h.str_inv.1,goInt,e],.one rfl (.int _ _)⟩

def maxI (a b : Int) : Int:=if b > a then b else a
def minI (a b : Int) : Int:=if b < a then b else a

theorem ok_max {x y : Operand} {ts : Array TypeId} {k : IntKind} {p q : Int} (ho : o.op = .call { callee:=.builtin .max,args:=#[x,y],argTypes:=ts }) (hx : Is P W0 o A x (.int k p)) (hy : Is P W0 o A y (.int k q)) : ValOk P W0 o A (.int k (maxI p q)) :=
 .of_same fun w C a hr=>by
  have h1:=hx w C a hr
  have h2:=hy w C a hr
  exact ⟨.int k (maxI p q),by simp [execOp,ho,resolve,invoke,builtin,Builtin.max_,Builtin.max2,h1.int_inv,h2.int_inv,maxI],.one rfl (.int _ _)⟩

theorem ok_min {x y : Operand} {ts : Array TypeId} {k : IntKind} {p q : Int} (ho : o.op = .call { callee:=.builtin .min,args:=#[x,y],argTypes:=ts }) (hx : Is P W0 o A x (.int k p)) (hy : Is P W0 o A y (.int k q)) : ValOk P W0 o A (.int k (minI p q)) :=
 .of_same fun w C a hr=>by
  have h1:=hx w C a hr
  have h2:=hy w C a hr
  exact ⟨.int k (minI p q),by simp [execOp,ho,resolve,invoke,builtin,Builtin.min_,Builtin.min2,h1.int_inv,h2.int_inv,minI],.one rfl (.int _ _)⟩

end
end Go.Av
end
section
namespace Go.Av
open Go

def encL (m : Int) : List UInt8:=(Utf8.encode m).data.toList

section
variable {P : Program} {W0 w w' : World} {C C' : Ctx} {σ σ' : Store} {n : Nat} {A : AState} {a : Act} {o : Oper}

theorem encL_le (m : Int) : (encL m).length ≤ 4:=by
 unfold encL Utf8.encode
 simp only
 generalize (if Utf8.valid m then m.toNat else Utf8.runeError) = c
 by_cases h1 : c < 0x80
 ·rw [if_pos h1]; exact Nat.le_of_ble_eq_true rfl
 by_cases h2 : c < 0x800
 ·rw [if_neg h1,if_pos h2]; exact Nat.le_of_ble_eq_true rfl
 by_cases h3 : c < 0x10000
 ·rw [if_neg h1,if_neg h2,if_pos h3]; exact Nat.le_of_ble_eq_true rfl
 ·rw [if_neg h1,if_neg h2,if_neg h3]; exact Nat.le_of_ble_eq_true rfl

theorem ok_convert_rune {s d : TypeId} {x : Operand} {k : IntKind} {m : Int} (ho : o.op = .convert s d x) (hx : Is P W0 o A x (.int k m)) (hs : (P.underlying s).isSome = true) (hd : P.underlying d = some .string) :
  ValOk P W0 o A (.str (encL m)) :=
 .of_same fun w C a hr=>by
  have h:=hx w C a hr
  obtain ⟨su,hsu⟩:=Option.isSome_iff_exists.1 hs
  refine ⟨.string (Utf8.encode m),?_,.one rfl (.str (Nat.le_trans (encL_le m) (by decide)))⟩
  have : (convert s d (.int k m)).run P w = .ok (.string (Utf8.encode m)) w:=by
   simp only [convert,Sem.run_bind,run_underlying hsu,run_underlying hd,Result.andThen_ok]
   cases su <;> rfl
  simp [execOp,ho,h.int_inv,this]

theorem ok_convert_text {s d : TypeId} {x : Operand} {l : List UInt8} (ho : o.op = .convert s d x) (hx : Is P W0 o A x (.str l)) (hs : P.underlying s = some .string) (hd : P.underlying d = some .string) :
  ValOk P W0 o A (.str l) :=
 .of_same fun w C a hr=>by
  have h:=hx w C a hr
  refine ⟨.string ⟨l.toArray⟩,?_,.one rfl (.str h.str_inv.2)⟩
  have : (convert s d (.string ⟨l.toArray⟩)).run P w = .ok (.string ⟨l.toArray⟩) w:=by
   simp only [convert,Sem.run_bind,run_underlying hs,run_underlying hd,Result.andThen_ok]
   rfl
  simp [execOp,ho,h.str_inv.1,this]

end
end Go.Av
end
section
namespace Go.Av
open Go

def byteAV (c : UInt8) : AV:=.int .u8 c.toNat
def unByte : AV → UInt8 | .int _ n=>UInt8.ofNat n.toNat | _=>0
def isByte : AV → Prop | .int k n=>k = .u8 ∧ 0 ≤ n ∧ n < 256 | _=>False
def allByte : List AV → Prop | []=>True | x :: r=>isByte x ∧ allByte r
theorem isByte_eq {x : AV} (h : isByte x) : x = byteAV (unByte x):=by
 cases x <;> first | exact h.elim | skip
 rename_i k n
 obtain ⟨rfl,h1,h2⟩:=h
 have : ((UInt8.ofNat n.toNat).toNat : Int) = n:=by
  rw [UInt8.toNat_ofNat']
  omega
 simp only [byteAV,unByte,this]
theorem allByte_eq : ∀ {xs : List AV},allByte xs → xs = (xs.map unByte).map byteAV
 | [],_=>rfl
 | x :: r,h=>by rw [List.map_cons,List.map_cons,← isByte_eq h.1,← allByte_eq h.2]
section
variable {P : Program} {W0 w w' : World} {C C' : Ctx} {σ σ' : Store} {n : Nat} {A : AState} {a : Act} {o : Oper}
theorem ok_convert_bytes {s d e : TypeId} {x : Operand} {u : AV} {l : List UInt8} (ho : o.op = .convert s d x) (hx : Is P W0 o A x u) (hu : u.asList = some (e,l.map byteAV)) (hs : P.underlying s = some (.slice e)) (he : P.underlying e = some (.int .u8)) (h1 : szOf P e = 1)
  (hd : P.underlying d = some .string) : ValOk P W0 o A (.str l) :=
 .of_same fun w C a hr=>by
  have h:=hx w C a hr
  obtain ⟨hcase,hone⟩:=AV.asList_inv hu
  obtain ⟨ad,cap,cf,hv,y1,y2,y3,y4,y5⟩:=(h.one_inv hone).sl_of hcase
  rw [List.length_map] at hv y1 y5
  have hlen : l.length ≤ maxLen:=Nat.le_trans y1 y2
  refine ⟨.string ⟨l.toArray⟩,?_,.one rfl (.str hlen)⟩
  by_cases hl0 : l = []
  ·subst hl0
   have hc1:=run_convert_bytes_string (P:=P) w s d e ad 0 cap hs he hd
   have : (Conv.bytesToString (.slice ad 0 cap)).run P w = .ok (.string ⟨#[]⟩) w:=by
    cases ad with
    | none=>rfl
    | some ad =>
     have:=run_bytesToString (P:=P) w ad 0 cap [] (by
      have:=run_loadCells_list (P:=P) (w:=w) ad [] (by simp)
      simpa using this)
     exact (by simpa using this : (Conv.bytesToString (.slice (some ad) 0 cap)).run P w = .ok (.string ByteArray.empty) w)
   rw [List.length_nil] at hv
   simp [execOp,ho,hv,hc1,this]
  ·obtain ⟨b,off,rfl,hc⟩:=y5 (by cases l with | nil=>exact absurd rfl hl0 | cons=>simp)
   have:=run_convert_bytes_arg (P:=P) w s e hs he b off l.length cap (l.map fun c=>((c.toNat : Nat) : Int)) (by simp) (fun i hi=>by
    obtain ⟨c,hcc⟩ : ∃ c,l[i]? = some c:=⟨_,List.getElem?_eq_getElem hi⟩
    have hx : (l.map byteAV)[i]? = some (byteAV c):=by rw [List.getElem?_map,hcc]; rfl
    have hcf : cf i = [.int .u8 c.toNat]:=by
     have:=y3 i _ hx
     generalize cf i = z at this
     cases this
     rfl
    have hg:=(hc i hi 0 (.int .u8 c.toNat) (by rw [hcf]; rfl)).1
    rw [h1,Nat.mul_one,Nat.add_zero] at hg
    rw [hg]
    have : (l.map fun c=>((c.toNat : Nat) : Int)).getD i 0 = c.toNat:=by rw [List.getD_eq_getElem?_getD,List.getElem?_map,hcc]; rfl
    rw [this]) d hd
   have hso : strOfNums (l.map fun c=>((c.toNat : Nat) : Int)) = ⟨l.toArray⟩:=by
    unfold strOfNums
    rw [List.map_map]
    congr 2
    refine (List.map_congr_left fun c _=>?_).trans (List.map_id l)
    simp
   rw [hso] at this
   simp [execOp,ho,hv,this]
end
end Go.Av
end
section
namespace Go.Av
open Go

def BndIs (P : Program) (W0 : World) (o : Oper) (A : AState) (x : Option Operand) (d l : Nat) : Prop :=
 match x with
 | none=>l = d
 | some y=>∃ k i,Is P W0 o A y (.int k i) ∧ 0 ≤ i ∧ i.toNat = l

def cutL {α : Type} (xs : List α) (lo hi : Nat) : List α:=(xs.drop lo).take (hi - lo)
theorem cutL_length {α : Type} (xs : List α) {lo hi : Nat} (h : lo ≤ hi) (h' : hi ≤ xs.length) : (cutL xs lo hi).length = hi - lo:=by simp [cutL]; omega
theorem cutL_get {α : Type} {xs : List α} {lo hi i : Nat} {x : α} (hx : (cutL xs lo hi)[i]? = some x) : xs[lo + i]? = some x ∧ i < hi - lo:=by
 unfold cutL at hx
 rw [List.getElem?_take] at hx
 split at hx
 ·rw [List.getElem?_drop] at hx; exact ⟨hx,by assumption⟩
 ·cases hx

section
variable {P : Program} {W0 w w' : World} {C C' : Ctx} {σ σ' : Store} {n : Nat} {A : AState} {a : Act} {o : Oper}

theorem run_sliceBound {w : World} (k : IntKind) {i : Int} {y l : Nat} (code : BoundsCode) (h0 : 0 ≤ i) (hl : i.toNat = l) (hy : l ≤ y) : (Instr.sliceBound (.int k i) y code).run P w = .ok l w:=by
 have h1 : 0 ≤ i ∧ i ≤ (y : Int):=⟨h0,by omega⟩
 simp [Instr.sliceBound,asIntOf,h1,hl]

theorem run_sliceBounds (hr : RelO P W0 o w C A a) (isS : Bool) {lo hi : Option Operand} {len cap l h : Nat} (hlo : BndIs P W0 o A lo 0 l) (hhi : BndIs P W0 o A hi len h) (hlh : l ≤ h) (hhc : h ≤ cap) :
  (Instr.sliceBounds isS len cap (lo.map a.eval) (hi.map a.eval) none).run P w = .ok (l,h,cap) w:=by
 have e : ∀ y k i,Is P W0 o A y (.int k i) → a.eval y = .int k i:=fun y k i hy=>(hy w C a hr).int_inv
 cases lo with
 | none =>
  cases hi with
  | none=>simp only [BndIs] at hlo hhi; subst hlo hhi; simp [Instr.sliceBounds]
  | some y =>
   obtain ⟨k,i,h1,h2,h3⟩:=hhi
   simp only [BndIs] at hlo
   subst hlo
   simp [Instr.sliceBounds,e y k i h1,run_sliceBound k _ h2 h3 hhc]
 | some x =>
  obtain ⟨kx,ix,x1,x2,x3⟩:=hlo
  cases hi with
  | none =>
   simp only [BndIs] at hhi
   subst hhi
   simp [Instr.sliceBounds,e x kx ix x1,run_sliceBound kx _ x2 x3 hlh]
  | some y =>
   obtain ⟨k,i,h1,h2,h3⟩:=hhi
   simp [Instr.sliceBounds,e x kx ix x1,e y k i h1,run_sliceBound kx _ x2 x3 hlh,run_sliceBound k _ h2 h3 hhc]

theorem ok_slice_str {t : TypeId} {x : Operand} {lo hi : Option Operand} {l : List UInt8} {p q : Nat} (ho : o.op = .slice t x lo hi none) (hx : Is P W0 o A x (.str l)) (ht : P.underlying t = some .string)
  (hlo : BndIs P W0 o A lo 0 p) (hhi : BndIs P W0 o A hi l.length q) (h1 : p ≤ q) (h2 : q ≤ l.length) : ValOk P W0 o A (.str (cutL l p q)) :=
 .of_same fun w C a hr=>by
  have h:=hx w C a hr
  obtain ⟨hv,hle⟩:=h.str_inv
  have e : (⟨l.toArray⟩ : ByteArray).size = l.length:=by show l.toArray.size = l.length; simp
  have hb:=run_sliceBounds hr false hlo hhi h1 h2
  refine ⟨.string ⟨(cutL l p q).toArray⟩,?_,.one rfl (.str ?_)⟩
  ·have he:=Lib.extract_eq (⟨l.toArray⟩ : ByteArray) p q
   simp only [] at he
   simp [execOp,ho,Instr.sliceAt,Instr.slice,run_underlying ht,hv,e,hb,he,cutL]
  ·rw [cutL_length l h1 h2]; omega

theorem ok_slice_list {t e : TypeId} {x : Operand} {lo hi : Option Operand} {xs : List AV} {p q : Nat} {v : AV} (ho : o.op = .slice t x lo hi none) (hx : Is P W0 o A x v) (hl : v.asList = some (e,xs)) (ht : elT P t = some e) (he : 0 < szOf P e)
  (hlo : BndIs P W0 o A lo 0 p) (hhi : BndIs P W0 o A hi xs.length q) (h1 : p ≤ q) (h2 : q ≤ xs.length) : ValOk P W0 o A (.sl e (cutL xs p q)) :=
 .of_same fun w C a hr=>by
  have h:=hx w C a hr
  obtain ⟨hcase,hone⟩:=AV.asList_inv hl
  obtain ⟨ad,cap,cf,hv,c1,c2,c3,c4,c5⟩:=(h.one_inv hone).sl_of hcase
  obtain ⟨inf,hinf,hsz⟩:=szOf_info he
  have hb:=run_sliceBounds hr true hlo hhi h1 (Nat.le_trans h2 c1)
  have hlen:=cutL_length xs h1 h2
  refine ⟨.slice (if cap = p then ad else ad.map (·.add (p * szOf P e))) (q - p) (cap - p),?_,?_⟩
  ·simp [execOp,ho,Instr.sliceAt,Instr.slice,run_underlying (elT_inv ht),hv,hb,sizeOf,typeInfo,hinf,hsz]
  ·rw [← hlen]
   refine .one rfl (.sl (fun i=>cf (p + i)) (by omega) (by omega) (fun i x hi=>c3 _ _ (cutL_get hi).1) (fun i x hi=>c4 _ _ (cutL_get hi).1) ?_)
   intro hpos
   rw [hlen] at hpos
   obtain ⟨b,off,rfl,hc⟩:=c5 (by omega)
   rw [if_neg (by omega)]
   refine ⟨b,off + p * szOf P e,by simp [Addr.add_lit],fun i hi=>?_⟩
   rw [hlen] at hi
   have:=hc (p + i) (by omega)
   rwa [Nat.add_mul,← Nat.add_assoc] at this

theorem ok_slice_row {t e : TypeId} {x : Operand} {lo hi : Option Operand} {id off m p q : Nat} (ho : o.op = .slice t x lo hi none) (hx : Is P W0 o A x (.row e id off m)) (ht : elT P t = some e) (he : 0 < szOf P e)
  (hlo : BndIs P W0 o A lo 0 p) (hhi : BndIs P W0 o A hi m q) (h1 : p ≤ q) (h2 : q ≤ m) : ValOk P W0 o A (.row e id (off + p) (q - p)) :=
 .of_same fun w C a hr=>by
  have h:=(hx w C a hr).one_inv rfl
  obtain ⟨inf,hinf,hsz⟩:=szOf_info he
  have ⟨ad,cap,hv,g1,g2,g3,g4⟩ : ∃ ad cap,a.eval x = .slice ad m cap ∧ m ≤ cap ∧ cap ≤ maxLen ∧ id < C.nx ∧ (∀ ow,C.m id = some ow → ∃ b base room,ow = .obj b e base room ∧ (0 < cap → ad = some ⟨b,base + off * szOf P e,none⟩) ∧ base + (off + cap) * szOf P e = room):=by
   generalize a.eval x = v at h
   cases h with
   | row h1 h2 h3 h4=>exact ⟨_,_,rfl,h1,h2,h3,h4⟩
  have hb:=run_sliceBounds hr true hlo hhi h1 (Nat.le_trans h2 g1)
  refine ⟨.slice (if cap = p then ad else ad.map (·.add (p * szOf P e))) (q - p) (cap - p),?_,.one rfl (.row (by omega) (by omega) g3 (fun ow how=>?_))⟩
  ·simp [execOp,ho,Instr.sliceAt,Instr.slice,run_underlying (elT_inv ht),hv,hb,sizeOf,typeInfo,hinf,hsz]
  ·obtain ⟨b,base,room,e1,e2,e3⟩:=g4 ow how
   refine ⟨b,base,room,e1,fun hc=>?_,by rw [show off + p + (cap - p) = off + cap by omega]; exact e3⟩
   rw [if_neg (by omega),e2 (by omega)]
   simp [Addr.add_lit,Nat.add_mul,Nat.add_assoc]

theorem ok_slice_nils {t e : TypeId} {x : Operand} {lo hi : Option Operand} (ho : o.op = .slice t x lo hi none) (hx : Is P W0 o A x .nils) (ht : elT P t = some e) (he : 0 < szOf P e)
  (hlo : BndIs P W0 o A lo 0 0) (hhi : BndIs P W0 o A hi 0 0) : ValOk P W0 o A .nils :=
 .of_same fun w C a hr=>by
  have hv:=(hx w C a hr).nils_inv
  obtain ⟨inf,hinf,hsz⟩:=szOf_info he
  have hb:=run_sliceBounds hr (len:=0) (cap:=0) true hlo hhi (Nat.le_refl 0) (Nat.le_refl 0)
  exact ⟨.slice none 0 0,by simp [execOp,ho,Instr.sliceAt,Instr.slice,run_underlying (elT_inv ht),hv,hb,sizeOf,typeInfo,hinf],.one rfl .nils⟩

end
end Go.Av
end
section
namespace Go.Av
open Go

def splice (arr : Array Value) (off : Nat) (l : List Value) : Array Value:=(arr.toList.take off ++ l ++ arr.toList.drop (off + l.length)).toArray

theorem splice_size {arr : Array Value} {off : Nat} {l : List Value} (h : off + l.length ≤ arr.size) : (splice arr off l).size = arr.size:=by
 simp only [splice,List.size_toArray,List.length_append,List.length_take,List.length_drop,Array.length_toList]; omega

theorem splice_get {arr : Array Value} {off : Nat} {l : List Value} (h : off + l.length ≤ arr.size) (p : Nat) : (splice arr off l)[p]? = if off ≤ p ∧ p < off + l.length then l[p - off]? else arr[p]?:=by
 simp only [splice,List.getElem?_toArray,List.append_assoc]
 have ht : (arr.toList.take off).length = off:=by simp; omega
 by_cases h1 : p < off
 ·rw [List.getElem?_append_left (by omega),List.getElem?_take,if_pos h1,if_neg (by omega)]; simp
 ·rw [List.getElem?_append_right (by omega),ht]
  by_cases h2 : p < off + l.length
  ·rw [List.getElem?_append_left (by omega),if_pos ⟨by omega,h2⟩]
  ·rw [List.getElem?_append_right (by omega),if_neg (by omega),List.getElem?_drop]
   simp only [Array.getElem?_toList]
   congr 1; omega

theorem splice_mem {arr : Array Value} {off : Nat} {l : List Value} {q : Value → Prop} (h1 : ∀ c ∈ arr.toList,q c) (h2 : ∀ c ∈ l,q c) : ∀ c ∈ (splice arr off l).toList,q c:=by
 intro c hc
 simp only [splice,List.mem_append] at hc
 rcases hc with (hc | hc) | hc
 ·exact h1 c (List.mem_of_mem_take hc)
 ·exact h2 c hc
 ·exact h1 c (List.mem_of_mem_drop hc)

theorem fold_splice : ∀ (l : List Value) (k off : Nat) (arr : Array Value),off + k + l.length ≤ arr.size → (l.zipIdx k).foldl (fun cs (x : Value × Nat)=>cs.setIfInBounds (off + x.2) x.1) arr = splice arr (off + k) l
 | [],k,off,arr,_=>by simp [splice]
 | v :: r,k,off,arr,h=>by
  simp only [List.zipIdx_cons,List.foldl_cons]
  simp only [List.length_cons] at h
  rw [fold_splice r (k + 1) off _ (by simp; omega)]
  apply Array.ext_getElem?
  intro p
  rw [splice_get (by simp; omega),splice_get (by simp; omega)]
  simp only [List.length_cons]
  by_cases h1 : off + k = p
  ·subst h1
   rw [if_neg (by omega),if_pos (by omega)]
   simp [show off + k < arr.size by omega]
  ·by_cases h2 : off + (k + 1) ≤ p ∧ p < off + (k + 1) + r.length
   ·rw [if_pos h2,if_pos (by omega),show p - (off + k) = (p - (off + (k + 1))) + 1 by omega,List.getElem?_cons_succ]
   ·rw [if_neg h2,if_neg (by omega),Array.getElem?_setIfInBounds_ne h1]

theorem fold_splice_array (v : Array Value) (off : Nat) (arr : Array Value) (h : off + v.size ≤ arr.size) : v.zipIdx.foldl (fun cs (x : Value × Nat)=>cs.setIfInBounds (off + x.2) x.1) arr = splice arr off v.toList:=by
 have:=fold_splice v.toList 0 off arr (by simpa using h)
 simp only [Nat.add_zero] at this
 rw [← this,← Array.foldl_toList]
 congr 1
 simp

section
variable {P : Program} {W0 w w' : World} {C C' : Ctx} {σ σ' : Store} {n : Nat} {A : AState} {a : Act} {o : Oper}

theorem offAt_succ {ts : List TypeId} {k : Nat} {ty : TypeId} (h : ts[k]? = some ty) : offAt P ts (k + 1) = offAt P ts k + szOf P ty:=by
 obtain ⟨hk,he⟩:=List.getElem?_eq_some_iff.1 h
 simp only [offAt,List.take_succ_eq_append_getElem hk,List.map_append,List.sum_append,he]
 simp

theorem offAt_mono {ts : List TypeId} {i k : Nat} (h : i ≤ k) : offAt P ts i ≤ offAt P ts k:=by
 induction h with
 | refl=>exact Nat.le_refl _
 | step _ ih =>
  rename_i m hm
  refine Nat.le_trans ih ?_
  cases hk : ts[m]? with
  | some ty=>rw [offAt_succ hk]; omega
  | none =>
   have : ts.length ≤ m:=List.getElem?_eq_none_iff.1 hk
   unfold offAt
   rw [List.take_of_length_le this,List.take_of_length_le (by omega)]
   exact Nat.le_refl _

structure Parts (P : Program) (w : World) (C : Ctx) (ts : List TypeId) (fs : List AV) (cs : List Value) : Prop where
 len : fs.length = ts.length
 size : cs.length = offAt P ts ts.length
 one : ∀ c ∈ cs,c.oneCell' = true
 part : ∃ cf : Nat → List Value,∀ i x ty,fs[i]? = some x → ts[i]? = some ty → Rel P w C x (cf i) ∧ (cf i).length = szOf P ty ∧ fits P ty x ∧ ∀ (j : Nat) (u : Value),(cf i)[j]? = some u → cs[offAt P ts i + j]? = some u

theorem Parts.rel {t : TypeId} {ts : List TypeId} {fs : List AV} {cs : List Value} (h : Parts P w C ts fs cs) (ht : flds P t = some ts) : Rel P w C (.agg t fs) cs:=by
 obtain ⟨cf,hcf⟩:=h.part
 have hget : ∀ i x,fs[i]? = some x → ∃ ty,ts[i]? = some ty:=fun i x hx=>by
  have : i < ts.length:=by rw [← h.len]; exact (List.getElem?_eq_some_iff.1 hx).1
  exact ⟨_,List.getElem?_eq_getElem this⟩
 refine .agg cf ht h.len (by rw [h.size,offAt_total ht]) h.one (fun i x hx=>?_) (fun i x ty hx hty=>?_)
 ·obtain ⟨ty,hty⟩:=hget i x hx
  exact (hcf i x ty hx hty).1
 ·exact (hcf i x ty hx hty).2

theorem Rel.parts {t : TypeId} {ts : List TypeId} {fs : List AV} {cs : List Value} (h : Rel P w C (.agg t fs) cs) (ht : flds P t = some ts) : Parts P w C ts fs cs:=by
 cases h with
 | agg cf h1 h2 h3 h4 h5 h6 =>
  rw [ht] at h1
  cases h1
  exact ⟨h2,by rw [h3,offAt_total ht],h4,cf,fun i x ty hx hty=>⟨h5 i x hx,h6 i x ty hx hty⟩⟩

theorem Parts.set {ts : List TypeId} {fs : List AV} {cs : List Value} (h : Parts P w C ts fs cs) {k : Nat} {ty : TypeId} {x : AV} {c : List Value} (hty : ts[k]? = some ty) (hx : Rel P w C x c) (hf : fits P ty x) :
  offAt P ts k + c.length ≤ cs.length ∧ Parts P w C ts (fs.set k x) (splice cs.toArray (offAt P ts k) c).toList:=by
 obtain ⟨cf,hcf⟩:=h.part
 have hlen:=hx.length_fits hf
 have hk : k < ts.length:=(List.getElem?_eq_some_iff.1 hty).1
 have hfit : offAt P ts k + c.length ≤ cs.length:=by
  rw [hlen,← offAt_succ hty,h.size]; exact offAt_mono (by omega)
 refine ⟨hfit,⟨by simpa using h.len,?_,?_,fun i=>if i = k then c else cf i,fun i y ty' hy hty'=>?_⟩⟩
 ·have:=splice_size (arr:=cs.toArray) (off:=offAt P ts k) (l:=c) (by simpa using hfit)
  simpa [h.size] using this
 ·exact splice_mem (q:=fun c=>c.oneCell' = true) (by simpa using h.one) hx.oneCell
 ·have hget : ∀ p,(splice cs.toArray (offAt P ts k) c).toList[p]? = if offAt P ts k ≤ p ∧ p < offAt P ts k + c.length then c[p - offAt P ts k]? else cs[p]?:=fun p=>by
   rw [Array.getElem?_toList,splice_get (by simpa using hfit)]; simp
  by_cases hik : i = k
  ·subst hik
   rw [hty] at hty'
   cases hty'
   have : i < fs.length:=by rw [h.len]; exact hk
   simp only [List.getElem?_set_self this,Option.some.injEq] at hy
   subst hy
   simp only [if_true]
   refine ⟨hx,hlen,hf,fun j u hj=>?_⟩
   have hjl : j < c.length:=(List.getElem?_eq_some_iff.1 hj).1
   rw [hget,if_pos ⟨by omega,by omega⟩,Nat.add_sub_cancel_left]
   exact hj
  ·rw [List.getElem?_set_ne (Ne.symm hik)] at hy
   simp only [hik,if_false]
   obtain ⟨r1,r2,r3,r4⟩:=hcf i y ty' hy hty'
   refine ⟨r1,r2,r3,fun j u hj=>?_⟩
   have hjl : j < szOf P ty':=by rw [← r2]; exact (List.getElem?_eq_some_iff.1 hj).1
   rw [hget,if_neg ?_]
   ·exact r4 j u hj
   ·rintro ⟨g1,g2⟩
    rcases Nat.lt_or_gt_of_ne hik with hlt | hgt
    ·have:=offAt_mono (P:=P) (ts:=ts) (show i + 1 ≤ k by omega)
     rw [offAt_succ hty'] at this
     omega
    ·have:=offAt_mono (P:=P) (ts:=ts) (show k + 1 ≤ i by omega)
     rw [offAt_succ hty,← hlen] at this
     omega

end

def zeroFlds (P : Program) (z : TypeId → List Value → Option AV) : List TypeId → List Value → Option (List AV)
 | [],_=>some []
 | t :: ts,cs=>match z t (cs.take (szOf P t)),zeroFlds P z ts (cs.drop (szOf P t)) with
  | some a,some as=>some (a :: as)
  | _,_=>none

def zeroFrom (P : Program) : Nat → TypeId → List Value → Option AV
 | 0,_,_=>none
 | f + 1,t,cs=>match flds P t with
  | some ts=>if cs.length == szOf P t && cs.all Value.oneCell' then (zeroFlds P (zeroFrom P f) ts cs).map (.agg t) else none
  | none=>if prim P t then match cs with
    | [c]=>if (constAV c).isOne then some (constAV c) else none
    | _=>none
   else none

def zeroOf (P : Program) (t : TypeId) : Option AV:=((P.info? t).bind (·.zero)).bind fun z=>zeroFrom P 8 t z.cells.toList

section
variable {P : Program} {W0 w w' : World} {C C' : Ctx} {σ σ' : Store} {n : Nat} {A : AState} {a : Act} {o : Oper}

theorem zeroFlds_rel {z : TypeId → List Value → Option AV} : ∀ (ts : List TypeId) (cs : List Value) (as : List AV),zeroFlds P z ts cs = some as →
  as.length = ts.length ∧ ∀ i x ty,as[i]? = some x → ts[i]? = some ty → z ty ((cs.drop (offAt P ts i)).take (szOf P ty)) = some x
 | [],cs,as,h=>by
  simp [zeroFlds] at h
  subst h
  exact ⟨rfl,by simp⟩
 | t :: ts,cs,as,h=>by
  simp only [zeroFlds] at h
  split at h
  ·rename_i a as' h1 h2
   simp only [Option.some.injEq] at h
   subst h
   obtain ⟨g1,g2⟩:=zeroFlds_rel ts _ as' h2
   refine ⟨by simp [g1],fun i x ty hx hty=>?_⟩
   cases i with
   | zero =>
    simp at hx hty
    subst hx hty
    simpa [offAt] using h1
   | succ i =>
    simp at hx hty
    have:=g2 i x ty hx hty
    rw [List.drop_drop] at this
    simpa [offAt] using this
  ·cases h

theorem zeroFrom_rel : ∀ (f : Nat) (t : TypeId) (cs : List Value) (x : AV),zeroFrom P f t cs = some x → Rel P w C x cs ∧ fits P t x
 | 0,_,_,_,h=>by cases h
 | f + 1,t,cs,x,h=>by
  simp only [zeroFrom] at h
  split at h
  ·rename_i ts hts
   split at h
   ·rename_i hok
    simp only [Bool.and_eq_true,beq_iff_eq,List.all_eq_true] at hok
    simp only [Option.map_eq_some_iff] at h
    obtain ⟨as,has,rfl⟩:=h
    obtain ⟨g1,g2⟩:=zeroFlds_rel ts cs as has
    have hp : Parts P w C ts as cs:=by
     refine ⟨g1,by rw [hok.1,offAt_total hts],hok.2,fun i=>(cs.drop (offAt P ts i)).take (szOf P (ts.getD i 0)),fun i x ty hx hty=>?_⟩
     have hd : ts.getD i 0 = ty:=by simp [List.getD,hty]
     have hz:=g2 i x ty hx hty
     obtain ⟨r1,r2⟩:=zeroFrom_rel f ty _ x hz
     simp only [hd]
     refine ⟨r1,r1.length_fits r2,r2,fun j u hj=>?_⟩
     rw [List.getElem?_take] at hj
     split at hj
     ·rwa [List.getElem?_drop] at hj
     ·cases hj
    exact ⟨hp.rel hts,rfl,by simp [hts]⟩
   ·cases h
  ·split at h
   ·rename_i hp
    split at h
    ·rename_i c
     split at h
     ·rename_i hone
      simp only [Option.some.injEq] at h
      subst h
      refine ⟨(constAV_rel c).one_inv hone,?_⟩
      cases hc : constAV c <;> simp_all [fits,AV.isOne]
     ·cases h
    ·cases h
   ·cases h

theorem zeroOf_rel {t : TypeId} {x : AV} (h : zeroOf P t = some x) : ∃ i z,P.info? t = some i ∧ i.zero = some z ∧ Rel P w C x z.cells.toList ∧ fits P t x:=by
 unfold zeroOf at h
 obtain ⟨z,hz,hf⟩:=Option.bind_eq_some_iff.1 h
 obtain ⟨i,hi,hz⟩:=Option.bind_eq_some_iff.1 hz
 exact ⟨i,z,hi,hz,zeroFrom_rel 8 t _ x hf⟩

def setAll : List (Nat × AV) → List AV → List AV
 | [],fs=>fs
 | (i,v) :: r,fs=>setAll r (fs.set i v)

def partsFit (P : Program) (ts : List TypeId) (ps : List (Nat × AV)) : Prop:=∀ p ∈ ps,∃ ty,ts[p.1]? = some ty ∧ fits P ty p.2

theorem run_fill {ts : List TypeId} {place : Nat → Option (Nat × Nat)} (hpl : ∀ k ty,ts[k]? = some ty → place k = some (offAt P ts k,szOf P ty)) :
  ∀ (ps : List (Nat × AV)) (vs : List (Nat × Value)) (fs : List AV) (cells : Array Value),Parts P w C ts fs cells.toList → ps.length = vs.length →
   (∀ (i : Nat) (p : Nat × AV) (v : Nat × Value),ps[i]? = some p → vs[i]? = some v → v.1 = p.1 ∧ RelV P w C p.2 v.2) → partsFit P ts ps → ∃ cells',Instr.fill place cells vs = some cells' ∧ Parts P w C ts (setAll ps fs) cells'.toList
 | [],vs,fs,cells,h,hl,_,_=>by
  have : vs = []:=List.eq_nil_of_length_eq_zero (by simpa using hl.symm)
  subst this
  exact ⟨cells,rfl,h⟩
 | (k,x) :: ps,[],fs,cells,h,hl,_,_=>by simp at hl
 | (k,x) :: ps,(k',v) :: vs,fs,cells,h,hl,hr,hf=>by
  obtain ⟨e1,e2⟩:=hr 0 (k,x) (k',v) rfl rfl
  simp only at e1 e2
  subst e1
  obtain ⟨ty,hty,hfit⟩:=hf (k',x) (by simp)
  simp only at hty hfit
  have hc:=e2.cells hfit
  obtain ⟨s1,s2⟩:=h.set hty hc hfit
  have hsz : v.cells.size = szOf P ty:=by
   have:=hc.length_fits hfit
   simpa using this
  have s1' : offAt P ts k' + v.cells.size ≤ cells.size:=by simpa using s1
  obtain ⟨cells',r1,r2⟩:=run_fill hpl ps vs (fs.set k' x) (splice cells (offAt P ts k') v.cells.toList) s2 (by simpa using hl)
   (fun i p q hp hq=>hr (i + 1) p q (by simpa using hp) (by simpa using hq)) (fun p hp=>hf p (by simp [hp]))
  refine ⟨cells',?_,r2⟩
  rw [← r1]
  have hfold:=fold_splice_array v.cells (offAt P ts k') cells s1'
  simp only [Instr.fill,hpl _ _ hty,hsz,ne_eq,not_true_eq_false,decide_false,Bool.false_or]
  rw [if_neg (by simp; omega)]
  congr 1

def IsParts (P : Program) (W0 : World) (o : Oper) (A : AState) (ps : List (Nat × Operand)) (qs : List (Nat × AV)) : Prop :=
 qs.length = ps.length ∧ ∀ (i : Nat) (p : Nat × Operand) (q : Nat × AV),ps[i]? = some p → qs[i]? = some q → p.1 = q.1 ∧ Is P W0 o A p.2 q.2

theorem IsParts.rel {ps : List (Nat × Operand)} {qs : List (Nat × AV)} (h : IsParts P W0 o A ps qs) (hr : RelO P W0 o w C A a) : ∀ (i : Nat) (p : Nat × AV) (v : Nat × Value),qs[i]? = some p → (ps.map fun q=>(q.1,a.eval q.2))[i]? = some v → v.1 = p.1 ∧ RelV P w C p.2 v.2:=by
 intro i p v hp hv
 simp only [List.getElem?_map,Option.map_eq_some_iff] at hv
 obtain ⟨y,hy,rfl⟩:=hv
 obtain ⟨e1,e2⟩:=h.2 i y p hy hp
 exact ⟨e1,e2 w C a hr⟩

theorem mapM_fields (w : World) : ∀ (fs : List Field),(∀ f ∈ fs,0 < szOf P f.type) → (fs.mapM (fun f=>do pure (f.offset,← sizeOf f.type) : Field → Sem (Nat × Nat))).run P w = .ok (fs.map fun f=>(f.offset,szOf P f.type)) w
 | [],_=>rfl
 | f :: r,h=>by
  obtain ⟨i,hi,hs⟩:=szOf_info (h f (by simp))
  have ih:=mapM_fields w r (fun g hg=>h g (by simp [hg]))
  rw [List.mapM_cons]
  have hsz : (sizeOf f.type).run P w = .ok (szOf P f.type) w:=by simp [sizeOf,typeInfo,hi,hs]
  simp only [Sem.run_bind,hsz,ih,Result.andThen_ok,Sem.run_pure,List.map_cons]

theorem ok_build {t : TypeId} {ts : List TypeId} {ps : Array (Nat × Operand)} {fs : List AV} {qs : List (Nat × AV)} (ho : o.op = .build t ps) (hts : flds P t = some ts)
  (hz : zeroOf P t = some (.agg t fs)) (hq : IsParts P W0 o A ps.toList qs) (hf : partsFit P ts qs) : ValOk P W0 o A (.agg t (setAll qs fs)) :=
 .of_same fun w C a hr=>by
  obtain ⟨inf,z,hi,hiz,hrel,hfit⟩:=zeroOf_rel (w:=w) (C:=C) hz
  have hparts:=hrel.parts hts
  have e : (Array.map (fun x=>(x.1,a.eval x.2)) ps).toList = ps.toList.map fun q=>(q.1,a.eval q.2):=by simp
  have hzv : (zeroValue t).run P w = .ok z w:=by simp [zeroValue,typeInfo,hi,hiz]
  rcases flds_inv hts with ⟨fl,hu,e1,e2,e3⟩ | ⟨m,el,hu,e1,e2⟩
  ·have hm:=mapM_fields (P:=P) w fl.toList (fun f hf=>by
    obtain ⟨k,hk,he⟩:=List.getElem_of_mem hf
    have : fl[k]? = some f:=by rw [← he]; simp
    exact (e2 k f (by simpa using this)).2)
   have hpl : ∀ k ty,ts[k]? = some ty → ((fl.toList.map fun f=>(f.offset,szOf P f.type)).toArray[·]?) k = some (offAt P ts k,szOf P ty):=fun k ty hk=>by
    subst e1
    simp only [List.getElem?_map,Option.map_eq_some_iff] at hk
    obtain ⟨f,hf,rfl⟩:=hk
    have hf' : fl[k]? = some f:=by simpa using hf
    have:=(e2 k f hf').1
    simp [hf',this]
   obtain ⟨cells',r1,r2⟩:=run_fill hpl qs (ps.toList.map fun q=>(q.1,a.eval q.2)) fs z.cells hparts (by simpa using hq.1) (hq.rel hr) hf
   refine ⟨.agg cells',?_,?_⟩
   ·have hmA : (fl.mapM (fun f=>do pure (f.offset,← sizeOf f.type) : Field → Sem (Nat × Nat))).run P w = .ok (fl.toList.map fun f=>(f.offset,szOf P f.type)).toArray w:=by
     rw [← Array.toArray_toList (xs:=fl),Array.mapM_eq_mapM_toList]
     simp only [Sem.run_map,hm,Result.andThen_ok]
    simp only [execOp,ho,Instr.build,Sem.run_bind,hzv,Result.andThen_ok,run_underlying hu,hmA]
    rw [e,r1]
    rfl
   ·have:=RelV.agg (r2.rel hts)
    simpa using this
  ·have hpos : 0 < szOf P el:=by
    rcases Nat.eq_zero_or_pos (szOf P el) with h0 | h0
    ·have:=flds_pos hts; rw [e2,h0] at this; simp at this
    ·exact h0
   obtain ⟨inf',hinf,hsz⟩:=szOf_info hpos
   have hpl : ∀ k ty,ts[k]? = some ty → (fun i=>some (i * szOf P el,szOf P el)) k = some (offAt P ts k,szOf P ty):=fun k ty hk=>by
    subst e1
    have hk':=List.getElem?_eq_some_iff.1 hk
    obtain ⟨hlt,he⟩:=hk'
    simp only [List.length_replicate] at hlt
    simp only [List.getElem_replicate] at he
    subst he
    rw [offAt_replicate _ _ _ (by omega)]
   obtain ⟨cells',r1,r2⟩:=run_fill hpl qs (ps.toList.map fun q=>(q.1,a.eval q.2)) fs z.cells hparts (by simpa using hq.1) (hq.rel hr) hf
   refine ⟨.agg cells',?_,?_⟩
   ·have hso : (sizeOf el).run P w = .ok (szOf P el) w:=by simp [sizeOf,typeInfo,hinf,hsz]
    simp only [execOp,ho,Instr.build,Sem.run_bind,hzv,Result.andThen_ok,run_underlying hu,hso]
    rw [e,r1]
    rfl
   ·have:=RelV.agg (r2.rel hts)
    simpa using this

theorem row_new_rel {e : TypeId} {xs : List AV} {cf : Nat → List Value} {arr : Array Value} (hst : StRel P W0 w C σ) (hl : xs.length ≤ maxLen)
  (h : ∀ i x,xs[i]? = some x → Rel P w C x (cf i) ∧ fits P e x ∧ ∀ (j : Nat) (u : Value),(cf i)[j]? = some u → arr[i * szOf P e + j]? = some u) :
  RelV P (w.alloc (.cells arr e)) C (.lit e xs) (.slice (some ⟨w.heap.size,0,none⟩) xs.length xs.length):=by
 refine .one rfl (.lit cf hl (fun i x hx=>(h i x hx).1.mono (Step.alloc w C _)) (fun i x hx=>⟨(h i x hx).1.length_fits (h i x hx).2.1,(h i x hx).2.1⟩) (fun _=>⟨w.heap.size,0,rfl,fun i hi j u hj=>⟨?_,?_⟩⟩))
 ·have:=(h i _ (List.getElem?_eq_getElem hi)).2.2 j u hj
  rw [World.cell?_alloc_new,Nat.zero_add]
  exact this
 ·exact Stable.free (by simp) (hst.fresh)

def RowIs (P : Program) (w : World) (C : Ctx) (e : TypeId) (k : Nat) (xs : List AV) (cells : Array Value) : Prop :=
 ∃ cf : Nat → List Value,∀ i x,xs[i]? = some x → Rel P w C x (cf (k + i)) ∧ fits P e x ∧ ∀ (j : Nat) (u : Value),(cf (k + i))[j]? = some u → cells[(k + i) * szOf P e + j]? = some u

theorem run_fill_row {e : TypeId} (N : Nat) : ∀ (ps : List (Nat × AV)) (vs : List (Nat × Value)) (k : Nat) (cells : Array Value),ps.map (·.1) = List.range' k ps.length → ps.length = vs.length → cells.size = N * szOf P e → k + ps.length ≤ N →
  (∀ (i : Nat) (p : Nat × AV) (v : Nat × Value),ps[i]? = some p → vs[i]? = some v → v.1 = p.1 ∧ RelV P w C p.2 v.2) → (∀ p ∈ ps,fits P e p.2) →
  ∃ cells',Instr.fill (fun i=>some (i * szOf P e,szOf P e)) cells vs = some cells' ∧ cells'.size = cells.size ∧ (∀ p,p < k * szOf P e → cells'[p]? = cells[p]?) ∧ RowIs P w C e k (ps.map (·.2)) cells'
 | [],vs,k,cells,_,hl,_,_,_,_=>by
  have : vs = []:=List.eq_nil_of_length_eq_zero (by simpa using hl.symm)
  subst this
  exact ⟨cells,rfl,rfl,fun _ _=>rfl,fun _=>[],by simp⟩
 | (q,x) :: ps,[],k,cells,_,hl,_,_,_,_=>by simp at hl
 | (q,x) :: ps,(q',v) :: vs,k,cells,hk,hl,hs,hN,hr,hf=>by
  simp only [List.map_cons,List.length_cons,List.range'_succ,List.cons.injEq] at hk
  obtain ⟨rfl,hk⟩:=hk
  obtain ⟨e1,e2⟩:=hr 0 (q,x) (q',v) rfl rfl
  simp only at e1 e2
  subst e1
  have hfit:=hf (q',x) (by simp)
  simp only at hfit
  have hc:=e2.cells hfit
  have hsz : v.cells.size = szOf P e:=by
   have:=hc.length_fits hfit
   simpa using this
  simp only [List.length_cons] at hN hl
  have hroom : q' * szOf P e + v.cells.size ≤ cells.size:=by
   rw [hs,hsz,← Nat.succ_mul]
   exact Nat.mul_le_mul_right _ (by omega)
  have hss:=splice_size (arr:=cells) (off:=q' * szOf P e) (l:=v.cells.toList) (by simpa using hroom)
  obtain ⟨cells',r1,r2,r3,cf,r4⟩:=run_fill_row N ps vs (q' + 1) (splice cells (q' * szOf P e) v.cells.toList) (by simpa using hk) (by omega) (by rw [hss,hs]) (by omega)
   (fun i p r hp hr'=>hr (i + 1) p r (by simpa using hp) (by simpa using hr')) (fun p hp=>hf p (by simp [hp]))
  have hmul : (q' + 1) * szOf P e = q' * szOf P e + szOf P e:=Nat.succ_mul _ _
  refine ⟨cells',?_,by rw [r2,hss],fun p hp=>?_,fun i=>if i = q' then v.cells.toList else cf i,fun i y hy=>?_⟩
  ·rw [← r1]
   have hfold:=fold_splice_array v.cells (q' * szOf P e) cells hroom
   simp only [Instr.fill,hsz,ne_eq,not_true_eq_false,decide_false,Bool.false_or]
   rw [if_neg (by simp; omega)]
   congr 1
  ·rw [r3 p (by omega),splice_get (by simpa using hroom),if_neg (by omega)]
  ·cases i with
   | zero =>
    simp only [List.map_cons,List.getElem?_cons_zero,Option.some.injEq] at hy
    subst hy
    simp only [Nat.add_zero,if_true]
    refine ⟨hc,hfit,fun j u hj=>?_⟩
    have hjl : j < v.cells.size:=by
     have:=(List.getElem?_eq_some_iff.1 hj).1
     simpa using this
    rw [r3 _ (by omega),splice_get (by simpa using hroom),if_pos ⟨by omega,by simp; omega⟩,Nat.add_sub_cancel_left]
    exact hj
   | succ i =>
    simp only [List.map_cons,List.getElem?_cons_succ] at hy
    have:=r4 i y hy
    rw [show q' + 1 + i = q' + (i + 1) by omega] at this
    simp only [show ¬ q' + (i + 1) = q' by omega,if_false]
    exact this

def hasZero (P : Program) (t : TypeId) : Bool:=match (P.info? t).bind (·.zero) with | some z=>z.cells.size == szOf P t | none=>false

theorem hasZero_inv {t : TypeId} (h : hasZero P t = true) : ∃ inf z,P.info? t = some inf ∧ inf.zero = some z ∧ z.cells.size = szOf P t:=by
 unfold hasZero at h
 split at h
 ·rename_i z hz
  obtain ⟨inf,hinf,hiz⟩:=Option.bind_eq_some_iff.1 hz
  exact ⟨inf,z,hinf,hiz,by simpa using h⟩
 ·cases h

theorem ok_buildSlice {t e : TypeId} {m : Nat} {ps : Array (Nat × Operand)} {qs : List (Nat × AV)} (ho : o.op = .buildSlice t m ps) (ht : elT P t = some e) (he : 0 < szOf P e) (hz : hasZero P e = true) (hm : m * szOf P e ≤ 2 ^ 24)
  (hq : IsParts P W0 o A ps.toList qs) (hk : qs.map (·.1) = List.range' 0 m) (hf : ∀ p ∈ qs,fits P e p.2) : ValOk P W0 o A (.lit e (qs.map (·.2))) :=
 fun w C a hr=>by
  obtain ⟨inf,z,hinf,hiz,_⟩:=hasZero_inv hz
  have hsz : inf.size = szOf P e:=by simp [szOf,hinf]
  have hlen : qs.length = m:=by have:=congrArg List.length hk; simpa using this
  have hzv : (zeroValue e).run P w = .ok z w:=by simp [zeroValue,typeInfo,hinf,hiz]
  have hsv : (sizeOf e).run P w = .ok (szOf P e) w:=by simp [sizeOf,typeInfo,hinf,hsz]
  have hbig : ¬ m * szOf P e > 2 ^ 24:=by omega
  have hrun : ∀ arr : Array Value,arr.size = m * szOf P e → ∃ cells',Instr.fill (fun i=>some (i * szOf P e,szOf P e)) arr (ps.toList.map fun q=>(q.1,a.eval q.2)) = some cells' ∧ cells'.size = arr.size ∧ (∀ p,p < 0 * szOf P e → cells'[p]? = arr[p]?) ∧ RowIs P w C e 0 (qs.map (·.2)) cells' :=
   fun arr harr=>run_fill_row m qs (ps.toList.map fun q=>(q.1,a.eval q.2)) 0 arr (by rw [hk,hlen]) (by simpa using hq.1) harr (by omega) (hq.rel hr) hf
  have e1 : (Array.map (fun x=>(x.1,a.eval x.2)) ps).toList = ps.toList.map fun q=>(q.1,a.eval q.2):=by simp
  obtain ⟨zc,hzc⟩ : ∃ zc : Array Value,zc = if m * szOf P e = 0 then #[] else z.cells:=⟨_,rfl⟩
  obtain ⟨cells',f1,f2,_,cf,f4⟩:=hrun ((Array.range (m * szOf P e)).map (zc[· % zc.size]!)) (by simp)
  have hl : (qs.map (·.2)).length = m:=by simpa using hlen
  have hmax : m ≤ maxLen:=by
   have : m * 1 ≤ m * szOf P e:=Nat.mul_le_mul_left _ he
   unfold maxLen; omega
  have hrel:=row_new_rel (P:=P) (e:=e) (xs:=qs.map (·.2)) (cf:=cf) (arr:=cells') hr.st (by rw [hl]; exact hmax) (fun i x hx=>by
   have:=f4 i x hx
   rwa [Nat.zero_add] at this)
  rw [hl] at hrel
  refine ⟨_,_,?_,hrel,Step.alloc _ _ _,hr.st.alloc _⟩
  simp only [execOp,ho,Instr.buildSlice,Sem.run_bind,Result.andThen_ok,run_underlying (elT_inv ht),hsv,hbig,if_false,Sem.run_pure]
  by_cases h0 : m * szOf P e = 0
  ·rw [if_pos h0] at hzc ⊢
   subst hzc
   simp only [Sem.run_bind,Sem.run_pure,Result.andThen_ok]
   rw [e1,f1]
   simp only [newRow,newObj,Sem.run_bind,Sem.run_pure]
   rfl
  ·rw [if_neg h0] at hzc ⊢
   subst hzc
   simp only [Sem.run_bind,Sem.run_pure,Result.andThen_ok,hzv]
   rw [e1,f1]
   simp only [newRow,newObj,Sem.run_bind,Sem.run_pure]
   rfl

theorem ok_box {t : TypeId} {x : Operand} {v : AV} (ho : o.op = .box t x) (hx : Is P W0 o A x v) (hf : fits P t v) : ValOk P W0 o A (.loc t v):=fun w C a hr=>by
 have hc:=(hx w C a hr).cells hf
 have hcl : (a.eval x).cells.toList.length = szOf P t:=hc.length_fits hf
 refine ⟨.pointer (some ⟨w.heap.size,0,none⟩),w.alloc (.cells (a.eval x).cells t),?_,.one rfl (.loc (hc.mono (Step.alloc w C _)) hf hcl (fun j c hj=>⟨?_,Stable.free (by simp) hr.st.fresh⟩)),Step.alloc _ _ _,hr.st.alloc _⟩
 ·simp only [execOp,ho,Instr.box,newVar,newRow,newObj,Sem.run_bind,Sem.run_pure]
  rfl
 ·rw [World.cell?_alloc_new,Nat.zero_add]
  simpa using hj

end
end Go.Av
end
section
namespace Go.Av
open Go

def AV.at : AV → List Nat → Option AV
 | v,[]=>some v
 | .agg _ fs,k :: r=>(fs[k]?).bind (·.at r)
 | _,_ :: _=>none

def look (σ : Store) (id i : Nat) (path : List Nat) : Option AV :=
 match σ[id]? with
 | some (some (.cells _ xs))=>(xs[i]?).bind (·.at path)
 | _=>none

section
variable {P : Program} {W0 w w' : World} {C C' : Ctx} {σ σ' : Store} {n : Nat} {A : AState} {a : Act} {o : Oper}

theorem at_rel : ∀ (path : List Nat) (te t : TypeId) (off : Nat) (x v : AV) (cs : List Value),Rel P w C x cs → fits P te x → place P te path = some (t,off) → x.at path = some v →
  ∃ c,Rel P w C v c ∧ fits P t v ∧ c.length = szOf P t ∧ ∀ (j : Nat) (u : Value),c[j]? = some u → cs[off + j]? = some u
 | [],te,t,off,x,v,cs,hr,hf,hp,hx=>by
  simp only [place,Option.some.injEq,Prod.mk.injEq] at hp
  obtain ⟨rfl,rfl⟩:=hp
  have hv : x = v:=by cases x <;> simpa [AV.at] using hx
  subst hv
  exact ⟨cs,hr,hf,hr.length_fits hf,fun j u hj=>by rwa [Nat.zero_add]⟩
 | k :: r,te,t,off,x,v,cs,hr,hf,hp,hx=>by
  cases x with
  | agg t' fs =>
   simp only [AV.at] at hx
   obtain ⟨y,hy,hyv⟩:=Option.bind_eq_some_iff.1 hx
   obtain ⟨rfl,_⟩:=hf
   simp only [place] at hp
   obtain ⟨ts,hts,hp⟩:=Option.bind_eq_some_iff.1 hp
   obtain ⟨ty,hty,hp'⟩:=Option.bind_eq_some_iff.1 hp
   simp only [Option.map_eq_some_iff,Prod.mk.injEq,Prod.exists] at hp'
   obtain ⟨t1,o1,hpl,rfl,rfl⟩:=hp'
   obtain ⟨c1,r1,r2,r3,r4⟩:=hr.part hts hy hty
   obtain ⟨c,g1,g2,g3,g4⟩:=at_rel r ty t1 o1 y v c1 r1 r3 hpl hyv
   refine ⟨c,g1,g2,g3,fun j u hj=>?_⟩
   rw [Nat.add_assoc]
   exact r4 _ _ (g4 j u hj)
  | _=>simp [AV.at] at hx

theorem StRel.cells (h : StRel P W0 w C σ) {id : Nat} {te : TypeId} {xs : List AV} (hs : σ[id]? = some (some (.cells te xs))) :
  ∃ b base room arr t' fr,C.m id = some (.obj b te base room) ∧ w.heap[b]? = some (.cells arr t' fr) ∧ FrOk fr arr.size ∧ arr.size = room ∧ base + xs.length * szOf P te ≤ room ∧
   ∃ cf : Nat → List Value,∀ (i : Nat) (x : AV),xs[i]? = some x → Rel P w C x (cf i) ∧ (cf i).length = szOf P te ∧ fits P te x ∧ ∀ (j : Nat) (c : Value),(cf i)[j]? = some c → arr[base + i * szOf P te + j]? = some c:=by
 have ho:=h.obj id
 rw [hs] at ho
 simp only [Option.join_some] at ho
 cases hm : C.m id with
 | none=>rw [hm] at ho; exact ho.elim
 | some ow =>
  rw [hm] at ho
  cases ow with
  | obj b te' base room =>
   obtain ⟨rfl,arr,t',fr,h1,hf,h2,h3,h4⟩:=ho
   exact ⟨b,base,room,arr,t',fr,rfl,h1,hf,h2,h3,h4⟩
  | tok=>exact ho.elim
  | iter=>exact ho.elim
  | mp=>exact ho.elim

theorem RelV.ptr_inv {t : TypeId} {id i : Nat} {path : List Nat} {v : Value} (h : RelV P w C (.ptr t id i path) v) :
  ∃ a,v = .pointer (some a) ∧ id < C.nx ∧ ∀ ow,C.m id = some ow → ∃ b te base room off,ow = .obj b te base room ∧ place P te path = some (t,off) ∧ a = ⟨b,base + i * szOf P te + off,none⟩:=by
 have:=h.one_inv rfl
 cases this with
 | ptr h1 h2=>exact ⟨_,rfl,h1,h2⟩

theorem look_inv {id i : Nat} {path : List Nat} {v : AV} (h : look σ id i path = some v) : ∃ te xs x,σ[id]? = some (some (.cells te xs)) ∧ xs[i]? = some x ∧ x.at path = some v:=by
 unfold look at h
 split at h
 ·rename_i te xs hs
  obtain ⟨x,hx,hv⟩:=Option.bind_eq_some_iff.1 h
  exact ⟨te,xs,x,hs,hx,hv⟩
 ·cases h

theorem ok_load_ptr {t : TypeId} {id i : Nat} {path : List Nat} {v : AV} {x : Operand} (ho : o.op = .load t x) (hx : Is P W0 o A x (.ptr t id i path)) (hl : look A.st id i path = some v) : ValOk P W0 o A v :=
 .of_same fun w C a hr=>by
  obtain ⟨ad,hv,_,hm⟩:=(hx w C a hr).ptr_inv
  obtain ⟨te,xs,y,hs,hy,hyv⟩:=look_inv hl
  obtain ⟨b,base,room,arr,t',fr,m1,m2,mf,m3,m4,cf,m5⟩:=hr.st.cells hs
  obtain ⟨b',te',base',room',off,e1,e2,rfl⟩:=hm _ m1
  cases e1
  obtain ⟨r1,r2,r3,r4⟩:=m5 i y hy
  obtain ⟨c,g1,g2,g3,g4⟩:=at_rel path te t off y v (cf i) r1 r3 e2 hyv
  have hcell : ∀ (j : Nat) (u : Value),c[j]? = some u → w.cell? ⟨b,base + i * szOf P te + off + j,none⟩ = some u:=fun j u hj=>by
   have:=r4 (off + j) u (g4 j u hj)
   rw [← Nat.add_assoc] at this
   simp [World.cell?,m2,this]
  obtain ⟨z,hz,hzr⟩:=run_loadVar_rel g1 g2 hcell
  exact ⟨z,by simp [execOp,ho,Instr.loadAt,Instr.sureAddr,hv,hz],hzr⟩

def isStruct (P : Program) (t : TypeId) : Bool:=match P.underlying t with | some (.struct _)=>true | _=>false

theorem isStruct_any {s : TypeId} (h : isStruct P s = true) : (P.underlying s).any (fun d=>match d with | .struct _=>true | _=>false) = true:=by
 unfold isStruct at h
 split at h
 ·rename_i hu; simp [hu]
 ·cases h

theorem place_snoc : ∀ (path : List Nat) (te t : TypeId) (off : Nat) (k : Nat) (ts : List TypeId) (ty : TypeId),place P te path = some (t,off) → flds P t = some ts → ts[k]? = some ty → place P te (path ++ [k]) = some (ty,off + offAt P ts k)
 | [],te,t,off,k,ts,ty,h,ht,hk=>by
  simp only [place,Option.some.injEq,Prod.mk.injEq] at h
  obtain ⟨rfl,rfl⟩:=h
  simp [place,ht,hk]
 | q :: r,te,t,off,k,ts,ty,h,ht,hk=>by
  simp only [place] at h
  obtain ⟨ts',hts,hp⟩:=Option.bind_eq_some_iff.1 h
  obtain ⟨ty',hty,hp'⟩:=Option.bind_eq_some_iff.1 hp
  simp only [Option.map_eq_some_iff,Prod.mk.injEq,Prod.exists] at hp'
  obtain ⟨t1,o1,hpl,rfl,rfl⟩:=hp'
  have:=place_snoc r ty' t1 o1 k ts ty hpl ht hk
  simp [place,hts,hty,this,Nat.add_assoc]

theorem ok_fieldAddr_ptr {s : TypeId} {ts : List TypeId} {x : Operand} {k id i : Nat} {path : List Nat} {ty : TypeId} (ho : o.op = .fieldAddr s x k) (hx : Is P W0 o A x (.ptr s id i path)) (hst : isStruct P s = true)
  (hts : flds P s = some ts) (hty : ts[k]? = some ty) : ValOk P W0 o A (.ptr ty id i (path ++ [k])) :=
 .of_same fun w C a hr=>by
  obtain ⟨ad,hv,hid,hm⟩:=(hx w C a hr).ptr_inv
  rcases flds_inv hts with ⟨fl,hu,e1,e2,e3⟩ | ⟨m,e,hu,_⟩
  case inr=>simp [isStruct,hu] at hst
  have hk : k < fl.size:=by
   have : k < ts.length:=(List.getElem?_eq_some_iff.1 hty).1
   rw [e1] at this; simpa using this
  have hfk : fl[k]? = some fl[k]:=Array.getElem?_eq_getElem hk
  obtain ⟨hoff,hpos⟩:=e2 k _ hfk
  obtain ⟨inf,hinf,hsz⟩:=szOf_info hpos
  have hfp : (fieldPlace ad fl[k]).run P w = .ok (ad.add (offAt P ts k)) w:=by
   simp [fieldPlace,sizeOf,typeInfo,hinf,hsz,Nat.ne_of_gt hpos,hoff]
  refine ⟨.pointer (some (ad.add (offAt P ts k))),?_,.one rfl (.ptr hid (fun ow how=>?_))⟩
  ·simp [execOp,ho,Instr.fieldAt,run_underlying hu,hfk,Instr.sureAddr,hv,hfp]
  ·obtain ⟨b,te,base,room,off,g1,g2,rfl⟩:=hm ow how
   exact ⟨b,te,base,room,off + offAt P ts k,g1,place_snoc path te s off k ts ty g2 hts hty,by rw [Addr.add_lit]; simp⟩

theorem ok_indexAddr_row {t e : TypeId} {x ix : Operand} {k : IntKind} {i : Int} {id off m : Nat} (ho : o.op = .indexAddr t x ix) (hx : Is P W0 o A x (.row e id off m)) (hi : Is P W0 o A ix (.int k i))
  (ht : elT P t = some e) (he : 0 < szOf P e) (h0 : 0 ≤ i) (hm : i.toNat < m) (hlive : ∃ te xs,A.st[id]? = some (some (.cells te xs))) : ValOk P W0 o A (.ptr e id (off + i.toNat) []) :=
 .of_same fun w C a hr=>by
  have hxv:=(hx w C a hr).one_inv rfl
  have hiv:=(hi w C a hr).int_inv
  obtain ⟨te,xs,hs⟩:=hlive
  obtain ⟨b,base,room,arr,t',fr,m1,_⟩:=hr.st.cells hs
  generalize hval : a.eval x = v at hxv
  cases hxv with
  | row h1 h2 h3 h4 =>
   obtain ⟨b',base',room',g1,g2,g3⟩:=h4 _ m1
   cases g1
   have ha:=g2 (by omega)
   subst ha
   obtain ⟨inf,hinf,hsz⟩:=szOf_info he
   have hlt' : i < (m : Int):=by omega
   refine ⟨.pointer (some ⟨b,base + off * szOf P e + i.toNat * szOf P e,none⟩),?_,.one rfl (.ptr h3 (fun ow how=>?_))⟩
   ·simp [execOp,ho,Instr.indexAt,hval,hiv,asIntOf,run_underlying (elT_inv ht),h0,hlt',sizeOf,typeInfo,hinf,hsz,Addr.add_lit]
   ·rw [m1] at how
    cases how
    exact ⟨b,e,base,room,0,rfl,rfl,by simp [Nat.add_mul,Nat.add_assoc]⟩

end
end Go.Av
end
section
namespace Go.Av
open Go

def arrT (P : Program) (t : TypeId) : Option TypeId:=match P.underlying t with | some (.array _ e)=>some e | _=>none

section
variable {P : Program} {W0 w w' : World} {C C' : Ctx} {σ σ' : Store} {n : Nat} {A : AState} {a : Act} {o : Oper}

theorem arrT_inv {t e : TypeId} (h : arrT P t = some e) {ts : List TypeId} (hts : flds P t = some ts) : ∃ m,P.underlying t = some (.array m e) ∧ ts = List.replicate m e ∧ 0 < szOf P e:=by
 unfold arrT at h
 split at h
 ·rename_i m e' hu
  cases h
  have hpos:=flds_pos hts
  rcases flds_inv hts with ⟨fl,hu',_⟩ | ⟨m',e',hu',h1,h2⟩
  ·rw [hu] at hu'; cases hu'
  ·rw [hu] at hu'
   cases hu'
   refine ⟨m,hu,h1,?_⟩
   rcases Nat.eq_zero_or_pos (szOf P e) with h0 | h0
   ·rw [h2,h0] at hpos; simp at hpos
   ·exact h0
 ·cases h

theorem run_part_rel {t : TypeId} {v : AV} {cs : List Value} {arr : Array Value} {off : Nat} (hr : Rel P w C v cs) (hf : fits P t v) (hc : ∀ (j : Nat) (c : Value),cs[j]? = some c → arr[off + j]? = some c) :
  ∃ x,(part t arr off).run P w = .ok x w ∧ RelV P w C v x:=by
 have hlen:=hr.length_fits hf
 cases hv : v.isOne with
 | true =>
  obtain ⟨x,rfl⟩:=hr.one_cell hv
  have hp : prim P t = true:=by
   cases v <;> simp_all [fits,AV.isOne]
  refine ⟨x,?_,.one hv hr⟩
  have h0:=hc 0 x (by simp)
  simp only [Nat.add_zero] at h0
  simp [part,(isAgg_of_prim hp w).1,h0]
 | false =>
  cases v <;> simp only [AV.isOne,Bool.true_eq_false] at hv <;> simp only [fits,AV.isOne,Bool.false_eq_true,false_and] at hf
  rename_i t' fs
  obtain ⟨rfl,hf⟩:=hf
  obtain ⟨ts,hts⟩:=Option.isSome_iff_exists.1 hf
  obtain ⟨i,hi,hsz⟩:=szOf_info (flds_pos hts)
  refine ⟨.agg (arr.extract off (off + i.size)),by simp [part,isAgg_of_flds hts w,sizeOf,typeInfo,hi],?_⟩
  have : arr.extract off (off + i.size) = cs.toArray:=by
   refine Array.ext_getElem? fun j=>?_
   rw [hsz]
   by_cases hj : j < cs.length
   ·have h1:=List.getElem?_eq_getElem hj
    have h2:=hc j _ h1
    have h3:=(Array.getElem?_eq_some_iff.1 h2).1
    rw [Array.getElem?_extract,if_pos (by omega),h2]
    simp [h1]
   ·rw [Array.getElem?_extract]
    have : ¬ j < min (off + szOf P t') arr.size - off:=by omega
    rw [if_neg this]
    simp
    omega
  rw [this]
  exact .agg hr

theorem ok_index_arr {t e : TypeId} {ts : List TypeId} {fs : List AV} {x ix : Operand} {k : IntKind} {i : Int} {y : AV} (ho : o.op = .index t x ix) (hx : Is P W0 o A x (.agg t fs)) (hi : Is P W0 o A ix (.int k i))
  (ha : arrT P t = some e) (hts : flds P t = some ts) (h0 : 0 ≤ i) (hy : fs[i.toNat]? = some y) : ValOk P W0 o A y :=
 .of_same fun w C a hr=>by
  obtain ⟨cs,hv,hrel⟩:=(hx w C a hr).agg_inv
  have hiv:=(hi w C a hr).int_inv
  obtain ⟨m,hu,rfl,hpos⟩:=arrT_inv ha hts
  have hlt : i.toNat < m:=by
   have:=(List.getElem?_eq_some_iff.1 hy).1
   rw [hrel.agg_length hts] at this
   simpa using this
  obtain ⟨c,r1,r2,r3,r4⟩:=hrel.part hts hy (ty:=e) (by simp [hlt])
  obtain ⟨inf,hinf,hsz⟩:=szOf_info hpos
  obtain ⟨z,hz,hzr⟩:=run_part_rel (arr:=cs.toArray) (off:=i.toNat * szOf P e) r1 r3 (fun j u hj=>by
   have:=r4 j u hj
   rw [offAt_replicate _ _ _ (by omega)] at this
   simpa using this)
  refine ⟨z,?_,hzr⟩
  have hlt' : i < (m : Int):=by omega
  simp [execOp,ho,Instr.index,hv,hiv,asIntOf,run_underlying hu,h0,hlt',sizeOf,typeInfo,hinf,hsz,hz]

theorem ok_indexAddr_arrP {t e : TypeId} {ts : List TypeId} {x ix : Operand} {k : IntKind} {i : Int} {id j : Nat} {path : List Nat} (ho : o.op = .indexAddr t x ix) (hx : Is P W0 o A x (.ptr t id j path)) (hi : Is P W0 o A ix (.int k i))
  (ha : arrT P t = some e) (hts : flds P t = some ts) (h0 : 0 ≤ i) (hlt : i.toNat < ts.length) : ValOk P W0 o A (.ptr e id j (path ++ [i.toNat])) :=
 .of_same fun w C a hr=>by
  obtain ⟨ad,hv,hid,hm⟩:=(hx w C a hr).ptr_inv
  have hiv:=(hi w C a hr).int_inv
  obtain ⟨m,hu,rfl,hpos⟩:=arrT_inv ha hts
  simp only [List.length_replicate] at hlt
  obtain ⟨inf,hinf,hsz⟩:=szOf_info hpos
  have hlt' : i < (m : Int):=by omega
  refine ⟨.pointer (some (ad.add (i.toNat * szOf P e))),?_,.one rfl (.ptr hid (fun ow how=>?_))⟩
  ·simp [execOp,ho,Instr.indexAt,hv,hiv,asIntOf,run_underlying hu,h0,hlt',sizeOf,typeInfo,hinf,hsz,Instr.sureAddr]
  ·obtain ⟨b,te,base,room,off,g1,g2,rfl⟩:=hm ow how
   refine ⟨b,te,base,room,off + offAt P (List.replicate m e) i.toNat,g1,place_snoc path te t off i.toNat _ e g2 hts (by simp [hlt]),?_⟩
   rw [offAt_replicate _ _ _ (by omega),Addr.add_lit]
   simp

theorem ok_indexAddr_arrL {t e : TypeId} {ts : List TypeId} {fs : List AV} {x ix : Operand} {k : IntKind} {i : Int} {y : AV} (ho : o.op = .indexAddr t x ix) (hx : Is P W0 o A x (.loc t (.agg t fs))) (hi : Is P W0 o A ix (.int k i))
  (ha : arrT P t = some e) (hts : flds P t = some ts) (h0 : 0 ≤ i) (hy : fs[i.toNat]? = some y) : ValOk P W0 o A (.loc e y) :=
 .of_same fun w C a hr=>by
  obtain ⟨b,off,cs,hv,h1,h2,h3,h4⟩:=(hx w C a hr).loc_inv
  have hiv:=(hi w C a hr).int_inv
  obtain ⟨m,hu,rfl,hpos⟩:=arrT_inv ha hts
  have hlt : i.toNat < m:=by
   have:=(List.getElem?_eq_some_iff.1 hy).1
   rw [h1.agg_length hts] at this
   simpa using this
  obtain ⟨c,r1,r2,r3,r4⟩:=h1.part hts hy (ty:=e) (by simp [hlt])
  obtain ⟨inf,hinf,hsz⟩:=szOf_info hpos
  have hlt' : i < (m : Int):=by omega
  refine ⟨.pointer (some ⟨b,off + i.toNat * szOf P e,none⟩),?_,.one rfl (.loc r1 r3 r2 (fun j u hj=>?_))⟩
  ·simp [execOp,ho,Instr.indexAt,hv,hiv,asIntOf,run_underlying hu,h0,hlt',sizeOf,typeInfo,hinf,hsz,Instr.sureAddr,Addr.add_lit]
  ·have:=h4 (offAt P (List.replicate m e) i.toNat + j) u (r4 j u hj)
   rwa [offAt_replicate _ _ _ (by omega),← Nat.add_assoc] at this

end
end Go.Av
end
section
namespace Go.Av
open Go

section
variable {P : Program} {W0 w w' : World} {C C' : Ctx} {σ σ' : Store} {n : Nat} {A : AState} {a : Act} {o : Oper}

theorem rig1_one {x : AV} {v : Value} (h : rig1 x = some v) : x.isOne = true:=by
 cases x <;> first | rfl | cases h
theorem rig1_rel {x : AV} {v u : Value} (h : rig1 x = some v) (hr : Rel P w C x [u]) : u = v:=by
 cases x <;> simp only [rig1,reduceCtorEq,Option.some.injEq] at h
 ·subst h; cases hr; rfl
 ·subst h; cases hr; rfl
 ·cases hr with
  | str hl=>rw [if_pos hl] at h; exact Option.some.inj h
theorem rig1_out {x : AV} {v : Value} (h : rig1 x = some v) : RelV P w C x v:=by
 cases x <;> first | cases h | skip
 ·exact .one rfl (.int _ _)
 ·exact .one rfl (.bool _)
 ·simp only [rig1] at h
  split at h
  ·cases h; exact .one rfl (.str (by assumption))
  ·cases h
theorem rigL_get : ∀ {xs : List AV} {vs : List Value},rigL xs = some vs → xs.length = vs.length ∧ ∀ (i : Nat) (x : AV),xs[i]? = some x → ∃ v,rig1 x = some v ∧ vs[i]? = some v
 | [],vs,h=>by cases h; exact ⟨rfl,by simp⟩
 | x :: r,vs,h=>by
  simp only [rigL] at h
  cases h1 : rig1 x with
  | none=>rw [h1] at h; cases h
  | some v =>
   rw [h1,Option.bind_some] at h
   cases h2 : rigL r with
   | none=>rw [h2] at h; cases h
   | some us =>
    rw [h2] at h
    cases h
    obtain ⟨g1,g2⟩:=rigL_get h2
    refine ⟨by simp [g1],fun i y hy=>?_⟩
    cases i with
    | zero=>simp at hy; subst hy; exact ⟨v,h1,rfl⟩
    | succ i=>simpa using g2 i y (by simpa using hy)
theorem sum_ones : ∀ {l : List Nat},(∀ x ∈ l,x = 1) → l.sum = l.length
 | [],_=>rfl
 | x :: l,h=>by
  have:=sum_ones (l:=l) fun y hy=>h y (by simp [hy])
  have h1:=h x (by simp)
  simp only [List.sum_cons,List.length_cons]
  omega
theorem rig_rel {x : AV} {v u : Value} (h : rig P x = some v) (hr : RelV P w C x u) : u = v:=by
 have plain : rig1 x = some v → u = v:=fun h=>rig1_rel h (hr.one_inv (rig1_one h))
 cases x
 case agg t fs =>
  obtain ⟨cs,rfl,hrel⟩:=hr.agg_inv
  simp only [rig] at h
  split at h
  ·rename_i ts hts
   split at h
   ·rename_i hall
    cases hL : rigL fs with
    | none=>rw [hL] at h; cases h
    | some vs =>
     rw [hL] at h
     simp only [Option.map_some,Option.some.injEq] at h
     subst h
     obtain ⟨g1,g2⟩:=rigL_get hL
     cases hrel with
     | agg cf h1 h2 h3 h4 h5 h6 =>
      rename_i ts'
      rw [hts] at h1
      cases h1
      have ones : ∀ ty ∈ ts,szOf P ty = 1:=fun ty hty=>by simpa using List.all_eq_true.1 hall ty hty
      have off : ∀ i,i ≤ ts.length → offAt P ts i = i:=fun i hi=>by
       unfold offAt
       rw [sum_ones (fun x hx=>by
        obtain ⟨ty,hty,rfl⟩:=List.mem_map.1 hx
        exact ones ty (List.mem_of_mem_take hty))]
       simp; omega
      have hlen : cs.length = vs.length:=by rw [h3,offAt_total hts,off _ (Nat.le_refl _),← h2,g1]
      congr 1
      congr 1
      refine List.ext_getElem? fun i=>?_
      by_cases hi : i < fs.length
      ·have hx:=List.getElem?_eq_getElem hi
       obtain ⟨v,hv1,hv2⟩:=g2 i _ hx
       have hty:=List.getElem?_eq_getElem (l:=ts) (show i < ts.length by omega)
       obtain ⟨k1,k2,k3⟩:=h6 i _ _ hx hty
       obtain ⟨z,hz⟩:=(h5 i _ hx).one_cell (rig1_one hv1)
       have hrz:=h5 i _ hx
       rw [hz] at hrz
       have:=rig1_rel hv1 hrz
       subst this
       have h7:=k3 0 z (by rw [hz]; rfl)
       rw [off i (by omega),Nat.add_zero] at h7
       rw [h7,hv2]
      ·rw [List.getElem?_eq_none (by omega),List.getElem?_eq_none (by omega)]
   ·cases h
  ·cases h
 all_goals exact plain h

def mapT (P : Program) (t : TypeId) : Option (TypeId × TypeId):=match P.underlying t with | some (.map k e)=>some (k,e) | _=>none
theorem mapT_inv {t kt vt : TypeId} (h : mapT P t = some (kt,vt)) : P.underlying t = some (.map kt vt):=by
 unfold mapT at h
 split at h
 ·cases h; assumption
 ·cases h
def keyC (P : Program) (kt : TypeId) (v : AV) : Prop:=∃ x q,rig P v = some x ∧ keyOf P kt x = some q
def mpAt (σ : Store) (kt : TypeId) : AV → Option (List (AV × AV))
 | .mp id=>(match σ[id]? with | some (some (.mp kt' l))=>if kt' = kt then some l else none | _=>none)
 | _=>none
def zero1 (P : Program) (t : TypeId) : AV:=match (P.info? t).bind (·.zero) with | some z=>constAV z | none=>.undef
open Classical in
noncomputable def mget (P : Program) (l : List (AV × AV)) (k z : AV) : AV:=if h : ∃ p ∈ l,rig P p.1 = rig P k then (Classical.choose h).2 else z
open Classical in
noncomputable def mset (P : Program) (l : List (AV × AV)) (k v : AV) : List (AV × AV):=l.filter (fun p=>decide (rig P p.1 ≠ rig P k)) ++ [(k,v)]

theorem mpAt_inv {kt : TypeId} {u : AV} {l : List (AV × AV)} (h : mpAt σ kt u = some l) : ∃ id,u = .mp id ∧ σ[id]? = some (some (.mp kt l)):=by
 cases u <;> first | cases h | skip
 rename_i id
 simp only [mpAt] at h
 split at h
 ·rename_i kt' l' hs
  split at h
  ·rename_i he
   subst he
   cases h
   exact ⟨id,rfl,hs⟩
  ·cases h
 ·cases h
theorem StRel.mp (h : StRel P W0 w C σ) {id : Nat} {kt : TypeId} {l : List (AV × AV)} (hs : σ[id]? = some (some (.mp kt l))) : ∃ b,C.m id = some (.mp b) ∧ MapRel P w kt l b:=by
 have ho:=h.obj id
 rw [hs] at ho
 simp only [Option.join_some] at ho
 cases hm : C.m id with
 | none=>rw [hm] at ho; exact ho.elim
 | some ow =>
  rw [hm] at ho
  cases ow with
  | mp b=>exact ⟨b,rfl,ho⟩
  | _=>exact ho.elim
theorem mp_inv {id : Nat} {v : Value} (h : RelV P w C (.mp id) v) : ∃ r,v = .map (some r) ∧ ∀ ow,C.m id = some ow → ow = .mp r:=by
 have:=h.one_inv rfl
 cases this with
 | mp h1 h2=>exact ⟨_,rfl,h2⟩
theorem pair_uniq {es : List MapEntry} (h : es.Pairwise fun e f=>e.key ≠ f.key) : ∀ {e f : MapEntry},e ∈ es → f ∈ es → e.key = f.key → e = f:=by
 induction es with
 | nil=>intro e f he; cases he
 | cons x r ih =>
  rw [List.pairwise_cons] at h
  intro e f he hf hk
  rcases List.mem_cons.1 he with he' | he'
  ·rcases List.mem_cons.1 hf with hf' | hf'
   ·rw [he',hf']
   ·rw [he'] at hk; exact absurd hk (h.1 f hf')
  ·rcases List.mem_cons.1 hf with hf' | hf'
   ·rw [hf'] at hk; exact absurd hk.symm (h.1 e he')
   ·exact ih h.2 he' hf' hk

theorem ok_lookup {t kt vt : TypeId} {x ix : Operand} {u k : AV} {l : List (AV × AV)} (ho : o.op = .lookup t x ix false) (hx : Is P W0 o A x u) (hi : Is P W0 o A ix k) (ht : mapT P t = some (kt,vt)) (hz : hasZero P vt = true)
  (K : Maps.Keyed P kt) (hk : keyC P kt k) (hl : mpAt A.st kt u = some l) : ValOk P W0 o A (mget P l k (zero1 P vt)):=fun w C a hr=>by
 obtain ⟨id,rfl,hs⟩:=mpAt_inv hl
 obtain ⟨r,hv,hm⟩:=mp_inv (hx w C a hr)
 obtain ⟨b,hc,es,clock,hb,hd,he1,he2⟩:=hr.st.mp hs
 cases hm _ hc
 obtain ⟨y,q,hy,hq⟩:=hk
 have hkey:=rig_rel hy (hi w C a hr)
 obtain ⟨inf,z,hinf,hiz,_⟩:=hasZero_inv hz
 have hzv : (zeroValue vt).run P w = .ok z w:=by simp [zeroValue,typeInfo,hinf,hiz]
 have hz1 : zero1 P vt = constAV z:=by simp [zero1,hinf,hiz]
 have hu:=mapT_inv ht
 rcases K.find w hq es.toList (fun e he=>(he1 e he).1) with ⟨h1,h2⟩ | ⟨j,e,h1,h2,h3⟩
 ·refine ⟨z,w,?_,?_,.refl _ _,hr.st⟩
  ·simp [execOp,ho,hv,hkey,Instr.lookup,run_underlying hu,MapKept.run_getObj_map hb,K.check w _ hq,h1,hzv,Result.andThen]
  ·have : ¬ ∃ p ∈ l,rig P p.1 = rig P k:=fun ⟨p,hp,hpk⟩=>by
    obtain ⟨e,he,g1,_⟩:=he2 p hp
    rw [hpk,hy] at g1
    exact h2 e he (Option.some.inj g1).symm
   rw [mget,dif_neg this,hz1]
   exact constAV_rel z
 ·refine ⟨e.val,w,?_,?_,.refl _ _,hr.st⟩
  ·simp [execOp,ho,hv,hkey,Instr.lookup,run_underlying hu,MapKept.run_getObj_map hb,K.check w _ hq,h1,Result.andThen]
  ·have hem : e ∈ es.toList:=List.mem_of_getElem? h2
   obtain ⟨_,p,hp,g1,g2⟩:=he1 e hem
   have hex : ∃ p ∈ l,rig P p.1 = rig P k:=⟨p,hp,by rw [g1,h3,hy]⟩
   rw [mget,dif_pos hex]
   obtain ⟨hc1,hc2⟩:=Classical.choose_spec hex
   obtain ⟨f,hf,k1,k2⟩:=he2 _ hc1
   rw [hc2,hy] at k1
   have : f = e:=pair_uniq hd hf hem (by rw [h3]; exact (Option.some.inj k1).symm)
   subst this
   exact rig1_out k2
end

def concT (P : Program) (t : TypeId) : Bool:=match P.underlying t with
 | some (.interface _)=>false
 | some _=>true
 | none=>false
def hasZ (P : Program) (t : TypeId) : Bool:=((P.info? t).bind (·.zero)).isSome
def assertV (P : Program) (d : TypeId) (ok : Bool) : AV → AV
 | .iface t v=>if t = d then (if ok = true then .tup [v,.bool true] else v) else .tup [zero1 P d,.bool false]
 | .niface=>.tup [zero1 P d,.bool false]
 | _=>.undef
def assertC (P : Program) (d : TypeId) (ok : Bool) : AV → Prop
 | .iface t _=>concT P d = true ∧ (t = d ∨ (ok = true ∧ hasZ P d = true))
 | .niface=>concT P d = true ∧ ok = true ∧ hasZ P d = true
 | _=>False
theorem concT_inv {P : Program} {t : TypeId} (h : concT P t = true) : ∃ U,P.underlying t = some U ∧ ∀ m,U ≠ .interface m:=by
 unfold concT at h
 split at h
 ·cases h
 ·rename_i U hn hU
  exact ⟨U,hU,fun m e=>hn m (by rw [← e])⟩
 ·cases h
section
variable {P : Program} {W0 w w' : World} {C C' : Ctx} {σ σ' : Store} {n : Nat} {A : AState} {a : Act} {o : Oper}
theorem ok_makeInterface {t : TypeId} {x : Operand} {u : AV} (ho : o.op = .makeInterface t x) (hx : Is P W0 o A x u) (h1 : concT P t = true) (h2 : u.isOne = true) : ValOk P W0 o A (.iface t u) :=
 .of_same fun w C a hr=>by
  have h:=(hx w C a hr).one_inv h2
  obtain ⟨U,hU,hn⟩:=concT_inv h1
  refine ⟨.iface t (a.eval x),?_,.one rfl (.iface h2 h)⟩
  have : (Instr.makeInterface t (a.eval x)).run P w = .ok (.iface t (a.eval x)) w:=by
   simp only [Instr.makeInterface,Sem.run_bind,run_underlying hU,Result.andThen_ok]
   cases U <;> first | rfl | exact absurd rfl (hn _)
  simp [execOp,ho,this]
theorem ok_typeAssert {xt d : TypeId} {ok : Bool} {x : Operand} {u : AV} (ho : o.op = .typeAssert x xt d ok) (hx : Is P W0 o A x u) (h : assertC P d ok u) : ValOk P W0 o A (assertV P d ok u) :=
 .of_same fun w C a hr=>by
  have hv:=hx w C a hr
  have hpair : ∀ (v : AV) (x : Value) (b : Bool),RelV P w C v x → RelV P w C (.tup [v,.bool b]) (.tuple #[x,.bool b]):=fun v x b hr=>by
   refine .tup (vs:=[x,.bool b]) rfl fun i a v ha hv=>?_
   rcases i with _ | _ | i
   ·cases ha; cases hv; exact hr
   ·cases ha; cases hv; exact .one rfl (.bool _)
   ·simp at ha
  have hzero : hasZ P d = true → ∃ z,(zeroValue d).run P w = .ok z w ∧ RelV P w C (zero1 P d) z:=fun hz=>by
   unfold hasZ at hz
   obtain ⟨z,hz⟩:=Option.isSome_iff_exists.1 hz
   obtain ⟨i,hi,hiz⟩:=Option.bind_eq_some_iff.1 hz
   refine ⟨z,by simp [zeroValue,typeInfo,hi,hiz],?_⟩
   unfold zero1
   rw [hz]
   exact constAV_rel z
  cases u <;> first | exact h.elim | skip
  ·obtain ⟨h1,h2,h3⟩:=h
   obtain ⟨U,hU,hn⟩:=concT_inv h1
   obtain ⟨z,hz1,hz2⟩:=hzero h3
   have hx':=hv.one_inv rfl
   generalize hev : a.eval x = xv at hx'
   cases hx'
   refine ⟨.tuple #[z,.bool false],?_,hpair _ _ _ hz2⟩
   have : (Instr.typeAssert .nilIface xt d ok).run P w = .ok (.tuple #[z,.bool false]) w:=by
    subst h2
    simp only [Instr.typeAssert,Sem.run_bind,run_underlying hU,Result.andThen_ok]
    cases U <;> first | exact absurd rfl (hn _) | simp [hz1]
   simp [execOp,ho,hev,this]
  ·rename_i t v
   obtain ⟨h1,h2⟩:=h
   obtain ⟨U,hU,hn⟩:=concT_inv h1
   have hx':=hv.one_inv rfl
   generalize hev : a.eval x = xv at hx'
   cases hx' with
   | iface h3 h4 =>
    rename_i y
    by_cases htd : t = d
    ·subst htd
     refine ⟨if ok = true then .tuple #[y,.bool true] else y,?_,?_⟩
     ·have : (Instr.typeAssert (.iface t y) xt t ok).run P w = .ok (if ok = true then .tuple #[y,.bool true] else y) w:=by
       simp only [Instr.typeAssert,Sem.run_bind,run_underlying hU,Result.andThen_ok]
       cases U <;> first | exact absurd rfl (hn _) | simp
      simp [execOp,ho,hev,this]
     ·simp only [assertV,if_true]
      cases ok
      ·exact .one h3 h4
      ·exact hpair _ _ _ (.one h3 h4)
    ·obtain ⟨h5,h6⟩:=h2.resolve_left htd
     obtain ⟨z,hz1,hz2⟩:=hzero h6
     refine ⟨.tuple #[z,.bool false],?_,by simp only [assertV,if_neg htd]; exact hpair _ _ _ hz2⟩
     have : (Instr.typeAssert (.iface t y) xt d ok).run P w = .ok (.tuple #[z,.bool false]) w:=by
      subst h5
      simp only [Instr.typeAssert,Sem.run_bind,run_underlying hU,Result.andThen_ok]
      cases U <;> first | exact absurd rfl (hn _) | simp [htd,hz1]
     simp [execOp,ho,hev,this]
end
end Go.Av
end
section
namespace Go.Av
open Go

def Runs (P : Program) (f : FuncId) (vs : Array Value) (w : World) (R : Ending → World → Prop) : Prop :=
 ((∃ fn, P.funcs[f]? = some fn ∧ fn.body.isSome = true ∧ (fn.name == "runtime.NumGoroutine") = false) ∧ Calls P f vs w R) ∨
 ∃ v w',(callFunc f vs).run P w = .ok (.value v) w' ∧ R (.returned v) w'

theorem Runs.mono {P : Program} {f : FuncId} {vs : Array Value} {w : World} {R R' : Ending → World → Prop} (h : Runs P f vs w R) (hr : ∀ e w',R e w' → R' e w') : Runs P f vs w R':=by
 rcases h with ⟨h1,h2⟩ | ⟨v,w',h1,h2⟩
 ·exact .inl ⟨h1,h2.mono fun e w'=>hr e w'⟩
 ·exact .inr ⟨v,w',h1,hr _ _ h2⟩

def ACall (P : Program) (W0 : World) (f : FuncId) (args : List AV) (σ : Store) (Q : AV → Store → Prop) : Prop :=
 ∀ w C (vs : List Value),StRel P W0 w C σ → args.length = vs.length → (∀ (i : Nat) (a : AV) (v : Value),args[i]? = some a → vs[i]? = some v → RelV P w C a v) →
  Runs P f vs.toArray w fun e w'=>∃ v r σ' C',e = .returned v ∧ Q r σ' ∧ StRel P W0 w' C' σ' ∧ RelV P w' C' r v ∧ Step w C w' C'

def PureFn (P : Program) (W0 : World) (f : FuncId) (args : List AV) (r : AV) : Prop:=∀ σ,ACall P W0 f args σ fun r' σ'=>r' = r ∧ σ' = σ

def PureOk (P : Program) (W0 : World) (o : Oper) (A : AState) (v : AV) : Prop :=
 ∀ w C a,RelO P W0 o w C A a → ∀ (next : Act → World → Prop) (Q : Exit → Act → World → Prop),
  (∀ x w',RelV P w' C v x → Step w C w' C → StRel P W0 w' C A.st → next (a.put o.dst x) w') → o.wp P a w next Q

def imp (gd : Option Bool) (p : Prop) : Prop:=match gd with | none=>p | some g=>(g = true → p)

theorem imp.of {gd : Option Bool} {p : Prop} (h : p) : imp gd p:=by cases gd <;> first | exact h | exact fun _=>h
theorem imp.map {gd : Option Bool} {p q : Prop} (h : p → q) (hp : imp gd p) : imp gd q:=by cases gd <;> first | exact h hp | exact fun g=>h (hp g)
theorem imp.map2 {gd : Option Bool} {p q r : Prop} (h : p → q → r) (hp : imp gd p) (hq : imp gd q) : imp gd r:=by cases gd <;> first | exact h hp hq | exact fun g=>h (hp g) (hq g)
theorem imp.map3 {gd : Option Bool} {p q r s : Prop} (h : p → q → r → s) (hp : imp gd p) (hq : imp gd q) (hr : imp gd r) : imp gd s:=by cases gd <;> first | exact h hp hq hr | exact fun g=>h (hp g) (hq g) (hr g)

def strip (gd : Option Bool) (x : AV) (k : AV → Prop) : Prop:=match x with | .maybe g v=>imp gd (g = true) ∧ k v | v=>k v
def strip2 (gd : Option Bool) (b : Bool) (x : AV) (k : AV → Prop) : Prop:=match x with | .maybe g v=>imp gd (b = true → g = true) ∧ k v | v=>k v
def stripL (gd : Option Bool) (xs : List AV) (k : List AV → Prop) : Prop :=
 match xs with
 | []=>k []
 | x :: r=>strip gd x fun u=>stripL gd r fun us=>k (u :: us)

def binVC (P : Program) (op : BinOp) (t : TypeId) (u v : AV) (K : AV → Prop) : Prop:=match abin P op t u v with | some z=>K z | none=>False

def unVC (op : UnOp) (u : AV) (K : AV → Prop) : Prop :=
 match op,u with
 | .not,.bool b=>K (.bool (!b))
 | .neg,.int k m=>K (.int k (k.wrap (-m)))
 | _,_=>False

def loadVC (gd : Option Bool) (σ : Store) (t : TypeId) (u : AV) (K : AV → Prop) : Prop :=
 match u with
 | .loc t' v=>t' = t ∧ K v
 | .ptr t' id i path=>t' = t ∧ (match look σ id i path with | some v=>K v | none=>imp gd False ∧ K .undef)
 | _=>False

def fieldVC (P : Program) (s : TypeId) (u : AV) (k : Nat) (K : AV → Prop) : Prop :=
 match u with
 | .loc t (.agg t' fs)=>(t = s ∧ t' = s ∧ isStruct P s = true) ∧ (match flds P s with
  | some ts=>(match fs[k]?,ts[k]? with
   | some y,some ty=>K (.loc ty y)
   | _,_=>False)
  | none=>False)
 | .ptr t id i path=>(t = s ∧ isStruct P s = true) ∧ (match flds P s with
  | some ts=>(match ts[k]? with
   | some ty=>K (.ptr ty id i (path ++ [k]))
   | none=>False)
  | none=>False)
 | _=>False

def live (σ : Store) (id : Nat) : Prop:=∃ te xs,σ[id]? = some (some (.cells te xs))

def indexAddrVC (P : Program) (gd : Option Bool) (σ : Store) (t : TypeId) (u v : AV) (K : AV → Prop) : Prop :=
 match v with
 | .int _ i=>(match u with
  | .row e id off m=>(elT P t = some e ∧ 0 < szOf P e) ∧ imp gd (0 ≤ i ∧ i.toNat < m) ∧ live σ id ∧ K (.ptr e id (off + i.toNat) [])
  | .ptr t' id j path=>(t' = t ∧ (arrT P t).isSome = true) ∧ (match flds P t with
   | some ts=>imp gd (0 ≤ i ∧ i.toNat < ts.length) ∧ K (.ptr ((arrT P t).getD 0) id j (path ++ [i.toNat]))
   | none=>False)
  | .loc t' (.agg t'' fs)=>(t' = t ∧ t'' = t ∧ (arrT P t).isSome = true ∧ (flds P t).isSome = true) ∧ imp gd (0 ≤ i ∧ i.toNat < fs.length) ∧ K (.loc ((arrT P t).getD 0) (fs[i.toNat]?.getD .undef))
  | u=>(match u.asList with
   | some (e,xs)=>(elT P t = some e ∧ 0 < szOf P e) ∧ imp gd (0 ≤ i ∧ i.toNat < xs.length) ∧ K (.loc e (xs[i.toNat]?.getD .undef))
   | none=>False))
 | _=>False

def isStrT (P : Program) (t : TypeId) : Bool:=match P.underlying t with | some .string=>true | _=>false

def indexVC (P : Program) (gd : Option Bool) (t : TypeId) (u v : AV) (K : AV → Prop) : Prop :=
 match u,v with
 | .str l,.int _ i=>isStrT P t = true ∧ imp gd (0 ≤ i ∧ i.toNat < l.length) ∧ K (.int .u8 (l[i.toNat]?.getD 0).toNat)
 | .agg t' fs,.int _ i=>(t' = t ∧ (arrT P t).isSome = true ∧ (flds P t).isSome = true) ∧ imp gd (0 ≤ i ∧ i.toNat < fs.length) ∧ K (fs[i.toNat]?.getD .undef)
 | _,_=>False

def extractVC (u : AV) (k : Nat) (K : AV → Prop) : Prop:=match u with | .tup as=>(match as[k]? with | some v=>K v | none=>False) | _=>False

def intT (P : Program) (t : TypeId) : Option IntKind:=match P.underlying t with | some (.int k)=>some k | _=>none

def convertVC (P : Program) (s d : TypeId) (u : AV) (K : AV → Prop) : Prop :=
 match u with
 | .int _ m=>(match intT P s,intT P d with | some _,some k'=>K (.int k' (k'.wrap m)) | some _,none=>isStrT P d = true ∧ K (.str (encL m)) | _,_=>False)
 | .str l=>(isStrT P s = true ∧ isStrT P d = true) ∧ K (.str l)
 | u=>(match u.asList with
  | some (e,xs)=>(elT P s = some e ∧ intT P e = some .u8 ∧ szOf P e = 1 ∧ isStrT P d = true ∧ allByte xs) ∧ K (.str (xs.map unByte))
  | none=>False)

def bndVC (gd : Option Bool) (A : AState) (x : Option Operand) (d : Nat) (k : Nat → Prop) : Prop :=
 match x with
 | none=>k d
 | some y=>strip gd (A.val y) fun v=>(match v with | .int _ i=>imp gd (0 ≤ i) ∧ k i.toNat | _=>False)

def sliceVC (P : Program) (gd : Option Bool) (A : AState) (t : TypeId) (u : AV) (lo hi : Option Operand) (K : AV → Prop) : Prop :=
 match u with
 | .str l=>isStrT P t = true ∧ bndVC gd A lo 0 fun p=>bndVC gd A hi l.length fun q=>imp gd (p ≤ q ∧ q ≤ l.length) ∧ K (.str (cutL l p q))
 | .row e id off m=>(elT P t = some e ∧ 0 < szOf P e) ∧ bndVC gd A lo 0 fun p=>bndVC gd A hi m fun q=>imp gd (p ≤ q ∧ q ≤ m) ∧ K (.row e id (off + p) (q - p))
 | .nils=>(match elT P t with | some e=>0 < szOf P e ∧ bndVC gd A lo 0 fun p=>bndVC gd A hi 0 fun q=>imp gd (p = 0 ∧ q = 0) ∧ K .nils | none=>False)
 | u=>match u.asList with
  | some (e,xs)=>(elT P t = some e ∧ 0 < szOf P e) ∧ bndVC gd A lo 0 fun p=>bndVC gd A hi xs.length fun q=>imp gd (p ≤ q ∧ q ≤ xs.length) ∧ K (.sl e (cutL xs p q))
  | none=>False

def partsVC (gd : Option Bool) (A : AState) (ps : List (Nat × Operand)) (k : List (Nat × AV) → Prop) : Prop :=
 match ps with
 | []=>k []
 | (i,x) :: r=>strip gd (A.val x) fun u=>partsVC gd A r fun us=>k ((i,u) :: us)

def fitsB (P : Program) (t : TypeId) (x : AV) : Bool :=
 match x with
 | .agg t' _=>t' == t && (flds P t).isSome
 | x=>x.isOne && prim P t

theorem fits_of_B {P : Program} {t : TypeId} {x : AV} (h : fitsB P t x = true) : fits P t x:=by
 cases x <;> simp_all [fitsB,fits]

def partsFitB (P : Program) (ts : List TypeId) (ps : List (Nat × AV)) : Bool:=ps.all fun p=>match ts[p.1]? with | some ty=>fitsB P ty p.2 | none=>false

def buildVC (P : Program) (t : TypeId) (qs : List (Nat × AV)) (K : AV → Prop) : Prop :=
 match flds P t,zeroOf P t with
 | some ts,some (.agg t' fs)=>(t' = t ∧ partsFitB P ts qs = true) ∧ K (.agg t (setAll qs fs))
 | _,_=>False

def buildSliceVC (P : Program) (t : TypeId) (m : Nat) (qs : List (Nat × AV)) (K : AV → Prop) : Prop :=
 match elT P t with
 | some e=>(0 < szOf P e ∧ hasZero P e = true ∧ m * szOf P e ≤ 16777216 ∧ qs.map (·.1) = List.range' 0 m ∧ qs.all (fun p=>fitsB P e p.2) = true) ∧ K (.lit e (qs.map (·.2)))
 | none=>False

def builtinVC (P : Program) (gd : Option Bool) (b : Builtin) (ts : List TypeId) (us : List AV) (K : AV → Prop) : Prop :=
 match b,us with
 | .len,[u]=>(match ts with
  | [t]=>(match u with
   | .str l=>isStrT P t = true ∧ (imp gd (l.length ≤ maxLen) → K (.int .i64 l.length))
   | u=>(match u.lenOf with
    | some m=>(elT P t).isSome = true ∧ (imp gd (m ≤ maxLen) → K (.int .i64 m))
    | none=>False))
  | _=>False)
 | .cap,[u]=>(match ts with
  | [t]=>(match u with
   | .nils=>(elT P t).isSome = true ∧ K (.int .i64 0)
   | _=>False)
  | _=>False)
 | .max,[u,v]=>(match u,v with | .int k p,.int k' q=>k' = k ∧ K (.int k (maxI p q)) | _,_=>False)
 | .min,[u,v]=>(match u,v with | .int k p,.int k' q=>k' = k ∧ K (.int k (minI p q)) | _,_=>False)
 | _,_=>False

def PureSt (P : Program) (W0 : World) (so : Option Store) (f : FuncId) (args : List AV) (r : AV) : Prop:=match so with
 | none=>PureFn P W0 f args r
 | some σ=>ACall P W0 f args σ fun r' σ'=>r' = r ∧ σ' = σ

def callVC (P : Program) (W0 : World) (gd : Option Bool) (so : Option Store) (f : AV) (us : List AV) (K : AV → Prop) : Prop :=
 match f with
 | .fn g caps=>∃ r,imp gd (PureSt P W0 so g (us ++ caps) r) ∧ K r
 | _=>False

def lookVC (P : Program) (gd : Option Bool) (σ : Store) (t : TypeId) (u v : AV) (K : AV → Prop) : Prop :=
 match mapT P t with
 | some (kt,vt)=>hasZero P vt = true ∧ Maps.Keyed P kt ∧ imp gd (keyC P kt v) ∧ (match mpAt σ kt u with | some l=>K (mget P l v (zero1 P vt)) | none=>False)
 | none=>False

def valVC (P : Program) (W0 : World) (gd : Option Bool) (op : Op) (A : AState) (K : AV → Prop) : Prop :=
 match op with
 | .move x=>(match gd with | none=>K (A.val x) | some _=>strip gd (A.val x) K)
 | .assign x=>(match gd with | none=>K (A.val x) | some _=>strip gd (A.val x) K)
 | .pick c x y=>strip gd (A.val c) fun cv=>(match cv with
  | .bool b=>strip2 gd b (A.val x) fun u=>strip2 gd (!b) (A.val y) fun v=>K (pickAV b u v)
  | _=>False)
 | .binOp op t x y _=>strip gd (A.val x) fun u=>strip gd (A.val y) fun v=>binVC P op t u v K
 | .unOp op _ x=>strip gd (A.val x) fun u=>unVC op u K
 | .load t x=>strip gd (A.val x) fun u=>loadVC gd A.st t u K
 | .fieldAddr s x k=>strip gd (A.val x) fun u=>fieldVC P s u k K
 | .indexAddr t x ix=>strip gd (A.val x) fun u=>strip gd (A.val ix) fun v=>indexAddrVC P gd A.st t u v K
 | .index t x ix=>strip gd (A.val x) fun u=>strip gd (A.val ix) fun v=>indexVC P gd t u v K
 | .extract x k=>strip gd (A.val x) fun u=>extractVC u k K
 | .nilCheck x=>strip gd (A.val x) fun u=>u.isPtr = true ∧ K u
 | .convert s d x=>strip gd (A.val x) fun u=>convertVC P s d u K
 | .makeFunc fn first caps=>(match fn with
  | .func f=>first.toList = [] ∧ stripL gd (caps.toList.map A.val) fun vs=>vs.all AV.isOne = true ∧ K (.fn f vs)
  | _=>False)
 | .slice t x lo hi mx=>mx = none ∧ strip gd (A.val x) fun u=>sliceVC P gd A t u lo hi K
 | .build t ps=>partsVC gd A ps.toList fun qs=>buildVC P t qs K
 | .buildSlice t m ps=>partsVC gd A ps.toList fun qs=>buildSliceVC P t m qs K
 | .box t x=>strip gd (A.val x) fun v=>fitsB P t v = true ∧ K (.loc t v)
 | .lookup t x ix false=>strip gd (A.val x) fun u=>strip gd (A.val ix) fun v=>lookVC P gd A.st t u v K
 | .makeInterface t x=>strip gd (A.val x) fun u=>(concT P t = true ∧ u.isOne = true) ∧ K (.iface t u)
 | .typeAssert x _ d ok=>strip gd (A.val x) fun u=>assertC P d ok u ∧ K (assertV P d ok u)
 | .call c=>(match c.callee with
  | .builtin b=>stripL gd (c.args.toList.map A.val) fun us=>builtinVC P gd b c.argTypes.toList us K
  | .value f=>strip gd (A.val f) fun fv=>stripL gd (c.args.toList.map A.val) fun us=>callVC P W0 gd (some A.st) fv us K
  | _=>False)
 | _=>False

section
variable {P : Program} {W0 w w' : World} {C C' : Ctx} {σ σ' : Store} {n : Nat} {A : AState} {a : Act} {o : Oper} {gd : Option Bool} {K : AV → Prop}

theorem ValOk.pure {v : AV} (h : ValOk P W0 o A v) : PureOk P W0 o A v:=fun w C a hr next Q hn=>by
 obtain ⟨x,w',h1,h2,h3,h4⟩:=h w C a hr
 unfold Oper.wp
 rw [h1]
 exact hn x w' h2 h3 h4

theorem ctx_same (h : StRel P W0 w C σ) (h' : StRel P W0 w' C' σ) (hs : Step w C w' C') : C' = C:=by
 have hm : ∀ i,C'.m i = C.m i:=fun i=>by
  have h1:=h.obj i
  have h2:=h'.obj i
  cases hc : C'.m i with
  | none =>
   cases hc' : C.m i with
   | none=>rfl
   | some ow =>
    rw [hc] at h2
    rw [hc'] at h1
    cases ho : (σ[i]?).join with
    | none=>rw [ho] at h1; cases ow <;> exact h1.elim
    | some s=>rw [ho] at h2; cases s <;> exact h2.elim
  | some ow =>
   have hlt:=h'.dom i ow hc
   rw [hs.dead i ow (by rw [h.nx,← h'.nx]; exact hlt) hc]
 have hnx : C'.nx = C.nx:=by rw [h.nx,h'.nx]
 cases C; cases C'
 simp only at hm hnx
 subst hnx
 congr
 exact funext hm

theorem strip_sound {x : Operand} (hm : x ∈ o.op.operands) {k : AV → Prop} (h : strip gd (A.val x) k) : ∃ u,k u ∧ imp gd (Is P W0 o A x u):=by
 unfold strip at h
 have hv:=Is.val (P:=P) (W0:=W0) A hm
 split at h
 ·rename_i g v hx
  rw [hx] at hv
  exact ⟨v,h.2,h.1.map fun hg w C a hr=>(hv w C a hr).strip hg⟩
 ·exact ⟨_,h,.of hv⟩

theorem strip2_sound {b : Bool} {x : Operand} (hm : x ∈ o.op.operands) {k : AV → Prop} (h : strip2 gd b (A.val x) k) : ∃ u,k u ∧ imp gd (b = true → Is P W0 o A x u):=by
 unfold strip2 at h
 have hv:=Is.val (P:=P) (W0:=W0) A hm
 split at h
 ·rename_i g v hx
  rw [hx] at hv
  exact ⟨v,h.2,h.1.map fun hg hb w C a hr=>(hv w C a hr).strip (hg hb)⟩
 ·exact ⟨_,h,.of fun _=>hv⟩

theorem stripL_sound : ∀ (xs : List Operand) (k : List AV → Prop),(∀ x ∈ xs,x ∈ o.op.operands) → stripL gd (xs.map A.val) k → ∃ us,k us ∧ imp gd (IsL P W0 o A xs us)
 | [],k,_,h=>⟨[],h,.of ⟨rfl,by simp⟩⟩
 | x :: r,k,hm,h=>by
  obtain ⟨u,hu,hi⟩:=strip_sound (P:=P) (W0:=W0) (hm x (by simp)) h
  obtain ⟨us,hus,hil⟩:=stripL_sound r _ (fun y hy=>hm y (by simp [hy])) hu
  refine ⟨u :: us,hus,hi.map2 (fun h1 h2=>⟨by simp [h2.1],fun i y v hy hv=>?_⟩) hil⟩
  cases i with
  | zero=>simp at hy hv; subst hy hv; exact h1
  | succ i=>simp at hy hv; exact h2.2 i y v hy hv

theorem partsVC_sound : ∀ (ps : List (Nat × Operand)) (k : List (Nat × AV) → Prop),(∀ p ∈ ps,p.2 ∈ o.op.operands) → partsVC gd A ps k → ∃ qs,k qs ∧ imp gd (IsParts P W0 o A ps qs)
 | [],k,_,h=>⟨[],h,.of ⟨rfl,by simp⟩⟩
 | (j,x) :: r,k,hm,h=>by
  obtain ⟨u,hu,hi⟩:=strip_sound (P:=P) (W0:=W0) (hm (j,x) (by simp)) h
  obtain ⟨us,hus,hil⟩:=partsVC_sound r _ (fun y hy=>hm y (by simp [hy])) hu
  refine ⟨(j,u) :: us,hus,hi.map2 (fun h1 h2=>⟨by simp [h2.1],fun i y v hy hv=>?_⟩) hil⟩
  cases i with
  | zero=>simp at hy hv; subst hy hv; exact ⟨rfl,h1⟩
  | succ i=>simp at hy hv; exact h2.2 i y v hy hv

theorem bndVC_sound {x : Option Operand} (hm : ∀ y,x = some y → y ∈ o.op.operands) {d : Nat} {k : Nat → Prop} (h : bndVC gd A x d k) : ∃ l,k l ∧ imp gd (BndIs P W0 o A x d l):=by
 unfold bndVC at h
 split at h
 ·exact ⟨d,h,.of rfl⟩
 ·obtain ⟨u,hu,hi⟩:=strip_sound (P:=P) (W0:=W0) (hm _ rfl) h
  split at hu
  ·rename_i k' i
   exact ⟨i.toNat,hu.2,hi.map2 (fun h1 h2=>⟨k',i,h1,h2,rfl⟩) hu.1⟩
  ·exact hu.elim

end
end Go.Av
end
section
namespace Go.Av
open Go

section
variable {P : Program} {W0 w w' : World} {C C' : Ctx} {σ σ' : Store} {n : Nat} {A : AState} {a : Act} {o : Oper} {gd : Option Bool} {K : AV → Prop}

theorem isStrT_inv {t : TypeId} (h : isStrT P t = true) : P.underlying t = some .string:=by
 unfold isStrT at h
 split at h
 ·assumption
 ·cases h

theorem intT_inv {t : TypeId} {k : IntKind} (h : intT P t = some k) : P.underlying t = some (.int k):=by
 unfold intT at h
 split at h
 ·cases h; assumption
 ·cases h

theorem sound_move {x : Operand} (ho : o.op = .move x ∨ o.op = .assign x) (hm : x ∈ o.op.operands) (h : match gd with | none=>K (A.val x) | some _=>strip gd (A.val x) K) : ∃ v,K v ∧ imp gd (PureOk P W0 o A v):=by
 have key : ∀ u,Is P W0 o A x u → PureOk P W0 o A u:=fun u hu=>by
  rcases ho with ho | ho
  ·exact (ok_move ho hu).pure
  ·exact (ok_assign ho hu).pure
 cases gd with
 | none=>exact ⟨_,h,key _ (Is.val A hm)⟩
 | some g =>
  obtain ⟨u,hu,hi⟩:=strip_sound (P:=P) (W0:=W0) hm h
  exact ⟨u,hu,hi.map (key u)⟩

theorem sound_load {t : TypeId} {x : Operand} {u : AV} (ho : o.op = .load t x) (hi : imp gd (Is P W0 o A x u)) (h : loadVC gd A.st t u K) : ∃ v,K v ∧ imp gd (PureOk P W0 o A v):=by
 unfold loadVC at h
 split at h
 ·obtain ⟨rfl,hk⟩:=h
  exact ⟨_,hk,hi.map fun hx=>(ok_load_loc ho hx).pure⟩
 ·obtain ⟨rfl,hk⟩:=h
  split at hk
  ·rename_i v hv
   exact ⟨v,hk,hi.map fun hx=>(ok_load_ptr ho hx hv).pure⟩
  ·exact ⟨_,hk.2,hk.1.map False.elim⟩
 ·exact h.elim

theorem sound_field {s : TypeId} {x : Operand} {k : Nat} {u : AV} (ho : o.op = .fieldAddr s x k) (hi : imp gd (Is P W0 o A x u)) (h : fieldVC P s u k K) : ∃ v,K v ∧ imp gd (PureOk P W0 o A v):=by
 unfold fieldVC at h
 split at h
 ·obtain ⟨⟨rfl,rfl,hst⟩,h⟩:=h
  split at h
  ·rename_i ts hts
   split at h
   ·rename_i y ty hy hty
    exact ⟨_,h,hi.map fun hx=>(ok_fieldAddr_loc ho hx (isStruct_any hst) hts hy hty).pure⟩
   ·exact h.elim
  ·exact h.elim
 ·obtain ⟨⟨rfl,hst⟩,h⟩:=h
  split at h
  ·rename_i ts hts
   split at h
   ·rename_i ty hty
    exact ⟨_,h,hi.map fun hx=>(ok_fieldAddr_ptr ho hx hst hts hty).pure⟩
   ·exact h.elim
  ·exact h.elim
 ·exact h.elim

theorem sound_indexAddr {t : TypeId} {x ix : Operand} {u v : AV} (ho : o.op = .indexAddr t x ix) (hi : imp gd (Is P W0 o A x u)) (hj : imp gd (Is P W0 o A ix v)) (h : indexAddrVC P gd A.st t u v K) : ∃ v,K v ∧ imp gd (PureOk P W0 o A v):=by
 unfold indexAddrVC at h
 split at h
 ·split at h
  ·obtain ⟨⟨h1,h2⟩,h3,h4,h5⟩:=h
   exact ⟨_,h5,imp.map3 (fun hx hy h3=>(ok_indexAddr_row ho hx hy h1 h2 h3.1 h3.2 h4).pure) hi hj h3⟩
  ·obtain ⟨⟨rfl,h1⟩,h⟩:=h
   obtain ⟨e,he⟩:=Option.isSome_iff_exists.1 h1
   split at h
   ·rename_i ts hts
    rw [he] at h
    exact ⟨_,h.2,imp.map3 (fun hx hy h3=>(ok_indexAddr_arrP ho hx hy he hts h3.1 h3.2).pure) hi hj h.1⟩
   ·exact h.elim
  ·obtain ⟨⟨rfl,rfl,h1,h2⟩,h3,h4⟩:=h
   obtain ⟨e,he⟩:=Option.isSome_iff_exists.1 h1
   obtain ⟨ts,hts⟩:=Option.isSome_iff_exists.1 h2
   rw [he] at h4
   exact ⟨_,h4,imp.map3 (fun hx hy h3=>(ok_indexAddr_arrL ho hx hy he hts h3.1 (by simp [List.getElem?_eq_getElem h3.2])).pure) hi hj h3⟩
  ·split at h
   ·rename_i e xs hl
    obtain ⟨⟨h1,h2⟩,h3,h4⟩:=h
    exact ⟨_,h4,imp.map3 (fun hx hy h3=>(ok_indexAddr_list ho hx hl hy h1 h2 h3.1 (by simp [List.getElem?_eq_getElem h3.2])).pure) hi hj h3⟩
   ·exact h.elim
 ·exact h.elim

theorem sound_index {t : TypeId} {x ix : Operand} {u v : AV} (ho : o.op = .index t x ix) (hi : imp gd (Is P W0 o A x u)) (hj : imp gd (Is P W0 o A ix v)) (h : indexVC P gd t u v K) : ∃ v,K v ∧ imp gd (PureOk P W0 o A v):=by
 unfold indexVC at h
 split at h
 ·obtain ⟨h1,h2,h3⟩:=h
  exact ⟨_,h3,imp.map3 (fun hx hy h2=>(ok_index_str ho hx hy (isStrT_inv h1) h2.1 (by simp [List.getElem?_eq_getElem h2.2])).pure) hi hj h2⟩
 ·obtain ⟨⟨rfl,h1,h2⟩,h3,h4⟩:=h
  obtain ⟨e,he⟩:=Option.isSome_iff_exists.1 h1
  obtain ⟨ts,hts⟩:=Option.isSome_iff_exists.1 h2
  exact ⟨_,h4,imp.map3 (fun hx hy h3=>(ok_index_arr ho hx hy he hts h3.1 (by simp [List.getElem?_eq_getElem h3.2])).pure) hi hj h3⟩
 ·exact h.elim

theorem sound_slice {t : TypeId} {x : Operand} {lo hi : Option Operand} {u : AV} (ho : o.op = .slice t x lo hi none) (hlo : ∀ y,lo = some y → y ∈ o.op.operands) (hhi : ∀ y,hi = some y → y ∈ o.op.operands) (hi' : imp gd (Is P W0 o A x u)) (h : sliceVC P gd A t u lo hi K) : ∃ v,K v ∧ imp gd (PureOk P W0 o A v):=by
 unfold sliceVC at h
 split at h
 ·obtain ⟨h1,h⟩:=h
  obtain ⟨p,h,hp⟩:=bndVC_sound (P:=P) (W0:=W0) hlo h
  obtain ⟨q,h,hq⟩:=bndVC_sound (P:=P) (W0:=W0) hhi h
  exact ⟨_,h.2,imp.map3 (fun hx hpq hb=>(ok_slice_str ho hx (isStrT_inv h1) hpq.1 hpq.2 hb.1 hb.2).pure) hi' (imp.map2 And.intro hp hq) h.1⟩
 ·obtain ⟨⟨h1,h2⟩,h⟩:=h
  obtain ⟨p,h,hp⟩:=bndVC_sound (P:=P) (W0:=W0) hlo h
  obtain ⟨q,h,hq⟩:=bndVC_sound (P:=P) (W0:=W0) hhi h
  exact ⟨_,h.2,imp.map3 (fun hx hpq hb=>(ok_slice_row ho hx h1 h2 hpq.1 hpq.2 hb.1 hb.2).pure) hi' (imp.map2 And.intro hp hq) h.1⟩
 ·split at h
  ·rename_i e he
   obtain ⟨h1,h⟩:=h
   obtain ⟨p,h,hp⟩:=bndVC_sound (P:=P) (W0:=W0) hlo h
   obtain ⟨q,h,hq⟩:=bndVC_sound (P:=P) (W0:=W0) hhi h
   exact ⟨_,h.2,imp.map3 (fun hx hpq hb=>by
    obtain ⟨rfl,rfl⟩:=hb
    exact (ok_slice_nils ho hx he h1 hpq.1 hpq.2).pure) hi' (imp.map2 And.intro hp hq) h.1⟩
  ·exact h.elim
 ·split at h
  ·rename_i e xs hl
   obtain ⟨⟨h1,h2⟩,h⟩:=h
   obtain ⟨p,h,hp⟩:=bndVC_sound (P:=P) (W0:=W0) hlo h
   obtain ⟨q,h,hq⟩:=bndVC_sound (P:=P) (W0:=W0) hhi h
   exact ⟨_,h.2,imp.map3 (fun hx hpq hb=>(ok_slice_list ho hx hl h1 h2 hpq.1 hpq.2 hb.1 hb.2).pure) hi' (imp.map2 And.intro hp hq) h.1⟩
  ·exact h.elim

theorem partsFit_of_B {ts : List TypeId} {ps : List (Nat × AV)} (h : partsFitB P ts ps = true) : partsFit P ts ps:=fun p hp=>by
 have:=List.all_eq_true.1 h p hp
 split at this
 ·rename_i ty hty
  exact ⟨ty,hty,fits_of_B this⟩
 ·cases this

theorem sound_build {t : TypeId} {ps : Array (Nat × Operand)} {qs : List (Nat × AV)} (ho : o.op = .build t ps) (hi : imp gd (IsParts P W0 o A ps.toList qs)) (h : buildVC P t qs K) : ∃ v,K v ∧ imp gd (PureOk P W0 o A v):=by
 unfold buildVC at h
 split at h
 ·rename_i ts t' fs hts hz
  obtain ⟨⟨rfl,h2⟩,h3⟩:=h
  exact ⟨_,h3,hi.map fun hq=>(ok_build ho hts hz hq (partsFit_of_B h2)).pure⟩
 ·exact h.elim

theorem sound_buildSlice {t : TypeId} {m : Nat} {ps : Array (Nat × Operand)} {qs : List (Nat × AV)} (ho : o.op = .buildSlice t m ps) (hi : imp gd (IsParts P W0 o A ps.toList qs)) (h : buildSliceVC P t m qs K) : ∃ v,K v ∧ imp gd (PureOk P W0 o A v):=by
 unfold buildSliceVC at h
 split at h
 ·rename_i e he
  obtain ⟨⟨h1,h2,h3,h4,h5⟩,h6⟩:=h
  exact ⟨_,h6,hi.map fun hq=>(ok_buildSlice ho he h1 h2 h3 hq h4 (fun p hp=>fits_of_B (List.all_eq_true.1 h5 p hp))).pure⟩
 ·exact h.elim

theorem toList_one {xs : Array Operand} {u : AV} (h : IsL P W0 o A xs.toList [u]) : ∃ x,xs = #[x] ∧ Is P W0 o A x u:=by
 obtain ⟨l⟩:=xs
 obtain ⟨h1,h2⟩:=h
 match l,h1 with
 | [x],_=>exact ⟨x,rfl,h2 0 x u rfl rfl⟩

theorem toList_two {xs : Array Operand} {u v : AV} (h : IsL P W0 o A xs.toList [u,v]) : ∃ x y,xs = #[x,y] ∧ Is P W0 o A x u ∧ Is P W0 o A y v:=by
 obtain ⟨l⟩:=xs
 obtain ⟨h1,h2⟩:=h
 match l,h1 with
 | [x,y],_=>exact ⟨x,y,rfl,h2 0 x u rfl rfl,h2 1 y v rfl rfl⟩

theorem sound_builtin (hr : RelO P W0 o w C A a) {b : Builtin} {xs : Array Operand} {ts : Array TypeId} {us : List AV} (ho : o.op = .call { callee:=.builtin b,args:=xs,argTypes:=ts })
  (hi : imp gd (IsL P W0 o A xs.toList us)) (h : builtinVC P gd b ts.toList us K) : ∃ v,K v ∧ imp gd (PureOk P W0 o A v):=by
 unfold builtinVC at h
 split at h
 ·split at h
  ·rename_i t hts
   obtain rfl : ts = #[t]:=by rw [← Array.toArray_toList (xs:=ts),hts]
   split at h
   ·rename_i l
    obtain ⟨h1,h2⟩:=h
    refine ⟨_,h2 (hi.map fun hq=>?_),hi.map fun hq=>?_⟩
    ·obtain ⟨x,rfl,hx⟩:=toList_one hq
     exact (hx w C a hr).str_inv.2
    ·obtain ⟨x,rfl,hx⟩:=toList_one hq
     exact (ok_len_str ho hx (isStrT_inv h1)).pure
   ·split at h
    ·rename_i m hl
     obtain ⟨h1,h2⟩:=h
     refine ⟨_,h2 (hi.map fun hq=>?_),hi.map fun hq=>?_⟩
     ·obtain ⟨x,rfl,hx⟩:=toList_one hq
      exact len_le (hx w C a hr) hl
     ·obtain ⟨x,rfl,hx⟩:=toList_one hq
      exact (ok_len ho hx hl h1).pure
    ·exact h.elim
  ·exact h.elim
 ·split at h
  ·rename_i t hts
   obtain rfl : ts = #[t]:=by rw [← Array.toArray_toList (xs:=ts),hts]
   split at h
   ·obtain ⟨h1,h2⟩:=h
    refine ⟨_,h2,hi.map fun hq=>?_⟩
    obtain ⟨x,rfl,hx⟩:=toList_one hq
    exact (ok_cap_nils ho hx h1).pure
   ·exact h.elim
  ·exact h.elim
 ·split at h
  ·obtain ⟨rfl,h⟩:=h
   refine ⟨_,h,hi.map fun hq=>?_⟩
   obtain ⟨x,y,rfl,hx,hy⟩:=toList_two hq
   exact (ok_max ho hx hy).pure
  ·exact h.elim
 ·split at h
  ·obtain ⟨rfl,h⟩:=h
   refine ⟨_,h,hi.map fun hq=>?_⟩
   obtain ⟨x,y,rfl,hx,hy⟩:=toList_two hq
   exact (ok_min ho hx hy).pure
  ·exact h.elim
 ·exact h.elim

theorem call_wp {x : Operand} {xs : Array Operand} {ts : Array TypeId} {g : FuncId} {cv : List Value} {next : Act → World → Prop} {Q : Exit → Act → World → Prop} {R : Ending → World → Prop}
  (ho : o.op = .call { callee:=.value x,args:=xs,argTypes:=ts })
  (e1 : a.eval x = .func (.func g) #[] cv.toArray) (hc : Runs P g (xs.toList.map a.eval ++ cv).toArray w R) (hR : ∀ e w',R e w' → ∃ v,e = .returned v ∧ next (a.put o.dst v) w') : o.wp P a w next Q:=by
 have hargs : (Array.map a.eval xs) ++ cv.toArray = (xs.toList.map a.eval ++ cv).toArray:=by
  apply Array.toList_inj.1
  simp
 rcases hc with ⟨⟨fn,h1,h2,h3⟩,hc⟩ | ⟨v,w',hc,hq⟩
 case inr =>
  have hrun : (execOp a.eval o).run P w = .ok (.value v) w':=by
   simp only [execOp,ho,resolve,e1,Deferred.ofValue,invoke,Sem.run_bind,Sem.run_pure,Result.andThen_ok,Array.empty_append]
   rw [hargs]
   exact hc
  obtain ⟨v',e,hn⟩:=hR _ _ hq
  cases e
  unfold Oper.wp
  rw [hrun]
  exact hn
 have hrun : (execOp a.eval o).run P w = .ok (.enter g (xs.toList.map a.eval ++ cv).toArray) w:=by
  have hb : fn.body.isNone = false:=by cases hb : fn.body <;> simp_all
  have hp : (program).run P w = .ok P w:=rfl
  simp only [execOp,ho,resolve,e1,Deferred.ofValue,invoke,callFunc,Sem.run_bind,Sem.run_pure,Result.andThen_ok,hp,h1,h3,hb,Bool.false_eq_true,if_false,Array.empty_append]
  rw [hargs]
 unfold Oper.wp
 rw [hrun,Oper.upon_enter]
 refine hc.mono fun e w' hw=>?_
 obtain ⟨v,rfl,hn⟩:=hR e w' hw
 exact hn

theorem fn_inv {g : FuncId} {caps : List AV} {v : Value} (h : RelV P w C (.fn g caps) v) : ∃ cv : List Value,v = .func (.func g) #[] cv.toArray ∧ caps.length = cv.length ∧ ∀ (i : Nat) (c : AV) (v : Value),caps[i]? = some c → cv[i]? = some v → RelV P w C c v:=by
 have:=h.one_inv rfl
 cases this with
 | fn g1 g2 g3=>exact ⟨_,rfl,g1,fun i c v hc hv=>.one (g2 i c hc) (g3 i c v hc hv)⟩

theorem acall_wp (hr : RelO P W0 o w C A a) {x : Operand} {xs : Array Operand} {ts : Array TypeId} {g : FuncId} {caps us : List AV} {R : AV → Store → Prop} (ho : o.op = .call { callee:=.value x,args:=xs,argTypes:=ts })
  (hx : Is P W0 o A x (.fn g caps)) (hu : IsL P W0 o A xs.toList us) (hc : ACall P W0 g (us ++ caps) A.st R) {next : Act → World → Prop} {Q : Exit → Act → World → Prop}
  (hn : ∀ v r σ' w' C',R r σ' → StRel P W0 w' C' σ' → RelV P w' C' r v → Step w C w' C' → next (a.put o.dst v) w') : o.wp P a w next Q:=by
 obtain ⟨cv,e1,e2,e3⟩:=fn_inv (hx w C a hr)
 have hl : (us ++ caps).length = (xs.toList.map a.eval ++ cv).length:=by simp [← hu.1,e2]
 refine call_wp ho e1 (hc w C _ hr.st hl (fun i c v hc' hv=>?_)) (fun e w' he=>?_)
 ·by_cases hi : i < us.length
  ·rw [List.getElem?_append_left hi] at hc'
   rw [List.getElem?_append_left (by simpa [hu.1] using hi)] at hv
   simp only [List.getElem?_map,Option.map_eq_some_iff] at hv
   obtain ⟨y,hy,rfl⟩:=hv
   exact hu.2 i y c hy hc' w C a hr
  ·rw [List.getElem?_append_right (by omega)] at hc'
   rw [List.getElem?_append_right (by simp only [List.length_map]; rw [hu.1]; omega)] at hv
   simp only [List.length_map,hu.1] at hv
   exact e3 _ c v hc' hv
 ·obtain ⟨v,r,σ',C',rfl,g1,g2,g3,g4⟩:=he
  exact ⟨v,rfl,hn v r σ' w' C' g1 g2 g3 g4⟩

theorem sound_call {x : Operand} {xs : Array Operand} {ts : Array TypeId} {f : AV} {us : List AV} (ho : o.op = .call { callee:=.value x,args:=xs,argTypes:=ts })
  (hx : imp gd (Is P W0 o A x f)) (hu : imp gd (IsL P W0 o A xs.toList us)) (h : callVC P W0 gd (some A.st) f us K) : ∃ v,K v ∧ imp gd (PureOk P W0 o A v):=by
 unfold callVC at h
 split at h
 ·obtain ⟨r,h1,h2⟩:=h
  refine ⟨r,h2,imp.map3 (fun hx hu h1 w C a hr next Q hn=>acall_wp hr ho hx hu h1 fun v r' σ' w' C' hR g2 g3 g4=>?_) hx hu h1⟩
  obtain ⟨rfl,rfl⟩:=hR
  have hC:=ctx_same hr.st g2 g4
  subst hC
  exact hn v w' g3 g4 g2
 ·exact h.elim

theorem valVC_sound (hr : RelO P W0 o w C A a) (h : valVC P W0 gd o.op A K) : ∃ v,K v ∧ imp gd (PureOk P W0 o A v):=by
 generalize ho : o.op = op at h
 cases op <;> simp only [valVC] at h
 case move x=>exact sound_move (.inl ho) (by simp [ho,Op.operands]) h
 case assign x=>exact sound_move (.inr ho) (by simp [ho,Op.operands]) h
 case pick c x y =>
  obtain ⟨cv,h,hc⟩:=strip_sound (P:=P) (W0:=W0) (o:=o) (by simp [ho,Op.operands]) h
  split at h
  ·obtain ⟨u,h,hu⟩:=strip2_sound (P:=P) (W0:=W0) (o:=o) (by simp [ho,Op.operands]) h
   obtain ⟨v,h,hv⟩:=strip2_sound (P:=P) (W0:=W0) (o:=o) (by simp [ho,Op.operands]) h
   exact ⟨_,h,imp.map3 (fun hc hu hv=>(ok_pick ho hc hu (fun e=>hv (by simp [e]))).pure) hc hu hv⟩
  ·exact h.elim
 case binOp op t x y t' =>
  obtain ⟨u,h,hu⟩:=strip_sound (P:=P) (W0:=W0) (o:=o) (by simp [ho,Op.operands]) h
  obtain ⟨v,h,hv⟩:=strip_sound (P:=P) (W0:=W0) (o:=o) (by simp [ho,Op.operands]) h
  unfold binVC at h
  split at h
  ·rename_i z hz
   exact ⟨z,h,imp.map2 (fun hu hv=>(ok_binOp ho hu hv hz).pure) hu hv⟩
  ·exact h.elim
 case unOp op t x =>
  obtain ⟨u,h,hu⟩:=strip_sound (P:=P) (W0:=W0) (o:=o) (by simp [ho,Op.operands]) h
  unfold unVC at h
  split at h
  ·exact ⟨_,h,hu.map fun hu=>(ok_not ho hu).pure⟩
  ·exact ⟨_,h,hu.map fun hu=>(ok_neg ho hu).pure⟩
  ·exact h.elim
 case load t x =>
  obtain ⟨u,h,hu⟩:=strip_sound (P:=P) (W0:=W0) (o:=o) (by simp [ho,Op.operands]) h
  exact sound_load ho hu h
 case fieldAddr s x k =>
  obtain ⟨u,h,hu⟩:=strip_sound (P:=P) (W0:=W0) (o:=o) (by simp [ho,Op.operands]) h
  exact sound_field ho hu h
 case indexAddr t x ix =>
  obtain ⟨u,h,hu⟩:=strip_sound (P:=P) (W0:=W0) (o:=o) (by simp [ho,Op.operands]) h
  obtain ⟨v,h,hv⟩:=strip_sound (P:=P) (W0:=W0) (o:=o) (by simp [ho,Op.operands]) h
  exact sound_indexAddr ho hu hv h
 case index t x ix =>
  obtain ⟨u,h,hu⟩:=strip_sound (P:=P) (W0:=W0) (o:=o) (by simp [ho,Op.operands]) h
  obtain ⟨v,h,hv⟩:=strip_sound (P:=P) (W0:=W0) (o:=o) (by simp [ho,Op.operands]) h
  exact sound_index ho hu hv h
 case extract x k =>
  obtain ⟨u,h,hu⟩:=strip_sound (P:=P) (W0:=W0) (o:=o) (by simp [ho,Op.operands]) h
  unfold extractVC at h
  split at h
  ·split at h
   ·rename_i v hv
    exact ⟨v,h,hu.map fun hu=>(ok_extract ho hu hv).pure⟩
   ·exact h.elim
  ·exact h.elim
 case nilCheck x =>
  obtain ⟨u,h,hu⟩:=strip_sound (P:=P) (W0:=W0) (o:=o) (by simp [ho,Op.operands]) h
  exact ⟨u,h.2,hu.map fun hu=>(ok_nilCheck ho hu h.1).pure⟩
 case makeInterface t x =>
  obtain ⟨u,h,hu⟩:=strip_sound (P:=P) (W0:=W0) (o:=o) (by simp [ho,Op.operands]) h
  exact ⟨_,h.2,hu.map fun hu=>(ok_makeInterface ho hu h.1.1 h.1.2).pure⟩
 case typeAssert x xt d ok =>
  obtain ⟨u,h,hu⟩:=strip_sound (P:=P) (W0:=W0) (o:=o) (by simp [ho,Op.operands]) h
  exact ⟨_,h.2,hu.map fun hu=>(ok_typeAssert ho hu h.1).pure⟩
 case convert s d x =>
  obtain ⟨u,h,hu⟩:=strip_sound (P:=P) (W0:=W0) (o:=o) (by simp [ho,Op.operands]) h
  unfold convertVC at h
  split at h
  ·split at h
   ·rename_i k1 k2 hs hd
    exact ⟨_,h,hu.map fun hu=>(ok_convert ho hu (by simp [intT_inv hs]) (intT_inv hd)).pure⟩
   ·rename_i k1 hs hd
    exact ⟨_,h.2,hu.map fun hu=>(ok_convert_rune ho hu (by simp [intT_inv hs]) (isStrT_inv h.1)).pure⟩
   ·exact h.elim
  ·exact ⟨_,h.2,hu.map fun hu=>(ok_convert_text ho hu (isStrT_inv h.1.1) (isStrT_inv h.1.2)).pure⟩
  ·split at h
   ·rename_i e xs hl
    obtain ⟨⟨g1,g2,g3,g4,g5⟩,h⟩:=h
    rw [allByte_eq g5] at hl
    exact ⟨_,h,hu.map fun hu=>(ok_convert_bytes ho hu hl (elT_inv g1) (intT_inv g2) g3 (isStrT_inv g4)).pure⟩
   ·exact h.elim
 case makeFunc fn first caps =>
  split at h
  ·rename_i f
   obtain ⟨h1,h⟩:=h
   obtain rfl : first = #[]:=by rw [← Array.toArray_toList (xs:=first),h1]
   obtain ⟨us,h,hu⟩:=stripL_sound (P:=P) (W0:=W0) (o:=o) _ _ (fun y hy=>by simp [ho,Op.operands]; simp at hy; simp [hy]) h
   exact ⟨_,h.2,hu.map fun hu=>(ok_makeFunc ho hu h.1).pure⟩
  ·exact h.elim
 case slice t x lo hi mx =>
  obtain ⟨rfl,h⟩:=h
  obtain ⟨u,h,hu⟩:=strip_sound (P:=P) (W0:=W0) (o:=o) (by simp [ho,Op.operands]) h
  exact sound_slice ho (fun y hy=>by simp [ho,Op.operands,hy]) (fun y hy=>by simp [ho,Op.operands,hy]) hu h
 case lookup t x ix c =>
  cases c
  case true=>exact h.elim
  obtain ⟨u,h,hu⟩:=strip_sound (P:=P) (W0:=W0) (o:=o) (by simp [ho,Op.operands]) h
  obtain ⟨v,h,hv⟩:=strip_sound (P:=P) (W0:=W0) (o:=o) (by simp [ho,Op.operands]) h
  unfold lookVC at h
  split at h
  ·rename_i kt vt ht
   obtain ⟨h1,h2,h3,h4⟩:=h
   split at h4
   ·rename_i l hl
    exact ⟨_,h4,imp.map3 (fun hu hv h3=>(ok_lookup ho hu hv ht h1 h2 h3 hl).pure) hu hv h3⟩
   ·exact h4.elim
  ·exact h.elim
 case box t x =>
  obtain ⟨u,h,hu⟩:=strip_sound (P:=P) (W0:=W0) (o:=o) (by simp [ho,Op.operands]) h
  exact ⟨_,h.2,hu.map fun hu=>(ok_box ho hu (fits_of_B h.1)).pure⟩
 case build t ps =>
  obtain ⟨qs,h,hq⟩:=partsVC_sound (P:=P) (W0:=W0) (o:=o) _ _ (fun p hp=>by simp only [ho,Op.operands]; exact List.mem_toArray.2 (List.mem_map_of_mem hp)) h
  exact sound_build ho hq h
 case buildSlice t m ps =>
  obtain ⟨qs,h,hq⟩:=partsVC_sound (P:=P) (W0:=W0) (o:=o) _ _ (fun p hp=>by simp only [ho,Op.operands]; exact List.mem_toArray.2 (List.mem_map_of_mem hp)) h
  exact sound_buildSlice ho hq h
 case call c =>
  obtain ⟨callee,args,argTypes⟩:=c
  cases callee with
  | builtin b =>
   obtain ⟨us,h,hu⟩:=stripL_sound (P:=P) (W0:=W0) (o:=o) _ _ (fun y hy=>by simp [ho,Op.operands,Call.operands]; simp at hy; simp [hy]) h
   exact sound_builtin hr ho hu h
  | value f =>
   obtain ⟨fv,h,hf⟩:=strip_sound (P:=P) (W0:=W0) (o:=o) (by simp [ho,Op.operands,Call.operands]) h
   obtain ⟨us,h,hu⟩:=stripL_sound (P:=P) (W0:=W0) (o:=o) _ _ (fun y hy=>by simp [ho,Op.operands,Call.operands]; simp at hy; simp [hy]) h
   exact sound_call ho hf hu h
  | invoke r m=>exact h.elim

end
end Go.Av
end
section
namespace Go.Av
open Go

def Ctx.push (C : Ctx) (ow : Own) : Ctx:={ m:=fun i=>if i = C.nx then some ow else C.m i,nx:=C.nx + 1 }
def Ctx.kill (C : Ctx) (id : Nat) : Ctx:={ m:=fun i=>if i = id then none else C.m i,nx:=C.nx }

theorem push_m (C : Ctx) (ow : Own) (i : Nat) : (C.push ow).m i = if i = C.nx then some ow else C.m i:=rfl
theorem kill_m (C : Ctx) (id i : Nat) : (C.kill id).m i = if i = id then none else C.m i:=rfl
theorem kill_nx (C : Ctx) (id : Nat) : (C.kill id).nx = C.nx:=rfl

def AV.setAt : AV → List Nat → AV → AV
 | _,[],v=>v
 | .agg t fs,k :: r,v=>match fs[k]? with
  | some y=>.agg t (fs.set k (y.setAt r v))
  | none=>.agg t fs
 | x,_ :: _,_=>x

section
variable {P : Program} {W0 w w' : World} {C C' : Ctx} {σ σ' : Store} {n : Nat} {A : AState} {a : Act} {o : Oper}

theorem join_push (σ : Store) (o : Option SObj) (i : Nat) : ((σ ++ [o])[i]?).join = if i = σ.length then o else (σ[i]?).join:=by
 by_cases h : i < σ.length
 ·rw [List.getElem?_append_left h,if_neg (by omega)]
 ·rw [List.getElem?_append_right (by omega)]
  by_cases h' : i = σ.length
  ·subst h'; simp
  ·rw [if_neg h',List.getElem?_eq_none (by simp; omega),List.getElem?_eq_none (by omega)]

theorem join_set (σ : Store) (o : Option SObj) (id i : Nat) (h : id < σ.length) : ((σ.set id o)[i]?).join = if i = id then o else (σ[i]?).join:=by
 by_cases h' : i = id
 ·subst h'; simp [h]
 ·rw [List.getElem?_set_ne (Ne.symm h'),if_neg h']

theorem step_push (ob : Obj) {ow : Own} (hb : ow.blk = w.heap.size) : Step w C (w.alloc ob) (C.push ow):=by
 refine ⟨Nat.le_succ _,fun id x hid hm=>?_,fun b i hst=>⟨World.cell?_alloc_lt w ob ⟨b,i,none⟩ hst.1,by simp [Nat.lt_succ_of_lt hst.1],fun id x hm he=>?_⟩,rfl,rfl,rfl,by simp,fun b hlt hn=>⟨RowKit.Below.heap_alloc w ob b hlt,fun id x hm=>?_⟩⟩
 ·simp only [Ctx.push] at hm
  rw [if_neg (by omega)] at hm
  exact hm
 ·simp only [Ctx.push] at hm
  split at hm
  ·cases hm; rw [hb] at he; have:=hst.1; omega
  ·exact hst.2 id x hm he
 ·simp only [Ctx.push] at hm
  split at hm
  ·cases hm; rw [hb]; omega
  ·exact hn id x hm

theorem StRel.push (h : StRel P W0 w C σ) {ob : Obj} {ow : Own} {so : SObj} (hb : ow.blk = w.heap.size) (hobj : ObjRel P (w.alloc ob) (C.push ow) (some so) (some ow)) :
  Step w C (w.alloc ob) (C.push ow) ∧ StRel P W0 (w.alloc ob) (C.push ow) (σ ++ [some so]):=by
 have hs : Step w C (w.alloc ob) (C.push ow):=step_push ob hb
 refine ⟨hs,h.change hs (fun i x hm=>?_) (by simp [Ctx.push,h.nx]) (fun i j x y hi hj he=>?_) (fun i x hm=>?_) (fun i=>?_)⟩
 ·simp only [Ctx.push] at hm
  split at hm
  ·cases hm; rw [hb]; exact h.base.size
  ·exact h.low i x hm
 ·simp only [Ctx.push] at hi hj
  split at hi
  ·split at hj
   ·omega
   ·cases hi; have:=h.lt hj; omega
  ·split at hj
   ·cases hj; have:=h.lt hi; omega
   ·exact h.inj i j x y hi hj he
 ·simp only [Ctx.push] at hm ⊢
  split at hm
  ·omega
  ·have:=h.dom i x hm; omega
 ·rw [join_push]
  simp only [Ctx.push]
  by_cases hi : i = σ.length
  ·left
   rw [if_pos hi,if_pos (by rw [h.nx]; exact hi)]
   exact hobj
  ·right
   rw [if_neg hi,if_neg (by rw [h.nx]; exact hi)]
   exact ⟨rfl,rfl,fun x hx=>RowKit.Below.heap_alloc w ob _ (h.lt hx)⟩

theorem StRel.kill (h : StRel P W0 w C σ) (id : Nat) (hid : id < σ.length) : Step w C w (C.kill id) ∧ StRel P W0 w (C.kill id) (σ.set id none):=by
 have hsub : ∀ i x,(C.kill id).m i = some x → C.m i = some x:=fun i x hm=>by
  simp only [Ctx.kill] at hm
  split at hm
  ·cases hm
  ·exact hm
 have hs : Step w C w (C.kill id) :=
  ⟨Nat.le_refl _,fun i x _ hm=>hsub i x hm,fun b i hst=>⟨rfl,hst.1,fun j x hm he=>hst.2 j x (hsub j x hm) he⟩,rfl,rfl,rfl,Nat.le_refl _,fun b _ hn=>⟨rfl,fun j x hm=>hn j x (hsub j x hm)⟩⟩
 refine ⟨hs,h.change hs (fun i x hm=>h.low i x (hsub i x hm)) (by simp [Ctx.kill,h.nx]) (fun i j x y hi hj he=>h.inj i j x y (hsub i x hi) (hsub j y hj) he) (fun i x hm=>h.dom i x (hsub i x hm)) (fun i=>?_)⟩
 rw [join_set _ _ _ _ hid]
 by_cases hi : i = id
 ·left; subst hi; simp [Ctx.kill,ObjRel]
 ·right
  rw [if_neg hi]
  exact ⟨rfl,by simp [Ctx.kill,hi],fun _ _=>rfl⟩

theorem step_setRow {id b base room : Nat} {te : TypeId} (hm : C.m id = some (.obj b te base room)) (arr : Array Value) : Step w C (w.setRow b arr) C:=by
 refine ⟨Nat.le_refl _,fun _ _ _ hm=>hm,fun b' i hst=>?_,rfl,rfl,rfl,by simp,fun b' hlt hn=>⟨setRow_other w b b' arr (fun e=>hn id _ hm (by simp [Own.blk,e])),hn⟩⟩
 have hne : b' ≠ b:=fun e=>by
  obtain ⟨_,_,_,e1,_⟩:=hst.2 id _ hm (by simp [Own.blk,e])
  cases e1
 exact ⟨cell_setRow_other w b arr ⟨b',i,none⟩ hne,by simpa using hst.1,hst.2⟩

theorem splice_nil (arr : Array Value) (off : Nat) (c : List Value) (h : c.length = arr.size) (h0 : off = 0) : splice arr off c = c.toArray:=by
 subst h0
 simp only [splice,List.take_zero,List.nil_append,Nat.zero_add]
 rw [List.drop_of_length_le (by simp [h])]
 simp

theorem splice_in {arr : Array Value} {o1 o2 : Nat} {c1 c : List Value} (h1 : o1 + c1.length ≤ arr.size) (h2 : o2 + c.length ≤ c1.length) (hat : ∀ (j : Nat) (u : Value),c1[j]? = some u → arr[o1 + j]? = some u) :
  splice arr o1 (splice c1.toArray o2 c).toList = splice arr (o1 + o2) c:=by
 have hsz:=splice_size (arr:=c1.toArray) (off:=o2) (l:=c) (by simpa using h2)
 have hl : (splice c1.toArray o2 c).toList.length = c1.length:=by simpa using hsz
 apply Array.ext_getElem?
 intro p
 rw [splice_get (by rw [hl]; exact h1),splice_get (by omega),hl]
 by_cases g1 : o1 ≤ p ∧ p < o1 + c1.length
 ·rw [if_pos g1,Array.getElem?_toList,splice_get (by simpa using h2)]
  by_cases g2 : o2 ≤ p - o1 ∧ p - o1 < o2 + c.length
  ·rw [if_pos g2,if_pos (by omega),show p - o1 - o2 = p - (o1 + o2) by omega]
  ·rw [if_neg g2,if_neg (by omega)]
   have hlt : p - o1 < c1.length:=by omega
   have:=hat (p - o1) _ (List.getElem?_eq_getElem hlt)
   rw [show o1 + (p - o1) = p by omega] at this
   rw [this,List.getElem?_toArray,List.getElem?_eq_getElem hlt]
 ·rw [if_neg g1,if_neg (by omega)]

theorem setAt_rel : ∀ (path : List Nat) (te t : TypeId) (off : Nat) (x v y : AV) (cs c : List Value),Rel P w C x cs → fits P te x → place P te path = some (t,off) → x.at path = some y → Rel P w C v c → fits P t v →
  off + c.length ≤ cs.length ∧ Rel P w C (x.setAt path v) (splice cs.toArray off c).toList ∧ fits P te (x.setAt path v)
 | [],te,t,off,x,v,y,cs,c,hr,hf,hp,hx,hv,hfv=>by
  simp only [place,Option.some.injEq,Prod.mk.injEq] at hp
  obtain ⟨rfl,rfl⟩:=hp
  have hl : c.length = cs.length:=by rw [hv.length_fits hfv,hr.length_fits hf]
  have e : x.setAt [] v = v:=by cases x <;> rfl
  rw [e,splice_nil _ _ _ (by simpa using hl) rfl]
  exact ⟨by omega,by simpa using hv,hfv⟩
 | k :: r,te,t,off,x,v,y,cs,c,hr,hf,hp,hx,hv,hfv=>by
  cases x with
  | agg t' fs =>
   simp only [AV.at] at hx
   obtain ⟨z,hz,hzv⟩:=Option.bind_eq_some_iff.1 hx
   obtain ⟨rfl,hfs⟩:=hf
   simp only [place] at hp
   obtain ⟨ts,hts,hp⟩:=Option.bind_eq_some_iff.1 hp
   obtain ⟨ty,hty,hp'⟩:=Option.bind_eq_some_iff.1 hp
   simp only [Option.map_eq_some_iff,Prod.mk.injEq,Prod.exists] at hp'
   obtain ⟨t1,o1,hpl,rfl,rfl⟩:=hp'
   obtain ⟨c1,r1,r2,r3,r4⟩:=hr.part hts hz hty
   obtain ⟨g1,g2,g3⟩:=setAt_rel r ty t1 o1 z v y c1 c r1 r3 hpl hzv hv hfv
   have hlen2 : (splice c1.toArray o1 c).toList.length = c1.length:=by
    have:=splice_size (arr:=c1.toArray) (off:=o1) (l:=c) (by simpa using g1)
    simpa using this
   obtain ⟨s1,s2⟩:=(hr.parts hts).set hty g2 g3
   rw [hlen2] at s1
   have hin:=splice_in (arr:=cs.toArray) (o1:=offAt P ts k) (o2:=o1) (c1:=c1) (c:=c) (by simpa using s1) g1 (fun j u hj=>by simpa using r4 j u hj)
   rw [hin] at s2
   have hset : (AV.agg t' fs).setAt (k :: r) v = .agg t' (fs.set k (z.setAt r v)):=by simp [AV.setAt,hz]
   rw [hset]
   exact ⟨by omega,s2.rel hts,rfl,hfs⟩
  | _=>simp [AV.at] at hx

theorem run_storeCells_atT (P : Program) (g o : Nat) (t : TypeId) (fz : Nat × Nat) : ∀ (vs : List Value) (i : Nat) (cur : Array Value) (w : World),w.heap[g]? = some (.cells cur t fz) → FrOk fz cur.size → o + i + vs.length ≤ cur.size → (∀ v ∈ vs,v.oneCell' = true) →
  (storeCells ⟨g,o,none⟩ vs i).run P w = .ok () (w.setRow g (cur.toList.take (o + i) ++ vs ++ cur.toList.drop (o + i + vs.length)).toArray)
 | [],i,cur,w,hg,_,_,_=>by
  simp only [storeCells,List.append_nil,List.length_nil,Nat.add_zero,List.take_append_drop,Array.toArray_toList]
  rw [setRow_self w g cur t fz hg]
  rfl
 | v :: rest,i,cur,w,hg,hfz,hl,h1=>by
  have hi : o + i < cur.size:=by simp at hl; omega
  have hadd : (⟨g,o,none⟩ : Addr).add i = ⟨g,o + i,none⟩:=by unfold Addr.add; split <;> simp_all
  have hcell : w.cell? ⟨g,o + i,none⟩ = some cur[o + i]:=by simp [World.cell?,hg,hi]
  have hfro : w.frozen? ⟨g,o + i,none⟩ = false:=by
   obtain ⟨lo,hi'⟩:=fz
   simp only [World.frozen?,hg,Bool.and_eq_false_iff,decide_eq_false_iff_not]
   rcases hfz with e | e
   ·cases e; right; omega
   ·left; simp only at e; omega
  have hst : (store ((⟨g,o,none⟩ : Addr).add i) v).run P w = .ok () (w.setRow g (cur.setIfInBounds (o + i) v)):=by
   rw [hadd,run_store P w _ v _ (h1 v (by simp)),hcell]
   simp [hfro,setCell_eq_setRow w g (o + i) cur t fz v hg]
  have ih:=run_storeCells_atT P g o t fz rest (i + 1) (cur.setIfInBounds (o + i) v) (w.setRow g (cur.setIfInBounds (o + i) v)) (setRow_heap w g cur _ t _ hg) (by simpa using hfz) (by simp at hl ⊢; omega) (fun x hx=>h1 x (by simp [hx]))
  simp only [storeCells,Sem.run_bind,hst,Result.andThen_ok,ih,setRow_setRow]
  congr 3
  have e:=list_seg_step cur.toList (o + i) v rest (by simp at hl ⊢; omega)
  simpa [Array.toList_setIfInBounds,Nat.add_assoc] using e

theorem store_ptr (hr : RelO P W0 o w C A a) {t : TypeId} {x y : Operand} {id i : Nat} {path : List Nat} {u v : AV} (ho : o.op = .store t x y) (hx : Is P W0 o A x (.ptr t id i path)) (hy : Is P W0 o A y v)
  (hl : look A.st id i path = some u) (hf : fits P t v) {te : TypeId} {xs : List AV} {z : AV} (hs : A.st[id]? = some (some (.cells te xs))) (hz : xs[i]? = some z) :
  ∃ w',(execOp a.eval o).run P w = .ok .skip w' ∧ Step w C w' C ∧ StRel P W0 w' C (A.st.set id (some (.cells te (xs.set i (z.setAt path v))))):=by
 obtain ⟨ad,hv,hid,hm⟩:=(hx w C a hr).ptr_inv
 obtain ⟨te',xs',z',hs',hz',hzv⟩:=look_inv hl
 rw [hs] at hs'
 cases hs'
 rw [hz] at hz'
 cases hz'
 obtain ⟨b,base,room,arr,t',fr,m1,m2,mf,m3,m4,cf,m5⟩:=hr.st.cells hs
 obtain ⟨b',te',base',room',off,e1,e2,rfl⟩:=hm _ m1
 cases e1
 obtain ⟨r1,r2,r3,r4⟩:=m5 i z hz
 have hyv:=hy w C a hr
 have hc:=hyv.cells hf
 obtain ⟨g1,g2,g3⟩:=setAt_rel path te t off z v u (cf i) _ r1 r3 e2 hzv hc hf
 have hi : i < xs.length:=(List.getElem?_eq_some_iff.1 hz).1
 have hcl : (a.eval y).cells.size = szOf P t:=by have:=hc.length_fits hf; simpa using this
 have hend : base + i * szOf P te + szOf P te ≤ arr.size:=by
  rw [m3,Nat.add_assoc,← Nat.succ_mul]
  exact Nat.le_trans (Nat.add_le_add_left (Nat.mul_le_mul_right _ hi) _) m4
 have hoff : off + (a.eval y).cells.toList.length ≤ szOf P te:=by rw [← r2]; exact g1
 have hfit : base + i * szOf P te + off + 0 + (a.eval y).cells.toList.length ≤ arr.size:=by omega
 have hst:=run_storeCells_atT P b (base + i * szOf P te + off) t' fr (a.eval y).cells.toList 0 arr w m2 mf hfit hc.oneCell
 simp only [Nat.add_zero] at hst hfit
 have hpos : 0 < szOf P t:=by
  cases v <;> simp only [fits,AV.isOne,Bool.false_eq_true,false_and] at hf
  case agg t1 fs =>
   obtain ⟨ts,hts⟩:=Option.isSome_iff_exists.1 hf.2
   exact flds_pos hts
  all_goals rw [(isAgg_of_prim hf.2 default).2]; omega
 obtain ⟨inf,hinf,hsz⟩:=szOf_info hpos
 have hstep:=step_setRow (w:=w) m1 (splice arr (base + i * szOf P te + off) (a.eval y).cells.toList)
 refine ⟨_,?_,hstep,?_⟩
 ·have e : splice arr (base + i * szOf P te + off) (a.eval y).cells.toList = (arr.toList.take (base + i * szOf P te + off) ++ (a.eval y).cells.toList ++ arr.toList.drop (base + i * szOf P te + off + (a.eval y).cells.toList.length)).toArray:=rfl
  rw [e]
  simp [execOp,ho,Instr.storeAt,Instr.sureAddr,hv,storeVar,sizeOf,typeInfo,hinf,hsz,hcl,hst]
 ·have hidl : id < A.st.length:=(List.getElem?_eq_some_iff.1 hs).1
  refine hr.st.change hstep hr.st.low (by simpa using hr.st.nx) hr.st.inj hr.st.dom (fun j=>?_)
  rw [join_set _ _ _ _ hidl]
  by_cases hj : j = id
  ·left
   subst hj
   rw [if_pos rfl,m1]
   have hsize : (splice arr (base + i * szOf P te + off) (a.eval y).cells.toList).size = arr.size:=splice_size hfit
   refine ⟨rfl,_,t',fr,setRow_heap w b arr _ t' _ m2,by rw [hsize]; exact mf,by rw [hsize,m3],by simpa using m4,fun q=>if q = i then (splice (cf i).toArray off (a.eval y).cells.toList).toList else cf q,fun q zq hq=>?_⟩
   by_cases hqi : q = i
   ·subst hqi
    simp only [List.getElem?_set_self hi,Option.some.injEq] at hq
    subst hq
    simp only [if_true]
    have hl2 : (splice (cf q).toArray off (a.eval y).cells.toList).toList.length = szOf P te:=(g2.mono hstep).length_fits g3
    refine ⟨g2.mono hstep,hl2,g3,fun j c hj=>?_⟩
    have hjl : j < szOf P te:=by rw [← hl2]; exact (List.getElem?_eq_some_iff.1 hj).1
    rw [Array.getElem?_toList,splice_get (by simpa using g1)] at hj
    rw [splice_get hfit]
    by_cases hin : off ≤ j ∧ j < off + (a.eval y).cells.toList.length
    ·rw [if_pos hin] at hj
     rw [if_pos (by omega),show base + q * szOf P te + j - (base + q * szOf P te + off) = j - off by omega]
     exact hj
    ·rw [if_neg hin] at hj
     rw [if_neg (by omega)]
     exact r4 j c (by simpa using hj)
   ·rw [List.getElem?_set_ne (Ne.symm hqi)] at hq
    simp only [hqi,if_false]
    obtain ⟨q1,q2,q3,q4⟩:=m5 q zq hq
    refine ⟨q1.mono hstep,q2,q3,fun j c hj=>?_⟩
    have hjl : j < szOf P te:=by rw [← q2]; exact (List.getElem?_eq_some_iff.1 hj).1
    rw [splice_get hfit,if_neg ?_]
    ·exact q4 j c hj
    ·rintro ⟨b1,b2⟩
     rcases Nat.lt_or_gt_of_ne hqi with hlt | hgt
     ·have : (q + 1) * szOf P te ≤ i * szOf P te:=Nat.mul_le_mul_right _ hlt
      rw [Nat.succ_mul] at this
      omega
     ·have : (i + 1) * szOf P te ≤ q * szOf P te:=Nat.mul_le_mul_right _ hgt
      rw [Nat.succ_mul] at this
      omega
  ·right
   rw [if_neg hj]
   refine ⟨rfl,rfl,fun x hx=>setRow_other w b x.blk _ (fun e=>hj (hr.st.inj j id x _ hx m1 (by simpa [Own.blk] using e)))⟩

end
end Go.Av
end
section
namespace Go.Av
open Go

section
variable {P : Program} {W0 w w' : World} {C C' : Ctx} {σ σ' : Store} {n : Nat} {A : AState} {a : Act} {o : Oper}

theorem box_obj (hr : RelO P W0 o w C A a) {t : TypeId} {x : Operand} {v : AV} (ho : o.op = .box t x) (hx : Is P W0 o A x v) (hf : fits P t v) :
  ∃ y w' C',(execOp a.eval o).run P w = .ok (.value y) w' ∧ RelV P w' C' (.ptr t A.st.length 0 []) y ∧ Step w C w' C' ∧ StRel P W0 w' C' (A.st ++ [some (.cells t [v])]):=by
 have hc:=(hx w C a hr).cells hf
 have hcl : (a.eval x).cells.size = szOf P t:=by have:=hc.length_fits hf; simpa using this
 obtain ⟨h1,h2⟩:=hr.st.push (ob:=.cells (a.eval x).cells t) (ow:=.obj w.heap.size t 0 (a.eval x).cells.size) (so:=.cells t [v]) rfl
  ⟨rfl,(a.eval x).cells,t,(0,0),heap_alloc_new w _,.inl rfl,rfl,by simp [hcl],fun _=>(a.eval x).cells.toList,fun i z hz=>by
   cases i with
   | zero =>
    simp at hz; subst hz
    refine ⟨?_,by simpa using hcl,hf,fun j c hj=>by simpa using hj⟩
    exact hc.mono (step_push _ rfl)
   | succ i=>simp at hz⟩
 refine ⟨.pointer (some ⟨w.heap.size,0,none⟩),_,_,?_,?_,h1,h2⟩
 ·simp only [execOp,ho,Instr.box,newVar,newRow,newObj,Sem.run_bind,Sem.run_pure]
  rfl
 ·refine .one rfl (.ptr (by simp [Ctx.push,hr.st.nx]) (fun ow how=>?_))
  simp only [Ctx.push,hr.st.nx,if_true,Option.some.injEq] at how
  subst how
  exact ⟨_,t,0,_,0,rfl,rfl,by simp⟩

theorem alloc_obj (hr : RelO P W0 o w C A a) {t : TypeId} {v : AV} (ho : o.op = .alloc t) (hz : zeroOf P t = some v) :
  ∃ y w' C',(execOp a.eval o).run P w = .ok (.value y) w' ∧ RelV P w' C' (.ptr t A.st.length 0 []) y ∧ Step w C w' C' ∧ StRel P W0 w' C' (A.st ++ [some (.cells t [v])]):=by
 obtain ⟨inf,z,hi,hiz,hc,hf⟩:=zeroOf_rel (w:=w) (C:=C) hz
 have hcl : z.cells.size = szOf P t:=by have:=hc.length_fits hf; simpa using this
 obtain ⟨h1,h2⟩:=hr.st.push (ob:=.cells z.cells t) (ow:=.obj w.heap.size t 0 z.cells.size) (so:=.cells t [v]) rfl
  ⟨rfl,z.cells,t,(0,0),heap_alloc_new w _,.inl rfl,rfl,by simp [hcl],fun _=>z.cells.toList,fun i y hy=>by
   cases i with
   | zero =>
    simp at hy; subst hy
    exact ⟨hc.mono (step_push _ rfl),by simpa using hcl,hf,fun j c hj=>by simpa using hj⟩
   | succ i=>simp at hy⟩
 refine ⟨.pointer (some ⟨w.heap.size,0,none⟩),_,_,?_,?_,h1,h2⟩
 ·simp only [execOp,ho,Instr.alloc,zeroValue,typeInfo,newVar,newRow,newObj,Sem.run_bind]
  simp [Sem.run,program,hi,hiz]
 ·refine .one rfl (.ptr (by simp [Ctx.push,hr.st.nx]) (fun ow how=>?_))
  simp only [Ctx.push,hr.st.nx,if_true,Option.some.injEq] at how
  subst how
  exact ⟨_,t,0,_,0,rfl,rfl,by simp⟩

theorem freeze_ptr (h : StRel P W0 w C σ) {t te : TypeId} {id i : Nat} {xs : List AV} {x : AV} {v : Value} (hv : RelV P w C (.ptr t id i []) v) (hs : σ[id]? = some (some (.cells te xs))) (hx : xs[i]? = some x) :
  RelV P w (C.kill id) (.loc t x) v:=by
 obtain ⟨ad,rfl,hid,hm⟩:=hv.ptr_inv
 obtain ⟨b,base,room,arr,t',fr,m1,m2,mf,m3,m4,cf,m5⟩:=h.cells hs
 obtain ⟨b',te',base',room',off,e1,e2,rfl⟩:=hm _ m1
 cases e1
 simp only [place,Option.some.injEq,Prod.mk.injEq] at e2
 obtain ⟨rfl,rfl⟩:=e2
 obtain ⟨r1,r2,r3,r4⟩:=m5 i x hx
 have hidl : id < σ.length:=(List.getElem?_eq_some_iff.1 hs).1
 obtain ⟨k1,k2⟩:=h.kill id hidl
 refine .one rfl (.loc (r1.mono k1) r3 r2 (fun j c hj=>⟨?_,Stable.free (Array.getElem?_eq_some_iff.1 m2).1 (fun q x hq he=>?_)⟩))
 ·have:=r4 j c hj
  rw [Nat.add_zero]
  simp [World.cell?,m2,this]
 ·simp only [Ctx.kill] at hq
  split at hq
  ·cases hq
  ·rename_i hne
   exact hne (h.inj q id x _ hq m1 (by simpa [Own.blk] using he))

theorem freeze_row (h : StRel P W0 w C σ) {e te : TypeId} {id off m : Nat} {xs : List AV} {v : Value} (hv : RelV P w C (.row e id off m) v) (hs : σ[id]? = some (some (.cells te xs))) (hm : off + m ≤ xs.length) :
  RelV P w (C.kill id) (.sl e ((xs.drop off).take m)) v:=by
 have hv':=hv.one_inv rfl
 obtain ⟨b,base,room,arr,t',fr,m1,m2,mf,m3,m4,cf,m5⟩:=h.cells hs
 have hidl : id < σ.length:=(List.getElem?_eq_some_iff.1 hs).1
 obtain ⟨k1,k2⟩:=h.kill id hidl
 have hlen : ((xs.drop off).take m).length = m:=by simp; omega
 have hget : ∀ i x,((xs.drop off).take m)[i]? = some x → xs[off + i]? = some x:=fun i x hx=>by
  rw [List.getElem?_take] at hx
  split at hx
  ·rwa [List.getElem?_drop] at hx
  ·cases hx
 cases hv' with
 | row h1 h2 h3 h4 =>
  obtain ⟨b',base',room',e1,e2,e3⟩:=h4 _ m1
  cases e1
  have hrel : Rel P w (C.kill id) (.sl e ((xs.drop off).take m)) [.slice _ ((xs.drop off).take m).length _] :=
   .sl (a:=_) (fun i=>cf (off + i)) (by rw [hlen]; exact h1) h2 (fun i x hx=>(m5 _ _ (hget i x hx)).1.mono k1) (fun i x hx=>⟨(m5 _ _ (hget i x hx)).2.1,(m5 _ _ (hget i x hx)).2.2.1⟩) (fun hpos=>by
    rw [hlen] at hpos
    refine ⟨b,base + off * szOf P e,e2 (by omega),fun i hi j c hj=>⟨?_,Stable.free (Array.getElem?_eq_some_iff.1 m2).1 (fun q x hq he=>?_)⟩⟩
    ·have hx:=List.getElem?_eq_getElem hi
     have:=(m5 _ _ (hget i _ hx)).2.2.2 j c hj
     rw [Nat.add_mul,← Nat.add_assoc] at this
     simp [World.cell?,m2,this]
    ·simp only [Ctx.kill] at hq
     split at hq
     ·cases hq
     ·rename_i hne
      exact hne (h.inj q id x _ hq m1 (by simpa [Own.blk] using he)))
  rw [hlen] at hrel
  exact .one rfl hrel

end
end Go.Av
end
section
namespace Go.Av
open Go

def decAt (l : List UInt8) (pos : Nat) : Nat × Nat:=Utf8.decode ⟨l.toArray⟩ pos

section
variable {P : Program} {W0 w w' : World} {C C' : Ctx} {σ σ' : Store} {n : Nat} {A : AState} {a : Act} {o : Oper}

theorem iter_obj (hr : RelO P W0 o w C A a) {t : TypeId} {x : Operand} {l : List UInt8} (ho : o.op = .range t x) (hx : Is P W0 o A x (.str l)) (ht : P.underlying t = some .string) :
  ∃ y w' C',(execOp a.eval o).run P w = .ok (.value y) w' ∧ RelV P w' C' (.it A.st.length) y ∧ Step w C w' C' ∧ StRel P W0 w' C' (A.st ++ [some (.iter l 0)]):=by
 have hv:=(hx w C a hr).str_inv.1
 obtain ⟨h1,h2⟩:=hr.st.push (ob:=.stringIter ⟨l.toArray⟩ 0) (ow:=.iter w.heap.size) (so:=.iter l 0) rfl (heap_alloc_new w _)
 refine ⟨.pointer (some ⟨w.heap.size,0,none⟩),_,_,?_,?_,h1,h2⟩
 ·simp only [execOp,ho,Instr.range,newObj,Sem.run_bind,run_underlying ht,Result.andThen_ok,hv,Sem.run_pure]
  rfl
 ·refine .one rfl (.it (by simp [Ctx.push,hr.st.nx]) (fun ow how=>?_))
  simp only [Ctx.push,hr.st.nx,if_true,Option.some.injEq] at how
  subst how
  exact ⟨_,rfl,rfl⟩

theorem StRel.iter (h : StRel P W0 w C σ) {id : Nat} {l : List UInt8} {pos : Nat} (hs : σ[id]? = some (some (.iter l pos))) : ∃ b,C.m id = some (.iter b) ∧ w.heap[b]? = some (.stringIter ⟨l.toArray⟩ pos):=by
 have ho:=h.obj id
 rw [hs] at ho
 simp only [Option.join_some] at ho
 cases hm : C.m id with
 | none=>rw [hm] at ho; exact ho.elim
 | some ow =>
  rw [hm] at ho
  cases ow with
  | iter b=>exact ⟨b,rfl,ho⟩
  | _=>exact ho.elim

theorem it_inv {id : Nat} {v : Value} (h : RelV P w C (.it id) v) : ∃ ad,v = .pointer (some ad) ∧ ∀ ow,C.m id = some ow → ∃ b,ow = .iter b ∧ ad = ⟨b,0,none⟩:=by
 have:=h.one_inv rfl
 cases this with
 | it h1 h2=>exact ⟨_,rfl,h2⟩

theorem iter_over (hr : RelO P W0 o w C A a) {x : Operand} {id : Nat} {l : List UInt8} {pos : Nat} (ho : o.op = .next x true) (hx : Is P W0 o A x (.it id)) (hs : A.st[id]? = some (some (.iter l pos))) (hp : l.length ≤ pos) :
  ∃ y,(execOp a.eval o).run P w = .ok (.value y) w ∧ RelV P w C (.tup [.bool false]) y:=by
 obtain ⟨ad,hv,hm⟩:=it_inv (hx w C a hr)
 obtain ⟨b,hc,hb⟩:=hr.st.iter hs
 obtain ⟨b',e,rfl⟩:=hm _ hc
 cases e
 have hsz : ¬ pos < (⟨l.toArray⟩ : ByteArray).size:=by show ¬ pos < l.toArray.size; simp; omega
 refine ⟨.tuple #[.bool false],?_,.tup (vs:=[.bool false]) rfl (fun i u z hu hz=>?_)⟩
 ·simp only [execOp,ho,Instr.next,hv,getObj,Sem.run_bind]
  simp [Sem.run,hb,hsz,Result.andThen]
 ·cases i with
  | zero=>simp at hu hz; subst hu hz; exact .one rfl (.bool _)
  | succ i=>simp at hu

theorem iter_next (hr : RelO P W0 o w C A a) {x : Operand} {id : Nat} {l : List UInt8} {pos : Nat} (ho : o.op = .next x true) (hx : Is P W0 o A x (.it id)) (hs : A.st[id]? = some (some (.iter l pos))) (hp : pos < l.length) :
  ∃ y w',(execOp a.eval o).run P w = .ok (.value y) w' ∧ RelV P w' C (.tup [.bool true,.int .i64 pos,.int .i32 (decAt l pos).1]) y ∧ Step w C w' C ∧ StRel P W0 w' C (A.st.set id (some (.iter l (pos + (decAt l pos).2)))):=by
 obtain ⟨ad,hv,hm⟩:=it_inv (hx w C a hr)
 obtain ⟨b,hc,hb⟩:=hr.st.iter hs
 obtain ⟨b',e,rfl⟩:=hm _ hc
 cases e
 have hsz : pos < (⟨l.toArray⟩ : ByteArray).size:=by show pos < l.toArray.size; simpa using hp
 have hblt : b < w.heap.size:=(Array.getElem?_eq_some_iff.1 hb).1
 have hidl : id < A.st.length:=(List.getElem?_eq_some_iff.1 hs).1
 have hother : ∀ (b' : Nat),b' ≠ b → (w.heap.setIfInBounds b (.stringIter ⟨l.toArray⟩ (pos + (decAt l pos).2)))[b']? = w.heap[b']?:=fun b' hne=>by
  rw [Array.getElem?_setIfInBounds_ne (Ne.symm hne)]
 have hstep : Step w C { w with heap:=w.heap.setIfInBounds b (.stringIter ⟨l.toArray⟩ (pos + (decAt l pos).2)) } C:=by
  refine ⟨Nat.le_refl _,fun _ _ _ hm=>hm,fun b' i hst=>?_,rfl,rfl,rfl,by simp,fun b' hlt hn=>⟨hother b' (fun e=>hn id _ hc (by simp [Own.blk,e])),hn⟩⟩
  have hne : b' ≠ b:=fun e=>by
   obtain ⟨_,_,_,e1,_⟩:=hst.2 id _ hc (by simp [Own.blk,e])
   cases e1
  refine ⟨?_,by simpa using hst.1,hst.2⟩
  simp only [World.cell?,hother b' hne]
 refine ⟨.tuple #[.bool true,goInt pos,.int .i32 (decAt l pos).1],_,?_,.tup (vs:=[.bool true,goInt pos,.int .i32 (decAt l pos).1]) rfl (fun i u z hu hz=>?_),hstep,?_⟩
 ·simp only [execOp,ho,Instr.next,hv,getObj,setObj,Sem.run_bind]
  simp [Sem.run,hb,hsz,Result.andThen,decAt]
 ·match i with
  | 0=>simp at hu hz; subst hu hz; exact .one rfl (.bool _)
  | 1=>simp [goInt] at hu hz; subst hu hz; exact .one rfl (.int _ _)
  | 2=>simp at hu hz; subst hu hz; exact .one rfl (.int _ _)
  | i + 3=>simp at hu
 ·refine hr.st.change hstep hr.st.low (by simpa using hr.st.nx) hr.st.inj hr.st.dom (fun j=>?_)
  rw [join_set _ _ _ _ hidl]
  by_cases hj : j = id
  ·left
   subst hj
   rw [if_pos rfl,hc]
   show _ = _
   simp [hblt]
  ·right
   rw [if_neg hj]
   refine ⟨rfl,rfl,fun y hy=>hother y.blk (fun e=>hj (hr.st.inj j id y _ hy hc (by simpa [Own.blk] using e)))⟩

end
end Go.Av
end
section
namespace Go.Av
open Go

section
variable {P : Program} {W0 w w' : World} {C C' : Ctx} {σ σ' : Store} {n : Nat} {A : AState} {a : Act} {o : Oper}

theorem map_new (hr : RelO P W0 o w C A a) {t : TypeId} (ho : o.op = .makeMap t none) (kt : TypeId) :
  ∃ y w' C',(execOp a.eval o).run P w = .ok (.value y) w' ∧ RelV P w' C' (.mp A.st.length) y ∧ Step w C w' C' ∧ StRel P W0 w' C' (A.st ++ [some (.mp kt [])]):=by
 obtain ⟨h1,h2⟩:=hr.st.push (ob:=.map #[] 0) (ow:=.mp w.heap.size) (so:=.mp kt []) rfl ⟨#[],0,heap_alloc_new w _,by simp,by simp,by simp⟩
 refine ⟨.map (some w.heap.size),_,_,?_,?_,h1,h2⟩
 ·simp only [execOp,ho,Instr.makeMap,newObj,Sem.run_bind,Sem.run_pure]
  rfl
 ·refine .one rfl (.mp (by simp [Ctx.push,hr.st.nx]) (fun ow how=>?_))
  simp only [Ctx.push,hr.st.nx,if_true,Option.some.injEq] at how
  exact how.symm

theorem map_put (hr : RelO P W0 o w C A a) {t kt vt : TypeId} {x ix y : Operand} {u k v : AV} {id : Nat} {l : List (AV × AV)} (ho : o.op = .mapUpdate t x ix y) (hx : Is P W0 o A x (.mp id)) (hi : Is P W0 o A ix k) (hy : Is P W0 o A y v)
  (ht : mapT P t = some (kt,vt)) (K : Maps.Keyed P kt) (hk : keyC P kt k) (hv : (rig1 v).isSome = true) (hs : A.st[id]? = some (some (.mp kt l))) :
  ∃ w',(execOp a.eval o).run P w = .ok .skip w' ∧ Step w C w' C ∧ StRel P W0 w' C (A.st.set id (some (.mp kt (mset P l k v)))):=by
 obtain ⟨r,hvx,hm⟩:=mp_inv (hx w C a hr)
 obtain ⟨b,hc,es,clock,hb,hd,he1,he2⟩:=hr.st.mp hs
 have hrb : b = r:=by cases hm _ hc; rfl
 subst hrb
 obtain ⟨kv,q,hkv,hq⟩:=hk
 have hkey:=rig_rel hkv (hi w C a hr)
 obtain ⟨vv,hvv⟩:=Option.isSome_iff_exists.1 hv
 have hval : a.eval y = vv:=rig1_rel hvv ((hy w C a hr).one_inv (rig1_one hvv))
 have hu:=mapT_inv ht
 have hblt : b < w.heap.size:=(Array.getElem?_eq_some_iff.1 hb).1
 have hidl : id < A.st.length:=(List.getElem?_eq_some_iff.1 hs).1
 have hother : ∀ (ob : Obj) (b' : Nat),b' ≠ b → (w.heap.setIfInBounds b ob)[b']? = w.heap[b']?:=fun ob b' hne=>by
  rw [Array.getElem?_setIfInBounds_ne (Ne.symm hne)]
 have hstep : ∀ ob : Obj,Step w C { w with heap:=w.heap.setIfInBounds b ob } C:=fun ob=>by
  refine ⟨Nat.le_refl _,fun _ _ _ hm=>hm,fun b' i hst=>?_,rfl,rfl,rfl,by simp,fun b' hlt hn=>⟨hother ob b' (fun e=>hn id _ hc (by simp [Own.blk,e])),hn⟩⟩
  have hne : b' ≠ b:=fun e=>by
   obtain ⟨_,_,_,e1,_⟩:=hst.2 id _ hc (by simp [Own.blk,e])
   cases e1
  refine ⟨?_,by simpa using hst.1,hst.2⟩
  simp only [World.cell?,hother ob b' hne]
 have fin : ∀ (es' : Array MapEntry) (clock' : Nat),MapRel P { w with heap:=w.heap.setIfInBounds b (.map es' clock') } kt (mset P l k v) b → StRel P W0 { w with heap:=w.heap.setIfInBounds b (.map es' clock') } C (A.st.set id (some (.mp kt (mset P l k v)))):=fun es' clock' hmr=>by
  refine hr.st.change (hstep _) hr.st.low (by simpa using hr.st.nx) hr.st.inj hr.st.dom (fun j=>?_)
  rw [join_set _ _ _ _ hidl]
  by_cases hj : j = id
  ·left
   subst hj
   rw [if_pos rfl,hc]
   exact hmr
  ·right
   rw [if_neg hj]
   refine ⟨rfl,rfl,fun y hy=>hother _ y.blk (fun e=>hj (hr.st.inj j id y _ hy hc (by simpa [Own.blk] using e)))⟩
 have old : ∀ p,p ∈ mset P l k v ↔ (p ∈ l ∧ rig P p.1 ≠ some kv) ∨ p = (k,v):=fun p=>by
  simp only [mset,List.mem_append,List.mem_filter,List.mem_singleton,decide_eq_true_eq,hkv]
 rcases K.find w hq es.toList (fun e he=>(he1 e he).1) with ⟨h1,h2⟩ | ⟨j,e,h1,h2,h3⟩
 ·refine ⟨_,?_,hstep _,fin (es.push ⟨kv,vv,clock⟩) (clock + 1) ⟨es.push ⟨kv,vv,clock⟩,clock + 1,by simp [hblt],?_,fun f hf=>?_,fun p hp=>?_⟩⟩
  ·simp [execOp,ho,hvx,hkey,hval,Instr.mapUpdate,run_underlying hu,MapKept.run_getObj_map hb,K.check w false hq,h1,MapKept.run_setObj_map _ hb,Result.andThen]
  ·rw [Array.toList_push,List.pairwise_append]
   refine ⟨hd,by simp,fun e he f hf=>?_⟩
   rw [List.mem_singleton.1 hf]
   exact h2 e he
  ·rw [Array.toList_push,List.mem_append,List.mem_singleton] at hf
   rcases hf with hf | rfl
   ·obtain ⟨g1,p,g2,g3,g4⟩:=he1 f hf
    exact ⟨g1,p,(old p).2 (.inl ⟨g2,fun e=>h2 f hf (by rw [g3] at e; exact Option.some.inj e)⟩),g3,g4⟩
   ·exact ⟨⟨q,hq⟩,(k,v),(old _).2 (.inr rfl),hkv,hvv⟩
  ·rcases (old p).1 hp with ⟨g1,g2⟩ | rfl
   ·obtain ⟨f,hf,g3⟩:=he2 p g1
    exact ⟨f,by rw [Array.toList_push]; exact List.mem_append_left _ hf,g3⟩
   ·exact ⟨⟨kv,vv,clock⟩,by simp,hkv,hvv⟩
 ·have hj : es[j]? = some e:=by simpa using h2
  have hlist : (es.modify j fun f=>{ f with key:=kv,val:=vv }).toList = es.toList.set j { e with key:=kv,val:=vv }:=by
   rw [Array.toList_modify]
   refine List.ext_getElem? fun q=>?_
   rw [List.getElem?_modify,List.getElem?_set]
   by_cases hq' : j = q
   ·subst hq'
    obtain ⟨hjl',hje⟩:=Array.getElem?_eq_some_iff.1 hj
    simp [hjl',hje]
   ·simp [hq']
  have hjl : j < es.toList.length:=(List.getElem?_eq_some_iff.1 h2).1
  have hem : e ∈ es.toList:=List.mem_of_getElem? h2
  have hin : ∀ f,f ∈ es.toList.set j { e with key:=kv,val:=vv } ↔ (f ∈ es.toList ∧ f.key ≠ kv) ∨ f = { e with key:=kv,val:=vv }:=fun f=>by
   constructor
   ·intro hf
    obtain ⟨i,hi⟩:=List.mem_iff_getElem?.1 hf
    by_cases hij : j = i
    ·subst hij
     rw [List.getElem?_set_self hjl] at hi
     exact .inr (Option.some.inj hi).symm
    ·rw [List.getElem?_set_ne hij] at hi
     refine .inl ⟨List.mem_of_getElem? hi,fun hk=>hij ?_⟩
     have hfe:=pair_uniq hd (List.mem_of_getElem? hi) hem (by rw [hk,h3])
     subst hfe
     have hnd : es.toList.Nodup:=hd.imp fun h e=>h (by rw [e])
     exact (List.getElem?_inj hjl hnd).1 (by rw [h2,hi])
   ·rintro (⟨hf,hk⟩ | rfl)
    ·obtain ⟨i,hi⟩:=List.mem_iff_getElem?.1 hf
     have hij : j ≠ i:=fun e1=>by
      subst e1
      rw [h2] at hi
      cases hi
      exact hk h3
     exact List.mem_of_getElem? (i:=i) (by rw [List.getElem?_set_ne hij]; exact hi)
    ·exact List.mem_of_getElem? (i:=j) (by rw [List.getElem?_set_self hjl])
  have hst:=K.stays w hq
  refine ⟨_,?_,hstep _,fin (es.modify j fun f=>{ f with key:=kv,val:=vv }) clock ⟨es.modify j fun f=>{ f with key:=kv,val:=vv },clock,by simp [hblt],?_,fun f hf=>?_,fun p hp=>?_⟩⟩
  ·simp [execOp,ho,hvx,hkey,hval,Instr.mapUpdate,run_underlying hu,MapKept.run_getObj_map hb,K.check w false hq,h1,hj,h3,hst,MapKept.run_setObj_map _ hb,Result.andThen]
  ·rw [hlist,List.pairwise_iff_getElem]
   intro i m hi hm him
   rw [List.length_set] at hi hm
   have base:=List.pairwise_iff_getElem.1 hd i m hi hm him
   rw [List.getElem_set,List.getElem_set]
   have ej : es.toList[j] = e:=by rw [List.getElem?_eq_getElem hjl] at h2; exact Option.some.inj h2
   split
   ·rename_i e1
    split
    ·omega
    ·subst e1
     rw [ej,h3] at base
     exact base
   ·split
    ·rename_i e1
     subst e1
     rw [ej,h3] at base
     exact base
    ·exact base
  ·rw [hlist,hin] at hf
   rcases hf with ⟨hf,hne⟩ | rfl
   ·obtain ⟨g1,p,g2,g3,g4⟩:=he1 f hf
    exact ⟨g1,p,(old p).2 (.inl ⟨g2,fun e=>hne (by rw [g3] at e; exact Option.some.inj e)⟩),g3,g4⟩
   ·exact ⟨⟨q,hq⟩,(k,v),(old _).2 (.inr rfl),hkv,hvv⟩
  ·rcases (old p).1 hp with ⟨g1,g2⟩ | rfl
   ·obtain ⟨f,hf,g3,g4⟩:=he2 p g1
    exact ⟨f,by rw [hlist,hin]; exact .inl ⟨hf,fun e=>g2 (by rw [g3,e])⟩,g3,g4⟩
   ·exact ⟨{ e with key:=kv,val:=vv },by rw [hlist,hin]; exact .inr rfl,hkv,hvv⟩
end
end Go.Av
end
section
namespace Go.Av
open Go

inductive IdsLt (n : Nat) : AV → Prop
 | undef : IdsLt n .undef
 | int (k m) : IdsLt n (.int k m)
 | bool (b) : IdsLt n (.bool b)
 | str (l) : IdsLt n (.str l)
 | nil : IdsLt n .nil
 | nils : IdsLt n .nils
 | nilm : IdsLt n .nilm
 | niface : IdsLt n .niface
 | iface {t v} : IdsLt n v → IdsLt n (.iface t v)
 | sl {e xs} : (∀ x ∈ xs,IdsLt n x) → IdsLt n (.sl e xs)
 | lit {e xs} : (∀ x ∈ xs,IdsLt n x) → IdsLt n (.lit e xs)
 | own {e xs tok} : tok < n → (∀ x ∈ xs,IdsLt n x) → IdsLt n (.own e xs tok)
 | row {e id off m} : id < n → IdsLt n (.row e id off m)
 | agg {t fs} : (∀ x ∈ fs,IdsLt n x) → IdsLt n (.agg t fs)
 | loc {t v} : IdsLt n v → IdsLt n (.loc t v)
 | ptr {t id i path} : id < n → IdsLt n (.ptr t id i path)
 | it {id} : id < n → IdsLt n (.it id)
 | mp {id} : id < n → IdsLt n (.mp id)
 | fn {f caps} : (∀ x ∈ caps,IdsLt n x) → IdsLt n (.fn f caps)
 | tup {vs} : (∀ x ∈ vs,IdsLt n x) → IdsLt n (.tup vs)
 | maybe {g v} : IdsLt n v → IdsLt n (.maybe g v)

inductive Sub : AV → AV → Prop
 | refl (x) : Sub x x
 | trans {x y z} : Sub x y → Sub y z → Sub x z
 | own (e xs tok) : Sub (.own e xs tok) (.sl e xs)
 | lit (e xs) : Sub (.lit e xs) (.sl e xs)
 | nils (e) : Sub .nils (.sl e [])
 | agg {t} {xs ys : List AV} : xs.length = ys.length → (∀ (i : Nat) (x y : AV),xs[i]? = some x → ys[i]? = some y → Sub x y) → Sub (.agg t xs) (.agg t ys)
 | sls {e} {xs ys : List AV} : xs.length = ys.length → (∀ (i : Nat) (x y : AV),xs[i]? = some x → ys[i]? = some y → Sub x y) → Sub (.sl e xs) (.sl e ys)
 | lits {e} {xs ys : List AV} : xs.length = ys.length → (∀ (i : Nat) (x y : AV),xs[i]? = some x → ys[i]? = some y → Sub x y) → Sub (.lit e xs) (.lit e ys)
 | owns {e tok} {xs ys : List AV} : xs.length = ys.length → (∀ (i : Nat) (x y : AV),xs[i]? = some x → ys[i]? = some y → Sub x y) → Sub (.own e xs tok) (.own e ys tok)
 | loc {t x y} : Sub x y → Sub (.loc t x) (.loc t y)

inductive Weak : AV → AV → Prop
 | sub {x y} : Sub x y → Weak x y
 | refl (x) : Weak x x
 | own (e xs tok) : Weak (.own e xs tok) (.sl e xs)
 | lit (e xs) : Weak (.lit e xs) (.sl e xs)
 | nils (e) : Weak .nils (.sl e [])
 | undef (x) : Weak x .undef
 | trans {x y z} : Weak x y → Weak y z → Weak x z
 | tup {xs ys : List AV} : xs.length = ys.length → (∀ (i : Nat) (x y : AV),xs[i]? = some x → ys[i]? = some y → Weak x y) → Weak (.tup xs) (.tup ys)

section
variable {P : Program} {W0 w w' : World} {C C' : Ctx} {σ σ' : Store} {n : Nat} {A : AState} {a : Act} {o : Oper}

theorem Rel.idsLt {x : AV} {cs : List Value} (h : Rel P w C x cs) : IdsLt C.nx x:=by
 have mem : ∀ {xs : List AV} {cf : Nat → List Value},(∀ (i : Nat) (x : AV),xs[i]? = some x → IdsLt C.nx x) → ∀ x ∈ xs,IdsLt C.nx x:=fun {xs cf} h x hx=>by
  obtain ⟨i,hi,he⟩:=List.getElem_of_mem hx
  exact h i x (by rw [← he]; exact List.getElem?_eq_getElem hi)
 induction h with
 | int k n=>exact .int k n
 | bool b=>exact .bool b
 | str=>exact .str _
 | nil=>exact .nil
 | nils=>exact .nils
 | nilm=>exact .nilm
 | niface=>exact .niface
 | iface _ _ ih=>exact .iface ih
 | sl cf _ _ _ _ _ ih=>exact .sl (mem (cf:=cf) ih)
 | lit cf _ _ _ _ ih=>exact .lit (mem (cf:=cf) ih)
 | own cf _ _ _ _ _ h6 _ ih=>exact .own h6 (mem (cf:=cf) ih)
 | row _ _ h3=>exact .row h3
 | agg cf _ _ _ _ _ _ ih=>exact .agg (mem (cf:=cf) ih)
 | loc _ _ _ _ ih=>exact .loc ih
 | ptr h1=>exact .ptr h1
 | it h1=>exact .it h1
 | mp h1=>exact .mp h1
 | fn h1 h2 h3 ih =>
  refine .fn (mem (cf:=fun _=>[]) fun i x hx=>?_)
  have hi:=(List.getElem?_eq_some_iff.1 hx).1
  exact ih i x _ hx (List.getElem?_eq_getElem (by rw [← h1]; exact hi))

theorem idsLt_mono {m : Nat} (hm : n ≤ m) {x : AV} (h : IdsLt n x) : IdsLt m x:=by
 induction h with
 | undef=>exact .undef
 | int k n=>exact .int k n
 | bool b=>exact .bool b
 | str=>exact .str _
 | nil=>exact .nil
 | nils=>exact .nils
 | nilm=>exact .nilm
 | niface=>exact .niface
 | iface _ ih=>exact .iface ih
 | sl _ ih=>exact .sl ih
 | lit _ ih=>exact .lit ih
 | own h1 _ ih=>exact .own (Nat.lt_of_lt_of_le h1 hm) ih
 | row h1=>exact .row (Nat.lt_of_lt_of_le h1 hm)
 | agg _ ih=>exact .agg ih
 | loc _ ih=>exact .loc ih
 | ptr h1=>exact .ptr (Nat.lt_of_lt_of_le h1 hm)
 | it h1=>exact .it (Nat.lt_of_lt_of_le h1 hm)
 | mp h1=>exact .mp (Nat.lt_of_lt_of_le h1 hm)
 | fn _ ih=>exact .fn ih
 | tup _ ih=>exact .tup ih
 | maybe _ ih=>exact .maybe ih

def Ctx.upTo (C : Ctx) (n : Nat) : Ctx:={ m:=fun i=>if i < n then C.m i else none,nx:=n }

theorem upTo_sub {i : Nat} {ow : Own} (h : (C.upTo n).m i = some ow) : i < n ∧ C.m i = some ow:=by
 simp only [Ctx.upTo] at h
 split at h
 ·exact ⟨by assumption,h⟩
 ·cases h

theorem Stable.upTo {b i : Nat} (h : Stable w C b i) (n : Nat) : Stable w (C.upTo n) b i:=⟨h.1,fun id ow hm he=>h.2 id ow (upTo_sub hm).2 he⟩

theorem Rel.upTo {x : AV} {cs : List Value} (h : Rel P w C x cs) (hi : IdsLt n x) : Rel P w (C.upTo n) x cs:=by
 have hcells : ∀ {b off : Nat} {cs : List Value},Cells w C b off cs → Cells w (C.upTo n) b off cs:=fun hc j c hj=>⟨(hc j c hj).1,(hc j c hj).2.upTo n⟩
 have hreads : ∀ {size m : Nat} {a : Option Addr} {cf : Nat → List Value},SlReads w C size a m cf → SlReads w (C.upTo n) size a m cf:=fun hr hm=>by
  obtain ⟨b,off,e,hc⟩:=hr hm
  exact ⟨b,off,e,fun i hi=>hcells (hc i hi)⟩
 induction h with
 | int k n=>exact .int k n
 | bool b=>exact .bool b
 | str h=>exact .str h
 | nil=>exact .nil
 | nils=>exact .nils
 | nilm=>exact .nilm
 | niface=>exact .niface
 | iface h1 _ ih=>cases hi with | iface hi=>exact .iface h1 (ih hi)
 | sl cf h1 h2 _ h4 h5 ih=>cases hi with | sl hi=>exact .sl cf h1 h2 (fun i x hx=>ih i x hx (hi x (List.mem_of_getElem? hx))) h4 (hreads h5)
 | lit cf h1 _ h4 h5 ih=>cases hi with | lit hi=>exact .lit cf h1 (fun i x hx=>ih i x hx (hi x (List.mem_of_getElem? hx))) h4 (hreads h5)
 | own cf h1 h2 _ h4 h5 h6 h7 ih=>cases hi with | own ht hi=>exact .own cf h1 h2 (fun i x hx=>ih i x hx (hi x (List.mem_of_getElem? hx))) h4 (hreads h5) ht (fun ow how=>h7 ow (upTo_sub how).2)
 | row h1 h2 h3 h4=>cases hi with | row hi=>exact .row h1 h2 hi (fun ow how=>h4 ow (upTo_sub how).2)
 | agg cf h1 h2 h3 h4 _ h6 ih=>cases hi with | agg hi=>exact .agg cf h1 h2 h3 h4 (fun i x hx=>ih i x hx (hi x (List.mem_of_getElem? hx))) h6
 | loc _ h2 h3 h4 ih=>cases hi with | loc hi=>exact .loc (ih hi) h2 h3 (hcells h4)
 | ptr h1 h2=>cases hi with | ptr hi=>exact .ptr hi (fun ow how=>h2 ow (upTo_sub how).2)
 | it h1 h2=>cases hi with | it hi=>exact .it hi (fun ow how=>h2 ow (upTo_sub how).2)
 | mp h1 h2=>cases hi with | mp hi=>exact .mp hi (fun ow how=>h2 ow (upTo_sub how).2)
 | fn h1 h2 _ ih=>cases hi with | fn hi=>exact .fn h1 h2 (fun i c v hc hv=>ih i c v hc hv (hi c (List.mem_of_getElem? hc)))

theorem RelV.upTo {x : AV} {v : Value} (h : RelV P w C x v) (hi : IdsLt n x) : RelV P w (C.upTo n) x v:=by
 induction h with
 | undef v=>exact .undef v
 | maybe _ h2 ih=>cases hi with | maybe hi=>exact .maybe (fun g=>ih g hi) h2
 | tup h1 _ ih=>cases hi with | tup hi=>exact .tup h1 (fun i a v ha hv=>ih i a v ha hv (hi a (List.mem_of_getElem? ha)))
 | agg h1=>exact .agg (h1.upTo hi)
 | one h1 h2=>exact .one h1 (h2.upTo hi)

theorem StRel.upTo (h : StRel P W0 w C σ) (hn : n ≤ σ.length) (hi : ∀ id te xs,id < n → σ[id]? = some (some (.cells te xs)) → ∀ x ∈ xs,IdsLt n x) : StRel P W0 w (C.upTo n) (σ.take n):=by
 refine ⟨h.base,fun i ow hm=>h.low i ow (upTo_sub hm).2,by simp [Ctx.upTo]; omega,fun i j a b ha hb he=>h.inj i j a b (upTo_sub ha).2 (upTo_sub hb).2 he,fun i ow hm=>(upTo_sub hm).1,fun i=>?_⟩
 by_cases hin : i < n
 ·have e1 : (σ.take n)[i]? = σ[i]?:=by rw [List.getElem?_take,if_pos hin]
  have e2 : (C.upTo n).m i = C.m i:=by simp [Ctx.upTo,hin]
  rw [e1,e2]
  have ho:=h.obj i
  unfold ObjRel at ho ⊢
  split at ho
  ·trivial
  ·rename_i te xs b te' base room hs hm
   have hs' : σ[i]? = some (some (.cells te xs)):=by
    cases hσ : σ[i]? with
    | none=>rw [hσ] at hs; cases hs
    | some q=>rw [hσ] at hs; simp at hs; rw [hs]
   obtain ⟨h1,arr,t',fr,h2,hf,h3,h4,cf,h5⟩:=ho
   refine ⟨h1,arr,t',fr,h2,hf,h3,h4,cf,fun q x hx=>?_⟩
   obtain ⟨r1,r2,r3,r4⟩:=h5 q x hx
   exact ⟨r1.upTo (hi i te xs hin hs' x (List.mem_of_getElem? hx)),r2,r3,r4⟩
  ·exact ho
  ·exact ho
  ·exact ho
  ·exact ho.elim
 ·have e1 : ((σ.take n)[i]?).join = none:=by rw [List.getElem?_take,if_neg hin]; rfl
  have e2 : (C.upTo n).m i = none:=by simp [Ctx.upTo,hin]
  rw [e1,e2]
  trivial

theorem Step.upTo (h : Step w C w' C') (hn : C.nx ≤ n) : Step w C w' (C'.upTo n) where
 nx:=hn
 dead:=fun id ow hid hm=>h.dead id ow hid (upTo_sub hm).2
 stable:=fun b i hs=>⟨(h.stable b i hs).1,(h.stable b i hs).2.upTo n⟩
 os:=h.os
 tape:=h.tape
 output:=h.output
 size:=h.size
 block:=fun b hb hf=>⟨(h.block b hb hf).1,fun id ow hm=>(h.block b hb hf).2 id ow (upTo_sub hm).2⟩

theorem StRel.ids (h : StRel P W0 w C σ) {id : Nat} {te : TypeId} {xs : List AV} (hs : σ[id]? = some (some (.cells te xs))) : ∀ x ∈ xs,IdsLt σ.length x:=fun x hx=>by
 obtain ⟨b,base,room,arr,t',fr,m1,m2,mf,m3,m4,cf,m5⟩:=h.cells hs
 obtain ⟨i,hi,he⟩:=List.getElem_of_mem hx
 rw [← h.nx]
 exact (m5 i x (by rw [← he]; exact List.getElem?_eq_getElem hi)).1.idsLt

theorem Rel.sl_weak {e : TypeId} {xs : List AV} {x : AV} {cs : List Value} (h : Rel P w C x cs) (hx : x = .lit e xs ∨ ∃ tok,x = .own e xs tok) : Rel P w C (.sl e xs) cs:=by
 rcases hx with rfl | ⟨tok,rfl⟩
 ·cases h with | lit cf h1 h3 h4 h5=>exact .sl cf (Nat.le_refl _) h1 h3 h4 h5
 ·cases h with | own cf h1 h2 h3 h4 h5=>exact .sl cf h1 h2 h3 h4 h5

theorem Rel.nils_weak {e : TypeId} {cs : List Value} (h : Rel P w C .nils cs) : Rel P w C (.sl e []) cs:=by
 cases h
 exact .sl (xs:=[]) (fun _=>[]) (Nat.le_refl _) (Nat.zero_le _) (by simp) (by simp) (fun hp=>absurd hp (by simp))

theorem Sub.one {x y : AV} (h : Sub x y) : y.isOne = x.isOne:=by
 induction h with
 | trans _ _ ih1 ih2=>exact ih2.trans ih1
 | _=>rfl

theorem Sub.cases3 {x y : AV} (h : Sub x y) : x = y ∨ (x.isOne = true ∧ y.isOne = true) ∨ ∃ t fs fs',x = .agg t fs ∧ y = .agg t fs':=by
 induction h with
 | refl=>exact .inl rfl
 | trans _ _ ih1 ih2 =>
  rcases ih1 with rfl | ⟨h1,h2⟩ | ⟨t,fs,fs',rfl,rfl⟩
  ·exact ih2
  ·rcases ih2 with rfl | ⟨h3,h4⟩ | ⟨t,fs,fs',rfl,rfl⟩
   ·exact .inr (.inl ⟨h1,h2⟩)
   ·exact .inr (.inl ⟨h1,h4⟩)
   ·simp [AV.isOne] at h2
  ·rcases ih2 with rfl | ⟨h3,h4⟩ | ⟨t',gs,gs',e,rfl⟩
   ·exact .inr (.inr ⟨_,_,_,rfl,rfl⟩)
   ·simp [AV.isOne] at h3
   ·cases e
    exact .inr (.inr ⟨_,_,_,rfl,rfl⟩)
 | agg=>exact .inr (.inr ⟨_,_,_,rfl,rfl⟩)
 | _=>exact .inr (.inl ⟨rfl,rfl⟩)

theorem Sub.fits {x y : AV} (h : Sub x y) (t : TypeId) (hf : fits P t x) : fits P t y:=by
 induction h with
 | refl=>exact hf
 | trans _ _ ih1 ih2=>exact ih2 (ih1 hf)
 | _=>exact hf

theorem Rel.sub {x y : AV} (hw : Sub x y) {cs : List Value} (h : Rel P w C x cs) : Rel P w C y cs:=by
 have lists : ∀ {e : TypeId} {xs ys : List AV} {cf : Nat → List Value},xs.length = ys.length → (∀ (i : Nat) (x y : AV),xs[i]? = some x → ys[i]? = some y → Sub x y) →
   (∀ (i : Nat) (x y : AV),xs[i]? = some x → ys[i]? = some y → ∀ {cs : List Value},Rel P w C x cs → Rel P w C y cs) →
   (∀ (i : Nat) (x : AV),xs[i]? = some x → Rel P w C x (cf i)) → (∀ i x,xs[i]? = some x → (cf i).length = szOf P e ∧ Av.fits P e x) →
   (∀ (i : Nat) (x : AV),ys[i]? = some x → Rel P w C x (cf i)) ∧ (∀ i x,ys[i]? = some x → (cf i).length = szOf P e ∧ Av.fits P e x):=fun {e xs ys cf} hl hs ih h1 h2=>by
  have get : ∀ (i : Nat) (y : AV),ys[i]? = some y → ∃ x,xs[i]? = some x:=fun i y hy=>⟨_,List.getElem?_eq_getElem (by rw [hl]; exact (List.getElem?_eq_some_iff.1 hy).1)⟩
  refine ⟨fun i y hy=>?_,fun i y hy=>?_⟩
  ·obtain ⟨x,hx⟩:=get i y hy
   exact ih i x y hx hy (h1 i x hx)
  ·obtain ⟨x,hx⟩:=get i y hy
   exact ⟨(h2 i x hx).1,(hs i x y hx hy).fits e (h2 i x hx).2⟩
 induction hw generalizing cs with
 | refl=>exact h
 | trans _ _ ih1 ih2=>exact ih2 (ih1 h)
 | own e xs tok=>exact h.sl_weak (.inr ⟨tok,rfl⟩)
 | lit e xs=>exact h.sl_weak (.inl rfl)
 | nils e=>exact h.nils_weak
 | agg hl hs ih =>
  rename_i t xs ys
  cases h with
  | agg cf h1 h2 h3 h4 h5 h6 =>
   have get : ∀ (i : Nat) (y : AV),ys[i]? = some y → ∃ x,xs[i]? = some x:=fun i y hy=>⟨_,List.getElem?_eq_getElem (by rw [hl]; exact (List.getElem?_eq_some_iff.1 hy).1)⟩
   refine .agg cf h1 (by omega) h3 h4 (fun i y hy=>?_) (fun i y ty hy hty=>?_)
   ·obtain ⟨x,hx⟩:=get i y hy
    exact ih i x y hx hy (h5 i x hx)
   ·obtain ⟨x,hx⟩:=get i y hy
    obtain ⟨g1,g2,g3⟩:=h6 i x ty hx hty
    exact ⟨g1,(hs i x y hx hy).fits ty g2,g3⟩
 | sls hl hs ih =>
  cases h with
  | sl cf h1 h2 h3 h4 h5 =>
   obtain ⟨g1,g2⟩:=lists hl hs (fun i x y hx hy {cs} h=>ih i x y hx hy h) h3 h4
   rw [hl] at h1 h5 ⊢
   exact .sl cf h1 h2 g1 g2 h5
 | lits hl hs ih =>
  cases h with
  | lit cf h1 h3 h4 h5 =>
   obtain ⟨g1,g2⟩:=lists hl hs (fun i x y hx hy {cs} h=>ih i x y hx hy h) h3 h4
   rw [hl] at h1 h5 ⊢
   exact .lit cf h1 g1 g2 h5
 | owns hl hs ih =>
  cases h with
  | own cf h1 h2 h3 h4 h5 h6 h7 =>
   obtain ⟨g1,g2⟩:=lists hl hs (fun i x y hx hy {cs} h=>ih i x y hx hy h) h3 h4
   rw [hl] at h1 h5 h7 ⊢
   exact .own cf h1 h2 g1 g2 h5 h6 h7
 | loc hs ih =>
  cases h with
  | loc h1 h2 h3 h4=>exact .loc (ih h1) (hs.fits _ h2) h3 h4

theorem RelV.weak {x y : AV} {v : Value} (hw : Weak x y) (h : RelV P w C x v) : RelV P w C y v:=by
 induction hw generalizing v with
 | sub hs =>
  rcases hs.cases3 with rfl | ⟨h1,h2⟩ | ⟨t,fs,fs',rfl,rfl⟩
  ·exact h
  ·exact .one h2 ((h.one_inv h1).sub hs)
  ·cases h with
   | agg h1=>exact .agg (h1.sub hs)
   | one h1=>simp [AV.isOne] at h1
 | refl x=>exact h
 | own e xs tok=>exact .one rfl ((h.one_inv rfl).sl_weak (.inr ⟨tok,rfl⟩))
 | lit e xs=>exact .one rfl ((h.one_inv rfl).sl_weak (.inl rfl))
 | nils e=>exact .one rfl (h.one_inv rfl).nils_weak
 | undef x=>exact .undef v
 | trans _ _ ih1 ih2=>exact ih2 (ih1 h)
 | tup hl _ ih =>
  rename_i xs ys _
  obtain ⟨vs,rfl,e1,e2⟩:=h.tup_inv
  refine .tup (by omega) (fun i y v hy hv=>?_)
  have hi:=(List.getElem?_eq_some_iff.1 hy).1
  have hx:=List.getElem?_eq_getElem (l:=xs) (show i < xs.length by omega)
  exact ih i _ y hx hy (e2 i _ v hx hv)

inductive WeakL : List AV → List AV → Prop
 | nil : WeakL [] []
 | cons {x y xs ys} : Weak x y → WeakL xs ys → WeakL (x :: xs) (y :: ys)

theorem WeakL.get {xs ys : List AV} (h : WeakL xs ys) : xs.length = ys.length ∧ ∀ (i : Nat) (y : AV),ys[i]? = some y → ∃ x,xs[i]? = some x ∧ Weak x y:=by
 induction h with
 | nil=>exact ⟨rfl,by simp⟩
 | cons h1 _ ih =>
  refine ⟨by simp [ih.1],fun i y hy=>?_⟩
  cases i with
  | zero=>simp at hy; subst hy; exact ⟨_,rfl,h1⟩
  | succ i=>simp at hy ⊢; exact ih.2 i y hy

theorem WeakL.refl : ∀ xs,WeakL xs xs
 | []=>.nil
 | x :: xs=>.cons (.refl x) (WeakL.refl xs)

theorem ACall.weak {f : FuncId} {xs ys : List AV} {Q : AV → Store → Prop} (h : ACall P W0 f ys σ Q) (hw : WeakL xs ys) : ACall P W0 f xs σ Q :=
 fun w C vs hst hl hr=>h w C vs hst (by rw [← hw.get.1]; exact hl) (fun i y v hy hv=>by
  obtain ⟨x,hx,hxy⟩:=hw.get.2 i y hy
  exact (hr i x v hx hv).weak hxy)

theorem ACall.mono {f : FuncId} {xs : List AV} {Q Q' : AV → Store → Prop} (h : ACall P W0 f xs σ Q) (hq : ∀ r σ',Q r σ' → Q' r σ') : ACall P W0 f xs σ Q' :=
 fun w C vs hst hl hr=>(h w C vs hst hl hr).mono fun _ _ ⟨v,r,σ',C',e,q,rest⟩=>⟨v,r,σ',C',e,hq _ _ q,rest⟩

theorem PureFn.weak {f : FuncId} {xs ys : List AV} {r : AV} (h : PureFn P W0 f ys r) (hw : WeakL xs ys) : PureFn P W0 f xs r:=fun σ=>(h σ).weak hw

end
end Go.Av
end
section
namespace Go.Av
open Go

def Bld (σ : Store) (v : AV) (e : TypeId) (xs : List AV) : Prop:=(v = .nils ∧ xs = []) ∨ v = .lit e xs ∨ ∃ tok,v = .own e xs tok ∧ σ[tok]? = some (some .tok)

def tokOf : AV → Option Nat
 | .own _ _ t=>some t
 | _=>none

structure App (σ : Store) (x : AV) (e : TypeId) (zs : List AV) (v : AV) (σ' : Store) : Prop where
 bld : Bld σ' v e zs
 len : σ.length ≤ σ'.length
 old : ∀ id,id < σ.length → tokOf x ≠ some id → σ'[id]? = σ[id]?
 tok : tokOf v = tokOf x ∨ ∃ t,tokOf v = some t ∧ σ.length ≤ t

def bytesOf (P : Program) (e : TypeId) : Nat:=match P.info? e with | some i=>i.bytes | none=>0

def ReadL (σ : Store) (z : AV) (e : TypeId) (ys : List AV) : Prop:=z.asList = some (e,ys) ∨ (z = .nils ∧ ys = []) ∨ ∃ id off m zs,z = .row e id off m ∧ σ[id]? = some (some (.cells e zs)) ∧ off + m ≤ zs.length ∧ ys = (zs.drop off).take m

def RowSt (σ : Store) (x : AV) (e : TypeId) (xs : List AV) : Prop:=(x = .nils ∧ xs = []) ∨ x = .lit e xs ∨ ∃ id off m zs,x = .row e id off m ∧ σ[id]? = some (some (.cells e zs)) ∧ off + m ≤ zs.length ∧ xs = (zs.drop off).take m

def killOf (x : AV) (σ : Store) : Store:=match x with | .row _ id _ _=>σ.set id none | _=>σ

def appendVC (P : Program) (σ : Store) (ts : List TypeId) (x y : AV) (K : AV → Store → Prop) : Prop :=
 match ts with
 | [t,u]=>∃ e xs ys,(elT P t = some e ∧ elT P u = some e ∧ 0 < szOf P e ∧ hasZero P e = true) ∧ Bld σ x e xs ∧ ReadL σ y e ys ∧ (xs.length + ys.length) * bytesOf P e ≤ 140737488355328 ∧
   xs.length + ys.length ≤ maxLen ∧ ∀ v σ',App σ x e (xs ++ ys) v σ' → K v σ'
 | _=>False

def appendZeroVC (P : Program) (σ : Store) (ts : List TypeId) (x y : AV) (K : AV → Store → Prop) : Prop :=
 match ts with
 | [t,u]=>∃ e m z k kn,(x = .nils ∧ y = .int k (m : Nat)) ∧ (elT P t = some e ∧ P.underlying u = some (.int kn) ∧ 0 < szOf P e ∧ hasZero P e = true ∧ zeroOf P e = some z) ∧ 0 < m ∧ m * bytesOf P e ≤ 140737488355328 ∧ m ≤ maxLen ∧
   K (.row e σ.length 0 m) (σ ++ [some (.cells e (List.replicate m z))])
 | _=>False

def appendRowVC (P : Program) (σ : Store) (ts : List TypeId) (x y : AV) (K : AV → Store → Prop) : Prop :=
 match ts with
 | [t,u]=>∃ e xs ys,(elT P t = some e ∧ elT P u = some e ∧ 0 < szOf P e ∧ hasZero P e = true) ∧ RowSt σ x e xs ∧ ReadL σ y e ys ∧ (xs.length + ys.length) * bytesOf P e ≤ 140737488355328 ∧
   xs.length + ys.length ≤ maxLen ∧ (ys = [] → K x σ) ∧ (ys ≠ [] → K (.row e σ.length 0 (xs.length + ys.length)) (killOf x σ ++ [some (.cells e (xs ++ ys))]))
 | _=>False

def makeVC (P : Program) (A : AState) (t : TypeId) (u v : AV) (K : AV → Store → Prop) : Prop :=
 match u,v with
 | .int _ m,.int _ m'=>m' = m ∧ (match elT P t with
  | some e=>(match zeroOf P e with
   | some z=>0 < szOf P e ∧ 0 ≤ m ∧ m.toNat * bytesOf P e ≤ 281474976710656 ∧ m.toNat ≤ maxLen ∧ K (.row e A.st.length 0 m.toNat) (A.st ++ [some (.cells e (List.replicate m.toNat z))])
   | none=>False)
  | none=>False)
 | _,_=>False

def laidL (zs : List AV) (k : Nat) (ys : List AV) : List AV:=zs.take k ++ ys ++ zs.drop (k + ys.length)

def appendInVC (P : Program) (σ : Store) (ts : List TypeId) (x y : AV) (K : AV → Store → Prop) : Prop :=
 match ts with
 | [t,u]=>∃ e id off m zs ys,(elT P t = some e ∧ elT P u = some e ∧ 0 < szOf P e) ∧ x = .row e id off m ∧ σ[id]? = some (some (.cells e zs)) ∧ ReadL σ y e ys ∧ off + m + ys.length ≤ zs.length ∧
   K (.row e id off (m + ys.length)) (σ.set id (some (.cells e (laidL zs (off + m) ys))))
 | _=>False

def appendKeepVC (P : Program) (σ : Store) (ts : List TypeId) (x y : AV) (K : AV → Store → Prop) : Prop :=
 match ts with
 | [t,u]=>∃ e id off m zs ys,(elT P t = some e ∧ elT P u = some e ∧ 0 < szOf P e ∧ hasZero P e = true) ∧ x = .row e id off m ∧ σ[id]? = some (some (.cells e zs)) ∧ off + m = zs.length ∧ ReadL σ y e ys ∧ (m + ys.length) * bytesOf P e ≤ 140737488355328 ∧ m + ys.length ≤ maxLen ∧
   K (.row e id off (m + ys.length)) (σ.set id (some (.cells e (zs ++ ys)))) ∧ K (.row e σ.length 0 (m + ys.length)) (σ ++ [some (.cells e (zs.drop off ++ ys))])
 | _=>False

def appendStrVC (P : Program) (σ : Store) (ts : List TypeId) (x y : AV) (K : AV → Store → Prop) : Prop :=
 match ts with
 | [t,u]=>∃ e xs l,(elT P t = some e ∧ isStrT P u = true ∧ intT P e = some .u8 ∧ szOf P e = 1 ∧ prim P e = true ∧ hasZero P e = true) ∧ Bld σ x e xs ∧ y = .str l ∧ (xs.length + l.length) * bytesOf P e ≤ 140737488355328 ∧
   xs.length + l.length ≤ maxLen ∧ ∀ v σ',App σ x e (xs ++ l.map byteAV) v σ' → K v σ'
 | _=>False
def bytesVC (P : Program) (σ : Store) (s d : TypeId) (u : AV) (K : AV → Store → Prop) : Prop :=
 (∃ l e,u = .str l ∧ (isStrT P s = true ∧ elT P d = some e ∧ intT P e = some .u8 ∧ szOf P e = 1 ∧ prim P e = true) ∧ K (.row e σ.length 0 l.length) (σ ++ [some (.cells e (l.map byteAV))])) ∨
 (∃ l e,ReadL σ u e (l.map byteAV) ∧ (elT P s = some e ∧ intT P e = some .u8 ∧ szOf P e = 1 ∧ isStrT P d = true) ∧ K (.str l) σ) ∨
 (∃ e id off m xs,u = .row e id off m ∧ (s = d ∧ elT P s = some e ∧ intT P e = some .u8) ∧ 0 < m ∧ σ[id]? = some (some (.cells e xs)) ∧ off + m ≤ xs.length ∧ K (.sl e ((xs.drop off).take m)) (σ.set id none))
def buildRowVC (P : Program) (σ : Store) (t : TypeId) (m : Nat) (qs : List (Nat × AV)) (K : AV → Store → Prop) : Prop :=
 match elT P t with
 | some e=>(0 < szOf P e ∧ hasZero P e = true ∧ m * szOf P e ≤ 16777216 ∧ qs.map (·.1) = List.range' 0 m ∧ qs.all (fun p=>fitsB P e p.2) = true) ∧ K (.row e σ.length 0 m) (σ ++ [some (.cells e (qs.map (·.2)))])
 | none=>False

def clearVC (P : Program) (σ : Store) (ts : List TypeId) (x : AV) (K : Store → Prop) : Prop :=
 match ts with
 | [t]=>∃ e id off m zs v,(elT P t = some e ∧ 0 < szOf P e ∧ zeroOf P e = some v) ∧ x = .row e id off m ∧ σ[id]? = some (some (.cells e zs)) ∧ off + m ≤ zs.length ∧
   K (σ.set id (some (.cells e (laidL zs off (List.replicate m v)))))
 | _=>False

def overVC (P : Program) (A : AState) (t : TypeId) (u : AV) (lo hi mx : Option Operand) (K : AV → Prop) : Prop :=
 match u with
 | .row e id off m=>(elT P t = some e ∧ 0 < szOf P e) ∧ (match mx with
  | none=>bndVC none A lo 0 fun p=>bndVC none A hi m fun q=>(p ≤ q ∧ ∃ te zs,A.st[id]? = some (some (.cells te zs)) ∧ off + q ≤ zs.length) ∧ K (.row e id (off + p) (q - p))
  | some _=>(lo.isSome = true ∧ hi.isSome = true) ∧ bndVC none A lo 0 fun p=>bndVC none A hi m fun q=>bndVC none A mx m fun r=>(p ≤ q ∧ q ≤ r ∧ r ≤ m) ∧ K .undef)
 | _=>False

def putVC (P : Program) (σ : Store) (t : TypeId) (u k v : AV) (K : Store → Prop) : Prop :=
 match u with
 | .mp id=>∃ kt vt l,mapT P t = some (kt,vt) ∧ Maps.Keyed P kt ∧ keyC P kt k ∧ (rig1 v).isSome = true ∧ σ[id]? = some (some (.mp kt l)) ∧ K (σ.set id (some (.mp kt (mset P l k v))))
 | _=>False

def storeVC (P : Program) (fz : List Nat) (A : AState) (t : TypeId) (x : Operand) (u v : AV) (K : AState → Prop) : Prop :=
 match u with
 | .ptr t' id i path=>(t' = t ∧ fitsB P t v = true) ∧ (match A.st[id]? with
  | some (some (.cells te xs))=>(match xs[i]? with
   | some z=>(match z.at path with
    | some _=>(match x with
     | .tmp d=>if fz.contains d then path = [] ∧ K ((A.upd d (.loc t v)).withSt (A.st.set id none)) else K (A.withSt (A.st.set id (some (.cells te (xs.set i (z.setAt path v))))))
     | _=>False)
    | none=>False)
   | none=>False)
  | _=>False)
 | _=>False

def dstOk (n : Nat) : Option Nat → Prop
 | some d=>d < n
 | none=>True

def opVC (P : Program) (W0 : World) (n : Nat) (fz : List Nat) (o : Oper) (A : AState) (K : AState → Prop) : Prop :=
 dstOk n o.dst ∧ (match o.op with
 | .call c=>(match c.callee with
  | .value f=>strip none (A.val f) fun fv=>stripL none (c.args.toList.map A.val) fun us=>(match fv with
   | .fn g caps=>ACall P W0 g (us ++ caps) A.st fun r σ'=>K ((A.put o.dst r).withSt (σ'))
   | _=>False)
  | .builtin .append=>stripL none (c.args.toList.map A.val) fun us=>(match us with
   | [x,y]=>(appendVC P A.st c.argTypes.toList x y fun v σ'=>K ((A.put o.dst v).withSt (σ'))) ∨ (appendRowVC P A.st c.argTypes.toList x y fun v σ'=>K ((A.put o.dst v).withSt (σ'))) ∨ (appendZeroVC P A.st c.argTypes.toList x y fun v σ'=>K ((A.put o.dst v).withSt (σ'))) ∨ appendInVC P A.st c.argTypes.toList x y (fun v σ'=>K ((A.put o.dst v).withSt (σ'))) ∨ appendKeepVC P A.st c.argTypes.toList x y (fun v σ'=>K ((A.put o.dst v).withSt (σ'))) ∨ appendStrVC P A.st c.argTypes.toList x y fun v σ'=>K ((A.put o.dst v).withSt (σ'))
   | _=>False)
  | .builtin .clear=>stripL none (c.args.toList.map A.val) fun us=>(match us with
   | [x]=>clearVC P A.st c.argTypes.toList x fun σ'=>K ((A.put o.dst (.tup [])).withSt (σ'))
   | _=>False)
  | _=>valVC P W0 none o.op A fun v=>K (A.put o.dst v))
 | .box t x=>(match o.dst with
  | some d=>if fz.contains d then strip none (A.val x) fun v=>fitsB P t v = true ∧ K (A.upd d (.loc t v))
   else strip none (A.val x) fun v=>fitsB P t v = true ∧ K ((A.upd d (.ptr t A.st.length 0 [])).withSt (A.st ++ [some (.cells t [v])]))
  | none=>False)
 | .alloc t=>(match zeroOf P t with
  | some v=>K ((A.put o.dst (.ptr t A.st.length 0 [])).withSt (A.st ++ [some (.cells t [v])]))
  | none=>False)
 | .makeSlice t x y=>strip none (A.val x) fun u=>strip none (A.val y) fun v=>makeVC P A t u v fun r σ'=>K ((A.put o.dst r).withSt σ')
 | .store t x y=>strip none (A.val x) fun u=>strip none (A.val y) fun v=>storeVC P fz A t x u v fun A'=>K (A'.put o.dst .undef)
 | .range t x=>isStrT P t = true ∧ strip none (A.val x) fun u=>(match u with
  | .str l=>K ((A.put o.dst (.it A.st.length)).withSt (A.st ++ [some (.iter l 0)]))
  | _=>False)
 | .next x true=>strip none (A.val x) fun u=>(match u with
  | .it id=>(match A.st[id]? with
   | some (some (.iter l pos))=>(pos < l.length → K ((A.put o.dst (.tup [.bool true,.int .i64 pos,.int .i32 (decAt l pos).1])).withSt (A.st.set id (some (.iter l (pos + (decAt l pos).2)))))) ∧ (l.length ≤ pos → K (A.put o.dst (.tup [.bool false])))
   | _=>False)
  | _=>False)
 | .slice t x lo hi mx=>(valVC P W0 none o.op A fun v=>K (A.put o.dst v)) ∨ strip none (A.val x) fun u=>overVC P A t u lo hi mx fun v=>K (A.put o.dst v)
 | .convert s d x=>(valVC P W0 none o.op A fun v=>K (A.put o.dst v)) ∨ strip none (A.val x) fun u=>bytesVC P A.st s d u fun v σ'=>K ((A.put o.dst v).withSt (σ'))
 | .buildSlice t m ps=>(valVC P W0 none o.op A fun v=>K (A.put o.dst v)) ∨ partsVC none A ps.toList fun qs=>buildRowVC P A.st t m qs fun v σ'=>K ((A.put o.dst v).withSt (σ'))
 | .makeMap t none=>(match mapT P t with
  | some (kt,_)=>K ((A.put o.dst (.mp A.st.length)).withSt (A.st ++ [some (.mp kt [])]))
  | none=>False)
 | .mapUpdate t x ix y=>strip none (A.val x) fun u=>strip none (A.val ix) fun k=>strip none (A.val y) fun v=>putVC P A.st t u k v fun σ'=>K ((A.put o.dst .undef).withSt (σ'))
 | _=>valVC P W0 none o.op A fun v=>K (A.put o.dst v))

def gdOf (ops : Array Oper) (A : AState) (j : Nat) (want : Bool) : Option Bool :=
 match (ops[j]?).bind (·.dst) with
 | some d=>(match A.env d with
  | .bool b=>some (b == want)
  | .maybe g (.bool b)=>some (g && (b == want))
  | .maybe false _=>some false
  | _=>none)
 | none=>none

def opsVC (P : Program) (W0 : World) (n : Nat) (fz : List Nat) (ops : Array Oper) : List Oper → (AState → Prop) → AState → Prop
 | [],K,A=>K A
 | o :: r,K,A=>match o.guard with
  | none=>opVC P W0 n fz o A fun A'=>opsVC P W0 n fz ops r K A'
  | some (j,want)=>(match gdOf ops A j want with
   | some G=>dstOk n o.dst ∧ ((valVC P W0 (some G) o.op A fun v=>opsVC P W0 n fz ops r K (A.put o.dst (.maybe G v))) ∨
    ((G = true → opVC P W0 n fz o A fun A'=>opsVC P W0 n fz ops r K A') ∧ (G = false → ∃ v,opsVC P W0 n fz ops r K (A.put o.dst (.maybe false v)))))
   | none=>False)

def VC (P : Program) (W0 : World) (n : Nat) (c : Code) (Q : Exit → AState → Prop) (A : AState) : Prop :=
 ∀ w C a,RelA P W0 n w C A a → c.wp P (fun e a' w'=>∃ A' C',Q e A' ∧ RelA P W0 n w' C' A' a' ∧ Step w C w' C') a w

section
variable {P : Program} {W0 w w' : World} {C C' : Ctx} {σ σ' : Store} {n : Nat} {A : AState} {a : Act} {o : Oper} {Q : Exit → AState → Prop}

theorem VC.skip (h : Q .normal A) : VC P W0 n .skip Q A:=fun _ C _ hr=>wp_skip ⟨A,C,h,hr,.refl _ _⟩
theorem VC.ret (h : Q .ret A) : VC P W0 n .ret Q A:=fun _ C _ hr=>wp_ret ⟨A,C,h,hr,.refl _ _⟩
theorem VC.exit {id : Nat} (h : Q (.exit id) A) : VC P W0 n (.exit id) Q A:=fun _ C _ hr=>wp_exit ⟨A,C,h,hr,.refl _ _⟩

theorem VC.mono {c : Code} {Q' : Exit → AState → Prop} (h : VC P W0 n c Q A) (hq : ∀ e A,Q e A → Q' e A) : VC P W0 n c Q' A :=
 fun w C a hr=>wp_mono (h w C a hr) fun _ _ _ ⟨A',C',q,r,s⟩=>⟨A',C',hq _ _ q,r,s⟩

def thenQ (K : AState → Prop) (Q : Exit → AState → Prop) : Exit → AState → Prop
 | .normal,A=>K A
 | e,A=>Q e A

theorem VC.seq {x y : Code} (h : VC P W0 n x (thenQ (VC P W0 n y Q) Q) A) : VC P W0 n (.seq x y) Q A:=fun w C a hr =>
 wp_seq (wp_mono (h w C a hr) fun e a' w' ⟨A',C',q,r,s⟩=>by
  cases e with
  | normal=>exact wp_mono (q w' C' a' r) fun _ _ _ ⟨A'',C'',q',r',s'⟩=>⟨A'',C'',q',r',s.trans s'⟩
  | _=>exact ⟨A',C',q,r,s⟩)

theorem VC.cond {c : Operand} {x y : Code} {b : Bool} (hc : A.val c = .bool b) (ht : b = true → VC P W0 n x Q A) (hf : b = false → VC P W0 n y Q A) : VC P W0 n (.cond c x y) Q A:=fun w C a hr=>by
 have hv:=hr.val c
 rw [hc] at hv
 exact wp_cond_split hv.bool_inv (fun h=>ht h w C a hr) (fun h=>hf h w C a hr)

def blockQ (id : Nat) (Q : Exit → AState → Prop) : Exit → AState → Prop
 | .exit id',A=>if id' = id then Q .normal A else Q (.exit id') A
 | e,A=>Q e A

theorem VC.block {id : Nat} {c : Code} (h : VC P W0 n c (blockQ id Q) A) : VC P W0 n (.block id c) Q A:=fun w C a hr =>
 wp_block (wp_mono (h w C a hr) fun e a' w' ⟨A',C',q,r,s⟩=>by
  cases e with
  | exit id' =>
   simp only [blockQ] at q
   simp only [Exit.inBlock]
   split at q
   ·rename_i he; rw [if_pos he]; exact ⟨A',C',q,r,s⟩
   ·rename_i he; rw [if_neg he]; exact ⟨A',C',q,r,s⟩
  | _=>exact ⟨A',C',q,r,s⟩)

theorem VC.loop {c : Code} (I : Nat → AState → Prop) (k₀ : Nat) (h₀ : I k₀ A) (round : ∀ k A,I k A → VC P W0 n c (thenQ (fun A'=>∃ k',k' < k ∧ I k' A') Q) A) : VC P W0 n (.loop c) Q A:=fun w C a hr =>
 wp_loop_ghost (fun k a' w'=>∃ A' C',I k A' ∧ RelA P W0 n w' C' A' a' ∧ Step w C w' C') k₀ ⟨A,C,h₀,hr,.refl _ _⟩ fun k a' w' ⟨A',C',hI,hr',hs⟩ =>
  wp_mono (round k A' hI w' C' a' hr') fun e a'' w'' ⟨A'',C'',q,r,s⟩=>by
   cases e with
   | normal =>
    obtain ⟨k',hk,hI'⟩:=q
    exact ⟨k',hk,A'',C'',hI',r,hs.trans s⟩
   | _=>exact ⟨A'',C'',q,r,hs.trans s⟩

theorem put_rel (hr : RelA P W0 n w C A a) {v : AV} {x : Value} (hd : dstOk n o.dst) (hv : RelV P w C v x) : RelA P W0 n w C (A.put o.dst v) (a.put o.dst x):=by
 cases ho : o.dst with
 | none=>simpa [AState.put,Act.put] using hr
 | some d =>
  rw [ho] at hd
  exact hr.put hd hv

theorem put_step (hr : RelA P W0 n w C A a) {v : AV} {x : Value} (hd : dstOk n o.dst) (hs : Step w C w' C') (hst : StRel P W0 w' C' σ') (hv : RelV P w' C' v x) : RelA P W0 n w' C' ((A.put o.dst v).withSt (σ')) (a.put o.dst x):=by
 have h1:=hr.step hs hst
 have h2:=put_rel (o:=o) h1 hd hv
 cases ho : o.dst with
 | none=>rw [ho] at h2; exact h2
 | some d=>rw [ho] at h2; exact h2

end
end Go.Av
end
section
namespace Go.Av
open Go

section
variable {P : Program} {W0 w w' : World} {C C' : Ctx} {σ σ' : Store} {n : Nat} {A : AState} {a : Act} {o : Oper}

theorem list_cells {e : TypeId} {xs : List AV} {cf : Nat → List Value} {b off : Nat} (h3 : ∀ (i : Nat) (x : AV),xs[i]? = some x → Rel P w C x (cf i)) (h4 : ∀ i x,xs[i]? = some x → (cf i).length = szOf P e ∧ fits P e x)
  (h5 : ∀ i,i < xs.length → Cells w C b (off + i * szOf P e) (cf i)) :
  ∃ news : List Value,news.length = xs.length * szOf P e ∧ (∀ (j : Nat) (u : Value),news[j]? = some u → w.cell? ⟨b,off + j,none⟩ = some u) ∧ (∀ u ∈ news,u.oneCell' = true) ∧
   ∀ i x,xs[i]? = some x → ∀ (j : Nat) (u : Value),(cf i)[j]? = some u → news[i * szOf P e + j]? = some u:=by
 have key : ∀ k,k ≤ xs.length → ∃ news : List Value,news.length = k * szOf P e ∧ (∀ (j : Nat) (u : Value),news[j]? = some u → w.cell? ⟨b,off + j,none⟩ = some u) ∧ (∀ u ∈ news,u.oneCell' = true) ∧
   ∀ i x,i < k → xs[i]? = some x → ∀ (j : Nat) (u : Value),(cf i)[j]? = some u → news[i * szOf P e + j]? = some u:=by
  intro k
  induction k with
  | zero=>intro _; exact ⟨[],by simp,by simp,by simp,fun i x hi=>absurd hi (by omega)⟩
  | succ k ih =>
   intro hk
   obtain ⟨news,g1,g2,g3,g4⟩:=ih (by omega)
   have hx:=List.getElem?_eq_getElem (show k < xs.length by omega)
   have hl:=(h4 k _ hx).1
   refine ⟨news ++ cf k,by simp [g1,hl,Nat.succ_mul],fun j u hj=>?_,fun u hu=>?_,fun i x hi hxi j u hj=>?_⟩
   ·by_cases hjl : j < news.length
    ·rw [List.getElem?_append_left hjl] at hj; exact g2 j u hj
    ·rw [List.getElem?_append_right (by omega),g1] at hj
     have:=(h5 k (by omega) _ u hj).1
     rwa [show off + k * szOf P e + (j - k * szOf P e) = off + j by omega] at this
   ·rcases List.mem_append.1 hu with hu | hu
    ·exact g3 u hu
    ·exact (h3 k _ hx).oneCell u hu
   ·by_cases hik : i = k
    ·subst hik
     rw [List.getElem?_append_right (by omega),g1,Nat.add_sub_cancel_left]
     exact hj
    ·have hjl : j < szOf P e:=by rw [← (h4 i x hxi).1]; exact (List.getElem?_eq_some_iff.1 hj).1
     have : (i + 1) * szOf P e ≤ k * szOf P e:=Nat.mul_le_mul_right _ (by omega)
     rw [Nat.succ_mul] at this
     rw [List.getElem?_append_left (by omega)]
     exact g4 i x (by omega) hxi j u hj
 obtain ⟨news,g1,g2,g3,g4⟩:=key xs.length (Nat.le_refl _)
 exact ⟨news,g1,g2,g3,fun i x hx=>g4 i x (List.getElem?_eq_some_iff.1 hx).1 hx⟩

theorem row_cells (h : StRel P W0 w C σ) {e te : TypeId} {id off m : Nat} {xs : List AV} {v : Value} (hv : RelV P w C (.row e id off m) v) (hs : σ[id]? = some (some (.cells te xs))) (_hm : off + m ≤ xs.length) :
  ∃ (ad : Option Addr) (cap : Nat) (cf : Nat → List Value),v = .slice ad m cap ∧ m ≤ cap ∧ cap ≤ maxLen ∧ te = e ∧ (∀ (i : Nat) (x : AV),((xs.drop off).take m)[i]? = some x → Rel P w C x (cf i)) ∧
   (∀ i x,((xs.drop off).take m)[i]? = some x → (cf i).length = szOf P e ∧ fits P e x) ∧ ∃ b base room arr t' fr,C.m id = some (.obj b e base room) ∧ w.heap[b]? = some (.cells arr t' fr) ∧ FrOk fr arr.size ∧ arr.size = room ∧
    (0 < cap → ad = some ⟨b,base + off * szOf P e,none⟩) ∧ base + (off + cap) * szOf P e = room ∧
    (∀ i x,((xs.drop off).take m)[i]? = some x → ∀ (j : Nat) (c : Value),(cf i)[j]? = some c → arr[base + off * szOf P e + i * szOf P e + j]? = some c):=by
 have hv':=hv.one_inv rfl
 obtain ⟨b,base,room,arr,t',fr,m1,m2,mf,m3,m4,cf,m5⟩:=h.cells hs
 have hget : ∀ i x,((xs.drop off).take m)[i]? = some x → xs[off + i]? = some x:=fun i x hx=>by
  rw [List.getElem?_take] at hx
  split at hx
  ·rwa [List.getElem?_drop] at hx
  ·cases hx
 cases hv' with
 | row h1 h2 h3 h4 =>
  obtain ⟨b',base',room',e1,e2,e3⟩:=h4 _ m1
  cases e1
  refine ⟨_,_,fun i=>cf (off + i),rfl,h1,h2,rfl,fun i x hx=>(m5 _ _ (hget i x hx)).1,fun i x hx=>⟨(m5 _ _ (hget i x hx)).2.1,(m5 _ _ (hget i x hx)).2.2.1⟩,b,base,room,arr,t',fr,m1,m2,mf,m3,e2,e3,fun i x hx j c hj=>?_⟩
  have:=(m5 _ _ (hget i x hx)).2.2.2 j c hj
  rwa [show base + off * szOf P e + i * szOf P e + j = base + (off + i) * szOf P e + j by rw [Nat.add_mul]; omega]

theorem ReadL.cells (h : StRel P W0 w C σ) {z : AV} {e : TypeId} {ys : List AV} {v : Value} (hr : ReadL σ z e ys) (hv : RelV P w C z v) :
  ∃ (ad : Option Addr) (cap : Nat) (cf : Nat → List Value),v = .slice ad ys.length cap ∧ (∀ (i : Nat) (x : AV),ys[i]? = some x → Rel P w C x (cf i)) ∧ (∀ i x,ys[i]? = some x → (cf i).length = szOf P e ∧ fits P e x) ∧
   (0 < ys.length → ∃ b off,ad = some ⟨b,off,none⟩ ∧ ∃ news : List Value,news.length = ys.length * szOf P e ∧ (∀ (j : Nat) (u : Value),news[j]? = some u → w.cell? ⟨b,off + j,none⟩ = some u) ∧ (∀ u ∈ news,u.oneCell' = true) ∧
    ∀ i x,ys[i]? = some x → ∀ (j : Nat) (u : Value),(cf i)[j]? = some u → news[i * szOf P e + j]? = some u):=by
 rcases hr with hr | ⟨rfl,rfl⟩ | ⟨id,off,m,zs,rfl,hs,hm,rfl⟩
 ·obtain ⟨hcase,hone⟩:=AV.asList_inv hr
  obtain ⟨ad,capy,cfy,hye,y1,y2,y3,y4,y5⟩:=(hv.one_inv hone).sl_of hcase
  refine ⟨ad,capy,cfy,hye,y3,y4,fun hpos=>?_⟩
  obtain ⟨b,off,e1,y6⟩:=y5 hpos
  exact ⟨b,off,e1,list_cells y3 y4 y6⟩
 ·exact ⟨none,0,fun _=>[],hv.nils_inv,by simp,by simp,by simp⟩
 ·obtain ⟨ad,cap,cf,hve,g1,g2,_,g3,g4,b,base,room,arr,t',fr,m1,m2,mf,m3,g5,g6,g7⟩:=row_cells h hv hs hm
  have hlen : ((zs.drop off).take m).length = m:=by simp; omega
  rw [hlen]
  refine ⟨ad,cap,cf,hve,g3,g4,fun hpos=>⟨b,base + off * szOf P e,g5 (by omega),?_⟩⟩
  have key : ∀ k,k ≤ m → ∃ news : List Value,news.length = k * szOf P e ∧ (∀ (j : Nat) (u : Value),news[j]? = some u → w.cell? ⟨b,base + off * szOf P e + j,none⟩ = some u) ∧ (∀ u ∈ news,u.oneCell' = true) ∧
    ∀ i x,i < k → ((zs.drop off).take m)[i]? = some x → ∀ (j : Nat) (u : Value),(cf i)[j]? = some u → news[i * szOf P e + j]? = some u:=by
   intro k
   induction k with
   | zero=>intro _; exact ⟨[],by simp,by simp,by simp,fun i x hi=>absurd hi (by omega)⟩
   | succ k ih =>
    intro hk
    obtain ⟨news,n1,n2,n3,n4⟩:=ih (by omega)
    have hx:=List.getElem?_eq_getElem (show k < ((zs.drop off).take m).length by omega)
    have hl:=(g4 k _ hx).1
    refine ⟨news ++ cf k,by simp [n1,hl,Nat.succ_mul],fun j u hj=>?_,fun u hu=>?_,fun i x hi hxi j u hj=>?_⟩
    ·by_cases hjl : j < news.length
     ·rw [List.getElem?_append_left hjl] at hj; exact n2 j u hj
     ·rw [List.getElem?_append_right (by omega),n1] at hj
      have:=g7 k _ hx _ u hj
      rw [show base + off * szOf P e + k * szOf P e + (j - k * szOf P e) = base + off * szOf P e + j by omega] at this
      simp [World.cell?,m2,this]
    ·rcases List.mem_append.1 hu with hu | hu
     ·exact n3 u hu
     ·exact (g3 k _ hx).oneCell u hu
    ·by_cases hik : i = k
     ·subst hik
      rw [List.getElem?_append_right (by omega),n1,Nat.add_sub_cancel_left]
      exact hj
     ·have hjl : j < szOf P e:=by rw [← (g4 i x hxi).1]; exact (List.getElem?_eq_some_iff.1 hj).1
      have : (i + 1) * szOf P e ≤ k * szOf P e:=Nat.mul_le_mul_right _ (by omega)
      rw [Nat.succ_mul] at this
      rw [List.getElem?_append_left (by omega)]
      exact n4 i x (by omega) hxi j u hj
  obtain ⟨news,n1,n2,n3,n4⟩:=key m (Nat.le_refl _)
  exact ⟨news,n1,n2,n3,fun i x hx=>n4 i x (by have:=(List.getElem?_eq_some_iff.1 hx).1; omega) hx⟩

end
end Go.Av
end
section
namespace Go.Av
open Go

section
variable {P : Program} {W0 w w' : World} {C C' : Ctx} {σ σ' : Store} {n : Nat} {A : AState} {a : Act} {o : Oper}

theorem run_append_types {t u e e' : TypeId} {i : TypeInfo} (ht : P.underlying t = some (.slice e)) (hu : P.underlying u = some (.slice e')) (hi : P.info? e = some i) (ty : TypeId) (b : Option Addr) (l c : Nat) (y : Value) (w : World) :
  (Builtin.append_ #[t,u] ty #[.slice b l c,y]).run P w = (Builtin.append_ #[t,t] ty #[.slice b l c,y]).run P w:=by
 have hsv : (sizeOf e).run P w = .ok i.size w:=by simp [sizeOf,typeInfo,hi]
 have h1 : ∀ v : TypeId,(#[t,v] : Array TypeId)[1]? = some v:=fun _=>rfl
 have h0 : ∀ v : TypeId,(#[t,v] : Array TypeId)[0]? = some t:=fun _=>rfl
 have h2 : (#[.slice b l c,y] : Array Value)[0]? = some (.slice b l c):=rfl
 have h3 : (#[.slice b l c,y] : Array Value)[1]? = some y:=rfl
 simp only [Builtin.append_,h0,h1,h2,h3,Sem.run_bind,run_underlying ht,run_underlying hu,Result.andThen_ok,hsv,Sem.run_pure]

theorem own_new (h : StRel P W0 w C σ) {e : TypeId} {zs : List AV} {cap : Nat} {arr : Array Value} {cf : Nat → List Value} (hl : zs.length ≤ cap) (hc : cap ≤ maxLen) (hs : arr.size = cap * szOf P e)
  (hz : ∀ i x,zs[i]? = some x → Rel P w C x (cf i) ∧ (cf i).length = szOf P e ∧ fits P e x ∧ ∀ (j : Nat) (u : Value),(cf i)[j]? = some u → arr[i * szOf P e + j]? = some u) :
  ∃ C',Step w C (w.alloc (.cells arr e)) C' ∧ StRel P W0 (w.alloc (.cells arr e)) C' (σ ++ [some .tok]) ∧ RelV P (w.alloc (.cells arr e)) C' (.own e zs σ.length) (.slice (some ⟨w.heap.size,0,none⟩) zs.length cap):=by
 have hhw : zs.length * szOf P e ≤ arr.size:=by rw [hs]; exact Nat.mul_le_mul_right _ hl
 obtain ⟨h1,h2⟩:=h.push (ob:=.cells arr e) (ow:=.tok w.heap.size e (zs.length * szOf P e) cap) (so:=.tok) rfl ⟨arr,heap_alloc_new w _,hs,hhw⟩
 refine ⟨_,h1,h2,.one rfl (.own cf hl hc (fun i x hx=>(hz i x hx).1.mono h1) (fun i x hx=>⟨(hz i x hx).2.1,(hz i x hx).2.2.1⟩) (fun _=>⟨w.heap.size,0,rfl,fun i hi j u hj=>⟨?_,⟨by simp,fun id ow hm he=>?_⟩⟩⟩) (by simp [Ctx.push,h.nx]) (fun ow how=>?_))⟩
 ·have:=(hz i _ (List.getElem?_eq_getElem hi)).2.2.2 j u hj
  rw [World.cell?_alloc_new,Nat.zero_add]
  exact this
 ·simp only [Ctx.push] at hm
  split at hm
  ·cases hm
   refine ⟨_,_,_,rfl,?_⟩
   have hjl : j < szOf P e:=by rw [← (hz i _ (List.getElem?_eq_getElem hi)).2.1]; exact (List.getElem?_eq_some_iff.1 hj).1
   have : (i + 1) * szOf P e ≤ zs.length * szOf P e:=Nat.mul_le_mul_right _ hi
   rw [Nat.succ_mul] at this
   omega
  ·exact absurd he (by have:=h.lt hm; omega)
 ·simp only [Ctx.push,h.nx,if_true,Option.some.injEq] at how
  exact how.symm

theorem StRel.tok (h : StRel P W0 w C σ) {id : Nat} (hs : σ[id]? = some (some .tok)) : ∃ b e hw cap arr,C.m id = some (.tok b e hw cap) ∧ w.heap[b]? = some (.cells arr e (0,0)) ∧ arr.size = cap * szOf P e ∧ hw ≤ arr.size:=by
 have ho:=h.obj id
 rw [hs] at ho
 simp only [Option.join_some] at ho
 cases hm : C.m id with
 | none=>rw [hm] at ho; exact ho.elim
 | some ow =>
  rw [hm] at ho
  cases ow with
  | tok b e hw cap =>
   obtain ⟨arr,h1,h2,h3⟩:=ho
   exact ⟨b,e,hw,cap,arr,rfl,h1,h2,h3⟩
  | obj=>exact ho.elim
  | iter=>exact ho.elim
  | mp=>exact ho.elim

theorem tok_grow (h : StRel P W0 w C σ) {tok b hw cap : Nat} {e : TypeId} {arr : Array Value} {news : List Value} (hs : σ[tok]? = some (some .tok)) (hm : C.m tok = some (.tok b e hw cap)) (hb : w.heap[b]? = some (.cells arr e (0,0)))
  (hsz : arr.size = cap * szOf P e) (hfit : hw + news.length ≤ arr.size) :
  ∃ C',Step w C (w.setRow b (splice arr hw news)) C' ∧ StRel P W0 (w.setRow b (splice arr hw news)) C' (σ.set tok none ++ [some .tok]) ∧ C'.nx = σ.length + 1 ∧ C'.m σ.length = some (.tok b e (hw + news.length) cap) ∧
   ∀ id ow,C'.m id = some ow → ow.blk = b → ow = .tok b e (hw + news.length) cap:=by
 have htl : tok < σ.length:=(List.getElem?_eq_some_iff.1 hs).1
 have hsize : (splice arr hw news).size = arr.size:=splice_size hfit
 have hnew : (w.setRow b (splice arr hw news)).heap[b]? = some (.cells (splice arr hw news) e (0,0)):=setRow_heap w b arr _ e _ hb
 have hC : ∀ i ow,((C.kill tok).push (.tok b e (hw + news.length) cap)).m i = some ow → (i = C.nx ∧ ow = .tok b e (hw + news.length) cap) ∨ (i ≠ C.nx ∧ i ≠ tok ∧ C.m i = some ow):=fun i ow hi=>by
  rw [push_m,kill_nx,kill_m] at hi
  split at hi
  ·rename_i he; cases hi; exact .inl ⟨he,rfl⟩
  ·rename_i he
   split at hi
   ·cases hi
   ·rename_i ht; exact .inr ⟨he,ht,hi⟩
 have hne : ∀ i ow,i ≠ tok → C.m i = some ow → ow.blk ≠ b:=fun i ow hi hm' he=>hi (h.inj i tok ow _ hm' hm (by simpa [Own.blk] using he))
 have hstep : Step w C (w.setRow b (splice arr hw news)) ((C.kill tok).push (.tok b e (hw + news.length) cap)):=by
  refine ⟨by simp [Ctx.push,Ctx.kill],fun id ow hid hi=>?_,fun b' i hst=>?_,rfl,rfl,rfl,by simp,fun b' hlt hn=>?_⟩
  ·rcases hC id ow hi with ⟨he,_⟩ | ⟨_,_,h'⟩
   ·omega
   ·exact h'
  ·by_cases hbb : b' = b
   ·subst hbb
    obtain ⟨e',hw',cap',e1,e2⟩:=hst.2 tok _ hm rfl
    cases e1
    refine ⟨?_,by simpa using hst.1,fun id ow hi he=>?_⟩
    ·simp only [World.cell?,hnew,hb,Option.isSome_none,Bool.false_eq_true,if_false]
     rw [splice_get hfit,if_neg (by omega)]
    ·rcases hC id ow hi with ⟨_,rfl⟩ | ⟨_,ht,h'⟩
     ·exact ⟨_,_,_,rfl,by omega⟩
     ·exact absurd he (hne id ow ht h')
   ·refine ⟨cell_setRow_other w b _ ⟨b',i,none⟩ hbb,by simpa using hst.1,fun id ow hi he=>?_⟩
    rcases hC id ow hi with ⟨_,rfl⟩ | ⟨_,_,h'⟩
    ·exact absurd he (fun e=>hbb e.symm)
    ·exact hst.2 id ow h' he
  ·refine ⟨setRow_other w b b' _ (fun e=>hn tok _ hm (by simp [Own.blk,e])),fun id ow hi=>?_⟩
   rcases hC id ow hi with ⟨_,rfl⟩ | ⟨_,_,h'⟩
   ·intro he; exact hn tok _ hm he
   ·exact hn id ow h'
 refine ⟨_,hstep,h.change hstep (fun i ow hi=>?_) (by simp [Ctx.push,Ctx.kill,h.nx]) (fun i j x y hi hj he=>?_) (fun i ow hi=>?_) (fun i=>?_),by simp [Ctx.push,Ctx.kill,h.nx],by simp [Ctx.push,Ctx.kill,h.nx],fun id ow hi he=>?_⟩
 ·rcases hC i ow hi with ⟨_,rfl⟩ | ⟨_,_,h'⟩
  ·exact h.low tok (.tok b e hw cap) hm
  ·exact h.low i ow h'
 ·rcases hC i x hi with ⟨e1,rfl⟩ | ⟨e1,t1,h1⟩
  ·rcases hC j y hj with ⟨e2,rfl⟩ | ⟨e2,t2,h2⟩
   ·omega
   ·exact absurd he.symm (hne j y t2 h2)
  ·rcases hC j y hj with ⟨e2,rfl⟩ | ⟨e2,t2,h2⟩
   ·exact absurd he (hne i x t1 h1)
   ·exact h.inj i j x y h1 h2 he
 ·simp only [Ctx.push,Ctx.kill]
  rcases hC i ow hi with ⟨e1,_⟩ | ⟨_,_,h1⟩
  ·omega
  ·have:=h.dom i ow h1; omega
 ·rw [join_push,List.length_set,join_set _ _ _ _ htl]
  by_cases hi : i = σ.length
  ·left
   rw [if_pos hi]
   have : ((C.kill tok).push (.tok b e (hw + news.length) cap)).m i = some (.tok b e (hw + news.length) cap):=by simp [Ctx.push,Ctx.kill,hi,h.nx]
   rw [this]
   exact ⟨_,hnew,by rw [hsize,hsz],by rw [hsize]; exact hfit⟩
  ·rw [if_neg hi]
   by_cases ht : i = tok
   ·left
    rw [if_pos ht]
    have : ((C.kill tok).push (.tok b e (hw + news.length) cap)).m i = none:=by
     rw [push_m,kill_nx,kill_m,if_neg (by rw [h.nx]; exact hi),if_pos ht]
    rw [this]
    trivial
   ·right
    rw [if_neg ht]
    refine ⟨rfl,?_,fun ow how=>setRow_other w b _ _ (hne i ow ht how)⟩
    rw [push_m,kill_nx,kill_m,if_neg (by rw [h.nx]; exact hi),if_neg ht]
 ·rcases hC id ow hi with ⟨_,rfl⟩ | ⟨_,t1,h1⟩
  ·rfl
  ·exact absurd he (hne id ow t1 h1)

theorem run_append_zero {t e : TypeId} {i : TypeInfo} (ht : P.underlying t = some (.slice e)) (hi : P.info? e = some i) (ty : TypeId) (b ad : Option Addr) (l c c' : Nat) (hl : l ≤ c) (w : World) :
  (Builtin.append_ #[t,t] ty #[.slice b l c,.slice ad 0 c']).run P w = .ok (.slice b l c) w:=by
 cases b <;> cases ad <;> simp [Builtin.append_,run_underlying ht,sizeOf,typeInfo,hi,Builtin.lenOf,hl,Builtin.firstCells,loadCells,loadCellsFrom,storeCells]

theorem Rel.own_inv {e : TypeId} {xs : List AV} {tok : Nat} {v : Value} (h : Rel P w C (.own e xs tok) [v]) : ∃ b cap cf,v = .slice (some ⟨b,0,none⟩) xs.length cap ∧ xs.length ≤ cap ∧ cap ≤ maxLen ∧ (∀ (i : Nat) (x : AV),xs[i]? = some x → Rel P w C x (cf i)) ∧
   (∀ i x,xs[i]? = some x → (cf i).length = szOf P e ∧ fits P e x) ∧ SlReads w C (szOf P e) (some ⟨b,0,none⟩) xs.length cf ∧ ∀ ow,C.m tok = some ow → ow = .tok b e (xs.length * szOf P e) cap:=by
 cases h with
 | own cf h1 h2 h3 h4 h5 h6 h7=>exact ⟨_,_,cf,rfl,h1,h2,h3,h4,h5,h7⟩

theorem bytes_of {e : TypeId} {i : TypeInfo} (h : P.info? e = some i) : bytesOf P e = i.bytes:=by simp [bytesOf,h]

theorem ok_append (hr : RelO P W0 o w C A a) {x y : Operand} {t u e : TypeId} {v z : AV} {xs ys : List AV} (ho : o.op = .call { callee:=.builtin .append,args:=#[x,y],argTypes:=#[t,u] })
  (hx : Is P W0 o A x v) (hy : Is P W0 o A y z) (ht : elT P t = some e) (hu : elT P u = some e) (he : 0 < szOf P e) (hz0 : hasZero P e = true) (hb : Bld A.st v e xs) (hys : ReadL A.st z e ys)
  (hbytes : (xs.length + ys.length) * bytesOf P e ≤ 140737488355328) (hmax : xs.length + ys.length ≤ maxLen) :
  ∃ r w' C' v' σ',(execOp a.eval o).run P w = .ok (.value r) w' ∧ App A.st v e (xs ++ ys) v' σ' ∧ Step w C w' C' ∧ StRel P W0 w' C' σ' ∧ RelV P w' C' v' r:=by
 obtain ⟨inf,hinf,hsz⟩:=szOf_info he
 have htu:=elT_inv ht
 have hrun : ∀ b l c yv r w',(Builtin.append_ #[t,t] o.type #[.slice b l c,yv]).run P w = .ok r w' → a.eval x = .slice b l c → a.eval y = yv → (execOp a.eval o).run P w = .ok (.value r) w':=fun b l c yv r w' h h1 h2=>by
  rw [← run_append_types htu (elT_inv hu) hinf] at h
  simp [execOp,ho,resolve,invoke,builtin,h1,h2,h]
 have hxv:=hx w C a hr
 have hyv:=hy w C a hr
 obtain ⟨ady,capy,cfy,hye,y3,y4,y5⟩:=hys.cells hr.st hyv
 obtain ⟨bx,cx,hxe,hlx⟩ : ∃ b c,a.eval x = .slice b xs.length c ∧ xs.length ≤ c:=by
  rcases hb with ⟨rfl,rfl⟩ | rfl | ⟨tok,rfl,_⟩
  ·exact ⟨none,0,hxv.nils_inv,Nat.le_refl _⟩
  ·have:=hxv.one_inv rfl
   generalize a.eval x = v at this
   cases this with
   | lit=>exact ⟨_,_,rfl,Nat.le_refl _⟩
  ·obtain ⟨b,cap,cf,h1,h2,_⟩:=(hxv.one_inv rfl).own_inv
   exact ⟨_,_,h1,h2⟩
 cases hyl : ys with
 | nil =>
  subst hyl
  refine ⟨_,w,C,v,A.st,hrun _ _ _ _ _ _ (run_append_zero htu hinf _ _ _ _ _ _ hlx w) hxe hye,⟨by simpa using hb,Nat.le_refl _,fun _ _ _=>rfl,.inl rfl⟩,.refl _ _,hr.st,by rw [← hxe]; exact hxv⟩
 | cons y0 yr =>
  rw [← hyl]
  have hpos : 0 < ys.length:=by simp [hyl]
  obtain ⟨by_,oy,rfl,news,n1,n2,n3,n4⟩:=y5 hpos
  have n2' : ∀ j u,news[j]? = some u → w.cell? ((⟨by_,oy,none⟩ : Addr).add j) = some u:=fun j u hj=>by rw [Addr.add_lit]; exact n2 j u hj
  obtain ⟨inf',z0,hinf',hiz,hzs⟩:=hasZero_inv hz0
  obtain rfl : inf' = inf:=by rw [hinf] at hinf'; exact (Option.some.inj hinf').symm
  have hmax' : xs.length + ys.length ≤ 9223372036854775807:=by unfold maxLen at hmax; omega
  rw [bytes_of hinf] at hbytes
  rcases hb with ⟨rfl,rfl⟩ | rfl | ⟨tok,rfl,htok⟩
  ·-- a nil slice
   simp only [List.length_nil,Nat.zero_add] at hbytes hmax hmax'
   have hxe':=hxv.nils_inv
   have hap:=run_append_nil (P:=P) w t o.type e inf' z0 htu hinf hiz ⟨by_,oy,none⟩ ys.length capy news (by rw [n1,hsz]) n2' hpos (by omega) (by omega)
   have hge:=grownCap_ge w ys.length 0 e
   have hcap:=grownCap_le_maxLen w ys.length 0 e hmax
   obtain ⟨C',g1,g2,g3⟩:=own_new (P:=P) (W0:=W0) hr.st.drew (e:=e) (zs:=ys) (cap:=grownCap w ys.length 0 e) (arr:=news.toArray ++ Builtin.zeroCells z0.cells (grownCap w ys.length 0 e - ys.length)) (cf:=cfy) hge hcap
    (by simp only [Array.size_append,List.size_toArray,size_zeroCells,n1,hzs,← Nat.add_mul]; congr 1; omega)
    (fun i x hx=>⟨(y3 i x hx).mono (Step.drew w C),(y4 i x hx).1,(y4 i x hx).2,fun j u hj=>by
     have:=n4 i x hx j u hj
     rw [Array.getElem?_append_left (by simpa using (List.getElem?_eq_some_iff.1 this).1)]
     simpa using this⟩)
   refine ⟨_,_,C',_,_,hrun _ _ _ _ _ _ hap hxe' hye,⟨.inr (.inr ⟨_,rfl,by simp⟩),by simp,fun id hid _=>by rw [List.getElem?_append_left hid],.inr ⟨_,rfl,Nat.le_refl _⟩⟩,(Step.drew w C).trans g1,g2,g3⟩
  ·-- a list as long as its row
   obtain ⟨adx,capx,cfx,hxq,x1,x2,x3,x4,x5⟩:=(hxv.one_inv rfl).sl_of (.inr (.inl rfl))
   have hcx : capx = xs.length:=by
    have:=hxv.one_inv rfl
    rw [hxq] at this
    cases this
    rfl
   subst hcx
   have hlen : (xs ++ ys).length = xs.length + ys.length:=by simp
   have hgetl : ∀ i x,(xs ++ ys)[i]? = some x → (i < xs.length ∧ xs[i]? = some x) ∨ (xs.length ≤ i ∧ ys[i - xs.length]? = some x):=fun i x hx=>by
    by_cases hi : i < xs.length
    ·rw [List.getElem?_append_left hi] at hx; exact .inl ⟨hi,hx⟩
    ·rw [List.getElem?_append_right (by omega)] at hx; exact .inr ⟨by omega,hx⟩
   have hge:=grownCap_ge w (xs.length + ys.length) xs.length e
   have hcap:=grownCap_le_maxLen w (xs.length + ys.length) xs.length e hmax
   have fin : ∀ (olds : List Value),olds.length = xs.length * szOf P e → (∀ i x,xs[i]? = some x → ∀ (j : Nat) (u : Value),(cfx i)[j]? = some u → olds[i * szOf P e + j]? = some u) →
     (Builtin.append_ #[t,t] o.type #[.slice adx xs.length xs.length,a.eval y]).run P w = .ok (.slice (some ⟨w.heap.size,0,none⟩) (xs.length + ys.length) (grownCap w (xs.length + ys.length) xs.length e)) (w.drew.alloc (.cells (olds.toArray ++ news.toArray ++ Builtin.zeroCells z0.cells (grownCap w (xs.length + ys.length) xs.length e - (xs.length + ys.length))) e)) →
     ∃ r w' C' v' σ',(execOp a.eval o).run P w = .ok (.value r) w' ∧ App A.st (.lit e xs) e (xs ++ ys) v' σ' ∧ Step w C w' C' ∧ StRel P W0 w' C' σ' ∧ RelV P w' C' v' r:=fun olds p1 p4 hap=>by
    obtain ⟨C',g1,g2,g3⟩:=own_new (P:=P) (W0:=W0) hr.st.drew (e:=e) (zs:=xs ++ ys) (cap:=grownCap w (xs.length + ys.length) xs.length e)
     (arr:=olds.toArray ++ news.toArray ++ Builtin.zeroCells z0.cells (grownCap w (xs.length + ys.length) xs.length e - (xs.length + ys.length))) (cf:=fun i=>if i < xs.length then cfx i else cfy (i - xs.length)) (by rw [hlen]; exact hge) hcap
     (by simp only [Array.size_append,List.size_toArray,size_zeroCells,p1,n1,hzs,← Nat.add_mul]; congr 1; omega)
     (fun i x hx=>by
      rcases hgetl i x hx with ⟨hi,hx'⟩ | ⟨hi,hx'⟩
      ·simp only [hi,if_true]
       refine ⟨(x3 i x hx').mono (Step.drew w C),(x4 i x hx').1,(x4 i x hx').2,fun j u hj=>?_⟩
       have:=p4 i x hx' j u hj
       have hl:=(List.getElem?_eq_some_iff.1 this).1
       rw [Array.getElem?_append_left (by simp; omega),Array.getElem?_append_left (by simpa using hl)]
       simpa using this
      ·simp only [show ¬ i < xs.length by omega,if_false]
       refine ⟨(y3 _ x hx').mono (Step.drew w C),(y4 _ x hx').1,(y4 _ x hx').2,fun j u hj=>?_⟩
       have:=n4 _ x hx' j u hj
       have hl:=(List.getElem?_eq_some_iff.1 this).1
       have hmul : i * szOf P e = xs.length * szOf P e + (i - xs.length) * szOf P e:=by rw [← Nat.add_mul]; congr 1; omega
       rw [Array.getElem?_append_left (by simp; omega),Array.getElem?_append_right (by simp; omega)]
       simp only [List.size_toArray,p1,List.getElem?_toArray]
       rw [show i * szOf P e + j - xs.length * szOf P e = (i - xs.length) * szOf P e + j by omega]
       exact this)
    rw [hlen] at g3
    exact ⟨_,_,C',_,_,hrun _ _ _ _ _ _ hap hxq rfl,⟨.inr (.inr ⟨_,rfl,by simp⟩),by simp,fun id hid _=>by rw [List.getElem?_append_left hid],.inr ⟨_,rfl,Nat.le_refl _⟩⟩,(Step.drew w C).trans g1,g2,g3⟩
   rw [hye] at fin
   cases adx with
   | none =>
    have hx0 : xs = []:=by
     cases xs with
     | nil=>rfl
     | cons c r=>obtain ⟨b,off,e1,_⟩:=x5 (by simp); cases e1
    subst hx0
    simp only [List.length_nil,Nat.zero_add] at hbytes hmax hmax' fin
    have hap:=run_append_nil (P:=P) w t o.type e inf' z0 htu hinf hiz ⟨by_,oy,none⟩ ys.length capy news (by rw [n1,hsz]) n2' hpos (by omega) (by omega)
    exact fin [] (by simp) (by simp) (by simpa using hap)
   | some b0 =>
    have hcells : ∃ olds : List Value,olds.length = xs.length * szOf P e ∧ (∀ (j : Nat) (u : Value),olds[j]? = some u → w.cell? (b0.add j) = some u) ∧ ∀ i x,xs[i]? = some x → ∀ (j : Nat) (u : Value),(cfx i)[j]? = some u → olds[i * szOf P e + j]? = some u:=by
     by_cases hxl : xs = []
     ·subst hxl; exact ⟨[],by simp,by simp,by simp⟩
     ·have hxp : 0 < xs.length:=by cases xs with | nil=>exact absurd rfl hxl | cons=>simp
      obtain ⟨bx',ox',e1,x6⟩:=x5 hxp
      cases e1
      obtain ⟨olds,p1,p2,p3,p4⟩:=list_cells x3 x4 x6
      exact ⟨olds,p1,fun j u hj=>by rw [Addr.add_lit]; exact p2 j u hj,p4⟩
    obtain ⟨olds,p1,p2,p4⟩:=hcells
    exact fin olds p1 p4 (run_append_grow (P:=P) w t o.type e inf' z0 htu hinf hiz b0 xs.length xs.length olds (by rw [p1,hsz]) p2 ⟨by_,oy,none⟩ ys.length capy news (by rw [n1,hsz]) n2' (by omega) (by omega) (growslice_fits (by omega) hbytes))
  ·-- a row of the call's own
   obtain ⟨b,cap,cf,hxq,c1,c2,c3,c4,c5,c6⟩:=(hxv.one_inv rfl).own_inv
   obtain ⟨b',e',hw,cap',arr,t1,t2,t3,t4⟩:=hr.st.tok htok
   have t5:=c6 _ t1
   cases t5
   have htl : tok < A.st.length:=(List.getElem?_eq_some_iff.1 htok).1
   have hlen : (xs ++ ys).length = xs.length + ys.length:=by simp
   have hgetl : ∀ i x,(xs ++ ys)[i]? = some x → (i < xs.length ∧ xs[i]? = some x) ∨ (xs.length ≤ i ∧ ys[i - xs.length]? = some x):=fun i x hx=>by
    by_cases hi : i < xs.length
    ·rw [List.getElem?_append_left hi] at hx; exact .inl ⟨hi,hx⟩
    ·rw [List.getElem?_append_right (by omega)] at hx; exact .inr ⟨by omega,hx⟩
   have hxcells : ∀ (i : Nat) (x : AV),xs[i]? = some x → ∀ (j : Nat) (u : Value),(cf i)[j]? = some u → arr[i * szOf P e + j]? = some u ∧ i * szOf P e + j < xs.length * szOf P e:=fun i x hx j u hj=>by
    have hi:=(List.getElem?_eq_some_iff.1 hx).1
    obtain ⟨b2,o2,e2,hc⟩:=c5 (by omega)
    cases e2
    have h1:=(hc i hi j u hj).1
    simp only [World.cell?,t2,Nat.zero_add,Option.isSome_none,Bool.false_eq_true,if_false] at h1
    have hjl : j < szOf P e:=by rw [← (c4 i x hx).1]; exact (List.getElem?_eq_some_iff.1 hj).1
    have : (i + 1) * szOf P e ≤ xs.length * szOf P e:=Nat.mul_le_mul_right _ hi
    rw [Nat.succ_mul] at this
    exact ⟨h1,by omega⟩
   by_cases hroom : xs.length + ys.length ≤ cap
   ·-- in place
    have hfit : xs.length * szOf P e + news.length ≤ arr.size:=by rw [n1,t3,← Nat.add_mul]; exact Nat.mul_le_mul_right _ hroom
    have hap:=run_append_room (P:=P) w t o.type e inf' htu hinf b xs.length cap arr t2 ⟨by_,oy,none⟩ ys.length capy news (by rw [n1,hsz]) n2' n3 hroom (by rw [hsz]; exact hfit)
    rw [hsz] at hap
    replace hap : _ = Result.ok _ (w.setRow b (splice arr (xs.length * szOf P e) news)):=hap
    obtain ⟨C',g1,g2,g3,g4,g5⟩:=tok_grow hr.st htok t1 t2 t3 hfit
    have hnewcell : ∀ i,(w.setRow b (splice arr (xs.length * szOf P e) news)).cell? ⟨b,i,none⟩ = (splice arr (xs.length * szOf P e) news)[i]?:=fun i=>cell_setRow_same w b i arr _ e _ t2
    refine ⟨_,_,C',.own e (xs ++ ys) A.st.length,_,hrun _ _ _ _ _ _ hap hxq hye,⟨.inr (.inr ⟨_,rfl,by simp⟩),by simp,fun id hid hne=>?_,.inr ⟨_,rfl,Nat.le_refl _⟩⟩,g1,g2,?_⟩
    ·rw [List.getElem?_append_left (by simpa using hid),List.getElem?_set_ne (fun e=>hne (by simp [tokOf,e]))]
    ·rw [← hlen]
     refine .one rfl (.own (fun i=>if i < xs.length then cf i else cfy (i - xs.length)) (by rw [hlen]; exact hroom) c2 (fun i x hx=>?_) (fun i x hx=>?_) (fun _=>⟨b,0,rfl,fun i hi j u hj=>?_⟩) (by rw [g3]; omega) (fun ow how=>?_))
     ·rcases hgetl i x hx with ⟨hi,hx'⟩ | ⟨hi,hx'⟩
      ·rw [if_pos hi]; exact (c3 i x hx').mono g1
      ·rw [if_neg (by omega)]; exact (y3 _ x hx').mono g1
     ·rcases hgetl i x hx with ⟨hi,hx'⟩ | ⟨hi,hx'⟩
      ·simp only [hi,if_true]; exact c4 i x hx'
      ·simp only [show ¬ i < xs.length by omega,if_false]; exact y4 _ x hx'
     ·have hst : ∀ k,k < xs.length * szOf P e + news.length → Stable (w.setRow b (splice arr (xs.length * szOf P e) news)) C' b k:=fun k hk =>
       ⟨by simpa using (Array.getElem?_eq_some_iff.1 t2).1,fun id ow hm hbk=>⟨_,_,_,g5 id ow hm hbk,hk⟩⟩
      rw [hnewcell,Nat.zero_add,splice_get hfit]
      by_cases hix : i < xs.length
      ·simp only [hix,if_true] at hj
       obtain ⟨q1,q2⟩:=hxcells i _ (List.getElem?_eq_getElem hix) j u hj
       rw [if_neg (by omega)]
       exact ⟨q1,hst _ (by omega)⟩
      ·simp only [hix,if_false] at hj
       rw [hlen] at hi
       have hyi:=List.getElem?_eq_getElem (show i - xs.length < ys.length by omega)
       have hnw:=n4 _ _ hyi j u hj
       have hnl:=(List.getElem?_eq_some_iff.1 hnw).1
       have hmul : i * szOf P e = xs.length * szOf P e + (i - xs.length) * szOf P e:=by rw [← Nat.add_mul]; congr 1; omega
       rw [if_pos (by omega),show i * szOf P e + j - xs.length * szOf P e = (i - xs.length) * szOf P e + j by omega]
       exact ⟨hnw,hst _ (by omega)⟩
     ·rw [g4] at how
      cases how
      rw [n1,hlen,Nat.add_mul]
   ·-- a new row
    obtain ⟨olds,p1,p2,p3,p4⟩:=list_cells (P:=P) (e:=e) (b:=b) (off:=0) c3 c4 (fun i hi=>by
     obtain ⟨b2,o2,e2,hc⟩:=c5 (by omega)
     cases e2
     exact hc i hi)
    have hap:=run_append_grow (P:=P) w t o.type e inf' z0 htu hinf hiz ⟨b,0,none⟩ xs.length cap olds (by rw [p1,hsz]) (fun j u hj=>by rw [Addr.add_lit]; exact p2 j u hj) ⟨by_,oy,none⟩ ys.length capy news (by rw [n1,hsz]) n2' (by omega) (by omega) (growslice_fits (by omega) hbytes)
    have hge:=grownCap_ge w (xs.length + ys.length) cap e
    have hcap:=grownCap_le_maxLen w (xs.length + ys.length) cap e hmax
    obtain ⟨k1,k2⟩:=hr.st.kill tok htl
    obtain ⟨C',g1,g2,g3⟩:=own_new (P:=P) (W0:=W0) k2.drew (e:=e) (zs:=xs ++ ys) (cap:=grownCap w (xs.length + ys.length) cap e)
     (arr:=olds.toArray ++ news.toArray ++ Builtin.zeroCells z0.cells (grownCap w (xs.length + ys.length) cap e - (xs.length + ys.length))) (cf:=fun i=>if i < xs.length then cf i else cfy (i - xs.length)) (by rw [hlen]; exact hge) hcap
     (by simp only [Array.size_append,List.size_toArray,size_zeroCells,p1,n1,hzs,← Nat.add_mul]; congr 1; omega)
     (fun i x hx=>by
      have hs:=k1.trans (Step.drew w _)
      rcases hgetl i x hx with ⟨hi,hx'⟩ | ⟨hi,hx'⟩
      ·simp only [hi,if_true]
       refine ⟨(c3 i x hx').mono hs,(c4 i x hx').1,(c4 i x hx').2,fun j u hj=>?_⟩
       have:=p4 i x hx' j u hj
       have hl:=(List.getElem?_eq_some_iff.1 this).1
       rw [Array.getElem?_append_left (by simp; omega),Array.getElem?_append_left (by simpa using hl)]
       simpa using this
      ·simp only [show ¬ i < xs.length by omega,if_false]
       refine ⟨(y3 _ x hx').mono hs,(y4 _ x hx').1,(y4 _ x hx').2,fun j u hj=>?_⟩
       have:=n4 _ x hx' j u hj
       have hl:=(List.getElem?_eq_some_iff.1 this).1
       have hmul : i * szOf P e = xs.length * szOf P e + (i - xs.length) * szOf P e:=by rw [← Nat.add_mul]; congr 1; omega
       rw [Array.getElem?_append_left (by simp; omega),Array.getElem?_append_right (by simp; omega)]
       simp only [List.size_toArray,p1,List.getElem?_toArray]
       rw [show i * szOf P e + j - xs.length * szOf P e = (i - xs.length) * szOf P e + j by omega]
       exact this)
    rw [hlen] at g3
    rw [List.length_set] at g3
    refine ⟨_,_,C',_,_,hrun _ _ _ _ _ _ hap hxq hye,⟨.inr (.inr ⟨A.st.length,rfl,by simp⟩),by simp,fun id hid hne=>?_,.inr ⟨_,rfl,Nat.le_refl _⟩⟩,(k1.trans (Step.drew w _)).trans g1,g2,g3⟩
    rw [List.getElem?_append_left (by simpa using hid),List.getElem?_set_ne (fun e=>hne (by simp [tokOf,e]))]
end
end Go.Av
end
