/- Texts that the last one of this claim rests on: a layer over the guide's own conditions for code; contracts of the functions that the law reaches, one by one. No conditions beside those of the given rows. -/
import Derived.Deep.LoopGhost
import Derived.Test.YtnblgnafgdmcaaaGreatDoorWae
section
set_option linter.unusedSimpArgs false
set_option linter.unusedVariables false
namespace Go.Av
open Go

/-- A list that a call builds: nothing yet, or a row that may still be appended to. -/
def Bld (σ : Store) (v : AV) (e : TypeId) (xs : List AV) : Prop := (v = .nils ∧ xs = []) ∨ v = .lit e xs ∨ ∃ tok, v = .own e xs tok ∧ σ[tok]? = some (some .tok)

def tokOf : AV → Option Nat
  | .own _ _ t => some t
  | _ => none

/-- What appending comes to. -/
structure App (σ : Store) (x : AV) (e : TypeId) (zs : List AV) (v : AV) (σ' : Store) : Prop where
  bld : Bld σ' v e zs
  len : σ.length ≤ σ'.length
  old : ∀ id, id < σ.length → tokOf x ≠ some id → σ'[id]? = σ[id]?
  tok : tokOf v = tokOf x ∨ ∃ t, tokOf v = some t ∧ σ.length ≤ t

def bytesOf (P : Program) (e : TypeId) : Nat := match P.info? e with | some i => i.bytes | none => 0

/-- A list that is read: by value, or out of a row. -/
def ReadL (σ : Store) (z : AV) (e : TypeId) (ys : List AV) : Prop := z.asList = some (e, ys) ∨ (z = .nils ∧ ys = []) ∨ ∃ id off m zs, z = .row e id off m ∧ σ[id]? = some (some (.cells e zs)) ∧ off + m ≤ zs.length ∧ ys = (zs.drop off).take m

/-- What a row that is appended to starts with. -/
def RowSt (σ : Store) (x : AV) (e : TypeId) (xs : List AV) : Prop := (x = .nils ∧ xs = []) ∨ x = .lit e xs ∨ ∃ id off m zs, x = .row e id off m ∧ σ[id]? = some (some (.cells e zs)) ∧ off + m ≤ zs.length ∧ xs = (zs.drop off).take m

def killOf (x : AV) (σ : Store) : Store := match x with | .row _ id _ _ => σ.set id none | _ => σ

def appendVC (P : Program) (σ : Store) (ts : List TypeId) (x y : AV) (K : AV → Store → Prop) : Prop :=
  match ts with
  | [t, u] => ∃ e xs ys, (elT P t = some e ∧ elT P u = some e ∧ 0 < szOf P e ∧ hasZero P e = true) ∧ Bld σ x e xs ∧ ReadL σ y e ys ∧ (xs.length + ys.length) * bytesOf P e ≤ 140737488355328 ∧
      xs.length + ys.length ≤ maxLen ∧ ∀ v σ', App σ x e (xs ++ ys) v σ' → K v σ'
  | _ => False

/-- Zero elements behind nil: a new row. -/
def appendZeroVC (P : Program) (σ : Store) (ts : List TypeId) (x y : AV) (K : AV → Store → Prop) : Prop :=
  match ts with
  | [t, u] => ∃ e m z k kn, (x = .nils ∧ y = .int k (m : Nat)) ∧ (elT P t = some e ∧ P.underlying u = some (.int kn) ∧ 0 < szOf P e ∧ hasZero P e = true ∧ zeroOf P e = some z) ∧ 0 < m ∧ m * bytesOf P e ≤ 140737488355328 ∧ m ≤ maxLen ∧
      K (.row e σ.length 0 m) (σ ++ [some (.cells e (List.replicate m z))])
  | _ => False

def appendRowVC (P : Program) (σ : Store) (ts : List TypeId) (x y : AV) (K : AV → Store → Prop) : Prop :=
  match ts with
  | [t, u] => ∃ e xs ys, (elT P t = some e ∧ elT P u = some e ∧ 0 < szOf P e ∧ hasZero P e = true) ∧ RowSt σ x e xs ∧ ReadL σ y e ys ∧ (xs.length + ys.length) * bytesOf P e ≤ 140737488355328 ∧
      xs.length + ys.length ≤ maxLen ∧ (ys = [] → K x σ) ∧ (ys ≠ [] → K (.row e σ.length 0 (xs.length + ys.length)) (killOf x σ ++ [some (.cells e (xs ++ ys))]))
  | _ => False

def makeVC (P : Program) (A : AState) (t : TypeId) (u v : AV) (K : AV → Store → Prop) : Prop :=
  match u, v with
  | .int _ m, .int _ m' => m' = m ∧ (match elT P t with
    | some e => (match zeroOf P e with
      | some z => 0 < szOf P e ∧ 0 ≤ m ∧ m.toNat * bytesOf P e ≤ 281474976710656 ∧ m.toNat ≤ maxLen ∧ K (.row e A.st.length 0 m.toNat) (A.st ++ [some (.cells e (List.replicate m.toNat z))])
      | none => False)
    | none => False)
  | _, _ => False

/-- A list with some elements written over. -/
def laidL (zs : List AV) (k : Nat) (ys : List AV) : List AV := zs.take k ++ ys ++ zs.drop (k + ys.length)

/-- An append that stays within a row. -/
def appendInVC (P : Program) (σ : Store) (ts : List TypeId) (x y : AV) (K : AV → Store → Prop) : Prop :=
  match ts with
  | [t, u] => ∃ e id off m zs ys, (elT P t = some e ∧ elT P u = some e ∧ 0 < szOf P e) ∧ x = .row e id off m ∧ σ[id]? = some (some (.cells e zs)) ∧ ReadL σ y e ys ∧ off + m + ys.length ≤ zs.length ∧
      K (.row e id off (m + ys.length)) (σ.set id (some (.cells e (laidL zs (off + m) ys))))
  | _ => False

/-- An append to a whole row that stays: within its room, or somewhere else. -/
def appendKeepVC (P : Program) (σ : Store) (ts : List TypeId) (x y : AV) (K : AV → Store → Prop) : Prop :=
  match ts with
  | [t, u] => ∃ e id off m zs ys, (elT P t = some e ∧ elT P u = some e ∧ 0 < szOf P e ∧ hasZero P e = true) ∧ x = .row e id off m ∧ σ[id]? = some (some (.cells e zs)) ∧ off + m = zs.length ∧ ReadL σ y e ys ∧ (m + ys.length) * bytesOf P e ≤ 140737488355328 ∧ m + ys.length ≤ maxLen ∧
      K (.row e id off (m + ys.length)) (σ.set id (some (.cells e (zs ++ ys)))) ∧ K (.row e σ.length 0 (m + ys.length)) (σ ++ [some (.cells e (zs.drop off ++ ys))])
  | _ => False

def clearVC (P : Program) (σ : Store) (ts : List TypeId) (x : AV) (K : Store → Prop) : Prop :=
  match ts with
  | [t] => ∃ e id off m zs v, (elT P t = some e ∧ 0 < szOf P e ∧ zeroOf P e = some v) ∧ x = .row e id off m ∧ σ[id]? = some (some (.cells e zs)) ∧ off + m ≤ zs.length ∧
      K (σ.set id (some (.cells e (laidL zs off (List.replicate m v)))))
  | _ => False

/-- A slice beyond a row's length, or one whose room is cut. -/
def overVC (P : Program) (A : AState) (t : TypeId) (u : AV) (lo hi mx : Option Operand) (K : AV → Prop) : Prop :=
  match u with
  | .row e id off m => (elT P t = some e ∧ 0 < szOf P e) ∧ (match mx with
    | none => bndVC none A lo 0 fun p => bndVC none A hi m fun q => (p ≤ q ∧ ∃ te zs, A.st[id]? = some (some (.cells te zs)) ∧ off + q ≤ zs.length) ∧ K (.row e id (off + p) (q - p))
    | some _ => (lo.isSome = true ∧ hi.isSome = true) ∧ bndVC none A lo 0 fun p => bndVC none A hi m fun q => bndVC none A mx m fun r => (p ≤ q ∧ q ≤ r ∧ r ≤ m) ∧ K .undef)
  | _ => False

def putVC (P : Program) (σ : Store) (t : TypeId) (u k v : AV) (K : Store → Prop) : Prop :=
  match u with
  | .mp id => ∃ kt vt l, mapT P t = some (kt, vt) ∧ Maps.Keyed P kt ∧ keyC P kt k ∧ (rig1 v).isSome = true ∧ σ[id]? = some (some (.mp kt l)) ∧ K (σ.set id (some (.mp kt (mset P l k v))))
  | _ => False

def storeVC (P : Program) (fz : List Nat) (A : AState) (t : TypeId) (x : Operand) (u v : AV) (K : AState → Prop) : Prop :=
  match u with
  | .ptr t' id i path => (t' = t ∧ fitsB P t v = true) ∧ (match A.st[id]? with
    | some (some (.cells te xs)) => (match xs[i]? with
      | some z => (match z.at path with
        | some _ => (match x with
          | .tmp d => if fz.contains d then path = [] ∧ K ((A.upd d (.loc t v)).withSt (A.st.set id none)) else K (A.withSt (A.st.set id (some (.cells te (xs.set i (z.setAt path v))))))
          | _ => False)
        | none => False)
      | none => False)
    | _ => False)
  | _ => False

def dstOk (n : Nat) : Option Nat → Prop
  | some d => d < n
  | none => True

def opVC (P : Program) (W0 : World) (n : Nat) (fz : List Nat) (o : Oper) (A : AState) (K : AState → Prop) : Prop :=
  dstOk n o.dst ∧ (match o.op with
  | .call c => (match c.callee with
    | .value f => strip none (A.val f) fun fv => stripL none (c.args.toList.map A.val) fun us => (match fv with
      | .fn g caps => ACall P W0 g (us ++ caps) A.st fun r σ' => K ((A.put o.dst r).withSt (σ'))
      | _ => False)
    | .builtin .append => stripL none (c.args.toList.map A.val) fun us => (match us with
      | [x, y] => (appendVC P A.st c.argTypes.toList x y fun v σ' => K ((A.put o.dst v).withSt (σ'))) ∨ (appendRowVC P A.st c.argTypes.toList x y fun v σ' => K ((A.put o.dst v).withSt (σ'))) ∨ (appendZeroVC P A.st c.argTypes.toList x y fun v σ' => K ((A.put o.dst v).withSt (σ'))) ∨ appendInVC P A.st c.argTypes.toList x y (fun v σ' => K ((A.put o.dst v).withSt (σ'))) ∨ appendKeepVC P A.st c.argTypes.toList x y fun v σ' => K ((A.put o.dst v).withSt (σ'))
      | _ => False)
    | .builtin .clear => stripL none (c.args.toList.map A.val) fun us => (match us with
      | [x] => clearVC P A.st c.argTypes.toList x fun σ' => K ((A.put o.dst (.tup [])).withSt (σ'))
      | _ => False)
    | _ => valVC P W0 none o.op A fun v => K (A.put o.dst v))
  | .box t x => (match o.dst with
    | some d => if fz.contains d then strip none (A.val x) fun v => fitsB P t v = true ∧ K (A.upd d (.loc t v))
      else strip none (A.val x) fun v => fitsB P t v = true ∧ K ((A.upd d (.ptr t A.st.length 0 [])).withSt (A.st ++ [some (.cells t [v])]))
    | none => False)
  | .alloc t => (match zeroOf P t with
    | some v => K ((A.put o.dst (.ptr t A.st.length 0 [])).withSt (A.st ++ [some (.cells t [v])]))
    | none => False)
  | .makeSlice t x y => strip none (A.val x) fun u => strip none (A.val y) fun v => makeVC P A t u v fun r σ' => K ((A.put o.dst r).withSt σ')
  | .store t x y => strip none (A.val x) fun u => strip none (A.val y) fun v => storeVC P fz A t x u v fun A' => K (A'.put o.dst .undef)
  | .range t x => isStrT P t = true ∧ strip none (A.val x) fun u => (match u with
    | .str l => K ((A.put o.dst (.it A.st.length)).withSt (A.st ++ [some (.iter l 0)]))
    | _ => False)
  | .next x true => strip none (A.val x) fun u => (match u with
    | .it id => (match A.st[id]? with
      | some (some (.iter l pos)) => (pos < l.length → K ((A.put o.dst (.tup [.bool true, .int .i64 pos, .int .i32 (decAt l pos).1])).withSt (A.st.set id (some (.iter l (pos + (decAt l pos).2)))))) ∧ (l.length ≤ pos → K (A.put o.dst (.tup [.bool false])))
      | _ => False)
    | _ => False)
  | .slice t x lo hi mx => (valVC P W0 none o.op A fun v => K (A.put o.dst v)) ∨ strip none (A.val x) fun u => overVC P A t u lo hi mx fun v => K (A.put o.dst v)
  | .makeMap t none => (match mapT P t with
    | some (kt, _) => K ((A.put o.dst (.mp A.st.length)).withSt (A.st ++ [some (.mp kt [])]))
    | none => False)
  | .mapUpdate t x ix y => strip none (A.val x) fun u => strip none (A.val ix) fun k => strip none (A.val y) fun v => putVC P A.st t u k v fun σ' => K ((A.put o.dst .undef).withSt (σ'))
  | _ => valVC P W0 none o.op A fun v => K (A.put o.dst v))

/-- The condition under which a guarded operation is carried out. -/
def gdOf (ops : Array Oper) (A : AState) (j : Nat) (want : Bool) : Option Bool :=
  match (ops[j]?).bind (·.dst) with
  | some d => (match A.env d with
    | .bool b => some (b == want)
    | .maybe g (.bool b) => some (g && (b == want))
    | .maybe false _ => some false
    | _ => none)
  | none => none

def opsVC (P : Program) (W0 : World) (n : Nat) (fz : List Nat) (ops : Array Oper) : List Oper → (AState → Prop) → AState → Prop
  | [], K, A => K A
  | o :: r, K, A => match o.guard with
    | none => opVC P W0 n fz o A fun A' => opsVC P W0 n fz ops r K A'
    | some (j, want) => (match gdOf ops A j want with
      | some G => dstOk n o.dst ∧ ((valVC P W0 (some G) o.op A fun v => opsVC P W0 n fz ops r K (A.put o.dst (.maybe G v))) ∨
        ((G = true → opVC P W0 n fz o A fun A' => opsVC P W0 n fz ops r K A') ∧ (G = false → ∃ v, opsVC P W0 n fz ops r K (A.put o.dst (.maybe false v)))))
      | none => False)

/-- The code, from an abstract state: it ends, and so. -/
def VC (P : Program) (W0 : World) (n : Nat) (c : Code) (Q : Exit → AState → Prop) (A : AState) : Prop :=
  ∀ w C a, RelA P W0 n w C A a → c.wp P (fun e a' w' => ∃ A' C', Q e A' ∧ RelA P W0 n w' C' A' a' ∧ Step w C w' C') a w

section
variable {P : Program} {W0 w w' : World} {C C' : Ctx} {σ σ' : Store} {n : Nat} {A : AState} {a : Act} {o : Oper} {Q : Exit → AState → Prop}

theorem VC.skip (h : Q .normal A) : VC P W0 n .skip Q A := fun _ C _ hr => wp_skip ⟨A, C, h, hr, .refl _ _⟩
theorem VC.ret (h : Q .ret A) : VC P W0 n .ret Q A := fun _ C _ hr => wp_ret ⟨A, C, h, hr, .refl _ _⟩
theorem VC.exit {id : Nat} (h : Q (.exit id) A) : VC P W0 n (.exit id) Q A := fun _ C _ hr => wp_exit ⟨A, C, h, hr, .refl _ _⟩

theorem VC.mono {c : Code} {Q' : Exit → AState → Prop} (h : VC P W0 n c Q A) (hq : ∀ e A, Q e A → Q' e A) : VC P W0 n c Q' A :=
  fun w C a hr => wp_mono (h w C a hr) fun _ _ _ ⟨A', C', q, r, s⟩ => ⟨A', C', hq _ _ q, r, s⟩

/-- What follows, where the code goes on. -/
def thenQ (K : AState → Prop) (Q : Exit → AState → Prop) : Exit → AState → Prop
  | .normal, A => K A
  | e, A => Q e A

theorem VC.seq {x y : Code} (h : VC P W0 n x (thenQ (VC P W0 n y Q) Q) A) : VC P W0 n (.seq x y) Q A := fun w C a hr =>
  wp_seq (wp_mono (h w C a hr) fun e a' w' ⟨A', C', q, r, s⟩ => by
    cases e with
    | normal => exact wp_mono (q w' C' a' r) fun _ _ _ ⟨A'', C'', q', r', s'⟩ => ⟨A'', C'', q', r', s.trans s'⟩
    | _ => exact ⟨A', C', q, r, s⟩)

theorem VC.cond {c : Operand} {x y : Code} {b : Bool} (hc : A.val c = .bool b) (ht : b = true → VC P W0 n x Q A) (hf : b = false → VC P W0 n y Q A) : VC P W0 n (.cond c x y) Q A := fun w C a hr => by
  have hv := hr.val c
  rw [hc] at hv
  exact wp_cond_split hv.bool_inv (fun h => ht h w C a hr) (fun h => hf h w C a hr)

def blockQ (id : Nat) (Q : Exit → AState → Prop) : Exit → AState → Prop
  | .exit id', A => if id' = id then Q .normal A else Q (.exit id') A
  | e, A => Q e A

theorem VC.block {id : Nat} {c : Code} (h : VC P W0 n c (blockQ id Q) A) : VC P W0 n (.block id c) Q A := fun w C a hr =>
  wp_block (wp_mono (h w C a hr) fun e a' w' ⟨A', C', q, r, s⟩ => by
    cases e with
    | exit id' =>
      simp only [blockQ] at q
      simp only [Exit.inBlock]
      split at q
      · rename_i he; rw [if_pos he]; exact ⟨A', C', q, r, s⟩
      · rename_i he; rw [if_neg he]; exact ⟨A', C', q, r, s⟩
    | _ => exact ⟨A', C', q, r, s⟩)

/-- A loop: what holds at each round's head, with a number that falls. -/
theorem VC.loop {c : Code} (I : Nat → AState → Prop) (k₀ : Nat) (h₀ : I k₀ A) (round : ∀ k A, I k A → VC P W0 n c (thenQ (fun A' => ∃ k', k' < k ∧ I k' A') Q) A) : VC P W0 n (.loop c) Q A := fun w C a hr =>
  wp_loop_ghost (fun k a' w' => ∃ A' C', I k A' ∧ RelA P W0 n w' C' A' a' ∧ Step w C w' C') k₀ ⟨A, C, h₀, hr, .refl _ _⟩ fun k a' w' ⟨A', C', hI, hr', hs⟩ =>
    wp_mono (round k A' hI w' C' a' hr') fun e a'' w'' ⟨A'', C'', q, r, s⟩ => by
      cases e with
      | normal =>
        obtain ⟨k', hk, hI'⟩ := q
        exact ⟨k', hk, A'', C'', hI', r, hs.trans s⟩
      | _ => exact ⟨A'', C'', q, r, hs.trans s⟩

theorem put_rel (hr : RelA P W0 n w C A a) {v : AV} {x : Value} (hd : dstOk n o.dst) (hv : RelV P w C v x) : RelA P W0 n w C (A.put o.dst v) (a.put o.dst x) := by
  cases ho : o.dst with
  | none => simpa [AState.put, Act.put] using hr
  | some d =>
    rw [ho] at hd
    exact hr.put hd hv

theorem put_step (hr : RelA P W0 n w C A a) {v : AV} {x : Value} (hd : dstOk n o.dst) (hs : Step w C w' C') (hst : StRel P W0 w' C' σ') (hv : RelV P w' C' v x) : RelA P W0 n w' C' ((A.put o.dst v).withSt (σ')) (a.put o.dst x) := by
  have h1 := hr.step hs hst
  have h2 := put_rel (o := o) h1 hd hv
  cases ho : o.dst with
  | none => rw [ho] at h2; exact h2
  | some d => rw [ho] at h2; exact h2

end
end Go.Av
end
section
set_option linter.unusedSimpArgs false
set_option linter.unusedVariables false
namespace Go.Av
open Go

section
variable {P : Program} {W0 w w' : World} {C C' : Ctx} {σ σ' : Store} {n : Nat} {A : AState} {a : Act} {o : Oper}

/-- The cells of a list in memory, one behind the other. -/
theorem list_cells {e : TypeId} {xs : List AV} {cf : Nat → List Value} {b off : Nat} (h3 : ∀ (i : Nat) (x : AV), xs[i]? = some x → Rel P w C x (cf i)) (h4 : ∀ i x, xs[i]? = some x → (cf i).length = szOf P e ∧ fits P e x)
    (h5 : ∀ i, i < xs.length → Cells w C b (off + i * szOf P e) (cf i)) :
    ∃ news : List Value, news.length = xs.length * szOf P e ∧ (∀ (j : Nat) (u : Value), news[j]? = some u → w.cell? ⟨b, off + j, none⟩ = some u) ∧ (∀ u ∈ news, u.oneCell' = true) ∧
      ∀ i x, xs[i]? = some x → ∀ (j : Nat) (u : Value), (cf i)[j]? = some u → news[i * szOf P e + j]? = some u := by
  have key : ∀ k, k ≤ xs.length → ∃ news : List Value, news.length = k * szOf P e ∧ (∀ (j : Nat) (u : Value), news[j]? = some u → w.cell? ⟨b, off + j, none⟩ = some u) ∧ (∀ u ∈ news, u.oneCell' = true) ∧
      ∀ i x, i < k → xs[i]? = some x → ∀ (j : Nat) (u : Value), (cf i)[j]? = some u → news[i * szOf P e + j]? = some u := by
    intro k
    induction k with
    | zero => intro _; exact ⟨[], by simp, by simp, by simp, fun i x hi => absurd hi (by omega)⟩
    | succ k ih =>
      intro hk
      obtain ⟨news, g1, g2, g3, g4⟩ := ih (by omega)
      have hx := List.getElem?_eq_getElem (show k < xs.length by omega)
      have hl := (h4 k _ hx).1
      refine ⟨news ++ cf k, by simp [g1, hl, Nat.succ_mul], fun j u hj => ?_, fun u hu => ?_, fun i x hi hxi j u hj => ?_⟩
      · by_cases hjl : j < news.length
        · rw [List.getElem?_append_left hjl] at hj; exact g2 j u hj
        · rw [List.getElem?_append_right (by omega), g1] at hj
          have := (h5 k (by omega) _ u hj).1
          rwa [show off + k * szOf P e + (j - k * szOf P e) = off + j by omega] at this
      · rcases List.mem_append.1 hu with hu | hu
        · exact g3 u hu
        · exact (h3 k _ hx).oneCell u hu
      · by_cases hik : i = k
        · subst hik
          rw [List.getElem?_append_right (by omega), g1, Nat.add_sub_cancel_left]
          exact hj
        · have hjl : j < szOf P e := by rw [← (h4 i x hxi).1]; exact (List.getElem?_eq_some_iff.1 hj).1
          have : (i + 1) * szOf P e ≤ k * szOf P e := Nat.mul_le_mul_right _ (by omega)
          rw [Nat.succ_mul] at this
          rw [List.getElem?_append_left (by omega)]
          exact g4 i x (by omega) hxi j u hj
  obtain ⟨news, g1, g2, g3, g4⟩ := key xs.length (Nat.le_refl _)
  exact ⟨news, g1, g2, g3, fun i x hx => g4 i x (List.getElem?_eq_some_iff.1 hx).1 hx⟩

/-- The cells of a row's elements. -/
theorem row_cells (h : StRel P W0 w C σ) {e te : TypeId} {id off m : Nat} {xs : List AV} {v : Value} (hv : RelV P w C (.row e id off m) v) (hs : σ[id]? = some (some (.cells te xs))) (_hm : off + m ≤ xs.length) :
    ∃ (ad : Option Addr) (cap : Nat) (cf : Nat → List Value), v = .slice ad m cap ∧ m ≤ cap ∧ cap ≤ maxLen ∧ te = e ∧ (∀ (i : Nat) (x : AV), ((xs.drop off).take m)[i]? = some x → Rel P w C x (cf i)) ∧
      (∀ i x, ((xs.drop off).take m)[i]? = some x → (cf i).length = szOf P e ∧ fits P e x) ∧ ∃ b base room arr t', C.m id = some (.obj b e base room) ∧ w.heap[b]? = some (.cells arr t' (0, 0)) ∧ arr.size = room ∧
        (0 < cap → ad = some ⟨b, base + off * szOf P e, none⟩) ∧ base + (off + cap) * szOf P e = room ∧
        (∀ i x, ((xs.drop off).take m)[i]? = some x → ∀ (j : Nat) (c : Value), (cf i)[j]? = some c → arr[base + off * szOf P e + i * szOf P e + j]? = some c) := by
  have hv' := hv.one_inv rfl
  obtain ⟨b, base, room, arr, t', m1, m2, m3, m4, cf, m5⟩ := h.cells hs
  have hget : ∀ i x, ((xs.drop off).take m)[i]? = some x → xs[off + i]? = some x := fun i x hx => by
    rw [List.getElem?_take] at hx
    split at hx
    · rwa [List.getElem?_drop] at hx
    · cases hx
  cases hv' with
  | row h1 h2 h3 h4 =>
    obtain ⟨b', base', room', e1, e2, e3⟩ := h4 _ m1
    cases e1
    refine ⟨_, _, fun i => cf (off + i), rfl, h1, h2, rfl, fun i x hx => (m5 _ _ (hget i x hx)).1, fun i x hx => ⟨(m5 _ _ (hget i x hx)).2.1, (m5 _ _ (hget i x hx)).2.2.1⟩, b, base, room, arr, t', m1, m2, m3, e2, e3, fun i x hx j c hj => ?_⟩
    have := (m5 _ _ (hget i x hx)).2.2.2 j c hj
    rwa [show base + off * szOf P e + i * szOf P e + j = base + (off + i) * szOf P e + j by rw [Nat.add_mul]; omega]

theorem ReadL.cells (h : StRel P W0 w C σ) {z : AV} {e : TypeId} {ys : List AV} {v : Value} (hr : ReadL σ z e ys) (hv : RelV P w C z v) :
    ∃ (ad : Option Addr) (cap : Nat) (cf : Nat → List Value), v = .slice ad ys.length cap ∧ (∀ (i : Nat) (x : AV), ys[i]? = some x → Rel P w C x (cf i)) ∧ (∀ i x, ys[i]? = some x → (cf i).length = szOf P e ∧ fits P e x) ∧
      (0 < ys.length → ∃ b off, ad = some ⟨b, off, none⟩ ∧ ∃ news : List Value, news.length = ys.length * szOf P e ∧ (∀ (j : Nat) (u : Value), news[j]? = some u → w.cell? ⟨b, off + j, none⟩ = some u) ∧ (∀ u ∈ news, u.oneCell' = true) ∧
        ∀ i x, ys[i]? = some x → ∀ (j : Nat) (u : Value), (cf i)[j]? = some u → news[i * szOf P e + j]? = some u) := by
  rcases hr with hr | ⟨rfl, rfl⟩ | ⟨id, off, m, zs, rfl, hs, hm, rfl⟩
  · obtain ⟨hcase, hone⟩ := AV.asList_inv hr
    obtain ⟨ad, capy, cfy, hye, y1, y2, y3, y4, y5⟩ := (hv.one_inv hone).sl_of hcase
    refine ⟨ad, capy, cfy, hye, y3, y4, fun hpos => ?_⟩
    obtain ⟨b, off, e1, y6⟩ := y5 hpos
    exact ⟨b, off, e1, list_cells y3 y4 y6⟩
  · exact ⟨none, 0, fun _ => [], hv.nils_inv, by simp, by simp, by simp⟩
  · obtain ⟨ad, cap, cf, hve, g1, g2, _, g3, g4, b, base, room, arr, t', m1, m2, m3, g5, g6, g7⟩ := row_cells h hv hs hm
    have hlen : ((zs.drop off).take m).length = m := by simp; omega
    rw [hlen]
    refine ⟨ad, cap, cf, hve, g3, g4, fun hpos => ⟨b, base + off * szOf P e, g5 (by omega), ?_⟩⟩
    have key : ∀ k, k ≤ m → ∃ news : List Value, news.length = k * szOf P e ∧ (∀ (j : Nat) (u : Value), news[j]? = some u → w.cell? ⟨b, base + off * szOf P e + j, none⟩ = some u) ∧ (∀ u ∈ news, u.oneCell' = true) ∧
        ∀ i x, i < k → ((zs.drop off).take m)[i]? = some x → ∀ (j : Nat) (u : Value), (cf i)[j]? = some u → news[i * szOf P e + j]? = some u := by
      intro k
      induction k with
      | zero => intro _; exact ⟨[], by simp, by simp, by simp, fun i x hi => absurd hi (by omega)⟩
      | succ k ih =>
        intro hk
        obtain ⟨news, n1, n2, n3, n4⟩ := ih (by omega)
        have hx := List.getElem?_eq_getElem (show k < ((zs.drop off).take m).length by omega)
        have hl := (g4 k _ hx).1
        refine ⟨news ++ cf k, by simp [n1, hl, Nat.succ_mul], fun j u hj => ?_, fun u hu => ?_, fun i x hi hxi j u hj => ?_⟩
        · by_cases hjl : j < news.length
          · rw [List.getElem?_append_left hjl] at hj; exact n2 j u hj
          · rw [List.getElem?_append_right (by omega), n1] at hj
            have := g7 k _ hx _ u hj
            rw [show base + off * szOf P e + k * szOf P e + (j - k * szOf P e) = base + off * szOf P e + j by omega] at this
            simp [World.cell?, m2, this]
        · rcases List.mem_append.1 hu with hu | hu
          · exact n3 u hu
          · exact (g3 k _ hx).oneCell u hu
        · by_cases hik : i = k
          · subst hik
            rw [List.getElem?_append_right (by omega), n1, Nat.add_sub_cancel_left]
            exact hj
          · have hjl : j < szOf P e := by rw [← (g4 i x hxi).1]; exact (List.getElem?_eq_some_iff.1 hj).1
            have : (i + 1) * szOf P e ≤ k * szOf P e := Nat.mul_le_mul_right _ (by omega)
            rw [Nat.succ_mul] at this
            rw [List.getElem?_append_left (by omega)]
            exact n4 i x (by omega) hxi j u hj
    obtain ⟨news, n1, n2, n3, n4⟩ := key m (Nat.le_refl _)
    exact ⟨news, n1, n2, n3, fun i x hx => n4 i x (by have := (List.getElem?_eq_some_iff.1 hx).1; omega) hx⟩

end
end Go.Av
end
section
set_option linter.unusedSimpArgs false
set_option linter.unusedVariables false
namespace Go.Av
open Go

section
variable {P : Program} {W0 w w' : World} {C C' : Ctx} {σ σ' : Store} {n : Nat} {A : AState} {a : Act} {o : Oper}

theorem run_append_types {t u e e' : TypeId} {i : TypeInfo} (ht : P.underlying t = some (.slice e)) (hu : P.underlying u = some (.slice e')) (hi : P.info? e = some i) (ty : TypeId) (b : Option Addr) (l c : Nat) (y : Value) (w : World) :
    (Builtin.append_ #[t, u] ty #[.slice b l c, y]).run P w = (Builtin.append_ #[t, t] ty #[.slice b l c, y]).run P w := by
  have hsv : (sizeOf e).run P w = .ok i.size w := by simp [sizeOf, typeInfo, hi]
  have h1 : ∀ v : TypeId, (#[t, v] : Array TypeId)[1]? = some v := fun _ => rfl
  have h0 : ∀ v : TypeId, (#[t, v] : Array TypeId)[0]? = some t := fun _ => rfl
  have h2 : (#[.slice b l c, y] : Array Value)[0]? = some (.slice b l c) := rfl
  have h3 : (#[.slice b l c, y] : Array Value)[1]? = some y := rfl
  simp only [Builtin.append_, h0, h1, h2, h3, Sem.run_bind, run_underlying ht, run_underlying hu, Result.andThen_ok, hsv, Sem.run_pure]

/-- A new row, with what it holds and room behind it. -/
theorem own_new (h : StRel P W0 w C σ) {e : TypeId} {zs : List AV} {cap : Nat} {arr : Array Value} {cf : Nat → List Value} (hl : zs.length ≤ cap) (hc : cap ≤ maxLen) (hs : arr.size = cap * szOf P e)
    (hz : ∀ i x, zs[i]? = some x → Rel P w C x (cf i) ∧ (cf i).length = szOf P e ∧ fits P e x ∧ ∀ (j : Nat) (u : Value), (cf i)[j]? = some u → arr[i * szOf P e + j]? = some u) :
    ∃ C', Step w C (w.alloc (.cells arr e)) C' ∧ StRel P W0 (w.alloc (.cells arr e)) C' (σ ++ [some .tok]) ∧ RelV P (w.alloc (.cells arr e)) C' (.own e zs σ.length) (.slice (some ⟨w.heap.size, 0, none⟩) zs.length cap) := by
  have hhw : zs.length * szOf P e ≤ arr.size := by rw [hs]; exact Nat.mul_le_mul_right _ hl
  obtain ⟨h1, h2⟩ := h.push (ob := .cells arr e) (ow := .tok w.heap.size e (zs.length * szOf P e) cap) (so := .tok) rfl ⟨arr, heap_alloc_new w _, hs, hhw⟩
  refine ⟨_, h1, h2, .one rfl (.own cf hl hc (fun i x hx => (hz i x hx).1.mono h1) (fun i x hx => ⟨(hz i x hx).2.1, (hz i x hx).2.2.1⟩) (fun _ => ⟨w.heap.size, 0, rfl, fun i hi j u hj => ⟨?_, ⟨by simp, fun id ow hm he => ?_⟩⟩⟩) (by simp [Ctx.push, h.nx]) (fun ow how => ?_))⟩
  · have := (hz i _ (List.getElem?_eq_getElem hi)).2.2.2 j u hj
    rw [World.cell?_alloc_new, Nat.zero_add]
    exact this
  · simp only [Ctx.push] at hm
    split at hm
    · cases hm
      refine ⟨_, _, _, rfl, ?_⟩
      have hjl : j < szOf P e := by rw [← (hz i _ (List.getElem?_eq_getElem hi)).2.1]; exact (List.getElem?_eq_some_iff.1 hj).1
      have : (i + 1) * szOf P e ≤ zs.length * szOf P e := Nat.mul_le_mul_right _ hi
      rw [Nat.succ_mul] at this
      omega
    · exact absurd he (by have := h.lt hm; omega)
  · simp only [Ctx.push, h.nx, if_true, Option.some.injEq] at how
    exact how.symm

/-- A row's own token. -/
theorem StRel.tok (h : StRel P W0 w C σ) {id : Nat} (hs : σ[id]? = some (some .tok)) : ∃ b e hw cap arr, C.m id = some (.tok b e hw cap) ∧ w.heap[b]? = some (.cells arr e (0, 0)) ∧ arr.size = cap * szOf P e ∧ hw ≤ arr.size := by
  have ho := h.obj id
  rw [hs] at ho
  simp only [Option.join_some] at ho
  cases hm : C.m id with
  | none => rw [hm] at ho; exact ho.elim
  | some ow =>
    rw [hm] at ho
    cases ow with
    | tok b e hw cap =>
      obtain ⟨arr, h1, h2, h3⟩ := ho
      exact ⟨b, e, hw, cap, arr, rfl, h1, h2, h3⟩
    | obj => exact ho.elim
    | iter => exact ho.elim
    | mp => exact ho.elim

/-- Cells behind a row's own end are written: the row's token is given up for a new one. -/
theorem tok_grow (h : StRel P W0 w C σ) {tok b hw cap : Nat} {e : TypeId} {arr : Array Value} {news : List Value} (hs : σ[tok]? = some (some .tok)) (hm : C.m tok = some (.tok b e hw cap)) (hb : w.heap[b]? = some (.cells arr e (0, 0)))
    (hsz : arr.size = cap * szOf P e) (hfit : hw + news.length ≤ arr.size) :
    ∃ C', Step w C (w.setRow b (splice arr hw news)) C' ∧ StRel P W0 (w.setRow b (splice arr hw news)) C' (σ.set tok none ++ [some .tok]) ∧ C'.nx = σ.length + 1 ∧ C'.m σ.length = some (.tok b e (hw + news.length) cap) ∧
      ∀ id ow, C'.m id = some ow → ow.blk = b → ow = .tok b e (hw + news.length) cap := by
  have htl : tok < σ.length := (List.getElem?_eq_some_iff.1 hs).1
  have hsize : (splice arr hw news).size = arr.size := splice_size hfit
  have hnew : (w.setRow b (splice arr hw news)).heap[b]? = some (.cells (splice arr hw news) e (0, 0)) := setRow_heap w b arr _ e _ hb
  have hC : ∀ i ow, ((C.kill tok).push (.tok b e (hw + news.length) cap)).m i = some ow → (i = C.nx ∧ ow = .tok b e (hw + news.length) cap) ∨ (i ≠ C.nx ∧ i ≠ tok ∧ C.m i = some ow) := fun i ow hi => by
    rw [push_m, kill_nx, kill_m] at hi
    split at hi
    · rename_i he; cases hi; exact .inl ⟨he, rfl⟩
    · rename_i he
      split at hi
      · cases hi
      · rename_i ht; exact .inr ⟨he, ht, hi⟩
  have hne : ∀ i ow, i ≠ tok → C.m i = some ow → ow.blk ≠ b := fun i ow hi hm' he => hi (h.inj i tok ow _ hm' hm (by simpa [Own.blk] using he))
  have hstep : Step w C (w.setRow b (splice arr hw news)) ((C.kill tok).push (.tok b e (hw + news.length) cap)) := by
    refine ⟨by simp [Ctx.push, Ctx.kill], fun id ow hid hi => ?_, fun b' i hst => ?_, rfl, rfl, rfl, by simp, fun b' hlt hn => ?_⟩
    · rcases hC id ow hi with ⟨he, _⟩ | ⟨_, _, h'⟩
      · omega
      · exact h'
    · by_cases hbb : b' = b
      · subst hbb
        obtain ⟨e', hw', cap', e1, e2⟩ := hst.2 tok _ hm rfl
        cases e1
        refine ⟨?_, by simpa using hst.1, fun id ow hi he => ?_⟩
        · simp only [World.cell?, hnew, hb, Option.isSome_none, Bool.false_eq_true, if_false]
          rw [splice_get hfit, if_neg (by omega)]
        · rcases hC id ow hi with ⟨_, rfl⟩ | ⟨_, ht, h'⟩
          · exact ⟨_, _, _, rfl, by omega⟩
          · exact absurd he (hne id ow ht h')
      · refine ⟨cell_setRow_other w b _ ⟨b', i, none⟩ hbb, by simpa using hst.1, fun id ow hi he => ?_⟩
        rcases hC id ow hi with ⟨_, rfl⟩ | ⟨_, _, h'⟩
        · exact absurd he (fun e => hbb e.symm)
        · exact hst.2 id ow h' he
    · refine ⟨setRow_other w b b' _ (fun e => hn tok _ hm (by simp [Own.blk, e])), fun id ow hi => ?_⟩
      rcases hC id ow hi with ⟨_, rfl⟩ | ⟨_, _, h'⟩
      · intro he; exact hn tok _ hm he
      · exact hn id ow h'
  refine ⟨_, hstep, h.change hstep (fun i ow hi => ?_) (by simp [Ctx.push, Ctx.kill, h.nx]) (fun i j x y hi hj he => ?_) (fun i ow hi => ?_) (fun i => ?_), by simp [Ctx.push, Ctx.kill, h.nx], by simp [Ctx.push, Ctx.kill, h.nx], fun id ow hi he => ?_⟩
  · rcases hC i ow hi with ⟨_, rfl⟩ | ⟨_, _, h'⟩
    · exact h.low tok (.tok b e hw cap) hm
    · exact h.low i ow h'
  · rcases hC i x hi with ⟨e1, rfl⟩ | ⟨e1, t1, h1⟩
    · rcases hC j y hj with ⟨e2, rfl⟩ | ⟨e2, t2, h2⟩
      · omega
      · exact absurd he.symm (hne j y t2 h2)
    · rcases hC j y hj with ⟨e2, rfl⟩ | ⟨e2, t2, h2⟩
      · exact absurd he (hne i x t1 h1)
      · exact h.inj i j x y h1 h2 he
  · simp only [Ctx.push, Ctx.kill]
    rcases hC i ow hi with ⟨e1, _⟩ | ⟨_, _, h1⟩
    · omega
    · have := h.dom i ow h1; omega
  · rw [join_push, List.length_set, join_set _ _ _ _ htl]
    by_cases hi : i = σ.length
    · left
      rw [if_pos hi]
      have : ((C.kill tok).push (.tok b e (hw + news.length) cap)).m i = some (.tok b e (hw + news.length) cap) := by simp [Ctx.push, Ctx.kill, hi, h.nx]
      rw [this]
      exact ⟨_, hnew, by rw [hsize, hsz], by rw [hsize]; exact hfit⟩
    · rw [if_neg hi]
      by_cases ht : i = tok
      · left
        rw [if_pos ht]
        have : ((C.kill tok).push (.tok b e (hw + news.length) cap)).m i = none := by
          rw [push_m, kill_nx, kill_m, if_neg (by rw [h.nx]; exact hi), if_pos ht]
        rw [this]
        trivial
      · right
        rw [if_neg ht]
        refine ⟨rfl, ?_, fun ow how => setRow_other w b _ _ (hne i ow ht how)⟩
        rw [push_m, kill_nx, kill_m, if_neg (by rw [h.nx]; exact hi), if_neg ht]
  · rcases hC id ow hi with ⟨_, rfl⟩ | ⟨_, t1, h1⟩
    · rfl
    · exact absurd he (hne id ow t1 h1)

theorem run_append_zero {t e : TypeId} {i : TypeInfo} (ht : P.underlying t = some (.slice e)) (hi : P.info? e = some i) (ty : TypeId) (b ad : Option Addr) (l c c' : Nat) (hl : l ≤ c) (w : World) :
    (Builtin.append_ #[t, t] ty #[.slice b l c, .slice ad 0 c']).run P w = .ok (.slice b l c) w := by
  cases b <;> cases ad <;> simp [Builtin.append_, run_underlying ht, sizeOf, typeInfo, hi, Builtin.lenOf, hl, Builtin.firstCells, loadCells, loadCellsFrom, storeCells]

theorem Rel.own_inv {e : TypeId} {xs : List AV} {tok : Nat} {v : Value} (h : Rel P w C (.own e xs tok) [v]) : ∃ b cap cf, v = .slice (some ⟨b, 0, none⟩) xs.length cap ∧ xs.length ≤ cap ∧ cap ≤ maxLen ∧ (∀ (i : Nat) (x : AV), xs[i]? = some x → Rel P w C x (cf i)) ∧
      (∀ i x, xs[i]? = some x → (cf i).length = szOf P e ∧ fits P e x) ∧ SlReads w C (szOf P e) (some ⟨b, 0, none⟩) xs.length cf ∧ ∀ ow, C.m tok = some ow → ow = .tok b e (xs.length * szOf P e) cap := by
  cases h with
  | own cf h1 h2 h3 h4 h5 h6 h7 => exact ⟨_, _, cf, rfl, h1, h2, h3, h4, h5, h7⟩

theorem bytes_of {e : TypeId} {i : TypeInfo} (h : P.info? e = some i) : bytesOf P e = i.bytes := by simp [bytesOf, h]

theorem ok_append (hr : RelO P W0 o w C A a) {x y : Operand} {t u e : TypeId} {v z : AV} {xs ys : List AV} (ho : o.op = .call { callee := .builtin .append, args := #[x, y], argTypes := #[t, u] })
    (hx : Is P W0 o A x v) (hy : Is P W0 o A y z) (ht : elT P t = some e) (hu : elT P u = some e) (he : 0 < szOf P e) (hz0 : hasZero P e = true) (hb : Bld A.st v e xs) (hys : ReadL A.st z e ys)
    (hbytes : (xs.length + ys.length) * bytesOf P e ≤ 140737488355328) (hmax : xs.length + ys.length ≤ maxLen) :
    ∃ r w' C' v' σ', (execOp a.eval o).run P w = .ok (.value r) w' ∧ App A.st v e (xs ++ ys) v' σ' ∧ Step w C w' C' ∧ StRel P W0 w' C' σ' ∧ RelV P w' C' v' r := by
  obtain ⟨inf, hinf, hsz⟩ := szOf_info he
  have htu := elT_inv ht
  have hrun : ∀ b l c yv r w', (Builtin.append_ #[t, t] o.type #[.slice b l c, yv]).run P w = .ok r w' → a.eval x = .slice b l c → a.eval y = yv → (execOp a.eval o).run P w = .ok (.value r) w' := fun b l c yv r w' h h1 h2 => by
    rw [← run_append_types htu (elT_inv hu) hinf] at h
    simp [execOp, ho, resolve, invoke, builtin, h1, h2, h]
  have hxv := hx w C a hr
  have hyv := hy w C a hr
  obtain ⟨ady, capy, cfy, hye, y3, y4, y5⟩ := hys.cells hr.st hyv
  obtain ⟨bx, cx, hxe, hlx⟩ : ∃ b c, a.eval x = .slice b xs.length c ∧ xs.length ≤ c := by
    rcases hb with ⟨rfl, rfl⟩ | rfl | ⟨tok, rfl, _⟩
    · exact ⟨none, 0, hxv.nils_inv, Nat.le_refl _⟩
    · have := hxv.one_inv rfl
      generalize a.eval x = v at this
      cases this with
      | lit => exact ⟨_, _, rfl, Nat.le_refl _⟩
    · obtain ⟨b, cap, cf, h1, h2, _⟩ := (hxv.one_inv rfl).own_inv
      exact ⟨_, _, h1, h2⟩
  cases hyl : ys with
  | nil =>
    subst hyl
    refine ⟨_, w, C, v, A.st, hrun _ _ _ _ _ _ (run_append_zero htu hinf _ _ _ _ _ _ hlx w) hxe hye, ⟨by simpa using hb, Nat.le_refl _, fun _ _ _ => rfl, .inl rfl⟩, .refl _ _, hr.st, by rw [← hxe]; exact hxv⟩
  | cons y0 yr =>
    rw [← hyl]
    have hpos : 0 < ys.length := by simp [hyl]
    obtain ⟨by_, oy, rfl, news, n1, n2, n3, n4⟩ := y5 hpos
    have n2' : ∀ j u, news[j]? = some u → w.cell? ((⟨by_, oy, none⟩ : Addr).add j) = some u := fun j u hj => by rw [Addr.add_lit]; exact n2 j u hj
    obtain ⟨inf', z0, hinf', hiz, hzs⟩ := hasZero_inv hz0
    obtain rfl : inf' = inf := by rw [hinf] at hinf'; exact (Option.some.inj hinf').symm
    have hmax' : xs.length + ys.length ≤ 9223372036854775807 := by unfold maxLen at hmax; omega
    rw [bytes_of hinf] at hbytes
    rcases hb with ⟨rfl, rfl⟩ | rfl | ⟨tok, rfl, htok⟩
    · -- a nil slice
      simp only [List.length_nil, Nat.zero_add] at hbytes hmax hmax'
      have hxe' := hxv.nils_inv
      have hap := run_append_nil (P := P) w t o.type e inf' z0 htu hinf hiz ⟨by_, oy, none⟩ ys.length capy news (by rw [n1, hsz]) n2' hpos (by omega) (by omega)
      have hge := grownCap_ge w ys.length 0 e
      have hcap := grownCap_le_maxLen w ys.length 0 e hmax
      obtain ⟨C', g1, g2, g3⟩ := own_new (P := P) (W0 := W0) hr.st.drew (e := e) (zs := ys) (cap := grownCap w ys.length 0 e) (arr := news.toArray ++ Builtin.zeroCells z0.cells (grownCap w ys.length 0 e - ys.length)) (cf := cfy) hge hcap
        (by simp only [Array.size_append, List.size_toArray, size_zeroCells, n1, hzs, ← Nat.add_mul]; congr 1; omega)
        (fun i x hx => ⟨(y3 i x hx).mono (Step.drew w C), (y4 i x hx).1, (y4 i x hx).2, fun j u hj => by
          have := n4 i x hx j u hj
          rw [Array.getElem?_append_left (by simpa using (List.getElem?_eq_some_iff.1 this).1)]
          simpa using this⟩)
      refine ⟨_, _, C', _, _, hrun _ _ _ _ _ _ hap hxe' hye, ⟨.inr (.inr ⟨_, rfl, by simp⟩), by simp, fun id hid _ => by rw [List.getElem?_append_left hid], .inr ⟨_, rfl, Nat.le_refl _⟩⟩, (Step.drew w C).trans g1, g2, g3⟩
    · -- a list as long as its row
      obtain ⟨adx, capx, cfx, hxq, x1, x2, x3, x4, x5⟩ := (hxv.one_inv rfl).sl_of (.inr (.inl rfl))
      have hcx : capx = xs.length := by
        have := hxv.one_inv rfl
        rw [hxq] at this
        cases this
        rfl
      subst hcx
      have hlen : (xs ++ ys).length = xs.length + ys.length := by simp
      have hgetl : ∀ i x, (xs ++ ys)[i]? = some x → (i < xs.length ∧ xs[i]? = some x) ∨ (xs.length ≤ i ∧ ys[i - xs.length]? = some x) := fun i x hx => by
        by_cases hi : i < xs.length
        · rw [List.getElem?_append_left hi] at hx; exact .inl ⟨hi, hx⟩
        · rw [List.getElem?_append_right (by omega)] at hx; exact .inr ⟨by omega, hx⟩
      have hge := grownCap_ge w (xs.length + ys.length) xs.length e
      have hcap := grownCap_le_maxLen w (xs.length + ys.length) xs.length e hmax
      have fin : ∀ (olds : List Value), olds.length = xs.length * szOf P e → (∀ i x, xs[i]? = some x → ∀ (j : Nat) (u : Value), (cfx i)[j]? = some u → olds[i * szOf P e + j]? = some u) →
          (Builtin.append_ #[t, t] o.type #[.slice adx xs.length xs.length, a.eval y]).run P w = .ok (.slice (some ⟨w.heap.size, 0, none⟩) (xs.length + ys.length) (grownCap w (xs.length + ys.length) xs.length e)) (w.drew.alloc (.cells (olds.toArray ++ news.toArray ++ Builtin.zeroCells z0.cells (grownCap w (xs.length + ys.length) xs.length e - (xs.length + ys.length))) e)) →
          ∃ r w' C' v' σ', (execOp a.eval o).run P w = .ok (.value r) w' ∧ App A.st (.lit e xs) e (xs ++ ys) v' σ' ∧ Step w C w' C' ∧ StRel P W0 w' C' σ' ∧ RelV P w' C' v' r := fun olds p1 p4 hap => by
        obtain ⟨C', g1, g2, g3⟩ := own_new (P := P) (W0 := W0) hr.st.drew (e := e) (zs := xs ++ ys) (cap := grownCap w (xs.length + ys.length) xs.length e)
          (arr := olds.toArray ++ news.toArray ++ Builtin.zeroCells z0.cells (grownCap w (xs.length + ys.length) xs.length e - (xs.length + ys.length))) (cf := fun i => if i < xs.length then cfx i else cfy (i - xs.length)) (by rw [hlen]; exact hge) hcap
          (by simp only [Array.size_append, List.size_toArray, size_zeroCells, p1, n1, hzs, ← Nat.add_mul]; congr 1; omega)
          (fun i x hx => by
            rcases hgetl i x hx with ⟨hi, hx'⟩ | ⟨hi, hx'⟩
            · simp only [hi, if_true]
              refine ⟨(x3 i x hx').mono (Step.drew w C), (x4 i x hx').1, (x4 i x hx').2, fun j u hj => ?_⟩
              have := p4 i x hx' j u hj
              have hl := (List.getElem?_eq_some_iff.1 this).1
              rw [Array.getElem?_append_left (by simp; omega), Array.getElem?_append_left (by simpa using hl)]
              simpa using this
            · simp only [show ¬ i < xs.length by omega, if_false]
              refine ⟨(y3 _ x hx').mono (Step.drew w C), (y4 _ x hx').1, (y4 _ x hx').2, fun j u hj => ?_⟩
              have := n4 _ x hx' j u hj
              have hl := (List.getElem?_eq_some_iff.1 this).1
              have hmul : i * szOf P e = xs.length * szOf P e + (i - xs.length) * szOf P e := by rw [← Nat.add_mul]; congr 1; omega
              rw [Array.getElem?_append_left (by simp; omega), Array.getElem?_append_right (by simp; omega)]
              simp only [List.size_toArray, p1, List.getElem?_toArray]
              rw [show i * szOf P e + j - xs.length * szOf P e = (i - xs.length) * szOf P e + j by omega]
              exact this)
        rw [hlen] at g3
        exact ⟨_, _, C', _, _, hrun _ _ _ _ _ _ hap hxq rfl, ⟨.inr (.inr ⟨_, rfl, by simp⟩), by simp, fun id hid _ => by rw [List.getElem?_append_left hid], .inr ⟨_, rfl, Nat.le_refl _⟩⟩, (Step.drew w C).trans g1, g2, g3⟩
      rw [hye] at fin
      cases adx with
      | none =>
        have hx0 : xs = [] := by
          cases xs with
          | nil => rfl
          | cons c r => obtain ⟨b, off, e1, _⟩ := x5 (by simp); cases e1
        subst hx0
        simp only [List.length_nil, Nat.zero_add] at hbytes hmax hmax' fin
        have hap := run_append_nil (P := P) w t o.type e inf' z0 htu hinf hiz ⟨by_, oy, none⟩ ys.length capy news (by rw [n1, hsz]) n2' hpos (by omega) (by omega)
        exact fin [] (by simp) (by simp) (by simpa using hap)
      | some b0 =>
        have hcells : ∃ olds : List Value, olds.length = xs.length * szOf P e ∧ (∀ (j : Nat) (u : Value), olds[j]? = some u → w.cell? (b0.add j) = some u) ∧ ∀ i x, xs[i]? = some x → ∀ (j : Nat) (u : Value), (cfx i)[j]? = some u → olds[i * szOf P e + j]? = some u := by
          by_cases hxl : xs = []
          · subst hxl; exact ⟨[], by simp, by simp, by simp⟩
          · have hxp : 0 < xs.length := by cases xs with | nil => exact absurd rfl hxl | cons => simp
            obtain ⟨bx', ox', e1, x6⟩ := x5 hxp
            cases e1
            obtain ⟨olds, p1, p2, p3, p4⟩ := list_cells x3 x4 x6
            exact ⟨olds, p1, fun j u hj => by rw [Addr.add_lit]; exact p2 j u hj, p4⟩
        obtain ⟨olds, p1, p2, p4⟩ := hcells
        exact fin olds p1 p4 (run_append_grow (P := P) w t o.type e inf' z0 htu hinf hiz b0 xs.length xs.length olds (by rw [p1, hsz]) p2 ⟨by_, oy, none⟩ ys.length capy news (by rw [n1, hsz]) n2' (by omega) (by omega) (growslice_fits (by omega) hbytes))
    · -- a row of the call's own
      obtain ⟨b, cap, cf, hxq, c1, c2, c3, c4, c5, c6⟩ := (hxv.one_inv rfl).own_inv
      obtain ⟨b', e', hw, cap', arr, t1, t2, t3, t4⟩ := hr.st.tok htok
      have t5 := c6 _ t1
      cases t5
      have htl : tok < A.st.length := (List.getElem?_eq_some_iff.1 htok).1
      have hlen : (xs ++ ys).length = xs.length + ys.length := by simp
      have hgetl : ∀ i x, (xs ++ ys)[i]? = some x → (i < xs.length ∧ xs[i]? = some x) ∨ (xs.length ≤ i ∧ ys[i - xs.length]? = some x) := fun i x hx => by
        by_cases hi : i < xs.length
        · rw [List.getElem?_append_left hi] at hx; exact .inl ⟨hi, hx⟩
        · rw [List.getElem?_append_right (by omega)] at hx; exact .inr ⟨by omega, hx⟩
      have hxcells : ∀ (i : Nat) (x : AV), xs[i]? = some x → ∀ (j : Nat) (u : Value), (cf i)[j]? = some u → arr[i * szOf P e + j]? = some u ∧ i * szOf P e + j < xs.length * szOf P e := fun i x hx j u hj => by
        have hi := (List.getElem?_eq_some_iff.1 hx).1
        obtain ⟨b2, o2, e2, hc⟩ := c5 (by omega)
        cases e2
        have h1 := (hc i hi j u hj).1
        simp only [World.cell?, t2, Nat.zero_add, Option.isSome_none, Bool.false_eq_true, if_false] at h1
        have hjl : j < szOf P e := by rw [← (c4 i x hx).1]; exact (List.getElem?_eq_some_iff.1 hj).1
        have : (i + 1) * szOf P e ≤ xs.length * szOf P e := Nat.mul_le_mul_right _ hi
        rw [Nat.succ_mul] at this
        exact ⟨h1, by omega⟩
      by_cases hroom : xs.length + ys.length ≤ cap
      · -- in place
        have hfit : xs.length * szOf P e + news.length ≤ arr.size := by rw [n1, t3, ← Nat.add_mul]; exact Nat.mul_le_mul_right _ hroom
        have hap := run_append_room (P := P) w t o.type e inf' htu hinf b xs.length cap arr t2 ⟨by_, oy, none⟩ ys.length capy news (by rw [n1, hsz]) n2' n3 hroom (by rw [hsz]; exact hfit)
        rw [hsz] at hap
        replace hap : _ = Result.ok _ (w.setRow b (splice arr (xs.length * szOf P e) news)) := hap
        obtain ⟨C', g1, g2, g3, g4, g5⟩ := tok_grow hr.st htok t1 t2 t3 hfit
        have hnewcell : ∀ i, (w.setRow b (splice arr (xs.length * szOf P e) news)).cell? ⟨b, i, none⟩ = (splice arr (xs.length * szOf P e) news)[i]? := fun i => cell_setRow_same w b i arr _ e _ t2
        refine ⟨_, _, C', .own e (xs ++ ys) A.st.length, _, hrun _ _ _ _ _ _ hap hxq hye, ⟨.inr (.inr ⟨_, rfl, by simp⟩), by simp, fun id hid hne => ?_, .inr ⟨_, rfl, Nat.le_refl _⟩⟩, g1, g2, ?_⟩
        · rw [List.getElem?_append_left (by simpa using hid), List.getElem?_set_ne (fun e => hne (by simp [tokOf, e]))]
        · rw [← hlen]
          refine .one rfl (.own (fun i => if i < xs.length then cf i else cfy (i - xs.length)) (by rw [hlen]; exact hroom) c2 (fun i x hx => ?_) (fun i x hx => ?_) (fun _ => ⟨b, 0, rfl, fun i hi j u hj => ?_⟩) (by rw [g3]; omega) (fun ow how => ?_))
          · rcases hgetl i x hx with ⟨hi, hx'⟩ | ⟨hi, hx'⟩
            · rw [if_pos hi]; exact (c3 i x hx').mono g1
            · rw [if_neg (by omega)]; exact (y3 _ x hx').mono g1
          · rcases hgetl i x hx with ⟨hi, hx'⟩ | ⟨hi, hx'⟩
            · simp only [hi, if_true]; exact c4 i x hx'
            · simp only [show ¬ i < xs.length by omega, if_false]; exact y4 _ x hx'
          · have hst : ∀ k, k < xs.length * szOf P e + news.length → Stable (w.setRow b (splice arr (xs.length * szOf P e) news)) C' b k := fun k hk =>
              ⟨by simpa using (Array.getElem?_eq_some_iff.1 t2).1, fun id ow hm hbk => ⟨_, _, _, g5 id ow hm hbk, hk⟩⟩
            rw [hnewcell, Nat.zero_add, splice_get hfit]
            by_cases hix : i < xs.length
            · simp only [hix, if_true] at hj
              obtain ⟨q1, q2⟩ := hxcells i _ (List.getElem?_eq_getElem hix) j u hj
              rw [if_neg (by omega)]
              exact ⟨q1, hst _ (by omega)⟩
            · simp only [hix, if_false] at hj
              rw [hlen] at hi
              have hyi := List.getElem?_eq_getElem (show i - xs.length < ys.length by omega)
              have hnw := n4 _ _ hyi j u hj
              have hnl := (List.getElem?_eq_some_iff.1 hnw).1
              have hmul : i * szOf P e = xs.length * szOf P e + (i - xs.length) * szOf P e := by rw [← Nat.add_mul]; congr 1; omega
              rw [if_pos (by omega), show i * szOf P e + j - xs.length * szOf P e = (i - xs.length) * szOf P e + j by omega]
              exact ⟨hnw, hst _ (by omega)⟩
          · rw [g4] at how
            cases how
            rw [n1, hlen, Nat.add_mul]
      · -- a new row
        obtain ⟨olds, p1, p2, p3, p4⟩ := list_cells (P := P) (e := e) (b := b) (off := 0) c3 c4 (fun i hi => by
          obtain ⟨b2, o2, e2, hc⟩ := c5 (by omega)
          cases e2
          exact hc i hi)
        have hap := run_append_grow (P := P) w t o.type e inf' z0 htu hinf hiz ⟨b, 0, none⟩ xs.length cap olds (by rw [p1, hsz]) (fun j u hj => by rw [Addr.add_lit]; exact p2 j u hj) ⟨by_, oy, none⟩ ys.length capy news (by rw [n1, hsz]) n2' (by omega) (by omega) (growslice_fits (by omega) hbytes)
        have hge := grownCap_ge w (xs.length + ys.length) cap e
        have hcap := grownCap_le_maxLen w (xs.length + ys.length) cap e hmax
        obtain ⟨k1, k2⟩ := hr.st.kill tok htl
        obtain ⟨C', g1, g2, g3⟩ := own_new (P := P) (W0 := W0) k2.drew (e := e) (zs := xs ++ ys) (cap := grownCap w (xs.length + ys.length) cap e)
          (arr := olds.toArray ++ news.toArray ++ Builtin.zeroCells z0.cells (grownCap w (xs.length + ys.length) cap e - (xs.length + ys.length))) (cf := fun i => if i < xs.length then cf i else cfy (i - xs.length)) (by rw [hlen]; exact hge) hcap
          (by simp only [Array.size_append, List.size_toArray, size_zeroCells, p1, n1, hzs, ← Nat.add_mul]; congr 1; omega)
          (fun i x hx => by
            have hs := k1.trans (Step.drew w _)
            rcases hgetl i x hx with ⟨hi, hx'⟩ | ⟨hi, hx'⟩
            · simp only [hi, if_true]
              refine ⟨(c3 i x hx').mono hs, (c4 i x hx').1, (c4 i x hx').2, fun j u hj => ?_⟩
              have := p4 i x hx' j u hj
              have hl := (List.getElem?_eq_some_iff.1 this).1
              rw [Array.getElem?_append_left (by simp; omega), Array.getElem?_append_left (by simpa using hl)]
              simpa using this
            · simp only [show ¬ i < xs.length by omega, if_false]
              refine ⟨(y3 _ x hx').mono hs, (y4 _ x hx').1, (y4 _ x hx').2, fun j u hj => ?_⟩
              have := n4 _ x hx' j u hj
              have hl := (List.getElem?_eq_some_iff.1 this).1
              have hmul : i * szOf P e = xs.length * szOf P e + (i - xs.length) * szOf P e := by rw [← Nat.add_mul]; congr 1; omega
              rw [Array.getElem?_append_left (by simp; omega), Array.getElem?_append_right (by simp; omega)]
              simp only [List.size_toArray, p1, List.getElem?_toArray]
              rw [show i * szOf P e + j - xs.length * szOf P e = (i - xs.length) * szOf P e + j by omega]
              exact this)
        rw [hlen] at g3
        rw [List.length_set] at g3
        refine ⟨_, _, C', _, _, hrun _ _ _ _ _ _ hap hxq hye, ⟨.inr (.inr ⟨A.st.length, rfl, by simp⟩), by simp, fun id hid hne => ?_, .inr ⟨_, rfl, Nat.le_refl _⟩⟩, (k1.trans (Step.drew w _)).trans g1, g2, g3⟩
        rw [List.getElem?_append_left (by simpa using hid), List.getElem?_set_ne (fun e => hne (by simp [tokOf, e]))]
end
end Go.Av
end
