/- Texts that the last one of this claim rests on: a layer over the guide's own conditions for code; contracts of the functions that the law reaches, one by one. No conditions beside those of the given rows. -/
import Derived.Laws.Externs
import Derived.Test.YtekjlnodoelblaaGreatDoorWab
set_option linter.unusedSimpArgs false
set_option linter.unusedVariables false
section
namespace Go.Av
open Go

inductive Small : AV → Prop
 | undef : Small .undef
 | int (k n) : Small (.int k n)
 | bool (b) : Small (.bool b)
 | str {l : List UInt8} : l.length ≤ maxLen → Small (.str l)
 | nil : Small .nil
 | nils : Small .nils
 | nilm : Small .nilm
 | niface : Small .niface
 | iface {t v} : Small v → Small (.iface t v)
 | sl {e} {xs : List AV} : xs.length ≤ maxLen → (∀ x ∈ xs,Small x) → Small (.sl e xs)
 | lit {e} {xs : List AV} : xs.length ≤ maxLen → (∀ x ∈ xs,Small x) → Small (.lit e xs)
 | own {e} {xs : List AV} {tok} : xs.length ≤ maxLen → (∀ x ∈ xs,Small x) → Small (.own e xs tok)
 | row {e id off n} : n ≤ maxLen → Small (.row e id off n)
 | agg {t} {fs : List AV} : (∀ x ∈ fs,Small x) → Small (.agg t fs)
 | loc {t v} : Small v → Small (.loc t v)
 | ptr (t id i path) : Small (.ptr t id i path)
 | it (id) : Small (.it id)
 | mp (id) : Small (.mp id)
 | fn {f} {caps : List AV} : (∀ x ∈ caps,Small x) → Small (.fn f caps)
 | tup {vs : List AV} : (∀ x ∈ vs,Small x) → Small (.tup vs)
 | maybe {g v} : (g = true → Small v) → Small (.maybe g v)

section
variable {P : Program} {W0 w w' : World} {C C' : Ctx} {σ σ' : Store} {n : Nat} {A : AState} {a : Act} {fz : List Nat}

theorem small_mem {xs : List AV} (h : ∀ (i : Nat) (x : AV),xs[i]? = some x → Small x) : ∀ x ∈ xs,Small x:=fun x hx=>by
 obtain ⟨i,hi,he⟩:=List.getElem_of_mem hx
 exact h i x (by rw [← he]; exact List.getElem?_eq_getElem hi)

theorem Rel.small {x : AV} {cs : List Value} (h : Rel P w C x cs) : Small x:=by
 induction h with
 | int k n=>exact .int k n
 | bool b=>exact .bool b
 | str h=>exact .str h
 | nil=>exact .nil
 | nils=>exact .nils
 | nilm=>exact .nilm
 | niface=>exact .niface
 | iface _ _ ih=>exact .iface ih
 | sl cf h1 h2 _ _ _ ih=>exact .sl (Nat.le_trans h1 h2) (small_mem ih)
 | lit cf h1 _ _ _ ih=>exact .lit h1 (small_mem ih)
 | own cf h1 h2 _ _ _ _ _ ih=>exact .own (Nat.le_trans h1 h2) (small_mem ih)
 | row h1 h2=>exact .row (Nat.le_trans h1 h2)
 | agg cf _ _ _ _ _ _ ih=>exact .agg (small_mem ih)
 | loc _ _ _ _ ih=>exact .loc ih
 | ptr=>exact .ptr ..
 | it=>exact .it _
 | mp=>exact .mp _
 | fn h1 h2 h3 ih=>exact .fn (small_mem fun i x hx=>ih i x _ hx (List.getElem?_eq_getElem (by rw [← h1]; exact (List.getElem?_eq_some_iff.1 hx).1)))

theorem RelV.small {x : AV} {v : Value} (h : RelV P w C x v) : Small x:=by
 induction h with
 | undef=>exact .undef
 | maybe _ _ ih=>exact .maybe ih
 | tup h1 _ ih=>exact .tup (small_mem fun i x hx=>ih i x _ hx (List.getElem?_eq_getElem (by rw [← h1]; exact (List.getElem?_eq_some_iff.1 hx).1)))
 | agg h=>exact h.small
 | one _ h=>exact h.small

structure WkA (A B : AState) : Prop where
 env : ∀ i,Weak (A.env i) (B.env i)
 st : A.st = B.st

theorem WkA.refl (A : AState) : WkA A A:=⟨fun _=>.refl _,rfl⟩
theorem WkA.upd {A B : AState} {d : Nat} {v : AV} (h : WkA A B) (hv : Weak (A.env d) v) : WkA A (B.upd d v):=⟨fun i=>by
 by_cases hi : i = d
 ·subst hi; rw [AState.upd_same]; exact hv
 ·rw [AState.upd_ne B v hi]; exact h.env i,h.st⟩

def Back (I : AState → Prop) (A : AState) : Prop:=I A
theorem Back.here {I : AState → Prop} (h : I A) : Back I A:=h

def Fall (I : Nat → AState → Prop) (k : Nat) (A : AState) : Prop:=∃ k',k' < k ∧ I k' A
theorem Fall.here {I : Nat → AState → Prop} {k : Nat} (k' : Nat) (hk : k' < k) (h : I k' A) : Fall I k A:=⟨k',hk,h⟩

def Kept (fz : List Nat) (c : Code) (_ : Tag c) (ks : List Nat) : Prop:=ks.all (fun i=>!(dsts fz c).contains i) = true
theorem Kept.of {c : Code} {ks : List Nat} (h : ks.all (fun i=>!(dsts fz c).contains i) = true) : Kept fz c .mk ks:=h
theorem Kept.nil {c : Code} : Kept fz c .mk []:=rfl

theorem LoopVC.falls {c : Code} {Q : Exit → AState → Prop} (ks : List Nat) (hks : Kept fz c .mk ks) (I : Nat → AState → Prop) (k₀ : Nat) (h₀ : I k₀ A)
  (round : ∀ k B,I k B → cVC P W0 n fz c (thenQ (Fall I k) Q) (keep ks A B)) : LoopVC P W0 n fz c .mk Q .mk A:=by
 refine .loop (fun k B=>Agree (dsts fz c) A B ∧ I k B) k₀ ⟨.refl _ _,h₀⟩ fun k B ⟨ha,hI⟩=>?_
 have h1:=round k B hI
 rw [keep_eq hks ha] at h1
 refine (cVC_sound c _ B (cVC_mono (Q':=thenQ (fun A'=>∃ k',k' < k ∧ Agree (dsts fz c) A A' ∧ I k' A') fun e A'=>Q e A' ∧ Agree (dsts fz c) A A') c B (fun e A' hb q=>?_) h1))
 have hab : Agree (dsts fz c) A A':=(ha.trans hb).mono fun i hi=>by rcases List.mem_append.1 hi with h | h <;> exact h
 cases e with
 | normal =>
  obtain ⟨k',hk,hI'⟩:=q
  exact ⟨k',hk,hab,hI'⟩
 | _=>exact ⟨q,hab⟩

theorem LoopVC.upto {c : Code} {Q : Exit → AState → Prop} (ks : List Nat) (hks : Kept fz c .mk ks) (N : Nat) (I : Nat → AState → Prop) (i₀ : Nat) (hi₀ : i₀ ≤ N) (h₀ : I i₀ A)
  (round : ∀ i B,i ≤ N → I i B → cVC P W0 n fz c (thenQ (fun A'=>i < N ∧ I (i + 1) A') Q) (keep ks A B)) : LoopVC P W0 n fz c .mk Q .mk A:=by
 refine .falls ks hks (fun k B=>∃ i,i ≤ N ∧ k = N - i ∧ I i B) (N - i₀) ⟨i₀,hi₀,rfl,h₀⟩ fun k B ⟨i,hi,hk,hI⟩=>?_
 refine cVC_mono c _ (fun e A' _ q=>?_) (round i B hi hI)
 cases e with
 | normal=>exact ⟨N - (i + 1),by have:=q.1; omega,i + 1,q.1,rfl,q.2⟩
 | _=>exact q

theorem VC.falls {c : Code} {Q : Exit → AState → Prop} (fz : List Nat) (I : Nat → AState → Prop) (k₀ : Nat) (h₀ : Back (I k₀) A)
  (round : ∀ k A,I k A → cVC P W0 n fz c (thenQ (Fall I k) Q) A) : LoopVC P W0 n fz c .mk Q .mk A:=.falls [] .nil I k₀ h₀ round

theorem VC.upto {c : Code} {Q : Exit → AState → Prop} (fz : List Nat) (N : Nat) (I : Nat → AState → Prop) (i₀ : Nat) (hi₀ : i₀ ≤ N) (h₀ : Back (I i₀) A)
  (round : ∀ i A,i ≤ N → I i A → cVC P W0 n fz c (thenQ (fun A'=>i < N ∧ Back (I (i + 1)) A') Q) A) : LoopVC P W0 n fz c .mk Q .mk A:=.upto [] .nil N I i₀ hi₀ h₀ round

theorem LoopVC.at {c : Code} {id : Nat} {K : AState → Prop} {Q : Exit → AState → Prop} (ks : List Nat) (hks : Kept fz c .mk ks) (R : AState → Prop) (h : LoopVC P W0 n fz c .mk (blockQ id (thenQ R Q)) .mk A) (hR : ∀ B,R B → K (keep ks A B)) : LoopVC P W0 n fz c .mk (blockQ id (thenQ K Q)) .mk A :=
 VC.mono h fun e A' ⟨q,ha⟩=>by
  have key : R A' → K A':=fun hr=>by
   have:=hR A' hr
   rwa [keep_eq hks ha] at this
  refine ⟨?_,ha⟩
  cases e with
  | normal=>exact key q
  | exit id' =>
   simp only [blockQ] at q ⊢
   split at q
   ·rename_i he; rw [if_pos he]; exact key q
   ·rename_i he; rw [if_neg he]; exact q
  | _=>exact q

theorem LoopVC.cut {c : Code} {id : Nat} {K : AState → Prop} {Q : Exit → AState → Prop} (R : AState → Prop) (hR : ∀ A,R A → K A) (h : LoopVC P W0 n fz c .mk (blockQ id (thenQ R Q)) .mk A) : LoopVC P W0 n fz c .mk (blockQ id (thenQ K Q)) .mk A:=.at [] .nil R h hR

def EndP (ts : List Nat) (r : AV) (σ : Store) : Exit → AState → Prop
 | .normal,A | .ret,A=>Weak (resOf A.env ts) r ∧ A.st.take σ.length = σ
 | _,_=>False

theorem fn_pure {f : FuncId} {fn : Func} {c : Code} {args : List AV} {r : AV} {m : Nat} (ts : List Nat) (fz : List Nat) (hf : P.funcs[f]? = some fn) (hb : fn.body = some c) (hnm : (fn.name == "runtime.NumGoroutine") = false)
  (hm : fn.ntmps = m) (hargs : Nat.ble args.length m = true) (hres : fn.results = (ts.map ResultVar.tmp).toArray) (hr : IdsLt 0 r)
  (h : (∀ a ∈ args,Small a) → ∀ σ,cVC P W0 m fz c (EndP ts r σ) ⟨envOf args,σ⟩) : PureFn P W0 f args r:=fun σ=>by
 subst hm
 refine fun w C vs hst hl hv=>?_
 have hsm : ∀ a ∈ args,Small a:=small_mem fun i x hx=>(hv i x _ hx (List.getElem?_eq_getElem (by rw [← hl]; exact (List.getElem?_eq_some_iff.1 hx).1))).small
 have hvc:=cVC_sound c _ _ (h hsm σ)
 refine (acall_of_vc hf hb hnm (Nat.le_of_ble_eq_true hargs) hres (Q:=fun r' σ'=>r' = r ∧ σ' = σ) (hvc.mono fun e A' q=>?_)) w C vs hst hl hv
 have key : Weak (resOf A'.env ts) r ∧ A'.st.take σ.length = σ → EndQ ts (fun r' σ'=>r' = r ∧ σ' = σ) σ .ret A':=fun ⟨q1,q2⟩=>by
  refine ⟨r,σ,q1,⟨Nat.le_refl _,q2.symm⟩,fun id te xs hid hs=>?_,idsLt_mono (Nat.zero_le _) hr,rfl,rfl⟩
  have : σ[id]? = some (some (.cells te xs)):=by rw [← hs,← q2,List.getElem?_take,if_pos hid]
  exact hst.ids this
 cases e with
 | normal=>exact key q
 | ret=>exact key q
 | _=>exact q.elim

def appB (P : Program) (t u e : TypeId) (N : Nat) : Bool:=elT P t == some e && (elT P u == some e && (Nat.ble 1 (szOf P e) && (hasZero P e && (Nat.ble (N * bytesOf P e) 140737488355328 && Nat.ble N 9223372036854775807))))
theorem appB_inv {t u e : TypeId} {N : Nat} (h : appB P t u e N = true) : (elT P t = some e ∧ elT P u = some e ∧ 0 < szOf P e ∧ hasZero P e = true) ∧ N * bytesOf P e ≤ 140737488355328 ∧ N ≤ maxLen:=by
 simp only [appB,Bool.and_eq_true,beq_iff_eq] at h
 obtain ⟨h1,h2,h3,h4,h5,h6⟩:=h
 exact ⟨⟨h1,h2,Nat.le_of_ble_eq_true h3,h4⟩,Nat.le_of_ble_eq_true h5,Nat.le_of_ble_eq_true h6⟩

inductive Frz : AState → AState → Prop
 | refl (D : AState) : Frz D D
 | row {D B : AState} (d : Nat) {e te : TypeId} {id off m : Nat} {xs : List AV} : D.env d = .row e id off m → D.st[id]? = some (some (.cells te xs)) → off + m ≤ xs.length → Frz ((D.upd d (.sl e ((xs.drop off).take m))).withSt (D.st.set id none)) B → Frz D B

theorem RelA.frz {B : AState} (hf : Frz A B) : ∀ {C : Ctx},RelA P W0 n w C A a → ∃ C',RelA P W0 n w C' B a ∧ Step w C w C':=by
 induction hf with
 | refl A=>exact fun h=>⟨_,h,.refl _ _⟩
 | row d h1 h2 h3 _ ih =>
  intro C h
  have hv:=h.env d
  rw [h1] at hv
  have hfr:=freeze_row h.st hv h2 h3
  obtain ⟨k1,k2⟩:=h.st.kill _ (List.getElem?_eq_some_iff.1 h2).1
  have hr1:=h.step k1 k2
  have hr2 : RelA P W0 n w (C.kill _) ((AState.upd _ d (.sl _ _)).withSt (List.set _ _ none)) a:=⟨fun j=>by
   by_cases hj : j = d
   ·subst hj; simpa [AState.upd,AState.withSt] using hfr
   ·have:=hr1.env j; simpa [AState.upd,AState.withSt,hj] using this,hr1.defers,hr1.size,hr1.st⟩
  obtain ⟨C',g1,g2⟩:=ih hr2
  exact ⟨C',g1,k1.trans g2⟩

def EndR (R : AState → Prop) : Exit → AState → Prop
 | .normal,A | .ret,A=>∃ A',Frz A A' ∧ R A'
 | _,_=>False

theorem EndR.ret {R : AState → Prop} (h : R A) : EndR R .ret A:=⟨A,.refl A,h⟩
theorem EndR.normal {R : AState → Prop} (h : R A) : EndR R .normal A:=⟨A,.refl A,h⟩
theorem EndR.frz {R : AState → Prop} {x : Exit} (d : Nat) {e te : TypeId} {id off m : Nat} {xs : List AV} (h1 : A.env d = .row e id off m) (h2 : A.st[id]? = some (some (.cells te xs))) (h3 : off + m ≤ xs.length)
  (h : EndR R x ((A.upd d (.sl e ((xs.drop off).take m))).withSt (A.st.set id none))) : EndR R x A:=by
 cases x with
 | normal=>obtain ⟨A',g1,g2⟩:=h; exact ⟨A',.row d h1 h2 h3 g1,g2⟩
 | ret=>obtain ⟨A',g1,g2⟩:=h; exact ⟨A',.row d h1 h2 h3 g1,g2⟩
 | _=>exact h.elim

theorem EndR.vc {R : AState → Prop} {c : Code} (h : VC P W0 n c (EndR R) A) : VC P W0 n c (fun e A'=>(e = .normal ∨ e = .ret) ∧ R A') A:=fun w C a hr =>
 wp_mono (h w C a hr) fun e a' w' ⟨A',C',q,r,s⟩=>by
  cases e with
  | normal=>obtain ⟨B,g1,g2⟩:=q; obtain ⟨C'',h1,h2⟩:=r.frz g1; exact ⟨B,C'',⟨.inl rfl,g2⟩,h1,s.trans h2⟩
  | ret=>obtain ⟨B,g1,g2⟩:=q; obtain ⟨C'',h1,h2⟩:=r.frz g1; exact ⟨B,C'',⟨.inr rfl,g2⟩,h1,s.trans h2⟩
  | _=>exact q.elim

theorem fn_call {f : FuncId} {fn : Func} {c : Code} {args : List AV} {Q : AV → Store → Prop} {m : Nat} (ts : List Nat) (fz : List Nat) (hf : P.funcs[f]? = some fn) (hb : fn.body = some c) (hnm : (fn.name == "runtime.NumGoroutine") = false)
  (hm : fn.ntmps = m) (hargs : Nat.ble args.length m = true) (hres : fn.results = (ts.map ResultVar.tmp).toArray)
  (h : (∀ a ∈ args,Small a) → cVC P W0 m fz c (EndR fun A=>∃ r,Weak (resOf A.env ts) r ∧ σ.length ≤ A.st.length ∧ Q r A.st) ⟨envOf args,σ⟩) : ACall P W0 f args σ Q:=by
 subst hm
 refine fun w C vs hst hl hv=>?_
 have hsm : ∀ a ∈ args,Small a:=small_mem fun i x hx=>(hv i x _ hx (List.getElem?_eq_getElem (by rw [← hl]; exact (List.getElem?_eq_some_iff.1 hx).1))).small
 have hvc:=EndR.vc (cVC_sound c _ _ (h hsm))
 refine .inl ⟨⟨fn,hf,by simp [hb],hnm⟩,calls_of_wp hf hb (wp_mono (hvc w C _ (rel_entry hst hl hv (Nat.le_of_ble_eq_true hargs))) fun e a' w' ⟨A',C',q,r,s⟩=>?_)⟩
 have fin : a'.defers = [] ∧ ∃ v,(results fn a'.tmps).run P w' = .ok v w' ∧ ∃ v₁ r σ' C',Ending.returned v = .returned v₁ ∧ Q r σ' ∧ StRel P W0 w' C' σ' ∧ RelV P w' C' r v₁ ∧ Step w C w' C':=by
  obtain ⟨_,r1,h2,_,h4⟩:=q
  obtain ⟨v,g1,g2⟩:=results_rel r hres
  exact ⟨r.defers,v,g1,v,r1,A'.st,C',rfl,h4,r.st,g2.weak h2,s⟩
 rcases q.1 with rfl | rfl
 ·exact fin
 ·exact fin

theorem fn_st {f : FuncId} {fn : Func} {c : Code} {args : List AV} {r : AV} {m : Nat} (ts : List Nat) (fz : List Nat) (hf : P.funcs[f]? = some fn) (hb : fn.body = some c) (hnm : (fn.name == "runtime.NumGoroutine") = false)
  (hm : fn.ntmps = m) (hargs : Nat.ble args.length m = true) (hres : fn.results = (ts.map ResultVar.tmp).toArray) (hr : IdsLt σ.length r)
  (h : (∀ a ∈ args,Small a) → cVC P W0 m fz c (EndR fun A=>Weak (resOf A.env ts) r ∧ A.st.take σ.length = σ) ⟨envOf args,σ⟩) : ACall P W0 f args σ fun r' σ'=>r' = r ∧ σ' = σ:=by
 subst hm
 refine fun w C vs hst hl hv=>?_
 have hsm : ∀ a ∈ args,Small a:=small_mem fun i x hx=>(hv i x _ hx (List.getElem?_eq_getElem (by rw [← hl]; exact (List.getElem?_eq_some_iff.1 hx).1))).small
 have hvc:=EndR.vc (cVC_sound c _ _ (h hsm))
 refine (acall_of_vc hf hb hnm (Nat.le_of_ble_eq_true hargs) hres (Q:=fun r' σ'=>r' = r ∧ σ' = σ) (hvc.mono fun e A' ⟨he,q1,q2⟩=>?_)) w C vs hst hl hv
 have key : EndQ ts (fun r' σ'=>r' = r ∧ σ' = σ) σ .ret A':=by
  refine ⟨r,σ,q1,⟨Nat.le_refl _,q2.symm⟩,fun id te xs hid hs=>?_,hr,rfl,rfl⟩
  have : σ[id]? = some (some (.cells te xs)):=by rw [← hs,← q2,List.getElem?_take,if_pos hid]
  exact hst.ids this
 rcases he with rfl | rfl
 ·exact key
 ·exact key

theorem fn_ext {f : FuncId} {fn : Func} {e : Array Value → Sem Value} {args : List AV} {r : AV} (hf : P.funcs[f]? = some fn) (hname : (fn.name == "runtime.NumGoroutine") = false)
  (hb : fn.body.isNone = true) (hn : Extern.findNext fn = none) (he : Extern.find fn = some e) (h : ∀ w C (vs : List Value),args.length = vs.length → (∀ (i : Nat) (a : AV) (v : Value),args[i]? = some a → vs[i]? = some v → RelV P w C a v) → ∃ v,(e vs.toArray).run P w = .ok v w ∧ RelV P w C r v) : PureFn P W0 f args r:=fun σ w C vs hst hl hv=>by
 obtain ⟨v,h1,h2⟩:=h w C vs hl hv
 refine .inr ⟨v,w,?_,v,r,σ,C,rfl,⟨rfl,rfl⟩,hst,h2,.refl _ _⟩
 rw [run_callFunc_extern hf hname hb hn he,h1]
 rfl

theorem AppA.own {t u e : TypeId} {x y : AV} {xs ys : List AV} {dst : Option Nat} {k : AState → Prop} (N : Nat) (ho : appB P t u e N = true) (hb : Bld A.st x e xs) (hy : ReadL A.st y e ys) (hN : xs.length + ys.length ≤ N)
  (hk : ∀ v σ',App A.st x e (xs ++ ys) v σ' → k ((A.put dst v).withSt σ')) : AppA P [t,u] [x,y] dst A k .mk:=by
 obtain ⟨h1,h2,h3⟩:=appB_inv ho
 exact .inl ⟨e,xs,ys,h1,hb,hy,Nat.le_trans (Nat.mul_le_mul_right _ hN) h2,Nat.le_trans hN h3,hk⟩

theorem AppA.row {t u e : TypeId} {x y : AV} {xs ys : List AV} {dst : Option Nat} {k : AState → Prop} (N : Nat) (ho : appB P t u e N = true) (hb : RowSt A.st x e xs) (hy : ReadL A.st y e ys) (hN : xs.length + ys.length ≤ N)
  (h0 : ys = [] → k ((A.put dst x).withSt A.st)) (hk : ys ≠ [] → k ((A.put dst (.row e A.st.length 0 (xs.length + ys.length))).withSt (killOf x A.st ++ [some (.cells e (xs ++ ys))]))) : AppA P [t,u] [x,y] dst A k .mk:=by
 obtain ⟨h1,h2,h3⟩:=appB_inv ho
 exact .inr (.inl ⟨e,xs,ys,h1,hb,hy,Nat.le_trans (Nat.mul_le_mul_right _ hN) h2,Nat.le_trans hN h3,h0,hk⟩)

theorem AppA.zero {t u e : TypeId} {k' kn : IntKind} {m : Nat} {z : AV} {dst : Option Nat} {k : AState → Prop} (N : Nat) (ht : elT P t = some e) (hu : P.underlying u = some (.int kn)) (hz : zeroOf P e = some z) (ho : (Nat.ble 1 (szOf P e) && (hasZero P e && (Nat.ble (N * bytesOf P e) 140737488355328 && Nat.ble N 9223372036854775807))) = true) (h0 : 0 < m) (hN : m ≤ N)
  (hk : k ((A.put dst (.row e A.st.length 0 m)).withSt (A.st ++ [some (.cells e (List.replicate m z))]))) : AppA P [t,u] [.nils,.int k' m] dst A k .mk:=by
 simp only [Bool.and_eq_true] at ho
 obtain ⟨h1,h2,h3,h4⟩:=ho
 exact .inr (.inr (.inl ⟨e,m,z,k',kn,⟨rfl,rfl⟩,⟨ht,hu,Nat.le_of_ble_eq_true h1,h2,hz⟩,h0,Nat.le_trans (Nat.mul_le_mul_right _ hN) (Nat.le_of_ble_eq_true h3),Nat.le_trans hN (Nat.le_of_ble_eq_true h4),hk⟩))

theorem AppA.keep {t u e : TypeId} {id off m : Nat} {y : AV} {zs ys : List AV} {dst : Option Nat} {k : AState → Prop} (N : Nat) (ho : appB P t u e N = true) (hs : A.st[id]? = some (some (.cells e zs))) (hm : off + m = zs.length) (hy : ReadL A.st y e ys) (hN : m + ys.length ≤ N)
  (hin : k ((A.put dst (.row e id off (m + ys.length))).withSt (A.st.set id (some (.cells e (zs ++ ys)))))) (hnew : k ((A.put dst (.row e A.st.length 0 (m + ys.length))).withSt (A.st ++ [some (.cells e (zs.drop off ++ ys))]))) : AppA P [t,u] [.row e id off m,y] dst A k .mk:=by
 obtain ⟨h1,h2,h3⟩:=appB_inv ho
 exact .inr (.inr (.inr (.inr (.inl ⟨e,id,off,m,zs,ys,h1,rfl,hs,hm,hy,Nat.le_trans (Nat.mul_le_mul_right _ hN) h2,Nat.le_trans hN h3,hin,hnew⟩))))
def appSB (P : Program) (t u e : TypeId) (N : Nat) : Bool:=elT P t == some e && (isStrT P u && (intT P e == some .u8 && (szOf P e == 1 && (prim P e && (hasZero P e && (Nat.ble (N * bytesOf P e) 140737488355328 && Nat.ble N 9223372036854775807))))))
theorem AppA.strS {t u e : TypeId} {σ : Store} {x : AV} {xs : List AV} {l : List UInt8} {dst : Option Nat} {k : AState → Prop} (hσ : A.st = σ) (N : Nat) (ho : appSB P t u e N = true) (hb : Bld σ x e xs) (hN : xs.length + l.length ≤ N)
  (hk : ∀ v σ',App σ x e (xs ++ l.map byteAV) v σ' → k ((A.put dst v).withSt σ')) : AppA P [t,u] [x,.str l] dst A k .mk:=by
 subst hσ
 simp only [appSB,Bool.and_eq_true,beq_iff_eq] at ho
 obtain ⟨h1,h2,h3,h4,h5,h6,h7,h8⟩:=ho
 have h7:=Nat.le_of_ble_eq_true h7
 have h8 : N ≤ maxLen:=Nat.le_of_ble_eq_true h8
 exact .inr (.inr (.inr (.inr (.inr ⟨e,xs,l,⟨h1,h2,h3,h4,h5,h6⟩,hb,rfl,Nat.le_trans (Nat.mul_le_mul_right _ hN) h7,Nat.le_trans hN h8,hk⟩))))
theorem ClearA.row {t e : TypeId} {id off m : Nat} {zs : List AV} {v : AV} {dst : Option Nat} {k : AState → Prop} (h1 : elT P t = some e) (h3 : 0 < szOf P e) (hz : zeroOf P e = some v) (hs : A.st[id]? = some (some (.cells e zs))) (hN : off + m ≤ zs.length)
  (hk : k ((A.put dst (.tup [])).withSt (A.st.set id (some (.cells e (laidL zs off (List.replicate m v))))))) : ClearA P [t] [.row e id off m] dst A k .mk :=
 ⟨e,id,off,m,zs,v,⟨h1,h3,hz⟩,rfl,hs,hN,hk⟩
theorem PutA.put {t kt vt : TypeId} {id : Nat} {ix v : AV} {l : List (AV × AV)} {k : AState → Prop} (h1 : mapT P t = some (kt,vt)) (h2 : Maps.Keyed P kt) (h3 : keyC P kt ix) (h4 : (rig1 v).isSome = true) (hs : A.st[id]? = some (some (.mp kt l)))
  (hk : k (A.withSt (A.st.set id (some (.mp kt (mset P l ix v)))))) : PutA P t (.mp id) ix v A k .mk:=⟨kt,vt,l,h1,h2,h3,h4,hs,hk⟩

theorem MakeA.go {t e : TypeId} {k k' : IntKind} {m : Nat} {z : AV} {dst : Option Nat} {K : AState → Prop} (N : Nat) (ht : elT P t = some e) (hz : zeroOf P e = some z) (ho : (Nat.ble 1 (szOf P e) && Nat.ble (N * bytesOf P e) 281474976710656 && Nat.ble N 9223372036854775807) = true) (hN : m ≤ N)
  (hk : K ((A.put dst (.row e A.st.length 0 m)).withSt (A.st ++ [some (.cells e (List.replicate m z))]))) : MakeA P t (.int k m) (.int k' m) dst A K .mk:=by
 rw [Bool.and_eq_true,Bool.and_eq_true] at ho
 refine ⟨rfl,?_⟩
 simp only [ht,hz,Int.toNat_natCast]
 refine ⟨Nat.le_of_ble_eq_true ho.1.1,Int.natCast_nonneg _,Nat.le_trans (Nat.mul_le_mul_right _ hN) (Nat.le_of_ble_eq_true ho.1.2),Nat.le_trans hN (Nat.le_of_ble_eq_true ho.2),hk⟩

theorem PureSt.of {so : Option Store} {g : FuncId} {us : List AV} {r : AV} (h : PureFn P W0 g us r) : PureSt P W0 so g us r:=by cases so <;> first | exact h | exact h _
theorem CallP.go {gd : Option Bool} {so : Option Store} {g : FuncId} {caps us : List AV} {dst : Option Nat} {k : AState → Prop} {r : AV} (h : imp gd (PureFn P W0 g (us ++ caps) r)) (hk : k (A.put dst (wrapG gd r))) : CallP P W0 gd so (.fn g caps) us dst A k .mk:=⟨r,h.map .of,hk⟩
theorem CallP.st {gd : Option Bool} {g : FuncId} {caps us : List AV} {dst : Option Nat} {k : AState → Prop} {r : AV} (h : imp gd (ACall P W0 g (us ++ caps) σ fun r' σ'=>r' = r ∧ σ' = σ)) (hk : k (A.put dst (wrapG gd r))) : CallP P W0 gd (some σ) (.fn g caps) us dst A k .mk:=⟨r,h,hk⟩
theorem CallP.fn {gd : Option Bool} {so : Option Store} {g : FuncId} {us : List AV} {dst : Option Nat} {k : AState → Prop} {r : AV} (h : PureFn P W0 g us r) (hk : k (A.put dst (wrapG gd r))) : CallP P W0 gd so (.fn g []) us dst A k .mk:=⟨r,.of (.of (by simpa using h)),hk⟩
theorem CallP.fnG {G : Bool} {so : Option Store} {g : FuncId} {us : List AV} {dst : Option Nat} {k : AState → Prop} {r : AV} (h : G = true → PureFn P W0 g us r) (hk : k (A.put dst (.maybe G r))) : CallP P W0 (some G) so (.fn g []) us dst A k .mk:=⟨r,fun hg=>.of (by simpa using h hg),hk⟩

theorem put_withSt (dst : Option Nat) (r : AV) : (A.put dst r).withSt A.st = A.put dst r:=by cases dst <;> rfl

theorem CallA.pure {g : FuncId} {caps us : List AV} {dst : Option Nat} {k : AState → Prop} {r : AV} (h : PureFn P W0 g (us ++ caps) r) (hk : k (A.put dst r)) : CallA P W0 (.fn g caps) us dst A k .mk :=
 (h A.st).mono fun r' σ' ⟨h1,h2⟩=>by subst h1 h2; rw [put_withSt]; exact hk
theorem CallA.fn {g : FuncId} {us : List AV} {dst : Option Nat} {k : AState → Prop} {r : AV} (h : PureFn P W0 g us r) (hk : k (A.put dst r)) : CallA P W0 (.fn g []) us dst A k .mk:=.pure (by simpa using h) hk

end
end Go.Av
end
