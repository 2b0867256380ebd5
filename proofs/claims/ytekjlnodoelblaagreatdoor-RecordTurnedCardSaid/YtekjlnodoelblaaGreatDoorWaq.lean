/- Texts that the last one of this claim rests on: a layer over the guide's own conditions for code; contracts of the functions that the law reaches, one by one. No conditions beside those of the given rows. -/
import Derived.Test.YtekjlnodoelblaaGreatDoorWad
set_option linter.unusedSimpArgs false
set_option linter.unusedVariables false
section
namespace Go.Av
open Go
section
variable {P : Program} {W0 w w' : World} {C C' : Ctx} {σ σ' : Store} {n : Nat} {A : AState} {a : Act}

theorem StRel.freeze_cell (h : StRel P W0 w C σ) {te e te' t : TypeId} {id0 i id off m o : Nat} {path : List Nat} {zs xs : List AV} {z : AV} (h0 : σ[id0]? = some (some (.cells te zs))) (hz : zs[i]? = some z) (hp : z.at path = some (.row e id off m))
  (hs : σ[id]? = some (some (.cells te' xs))) (hm : off + m ≤ xs.length) (hne : id ≠ id0) (hpl : place P te path = some (t,o)) :
  StRel P W0 w (C.kill id) ((σ.set id none).set id0 (some (.cells te (zs.set i (z.setAt path (.sl e ((xs.drop off).take m))))))):=by
 have hidl:=(List.getElem?_eq_some_iff.1 hs).1
 obtain ⟨k1,k2⟩:=h.kill id hidl
 obtain ⟨b,base,room,arr,t',fr,m1,m2,mf,m3,m4,cf,m5⟩:=h.cells h0
 obtain ⟨r1,r2,r3,r4⟩:=m5 i z hz
 obtain ⟨c,g1,g2,g3,g4⟩:=at_rel path te t o z _ (cf i) r1 r3 hpl hp
 obtain ⟨v,rfl⟩:=g1.one_cell rfl
 have hfz:=freeze_row h (.one rfl g1) hs hm
 have hfz1:=hfz.one_inv rfl
 have hft : fits P t (.sl e ((xs.drop off).take m)):=⟨rfl,g2.2⟩
 obtain ⟨q1,q2,q3⟩:=setAt_rel path te t o z _ _ (cf i) [v] (r1.mono k1) r3 hpl hp hfz1 hft
 have hsp : (splice (cf i).toArray o [v]).toList = cf i:=by
  refine List.ext_getElem? fun p=>?_
  rw [Array.getElem?_toList,splice_get (by simpa using q1)]
  split
  ·rename_i hpr
   have hp0 : p - o = 0:=by simp at hpr; omega
   have hpo : p = o:=by simp at hpr; omega
   rw [hp0,hpo]
   exact (g4 0 v rfl).symm
  ·simp
 rw [hsp] at q2
 have hid0l : id0 < σ.length:=(List.getElem?_eq_some_iff.1 h0).1
 refine k2.change (Step.refl _ _) k2.low (by rw [k2.nx]; simp) k2.inj k2.dom fun j=>?_
 by_cases hj : j = id0
 ·subst hj
  left
  rw [List.getElem?_set_self (by simpa using hid0l),Option.join_some,kill_m,if_neg (fun e=>hne e.symm),m1]
  refine ⟨rfl,arr,t',fr,m2,mf,m3,by simpa using m4,cf,fun p x hx=>?_⟩
  rw [List.getElem?_set] at hx
  split at hx
  ·rename_i hpi
   split at hx
   ·cases hx
    subst hpi
    exact ⟨q2,r2,q3,r4⟩
   ·cases hx
  ·obtain ⟨s1,s2,s3,s4⟩:=m5 p x hx
   exact ⟨s1.mono k1,s2,s3,s4⟩
 ·right
  refine ⟨by rw [List.getElem?_set_ne (fun e=>hj e.symm)],rfl,fun ow hm=>rfl⟩

inductive FrzM (P : Program) : AState → AState → Prop
 | refl (D : AState) : FrzM P D D
 | row {D B : AState} (d : Nat) {e te : TypeId} {id off m : Nat} {xs : List AV} : D.env d = .row e id off m → D.st[id]? = some (some (.cells te xs)) → off + m ≤ xs.length → FrzM P ((D.upd d (.sl e ((xs.drop off).take m))).withSt (D.st.set id none)) B → FrzM P D B
 | cell {D B : AState} {te e te' t : TypeId} (id0 i : Nat) (path : List Nat) {id off m o : Nat} {zs xs : List AV} {z : AV} : D.st[id0]? = some (some (.cells te zs)) → zs[i]? = some z → z.at path = some (.row e id off m) → D.st[id]? = some (some (.cells te' xs)) → off + m ≤ xs.length → id ≠ id0 → place P te path = some (t,o) →
   FrzM P (D.withSt ((D.st.set id none).set id0 (some (.cells te (zs.set i (z.setAt path (.sl e ((xs.drop off).take m)))))))) B → FrzM P D B
 | weak {D B : AState} {te : TypeId} (id0 i : Nat) {zs : List AV} {z z' : AV} : D.st[id0]? = some (some (.cells te zs)) → zs[i]? = some z → Sub z z' → FrzM P (D.withSt (D.st.set id0 (some (.cells te (zs.set i z'))))) B → FrzM P D B

theorem StRel.weak_cell (h : StRel P W0 w C σ) {te : TypeId} {id0 i : Nat} {zs : List AV} {z z' : AV} (h0 : σ[id0]? = some (some (.cells te zs))) (hz : zs[i]? = some z) (hs : Sub z z') :
  StRel P W0 w C (σ.set id0 (some (.cells te (zs.set i z')))):=by
 obtain ⟨b,base,room,arr,t',fr,m1,m2,mf,m3,m4,cf,m5⟩:=h.cells h0
 have hid0l : id0 < σ.length:=(List.getElem?_eq_some_iff.1 h0).1
 refine h.change (Step.refl _ _) h.low (by rw [h.nx]; simp) h.inj h.dom fun j=>?_
 by_cases hj : j = id0
 ·subst hj
  left
  rw [List.getElem?_set_self hid0l,Option.join_some,m1]
  refine ⟨rfl,arr,t',fr,m2,mf,m3,by simpa using m4,cf,fun p x hx=>?_⟩
  rw [List.getElem?_set] at hx
  split at hx
  ·rename_i hpi
   split at hx
   ·cases hx
    subst hpi
    obtain ⟨r1,r2,r3,r4⟩:=m5 i z hz
    exact ⟨r1.sub hs,r2,hs.fits _ r3,r4⟩
   ·cases hx
  ·exact m5 p x hx
 ·right
  exact ⟨by rw [List.getElem?_set_ne (fun e=>hj e.symm)],rfl,fun ow hm=>rfl⟩

theorem RelA.frzM {B : AState} (hf : FrzM P A B) : ∀ {C : Ctx},RelA P W0 n w C A a → ∃ C',RelA P W0 n w C' B a ∧ Step w C w C':=by
 induction hf with
 | refl A=>exact fun h=>⟨_,h,.refl _ _⟩
 | row d h1 h2 h3 _ ih =>
  intro C h
  have hv:=h.env d
  rw [h1] at hv
  have hfr:=freeze_row h.st hv h2 h3
  obtain ⟨k1,k2⟩:=h.st.kill _ (List.getElem?_eq_some_iff.1 h2).1
  have hr1:=h.step k1 k2
  have hr2 : RelA P W0 n w (C.kill _) ((AState.upd _ d (.sl _ _)).withSt (List.set _ _ none)) a:=⟨fun j=>by
   by_cases hj : j = d
   ·subst hj; simpa [AState.upd,AState.withSt] using hfr
   ·have:=hr1.env j; simpa [AState.upd,AState.withSt,hj] using this,hr1.defers,hr1.size,hr1.st⟩
  obtain ⟨C',g1,g2⟩:=ih hr2
  exact ⟨C',g1,k1.trans g2⟩
 | cell id0 i path h1 h2 h3 h4 h5 h6 h7 _ ih =>
  intro C h
  obtain ⟨k1,k2⟩:=h.st.kill _ (List.getElem?_eq_some_iff.1 h4).1
  have hr1:=h.step k1 (h.st.freeze_cell h1 h2 h3 h4 h5 h6 h7)
  obtain ⟨C',g1,g2⟩:=ih hr1
  exact ⟨C',g1,k1.trans g2⟩
 | weak id0 i h1 h2 h3 _ ih =>
  intro C h
  have hr1:=h.step (.refl _ _) (h.st.weak_cell h1 h2 h3)
  exact ih hr1

def resR (A : AState) : ResultVar → AV
 | .tmp t=>A.env t
 | .cell a _=>loadV A.st (A.env a)
def resRC (A : AState) : ResultVar → Prop
 | .tmp _=>True
 | .cell a t=>loadC none A.st t (A.env a)
def resM (A : AState) : List ResultVar → AV
 | [t]=>resR A t
 | ts=>.tup (ts.map (resR A))
def resMC (A : AState) : List ResultVar → Prop
 | []=>True
 | t :: r=>resRC A t ∧ resMC A r

def resF (a : Act) : ResultVar → Sem Value
 | .tmp t=>pure (a.tmps.getD t undef)
 | .cell a' ty=>do loadVar ty (← asAddr (a.tmps.getD a' undef))
theorem resR_run (hr : RelA P W0 n w C A a) (t : ResultVar) (hc : resRC A t) : ∃ v,(resF a t).run P w = .ok v w ∧ RelV P w C (resR A t) v:=by
 cases t with
 | tmp t=>exact ⟨_,rfl,hr.env t⟩
 | cell d ty =>
  have hd:=hr.env d
  simp only [resRC] at hc
  simp only [resR]
  cases hv : A.env d with
  | loc ty' v =>
   rw [hv] at hc hd
   obtain rfl : ty' = ty:=hc
   obtain ⟨b,o,cs,e,h1,h2,h3,h4⟩:=hd.loc_inv
   rw [resF,e]
   obtain ⟨x,g1,g2⟩:=run_loadVar_rel (w:=w) (off:=o) h1 h2 (fun j c hj=>(h4 j c hj).1)
   exact ⟨x,by simpa only [Sem.run_bind,asAddr,Sem.run_pure,Result.andThen_ok] using g1,g2⟩
  | ptr ty' id i path =>
   rw [hv] at hc hd
   obtain ⟨rfl,hl⟩:=hc
   obtain ⟨x,hx⟩:=Option.isSome_iff_exists.1 (show (look A.st id i path).isSome = true from hl)
   obtain ⟨te,xs,z,h1,h2,h3⟩:=look_inv hx
   obtain ⟨ad,e0,_,hm⟩:=hd.ptr_inv
   rw [resF,e0]
   obtain ⟨b,base,room,arr,t',fr,m1,m2,mf,m3,m4,cf,m5⟩:=hr.st.cells h1
   obtain ⟨b',te',base',room',off,e1,e2,e3⟩:=hm _ m1
   cases e1
   subst e3
   obtain ⟨r1,r2,r3,r4⟩:=m5 i z h2
   obtain ⟨c,g1,g2,g3,g4⟩:=at_rel path te _ off z x (cf i) r1 r3 e2 h3
   obtain ⟨y,q1,q2⟩:=run_loadVar_rel (w:=w) (b:=b) (off:=base + i * szOf P te + off) g1 g2 (fun j c' hj=>by
    have:=r4 _ _ (g4 j c' hj)
    rw [Nat.add_assoc]
    simp [World.cell?,m2,← Nat.add_assoc] at this ⊢
    exact this)
   refine ⟨y,?_,by simp only [loadV,hx,Option.getD_some]; exact q2⟩
   simpa only [Sem.run_bind,asAddr,Sem.run_pure,Result.andThen_ok] using q1
  | _=>rw [hv] at hc; exact hc.elim
theorem resL_run {F : ResultVar → Sem Value} (hr : RelA P W0 n w C A a) (hF : ∀ t,resRC A t → ∃ v,(F t).run P w = .ok v w ∧ RelV P w C (resR A t) v) : ∀ ts : List ResultVar,resMC A ts → ∃ vs : List Value,(ts.mapM F).run P w = .ok vs w ∧ vs.length = ts.length ∧ ∀ (i : Nat) (t : ResultVar) (v : Value),ts[i]? = some t → vs[i]? = some v → RelV P w C (resR A t) v
 | [],_=>⟨[],rfl,rfl,by simp⟩
 | t :: ts,hc=>by
  obtain ⟨v,h1,h2⟩:=hF t hc.1
  obtain ⟨vs,g1,g2,g3⟩:=resL_run hr hF ts hc.2
  refine ⟨v :: vs,?_,by simp [g2],fun i t' v' ht hv=>?_⟩
  ·rw [List.mapM_cons]
   simp only [Sem.run_bind,h1,Result.andThen_ok,g1,Sem.run_pure]
  ·cases i with
   | zero=>simp at ht hv; subst ht hv; exact h2
   | succ i=>exact g3 i t' v' (by simpa using ht) (by simpa using hv)
theorem resultsM_rel {fn : Func} {ts : List ResultVar} (hr : RelA P W0 n w C A a) (h : fn.results = ts.toArray) (hc : resMC A ts) : ∃ v,(results fn a.tmps).run P w = .ok v w ∧ RelV P w C (resM A ts) v:=by
 obtain ⟨vs,g1,g2,g3⟩:=resL_run (F:=resF a) hr (fun t ht=>resR_run hr t ht) ts hc
 have hm : (results fn a.tmps).run P w = .ok (if h : vs.toArray.size = 1 then vs.toArray[0] else .tuple vs.toArray) w:=by
  have e : results fn a.tmps = (do
    let vs ← fn.results.mapM (resF a)
    pure (if h : vs.size = 1 then vs[0] else .tuple vs)):=by
   unfold results
   congr 2
  rw [e,h,Array.mapM_eq_mapM_toList]
  simp only [Sem.run_bind,Sem.run_map]
  rw [g1]
  rfl
 match ts,vs,hm,g2,g3 with
 | [],[],hm,_,_=>exact ⟨_,hm,.tup (vs:=[]) rfl (by simp)⟩
 | [t],[v],hm,_,g3=>exact ⟨_,hm,g3 0 t v rfl rfl⟩
 | t :: u :: ts,v :: v' :: vs,hm,g2,g3 =>
  refine ⟨_,hm,?_⟩
  rw [dif_neg (by simp)]
  refine .tup (by simpa using g2.symm) (fun i x v hx hv=>?_)
  rw [List.getElem?_map,Option.map_eq_some_iff] at hx
  obtain ⟨q,hq,rfl⟩:=hx
  exact g3 i q v hq hv

def EndM (P : Program) (R : AState → Prop) : Exit → AState → Prop
 | .normal,A | .ret,A=>∃ A',FrzM P A A' ∧ R A'
 | _,_=>False
theorem EndM.ret {R : AState → Prop} (h : R A) : EndM P R .ret A:=⟨A,.refl A,h⟩
theorem EndM.normal {R : AState → Prop} (h : R A) : EndM P R .normal A:=⟨A,.refl A,h⟩
theorem EndM.via {R : AState → Prop} {x : Exit} {B : AState} (hx : x = .ret ∨ x = .normal) (hf : FrzM P A B) (h : R B) : EndM P R x A:=by
 rcases hx with rfl | rfl
 ·exact ⟨B,hf,h⟩
 ·exact ⟨B,hf,h⟩
theorem EndM.vc {R : AState → Prop} {c : Code} (h : VC P W0 n c (EndM P R) A) : VC P W0 n c (fun e A'=>(e = .normal ∨ e = .ret) ∧ R A') A:=fun w C a hr =>
 wp_mono (h w C a hr) fun e a' w' ⟨A',C',q,r,s⟩=>by
  cases e with
  | normal=>obtain ⟨B,g1,g2⟩:=q; obtain ⟨C'',h1,h2⟩:=r.frzM g1; exact ⟨B,C'',⟨.inl rfl,g2⟩,h1,s.trans h2⟩
  | ret=>obtain ⟨B,g1,g2⟩:=q; obtain ⟨C'',h1,h2⟩:=r.frzM g1; exact ⟨B,C'',⟨.inr rfl,g2⟩,h1,s.trans h2⟩
  | _=>exact q.elim

def FinM (ts : List ResultVar) (σ : Store) (Q : AV → Store → Prop) (A : AState) : Prop:=resMC A ts ∧ ∃ r,Weak (resM A ts) r ∧ σ.length ≤ A.st.length ∧ Q r A.st

theorem fn_callM {f : FuncId} {fn : Func} {c : Code} {args : List AV} {Q : AV → Store → Prop} {m : Nat} (ts : List ResultVar) (fz : List Nat) (hf : P.funcs[f]? = some fn) (hb : fn.body = some c) (hnm : (fn.name == "runtime.NumGoroutine") = false)
  (hm : fn.ntmps = m) (hargs : Nat.ble args.length m = true) (hres : fn.results = ts.toArray)
  (h : (∀ a ∈ args,Small a) → cVC P W0 m fz c (EndM P (FinM ts σ Q)) ⟨envOf args,σ⟩) : ACall P W0 f args σ Q:=by
 subst hm
 refine fun w C vs hst hl hv=>?_
 have hsm : ∀ a ∈ args,Small a:=small_mem fun i x hx=>(hv i x _ hx (List.getElem?_eq_getElem (by rw [← hl]; exact (List.getElem?_eq_some_iff.1 hx).1))).small
 have hvc:=EndM.vc (cVC_sound c _ _ (h hsm))
 refine .inl ⟨⟨fn,hf,by simp [hb],hnm⟩,calls_of_wp hf hb (wp_mono (hvc w C _ (rel_entry hst hl hv (Nat.le_of_ble_eq_true hargs))) fun e a' w' ⟨A',C',q,r,s⟩=>?_)⟩
 have fin : a'.defers = [] ∧ ∃ v,(results fn a'.tmps).run P w' = .ok v w' ∧ ∃ v₁ r σ' C',Ending.returned v = .returned v₁ ∧ Q r σ' ∧ StRel P W0 w' C' σ' ∧ RelV P w' C' r v₁ ∧ Step w C w' C':=by
  obtain ⟨_,hc,r1,h2,_,h4⟩:=q
  obtain ⟨v,g1,g2⟩:=resultsM_rel r hres hc
  exact ⟨r.defers,v,g1,v,r1,A'.st,C',rfl,h4,r.st,g2.weak h2,s⟩
 rcases q.1 with rfl | rfl
 ·exact fin
 ·exact fin

def FinP (ts : List ResultVar) (r : AV) (σ : Store) (A : AState) : Prop:=resMC A ts ∧ Weak (resM A ts) r ∧ A.st.take σ.length = σ

theorem fn_stM {f : FuncId} {fn : Func} {c : Code} {args : List AV} {r : AV} {m : Nat} (ts : List ResultVar) (fz : List Nat) (hf : P.funcs[f]? = some fn) (hb : fn.body = some c) (hnm : (fn.name == "runtime.NumGoroutine") = false)
  (hm : fn.ntmps = m) (hargs : Nat.ble args.length m = true) (hres : fn.results = ts.toArray) (hr : IdsLt σ.length r)
  (h : (∀ a ∈ args,Small a) → cVC P W0 m fz c (EndM P (FinP ts r σ)) ⟨envOf args,σ⟩) : ACall P W0 f args σ fun r' σ'=>r' = r ∧ σ' = σ:=by
 subst hm
 refine fun w C vs hst hl hv=>?_
 have hsm : ∀ a ∈ args,Small a:=small_mem fun i x hx=>(hv i x _ hx (List.getElem?_eq_getElem (by rw [← hl]; exact (List.getElem?_eq_some_iff.1 hx).1))).small
 have hvc:=EndM.vc (cVC_sound c _ _ (h hsm))
 refine .inl ⟨⟨fn,hf,by simp [hb],hnm⟩,calls_of_wp hf hb (wp_mono (hvc w C _ (rel_entry hst hl hv (Nat.le_of_ble_eq_true hargs))) fun e a' w' ⟨A',C',q,rl,s⟩=>?_)⟩
 have fin : a'.defers = [] ∧ ∃ v,(results fn a'.tmps).run P w' = .ok v w' ∧ ∃ v₁ r' σ' C',Ending.returned v = .returned v₁ ∧ (r' = r ∧ σ' = σ) ∧ StRel P W0 w' C' σ' ∧ RelV P w' C' r' v₁ ∧ Step w C w' C':=by
  obtain ⟨_,hc,q1,q2⟩:=q
  obtain ⟨v,g1,g2⟩:=resultsM_rel rl hres hc
  have hle : σ.length ≤ A'.st.length:=by have:=congrArg List.length q2; rw [List.length_take] at this; omega
  have hs2 : StRel P W0 w' (C'.upTo σ.length) σ:=by
   have:=rl.st.upTo (n:=σ.length) hle fun id te xs hid hs=>hst.ids (show σ[id]? = some (some (.cells te xs)) by rw [← hs,← q2,List.getElem?_take,if_pos hid])
   rwa [q2] at this
  exact ⟨rl.defers,v,g1,v,r,σ,C'.upTo σ.length,rfl,⟨rfl,rfl⟩,hs2,(g2.weak q1).upTo hr,s.upTo (by rw [hst.nx]; exact Nat.le_refl _)⟩
 rcases q.1 with rfl | rfl
 ·exact fin
 ·exact fin
theorem fn_pureM {f : FuncId} {fn : Func} {c : Code} {args : List AV} {r : AV} {m : Nat} (ts : List ResultVar) (fz : List Nat) (hf : P.funcs[f]? = some fn) (hb : fn.body = some c) (hnm : (fn.name == "runtime.NumGoroutine") = false)
  (hm : fn.ntmps = m) (hargs : Nat.ble args.length m = true) (hres : fn.results = ts.toArray) (hr : IdsLt 0 r)
  (h : (∀ a ∈ args,Small a) → ∀ σ,cVC P W0 m fz c (EndM P (FinP ts r σ)) ⟨envOf args,σ⟩) : PureFn P W0 f args r:=fun σ =>
 fn_stM ts fz hf hb hnm hm hargs hres (idsLt_mono (Nat.zero_le _) hr) fun hs=>h hs σ
def EndPM (ts : List ResultVar) (r : AV) (σ : Store) : Exit → AState → Prop
 | .normal,A | .ret,A=>FinP ts r σ A
 | _,_=>False
theorem fn_pureN {f : FuncId} {fn : Func} {c : Code} {args : List AV} {r : AV} {m : Nat} (ts : List ResultVar) (fz : List Nat) (hf : P.funcs[f]? = some fn) (hb : fn.body = some c) (hnm : (fn.name == "runtime.NumGoroutine") = false)
  (hm : fn.ntmps = m) (hargs : Nat.ble args.length m = true) (hres : fn.results = ts.toArray) (hr : IdsLt 0 r)
  (h : (∀ a ∈ args,Small a) → ∀ σ,cVC P W0 m fz c (EndPM ts r σ) ⟨envOf args,σ⟩) : PureFn P W0 f args r :=
 fn_pureM ts fz hf hb hnm hm hargs hres hr fun hs σ=>cVC_mono c _ (fun e A' _ q=>by
  cases e with
  | normal=>exact EndM.normal q
  | ret=>exact EndM.ret q
  | _=>exact q.elim) (h hs σ)
@[go_sem ↓] theorem eop_alloc {fz : List Nat} {k : AState → Prop} (dst : Option Nat) (t : TypeId) : eop P W0 fz dst A k (.alloc t) = op2 P W0 fz dst A k (.alloc t):=propext Iff.rfl
@[go_sem] theorem EndPM_ret (ts : List ResultVar) (r : AV) : EndPM ts r σ .ret A = (resMC A ts ∧ Weak (resM A ts) r ∧ A.st.take σ.length = σ):=propext Iff.rfl
@[go_sem] theorem EndPM_normal (ts : List ResultVar) (r : AV) : EndPM ts r σ .normal A = (resMC A ts ∧ Weak (resM A ts) r ∧ A.st.take σ.length = σ):=propext Iff.rfl
@[go_sem] theorem FinP_eq (ts : List ResultVar) (r : AV) : FinP ts r σ A = (resMC A ts ∧ Weak (resM A ts) r ∧ A.st.take σ.length = σ):=propext Iff.rfl
@[go_sem] theorem FinM_eq (ts : List ResultVar) (Q : AV → Store → Prop) : FinM ts σ Q A = (resMC A ts ∧ ∃ r,Weak (resM A ts) r ∧ σ.length ≤ A.st.length ∧ Q r A.st):=propext Iff.rfl
@[go_sem] theorem resM_one (t : ResultVar) : resM A [t] = resR A t:=rfl
@[go_sem] theorem resM_two (t u : ResultVar) : resM A [t,u] = .tup [resR A t,resR A u]:=rfl
@[go_sem] theorem resM_three (t u v : ResultVar) : resM A [t,u,v] = .tup [resR A t,resR A u,resR A v]:=rfl
@[go_sem] theorem resM_nil : resM A [] = .tup []:=rfl
@[go_sem] theorem resR_tmp (t : Nat) : resR A (.tmp t) = A.env t:=rfl
@[go_sem] theorem resR_cell (t : Nat) (ty : TypeId) : resR A (.cell t ty) = loadV A.st (A.env t):=rfl
@[go_sem] theorem resRC_tmp (t : Nat) : resRC A (.tmp t) = True:=rfl
@[go_sem] theorem resRC_cell (t : Nat) (ty : TypeId) : resRC A (.cell t ty) = loadC none A.st ty (A.env t):=rfl
@[go_sem] theorem resMC_nil : resMC A [] = True:=rfl
@[go_sem] theorem resMC_cons (t : ResultVar) (r : List ResultVar) : resMC A (t :: r) = (resRC A t ∧ resMC A r):=rfl
end
end Go.Av
end
