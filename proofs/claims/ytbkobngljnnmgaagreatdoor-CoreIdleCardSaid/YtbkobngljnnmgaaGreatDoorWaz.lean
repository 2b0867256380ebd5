/- What the last text of this claim rests on. No conditions. -/
import Derived.Test.YtbkobngljnnmgaaGreatDoorWad
set_option linter.unusedSimpArgs false
set_option linter.unusedVariables false
open Nat renaming le_trans->acG,le_succ->acI
open Classical renaming choose_spec->acH
section
namespace Go.Av
open Go
structure eA (P:Program)(W0:World)(B:Nat)(w:World)(C:Ctx)(w':World)(C':Ctx)(σ':ab):Prop where
 s:lG w C w' C'
 st:aE P W0 w' C' σ'
 base: ∀w0 C0,Step w0 C0 w C->w0.heap.size<=B->Step w0 C0 w' C'
 size:w.heap.size<=w'.heap.size
section
variable {P :Program}{W0 w w' w1 w0:World}{C C' C1 C0:Ctx}{σ σ':ab}{n m B L D p:Nat}{A:aa}{a:Act}
theorem lG.trans (h:lG w C w1 C1)(k:lG w1 C1 w' C'):lG w C w' C':=
 ⟨acG h.nx k.nx,λid ow hid hm=>h.dead id ow hid (k.dead id ow (Nat.lt_of_lt_of_le hid h.nx) hm),λb o hs=>by
  obtain⟨e1,s1⟩:=h.gZ b o hs;grind [lG.gZ]⟩
theorem eA.trans (h:eA P W0 B w C w1 C1 σ)(k:eA P W0 B w1 C1 w' C' σ'):eA P W0 B w C w' C' σ':=
 ⟨h.s.trans k.s,k.st,λw0 C0 hs hb=>k.base w0 C0 (h.base w0 C0 hs hb) hb,acG h.size k.size⟩
theorem eA.of (hs:Step w C w' C')(hst:aE P W0 w' C' σ'):eA P W0 B w C w' C' σ':=⟨hs.s,hst,λ_ _ h _=>h.trans hs,hs.size⟩
theorem eA.refl (hst:aE P W0 w C σ):eA P W0 B w C w C σ:=.of (.refl _ _) hst
theorem bG.later (h:bG P W0 n w C A a)(k:eA P W0 B w C w' C' σ'):bG P W0 n w' C' (A.ay σ') a:=⟨λi=>(h.env i).gC k.s,h.defers,h.size,k.st⟩
theorem eA.put {o o':Obj}(hA:dF w C D o)(h2:iq o'=true)(hB:B<=D)(hW:W0.heap.size<=B)(hst:aE P W0 w C σ):eA P W0 B w C (w.putObj D o') C σ:=
 ⟨hA.Ta h2,hst.apart hA h2 (acG hW hB),λw0 C0 hs hb=>hs.apart hA h2 (acG hb hB),by simp_all⟩
def vy (Qn Qr:ab->Prop):Exit->aa->Prop
 | .normal,A=>Qn A.st
 | .ret,A=>Qr A.st
 |_,_=>False
def Fe (f:FuncId)(tmps:Array Value)(p:Nat)(assign body:Code)(D:Nat)(st:LoopState)(j:Option Code):Obj:=.loop { state:=st,pending:=j,fn:=f,tmps,params:=#[p],assign,body,defers:=D }
def Ud (f:FuncId)(tmps:Array Value)(p:Nat)(assign body:Code)(D L:Nat)(w:World)(C:Ctx):Prop:=dF w C L (Fe f tmps p assign body D .ready none)/\dF w C D (.deferred (some []))
def aaz (f:FuncId)(tmps:Array Value)(p:Nat)(assign body:Code)(D L:Nat)(w:World)(C:Ctx):Prop:=dF w C L (Fe f tmps p assign body D .done (some .ret))/\dF w C D (.deferred (some []))
def vg (P:Program)(W0:World)(B L:Nat)(U X:World->Ctx->Prop)(i:Int)(w:World)(C:Ctx)(Qn Qr:ab->Prop):Prop:=
 ∃fn tmps assign body,(Instr.yield L #[.int .i64 i]).run P w= .ok (.round L fn tmps assign body) w/\ ∀m,RoundIn .wide m P L fn tmps assign body w λe w'=>∃ C' σ',eA P W0 B w C w' C' σ'/\((e= .returned (.bool true)/\U w' C'/\Qn σ')\/(e= .returned (.bool false)/\X w' C'/\Qr σ'))
theorem TC {fn:FuncId}{assign body:Code}{i:Int}{Qn Qr:ab->Prop}(hr:bG P W0 n w C A a)(hp:p<n)(hU:Ud fn a.tmps p assign body D L w C)(hne:L≠D)(hBL:B<=L)(hBD:B<=D)(hW:W0.heap.size<=B)
  (hvc:VC P W0 n assign (cr (VC P W0 n body (vy Qn Qr)) λ_ _=>False) (A.upd p (.int .i64 i))):vg P W0 B L (Ud fn a.tmps p assign body D L) (aaz fn a.tmps p assign body D L) i w C Qn Qr:=by
 obtain⟨hL,hD⟩:=hU;have hy:(Instr.yield L #[.int .i64 i]).run P w= .ok (.round L fn (a.tmps.setIfInBounds p (.int .i64 i)) assign body) w:=by
  have:=run_yield (P:=P) (args:=#[.int .i64 i]) hL.hp rfl;simp_all
 refine⟨_,_,_,_,hy,λm=>roundIn_of_wpIn trivial ?_⟩;have hrA:bG P W0 n w C (A.upd p (.int .i64 i)) { tmps:=a.tmps.setIfInBounds p (.int .i64 i),defers:=[] }:=by
  have h1:=hr.put hp (aJ.one (a:=.int .i64 i) rfl (Rel.int .i64 i));grind [Act.put,bG.defers]
 have h1:=hvc w C _ hrA (some L) m [];rw[fU]at h1;refine wpIn_mono h1 λe a1 w1 ⟨a0,e0,A1,C1,q,r1,s1⟩=>?_
 rw[fU]at e0;subst e0;cases e with
 |normal=>
  have hL1:=hL.step s1;have hD1:=hD.step s1;refine⟨_,run_beginRound hL1.hp rfl,?_⟩;obtain⟨ob,hob⟩: ∃ob,ob=(Obj.loop { state:=.busy,pending:=none,fn:=fn,tmps:=a.tmps,params:=#[p],assign,body,defers:=D }):=⟨_,rfl⟩;have hL2:dF (w1.putObj L ob) C1 L ob:=hL1.put (by rw[hob];rfl);have hD2:dF (w1.putObj L ob) C1 D (.deferred (some [])):=hD1.other (λe=>hne e.symm);have l1:eA P W0 B w C (w1.putObj L ob) C1 A1.st:=(eA.of s1 r1.st).trans (eA.put hL1 (by rw[hob];rfl) hBL hW r1.st);have r2:bG P W0 n (w1.putObj L ob) C1 A1 a1:=r1.apart hL1 (by rw[hob];rfl) (acG hW hBL);have h2:=q _ _ _ r2 (some L) m [];rw[fU]at h2;rw[show(w1.putObj L _)=w1.putObj L ob by rw[hob]];refine wpIn_mono h2 λe3 a3 w3 ⟨a4,e4,A3,C3,q3,r3,s3⟩=>?_
  have hL3:=hL2.step s3;have hD3:=hD2.step s3;have fin: ∀(j:Option Code),∃v w',(Instr.endRound L j).run P w3= .ok v w'/\v= .bool j.isNone/\dF w' C3 L (Fe fn a.tmps p assign body D (if j.isNone then .ready else .done) j)/\dF w' C3 D (.deferred (some []))/\eA P W0 B w C w' C3 A3.st:=λj=>by
   have hp3:=hL3.hp;rw[hob]at hp3;have:=run_endRound (P:=P) j hp3;refine⟨_,_,this,rfl,hL3.put (by rfl),hD3.other (λe=>hne e.symm),(l1.trans (eA.of s3 r3.st)).trans (eA.put hL3 (by rfl) hBL hW r3.st)⟩
  cases e3 with
  |normal=>
   obtain⟨v,w',g1,g2,g3,g4,g5⟩:=fin none;exact⟨v,w',g1,C3,A3.st,g5,.inl ⟨by simp_all,⟨g3,g4⟩,q3⟩⟩
  |ret=>
   obtain⟨v,w',g1,g2,g3,g4,g5⟩:=fin (some .ret);exact⟨v,w',g1,C3,A3.st,g5,.inr ⟨by simp_all,⟨g3,g4⟩,q3⟩⟩
  |_=>exact q3.elim
 |_=>exact q.elim
def Dc (U:Bool->World->Ctx->Prop):Prop:=∀ md w C w' C',U md w C->Step w C w' C'->U md w' C'
def Pl (P:Program)(W0:World)(f:FuncId)(caps:List AV)(yc:Int->ab->(ab->Prop)->Prop)(Qx:ab->Prop)(Pre Qe:ab->Prop):Prop:=
 ∀(B L:Nat) (U:Bool->World->Ctx->Prop) (w:World) (C:Ctx) (σ:ab) (vs:List Value) (m:Nat),Dc U->
  (∀i w C σ Qn,U true w C->aE P W0 w C σ->yc i σ Qn->vg P W0 B L (U true) (U false) i w C Qn Qx)->
  U true w C->aE P W0 w C σ->caps.length=vs.length->(∀(i:Nat) (a:AV) (v:Value),caps[i]?=some a->vs[i]?=some v->aJ P w C a v)->Pre σ->
  CallsIn .wide m P f (#[.func (.yield L) #[] #[]]++vs.toArray) w λe w'=>∃ v C' σ',e= .returned v/\eA P W0 B w C w' C' σ'/\((U true w' C'/\Qe σ')\/(U false w' C'/\Qx σ'))
theorem VCM.range {g:Operand}{assign body:Code}{Q:Exit->aa->Prop}{f:FuncId}{caps:List AV}{Pre Qe Qx:ab->Prop}{yc:Int->ab->(ab->Prop)->Prop}(hg:A.val g= .fn f caps)(hp:p<n)
  (hk: ∀args w,(callFunc f args).run P w= .ok (.enter f args) w) (hit:Pl P W0 f caps yc Qx Pre Qe) (hpre:Pre A.st)
  (hround: ∀i σ Qn,yc i σ Qn->VC P W0 n assign (cr (VC P W0 n body (vy Qn Qx)) λ_ _=>False) ((A.ay σ).upd p (.int .i64 i)))
  (he: ∀σ,Qe σ->Q .normal (A.ay σ)) (hx: ∀σ,Qx σ->Q .ret (A.ay σ)):VCM P W0 n (.rangeFunc g #[p] assign body) Q A:=λw C a ms B hr hm hd hB=>by
 refine wpIn_rangeFunc λfn _=>?_
 have hv:=hr.val g;rw[hg]at hv;obtain⟨vs,hvs,hvl,hvr⟩: ∃vs:List Value,a.eval g= .func (.func f) #[] vs.toArray/\caps.length=vs.length/\ ∀(i:Nat) (c:AV) (v:Value),caps[i]?=some c->vs[i]?=some v->aJ P w C c v:=by
  have h1:=hv.aH rfl;generalize a.eval g=ev at h1;cases h1 with
  |fn h2 h3 h4=>exact⟨_,rfl,h2,λi c v hc hv=>.one (h3 i c hc) (h4 i c v hc hv)⟩
 obtain⟨D,hDd⟩: ∃D,D=w.heap.size:=⟨_,rfl⟩;obtain⟨W1,hW1⟩: ∃W1,W1=(w.alloc (.deferred (some []))).alloc (Fe fn a.tmps p assign body D .ready none):=⟨_,rfl⟩;have hst1:aE P W0 W1 C A.st:=by grind [aE.alloc,bG.st]
 have hs1:Step w C W1 C:=by rw[hW1];exact(Step.alloc w C _).trans (Step.alloc _ C _)
 have hU:Ud fn a.tmps p assign body D (D+1) W1 C:=by
  refine⟨?_,?_⟩
  .have:=dF.new (hr.st.alloc (.deferred (some []))) (Fe fn a.tmps p assign body D .ready none) rfl;simp_all
  .have:=(dF.new hr.st (.deferred (some [])) rfl).step (Step.alloc _ C (Fe fn a.tmps p assign body D .ready none));simp_all
 refine⟨D+1,[{ target:=.collected D,args:=#[] }],W1,{ target:=.fn (.func f) vs.toArray,args:=#[.func (.yield (D+1)) #[] #[]] },W1,f,#[.func (.yield (D+1)) #[] #[]]++vs.toArray,W1,?_,?_,λ_ _=>trivial,?_,(λh=>by cases h),?_⟩
 .rw[hW1,hDd];exact run_enterLoop_outer _ _ _ _ _
 .have hve:(more a ms).eval g= .func (.func f) #[] vs.toArray:=hvs;simp only[resolve,hve];simp[go_sem]
 .simp[invoke,go_sem,hk]
 .have hWD:W0.heap.size<=D:=by rw[hDd];exact hr.st.base.size
  have hc:=hit D (D+1) (fun|true=>λw2 C2=>Ud fn a.tmps p assign body D (D+1) w2 C2/\ ∀i,aJ P w2 C2 (A.env i) (a.tmps.getD i undef)|false=>aaz fn a.tmps p assign body D (D+1)) W1 C A.st vs (0-1) (λmd _ _ _ _ h k=>by
   cases md
   .exact⟨h.1.step k,h.2.step k⟩
   .exact⟨⟨h.1.1.step k,h.1.2.step k⟩,λi=>(h.2 i).mono k⟩)
   (λi w2 C2 σ2 Qn ⟨hU2,hv2⟩ hst2 hyc=>by
    have hr2:bG P W0 n w2 C2 (A.ay σ2) a:=⟨hv2,hr.defers,hr.size,hst2⟩;obtain⟨fn',tmps',asg,bd,h1,h2⟩:=TC hr2 hp hU2 (Nat.succ_ne_self D) (acI D) (Nat.le_refl D) hWD (hround i σ2 Qn hyc);exact⟨fn',tmps',asg,bd,h1,λm=>(h2 m).mono λe w' ⟨C',σ',l,hh⟩=>⟨C',σ',l,hh.imp (λ⟨e,u,q⟩=>⟨e,⟨u,λi=>(hv2 i).gC l.s⟩,q⟩) id⟩⟩)
   ⟨hU,λi=>(hr.env i).mono hs1⟩ hst1 hvl (λi c v h1 h2=>(hvr i c v h1 h2).mono hs1) hpre
  refine hc.mono λe w3 ⟨v,C3,σ3,e3,l,hq⟩=>?_
  subst e3;have hs3:Step w C w3 C3:=l.base w C hs1 (by omega);have hr3:bG P W0 n w3 C3 (A.ay σ3) a:=(hr.step hs1 hst1).later l;have hde:({ more a ms with defers:=[{ target:=.collected D,args:=#[] }]++(more a ms).defers }:Act)=more a ({ target:=.collected D,args:=#[] }::ms):=by
   simp[more,hr.defers]
  have fin: ∀(st:LoopState) (j:Option Code),st≠ .busy->dF w3 C3 (D+1) (Fe fn a.tmps p assign body D st j)->dF w3 C3 D (.deferred (some []))-> ∃w4,(Instr.endLoop (D+1)).run P w3= .ok j w4/\bG P W0 n w4 C3 (A.ay σ3) a/\nJ w4 C3 B ({ target:=.collected D,args:=#[] }::ms)/\(({ target:=.collected D,args:=#[] }::ms:List Deferred).map (·.target)).Nodup/\Step w C w4 C3:=λst j hne hL hD=>by
   have hs4:=hs3.apart hL (o':=Fe fn a.tmps p assign body D .exhausted j) rfl (by omega);refine⟨_,run_endLoop hL.hp hne,hr3.apart hL rfl (acG hWD (acI D)),λd hdm=>?_,?_,hs4⟩
   .rcases List.mem_cons.1 hdm with rfl|hdm
    .grind [dF.other]
    .exact(hm.step hs4) d hdm
   .rw[List.map_cons,List.nodup_cons];refine⟨λhmem=>?_,hd⟩;obtain⟨d,hd1,hd2⟩:=List.mem_map.1 hmem;obtain⟨D',rfl,_,hA'⟩:=hm d hd1;have hlt:=(Array.getElem?_eq_some_iff.1 hA'.hp).1;simp_all
  rcases hq with⟨⟨⟨hL,hD⟩,_⟩,hq⟩|⟨⟨hL,hD⟩,hq⟩
  .obtain⟨w4,g1,g2,g3,g4,g5⟩:=fin .ready none (by simp_all) hL hD;exact⟨none,w4,g1,a,_,_,C3,hde,he _ hq,g2,g3,g4,g5⟩
  .obtain⟨w4,g1,g2,g3,g4,g5⟩:=fin .done (some .ret) (by simp_all) hL hD;exact⟨some .ret,w4,g1,wpIn_ret ⟨a,_,_,C3,hde,hx _ hq,g2,g3,g4,g5⟩⟩
/-! ### The iterator's own code,which calls yield. -/
theorem HE {F:Fence}{P:Program}{c:Code}{Q:Exit->Act->World->Prop}{a:Act}{w:World}(I:Nat->Act->World->Prop)(k₀:Nat)(h₀:I k₀ a w)(round: ∀k a w,I k a w->c.wpIn F m P (Exit.then (λa' w'=>∃ k',k'<k/\I k' a' w') Q) a w):(Code.loop c).wpIn F m P Q a w:=by
 classical
 refine wpIn_loop (λa' w'=>∃ k,I k a' w') (λa' w'=>if h: ∃k,I k a' w' then Classical.choose (fB h)else 0) ⟨k₀,h₀⟩ λa' w' hI=>?_
 obtain⟨hk,hmin⟩:=acH (fB hI);have hμ:(if h: ∃k,I k a' w' then Classical.choose (fB h)else 0)=Classical.choose (fB hI):=dif_pos hI;rw[hμ];generalize Classical.choose (fB hI)=k at hk hmin ⊢;refine wpIn_mono (round k a' w' hk) λe a2 w2 q=>?_
 cases e with
 |normal=>
  obtain⟨k',hlt,hI'⟩:=q;have hex: ∃k,I k a2 w2:=⟨k',hI'⟩;refine⟨hex,?_⟩;grind
 |_=>exact q
theorem Oper.Mm {F:Fence}{P:Program}{o:Oper}{a:Act}{w:World}{K K':Act->World->Prop}{Q Q':Exit->Act->World->Prop}(hQ: ∀e a w,Q e a w->e= .normal)(h: ∀a w,K a w->K' a w)(hh:o.wpIn F m P a w K Q):o.wpIn F m P a w K' Q':=by
 refine⟨hh.1,?_⟩;have h2:=hh.2
 revert h2
 generalize (o.semAt F.round a.eval).run P w=r;intro h2;have hno: ∀{p:Prop},LetsOut Q->p:=λ⟨a,w,hq⟩=>by grind
 cases r with
 |ok nx w'=>
  cases nx with
  |value v=>exact h _ _ h2
  |skip=>exact h _ _ h2
  |defer d=>exact h _ _ h2
  |enter f args=>
   refine⟨h2.1,?_⟩;obtain⟨g1,g2⟩:=h2.2;refine⟨g1,λcs hr=>?_⟩;obtain⟨e,w'',fr,hR,hc⟩:=g2 cs hr;refine⟨e,w'',fr,?_,hc⟩;cases e with
   |returned v=>simp_all
   |panicked c=>grind
   |outgrown=>simp_all
  |row row args=>exact⟨h2.1,h2.2.mono λ_ _ hR=>h _ _ hR⟩
  |round l f tmps asg bd=>
   refine⟨h2.1,h2.2.mono λe w'' hR=>?_⟩;cases e with
   |returned v=>simp_all
   |panicked c=>grind
   |outgrown=>simp_all
  |_=>exact h2.elim
 |halt x w'=>
  cases x with
  |panic v=>cases hQ _ _ _ h2
  |_=>exact h2.elim
theorem mE {F:Fence}{P:Program}{ops:Array Oper}{l2:List Oper}{Q:Exit->Act->World->Prop}: ∀(l1:List Oper) (a:Act) (w:World),wpListIn F m P ops (λe a w=>e= .normal/\wpListIn F m P ops Q l2 a w) l1 a w->wpListIn F m P ops Q (l1++l2) a w
 |[],_,_,h=>h.2
 |o::r,a,w,h=>by
  rw[List.cons_append];unfold wpListIn at h ⊢;split at h
  .rename_i hw;rw[if_pos hw];exact Oper.Mm (λ_ _ _ h=>h.1) (λa w=>mE r a w) h
  .rename_i hw;rw[if_neg hw];exact⟨h.1,mE r _ w h.2⟩
theorem AA (Q:Exit->Act->World->Prop):zW [] Q=Q:=by
 grind [zW,fU]
def VCY (P:Program)(W0:World)(B:Nat)(U:Bool->World->Ctx->Prop)(n:Nat)(c:Code)(Q:Exit->aa->Bool->Prop)(A:aa)(md:Bool):Prop:=
 ∀w C a m,U md w C->bG P W0 n w C A a->c.wpIn .wide m P (λe a' w'=>∃ A' C' md',U md' w' C'/\bG P W0 n w' C' A' a'/\eA P W0 B w C w' C' A'.st/\Q e A' md') a w
section
variable {U :Bool->World->Ctx->Prop}{Q:Exit->aa->Bool->Prop}{md:Bool}
theorem VCY.of {c:Code}(hU:Dc U)(h:VC P W0 n c (λe A'=>Q e A' md) A):VCY P W0 B U n c Q A md:=λw C a m hu hr=>by
 have h1:=h w C a hr none m [];rw[fU]at h1;refine wpIn_mono h1 λe a' w' ⟨a0,e0,A',C',q,r,s⟩=>?_
 rw[fU]at e0;subst e0;exact⟨A',C',md,hU md _ _ _ _ hu s,r,.of s r.st,q⟩
theorem VCY.mono {c:Code}{Q':Exit->aa->Bool->Prop}(h:VCY P W0 B U n c Q A md)(hq: ∀e A b,Q e A b->Q' e A b):VCY P W0 B U n c Q' A md:=λw C a m hu hr=>
 wpIn_mono (h w C a m hu hr) λ_ _ _ ⟨A',C',md',u,r,l,q⟩=>⟨A',C',md',u,r,l,hq _ _ _ q⟩
def Fc (K:aa->Bool->Prop)(Q:Exit->aa->Bool->Prop):Exit->aa->Bool->Prop
 | .normal,A,b=>K A b
 |e,A,b=>Q e A b
theorem VCY.seq {x y:Code}(h:VCY P W0 B U n x (Fc (VCY P W0 B U n y Q) Q) A md):VCY P W0 B U n (.seq x y) Q A md:=λw C a m hu hr=>
 wpIn_seq (wpIn_mono (h w C a m hu hr) λe a' w' ⟨A',C',md',u,r,l,q⟩=>by
  cases e with
  |normal=>exact wpIn_mono (q w' C' a' m u r) λ_ _ _ ⟨A'',C'',md'',u',r',l',q'⟩=>⟨A'',C'',md'',u',r',l.trans l',q'⟩
  |_=>exact⟨A',C',md',u,r,l,q⟩)
def vz (id:Nat)(Q:Exit->aa->Bool->Prop):Exit->aa->Bool->Prop
 | .exit id',A,b=>if id'=id then Q .normal A b else Q (.exit id') A b
 |e,A,b=>Q e A b
theorem VCY.block {id:Nat}{c:Code}(h:VCY P W0 B U n c (vz id Q) A md):VCY P W0 B U n (.block id c) Q A md:=λw C a m hu hr=>
 wpIn_block (wpIn_mono (h w C a m hu hr) λe a' w' ⟨A',C',md',u,r,l,q⟩=>by
  cases e with
  |exit id'=>
   grind [vz,Exit.inBlock]
  |_=>exact⟨A',C',md',u,r,l,q⟩)
theorem VCY.loop {c:Code}(I:Nat->aa->Bool->Prop)(k₀:Nat)(h₀:I k₀ A md)(round: ∀k A b,I k A b->VCY P W0 B U n c (Fc (λA' b'=>∃ k',k'<k/\I k' A' b') Q) A b):VCY P W0 B U n (.loop c) Q A md:=λw C a m hu hr=>
 HE (λk a' w'=>∃ A' C' b,I k A' b/\U b w' C'/\bG P W0 n w' C' A' a'/\eA P W0 B w C w' C' A'.st) k₀ ⟨A,C,md,h₀,hu,hr,.refl hr.st⟩ λk a' w' ⟨A',C',b,hI,u,r,l⟩=>
  wpIn_mono (round k A' b hI w' C' a' m u r) λe a2 w2 ⟨A2,C2,b2,u2,r2,l2,q⟩=>by
   cases e with
   |normal=>
    obtain⟨k',hlt,hI'⟩:=q;exact⟨k',hlt,A2,C2,b2,hI',u2,r2,l.trans l2⟩
   |_=>exact⟨A2,C2,b2,u2,r2,l.trans l2,q⟩
theorem VCY.yield {fz:List Nat}{id d:Nat}{t u:Nat}{ty:TypeId}{ats:Array TypeId}{pos:String}{aft:Array Edge}{l1 l2:List Oper}{i:Int}{K:aa->Prop}{Qn Qx:ab->Prop}(hU:Dc U)(hd:d<n)
  (hpre:jT P W0 n fz (l1++(⟨some d,.call { callee:=.value (.tmp t),args:=#[.tmp u],argTypes:=ats },ty,pos,aft,none⟩::l2)).toArray l1 K A)
  (hK: ∀A1,K A1->A1.env t= .yl L/\A1.env u= .int .i64 i/\(∀w C,U true w C->aE P W0 w C A1.st->vg P W0 B L (U true) (U false) i w C Qn Qx)/\
   (∀σ',Qn σ'->jT P W0 n fz (l1++(⟨some d,.call { callee:=.value (.tmp t),args:=#[.tmp u],argTypes:=ats },ty,pos,aft,none⟩::l2)).toArray l2 (λA'=>Q .normal A' true) ((A1.ay σ').upd d (.bool true)))/\
   (∀σ',Qx σ'->jT P W0 n fz (l1++(⟨some d,.call { callee:=.value (.tmp t),args:=#[.tmp u],argTypes:=ats },ty,pos,aft,none⟩::l2)).toArray l2 (λA'=>Q .normal A' false) ((A1.ay σ').upd d (.bool false)))):
  VCY P W0 B U n (.region id (l1++(⟨some d,.call { callee:=.value (.tmp t),args:=#[.tmp u],argTypes:=ats },ty,pos,aft,none⟩::l2)).toArray false) Q A true:=λw C a m hu hr=>by
 generalize hops:(l1++(⟨some d,.call { callee:=.value (.tmp t),args:=#[.tmp u],argTypes:=ats },ty,pos,aft,none⟩::l2)).toArray=ops at *;rw[<-hops];refine wpIn_region_lit ?_;rw[hops];refine mE l1 a w ?_;have post: ∀(md:Bool) A2 C2 a2 w2,U md w2 C2->bG P W0 n w2 C2 A2 a2->eA P W0 B w C w2 C2 A2.st->jT P W0 n fz ops l2 (λA'=>Q .normal A' md) A2->wpListIn .wide m P ops (λe a' w'=>∃ A' C' md',U md' w' C'/\bG P W0 n w' C' A' a'/\eA P W0 B w C w' C' A'.st/\Q e A' md') l2 a2 w2:=λmd A2 C2 a2 w2 u2 r2 lt2 h2=>by
  have h3:=jO (Qx:=λe a' w'=>∃ A' C' md',U md' w' C'/\bG P W0 n w' C' A' a'/\eA P W0 B w C w' C' A'.st/\Q e A' md') l2 _ A2 w2 C2 a2 r2 (mV _ _ _ h2) λA' C' a' w' hq hr' hs=>⟨A',C',md,hU md _ _ _ _ u2 hs,hr',lt2.trans (.of hs hr'.st),hq⟩
  have h4:=h3 none m [];rw[fU]at h4;rw[AA]at h4;exact h4
 have h3:=jO (Qx:=λe a' w'=>e= .normal/\wpListIn .wide m P ops (λe a' w'=>∃ A' C' md',U md' w' C'/\bG P W0 n w' C' A' a'/\eA P W0 B w C w' C' A'.st/\Q e A' md') (⟨some d,.call { callee:=.value (.tmp t),args:=#[.tmp u],argTypes:=ats },ty,pos,aft,none⟩::l2) a' w') l1 _ A w C a hr (mV _ _ _ hpre) λA1 C1 a1 w1 hk hr1 hs1=>by
  refine⟨rfl,?_⟩;obtain⟨k1,k2,k3,k4,k5⟩:=hK A1 hk;have u1:=hU true _ _ _ _ hu hs1;have e1:a1.eval (.tmp t)= .func (.yield L) #[] #[]:=by
   have:=hr1.val (.tmp t);rw[show A1.val (.tmp t)= .yl L from k1]at this;have h:=this.aH rfl;generalize a1.eval (.tmp t)=v at h;cases h;rfl
  have e2:a1.eval (.tmp u)= .int .i64 i:=by
   have:=hr1.val (.tmp u);rw[show A1.val (.tmp u)= .int .i64 i from k2]at this;have h:=this.aH rfl;generalize a1.eval (.tmp u)=v at h;cases h;rfl
  obtain⟨fn,tmps,asg,bd,y1,y2⟩:=k3 w1 C1 u1 hr1.st;refine wpListIn_plain rfl λKK hKK=>⟨λ_ _=>trivial,?_⟩
  have hex:((⟨some d,.call { callee:=.value (.tmp t),args:=#[.tmp u],argTypes:=ats },ty,pos,aft,none⟩:Oper).semAt none a1.eval).run P w1= .ok (.round L fn tmps asg bd) w1:=by
   rw[Oper.semAt_eq _ _ _ (λc hc=>by cases hc)];unfold execOp;simp only[resolve,e1];have e3:a1.tmps[u]?.getD undef= .int .i64 i:=by simp_all[Act.eval]
   simp[go_sem,e3,invoke,y1]
  rw[show(Fence.wide.round)=none from rfl,hex];refine⟨(λh=>by cases h),(y2 (m-1)).mono λe w' ⟨C',σ',lt,hh⟩=>?_⟩;have r2:bG P W0 n w' C' (A1.ay σ') a1:=hr1.later lt;rcases hh with⟨rfl,u2,q2⟩|⟨rfl,u2,q2⟩
  .exact hKK _ _ (post true _ C' _ w' u2 (r2.put hd (.one rfl (.bool true))) ((eA.of hs1 hr1.st).trans lt) (k4 σ' q2))
  .exact hKK _ _ (post false _ C' _ w' u2 (r2.put hd (.one rfl (.bool false))) ((eA.of hs1 hr1.st).trans lt) (k5 σ' q2))
 have h4:=h3 none m [];rw[fU,AA]at h4;exact h4
end
theorem VCY.Uw {U:Bool->World->Ctx->Prop}{Q:Exit->aa->Bool->Prop}{fz:List Nat}{id d t u:Nat}{ty:TypeId}{ats:Array TypeId}{pos:String}{aft:Array Edge}{l:List Oper}{i:Int}{K:aa->Prop}{Qn Qx:ab->Prop}(j:Nat)(hU:Dc U)(ho:l[j]?=some (⟨some d,.call { callee:=.value (.tmp t),args:=#[.tmp u],argTypes:=ats },ty,pos,aft,none⟩:Oper))(hd:d<n)
  (hpre:jT P W0 n fz l.toArray (l.take j) K A)
  (hK: ∀A1,K A1->A1.env t= .yl L/\A1.env u= .int .i64 i/\(∀w C,U true w C->aE P W0 w C A1.st->vg P W0 B L (U true) (U false) i w C Qn Qx)/\
   (∀σ',Qn σ'->jT P W0 n fz l.toArray (l.drop (j+1)) (λA'=>Q .normal A' true) ((A1.ay σ').upd d (.bool true)))/\
   (∀σ',Qx σ'->jT P W0 n fz l.toArray (l.drop (j+1)) (λA'=>Q .normal A' false) ((A1.ay σ').upd d (.bool false)))):
  VCY P W0 B U n (.region id l.toArray false) Q A true:=by
 have hl:=List.getElem?_eq_some_iff.1 ho;have e:l=l.take j++(⟨some d,.call { callee:=.value (.tmp t),args:=#[.tmp u],argTypes:=ats },ty,pos,aft,none⟩::l.drop (j+1)):=by
  grind [List.drop_eq_getElem_cons,List.take_append_drop]
 generalize l.take j=l1 at *;generalize l.drop (j+1)=l2 at *;subst e;exact VCY.yield hU hd hpre hK
theorem Bd {K:aa->Bool->Prop}{Q:Exit->aa->Bool->Prop}{b:Bool}:Fc K Q .normal A b=K A b:=rfl
theorem OU {K:aa->Bool->Prop}{Q:Exit->aa->Bool->Prop}{b:Bool}:Fc K Q .ret A b=Q .ret A b:=rfl
theorem Iu {K:aa->Bool->Prop}{Q:Exit->aa->Bool->Prop}{b:Bool}(id:Nat):Fc K Q (.exit id) A b=Q (.exit id) A b:=rfl
theorem yT {Q:Exit->aa->Bool->Prop}{b:Bool}(id:Nat):vz id Q .normal A b=Q .normal A b:=rfl
theorem Ik {Q:Exit->aa->Bool->Prop}{b:Bool}(id:Nat):vz id Q .ret A b=Q .ret A b:=rfl
theorem F2 {Q:Exit->aa->Bool->Prop}{b:Bool}(id id':Nat):vz id Q (.exit id') A b=if id'=id then Q .normal A b else Q (.exit id') A b:=rfl
attribute [go_sem ↓] Bd OU Iu yT Ik F2
/-! ### Walking code with a range over a function in it. -/
def CF (P:Program)(W0:World)(n:Nat)(fz:List Nat)(g:Operand)(ps:Array Tmp)(assign:Code)(_:Tag assign)(body:Code)(_:Tag body)(Q:Exit->aa->Prop)(_:Tag Q)(A:aa):Prop:=VCM P W0 n (.rangeFunc g ps assign body) Q A
def iZ (P:Program)(W0:World)(n:Nat)(fz:List Nat):Code->(Exit->aa->Prop)->aa->Prop
 | .seq x y,Q,A=>iZ P W0 n fz x (cr (iZ P W0 n fz y Q) Q) A
 | .block id c,Q,A=>iZ P W0 n fz c (eD id Q) A
 | .rangeFunc g ps asg body,Q,A=>CF P W0 n fz g ps asg .mk body .mk Q .mk A
 |c,Q,A=>cVC P W0 n fz c Q A
variable {fz :List Nat}{Q:Exit->aa->Prop}
theorem nk : ∀(c:Code) (Q:Exit->aa->Prop) (A:aa),iZ P W0 n fz c Q A->VCM P W0 n c Q A
 | .seq x y,Q,A,h=>.seq ((nk x _ A h).mono λe A' q=>by
   cases e with
   |normal=>exact nk y Q A' q
   |_=>exact q)
 | .block id c,Q,A,h=>.block (nk c _ A h)
 | .rangeFunc g ps asg body,Q,A,h=>h
 | .skip,Q,A,h=>.of (bB _ Q A h)
 | .ret,Q,A,h=>.of (bB _ Q A h)
 | .exit id,Q,A,h=>.of (bB _ Q A h)
 | .cond c x y,Q,A,h=>.of (bB _ Q A h)
 | .region id ops d,Q,A,h=>.of (bB _ Q A h)
 | .loop c,Q,A,h=>.of (bB _ Q A h)
 | .goto l,Q,A,h=>.of (bB _ Q A h)
 | .scope c,Q,A,h=>.of (bB _ Q A h)
@[go_sem ↓] theorem Xh (u v y:Code):iZ P W0 n fz (.seq (.seq u v) y) Q A=iZ P W0 n fz (.seq u (.seq v y)) Q A:=by simp[iZ,uc]
@[go_sem ↓] theorem Rm (id:Nat)(ops:Array Oper)(d:Bool)(y:Code):iZ P W0 n fz (.seq (.region id ops d) y) Q A=cVC P W0 n fz (.region id ops d) (cr (iZ P W0 n fz y Q) Q) A:=by simp[iZ]
@[go_sem ↓] theorem T2 (id:Nat)(c y:Code):iZ P W0 n fz (.seq (.block id c) y) Q A=iZ P W0 n fz (.block id c) (cr (iZ P W0 n fz y Q) Q) A:=by simp[iZ]
@[go_sem ↓] theorem Ws (c:Operand)(x y z:Code):iZ P W0 n fz (.seq (.cond c x y) z) Q A=cVC P W0 n fz (.cond c x y) (cr (iZ P W0 n fz z Q) Q) A:=by simp[iZ]
@[go_sem ↓] theorem YG (id:Nat)(c:Code):iZ P W0 n fz (.block id c) Q A=iZ P W0 n fz c (eD id Q) A:=by simp[iZ]
@[go_sem ↓] theorem Y6 (g:Operand)(ps:Array Tmp)(asg body:Code):iZ P W0 n fz (.rangeFunc g ps asg body) Q A=CF P W0 n fz g ps asg .mk body .mk Q .mk A:=by simp[iZ]
@[go_sem ↓] theorem Zu (c:Code):iZ P W0 n fz (.loop c) Q A=cVC P W0 n fz (.loop c) Q A:=by simp[iZ]
@[go_sem ↓] theorem aaq :iZ P W0 n fz .ret Q A=Q .ret A:=by simp[iZ,cVC]
theorem tg {f : FuncId} {fn : Func} {c : Code} {args : List AV} {R : AV → ab → Prop} {m : Nat} (ts : List ResultVar) (fz : List Nat) (hf : P.funcs[f]? = some fn) (hb : fn.body = some c) (hnm : (fn.name == "runtime.NumGoroutine") = false)
  (hm:fn.ntmps=m) (hargs:Nat.ble args.length m=true) (hres:fn.results=ts.toArray)
  (h:(∀a∈args,Small a)->iZ P W0 m fz c (cX P (NL ts σ R)) ⟨iP args,σ⟩):aS P W0 f args σ R:=
 PT ts hf hb hnm hm hargs hres λhs=>nk _ _ _ (h hs)
end
end Go.Av
end
