/- Texts that the last one of this claim rests on: a layer over the guide's own conditions for code; contracts of the functions that the law reaches, one by one. No conditions beside those of the given rows. -/
import Derived.Laws.MakeOwn
import Derived.Lib.AppendZeros
import Derived.Lib.ConvBytes
import Derived.Laws.BytesString
import Derived.Laws.Cells
import Derived.Lib.AppendStr
import Derived.Orders
import Derived.Test.YtbooehmmhbioaaaGreatDoorWaa
set_option linter.unusedSimpArgs false
set_option linter.unusedVariables false
section
namespace Go.Av
open Go
section
variable {P :Program}{W0 w w':World}{C C':Ctx}{σ σ':ab}{n:Nat}{A:aa}{a:Act}{o:Oper}
theorem eW {t u e e':TypeId}{i:TypeInfo}(ht:P.underlying t=some (.slice e))(hu:P.underlying u=some (.slice e'))(hi:P.info? e=some i)(ty:TypeId)(b:Option Addr)(l c:Nat)(y:Value)(w:World):
  (Builtin.append_ #[t,u] ty #[.slice b l c,y]).run P w=(Builtin.append_ #[t,t] ty #[.slice b l c,y]).run P w:=by
 have hsv:(sizeOf e).run P w= .ok i.size w:=by simp[sizeOf,typeInfo,hi]
 have h1: ∀v:TypeId,(#[t,v]:Array TypeId)[1]?=some v:=λ_=>rfl
 have h0: ∀v:TypeId,(#[t,v]:Array TypeId)[0]?=some t:=λ_=>rfl
 have h2:(#[.slice b l c,y]:Array Value)[0]?=some (.slice b l c):=rfl
 have h3:(#[.slice b l c,y]:Array Value)[1]?=some y:=rfl
 simp only[Builtin.append_,h0,h1,h2,h3,Sem.run_bind,run_underlying ht,run_underlying hu,Result.andThen_ok,hsv,Sem.run_pure]
theorem mB (h:aB P W0 w C σ){e:TypeId}{zs:List AV}{cap:Nat}{arr:Array Value}{cf:Nat→List Value}(hl:zs.length≤cap)(hc:cap≤maxLen)(hs:arr.size=cap*ae P e)
  (hz: ∀i x,zs[i]?=some x→Rel P w C x (cf i)∧(cf i).length=ae P e∧fits P e x∧ ∀(j:Nat) (u:Value),(cf i)[j]?=some u→arr[i*ae P e+j]?=some u):
  ∃C',Step w C (w.alloc (.cells arr e)) C'∧aB P W0 (w.alloc (.cells arr e)) C' (σ++[some .tok])∧aC P (w.alloc (.cells arr e)) C' (.own e zs σ.length) (.slice (some ⟨w.heap.size,0,none⟩) zs.length cap):=by
 have hhw:zs.length*ae P e≤arr.size:=by rw[hs];exact Nat.mul_le_mul_right _ hl
 obtain⟨h1,h2⟩:=h.push (ob:=.cells arr e) (ow:=.tok w.heap.size e (zs.length*ae P e) cap) (so:=.tok) rfl ⟨arr,heap_alloc_new w _,hs,hhw⟩
 refine⟨_,h1,h2,.one rfl (.own cf hl hc (λi x hx=>(hz i x hx).1.mono h1) (λi x hx=>⟨(hz i x hx).2.1,(hz i x hx).2.2.1⟩) (λ_=>⟨w.heap.size,0,rfl,λi hi j u hj=>⟨?_,⟨by simp,λid ow hm he=>?_⟩⟩⟩) (by simp[Ctx.push,h.nx]) (λow how=>?_))⟩
 ·have:=(hz i _ (List.getElem?_eq_getElem hi)).2.2.2 j u hj
  rw[World.cell?_alloc_new,Nat.zero_add]
  exact this
 ·simp only[Ctx.push]at hm
  split at hm
  ·cases hm
   refine⟨_,_,_,rfl,?_⟩
   have hjl:j<ae P e:=by rw[←(hz i _ (List.getElem?_eq_getElem hi)).2.1];exact(List.getElem?_eq_some_iff.1 hj).1
   have:(i+1)*ae P e≤zs.length*ae P e:=Nat.mul_le_mul_right _ hi
   rw[Nat.succ_mul]at this
   omega
  ·exact absurd he (by have:=h.lt hm;omega)
 ·simp only[Ctx.push,h.nx,if_true,Option.some.injEq]at how
  exact how.symm
theorem aB.tok (h:aB P W0 w C σ){id:Nat}(hs:σ[id]?=some (some .tok)): ∃b e hw cap arr,C.m id=some (.tok b e hw cap)∧w.heap[b]?=some (.cells arr e (0,0))∧arr.size=cap*ae P e∧hw≤arr.size:=by
 have ho:=h.obj id
 rw[hs]at ho
 simp only[Option.join_some]at ho
 cases hm:C.m id with
 |none=>rw[hm]at ho;exact ho.elim
 |some ow=>
  rw[hm]at ho
  cases ow with
  |tok b e hw cap=>
   obtain⟨arr,h1,h2,h3⟩:=ho
   exact⟨b,e,hw,cap,arr,rfl,h1,h2,h3⟩
  |obj=>exact ho.elim
  |iter=>exact ho.elim
  |mp=>exact ho.elim
theorem xF (h:aB P W0 w C σ){tok b hw cap:Nat}{e:TypeId}{arr:Array Value}{news:List Value}(hs:σ[tok]?=some (some .tok))(hm:C.m tok=some (.tok b e hw cap))(hb:w.heap[b]?=some (.cells arr e (0,0)))
  (hsz:arr.size=cap*ae P e) (hfit:hw+news.length≤arr.size):
  ∃C',Step w C (w.setRow b (bm arr hw news)) C'∧aB P W0 (w.setRow b (bm arr hw news)) C' (σ.set tok none++[some .tok])∧C'.nx=σ.length+1∧C'.m σ.length=some (.tok b e (hw+news.length) cap)∧
   ∀id ow,C'.m id=some ow→ow.blk=b→ow= .tok b e (hw+news.length) cap:=by
 have htl:tok<σ.length:=(List.getElem?_eq_some_iff.1 hs).1
 have hsize:(bm arr hw news).size=arr.size:=c8 hfit
 have hnew:(w.setRow b (bm arr hw news)).heap[b]?=some (.cells (bm arr hw news) e (0,0)):=setRow_heap w b arr _ e _ hb
 have hC: ∀i ow,((C.kill tok).push (.tok b e (hw+news.length) cap)).m i=some ow→(i=C.nx∧ow= .tok b e (hw+news.length) cap)∨(i≠C.nx∧i≠tok∧C.m i=some ow):=λi ow hi=>by
  rw[pS,mF,nL]at hi
  split at hi
  ·rename_i he;cases hi;exact .inl ⟨he,rfl⟩
  ·rename_i he
   split at hi
   ·cases hi
   ·rename_i ht;exact .inr ⟨he,ht,hi⟩
 have hne: ∀i ow,i≠tok→C.m i=some ow→ow.blk≠b:=λi ow hi hm' he=>hi (h.inj i tok ow _ hm' hm (by simpa[Own.blk]using he))
 have hstep:Step w C (w.setRow b (bm arr hw news)) ((C.kill tok).push (.tok b e (hw+news.length) cap)):=by
  refine⟨by simp[Ctx.push,Ctx.kill],λid ow hid hi=>?_,λb' i hst=>?_,rfl,rfl,rfl,by simp,λb' hlt hn=>?_⟩
  ·rcases hC id ow hi with⟨he,_⟩|⟨_,_,h'⟩
   ·omega
   ·exact h'
  ·by_cases hbb:b'=b
   ·subst hbb
    obtain⟨e',hw',cap',e1,e2⟩:=hst.2 tok _ hm rfl
    cases e1
    refine⟨?_,by simpa using hst.1,λid ow hi he=>?_⟩
    ·simp only[World.cell?,hnew,hb,Option.isSome_none,Bool.false_eq_true,if_false]
     rw[bp hfit,if_neg (by omega)]
    ·rcases hC id ow hi with⟨_,rfl⟩|⟨_,ht,h'⟩
     ·exact⟨_,_,_,rfl,by omega⟩
     ·exact absurd he (hne id ow ht h')
   ·refine⟨cell_setRow_other w b _ ⟨b',i,none⟩ hbb,by simpa using hst.1,λid ow hi he=>?_⟩
    rcases hC id ow hi with⟨_,rfl⟩|⟨_,_,h'⟩
    ·exact absurd he (λe=>hbb e.symm)
    ·exact hst.2 id ow h' he
  ·refine⟨setRow_other w b b' _ (λe=>hn tok _ hm (by simp[Own.blk,e])),λid ow hi=>?_⟩
   rcases hC id ow hi with⟨_,rfl⟩|⟨_,_,h'⟩
   ·intro he;exact hn tok _ hm he
   ·exact hn id ow h'
 refine⟨_,hstep,h.change hstep (λi ow hi=>?_) (by simp[Ctx.push,Ctx.kill,h.nx]) (λi j x y hi hj he=>?_) (λi ow hi=>?_) (λi=>?_),by simp[Ctx.push,Ctx.kill,h.nx],by simp[Ctx.push,Ctx.kill,h.nx],λid ow hi he=>?_⟩
 ·rcases hC i ow hi with⟨_,rfl⟩|⟨_,_,h'⟩
  ·exact h.low tok (.tok b e hw cap) hm
  ·exact h.low i ow h'
 ·rcases hC i x hi with⟨e1,rfl⟩|⟨e1,t1,h1⟩
  ·rcases hC j y hj with⟨e2,rfl⟩|⟨e2,t2,h2⟩
   ·omega
   ·exact absurd he.symm (hne j y t2 h2)
  ·rcases hC j y hj with⟨e2,rfl⟩|⟨e2,t2,h2⟩
   ·exact absurd he (hne i x t1 h1)
   ·exact h.inj i j x y h1 h2 he
 ·simp only[Ctx.push,Ctx.kill]
  rcases hC i ow hi with⟨e1,_⟩|⟨_,_,h1⟩
  ·omega
  ·have:=h.dom i ow h1;omega
 ·rw[p7,List.length_set,jh _ _ _ _ htl]
  by_cases hi:i=σ.length
  ·left
   rw[if_pos hi]
   have:((C.kill tok).push (.tok b e (hw+news.length) cap)).m i=some (.tok b e (hw+news.length) cap):=by simp[Ctx.push,Ctx.kill,hi,h.nx]
   rw[this]
   exact⟨_,hnew,by rw[hsize,hsz],by rw[hsize];exact hfit⟩
  ·rw[if_neg hi]
   by_cases ht:i=tok
   ·left
    rw[if_pos ht]
    have:((C.kill tok).push (.tok b e (hw+news.length) cap)).m i=none:=by
     rw[pS,mF,nL,if_neg (by rw[h.nx];exact hi),if_pos ht]
    rw[this]
    trivial
   ·right
    rw[if_neg ht]
    refine⟨rfl,?_,λow how=>setRow_other w b _ _ (hne i ow ht how)⟩
    rw[pS,mF,nL,if_neg (by rw[h.nx];exact hi),if_neg ht]
 ·rcases hC id ow hi with⟨_,rfl⟩|⟨_,t1,h1⟩
  ·rfl
  ·exact absurd he (hne id ow t1 h1)
theorem fA {t e:TypeId}{i:TypeInfo}(ht:P.underlying t=some (.slice e))(hi:P.info? e=some i)(ty:TypeId)(b ad:Option Addr)(l c c':Nat)(hl:l≤c)(w:World):
  (Builtin.append_ #[t,t] ty #[.slice b l c,.slice ad 0 c']).run P w= .ok (.slice b l c) w:=by
 cases b<;>cases ad<;>simp[Builtin.append_,run_underlying ht,sizeOf,typeInfo,hi,Builtin.lenOf,hl,Builtin.firstCells,loadCells,loadCellsFrom,storeCells]
theorem Rel.rh {e:TypeId}{xs:List AV}{tok:Nat}{v:Value}(h:Rel P w C (.own e xs tok) [v]): ∃b cap cf,v= .slice (some ⟨b,0,none⟩) xs.length cap∧xs.length≤cap∧cap≤maxLen∧(∀(i:Nat) (x:AV),xs[i]?=some x→Rel P w C x (cf i))∧
   (∀i x,xs[i]?=some x→(cf i).length=ae P e∧fits P e x)∧eR w C (ae P e) (some ⟨b,0,none⟩) xs.length cf∧ ∀ow,C.m tok=some ow→ow= .tok b e (xs.length*ae P e) cap:=by
 cases h with
 |own cf h1 h2 h3 h4 h5 h6 h7=>exact⟨_,_,cf,rfl,h1,h2,h3,h4,h5,h7⟩
theorem j7 {e:TypeId}{i:TypeInfo}(h:P.info? e=some i):bytesOf P e=i.bytes:=by simp[bytesOf,h]
theorem Dm (hr:eD P W0 o w C A a){x y:Operand}{t u e:TypeId}{v z:AV}{xs ys:List AV}(ho:o.op= .call { callee:=.builtin .append,args:=#[x,y],argTypes:=#[t,u] })
  (hx:Is P W0 o A x v) (hy:Is P W0 o A y z) (ht:elT P t=some e) (hu:elT P u=some e) (he:0<ae P e) (hz0:bk P e=true) (hb:Bld A.st v e xs) (hys:dN A.st z e ys)
  (hbytes:(xs.length+ys.length)*bytesOf P e≤140737488355328) (hmax:xs.length+ys.length≤maxLen):
  ∃r w' C' v' σ',(execOp a.eval o).run P w= .ok (.value r) w'∧App A.st v e (xs++ys) v' σ'∧Step w C w' C'∧aB P W0 w' C' σ'∧aC P w' C' v' r:=by
 obtain⟨inf,hinf,hsz⟩:=bu he
 have htu:=bE ht
 have hrun: ∀b l c yv r w',(Builtin.append_ #[t,t] o.type #[.slice b l c,yv]).run P w= .ok r w'→a.eval x= .slice b l c→a.eval y=yv→(execOp a.eval o).run P w= .ok (.value r) w':=λb l c yv r w' h h1 h2=>by
  rw[←eW htu (bE hu) hinf]at h
  simp[execOp,ho,resolve,invoke,builtin,h1,h2,h]
 have hxv:=hx w C a hr
 have hyv:=hy w C a hr
 obtain⟨ady,capy,cfy,hye,y3,y4,y5⟩:=hys.cells hr.st hyv
 obtain⟨bx,cx,hxe,hlx⟩: ∃b c,a.eval x= .slice b xs.length c∧xs.length≤c:=by
  rcases hb with⟨rfl,rfl⟩|rfl|⟨tok,rfl,_⟩
  ·exact⟨none,0,hxv.db,Nat.le_refl _⟩
  ·have:=hxv.aD rfl
   generalize a.eval x=v at this
   cases this with
   |lit=>exact⟨_,_,rfl,Nat.le_refl _⟩
  ·obtain⟨b,cap,cf,h1,h2,_⟩:=(hxv.aD rfl).rh
   exact⟨_,_,h1,h2⟩
 cases hyl:ys with
 |nil=>
  subst hyl
  refine⟨_,w,C,v,A.st,hrun _ _ _ _ _ _ (fA htu hinf _ _ _ _ _ _ hlx w) hxe hye,⟨by simpa using hb,Nat.le_refl _,λ_ _ _=>rfl,.inl rfl⟩,.refl _ _,hr.st,by rw[←hxe];exact hxv⟩
 |cons y0 yr=>
  rw[←hyl]
  have hpos:0<ys.length:=by simp[hyl]
  obtain⟨by_,oy,rfl,news,n1,n2,n3,n4⟩:=y5 hpos
  have n2': ∀j u,news[j]?=some u→w.cell? ((⟨by_,oy,none⟩:Addr).add j)=some u:=λj u hj=>by rw[Addr.add_lit];exact n2 j u hj
  obtain⟨inf',z0,hinf',hiz,hzs⟩:=eF hz0
  obtain rfl:inf'=inf:=by rw[hinf]at hinf';exact(Option.some.inj hinf').symm
  have hmax':xs.length+ys.length≤9223372036854775807:=by unfold maxLen at hmax;omega
  rw[j7 hinf]at hbytes
  rcases hb with⟨rfl,rfl⟩|rfl|⟨tok,rfl,htok⟩
  ·-- a nil slice
   simp only[List.length_nil,Nat.zero_add]at hbytes hmax hmax'
   have hxe':=hxv.db
   have hap:=run_append_nil (P:=P) w t o.type e inf' z0 htu hinf hiz ⟨by_,oy,none⟩ ys.length capy news (by rw[n1,hsz]) n2' hpos (by omega) (by omega)
   have hge:=grownCap_ge w ys.length 0 e
   have hcap:=grownCap_le_maxLen w ys.length 0 e hmax
   obtain⟨C',g1,g2,g3⟩:=mB (P:=P) (W0:=W0) hr.st.drew (e:=e) (zs:=ys) (cap:=grownCap w ys.length 0 e) (arr:=news.toArray++Builtin.zeroCells z0.cells (grownCap w ys.length 0 e-ys.length)) (cf:=cfy) hge hcap
    (by simp only[Array.size_append,List.size_toArray,size_zeroCells,n1,hzs,←Nat.add_mul];congr 1;omega)
    (λi x hx=>⟨(y3 i x hx).mono (Step.drew w C),(y4 i x hx).1,(y4 i x hx).2,λj u hj=>by
     have:=n4 i x hx j u hj
     rw[Array.getElem?_append_left (by simpa using (List.getElem?_eq_some_iff.1 this).1)]
     simpa using this⟩)
   refine⟨_,_,C',_,_,hrun _ _ _ _ _ _ hap hxe' hye,⟨.inr (.inr ⟨_,rfl,by simp⟩),by simp,λid hid _=>by rw[List.getElem?_append_left hid],.inr ⟨_,rfl,Nat.le_refl _⟩⟩,(Step.drew w C).trans g1,g2,g3⟩
  ·-- a list as long as its row
   obtain⟨adx,capx,cfx,hxq,x1,x2,x3,x4,x5⟩:=(hxv.aD rfl).lx (.inr (.inl rfl))
   have hcx:capx=xs.length:=by
    have:=hxv.aD rfl
    rw[hxq]at this
    cases this
    rfl
   subst hcx
   have hlen:(xs++ys).length=xs.length+ys.length:=by simp
   have hgetl: ∀i x,(xs++ys)[i]?=some x→(i<xs.length∧xs[i]?=some x)∨(xs.length≤i∧ys[i-xs.length]?=some x):=λi x hx=>by
    by_cases hi:i<xs.length
    ·rw[List.getElem?_append_left hi]at hx;exact .inl ⟨hi,hx⟩
    ·rw[List.getElem?_append_right (by omega)]at hx;exact .inr ⟨by omega,hx⟩
   have hge:=grownCap_ge w (xs.length+ys.length) xs.length e
   have hcap:=grownCap_le_maxLen w (xs.length+ys.length) xs.length e hmax
   have fin: ∀(olds:List Value),olds.length=xs.length*ae P e→(∀i x,xs[i]?=some x→ ∀(j:Nat) (u:Value),(cfx i)[j]?=some u→olds[i*ae P e+j]?=some u)→
     (Builtin.append_ #[t,t] o.type #[.slice adx xs.length xs.length,a.eval y]).run P w= .ok (.slice (some ⟨w.heap.size,0,none⟩) (xs.length+ys.length) (grownCap w (xs.length+ys.length) xs.length e)) (w.drew.alloc (.cells (olds.toArray++news.toArray++Builtin.zeroCells z0.cells (grownCap w (xs.length+ys.length) xs.length e-(xs.length+ys.length))) e))→
     ∃r w' C' v' σ',(execOp a.eval o).run P w= .ok (.value r) w'∧App A.st (.lit e xs) e (xs++ys) v' σ'∧Step w C w' C'∧aB P W0 w' C' σ'∧aC P w' C' v' r:=λolds p1 p4 hap=>by
    obtain⟨C',g1,g2,g3⟩:=mB (P:=P) (W0:=W0) hr.st.drew (e:=e) (zs:=xs++ys) (cap:=grownCap w (xs.length+ys.length) xs.length e)
     (arr:=olds.toArray++news.toArray++Builtin.zeroCells z0.cells (grownCap w (xs.length+ys.length) xs.length e-(xs.length+ys.length))) (cf:=λi=>if i<xs.length then cfx i else cfy (i-xs.length)) (by rw[hlen];exact hge) hcap
     (by simp only[Array.size_append,List.size_toArray,size_zeroCells,p1,n1,hzs,←Nat.add_mul];congr 1;omega)
     (λi x hx=>by
      rcases hgetl i x hx with⟨hi,hx'⟩|⟨hi,hx'⟩
      ·simp only[hi,if_true]
       refine⟨(x3 i x hx').mono (Step.drew w C),(x4 i x hx').1,(x4 i x hx').2,λj u hj=>?_⟩
       have:=p4 i x hx' j u hj
       have hl:=(List.getElem?_eq_some_iff.1 this).1
       rw[Array.getElem?_append_left (by simp;omega),Array.getElem?_append_left (by simpa using hl)]
       simpa using this
      ·simp only[show ¬i<xs.length by omega,if_false]
       refine⟨(y3 _ x hx').mono (Step.drew w C),(y4 _ x hx').1,(y4 _ x hx').2,λj u hj=>?_⟩
       have:=n4 _ x hx' j u hj
       have hl:=(List.getElem?_eq_some_iff.1 this).1
       have hmul:i*ae P e=xs.length*ae P e+(i-xs.length)*ae P e:=by rw[←Nat.add_mul];congr 1;omega
       rw[Array.getElem?_append_left (by simp;omega),Array.getElem?_append_right (by simp;omega)]
       simp only[List.size_toArray,p1,List.getElem?_toArray]
       rw[show i*ae P e+j-xs.length*ae P e=(i-xs.length)*ae P e+j by omega]
       exact this)
    rw[hlen]at g3
    exact⟨_,_,C',_,_,hrun _ _ _ _ _ _ hap hxq rfl,⟨.inr (.inr ⟨_,rfl,by simp⟩),by simp,λid hid _=>by rw[List.getElem?_append_left hid],.inr ⟨_,rfl,Nat.le_refl _⟩⟩,(Step.drew w C).trans g1,g2,g3⟩
   rw[hye]at fin
   cases adx with
   |none=>
    have hx0:xs=[]:=by
     cases xs with
     |nil=>rfl
     |cons c r=>obtain⟨b,off,e1,_⟩:=x5 (by simp);cases e1
    subst hx0
    simp only[List.length_nil,Nat.zero_add]at hbytes hmax hmax' fin
    have hap:=run_append_nil (P:=P) w t o.type e inf' z0 htu hinf hiz ⟨by_,oy,none⟩ ys.length capy news (by rw[n1,hsz]) n2' hpos (by omega) (by omega)
    exact fin [] (by simp) (by simp) (by simpa using hap)
   |some b0=>
    have hcells: ∃olds:List Value,olds.length=xs.length*ae P e∧(∀(j:Nat) (u:Value),olds[j]?=some u→w.cell? (b0.add j)=some u)∧ ∀i x,xs[i]?=some x→ ∀(j:Nat) (u:Value),(cfx i)[j]?=some u→olds[i*ae P e+j]?=some u:=by
     by_cases hxl:xs=[]
     ·subst hxl;exact⟨[],by simp,by simp,by simp⟩
     ·have hxp:0<xs.length:=by cases xs with|nil=>exact absurd rfl hxl|cons=>simp
      obtain⟨bx',ox',e1,x6⟩:=x5 hxp
      cases e1
      obtain⟨olds,p1,p2,p3,p4⟩:=gx x3 x4 x6
      exact⟨olds,p1,λj u hj=>by rw[Addr.add_lit];exact p2 j u hj,p4⟩
    obtain⟨olds,p1,p2,p4⟩:=hcells
    exact fin olds p1 p4 (run_append_grow (P:=P) w t o.type e inf' z0 htu hinf hiz b0 xs.length xs.length olds (by rw[p1,hsz]) p2 ⟨by_,oy,none⟩ ys.length capy news (by rw[n1,hsz]) n2' (by omega) (by omega) (growslice_fits (by omega) hbytes))
  ·-- a row of the call's own
   obtain⟨b,cap,cf,hxq,c1,c2,c3,c4,c5,c6⟩:=(hxv.aD rfl).rh
   obtain⟨b',e',hw,cap',arr,t1,t2,t3,t4⟩:=hr.st.tok htok
   have t5:=c6 _ t1
   cases t5
   have htl:tok<A.st.length:=(List.getElem?_eq_some_iff.1 htok).1
   have hlen:(xs++ys).length=xs.length+ys.length:=by simp
   have hgetl: ∀i x,(xs++ys)[i]?=some x→(i<xs.length∧xs[i]?=some x)∨(xs.length≤i∧ys[i-xs.length]?=some x):=λi x hx=>by
    by_cases hi:i<xs.length
    ·rw[List.getElem?_append_left hi]at hx;exact .inl ⟨hi,hx⟩
    ·rw[List.getElem?_append_right (by omega)]at hx;exact .inr ⟨by omega,hx⟩
   have hxcells: ∀(i:Nat) (x:AV),xs[i]?=some x→ ∀(j:Nat) (u:Value),(cf i)[j]?=some u→arr[i*ae P e+j]?=some u∧i*ae P e+j<xs.length*ae P e:=λi x hx j u hj=>by
    have hi:=(List.getElem?_eq_some_iff.1 hx).1
    obtain⟨b2,o2,e2,hc⟩:=c5 (by omega)
    cases e2
    have h1:=(hc i hi j u hj).1
    simp only[World.cell?,t2,Nat.zero_add,Option.isSome_none,Bool.false_eq_true,if_false]at h1
    have hjl:j<ae P e:=by rw[←(c4 i x hx).1];exact(List.getElem?_eq_some_iff.1 hj).1
    have:(i+1)*ae P e≤xs.length*ae P e:=Nat.mul_le_mul_right _ hi
    rw[Nat.succ_mul]at this
    exact⟨h1,by omega⟩
   by_cases hroom:xs.length+ys.length≤cap
   ·-- in place
    have hfit:xs.length*ae P e+news.length≤arr.size:=by rw[n1,t3,←Nat.add_mul];exact Nat.mul_le_mul_right _ hroom
    have hap:=run_append_room (P:=P) w t o.type e inf' htu hinf b xs.length cap arr t2 ⟨by_,oy,none⟩ ys.length capy news (by rw[n1,hsz]) n2' n3 hroom (by rw[hsz];exact hfit)
    rw[hsz]at hap
    replace hap:_=Result.ok _ (w.setRow b (bm arr (xs.length*ae P e) news)):=hap
    obtain⟨C',g1,g2,g3,g4,g5⟩:=xF hr.st htok t1 t2 t3 hfit
    have hnewcell: ∀i,(w.setRow b (bm arr (xs.length*ae P e) news)).cell? ⟨b,i,none⟩=(bm arr (xs.length*ae P e) news)[i]?:=λi=>cell_setRow_same w b i arr _ e _ t2
    refine⟨_,_,C',.own e (xs++ys) A.st.length,_,hrun _ _ _ _ _ _ hap hxq hye,⟨.inr (.inr ⟨_,rfl,by simp⟩),by simp,λid hid hne=>?_,.inr ⟨_,rfl,Nat.le_refl _⟩⟩,g1,g2,?_⟩
    ·rw[List.getElem?_append_left (by simpa using hid),List.getElem?_set_ne (λe=>hne (by simp[eA,e]))]
    ·rw[←hlen]
     refine .one rfl (.own (λi=>if i<xs.length then cf i else cfy (i-xs.length)) (by rw[hlen];exact hroom) c2 (λi x hx=>?_) (λi x hx=>?_) (λ_=>⟨b,0,rfl,λi hi j u hj=>?_⟩) (by rw[g3];omega) (λow how=>?_))
     ·rcases hgetl i x hx with⟨hi,hx'⟩|⟨hi,hx'⟩
      ·rw[if_pos hi];exact(c3 i x hx').mono g1
      ·rw[if_neg (by omega)];exact(y3 _ x hx').mono g1
     ·rcases hgetl i x hx with⟨hi,hx'⟩|⟨hi,hx'⟩
      ·simp only[hi,if_true];exact c4 i x hx'
      ·simp only[show ¬i<xs.length by omega,if_false];exact y4 _ x hx'
     ·have hst: ∀k,k<xs.length*ae P e+news.length→er (w.setRow b (bm arr (xs.length*ae P e) news)) C' b k:=λk hk=>
       ⟨by simpa using (Array.getElem?_eq_some_iff.1 t2).1,λid ow hm hbk=>⟨_,_,_,g5 id ow hm hbk,hk⟩⟩
      rw[hnewcell,Nat.zero_add,bp hfit]
      by_cases hix:i<xs.length
      ·simp only[hix,if_true]at hj
       obtain⟨q1,q2⟩:=hxcells i _ (List.getElem?_eq_getElem hix) j u hj
       rw[if_neg (by omega)]
       exact⟨q1,hst _ (by omega)⟩
      ·simp only[hix,if_false]at hj
       rw[hlen]at hi
       have hyi:=List.getElem?_eq_getElem (show i-xs.length<ys.length by omega)
       have hnw:=n4 _ _ hyi j u hj
       have hnl:=(List.getElem?_eq_some_iff.1 hnw).1
       have hmul:i*ae P e=xs.length*ae P e+(i-xs.length)*ae P e:=by rw[←Nat.add_mul];congr 1;omega
       rw[if_pos (by omega),show i*ae P e+j-xs.length*ae P e=(i-xs.length)*ae P e+j by omega]
       exact⟨hnw,hst _ (by omega)⟩
     ·rw[g4]at how
      cases how
      rw[n1,hlen,Nat.add_mul]
   ·-- a new row
    obtain⟨olds,p1,p2,p3,p4⟩:=gx (P:=P) (e:=e) (b:=b) (off:=0) c3 c4 (λi hi=>by
     obtain⟨b2,o2,e2,hc⟩:=c5 (by omega)
     cases e2
     exact hc i hi)
    have hap:=run_append_grow (P:=P) w t o.type e inf' z0 htu hinf hiz ⟨b,0,none⟩ xs.length cap olds (by rw[p1,hsz]) (λj u hj=>by rw[Addr.add_lit];exact p2 j u hj) ⟨by_,oy,none⟩ ys.length capy news (by rw[n1,hsz]) n2' (by omega) (by omega) (growslice_fits (by omega) hbytes)
    have hge:=grownCap_ge w (xs.length+ys.length) cap e
    have hcap:=grownCap_le_maxLen w (xs.length+ys.length) cap e hmax
    obtain⟨k1,k2⟩:=hr.st.kill tok htl
    obtain⟨C',g1,g2,g3⟩:=mB (P:=P) (W0:=W0) k2.drew (e:=e) (zs:=xs++ys) (cap:=grownCap w (xs.length+ys.length) cap e)
     (arr:=olds.toArray++news.toArray++Builtin.zeroCells z0.cells (grownCap w (xs.length+ys.length) cap e-(xs.length+ys.length))) (cf:=λi=>if i<xs.length then cf i else cfy (i-xs.length)) (by rw[hlen];exact hge) hcap
     (by simp only[Array.size_append,List.size_toArray,size_zeroCells,p1,n1,hzs,←Nat.add_mul];congr 1;omega)
     (λi x hx=>by
      have hs:=k1.trans (Step.drew w _)
      rcases hgetl i x hx with⟨hi,hx'⟩|⟨hi,hx'⟩
      ·simp only[hi,if_true]
       refine⟨(c3 i x hx').mono hs,(c4 i x hx').1,(c4 i x hx').2,λj u hj=>?_⟩
       have:=p4 i x hx' j u hj
       have hl:=(List.getElem?_eq_some_iff.1 this).1
       rw[Array.getElem?_append_left (by simp;omega),Array.getElem?_append_left (by simpa using hl)]
       simpa using this
      ·simp only[show ¬i<xs.length by omega,if_false]
       refine⟨(y3 _ x hx').mono hs,(y4 _ x hx').1,(y4 _ x hx').2,λj u hj=>?_⟩
       have:=n4 _ x hx' j u hj
       have hl:=(List.getElem?_eq_some_iff.1 this).1
       have hmul:i*ae P e=xs.length*ae P e+(i-xs.length)*ae P e:=by rw[←Nat.add_mul];congr 1;omega
       rw[Array.getElem?_append_left (by simp;omega),Array.getElem?_append_right (by simp;omega)]
       simp only[List.size_toArray,p1,List.getElem?_toArray]
       rw[show i*ae P e+j-xs.length*ae P e=(i-xs.length)*ae P e+j by omega]
       exact this)
    rw[hlen]at g3
    rw[List.length_set]at g3
    refine⟨_,_,C',_,_,hrun _ _ _ _ _ _ hap hxq hye,⟨.inr (.inr ⟨A.st.length,rfl,by simp⟩),by simp,λid hid hne=>?_,.inr ⟨_,rfl,Nat.le_refl _⟩⟩,(k1.trans (Step.drew w _)).trans g1,g2,g3⟩
    rw[List.getElem?_append_left (by simpa using hid),List.getElem?_set_ne (λe=>hne (by simp[eA,e]))]
end
end Go.Av
end
section
namespace Go.Av
open Go
section
variable {P :Program}{W0 w w':World}{C C':Ctx}{σ σ':ab}{n:Nat}{A:aa}{a:Act}{o:Oper}
theorem fb (w:World)(t ty e:TypeId)(i:TypeInfo)(ht:P.underlying t=some (.slice e))(hi:P.info? e=some i)
  (g off sLen sCap:Nat) (te:TypeId) (fr:Nat×Nat) (cur:Array Value) (hg:w.heap[g]?=some (.cells cur te fr)) (hfr:rb fr cur.size)
  (a:Addr) (m c:Nat) (news:List Value) (hl:news.length=m*i.size) (hnews: ∀j u,news[j]?=some u→w.cell? (a.add j)=some u) (h1: ∀u∈news,u.oneCell'=true)
  (hroom:sLen+m≤sCap) (hfit:off+sLen*i.size+news.length≤cur.size):
  (Builtin.append_ #[t,t] ty #[.slice (some ⟨g,off,none⟩) sLen sCap,.slice (some a) m c]).run P w=
   .ok (.slice (some ⟨g,off,none⟩) (sLen+m) sCap) (w.setRow g (bm cur (off+sLen*i.size) news)):=by
 have hf:=run_firstCells_some (P:=P) w i.size m a m c news hl hnews
 have hst:=dU P g (off+sLen*i.size) te fr news 0 cur w hg hfr (by simpa using hfit) h1
 simp only[Nat.add_zero]at hst
 simp[Builtin.append_,run_underlying ht,sizeOf,typeInfo,hi,Builtin.lenOf,hroom,hf,Addr.add_lit,hst,bm]
theorem rN (h:aB P W0 w C σ){e:TypeId}{zs:List AV}{cap:Nat}{arr:Array Value}{cf:Nat→List Value}(hl:zs.length≤cap)(hc:cap≤maxLen)(hs:arr.size=cap*ae P e)
  (hz: ∀i x,zs[i]?=some x→Rel P w C x (cf i)∧(cf i).length=ae P e∧fits P e x∧ ∀(j:Nat) (u:Value),(cf i)[j]?=some u→arr[i*ae P e+j]?=some u):
  ∃C',Step w C (w.alloc (.cells arr e)) C'∧aB P W0 (w.alloc (.cells arr e)) C' (σ++[some (.cells e zs)])∧aC P (w.alloc (.cells arr e)) C' (.row e σ.length 0 zs.length) (.slice (some ⟨w.heap.size,0,none⟩) zs.length cap)∧C'.m σ.length=some (.obj w.heap.size e 0 arr.size):=by
 have hhw:zs.length*ae P e≤arr.size:=by rw[hs];exact Nat.mul_le_mul_right _ hl
 obtain⟨h1,h2⟩:=h.push (ob:=.cells arr e) (ow:=.obj w.heap.size e 0 arr.size) (so:=.cells e zs) rfl
  ⟨rfl,arr,e,(0,0),heap_alloc_new w _,.inl rfl,rfl,by simpa using hhw,cf,λi x hx=>by
   obtain⟨g1,g2,g3,g4⟩:=hz i x hx
   exact⟨g1.mono (mj _ rfl),g2,g3,λj c hj=>by rw[Nat.zero_add];exact g4 j c hj⟩⟩
 refine⟨_,h1,h2,.one rfl (.row hl hc (by simp[Ctx.push,h.nx]) (λow how=>?_)),by simp[Ctx.push,h.nx]⟩
 simp only[Ctx.push,h.nx,if_true,Option.some.injEq]at how
 subst how
 exact⟨_,0,_,rfl,λ_=>by simp,by simp[hs]⟩
theorem jw (h:aB P W0 w C σ){e:TypeId}{zs:List AV}{cap:Nat}{arr:Array Value}{cf:Nat→List Value}(hl:zs.length≤cap)(hc:cap≤maxLen)(hs:arr.size=cap*ae P e)
  (hz: ∀i x,zs[i]?=some x→Rel P w C x (cf i)∧(cf i).length=ae P e∧fits P e x∧ ∀(j:Nat) (u:Value),(cf i)[j]?=some u→arr[i*ae P e+j]?=some u):
  ∃C',Step w C (w.alloc (.cells arr e)) C'∧aB P W0 (w.alloc (.cells arr e)) C' (σ++[some (.cells e zs)])∧aC P (w.alloc (.cells arr e)) C' (.row e σ.length 0 zs.length) (.slice (some ⟨w.heap.size,0,none⟩) zs.length cap):=by
 obtain⟨C',h1,h2,h3,_⟩:=rN (P:=P) h hl hc hs hz
 exact⟨C',h1,h2,h3⟩
theorem F5 (h:aB P W0 w C σ){id b base base' room:Nat}{fr:Nat×Nat}{e t':TypeId}{xs zs:List AV}{arr arr':Array Value}{cf:Nat→List Value}(hs:σ[id]?=some (some (.cells e xs)))(hm:C.m id=some (.obj b e base room))(hb:w.heap[b]?=some (.cells arr t' fr))(hf:rb fr arr.size)
  (hsz:arr.size=room) (hsize:arr'.size=arr.size) (hfit:base'+zs.length*ae P e≤room)
  (hz: ∀i x,zs[i]?=some x→Rel P w C x (cf i)∧(cf i).length=ae P e∧fits P e x∧ ∀(j:Nat) (u:Value),(cf i)[j]?=some u→arr'[base'+i*ae P e+j]?=some u):
  ∃C',Step w C (w.setRow b arr') C'∧aB P W0 (w.setRow b arr') C' (σ.set id none++[some (.cells e zs)])∧C'.nx=σ.length+1∧C'.m σ.length=some (.obj b e base' room):=by
 have htl:id<σ.length:=(List.getElem?_eq_some_iff.1 hs).1
 have hnew:(w.setRow b arr').heap[b]?=some (.cells arr' t' fr):=setRow_heap w b arr _ t' _ hb
 have hC: ∀i ow,((C.kill id).push (.obj b e base' room)).m i=some ow→(i=C.nx∧ow= .obj b e base' room)∨(i≠C.nx∧i≠id∧C.m i=some ow):=λi ow hi=>by
  rw[pS,mF,nL]at hi
  split at hi
  ·rename_i he;cases hi;exact .inl ⟨he,rfl⟩
  ·rename_i he
   split at hi
   ·cases hi
   ·rename_i ht;exact .inr ⟨he,ht,hi⟩
 have hne: ∀i ow,i≠id→C.m i=some ow→ow.blk≠b:=λi ow hi hm' he=>hi (h.inj i id ow _ hm' hm (by simpa[Own.blk]using he))
 have hstep:Step w C (w.setRow b arr') ((C.kill id).push (.obj b e base' room)):=by
  refine⟨by simp[Ctx.push,Ctx.kill],λi ow hid hi=>?_,λb' i hst=>?_,rfl,rfl,rfl,by simp,λb' hlt hn=>?_⟩
  ·rcases hC i ow hi with⟨e1,_⟩|⟨_,_,h'⟩
   ·omega
   ·exact h'
  ·have hbb:b'≠b:=λe1=>by
    obtain⟨_,_,_,e2,_⟩:=hst.2 id _ hm (by simp[Own.blk,e1])
    cases e2
   refine⟨cell_setRow_other w b _ ⟨b',i,none⟩ hbb,by simpa using hst.1,λi' ow hi he=>?_⟩
   rcases hC i' ow hi with⟨_,rfl⟩|⟨_,_,h'⟩
   ·exact absurd he (λe1=>hbb e1.symm)
   ·exact hst.2 i' ow h' he
  ·refine⟨setRow_other w b b' _ (λe1=>hn id _ hm (by simp[Own.blk,e1])),λi ow hi=>?_⟩
   rcases hC i ow hi with⟨_,rfl⟩|⟨_,_,h'⟩
   ·intro he;exact hn id _ hm he
   ·exact hn i ow h'
 refine⟨_,hstep,h.change hstep (λi ow hi=>?_) (by simp[Ctx.push,Ctx.kill,h.nx]) (λi j x y hi hj he=>?_) (λi ow hi=>?_) (λi=>?_),by simp[Ctx.push,Ctx.kill,h.nx],by simp[Ctx.push,Ctx.kill,h.nx]⟩
 ·rcases hC i ow hi with⟨_,rfl⟩|⟨_,_,h'⟩
  ·exact h.low id (.obj b e base room) hm
  ·exact h.low i ow h'
 ·rcases hC i x hi with⟨e1,rfl⟩|⟨e1,t1,h1⟩
  ·rcases hC j y hj with⟨e2,rfl⟩|⟨e2,t2,h2⟩
   ·omega
   ·exact absurd he.symm (hne j y t2 h2)
  ·rcases hC j y hj with⟨e2,rfl⟩|⟨e2,t2,h2⟩
   ·exact absurd he (hne i x t1 h1)
   ·exact h.inj i j x y h1 h2 he
 ·simp only[Ctx.push,Ctx.kill]
  rcases hC i ow hi with⟨e1,_⟩|⟨_,_,h1⟩
  ·omega
  ·have:=h.dom i ow h1;omega
 ·rw[p7,List.length_set,jh _ _ _ _ htl]
  by_cases hi:i=σ.length
  ·left
   rw[if_pos hi]
   have:((C.kill id).push (.obj b e base' room)).m i=some (.obj b e base' room):=by simp[Ctx.push,Ctx.kill,hi,h.nx]
   rw[this]
   refine⟨rfl,_,t',fr,hnew,by rw[hsize];exact hf,by rw[hsize,hsz],hfit,cf,λq x hx=>?_⟩
   obtain⟨g1,g2,g3,g4⟩:=hz q x hx
   exact⟨g1.mono hstep,g2,g3,g4⟩
  ·rw[if_neg hi]
   by_cases ht:i=id
   ·left
    rw[if_pos ht]
    have:((C.kill id).push (.obj b e base' room)).m i=none:=by
     rw[pS,mF,nL,if_neg (by rw[h.nx];exact hi),if_pos ht]
    rw[this]
    trivial
   ·right
    rw[if_neg ht]
    refine⟨rfl,?_,λow how=>setRow_other w b _ _ (hne i ow ht how)⟩
    rw[pS,mF,nL,if_neg (by rw[h.nx];exact hi),if_neg ht]
theorem wR (hr:eD P W0 o w C A a){x y:Operand}{t u e:TypeId}{v z:AV}{xs ys:List AV}(ho:o.op= .call { callee:=.builtin .append,args:=#[x,y],argTypes:=#[t,u] })
  (hx:Is P W0 o A x v) (hy:Is P W0 o A y z) (ht:elT P t=some e) (hu:elT P u=some e) (he:0<ae P e) (hz0:bk P e=true) (hb:dh A.st v e xs) (hys:dN A.st z e ys)
  (hbytes:(xs.length+ys.length)*bytesOf P e≤140737488355328) (hmax:xs.length+ys.length≤maxLen):
  ∃r w' C' v' σ',(execOp a.eval o).run P w= .ok (.value r) w'∧((ys=[]∧v'=v∧σ'=A.st)∨(ys≠[]∧v'= .row e A.st.length 0 (xs.length+ys.length)∧σ'=bS v A.st++[some (.cells e (xs++ys))]))∧Step w C w' C'∧aB P W0 w' C' σ'∧aC P w' C' v' r:=by
 obtain⟨inf,hinf,hsz⟩:=bu he
 have htu:=bE ht
 have hrun: ∀b l c yv r w',(Builtin.append_ #[t,t] o.type #[.slice b l c,yv]).run P w= .ok r w'→a.eval x= .slice b l c→a.eval y=yv→(execOp a.eval o).run P w= .ok (.value r) w':=λb l c yv r w' h h1 h2=>by
  rw[←eW htu (bE hu) hinf]at h
  simp[execOp,ho,resolve,invoke,builtin,h1,h2,h]
 have hxv:=hx w C a hr
 have hyv:=hy w C a hr
 obtain⟨ady,capy,cfy,hye,y3,y4,y5⟩:=hys.cells hr.st hyv
 obtain⟨bx,cx,hxe,hlx⟩: ∃b c,a.eval x= .slice b xs.length c∧xs.length≤c:=by
  rcases hb with⟨rfl,rfl⟩|rfl|⟨id,off,m,zs,rfl,hs,hm,rfl⟩
  ·exact⟨none,0,hxv.db,Nat.le_refl _⟩
  ·have:=hxv.aD rfl
   cases hev:a.eval x<;>(rw[hev]at this;cases this)
   exact⟨_,_,rfl,Nat.le_refl _⟩
  ·obtain⟨ad,cap,cf,hve,g1,_⟩:=qf hr.st hxv hs hm
   have hlen:((zs.drop off).take m).length=m:=by simp;omega
   rw[hlen]
   exact⟨_,_,hve,g1⟩
 by_cases hyl:ys=[]
 ·subst hyl
  exact⟨_,w,C,v,A.st,hrun _ _ _ _ _ _ (fA htu hinf _ _ _ _ _ _ hlx w) hxe hye,.inl ⟨rfl,rfl,rfl⟩,.refl _ _,hr.st,by rw[←hxe];exact hxv⟩
 have hpos:0<ys.length:=by cases ys with|nil=>exact absurd rfl hyl|cons=>simp
 obtain⟨by_,oy,rfl,news,n1,n2,n3,n4⟩:=y5 hpos
 have n2': ∀j u,news[j]?=some u→w.cell? ((⟨by_,oy,none⟩:Addr).add j)=some u:=λj u hj=>by rw[Addr.add_lit];exact n2 j u hj
 obtain⟨inf',z0,hinf',hiz,hzs⟩:=eF hz0
 obtain rfl:inf'=inf:=by rw[hinf]at hinf';exact(Option.some.inj hinf').symm
 have hmax':xs.length+ys.length≤9223372036854775807:=by unfold maxLen at hmax;omega
 rw[j7 hinf]at hbytes
 have hlen:(xs++ys).length=xs.length+ys.length:=by simp
 have hgetl: ∀i x,(xs++ys)[i]?=some x→(i<xs.length∧xs[i]?=some x)∨(xs.length≤i∧ys[i-xs.length]?=some x):=λi x hx=>by
  by_cases hi:i<xs.length
  ·rw[List.getElem?_append_left hi]at hx;exact .inl ⟨hi,hx⟩
  ·rw[List.getElem?_append_right (by omega)]at hx;exact .inr ⟨by omega,hx⟩
 have fresh: ∀(C1:Ctx) (σ1:ab) (b:Addr) (cap:Nat) (olds:List Value) (cf:Nat→List Value),Step w C w C1→aB P W0 w C1 σ1→σ1.length=A.st.length→a.eval x= .slice (some b) xs.length cap→cap<xs.length+ys.length→
   olds.length=xs.length*ae P e→(∀j u,olds[j]?=some u→w.cell? (b.add j)=some u)→(∀(i:Nat) (x:AV),xs[i]?=some x→Rel P w C x (cf i))→(∀i x,xs[i]?=some x→(cf i).length=ae P e∧fits P e x)→
   (∀i x,xs[i]?=some x→ ∀(j:Nat) (u:Value),(cf i)[j]?=some u→olds[i*ae P e+j]?=some u)→
   ∃r w' C',(execOp a.eval o).run P w= .ok (.value r) w'∧Step w C w' C'∧aB P W0 w' C' (σ1++[some (.cells e (xs++ys))])∧aC P w' C' (.row e A.st.length 0 (xs.length+ys.length)) r:=λC1 σ1 b cap olds cf k1 k2 hl1 hxq hroom p1 p2 c3 c4 p4=>by
  have hap:=run_append_grow (P:=P) w t o.type e inf' z0 htu hinf hiz b xs.length cap olds (by rw[p1,hsz]) p2 ⟨by_,oy,none⟩ ys.length capy news (by rw[n1,hsz]) n2' hroom (by omega) (growslice_fits hroom hbytes)
  have hge:=grownCap_ge w (xs.length+ys.length) cap e
  have hcap:=grownCap_le_maxLen w (xs.length+ys.length) cap e hmax
  obtain⟨C',g1,g2,g3⟩:=jw (P:=P) (W0:=W0) k2.drew (e:=e) (zs:=xs++ys) (cap:=grownCap w (xs.length+ys.length) cap e)
   (arr:=olds.toArray++news.toArray++Builtin.zeroCells z0.cells (grownCap w (xs.length+ys.length) cap e-(xs.length+ys.length))) (cf:=λi=>if i<xs.length then cf i else cfy (i-xs.length)) (by rw[hlen];exact hge) hcap
   (by simp only[Array.size_append,List.size_toArray,size_zeroCells,p1,n1,hzs,←Nat.add_mul];congr 1;omega)
   (λi x hx=>by
    have hs:=k1.trans (Step.drew w _)
    rcases hgetl i x hx with⟨hi,hx'⟩|⟨hi,hx'⟩
    ·simp only[hi,if_true]
     refine⟨(c3 i x hx').mono hs,(c4 i x hx').1,(c4 i x hx').2,λj u hj=>?_⟩
     have:=p4 i x hx' j u hj
     have hl:=(List.getElem?_eq_some_iff.1 this).1
     rw[Array.getElem?_append_left (by simp;omega),Array.getElem?_append_left (by simpa using hl)]
     simpa using this
    ·simp only[show ¬i<xs.length by omega,if_false]
     refine⟨(y3 _ x hx').mono hs,(y4 _ x hx').1,(y4 _ x hx').2,λj u hj=>?_⟩
     have:=n4 _ x hx' j u hj
     have hl:=(List.getElem?_eq_some_iff.1 this).1
     have hmul:i*ae P e=xs.length*ae P e+(i-xs.length)*ae P e:=by rw[←Nat.add_mul];congr 1;omega
     rw[Array.getElem?_append_left (by simp;omega),Array.getElem?_append_right (by simp;omega)]
     simp only[List.size_toArray,p1,List.getElem?_toArray]
     rw[show i*ae P e+j-xs.length*ae P e=(i-xs.length)*ae P e+j by omega]
     exact this)
  rw[hlen,hl1]at g3
  exact⟨_,_,C',hrun _ _ _ _ _ _ hap hxq hye,(k1.trans (Step.drew w _)).trans g1,g2,g3⟩
 rcases hb with⟨rfl,rfl⟩|rfl|⟨id,off,m,zs,rfl,hs,hm,rfl⟩
 ·simp only[List.length_nil,Nat.zero_add]at hbytes hmax hmax'
  have hxe':=hxv.db
  have hap:=run_append_nil (P:=P) w t o.type e inf' z0 htu hinf hiz ⟨by_,oy,none⟩ ys.length capy news (by rw[n1,hsz]) n2' hpos (by omega) (by omega)
  have hge:=grownCap_ge w ys.length 0 e
  have hcap:=grownCap_le_maxLen w ys.length 0 e hmax
  obtain⟨C',g1,g2,g3⟩:=jw (P:=P) (W0:=W0) hr.st.drew (e:=e) (zs:=ys) (cap:=grownCap w ys.length 0 e) (arr:=news.toArray++Builtin.zeroCells z0.cells (grownCap w ys.length 0 e-ys.length)) (cf:=cfy) hge hcap
   (by simp only[Array.size_append,List.size_toArray,size_zeroCells,n1,hzs,←Nat.add_mul];congr 1;omega)
   (λi x hx=>⟨(y3 i x hx).mono (Step.drew w C),(y4 i x hx).1,(y4 i x hx).2,λj u hj=>by
    have:=n4 i x hx j u hj
    rw[Array.getElem?_append_left (by simpa using (List.getElem?_eq_some_iff.1 this).1)]
    simpa using this⟩)
  exact⟨_,_,C',_,_,hrun _ _ _ _ _ _ hap hxe' hye,.inr ⟨hyl,rfl,rfl⟩,(Step.drew w C).trans g1,by simpa[bS]using g2,by simpa using g3⟩
 ·obtain⟨ad,capx,cfx,hxq,x1,x2,x3,x4,x5⟩:=(hxv.aD rfl).lx (.inr (.inl rfl))
  have hcx:capx=xs.length:=by
   have:=hxv.aD rfl
   rw[hxq]at this
   cases this
   rfl
  subst hcx
  by_cases hxl:xs=[]
  ·subst hxl
   simp only[List.length_nil,Nat.zero_add]at hbytes hmax hmax'
   cases ad with
   |none=>
    have hap:=run_append_nil (P:=P) w t o.type e inf' z0 htu hinf hiz ⟨by_,oy,none⟩ ys.length capy news (by rw[n1,hsz]) n2' hpos (by omega) (by omega)
    have hge:=grownCap_ge w ys.length 0 e
    have hcap:=grownCap_le_maxLen w ys.length 0 e hmax
    obtain⟨C',g1,g2,g3⟩:=jw (P:=P) (W0:=W0) hr.st.drew (e:=e) (zs:=ys) (cap:=grownCap w ys.length 0 e) (arr:=news.toArray++Builtin.zeroCells z0.cells (grownCap w ys.length 0 e-ys.length)) (cf:=cfy) hge hcap
     (by simp only[Array.size_append,List.size_toArray,size_zeroCells,n1,hzs,←Nat.add_mul];congr 1;omega)
     (λi x hx=>⟨(y3 i x hx).mono (Step.drew w C),(y4 i x hx).1,(y4 i x hx).2,λj u hj=>by
      have:=n4 i x hx j u hj
      rw[Array.getElem?_append_left (by simpa using (List.getElem?_eq_some_iff.1 this).1)]
      simpa using this⟩)
    exact⟨_,_,C',_,_,hrun _ _ _ _ _ _ hap hxq hye,.inr ⟨hyl,rfl,rfl⟩,(Step.drew w C).trans g1,by simpa[bS]using g2,by simpa using g3⟩
   |some b=>
    obtain⟨r,w',C',g0,g1,g2,g3⟩:=fresh C A.st b 0 [] cfx (.refl _ _) hr.st rfl hxq (by simpa using hpos) (by simp) (by simp) x3 x4 (by simp)
    exact⟨r,w',C',_,_,g0,.inr ⟨hyl,rfl,rfl⟩,g1,g2,g3⟩
  ·have hxp:0<xs.length:=by cases xs with|nil=>exact absurd rfl hxl|cons=>simp
   obtain⟨bx',ox',rfl,x6⟩:=x5 hxp
   obtain⟨olds,p1,p2,p3,p4⟩:=gx x3 x4 x6
   obtain⟨r,w',C',g0,g1,g2,g3⟩:=fresh C A.st ⟨bx',ox',none⟩ xs.length olds cfx (.refl _ _) hr.st rfl hxq (by omega) p1 (λj u hj=>by rw[Addr.add_lit];exact p2 j u hj) x3 x4 p4
   exact⟨r,w',C',_,_,g0,.inr ⟨hyl,rfl,rfl⟩,g1,g2,g3⟩
 ·obtain⟨ad,cap,cf,hxq,g1,g2,_,c3,c4,b,base,room,arr,t',fr,m1,m2,mf,m3,g5,g6,g7⟩:=qf hr.st hxv hs hm
  have hlm:((zs.drop off).take m).length=m:=by simp;omega
  have hidl:id<A.st.length:=(List.getElem?_eq_some_iff.1 hs).1
  generalize hxs:(zs.drop off).take m=xs at *
  by_cases hroom:xs.length+ys.length≤cap
  ·-- in place
   obtain rfl:=g5 (by omega)
   have hfit:base+off*ae P e+xs.length*ae P e+news.length≤arr.size:=by
    rw[n1,m3,Nat.add_assoc,Nat.add_assoc,←Nat.add_mul,←Nat.add_mul]
    exact Nat.le_trans (Nat.add_le_add_left (Nat.mul_le_mul_right _ (by omega)) _) (Nat.le_of_eq g6)
   have hap:=fb (P:=P) w t o.type e inf' htu hinf b (base+off*ae P e) xs.length cap t' fr arr m2 mf ⟨by_,oy,none⟩ ys.length capy news (by rw[n1,hsz]) n2' n3 hroom (by rw[hsz];exact hfit)
   rw[hsz]at hap
   have hsize:(bm arr (base+off*ae P e+xs.length*ae P e) news).size=arr.size:=c8 hfit
   obtain⟨C',k1,k2,k3,k4⟩:=F5 hr.st (base':=base+off*ae P e) (zs:=xs++ys) (cf:=λi=>if i<xs.length then cf i else cfy (i-xs.length)) hs m1 m2 mf m3 hsize (by
     rw[hlen,Nat.add_assoc,←Nat.add_mul]
     exact Nat.le_trans (Nat.add_le_add_left (Nat.mul_le_mul_right _ (by omega)) _) (Nat.le_of_eq g6)) (λi x hx=>by
    rcases hgetl i x hx with⟨hi,hx'⟩|⟨hi,hx'⟩
    ·simp only[hi,if_true]
     refine⟨c3 i x hx',(c4 i x hx').1,(c4 i x hx').2,λj u hj=>?_⟩
     have hjl:j<ae P e:=by rw[←(c4 i x hx').1];exact(List.getElem?_eq_some_iff.1 hj).1
     have h5:(i+1)*ae P e≤xs.length*ae P e:=Nat.mul_le_mul_right _ hi
     rw[Nat.succ_mul]at h5
     rw[Nat.add_assoc (base+off*ae P e),bp hfit,if_neg (by omega)]
     have:=g7 i x hx' j u hj
     rwa [show base+off*ae P e+i*ae P e+j=base+off*ae P e+(i*ae P e+j) by omega]at this
    ·simp only[show ¬i<xs.length by omega,if_false]
     refine⟨y3 _ x hx',(y4 _ x hx').1,(y4 _ x hx').2,λj u hj=>?_⟩
     have:=n4 _ x hx' j u hj
     have hl:=(List.getElem?_eq_some_iff.1 this).1
     have hmul:i*ae P e=xs.length*ae P e+(i-xs.length)*ae P e:=by rw[←Nat.add_mul];congr 1;omega
     rw[Nat.add_assoc (base+off*ae P e),bp hfit,if_pos (by omega),show base+off*ae P e+(i*ae P e+j)-(base+off*ae P e+xs.length*ae P e)=(i-xs.length)*ae P e+j by omega]
     exact this)
   refine⟨_,_,C',_,_,hrun _ _ _ _ _ _ hap (by rw[hxq,hlm]) hye,.inr ⟨hyl,rfl,rfl⟩,k1,k2,.one rfl (.row hroom g2 (by omega) (λow how=>?_))⟩
   rw[k4]at how
   cases how
   refine⟨b,base+off*ae P e,room,rfl,λ_=>by simp,?_⟩
   rw[Nat.zero_add,Nat.add_assoc,←Nat.add_mul]
   exact g6
  ·obtain⟨k1,k2⟩:=hr.st.kill id hidl
   cases ad with
   |none=>
    have hc0:cap=0:=by
     rcases Nat.eq_zero_or_pos cap with h|h
     ·exact h
     ·have:=g5 h;cases this
    subst hc0
    have hm0:m=0:=by omega
    have hxs0:xs=[]:=by rw[←List.length_eq_zero_iff];omega
    subst hxs0
    simp only[List.length_nil,Nat.zero_add]at hbytes hmax hmax' hlm
    have hap:=run_append_nil (P:=P) w t o.type e inf' z0 htu hinf hiz ⟨by_,oy,none⟩ ys.length capy news (by rw[n1,hsz]) n2' hpos (by omega) (by omega)
    have hge:=grownCap_ge w ys.length 0 e
    have hcap:=grownCap_le_maxLen w ys.length 0 e hmax
    obtain⟨C',q1,q2,q3⟩:=jw (P:=P) (W0:=W0) k2.drew (e:=e) (zs:=ys) (cap:=grownCap w ys.length 0 e) (arr:=news.toArray++Builtin.zeroCells z0.cells (grownCap w ys.length 0 e-ys.length)) (cf:=cfy) hge hcap
     (by simp only[Array.size_append,List.size_toArray,size_zeroCells,n1,hzs,←Nat.add_mul];congr 1;omega)
     (λi x hx=>⟨(y3 i x hx).mono (k1.trans (Step.drew w _)),(y4 i x hx).1,(y4 i x hx).2,λj u hj=>by
      have:=n4 i x hx j u hj
      rw[Array.getElem?_append_left (by simpa using (List.getElem?_eq_some_iff.1 this).1)]
      simpa using this⟩)
    rw[List.length_set]at q3
    refine⟨_,_,C',_,_,hrun _ _ _ _ _ _ hap (by rw[hxq,hm0]) hye,.inr ⟨hyl,rfl,rfl⟩,(k1.trans (Step.drew w _)).trans q1,by simpa[bS]using q2,by simpa using q3⟩
   |some b'=>
    have hcells: ∃olds:List Value,olds.length=xs.length*ae P e∧(∀(j:Nat) (u:Value),olds[j]?=some u→w.cell? (b'.add j)=some u)∧ ∀i x,xs[i]?=some x→ ∀(j:Nat) (u:Value),(cf i)[j]?=some u→olds[i*ae P e+j]?=some u:=by
     by_cases hxl:xs=[]
     ·subst hxl;exact⟨[],by simp,by simp,by simp⟩
     ·have hcp:0<cap:=by
       have:0<xs.length:=by cases xs with|nil=>exact absurd rfl hxl|cons=>simp
       omega
      have hb':=g5 hcp
      cases hb'
      have hrd:dN A.st (.row e id off m) e xs:=.inr (.inr ⟨id,off,m,zs,rfl,hs,hm,hxs.symm⟩)
      refine⟨(arr.toList.drop (base+off*ae P e)).take (xs.length*ae P e),?_,λj u hj=>?_,λi x hx j u hj=>?_⟩
      ·have h6:base+(off+xs.length)*ae P e≤arr.size:=by rw[m3];exact Nat.le_trans (Nat.add_le_add_left (Nat.mul_le_mul_right _ (by omega)) _) (Nat.le_of_eq g6)
       rw[Nat.add_mul]at h6
       simp only[List.length_take,List.length_drop,Array.length_toList]
       omega
      ·rw[List.getElem?_take]at hj
       split at hj
       ·rw[List.getElem?_drop,Array.getElem?_toList]at hj
        rw[Addr.add_lit]
        simp[World.cell?,m2,hj]
       ·cases hj
      ·have hi:=(List.getElem?_eq_some_iff.1 hx).1
       have hjl:j<ae P e:=by rw[←(c4 i x hx).1];exact(List.getElem?_eq_some_iff.1 hj).1
       have h5:(i+1)*ae P e≤xs.length*ae P e:=Nat.mul_le_mul_right _ hi
       rw[Nat.succ_mul]at h5
       rw[List.getElem?_take,if_pos (by omega),List.getElem?_drop,Array.getElem?_toList]
       have:=g7 i x hx j u hj
       rwa [show base+off*ae P e+i*ae P e+j=base+off*ae P e+(i*ae P e+j) by omega]at this
    obtain⟨olds,p1,p2,p4⟩:=hcells
    obtain⟨r,w',C',q0,q1,q2,q3⟩:=fresh (C.kill id) (A.st.set id none) b' cap olds cf k1 k2 (by simp) (by rw[hxq,hlm]) (by omega) p1 p2 c3 c4 p4
    exact⟨r,w',C',_,_,q0,.inr ⟨hyl,rfl,rfl⟩,q1,q2,q3⟩
end
end Go.Av
end
section
namespace Go.Av
open Go
section
variable {P :Program}{W0 w w':World}{C C':Ctx}{σ σ':ab}{n:Nat}{A:aa}{a:Act}{o:Oper}
theorem sP {z:Array Value}{sz m i j:Nat}{u:Value}(hz:z.size=sz)(hi:i<m)(hj:z[j]?=some u):(madeCells z (m*sz))[i*sz+j]?=some u:=by
 have hjl:j<sz:=by rw[←hz];exact(Array.getElem?_eq_some_iff.1 hj).1
 have:(i+1)*sz≤m*sz:=Nat.mul_le_mul_right _ hi
 rw[Nat.succ_mul]at this
 have hlt:i*sz+j<m*sz:=by omega
 have hmod:(i*sz+j) % z.size=j:=by rw[hz,Nat.mul_comm,Nat.mul_add_mod];exact Nat.mod_eq_of_lt hjl
 simp only[madeCells,Array.getElem?_map,Array.getElem?_range,hlt,if_true,Option.map_some]
 rw[hmod]
 obtain⟨h1,h2⟩:=Array.getElem?_eq_some_iff.1 hj
 rw[getElem!_pos z j h1,h2]
theorem vI (hr:eD P W0 o w C A a){x y:Operand}{t e:TypeId}{k k':IntKind}{m:Int}{v:AV}(ho:o.op= .makeSlice t x y)(hx:Is P W0 o A x (.int k m))(hy:Is P W0 o A y (.int k' m))(ht:elT P t=some e)(hz:zeroOf P e=some v)(he:0<ae P e)
  (h0:0≤m) (hb:m.toNat*bytesOf P e≤281474976710656) (hm:m.toNat≤maxLen):
  ∃r w' C',(execOp a.eval o).run P w= .ok (.value r) w'∧Step w C w' C'∧aB P W0 w' C' (A.st++[some (.cells e (List.replicate m.toNat v))])∧aC P w' C' (.row e A.st.length 0 m.toNat) r:=by
 obtain⟨inf,z,hi,hiz,hc,hf⟩:=iO (w:=w) (C:=C) hz
 obtain⟨inf',hinf,hsz⟩:=bu he
 obtain rfl:inf'=inf:=by rw[hi]at hinf;exact(Option.some.inj hinf).symm
 have hcl:z.cells.size=ae P e:=by have:=hc.bB hf;simpa using this
 rw[j7 hi]at hb
 have hm':m≤9223372036854775807:=by unfold maxLen at hm;omega
 have hxe:=(hx w C a hr).cb
 have hye:=(hy w C a hr).cb
 have hrun:=run_make (P:=P) w t e inf' z (bE ht) hi hiz k k' m m h0 (Int.le_refl _) (by
  have h2:((inf'.bytes:Nat):Int)*m=((m.toNat*inf'.bytes:Nat):Int):=by rw[Int.natCast_mul,Int.toNat_of_nonneg h0,Int.mul_comm]
  rw[h2];exact Int.ofNat_le.2 hb) hm'
 obtain⟨C',g1,g2,g3⟩:=jw (P:=P) (W0:=W0) hr.st (e:=e) (zs:=List.replicate m.toNat v) (cap:=m.toNat) (arr:=madeCells z.cells (m.toNat*inf'.size)) (cf:=λ_=>z.cells.toList) (by simp) hm (by rw[size_madeCells,hsz])
  (λi x hx=>by
   simp only[List.getElem?_replicate]at hx
   split at hx
   ·cases hx
    rename_i hlt
    refine⟨hc,by simpa using hcl,hf,λj u hj=>?_⟩
    rw[hsz]
    exact sP hcl hlt (by simpa using hj)
   ·cases hx)
 simp only[List.length_replicate]at g3
 refine⟨_,_,C',?_,g1,g2,g3⟩
 simp[execOp,ho,hxe,hye,hrun]
theorem tG (hr:eD P W0 o w C A a){x y:Operand}{t u e:TypeId}{k kn:IntKind}{m:Nat}{v:AV}(ho:o.op= .call { callee:=.builtin .append,args:=#[x,y],argTypes:=#[t,u] })
  (hx:Is P W0 o A x .ay) (hy:Is P W0 o A y (.int k m)) (ht:elT P t=some e) (hu:P.underlying u=some (.int kn)) (he:0<ae P e) (hz:zeroOf P e=some v) (h0:0<m) (hb:m*bytesOf P e≤140737488355328) (hm:m≤maxLen):
  ∃r w' C',(execOp a.eval o).run P w= .ok (.value r) w'∧Step w C w' C'∧aB P W0 w' C' (A.st++[some (.cells e (List.replicate m v))])∧aC P w' C' (.row e A.st.length 0 m) r:=by
 obtain⟨inf,z,hi,hiz,hc,hf⟩:=iO (w:=w) (C:=C) hz
 obtain⟨inf',hinf,hsz⟩:=bu he
 obtain rfl:inf'=inf:=by rw[hi]at hinf;exact(Option.some.inj hinf).symm
 have hcl:z.cells.size=ae P e:=by have:=hc.bB hf;simpa using this
 rw[j7 hi]at hb
 have hm':(m:Int)≤9223372036854775807:=by unfold maxLen at hm;omega
 have hxe:=(hx w C a hr).db
 have hye:=(hy w C a hr).cb
 have hrun:=Lib.run_append_nil_zeros (P:=P) w t u o.type e inf' z k kn (bE ht) hu hi hiz m h0 (by rw[hsz];exact he) hm' (by omega)
 have hge:=grownCap_ge w m 0 e
 have hcap:=grownCap_le_maxLen w m 0 e (by omega)
 obtain⟨C',g1,g2,g3⟩:=jw (P:=P) (W0:=W0) hr.st.drew (e:=e) (zs:=List.replicate m v) (cap:=grownCap w m 0 e) (arr:=Builtin.zeroCells z.cells m++Builtin.zeroCells z.cells (grownCap w m 0 e-m)) (cf:=λ_=>z.cells.toList) (by simpa using hge) hcap
  (by simp only[Array.size_append,size_zeroCells,hcl,←Nat.add_mul];congr 1;omega)
  (λi x hx=>by
   simp only[List.getElem?_replicate]at hx
   split at hx
   ·cases hx
    rename_i hlt
    refine⟨hc.mono (Step.drew w C),by simpa using hcl,hf,λj u hj=>?_⟩
    have hjl:j<ae P e:=by rw[←hcl];simpa using (List.getElem?_eq_some_iff.1 hj).1
    have h5:(i+1)*ae P e≤m*ae P e:=Nat.mul_le_mul_right _ hlt
    rw[Nat.succ_mul]at h5
    rw[Array.getElem?_append_left (by rw[size_zeroCells,hcl];omega)]
    have hzm:Builtin.zeroCells z.cells m=madeCells z.cells (m*ae P e):=by simp only[Builtin.zeroCells,madeCells,hcl]
    rw[hzm]
    exact sP hcl hlt (by simpa using hj)
   ·cases hx)
 simp only[List.length_replicate]at g3
 refine⟨_,_,C',?_,(Step.drew w C).trans g1,g2,g3⟩
 simp[execOp,ho,resolve,invoke,builtin,hxe,hye,hrun]
end
end Go.Av
end
section
namespace Go.Av
open Go
section
variable {P :Program}{W0 w w':World}{C C':Ctx}{σ σ':ab}{n:Nat}{A:aa}{a:Act}{o:Oper}
theorem wG (h:aB P W0 w C σ){id b base room:Nat}{fr:Nat×Nat}{e t':TypeId}{xs zs:List AV}{arr arr':Array Value}{cf:Nat→List Value}(hs:σ[id]?=some (some (.cells e xs)))(hm:C.m id=some (.obj b e base room))(hb:w.heap[b]?=some (.cells arr t' fr))(hf:rb fr arr.size)
  (hsz:arr.size=room) (hsize:arr'.size=arr.size) (hfit:base+zs.length*ae P e≤room)
  (hz: ∀i x,zs[i]?=some x→Rel P w C x (cf i)∧(cf i).length=ae P e∧fits P e x∧ ∀(j:Nat) (u:Value),(cf i)[j]?=some u→arr'[base+i*ae P e+j]?=some u):
  Step w C (w.setRow b arr') C∧aB P W0 (w.setRow b arr') C (σ.set id (some (.cells e zs))):=by
 have hstep:=qI (w:=w) hm arr'
 have hidl:id<σ.length:=(List.getElem?_eq_some_iff.1 hs).1
 refine⟨hstep,h.change hstep h.low (by simpa using h.nx) h.inj h.dom (λj=>?_)⟩
 rw[jh _ _ _ _ hidl]
 by_cases hj:j=id
 ·left
  subst hj
  rw[if_pos rfl,hm]
  refine⟨rfl,_,t',fr,setRow_heap w b arr _ t' _ hb,by rw[hsize];exact hf,by rw[hsize,hsz],hfit,cf,λq x hq=>?_⟩
  obtain⟨g1,g2,g3,g4⟩:=hz q x hq
  exact⟨g1.mono hstep,g2,g3,g4⟩
 ·right
  rw[if_neg hj]
  exact⟨rfl,rfl,λx hx=>setRow_other w b x.blk _ (λe=>hj (h.inj j id x _ hx hm (by simpa[Own.blk]using e)))⟩
theorem qc {zs ys:List AV}{k:Nat}(h:k+ys.length≤zs.length):(iy zs k ys).length=zs.length:=by simp[iy];omega
theorem vy {zs ys:List AV}{k:Nat}(h:k+ys.length≤zs.length)(i:Nat):(iy zs k ys)[i]?=if k≤i∧i<k+ys.length then ys[i-k]? else zs[i]?:=by
 have hk:(zs.take k).length=k:=by simp;omega
 unfold iy
 by_cases h1:i<k
 ·rw[if_neg (by omega),List.append_assoc,List.getElem?_append_left (by omega),List.getElem?_take,if_pos h1]
 ·by_cases h2:i<k+ys.length
  ·rw[if_pos ⟨by omega,h2⟩,List.getElem?_append_left (by simp;omega),List.getElem?_append_right (by omega),hk]
  ·rw[if_neg (by omega),List.getElem?_append_right (by simp;omega),List.getElem?_drop]
   congr 1
   simp
   omega
theorem um {zs:List AV}{k:Nat}:iy zs k []=zs:=by simp[iy]
theorem nO (hr:aB P W0 w C σ){e te:TypeId}{id off m:Nat}{zs:List AV}{v:Value}(hv:aC P w C (.row e id off m) v)(he:0<ae P e)(hs:σ[id]?=some (some (.cells te zs))):
  te=e∧ ∃ad cap b base room arr t' fr,v= .slice ad m cap∧m≤cap∧cap≤maxLen∧C.m id=some (.obj b e base room)∧w.heap[b]?=some (.cells arr t' fr)∧rb fr arr.size∧arr.size=room∧base+zs.length*ae P e≤room∧
   (0<cap→ad=some ⟨b,base+off*ae P e,none⟩)∧zs.length≤off+cap∧id<C.nx∧
   ∃cf:Nat→List Value,∀i x,zs[i]?=some x→Rel P w C x (cf i)∧(cf i).length=ae P e∧fits P e x∧ ∀(j:Nat) (c:Value),(cf i)[j]?=some c→arr[base+i*ae P e+j]?=some c:=by
 have hv':=hv.aD rfl
 obtain⟨b,base,room,arr,t',fr,m1,m2,mf,m3,m4,cf,m5⟩:=hr.cells hs
 cases hv' with
 |row h1 h2 h3 h4=>
  obtain⟨b',base',room',e1,e2,e3⟩:=h4 _ m1
  cases e1
  refine⟨rfl,_,_,b,base,room,arr,t',fr,rfl,h1,h2,m1,m2,mf,m3,m4,e2,?_,h3,cf,m5⟩
  rw[←e3]at m4
  have:=Nat.le_of_add_le_add_left m4
  exact Nat.le_of_mul_le_mul_right this he
theorem xk (hr:eD P W0 o w C A a){x y:Operand}{t u e:TypeId}{id off m:Nat}{zs ys:List AV}{z:AV}(ho:o.op= .call { callee:=.builtin .append,args:=#[x,y],argTypes:=#[t,u] })
  (hx:Is P W0 o A x (.row e id off m)) (hy:Is P W0 o A y z) (ht:elT P t=some e) (hu:elT P u=some e) (he:0<ae P e) (hs:A.st[id]?=some (some (.cells e zs))) (hys:dN A.st z e ys) (hm:off+m+ys.length≤zs.length):
  ∃r w',(execOp a.eval o).run P w= .ok (.value r) w'∧Step w C w' C∧aB P W0 w' C (A.st.set id (some (.cells e (iy zs (off+m) ys))))∧aC P w' C (.row e id off (m+ys.length)) r:=by
 obtain⟨inf,hinf,hsz⟩:=bu he
 have htu:=bE ht
 have hrun: ∀b l c yv r w',(Builtin.append_ #[t,t] o.type #[.slice b l c,yv]).run P w= .ok r w'→a.eval x= .slice b l c→a.eval y=yv→(execOp a.eval o).run P w= .ok (.value r) w':=λb l c yv r w' h h1 h2=>by
  rw[←eW htu (bE hu) hinf]at h
  simp[execOp,ho,resolve,invoke,builtin,h1,h2,h]
 have hxv:=hx w C a hr
 have hyv:=hy w C a hr
 obtain⟨ady,capy,cfy,hye,y3,y4,y5⟩:=hys.cells hr.st hyv
 obtain⟨_,ad,cap,b,base,room,arr,t',fr,hxe,c1,c2,m1,m2,mf,m3,m4,e2,e3,hid,cf,m5⟩:=nO hr.st hxv he hs
 have hidl:id<A.st.length:=(List.getElem?_eq_some_iff.1 hs).1
 by_cases hyl:ys=[]
 ·subst hyl
  rw[um,show A.st.set id (some (.cells e zs))=A.st from by
   refine List.ext_getElem? λi=>?_
   by_cases hi:id=i
   ·subst hi;rw[List.getElem?_set_self hidl,hs]
   ·rw[List.getElem?_set_ne hi]]
  exact⟨_,w,hrun _ _ _ _ _ _ (fA htu hinf _ _ _ _ _ _ c1 w) hxe hye,.refl _ _,hr.st,by rw[←hxe];exact hxv⟩
 have hpos:0<ys.length:=by cases ys with|nil=>exact absurd rfl hyl|cons=>simp
 obtain⟨by_,oy,rfl,news,n1,n2,n3,n4⟩:=y5 hpos
 have n2': ∀j u,news[j]?=some u→w.cell? ((⟨by_,oy,none⟩:Addr).add j)=some u:=λj u hj=>by rw[Addr.add_lit];exact n2 j u hj
 obtain rfl:=e2 (by omega)
 have h6:base+(off+m+ys.length)*ae P e≤arr.size:=by rw[m3];exact Nat.le_trans (Nat.add_le_add_left (Nat.mul_le_mul_right _ hm) _) m4
 have hfit:base+off*ae P e+m*ae P e+news.length≤arr.size:=by
  rw[n1]
  rw[Nat.add_mul,Nat.add_mul]at h6
  omega
 have hap:=fb (P:=P) w t o.type e inf htu hinf b (base+off*ae P e) m cap t' fr arr m2 mf ⟨by_,oy,none⟩ ys.length capy news (by rw[n1,hsz]) n2' n3 (by omega) (by rw[hsz];exact hfit)
 rw[hsz]at hap
 have hsize:(bm arr (base+off*ae P e+m*ae P e) news).size=arr.size:=c8 hfit
 have hoff:base+off*ae P e+m*ae P e=base+(off+m)*ae P e:=by rw[Nat.add_mul];omega
 obtain⟨k1,k2⟩:=wG hr.st (zs:=iy zs (off+m) ys) (cf:=λi=>if off+m≤i∧i<off+m+ys.length then cfy (i-(off+m))else cf i) hs m1 m2 mf m3 hsize (by rw[qc hm];exact m4) (λi x hx=>by
  rw[vy hm]at hx
  by_cases hi:off+m≤i∧i<off+m+ys.length
  ·rw[if_pos hi]at hx
   simp only[hi,and_self,if_true]
   refine⟨y3 _ x hx,(y4 _ x hx).1,(y4 _ x hx).2,λj u hj=>?_⟩
   have:=n4 _ x hx j u hj
   have hl:=(List.getElem?_eq_some_iff.1 this).1
   have hmul:i*ae P e=(off+m)*ae P e+(i-(off+m))*ae P e:=by rw[←Nat.add_mul];congr 1;omega
   rw[bp hfit,if_pos (by omega),show base+i*ae P e+j-(base+off*ae P e+m*ae P e)=(i-(off+m))*ae P e+j by omega]
   exact this
  ·rw[if_neg hi]at hx
   simp only[hi,if_false]
   obtain⟨q1,q2,q3,q4⟩:=m5 i x hx
   refine⟨q1,q2,q3,λj u hj=>?_⟩
   have hjl:j<ae P e:=by rw[←q2];exact(List.getElem?_eq_some_iff.1 hj).1
   rw[bp hfit,if_neg ?_]
   ·exact q4 j u hj
   ·rintro⟨b1,b2⟩
    rw[hoff]at b1 b2
    rw[n1]at b2
    rcases Nat.lt_or_ge i (off+m)with hlt|hge
    ·have h5:(i+1)*ae P e≤(off+m)*ae P e:=Nat.mul_le_mul_right _ hlt
     rw[Nat.succ_mul]at h5
     omega
    ·have h5:(off+m+ys.length)*ae P e≤i*ae P e:=Nat.mul_le_mul_right _ (by omega)
     rw[Nat.add_mul]at h5
     omega)
 refine⟨_,_,hrun _ _ _ _ _ _ hap hxe hye,k1,k2,.one rfl (.row (by omega) c2 hid (λow how=>?_))⟩
 have hxv':=hxv.aD rfl
 rw[hxe]at hxv'
 cases hxv' with
 |row _ _ _ h4=>exact h4 ow how
theorem tT (hr:eD P W0 o w C A a){x y:Operand}{t u e:TypeId}{id off m:Nat}{zs ys:List AV}{z:AV}(ho:o.op= .call { callee:=.builtin .append,args:=#[x,y],argTypes:=#[t,u] })
  (hx:Is P W0 o A x (.row e id off m)) (hy:Is P W0 o A y z) (ht:elT P t=some e) (hu:elT P u=some e) (he:0<ae P e) (hz0:bk P e=true) (hs:A.st[id]?=some (some (.cells e zs))) (hm:off+m=zs.length) (hys:dN A.st z e ys)
  (hbytes:(m+ys.length)*bytesOf P e≤140737488355328) (hmax:m+ys.length≤maxLen):
  ∃r w' C' v' σ',(execOp a.eval o).run P w= .ok (.value r) w'∧((v'= .row e id off (m+ys.length)∧σ'=A.st.set id (some (.cells e (zs++ys))))∨(v'= .row e A.st.length 0 (m+ys.length)∧σ'=A.st++[some (.cells e (zs.drop off++ys))]))∧Step w C w' C'∧aB P W0 w' C' σ'∧aC P w' C' v' r:=by
 obtain⟨inf,hinf,hsz⟩:=bu he
 have htu:=bE ht
 have hrun: ∀b l c yv r w',(Builtin.append_ #[t,t] o.type #[.slice b l c,yv]).run P w= .ok r w'→a.eval x= .slice b l c→a.eval y=yv→(execOp a.eval o).run P w= .ok (.value r) w':=λb l c yv r w' h h1 h2=>by
  rw[←eW htu (bE hu) hinf]at h
  simp[execOp,ho,resolve,invoke,builtin,h1,h2,h]
 have hxv:=hx w C a hr
 have hyv:=hy w C a hr
 obtain⟨ady,capy,cfy,hye,y3,y4,y5⟩:=hys.cells hr.st hyv
 obtain⟨_,ad,cap,b,base,room,arr,t',fr,hxe,c1,c2,m1,m2,mf,m3,m4,e2,e3,hid,cf,m5⟩:=nO hr.st hxv he hs
 have hex:base+(off+cap)*ae P e=room:=by
  have hxv':=hxv.aD rfl
  rw[hxe]at hxv'
  cases hxv' with
  |row _ _ _ h4=>
   obtain⟨b',base',room',g1,_,g3⟩:=h4 _ m1
   cases g1
   exact g3
 have hidl:id<A.st.length:=(List.getElem?_eq_some_iff.1 hs).1
 by_cases hyl:ys=[]
 ·subst hyl
  refine⟨_,w,C,_,_,hrun _ _ _ _ _ _ (fA htu hinf _ _ _ _ _ _ c1 w) hxe hye,.inl ⟨rfl,rfl⟩,.refl _ _,?_,by rw[←hxe];exact hxv⟩
  rw[List.append_nil,show A.st.set id (some (.cells e zs))=A.st from by
   refine List.ext_getElem? λi=>?_
   by_cases hi:id=i
   ·subst hi;rw[List.getElem?_set_self hidl,hs]
   ·rw[List.getElem?_set_ne hi]]
  exact hr.st
 have hpos:0<ys.length:=by cases ys with|nil=>exact absurd rfl hyl|cons=>simp
 obtain⟨by_,oy,rfl,news,n1,n2,n3,n4⟩:=y5 hpos
 have n2': ∀j u,news[j]?=some u→w.cell? ((⟨by_,oy,none⟩:Addr).add j)=some u:=λj u hj=>by rw[Addr.add_lit];exact n2 j u hj
 by_cases hroom:m+ys.length≤cap
 ·-- within its room
  obtain rfl:=e2 (by omega)
  have h6:(off+(m+ys.length))*ae P e≤(off+cap)*ae P e:=Nat.mul_le_mul_right _ (by omega)
  have hoff:base+off*ae P e+m*ae P e=base+(off+m)*ae P e:=by rw[Nat.add_mul];omega
  have hfit:base+off*ae P e+m*ae P e+news.length≤arr.size:=by
   rw[n1,m3]
   simp only[Nat.add_mul]at h6 hex
   omega
  have hap:=fb (P:=P) w t o.type e inf htu hinf b (base+off*ae P e) m cap t' fr arr m2 mf ⟨by_,oy,none⟩ ys.length capy news (by rw[n1,hsz]) n2' n3 hroom (by rw[hsz];exact hfit)
  rw[hsz]at hap
  have hsize:(bm arr (base+off*ae P e+m*ae P e) news).size=arr.size:=c8 hfit
  obtain⟨k1,k2⟩:=wG hr.st (zs:=zs++ys) (cf:=λi=>if i<zs.length then cf i else cfy (i-zs.length)) hs m1 m2 mf m3 hsize (by
    rw[List.length_append,←hm,←hex]
    exact Nat.add_le_add_left (Nat.mul_le_mul_right _ (by omega)) _) (λi x hx=>by
   by_cases hi:i<zs.length
   ·rw[List.getElem?_append_left hi]at hx
    simp only[hi,if_true]
    obtain⟨q1,q2,q3,q4⟩:=m5 i x hx
    refine⟨q1,q2,q3,λj u hj=>?_⟩
    have hjl:j<ae P e:=by rw[←q2];exact(List.getElem?_eq_some_iff.1 hj).1
    have h5:(i+1)*ae P e≤(off+m)*ae P e:=Nat.mul_le_mul_right _ (by omega)
    rw[Nat.succ_mul]at h5
    rw[bp hfit,if_neg (by omega)]
    exact q4 j u hj
   ·rw[List.getElem?_append_right (by omega)]at hx
    simp only[hi,if_false]
    refine⟨y3 _ x hx,(y4 _ x hx).1,(y4 _ x hx).2,λj u hj=>?_⟩
    have:=n4 _ x hx j u hj
    have hl:=(List.getElem?_eq_some_iff.1 this).1
    have hmul:i*ae P e=(off+m)*ae P e+(i-zs.length)*ae P e:=by rw[←Nat.add_mul];congr 1;omega
    rw[bp hfit,if_pos (by omega),show base+i*ae P e+j-(base+off*ae P e+m*ae P e)=(i-zs.length)*ae P e+j by omega]
    exact this)
  refine⟨_,_,C,_,_,hrun _ _ _ _ _ _ hap hxe hye,.inl ⟨rfl,rfl⟩,k1,k2,.one rfl (.row hroom c2 hid (λow how=>?_))⟩
  have hxv':=hxv.aD rfl
  rw[hxe]at hxv'
  cases hxv' with
  |row _ _ _ h4=>exact h4 ow how
 obtain⟨inf',z0,hinf',hiz,hzs⟩:=eF hz0
 obtain rfl:inf'=inf:=by rw[hinf]at hinf';exact(Option.some.inj hinf').symm
 rw[j7 hinf]at hbytes
 have hdl:(zs.drop off).length=m:=by rw[List.length_drop];omega
 have hlen:(zs.drop off++ys).length=m+ys.length:=by rw[List.length_append,hdl]
 have hgetl: ∀i x,(zs.drop off++ys)[i]?=some x→(i<m∧zs[off+i]?=some x)∨(m≤i∧ys[i-m]?=some x):=λi x hx=>by
  by_cases hi:i<m
  ·rw[List.getElem?_append_left (by omega),List.getElem?_drop]at hx;exact .inl ⟨hi,hx⟩
  ·rw[List.getElem?_append_right (by omega),hdl]at hx;exact .inr ⟨by omega,hx⟩
 cases ad with
 |none=>
  have hc0:cap=0:=by
   rcases Nat.eq_zero_or_pos cap with h|h
   ·exact h
   ·have:=e2 h;cases this
  subst hc0
  have hm0:m=0:=by omega
  subst hm0
  have hz:zs.drop off=[]:=by rw[←List.length_eq_zero_iff];exact hdl
  rw[hz]
  simp only[Nat.zero_add]at hbytes hmax
  have hap:=run_append_nil (P:=P) w t o.type e inf' z0 htu hinf hiz ⟨by_,oy,none⟩ ys.length capy news (by rw[n1,hsz]) n2' hpos (by unfold maxLen at hmax;omega) (by omega)
  have hge:=grownCap_ge w ys.length 0 e
  have hcap:=grownCap_le_maxLen w ys.length 0 e hmax
  obtain⟨C',q1,q2,q3⟩:=jw (P:=P) (W0:=W0) hr.st.drew (e:=e) (zs:=ys) (cap:=grownCap w ys.length 0 e) (arr:=news.toArray++Builtin.zeroCells z0.cells (grownCap w ys.length 0 e-ys.length)) (cf:=cfy) hge hcap
   (by simp only[Array.size_append,List.size_toArray,size_zeroCells,n1,hzs,←Nat.add_mul];congr 1;omega)
   (λi x hx=>⟨(y3 i x hx).mono (Step.drew w C),(y4 i x hx).1,(y4 i x hx).2,λj u hj=>by
    have:=n4 i x hx j u hj
    rw[Array.getElem?_append_left (by simpa using (List.getElem?_eq_some_iff.1 this).1)]
    simpa using this⟩)
  exact⟨_,_,C',_,_,hrun _ _ _ _ _ _ hap hxe hye,.inr ⟨rfl,rfl⟩,(Step.drew w C).trans q1,by simpa using q2,by simpa using q3⟩
 |some b'=>
  have hcells: ∃olds:List Value,olds.length=m*ae P e∧(∀(j:Nat) (u:Value),olds[j]?=some u→w.cell? (b'.add j)=some u)∧ ∀i x,i<m→zs[off+i]?=some x→ ∀(j:Nat) (u:Value),(cf (off+i))[j]?=some u→olds[i*ae P e+j]?=some u:=by
   by_cases hxl:m=0
   ·subst hxl;exact⟨[],by simp,by simp,λi x hi=>by omega⟩
   ·have hb':=e2 (by omega)
    cases hb'
    refine⟨(arr.toList.drop (base+off*ae P e)).take (m*ae P e),?_,λj u hj=>?_,λi x hi hx j u hj=>?_⟩
    ·have h6:(off+m)*ae P e≤(off+cap)*ae P e:=Nat.mul_le_mul_right _ (by omega)
     simp only[Nat.add_mul]at h6 hex
     simp only[List.length_take,List.length_drop,Array.length_toList]
     omega
    ·rw[List.getElem?_take]at hj
     split at hj
     ·rw[List.getElem?_drop,Array.getElem?_toList]at hj
      rw[Addr.add_lit]
      simp[World.cell?,m2,hj]
     ·cases hj
    ·obtain⟨q1,q2,q3,q4⟩:=m5 _ x hx
     have hjl:j<ae P e:=by rw[←q2];exact(List.getElem?_eq_some_iff.1 hj).1
     have h5:(i+1)*ae P e≤m*ae P e:=Nat.mul_le_mul_right _ hi
     rw[Nat.succ_mul]at h5
     rw[List.getElem?_take,if_pos (by omega),List.getElem?_drop,Array.getElem?_toList]
     have:=q4 j u hj
     rwa [Nat.add_mul,show base+(off*ae P e+i*ae P e)+j=base+off*ae P e+(i*ae P e+j) by omega]at this
  obtain⟨olds,p1,p2,p4⟩:=hcells
  have hap:=run_append_grow (P:=P) w t o.type e inf' z0 htu hinf hiz b' m cap olds (by rw[p1,hsz]) p2 ⟨by_,oy,none⟩ ys.length capy news (by rw[n1,hsz]) n2' (by omega) (by unfold maxLen at hmax;omega) (growslice_fits (by omega) hbytes)
  have hge:=grownCap_ge w (m+ys.length) cap e
  have hcap:=grownCap_le_maxLen w (m+ys.length) cap e hmax
  obtain⟨C',g1,g2,g3⟩:=jw (P:=P) (W0:=W0) hr.st.drew (e:=e) (zs:=zs.drop off++ys) (cap:=grownCap w (m+ys.length) cap e)
   (arr:=olds.toArray++news.toArray++Builtin.zeroCells z0.cells (grownCap w (m+ys.length) cap e-(m+ys.length))) (cf:=λi=>if i<m then cf (off+i)else cfy (i-m)) (by rw[hlen];exact hge) hcap
   (by simp only[Array.size_append,List.size_toArray,size_zeroCells,p1,n1,hzs,←Nat.add_mul];congr 1;omega)
   (λi x hx=>by
    rcases hgetl i x hx with⟨hi,hx'⟩|⟨hi,hx'⟩
    ·simp only[hi,if_true]
     obtain⟨q1,q2,q3,q4⟩:=m5 _ x hx'
     refine⟨q1.mono (Step.drew w C),q2,q3,λj u hj=>?_⟩
     have:=p4 i x hi hx' j u hj
     have hl:=(List.getElem?_eq_some_iff.1 this).1
     rw[Array.getElem?_append_left (by simp;omega),Array.getElem?_append_left (by simpa using hl)]
     simpa using this
    ·simp only[show ¬i<m by omega,if_false]
     refine⟨(y3 _ x hx').mono (Step.drew w C),(y4 _ x hx').1,(y4 _ x hx').2,λj u hj=>?_⟩
     have:=n4 _ x hx' j u hj
     have hl:=(List.getElem?_eq_some_iff.1 this).1
     have hmul:i*ae P e=m*ae P e+(i-m)*ae P e:=by rw[←Nat.add_mul];congr 1;omega
     rw[Array.getElem?_append_left (by simp;omega),Array.getElem?_append_right (by simp;omega)]
     simp only[List.size_toArray,p1,List.getElem?_toArray]
     rw[show i*ae P e+j-m*ae P e=(i-m)*ae P e+j by omega]
     exact this)
  rw[hlen]at g3
  exact⟨_,_,C',_,_,hrun _ _ _ _ _ _ hap hxe hye,.inr ⟨rfl,rfl⟩,(Step.drew w C).trans g1,g2,g3⟩
theorem Ge (hr:eD P W0 o w C A a){x:Operand}{t e:TypeId}{id off m:Nat}{zs:List AV}{v:AV}(ho:o.op= .call { callee:=.builtin .clear,args:=#[x],argTypes:=#[t] })
  (hx:Is P W0 o A x (.row e id off m)) (ht:elT P t=some e) (he:0<ae P e) (hz:zeroOf P e=some v) (hs:A.st[id]?=some (some (.cells e zs))) (hm:off+m≤zs.length):
  ∃r w',(execOp a.eval o).run P w= .ok (.value r) w'∧Step w C w' C∧aB P W0 w' C (A.st.set id (some (.cells e (iy zs off (List.replicate m v)))))∧aC P w' C (.tup []) r:=by
 obtain⟨inf,z,hi,hiz,hc,hf⟩:=iO (w:=w) (C:=C) hz
 obtain⟨inf',hinf,hsz⟩:=bu he
 obtain rfl:inf'=inf:=by rw[hi]at hinf;exact(Option.some.inj hinf).symm
 have hcl:z.cells.size=ae P e:=by have:=hc.bB hf;simpa using this
 have htu:=bE ht
 have hxv:=hx w C a hr
 obtain⟨_,ad,cap,b,base,room,arr,t',fr,hxe,c1,c2,m1,m2,mf,m3,m4,e2,e3,hid,cf,m5⟩:=nO hr.st hxv he hs
 have hidl:id<A.st.length:=(List.getElem?_eq_some_iff.1 hs).1
 have hrel: ∀w',aC P w' C (.tup []) (.tuple #[]):=λw'=>.tup (vs:=[]) rfl (λi a v h=>by simp at h)
 have hzv:(zeroValue e).run P w= .ok z w:=by simp[zeroValue,typeInfo,hi,hiz]
 by_cases hm0:m=0
 ·subst hm0
  rw[show iy zs off (List.replicate 0 v)=zs from um,show A.st.set id (some (.cells e zs))=A.st from by
   refine List.ext_getElem? λi=>?_
   by_cases hi:id=i
   ·subst hi;rw[List.getElem?_set_self hidl,hs]
   ·rw[List.getElem?_set_ne hi]]
  refine⟨_,w,?_,.refl _ _,hr.st,hrel _⟩
  cases ad<;>simp[execOp,ho,resolve,invoke,builtin,hxe,Builtin.clear_,run_underlying htu]
 obtain rfl:=e2 (by omega)
 have hzm:Builtin.zeroCells z.cells m=madeCells z.cells (m*ae P e):=by simp only[Builtin.zeroCells,madeCells,hcl]
 have hll:(Builtin.zeroCells z.cells m).toList.length=m*ae P e:=by simp[size_zeroCells,hcl]
 have hrl:(List.replicate m v).length=m:=by simp
 have h6:base+(off+m)*ae P e≤arr.size:=by rw[m3];exact Nat.le_trans (Nat.add_le_add_left (Nat.mul_le_mul_right _ hm) _) m4
 have hfit:base+off*ae P e+(Builtin.zeroCells z.cells m).toList.length≤arr.size:=by
  rw[hll]
  rw[Nat.add_mul]at h6
  omega
 have hone: ∀u∈(Builtin.zeroCells z.cells m).toList,u.oneCell'=true:=λu hu=>by
  rw[hzm]at hu
  simp only[madeCells,Array.toList_map,List.mem_map]at hu
  obtain⟨q,hq,rfl⟩:=hu
  have hq':q % z.cells.size<z.cells.size:=Nat.mod_lt _ (by omega)
  rw[getElem!_pos z.cells _ hq']
  exact hc.kD _ (by simp)
 have hst:=dU P b (base+off*ae P e) t' fr (Builtin.zeroCells z.cells m).toList 0 arr w m2 mf (by simpa using hfit) hone
 simp only[Nat.add_zero]at hst
 have hsize:(bm arr (base+off*ae P e) (Builtin.zeroCells z.cells m).toList).size=arr.size:=c8 hfit
 obtain⟨k1,k2⟩:=wG hr.st (zs:=iy zs off (List.replicate m v)) (cf:=λi=>if off≤i∧i<off+m then z.cells.toList else cf i) hs m1 m2 mf m3 hsize (by rw[qc (by rw[hrl];exact hm)];exact m4) (λi x hx=>by
  rw[vy (by rw[hrl];exact hm),hrl]at hx
  by_cases hi:off≤i∧i<off+m
  ·rw[if_pos hi,List.getElem?_replicate,if_pos (by omega)]at hx
   cases hx
   simp only[hi,and_self,if_true]
   refine⟨hc,by simpa using hcl,hf,λj u hj=>?_⟩
   have hjl:j<ae P e:=by rw[←hcl];simpa using (List.getElem?_eq_some_iff.1 hj).1
   have h5:(i-off+1)*ae P e≤m*ae P e:=Nat.mul_le_mul_right _ (by omega)
   rw[Nat.succ_mul]at h5
   have hmul:i*ae P e=off*ae P e+(i-off)*ae P e:=by rw[←Nat.add_mul];congr 1;omega
   rw[bp hfit,if_pos (by omega),show base+i*ae P e+j-(base+off*ae P e)=(i-off)*ae P e+j by omega,hzm,Array.getElem?_toList]
   exact sP hcl (show i-off<m by omega) (by simpa using hj)
  ·rw[if_neg hi]at hx
   simp only[hi,if_false]
   obtain⟨q1,q2,q3,q4⟩:=m5 i x hx
   refine⟨q1,q2,q3,λj u hj=>?_⟩
   have hjl:j<ae P e:=by rw[←q2];exact(List.getElem?_eq_some_iff.1 hj).1
   rw[bp hfit,if_neg ?_]
   ·exact q4 j u hj
   ·rintro⟨b1,b2⟩
    rw[hll]at b2
    rcases Nat.lt_or_ge i off with hlt|hge
    ·have h5:(i+1)*ae P e≤off*ae P e:=Nat.mul_le_mul_right _ hlt
     rw[Nat.succ_mul]at h5
     omega
    ·have h5:(off+m)*ae P e≤i*ae P e:=Nat.mul_le_mul_right _ (by omega)
     rw[Nat.add_mul]at h5
     omega)
 refine⟨_,_,?_,k1,k2,hrel _⟩
 have esp:bm arr (base+off*ae P e) (Builtin.zeroCells z.cells m).toList=(arr.toList.take (base+off*ae P e)++(Builtin.zeroCells z.cells m).toList++arr.toList.drop (base+off*ae P e+(Builtin.zeroCells z.cells m).toList.length)).toArray:=rfl
 rw[esp]
 have hne: ∀(q:Nat),m=q→(Builtin.clear_ #[t] o.type #[.slice (some ⟨b,base+off*ae P e,none⟩) q cap]).run P w= .ok (.tuple #[]) (w.setRow b (arr.toList.take (base+off*ae P e)++(Builtin.zeroCells z.cells m).toList++arr.toList.drop (base+off*ae P e+(Builtin.zeroCells z.cells m).toList.length)).toArray):=λq hq=>by
  cases q with
  |zero=>exact absurd hq hm0
  |succ q=>simp[Builtin.clear_,run_underlying htu,hzv,←hq,hst]
 simp[execOp,ho,resolve,invoke,builtin,hxe,hne m rfl]
theorem tK {t e te:TypeId}{x:Operand}{lo hi:Option Operand}{id off m p q:Nat}{zs:List AV}(ho:o.op= .slice t x lo hi none)(hx:Is P W0 o A x (.row e id off m))(ht:elT P t=some e)(he:0<ae P e)
  (hlo:iu P W0 o A lo 0 p) (hhi:iu P W0 o A hi m q) (h1:p≤q) (hs:A.st[id]?=some (some (.cells te zs))) (h2:off+q≤zs.length):bR P W0 o A (.row e id (off+p) (q-p)):=
 .of_same λw C a hr=>by
  obtain⟨inf,hinf,hsz⟩:=bu he
  obtain⟨_,ad,cap,b,base,room,arr,t',fr,hv,g1,g2,m1,m2,mf,m3,m4,e2,e3,hid,cf,m5⟩:=nO hr.st (hx w C a hr) he hs
  have hb:=eh hr true hlo hhi h1 (show q≤cap by omega)
  have h:=(hx w C a hr).aD rfl
  rw[hv]at h
  cases h with
  |row _ _ _ h4=>
   refine⟨.slice (if cap=p then ad else ad.map (·.add (p*ae P e))) (q-p) (cap-p),?_,.one rfl (.row (by omega) (by omega) hid (λow how=>?_))⟩
   ·simp[execOp,ho,Instr.sliceAt,Instr.slice,run_underlying (bE ht),hv,hb,sizeOf,typeInfo,hinf,hsz]
   ·obtain⟨b,base,room,e1,e2,e3⟩:=h4 ow how
    refine⟨b,base,room,e1,λhc=>?_,by rw[show off+p+(cap-p)=off+cap by omega];exact e3⟩
    rw[if_neg (by omega),e2 (by omega)]
    simp[Addr.add_lit,Nat.add_mul,Nat.add_assoc]
theorem Dl {t e:TypeId}{x lo hi mx:Operand}{id off m:Nat}{k1 k2 k3:IntKind}{p q r:Int}(ho:o.op= .slice t x (some lo) (some hi) (some mx))(hx:Is P W0 o A x (.row e id off m))(ht:elT P t=some e)(he:0<ae P e)
  (hlo:Is P W0 o A lo (.int k1 p)) (hhi:Is P W0 o A hi (.int k2 q)) (hmx:Is P W0 o A mx (.int k3 r)) (h0:0≤p) (h1:p≤q) (h2:q≤r) (h3:r≤m):bR P W0 o A .undef:=
 .of_same λw C a hr=>by
  obtain⟨inf,hinf,hsz⟩:=bu he
  have h:=(hx w C a hr).aD rfl
  have⟨ad,cap,hv,g1⟩: ∃ad cap,a.eval x= .slice ad m cap∧m≤cap:=by
   generalize a.eval x=v at h
   cases h with
   |row h1 h2 h3 h4=>exact⟨_,_,rfl,h1⟩
  have e1:=(hlo w C a hr).cb
  have e2:=(hhi w C a hr).cb
  have e3:=(hmx w C a hr).cb
  have b1:=λc=>run_sliceBound (P:=P) (w:=w) k1 c (i:=p) (y:=q.toNat) h0 rfl (by omega)
  have b2:=λc=>run_sliceBound (P:=P) (w:=w) k2 c (i:=q) (y:=r.toNat) (by omega) rfl (by omega)
  have b3:=λc=>run_sliceBound (P:=P) (w:=w) k3 c (i:=r) (y:=cap) (by omega) rfl (by omega)
  refine⟨.slice (if r.toNat=p.toNat then ad else ad.map (·.add (p.toNat*ae P e))) (q.toNat-p.toNat) (r.toNat-p.toNat),?_,.undef _⟩
  simp[execOp,ho,Instr.sliceAt,Instr.slice,Instr.sliceBounds,run_underlying (bE ht),hv,e1,e2,e3,b1,b2,b3,sizeOf,typeInfo,hinf,hsz]
theorem FJ (P:Program)(w:World)(C:Ctx)(c:UInt8):Rel P w C (da c) [.int .u8 c.toNat]:=.int _ _
theorem G3 (hr:eD P W0 o w C A a){s d e:TypeId}{x:Operand}{l:List UInt8}(ho:o.op= .convert s d x)(hx:Is P W0 o A x (.str l))(hs:bK P s=true)(hd:elT P d=some e)(he:eH P e=some .u8)(h1:ae P e=1)(hp:cj P e=true):
  ∃r w' C',(execOp a.eval o).run P w= .ok (.value r) w'∧Step w C w' C'∧aB P W0 w' C' (A.st++[some (.cells e (l.map da))])∧aC P w' C' (.row e A.st.length 0 l.length) r:=by
 obtain⟨hxe,hlm⟩:=(hx w C a hr).fu
 have hrun:=Lib.run_convert_string_bytes (P:=P) w s d e ⟨l.toArray⟩ (dc hs) (bE hd) (iZ he)
 have hsz:(⟨l.toArray⟩:ByteArray).size=l.length:=by simp[ByteArray.size]
 rw[hsz]at hrun
 have hge:=grownCap_ge w l.length 0 e
 have hcap:=grownCap_le_maxLen w l.length 0 e hlm
 have hml:(l.map da).length=l.length:=List.length_map ..
 have hbs:(Lib.bytesCells w e ⟨l.toArray⟩).size=grownCap w l.length 0 e*ae P e:=by
  simp only[Lib.bytesCells,Array.size_append,Array.size_map,Array.size_replicate,hsz,h1,Nat.mul_one]
  simp
  omega
 obtain⟨C',k1,k2,k3,k4⟩:=rN (P:=P) (W0:=W0) hr.st.drew (e:=e) (zs:=l.map da) (cap:=grownCap w l.length 0 e) (arr:=Lib.bytesCells w e ⟨l.toArray⟩) (cf:=λi=>[.int .u8 ((l.getD i 0).toNat:Nat)]) (by rw[hml];exact hge) hcap hbs (λi x hx=>by
  rw[List.getElem?_map]at hx
  obtain⟨c,hc,rfl⟩:=Option.map_eq_some_iff.1 hx
  have hi:=(List.getElem?_eq_some_iff.1 hc).1
  have hcd:l.getD i 0=c:=by rw[List.getD_eq_getElem?_getD,hc];rfl
  rw[hcd]
  refine⟨FJ P _ _ c,by simp[h1],⟨rfl,hp⟩,λj u hj=>?_⟩
  cases j with
  |succ j=>simp at hj
  |zero=>
   simp only[List.getElem?_cons_zero,Option.some.injEq]at hj
   subst hj
   rw[h1,Nat.mul_one,Nat.add_zero]
   unfold Lib.bytesCells
   rw[Array.getElem?_append_left (by simpa using hi)]
   simp[hc])
 rw[hml]at k3
 have hw:Lib.bytesWorld w e ⟨l.toArray⟩=(w.drew.alloc (.cells (Lib.bytesCells w e ⟨l.toArray⟩) e)).freeze ⟨w.heap.size,(Lib.bytesCells w e ⟨l.toArray⟩).size,none⟩ 1:=rfl
 have hdz:w.drew.heap.size=w.heap.size:=rfl
 rw[hdz]at k4
 have hnew:=Lib.bytesWorld_at_new w e ⟨l.toArray⟩
 have hsize:=Lib.bytesWorld_size w e ⟨l.toArray⟩
 have hsz1:(w.drew.alloc (.cells (Lib.bytesCells w e ⟨l.toArray⟩) e)).heap.size=w.heap.size+1:=by simp[World.alloc,-World.alloc_eq]
 have hblk: ∀b,b≠w.heap.size→(Lib.bytesWorld w e ⟨l.toArray⟩).heap[b]?=(w.drew.alloc (.cells (Lib.bytesCells w e ⟨l.toArray⟩) e)).heap[b]?:=λb hb=>by
  rcases Nat.lt_or_ge b w.heap.size with h|h
  ·rw[Lib.bytesWorld_at_old w e _ b h]
   exact(RowKit.Below.heap_alloc w.drew _ b h).symm
  ·rw[Array.getElem?_eq_none (by omega),Array.getElem?_eq_none (by omega)]
 have hstep:Step (w.drew.alloc (.cells (Lib.bytesCells w e ⟨l.toArray⟩) e)) C' (Lib.bytesWorld w e ⟨l.toArray⟩) C':=by
  refine⟨Nat.le_refl _,λ_ _ _ h=>h,λb i hst=>?_,rfl,rfl,rfl,by omega,λb hb hn=>?_⟩
  ·have hbb:b≠w.heap.size:=λe1=>by
    obtain⟨_,_,_,e2,_⟩:=hst.2 _ _ k4 (by simp[Own.blk,e1])
    cases e2
   refine⟨by simp only[World.cell?,hblk b hbb],by have:=hst.1;omega,hst.2⟩
  ·have hbb:b≠w.heap.size:=λe1=>hn _ _ k4 (by simp[Own.blk,e1])
   exact⟨hblk b hbb,hn⟩
 refine⟨_,_,C',?_,((Step.drew w C).trans k1).trans hstep,?_,k3.mono hstep⟩
 ·simp[execOp,ho,hxe,hrun]
 ·refine k2.change hstep k2.low k2.nx k2.inj k2.dom (λi=>?_)
  by_cases hi:i=A.st.length
  ·left
   subst hi
   rw[k4,List.getElem?_append_right (Nat.le_refl _),Nat.sub_self]
   have ho:=k2.obj A.st.length
   rw[k4,List.getElem?_append_right (Nat.le_refl _),Nat.sub_self]at ho
   simp only[List.getElem?_cons_zero,Option.join_some]at ho ⊢
   obtain⟨_,arr,t',fr,q1,q2,q3,q4,cf,q5⟩:=ho
   have ea:arr=Lib.bytesCells w e ⟨l.toArray⟩:=by
    have:=heap_alloc_new w.drew (.cells (Lib.bytesCells w e ⟨l.toArray⟩) e)
    rw[hdz,q1]at this
    cases this
    rfl
   subst ea
   refine⟨rfl,_,_,_,hnew,.inr (Nat.le_refl _),q3,q4,cf,λq z hz=>?_⟩
   obtain⟨g1,g2,g3,g4⟩:=q5 q z hz
   exact⟨g1.mono hstep,g2,g3,g4⟩
  ·right
   exact⟨rfl,rfl,λow how=>hblk _ λe1=>hi (k2.inj i _ ow _ how k4 (by simpa[Own.blk]using e1))⟩
theorem CW (hr:eD P W0 o w C A a){s d e:TypeId}{x:Operand}{u:AV}{l:List UInt8}(ho:o.op= .convert s d x)(hx:Is P W0 o A x u)(hu:dN A.st u e (l.map da))(hs:elT P s=some e)(he:eH P e=some .u8)(h1:ae P e=1)(hd:bK P d=true):
  ∃r,(execOp a.eval o).run P w= .ok (.value r) w∧aC P w C (.str l) r:=by
 obtain⟨ad,cap,cf,hxe,y3,y4,y5⟩:=hu.cells hr.st (hx w C a hr)
 have hml:(l.map da).length=l.length:=List.length_map ..
 rw[hml]at hxe y5
 have hcap:l.length≤maxLen:=by
  have hv:=hx w C a hr
  rcases hu with h|⟨rfl,h⟩|⟨id,off,m,zs,rfl,h2,h3,h4⟩
  ·unfold AV.jS at h
   rw[←hml]
   split at h<;>cases h
   ·obtain⟨_,_,_,_,x1,x2,_⟩:=(hv.aD rfl).lx (.inl rfl)
    exact Nat.le_trans x1 x2
   ·obtain⟨_,_,_,_,x1,x2,_⟩:=(hv.aD rfl).lx (.inr (.inl rfl))
    exact Nat.le_trans x1 x2
   ·obtain⟨_,_,_,_,x1,x2,_⟩:=(hv.aD rfl).lx (.inr (.inr ⟨_,rfl⟩))
    exact Nat.le_trans x1 x2
  ·rw[←hml,h];exact Nat.zero_le _
  ·have hv':=hv.aD rfl
   rw[hxe]at hv'
   cases hv' with
   |row hm1 hm2=>omega
 have hc1:=run_convert_bytes_string (P:=P) w s d e ad l.length cap (bE hs) (iZ he) (dc hd)
 refine⟨.string ⟨l.toArray⟩,?_,.one rfl (.str hcap)⟩
 have hfold: ∀(l:List UInt8) (b:ByteArray),((l.map λc=>((c.toNat:Nat):Int)).foldl (λr n=>r.push (UInt8.ofNat n.toNat)) b)=⟨b.data++l.toArray⟩:=λl=>by
  induction l with
  |nil=>intro b;simp
  |cons c l ih=>
   intro b
   rw[List.map_cons,List.foldl_cons,ih]
   congr 1
   simp[ByteArray.push]
 have hrun:(Conv.bytesToString (.slice ad l.length cap)).run P w= .ok (.string ⟨l.toArray⟩) w:=by
  by_cases hl0:l=[]
  ·subst hl0
   cases ad with
   |none=>rfl
   |some ad=>
    have:=run_bytesToString (P:=P) w ad 0 cap [] (by
     have:=run_loadCells_list (P:=P) (w:=w) ad [] (by simp)
     simpa using this)
    exact(by simpa using this:(Conv.bytesToString (.slice (some ad) 0 cap)).run P w= .ok (.string ByteArray.empty) w)
  ·obtain⟨b,off,rfl,news,n1,n2,n3,n4⟩:=y5 (by cases l with|nil=>exact absurd rfl hl0|cons=>simp)
   have hnews:news=(l.map λc=>((c.toNat:Nat):Int)).map (Value.int .u8):=by
    rw[h1,Nat.mul_one]at n1
    refine List.ext_getElem? λi=>?_
    by_cases hi:i<l.length
    ·obtain⟨c,hc⟩: ∃c,l[i]?=some c:=⟨_,List.getElem?_eq_getElem hi⟩
     have hx:(l.map da)[i]?=some (da c):=by rw[List.getElem?_map,hc];rfl
     have hcf:cf i=[.int .u8 c.toNat]:=by
      have:=y3 i _ hx
      generalize cf i=z at this
      cases this
      rfl
     have:=n4 i _ hx 0 (.int .u8 c.toNat) (by rw[hcf];rfl)
     rw[h1,Nat.mul_one,Nat.add_zero]at this
     rw[this,List.getElem?_map,List.getElem?_map,hc]
     rfl
    ·rw[List.getElem?_eq_none (by omega),List.getElem?_eq_none (by simp;omega)]
   have hload:=run_loadCells_list (P:=P) (w:=w) ⟨b,off,none⟩ news (λj u hj=>by rw[Addr.add_lit];exact n2 j u hj)
   rw[h1,Nat.mul_one]at n1
   rw[n1]at hload
   rw[hnews]at hload
   have:=run_bytesToString (P:=P) w ⟨b,off,none⟩ l.length cap _ hload
   rw[this,hfold]
   simp
 simp[execOp,ho,hxe,hc1,hrun]
theorem Be {b:Nat}{arr:Array Value}{t':TypeId}{fr:Nat×Nat}(hb:w.heap[b]?=some (.cells arr t' fr))(hf:rb fr arr.size):
  ∃fr',(w.freeze ⟨b,arr.size,none⟩ 1).heap[b]?=some (.cells arr t' fr')∧rb fr' arr.size∧(∀k,k≠b→(w.freeze ⟨b,arr.size,none⟩ 1).heap[k]?=w.heap[k]?)∧(w.freeze ⟨b,arr.size,none⟩ 1).heap.size=w.heap.size:=by
 have hlt:=(Array.getElem?_eq_some_iff.1 hb).1
 have hbe:=(Array.getElem?_eq_some_iff.1 hb).2
 unfold World.freeze
 rw[if_neg (by decide)]
 simp only[Array.size_modify]
 refine⟨if fr.1==fr.2 then(arr.size,arr.size+1)else(min fr.1 arr.size,max fr.2 (arr.size+1)),?_,?_,λk hk=>?_,trivial⟩
 ·rw[Array.getElem?_eq_getElem (by simpa using hlt),Array.getElem_modify_self,hbe]
 ·unfold rb at *
  right
  split
  ·exact Nat.le_refl _
  ·rename_i h
   rcases hf with rfl|hf
   ·exact absurd (by decide:((0,0):Nat×Nat).1==((0,0):Nat×Nat).2) h
   ·simp only[]
    omega
 ·rw[Array.getElem?_modify,if_neg (λe=>hk e.symm)]
theorem tS (hr:eD P W0 o w C A a){s e:TypeId}{x:Operand}{id off m:Nat}{xs:List AV}(ho:o.op= .convert s s x)(hx:Is P W0 o A x (.row e id off m))(hs:elT P s=some e)(he:eH P e=some .u8)(h0:0<m)(hσ:A.st[id]?=some (some (.cells e xs)))(hm:off+m≤xs.length):
  ∃r w' C',(execOp a.eval o).run P w= .ok (.value r) w'∧Step w C w' C'∧aB P W0 w' C' (A.st.set id none)∧aC P w' C' (.sl e ((xs.drop off).take m)) r:=by
 have hv:=hx w C a hr
 obtain⟨b,base,room,arr,t',fr,m1,m2,mf,m3,m4,cf,m5⟩:=hr.st.cells hσ
 obtain⟨cap,hxe⟩: ∃cap,a.eval x= .slice (some ⟨b,base+off*ae P e,none⟩) m cap:=by
  have h1:=hv.aD rfl
  generalize a.eval x=y at h1 ⊢
  cases h1 with
  |row g1 g2 g3 g4=>
   obtain⟨b',base',room',e1,e2,e3⟩:=g4 _ m1
   cases e1
   exact⟨_,by rw[e2 (by omega)]⟩
 obtain⟨fr',f1,f2,f3,f4⟩:=Be (w:=w) m2 mf
 obtain⟨w',hw'⟩: ∃w',w'=w.freeze ⟨b,arr.size,none⟩ 1:=⟨_,rfl⟩
 rw[←hw']at f1 f3 f4
 have hcell: ∀ad:Addr,w'.cell? ad=w.cell? ad:=λad=>by
  unfold World.cell?
  by_cases hb:ad.block=b
  ·rw[hb,f1,m2]
  ·rw[f3 _ hb]
 have hstep:Step w C w' C:=by
  refine⟨Nat.le_refl _,λ_ _ _ h=>h,λb' i hst=>⟨hcell _,by rw[f4];exact hst.1,hst.2⟩,?_,?_,?_,by omega,λb' hb' hn=>⟨f3 _ λe1=>hn _ _ m1 (by simp[Own.blk,e1]),hn⟩⟩
  all_goals rw[hw'];unfold World.freeze;rw[if_neg (by decide)]
 have hst2:aB P W0 w' C A.st:=by
  refine hr.st.change hstep hr.st.low hr.st.nx hr.st.inj hr.st.dom λi=>?_
  by_cases hi:i=id
  ·left
   subst hi
   rw[hσ,Option.join_some,m1]
   refine⟨rfl,arr,t',fr',f1,f2,m3,m4,cf,λi x hx=>?_⟩
   obtain⟨q1,q2,q3,q4⟩:=m5 i x hx
   exact⟨q1.mono hstep,q2,q3,q4⟩
  ·right
   exact⟨rfl,rfl,λow how=>f3 _ λe1=>hi (hr.st.inj i _ ow _ how m1 (by simpa[Own.blk]using e1))⟩
 have hidl:=(List.getElem?_eq_some_iff.1 hσ).1
 obtain⟨k1,k2⟩:=hst2.kill id hidl
 refine⟨_,w',C.kill id,?_,hstep.trans k1,k2,kL hst2 (hv.mono hstep) hσ hm⟩
 have hsh:w.shape? b=some (t',arr.size):=by unfold World.shape?;rw[m2]
 rw[hxe,hw']
 simp[execOp,ho,hxe,convert,run_underlying (bE hs),run_underlying (iZ he),markStringish,hsh]
theorem zd (hr:eD P W0 o w C A a){t e:TypeId}{m:Nat}{ps:Array (Nat×Operand)}{qs:List (Nat×AV)}(ho:o.op= .buildSlice t m ps)(ht:elT P t=some e)(he:0<ae P e)(hz:bk P e=true)(hm:m*ae P e≤2^24)
  (hq:jx P W0 o A ps.toList qs) (hk:qs.map (·.1)=List.range' 0 m) (hf: ∀p∈qs,fits P e p.2):
  ∃r w' C',(execOp a.eval o).run P w= .ok (.value r) w'∧Step w C w' C'∧aB P W0 w' C' (A.st++[some (.cells e (qs.map (·.2)))])∧aC P w' C' (.row e A.st.length 0 m) r:=by
 obtain⟨inf,z,hinf,hiz,_⟩:=eF hz
 have hsz:inf.size=ae P e:=by simp[ae,hinf]
 have hlen:qs.length=m:=by have:=congrArg List.length hk;simpa using this
 have hzv:(zeroValue e).run P w= .ok z w:=by simp[zeroValue,typeInfo,hinf,hiz]
 have hsv:(sizeOf e).run P w= .ok (ae P e) w:=by simp[sizeOf,typeInfo,hinf,hsz]
 have hbig: ¬m*ae P e>2^24:=by omega
 have hrun: ∀arr:Array Value,arr.size=m*ae P e→ ∃cells',Instr.fill (λi=>some (i*ae P e,ae P e)) arr (ps.toList.map λq=>(q.1,a.eval q.2))=some cells'∧cells'.size=arr.size∧(∀p,p<0*ae P e→cells'[p]?=arr[p]?)∧D8 P w C e 0 (qs.map (·.2)) cells':=
  λarr harr=>kT m qs (ps.toList.map λq=>(q.1,a.eval q.2)) 0 arr (by rw[hk,hlen]) (by simpa using hq.1) harr (by omega) (hq.rel hr) hf
 have e1:(Array.map (λx=>(x.1,a.eval x.2)) ps).toList=ps.toList.map λq=>(q.1,a.eval q.2):=by simp
 obtain⟨zc,hzc⟩: ∃zc:Array Value,zc=if m*ae P e=0 then #[]else z.cells:=⟨_,rfl⟩
 obtain⟨cells',f1,f2,_,cf,f4⟩:=hrun ((Array.range (m*ae P e)).map (zc[· % zc.size]!)) (by simp)
 have hl:(qs.map (·.2)).length=m:=by simpa using hlen
 have hmax:m≤maxLen:=by
  have:m*1≤m*ae P e:=Nat.mul_le_mul_left _ he
  unfold maxLen;omega
 have hsize:cells'.size=m*ae P e:=by simpa using f2
 obtain⟨C',k1,k2,k3,_⟩:=rN (P:=P) (W0:=W0) hr.st (e:=e) (zs:=qs.map (·.2)) (cap:=m) (arr:=cells') (cf:=cf) (by rw[hl];exact Nat.le_refl _) hmax hsize (λi x hx=>by
  have:=f4 i x hx
  rw[Nat.zero_add]at this
  exact⟨this.1,this.1.bB this.2.1,this.2.1,this.2.2⟩)
 rw[hl]at k3
 refine⟨_,_,C',?_,k1,k2,k3⟩
 simp only[execOp,ho,Instr.buildSlice,Sem.run_bind,Result.andThen_ok,run_underlying (bE ht),hsv,hbig,if_false,Sem.run_pure]
 by_cases h0:m*ae P e=0
 ·rw[if_pos h0]at hzc ⊢
  subst hzc
  simp only[Sem.run_bind,Sem.run_pure,Result.andThen_ok]
  rw[e1,f1]
  simp only[newRow,newObj,Sem.run_bind,Sem.run_pure]
  rfl
 ·rw[if_neg h0]at hzc ⊢
  subst hzc
  simp only[Sem.run_bind,Sem.run_pure,Result.andThen_ok,hzv]
  rw[e1,f1]
  simp only[newRow,newObj,Sem.run_bind,Sem.run_pure]
  rfl
end
end Go.Av
end
section
namespace Go.Av
open Go
section
variable {P :Program}{W0 w w':World}{C C':Ctx}{σ σ':ab}{n:Nat}{A:aa}{a:Act}{o:Oper}
theorem ny {t u e:TypeId}{i:TypeInfo}(ht:P.underlying t=some (.slice e))(hu:P.underlying u=some .string)(hi:P.info? e=some i)(ty:TypeId)(b:Option Addr)(l c:Nat){s:ByteArray}(hs:s.size=0)(hl:l≤c)(w:World):
  (Builtin.append_ #[t,u] ty #[.slice b l c,.string s]).run P w= .ok (.slice b l c) w:=by
 have he:s.data= #[]:=by
  have:s.data.size=0:=hs
  exact Array.eq_empty_of_size_eq_zero this
 cases b<;>simp[Builtin.append_,run_underlying ht,run_underlying hu,sizeOf,typeInfo,hi,Builtin.lenOf,hs,hl,Builtin.firstCells,he,loadCells,loadCellsFrom,storeCells]
theorem wu (hr:eD P W0 o w C A a){x y:Operand}{t u e:TypeId}{v:AV}{xs:List AV}{l:List UInt8}(ho:o.op= .call { callee:=.builtin .append,args:=#[x,y],argTypes:=#[t,u] })
  (hx:Is P W0 o A x v) (hy:Is P W0 o A y (.str l)) (ht:elT P t=some e) (hu:bK P u=true) (he8:eH P e=some .u8) (h1:ae P e=1) (hp:cj P e=true) (he:0<ae P e) (hz0:bk P e=true) (hb:Bld A.st v e xs)
  (hbytes:(xs.length+l.length)*bytesOf P e≤140737488355328) (hmax:xs.length+l.length≤maxLen):
  ∃r w' C' v' σ',(execOp a.eval o).run P w= .ok (.value r) w'∧App A.st v e (xs++l.map da) v' σ'∧Step w C w' C'∧aB P W0 w' C' σ'∧aC P w' C' v' r:=by
 obtain⟨inf,hinf,hsz⟩:=bu he
 have htu:=bE ht
 have hus:=dc hu
 have hrun: ∀b l c yv r w',(Builtin.append_ #[t,u] o.type #[.slice b l c,yv]).run P w= .ok r w'→a.eval x= .slice b l c→a.eval y=yv→(execOp a.eval o).run P w= .ok (.value r) w':=λb l c yv r w' h h1 h2=>by
  simp[execOp,ho,resolve,invoke,builtin,h1,h2,h]
 have hxv:=hx w C a hr
 obtain⟨hye,hlm⟩:=(hy w C a hr).fu
 obtain⟨s,hs⟩: ∃s:ByteArray,s=⟨l.toArray⟩:=⟨_,rfl⟩
 rw[←hs]at hye
 obtain⟨ys,hys⟩: ∃ys:List AV,ys=l.map da:=⟨_,rfl⟩
 have hyl0:ys.length=l.length:=by rw[hys,List.length_map]
 have hss:s.size=ys.length:=by rw[hs,hyl0];simp[ByteArray.size]
 rw[←hys]
 rw[←hyl0]at hbytes hmax
 obtain⟨cfy,hcfy⟩: ∃cfy:Nat→List Value,cfy=λi=>[.int .u8 ((l.getD i 0).toNat:Nat)]:=⟨_,rfl⟩
 have hgy: ∀(i:Nat) (x:AV),ys[i]?=some x→ ∃c,l[i]?=some c∧x=da c∧cfy i=[.int .u8 c.toNat]:=λi x hx=>by
  rw[hys,List.getElem?_map]at hx
  obtain⟨c,hc,rfl⟩:=Option.map_eq_some_iff.1 hx
  refine⟨c,hc,rfl,?_⟩
  rw[hcfy]
  simp only[List.getD_eq_getElem?_getD,hc,Option.getD_some]
 have y3: ∀(i:Nat) (x:AV),ys[i]?=some x→Rel P w C x (cfy i):=λi x hx=>by
  obtain⟨c,_,rfl,e1⟩:=hgy i x hx
  rw[e1];exact .int _ _
 have y4: ∀i x,ys[i]?=some x→(cfy i).length=ae P e∧fits P e x:=λi x hx=>by
  obtain⟨c,_,rfl,e1⟩:=hgy i x hx
  rw[e1];exact⟨by simp[h1],⟨rfl,hp⟩⟩
 obtain⟨bx,cx,hxe,hlx⟩: ∃b c,a.eval x= .slice b xs.length c∧xs.length≤c:=by
  rcases hb with⟨rfl,rfl⟩|rfl|⟨tok,rfl,_⟩
  ·exact⟨none,0,hxv.db,Nat.le_refl _⟩
  ·have:=hxv.aD rfl
   generalize a.eval x=v at this
   cases this with
   |lit=>exact⟨_,_,rfl,Nat.le_refl _⟩
  ·obtain⟨b,cap,cf,h1,h2,_⟩:=(hxv.aD rfl).rh
   exact⟨_,_,h1,h2⟩
 cases hyl:ys with
 |nil=>
  rw[hyl]at hss
  refine⟨_,w,C,v,A.st,hrun _ _ _ _ _ _ (ny htu hus hinf _ _ _ _ (by rw[hss];rfl) hlx w) hxe hye,⟨by simpa using hb,Nat.le_refl _,λ_ _ _=>rfl,.inl rfl⟩,.refl _ _,hr.st,by rw[←hxe];exact hxv⟩
 |cons y0 yr=>
  rw[←hyl]
  have hpos:0<ys.length:=by simp[hyl]
  obtain⟨news,hnews⟩: ∃news:List Value,news=Lib.strCells s:=⟨_,rfl⟩
  have n1:news.length=ys.length*ae P e:=by rw[hnews,Lib.strCells_length,hss,h1,Nat.mul_one]
  have n3: ∀u∈news,u.oneCell'=true:=by rw[hnews];exact Lib.strCells_oneCell s
  have n4: ∀i x,ys[i]?=some x→ ∀(j:Nat) (u:Value),(cfy i)[j]?=some u→news[i*ae P e+j]?=some u:=λi x hx j u hj=>by
   obtain⟨c,hc,rfl,e1⟩:=hgy i x hx
   rw[e1]at hj
   cases j with
   |succ j=>simp at hj
   |zero=>
    simp only[List.getElem?_cons_zero,Option.some.injEq]at hj
    subst hj
    rw[h1,Nat.mul_one,Nat.add_zero,hnews,hs]
    simp only[Lib.strCells,List.getElem?_map,hc,Option.map_some]
  have hsa:s.data.map (λb=>Value.int .u8 b.toNat)=news.toArray:=by rw[hnews];apply Array.ext';simp[Lib.strCells]
  obtain⟨inf',z0,hinf',hiz,hzs⟩:=eF hz0
  obtain rfl:inf'=inf:=by rw[hinf]at hinf';exact(Option.some.inj hinf').symm
  have hmax':xs.length+ys.length≤9223372036854775807:=by unfold maxLen at hmax;omega
  rw[j7 hinf]at hbytes
  rcases hb with⟨rfl,rfl⟩|rfl|⟨tok,rfl,htok⟩
  ·-- a nil slice
   simp only[List.length_nil,Nat.zero_add]at hbytes hmax hmax'
   have hxe':=hxv.db
   have hap:=run_append_nil_string (P:=P) w t u o.type e inf' z0 htu hus hinf hiz s (by omega) (by omega) (by rw[hss];omega)
   rw[hss,hsa]at hap
   have hge:=grownCap_ge w ys.length 0 e
   have hcap:=grownCap_le_maxLen w ys.length 0 e hmax
   obtain⟨C',g1,g2,g3⟩:=mB (P:=P) (W0:=W0) hr.st.drew (e:=e) (zs:=ys) (cap:=grownCap w ys.length 0 e) (arr:=news.toArray++Builtin.zeroCells z0.cells (grownCap w ys.length 0 e-ys.length)) (cf:=cfy) hge hcap
    (by simp only[Array.size_append,List.size_toArray,size_zeroCells,n1,hzs,←Nat.add_mul];congr 1;omega)
    (λi x hx=>⟨(y3 i x hx).mono (Step.drew w C),(y4 i x hx).1,(y4 i x hx).2,λj u hj=>by
     have:=n4 i x hx j u hj
     rw[Array.getElem?_append_left (by simpa using (List.getElem?_eq_some_iff.1 this).1)]
     simpa using this⟩)
   refine⟨_,_,C',_,_,hrun _ _ _ _ _ _ hap hxe' hye,⟨.inr (.inr ⟨_,rfl,by simp⟩),by simp,λid hid _=>by rw[List.getElem?_append_left hid],.inr ⟨_,rfl,Nat.le_refl _⟩⟩,(Step.drew w C).trans g1,g2,g3⟩
  ·-- a list as long as its row
   obtain⟨adx,capx,cfx,hxq,x1,x2,x3,x4,x5⟩:=(hxv.aD rfl).lx (.inr (.inl rfl))
   have hcx:capx=xs.length:=by
    have:=hxv.aD rfl
    rw[hxq]at this
    cases this
    rfl
   subst hcx
   have hlen:(xs++ys).length=xs.length+ys.length:=by simp
   have hgetl: ∀i x,(xs++ys)[i]?=some x→(i<xs.length∧xs[i]?=some x)∨(xs.length≤i∧ys[i-xs.length]?=some x):=λi x hx=>by
    by_cases hi:i<xs.length
    ·rw[List.getElem?_append_left hi]at hx;exact .inl ⟨hi,hx⟩
    ·rw[List.getElem?_append_right (by omega)]at hx;exact .inr ⟨by omega,hx⟩
   have hge:=grownCap_ge w (xs.length+ys.length) xs.length e
   have hcap:=grownCap_le_maxLen w (xs.length+ys.length) xs.length e hmax
   have fin: ∀(olds:List Value),olds.length=xs.length*ae P e→(∀i x,xs[i]?=some x→ ∀(j:Nat) (u:Value),(cfx i)[j]?=some u→olds[i*ae P e+j]?=some u)→
     (Builtin.append_ #[t,u] o.type #[.slice adx xs.length xs.length,a.eval y]).run P w= .ok (.slice (some ⟨w.heap.size,0,none⟩) (xs.length+ys.length) (grownCap w (xs.length+ys.length) xs.length e)) (w.drew.alloc (.cells (olds.toArray++news.toArray++Builtin.zeroCells z0.cells (grownCap w (xs.length+ys.length) xs.length e-(xs.length+ys.length))) e))→
     ∃r w' C' v' σ',(execOp a.eval o).run P w= .ok (.value r) w'∧App A.st (.lit e xs) e (xs++ys) v' σ'∧Step w C w' C'∧aB P W0 w' C' σ'∧aC P w' C' v' r:=λolds p1 p4 hap=>by
    obtain⟨C',g1,g2,g3⟩:=mB (P:=P) (W0:=W0) hr.st.drew (e:=e) (zs:=xs++ys) (cap:=grownCap w (xs.length+ys.length) xs.length e)
     (arr:=olds.toArray++news.toArray++Builtin.zeroCells z0.cells (grownCap w (xs.length+ys.length) xs.length e-(xs.length+ys.length))) (cf:=λi=>if i<xs.length then cfx i else cfy (i-xs.length)) (by rw[hlen];exact hge) hcap
     (by simp only[Array.size_append,List.size_toArray,size_zeroCells,p1,n1,hzs,←Nat.add_mul];congr 1;omega)
     (λi x hx=>by
      rcases hgetl i x hx with⟨hi,hx'⟩|⟨hi,hx'⟩
      ·simp only[hi,if_true]
       refine⟨(x3 i x hx').mono (Step.drew w C),(x4 i x hx').1,(x4 i x hx').2,λj u hj=>?_⟩
       have:=p4 i x hx' j u hj
       have hl:=(List.getElem?_eq_some_iff.1 this).1
       rw[Array.getElem?_append_left (by simp;omega),Array.getElem?_append_left (by simpa using hl)]
       simpa using this
      ·simp only[show ¬i<xs.length by omega,if_false]
       refine⟨(y3 _ x hx').mono (Step.drew w C),(y4 _ x hx').1,(y4 _ x hx').2,λj u hj=>?_⟩
       have:=n4 _ x hx' j u hj
       have hl:=(List.getElem?_eq_some_iff.1 this).1
       have hmul:i*ae P e=xs.length*ae P e+(i-xs.length)*ae P e:=by rw[←Nat.add_mul];congr 1;omega
       rw[Array.getElem?_append_left (by simp;omega),Array.getElem?_append_right (by simp;omega)]
       simp only[List.size_toArray,p1,List.getElem?_toArray]
       rw[show i*ae P e+j-xs.length*ae P e=(i-xs.length)*ae P e+j by omega]
       exact this)
    rw[hlen]at g3
    exact⟨_,_,C',_,_,hrun _ _ _ _ _ _ hap hxq rfl,⟨.inr (.inr ⟨_,rfl,by simp⟩),by simp,λid hid _=>by rw[List.getElem?_append_left hid],.inr ⟨_,rfl,Nat.le_refl _⟩⟩,(Step.drew w C).trans g1,g2,g3⟩
   rw[hye]at fin
   cases adx with
   |none=>
    have hx0:xs=[]:=by
     cases xs with
     |nil=>rfl
     |cons c r=>obtain⟨b,off,e1,_⟩:=x5 (by simp);cases e1
    subst hx0
    simp only[List.length_nil,Nat.zero_add]at hbytes hmax hmax' fin
    have hap:=run_append_nil_string (P:=P) w t u o.type e inf' z0 htu hus hinf hiz s (by omega) (by omega) (by rw[hss];omega)
    rw[hss,hsa]at hap
    exact fin [] (by simp) (by simp) (by simpa using hap)
   |some b0=>
    have hcells: ∃olds:List Value,olds.length=xs.length*ae P e∧(∀(j:Nat) (u:Value),olds[j]?=some u→w.cell? (b0.add j)=some u)∧ ∀i x,xs[i]?=some x→ ∀(j:Nat) (u:Value),(cfx i)[j]?=some u→olds[i*ae P e+j]?=some u:=by
     by_cases hxl:xs=[]
     ·subst hxl;exact⟨[],by simp,by simp,by simp⟩
     ·have hxp:0<xs.length:=by cases xs with|nil=>exact absurd rfl hxl|cons=>simp
      obtain⟨bx',ox',e1,x6⟩:=x5 hxp
      cases e1
      obtain⟨olds,p1,p2,p3,p4⟩:=gx x3 x4 x6
      exact⟨olds,p1,λj u hj=>by rw[Addr.add_lit];exact p2 j u hj,p4⟩
    obtain⟨olds,p1,p2,p4⟩:=hcells
    have hap:=Lib.run_append_grow_string (P:=P) w t u o.type e inf' z0 htu hus hinf hiz b0 xs.length xs.length olds (by rw[p1,hsz]) p2 s (by omega) (by rw[hss];omega) (by rw[hss];exact growslice_fits (by omega) hbytes)
    rw[hss,←hnews]at hap
    exact fin olds p1 p4 hap
  ·-- a row of the call's own
   obtain⟨b,cap,cf,hxq,c1,c2,c3,c4,c5,c6⟩:=(hxv.aD rfl).rh
   obtain⟨b',e',hw,cap',arr,t1,t2,t3,t4⟩:=hr.st.tok htok
   have t5:=c6 _ t1
   cases t5
   have htl:tok<A.st.length:=(List.getElem?_eq_some_iff.1 htok).1
   have hlen:(xs++ys).length=xs.length+ys.length:=by simp
   have hgetl: ∀i x,(xs++ys)[i]?=some x→(i<xs.length∧xs[i]?=some x)∨(xs.length≤i∧ys[i-xs.length]?=some x):=λi x hx=>by
    by_cases hi:i<xs.length
    ·rw[List.getElem?_append_left hi]at hx;exact .inl ⟨hi,hx⟩
    ·rw[List.getElem?_append_right (by omega)]at hx;exact .inr ⟨by omega,hx⟩
   have hxcells: ∀(i:Nat) (x:AV),xs[i]?=some x→ ∀(j:Nat) (u:Value),(cf i)[j]?=some u→arr[i*ae P e+j]?=some u∧i*ae P e+j<xs.length*ae P e:=λi x hx j u hj=>by
    have hi:=(List.getElem?_eq_some_iff.1 hx).1
    obtain⟨b2,o2,e2,hc⟩:=c5 (by omega)
    cases e2
    have h1:=(hc i hi j u hj).1
    simp only[World.cell?,t2,Nat.zero_add,Option.isSome_none,Bool.false_eq_true,if_false]at h1
    have hjl:j<ae P e:=by rw[←(c4 i x hx).1];exact(List.getElem?_eq_some_iff.1 hj).1
    have:(i+1)*ae P e≤xs.length*ae P e:=Nat.mul_le_mul_right _ hi
    rw[Nat.succ_mul]at this
    exact⟨h1,by omega⟩
   by_cases hroom:xs.length+ys.length≤cap
   ·-- in place
    have hfit:xs.length*ae P e+news.length≤arr.size:=by rw[n1,t3,←Nat.add_mul];exact Nat.mul_le_mul_right _ hroom
    have hap:=Lib.run_append_room_string (P:=P) w t u o.type e inf' htu hus hinf (by rw[hsz];exact h1) b xs.length cap arr t2 s (by rw[hss];exact hroom) (by rw[hss];rw[n1,h1]at hfit;omega)
    rw[hss,←hnews]at hap
    have hsp:(arr.toList.take xs.length++news++arr.toList.drop (xs.length+ys.length)).toArray=bm arr (xs.length*ae P e) news:=by
     unfold bm
     rw[n1,h1,Nat.mul_one,Nat.mul_one]
    rw[hsp]at hap
    obtain⟨C',g1,g2,g3,g4,g5⟩:=xF hr.st htok t1 t2 t3 hfit
    have hnewcell: ∀i,(w.setRow b (bm arr (xs.length*ae P e) news)).cell? ⟨b,i,none⟩=(bm arr (xs.length*ae P e) news)[i]?:=λi=>cell_setRow_same w b i arr _ e _ t2
    refine⟨_,_,C',.own e (xs++ys) A.st.length,_,hrun _ _ _ _ _ _ hap hxq hye,⟨.inr (.inr ⟨_,rfl,by simp⟩),by simp,λid hid hne=>?_,.inr ⟨_,rfl,Nat.le_refl _⟩⟩,g1,g2,?_⟩
    ·rw[List.getElem?_append_left (by simpa using hid),List.getElem?_set_ne (λe=>hne (by simp[eA,e]))]
    ·rw[←hlen]
     refine .one rfl (.own (λi=>if i<xs.length then cf i else cfy (i-xs.length)) (by rw[hlen];exact hroom) c2 (λi x hx=>?_) (λi x hx=>?_) (λ_=>⟨b,0,rfl,λi hi j u hj=>?_⟩) (by rw[g3];omega) (λow how=>?_))
     ·rcases hgetl i x hx with⟨hi,hx'⟩|⟨hi,hx'⟩
      ·rw[if_pos hi];exact(c3 i x hx').mono g1
      ·rw[if_neg (by omega)];exact(y3 _ x hx').mono g1
     ·rcases hgetl i x hx with⟨hi,hx'⟩|⟨hi,hx'⟩
      ·simp only[hi,if_true];exact c4 i x hx'
      ·simp only[show ¬i<xs.length by omega,if_false];exact y4 _ x hx'
     ·have hst: ∀k,k<xs.length*ae P e+news.length→er (w.setRow b (bm arr (xs.length*ae P e) news)) C' b k:=λk hk=>
       ⟨by simpa using (Array.getElem?_eq_some_iff.1 t2).1,λid ow hm hbk=>⟨_,_,_,g5 id ow hm hbk,hk⟩⟩
      rw[hnewcell,Nat.zero_add,bp hfit]
      by_cases hix:i<xs.length
      ·simp only[hix,if_true]at hj
       obtain⟨q1,q2⟩:=hxcells i _ (List.getElem?_eq_getElem hix) j u hj
       rw[if_neg (by omega)]
       exact⟨q1,hst _ (by omega)⟩
      ·simp only[hix,if_false]at hj
       rw[hlen]at hi
       have hyi:=List.getElem?_eq_getElem (show i-xs.length<ys.length by omega)
       have hnw:=n4 _ _ hyi j u hj
       have hnl:=(List.getElem?_eq_some_iff.1 hnw).1
       have hmul:i*ae P e=xs.length*ae P e+(i-xs.length)*ae P e:=by rw[←Nat.add_mul];congr 1;omega
       rw[if_pos (by omega),show i*ae P e+j-xs.length*ae P e=(i-xs.length)*ae P e+j by omega]
       exact⟨hnw,hst _ (by omega)⟩
     ·rw[g4]at how
      cases how
      rw[n1,hlen,Nat.add_mul]
   ·-- a new row
    obtain⟨olds,p1,p2,p3,p4⟩:=gx (P:=P) (e:=e) (b:=b) (off:=0) c3 c4 (λi hi=>by
     obtain⟨b2,o2,e2,hc⟩:=c5 (by omega)
     cases e2
     exact hc i hi)
    have hap:=Lib.run_append_grow_string (P:=P) w t u o.type e inf' z0 htu hus hinf hiz ⟨b,0,none⟩ xs.length cap olds (by rw[p1,hsz]) (λj u hj=>by rw[Addr.add_lit];exact p2 j u hj) s (by omega) (by rw[hss];omega) (by rw[hss];exact growslice_fits (by omega) hbytes)
    rw[hss,←hnews]at hap
    have hge:=grownCap_ge w (xs.length+ys.length) cap e
    have hcap:=grownCap_le_maxLen w (xs.length+ys.length) cap e hmax
    obtain⟨k1,k2⟩:=hr.st.kill tok htl
    obtain⟨C',g1,g2,g3⟩:=mB (P:=P) (W0:=W0) k2.drew (e:=e) (zs:=xs++ys) (cap:=grownCap w (xs.length+ys.length) cap e)
     (arr:=olds.toArray++news.toArray++Builtin.zeroCells z0.cells (grownCap w (xs.length+ys.length) cap e-(xs.length+ys.length))) (cf:=λi=>if i<xs.length then cf i else cfy (i-xs.length)) (by rw[hlen];exact hge) hcap
     (by simp only[Array.size_append,List.size_toArray,size_zeroCells,p1,n1,hzs,←Nat.add_mul];congr 1;omega)
     (λi x hx=>by
      have hs:=k1.trans (Step.drew w _)
      rcases hgetl i x hx with⟨hi,hx'⟩|⟨hi,hx'⟩
      ·simp only[hi,if_true]
       refine⟨(c3 i x hx').mono hs,(c4 i x hx').1,(c4 i x hx').2,λj u hj=>?_⟩
       have:=p4 i x hx' j u hj
       have hl:=(List.getElem?_eq_some_iff.1 this).1
       rw[Array.getElem?_append_left (by simp;omega),Array.getElem?_append_left (by simpa using hl)]
       simpa using this
      ·simp only[show ¬i<xs.length by omega,if_false]
       refine⟨(y3 _ x hx').mono hs,(y4 _ x hx').1,(y4 _ x hx').2,λj u hj=>?_⟩
       have:=n4 _ x hx' j u hj
       have hl:=(List.getElem?_eq_some_iff.1 this).1
       have hmul:i*ae P e=xs.length*ae P e+(i-xs.length)*ae P e:=by rw[←Nat.add_mul];congr 1;omega
       rw[Array.getElem?_append_left (by simp;omega),Array.getElem?_append_right (by simp;omega)]
       simp only[List.size_toArray,p1,List.getElem?_toArray]
       rw[show i*ae P e+j-xs.length*ae P e=(i-xs.length)*ae P e+j by omega]
       exact this)
    rw[hlen]at g3
    rw[List.length_set]at g3
    refine⟨_,_,C',_,_,hrun _ _ _ _ _ _ hap hxq hye,⟨.inr (.inr ⟨A.st.length,rfl,by simp⟩),by simp,λid hid hne=>?_,.inr ⟨_,rfl,Nat.le_refl _⟩⟩,(k1.trans (Step.drew w _)).trans g1,g2,g3⟩
    rw[List.getElem?_append_left (by simpa using hid),List.getElem?_set_ne (λe=>hne (by simp[eA,e]))]
end
end Go.Av
end
section
namespace Go.Av
open Go
section
variable {P :Program}{W0 w w':World}{C C':Ctx}{σ σ':ab}{n:Nat}{A:aa}{a:Act}{o:Oper}{fz:List Nat}{K:aa→Prop}
theorem cB {v:Value}(hrun:(execOp a.eval o).run P w= .ok (.value v) w'){next:Act→World→Prop}{Qx:Exit→Act→World→Prop}(h:next (a.put o.dst v) w'):o.wp P a w next Qx:=by
 unfold Oper.wp
 rw[hrun]
 exact h
theorem mc (hrun:(execOp a.eval o).run P w= .ok .skip w'){next:Act→World→Prop}{Qx:Exit→Act→World→Prop}(h:next (a.put o.dst undef) w'):o.wp P a w next Qx:=by
 unfold Oper.wp
 rw[hrun]
 exact h
theorem bO {x:Operand}(hm:x∈o.op.operands){k:AV→Prop}(h:strip none (A.val x) k): ∃u,k u∧Is P W0 o A x u:=aT (gd:=none) hm h
theorem lI {xs:List Operand}(hm: ∀x∈xs,x∈o.op.operands){k:List AV→Prop}(h:stripL none (xs.map A.val) k): ∃us,k us∧IsL P W0 o A xs us:=gj (gd:=none) _ _ hm h
theorem AO (hr:bL P W0 n w C A a)(hd:ir n o.dst){t:TypeId}{x y:Operand}{u v:AV}(ho:o.op= .store t x y)(hx:Is P W0 o A x u)(hy:Is P W0 o A y v)
  (h:kA P fz A t x u v λA'=>K (A'.put o.dst .undef)) {next:Act→World→Prop} {Qx:Exit→Act→World→Prop}
  (hn: ∀A' C' a' w',K A'→bL P W0 n w' C' A' a'→Step w C w' C'→next a' w'):o.wp P a w next Qx:=by
 unfold kA at h
 split at h
 ·obtain⟨⟨rfl,hf⟩,h⟩:=h
  rename_i t' id i path
  split at h
  ·rename_i te xs hs
   split at h
   ·rename_i z hz
    split at h
    ·rename_i y0 hy0
     split at h
     ·rename_i d
      have hl:look A.st id i path=some y0:=by simp[look,hs,hz,hy0]
      obtain⟨w',r1,r2,r3⟩:=ql (hr.toO o) ho hx hy hl (eT hf) hs hz
      have hidl:id<A.st.length:=(List.getElem?_eq_some_iff.1 hs).1
      split at h
      ·-- given up
       obtain⟨rfl,h⟩:=h
       have hzz:z=y0:=by cases z<;>simpa[AV.at]using hy0
       subst hzz
       have hi:i<xs.length:=(List.getElem?_eq_some_iff.1 hz).1
       have hset:z.setAt [] v=v:=by cases z<;>rfl
       rw[hset]at r3
       have hs':(A.st.set id (some (.cells te (xs.set i v))))[id]?=some (some (.cells te (xs.set i v))):=by simp[hidl]
       have hv:=(hx w C a (hr.toO o)).mono r2
       have hfr:=kV (x:=v) r3 hv hs' (by simp[hi])
       obtain⟨k1,k2⟩:=r3.kill id (by simpa using hidl)
       rw[List.set_set]at k2
       have hr1:=hr.step (r2.trans k1) k2
       have hdn:d<n:=by
        by_cases hdn:d<n
        ·exact hdn
        ·have hle:a.tmps.size≤d:=by rw[hr.size];exact Nat.le_of_not_lt hdn
         have:a.eval (.tmp d)=undef:=by
          show a.tmps.getD d undef=undef
          rw[Array.getD_eq_getD_getElem?,Array.getElem?_eq_none hle]
          rfl
         rw[this]at hfr
         obtain⟨_,_,_,e,_⟩:=hfr.oN
         cases e
       have hr2:bL P W0 n w' (C.kill id) ((A.upd d (.loc t' v)).al (A.st.set id none)) a:=by
        refine⟨λj=>?_,hr1.defers,hr1.size,hr1.st⟩
        by_cases hj:j=d
        ·subst hj
         have hfr':aC P w' (C.kill id) (.loc t' v) (a.tmps.getD j undef):=hfr
         simpa[aa.upd,aa.al]using hfr'
        ·have:=hr1.env j;simpa[aa.upd,aa.al,hj]using this
       have hr3:=kK (o:=o) (v:=.undef) (x:=undef) hr2 hd (.undef _)
       exact mc r1 (hn _ _ _ _ h hr3 (r2.trans k1))
      ·have hr1:=hr.step r2 r3
       have hr3:=kK (o:=o) (v:=.undef) (x:=undef) hr1 hd (.undef _)
       exact mc r1 (hn _ _ _ _ h hr3 r2)
     ·exact h.elim
    ·exact h.elim
   ·exact h.elim
  ·exact h.elim
 ·exact h.elim
def DZ (fz:List Nat):Op→Prop
 | .store _ (.tmp d) _=>fz.contains d=false
 |_=>True
theorem yf (hr:eD P W0 o w C A a){t:TypeId}{x y:Operand}{u v:AV}(ho:o.op= .store t x y)(hnf:DZ fz (.store t x y))(hx:Is P W0 o A x u)(hy:Is P W0 o A y v)
  (h:kA P fz A t x u v λA'=>K (A'.put o.dst .undef)) {next:Act→World→Prop} {Qx:Exit→Act→World→Prop}
  (hn: ∀v x σ' w' C',K ((A.put o.dst v).al σ')→aC P w' C' v x→aB P W0 w' C' σ'→Step w C w' C'→next (a.put o.dst x) w'):o.wp P a w next Qx:=by
 unfold kA at h
 split at h
 ·obtain⟨⟨rfl,hf⟩,h⟩:=h
  rename_i t' id i path
  split at h
  ·rename_i te xs hs
   split at h
   ·rename_i z hz
    split at h
    ·rename_i y0 hy0
     split at h
     ·rename_i d
      have hl:look A.st id i path=some y0:=by simp[look,hs,hz,hy0]
      obtain⟨w',r1,r2,r3⟩:=ql hr ho hx hy hl (eT hf) hs hz
      rw[if_neg (by simp only[DZ]at hnf;rw[hnf];simp)]at h
      refine mc r1 (hn .undef undef _ w' C ?_ (.undef _) r3 r2)
      have e: ∀σ,(A.al σ).put o.dst .undef=(A.put o.dst .undef).al σ:=λσ=>by cases o.dst<;>rfl
      rw[←e];exact h
     ·exact h.elim
    ·exact h.elim
   ·exact h.elim
  ·exact h.elim
 ·exact h.elim
theorem sv (hr:eD P W0 o w C A a)(hnf:DZ fz o.op)(h:tZ P W0 n fz o A K){next:Act→World→Prop}{Qx:Exit→Act→World→Prop}
  (hn: ∀v x σ' w' C',K ((A.put o.dst v).al σ')→aC P w' C' v x→aB P W0 w' C' σ'→Step w C w' C'→next (a.put o.dst x) w'):o.wp P a w next Qx:=by
 have hval:jm P W0 none o.op A (λv=>K (A.put o.dst v))→o.wp P a w next Qx:=λh=>by
  obtain⟨v,hK,hp⟩:=fJ hr h
  exact hp w C a hr _ _ λx w' hv hs hst=>hn v x A.st w' C (by
   have e:(A.put o.dst v).al A.st=A.put o.dst v:=by cases o.dst<;>rfl
   rw[e];exact hK) hv hst hs
 obtain⟨hd,h⟩:=h
 split at h
 ·rename_i c hc
  obtain⟨callee,args,argTypes⟩:=c
  split at h
  ·rename_i f hf
   simp only at hf
   subst hf
   obtain⟨fv,h,hfv⟩:=bO (P:=P) (W0:=W0) (o:=o) (by simp[*,Op.operands,Call.operands]) h
   obtain⟨us,h,hus⟩:=lI (P:=P) (W0:=W0) (o:=o) (λy hy=>by simp[*,Op.operands,Call.operands];simp at hy;simp[hy]) h
   split at h
   ·refine zD hr hc hfv hus h (λv r σ' w' C' hK hst hv hs=>hn r v σ' w' C' hK hv hst hs)
   ·exact h.elim
  ·rename_i hf
   simp only at hf
   subst hf
   obtain⟨us,h2,hus⟩:=lI (P:=P) (W0:=W0) (o:=o) (λy hy=>by simp[*,Op.operands,Call.operands];simp at hy;simp[hy]) h
   clear h
   split at h2
   ·obtain⟨x,y,hxy,hx,hy⟩:=nn hus
    simp only at hxy
    subst hxy
    rcases h2 with h2|h2|h2|h2|h2|h2
    ·unfold oJ at h2
     split at h2
     ·rename_i ts t u hts
      obtain rfl:argTypes= #[t,u]:=by rw[←Array.toArray_toList (xs:=argTypes)];simp only at hts;rw[hts]
      obtain⟨e,xs,ys,⟨h1,h2,h3,h4⟩,h5,h6,h7,h8,h9⟩:=h2
      obtain⟨r,w',C',v',σ',g1,g2,g3,g4,g5⟩:=Dm hr hc hx hy h1 h2 h3 h4 h5 h6 h7 h8
      exact cB g1 (hn v' r σ' w' C' (h9 v' σ' g2) g5 g4 g3)
     ·exact h2.elim
    ·unfold jO at h2
     split at h2
     ·rename_i ts t u hts
      obtain rfl:argTypes= #[t,u]:=by rw[←Array.toArray_toList (xs:=argTypes)];simp only at hts;rw[hts]
      obtain⟨e,xs,ys,⟨h1,h2,h3,h4⟩,h5,h6,h7,h8,h9,h10⟩:=h2
      obtain⟨r,w',C',v',σ',g1,g2,g3,g4,g5⟩:=wR hr hc hx hy h1 h2 h3 h4 h5 h6 h7 h8
      refine cB g1 (hn v' r σ' w' C' ?_ g5 g4 g3)
      rcases g2 with⟨e1,rfl,rfl⟩|⟨e1,rfl,rfl⟩
      ·exact h9 e1
      ·exact h10 e1
     ·exact h2.elim
    ·unfold iE at h2
     split at h2
     ·rename_i ts t u hts
      obtain rfl:argTypes= #[t,u]:=by rw[←Array.toArray_toList (xs:=argTypes)];simp only at hts;rw[hts]
      obtain⟨e,m,z,k,kn,⟨rfl,rfl⟩,⟨h1,h2,h3,h4,h5⟩,h6,h7,h8,h9⟩:=h2
      obtain⟨r,w',C',g1,g2,g3,g4⟩:=tG hr hc hx hy h1 h2 h3 h5 h6 h7 h8
      exact cB g1 (hn _ r _ w' C' h9 g4 g3 g2)
     ·exact h2.elim
    ·unfold kC at h2
     split at h2
     ·rename_i ts t u hts
      obtain rfl:argTypes= #[t,u]:=by rw[←Array.toArray_toList (xs:=argTypes)];simp only at hts;rw[hts]
      obtain⟨e,id,off,m,zs,ys,⟨h1,h2,h3⟩,rfl,h4,h5,h6,h7⟩:=h2
      obtain⟨r,w',g1,g2,g3,g4⟩:=xk hr hc hx hy h1 h2 h3 h4 h5 h6
      exact cB g1 (hn _ r _ w' C h7 g4 g3 g2)
     ·exact h2.elim
    ·unfold iH at h2
     split at h2
     ·rename_i ts t u hts
      obtain rfl:argTypes= #[t,u]:=by rw[←Array.toArray_toList (xs:=argTypes)];simp only at hts;rw[hts]
      obtain⟨e,id,off,m,zs,ys,⟨h1,h2,h3,h4⟩,rfl,h5,h6,h7,h8,h9,h10,h11⟩:=h2
      obtain⟨r,w',C',v',σ',g1,g5,g2,g3,g4⟩:=tT hr hc hx hy h1 h2 h3 h4 h5 h6 h7 h8 h9
      rcases g5 with⟨rfl,rfl⟩|⟨rfl,rfl⟩
      ·exact cB g1 (hn _ r _ w' C' h10 g4 g3 g2)
      ·exact cB g1 (hn _ r _ w' C' h11 g4 g3 g2)
     ·exact h2.elim
    ·unfold ju at h2
     split at h2
     ·rename_i ts t u hts
      obtain rfl:argTypes= #[t,u]:=by rw[←Array.toArray_toList (xs:=argTypes)];simp only at hts;rw[hts]
      obtain⟨e,xs,l,⟨h1,h3,h4,h5,h6,h7⟩,h8,rfl,h9,h10,h11⟩:=h2
      obtain⟨r,w',C',v',σ',g1,g5,g2,g3,g4⟩:=wu hr hc hx hy h1 h3 h4 h5 h6 (by rw[h5];decide) h7 h8 h9 h10
      exact cB g1 (hn _ r _ w' C' (h11 v' σ' g5) g4 g3 g2)
     ·exact h2.elim
   ·exact h2.elim
  ·rename_i hf
   simp only at hf
   subst hf
   obtain⟨us,h2,hus⟩:=lI (P:=P) (W0:=W0) (o:=o) (λy hy=>by simp[*,Op.operands,Call.operands];simp at hy;simp[hy]) h
   clear h
   split at h2
   ·obtain⟨x,hxy,hx⟩:=gw hus
    simp only at hxy
    subst hxy
    unfold ry at h2
    split at h2
    ·rename_i ts t hts
     obtain rfl:argTypes= #[t]:=by rw[←Array.toArray_toList (xs:=argTypes)];simp only at hts;rw[hts]
     obtain⟨e,id,off,m,zs,v,⟨h1,h2,h3⟩,rfl,h4,h5,h6⟩:=h2
     obtain⟨r,w',g1,g2,g3,g4⟩:=Ge hr hc hx h1 h2 h3 h4 h5
     exact cB g1 (hn _ r _ w' C h6 g4 g3 g2)
    ·exact h2.elim
   ·exact h2.elim
  ·exact hval h
 ·rename_i t x hop
  split at h
  ·rename_i d hdst
   split at h
   ·obtain⟨v,h,hv⟩:=bO (P:=P) (W0:=W0) (o:=o) (by simp[*,Op.operands]) h
    exact(GM hop hv (eT h.1)).pure w C a hr _ _ λx w' hv hs hst=>hn _ x A.st w' C (by
     have e:(A.put o.dst (.loc t v)).al A.st=A.put o.dst (.loc t v):=by cases o.dst<;>rfl
     rw[e,hdst];exact h.2) hv hst hs
   ·obtain⟨v,h,hv⟩:=bO (P:=P) (W0:=W0) (o:=o) (by simp[*,Op.operands]) h
    obtain⟨y,w',C',g1,g2,g3,g4⟩:=Ic hr hop hv (eT h.1)
    exact cB g1 (hn _ y _ w' C' (by rw[hdst];exact h.2) g2 g4 g3)
  ·exact h.elim
 ·rename_i t hop
  split at h
  ·rename_i v hz
   obtain⟨y,w',C',g1,g2,g3,g4⟩:=CT hr hop hz
   exact cB g1 (hn _ y _ w' C' h g2 g4 g3)
  ·exact h.elim
 ·rename_i t x y hop
  obtain⟨u,h,hu⟩:=bO (P:=P) (W0:=W0) (o:=o) (by simp[*,Op.operands]) h
  obtain⟨v,h,hv⟩:=bO (P:=P) (W0:=W0) (o:=o) (by simp[*,Op.operands]) h
  unfold vT at h
  split at h
  ·obtain⟨rfl,h⟩:=h
   split at h
   ·rename_i e he
    split at h
    ·rename_i z hz
     obtain⟨h1,h2,h3,h4,h5⟩:=h
     obtain⟨r,w',C',g1,g2,g3,g4⟩:=vI hr hop hu hv he hz h1 h2 h3 h4
     exact cB g1 (hn _ r _ w' C' h5 g4 g3 g2)
    ·exact h.elim
   ·exact h.elim
  ·exact h.elim
 ·rename_i t x y hop
  obtain⟨u,h,hu⟩:=bO (P:=P) (W0:=W0) (o:=o) (by simp[*,Op.operands]) h
  obtain⟨v,h,hv⟩:=bO (P:=P) (W0:=W0) (o:=o) (by simp[*,Op.operands]) h
  exact yf hr hop (by rw[hop]at hnf;exact hnf) hu hv h hn
 ·rename_i t x hop
  obtain⟨ht,h⟩:=h
  obtain⟨u,h,hu⟩:=bO (P:=P) (W0:=W0) (o:=o) (by simp[*,Op.operands]) h
  split at h
  ·obtain⟨y,w',C',g1,g2,g3,g4⟩:=FO hr hop hu (dc ht)
   exact cB g1 (hn _ y _ w' C' h g2 g4 g3)
  ·exact h.elim
 ·rename_i x hop
  obtain⟨u,h,hu⟩:=bO (P:=P) (W0:=W0) (o:=o) (by simp[*,Op.operands]) h
  split at h
  ·split at h
   ·rename_i l pos hs
    rcases Nat.lt_or_ge pos l.length with hp|hp
    ·obtain⟨y,w',g1,g2,g3,g4⟩:=Db hr hop hu hs hp
     exact cB g1 (hn _ y _ w' C (h.1 hp) g2 g4 g3)
    ·obtain⟨y,g1,g2⟩:=CP hr hop hu hs hp
     exact cB g1 (hn _ y A.st w C (by
      have e:(A.put o.dst (.tup [.bool false])).al A.st=A.put o.dst (.tup [.bool false]):=by cases o.dst<;>rfl
      rw[e];exact h.2 hp) g2 hr.st (.refl _ _))
   ·exact h.elim
  ·exact h.elim
 ·rename_i t x lo hi mx hop
  rcases h with h|h
  ·exact hval h
  obtain⟨u,h,hu⟩:=bO (P:=P) (W0:=W0) (o:=o) (by simp[*,Op.operands]) h
  have fin: ∀v,bR P W0 o A v→K (A.put o.dst v)→o.wp P a w next Qx:=λv hv hK=>hv.pure w C a hr _ _ λx w' hv hs hst=>hn v x A.st w' C (by
   have e:(A.put o.dst v).al A.st=A.put o.dst v:=by cases o.dst<;>rfl
   rw[e];exact hK) hv hst hs
  unfold Ac at h
  split at h
  ·obtain⟨⟨h1,h2⟩,h⟩:=h
   split at h
   ·obtain⟨p,h,hp⟩:=ck (P:=P) (W0:=W0) (o:=o) (gd:=none) (λy hy=>by simp[hop,Op.operands,hy]) h
    obtain⟨q,h,hq⟩:=ck (P:=P) (W0:=W0) (o:=o) (gd:=none) (λy hy=>by simp[hop,Op.operands,hy]) h
    obtain⟨⟨h3,te,zs,h4,h5⟩,hK⟩:=h
    exact fin _ (tK hop hu h1 h2 hp hq h3 h4 h5) hK
   ·obtain⟨⟨hl,hh⟩,h⟩:=h
    obtain⟨y1,rfl⟩:=Option.isSome_iff_exists.1 hl
    obtain⟨y2,rfl⟩:=Option.isSome_iff_exists.1 hh
    rename_i y3
    obtain⟨p,h,hp⟩:=ck (P:=P) (W0:=W0) (o:=o) (gd:=none) (λy hy=>by cases hy;simp[hop,Op.operands]) h
    obtain⟨q,h,hq⟩:=ck (P:=P) (W0:=W0) (o:=o) (gd:=none) (λy hy=>by cases hy;simp[hop,Op.operands]) h
    obtain⟨r,h,hr'⟩:=ck (P:=P) (W0:=W0) (o:=o) (gd:=none) (λy hy=>by cases hy;simp[hop,Op.operands]) h
    obtain⟨⟨h3,h4,h5⟩,hK⟩:=h
    obtain⟨k1,i1,p1,p2,p3⟩:=hp
    obtain⟨k2,i2,q1,q2,q3⟩:=hq
    obtain⟨k3,i3,r1,r2,r3⟩:=hr'
    exact fin _ (Dl hop hu h1 h2 p1 q1 r1 p2 (by omega) (by omega) (by omega)) hK
  ·exact h.elim
 ·rename_i s d x hop
  rcases h with h|h
  ·exact hval h
  obtain⟨u,h,hu⟩:=bO (P:=P) (W0:=W0) (o:=o) (by simp[*,Op.operands]) h
  rcases h with⟨l,e,rfl,⟨h1,h2,h3,h4,h5⟩,hK⟩|⟨l,e,h0,⟨h1,h2,h3,h4⟩,hK⟩|⟨e,id,off,m,xs,rfl,⟨rfl,h1,h2⟩,h3,h4,h5,hK⟩
  ·obtain⟨y,w',C',g1,g2,g3,g4⟩:=G3 hr hop hu h1 h2 h3 h4 h5
   exact cB g1 (hn _ y _ w' C' hK g4 g3 g2)
  ·obtain⟨y,g1,g2⟩:=CW hr hop hu h0 h1 h2 h3 h4
   exact cB g1 (hn _ y _ w C hK g2 hr.st (.refl _ _))
  ·obtain⟨y,w',C',g1,g2,g3,g4⟩:=tS hr hop hu h1 h2 h3 h4 h5
   exact cB g1 (hn _ y _ w' C' hK g4 g3 g2)
 ·rename_i t m ps hop
  rcases h with h|h
  ·exact hval h
  obtain⟨qs,h,hq⟩:=gI (gd:=none) (P:=P) (W0:=W0) (o:=o) _ _ (λp hp=>by simp only[hop,Op.operands];exact List.mem_toArray.2 (List.mem_map_of_mem hp)) h
  unfold mU at h
  split at h
  ·rename_i e he
   obtain⟨⟨g1,g2,g3,g4,g5⟩,hK⟩:=h
   obtain⟨y,w',C',q1,q2,q3,q4⟩:=zd hr hop he g1 g2 (by omega) hq g4 (λp hp=>eT (List.all_eq_true.1 g5 p hp))
   exact cB q1 (hn _ y _ w' C' hK q4 q3 q2)
  ·exact h.elim
 ·rename_i t hop
  split at h
  ·rename_i kt vt ht
   obtain⟨y,w',C',g1,g2,g3,g4⟩:=Ja hr hop kt
   exact cB g1 (hn _ y _ w' C' h g2 g4 g3)
  ·exact h.elim
 ·rename_i t x ix y hop
  obtain⟨u,h,hu⟩:=bO (P:=P) (W0:=W0) (o:=o) (by simp[*,Op.operands]) h
  obtain⟨k,h,hk⟩:=bO (P:=P) (W0:=W0) (o:=o) (by simp[*,Op.operands]) h
  obtain⟨v,h,hv⟩:=bO (P:=P) (W0:=W0) (o:=o) (by simp[*,Op.operands]) h
  unfold vp at h
  split at h
  ·obtain⟨kt,vt,l,h1,h2,h3,h4,h5,h6⟩:=h
   obtain⟨w',g1,g2,g3⟩:=Iw (u:=.nil) hr hop hu hk hv h1 h2 h3 h4 h5
   exact mc g1 (hn .undef undef _ w' C h6 (.undef _) g3 g2)
  ·exact h.elim
 ·exact hval h
theorem vB (hr:bL P W0 n w C A a)(h:tZ P W0 n fz o A K){next:Act→World→Prop}{Qx:Exit→Act→World→Prop}
  (hn: ∀A' C' a' w',K A'→bL P W0 n w' C' A' a'→Step w C w' C'→next a' w'):o.wp P a w next Qx:=by
 have key:DZ fz o.op→o.wp P a w next Qx:=λhnf=>sv (hr.toO o) hnf h λv x σ' w' C' hK hv hst hs=>hn _ C' _ w' hK (j6 hr h.1 hs hst hv) hs
 cases hop:o.op
 case store t x y=>
  obtain⟨hd,h2⟩:=h
  rw[hop]at h2
  obtain⟨u,h2,hu⟩:=bO (P:=P) (W0:=W0) (o:=o) (by simp[*,Op.operands]) h2
  obtain⟨v,h2,hv⟩:=bO (P:=P) (W0:=W0) (o:=o) (by simp[*,Op.operands]) h2
  exact AO hr hd hop hu hv h2 hn
 all_goals exact key (by rw[hop];trivial)
theorem sa {ops:Array Oper}{j:Nat}{want G:Bool}(hr:bL P W0 n w C A a)(h:ya ops A j want=some G)(ho:o.guard=some (j,want)):Region.wanted o (yielded ops a.tmps)=G:=by
 unfold ya at h
 split at h
 ·rename_i d hd
  have he:=hr.env d
  have hget:a.tmps.getD d undef=(a.tmps[d]?).getD undef:=by simp
  split at h
  ·rename_i b hb
   rw[hb]at he
   simp only[Option.some.injEq]at h
   have hv:=he.fY
   rw[hget]at hv
   cases ht:a.tmps[d]? with
   |none=>rw[ht]at hv;cases hv
   |some v=>
    rw[ht]at hv
    simp only[Option.getD_some]at hv
    subst hv h
    have hy:yielded ops a.tmps j=some b:=by unfold yielded;rw[hd];simp only[Option.bind_some,ht]
    simp only[Region.wanted,ho,hy]
    cases b<;>cases want<;>rfl
  ·rename_i g b hb
   rw[hb]at he
   simp only[Option.some.injEq]at h
   cases he with
   |one h1=>simp[AV.aV]at h1
   |maybe h1 h2=>
    cases g with
    |true=>
     have hv:=(h1 rfl).fY
     rw[hget]at hv
     cases ht:a.tmps[d]? with
     |none=>rw[ht]at hv;cases hv
     |some v=>
      rw[ht]at hv
      simp only[Option.getD_some]at hv
      subst hv
      subst h
      have hy:yielded ops a.tmps j=some b:=by unfold yielded;rw[hd];simp only[Option.bind_some,ht]
      simp only[Region.wanted,ho,hy]
      cases b<;>cases want<;>rfl
    |false=>
     have hv:=h2 rfl
     rw[hget]at hv
     subst h
     have hy:yielded ops a.tmps j=none:=by
      unfold yielded
      rw[hd]
      simp only[Option.bind_some]
      cases ht:a.tmps[d]? with
      |none=>rfl
      |some v=>
       rw[ht]at hv
       simp only[Option.getD_some]at hv
       subst hv
       rfl
     simp only[Region.wanted,ho,hy]
     cases want<;>rfl
  ·rename_i v0 hnb hb
   rw[hb]at he
   simp only[Option.some.injEq]at h
   cases he with
   |one h1=>simp[AV.aV]at h1
   |maybe h1 h2=>
    have hv:=h2 rfl
    rw[hget]at hv
    subst h
    have hy:yielded ops a.tmps j=none:=by
     unfold yielded
     rw[hd]
     simp only[Option.bind_some]
     cases ht:a.tmps[d]? with
     |none=>rfl
     |some v=>
      rw[ht]at hv
      simp only[Option.getD_some]at hv
      subst hv
      rfl
    simp only[Region.wanted,ho,hy]
    cases want<;>rfl
  ·cases h
 ·cases h
theorem Fg {G:Bool}(hr:bL P W0 n w C A a)(h:jm P W0 (some G) o.op A λv=>K (A.put o.dst (.maybe G v))):
  ∃v,K (A.put o.dst (.maybe G v))∧(G=true→dd P W0 o A v):=fJ (hr.toO o) h
theorem gL {ops:Array Oper}{Qx:Exit→Act→World→Prop}: ∀(l:List Oper) (K:aa→Prop) (A:aa) (w:World) (C:Ctx) (a:Act),bL P W0 n w C A a→oc P W0 n fz ops l K A→
  (∀A' C' a' w',K A'→bL P W0 n w' C' A' a'→Step w C w' C'→Qx .normal a' w')→kG P ops Qx l a w
 |[],K,A,w,C,a,hr,h,hn=>xZ (hn A C a w h hr (.refl _ _))
 |o::r,K,A,w,C,a,hr,h,hn=>by
  have nd: ∀{K':aa→Prop},tZ P W0 n fz o A K'→ ∀c,o.op≠ .defer c:=λh=>dP (vB hr h λA' C' a' w' _ hr' _=>hr'.defers.trans hr.defers.symm)
  simp only[oc]at h
  split at h
  ·rename_i hg
   exact nB (by simp[Region.wanted,hg]) (vB hr h (λA' C' a' w' hK hr' hs=>gL r K A' w' C' a' hr' hK (λA'' C'' a'' w'' hK' hr'' hs'=>hn A'' C'' a'' w'' hK' hr'' (hs.trans hs')))) (nd h)
  ·rename_i j want hg
   split at h
   ·rename_i G hG
    obtain⟨hd,h⟩:=h
    have hw:=sa hr hG hg
    rcases h with h|⟨ht,hf⟩
    case inr=>
     cases G with
     |true=>exact nB hw (vB hr (ht rfl) (λA' C' a' w' hK hr' hs=>gL r K A' w' C' a' hr' hK (λA'' C'' a'' w'' hK' hr'' hs'=>hn A'' C'' a'' w'' hK' hr'' (hs.trans hs')))) (nd (ht rfl))
     |false=>
      obtain⟨v0,hf0⟩:=hf rfl
      exact oz hw (gL r K (A.put o.dst (.maybe false v0)) w C _ (kK hr hd (aC.maybe (λe=>by cases e) (λ_=>rfl))) hf0 hn)
    obtain⟨v,hK,hp⟩:=Fg hr h
    cases G with
    |true=>
     refine nB hw (hp rfl w C a (hr.toO o) _ _ λx w' hv hs hst=>gL r K (A.put o.dst (.maybe true v)) w' C _ ?_ hK (λA'' C'' a'' w'' hK' hr'' hs'=>hn A'' C'' a'' w'' hK' hr'' (hs.trans hs'))) (dP (hp rfl w C a (hr.toO o) _ _ λx w' _ _ _=>put_defers a o.dst x))
     have:=j6 (o:=o) hr hd hs hst (aC.maybe (g:=true) (λ_=>hv) (λe=>by cases e))
     cases ho:o.dst<;>simpa[ho,aa.put,aa.upd,aa.al]using this
    |false=>
     refine oz hw (gL r K (A.put o.dst (.maybe false v)) w C _ ?_ hK hn)
     exact kK hr hd (aC.maybe (λe=>by cases e) (λ_=>rfl))
   ·exact h.elim
theorem VC.region {id:Nat}{l:List Oper}{Q:Exit→aa→Prop}(h:oc P W0 n fz l.toArray l (λA'=>Q .normal A') A):VC P W0 n (.region id l.toArray false) Q A:=λw C a hr=>
 tt (gL l _ A w C a hr h λA' C' _ _ q r s=>⟨A',C',q,r,s⟩)
def gO (args:List AV):Nat→AV:=λi=>args[i]?.getD .undef
def gV (env:Nat→AV):List Nat→AV
 |[t]=>env t
 |ts=>.tup (ts.map env)
theorem ud {F:ResultVar→Sem Value}{tmps:Array Value}(hF: ∀t,(F (.tmp t)).run P w= .ok (tmps.getD t undef) w): ∀ts:List Nat,((ts.map ResultVar.tmp).mapM F).run P w= .ok (ts.map λt=>tmps.getD t undef) w
 |[]=>rfl
 |t::ts=>by
  rw[List.map_cons,List.mapM_cons]
  simp only[Sem.run_bind,hF,Result.andThen_ok,ud hF ts,Sem.run_pure,List.map_cons]
theorem lp {fn:Func}{ts:List Nat}(hr:bL P W0 n w C A a)(h:fn.results=(ts.map ResultVar.tmp).toArray): ∃v,(results fn a.tmps).run P w= .ok v w∧aC P w C (gV A.env ts) v:=by
 have hm:(results fn a.tmps).run P w= .ok (if h:(ts.map λt=>a.tmps.getD t undef).toArray.size=1 then(ts.map λt=>a.tmps.getD t undef).toArray[0]else .tuple (ts.map λt=>a.tmps.getD t undef).toArray) w:=by
  unfold results
  rw[h,Array.mapM_eq_mapM_toList]
  simp only[Sem.run_bind,Sem.run_map]
  rw[ud (tmps:=a.tmps) (λt=>rfl) ts]
  rfl
 match ts,hm with
 |[],hm=>exact⟨_,hm,.tup (vs:=[]) rfl (by simp)⟩
 |[t],hm=>exact⟨_,hm,hr.env t⟩
 |t::u::ts,hm=>
  refine⟨_,hm,?_⟩
  rw[dif_neg (by simp)]
  refine .tup (by simp) (λi x v hx hv=>?_)
  simp only[List.getElem?_map,Option.map_eq_some_iff]at hx hv
  obtain⟨q,hq,rfl⟩:=hx
  obtain⟨q',hq',rfl⟩:=hv
  rw[hq]at hq'
  cases hq'
  exact hr.env q
def Mi (ts:List Nat)(Q:AV→ab→Prop)(σ:ab):Exit→aa→Prop
 | .normal,A| .ret,A=>∃ r' σ',cR (gV A.env ts) r'∧(σ.length≤σ'.length∧σ'=A.st.take σ'.length)∧(∀id te xs,id<σ'.length→A.st[id]?=some (some (.cells te xs))→ ∀x∈xs,aR σ'.length x)∧aR σ'.length r'∧Q r' σ'
 |_,_=>False
theorem ka {args:List AV}{vs:List Value}{m:Nat}(hst:aB P W0 w C σ)(hl:args.length=vs.length)(hv: ∀(i:Nat)(a:AV)(v:Value),args[i]?=some a→vs[i]?=some v→aC P w C a v)(hargs:args.length≤m):
  bL P W0 m w C ⟨gO args,σ⟩ { tmps:=vs.toArray++Array.replicate (m-vs.toArray.size) undef,defers:=[] }:=by
 refine⟨λi=>?_,rfl,by simp;omega,hst⟩
 simp only[gO]
 by_cases hi:i<args.length
 ·have h1:=List.getElem?_eq_getElem hi
  have h2:=List.getElem?_eq_getElem (l:=vs) (show i<vs.length by omega)
  rw[h1,Option.getD_some]
  have h3:=hv i _ _ h1 h2
  have:(vs.toArray++Array.replicate (m-vs.toArray.size) undef).getD i undef=vs[i]:=by
   rw[Array.getD_eq_getD_getElem?,Array.getElem?_append_left (by simp;omega)]
   simp[h2]
  rw[this]
  exact h3
 ·rw[List.getElem?_eq_none (by omega),Option.getD_none]
  exact .undef _
theorem qu {f : FuncId} {fn : Func} {c : Code} {args : List AV} {Q : AV → ab → Prop} (hf : P.funcs[f]? = some fn) (hb : fn.body = some c) (hnm : (fn.name == "runtime.NumGoroutine") = false) (hargs : args.length ≤ fn.ntmps) {ts : List Nat} (hres : fn.results = (ts.map ResultVar.tmp).toArray)
  (h:VC P W0 fn.ntmps c (Mi ts Q σ) ⟨gO args,σ⟩):aX P W0 f args σ Q:=by
 refine λw C vs hst hl hv=>.inl ⟨⟨fn,hf,by simp[hb],hnm⟩,calls_of_wp hf hb ?_⟩
 have hr:bL P W0 fn.ntmps w C ⟨gO args,σ⟩ { tmps:=vs.toArray++Array.replicate (fn.ntmps-vs.toArray.size) undef,defers:=[] }:=by
  refine⟨λi=>?_,rfl,by simp;omega,hst⟩
  simp only[gO]
  by_cases hi:i<args.length
  ·have h1:=List.getElem?_eq_getElem hi
   have h2:=List.getElem?_eq_getElem (l:=vs) (show i<vs.length by omega)
   rw[h1,Option.getD_some]
   have h3:=hv i _ _ h1 h2
   have:(vs.toArray++Array.replicate (fn.ntmps-vs.toArray.size) undef).getD i undef=vs[i]:=by
    rw[Array.getD_eq_getD_getElem?,Array.getElem?_append_left (by simp;omega)]
    simp[h2]
   rw[this]
   exact h3
  ·rw[List.getElem?_eq_none (by omega),Option.getD_none]
   exact .undef _
 refine wp_mono (wU (h w C _ hr)) λe a' w' ⟨A',C',q,r,s⟩=>?_
 have fin:(∃r' σ',cR (gV A'.env ts) r'∧(σ.length≤σ'.length∧σ'=A'.st.take σ'.length)∧(∀id te xs,id<σ'.length→A'.st[id]?=some (some (.cells te xs))→ ∀x∈xs,aR σ'.length x)∧aR σ'.length r'∧Q r' σ')→
   a'.defers=[]∧ ∃v,(results fn a'.tmps).run P w'= .ok v w'∧ ∃v₁ r σ' C',Ending.returned v= .returned v₁∧Q r σ'∧aB P W0 w' C' σ'∧aC P w' C' r v₁∧Step w C w' C':=by
  rintro⟨r1,σ',h2,⟨h3,h4⟩,h5,h6,h7⟩
  obtain⟨v,g1,g2⟩:=lp r hres
  have hle:σ'.length≤A'.st.length:=by have:=congrArg List.length h4;rw[List.length_take]at this;omega
  refine⟨r.defers,v,g1,v,r1,σ',C'.dD σ'.length,rfl,h7,?_,(g2.cU h2).dD h6,s.dD (by rw[hst.nx];exact h3)⟩
  have:=r.st.dD hle h5
  rwa [←h4]at this
 cases e with
 |normal=>exact fin q
 |ret=>exact fin q
 |_=>exact q.elim
end
end Go.Av
end
section
namespace Go.Av
open Go
def isW :Op→Bool| .store _ _ _=>true|_=>false
def JO (fz:List Nat):Option Nat→Bool|some d=>fz.contains (2000000+d)|none=>false
def rdM (fz:List Nat):Option Nat→Bool|some d=>fz.contains (3000000+d)|none=>false
def eM (fz:List Nat)(id:Nat)(o:Oper):Bool:=match o.dst with|some d=>fz.contains (2000000+d)|none=>fz.contains (4000000+id)
def isR (fz:List Nat)(dst:Option Nat):Op→Bool
 | .load _ (.tmp d)=>!(fz.contains d||fz.contains (6000000+d))
 | .load _ _=>true
 | .indexAddr _ _ _=>true
 | .lookup _ _ _ _=>true
 | .call _=>rdM fz dst
 |_=>false
def isZ :Op→Bool| .load _ (.tmp _)=>true|_=>false
def Al :Op→Bool| .alloc _=>true|_=>false
theorem ux {op:Op}(h:isW op=true):isZ op=false:=by cases op<;>first|rfl|(simp[isW]at h)
def ie (P:Program)(W0:World)(fz:List Nat)(o:Oper)(A:aa)(v:AV):Prop:=
 dd P W0 o A v∧(isR fz o.dst o.op=false→ ∀σ,dd P W0 o (A.al σ) v)∧(isZ o.op=true→ ∀τ,dd P W0 o (A.al (A.st++τ)) v)
def BR (P:Program)(W0:World)(o:Oper)(A:aa)(σ':ab):Prop:=
 ∀w C a,eD P W0 o w C A a→ ∃w',(execOp a.eval o).run P w= .ok .skip w'∧Step w C w' C∧aB P W0 w' C σ'
def ik (P:Program)(W0:World)(n:Nat)(fz:List Nat)(ops:Array Oper)(o:Oper)(A:aa)(v:AV)(σ':ab):Prop:=
 ir n o.dst∧(match o.guard with
  |none=>(isW o.op=false∧σ'=A.st∧ie P W0 fz o A v)∨(isW o.op=true∧v= .undef∧BR P W0 o A σ')
  |some (j,want)=>isW o.op=false∧σ'=A.st∧ ∃G u,ya ops A j want=some G∧v= .maybe G u∧(G=true→ie P W0 fz o A u))
inductive Seq (P:Program)(W0:World)(n:Nat)(fz:List Nat)(E:Oper→Bool)(ops:Array Oper):List Oper→aa→List AV→List ab→aa→Prop
 |nil (A):Seq P W0 n fz E ops [] A [] [] A
 |cons {o r A v σ' vs ss B}:E o=false→ik P W0 n fz ops o A v σ'→Seq P W0 n fz E ops r ((A.put o.dst v).al σ') vs ss B→Seq P W0 n fz E ops (o::r) A (v::vs) (σ'::ss) B
 |skip {o r A vs ss B}:E o=true→Seq P W0 n fz E ops r A vs ss B→Seq P W0 n fz E ops (o::r) A (.undef::vs) (A.st::ss) B
def Bo :List (List Nat)→List Oper→List (List Nat)
 |acc,[]=>acc
 |acc,o::r=>Bo (acc++[((o.after.toList.filter (Region.binds .any)).flatMap λe=>e.on::(acc[e.on]?).getD []).eraseDups]) r
def RR (ops:Array Oper)(ac:List (List Nat)):Bool:=
 (List.range ops.size).all λi=>match ops[i]? with
  |none=>true
  |some o=>((ac[i]?).getD []).all λj=>o.after.any λe=>Region.binds .any e&&(e.on==j||((ac[e.on]?).getD []).contains j)
def eJ (o:Oper)(j:Nat):Bool:=o.after.any λe=>e.on==j&&Region.binds .any e
def AQ (fz:List Nat)(E:Oper→Bool)(ops:Array Oper)(ac:List (List Nat))(i j:Nat)(oi oj:Oper):Bool:=
 ((match oj.dst with
  |none=>true
  |some d=>oi.dst !=some d&&(!(oi.looksAt ops).contains d||((if j<i then eJ oi j else eJ oj i)&&(!E oj||E oi||decide (i<j))&&(!(E oi&& !E oj)||decide (j<i)))))&&
 (!(!E oj&& !E oi&&isW oj.op&&(isW oi.op||isR fz oi.dst oi.op))||(if j<i then((ac[i]?).getD []).contains j else((ac[j]?).getD []).contains i)))&&
 ((!(E oi&&E oj&&decide (j<i))||((ac[i]?).getD []).contains j)&&
 (!(E oi&& !E oj&&(isW oj.op||isR fz oj.dst oj.op))||((Al oi.op&&isZ oj.op)||((ac[i]?).getD []).contains j)))
def zy (fz:List Nat)(E:Oper→Bool)(ops:Array Oper)(ac:List (List Nat)):Bool:=
 RR ops ac&&(List.range ops.size).all λi=>match ops[i]? with
  |none=>true
  |some oi=>oi.after.all (λe=>!Region.binds .any e||decide (e.on<i))&&(!E oi||oi.guard.isNone)&&(List.range ops.size).all λj=>match ops[j]? with
   |none=>true
   |some oj=>i==j||AQ fz E ops ac i j oi oj
structure jE (E:Oper→Bool)(ops:Array Oper)(vs:List AV)(A:aa)(S:Nat→Prop)(B:aa):Prop where
 set: ∀i o d v,S i→ops[i]?=some o→E o=false→o.dst=some d→vs[i]?=some v→B.env d=v
 old: ∀d,(∀i o,S i→ops[i]?=some o→E o=false→o.dst≠some d)→B.env d=A.env d
section
variable {P :Program}{W0 w w':World}{C C':Ctx}{n:Nat}{A:aa}{a:Act}{o:Oper}{ops:Array Oper}{K:aa→Prop}{fz:List Nat}{E:Oper→Bool}{ac:List (List Nat)}
theorem aa.GJ (A:aa)(d:Option Nat)(v:AV):(A.put d v).st=A.st:=by cases d<;>rfl
theorem fQ {d:Nat}(h:o.dst=some d)(v:AV):(A.put o.dst v).env d=v:=by rw[h];exact A.xe d v
theorem dV {d:Nat}(h:o.dst≠some d)(v:AV):(A.put o.dst v).env d=A.env d:=by
 cases ho:o.dst with
 |none=>rfl
 |some d'=>exact A.rR v (λe=>h (by rw[ho,e]))
def sT (ops:Array Oper):Prop:=∀ (i j:Nat) (oi oj:Oper) (d:Nat),ops[i]?=some oi→ops[j]?=some oj→oi.dst=some d→oj.dst=some d→i=j
theorem jE.put {vs:List AV}{S:Nat→Prop}{B:aa}{i:Nat}{v:AV}(hD:sT ops)(h:jE E ops vs A S B)(hi:ops[i]?=some o)(hE:E o=false)(hv:vs[i]?=some v):jE E ops vs A (λj=>S j∨j=i) (B.put o.dst v):=by
 refine⟨λj oj d u hj hoj hej hd hu=>?_,λd hd=>?_⟩
 ·rcases hj with hj|rfl
  ·by_cases hod:o.dst=some d
   ·have:=hD i j o oj d hi hoj hod hd
    subst this
    rw[hv]at hu
    cases hu
    exact fQ hod v
   ·rw[dV hod];exact h.set j oj d u hj hoj hej hd hu
  ·rw[hi]at hoj
   cases hoj
   rw[hv]at hu
   cases hu
   exact fQ hd v
 ·rw[dV (hd i o (.inr rfl) hi hE)]
  exact h.old d (λj oj hj=>hd j oj (.inl hj))
theorem gU (A:aa)(σ:ab):(A.al σ).env=A.env:=rfl
theorem AN {vs:List AV}{ss:List ab}: ∀(l:List Oper) (us:List AV) (ts:List ab) (k:Nat) (T B:aa),sT ops→(∀j,l[j]?=ops[k+j]?)→(∀j,us[j]?=vs[k+j]?)→(∀j,ts[j]?=ss[k+1+j]?)→ss[k]?=some T.st→Seq P W0 n fz E ops l T us ts B→jE E ops vs A (· <k) T→
  (∀j o v,l[j]?=some o→us[j]?=some v→ ∃Tj σ',jE E ops vs A (· <k+j) Tj∧ss[k+j]?=some Tj.st∧ss[k+j+1]?=some σ'∧(E o=true→σ'=Tj.st)∧(E o=false→ik P W0 n fz ops o Tj v σ'))∧jE E ops vs A (· <k+l.length) B∧us.length=l.length∧ss[k+l.length]?=some B.st
 |[],us,ts,k,T,B,_,_,_,_,h0,hs,he=>by
  cases hs
  exact⟨by simp,by simpa using he,rfl,h0⟩
 |o::r,us,ts,k,T,B,hD,hl,hu,ht,h0,hs,he=>by
  have hok:ops[k]?=some o:=by have:=hl 0;simpa using this.symm
  have hl': ∀j,r[j]?=ops[k+1+j]?:=λj=>by have:=hl (j+1);rw[show k+(j+1)=k+1+j by omega]at this;simpa using this
  cases hs with
  |cons hE h1 h2=>
   rename_i v σ' vs' ss'
   have hvk:vs[k]?=some v:=by have:=hu 0;simpa using this.symm
   have hsk:ss[k+1]?=some σ':=by have:=ht 0;simpa using this.symm
   have he':jE E ops vs A (· <k+1) ((T.put o.dst v).al σ'):=by
    have:=he.put hD hok hE hvk
    exact⟨λi oi d u hi=>this.set i oi d u (by omega),λd hd=>this.old d (λi oi hi=>hd i oi (by omega))⟩
   obtain⟨g1,g2,g3,g4⟩:=AN r vs' ss' (k+1) _ B hD hl' (λj=>by have:=hu (j+1);rw[show k+(j+1)=k+1+j by omega]at this;simpa using this)
    (λj=>by have:=ht (j+1);rw[show k+1+(j+1)=k+1+1+j by omega]at this;simpa using this) hsk h2 he'
   refine⟨λj oj u hj huj=>?_,?_,by simp[g3],?_⟩
   ·cases j with
    |zero=>simp at hj huj;subst hj huj;exact⟨T,σ',by simpa using he,h0,hsk,λe=>by (rw[hE]at e;cases e),λ_=>h1⟩
    |succ j=>
     simp at hj huj
     obtain⟨Tj,σj,e1,e2,e3,e4⟩:=g1 j oj u hj huj
     rw[show k+1+j=k+(j+1) by omega]at e1 e2 e3
     exact⟨Tj,σj,e1,e2,e3,e4⟩
   ·rw[List.length_cons,show k+(r.length+1)=k+1+r.length by omega];exact g2
   ·rw[List.length_cons,show k+(r.length+1)=k+1+r.length by omega];exact g4
  |skip hE h2=>
   rename_i vs' ss'
   have hsk:ss[k+1]?=some T.st:=by have:=ht 0;simpa using this.symm
   have he':jE E ops vs A (· <k+1) T:=by
    refine⟨λi oi d u hi hoi hei=>?_,λd hd=>he.old d (λi oi hi=>hd i oi (by omega))⟩
    rcases Nat.lt_succ_iff_lt_or_eq.1 hi with hi'|hi'
    ·exact he.set i oi d u hi' hoi hei
    ·subst hi';rw[hok]at hoi;cases hoi;rw[hE]at hei;cases hei
   obtain⟨g1,g2,g3,g4⟩:=AN r vs' ss' (k+1) _ B hD hl' (λj=>by have:=hu (j+1);rw[show k+(j+1)=k+1+j by omega]at this;simpa using this)
    (λj=>by have:=ht (j+1);rw[show k+1+(j+1)=k+1+1+j by omega]at this;simpa using this) hsk h2 he'
   refine⟨λj oj u hj huj=>?_,?_,by simp[g3],?_⟩
   ·cases j with
    |zero=>simp at hj huj;subst hj huj;exact⟨T,T.st,by simpa using he,h0,hsk,λ_=>rfl,λe=>by (rw[hE]at e;cases e)⟩
    |succ j=>
     simp at hj huj
     obtain⟨Tj,σj,e1,e2,e3,e4⟩:=g1 j oj u hj huj
     rw[show k+1+j=k+(j+1) by omega]at e1 e2 e3
     exact⟨Tj,σj,e1,e2,e3,e4⟩
   ·rw[List.length_cons,show k+(r.length+1)=k+1+r.length by omega];exact g2
   ·rw[List.length_cons,show k+(r.length+1)=k+1+r.length by omega];exact g4
theorem mZ {T B:aa}(hst:B.st=T.st)(he: ∀d∈o.looksAt ops,B.env d=T.env d){w:World}{C:Ctx}{a:Act}(hr:eD P W0 o w C B a):eD P W0 o w C T a:=by
 have hval: ∀x∈o.op.operands,T.val x=B.val x:=λx hx=>by
  cases x with
  |tmp t=>
   refine(he t ?_).symm
   simp only[Oper.looksAt,List.mem_append,List.mem_filterMap]
   exact .inl ⟨.tmp t,Array.mem_toList_iff.2 hx,rfl⟩
  |_=>rfl
 exact⟨λx hx=>by rw[hval x hx];exact hr.ops x hx,by rw[←hst];exact hr.st⟩
theorem dw {T B:aa}(hst:B.st=T.st)(he: ∀d∈o.looksAt ops,B.env d=T.env d){u:AV}(hp:dd P W0 o T u):dd P W0 o B u:=λw C a hr next Q hn=>by
 have:=hp w C a (mZ hst he hr) next Q
 rw[hst]at hn
 exact this hn
theorem ik.congr {T B:aa}{v:AV}{σ':ab}(h:ik P W0 n fz ops o T v σ')(hst:(isW o.op||isR fz o.dst o.op)=true→B.st=T.st)(he: ∀d∈o.looksAt ops,B.env d=T.env d):
  ik P W0 n fz ops o B v (if isW o.op then σ' else B.st):=by
 obtain⟨hd,h⟩:=h
 have hp: ∀u,ie P W0 fz o T u→isW o.op=false→dd P W0 o B u:=λu hp hw=>by
  cases hR:isR fz o.dst o.op with
  |true=>exact dw (ops:=ops) (hst (by simp[hR])) he hp.1
  |false=>exact dw (ops:=ops) (T:=T.al B.st) (B:=B) rfl he (hp.2.1 hR B.st)
 have hp2: ∀u,ie P W0 fz o T u→isW o.op=false→ie P W0 fz o B u:=λu hu hw=>⟨hp u hu hw,λhR σ=>dw (ops:=ops) (T:=T.al σ) (B:=B.al σ) rfl he (hu.2.1 hR σ),λhz τ=>by
  cases hR:isR fz o.dst o.op with
  |true=>
   have e:=hst (by simp[hR])
   exact dw (ops:=ops) (T:=T.al (T.st++τ)) (B:=B.al (B.st++τ)) (by rw[e];rfl) he (hu.2.2 hz τ)
  |false=>exact dw (ops:=ops) (T:=T.al (B.st++τ)) (B:=B.al (B.st++τ)) rfl he (hu.2.1 hR _)⟩
 refine⟨hd,?_⟩
 split at h
 ·rcases h with⟨h1,h2,h3⟩|⟨h1,h2,h3⟩
  ·exact .inl ⟨h1,by simp[h1],hp2 v h3 h1⟩
  ·refine .inr ⟨h1,h2,?_⟩
   rw[if_pos h1]
   exact λw C a hr=>h3 w C a (mZ (ops:=ops) (hst (by simp[h1])) he hr)
 ·rename_i j want hg
  obtain⟨h0,h0',G,u,h1,h2,h3⟩:=h
  refine⟨h0,by simp[h0],G,u,?_,h2,λhG=>hp2 u (h3 hG) h0⟩
  rw[←h1]
  unfold ya
  cases hj:(ops[j]?).bind (·.dst)with
  |none=>rfl
  |some d=>
   have hd:B.env d=T.env d:=he d (by
    simp only[Oper.looksAt,List.mem_append,hg,hj]
    exact .inr (by simp))
   simp only[hd]
theorem ik.MV {T B:aa}{v:AV}{σ':ab}(h:ik P W0 n fz ops o T v σ')(hz:isZ o.op=true)(τ:ab)(hst:B.st=T.st++τ)(he: ∀d∈o.looksAt ops,B.env d=T.env d):ik P W0 n fz ops o B v B.st:=by
 obtain⟨hd,h⟩:=h
 have hW:isW o.op=false:=by cases hw:isW o.op with|false=>rfl|true=>rw[ux hw]at hz;cases hz
 have hp2: ∀u,ie P W0 fz o T u→ie P W0 fz o B u:=λu hu=>⟨dw (ops:=ops) (T:=T.al (T.st++τ)) (B:=B) hst he (hu.2.2 hz τ),λhR σ=>dw (ops:=ops) (T:=T.al σ) (B:=B.al σ) rfl he (hu.2.1 hR σ),
  λ_ τ'=>dw (ops:=ops) (T:=T.al (T.st++(τ++τ'))) (B:=B.al (B.st++τ')) (by rw[hst,List.append_assoc];rfl) he (hu.2.2 hz _)⟩
 refine⟨hd,?_⟩
 split at h
 ·rcases h with⟨h1,h2,h3⟩|⟨h1,h2,h3⟩
  ·exact .inl ⟨h1,rfl,hp2 v h3⟩
  ·rw[hW]at h1;cases h1
 ·rename_i j want hg
  obtain⟨h0,h0',G,u,h1,h2,h3⟩:=h
  refine⟨h0,rfl,G,u,?_,h2,λhG=>hp2 u (h3 hG)⟩
  rw[←h1]
  unfold ya
  cases hj:(ops[j]?).bind (·.dst)with
  |none=>rfl
  |some d=>
   have hd:B.env d=T.env d:=he d (by
    simp only[Oper.looksAt,List.mem_append,hg,hj]
    exact .inr (by simp))
   simp only[hd]
structure lu (fz:List Nat)(E:Oper→Bool)(ops:Array Oper)(ac:List (List Nat)):Prop where
 anc: ∀(i:Nat) (oi:Oper) (j:Nat),ops[i]?=some oi→j∈(ac[i]?).getD []→ ∃e∈oi.after,Region.binds .any e=true∧(e.on=j∨j∈(ac[e.on]?).getD [])
 G1:sT ops
 tY: ∀(i:Nat) (oi:Oper),ops[i]?=some oi→ ∀e∈oi.after,Region.binds .any e=true→e.on<i
 gd: ∀(i:Nat) (oi:Oper),ops[i]?=some oi→E oi=true→oi.guard=none
 look: ∀(i j:Nat) (oi oj:Oper) (d:Nat),ops[i]?=some oi→ops[j]?=some oj→i≠j→oj.dst=some d→d∈oi.looksAt ops→(j<i→eJ oi j=true)∧(i<j→eJ oj i=true)∧(E oj=true→E oi=false→i<j)∧(E oi=true→E oj=false→j<i)
 wr: ∀(i j:Nat) (oi oj:Oper),ops[i]?=some oi→ops[j]?=some oj→i≠j→E oi=false→E oj=false→isW oj.op=true→(isW oi.op||isR fz oi.dst oi.op)=true→(j<i→j∈(ac[i]?).getD [])∧(i<j→i∈(ac[j]?).getD [])
 chain: ∀(i j:Nat) (oi oj:Oper),ops[i]?=some oi→ops[j]?=some oj→E oi=true→E oj=true→j<i→j∈(ac[i]?).getD []
 last: ∀(i j:Nat) (oi oj:Oper),ops[i]?=some oi→ops[j]?=some oj→E oi=true→E oj=false→(isW oj.op||isR fz oj.dst oj.op)=true→(Al oi.op&&isZ oj.op)=false→j∈(ac[i]?).getD []
theorem Cq (h:zy fz E ops ac=true):lu fz E ops ac:=by
 unfold zy at h
 rw[Bool.and_eq_true]at h
 obtain⟨hanc,h⟩:=h
 have hall: ∀(i:Nat) (oi:Oper),ops[i]?=some oi→oi.after.all (λe=>!Region.binds .any e||decide (e.on<i))=true∧(!E oi||oi.guard.isNone)=true∧ ∀(j:Nat) (oj:Oper),ops[j]?=some oj→(i==j||AQ fz E ops ac i j oi oj)=true:=λi oi hi=>by
  have h1:=List.all_eq_true.1 h i (List.mem_range.2 (Array.getElem?_eq_some_iff.1 hi).1)
  rw[hi]at h1
  simp only[Bool.and_eq_true]at h1
  refine⟨h1.1.1,h1.1.2,λj oj hj=>?_⟩
  have h2:=List.all_eq_true.1 h1.2 j (List.mem_range.2 (Array.getElem?_eq_some_iff.1 hj).1)
  rw[hj]at h2
  exact h2
 have pair: ∀(i j:Nat) (oi oj:Oper),ops[i]?=some oi→ops[j]?=some oj→i≠j→(((match oj.dst with
  |none=>true
  |some d=>oi.dst !=some d&&(!(oi.looksAt ops).contains d||((if j<i then eJ oi j else eJ oj i)&&(!E oj||E oi||decide (i<j))&&(!(E oi&& !E oj)||decide (j<i)))))=true∧
  (!(!E oj&& !E oi&&isW oj.op&&(isW oi.op||isR fz oi.dst oi.op))||(if j<i then((ac[i]?).getD []).contains j else((ac[j]?).getD []).contains i))=true)∧
  (!(E oi&&E oj&&decide (j<i))||((ac[i]?).getD []).contains j)=true∧(!(E oi&& !E oj&&(isW oj.op||isR fz oj.dst oj.op))||((Al oi.op&&isZ oj.op)||((ac[i]?).getD []).contains j))=true):=λi j oi oj hi hj hne=>by
  have:=(hall i oi hi).2.2 j oj hj
  rw[Bool.or_eq_true]at this
  rcases this with h|h
  ·exact absurd (by simpa using h) hne
  ·unfold AQ at h
   rw[Bool.and_eq_true,Bool.and_eq_true,Bool.and_eq_true]at h
   exact h
 refine⟨λi oi j hi hj=>?_,λi j oi oj d hi hj hdi hdj=>?_,λi oi hi e he hb=>?_,λi oi hi hE=>?_,λi j oi oj d hi hj hne hd hm=>?_,λi j oi oj hi hj hne h1 h2 hw hr=>?_,λi j oi oj hi hj h1 h2 hlt=>?_,λi j oi oj hi hj h1 h2 hr haz=>?_⟩
 ·have h1:=List.all_eq_true.1 hanc i (List.mem_range.2 (Array.getElem?_eq_some_iff.1 hi).1)
  rw[hi]at h1
  have h2:=List.all_eq_true.1 h1 j hj
  obtain⟨e,he,h3⟩:=Array.any_eq_true'.1 h2
  simp only[Bool.and_eq_true,Bool.or_eq_true,beq_iff_eq,List.contains_iff_mem]at h3
  exact⟨e,he,h3.1,h3.2⟩
 ·by_cases hij:i=j
  ·exact hij
  ·have:=(pair i j oi oj hi hj hij).1.1
   rw[hdj]at this
   simp only[Bool.and_eq_true,bne_iff_ne,ne_eq]at this
   exact absurd hdi this.1
 ·have:=Array.all_eq_true_iff_forall_mem.1 (hall i oi hi).1 e he
  simpa[hb]using this
 ·have:=(hall i oi hi).2.1
  simpa[hE]using this
 ·have:=(pair i j oi oj hi hj hne).1.1
  rw[hd]at this
  simp only[Bool.and_eq_true,bne_iff_ne,ne_eq,Bool.or_eq_true,Bool.not_eq_true',List.contains_eq_mem,decide_eq_false_iff_not]at this
  rcases this.2 with h|⟨⟨h,h3⟩,h4⟩
  ·exact absurd hm h
  ·refine⟨λhlt=>by rwa [if_pos hlt]at h,λhgt=>by rwa [if_neg (by omega)]at h,λhE hE'=>?_,λhE hE'=>?_⟩
   ·rcases h3 with(h3|h3)|h3
    ·rw[hE]at h3;cases h3
    ·rw[hE']at h3;cases h3
    ·simpa using h3
   ·rcases h4 with h4|h4
    ·simp[hE,hE']at h4
    ·simpa using h4
 ·have:=(pair i j oi oj hi hj hne).1.2
  simp only[h1,h2,hw,hr,Bool.not_false,Bool.and_self,Bool.not_true,Bool.false_or]at this
  refine⟨λhlt=>by rw[if_pos hlt]at this;simpa using this,λhgt=>by rw[if_neg (by omega)]at this;simpa using this⟩
 ·have:=(pair i j oi oj hi hj (by omega)).2.1
  simpa[h1,h2,hlt]using this
 ·have:=(pair i j oi oj hi hj (λe=>by subst e;rw[hi]at hj;cases hj;rw[h1]at h2;cases h2)).2.2
  simp only[h1,h2,hr,haz,Bool.not_false,Bool.and_self,Bool.not_true,Bool.false_or]at this
  simpa using this
theorem oM (hf:lu fz E ops ac){S:Nat→Prop}(hcl: ∀(i:Nat)(oi:Oper),ops[i]?=some oi→S i→ ∀e∈oi.after,Region.binds .any e=true→S e.on):
  ∀(i:Nat) (oi:Oper),ops[i]?=some oi→(∀e∈oi.after,Region.binds .any e=true→S e.on)→ ∀j∈(ac[i]?).getD [],S j:=λi=>by
 induction i using Nat.strongRecOn with
 |_ i ih=>
  intro oi hi hs j hj
  obtain⟨e,he,hb,hj'⟩:=hf.anc i oi j hi hj
  have hlt:=hf.tY i oi hi e he hb
  rcases hj' with rfl|hj'
  ·exact hs e he hb
  ·have hk: ∃ok,ops[e.on]?=some ok:=⟨_,Array.getElem?_eq_getElem (Nat.lt_trans hlt (Array.getElem?_eq_some_iff.1 hi).1)⟩
   obtain⟨ok,hk⟩:=hk
   exact ih e.on hlt ok hk (hcl e.on ok hk (hs e he hb)) j hj'
theorem fS {j:Nat}(h:eJ o j=true): ∃e∈o.after,e.on=j∧Region.binds .any e=true:=by
 unfold eJ at h
 obtain⟨e,he,h⟩:=Array.any_eq_true'.1 h
 simp only[Bool.and_eq_true,beq_iff_eq]at h
 exact⟨e,he,h.1,h.2⟩
theorem pJ {α:Type}{p q:α→Bool}: ∀{l:List α} {x:α},(∀y∈l,q y=true→p y=true)→x∈l→p x=true→q x=false→l.countP q<l.countP p
 |y::l,x,hpq,hx,hp,hq=>by
  have hle:l.countP q≤l.countP p:=List.countP_mono_left (λz hz=>hpq z (by simp[hz]))
  rcases List.mem_cons.1 hx with rfl|hx
  ·rw[List.countP_cons_of_pos hp,List.countP_cons_of_neg (by simp[hq])]
   omega
  ·have ih:=pJ (l:=l) (λz hz=>hpq z (by simp[hz])) hx hp hq
   by_cases hqy:q y=true
   ·rw[List.countP_cons_of_pos hqy,List.countP_cons_of_pos (hpq y (by simp) hqy)];omega
   ·rw[List.countP_cons_of_neg hqy]
    by_cases hpy:p y=true
    ·rw[List.countP_cons_of_pos hpy];omega
    ·rw[List.countP_cons_of_neg hpy];exact ih
def HY (E:Oper→Bool)(ops:Array Oper)(ss:List ab)(listed:Array Bool)(st:ab):Prop:=
 ∃m,m≤ops.size∧ss[m]?=some st∧ ∀(j:Nat) (oj:Oper),ops[j]?=some oj→E oj=false→isW oj.op=true→(listed.getD j false=true↔j<m)
def eVC (P:Program)(W0:World)(n:Nat)(fz:List Nat):List Oper→(aa→Prop)→aa→Prop
 |[],K,B=>K B
 |o::r,K,B=>DZ fz o.op∧tZ P W0 n fz o B λB'=>eVC P W0 n fz r K B'
theorem gy {listed:Array Bool}{i:Nat}(hi:i<listed.size)(j:Nat):(listed.setIfInBounds i true).getD j false=true↔(listed.getD j false=true∨j=i):=by
 by_cases hj:j=i
 ·subst hj
  simp[Array.getD,hi]
 ·rw[getD_set_ne false (Ne.symm hj)];simp[hj]
theorem cC {listed:Array Bool}{i:Nat}(hi:i<listed.size)(j:Nat):(listed.setIfInBounds i true).getD j false=false↔(listed.getD j false=false∧j≠i):=by
 have:=gy hi j
 cases h1:(listed.setIfInBounds i true).getD j false<;>cases h2:listed.getD j false<;>simp_all
theorem kW (hf:lu fz E ops ac){listed:Array Bool}(hsz:listed.size=ops.size)(hnil:Region.ready .any ops listed=[]): ∀i,i<ops.size→listed.getD i false=true:=λi=>by
 induction i using Nat.strongRecOn with
 |_ i ih=>
  intro hi
  cases hl:listed.getD i false with
  |true=>rfl
  |false=>
   exfalso
   have:i∈Region.ready .any ops listed:=mem_ready.2 ⟨by
    have h1:i<listed.size:=by omega
    simp[Array.getD,h1]at hl ⊢
    exact hl,ops[i],Array.getElem?_eq_getElem hi,λe he hb=>ih e.on (hf.tY i _ (Array.getElem?_eq_getElem hi) e he hb) (by have:=hf.tY i _ (Array.getElem?_eq_getElem hi) e he hb;omega)⟩
   rw[hnil]at this
   cases this
theorem vk {listed:Array Bool}(hfuel:(List.range ops.size).countP (λi=>!listed.getD i true)≤0):Region.ready .any ops listed=[]:=by
 cases hrd:Region.ready .any ops listed with
 |nil=>rfl
 |cons i r=>
  exfalso
  have hi:i∈Region.ready .any ops listed:=by rw[hrd];simp
  obtain⟨h1,o,ho,_⟩:=mem_ready.1 hi
  have:=List.countP_pos_iff (p:=λi=>!listed.getD i true) (l:=List.range ops.size) |>.2 ⟨i,List.mem_range.2 (Array.getElem?_eq_some_iff.1 ho).1,by simp only[h1];rfl⟩
  omega
theorem CB {listed:Array Bool}{i fuel:Nat}(hsz:listed.size=ops.size)(hilt:i<ops.size)(h1:listed.getD i true=false)(hfuel:(List.range ops.size).countP (λi=>!listed.getD i true)≤fuel+1):
  (List.range ops.size).countP (λj=>!(listed.setIfInBounds i true).getD j true)≤fuel:=by
 have:=pJ (l:=List.range ops.size) (p:=λj=>!listed.getD j true) (q:=λj=>!(listed.setIfInBounds i true).getD j true) (x:=i) (λj _ hj=>by
  by_cases hji:j=i
  ·subst hji;simpa using h1
  ·rw[getD_set_ne true (Ne.symm hji)]at hj;exact hj) (List.mem_range.2 hilt) (by rw[h1];rfl) (by
   have h3:i<listed.size:=by omega
   simp[Array.getD,h3])
 omega
def sh (ops:Array Oper)(listed:Array Bool):Prop:=∀ (i:Nat) (oi:Oper),ops[i]?=some oi→listed.getD i true=true→ ∀e∈oi.after,Region.binds .any e=true→listed.getD e.on false=true
theorem sh.next {listed:Array Bool}{i:Nat}(hcl:sh ops listed)(ho:ops[i]?=some o)(h2: ∀e∈o.after,Region.binds .any e=true→listed.getD e.on false=true):sh ops (listed.setIfInBounds i true):=λj oj hj hlj e he hb=>by
 by_cases hji:j=i
 ·subst hji
  rw[ho]at hj
  cases hj
  exact getD_set_true (h2 e he hb)
 ·rw[getD_set_ne true (Ne.symm hji)]at hlj
  exact getD_set_true (hcl j oj hj hlj e he hb)
structure Mid (fz:List Nat)(E:Oper→Bool)(ops:Array Oper)(vs:List AV)(ss:List ab)(A:aa)(listed:Array Bool)(rem:List (Oper×Nat))(D B:aa):Prop where
 a: ∀(i:Nat) (o:Oper) (d:Nat),ops[i]?=some o→E o=false→o.dst=some d→listed.getD i false=false→D.env d=A.env d
 b: ∀d,(∀(i:Nat) (o:Oper),ops[i]?=some o→E o=false→o.dst=some d→listed.getD i false=true)→D.env d=B.env d
 st:D.st=B.st
 v: ∀(i:Nat) (o:Oper) (d:Nat) (v:AV),ops[i]?=some o→E o=false→o.dst=some d→vs[i]?=some v→B.env d=v
 o: ∀d,(∀(i:Nat) (o:Oper),ops[i]?=some o→o.dst=some d→E o=true∧listed.getD i false=false)→B.env d=A.env d
 rw: ∀(i:Nat) (o:Oper),ops[i]?=some o→E o=false→(isW o.op||isR fz o.dst o.op)=true→isZ o.op=false→listed.getD i false=true
 z: ∀(i:Nat) (o:Oper) (σi:ab),ops[i]?=some o→E o=false→isR fz o.dst o.op=true→isZ o.op=true→listed.getD i false=false→ss[i]?=some σi→ ∃τ,D.st=σi++τ
 r1: ∀p∈rem,ops[p.2]?=some p.1∧E p.1=true∧listed.getD p.2 false=false
 r2: ∀(i:Nat) (o:Oper),ops[i]?=some o→E o=true→listed.getD i false=false→(o,i)∈rem
 r3:rem.Pairwise λp q=>p.2<q.2
theorem zi {vs:List AV}{ss:List ab}{Qx:Exit→Act→World→Prop}(hf:lu fz E ops ac)(hlen:vs.length=ops.size)
  (hat: ∀j o v,ops[j]?=some o→vs[j]?=some v→ ∃Tj σ',jE E ops vs A (· <j) Tj∧ss[j]?=some Tj.st∧ss[j+1]?=some σ'∧(E o=true→σ'=Tj.st)∧(E o=false→ik P W0 n fz ops o Tj v σ')):
  ∀(fuel:Nat) (listed:Array Bool) (D B:aa) (rem:List (Oper×Nat)) (w:World) (C:Ctx) (a:Act),listed.size=ops.size→(List.range ops.size).countP (λi=>!listed.getD i true)≤fuel→sh ops listed→
   Mid fz E ops vs ss A listed rem D B→bL P W0 n w C D a→eVC P W0 n fz (rem.map (·.1)) K B→(∀B' C' a' w',K B'→bL P W0 n w' C' B' a'→Step w C w' C'→Qx .normal a' w')→jU P .any ops Qx fuel listed a w:=by
 have hend: ∀(listed:Array Bool) (D B:aa) (rem:List (Oper×Nat)),(∀i,i<ops.size→listed.getD i false=true)→Mid fz E ops vs ss A listed rem D B→eVC P W0 n fz (rem.map (·.1)) K B→D=B∧K B:=λlisted D B rem hall hm hK=>by
  have hrem:rem=[]:=by
   cases rem with
   |nil=>rfl
   |cons p r=>
    obtain⟨h1,_,h3⟩:=hm.r1 p (by simp)
    rw[hall p.2 (Array.getElem?_eq_some_iff.1 h1).1]at h3
    cases h3
  subst hrem
  refine⟨?_,hK⟩
  have h1:=hm.st
  have h2:D.env=B.env:=funext λd=>hm.b d λi o hi _ _=>hall i (Array.getElem?_eq_some_iff.1 hi).1
  cases D;cases B;simp only at h1 h2;subst h1 h2;rfl
 intro fuel
 induction fuel with
 |zero=>
  intro listed D B rem w C a hsz hfuel hclosed hm hr hK hq
  have hnil:=vk hfuel
  obtain⟨rfl,hKB⟩:=hend listed D B rem (kW hf hsz hnil) hm hK
  exact⟨hnil,hq _ C a w hKB hr (.refl _ _)⟩
 |succ fuel ih=>
  intro listed D B rem w C a hsz hfuel hclosed hm hr hK hq
  refine⟨λhnil=>?_,λi hi=>?_⟩
  ·obtain⟨rfl,hKB⟩:=hend listed D B rem (kW hf hsz hnil) hm hK
   exact hq _ C a w hKB hr (.refl _ _)
  ·obtain⟨h1,o,ho,h2⟩:=mem_ready.1 hi
   have hilt:=(Array.getElem?_eq_some_iff.1 ho).1
   have hil:i<listed.size:=by omega
   have hif:listed.getD i false=false:=by
    simp[Array.getD,hil]at h1 ⊢
    exact h1
   have hcl: ∀(j:Nat) (oj:Oper),ops[j]?=some oj→listed.getD j false=true→eJ oj i=true→False:=λj oj hj hlj hwt=>by
    have hjlt:=(Array.getElem?_eq_some_iff.1 hj).1
    obtain⟨e,he,e1,e2⟩:=fS hwt
    have:=hclosed j oj hj (by
     have h3:j<listed.size:=by omega
     simp[Array.getD,h3]at hlj ⊢
     exact hlj) e he e2
    rw[e1,hif]at this
    cases this
   have hwt: ∀(j:Nat),eJ o j=true→listed.getD j false=true:=λj hw=>by
    obtain⟨e,he,e1,e2⟩:=fS hw
    rw[←e1];exact h2 e he e2
   have hdone: ∀j∈(ac[i]?).getD [],listed.getD j false=true:=oM hf (S:=λj=>listed.getD j false=true) (λj oj hj hlj=>hclosed j oj hj (by
    have h3:j<listed.size:=by have:=(Array.getElem?_eq_some_iff.1 hj).1;omega
    simp[Array.getD,h3]at hlj ⊢
    exact hlj)) i o ho h2
   have hsz':(listed.setIfInBounds i true).size=ops.size:=by simpa using hsz
   have hfuel':=CB hsz hilt h1 hfuel
   have hclosed':=hclosed.next ho h2
   unfold BZ
   rw[ho]
   simp only
   cases hEo:E o with
   |false=>
    obtain⟨vi,hv⟩: ∃v,vs[i]?=some v:=⟨_,List.getElem?_eq_getElem (l:=vs) (show i<vs.length by omega)⟩
    obtain⟨T,σ',hT,hTs,_,_,hstep⟩:=hat i o vi ho hv
    have hnrw:(isW o.op||isR fz o.dst o.op)=false∨(isR fz o.dst o.op=true∧isZ o.op=true):=by
     cases hx:(isW o.op||isR fz o.dst o.op)with
     |false=>exact .inl rfl
     |true=>
      cases hz:isZ o.op with
      |false=>have:=hm.rw i o ho hEo hx hz;rw[hif]at this;cases this
      |true=>
       have hw:isW o.op=false:=by cases hw:isW o.op with|false=>rfl|true=>rw[ux hw]at hz;cases hz
       rw[hw,Bool.false_or]at hx
       exact .inr ⟨hx,rfl⟩
    have hW:isW o.op=false:=by
     rcases hnrw with h|⟨_,h⟩
     ·simp only[Bool.or_eq_false_iff]at h;exact h.1
     ·cases hw:isW o.op with|false=>rfl|true=>rw[ux hw]at h;cases h
    have hlook: ∀d∈o.looksAt ops,D.env d=T.env d:=(λd hd=>by
     by_cases hex: ∃(j:Nat) (oj:Oper),ops[j]?=some oj∧oj.dst=some d
     ·obtain⟨j,oj,hj,hdj⟩:=hex
      have honly: ∀k ok,ops[k]?=some ok→ok.dst=some d→k=j:=λk ok hk hdk=>hf.G1 k j ok oj d hk hj hdk hdj
      by_cases hEj:E oj=true
      ·have hji:j≠i:=λe=>by subst e;rw[ho]at hj;cases hj;rw[hEo]at hEj;cases hEj
       have hl:=hf.look i j o oj d ho hj (Ne.symm hji) hdj hd
       have hgt:=hl.2.2.1 hEj hEo
       have hnl:listed.getD j false=false:=by
        cases hlj:listed.getD j false with
        |false=>rfl
        |true=>exact(hcl j oj hj hlj (hl.2.1 hgt)).elim
       rw[hm.b d (λk ok hk hok hdk=>by have:=honly k ok hk hdk;subst this;rw[hj]at hk;cases hk;rw[hEj]at hok;cases hok),hm.o d (λk ok hk hdk=>by have:=honly k ok hk hdk;subst this;rw[hj]at hk;cases hk;exact⟨hEj,hnl⟩),hT.old d (λk ok _ hk hok hdk=>by have:=honly k ok hk hdk;subst this;rw[hj]at hk;cases hk;rw[hEj]at hok;cases hok)]
      have hEj:E oj=false:=by simpa using hEj
      have hvj:=List.getElem?_eq_getElem (l:=vs) (show j<vs.length by have:=(Array.getElem?_eq_some_iff.1 hj).1;omega)
      rcases Nat.lt_trichotomy j i with hlt|heq|hgt
      ·have hlj:=hwt j ((hf.look i j o oj d ho hj (by omega) hdj hd).1 hlt)
       rw[hm.b d (λk ok hk _ hdk=>by rw[honly k ok hk hdk];exact hlj),hm.v j oj d _ hj hEj hdj hvj,hT.set j oj d _ hlt hj hEj hdj hvj]
      ·subst heq
       rw[hm.a j oj d hj hEj hdj hif,hT.old d (λk ok hk hok _ hdk=>by have:=honly k ok hok hdk;omega)]
      ·have hnl:listed.getD j false=false:=by
        cases hlj:listed.getD j false with
        |false=>rfl
        |true=>exact(hcl j oj hj hlj ((hf.look i j o oj d ho hj (by omega) hdj hd).2.1 hgt)).elim
       rw[hm.a j oj d hj hEj hdj hnl,hT.old d (λk ok hk hok _ hdk=>by have:=honly k ok hok hdk;omega)]
     ·rw[hm.b d (λk ok hk _ hdk=>absurd ⟨k,ok,hk,hdk⟩ hex),hm.o d (λk ok hk hdk=>absurd ⟨k,ok,hk,hdk⟩ hex),hT.old d (λk ok _ hk _ hdk=>hex ⟨k,ok,hk,hdk⟩)])
    have hstepD:ik P W0 n fz ops o D vi D.st:=by
     rcases hnrw with hn|⟨hR,hz⟩
     ·have:=(hstep hEo).congr (B:=D) (λhx=>by rw[hn]at hx;cases hx) hlook
      rw[hW]at this
      simpa only[Bool.false_eq_true,if_false]using this
     ·obtain⟨τ,hτ⟩:=hm.z i o T.st ho hEo hR hz hif hTs
      exact(hstep hEo).MV hz τ hτ hlook
    have hmid:Mid fz E ops vs ss A (listed.setIfInBounds i true) rem (D.put o.dst vi) B:=by
     refine⟨λj oj d hj hEj hdj hlj=>?_,λd hd=>?_,by rw[aa.GJ];exact hm.st,hm.v,λd hd'=>hm.o d λj oj hj hdj=>⟨(hd' j oj hj hdj).1,((cC hil j).1 (hd' j oj hj hdj).2).1⟩,λj oj hj hEj hx hz=>(gy hil j).2 (.inl (hm.rw j oj hj hEj hx hz)),λj oj σj hj hEj hR hz hl hs=>by rw[aa.GJ];exact hm.z j oj σj hj hEj hR hz ((cC hil j).1 hl).1 hs,λp hp=>?_,λj oj hj hEj hlj=>?_,hm.r3⟩
     ·obtain⟨g1,g2⟩:=(cC hil j).1 hlj
      rw[dV (λhod=>g2 (hf.G1 j i oj o d hj ho hdj hod))]
      exact hm.a j oj d hj hEj hdj g1
     ·by_cases hod:o.dst=some d
      ·rw[fQ hod,hm.v i o d vi ho hEo hod hv]
      ·rw[dV hod]
       refine hm.b d λj oj hj hEj hdj=>?_
       rcases(gy hil j).1 (hd j oj hj hEj hdj)with h|h
       ·exact h
       ·subst h;rw[ho]at hj;cases hj;exact absurd hdj hod
     ·obtain⟨g1,g2,g3⟩:=hm.r1 p hp
      refine⟨g1,g2,(cC hil p.2).2 ⟨g3,λe=>?_⟩⟩
      rw[e,ho]at g1;cases g1;rw[hEo]at g2;cases g2
     ·exact hm.r2 j oj hj hEj ((cC hil j).1 hlj).1
    have hgo: ∀w' C' a',bL P W0 n w' C' (D.put o.dst vi) a'→Step w C w' C'→jU P .any ops Qx fuel (listed.setIfInBounds i true) a' w':=λw' C' a' hr' hs=>
     ih _ _ B rem w' C' a' hsz' hfuel' hclosed' hmid hr' hK (λB' C'' a'' w'' hKB hr'' hs''=>hq B' C'' a'' w'' hKB hr'' (hs.trans hs''))
    obtain⟨hd,hstepD⟩:=hstepD
    have same: ∀v,(D.put o.dst v).al D.st=D.put o.dst v:=λv=>by cases o.dst<;>rfl
    have fin: ∀x w',aC P w' C vi x→Step w C w' C→aB P W0 w' C D.st→jU P .any ops Qx fuel (listed.setIfInBounds i true) (a.put o.dst x) w':=λx w' hv hs hst=>hgo w' C _ (by
     have:=j6 (o:=o) hr hd hs hst hv
     rwa [same]at this) hs
    split at hstepD
    ·rename_i hg
     rw[if_pos (by simp[Region.wanted,hg])]
     rcases hstepD with⟨_,_,hp⟩|⟨hW',_⟩
     ·exact⟨hp.1 w C a (hr.toO o) _ _ fin,dP (hp.1 w C a (hr.toO o) _ _ λx _ _ _ _=>put_defers a o.dst x)⟩
     ·rw[hW]at hW';cases hW'
    ·rename_i j want hg
     obtain⟨_,_,G,u,g1,g2,g3⟩:=hstepD
     have hw:=sa hr g1 hg
     rw[hw]
     cases G with
     |true=>
      rw[if_pos rfl]
      exact⟨(g3 rfl).1 w C a (hr.toO o) _ _ λx w' hv hs hst=>fin x w' (by rw[g2];exact .maybe (λ_=>hv) (λe=>by cases e)) hs hst,dP ((g3 rfl).1 w C a (hr.toO o) _ _ λx _ _ _ _=>put_defers a o.dst x)⟩
     |false=>
      rw[if_neg (by simp)]
      exact hgo w C _ (kK hr hd (v:=vi) (x:=undef) (by rw[g2];exact .maybe (λe=>by cases e) (λ_=>rfl))) (.refl _ _)
   |true=>
    have hmem:=hm.r2 i o ho hEo hif
    cases hrem:rem with
    |nil=>rw[hrem]at hmem;cases hmem
    |cons p r=>
     have hhead:p=(o,i):=by
      rw[hrem]at hmem
      rcases List.mem_cons.1 hmem with h|h
      ·exact h.symm
      ·exfalso
       have h3:=hm.r3
       rw[hrem]at h3
       have hlt:=(List.pairwise_cons.1 h3).1 (o,i) h
       obtain⟨g1,g2,g3⟩:=hm.r1 p (by rw[hrem];simp)
       have:=hdone p.2 (hf.chain i p.2 o p.1 ho g1 hEo g2 hlt)
       rw[g3]at this;cases this
     subst hhead
     rw[hrem,List.map_cons]at hK
     obtain⟨hnf,hop⟩:=hK
     rw[if_pos (by simp[Region.wanted,hf.gd i o ho hEo])]
     have hrO:eD P W0 o w C B a:=mZ (ops:=ops) (T:=B) (B:=D) hm.st (λd hd=>hm.b d λj oj hj hEj hdj=>by
      have hne:i≠j:=λe=>by subst e;rw[ho]at hj;cases hj;rw[hEo]at hEj;cases hEj
      have hl:=hf.look i j o oj d ho hj hne hdj hd
      exact hwt j (hl.1 (hl.2.2.2 hEo hEj))) (hr.toO o)
     have hd:=hop.1
     have hop:tZ P W0 n fz o B (λB'=>eVC P W0 n fz (r.map (·.1)) K B'∧(Al o.op=true→ ∃τ,B'.st=B.st++τ)):=by
      cases hal:Al o.op with
      |false=>
       have e:(λB'=>eVC P W0 n fz (r.map (·.1)) K B'∧(false=true→ ∃τ,B'.st=B.st++τ))=λB'=>eVC P W0 n fz (r.map (·.1)) K B':=funext λB'=>propext ⟨λh=>h.1,λh=>⟨h,λe=>by cases e⟩⟩
       rw[e]
       exact hop
      |true=>
       obtain⟨h1,h2⟩:=hop
       refine⟨h1,?_⟩
       cases ho':o.op<;>rw[ho']at hal h2<;>first|(simp[Al]at hal;done)|skip
       simp only at h2 ⊢
       split at h2
       ·exact⟨h2,λ_=>⟨_,rfl⟩⟩
       ·exact h2
     refine⟨sv hrO hnf hop λv x σ' w' C' hK' hv hst hs=>?_,dP (sv hrO hnf hop λ_ x _ _ _ _ _ _ _=>put_defers a o.dst x)⟩
     obtain⟨hK',hup⟩:=hK'
     have hr':=j6 (o:=o) hr hd hs hst hv
     refine ih _ ((D.put o.dst v).al σ') ((B.put o.dst v).al σ') r w' C' _ hsz' hfuel' hclosed' ?_ hr' hK' (λB' C'' a'' w'' hKB hr'' hs''=>hq B' C'' a'' w'' hKB hr'' (hs.trans hs''))
     have hEne: ∀(j:Nat) (oj:Oper),ops[j]?=some oj→E oj=false→j≠i:=λj oj hj hEj e=>by subst e;rw[ho]at hj;cases hj;rw[hEo]at hEj;cases hEj
     refine⟨λj oj d hj hEj hdj hlj=>?_,λd hd'=>?_,rfl,λj oj d u hj hEj hdj hu=>?_,λd hd'=>?_,λj oj hj hEj hx hz=>(gy hil j).2 (.inl (hm.rw j oj hj hEj hx hz)),λj oj σj hj hEj hR hz hl hs'=>?_,λp hp=>?_,λj oj hj hEj hlj=>?_,?_⟩
     ·rw[gU,dV (λhod=>hEne j oj hj hEj (hf.G1 j i oj o d hj ho hdj hod))]
      exact hm.a j oj d hj hEj hdj ((cC hil j).1 hlj).1
     ·rw[gU,gU]
      by_cases hod:o.dst=some d
      ·rw[fQ hod,fQ hod]
      ·rw[dV hod,dV hod]
       refine hm.b d λj oj hj hEj hdj=>?_
       rcases(gy hil j).1 (hd' j oj hj hEj hdj)with h|h
       ·exact h
       ·exact absurd h (hEne j oj hj hEj)
     ·rw[gU,dV (λhod=>hEne j oj hj hEj (hf.G1 j i oj o d hj ho hdj hod))]
      exact hm.v j oj d u hj hEj hdj hu
     ·have hne:o.dst≠some d:=λhod=>by
       have:=(hd' i o ho hod).2
       rw[(gy hil i).2 (.inr rfl)]at this
       cases this
      rw[gU,dV hne]
      exact hm.o d λj oj hj hdj=>⟨(hd' j oj hj hdj).1,((cC hil j).1 (hd' j oj hj hdj).2).1⟩
     ·obtain⟨g1,g2⟩:=(cC hil j).1 hl
      obtain⟨τ,hτ⟩:=hm.z j oj σj hj hEj hR hz g1 hs'
      cases hal:Al o.op with
      |false=>
       have:=hdone j (hf.last i j o oj ho hj hEo hEj (by simp[hR]) (by simp[hal]))
       rw[g1]at this;cases this
      |true=>
       obtain⟨τ',hτ'⟩:=hup hal
       have e1:σ'=B.st++τ':=hτ'
       refine⟨τ++τ',?_⟩
       show σ'=_
       rw[e1,←hm.st,hτ,List.append_assoc]
     ·obtain⟨g1,g2,g3⟩:=hm.r1 p (by rw[hrem];exact List.mem_cons_of_mem _ hp)
      have h3:=hm.r3
      rw[hrem]at h3
      have hlt:=(List.pairwise_cons.1 h3).1 p hp
      exact⟨g1,g2,(cC hil p.2).2 ⟨g3,by simp only at hlt;omega⟩⟩
     ·obtain⟨g1,g2⟩:=(cC hil j).1 hlj
      have:=hm.r2 j oj hj hEj g1
      rw[hrem]at this
      rcases List.mem_cons.1 this with h|h
      ·cases h;exact absurd rfl g2
      ·exact h
     ·have h3:=hm.r3
      rw[hrem]at h3
      exact(List.pairwise_cons.1 h3).2
theorem nM (E:Oper→Bool): ∀(l:List Oper) (k:Nat),((l.zipIdx k).filter (λp=>E p.1)).map (·.1)=l.filter E
 |[],_=>rfl
 |o::r,k=>by
  rw[List.zipIdx_cons,List.filter_cons,List.filter_cons]
  cases h:E o with
  |true=>simp only[if_true,List.map_cons];rw[nM E r]
  |false=>simp only[Bool.false_eq_true,if_false];rw[nM E r]
theorem CF {vs:List AV}{ss:List ab}{B:aa}{Qx:Exit→Act→World→Prop}(hf:lu fz E ops ac)(hseq:Seq P W0 n fz E ops ops.toList A vs ss B)(hK:eVC P W0 n fz (ops.toList.filter E) K B):
  ∀(fuel:Nat) (listed:Array Bool) (D:aa) (w:World) (C:Ctx) (a:Act),listed.size=ops.size→(List.range ops.size).countP (λi=>!listed.getD i true)≤fuel→
   (∀(i:Nat) (oi:Oper),ops[i]?=some oi→listed.getD i true=true→ ∀e∈oi.after,Region.binds .any e=true→listed.getD e.on false=true)→
   (∀(i:Nat) (oi:Oper),ops[i]?=some oi→E oi=true→listed.getD i false=false)→
   jE E ops vs A (λi=>listed.getD i false=true) D→HY E ops (A.st::ss) listed D.st→bL P W0 n w C D a→(∀B' C' a' w',K B'→bL P W0 n w' C' B' a'→Step w C w' C'→Qx .normal a' w')→jU P .any ops Qx fuel listed a w:=by
 have hD:=hf.G1
 have hedge:=hf.tY
 have he0:jE E ops vs A (· <0) A:=⟨λi _ _ _ hi=>absurd hi (Nat.not_lt_zero i),λ_ _=>rfl⟩
 obtain⟨hat,hB,hlen,hBs⟩:=AN (ss:=A.st::ss) ops.toList vs ss 0 A B hD (by simp) (by simp) (λj=>by rw[show 0+1+j=j+1 by omega];simp) rfl hseq he0
 simp only[Nat.zero_add]at hat hB hBs
 have hBs':(A.st::ss)[ops.size]?=some B.st:=by simpa using hBs
 have hsame: ∀(d m:Nat),m+d≤ops.size→(∀(j:Nat) (oj:Oper),m≤j→j<m+d→ops[j]?=some oj→E oj=false→isW oj.op=false)→(A.st::ss)[m+d]?=(A.st::ss)[m]?:=λd=>by
  induction d with
  |zero=>intro m _ _;rfl
  |succ d ihd=>
   intro m hm hno
   rw[←ihd m (by omega) (λj oj h1 h2=>hno j oj h1 (by omega))]
   have hlt:m+d<ops.size:=by omega
   obtain⟨vj,hvj⟩: ∃v,vs[m+d]?=some v:=⟨_,List.getElem?_eq_getElem (l:=vs) (show m+d<vs.length by rw[hlen];simpa using hlt)⟩
   obtain⟨T,σ',_,e1,e2,hsk,hok⟩:=hat (m+d) ops[m+d] vj (by simp[hlt]) hvj
   have:σ'=T.st:=by
    cases hEm:E ops[m+d]with
    |true=>exact hsk hEm
    |false=>
    have hnw:=hno (m+d) ops[m+d] (by omega) (by omega) (by simp[hlt]) hEm
    have h2:=(hok hEm).2
    split at h2
    ·rcases h2 with h2|h2
     ·exact h2.2.1
     ·rw[hnw]at h2;cases h2.1
    ·exact h2.2.1
   rw[show m+(d+1)=m+d+1 by omega,e2,e1,this]
 have hstEnd: ∀(listed:Array Bool) (D:aa),(∀(i:Nat) (o:Oper),ops[i]?=some o→E o=false→(isW o.op||isR fz o.dst o.op)=true→isZ o.op=false→listed.getD i false=true)→HY E ops (A.st::ss) listed D.st→D.st=B.st:=λlisted D hall ⟨m,hm,hs,hw⟩=>by
  have:=hsame (ops.size-m) m (by omega) (λj oj h1 h2 hoj hEj=>by
   cases hwj:isW oj.op with
   |false=>rfl
   |true=>
    have:=(hw j oj hoj hEj hwj).1 (hall j oj hoj hEj (by simp[hwj]) (ux hwj))
    omega)
  rw[show m+(ops.size-m)=ops.size by omega,hBs',hs]at this
  exact(Option.some.inj this).symm
 have hat': ∀j o v,ops[j]?=some o→vs[j]?=some v→ ∃Tj σ',jE E ops vs A (· <j) Tj∧(A.st::ss)[j]?=some Tj.st∧(A.st::ss)[j+1]?=some σ'∧(E o=true→σ'=Tj.st)∧(E o=false→ik P W0 n fz ops o Tj v σ'):=λj o v hj hv=>hat j o v (by simpa using hj) hv
 have hover: ∀(fuel:Nat) (listed:Array Bool) (D:aa) (w:World) (C:Ctx) (a:Act),listed.size=ops.size→(List.range ops.size).countP (λi=>!listed.getD i true)≤fuel→sh ops listed→
   (∀(i:Nat) (oi:Oper),ops[i]?=some oi→E oi=true→listed.getD i false=false)→jE E ops vs A (λi=>listed.getD i false=true) D→HY E ops (A.st::ss) listed D.st→bL P W0 n w C D a→
   (∀(i:Nat) (o:Oper),ops[i]?=some o→E o=false→(isW o.op||isR fz o.dst o.op)=true→isZ o.op=false→listed.getD i false=true)→(∀B' C' a' w',K B'→bL P W0 n w' C' B' a'→Step w C w' C'→Qx .normal a' w')→jU P .any ops Qx fuel listed a w:=λfuel listed D w C a hsz hfuel hclosed hEl hE hS hr hall hq=>by
  refine zi hf (by rw[hlen];simp) hat' fuel listed D B ((ops.toList.zipIdx 0).filter (λp=>E p.1)) w C a hsz hfuel hclosed ⟨λi o d hi hEi hdi hl=>?_,λd hd=>?_,hstEnd listed D hall hS,λi o d v hi hEi hdi hv=>?_,λd hd=>?_,hall,λi o σi hi hEi hR hz hl hs=>?_,λp hp=>?_,λi o hi hEi hl=>?_,?_⟩ hr (by rw[nM];exact hK) hq
  ·exact hE.old d λk ok hk hok _ hdk=>by have:=hD k i ok o d hok hi hdk hdi;subst this;rw[hl]at hk;cases hk
  ·by_cases hex: ∃(i:Nat) (o:Oper),ops[i]?=some o∧E o=false∧o.dst=some d
   ·obtain⟨i,o,hi,hEi,hdi⟩:=hex
    have hlt:=(Array.getElem?_eq_some_iff.1 hi).1
    have hv:=List.getElem?_eq_getElem (l:=vs) (show i<vs.length by rw[hlen];simpa using hlt)
    rw[hE.set i o d _ (hd i o hi hEi hdi) hi hEi hdi hv,hB.set i o d _ (by simpa using hlt) hi hEi hdi hv]
   ·rw[hE.old d (λi o _ hi hEi hdi=>hex ⟨i,o,hi,hEi,hdi⟩),hB.old d (λi o _ hi hEi hdi=>hex ⟨i,o,hi,hEi,hdi⟩)]
  ·exact hB.set i o d v (by simpa using (Array.getElem?_eq_some_iff.1 hi).1) hi hEi hdi hv
  ·exact hB.old d λi o _ hi hEi hdi=>by have:=(hd i o hi hdi).1;rw[hEi]at this;cases this
  ·have hlt:=(Array.getElem?_eq_some_iff.1 hi).1
   have hnow: ∀(j:Nat) (oj:Oper),i≤j→j<i+(ops.size-i)→ops[j]?=some oj→E oj=false→isW oj.op=false:=λj oj h1 h2 hj hEj=>by
    cases hwj:isW oj.op with
    |false=>rfl
    |true=>
     have hne:i≠j:=λe=>by subst e;rw[hi]at hj;cases hj;rw[ux hwj]at hz;cases hz
     have hlj:=hall j oj hj hEj (by simp[hwj]) (ux hwj)
     have hmem:=(hf.wr i j o oj hi hj hne hEi hEj hwj (by simp[hR])).2 (by omega)
     have:=oM hf (S:=λj=>listed.getD j false=true) (λk ok hk hlk=>hclosed k ok hk (by
      have h3:k<listed.size:=by have:=(Array.getElem?_eq_some_iff.1 hk).1;omega
      simp[Array.getD,h3]at hlk ⊢
      exact hlk)) j oj hj (hclosed j oj hj (by
      have h3:j<listed.size:=by have:=(Array.getElem?_eq_some_iff.1 hj).1;omega
      simp[Array.getD,h3]at hlj ⊢
      exact hlj)) i hmem
     rw[hl]at this;cases this
   have hsm:=hsame (ops.size-i) i (by omega) hnow
   rw[show i+(ops.size-i)=ops.size by omega,hBs',hs]at hsm
   exact⟨[],by rw[List.append_nil,hstEnd listed D hall hS];exact Option.some.inj hsm⟩
  ·obtain⟨hp1,hp2⟩:=List.mem_filter.1 hp
   have h3:ops[p.2]?=some p.1:=by
    have:=List.mem_zipIdx_iff_getElem?.1 hp1
    simpa using this
   exact⟨h3,hp2,hEl p.2 p.1 h3 hp2⟩
  ·exact List.mem_filter.2 ⟨List.mem_zipIdx_iff_getElem?.2 (by simpa using hi),hEi⟩
  ·refine List.Pairwise.filter _ ?_
   rw[List.pairwise_iff_getElem]
   intro i j hi hj hij
   simp only[List.getElem_zipIdx]
   omega
 intro fuel
 induction fuel with
 |zero=>
  intro listed D w C a hsz hfuel hclosed hEl hE hS hr hq
  refine hover 0 listed D w C a hsz hfuel hclosed hEl hE hS hr (λi o hi _ _ _=>kW hf hsz (vk hfuel) i (Array.getElem?_eq_some_iff.1 hi).1) hq
 |succ fuel ih=>
  intro listed D w C a hsz hfuel hclosed hEl hE hS hr hq
  by_cases hall: ∀(i:Nat) (o:Oper),ops[i]?=some o→E o=false→(isW o.op||isR fz o.dst o.op)=true→isZ o.op=false→listed.getD i false=true
  ·exact hover (fuel+1) listed D w C a hsz hfuel hclosed hEl hE hS hr hall hq
  refine⟨λhnil=>absurd (λi o hi _ _ _=>kW hf hsz hnil i (Array.getElem?_eq_some_iff.1 hi).1) hall,λi hi=>?_⟩
  ·obtain⟨h1,o,ho,h2⟩:=mem_ready.1 hi
   have hilt:=(Array.getElem?_eq_some_iff.1 ho).1
   obtain⟨vi,hv⟩: ∃v,vs[i]?=some v:=⟨_,List.getElem?_eq_getElem (l:=vs) (show i<vs.length by rw[hlen];simpa using hilt)⟩
   obtain⟨T,σ',hT,hTs,hTs',_,hstep⟩:=hat i o _ (by simpa using ho) hv
   have hif:listed.getD i false=false:=by
    have h3:i<listed.size:=by omega
    simp[Array.getD,h3]at h1 ⊢
    exact h1
   have hil:i<listed.size:=by omega
   have hdone: ∀j∈(ac[i]?).getD [],listed.getD j false=true:=oM hf (S:=λj=>listed.getD j false=true) (λj oj hj hlj=>hclosed j oj hj (by
    have h3:j<listed.size:=by have:=(Array.getElem?_eq_some_iff.1 hj).1;omega
    simp[Array.getD,h3]at hlj ⊢
    exact hlj)) i o ho h2
   have hEo:E o=false:=by
    cases hEo:E o with
    |false=>rfl
    |true=>exact absurd (λj oj hj hEj hx hz=>hdone j (hf.last i j o oj ho hj hEo hEj hx (by rw[hz,Bool.and_false]))) hall
   replace hstep:=hstep hEo
   have hdoneOf: ∀(j:Nat) (oj:Oper),ops[j]?=some oj→listed.getD j false=true→ ∀k∈(ac[j]?).getD [],listed.getD k false=true:=λj oj hj hlj=>by
    have hcl': ∀(j:Nat) (oj:Oper),ops[j]?=some oj→listed.getD j false=true→ ∀e∈oj.after,Region.binds .any e=true→listed.getD e.on false=true:=λj oj hj hlj=>hclosed j oj hj (by
     have h3:j<listed.size:=by have:=(Array.getElem?_eq_some_iff.1 hj).1;omega
     simp[Array.getD,h3]at hlj ⊢
     exact hlj)
    exact oM hf (S:=λj=>listed.getD j false=true) hcl' j oj hj (hcl' j oj hj hlj)
   obtain⟨m,hm,hms,hmw⟩:=hS
   have hcl: ∀(j:Nat) (oj:Oper),ops[j]?=some oj→listed.getD j false=true→eJ oj i=true→False:=λj oj hj hlj hwt=>by
    have hjlt:=(Array.getElem?_eq_some_iff.1 hj).1
    obtain⟨e,he,e1,e2⟩:=fS hwt
    have:=hclosed j oj hj (by
     have h3:j<listed.size:=by omega
     simp[Array.getD,h3]at hlj ⊢
     exact hlj) e he e2
    rw[e1,hif]at this
    cases this
   have hpos:(isW o.op||isR fz o.dst o.op)=true→(A.st::ss)[i]?=(A.st::ss)[m]?∧(∀(j:Nat) (oj:Oper),ops[j]?=some oj→E oj=false→isW oj.op=true→j≠i→(listed.getD j false=true↔j<i)):=λhlk=>by
    have hiff: ∀(j:Nat) (oj:Oper),ops[j]?=some oj→E oj=false→isW oj.op=true→j≠i→(listed.getD j false=true↔j<i):=λj oj hj hEj hwj hne=>by
     obtain⟨g1,g2⟩:=hf.wr i j o oj ho hj (Ne.symm hne) hEo hEj hwj hlk
     constructor
     ·intro hlj
      rcases Nat.lt_or_gt_of_ne hne with hlt|hgt
      ·exact hlt
      ·have:=hdoneOf j oj hj hlj i (g2 hgt);rw[hif]at this;cases this
     ·intro hlt
      exact hdone j (g1 hlt)
    refine⟨?_,hiff⟩
    rcases Nat.le_total m i with hle|hle
    ·have:=hsame (i-m) m (by omega) (λj oj g1 g2 hoj hEj=>by
      cases hwj:isW oj.op with
      |false=>rfl
      |true=>
       have:=(hmw j oj hoj hEj hwj).1 ((hiff j oj hoj hEj hwj (by omega)).2 (by omega))
       omega)
     rwa [show m+(i-m)=i by omega]at this
    ·have:=hsame (m-i) i (by omega) (λj oj g1 g2 hoj hEj=>by
      cases hwj:isW oj.op with
      |false=>rfl
      |true=>
       have hlj:=(hmw j oj hoj hEj hwj).2 (by omega)
       by_cases hji:j=i
       ·subst hji;rw[hif]at hlj;cases hlj
       ·have:=(hiff j oj hoj hEj hwj hji).1 hlj
        omega)
     rw[show i+(m-i)=m by omega]at this
     exact this.symm
   have hstD:(isW o.op||isR fz o.dst o.op)=true→D.st=T.st:=λhlk=>by
    have:=(hpos hlk).1
    rw[hTs,hms]at this
    exact(Option.some.inj this).symm
   have hstepD:ik P W0 n fz ops o D vi (if isW o.op then σ' else D.st):=hstep.congr hstD (λd hd=>by
    by_cases hex: ∃(j:Nat) (oj:Oper),ops[j]?=some oj∧oj.dst=some d
    ·obtain⟨j,oj,hj,hdj⟩:=hex
     have hjlt:=(Array.getElem?_eq_some_iff.1 hj).1
     have hvj:=List.getElem?_eq_getElem (l:=vs) (show j<vs.length by rw[hlen];simpa using hjlt)
     have honly: ∀k ok,ops[k]?=some ok→ok.dst=some d→k=j:=λk ok hk hdk=>hD k j ok oj d hk hj hdk hdj
     by_cases hEj:E oj=true
     ·rw[hE.old d (λk ok _ hk hok hdk=>by have:=honly k ok hk hdk;subst this;rw[hj]at hk;cases hk;rw[hEj]at hok;cases hok),hT.old d (λk ok _ hk hok hdk=>by have:=honly k ok hk hdk;subst this;rw[hj]at hk;cases hk;rw[hEj]at hok;cases hok)]
     have hEj:E oj=false:=by simpa using hEj
     rcases Nat.lt_trichotomy j i with hlt|heq|hgt
     ·obtain⟨e,he,e1,e2⟩:=fS ((hf.look i j o oj d ho hj (by omega) hdj hd).1 hlt)
      have hlj:listed.getD j false=true:=by rw[←e1];exact h2 e he e2
      rw[hE.set j oj d _ hlj hj hEj hdj hvj,hT.set j oj d _ hlt hj hEj hdj hvj]
     ·subst heq
      have e1:D.env d=A.env d:=hE.old d (λk ok hk hok _ hdk=>by have:=honly k ok hok hdk;subst this;rw[hif]at hk;cases hk)
      have e2:T.env d=A.env d:=hT.old d (λk ok hk hok _ hdk=>by have:=honly k ok hok hdk;omega)
      rw[e1,e2]
     ·have hnl:listed.getD j false=false:=by
       cases hlj:listed.getD j false with
       |false=>rfl
       |true=>
        exfalso
        obtain⟨e,he,e1,e2⟩:=fS ((hf.look i j o oj d ho hj (by omega) hdj hd).2.1 hgt)
        have:=hclosed j oj hj (by
         have h3:j<listed.size:=by omega
         simp[Array.getD,h3]at hlj ⊢
         exact hlj) e he e2
        rw[e1,hif]at this
        cases this
      have e1:D.env d=A.env d:=hE.old d (λk ok hk hok _ hdk=>by have:=honly k ok hok hdk;subst this;rw[hnl]at hk;cases hk)
      have e2:T.env d=A.env d:=hT.old d (λk ok hk hok _ hdk=>by have:=honly k ok hok hdk;omega)
      rw[e1,e2]
    ·rw[hE.old d (λk ok _ hk _ hdk=>hex ⟨k,ok,hk,hdk⟩),hT.old d (λk ok _ hk _ hdk=>hex ⟨k,ok,hk,hdk⟩)])
   have hput:jE E ops vs A (λj=>(listed.setIfInBounds i true).getD j false=true) ((D.put o.dst vi).al (if isW o.op then σ' else D.st)):=by
    have hp:=hE.put hD ho hEo hv
    have hiff: ∀j,(listed.setIfInBounds i true).getD j false=true↔(listed.getD j false=true∨j=i):=λj=>by
     by_cases hj:j=i
     ·subst hj
      have h3:j<listed.size:=by omega
      simp[Array.getD,h3]
     ·rw[getD_set_ne false (Ne.symm hj)];simp[hj]
    exact⟨λj oj d u hj=>hp.set j oj d u ((hiff j).1 hj),λd hd=>hp.old d (λj oj hj=>hd j oj ((hiff j).2 hj))⟩
   have hsz':(listed.setIfInBounds i true).size=ops.size:=by simpa using hsz
   have hfuel':(List.range ops.size).countP (λj=>!(listed.setIfInBounds i true).getD j true)≤fuel:=by
    have:=pJ (l:=List.range ops.size) (p:=λj=>!listed.getD j true) (q:=λj=>!(listed.setIfInBounds i true).getD j true) (x:=i) (λj _ hj=>by
     by_cases hji:j=i
     ·subst hji;simpa using h1
     ·rw[getD_set_ne true (Ne.symm hji)]at hj;exact hj) (List.mem_range.2 hilt) (by rw[h1];rfl) (by
      have h3:i<listed.size:=by omega
      simp[Array.getD,h3])
    omega
   have hclosed': ∀(j:Nat) (oj:Oper),ops[j]?=some oj→(listed.setIfInBounds i true).getD j true=true→ ∀e∈oj.after,Region.binds .any e=true→(listed.setIfInBounds i true).getD e.on false=true:=λj oj hj hlj e he hb=>by
    by_cases hji:j=i
    ·subst hji
     rw[ho]at hj
     cases hj
     exact getD_set_true (h2 e he hb)
    ·rw[getD_set_ne true (Ne.symm hji)]at hlj
     exact getD_set_true (hclosed j oj hj hlj e he hb)
   have hS':HY E ops (A.st::ss) (listed.setIfInBounds i true) (if isW o.op then σ' else D.st):=by
    have hset: ∀j,(listed.setIfInBounds i true).getD j false=true↔(listed.getD j false=true∨j=i):=λj=>by
     by_cases hj:j=i
     ·subst hj
      have h3:j<listed.size:=by omega
      simp[Array.getD,h3]
     ·rw[getD_set_ne false (Ne.symm hj)];simp[hj]
    cases hW:isW o.op with
    |false=>
     refine⟨m,hm,by simpa using hms,λj oj hj hEj hwj=>?_⟩
     have hji:j≠i:=λe=>by subst e;rw[ho]at hj;cases hj;rw[hW]at hwj;cases hwj
     rw[hset]
     simp only[hji,or_false]
     exact hmw j oj hj hEj hwj
    |true=>
     refine⟨i+1,by omega,by simpa using hTs',λj oj hj hEj hwj=>?_⟩
     rw[hset]
     by_cases hji:j=i
     ·subst hji;simp
     ·have:=(hpos (by simp[hW])).2 j oj hj hEj hwj hji
      simp only[hji,or_false,this]
      omega
   have hgo: ∀w' C' a',bL P W0 n w' C' ((D.put o.dst vi).al (if isW o.op then σ' else D.st)) a'→Step w C w' C'→jU P .any ops Qx fuel (listed.setIfInBounds i true) a' w':=λw' C' a' hr' hs=>
    ih _ _ w' C' a' hsz' hfuel' hclosed' (λj oj hj hEj=>(cC hil j).2 ⟨hEl j oj hj hEj,λe=>by subst e;rw[ho]at hj;cases hj;rw[hEo]at hEj;cases hEj⟩) hput hS' hr' (λB' C'' a'' w'' hKB hr'' hs''=>hq B' C'' a'' w'' hKB hr'' (hs.trans hs''))
   unfold BZ
   rw[ho]
   simp only
   obtain⟨hd,hstepD⟩:=hstepD
   have fin:isW o.op=false→ ∀x w',aC P w' C vi x→Step w C w' C→aB P W0 w' C D.st→jU P .any ops Qx fuel (listed.setIfInBounds i true) (a.put o.dst x) w':=λhW x w' hv hs hst=>hgo w' C _ (by
    have:=j6 (o:=o) hr hd hs hst hv
    simpa[hW]using this) hs
   split at hstepD
   ·rename_i hg
    rw[if_pos (by simp[Region.wanted,hg])]
    rcases hstepD with⟨hW,_,hp⟩|⟨hW,hu,hp⟩
    ·exact⟨hp.1 w C a (hr.toO o) _ _ (fin hW),dP (hp.1 w C a (hr.toO o) _ _ λx _ _ _ _=>put_defers a o.dst x)⟩
    ·rw[if_pos hW]at hp
     obtain⟨w',r1,r2,r3⟩:=hp w C a (hr.toO o)
     refine⟨mc r1 (hgo w' C _ ?_ r2),dP (mc r1 (put_defers a o.dst undef))⟩
     rw[if_pos hW,hu]
     exact j6 (o:=o) hr hd r2 r3 (.undef _)
   ·rename_i j want hg
    obtain⟨hW,_,G,u,g1,g2,g3⟩:=hstepD
    have hw:=sa hr g1 hg
    rw[hw]
    cases G with
    |true=>
     rw[if_pos rfl]
     exact⟨(g3 rfl).1 w C a (hr.toO o) _ _ λx w' hv hs hst=>fin hW x w' (by rw[g2];exact .maybe (λ_=>hv) (λe=>by cases e)) hs hst,dP ((g3 rfl).1 w C a (hr.toO o) _ _ λx _ _ _ _=>put_defers a o.dst x)⟩
    |false=>
     rw[if_neg (by simp)]
     refine hgo w C _ ?_ (.refl _ _)
     have e:(D.put o.dst vi).al D.st=D.put o.dst vi:=by cases o.dst<;>rfl
     have:=kK hr hd (v:=vi) (x:=undef) (by rw[g2];exact .maybe (λe=>by cases e) (λ_=>rfl))
     rw[←e]at this
     simpa[hW]using this
theorem VC.SS {id:Nat}{l:List Oper}{Q:Exit→aa→Prop}(hm:P.follows .mixedOrders=true)(hdep:zy fz E l.toArray ac=true)(h: ∃vs ss B,Seq P W0 n fz E l.toArray l A vs ss B∧eVC P W0 n fz (l.filter E) (Q .normal) B):VC P W0 n (.region id l.toArray true) Q A:=λw C a hr=>by
 obtain⟨vs,ss,B,hseq,hB⟩:=h
 have hr':bL P W0 n w.drew C A a:=hr.step (Step.drew w C) hr.st.drew
 refine se hm (CF (K:=Q .normal) (Cq hdep) (vs:=vs) (ss:=ss) (B:=B) (by simpa using hseq) (by simpa using hB) l.toArray.size _ A w.drew C a (by simp) ?_ ?_ ?_ ?_ ?_ hr' ?_)
 ·exact Nat.le_trans List.countP_le_length (by simp)
 ·intro i oi hi hl
  have hlt:=(Array.getElem?_eq_some_iff.1 hi).1
  exfalso
  simp[Array.getD]at hl
  simp at hlt
  exact absurd hl (by omega)
 ·intro i oi hi _
  simp[Array.getD]
 ·refine⟨λi o d v hi=>?_,λ_ _=>rfl⟩
  exfalso
  simp[Array.getD]at hi
 ·exact⟨0,Nat.zero_le _,rfl,λj oj _ _ _=>by simp[Array.getD]⟩
 ·intro B' C' a' w' hK hr' hs
  exact⟨B',C',hK,hr',(Step.drew w C).trans hs⟩
end
end Go.Av
end
section
namespace Go.Av
open Go
def unm :AV→AV| .maybe _ v=>v|v=>v
def okM (gd:Option Bool):AV→Prop| .maybe g _=>imp gd (g=true)|_=>True
def gl (gd:Option Bool)(b:Bool):AV→Prop| .maybe g _=>imp gd (b=true→g=true)|_=>True
def yY :AV→Prop| .bool _=>True|_=>False
def bl :AV→Bool| .bool b=>b|_=>false
def isI :AV→Prop| .int _ _=>True|_=>False
def iv :AV→Int| .int _ n=>n|_=>0
def lN (b:Bool)(u v:AV):AV:=lY b u v
def cp (P:Program)(op:BinOp)(t:TypeId)(u v:AV):AV:=(ct P op t u v).getD .undef
def cu (P:Program)(op:BinOp)(t:TypeId)(u v:AV):Prop:=(ct P op t u v).isSome=true
def unV (op:UnOp)(u:AV):AV:=match op,u with| .not,.bool b=>.bool (!b)| .neg,.int k m=>.int k (k.wrap (-m))|_,_=>.undef
def unC (op:UnOp)(u:AV):Prop:=match op,u with| .not,.bool _=>True| .neg,.int _ _=>True|_,_=>False
def qw (σ:ab):AV→AV| .loc _ v=>v| .ptr _ id i path=>(look σ id i path).getD .undef|_=>.undef
def qC (gd:Option Bool)(σ:ab)(t:TypeId):AV→Prop| .loc t' _=>t'=t| .ptr t' id i path=>t'=t∧imp gd ((look σ id i path).isSome=true)|_=>False
def pK (P:Program)(s:TypeId)(k:Nat):AV→AV
 | .loc _ (.agg _ fs)=>.loc ((((bq P s).getD [])[k]?).getD 0) (fs[k]?.getD .undef)
 | .ptr _ id i path=>.ptr ((((bq P s).getD [])[k]?).getD 0) id i (path++[k])
 |_=>.undef
def pD (P:Program)(s:TypeId)(k:Nat):AV→Prop
 | .loc t (.agg t' fs)=>t=s∧t'=s∧bC P s=true∧(bq P s).isSome=true∧(((bq P s).getD [])[k]?).isSome=true∧fs[k]?.isSome=true
 | .ptr t _ _ _=>t=s∧bC P s=true∧(bq P s).isSome=true∧(((bq P s).getD [])[k]?).isSome=true
 |_=>False
def fvV (k:Nat):AV→AV| .agg _ fs=>fs[k]?.getD .undef|_=>.undef
def fvC (P:Program)(s:TypeId)(k:Nat):AV→Prop| .agg t fs=>t=s∧bC P s=true∧(bq P s).isSome=true∧(((bq P s).getD [])[k]?).isSome=true∧fs[k]?.isSome=true|_=>False
def atV (xs:List AV)(i:Int):AV:=xs[i.toNat]?.getD .undef
def dS (P:Program)(t:TypeId)(i:Int):AV→AV
 | .ptr _ id j path=>.ptr ((iA P t).getD 0) id j (path++[i.toNat])
 | .loc _ (.agg _ fs)=>.loc ((iA P t).getD 0) (fs[i.toNat]?.getD .undef)
 | .row e id off _=>.ptr e id (off+i.toNat) []
 | .sl e xs=>.loc e (atV xs i)
 | .lit e xs=>.loc e (atV xs i)
 | .own e xs _=>.loc e (atV xs i)
 |_=>.undef
def dZ (P:Program)(gd:Option Bool)(σ:ab)(t:TypeId)(i:Int):AV→Prop
 | .ptr t' _ _ _=>t'=t∧(iA P t).isSome=true∧(bq P t).isSome=true∧imp gd (0≤i∧i.toNat<((bq P t).getD []).length)
 | .loc t' (.agg t'' fs)=>t'=t∧t''=t∧(iA P t).isSome=true∧(bq P t).isSome=true∧imp gd (0≤i∧i.toNat<fs.length)
 | .row e id _ m=>elT P t=some e∧0<ae P e∧imp gd (0≤i∧i.toNat<m)∧live σ id
 | .sl e xs=>elT P t=some e∧0<ae P e∧imp gd (0≤i∧i.toNat<xs.length)
 | .lit e xs=>elT P t=some e∧0<ae P e∧imp gd (0≤i∧i.toNat<xs.length)
 | .own e xs _=>elT P t=some e∧0<ae P e∧imp gd (0≤i∧i.toNat<xs.length)
 |_=>False
def vJ (i:Int):AV→AV| .str l=>.int .u8 (l[i.toNat]?.getD 0).toNat| .agg _ fs=>fs[i.toNat]?.getD .undef|_=>.undef
def wO (P:Program)(gd:Option Bool)(t:TypeId)(i:Int):AV→Prop| .str l=>bK P t=true∧imp gd (0≤i∧i.toNat<l.length)| .agg t' fs=>t'=t∧(iA P t).isSome=true∧(bq P t).isSome=true∧imp gd (0≤i∧i.toNat<fs.length)|_=>False
def nU (k:Nat):AV→AV| .tup as=>as[k]?.getD .undef|_=>.undef
def pn (k:Nat):AV→Prop| .tup as=>as[k]?.isSome=true|_=>False
def gk (P:Program)(d:TypeId):AV→AV| .int _ m=>(match eH P d with|some k'=>.int k' (k'.wrap m)|none=>.str (xa m))| .str l=>.str l| .lit _ xs=>.str (xs.map jo)| .sl _ xs=>.str (xs.map jo)| .own _ xs _=>.str (xs.map jo)|_=>.undef
def byC (P:Program)(s d e:TypeId)(xs:List AV):Prop:=elT P s=some e∧eH P e=some .u8∧ae P e=1∧bK P d=true∧gJ xs
def gX (P:Program)(s d:TypeId):AV→Prop| .int _ _=>(eH P s).isSome=true∧((eH P d).isSome||bK P d)=true| .str _=>bK P s=true∧bK P d=true| .lit e xs=>byC P s d e xs| .sl e xs=>byC P s d e xs| .own e xs _=>byC P s d e xs|_=>False
def cw (A:aa)(d:Nat):Option Operand→Nat|none=>d|some y=>(iv (unm (A.val y))).toNat
def ni (gd:Option Bool)(A:aa):Option Operand→Prop|none=>True|some y=>okM gd (A.val y)∧isI (unm (A.val y))∧imp gd (0≤iv (unm (A.val y)))
def jY (A:aa)(lo hi:Option Operand):AV→AV
 | .row e id off m=>.row e id (off+cw A 0 lo) (cw A m hi-cw A 0 lo)
 | .ay=>.ay
 | .str l=>.str (gn l (cw A 0 lo) (cw A l.length hi))
 | .sl e xs=>.sl e (gn xs (cw A 0 lo) (cw A xs.length hi))
 | .lit e xs=>.sl e (gn xs (cw A 0 lo) (cw A xs.length hi))
 | .own e xs _=>.sl e (gn xs (cw A 0 lo) (cw A xs.length hi))
 |_=>.undef
def mI (gd:Option Bool)(A:aa)(lo hi:Option Operand)(m:Nat):Prop:=ni gd A lo∧ni gd A hi∧imp gd (cw A 0 lo≤cw A m hi∧cw A m hi≤m)
def je (P:Program)(gd:Option Bool)(A:aa)(t:TypeId)(lo hi:Option Operand):AV→Prop
 | .row e _ _ m=>elT P t=some e∧0<ae P e∧mI gd A lo hi m
 | .ay=>(elT P t).isSome=true∧0<ae P ((elT P t).getD 0)∧ni gd A lo∧ni gd A hi∧imp gd (cw A 0 lo=0∧cw A 0 hi=0)
 | .str l=>bK P t=true∧mI gd A lo hi l.length
 | .sl e xs=>elT P t=some e∧0<ae P e∧mI gd A lo hi xs.length
 | .lit e xs=>elT P t=some e∧0<ae P e∧mI gd A lo hi xs.length
 | .own e xs _=>elT P t=some e∧0<ae P e∧mI gd A lo hi xs.length
 |_=>False
def dy (A:aa):List (Nat×Operand)→List (Nat×AV)|[]=>[]|(i,x)::r=>(i,unm (A.val x))::dy A r
def fB (gd:Option Bool)(A:aa):List (Nat×Operand)→Prop|[]=>True|(_,x)::r=>okM gd (A.val x)∧fB gd A r
def dF (P:Program)(t:TypeId):List AV:=match zeroOf P t with|some (.agg _ fs)=>fs|_=>[]
def dM (P:Program)(t:TypeId):Bool:=match zeroOf P t with|some (.agg t' _)=>t'==t|_=>false
def AD (P:Program)(t:TypeId)(qs:List (Nat×AV)):Prop:=(bq P t).isSome=true∧dM P t=true∧mv P ((bq P t).getD []) qs=true
def eO (P:Program)(t:TypeId)(m:Nat)(qs:List (Nat×AV)):Prop:=match elT P t with
 |some e=>0<ae P e∧bk P e=true∧m*ae P e≤16777216∧qs.map (·.1)=List.range' 0 m∧qs.all (λp=>bo P e p.2)=true
 |none=>False
def oI :AV→AV
 | .str l=>.int .i64 l.length
 | .sl _ xs=>.int .i64 xs.length
 | .lit _ xs=>.int .i64 xs.length
 | .own _ xs _=>.int .i64 xs.length
 | .ay=>.int .i64 0
 | .row _ _ _ n=>.int .i64 n
 |_=>.undef
def gA (P:Program)(t:TypeId):AV→Prop
 | .str _=>bK P t=true
 | .sl _ _=>(elT P t).isSome=true
 | .lit _ _=>(elT P t).isSome=true
 | .own _ _ _=>(elT P t).isSome=true
 | .ay=>(elT P t).isSome=true
 | .row _ _ _ _=>(elT P t).isSome=true
 |_=>False
def gY (b:Builtin)(us:List AV):AV:=match b,us with
 | .len,[u]=>oI u
 | .cap,[_]=>.int .i64 0
 | .max,[.int k p,.int _ q]=>.int k (yd p q)
 | .min,[.int k p,.int _ q]=>.int k (re p q)
 |_,_=>.undef
def iX (P:Program)(b:Builtin)(ts:List TypeId)(us:List AV):Prop:=match b,us with
 | .len,[u]=>(match ts with|[t]=>gA P t u|_=>False)
 | .cap,[u]=>(match ts with|[t]=>(match u with| .ay=>(elT P t).isSome=true|_=>False)|_=>False)
 | .max,[.int k _,.int k' _]=>k'=k
 | .min,[.int k _,.int k' _]=>k'=k
 |_,_=>False
def cq (A:aa):List Operand→List AV|[]=>[]|x::r=>unm (A.val x)::cq A r
def dQ (gd:Option Bool)(A:aa):List Operand→Prop|[]=>True|x::r=>okM gd (A.val x)∧dQ gd A r
noncomputable def Ha (P:Program)(σ:ab)(t:TypeId)(k u:AV):AV:=match ou P t with|some (kt,vt)=>EP P ((Dz σ kt u).getD []) k (lR P vt)|none=>.undef
def FY (P:Program)(gd:Option Bool)(σ:ab)(t:TypeId)(k u:AV):Prop:=match ou P t with|some (kt,vt)=>bk P vt=true∧Maps.Keyed P kt∧imp gd (DN P kt k)∧(Dz σ kt u).isSome=true|none=>False
noncomputable def opV (P:Program)(gd:Option Bool)(A:aa):Op→AV
 | .move x=>(match gd with|none=>A.val x|some _=>unm (A.val x))
 | .assign x=>(match gd with|none=>A.val x|some _=>unm (A.val x))
 | .pick c x y=>lN (bl (unm (A.val c))) (unm (A.val x)) (unm (A.val y))
 | .binOp op t x y _=>cp P op t (unm (A.val x)) (unm (A.val y))
 | .unOp op _ x=>unV op (unm (A.val x))
 | .load _ x=>qw A.st (unm (A.val x))
 | .fieldAddr s x k=>pK P s k (unm (A.val x))
 | .field s x k=>fvV k (unm (A.val x))
 | .indexAddr t x ix=>dS P t (iv (unm (A.val ix))) (unm (A.val x))
 | .index _ x ix=>vJ (iv (unm (A.val ix))) (unm (A.val x))
 | .extract x k=>nU k (unm (A.val x))
 | .nilCheck x=>unm (A.val x)
 | .convert _ d x=>gk P d (unm (A.val x))
 | .makeFunc (.func f) _ caps=>.fn f (cq A caps.toList)
 | .slice _ x lo hi _=>jY A lo hi (unm (A.val x))
 | .build t ps=>.agg t (nH (dy A ps.toList) (dF P t))
 | .buildSlice t _ ps=>.lit ((elT P t).getD 0) ((dy A ps.toList).map (·.2))
 | .box t x=>.loc t (unm (A.val x))
 | .lookup t x ix false=>Ha P A.st t (unm (A.val ix)) (unm (A.val x))
 | .makeInterface t x=>.iface t (unm (A.val x))
 | .typeAssert x _ d ok=>jA P d ok (unm (A.val x))
 | .call c=>(match c.callee with| .builtin b=>gY b (cq A c.args.toList)|_=>.undef)
 |_=>.undef
def opC (P:Program)(gd:Option Bool)(A:aa):Op→Prop
 | .move x=>(match gd with|none=>True|some _=>okM gd (A.val x))
 | .assign x=>(match gd with|none=>True|some _=>okM gd (A.val x))
 | .pick c x y=>okM gd (A.val c)∧yY (unm (A.val c))∧gl gd (bl (unm (A.val c))) (A.val x)∧gl gd (!bl (unm (A.val c))) (A.val y)
 | .binOp op t x y _=>okM gd (A.val x)∧okM gd (A.val y)∧cu P op t (unm (A.val x)) (unm (A.val y))
 | .unOp op _ x=>okM gd (A.val x)∧unC op (unm (A.val x))
 | .load t x=>okM gd (A.val x)∧qC gd A.st t (unm (A.val x))
 | .fieldAddr s x k=>okM gd (A.val x)∧pD P s k (unm (A.val x))
 | .field s x k=>okM gd (A.val x)∧fvC P s k (unm (A.val x))
 | .indexAddr t x ix=>okM gd (A.val x)∧okM gd (A.val ix)∧isI (unm (A.val ix))∧dZ P gd A.st t (iv (unm (A.val ix))) (unm (A.val x))
 | .index t x ix=>okM gd (A.val x)∧okM gd (A.val ix)∧isI (unm (A.val ix))∧wO P gd t (iv (unm (A.val ix))) (unm (A.val x))
 | .extract x k=>okM gd (A.val x)∧pn k (unm (A.val x))
 | .nilCheck x=>okM gd (A.val x)∧(unm (A.val x)).fO=true
 | .convert s d x=>okM gd (A.val x)∧gX P s d (unm (A.val x))
 | .makeFunc (.func _) first caps=>first.toList=[]∧dQ gd A caps.toList∧(cq A caps.toList).all AV.aV=true
 | .slice t x lo hi mx=>mx=none∧okM gd (A.val x)∧je P gd A t lo hi (unm (A.val x))
 | .build t ps=>fB gd A ps.toList∧AD P t (dy A ps.toList)
 | .buildSlice t m ps=>fB gd A ps.toList∧eO P t m (dy A ps.toList)
 | .box t x=>okM gd (A.val x)∧bo P t (unm (A.val x))=true
 | .lookup t x ix false=>okM gd (A.val x)∧okM gd (A.val ix)∧FY P gd A.st t (unm (A.val ix)) (unm (A.val x))
 | .makeInterface t x=>okM gd (A.val x)∧lB P t=true∧(unm (A.val x)).aV=true
 | .typeAssert x _ d ok=>okM gd (A.val x)∧ml P d ok (unm (A.val x))
 | .call c=>(match c.callee with| .builtin b=>dQ gd A c.args.toList∧iX P b c.argTypes.toList (cq A c.args.toList)|_=>False)
 |_=>False
section
variable {P :Program}{W0:World}{σ:ab}{n:Nat}{A:aa}{gd:Option Bool}{K:AV→Prop}
theorem aN {x:AV}{k:AV→Prop}(h1:okM gd x)(h2:k (unm x)):strip gd x k:=by cases x<;>first|exact⟨h1,h2⟩|exact h2
theorem uq {b:Bool}{x:AV}{k:AV→Prop}(h1:gl gd b x)(h2:k (unm x)):rZ gd b x k:=by cases x<;>first|exact⟨h1,h2⟩|exact h2
theorem fK : ∀{xs:List Operand} {k:List AV→Prop},dQ gd A xs→k (cq A xs)→stripL gd (xs.map A.val) k
 |[],_,_,h=>h
 |_::_,_,h1,h2=>aN h1.1 (fK h1.2 h2)
theorem kR : ∀{ps:List (Nat×Operand)} {k:List (Nat×AV)→Prop},fB gd A ps→k (dy A ps)→my gd A ps k
 |[],_,_,h=>h
 |(_,_)::_,_,h1,h2=>aN h1.1 (kR h1.2 h2)
theorem AW {v:AV}(h:isI v): ∃k,v= .int k (iv v):=by cases v<;>first|exact⟨_,rfl⟩|exact h.elim
theorem JD {v:AV}(h:yY v):v= .bool (bl v):=by cases v<;>first|rfl|exact h.elim
theorem fU {x:Option Operand}{d:Nat}{k:Nat→Prop}(h1:ni gd A x)(h2:k (cw A d x)):eX gd A x d k:=by
 cases x with
 |none=>exact h2
 |some y=>
  obtain⟨h3,h4,h5⟩:=h1
  refine aN h3 ?_
  obtain⟨kk,hk⟩:=AW h4
  rw[hk]
  exact⟨h5,h2⟩
theorem tw {lo hi:Option Operand}{m:Nat}{k:Nat→Nat→Prop}(h:mI gd A lo hi m)(hk:k (cw A 0 lo) (cw A m hi)):eX gd A lo 0 λp=>eX gd A hi m λq=>imp gd (p≤q∧q≤m)∧k p q:=
 fU h.1 (fU h.2.1 ⟨h.2.2,hk⟩)
theorem Ib {lo hi:Option Operand}{k:Nat→Nat→Prop}(h:ni gd A lo∧ni gd A hi∧imp gd (cw A 0 lo=0∧cw A 0 hi=0))(hk:k (cw A 0 lo) (cw A 0 hi)):eX gd A lo 0 λp=>eX gd A hi 0 λq=>imp gd (p=0∧q=0)∧k p q:=
 fU h.1 (fU h.2.1 ⟨h.2.2,hk⟩)
theorem Aw {t:TypeId}{u:AV}{lo hi:Option Operand}(h1:je P gd A t lo hi u)(h2:K (jY A lo hi u)):rv P gd A t u lo hi K:=by
 unfold je at h1
 split at h1
 ·exact⟨⟨h1.1,h1.2.1⟩,tw (k:=λp q=>K (.row _ _ (_+p) (q-p))) h1.2.2 h2⟩
 ·obtain⟨h3,h4,h5⟩:=h1
  obtain⟨e,he⟩:=Option.isSome_iff_exists.1 h3
  rw[he]at h4
  show(match elT P t with|some e=>0<ae P e∧eX gd A lo 0 λp=>eX gd A hi 0 λq=>imp gd (p=0∧q=0)∧K .ay|none=>False)
  rw[he]
  exact⟨h4,Ib (k:=λ_ _=>K .ay) h5 h2⟩
 ·exact⟨h1.1,tw (k:=λp q=>K (.str (gn _ p q))) h1.2 h2⟩
 ·exact⟨⟨h1.1,h1.2.1⟩,tw (k:=λp q=>K (.sl _ (gn _ p q))) h1.2.2 h2⟩
 ·exact⟨⟨h1.1,h1.2.1⟩,tw (k:=λp q=>K (.sl _ (gn _ p q))) h1.2.2 h2⟩
 ·exact⟨⟨h1.1,h1.2.1⟩,tw (k:=λp q=>K (.sl _ (gn _ p q))) h1.2.2 h2⟩
 ·exact h1.elim
theorem si {op:Op}(h1:opC P gd A op)(h2:K (opV P gd A op)):jm P W0 gd op A K:=by
 cases op
 case move x=>cases gd<;>first|exact h2|exact aN h1 h2
 case assign x=>cases gd<;>first|exact h2|exact aN h1 h2
 case pick c x y=>
  obtain⟨g1,g2,g3,g4⟩:=h1
  refine aN g1 ?_
  rw[JD g2]
  exact uq g3 (uq g4 h2)
 case binOp op t x y _=>
  obtain⟨g1,g2,g3⟩:=h1
  refine aN g1 (aN g2 ?_)
  obtain⟨z,hz⟩:=Option.isSome_iff_exists.1 g3
  simp only[opV,cp,hz,Option.getD_some]at h2
  simp only[EN,hz]
  exact h2
 case unOp op _ x=>
  refine aN h1.1 ?_
  have h3:=h1.2
  simp only[opV]at h2
  revert h2 h3
  generalize unm (A.val x)=u
  intro h2 h3
  cases op<;>cases u<;>first|exact h2|exact h3.elim
 case load t x=>
  refine aN h1.1 ?_
  have h3:=h1.2
  simp only[opV]at h2
  revert h2 h3
  generalize unm (A.val x)=u
  intro h2 h3
  cases u<;>first|exact h3.elim|skip
  ·exact⟨h3,h2⟩
  ·simp only[qC]at h3
   refine⟨h3.1,?_⟩
   simp only[qw]at h2
   split
   ·rename_i z hz
    rw[hz]at h2
    exact h2
   ·rename_i hz
    rw[hz]at h2
    exact⟨h3.2.map (λh=>by rw[hz]at h;cases h),h2⟩
 case field s x k=>
  refine aN h1.1 ?_
  have h3:=h1.2
  simp only[opV]at h2
  revert h2 h3
  generalize unm (A.val x)=u
  intro h2 h3
  cases u<;>first|exact h3.elim|skip
  simp only[fvC]at h3
  obtain⟨e1,e3,e4,e5,e6⟩:=h3
  obtain⟨ts,hts⟩:=Option.isSome_iff_exists.1 e4
  simp only[hts,Option.getD_some]at e5
  obtain⟨ty,hty⟩:=Option.isSome_iff_exists.1 e5
  obtain⟨y,hy⟩:=Option.isSome_iff_exists.1 e6
  simp only[fvV,hy,Option.getD_some]at h2
  simp only[LC,hts,hty,hy]
  exact⟨⟨e1,e3⟩,h2⟩
 case fieldAddr s x k=>
  refine aN h1.1 ?_
  have h3:=h1.2
  simp only[opV]at h2
  revert h2 h3
  generalize unm (A.val x)=u
  intro h2 h3
  cases u<;>first|exact h3.elim|skip
  ·rename_i t v
   cases v<;>first|exact h3.elim|skip
   simp only[pD]at h3
   obtain⟨e1,e2,e3,e4,e5,e6⟩:=h3
   obtain⟨ts,hts⟩:=Option.isSome_iff_exists.1 e4
   simp only[hts,Option.getD_some]at e5
   obtain⟨ty,hty⟩:=Option.isSome_iff_exists.1 e5
   obtain⟨y,hy⟩:=Option.isSome_iff_exists.1 e6
   simp only[pK,hts,Option.getD_some,hty,hy]at h2
   simp only[oW,hts,hty,hy]
   exact⟨⟨e1,e2,e3⟩,h2⟩
  ·simp only[pD]at h3
   obtain⟨e1,e3,e4,e5⟩:=h3
   obtain⟨ts,hts⟩:=Option.isSome_iff_exists.1 e4
   simp only[hts,Option.getD_some]at e5
   obtain⟨ty,hty⟩:=Option.isSome_iff_exists.1 e5
   simp only[pK,hts,Option.getD_some,hty]at h2
   simp only[oW,hts,hty]
   exact⟨⟨e1,e3⟩,h2⟩
 case indexAddr t x ix=>
  obtain⟨g1,g2,g3,h3⟩:=h1
  refine aN g1 (aN g2 ?_)
  obtain⟨kk,hk⟩:=AW g3
  rw[hk]
  simp only[opV]at h2
  revert h2 h3
  generalize unm (A.val x)=u
  intro h2 h3
  cases u<;>first|exact h3.elim|skip
  ·exact⟨⟨h3.1,h3.2.1⟩,h3.2.2,h2⟩
  ·exact⟨⟨h3.1,h3.2.1⟩,h3.2.2,h2⟩
  ·exact⟨⟨h3.1,h3.2.1⟩,h3.2.2,h2⟩
  ·exact⟨⟨h3.1,h3.2.1⟩,h3.2.2.1,h3.2.2.2,h2⟩
  ·rename_i t' v
   cases v<;>first|exact h3.elim|skip
   exact⟨⟨h3.1,h3.2.1,h3.2.2.1,h3.2.2.2.1⟩,h3.2.2.2.2,h2⟩
  ·obtain⟨e1,e2,e3,e4⟩:=h3
   obtain⟨ts,hts⟩:=Option.isSome_iff_exists.1 e3
   simp only[hts,Option.getD_some]at e4
   simp only[jz,hts]
   exact⟨⟨e1,e2⟩,e4,h2⟩
 case index t x ix=>
  obtain⟨g1,g2,g3,h3⟩:=h1
  refine aN g1 (aN g2 ?_)
  obtain⟨kk,hk⟩:=AW g3
  rw[hk]
  simp only[opV]at h2
  revert h2 h3
  generalize unm (A.val x)=u
  intro h2 h3
  cases u<;>first|exact h3.elim|skip
  ·exact⟨h3.1,h3.2,h2⟩
  ·exact⟨⟨h3.1,h3.2.1,h3.2.2.1⟩,h3.2.2.2,h2⟩
 case extract x k=>
  refine aN h1.1 ?_
  have h3:=h1.2
  simp only[opV]at h2
  revert h2 h3
  generalize unm (A.val x)=u
  intro h2 h3
  cases u<;>first|exact h3.elim|skip
  simp only[pn]at h3
  obtain⟨z,hz⟩:=Option.isSome_iff_exists.1 h3
  simp only[nU,hz,Option.getD_some]at h2
  simp only[qb,hz]
  exact h2
 case nilCheck x=>exact aN h1.1 ⟨h1.2,h2⟩
 case makeInterface t x=>exact aN h1.1 ⟨h1.2,h2⟩
 case typeAssert x xt d ok=>exact aN h1.1 ⟨h1.2,h2⟩
 case convert s d x=>
  refine aN h1.1 ?_
  have h3:=h1.2
  simp only[opV]at h2
  revert h2 h3
  generalize unm (A.val x)=u
  intro h2 h3
  cases u<;>first|exact h3.elim|skip
  ·simp only[gX]at h3
   obtain⟨z,hz⟩:=Option.isSome_iff_exists.1 h3.1
   cases hz':eH P d with
   |some z'=>
    simp only[gk,hz']at h2
    simp only[mC,hz,hz']
    exact h2
   |none=>
    have h4:=h3.2
    simp only[hz',Option.isSome_none,Bool.false_or]at h4
    simp only[gk,hz']at h2
    simp only[mC,hz,hz']
    exact⟨h4,h2⟩
  all_goals exact⟨h3,h2⟩
 case makeFunc fn first caps=>
  cases fn<;>first|exact h1.elim|skip
  exact⟨h1.1,fK h1.2.1 ⟨h1.2.2,h2⟩⟩
 case slice t x lo hi mx=>exact⟨h1.1,aN h1.2.1 (Aw h1.2.2 h2)⟩
 case build t ps=>
  refine kR h1.1 ?_
  obtain⟨g1,g2',g4⟩:=h1.2
  have⟨fs,g2⟩: ∃fs,zeroOf P t=some (.agg t fs):=by
   unfold dM at g2'
   split at g2'
   ·rename_i t' fs hz;simp only[beq_iff_eq]at g2';subst g2';exact⟨fs,hz⟩
   ·cases g2'
  obtain⟨ts,hts⟩:=Option.isSome_iff_exists.1 g1
  simp only[hts,Option.getD_some]at g4
  simp only[opV,dF,g2]at h2
  simp only[rp,hts,g2]
  exact⟨⟨trivial,g4⟩,h2⟩
 case buildSlice t m ps=>
  refine kR h1.1 ?_
  have h3:=h1.2
  unfold eO at h3
  split at h3
  ·rename_i e he
   simp only[opV,he,Option.getD_some]at h2
   simp only[iF,he]
   exact⟨h3,h2⟩
  ·exact h3.elim
 case box t x=>exact aN h1.1 ⟨h1.2,h2⟩
 case lookup t x ix c=>
  cases c
  case true=>exact h1.elim
  refine aN h1.1 (aN h1.2.1 ?_)
  have h3:=h1.2.2
  unfold FY at h3
  simp only[opV,Ha]at h2
  unfold Ba
  split at h3
  ·rename_i kt vt ht
   rw[ht]at h2
   simp only at h2
   obtain⟨l,hl⟩:=Option.isSome_iff_exists.1 h3.2.2.2
   rw[hl]at h2
   simp only[ht,hl]
   exact⟨h3.1,h3.2.1,h3.2.2.1,h2⟩
  ·exact h3.elim
 case call c=>
  obtain⟨callee,args,argTypes⟩:=c
  cases callee<;>first|exact h1.elim|skip
  rename_i b
  refine fK h1.1 ?_
  have h3:=h1.2
  simp only[opV]at h2
  revert h2 h3
  generalize cq A args.toList=us
  intro h2 h3
  unfold iX at h3
  unfold mg
  split at h3
  ·rename_i u
   split at h3
   ·rename_i t ht
    simp only at ht
    simp only[ht]
    simp only[gY]at h2
    cases u<;>first|exact h3.elim|exact⟨h3,λ_=>h2⟩
   ·exact h3.elim
  ·rename_i u
   split at h3
   ·rename_i t ht
    simp only at ht
    simp only[ht]
    simp only[gY]at h2
    cases u<;>first|exact h3.elim|exact⟨h3,h2⟩
   ·exact h3.elim
  ·exact⟨h3,h2⟩
  ·exact⟨h3,h2⟩
  ·exact h3.elim
 all_goals exact h1.elim
end
end Go.Av
end
