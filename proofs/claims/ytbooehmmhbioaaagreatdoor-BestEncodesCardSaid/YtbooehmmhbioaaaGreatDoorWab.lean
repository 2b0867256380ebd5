/- Texts that the last one of this claim rests on: a layer over the guide's own conditions for code; contracts of the functions that the law reaches, one by one. No conditions beside those of the given rows. -/
import Derived.Laws.MakeOwn
import Derived.Lib.AppendZeros
import Derived.Lib.ConvBytes
import Derived.Laws.BytesString
import Derived.Laws.Cells
import Derived.Lib.AppendStr
import Derived.Orders
import Derived.Laws.Externs
import Derived.Test.YtbooehmmhbioaaaGreatDoorWaa
set_option linter.unusedSimpArgs false
set_option linter.unusedVariables false
section
namespace Go.Av
open Go
section
variable {P :Program}{W0 w w':World}{C C':Ctx}{σ σ':ab}{n:Nat}{A:aa}{a:Act}{o:Oper}
theorem iI (w:World)(t ty e:TypeId)(i:TypeInfo)(ht:P.underlying t=some (.slice e))(hi:P.info? e=some i)
  (g off sLen sCap:Nat) (te:TypeId) (fr:Nat×Nat) (cur:Array Value) (hg:w.heap[g]?=some (.cells cur te fr)) (hfr:wG fr cur.size)
  (a:Addr) (m c:Nat) (news:List Value) (hl:news.length=m*i.size) (hnews: ∀j u,news[j]?=some u→w.cell? (a.add j)=some u) (h1: ∀u∈news,u.oneCell'=true)
  (hroom:sLen+m≤sCap) (hfit:off+sLen*i.size+news.length≤cur.size):
  (Builtin.append_ #[t,t] ty #[.slice (some ⟨g,off,none⟩) sLen sCap,.slice (some a) m c]).run P w=
   .ok (.slice (some ⟨g,off,none⟩) (sLen+m) sCap) (w.setRow g (bz cur (off+sLen*i.size) news)):=by
 have hf:=run_firstCells_some (P:=P) w i.size m a m c news hl hnews
 have hst:=eg P g (off+sLen*i.size) te fr news 0 cur w hg hfr (by simpa using hfit) h1
 simp only[Nat.add_zero]at hst
 simp[Builtin.append_,run_underlying ht,sizeOf,typeInfo,hi,Builtin.lenOf,hroom,hf,Addr.add_lit,hst,bz]
theorem Ah (h:aB P W0 w C σ){e:TypeId}{zs:List AV}{cap:Nat}{arr:Array Value}{cf:Nat→List Value}(hl:zs.length≤cap)(hc:cap≤maxLen)(hs:arr.size=cap*af P e)
  (hz: ∀i x,zs[i]?=some x→Rel P w C x (cf i)∧(cf i).length=af P e∧fits P e x∧ ∀(j:Nat) (u:Value),(cf i)[j]?=some u→arr[i*af P e+j]?=some u):
  ∃C',Step w C (w.alloc (.cells arr e)) C'∧aB P W0 (w.alloc (.cells arr e)) C' (σ++[some (.cells e zs)])∧aF P (w.alloc (.cells arr e)) C' (.row e σ.length 0 zs.length) (.slice (some ⟨w.heap.size,0,none⟩) zs.length cap)∧C'.m σ.length=some (.obj w.heap.size e 0 arr.size):=by
 have hhw:zs.length*af P e≤arr.size:=by rw[hs];exact Nat.mul_le_mul_right _ hl
 obtain⟨h1,h2⟩:=h.push (ob:=.cells arr e) (ow:=.obj w.heap.size e 0 arr.size) (so:=.cells e zs) rfl
  ⟨rfl,arr,e,(0,0),heap_alloc_new w _,.inl rfl,rfl,by simpa using hhw,cf,λi x hx=>by
   obtain⟨g1,g2,g3,g4⟩:=hz i x hx
   exact⟨g1.mono (mA _ rfl),g2,g3,λj c hj=>by rw[Nat.zero_add];exact g4 j c hj⟩⟩
 refine⟨_,h1,h2,.one rfl (.row hl hc (by simp[Ctx.push,h.nx]) (λow how=>?_)),by simp[Ctx.push,h.nx]⟩
 simp only[Ctx.push,h.nx,if_true,Option.some.injEq]at how
 subst how
 exact⟨_,0,_,rfl,λ_=>by simp,by simp[hs]⟩
theorem mB (h:aB P W0 w C σ){e:TypeId}{zs:List AV}{cap:Nat}{arr:Array Value}{cf:Nat→List Value}(hl:zs.length≤cap)(hc:cap≤maxLen)(hs:arr.size=cap*af P e)
  (hz: ∀i x,zs[i]?=some x→Rel P w C x (cf i)∧(cf i).length=af P e∧fits P e x∧ ∀(j:Nat) (u:Value),(cf i)[j]?=some u→arr[i*af P e+j]?=some u):
  ∃C',Step w C (w.alloc (.cells arr e)) C'∧aB P W0 (w.alloc (.cells arr e)) C' (σ++[some (.cells e zs)])∧aF P (w.alloc (.cells arr e)) C' (.row e σ.length 0 zs.length) (.slice (some ⟨w.heap.size,0,none⟩) zs.length cap):=by
 obtain⟨C',h1,h2,h3,_⟩:=Ah (P:=P) h hl hc hs hz
 exact⟨C',h1,h2,h3⟩
theorem EU (h:aB P W0 w C σ){id b base base' room:Nat}{fr:Nat×Nat}{e t':TypeId}{xs zs:List AV}{arr arr':Array Value}{cf:Nat→List Value}(hs:σ[id]?=some (some (.cells e xs)))(hm:C.m id=some (.obj b e base room))(hb:w.heap[b]?=some (.cells arr t' fr))(hf:wG fr arr.size)
  (hsz:arr.size=room) (hsize:arr'.size=arr.size) (hfit:base'+zs.length*af P e≤room)
  (hz: ∀i x,zs[i]?=some x→Rel P w C x (cf i)∧(cf i).length=af P e∧fits P e x∧ ∀(j:Nat) (u:Value),(cf i)[j]?=some u→arr'[base'+i*af P e+j]?=some u):
  ∃C',Step w C (w.setRow b arr') C'∧aB P W0 (w.setRow b arr') C' (σ.set id none++[some (.cells e zs)])∧C'.nx=σ.length+1∧C'.m σ.length=some (.obj b e base' room):=by
 have htl:id<σ.length:=(List.getElem?_eq_some_iff.1 hs).1
 have hnew:(w.setRow b arr').heap[b]?=some (.cells arr' t' fr):=setRow_heap w b arr _ t' _ hb
 have hC: ∀i ow,((C.kill id).push (.obj b e base' room)).m i=some ow→(i=C.nx∧ow= .obj b e base' room)∨(i≠C.nx∧i≠id∧C.m i=some ow):=λi ow hi=>by
  rw[qA,mE,nu]at hi
  split at hi
  ·rename_i he;cases hi;exact .inl ⟨he,rfl⟩
  ·rename_i he
   split at hi
   ·cases hi
   ·rename_i ht;exact .inr ⟨he,ht,hi⟩
 have hne: ∀i ow,i≠id→C.m i=some ow→ow.blk≠b:=λi ow hi hm' he=>hi (h.inj i id ow _ hm' hm (by simpa[Own.blk]using he))
 have hstep:Step w C (w.setRow b arr') ((C.kill id).push (.obj b e base' room)):=by
  refine⟨by simp[Ctx.push,Ctx.kill],λi ow hid hi=>?_,λb' i hst=>?_,rfl,rfl,rfl,by simp,λb' hlt hn=>?_⟩
  ·rcases hC i ow hi with⟨e1,_⟩|⟨_,_,h'⟩
   ·omega
   ·exact h'
  ·have hbb:b'≠b:=λe1=>by
    obtain⟨_,_,_,e2,_⟩:=hst.2 id _ hm (by simp[Own.blk,e1])
    cases e2
   refine⟨cell_setRow_other w b _ ⟨b',i,none⟩ hbb,by simpa using hst.1,λi' ow hi he=>?_⟩
   rcases hC i' ow hi with⟨_,rfl⟩|⟨_,_,h'⟩
   ·exact absurd he (λe1=>hbb e1.symm)
   ·exact hst.2 i' ow h' he
  ·refine⟨setRow_other w b b' _ (λe1=>hn id _ hm (by simp[Own.blk,e1])),λi ow hi=>?_⟩
   rcases hC i ow hi with⟨_,rfl⟩|⟨_,_,h'⟩
   ·intro he;exact hn id _ hm he
   ·exact hn i ow h'
 refine⟨_,hstep,h.change hstep (λi ow hi=>?_) (by simp[Ctx.push,Ctx.kill,h.nx]) (λi j x y hi hj he=>?_) (λi ow hi=>?_) (λi=>?_),by simp[Ctx.push,Ctx.kill,h.nx],by simp[Ctx.push,Ctx.kill,h.nx]⟩
 ·rcases hC i ow hi with⟨_,rfl⟩|⟨_,_,h'⟩
  ·exact h.low id (.obj b e base room) hm
  ·exact h.low i ow h'
 ·rcases hC i x hi with⟨e1,rfl⟩|⟨e1,t1,h1⟩
  ·rcases hC j y hj with⟨e2,rfl⟩|⟨e2,t2,h2⟩
   ·omega
   ·exact absurd he.symm (hne j y t2 h2)
  ·rcases hC j y hj with⟨e2,rfl⟩|⟨e2,t2,h2⟩
   ·exact absurd he (hne i x t1 h1)
   ·exact h.inj i j x y h1 h2 he
 ·simp only[Ctx.push,Ctx.kill]
  rcases hC i ow hi with⟨e1,_⟩|⟨_,_,h1⟩
  ·omega
  ·have:=h.dom i ow h1;omega
 ·rw[pS,List.length_set,j8 _ _ _ _ htl]
  by_cases hi:i=σ.length
  ·left
   rw[if_pos hi]
   have:((C.kill id).push (.obj b e base' room)).m i=some (.obj b e base' room):=by simp[Ctx.push,Ctx.kill,hi,h.nx]
   rw[this]
   refine⟨rfl,_,t',fr,hnew,by rw[hsize];exact hf,by rw[hsize,hsz],hfit,cf,λq x hx=>?_⟩
   obtain⟨g1,g2,g3,g4⟩:=hz q x hx
   exact⟨g1.mono hstep,g2,g3,g4⟩
  ·rw[if_neg hi]
   by_cases ht:i=id
   ·left
    rw[if_pos ht]
    have:((C.kill id).push (.obj b e base' room)).m i=none:=by
     rw[qA,mE,nu,if_neg (by rw[h.nx];exact hi),if_pos ht]
    rw[this]
    trivial
   ·right
    rw[if_neg ht]
    refine⟨rfl,?_,λow how=>setRow_other w b _ _ (hne i ow ht how)⟩
    rw[qA,mE,nu,if_neg (by rw[h.nx];exact hi),if_neg ht]
theorem wz (hr:fJ P W0 o w C A a){x y:Operand}{t u e:TypeId}{v z:AV}{xs ys:List AV}(ho:o.op= .call { callee:=.builtin .append,args:=#[x,y],argTypes:=#[t,u] })
  (hx:Is P W0 o A x v) (hy:Is P W0 o A y z) (ht:elT P t=some e) (hu:elT P u=some e) (he:0<af P e) (hz0:bw P e=true) (hb:di A.st v e xs) (hys:fh A.st z e ys)
  (hbytes:(xs.length+ys.length)*bytesOf P e≤140737488355328) (hmax:xs.length+ys.length≤maxLen):
  ∃r w' C' v' σ',(execOp a.eval o).run P w= .ok (.value r) w'∧((ys=[]∧v'=v∧σ'=A.st)∨(ys≠[]∧v'= .row e A.st.length 0 (xs.length+ys.length)∧σ'=bQ v A.st++[some (.cells e (xs++ys))]))∧Step w C w' C'∧aB P W0 w' C' σ'∧aF P w' C' v' r:=by
 obtain⟨inf,hinf,hsz⟩:=bJ he
 have htu:=cr ht
 have hrun: ∀b l c yv r w',(Builtin.append_ #[t,t] o.type #[.slice b l c,yv]).run P w= .ok r w'→a.eval x= .slice b l c→a.eval y=yv→(execOp a.eval o).run P w= .ok (.value r) w':=λb l c yv r w' h h1 h2=>by
  rw[←gy htu (cr hu) hinf]at h
  simp[execOp,ho,resolve,invoke,builtin,h1,h2,h]
 have hxv:=hx w C a hr
 have hyv:=hy w C a hr
 obtain⟨ady,capy,cfy,hye,y3,y4,y5⟩:=hys.cells hr.st hyv
 obtain⟨bx,cx,hxe,hlx⟩: ∃b c,a.eval x= .slice b xs.length c∧xs.length≤c:=by
  rcases hb with⟨rfl,rfl⟩|rfl|⟨id,off,m,zs,rfl,hs,hm,rfl⟩
  ·exact⟨none,0,hxv.dR,Nat.le_refl _⟩
  ·have:=hxv.aP rfl
   cases hev:a.eval x<;>(rw[hev]at this;cases this)
   exact⟨_,_,rfl,Nat.le_refl _⟩
  ·obtain⟨ad,cap,cf,hve,g1,_⟩:=p7 hr.st hxv hs hm
   have hlen:((zs.drop off).take m).length=m:=by simp;omega
   rw[hlen]
   exact⟨_,_,hve,g1⟩
 by_cases hyl:ys=[]
 ·subst hyl
  exact⟨_,w,C,v,A.st,hrun _ _ _ _ _ _ (iw htu hinf _ _ _ _ _ _ hlx w) hxe hye,.inl ⟨rfl,rfl,rfl⟩,.refl _ _,hr.st,by rw[←hxe];exact hxv⟩
 have hpos:0<ys.length:=by cases ys with|nil=>exact absurd rfl hyl|cons=>simp
 obtain⟨by_,oy,rfl,news,n1,n2,n3,n4⟩:=y5 hpos
 have n2': ∀j u,news[j]?=some u→w.cell? ((⟨by_,oy,none⟩:Addr).add j)=some u:=λj u hj=>by rw[Addr.add_lit];exact n2 j u hj
 obtain⟨inf',z0,hinf',hiz,hzs⟩:=gQ hz0
 obtain rfl:inf'=inf:=by rw[hinf]at hinf';exact(Option.some.inj hinf').symm
 have hmax':xs.length+ys.length≤9223372036854775807:=by unfold maxLen at hmax;omega
 rw[pG hinf]at hbytes
 have hlen:(xs++ys).length=xs.length+ys.length:=by simp
 have hgetl: ∀i x,(xs++ys)[i]?=some x→(i<xs.length∧xs[i]?=some x)∨(xs.length≤i∧ys[i-xs.length]?=some x):=λi x hx=>by
  by_cases hi:i<xs.length
  ·rw[List.getElem?_append_left hi]at hx;exact .inl ⟨hi,hx⟩
  ·rw[List.getElem?_append_right (by omega)]at hx;exact .inr ⟨by omega,hx⟩
 have fresh: ∀(C1:Ctx) (σ1:ab) (b:Addr) (cap:Nat) (olds:List Value) (cf:Nat→List Value),Step w C w C1→aB P W0 w C1 σ1→σ1.length=A.st.length→a.eval x= .slice (some b) xs.length cap→cap<xs.length+ys.length→
   olds.length=xs.length*af P e→(∀j u,olds[j]?=some u→w.cell? (b.add j)=some u)→(∀(i:Nat) (x:AV),xs[i]?=some x→Rel P w C x (cf i))→(∀i x,xs[i]?=some x→(cf i).length=af P e∧fits P e x)→
   (∀i x,xs[i]?=some x→ ∀(j:Nat) (u:Value),(cf i)[j]?=some u→olds[i*af P e+j]?=some u)→
   ∃r w' C',(execOp a.eval o).run P w= .ok (.value r) w'∧Step w C w' C'∧aB P W0 w' C' (σ1++[some (.cells e (xs++ys))])∧aF P w' C' (.row e A.st.length 0 (xs.length+ys.length)) r:=λC1 σ1 b cap olds cf k1 k2 hl1 hxq hroom p1 p2 c3 c4 p4=>by
  have hap:=run_append_grow (P:=P) w t o.type e inf' z0 htu hinf hiz b xs.length cap olds (by rw[p1,hsz]) p2 ⟨by_,oy,none⟩ ys.length capy news (by rw[n1,hsz]) n2' hroom (by omega) (growslice_fits hroom hbytes)
  have hge:=grownCap_ge w (xs.length+ys.length) cap e
  have hcap:=grownCap_le_maxLen w (xs.length+ys.length) cap e hmax
  obtain⟨C',g1,g2,g3⟩:=mB (P:=P) (W0:=W0) k2.drew (e:=e) (zs:=xs++ys) (cap:=grownCap w (xs.length+ys.length) cap e)
   (arr:=olds.toArray++news.toArray++Builtin.zeroCells z0.cells (grownCap w (xs.length+ys.length) cap e-(xs.length+ys.length))) (cf:=λi=>if i<xs.length then cf i else cfy (i-xs.length)) (by rw[hlen];exact hge) hcap
   (by simp only[Array.size_append,List.size_toArray,size_zeroCells,p1,n1,hzs,←Nat.add_mul];congr 1;omega)
   (λi x hx=>by
    have hs:=k1.trans (Step.drew w _)
    rcases hgetl i x hx with⟨hi,hx'⟩|⟨hi,hx'⟩
    ·simp only[hi,if_true]
     refine⟨(c3 i x hx').mono hs,(c4 i x hx').1,(c4 i x hx').2,λj u hj=>?_⟩
     have:=p4 i x hx' j u hj
     have hl:=(List.getElem?_eq_some_iff.1 this).1
     rw[Array.getElem?_append_left (by simp;omega),Array.getElem?_append_left (by simpa using hl)]
     simpa using this
    ·simp only[show ¬i<xs.length by omega,if_false]
     refine⟨(y3 _ x hx').mono hs,(y4 _ x hx').1,(y4 _ x hx').2,λj u hj=>?_⟩
     have:=n4 _ x hx' j u hj
     have hl:=(List.getElem?_eq_some_iff.1 this).1
     have hmul:i*af P e=xs.length*af P e+(i-xs.length)*af P e:=by rw[←Nat.add_mul];congr 1;omega
     rw[Array.getElem?_append_left (by simp;omega),Array.getElem?_append_right (by simp;omega)]
     simp only[List.size_toArray,p1,List.getElem?_toArray]
     rw[show i*af P e+j-xs.length*af P e=(i-xs.length)*af P e+j by omega]
     exact this)
  rw[hlen,hl1]at g3
  exact⟨_,_,C',hrun _ _ _ _ _ _ hap hxq hye,(k1.trans (Step.drew w _)).trans g1,g2,g3⟩
 rcases hb with⟨rfl,rfl⟩|rfl|⟨id,off,m,zs,rfl,hs,hm,rfl⟩
 ·simp only[List.length_nil,Nat.zero_add]at hbytes hmax hmax'
  have hxe':=hxv.dR
  have hap:=run_append_nil (P:=P) w t o.type e inf' z0 htu hinf hiz ⟨by_,oy,none⟩ ys.length capy news (by rw[n1,hsz]) n2' hpos (by omega) (by omega)
  have hge:=grownCap_ge w ys.length 0 e
  have hcap:=grownCap_le_maxLen w ys.length 0 e hmax
  obtain⟨C',g1,g2,g3⟩:=mB (P:=P) (W0:=W0) hr.st.drew (e:=e) (zs:=ys) (cap:=grownCap w ys.length 0 e) (arr:=news.toArray++Builtin.zeroCells z0.cells (grownCap w ys.length 0 e-ys.length)) (cf:=cfy) hge hcap
   (by simp only[Array.size_append,List.size_toArray,size_zeroCells,n1,hzs,←Nat.add_mul];congr 1;omega)
   (λi x hx=>⟨(y3 i x hx).mono (Step.drew w C),(y4 i x hx).1,(y4 i x hx).2,λj u hj=>by
    have:=n4 i x hx j u hj
    rw[Array.getElem?_append_left (by simpa using (List.getElem?_eq_some_iff.1 this).1)]
    simpa using this⟩)
  exact⟨_,_,C',_,_,hrun _ _ _ _ _ _ hap hxe' hye,.inr ⟨hyl,rfl,rfl⟩,(Step.drew w C).trans g1,by simpa[bQ]using g2,by simpa using g3⟩
 ·obtain⟨ad,capx,cfx,hxq,x1,x2,x3,x4,x5⟩:=(hxv.aP rfl).tw (.inr (.inl rfl))
  have hcx:capx=xs.length:=by
   have:=hxv.aP rfl
   rw[hxq]at this
   cases this
   rfl
  subst hcx
  by_cases hxl:xs=[]
  ·subst hxl
   simp only[List.length_nil,Nat.zero_add]at hbytes hmax hmax'
   cases ad with
   |none=>
    have hap:=run_append_nil (P:=P) w t o.type e inf' z0 htu hinf hiz ⟨by_,oy,none⟩ ys.length capy news (by rw[n1,hsz]) n2' hpos (by omega) (by omega)
    have hge:=grownCap_ge w ys.length 0 e
    have hcap:=grownCap_le_maxLen w ys.length 0 e hmax
    obtain⟨C',g1,g2,g3⟩:=mB (P:=P) (W0:=W0) hr.st.drew (e:=e) (zs:=ys) (cap:=grownCap w ys.length 0 e) (arr:=news.toArray++Builtin.zeroCells z0.cells (grownCap w ys.length 0 e-ys.length)) (cf:=cfy) hge hcap
     (by simp only[Array.size_append,List.size_toArray,size_zeroCells,n1,hzs,←Nat.add_mul];congr 1;omega)
     (λi x hx=>⟨(y3 i x hx).mono (Step.drew w C),(y4 i x hx).1,(y4 i x hx).2,λj u hj=>by
      have:=n4 i x hx j u hj
      rw[Array.getElem?_append_left (by simpa using (List.getElem?_eq_some_iff.1 this).1)]
      simpa using this⟩)
    exact⟨_,_,C',_,_,hrun _ _ _ _ _ _ hap hxq hye,.inr ⟨hyl,rfl,rfl⟩,(Step.drew w C).trans g1,by simpa[bQ]using g2,by simpa using g3⟩
   |some b=>
    obtain⟨r,w',C',g0,g1,g2,g3⟩:=fresh C A.st b 0 [] cfx (.refl _ _) hr.st rfl hxq (by simpa using hpos) (by simp) (by simp) x3 x4 (by simp)
    exact⟨r,w',C',_,_,g0,.inr ⟨hyl,rfl,rfl⟩,g1,g2,g3⟩
  ·have hxp:0<xs.length:=by cases xs with|nil=>exact absurd rfl hxl|cons=>simp
   obtain⟨bx',ox',rfl,x6⟩:=x5 hxp
   obtain⟨olds,p1,p2,p3,p4⟩:=ko x3 x4 x6
   obtain⟨r,w',C',g0,g1,g2,g3⟩:=fresh C A.st ⟨bx',ox',none⟩ xs.length olds cfx (.refl _ _) hr.st rfl hxq (by omega) p1 (λj u hj=>by rw[Addr.add_lit];exact p2 j u hj) x3 x4 p4
   exact⟨r,w',C',_,_,g0,.inr ⟨hyl,rfl,rfl⟩,g1,g2,g3⟩
 ·obtain⟨ad,cap,cf,hxq,g1,g2,_,c3,c4,b,base,room,arr,t',fr,m1,m2,mf,m3,g5,g6,g7⟩:=p7 hr.st hxv hs hm
  have hlm:((zs.drop off).take m).length=m:=by simp;omega
  have hidl:id<A.st.length:=(List.getElem?_eq_some_iff.1 hs).1
  generalize hxs:(zs.drop off).take m=xs at *
  by_cases hroom:xs.length+ys.length≤cap
  ·-- in place
   obtain rfl:=g5 (by omega)
   have hfit:base+off*af P e+xs.length*af P e+news.length≤arr.size:=by
    rw[n1,m3,Nat.add_assoc,Nat.add_assoc,←Nat.add_mul,←Nat.add_mul]
    exact Nat.le_trans (Nat.add_le_add_left (Nat.mul_le_mul_right _ (by omega)) _) (Nat.le_of_eq g6)
   have hap:=iI (P:=P) w t o.type e inf' htu hinf b (base+off*af P e) xs.length cap t' fr arr m2 mf ⟨by_,oy,none⟩ ys.length capy news (by rw[n1,hsz]) n2' n3 hroom (by rw[hsz];exact hfit)
   rw[hsz]at hap
   have hsize:(bz arr (base+off*af P e+xs.length*af P e) news).size=arr.size:=dw hfit
   obtain⟨C',k1,k2,k3,k4⟩:=EU hr.st (base':=base+off*af P e) (zs:=xs++ys) (cf:=λi=>if i<xs.length then cf i else cfy (i-xs.length)) hs m1 m2 mf m3 hsize (by
     rw[hlen,Nat.add_assoc,←Nat.add_mul]
     exact Nat.le_trans (Nat.add_le_add_left (Nat.mul_le_mul_right _ (by omega)) _) (Nat.le_of_eq g6)) (λi x hx=>by
    rcases hgetl i x hx with⟨hi,hx'⟩|⟨hi,hx'⟩
    ·simp only[hi,if_true]
     refine⟨c3 i x hx',(c4 i x hx').1,(c4 i x hx').2,λj u hj=>?_⟩
     have hjl:j<af P e:=by rw[←(c4 i x hx').1];exact(List.getElem?_eq_some_iff.1 hj).1
     have h5:(i+1)*af P e≤xs.length*af P e:=Nat.mul_le_mul_right _ hi
     rw[Nat.succ_mul]at h5
     rw[Nat.add_assoc (base+off*af P e),bC hfit,if_neg (by omega)]
     have:=g7 i x hx' j u hj
     rwa [show base+off*af P e+i*af P e+j=base+off*af P e+(i*af P e+j) by omega]at this
    ·simp only[show ¬i<xs.length by omega,if_false]
     refine⟨y3 _ x hx',(y4 _ x hx').1,(y4 _ x hx').2,λj u hj=>?_⟩
     have:=n4 _ x hx' j u hj
     have hl:=(List.getElem?_eq_some_iff.1 this).1
     have hmul:i*af P e=xs.length*af P e+(i-xs.length)*af P e:=by rw[←Nat.add_mul];congr 1;omega
     rw[Nat.add_assoc (base+off*af P e),bC hfit,if_pos (by omega),show base+off*af P e+(i*af P e+j)-(base+off*af P e+xs.length*af P e)=(i-xs.length)*af P e+j by omega]
     exact this)
   refine⟨_,_,C',_,_,hrun _ _ _ _ _ _ hap (by rw[hxq,hlm]) hye,.inr ⟨hyl,rfl,rfl⟩,k1,k2,.one rfl (.row hroom g2 (by omega) (λow how=>?_))⟩
   rw[k4]at how
   cases how
   refine⟨b,base+off*af P e,room,rfl,λ_=>by simp,?_⟩
   rw[Nat.zero_add,Nat.add_assoc,←Nat.add_mul]
   exact g6
  ·obtain⟨k1,k2⟩:=hr.st.kill id hidl
   cases ad with
   |none=>
    have hc0:cap=0:=by
     rcases Nat.eq_zero_or_pos cap with h|h
     ·exact h
     ·have:=g5 h;cases this
    subst hc0
    have hm0:m=0:=by omega
    have hxs0:xs=[]:=by rw[←List.length_eq_zero_iff];omega
    subst hxs0
    simp only[List.length_nil,Nat.zero_add]at hbytes hmax hmax' hlm
    have hap:=run_append_nil (P:=P) w t o.type e inf' z0 htu hinf hiz ⟨by_,oy,none⟩ ys.length capy news (by rw[n1,hsz]) n2' hpos (by omega) (by omega)
    have hge:=grownCap_ge w ys.length 0 e
    have hcap:=grownCap_le_maxLen w ys.length 0 e hmax
    obtain⟨C',q1,q2,q3⟩:=mB (P:=P) (W0:=W0) k2.drew (e:=e) (zs:=ys) (cap:=grownCap w ys.length 0 e) (arr:=news.toArray++Builtin.zeroCells z0.cells (grownCap w ys.length 0 e-ys.length)) (cf:=cfy) hge hcap
     (by simp only[Array.size_append,List.size_toArray,size_zeroCells,n1,hzs,←Nat.add_mul];congr 1;omega)
     (λi x hx=>⟨(y3 i x hx).mono (k1.trans (Step.drew w _)),(y4 i x hx).1,(y4 i x hx).2,λj u hj=>by
      have:=n4 i x hx j u hj
      rw[Array.getElem?_append_left (by simpa using (List.getElem?_eq_some_iff.1 this).1)]
      simpa using this⟩)
    rw[List.length_set]at q3
    refine⟨_,_,C',_,_,hrun _ _ _ _ _ _ hap (by rw[hxq,hm0]) hye,.inr ⟨hyl,rfl,rfl⟩,(k1.trans (Step.drew w _)).trans q1,by simpa[bQ]using q2,by simpa using q3⟩
   |some b'=>
    have hcells: ∃olds:List Value,olds.length=xs.length*af P e∧(∀(j:Nat) (u:Value),olds[j]?=some u→w.cell? (b'.add j)=some u)∧ ∀i x,xs[i]?=some x→ ∀(j:Nat) (u:Value),(cf i)[j]?=some u→olds[i*af P e+j]?=some u:=by
     by_cases hxl:xs=[]
     ·subst hxl;exact⟨[],by simp,by simp,by simp⟩
     ·have hcp:0<cap:=by
       have:0<xs.length:=by cases xs with|nil=>exact absurd rfl hxl|cons=>simp
       omega
      have hb':=g5 hcp
      cases hb'
      have hrd:fh A.st (.row e id off m) e xs:=.inr (.inr ⟨id,off,m,zs,rfl,hs,hm,hxs.symm⟩)
      refine⟨(arr.toList.drop (base+off*af P e)).take (xs.length*af P e),?_,λj u hj=>?_,λi x hx j u hj=>?_⟩
      ·have h6:base+(off+xs.length)*af P e≤arr.size:=by rw[m3];exact Nat.le_trans (Nat.add_le_add_left (Nat.mul_le_mul_right _ (by omega)) _) (Nat.le_of_eq g6)
       rw[Nat.add_mul]at h6
       simp only[List.length_take,List.length_drop,Array.length_toList]
       omega
      ·rw[List.getElem?_take]at hj
       split at hj
       ·rw[List.getElem?_drop,Array.getElem?_toList]at hj
        rw[Addr.add_lit]
        simp[World.cell?,m2,hj]
       ·cases hj
      ·have hi:=(List.getElem?_eq_some_iff.1 hx).1
       have hjl:j<af P e:=by rw[←(c4 i x hx).1];exact(List.getElem?_eq_some_iff.1 hj).1
       have h5:(i+1)*af P e≤xs.length*af P e:=Nat.mul_le_mul_right _ hi
       rw[Nat.succ_mul]at h5
       rw[List.getElem?_take,if_pos (by omega),List.getElem?_drop,Array.getElem?_toList]
       have:=g7 i x hx j u hj
       rwa [show base+off*af P e+i*af P e+j=base+off*af P e+(i*af P e+j) by omega]at this
    obtain⟨olds,p1,p2,p4⟩:=hcells
    obtain⟨r,w',C',q0,q1,q2,q3⟩:=fresh (C.kill id) (A.st.set id none) b' cap olds cf k1 k2 (by simp) (by rw[hxq,hlm]) (by omega) p1 p2 c3 c4 p4
    exact⟨r,w',C',_,_,q0,.inr ⟨hyl,rfl,rfl⟩,q1,q2,q3⟩
end
end Go.Av
end
section
namespace Go.Av
open Go
section
variable {P :Program}{W0 w w':World}{C C':Ctx}{σ σ':ab}{n:Nat}{A:aa}{a:Act}{o:Oper}
theorem s6 {z:Array Value}{sz m i j:Nat}{u:Value}(hz:z.size=sz)(hi:i<m)(hj:z[j]?=some u):(madeCells z (m*sz))[i*sz+j]?=some u:=by
 have hjl:j<sz:=by rw[←hz];exact(Array.getElem?_eq_some_iff.1 hj).1
 have:(i+1)*sz≤m*sz:=Nat.mul_le_mul_right _ hi
 rw[Nat.succ_mul]at this
 have hlt:i*sz+j<m*sz:=by omega
 have hmod:(i*sz+j) % z.size=j:=by rw[hz,Nat.mul_comm,Nat.mul_add_mod];exact Nat.mod_eq_of_lt hjl
 simp only[madeCells,Array.getElem?_map,Array.getElem?_range,hlt,if_true,Option.map_some]
 rw[hmod]
 obtain⟨h1,h2⟩:=Array.getElem?_eq_some_iff.1 hj
 rw[getElem!_pos z j h1,h2]
theorem wM (hr:fJ P W0 o w C A a){x y:Operand}{t e:TypeId}{k k':IntKind}{m:Int}{v:AV}(ho:o.op= .makeSlice t x y)(hx:Is P W0 o A x (.int k m))(hy:Is P W0 o A y (.int k' m))(ht:elT P t=some e)(hz:zeroOf P e=some v)(he:0<af P e)
  (h0:0≤m) (hb:m.toNat*bytesOf P e≤281474976710656) (hm:m.toNat≤maxLen):
  ∃r w' C',(execOp a.eval o).run P w= .ok (.value r) w'∧Step w C w' C'∧aB P W0 w' C' (A.st++[some (.cells e (List.replicate m.toNat v))])∧aF P w' C' (.row e A.st.length 0 m.toNat) r:=by
 obtain⟨inf,z,hi,hiz,hc,hf⟩:=jt (w:=w) (C:=C) hz
 obtain⟨inf',hinf,hsz⟩:=bJ he
 obtain rfl:inf'=inf:=by rw[hi]at hinf;exact(Option.some.inj hinf).symm
 have hcl:z.cells.size=af P e:=by have:=hc.bu hf;simpa using this
 rw[pG hi]at hb
 have hm':m≤9223372036854775807:=by unfold maxLen at hm;omega
 have hxe:=(hx w C a hr).cF
 have hye:=(hy w C a hr).cF
 have hrun:=run_make (P:=P) w t e inf' z (cr ht) hi hiz k k' m m h0 (Int.le_refl _) (by
  have h2:((inf'.bytes:Nat):Int)*m=((m.toNat*inf'.bytes:Nat):Int):=by rw[Int.natCast_mul,Int.toNat_of_nonneg h0,Int.mul_comm]
  rw[h2];exact Int.ofNat_le.2 hb) hm'
 obtain⟨C',g1,g2,g3⟩:=mB (P:=P) (W0:=W0) hr.st (e:=e) (zs:=List.replicate m.toNat v) (cap:=m.toNat) (arr:=madeCells z.cells (m.toNat*inf'.size)) (cf:=λ_=>z.cells.toList) (by simp) hm (by rw[size_madeCells,hsz])
  (λi x hx=>by
   simp only[List.getElem?_replicate]at hx
   split at hx
   ·cases hx
    rename_i hlt
    refine⟨hc,by simpa using hcl,hf,λj u hj=>?_⟩
    rw[hsz]
    exact s6 hcl hlt (by simpa using hj)
   ·cases hx)
 simp only[List.length_replicate]at g3
 refine⟨_,_,C',?_,g1,g2,g3⟩
 simp[execOp,ho,hxe,hye,hrun]
theorem um (hr:fJ P W0 o w C A a){x y:Operand}{t u e:TypeId}{k kn:IntKind}{m:Nat}{v:AV}(ho:o.op= .call { callee:=.builtin .append,args:=#[x,y],argTypes:=#[t,u] })
  (hx:Is P W0 o A x .az) (hy:Is P W0 o A y (.int k m)) (ht:elT P t=some e) (hu:P.underlying u=some (.int kn)) (he:0<af P e) (hz:zeroOf P e=some v) (h0:0<m) (hb:m*bytesOf P e≤140737488355328) (hm:m≤maxLen):
  ∃r w' C',(execOp a.eval o).run P w= .ok (.value r) w'∧Step w C w' C'∧aB P W0 w' C' (A.st++[some (.cells e (List.replicate m v))])∧aF P w' C' (.row e A.st.length 0 m) r:=by
 obtain⟨inf,z,hi,hiz,hc,hf⟩:=jt (w:=w) (C:=C) hz
 obtain⟨inf',hinf,hsz⟩:=bJ he
 obtain rfl:inf'=inf:=by rw[hi]at hinf;exact(Option.some.inj hinf).symm
 have hcl:z.cells.size=af P e:=by have:=hc.bu hf;simpa using this
 rw[pG hi]at hb
 have hm':(m:Int)≤9223372036854775807:=by unfold maxLen at hm;omega
 have hxe:=(hx w C a hr).dR
 have hye:=(hy w C a hr).cF
 have hrun:=Lib.run_append_nil_zeros (P:=P) w t u o.type e inf' z k kn (cr ht) hu hi hiz m h0 (by rw[hsz];exact he) hm' (by omega)
 have hge:=grownCap_ge w m 0 e
 have hcap:=grownCap_le_maxLen w m 0 e (by omega)
 obtain⟨C',g1,g2,g3⟩:=mB (P:=P) (W0:=W0) hr.st.drew (e:=e) (zs:=List.replicate m v) (cap:=grownCap w m 0 e) (arr:=Builtin.zeroCells z.cells m++Builtin.zeroCells z.cells (grownCap w m 0 e-m)) (cf:=λ_=>z.cells.toList) (by simpa using hge) hcap
  (by simp only[Array.size_append,size_zeroCells,hcl,←Nat.add_mul];congr 1;omega)
  (λi x hx=>by
   simp only[List.getElem?_replicate]at hx
   split at hx
   ·cases hx
    rename_i hlt
    refine⟨hc.mono (Step.drew w C),by simpa using hcl,hf,λj u hj=>?_⟩
    have hjl:j<af P e:=by rw[←hcl];simpa using (List.getElem?_eq_some_iff.1 hj).1
    have h5:(i+1)*af P e≤m*af P e:=Nat.mul_le_mul_right _ hlt
    rw[Nat.succ_mul]at h5
    rw[Array.getElem?_append_left (by rw[size_zeroCells,hcl];omega)]
    have hzm:Builtin.zeroCells z.cells m=madeCells z.cells (m*af P e):=by simp only[Builtin.zeroCells,madeCells,hcl]
    rw[hzm]
    exact s6 hcl hlt (by simpa using hj)
   ·cases hx)
 simp only[List.length_replicate]at g3
 refine⟨_,_,C',?_,(Step.drew w C).trans g1,g2,g3⟩
 simp[execOp,ho,resolve,invoke,builtin,hxe,hye,hrun]
end
end Go.Av
end
section
namespace Go.Av
open Go
section
variable {P :Program}{W0 w w':World}{C C':Ctx}{σ σ':ab}{n:Nat}{A:aa}{a:Act}{o:Oper}
theorem CQ (h:aB P W0 w C σ){id b base room:Nat}{fr:Nat×Nat}{e t':TypeId}{xs zs:List AV}{arr arr':Array Value}{cf:Nat→List Value}(hs:σ[id]?=some (some (.cells e xs)))(hm:C.m id=some (.obj b e base room))(hb:w.heap[b]?=some (.cells arr t' fr))(hf:wG fr arr.size)
  (hsz:arr.size=room) (hsize:arr'.size=arr.size) (hfit:base+zs.length*af P e≤room)
  (hz: ∀i x,zs[i]?=some x→Rel P w C x (cf i)∧(cf i).length=af P e∧fits P e x∧ ∀(j:Nat) (u:Value),(cf i)[j]?=some u→arr'[base+i*af P e+j]?=some u):
  Step w C (w.setRow b arr') C∧aB P W0 (w.setRow b arr') C (σ.set id (some (.cells e zs))):=by
 have hstep:=re (w:=w) hm arr'
 have hidl:id<σ.length:=(List.getElem?_eq_some_iff.1 hs).1
 refine⟨hstep,h.change hstep h.low (by simpa using h.nx) h.inj h.dom (λj=>?_)⟩
 rw[j8 _ _ _ _ hidl]
 by_cases hj:j=id
 ·left
  subst hj
  rw[if_pos rfl,hm]
  refine⟨rfl,_,t',fr,setRow_heap w b arr _ t' _ hb,by rw[hsize];exact hf,by rw[hsize,hsz],hfit,cf,λq x hq=>?_⟩
  obtain⟨g1,g2,g3,g4⟩:=hz q x hq
  exact⟨g1.mono hstep,g2,g3,g4⟩
 ·right
  rw[if_neg hj]
  exact⟨rfl,rfl,λx hx=>setRow_other w b x.blk _ (λe=>hj (h.inj j id x _ hx hm (by simpa[Own.blk]using e)))⟩
theorem pR {zs ys:List AV}{k:Nat}(h:k+ys.length≤zs.length):(iJ zs k ys).length=zs.length:=by simp[iJ];omega
theorem v7 {zs ys:List AV}{k:Nat}(h:k+ys.length≤zs.length)(i:Nat):(iJ zs k ys)[i]?=if k≤i∧i<k+ys.length then ys[i-k]? else zs[i]?:=by
 have hk:(zs.take k).length=k:=by simp;omega
 unfold iJ
 by_cases h1:i<k
 ·rw[if_neg (by omega),List.append_assoc,List.getElem?_append_left (by omega),List.getElem?_take,if_pos h1]
 ·by_cases h2:i<k+ys.length
  ·rw[if_pos ⟨by omega,h2⟩,List.getElem?_append_left (by simp;omega),List.getElem?_append_right (by omega),hk]
  ·rw[if_neg (by omega),List.getElem?_append_right (by simp;omega),List.getElem?_drop]
   congr 1
   simp
   omega
theorem vR {zs:List AV}{k:Nat}:iJ zs k []=zs:=by simp[iJ]
theorem yg (hr:aB P W0 w C σ){e te:TypeId}{id off m:Nat}{zs:List AV}{v:Value}(hv:aF P w C (.row e id off m) v)(he:0<af P e)(hs:σ[id]?=some (some (.cells te zs))):
  te=e∧ ∃ad cap b base room arr t' fr,v= .slice ad m cap∧m≤cap∧cap≤maxLen∧C.m id=some (.obj b e base room)∧w.heap[b]?=some (.cells arr t' fr)∧wG fr arr.size∧arr.size=room∧base+zs.length*af P e≤room∧
   (0<cap→ad=some ⟨b,base+off*af P e,none⟩)∧zs.length≤off+cap∧id<C.nx∧
   ∃cf:Nat→List Value,∀i x,zs[i]?=some x→Rel P w C x (cf i)∧(cf i).length=af P e∧fits P e x∧ ∀(j:Nat) (c:Value),(cf i)[j]?=some c→arr[base+i*af P e+j]?=some c:=by
 have hv':=hv.aP rfl
 obtain⟨b,base,room,arr,t',fr,m1,m2,mf,m3,m4,cf,m5⟩:=hr.cells hs
 cases hv' with
 |row h1 h2 h3 h4=>
  obtain⟨b',base',room',e1,e2,e3⟩:=h4 _ m1
  cases e1
  refine⟨rfl,_,_,b,base,room,arr,t',fr,rfl,h1,h2,m1,m2,mf,m3,m4,e2,?_,h3,cf,m5⟩
  rw[←e3]at m4
  have:=Nat.le_of_add_le_add_left m4
  exact Nat.le_of_mul_le_mul_right this he
theorem yy (hr:fJ P W0 o w C A a){x y:Operand}{t u e:TypeId}{id off m:Nat}{zs ys:List AV}{z:AV}(ho:o.op= .call { callee:=.builtin .append,args:=#[x,y],argTypes:=#[t,u] })
  (hx:Is P W0 o A x (.row e id off m)) (hy:Is P W0 o A y z) (ht:elT P t=some e) (hu:elT P u=some e) (he:0<af P e) (hs:A.st[id]?=some (some (.cells e zs))) (hys:fh A.st z e ys) (hm:off+m+ys.length≤zs.length):
  ∃r w',(execOp a.eval o).run P w= .ok (.value r) w'∧Step w C w' C∧aB P W0 w' C (A.st.set id (some (.cells e (iJ zs (off+m) ys))))∧aF P w' C (.row e id off (m+ys.length)) r:=by
 obtain⟨inf,hinf,hsz⟩:=bJ he
 have htu:=cr ht
 have hrun: ∀b l c yv r w',(Builtin.append_ #[t,t] o.type #[.slice b l c,yv]).run P w= .ok r w'→a.eval x= .slice b l c→a.eval y=yv→(execOp a.eval o).run P w= .ok (.value r) w':=λb l c yv r w' h h1 h2=>by
  rw[←gy htu (cr hu) hinf]at h
  simp[execOp,ho,resolve,invoke,builtin,h1,h2,h]
 have hxv:=hx w C a hr
 have hyv:=hy w C a hr
 obtain⟨ady,capy,cfy,hye,y3,y4,y5⟩:=hys.cells hr.st hyv
 obtain⟨_,ad,cap,b,base,room,arr,t',fr,hxe,c1,c2,m1,m2,mf,m3,m4,e2,e3,hid,cf,m5⟩:=yg hr.st hxv he hs
 have hidl:id<A.st.length:=(List.getElem?_eq_some_iff.1 hs).1
 by_cases hyl:ys=[]
 ·subst hyl
  rw[vR,show A.st.set id (some (.cells e zs))=A.st from by
   refine List.ext_getElem? λi=>?_
   by_cases hi:id=i
   ·subst hi;rw[List.getElem?_set_self hidl,hs]
   ·rw[List.getElem?_set_ne hi]]
  exact⟨_,w,hrun _ _ _ _ _ _ (iw htu hinf _ _ _ _ _ _ c1 w) hxe hye,.refl _ _,hr.st,by rw[←hxe];exact hxv⟩
 have hpos:0<ys.length:=by cases ys with|nil=>exact absurd rfl hyl|cons=>simp
 obtain⟨by_,oy,rfl,news,n1,n2,n3,n4⟩:=y5 hpos
 have n2': ∀j u,news[j]?=some u→w.cell? ((⟨by_,oy,none⟩:Addr).add j)=some u:=λj u hj=>by rw[Addr.add_lit];exact n2 j u hj
 obtain rfl:=e2 (by omega)
 have h6:base+(off+m+ys.length)*af P e≤arr.size:=by rw[m3];exact Nat.le_trans (Nat.add_le_add_left (Nat.mul_le_mul_right _ hm) _) m4
 have hfit:base+off*af P e+m*af P e+news.length≤arr.size:=by
  rw[n1]
  rw[Nat.add_mul,Nat.add_mul]at h6
  omega
 have hap:=iI (P:=P) w t o.type e inf htu hinf b (base+off*af P e) m cap t' fr arr m2 mf ⟨by_,oy,none⟩ ys.length capy news (by rw[n1,hsz]) n2' n3 (by omega) (by rw[hsz];exact hfit)
 rw[hsz]at hap
 have hsize:(bz arr (base+off*af P e+m*af P e) news).size=arr.size:=dw hfit
 have hoff:base+off*af P e+m*af P e=base+(off+m)*af P e:=by rw[Nat.add_mul];omega
 obtain⟨k1,k2⟩:=CQ hr.st (zs:=iJ zs (off+m) ys) (cf:=λi=>if off+m≤i∧i<off+m+ys.length then cfy (i-(off+m))else cf i) hs m1 m2 mf m3 hsize (by rw[pR hm];exact m4) (λi x hx=>by
  rw[v7 hm]at hx
  by_cases hi:off+m≤i∧i<off+m+ys.length
  ·rw[if_pos hi]at hx
   simp only[hi,and_self,if_true]
   refine⟨y3 _ x hx,(y4 _ x hx).1,(y4 _ x hx).2,λj u hj=>?_⟩
   have:=n4 _ x hx j u hj
   have hl:=(List.getElem?_eq_some_iff.1 this).1
   have hmul:i*af P e=(off+m)*af P e+(i-(off+m))*af P e:=by rw[←Nat.add_mul];congr 1;omega
   rw[bC hfit,if_pos (by omega),show base+i*af P e+j-(base+off*af P e+m*af P e)=(i-(off+m))*af P e+j by omega]
   exact this
  ·rw[if_neg hi]at hx
   simp only[hi,if_false]
   obtain⟨q1,q2,q3,q4⟩:=m5 i x hx
   refine⟨q1,q2,q3,λj u hj=>?_⟩
   have hjl:j<af P e:=by rw[←q2];exact(List.getElem?_eq_some_iff.1 hj).1
   rw[bC hfit,if_neg ?_]
   ·exact q4 j u hj
   ·rintro⟨b1,b2⟩
    rw[hoff]at b1 b2
    rw[n1]at b2
    rcases Nat.lt_or_ge i (off+m)with hlt|hge
    ·have h5:(i+1)*af P e≤(off+m)*af P e:=Nat.mul_le_mul_right _ hlt
     rw[Nat.succ_mul]at h5
     omega
    ·have h5:(off+m+ys.length)*af P e≤i*af P e:=Nat.mul_le_mul_right _ (by omega)
     rw[Nat.add_mul]at h5
     omega)
 refine⟨_,_,hrun _ _ _ _ _ _ hap hxe hye,k1,k2,.one rfl (.row (by omega) c2 hid (λow how=>?_))⟩
 have hxv':=hxv.aP rfl
 rw[hxe]at hxv'
 cases hxv' with
 |row _ _ _ h4=>exact h4 ow how
theorem ES (hr:fJ P W0 o w C A a){x:Operand}{t e:TypeId}{id off m:Nat}{zs:List AV}{v:AV}(ho:o.op= .call { callee:=.builtin .clear,args:=#[x],argTypes:=#[t] })
  (hx:Is P W0 o A x (.row e id off m)) (ht:elT P t=some e) (he:0<af P e) (hz:zeroOf P e=some v) (hs:A.st[id]?=some (some (.cells e zs))) (hm:off+m≤zs.length):
  ∃r w',(execOp a.eval o).run P w= .ok (.value r) w'∧Step w C w' C∧aB P W0 w' C (A.st.set id (some (.cells e (iJ zs off (List.replicate m v)))))∧aF P w' C (.tup []) r:=by
 obtain⟨inf,z,hi,hiz,hc,hf⟩:=jt (w:=w) (C:=C) hz
 obtain⟨inf',hinf,hsz⟩:=bJ he
 obtain rfl:inf'=inf:=by rw[hi]at hinf;exact(Option.some.inj hinf).symm
 have hcl:z.cells.size=af P e:=by have:=hc.bu hf;simpa using this
 have htu:=cr ht
 have hxv:=hx w C a hr
 obtain⟨_,ad,cap,b,base,room,arr,t',fr,hxe,c1,c2,m1,m2,mf,m3,m4,e2,e3,hid,cf,m5⟩:=yg hr.st hxv he hs
 have hidl:id<A.st.length:=(List.getElem?_eq_some_iff.1 hs).1
 have hrel: ∀w',aF P w' C (.tup []) (.tuple #[]):=λw'=>.tup (vs:=[]) rfl (λi a v h=>by simp at h)
 have hzv:(zeroValue e).run P w= .ok z w:=by simp[zeroValue,typeInfo,hi,hiz]
 by_cases hm0:m=0
 ·subst hm0
  rw[show iJ zs off (List.replicate 0 v)=zs from vR,show A.st.set id (some (.cells e zs))=A.st from by
   refine List.ext_getElem? λi=>?_
   by_cases hi:id=i
   ·subst hi;rw[List.getElem?_set_self hidl,hs]
   ·rw[List.getElem?_set_ne hi]]
  refine⟨_,w,?_,.refl _ _,hr.st,hrel _⟩
  cases ad<;>simp[execOp,ho,resolve,invoke,builtin,hxe,Builtin.clear_,run_underlying htu]
 obtain rfl:=e2 (by omega)
 have hzm:Builtin.zeroCells z.cells m=madeCells z.cells (m*af P e):=by simp only[Builtin.zeroCells,madeCells,hcl]
 have hll:(Builtin.zeroCells z.cells m).toList.length=m*af P e:=by simp[size_zeroCells,hcl]
 have hrl:(List.replicate m v).length=m:=by simp
 have h6:base+(off+m)*af P e≤arr.size:=by rw[m3];exact Nat.le_trans (Nat.add_le_add_left (Nat.mul_le_mul_right _ hm) _) m4
 have hfit:base+off*af P e+(Builtin.zeroCells z.cells m).toList.length≤arr.size:=by
  rw[hll]
  rw[Nat.add_mul]at h6
  omega
 have hone: ∀u∈(Builtin.zeroCells z.cells m).toList,u.oneCell'=true:=λu hu=>by
  rw[hzm]at hu
  simp only[madeCells,Array.toList_map,List.mem_map]at hu
  obtain⟨q,hq,rfl⟩:=hu
  have hq':q % z.cells.size<z.cells.size:=Nat.mod_lt _ (by omega)
  rw[getElem!_pos z.cells _ hq']
  exact hc.ky _ (by simp)
 have hst:=eg P b (base+off*af P e) t' fr (Builtin.zeroCells z.cells m).toList 0 arr w m2 mf (by simpa using hfit) hone
 simp only[Nat.add_zero]at hst
 have hsize:(bz arr (base+off*af P e) (Builtin.zeroCells z.cells m).toList).size=arr.size:=dw hfit
 obtain⟨k1,k2⟩:=CQ hr.st (zs:=iJ zs off (List.replicate m v)) (cf:=λi=>if off≤i∧i<off+m then z.cells.toList else cf i) hs m1 m2 mf m3 hsize (by rw[pR (by rw[hrl];exact hm)];exact m4) (λi x hx=>by
  rw[v7 (by rw[hrl];exact hm),hrl]at hx
  by_cases hi:off≤i∧i<off+m
  ·rw[if_pos hi,List.getElem?_replicate,if_pos (by omega)]at hx
   cases hx
   simp only[hi,and_self,if_true]
   refine⟨hc,by simpa using hcl,hf,λj u hj=>?_⟩
   have hjl:j<af P e:=by rw[←hcl];simpa using (List.getElem?_eq_some_iff.1 hj).1
   have h5:(i-off+1)*af P e≤m*af P e:=Nat.mul_le_mul_right _ (by omega)
   rw[Nat.succ_mul]at h5
   have hmul:i*af P e=off*af P e+(i-off)*af P e:=by rw[←Nat.add_mul];congr 1;omega
   rw[bC hfit,if_pos (by omega),show base+i*af P e+j-(base+off*af P e)=(i-off)*af P e+j by omega,hzm,Array.getElem?_toList]
   exact s6 hcl (show i-off<m by omega) (by simpa using hj)
  ·rw[if_neg hi]at hx
   simp only[hi,if_false]
   obtain⟨q1,q2,q3,q4⟩:=m5 i x hx
   refine⟨q1,q2,q3,λj u hj=>?_⟩
   have hjl:j<af P e:=by rw[←q2];exact(List.getElem?_eq_some_iff.1 hj).1
   rw[bC hfit,if_neg ?_]
   ·exact q4 j u hj
   ·rintro⟨b1,b2⟩
    rw[hll]at b2
    rcases Nat.lt_or_ge i off with hlt|hge
    ·have h5:(i+1)*af P e≤off*af P e:=Nat.mul_le_mul_right _ hlt
     rw[Nat.succ_mul]at h5
     omega
    ·have h5:(off+m)*af P e≤i*af P e:=Nat.mul_le_mul_right _ (by omega)
     rw[Nat.add_mul]at h5
     omega)
 refine⟨_,_,?_,k1,k2,hrel _⟩
 have esp:bz arr (base+off*af P e) (Builtin.zeroCells z.cells m).toList=(arr.toList.take (base+off*af P e)++(Builtin.zeroCells z.cells m).toList++arr.toList.drop (base+off*af P e+(Builtin.zeroCells z.cells m).toList.length)).toArray:=rfl
 rw[esp]
 have hne: ∀(q:Nat),m=q→(Builtin.clear_ #[t] o.type #[.slice (some ⟨b,base+off*af P e,none⟩) q cap]).run P w= .ok (.tuple #[]) (w.setRow b (arr.toList.take (base+off*af P e)++(Builtin.zeroCells z.cells m).toList++arr.toList.drop (base+off*af P e+(Builtin.zeroCells z.cells m).toList.length)).toArray):=λq hq=>by
  cases q with
  |zero=>exact absurd hq hm0
  |succ q=>simp[Builtin.clear_,run_underlying htu,hzv,←hq,hst]
 simp[execOp,ho,resolve,invoke,builtin,hxe,hne m rfl]
theorem yK (hr:fJ P W0 o w C A a){t e:TypeId}{m:Nat}{ps:Array (Nat×Operand)}{qs:List (Nat×AV)}(ho:o.op= .buildSlice t m ps)(ht:elT P t=some e)(he:0<af P e)(hz:bw P e=true)(hm:m*af P e≤2^24)
  (hq:jC P W0 o A ps.toList qs) (hk:qs.map (·.1)=List.range' 0 m) (hf: ∀p∈qs,fits P e p.2):
  ∃r w' C',(execOp a.eval o).run P w= .ok (.value r) w'∧Step w C w' C'∧aB P W0 w' C' (A.st++[some (.cells e (qs.map (·.2)))])∧aF P w' C' (.row e A.st.length 0 m) r:=by
 obtain⟨inf,z,hinf,hiz,_⟩:=gQ hz
 have hsz:inf.size=af P e:=by simp[af,hinf]
 have hlen:qs.length=m:=by have:=congrArg List.length hk;simpa using this
 have hzv:(zeroValue e).run P w= .ok z w:=by simp[zeroValue,typeInfo,hinf,hiz]
 have hsv:(sizeOf e).run P w= .ok (af P e) w:=by simp[sizeOf,typeInfo,hinf,hsz]
 have hbig: ¬m*af P e>2^24:=by omega
 have hrun: ∀arr:Array Value,arr.size=m*af P e→ ∃cells',Instr.fill (λi=>some (i*af P e,af P e)) arr (ps.toList.map λq=>(q.1,a.eval q.2))=some cells'∧cells'.size=arr.size∧(∀p,p<0*af P e→cells'[p]?=arr[p]?)∧Gl P w C e 0 (qs.map (·.2)) cells':=
  λarr harr=>kR m qs (ps.toList.map λq=>(q.1,a.eval q.2)) 0 arr (by rw[hk,hlen]) (by simpa using hq.1) harr (by omega) (hq.rel hr) hf
 have e1:(Array.map (λx=>(x.1,a.eval x.2)) ps).toList=ps.toList.map λq=>(q.1,a.eval q.2):=by simp
 obtain⟨zc,hzc⟩: ∃zc:Array Value,zc=if m*af P e=0 then #[]else z.cells:=⟨_,rfl⟩
 obtain⟨cells',f1,f2,_,cf,f4⟩:=hrun ((Array.range (m*af P e)).map (zc[· % zc.size]!)) (by simp)
 have hl:(qs.map (·.2)).length=m:=by simpa using hlen
 have hmax:m≤maxLen:=by
  have:m*1≤m*af P e:=Nat.mul_le_mul_left _ he
  unfold maxLen;omega
 have hsize:cells'.size=m*af P e:=by simpa using f2
 obtain⟨C',k1,k2,k3,_⟩:=Ah (P:=P) (W0:=W0) hr.st (e:=e) (zs:=qs.map (·.2)) (cap:=m) (arr:=cells') (cf:=cf) (by rw[hl];exact Nat.le_refl _) hmax hsize (λi x hx=>by
  have:=f4 i x hx
  rw[Nat.zero_add]at this
  exact⟨this.1,this.1.bu this.2.1,this.2.1,this.2.2⟩)
 rw[hl]at k3
 refine⟨_,_,C',?_,k1,k2,k3⟩
 simp only[execOp,ho,Instr.buildSlice,Sem.run_bind,Result.andThen_ok,run_underlying (cr ht),hsv,hbig,if_false,Sem.run_pure]
 by_cases h0:m*af P e=0
 ·rw[if_pos h0]at hzc ⊢
  subst hzc
  simp only[Sem.run_bind,Sem.run_pure,Result.andThen_ok]
  rw[e1,f1]
  simp only[newRow,newObj,Sem.run_bind,Sem.run_pure]
  rfl
 ·rw[if_neg h0]at hzc ⊢
  subst hzc
  simp only[Sem.run_bind,Sem.run_pure,Result.andThen_ok,hzv]
  rw[e1,f1]
  simp only[newRow,newObj,Sem.run_bind,Sem.run_pure]
  rfl
end
end Go.Av
end
section
namespace Go.Av
open Go
section
variable {P :Program}{W0 w w':World}{C C':Ctx}{σ σ':ab}{n:Nat}{A:aa}{a:Act}{o:Oper}{fz:List Nat}{K:aa→Prop}
theorem dM {v:Value}(hrun:(execOp a.eval o).run P w= .ok (.value v) w'){next:Act→World→Prop}{Qx:Exit→Act→World→Prop}(h:next (a.put o.dst v) w'):o.wp P a w next Qx:=by
 unfold Oper.wp
 rw[hrun]
 exact h
theorem oW (hrun:(execOp a.eval o).run P w= .ok .skip w'){next:Act→World→Prop}{Qx:Exit→Act→World→Prop}(h:next (a.put o.dst undef) w'):o.wp P a w next Qx:=by
 unfold Oper.wp
 rw[hrun]
 exact h
theorem bN {x:Operand}(hm:x∈o.op.operands){k:AV→Prop}(h:strip none (A.val x) k): ∃u,k u∧Is P W0 o A x u:=aW (gd:=none) hm h
theorem lU {xs:List Operand}(hm: ∀x∈xs,x∈o.op.operands){k:List AV→Prop}(h:stripL none (xs.map A.val) k): ∃us,k us∧IsL P W0 o A xs us:=fW (gd:=none) _ _ hm h
theorem Bj (hr:bI P W0 n w C A a)(hd:iG n o.dst){t:TypeId}{x y:Operand}{u v:AV}(ho:o.op= .store t x y)(hx:Is P W0 o A x u)(hy:Is P W0 o A y v)
  (h:lf P fz A t x u v λA'=>K (A'.put o.dst .undef)) {next:Act→World→Prop} {Qx:Exit→Act→World→Prop}
  (hn: ∀A' C' a' w',K A'→bI P W0 n w' C' A' a'→Step w C w' C'→next a' w'):o.wp P a w next Qx:=by
 unfold lf at h
 split at h
 ·obtain⟨⟨rfl,hf⟩,h⟩:=h
  rename_i t' id i path
  split at h
  ·rename_i te xs hs
   split at h
   ·rename_i z hz
    split at h
    ·rename_i y0 hy0
     split at h
     ·rename_i d
      have hl:look A.st id i path=some y0:=by simp[look,hs,hz,hy0]
      obtain⟨w',r1,r2,r3⟩:=qH (hr.toO o) ho hx hy hl (eU hf) hs hz
      have hidl:id<A.st.length:=(List.getElem?_eq_some_iff.1 hs).1
      split at h
      ·-- given up
       obtain⟨rfl,h⟩:=h
       have hzz:z=y0:=by cases z<;>simpa[AV.at]using hy0
       subst hzz
       have hi:i<xs.length:=(List.getElem?_eq_some_iff.1 hz).1
       have hset:z.setAt [] v=v:=by cases z<;>rfl
       rw[hset]at r3
       have hs':(A.st.set id (some (.cells te (xs.set i v))))[id]?=some (some (.cells te (xs.set i v))):=by simp[hidl]
       have hv:=(hx w C a (hr.toO o)).mono r2
       have hfr:=kV (x:=v) r3 hv hs' (by simp[hi])
       obtain⟨k1,k2⟩:=r3.kill id (by simpa using hidl)
       rw[List.set_set]at k2
       have hr1:=hr.step (r2.trans k1) k2
       have hdn:d<n:=by
        by_cases hdn:d<n
        ·exact hdn
        ·have hle:a.tmps.size≤d:=by rw[hr.size];exact Nat.le_of_not_lt hdn
         have:a.eval (.tmp d)=undef:=by
          show a.tmps.getD d undef=undef
          rw[Array.getD_eq_getD_getElem?,Array.getElem?_eq_none hle]
          rfl
         rw[this]at hfr
         obtain⟨_,_,_,e,_⟩:=hfr.pc
         cases e
       have hr2:bI P W0 n w' (C.kill id) ((A.upd d (.loc t' v)).an (A.st.set id none)) a:=by
        refine⟨λj=>?_,hr1.defers,hr1.size,hr1.st⟩
        by_cases hj:j=d
        ·subst hj
         have hfr':aF P w' (C.kill id) (.loc t' v) (a.tmps.getD j undef):=hfr
         simpa[aa.upd,aa.an]using hfr'
        ·have:=hr1.env j;simpa[aa.upd,aa.an,hj]using this
       have hr3:=kC (o:=o) (v:=.undef) (x:=undef) hr2 hd (.undef _)
       exact oW r1 (hn _ _ _ _ h hr3 (r2.trans k1))
      ·have hr1:=hr.step r2 r3
       have hr3:=kC (o:=o) (v:=.undef) (x:=undef) hr1 hd (.undef _)
       exact oW r1 (hn _ _ _ _ h hr3 r2)
     ·exact h.elim
    ·exact h.elim
   ·exact h.elim
  ·exact h.elim
 ·exact h.elim
def EA (fz:List Nat):Op→Prop
 | .store _ (.tmp d) _=>fz.contains d=false
 |_=>True
theorem yw (hr:fJ P W0 o w C A a){t:TypeId}{x y:Operand}{u v:AV}(ho:o.op= .store t x y)(hnf:EA fz (.store t x y))(hx:Is P W0 o A x u)(hy:Is P W0 o A y v)
  (h:lf P fz A t x u v λA'=>K (A'.put o.dst .undef)) {next:Act→World→Prop} {Qx:Exit→Act→World→Prop}
  (hn: ∀v x σ' w' C',K ((A.put o.dst v).an σ')→aF P w' C' v x→aB P W0 w' C' σ'→Step w C w' C'→next (a.put o.dst x) w'):o.wp P a w next Qx:=by
 unfold lf at h
 split at h
 ·obtain⟨⟨rfl,hf⟩,h⟩:=h
  rename_i t' id i path
  split at h
  ·rename_i te xs hs
   split at h
   ·rename_i z hz
    split at h
    ·rename_i y0 hy0
     split at h
     ·rename_i d
      have hl:look A.st id i path=some y0:=by simp[look,hs,hz,hy0]
      obtain⟨w',r1,r2,r3⟩:=qH hr ho hx hy hl (eU hf) hs hz
      rw[if_neg (by simp only[EA]at hnf;rw[hnf];simp)]at h
      refine oW r1 (hn .undef undef _ w' C ?_ (.undef _) r3 r2)
      have e: ∀σ,(A.an σ).put o.dst .undef=(A.put o.dst .undef).an σ:=λσ=>by cases o.dst<;>rfl
      rw[←e];exact h
     ·exact h.elim
    ·exact h.elim
   ·exact h.elim
  ·exact h.elim
 ·exact h.elim
theorem tD (hr:fJ P W0 o w C A a)(hnf:EA fz o.op)(h:uB P W0 n fz o A K){next:Act→World→Prop}{Qx:Exit→Act→World→Prop}
  (hn: ∀v x σ' w' C',K ((A.put o.dst v).an σ')→aF P w' C' v x→aB P W0 w' C' σ'→Step w C w' C'→next (a.put o.dst x) w'):o.wp P a w next Qx:=by
 have hval:je P W0 none o.op A (λv=>K (A.put o.dst v))→o.wp P a w next Qx:=λh=>by
  obtain⟨v,hK,hp⟩:=fE hr h
  exact hp w C a hr _ _ λx w' hv hs hst=>hn v x A.st w' C (by
   have e:(A.put o.dst v).an A.st=A.put o.dst v:=by cases o.dst<;>rfl
   rw[e];exact hK) hv hst hs
 obtain⟨hd,h⟩:=h
 split at h
 ·rename_i c hc
  obtain⟨callee,args,argTypes⟩:=c
  split at h
  ·rename_i f hf
   simp only at hf
   subst hf
   obtain⟨fv,h,hfv⟩:=bN (P:=P) (W0:=W0) (o:=o) (by simp[*,Op.operands,Call.operands]) h
   obtain⟨us,h,hus⟩:=lU (P:=P) (W0:=W0) (o:=o) (λy hy=>by simp[*,Op.operands,Call.operands];simp at hy;simp[hy]) h
   split at h
   ·refine zl hr hc hfv hus h (λv r σ' w' C' hK hst hv hs=>hn r v σ' w' C' hK hv hst hs)
   ·exact h.elim
  ·rename_i hf
   simp only at hf
   subst hf
   obtain⟨us,h2,hus⟩:=lU (P:=P) (W0:=W0) (o:=o) (λy hy=>by simp[*,Op.operands,Call.operands];simp at hy;simp[hy]) h
   clear h
   split at h2
   ·obtain⟨x,y,hxy,hx,hy⟩:=oh hus
    simp only at hxy
    subst hxy
    rcases h2 with h2|h2|h2|h2|h2|h2
    ·unfold oq at h2
     split at h2
     ·rename_i ts t u hts
      obtain rfl:argTypes= #[t,u]:=by rw[←Array.toArray_toList (xs:=argTypes)];simp only at hts;rw[hts]
      obtain⟨e,xs,ys,⟨h1,h2,h3,h4⟩,h5,h6,h7,h8,h9⟩:=h2
      obtain⟨r,w',C',v',σ',g1,g2,g3,g4,g5⟩:=DP hr hc hx hy h1 h2 h3 h4 h5 h6 h7 h8
      exact dM g1 (hn v' r σ' w' C' (h9 v' σ' g2) g5 g4 g3)
     ·exact h2.elim
    ·unfold jV at h2
     split at h2
     ·rename_i ts t u hts
      obtain rfl:argTypes= #[t,u]:=by rw[←Array.toArray_toList (xs:=argTypes)];simp only at hts;rw[hts]
      obtain⟨e,xs,ys,⟨h1,h2,h3,h4⟩,h5,h6,h7,h8,h9,h10⟩:=h2
      obtain⟨r,w',C',v',σ',g1,g2,g3,g4,g5⟩:=wz hr hc hx hy h1 h2 h3 h4 h5 h6 h7 h8
      refine dM g1 (hn v' r σ' w' C' ?_ g5 g4 g3)
      rcases g2 with⟨e1,rfl,rfl⟩|⟨e1,rfl,rfl⟩
      ·exact h9 e1
      ·exact h10 e1
     ·exact h2.elim
    ·unfold iR at h2
     split at h2
     ·rename_i ts t u hts
      obtain rfl:argTypes= #[t,u]:=by rw[←Array.toArray_toList (xs:=argTypes)];simp only at hts;rw[hts]
      obtain⟨e,m,z,k,kn,⟨rfl,rfl⟩,⟨h1,h2,h3,h4,h5⟩,h6,h7,h8,h9⟩:=h2
      obtain⟨r,w',C',g1,g2,g3,g4⟩:=um hr hc hx hy h1 h2 h3 h5 h6 h7 h8
      exact dM g1 (hn _ r _ w' C' h9 g4 g3 g2)
     ·exact h2.elim
    ·unfold kE at h2
     split at h2
     ·rename_i ts t u hts
      obtain rfl:argTypes= #[t,u]:=by rw[←Array.toArray_toList (xs:=argTypes)];simp only at hts;rw[hts]
      obtain⟨e,id,off,m,zs,ys,⟨h1,h2,h3⟩,rfl,h4,h5,h6,h7⟩:=h2
      obtain⟨r,w',g1,g2,g3,g4⟩:=yy hr hc hx hy h1 h2 h3 h4 h5 h6
      exact dM g1 (hn _ r _ w' C h7 g4 g3 g2)
     ·exact h2.elim
    ·exact False.elim h2
    ·exact False.elim h2
   ·exact h2.elim
  ·rename_i hf
   simp only at hf
   subst hf
   obtain⟨us,h2,hus⟩:=lU (P:=P) (W0:=W0) (o:=o) (λy hy=>by simp[*,Op.operands,Call.operands];simp at hy;simp[hy]) h
   clear h
   split at h2
   ·obtain⟨x,hxy,hx⟩:=gD hus
    simp only at hxy
    subst hxy
    unfold rS at h2
    split at h2
    ·rename_i ts t hts
     obtain rfl:argTypes= #[t]:=by rw[←Array.toArray_toList (xs:=argTypes)];simp only at hts;rw[hts]
     obtain⟨e,id,off,m,zs,v,⟨h1,h2,h3⟩,rfl,h4,h5,h6⟩:=h2
     obtain⟨r,w',g1,g2,g3,g4⟩:=ES hr hc hx h1 h2 h3 h4 h5
     exact dM g1 (hn _ r _ w' C h6 g4 g3 g2)
    ·exact h2.elim
   ·exact h2.elim
  ·exact hval h
 ·rename_i t x hop
  split at h
  ·rename_i d hdst
   split at h
   ·obtain⟨v,h,hv⟩:=bN (P:=P) (W0:=W0) (o:=o) (by simp[*,Op.operands]) h
    exact(Gj hop hv (eU h.1)).pure w C a hr _ _ λx w' hv hs hst=>hn _ x A.st w' C (by
     have e:(A.put o.dst (.loc t v)).an A.st=A.put o.dst (.loc t v):=by cases o.dst<;>rfl
     rw[e,hdst];exact h.2) hv hst hs
   ·obtain⟨v,h,hv⟩:=bN (P:=P) (W0:=W0) (o:=o) (by simp[*,Op.operands]) h
    obtain⟨y,w',C',g1,g2,g3,g4⟩:=Jf hr hop hv (eU h.1)
    exact dM g1 (hn _ y _ w' C' (by rw[hdst];exact h.2) g2 g4 g3)
  ·exact h.elim
 ·rename_i t hop
  split at h
  ·rename_i v hz
   obtain⟨y,w',C',g1,g2,g3,g4⟩:=EG hr hop hz
   exact dM g1 (hn _ y _ w' C' h g2 g4 g3)
  ·exact h.elim
 ·rename_i t x y hop
  obtain⟨u,h,hu⟩:=bN (P:=P) (W0:=W0) (o:=o) (by simp[*,Op.operands]) h
  obtain⟨v,h,hv⟩:=bN (P:=P) (W0:=W0) (o:=o) (by simp[*,Op.operands]) h
  unfold wk at h
  split at h
  ·obtain⟨rfl,h⟩:=h
   split at h
   ·rename_i e he
    split at h
    ·rename_i z hz
     obtain⟨h1,h2,h3,h4,h5⟩:=h
     obtain⟨r,w',C',g1,g2,g3,g4⟩:=wM hr hop hu hv he hz h1 h2 h3 h4
     exact dM g1 (hn _ r _ w' C' h5 g4 g3 g2)
    ·exact h.elim
   ·exact h.elim
  ·exact h.elim
 ·rename_i t x y hop
  obtain⟨u,h,hu⟩:=bN (P:=P) (W0:=W0) (o:=o) (by simp[*,Op.operands]) h
  obtain⟨v,h,hv⟩:=bN (P:=P) (W0:=W0) (o:=o) (by simp[*,Op.operands]) h
  exact yw hr hop (by rw[hop]at hnf;exact hnf) hu hv h hn
 ·rename_i t x hop
  obtain⟨ht,h⟩:=h
  obtain⟨u,h,hu⟩:=bN (P:=P) (W0:=W0) (o:=o) (by simp[*,Op.operands]) h
  split at h
  ·obtain⟨y,w',C',g1,g2,g3,g4⟩:=HX hr hop hu (eE ht)
   exact dM g1 (hn _ y _ w' C' h g2 g4 g3)
  ·exact h.elim
 ·rename_i x hop
  obtain⟨u,h,hu⟩:=bN (P:=P) (W0:=W0) (o:=o) (by simp[*,Op.operands]) h
  split at h
  ·split at h
   ·rename_i l pos hs
    rcases Nat.lt_or_ge pos l.length with hp|hp
    ·obtain⟨y,w',g1,g2,g3,g4⟩:=C8 hr hop hu hs hp
     exact dM g1 (hn _ y _ w' C (h.1 hp) g2 g4 g3)
    ·obtain⟨y,g1,g2⟩:=Et hr hop hu hs hp
     exact dM g1 (hn _ y A.st w C (by
      have e:(A.put o.dst (.tup [.bool false])).an A.st=A.put o.dst (.tup [.bool false]):=by cases o.dst<;>rfl
      rw[e];exact h.2 hp) g2 hr.st (.refl _ _))
   ·exact h.elim
  ·exact h.elim
 ·rename_i t x lo hi mx hop
  rcases h with h|h
  ·exact hval h
  obtain⟨u,h,hu⟩:=bN (P:=P) (W0:=W0) (o:=o) (by simp[*,Op.operands]) h
  exact False.elim h
 ·rename_i s d x hop
  rcases h with h|h
  ·exact hval h
  obtain⟨u,h,hu⟩:=bN (P:=P) (W0:=W0) (o:=o) (by simp[*,Op.operands]) h
  exact False.elim h
 ·rename_i t m ps hop
  rcases h with h|h
  ·exact hval h
  obtain⟨qs,h,hq⟩:=gJ (gd:=none) (P:=P) (W0:=W0) (o:=o) _ _ (λp hp=>by simp only[hop,Op.operands];exact List.mem_toArray.2 (List.mem_map_of_mem hp)) h
  unfold nQ at h
  split at h
  ·rename_i e he
   obtain⟨⟨g1,g2,g3,g4,g5⟩,hK⟩:=h
   obtain⟨y,w',C',q1,q2,q3,q4⟩:=yK hr hop he g1 g2 (by omega) hq g4 (λp hp=>eU (List.all_eq_true.1 g5 p hp))
   exact dM q1 (hn _ y _ w' C' hK q4 q3 q2)
  ·exact h.elim
 ·rename_i t hop
  split at h
  ·rename_i kt vt ht
   obtain⟨y,w',C',g1,g2,g3,g4⟩:=IN hr hop kt
   exact dM g1 (hn _ y _ w' C' h g2 g4 g3)
  ·exact h.elim
 ·rename_i t x ix y hop
  obtain⟨u,h,hu⟩:=bN (P:=P) (W0:=W0) (o:=o) (by simp[*,Op.operands]) h
  obtain⟨k,h,hk⟩:=bN (P:=P) (W0:=W0) (o:=o) (by simp[*,Op.operands]) h
  obtain⟨v,h,hv⟩:=bN (P:=P) (W0:=W0) (o:=o) (by simp[*,Op.operands]) h
  exact False.elim h
 ·exact hval h
theorem wi (hr:bI P W0 n w C A a)(h:uB P W0 n fz o A K){next:Act→World→Prop}{Qx:Exit→Act→World→Prop}
  (hn: ∀A' C' a' w',K A'→bI P W0 n w' C' A' a'→Step w C w' C'→next a' w'):o.wp P a w next Qx:=by
 have key:EA fz o.op→o.wp P a w next Qx:=λhnf=>tD (hr.toO o) hnf h λv x σ' w' C' hK hv hst hs=>hn _ C' _ w' hK (j7 hr h.1 hs hst hv) hs
 cases hop:o.op
 case store t x y=>
  obtain⟨hd,h2⟩:=h
  rw[hop]at h2
  obtain⟨u,h2,hu⟩:=bN (P:=P) (W0:=W0) (o:=o) (by simp[*,Op.operands]) h2
  obtain⟨v,h2,hv⟩:=bN (P:=P) (W0:=W0) (o:=o) (by simp[*,Op.operands]) h2
  exact Bj hr hd hop hu hv h2 hn
 all_goals exact key (by rw[hop];trivial)
theorem sf {ops:Array Oper}{j:Nat}{want G:Bool}(hr:bI P W0 n w C A a)(h:yG ops A j want=some G)(ho:o.guard=some (j,want)):Region.wanted o (yielded ops a.tmps)=G:=by
 unfold yG at h
 split at h
 ·rename_i d hd
  have he:=hr.env d
  have hget:a.tmps.getD d undef=(a.tmps[d]?).getD undef:=by simp
  split at h
  ·rename_i b hb
   rw[hb]at he
   simp only[Option.some.injEq]at h
   have hv:=he.gf
   rw[hget]at hv
   cases ht:a.tmps[d]? with
   |none=>rw[ht]at hv;cases hv
   |some v=>
    rw[ht]at hv
    simp only[Option.getD_some]at hv
    subst hv h
    have hy:yielded ops a.tmps j=some b:=by unfold yielded;rw[hd];simp only[Option.bind_some,ht]
    simp only[Region.wanted,ho,hy]
    cases b<;>cases want<;>rfl
  ·rename_i g b hb
   rw[hb]at he
   simp only[Option.some.injEq]at h
   cases he with
   |one h1=>simp[AV.aX]at h1
   |maybe h1 h2=>
    cases g with
    |true=>
     have hv:=(h1 rfl).gf
     rw[hget]at hv
     cases ht:a.tmps[d]? with
     |none=>rw[ht]at hv;cases hv
     |some v=>
      rw[ht]at hv
      simp only[Option.getD_some]at hv
      subst hv
      subst h
      have hy:yielded ops a.tmps j=some b:=by unfold yielded;rw[hd];simp only[Option.bind_some,ht]
      simp only[Region.wanted,ho,hy]
      cases b<;>cases want<;>rfl
    |false=>
     have hv:=h2 rfl
     rw[hget]at hv
     subst h
     have hy:yielded ops a.tmps j=none:=by
      unfold yielded
      rw[hd]
      simp only[Option.bind_some]
      cases ht:a.tmps[d]? with
      |none=>rfl
      |some v=>
       rw[ht]at hv
       simp only[Option.getD_some]at hv
       subst hv
       rfl
     simp only[Region.wanted,ho,hy]
     cases want<;>rfl
  ·rename_i v0 hnb hb
   rw[hb]at he
   simp only[Option.some.injEq]at h
   cases he with
   |one h1=>simp[AV.aX]at h1
   |maybe h1 h2=>
    have hv:=h2 rfl
    rw[hget]at hv
    subst h
    have hy:yielded ops a.tmps j=none:=by
     unfold yielded
     rw[hd]
     simp only[Option.bind_some]
     cases ht:a.tmps[d]? with
     |none=>rfl
     |some v=>
      rw[ht]at hv
      simp only[Option.getD_some]at hv
      subst hv
      rfl
    simp only[Region.wanted,ho,hy]
    cases want<;>rfl
  ·cases h
 ·cases h
theorem HP {G:Bool}(hr:bI P W0 n w C A a)(h:je P W0 (some G) o.op A λv=>K (A.put o.dst (.maybe G v))):
  ∃v,K (A.put o.dst (.maybe G v))∧(G=true→dd P W0 o A v):=fE (hr.toO o) h
theorem gV {ops:Array Oper}{Qx:Exit→Act→World→Prop}: ∀(l:List Oper) (K:aa→Prop) (A:aa) (w:World) (C:Ctx) (a:Act),bI P W0 n w C A a→pI P W0 n fz ops l K A→
  (∀A' C' a' w',K A'→bI P W0 n w' C' A' a'→Step w C w' C'→Qx .normal a' w')→kG P ops Qx l a w
 |[],K,A,w,C,a,hr,h,hn=>zo (hn A C a w h hr (.refl _ _))
 |o::r,K,A,w,C,a,hr,h,hn=>by
  have nd: ∀{K':aa→Prop},uB P W0 n fz o A K'→ ∀c,o.op≠ .defer c:=λh=>dU (wi hr h λA' C' a' w' _ hr' _=>hr'.defers.trans hr.defers.symm)
  simp only[pI]at h
  split at h
  ·rename_i hg
   exact nL (by simp[Region.wanted,hg]) (wi hr h (λA' C' a' w' hK hr' hs=>gV r K A' w' C' a' hr' hK (λA'' C'' a'' w'' hK' hr'' hs'=>hn A'' C'' a'' w'' hK' hr'' (hs.trans hs')))) (nd h)
  ·rename_i j want hg
   split at h
   ·rename_i G hG
    obtain⟨hd,h⟩:=h
    have hw:=sf hr hG hg
    rcases h with h|⟨ht,hf⟩
    case inr=>
     cases G with
     |true=>exact nL hw (wi hr (ht rfl) (λA' C' a' w' hK hr' hs=>gV r K A' w' C' a' hr' hK (λA'' C'' a'' w'' hK' hr'' hs'=>hn A'' C'' a'' w'' hK' hr'' (hs.trans hs')))) (nd (ht rfl))
     |false=>
      obtain⟨v0,hf0⟩:=hf rfl
      exact om hw (gV r K (A.put o.dst (.maybe false v0)) w C _ (kC hr hd (aF.maybe (λe=>by cases e) (λ_=>rfl))) hf0 hn)
    obtain⟨v,hK,hp⟩:=HP hr h
    cases G with
    |true=>
     refine nL hw (hp rfl w C a (hr.toO o) _ _ λx w' hv hs hst=>gV r K (A.put o.dst (.maybe true v)) w' C _ ?_ hK (λA'' C'' a'' w'' hK' hr'' hs'=>hn A'' C'' a'' w'' hK' hr'' (hs.trans hs'))) (dU (hp rfl w C a (hr.toO o) _ _ λx w' _ _ _=>put_defers a o.dst x))
     have:=j7 (o:=o) hr hd hs hst (aF.maybe (g:=true) (λ_=>hv) (λe=>by cases e))
     cases ho:o.dst<;>simpa[ho,aa.put,aa.upd,aa.an]using this
    |false=>
     refine om hw (gV r K (A.put o.dst (.maybe false v)) w C _ ?_ hK hn)
     exact kC hr hd (aF.maybe (λe=>by cases e) (λ_=>rfl))
   ·exact h.elim
theorem VC.region {id:Nat}{l:List Oper}{Q:Exit→aa→Prop}(h:pI P W0 n fz l.toArray l (λA'=>Q .normal A') A):VC P W0 n (.region id l.toArray false) Q A:=λw C a hr=>
 sR (gV l _ A w C a hr h λA' C' _ _ q r s=>⟨A',C',q,r,s⟩)
def gY (args:List AV):Nat→AV:=λi=>args[i]?.getD .undef
def gZ (env:Nat→AV):List Nat→AV
 |[t]=>env t
 |ts=>.tup (ts.map env)
theorem vO {F:ResultVar→Sem Value}{tmps:Array Value}(hF: ∀t,(F (.tmp t)).run P w= .ok (tmps.getD t undef) w): ∀ts:List Nat,((ts.map ResultVar.tmp).mapM F).run P w= .ok (ts.map λt=>tmps.getD t undef) w
 |[]=>rfl
 |t::ts=>by
  rw[List.map_cons,List.mapM_cons]
  simp only[Sem.run_bind,hF,Result.andThen_ok,vO hF ts,Sem.run_pure,List.map_cons]
theorem lG {fn:Func}{ts:List Nat}(hr:bI P W0 n w C A a)(h:fn.results=(ts.map ResultVar.tmp).toArray): ∃v,(results fn a.tmps).run P w= .ok v w∧aF P w C (gZ A.env ts) v:=by
 have hm:(results fn a.tmps).run P w= .ok (if h:(ts.map λt=>a.tmps.getD t undef).toArray.size=1 then(ts.map λt=>a.tmps.getD t undef).toArray[0]else .tuple (ts.map λt=>a.tmps.getD t undef).toArray) w:=by
  unfold results
  rw[h,Array.mapM_eq_mapM_toList]
  simp only[Sem.run_bind,Sem.run_map]
  rw[vO (tmps:=a.tmps) (λt=>rfl) ts]
  rfl
 match ts,hm with
 |[],hm=>exact⟨_,hm,.tup (vs:=[]) rfl (by simp)⟩
 |[t],hm=>exact⟨_,hm,hr.env t⟩
 |t::u::ts,hm=>
  refine⟨_,hm,?_⟩
  rw[dif_neg (by simp)]
  refine .tup (by simp) (λi x v hx hv=>?_)
  simp only[List.getElem?_map,Option.map_eq_some_iff]at hx hv
  obtain⟨q,hq,rfl⟩:=hx
  obtain⟨q',hq',rfl⟩:=hv
  rw[hq]at hq'
  cases hq'
  exact hr.env q
def Oz (ts:List Nat)(Q:AV→ab→Prop)(σ:ab):Exit→aa→Prop
 | .normal,A| .ret,A=>∃ r' σ',cR (gZ A.env ts) r'∧(σ.length≤σ'.length∧σ'=A.st.take σ'.length)∧(∀id te xs,id<σ'.length→A.st[id]?=some (some (.cells te xs))→ ∀x∈xs,aU σ'.length x)∧aU σ'.length r'∧Q r' σ'
 |_,_=>False
theorem kl {args:List AV}{vs:List Value}{m:Nat}(hst:aB P W0 w C σ)(hl:args.length=vs.length)(hv: ∀(i:Nat)(a:AV)(v:Value),args[i]?=some a→vs[i]?=some v→aF P w C a v)(hargs:args.length≤m):
  bI P W0 m w C ⟨gY args,σ⟩ { tmps:=vs.toArray++Array.replicate (m-vs.toArray.size) undef,defers:=[] }:=by
 refine⟨λi=>?_,rfl,by simp;omega,hst⟩
 simp only[gY]
 by_cases hi:i<args.length
 ·have h1:=List.getElem?_eq_getElem hi
  have h2:=List.getElem?_eq_getElem (l:=vs) (show i<vs.length by omega)
  rw[h1,Option.getD_some]
  have h3:=hv i _ _ h1 h2
  have:(vs.toArray++Array.replicate (m-vs.toArray.size) undef).getD i undef=vs[i]:=by
   rw[Array.getD_eq_getD_getElem?,Array.getElem?_append_left (by simp;omega)]
   simp[h2]
  rw[this]
  exact h3
 ·rw[List.getElem?_eq_none (by omega),Option.getD_none]
  exact .undef _
theorem qP {f : FuncId} {fn : Func} {c : Code} {args : List AV} {Q : AV → ab → Prop} (hf : P.funcs[f]? = some fn) (hb : fn.body = some c) (hnm : (fn.name == "runtime.NumGoroutine") = false) (hargs : args.length ≤ fn.ntmps) {ts : List Nat} (hres : fn.results = (ts.map ResultVar.tmp).toArray)
  (h:VC P W0 fn.ntmps c (Oz ts Q σ) ⟨gY args,σ⟩):aY P W0 f args σ Q:=by
 refine λw C vs hst hl hv=>.inl ⟨⟨fn,hf,by simp[hb],hnm⟩,calls_of_wp hf hb ?_⟩
 have hr:bI P W0 fn.ntmps w C ⟨gY args,σ⟩ { tmps:=vs.toArray++Array.replicate (fn.ntmps-vs.toArray.size) undef,defers:=[] }:=by
  refine⟨λi=>?_,rfl,by simp;omega,hst⟩
  simp only[gY]
  by_cases hi:i<args.length
  ·have h1:=List.getElem?_eq_getElem hi
   have h2:=List.getElem?_eq_getElem (l:=vs) (show i<vs.length by omega)
   rw[h1,Option.getD_some]
   have h3:=hv i _ _ h1 h2
   have:(vs.toArray++Array.replicate (fn.ntmps-vs.toArray.size) undef).getD i undef=vs[i]:=by
    rw[Array.getD_eq_getD_getElem?,Array.getElem?_append_left (by simp;omega)]
    simp[h2]
   rw[this]
   exact h3
  ·rw[List.getElem?_eq_none (by omega),Option.getD_none]
   exact .undef _
 refine wp_mono (wu (h w C _ hr)) λe a' w' ⟨A',C',q,r,s⟩=>?_
 have fin:(∃r' σ',cR (gZ A'.env ts) r'∧(σ.length≤σ'.length∧σ'=A'.st.take σ'.length)∧(∀id te xs,id<σ'.length→A'.st[id]?=some (some (.cells te xs))→ ∀x∈xs,aU σ'.length x)∧aU σ'.length r'∧Q r' σ')→
   a'.defers=[]∧ ∃v,(results fn a'.tmps).run P w'= .ok v w'∧ ∃v₁ r σ' C',Ending.returned v= .returned v₁∧Q r σ'∧aB P W0 w' C' σ'∧aF P w' C' r v₁∧Step w C w' C':=by
  rintro⟨r1,σ',h2,⟨h3,h4⟩,h5,h6,h7⟩
  obtain⟨v,g1,g2⟩:=lG r hres
  have hle:σ'.length≤A'.st.length:=by have:=congrArg List.length h4;rw[List.length_take]at this;omega
  refine⟨r.defers,v,g1,v,r1,σ',C'.dB σ'.length,rfl,h7,?_,(g2.bZ h2).dB h6,s.dB (by rw[hst.nx];exact h3)⟩
  have:=r.st.dB hle h5
  rwa [←h4]at this
 cases e with
 |normal=>exact fin q
 |ret=>exact fin q
 |_=>exact q.elim
end
end Go.Av
end
section
namespace Go.Av
open Go
def isW :Op→Bool| .store _ _ _=>true|_=>false
def Ko (fz:List Nat):Option Nat→Bool|some d=>fz.contains (2000000+d)|none=>false
def rdM (fz:List Nat):Option Nat→Bool|some d=>fz.contains (3000000+d)|none=>false
def eM (fz:List Nat)(id:Nat)(o:Oper):Bool:=match o.dst with|some d=>fz.contains (2000000+d)|none=>fz.contains (4000000+id)
def isR (fz:List Nat)(dst:Option Nat):Op→Bool
 | .load _ (.tmp d)=>!(fz.contains d||fz.contains (6000000+d))
 | .load _ _=>true
 | .indexAddr _ _ _=>true
 | .lookup _ _ _ _=>true
 | .call _=>rdM fz dst
 |_=>false
def isZ :Op→Bool| .load _ (.tmp _)=>true|_=>false
def AX :Op→Bool| .alloc _=>true|_=>false
theorem ve {op:Op}(h:isW op=true):isZ op=false:=by cases op<;>first|rfl|(simp[isW]at h)
def iy (P:Program)(W0:World)(fz:List Nat)(o:Oper)(A:aa)(v:AV):Prop:=
 dd P W0 o A v∧(isR fz o.dst o.op=false→ ∀σ,dd P W0 o (A.an σ) v)∧(isZ o.op=true→ ∀τ,dd P W0 o (A.an (A.st++τ)) v)
def CP (P:Program)(W0:World)(o:Oper)(A:aa)(σ':ab):Prop:=
 ∀w C a,fJ P W0 o w C A a→ ∃w',(execOp a.eval o).run P w= .ok .skip w'∧Step w C w' C∧aB P W0 w' C σ'
def iu (P:Program)(W0:World)(n:Nat)(fz:List Nat)(ops:Array Oper)(o:Oper)(A:aa)(v:AV)(σ':ab):Prop:=
 iG n o.dst∧(match o.guard with
  |none=>(isW o.op=false∧σ'=A.st∧iy P W0 fz o A v)∨(isW o.op=true∧v= .undef∧CP P W0 o A σ')
  |some (j,want)=>isW o.op=false∧σ'=A.st∧ ∃G u,yG ops A j want=some G∧v= .maybe G u∧(G=true→iy P W0 fz o A u))
inductive Seq (P:Program)(W0:World)(n:Nat)(fz:List Nat)(E:Oper→Bool)(ops:Array Oper):List Oper→aa→List AV→List ab→aa→Prop
 |nil (A):Seq P W0 n fz E ops [] A [] [] A
 |cons {o r A v σ' vs ss B}:E o=false→iu P W0 n fz ops o A v σ'→Seq P W0 n fz E ops r ((A.put o.dst v).an σ') vs ss B→Seq P W0 n fz E ops (o::r) A (v::vs) (σ'::ss) B
 |skip {o r A vs ss B}:E o=true→Seq P W0 n fz E ops r A vs ss B→Seq P W0 n fz E ops (o::r) A (.undef::vs) (A.st::ss) B
def Cz :List (List Nat)→List Oper→List (List Nat)
 |acc,[]=>acc
 |acc,o::r=>Cz (acc++[((o.after.toList.filter (Region.binds .any)).flatMap λe=>e.on::(acc[e.on]?).getD []).eraseDups]) r
def Ts (ops:Array Oper)(ac:List (List Nat)):Bool:=
 (List.range ops.size).all λi=>match ops[i]? with
  |none=>true
  |some o=>((ac[i]?).getD []).all λj=>o.after.any λe=>Region.binds .any e&&(e.on==j||((ac[e.on]?).getD []).contains j)
def eP (o:Oper)(j:Nat):Bool:=o.after.any λe=>e.on==j&&Region.binds .any e
def AU (fz:List Nat)(E:Oper→Bool)(ops:Array Oper)(ac:List (List Nat))(i j:Nat)(oi oj:Oper):Bool:=
 ((match oj.dst with
  |none=>true
  |some d=>oi.dst !=some d&&(!(oi.looksAt ops).contains d||((if j<i then eP oi j else eP oj i)&&(!E oj||E oi||decide (i<j))&&(!(E oi&& !E oj)||decide (j<i)))))&&
 (!(!E oj&& !E oi&&isW oj.op&&(isW oi.op||isR fz oi.dst oi.op))||(if j<i then((ac[i]?).getD []).contains j else((ac[j]?).getD []).contains i)))&&
 ((!(E oi&&E oj&&decide (j<i))||((ac[i]?).getD []).contains j)&&
 (!(E oi&& !E oj&&(isW oj.op||isR fz oj.dst oj.op))||((AX oi.op&&isZ oj.op)||((ac[i]?).getD []).contains j)))
def zZ (fz:List Nat)(E:Oper→Bool)(ops:Array Oper)(ac:List (List Nat)):Bool:=
 Ts ops ac&&(List.range ops.size).all λi=>match ops[i]? with
  |none=>true
  |some oi=>oi.after.all (λe=>!Region.binds .any e||decide (e.on<i))&&(!E oi||oi.guard.isNone)&&(List.range ops.size).all λj=>match ops[j]? with
   |none=>true
   |some oj=>i==j||AU fz E ops ac i j oi oj
structure jD (E:Oper→Bool)(ops:Array Oper)(vs:List AV)(A:aa)(S:Nat→Prop)(B:aa):Prop where
 set: ∀i o d v,S i→ops[i]?=some o→E o=false→o.dst=some d→vs[i]?=some v→B.env d=v
 old: ∀d,(∀i o,S i→ops[i]?=some o→E o=false→o.dst≠some d)→B.env d=A.env d
section
variable {P :Program}{W0 w w':World}{C C':Ctx}{n:Nat}{A:aa}{a:Act}{o:Oper}{ops:Array Oper}{K:aa→Prop}{fz:List Nat}{E:Oper→Bool}{ac:List (List Nat)}
theorem aa.Hb (A:aa)(d:Option Nat)(v:AV):(A.put d v).st=A.st:=by cases d<;>rfl
theorem fY {d:Nat}(h:o.dst=some d)(v:AV):(A.put o.dst v).env d=v:=by rw[h];exact A.xU d v
theorem ef {d:Nat}(h:o.dst≠some d)(v:AV):(A.put o.dst v).env d=A.env d:=by
 cases ho:o.dst with
 |none=>rfl
 |some d'=>exact A.tP v (λe=>h (by rw[ho,e]))
def sE (ops:Array Oper):Prop:=∀ (i j:Nat) (oi oj:Oper) (d:Nat),ops[i]?=some oi→ops[j]?=some oj→oi.dst=some d→oj.dst=some d→i=j
theorem jD.put {vs:List AV}{S:Nat→Prop}{B:aa}{i:Nat}{v:AV}(hD:sE ops)(h:jD E ops vs A S B)(hi:ops[i]?=some o)(hE:E o=false)(hv:vs[i]?=some v):jD E ops vs A (λj=>S j∨j=i) (B.put o.dst v):=by
 refine⟨λj oj d u hj hoj hej hd hu=>?_,λd hd=>?_⟩
 ·rcases hj with hj|rfl
  ·by_cases hod:o.dst=some d
   ·have:=hD i j o oj d hi hoj hod hd
    subst this
    rw[hv]at hu
    cases hu
    exact fY hod v
   ·rw[ef hod];exact h.set j oj d u hj hoj hej hd hu
  ·rw[hi]at hoj
   cases hoj
   rw[hv]at hu
   cases hu
   exact fY hd v
 ·rw[ef (hd i o (.inr rfl) hi hE)]
  exact h.old d (λj oj hj=>hd j oj (.inl hj))
theorem ik (A:aa)(σ:ab):(A.an σ).env=A.env:=rfl
theorem BL {vs:List AV}{ss:List ab}: ∀(l:List Oper) (us:List AV) (ts:List ab) (k:Nat) (T B:aa),sE ops→(∀j,l[j]?=ops[k+j]?)→(∀j,us[j]?=vs[k+j]?)→(∀j,ts[j]?=ss[k+1+j]?)→ss[k]?=some T.st→Seq P W0 n fz E ops l T us ts B→jD E ops vs A (· <k) T→
  (∀j o v,l[j]?=some o→us[j]?=some v→ ∃Tj σ',jD E ops vs A (· <k+j) Tj∧ss[k+j]?=some Tj.st∧ss[k+j+1]?=some σ'∧(E o=true→σ'=Tj.st)∧(E o=false→iu P W0 n fz ops o Tj v σ'))∧jD E ops vs A (· <k+l.length) B∧us.length=l.length∧ss[k+l.length]?=some B.st
 |[],us,ts,k,T,B,_,_,_,_,h0,hs,he=>by
  cases hs
  exact⟨by simp,by simpa using he,rfl,h0⟩
 |o::r,us,ts,k,T,B,hD,hl,hu,ht,h0,hs,he=>by
  have hok:ops[k]?=some o:=by have:=hl 0;simpa using this.symm
  have hl': ∀j,r[j]?=ops[k+1+j]?:=λj=>by have:=hl (j+1);rw[show k+(j+1)=k+1+j by omega]at this;simpa using this
  cases hs with
  |cons hE h1 h2=>
   rename_i v σ' vs' ss'
   have hvk:vs[k]?=some v:=by have:=hu 0;simpa using this.symm
   have hsk:ss[k+1]?=some σ':=by have:=ht 0;simpa using this.symm
   have he':jD E ops vs A (· <k+1) ((T.put o.dst v).an σ'):=by
    have:=he.put hD hok hE hvk
    exact⟨λi oi d u hi=>this.set i oi d u (by omega),λd hd=>this.old d (λi oi hi=>hd i oi (by omega))⟩
   obtain⟨g1,g2,g3,g4⟩:=BL r vs' ss' (k+1) _ B hD hl' (λj=>by have:=hu (j+1);rw[show k+(j+1)=k+1+j by omega]at this;simpa using this)
    (λj=>by have:=ht (j+1);rw[show k+1+(j+1)=k+1+1+j by omega]at this;simpa using this) hsk h2 he'
   refine⟨λj oj u hj huj=>?_,?_,by simp[g3],?_⟩
   ·cases j with
    |zero=>simp at hj huj;subst hj huj;exact⟨T,σ',by simpa using he,h0,hsk,λe=>by (rw[hE]at e;cases e),λ_=>h1⟩
    |succ j=>
     simp at hj huj
     obtain⟨Tj,σj,e1,e2,e3,e4⟩:=g1 j oj u hj huj
     rw[show k+1+j=k+(j+1) by omega]at e1 e2 e3
     exact⟨Tj,σj,e1,e2,e3,e4⟩
   ·rw[List.length_cons,show k+(r.length+1)=k+1+r.length by omega];exact g2
   ·rw[List.length_cons,show k+(r.length+1)=k+1+r.length by omega];exact g4
  |skip hE h2=>
   rename_i vs' ss'
   have hsk:ss[k+1]?=some T.st:=by have:=ht 0;simpa using this.symm
   have he':jD E ops vs A (· <k+1) T:=by
    refine⟨λi oi d u hi hoi hei=>?_,λd hd=>he.old d (λi oi hi=>hd i oi (by omega))⟩
    rcases Nat.lt_succ_iff_lt_or_eq.1 hi with hi'|hi'
    ·exact he.set i oi d u hi' hoi hei
    ·subst hi';rw[hok]at hoi;cases hoi;rw[hE]at hei;cases hei
   obtain⟨g1,g2,g3,g4⟩:=BL r vs' ss' (k+1) _ B hD hl' (λj=>by have:=hu (j+1);rw[show k+(j+1)=k+1+j by omega]at this;simpa using this)
    (λj=>by have:=ht (j+1);rw[show k+1+(j+1)=k+1+1+j by omega]at this;simpa using this) hsk h2 he'
   refine⟨λj oj u hj huj=>?_,?_,by simp[g3],?_⟩
   ·cases j with
    |zero=>simp at hj huj;subst hj huj;exact⟨T,T.st,by simpa using he,h0,hsk,λ_=>rfl,λe=>by (rw[hE]at e;cases e)⟩
    |succ j=>
     simp at hj huj
     obtain⟨Tj,σj,e1,e2,e3,e4⟩:=g1 j oj u hj huj
     rw[show k+1+j=k+(j+1) by omega]at e1 e2 e3
     exact⟨Tj,σj,e1,e2,e3,e4⟩
   ·rw[List.length_cons,show k+(r.length+1)=k+1+r.length by omega];exact g2
   ·rw[List.length_cons,show k+(r.length+1)=k+1+r.length by omega];exact g4
theorem nJ {T B:aa}(hst:B.st=T.st)(he: ∀d∈o.looksAt ops,B.env d=T.env d){w:World}{C:Ctx}{a:Act}(hr:fJ P W0 o w C B a):fJ P W0 o w C T a:=by
 have hval: ∀x∈o.op.operands,T.val x=B.val x:=λx hx=>by
  cases x with
  |tmp t=>
   refine(he t ?_).symm
   simp only[Oper.looksAt,List.mem_append,List.mem_filterMap]
   exact .inl ⟨.tmp t,Array.mem_toList_iff.2 hx,rfl⟩
  |_=>rfl
 exact⟨λx hx=>by rw[hval x hx];exact hr.ops x hx,by rw[←hst];exact hr.st⟩
theorem dx {T B:aa}(hst:B.st=T.st)(he: ∀d∈o.looksAt ops,B.env d=T.env d){u:AV}(hp:dd P W0 o T u):dd P W0 o B u:=λw C a hr next Q hn=>by
 have:=hp w C a (nJ hst he hr) next Q
 rw[hst]at hn
 exact this hn
theorem iu.congr {T B:aa}{v:AV}{σ':ab}(h:iu P W0 n fz ops o T v σ')(hst:(isW o.op||isR fz o.dst o.op)=true→B.st=T.st)(he: ∀d∈o.looksAt ops,B.env d=T.env d):
  iu P W0 n fz ops o B v (if isW o.op then σ' else B.st):=by
 obtain⟨hd,h⟩:=h
 have hp: ∀u,iy P W0 fz o T u→isW o.op=false→dd P W0 o B u:=λu hp hw=>by
  cases hR:isR fz o.dst o.op with
  |true=>exact dx (ops:=ops) (hst (by simp[hR])) he hp.1
  |false=>exact dx (ops:=ops) (T:=T.an B.st) (B:=B) rfl he (hp.2.1 hR B.st)
 have hp2: ∀u,iy P W0 fz o T u→isW o.op=false→iy P W0 fz o B u:=λu hu hw=>⟨hp u hu hw,λhR σ=>dx (ops:=ops) (T:=T.an σ) (B:=B.an σ) rfl he (hu.2.1 hR σ),λhz τ=>by
  cases hR:isR fz o.dst o.op with
  |true=>
   have e:=hst (by simp[hR])
   exact dx (ops:=ops) (T:=T.an (T.st++τ)) (B:=B.an (B.st++τ)) (by rw[e];rfl) he (hu.2.2 hz τ)
  |false=>exact dx (ops:=ops) (T:=T.an (B.st++τ)) (B:=B.an (B.st++τ)) rfl he (hu.2.1 hR _)⟩
 refine⟨hd,?_⟩
 split at h
 ·rcases h with⟨h1,h2,h3⟩|⟨h1,h2,h3⟩
  ·exact .inl ⟨h1,by simp[h1],hp2 v h3 h1⟩
  ·refine .inr ⟨h1,h2,?_⟩
   rw[if_pos h1]
   exact λw C a hr=>h3 w C a (nJ (ops:=ops) (hst (by simp[h1])) he hr)
 ·rename_i j want hg
  obtain⟨h0,h0',G,u,h1,h2,h3⟩:=h
  refine⟨h0,by simp[h0],G,u,?_,h2,λhG=>hp2 u (h3 hG) h0⟩
  rw[←h1]
  unfold yG
  cases hj:(ops[j]?).bind (·.dst)with
  |none=>rfl
  |some d=>
   have hd:B.env d=T.env d:=he d (by
    simp only[Oper.looksAt,List.mem_append,hg,hj]
    exact .inr (by simp))
   simp only[hd]
theorem iu.Nu {T B:aa}{v:AV}{σ':ab}(h:iu P W0 n fz ops o T v σ')(hz:isZ o.op=true)(τ:ab)(hst:B.st=T.st++τ)(he: ∀d∈o.looksAt ops,B.env d=T.env d):iu P W0 n fz ops o B v B.st:=by
 obtain⟨hd,h⟩:=h
 have hW:isW o.op=false:=by cases hw:isW o.op with|false=>rfl|true=>rw[ve hw]at hz;cases hz
 have hp2: ∀u,iy P W0 fz o T u→iy P W0 fz o B u:=λu hu=>⟨dx (ops:=ops) (T:=T.an (T.st++τ)) (B:=B) hst he (hu.2.2 hz τ),λhR σ=>dx (ops:=ops) (T:=T.an σ) (B:=B.an σ) rfl he (hu.2.1 hR σ),
  λ_ τ'=>dx (ops:=ops) (T:=T.an (T.st++(τ++τ'))) (B:=B.an (B.st++τ')) (by rw[hst,List.append_assoc];rfl) he (hu.2.2 hz _)⟩
 refine⟨hd,?_⟩
 split at h
 ·rcases h with⟨h1,h2,h3⟩|⟨h1,h2,h3⟩
  ·exact .inl ⟨h1,rfl,hp2 v h3⟩
  ·rw[hW]at h1;cases h1
 ·rename_i j want hg
  obtain⟨h0,h0',G,u,h1,h2,h3⟩:=h
  refine⟨h0,rfl,G,u,?_,h2,λhG=>hp2 u (h3 hG)⟩
  rw[←h1]
  unfold yG
  cases hj:(ops[j]?).bind (·.dst)with
  |none=>rfl
  |some d=>
   have hd:B.env d=T.env d:=he d (by
    simp only[Oper.looksAt,List.mem_append,hg,hj]
    exact .inr (by simp))
   simp only[hd]
structure mr (fz:List Nat)(E:Oper→Bool)(ops:Array Oper)(ac:List (List Nat)):Prop where
 anc: ∀(i:Nat) (oi:Oper) (j:Nat),ops[i]?=some oi→j∈(ac[i]?).getD []→ ∃e∈oi.after,Region.binds .any e=true∧(e.on=j∨j∈(ac[e.on]?).getD [])
 HK:sE ops
 uE: ∀(i:Nat) (oi:Oper),ops[i]?=some oi→ ∀e∈oi.after,Region.binds .any e=true→e.on<i
 gd: ∀(i:Nat) (oi:Oper),ops[i]?=some oi→E oi=true→oi.guard=none
 look: ∀(i j:Nat) (oi oj:Oper) (d:Nat),ops[i]?=some oi→ops[j]?=some oj→i≠j→oj.dst=some d→d∈oi.looksAt ops→(j<i→eP oi j=true)∧(i<j→eP oj i=true)∧(E oj=true→E oi=false→i<j)∧(E oi=true→E oj=false→j<i)
 wr: ∀(i j:Nat) (oi oj:Oper),ops[i]?=some oi→ops[j]?=some oj→i≠j→E oi=false→E oj=false→isW oj.op=true→(isW oi.op||isR fz oi.dst oi.op)=true→(j<i→j∈(ac[i]?).getD [])∧(i<j→i∈(ac[j]?).getD [])
 chain: ∀(i j:Nat) (oi oj:Oper),ops[i]?=some oi→ops[j]?=some oj→E oi=true→E oj=true→j<i→j∈(ac[i]?).getD []
 last: ∀(i j:Nat) (oi oj:Oper),ops[i]?=some oi→ops[j]?=some oj→E oi=true→E oj=false→(isW oj.op||isR fz oj.dst oj.op)=true→(AX oi.op&&isZ oj.op)=false→j∈(ac[i]?).getD []
theorem DV (h:zZ fz E ops ac=true):mr fz E ops ac:=by
 unfold zZ at h
 rw[Bool.and_eq_true]at h
 obtain⟨hanc,h⟩:=h
 have hall: ∀(i:Nat) (oi:Oper),ops[i]?=some oi→oi.after.all (λe=>!Region.binds .any e||decide (e.on<i))=true∧(!E oi||oi.guard.isNone)=true∧ ∀(j:Nat) (oj:Oper),ops[j]?=some oj→(i==j||AU fz E ops ac i j oi oj)=true:=λi oi hi=>by
  have h1:=List.all_eq_true.1 h i (List.mem_range.2 (Array.getElem?_eq_some_iff.1 hi).1)
  rw[hi]at h1
  simp only[Bool.and_eq_true]at h1
  refine⟨h1.1.1,h1.1.2,λj oj hj=>?_⟩
  have h2:=List.all_eq_true.1 h1.2 j (List.mem_range.2 (Array.getElem?_eq_some_iff.1 hj).1)
  rw[hj]at h2
  exact h2
 have pair: ∀(i j:Nat) (oi oj:Oper),ops[i]?=some oi→ops[j]?=some oj→i≠j→(((match oj.dst with
  |none=>true
  |some d=>oi.dst !=some d&&(!(oi.looksAt ops).contains d||((if j<i then eP oi j else eP oj i)&&(!E oj||E oi||decide (i<j))&&(!(E oi&& !E oj)||decide (j<i)))))=true∧
  (!(!E oj&& !E oi&&isW oj.op&&(isW oi.op||isR fz oi.dst oi.op))||(if j<i then((ac[i]?).getD []).contains j else((ac[j]?).getD []).contains i))=true)∧
  (!(E oi&&E oj&&decide (j<i))||((ac[i]?).getD []).contains j)=true∧(!(E oi&& !E oj&&(isW oj.op||isR fz oj.dst oj.op))||((AX oi.op&&isZ oj.op)||((ac[i]?).getD []).contains j))=true):=λi j oi oj hi hj hne=>by
  have:=(hall i oi hi).2.2 j oj hj
  rw[Bool.or_eq_true]at this
  rcases this with h|h
  ·exact absurd (by simpa using h) hne
  ·unfold AU at h
   rw[Bool.and_eq_true,Bool.and_eq_true,Bool.and_eq_true]at h
   exact h
 refine⟨λi oi j hi hj=>?_,λi j oi oj d hi hj hdi hdj=>?_,λi oi hi e he hb=>?_,λi oi hi hE=>?_,λi j oi oj d hi hj hne hd hm=>?_,λi j oi oj hi hj hne h1 h2 hw hr=>?_,λi j oi oj hi hj h1 h2 hlt=>?_,λi j oi oj hi hj h1 h2 hr haz=>?_⟩
 ·have h1:=List.all_eq_true.1 hanc i (List.mem_range.2 (Array.getElem?_eq_some_iff.1 hi).1)
  rw[hi]at h1
  have h2:=List.all_eq_true.1 h1 j hj
  obtain⟨e,he,h3⟩:=Array.any_eq_true'.1 h2
  simp only[Bool.and_eq_true,Bool.or_eq_true,beq_iff_eq,List.contains_iff_mem]at h3
  exact⟨e,he,h3.1,h3.2⟩
 ·by_cases hij:i=j
  ·exact hij
  ·have:=(pair i j oi oj hi hj hij).1.1
   rw[hdj]at this
   simp only[Bool.and_eq_true,bne_iff_ne,ne_eq]at this
   exact absurd hdi this.1
 ·have:=Array.all_eq_true_iff_forall_mem.1 (hall i oi hi).1 e he
  simpa[hb]using this
 ·have:=(hall i oi hi).2.1
  simpa[hE]using this
 ·have:=(pair i j oi oj hi hj hne).1.1
  rw[hd]at this
  simp only[Bool.and_eq_true,bne_iff_ne,ne_eq,Bool.or_eq_true,Bool.not_eq_true',List.contains_eq_mem,decide_eq_false_iff_not]at this
  rcases this.2 with h|⟨⟨h,h3⟩,h4⟩
  ·exact absurd hm h
  ·refine⟨λhlt=>by rwa [if_pos hlt]at h,λhgt=>by rwa [if_neg (by omega)]at h,λhE hE'=>?_,λhE hE'=>?_⟩
   ·rcases h3 with(h3|h3)|h3
    ·rw[hE]at h3;cases h3
    ·rw[hE']at h3;cases h3
    ·simpa using h3
   ·rcases h4 with h4|h4
    ·simp[hE,hE']at h4
    ·simpa using h4
 ·have:=(pair i j oi oj hi hj hne).1.2
  simp only[h1,h2,hw,hr,Bool.not_false,Bool.and_self,Bool.not_true,Bool.false_or]at this
  refine⟨λhlt=>by rw[if_pos hlt]at this;simpa using this,λhgt=>by rw[if_neg (by omega)]at this;simpa using this⟩
 ·have:=(pair i j oi oj hi hj (by omega)).2.1
  simpa[h1,h2,hlt]using this
 ·have:=(pair i j oi oj hi hj (λe=>by subst e;rw[hi]at hj;cases hj;rw[h1]at h2;cases h2)).2.2
  simp only[h1,h2,hr,haz,Bool.not_false,Bool.and_self,Bool.not_true,Bool.false_or]at this
  simpa using this
theorem oV (hf:mr fz E ops ac){S:Nat→Prop}(hcl: ∀(i:Nat)(oi:Oper),ops[i]?=some oi→S i→ ∀e∈oi.after,Region.binds .any e=true→S e.on):
  ∀(i:Nat) (oi:Oper),ops[i]?=some oi→(∀e∈oi.after,Region.binds .any e=true→S e.on)→ ∀j∈(ac[i]?).getD [],S j:=λi=>by
 induction i using Nat.strongRecOn with
 |_ i ih=>
  intro oi hi hs j hj
  obtain⟨e,he,hb,hj'⟩:=hf.anc i oi j hi hj
  have hlt:=hf.uE i oi hi e he hb
  rcases hj' with rfl|hj'
  ·exact hs e he hb
  ·have hk: ∃ok,ops[e.on]?=some ok:=⟨_,Array.getElem?_eq_getElem (Nat.lt_trans hlt (Array.getElem?_eq_some_iff.1 hi).1)⟩
   obtain⟨ok,hk⟩:=hk
   exact ih e.on hlt ok hk (hcl e.on ok hk (hs e he hb)) j hj'
theorem fT {j:Nat}(h:eP o j=true): ∃e∈o.after,e.on=j∧Region.binds .any e=true:=by
 unfold eP at h
 obtain⟨e,he,h⟩:=Array.any_eq_true'.1 h
 simp only[Bool.and_eq_true,beq_iff_eq]at h
 exact⟨e,he,h.1,h.2⟩
theorem pU {α:Type}{p q:α→Bool}: ∀{l:List α} {x:α},(∀y∈l,q y=true→p y=true)→x∈l→p x=true→q x=false→l.countP q<l.countP p
 |y::l,x,hpq,hx,hp,hq=>by
  have hle:l.countP q≤l.countP p:=List.countP_mono_left (λz hz=>hpq z (by simp[hz]))
  rcases List.mem_cons.1 hx with rfl|hx
  ·rw[List.countP_cons_of_pos hp,List.countP_cons_of_neg (by simp[hq])]
   omega
  ·have ih:=pU (l:=l) (λz hz=>hpq z (by simp[hz])) hx hp hq
   by_cases hqy:q y=true
   ·rw[List.countP_cons_of_pos hqy,List.countP_cons_of_pos (hpq y (by simp) hqy)];omega
   ·rw[List.countP_cons_of_neg hqy]
    by_cases hpy:p y=true
    ·rw[List.countP_cons_of_pos hpy];omega
    ·rw[List.countP_cons_of_neg hpy];exact ih
def Jq (E:Oper→Bool)(ops:Array Oper)(ss:List ab)(listed:Array Bool)(st:ab):Prop:=
 ∃m,m≤ops.size∧ss[m]?=some st∧ ∀(j:Nat) (oj:Oper),ops[j]?=some oj→E oj=false→isW oj.op=true→(listed.getD j false=true↔j<m)
def eVC (P:Program)(W0:World)(n:Nat)(fz:List Nat):List Oper→(aa→Prop)→aa→Prop
 |[],K,B=>K B
 |o::r,K,B=>EA fz o.op∧uB P W0 n fz o B λB'=>eVC P W0 n fz r K B'
theorem gz {listed:Array Bool}{i:Nat}(hi:i<listed.size)(j:Nat):(listed.setIfInBounds i true).getD j false=true↔(listed.getD j false=true∨j=i):=by
 by_cases hj:j=i
 ·subst hj
  simp[Array.getD,hi]
 ·rw[getD_set_ne false (Ne.symm hj)];simp[hj]
theorem ct {listed:Array Bool}{i:Nat}(hi:i<listed.size)(j:Nat):(listed.setIfInBounds i true).getD j false=false↔(listed.getD j false=false∧j≠i):=by
 have:=gz hi j
 cases h1:(listed.setIfInBounds i true).getD j false<;>cases h2:listed.getD j false<;>simp_all
theorem kW (hf:mr fz E ops ac){listed:Array Bool}(hsz:listed.size=ops.size)(hnil:Region.ready .any ops listed=[]): ∀i,i<ops.size→listed.getD i false=true:=λi=>by
 induction i using Nat.strongRecOn with
 |_ i ih=>
  intro hi
  cases hl:listed.getD i false with
  |true=>rfl
  |false=>
   exfalso
   have:i∈Region.ready .any ops listed:=mem_ready.2 ⟨by
    have h1:i<listed.size:=by omega
    simp[Array.getD,h1]at hl ⊢
    exact hl,ops[i],Array.getElem?_eq_getElem hi,λe he hb=>ih e.on (hf.uE i _ (Array.getElem?_eq_getElem hi) e he hb) (by have:=hf.uE i _ (Array.getElem?_eq_getElem hi) e he hb;omega)⟩
   rw[hnil]at this
   cases this
theorem vV {listed:Array Bool}(hfuel:(List.range ops.size).countP (λi=>!listed.getD i true)≤0):Region.ready .any ops listed=[]:=by
 cases hrd:Region.ready .any ops listed with
 |nil=>rfl
 |cons i r=>
  exfalso
  have hi:i∈Region.ready .any ops listed:=by rw[hrd];simp
  obtain⟨h1,o,ho,_⟩:=mem_ready.1 hi
  have:=List.countP_pos_iff (p:=λi=>!listed.getD i true) (l:=List.range ops.size) |>.2 ⟨i,List.mem_range.2 (Array.getElem?_eq_some_iff.1 ho).1,by simp only[h1];rfl⟩
  omega
theorem D3 {listed:Array Bool}{i fuel:Nat}(hsz:listed.size=ops.size)(hilt:i<ops.size)(h1:listed.getD i true=false)(hfuel:(List.range ops.size).countP (λi=>!listed.getD i true)≤fuel+1):
  (List.range ops.size).countP (λj=>!(listed.setIfInBounds i true).getD j true)≤fuel:=by
 have:=pU (l:=List.range ops.size) (p:=λj=>!listed.getD j true) (q:=λj=>!(listed.setIfInBounds i true).getD j true) (x:=i) (λj _ hj=>by
  by_cases hji:j=i
  ·subst hji;simpa using h1
  ·rw[getD_set_ne true (Ne.symm hji)]at hj;exact hj) (List.mem_range.2 hilt) (by rw[h1];rfl) (by
   have h3:i<listed.size:=by omega
   simp[Array.getD,h3])
 omega
def sX (ops:Array Oper)(listed:Array Bool):Prop:=∀ (i:Nat) (oi:Oper),ops[i]?=some oi→listed.getD i true=true→ ∀e∈oi.after,Region.binds .any e=true→listed.getD e.on false=true
theorem sX.next {listed:Array Bool}{i:Nat}(hcl:sX ops listed)(ho:ops[i]?=some o)(h2: ∀e∈o.after,Region.binds .any e=true→listed.getD e.on false=true):sX ops (listed.setIfInBounds i true):=λj oj hj hlj e he hb=>by
 by_cases hji:j=i
 ·subst hji
  rw[ho]at hj
  cases hj
  exact getD_set_true (h2 e he hb)
 ·rw[getD_set_ne true (Ne.symm hji)]at hlj
  exact getD_set_true (hcl j oj hj hlj e he hb)
structure Mid (fz:List Nat)(E:Oper→Bool)(ops:Array Oper)(vs:List AV)(ss:List ab)(A:aa)(listed:Array Bool)(rem:List (Oper×Nat))(D B:aa):Prop where
 a: ∀(i:Nat) (o:Oper) (d:Nat),ops[i]?=some o→E o=false→o.dst=some d→listed.getD i false=false→D.env d=A.env d
 b: ∀d,(∀(i:Nat) (o:Oper),ops[i]?=some o→E o=false→o.dst=some d→listed.getD i false=true)→D.env d=B.env d
 st:D.st=B.st
 v: ∀(i:Nat) (o:Oper) (d:Nat) (v:AV),ops[i]?=some o→E o=false→o.dst=some d→vs[i]?=some v→B.env d=v
 o: ∀d,(∀(i:Nat) (o:Oper),ops[i]?=some o→o.dst=some d→E o=true∧listed.getD i false=false)→B.env d=A.env d
 rw: ∀(i:Nat) (o:Oper),ops[i]?=some o→E o=false→(isW o.op||isR fz o.dst o.op)=true→isZ o.op=false→listed.getD i false=true
 z: ∀(i:Nat) (o:Oper) (σi:ab),ops[i]?=some o→E o=false→isR fz o.dst o.op=true→isZ o.op=true→listed.getD i false=false→ss[i]?=some σi→ ∃τ,D.st=σi++τ
 r1: ∀p∈rem,ops[p.2]?=some p.1∧E p.1=true∧listed.getD p.2 false=false
 r2: ∀(i:Nat) (o:Oper),ops[i]?=some o→E o=true→listed.getD i false=false→(o,i)∈rem
 r3:rem.Pairwise λp q=>p.2<q.2
theorem Af {vs:List AV}{ss:List ab}{Qx:Exit→Act→World→Prop}(hf:mr fz E ops ac)(hlen:vs.length=ops.size)
  (hat: ∀j o v,ops[j]?=some o→vs[j]?=some v→ ∃Tj σ',jD E ops vs A (· <j) Tj∧ss[j]?=some Tj.st∧ss[j+1]?=some σ'∧(E o=true→σ'=Tj.st)∧(E o=false→iu P W0 n fz ops o Tj v σ')):
  ∀(fuel:Nat) (listed:Array Bool) (D B:aa) (rem:List (Oper×Nat)) (w:World) (C:Ctx) (a:Act),listed.size=ops.size→(List.range ops.size).countP (λi=>!listed.getD i true)≤fuel→sX ops listed→
   Mid fz E ops vs ss A listed rem D B→bI P W0 n w C D a→eVC P W0 n fz (rem.map (·.1)) K B→(∀B' C' a' w',K B'→bI P W0 n w' C' B' a'→Step w C w' C'→Qx .normal a' w')→j0 P .any ops Qx fuel listed a w:=by
 have hend: ∀(listed:Array Bool) (D B:aa) (rem:List (Oper×Nat)),(∀i,i<ops.size→listed.getD i false=true)→Mid fz E ops vs ss A listed rem D B→eVC P W0 n fz (rem.map (·.1)) K B→D=B∧K B:=λlisted D B rem hall hm hK=>by
  have hrem:rem=[]:=by
   cases rem with
   |nil=>rfl
   |cons p r=>
    obtain⟨h1,_,h3⟩:=hm.r1 p (by simp)
    rw[hall p.2 (Array.getElem?_eq_some_iff.1 h1).1]at h3
    cases h3
  subst hrem
  refine⟨?_,hK⟩
  have h1:=hm.st
  have h2:D.env=B.env:=funext λd=>hm.b d λi o hi _ _=>hall i (Array.getElem?_eq_some_iff.1 hi).1
  cases D;cases B;simp only at h1 h2;subst h1 h2;rfl
 intro fuel
 induction fuel with
 |zero=>
  intro listed D B rem w C a hsz hfuel hclosed hm hr hK hq
  have hnil:=vV hfuel
  obtain⟨rfl,hKB⟩:=hend listed D B rem (kW hf hsz hnil) hm hK
  exact⟨hnil,hq _ C a w hKB hr (.refl _ _)⟩
 |succ fuel ih=>
  intro listed D B rem w C a hsz hfuel hclosed hm hr hK hq
  refine⟨λhnil=>?_,λi hi=>?_⟩
  ·obtain⟨rfl,hKB⟩:=hend listed D B rem (kW hf hsz hnil) hm hK
   exact hq _ C a w hKB hr (.refl _ _)
  ·obtain⟨h1,o,ho,h2⟩:=mem_ready.1 hi
   have hilt:=(Array.getElem?_eq_some_iff.1 ho).1
   have hil:i<listed.size:=by omega
   have hif:listed.getD i false=false:=by
    simp[Array.getD,hil]at h1 ⊢
    exact h1
   have hcl: ∀(j:Nat) (oj:Oper),ops[j]?=some oj→listed.getD j false=true→eP oj i=true→False:=λj oj hj hlj hwt=>by
    have hjlt:=(Array.getElem?_eq_some_iff.1 hj).1
    obtain⟨e,he,e1,e2⟩:=fT hwt
    have:=hclosed j oj hj (by
     have h3:j<listed.size:=by omega
     simp[Array.getD,h3]at hlj ⊢
     exact hlj) e he e2
    rw[e1,hif]at this
    cases this
   have hwt: ∀(j:Nat),eP o j=true→listed.getD j false=true:=λj hw=>by
    obtain⟨e,he,e1,e2⟩:=fT hw
    rw[←e1];exact h2 e he e2
   have hdone: ∀j∈(ac[i]?).getD [],listed.getD j false=true:=oV hf (S:=λj=>listed.getD j false=true) (λj oj hj hlj=>hclosed j oj hj (by
    have h3:j<listed.size:=by have:=(Array.getElem?_eq_some_iff.1 hj).1;omega
    simp[Array.getD,h3]at hlj ⊢
    exact hlj)) i o ho h2
   have hsz':(listed.setIfInBounds i true).size=ops.size:=by simpa using hsz
   have hfuel':=D3 hsz hilt h1 hfuel
   have hclosed':=hclosed.next ho h2
   unfold B0
   rw[ho]
   simp only
   cases hEo:E o with
   |false=>
    obtain⟨vi,hv⟩: ∃v,vs[i]?=some v:=⟨_,List.getElem?_eq_getElem (l:=vs) (show i<vs.length by omega)⟩
    obtain⟨T,σ',hT,hTs,_,_,hstep⟩:=hat i o vi ho hv
    have hnrw:(isW o.op||isR fz o.dst o.op)=false∨(isR fz o.dst o.op=true∧isZ o.op=true):=by
     cases hx:(isW o.op||isR fz o.dst o.op)with
     |false=>exact .inl rfl
     |true=>
      cases hz:isZ o.op with
      |false=>have:=hm.rw i o ho hEo hx hz;rw[hif]at this;cases this
      |true=>
       have hw:isW o.op=false:=by cases hw:isW o.op with|false=>rfl|true=>rw[ve hw]at hz;cases hz
       rw[hw,Bool.false_or]at hx
       exact .inr ⟨hx,rfl⟩
    have hW:isW o.op=false:=by
     rcases hnrw with h|⟨_,h⟩
     ·simp only[Bool.or_eq_false_iff]at h;exact h.1
     ·cases hw:isW o.op with|false=>rfl|true=>rw[ve hw]at h;cases h
    have hlook: ∀d∈o.looksAt ops,D.env d=T.env d:=(λd hd=>by
     by_cases hex: ∃(j:Nat) (oj:Oper),ops[j]?=some oj∧oj.dst=some d
     ·obtain⟨j,oj,hj,hdj⟩:=hex
      have honly: ∀k ok,ops[k]?=some ok→ok.dst=some d→k=j:=λk ok hk hdk=>hf.HK k j ok oj d hk hj hdk hdj
      by_cases hEj:E oj=true
      ·have hji:j≠i:=λe=>by subst e;rw[ho]at hj;cases hj;rw[hEo]at hEj;cases hEj
       have hl:=hf.look i j o oj d ho hj (Ne.symm hji) hdj hd
       have hgt:=hl.2.2.1 hEj hEo
       have hnl:listed.getD j false=false:=by
        cases hlj:listed.getD j false with
        |false=>rfl
        |true=>exact(hcl j oj hj hlj (hl.2.1 hgt)).elim
       rw[hm.b d (λk ok hk hok hdk=>by have:=honly k ok hk hdk;subst this;rw[hj]at hk;cases hk;rw[hEj]at hok;cases hok),hm.o d (λk ok hk hdk=>by have:=honly k ok hk hdk;subst this;rw[hj]at hk;cases hk;exact⟨hEj,hnl⟩),hT.old d (λk ok _ hk hok hdk=>by have:=honly k ok hk hdk;subst this;rw[hj]at hk;cases hk;rw[hEj]at hok;cases hok)]
      have hEj:E oj=false:=by simpa using hEj
      have hvj:=List.getElem?_eq_getElem (l:=vs) (show j<vs.length by have:=(Array.getElem?_eq_some_iff.1 hj).1;omega)
      rcases Nat.lt_trichotomy j i with hlt|heq|hgt
      ·have hlj:=hwt j ((hf.look i j o oj d ho hj (by omega) hdj hd).1 hlt)
       rw[hm.b d (λk ok hk _ hdk=>by rw[honly k ok hk hdk];exact hlj),hm.v j oj d _ hj hEj hdj hvj,hT.set j oj d _ hlt hj hEj hdj hvj]
      ·subst heq
       rw[hm.a j oj d hj hEj hdj hif,hT.old d (λk ok hk hok _ hdk=>by have:=honly k ok hok hdk;omega)]
      ·have hnl:listed.getD j false=false:=by
        cases hlj:listed.getD j false with
        |false=>rfl
        |true=>exact(hcl j oj hj hlj ((hf.look i j o oj d ho hj (by omega) hdj hd).2.1 hgt)).elim
       rw[hm.a j oj d hj hEj hdj hnl,hT.old d (λk ok hk hok _ hdk=>by have:=honly k ok hok hdk;omega)]
     ·rw[hm.b d (λk ok hk _ hdk=>absurd ⟨k,ok,hk,hdk⟩ hex),hm.o d (λk ok hk hdk=>absurd ⟨k,ok,hk,hdk⟩ hex),hT.old d (λk ok _ hk _ hdk=>hex ⟨k,ok,hk,hdk⟩)])
    have hstepD:iu P W0 n fz ops o D vi D.st:=by
     rcases hnrw with hn|⟨hR,hz⟩
     ·have:=(hstep hEo).congr (B:=D) (λhx=>by rw[hn]at hx;cases hx) hlook
      rw[hW]at this
      simpa only[Bool.false_eq_true,if_false]using this
     ·obtain⟨τ,hτ⟩:=hm.z i o T.st ho hEo hR hz hif hTs
      exact(hstep hEo).Nu hz τ hτ hlook
    have hmid:Mid fz E ops vs ss A (listed.setIfInBounds i true) rem (D.put o.dst vi) B:=by
     refine⟨λj oj d hj hEj hdj hlj=>?_,λd hd=>?_,by rw[aa.Hb];exact hm.st,hm.v,λd hd'=>hm.o d λj oj hj hdj=>⟨(hd' j oj hj hdj).1,((ct hil j).1 (hd' j oj hj hdj).2).1⟩,λj oj hj hEj hx hz=>(gz hil j).2 (.inl (hm.rw j oj hj hEj hx hz)),λj oj σj hj hEj hR hz hl hs=>by rw[aa.Hb];exact hm.z j oj σj hj hEj hR hz ((ct hil j).1 hl).1 hs,λp hp=>?_,λj oj hj hEj hlj=>?_,hm.r3⟩
     ·obtain⟨g1,g2⟩:=(ct hil j).1 hlj
      rw[ef (λhod=>g2 (hf.HK j i oj o d hj ho hdj hod))]
      exact hm.a j oj d hj hEj hdj g1
     ·by_cases hod:o.dst=some d
      ·rw[fY hod,hm.v i o d vi ho hEo hod hv]
      ·rw[ef hod]
       refine hm.b d λj oj hj hEj hdj=>?_
       rcases(gz hil j).1 (hd j oj hj hEj hdj)with h|h
       ·exact h
       ·subst h;rw[ho]at hj;cases hj;exact absurd hdj hod
     ·obtain⟨g1,g2,g3⟩:=hm.r1 p hp
      refine⟨g1,g2,(ct hil p.2).2 ⟨g3,λe=>?_⟩⟩
      rw[e,ho]at g1;cases g1;rw[hEo]at g2;cases g2
     ·exact hm.r2 j oj hj hEj ((ct hil j).1 hlj).1
    have hgo: ∀w' C' a',bI P W0 n w' C' (D.put o.dst vi) a'→Step w C w' C'→j0 P .any ops Qx fuel (listed.setIfInBounds i true) a' w':=λw' C' a' hr' hs=>
     ih _ _ B rem w' C' a' hsz' hfuel' hclosed' hmid hr' hK (λB' C'' a'' w'' hKB hr'' hs''=>hq B' C'' a'' w'' hKB hr'' (hs.trans hs''))
    obtain⟨hd,hstepD⟩:=hstepD
    have same: ∀v,(D.put o.dst v).an D.st=D.put o.dst v:=λv=>by cases o.dst<;>rfl
    have fin: ∀x w',aF P w' C vi x→Step w C w' C→aB P W0 w' C D.st→j0 P .any ops Qx fuel (listed.setIfInBounds i true) (a.put o.dst x) w':=λx w' hv hs hst=>hgo w' C _ (by
     have:=j7 (o:=o) hr hd hs hst hv
     rwa [same]at this) hs
    split at hstepD
    ·rename_i hg
     rw[if_pos (by simp[Region.wanted,hg])]
     rcases hstepD with⟨_,_,hp⟩|⟨hW',_⟩
     ·exact⟨hp.1 w C a (hr.toO o) _ _ fin,dU (hp.1 w C a (hr.toO o) _ _ λx _ _ _ _=>put_defers a o.dst x)⟩
     ·rw[hW]at hW';cases hW'
    ·rename_i j want hg
     obtain⟨_,_,G,u,g1,g2,g3⟩:=hstepD
     have hw:=sf hr g1 hg
     rw[hw]
     cases G with
     |true=>
      rw[if_pos rfl]
      exact⟨(g3 rfl).1 w C a (hr.toO o) _ _ λx w' hv hs hst=>fin x w' (by rw[g2];exact .maybe (λ_=>hv) (λe=>by cases e)) hs hst,dU ((g3 rfl).1 w C a (hr.toO o) _ _ λx _ _ _ _=>put_defers a o.dst x)⟩
     |false=>
      rw[if_neg (by simp)]
      exact hgo w C _ (kC hr hd (v:=vi) (x:=undef) (by rw[g2];exact .maybe (λe=>by cases e) (λ_=>rfl))) (.refl _ _)
   |true=>
    have hmem:=hm.r2 i o ho hEo hif
    cases hrem:rem with
    |nil=>rw[hrem]at hmem;cases hmem
    |cons p r=>
     have hhead:p=(o,i):=by
      rw[hrem]at hmem
      rcases List.mem_cons.1 hmem with h|h
      ·exact h.symm
      ·exfalso
       have h3:=hm.r3
       rw[hrem]at h3
       have hlt:=(List.pairwise_cons.1 h3).1 (o,i) h
       obtain⟨g1,g2,g3⟩:=hm.r1 p (by rw[hrem];simp)
       have:=hdone p.2 (hf.chain i p.2 o p.1 ho g1 hEo g2 hlt)
       rw[g3]at this;cases this
     subst hhead
     rw[hrem,List.map_cons]at hK
     obtain⟨hnf,hop⟩:=hK
     rw[if_pos (by simp[Region.wanted,hf.gd i o ho hEo])]
     have hrO:fJ P W0 o w C B a:=nJ (ops:=ops) (T:=B) (B:=D) hm.st (λd hd=>hm.b d λj oj hj hEj hdj=>by
      have hne:i≠j:=λe=>by subst e;rw[ho]at hj;cases hj;rw[hEo]at hEj;cases hEj
      have hl:=hf.look i j o oj d ho hj hne hdj hd
      exact hwt j (hl.1 (hl.2.2.2 hEo hEj))) (hr.toO o)
     have hd:=hop.1
     have hop:uB P W0 n fz o B (λB'=>eVC P W0 n fz (r.map (·.1)) K B'∧(AX o.op=true→ ∃τ,B'.st=B.st++τ)):=by
      cases hal:AX o.op with
      |false=>
       have e:(λB'=>eVC P W0 n fz (r.map (·.1)) K B'∧(false=true→ ∃τ,B'.st=B.st++τ))=λB'=>eVC P W0 n fz (r.map (·.1)) K B':=funext λB'=>propext ⟨λh=>h.1,λh=>⟨h,λe=>by cases e⟩⟩
       rw[e]
       exact hop
      |true=>
       obtain⟨h1,h2⟩:=hop
       refine⟨h1,?_⟩
       cases ho':o.op<;>rw[ho']at hal h2<;>first|(simp[AX]at hal;done)|skip
       simp only at h2 ⊢
       split at h2
       ·exact⟨h2,λ_=>⟨_,rfl⟩⟩
       ·exact h2
     refine⟨tD hrO hnf hop λv x σ' w' C' hK' hv hst hs=>?_,dU (tD hrO hnf hop λ_ x _ _ _ _ _ _ _=>put_defers a o.dst x)⟩
     obtain⟨hK',hup⟩:=hK'
     have hr':=j7 (o:=o) hr hd hs hst hv
     refine ih _ ((D.put o.dst v).an σ') ((B.put o.dst v).an σ') r w' C' _ hsz' hfuel' hclosed' ?_ hr' hK' (λB' C'' a'' w'' hKB hr'' hs''=>hq B' C'' a'' w'' hKB hr'' (hs.trans hs''))
     have hEne: ∀(j:Nat) (oj:Oper),ops[j]?=some oj→E oj=false→j≠i:=λj oj hj hEj e=>by subst e;rw[ho]at hj;cases hj;rw[hEo]at hEj;cases hEj
     refine⟨λj oj d hj hEj hdj hlj=>?_,λd hd'=>?_,rfl,λj oj d u hj hEj hdj hu=>?_,λd hd'=>?_,λj oj hj hEj hx hz=>(gz hil j).2 (.inl (hm.rw j oj hj hEj hx hz)),λj oj σj hj hEj hR hz hl hs'=>?_,λp hp=>?_,λj oj hj hEj hlj=>?_,?_⟩
     ·rw[ik,ef (λhod=>hEne j oj hj hEj (hf.HK j i oj o d hj ho hdj hod))]
      exact hm.a j oj d hj hEj hdj ((ct hil j).1 hlj).1
     ·rw[ik,ik]
      by_cases hod:o.dst=some d
      ·rw[fY hod,fY hod]
      ·rw[ef hod,ef hod]
       refine hm.b d λj oj hj hEj hdj=>?_
       rcases(gz hil j).1 (hd' j oj hj hEj hdj)with h|h
       ·exact h
       ·exact absurd h (hEne j oj hj hEj)
     ·rw[ik,ef (λhod=>hEne j oj hj hEj (hf.HK j i oj o d hj ho hdj hod))]
      exact hm.v j oj d u hj hEj hdj hu
     ·have hne:o.dst≠some d:=λhod=>by
       have:=(hd' i o ho hod).2
       rw[(gz hil i).2 (.inr rfl)]at this
       cases this
      rw[ik,ef hne]
      exact hm.o d λj oj hj hdj=>⟨(hd' j oj hj hdj).1,((ct hil j).1 (hd' j oj hj hdj).2).1⟩
     ·obtain⟨g1,g2⟩:=(ct hil j).1 hl
      obtain⟨τ,hτ⟩:=hm.z j oj σj hj hEj hR hz g1 hs'
      cases hal:AX o.op with
      |false=>
       have:=hdone j (hf.last i j o oj ho hj hEo hEj (by simp[hR]) (by simp[hal]))
       rw[g1]at this;cases this
      |true=>
       obtain⟨τ',hτ'⟩:=hup hal
       have e1:σ'=B.st++τ':=hτ'
       refine⟨τ++τ',?_⟩
       show σ'=_
       rw[e1,←hm.st,hτ,List.append_assoc]
     ·obtain⟨g1,g2,g3⟩:=hm.r1 p (by rw[hrem];exact List.mem_cons_of_mem _ hp)
      have h3:=hm.r3
      rw[hrem]at h3
      have hlt:=(List.pairwise_cons.1 h3).1 p hp
      exact⟨g1,g2,(ct hil p.2).2 ⟨g3,by simp only at hlt;omega⟩⟩
     ·obtain⟨g1,g2⟩:=(ct hil j).1 hlj
      have:=hm.r2 j oj hj hEj g1
      rw[hrem]at this
      rcases List.mem_cons.1 this with h|h
      ·cases h;exact absurd rfl g2
      ·exact h
     ·have h3:=hm.r3
      rw[hrem]at h3
      exact(List.pairwise_cons.1 h3).2
theorem od (E:Oper→Bool): ∀(l:List Oper) (k:Nat),((l.zipIdx k).filter (λp=>E p.1)).map (·.1)=l.filter E
 |[],_=>rfl
 |o::r,k=>by
  rw[List.zipIdx_cons,List.filter_cons,List.filter_cons]
  cases h:E o with
  |true=>simp only[if_true,List.map_cons];rw[od E r]
  |false=>simp only[Bool.false_eq_true,if_false];rw[od E r]
theorem Du {vs:List AV}{ss:List ab}{B:aa}{Qx:Exit→Act→World→Prop}(hf:mr fz E ops ac)(hseq:Seq P W0 n fz E ops ops.toList A vs ss B)(hK:eVC P W0 n fz (ops.toList.filter E) K B):
  ∀(fuel:Nat) (listed:Array Bool) (D:aa) (w:World) (C:Ctx) (a:Act),listed.size=ops.size→(List.range ops.size).countP (λi=>!listed.getD i true)≤fuel→
   (∀(i:Nat) (oi:Oper),ops[i]?=some oi→listed.getD i true=true→ ∀e∈oi.after,Region.binds .any e=true→listed.getD e.on false=true)→
   (∀(i:Nat) (oi:Oper),ops[i]?=some oi→E oi=true→listed.getD i false=false)→
   jD E ops vs A (λi=>listed.getD i false=true) D→Jq E ops (A.st::ss) listed D.st→bI P W0 n w C D a→(∀B' C' a' w',K B'→bI P W0 n w' C' B' a'→Step w C w' C'→Qx .normal a' w')→j0 P .any ops Qx fuel listed a w:=by
 have hD:=hf.HK
 have hedge:=hf.uE
 have he0:jD E ops vs A (· <0) A:=⟨λi _ _ _ hi=>absurd hi (Nat.not_lt_zero i),λ_ _=>rfl⟩
 obtain⟨hat,hB,hlen,hBs⟩:=BL (ss:=A.st::ss) ops.toList vs ss 0 A B hD (by simp) (by simp) (λj=>by rw[show 0+1+j=j+1 by omega];simp) rfl hseq he0
 simp only[Nat.zero_add]at hat hB hBs
 have hBs':(A.st::ss)[ops.size]?=some B.st:=by simpa using hBs
 have hsame: ∀(d m:Nat),m+d≤ops.size→(∀(j:Nat) (oj:Oper),m≤j→j<m+d→ops[j]?=some oj→E oj=false→isW oj.op=false)→(A.st::ss)[m+d]?=(A.st::ss)[m]?:=λd=>by
  induction d with
  |zero=>intro m _ _;rfl
  |succ d ihd=>
   intro m hm hno
   rw[←ihd m (by omega) (λj oj h1 h2=>hno j oj h1 (by omega))]
   have hlt:m+d<ops.size:=by omega
   obtain⟨vj,hvj⟩: ∃v,vs[m+d]?=some v:=⟨_,List.getElem?_eq_getElem (l:=vs) (show m+d<vs.length by rw[hlen];simpa using hlt)⟩
   obtain⟨T,σ',_,e1,e2,hsk,hok⟩:=hat (m+d) ops[m+d] vj (by simp[hlt]) hvj
   have:σ'=T.st:=by
    cases hEm:E ops[m+d]with
    |true=>exact hsk hEm
    |false=>
    have hnw:=hno (m+d) ops[m+d] (by omega) (by omega) (by simp[hlt]) hEm
    have h2:=(hok hEm).2
    split at h2
    ·rcases h2 with h2|h2
     ·exact h2.2.1
     ·rw[hnw]at h2;cases h2.1
    ·exact h2.2.1
   rw[show m+(d+1)=m+d+1 by omega,e2,e1,this]
 have hstEnd: ∀(listed:Array Bool) (D:aa),(∀(i:Nat) (o:Oper),ops[i]?=some o→E o=false→(isW o.op||isR fz o.dst o.op)=true→isZ o.op=false→listed.getD i false=true)→Jq E ops (A.st::ss) listed D.st→D.st=B.st:=λlisted D hall ⟨m,hm,hs,hw⟩=>by
  have:=hsame (ops.size-m) m (by omega) (λj oj h1 h2 hoj hEj=>by
   cases hwj:isW oj.op with
   |false=>rfl
   |true=>
    have:=(hw j oj hoj hEj hwj).1 (hall j oj hoj hEj (by simp[hwj]) (ve hwj))
    omega)
  rw[show m+(ops.size-m)=ops.size by omega,hBs',hs]at this
  exact(Option.some.inj this).symm
 have hat': ∀j o v,ops[j]?=some o→vs[j]?=some v→ ∃Tj σ',jD E ops vs A (· <j) Tj∧(A.st::ss)[j]?=some Tj.st∧(A.st::ss)[j+1]?=some σ'∧(E o=true→σ'=Tj.st)∧(E o=false→iu P W0 n fz ops o Tj v σ'):=λj o v hj hv=>hat j o v (by simpa using hj) hv
 have hover: ∀(fuel:Nat) (listed:Array Bool) (D:aa) (w:World) (C:Ctx) (a:Act),listed.size=ops.size→(List.range ops.size).countP (λi=>!listed.getD i true)≤fuel→sX ops listed→
   (∀(i:Nat) (oi:Oper),ops[i]?=some oi→E oi=true→listed.getD i false=false)→jD E ops vs A (λi=>listed.getD i false=true) D→Jq E ops (A.st::ss) listed D.st→bI P W0 n w C D a→
   (∀(i:Nat) (o:Oper),ops[i]?=some o→E o=false→(isW o.op||isR fz o.dst o.op)=true→isZ o.op=false→listed.getD i false=true)→(∀B' C' a' w',K B'→bI P W0 n w' C' B' a'→Step w C w' C'→Qx .normal a' w')→j0 P .any ops Qx fuel listed a w:=λfuel listed D w C a hsz hfuel hclosed hEl hE hS hr hall hq=>by
  refine Af hf (by rw[hlen];simp) hat' fuel listed D B ((ops.toList.zipIdx 0).filter (λp=>E p.1)) w C a hsz hfuel hclosed ⟨λi o d hi hEi hdi hl=>?_,λd hd=>?_,hstEnd listed D hall hS,λi o d v hi hEi hdi hv=>?_,λd hd=>?_,hall,λi o σi hi hEi hR hz hl hs=>?_,λp hp=>?_,λi o hi hEi hl=>?_,?_⟩ hr (by rw[od];exact hK) hq
  ·exact hE.old d λk ok hk hok _ hdk=>by have:=hD k i ok o d hok hi hdk hdi;subst this;rw[hl]at hk;cases hk
  ·by_cases hex: ∃(i:Nat) (o:Oper),ops[i]?=some o∧E o=false∧o.dst=some d
   ·obtain⟨i,o,hi,hEi,hdi⟩:=hex
    have hlt:=(Array.getElem?_eq_some_iff.1 hi).1
    have hv:=List.getElem?_eq_getElem (l:=vs) (show i<vs.length by rw[hlen];simpa using hlt)
    rw[hE.set i o d _ (hd i o hi hEi hdi) hi hEi hdi hv,hB.set i o d _ (by simpa using hlt) hi hEi hdi hv]
   ·rw[hE.old d (λi o _ hi hEi hdi=>hex ⟨i,o,hi,hEi,hdi⟩),hB.old d (λi o _ hi hEi hdi=>hex ⟨i,o,hi,hEi,hdi⟩)]
  ·exact hB.set i o d v (by simpa using (Array.getElem?_eq_some_iff.1 hi).1) hi hEi hdi hv
  ·exact hB.old d λi o _ hi hEi hdi=>by have:=(hd i o hi hdi).1;rw[hEi]at this;cases this
  ·have hlt:=(Array.getElem?_eq_some_iff.1 hi).1
   have hnow: ∀(j:Nat) (oj:Oper),i≤j→j<i+(ops.size-i)→ops[j]?=some oj→E oj=false→isW oj.op=false:=λj oj h1 h2 hj hEj=>by
    cases hwj:isW oj.op with
    |false=>rfl
    |true=>
     have hne:i≠j:=λe=>by subst e;rw[hi]at hj;cases hj;rw[ve hwj]at hz;cases hz
     have hlj:=hall j oj hj hEj (by simp[hwj]) (ve hwj)
     have hmem:=(hf.wr i j o oj hi hj hne hEi hEj hwj (by simp[hR])).2 (by omega)
     have:=oV hf (S:=λj=>listed.getD j false=true) (λk ok hk hlk=>hclosed k ok hk (by
      have h3:k<listed.size:=by have:=(Array.getElem?_eq_some_iff.1 hk).1;omega
      simp[Array.getD,h3]at hlk ⊢
      exact hlk)) j oj hj (hclosed j oj hj (by
      have h3:j<listed.size:=by have:=(Array.getElem?_eq_some_iff.1 hj).1;omega
      simp[Array.getD,h3]at hlj ⊢
      exact hlj)) i hmem
     rw[hl]at this;cases this
   have hsm:=hsame (ops.size-i) i (by omega) hnow
   rw[show i+(ops.size-i)=ops.size by omega,hBs',hs]at hsm
   exact⟨[],by rw[List.append_nil,hstEnd listed D hall hS];exact Option.some.inj hsm⟩
  ·obtain⟨hp1,hp2⟩:=List.mem_filter.1 hp
   have h3:ops[p.2]?=some p.1:=by
    have:=List.mem_zipIdx_iff_getElem?.1 hp1
    simpa using this
   exact⟨h3,hp2,hEl p.2 p.1 h3 hp2⟩
  ·exact List.mem_filter.2 ⟨List.mem_zipIdx_iff_getElem?.2 (by simpa using hi),hEi⟩
  ·refine List.Pairwise.filter _ ?_
   rw[List.pairwise_iff_getElem]
   intro i j hi hj hij
   simp only[List.getElem_zipIdx]
   omega
 intro fuel
 induction fuel with
 |zero=>
  intro listed D w C a hsz hfuel hclosed hEl hE hS hr hq
  refine hover 0 listed D w C a hsz hfuel hclosed hEl hE hS hr (λi o hi _ _ _=>kW hf hsz (vV hfuel) i (Array.getElem?_eq_some_iff.1 hi).1) hq
 |succ fuel ih=>
  intro listed D w C a hsz hfuel hclosed hEl hE hS hr hq
  by_cases hall: ∀(i:Nat) (o:Oper),ops[i]?=some o→E o=false→(isW o.op||isR fz o.dst o.op)=true→isZ o.op=false→listed.getD i false=true
  ·exact hover (fuel+1) listed D w C a hsz hfuel hclosed hEl hE hS hr hall hq
  refine⟨λhnil=>absurd (λi o hi _ _ _=>kW hf hsz hnil i (Array.getElem?_eq_some_iff.1 hi).1) hall,λi hi=>?_⟩
  ·obtain⟨h1,o,ho,h2⟩:=mem_ready.1 hi
   have hilt:=(Array.getElem?_eq_some_iff.1 ho).1
   obtain⟨vi,hv⟩: ∃v,vs[i]?=some v:=⟨_,List.getElem?_eq_getElem (l:=vs) (show i<vs.length by rw[hlen];simpa using hilt)⟩
   obtain⟨T,σ',hT,hTs,hTs',_,hstep⟩:=hat i o _ (by simpa using ho) hv
   have hif:listed.getD i false=false:=by
    have h3:i<listed.size:=by omega
    simp[Array.getD,h3]at h1 ⊢
    exact h1
   have hil:i<listed.size:=by omega
   have hdone: ∀j∈(ac[i]?).getD [],listed.getD j false=true:=oV hf (S:=λj=>listed.getD j false=true) (λj oj hj hlj=>hclosed j oj hj (by
    have h3:j<listed.size:=by have:=(Array.getElem?_eq_some_iff.1 hj).1;omega
    simp[Array.getD,h3]at hlj ⊢
    exact hlj)) i o ho h2
   have hEo:E o=false:=by
    cases hEo:E o with
    |false=>rfl
    |true=>exact absurd (λj oj hj hEj hx hz=>hdone j (hf.last i j o oj ho hj hEo hEj hx (by rw[hz,Bool.and_false]))) hall
   replace hstep:=hstep hEo
   have hdoneOf: ∀(j:Nat) (oj:Oper),ops[j]?=some oj→listed.getD j false=true→ ∀k∈(ac[j]?).getD [],listed.getD k false=true:=λj oj hj hlj=>by
    have hcl': ∀(j:Nat) (oj:Oper),ops[j]?=some oj→listed.getD j false=true→ ∀e∈oj.after,Region.binds .any e=true→listed.getD e.on false=true:=λj oj hj hlj=>hclosed j oj hj (by
     have h3:j<listed.size:=by have:=(Array.getElem?_eq_some_iff.1 hj).1;omega
     simp[Array.getD,h3]at hlj ⊢
     exact hlj)
    exact oV hf (S:=λj=>listed.getD j false=true) hcl' j oj hj (hcl' j oj hj hlj)
   obtain⟨m,hm,hms,hmw⟩:=hS
   have hcl: ∀(j:Nat) (oj:Oper),ops[j]?=some oj→listed.getD j false=true→eP oj i=true→False:=λj oj hj hlj hwt=>by
    have hjlt:=(Array.getElem?_eq_some_iff.1 hj).1
    obtain⟨e,he,e1,e2⟩:=fT hwt
    have:=hclosed j oj hj (by
     have h3:j<listed.size:=by omega
     simp[Array.getD,h3]at hlj ⊢
     exact hlj) e he e2
    rw[e1,hif]at this
    cases this
   have hpos:(isW o.op||isR fz o.dst o.op)=true→(A.st::ss)[i]?=(A.st::ss)[m]?∧(∀(j:Nat) (oj:Oper),ops[j]?=some oj→E oj=false→isW oj.op=true→j≠i→(listed.getD j false=true↔j<i)):=λhlk=>by
    have hiff: ∀(j:Nat) (oj:Oper),ops[j]?=some oj→E oj=false→isW oj.op=true→j≠i→(listed.getD j false=true↔j<i):=λj oj hj hEj hwj hne=>by
     obtain⟨g1,g2⟩:=hf.wr i j o oj ho hj (Ne.symm hne) hEo hEj hwj hlk
     constructor
     ·intro hlj
      rcases Nat.lt_or_gt_of_ne hne with hlt|hgt
      ·exact hlt
      ·have:=hdoneOf j oj hj hlj i (g2 hgt);rw[hif]at this;cases this
     ·intro hlt
      exact hdone j (g1 hlt)
    refine⟨?_,hiff⟩
    rcases Nat.le_total m i with hle|hle
    ·have:=hsame (i-m) m (by omega) (λj oj g1 g2 hoj hEj=>by
      cases hwj:isW oj.op with
      |false=>rfl
      |true=>
       have:=(hmw j oj hoj hEj hwj).1 ((hiff j oj hoj hEj hwj (by omega)).2 (by omega))
       omega)
     rwa [show m+(i-m)=i by omega]at this
    ·have:=hsame (m-i) i (by omega) (λj oj g1 g2 hoj hEj=>by
      cases hwj:isW oj.op with
      |false=>rfl
      |true=>
       have hlj:=(hmw j oj hoj hEj hwj).2 (by omega)
       by_cases hji:j=i
       ·subst hji;rw[hif]at hlj;cases hlj
       ·have:=(hiff j oj hoj hEj hwj hji).1 hlj
        omega)
     rw[show i+(m-i)=m by omega]at this
     exact this.symm
   have hstD:(isW o.op||isR fz o.dst o.op)=true→D.st=T.st:=λhlk=>by
    have:=(hpos hlk).1
    rw[hTs,hms]at this
    exact(Option.some.inj this).symm
   have hstepD:iu P W0 n fz ops o D vi (if isW o.op then σ' else D.st):=hstep.congr hstD (λd hd=>by
    by_cases hex: ∃(j:Nat) (oj:Oper),ops[j]?=some oj∧oj.dst=some d
    ·obtain⟨j,oj,hj,hdj⟩:=hex
     have hjlt:=(Array.getElem?_eq_some_iff.1 hj).1
     have hvj:=List.getElem?_eq_getElem (l:=vs) (show j<vs.length by rw[hlen];simpa using hjlt)
     have honly: ∀k ok,ops[k]?=some ok→ok.dst=some d→k=j:=λk ok hk hdk=>hD k j ok oj d hk hj hdk hdj
     by_cases hEj:E oj=true
     ·rw[hE.old d (λk ok _ hk hok hdk=>by have:=honly k ok hk hdk;subst this;rw[hj]at hk;cases hk;rw[hEj]at hok;cases hok),hT.old d (λk ok _ hk hok hdk=>by have:=honly k ok hk hdk;subst this;rw[hj]at hk;cases hk;rw[hEj]at hok;cases hok)]
     have hEj:E oj=false:=by simpa using hEj
     rcases Nat.lt_trichotomy j i with hlt|heq|hgt
     ·obtain⟨e,he,e1,e2⟩:=fT ((hf.look i j o oj d ho hj (by omega) hdj hd).1 hlt)
      have hlj:listed.getD j false=true:=by rw[←e1];exact h2 e he e2
      rw[hE.set j oj d _ hlj hj hEj hdj hvj,hT.set j oj d _ hlt hj hEj hdj hvj]
     ·subst heq
      have e1:D.env d=A.env d:=hE.old d (λk ok hk hok _ hdk=>by have:=honly k ok hok hdk;subst this;rw[hif]at hk;cases hk)
      have e2:T.env d=A.env d:=hT.old d (λk ok hk hok _ hdk=>by have:=honly k ok hok hdk;omega)
      rw[e1,e2]
     ·have hnl:listed.getD j false=false:=by
       cases hlj:listed.getD j false with
       |false=>rfl
       |true=>
        exfalso
        obtain⟨e,he,e1,e2⟩:=fT ((hf.look i j o oj d ho hj (by omega) hdj hd).2.1 hgt)
        have:=hclosed j oj hj (by
         have h3:j<listed.size:=by omega
         simp[Array.getD,h3]at hlj ⊢
         exact hlj) e he e2
        rw[e1,hif]at this
        cases this
      have e1:D.env d=A.env d:=hE.old d (λk ok hk hok _ hdk=>by have:=honly k ok hok hdk;subst this;rw[hnl]at hk;cases hk)
      have e2:T.env d=A.env d:=hT.old d (λk ok hk hok _ hdk=>by have:=honly k ok hok hdk;omega)
      rw[e1,e2]
    ·rw[hE.old d (λk ok _ hk _ hdk=>hex ⟨k,ok,hk,hdk⟩),hT.old d (λk ok _ hk _ hdk=>hex ⟨k,ok,hk,hdk⟩)])
   have hput:jD E ops vs A (λj=>(listed.setIfInBounds i true).getD j false=true) ((D.put o.dst vi).an (if isW o.op then σ' else D.st)):=by
    have hp:=hE.put hD ho hEo hv
    have hiff: ∀j,(listed.setIfInBounds i true).getD j false=true↔(listed.getD j false=true∨j=i):=λj=>by
     by_cases hj:j=i
     ·subst hj
      have h3:j<listed.size:=by omega
      simp[Array.getD,h3]
     ·rw[getD_set_ne false (Ne.symm hj)];simp[hj]
    exact⟨λj oj d u hj=>hp.set j oj d u ((hiff j).1 hj),λd hd=>hp.old d (λj oj hj=>hd j oj ((hiff j).2 hj))⟩
   have hsz':(listed.setIfInBounds i true).size=ops.size:=by simpa using hsz
   have hfuel':(List.range ops.size).countP (λj=>!(listed.setIfInBounds i true).getD j true)≤fuel:=by
    have:=pU (l:=List.range ops.size) (p:=λj=>!listed.getD j true) (q:=λj=>!(listed.setIfInBounds i true).getD j true) (x:=i) (λj _ hj=>by
     by_cases hji:j=i
     ·subst hji;simpa using h1
     ·rw[getD_set_ne true (Ne.symm hji)]at hj;exact hj) (List.mem_range.2 hilt) (by rw[h1];rfl) (by
      have h3:i<listed.size:=by omega
      simp[Array.getD,h3])
    omega
   have hclosed': ∀(j:Nat) (oj:Oper),ops[j]?=some oj→(listed.setIfInBounds i true).getD j true=true→ ∀e∈oj.after,Region.binds .any e=true→(listed.setIfInBounds i true).getD e.on false=true:=λj oj hj hlj e he hb=>by
    by_cases hji:j=i
    ·subst hji
     rw[ho]at hj
     cases hj
     exact getD_set_true (h2 e he hb)
    ·rw[getD_set_ne true (Ne.symm hji)]at hlj
     exact getD_set_true (hclosed j oj hj hlj e he hb)
   have hS':Jq E ops (A.st::ss) (listed.setIfInBounds i true) (if isW o.op then σ' else D.st):=by
    have hset: ∀j,(listed.setIfInBounds i true).getD j false=true↔(listed.getD j false=true∨j=i):=λj=>by
     by_cases hj:j=i
     ·subst hj
      have h3:j<listed.size:=by omega
      simp[Array.getD,h3]
     ·rw[getD_set_ne false (Ne.symm hj)];simp[hj]
    cases hW:isW o.op with
    |false=>
     refine⟨m,hm,by simpa using hms,λj oj hj hEj hwj=>?_⟩
     have hji:j≠i:=λe=>by subst e;rw[ho]at hj;cases hj;rw[hW]at hwj;cases hwj
     rw[hset]
     simp only[hji,or_false]
     exact hmw j oj hj hEj hwj
    |true=>
     refine⟨i+1,by omega,by simpa using hTs',λj oj hj hEj hwj=>?_⟩
     rw[hset]
     by_cases hji:j=i
     ·subst hji;simp
     ·have:=(hpos (by simp[hW])).2 j oj hj hEj hwj hji
      simp only[hji,or_false,this]
      omega
   have hgo: ∀w' C' a',bI P W0 n w' C' ((D.put o.dst vi).an (if isW o.op then σ' else D.st)) a'→Step w C w' C'→j0 P .any ops Qx fuel (listed.setIfInBounds i true) a' w':=λw' C' a' hr' hs=>
    ih _ _ w' C' a' hsz' hfuel' hclosed' (λj oj hj hEj=>(ct hil j).2 ⟨hEl j oj hj hEj,λe=>by subst e;rw[ho]at hj;cases hj;rw[hEo]at hEj;cases hEj⟩) hput hS' hr' (λB' C'' a'' w'' hKB hr'' hs''=>hq B' C'' a'' w'' hKB hr'' (hs.trans hs''))
   unfold B0
   rw[ho]
   simp only
   obtain⟨hd,hstepD⟩:=hstepD
   have fin:isW o.op=false→ ∀x w',aF P w' C vi x→Step w C w' C→aB P W0 w' C D.st→j0 P .any ops Qx fuel (listed.setIfInBounds i true) (a.put o.dst x) w':=λhW x w' hv hs hst=>hgo w' C _ (by
    have:=j7 (o:=o) hr hd hs hst hv
    simpa[hW]using this) hs
   split at hstepD
   ·rename_i hg
    rw[if_pos (by simp[Region.wanted,hg])]
    rcases hstepD with⟨hW,_,hp⟩|⟨hW,hu,hp⟩
    ·exact⟨hp.1 w C a (hr.toO o) _ _ (fin hW),dU (hp.1 w C a (hr.toO o) _ _ λx _ _ _ _=>put_defers a o.dst x)⟩
    ·rw[if_pos hW]at hp
     obtain⟨w',r1,r2,r3⟩:=hp w C a (hr.toO o)
     refine⟨oW r1 (hgo w' C _ ?_ r2),dU (oW r1 (put_defers a o.dst undef))⟩
     rw[if_pos hW,hu]
     exact j7 (o:=o) hr hd r2 r3 (.undef _)
   ·rename_i j want hg
    obtain⟨hW,_,G,u,g1,g2,g3⟩:=hstepD
    have hw:=sf hr g1 hg
    rw[hw]
    cases G with
    |true=>
     rw[if_pos rfl]
     exact⟨(g3 rfl).1 w C a (hr.toO o) _ _ λx w' hv hs hst=>fin hW x w' (by rw[g2];exact .maybe (λ_=>hv) (λe=>by cases e)) hs hst,dU ((g3 rfl).1 w C a (hr.toO o) _ _ λx _ _ _ _=>put_defers a o.dst x)⟩
    |false=>
     rw[if_neg (by simp)]
     refine hgo w C _ ?_ (.refl _ _)
     have e:(D.put o.dst vi).an D.st=D.put o.dst vi:=by cases o.dst<;>rfl
     have:=kC hr hd (v:=vi) (x:=undef) (by rw[g2];exact .maybe (λe=>by cases e) (λ_=>rfl))
     rw[←e]at this
     simpa[hW]using this
theorem VC.T7 {id:Nat}{l:List Oper}{Q:Exit→aa→Prop}(hm:P.follows .mixedOrders=true)(hdep:zZ fz E l.toArray ac=true)(h: ∃vs ss B,Seq P W0 n fz E l.toArray l A vs ss B∧eVC P W0 n fz (l.filter E) (Q .normal) B):VC P W0 n (.region id l.toArray true) Q A:=λw C a hr=>by
 obtain⟨vs,ss,B,hseq,hB⟩:=h
 have hr':bI P W0 n w.drew C A a:=hr.step (Step.drew w C) hr.st.drew
 refine tG hm (Du (K:=Q .normal) (DV hdep) (vs:=vs) (ss:=ss) (B:=B) (by simpa using hseq) (by simpa using hB) l.toArray.size _ A w.drew C a (by simp) ?_ ?_ ?_ ?_ ?_ hr' ?_)
 ·exact Nat.le_trans List.countP_le_length (by simp)
 ·intro i oi hi hl
  have hlt:=(Array.getElem?_eq_some_iff.1 hi).1
  exfalso
  simp[Array.getD]at hl
  simp at hlt
  exact absurd hl (by omega)
 ·intro i oi hi _
  simp[Array.getD]
 ·refine⟨λi o d v hi=>?_,λ_ _=>rfl⟩
  exfalso
  simp[Array.getD]at hi
 ·exact⟨0,Nat.zero_le _,rfl,λj oj _ _ _=>by simp[Array.getD]⟩
 ·intro B' C' a' w' hK hr' hs
  exact⟨B',C',hK,hr',(Step.drew w C).trans hs⟩
end
end Go.Av
end
section
namespace Go.Av
open Go
def unm :AV→AV| .maybe _ v=>v|v=>v
def okM (gd:Option Bool):AV→Prop| .maybe g _=>imp gd (g=true)|_=>True
def gq (gd:Option Bool)(b:Bool):AV→Prop| .maybe g _=>imp gd (b=true→g=true)|_=>True
def yV :AV→Prop| .bool _=>True|_=>False
def bl :AV→Bool| .bool b=>b|_=>false
def isI :AV→Prop| .int _ _=>True|_=>False
def iv :AV→Int| .int _ n=>n|_=>0
def lj (b:Bool)(u v:AV):AV:=lT b u v
def ca (P:Program)(op:BinOp)(t:TypeId)(u v:AV):AV:=(cd P op t u v).getD .undef
def cj (P:Program)(op:BinOp)(t:TypeId)(u v:AV):Prop:=(cd P op t u v).isSome=true
def unV (op:UnOp)(u:AV):AV:=match op,u with| .not,.bool b=>.bool (!b)| .neg,.int k m=>.int k (k.wrap (-m))|_,_=>.undef
def unC (op:UnOp)(u:AV):Prop:=match op,u with| .not,.bool _=>True| .neg,.int _ _=>True|_,_=>False
def qT (σ:ab):AV→AV| .loc _ v=>v| .ptr _ id i path=>(look σ id i path).getD .undef|_=>.undef
def qS (gd:Option Bool)(σ:ab)(t:TypeId):AV→Prop| .loc t' _=>t'=t| .ptr t' id i path=>t'=t∧imp gd ((look σ id i path).isSome=true)|_=>False
def qv (P:Program)(s:TypeId)(k:Nat):AV→AV
 | .loc _ (.agg _ fs)=>.loc ((((bp P s).getD [])[k]?).getD 0) (fs[k]?.getD .undef)
 | .ptr _ id i path=>.ptr ((((bp P s).getD [])[k]?).getD 0) id i (path++[k])
 |_=>.undef
def qm (P:Program)(s:TypeId)(k:Nat):AV→Prop
 | .loc t (.agg t' fs)=>t=s∧t'=s∧bs P s=true∧(bp P s).isSome=true∧(((bp P s).getD [])[k]?).isSome=true∧fs[k]?.isSome=true
 | .ptr t _ _ _=>t=s∧bs P s=true∧(bp P s).isSome=true∧(((bp P s).getD [])[k]?).isSome=true
 |_=>False
def fvV (k:Nat):AV→AV| .agg _ fs=>fs[k]?.getD .undef|_=>.undef
def fvC (P:Program)(s:TypeId)(k:Nat):AV→Prop| .agg t fs=>t=s∧bs P s=true∧(bp P s).isSome=true∧(((bp P s).getD [])[k]?).isSome=true∧fs[k]?.isSome=true|_=>False
def atV (xs:List AV)(i:Int):AV:=xs[i.toNat]?.getD .undef
def dX (P:Program)(t:TypeId)(i:Int):AV→AV
 | .ptr _ id j path=>.ptr ((ig P t).getD 0) id j (path++[i.toNat])
 | .loc _ (.agg _ fs)=>.loc ((ig P t).getD 0) (fs[i.toNat]?.getD .undef)
 | .row e id off _=>.ptr e id (off+i.toNat) []
 | .sl e xs=>.loc e (atV xs i)
 | .lit e xs=>.loc e (atV xs i)
 | .own e xs _=>.loc e (atV xs i)
 |_=>.undef
def dZ (P:Program)(gd:Option Bool)(σ:ab)(t:TypeId)(i:Int):AV→Prop
 | .ptr t' _ _ _=>t'=t∧(ig P t).isSome=true∧(bp P t).isSome=true∧imp gd (0≤i∧i.toNat<((bp P t).getD []).length)
 | .loc t' (.agg t'' fs)=>t'=t∧t''=t∧(ig P t).isSome=true∧(bp P t).isSome=true∧imp gd (0≤i∧i.toNat<fs.length)
 | .row e id _ m=>elT P t=some e∧0<af P e∧imp gd (0≤i∧i.toNat<m)∧live σ id
 | .sl e xs=>elT P t=some e∧0<af P e∧imp gd (0≤i∧i.toNat<xs.length)
 | .lit e xs=>elT P t=some e∧0<af P e∧imp gd (0≤i∧i.toNat<xs.length)
 | .own e xs _=>elT P t=some e∧0<af P e∧imp gd (0≤i∧i.toNat<xs.length)
 |_=>False
def xc (i:Int):AV→AV| .str l=>.int .u8 (l[i.toNat]?.getD 0).toNat| .agg _ fs=>fs[i.toNat]?.getD .undef|_=>.undef
def wy (P:Program)(gd:Option Bool)(t:TypeId)(i:Int):AV→Prop| .str l=>cc P t=true∧imp gd (0≤i∧i.toNat<l.length)| .agg t' fs=>t'=t∧(ig P t).isSome=true∧(bp P t).isSome=true∧imp gd (0≤i∧i.toNat<fs.length)|_=>False
def oE (k:Nat):AV→AV| .tup as=>as[k]?.getD .undef|_=>.undef
def oT (k:Nat):AV→Prop| .tup as=>as[k]?.isSome=true|_=>False
def fP (P:Program)(d:TypeId):AV→AV| .int _ m=>(match iQ P d with|some k'=>.int k' (k'.wrap m)|none=>.str (za m))| .str l=>.str l| .lit _ xs=>.str (xs.map jj)| .sl _ xs=>.str (xs.map jj)| .own _ xs _=>.str (xs.map jj)|_=>.undef
def byC (P:Program)(s d e:TypeId)(xs:List AV):Prop:=elT P s=some e∧iQ P e=some .u8∧af P e=1∧cc P d=true∧gL xs
def gR (P:Program)(s d:TypeId):AV→Prop| .int _ _=>(iQ P s).isSome=true∧((iQ P d).isSome||cc P d)=true| .str _=>cc P s=true∧cc P d=true| .lit e xs=>byC P s d e xs| .sl e xs=>byC P s d e xs| .own e xs _=>byC P s d e xs|_=>False
def cY (A:aa)(d:Nat):Option Operand→Nat|none=>d|some y=>(iv (unm (A.val y))).toNat
def uA (gd:Option Bool)(A:aa):Option Operand→Prop|none=>True|some y=>okM gd (A.val y)∧isI (unm (A.val y))∧imp gd (0≤iv (unm (A.val y)))
def j4 (A:aa)(lo hi:Option Operand):AV→AV
 | .row e id off m=>.row e id (off+cY A 0 lo) (cY A m hi-cY A 0 lo)
 | .az=>.az
 | .str l=>.str (gp l (cY A 0 lo) (cY A l.length hi))
 | .sl e xs=>.sl e (gp xs (cY A 0 lo) (cY A xs.length hi))
 | .lit e xs=>.sl e (gp xs (cY A 0 lo) (cY A xs.length hi))
 | .own e xs _=>.sl e (gp xs (cY A 0 lo) (cY A xs.length hi))
 |_=>.undef
def lu (gd:Option Bool)(A:aa)(lo hi:Option Operand)(m:Nat):Prop:=uA gd A lo∧uA gd A hi∧imp gd (cY A 0 lo≤cY A m hi∧cY A m hi≤m)
def jh (P:Program)(gd:Option Bool)(A:aa)(t:TypeId)(lo hi:Option Operand):AV→Prop
 | .row e _ _ m=>elT P t=some e∧0<af P e∧lu gd A lo hi m
 | .az=>(elT P t).isSome=true∧0<af P ((elT P t).getD 0)∧uA gd A lo∧uA gd A hi∧imp gd (cY A 0 lo=0∧cY A 0 hi=0)
 | .str l=>cc P t=true∧lu gd A lo hi l.length
 | .sl e xs=>elT P t=some e∧0<af P e∧lu gd A lo hi xs.length
 | .lit e xs=>elT P t=some e∧0<af P e∧lu gd A lo hi xs.length
 | .own e xs _=>elT P t=some e∧0<af P e∧lu gd A lo hi xs.length
 |_=>False
def dD (A:aa):List (Nat×Operand)→List (Nat×AV)|[]=>[]|(i,x)::r=>(i,unm (A.val x))::dD A r
def fw (gd:Option Bool)(A:aa):List (Nat×Operand)→Prop|[]=>True|(_,x)::r=>okM gd (A.val x)∧fw gd A r
def c9 (P:Program)(t:TypeId):List AV:=match zeroOf P t with|some (.agg _ fs)=>fs|_=>[]
def dj (P:Program)(t:TypeId):Bool:=match zeroOf P t with|some (.agg t' _)=>t'==t|_=>false
def AN (P:Program)(t:TypeId)(qs:List (Nat×AV)):Prop:=(bp P t).isSome=true∧dj P t=true∧mJ P ((bp P t).getD []) qs=true
def eJ (P:Program)(t:TypeId)(m:Nat)(qs:List (Nat×AV)):Prop:=match elT P t with
 |some e=>0<af P e∧bw P e=true∧m*af P e≤16777216∧qs.map (·.1)=List.range' 0 m∧qs.all (λp=>bq P e p.2)=true
 |none=>False
def lX :AV→AV
 | .str l=>.int .i64 l.length
 | .sl _ xs=>.int .i64 xs.length
 | .lit _ xs=>.int .i64 xs.length
 | .own _ xs _=>.int .i64 xs.length
 | .az=>.int .i64 0
 | .row _ _ _ n=>.int .i64 n
 |_=>.undef
def fO (P:Program)(t:TypeId):AV→Prop
 | .str _=>cc P t=true
 | .sl _ _=>(elT P t).isSome=true
 | .lit _ _=>(elT P t).isSome=true
 | .own _ _ _=>(elT P t).isSome=true
 | .az=>(elT P t).isSome=true
 | .row _ _ _ _=>(elT P t).isSome=true
 |_=>False
def gN (b:Builtin)(us:List AV):AV:=match b,us with
 | .len,[u]=>lX u
 | .cap,[_]=>.int .i64 0
 | .max,[.int k p,.int _ q]=>.int k (yC p q)
 | .min,[.int k p,.int _ q]=>.int k (rG p q)
 |_,_=>.undef
def js (P:Program)(b:Builtin)(ts:List TypeId)(us:List AV):Prop:=match b,us with
 | .len,[u]=>(match ts with|[t]=>fO P t u|_=>False)
 | .cap,[u]=>(match ts with|[t]=>(match u with| .az=>(elT P t).isSome=true|_=>False)|_=>False)
 | .max,[.int k _,.int k' _]=>k'=k
 | .min,[.int k _,.int k' _]=>k'=k
 |_,_=>False
def ck (A:aa):List Operand→List AV|[]=>[]|x::r=>unm (A.val x)::ck A r
def dT (gd:Option Bool)(A:aa):List Operand→Prop|[]=>True|x::r=>okM gd (A.val x)∧dT gd A r
noncomputable def FM (P:Program)(σ:ab)(t:TypeId)(k u:AV):AV:=match sV P t with|some (kt,vt)=>G2 P ((Dd σ kt u).getD []) k (ma P vt)|none=>.undef
def Hm (P:Program)(gd:Option Bool)(σ:ab)(t:TypeId)(k u:AV):Prop:=match sV P t with|some (kt,vt)=>bw P vt=true∧Maps.Keyed P kt∧imp gd (NG P kt k)∧(Dd σ kt u).isSome=true|none=>False
noncomputable def opV (P:Program)(gd:Option Bool)(A:aa):Op→AV
 | .move x=>(match gd with|none=>A.val x|some _=>unm (A.val x))
 | .assign x=>(match gd with|none=>A.val x|some _=>unm (A.val x))
 | .pick c x y=>lj (bl (unm (A.val c))) (unm (A.val x)) (unm (A.val y))
 | .binOp op t x y _=>ca P op t (unm (A.val x)) (unm (A.val y))
 | .unOp op _ x=>unV op (unm (A.val x))
 | .load _ x=>qT A.st (unm (A.val x))
 | .fieldAddr s x k=>qv P s k (unm (A.val x))
 | .field s x k=>fvV k (unm (A.val x))
 | .indexAddr t x ix=>dX P t (iv (unm (A.val ix))) (unm (A.val x))
 | .index _ x ix=>xc (iv (unm (A.val ix))) (unm (A.val x))
 | .extract x k=>oE k (unm (A.val x))
 | .nilCheck x=>unm (A.val x)
 | .convert _ d x=>fP P d (unm (A.val x))
 | .makeFunc (.func f) _ caps=>.fn f (ck A caps.toList)
 | .slice _ x lo hi _=>j4 A lo hi (unm (A.val x))
 | .build t ps=>.agg t (nB (dD A ps.toList) (c9 P t))
 | .buildSlice t _ ps=>.lit ((elT P t).getD 0) ((dD A ps.toList).map (·.2))
 | .box t x=>.loc t (unm (A.val x))
 | .lookup t x ix false=>FM P A.st t (unm (A.val ix)) (unm (A.val x))
 | .makeInterface t x=>.iface t (unm (A.val x))
 | .typeAssert x _ d ok=>jL P d ok (unm (A.val x))
 | .call c=>(match c.callee with| .builtin b=>gN b (ck A c.args.toList)|_=>.undef)
 |_=>.undef
def opC (P:Program)(gd:Option Bool)(A:aa):Op→Prop
 | .move x=>(match gd with|none=>True|some _=>okM gd (A.val x))
 | .assign x=>(match gd with|none=>True|some _=>okM gd (A.val x))
 | .pick c x y=>okM gd (A.val c)∧yV (unm (A.val c))∧gq gd (bl (unm (A.val c))) (A.val x)∧gq gd (!bl (unm (A.val c))) (A.val y)
 | .binOp op t x y _=>okM gd (A.val x)∧okM gd (A.val y)∧cj P op t (unm (A.val x)) (unm (A.val y))
 | .unOp op _ x=>okM gd (A.val x)∧unC op (unm (A.val x))
 | .load t x=>okM gd (A.val x)∧qS gd A.st t (unm (A.val x))
 | .fieldAddr s x k=>okM gd (A.val x)∧qm P s k (unm (A.val x))
 | .field s x k=>okM gd (A.val x)∧fvC P s k (unm (A.val x))
 | .indexAddr t x ix=>okM gd (A.val x)∧okM gd (A.val ix)∧isI (unm (A.val ix))∧dZ P gd A.st t (iv (unm (A.val ix))) (unm (A.val x))
 | .index t x ix=>okM gd (A.val x)∧okM gd (A.val ix)∧isI (unm (A.val ix))∧wy P gd t (iv (unm (A.val ix))) (unm (A.val x))
 | .extract x k=>okM gd (A.val x)∧oT k (unm (A.val x))
 | .nilCheck x=>okM gd (A.val x)∧(unm (A.val x)).gj=true
 | .convert s d x=>okM gd (A.val x)∧gR P s d (unm (A.val x))
 | .makeFunc (.func _) first caps=>first.toList=[]∧dT gd A caps.toList∧(ck A caps.toList).all AV.aX=true
 | .slice t x lo hi mx=>mx=none∧okM gd (A.val x)∧jh P gd A t lo hi (unm (A.val x))
 | .build t ps=>fw gd A ps.toList∧AN P t (dD A ps.toList)
 | .buildSlice t m ps=>fw gd A ps.toList∧eJ P t m (dD A ps.toList)
 | .box t x=>okM gd (A.val x)∧bq P t (unm (A.val x))=true
 | .lookup t x ix false=>okM gd (A.val x)∧okM gd (A.val ix)∧Hm P gd A.st t (unm (A.val ix)) (unm (A.val x))
 | .makeInterface t x=>okM gd (A.val x)∧l0 P t=true∧(unm (A.val x)).aX=true
 | .typeAssert x _ d ok=>okM gd (A.val x)∧mF P d ok (unm (A.val x))
 | .call c=>(match c.callee with| .builtin b=>dT gd A c.args.toList∧js P b c.argTypes.toList (ck A c.args.toList)|_=>False)
 |_=>False
section
variable {P :Program}{W0:World}{σ:ab}{n:Nat}{A:aa}{gd:Option Bool}{K:AV→Prop}
theorem aQ {x:AV}{k:AV→Prop}(h1:okM gd x)(h2:k (unm x)):strip gd x k:=by cases x<;>first|exact⟨h1,h2⟩|exact h2
theorem uJ {b:Bool}{x:AV}{k:AV→Prop}(h1:gq gd b x)(h2:k (unm x)):sZ gd b x k:=by cases x<;>first|exact⟨h1,h2⟩|exact h2
theorem fH : ∀{xs:List Operand} {k:List AV→Prop},dT gd A xs→k (ck A xs)→stripL gd (xs.map A.val) k
 |[],_,_,h=>h
 |_::_,_,h1,h2=>aQ h1.1 (fH h1.2 h2)
theorem kL : ∀{ps:List (Nat×Operand)} {k:List (Nat×AV)→Prop},fw gd A ps→k (dD A ps)→mC gd A ps k
 |[],_,_,h=>h
 |(_,_)::_,_,h1,h2=>aQ h1.1 (kL h1.2 h2)
theorem Aq {v:AV}(h:isI v): ∃k,v= .int k (iv v):=by cases v<;>first|exact⟨_,rfl⟩|exact h.elim
theorem JU {v:AV}(h:yV v):v= .bool (bl v):=by cases v<;>first|rfl|exact h.elim
theorem oF {x:Option Operand}{d:Nat}{k:Nat→Prop}(h1:uA gd A x)(h2:k (cY A d x)):ib gd A x d k:=by
 cases x with
 |none=>exact h2
 |some y=>
  obtain⟨h3,h4,h5⟩:=h1
  refine aQ h3 ?_
  obtain⟨kk,hk⟩:=Aq h4
  rw[hk]
  exact⟨h5,h2⟩
theorem sA {lo hi:Option Operand}{m:Nat}{k:Nat→Nat→Prop}(h:lu gd A lo hi m)(hk:k (cY A 0 lo) (cY A m hi)):ib gd A lo 0 λp=>ib gd A hi m λq=>imp gd (p≤q∧q≤m)∧k p q:=
 oF h.1 (oF h.2.1 ⟨h.2.2,hk⟩)
theorem JN {lo hi:Option Operand}{k:Nat→Nat→Prop}(h:uA gd A lo∧uA gd A hi∧imp gd (cY A 0 lo=0∧cY A 0 hi=0))(hk:k (cY A 0 lo) (cY A 0 hi)):ib gd A lo 0 λp=>ib gd A hi 0 λq=>imp gd (p=0∧q=0)∧k p q:=
 oF h.1 (oF h.2.1 ⟨h.2.2,hk⟩)
theorem Bq {t:TypeId}{u:AV}{lo hi:Option Operand}(h1:jh P gd A t lo hi u)(h2:K (j4 A lo hi u)):r6 P gd A t u lo hi K:=by
 unfold jh at h1
 split at h1
 ·exact⟨⟨h1.1,h1.2.1⟩,sA (k:=λp q=>K (.row _ _ (_+p) (q-p))) h1.2.2 h2⟩
 ·obtain⟨h3,h4,h5⟩:=h1
  obtain⟨e,he⟩:=Option.isSome_iff_exists.1 h3
  rw[he]at h4
  show(match elT P t with|some e=>0<af P e∧ib gd A lo 0 λp=>ib gd A hi 0 λq=>imp gd (p=0∧q=0)∧K .az|none=>False)
  rw[he]
  exact⟨h4,JN (k:=λ_ _=>K .az) h5 h2⟩
 ·exact⟨h1.1,sA (k:=λp q=>K (.str (gp _ p q))) h1.2 h2⟩
 ·exact⟨⟨h1.1,h1.2.1⟩,sA (k:=λp q=>K (.sl _ (gp _ p q))) h1.2.2 h2⟩
 ·exact⟨⟨h1.1,h1.2.1⟩,sA (k:=λp q=>K (.sl _ (gp _ p q))) h1.2.2 h2⟩
 ·exact⟨⟨h1.1,h1.2.1⟩,sA (k:=λp q=>K (.sl _ (gp _ p q))) h1.2.2 h2⟩
 ·exact h1.elim
theorem s7 {op:Op}(h1:opC P gd A op)(h2:K (opV P gd A op)):je P W0 gd op A K:=by
 cases op
 case move x=>cases gd<;>first|exact h2|exact aQ h1 h2
 case assign x=>cases gd<;>first|exact h2|exact aQ h1 h2
 case pick c x y=>
  obtain⟨g1,g2,g3,g4⟩:=h1
  refine aQ g1 ?_
  rw[JU g2]
  exact uJ g3 (uJ g4 h2)
 case binOp op t x y _=>
  obtain⟨g1,g2,g3⟩:=h1
  refine aQ g1 (aQ g2 ?_)
  obtain⟨z,hz⟩:=Option.isSome_iff_exists.1 g3
  simp only[opV,ca,hz,Option.getD_some]at h2
  simp only[Fy,hz]
  exact h2
 case unOp op _ x=>
  refine aQ h1.1 ?_
  have h3:=h1.2
  simp only[opV]at h2
  revert h2 h3
  generalize unm (A.val x)=u
  intro h2 h3
  cases op<;>cases u<;>first|exact h2|exact h3.elim
 case load t x=>
  refine aQ h1.1 ?_
  have h3:=h1.2
  simp only[opV]at h2
  revert h2 h3
  generalize unm (A.val x)=u
  intro h2 h3
  cases u<;>first|exact h3.elim|skip
  ·exact⟨h3,h2⟩
  ·simp only[qS]at h3
   refine⟨h3.1,?_⟩
   simp only[qT]at h2
   split
   ·rename_i z hz
    rw[hz]at h2
    exact h2
   ·rename_i hz
    rw[hz]at h2
    exact⟨h3.2.map (λh=>by rw[hz]at h;cases h),h2⟩
 case field s x k=>
  refine aQ h1.1 ?_
  have h3:=h1.2
  simp only[opV]at h2
  revert h2 h3
  generalize unm (A.val x)=u
  intro h2 h3
  cases u<;>first|exact h3.elim|skip
  simp only[fvC]at h3
  obtain⟨e1,e3,e4,e5,e6⟩:=h3
  obtain⟨ts,hts⟩:=Option.isSome_iff_exists.1 e4
  simp only[hts,Option.getD_some]at e5
  obtain⟨ty,hty⟩:=Option.isSome_iff_exists.1 e5
  obtain⟨y,hy⟩:=Option.isSome_iff_exists.1 e6
  simp only[fvV,hy,Option.getD_some]at h2
  simp only[Of,hts,hty,hy]
  exact⟨⟨e1,e3⟩,h2⟩
 case fieldAddr s x k=>
  refine aQ h1.1 ?_
  have h3:=h1.2
  simp only[opV]at h2
  revert h2 h3
  generalize unm (A.val x)=u
  intro h2 h3
  cases u<;>first|exact h3.elim|skip
  ·rename_i t v
   cases v<;>first|exact h3.elim|skip
   simp only[qm]at h3
   obtain⟨e1,e2,e3,e4,e5,e6⟩:=h3
   obtain⟨ts,hts⟩:=Option.isSome_iff_exists.1 e4
   simp only[hts,Option.getD_some]at e5
   obtain⟨ty,hty⟩:=Option.isSome_iff_exists.1 e5
   obtain⟨y,hy⟩:=Option.isSome_iff_exists.1 e6
   simp only[qv,hts,Option.getD_some,hty,hy]at h2
   simp only[oZ,hts,hty,hy]
   exact⟨⟨e1,e2,e3⟩,h2⟩
  ·simp only[qm]at h3
   obtain⟨e1,e3,e4,e5⟩:=h3
   obtain⟨ts,hts⟩:=Option.isSome_iff_exists.1 e4
   simp only[hts,Option.getD_some]at e5
   obtain⟨ty,hty⟩:=Option.isSome_iff_exists.1 e5
   simp only[qv,hts,Option.getD_some,hty]at h2
   simp only[oZ,hts,hty]
   exact⟨⟨e1,e3⟩,h2⟩
 case indexAddr t x ix=>
  obtain⟨g1,g2,g3,h3⟩:=h1
  refine aQ g1 (aQ g2 ?_)
  obtain⟨kk,hk⟩:=Aq g3
  rw[hk]
  simp only[opV]at h2
  revert h2 h3
  generalize unm (A.val x)=u
  intro h2 h3
  cases u<;>first|exact h3.elim|skip
  ·exact⟨⟨h3.1,h3.2.1⟩,h3.2.2,h2⟩
  ·exact⟨⟨h3.1,h3.2.1⟩,h3.2.2,h2⟩
  ·exact⟨⟨h3.1,h3.2.1⟩,h3.2.2,h2⟩
  ·exact⟨⟨h3.1,h3.2.1⟩,h3.2.2.1,h3.2.2.2,h2⟩
  ·rename_i t' v
   cases v<;>first|exact h3.elim|skip
   exact⟨⟨h3.1,h3.2.1,h3.2.2.1,h3.2.2.2.1⟩,h3.2.2.2.2,h2⟩
  ·obtain⟨e1,e2,e3,e4⟩:=h3
   obtain⟨ts,hts⟩:=Option.isSome_iff_exists.1 e3
   simp only[hts,Option.getD_some]at e4
   simp only[jM,hts]
   exact⟨⟨e1,e2⟩,e4,h2⟩
 case index t x ix=>
  obtain⟨g1,g2,g3,h3⟩:=h1
  refine aQ g1 (aQ g2 ?_)
  obtain⟨kk,hk⟩:=Aq g3
  rw[hk]
  simp only[opV]at h2
  revert h2 h3
  generalize unm (A.val x)=u
  intro h2 h3
  cases u<;>first|exact h3.elim|skip
  ·exact⟨h3.1,h3.2,h2⟩
  ·exact⟨⟨h3.1,h3.2.1,h3.2.2.1⟩,h3.2.2.2,h2⟩
 case extract x k=>
  refine aQ h1.1 ?_
  have h3:=h1.2
  simp only[opV]at h2
  revert h2 h3
  generalize unm (A.val x)=u
  intro h2 h3
  cases u<;>first|exact h3.elim|skip
  simp only[oT]at h3
  obtain⟨z,hz⟩:=Option.isSome_iff_exists.1 h3
  simp only[oE,hz,Option.getD_some]at h2
  simp only[qK,hz]
  exact h2
 case nilCheck x=>exact aQ h1.1 ⟨h1.2,h2⟩
 case makeInterface t x=>exact aQ h1.1 ⟨h1.2,h2⟩
 case typeAssert x xt d ok=>exact aQ h1.1 ⟨h1.2,h2⟩
 case convert s d x=>
  refine aQ h1.1 ?_
  have h3:=h1.2
  simp only[opV]at h2
  revert h2 h3
  generalize unm (A.val x)=u
  intro h2 h3
  cases u<;>first|exact h3.elim|skip
  ·simp only[gR]at h3
   obtain⟨z,hz⟩:=Option.isSome_iff_exists.1 h3.1
   cases hz':iQ P d with
   |some z'=>
    simp only[fP,hz']at h2
    simp only[mS,hz,hz']
    exact h2
   |none=>
    have h4:=h3.2
    simp only[hz',Option.isSome_none,Bool.false_or]at h4
    simp only[fP,hz']at h2
    simp only[mS,hz,hz']
    exact⟨h4,h2⟩
  all_goals exact⟨h3,h2⟩
 case makeFunc fn first caps=>
  cases fn<;>first|exact h1.elim|skip
  exact⟨h1.1,fH h1.2.1 ⟨h1.2.2,h2⟩⟩
 case slice t x lo hi mx=>exact⟨h1.1,aQ h1.2.1 (Bq h1.2.2 h2)⟩
 case build t ps=>
  refine kL h1.1 ?_
  obtain⟨g1,g2',g4⟩:=h1.2
  have⟨fs,g2⟩: ∃fs,zeroOf P t=some (.agg t fs):=by
   unfold dj at g2'
   split at g2'
   ·rename_i t' fs hz;simp only[beq_iff_eq]at g2';subst g2';exact⟨fs,hz⟩
   ·cases g2'
  obtain⟨ts,hts⟩:=Option.isSome_iff_exists.1 g1
  simp only[hts,Option.getD_some]at g4
  simp only[opV,c9,g2]at h2
  simp only[r8,hts,g2]
  exact⟨⟨trivial,g4⟩,h2⟩
 case buildSlice t m ps=>
  refine kL h1.1 ?_
  have h3:=h1.2
  unfold eJ at h3
  split at h3
  ·rename_i e he
   simp only[opV,he,Option.getD_some]at h2
   simp only[iM,he]
   exact⟨h3,h2⟩
  ·exact h3.elim
 case box t x=>exact aQ h1.1 ⟨h1.2,h2⟩
 case lookup t x ix c=>
  cases c
  case true=>exact h1.elim
  refine aQ h1.1 (aQ h1.2.1 ?_)
  have h3:=h1.2.2
  unfold Hm at h3
  simp only[opV,FM]at h2
  unfold BP
  split at h3
  ·rename_i kt vt ht
   rw[ht]at h2
   simp only at h2
   obtain⟨l,hl⟩:=Option.isSome_iff_exists.1 h3.2.2.2
   rw[hl]at h2
   simp only[ht,hl]
   exact⟨h3.1,h3.2.1,h3.2.2.1,h2⟩
  ·exact h3.elim
 case call c=>
  obtain⟨callee,args,argTypes⟩:=c
  cases callee<;>first|exact h1.elim|skip
  rename_i b
  refine fH h1.1 ?_
  have h3:=h1.2
  simp only[opV]at h2
  revert h2 h3
  generalize ck A args.toList=us
  intro h2 h3
  unfold js at h3
  unfold mT
  split at h3
  ·rename_i u
   split at h3
   ·rename_i t ht
    simp only at ht
    simp only[ht]
    simp only[gN]at h2
    cases u<;>first|exact h3.elim|exact⟨h3,λ_=>h2⟩
   ·exact h3.elim
  ·rename_i u
   split at h3
   ·rename_i t ht
    simp only at ht
    simp only[ht]
    simp only[gN]at h2
    cases u<;>first|exact h3.elim|exact⟨h3,h2⟩
   ·exact h3.elim
  ·exact⟨h3,h2⟩
  ·exact⟨h3,h2⟩
  ·exact h3.elim
 all_goals exact h1.elim
end
end Go.Av
end
section
namespace Go.Av
open Go
def qW (ops:Array Oper)(j:Nat):Option Nat:=(ops[j]?).bind (·.dst)
def cP (gd:Option Bool)(v:AV):AV:=match gd with|none=>v|some G=>.maybe G v
def gdV (want:Bool):AV→Bool| .bool b=>b==want| .maybe g (.bool b)=>g&&(b==want)|_=>false
def gdC :AV→Prop| .bool _=>True| .maybe _ (.bool _)=>True| .maybe g _=>g=false|_=>False
inductive Tag {α:Type}(x:α):Type|mk:Tag x
def aA (P:Program)(W0:World)(gd:Option Bool)(so:Option ab)(f:AV)(us:List AV)(dst:Option Nat)(A:aa)(k:aa→Prop)(_:Tag k):Prop:=jv P W0 gd so f us λr=>k (A.put dst (cP gd r))
def ak (P:Program)(W0:World)(f:AV)(us:List AV)(dst:Option Nat)(A:aa)(k:aa→Prop)(_:Tag k):Prop:=
 match f with
 | .fn g caps=>aY P W0 g (us++caps) A.st λr σ'=>k ((A.put dst r).an σ')
 |_=>False
def bM (P:Program)(ts:List TypeId)(us:List AV)(dst:Option Nat)(A:aa)(k:aa→Prop)(_:Tag k):Prop:=
 match us with
 |[x,y]=>(oq P A.st ts x y λv σ'=>k ((A.put dst v).an σ'))∨(jV P A.st ts x y λv σ'=>k ((A.put dst v).an σ'))∨(iR P A.st ts x y λv σ'=>k ((A.put dst v).an σ'))∨kE P A.st ts x y (λv σ'=>k ((A.put dst v).an σ'))∨pD P A.st ts x y (λv σ'=>k ((A.put dst v).an σ'))∨rh P A.st ts x y λv σ'=>k ((A.put dst v).an σ')
 |_=>False
def nG (P:Program)(ts:List TypeId)(us:List AV)(dst:Option Nat)(A:aa)(k:aa→Prop)(_:Tag k):Prop:=
 match us with
 |[x]=>rS P A.st ts x λσ'=>k ((A.put dst (.tup [])).an σ')
 |_=>False
def TR (P:Program)(t:TypeId)(u ix v:AV)(A:aa)(k:aa→Prop)(_:Tag k):Prop:=L6 P A.st t u ix v λσ'=>k (A.an σ')
def ovM (fz:List Nat):Option Nat→Bool|some d=>fz.contains (5000000+d)|none=>false
def F1 (P:Program)(A:aa)(t:TypeId)(lo hi mx:Option Operand)(u:AV):Prop:=False
def yE (A:aa)(lo hi mx:Option Operand):AV→AV
 | .row e id off m=>(match mx with|none=>.row e id (off+cY A 0 lo) (cY A m hi-cY A 0 lo)|some _=>.undef)
 |_=>.undef
theorem EH {P:Program}{A:aa}{t:TypeId}{lo hi mx:Option Operand}{u:AV}{K:AV→Prop}(h1:F1 P A t lo hi mx u)(h2:K (yE A lo hi mx u)):Fc P A t u lo hi mx K:=False.elim h1
def L3 (P:Program)(s d:TypeId)(u:AV)(dst:Option Nat)(A:aa)(k:aa→Prop)(_:Tag k):Prop:=Cv P A.st s d u λv σ'=>k ((A.put dst v).an σ')
def uI (P:Program)(t:TypeId)(u v:AV)(dst:Option Nat)(A:aa)(k:aa→Prop)(_:Tag k):Prop:=wk P A t u v λr σ'=>k ((A.put dst r).an σ')
def de (σ:ab)(id i:Nat)(path:List Nat)(v:AV):ab:=
 match σ[id]? with
 |some (some (.cells te xs))=>σ.set id (some (.cells te (xs.set i ((xs[i]?.getD .undef).setAt path v))))
 |_=>σ
def im (P:Program)(fz:List Nat)(t:TypeId)(x:Operand)(v:AV)(A:aa)(k:aa→Prop)(_:Tag k):AV→Prop
 | .ptr t' id i path=>t'=t∧bq P t v=true∧(look A.st id i path).isSome=true∧(match x with
  | .tmp d=>if fz.contains d then path=[]∧k ((A.upd d (.loc t v)).an (A.st.set id none))else k (A.an (de A.st id i path v))
  |_=>False)
 |_=>False
def zV (id:Nat)(dst:Option Nat)(A:aa)(k:aa→Prop):Option (Option cX)→Prop
 |some (some (.iter l pos))=>(pos<l.length→k ((A.put dst (.tup [.bool true,.int .i64 pos,.int .i32 (gu l pos).1])).an (A.st.set id (some (.iter l (pos+(gu l pos).2))))))∧(l.length≤pos→k (A.put dst (.tup [.bool false])))
 |_=>False
def tn (P:Program)(t:TypeId)(dst:Option Nat)(A:aa)(k:aa→Prop):AV→Prop
 | .str l=>cc P t=true∧k ((A.put dst (.it A.st.length)).an (A.st++[some (.iter l 0)]))
 |_=>False
def zt (dst:Option Nat)(A:aa)(k:aa→Prop):AV→Prop
 | .it id=>zV id dst A k A.st[id]?
 |_=>False
def vop (P:Program)(W0:World)(gd:Option Bool)(so:Option ab)(dst:Option Nat)(A:aa)(k:aa→Prop):Op→Prop
 | .call c=>(match c.callee with
  | .value f=>okM gd (A.val f)∧dT gd A c.args.toList∧aA P W0 gd so (unm (A.val f)) (ck A c.args.toList) dst A k .mk
  |_=>imp gd (opC P gd A (.call c))∧k (A.put dst (cP gd (opV P gd A (.call c)))))
 |op=>imp gd (opC P gd A op)∧k (A.put dst (cP gd (opV P gd A op)))
def op2 (P:Program)(W0:World)(fz:List Nat)(dst:Option Nat)(A:aa)(k:aa→Prop):Op→Prop
 | .call c=>(match c.callee with
  | .value f=>okM none (A.val f)∧dT none A c.args.toList∧ak P W0 (unm (A.val f)) (ck A c.args.toList) dst A k .mk
  | .builtin .append=>dT none A c.args.toList∧bM P c.argTypes.toList (ck A c.args.toList) dst A k .mk
  | .builtin .clear=>dT none A c.args.toList∧nG P c.argTypes.toList (ck A c.args.toList) dst A k .mk
  |_=>vop P W0 none (some A.st) dst A k (.call c))
 | .box t x=>(match dst with
  |some d=>if fz.contains d then vop P W0 none (some A.st) dst A k (.box t x)
   else okM none (A.val x)∧bq P t (unm (A.val x))=true∧k ((A.upd d (.ptr t A.st.length 0 [])).an (A.st++[some (.cells t [unm (A.val x)])]))
  |none=>False)
 | .alloc t=>(zeroOf P t).isSome=true∧k ((A.put dst (.ptr t A.st.length 0 [])).an (A.st++[some (.cells t [(zeroOf P t).getD .undef])]))
 | .makeSlice t x y=>okM none (A.val x)∧okM none (A.val y)∧uI P t (unm (A.val x)) (unm (A.val y)) dst A k .mk
 | .store t x y=>okM none (A.val x)∧okM none (A.val y)∧im P fz t x (unm (A.val y)) A (λA'=>k (A'.put dst .undef)) .mk (unm (A.val x))
 | .range t x=>okM none (A.val x)∧tn P t dst A k (unm (A.val x))
 | .next x true=>okM none (A.val x)∧zt dst A k (unm (A.val x))
 | .slice t x lo hi mx=>if ovM fz dst then okM none (A.val x)∧F1 P A t lo hi mx (unm (A.val x))∧k (A.put dst (yE A lo hi mx (unm (A.val x))))else vop P W0 none (some A.st) dst A k (.slice t x lo hi mx)
 | .convert s d x=>if ovM fz dst then okM none (A.val x)∧L3 P s d (unm (A.val x)) dst A k .mk else vop P W0 none (some A.st) dst A k (.convert s d x)
 | .buildSlice t m ps=>if ovM fz dst then fw none A ps.toList∧eJ P t m (dD A ps.toList)∧k ((A.put dst (.row ((elT P t).getD 0) A.st.length 0 m)).an (A.st++[some (.cells ((elT P t).getD 0) ((dD A ps.toList).map (·.2)))]))else vop P W0 none (some A.st) dst A k (.buildSlice t m ps)
 | .makeMap t none=>(sV P t).isSome=true∧k ((A.put dst (.mp A.st.length)).an (A.st++[some (.mp ((sV P t).getD (0,0)).1 [])]))
 | .mapUpdate t x ix y=>okM none (A.val x)∧okM none (A.val ix)∧okM none (A.val y)∧TR P t (unm (A.val x)) (unm (A.val ix)) (unm (A.val y)) A (λA'=>k (A'.put dst .undef)) .mk
 |op=>vop P W0 none (some A.st) dst A k op
def CU (fz:List Nat):List Oper→List Nat
 |[]=>[]
 |o::r=>(match o.op with
  | .load _ (.tmp d)=>if fz.contains (6000000+d)then [d]else []
  |_=>[])++CU fz r
def zx (fz:List Nat)(l:List Oper):List Nat:=if fz.all (λx=>decide (x<6000000))then []else CU fz l
def xA (A:aa)(d:Nat):aa:=match A.env d with
 | .ptr t id 0 []=>(match A.st[id]? with
  |some (some (.cells te [z]))=>if te=t then(A.upd d (.loc t z)).an (A.st.set id none)else A
  |_=>A)
 |_=>A
def lq :List Nat→aa→(aa→Prop)→Prop
 |[],A,k=>k A
 |d::r,A,k=>lq r (xA A d) k
def xZ (fz:List Nat)(id:Nat)(ops:Array Oper)(_:Tag ops):Prop:=zZ fz (eM fz id) ops (Cz [] ops.toList)=true
def owr (fz:List Nat)(dst:Option Nat)(op:Op):List Nat:=match op with
 | .load _ (.tmp d)=>if fz.contains (6000000+d)then d::dst.toList else dst.toList
 | .store _ (.tmp d) _=>if fz.contains d then d::dst.toList else dst.toList
 |_=>dst.toList
def lr (fz:List Nat):Code→List Nat
 | .region _ ops _=>ops.toList.flatMap λo=>owr fz o.dst o.op
 | .seq x y=>lr fz x++lr fz y
 | .cond _ x y=>lr fz x++lr fz y
 | .block _ c=>lr fz c
 | .loop c=>lr fz c
 |_=>[]
def cQ (ws:List Nat)(A B:aa):Prop:=∀ i,i∉ws→B.env i=A.env i
def ae (P:Program)(W0:World)(n:Nat)(fz:List Nat)(c:Code)(_:Tag c)(Q:Exit→aa→Prop)(_:Tag Q)(A:aa):Prop:=VC P W0 n (.loop c) (λe A'=>Q e A'∧cQ (lr fz c) A A') A
def gop (P:Program)(W0:World)(G:Bool)(dst:Option Nat)(A:aa)(k:aa→Prop):Op→Prop
 | .call c=>(match c.callee with
  | .value f=>okM (some G) (A.val f)∧dT (some G) A c.args.toList∧(G=true→ak P W0 (unm (A.val f)) (ck A c.args.toList) dst A k .mk)∧(G=false→ ∃v,k (A.put dst (.maybe false v)))
  | .builtin .append=>dT (some G) A c.args.toList∧(G=true→bM P c.argTypes.toList (ck A c.args.toList) dst A k .mk)∧(G=false→ ∃v,k (A.put dst (.maybe false v)))
  |_=>False)
 |_=>False
def iA (P:Program)(W0:World)(n:Nat)(fz:List Nat)(ops:Array Oper):List Oper→(aa→Prop)→aa→Prop
 |[],K,A=>K A
 |o::r,K,A=>iG n o.dst∧(match o.guard with
  |none=>op2 P W0 fz o.dst A (λA'=>iA P W0 n fz ops r K A') o.op
  |some (j,want)=>(match qW ops j with
   |some d=>gdC (A.env d)∧(if Ko fz o.dst then gop P W0 (gdV want (A.env d)) o.dst A (λA'=>iA P W0 n fz ops r K A') o.op else vop P W0 (some (gdV want (A.env d))) (some A.st) o.dst A (λA'=>iA P W0 n fz ops r K A') o.op)
   |none=>False))
def tI :AV→Bool| .loc _ _=>true|_=>false
def tu (fz:List Nat)(A:aa):Operand→Prop
 | .tmp d=>(fz.contains d||fz.contains (6000000+d))=true→tI (unm (A.env d))=true
 |_=>True
def dop (P:Program)(W0:World)(fz:List Nat)(gd:Option Bool)(dst:Option Nat)(A:aa)(k:aa→Prop):Op→Prop
 | .store t x y=>gd=none∧okM none (A.val x)∧okM none (A.val y)∧im P [] t x (unm (A.val y)) A (λA'=>k (A'.put dst .undef)) .mk (unm (A.val x))
 | .load t x=>tu fz A x∧vop P W0 gd none dst A k (.load t x)
 | .call c=>vop P W0 gd (if rdM fz dst then some A.st else none) dst A k (.call c)
 |op=>vop P W0 gd none dst A k op
def cO (P:Program)(W0:World)(n:Nat)(fz:List Nat)(id:Nat)(ops:Array Oper):List Oper→(aa→Prop)→aa→Prop
 |[],K,A=>K A
 |o::r,K,A=>if eM fz id o then cO P W0 n fz id ops r K A else iG n o.dst∧(match o.guard with
  |none=>dop P W0 fz none o.dst A (λA'=>cO P W0 n fz id ops r K A') o.op
  |some (j,want)=>(match qW ops j with
   |some d=>gdC (A.env d)∧dop P W0 fz (some (gdV want (A.env d))) o.dst A (λA'=>cO P W0 n fz id ops r K A') o.op
   |none=>False))
def E7 (fz:List Nat):Operand→Prop
 | .tmp d=>fz.contains d=false
 |_=>True
def eop (P:Program)(W0:World)(fz:List Nat)(dst:Option Nat)(A:aa)(k:aa→Prop):Op→Prop
 | .store t x y=>E7 fz x∧okM none (A.val x)∧okM none (A.val y)∧im P fz t x (unm (A.val y)) A (λA'=>k (A'.put dst .undef)) .mk (unm (A.val x))
 |op=>op2 P W0 fz dst A k op
def kd (P:Program)(W0:World)(n:Nat)(fz:List Nat)(id:Nat):List Oper→(aa→Prop)→aa→Prop
 |[],K,A=>K A
 |o::r,K,A=>if eM fz id o then iG n o.dst∧eop P W0 fz o.dst A (λA'=>kd P W0 n fz id r K A') o.op else kd P W0 n fz id r K A
def lR (P:Program)(W0:World)(n:Nat)(fz:List Nat)(id:Nat)(l:List Oper)(K:aa→Prop)(A:aa):Prop:=
 if fz.all (λx=>decide (x<2000000))then K A else kd P W0 n fz id l K A
def cVC (P:Program)(W0:World)(n:Nat)(fz:List Nat):Code→(Exit→aa→Prop)→aa→Prop
 | .skip,Q,A=>Q .normal A
 | .ret,Q,A=>Q .ret A
 | .exit id,Q,A=>Q (.exit id) A
 | .seq x y,Q,A=>cVC P W0 n fz x (bU (cVC P W0 n fz y Q) Q) A
 | .cond c x y,Q,A=>okM none (A.val c)∧yV (unm (A.val c))∧(bl (unm (A.val c))=true→cVC P W0 n fz x Q A)∧(bl (unm (A.val c))=false→cVC P W0 n fz y Q A)
 | .block id c,Q,A=>cVC P W0 n fz c (dC id Q) A
 | .region id ops true,Q,A=>P.follows .mixedOrders=true∧xZ fz id ops .mk∧lq (zx fz ops.toList) A (cO P W0 n fz id ops ops.toList (λB=>lR P W0 n fz id ops.toList (Q .normal) B))
 | .region _ ops false,Q,A=>iA P W0 n fz ops ops.toList (Q .normal) A
 | .loop c,Q,A=>ae P W0 n fz c .mk Q .mk A
 |_,_,_=>False
def gr :Code→Bool
 | .ret=>true
 | .exit _=>true
 | .seq x y=>gr x||gr y
 | .cond _ x y=>gr x&&gr y
 |_=>false
def cB (P:Program)(W0:World)(n:Nat)(fz:List Nat)(b:Bool)(x:Code)(_:Tag x)(y:Code)(_:Tag y)(z:Code)(_:Tag z)(Q:Exit→aa→Prop)(_:Tag Q)(A:aa):Prop:=
 (b=true→cVC P W0 n fz x (bU (cVC P W0 n fz z Q) Q) A)∧(b=false→cVC P W0 n fz y (bU (cVC P W0 n fz z Q) Q) A)
section
variable {P :Program}{W0:World}{σ:ab}{n:Nat}{A:aa}{gd:Option Bool}{fz:List Nat}
theorem tV {dst:Option Nat}{k:aa→Prop}{op:Op}(hg: ∀p:Prop,imp gd p→p)(h:vop P W0 gd (some A.st) dst A k op):je P W0 gd op A λv=>k (A.put dst (cP gd v)):=by
 unfold vop at h
 split at h
 ·rename_i c
  obtain⟨callee,args,argTypes⟩:=c
  split at h
  ·rename_i f hf
   simp only at hf
   subst hf
   exact aQ h.1 (fH h.2.1 h.2.2)
  ·exact s7 (hg _ h.1) h.2
 ·exact s7 (hg _ h.1) h.2
theorem kj {dst:Option Nat}{k:aa→Prop}{op:Op}(h:vop P W0 none (some A.st) dst A k op):je P W0 none op A λv=>k (A.put dst v):=tV (gd:=none) (λ_ h=>h) h
theorem Dk {so:Option ab}{dst:Option Nat}{k:aa→Prop}{op:Op}(h:vop P W0 gd so dst A k op): ∃v,k (A.put dst (cP gd v)):=by
 unfold vop at h
 split at h
 ·split at h
  ·have h3:=h.2.2
   unfold aA jv at h3
   split at h3
   ·obtain⟨r,_,h5⟩:=h3
    exact⟨r,h5⟩
   ·exact h3.elim
  ·exact⟨_,h.2⟩
 ·exact⟨_,h.2⟩
theorem wB {t:TypeId}{x:Operand}{u v:AV}{k:aa→Prop}(h:im P fz t x v A k .mk u):lf P fz A t x u v k:=by
 unfold im at h
 split at h
 ·rename_i t' id i path
  obtain⟨h1,h2,h3,h4⟩:=h
  unfold lf
  refine⟨⟨h1,h2⟩,?_⟩
  obtain⟨z,hz⟩:=Option.isSome_iff_exists.1 h3
  unfold look at hz
  split at hz
  ·rename_i te xs hs
   try rw[hs]
   try simp only
   cases hx:xs[i]? with
   |none=>rw[hx]at hz;cases hz
   |some y=>
    rw[hx]at hz
    simp only[Option.bind_some]at hz
    simp only[hz]
    cases x with
    |tmp d=>
     simp only at h4 ⊢
     split at h4
     ·rename_i hc;rw[if_pos hc];exact h4
     ·rename_i hc
      rw[if_neg hc]
      simpa only[de,hs,hx,Option.getD_some]using h4
    |_=>exact h4
  ·cases hz
 ·exact h.elim
theorem km {o:Oper}{k:aa→Prop}(hd:iG n o.dst)(h:op2 P W0 fz o.dst A k o.op):uB P W0 n fz o A k:=by
 refine⟨hd,?_⟩
 unfold op2 at h
 split at h
 ·rename_i c hc
  rw[hc]
  obtain⟨callee,args,argTypes⟩:=c
  simp only at h ⊢
  split at h
  ·rename_i f
   refine aQ h.1 (fH h.2.1 ?_)
   have h3:=h.2.2
   unfold ak at h3
   split at h3
   ·rename_i g caps he
    rw[he]
    exact h3
   ·exact h3.elim
  ·refine fH h.1 ?_
   have h3:=h.2
   unfold bM at h3
   split at h3
   ·rename_i x y he
    rw[he]
    exact h3
   ·exact h3.elim
  ·refine fH h.1 ?_
   have h3:=h.2
   unfold nG at h3
   split at h3
   ·rename_i x he
    rw[he]
    exact h3
   ·exact h3.elim
  ·have h3:=kj (W0:=W0) h
   rename_i hne1 hne2 hne3
   split
   ·exact absurd rfl (hne1 _)
   ·exact absurd rfl hne2
   ·exact absurd rfl hne3
   ·exact h3
 ·rename_i t x hop
  rw[hop]
  simp only
  split at h
  ·rename_i d hdst
   rw[hdst]
   simp only
   split at h
   ·rename_i hc
    rw[if_pos hc]
    have h2:=h.2
    rw[hdst]at h2
    exact aQ h.1.1 ⟨h.1.2,h2⟩
   ·rename_i hc
    rw[if_neg hc]
    exact aQ h.1 ⟨h.2.1,h.2.2⟩
  ·exact h.elim
 ·rename_i t hop
  rw[hop]
  simp only
  obtain⟨v,hv⟩:=Option.isSome_iff_exists.1 h.1
  have h2:=h.2
  rw[hv]at h2 ⊢
  exact h2
 ·rename_i t x y hop
  rw[hop]
  simp only
  exact aQ h.1 (aQ h.2.1 h.2.2)
 ·rename_i t x y hop
  rw[hop]
  simp only
  exact aQ h.1 (aQ h.2.1 (wB h.2.2))
 ·rename_i t x hop
  rw[hop]
  simp only
  have h2:=h.2
  unfold tn at h2
  split at h2
  ·rename_i l he
   exact⟨h2.1,aQ h.1 (by rw[he];exact h2.2)⟩
  ·exact h2.elim
 ·rename_i x hop
  rw[hop]
  simp only
  have h2:=h.2
  unfold zt at h2
  split at h2
  ·rename_i id he
   refine aQ h.1 ?_
   rw[he]
   simp only
   unfold zV at h2
   split at h2
   ·rename_i l pos hs
    rw[hs]
    exact h2
   ·exact h2.elim
  ·exact h2.elim
 ·rename_i t x lo hi mx hop
  rw[hop]
  simp only
  split at h
  ·exact .inr (aQ h.1 (EH h.2.1 h.2.2))
  ·exact .inl (kj (W0:=W0) h)
 ·rename_i s d x hop
  rw[hop]
  simp only
  split at h
  ·exact .inr (aQ h.1 h.2)
  ·exact .inl (kj (W0:=W0) h)
 ·rename_i t m ps hop
  rw[hop]
  simp only
  split at h
  ·refine .inr (kL h.1 ?_)
   obtain⟨_,h2,h3⟩:=h
   unfold eJ at h2
   unfold nQ
   split at h2
   ·rename_i e he
    simp only[he,Option.getD_some]at h3 ⊢
    exact⟨h2,h3⟩
   ·exact h2.elim
  ·exact .inl (kj (W0:=W0) h)
 ·rename_i t hop
  rw[hop]
  simp only
  obtain⟨⟨kt,vt⟩,hv⟩:=Option.isSome_iff_exists.1 h.1
  have h2:=h.2
  rw[hv]at h2 ⊢
  exact h2
 ·rename_i t x ix y hop
  rw[hop]
  simp only
  refine aQ h.1 (aQ h.2.1 (aQ h.2.2.1 ?_))
  have h2:=h.2.2.2
  exact False.elim h2
 ·rename_i h1 h2 h3 h8 h4 h6 h7 h9 h12 h13 h10 h11
  have h5:=kj (W0:=W0) h
  split
  ·rename_i c hc;exact absurd hc (h1 c)
  ·rename_i t x hc;exact absurd hc (h2 t x)
  ·rename_i t hc;exact absurd hc (h3 t)
  ·rename_i t x y hc;exact absurd hc (h8 t x y)
  ·rename_i t x y hc;exact absurd hc (h4 t x y)
  ·rename_i t x hc;exact absurd hc (h6 t x)
  ·rename_i x hc;exact absurd hc (h7 x)
  ·rename_i t x lo hi mx hc;exact absurd hc (h9 t x lo hi mx)
  ·rename_i s d x hc;exact absurd hc (h12 s d x)
  ·rename_i t m ps hc;exact absurd hc (h13 t m ps)
  ·rename_i t hc;exact absurd hc (h10 t)
  ·rename_i t x ix y hc;exact absurd hc (h11 t x ix y)
  ·exact h5
theorem GX {ops:Array Oper}{j d:Nat}{want:Bool}(hj:qW ops j=some d)(hc:gdC (A.env d)):yG ops A j want=some (gdV want (A.env d)):=by
 unfold qW at hj
 unfold yG
 rw[hj]
 simp only
 revert hc
 generalize A.env d=u
 intro hc
 cases u<;>first|rfl|skip
 all_goals first|exact hc.elim|skip
 rename_i g v
 cases v<;>first|rfl|(cases g<;>first|rfl|(cases hc))
theorem cQ.refl (ws:List Nat)(A:aa):cQ ws A A:=λ_ _=>rfl
theorem cQ.trans {ws vs:List Nat}{A B C:aa}(h:cQ ws A B)(k:cQ vs B C):cQ (ws++vs) A C:=λi hi=>(k i (λe=>hi (List.mem_append_right _ e))).trans (h i (λe=>hi (List.mem_append_left _ e)))
theorem cQ.mono {ws vs:List Nat}{A B:aa}(h:cQ ws A B)(hs: ∀i∈ws,i∈vs):cQ vs A B:=λi hi=>h i λe=>hi (hs i e)
theorem bA (A:aa)(dst:Option Nat)(v:AV):cQ dst.toList A (A.put dst v):=λi hi=>by
 cases dst with
 |none=>rfl
 |some d=>exact A.tP v (λe=>hi (by simp[e]))
theorem db {ws:List Nat}{A B:aa}(h:cQ ws A B)(σ:ab):cQ ws A (B.an σ):=h
theorem dy {so:Option ab}{dst:Option Nat}{k k':aa→Prop}{op:Op}(hk: ∀A',cQ dst.toList A A'→k A'→k' A')(h:vop P W0 gd so dst A k op):vop P W0 gd so dst A k' op:=by
 cases op
 case call c=>
  obtain⟨callee,args,argTypes⟩:=c
  cases callee
  case value f=>
   obtain⟨h1,h2,h3⟩:=h
   refine⟨h1,h2,?_⟩
   unfold aA jv at h3 ⊢
   split at h3
   ·obtain⟨r,h4,h5⟩:=h3
    exact⟨r,h4,hk _ (bA _ _ _) h5⟩
   ·exact h3.elim
  all_goals exact⟨h.1,hk _ (bA _ _ _) h.2⟩
 all_goals exact⟨h.1,hk _ (bA _ _ _) h.2⟩
theorem rV {dst:Option Nat}{op:Op}{i:Nat}(hi:i∈dst.toList):i∈owr fz dst op:=by
 unfold owr
 split
 ·split
  ·exact List.mem_cons_of_mem _ hi
  ·exact hi
 ·split
  ·exact List.mem_cons_of_mem _ hi
  ·exact hi
 ·exact hi
theorem ka {dst:Option Nat}{k k':aa→Prop}{op:Op}(hk: ∀A',cQ (owr fz dst op) A A'→k A'→k' A')(h:op2 P W0 fz dst A k op):op2 P W0 fz dst A k' op:=by
 cases op
 case call c=>
  obtain⟨callee,args,argTypes⟩:=c
  cases callee
  case value f=>
   obtain⟨h1,h2,h3⟩:=h
   refine⟨h1,h2,?_⟩
   unfold ak at h3 ⊢
   split at h3
   ·exact h3.mono λ_ _=>hk _ (db (bA _ _ _) _)
   ·exact h3.elim
  case builtin b=>
   cases b
   case append=>
    refine⟨h.1,?_⟩
    have h3:=h.2
    unfold bM at h3 ⊢
    split at h3
    ·rcases h3 with h3|h3|h3|h3|h3|h3
     ·left
      unfold oq at h3 ⊢
      split at h3
      ·obtain⟨e,xs,ys,g1,g2,g3,g4,g5,g6⟩:=h3
       exact⟨e,xs,ys,g1,g2,g3,g4,g5,λv σ' hv=>hk _ (db (bA _ _ _) _) (g6 v σ' hv)⟩
      ·exact h3.elim
     ·right;left
      unfold jV at h3 ⊢
      split at h3
      ·obtain⟨e,xs,ys,g1,g2,g3,g4,g5,g6,g7⟩:=h3
       exact⟨e,xs,ys,g1,g2,g3,g4,g5,λhe=>hk _ (db (bA _ _ _) _) (g6 he),λhe=>hk _ (db (bA _ _ _) _) (g7 he)⟩
      ·exact h3.elim
     ·right;right;left
      unfold iR at h3 ⊢
      split at h3
      ·obtain⟨e,m,z,k,kn,g1,g2,g3,g4,g5,g6⟩:=h3
       exact⟨e,m,z,k,kn,g1,g2,g3,g4,g5,hk _ (db (bA _ _ _) _) g6⟩
      ·exact h3.elim
     ·right;right;right;left
      unfold kE at h3 ⊢
      split at h3
      ·obtain⟨e,id,off,m,zs,ys,g1,g2,g3,g4,g5,g6⟩:=h3
       exact⟨e,id,off,m,zs,ys,g1,g2,g3,g4,g5,hk _ (db (bA _ _ _) _) g6⟩
      ·exact h3.elim
     ·right;right;right;right;left
      exact False.elim h3
     ·right;right;right;right;right
      exact False.elim h3
    ·exact h3.elim
   case clear=>
    refine⟨h.1,?_⟩
    have h3:=h.2
    unfold nG at h3 ⊢
    split at h3
    ·unfold rS at h3 ⊢
     split at h3
     ·obtain⟨e,id,off,m,zs,v,g1,g2,g3,g4,g5⟩:=h3
      exact⟨e,id,off,m,zs,v,g1,g2,g3,g4,hk _ (db (bA _ _ _) _) g5⟩
     ·exact h3.elim
    ·exact h3.elim
   all_goals (simp only[op2]at h ⊢;exact dy hk h)
  all_goals (simp only[op2]at h ⊢;exact dy hk h)
 case box t x=>
  simp only[op2]at h ⊢
  split at h
  ·split at h
   ·rename_i hc;rw[if_pos hc];exact dy hk h
   ·rename_i hc;rw[if_neg hc];exact⟨h.1,h.2.1,hk _ (db (bA A (some _) _) _) h.2.2⟩
  ·exact h.elim
 case alloc t=>exact⟨h.1,hk _ (db (bA _ _ _) _) h.2⟩
 case convert s d x=>
  simp only[op2]at h ⊢
  split at h
  ·rename_i hc
   rw[if_pos hc]
   refine⟨h.1,?_⟩
   exact False.elim h.2
  ·rename_i hc
   rw[if_neg hc]
   exact dy hk h
 case buildSlice t m ps=>
  simp only[op2]at h ⊢
  split at h
  ·rename_i hc
   rw[if_pos hc]
   exact⟨h.1,h.2.1,hk _ (db (bA _ _ _) _) h.2.2⟩
  ·rename_i hc
   rw[if_neg hc]
   exact dy hk h
 case makeSlice t x y=>
  refine⟨h.1,h.2.1,?_⟩
  have h3:=h.2.2
  unfold uI wk at h3 ⊢
  split at h3
  ·refine⟨h3.1,?_⟩
   have h4:=h3.2
   split at h4
   ·split at h4
    ·obtain⟨g1,g2,g3,g4,g5⟩:=h4
     exact⟨g1,g2,g3,g4,hk _ (db (bA _ _ _) _) g5⟩
    ·exact h4.elim
   ·exact h4.elim
  ·exact h3.elim
 case store t x y=>
  refine⟨h.1,h.2.1,?_⟩
  have h3:=h.2.2
  revert h3
  generalize unm (A.val x)=u
  intro h3
  unfold im at h3 ⊢
  split at h3
  ·obtain⟨g1,g2,g3,g4⟩:=h3
   refine⟨g1,g2,g3,?_⟩
   split at g4
   ·simp only
    split at g4
    ·rename_i hc
     rw[if_pos hc]
     refine⟨g4.1,hk _ (λi hi=>?_) g4.2⟩
     simp only[owr,hc,if_true]at hi
     exact(bA _ dst .undef i (λe=>hi (by simp[e]))).trans (A.tP _ (λe=>hi (by simp[e])))
    ·rename_i hc
     rw[if_neg hc]
     refine hk _ (λi hi=>?_) g4
     simp only[owr,hc,Bool.false_eq_true,if_false]at hi
     exact bA (A.an _) dst .undef i hi
   ·exact g4.elim
  ·exact h3.elim
 case range t x=>
  refine⟨h.1,?_⟩
  have h2:=h.2
  unfold tn at h2 ⊢
  split at h2
  ·exact⟨h2.1,hk _ (db (bA _ _ _) _) h2.2⟩
  ·exact h2.elim
 case next x b=>
  cases b
  ·simp only[op2]at h ⊢;exact dy hk h
  ·refine⟨h.1,?_⟩
   have h2:=h.2
   unfold zt at h2 ⊢
   split at h2
   ·unfold zV at h2 ⊢
    split at h2
    ·exact⟨λhp=>hk _ (db (bA _ _ _) _) (h2.1 hp),λhp=>hk _ (bA _ _ _) (h2.2 hp)⟩
    ·exact h2.elim
   ·exact h2.elim
 case slice t x lo hi mx=>
  simp only[op2]at h ⊢
  split at h
  ·rename_i hc;rw[if_pos hc];exact⟨h.1,h.2.1,hk _ (bA _ _ _) h.2.2⟩
  ·rename_i hc;rw[if_neg hc];exact dy hk h
 case makeMap t r=>
  cases r
  ·exact⟨h.1,hk _ (db (bA _ _ _) _) h.2⟩
  ·simp only[op2]at h ⊢;exact dy hk h
 case mapUpdate t x ix y=>
  refine⟨h.1,h.2.1,h.2.2.1,?_⟩
  have h3:=h.2.2.2
  exact False.elim h3
 all_goals (simp only[op2]at h ⊢;exact dy (λA' ha=>hk A' (ha.mono λi hi=>rV hi)) h)
theorem Fj {g:Bool}{v:AV}(hg:g=true)(h:okM (some g) v):okM none v:=by
 cases v<;>first|trivial|exact h hg
theorem pk {g:Bool}(hg:g=true): ∀{l:List Operand},dT (some g) A l→dT none A l
 |[],_=>trivial
 |_::_,h=>⟨Fj hg h.1,pk hg h.2⟩
theorem Ec {G:Bool}{o:Oper}{k:aa→Prop}(hd:iG n o.dst)(h:gop P W0 G o.dst A k o.op):(G=true→uB P W0 n fz o A k)∧(G=false→ ∃v,k (A.put o.dst (.maybe false v))):=by
 unfold gop at h
 split at h
 ·rename_i c hc
  obtain⟨callee,args,argTypes⟩:=c
  simp only at h
  split at h
  ·rename_i f
   refine⟨λhG=>km (P:=P) (W0:=W0) (fz:=fz) hd ?_,h.2.2.2⟩
   rw[hc]
   exact⟨Fj hG h.1,pk hG h.2.1,h.2.2.1 hG⟩
  ·refine⟨λhG=>km (P:=P) (W0:=W0) (fz:=fz) hd ?_,h.2.2⟩
   rw[hc]
   exact⟨pk hG h.1,h.2.1 hG⟩
  ·exact h.elim
 ·exact h.elim
theorem xL {G:Bool}{dst:Option Nat}{k k':aa→Prop}{op:Op}(hk: ∀A',cQ dst.toList A A'→k A'→k' A')(h:gop P W0 G dst A k op):gop P W0 G dst A k' op:=by
 unfold gop at h ⊢
 split at h
 ·rename_i c
  split at h
  ·rename_i f hf
   refine⟨h.1,h.2.1,λhG=>?_,λhG=>(h.2.2.2 hG).imp λ_=>hk _ (bA _ _ _)⟩
   have h3:=h.2.2.1 hG
   unfold ak at h3 ⊢
   split at h3
   ·exact h3.mono λ_ _=>hk _ (db (bA _ _ _) _)
   ·exact h3.elim
  ·refine⟨h.1,λhG=>?_,λhG=>(h.2.2 hG).imp λ_=>hk _ (bA _ _ _)⟩
   exact(ka (P:=P) (W0:=W0) (fz:=[]) (op:=.call ⟨.builtin .append,c.args,c.argTypes⟩) (λA' ha=>hk A' ha) ⟨pk hG h.1,h.2.1 hG⟩).2
  ·exact h.elim
 ·exact h.elim
theorem kK {ops:Array Oper}: ∀(l:List Oper) (K:aa→Prop) (A:aa),iA P W0 n fz ops l K A→pI P W0 n fz ops l K A
 |[],_,_,h=>h
 |o::r,K,A,h=>by
  simp only[iA]at h
  obtain⟨hd,h⟩:=h
  simp only[pI]
  have ih:=kK (ops:=ops) r K
  split at h
  ·rename_i hg
   simp only[hg]
   exact km hd (ka (λA' _=>ih A') h)
  ·rename_i j want hg
   simp only[hg]
   split at h
   ·rename_i d hj
    rw[GX hj h.1]
    refine⟨hd,?_⟩
    have h2:=h.2
    split at h2
    ·exact .inr (Ec hd (xL (λA' _=>ih A') h2))
    ·have h3:=dy (λA' _=>ih A') h2
     revert h3
     generalize gdV want (A.env d)=G
     intro h3
     cases G with
     |true=>exact .inl (tV (gd:=some true) (λ_ h=>h rfl) h3)
     |false=>exact .inr ⟨λe=>(Bool.false_ne_true e).elim,λ_=>Dk h3⟩
   ·exact h.elim
theorem pC (σ:ab): ∀l:List Operand,dT gd (A.an σ) l=dT gd A l
 |[]=>rfl
 |x::r=>by rw[dT,dT,pC σ r];rfl
theorem nf (σ:ab): ∀l:List Operand,ck (A.an σ) l=ck A l
 |[]=>rfl
 |x::r=>by rw[ck,ck,nf σ r];rfl
theorem pW (σ:ab): ∀l:List (Nat×Operand),fw gd (A.an σ) l=fw gd A l
 |[]=>rfl
 |(_,x)::r=>by rw[fw,fw,pW σ r];rfl
theorem qw (σ:ab): ∀l:List (Nat×Operand),dD (A.an σ) l=dD A l
 |[]=>rfl
 |(_,x)::r=>by rw[dD,dD,qw σ r];rfl
theorem OH {dst:Option Nat}{op:Op}(h:isR fz dst op=false)(hl: ∀t x,op= .load t x→tu fz A x)(σ:ab):opC P gd (A.an σ) op=opC P gd A op∧opV P gd (A.an σ) op=opV P gd A op:=by
 cases op<;>first|exact⟨rfl,rfl⟩|(simp[isR]at h;done)|skip
 ·simp only[opC,opV,pW,qw,and_self]
 ·simp only[opC,opV,pW,qw,and_self]
 ·rename_i t x
  have h2:=hl t x rfl
  cases x<;>first|(simp[isR]at h;done)|skip
  rename_i d
  simp only[isR,Bool.not_eq_false']at h
  have h3:tI (unm (A.val (.tmp d)))=true:=h2 h
  have hv:(A.an σ).val (.tmp d)=A.val (.tmp d):=rfl
  simp only[opC,opV,hv]
  revert h3
  generalize unm (A.val (.tmp d))=u
  intro h3
  cases u<;>first|(simp[tI]at h3;done)|exact⟨rfl,rfl⟩
 ·rename_i fn first caps;cases fn<;>simp only[opC,opV,pC,nf,and_self]
 ·rename_i c;obtain⟨callee,args,ts⟩:=c;cases callee<;>simp only[opC,opV,pC,nf,and_self]
theorem JW {σ:ab}{id i:Nat}{path:List Nat}(h:(look σ id i path).isSome=true)(τ:ab):look (σ++τ) id i path=look σ id i path:=by
 unfold look at h ⊢
 by_cases hl:id<σ.length
 ·rw[List.getElem?_append_left hl]
 ·rw[List.getElem?_eq_none (by omega)]at h
  cases h
theorem NC {op:Op}(h:opC P gd A op)(hz:isZ op=true)(hg: ∀g,gd=some g→g=true)(τ:ab):opC P gd (A.an (A.st++τ)) op∧opV P gd (A.an (A.st++τ)) op=opV P gd A op:=by
 cases op<;>first|(simp[isZ]at hz;done)|skip
 rename_i t x
 have hv:(A.an (A.st++τ)).val x=A.val x:=by cases x<;>rfl
 have hst:(A.an (A.st++τ)).st=A.st++τ:=rfl
 simp only[opC,opV,hv,hst]at h ⊢
 obtain⟨h1,h2⟩:=h
 revert h2
 generalize unm (A.val x)=u
 intro h2
 cases u<;>first|exact h2.elim|exact⟨⟨h1,h2⟩,rfl⟩|skip
 rename_i t' id i path
 obtain⟨e,h3⟩:=h2
 have h4:(look A.st id i path).isSome=true:=by
  cases gd with
  |none=>exact h3
  |some g=>exact h3 (hg g rfl)
 have h5:=JW h4 τ
 refine⟨⟨h1,e,?_⟩,?_⟩
 ·rw[h5];exact h3
 ·show(look (A.st++τ) id i path).getD .undef=_
  rw[h5];rfl
theorem sn {o:Oper}(hl: ∀t x,o.op= .load t x→tu fz A x)(h:opC P gd A o.op):imp gd (iy P W0 fz o A (opV P gd A o.op)):=by
 have key: ∀A':aa,opC P gd A' o.op→imp gd (dd P W0 o A' (opV P gd A' o.op)):=λA' h'=>by
  have hv:je P W0 gd o.op A' (· =opV P gd A' o.op):=s7 h' rfl
  cases gd with
  |none=>
   intro w C a hr
   obtain⟨v,rfl,hp⟩:=fE hr hv
   exact hp w C a hr
  |some g=>
   intro hg w C a hr
   obtain⟨v,rfl,hp⟩:=fE hr hv
   exact hp hg w C a hr
 have k2:isR fz o.dst o.op=false→ ∀σ,imp gd (dd P W0 o (A.an σ) (opV P gd A o.op)):=λhR σ=>by
  obtain⟨e1,e2⟩:=OH (P:=P) (gd:=gd) (A:=A) hR hl σ
  have:=key (A.an σ) (by rw[e1];exact h)
  rwa [e2]at this
 have k3:isZ o.op=true→(∀g,gd=some g→g=true)→ ∀τ,opC P gd (A.an (A.st++τ)) o.op∧opV P gd (A.an (A.st++τ)) o.op=opV P gd A o.op:=λhz hg τ=>NC h hz hg τ
 cases gd with
 |none=>exact⟨key A h,k2,λhz τ=>by
   obtain⟨g1,g2⟩:=k3 hz (λg e=>by cases e) τ
   have:=key _ g1
   rw[g2]at this
   exact this⟩
 |some g=>exact λhg=>⟨key A h hg,λhR σ=>k2 hR σ hg,λhz τ=>by
   obtain⟨g1,g2⟩:=k3 hz (λg' e=>by cases e;exact hg) τ
   have:=key _ g1
   rw[g2]at this
   exact this hg⟩
theorem Dw {o:Oper}(hl: ∀t x,o.op= .load t x→tu fz A x)(h:imp gd (opC P gd A o.op)):imp gd (iy P W0 fz o A (opV P gd A o.op)):=by
 cases gd with
 |none=>exact sn hl h
 |some g=>exact λhg=>sn (gd:=some g) hl (h hg) hg
theorem zy {o:Oper}{so:Option ab}{f:Operand}{args:Array Operand}{argTypes:Array TypeId}{r:AV}(ho:o.op= .call ⟨.value f,args,argTypes⟩)(hso:so=none∨(so=some A.st∧rdM fz o.dst=true))(h1:okM gd (A.val f))(h2:dT gd A args.toList)
  (h3:jv P W0 gd so (unm (A.val f)) (ck A args.toList) (· =r)):imp gd (iy P W0 fz o A r):=by
 have key: ∀σ:ab,(so=some A.st→σ=A.st)→imp gd (dd P W0 o (A.an σ) r):=λσ hσ=>by
  have h3':jv P W0 gd (some σ) (unm (A.val f)) (ck A args.toList) (· =r):=by
   unfold jv at h3 ⊢
   split at h3
   ·obtain⟨r',g1,g2⟩:=h3
    refine⟨r',g1.map λg=>?_,g2⟩
    rcases hso with rfl|⟨rfl,_⟩
    ·exact g σ
    ·rw[hσ rfl];exact g
   ·exact h3.elim
  have hv:je P W0 gd o.op (A.an σ) (· =r):=by
   rw[ho]
   exact aQ (x:=(A.an σ).val f) h1 (fH (A:=A.an σ) (by rw[pC];exact h2) (by rw[nf];exact h3'))
  cases gd with
  |none=>
   intro w C a hr
   obtain⟨v,rfl,hp⟩:=fE hr hv
   exact hp w C a hr
  |some g=>
   intro hg w C a hr
   obtain⟨v,rfl,hp⟩:=fE hr hv
   exact hp hg w C a hr
 have hall:isR fz o.dst o.op=false→ ∀σ,(so=some A.st→σ=A.st):=λhR σ hs=>by
  rcases hso with h|⟨_,h⟩
  ·rw[h]at hs;cases hs
  ·rw[ho]at hR;simp only[isR]at hR;rw[h]at hR;cases hR
 cases gd with
 |none=>exact⟨key A.st λ_=>rfl,λhR σ=>key σ (hall hR σ),λhz=>by rw[ho]at hz;cases hz⟩
 |some g=>exact λhg=>⟨key A.st (λ_=>rfl) hg,λhR σ=>key σ (hall hR σ) hg,λhz=>by rw[ho]at hz;cases hz⟩
theorem vH {o:Oper}{k:aa→Prop}(hW:isW o.op=false)(h:dop P W0 fz gd o.dst A k o.op): ∃v,k (A.put o.dst (cP gd v))∧imp gd (iy P W0 fz o A v):=by
 have hgen:(∀t x,o.op= .load t x→tu fz A x)→imp gd (opC P gd A o.op)∧k (A.put o.dst (cP gd (opV P gd A o.op)))→ ∃v,k (A.put o.dst (cP gd v))∧imp gd (iy P W0 fz o A v):=λhl h=>⟨_,h.2,Dw hl h.1⟩
 cases hop:o.op
 case call c=>
  obtain⟨callee,args,argTypes⟩:=c
  cases callee
  case value f=>
   rw[hop]at h
   obtain⟨h1,h2,h3⟩:=h
   unfold aA jv at h3
   split at h3
   ·rename_i g caps hf
    obtain⟨r,h4,h5⟩:=h3
    refine⟨r,h5,zy (so:=if rdM fz o.dst then some A.st else none) hop ?_ h1 h2 (by unfold jv;rw[hf];exact⟨r,h4,rfl⟩)⟩
    split
    ·rename_i hm;exact .inr ⟨rfl,hm⟩
    ·exact .inl rfl
   ·exact h3.elim
  all_goals (rw[hop]at h;exact hgen (λt x e=>by rw[hop]at e;cases e) (by rw[hop];exact h))
 case load t x=>
  rw[hop]at h
  exact hgen (λt' x' e=>by rw[hop]at e;cases e;exact h.1) (by rw[hop];exact h.2)
 case store t x y=>rw[hop]at hW;cases hW
 all_goals (rw[hop]at h;exact hgen (λt x e=>by rw[hop]at e;cases e) (by rw[hop];exact h))
theorem zD {o:Oper}{t:TypeId}{x y:Operand}{k:aa→Prop}(ho:o.op= .store t x y)(h1:okM none (A.val x))(h2:okM none (A.val y))(h:im P [] t x (unm (A.val y)) A k .mk (unm (A.val x))): ∃σ',k (A.an σ')∧CP P W0 o A σ':=by
 have isx:Is P W0 o A x (unm (A.val x)):=by
  obtain⟨u,hu,hi⟩:=bN (P:=P) (W0:=W0) (o:=o) (A:=A) (x:=x) (by simp[ho,Op.operands]) (k:=(· =unm (A.val x))) (aQ h1 rfl)
  rw[←hu];exact hi
 have isy:Is P W0 o A y (unm (A.val y)):=by
  obtain⟨u,hu,hi⟩:=bN (P:=P) (W0:=W0) (o:=o) (A:=A) (x:=y) (by simp[ho,Op.operands]) (k:=(· =unm (A.val y))) (aQ h2 rfl)
  rw[←hu];exact hi
 unfold im at h
 split at h
 ·rename_i t' id i path hux
  obtain⟨rfl,g2,g3,g4⟩:=h
  rw[hux]at isx
  obtain⟨z,hz⟩:=Option.isSome_iff_exists.1 g3
  obtain⟨te,xs,y0,hs,hx,hy0⟩:=pB hz
  split at g4
  ·simp only[List.contains_nil,Bool.false_eq_true,if_false]at g4
   refine⟨_,g4,λw C a hr=>?_⟩
   have:=qH hr ho isx isy hz (eU g2) hs hx
   simpa only[de,hs,hx,Option.getD_some]using this
  ·exact g4.elim
 ·exact h.elim
theorem jg {id:Nat}{ops:Array Oper}: ∀(l:List Oper) (K:aa→Prop) (A:aa),cO P W0 n fz id ops l K A→ ∃vs ss B,Seq P W0 n fz (eM fz id) ops l A vs ss B∧K B
 |[],_,A,h=>⟨[],[],A,.nil A,h⟩
 |o::r,K,A,h=>by
  simp only[cO]at h
  split at h
  ·rename_i hE
   obtain⟨vs,ss,B,h1,h2⟩:=jg r K _ h
   exact⟨_,_,B,.skip hE h1,h2⟩
  rename_i hE
  replace hE:eM fz id o=false:=by simpa using hE
  obtain⟨hd,h⟩:=h
  have same: ∀v,(A.put o.dst v).an A.st=A.put o.dst v:=λv=>by cases o.dst<;>rfl
  split at h
  ·rename_i hg
   have gen:isW o.op=false→dop P W0 fz none o.dst A (λA'=>cO P W0 n fz id ops r K A') o.op→ ∃vs ss B,Seq P W0 n fz (eM fz id) ops (o::r) A vs ss B∧K B:=λhW hv=>by
    obtain⟨v,hk,hp⟩:=vH hW hv
    obtain⟨vs,ss,B,h1,h2⟩:=jg r K _ hk
    exact⟨v::vs,A.st::ss,B,.cons hE ⟨hd,by rw[hg];exact .inl ⟨hW,rfl,hp⟩⟩ (by rw[same];exact h1),h2⟩
   cases hop:o.op
   case store t x y=>
    rw[hop]at h
    obtain⟨_,h1,h2,h3⟩:=h
    obtain⟨σ',hk,hs⟩:=zD (W0:=W0) hop h1 h2 h3
    obtain⟨vs,ss,B,g1,g2⟩:=jg r K _ hk
    have e:(A.an σ').put o.dst .undef=(A.put o.dst .undef).an σ':=by cases o.dst<;>rfl
    rw[e]at g1
    exact⟨.undef::vs,σ'::ss,B,.cons hE ⟨hd,by rw[hg];exact .inr ⟨by rw[hop];rfl,rfl,hs⟩⟩ g1,g2⟩
   all_goals exact gen (by rw[hop];rfl) (by rw[hop]at h ⊢;exact h)
  ·rename_i j want hg
   split at h
   ·rename_i d hj
    have hW:isW o.op=false:=by
     cases hop:o.op<;>first|rfl|skip
     have:=h.2
     rw[hop]at this
     cases this.1
    obtain⟨v,hk,hp⟩:=vH hW h.2
    obtain⟨vs,ss,B,h1,h2⟩:=jg r K _ hk
    refine⟨_::vs,A.st::ss,B,.cons hE ⟨hd,by rw[hg];exact⟨hW,rfl,_,v,GX hj h.1,rfl,hp⟩⟩ (by rw[same];exact h1),h2⟩
   ·exact h.elim
theorem yn {dst:Option Nat}{k k':aa→Prop}{op:Op}(hk: ∀A',cQ (owr fz dst op) A A'→k A'→k' A')(h:eop P W0 fz dst A k op):eop P W0 fz dst A k' op:=by
 cases op
 case store t x y=>exact⟨h.1,ka (P:=P) (W0:=W0) (op:=.store t x y) hk h.2⟩
 all_goals exact ka (P:=P) (W0:=W0) hk h
theorem Dg {o:Oper}{k:aa→Prop}(hd:iG n o.dst)(h:eop P W0 fz o.dst A k o.op):EA fz o.op∧uB P W0 n fz o A k:=by
 cases hop:o.op
 case store t x y=>
  rw[hop]at h
  refine⟨?_,km hd (by rw[hop];exact h.2)⟩
  have:=h.1
  cases x<;>first|trivial|exact this
 all_goals exact⟨trivial,km hd (by rw[hop]at h ⊢;exact h)⟩
theorem ny {id:Nat}: ∀(l:List Oper) (K:aa→Prop) (A:aa),kd P W0 n fz id l K A→eVC P W0 n fz (l.filter (eM fz id)) K A
 |[],_,_,h=>h
 |o::r,K,A,h=>by
  simp only[kd]at h
  split at h
  ·rename_i hE
   rw[List.filter_cons_of_pos hE]
   have:=Dg (n:=n) h.1 (yn (λA' _=>ny r K A') h.2)
   exact this
  ·rename_i hE
   rw[List.filter_cons_of_neg hE]
   exact ny r K A h
theorem xd {id:Nat}{l:List Oper}{K:aa→Prop}(h:lR P W0 n fz id l K A):eVC P W0 n fz (l.filter (eM fz id)) K A:=by
 unfold lR at h
 split at h
 ·rename_i hall
  have:l.filter (eM fz id)=[]:=by
   rw[List.filter_eq_nil_iff]
   intro o _ hE
   have key: ∀x,2000000≤x→fz.contains x=false:=λx hx=>by
    cases hc:fz.contains x with
    |false=>rfl
    |true=>
     have:=List.all_eq_true.1 hall x (by simpa using hc)
     simp at this
     omega
   unfold eM at hE
   split at hE
   ·rw[key _ (by omega)]at hE;cases hE
   ·rw[key _ (by omega)]at hE;cases hE
  rw[this]
  exact h
 ·exact ny _ _ _ h
theorem zE {dst:Option Nat}{k k':aa→Prop}{op:Op}(hk: ∀A',cQ dst.toList A A'→k A'→k' A')(h:dop P W0 fz gd dst A k op):dop P W0 fz gd dst A k' op:=by
 cases op
 case store t x y=>exact⟨h.1,ka (P:=P) (W0:=W0) (fz:=[]) (op:=.store t x y) (λA' ha=>hk A' (by cases x<;>exact ha)) h.2⟩
 case load t x=>exact⟨h.1,dy hk h.2⟩
 case call c=>exact dy (op:=.call c) hk h
 all_goals (simp only[dop]at h ⊢;exact dy hk h)
theorem vx : ∀(l:List Oper) (i:Nat),i∈CU fz l→i∈l.flatMap λo=>owr fz o.dst o.op
 |[],_,h=>by cases h
 |o::r,i,h=>by
  rw[CU]at h
  rw[List.flatMap_cons]
  rcases List.mem_append.1 h with h|h
  ·refine List.mem_append_left _ ?_
   cases hop:o.op<;>rw[hop]at h<;>first|(cases h;done)|skip
   rename_i t x
   cases x<;>first|(cases h;done)|skip
   rename_i d
   simp only at h
   unfold owr
   simp only
   split at h
   ·rename_i hc
    rw[if_pos hc]
    rw[List.mem_singleton.1 h]
    exact List.mem_cons_self ..
   ·cases h
  ·exact List.mem_append_right _ (vx r i h)
theorem Hn (l:List Oper)(i:Nat)(h:i∈zx fz l):i∈l.flatMap λo=>owr fz o.dst o.op:=by
 unfold zx at h
 split at h
 ·cases h
 ·exact vx l i h
theorem A0 (A:aa)(d:Nat):cQ [d] A (xA A d):=λi hi=>by
 have hne:i≠d:=λe=>hi (by simp[e])
 unfold xA
 split
 ·split
  ·split
   ·exact A.tP _ hne
   ·rfl
  ·rfl
 ·rfl
theorem lq.mono : ∀(l:List Nat) (A:aa) {k k':aa→Prop},(∀B,cQ l A B→k B→k' B)→lq l A k→lq l A k'
 |[],A,_,_,hk,h=>hk A (.refl _ _) h
 |d::r,A,_,_,hk,h=>lq.mono r (xA A d) (λB hB=>hk B (by simpa using (A0 A d).trans hB)) h
theorem Dm {w:World}{C:Ctx}{a:Act}(h:bI P W0 n w C A a)(d:Nat): ∃C',bI P W0 n w C' (xA A d) a∧Step w C w C':=by
 unfold xA
 split
 ·rename_i t id he
  split
  ·rename_i te z hs
   split
   ·rename_i ht
    subst ht
    have hv:=h.env d
    rw[he]at hv
    have hfr:=kV h.st hv hs (i:=0) (x:=z) rfl
    obtain⟨k1,k2⟩:=h.st.kill id (List.getElem?_eq_some_iff.1 hs).1
    have hr1:=h.step k1 k2
    refine⟨_,⟨λj=>?_,hr1.defers,hr1.size,hr1.st⟩,k1⟩
    by_cases hj:j=d
    ·subst hj;simpa[aa.upd,aa.an]using hfr
    ·have:=hr1.env j;simpa[aa.upd,aa.an,hj]using this
   ·exact⟨C,h,.refl _ _⟩
  ·exact⟨C,h,.refl _ _⟩
 ·exact⟨C,h,.refl _ _⟩
theorem VC.yld {c:Code}{Q:Exit→aa→Prop}: ∀(l:List Nat) (A:aa),lq l A (VC P W0 n c Q)→VC P W0 n c Q A
 |[],_,h=>h
 |d::r,A,h=>λw C a hr=>by
  obtain⟨C',h1,h2⟩:=Dm hr d
  exact gU (VC.yld r _ h w C' a h1) λe a' w' ⟨A',C'',q,g1,g2⟩=>⟨A',C'',q,g1,h2.trans g2⟩
theorem lq.step {d:Nat}{r:List Nat}{t:TypeId}{id:Nat}{z:AV}{k:aa→Prop}(h1:A.env d= .ptr t id 0 [])(h2:A.st[id]?=some (some (.cells t [z])))(hk:lq r ((A.upd d (.loc t z)).an (A.st.set id none)) k):lq (d::r) A k:=by
 have:xA A d=(A.upd d (.loc t z)).an (A.st.set id none):=by
  unfold xA
  rw[h1]
  simp only[h2,if_true]
 show lq r (xA A d) k
 rw[this]
 exact hk
theorem vm {ops:Array Oper}{K K':aa→Prop}: ∀(l:List Oper) (A:aa),(∀A',cQ (l.flatMap λo=>owr fz o.dst o.op) A A'→K A'→K' A')→iA P W0 n fz ops l K A→iA P W0 n fz ops l K' A
 |[],A,hk,h=>hk _ (.refl _ _) h
 |o::r,A,hk,h=>by
  simp only[iA]at h ⊢
  refine⟨h.1,?_⟩
  have h2:=h.2
  have step: ∀A',cQ (owr fz o.dst o.op) A A'→iA P W0 n fz ops r K A'→iA P W0 n fz ops r K' A':=λA' ha=>vm r A' λA'' hb=>hk A'' (by simpa using ha.trans hb)
  split at h2
  ·exact ka step h2
  ·split at h2
   ·refine⟨h2.1,?_⟩
    have h3:=h2.2
    split at h3
    ·rename_i hc;rw[if_pos hc];exact xL (λA' ha=>step A' (ha.mono λi hi=>rV hi)) h3
    ·rename_i hc;rw[if_neg hc];exact dy (λA' ha=>step A' (ha.mono λi hi=>rV hi)) h3
   ·exact h2.elim
theorem qV {id:Nat}{ops:Array Oper}{K K':aa→Prop}: ∀(l:List Oper) (A:aa),(∀A',cQ (l.flatMap λo=>owr fz o.dst o.op) A A'→K A'→K' A')→cO P W0 n fz id ops l K A→cO P W0 n fz id ops l K' A
 |[],A,hk,h=>hk _ (.refl _ _) h
 |o::r,A,hk,h=>by
  simp only[cO]at h ⊢
  have step: ∀A',cQ o.dst.toList A A'→cO P W0 n fz id ops r K A'→cO P W0 n fz id ops r K' A':=λA' ha=>qV r A' λA'' hb=>hk A'' (by
   refine cQ.mono (ha.trans hb) λi hi=>?_
   rw[List.flatMap_cons]
   rcases List.mem_append.1 hi with hi|hi
   ·exact List.mem_append_left _ (rV hi)
   ·exact List.mem_append_right _ hi)
  split at h
  ·rename_i hE
   rw[if_pos hE]
   exact step A (.refl _ _) h
  rename_i hE
  rw[if_neg hE]
  refine⟨h.1,?_⟩
  have h2:=h.2
  split at h2
  ·exact zE step h2
  ·split at h2
   ·exact⟨h2.1,zE step h2.2⟩
   ·exact h2.elim
theorem uL {id:Nat}{K K':aa→Prop}: ∀(l:List Oper) (A:aa),(∀A',cQ (l.flatMap λo=>owr fz o.dst o.op) A A'→K A'→K' A')→kd P W0 n fz id l K A→kd P W0 n fz id l K' A
 |[],A,hk,h=>hk _ (.refl _ _) h
 |o::r,A,hk,h=>by
  simp only[kd]at h ⊢
  have step: ∀A',cQ (owr fz o.dst o.op) A A'→kd P W0 n fz id r K A'→kd P W0 n fz id r K' A':=λA' ha=>uL r A' λA'' hb=>hk A'' (by simpa using ha.trans hb)
  split at h
  ·rename_i hE
   rw[if_pos hE]
   exact⟨h.1,yn step h.2⟩
  ·rename_i hE
   rw[if_neg hE]
   exact step A (.refl _ _) h
theorem zM {id:Nat}{l:List Oper}{K K':aa→Prop}(hk: ∀A',cQ (l.flatMap λo=>owr fz o.dst o.op) A A'→K A'→K' A')(h:lR P W0 n fz id l K A):lR P W0 n fz id l K' A:=by
 unfold lR at h ⊢
 split at h
 ·rename_i hc;rw[if_pos hc];exact hk _ (.refl _ _) h
 ·rename_i hc;rw[if_neg hc];exact uL _ _ hk h
theorem ej : ∀(c:Code) {Q Q':Exit→aa→Prop} (A:aa) (_: ∀e A',cQ (lr fz c) A A'→Q e A'→Q' e A'),cVC P W0 n fz c Q A→cVC P W0 n fz c Q' A
 | .skip,_,_,A,hq,h=>hq _ A (.refl _ _) h
 | .ret,_,_,A,hq,h=>hq _ A (.refl _ _) h
 | .exit _,_,_,A,hq,h=>hq _ A (.refl _ _) h
 | .seq x y,Q,Q',A,hq,h=>ej x A (λe A' ha q=>by
   cases e with
   |normal=>exact ej y A' (λe A'' hb=>hq e A'' (ha.trans hb)) q
   |_=>exact hq _ _ (ha.mono λi hi=>List.mem_append_left _ hi) q) h
 | .cond c x y,_,_,A,hq,h=>⟨h.1,h.2.1,λhb=>ej x A (λe A' ha=>hq e A' (ha.mono λi hi=>List.mem_append_left _ hi)) (h.2.2.1 hb),λhb=>ej y A (λe A' ha=>hq e A' (ha.mono λi hi=>List.mem_append_right _ hi)) (h.2.2.2 hb)⟩
 | .block id c,_,_,A,hq,h=>ej c A (λe A' ha q=>by
   cases e with
   |exit id'=>
    simp only[dC]at q ⊢
    split at q
    ·rename_i he;rw[if_pos he];exact hq _ _ ha q
    ·rename_i he;rw[if_neg he];exact hq _ _ ha q
   |_=>exact hq _ _ ha q) h
 | .region _ _ true,_,_,A,hq,h=>⟨h.1,h.2.1,lq.mono _ A (λB hB hd=>qV (fz:=fz) _ B (λA' ha q=>zM (λA'' hb q=>hq _ A'' ((hB.trans (ha.trans hb)).mono λi hi=>by
   rcases List.mem_append.1 hi with h|h
   ·exact Hn _ _ h
   ·rcases List.mem_append.1 h with h|h<;>exact h) q) q) hd) h.2.2⟩
 | .region _ _ false,_,_,A,hq,h=>vm _ A (λA' ha q=>hq _ A' ha q) h
 | .loop c,_,_,_,hq,h=>VC.mono h λe A' q=>⟨hq e A' q.2 q.1,q.2⟩
 | .rangeFunc ..,_,_,_,_,h=>h.elim
 | .scope ..,_,_,_,_,h=>h.elim
 | .label ..,_,_,_,_,h=>h.elim
 | .goto ..,_,_,_,_,h=>h.elim
 | .refuse ..,_,_,_,_,h=>h.elim
def CJ (fz:List Nat)(l:List Oper)(A:aa)(k:aa→Prop)(_:Tag k):Prop:=lq (zx fz l) A k
def zb (fz:List Nat)(l:List Oper)(A:aa)(k:aa→Prop)(_:Tag k):Prop:=lq (zx fz l) A k
theorem zb.no {l:List Oper}{k:aa→Prop}(h:zx fz l=[])(hk:k A):zb fz l A k .mk:=by
 unfold zb
 rw[h]
 exact hk
theorem zb.of {l:List Oper}{k:aa→Prop}(ds:List Nat)(h:zx fz l=ds)(hk:lq ds A k):zb fz l A k .mk:=by
 unfold zb
 rw[h]
 exact hk
theorem lq.done {k:aa→Prop}(hk:k A):lq [] A k:=hk
theorem cB.cut {b:Bool}{x y z:Code}{Q:Exit→aa→Prop}(R:aa→Prop)(h: ∀A,R A→cVC P W0 n fz z Q A)(h1:b=true→cVC P W0 n fz x (bU R Q) A)(h2:b=false→cVC P W0 n fz y (bU R Q) A):cB P W0 n fz b x .mk y .mk z .mk Q .mk A:=
 ⟨λhb=>ej x A (λe A' _ q=>by cases e<;>first|exact h _ q|exact q) (h1 hb),λhb=>ej y A (λe A' _ q=>by cases e<;>first|exact h _ q|exact q) (h2 hb)⟩
theorem cB.both {b:Bool}{x y z:Code}{Q:Exit→aa→Prop}(h1:b=true→cVC P W0 n fz x (bU (cVC P W0 n fz z Q) Q) A)(h2:b=false→cVC P W0 n fz y (bU (cVC P W0 n fz z Q) Q) A):cB P W0 n fz b x .mk y .mk z .mk Q .mk A:=⟨h1,h2⟩
def eC (ks:List Nat)(A B:aa):aa:=⟨λi=>if ks.contains i then A.env i else B.env i,B.st⟩
theorem wP {ks ws:List Nat}{B:aa}(hk:ks.all (λi=>!ws.contains i)=true)(h:cQ ws A B):eC ks A B=B:=by
 obtain⟨env,st⟩:=B
 show aa.mk _ st=aa.mk env st
 congr 1
 funext i
 show(if ks.contains i then A.env i else env i)=env i
 split
 ·rename_i hi
  refine(h i λhw=>?_).symm
  have:=List.all_eq_true.1 hk i (by simpa using hi)
  simp[hw]at this
 ·rfl
theorem cB.at {b:Bool}{x y z:Code}{Q:Exit→aa→Prop}(ks:List Nat)(hks:ks.all (λi=>!(lr fz x++lr fz y).contains i)=true)(R:aa→Prop)(h1:b=true→cVC P W0 n fz x (bU R Q) A)(h2:b=false→cVC P W0 n fz y (bU R Q) A)
  (h: ∀B,R B→cVC P W0 n fz z Q (eC ks A B)):cB P W0 n fz b x .mk y .mk z .mk Q .mk A:=by
 have key: ∀B,cQ (lr fz x++lr fz y) A B→R B→cVC P W0 n fz z Q B:=λB ha hR=>by
  have:=h B hR
  rwa [wP hks ha]at this
 exact⟨λhb=>ej x A (λe A' ha q=>by cases e<;>first|exact key _ (ha.mono λi hi=>List.mem_append_left _ hi) q|exact q) (h1 hb),λhb=>ej y A (λe A' ha q=>by cases e<;>first|exact key _ (ha.mono λi hi=>List.mem_append_right _ hi) q|exact q) (h2 hb)⟩
theorem VC.S9 {c:Operand}{x y:Code}{Q:Exit→aa→Prop}(h1:okM none (A.val c))(h2:yV (unm (A.val c)))(ht:bl (unm (A.val c))=true→VC P W0 n x Q A)(hf:bl (unm (A.val c))=false→VC P W0 n y Q A):VC P W0 n (.cond c x y) Q A:=λw C a hr=>by
 have hv:=hr.val c
 have hb:a.eval c= .bool (bl (unm (A.val c))):=by
  revert hv h1 h2
  generalize A.val c=u
  intro h1 h2 hv
  cases u<;>first|exact h2.elim|exact hv.gf|skip
  rename_i g v
  have:=hv.strip h1
  cases v<;>first|exact h2.elim|exact this.gf
 exact mc hb (λh=>ht h w C a hr) (λh=>hf h w C a hr)
theorem br : ∀(c:Code) (Q:Exit→aa→Prop) (A:aa),cVC P W0 n fz c Q A→VC P W0 n c Q A
 | .skip,_,_,h=>.skip h
 | .ret,_,_,h=>.ret h
 | .exit _,_,_,h=>.exit h
 | .seq x y,Q,A,h=>.seq ((br x _ A h).mono λe A' q=>by
   cases e with
   |normal=>exact br y Q A' q
   |_=>exact q)
 | .cond c x y,Q,A,h=>.S9 h.1 h.2.1 (λhb=>br x Q A (h.2.2.1 hb)) (λhb=>br y Q A (h.2.2.2 hb))
 | .block id c,Q,A,h=>.block (br c _ A h)
 | .region id ops true,Q,A,h=>.yld _ A (lq.mono _ A (λA1 _ hd=>by
  obtain⟨vs,ss,B,h3,h4⟩:=jg _ _ _ hd
  have h5:=xd h4
  have:=VC.T7 (id:=id) (l:=ops.toList) (Q:=Q) (A:=A1) (ac:=Cz [] ops.toList) h.1 (by have:=h.2.1;unfold xZ at this;simpa using this) ⟨vs,ss,B,by simpa using h3,h5⟩
  simpa using this) h.2.2)
 | .region id ops false,Q,A,h=>by
  have h3:=kK _ _ _ h
  have:=VC.region (id:=id) (l:=ops.toList) (fz:=fz) (Q:=Q) (by simpa using h3)
  simpa using this
 | .loop c,Q,A,h=>VC.mono h λ_ _ q=>q.1
 | .rangeFunc ..,_,_,h=>h.elim
 | .scope ..,_,_,h=>h.elim
 | .label ..,_,_,h=>h.elim
 | .goto ..,_,_,h=>h.elim
 | .refuse ..,_,_,h=>h.elim
end
end Go.Av
end
section
namespace Go.Av
open Go
inductive Small :AV→Prop
 |undef:Small .undef
 |int (k n):Small (.int k n)
 |bool (b):Small (.bool b)
 |str {l:List UInt8}:l.length≤maxLen→Small (.str l)
 |nil:Small .nil
 |az:Small .az
 |j3:Small .j3
 |cC:Small .cC
 |iface {t v}:Small v→Small (.iface t v)
 |sl {e} {xs:List AV}:xs.length≤maxLen→(∀x∈xs,Small x)→Small (.sl e xs)
 |lit {e} {xs:List AV}:xs.length≤maxLen→(∀x∈xs,Small x)→Small (.lit e xs)
 |own {e} {xs:List AV} {tok}:xs.length≤maxLen→(∀x∈xs,Small x)→Small (.own e xs tok)
 |row {e id off n}:n≤maxLen→Small (.row e id off n)
 |agg {t} {fs:List AV}:(∀x∈fs,Small x)→Small (.agg t fs)
 |loc {t v}:Small v→Small (.loc t v)
 |ptr (t id i path):Small (.ptr t id i path)
 |it (id):Small (.it id)
 |mp (id):Small (.mp id)
 |yl (l):Small (.yl l)
 |fn {f} {caps:List AV}:(∀x∈caps,Small x)→Small (.fn f caps)
 |tup {vs:List AV}:(∀x∈vs,Small x)→Small (.tup vs)
 |maybe {g v}:(g=true→Small v)→Small (.maybe g v)
section
variable {P :Program}{W0 w w':World}{C C':Ctx}{σ σ':ab}{n:Nat}{A:aa}{a:Act}{fz:List Nat}
theorem dq {xs:List AV}(h: ∀(i:Nat)(x:AV),xs[i]?=some x→Small x): ∀x∈xs,Small x:=λx hx=>by
 obtain⟨i,hi,he⟩:=List.getElem_of_mem hx
 exact h i x (by rw[←he];exact List.getElem?_eq_getElem hi)
theorem Rel.small {x:AV}{cs:List Value}(h:Rel P w C x cs):Small x:=by
 induction h with
 |int k n=>exact .int k n
 |bool b=>exact .bool b
 |str h=>exact .str h
 |nil=>exact .nil
 |az=>exact .az
 |j3=>exact .j3
 |cC=>exact .cC
 |iface _ _ ih=>exact .iface ih
 |sl cf h1 h2 _ _ _ ih=>exact .sl (Nat.le_trans h1 h2) (dq ih)
 |lit cf h1 _ _ _ ih=>exact .lit h1 (dq ih)
 |own cf h1 h2 _ _ _ _ _ ih=>exact .own (Nat.le_trans h1 h2) (dq ih)
 |row h1 h2=>exact .row (Nat.le_trans h1 h2)
 |agg cf _ _ _ _ _ _ ih=>exact .agg (dq ih)
 |loc _ _ _ _ ih=>exact .loc ih
 |ptr=>exact .ptr ..
 |it=>exact .it _
 |mp=>exact .mp _
 |yl=>exact .yl _
 |fn h1 h2 h3 ih=>exact .fn (dq λi x hx=>ih i x _ hx (List.getElem?_eq_getElem (by rw[←h1];exact(List.getElem?_eq_some_iff.1 hx).1)))
theorem aF.small {x:AV}{v:Value}(h:aF P w C x v):Small x:=by
 induction h with
 |undef=>exact .undef
 |maybe _ _ ih=>exact .maybe ih
 |tup h1 _ ih=>exact .tup (dq λi x hx=>ih i x _ hx (List.getElem?_eq_getElem (by rw[←h1];exact(List.getElem?_eq_some_iff.1 hx).1)))
 |agg h=>exact h.small
 |one _ h=>exact h.small
structure WkA (A B:aa):Prop where
 env: ∀i,cR (A.env i) (B.env i)
 st:A.st=B.st
theorem WkA.refl (A:aa):WkA A A:=⟨λ_=>.refl _,rfl⟩
theorem WkA.upd {A B:aa}{d:Nat}{v:AV}(h:WkA A B)(hv:cR (A.env d) v):WkA A (B.upd d v):=⟨λi=>by
 by_cases hi:i=d
 ·subst hi;rw[aa.xU];exact hv
 ·rw[aa.tP B v hi];exact h.env i,h.st⟩
def FX (I:aa→Prop)(A:aa):Prop:=I A
theorem FX.here {I:aa→Prop}(h:I A):FX I A:=h
def I4 (I:Nat→aa→Prop)(k:Nat)(A:aa):Prop:=∃ k',k'<k∧I k' A
theorem I4.here {I:Nat→aa→Prop}{k:Nat}(k':Nat)(hk:k'<k)(h:I k' A):I4 I k A:=⟨k',hk,h⟩
def Kept (fz:List Nat)(c:Code)(_:Tag c)(ks:List Nat):Prop:=ks.all (λi=>!(lr fz c).contains i)=true
theorem Kept.of {c:Code}{ks:List Nat}(h:ks.all (λi=>!(lr fz c).contains i)=true):Kept fz c .mk ks:=h
theorem Kept.nil {c:Code}:Kept fz c .mk []:=rfl
theorem ae.cu {c:Code}{Q:Exit→aa→Prop}(ks:List Nat)(hks:Kept fz c .mk ks)(I:Nat→aa→Prop)(k₀:Nat)(h₀:I k₀ A)
  (round: ∀k B,I k B→cVC P W0 n fz c (bU (I4 I k) Q) (eC ks A B)):ae P W0 n fz c .mk Q .mk A:=by
 refine .loop (λk B=>cQ (lr fz c) A B∧I k B) k₀ ⟨.refl _ _,h₀⟩ λk B ⟨ha,hI⟩=>?_
 have h1:=round k B hI
 rw[wP hks ha]at h1
 refine(br c _ B (ej (Q':=bU (λA'=>∃ k',k'<k∧cQ (lr fz c) A A'∧I k' A') λe A'=>Q e A'∧cQ (lr fz c) A A') c B (λe A' hb q=>?_) h1))
 have hab:cQ (lr fz c) A A':=(ha.trans hb).mono λi hi=>by rcases List.mem_append.1 hi with h|h<;>exact h
 cases e with
 |normal=>
  obtain⟨k',hk,hI'⟩:=q
  exact⟨k',hk,hab,hI'⟩
 |_=>exact⟨q,hab⟩
theorem ae.upto {c:Code}{Q:Exit→aa→Prop}(ks:List Nat)(hks:Kept fz c .mk ks)(N:Nat)(I:Nat→aa→Prop)(i₀:Nat)(hi₀:i₀≤N)(h₀:I i₀ A)
  (round: ∀i B,i≤N→I i B→cVC P W0 n fz c (bU (λA'=>i<N∧I (i+1) A') Q) (eC ks A B)):ae P W0 n fz c .mk Q .mk A:=by
 refine .cu ks hks (λk B=>∃ i,i≤N∧k=N-i∧I i B) (N-i₀) ⟨i₀,hi₀,rfl,h₀⟩ λk B ⟨i,hi,hk,hI⟩=>?_
 refine ej c _ (λe A' _ q=>?_) (round i B hi hI)
 cases e with
 |normal=>exact⟨N-(i+1),by have:=q.1;omega,i+1,q.1,rfl,q.2⟩
 |_=>exact q
theorem VC.cu {c:Code}{Q:Exit→aa→Prop}(fz:List Nat)(I:Nat→aa→Prop)(k₀:Nat)(h₀:FX (I k₀) A)
  (round: ∀k A,I k A→cVC P W0 n fz c (bU (I4 I k) Q) A):ae P W0 n fz c .mk Q .mk A:=.cu [] .nil I k₀ h₀ round
theorem VC.upto {c:Code}{Q:Exit→aa→Prop}(fz:List Nat)(N:Nat)(I:Nat→aa→Prop)(i₀:Nat)(hi₀:i₀≤N)(h₀:FX (I i₀) A)
  (round: ∀i A,i≤N→I i A→cVC P W0 n fz c (bU (λA'=>i<N∧FX (I (i+1)) A') Q) A):ae P W0 n fz c .mk Q .mk A:=.upto [] .nil N I i₀ hi₀ h₀ round
theorem ae.at {c:Code}{id:Nat}{K:aa→Prop}{Q:Exit→aa→Prop}(ks:List Nat)(hks:Kept fz c .mk ks)(R:aa→Prop)(h:ae P W0 n fz c .mk (dC id (bU R Q)) .mk A)(hR: ∀B,R B→K (eC ks A B)):ae P W0 n fz c .mk (dC id (bU K Q)) .mk A:=
 VC.mono h λe A' ⟨q,ha⟩=>by
  have key:R A'→K A':=λhr=>by
   have:=hR A' hr
   rwa [wP hks ha]at this
  refine⟨?_,ha⟩
  cases e with
  |normal=>exact key q
  |exit id'=>
   simp only[dC]at q ⊢
   split at q
   ·rename_i he;rw[if_pos he];exact key q
   ·rename_i he;rw[if_neg he];exact q
  |_=>exact q
theorem ae.cut {c:Code}{id:Nat}{K:aa→Prop}{Q:Exit→aa→Prop}(R:aa→Prop)(hR: ∀A,R A→K A)(h:ae P W0 n fz c .mk (dC id (bU R Q)) .mk A):ae P W0 n fz c .mk (dC id (bU K Q)) .mk A:=.at [] .nil R h hR
def Nf (ts:List Nat)(r:AV)(σ:ab):Exit→aa→Prop
 | .normal,A| .ret,A=>cR (gZ A.env ts) r∧A.st.take σ.length=σ
 |_,_=>False
theorem al {f : FuncId} {fn : Func} {c : Code} {args : List AV} {r : AV} {m : Nat} (ts : List Nat) (fz : List Nat) (hf : P.funcs[f]? = some fn) (hb : fn.body = some c) (hnm : (fn.name == "runtime.NumGoroutine") = false)
  (hm:fn.ntmps=m) (hargs:Nat.ble args.length m=true) (hres:fn.results=(ts.map ResultVar.tmp).toArray) (hr:aU 0 r)
  (h:(∀a∈args,Small a)→ ∀σ,cVC P W0 m fz c (Nf ts r σ) ⟨gY args,σ⟩):ag P W0 f args r:=λσ=>by
 subst hm
 refine λw C vs hst hl hv=>?_
 have hsm: ∀a∈args,Small a:=dq λi x hx=>(hv i x _ hx (List.getElem?_eq_getElem (by rw[←hl];exact(List.getElem?_eq_some_iff.1 hx).1))).small
 have hvc:=br c _ _ (h hsm σ)
 refine(qP hf hb hnm (Nat.le_of_ble_eq_true hargs) hres (Q:=λr' σ'=>r'=r∧σ'=σ) (hvc.mono λe A' q=>?_)) w C vs hst hl hv
 have key:cR (gZ A'.env ts) r∧A'.st.take σ.length=σ→Oz ts (λr' σ'=>r'=r∧σ'=σ) σ .ret A':=λ⟨q1,q2⟩=>by
  refine⟨r,σ,q1,⟨Nat.le_refl _,q2.symm⟩,λid te xs hid hs=>?_,dW (Nat.zero_le _) hr,rfl,rfl⟩
  have:σ[id]?=some (some (.cells te xs)):=by rw[←hs,←q2,List.getElem?_take,if_pos hid]
  exact hst.ids this
 cases e with
 |normal=>exact key q
 |ret=>exact key q
 |_=>exact q.elim
def xj (P:Program)(t u e:TypeId)(N:Nat):Bool:=elT P t==some e&&(elT P u==some e&&(Nat.ble 1 (af P e)&&(bw P e&&(Nat.ble (N*bytesOf P e) 140737488355328&&Nat.ble N 9223372036854775807))))
theorem yi {t u e:TypeId}{N:Nat}(h:xj P t u e N=true):(elT P t=some e∧elT P u=some e∧0<af P e∧bw P e=true)∧N*bytesOf P e≤140737488355328∧N≤maxLen:=by
 simp only[xj,Bool.and_eq_true,beq_iff_eq]at h
 obtain⟨h1,h2,h3,h4,h5,h6⟩:=h
 exact⟨⟨h1,h2,Nat.le_of_ble_eq_true h3,h4⟩,Nat.le_of_ble_eq_true h5,Nat.le_of_ble_eq_true h6⟩
inductive Frz :aa→aa→Prop
 |refl (D:aa):Frz D D
 |row {D B:aa} (d:Nat) {e te:TypeId} {id off m:Nat} {xs:List AV}:D.env d= .row e id off m→D.st[id]?=some (some (.cells te xs))→off+m≤xs.length→Frz ((D.upd d (.sl e ((xs.drop off).take m))).an (D.st.set id none)) B→Frz D B
theorem bI.frz {B:aa}(hf:Frz A B): ∀{C:Ctx},bI P W0 n w C A a→ ∃C',bI P W0 n w C' B a∧Step w C w C':=by
 induction hf with
 |refl A=>exact λh=>⟨_,h,.refl _ _⟩
 |row d h1 h2 h3 _ ih=>
  intro C h
  have hv:=h.env d
  rw[h1]at hv
  have hfr:=nS h.st hv h2 h3
  obtain⟨k1,k2⟩:=h.st.kill _ (List.getElem?_eq_some_iff.1 h2).1
  have hr1:=h.step k1 k2
  have hr2:bI P W0 n w (C.kill _) ((aa.upd _ d (.sl _ _)).an (List.set _ _ none)) a:=⟨λj=>by
   by_cases hj:j=d
   ·subst hj;simpa[aa.upd,aa.an]using hfr
   ·have:=hr1.env j;simpa[aa.upd,aa.an,hj]using this,hr1.defers,hr1.size,hr1.st⟩
  obtain⟨C',g1,g2⟩:=ih hr2
  exact⟨C',g1,k1.trans g2⟩
def bO (R:aa→Prop):Exit→aa→Prop
 | .normal,A| .ret,A=>∃ A',Frz A A'∧R A'
 |_,_=>False
theorem bO.ret {R:aa→Prop}(h:R A):bO R .ret A:=⟨A,.refl A,h⟩
theorem bO.normal {R:aa→Prop}(h:R A):bO R .normal A:=⟨A,.refl A,h⟩
theorem bO.frz {R:aa→Prop}{x:Exit}(d:Nat){e te:TypeId}{id off m:Nat}{xs:List AV}(h1:A.env d= .row e id off m)(h2:A.st[id]?=some (some (.cells te xs)))(h3:off+m≤xs.length)
  (h:bO R x ((A.upd d (.sl e ((xs.drop off).take m))).an (A.st.set id none))):bO R x A:=by
 cases x with
 |normal=>obtain⟨A',g1,g2⟩:=h;exact⟨A',.row d h1 h2 h3 g1,g2⟩
 |ret=>obtain⟨A',g1,g2⟩:=h;exact⟨A',.row d h1 h2 h3 g1,g2⟩
 |_=>exact h.elim
theorem bO.vc {R:aa→Prop}{c:Code}(h:VC P W0 n c (bO R) A):VC P W0 n c (λe A'=>(e= .normal∨e= .ret)∧R A') A:=λw C a hr=>
 gU (h w C a hr) λe a' w' ⟨A',C',q,r,s⟩=>by
  cases e with
  |normal=>obtain⟨B,g1,g2⟩:=q;obtain⟨C'',h1,h2⟩:=r.frz g1;exact⟨B,C'',⟨.inl rfl,g2⟩,h1,s.trans h2⟩
  |ret=>obtain⟨B,g1,g2⟩:=q;obtain⟨C'',h1,h2⟩:=r.frz g1;exact⟨B,C'',⟨.inr rfl,g2⟩,h1,s.trans h2⟩
  |_=>exact q.elim
theorem cK {f : FuncId} {fn : Func} {c : Code} {args : List AV} {Q : AV → ab → Prop} {m : Nat} (ts : List Nat) (fz : List Nat) (hf : P.funcs[f]? = some fn) (hb : fn.body = some c) (hnm : (fn.name == "runtime.NumGoroutine") = false)
  (hm:fn.ntmps=m) (hargs:Nat.ble args.length m=true) (hres:fn.results=(ts.map ResultVar.tmp).toArray)
  (h:(∀a∈args,Small a)→cVC P W0 m fz c (bO λA=>∃ r,cR (gZ A.env ts) r∧σ.length≤A.st.length∧Q r A.st) ⟨gY args,σ⟩):aY P W0 f args σ Q:=by
 subst hm
 refine λw C vs hst hl hv=>?_
 have hsm: ∀a∈args,Small a:=dq λi x hx=>(hv i x _ hx (List.getElem?_eq_getElem (by rw[←hl];exact(List.getElem?_eq_some_iff.1 hx).1))).small
 have hvc:=bO.vc (br c _ _ (h hsm))
 refine .inl ⟨⟨fn,hf,by simp[hb],hnm⟩,calls_of_wp hf hb (wp_mono (wu (hvc w C _ (kl hst hl hv (Nat.le_of_ble_eq_true hargs)))) λe a' w' ⟨A',C',q,r,s⟩=>?_)⟩
 have fin:a'.defers=[]∧ ∃v,(results fn a'.tmps).run P w'= .ok v w'∧ ∃v₁ r σ' C',Ending.returned v= .returned v₁∧Q r σ'∧aB P W0 w' C' σ'∧aF P w' C' r v₁∧Step w C w' C':=by
  obtain⟨_,r1,h2,_,h4⟩:=q
  obtain⟨v,g1,g2⟩:=lG r hres
  exact⟨r.defers,v,g1,v,r1,A'.st,C',rfl,h4,r.st,g2.bZ h2,s⟩
 rcases q.1 with rfl|rfl
 ·exact fin
 ·exact fin
theorem lM {f : FuncId} {fn : Func} {c : Code} {args : List AV} {r : AV} {m : Nat} (ts : List Nat) (fz : List Nat) (hf : P.funcs[f]? = some fn) (hb : fn.body = some c) (hnm : (fn.name == "runtime.NumGoroutine") = false)
  (hm:fn.ntmps=m) (hargs:Nat.ble args.length m=true) (hres:fn.results=(ts.map ResultVar.tmp).toArray) (hr:aU σ.length r)
  (h:(∀a∈args,Small a)→cVC P W0 m fz c (bO λA=>cR (gZ A.env ts) r∧A.st.take σ.length=σ) ⟨gY args,σ⟩):aY P W0 f args σ λr' σ'=>r'=r∧σ'=σ:=by
 subst hm
 refine λw C vs hst hl hv=>?_
 have hsm: ∀a∈args,Small a:=dq λi x hx=>(hv i x _ hx (List.getElem?_eq_getElem (by rw[←hl];exact(List.getElem?_eq_some_iff.1 hx).1))).small
 have hvc:=bO.vc (br c _ _ (h hsm))
 refine(qP hf hb hnm (Nat.le_of_ble_eq_true hargs) hres (Q:=λr' σ'=>r'=r∧σ'=σ) (hvc.mono λe A' ⟨he,q1,q2⟩=>?_)) w C vs hst hl hv
 have key:Oz ts (λr' σ'=>r'=r∧σ'=σ) σ .ret A':=by
  refine⟨r,σ,q1,⟨Nat.le_refl _,q2.symm⟩,λid te xs hid hs=>?_,hr,rfl,rfl⟩
  have:σ[id]?=some (some (.cells te xs)):=by rw[←hs,←q2,List.getElem?_take,if_pos hid]
  exact hst.ids this
 rcases he with rfl|rfl
 ·exact key
 ·exact key
theorem ki {f : FuncId} {fn : Func} {c : Code} {args : List AV} {r : AV} {m : Nat} (ts : List Nat) (fz : List Nat) (hf : P.funcs[f]? = some fn) (hb : fn.body = some c) (hnm : (fn.name == "runtime.NumGoroutine") = false)
  (hm:fn.ntmps=m) (hargs:Nat.ble args.length m=true) (hres:fn.results=(ts.map ResultVar.tmp).toArray) (hr:aU 0 r)
  (h:(∀a∈args,Small a)→ ∀σ,cVC P W0 m fz c (bO λA=>cR (gZ A.env ts) r∧A.st.take σ.length=σ) ⟨gY args,σ⟩):ag P W0 f args r:=λσ=>
 lM ts fz hf hb hnm hm hargs hres (dW (Nat.zero_le _) hr) λhs=>h hs σ
theorem OS {f : FuncId} {fn : Func} {e : Array Value → Sem Value} {args : List AV} {r : AV} (hf : P.funcs[f]? = some fn) (hname : (fn.name == "runtime.NumGoroutine") = false)
  (hb:fn.body.isNone=true) (hn:Extern.findNext fn=none) (he:Extern.find fn=some e) (h: ∀w C (vs:List Value),args.length=vs.length→(∀(i:Nat) (a:AV) (v:Value),args[i]?=some a→vs[i]?=some v→aF P w C a v)→ ∃v,(e vs.toArray).run P w= .ok v w∧aF P w C r v):ag P W0 f args r:=λσ w C vs hst hl hv=>by
 obtain⟨v,h1,h2⟩:=h w C vs hl hv
 refine .inr ⟨v,w,?_,v,r,σ,C,rfl,⟨rfl,rfl⟩,hst,h2,.refl _ _⟩
 rw[run_callFunc_extern hf hname hb hn he,h1]
 rfl
theorem bM.own {t u e:TypeId}{x y:AV}{xs ys:List AV}{dst:Option Nat}{k:aa→Prop}(N:Nat)(ho:xj P t u e N=true)(hb:Bld A.st x e xs)(hy:fh A.st y e ys)(hN:xs.length+ys.length≤N)
  (hk: ∀v σ',App A.st x e (xs++ys) v σ'→k ((A.put dst v).an σ')):bM P [t,u] [x,y] dst A k .mk:=by
 obtain⟨h1,h2,h3⟩:=yi ho
 exact .inl ⟨e,xs,ys,h1,hb,hy,Nat.le_trans (Nat.mul_le_mul_right _ hN) h2,Nat.le_trans hN h3,hk⟩
theorem bM.row {t u e:TypeId}{x y:AV}{xs ys:List AV}{dst:Option Nat}{k:aa→Prop}(N:Nat)(ho:xj P t u e N=true)(hb:di A.st x e xs)(hy:fh A.st y e ys)(hN:xs.length+ys.length≤N)
  (h0:ys=[]→k ((A.put dst x).an A.st)) (hk:ys≠[]→k ((A.put dst (.row e A.st.length 0 (xs.length+ys.length))).an (bQ x A.st++[some (.cells e (xs++ys))]))):bM P [t,u] [x,y] dst A k .mk:=by
 obtain⟨h1,h2,h3⟩:=yi ho
 exact .inr (.inl ⟨e,xs,ys,h1,hb,hy,Nat.le_trans (Nat.mul_le_mul_right _ hN) h2,Nat.le_trans hN h3,h0,hk⟩)
theorem bM.zero {t u e:TypeId}{k' kn:IntKind}{m:Nat}{z:AV}{dst:Option Nat}{k:aa→Prop}(N:Nat)(ht:elT P t=some e)(hu:P.underlying u=some (.int kn))(hz:zeroOf P e=some z)(ho:(Nat.ble 1 (af P e)&&(bw P e&&(Nat.ble (N*bytesOf P e) 140737488355328&&Nat.ble N 9223372036854775807)))=true)(h0:0<m)(hN:m≤N)
  (hk:k ((A.put dst (.row e A.st.length 0 m)).an (A.st++[some (.cells e (List.replicate m z))]))):bM P [t,u] [.az,.int k' m] dst A k .mk:=by
 simp only[Bool.and_eq_true]at ho
 obtain⟨h1,h2,h3,h4⟩:=ho
 exact .inr (.inr (.inl ⟨e,m,z,k',kn,⟨rfl,rfl⟩,⟨ht,hu,Nat.le_of_ble_eq_true h1,h2,hz⟩,h0,Nat.le_trans (Nat.mul_le_mul_right _ hN) (Nat.le_of_ble_eq_true h3),Nat.le_trans hN (Nat.le_of_ble_eq_true h4),hk⟩))
theorem nG.row {t e:TypeId}{id off m:Nat}{zs:List AV}{v:AV}{dst:Option Nat}{k:aa→Prop}(h1:elT P t=some e)(h3:0<af P e)(hz:zeroOf P e=some v)(hs:A.st[id]?=some (some (.cells e zs)))(hN:off+m≤zs.length)
  (hk:k ((A.put dst (.tup [])).an (A.st.set id (some (.cells e (iJ zs off (List.replicate m v))))))):nG P [t] [.row e id off m] dst A k .mk:=
 ⟨e,id,off,m,zs,v,⟨h1,h3,hz⟩,rfl,hs,hN,hk⟩
theorem uI.go {t e:TypeId}{k k':IntKind}{m:Nat}{z:AV}{dst:Option Nat}{K:aa→Prop}(N:Nat)(ht:elT P t=some e)(hz:zeroOf P e=some z)(ho:(Nat.ble 1 (af P e)&&Nat.ble (N*bytesOf P e) 281474976710656&&Nat.ble N 9223372036854775807)=true)(hN:m≤N)
  (hk:K ((A.put dst (.row e A.st.length 0 m)).an (A.st++[some (.cells e (List.replicate m z))]))):uI P t (.int k m) (.int k' m) dst A K .mk:=by
 rw[Bool.and_eq_true,Bool.and_eq_true]at ho
 refine⟨rfl,?_⟩
 simp only[ht,hz,Int.toNat_natCast]
 refine⟨Nat.le_of_ble_eq_true ho.1.1,Int.natCast_nonneg _,Nat.le_trans (Nat.mul_le_mul_right _ hN) (Nat.le_of_ble_eq_true ho.1.2),Nat.le_trans hN (Nat.le_of_ble_eq_true ho.2),hk⟩
theorem AQ.of {so:Option ab}{g:FuncId}{us:List AV}{r:AV}(h:ag P W0 g us r):AQ P W0 so g us r:=by cases so<;>first|exact h|exact h _
theorem aA.go {gd:Option Bool}{so:Option ab}{g:FuncId}{caps us:List AV}{dst:Option Nat}{k:aa→Prop}{r:AV}(h:imp gd (ag P W0 g (us++caps) r))(hk:k (A.put dst (cP gd r))):aA P W0 gd so (.fn g caps) us dst A k .mk:=⟨r,h.map .of,hk⟩
theorem aA.st {gd:Option Bool}{g:FuncId}{caps us:List AV}{dst:Option Nat}{k:aa→Prop}{r:AV}(h:imp gd (aY P W0 g (us++caps) σ λr' σ'=>r'=r∧σ'=σ))(hk:k (A.put dst (cP gd r))):aA P W0 gd (some σ) (.fn g caps) us dst A k .mk:=⟨r,h,hk⟩
theorem aA.fn {gd:Option Bool}{so:Option ab}{g:FuncId}{us:List AV}{dst:Option Nat}{k:aa→Prop}{r:AV}(h:ag P W0 g us r)(hk:k (A.put dst (cP gd r))):aA P W0 gd so (.fn g []) us dst A k .mk:=⟨r,.of (.of (by simpa using h)),hk⟩
theorem aA.fnG {G:Bool}{so:Option ab}{g:FuncId}{us:List AV}{dst:Option Nat}{k:aa→Prop}{r:AV}(h:G=true→ag P W0 g us r)(hk:k (A.put dst (.maybe G r))):aA P W0 (some G) so (.fn g []) us dst A k .mk:=⟨r,λhg=>.of (by simpa using h hg),hk⟩
theorem nX (dst:Option Nat)(r:AV):(A.put dst r).an A.st=A.put dst r:=by cases dst<;>rfl
theorem ak.pure {g:FuncId}{caps us:List AV}{dst:Option Nat}{k:aa→Prop}{r:AV}(h:ag P W0 g (us++caps) r)(hk:k (A.put dst r)):ak P W0 (.fn g caps) us dst A k .mk:=
 (h A.st).mono λr' σ' ⟨h1,h2⟩=>by subst h1 h2;rw[nX];exact hk
theorem ak.fn {g:FuncId}{us:List AV}{dst:Option Nat}{k:aa→Prop}{r:AV}(h:ag P W0 g us r)(hk:k (A.put dst r)):ak P W0 (.fn g []) us dst A k .mk:=.pure (by simpa using h) hk
end
end Go.Av
end
