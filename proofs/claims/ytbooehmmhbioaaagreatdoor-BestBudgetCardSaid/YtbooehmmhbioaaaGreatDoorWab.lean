/- Texts that the last one of this claim rests on: a layer over the guide's own conditions for code; contracts of the functions that the law reaches, one by one. No conditions beside those of the given rows. -/
import Derived.Laws.MakeOwn
import Derived.Lib.AppendZeros
import Derived.Lib.ConvBytes
import Derived.Laws.BytesString
import Derived.Laws.Cells
import Derived.Lib.AppendStr
import Derived.Orders
import Derived.Laws.Externs
import Derived.Test.YtbooehmmhbioaaaGreatDoorWaa
set_option linter.unusedSimpArgs false
set_option linter.unusedVariables false
section
namespace Go.Av
open Go
section
variable {P :Program}{W0 w w':World}{C C':Ctx}{σ σ':ab}{n:Nat}{A:aa}{a:Act}{o:Oper}
theorem iF (w:World)(t ty e:TypeId)(i:TypeInfo)(ht:P.underlying t=some (.slice e))(hi:P.info? e=some i)
  (g off sLen sCap:Nat) (te:TypeId) (fr:Nat×Nat) (cur:Array Value) (hg:w.heap[g]?=some (.cells cur te fr)) (hfr:xa fr cur.size)
  (a:Addr) (m c:Nat) (news:List Value) (hl:news.length=m*i.size) (hnews: ∀j u,news[j]?=some u→w.cell? (a.add j)=some u) (h1: ∀u∈news,u.oneCell'=true)
  (hroom:sLen+m≤sCap) (hfit:off+sLen*i.size+news.length≤cur.size):
  (Builtin.append_ #[t,t] ty #[.slice (some ⟨g,off,none⟩) sLen sCap,.slice (some a) m c]).run P w=
   .ok (.slice (some ⟨g,off,none⟩) (sLen+m) sCap) (w.setRow g (bz cur (off+sLen*i.size) news)):=by
 have hf:=run_firstCells_some (P:=P) w i.size m a m c news hl hnews
 have hst:=ef P g (off+sLen*i.size) te fr news 0 cur w hg hfr (by simpa using hfit) h1
 simp only[Nat.add_zero]at hst
 simp[Builtin.append_,run_underlying ht,sizeOf,typeInfo,hi,Builtin.lenOf,hroom,hf,Addr.add_lit,hst,bz]
theorem zi (h:aB P W0 w C σ){e:TypeId}{zs:List AV}{cap:Nat}{arr:Array Value}{cf:Nat→List Value}(hl:zs.length≤cap)(hc:cap≤maxLen)(hs:arr.size=cap*ae P e)
  (hz: ∀i x,zs[i]?=some x→Rel P w C x (cf i)∧(cf i).length=ae P e∧fits P e x∧ ∀(j:Nat) (u:Value),(cf i)[j]?=some u→arr[i*ae P e+j]?=some u):
  ∃C',Step w C (w.alloc (.cells arr e)) C'∧aB P W0 (w.alloc (.cells arr e)) C' (σ++[some (.cells e zs)])∧aG P (w.alloc (.cells arr e)) C' (.row e σ.length 0 zs.length) (.slice (some ⟨w.heap.size,0,none⟩) zs.length cap)∧C'.m σ.length=some (.obj w.heap.size e 0 arr.size):=by
 have hhw:zs.length*ae P e≤arr.size:=by rw[hs];exact Nat.mul_le_mul_right _ hl
 obtain⟨h1,h2⟩:=h.push (ob:=.cells arr e) (ow:=.obj w.heap.size e 0 arr.size) (so:=.cells e zs) rfl
  ⟨rfl,arr,e,(0,0),heap_alloc_new w _,.inl rfl,rfl,by simpa using hhw,cf,λi x hx=>by
   obtain⟨g1,g2,g3,g4⟩:=hz i x hx
   exact⟨g1.mono (mT _ rfl),g2,g3,λj c hj=>by rw[Nat.zero_add];exact g4 j c hj⟩⟩
 refine⟨_,h1,h2,.one rfl (.row hl hc (by simp[Ctx.push,h.nx]) (λow how=>?_)),by simp[Ctx.push,h.nx]⟩
 simp only[Ctx.push,h.nx,if_true,Option.some.injEq]at how
 subst how
 exact⟨_,0,_,rfl,λ_=>by simp,by simp[hs]⟩
theorem mO (h:aB P W0 w C σ){e:TypeId}{zs:List AV}{cap:Nat}{arr:Array Value}{cf:Nat→List Value}(hl:zs.length≤cap)(hc:cap≤maxLen)(hs:arr.size=cap*ae P e)
  (hz: ∀i x,zs[i]?=some x→Rel P w C x (cf i)∧(cf i).length=ae P e∧fits P e x∧ ∀(j:Nat) (u:Value),(cf i)[j]?=some u→arr[i*ae P e+j]?=some u):
  ∃C',Step w C (w.alloc (.cells arr e)) C'∧aB P W0 (w.alloc (.cells arr e)) C' (σ++[some (.cells e zs)])∧aG P (w.alloc (.cells arr e)) C' (.row e σ.length 0 zs.length) (.slice (some ⟨w.heap.size,0,none⟩) zs.length cap):=by
 obtain⟨C',h1,h2,h3,_⟩:=zi (P:=P) h hl hc hs hz
 exact⟨C',h1,h2,h3⟩
theorem FX (h:aB P W0 w C σ){id b base base' room:Nat}{fr:Nat×Nat}{e t':TypeId}{xs zs:List AV}{arr arr':Array Value}{cf:Nat→List Value}(hs:σ[id]?=some (some (.cells e xs)))(hm:C.m id=some (.obj b e base room))(hb:w.heap[b]?=some (.cells arr t' fr))(hf:xa fr arr.size)
  (hsz:arr.size=room) (hsize:arr'.size=arr.size) (hfit:base'+zs.length*ae P e≤room)
  (hz: ∀i x,zs[i]?=some x→Rel P w C x (cf i)∧(cf i).length=ae P e∧fits P e x∧ ∀(j:Nat) (u:Value),(cf i)[j]?=some u→arr'[base'+i*ae P e+j]?=some u):
  ∃C',Step w C (w.setRow b arr') C'∧aB P W0 (w.setRow b arr') C' (σ.set id none++[some (.cells e zs)])∧C'.nx=σ.length+1∧C'.m σ.length=some (.obj b e base' room):=by
 have htl:id<σ.length:=(List.getElem?_eq_some_iff.1 hs).1
 have hnew:(w.setRow b arr').heap[b]?=some (.cells arr' t' fr):=setRow_heap w b arr _ t' _ hb
 have hC: ∀i ow,((C.kill id).push (.obj b e base' room)).m i=some ow→(i=C.nx∧ow= .obj b e base' room)∨(i≠C.nx∧i≠id∧C.m i=some ow):=λi ow hi=>by
  rw[qw,mM,nT]at hi
  split at hi
  ·rename_i he;cases hi;exact .inl ⟨he,rfl⟩
  ·rename_i he
   split at hi
   ·cases hi
   ·rename_i ht;exact .inr ⟨he,ht,hi⟩
 have hne: ∀i ow,i≠id→C.m i=some ow→ow.blk≠b:=λi ow hi hm' he=>hi (h.inj i id ow _ hm' hm (by simpa[Own.blk]using he))
 have hstep:Step w C (w.setRow b arr') ((C.kill id).push (.obj b e base' room)):=by
  refine⟨by simp[Ctx.push,Ctx.kill],λi ow hid hi=>?_,λb' i hst=>?_,rfl,rfl,rfl,by simp,λb' hlt hn=>?_⟩
  ·rcases hC i ow hi with⟨e1,_⟩|⟨_,_,h'⟩
   ·omega
   ·exact h'
  ·have hbb:b'≠b:=λe1=>by
    obtain⟨_,_,_,e2,_⟩:=hst.2 id _ hm (by simp[Own.blk,e1])
    cases e2
   refine⟨cell_setRow_other w b _ ⟨b',i,none⟩ hbb,by simpa using hst.1,λi' ow hi he=>?_⟩
   rcases hC i' ow hi with⟨_,rfl⟩|⟨_,_,h'⟩
   ·exact absurd he (λe1=>hbb e1.symm)
   ·exact hst.2 i' ow h' he
  ·refine⟨setRow_other w b b' _ (λe1=>hn id _ hm (by simp[Own.blk,e1])),λi ow hi=>?_⟩
   rcases hC i ow hi with⟨_,rfl⟩|⟨_,_,h'⟩
   ·intro he;exact hn id _ hm he
   ·exact hn i ow h'
 refine⟨_,hstep,h.change hstep (λi ow hi=>?_) (by simp[Ctx.push,Ctx.kill,h.nx]) (λi j x y hi hj he=>?_) (λi ow hi=>?_) (λi=>?_),by simp[Ctx.push,Ctx.kill,h.nx],by simp[Ctx.push,Ctx.kill,h.nx]⟩
 ·rcases hC i ow hi with⟨_,rfl⟩|⟨_,_,h'⟩
  ·exact h.low id (.obj b e base room) hm
  ·exact h.low i ow h'
 ·rcases hC i x hi with⟨e1,rfl⟩|⟨e1,t1,h1⟩
  ·rcases hC j y hj with⟨e2,rfl⟩|⟨e2,t2,h2⟩
   ·omega
   ·exact absurd he.symm (hne j y t2 h2)
  ·rcases hC j y hj with⟨e2,rfl⟩|⟨e2,t2,h2⟩
   ·exact absurd he (hne i x t1 h1)
   ·exact h.inj i j x y h1 h2 he
 ·simp only[Ctx.push,Ctx.kill]
  rcases hC i ow hi with⟨e1,_⟩|⟨_,_,h1⟩
  ·omega
  ·have:=h.dom i ow h1;omega
 ·rw[qz,List.length_set,kl _ _ _ _ htl]
  by_cases hi:i=σ.length
  ·left
   rw[if_pos hi]
   have:((C.kill id).push (.obj b e base' room)).m i=some (.obj b e base' room):=by simp[Ctx.push,Ctx.kill,hi,h.nx]
   rw[this]
   refine⟨rfl,_,t',fr,hnew,by rw[hsize];exact hf,by rw[hsize,hsz],hfit,cf,λq x hx=>?_⟩
   obtain⟨g1,g2,g3,g4⟩:=hz q x hx
   exact⟨g1.mono hstep,g2,g3,g4⟩
  ·rw[if_neg hi]
   by_cases ht:i=id
   ·left
    rw[if_pos ht]
    have:((C.kill id).push (.obj b e base' room)).m i=none:=by
     rw[qw,mM,nT,if_neg (by rw[h.nx];exact hi),if_pos ht]
    rw[this]
    trivial
   ·right
    rw[if_neg ht]
    refine⟨rfl,?_,λow how=>setRow_other w b _ _ (hne i ow ht how)⟩
    rw[qw,mM,nT,if_neg (by rw[h.nx];exact hi),if_neg ht]
theorem xy (hr:fJ P W0 o w C A a){x y:Operand}{t u e:TypeId}{v z:AV}{xs ys:List AV}(ho:o.op= .call { callee:=.builtin .append,args:=#[x,y],argTypes:=#[t,u] })
  (hx:Is P W0 o A x v) (hy:Is P W0 o A y z) (ht:elT P t=some e) (hu:elT P u=some e) (he:0<ae P e) (hz0:bu P e=true) (hb:dh A.st v e xs) (hys:eY A.st z e ys)
  (hbytes:(xs.length+ys.length)*bytesOf P e≤140737488355328) (hmax:xs.length+ys.length≤maxLen):
  ∃r w' C' v' σ',(execOp a.eval o).run P w= .ok (.value r) w'∧((ys=[]∧v'=v∧σ'=A.st)∨(ys≠[]∧v'= .row e A.st.length 0 (xs.length+ys.length)∧σ'=bQ v A.st++[some (.cells e (xs++ys))]))∧Step w C w' C'∧aB P W0 w' C' σ'∧aG P w' C' v' r:=by
 obtain⟨inf,hinf,hsz⟩:=bJ he
 have htu:=cn ht
 have hrun: ∀b l c yv r w',(Builtin.append_ #[t,t] o.type #[.slice b l c,yv]).run P w= .ok r w'→a.eval x= .slice b l c→a.eval y=yv→(execOp a.eval o).run P w= .ok (.value r) w':=λb l c yv r w' h h1 h2=>by
  rw[←gF htu (cn hu) hinf]at h
  simp[execOp,ho,resolve,invoke,builtin,h1,h2,h]
 have hxv:=hx w C a hr
 have hyv:=hy w C a hr
 obtain⟨ady,capy,cfy,hye,y3,y4,y5⟩:=hys.cells hr.st hyv
 obtain⟨bx,cx,hxe,hlx⟩: ∃b c,a.eval x= .slice b xs.length c∧xs.length≤c:=by
  rcases hb with⟨rfl,rfl⟩|rfl|⟨id,off,m,zs,rfl,hs,hm,rfl⟩
  ·exact⟨none,0,hxv.dP,Nat.le_refl _⟩
  ·have:=hxv.aM rfl
   cases hev:a.eval x<;>(rw[hev]at this;cases this)
   exact⟨_,_,rfl,Nat.le_refl _⟩
  ·obtain⟨ad,cap,cf,hve,g1,_⟩:=qk hr.st hxv hs hm
   have hlen:((zs.drop off).take m).length=m:=by simp;omega
   rw[hlen]
   exact⟨_,_,hve,g1⟩
 by_cases hyl:ys=[]
 ·subst hyl
  exact⟨_,w,C,v,A.st,hrun _ _ _ _ _ _ (im htu hinf _ _ _ _ _ _ hlx w) hxe hye,.inl ⟨rfl,rfl,rfl⟩,.refl _ _,hr.st,by rw[←hxe];exact hxv⟩
 have hpos:0<ys.length:=by cases ys with|nil=>exact absurd rfl hyl|cons=>simp
 obtain⟨by_,oy,rfl,news,n1,n2,n3,n4⟩:=y5 hpos
 have n2': ∀j u,news[j]?=some u→w.cell? ((⟨by_,oy,none⟩:Addr).add j)=some u:=λj u hj=>by rw[Addr.add_lit];exact n2 j u hj
 obtain⟨inf',z0,hinf',hiz,hzs⟩:=gT hz0
 obtain rfl:inf'=inf:=by rw[hinf]at hinf';exact(Option.some.inj hinf').symm
 have hmax':xs.length+ys.length≤9223372036854775807:=by unfold maxLen at hmax;omega
 rw[oB hinf]at hbytes
 have hlen:(xs++ys).length=xs.length+ys.length:=by simp
 have hgetl: ∀i x,(xs++ys)[i]?=some x→(i<xs.length∧xs[i]?=some x)∨(xs.length≤i∧ys[i-xs.length]?=some x):=λi x hx=>by
  by_cases hi:i<xs.length
  ·rw[List.getElem?_append_left hi]at hx;exact .inl ⟨hi,hx⟩
  ·rw[List.getElem?_append_right (by omega)]at hx;exact .inr ⟨by omega,hx⟩
 have fresh: ∀(C1:Ctx) (σ1:ab) (b:Addr) (cap:Nat) (olds:List Value) (cf:Nat→List Value),Step w C w C1→aB P W0 w C1 σ1→σ1.length=A.st.length→a.eval x= .slice (some b) xs.length cap→cap<xs.length+ys.length→
   olds.length=xs.length*ae P e→(∀j u,olds[j]?=some u→w.cell? (b.add j)=some u)→(∀(i:Nat) (x:AV),xs[i]?=some x→Rel P w C x (cf i))→(∀i x,xs[i]?=some x→(cf i).length=ae P e∧fits P e x)→
   (∀i x,xs[i]?=some x→ ∀(j:Nat) (u:Value),(cf i)[j]?=some u→olds[i*ae P e+j]?=some u)→
   ∃r w' C',(execOp a.eval o).run P w= .ok (.value r) w'∧Step w C w' C'∧aB P W0 w' C' (σ1++[some (.cells e (xs++ys))])∧aG P w' C' (.row e A.st.length 0 (xs.length+ys.length)) r:=λC1 σ1 b cap olds cf k1 k2 hl1 hxq hroom p1 p2 c3 c4 p4=>by
  have hap:=run_append_grow (P:=P) w t o.type e inf' z0 htu hinf hiz b xs.length cap olds (by rw[p1,hsz]) p2 ⟨by_,oy,none⟩ ys.length capy news (by rw[n1,hsz]) n2' hroom (by omega) (growslice_fits hroom hbytes)
  have hge:=grownCap_ge w (xs.length+ys.length) cap e
  have hcap:=grownCap_le_maxLen w (xs.length+ys.length) cap e hmax
  obtain⟨C',g1,g2,g3⟩:=mO (P:=P) (W0:=W0) k2.drew (e:=e) (zs:=xs++ys) (cap:=grownCap w (xs.length+ys.length) cap e)
   (arr:=olds.toArray++news.toArray++Builtin.zeroCells z0.cells (grownCap w (xs.length+ys.length) cap e-(xs.length+ys.length))) (cf:=λi=>if i<xs.length then cf i else cfy (i-xs.length)) (by rw[hlen];exact hge) hcap
   (by simp only[Array.size_append,List.size_toArray,size_zeroCells,p1,n1,hzs,←Nat.add_mul];congr 1;omega)
   (λi x hx=>by
    have hs:=k1.trans (Step.drew w _)
    rcases hgetl i x hx with⟨hi,hx'⟩|⟨hi,hx'⟩
    ·simp only[hi,if_true]
     refine⟨(c3 i x hx').mono hs,(c4 i x hx').1,(c4 i x hx').2,λj u hj=>?_⟩
     have:=p4 i x hx' j u hj
     have hl:=(List.getElem?_eq_some_iff.1 this).1
     rw[Array.getElem?_append_left (by simp;omega),Array.getElem?_append_left (by simpa using hl)]
     simpa using this
    ·simp only[show ¬i<xs.length by omega,if_false]
     refine⟨(y3 _ x hx').mono hs,(y4 _ x hx').1,(y4 _ x hx').2,λj u hj=>?_⟩
     have:=n4 _ x hx' j u hj
     have hl:=(List.getElem?_eq_some_iff.1 this).1
     have hmul:i*ae P e=xs.length*ae P e+(i-xs.length)*ae P e:=by rw[←Nat.add_mul];congr 1;omega
     rw[Array.getElem?_append_left (by simp;omega),Array.getElem?_append_right (by simp;omega)]
     simp only[List.size_toArray,p1,List.getElem?_toArray]
     rw[show i*ae P e+j-xs.length*ae P e=(i-xs.length)*ae P e+j by omega]
     exact this)
  rw[hlen,hl1]at g3
  exact⟨_,_,C',hrun _ _ _ _ _ _ hap hxq hye,(k1.trans (Step.drew w _)).trans g1,g2,g3⟩
 rcases hb with⟨rfl,rfl⟩|rfl|⟨id,off,m,zs,rfl,hs,hm,rfl⟩
 ·simp only[List.length_nil,Nat.zero_add]at hbytes hmax hmax'
  have hxe':=hxv.dP
  have hap:=run_append_nil (P:=P) w t o.type e inf' z0 htu hinf hiz ⟨by_,oy,none⟩ ys.length capy news (by rw[n1,hsz]) n2' hpos (by omega) (by omega)
  have hge:=grownCap_ge w ys.length 0 e
  have hcap:=grownCap_le_maxLen w ys.length 0 e hmax
  obtain⟨C',g1,g2,g3⟩:=mO (P:=P) (W0:=W0) hr.st.drew (e:=e) (zs:=ys) (cap:=grownCap w ys.length 0 e) (arr:=news.toArray++Builtin.zeroCells z0.cells (grownCap w ys.length 0 e-ys.length)) (cf:=cfy) hge hcap
   (by simp only[Array.size_append,List.size_toArray,size_zeroCells,n1,hzs,←Nat.add_mul];congr 1;omega)
   (λi x hx=>⟨(y3 i x hx).mono (Step.drew w C),(y4 i x hx).1,(y4 i x hx).2,λj u hj=>by
    have:=n4 i x hx j u hj
    rw[Array.getElem?_append_left (by simpa using (List.getElem?_eq_some_iff.1 this).1)]
    simpa using this⟩)
  exact⟨_,_,C',_,_,hrun _ _ _ _ _ _ hap hxe' hye,.inr ⟨hyl,rfl,rfl⟩,(Step.drew w C).trans g1,by simpa[bQ]using g2,by simpa using g3⟩
 ·obtain⟨ad,capx,cfx,hxq,x1,x2,x3,x4,x5⟩:=(hxv.aM rfl).sD (.inr (.inl rfl))
  have hcx:capx=xs.length:=by
   have:=hxv.aM rfl
   rw[hxq]at this
   cases this
   rfl
  subst hcx
  by_cases hxl:xs=[]
  ·subst hxl
   simp only[List.length_nil,Nat.zero_add]at hbytes hmax hmax'
   cases ad with
   |none=>
    have hap:=run_append_nil (P:=P) w t o.type e inf' z0 htu hinf hiz ⟨by_,oy,none⟩ ys.length capy news (by rw[n1,hsz]) n2' hpos (by omega) (by omega)
    have hge:=grownCap_ge w ys.length 0 e
    have hcap:=grownCap_le_maxLen w ys.length 0 e hmax
    obtain⟨C',g1,g2,g3⟩:=mO (P:=P) (W0:=W0) hr.st.drew (e:=e) (zs:=ys) (cap:=grownCap w ys.length 0 e) (arr:=news.toArray++Builtin.zeroCells z0.cells (grownCap w ys.length 0 e-ys.length)) (cf:=cfy) hge hcap
     (by simp only[Array.size_append,List.size_toArray,size_zeroCells,n1,hzs,←Nat.add_mul];congr 1;omega)
     (λi x hx=>⟨(y3 i x hx).mono (Step.drew w C),(y4 i x hx).1,(y4 i x hx).2,λj u hj=>by
      have:=n4 i x hx j u hj
      rw[Array.getElem?_append_left (by simpa using (List.getElem?_eq_some_iff.1 this).1)]
      simpa using this⟩)
    exact⟨_,_,C',_,_,hrun _ _ _ _ _ _ hap hxq hye,.inr ⟨hyl,rfl,rfl⟩,(Step.drew w C).trans g1,by simpa[bQ]using g2,by simpa using g3⟩
   |some b=>
    obtain⟨r,w',C',g0,g1,g2,g3⟩:=fresh C A.st b 0 [] cfx (.refl _ _) hr.st rfl hxq (by simpa using hpos) (by simp) (by simp) x3 x4 (by simp)
    exact⟨r,w',C',_,_,g0,.inr ⟨hyl,rfl,rfl⟩,g1,g2,g3⟩
  ·have hxp:0<xs.length:=by cases xs with|nil=>exact absurd rfl hxl|cons=>simp
   obtain⟨bx',ox',rfl,x6⟩:=x5 hxp
   obtain⟨olds,p1,p2,p3,p4⟩:=kV x3 x4 x6
   obtain⟨r,w',C',g0,g1,g2,g3⟩:=fresh C A.st ⟨bx',ox',none⟩ xs.length olds cfx (.refl _ _) hr.st rfl hxq (by omega) p1 (λj u hj=>by rw[Addr.add_lit];exact p2 j u hj) x3 x4 p4
   exact⟨r,w',C',_,_,g0,.inr ⟨hyl,rfl,rfl⟩,g1,g2,g3⟩
 ·obtain⟨ad,cap,cf,hxq,g1,g2,_,c3,c4,b,base,room,arr,t',fr,m1,m2,mf,m3,g5,g6,g7⟩:=qk hr.st hxv hs hm
  have hlm:((zs.drop off).take m).length=m:=by simp;omega
  have hidl:id<A.st.length:=(List.getElem?_eq_some_iff.1 hs).1
  generalize hxs:(zs.drop off).take m=xs at *
  by_cases hroom:xs.length+ys.length≤cap
  ·-- in place
   obtain rfl:=g5 (by omega)
   have hfit:base+off*ae P e+xs.length*ae P e+news.length≤arr.size:=by
    rw[n1,m3,Nat.add_assoc,Nat.add_assoc,←Nat.add_mul,←Nat.add_mul]
    exact Nat.le_trans (Nat.add_le_add_left (Nat.mul_le_mul_right _ (by omega)) _) (Nat.le_of_eq g6)
   have hap:=iF (P:=P) w t o.type e inf' htu hinf b (base+off*ae P e) xs.length cap t' fr arr m2 mf ⟨by_,oy,none⟩ ys.length capy news (by rw[n1,hsz]) n2' n3 hroom (by rw[hsz];exact hfit)
   rw[hsz]at hap
   have hsize:(bz arr (base+off*ae P e+xs.length*ae P e) news).size=arr.size:=dt hfit
   obtain⟨C',k1,k2,k3,k4⟩:=FX hr.st (base':=base+off*ae P e) (zs:=xs++ys) (cf:=λi=>if i<xs.length then cf i else cfy (i-xs.length)) hs m1 m2 mf m3 hsize (by
     rw[hlen,Nat.add_assoc,←Nat.add_mul]
     exact Nat.le_trans (Nat.add_le_add_left (Nat.mul_le_mul_right _ (by omega)) _) (Nat.le_of_eq g6)) (λi x hx=>by
    rcases hgetl i x hx with⟨hi,hx'⟩|⟨hi,hx'⟩
    ·simp only[hi,if_true]
     refine⟨c3 i x hx',(c4 i x hx').1,(c4 i x hx').2,λj u hj=>?_⟩
     have hjl:j<ae P e:=by rw[←(c4 i x hx').1];exact(List.getElem?_eq_some_iff.1 hj).1
     have h5:(i+1)*ae P e≤xs.length*ae P e:=Nat.mul_le_mul_right _ hi
     rw[Nat.succ_mul]at h5
     rw[Nat.add_assoc (base+off*ae P e),bD hfit,if_neg (by omega)]
     have:=g7 i x hx' j u hj
     rwa [show base+off*ae P e+i*ae P e+j=base+off*ae P e+(i*ae P e+j) by omega]at this
    ·simp only[show ¬i<xs.length by omega,if_false]
     refine⟨y3 _ x hx',(y4 _ x hx').1,(y4 _ x hx').2,λj u hj=>?_⟩
     have:=n4 _ x hx' j u hj
     have hl:=(List.getElem?_eq_some_iff.1 this).1
     have hmul:i*ae P e=xs.length*ae P e+(i-xs.length)*ae P e:=by rw[←Nat.add_mul];congr 1;omega
     rw[Nat.add_assoc (base+off*ae P e),bD hfit,if_pos (by omega),show base+off*ae P e+(i*ae P e+j)-(base+off*ae P e+xs.length*ae P e)=(i-xs.length)*ae P e+j by omega]
     exact this)
   refine⟨_,_,C',_,_,hrun _ _ _ _ _ _ hap (by rw[hxq,hlm]) hye,.inr ⟨hyl,rfl,rfl⟩,k1,k2,.one rfl (.row hroom g2 (by omega) (λow how=>?_))⟩
   rw[k4]at how
   cases how
   refine⟨b,base+off*ae P e,room,rfl,λ_=>by simp,?_⟩
   rw[Nat.zero_add,Nat.add_assoc,←Nat.add_mul]
   exact g6
  ·obtain⟨k1,k2⟩:=hr.st.kill id hidl
   cases ad with
   |none=>
    have hc0:cap=0:=by
     rcases Nat.eq_zero_or_pos cap with h|h
     ·exact h
     ·have:=g5 h;cases this
    subst hc0
    have hm0:m=0:=by omega
    have hxs0:xs=[]:=by rw[←List.length_eq_zero_iff];omega
    subst hxs0
    simp only[List.length_nil,Nat.zero_add]at hbytes hmax hmax' hlm
    have hap:=run_append_nil (P:=P) w t o.type e inf' z0 htu hinf hiz ⟨by_,oy,none⟩ ys.length capy news (by rw[n1,hsz]) n2' hpos (by omega) (by omega)
    have hge:=grownCap_ge w ys.length 0 e
    have hcap:=grownCap_le_maxLen w ys.length 0 e hmax
    obtain⟨C',q1,q2,q3⟩:=mO (P:=P) (W0:=W0) k2.drew (e:=e) (zs:=ys) (cap:=grownCap w ys.length 0 e) (arr:=news.toArray++Builtin.zeroCells z0.cells (grownCap w ys.length 0 e-ys.length)) (cf:=cfy) hge hcap
     (by simp only[Array.size_append,List.size_toArray,size_zeroCells,n1,hzs,←Nat.add_mul];congr 1;omega)
     (λi x hx=>⟨(y3 i x hx).mono (k1.trans (Step.drew w _)),(y4 i x hx).1,(y4 i x hx).2,λj u hj=>by
      have:=n4 i x hx j u hj
      rw[Array.getElem?_append_left (by simpa using (List.getElem?_eq_some_iff.1 this).1)]
      simpa using this⟩)
    rw[List.length_set]at q3
    refine⟨_,_,C',_,_,hrun _ _ _ _ _ _ hap (by rw[hxq,hm0]) hye,.inr ⟨hyl,rfl,rfl⟩,(k1.trans (Step.drew w _)).trans q1,by simpa[bQ]using q2,by simpa using q3⟩
   |some b'=>
    have hcells: ∃olds:List Value,olds.length=xs.length*ae P e∧(∀(j:Nat) (u:Value),olds[j]?=some u→w.cell? (b'.add j)=some u)∧ ∀i x,xs[i]?=some x→ ∀(j:Nat) (u:Value),(cf i)[j]?=some u→olds[i*ae P e+j]?=some u:=by
     by_cases hxl:xs=[]
     ·subst hxl;exact⟨[],by simp,by simp,by simp⟩
     ·have hcp:0<cap:=by
       have:0<xs.length:=by cases xs with|nil=>exact absurd rfl hxl|cons=>simp
       omega
      have hb':=g5 hcp
      cases hb'
      have hrd:eY A.st (.row e id off m) e xs:=.inr (.inr ⟨id,off,m,zs,rfl,hs,hm,hxs.symm⟩)
      refine⟨(arr.toList.drop (base+off*ae P e)).take (xs.length*ae P e),?_,λj u hj=>?_,λi x hx j u hj=>?_⟩
      ·have h6:base+(off+xs.length)*ae P e≤arr.size:=by rw[m3];exact Nat.le_trans (Nat.add_le_add_left (Nat.mul_le_mul_right _ (by omega)) _) (Nat.le_of_eq g6)
       rw[Nat.add_mul]at h6
       simp only[List.length_take,List.length_drop,Array.length_toList]
       omega
      ·rw[List.getElem?_take]at hj
       split at hj
       ·rw[List.getElem?_drop,Array.getElem?_toList]at hj
        rw[Addr.add_lit]
        simp[World.cell?,m2,hj]
       ·cases hj
      ·have hi:=(List.getElem?_eq_some_iff.1 hx).1
       have hjl:j<ae P e:=by rw[←(c4 i x hx).1];exact(List.getElem?_eq_some_iff.1 hj).1
       have h5:(i+1)*ae P e≤xs.length*ae P e:=Nat.mul_le_mul_right _ hi
       rw[Nat.succ_mul]at h5
       rw[List.getElem?_take,if_pos (by omega),List.getElem?_drop,Array.getElem?_toList]
       have:=g7 i x hx j u hj
       rwa [show base+off*ae P e+i*ae P e+j=base+off*ae P e+(i*ae P e+j) by omega]at this
    obtain⟨olds,p1,p2,p4⟩:=hcells
    obtain⟨r,w',C',q0,q1,q2,q3⟩:=fresh (C.kill id) (A.st.set id none) b' cap olds cf k1 k2 (by simp) (by rw[hxq,hlm]) (by omega) p1 p2 c3 c4 p4
    exact⟨r,w',C',_,_,q0,.inr ⟨hyl,rfl,rfl⟩,q1,q2,q3⟩
end
end Go.Av
end
section
namespace Go.Av
open Go
section
variable {P :Program}{W0 w w':World}{C C':Ctx}{σ σ':ab}{n:Nat}{A:aa}{a:Act}{o:Oper}
theorem tK {z:Array Value}{sz m i j:Nat}{u:Value}(hz:z.size=sz)(hi:i<m)(hj:z[j]?=some u):(madeCells z (m*sz))[i*sz+j]?=some u:=by
 have hjl:j<sz:=by rw[←hz];exact(Array.getElem?_eq_some_iff.1 hj).1
 have:(i+1)*sz≤m*sz:=Nat.mul_le_mul_right _ hi
 rw[Nat.succ_mul]at this
 have hlt:i*sz+j<m*sz:=by omega
 have hmod:(i*sz+j) % z.size=j:=by rw[hz,Nat.mul_comm,Nat.mul_add_mod];exact Nat.mod_eq_of_lt hjl
 simp only[madeCells,Array.getElem?_map,Array.getElem?_range,hlt,if_true,Option.map_some]
 rw[hmod]
 obtain⟨h1,h2⟩:=Array.getElem?_eq_some_iff.1 hj
 rw[getElem!_pos z j h1,h2]
theorem we (hr:fJ P W0 o w C A a){x y:Operand}{t e:TypeId}{k k':IntKind}{m:Int}{v:AV}(ho:o.op= .makeSlice t x y)(hx:Is P W0 o A x (.int k m))(hy:Is P W0 o A y (.int k' m))(ht:elT P t=some e)(hz:zeroOf P e=some v)(he:0<ae P e)
  (h0:0≤m) (hb:m.toNat*bytesOf P e≤281474976710656) (hm:m.toNat≤maxLen):
  ∃r w' C',(execOp a.eval o).run P w= .ok (.value r) w'∧Step w C w' C'∧aB P W0 w' C' (A.st++[some (.cells e (List.replicate m.toNat v))])∧aG P w' C' (.row e A.st.length 0 m.toNat) r:=by
 obtain⟨inf,z,hi,hiz,hc,hf⟩:=ji (w:=w) (C:=C) hz
 obtain⟨inf',hinf,hsz⟩:=bJ he
 obtain rfl:inf'=inf:=by rw[hi]at hinf;exact(Option.some.inj hinf).symm
 have hcl:z.cells.size=ae P e:=by have:=hc.bq hf;simpa using this
 rw[oB hi]at hb
 have hm':m≤9223372036854775807:=by unfold maxLen at hm;omega
 have hxe:=(hx w C a hr).cF
 have hye:=(hy w C a hr).cF
 have hrun:=run_make (P:=P) w t e inf' z (cn ht) hi hiz k k' m m h0 (Int.le_refl _) (by
  have h2:((inf'.bytes:Nat):Int)*m=((m.toNat*inf'.bytes:Nat):Int):=by rw[Int.natCast_mul,Int.toNat_of_nonneg h0,Int.mul_comm]
  rw[h2];exact Int.ofNat_le.2 hb) hm'
 obtain⟨C',g1,g2,g3⟩:=mO (P:=P) (W0:=W0) hr.st (e:=e) (zs:=List.replicate m.toNat v) (cap:=m.toNat) (arr:=madeCells z.cells (m.toNat*inf'.size)) (cf:=λ_=>z.cells.toList) (by simp) hm (by rw[size_madeCells,hsz])
  (λi x hx=>by
   simp only[List.getElem?_replicate]at hx
   split at hx
   ·cases hx
    rename_i hlt
    refine⟨hc,by simpa using hcl,hf,λj u hj=>?_⟩
    rw[hsz]
    exact tK hcl hlt (by simpa using hj)
   ·cases hx)
 simp only[List.length_replicate]at g3
 refine⟨_,_,C',?_,g1,g2,g3⟩
 simp[execOp,ho,hxe,hye,hrun]
theorem uz (hr:fJ P W0 o w C A a){x y:Operand}{t u e:TypeId}{k kn:IntKind}{m:Nat}{v:AV}(ho:o.op= .call { callee:=.builtin .append,args:=#[x,y],argTypes:=#[t,u] })
  (hx:Is P W0 o A x .ay) (hy:Is P W0 o A y (.int k m)) (ht:elT P t=some e) (hu:P.underlying u=some (.int kn)) (he:0<ae P e) (hz:zeroOf P e=some v) (h0:0<m) (hb:m*bytesOf P e≤140737488355328) (hm:m≤maxLen):
  ∃r w' C',(execOp a.eval o).run P w= .ok (.value r) w'∧Step w C w' C'∧aB P W0 w' C' (A.st++[some (.cells e (List.replicate m v))])∧aG P w' C' (.row e A.st.length 0 m) r:=by
 obtain⟨inf,z,hi,hiz,hc,hf⟩:=ji (w:=w) (C:=C) hz
 obtain⟨inf',hinf,hsz⟩:=bJ he
 obtain rfl:inf'=inf:=by rw[hi]at hinf;exact(Option.some.inj hinf).symm
 have hcl:z.cells.size=ae P e:=by have:=hc.bq hf;simpa using this
 rw[oB hi]at hb
 have hm':(m:Int)≤9223372036854775807:=by unfold maxLen at hm;omega
 have hxe:=(hx w C a hr).dP
 have hye:=(hy w C a hr).cF
 have hrun:=Lib.run_append_nil_zeros (P:=P) w t u o.type e inf' z k kn (cn ht) hu hi hiz m h0 (by rw[hsz];exact he) hm' (by omega)
 have hge:=grownCap_ge w m 0 e
 have hcap:=grownCap_le_maxLen w m 0 e (by omega)
 obtain⟨C',g1,g2,g3⟩:=mO (P:=P) (W0:=W0) hr.st.drew (e:=e) (zs:=List.replicate m v) (cap:=grownCap w m 0 e) (arr:=Builtin.zeroCells z.cells m++Builtin.zeroCells z.cells (grownCap w m 0 e-m)) (cf:=λ_=>z.cells.toList) (by simpa using hge) hcap
  (by simp only[Array.size_append,size_zeroCells,hcl,←Nat.add_mul];congr 1;omega)
  (λi x hx=>by
   simp only[List.getElem?_replicate]at hx
   split at hx
   ·cases hx
    rename_i hlt
    refine⟨hc.mono (Step.drew w C),by simpa using hcl,hf,λj u hj=>?_⟩
    have hjl:j<ae P e:=by rw[←hcl];simpa using (List.getElem?_eq_some_iff.1 hj).1
    have h5:(i+1)*ae P e≤m*ae P e:=Nat.mul_le_mul_right _ hlt
    rw[Nat.succ_mul]at h5
    rw[Array.getElem?_append_left (by rw[size_zeroCells,hcl];omega)]
    have hzm:Builtin.zeroCells z.cells m=madeCells z.cells (m*ae P e):=by simp only[Builtin.zeroCells,madeCells,hcl]
    rw[hzm]
    exact tK hcl hlt (by simpa using hj)
   ·cases hx)
 simp only[List.length_replicate]at g3
 refine⟨_,_,C',?_,(Step.drew w C).trans g1,g2,g3⟩
 simp[execOp,ho,resolve,invoke,builtin,hxe,hye,hrun]
end
end Go.Av
end
section
namespace Go.Av
open Go
section
variable {P :Program}{W0 w w':World}{C C':Ctx}{σ σ':ab}{n:Nat}{A:aa}{a:Act}{o:Oper}
theorem CF (h:aB P W0 w C σ){id b base room:Nat}{fr:Nat×Nat}{e t':TypeId}{xs zs:List AV}{arr arr':Array Value}{cf:Nat→List Value}(hs:σ[id]?=some (some (.cells e xs)))(hm:C.m id=some (.obj b e base room))(hb:w.heap[b]?=some (.cells arr t' fr))(hf:xa fr arr.size)
  (hsz:arr.size=room) (hsize:arr'.size=arr.size) (hfit:base+zs.length*ae P e≤room)
  (hz: ∀i x,zs[i]?=some x→Rel P w C x (cf i)∧(cf i).length=ae P e∧fits P e x∧ ∀(j:Nat) (u:Value),(cf i)[j]?=some u→arr'[base+i*ae P e+j]?=some u):
  Step w C (w.setRow b arr') C∧aB P W0 (w.setRow b arr') C (σ.set id (some (.cells e zs))):=by
 have hstep:=ra (w:=w) hm arr'
 have hidl:id<σ.length:=(List.getElem?_eq_some_iff.1 hs).1
 refine⟨hstep,h.change hstep h.low (by simpa using h.nx) h.inj h.dom (λj=>?_)⟩
 rw[kl _ _ _ _ hidl]
 by_cases hj:j=id
 ·left
  subst hj
  rw[if_pos rfl,hm]
  refine⟨rfl,_,t',fr,setRow_heap w b arr _ t' _ hb,by rw[hsize];exact hf,by rw[hsize,hsz],hfit,cf,λq x hq=>?_⟩
  obtain⟨g1,g2,g3,g4⟩:=hz q x hq
  exact⟨g1.mono hstep,g2,g3,g4⟩
 ·right
  rw[if_neg hj]
  exact⟨rfl,rfl,λx hx=>setRow_other w b x.blk _ (λe=>hj (h.inj j id x _ hx hm (by simpa[Own.blk]using e)))⟩
theorem pR {zs ys:List AV}{k:Nat}(h:k+ys.length≤zs.length):(iG zs k ys).length=zs.length:=by simp[iG];omega
theorem uM {zs ys:List AV}{k:Nat}(h:k+ys.length≤zs.length)(i:Nat):(iG zs k ys)[i]?=if k≤i∧i<k+ys.length then ys[i-k]? else zs[i]?:=by
 have hk:(zs.take k).length=k:=by simp;omega
 unfold iG
 by_cases h1:i<k
 ·rw[if_neg (by omega),List.append_assoc,List.getElem?_append_left (by omega),List.getElem?_take,if_pos h1]
 ·by_cases h2:i<k+ys.length
  ·rw[if_pos ⟨by omega,h2⟩,List.getElem?_append_left (by simp;omega),List.getElem?_append_right (by omega),hk]
  ·rw[if_neg (by omega),List.getElem?_append_right (by simp;omega),List.getElem?_drop]
   congr 1
   simp
   omega
theorem vz {zs:List AV}{k:Nat}:iG zs k []=zs:=by simp[iG]
theorem zm (hr:aB P W0 w C σ){e te:TypeId}{id off m:Nat}{zs:List AV}{v:Value}(hv:aG P w C (.row e id off m) v)(he:0<ae P e)(hs:σ[id]?=some (some (.cells te zs))):
  te=e∧ ∃ad cap b base room arr t' fr,v= .slice ad m cap∧m≤cap∧cap≤maxLen∧C.m id=some (.obj b e base room)∧w.heap[b]?=some (.cells arr t' fr)∧xa fr arr.size∧arr.size=room∧base+zs.length*ae P e≤room∧
   (0<cap→ad=some ⟨b,base+off*ae P e,none⟩)∧zs.length≤off+cap∧id<C.nx∧
   ∃cf:Nat→List Value,∀i x,zs[i]?=some x→Rel P w C x (cf i)∧(cf i).length=ae P e∧fits P e x∧ ∀(j:Nat) (c:Value),(cf i)[j]?=some c→arr[base+i*ae P e+j]?=some c:=by
 have hv':=hv.aM rfl
 obtain⟨b,base,room,arr,t',fr,m1,m2,mf,m3,m4,cf,m5⟩:=hr.cells hs
 cases hv' with
 |row h1 h2 h3 h4=>
  obtain⟨b',base',room',e1,e2,e3⟩:=h4 _ m1
  cases e1
  refine⟨rfl,_,_,b,base,room,arr,t',fr,rfl,h1,h2,m1,m2,mf,m3,m4,e2,?_,h3,cf,m5⟩
  rw[←e3]at m4
  have:=Nat.le_of_add_le_add_left m4
  exact Nat.le_of_mul_le_mul_right this he
theorem xL (hr:fJ P W0 o w C A a){x y:Operand}{t u e:TypeId}{id off m:Nat}{zs ys:List AV}{z:AV}(ho:o.op= .call { callee:=.builtin .append,args:=#[x,y],argTypes:=#[t,u] })
  (hx:Is P W0 o A x (.row e id off m)) (hy:Is P W0 o A y z) (ht:elT P t=some e) (hu:elT P u=some e) (he:0<ae P e) (hs:A.st[id]?=some (some (.cells e zs))) (hys:eY A.st z e ys) (hm:off+m+ys.length≤zs.length):
  ∃r w',(execOp a.eval o).run P w= .ok (.value r) w'∧Step w C w' C∧aB P W0 w' C (A.st.set id (some (.cells e (iG zs (off+m) ys))))∧aG P w' C (.row e id off (m+ys.length)) r:=by
 obtain⟨inf,hinf,hsz⟩:=bJ he
 have htu:=cn ht
 have hrun: ∀b l c yv r w',(Builtin.append_ #[t,t] o.type #[.slice b l c,yv]).run P w= .ok r w'→a.eval x= .slice b l c→a.eval y=yv→(execOp a.eval o).run P w= .ok (.value r) w':=λb l c yv r w' h h1 h2=>by
  rw[←gF htu (cn hu) hinf]at h
  simp[execOp,ho,resolve,invoke,builtin,h1,h2,h]
 have hxv:=hx w C a hr
 have hyv:=hy w C a hr
 obtain⟨ady,capy,cfy,hye,y3,y4,y5⟩:=hys.cells hr.st hyv
 obtain⟨_,ad,cap,b,base,room,arr,t',fr,hxe,c1,c2,m1,m2,mf,m3,m4,e2,e3,hid,cf,m5⟩:=zm hr.st hxv he hs
 have hidl:id<A.st.length:=(List.getElem?_eq_some_iff.1 hs).1
 by_cases hyl:ys=[]
 ·subst hyl
  rw[vz,show A.st.set id (some (.cells e zs))=A.st from by
   refine List.ext_getElem? λi=>?_
   by_cases hi:id=i
   ·subst hi;rw[List.getElem?_set_self hidl,hs]
   ·rw[List.getElem?_set_ne hi]]
  exact⟨_,w,hrun _ _ _ _ _ _ (im htu hinf _ _ _ _ _ _ c1 w) hxe hye,.refl _ _,hr.st,by rw[←hxe];exact hxv⟩
 have hpos:0<ys.length:=by cases ys with|nil=>exact absurd rfl hyl|cons=>simp
 obtain⟨by_,oy,rfl,news,n1,n2,n3,n4⟩:=y5 hpos
 have n2': ∀j u,news[j]?=some u→w.cell? ((⟨by_,oy,none⟩:Addr).add j)=some u:=λj u hj=>by rw[Addr.add_lit];exact n2 j u hj
 obtain rfl:=e2 (by omega)
 have h6:base+(off+m+ys.length)*ae P e≤arr.size:=by rw[m3];exact Nat.le_trans (Nat.add_le_add_left (Nat.mul_le_mul_right _ hm) _) m4
 have hfit:base+off*ae P e+m*ae P e+news.length≤arr.size:=by
  rw[n1]
  rw[Nat.add_mul,Nat.add_mul]at h6
  omega
 have hap:=iF (P:=P) w t o.type e inf htu hinf b (base+off*ae P e) m cap t' fr arr m2 mf ⟨by_,oy,none⟩ ys.length capy news (by rw[n1,hsz]) n2' n3 (by omega) (by rw[hsz];exact hfit)
 rw[hsz]at hap
 have hsize:(bz arr (base+off*ae P e+m*ae P e) news).size=arr.size:=dt hfit
 have hoff:base+off*ae P e+m*ae P e=base+(off+m)*ae P e:=by rw[Nat.add_mul];omega
 obtain⟨k1,k2⟩:=CF hr.st (zs:=iG zs (off+m) ys) (cf:=λi=>if off+m≤i∧i<off+m+ys.length then cfy (i-(off+m))else cf i) hs m1 m2 mf m3 hsize (by rw[pR hm];exact m4) (λi x hx=>by
  rw[uM hm]at hx
  by_cases hi:off+m≤i∧i<off+m+ys.length
  ·rw[if_pos hi]at hx
   simp only[hi,and_self,if_true]
   refine⟨y3 _ x hx,(y4 _ x hx).1,(y4 _ x hx).2,λj u hj=>?_⟩
   have:=n4 _ x hx j u hj
   have hl:=(List.getElem?_eq_some_iff.1 this).1
   have hmul:i*ae P e=(off+m)*ae P e+(i-(off+m))*ae P e:=by rw[←Nat.add_mul];congr 1;omega
   rw[bD hfit,if_pos (by omega),show base+i*ae P e+j-(base+off*ae P e+m*ae P e)=(i-(off+m))*ae P e+j by omega]
   exact this
  ·rw[if_neg hi]at hx
   simp only[hi,if_false]
   obtain⟨q1,q2,q3,q4⟩:=m5 i x hx
   refine⟨q1,q2,q3,λj u hj=>?_⟩
   have hjl:j<ae P e:=by rw[←q2];exact(List.getElem?_eq_some_iff.1 hj).1
   rw[bD hfit,if_neg ?_]
   ·exact q4 j u hj
   ·rintro⟨b1,b2⟩
    rw[hoff]at b1 b2
    rw[n1]at b2
    rcases Nat.lt_or_ge i (off+m)with hlt|hge
    ·have h5:(i+1)*ae P e≤(off+m)*ae P e:=Nat.mul_le_mul_right _ hlt
     rw[Nat.succ_mul]at h5
     omega
    ·have h5:(off+m+ys.length)*ae P e≤i*ae P e:=Nat.mul_le_mul_right _ (by omega)
     rw[Nat.add_mul]at h5
     omega)
 refine⟨_,_,hrun _ _ _ _ _ _ hap hxe hye,k1,k2,.one rfl (.row (by omega) c2 hid (λow how=>?_))⟩
 have hxv':=hxv.aM rfl
 rw[hxe]at hxv'
 cases hxv' with
 |row _ _ _ h4=>exact h4 ow how
theorem HH (hr:fJ P W0 o w C A a){x:Operand}{t e:TypeId}{id off m:Nat}{zs:List AV}{v:AV}(ho:o.op= .call { callee:=.builtin .clear,args:=#[x],argTypes:=#[t] })
  (hx:Is P W0 o A x (.row e id off m)) (ht:elT P t=some e) (he:0<ae P e) (hz:zeroOf P e=some v) (hs:A.st[id]?=some (some (.cells e zs))) (hm:off+m≤zs.length):
  ∃r w',(execOp a.eval o).run P w= .ok (.value r) w'∧Step w C w' C∧aB P W0 w' C (A.st.set id (some (.cells e (iG zs off (List.replicate m v)))))∧aG P w' C (.tup []) r:=by
 obtain⟨inf,z,hi,hiz,hc,hf⟩:=ji (w:=w) (C:=C) hz
 obtain⟨inf',hinf,hsz⟩:=bJ he
 obtain rfl:inf'=inf:=by rw[hi]at hinf;exact(Option.some.inj hinf).symm
 have hcl:z.cells.size=ae P e:=by have:=hc.bq hf;simpa using this
 have htu:=cn ht
 have hxv:=hx w C a hr
 obtain⟨_,ad,cap,b,base,room,arr,t',fr,hxe,c1,c2,m1,m2,mf,m3,m4,e2,e3,hid,cf,m5⟩:=zm hr.st hxv he hs
 have hidl:id<A.st.length:=(List.getElem?_eq_some_iff.1 hs).1
 have hrel: ∀w',aG P w' C (.tup []) (.tuple #[]):=λw'=>.tup (vs:=[]) rfl (λi a v h=>by simp at h)
 have hzv:(zeroValue e).run P w= .ok z w:=by simp[zeroValue,typeInfo,hi,hiz]
 by_cases hm0:m=0
 ·subst hm0
  rw[show iG zs off (List.replicate 0 v)=zs from vz,show A.st.set id (some (.cells e zs))=A.st from by
   refine List.ext_getElem? λi=>?_
   by_cases hi:id=i
   ·subst hi;rw[List.getElem?_set_self hidl,hs]
   ·rw[List.getElem?_set_ne hi]]
  refine⟨_,w,?_,.refl _ _,hr.st,hrel _⟩
  cases ad<;>simp[execOp,ho,resolve,invoke,builtin,hxe,Builtin.clear_,run_underlying htu]
 obtain rfl:=e2 (by omega)
 have hzm:Builtin.zeroCells z.cells m=madeCells z.cells (m*ae P e):=by simp only[Builtin.zeroCells,madeCells,hcl]
 have hll:(Builtin.zeroCells z.cells m).toList.length=m*ae P e:=by simp[size_zeroCells,hcl]
 have hrl:(List.replicate m v).length=m:=by simp
 have h6:base+(off+m)*ae P e≤arr.size:=by rw[m3];exact Nat.le_trans (Nat.add_le_add_left (Nat.mul_le_mul_right _ hm) _) m4
 have hfit:base+off*ae P e+(Builtin.zeroCells z.cells m).toList.length≤arr.size:=by
  rw[hll]
  rw[Nat.add_mul]at h6
  omega
 have hone: ∀u∈(Builtin.zeroCells z.cells m).toList,u.oneCell'=true:=λu hu=>by
  rw[hzm]at hu
  simp only[madeCells,Array.toList_map,List.mem_map]at hu
  obtain⟨q,hq,rfl⟩:=hu
  have hq':q % z.cells.size<z.cells.size:=Nat.mod_lt _ (by omega)
  rw[getElem!_pos z.cells _ hq']
  exact hc.kr _ (by simp)
 have hst:=ef P b (base+off*ae P e) t' fr (Builtin.zeroCells z.cells m).toList 0 arr w m2 mf (by simpa using hfit) hone
 simp only[Nat.add_zero]at hst
 have hsize:(bz arr (base+off*ae P e) (Builtin.zeroCells z.cells m).toList).size=arr.size:=dt hfit
 obtain⟨k1,k2⟩:=CF hr.st (zs:=iG zs off (List.replicate m v)) (cf:=λi=>if off≤i∧i<off+m then z.cells.toList else cf i) hs m1 m2 mf m3 hsize (by rw[pR (by rw[hrl];exact hm)];exact m4) (λi x hx=>by
  rw[uM (by rw[hrl];exact hm),hrl]at hx
  by_cases hi:off≤i∧i<off+m
  ·rw[if_pos hi,List.getElem?_replicate,if_pos (by omega)]at hx
   cases hx
   simp only[hi,and_self,if_true]
   refine⟨hc,by simpa using hcl,hf,λj u hj=>?_⟩
   have hjl:j<ae P e:=by rw[←hcl];simpa using (List.getElem?_eq_some_iff.1 hj).1
   have h5:(i-off+1)*ae P e≤m*ae P e:=Nat.mul_le_mul_right _ (by omega)
   rw[Nat.succ_mul]at h5
   have hmul:i*ae P e=off*ae P e+(i-off)*ae P e:=by rw[←Nat.add_mul];congr 1;omega
   rw[bD hfit,if_pos (by omega),show base+i*ae P e+j-(base+off*ae P e)=(i-off)*ae P e+j by omega,hzm,Array.getElem?_toList]
   exact tK hcl (show i-off<m by omega) (by simpa using hj)
  ·rw[if_neg hi]at hx
   simp only[hi,if_false]
   obtain⟨q1,q2,q3,q4⟩:=m5 i x hx
   refine⟨q1,q2,q3,λj u hj=>?_⟩
   have hjl:j<ae P e:=by rw[←q2];exact(List.getElem?_eq_some_iff.1 hj).1
   rw[bD hfit,if_neg ?_]
   ·exact q4 j u hj
   ·rintro⟨b1,b2⟩
    rw[hll]at b2
    rcases Nat.lt_or_ge i off with hlt|hge
    ·have h5:(i+1)*ae P e≤off*ae P e:=Nat.mul_le_mul_right _ hlt
     rw[Nat.succ_mul]at h5
     omega
    ·have h5:(off+m)*ae P e≤i*ae P e:=Nat.mul_le_mul_right _ (by omega)
     rw[Nat.add_mul]at h5
     omega)
 refine⟨_,_,?_,k1,k2,hrel _⟩
 have esp:bz arr (base+off*ae P e) (Builtin.zeroCells z.cells m).toList=(arr.toList.take (base+off*ae P e)++(Builtin.zeroCells z.cells m).toList++arr.toList.drop (base+off*ae P e+(Builtin.zeroCells z.cells m).toList.length)).toArray:=rfl
 rw[esp]
 have hne: ∀(q:Nat),m=q→(Builtin.clear_ #[t] o.type #[.slice (some ⟨b,base+off*ae P e,none⟩) q cap]).run P w= .ok (.tuple #[]) (w.setRow b (arr.toList.take (base+off*ae P e)++(Builtin.zeroCells z.cells m).toList++arr.toList.drop (base+off*ae P e+(Builtin.zeroCells z.cells m).toList.length)).toArray):=λq hq=>by
  cases q with
  |zero=>exact absurd hq hm0
  |succ q=>simp[Builtin.clear_,run_underlying htu,hzv,←hq,hst]
 simp[execOp,ho,resolve,invoke,builtin,hxe,hne m rfl]
theorem zv (hr:fJ P W0 o w C A a){t e:TypeId}{m:Nat}{ps:Array (Nat×Operand)}{qs:List (Nat×AV)}(ho:o.op= .buildSlice t m ps)(ht:elT P t=some e)(he:0<ae P e)(hz:bu P e=true)(hm:m*ae P e≤2^24)
  (hq:jC P W0 o A ps.toList qs) (hk:qs.map (·.1)=List.range' 0 m) (hf: ∀p∈qs,fits P e p.2):
  ∃r w' C',(execOp a.eval o).run P w= .ok (.value r) w'∧Step w C w' C'∧aB P W0 w' C' (A.st++[some (.cells e (qs.map (·.2)))])∧aG P w' C' (.row e A.st.length 0 m) r:=by
 obtain⟨inf,z,hinf,hiz,_⟩:=gT hz
 have hsz:inf.size=ae P e:=by simp[ae,hinf]
 have hlen:qs.length=m:=by have:=congrArg List.length hk;simpa using this
 have hzv:(zeroValue e).run P w= .ok z w:=by simp[zeroValue,typeInfo,hinf,hiz]
 have hsv:(sizeOf e).run P w= .ok (ae P e) w:=by simp[sizeOf,typeInfo,hinf,hsz]
 have hbig: ¬m*ae P e>2^24:=by omega
 have hrun: ∀arr:Array Value,arr.size=m*ae P e→ ∃cells',Instr.fill (λi=>some (i*ae P e,ae P e)) arr (ps.toList.map λq=>(q.1,a.eval q.2))=some cells'∧cells'.size=arr.size∧(∀p,p<0*ae P e→cells'[p]?=arr[p]?)∧HP P w C e 0 (qs.map (·.2)) cells':=
  λarr harr=>kA m qs (ps.toList.map λq=>(q.1,a.eval q.2)) 0 arr (by rw[hk,hlen]) (by simpa using hq.1) harr (by omega) (hq.rel hr) hf
 have e1:(Array.map (λx=>(x.1,a.eval x.2)) ps).toList=ps.toList.map λq=>(q.1,a.eval q.2):=by simp
 obtain⟨zc,hzc⟩: ∃zc:Array Value,zc=if m*ae P e=0 then #[]else z.cells:=⟨_,rfl⟩
 obtain⟨cells',f1,f2,_,cf,f4⟩:=hrun ((Array.range (m*ae P e)).map (zc[· % zc.size]!)) (by simp)
 have hl:(qs.map (·.2)).length=m:=by simpa using hlen
 have hmax:m≤maxLen:=by
  have:m*1≤m*ae P e:=Nat.mul_le_mul_left _ he
  unfold maxLen;omega
 have hsize:cells'.size=m*ae P e:=by simpa using f2
 obtain⟨C',k1,k2,k3,_⟩:=zi (P:=P) (W0:=W0) hr.st (e:=e) (zs:=qs.map (·.2)) (cap:=m) (arr:=cells') (cf:=cf) (by rw[hl];exact Nat.le_refl _) hmax hsize (λi x hx=>by
  have:=f4 i x hx
  rw[Nat.zero_add]at this
  exact⟨this.1,this.1.bq this.2.1,this.2.1,this.2.2⟩)
 rw[hl]at k3
 refine⟨_,_,C',?_,k1,k2,k3⟩
 simp only[execOp,ho,Instr.buildSlice,Sem.run_bind,Result.andThen_ok,run_underlying (cn ht),hsv,hbig,if_false,Sem.run_pure]
 by_cases h0:m*ae P e=0
 ·rw[if_pos h0]at hzc ⊢
  subst hzc
  simp only[Sem.run_bind,Sem.run_pure,Result.andThen_ok]
  rw[e1,f1]
  simp only[newRow,newObj,Sem.run_bind,Sem.run_pure]
  rfl
 ·rw[if_neg h0]at hzc ⊢
  subst hzc
  simp only[Sem.run_bind,Sem.run_pure,Result.andThen_ok,hzv]
  rw[e1,f1]
  simp only[newRow,newObj,Sem.run_bind,Sem.run_pure]
  rfl
end
end Go.Av
end
section
namespace Go.Av
open Go
section
variable {P :Program}{W0 w w':World}{C C':Ctx}{σ σ':ab}{n:Nat}{A:aa}{a:Act}{o:Oper}{fz:List Nat}{K:aa→Prop}
theorem dN {v:Value}(hrun:(execOp a.eval o).run P w= .ok (.value v) w'){next:Act→World→Prop}{Qx:Exit→Act→World→Prop}(h:next (a.put o.dst v) w'):o.wp P a w next Qx:=by
 unfold Oper.wp
 rw[hrun]
 exact h
theorem pP (hrun:(execOp a.eval o).run P w= .ok .skip w'){next:Act→World→Prop}{Qx:Exit→Act→World→Prop}(h:next (a.put o.dst undef) w'):o.wp P a w next Qx:=by
 unfold Oper.wp
 rw[hrun]
 exact h
theorem bL {x:Operand}(hm:x∈o.op.operands){k:AV→Prop}(h:strip none (A.val x) k): ∃u,k u∧Is P W0 o A x u:=aV (gd:=none) hm h
theorem mc {xs:List Operand}(hm: ∀x∈xs,x∈o.op.operands){k:List AV→Prop}(h:stripL none (xs.map A.val) k): ∃us,k us∧IsL P W0 o A xs us:=fT (gd:=none) _ _ hm h
theorem Bf (hr:bI P W0 n w C A a)(hd:iJ n o.dst){t:TypeId}{x y:Operand}{u v:AV}(ho:o.op= .store t x y)(hx:Is P W0 o A x u)(hy:Is P W0 o A y v)
  (h:kR P fz A t x u v λA'=>K (A'.put o.dst .undef)) {next:Act→World→Prop} {Qx:Exit→Act→World→Prop}
  (hn: ∀A' C' a' w',K A'→bI P W0 n w' C' A' a'→Step w C w' C'→next a' w'):o.wp P a w next Qx:=by
 unfold kR at h
 split at h
 ·obtain⟨⟨rfl,hf⟩,h⟩:=h
  rename_i t' id i path
  split at h
  ·rename_i te xs hs
   split at h
   ·rename_i z hz
    split at h
    ·rename_i y0 hy0
     split at h
     ·rename_i d
      have hl:look A.st id i path=some y0:=by simp[look,hs,hz,hy0]
      obtain⟨w',r1,r2,r3⟩:=qg (hr.toO o) ho hx hy hl (eO hf) hs hz
      have hidl:id<A.st.length:=(List.getElem?_eq_some_iff.1 hs).1
      split at h
      ·-- given up
       obtain⟨rfl,h⟩:=h
       have hzz:z=y0:=by cases z<;>simpa[AV.at]using hy0
       subst hzz
       have hi:i<xs.length:=(List.getElem?_eq_some_iff.1 hz).1
       have hset:z.setAt [] v=v:=by cases z<;>rfl
       rw[hset]at r3
       have hs':(A.st.set id (some (.cells te (xs.set i v))))[id]?=some (some (.cells te (xs.set i v))):=by simp[hidl]
       have hv:=(hx w C a (hr.toO o)).mono r2
       have hfr:=kF (x:=v) r3 hv hs' (by simp[hi])
       obtain⟨k1,k2⟩:=r3.kill id (by simpa using hidl)
       rw[List.set_set]at k2
       have hr1:=hr.step (r2.trans k1) k2
       have hdn:d<n:=by
        by_cases hdn:d<n
        ·exact hdn
        ·have hle:a.tmps.size≤d:=by rw[hr.size];exact Nat.le_of_not_lt hdn
         have:a.eval (.tmp d)=undef:=by
          show a.tmps.getD d undef=undef
          rw[Array.getD_eq_getD_getElem?,Array.getElem?_eq_none hle]
          rfl
         rw[this]at hfr
         obtain⟨_,_,_,e,_⟩:=hfr.ph
         cases e
       have hr2:bI P W0 n w' (C.kill id) ((A.upd d (.loc t' v)).an (A.st.set id none)) a:=by
        refine⟨λj=>?_,hr1.defers,hr1.size,hr1.st⟩
        by_cases hj:j=d
        ·subst hj
         have hfr':aG P w' (C.kill id) (.loc t' v) (a.tmps.getD j undef):=hfr
         simpa[aa.upd,aa.an]using hfr'
        ·have:=hr1.env j;simpa[aa.upd,aa.an,hj]using this
       have hr3:=ko (o:=o) (v:=.undef) (x:=undef) hr2 hd (.undef _)
       exact pP r1 (hn _ _ _ _ h hr3 (r2.trans k1))
      ·have hr1:=hr.step r2 r3
       have hr3:=ko (o:=o) (v:=.undef) (x:=undef) hr1 hd (.undef _)
       exact pP r1 (hn _ _ _ _ h hr3 r2)
     ·exact h.elim
    ·exact h.elim
   ·exact h.elim
  ·exact h.elim
 ·exact h.elim
def D1 (fz:List Nat):Op→Prop
 | .store _ (.tmp d) _=>fz.contains d=false
 |_=>True
theorem yL (hr:fJ P W0 o w C A a){t:TypeId}{x y:Operand}{u v:AV}(ho:o.op= .store t x y)(hnf:D1 fz (.store t x y))(hx:Is P W0 o A x u)(hy:Is P W0 o A y v)
  (h:kR P fz A t x u v λA'=>K (A'.put o.dst .undef)) {next:Act→World→Prop} {Qx:Exit→Act→World→Prop}
  (hn: ∀v x σ' w' C',K ((A.put o.dst v).an σ')→aG P w' C' v x→aB P W0 w' C' σ'→Step w C w' C'→next (a.put o.dst x) w'):o.wp P a w next Qx:=by
 unfold kR at h
 split at h
 ·obtain⟨⟨rfl,hf⟩,h⟩:=h
  rename_i t' id i path
  split at h
  ·rename_i te xs hs
   split at h
   ·rename_i z hz
    split at h
    ·rename_i y0 hy0
     split at h
     ·rename_i d
      have hl:look A.st id i path=some y0:=by simp[look,hs,hz,hy0]
      obtain⟨w',r1,r2,r3⟩:=qg hr ho hx hy hl (eO hf) hs hz
      rw[if_neg (by simp only[D1]at hnf;rw[hnf];simp)]at h
      refine pP r1 (hn .undef undef _ w' C ?_ (.undef _) r3 r2)
      have e: ∀σ,(A.an σ).put o.dst .undef=(A.put o.dst .undef).an σ:=λσ=>by cases o.dst<;>rfl
      rw[←e];exact h
     ·exact h.elim
    ·exact h.elim
   ·exact h.elim
  ·exact h.elim
 ·exact h.elim
theorem sN (hr:fJ P W0 o w C A a)(hnf:D1 fz o.op)(h:uy P W0 n fz o A K){next:Act→World→Prop}{Qx:Exit→Act→World→Prop}
  (hn: ∀v x σ' w' C',K ((A.put o.dst v).an σ')→aG P w' C' v x→aB P W0 w' C' σ'→Step w C w' C'→next (a.put o.dst x) w'):o.wp P a w next Qx:=by
 have hval:jl P W0 none o.op A (λv=>K (A.put o.dst v))→o.wp P a w next Qx:=λh=>by
  obtain⟨v,hK,hp⟩:=fC hr h
  exact hp w C a hr _ _ λx w' hv hs hst=>hn v x A.st w' C (by
   have e:(A.put o.dst v).an A.st=A.put o.dst v:=by cases o.dst<;>rfl
   rw[e];exact hK) hv hst hs
 obtain⟨hd,h⟩:=h
 split at h
 ·rename_i c hc
  obtain⟨callee,args,argTypes⟩:=c
  split at h
  ·rename_i f hf
   simp only at hf
   subst hf
   obtain⟨fv,h,hfv⟩:=bL (P:=P) (W0:=W0) (o:=o) (by simp[*,Op.operands,Call.operands]) h
   obtain⟨us,h,hus⟩:=mc (P:=P) (W0:=W0) (o:=o) (λy hy=>by simp[*,Op.operands,Call.operands];simp at hy;simp[hy]) h
   split at h
   ·refine yf hr hc hfv hus h (λv r σ' w' C' hK hst hv hs=>hn r v σ' w' C' hK hv hst hs)
   ·exact h.elim
  ·rename_i hf
   simp only at hf
   subst hf
   obtain⟨us,h2,hus⟩:=mc (P:=P) (W0:=W0) (o:=o) (λy hy=>by simp[*,Op.operands,Call.operands];simp at hy;simp[hy]) h
   clear h
   split at h2
   ·obtain⟨x,y,hxy,hx,hy⟩:=nq hus
    simp only at hxy
    subst hxy
    rcases h2 with h2|h2|h2|h2|h2|h2
    ·unfold pK at h2
     split at h2
     ·rename_i ts t u hts
      obtain rfl:argTypes= #[t,u]:=by rw[←Array.toArray_toList (xs:=argTypes)];simp only at hts;rw[hts]
      obtain⟨e,xs,ys,⟨h1,h2,h3,h4⟩,h5,h6,h7,h8,h9⟩:=h2
      obtain⟨r,w',C',v',σ',g1,g2,g3,g4,g5⟩:=Ef hr hc hx hy h1 h2 h3 h4 h5 h6 h7 h8
      exact dN g1 (hn v' r σ' w' C' (h9 v' σ' g2) g5 g4 g3)
     ·exact h2.elim
    ·unfold jR at h2
     split at h2
     ·rename_i ts t u hts
      obtain rfl:argTypes= #[t,u]:=by rw[←Array.toArray_toList (xs:=argTypes)];simp only at hts;rw[hts]
      obtain⟨e,xs,ys,⟨h1,h2,h3,h4⟩,h5,h6,h7,h8,h9,h10⟩:=h2
      obtain⟨r,w',C',v',σ',g1,g2,g3,g4,g5⟩:=xy hr hc hx hy h1 h2 h3 h4 h5 h6 h7 h8
      refine dN g1 (hn v' r σ' w' C' ?_ g5 g4 g3)
      rcases g2 with⟨e1,rfl,rfl⟩|⟨e1,rfl,rfl⟩
      ·exact h9 e1
      ·exact h10 e1
     ·exact h2.elim
    ·unfold iL at h2
     split at h2
     ·rename_i ts t u hts
      obtain rfl:argTypes= #[t,u]:=by rw[←Array.toArray_toList (xs:=argTypes)];simp only at hts;rw[hts]
      obtain⟨e,m,z,k,kn,⟨rfl,rfl⟩,⟨h1,h2,h3,h4,h5⟩,h6,h7,h8,h9⟩:=h2
      obtain⟨r,w',C',g1,g2,g3,g4⟩:=uz hr hc hx hy h1 h2 h3 h5 h6 h7 h8
      exact dN g1 (hn _ r _ w' C' h9 g4 g3 g2)
     ·exact h2.elim
    ·unfold kL at h2
     split at h2
     ·rename_i ts t u hts
      obtain rfl:argTypes= #[t,u]:=by rw[←Array.toArray_toList (xs:=argTypes)];simp only at hts;rw[hts]
      obtain⟨e,id,off,m,zs,ys,⟨h1,h2,h3⟩,rfl,h4,h5,h6,h7⟩:=h2
      obtain⟨r,w',g1,g2,g3,g4⟩:=xL hr hc hx hy h1 h2 h3 h4 h5 h6
      exact dN g1 (hn _ r _ w' C h7 g4 g3 g2)
     ·exact h2.elim
    ·exact False.elim h2
    ·exact False.elim h2
   ·exact h2.elim
  ·rename_i hf
   simp only at hf
   subst hf
   obtain⟨us,h2,hus⟩:=mc (P:=P) (W0:=W0) (o:=o) (λy hy=>by simp[*,Op.operands,Call.operands];simp at hy;simp[hy]) h
   clear h
   split at h2
   ·obtain⟨x,hxy,hx⟩:=gw hus
    simp only at hxy
    subst hxy
    unfold rS at h2
    split at h2
    ·rename_i ts t hts
     obtain rfl:argTypes= #[t]:=by rw[←Array.toArray_toList (xs:=argTypes)];simp only at hts;rw[hts]
     obtain⟨e,id,off,m,zs,v,⟨h1,h2,h3⟩,rfl,h4,h5,h6⟩:=h2
     obtain⟨r,w',g1,g2,g3,g4⟩:=HH hr hc hx h1 h2 h3 h4 h5
     exact dN g1 (hn _ r _ w' C h6 g4 g3 g2)
    ·exact h2.elim
   ·exact h2.elim
  ·exact hval h
 ·rename_i t x hop
  split at h
  ·rename_i d hdst
   split at h
   ·obtain⟨v,h,hv⟩:=bL (P:=P) (W0:=W0) (o:=o) (by simp[*,Op.operands]) h
    exact(Fi hop hv (eO h.1)).pure w C a hr _ _ λx w' hv hs hst=>hn _ x A.st w' C (by
     have e:(A.put o.dst (.loc t v)).an A.st=A.put o.dst (.loc t v):=by cases o.dst<;>rfl
     rw[e,hdst];exact h.2) hv hst hs
   ·obtain⟨v,h,hv⟩:=bL (P:=P) (W0:=W0) (o:=o) (by simp[*,Op.operands]) h
    obtain⟨y,w',C',g1,g2,g3,g4⟩:=IL hr hop hv (eO h.1)
    exact dN g1 (hn _ y _ w' C' (by rw[hdst];exact h.2) g2 g4 g3)
  ·exact h.elim
 ·rename_i t hop
  split at h
  ·rename_i v hz
   obtain⟨y,w',C',g1,g2,g3,g4⟩:=Dd hr hop hz
   exact dN g1 (hn _ y _ w' C' h g2 g4 g3)
  ·exact h.elim
 ·rename_i t x y hop
  obtain⟨u,h,hu⟩:=bL (P:=P) (W0:=W0) (o:=o) (by simp[*,Op.operands]) h
  obtain⟨v,h,hv⟩:=bL (P:=P) (W0:=W0) (o:=o) (by simp[*,Op.operands]) h
  unfold xo at h
  split at h
  ·obtain⟨rfl,h⟩:=h
   split at h
   ·rename_i e he
    split at h
    ·rename_i z hz
     obtain⟨h1,h2,h3,h4,h5⟩:=h
     obtain⟨r,w',C',g1,g2,g3,g4⟩:=we hr hop hu hv he hz h1 h2 h3 h4
     exact dN g1 (hn _ r _ w' C' h5 g4 g3 g2)
    ·exact h.elim
   ·exact h.elim
  ·exact h.elim
 ·rename_i t x y hop
  obtain⟨u,h,hu⟩:=bL (P:=P) (W0:=W0) (o:=o) (by simp[*,Op.operands]) h
  obtain⟨v,h,hv⟩:=bL (P:=P) (W0:=W0) (o:=o) (by simp[*,Op.operands]) h
  exact yL hr hop (by rw[hop]at hnf;exact hnf) hu hv h hn
 ·rename_i t x hop
  obtain⟨ht,h⟩:=h
  obtain⟨u,h,hu⟩:=bL (P:=P) (W0:=W0) (o:=o) (by simp[*,Op.operands]) h
  split at h
  ·obtain⟨y,w',C',g1,g2,g3,g4⟩:=Fg hr hop hu (eC ht)
   exact dN g1 (hn _ y _ w' C' h g2 g4 g3)
  ·exact h.elim
 ·rename_i x hop
  obtain⟨u,h,hu⟩:=bL (P:=P) (W0:=W0) (o:=o) (by simp[*,Op.operands]) h
  split at h
  ·split at h
   ·rename_i l pos hs
    rcases Nat.lt_or_ge pos l.length with hp|hp
    ·obtain⟨y,w',g1,g2,g3,g4⟩:=EC hr hop hu hs hp
     exact dN g1 (hn _ y _ w' C (h.1 hp) g2 g4 g3)
    ·obtain⟨y,g1,g2⟩:=Dg hr hop hu hs hp
     exact dN g1 (hn _ y A.st w C (by
      have e:(A.put o.dst (.tup [.bool false])).an A.st=A.put o.dst (.tup [.bool false]):=by cases o.dst<;>rfl
      rw[e];exact h.2 hp) g2 hr.st (.refl _ _))
   ·exact h.elim
  ·exact h.elim
 ·rename_i t x lo hi mx hop
  rcases h with h|h
  ·exact hval h
  obtain⟨u,h,hu⟩:=bL (P:=P) (W0:=W0) (o:=o) (by simp[*,Op.operands]) h
  exact False.elim h
 ·rename_i s d x hop
  rcases h with h|h
  ·exact hval h
  obtain⟨u,h,hu⟩:=bL (P:=P) (W0:=W0) (o:=o) (by simp[*,Op.operands]) h
  exact False.elim h
 ·rename_i t m ps hop
  rcases h with h|h
  ·exact hval h
  obtain⟨qs,h,hq⟩:=gG (gd:=none) (P:=P) (W0:=W0) (o:=o) _ _ (λp hp=>by simp only[hop,Op.operands];exact List.mem_toArray.2 (List.mem_map_of_mem hp)) h
  unfold nr at h
  split at h
  ·rename_i e he
   obtain⟨⟨g1,g2,g3,g4,g5⟩,hK⟩:=h
   obtain⟨y,w',C',q1,q2,q3,q4⟩:=zv hr hop he g1 g2 (by omega) hq g4 (λp hp=>eO (List.all_eq_true.1 g5 p hp))
   exact dN q1 (hn _ y _ w' C' hK q4 q3 q2)
  ·exact h.elim
 ·rename_i t hop
  split at h
  ·rename_i kt vt ht
   obtain⟨y,w',C',g1,g2,g3,g4⟩:=IM hr hop kt
   exact dN g1 (hn _ y _ w' C' h g2 g4 g3)
  ·exact h.elim
 ·rename_i t x ix y hop
  obtain⟨u,h,hu⟩:=bL (P:=P) (W0:=W0) (o:=o) (by simp[*,Op.operands]) h
  obtain⟨k,h,hk⟩:=bL (P:=P) (W0:=W0) (o:=o) (by simp[*,Op.operands]) h
  obtain⟨v,h,hv⟩:=bL (P:=P) (W0:=W0) (o:=o) (by simp[*,Op.operands]) h
  exact False.elim h
 ·exact hval h
theorem wL (hr:bI P W0 n w C A a)(h:uy P W0 n fz o A K){next:Act→World→Prop}{Qx:Exit→Act→World→Prop}
  (hn: ∀A' C' a' w',K A'→bI P W0 n w' C' A' a'→Step w C w' C'→next a' w'):o.wp P a w next Qx:=by
 have key:D1 fz o.op→o.wp P a w next Qx:=λhnf=>sN (hr.toO o) hnf h λv x σ' w' C' hK hv hst hs=>hn _ C' _ w' hK (kc hr h.1 hs hst hv) hs
 cases hop:o.op
 case store t x y=>
  obtain⟨hd,h2⟩:=h
  rw[hop]at h2
  obtain⟨u,h2,hu⟩:=bL (P:=P) (W0:=W0) (o:=o) (by simp[*,Op.operands]) h2
  obtain⟨v,h2,hv⟩:=bL (P:=P) (W0:=W0) (o:=o) (by simp[*,Op.operands]) h2
  exact Bf hr hd hop hu hv h2 hn
 all_goals exact key (by rw[hop];trivial)
theorem sH {ops:Array Oper}{j:Nat}{want G:Bool}(hr:bI P W0 n w C A a)(h:zf ops A j want=some G)(ho:o.guard=some (j,want)):Region.wanted o (yielded ops a.tmps)=G:=by
 unfold zf at h
 split at h
 ·rename_i d hd
  have he:=hr.env d
  have hget:a.tmps.getD d undef=(a.tmps[d]?).getD undef:=by simp
  split at h
  ·rename_i b hb
   rw[hb]at he
   simp only[Option.some.injEq]at h
   have hv:=he.gi
   rw[hget]at hv
   cases ht:a.tmps[d]? with
   |none=>rw[ht]at hv;cases hv
   |some v=>
    rw[ht]at hv
    simp only[Option.getD_some]at hv
    subst hv h
    have hy:yielded ops a.tmps j=some b:=by unfold yielded;rw[hd];simp only[Option.bind_some,ht]
    simp only[Region.wanted,ho,hy]
    cases b<;>cases want<;>rfl
  ·rename_i g b hb
   rw[hb]at he
   simp only[Option.some.injEq]at h
   cases he with
   |one h1=>simp[AV.aX]at h1
   |maybe h1 h2=>
    cases g with
    |true=>
     have hv:=(h1 rfl).gi
     rw[hget]at hv
     cases ht:a.tmps[d]? with
     |none=>rw[ht]at hv;cases hv
     |some v=>
      rw[ht]at hv
      simp only[Option.getD_some]at hv
      subst hv
      subst h
      have hy:yielded ops a.tmps j=some b:=by unfold yielded;rw[hd];simp only[Option.bind_some,ht]
      simp only[Region.wanted,ho,hy]
      cases b<;>cases want<;>rfl
    |false=>
     have hv:=h2 rfl
     rw[hget]at hv
     subst h
     have hy:yielded ops a.tmps j=none:=by
      unfold yielded
      rw[hd]
      simp only[Option.bind_some]
      cases ht:a.tmps[d]? with
      |none=>rfl
      |some v=>
       rw[ht]at hv
       simp only[Option.getD_some]at hv
       subst hv
       rfl
     simp only[Region.wanted,ho,hy]
     cases want<;>rfl
  ·rename_i v0 hnb hb
   rw[hb]at he
   simp only[Option.some.injEq]at h
   cases he with
   |one h1=>simp[AV.aX]at h1
   |maybe h1 h2=>
    have hv:=h2 rfl
    rw[hget]at hv
    subst h
    have hy:yielded ops a.tmps j=none:=by
     unfold yielded
     rw[hd]
     simp only[Option.bind_some]
     cases ht:a.tmps[d]? with
     |none=>rfl
     |some v=>
      rw[ht]at hv
      simp only[Option.getD_some]at hv
      subst hv
      rfl
    simp only[Region.wanted,ho,hy]
    cases want<;>rfl
  ·cases h
 ·cases h
theorem Fk {G:Bool}(hr:bI P W0 n w C A a)(h:jl P W0 (some G) o.op A λv=>K (A.put o.dst (.maybe G v))):
  ∃v,K (A.put o.dst (.maybe G v))∧(G=true→db P W0 o A v):=fC (hr.toO o) h
theorem gP {ops:Array Oper}{Qx:Exit→Act→World→Prop}: ∀(l:List Oper) (K:aa→Prop) (A:aa) (w:World) (C:Ctx) (a:Act),bI P W0 n w C A a→oX P W0 n fz ops l K A→
  (∀A' C' a' w',K A'→bI P W0 n w' C' A' a'→Step w C w' C'→Qx .normal a' w')→kP P ops Qx l a w
 |[],K,A,w,C,a,hr,h,hn=>yx (hn A C a w h hr (.refl _ _))
 |o::r,K,A,w,C,a,hr,h,hn=>by
  have nd: ∀{K':aa→Prop},uy P W0 n fz o A K'→ ∀c,o.op≠ .defer c:=λh=>dU (wL hr h λA' C' a' w' _ hr' _=>hr'.defers.trans hr.defers.symm)
  simp only[oX]at h
  split at h
  ·rename_i hg
   exact nU (by simp[Region.wanted,hg]) (wL hr h (λA' C' a' w' hK hr' hs=>gP r K A' w' C' a' hr' hK (λA'' C'' a'' w'' hK' hr'' hs'=>hn A'' C'' a'' w'' hK' hr'' (hs.trans hs')))) (nd h)
  ·rename_i j want hg
   split at h
   ·rename_i G hG
    obtain⟨hd,h⟩:=h
    have hw:=sH hr hG hg
    rcases h with h|⟨ht,hf⟩
    case inr=>
     cases G with
     |true=>exact nU hw (wL hr (ht rfl) (λA' C' a' w' hK hr' hs=>gP r K A' w' C' a' hr' hK (λA'' C'' a'' w'' hK' hr'' hs'=>hn A'' C'' a'' w'' hK' hr'' (hs.trans hs')))) (nd (ht rfl))
     |false=>
      obtain⟨v0,hf0⟩:=hf rfl
      exact oA hw (gP r K (A.put o.dst (.maybe false v0)) w C _ (ko hr hd (aG.maybe (λe=>by cases e) (λ_=>rfl))) hf0 hn)
    obtain⟨v,hK,hp⟩:=Fk hr h
    cases G with
    |true=>
     refine nU hw (hp rfl w C a (hr.toO o) _ _ λx w' hv hs hst=>gP r K (A.put o.dst (.maybe true v)) w' C _ ?_ hK (λA'' C'' a'' w'' hK' hr'' hs'=>hn A'' C'' a'' w'' hK' hr'' (hs.trans hs'))) (dU (hp rfl w C a (hr.toO o) _ _ λx w' _ _ _=>put_defers a o.dst x))
     have:=kc (o:=o) hr hd hs hst (aG.maybe (g:=true) (λ_=>hv) (λe=>by cases e))
     cases ho:o.dst<;>simpa[ho,aa.put,aa.upd,aa.an]using this
    |false=>
     refine oA hw (gP r K (A.put o.dst (.maybe false v)) w C _ ?_ hK hn)
     exact ko hr hd (aG.maybe (λe=>by cases e) (λ_=>rfl))
   ·exact h.elim
theorem VC.region {id:Nat}{l:List Oper}{Q:Exit→aa→Prop}(h:oX P W0 n fz l.toArray l (λA'=>Q .normal A') A):VC P W0 n (.region id l.toArray false) Q A:=λw C a hr=>
 sh (gP l _ A w C a hr h λA' C' _ _ q r s=>⟨A',C',q,r,s⟩)
def ij (args:List AV):Nat→AV:=λi=>args[i]?.getD .undef
def ib (env:Nat→AV):List Nat→AV
 |[t]=>env t
 |ts=>.tup (ts.map env)
theorem vP {F:ResultVar→Sem Value}{tmps:Array Value}(hF: ∀t,(F (.tmp t)).run P w= .ok (tmps.getD t undef) w): ∀ts:List Nat,((ts.map ResultVar.tmp).mapM F).run P w= .ok (ts.map λt=>tmps.getD t undef) w
 |[]=>rfl
 |t::ts=>by
  rw[List.map_cons,List.mapM_cons]
  simp only[Sem.run_bind,hF,Result.andThen_ok,vP hF ts,Sem.run_pure,List.map_cons]
theorem mm {fn:Func}{ts:List Nat}(hr:bI P W0 n w C A a)(h:fn.results=(ts.map ResultVar.tmp).toArray): ∃v,(results fn a.tmps).run P w= .ok v w∧aG P w C (ib A.env ts) v:=by
 have hm:(results fn a.tmps).run P w= .ok (if h:(ts.map λt=>a.tmps.getD t undef).toArray.size=1 then(ts.map λt=>a.tmps.getD t undef).toArray[0]else .tuple (ts.map λt=>a.tmps.getD t undef).toArray) w:=by
  unfold results
  rw[h,Array.mapM_eq_mapM_toList]
  simp only[Sem.run_bind,Sem.run_map]
  rw[vP (tmps:=a.tmps) (λt=>rfl) ts]
  rfl
 match ts,hm with
 |[],hm=>exact⟨_,hm,.tup (vs:=[]) rfl (by simp)⟩
 |[t],hm=>exact⟨_,hm,hr.env t⟩
 |t::u::ts,hm=>
  refine⟨_,hm,?_⟩
  rw[dif_neg (by simp)]
  refine .tup (by simp) (λi x v hx hv=>?_)
  simp only[List.getElem?_map,Option.map_eq_some_iff]at hx hv
  obtain⟨q,hq,rfl⟩:=hx
  obtain⟨q',hq',rfl⟩:=hv
  rw[hq]at hq'
  cases hq'
  exact hr.env q
def Mv (ts:List Nat)(Q:AV→ab→Prop)(σ:ab):Exit→aa→Prop
 | .normal,A| .ret,A=>∃ r' σ',cT (ib A.env ts) r'∧(σ.length≤σ'.length∧σ'=A.st.take σ'.length)∧(∀id te xs,id<σ'.length→A.st[id]?=some (some (.cells te xs))→ ∀x∈xs,aS σ'.length x)∧aS σ'.length r'∧Q r' σ'
 |_,_=>False
theorem j6 {args:List AV}{vs:List Value}{m:Nat}(hst:aB P W0 w C σ)(hl:args.length=vs.length)(hv: ∀(i:Nat)(a:AV)(v:Value),args[i]?=some a→vs[i]?=some v→aG P w C a v)(hargs:args.length≤m):
  bI P W0 m w C ⟨ij args,σ⟩ { tmps:=vs.toArray++Array.replicate (m-vs.toArray.size) undef,defers:=[] }:=by
 refine⟨λi=>?_,rfl,by simp;omega,hst⟩
 simp only[ij]
 by_cases hi:i<args.length
 ·have h1:=List.getElem?_eq_getElem hi
  have h2:=List.getElem?_eq_getElem (l:=vs) (show i<vs.length by omega)
  rw[h1,Option.getD_some]
  have h3:=hv i _ _ h1 h2
  have:(vs.toArray++Array.replicate (m-vs.toArray.size) undef).getD i undef=vs[i]:=by
   rw[Array.getD_eq_getD_getElem?,Array.getElem?_append_left (by simp;omega)]
   simp[h2]
  rw[this]
  exact h3
 ·rw[List.getElem?_eq_none (by omega),Option.getD_none]
  exact .undef _
theorem qV {f : FuncId} {fn : Func} {c : Code} {args : List AV} {Q : AV → ab → Prop} (hf : P.funcs[f]? = some fn) (hb : fn.body = some c) (hnm : (fn.name == "runtime.NumGoroutine") = false) (hargs : args.length ≤ fn.ntmps) {ts : List Nat} (hres : fn.results = (ts.map ResultVar.tmp).toArray)
  (h:VC P W0 fn.ntmps c (Mv ts Q σ) ⟨ij args,σ⟩):aZ P W0 f args σ Q:=by
 refine λw C vs hst hl hv=>.inl ⟨⟨fn,hf,by simp[hb],hnm⟩,calls_of_wp hf hb ?_⟩
 have hr:bI P W0 fn.ntmps w C ⟨ij args,σ⟩ { tmps:=vs.toArray++Array.replicate (fn.ntmps-vs.toArray.size) undef,defers:=[] }:=by
  refine⟨λi=>?_,rfl,by simp;omega,hst⟩
  simp only[ij]
  by_cases hi:i<args.length
  ·have h1:=List.getElem?_eq_getElem hi
   have h2:=List.getElem?_eq_getElem (l:=vs) (show i<vs.length by omega)
   rw[h1,Option.getD_some]
   have h3:=hv i _ _ h1 h2
   have:(vs.toArray++Array.replicate (fn.ntmps-vs.toArray.size) undef).getD i undef=vs[i]:=by
    rw[Array.getD_eq_getD_getElem?,Array.getElem?_append_left (by simp;omega)]
    simp[h2]
   rw[this]
   exact h3
  ·rw[List.getElem?_eq_none (by omega),Option.getD_none]
   exact .undef _
 refine wp_mono (wC (h w C _ hr)) λe a' w' ⟨A',C',q,r,s⟩=>?_
 have fin:(∃r' σ',cT (ib A'.env ts) r'∧(σ.length≤σ'.length∧σ'=A'.st.take σ'.length)∧(∀id te xs,id<σ'.length→A'.st[id]?=some (some (.cells te xs))→ ∀x∈xs,aS σ'.length x)∧aS σ'.length r'∧Q r' σ')→
   a'.defers=[]∧ ∃v,(results fn a'.tmps).run P w'= .ok v w'∧ ∃v₁ r σ' C',Ending.returned v= .returned v₁∧Q r σ'∧aB P W0 w' C' σ'∧aG P w' C' r v₁∧Step w C w' C':=by
  rintro⟨r1,σ',h2,⟨h3,h4⟩,h5,h6,h7⟩
  obtain⟨v,g1,g2⟩:=mm r hres
  have hle:σ'.length≤A'.st.length:=by have:=congrArg List.length h4;rw[List.length_take]at this;omega
  refine⟨r.defers,v,g1,v,r1,σ',C'.dG σ'.length,rfl,h7,?_,(g2.cG h2).dG h6,s.dG (by rw[hst.nx];exact h3)⟩
  have:=r.st.dG hle h5
  rwa [←h4]at this
 cases e with
 |normal=>exact fin q
 |ret=>exact fin q
 |_=>exact q.elim
end
end Go.Av
end
section
namespace Go.Av
open Go
def isW :Op→Bool| .store _ _ _=>true|_=>false
def Jj (fz:List Nat):Option Nat→Bool|some d=>fz.contains (2000000+d)|none=>false
def rdM (fz:List Nat):Option Nat→Bool|some d=>fz.contains (3000000+d)|none=>false
def eM (fz:List Nat)(id:Nat)(o:Oper):Bool:=match o.dst with|some d=>fz.contains (2000000+d)|none=>fz.contains (4000000+id)
def isR (fz:List Nat)(dst:Option Nat):Op→Bool
 | .load _ (.tmp d)=>!(fz.contains d||fz.contains (6000000+d))
 | .load _ _=>true
 | .indexAddr _ _ _=>true
 | .lookup _ _ _ _=>true
 | .call _=>rdM fz dst
 |_=>false
def isZ :Op→Bool| .load _ (.tmp _)=>true|_=>false
def AB :Op→Bool| .alloc _=>true|_=>false
theorem vR {op:Op}(h:isW op=true):isZ op=false:=by cases op<;>first|rfl|(simp[isW]at h)
def iq (P:Program)(W0:World)(fz:List Nat)(o:Oper)(A:aa)(v:AV):Prop:=
 db P W0 o A v∧(isR fz o.dst o.op=false→ ∀σ,db P W0 o (A.an σ) v)∧(isZ o.op=true→ ∀τ,db P W0 o (A.an (A.st++τ)) v)
def B8 (P:Program)(W0:World)(o:Oper)(A:aa)(σ':ab):Prop:=
 ∀w C a,fJ P W0 o w C A a→ ∃w',(execOp a.eval o).run P w= .ok .skip w'∧Step w C w' C∧aB P W0 w' C σ'
def iA (P:Program)(W0:World)(n:Nat)(fz:List Nat)(ops:Array Oper)(o:Oper)(A:aa)(v:AV)(σ':ab):Prop:=
 iJ n o.dst∧(match o.guard with
  |none=>(isW o.op=false∧σ'=A.st∧iq P W0 fz o A v)∨(isW o.op=true∧v= .undef∧B8 P W0 o A σ')
  |some (j,want)=>isW o.op=false∧σ'=A.st∧ ∃G u,zf ops A j want=some G∧v= .maybe G u∧(G=true→iq P W0 fz o A u))
inductive Seq (P:Program)(W0:World)(n:Nat)(fz:List Nat)(E:Oper→Bool)(ops:Array Oper):List Oper→aa→List AV→List ab→aa→Prop
 |nil (A):Seq P W0 n fz E ops [] A [] [] A
 |cons {o r A v σ' vs ss B}:E o=false→iA P W0 n fz ops o A v σ'→Seq P W0 n fz E ops r ((A.put o.dst v).an σ') vs ss B→Seq P W0 n fz E ops (o::r) A (v::vs) (σ'::ss) B
 |skip {o r A vs ss B}:E o=true→Seq P W0 n fz E ops r A vs ss B→Seq P W0 n fz E ops (o::r) A (.undef::vs) (A.st::ss) B
def Ch :List (List Nat)→List Oper→List (List Nat)
 |acc,[]=>acc
 |acc,o::r=>Ch (acc++[((o.after.toList.filter (Region.binds .any)).flatMap λe=>e.on::(acc[e.on]?).getD []).eraseDups]) r
def T7 (ops:Array Oper)(ac:List (List Nat)):Bool:=
 (List.range ops.size).all λi=>match ops[i]? with
  |none=>true
  |some o=>((ac[i]?).getD []).all λj=>o.after.any λe=>Region.binds .any e&&(e.on==j||((ac[e.on]?).getD []).contains j)
def eH (o:Oper)(j:Nat):Bool:=o.after.any λe=>e.on==j&&Region.binds .any e
def BQ (fz:List Nat)(E:Oper→Bool)(ops:Array Oper)(ac:List (List Nat))(i j:Nat)(oi oj:Oper):Bool:=
 ((match oj.dst with
  |none=>true
  |some d=>oi.dst !=some d&&(!(oi.looksAt ops).contains d||((if j<i then eH oi j else eH oj i)&&(!E oj||E oi||decide (i<j))&&(!(E oi&& !E oj)||decide (j<i)))))&&
 (!(!E oj&& !E oi&&isW oj.op&&(isW oi.op||isR fz oi.dst oi.op))||(if j<i then((ac[i]?).getD []).contains j else((ac[j]?).getD []).contains i)))&&
 ((!(E oi&&E oj&&decide (j<i))||((ac[i]?).getD []).contains j)&&
 (!(E oi&& !E oj&&(isW oj.op||isR fz oj.dst oj.op))||((AB oi.op&&isZ oj.op)||((ac[i]?).getD []).contains j)))
def yP (fz:List Nat)(E:Oper→Bool)(ops:Array Oper)(ac:List (List Nat)):Bool:=
 T7 ops ac&&(List.range ops.size).all λi=>match ops[i]? with
  |none=>true
  |some oi=>oi.after.all (λe=>!Region.binds .any e||decide (e.on<i))&&(!E oi||oi.guard.isNone)&&(List.range ops.size).all λj=>match ops[j]? with
   |none=>true
   |some oj=>i==j||BQ fz E ops ac i j oi oj
structure jG (E:Oper→Bool)(ops:Array Oper)(vs:List AV)(A:aa)(S:Nat→Prop)(B:aa):Prop where
 set: ∀i o d v,S i→ops[i]?=some o→E o=false→o.dst=some d→vs[i]?=some v→B.env d=v
 old: ∀d,(∀i o,S i→ops[i]?=some o→E o=false→o.dst≠some d)→B.env d=A.env d
section
variable {P :Program}{W0 w w':World}{C C':Ctx}{n:Nat}{A:aa}{a:Act}{o:Oper}{ops:Array Oper}{K:aa→Prop}{fz:List Nat}{E:Oper→Bool}{ac:List (List Nat)}
theorem aa.E2 (A:aa)(d:Option Nat)(v:AV):(A.put d v).st=A.st:=by cases d<;>rfl
theorem fO {d:Nat}(h:o.dst=some d)(v:AV):(A.put o.dst v).env d=v:=by rw[h];exact A.zt d v
theorem ee {d:Nat}(h:o.dst≠some d)(v:AV):(A.put o.dst v).env d=A.env d:=by
 cases ho:o.dst with
 |none=>rfl
 |some d'=>exact A.s7 v (λe=>h (by rw[ho,e]))
def tQ (ops:Array Oper):Prop:=∀ (i j:Nat) (oi oj:Oper) (d:Nat),ops[i]?=some oi→ops[j]?=some oj→oi.dst=some d→oj.dst=some d→i=j
theorem jG.put {vs:List AV}{S:Nat→Prop}{B:aa}{i:Nat}{v:AV}(hD:tQ ops)(h:jG E ops vs A S B)(hi:ops[i]?=some o)(hE:E o=false)(hv:vs[i]?=some v):jG E ops vs A (λj=>S j∨j=i) (B.put o.dst v):=by
 refine⟨λj oj d u hj hoj hej hd hu=>?_,λd hd=>?_⟩
 ·rcases hj with hj|rfl
  ·by_cases hod:o.dst=some d
   ·have:=hD i j o oj d hi hoj hod hd
    subst this
    rw[hv]at hu
    cases hu
    exact fO hod v
   ·rw[ee hod];exact h.set j oj d u hj hoj hej hd hu
  ·rw[hi]at hoj
   cases hoj
   rw[hv]at hu
   cases hu
   exact fO hd v
 ·rw[ee (hd i o (.inr rfl) hi hE)]
  exact h.old d (λj oj hj=>hd j oj (.inl hj))
theorem gR (A:aa)(σ:ab):(A.an σ).env=A.env:=rfl
theorem BS {vs:List AV}{ss:List ab}: ∀(l:List Oper) (us:List AV) (ts:List ab) (k:Nat) (T B:aa),tQ ops→(∀j,l[j]?=ops[k+j]?)→(∀j,us[j]?=vs[k+j]?)→(∀j,ts[j]?=ss[k+1+j]?)→ss[k]?=some T.st→Seq P W0 n fz E ops l T us ts B→jG E ops vs A (· <k) T→
  (∀j o v,l[j]?=some o→us[j]?=some v→ ∃Tj σ',jG E ops vs A (· <k+j) Tj∧ss[k+j]?=some Tj.st∧ss[k+j+1]?=some σ'∧(E o=true→σ'=Tj.st)∧(E o=false→iA P W0 n fz ops o Tj v σ'))∧jG E ops vs A (· <k+l.length) B∧us.length=l.length∧ss[k+l.length]?=some B.st
 |[],us,ts,k,T,B,_,_,_,_,h0,hs,he=>by
  cases hs
  exact⟨by simp,by simpa using he,rfl,h0⟩
 |o::r,us,ts,k,T,B,hD,hl,hu,ht,h0,hs,he=>by
  have hok:ops[k]?=some o:=by have:=hl 0;simpa using this.symm
  have hl': ∀j,r[j]?=ops[k+1+j]?:=λj=>by have:=hl (j+1);rw[show k+(j+1)=k+1+j by omega]at this;simpa using this
  cases hs with
  |cons hE h1 h2=>
   rename_i v σ' vs' ss'
   have hvk:vs[k]?=some v:=by have:=hu 0;simpa using this.symm
   have hsk:ss[k+1]?=some σ':=by have:=ht 0;simpa using this.symm
   have he':jG E ops vs A (· <k+1) ((T.put o.dst v).an σ'):=by
    have:=he.put hD hok hE hvk
    exact⟨λi oi d u hi=>this.set i oi d u (by omega),λd hd=>this.old d (λi oi hi=>hd i oi (by omega))⟩
   obtain⟨g1,g2,g3,g4⟩:=BS r vs' ss' (k+1) _ B hD hl' (λj=>by have:=hu (j+1);rw[show k+(j+1)=k+1+j by omega]at this;simpa using this)
    (λj=>by have:=ht (j+1);rw[show k+1+(j+1)=k+1+1+j by omega]at this;simpa using this) hsk h2 he'
   refine⟨λj oj u hj huj=>?_,?_,by simp[g3],?_⟩
   ·cases j with
    |zero=>simp at hj huj;subst hj huj;exact⟨T,σ',by simpa using he,h0,hsk,λe=>by (rw[hE]at e;cases e),λ_=>h1⟩
    |succ j=>
     simp at hj huj
     obtain⟨Tj,σj,e1,e2,e3,e4⟩:=g1 j oj u hj huj
     rw[show k+1+j=k+(j+1) by omega]at e1 e2 e3
     exact⟨Tj,σj,e1,e2,e3,e4⟩
   ·rw[List.length_cons,show k+(r.length+1)=k+1+r.length by omega];exact g2
   ·rw[List.length_cons,show k+(r.length+1)=k+1+r.length by omega];exact g4
  |skip hE h2=>
   rename_i vs' ss'
   have hsk:ss[k+1]?=some T.st:=by have:=ht 0;simpa using this.symm
   have he':jG E ops vs A (· <k+1) T:=by
    refine⟨λi oi d u hi hoi hei=>?_,λd hd=>he.old d (λi oi hi=>hd i oi (by omega))⟩
    rcases Nat.lt_succ_iff_lt_or_eq.1 hi with hi'|hi'
    ·exact he.set i oi d u hi' hoi hei
    ·subst hi';rw[hok]at hoi;cases hoi;rw[hE]at hei;cases hei
   obtain⟨g1,g2,g3,g4⟩:=BS r vs' ss' (k+1) _ B hD hl' (λj=>by have:=hu (j+1);rw[show k+(j+1)=k+1+j by omega]at this;simpa using this)
    (λj=>by have:=ht (j+1);rw[show k+1+(j+1)=k+1+1+j by omega]at this;simpa using this) hsk h2 he'
   refine⟨λj oj u hj huj=>?_,?_,by simp[g3],?_⟩
   ·cases j with
    |zero=>simp at hj huj;subst hj huj;exact⟨T,T.st,by simpa using he,h0,hsk,λ_=>rfl,λe=>by (rw[hE]at e;cases e)⟩
    |succ j=>
     simp at hj huj
     obtain⟨Tj,σj,e1,e2,e3,e4⟩:=g1 j oj u hj huj
     rw[show k+1+j=k+(j+1) by omega]at e1 e2 e3
     exact⟨Tj,σj,e1,e2,e3,e4⟩
   ·rw[List.length_cons,show k+(r.length+1)=k+1+r.length by omega];exact g2
   ·rw[List.length_cons,show k+(r.length+1)=k+1+r.length by omega];exact g4
theorem nG {T B:aa}(hst:B.st=T.st)(he: ∀d∈o.looksAt ops,B.env d=T.env d){w:World}{C:Ctx}{a:Act}(hr:fJ P W0 o w C B a):fJ P W0 o w C T a:=by
 have hval: ∀x∈o.op.operands,T.val x=B.val x:=λx hx=>by
  cases x with
  |tmp t=>
   refine(he t ?_).symm
   simp only[Oper.looksAt,List.mem_append,List.mem_filterMap]
   exact .inl ⟨.tmp t,Array.mem_toList_iff.2 hx,rfl⟩
  |_=>rfl
 exact⟨λx hx=>by rw[hval x hx];exact hr.ops x hx,by rw[←hst];exact hr.st⟩
theorem dy {T B:aa}(hst:B.st=T.st)(he: ∀d∈o.looksAt ops,B.env d=T.env d){u:AV}(hp:db P W0 o T u):db P W0 o B u:=λw C a hr next Q hn=>by
 have:=hp w C a (nG hst he hr) next Q
 rw[hst]at hn
 exact this hn
theorem iA.congr {T B:aa}{v:AV}{σ':ab}(h:iA P W0 n fz ops o T v σ')(hst:(isW o.op||isR fz o.dst o.op)=true→B.st=T.st)(he: ∀d∈o.looksAt ops,B.env d=T.env d):
  iA P W0 n fz ops o B v (if isW o.op then σ' else B.st):=by
 obtain⟨hd,h⟩:=h
 have hp: ∀u,iq P W0 fz o T u→isW o.op=false→db P W0 o B u:=λu hp hw=>by
  cases hR:isR fz o.dst o.op with
  |true=>exact dy (ops:=ops) (hst (by simp[hR])) he hp.1
  |false=>exact dy (ops:=ops) (T:=T.an B.st) (B:=B) rfl he (hp.2.1 hR B.st)
 have hp2: ∀u,iq P W0 fz o T u→isW o.op=false→iq P W0 fz o B u:=λu hu hw=>⟨hp u hu hw,λhR σ=>dy (ops:=ops) (T:=T.an σ) (B:=B.an σ) rfl he (hu.2.1 hR σ),λhz τ=>by
  cases hR:isR fz o.dst o.op with
  |true=>
   have e:=hst (by simp[hR])
   exact dy (ops:=ops) (T:=T.an (T.st++τ)) (B:=B.an (B.st++τ)) (by rw[e];rfl) he (hu.2.2 hz τ)
  |false=>exact dy (ops:=ops) (T:=T.an (B.st++τ)) (B:=B.an (B.st++τ)) rfl he (hu.2.1 hR _)⟩
 refine⟨hd,?_⟩
 split at h
 ·rcases h with⟨h1,h2,h3⟩|⟨h1,h2,h3⟩
  ·exact .inl ⟨h1,by simp[h1],hp2 v h3 h1⟩
  ·refine .inr ⟨h1,h2,?_⟩
   rw[if_pos h1]
   exact λw C a hr=>h3 w C a (nG (ops:=ops) (hst (by simp[h1])) he hr)
 ·rename_i j want hg
  obtain⟨h0,h0',G,u,h1,h2,h3⟩:=h
  refine⟨h0,by simp[h0],G,u,?_,h2,λhG=>hp2 u (h3 hG) h0⟩
  rw[←h1]
  unfold zf
  cases hj:(ops[j]?).bind (·.dst)with
  |none=>rfl
  |some d=>
   have hd:B.env d=T.env d:=he d (by
    simp only[Oper.looksAt,List.mem_append,hg,hj]
    exact .inr (by simp))
   simp only[hd]
theorem iA.Ot {T B:aa}{v:AV}{σ':ab}(h:iA P W0 n fz ops o T v σ')(hz:isZ o.op=true)(τ:ab)(hst:B.st=T.st++τ)(he: ∀d∈o.looksAt ops,B.env d=T.env d):iA P W0 n fz ops o B v B.st:=by
 obtain⟨hd,h⟩:=h
 have hW:isW o.op=false:=by cases hw:isW o.op with|false=>rfl|true=>rw[vR hw]at hz;cases hz
 have hp2: ∀u,iq P W0 fz o T u→iq P W0 fz o B u:=λu hu=>⟨dy (ops:=ops) (T:=T.an (T.st++τ)) (B:=B) hst he (hu.2.2 hz τ),λhR σ=>dy (ops:=ops) (T:=T.an σ) (B:=B.an σ) rfl he (hu.2.1 hR σ),
  λ_ τ'=>dy (ops:=ops) (T:=T.an (T.st++(τ++τ'))) (B:=B.an (B.st++τ')) (by rw[hst,List.append_assoc];rfl) he (hu.2.2 hz _)⟩
 refine⟨hd,?_⟩
 split at h
 ·rcases h with⟨h1,h2,h3⟩|⟨h1,h2,h3⟩
  ·exact .inl ⟨h1,rfl,hp2 v h3⟩
  ·rw[hW]at h1;cases h1
 ·rename_i j want hg
  obtain⟨h0,h0',G,u,h1,h2,h3⟩:=h
  refine⟨h0,rfl,G,u,?_,h2,λhG=>hp2 u (h3 hG)⟩
  rw[←h1]
  unfold zf
  cases hj:(ops[j]?).bind (·.dst)with
  |none=>rfl
  |some d=>
   have hd:B.env d=T.env d:=he d (by
    simp only[Oper.looksAt,List.mem_append,hg,hj]
    exact .inr (by simp))
   simp only[hd]
structure lD (fz:List Nat)(E:Oper→Bool)(ops:Array Oper)(ac:List (List Nat)):Prop where
 anc: ∀(i:Nat) (oi:Oper) (j:Nat),ops[i]?=some oi→j∈(ac[i]?).getD []→ ∃e∈oi.after,Region.binds .any e=true∧(e.on=j∨j∈(ac[e.on]?).getD [])
 F8:tQ ops
 uI: ∀(i:Nat) (oi:Oper),ops[i]?=some oi→ ∀e∈oi.after,Region.binds .any e=true→e.on<i
 gd: ∀(i:Nat) (oi:Oper),ops[i]?=some oi→E oi=true→oi.guard=none
 look: ∀(i j:Nat) (oi oj:Oper) (d:Nat),ops[i]?=some oi→ops[j]?=some oj→i≠j→oj.dst=some d→d∈oi.looksAt ops→(j<i→eH oi j=true)∧(i<j→eH oj i=true)∧(E oj=true→E oi=false→i<j)∧(E oi=true→E oj=false→j<i)
 wr: ∀(i j:Nat) (oi oj:Oper),ops[i]?=some oi→ops[j]?=some oj→i≠j→E oi=false→E oj=false→isW oj.op=true→(isW oi.op||isR fz oi.dst oi.op)=true→(j<i→j∈(ac[i]?).getD [])∧(i<j→i∈(ac[j]?).getD [])
 chain: ∀(i j:Nat) (oi oj:Oper),ops[i]?=some oi→ops[j]?=some oj→E oi=true→E oj=true→j<i→j∈(ac[i]?).getD []
 last: ∀(i j:Nat) (oi oj:Oper),ops[i]?=some oi→ops[j]?=some oj→E oi=true→E oj=false→(isW oj.op||isR fz oj.dst oj.op)=true→(AB oi.op&&isZ oj.op)=false→j∈(ac[i]?).getD []
theorem Eh (h:yP fz E ops ac=true):lD fz E ops ac:=by
 unfold yP at h
 rw[Bool.and_eq_true]at h
 obtain⟨hanc,h⟩:=h
 have hall: ∀(i:Nat) (oi:Oper),ops[i]?=some oi→oi.after.all (λe=>!Region.binds .any e||decide (e.on<i))=true∧(!E oi||oi.guard.isNone)=true∧ ∀(j:Nat) (oj:Oper),ops[j]?=some oj→(i==j||BQ fz E ops ac i j oi oj)=true:=λi oi hi=>by
  have h1:=List.all_eq_true.1 h i (List.mem_range.2 (Array.getElem?_eq_some_iff.1 hi).1)
  rw[hi]at h1
  simp only[Bool.and_eq_true]at h1
  refine⟨h1.1.1,h1.1.2,λj oj hj=>?_⟩
  have h2:=List.all_eq_true.1 h1.2 j (List.mem_range.2 (Array.getElem?_eq_some_iff.1 hj).1)
  rw[hj]at h2
  exact h2
 have pair: ∀(i j:Nat) (oi oj:Oper),ops[i]?=some oi→ops[j]?=some oj→i≠j→(((match oj.dst with
  |none=>true
  |some d=>oi.dst !=some d&&(!(oi.looksAt ops).contains d||((if j<i then eH oi j else eH oj i)&&(!E oj||E oi||decide (i<j))&&(!(E oi&& !E oj)||decide (j<i)))))=true∧
  (!(!E oj&& !E oi&&isW oj.op&&(isW oi.op||isR fz oi.dst oi.op))||(if j<i then((ac[i]?).getD []).contains j else((ac[j]?).getD []).contains i))=true)∧
  (!(E oi&&E oj&&decide (j<i))||((ac[i]?).getD []).contains j)=true∧(!(E oi&& !E oj&&(isW oj.op||isR fz oj.dst oj.op))||((AB oi.op&&isZ oj.op)||((ac[i]?).getD []).contains j))=true):=λi j oi oj hi hj hne=>by
  have:=(hall i oi hi).2.2 j oj hj
  rw[Bool.or_eq_true]at this
  rcases this with h|h
  ·exact absurd (by simpa using h) hne
  ·unfold BQ at h
   rw[Bool.and_eq_true,Bool.and_eq_true,Bool.and_eq_true]at h
   exact h
 refine⟨λi oi j hi hj=>?_,λi j oi oj d hi hj hdi hdj=>?_,λi oi hi e he hb=>?_,λi oi hi hE=>?_,λi j oi oj d hi hj hne hd hm=>?_,λi j oi oj hi hj hne h1 h2 hw hr=>?_,λi j oi oj hi hj h1 h2 hlt=>?_,λi j oi oj hi hj h1 h2 hr haz=>?_⟩
 ·have h1:=List.all_eq_true.1 hanc i (List.mem_range.2 (Array.getElem?_eq_some_iff.1 hi).1)
  rw[hi]at h1
  have h2:=List.all_eq_true.1 h1 j hj
  obtain⟨e,he,h3⟩:=Array.any_eq_true'.1 h2
  simp only[Bool.and_eq_true,Bool.or_eq_true,beq_iff_eq,List.contains_iff_mem]at h3
  exact⟨e,he,h3.1,h3.2⟩
 ·by_cases hij:i=j
  ·exact hij
  ·have:=(pair i j oi oj hi hj hij).1.1
   rw[hdj]at this
   simp only[Bool.and_eq_true,bne_iff_ne,ne_eq]at this
   exact absurd hdi this.1
 ·have:=Array.all_eq_true_iff_forall_mem.1 (hall i oi hi).1 e he
  simpa[hb]using this
 ·have:=(hall i oi hi).2.1
  simpa[hE]using this
 ·have:=(pair i j oi oj hi hj hne).1.1
  rw[hd]at this
  simp only[Bool.and_eq_true,bne_iff_ne,ne_eq,Bool.or_eq_true,Bool.not_eq_true',List.contains_eq_mem,decide_eq_false_iff_not]at this
  rcases this.2 with h|⟨⟨h,h3⟩,h4⟩
  ·exact absurd hm h
  ·refine⟨λhlt=>by rwa [if_pos hlt]at h,λhgt=>by rwa [if_neg (by omega)]at h,λhE hE'=>?_,λhE hE'=>?_⟩
   ·rcases h3 with(h3|h3)|h3
    ·rw[hE]at h3;cases h3
    ·rw[hE']at h3;cases h3
    ·simpa using h3
   ·rcases h4 with h4|h4
    ·simp[hE,hE']at h4
    ·simpa using h4
 ·have:=(pair i j oi oj hi hj hne).1.2
  simp only[h1,h2,hw,hr,Bool.not_false,Bool.and_self,Bool.not_true,Bool.false_or]at this
  refine⟨λhlt=>by rw[if_pos hlt]at this;simpa using this,λhgt=>by rw[if_neg (by omega)]at this;simpa using this⟩
 ·have:=(pair i j oi oj hi hj (by omega)).2.1
  simpa[h1,h2,hlt]using this
 ·have:=(pair i j oi oj hi hj (λe=>by subst e;rw[hi]at hj;cases hj;rw[h1]at h2;cases h2)).2.2
  simp only[h1,h2,hr,haz,Bool.not_false,Bool.and_self,Bool.not_true,Bool.false_or]at this
  simpa using this
theorem oQ (hf:lD fz E ops ac){S:Nat→Prop}(hcl: ∀(i:Nat)(oi:Oper),ops[i]?=some oi→S i→ ∀e∈oi.after,Region.binds .any e=true→S e.on):
  ∀(i:Nat) (oi:Oper),ops[i]?=some oi→(∀e∈oi.after,Region.binds .any e=true→S e.on)→ ∀j∈(ac[i]?).getD [],S j:=λi=>by
 induction i using Nat.strongRecOn with
 |_ i ih=>
  intro oi hi hs j hj
  obtain⟨e,he,hb,hj'⟩:=hf.anc i oi j hi hj
  have hlt:=hf.uI i oi hi e he hb
  rcases hj' with rfl|hj'
  ·exact hs e he hb
  ·have hk: ∃ok,ops[e.on]?=some ok:=⟨_,Array.getElem?_eq_getElem (Nat.lt_trans hlt (Array.getElem?_eq_some_iff.1 hi).1)⟩
   obtain⟨ok,hk⟩:=hk
   exact ih e.on hlt ok hk (hcl e.on ok hk (hs e he hb)) j hj'
theorem gg {j:Nat}(h:eH o j=true): ∃e∈o.after,e.on=j∧Region.binds .any e=true:=by
 unfold eH at h
 obtain⟨e,he,h⟩:=Array.any_eq_true'.1 h
 simp only[Bool.and_eq_true,beq_iff_eq]at h
 exact⟨e,he,h.1,h.2⟩
theorem qI {α:Type}{p q:α→Bool}: ∀{l:List α} {x:α},(∀y∈l,q y=true→p y=true)→x∈l→p x=true→q x=false→l.countP q<l.countP p
 |y::l,x,hpq,hx,hp,hq=>by
  have hle:l.countP q≤l.countP p:=List.countP_mono_left (λz hz=>hpq z (by simp[hz]))
  rcases List.mem_cons.1 hx with rfl|hx
  ·rw[List.countP_cons_of_pos hp,List.countP_cons_of_neg (by simp[hq])]
   omega
  ·have ih:=qI (l:=l) (λz hz=>hpq z (by simp[hz])) hx hp hq
   by_cases hqy:q y=true
   ·rw[List.countP_cons_of_pos hqy,List.countP_cons_of_pos (hpq y (by simp) hqy)];omega
   ·rw[List.countP_cons_of_neg hqy]
    by_cases hpy:p y=true
    ·rw[List.countP_cons_of_pos hpy];omega
    ·rw[List.countP_cons_of_neg hpy];exact ih
def K9 (E:Oper→Bool)(ops:Array Oper)(ss:List ab)(listed:Array Bool)(st:ab):Prop:=
 ∃m,m≤ops.size∧ss[m]?=some st∧ ∀(j:Nat) (oj:Oper),ops[j]?=some oj→E oj=false→isW oj.op=true→(listed.getD j false=true↔j<m)
def eVC (P:Program)(W0:World)(n:Nat)(fz:List Nat):List Oper→(aa→Prop)→aa→Prop
 |[],K,B=>K B
 |o::r,K,B=>D1 fz o.op∧uy P W0 n fz o B λB'=>eVC P W0 n fz r K B'
theorem gD {listed:Array Bool}{i:Nat}(hi:i<listed.size)(j:Nat):(listed.setIfInBounds i true).getD j false=true↔(listed.getD j false=true∨j=i):=by
 by_cases hj:j=i
 ·subst hj
  simp[Array.getD,hi]
 ·rw[getD_set_ne false (Ne.symm hj)];simp[hj]
theorem cr {listed:Array Bool}{i:Nat}(hi:i<listed.size)(j:Nat):(listed.setIfInBounds i true).getD j false=false↔(listed.getD j false=false∧j≠i):=by
 have:=gD hi j
 cases h1:(listed.setIfInBounds i true).getD j false<;>cases h2:listed.getD j false<;>simp_all
theorem ky (hf:lD fz E ops ac){listed:Array Bool}(hsz:listed.size=ops.size)(hnil:Region.ready .any ops listed=[]): ∀i,i<ops.size→listed.getD i false=true:=λi=>by
 induction i using Nat.strongRecOn with
 |_ i ih=>
  intro hi
  cases hl:listed.getD i false with
  |true=>rfl
  |false=>
   exfalso
   have:i∈Region.ready .any ops listed:=mem_ready.2 ⟨by
    have h1:i<listed.size:=by omega
    simp[Array.getD,h1]at hl ⊢
    exact hl,ops[i],Array.getElem?_eq_getElem hi,λe he hb=>ih e.on (hf.uI i _ (Array.getElem?_eq_getElem hi) e he hb) (by have:=hf.uI i _ (Array.getElem?_eq_getElem hi) e he hb;omega)⟩
   rw[hnil]at this
   cases this
theorem vE {listed:Array Bool}(hfuel:(List.range ops.size).countP (λi=>!listed.getD i true)≤0):Region.ready .any ops listed=[]:=by
 cases hrd:Region.ready .any ops listed with
 |nil=>rfl
 |cons i r=>
  exfalso
  have hi:i∈Region.ready .any ops listed:=by rw[hrd];simp
  obtain⟨h1,o,ho,_⟩:=mem_ready.1 hi
  have:=List.countP_pos_iff (p:=λi=>!listed.getD i true) (l:=List.range ops.size) |>.2 ⟨i,List.mem_range.2 (Array.getElem?_eq_some_iff.1 ho).1,by simp only[h1];rfl⟩
  omega
theorem DH {listed:Array Bool}{i fuel:Nat}(hsz:listed.size=ops.size)(hilt:i<ops.size)(h1:listed.getD i true=false)(hfuel:(List.range ops.size).countP (λi=>!listed.getD i true)≤fuel+1):
  (List.range ops.size).countP (λj=>!(listed.setIfInBounds i true).getD j true)≤fuel:=by
 have:=qI (l:=List.range ops.size) (p:=λj=>!listed.getD j true) (q:=λj=>!(listed.setIfInBounds i true).getD j true) (x:=i) (λj _ hj=>by
  by_cases hji:j=i
  ·subst hji;simpa using h1
  ·rw[getD_set_ne true (Ne.symm hji)]at hj;exact hj) (List.mem_range.2 hilt) (by rw[h1];rfl) (by
   have h3:i<listed.size:=by omega
   simp[Array.getD,h3])
 omega
def sv (ops:Array Oper)(listed:Array Bool):Prop:=∀ (i:Nat) (oi:Oper),ops[i]?=some oi→listed.getD i true=true→ ∀e∈oi.after,Region.binds .any e=true→listed.getD e.on false=true
theorem sv.next {listed:Array Bool}{i:Nat}(hcl:sv ops listed)(ho:ops[i]?=some o)(h2: ∀e∈o.after,Region.binds .any e=true→listed.getD e.on false=true):sv ops (listed.setIfInBounds i true):=λj oj hj hlj e he hb=>by
 by_cases hji:j=i
 ·subst hji
  rw[ho]at hj
  cases hj
  exact getD_set_true (h2 e he hb)
 ·rw[getD_set_ne true (Ne.symm hji)]at hlj
  exact getD_set_true (hcl j oj hj hlj e he hb)
structure Mid (fz:List Nat)(E:Oper→Bool)(ops:Array Oper)(vs:List AV)(ss:List ab)(A:aa)(listed:Array Bool)(rem:List (Oper×Nat))(D B:aa):Prop where
 a: ∀(i:Nat) (o:Oper) (d:Nat),ops[i]?=some o→E o=false→o.dst=some d→listed.getD i false=false→D.env d=A.env d
 b: ∀d,(∀(i:Nat) (o:Oper),ops[i]?=some o→E o=false→o.dst=some d→listed.getD i false=true)→D.env d=B.env d
 st:D.st=B.st
 v: ∀(i:Nat) (o:Oper) (d:Nat) (v:AV),ops[i]?=some o→E o=false→o.dst=some d→vs[i]?=some v→B.env d=v
 o: ∀d,(∀(i:Nat) (o:Oper),ops[i]?=some o→o.dst=some d→E o=true∧listed.getD i false=false)→B.env d=A.env d
 rw: ∀(i:Nat) (o:Oper),ops[i]?=some o→E o=false→(isW o.op||isR fz o.dst o.op)=true→isZ o.op=false→listed.getD i false=true
 z: ∀(i:Nat) (o:Oper) (σi:ab),ops[i]?=some o→E o=false→isR fz o.dst o.op=true→isZ o.op=true→listed.getD i false=false→ss[i]?=some σi→ ∃τ,D.st=σi++τ
 r1: ∀p∈rem,ops[p.2]?=some p.1∧E p.1=true∧listed.getD p.2 false=false
 r2: ∀(i:Nat) (o:Oper),ops[i]?=some o→E o=true→listed.getD i false=false→(o,i)∈rem
 r3:rem.Pairwise λp q=>p.2<q.2
theorem zP {vs:List AV}{ss:List ab}{Qx:Exit→Act→World→Prop}(hf:lD fz E ops ac)(hlen:vs.length=ops.size)
  (hat: ∀j o v,ops[j]?=some o→vs[j]?=some v→ ∃Tj σ',jG E ops vs A (· <j) Tj∧ss[j]?=some Tj.st∧ss[j+1]?=some σ'∧(E o=true→σ'=Tj.st)∧(E o=false→iA P W0 n fz ops o Tj v σ')):
  ∀(fuel:Nat) (listed:Array Bool) (D B:aa) (rem:List (Oper×Nat)) (w:World) (C:Ctx) (a:Act),listed.size=ops.size→(List.range ops.size).countP (λi=>!listed.getD i true)≤fuel→sv ops listed→
   Mid fz E ops vs ss A listed rem D B→bI P W0 n w C D a→eVC P W0 n fz (rem.map (·.1)) K B→(∀B' C' a' w',K B'→bI P W0 n w' C' B' a'→Step w C w' C'→Qx .normal a' w')→jY P .any ops Qx fuel listed a w:=by
 have hend: ∀(listed:Array Bool) (D B:aa) (rem:List (Oper×Nat)),(∀i,i<ops.size→listed.getD i false=true)→Mid fz E ops vs ss A listed rem D B→eVC P W0 n fz (rem.map (·.1)) K B→D=B∧K B:=λlisted D B rem hall hm hK=>by
  have hrem:rem=[]:=by
   cases rem with
   |nil=>rfl
   |cons p r=>
    obtain⟨h1,_,h3⟩:=hm.r1 p (by simp)
    rw[hall p.2 (Array.getElem?_eq_some_iff.1 h1).1]at h3
    cases h3
  subst hrem
  refine⟨?_,hK⟩
  have h1:=hm.st
  have h2:D.env=B.env:=funext λd=>hm.b d λi o hi _ _=>hall i (Array.getElem?_eq_some_iff.1 hi).1
  cases D;cases B;simp only at h1 h2;subst h1 h2;rfl
 intro fuel
 induction fuel with
 |zero=>
  intro listed D B rem w C a hsz hfuel hclosed hm hr hK hq
  have hnil:=vE hfuel
  obtain⟨rfl,hKB⟩:=hend listed D B rem (ky hf hsz hnil) hm hK
  exact⟨hnil,hq _ C a w hKB hr (.refl _ _)⟩
 |succ fuel ih=>
  intro listed D B rem w C a hsz hfuel hclosed hm hr hK hq
  refine⟨λhnil=>?_,λi hi=>?_⟩
  ·obtain⟨rfl,hKB⟩:=hend listed D B rem (ky hf hsz hnil) hm hK
   exact hq _ C a w hKB hr (.refl _ _)
  ·obtain⟨h1,o,ho,h2⟩:=mem_ready.1 hi
   have hilt:=(Array.getElem?_eq_some_iff.1 ho).1
   have hil:i<listed.size:=by omega
   have hif:listed.getD i false=false:=by
    simp[Array.getD,hil]at h1 ⊢
    exact h1
   have hcl: ∀(j:Nat) (oj:Oper),ops[j]?=some oj→listed.getD j false=true→eH oj i=true→False:=λj oj hj hlj hwt=>by
    have hjlt:=(Array.getElem?_eq_some_iff.1 hj).1
    obtain⟨e,he,e1,e2⟩:=gg hwt
    have:=hclosed j oj hj (by
     have h3:j<listed.size:=by omega
     simp[Array.getD,h3]at hlj ⊢
     exact hlj) e he e2
    rw[e1,hif]at this
    cases this
   have hwt: ∀(j:Nat),eH o j=true→listed.getD j false=true:=λj hw=>by
    obtain⟨e,he,e1,e2⟩:=gg hw
    rw[←e1];exact h2 e he e2
   have hdone: ∀j∈(ac[i]?).getD [],listed.getD j false=true:=oQ hf (S:=λj=>listed.getD j false=true) (λj oj hj hlj=>hclosed j oj hj (by
    have h3:j<listed.size:=by have:=(Array.getElem?_eq_some_iff.1 hj).1;omega
    simp[Array.getD,h3]at hlj ⊢
    exact hlj)) i o ho h2
   have hsz':(listed.setIfInBounds i true).size=ops.size:=by simpa using hsz
   have hfuel':=DH hsz hilt h1 hfuel
   have hclosed':=hclosed.next ho h2
   unfold Cq
   rw[ho]
   simp only
   cases hEo:E o with
   |false=>
    obtain⟨vi,hv⟩: ∃v,vs[i]?=some v:=⟨_,List.getElem?_eq_getElem (l:=vs) (show i<vs.length by omega)⟩
    obtain⟨T,σ',hT,hTs,_,_,hstep⟩:=hat i o vi ho hv
    have hnrw:(isW o.op||isR fz o.dst o.op)=false∨(isR fz o.dst o.op=true∧isZ o.op=true):=by
     cases hx:(isW o.op||isR fz o.dst o.op)with
     |false=>exact .inl rfl
     |true=>
      cases hz:isZ o.op with
      |false=>have:=hm.rw i o ho hEo hx hz;rw[hif]at this;cases this
      |true=>
       have hw:isW o.op=false:=by cases hw:isW o.op with|false=>rfl|true=>rw[vR hw]at hz;cases hz
       rw[hw,Bool.false_or]at hx
       exact .inr ⟨hx,rfl⟩
    have hW:isW o.op=false:=by
     rcases hnrw with h|⟨_,h⟩
     ·simp only[Bool.or_eq_false_iff]at h;exact h.1
     ·cases hw:isW o.op with|false=>rfl|true=>rw[vR hw]at h;cases h
    have hlook: ∀d∈o.looksAt ops,D.env d=T.env d:=(λd hd=>by
     by_cases hex: ∃(j:Nat) (oj:Oper),ops[j]?=some oj∧oj.dst=some d
     ·obtain⟨j,oj,hj,hdj⟩:=hex
      have honly: ∀k ok,ops[k]?=some ok→ok.dst=some d→k=j:=λk ok hk hdk=>hf.F8 k j ok oj d hk hj hdk hdj
      by_cases hEj:E oj=true
      ·have hji:j≠i:=λe=>by subst e;rw[ho]at hj;cases hj;rw[hEo]at hEj;cases hEj
       have hl:=hf.look i j o oj d ho hj (Ne.symm hji) hdj hd
       have hgt:=hl.2.2.1 hEj hEo
       have hnl:listed.getD j false=false:=by
        cases hlj:listed.getD j false with
        |false=>rfl
        |true=>exact(hcl j oj hj hlj (hl.2.1 hgt)).elim
       rw[hm.b d (λk ok hk hok hdk=>by have:=honly k ok hk hdk;subst this;rw[hj]at hk;cases hk;rw[hEj]at hok;cases hok),hm.o d (λk ok hk hdk=>by have:=honly k ok hk hdk;subst this;rw[hj]at hk;cases hk;exact⟨hEj,hnl⟩),hT.old d (λk ok _ hk hok hdk=>by have:=honly k ok hk hdk;subst this;rw[hj]at hk;cases hk;rw[hEj]at hok;cases hok)]
      have hEj:E oj=false:=by simpa using hEj
      have hvj:=List.getElem?_eq_getElem (l:=vs) (show j<vs.length by have:=(Array.getElem?_eq_some_iff.1 hj).1;omega)
      rcases Nat.lt_trichotomy j i with hlt|heq|hgt
      ·have hlj:=hwt j ((hf.look i j o oj d ho hj (by omega) hdj hd).1 hlt)
       rw[hm.b d (λk ok hk _ hdk=>by rw[honly k ok hk hdk];exact hlj),hm.v j oj d _ hj hEj hdj hvj,hT.set j oj d _ hlt hj hEj hdj hvj]
      ·subst heq
       rw[hm.a j oj d hj hEj hdj hif,hT.old d (λk ok hk hok _ hdk=>by have:=honly k ok hok hdk;omega)]
      ·have hnl:listed.getD j false=false:=by
        cases hlj:listed.getD j false with
        |false=>rfl
        |true=>exact(hcl j oj hj hlj ((hf.look i j o oj d ho hj (by omega) hdj hd).2.1 hgt)).elim
       rw[hm.a j oj d hj hEj hdj hnl,hT.old d (λk ok hk hok _ hdk=>by have:=honly k ok hok hdk;omega)]
     ·rw[hm.b d (λk ok hk _ hdk=>absurd ⟨k,ok,hk,hdk⟩ hex),hm.o d (λk ok hk hdk=>absurd ⟨k,ok,hk,hdk⟩ hex),hT.old d (λk ok _ hk _ hdk=>hex ⟨k,ok,hk,hdk⟩)])
    have hstepD:iA P W0 n fz ops o D vi D.st:=by
     rcases hnrw with hn|⟨hR,hz⟩
     ·have:=(hstep hEo).congr (B:=D) (λhx=>by rw[hn]at hx;cases hx) hlook
      rw[hW]at this
      simpa only[Bool.false_eq_true,if_false]using this
     ·obtain⟨τ,hτ⟩:=hm.z i o T.st ho hEo hR hz hif hTs
      exact(hstep hEo).Ot hz τ hτ hlook
    have hmid:Mid fz E ops vs ss A (listed.setIfInBounds i true) rem (D.put o.dst vi) B:=by
     refine⟨λj oj d hj hEj hdj hlj=>?_,λd hd=>?_,by rw[aa.E2];exact hm.st,hm.v,λd hd'=>hm.o d λj oj hj hdj=>⟨(hd' j oj hj hdj).1,((cr hil j).1 (hd' j oj hj hdj).2).1⟩,λj oj hj hEj hx hz=>(gD hil j).2 (.inl (hm.rw j oj hj hEj hx hz)),λj oj σj hj hEj hR hz hl hs=>by rw[aa.E2];exact hm.z j oj σj hj hEj hR hz ((cr hil j).1 hl).1 hs,λp hp=>?_,λj oj hj hEj hlj=>?_,hm.r3⟩
     ·obtain⟨g1,g2⟩:=(cr hil j).1 hlj
      rw[ee (λhod=>g2 (hf.F8 j i oj o d hj ho hdj hod))]
      exact hm.a j oj d hj hEj hdj g1
     ·by_cases hod:o.dst=some d
      ·rw[fO hod,hm.v i o d vi ho hEo hod hv]
      ·rw[ee hod]
       refine hm.b d λj oj hj hEj hdj=>?_
       rcases(gD hil j).1 (hd j oj hj hEj hdj)with h|h
       ·exact h
       ·subst h;rw[ho]at hj;cases hj;exact absurd hdj hod
     ·obtain⟨g1,g2,g3⟩:=hm.r1 p hp
      refine⟨g1,g2,(cr hil p.2).2 ⟨g3,λe=>?_⟩⟩
      rw[e,ho]at g1;cases g1;rw[hEo]at g2;cases g2
     ·exact hm.r2 j oj hj hEj ((cr hil j).1 hlj).1
    have hgo: ∀w' C' a',bI P W0 n w' C' (D.put o.dst vi) a'→Step w C w' C'→jY P .any ops Qx fuel (listed.setIfInBounds i true) a' w':=λw' C' a' hr' hs=>
     ih _ _ B rem w' C' a' hsz' hfuel' hclosed' hmid hr' hK (λB' C'' a'' w'' hKB hr'' hs''=>hq B' C'' a'' w'' hKB hr'' (hs.trans hs''))
    obtain⟨hd,hstepD⟩:=hstepD
    have same: ∀v,(D.put o.dst v).an D.st=D.put o.dst v:=λv=>by cases o.dst<;>rfl
    have fin: ∀x w',aG P w' C vi x→Step w C w' C→aB P W0 w' C D.st→jY P .any ops Qx fuel (listed.setIfInBounds i true) (a.put o.dst x) w':=λx w' hv hs hst=>hgo w' C _ (by
     have:=kc (o:=o) hr hd hs hst hv
     rwa [same]at this) hs
    split at hstepD
    ·rename_i hg
     rw[if_pos (by simp[Region.wanted,hg])]
     rcases hstepD with⟨_,_,hp⟩|⟨hW',_⟩
     ·exact⟨hp.1 w C a (hr.toO o) _ _ fin,dU (hp.1 w C a (hr.toO o) _ _ λx _ _ _ _=>put_defers a o.dst x)⟩
     ·rw[hW]at hW';cases hW'
    ·rename_i j want hg
     obtain⟨_,_,G,u,g1,g2,g3⟩:=hstepD
     have hw:=sH hr g1 hg
     rw[hw]
     cases G with
     |true=>
      rw[if_pos rfl]
      exact⟨(g3 rfl).1 w C a (hr.toO o) _ _ λx w' hv hs hst=>fin x w' (by rw[g2];exact .maybe (λ_=>hv) (λe=>by cases e)) hs hst,dU ((g3 rfl).1 w C a (hr.toO o) _ _ λx _ _ _ _=>put_defers a o.dst x)⟩
     |false=>
      rw[if_neg (by simp)]
      exact hgo w C _ (ko hr hd (v:=vi) (x:=undef) (by rw[g2];exact .maybe (λe=>by cases e) (λ_=>rfl))) (.refl _ _)
   |true=>
    have hmem:=hm.r2 i o ho hEo hif
    cases hrem:rem with
    |nil=>rw[hrem]at hmem;cases hmem
    |cons p r=>
     have hhead:p=(o,i):=by
      rw[hrem]at hmem
      rcases List.mem_cons.1 hmem with h|h
      ·exact h.symm
      ·exfalso
       have h3:=hm.r3
       rw[hrem]at h3
       have hlt:=(List.pairwise_cons.1 h3).1 (o,i) h
       obtain⟨g1,g2,g3⟩:=hm.r1 p (by rw[hrem];simp)
       have:=hdone p.2 (hf.chain i p.2 o p.1 ho g1 hEo g2 hlt)
       rw[g3]at this;cases this
     subst hhead
     rw[hrem,List.map_cons]at hK
     obtain⟨hnf,hop⟩:=hK
     rw[if_pos (by simp[Region.wanted,hf.gd i o ho hEo])]
     have hrO:fJ P W0 o w C B a:=nG (ops:=ops) (T:=B) (B:=D) hm.st (λd hd=>hm.b d λj oj hj hEj hdj=>by
      have hne:i≠j:=λe=>by subst e;rw[ho]at hj;cases hj;rw[hEo]at hEj;cases hEj
      have hl:=hf.look i j o oj d ho hj hne hdj hd
      exact hwt j (hl.1 (hl.2.2.2 hEo hEj))) (hr.toO o)
     have hd:=hop.1
     have hop:uy P W0 n fz o B (λB'=>eVC P W0 n fz (r.map (·.1)) K B'∧(AB o.op=true→ ∃τ,B'.st=B.st++τ)):=by
      cases hal:AB o.op with
      |false=>
       have e:(λB'=>eVC P W0 n fz (r.map (·.1)) K B'∧(false=true→ ∃τ,B'.st=B.st++τ))=λB'=>eVC P W0 n fz (r.map (·.1)) K B':=funext λB'=>propext ⟨λh=>h.1,λh=>⟨h,λe=>by cases e⟩⟩
       rw[e]
       exact hop
      |true=>
       obtain⟨h1,h2⟩:=hop
       refine⟨h1,?_⟩
       cases ho':o.op<;>rw[ho']at hal h2<;>first|(simp[AB]at hal;done)|skip
       simp only at h2 ⊢
       split at h2
       ·exact⟨h2,λ_=>⟨_,rfl⟩⟩
       ·exact h2
     refine⟨sN hrO hnf hop λv x σ' w' C' hK' hv hst hs=>?_,dU (sN hrO hnf hop λ_ x _ _ _ _ _ _ _=>put_defers a o.dst x)⟩
     obtain⟨hK',hup⟩:=hK'
     have hr':=kc (o:=o) hr hd hs hst hv
     refine ih _ ((D.put o.dst v).an σ') ((B.put o.dst v).an σ') r w' C' _ hsz' hfuel' hclosed' ?_ hr' hK' (λB' C'' a'' w'' hKB hr'' hs''=>hq B' C'' a'' w'' hKB hr'' (hs.trans hs''))
     have hEne: ∀(j:Nat) (oj:Oper),ops[j]?=some oj→E oj=false→j≠i:=λj oj hj hEj e=>by subst e;rw[ho]at hj;cases hj;rw[hEo]at hEj;cases hEj
     refine⟨λj oj d hj hEj hdj hlj=>?_,λd hd'=>?_,rfl,λj oj d u hj hEj hdj hu=>?_,λd hd'=>?_,λj oj hj hEj hx hz=>(gD hil j).2 (.inl (hm.rw j oj hj hEj hx hz)),λj oj σj hj hEj hR hz hl hs'=>?_,λp hp=>?_,λj oj hj hEj hlj=>?_,?_⟩
     ·rw[gR,ee (λhod=>hEne j oj hj hEj (hf.F8 j i oj o d hj ho hdj hod))]
      exact hm.a j oj d hj hEj hdj ((cr hil j).1 hlj).1
     ·rw[gR,gR]
      by_cases hod:o.dst=some d
      ·rw[fO hod,fO hod]
      ·rw[ee hod,ee hod]
       refine hm.b d λj oj hj hEj hdj=>?_
       rcases(gD hil j).1 (hd' j oj hj hEj hdj)with h|h
       ·exact h
       ·exact absurd h (hEne j oj hj hEj)
     ·rw[gR,ee (λhod=>hEne j oj hj hEj (hf.F8 j i oj o d hj ho hdj hod))]
      exact hm.v j oj d u hj hEj hdj hu
     ·have hne:o.dst≠some d:=λhod=>by
       have:=(hd' i o ho hod).2
       rw[(gD hil i).2 (.inr rfl)]at this
       cases this
      rw[gR,ee hne]
      exact hm.o d λj oj hj hdj=>⟨(hd' j oj hj hdj).1,((cr hil j).1 (hd' j oj hj hdj).2).1⟩
     ·obtain⟨g1,g2⟩:=(cr hil j).1 hl
      obtain⟨τ,hτ⟩:=hm.z j oj σj hj hEj hR hz g1 hs'
      cases hal:AB o.op with
      |false=>
       have:=hdone j (hf.last i j o oj ho hj hEo hEj (by simp[hR]) (by simp[hal]))
       rw[g1]at this;cases this
      |true=>
       obtain⟨τ',hτ'⟩:=hup hal
       have e1:σ'=B.st++τ':=hτ'
       refine⟨τ++τ',?_⟩
       show σ'=_
       rw[e1,←hm.st,hτ,List.append_assoc]
     ·obtain⟨g1,g2,g3⟩:=hm.r1 p (by rw[hrem];exact List.mem_cons_of_mem _ hp)
      have h3:=hm.r3
      rw[hrem]at h3
      have hlt:=(List.pairwise_cons.1 h3).1 p hp
      exact⟨g1,g2,(cr hil p.2).2 ⟨g3,by simp only at hlt;omega⟩⟩
     ·obtain⟨g1,g2⟩:=(cr hil j).1 hlj
      have:=hm.r2 j oj hj hEj g1
      rw[hrem]at this
      rcases List.mem_cons.1 this with h|h
      ·cases h;exact absurd rfl g2
      ·exact h
     ·have h3:=hm.r3
      rw[hrem]at h3
      exact(List.pairwise_cons.1 h3).2
theorem nQ (E:Oper→Bool): ∀(l:List Oper) (k:Nat),((l.zipIdx k).filter (λp=>E p.1)).map (·.1)=l.filter E
 |[],_=>rfl
 |o::r,k=>by
  rw[List.zipIdx_cons,List.filter_cons,List.filter_cons]
  cases h:E o with
  |true=>simp only[if_true,List.map_cons];rw[nQ E r]
  |false=>simp only[Bool.false_eq_true,if_false];rw[nQ E r]
theorem Dh {vs:List AV}{ss:List ab}{B:aa}{Qx:Exit→Act→World→Prop}(hf:lD fz E ops ac)(hseq:Seq P W0 n fz E ops ops.toList A vs ss B)(hK:eVC P W0 n fz (ops.toList.filter E) K B):
  ∀(fuel:Nat) (listed:Array Bool) (D:aa) (w:World) (C:Ctx) (a:Act),listed.size=ops.size→(List.range ops.size).countP (λi=>!listed.getD i true)≤fuel→
   (∀(i:Nat) (oi:Oper),ops[i]?=some oi→listed.getD i true=true→ ∀e∈oi.after,Region.binds .any e=true→listed.getD e.on false=true)→
   (∀(i:Nat) (oi:Oper),ops[i]?=some oi→E oi=true→listed.getD i false=false)→
   jG E ops vs A (λi=>listed.getD i false=true) D→K9 E ops (A.st::ss) listed D.st→bI P W0 n w C D a→(∀B' C' a' w',K B'→bI P W0 n w' C' B' a'→Step w C w' C'→Qx .normal a' w')→jY P .any ops Qx fuel listed a w:=by
 have hD:=hf.F8
 have hedge:=hf.uI
 have he0:jG E ops vs A (· <0) A:=⟨λi _ _ _ hi=>absurd hi (Nat.not_lt_zero i),λ_ _=>rfl⟩
 obtain⟨hat,hB,hlen,hBs⟩:=BS (ss:=A.st::ss) ops.toList vs ss 0 A B hD (by simp) (by simp) (λj=>by rw[show 0+1+j=j+1 by omega];simp) rfl hseq he0
 simp only[Nat.zero_add]at hat hB hBs
 have hBs':(A.st::ss)[ops.size]?=some B.st:=by simpa using hBs
 have hsame: ∀(d m:Nat),m+d≤ops.size→(∀(j:Nat) (oj:Oper),m≤j→j<m+d→ops[j]?=some oj→E oj=false→isW oj.op=false)→(A.st::ss)[m+d]?=(A.st::ss)[m]?:=λd=>by
  induction d with
  |zero=>intro m _ _;rfl
  |succ d ihd=>
   intro m hm hno
   rw[←ihd m (by omega) (λj oj h1 h2=>hno j oj h1 (by omega))]
   have hlt:m+d<ops.size:=by omega
   obtain⟨vj,hvj⟩: ∃v,vs[m+d]?=some v:=⟨_,List.getElem?_eq_getElem (l:=vs) (show m+d<vs.length by rw[hlen];simpa using hlt)⟩
   obtain⟨T,σ',_,e1,e2,hsk,hok⟩:=hat (m+d) ops[m+d] vj (by simp[hlt]) hvj
   have:σ'=T.st:=by
    cases hEm:E ops[m+d]with
    |true=>exact hsk hEm
    |false=>
    have hnw:=hno (m+d) ops[m+d] (by omega) (by omega) (by simp[hlt]) hEm
    have h2:=(hok hEm).2
    split at h2
    ·rcases h2 with h2|h2
     ·exact h2.2.1
     ·rw[hnw]at h2;cases h2.1
    ·exact h2.2.1
   rw[show m+(d+1)=m+d+1 by omega,e2,e1,this]
 have hstEnd: ∀(listed:Array Bool) (D:aa),(∀(i:Nat) (o:Oper),ops[i]?=some o→E o=false→(isW o.op||isR fz o.dst o.op)=true→isZ o.op=false→listed.getD i false=true)→K9 E ops (A.st::ss) listed D.st→D.st=B.st:=λlisted D hall ⟨m,hm,hs,hw⟩=>by
  have:=hsame (ops.size-m) m (by omega) (λj oj h1 h2 hoj hEj=>by
   cases hwj:isW oj.op with
   |false=>rfl
   |true=>
    have:=(hw j oj hoj hEj hwj).1 (hall j oj hoj hEj (by simp[hwj]) (vR hwj))
    omega)
  rw[show m+(ops.size-m)=ops.size by omega,hBs',hs]at this
  exact(Option.some.inj this).symm
 have hat': ∀j o v,ops[j]?=some o→vs[j]?=some v→ ∃Tj σ',jG E ops vs A (· <j) Tj∧(A.st::ss)[j]?=some Tj.st∧(A.st::ss)[j+1]?=some σ'∧(E o=true→σ'=Tj.st)∧(E o=false→iA P W0 n fz ops o Tj v σ'):=λj o v hj hv=>hat j o v (by simpa using hj) hv
 have hover: ∀(fuel:Nat) (listed:Array Bool) (D:aa) (w:World) (C:Ctx) (a:Act),listed.size=ops.size→(List.range ops.size).countP (λi=>!listed.getD i true)≤fuel→sv ops listed→
   (∀(i:Nat) (oi:Oper),ops[i]?=some oi→E oi=true→listed.getD i false=false)→jG E ops vs A (λi=>listed.getD i false=true) D→K9 E ops (A.st::ss) listed D.st→bI P W0 n w C D a→
   (∀(i:Nat) (o:Oper),ops[i]?=some o→E o=false→(isW o.op||isR fz o.dst o.op)=true→isZ o.op=false→listed.getD i false=true)→(∀B' C' a' w',K B'→bI P W0 n w' C' B' a'→Step w C w' C'→Qx .normal a' w')→jY P .any ops Qx fuel listed a w:=λfuel listed D w C a hsz hfuel hclosed hEl hE hS hr hall hq=>by
  refine zP hf (by rw[hlen];simp) hat' fuel listed D B ((ops.toList.zipIdx 0).filter (λp=>E p.1)) w C a hsz hfuel hclosed ⟨λi o d hi hEi hdi hl=>?_,λd hd=>?_,hstEnd listed D hall hS,λi o d v hi hEi hdi hv=>?_,λd hd=>?_,hall,λi o σi hi hEi hR hz hl hs=>?_,λp hp=>?_,λi o hi hEi hl=>?_,?_⟩ hr (by rw[nQ];exact hK) hq
  ·exact hE.old d λk ok hk hok _ hdk=>by have:=hD k i ok o d hok hi hdk hdi;subst this;rw[hl]at hk;cases hk
  ·by_cases hex: ∃(i:Nat) (o:Oper),ops[i]?=some o∧E o=false∧o.dst=some d
   ·obtain⟨i,o,hi,hEi,hdi⟩:=hex
    have hlt:=(Array.getElem?_eq_some_iff.1 hi).1
    have hv:=List.getElem?_eq_getElem (l:=vs) (show i<vs.length by rw[hlen];simpa using hlt)
    rw[hE.set i o d _ (hd i o hi hEi hdi) hi hEi hdi hv,hB.set i o d _ (by simpa using hlt) hi hEi hdi hv]
   ·rw[hE.old d (λi o _ hi hEi hdi=>hex ⟨i,o,hi,hEi,hdi⟩),hB.old d (λi o _ hi hEi hdi=>hex ⟨i,o,hi,hEi,hdi⟩)]
  ·exact hB.set i o d v (by simpa using (Array.getElem?_eq_some_iff.1 hi).1) hi hEi hdi hv
  ·exact hB.old d λi o _ hi hEi hdi=>by have:=(hd i o hi hdi).1;rw[hEi]at this;cases this
  ·have hlt:=(Array.getElem?_eq_some_iff.1 hi).1
   have hnow: ∀(j:Nat) (oj:Oper),i≤j→j<i+(ops.size-i)→ops[j]?=some oj→E oj=false→isW oj.op=false:=λj oj h1 h2 hj hEj=>by
    cases hwj:isW oj.op with
    |false=>rfl
    |true=>
     have hne:i≠j:=λe=>by subst e;rw[hi]at hj;cases hj;rw[vR hwj]at hz;cases hz
     have hlj:=hall j oj hj hEj (by simp[hwj]) (vR hwj)
     have hmem:=(hf.wr i j o oj hi hj hne hEi hEj hwj (by simp[hR])).2 (by omega)
     have:=oQ hf (S:=λj=>listed.getD j false=true) (λk ok hk hlk=>hclosed k ok hk (by
      have h3:k<listed.size:=by have:=(Array.getElem?_eq_some_iff.1 hk).1;omega
      simp[Array.getD,h3]at hlk ⊢
      exact hlk)) j oj hj (hclosed j oj hj (by
      have h3:j<listed.size:=by have:=(Array.getElem?_eq_some_iff.1 hj).1;omega
      simp[Array.getD,h3]at hlj ⊢
      exact hlj)) i hmem
     rw[hl]at this;cases this
   have hsm:=hsame (ops.size-i) i (by omega) hnow
   rw[show i+(ops.size-i)=ops.size by omega,hBs',hs]at hsm
   exact⟨[],by rw[List.append_nil,hstEnd listed D hall hS];exact Option.some.inj hsm⟩
  ·obtain⟨hp1,hp2⟩:=List.mem_filter.1 hp
   have h3:ops[p.2]?=some p.1:=by
    have:=List.mem_zipIdx_iff_getElem?.1 hp1
    simpa using this
   exact⟨h3,hp2,hEl p.2 p.1 h3 hp2⟩
  ·exact List.mem_filter.2 ⟨List.mem_zipIdx_iff_getElem?.2 (by simpa using hi),hEi⟩
  ·refine List.Pairwise.filter _ ?_
   rw[List.pairwise_iff_getElem]
   intro i j hi hj hij
   simp only[List.getElem_zipIdx]
   omega
 intro fuel
 induction fuel with
 |zero=>
  intro listed D w C a hsz hfuel hclosed hEl hE hS hr hq
  refine hover 0 listed D w C a hsz hfuel hclosed hEl hE hS hr (λi o hi _ _ _=>ky hf hsz (vE hfuel) i (Array.getElem?_eq_some_iff.1 hi).1) hq
 |succ fuel ih=>
  intro listed D w C a hsz hfuel hclosed hEl hE hS hr hq
  by_cases hall: ∀(i:Nat) (o:Oper),ops[i]?=some o→E o=false→(isW o.op||isR fz o.dst o.op)=true→isZ o.op=false→listed.getD i false=true
  ·exact hover (fuel+1) listed D w C a hsz hfuel hclosed hEl hE hS hr hall hq
  refine⟨λhnil=>absurd (λi o hi _ _ _=>ky hf hsz hnil i (Array.getElem?_eq_some_iff.1 hi).1) hall,λi hi=>?_⟩
  ·obtain⟨h1,o,ho,h2⟩:=mem_ready.1 hi
   have hilt:=(Array.getElem?_eq_some_iff.1 ho).1
   obtain⟨vi,hv⟩: ∃v,vs[i]?=some v:=⟨_,List.getElem?_eq_getElem (l:=vs) (show i<vs.length by rw[hlen];simpa using hilt)⟩
   obtain⟨T,σ',hT,hTs,hTs',_,hstep⟩:=hat i o _ (by simpa using ho) hv
   have hif:listed.getD i false=false:=by
    have h3:i<listed.size:=by omega
    simp[Array.getD,h3]at h1 ⊢
    exact h1
   have hil:i<listed.size:=by omega
   have hdone: ∀j∈(ac[i]?).getD [],listed.getD j false=true:=oQ hf (S:=λj=>listed.getD j false=true) (λj oj hj hlj=>hclosed j oj hj (by
    have h3:j<listed.size:=by have:=(Array.getElem?_eq_some_iff.1 hj).1;omega
    simp[Array.getD,h3]at hlj ⊢
    exact hlj)) i o ho h2
   have hEo:E o=false:=by
    cases hEo:E o with
    |false=>rfl
    |true=>exact absurd (λj oj hj hEj hx hz=>hdone j (hf.last i j o oj ho hj hEo hEj hx (by rw[hz,Bool.and_false]))) hall
   replace hstep:=hstep hEo
   have hdoneOf: ∀(j:Nat) (oj:Oper),ops[j]?=some oj→listed.getD j false=true→ ∀k∈(ac[j]?).getD [],listed.getD k false=true:=λj oj hj hlj=>by
    have hcl': ∀(j:Nat) (oj:Oper),ops[j]?=some oj→listed.getD j false=true→ ∀e∈oj.after,Region.binds .any e=true→listed.getD e.on false=true:=λj oj hj hlj=>hclosed j oj hj (by
     have h3:j<listed.size:=by have:=(Array.getElem?_eq_some_iff.1 hj).1;omega
     simp[Array.getD,h3]at hlj ⊢
     exact hlj)
    exact oQ hf (S:=λj=>listed.getD j false=true) hcl' j oj hj (hcl' j oj hj hlj)
   obtain⟨m,hm,hms,hmw⟩:=hS
   have hcl: ∀(j:Nat) (oj:Oper),ops[j]?=some oj→listed.getD j false=true→eH oj i=true→False:=λj oj hj hlj hwt=>by
    have hjlt:=(Array.getElem?_eq_some_iff.1 hj).1
    obtain⟨e,he,e1,e2⟩:=gg hwt
    have:=hclosed j oj hj (by
     have h3:j<listed.size:=by omega
     simp[Array.getD,h3]at hlj ⊢
     exact hlj) e he e2
    rw[e1,hif]at this
    cases this
   have hpos:(isW o.op||isR fz o.dst o.op)=true→(A.st::ss)[i]?=(A.st::ss)[m]?∧(∀(j:Nat) (oj:Oper),ops[j]?=some oj→E oj=false→isW oj.op=true→j≠i→(listed.getD j false=true↔j<i)):=λhlk=>by
    have hiff: ∀(j:Nat) (oj:Oper),ops[j]?=some oj→E oj=false→isW oj.op=true→j≠i→(listed.getD j false=true↔j<i):=λj oj hj hEj hwj hne=>by
     obtain⟨g1,g2⟩:=hf.wr i j o oj ho hj (Ne.symm hne) hEo hEj hwj hlk
     constructor
     ·intro hlj
      rcases Nat.lt_or_gt_of_ne hne with hlt|hgt
      ·exact hlt
      ·have:=hdoneOf j oj hj hlj i (g2 hgt);rw[hif]at this;cases this
     ·intro hlt
      exact hdone j (g1 hlt)
    refine⟨?_,hiff⟩
    rcases Nat.le_total m i with hle|hle
    ·have:=hsame (i-m) m (by omega) (λj oj g1 g2 hoj hEj=>by
      cases hwj:isW oj.op with
      |false=>rfl
      |true=>
       have:=(hmw j oj hoj hEj hwj).1 ((hiff j oj hoj hEj hwj (by omega)).2 (by omega))
       omega)
     rwa [show m+(i-m)=i by omega]at this
    ·have:=hsame (m-i) i (by omega) (λj oj g1 g2 hoj hEj=>by
      cases hwj:isW oj.op with
      |false=>rfl
      |true=>
       have hlj:=(hmw j oj hoj hEj hwj).2 (by omega)
       by_cases hji:j=i
       ·subst hji;rw[hif]at hlj;cases hlj
       ·have:=(hiff j oj hoj hEj hwj hji).1 hlj
        omega)
     rw[show i+(m-i)=m by omega]at this
     exact this.symm
   have hstD:(isW o.op||isR fz o.dst o.op)=true→D.st=T.st:=λhlk=>by
    have:=(hpos hlk).1
    rw[hTs,hms]at this
    exact(Option.some.inj this).symm
   have hstepD:iA P W0 n fz ops o D vi (if isW o.op then σ' else D.st):=hstep.congr hstD (λd hd=>by
    by_cases hex: ∃(j:Nat) (oj:Oper),ops[j]?=some oj∧oj.dst=some d
    ·obtain⟨j,oj,hj,hdj⟩:=hex
     have hjlt:=(Array.getElem?_eq_some_iff.1 hj).1
     have hvj:=List.getElem?_eq_getElem (l:=vs) (show j<vs.length by rw[hlen];simpa using hjlt)
     have honly: ∀k ok,ops[k]?=some ok→ok.dst=some d→k=j:=λk ok hk hdk=>hD k j ok oj d hk hj hdk hdj
     by_cases hEj:E oj=true
     ·rw[hE.old d (λk ok _ hk hok hdk=>by have:=honly k ok hk hdk;subst this;rw[hj]at hk;cases hk;rw[hEj]at hok;cases hok),hT.old d (λk ok _ hk hok hdk=>by have:=honly k ok hk hdk;subst this;rw[hj]at hk;cases hk;rw[hEj]at hok;cases hok)]
     have hEj:E oj=false:=by simpa using hEj
     rcases Nat.lt_trichotomy j i with hlt|heq|hgt
     ·obtain⟨e,he,e1,e2⟩:=gg ((hf.look i j o oj d ho hj (by omega) hdj hd).1 hlt)
      have hlj:listed.getD j false=true:=by rw[←e1];exact h2 e he e2
      rw[hE.set j oj d _ hlj hj hEj hdj hvj,hT.set j oj d _ hlt hj hEj hdj hvj]
     ·subst heq
      have e1:D.env d=A.env d:=hE.old d (λk ok hk hok _ hdk=>by have:=honly k ok hok hdk;subst this;rw[hif]at hk;cases hk)
      have e2:T.env d=A.env d:=hT.old d (λk ok hk hok _ hdk=>by have:=honly k ok hok hdk;omega)
      rw[e1,e2]
     ·have hnl:listed.getD j false=false:=by
       cases hlj:listed.getD j false with
       |false=>rfl
       |true=>
        exfalso
        obtain⟨e,he,e1,e2⟩:=gg ((hf.look i j o oj d ho hj (by omega) hdj hd).2.1 hgt)
        have:=hclosed j oj hj (by
         have h3:j<listed.size:=by omega
         simp[Array.getD,h3]at hlj ⊢
         exact hlj) e he e2
        rw[e1,hif]at this
        cases this
      have e1:D.env d=A.env d:=hE.old d (λk ok hk hok _ hdk=>by have:=honly k ok hok hdk;subst this;rw[hnl]at hk;cases hk)
      have e2:T.env d=A.env d:=hT.old d (λk ok hk hok _ hdk=>by have:=honly k ok hok hdk;omega)
      rw[e1,e2]
    ·rw[hE.old d (λk ok _ hk _ hdk=>hex ⟨k,ok,hk,hdk⟩),hT.old d (λk ok _ hk _ hdk=>hex ⟨k,ok,hk,hdk⟩)])
   have hput:jG E ops vs A (λj=>(listed.setIfInBounds i true).getD j false=true) ((D.put o.dst vi).an (if isW o.op then σ' else D.st)):=by
    have hp:=hE.put hD ho hEo hv
    have hiff: ∀j,(listed.setIfInBounds i true).getD j false=true↔(listed.getD j false=true∨j=i):=λj=>by
     by_cases hj:j=i
     ·subst hj
      have h3:j<listed.size:=by omega
      simp[Array.getD,h3]
     ·rw[getD_set_ne false (Ne.symm hj)];simp[hj]
    exact⟨λj oj d u hj=>hp.set j oj d u ((hiff j).1 hj),λd hd=>hp.old d (λj oj hj=>hd j oj ((hiff j).2 hj))⟩
   have hsz':(listed.setIfInBounds i true).size=ops.size:=by simpa using hsz
   have hfuel':(List.range ops.size).countP (λj=>!(listed.setIfInBounds i true).getD j true)≤fuel:=by
    have:=qI (l:=List.range ops.size) (p:=λj=>!listed.getD j true) (q:=λj=>!(listed.setIfInBounds i true).getD j true) (x:=i) (λj _ hj=>by
     by_cases hji:j=i
     ·subst hji;simpa using h1
     ·rw[getD_set_ne true (Ne.symm hji)]at hj;exact hj) (List.mem_range.2 hilt) (by rw[h1];rfl) (by
      have h3:i<listed.size:=by omega
      simp[Array.getD,h3])
    omega
   have hclosed': ∀(j:Nat) (oj:Oper),ops[j]?=some oj→(listed.setIfInBounds i true).getD j true=true→ ∀e∈oj.after,Region.binds .any e=true→(listed.setIfInBounds i true).getD e.on false=true:=λj oj hj hlj e he hb=>by
    by_cases hji:j=i
    ·subst hji
     rw[ho]at hj
     cases hj
     exact getD_set_true (h2 e he hb)
    ·rw[getD_set_ne true (Ne.symm hji)]at hlj
     exact getD_set_true (hclosed j oj hj hlj e he hb)
   have hS':K9 E ops (A.st::ss) (listed.setIfInBounds i true) (if isW o.op then σ' else D.st):=by
    have hset: ∀j,(listed.setIfInBounds i true).getD j false=true↔(listed.getD j false=true∨j=i):=λj=>by
     by_cases hj:j=i
     ·subst hj
      have h3:j<listed.size:=by omega
      simp[Array.getD,h3]
     ·rw[getD_set_ne false (Ne.symm hj)];simp[hj]
    cases hW:isW o.op with
    |false=>
     refine⟨m,hm,by simpa using hms,λj oj hj hEj hwj=>?_⟩
     have hji:j≠i:=λe=>by subst e;rw[ho]at hj;cases hj;rw[hW]at hwj;cases hwj
     rw[hset]
     simp only[hji,or_false]
     exact hmw j oj hj hEj hwj
    |true=>
     refine⟨i+1,by omega,by simpa using hTs',λj oj hj hEj hwj=>?_⟩
     rw[hset]
     by_cases hji:j=i
     ·subst hji;simp
     ·have:=(hpos (by simp[hW])).2 j oj hj hEj hwj hji
      simp only[hji,or_false,this]
      omega
   have hgo: ∀w' C' a',bI P W0 n w' C' ((D.put o.dst vi).an (if isW o.op then σ' else D.st)) a'→Step w C w' C'→jY P .any ops Qx fuel (listed.setIfInBounds i true) a' w':=λw' C' a' hr' hs=>
    ih _ _ w' C' a' hsz' hfuel' hclosed' (λj oj hj hEj=>(cr hil j).2 ⟨hEl j oj hj hEj,λe=>by subst e;rw[ho]at hj;cases hj;rw[hEo]at hEj;cases hEj⟩) hput hS' hr' (λB' C'' a'' w'' hKB hr'' hs''=>hq B' C'' a'' w'' hKB hr'' (hs.trans hs''))
   unfold Cq
   rw[ho]
   simp only
   obtain⟨hd,hstepD⟩:=hstepD
   have fin:isW o.op=false→ ∀x w',aG P w' C vi x→Step w C w' C→aB P W0 w' C D.st→jY P .any ops Qx fuel (listed.setIfInBounds i true) (a.put o.dst x) w':=λhW x w' hv hs hst=>hgo w' C _ (by
    have:=kc (o:=o) hr hd hs hst hv
    simpa[hW]using this) hs
   split at hstepD
   ·rename_i hg
    rw[if_pos (by simp[Region.wanted,hg])]
    rcases hstepD with⟨hW,_,hp⟩|⟨hW,hu,hp⟩
    ·exact⟨hp.1 w C a (hr.toO o) _ _ (fin hW),dU (hp.1 w C a (hr.toO o) _ _ λx _ _ _ _=>put_defers a o.dst x)⟩
    ·rw[if_pos hW]at hp
     obtain⟨w',r1,r2,r3⟩:=hp w C a (hr.toO o)
     refine⟨pP r1 (hgo w' C _ ?_ r2),dU (pP r1 (put_defers a o.dst undef))⟩
     rw[if_pos hW,hu]
     exact kc (o:=o) hr hd r2 r3 (.undef _)
   ·rename_i j want hg
    obtain⟨hW,_,G,u,g1,g2,g3⟩:=hstepD
    have hw:=sH hr g1 hg
    rw[hw]
    cases G with
    |true=>
     rw[if_pos rfl]
     exact⟨(g3 rfl).1 w C a (hr.toO o) _ _ λx w' hv hs hst=>fin hW x w' (by rw[g2];exact .maybe (λ_=>hv) (λe=>by cases e)) hs hst,dU ((g3 rfl).1 w C a (hr.toO o) _ _ λx _ _ _ _=>put_defers a o.dst x)⟩
    |false=>
     rw[if_neg (by simp)]
     refine hgo w C _ ?_ (.refl _ _)
     have e:(D.put o.dst vi).an D.st=D.put o.dst vi:=by cases o.dst<;>rfl
     have:=ko hr hd (v:=vi) (x:=undef) (by rw[g2];exact .maybe (λe=>by cases e) (λ_=>rfl))
     rw[←e]at this
     simpa[hW]using this
theorem VC.SP {id:Nat}{l:List Oper}{Q:Exit→aa→Prop}(hm:P.follows .mixedOrders=true)(hdep:yP fz E l.toArray ac=true)(h: ∃vs ss B,Seq P W0 n fz E l.toArray l A vs ss B∧eVC P W0 n fz (l.filter E) (Q .normal) B):VC P W0 n (.region id l.toArray true) Q A:=λw C a hr=>by
 obtain⟨vs,ss,B,hseq,hB⟩:=h
 have hr':bI P W0 n w.drew C A a:=hr.step (Step.drew w C) hr.st.drew
 refine tt hm (Dh (K:=Q .normal) (Eh hdep) (vs:=vs) (ss:=ss) (B:=B) (by simpa using hseq) (by simpa using hB) l.toArray.size _ A w.drew C a (by simp) ?_ ?_ ?_ ?_ ?_ hr' ?_)
 ·exact Nat.le_trans List.countP_le_length (by simp)
 ·intro i oi hi hl
  have hlt:=(Array.getElem?_eq_some_iff.1 hi).1
  exfalso
  simp[Array.getD]at hl
  simp at hlt
  exact absurd hl (by omega)
 ·intro i oi hi _
  simp[Array.getD]
 ·refine⟨λi o d v hi=>?_,λ_ _=>rfl⟩
  exfalso
  simp[Array.getD]at hi
 ·exact⟨0,Nat.zero_le _,rfl,λj oj _ _ _=>by simp[Array.getD]⟩
 ·intro B' C' a' w' hK hr' hs
  exact⟨B',C',hK,hr',(Step.drew w C).trans hs⟩
end
end Go.Av
end
section
namespace Go.Av
open Go
def unm :AV→AV| .maybe _ v=>v|v=>v
def okM (gd:Option Bool):AV→Prop| .maybe g _=>imp gd (g=true)|_=>True
def gq (gd:Option Bool)(b:Bool):AV→Prop| .maybe g _=>imp gd (b=true→g=true)|_=>True
def zh :AV→Prop| .bool _=>True|_=>False
def bl :AV→Bool| .bool b=>b|_=>false
def isI :AV→Prop| .int _ _=>True|_=>False
def iv :AV→Int| .int _ n=>n|_=>0
def lF (b:Bool)(u v:AV):AV:=lW b u v
def bU (P:Program)(op:BinOp)(t:TypeId)(u v:AV):AV:=(cc P op t u v).getD .undef
def bY (P:Program)(op:BinOp)(t:TypeId)(u v:AV):Prop:=(cc P op t u v).isSome=true
def unV (op:UnOp)(u:AV):AV:=match op,u with| .not,.bool b=>.bool (!b)| .neg,.int k m=>.int k (k.wrap (-m))|_,_=>.undef
def unC (op:UnOp)(u:AV):Prop:=match op,u with| .not,.bool _=>True| .neg,.int _ _=>True|_,_=>False
def qU (σ:ab):AV→AV| .loc _ v=>v| .ptr _ id i path=>(look σ id i path).getD .undef|_=>.undef
def qY (gd:Option Bool)(σ:ab)(t:TypeId):AV→Prop| .loc t' _=>t'=t| .ptr t' id i path=>t'=t∧imp gd ((look σ id i path).isSome=true)|_=>False
def qE (P:Program)(s:TypeId)(k:Nat):AV→AV
 | .loc _ (.agg _ fs)=>.loc ((((bo P s).getD [])[k]?).getD 0) (fs[k]?.getD .undef)
 | .ptr _ id i path=>.ptr ((((bo P s).getD [])[k]?).getD 0) id i (path++[k])
 |_=>.undef
def p7 (P:Program)(s:TypeId)(k:Nat):AV→Prop
 | .loc t (.agg t' fs)=>t=s∧t'=s∧bs P s=true∧(bo P s).isSome=true∧(((bo P s).getD [])[k]?).isSome=true∧fs[k]?.isSome=true
 | .ptr t _ _ _=>t=s∧bs P s=true∧(bo P s).isSome=true∧(((bo P s).getD [])[k]?).isSome=true
 |_=>False
def fvV (k:Nat):AV→AV| .agg _ fs=>fs[k]?.getD .undef|_=>.undef
def fvC (P:Program)(s:TypeId)(k:Nat):AV→Prop| .agg t fs=>t=s∧bs P s=true∧(bo P s).isSome=true∧(((bo P s).getD [])[k]?).isSome=true∧fs[k]?.isSome=true|_=>False
def atV (xs:List AV)(i:Int):AV:=xs[i.toNat]?.getD .undef
def dX (P:Program)(t:TypeId)(i:Int):AV→AV
 | .ptr _ id j path=>.ptr ((iP P t).getD 0) id j (path++[i.toNat])
 | .loc _ (.agg _ fs)=>.loc ((iP P t).getD 0) (fs[i.toNat]?.getD .undef)
 | .row e id off _=>.ptr e id (off+i.toNat) []
 | .sl e xs=>.loc e (atV xs i)
 | .lit e xs=>.loc e (atV xs i)
 | .own e xs _=>.loc e (atV xs i)
 |_=>.undef
def dZ (P:Program)(gd:Option Bool)(σ:ab)(t:TypeId)(i:Int):AV→Prop
 | .ptr t' _ _ _=>t'=t∧(iP P t).isSome=true∧(bo P t).isSome=true∧imp gd (0≤i∧i.toNat<((bo P t).getD []).length)
 | .loc t' (.agg t'' fs)=>t'=t∧t''=t∧(iP P t).isSome=true∧(bo P t).isSome=true∧imp gd (0≤i∧i.toNat<fs.length)
 | .row e id _ m=>elT P t=some e∧0<ae P e∧imp gd (0≤i∧i.toNat<m)∧live σ id
 | .sl e xs=>elT P t=some e∧0<ae P e∧imp gd (0≤i∧i.toNat<xs.length)
 | .lit e xs=>elT P t=some e∧0<ae P e∧imp gd (0≤i∧i.toNat<xs.length)
 | .own e xs _=>elT P t=some e∧0<ae P e∧imp gd (0≤i∧i.toNat<xs.length)
 |_=>False
def wk (i:Int):AV→AV| .str l=>.int .u8 (l[i.toNat]?.getD 0).toNat| .agg _ fs=>fs[i.toNat]?.getD .undef|_=>.undef
def wD (P:Program)(gd:Option Bool)(t:TypeId)(i:Int):AV→Prop| .str l=>cg P t=true∧imp gd (0≤i∧i.toNat<l.length)| .agg t' fs=>t'=t∧(iP P t).isSome=true∧(bo P t).isSome=true∧imp gd (0≤i∧i.toNat<fs.length)|_=>False
def pn (k:Nat):AV→AV| .tup as=>as[k]?.getD .undef|_=>.undef
def oO (k:Nat):AV→Prop| .tup as=>as[k]?.isSome=true|_=>False
def gk (P:Program)(d:TypeId):AV→AV| .int _ m=>(match ir P d with|some k'=>.int k' (k'.wrap m)|none=>.str (xG m))| .str l=>.str l| .lit _ xs=>.str (xs.map jv)| .sl _ xs=>.str (xs.map jv)| .own _ xs _=>.str (xs.map jv)|_=>.undef
def byC (P:Program)(s d e:TypeId)(xs:List AV):Prop:=elT P s=some e∧ir P e=some .u8∧ae P e=1∧cg P d=true∧gM xs
def gQ (P:Program)(s d:TypeId):AV→Prop| .int _ _=>(ir P s).isSome=true∧((ir P d).isSome||cg P d)=true| .str _=>cg P s=true∧cg P d=true| .lit e xs=>byC P s d e xs| .sl e xs=>byC P s d e xs| .own e xs _=>byC P s d e xs|_=>False
def cW (A:aa)(d:Nat):Option Operand→Nat|none=>d|some y=>(iv (unm (A.val y))).toNat
def uh (gd:Option Bool)(A:aa):Option Operand→Prop|none=>True|some y=>okM gd (A.val y)∧isI (unm (A.val y))∧imp gd (0≤iv (unm (A.val y)))
def j1 (A:aa)(lo hi:Option Operand):AV→AV
 | .row e id off m=>.row e id (off+cW A 0 lo) (cW A m hi-cW A 0 lo)
 | .ay=>.ay
 | .str l=>.str (gn l (cW A 0 lo) (cW A l.length hi))
 | .sl e xs=>.sl e (gn xs (cW A 0 lo) (cW A xs.length hi))
 | .lit e xs=>.sl e (gn xs (cW A 0 lo) (cW A xs.length hi))
 | .own e xs _=>.sl e (gn xs (cW A 0 lo) (cW A xs.length hi))
 |_=>.undef
def lr (gd:Option Bool)(A:aa)(lo hi:Option Operand)(m:Nat):Prop:=uh gd A lo∧uh gd A hi∧imp gd (cW A 0 lo≤cW A m hi∧cW A m hi≤m)
def iX (P:Program)(gd:Option Bool)(A:aa)(t:TypeId)(lo hi:Option Operand):AV→Prop
 | .row e _ _ m=>elT P t=some e∧0<ae P e∧lr gd A lo hi m
 | .ay=>(elT P t).isSome=true∧0<ae P ((elT P t).getD 0)∧uh gd A lo∧uh gd A hi∧imp gd (cW A 0 lo=0∧cW A 0 hi=0)
 | .str l=>cg P t=true∧lr gd A lo hi l.length
 | .sl e xs=>elT P t=some e∧0<ae P e∧lr gd A lo hi xs.length
 | .lit e xs=>elT P t=some e∧0<ae P e∧lr gd A lo hi xs.length
 | .own e xs _=>elT P t=some e∧0<ae P e∧lr gd A lo hi xs.length
 |_=>False
def dE (A:aa):List (Nat×Operand)→List (Nat×AV)|[]=>[]|(i,x)::r=>(i,unm (A.val x))::dE A r
def fu (gd:Option Bool)(A:aa):List (Nat×Operand)→Prop|[]=>True|(_,x)::r=>okM gd (A.val x)∧fu gd A r
def dD (P:Program)(t:TypeId):List AV:=match zeroOf P t with|some (.agg _ fs)=>fs|_=>[]
def dL (P:Program)(t:TypeId):Bool:=match zeroOf P t with|some (.agg t' _)=>t'==t|_=>false
def Ax (P:Program)(t:TypeId)(qs:List (Nat×AV)):Prop:=(bo P t).isSome=true∧dL P t=true∧mC P ((bo P t).getD []) qs=true
def eJ (P:Program)(t:TypeId)(m:Nat)(qs:List (Nat×AV)):Prop:=match elT P t with
 |some e=>0<ae P e∧bu P e=true∧m*ae P e≤16777216∧qs.map (·.1)=List.range' 0 m∧qs.all (λp=>bn P e p.2)=true
 |none=>False
def lV :AV→AV
 | .str l=>.int .i64 l.length
 | .sl _ xs=>.int .i64 xs.length
 | .lit _ xs=>.int .i64 xs.length
 | .own _ xs _=>.int .i64 xs.length
 | .ay=>.int .i64 0
 | .row _ _ _ n=>.int .i64 n
 |_=>.undef
def fQ (P:Program)(t:TypeId):AV→Prop
 | .str _=>cg P t=true
 | .sl _ _=>(elT P t).isSome=true
 | .lit _ _=>(elT P t).isSome=true
 | .own _ _ _=>(elT P t).isSome=true
 | .ay=>(elT P t).isSome=true
 | .row _ _ _ _=>(elT P t).isSome=true
 |_=>False
def gV (b:Builtin)(us:List AV):AV:=match b,us with
 | .len,[u]=>lV u
 | .cap,[_]=>.int .i64 0
 | .max,[.int k p,.int _ q]=>.int k (xD p q)
 | .min,[.int k p,.int _ q]=>.int k (ry p q)
 |_,_=>.undef
def jr (P:Program)(b:Builtin)(ts:List TypeId)(us:List AV):Prop:=match b,us with
 | .len,[u]=>(match ts with|[t]=>fQ P t u|_=>False)
 | .cap,[u]=>(match ts with|[t]=>(match u with| .ay=>(elT P t).isSome=true|_=>False)|_=>False)
 | .max,[.int k _,.int k' _]=>k'=k
 | .min,[.int k _,.int k' _]=>k'=k
 |_,_=>False
def cp (A:aa):List Operand→List AV|[]=>[]|x::r=>unm (A.val x)::cp A r
def dS (gd:Option Bool)(A:aa):List Operand→Prop|[]=>True|x::r=>okM gd (A.val x)∧dS gd A r
noncomputable def Gk (P:Program)(σ:ab)(t:TypeId)(k u:AV):AV:=match th P t with|some (kt,vt)=>He P ((DJ σ kt u).getD []) k (lP P vt)|none=>.undef
def Hp (P:Program)(gd:Option Bool)(σ:ab)(t:TypeId)(k u:AV):Prop:=match th P t with|some (kt,vt)=>bu P vt=true∧Maps.Keyed P kt∧imp gd (Na P kt k)∧(DJ σ kt u).isSome=true|none=>False
noncomputable def opV (P:Program)(gd:Option Bool)(A:aa):Op→AV
 | .move x=>(match gd with|none=>A.val x|some _=>unm (A.val x))
 | .assign x=>(match gd with|none=>A.val x|some _=>unm (A.val x))
 | .pick c x y=>lF (bl (unm (A.val c))) (unm (A.val x)) (unm (A.val y))
 | .binOp op t x y _=>bU P op t (unm (A.val x)) (unm (A.val y))
 | .unOp op _ x=>unV op (unm (A.val x))
 | .load _ x=>qU A.st (unm (A.val x))
 | .fieldAddr s x k=>qE P s k (unm (A.val x))
 | .field s x k=>fvV k (unm (A.val x))
 | .indexAddr t x ix=>dX P t (iv (unm (A.val ix))) (unm (A.val x))
 | .index _ x ix=>wk (iv (unm (A.val ix))) (unm (A.val x))
 | .extract x k=>pn k (unm (A.val x))
 | .nilCheck x=>unm (A.val x)
 | .convert _ d x=>gk P d (unm (A.val x))
 | .makeFunc (.func f) _ caps=>.fn f (cp A caps.toList)
 | .slice _ x lo hi _=>j1 A lo hi (unm (A.val x))
 | .build t ps=>.agg t (ns (dE A ps.toList) (dD P t))
 | .buildSlice t _ ps=>.lit ((elT P t).getD 0) ((dE A ps.toList).map (·.2))
 | .box t x=>.loc t (unm (A.val x))
 | .lookup t x ix false=>Gk P A.st t (unm (A.val ix)) (unm (A.val x))
 | .makeInterface t x=>.iface t (unm (A.val x))
 | .typeAssert x _ d ok=>jQ P d ok (unm (A.val x))
 | .call c=>(match c.callee with| .builtin b=>gV b (cp A c.args.toList)|_=>.undef)
 |_=>.undef
def opC (P:Program)(gd:Option Bool)(A:aa):Op→Prop
 | .move x=>(match gd with|none=>True|some _=>okM gd (A.val x))
 | .assign x=>(match gd with|none=>True|some _=>okM gd (A.val x))
 | .pick c x y=>okM gd (A.val c)∧zh (unm (A.val c))∧gq gd (bl (unm (A.val c))) (A.val x)∧gq gd (!bl (unm (A.val c))) (A.val y)
 | .binOp op t x y _=>okM gd (A.val x)∧okM gd (A.val y)∧bY P op t (unm (A.val x)) (unm (A.val y))
 | .unOp op _ x=>okM gd (A.val x)∧unC op (unm (A.val x))
 | .load t x=>okM gd (A.val x)∧qY gd A.st t (unm (A.val x))
 | .fieldAddr s x k=>okM gd (A.val x)∧p7 P s k (unm (A.val x))
 | .field s x k=>okM gd (A.val x)∧fvC P s k (unm (A.val x))
 | .indexAddr t x ix=>okM gd (A.val x)∧okM gd (A.val ix)∧isI (unm (A.val ix))∧dZ P gd A.st t (iv (unm (A.val ix))) (unm (A.val x))
 | .index t x ix=>okM gd (A.val x)∧okM gd (A.val ix)∧isI (unm (A.val ix))∧wD P gd t (iv (unm (A.val ix))) (unm (A.val x))
 | .extract x k=>okM gd (A.val x)∧oO k (unm (A.val x))
 | .nilCheck x=>okM gd (A.val x)∧(unm (A.val x)).fW=true
 | .convert s d x=>okM gd (A.val x)∧gQ P s d (unm (A.val x))
 | .makeFunc (.func _) first caps=>first.toList=[]∧dS gd A caps.toList∧(cp A caps.toList).all AV.aX=true
 | .slice t x lo hi mx=>mx=none∧okM gd (A.val x)∧iX P gd A t lo hi (unm (A.val x))
 | .build t ps=>fu gd A ps.toList∧Ax P t (dE A ps.toList)
 | .buildSlice t m ps=>fu gd A ps.toList∧eJ P t m (dE A ps.toList)
 | .box t x=>okM gd (A.val x)∧bn P t (unm (A.val x))=true
 | .lookup t x ix false=>okM gd (A.val x)∧okM gd (A.val ix)∧Hp P gd A.st t (unm (A.val ix)) (unm (A.val x))
 | .makeInterface t x=>okM gd (A.val x)∧mA P t=true∧(unm (A.val x)).aX=true
 | .typeAssert x _ d ok=>okM gd (A.val x)∧mD P d ok (unm (A.val x))
 | .call c=>(match c.callee with| .builtin b=>dS gd A c.args.toList∧jr P b c.argTypes.toList (cp A c.args.toList)|_=>False)
 |_=>False
section
variable {P :Program}{W0:World}{σ:ab}{n:Nat}{A:aa}{gd:Option Bool}{K:AV→Prop}
theorem aN {x:AV}{k:AV→Prop}(h1:okM gd x)(h2:k (unm x)):strip gd x k:=by cases x<;>first|exact⟨h1,h2⟩|exact h2
theorem vb {b:Bool}{x:AV}{k:AV→Prop}(h1:gq gd b x)(h2:k (unm x)):ti gd b x k:=by cases x<;>first|exact⟨h1,h2⟩|exact h2
theorem fD : ∀{xs:List Operand} {k:List AV→Prop},dS gd A xs→k (cp A xs)→stripL gd (xs.map A.val) k
 |[],_,_,h=>h
 |_::_,_,h1,h2=>aN h1.1 (fD h1.2 h2)
theorem kJ : ∀{ps:List (Nat×Operand)} {k:List (Nat×AV)→Prop},fu gd A ps→k (dE A ps)→mG gd A ps k
 |[],_,_,h=>h
 |(_,_)::_,_,h1,h2=>aN h1.1 (kJ h1.2 h2)
theorem BT {v:AV}(h:isI v): ∃k,v= .int k (iv v):=by cases v<;>first|exact⟨_,rfl⟩|exact h.elim
theorem Kq {v:AV}(h:zh v):v= .bool (bl v):=by cases v<;>first|rfl|exact h.elim
theorem pf {x:Option Operand}{d:Nat}{k:Nat→Prop}(h1:uh gd A x)(h2:k (cW A d x)):ig gd A x d k:=by
 cases x with
 |none=>exact h2
 |some y=>
  obtain⟨h3,h4,h5⟩:=h1
  refine aN h3 ?_
  obtain⟨kk,hk⟩:=BT h4
  rw[hk]
  exact⟨h5,h2⟩
theorem tX {lo hi:Option Operand}{m:Nat}{k:Nat→Nat→Prop}(h:lr gd A lo hi m)(hk:k (cW A 0 lo) (cW A m hi)):ig gd A lo 0 λp=>ig gd A hi m λq=>imp gd (p≤q∧q≤m)∧k p q:=
 pf h.1 (pf h.2.1 ⟨h.2.2,hk⟩)
theorem KR {lo hi:Option Operand}{k:Nat→Nat→Prop}(h:uh gd A lo∧uh gd A hi∧imp gd (cW A 0 lo=0∧cW A 0 hi=0))(hk:k (cW A 0 lo) (cW A 0 hi)):ig gd A lo 0 λp=>ig gd A hi 0 λq=>imp gd (p=0∧q=0)∧k p q:=
 pf h.1 (pf h.2.1 ⟨h.2.2,hk⟩)
theorem AI {t:TypeId}{u:AV}{lo hi:Option Operand}(h1:iX P gd A t lo hi u)(h2:K (j1 A lo hi u)):r8 P gd A t u lo hi K:=by
 unfold iX at h1
 split at h1
 ·exact⟨⟨h1.1,h1.2.1⟩,tX (k:=λp q=>K (.row _ _ (_+p) (q-p))) h1.2.2 h2⟩
 ·obtain⟨h3,h4,h5⟩:=h1
  obtain⟨e,he⟩:=Option.isSome_iff_exists.1 h3
  rw[he]at h4
  show(match elT P t with|some e=>0<ae P e∧ig gd A lo 0 λp=>ig gd A hi 0 λq=>imp gd (p=0∧q=0)∧K .ay|none=>False)
  rw[he]
  exact⟨h4,KR (k:=λ_ _=>K .ay) h5 h2⟩
 ·exact⟨h1.1,tX (k:=λp q=>K (.str (gn _ p q))) h1.2 h2⟩
 ·exact⟨⟨h1.1,h1.2.1⟩,tX (k:=λp q=>K (.sl _ (gn _ p q))) h1.2.2 h2⟩
 ·exact⟨⟨h1.1,h1.2.1⟩,tX (k:=λp q=>K (.sl _ (gn _ p q))) h1.2.2 h2⟩
 ·exact⟨⟨h1.1,h1.2.1⟩,tX (k:=λp q=>K (.sl _ (gn _ p q))) h1.2.2 h2⟩
 ·exact h1.elim
theorem tz {op:Op}(h1:opC P gd A op)(h2:K (opV P gd A op)):jl P W0 gd op A K:=by
 cases op
 case move x=>cases gd<;>first|exact h2|exact aN h1 h2
 case assign x=>cases gd<;>first|exact h2|exact aN h1 h2
 case pick c x y=>
  obtain⟨g1,g2,g3,g4⟩:=h1
  refine aN g1 ?_
  rw[Kq g2]
  exact vb g3 (vb g4 h2)
 case binOp op t x y _=>
  obtain⟨g1,g2,g3⟩:=h1
  refine aN g1 (aN g2 ?_)
  obtain⟨z,hz⟩:=Option.isSome_iff_exists.1 g3
  simp only[opV,bU,hz,Option.getD_some]at h2
  simp only[HB,hz]
  exact h2
 case unOp op _ x=>
  refine aN h1.1 ?_
  have h3:=h1.2
  simp only[opV]at h2
  revert h2 h3
  generalize unm (A.val x)=u
  intro h2 h3
  cases op<;>cases u<;>first|exact h2|exact h3.elim
 case load t x=>
  refine aN h1.1 ?_
  have h3:=h1.2
  simp only[opV]at h2
  revert h2 h3
  generalize unm (A.val x)=u
  intro h2 h3
  cases u<;>first|exact h3.elim|skip
  ·exact⟨h3,h2⟩
  ·simp only[qY]at h3
   refine⟨h3.1,?_⟩
   simp only[qU]at h2
   split
   ·rename_i z hz
    rw[hz]at h2
    exact h2
   ·rename_i hz
    rw[hz]at h2
    exact⟨h3.2.map (λh=>by rw[hz]at h;cases h),h2⟩
 case field s x k=>
  refine aN h1.1 ?_
  have h3:=h1.2
  simp only[opV]at h2
  revert h2 h3
  generalize unm (A.val x)=u
  intro h2 h3
  cases u<;>first|exact h3.elim|skip
  simp only[fvC]at h3
  obtain⟨e1,e3,e4,e5,e6⟩:=h3
  obtain⟨ts,hts⟩:=Option.isSome_iff_exists.1 e4
  simp only[hts,Option.getD_some]at e5
  obtain⟨ty,hty⟩:=Option.isSome_iff_exists.1 e5
  obtain⟨y,hy⟩:=Option.isSome_iff_exists.1 e6
  simp only[fvV,hy,Option.getD_some]at h2
  simp only[OT,hts,hty,hy]
  exact⟨⟨e1,e3⟩,h2⟩
 case fieldAddr s x k=>
  refine aN h1.1 ?_
  have h3:=h1.2
  simp only[opV]at h2
  revert h2 h3
  generalize unm (A.val x)=u
  intro h2 h3
  cases u<;>first|exact h3.elim|skip
  ·rename_i t v
   cases v<;>first|exact h3.elim|skip
   simp only[p7]at h3
   obtain⟨e1,e2,e3,e4,e5,e6⟩:=h3
   obtain⟨ts,hts⟩:=Option.isSome_iff_exists.1 e4
   simp only[hts,Option.getD_some]at e5
   obtain⟨ty,hty⟩:=Option.isSome_iff_exists.1 e5
   obtain⟨y,hy⟩:=Option.isSome_iff_exists.1 e6
   simp only[qE,hts,Option.getD_some,hty,hy]at h2
   simp only[oP,hts,hty,hy]
   exact⟨⟨e1,e2,e3⟩,h2⟩
  ·simp only[p7]at h3
   obtain⟨e1,e3,e4,e5⟩:=h3
   obtain⟨ts,hts⟩:=Option.isSome_iff_exists.1 e4
   simp only[hts,Option.getD_some]at e5
   obtain⟨ty,hty⟩:=Option.isSome_iff_exists.1 e5
   simp only[qE,hts,Option.getD_some,hty]at h2
   simp only[oP,hts,hty]
   exact⟨⟨e1,e3⟩,h2⟩
 case indexAddr t x ix=>
  obtain⟨g1,g2,g3,h3⟩:=h1
  refine aN g1 (aN g2 ?_)
  obtain⟨kk,hk⟩:=BT g3
  rw[hk]
  simp only[opV]at h2
  revert h2 h3
  generalize unm (A.val x)=u
  intro h2 h3
  cases u<;>first|exact h3.elim|skip
  ·exact⟨⟨h3.1,h3.2.1⟩,h3.2.2,h2⟩
  ·exact⟨⟨h3.1,h3.2.1⟩,h3.2.2,h2⟩
  ·exact⟨⟨h3.1,h3.2.1⟩,h3.2.2,h2⟩
  ·exact⟨⟨h3.1,h3.2.1⟩,h3.2.2.1,h3.2.2.2,h2⟩
  ·rename_i t' v
   cases v<;>first|exact h3.elim|skip
   exact⟨⟨h3.1,h3.2.1,h3.2.2.1,h3.2.2.2.1⟩,h3.2.2.2.2,h2⟩
  ·obtain⟨e1,e2,e3,e4⟩:=h3
   obtain⟨ts,hts⟩:=Option.isSome_iff_exists.1 e3
   simp only[hts,Option.getD_some]at e4
   simp only[jA,hts]
   exact⟨⟨e1,e2⟩,e4,h2⟩
 case index t x ix=>
  obtain⟨g1,g2,g3,h3⟩:=h1
  refine aN g1 (aN g2 ?_)
  obtain⟨kk,hk⟩:=BT g3
  rw[hk]
  simp only[opV]at h2
  revert h2 h3
  generalize unm (A.val x)=u
  intro h2 h3
  cases u<;>first|exact h3.elim|skip
  ·exact⟨h3.1,h3.2,h2⟩
  ·exact⟨⟨h3.1,h3.2.1,h3.2.2.1⟩,h3.2.2.2,h2⟩
 case extract x k=>
  refine aN h1.1 ?_
  have h3:=h1.2
  simp only[opV]at h2
  revert h2 h3
  generalize unm (A.val x)=u
  intro h2 h3
  cases u<;>first|exact h3.elim|skip
  simp only[oO]at h3
  obtain⟨z,hz⟩:=Option.isSome_iff_exists.1 h3
  simp only[pn,hz,Option.getD_some]at h2
  simp only[qA,hz]
  exact h2
 case nilCheck x=>exact aN h1.1 ⟨h1.2,h2⟩
 case makeInterface t x=>exact aN h1.1 ⟨h1.2,h2⟩
 case typeAssert x xt d ok=>exact aN h1.1 ⟨h1.2,h2⟩
 case convert s d x=>
  refine aN h1.1 ?_
  have h3:=h1.2
  simp only[opV]at h2
  revert h2 h3
  generalize unm (A.val x)=u
  intro h2 h3
  cases u<;>first|exact h3.elim|skip
  ·simp only[gQ]at h3
   obtain⟨z,hz⟩:=Option.isSome_iff_exists.1 h3.1
   cases hz':ir P d with
   |some z'=>
    simp only[gk,hz']at h2
    simp only[mB,hz,hz']
    exact h2
   |none=>
    have h4:=h3.2
    simp only[hz',Option.isSome_none,Bool.false_or]at h4
    simp only[gk,hz']at h2
    simp only[mB,hz,hz']
    exact⟨h4,h2⟩
  all_goals exact⟨h3,h2⟩
 case makeFunc fn first caps=>
  cases fn<;>first|exact h1.elim|skip
  exact⟨h1.1,fD h1.2.1 ⟨h1.2.2,h2⟩⟩
 case slice t x lo hi mx=>exact⟨h1.1,aN h1.2.1 (AI h1.2.2 h2)⟩
 case build t ps=>
  refine kJ h1.1 ?_
  obtain⟨g1,g2',g4⟩:=h1.2
  have⟨fs,g2⟩: ∃fs,zeroOf P t=some (.agg t fs):=by
   unfold dL at g2'
   split at g2'
   ·rename_i t' fs hz;simp only[beq_iff_eq]at g2';subst g2';exact⟨fs,hz⟩
   ·cases g2'
  obtain⟨ts,hts⟩:=Option.isSome_iff_exists.1 g1
  simp only[hts,Option.getD_some]at g4
  simp only[opV,dD,g2]at h2
  simp only[rV,hts,g2]
  exact⟨⟨trivial,g4⟩,h2⟩
 case buildSlice t m ps=>
  refine kJ h1.1 ?_
  have h3:=h1.2
  unfold eJ at h3
  split at h3
  ·rename_i e he
   simp only[opV,he,Option.getD_some]at h2
   simp only[iN,he]
   exact⟨h3,h2⟩
  ·exact h3.elim
 case box t x=>exact aN h1.1 ⟨h1.2,h2⟩
 case lookup t x ix c=>
  cases c
  case true=>exact h1.elim
  refine aN h1.1 (aN h1.2.1 ?_)
  have h3:=h1.2.2
  unfold Hp at h3
  simp only[opV,Gk]at h2
  unfold A8
  split at h3
  ·rename_i kt vt ht
   rw[ht]at h2
   simp only at h2
   obtain⟨l,hl⟩:=Option.isSome_iff_exists.1 h3.2.2.2
   rw[hl]at h2
   simp only[ht,hl]
   exact⟨h3.1,h3.2.1,h3.2.2.1,h2⟩
  ·exact h3.elim
 case call c=>
  obtain⟨callee,args,argTypes⟩:=c
  cases callee<;>first|exact h1.elim|skip
  rename_i b
  refine fD h1.1 ?_
  have h3:=h1.2
  simp only[opV]at h2
  revert h2 h3
  generalize cp A args.toList=us
  intro h2 h3
  unfold jr at h3
  unfold mH
  split at h3
  ·rename_i u
   split at h3
   ·rename_i t ht
    simp only at ht
    simp only[ht]
    simp only[gV]at h2
    cases u<;>first|exact h3.elim|exact⟨h3,λ_=>h2⟩
   ·exact h3.elim
  ·rename_i u
   split at h3
   ·rename_i t ht
    simp only at ht
    simp only[ht]
    simp only[gV]at h2
    cases u<;>first|exact h3.elim|exact⟨h3,h2⟩
   ·exact h3.elim
  ·exact⟨h3,h2⟩
  ·exact⟨h3,h2⟩
  ·exact h3.elim
 all_goals exact h1.elim
end
end Go.Av
end
section
namespace Go.Av
open Go
def rb (ops:Array Oper)(j:Nat):Option Nat:=(ops[j]?).bind (·.dst)
def cP (gd:Option Bool)(v:AV):AV:=match gd with|none=>v|some G=>.maybe G v
def gdV (want:Bool):AV→Bool| .bool b=>b==want| .maybe g (.bool b)=>g&&(b==want)|_=>false
def gdC :AV→Prop| .bool _=>True| .maybe _ (.bool _)=>True| .maybe g _=>g=false|_=>False
inductive Tag {α:Type}(x:α):Type|mk:Tag x
def az (P:Program)(W0:World)(gd:Option Bool)(so:Option ab)(f:AV)(us:List AV)(dst:Option Nat)(A:aa)(k:aa→Prop)(_:Tag k):Prop:=jx P W0 gd so f us λr=>k (A.put dst (cP gd r))
def al (P:Program)(W0:World)(f:AV)(us:List AV)(dst:Option Nat)(A:aa)(k:aa→Prop)(_:Tag k):Prop:=
 match f with
 | .fn g caps=>aZ P W0 g (us++caps) A.st λr σ'=>k ((A.put dst r).an σ')
 |_=>False
def bN (P:Program)(ts:List TypeId)(us:List AV)(dst:Option Nat)(A:aa)(k:aa→Prop)(_:Tag k):Prop:=
 match us with
 |[x,y]=>(pK P A.st ts x y λv σ'=>k ((A.put dst v).an σ'))∨(jR P A.st ts x y λv σ'=>k ((A.put dst v).an σ'))∨(iL P A.st ts x y λv σ'=>k ((A.put dst v).an σ'))∨kL P A.st ts x y (λv σ'=>k ((A.put dst v).an σ'))∨pv P A.st ts x y (λv σ'=>k ((A.put dst v).an σ'))∨rq P A.st ts x y λv σ'=>k ((A.put dst v).an σ')
 |_=>False
def nS (P:Program)(ts:List TypeId)(us:List AV)(dst:Option Nat)(A:aa)(k:aa→Prop)(_:Tag k):Prop:=
 match us with
 |[x]=>rS P A.st ts x λσ'=>k ((A.put dst (.tup [])).an σ')
 |_=>False
def SI (P:Program)(t:TypeId)(u ix v:AV)(A:aa)(k:aa→Prop)(_:Tag k):Prop:=LO P A.st t u ix v λσ'=>k (A.an σ')
def ovM (fz:List Nat):Option Nat→Bool|some d=>fz.contains (5000000+d)|none=>false
def FK (P:Program)(A:aa)(t:TypeId)(lo hi mx:Option Operand)(u:AV):Prop:=False
def xW (A:aa)(lo hi mx:Option Operand):AV→AV
 | .row e id off m=>(match mx with|none=>.row e id (off+cW A 0 lo) (cW A m hi-cW A 0 lo)|some _=>.undef)
 |_=>.undef
theorem DA {P:Program}{A:aa}{t:TypeId}{lo hi mx:Option Operand}{u:AV}{K:AV→Prop}(h1:FK P A t lo hi mx u)(h2:K (xW A lo hi mx u)):Gx P A t u lo hi mx K:=False.elim h1
def Lz (P:Program)(s d:TypeId)(u:AV)(dst:Option Nat)(A:aa)(k:aa→Prop)(_:Tag k):Prop:=CK P A.st s d u λv σ'=>k ((A.put dst v).an σ')
def zO (P:Program)(t:TypeId)(u v:AV)(dst:Option Nat)(A:aa)(k:aa→Prop)(_:Tag k):Prop:=xo P A t u v λr σ'=>k ((A.put dst r).an σ')
def df (σ:ab)(id i:Nat)(path:List Nat)(v:AV):ab:=
 match σ[id]? with
 |some (some (.cells te xs))=>σ.set id (some (.cells te (xs.set i ((xs[i]?.getD .undef).setAt path v))))
 |_=>σ
def iD (P:Program)(fz:List Nat)(t:TypeId)(x:Operand)(v:AV)(A:aa)(k:aa→Prop)(_:Tag k):AV→Prop
 | .ptr t' id i path=>t'=t∧bn P t v=true∧(look A.st id i path).isSome=true∧(match x with
  | .tmp d=>if fz.contains d then path=[]∧k ((A.upd d (.loc t v)).an (A.st.set id none))else k (A.an (df A.st id i path v))
  |_=>False)
 |_=>False
def Ak (id:Nat)(dst:Option Nat)(A:aa)(k:aa→Prop):Option (Option cV)→Prop
 |some (some (.iter l pos))=>(pos<l.length→k ((A.put dst (.tup [.bool true,.int .i64 pos,.int .i32 (gu l pos).1])).an (A.st.set id (some (.iter l (pos+(gu l pos).2))))))∧(l.length≤pos→k (A.put dst (.tup [.bool false])))
 |_=>False
def sG (P:Program)(t:TypeId)(dst:Option Nat)(A:aa)(k:aa→Prop):AV→Prop
 | .str l=>cg P t=true∧k ((A.put dst (.it A.st.length)).an (A.st++[some (.iter l 0)]))
 |_=>False
def zw (dst:Option Nat)(A:aa)(k:aa→Prop):AV→Prop
 | .it id=>Ak id dst A k A.st[id]?
 |_=>False
def vop (P:Program)(W0:World)(gd:Option Bool)(so:Option ab)(dst:Option Nat)(A:aa)(k:aa→Prop):Op→Prop
 | .call c=>(match c.callee with
  | .value f=>okM gd (A.val f)∧dS gd A c.args.toList∧az P W0 gd so (unm (A.val f)) (cp A c.args.toList) dst A k .mk
  |_=>imp gd (opC P gd A (.call c))∧k (A.put dst (cP gd (opV P gd A (.call c)))))
 |op=>imp gd (opC P gd A op)∧k (A.put dst (cP gd (opV P gd A op)))
def op2 (P:Program)(W0:World)(fz:List Nat)(dst:Option Nat)(A:aa)(k:aa→Prop):Op→Prop
 | .call c=>(match c.callee with
  | .value f=>okM none (A.val f)∧dS none A c.args.toList∧al P W0 (unm (A.val f)) (cp A c.args.toList) dst A k .mk
  | .builtin .append=>dS none A c.args.toList∧bN P c.argTypes.toList (cp A c.args.toList) dst A k .mk
  | .builtin .clear=>dS none A c.args.toList∧nS P c.argTypes.toList (cp A c.args.toList) dst A k .mk
  |_=>vop P W0 none (some A.st) dst A k (.call c))
 | .box t x=>(match dst with
  |some d=>if fz.contains d then vop P W0 none (some A.st) dst A k (.box t x)
   else okM none (A.val x)∧bn P t (unm (A.val x))=true∧k ((A.upd d (.ptr t A.st.length 0 [])).an (A.st++[some (.cells t [unm (A.val x)])]))
  |none=>False)
 | .alloc t=>(zeroOf P t).isSome=true∧k ((A.put dst (.ptr t A.st.length 0 [])).an (A.st++[some (.cells t [(zeroOf P t).getD .undef])]))
 | .makeSlice t x y=>okM none (A.val x)∧okM none (A.val y)∧zO P t (unm (A.val x)) (unm (A.val y)) dst A k .mk
 | .store t x y=>okM none (A.val x)∧okM none (A.val y)∧iD P fz t x (unm (A.val y)) A (λA'=>k (A'.put dst .undef)) .mk (unm (A.val x))
 | .range t x=>okM none (A.val x)∧sG P t dst A k (unm (A.val x))
 | .next x true=>okM none (A.val x)∧zw dst A k (unm (A.val x))
 | .slice t x lo hi mx=>if ovM fz dst then okM none (A.val x)∧FK P A t lo hi mx (unm (A.val x))∧k (A.put dst (xW A lo hi mx (unm (A.val x))))else vop P W0 none (some A.st) dst A k (.slice t x lo hi mx)
 | .convert s d x=>if ovM fz dst then okM none (A.val x)∧Lz P s d (unm (A.val x)) dst A k .mk else vop P W0 none (some A.st) dst A k (.convert s d x)
 | .buildSlice t m ps=>if ovM fz dst then fu none A ps.toList∧eJ P t m (dE A ps.toList)∧k ((A.put dst (.row ((elT P t).getD 0) A.st.length 0 m)).an (A.st++[some (.cells ((elT P t).getD 0) ((dE A ps.toList).map (·.2)))]))else vop P W0 none (some A.st) dst A k (.buildSlice t m ps)
 | .makeMap t none=>(th P t).isSome=true∧k ((A.put dst (.mp A.st.length)).an (A.st++[some (.mp ((th P t).getD (0,0)).1 [])]))
 | .mapUpdate t x ix y=>okM none (A.val x)∧okM none (A.val ix)∧okM none (A.val y)∧SI P t (unm (A.val x)) (unm (A.val ix)) (unm (A.val y)) A (λA'=>k (A'.put dst .undef)) .mk
 |op=>vop P W0 none (some A.st) dst A k op
def CN (fz:List Nat):List Oper→List Nat
 |[]=>[]
 |o::r=>(match o.op with
  | .load _ (.tmp d)=>if fz.contains (6000000+d)then [d]else []
  |_=>[])++CN fz r
def za (fz:List Nat)(l:List Oper):List Nat:=if fz.all (λx=>decide (x<6000000))then []else CN fz l
def xw (A:aa)(d:Nat):aa:=match A.env d with
 | .ptr t id 0 []=>(match A.st[id]? with
  |some (some (.cells te [z]))=>if te=t then(A.upd d (.loc t z)).an (A.st.set id none)else A
  |_=>A)
 |_=>A
def lq :List Nat→aa→(aa→Prop)→Prop
 |[],A,k=>k A
 |d::r,A,k=>lq r (xw A d) k
def zS (fz:List Nat)(id:Nat)(ops:Array Oper)(_:Tag ops):Prop:=yP fz (eM fz id) ops (Ch [] ops.toList)=true
def owr (fz:List Nat)(dst:Option Nat)(op:Op):List Nat:=match op with
 | .load _ (.tmp d)=>if fz.contains (6000000+d)then d::dst.toList else dst.toList
 | .store _ (.tmp d) _=>if fz.contains d then d::dst.toList else dst.toList
 |_=>dst.toList
def lp (fz:List Nat):Code→List Nat
 | .region _ ops _=>ops.toList.flatMap λo=>owr fz o.dst o.op
 | .seq x y=>lp fz x++lp fz y
 | .cond _ x y=>lp fz x++lp fz y
 | .block _ c=>lp fz c
 | .loop c=>lp fz c
 |_=>[]
def cR (ws:List Nat)(A B:aa):Prop:=∀ i,i∉ws→B.env i=A.env i
def af (P:Program)(W0:World)(n:Nat)(fz:List Nat)(c:Code)(_:Tag c)(Q:Exit→aa→Prop)(_:Tag Q)(A:aa):Prop:=VC P W0 n (.loop c) (λe A'=>Q e A'∧cR (lp fz c) A A') A
def gop (P:Program)(W0:World)(G:Bool)(dst:Option Nat)(A:aa)(k:aa→Prop):Op→Prop
 | .call c=>(match c.callee with
  | .value f=>okM (some G) (A.val f)∧dS (some G) A c.args.toList∧(G=true→al P W0 (unm (A.val f)) (cp A c.args.toList) dst A k .mk)∧(G=false→ ∃v,k (A.put dst (.maybe false v)))
  | .builtin .append=>dS (some G) A c.args.toList∧(G=true→bN P c.argTypes.toList (cp A c.args.toList) dst A k .mk)∧(G=false→ ∃v,k (A.put dst (.maybe false v)))
  |_=>False)
 |_=>False
def ik (P:Program)(W0:World)(n:Nat)(fz:List Nat)(ops:Array Oper):List Oper→(aa→Prop)→aa→Prop
 |[],K,A=>K A
 |o::r,K,A=>iJ n o.dst∧(match o.guard with
  |none=>op2 P W0 fz o.dst A (λA'=>ik P W0 n fz ops r K A') o.op
  |some (j,want)=>(match rb ops j with
   |some d=>gdC (A.env d)∧(if Jj fz o.dst then gop P W0 (gdV want (A.env d)) o.dst A (λA'=>ik P W0 n fz ops r K A') o.op else vop P W0 (some (gdV want (A.env d))) (some A.st) o.dst A (λA'=>ik P W0 n fz ops r K A') o.op)
   |none=>False))
def tf :AV→Bool| .loc _ _=>true|_=>false
def tF (fz:List Nat)(A:aa):Operand→Prop
 | .tmp d=>(fz.contains d||fz.contains (6000000+d))=true→tf (unm (A.env d))=true
 |_=>True
def dop (P:Program)(W0:World)(fz:List Nat)(gd:Option Bool)(dst:Option Nat)(A:aa)(k:aa→Prop):Op→Prop
 | .store t x y=>gd=none∧okM none (A.val x)∧okM none (A.val y)∧iD P [] t x (unm (A.val y)) A (λA'=>k (A'.put dst .undef)) .mk (unm (A.val x))
 | .load t x=>tF fz A x∧vop P W0 gd none dst A k (.load t x)
 | .call c=>vop P W0 gd (if rdM fz dst then some A.st else none) dst A k (.call c)
 |op=>vop P W0 gd none dst A k op
def cS (P:Program)(W0:World)(n:Nat)(fz:List Nat)(id:Nat)(ops:Array Oper):List Oper→(aa→Prop)→aa→Prop
 |[],K,A=>K A
 |o::r,K,A=>if eM fz id o then cS P W0 n fz id ops r K A else iJ n o.dst∧(match o.guard with
  |none=>dop P W0 fz none o.dst A (λA'=>cS P W0 n fz id ops r K A') o.op
  |some (j,want)=>(match rb ops j with
   |some d=>gdC (A.env d)∧dop P W0 fz (some (gdV want (A.env d))) o.dst A (λA'=>cS P W0 n fz id ops r K A') o.op
   |none=>False))
def Ho (fz:List Nat):Operand→Prop
 | .tmp d=>fz.contains d=false
 |_=>True
def eop (P:Program)(W0:World)(fz:List Nat)(dst:Option Nat)(A:aa)(k:aa→Prop):Op→Prop
 | .store t x y=>Ho fz x∧okM none (A.val x)∧okM none (A.val y)∧iD P fz t x (unm (A.val y)) A (λA'=>k (A'.put dst .undef)) .mk (unm (A.val x))
 |op=>op2 P W0 fz dst A k op
def j8 (P:Program)(W0:World)(n:Nat)(fz:List Nat)(id:Nat):List Oper→(aa→Prop)→aa→Prop
 |[],K,A=>K A
 |o::r,K,A=>if eM fz id o then iJ n o.dst∧eop P W0 fz o.dst A (λA'=>j8 P W0 n fz id r K A') o.op else j8 P W0 n fz id r K A
def lI (P:Program)(W0:World)(n:Nat)(fz:List Nat)(id:Nat)(l:List Oper)(K:aa→Prop)(A:aa):Prop:=
 if fz.all (λx=>decide (x<2000000))then K A else j8 P W0 n fz id l K A
def cVC (P:Program)(W0:World)(n:Nat)(fz:List Nat):Code→(Exit→aa→Prop)→aa→Prop
 | .skip,Q,A=>Q .normal A
 | .ret,Q,A=>Q .ret A
 | .exit id,Q,A=>Q (.exit id) A
 | .seq x y,Q,A=>cVC P W0 n fz x (bW (cVC P W0 n fz y Q) Q) A
 | .cond c x y,Q,A=>okM none (A.val c)∧zh (unm (A.val c))∧(bl (unm (A.val c))=true→cVC P W0 n fz x Q A)∧(bl (unm (A.val c))=false→cVC P W0 n fz y Q A)
 | .block id c,Q,A=>cVC P W0 n fz c (dA id Q) A
 | .region id ops true,Q,A=>P.follows .mixedOrders=true∧zS fz id ops .mk∧lq (za fz ops.toList) A (cS P W0 n fz id ops ops.toList (λB=>lI P W0 n fz id ops.toList (Q .normal) B))
 | .region _ ops false,Q,A=>ik P W0 n fz ops ops.toList (Q .normal) A
 | .loop c,Q,A=>af P W0 n fz c .mk Q .mk A
 |_,_,_=>False
def gr :Code→Bool
 | .ret=>true
 | .exit _=>true
 | .seq x y=>gr x||gr y
 | .cond _ x y=>gr x&&gr y
 |_=>false
def cJ (P:Program)(W0:World)(n:Nat)(fz:List Nat)(b:Bool)(x:Code)(_:Tag x)(y:Code)(_:Tag y)(z:Code)(_:Tag z)(Q:Exit→aa→Prop)(_:Tag Q)(A:aa):Prop:=
 (b=true→cVC P W0 n fz x (bW (cVC P W0 n fz z Q) Q) A)∧(b=false→cVC P W0 n fz y (bW (cVC P W0 n fz z Q) Q) A)
section
variable {P :Program}{W0:World}{σ:ab}{n:Nat}{A:aa}{gd:Option Bool}{fz:List Nat}
theorem tY {dst:Option Nat}{k:aa→Prop}{op:Op}(hg: ∀p:Prop,imp gd p→p)(h:vop P W0 gd (some A.st) dst A k op):jl P W0 gd op A λv=>k (A.put dst (cP gd v)):=by
 unfold vop at h
 split at h
 ·rename_i c
  obtain⟨callee,args,argTypes⟩:=c
  split at h
  ·rename_i f hf
   simp only at hf
   subst hf
   exact aN h.1 (fD h.2.1 h.2.2)
  ·exact tz (hg _ h.1) h.2
 ·exact tz (hg _ h.1) h.2
theorem j7 {dst:Option Nat}{k:aa→Prop}{op:Op}(h:vop P W0 none (some A.st) dst A k op):jl P W0 none op A λv=>k (A.put dst v):=tY (gd:=none) (λ_ h=>h) h
theorem Ee {so:Option ab}{dst:Option Nat}{k:aa→Prop}{op:Op}(h:vop P W0 gd so dst A k op): ∃v,k (A.put dst (cP gd v)):=by
 unfold vop at h
 split at h
 ·split at h
  ·have h3:=h.2.2
   unfold az jx at h3
   split at h3
   ·obtain⟨r,_,h5⟩:=h3
    exact⟨r,h5⟩
   ·exact h3.elim
  ·exact⟨_,h.2⟩
 ·exact⟨_,h.2⟩
theorem xl {t:TypeId}{x:Operand}{u v:AV}{k:aa→Prop}(h:iD P fz t x v A k .mk u):kR P fz A t x u v k:=by
 unfold iD at h
 split at h
 ·rename_i t' id i path
  obtain⟨h1,h2,h3,h4⟩:=h
  unfold kR
  refine⟨⟨h1,h2⟩,?_⟩
  obtain⟨z,hz⟩:=Option.isSome_iff_exists.1 h3
  unfold look at hz
  split at hz
  ·rename_i te xs hs
   try rw[hs]
   try simp only
   cases hx:xs[i]? with
   |none=>rw[hx]at hz;cases hz
   |some y=>
    rw[hx]at hz
    simp only[Option.bind_some]at hz
    simp only[hz]
    cases x with
    |tmp d=>
     simp only at h4 ⊢
     split at h4
     ·rename_i hc;rw[if_pos hc];exact h4
     ·rename_i hc
      rw[if_neg hc]
      simpa only[df,hs,hx,Option.getD_some]using h4
    |_=>exact h4
  ·cases hz
 ·exact h.elim
theorem kj {o:Oper}{k:aa→Prop}(hd:iJ n o.dst)(h:op2 P W0 fz o.dst A k o.op):uy P W0 n fz o A k:=by
 refine⟨hd,?_⟩
 unfold op2 at h
 split at h
 ·rename_i c hc
  rw[hc]
  obtain⟨callee,args,argTypes⟩:=c
  simp only at h ⊢
  split at h
  ·rename_i f
   refine aN h.1 (fD h.2.1 ?_)
   have h3:=h.2.2
   unfold al at h3
   split at h3
   ·rename_i g caps he
    rw[he]
    exact h3
   ·exact h3.elim
  ·refine fD h.1 ?_
   have h3:=h.2
   unfold bN at h3
   split at h3
   ·rename_i x y he
    rw[he]
    exact h3
   ·exact h3.elim
  ·refine fD h.1 ?_
   have h3:=h.2
   unfold nS at h3
   split at h3
   ·rename_i x he
    rw[he]
    exact h3
   ·exact h3.elim
  ·have h3:=j7 (W0:=W0) h
   rename_i hne1 hne2 hne3
   split
   ·exact absurd rfl (hne1 _)
   ·exact absurd rfl hne2
   ·exact absurd rfl hne3
   ·exact h3
 ·rename_i t x hop
  rw[hop]
  simp only
  split at h
  ·rename_i d hdst
   rw[hdst]
   simp only
   split at h
   ·rename_i hc
    rw[if_pos hc]
    have h2:=h.2
    rw[hdst]at h2
    exact aN h.1.1 ⟨h.1.2,h2⟩
   ·rename_i hc
    rw[if_neg hc]
    exact aN h.1 ⟨h.2.1,h.2.2⟩
  ·exact h.elim
 ·rename_i t hop
  rw[hop]
  simp only
  obtain⟨v,hv⟩:=Option.isSome_iff_exists.1 h.1
  have h2:=h.2
  rw[hv]at h2 ⊢
  exact h2
 ·rename_i t x y hop
  rw[hop]
  simp only
  exact aN h.1 (aN h.2.1 h.2.2)
 ·rename_i t x y hop
  rw[hop]
  simp only
  exact aN h.1 (aN h.2.1 (xl h.2.2))
 ·rename_i t x hop
  rw[hop]
  simp only
  have h2:=h.2
  unfold sG at h2
  split at h2
  ·rename_i l he
   exact⟨h2.1,aN h.1 (by rw[he];exact h2.2)⟩
  ·exact h2.elim
 ·rename_i x hop
  rw[hop]
  simp only
  have h2:=h.2
  unfold zw at h2
  split at h2
  ·rename_i id he
   refine aN h.1 ?_
   rw[he]
   simp only
   unfold Ak at h2
   split at h2
   ·rename_i l pos hs
    rw[hs]
    exact h2
   ·exact h2.elim
  ·exact h2.elim
 ·rename_i t x lo hi mx hop
  rw[hop]
  simp only
  split at h
  ·exact .inr (aN h.1 (DA h.2.1 h.2.2))
  ·exact .inl (j7 (W0:=W0) h)
 ·rename_i s d x hop
  rw[hop]
  simp only
  split at h
  ·exact .inr (aN h.1 h.2)
  ·exact .inl (j7 (W0:=W0) h)
 ·rename_i t m ps hop
  rw[hop]
  simp only
  split at h
  ·refine .inr (kJ h.1 ?_)
   obtain⟨_,h2,h3⟩:=h
   unfold eJ at h2
   unfold nr
   split at h2
   ·rename_i e he
    simp only[he,Option.getD_some]at h3 ⊢
    exact⟨h2,h3⟩
   ·exact h2.elim
  ·exact .inl (j7 (W0:=W0) h)
 ·rename_i t hop
  rw[hop]
  simp only
  obtain⟨⟨kt,vt⟩,hv⟩:=Option.isSome_iff_exists.1 h.1
  have h2:=h.2
  rw[hv]at h2 ⊢
  exact h2
 ·rename_i t x ix y hop
  rw[hop]
  simp only
  refine aN h.1 (aN h.2.1 (aN h.2.2.1 ?_))
  have h2:=h.2.2.2
  exact False.elim h2
 ·rename_i h1 h2 h3 h8 h4 h6 h7 h9 h12 h13 h10 h11
  have h5:=j7 (W0:=W0) h
  split
  ·rename_i c hc;exact absurd hc (h1 c)
  ·rename_i t x hc;exact absurd hc (h2 t x)
  ·rename_i t hc;exact absurd hc (h3 t)
  ·rename_i t x y hc;exact absurd hc (h8 t x y)
  ·rename_i t x y hc;exact absurd hc (h4 t x y)
  ·rename_i t x hc;exact absurd hc (h6 t x)
  ·rename_i x hc;exact absurd hc (h7 x)
  ·rename_i t x lo hi mx hc;exact absurd hc (h9 t x lo hi mx)
  ·rename_i s d x hc;exact absurd hc (h12 s d x)
  ·rename_i t m ps hc;exact absurd hc (h13 t m ps)
  ·rename_i t hc;exact absurd hc (h10 t)
  ·rename_i t x ix y hc;exact absurd hc (h11 t x ix y)
  ·exact h5
theorem HD {ops:Array Oper}{j d:Nat}{want:Bool}(hj:rb ops j=some d)(hc:gdC (A.env d)):zf ops A j want=some (gdV want (A.env d)):=by
 unfold rb at hj
 unfold zf
 rw[hj]
 simp only
 revert hc
 generalize A.env d=u
 intro hc
 cases u<;>first|rfl|skip
 all_goals first|exact hc.elim|skip
 rename_i g v
 cases v<;>first|rfl|(cases g<;>first|rfl|(cases hc))
theorem cR.refl (ws:List Nat)(A:aa):cR ws A A:=λ_ _=>rfl
theorem cR.trans {ws vs:List Nat}{A B C:aa}(h:cR ws A B)(k:cR vs B C):cR (ws++vs) A C:=λi hi=>(k i (λe=>hi (List.mem_append_right _ e))).trans (h i (λe=>hi (List.mem_append_left _ e)))
theorem cR.mono {ws vs:List Nat}{A B:aa}(h:cR ws A B)(hs: ∀i∈ws,i∈vs):cR vs A B:=λi hi=>h i λe=>hi (hs i e)
theorem bB (A:aa)(dst:Option Nat)(v:AV):cR dst.toList A (A.put dst v):=λi hi=>by
 cases dst with
 |none=>rfl
 |some d=>exact A.s7 v (λe=>hi (by simp[e]))
theorem dd {ws:List Nat}{A B:aa}(h:cR ws A B)(σ:ab):cR ws A (B.an σ):=h
theorem dr {so:Option ab}{dst:Option Nat}{k k':aa→Prop}{op:Op}(hk: ∀A',cR dst.toList A A'→k A'→k' A')(h:vop P W0 gd so dst A k op):vop P W0 gd so dst A k' op:=by
 cases op
 case call c=>
  obtain⟨callee,args,argTypes⟩:=c
  cases callee
  case value f=>
   obtain⟨h1,h2,h3⟩:=h
   refine⟨h1,h2,?_⟩
   unfold az jx at h3 ⊢
   split at h3
   ·obtain⟨r,h4,h5⟩:=h3
    exact⟨r,h4,hk _ (bB _ _ _) h5⟩
   ·exact h3.elim
  all_goals exact⟨h.1,hk _ (bB _ _ _) h.2⟩
 all_goals exact⟨h.1,hk _ (bB _ _ _) h.2⟩
theorem rT {dst:Option Nat}{op:Op}{i:Nat}(hi:i∈dst.toList):i∈owr fz dst op:=by
 unfold owr
 split
 ·split
  ·exact List.mem_cons_of_mem _ hi
  ·exact hi
 ·split
  ·exact List.mem_cons_of_mem _ hi
  ·exact hi
 ·exact hi
theorem kf {dst:Option Nat}{k k':aa→Prop}{op:Op}(hk: ∀A',cR (owr fz dst op) A A'→k A'→k' A')(h:op2 P W0 fz dst A k op):op2 P W0 fz dst A k' op:=by
 cases op
 case call c=>
  obtain⟨callee,args,argTypes⟩:=c
  cases callee
  case value f=>
   obtain⟨h1,h2,h3⟩:=h
   refine⟨h1,h2,?_⟩
   unfold al at h3 ⊢
   split at h3
   ·exact h3.mono λ_ _=>hk _ (dd (bB _ _ _) _)
   ·exact h3.elim
  case builtin b=>
   cases b
   case append=>
    refine⟨h.1,?_⟩
    have h3:=h.2
    unfold bN at h3 ⊢
    split at h3
    ·rcases h3 with h3|h3|h3|h3|h3|h3
     ·left
      unfold pK at h3 ⊢
      split at h3
      ·obtain⟨e,xs,ys,g1,g2,g3,g4,g5,g6⟩:=h3
       exact⟨e,xs,ys,g1,g2,g3,g4,g5,λv σ' hv=>hk _ (dd (bB _ _ _) _) (g6 v σ' hv)⟩
      ·exact h3.elim
     ·right;left
      unfold jR at h3 ⊢
      split at h3
      ·obtain⟨e,xs,ys,g1,g2,g3,g4,g5,g6,g7⟩:=h3
       exact⟨e,xs,ys,g1,g2,g3,g4,g5,λhe=>hk _ (dd (bB _ _ _) _) (g6 he),λhe=>hk _ (dd (bB _ _ _) _) (g7 he)⟩
      ·exact h3.elim
     ·right;right;left
      unfold iL at h3 ⊢
      split at h3
      ·obtain⟨e,m,z,k,kn,g1,g2,g3,g4,g5,g6⟩:=h3
       exact⟨e,m,z,k,kn,g1,g2,g3,g4,g5,hk _ (dd (bB _ _ _) _) g6⟩
      ·exact h3.elim
     ·right;right;right;left
      unfold kL at h3 ⊢
      split at h3
      ·obtain⟨e,id,off,m,zs,ys,g1,g2,g3,g4,g5,g6⟩:=h3
       exact⟨e,id,off,m,zs,ys,g1,g2,g3,g4,g5,hk _ (dd (bB _ _ _) _) g6⟩
      ·exact h3.elim
     ·right;right;right;right;left
      exact False.elim h3
     ·right;right;right;right;right
      exact False.elim h3
    ·exact h3.elim
   case clear=>
    refine⟨h.1,?_⟩
    have h3:=h.2
    unfold nS at h3 ⊢
    split at h3
    ·unfold rS at h3 ⊢
     split at h3
     ·obtain⟨e,id,off,m,zs,v,g1,g2,g3,g4,g5⟩:=h3
      exact⟨e,id,off,m,zs,v,g1,g2,g3,g4,hk _ (dd (bB _ _ _) _) g5⟩
     ·exact h3.elim
    ·exact h3.elim
   all_goals (simp only[op2]at h ⊢;exact dr hk h)
  all_goals (simp only[op2]at h ⊢;exact dr hk h)
 case box t x=>
  simp only[op2]at h ⊢
  split at h
  ·split at h
   ·rename_i hc;rw[if_pos hc];exact dr hk h
   ·rename_i hc;rw[if_neg hc];exact⟨h.1,h.2.1,hk _ (dd (bB A (some _) _) _) h.2.2⟩
  ·exact h.elim
 case alloc t=>exact⟨h.1,hk _ (dd (bB _ _ _) _) h.2⟩
 case convert s d x=>
  simp only[op2]at h ⊢
  split at h
  ·rename_i hc
   rw[if_pos hc]
   refine⟨h.1,?_⟩
   exact False.elim h.2
  ·rename_i hc
   rw[if_neg hc]
   exact dr hk h
 case buildSlice t m ps=>
  simp only[op2]at h ⊢
  split at h
  ·rename_i hc
   rw[if_pos hc]
   exact⟨h.1,h.2.1,hk _ (dd (bB _ _ _) _) h.2.2⟩
  ·rename_i hc
   rw[if_neg hc]
   exact dr hk h
 case makeSlice t x y=>
  refine⟨h.1,h.2.1,?_⟩
  have h3:=h.2.2
  unfold zO xo at h3 ⊢
  split at h3
  ·refine⟨h3.1,?_⟩
   have h4:=h3.2
   split at h4
   ·split at h4
    ·obtain⟨g1,g2,g3,g4,g5⟩:=h4
     exact⟨g1,g2,g3,g4,hk _ (dd (bB _ _ _) _) g5⟩
    ·exact h4.elim
   ·exact h4.elim
  ·exact h3.elim
 case store t x y=>
  refine⟨h.1,h.2.1,?_⟩
  have h3:=h.2.2
  revert h3
  generalize unm (A.val x)=u
  intro h3
  unfold iD at h3 ⊢
  split at h3
  ·obtain⟨g1,g2,g3,g4⟩:=h3
   refine⟨g1,g2,g3,?_⟩
   split at g4
   ·simp only
    split at g4
    ·rename_i hc
     rw[if_pos hc]
     refine⟨g4.1,hk _ (λi hi=>?_) g4.2⟩
     simp only[owr,hc,if_true]at hi
     exact(bB _ dst .undef i (λe=>hi (by simp[e]))).trans (A.s7 _ (λe=>hi (by simp[e])))
    ·rename_i hc
     rw[if_neg hc]
     refine hk _ (λi hi=>?_) g4
     simp only[owr,hc,Bool.false_eq_true,if_false]at hi
     exact bB (A.an _) dst .undef i hi
   ·exact g4.elim
  ·exact h3.elim
 case range t x=>
  refine⟨h.1,?_⟩
  have h2:=h.2
  unfold sG at h2 ⊢
  split at h2
  ·exact⟨h2.1,hk _ (dd (bB _ _ _) _) h2.2⟩
  ·exact h2.elim
 case next x b=>
  cases b
  ·simp only[op2]at h ⊢;exact dr hk h
  ·refine⟨h.1,?_⟩
   have h2:=h.2
   unfold zw at h2 ⊢
   split at h2
   ·unfold Ak at h2 ⊢
    split at h2
    ·exact⟨λhp=>hk _ (dd (bB _ _ _) _) (h2.1 hp),λhp=>hk _ (bB _ _ _) (h2.2 hp)⟩
    ·exact h2.elim
   ·exact h2.elim
 case slice t x lo hi mx=>
  simp only[op2]at h ⊢
  split at h
  ·rename_i hc;rw[if_pos hc];exact⟨h.1,h.2.1,hk _ (bB _ _ _) h.2.2⟩
  ·rename_i hc;rw[if_neg hc];exact dr hk h
 case makeMap t r=>
  cases r
  ·exact⟨h.1,hk _ (dd (bB _ _ _) _) h.2⟩
  ·simp only[op2]at h ⊢;exact dr hk h
 case mapUpdate t x ix y=>
  refine⟨h.1,h.2.1,h.2.2.1,?_⟩
  have h3:=h.2.2.2
  exact False.elim h3
 all_goals (simp only[op2]at h ⊢;exact dr (λA' ha=>hk A' (ha.mono λi hi=>rT hi)) h)
theorem EO {g:Bool}{v:AV}(hg:g=true)(h:okM (some g) v):okM none v:=by
 cases v<;>first|trivial|exact h hg
theorem oF {g:Bool}(hg:g=true): ∀{l:List Operand},dS (some g) A l→dS none A l
 |[],_=>trivial
 |_::_,h=>⟨EO hg h.1,oF hg h.2⟩
theorem D8 {G:Bool}{o:Oper}{k:aa→Prop}(hd:iJ n o.dst)(h:gop P W0 G o.dst A k o.op):(G=true→uy P W0 n fz o A k)∧(G=false→ ∃v,k (A.put o.dst (.maybe false v))):=by
 unfold gop at h
 split at h
 ·rename_i c hc
  obtain⟨callee,args,argTypes⟩:=c
  simp only at h
  split at h
  ·rename_i f
   refine⟨λhG=>kj (P:=P) (W0:=W0) (fz:=fz) hd ?_,h.2.2.2⟩
   rw[hc]
   exact⟨EO hG h.1,oF hG h.2.1,h.2.2.1 hG⟩
  ·refine⟨λhG=>kj (P:=P) (W0:=W0) (fz:=fz) hd ?_,h.2.2⟩
   rw[hc]
   exact⟨oF hG h.1,h.2.1 hG⟩
  ·exact h.elim
 ·exact h.elim
theorem yG {G:Bool}{dst:Option Nat}{k k':aa→Prop}{op:Op}(hk: ∀A',cR dst.toList A A'→k A'→k' A')(h:gop P W0 G dst A k op):gop P W0 G dst A k' op:=by
 unfold gop at h ⊢
 split at h
 ·rename_i c
  split at h
  ·rename_i f hf
   refine⟨h.1,h.2.1,λhG=>?_,λhG=>(h.2.2.2 hG).imp λ_=>hk _ (bB _ _ _)⟩
   have h3:=h.2.2.1 hG
   unfold al at h3 ⊢
   split at h3
   ·exact h3.mono λ_ _=>hk _ (dd (bB _ _ _) _)
   ·exact h3.elim
  ·refine⟨h.1,λhG=>?_,λhG=>(h.2.2 hG).imp λ_=>hk _ (bB _ _ _)⟩
   exact(kf (P:=P) (W0:=W0) (fz:=[]) (op:=.call ⟨.builtin .append,c.args,c.argTypes⟩) (λA' ha=>hk A' ha) ⟨oF hG h.1,h.2.1 hG⟩).2
  ·exact h.elim
 ·exact h.elim
theorem kN {ops:Array Oper}: ∀(l:List Oper) (K:aa→Prop) (A:aa),ik P W0 n fz ops l K A→oX P W0 n fz ops l K A
 |[],_,_,h=>h
 |o::r,K,A,h=>by
  simp only[ik]at h
  obtain⟨hd,h⟩:=h
  simp only[oX]
  have ih:=kN (ops:=ops) r K
  split at h
  ·rename_i hg
   simp only[hg]
   exact kj hd (kf (λA' _=>ih A') h)
  ·rename_i j want hg
   simp only[hg]
   split at h
   ·rename_i d hj
    rw[HD hj h.1]
    refine⟨hd,?_⟩
    have h2:=h.2
    split at h2
    ·exact .inr (D8 hd (yG (λA' _=>ih A') h2))
    ·have h3:=dr (λA' _=>ih A') h2
     revert h3
     generalize gdV want (A.env d)=G
     intro h3
     cases G with
     |true=>exact .inl (tY (gd:=some true) (λ_ h=>h rfl) h3)
     |false=>exact .inr ⟨λe=>(Bool.false_ne_true e).elim,λ_=>Ee h3⟩
   ·exact h.elim
theorem oK (σ:ab): ∀l:List Operand,dS gd (A.an σ) l=dS gd A l
 |[]=>rfl
 |x::r=>by rw[dS,dS,oK σ r];rfl
theorem mU (σ:ab): ∀l:List Operand,cp (A.an σ) l=cp A l
 |[]=>rfl
 |x::r=>by rw[cp,cp,mU σ r];rfl
theorem qK (σ:ab): ∀l:List (Nat×Operand),fu gd (A.an σ) l=fu gd A l
 |[]=>rfl
 |(_,x)::r=>by rw[fu,fu,qK σ r];rfl
theorem p5 (σ:ab): ∀l:List (Nat×Operand),dE (A.an σ) l=dE A l
 |[]=>rfl
 |(_,x)::r=>by rw[dE,dE,p5 σ r];rfl
theorem MY {dst:Option Nat}{op:Op}(h:isR fz dst op=false)(hl: ∀t x,op= .load t x→tF fz A x)(σ:ab):opC P gd (A.an σ) op=opC P gd A op∧opV P gd (A.an σ) op=opV P gd A op:=by
 cases op<;>first|exact⟨rfl,rfl⟩|(simp[isR]at h;done)|skip
 ·simp only[opC,opV,qK,p5,and_self]
 ·simp only[opC,opV,qK,p5,and_self]
 ·rename_i t x
  have h2:=hl t x rfl
  cases x<;>first|(simp[isR]at h;done)|skip
  rename_i d
  simp only[isR,Bool.not_eq_false']at h
  have h3:tf (unm (A.val (.tmp d)))=true:=h2 h
  have hv:(A.an σ).val (.tmp d)=A.val (.tmp d):=rfl
  simp only[opC,opV,hv]
  revert h3
  generalize unm (A.val (.tmp d))=u
  intro h3
  cases u<;>first|(simp[tf]at h3;done)|exact⟨rfl,rfl⟩
 ·rename_i fn first caps;cases fn<;>simp only[opC,opV,oK,mU,and_self]
 ·rename_i c;obtain⟨callee,args,ts⟩:=c;cases callee<;>simp only[opC,opV,oK,mU,and_self]
theorem Je {σ:ab}{id i:Nat}{path:List Nat}(h:(look σ id i path).isSome=true)(τ:ab):look (σ++τ) id i path=look σ id i path:=by
 unfold look at h ⊢
 by_cases hl:id<σ.length
 ·rw[List.getElem?_append_left hl]
 ·rw[List.getElem?_eq_none (by omega)]at h
  cases h
theorem Nz {op:Op}(h:opC P gd A op)(hz:isZ op=true)(hg: ∀g,gd=some g→g=true)(τ:ab):opC P gd (A.an (A.st++τ)) op∧opV P gd (A.an (A.st++τ)) op=opV P gd A op:=by
 cases op<;>first|(simp[isZ]at hz;done)|skip
 rename_i t x
 have hv:(A.an (A.st++τ)).val x=A.val x:=by cases x<;>rfl
 have hst:(A.an (A.st++τ)).st=A.st++τ:=rfl
 simp only[opC,opV,hv,hst]at h ⊢
 obtain⟨h1,h2⟩:=h
 revert h2
 generalize unm (A.val x)=u
 intro h2
 cases u<;>first|exact h2.elim|exact⟨⟨h1,h2⟩,rfl⟩|skip
 rename_i t' id i path
 obtain⟨e,h3⟩:=h2
 have h4:(look A.st id i path).isSome=true:=by
  cases gd with
  |none=>exact h3
  |some g=>exact h3 (hg g rfl)
 have h5:=Je h4 τ
 refine⟨⟨h1,e,?_⟩,?_⟩
 ·rw[h5];exact h3
 ·show(look (A.st++τ) id i path).getD .undef=_
  rw[h5];rfl
theorem sr {o:Oper}(hl: ∀t x,o.op= .load t x→tF fz A x)(h:opC P gd A o.op):imp gd (iq P W0 fz o A (opV P gd A o.op)):=by
 have key: ∀A':aa,opC P gd A' o.op→imp gd (db P W0 o A' (opV P gd A' o.op)):=λA' h'=>by
  have hv:jl P W0 gd o.op A' (· =opV P gd A' o.op):=tz h' rfl
  cases gd with
  |none=>
   intro w C a hr
   obtain⟨v,rfl,hp⟩:=fC hr hv
   exact hp w C a hr
  |some g=>
   intro hg w C a hr
   obtain⟨v,rfl,hp⟩:=fC hr hv
   exact hp hg w C a hr
 have k2:isR fz o.dst o.op=false→ ∀σ,imp gd (db P W0 o (A.an σ) (opV P gd A o.op)):=λhR σ=>by
  obtain⟨e1,e2⟩:=MY (P:=P) (gd:=gd) (A:=A) hR hl σ
  have:=key (A.an σ) (by rw[e1];exact h)
  rwa [e2]at this
 have k3:isZ o.op=true→(∀g,gd=some g→g=true)→ ∀τ,opC P gd (A.an (A.st++τ)) o.op∧opV P gd (A.an (A.st++τ)) o.op=opV P gd A o.op:=λhz hg τ=>Nz h hz hg τ
 cases gd with
 |none=>exact⟨key A h,k2,λhz τ=>by
   obtain⟨g1,g2⟩:=k3 hz (λg e=>by cases e) τ
   have:=key _ g1
   rw[g2]at this
   exact this⟩
 |some g=>exact λhg=>⟨key A h hg,λhR σ=>k2 hR σ hg,λhz τ=>by
   obtain⟨g1,g2⟩:=k3 hz (λg' e=>by cases e;exact hg) τ
   have:=key _ g1
   rw[g2]at this
   exact this hg⟩
theorem Dy {o:Oper}(hl: ∀t x,o.op= .load t x→tF fz A x)(h:imp gd (opC P gd A o.op)):imp gd (iq P W0 fz o A (opV P gd A o.op)):=by
 cases gd with
 |none=>exact sr hl h
 |some g=>exact λhg=>sr (gd:=some g) hl (h hg) hg
theorem yz {o:Oper}{so:Option ab}{f:Operand}{args:Array Operand}{argTypes:Array TypeId}{r:AV}(ho:o.op= .call ⟨.value f,args,argTypes⟩)(hso:so=none∨(so=some A.st∧rdM fz o.dst=true))(h1:okM gd (A.val f))(h2:dS gd A args.toList)
  (h3:jx P W0 gd so (unm (A.val f)) (cp A args.toList) (· =r)):imp gd (iq P W0 fz o A r):=by
 have key: ∀σ:ab,(so=some A.st→σ=A.st)→imp gd (db P W0 o (A.an σ) r):=λσ hσ=>by
  have h3':jx P W0 gd (some σ) (unm (A.val f)) (cp A args.toList) (· =r):=by
   unfold jx at h3 ⊢
   split at h3
   ·obtain⟨r',g1,g2⟩:=h3
    refine⟨r',g1.map λg=>?_,g2⟩
    rcases hso with rfl|⟨rfl,_⟩
    ·exact g σ
    ·rw[hσ rfl];exact g
   ·exact h3.elim
  have hv:jl P W0 gd o.op (A.an σ) (· =r):=by
   rw[ho]
   exact aN (x:=(A.an σ).val f) h1 (fD (A:=A.an σ) (by rw[oK];exact h2) (by rw[mU];exact h3'))
  cases gd with
  |none=>
   intro w C a hr
   obtain⟨v,rfl,hp⟩:=fC hr hv
   exact hp w C a hr
  |some g=>
   intro hg w C a hr
   obtain⟨v,rfl,hp⟩:=fC hr hv
   exact hp hg w C a hr
 have hall:isR fz o.dst o.op=false→ ∀σ,(so=some A.st→σ=A.st):=λhR σ hs=>by
  rcases hso with h|⟨_,h⟩
  ·rw[h]at hs;cases hs
  ·rw[ho]at hR;simp only[isR]at hR;rw[h]at hR;cases hR
 cases gd with
 |none=>exact⟨key A.st λ_=>rfl,λhR σ=>key σ (hall hR σ),λhz=>by rw[ho]at hz;cases hz⟩
 |some g=>exact λhg=>⟨key A.st (λ_=>rfl) hg,λhR σ=>key σ (hall hR σ) hg,λhz=>by rw[ho]at hz;cases hz⟩
theorem vr {o:Oper}{k:aa→Prop}(hW:isW o.op=false)(h:dop P W0 fz gd o.dst A k o.op): ∃v,k (A.put o.dst (cP gd v))∧imp gd (iq P W0 fz o A v):=by
 have hgen:(∀t x,o.op= .load t x→tF fz A x)→imp gd (opC P gd A o.op)∧k (A.put o.dst (cP gd (opV P gd A o.op)))→ ∃v,k (A.put o.dst (cP gd v))∧imp gd (iq P W0 fz o A v):=λhl h=>⟨_,h.2,Dy hl h.1⟩
 cases hop:o.op
 case call c=>
  obtain⟨callee,args,argTypes⟩:=c
  cases callee
  case value f=>
   rw[hop]at h
   obtain⟨h1,h2,h3⟩:=h
   unfold az jx at h3
   split at h3
   ·rename_i g caps hf
    obtain⟨r,h4,h5⟩:=h3
    refine⟨r,h5,yz (so:=if rdM fz o.dst then some A.st else none) hop ?_ h1 h2 (by unfold jx;rw[hf];exact⟨r,h4,rfl⟩)⟩
    split
    ·rename_i hm;exact .inr ⟨rfl,hm⟩
    ·exact .inl rfl
   ·exact h3.elim
  all_goals (rw[hop]at h;exact hgen (λt x e=>by rw[hop]at e;cases e) (by rw[hop];exact h))
 case load t x=>
  rw[hop]at h
  exact hgen (λt' x' e=>by rw[hop]at e;cases e;exact h.1) (by rw[hop];exact h.2)
 case store t x y=>rw[hop]at hW;cases hW
 all_goals (rw[hop]at h;exact hgen (λt x e=>by rw[hop]at e;cases e) (by rw[hop];exact h))
theorem zz {o:Oper}{t:TypeId}{x y:Operand}{k:aa→Prop}(ho:o.op= .store t x y)(h1:okM none (A.val x))(h2:okM none (A.val y))(h:iD P [] t x (unm (A.val y)) A k .mk (unm (A.val x))): ∃σ',k (A.an σ')∧B8 P W0 o A σ':=by
 have isx:Is P W0 o A x (unm (A.val x)):=by
  obtain⟨u,hu,hi⟩:=bL (P:=P) (W0:=W0) (o:=o) (A:=A) (x:=x) (by simp[ho,Op.operands]) (k:=(· =unm (A.val x))) (aN h1 rfl)
  rw[←hu];exact hi
 have isy:Is P W0 o A y (unm (A.val y)):=by
  obtain⟨u,hu,hi⟩:=bL (P:=P) (W0:=W0) (o:=o) (A:=A) (x:=y) (by simp[ho,Op.operands]) (k:=(· =unm (A.val y))) (aN h2 rfl)
  rw[←hu];exact hi
 unfold iD at h
 split at h
 ·rename_i t' id i path hux
  obtain⟨rfl,g2,g3,g4⟩:=h
  rw[hux]at isx
  obtain⟨z,hz⟩:=Option.isSome_iff_exists.1 g3
  obtain⟨te,xs,y0,hs,hx,hy0⟩:=oh hz
  split at g4
  ·simp only[List.contains_nil,Bool.false_eq_true,if_false]at g4
   refine⟨_,g4,λw C a hr=>?_⟩
   have:=qg hr ho isx isy hz (eO g2) hs hx
   simpa only[df,hs,hx,Option.getD_some]using this
  ·exact g4.elim
 ·exact h.elim
theorem jj {id:Nat}{ops:Array Oper}: ∀(l:List Oper) (K:aa→Prop) (A:aa),cS P W0 n fz id ops l K A→ ∃vs ss B,Seq P W0 n fz (eM fz id) ops l A vs ss B∧K B
 |[],_,A,h=>⟨[],[],A,.nil A,h⟩
 |o::r,K,A,h=>by
  simp only[cS]at h
  split at h
  ·rename_i hE
   obtain⟨vs,ss,B,h1,h2⟩:=jj r K _ h
   exact⟨_,_,B,.skip hE h1,h2⟩
  rename_i hE
  replace hE:eM fz id o=false:=by simpa using hE
  obtain⟨hd,h⟩:=h
  have same: ∀v,(A.put o.dst v).an A.st=A.put o.dst v:=λv=>by cases o.dst<;>rfl
  split at h
  ·rename_i hg
   have gen:isW o.op=false→dop P W0 fz none o.dst A (λA'=>cS P W0 n fz id ops r K A') o.op→ ∃vs ss B,Seq P W0 n fz (eM fz id) ops (o::r) A vs ss B∧K B:=λhW hv=>by
    obtain⟨v,hk,hp⟩:=vr hW hv
    obtain⟨vs,ss,B,h1,h2⟩:=jj r K _ hk
    exact⟨v::vs,A.st::ss,B,.cons hE ⟨hd,by rw[hg];exact .inl ⟨hW,rfl,hp⟩⟩ (by rw[same];exact h1),h2⟩
   cases hop:o.op
   case store t x y=>
    rw[hop]at h
    obtain⟨_,h1,h2,h3⟩:=h
    obtain⟨σ',hk,hs⟩:=zz (W0:=W0) hop h1 h2 h3
    obtain⟨vs,ss,B,g1,g2⟩:=jj r K _ hk
    have e:(A.an σ').put o.dst .undef=(A.put o.dst .undef).an σ':=by cases o.dst<;>rfl
    rw[e]at g1
    exact⟨.undef::vs,σ'::ss,B,.cons hE ⟨hd,by rw[hg];exact .inr ⟨by rw[hop];rfl,rfl,hs⟩⟩ g1,g2⟩
   all_goals exact gen (by rw[hop];rfl) (by rw[hop]at h ⊢;exact h)
  ·rename_i j want hg
   split at h
   ·rename_i d hj
    have hW:isW o.op=false:=by
     cases hop:o.op<;>first|rfl|skip
     have:=h.2
     rw[hop]at this
     cases this.1
    obtain⟨v,hk,hp⟩:=vr hW h.2
    obtain⟨vs,ss,B,h1,h2⟩:=jj r K _ hk
    refine⟨_::vs,A.st::ss,B,.cons hE ⟨hd,by rw[hg];exact⟨hW,rfl,_,v,HD hj h.1,rfl,hp⟩⟩ (by rw[same];exact h1),h2⟩
   ·exact h.elim
theorem Am {dst:Option Nat}{k k':aa→Prop}{op:Op}(hk: ∀A',cR (owr fz dst op) A A'→k A'→k' A')(h:eop P W0 fz dst A k op):eop P W0 fz dst A k' op:=by
 cases op
 case store t x y=>exact⟨h.1,kf (P:=P) (W0:=W0) (op:=.store t x y) hk h.2⟩
 all_goals exact kf (P:=P) (W0:=W0) hk h
theorem Ej {o:Oper}{k:aa→Prop}(hd:iJ n o.dst)(h:eop P W0 fz o.dst A k o.op):D1 fz o.op∧uy P W0 n fz o A k:=by
 cases hop:o.op
 case store t x y=>
  rw[hop]at h
  refine⟨?_,kj hd (by rw[hop];exact h.2)⟩
  have:=h.1
  cases x<;>first|trivial|exact this
 all_goals exact⟨trivial,kj hd (by rw[hop]at h ⊢;exact h)⟩
theorem nI {id:Nat}: ∀(l:List Oper) (K:aa→Prop) (A:aa),j8 P W0 n fz id l K A→eVC P W0 n fz (l.filter (eM fz id)) K A
 |[],_,_,h=>h
 |o::r,K,A,h=>by
  simp only[j8]at h
  split at h
  ·rename_i hE
   rw[List.filter_cons_of_pos hE]
   have:=Ej (n:=n) h.1 (Am (λA' _=>nI r K A') h.2)
   exact this
  ·rename_i hE
   rw[List.filter_cons_of_neg hE]
   exact nI r K A h
theorem wi {id:Nat}{l:List Oper}{K:aa→Prop}(h:lI P W0 n fz id l K A):eVC P W0 n fz (l.filter (eM fz id)) K A:=by
 unfold lI at h
 split at h
 ·rename_i hall
  have:l.filter (eM fz id)=[]:=by
   rw[List.filter_eq_nil_iff]
   intro o _ hE
   have key: ∀x,2000000≤x→fz.contains x=false:=λx hx=>by
    cases hc:fz.contains x with
    |false=>rfl
    |true=>
     have:=List.all_eq_true.1 hall x (by simpa using hc)
     simp at this
     omega
   unfold eM at hE
   split at hE
   ·rw[key _ (by omega)]at hE;cases hE
   ·rw[key _ (by omega)]at hE;cases hE
  rw[this]
  exact h
 ·exact nI _ _ _ h
theorem x0 {dst:Option Nat}{k k':aa→Prop}{op:Op}(hk: ∀A',cR dst.toList A A'→k A'→k' A')(h:dop P W0 fz gd dst A k op):dop P W0 fz gd dst A k' op:=by
 cases op
 case store t x y=>exact⟨h.1,kf (P:=P) (W0:=W0) (fz:=[]) (op:=.store t x y) (λA' ha=>hk A' (by cases x<;>exact ha)) h.2⟩
 case load t x=>exact⟨h.1,dr hk h.2⟩
 case call c=>exact dr (op:=.call c) hk h
 all_goals (simp only[dop]at h ⊢;exact dr hk h)
theorem uW : ∀(l:List Oper) (i:Nat),i∈CN fz l→i∈l.flatMap λo=>owr fz o.dst o.op
 |[],_,h=>by cases h
 |o::r,i,h=>by
  rw[CN]at h
  rw[List.flatMap_cons]
  rcases List.mem_append.1 h with h|h
  ·refine List.mem_append_left _ ?_
   cases hop:o.op<;>rw[hop]at h<;>first|(cases h;done)|skip
   rename_i t x
   cases x<;>first|(cases h;done)|skip
   rename_i d
   simp only at h
   unfold owr
   simp only
   split at h
   ·rename_i hc
    rw[if_pos hc]
    rw[List.mem_singleton.1 h]
    exact List.mem_cons_self ..
   ·cases h
  ·exact List.mem_append_right _ (uW r i h)
theorem GL (l:List Oper)(i:Nat)(h:i∈za fz l):i∈l.flatMap λo=>owr fz o.dst o.op:=by
 unfold za at h
 split at h
 ·cases h
 ·exact uW l i h
theorem BM (A:aa)(d:Nat):cR [d] A (xw A d):=λi hi=>by
 have hne:i≠d:=λe=>hi (by simp[e])
 unfold xw
 split
 ·split
  ·split
   ·exact A.s7 _ hne
   ·rfl
  ·rfl
 ·rfl
theorem lq.mono : ∀(l:List Nat) (A:aa) {k k':aa→Prop},(∀B,cR l A B→k B→k' B)→lq l A k→lq l A k'
 |[],A,_,_,hk,h=>hk A (.refl _ _) h
 |d::r,A,_,_,hk,h=>lq.mono r (xw A d) (λB hB=>hk B (by simpa using (BM A d).trans hB)) h
theorem Dl {w:World}{C:Ctx}{a:Act}(h:bI P W0 n w C A a)(d:Nat): ∃C',bI P W0 n w C' (xw A d) a∧Step w C w C':=by
 unfold xw
 split
 ·rename_i t id he
  split
  ·rename_i te z hs
   split
   ·rename_i ht
    subst ht
    have hv:=h.env d
    rw[he]at hv
    have hfr:=kF h.st hv hs (i:=0) (x:=z) rfl
    obtain⟨k1,k2⟩:=h.st.kill id (List.getElem?_eq_some_iff.1 hs).1
    have hr1:=h.step k1 k2
    refine⟨_,⟨λj=>?_,hr1.defers,hr1.size,hr1.st⟩,k1⟩
    by_cases hj:j=d
    ·subst hj;simpa[aa.upd,aa.an]using hfr
    ·have:=hr1.env j;simpa[aa.upd,aa.an,hj]using this
   ·exact⟨C,h,.refl _ _⟩
  ·exact⟨C,h,.refl _ _⟩
 ·exact⟨C,h,.refl _ _⟩
theorem VC.yld {c:Code}{Q:Exit→aa→Prop}: ∀(l:List Nat) (A:aa),lq l A (VC P W0 n c Q)→VC P W0 n c Q A
 |[],_,h=>h
 |d::r,A,h=>λw C a hr=>by
  obtain⟨C',h1,h2⟩:=Dl hr d
  exact hZ (VC.yld r _ h w C' a h1) λe a' w' ⟨A',C'',q,g1,g2⟩=>⟨A',C'',q,g1,h2.trans g2⟩
theorem lq.step {d:Nat}{r:List Nat}{t:TypeId}{id:Nat}{z:AV}{k:aa→Prop}(h1:A.env d= .ptr t id 0 [])(h2:A.st[id]?=some (some (.cells t [z])))(hk:lq r ((A.upd d (.loc t z)).an (A.st.set id none)) k):lq (d::r) A k:=by
 have:xw A d=(A.upd d (.loc t z)).an (A.st.set id none):=by
  unfold xw
  rw[h1]
  simp only[h2,if_true]
 show lq r (xw A d) k
 rw[this]
 exact hk
theorem vv {ops:Array Oper}{K K':aa→Prop}: ∀(l:List Oper) (A:aa),(∀A',cR (l.flatMap λo=>owr fz o.dst o.op) A A'→K A'→K' A')→ik P W0 n fz ops l K A→ik P W0 n fz ops l K' A
 |[],A,hk,h=>hk _ (.refl _ _) h
 |o::r,A,hk,h=>by
  simp only[ik]at h ⊢
  refine⟨h.1,?_⟩
  have h2:=h.2
  have step: ∀A',cR (owr fz o.dst o.op) A A'→ik P W0 n fz ops r K A'→ik P W0 n fz ops r K' A':=λA' ha=>vv r A' λA'' hb=>hk A'' (by simpa using ha.trans hb)
  split at h2
  ·exact kf step h2
  ·split at h2
   ·refine⟨h2.1,?_⟩
    have h3:=h2.2
    split at h3
    ·rename_i hc;rw[if_pos hc];exact yG (λA' ha=>step A' (ha.mono λi hi=>rT hi)) h3
    ·rename_i hc;rw[if_neg hc];exact dr (λA' ha=>step A' (ha.mono λi hi=>rT hi)) h3
   ·exact h2.elim
theorem rf {id:Nat}{ops:Array Oper}{K K':aa→Prop}: ∀(l:List Oper) (A:aa),(∀A',cR (l.flatMap λo=>owr fz o.dst o.op) A A'→K A'→K' A')→cS P W0 n fz id ops l K A→cS P W0 n fz id ops l K' A
 |[],A,hk,h=>hk _ (.refl _ _) h
 |o::r,A,hk,h=>by
  simp only[cS]at h ⊢
  have step: ∀A',cR o.dst.toList A A'→cS P W0 n fz id ops r K A'→cS P W0 n fz id ops r K' A':=λA' ha=>rf r A' λA'' hb=>hk A'' (by
   refine cR.mono (ha.trans hb) λi hi=>?_
   rw[List.flatMap_cons]
   rcases List.mem_append.1 hi with hi|hi
   ·exact List.mem_append_left _ (rT hi)
   ·exact List.mem_append_right _ hi)
  split at h
  ·rename_i hE
   rw[if_pos hE]
   exact step A (.refl _ _) h
  rename_i hE
  rw[if_neg hE]
  refine⟨h.1,?_⟩
  have h2:=h.2
  split at h2
  ·exact x0 step h2
  ·split at h2
   ·exact⟨h2.1,x0 step h2.2⟩
   ·exact h2.elim
theorem uX {id:Nat}{K K':aa→Prop}: ∀(l:List Oper) (A:aa),(∀A',cR (l.flatMap λo=>owr fz o.dst o.op) A A'→K A'→K' A')→j8 P W0 n fz id l K A→j8 P W0 n fz id l K' A
 |[],A,hk,h=>hk _ (.refl _ _) h
 |o::r,A,hk,h=>by
  simp only[j8]at h ⊢
  have step: ∀A',cR (owr fz o.dst o.op) A A'→j8 P W0 n fz id r K A'→j8 P W0 n fz id r K' A':=λA' ha=>uX r A' λA'' hb=>hk A'' (by simpa using ha.trans hb)
  split at h
  ·rename_i hE
   rw[if_pos hE]
   exact⟨h.1,Am step h.2⟩
  ·rename_i hE
   rw[if_neg hE]
   exact step A (.refl _ _) h
theorem xZ {id:Nat}{l:List Oper}{K K':aa→Prop}(hk: ∀A',cR (l.flatMap λo=>owr fz o.dst o.op) A A'→K A'→K' A')(h:lI P W0 n fz id l K A):lI P W0 n fz id l K' A:=by
 unfold lI at h ⊢
 split at h
 ·rename_i hc;rw[if_pos hc];exact hk _ (.refl _ _) h
 ·rename_i hc;rw[if_neg hc];exact uX _ _ hk h
theorem ei : ∀(c:Code) {Q Q':Exit→aa→Prop} (A:aa) (_: ∀e A',cR (lp fz c) A A'→Q e A'→Q' e A'),cVC P W0 n fz c Q A→cVC P W0 n fz c Q' A
 | .skip,_,_,A,hq,h=>hq _ A (.refl _ _) h
 | .ret,_,_,A,hq,h=>hq _ A (.refl _ _) h
 | .exit _,_,_,A,hq,h=>hq _ A (.refl _ _) h
 | .seq x y,Q,Q',A,hq,h=>ei x A (λe A' ha q=>by
   cases e with
   |normal=>exact ei y A' (λe A'' hb=>hq e A'' (ha.trans hb)) q
   |_=>exact hq _ _ (ha.mono λi hi=>List.mem_append_left _ hi) q) h
 | .cond c x y,_,_,A,hq,h=>⟨h.1,h.2.1,λhb=>ei x A (λe A' ha=>hq e A' (ha.mono λi hi=>List.mem_append_left _ hi)) (h.2.2.1 hb),λhb=>ei y A (λe A' ha=>hq e A' (ha.mono λi hi=>List.mem_append_right _ hi)) (h.2.2.2 hb)⟩
 | .block id c,_,_,A,hq,h=>ei c A (λe A' ha q=>by
   cases e with
   |exit id'=>
    simp only[dA]at q ⊢
    split at q
    ·rename_i he;rw[if_pos he];exact hq _ _ ha q
    ·rename_i he;rw[if_neg he];exact hq _ _ ha q
   |_=>exact hq _ _ ha q) h
 | .region _ _ true,_,_,A,hq,h=>⟨h.1,h.2.1,lq.mono _ A (λB hB hd=>rf (fz:=fz) _ B (λA' ha q=>xZ (λA'' hb q=>hq _ A'' ((hB.trans (ha.trans hb)).mono λi hi=>by
   rcases List.mem_append.1 hi with h|h
   ·exact GL _ _ h
   ·rcases List.mem_append.1 h with h|h<;>exact h) q) q) hd) h.2.2⟩
 | .region _ _ false,_,_,A,hq,h=>vv _ A (λA' ha q=>hq _ A' ha q) h
 | .loop c,_,_,_,hq,h=>VC.mono h λe A' q=>⟨hq e A' q.2 q.1,q.2⟩
 | .rangeFunc ..,_,_,_,_,h=>h.elim
 | .scope ..,_,_,_,_,h=>h.elim
 | .label ..,_,_,_,_,h=>h.elim
 | .goto ..,_,_,_,_,h=>h.elim
 | .refuse ..,_,_,_,_,h=>h.elim
def CI (fz:List Nat)(l:List Oper)(A:aa)(k:aa→Prop)(_:Tag k):Prop:=lq (za fz l) A k
def xY (fz:List Nat)(l:List Oper)(A:aa)(k:aa→Prop)(_:Tag k):Prop:=lq (za fz l) A k
theorem xY.no {l:List Oper}{k:aa→Prop}(h:za fz l=[])(hk:k A):xY fz l A k .mk:=by
 unfold xY
 rw[h]
 exact hk
theorem xY.of {l:List Oper}{k:aa→Prop}(ds:List Nat)(h:za fz l=ds)(hk:lq ds A k):xY fz l A k .mk:=by
 unfold xY
 rw[h]
 exact hk
theorem lq.done {k:aa→Prop}(hk:k A):lq [] A k:=hk
theorem cJ.cut {b:Bool}{x y z:Code}{Q:Exit→aa→Prop}(R:aa→Prop)(h: ∀A,R A→cVC P W0 n fz z Q A)(h1:b=true→cVC P W0 n fz x (bW R Q) A)(h2:b=false→cVC P W0 n fz y (bW R Q) A):cJ P W0 n fz b x .mk y .mk z .mk Q .mk A:=
 ⟨λhb=>ei x A (λe A' _ q=>by cases e<;>first|exact h _ q|exact q) (h1 hb),λhb=>ei y A (λe A' _ q=>by cases e<;>first|exact h _ q|exact q) (h2 hb)⟩
theorem cJ.both {b:Bool}{x y z:Code}{Q:Exit→aa→Prop}(h1:b=true→cVC P W0 n fz x (bW (cVC P W0 n fz z Q) Q) A)(h2:b=false→cVC P W0 n fz y (bW (cVC P W0 n fz z Q) Q) A):cJ P W0 n fz b x .mk y .mk z .mk Q .mk A:=⟨h1,h2⟩
def ey (ks:List Nat)(A B:aa):aa:=⟨λi=>if ks.contains i then A.env i else B.env i,B.st⟩
theorem wS {ks ws:List Nat}{B:aa}(hk:ks.all (λi=>!ws.contains i)=true)(h:cR ws A B):ey ks A B=B:=by
 obtain⟨env,st⟩:=B
 show aa.mk _ st=aa.mk env st
 congr 1
 funext i
 show(if ks.contains i then A.env i else env i)=env i
 split
 ·rename_i hi
  refine(h i λhw=>?_).symm
  have:=List.all_eq_true.1 hk i (by simpa using hi)
  simp[hw]at this
 ·rfl
theorem cJ.at {b:Bool}{x y z:Code}{Q:Exit→aa→Prop}(ks:List Nat)(hks:ks.all (λi=>!(lp fz x++lp fz y).contains i)=true)(R:aa→Prop)(h1:b=true→cVC P W0 n fz x (bW R Q) A)(h2:b=false→cVC P W0 n fz y (bW R Q) A)
  (h: ∀B,R B→cVC P W0 n fz z Q (ey ks A B)):cJ P W0 n fz b x .mk y .mk z .mk Q .mk A:=by
 have key: ∀B,cR (lp fz x++lp fz y) A B→R B→cVC P W0 n fz z Q B:=λB ha hR=>by
  have:=h B hR
  rwa [wS hks ha]at this
 exact⟨λhb=>ei x A (λe A' ha q=>by cases e<;>first|exact key _ (ha.mono λi hi=>List.mem_append_left _ hi) q|exact q) (h1 hb),λhb=>ei y A (λe A' ha q=>by cases e<;>first|exact key _ (ha.mono λi hi=>List.mem_append_right _ hi) q|exact q) (h2 hb)⟩
theorem VC.Tc {c:Operand}{x y:Code}{Q:Exit→aa→Prop}(h1:okM none (A.val c))(h2:zh (unm (A.val c)))(ht:bl (unm (A.val c))=true→VC P W0 n x Q A)(hf:bl (unm (A.val c))=false→VC P W0 n y Q A):VC P W0 n (.cond c x y) Q A:=λw C a hr=>by
 have hv:=hr.val c
 have hb:a.eval c= .bool (bl (unm (A.val c))):=by
  revert hv h1 h2
  generalize A.val c=u
  intro h1 h2 hv
  cases u<;>first|exact h2.elim|exact hv.gi|skip
  rename_i g v
  have:=hv.strip h1
  cases v<;>first|exact h2.elim|exact this.gi
 exact lX hb (λh=>ht h w C a hr) (λh=>hf h w C a hr)
theorem bp : ∀(c:Code) (Q:Exit→aa→Prop) (A:aa),cVC P W0 n fz c Q A→VC P W0 n c Q A
 | .skip,_,_,h=>.skip h
 | .ret,_,_,h=>.ret h
 | .exit _,_,_,h=>.exit h
 | .seq x y,Q,A,h=>.seq ((bp x _ A h).mono λe A' q=>by
   cases e with
   |normal=>exact bp y Q A' q
   |_=>exact q)
 | .cond c x y,Q,A,h=>.Tc h.1 h.2.1 (λhb=>bp x Q A (h.2.2.1 hb)) (λhb=>bp y Q A (h.2.2.2 hb))
 | .block id c,Q,A,h=>.block (bp c _ A h)
 | .region id ops true,Q,A,h=>.yld _ A (lq.mono _ A (λA1 _ hd=>by
  obtain⟨vs,ss,B,h3,h4⟩:=jj _ _ _ hd
  have h5:=wi h4
  have:=VC.SP (id:=id) (l:=ops.toList) (Q:=Q) (A:=A1) (ac:=Ch [] ops.toList) h.1 (by have:=h.2.1;unfold zS at this;simpa using this) ⟨vs,ss,B,by simpa using h3,h5⟩
  simpa using this) h.2.2)
 | .region id ops false,Q,A,h=>by
  have h3:=kN _ _ _ h
  have:=VC.region (id:=id) (l:=ops.toList) (fz:=fz) (Q:=Q) (by simpa using h3)
  simpa using this
 | .loop c,Q,A,h=>VC.mono h λ_ _ q=>q.1
 | .rangeFunc ..,_,_,h=>h.elim
 | .scope ..,_,_,h=>h.elim
 | .label ..,_,_,h=>h.elim
 | .goto ..,_,_,h=>h.elim
 | .refuse ..,_,_,h=>h.elim
end
end Go.Av
end
section
namespace Go.Av
open Go
inductive Small :AV→Prop
 |undef:Small .undef
 |int (k n):Small (.int k n)
 |bool (b):Small (.bool b)
 |str {l:List UInt8}:l.length≤maxLen→Small (.str l)
 |nil:Small .nil
 |ay:Small .ay
 |j0:Small .j0
 |cB:Small .cB
 |iface {t v}:Small v→Small (.iface t v)
 |sl {e} {xs:List AV}:xs.length≤maxLen→(∀x∈xs,Small x)→Small (.sl e xs)
 |lit {e} {xs:List AV}:xs.length≤maxLen→(∀x∈xs,Small x)→Small (.lit e xs)
 |own {e} {xs:List AV} {tok}:xs.length≤maxLen→(∀x∈xs,Small x)→Small (.own e xs tok)
 |row {e id off n}:n≤maxLen→Small (.row e id off n)
 |agg {t} {fs:List AV}:(∀x∈fs,Small x)→Small (.agg t fs)
 |loc {t v}:Small v→Small (.loc t v)
 |ptr (t id i path):Small (.ptr t id i path)
 |it (id):Small (.it id)
 |mp (id):Small (.mp id)
 |yl (l):Small (.yl l)
 |fn {f} {caps:List AV}:(∀x∈caps,Small x)→Small (.fn f caps)
 |tup {vs:List AV}:(∀x∈vs,Small x)→Small (.tup vs)
 |maybe {g v}:(g=true→Small v)→Small (.maybe g v)
section
variable {P :Program}{W0 w w':World}{C C':Ctx}{σ σ':ab}{n:Nat}{A:aa}{a:Act}{fz:List Nat}
theorem dm {xs:List AV}(h: ∀(i:Nat)(x:AV),xs[i]?=some x→Small x): ∀x∈xs,Small x:=λx hx=>by
 obtain⟨i,hi,he⟩:=List.getElem_of_mem hx
 exact h i x (by rw[←he];exact List.getElem?_eq_getElem hi)
theorem Rel.small {x:AV}{cs:List Value}(h:Rel P w C x cs):Small x:=by
 induction h with
 |int k n=>exact .int k n
 |bool b=>exact .bool b
 |str h=>exact .str h
 |nil=>exact .nil
 |ay=>exact .ay
 |j0=>exact .j0
 |cB=>exact .cB
 |iface _ _ ih=>exact .iface ih
 |sl cf h1 h2 _ _ _ ih=>exact .sl (Nat.le_trans h1 h2) (dm ih)
 |lit cf h1 _ _ _ ih=>exact .lit h1 (dm ih)
 |own cf h1 h2 _ _ _ _ _ ih=>exact .own (Nat.le_trans h1 h2) (dm ih)
 |row h1 h2=>exact .row (Nat.le_trans h1 h2)
 |agg cf _ _ _ _ _ _ ih=>exact .agg (dm ih)
 |loc _ _ _ _ ih=>exact .loc ih
 |ptr=>exact .ptr ..
 |it=>exact .it _
 |mp=>exact .mp _
 |yl=>exact .yl _
 |fn h1 h2 h3 ih=>exact .fn (dm λi x hx=>ih i x _ hx (List.getElem?_eq_getElem (by rw[←h1];exact(List.getElem?_eq_some_iff.1 hx).1)))
theorem aG.small {x:AV}{v:Value}(h:aG P w C x v):Small x:=by
 induction h with
 |undef=>exact .undef
 |maybe _ _ ih=>exact .maybe ih
 |tup h1 _ ih=>exact .tup (dm λi x hx=>ih i x _ hx (List.getElem?_eq_getElem (by rw[←h1];exact(List.getElem?_eq_some_iff.1 hx).1)))
 |agg h=>exact h.small
 |one _ h=>exact h.small
structure WkA (A B:aa):Prop where
 env: ∀i,cT (A.env i) (B.env i)
 st:A.st=B.st
theorem WkA.refl (A:aa):WkA A A:=⟨λ_=>.refl _,rfl⟩
theorem WkA.upd {A B:aa}{d:Nat}{v:AV}(h:WkA A B)(hv:cT (A.env d) v):WkA A (B.upd d v):=⟨λi=>by
 by_cases hi:i=d
 ·subst hi;rw[aa.zt];exact hv
 ·rw[aa.s7 B v hi];exact h.env i,h.st⟩
def Hy (I:aa→Prop)(A:aa):Prop:=I A
theorem Hy.here {I:aa→Prop}(h:I A):Hy I A:=h
def Jv (I:Nat→aa→Prop)(k:Nat)(A:aa):Prop:=∃ k',k'<k∧I k' A
theorem Jv.here {I:Nat→aa→Prop}{k:Nat}(k':Nat)(hk:k'<k)(h:I k' A):Jv I k A:=⟨k',hk,h⟩
def Kept (fz:List Nat)(c:Code)(_:Tag c)(ks:List Nat):Prop:=ks.all (λi=>!(lp fz c).contains i)=true
theorem Kept.of {c:Code}{ks:List Nat}(h:ks.all (λi=>!(lp fz c).contains i)=true):Kept fz c .mk ks:=h
theorem Kept.nil {c:Code}:Kept fz c .mk []:=rfl
theorem af.cu {c:Code}{Q:Exit→aa→Prop}(ks:List Nat)(hks:Kept fz c .mk ks)(I:Nat→aa→Prop)(k₀:Nat)(h₀:I k₀ A)
  (round: ∀k B,I k B→cVC P W0 n fz c (bW (Jv I k) Q) (ey ks A B)):af P W0 n fz c .mk Q .mk A:=by
 refine .loop (λk B=>cR (lp fz c) A B∧I k B) k₀ ⟨.refl _ _,h₀⟩ λk B ⟨ha,hI⟩=>?_
 have h1:=round k B hI
 rw[wS hks ha]at h1
 refine(bp c _ B (ei (Q':=bW (λA'=>∃ k',k'<k∧cR (lp fz c) A A'∧I k' A') λe A'=>Q e A'∧cR (lp fz c) A A') c B (λe A' hb q=>?_) h1))
 have hab:cR (lp fz c) A A':=(ha.trans hb).mono λi hi=>by rcases List.mem_append.1 hi with h|h<;>exact h
 cases e with
 |normal=>
  obtain⟨k',hk,hI'⟩:=q
  exact⟨k',hk,hab,hI'⟩
 |_=>exact⟨q,hab⟩
theorem af.upto {c:Code}{Q:Exit→aa→Prop}(ks:List Nat)(hks:Kept fz c .mk ks)(N:Nat)(I:Nat→aa→Prop)(i₀:Nat)(hi₀:i₀≤N)(h₀:I i₀ A)
  (round: ∀i B,i≤N→I i B→cVC P W0 n fz c (bW (λA'=>i<N∧I (i+1) A') Q) (ey ks A B)):af P W0 n fz c .mk Q .mk A:=by
 refine .cu ks hks (λk B=>∃ i,i≤N∧k=N-i∧I i B) (N-i₀) ⟨i₀,hi₀,rfl,h₀⟩ λk B ⟨i,hi,hk,hI⟩=>?_
 refine ei c _ (λe A' _ q=>?_) (round i B hi hI)
 cases e with
 |normal=>exact⟨N-(i+1),by have:=q.1;omega,i+1,q.1,rfl,q.2⟩
 |_=>exact q
theorem VC.cu {c:Code}{Q:Exit→aa→Prop}(fz:List Nat)(I:Nat→aa→Prop)(k₀:Nat)(h₀:Hy (I k₀) A)
  (round: ∀k A,I k A→cVC P W0 n fz c (bW (Jv I k) Q) A):af P W0 n fz c .mk Q .mk A:=.cu [] .nil I k₀ h₀ round
theorem VC.upto {c:Code}{Q:Exit→aa→Prop}(fz:List Nat)(N:Nat)(I:Nat→aa→Prop)(i₀:Nat)(hi₀:i₀≤N)(h₀:Hy (I i₀) A)
  (round: ∀i A,i≤N→I i A→cVC P W0 n fz c (bW (λA'=>i<N∧Hy (I (i+1)) A') Q) A):af P W0 n fz c .mk Q .mk A:=.upto [] .nil N I i₀ hi₀ h₀ round
theorem af.at {c:Code}{id:Nat}{K:aa→Prop}{Q:Exit→aa→Prop}(ks:List Nat)(hks:Kept fz c .mk ks)(R:aa→Prop)(h:af P W0 n fz c .mk (dA id (bW R Q)) .mk A)(hR: ∀B,R B→K (ey ks A B)):af P W0 n fz c .mk (dA id (bW K Q)) .mk A:=
 VC.mono h λe A' ⟨q,ha⟩=>by
  have key:R A'→K A':=λhr=>by
   have:=hR A' hr
   rwa [wS hks ha]at this
  refine⟨?_,ha⟩
  cases e with
  |normal=>exact key q
  |exit id'=>
   simp only[dA]at q ⊢
   split at q
   ·rename_i he;rw[if_pos he];exact key q
   ·rename_i he;rw[if_neg he];exact q
  |_=>exact q
theorem af.cut {c:Code}{id:Nat}{K:aa→Prop}{Q:Exit→aa→Prop}(R:aa→Prop)(hR: ∀A,R A→K A)(h:af P W0 n fz c .mk (dA id (bW R Q)) .mk A):af P W0 n fz c .mk (dA id (bW K Q)) .mk A:=.at [] .nil R h hR
def M3 (ts:List Nat)(r:AV)(σ:ab):Exit→aa→Prop
 | .normal,A| .ret,A=>cT (ib A.env ts) r∧A.st.take σ.length=σ
 |_,_=>False
theorem aj {f : FuncId} {fn : Func} {c : Code} {args : List AV} {r : AV} {m : Nat} (ts : List Nat) (fz : List Nat) (hf : P.funcs[f]? = some fn) (hb : fn.body = some c) (hnm : (fn.name == "runtime.NumGoroutine") = false)
  (hm:fn.ntmps=m) (hargs:Nat.ble args.length m=true) (hres:fn.results=(ts.map ResultVar.tmp).toArray) (hr:aS 0 r)
  (h:(∀a∈args,Small a)→ ∀σ,cVC P W0 m fz c (M3 ts r σ) ⟨ij args,σ⟩):ag P W0 f args r:=λσ=>by
 subst hm
 refine λw C vs hst hl hv=>?_
 have hsm: ∀a∈args,Small a:=dm λi x hx=>(hv i x _ hx (List.getElem?_eq_getElem (by rw[←hl];exact(List.getElem?_eq_some_iff.1 hx).1))).small
 have hvc:=bp c _ _ (h hsm σ)
 refine(qV hf hb hnm (Nat.le_of_ble_eq_true hargs) hres (Q:=λr' σ'=>r'=r∧σ'=σ) (hvc.mono λe A' q=>?_)) w C vs hst hl hv
 have key:cT (ib A'.env ts) r∧A'.st.take σ.length=σ→Mv ts (λr' σ'=>r'=r∧σ'=σ) σ .ret A':=λ⟨q1,q2⟩=>by
  refine⟨r,σ,q1,⟨Nat.le_refl _,q2.symm⟩,λid te xs hid hs=>?_,eg (Nat.zero_le _) hr,rfl,rfl⟩
  have:σ[id]?=some (some (.cells te xs)):=by rw[←hs,←q2,List.getElem?_take,if_pos hid]
  exact hst.ids this
 cases e with
 |normal=>exact key q
 |ret=>exact key q
 |_=>exact q.elim
def xh (P:Program)(t u e:TypeId)(N:Nat):Bool:=elT P t==some e&&(elT P u==some e&&(Nat.ble 1 (ae P e)&&(bu P e&&(Nat.ble (N*bytesOf P e) 140737488355328&&Nat.ble N 9223372036854775807))))
theorem yE {t u e:TypeId}{N:Nat}(h:xh P t u e N=true):(elT P t=some e∧elT P u=some e∧0<ae P e∧bu P e=true)∧N*bytesOf P e≤140737488355328∧N≤maxLen:=by
 simp only[xh,Bool.and_eq_true,beq_iff_eq]at h
 obtain⟨h1,h2,h3,h4,h5,h6⟩:=h
 exact⟨⟨h1,h2,Nat.le_of_ble_eq_true h3,h4⟩,Nat.le_of_ble_eq_true h5,Nat.le_of_ble_eq_true h6⟩
inductive Frz :aa→aa→Prop
 |refl (D:aa):Frz D D
 |row {D B:aa} (d:Nat) {e te:TypeId} {id off m:Nat} {xs:List AV}:D.env d= .row e id off m→D.st[id]?=some (some (.cells te xs))→off+m≤xs.length→Frz ((D.upd d (.sl e ((xs.drop off).take m))).an (D.st.set id none)) B→Frz D B
theorem bI.frz {B:aa}(hf:Frz A B): ∀{C:Ctx},bI P W0 n w C A a→ ∃C',bI P W0 n w C' B a∧Step w C w C':=by
 induction hf with
 |refl A=>exact λh=>⟨_,h,.refl _ _⟩
 |row d h1 h2 h3 _ ih=>
  intro C h
  have hv:=h.env d
  rw[h1]at hv
  have hfr:=nP h.st hv h2 h3
  obtain⟨k1,k2⟩:=h.st.kill _ (List.getElem?_eq_some_iff.1 h2).1
  have hr1:=h.step k1 k2
  have hr2:bI P W0 n w (C.kill _) ((aa.upd _ d (.sl _ _)).an (List.set _ _ none)) a:=⟨λj=>by
   by_cases hj:j=d
   ·subst hj;simpa[aa.upd,aa.an]using hfr
   ·have:=hr1.env j;simpa[aa.upd,aa.an,hj]using this,hr1.defers,hr1.size,hr1.st⟩
  obtain⟨C',g1,g2⟩:=ih hr2
  exact⟨C',g1,k1.trans g2⟩
def bR (R:aa→Prop):Exit→aa→Prop
 | .normal,A| .ret,A=>∃ A',Frz A A'∧R A'
 |_,_=>False
theorem bR.ret {R:aa→Prop}(h:R A):bR R .ret A:=⟨A,.refl A,h⟩
theorem bR.normal {R:aa→Prop}(h:R A):bR R .normal A:=⟨A,.refl A,h⟩
theorem bR.frz {R:aa→Prop}{x:Exit}(d:Nat){e te:TypeId}{id off m:Nat}{xs:List AV}(h1:A.env d= .row e id off m)(h2:A.st[id]?=some (some (.cells te xs)))(h3:off+m≤xs.length)
  (h:bR R x ((A.upd d (.sl e ((xs.drop off).take m))).an (A.st.set id none))):bR R x A:=by
 cases x with
 |normal=>obtain⟨A',g1,g2⟩:=h;exact⟨A',.row d h1 h2 h3 g1,g2⟩
 |ret=>obtain⟨A',g1,g2⟩:=h;exact⟨A',.row d h1 h2 h3 g1,g2⟩
 |_=>exact h.elim
theorem bR.vc {R:aa→Prop}{c:Code}(h:VC P W0 n c (bR R) A):VC P W0 n c (λe A'=>(e= .normal∨e= .ret)∧R A') A:=λw C a hr=>
 hZ (h w C a hr) λe a' w' ⟨A',C',q,r,s⟩=>by
  cases e with
  |normal=>obtain⟨B,g1,g2⟩:=q;obtain⟨C'',h1,h2⟩:=r.frz g1;exact⟨B,C'',⟨.inl rfl,g2⟩,h1,s.trans h2⟩
  |ret=>obtain⟨B,g1,g2⟩:=q;obtain⟨C'',h1,h2⟩:=r.frz g1;exact⟨B,C'',⟨.inr rfl,g2⟩,h1,s.trans h2⟩
  |_=>exact q.elim
theorem cO {f : FuncId} {fn : Func} {c : Code} {args : List AV} {Q : AV → ab → Prop} {m : Nat} (ts : List Nat) (fz : List Nat) (hf : P.funcs[f]? = some fn) (hb : fn.body = some c) (hnm : (fn.name == "runtime.NumGoroutine") = false)
  (hm:fn.ntmps=m) (hargs:Nat.ble args.length m=true) (hres:fn.results=(ts.map ResultVar.tmp).toArray)
  (h:(∀a∈args,Small a)→cVC P W0 m fz c (bR λA=>∃ r,cT (ib A.env ts) r∧σ.length≤A.st.length∧Q r A.st) ⟨ij args,σ⟩):aZ P W0 f args σ Q:=by
 subst hm
 refine λw C vs hst hl hv=>?_
 have hsm: ∀a∈args,Small a:=dm λi x hx=>(hv i x _ hx (List.getElem?_eq_getElem (by rw[←hl];exact(List.getElem?_eq_some_iff.1 hx).1))).small
 have hvc:=bR.vc (bp c _ _ (h hsm))
 refine .inl ⟨⟨fn,hf,by simp[hb],hnm⟩,calls_of_wp hf hb (wp_mono (wC (hvc w C _ (j6 hst hl hv (Nat.le_of_ble_eq_true hargs)))) λe a' w' ⟨A',C',q,r,s⟩=>?_)⟩
 have fin:a'.defers=[]∧ ∃v,(results fn a'.tmps).run P w'= .ok v w'∧ ∃v₁ r σ' C',Ending.returned v= .returned v₁∧Q r σ'∧aB P W0 w' C' σ'∧aG P w' C' r v₁∧Step w C w' C':=by
  obtain⟨_,r1,h2,_,h4⟩:=q
  obtain⟨v,g1,g2⟩:=mm r hres
  exact⟨r.defers,v,g1,v,r1,A'.st,C',rfl,h4,r.st,g2.cG h2,s⟩
 rcases q.1 with rfl|rfl
 ·exact fin
 ·exact fin
theorem om {f : FuncId} {fn : Func} {c : Code} {args : List AV} {r : AV} {m : Nat} (ts : List Nat) (fz : List Nat) (hf : P.funcs[f]? = some fn) (hb : fn.body = some c) (hnm : (fn.name == "runtime.NumGoroutine") = false)
  (hm:fn.ntmps=m) (hargs:Nat.ble args.length m=true) (hres:fn.results=(ts.map ResultVar.tmp).toArray) (hr:aS σ.length r)
  (h:(∀a∈args,Small a)→cVC P W0 m fz c (bR λA=>cT (ib A.env ts) r∧A.st.take σ.length=σ) ⟨ij args,σ⟩):aZ P W0 f args σ λr' σ'=>r'=r∧σ'=σ:=by
 subst hm
 refine λw C vs hst hl hv=>?_
 have hsm: ∀a∈args,Small a:=dm λi x hx=>(hv i x _ hx (List.getElem?_eq_getElem (by rw[←hl];exact(List.getElem?_eq_some_iff.1 hx).1))).small
 have hvc:=bR.vc (bp c _ _ (h hsm))
 refine(qV hf hb hnm (Nat.le_of_ble_eq_true hargs) hres (Q:=λr' σ'=>r'=r∧σ'=σ) (hvc.mono λe A' ⟨he,q1,q2⟩=>?_)) w C vs hst hl hv
 have key:Mv ts (λr' σ'=>r'=r∧σ'=σ) σ .ret A':=by
  refine⟨r,σ,q1,⟨Nat.le_refl _,q2.symm⟩,λid te xs hid hs=>?_,hr,rfl,rfl⟩
  have:σ[id]?=some (some (.cells te xs)):=by rw[←hs,←q2,List.getElem?_take,if_pos hid]
  exact hst.ids this
 rcases he with rfl|rfl
 ·exact key
 ·exact key
theorem lZ {f : FuncId} {fn : Func} {c : Code} {args : List AV} {r : AV} {m : Nat} (ts : List Nat) (fz : List Nat) (hf : P.funcs[f]? = some fn) (hb : fn.body = some c) (hnm : (fn.name == "runtime.NumGoroutine") = false)
  (hm:fn.ntmps=m) (hargs:Nat.ble args.length m=true) (hres:fn.results=(ts.map ResultVar.tmp).toArray) (hr:aS 0 r)
  (h:(∀a∈args,Small a)→ ∀σ,cVC P W0 m fz c (bR λA=>cT (ib A.env ts) r∧A.st.take σ.length=σ) ⟨ij args,σ⟩):ag P W0 f args r:=λσ=>
 om ts fz hf hb hnm hm hargs hres (eg (Nat.zero_le _) hr) λhs=>h hs σ
theorem Ox {f : FuncId} {fn : Func} {e : Array Value → Sem Value} {args : List AV} {r : AV} (hf : P.funcs[f]? = some fn) (hname : (fn.name == "runtime.NumGoroutine") = false)
  (hb:fn.body.isNone=true) (hn:Extern.findNext fn=none) (he:Extern.find fn=some e) (h: ∀w C (vs:List Value),args.length=vs.length→(∀(i:Nat) (a:AV) (v:Value),args[i]?=some a→vs[i]?=some v→aG P w C a v)→ ∃v,(e vs.toArray).run P w= .ok v w∧aG P w C r v):ag P W0 f args r:=λσ w C vs hst hl hv=>by
 obtain⟨v,h1,h2⟩:=h w C vs hl hv
 refine .inr ⟨v,w,?_,v,r,σ,C,rfl,⟨rfl,rfl⟩,hst,h2,.refl _ _⟩
 rw[run_callFunc_extern hf hname hb hn he,h1]
 rfl
theorem bN.own {t u e:TypeId}{x y:AV}{xs ys:List AV}{dst:Option Nat}{k:aa→Prop}(N:Nat)(ho:xh P t u e N=true)(hb:Bld A.st x e xs)(hy:eY A.st y e ys)(hN:xs.length+ys.length≤N)
  (hk: ∀v σ',App A.st x e (xs++ys) v σ'→k ((A.put dst v).an σ')):bN P [t,u] [x,y] dst A k .mk:=by
 obtain⟨h1,h2,h3⟩:=yE ho
 exact .inl ⟨e,xs,ys,h1,hb,hy,Nat.le_trans (Nat.mul_le_mul_right _ hN) h2,Nat.le_trans hN h3,hk⟩
theorem bN.row {t u e:TypeId}{x y:AV}{xs ys:List AV}{dst:Option Nat}{k:aa→Prop}(N:Nat)(ho:xh P t u e N=true)(hb:dh A.st x e xs)(hy:eY A.st y e ys)(hN:xs.length+ys.length≤N)
  (h0:ys=[]→k ((A.put dst x).an A.st)) (hk:ys≠[]→k ((A.put dst (.row e A.st.length 0 (xs.length+ys.length))).an (bQ x A.st++[some (.cells e (xs++ys))]))):bN P [t,u] [x,y] dst A k .mk:=by
 obtain⟨h1,h2,h3⟩:=yE ho
 exact .inr (.inl ⟨e,xs,ys,h1,hb,hy,Nat.le_trans (Nat.mul_le_mul_right _ hN) h2,Nat.le_trans hN h3,h0,hk⟩)
theorem bN.zero {t u e:TypeId}{k' kn:IntKind}{m:Nat}{z:AV}{dst:Option Nat}{k:aa→Prop}(N:Nat)(ht:elT P t=some e)(hu:P.underlying u=some (.int kn))(hz:zeroOf P e=some z)(ho:(Nat.ble 1 (ae P e)&&(bu P e&&(Nat.ble (N*bytesOf P e) 140737488355328&&Nat.ble N 9223372036854775807)))=true)(h0:0<m)(hN:m≤N)
  (hk:k ((A.put dst (.row e A.st.length 0 m)).an (A.st++[some (.cells e (List.replicate m z))]))):bN P [t,u] [.ay,.int k' m] dst A k .mk:=by
 simp only[Bool.and_eq_true]at ho
 obtain⟨h1,h2,h3,h4⟩:=ho
 exact .inr (.inr (.inl ⟨e,m,z,k',kn,⟨rfl,rfl⟩,⟨ht,hu,Nat.le_of_ble_eq_true h1,h2,hz⟩,h0,Nat.le_trans (Nat.mul_le_mul_right _ hN) (Nat.le_of_ble_eq_true h3),Nat.le_trans hN (Nat.le_of_ble_eq_true h4),hk⟩))
theorem nS.row {t e:TypeId}{id off m:Nat}{zs:List AV}{v:AV}{dst:Option Nat}{k:aa→Prop}(h1:elT P t=some e)(h3:0<ae P e)(hz:zeroOf P e=some v)(hs:A.st[id]?=some (some (.cells e zs)))(hN:off+m≤zs.length)
  (hk:k ((A.put dst (.tup [])).an (A.st.set id (some (.cells e (iG zs off (List.replicate m v))))))):nS P [t] [.row e id off m] dst A k .mk:=
 ⟨e,id,off,m,zs,v,⟨h1,h3,hz⟩,rfl,hs,hN,hk⟩
theorem zO.go {t e:TypeId}{k k':IntKind}{m:Nat}{z:AV}{dst:Option Nat}{K:aa→Prop}(N:Nat)(ht:elT P t=some e)(hz:zeroOf P e=some z)(ho:(Nat.ble 1 (ae P e)&&Nat.ble (N*bytesOf P e) 281474976710656&&Nat.ble N 9223372036854775807)=true)(hN:m≤N)
  (hk:K ((A.put dst (.row e A.st.length 0 m)).an (A.st++[some (.cells e (List.replicate m z))]))):zO P t (.int k m) (.int k' m) dst A K .mk:=by
 rw[Bool.and_eq_true,Bool.and_eq_true]at ho
 refine⟨rfl,?_⟩
 simp only[ht,hz,Int.toNat_natCast]
 refine⟨Nat.le_of_ble_eq_true ho.1.1,Int.natCast_nonneg _,Nat.le_trans (Nat.mul_le_mul_right _ hN) (Nat.le_of_ble_eq_true ho.1.2),Nat.le_trans hN (Nat.le_of_ble_eq_true ho.2),hk⟩
theorem AS.of {so:Option ab}{g:FuncId}{us:List AV}{r:AV}(h:ag P W0 g us r):AS P W0 so g us r:=by cases so<;>first|exact h|exact h _
theorem az.go {gd:Option Bool}{so:Option ab}{g:FuncId}{caps us:List AV}{dst:Option Nat}{k:aa→Prop}{r:AV}(h:imp gd (ag P W0 g (us++caps) r))(hk:k (A.put dst (cP gd r))):az P W0 gd so (.fn g caps) us dst A k .mk:=⟨r,h.map .of,hk⟩
theorem az.st {gd:Option Bool}{g:FuncId}{caps us:List AV}{dst:Option Nat}{k:aa→Prop}{r:AV}(h:imp gd (aZ P W0 g (us++caps) σ λr' σ'=>r'=r∧σ'=σ))(hk:k (A.put dst (cP gd r))):az P W0 gd (some σ) (.fn g caps) us dst A k .mk:=⟨r,h,hk⟩
theorem az.fn {gd:Option Bool}{so:Option ab}{g:FuncId}{us:List AV}{dst:Option Nat}{k:aa→Prop}{r:AV}(h:ag P W0 g us r)(hk:k (A.put dst (cP gd r))):az P W0 gd so (.fn g []) us dst A k .mk:=⟨r,.of (.of (by simpa using h)),hk⟩
theorem az.fnG {G:Bool}{so:Option ab}{g:FuncId}{us:List AV}{dst:Option Nat}{k:aa→Prop}{r:AV}(h:G=true→ag P W0 g us r)(hk:k (A.put dst (.maybe G r))):az P W0 (some G) so (.fn g []) us dst A k .mk:=⟨r,λhg=>.of (by simpa using h hg),hk⟩
theorem nN (dst:Option Nat)(r:AV):(A.put dst r).an A.st=A.put dst r:=by cases dst<;>rfl
theorem al.pure {g:FuncId}{caps us:List AV}{dst:Option Nat}{k:aa→Prop}{r:AV}(h:ag P W0 g (us++caps) r)(hk:k (A.put dst r)):al P W0 (.fn g caps) us dst A k .mk:=
 (h A.st).mono λr' σ' ⟨h1,h2⟩=>by subst h1 h2;rw[nN];exact hk
theorem al.fn {g:FuncId}{us:List AV}{dst:Option Nat}{k:aa→Prop}{r:AV}(h:ag P W0 g us r)(hk:k (A.put dst r)):al P W0 (.fn g []) us dst A k .mk:=.pure (by simpa using h) hk
end
end Go.Av
end
