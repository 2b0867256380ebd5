/- Texts that the last one of this claim rests on: a layer over the guide's own conditions for code; contracts of the functions that the law reaches, one by one. No conditions beside those of the given rows. -/
import Derived.Laws.MakeOwn
import Derived.Lib.AppendZeros
import Derived.Lib.ConvBytes
import Derived.Laws.BytesString
import Derived.Laws.Cells
import Derived.Lib.AppendStr
import Derived.Orders
import Derived.Test.YtbooehmmhbioaaaGreatDoorWaa
set_option linter.unusedSimpArgs false
set_option linter.unusedVariables false
section
namespace Go.Av
open Go

section
variable {P : Program} {W0 w w' : World} {C C' : Ctx} {σ σ' : ab} {n : Nat} {A : aa} {a : Act} {o : Oper}

theorem eD {t u e e' : TypeId} {i : TypeInfo} (ht : P.underlying t = some (.slice e)) (hu : P.underlying u = some (.slice e')) (hi : P.info? e = some i) (ty : TypeId) (b : Option Addr) (l c : Nat) (y : Value) (w : World) :
  (Builtin.append_ #[t,u] ty #[.slice b l c,y]).run P w = (Builtin.append_ #[t,t] ty #[.slice b l c,y]).run P w:=by
 have hsv : (sizeOf e).run P w = .ok i.size w:=by simp [sizeOf,typeInfo,hi]
 have h1 : ∀ v : TypeId,(#[t,v] : Array TypeId)[1]? = some v:=fun _=>rfl
 have h0 : ∀ v : TypeId,(#[t,v] : Array TypeId)[0]? = some t:=fun _=>rfl
 have h2 : (#[.slice b l c,y] : Array Value)[0]? = some (.slice b l c):=rfl
 have h3 : (#[.slice b l c,y] : Array Value)[1]? = some y:=rfl
 simp only [Builtin.append_,h0,h1,h2,h3,Sem.run_bind,run_underlying ht,run_underlying hu,Result.andThen_ok,hsv,Sem.run_pure]

theorem lK (h : aw P W0 w C σ) {e : TypeId} {zs : List AV} {cap : Nat} {arr : Array Value} {cf : Nat → List Value} (hl : zs.length ≤ cap) (hc : cap ≤ maxLen) (hs : arr.size = cap * ae P e)
  (hz : ∀ i x,zs[i]? = some x → Rel P w C x (cf i) ∧ (cf i).length = ae P e ∧ fits P e x ∧ ∀ (j : Nat) (u : Value),(cf i)[j]? = some u → arr[i * ae P e + j]? = some u) :
  ∃ C',Step w C (w.alloc (.cells arr e)) C' ∧ aw P W0 (w.alloc (.cells arr e)) C' (σ ++ [some .tok]) ∧ az P (w.alloc (.cells arr e)) C' (.own e zs σ.length) (.slice (some ⟨w.heap.size,0,none⟩) zs.length cap):=by
 have hhw : zs.length * ae P e ≤ arr.size:=by rw [hs]; exact Nat.mul_le_mul_right _ hl
 obtain ⟨h1,h2⟩:=h.push (ob:=.cells arr e) (ow:=.tok w.heap.size e (zs.length * ae P e) cap) (so:=.tok) rfl ⟨arr,heap_alloc_new w _,hs,hhw⟩
 refine ⟨_,h1,h2,.one rfl (.own cf hl hc (fun i x hx=>(hz i x hx).1.mono h1) (fun i x hx=>⟨(hz i x hx).2.1,(hz i x hx).2.2.1⟩) (fun _=>⟨w.heap.size,0,rfl,fun i hi j u hj=>⟨?_,⟨by simp,fun id ow hm he=>?_⟩⟩⟩) (by simp [Ctx.push,h.nx]) (fun ow how=>?_))⟩
 ·have:=(hz i _ (List.getElem?_eq_getElem hi)).2.2.2 j u hj
  rw [World.cell?_alloc_new,Nat.zero_add]
  exact this
 ·simp only [Ctx.push] at hm
  split at hm
  ·cases hm
   refine ⟨_,_,_,rfl,?_⟩
   have hjl : j < ae P e:=by rw [← (hz i _ (List.getElem?_eq_getElem hi)).2.1]; exact (List.getElem?_eq_some_iff.1 hj).1
   have : (i + 1) * ae P e ≤ zs.length * ae P e:=Nat.mul_le_mul_right _ hi
   rw [Nat.succ_mul] at this
   omega
  ·exact absurd he (by have:=h.lt hm; omega)
 ·simp only [Ctx.push,h.nx,if_true,Option.some.injEq] at how
  exact how.symm

theorem aw.tok (h : aw P W0 w C σ) {id : Nat} (hs : σ[id]? = some (some .tok)) : ∃ b e hw cap arr,C.m id = some (.tok b e hw cap) ∧ w.heap[b]? = some (.cells arr e (0,0)) ∧ arr.size = cap * ae P e ∧ hw ≤ arr.size:=by
 have ho:=h.obj id
 rw [hs] at ho
 simp only [Option.join_some] at ho
 cases hm : C.m id with
 | none=>rw [hm] at ho; exact ho.elim
 | some ow =>
  rw [hm] at ho
  cases ow with
  | tok b e hw cap =>
   obtain ⟨arr,h1,h2,h3⟩:=ho
   exact ⟨b,e,hw,cap,arr,rfl,h1,h2,h3⟩
  | obj=>exact ho.elim
  | iter=>exact ho.elim
  | mp=>exact ho.elim

theorem v8 (h : aw P W0 w C σ) {tok b hw cap : Nat} {e : TypeId} {arr : Array Value} {news : List Value} (hs : σ[tok]? = some (some .tok)) (hm : C.m tok = some (.tok b e hw cap)) (hb : w.heap[b]? = some (.cells arr e (0,0)))
  (hsz : arr.size = cap * ae P e) (hfit : hw + news.length ≤ arr.size) :
  ∃ C',Step w C (w.setRow b (ba arr hw news)) C' ∧ aw P W0 (w.setRow b (ba arr hw news)) C' (σ.set tok none ++ [some .tok]) ∧ C'.nx = σ.length + 1 ∧ C'.m σ.length = some (.tok b e (hw + news.length) cap) ∧
   ∀ id ow,C'.m id = some ow → ow.blk = b → ow = .tok b e (hw + news.length) cap:=by
 have htl : tok < σ.length:=(List.getElem?_eq_some_iff.1 hs).1
 have hsize : (ba arr hw news).size = arr.size:=cO hfit
 have hnew : (w.setRow b (ba arr hw news)).heap[b]? = some (.cells (ba arr hw news) e (0,0)):=setRow_heap w b arr _ e _ hb
 have hC : ∀ i ow,((C.kill tok).push (.tok b e (hw + news.length) cap)).m i = some ow → (i = C.nx ∧ ow = .tok b e (hw + news.length) cap) ∨ (i ≠ C.nx ∧ i ≠ tok ∧ C.m i = some ow):=fun i ow hi=>by
  rw [py,lT,mM] at hi
  split at hi
  ·rename_i he; cases hi; exact .inl ⟨he,rfl⟩
  ·rename_i he
   split at hi
   ·cases hi
   ·rename_i ht; exact .inr ⟨he,ht,hi⟩
 have hne : ∀ i ow,i ≠ tok → C.m i = some ow → ow.blk ≠ b:=fun i ow hi hm' he=>hi (h.inj i tok ow _ hm' hm (by simpa [Own.blk] using he))
 have hstep : Step w C (w.setRow b (ba arr hw news)) ((C.kill tok).push (.tok b e (hw + news.length) cap)):=by
  refine ⟨by simp [Ctx.push,Ctx.kill],fun id ow hid hi=>?_,fun b' i hst=>?_,rfl,rfl,rfl,by simp,fun b' hlt hn=>?_⟩
  ·rcases hC id ow hi with ⟨he,_⟩ | ⟨_,_,h'⟩
   ·omega
   ·exact h'
  ·by_cases hbb : b' = b
   ·subst hbb
    obtain ⟨e',hw',cap',e1,e2⟩:=hst.2 tok _ hm rfl
    cases e1
    refine ⟨?_,by simpa using hst.1,fun id ow hi he=>?_⟩
    ·simp only [World.cell?,hnew,hb,Option.isSome_none,Bool.false_eq_true,if_false]
     rw [bg hfit,if_neg (by omega)]
    ·rcases hC id ow hi with ⟨_,rfl⟩ | ⟨_,ht,h'⟩
     ·exact ⟨_,_,_,rfl,by omega⟩
     ·exact absurd he (hne id ow ht h')
   ·refine ⟨cell_setRow_other w b _ ⟨b',i,none⟩ hbb,by simpa using hst.1,fun id ow hi he=>?_⟩
    rcases hC id ow hi with ⟨_,rfl⟩ | ⟨_,_,h'⟩
    ·exact absurd he (fun e=>hbb e.symm)
    ·exact hst.2 id ow h' he
  ·refine ⟨setRow_other w b b' _ (fun e=>hn tok _ hm (by simp [Own.blk,e])),fun id ow hi=>?_⟩
   rcases hC id ow hi with ⟨_,rfl⟩ | ⟨_,_,h'⟩
   ·intro he; exact hn tok _ hm he
   ·exact hn id ow h'
 refine ⟨_,hstep,h.change hstep (fun i ow hi=>?_) (by simp [Ctx.push,Ctx.kill,h.nx]) (fun i j x y hi hj he=>?_) (fun i ow hi=>?_) (fun i=>?_),by simp [Ctx.push,Ctx.kill,h.nx],by simp [Ctx.push,Ctx.kill,h.nx],fun id ow hi he=>?_⟩
 ·rcases hC i ow hi with ⟨_,rfl⟩ | ⟨_,_,h'⟩
  ·exact h.low tok (.tok b e hw cap) hm
  ·exact h.low i ow h'
 ·rcases hC i x hi with ⟨e1,rfl⟩ | ⟨e1,t1,h1⟩
  ·rcases hC j y hj with ⟨e2,rfl⟩ | ⟨e2,t2,h2⟩
   ·omega
   ·exact absurd he.symm (hne j y t2 h2)
  ·rcases hC j y hj with ⟨e2,rfl⟩ | ⟨e2,t2,h2⟩
   ·exact absurd he (hne i x t1 h1)
   ·exact h.inj i j x y h1 h2 he
 ·simp only [Ctx.push,Ctx.kill]
  rcases hC i ow hi with ⟨e1,_⟩ | ⟨_,_,h1⟩
  ·omega
  ·have:=h.dom i ow h1; omega
 ·rw [o7,List.length_set,im _ _ _ _ htl]
  by_cases hi : i = σ.length
  ·left
   rw [if_pos hi]
   have : ((C.kill tok).push (.tok b e (hw + news.length) cap)).m i = some (.tok b e (hw + news.length) cap):=by simp [Ctx.push,Ctx.kill,hi,h.nx]
   rw [this]
   exact ⟨_,hnew,by rw [hsize,hsz],by rw [hsize]; exact hfit⟩
  ·rw [if_neg hi]
   by_cases ht : i = tok
   ·left
    rw [if_pos ht]
    have : ((C.kill tok).push (.tok b e (hw + news.length) cap)).m i = none:=by
     rw [py,lT,mM,if_neg (by rw [h.nx]; exact hi),if_pos ht]
    rw [this]
    trivial
   ·right
    rw [if_neg ht]
    refine ⟨rfl,?_,fun ow how=>setRow_other w b _ _ (hne i ow ht how)⟩
    rw [py,lT,mM,if_neg (by rw [h.nx]; exact hi),if_neg ht]
 ·rcases hC id ow hi with ⟨_,rfl⟩ | ⟨_,t1,h1⟩
  ·rfl
  ·exact absurd he (hne id ow t1 h1)

theorem eY {t e : TypeId} {i : TypeInfo} (ht : P.underlying t = some (.slice e)) (hi : P.info? e = some i) (ty : TypeId) (b ad : Option Addr) (l c c' : Nat) (hl : l ≤ c) (w : World) :
  (Builtin.append_ #[t,t] ty #[.slice b l c,.slice ad 0 c']).run P w = .ok (.slice b l c) w:=by
 cases b <;> cases ad <;> simp [Builtin.append_,run_underlying ht,sizeOf,typeInfo,hi,Builtin.lenOf,hl,Builtin.firstCells,loadCells,loadCellsFrom,storeCells]

theorem Rel.qj {e : TypeId} {xs : List AV} {tok : Nat} {v : Value} (h : Rel P w C (.own e xs tok) [v]) : ∃ b cap cf,v = .slice (some ⟨b,0,none⟩) xs.length cap ∧ xs.length ≤ cap ∧ cap ≤ maxLen ∧ (∀ (i : Nat) (x : AV),xs[i]? = some x → Rel P w C x (cf i)) ∧
   (∀ i x,xs[i]? = some x → (cf i).length = ae P e ∧ fits P e x) ∧ eE w C (ae P e) (some ⟨b,0,none⟩) xs.length cf ∧ ∀ ow,C.m tok = some ow → ow = .tok b e (xs.length * ae P e) cap:=by
 cases h with
 | own cf h1 h2 h3 h4 h5 h6 h7=>exact ⟨_,_,cf,rfl,h1,h2,h3,h4,h5,h7⟩

theorem jN {e : TypeId} {i : TypeInfo} (h : P.info? e = some i) : bytesOf P e = i.bytes:=by simp [bytesOf,h]

theorem Bm (hr : eh P W0 o w C A a) {x y : Operand} {t u e : TypeId} {v z : AV} {xs ys : List AV} (ho : o.op = .call { callee:=.builtin .append,args:=#[x,y],argTypes:=#[t,u] })
  (hx : Is P W0 o A x v) (hy : Is P W0 o A y z) (ht : elT P t = some e) (hu : elT P u = some e) (he : 0 < ae P e) (hz0 : aZ P e = true) (hb : Bld A.st v e xs) (hys : dB A.st z e ys)
  (hbytes : (xs.length + ys.length) * bytesOf P e ≤ 140737488355328) (hmax : xs.length + ys.length ≤ maxLen) :
  ∃ r w' C' v' σ',(execOp a.eval o).run P w = .ok (.value r) w' ∧ App A.st v e (xs ++ ys) v' σ' ∧ Step w C w' C' ∧ aw P W0 w' C' σ' ∧ az P w' C' v' r:=by
 obtain ⟨inf,hinf,hsz⟩:=bh he
 have htu:=bF ht
 have hrun : ∀ b l c yv r w',(Builtin.append_ #[t,t] o.type #[.slice b l c,yv]).run P w = .ok r w' → a.eval x = .slice b l c → a.eval y = yv → (execOp a.eval o).run P w = .ok (.value r) w':=fun b l c yv r w' h h1 h2=>by
  rw [← eD htu (bF hu) hinf] at h
  simp [execOp,ho,resolve,invoke,builtin,h1,h2,h]
 have hxv:=hx w C a hr
 have hyv:=hy w C a hr
 obtain ⟨ady,capy,cfy,hye,y3,y4,y5⟩:=hys.cells hr.st hyv
 obtain ⟨bx,cx,hxe,hlx⟩ : ∃ b c,a.eval x = .slice b xs.length c ∧ xs.length ≤ c:=by
  rcases hb with ⟨rfl,rfl⟩ | rfl | ⟨tok,rfl,_⟩
  ·exact ⟨none,0,hxv.cR,Nat.le_refl _⟩
  ·have:=hxv.aA rfl
   generalize a.eval x = v at this
   cases this with
   | lit=>exact ⟨_,_,rfl,Nat.le_refl _⟩
  ·obtain ⟨b,cap,cf,h1,h2,_⟩:=(hxv.aA rfl).qj
   exact ⟨_,_,h1,h2⟩
 cases hyl : ys with
 | nil =>
  subst hyl
  refine ⟨_,w,C,v,A.st,hrun _ _ _ _ _ _ (eY htu hinf _ _ _ _ _ _ hlx w) hxe hye,⟨by simpa using hb,Nat.le_refl _,fun _ _ _=>rfl,.inl rfl⟩,.refl _ _,hr.st,by rw [← hxe]; exact hxv⟩
 | cons y0 yr =>
  rw [← hyl]
  have hpos : 0 < ys.length:=by simp [hyl]
  obtain ⟨by_,oy,rfl,news,n1,n2,n3,n4⟩:=y5 hpos
  have n2' : ∀ j u,news[j]? = some u → w.cell? ((⟨by_,oy,none⟩ : Addr).add j) = some u:=fun j u hj=>by rw [Addr.add_lit]; exact n2 j u hj
  obtain ⟨inf',z0,hinf',hiz,hzs⟩:=eC hz0
  obtain rfl : inf' = inf:=by rw [hinf] at hinf'; exact (Option.some.inj hinf').symm
  have hmax' : xs.length + ys.length ≤ 9223372036854775807:=by unfold maxLen at hmax; omega
  rw [jN hinf] at hbytes
  rcases hb with ⟨rfl,rfl⟩ | rfl | ⟨tok,rfl,htok⟩
  ·-- a nil slice
   simp only [List.length_nil,Nat.zero_add] at hbytes hmax hmax'
   have hxe':=hxv.cR
   have hap:=run_append_nil (P:=P) w t o.type e inf' z0 htu hinf hiz ⟨by_,oy,none⟩ ys.length capy news (by rw [n1,hsz]) n2' hpos (by omega) (by omega)
   have hge:=grownCap_ge w ys.length 0 e
   have hcap:=grownCap_le_maxLen w ys.length 0 e hmax
   obtain ⟨C',g1,g2,g3⟩:=lK (P:=P) (W0:=W0) hr.st.drew (e:=e) (zs:=ys) (cap:=grownCap w ys.length 0 e) (arr:=news.toArray ++ Builtin.zeroCells z0.cells (grownCap w ys.length 0 e - ys.length)) (cf:=cfy) hge hcap
    (by simp only [Array.size_append,List.size_toArray,size_zeroCells,n1,hzs,← Nat.add_mul]; congr 1; omega)
    (fun i x hx=>⟨(y3 i x hx).mono (Step.drew w C),(y4 i x hx).1,(y4 i x hx).2,fun j u hj=>by
     have:=n4 i x hx j u hj
     rw [Array.getElem?_append_left (by simpa using (List.getElem?_eq_some_iff.1 this).1)]
     simpa using this⟩)
   refine ⟨_,_,C',_,_,hrun _ _ _ _ _ _ hap hxe' hye,⟨.inr (.inr ⟨_,rfl,by simp⟩),by simp,fun id hid _=>by rw [List.getElem?_append_left hid],.inr ⟨_,rfl,Nat.le_refl _⟩⟩,(Step.drew w C).trans g1,g2,g3⟩
  ·-- a list as long as its row
   obtain ⟨adx,capx,cfx,hxq,x1,x2,x3,x4,x5⟩:=(hxv.aA rfl).lf (.inr (.inl rfl))
   have hcx : capx = xs.length:=by
    have:=hxv.aA rfl
    rw [hxq] at this
    cases this
    rfl
   subst hcx
   have hlen : (xs ++ ys).length = xs.length + ys.length:=by simp
   have hgetl : ∀ i x,(xs ++ ys)[i]? = some x → (i < xs.length ∧ xs[i]? = some x) ∨ (xs.length ≤ i ∧ ys[i - xs.length]? = some x):=fun i x hx=>by
    by_cases hi : i < xs.length
    ·rw [List.getElem?_append_left hi] at hx; exact .inl ⟨hi,hx⟩
    ·rw [List.getElem?_append_right (by omega)] at hx; exact .inr ⟨by omega,hx⟩
   have hge:=grownCap_ge w (xs.length + ys.length) xs.length e
   have hcap:=grownCap_le_maxLen w (xs.length + ys.length) xs.length e hmax
   have fin : ∀ (olds : List Value),olds.length = xs.length * ae P e → (∀ i x,xs[i]? = some x → ∀ (j : Nat) (u : Value),(cfx i)[j]? = some u → olds[i * ae P e + j]? = some u) →
     (Builtin.append_ #[t,t] o.type #[.slice adx xs.length xs.length,a.eval y]).run P w = .ok (.slice (some ⟨w.heap.size,0,none⟩) (xs.length + ys.length) (grownCap w (xs.length + ys.length) xs.length e)) (w.drew.alloc (.cells (olds.toArray ++ news.toArray ++ Builtin.zeroCells z0.cells (grownCap w (xs.length + ys.length) xs.length e - (xs.length + ys.length))) e)) →
     ∃ r w' C' v' σ',(execOp a.eval o).run P w = .ok (.value r) w' ∧ App A.st (.lit e xs) e (xs ++ ys) v' σ' ∧ Step w C w' C' ∧ aw P W0 w' C' σ' ∧ az P w' C' v' r:=fun olds p1 p4 hap=>by
    obtain ⟨C',g1,g2,g3⟩:=lK (P:=P) (W0:=W0) hr.st.drew (e:=e) (zs:=xs ++ ys) (cap:=grownCap w (xs.length + ys.length) xs.length e)
     (arr:=olds.toArray ++ news.toArray ++ Builtin.zeroCells z0.cells (grownCap w (xs.length + ys.length) xs.length e - (xs.length + ys.length))) (cf:=fun i=>if i < xs.length then cfx i else cfy (i - xs.length)) (by rw [hlen]; exact hge) hcap
     (by simp only [Array.size_append,List.size_toArray,size_zeroCells,p1,n1,hzs,← Nat.add_mul]; congr 1; omega)
     (fun i x hx=>by
      rcases hgetl i x hx with ⟨hi,hx'⟩ | ⟨hi,hx'⟩
      ·simp only [hi,if_true]
       refine ⟨(x3 i x hx').mono (Step.drew w C),(x4 i x hx').1,(x4 i x hx').2,fun j u hj=>?_⟩
       have:=p4 i x hx' j u hj
       have hl:=(List.getElem?_eq_some_iff.1 this).1
       rw [Array.getElem?_append_left (by simp; omega),Array.getElem?_append_left (by simpa using hl)]
       simpa using this
      ·simp only [show ¬ i < xs.length by omega,if_false]
       refine ⟨(y3 _ x hx').mono (Step.drew w C),(y4 _ x hx').1,(y4 _ x hx').2,fun j u hj=>?_⟩
       have:=n4 _ x hx' j u hj
       have hl:=(List.getElem?_eq_some_iff.1 this).1
       have hmul : i * ae P e = xs.length * ae P e + (i - xs.length) * ae P e:=by rw [← Nat.add_mul]; congr 1; omega
       rw [Array.getElem?_append_left (by simp; omega),Array.getElem?_append_right (by simp; omega)]
       simp only [List.size_toArray,p1,List.getElem?_toArray]
       rw [show i * ae P e + j - xs.length * ae P e = (i - xs.length) * ae P e + j by omega]
       exact this)
    rw [hlen] at g3
    exact ⟨_,_,C',_,_,hrun _ _ _ _ _ _ hap hxq rfl,⟨.inr (.inr ⟨_,rfl,by simp⟩),by simp,fun id hid _=>by rw [List.getElem?_append_left hid],.inr ⟨_,rfl,Nat.le_refl _⟩⟩,(Step.drew w C).trans g1,g2,g3⟩
   rw [hye] at fin
   cases adx with
   | none =>
    have hx0 : xs = []:=by
     cases xs with
     | nil=>rfl
     | cons c r=>obtain ⟨b,off,e1,_⟩:=x5 (by simp); cases e1
    subst hx0
    simp only [List.length_nil,Nat.zero_add] at hbytes hmax hmax' fin
    have hap:=run_append_nil (P:=P) w t o.type e inf' z0 htu hinf hiz ⟨by_,oy,none⟩ ys.length capy news (by rw [n1,hsz]) n2' hpos (by omega) (by omega)
    exact fin [] (by simp) (by simp) (by simpa using hap)
   | some b0 =>
    have hcells : ∃ olds : List Value,olds.length = xs.length * ae P e ∧ (∀ (j : Nat) (u : Value),olds[j]? = some u → w.cell? (b0.add j) = some u) ∧ ∀ i x,xs[i]? = some x → ∀ (j : Nat) (u : Value),(cfx i)[j]? = some u → olds[i * ae P e + j]? = some u:=by
     by_cases hxl : xs = []
     ·subst hxl; exact ⟨[],by simp,by simp,by simp⟩
     ·have hxp : 0 < xs.length:=by cases xs with | nil=>exact absurd rfl hxl | cons=>simp
      obtain ⟨bx',ox',e1,x6⟩:=x5 hxp
      cases e1
      obtain ⟨olds,p1,p2,p3,p4⟩:=gh x3 x4 x6
      exact ⟨olds,p1,fun j u hj=>by rw [Addr.add_lit]; exact p2 j u hj,p4⟩
    obtain ⟨olds,p1,p2,p4⟩:=hcells
    exact fin olds p1 p4 (run_append_grow (P:=P) w t o.type e inf' z0 htu hinf hiz b0 xs.length xs.length olds (by rw [p1,hsz]) p2 ⟨by_,oy,none⟩ ys.length capy news (by rw [n1,hsz]) n2' (by omega) (by omega) (growslice_fits (by omega) hbytes))
  ·-- a row of the call's own
   obtain ⟨b,cap,cf,hxq,c1,c2,c3,c4,c5,c6⟩:=(hxv.aA rfl).qj
   obtain ⟨b',e',hw,cap',arr,t1,t2,t3,t4⟩:=hr.st.tok htok
   have t5:=c6 _ t1
   cases t5
   have htl : tok < A.st.length:=(List.getElem?_eq_some_iff.1 htok).1
   have hlen : (xs ++ ys).length = xs.length + ys.length:=by simp
   have hgetl : ∀ i x,(xs ++ ys)[i]? = some x → (i < xs.length ∧ xs[i]? = some x) ∨ (xs.length ≤ i ∧ ys[i - xs.length]? = some x):=fun i x hx=>by
    by_cases hi : i < xs.length
    ·rw [List.getElem?_append_left hi] at hx; exact .inl ⟨hi,hx⟩
    ·rw [List.getElem?_append_right (by omega)] at hx; exact .inr ⟨by omega,hx⟩
   have hxcells : ∀ (i : Nat) (x : AV),xs[i]? = some x → ∀ (j : Nat) (u : Value),(cf i)[j]? = some u → arr[i * ae P e + j]? = some u ∧ i * ae P e + j < xs.length * ae P e:=fun i x hx j u hj=>by
    have hi:=(List.getElem?_eq_some_iff.1 hx).1
    obtain ⟨b2,o2,e2,hc⟩:=c5 (by omega)
    cases e2
    have h1:=(hc i hi j u hj).1
    simp only [World.cell?,t2,Nat.zero_add,Option.isSome_none,Bool.false_eq_true,if_false] at h1
    have hjl : j < ae P e:=by rw [← (c4 i x hx).1]; exact (List.getElem?_eq_some_iff.1 hj).1
    have : (i + 1) * ae P e ≤ xs.length * ae P e:=Nat.mul_le_mul_right _ hi
    rw [Nat.succ_mul] at this
    exact ⟨h1,by omega⟩
   by_cases hroom : xs.length + ys.length ≤ cap
   ·-- in place
    have hfit : xs.length * ae P e + news.length ≤ arr.size:=by rw [n1,t3,← Nat.add_mul]; exact Nat.mul_le_mul_right _ hroom
    have hap:=run_append_room (P:=P) w t o.type e inf' htu hinf b xs.length cap arr t2 ⟨by_,oy,none⟩ ys.length capy news (by rw [n1,hsz]) n2' n3 hroom (by rw [hsz]; exact hfit)
    rw [hsz] at hap
    replace hap : _ = Result.ok _ (w.setRow b (ba arr (xs.length * ae P e) news)):=hap
    obtain ⟨C',g1,g2,g3,g4,g5⟩:=v8 hr.st htok t1 t2 t3 hfit
    have hnewcell : ∀ i,(w.setRow b (ba arr (xs.length * ae P e) news)).cell? ⟨b,i,none⟩ = (ba arr (xs.length * ae P e) news)[i]?:=fun i=>cell_setRow_same w b i arr _ e _ t2
    refine ⟨_,_,C',.own e (xs ++ ys) A.st.length,_,hrun _ _ _ _ _ _ hap hxq hye,⟨.inr (.inr ⟨_,rfl,by simp⟩),by simp,fun id hid hne=>?_,.inr ⟨_,rfl,Nat.le_refl _⟩⟩,g1,g2,?_⟩
    ·rw [List.getElem?_append_left (by simpa using hid),List.getElem?_set_ne (fun e=>hne (by simp [ef,e]))]
    ·rw [← hlen]
     refine .one rfl (.own (fun i=>if i < xs.length then cf i else cfy (i - xs.length)) (by rw [hlen]; exact hroom) c2 (fun i x hx=>?_) (fun i x hx=>?_) (fun _=>⟨b,0,rfl,fun i hi j u hj=>?_⟩) (by rw [g3]; omega) (fun ow how=>?_))
     ·rcases hgetl i x hx with ⟨hi,hx'⟩ | ⟨hi,hx'⟩
      ·rw [if_pos hi]; exact (c3 i x hx').mono g1
      ·rw [if_neg (by omega)]; exact (y3 _ x hx').mono g1
     ·rcases hgetl i x hx with ⟨hi,hx'⟩ | ⟨hi,hx'⟩
      ·simp only [hi,if_true]; exact c4 i x hx'
      ·simp only [show ¬ i < xs.length by omega,if_false]; exact y4 _ x hx'
     ·have hst : ∀ k,k < xs.length * ae P e + news.length → ec (w.setRow b (ba arr (xs.length * ae P e) news)) C' b k:=fun k hk =>
       ⟨by simpa using (Array.getElem?_eq_some_iff.1 t2).1,fun id ow hm hbk=>⟨_,_,_,g5 id ow hm hbk,hk⟩⟩
      rw [hnewcell,Nat.zero_add,bg hfit]
      by_cases hix : i < xs.length
      ·simp only [hix,if_true] at hj
       obtain ⟨q1,q2⟩:=hxcells i _ (List.getElem?_eq_getElem hix) j u hj
       rw [if_neg (by omega)]
       exact ⟨q1,hst _ (by omega)⟩
      ·simp only [hix,if_false] at hj
       rw [hlen] at hi
       have hyi:=List.getElem?_eq_getElem (show i - xs.length < ys.length by omega)
       have hnw:=n4 _ _ hyi j u hj
       have hnl:=(List.getElem?_eq_some_iff.1 hnw).1
       have hmul : i * ae P e = xs.length * ae P e + (i - xs.length) * ae P e:=by rw [← Nat.add_mul]; congr 1; omega
       rw [if_pos (by omega),show i * ae P e + j - xs.length * ae P e = (i - xs.length) * ae P e + j by omega]
       exact ⟨hnw,hst _ (by omega)⟩
     ·rw [g4] at how
      cases how
      rw [n1,hlen,Nat.add_mul]
   ·-- a new row
    obtain ⟨olds,p1,p2,p3,p4⟩:=gh (P:=P) (e:=e) (b:=b) (off:=0) c3 c4 (fun i hi=>by
     obtain ⟨b2,o2,e2,hc⟩:=c5 (by omega)
     cases e2
     exact hc i hi)
    have hap:=run_append_grow (P:=P) w t o.type e inf' z0 htu hinf hiz ⟨b,0,none⟩ xs.length cap olds (by rw [p1,hsz]) (fun j u hj=>by rw [Addr.add_lit]; exact p2 j u hj) ⟨by_,oy,none⟩ ys.length capy news (by rw [n1,hsz]) n2' (by omega) (by omega) (growslice_fits (by omega) hbytes)
    have hge:=grownCap_ge w (xs.length + ys.length) cap e
    have hcap:=grownCap_le_maxLen w (xs.length + ys.length) cap e hmax
    obtain ⟨k1,k2⟩:=hr.st.kill tok htl
    obtain ⟨C',g1,g2,g3⟩:=lK (P:=P) (W0:=W0) k2.drew (e:=e) (zs:=xs ++ ys) (cap:=grownCap w (xs.length + ys.length) cap e)
     (arr:=olds.toArray ++ news.toArray ++ Builtin.zeroCells z0.cells (grownCap w (xs.length + ys.length) cap e - (xs.length + ys.length))) (cf:=fun i=>if i < xs.length then cf i else cfy (i - xs.length)) (by rw [hlen]; exact hge) hcap
     (by simp only [Array.size_append,List.size_toArray,size_zeroCells,p1,n1,hzs,← Nat.add_mul]; congr 1; omega)
     (fun i x hx=>by
      have hs:=k1.trans (Step.drew w _)
      rcases hgetl i x hx with ⟨hi,hx'⟩ | ⟨hi,hx'⟩
      ·simp only [hi,if_true]
       refine ⟨(c3 i x hx').mono hs,(c4 i x hx').1,(c4 i x hx').2,fun j u hj=>?_⟩
       have:=p4 i x hx' j u hj
       have hl:=(List.getElem?_eq_some_iff.1 this).1
       rw [Array.getElem?_append_left (by simp; omega),Array.getElem?_append_left (by simpa using hl)]
       simpa using this
      ·simp only [show ¬ i < xs.length by omega,if_false]
       refine ⟨(y3 _ x hx').mono hs,(y4 _ x hx').1,(y4 _ x hx').2,fun j u hj=>?_⟩
       have:=n4 _ x hx' j u hj
       have hl:=(List.getElem?_eq_some_iff.1 this).1
       have hmul : i * ae P e = xs.length * ae P e + (i - xs.length) * ae P e:=by rw [← Nat.add_mul]; congr 1; omega
       rw [Array.getElem?_append_left (by simp; omega),Array.getElem?_append_right (by simp; omega)]
       simp only [List.size_toArray,p1,List.getElem?_toArray]
       rw [show i * ae P e + j - xs.length * ae P e = (i - xs.length) * ae P e + j by omega]
       exact this)
    rw [hlen] at g3
    rw [List.length_set] at g3
    refine ⟨_,_,C',_,_,hrun _ _ _ _ _ _ hap hxq hye,⟨.inr (.inr ⟨A.st.length,rfl,by simp⟩),by simp,fun id hid hne=>?_,.inr ⟨_,rfl,Nat.le_refl _⟩⟩,(k1.trans (Step.drew w _)).trans g1,g2,g3⟩
    rw [List.getElem?_append_left (by simpa using hid),List.getElem?_set_ne (fun e=>hne (by simp [ef,e]))]
end
end Go.Av
end
section
namespace Go.Av
open Go

section
variable {P : Program} {W0 w w' : World} {C C' : Ctx} {σ σ' : ab} {n : Nat} {A : aa} {a : Act} {o : Oper}

theorem eP (w : World) (t ty e : TypeId) (i : TypeInfo) (ht : P.underlying t = some (.slice e)) (hi : P.info? e = some i)
  (g off sLen sCap : Nat) (te : TypeId) (fr : Nat × Nat) (cur : Array Value) (hg : w.heap[g]? = some (.cells cur te fr)) (hfr : qd fr cur.size)
  (a : Addr) (m c : Nat) (news : List Value) (hl : news.length = m * i.size) (hnews : ∀ j u,news[j]? = some u → w.cell? (a.add j) = some u) (h1 : ∀ u ∈ news,u.oneCell' = true)
  (hroom : sLen + m ≤ sCap) (hfit : off + sLen * i.size + news.length ≤ cur.size) :
  (Builtin.append_ #[t,t] ty #[.slice (some ⟨g,off,none⟩) sLen sCap,.slice (some a) m c]).run P w =
   .ok (.slice (some ⟨g,off,none⟩) (sLen + m) sCap) (w.setRow g (ba cur (off + sLen * i.size) news)):=by
 have hf:=run_firstCells_some (P:=P) w i.size m a m c news hl hnews
 have hst:=dK P g (off + sLen * i.size) te fr news 0 cur w hg hfr (by simpa using hfit) h1
 simp only [Nat.add_zero] at hst
 simp [Builtin.append_,run_underlying ht,sizeOf,typeInfo,hi,Builtin.lenOf,hroom,hf,Addr.add_lit,hst,ba]

theorem rz (h : aw P W0 w C σ) {e : TypeId} {zs : List AV} {cap : Nat} {arr : Array Value} {cf : Nat → List Value} (hl : zs.length ≤ cap) (hc : cap ≤ maxLen) (hs : arr.size = cap * ae P e)
  (hz : ∀ i x,zs[i]? = some x → Rel P w C x (cf i) ∧ (cf i).length = ae P e ∧ fits P e x ∧ ∀ (j : Nat) (u : Value),(cf i)[j]? = some u → arr[i * ae P e + j]? = some u) :
  ∃ C',Step w C (w.alloc (.cells arr e)) C' ∧ aw P W0 (w.alloc (.cells arr e)) C' (σ ++ [some (.cells e zs)]) ∧ az P (w.alloc (.cells arr e)) C' (.row e σ.length 0 zs.length) (.slice (some ⟨w.heap.size,0,none⟩) zs.length cap) ∧ C'.m σ.length = some (.obj w.heap.size e 0 arr.size):=by
 have hhw : zs.length * ae P e ≤ arr.size:=by rw [hs]; exact Nat.mul_le_mul_right _ hl
 obtain ⟨h1,h2⟩:=h.push (ob:=.cells arr e) (ow:=.obj w.heap.size e 0 arr.size) (so:=.cells e zs) rfl
  ⟨rfl,arr,e,(0,0),heap_alloc_new w _,.inl rfl,rfl,by simpa using hhw,cf,fun i x hx=>by
   obtain ⟨g1,g2,g3,g4⟩:=hz i x hx
   exact ⟨g1.mono (lP _ rfl),g2,g3,fun j c hj=>by rw [Nat.zero_add]; exact g4 j c hj⟩⟩
 refine ⟨_,h1,h2,.one rfl (.row hl hc (by simp [Ctx.push,h.nx]) (fun ow how=>?_)),by simp [Ctx.push,h.nx]⟩
 simp only [Ctx.push,h.nx,if_true,Option.some.injEq] at how
 subst how
 exact ⟨_,0,_,rfl,fun _=>by simp,by simp [hs]⟩

theorem je (h : aw P W0 w C σ) {e : TypeId} {zs : List AV} {cap : Nat} {arr : Array Value} {cf : Nat → List Value} (hl : zs.length ≤ cap) (hc : cap ≤ maxLen) (hs : arr.size = cap * ae P e)
  (hz : ∀ i x,zs[i]? = some x → Rel P w C x (cf i) ∧ (cf i).length = ae P e ∧ fits P e x ∧ ∀ (j : Nat) (u : Value),(cf i)[j]? = some u → arr[i * ae P e + j]? = some u) :
  ∃ C',Step w C (w.alloc (.cells arr e)) C' ∧ aw P W0 (w.alloc (.cells arr e)) C' (σ ++ [some (.cells e zs)]) ∧ az P (w.alloc (.cells arr e)) C' (.row e σ.length 0 zs.length) (.slice (some ⟨w.heap.size,0,none⟩) zs.length cap):=by
 obtain ⟨C',h1,h2,h3,_⟩:=rz (P:=P) h hl hc hs hz
 exact ⟨C',h1,h2,h3⟩

theorem D9 (h : aw P W0 w C σ) {id b base base' room : Nat} {fr : Nat × Nat} {e t' : TypeId} {xs zs : List AV} {arr arr' : Array Value} {cf : Nat → List Value} (hs : σ[id]? = some (some (.cells e xs))) (hm : C.m id = some (.obj b e base room)) (hb : w.heap[b]? = some (.cells arr t' fr)) (hf : qd fr arr.size)
  (hsz : arr.size = room) (hsize : arr'.size = arr.size) (hfit : base' + zs.length * ae P e ≤ room)
  (hz : ∀ i x,zs[i]? = some x → Rel P w C x (cf i) ∧ (cf i).length = ae P e ∧ fits P e x ∧ ∀ (j : Nat) (u : Value),(cf i)[j]? = some u → arr'[base' + i * ae P e + j]? = some u) :
  ∃ C',Step w C (w.setRow b arr') C' ∧ aw P W0 (w.setRow b arr') C' (σ.set id none ++ [some (.cells e zs)]) ∧ C'.nx = σ.length + 1 ∧ C'.m σ.length = some (.obj b e base' room):=by
 have htl : id < σ.length:=(List.getElem?_eq_some_iff.1 hs).1
 have hnew : (w.setRow b arr').heap[b]? = some (.cells arr' t' fr):=setRow_heap w b arr _ t' _ hb
 have hC : ∀ i ow,((C.kill id).push (.obj b e base' room)).m i = some ow → (i = C.nx ∧ ow = .obj b e base' room) ∨ (i ≠ C.nx ∧ i ≠ id ∧ C.m i = some ow):=fun i ow hi=>by
  rw [py,lT,mM] at hi
  split at hi
  ·rename_i he; cases hi; exact .inl ⟨he,rfl⟩
  ·rename_i he
   split at hi
   ·cases hi
   ·rename_i ht; exact .inr ⟨he,ht,hi⟩
 have hne : ∀ i ow,i ≠ id → C.m i = some ow → ow.blk ≠ b:=fun i ow hi hm' he=>hi (h.inj i id ow _ hm' hm (by simpa [Own.blk] using he))
 have hstep : Step w C (w.setRow b arr') ((C.kill id).push (.obj b e base' room)):=by
  refine ⟨by simp [Ctx.push,Ctx.kill],fun i ow hid hi=>?_,fun b' i hst=>?_,rfl,rfl,rfl,by simp,fun b' hlt hn=>?_⟩
  ·rcases hC i ow hi with ⟨e1,_⟩ | ⟨_,_,h'⟩
   ·omega
   ·exact h'
  ·have hbb : b' ≠ b:=fun e1=>by
    obtain ⟨_,_,_,e2,_⟩:=hst.2 id _ hm (by simp [Own.blk,e1])
    cases e2
   refine ⟨cell_setRow_other w b _ ⟨b',i,none⟩ hbb,by simpa using hst.1,fun i' ow hi he=>?_⟩
   rcases hC i' ow hi with ⟨_,rfl⟩ | ⟨_,_,h'⟩
   ·exact absurd he (fun e1=>hbb e1.symm)
   ·exact hst.2 i' ow h' he
  ·refine ⟨setRow_other w b b' _ (fun e1=>hn id _ hm (by simp [Own.blk,e1])),fun i ow hi=>?_⟩
   rcases hC i ow hi with ⟨_,rfl⟩ | ⟨_,_,h'⟩
   ·intro he; exact hn id _ hm he
   ·exact hn i ow h'
 refine ⟨_,hstep,h.change hstep (fun i ow hi=>?_) (by simp [Ctx.push,Ctx.kill,h.nx]) (fun i j x y hi hj he=>?_) (fun i ow hi=>?_) (fun i=>?_),by simp [Ctx.push,Ctx.kill,h.nx],by simp [Ctx.push,Ctx.kill,h.nx]⟩
 ·rcases hC i ow hi with ⟨_,rfl⟩ | ⟨_,_,h'⟩
  ·exact h.low id (.obj b e base room) hm
  ·exact h.low i ow h'
 ·rcases hC i x hi with ⟨e1,rfl⟩ | ⟨e1,t1,h1⟩
  ·rcases hC j y hj with ⟨e2,rfl⟩ | ⟨e2,t2,h2⟩
   ·omega
   ·exact absurd he.symm (hne j y t2 h2)
  ·rcases hC j y hj with ⟨e2,rfl⟩ | ⟨e2,t2,h2⟩
   ·exact absurd he (hne i x t1 h1)
   ·exact h.inj i j x y h1 h2 he
 ·simp only [Ctx.push,Ctx.kill]
  rcases hC i ow hi with ⟨e1,_⟩ | ⟨_,_,h1⟩
  ·omega
  ·have:=h.dom i ow h1; omega
 ·rw [o7,List.length_set,im _ _ _ _ htl]
  by_cases hi : i = σ.length
  ·left
   rw [if_pos hi]
   have : ((C.kill id).push (.obj b e base' room)).m i = some (.obj b e base' room):=by simp [Ctx.push,Ctx.kill,hi,h.nx]
   rw [this]
   refine ⟨rfl,_,t',fr,hnew,by rw [hsize]; exact hf,by rw [hsize,hsz],hfit,cf,fun q x hx=>?_⟩
   obtain ⟨g1,g2,g3,g4⟩:=hz q x hx
   exact ⟨g1.mono hstep,g2,g3,g4⟩
  ·rw [if_neg hi]
   by_cases ht : i = id
   ·left
    rw [if_pos ht]
    have : ((C.kill id).push (.obj b e base' room)).m i = none:=by
     rw [py,lT,mM,if_neg (by rw [h.nx]; exact hi),if_pos ht]
    rw [this]
    trivial
   ·right
    rw [if_neg ht]
    refine ⟨rfl,?_,fun ow how=>setRow_other w b _ _ (hne i ow ht how)⟩
    rw [py,lT,mM,if_neg (by rw [h.nx]; exact hi),if_neg ht]

theorem vn (hr : eh P W0 o w C A a) {x y : Operand} {t u e : TypeId} {v z : AV} {xs ys : List AV} (ho : o.op = .call { callee:=.builtin .append,args:=#[x,y],argTypes:=#[t,u] })
  (hx : Is P W0 o A x v) (hy : Is P W0 o A y z) (ht : elT P t = some e) (hu : elT P u = some e) (he : 0 < ae P e) (hz0 : aZ P e = true) (hb : c7 A.st v e xs) (hys : dB A.st z e ys)
  (hbytes : (xs.length + ys.length) * bytesOf P e ≤ 140737488355328) (hmax : xs.length + ys.length ≤ maxLen) :
  ∃ r w' C' v' σ',(execOp a.eval o).run P w = .ok (.value r) w' ∧ ((ys = [] ∧ v' = v ∧ σ' = A.st) ∨ (ys ≠ [] ∧ v' = .row e A.st.length 0 (xs.length + ys.length) ∧ σ' = bY v A.st ++ [some (.cells e (xs ++ ys))])) ∧ Step w C w' C' ∧ aw P W0 w' C' σ' ∧ az P w' C' v' r:=by
 obtain ⟨inf,hinf,hsz⟩:=bh he
 have htu:=bF ht
 have hrun : ∀ b l c yv r w',(Builtin.append_ #[t,t] o.type #[.slice b l c,yv]).run P w = .ok r w' → a.eval x = .slice b l c → a.eval y = yv → (execOp a.eval o).run P w = .ok (.value r) w':=fun b l c yv r w' h h1 h2=>by
  rw [← eD htu (bF hu) hinf] at h
  simp [execOp,ho,resolve,invoke,builtin,h1,h2,h]
 have hxv:=hx w C a hr
 have hyv:=hy w C a hr
 obtain ⟨ady,capy,cfy,hye,y3,y4,y5⟩:=hys.cells hr.st hyv
 obtain ⟨bx,cx,hxe,hlx⟩ : ∃ b c,a.eval x = .slice b xs.length c ∧ xs.length ≤ c:=by
  rcases hb with ⟨rfl,rfl⟩ | rfl | ⟨id,off,m,zs,rfl,hs,hm,rfl⟩
  ·exact ⟨none,0,hxv.cR,Nat.le_refl _⟩
  ·have:=hxv.aA rfl
   cases hev : a.eval x <;> (rw [hev] at this; cases this)
   exact ⟨_,_,rfl,Nat.le_refl _⟩
  ·obtain ⟨ad,cap,cf,hve,g1,_⟩:=pd hr.st hxv hs hm
   have hlen : ((zs.drop off).take m).length = m:=by simp; omega
   rw [hlen]
   exact ⟨_,_,hve,g1⟩
 by_cases hyl : ys = []
 ·subst hyl
  exact ⟨_,w,C,v,A.st,hrun _ _ _ _ _ _ (eY htu hinf _ _ _ _ _ _ hlx w) hxe hye,.inl ⟨rfl,rfl,rfl⟩,.refl _ _,hr.st,by rw [← hxe]; exact hxv⟩
 have hpos : 0 < ys.length:=by cases ys with | nil=>exact absurd rfl hyl | cons=>simp
 obtain ⟨by_,oy,rfl,news,n1,n2,n3,n4⟩:=y5 hpos
 have n2' : ∀ j u,news[j]? = some u → w.cell? ((⟨by_,oy,none⟩ : Addr).add j) = some u:=fun j u hj=>by rw [Addr.add_lit]; exact n2 j u hj
 obtain ⟨inf',z0,hinf',hiz,hzs⟩:=eC hz0
 obtain rfl : inf' = inf:=by rw [hinf] at hinf'; exact (Option.some.inj hinf').symm
 have hmax' : xs.length + ys.length ≤ 9223372036854775807:=by unfold maxLen at hmax; omega
 rw [jN hinf] at hbytes
 have hlen : (xs ++ ys).length = xs.length + ys.length:=by simp
 have hgetl : ∀ i x,(xs ++ ys)[i]? = some x → (i < xs.length ∧ xs[i]? = some x) ∨ (xs.length ≤ i ∧ ys[i - xs.length]? = some x):=fun i x hx=>by
  by_cases hi : i < xs.length
  ·rw [List.getElem?_append_left hi] at hx; exact .inl ⟨hi,hx⟩
  ·rw [List.getElem?_append_right (by omega)] at hx; exact .inr ⟨by omega,hx⟩
 have fresh : ∀ (C1 : Ctx) (σ1 : ab) (b : Addr) (cap : Nat) (olds : List Value) (cf : Nat → List Value),Step w C w C1 → aw P W0 w C1 σ1 → σ1.length = A.st.length → a.eval x = .slice (some b) xs.length cap → cap < xs.length + ys.length →
   olds.length = xs.length * ae P e → (∀ j u,olds[j]? = some u → w.cell? (b.add j) = some u) → (∀ (i : Nat) (x : AV),xs[i]? = some x → Rel P w C x (cf i)) → (∀ i x,xs[i]? = some x → (cf i).length = ae P e ∧ fits P e x) →
   (∀ i x,xs[i]? = some x → ∀ (j : Nat) (u : Value),(cf i)[j]? = some u → olds[i * ae P e + j]? = some u) →
   ∃ r w' C',(execOp a.eval o).run P w = .ok (.value r) w' ∧ Step w C w' C' ∧ aw P W0 w' C' (σ1 ++ [some (.cells e (xs ++ ys))]) ∧ az P w' C' (.row e A.st.length 0 (xs.length + ys.length)) r:=fun C1 σ1 b cap olds cf k1 k2 hl1 hxq hroom p1 p2 c3 c4 p4=>by
  have hap:=run_append_grow (P:=P) w t o.type e inf' z0 htu hinf hiz b xs.length cap olds (by rw [p1,hsz]) p2 ⟨by_,oy,none⟩ ys.length capy news (by rw [n1,hsz]) n2' hroom (by omega) (growslice_fits hroom hbytes)
  have hge:=grownCap_ge w (xs.length + ys.length) cap e
  have hcap:=grownCap_le_maxLen w (xs.length + ys.length) cap e hmax
  obtain ⟨C',g1,g2,g3⟩:=je (P:=P) (W0:=W0) k2.drew (e:=e) (zs:=xs ++ ys) (cap:=grownCap w (xs.length + ys.length) cap e)
   (arr:=olds.toArray ++ news.toArray ++ Builtin.zeroCells z0.cells (grownCap w (xs.length + ys.length) cap e - (xs.length + ys.length))) (cf:=fun i=>if i < xs.length then cf i else cfy (i - xs.length)) (by rw [hlen]; exact hge) hcap
   (by simp only [Array.size_append,List.size_toArray,size_zeroCells,p1,n1,hzs,← Nat.add_mul]; congr 1; omega)
   (fun i x hx=>by
    have hs:=k1.trans (Step.drew w _)
    rcases hgetl i x hx with ⟨hi,hx'⟩ | ⟨hi,hx'⟩
    ·simp only [hi,if_true]
     refine ⟨(c3 i x hx').mono hs,(c4 i x hx').1,(c4 i x hx').2,fun j u hj=>?_⟩
     have:=p4 i x hx' j u hj
     have hl:=(List.getElem?_eq_some_iff.1 this).1
     rw [Array.getElem?_append_left (by simp; omega),Array.getElem?_append_left (by simpa using hl)]
     simpa using this
    ·simp only [show ¬ i < xs.length by omega,if_false]
     refine ⟨(y3 _ x hx').mono hs,(y4 _ x hx').1,(y4 _ x hx').2,fun j u hj=>?_⟩
     have:=n4 _ x hx' j u hj
     have hl:=(List.getElem?_eq_some_iff.1 this).1
     have hmul : i * ae P e = xs.length * ae P e + (i - xs.length) * ae P e:=by rw [← Nat.add_mul]; congr 1; omega
     rw [Array.getElem?_append_left (by simp; omega),Array.getElem?_append_right (by simp; omega)]
     simp only [List.size_toArray,p1,List.getElem?_toArray]
     rw [show i * ae P e + j - xs.length * ae P e = (i - xs.length) * ae P e + j by omega]
     exact this)
  rw [hlen,hl1] at g3
  exact ⟨_,_,C',hrun _ _ _ _ _ _ hap hxq hye,(k1.trans (Step.drew w _)).trans g1,g2,g3⟩
 rcases hb with ⟨rfl,rfl⟩ | rfl | ⟨id,off,m,zs,rfl,hs,hm,rfl⟩
 ·simp only [List.length_nil,Nat.zero_add] at hbytes hmax hmax'
  have hxe':=hxv.cR
  have hap:=run_append_nil (P:=P) w t o.type e inf' z0 htu hinf hiz ⟨by_,oy,none⟩ ys.length capy news (by rw [n1,hsz]) n2' hpos (by omega) (by omega)
  have hge:=grownCap_ge w ys.length 0 e
  have hcap:=grownCap_le_maxLen w ys.length 0 e hmax
  obtain ⟨C',g1,g2,g3⟩:=je (P:=P) (W0:=W0) hr.st.drew (e:=e) (zs:=ys) (cap:=grownCap w ys.length 0 e) (arr:=news.toArray ++ Builtin.zeroCells z0.cells (grownCap w ys.length 0 e - ys.length)) (cf:=cfy) hge hcap
   (by simp only [Array.size_append,List.size_toArray,size_zeroCells,n1,hzs,← Nat.add_mul]; congr 1; omega)
   (fun i x hx=>⟨(y3 i x hx).mono (Step.drew w C),(y4 i x hx).1,(y4 i x hx).2,fun j u hj=>by
    have:=n4 i x hx j u hj
    rw [Array.getElem?_append_left (by simpa using (List.getElem?_eq_some_iff.1 this).1)]
    simpa using this⟩)
  exact ⟨_,_,C',_,_,hrun _ _ _ _ _ _ hap hxe' hye,.inr ⟨hyl,rfl,rfl⟩,(Step.drew w C).trans g1,by simpa [bY] using g2,by simpa using g3⟩
 ·obtain ⟨ad,capx,cfx,hxq,x1,x2,x3,x4,x5⟩:=(hxv.aA rfl).lf (.inr (.inl rfl))
  have hcx : capx = xs.length:=by
   have:=hxv.aA rfl
   rw [hxq] at this
   cases this
   rfl
  subst hcx
  by_cases hxl : xs = []
  ·subst hxl
   simp only [List.length_nil,Nat.zero_add] at hbytes hmax hmax'
   cases ad with
   | none =>
    have hap:=run_append_nil (P:=P) w t o.type e inf' z0 htu hinf hiz ⟨by_,oy,none⟩ ys.length capy news (by rw [n1,hsz]) n2' hpos (by omega) (by omega)
    have hge:=grownCap_ge w ys.length 0 e
    have hcap:=grownCap_le_maxLen w ys.length 0 e hmax
    obtain ⟨C',g1,g2,g3⟩:=je (P:=P) (W0:=W0) hr.st.drew (e:=e) (zs:=ys) (cap:=grownCap w ys.length 0 e) (arr:=news.toArray ++ Builtin.zeroCells z0.cells (grownCap w ys.length 0 e - ys.length)) (cf:=cfy) hge hcap
     (by simp only [Array.size_append,List.size_toArray,size_zeroCells,n1,hzs,← Nat.add_mul]; congr 1; omega)
     (fun i x hx=>⟨(y3 i x hx).mono (Step.drew w C),(y4 i x hx).1,(y4 i x hx).2,fun j u hj=>by
      have:=n4 i x hx j u hj
      rw [Array.getElem?_append_left (by simpa using (List.getElem?_eq_some_iff.1 this).1)]
      simpa using this⟩)
    exact ⟨_,_,C',_,_,hrun _ _ _ _ _ _ hap hxq hye,.inr ⟨hyl,rfl,rfl⟩,(Step.drew w C).trans g1,by simpa [bY] using g2,by simpa using g3⟩
   | some b =>
    obtain ⟨r,w',C',g0,g1,g2,g3⟩:=fresh C A.st b 0 [] cfx (.refl _ _) hr.st rfl hxq (by simpa using hpos) (by simp) (by simp) x3 x4 (by simp)
    exact ⟨r,w',C',_,_,g0,.inr ⟨hyl,rfl,rfl⟩,g1,g2,g3⟩
  ·have hxp : 0 < xs.length:=by cases xs with | nil=>exact absurd rfl hxl | cons=>simp
   obtain ⟨bx',ox',rfl,x6⟩:=x5 hxp
   obtain ⟨olds,p1,p2,p3,p4⟩:=gh x3 x4 x6
   obtain ⟨r,w',C',g0,g1,g2,g3⟩:=fresh C A.st ⟨bx',ox',none⟩ xs.length olds cfx (.refl _ _) hr.st rfl hxq (by omega) p1 (fun j u hj=>by rw [Addr.add_lit]; exact p2 j u hj) x3 x4 p4
   exact ⟨r,w',C',_,_,g0,.inr ⟨hyl,rfl,rfl⟩,g1,g2,g3⟩
 ·obtain ⟨ad,cap,cf,hxq,g1,g2,_,c3,c4,b,base,room,arr,t',fr,m1,m2,mf,m3,g5,g6,g7⟩:=pd hr.st hxv hs hm
  have hlm : ((zs.drop off).take m).length = m:=by simp; omega
  have hidl : id < A.st.length:=(List.getElem?_eq_some_iff.1 hs).1
  generalize hxs : (zs.drop off).take m = xs at *
  by_cases hroom : xs.length + ys.length ≤ cap
  ·-- in place
   obtain rfl:=g5 (by omega)
   have hfit : base + off * ae P e + xs.length * ae P e + news.length ≤ arr.size:=by
    rw [n1,m3,Nat.add_assoc,Nat.add_assoc,← Nat.add_mul,← Nat.add_mul]
    exact Nat.le_trans (Nat.add_le_add_left (Nat.mul_le_mul_right _ (by omega)) _) (Nat.le_of_eq g6)
   have hap:=eP (P:=P) w t o.type e inf' htu hinf b (base + off * ae P e) xs.length cap t' fr arr m2 mf ⟨by_,oy,none⟩ ys.length capy news (by rw [n1,hsz]) n2' n3 hroom (by rw [hsz]; exact hfit)
   rw [hsz] at hap
   have hsize : (ba arr (base + off * ae P e + xs.length * ae P e) news).size = arr.size:=cO hfit
   obtain ⟨C',k1,k2,k3,k4⟩:=D9 hr.st (base':=base + off * ae P e) (zs:=xs ++ ys) (cf:=fun i=>if i < xs.length then cf i else cfy (i - xs.length)) hs m1 m2 mf m3 hsize (by
     rw [hlen,Nat.add_assoc,← Nat.add_mul]
     exact Nat.le_trans (Nat.add_le_add_left (Nat.mul_le_mul_right _ (by omega)) _) (Nat.le_of_eq g6)) (fun i x hx=>by
    rcases hgetl i x hx with ⟨hi,hx'⟩ | ⟨hi,hx'⟩
    ·simp only [hi,if_true]
     refine ⟨c3 i x hx',(c4 i x hx').1,(c4 i x hx').2,fun j u hj=>?_⟩
     have hjl : j < ae P e:=by rw [← (c4 i x hx').1]; exact (List.getElem?_eq_some_iff.1 hj).1
     have h5 : (i + 1) * ae P e ≤ xs.length * ae P e:=Nat.mul_le_mul_right _ hi
     rw [Nat.succ_mul] at h5
     rw [Nat.add_assoc (base + off * ae P e),bg hfit,if_neg (by omega)]
     have:=g7 i x hx' j u hj
     rwa [show base + off * ae P e + i * ae P e + j = base + off * ae P e + (i * ae P e + j) by omega] at this
    ·simp only [show ¬ i < xs.length by omega,if_false]
     refine ⟨y3 _ x hx',(y4 _ x hx').1,(y4 _ x hx').2,fun j u hj=>?_⟩
     have:=n4 _ x hx' j u hj
     have hl:=(List.getElem?_eq_some_iff.1 this).1
     have hmul : i * ae P e = xs.length * ae P e + (i - xs.length) * ae P e:=by rw [← Nat.add_mul]; congr 1; omega
     rw [Nat.add_assoc (base + off * ae P e),bg hfit,if_pos (by omega),show base + off * ae P e + (i * ae P e + j) - (base + off * ae P e + xs.length * ae P e) = (i - xs.length) * ae P e + j by omega]
     exact this)
   refine ⟨_,_,C',_,_,hrun _ _ _ _ _ _ hap (by rw [hxq,hlm]) hye,.inr ⟨hyl,rfl,rfl⟩,k1,k2,.one rfl (.row hroom g2 (by omega) (fun ow how=>?_))⟩
   rw [k4] at how
   cases how
   refine ⟨b,base + off * ae P e,room,rfl,fun _=>by simp,?_⟩
   rw [Nat.zero_add,Nat.add_assoc,← Nat.add_mul]
   exact g6
  ·obtain ⟨k1,k2⟩:=hr.st.kill id hidl
   cases ad with
   | none =>
    have hc0 : cap = 0:=by
     rcases Nat.eq_zero_or_pos cap with h | h
     ·exact h
     ·have:=g5 h; cases this
    subst hc0
    have hm0 : m = 0:=by omega
    have hxs0 : xs = []:=by rw [← List.length_eq_zero_iff]; omega
    subst hxs0
    simp only [List.length_nil,Nat.zero_add] at hbytes hmax hmax' hlm
    have hap:=run_append_nil (P:=P) w t o.type e inf' z0 htu hinf hiz ⟨by_,oy,none⟩ ys.length capy news (by rw [n1,hsz]) n2' hpos (by omega) (by omega)
    have hge:=grownCap_ge w ys.length 0 e
    have hcap:=grownCap_le_maxLen w ys.length 0 e hmax
    obtain ⟨C',q1,q2,q3⟩:=je (P:=P) (W0:=W0) k2.drew (e:=e) (zs:=ys) (cap:=grownCap w ys.length 0 e) (arr:=news.toArray ++ Builtin.zeroCells z0.cells (grownCap w ys.length 0 e - ys.length)) (cf:=cfy) hge hcap
     (by simp only [Array.size_append,List.size_toArray,size_zeroCells,n1,hzs,← Nat.add_mul]; congr 1; omega)
     (fun i x hx=>⟨(y3 i x hx).mono (k1.trans (Step.drew w _)),(y4 i x hx).1,(y4 i x hx).2,fun j u hj=>by
      have:=n4 i x hx j u hj
      rw [Array.getElem?_append_left (by simpa using (List.getElem?_eq_some_iff.1 this).1)]
      simpa using this⟩)
    rw [List.length_set] at q3
    refine ⟨_,_,C',_,_,hrun _ _ _ _ _ _ hap (by rw [hxq,hm0]) hye,.inr ⟨hyl,rfl,rfl⟩,(k1.trans (Step.drew w _)).trans q1,by simpa [bY] using q2,by simpa using q3⟩
   | some b' =>
    have hcells : ∃ olds : List Value,olds.length = xs.length * ae P e ∧ (∀ (j : Nat) (u : Value),olds[j]? = some u → w.cell? (b'.add j) = some u) ∧ ∀ i x,xs[i]? = some x → ∀ (j : Nat) (u : Value),(cf i)[j]? = some u → olds[i * ae P e + j]? = some u:=by
     by_cases hxl : xs = []
     ·subst hxl; exact ⟨[],by simp,by simp,by simp⟩
     ·have hcp : 0 < cap:=by
       have : 0 < xs.length:=by cases xs with | nil=>exact absurd rfl hxl | cons=>simp
       omega
      have hb':=g5 hcp
      cases hb'
      have hrd : dB A.st (.row e id off m) e xs:=.inr (.inr ⟨id,off,m,zs,rfl,hs,hm,hxs.symm⟩)
      refine ⟨(arr.toList.drop (base + off * ae P e)).take (xs.length * ae P e),?_,fun j u hj=>?_,fun i x hx j u hj=>?_⟩
      ·have h6 : base + (off + xs.length) * ae P e ≤ arr.size:=by rw [m3]; exact Nat.le_trans (Nat.add_le_add_left (Nat.mul_le_mul_right _ (by omega)) _) (Nat.le_of_eq g6)
       rw [Nat.add_mul] at h6
       simp only [List.length_take,List.length_drop,Array.length_toList]
       omega
      ·rw [List.getElem?_take] at hj
       split at hj
       ·rw [List.getElem?_drop,Array.getElem?_toList] at hj
        rw [Addr.add_lit]
        simp [World.cell?,m2,hj]
       ·cases hj
      ·have hi:=(List.getElem?_eq_some_iff.1 hx).1
       have hjl : j < ae P e:=by rw [← (c4 i x hx).1]; exact (List.getElem?_eq_some_iff.1 hj).1
       have h5 : (i + 1) * ae P e ≤ xs.length * ae P e:=Nat.mul_le_mul_right _ hi
       rw [Nat.succ_mul] at h5
       rw [List.getElem?_take,if_pos (by omega),List.getElem?_drop,Array.getElem?_toList]
       have:=g7 i x hx j u hj
       rwa [show base + off * ae P e + i * ae P e + j = base + off * ae P e + (i * ae P e + j) by omega] at this
    obtain ⟨olds,p1,p2,p4⟩:=hcells
    obtain ⟨r,w',C',q0,q1,q2,q3⟩:=fresh (C.kill id) (A.st.set id none) b' cap olds cf k1 k2 (by simp) (by rw [hxq,hlm]) (by omega) p1 p2 c3 c4 p4
    exact ⟨r,w',C',_,_,q0,.inr ⟨hyl,rfl,rfl⟩,q1,q2,q3⟩

end
end Go.Av
end
section
namespace Go.Av
open Go

section
variable {P : Program} {W0 w w' : World} {C C' : Ctx} {σ σ' : ab} {n : Nat} {A : aa} {a : Act} {o : Oper}

theorem qD {z : Array Value} {sz m i j : Nat} {u : Value} (hz : z.size = sz) (hi : i < m) (hj : z[j]? = some u) : (madeCells z (m * sz))[i * sz + j]? = some u:=by
 have hjl : j < sz:=by rw [← hz]; exact (Array.getElem?_eq_some_iff.1 hj).1
 have : (i + 1) * sz ≤ m * sz:=Nat.mul_le_mul_right _ hi
 rw [Nat.succ_mul] at this
 have hlt : i * sz + j < m * sz:=by omega
 have hmod : (i * sz + j) % z.size = j:=by rw [hz,Nat.mul_comm,Nat.mul_add_mod]; exact Nat.mod_eq_of_lt hjl
 simp only [madeCells,Array.getElem?_map,Array.getElem?_range,hlt,if_true,Option.map_some]
 rw [hmod]
 obtain ⟨h1,h2⟩:=Array.getElem?_eq_some_iff.1 hj
 rw [getElem!_pos z j h1,h2]

theorem vd (hr : eh P W0 o w C A a) {x y : Operand} {t e : TypeId} {k k' : IntKind} {m : Int} {v : AV} (ho : o.op = .makeSlice t x y) (hx : Is P W0 o A x (.int k m)) (hy : Is P W0 o A y (.int k' m)) (ht : elT P t = some e) (hz : zeroOf P e = some v) (he : 0 < ae P e)
  (h0 : 0 ≤ m) (hb : m.toNat * bytesOf P e ≤ 281474976710656) (hm : m.toNat ≤ maxLen) :
  ∃ r w' C',(execOp a.eval o).run P w = .ok (.value r) w' ∧ Step w C w' C' ∧ aw P W0 w' C' (A.st ++ [some (.cells e (List.replicate m.toNat v))]) ∧ az P w' C' (.row e A.st.length 0 m.toNat) r:=by
 obtain ⟨inf,z,hi,hiz,hc,hf⟩:=iz (w:=w) (C:=C) hz
 obtain ⟨inf',hinf,hsz⟩:=bh he
 obtain rfl : inf' = inf:=by rw [hi] at hinf; exact (Option.some.inj hinf).symm
 have hcl : z.cells.size = ae P e:=by have:=hc.bk hf; simpa using this
 rw [jN hi] at hb
 have hm' : m ≤ 9223372036854775807:=by unfold maxLen at hm; omega
 have hxe:=(hx w C a hr).bX
 have hye:=(hy w C a hr).bX
 have hrun:=run_make (P:=P) w t e inf' z (bF ht) hi hiz k k' m m h0 (Int.le_refl _) (by
  have h2 : ((inf'.bytes : Nat) : Int) * m = ((m.toNat * inf'.bytes : Nat) : Int):=by rw [Int.natCast_mul,Int.toNat_of_nonneg h0,Int.mul_comm]
  rw [h2]; exact Int.ofNat_le.2 hb) hm'
 obtain ⟨C',g1,g2,g3⟩:=je (P:=P) (W0:=W0) hr.st (e:=e) (zs:=List.replicate m.toNat v) (cap:=m.toNat) (arr:=madeCells z.cells (m.toNat * inf'.size)) (cf:=fun _=>z.cells.toList) (by simp) hm (by rw [size_madeCells,hsz])
  (fun i x hx=>by
   simp only [List.getElem?_replicate] at hx
   split at hx
   ·cases hx
    rename_i hlt
    refine ⟨hc,by simpa using hcl,hf,fun j u hj=>?_⟩
    rw [hsz]
    exact qD hcl hlt (by simpa using hj)
   ·cases hx)
 simp only [List.length_replicate] at g3
 refine ⟨_,_,C',?_,g1,g2,g3⟩
 simp [execOp,ho,hxe,hye,hrun]

theorem sr (hr : eh P W0 o w C A a) {x y : Operand} {t u e : TypeId} {k kn : IntKind} {m : Nat} {v : AV} (ho : o.op = .call { callee:=.builtin .append,args:=#[x,y],argTypes:=#[t,u] })
  (hx : Is P W0 o A x .au) (hy : Is P W0 o A y (.int k m)) (ht : elT P t = some e) (hu : P.underlying u = some (.int kn)) (he : 0 < ae P e) (hz : zeroOf P e = some v) (h0 : 0 < m) (hb : m * bytesOf P e ≤ 140737488355328) (hm : m ≤ maxLen) :
  ∃ r w' C',(execOp a.eval o).run P w = .ok (.value r) w' ∧ Step w C w' C' ∧ aw P W0 w' C' (A.st ++ [some (.cells e (List.replicate m v))]) ∧ az P w' C' (.row e A.st.length 0 m) r:=by
 obtain ⟨inf,z,hi,hiz,hc,hf⟩:=iz (w:=w) (C:=C) hz
 obtain ⟨inf',hinf,hsz⟩:=bh he
 obtain rfl : inf' = inf:=by rw [hi] at hinf; exact (Option.some.inj hinf).symm
 have hcl : z.cells.size = ae P e:=by have:=hc.bk hf; simpa using this
 rw [jN hi] at hb
 have hm' : (m : Int) ≤ 9223372036854775807:=by unfold maxLen at hm; omega
 have hxe:=(hx w C a hr).cR
 have hye:=(hy w C a hr).bX
 have hrun:=Lib.run_append_nil_zeros (P:=P) w t u o.type e inf' z k kn (bF ht) hu hi hiz m h0 (by rw [hsz]; exact he) hm' (by omega)
 have hge:=grownCap_ge w m 0 e
 have hcap:=grownCap_le_maxLen w m 0 e (by omega)
 obtain ⟨C',g1,g2,g3⟩:=je (P:=P) (W0:=W0) hr.st.drew (e:=e) (zs:=List.replicate m v) (cap:=grownCap w m 0 e) (arr:=Builtin.zeroCells z.cells m ++ Builtin.zeroCells z.cells (grownCap w m 0 e - m)) (cf:=fun _=>z.cells.toList) (by simpa using hge) hcap
  (by simp only [Array.size_append,size_zeroCells,hcl,← Nat.add_mul]; congr 1; omega)
  (fun i x hx=>by
   simp only [List.getElem?_replicate] at hx
   split at hx
   ·cases hx
    rename_i hlt
    refine ⟨hc.mono (Step.drew w C),by simpa using hcl,hf,fun j u hj=>?_⟩
    have hjl : j < ae P e:=by rw [← hcl]; simpa using (List.getElem?_eq_some_iff.1 hj).1
    have h5 : (i + 1) * ae P e ≤ m * ae P e:=Nat.mul_le_mul_right _ hlt
    rw [Nat.succ_mul] at h5
    rw [Array.getElem?_append_left (by rw [size_zeroCells,hcl]; omega)]
    have hzm : Builtin.zeroCells z.cells m = madeCells z.cells (m * ae P e):=by simp only [Builtin.zeroCells,madeCells,hcl]
    rw [hzm]
    exact qD hcl hlt (by simpa using hj)
   ·cases hx)
 simp only [List.length_replicate] at g3
 refine ⟨_,_,C',?_,(Step.drew w C).trans g1,g2,g3⟩
 simp [execOp,ho,resolve,invoke,builtin,hxe,hye,hrun]

end
end Go.Av
end
section
namespace Go.Av
open Go

section
variable {P : Program} {W0 w w' : World} {C C' : Ctx} {σ σ' : ab} {n : Nat} {A : aa} {a : Act} {o : Oper}

theorem vu (h : aw P W0 w C σ) {id b base room : Nat} {fr : Nat × Nat} {e t' : TypeId} {xs zs : List AV} {arr arr' : Array Value} {cf : Nat → List Value} (hs : σ[id]? = some (some (.cells e xs))) (hm : C.m id = some (.obj b e base room)) (hb : w.heap[b]? = some (.cells arr t' fr)) (hf : qd fr arr.size)
  (hsz : arr.size = room) (hsize : arr'.size = arr.size) (hfit : base + zs.length * ae P e ≤ room)
  (hz : ∀ i x,zs[i]? = some x → Rel P w C x (cf i) ∧ (cf i).length = ae P e ∧ fits P e x ∧ ∀ (j : Nat) (u : Value),(cf i)[j]? = some u → arr'[base + i * ae P e + j]? = some u) :
  Step w C (w.setRow b arr') C ∧ aw P W0 (w.setRow b arr') C (σ.set id (some (.cells e zs))):=by
 have hstep:=pO (w:=w) hm arr'
 have hidl : id < σ.length:=(List.getElem?_eq_some_iff.1 hs).1
 refine ⟨hstep,h.change hstep h.low (by simpa using h.nx) h.inj h.dom (fun j=>?_)⟩
 rw [im _ _ _ _ hidl]
 by_cases hj : j = id
 ·left
  subst hj
  rw [if_pos rfl,hm]
  refine ⟨rfl,_,t',fr,setRow_heap w b arr _ t' _ hb,by rw [hsize]; exact hf,by rw [hsize,hsz],hfit,cf,fun q x hq=>?_⟩
  obtain ⟨g1,g2,g3,g4⟩:=hz q x hq
  exact ⟨g1.mono hstep,g2,g3,g4⟩
 ·right
  rw [if_neg hj]
  exact ⟨rfl,rfl,fun x hx=>setRow_other w b x.blk _ (fun e=>hj (h.inj j id x _ hx hm (by simpa [Own.blk] using e)))⟩

theorem oE {zs ys : List AV} {k : Nat} (h : k + ys.length ≤ zs.length) : (gW zs k ys).length = zs.length:=by simp [gW]; omega
theorem tB {zs ys : List AV} {k : Nat} (h : k + ys.length ≤ zs.length) (i : Nat) : (gW zs k ys)[i]? = if k ≤ i ∧ i < k + ys.length then ys[i - k]? else zs[i]?:=by
 have hk : (zs.take k).length = k:=by simp; omega
 unfold gW
 by_cases h1 : i < k
 ·rw [if_neg (by omega),List.append_assoc,List.getElem?_append_left (by omega),List.getElem?_take,if_pos h1]
 ·by_cases h2 : i < k + ys.length
  ·rw [if_pos ⟨by omega,h2⟩,List.getElem?_append_left (by simp; omega),List.getElem?_append_right (by omega),hk]
  ·rw [if_neg (by omega),List.getElem?_append_right (by simp; omega),List.getElem?_drop]
   congr 1
   simp
   omega
theorem tV {zs : List AV} {k : Nat} : gW zs k [] = zs:=by simp [gW]

theorem nB (hr : aw P W0 w C σ) {e te : TypeId} {id off m : Nat} {zs : List AV} {v : Value} (hv : az P w C (.row e id off m) v) (he : 0 < ae P e) (hs : σ[id]? = some (some (.cells te zs))) :
  te = e ∧ ∃ ad cap b base room arr t' fr,v = .slice ad m cap ∧ m ≤ cap ∧ cap ≤ maxLen ∧ C.m id = some (.obj b e base room) ∧ w.heap[b]? = some (.cells arr t' fr) ∧ qd fr arr.size ∧ arr.size = room ∧ base + zs.length * ae P e ≤ room ∧
   (0 < cap → ad = some ⟨b,base + off * ae P e,none⟩) ∧ zs.length ≤ off + cap ∧ id < C.nx ∧
   ∃ cf : Nat → List Value,∀ i x,zs[i]? = some x → Rel P w C x (cf i) ∧ (cf i).length = ae P e ∧ fits P e x ∧ ∀ (j : Nat) (c : Value),(cf i)[j]? = some c → arr[base + i * ae P e + j]? = some c:=by
 have hv':=hv.aA rfl
 obtain ⟨b,base,room,arr,t',fr,m1,m2,mf,m3,m4,cf,m5⟩:=hr.cells hs
 cases hv' with
 | row h1 h2 h3 h4 =>
  obtain ⟨b',base',room',e1,e2,e3⟩:=h4 _ m1
  cases e1
  refine ⟨rfl,_,_,b,base,room,arr,t',fr,rfl,h1,h2,m1,m2,mf,m3,m4,e2,?_,h3,cf,m5⟩
  rw [← e3] at m4
  have:=Nat.le_of_add_le_add_left m4
  exact Nat.le_of_mul_le_mul_right this he

theorem xI (hr : eh P W0 o w C A a) {x y : Operand} {t u e : TypeId} {id off m : Nat} {zs ys : List AV} {z : AV} (ho : o.op = .call { callee:=.builtin .append,args:=#[x,y],argTypes:=#[t,u] })
  (hx : Is P W0 o A x (.row e id off m)) (hy : Is P W0 o A y z) (ht : elT P t = some e) (hu : elT P u = some e) (he : 0 < ae P e) (hs : A.st[id]? = some (some (.cells e zs))) (hys : dB A.st z e ys) (hm : off + m + ys.length ≤ zs.length) :
  ∃ r w',(execOp a.eval o).run P w = .ok (.value r) w' ∧ Step w C w' C ∧ aw P W0 w' C (A.st.set id (some (.cells e (gW zs (off + m) ys)))) ∧ az P w' C (.row e id off (m + ys.length)) r:=by
 obtain ⟨inf,hinf,hsz⟩:=bh he
 have htu:=bF ht
 have hrun : ∀ b l c yv r w',(Builtin.append_ #[t,t] o.type #[.slice b l c,yv]).run P w = .ok r w' → a.eval x = .slice b l c → a.eval y = yv → (execOp a.eval o).run P w = .ok (.value r) w':=fun b l c yv r w' h h1 h2=>by
  rw [← eD htu (bF hu) hinf] at h
  simp [execOp,ho,resolve,invoke,builtin,h1,h2,h]
 have hxv:=hx w C a hr
 have hyv:=hy w C a hr
 obtain ⟨ady,capy,cfy,hye,y3,y4,y5⟩:=hys.cells hr.st hyv
 obtain ⟨_,ad,cap,b,base,room,arr,t',fr,hxe,c1,c2,m1,m2,mf,m3,m4,e2,e3,hid,cf,m5⟩:=nB hr.st hxv he hs
 have hidl : id < A.st.length:=(List.getElem?_eq_some_iff.1 hs).1
 by_cases hyl : ys = []
 ·subst hyl
  rw [tV,show A.st.set id (some (.cells e zs)) = A.st from by
   refine List.ext_getElem? fun i=>?_
   by_cases hi : id = i
   ·subst hi; rw [List.getElem?_set_self hidl,hs]
   ·rw [List.getElem?_set_ne hi]]
  exact ⟨_,w,hrun _ _ _ _ _ _ (eY htu hinf _ _ _ _ _ _ c1 w) hxe hye,.refl _ _,hr.st,by rw [← hxe]; exact hxv⟩
 have hpos : 0 < ys.length:=by cases ys with | nil=>exact absurd rfl hyl | cons=>simp
 obtain ⟨by_,oy,rfl,news,n1,n2,n3,n4⟩:=y5 hpos
 have n2' : ∀ j u,news[j]? = some u → w.cell? ((⟨by_,oy,none⟩ : Addr).add j) = some u:=fun j u hj=>by rw [Addr.add_lit]; exact n2 j u hj
 obtain rfl:=e2 (by omega)
 have h6 : base + (off + m + ys.length) * ae P e ≤ arr.size:=by rw [m3]; exact Nat.le_trans (Nat.add_le_add_left (Nat.mul_le_mul_right _ hm) _) m4
 have hfit : base + off * ae P e + m * ae P e + news.length ≤ arr.size:=by
  rw [n1]
  rw [Nat.add_mul,Nat.add_mul] at h6
  omega
 have hap:=eP (P:=P) w t o.type e inf htu hinf b (base + off * ae P e) m cap t' fr arr m2 mf ⟨by_,oy,none⟩ ys.length capy news (by rw [n1,hsz]) n2' n3 (by omega) (by rw [hsz]; exact hfit)
 rw [hsz] at hap
 have hsize : (ba arr (base + off * ae P e + m * ae P e) news).size = arr.size:=cO hfit
 have hoff : base + off * ae P e + m * ae P e = base + (off + m) * ae P e:=by rw [Nat.add_mul]; omega
 obtain ⟨k1,k2⟩:=vu hr.st (zs:=gW zs (off + m) ys) (cf:=fun i=>if off + m ≤ i ∧ i < off + m + ys.length then cfy (i - (off + m)) else cf i) hs m1 m2 mf m3 hsize (by rw [oE hm]; exact m4) (fun i x hx=>by
  rw [tB hm] at hx
  by_cases hi : off + m ≤ i ∧ i < off + m + ys.length
  ·rw [if_pos hi] at hx
   simp only [hi,and_self,if_true]
   refine ⟨y3 _ x hx,(y4 _ x hx).1,(y4 _ x hx).2,fun j u hj=>?_⟩
   have:=n4 _ x hx j u hj
   have hl:=(List.getElem?_eq_some_iff.1 this).1
   have hmul : i * ae P e = (off + m) * ae P e + (i - (off + m)) * ae P e:=by rw [← Nat.add_mul]; congr 1; omega
   rw [bg hfit,if_pos (by omega),show base + i * ae P e + j - (base + off * ae P e + m * ae P e) = (i - (off + m)) * ae P e + j by omega]
   exact this
  ·rw [if_neg hi] at hx
   simp only [hi,if_false]
   obtain ⟨q1,q2,q3,q4⟩:=m5 i x hx
   refine ⟨q1,q2,q3,fun j u hj=>?_⟩
   have hjl : j < ae P e:=by rw [← q2]; exact (List.getElem?_eq_some_iff.1 hj).1
   rw [bg hfit,if_neg ?_]
   ·exact q4 j u hj
   ·rintro ⟨b1,b2⟩
    rw [hoff] at b1 b2
    rw [n1] at b2
    rcases Nat.lt_or_ge i (off + m) with hlt | hge
    ·have h5 : (i + 1) * ae P e ≤ (off + m) * ae P e:=Nat.mul_le_mul_right _ hlt
     rw [Nat.succ_mul] at h5
     omega
    ·have h5 : (off + m + ys.length) * ae P e ≤ i * ae P e:=Nat.mul_le_mul_right _ (by omega)
     rw [Nat.add_mul] at h5
     omega)
 refine ⟨_,_,hrun _ _ _ _ _ _ hap hxe hye,k1,k2,.one rfl (.row (by omega) c2 hid (fun ow how=>?_))⟩
 have hxv':=hxv.aA rfl
 rw [hxe] at hxv'
 cases hxv' with
 | row _ _ _ h4=>exact h4 ow how

theorem sR (hr : eh P W0 o w C A a) {x y : Operand} {t u e : TypeId} {id off m : Nat} {zs ys : List AV} {z : AV} (ho : o.op = .call { callee:=.builtin .append,args:=#[x,y],argTypes:=#[t,u] })
  (hx : Is P W0 o A x (.row e id off m)) (hy : Is P W0 o A y z) (ht : elT P t = some e) (hu : elT P u = some e) (he : 0 < ae P e) (hz0 : aZ P e = true) (hs : A.st[id]? = some (some (.cells e zs))) (hm : off + m = zs.length) (hys : dB A.st z e ys)
  (hbytes : (m + ys.length) * bytesOf P e ≤ 140737488355328) (hmax : m + ys.length ≤ maxLen) :
  ∃ r w' C' v' σ',(execOp a.eval o).run P w = .ok (.value r) w' ∧ ((v' = .row e id off (m + ys.length) ∧ σ' = A.st.set id (some (.cells e (zs ++ ys)))) ∨ (v' = .row e A.st.length 0 (m + ys.length) ∧ σ' = A.st ++ [some (.cells e (zs.drop off ++ ys))])) ∧ Step w C w' C' ∧ aw P W0 w' C' σ' ∧ az P w' C' v' r:=by
 obtain ⟨inf,hinf,hsz⟩:=bh he
 have htu:=bF ht
 have hrun : ∀ b l c yv r w',(Builtin.append_ #[t,t] o.type #[.slice b l c,yv]).run P w = .ok r w' → a.eval x = .slice b l c → a.eval y = yv → (execOp a.eval o).run P w = .ok (.value r) w':=fun b l c yv r w' h h1 h2=>by
  rw [← eD htu (bF hu) hinf] at h
  simp [execOp,ho,resolve,invoke,builtin,h1,h2,h]
 have hxv:=hx w C a hr
 have hyv:=hy w C a hr
 obtain ⟨ady,capy,cfy,hye,y3,y4,y5⟩:=hys.cells hr.st hyv
 obtain ⟨_,ad,cap,b,base,room,arr,t',fr,hxe,c1,c2,m1,m2,mf,m3,m4,e2,e3,hid,cf,m5⟩:=nB hr.st hxv he hs
 have hex : base + (off + cap) * ae P e = room:=by
  have hxv':=hxv.aA rfl
  rw [hxe] at hxv'
  cases hxv' with
  | row _ _ _ h4 =>
   obtain ⟨b',base',room',g1,_,g3⟩:=h4 _ m1
   cases g1
   exact g3
 have hidl : id < A.st.length:=(List.getElem?_eq_some_iff.1 hs).1
 by_cases hyl : ys = []
 ·subst hyl
  refine ⟨_,w,C,_,_,hrun _ _ _ _ _ _ (eY htu hinf _ _ _ _ _ _ c1 w) hxe hye,.inl ⟨rfl,rfl⟩,.refl _ _,?_,by rw [← hxe]; exact hxv⟩
  rw [List.append_nil,show A.st.set id (some (.cells e zs)) = A.st from by
   refine List.ext_getElem? fun i=>?_
   by_cases hi : id = i
   ·subst hi; rw [List.getElem?_set_self hidl,hs]
   ·rw [List.getElem?_set_ne hi]]
  exact hr.st
 have hpos : 0 < ys.length:=by cases ys with | nil=>exact absurd rfl hyl | cons=>simp
 obtain ⟨by_,oy,rfl,news,n1,n2,n3,n4⟩:=y5 hpos
 have n2' : ∀ j u,news[j]? = some u → w.cell? ((⟨by_,oy,none⟩ : Addr).add j) = some u:=fun j u hj=>by rw [Addr.add_lit]; exact n2 j u hj
 by_cases hroom : m + ys.length ≤ cap
 ·-- within its room
  obtain rfl:=e2 (by omega)
  have h6 : (off + (m + ys.length)) * ae P e ≤ (off + cap) * ae P e:=Nat.mul_le_mul_right _ (by omega)
  have hoff : base + off * ae P e + m * ae P e = base + (off + m) * ae P e:=by rw [Nat.add_mul]; omega
  have hfit : base + off * ae P e + m * ae P e + news.length ≤ arr.size:=by
   rw [n1,m3]
   simp only [Nat.add_mul] at h6 hex
   omega
  have hap:=eP (P:=P) w t o.type e inf htu hinf b (base + off * ae P e) m cap t' fr arr m2 mf ⟨by_,oy,none⟩ ys.length capy news (by rw [n1,hsz]) n2' n3 hroom (by rw [hsz]; exact hfit)
  rw [hsz] at hap
  have hsize : (ba arr (base + off * ae P e + m * ae P e) news).size = arr.size:=cO hfit
  obtain ⟨k1,k2⟩:=vu hr.st (zs:=zs ++ ys) (cf:=fun i=>if i < zs.length then cf i else cfy (i - zs.length)) hs m1 m2 mf m3 hsize (by
    rw [List.length_append,← hm,← hex]
    exact Nat.add_le_add_left (Nat.mul_le_mul_right _ (by omega)) _) (fun i x hx=>by
   by_cases hi : i < zs.length
   ·rw [List.getElem?_append_left hi] at hx
    simp only [hi,if_true]
    obtain ⟨q1,q2,q3,q4⟩:=m5 i x hx
    refine ⟨q1,q2,q3,fun j u hj=>?_⟩
    have hjl : j < ae P e:=by rw [← q2]; exact (List.getElem?_eq_some_iff.1 hj).1
    have h5 : (i + 1) * ae P e ≤ (off + m) * ae P e:=Nat.mul_le_mul_right _ (by omega)
    rw [Nat.succ_mul] at h5
    rw [bg hfit,if_neg (by omega)]
    exact q4 j u hj
   ·rw [List.getElem?_append_right (by omega)] at hx
    simp only [hi,if_false]
    refine ⟨y3 _ x hx,(y4 _ x hx).1,(y4 _ x hx).2,fun j u hj=>?_⟩
    have:=n4 _ x hx j u hj
    have hl:=(List.getElem?_eq_some_iff.1 this).1
    have hmul : i * ae P e = (off + m) * ae P e + (i - zs.length) * ae P e:=by rw [← Nat.add_mul]; congr 1; omega
    rw [bg hfit,if_pos (by omega),show base + i * ae P e + j - (base + off * ae P e + m * ae P e) = (i - zs.length) * ae P e + j by omega]
    exact this)
  refine ⟨_,_,C,_,_,hrun _ _ _ _ _ _ hap hxe hye,.inl ⟨rfl,rfl⟩,k1,k2,.one rfl (.row hroom c2 hid (fun ow how=>?_))⟩
  have hxv':=hxv.aA rfl
  rw [hxe] at hxv'
  cases hxv' with
  | row _ _ _ h4=>exact h4 ow how
 obtain ⟨inf',z0,hinf',hiz,hzs⟩:=eC hz0
 obtain rfl : inf' = inf:=by rw [hinf] at hinf'; exact (Option.some.inj hinf').symm
 rw [jN hinf] at hbytes
 have hdl : (zs.drop off).length = m:=by rw [List.length_drop]; omega
 have hlen : (zs.drop off ++ ys).length = m + ys.length:=by rw [List.length_append,hdl]
 have hgetl : ∀ i x,(zs.drop off ++ ys)[i]? = some x → (i < m ∧ zs[off + i]? = some x) ∨ (m ≤ i ∧ ys[i - m]? = some x):=fun i x hx=>by
  by_cases hi : i < m
  ·rw [List.getElem?_append_left (by omega),List.getElem?_drop] at hx; exact .inl ⟨hi,hx⟩
  ·rw [List.getElem?_append_right (by omega),hdl] at hx; exact .inr ⟨by omega,hx⟩
 cases ad with
 | none =>
  have hc0 : cap = 0:=by
   rcases Nat.eq_zero_or_pos cap with h | h
   ·exact h
   ·have:=e2 h; cases this
  subst hc0
  have hm0 : m = 0:=by omega
  subst hm0
  have hz : zs.drop off = []:=by rw [← List.length_eq_zero_iff]; exact hdl
  rw [hz]
  simp only [Nat.zero_add] at hbytes hmax
  have hap:=run_append_nil (P:=P) w t o.type e inf' z0 htu hinf hiz ⟨by_,oy,none⟩ ys.length capy news (by rw [n1,hsz]) n2' hpos (by unfold maxLen at hmax; omega) (by omega)
  have hge:=grownCap_ge w ys.length 0 e
  have hcap:=grownCap_le_maxLen w ys.length 0 e hmax
  obtain ⟨C',q1,q2,q3⟩:=je (P:=P) (W0:=W0) hr.st.drew (e:=e) (zs:=ys) (cap:=grownCap w ys.length 0 e) (arr:=news.toArray ++ Builtin.zeroCells z0.cells (grownCap w ys.length 0 e - ys.length)) (cf:=cfy) hge hcap
   (by simp only [Array.size_append,List.size_toArray,size_zeroCells,n1,hzs,← Nat.add_mul]; congr 1; omega)
   (fun i x hx=>⟨(y3 i x hx).mono (Step.drew w C),(y4 i x hx).1,(y4 i x hx).2,fun j u hj=>by
    have:=n4 i x hx j u hj
    rw [Array.getElem?_append_left (by simpa using (List.getElem?_eq_some_iff.1 this).1)]
    simpa using this⟩)
  exact ⟨_,_,C',_,_,hrun _ _ _ _ _ _ hap hxe hye,.inr ⟨rfl,rfl⟩,(Step.drew w C).trans q1,by simpa using q2,by simpa using q3⟩
 | some b' =>
  have hcells : ∃ olds : List Value,olds.length = m * ae P e ∧ (∀ (j : Nat) (u : Value),olds[j]? = some u → w.cell? (b'.add j) = some u) ∧ ∀ i x,i < m → zs[off + i]? = some x → ∀ (j : Nat) (u : Value),(cf (off + i))[j]? = some u → olds[i * ae P e + j]? = some u:=by
   by_cases hxl : m = 0
   ·subst hxl; exact ⟨[],by simp,by simp,fun i x hi=>by omega⟩
   ·have hb':=e2 (by omega)
    cases hb'
    refine ⟨(arr.toList.drop (base + off * ae P e)).take (m * ae P e),?_,fun j u hj=>?_,fun i x hi hx j u hj=>?_⟩
    ·have h6 : (off + m) * ae P e ≤ (off + cap) * ae P e:=Nat.mul_le_mul_right _ (by omega)
     simp only [Nat.add_mul] at h6 hex
     simp only [List.length_take,List.length_drop,Array.length_toList]
     omega
    ·rw [List.getElem?_take] at hj
     split at hj
     ·rw [List.getElem?_drop,Array.getElem?_toList] at hj
      rw [Addr.add_lit]
      simp [World.cell?,m2,hj]
     ·cases hj
    ·obtain ⟨q1,q2,q3,q4⟩:=m5 _ x hx
     have hjl : j < ae P e:=by rw [← q2]; exact (List.getElem?_eq_some_iff.1 hj).1
     have h5 : (i + 1) * ae P e ≤ m * ae P e:=Nat.mul_le_mul_right _ hi
     rw [Nat.succ_mul] at h5
     rw [List.getElem?_take,if_pos (by omega),List.getElem?_drop,Array.getElem?_toList]
     have:=q4 j u hj
     rwa [Nat.add_mul,show base + (off * ae P e + i * ae P e) + j = base + off * ae P e + (i * ae P e + j) by omega] at this
  obtain ⟨olds,p1,p2,p4⟩:=hcells
  have hap:=run_append_grow (P:=P) w t o.type e inf' z0 htu hinf hiz b' m cap olds (by rw [p1,hsz]) p2 ⟨by_,oy,none⟩ ys.length capy news (by rw [n1,hsz]) n2' (by omega) (by unfold maxLen at hmax; omega) (growslice_fits (by omega) hbytes)
  have hge:=grownCap_ge w (m + ys.length) cap e
  have hcap:=grownCap_le_maxLen w (m + ys.length) cap e hmax
  obtain ⟨C',g1,g2,g3⟩:=je (P:=P) (W0:=W0) hr.st.drew (e:=e) (zs:=zs.drop off ++ ys) (cap:=grownCap w (m + ys.length) cap e)
   (arr:=olds.toArray ++ news.toArray ++ Builtin.zeroCells z0.cells (grownCap w (m + ys.length) cap e - (m + ys.length))) (cf:=fun i=>if i < m then cf (off + i) else cfy (i - m)) (by rw [hlen]; exact hge) hcap
   (by simp only [Array.size_append,List.size_toArray,size_zeroCells,p1,n1,hzs,← Nat.add_mul]; congr 1; omega)
   (fun i x hx=>by
    rcases hgetl i x hx with ⟨hi,hx'⟩ | ⟨hi,hx'⟩
    ·simp only [hi,if_true]
     obtain ⟨q1,q2,q3,q4⟩:=m5 _ x hx'
     refine ⟨q1.mono (Step.drew w C),q2,q3,fun j u hj=>?_⟩
     have:=p4 i x hi hx' j u hj
     have hl:=(List.getElem?_eq_some_iff.1 this).1
     rw [Array.getElem?_append_left (by simp; omega),Array.getElem?_append_left (by simpa using hl)]
     simpa using this
    ·simp only [show ¬ i < m by omega,if_false]
     refine ⟨(y3 _ x hx').mono (Step.drew w C),(y4 _ x hx').1,(y4 _ x hx').2,fun j u hj=>?_⟩
     have:=n4 _ x hx' j u hj
     have hl:=(List.getElem?_eq_some_iff.1 this).1
     have hmul : i * ae P e = m * ae P e + (i - m) * ae P e:=by rw [← Nat.add_mul]; congr 1; omega
     rw [Array.getElem?_append_left (by simp; omega),Array.getElem?_append_right (by simp; omega)]
     simp only [List.size_toArray,p1,List.getElem?_toArray]
     rw [show i * ae P e + j - m * ae P e = (i - m) * ae P e + j by omega]
     exact this)
  rw [hlen] at g3
  exact ⟨_,_,C',_,_,hrun _ _ _ _ _ _ hap hxe hye,.inr ⟨rfl,rfl⟩,(Step.drew w C).trans g1,g2,g3⟩

theorem Fx (hr : eh P W0 o w C A a) {x : Operand} {t e : TypeId} {id off m : Nat} {zs : List AV} {v : AV} (ho : o.op = .call { callee:=.builtin .clear,args:=#[x],argTypes:=#[t] })
  (hx : Is P W0 o A x (.row e id off m)) (ht : elT P t = some e) (he : 0 < ae P e) (hz : zeroOf P e = some v) (hs : A.st[id]? = some (some (.cells e zs))) (hm : off + m ≤ zs.length) :
  ∃ r w',(execOp a.eval o).run P w = .ok (.value r) w' ∧ Step w C w' C ∧ aw P W0 w' C (A.st.set id (some (.cells e (gW zs off (List.replicate m v))))) ∧ az P w' C (.tup []) r:=by
 obtain ⟨inf,z,hi,hiz,hc,hf⟩:=iz (w:=w) (C:=C) hz
 obtain ⟨inf',hinf,hsz⟩:=bh he
 obtain rfl : inf' = inf:=by rw [hi] at hinf; exact (Option.some.inj hinf).symm
 have hcl : z.cells.size = ae P e:=by have:=hc.bk hf; simpa using this
 have htu:=bF ht
 have hxv:=hx w C a hr
 obtain ⟨_,ad,cap,b,base,room,arr,t',fr,hxe,c1,c2,m1,m2,mf,m3,m4,e2,e3,hid,cf,m5⟩:=nB hr.st hxv he hs
 have hidl : id < A.st.length:=(List.getElem?_eq_some_iff.1 hs).1
 have hrel : ∀ w',az P w' C (.tup []) (.tuple #[]):=fun w'=>.tup (vs:=[]) rfl (fun i a v h=>by simp at h)
 have hzv : (zeroValue e).run P w = .ok z w:=by simp [zeroValue,typeInfo,hi,hiz]
 by_cases hm0 : m = 0
 ·subst hm0
  rw [show gW zs off (List.replicate 0 v) = zs from tV,show A.st.set id (some (.cells e zs)) = A.st from by
   refine List.ext_getElem? fun i=>?_
   by_cases hi : id = i
   ·subst hi; rw [List.getElem?_set_self hidl,hs]
   ·rw [List.getElem?_set_ne hi]]
  refine ⟨_,w,?_,.refl _ _,hr.st,hrel _⟩
  cases ad <;> simp [execOp,ho,resolve,invoke,builtin,hxe,Builtin.clear_,run_underlying htu]
 obtain rfl:=e2 (by omega)
 have hzm : Builtin.zeroCells z.cells m = madeCells z.cells (m * ae P e):=by simp only [Builtin.zeroCells,madeCells,hcl]
 have hll : (Builtin.zeroCells z.cells m).toList.length = m * ae P e:=by simp [size_zeroCells,hcl]
 have hrl : (List.replicate m v).length = m:=by simp
 have h6 : base + (off + m) * ae P e ≤ arr.size:=by rw [m3]; exact Nat.le_trans (Nat.add_le_add_left (Nat.mul_le_mul_right _ hm) _) m4
 have hfit : base + off * ae P e + (Builtin.zeroCells z.cells m).toList.length ≤ arr.size:=by
  rw [hll]
  rw [Nat.add_mul] at h6
  omega
 have hone : ∀ u ∈ (Builtin.zeroCells z.cells m).toList,u.oneCell' = true:=fun u hu=>by
  rw [hzm] at hu
  simp only [madeCells,Array.toList_map,List.mem_map] at hu
  obtain ⟨q,hq,rfl⟩:=hu
  have hq' : q % z.cells.size < z.cells.size:=Nat.mod_lt _ (by omega)
  rw [getElem!_pos z.cells _ hq']
  exact hc.km _ (by simp)
 have hst:=dK P b (base + off * ae P e) t' fr (Builtin.zeroCells z.cells m).toList 0 arr w m2 mf (by simpa using hfit) hone
 simp only [Nat.add_zero] at hst
 have hsize : (ba arr (base + off * ae P e) (Builtin.zeroCells z.cells m).toList).size = arr.size:=cO hfit
 obtain ⟨k1,k2⟩:=vu hr.st (zs:=gW zs off (List.replicate m v)) (cf:=fun i=>if off ≤ i ∧ i < off + m then z.cells.toList else cf i) hs m1 m2 mf m3 hsize (by rw [oE (by rw [hrl]; exact hm)]; exact m4) (fun i x hx=>by
  rw [tB (by rw [hrl]; exact hm),hrl] at hx
  by_cases hi : off ≤ i ∧ i < off + m
  ·rw [if_pos hi,List.getElem?_replicate,if_pos (by omega)] at hx
   cases hx
   simp only [hi,and_self,if_true]
   refine ⟨hc,by simpa using hcl,hf,fun j u hj=>?_⟩
   have hjl : j < ae P e:=by rw [← hcl]; simpa using (List.getElem?_eq_some_iff.1 hj).1
   have h5 : (i - off + 1) * ae P e ≤ m * ae P e:=Nat.mul_le_mul_right _ (by omega)
   rw [Nat.succ_mul] at h5
   have hmul : i * ae P e = off * ae P e + (i - off) * ae P e:=by rw [← Nat.add_mul]; congr 1; omega
   rw [bg hfit,if_pos (by omega),show base + i * ae P e + j - (base + off * ae P e) = (i - off) * ae P e + j by omega,hzm,Array.getElem?_toList]
   exact qD hcl (show i - off < m by omega) (by simpa using hj)
  ·rw [if_neg hi] at hx
   simp only [hi,if_false]
   obtain ⟨q1,q2,q3,q4⟩:=m5 i x hx
   refine ⟨q1,q2,q3,fun j u hj=>?_⟩
   have hjl : j < ae P e:=by rw [← q2]; exact (List.getElem?_eq_some_iff.1 hj).1
   rw [bg hfit,if_neg ?_]
   ·exact q4 j u hj
   ·rintro ⟨b1,b2⟩
    rw [hll] at b2
    rcases Nat.lt_or_ge i off with hlt | hge
    ·have h5 : (i + 1) * ae P e ≤ off * ae P e:=Nat.mul_le_mul_right _ hlt
     rw [Nat.succ_mul] at h5
     omega
    ·have h5 : (off + m) * ae P e ≤ i * ae P e:=Nat.mul_le_mul_right _ (by omega)
     rw [Nat.add_mul] at h5
     omega)
 refine ⟨_,_,?_,k1,k2,hrel _⟩
 have esp : ba arr (base + off * ae P e) (Builtin.zeroCells z.cells m).toList = (arr.toList.take (base + off * ae P e) ++ (Builtin.zeroCells z.cells m).toList ++ arr.toList.drop (base + off * ae P e + (Builtin.zeroCells z.cells m).toList.length)).toArray:=rfl
 rw [esp]
 have hne : ∀ (q : Nat),m = q → (Builtin.clear_ #[t] o.type #[.slice (some ⟨b,base + off * ae P e,none⟩) q cap]).run P w = .ok (.tuple #[]) (w.setRow b (arr.toList.take (base + off * ae P e) ++ (Builtin.zeroCells z.cells m).toList ++ arr.toList.drop (base + off * ae P e + (Builtin.zeroCells z.cells m).toList.length)).toArray):=fun q hq=>by
  cases q with
  | zero=>exact absurd hq hm0
  | succ q=>simp [Builtin.clear_,run_underlying htu,hzv,← hq,hst]
 simp [execOp,ho,resolve,invoke,builtin,hxe,hne m rfl]

theorem sL {t e te : TypeId} {x : Operand} {lo hi : Option Operand} {id off m p q : Nat} {zs : List AV} (ho : o.op = .slice t x lo hi none) (hx : Is P W0 o A x (.row e id off m)) (ht : elT P t = some e) (he : 0 < ae P e)
  (hlo : gZ P W0 o A lo 0 p) (hhi : gZ P W0 o A hi m q) (h1 : p ≤ q) (hs : A.st[id]? = some (some (.cells te zs))) (h2 : off + q ≤ zs.length) : bN P W0 o A (.row e id (off + p) (q - p)) :=
 .of_same fun w C a hr=>by
  obtain ⟨inf,hinf,hsz⟩:=bh he
  obtain ⟨_,ad,cap,b,base,room,arr,t',fr,hv,g1,g2,m1,m2,mf,m3,m4,e2,e3,hid,cf,m5⟩:=nB hr.st (hx w C a hr) he hs
  have hb:=dS hr true hlo hhi h1 (show q ≤ cap by omega)
  have h:=(hx w C a hr).aA rfl
  rw [hv] at h
  cases h with
  | row _ _ _ h4 =>
   refine ⟨.slice (if cap = p then ad else ad.map (·.add (p * ae P e))) (q - p) (cap - p),?_,.one rfl (.row (by omega) (by omega) hid (fun ow how=>?_))⟩
   ·simp [execOp,ho,Instr.sliceAt,Instr.slice,run_underlying (bF ht),hv,hb,sizeOf,typeInfo,hinf,hsz]
   ·obtain ⟨b,base,room,e1,e2,e3⟩:=h4 ow how
    refine ⟨b,base,room,e1,fun hc=>?_,by rw [show off + p + (cap - p) = off + cap by omega]; exact e3⟩
    rw [if_neg (by omega),e2 (by omega)]
    simp [Addr.add_lit,Nat.add_mul,Nat.add_assoc]

theorem A7 {t e : TypeId} {x lo hi mx : Operand} {id off m : Nat} {k1 k2 k3 : IntKind} {p q r : Int} (ho : o.op = .slice t x (some lo) (some hi) (some mx)) (hx : Is P W0 o A x (.row e id off m)) (ht : elT P t = some e) (he : 0 < ae P e)
  (hlo : Is P W0 o A lo (.int k1 p)) (hhi : Is P W0 o A hi (.int k2 q)) (hmx : Is P W0 o A mx (.int k3 r)) (h0 : 0 ≤ p) (h1 : p ≤ q) (h2 : q ≤ r) (h3 : r ≤ m) : bN P W0 o A .undef :=
 .of_same fun w C a hr=>by
  obtain ⟨inf,hinf,hsz⟩:=bh he
  have h:=(hx w C a hr).aA rfl
  have ⟨ad,cap,hv,g1⟩ : ∃ ad cap,a.eval x = .slice ad m cap ∧ m ≤ cap:=by
   generalize a.eval x = v at h
   cases h with
   | row h1 h2 h3 h4=>exact ⟨_,_,rfl,h1⟩
  have e1:=(hlo w C a hr).bX
  have e2:=(hhi w C a hr).bX
  have e3:=(hmx w C a hr).bX
  have b1:=fun c=>run_sliceBound (P:=P) (w:=w) k1 c (i:=p) (y:=q.toNat) h0 rfl (by omega)
  have b2:=fun c=>run_sliceBound (P:=P) (w:=w) k2 c (i:=q) (y:=r.toNat) (by omega) rfl (by omega)
  have b3:=fun c=>run_sliceBound (P:=P) (w:=w) k3 c (i:=r) (y:=cap) (by omega) rfl (by omega)
  refine ⟨.slice (if r.toNat = p.toNat then ad else ad.map (·.add (p.toNat * ae P e))) (q.toNat - p.toNat) (r.toNat - p.toNat),?_,.undef _⟩
  simp [execOp,ho,Instr.sliceAt,Instr.slice,Instr.sliceBounds,run_underlying (bF ht),hv,e1,e2,e3,b1,b2,b3,sizeOf,typeInfo,hinf,hsz]

theorem D0 (P : Program) (w : World) (C : Ctx) (c : UInt8) : Rel P w C (cT c) [.int .u8 c.toNat]:=.int _ _
theorem Df (hr : eh P W0 o w C A a) {s d e : TypeId} {x : Operand} {l : List UInt8} (ho : o.op = .convert s d x) (hx : Is P W0 o A x (.str l)) (hs : bH P s = true) (hd : elT P d = some e) (he : eB P e = some .u8) (h1 : ae P e = 1) (hp : cb P e = true) :
  ∃ r w' C',(execOp a.eval o).run P w = .ok (.value r) w' ∧ Step w C w' C' ∧ aw P W0 w' C' (A.st ++ [some (.cells e (l.map cT))]) ∧ az P w' C' (.row e A.st.length 0 l.length) r:=by
 obtain ⟨hxe,hlm⟩:=(hx w C a hr).eW
 have hrun:=Lib.run_convert_string_bytes (P:=P) w s d e ⟨l.toArray⟩ (cS hs) (bF hd) (iS he)
 have hsz : (⟨l.toArray⟩ : ByteArray).size = l.length:=by simp [ByteArray.size]
 rw [hsz] at hrun
 have hge:=grownCap_ge w l.length 0 e
 have hcap:=grownCap_le_maxLen w l.length 0 e hlm
 have hml : (l.map cT).length = l.length:=List.length_map ..
 have hbs : (Lib.bytesCells w e ⟨l.toArray⟩).size = grownCap w l.length 0 e * ae P e:=by
  simp only [Lib.bytesCells,Array.size_append,Array.size_map,Array.size_replicate,hsz,h1,Nat.mul_one]
  simp
  omega
 obtain ⟨C',k1,k2,k3,k4⟩:=rz (P:=P) (W0:=W0) hr.st.drew (e:=e) (zs:=l.map cT) (cap:=grownCap w l.length 0 e) (arr:=Lib.bytesCells w e ⟨l.toArray⟩) (cf:=fun i=>[.int .u8 ((l.getD i 0).toNat : Nat)]) (by rw [hml]; exact hge) hcap hbs (fun i x hx=>by
  rw [List.getElem?_map] at hx
  obtain ⟨c,hc,rfl⟩:=Option.map_eq_some_iff.1 hx
  have hi:=(List.getElem?_eq_some_iff.1 hc).1
  have hcd : l.getD i 0 = c:=by rw [List.getD_eq_getElem?_getD,hc]; rfl
  rw [hcd]
  refine ⟨D0 P _ _ c,by simp [h1],⟨rfl,hp⟩,fun j u hj=>?_⟩
  cases j with
  | succ j=>simp at hj
  | zero =>
   simp only [List.getElem?_cons_zero,Option.some.injEq] at hj
   subst hj
   rw [h1,Nat.mul_one,Nat.add_zero]
   unfold Lib.bytesCells
   rw [Array.getElem?_append_left (by simpa using hi)]
   simp [hc])
 rw [hml] at k3
 have hw : Lib.bytesWorld w e ⟨l.toArray⟩ = (w.drew.alloc (.cells (Lib.bytesCells w e ⟨l.toArray⟩) e)).freeze ⟨w.heap.size,(Lib.bytesCells w e ⟨l.toArray⟩).size,none⟩ 1:=rfl
 have hdz : w.drew.heap.size = w.heap.size:=rfl
 rw [hdz] at k4
 have hnew:=Lib.bytesWorld_at_new w e ⟨l.toArray⟩
 have hsize:=Lib.bytesWorld_size w e ⟨l.toArray⟩
 have hsz1 : (w.drew.alloc (.cells (Lib.bytesCells w e ⟨l.toArray⟩) e)).heap.size = w.heap.size + 1:=by simp [World.alloc,-World.alloc_eq]
 have hblk : ∀ b,b ≠ w.heap.size → (Lib.bytesWorld w e ⟨l.toArray⟩).heap[b]? = (w.drew.alloc (.cells (Lib.bytesCells w e ⟨l.toArray⟩) e)).heap[b]?:=fun b hb=>by
  rcases Nat.lt_or_ge b w.heap.size with h | h
  ·rw [Lib.bytesWorld_at_old w e _ b h]
   exact (RowKit.Below.heap_alloc w.drew _ b h).symm
  ·rw [Array.getElem?_eq_none (by omega),Array.getElem?_eq_none (by omega)]
 have hstep : Step (w.drew.alloc (.cells (Lib.bytesCells w e ⟨l.toArray⟩) e)) C' (Lib.bytesWorld w e ⟨l.toArray⟩) C':=by
  refine ⟨Nat.le_refl _,fun _ _ _ h=>h,fun b i hst=>?_,rfl,rfl,rfl,by omega,fun b hb hn=>?_⟩
  ·have hbb : b ≠ w.heap.size:=fun e1=>by
    obtain ⟨_,_,_,e2,_⟩:=hst.2 _ _ k4 (by simp [Own.blk,e1])
    cases e2
   refine ⟨by simp only [World.cell?,hblk b hbb],by have:=hst.1; omega,hst.2⟩
  ·have hbb : b ≠ w.heap.size:=fun e1=>hn _ _ k4 (by simp [Own.blk,e1])
   exact ⟨hblk b hbb,hn⟩
 refine ⟨_,_,C',?_,((Step.drew w C).trans k1).trans hstep,?_,k3.mono hstep⟩
 ·simp [execOp,ho,hxe,hrun]
 ·refine k2.change hstep k2.low k2.nx k2.inj k2.dom (fun i=>?_)
  by_cases hi : i = A.st.length
  ·left
   subst hi
   rw [k4,List.getElem?_append_right (Nat.le_refl _),Nat.sub_self]
   have ho:=k2.obj A.st.length
   rw [k4,List.getElem?_append_right (Nat.le_refl _),Nat.sub_self] at ho
   simp only [List.getElem?_cons_zero,Option.join_some] at ho ⊢
   obtain ⟨_,arr,t',fr,q1,q2,q3,q4,cf,q5⟩:=ho
   have ea : arr = Lib.bytesCells w e ⟨l.toArray⟩:=by
    have:=heap_alloc_new w.drew (.cells (Lib.bytesCells w e ⟨l.toArray⟩) e)
    rw [hdz,q1] at this
    cases this
    rfl
   subst ea
   refine ⟨rfl,_,_,_,hnew,.inr (Nat.le_refl _),q3,q4,cf,fun q z hz=>?_⟩
   obtain ⟨g1,g2,g3,g4⟩:=q5 q z hz
   exact ⟨g1.mono hstep,g2,g3,g4⟩
  ·right
   exact ⟨rfl,rfl,fun ow how=>hblk _ fun e1=>hi (k2.inj i _ ow _ how k4 (by simpa [Own.blk] using e1))⟩
theorem Cy (hr : eh P W0 o w C A a) {s d e : TypeId} {x : Operand} {u : AV} {l : List UInt8} (ho : o.op = .convert s d x) (hx : Is P W0 o A x u) (hu : dB A.st u e (l.map cT)) (hs : elT P s = some e) (he : eB P e = some .u8) (h1 : ae P e = 1) (hd : bH P d = true) :
  ∃ r,(execOp a.eval o).run P w = .ok (.value r) w ∧ az P w C (.str l) r:=by
 obtain ⟨ad,cap,cf,hxe,y3,y4,y5⟩:=hu.cells hr.st (hx w C a hr)
 have hml : (l.map cT).length = l.length:=List.length_map ..
 rw [hml] at hxe y5
 have hcap : l.length ≤ maxLen:=by
  have hv:=hx w C a hr
  rcases hu with h | ⟨rfl,h⟩ | ⟨id,off,m,zs,rfl,h2,h3,h4⟩
  ·unfold AV.ju at h
   rw [← hml]
   split at h <;> cases h
   ·obtain ⟨_,_,_,_,x1,x2,_⟩:=(hv.aA rfl).lf (.inl rfl)
    exact Nat.le_trans x1 x2
   ·obtain ⟨_,_,_,_,x1,x2,_⟩:=(hv.aA rfl).lf (.inr (.inl rfl))
    exact Nat.le_trans x1 x2
   ·obtain ⟨_,_,_,_,x1,x2,_⟩:=(hv.aA rfl).lf (.inr (.inr ⟨_,rfl⟩))
    exact Nat.le_trans x1 x2
  ·rw [← hml,h]; exact Nat.zero_le _
  ·have hv':=hv.aA rfl
   rw [hxe] at hv'
   cases hv' with
   | row hm1 hm2=>omega
 have hc1:=run_convert_bytes_string (P:=P) w s d e ad l.length cap (bF hs) (iS he) (cS hd)
 refine ⟨.string ⟨l.toArray⟩,?_,.one rfl (.str hcap)⟩
 have hfold : ∀ (l : List UInt8) (b : ByteArray),((l.map fun c=>((c.toNat : Nat) : Int)).foldl (fun r n=>r.push (UInt8.ofNat n.toNat)) b) = ⟨b.data ++ l.toArray⟩:=fun l=>by
  induction l with
  | nil=>intro b; simp
  | cons c l ih =>
   intro b
   rw [List.map_cons,List.foldl_cons,ih]
   congr 1
   simp [ByteArray.push]
 have hrun : (Conv.bytesToString (.slice ad l.length cap)).run P w = .ok (.string ⟨l.toArray⟩) w:=by
  by_cases hl0 : l = []
  ·subst hl0
   cases ad with
   | none=>rfl
   | some ad =>
    have:=run_bytesToString (P:=P) w ad 0 cap [] (by
     have:=run_loadCells_list (P:=P) (w:=w) ad [] (by simp)
     simpa using this)
    exact (by simpa using this : (Conv.bytesToString (.slice (some ad) 0 cap)).run P w = .ok (.string ByteArray.empty) w)
  ·obtain ⟨b,off,rfl,news,n1,n2,n3,n4⟩:=y5 (by cases l with | nil=>exact absurd rfl hl0 | cons=>simp)
   have hnews : news = (l.map fun c=>((c.toNat : Nat) : Int)).map (Value.int .u8):=by
    rw [h1,Nat.mul_one] at n1
    refine List.ext_getElem? fun i=>?_
    by_cases hi : i < l.length
    ·obtain ⟨c,hc⟩ : ∃ c,l[i]? = some c:=⟨_,List.getElem?_eq_getElem hi⟩
     have hx : (l.map cT)[i]? = some (cT c):=by rw [List.getElem?_map,hc]; rfl
     have hcf : cf i = [.int .u8 c.toNat]:=by
      have:=y3 i _ hx
      generalize cf i = z at this
      cases this
      rfl
     have:=n4 i _ hx 0 (.int .u8 c.toNat) (by rw [hcf]; rfl)
     rw [h1,Nat.mul_one,Nat.add_zero] at this
     rw [this,List.getElem?_map,List.getElem?_map,hc]
     rfl
    ·rw [List.getElem?_eq_none (by omega),List.getElem?_eq_none (by simp; omega)]
   have hload:=run_loadCells_list (P:=P) (w:=w) ⟨b,off,none⟩ news (fun j u hj=>by rw [Addr.add_lit]; exact n2 j u hj)
   rw [h1,Nat.mul_one] at n1
   rw [n1] at hload
   rw [hnews] at hload
   have:=run_bytesToString (P:=P) w ⟨b,off,none⟩ l.length cap _ hload
   rw [this,hfold]
   simp
 simp [execOp,ho,hxe,hc1,hrun]
theorem zu {b : Nat} {arr : Array Value} {t' : TypeId} {fr : Nat × Nat} (hb : w.heap[b]? = some (.cells arr t' fr)) (hf : qd fr arr.size) :
  ∃ fr',(w.freeze ⟨b,arr.size,none⟩ 1).heap[b]? = some (.cells arr t' fr') ∧ qd fr' arr.size ∧ (∀ k,k ≠ b → (w.freeze ⟨b,arr.size,none⟩ 1).heap[k]? = w.heap[k]?) ∧ (w.freeze ⟨b,arr.size,none⟩ 1).heap.size = w.heap.size:=by
 have hlt:=(Array.getElem?_eq_some_iff.1 hb).1
 have hbe:=(Array.getElem?_eq_some_iff.1 hb).2
 unfold World.freeze
 rw [if_neg (by decide)]
 simp only [Array.size_modify]
 refine ⟨if fr.1 == fr.2 then (arr.size,arr.size + 1) else (min fr.1 arr.size,max fr.2 (arr.size + 1)),?_,?_,fun k hk=>?_,trivial⟩
 ·rw [Array.getElem?_eq_getElem (by simpa using hlt),Array.getElem_modify_self,hbe]
 ·unfold qd at *
  right
  split
  ·exact Nat.le_refl _
  ·rename_i h
   rcases hf with rfl | hf
   ·exact absurd (by decide : ((0,0) : Nat × Nat).1 == ((0,0) : Nat × Nat).2) h
   ·simp only []
    omega
 ·rw [Array.getElem?_modify,if_neg (fun e=>hk e.symm)]
theorem sN (hr : eh P W0 o w C A a) {s e : TypeId} {x : Operand} {id off m : Nat} {xs : List AV} (ho : o.op = .convert s s x) (hx : Is P W0 o A x (.row e id off m)) (hs : elT P s = some e) (he : eB P e = some .u8) (h0 : 0 < m) (hσ : A.st[id]? = some (some (.cells e xs))) (hm : off + m ≤ xs.length) :
  ∃ r w' C',(execOp a.eval o).run P w = .ok (.value r) w' ∧ Step w C w' C' ∧ aw P W0 w' C' (A.st.set id none) ∧ az P w' C' (.sl e ((xs.drop off).take m)) r:=by
 have hv:=hx w C a hr
 obtain ⟨b,base,room,arr,t',fr,m1,m2,mf,m3,m4,cf,m5⟩:=hr.st.cells hσ
 obtain ⟨cap,hxe⟩ : ∃ cap,a.eval x = .slice (some ⟨b,base + off * ae P e,none⟩) m cap:=by
  have h1:=hv.aA rfl
  generalize a.eval x = y at h1 ⊢
  cases h1 with
  | row g1 g2 g3 g4 =>
   obtain ⟨b',base',room',e1,e2,e3⟩:=g4 _ m1
   cases e1
   exact ⟨_,by rw [e2 (by omega)]⟩
 obtain ⟨fr',f1,f2,f3,f4⟩:=zu (w:=w) m2 mf
 obtain ⟨w',hw'⟩ : ∃ w',w' = w.freeze ⟨b,arr.size,none⟩ 1:=⟨_,rfl⟩
 rw [← hw'] at f1 f3 f4
 have hcell : ∀ ad : Addr,w'.cell? ad = w.cell? ad:=fun ad=>by
  unfold World.cell?
  by_cases hb : ad.block = b
  ·rw [hb,f1,m2]
  ·rw [f3 _ hb]
 have hstep : Step w C w' C:=by
  refine ⟨Nat.le_refl _,fun _ _ _ h=>h,fun b' i hst=>⟨hcell _,by rw [f4]; exact hst.1,hst.2⟩,?_,?_,?_,by omega,fun b' hb' hn=>⟨f3 _ fun e1=>hn _ _ m1 (by simp [Own.blk,e1]),hn⟩⟩
  all_goals rw [hw']; unfold World.freeze; rw [if_neg (by decide)]
 have hst2 : aw P W0 w' C A.st:=by
  refine hr.st.change hstep hr.st.low hr.st.nx hr.st.inj hr.st.dom fun i=>?_
  by_cases hi : i = id
  ·left
   subst hi
   rw [hσ,Option.join_some,m1]
   refine ⟨rfl,arr,t',fr',f1,f2,m3,m4,cf,fun i x hx=>?_⟩
   obtain ⟨q1,q2,q3,q4⟩:=m5 i x hx
   exact ⟨q1.mono hstep,q2,q3,q4⟩
  ·right
   exact ⟨rfl,rfl,fun ow how=>f3 _ fun e1=>hi (hr.st.inj i _ ow _ how m1 (by simpa [Own.blk] using e1))⟩
 have hidl:=(List.getElem?_eq_some_iff.1 hσ).1
 obtain ⟨k1,k2⟩:=hst2.kill id hidl
 refine ⟨_,w',C.kill id,?_,hstep.trans k1,k2,j3 hst2 (hv.mono hstep) hσ hm⟩
 have hsh : w.shape? b = some (t',arr.size):=by unfold World.shape?; rw [m2]
 rw [hxe,hw']
 simp [execOp,ho,hxe,convert,run_underlying (bF hs),run_underlying (iS he),markStringish,hsh]
theorem wF (hr : eh P W0 o w C A a) {t e : TypeId} {m : Nat} {ps : Array (Nat × Operand)} {qs : List (Nat × AV)} (ho : o.op = .buildSlice t m ps) (ht : elT P t = some e) (he : 0 < ae P e) (hz : aZ P e = true) (hm : m * ae P e ≤ 2 ^ 24)
  (hq : ja P W0 o A ps.toList qs) (hk : qs.map (·.1) = List.range' 0 m) (hf : ∀ p ∈ qs,fits P e p.2) :
  ∃ r w' C',(execOp a.eval o).run P w = .ok (.value r) w' ∧ Step w C w' C' ∧ aw P W0 w' C' (A.st ++ [some (.cells e (qs.map (·.2)))]) ∧ az P w' C' (.row e A.st.length 0 m) r:=by
 obtain ⟨inf,z,hinf,hiz,_⟩:=eC hz
 have hsz : inf.size = ae P e:=by simp [ae,hinf]
 have hlen : qs.length = m:=by have:=congrArg List.length hk; simpa using this
 have hzv : (zeroValue e).run P w = .ok z w:=by simp [zeroValue,typeInfo,hinf,hiz]
 have hsv : (sizeOf e).run P w = .ok (ae P e) w:=by simp [sizeOf,typeInfo,hinf,hsz]
 have hbig : ¬ m * ae P e > 2 ^ 24:=by omega
 have hrun : ∀ arr : Array Value,arr.size = m * ae P e → ∃ cells',Instr.fill (fun i=>some (i * ae P e,ae P e)) arr (ps.toList.map fun q=>(q.1,a.eval q.2)) = some cells' ∧ cells'.size = arr.size ∧ (∀ p,p < 0 * ae P e → cells'[p]? = arr[p]?) ∧ CZ P w C e 0 (qs.map (·.2)) cells' :=
  fun arr harr=>j6 m qs (ps.toList.map fun q=>(q.1,a.eval q.2)) 0 arr (by rw [hk,hlen]) (by simpa using hq.1) harr (by omega) (hq.rel hr) hf
 have e1 : (Array.map (fun x=>(x.1,a.eval x.2)) ps).toList = ps.toList.map fun q=>(q.1,a.eval q.2):=by simp
 obtain ⟨zc,hzc⟩ : ∃ zc : Array Value,zc = if m * ae P e = 0 then #[] else z.cells:=⟨_,rfl⟩
 obtain ⟨cells',f1,f2,_,cf,f4⟩:=hrun ((Array.range (m * ae P e)).map (zc[· % zc.size]!)) (by simp)
 have hl : (qs.map (·.2)).length = m:=by simpa using hlen
 have hmax : m ≤ maxLen:=by
  have : m * 1 ≤ m * ae P e:=Nat.mul_le_mul_left _ he
  unfold maxLen; omega
 have hsize : cells'.size = m * ae P e:=by simpa using f2
 obtain ⟨C',k1,k2,k3,_⟩:=rz (P:=P) (W0:=W0) hr.st (e:=e) (zs:=qs.map (·.2)) (cap:=m) (arr:=cells') (cf:=cf) (by rw [hl]; exact Nat.le_refl _) hmax hsize (fun i x hx=>by
  have:=f4 i x hx
  rw [Nat.zero_add] at this
  exact ⟨this.1,this.1.bk this.2.1,this.2.1,this.2.2⟩)
 rw [hl] at k3
 refine ⟨_,_,C',?_,k1,k2,k3⟩
 simp only [execOp,ho,Instr.buildSlice,Sem.run_bind,Result.andThen_ok,run_underlying (bF ht),hsv,hbig,if_false,Sem.run_pure]
 by_cases h0 : m * ae P e = 0
 ·rw [if_pos h0] at hzc ⊢
  subst hzc
  simp only [Sem.run_bind,Sem.run_pure,Result.andThen_ok]
  rw [e1,f1]
  simp only [newRow,newObj,Sem.run_bind,Sem.run_pure]
  rfl
 ·rw [if_neg h0] at hzc ⊢
  subst hzc
  simp only [Sem.run_bind,Sem.run_pure,Result.andThen_ok,hzv]
  rw [e1,f1]
  simp only [newRow,newObj,Sem.run_bind,Sem.run_pure]
  rfl
end
end Go.Av
end
section
namespace Go.Av
open Go

section
variable {P : Program} {W0 w w' : World} {C C' : Ctx} {σ σ' : ab} {n : Nat} {A : aa} {a : Act} {o : Oper}

theorem mw {t u e : TypeId} {i : TypeInfo} (ht : P.underlying t = some (.slice e)) (hu : P.underlying u = some .string) (hi : P.info? e = some i) (ty : TypeId) (b : Option Addr) (l c : Nat) {s : ByteArray} (hs : s.size = 0) (hl : l ≤ c) (w : World) :
  (Builtin.append_ #[t,u] ty #[.slice b l c,.string s]).run P w = .ok (.slice b l c) w:=by
 have he : s.data = #[]:=by
  have : s.data.size = 0:=hs
  exact Array.eq_empty_of_size_eq_zero this
 cases b <;> simp [Builtin.append_,run_underlying ht,run_underlying hu,sizeOf,typeInfo,hi,Builtin.lenOf,hs,hl,Builtin.firstCells,he,loadCells,loadCellsFrom,storeCells]
theorem vr (hr : eh P W0 o w C A a) {x y : Operand} {t u e : TypeId} {v : AV} {xs : List AV} {l : List UInt8} (ho : o.op = .call { callee:=.builtin .append,args:=#[x,y],argTypes:=#[t,u] })
  (hx : Is P W0 o A x v) (hy : Is P W0 o A y (.str l)) (ht : elT P t = some e) (hu : bH P u = true) (he8 : eB P e = some .u8) (h1 : ae P e = 1) (hp : cb P e = true) (he : 0 < ae P e) (hz0 : aZ P e = true) (hb : Bld A.st v e xs)
  (hbytes : (xs.length + l.length) * bytesOf P e ≤ 140737488355328) (hmax : xs.length + l.length ≤ maxLen) :
  ∃ r w' C' v' σ',(execOp a.eval o).run P w = .ok (.value r) w' ∧ App A.st v e (xs ++ l.map cT) v' σ' ∧ Step w C w' C' ∧ aw P W0 w' C' σ' ∧ az P w' C' v' r:=by
 obtain ⟨inf,hinf,hsz⟩:=bh he
 have htu:=bF ht
 have hus:=cS hu
 have hrun : ∀ b l c yv r w',(Builtin.append_ #[t,u] o.type #[.slice b l c,yv]).run P w = .ok r w' → a.eval x = .slice b l c → a.eval y = yv → (execOp a.eval o).run P w = .ok (.value r) w':=fun b l c yv r w' h h1 h2=>by
  simp [execOp,ho,resolve,invoke,builtin,h1,h2,h]
 have hxv:=hx w C a hr
 obtain ⟨hye,hlm⟩:=(hy w C a hr).eW
 obtain ⟨s,hs⟩ : ∃ s : ByteArray,s = ⟨l.toArray⟩:=⟨_,rfl⟩
 rw [← hs] at hye
 obtain ⟨ys,hys⟩ : ∃ ys : List AV,ys = l.map cT:=⟨_,rfl⟩
 have hyl0 : ys.length = l.length:=by rw [hys,List.length_map]
 have hss : s.size = ys.length:=by rw [hs,hyl0]; simp [ByteArray.size]
 rw [← hys]
 rw [← hyl0] at hbytes hmax
 obtain ⟨cfy,hcfy⟩ : ∃ cfy : Nat → List Value,cfy = fun i=>[.int .u8 ((l.getD i 0).toNat : Nat)]:=⟨_,rfl⟩
 have hgy : ∀ (i : Nat) (x : AV),ys[i]? = some x → ∃ c,l[i]? = some c ∧ x = cT c ∧ cfy i = [.int .u8 c.toNat]:=fun i x hx=>by
  rw [hys,List.getElem?_map] at hx
  obtain ⟨c,hc,rfl⟩:=Option.map_eq_some_iff.1 hx
  refine ⟨c,hc,rfl,?_⟩
  rw [hcfy]
  simp only [List.getD_eq_getElem?_getD,hc,Option.getD_some]
 have y3 : ∀ (i : Nat) (x : AV),ys[i]? = some x → Rel P w C x (cfy i):=fun i x hx=>by
  obtain ⟨c,_,rfl,e1⟩:=hgy i x hx
  rw [e1]; exact .int _ _
 have y4 : ∀ i x,ys[i]? = some x → (cfy i).length = ae P e ∧ fits P e x:=fun i x hx=>by
  obtain ⟨c,_,rfl,e1⟩:=hgy i x hx
  rw [e1]; exact ⟨by simp [h1],⟨rfl,hp⟩⟩
 obtain ⟨bx,cx,hxe,hlx⟩ : ∃ b c,a.eval x = .slice b xs.length c ∧ xs.length ≤ c:=by
  rcases hb with ⟨rfl,rfl⟩ | rfl | ⟨tok,rfl,_⟩
  ·exact ⟨none,0,hxv.cR,Nat.le_refl _⟩
  ·have:=hxv.aA rfl
   generalize a.eval x = v at this
   cases this with
   | lit=>exact ⟨_,_,rfl,Nat.le_refl _⟩
  ·obtain ⟨b,cap,cf,h1,h2,_⟩:=(hxv.aA rfl).qj
   exact ⟨_,_,h1,h2⟩
 cases hyl : ys with
 | nil =>
  rw [hyl] at hss
  refine ⟨_,w,C,v,A.st,hrun _ _ _ _ _ _ (mw htu hus hinf _ _ _ _ (by rw [hss]; rfl) hlx w) hxe hye,⟨by simpa using hb,Nat.le_refl _,fun _ _ _=>rfl,.inl rfl⟩,.refl _ _,hr.st,by rw [← hxe]; exact hxv⟩
 | cons y0 yr =>
  rw [← hyl]
  have hpos : 0 < ys.length:=by simp [hyl]
  obtain ⟨news,hnews⟩ : ∃ news : List Value,news = Lib.strCells s:=⟨_,rfl⟩
  have n1 : news.length = ys.length * ae P e:=by rw [hnews,Lib.strCells_length,hss,h1,Nat.mul_one]
  have n3 : ∀ u ∈ news,u.oneCell' = true:=by rw [hnews]; exact Lib.strCells_oneCell s
  have n4 : ∀ i x,ys[i]? = some x → ∀ (j : Nat) (u : Value),(cfy i)[j]? = some u → news[i * ae P e + j]? = some u:=fun i x hx j u hj=>by
   obtain ⟨c,hc,rfl,e1⟩:=hgy i x hx
   rw [e1] at hj
   cases j with
   | succ j=>simp at hj
   | zero =>
    simp only [List.getElem?_cons_zero,Option.some.injEq] at hj
    subst hj
    rw [h1,Nat.mul_one,Nat.add_zero,hnews,hs]
    simp only [Lib.strCells,List.getElem?_map,hc,Option.map_some]
  have hsa : s.data.map (fun b=>Value.int .u8 b.toNat) = news.toArray:=by rw [hnews]; apply Array.ext'; simp [Lib.strCells]
  obtain ⟨inf',z0,hinf',hiz,hzs⟩:=eC hz0
  obtain rfl : inf' = inf:=by rw [hinf] at hinf'; exact (Option.some.inj hinf').symm
  have hmax' : xs.length + ys.length ≤ 9223372036854775807:=by unfold maxLen at hmax; omega
  rw [jN hinf] at hbytes
  rcases hb with ⟨rfl,rfl⟩ | rfl | ⟨tok,rfl,htok⟩
  ·-- a nil slice
   simp only [List.length_nil,Nat.zero_add] at hbytes hmax hmax'
   have hxe':=hxv.cR
   have hap:=run_append_nil_string (P:=P) w t u o.type e inf' z0 htu hus hinf hiz s (by omega) (by omega) (by rw [hss]; omega)
   rw [hss,hsa] at hap
   have hge:=grownCap_ge w ys.length 0 e
   have hcap:=grownCap_le_maxLen w ys.length 0 e hmax
   obtain ⟨C',g1,g2,g3⟩:=lK (P:=P) (W0:=W0) hr.st.drew (e:=e) (zs:=ys) (cap:=grownCap w ys.length 0 e) (arr:=news.toArray ++ Builtin.zeroCells z0.cells (grownCap w ys.length 0 e - ys.length)) (cf:=cfy) hge hcap
    (by simp only [Array.size_append,List.size_toArray,size_zeroCells,n1,hzs,← Nat.add_mul]; congr 1; omega)
    (fun i x hx=>⟨(y3 i x hx).mono (Step.drew w C),(y4 i x hx).1,(y4 i x hx).2,fun j u hj=>by
     have:=n4 i x hx j u hj
     rw [Array.getElem?_append_left (by simpa using (List.getElem?_eq_some_iff.1 this).1)]
     simpa using this⟩)
   refine ⟨_,_,C',_,_,hrun _ _ _ _ _ _ hap hxe' hye,⟨.inr (.inr ⟨_,rfl,by simp⟩),by simp,fun id hid _=>by rw [List.getElem?_append_left hid],.inr ⟨_,rfl,Nat.le_refl _⟩⟩,(Step.drew w C).trans g1,g2,g3⟩
  ·-- a list as long as its row
   obtain ⟨adx,capx,cfx,hxq,x1,x2,x3,x4,x5⟩:=(hxv.aA rfl).lf (.inr (.inl rfl))
   have hcx : capx = xs.length:=by
    have:=hxv.aA rfl
    rw [hxq] at this
    cases this
    rfl
   subst hcx
   have hlen : (xs ++ ys).length = xs.length + ys.length:=by simp
   have hgetl : ∀ i x,(xs ++ ys)[i]? = some x → (i < xs.length ∧ xs[i]? = some x) ∨ (xs.length ≤ i ∧ ys[i - xs.length]? = some x):=fun i x hx=>by
    by_cases hi : i < xs.length
    ·rw [List.getElem?_append_left hi] at hx; exact .inl ⟨hi,hx⟩
    ·rw [List.getElem?_append_right (by omega)] at hx; exact .inr ⟨by omega,hx⟩
   have hge:=grownCap_ge w (xs.length + ys.length) xs.length e
   have hcap:=grownCap_le_maxLen w (xs.length + ys.length) xs.length e hmax
   have fin : ∀ (olds : List Value),olds.length = xs.length * ae P e → (∀ i x,xs[i]? = some x → ∀ (j : Nat) (u : Value),(cfx i)[j]? = some u → olds[i * ae P e + j]? = some u) →
     (Builtin.append_ #[t,u] o.type #[.slice adx xs.length xs.length,a.eval y]).run P w = .ok (.slice (some ⟨w.heap.size,0,none⟩) (xs.length + ys.length) (grownCap w (xs.length + ys.length) xs.length e)) (w.drew.alloc (.cells (olds.toArray ++ news.toArray ++ Builtin.zeroCells z0.cells (grownCap w (xs.length + ys.length) xs.length e - (xs.length + ys.length))) e)) →
     ∃ r w' C' v' σ',(execOp a.eval o).run P w = .ok (.value r) w' ∧ App A.st (.lit e xs) e (xs ++ ys) v' σ' ∧ Step w C w' C' ∧ aw P W0 w' C' σ' ∧ az P w' C' v' r:=fun olds p1 p4 hap=>by
    obtain ⟨C',g1,g2,g3⟩:=lK (P:=P) (W0:=W0) hr.st.drew (e:=e) (zs:=xs ++ ys) (cap:=grownCap w (xs.length + ys.length) xs.length e)
     (arr:=olds.toArray ++ news.toArray ++ Builtin.zeroCells z0.cells (grownCap w (xs.length + ys.length) xs.length e - (xs.length + ys.length))) (cf:=fun i=>if i < xs.length then cfx i else cfy (i - xs.length)) (by rw [hlen]; exact hge) hcap
     (by simp only [Array.size_append,List.size_toArray,size_zeroCells,p1,n1,hzs,← Nat.add_mul]; congr 1; omega)
     (fun i x hx=>by
      rcases hgetl i x hx with ⟨hi,hx'⟩ | ⟨hi,hx'⟩
      ·simp only [hi,if_true]
       refine ⟨(x3 i x hx').mono (Step.drew w C),(x4 i x hx').1,(x4 i x hx').2,fun j u hj=>?_⟩
       have:=p4 i x hx' j u hj
       have hl:=(List.getElem?_eq_some_iff.1 this).1
       rw [Array.getElem?_append_left (by simp; omega),Array.getElem?_append_left (by simpa using hl)]
       simpa using this
      ·simp only [show ¬ i < xs.length by omega,if_false]
       refine ⟨(y3 _ x hx').mono (Step.drew w C),(y4 _ x hx').1,(y4 _ x hx').2,fun j u hj=>?_⟩
       have:=n4 _ x hx' j u hj
       have hl:=(List.getElem?_eq_some_iff.1 this).1
       have hmul : i * ae P e = xs.length * ae P e + (i - xs.length) * ae P e:=by rw [← Nat.add_mul]; congr 1; omega
       rw [Array.getElem?_append_left (by simp; omega),Array.getElem?_append_right (by simp; omega)]
       simp only [List.size_toArray,p1,List.getElem?_toArray]
       rw [show i * ae P e + j - xs.length * ae P e = (i - xs.length) * ae P e + j by omega]
       exact this)
    rw [hlen] at g3
    exact ⟨_,_,C',_,_,hrun _ _ _ _ _ _ hap hxq rfl,⟨.inr (.inr ⟨_,rfl,by simp⟩),by simp,fun id hid _=>by rw [List.getElem?_append_left hid],.inr ⟨_,rfl,Nat.le_refl _⟩⟩,(Step.drew w C).trans g1,g2,g3⟩
   rw [hye] at fin
   cases adx with
   | none =>
    have hx0 : xs = []:=by
     cases xs with
     | nil=>rfl
     | cons c r=>obtain ⟨b,off,e1,_⟩:=x5 (by simp); cases e1
    subst hx0
    simp only [List.length_nil,Nat.zero_add] at hbytes hmax hmax' fin
    have hap:=run_append_nil_string (P:=P) w t u o.type e inf' z0 htu hus hinf hiz s (by omega) (by omega) (by rw [hss]; omega)
    rw [hss,hsa] at hap
    exact fin [] (by simp) (by simp) (by simpa using hap)
   | some b0 =>
    have hcells : ∃ olds : List Value,olds.length = xs.length * ae P e ∧ (∀ (j : Nat) (u : Value),olds[j]? = some u → w.cell? (b0.add j) = some u) ∧ ∀ i x,xs[i]? = some x → ∀ (j : Nat) (u : Value),(cfx i)[j]? = some u → olds[i * ae P e + j]? = some u:=by
     by_cases hxl : xs = []
     ·subst hxl; exact ⟨[],by simp,by simp,by simp⟩
     ·have hxp : 0 < xs.length:=by cases xs with | nil=>exact absurd rfl hxl | cons=>simp
      obtain ⟨bx',ox',e1,x6⟩:=x5 hxp
      cases e1
      obtain ⟨olds,p1,p2,p3,p4⟩:=gh x3 x4 x6
      exact ⟨olds,p1,fun j u hj=>by rw [Addr.add_lit]; exact p2 j u hj,p4⟩
    obtain ⟨olds,p1,p2,p4⟩:=hcells
    have hap:=Lib.run_append_grow_string (P:=P) w t u o.type e inf' z0 htu hus hinf hiz b0 xs.length xs.length olds (by rw [p1,hsz]) p2 s (by omega) (by rw [hss]; omega) (by rw [hss]; exact growslice_fits (by omega) hbytes)
    rw [hss,← hnews] at hap
    exact fin olds p1 p4 hap
  ·-- a row of the call's own
   obtain ⟨b,cap,cf,hxq,c1,c2,c3,c4,c5,c6⟩:=(hxv.aA rfl).qj
   obtain ⟨b',e',hw,cap',arr,t1,t2,t3,t4⟩:=hr.st.tok htok
   have t5:=c6 _ t1
   cases t5
   have htl : tok < A.st.length:=(List.getElem?_eq_some_iff.1 htok).1
   have hlen : (xs ++ ys).length = xs.length + ys.length:=by simp
   have hgetl : ∀ i x,(xs ++ ys)[i]? = some x → (i < xs.length ∧ xs[i]? = some x) ∨ (xs.length ≤ i ∧ ys[i - xs.length]? = some x):=fun i x hx=>by
    by_cases hi : i < xs.length
    ·rw [List.getElem?_append_left hi] at hx; exact .inl ⟨hi,hx⟩
    ·rw [List.getElem?_append_right (by omega)] at hx; exact .inr ⟨by omega,hx⟩
   have hxcells : ∀ (i : Nat) (x : AV),xs[i]? = some x → ∀ (j : Nat) (u : Value),(cf i)[j]? = some u → arr[i * ae P e + j]? = some u ∧ i * ae P e + j < xs.length * ae P e:=fun i x hx j u hj=>by
    have hi:=(List.getElem?_eq_some_iff.1 hx).1
    obtain ⟨b2,o2,e2,hc⟩:=c5 (by omega)
    cases e2
    have h1:=(hc i hi j u hj).1
    simp only [World.cell?,t2,Nat.zero_add,Option.isSome_none,Bool.false_eq_true,if_false] at h1
    have hjl : j < ae P e:=by rw [← (c4 i x hx).1]; exact (List.getElem?_eq_some_iff.1 hj).1
    have : (i + 1) * ae P e ≤ xs.length * ae P e:=Nat.mul_le_mul_right _ hi
    rw [Nat.succ_mul] at this
    exact ⟨h1,by omega⟩
   by_cases hroom : xs.length + ys.length ≤ cap
   ·-- in place
    have hfit : xs.length * ae P e + news.length ≤ arr.size:=by rw [n1,t3,← Nat.add_mul]; exact Nat.mul_le_mul_right _ hroom
    have hap:=Lib.run_append_room_string (P:=P) w t u o.type e inf' htu hus hinf (by rw [hsz]; exact h1) b xs.length cap arr t2 s (by rw [hss]; exact hroom) (by rw [hss]; rw [n1,h1] at hfit; omega)
    rw [hss,← hnews] at hap
    have hsp : (arr.toList.take xs.length ++ news ++ arr.toList.drop (xs.length + ys.length)).toArray = ba arr (xs.length * ae P e) news:=by
     unfold ba
     rw [n1,h1,Nat.mul_one,Nat.mul_one]
    rw [hsp] at hap
    obtain ⟨C',g1,g2,g3,g4,g5⟩:=v8 hr.st htok t1 t2 t3 hfit
    have hnewcell : ∀ i,(w.setRow b (ba arr (xs.length * ae P e) news)).cell? ⟨b,i,none⟩ = (ba arr (xs.length * ae P e) news)[i]?:=fun i=>cell_setRow_same w b i arr _ e _ t2
    refine ⟨_,_,C',.own e (xs ++ ys) A.st.length,_,hrun _ _ _ _ _ _ hap hxq hye,⟨.inr (.inr ⟨_,rfl,by simp⟩),by simp,fun id hid hne=>?_,.inr ⟨_,rfl,Nat.le_refl _⟩⟩,g1,g2,?_⟩
    ·rw [List.getElem?_append_left (by simpa using hid),List.getElem?_set_ne (fun e=>hne (by simp [ef,e]))]
    ·rw [← hlen]
     refine .one rfl (.own (fun i=>if i < xs.length then cf i else cfy (i - xs.length)) (by rw [hlen]; exact hroom) c2 (fun i x hx=>?_) (fun i x hx=>?_) (fun _=>⟨b,0,rfl,fun i hi j u hj=>?_⟩) (by rw [g3]; omega) (fun ow how=>?_))
     ·rcases hgetl i x hx with ⟨hi,hx'⟩ | ⟨hi,hx'⟩
      ·rw [if_pos hi]; exact (c3 i x hx').mono g1
      ·rw [if_neg (by omega)]; exact (y3 _ x hx').mono g1
     ·rcases hgetl i x hx with ⟨hi,hx'⟩ | ⟨hi,hx'⟩
      ·simp only [hi,if_true]; exact c4 i x hx'
      ·simp only [show ¬ i < xs.length by omega,if_false]; exact y4 _ x hx'
     ·have hst : ∀ k,k < xs.length * ae P e + news.length → ec (w.setRow b (ba arr (xs.length * ae P e) news)) C' b k:=fun k hk =>
       ⟨by simpa using (Array.getElem?_eq_some_iff.1 t2).1,fun id ow hm hbk=>⟨_,_,_,g5 id ow hm hbk,hk⟩⟩
      rw [hnewcell,Nat.zero_add,bg hfit]
      by_cases hix : i < xs.length
      ·simp only [hix,if_true] at hj
       obtain ⟨q1,q2⟩:=hxcells i _ (List.getElem?_eq_getElem hix) j u hj
       rw [if_neg (by omega)]
       exact ⟨q1,hst _ (by omega)⟩
      ·simp only [hix,if_false] at hj
       rw [hlen] at hi
       have hyi:=List.getElem?_eq_getElem (show i - xs.length < ys.length by omega)
       have hnw:=n4 _ _ hyi j u hj
       have hnl:=(List.getElem?_eq_some_iff.1 hnw).1
       have hmul : i * ae P e = xs.length * ae P e + (i - xs.length) * ae P e:=by rw [← Nat.add_mul]; congr 1; omega
       rw [if_pos (by omega),show i * ae P e + j - xs.length * ae P e = (i - xs.length) * ae P e + j by omega]
       exact ⟨hnw,hst _ (by omega)⟩
     ·rw [g4] at how
      cases how
      rw [n1,hlen,Nat.add_mul]
   ·-- a new row
    obtain ⟨olds,p1,p2,p3,p4⟩:=gh (P:=P) (e:=e) (b:=b) (off:=0) c3 c4 (fun i hi=>by
     obtain ⟨b2,o2,e2,hc⟩:=c5 (by omega)
     cases e2
     exact hc i hi)
    have hap:=Lib.run_append_grow_string (P:=P) w t u o.type e inf' z0 htu hus hinf hiz ⟨b,0,none⟩ xs.length cap olds (by rw [p1,hsz]) (fun j u hj=>by rw [Addr.add_lit]; exact p2 j u hj) s (by omega) (by rw [hss]; omega) (by rw [hss]; exact growslice_fits (by omega) hbytes)
    rw [hss,← hnews] at hap
    have hge:=grownCap_ge w (xs.length + ys.length) cap e
    have hcap:=grownCap_le_maxLen w (xs.length + ys.length) cap e hmax
    obtain ⟨k1,k2⟩:=hr.st.kill tok htl
    obtain ⟨C',g1,g2,g3⟩:=lK (P:=P) (W0:=W0) k2.drew (e:=e) (zs:=xs ++ ys) (cap:=grownCap w (xs.length + ys.length) cap e)
     (arr:=olds.toArray ++ news.toArray ++ Builtin.zeroCells z0.cells (grownCap w (xs.length + ys.length) cap e - (xs.length + ys.length))) (cf:=fun i=>if i < xs.length then cf i else cfy (i - xs.length)) (by rw [hlen]; exact hge) hcap
     (by simp only [Array.size_append,List.size_toArray,size_zeroCells,p1,n1,hzs,← Nat.add_mul]; congr 1; omega)
     (fun i x hx=>by
      have hs:=k1.trans (Step.drew w _)
      rcases hgetl i x hx with ⟨hi,hx'⟩ | ⟨hi,hx'⟩
      ·simp only [hi,if_true]
       refine ⟨(c3 i x hx').mono hs,(c4 i x hx').1,(c4 i x hx').2,fun j u hj=>?_⟩
       have:=p4 i x hx' j u hj
       have hl:=(List.getElem?_eq_some_iff.1 this).1
       rw [Array.getElem?_append_left (by simp; omega),Array.getElem?_append_left (by simpa using hl)]
       simpa using this
      ·simp only [show ¬ i < xs.length by omega,if_false]
       refine ⟨(y3 _ x hx').mono hs,(y4 _ x hx').1,(y4 _ x hx').2,fun j u hj=>?_⟩
       have:=n4 _ x hx' j u hj
       have hl:=(List.getElem?_eq_some_iff.1 this).1
       have hmul : i * ae P e = xs.length * ae P e + (i - xs.length) * ae P e:=by rw [← Nat.add_mul]; congr 1; omega
       rw [Array.getElem?_append_left (by simp; omega),Array.getElem?_append_right (by simp; omega)]
       simp only [List.size_toArray,p1,List.getElem?_toArray]
       rw [show i * ae P e + j - xs.length * ae P e = (i - xs.length) * ae P e + j by omega]
       exact this)
    rw [hlen] at g3
    rw [List.length_set] at g3
    refine ⟨_,_,C',_,_,hrun _ _ _ _ _ _ hap hxq hye,⟨.inr (.inr ⟨A.st.length,rfl,by simp⟩),by simp,fun id hid hne=>?_,.inr ⟨_,rfl,Nat.le_refl _⟩⟩,(k1.trans (Step.drew w _)).trans g1,g2,g3⟩
    rw [List.getElem?_append_left (by simpa using hid),List.getElem?_set_ne (fun e=>hne (by simp [ef,e]))]
end
end Go.Av
end
section
namespace Go.Av
open Go

section
variable {P : Program} {W0 w w' : World} {C C' : Ctx} {σ σ' : ab} {n : Nat} {A : aa} {a : Act} {o : Oper} {fz : List Nat} {K : aa → Prop}

theorem cm {v : Value} (hrun : (execOp a.eval o).run P w = .ok (.value v) w') {next : Act → World → Prop} {Qx : Exit → Act → World → Prop} (h : next (a.put o.dst v) w') : o.wp P a w next Qx:=by
 unfold Oper.wp
 rw [hrun]
 exact h

theorem lS (hrun : (execOp a.eval o).run P w = .ok .skip w') {next : Act → World → Prop} {Qx : Exit → Act → World → Prop} (h : next (a.put o.dst undef) w') : o.wp P a w next Qx:=by
 unfold Oper.wp
 rw [hrun]
 exact h

theorem bI {x : Operand} (hm : x ∈ o.op.operands) {k : AV → Prop} (h : strip none (A.val x) k) : ∃ u,k u ∧ Is P W0 o A x u:=aP (gd:=none) hm h
theorem kV {xs : List Operand} (hm : ∀ x ∈ xs,x ∈ o.op.operands) {k : List AV → Prop} (h : stripL none (xs.map A.val) k) : ∃ us,k us ∧ IsL P W0 o A xs us:=fQ (gd:=none) _ _ hm h

theorem zk (hr : bE P W0 n w C A a) (hd : gY n o.dst) {t : TypeId} {x y : Operand} {u v : AV} (ho : o.op = .store t x y) (hx : Is P W0 o A x u) (hy : Is P W0 o A y v)
  (h : jZ P fz A t x u v fun A'=>K (A'.put o.dst .undef)) {next : Act → World → Prop} {Qx : Exit → Act → World → Prop}
  (hn : ∀ A' C' a' w',K A' → bE P W0 n w' C' A' a' → Step w C w' C' → next a' w') : o.wp P a w next Qx:=by
 unfold jZ at h
 split at h
 ·obtain ⟨⟨rfl,hf⟩,h⟩:=h
  rename_i t' id i path
  split at h
  ·rename_i te xs hs
   split at h
   ·rename_i z hz
    split at h
    ·rename_i y0 hy0
     split at h
     ·rename_i d
      have hl : look A.st id i path = some y0:=by simp [look,hs,hz,hy0]
      obtain ⟨w',r1,r2,r3⟩:=ph (hr.toO o) ho hx hy hl (eH hf) hs hz
      have hidl : id < A.st.length:=(List.getElem?_eq_some_iff.1 hs).1
      split at h
      ·-- given up
       obtain ⟨rfl,h⟩:=h
       have hzz : z = y0:=by cases z <;> simpa [AV.at] using hy0
       subst hzz
       have hi : i < xs.length:=(List.getElem?_eq_some_iff.1 hz).1
       have hset : z.setAt [] v = v:=by cases z <;> rfl
       rw [hset] at r3
       have hs' : (A.st.set id (some (.cells te (xs.set i v))))[id]? = some (some (.cells te (xs.set i v))):=by simp [hidl]
       have hv:=(hx w C a (hr.toO o)).mono r2
       have hfr:=kA (x:=v) r3 hv hs' (by simp [hi])
       obtain ⟨k1,k2⟩:=r3.kill id (by simpa using hidl)
       rw [List.set_set] at k2
       have hr1:=hr.step (r2.trans k1) k2
       have hdn : d < n:=by
        by_cases hdn : d < n
        ·exact hdn
        ·have hle : a.tmps.size ≤ d:=by rw [hr.size]; exact Nat.le_of_not_lt hdn
         have : a.eval (.tmp d) = undef:=by
          show a.tmps.getD d undef = undef
          rw [Array.getD_eq_getD_getElem?,Array.getElem?_eq_none hle]
          rfl
         rw [this] at hfr
         obtain ⟨_,_,_,e,_⟩:=hfr.nu
         cases e
       have hr2 : bE P W0 n w' (C.kill id) ((A.upd d (.loc t' v)).ag (A.st.set id none)) a:=by
        refine ⟨fun j=>?_,hr1.defers,hr1.size,hr1.st⟩
        by_cases hj : j = d
        ·subst hj
         have hfr' : az P w' (C.kill id) (.loc t' v) (a.tmps.getD j undef):=hfr
         simpa [aa.upd,aa.ag] using hfr'
        ·have:=hr1.env j; simpa [aa.upd,aa.ag,hj] using this
       have hr3:=ki (o:=o) (v:=.undef) (x:=undef) hr2 hd (.undef _)
       exact lS r1 (hn _ _ _ _ h hr3 (r2.trans k1))
      ·have hr1:=hr.step r2 r3
       have hr3:=ki (o:=o) (v:=.undef) (x:=undef) hr1 hd (.undef _)
       exact lS r1 (hn _ _ _ _ h hr3 r2)
     ·exact h.elim
    ·exact h.elim
   ·exact h.elim
  ·exact h.elim
 ·exact h.elim

def Bb (fz : List Nat) : Op → Prop
 | .store _ (.tmp d) _=>fz.contains d = false
 | _=>True

theorem xf (hr : eh P W0 o w C A a) {t : TypeId} {x y : Operand} {u v : AV} (ho : o.op = .store t x y) (hnf : Bb fz (.store t x y)) (hx : Is P W0 o A x u) (hy : Is P W0 o A y v)
  (h : jZ P fz A t x u v fun A'=>K (A'.put o.dst .undef)) {next : Act → World → Prop} {Qx : Exit → Act → World → Prop}
  (hn : ∀ v x σ' w' C',K ((A.put o.dst v).ag σ') → az P w' C' v x → aw P W0 w' C' σ' → Step w C w' C' → next (a.put o.dst x) w') : o.wp P a w next Qx:=by
 unfold jZ at h
 split at h
 ·obtain ⟨⟨rfl,hf⟩,h⟩:=h
  rename_i t' id i path
  split at h
  ·rename_i te xs hs
   split at h
   ·rename_i z hz
    split at h
    ·rename_i y0 hy0
     split at h
     ·rename_i d
      have hl : look A.st id i path = some y0:=by simp [look,hs,hz,hy0]
      obtain ⟨w',r1,r2,r3⟩:=ph hr ho hx hy hl (eH hf) hs hz
      rw [if_neg (by simp only [Bb] at hnf; rw [hnf]; simp)] at h
      refine lS r1 (hn .undef undef _ w' C ?_ (.undef _) r3 r2)
      have e : ∀ σ,(A.ag σ).put o.dst .undef = (A.put o.dst .undef).ag σ:=fun σ=>by cases o.dst <;> rfl
      rw [← e]; exact h
     ·exact h.elim
    ·exact h.elim
   ·exact h.elim
  ·exact h.elim
 ·exact h.elim

theorem rS (hr : eh P W0 o w C A a) (hnf : Bb fz o.op) (h : sv P W0 n fz o A K) {next : Act → World → Prop} {Qx : Exit → Act → World → Prop}
  (hn : ∀ v x σ' w' C',K ((A.put o.dst v).ag σ') → az P w' C' v x → aw P W0 w' C' σ' → Step w C w' C' → next (a.put o.dst x) w') : o.wp P a w next Qx:=by
 have hval : iC P W0 none o.op A (fun v=>K (A.put o.dst v)) → o.wp P a w next Qx:=fun h=>by
  obtain ⟨v,hK,hp⟩:=fj hr h
  exact hp w C a hr _ _ fun x w' hv hs hst=>hn v x A.st w' C (by
   have e : (A.put o.dst v).ag A.st = A.put o.dst v:=by cases o.dst <;> rfl
   rw [e]; exact hK) hv hst hs
 obtain ⟨hd,h⟩:=h
 split at h
 ·rename_i c hc
  obtain ⟨callee,args,argTypes⟩:=c
  split at h
  ·rename_i f hf
   simp only at hf
   subst hf
   obtain ⟨fv,h,hfv⟩:=bI (P:=P) (W0:=W0) (o:=o) (by simp [*,Op.operands,Call.operands]) h
   obtain ⟨us,h,hus⟩:=kV (P:=P) (W0:=W0) (o:=o) (fun y hy=>by simp [*,Op.operands,Call.operands]; simp at hy; simp [hy]) h
   split at h
   ·refine yq hr hc hfv hus h (fun v r σ' w' C' hK hst hv hs=>hn r v σ' w' C' hK hv hst hs)
   ·exact h.elim
  ·rename_i hf
   simp only at hf
   subst hf
   obtain ⟨us,h2,hus⟩:=kV (P:=P) (W0:=W0) (o:=o) (fun y hy=>by simp [*,Op.operands,Call.operands]; simp at hy; simp [hy]) h
   clear h
   split at h2
   ·obtain ⟨x,y,hxy,hx,hy⟩:=my hus
    simp only at hxy
    subst hxy
    rcases h2 with h2 | h2 | h2 | h2 | h2 | h2
    ·unfold nX at h2
     split at h2
     ·rename_i ts t u hts
      obtain rfl : argTypes = #[t,u]:=by rw [← Array.toArray_toList (xs:=argTypes)]; simp only at hts; rw [hts]
      obtain ⟨e,xs,ys,⟨h1,h2,h3,h4⟩,h5,h6,h7,h8,h9⟩:=h2
      obtain ⟨r,w',C',v',σ',g1,g2,g3,g4,g5⟩:=Bm hr hc hx hy h1 h2 h3 h4 h5 h6 h7 h8
      exact cm g1 (hn v' r σ' w' C' (h9 v' σ' g2) g5 g4 g3)
     ·exact h2.elim
    ·unfold jl at h2
     split at h2
     ·rename_i ts t u hts
      obtain rfl : argTypes = #[t,u]:=by rw [← Array.toArray_toList (xs:=argTypes)]; simp only at hts; rw [hts]
      obtain ⟨e,xs,ys,⟨h1,h2,h3,h4⟩,h5,h6,h7,h8,h9,h10⟩:=h2
      obtain ⟨r,w',C',v',σ',g1,g2,g3,g4,g5⟩:=vn hr hc hx hy h1 h2 h3 h4 h5 h6 h7 h8
      refine cm g1 (hn v' r σ' w' C' ?_ g5 g4 g3)
      rcases g2 with ⟨e1,rfl,rfl⟩ | ⟨e1,rfl,rfl⟩
      ·exact h9 e1
      ·exact h10 e1
     ·exact h2.elim
    ·unfold ia at h2
     split at h2
     ·rename_i ts t u hts
      obtain rfl : argTypes = #[t,u]:=by rw [← Array.toArray_toList (xs:=argTypes)]; simp only at hts; rw [hts]
      obtain ⟨e,m,z,k,kn,⟨rfl,rfl⟩,⟨h1,h2,h3,h4,h5⟩,h6,h7,h8,h9⟩:=h2
      obtain ⟨r,w',C',g1,g2,g3,g4⟩:=sr hr hc hx hy h1 h2 h3 h5 h6 h7 h8
      exact cm g1 (hn _ r _ w' C' h9 g4 g3 g2)
     ·exact h2.elim
    ·unfold j5 at h2
     split at h2
     ·rename_i ts t u hts
      obtain rfl : argTypes = #[t,u]:=by rw [← Array.toArray_toList (xs:=argTypes)]; simp only at hts; rw [hts]
      obtain ⟨e,id,off,m,zs,ys,⟨h1,h2,h3⟩,rfl,h4,h5,h6,h7⟩:=h2
      obtain ⟨r,w',g1,g2,g3,g4⟩:=xI hr hc hx hy h1 h2 h3 h4 h5 h6
      exact cm g1 (hn _ r _ w' C h7 g4 g3 g2)
     ·exact h2.elim
    ·unfold ib at h2
     split at h2
     ·rename_i ts t u hts
      obtain rfl : argTypes = #[t,u]:=by rw [← Array.toArray_toList (xs:=argTypes)]; simp only at hts; rw [hts]
      obtain ⟨e,id,off,m,zs,ys,⟨h1,h2,h3,h4⟩,rfl,h5,h6,h7,h8,h9,h10,h11⟩:=h2
      obtain ⟨r,w',C',v',σ',g1,g5,g2,g3,g4⟩:=sR hr hc hx hy h1 h2 h3 h4 h5 h6 h7 h8 h9
      rcases g5 with ⟨rfl,rfl⟩ | ⟨rfl,rfl⟩
      ·exact cm g1 (hn _ r _ w' C' h10 g4 g3 g2)
      ·exact cm g1 (hn _ r _ w' C' h11 g4 g3 g2)
     ·exact h2.elim
    ·unfold iW at h2
     split at h2
     ·rename_i ts t u hts
      obtain rfl : argTypes = #[t,u]:=by rw [← Array.toArray_toList (xs:=argTypes)]; simp only at hts; rw [hts]
      obtain ⟨e,xs,l,⟨h1,h3,h4,h5,h6,h7⟩,h8,rfl,h9,h10,h11⟩:=h2
      obtain ⟨r,w',C',v',σ',g1,g5,g2,g3,g4⟩:=vr hr hc hx hy h1 h3 h4 h5 h6 (by rw [h5]; decide) h7 h8 h9 h10
      exact cm g1 (hn _ r _ w' C' (h11 v' σ' g5) g4 g3 g2)
     ·exact h2.elim
   ·exact h2.elim
  ·rename_i hf
   simp only at hf
   subst hf
   obtain ⟨us,h2,hus⟩:=kV (P:=P) (W0:=W0) (o:=o) (fun y hy=>by simp [*,Op.operands,Call.operands]; simp at hy; simp [hy]) h
   clear h
   split at h2
   ·obtain ⟨x,hxy,hx⟩:=gi hus
    simp only at hxy
    subst hxy
    unfold qi at h2
    split at h2
    ·rename_i ts t hts
     obtain rfl : argTypes = #[t]:=by rw [← Array.toArray_toList (xs:=argTypes)]; simp only at hts; rw [hts]
     obtain ⟨e,id,off,m,zs,v,⟨h1,h2,h3⟩,rfl,h4,h5,h6⟩:=h2
     obtain ⟨r,w',g1,g2,g3,g4⟩:=Fx hr hc hx h1 h2 h3 h4 h5
     exact cm g1 (hn _ r _ w' C h6 g4 g3 g2)
    ·exact h2.elim
   ·exact h2.elim
  ·exact hval h
 ·rename_i t x hop
  split at h
  ·rename_i d hdst
   split at h
   ·obtain ⟨v,h,hv⟩:=bI (P:=P) (W0:=W0) (o:=o) (by simp [*,Op.operands]) h
    exact (Ee hop hv (eH h.1)).pure w C a hr _ _ fun x w' hv hs hst=>hn _ x A.st w' C (by
     have e : (A.put o.dst (.loc t v)).ag A.st = A.put o.dst (.loc t v):=by cases o.dst <;> rfl
     rw [e,hdst]; exact h.2) hv hst hs
   ·obtain ⟨v,h,hv⟩:=bI (P:=P) (W0:=W0) (o:=o) (by simp [*,Op.operands]) h
    obtain ⟨y,w',C',g1,g2,g3,g4⟩:=GF hr hop hv (eH h.1)
    exact cm g1 (hn _ y _ w' C' (by rw [hdst]; exact h.2) g2 g4 g3)
  ·exact h.elim
 ·rename_i t hop
  split at h
  ·rename_i v hz
   obtain ⟨y,w',C',g1,g2,g3,g4⟩:=B0 hr hop hz
   exact cm g1 (hn _ y _ w' C' h g2 g4 g3)
  ·exact h.elim
 ·rename_i t x y hop
  obtain ⟨u,h,hu⟩:=bI (P:=P) (W0:=W0) (o:=o) (by simp [*,Op.operands]) h
  obtain ⟨v,h,hv⟩:=bI (P:=P) (W0:=W0) (o:=o) (by simp [*,Op.operands]) h
  unfold uH at h
  split at h
  ·obtain ⟨rfl,h⟩:=h
   split at h
   ·rename_i e he
    split at h
    ·rename_i z hz
     obtain ⟨h1,h2,h3,h4,h5⟩:=h
     obtain ⟨r,w',C',g1,g2,g3,g4⟩:=vd hr hop hu hv he hz h1 h2 h3 h4
     exact cm g1 (hn _ r _ w' C' h5 g4 g3 g2)
    ·exact h.elim
   ·exact h.elim
  ·exact h.elim
 ·rename_i t x y hop
  obtain ⟨u,h,hu⟩:=bI (P:=P) (W0:=W0) (o:=o) (by simp [*,Op.operands]) h
  obtain ⟨v,h,hv⟩:=bI (P:=P) (W0:=W0) (o:=o) (by simp [*,Op.operands]) h
  exact xf hr hop (by rw [hop] at hnf; exact hnf) hu hv h hn
 ·rename_i t x hop
  obtain ⟨ht,h⟩:=h
  obtain ⟨u,h,hu⟩:=bI (P:=P) (W0:=W0) (o:=o) (by simp [*,Op.operands]) h
  split at h
  ·obtain ⟨y,w',C',g1,g2,g3,g4⟩:=ET hr hop hu (cS ht)
   exact cm g1 (hn _ y _ w' C' h g2 g4 g3)
  ·exact h.elim
 ·rename_i x hop
  obtain ⟨u,h,hu⟩:=bI (P:=P) (W0:=W0) (o:=o) (by simp [*,Op.operands]) h
  split at h
  ·split at h
   ·rename_i l pos hs
    rcases Nat.lt_or_ge pos l.length with hp | hp
    ·obtain ⟨y,w',g1,g2,g3,g4⟩:=Cr hr hop hu hs hp
     exact cm g1 (hn _ y _ w' C (h.1 hp) g2 g4 g3)
    ·obtain ⟨y,g1,g2⟩:=Bv hr hop hu hs hp
     exact cm g1 (hn _ y A.st w C (by
      have e : (A.put o.dst (.tup [.bool false])).ag A.st = A.put o.dst (.tup [.bool false]):=by cases o.dst <;> rfl
      rw [e]; exact h.2 hp) g2 hr.st (.refl _ _))
   ·exact h.elim
  ·exact h.elim
 ·rename_i t x lo hi mx hop
  rcases h with h | h
  ·exact hval h
  obtain ⟨u,h,hu⟩:=bI (P:=P) (W0:=W0) (o:=o) (by simp [*,Op.operands]) h
  have fin : ∀ v,bN P W0 o A v → K (A.put o.dst v) → o.wp P a w next Qx:=fun v hv hK=>hv.pure w C a hr _ _ fun x w' hv hs hst=>hn v x A.st w' C (by
   have e : (A.put o.dst v).ag A.st = A.put o.dst v:=by cases o.dst <;> rfl
   rw [e]; exact hK) hv hst hs
  unfold zh at h
  split at h
  ·obtain ⟨⟨h1,h2⟩,h⟩:=h
   split at h
   ·obtain ⟨p,h,hp⟩:=ca (P:=P) (W0:=W0) (o:=o) (gd:=none) (fun y hy=>by simp [hop,Op.operands,hy]) h
    obtain ⟨q,h,hq⟩:=ca (P:=P) (W0:=W0) (o:=o) (gd:=none) (fun y hy=>by simp [hop,Op.operands,hy]) h
    obtain ⟨⟨h3,te,zs,h4,h5⟩,hK⟩:=h
    exact fin _ (sL hop hu h1 h2 hp hq h3 h4 h5) hK
   ·obtain ⟨⟨hl,hh⟩,h⟩:=h
    obtain ⟨y1,rfl⟩:=Option.isSome_iff_exists.1 hl
    obtain ⟨y2,rfl⟩:=Option.isSome_iff_exists.1 hh
    rename_i y3
    obtain ⟨p,h,hp⟩:=ca (P:=P) (W0:=W0) (o:=o) (gd:=none) (fun y hy=>by cases hy; simp [hop,Op.operands]) h
    obtain ⟨q,h,hq⟩:=ca (P:=P) (W0:=W0) (o:=o) (gd:=none) (fun y hy=>by cases hy; simp [hop,Op.operands]) h
    obtain ⟨r,h,hr'⟩:=ca (P:=P) (W0:=W0) (o:=o) (gd:=none) (fun y hy=>by cases hy; simp [hop,Op.operands]) h
    obtain ⟨⟨h3,h4,h5⟩,hK⟩:=h
    obtain ⟨k1,i1,p1,p2,p3⟩:=hp
    obtain ⟨k2,i2,q1,q2,q3⟩:=hq
    obtain ⟨k3,i3,r1,r2,r3⟩:=hr'
    exact fin _ (A7 hop hu h1 h2 p1 q1 r1 p2 (by omega) (by omega) (by omega)) hK
  ·exact h.elim
 ·rename_i s d x hop
  rcases h with h | h
  ·exact hval h
  obtain ⟨u,h,hu⟩:=bI (P:=P) (W0:=W0) (o:=o) (by simp [*,Op.operands]) h
  rcases h with ⟨l,e,rfl,⟨h1,h2,h3,h4,h5⟩,hK⟩ | ⟨l,e,h0,⟨h1,h2,h3,h4⟩,hK⟩ | ⟨e,id,off,m,xs,rfl,⟨rfl,h1,h2⟩,h3,h4,h5,hK⟩
  ·obtain ⟨y,w',C',g1,g2,g3,g4⟩:=Df hr hop hu h1 h2 h3 h4 h5
   exact cm g1 (hn _ y _ w' C' hK g4 g3 g2)
  ·obtain ⟨y,g1,g2⟩:=Cy hr hop hu h0 h1 h2 h3 h4
   exact cm g1 (hn _ y _ w C hK g2 hr.st (.refl _ _))
  ·obtain ⟨y,w',C',g1,g2,g3,g4⟩:=sN hr hop hu h1 h2 h3 h4 h5
   exact cm g1 (hn _ y _ w' C' hK g4 g3 g2)
 ·rename_i t m ps hop
  rcases h with h | h
  ·exact hval h
  obtain ⟨qs,h,hq⟩:=gj (gd:=none) (P:=P) (W0:=W0) (o:=o) _ _ (fun p hp=>by simp only [hop,Op.operands]; exact List.mem_toArray.2 (List.mem_map_of_mem hp)) h
  unfold mq at h
  split at h
  ·rename_i e he
   obtain ⟨⟨g1,g2,g3,g4,g5⟩,hK⟩:=h
   obtain ⟨y,w',C',q1,q2,q3,q4⟩:=wF hr hop he g1 g2 (by omega) hq g4 (fun p hp=>eH (List.all_eq_true.1 g5 p hp))
   exact cm q1 (hn _ y _ w' C' hK q4 q3 q2)
  ·exact h.elim
 ·rename_i t hop
  split at h
  ·rename_i kt vt ht
   obtain ⟨y,w',C',g1,g2,g3,g4⟩:=HK hr hop kt
   exact cm g1 (hn _ y _ w' C' h g2 g4 g3)
  ·exact h.elim
 ·rename_i t x ix y hop
  obtain ⟨u,h,hu⟩:=bI (P:=P) (W0:=W0) (o:=o) (by simp [*,Op.operands]) h
  obtain ⟨k,h,hk⟩:=bI (P:=P) (W0:=W0) (o:=o) (by simp [*,Op.operands]) h
  obtain ⟨v,h,hv⟩:=bI (P:=P) (W0:=W0) (o:=o) (by simp [*,Op.operands]) h
  unfold tX at h
  split at h
  ·obtain ⟨kt,vt,l,h1,h2,h3,h4,h5,h6⟩:=h
   obtain ⟨w',g1,g2,g3⟩:=GX (u:=.nil) hr hop hu hk hv h1 h2 h3 h4 h5
   exact lS g1 (hn .undef undef _ w' C h6 (.undef _) g3 g2)
  ·exact h.elim
 ·exact hval h

theorem uJ (hr : bE P W0 n w C A a) (h : sv P W0 n fz o A K) {next : Act → World → Prop} {Qx : Exit → Act → World → Prop}
  (hn : ∀ A' C' a' w',K A' → bE P W0 n w' C' A' a' → Step w C w' C' → next a' w') : o.wp P a w next Qx:=by
 have key : Bb fz o.op → o.wp P a w next Qx:=fun hnf=>rS (hr.toO o) hnf h fun v x σ' w' C' hK hv hst hs=>hn _ C' _ w' hK (jI hr h.1 hs hst hv) hs
 cases hop : o.op
 case store t x y =>
  obtain ⟨hd,h2⟩:=h
  rw [hop] at h2
  obtain ⟨u,h2,hu⟩:=bI (P:=P) (W0:=W0) (o:=o) (by simp [*,Op.operands]) h2
  obtain ⟨v,h2,hv⟩:=bI (P:=P) (W0:=W0) (o:=o) (by simp [*,Op.operands]) h2
  exact zk hr hd hop hu hv h2 hn
 all_goals exact key (by rw [hop]; trivial)

theorem rh {ops : Array Oper} {j : Nat} {want G : Bool} (hr : bE P W0 n w C A a) (h : wW ops A j want = some G) (ho : o.guard = some (j,want)) : Region.wanted o (yielded ops a.tmps) = G:=by
 unfold wW at h
 split at h
 ·rename_i d hd
  have he:=hr.env d
  have hget : a.tmps.getD d undef = (a.tmps[d]?).getD undef:=by simp
  split at h
  ·rename_i b hb
   rw [hb] at he
   simp only [Option.some.injEq] at h
   have hv:=he.fx
   rw [hget] at hv
   cases ht : a.tmps[d]? with
   | none=>rw [ht] at hv; cases hv
   | some v =>
    rw [ht] at hv
    simp only [Option.getD_some] at hv
    subst hv h
    have hy : yielded ops a.tmps j = some b:=by unfold yielded; rw [hd]; simp only [Option.bind_some,ht]
    simp only [Region.wanted,ho,hy]
    cases b <;> cases want <;> rfl
  ·rename_i g b hb
   rw [hb] at he
   simp only [Option.some.injEq] at h
   cases he with
   | one h1=>simp [AV.aS] at h1
   | maybe h1 h2 =>
    cases g with
    | true =>
     have hv:=(h1 rfl).fx
     rw [hget] at hv
     cases ht : a.tmps[d]? with
     | none=>rw [ht] at hv; cases hv
     | some v =>
      rw [ht] at hv
      simp only [Option.getD_some] at hv
      subst hv
      subst h
      have hy : yielded ops a.tmps j = some b:=by unfold yielded; rw [hd]; simp only [Option.bind_some,ht]
      simp only [Region.wanted,ho,hy]
      cases b <;> cases want <;> rfl
    | false =>
     have hv:=h2 rfl
     rw [hget] at hv
     subst h
     have hy : yielded ops a.tmps j = none:=by
      unfold yielded
      rw [hd]
      simp only [Option.bind_some]
      cases ht : a.tmps[d]? with
      | none=>rfl
      | some v =>
       rw [ht] at hv
       simp only [Option.getD_some] at hv
       subst hv
       rfl
     simp only [Region.wanted,ho,hy]
     cases want <;> rfl
  ·rename_i v0 hnb hb
   rw [hb] at he
   simp only [Option.some.injEq] at h
   cases he with
   | one h1=>simp [AV.aS] at h1
   | maybe h1 h2 =>
    have hv:=h2 rfl
    rw [hget] at hv
    subst h
    have hy : yielded ops a.tmps j = none:=by
     unfold yielded
     rw [hd]
     simp only [Option.bind_some]
     cases ht : a.tmps[d]? with
     | none=>rfl
     | some v =>
      rw [ht] at hv
      simp only [Option.getD_some] at hv
      subst hv
      rfl
    simp only [Region.wanted,ho,hy]
    cases want <;> rfl
  ·cases h
 ·cases h

theorem Dz {G : Bool} (hr : bE P W0 n w C A a) (h : iC P W0 (some G) o.op A fun v=>K (A.put o.dst (.maybe G v))) :
  ∃ v,K (A.put o.dst (.maybe G v)) ∧ (G = true → cV P W0 o A v):=fj (hr.toO o) h

theorem gF {ops : Array Oper} {Qx : Exit → Act → World → Prop} : ∀ (l : List Oper) (K : aa → Prop) (A : aa) (w : World) (C : Ctx) (a : Act),bE P W0 n w C A a → nk P W0 n fz ops l K A →
  (∀ A' C' a' w',K A' → bE P W0 n w' C' A' a' → Step w C w' C' → Qx .normal a' w') → ka P ops Qx l a w
 | [],K,A,w,C,a,hr,h,hn=>wS (hn A C a w h hr (.refl _ _))
 | o :: r,K,A,w,C,a,hr,h,hn=>by
  have nd : ∀ {K' : aa → Prop},sv P W0 n fz o A K' → ∀ c,o.op ≠ .defer c:=fun h=>dA (uJ hr h fun A' C' a' w' _ hr' _=>hr'.defers.trans hr.defers.symm)
  simp only [nk] at h
  split at h
  ·rename_i hg
   exact mQ (by simp [Region.wanted,hg]) (uJ hr h (fun A' C' a' w' hK hr' hs=>gF r K A' w' C' a' hr' hK (fun A'' C'' a'' w'' hK' hr'' hs'=>hn A'' C'' a'' w'' hK' hr'' (hs.trans hs')))) (nd h)
  ·rename_i j want hg
   split at h
   ·rename_i G hG
    obtain ⟨hd,h⟩:=h
    have hw:=rh hr hG hg
    rcases h with h | ⟨ht,hf⟩
    case inr =>
     cases G with
     | true=>exact mQ hw (uJ hr (ht rfl) (fun A' C' a' w' hK hr' hs=>gF r K A' w' C' a' hr' hK (fun A'' C'' a'' w'' hK' hr'' hs'=>hn A'' C'' a'' w'' hK' hr'' (hs.trans hs')))) (nd (ht rfl))
     | false =>
      obtain ⟨v0,hf0⟩:=hf rfl
      exact nA hw (gF r K (A.put o.dst (.maybe false v0)) w C _ (ki hr hd (az.maybe (fun e=>by cases e) (fun _=>rfl))) hf0 hn)
    obtain ⟨v,hK,hp⟩:=Dz hr h
    cases G with
    | true =>
     refine mQ hw (hp rfl w C a (hr.toO o) _ _ fun x w' hv hs hst=>gF r K (A.put o.dst (.maybe true v)) w' C _ ?_ hK (fun A'' C'' a'' w'' hK' hr'' hs'=>hn A'' C'' a'' w'' hK' hr'' (hs.trans hs'))) (dA (hp rfl w C a (hr.toO o) _ _ fun x w' _ _ _=>put_defers a o.dst x))
     have:=jI (o:=o) hr hd hs hst (az.maybe (g:=true) (fun _=>hv) (fun e=>by cases e))
     cases ho : o.dst <;> simpa [ho,aa.put,aa.upd,aa.ag] using this
    | false =>
     refine nA hw (gF r K (A.put o.dst (.maybe false v)) w C _ ?_ hK hn)
     exact ki hr hd (az.maybe (fun e=>by cases e) (fun _=>rfl))
   ·exact h.elim

theorem VC.region {id : Nat} {l : List Oper} {Q : Exit → aa → Prop} (h : nk P W0 n fz l.toArray l (fun A'=>Q .normal A') A) : VC P W0 n (.region id l.toArray false) Q A:=fun w C a hr =>
 q9 (gF l _ A w C a hr h fun A' C' _ _ q r s=>⟨A',C',q,r,s⟩)

def gz (args : List AV) : Nat → AV:=fun i=>args[i]?.getD .undef

def gN (env : Nat → AV) : List Nat → AV
 | [t]=>env t
 | ts=>.tup (ts.map env)

theorem tc {F : ResultVar → Sem Value} {tmps : Array Value} (hF : ∀ t,(F (.tmp t)).run P w = .ok (tmps.getD t undef) w) : ∀ ts : List Nat,((ts.map ResultVar.tmp).mapM F).run P w = .ok (ts.map fun t=>tmps.getD t undef) w
 | []=>rfl
 | t :: ts=>by
  rw [List.map_cons,List.mapM_cons]
  simp only [Sem.run_bind,hF,Result.andThen_ok,tc hF ts,Sem.run_pure,List.map_cons]

theorem kS {fn : Func} {ts : List Nat} (hr : bE P W0 n w C A a) (h : fn.results = (ts.map ResultVar.tmp).toArray) : ∃ v,(results fn a.tmps).run P w = .ok v w ∧ az P w C (gN A.env ts) v:=by
 have hm : (results fn a.tmps).run P w = .ok (if h : (ts.map fun t=>a.tmps.getD t undef).toArray.size = 1 then (ts.map fun t=>a.tmps.getD t undef).toArray[0] else .tuple (ts.map fun t=>a.tmps.getD t undef).toArray) w:=by
  unfold results
  rw [h,Array.mapM_eq_mapM_toList]
  simp only [Sem.run_bind,Sem.run_map]
  rw [tc (tmps:=a.tmps) (fun t=>rfl) ts]
  rfl
 match ts,hm with
 | [],hm=>exact ⟨_,hm,.tup (vs:=[]) rfl (by simp)⟩
 | [t],hm=>exact ⟨_,hm,hr.env t⟩
 | t :: u :: ts,hm =>
  refine ⟨_,hm,?_⟩
  rw [dif_neg (by simp)]
  refine .tup (by simp) (fun i x v hx hv=>?_)
  simp only [List.getElem?_map,Option.map_eq_some_iff] at hx hv
  obtain ⟨q,hq,rfl⟩:=hx
  obtain ⟨q',hq',rfl⟩:=hv
  rw [hq] at hq'
  cases hq'
  exact hr.env q

def Ky (ts : List Nat) (Q : AV → ab → Prop) (σ : ab) : Exit → aa → Prop
 | .normal,A | .ret,A=>∃ r' σ',cI (gN A.env ts) r' ∧ (σ.length ≤ σ'.length ∧ σ' = A.st.take σ'.length) ∧ (∀ id te xs,id < σ'.length → A.st[id]? = some (some (.cells te xs)) → ∀ x ∈ xs,aN σ'.length x) ∧ aN σ'.length r' ∧ Q r' σ'
 | _,_=>False

theorem jP {args : List AV} {vs : List Value} {m : Nat} (hst : aw P W0 w C σ) (hl : args.length = vs.length) (hv : ∀ (i : Nat) (a : AV) (v : Value),args[i]? = some a → vs[i]? = some v → az P w C a v) (hargs : args.length ≤ m) :
  bE P W0 m w C ⟨gz args,σ⟩ { tmps:=vs.toArray ++ Array.replicate (m - vs.toArray.size) undef,defers:=[] }:=by
 refine ⟨fun i=>?_,rfl,by simp; omega,hst⟩
 simp only [gz]
 by_cases hi : i < args.length
 ·have h1:=List.getElem?_eq_getElem hi
  have h2:=List.getElem?_eq_getElem (l:=vs) (show i < vs.length by omega)
  rw [h1,Option.getD_some]
  have h3:=hv i _ _ h1 h2
  have : (vs.toArray ++ Array.replicate (m - vs.toArray.size) undef).getD i undef = vs[i]:=by
   rw [Array.getD_eq_getD_getElem?,Array.getElem?_append_left (by simp; omega)]
   simp [h2]
  rw [this]
  exact h3
 ·rw [List.getElem?_eq_none (by omega),Option.getD_none]
  exact .undef _

theorem pT {f : FuncId} {fn : Func} {c : Code} {args : List AV} {Q : AV → ab → Prop} (hf : P.funcs[f]? = some fn) (hb : fn.body = some c) (hnm : (fn.name == "runtime.NumGoroutine") = false) (hargs : args.length ≤ fn.ntmps) {ts : List Nat} (hres : fn.results = (ts.map ResultVar.tmp).toArray)
  (h : VC P W0 fn.ntmps c (Ky ts Q σ) ⟨gz args,σ⟩) : aU P W0 f args σ Q:=by
 refine fun w C vs hst hl hv=>.inl ⟨⟨fn,hf,by simp [hb],hnm⟩,calls_of_wp hf hb ?_⟩
 have hr : bE P W0 fn.ntmps w C ⟨gz args,σ⟩ { tmps:=vs.toArray ++ Array.replicate (fn.ntmps - vs.toArray.size) undef,defers:=[] }:=by
  refine ⟨fun i=>?_,rfl,by simp; omega,hst⟩
  simp only [gz]
  by_cases hi : i < args.length
  ·have h1:=List.getElem?_eq_getElem hi
   have h2:=List.getElem?_eq_getElem (l:=vs) (show i < vs.length by omega)
   rw [h1,Option.getD_some]
   have h3:=hv i _ _ h1 h2
   have : (vs.toArray ++ Array.replicate (fn.ntmps - vs.toArray.size) undef).getD i undef = vs[i]:=by
    rw [Array.getD_eq_getD_getElem?,Array.getElem?_append_left (by simp; omega)]
    simp [h2]
   rw [this]
   exact h3
  ·rw [List.getElem?_eq_none (by omega),Option.getD_none]
   exact .undef _
 refine wp_mono (vk (h w C _ hr)) fun e a' w' ⟨A',C',q,r,s⟩=>?_
 have fin : (∃ r' σ',cI (gN A'.env ts) r' ∧ (σ.length ≤ σ'.length ∧ σ' = A'.st.take σ'.length) ∧ (∀ id te xs,id < σ'.length → A'.st[id]? = some (some (.cells te xs)) → ∀ x ∈ xs,aN σ'.length x) ∧ aN σ'.length r' ∧ Q r' σ') →
   a'.defers = [] ∧ ∃ v,(results fn a'.tmps).run P w' = .ok v w' ∧ ∃ v₁ r σ' C',Ending.returned v = .returned v₁ ∧ Q r σ' ∧ aw P W0 w' C' σ' ∧ az P w' C' r v₁ ∧ Step w C w' C':=by
  rintro ⟨r1,σ',h2,⟨h3,h4⟩,h5,h6,h7⟩
  obtain ⟨v,g1,g2⟩:=kS r hres
  have hle : σ'.length ≤ A'.st.length:=by have:=congrArg List.length h4; rw [List.length_take] at this; omega
  refine ⟨r.defers,v,g1,v,r1,σ',C'.dp σ'.length,rfl,h7,?_,(g2.cK h2).dp h6,s.dp (by rw [hst.nx]; exact h3)⟩
  have:=r.st.dp hle h5
  rwa [← h4] at this
 cases e with
 | normal=>exact fin q
 | ret=>exact fin q
 | _=>exact q.elim

end
end Go.Av
end
section
namespace Go.Av
open Go

def isW : Op → Bool | .store _ _ _=>true | _=>false
def GM (fz : List Nat) : Option Nat → Bool | some d=>fz.contains (2000000 + d) | none=>false
def rdM (fz : List Nat) : Option Nat → Bool | some d=>fz.contains (3000000 + d) | none=>false
def eM (fz : List Nat) (id : Nat) (o : Oper) : Bool:=match o.dst with | some d=>fz.contains (2000000 + d) | none=>fz.contains (4000000 + id)

def isR (fz : List Nat) (dst : Option Nat) : Op → Bool
 | .load _ (.tmp d)=>!(fz.contains d || fz.contains (6000000 + d))
 | .load _ _=>true
 | .indexAddr _ _ _=>true
 | .lookup _ _ _ _=>true
 | .call _=>rdM fz dst
 | _=>false

def isZ : Op → Bool | .load _ (.tmp _)=>true | _=>false
def yV : Op → Bool | .alloc _=>true | _=>false
theorem sZ {op : Op} (h : isW op = true) : isZ op = false:=by cases op <;> first | rfl | (simp [isW] at h)
def gU (P : Program) (W0 : World) (fz : List Nat) (o : Oper) (A : aa) (v : AV) : Prop :=
 cV P W0 o A v ∧ (isR fz o.dst o.op = false → ∀ σ,cV P W0 o (A.ag σ) v) ∧ (isZ o.op = true → ∀ τ,cV P W0 o (A.ag (A.st ++ τ)) v)

def A4 (P : Program) (W0 : World) (o : Oper) (A : aa) (σ' : ab) : Prop :=
 ∀ w C a,eh P W0 o w C A a → ∃ w',(execOp a.eval o).run P w = .ok .skip w' ∧ Step w C w' C ∧ aw P W0 w' C σ'

def gR (P : Program) (W0 : World) (n : Nat) (fz : List Nat) (ops : Array Oper) (o : Oper) (A : aa) (v : AV) (σ' : ab) : Prop :=
 gY n o.dst ∧ (match o.guard with
  | none=>(isW o.op = false ∧ σ' = A.st ∧ gU P W0 fz o A v) ∨ (isW o.op = true ∧ v = .undef ∧ A4 P W0 o A σ')
  | some (j,want)=>isW o.op = false ∧ σ' = A.st ∧ ∃ G u,wW ops A j want = some G ∧ v = .maybe G u ∧ (G = true → gU P W0 fz o A u))

inductive Seq (P : Program) (W0 : World) (n : Nat) (fz : List Nat) (E : Oper → Bool) (ops : Array Oper) : List Oper → aa → List AV → List ab → aa → Prop
 | nil (A) : Seq P W0 n fz E ops [] A [] [] A
 | cons {o r A v σ' vs ss B} : E o = false → gR P W0 n fz ops o A v σ' → Seq P W0 n fz E ops r ((A.put o.dst v).ag σ') vs ss B → Seq P W0 n fz E ops (o :: r) A (v :: vs) (σ' :: ss) B
 | skip {o r A vs ss B} : E o = true → Seq P W0 n fz E ops r A vs ss B → Seq P W0 n fz E ops (o :: r) A (.undef :: vs) (A.st :: ss) B

def AN : List (List Nat) → List Oper → List (List Nat)
 | acc,[]=>acc
 | acc,o :: r=>AN (acc ++ [((o.after.toList.filter (Region.binds .any)).flatMap fun e=>e.on :: (acc[e.on]?).getD []).eraseDups]) r
def RM (ops : Array Oper) (ac : List (List Nat)) : Bool :=
 (List.range ops.size).all fun i=>match ops[i]? with
  | none=>true
  | some o=>((ac[i]?).getD []).all fun j=>o.after.any fun e=>Region.binds .any e && (e.on == j || ((ac[e.on]?).getD []).contains j)

def ey (o : Oper) (j : Nat) : Bool:=o.after.any fun e=>e.on == j && Region.binds .any e

def zN (fz : List Nat) (E : Oper → Bool) (ops : Array Oper) (ac : List (List Nat)) (i j : Nat) (oi oj : Oper) : Bool :=
 ((match oj.dst with
  | none=>true
  | some d=>oi.dst != some d && (!(oi.looksAt ops).contains d || ((if j < i then ey oi j else ey oj i) && (!E oj || E oi || decide (i < j)) && (!(E oi && !E oj) || decide (j < i))))) &&
 (!(!E oj && !E oi && isW oj.op && (isW oi.op || isR fz oi.dst oi.op)) || (if j < i then ((ac[i]?).getD []).contains j else ((ac[j]?).getD []).contains i))) &&
 ((!(E oi && E oj && decide (j < i)) || ((ac[i]?).getD []).contains j) &&
 (!(E oi && !E oj && (isW oj.op || isR fz oj.dst oj.op)) || ((yV oi.op && isZ oj.op) || ((ac[i]?).getD []).contains j)))

def wC (fz : List Nat) (E : Oper → Bool) (ops : Array Oper) (ac : List (List Nat)) : Bool :=
 RM ops ac && (List.range ops.size).all fun i=>match ops[i]? with
  | none=>true
  | some oi=>oi.after.all (fun e=>!Region.binds .any e || decide (e.on < i)) && (!E oi || oi.guard.isNone) && (List.range ops.size).all fun j=>match ops[j]? with
   | none=>true
   | some oj=>i == j || zN fz E ops ac i j oi oj

structure iZ (E : Oper → Bool) (ops : Array Oper) (vs : List AV) (A : aa) (S : Nat → Prop) (B : aa) : Prop where
 set : ∀ i o d v,S i → ops[i]? = some o → E o = false → o.dst = some d → vs[i]? = some v → B.env d = v
 old : ∀ d,(∀ i o,S i → ops[i]? = some o → E o = false → o.dst ≠ some d) → B.env d = A.env d

section
variable {P : Program} {W0 w w' : World} {C C' : Ctx} {n : Nat} {A : aa} {a : Act} {o : Oper} {ops : Array Oper} {K : aa → Prop} {fz : List Nat} {E : Oper → Bool} {ac : List (List Nat)}

theorem aa.D4 (A : aa) (d : Option Nat) (v : AV) : (A.put d v).st = A.st:=by cases d <;> rfl

theorem fu {d : Nat} (h : o.dst = some d) (v : AV) : (A.put o.dst v).env d = v:=by rw [h]; exact A.vZ d v
theorem dF {d : Nat} (h : o.dst ≠ some d) (v : AV) : (A.put o.dst v).env d = A.env d:=by
 cases ho : o.dst with
 | none=>rfl
 | some d'=>exact A.qP v (fun e=>h (by rw [ho,e]))

def rK (ops : Array Oper) : Prop:=∀ (i j : Nat) (oi oj : Oper) (d : Nat),ops[i]? = some oi → ops[j]? = some oj → oi.dst = some d → oj.dst = some d → i = j

theorem iZ.put {vs : List AV} {S : Nat → Prop} {B : aa} {i : Nat} {v : AV} (hD : rK ops) (h : iZ E ops vs A S B) (hi : ops[i]? = some o) (hE : E o = false) (hv : vs[i]? = some v) : iZ E ops vs A (fun j=>S j ∨ j = i) (B.put o.dst v):=by
 refine ⟨fun j oj d u hj hoj hej hd hu=>?_,fun d hd=>?_⟩
 ·rcases hj with hj | rfl
  ·by_cases hod : o.dst = some d
   ·have:=hD i j o oj d hi hoj hod hd
    subst this
    rw [hv] at hu
    cases hu
    exact fu hod v
   ·rw [dF hod]; exact h.set j oj d u hj hoj hej hd hu
  ·rw [hi] at hoj
   cases hoj
   rw [hv] at hu
   cases hu
   exact fu hd v
 ·rw [dF (hd i o (.inr rfl) hi hE)]
  exact h.old d (fun j oj hj=>hd j oj (.inl hj))

theorem gG (A : aa) (σ : ab) : (A.ag σ).env = A.env:=rfl

theorem zw {vs : List AV} {ss : List ab} : ∀ (l : List Oper) (us : List AV) (ts : List ab) (k : Nat) (T B : aa),rK ops → (∀ j,l[j]? = ops[k + j]?) → (∀ j,us[j]? = vs[k + j]?) → (∀ j,ts[j]? = ss[k + 1 + j]?) → ss[k]? = some T.st → Seq P W0 n fz E ops l T us ts B → iZ E ops vs A (· < k) T →
  (∀ j o v,l[j]? = some o → us[j]? = some v → ∃ Tj σ',iZ E ops vs A (· < k + j) Tj ∧ ss[k + j]? = some Tj.st ∧ ss[k + j + 1]? = some σ' ∧ (E o = true → σ' = Tj.st) ∧ (E o = false → gR P W0 n fz ops o Tj v σ')) ∧ iZ E ops vs A (· < k + l.length) B ∧ us.length = l.length ∧ ss[k + l.length]? = some B.st
 | [],us,ts,k,T,B,_,_,_,_,h0,hs,he=>by
  cases hs
  exact ⟨by simp,by simpa using he,rfl,h0⟩
 | o :: r,us,ts,k,T,B,hD,hl,hu,ht,h0,hs,he=>by
  have hok : ops[k]? = some o:=by have:=hl 0; simpa using this.symm
  have hl' : ∀ j,r[j]? = ops[k + 1 + j]?:=fun j=>by have:=hl (j + 1); rw [show k + (j + 1) = k + 1 + j by omega] at this; simpa using this
  cases hs with
  | cons hE h1 h2 =>
   rename_i v σ' vs' ss'
   have hvk : vs[k]? = some v:=by have:=hu 0; simpa using this.symm
   have hsk : ss[k + 1]? = some σ':=by have:=ht 0; simpa using this.symm
   have he' : iZ E ops vs A (· < k + 1) ((T.put o.dst v).ag σ'):=by
    have:=he.put hD hok hE hvk
    exact ⟨fun i oi d u hi=>this.set i oi d u (by omega),fun d hd=>this.old d (fun i oi hi=>hd i oi (by omega))⟩
   obtain ⟨g1,g2,g3,g4⟩:=zw r vs' ss' (k + 1) _ B hD hl' (fun j=>by have:=hu (j + 1); rw [show k + (j + 1) = k + 1 + j by omega] at this; simpa using this)
    (fun j=>by have:=ht (j + 1); rw [show k + 1 + (j + 1) = k + 1 + 1 + j by omega] at this; simpa using this) hsk h2 he'
   refine ⟨fun j oj u hj huj=>?_,?_,by simp [g3],?_⟩
   ·cases j with
    | zero=>simp at hj huj; subst hj huj; exact ⟨T,σ',by simpa using he,h0,hsk,fun e=>by (rw [hE] at e; cases e),fun _=>h1⟩
    | succ j =>
     simp at hj huj
     obtain ⟨Tj,σj,e1,e2,e3,e4⟩:=g1 j oj u hj huj
     rw [show k + 1 + j = k + (j + 1) by omega] at e1 e2 e3
     exact ⟨Tj,σj,e1,e2,e3,e4⟩
   ·rw [List.length_cons,show k + (r.length + 1) = k + 1 + r.length by omega]; exact g2
   ·rw [List.length_cons,show k + (r.length + 1) = k + 1 + r.length by omega]; exact g4
  | skip hE h2 =>
   rename_i vs' ss'
   have hsk : ss[k + 1]? = some T.st:=by have:=ht 0; simpa using this.symm
   have he' : iZ E ops vs A (· < k + 1) T:=by
    refine ⟨fun i oi d u hi hoi hei=>?_,fun d hd=>he.old d (fun i oi hi=>hd i oi (by omega))⟩
    rcases Nat.lt_succ_iff_lt_or_eq.1 hi with hi' | hi'
    ·exact he.set i oi d u hi' hoi hei
    ·subst hi'; rw [hok] at hoi; cases hoi; rw [hE] at hei; cases hei
   obtain ⟨g1,g2,g3,g4⟩:=zw r vs' ss' (k + 1) _ B hD hl' (fun j=>by have:=hu (j + 1); rw [show k + (j + 1) = k + 1 + j by omega] at this; simpa using this)
    (fun j=>by have:=ht (j + 1); rw [show k + 1 + (j + 1) = k + 1 + 1 + j by omega] at this; simpa using this) hsk h2 he'
   refine ⟨fun j oj u hj huj=>?_,?_,by simp [g3],?_⟩
   ·cases j with
    | zero=>simp at hj huj; subst hj huj; exact ⟨T,T.st,by simpa using he,h0,hsk,fun _=>rfl,fun e=>by (rw [hE] at e; cases e)⟩
    | succ j =>
     simp at hj huj
     obtain ⟨Tj,σj,e1,e2,e3,e4⟩:=g1 j oj u hj huj
     rw [show k + 1 + j = k + (j + 1) by omega] at e1 e2 e3
     exact ⟨Tj,σj,e1,e2,e3,e4⟩
   ·rw [List.length_cons,show k + (r.length + 1) = k + 1 + r.length by omega]; exact g2
   ·rw [List.length_cons,show k + (r.length + 1) = k + 1 + r.length by omega]; exact g4

theorem mu {T B : aa} (hst : B.st = T.st) (he : ∀ d ∈ o.looksAt ops,B.env d = T.env d) {w : World} {C : Ctx} {a : Act} (hr : eh P W0 o w C B a) : eh P W0 o w C T a:=by
 have hval : ∀ x ∈ o.op.operands,T.val x = B.val x:=fun x hx=>by
  cases x with
  | tmp t =>
   refine (he t ?_).symm
   simp only [Oper.looksAt,List.mem_append,List.mem_filterMap]
   exact .inl ⟨.tmp t,Array.mem_toList_iff.2 hx,rfl⟩
  | _=>rfl
 exact ⟨fun x hx=>by rw [hval x hx]; exact hr.ops x hx,by rw [← hst]; exact hr.st⟩

theorem db {T B : aa} (hst : B.st = T.st) (he : ∀ d ∈ o.looksAt ops,B.env d = T.env d) {u : AV} (hp : cV P W0 o T u) : cV P W0 o B u:=fun w C a hr next Q hn=>by
 have:=hp w C a (mu hst he hr) next Q
 rw [hst] at hn
 exact this hn

theorem gR.congr {T B : aa} {v : AV} {σ' : ab} (h : gR P W0 n fz ops o T v σ') (hst : (isW o.op || isR fz o.dst o.op) = true → B.st = T.st) (he : ∀ d ∈ o.looksAt ops,B.env d = T.env d) :
  gR P W0 n fz ops o B v (if isW o.op then σ' else B.st):=by
 obtain ⟨hd,h⟩:=h
 have hp : ∀ u,gU P W0 fz o T u → isW o.op = false → cV P W0 o B u:=fun u hp hw=>by
  cases hR : isR fz o.dst o.op with
  | true=>exact db (ops:=ops) (hst (by simp [hR])) he hp.1
  | false=>exact db (ops:=ops) (T:=T.ag B.st) (B:=B) rfl he (hp.2.1 hR B.st)
 have hp2 : ∀ u,gU P W0 fz o T u → isW o.op = false → gU P W0 fz o B u:=fun u hu hw=>⟨hp u hu hw,fun hR σ=>db (ops:=ops) (T:=T.ag σ) (B:=B.ag σ) rfl he (hu.2.1 hR σ),fun hz τ=>by
  cases hR : isR fz o.dst o.op with
  | true =>
   have e:=hst (by simp [hR])
   exact db (ops:=ops) (T:=T.ag (T.st ++ τ)) (B:=B.ag (B.st ++ τ)) (by rw [e]; rfl) he (hu.2.2 hz τ)
  | false=>exact db (ops:=ops) (T:=T.ag (B.st ++ τ)) (B:=B.ag (B.st ++ τ)) rfl he (hu.2.1 hR _)⟩
 refine ⟨hd,?_⟩
 split at h
 ·rcases h with ⟨h1,h2,h3⟩ | ⟨h1,h2,h3⟩
  ·exact .inl ⟨h1,by simp [h1],hp2 v h3 h1⟩
  ·refine .inr ⟨h1,h2,?_⟩
   rw [if_pos h1]
   exact fun w C a hr=>h3 w C a (mu (ops:=ops) (hst (by simp [h1])) he hr)
 ·rename_i j want hg
  obtain ⟨h0,h0',G,u,h1,h2,h3⟩:=h
  refine ⟨h0,by simp [h0],G,u,?_,h2,fun hG=>hp2 u (h3 hG) h0⟩
  rw [← h1]
  unfold wW
  cases hj : (ops[j]?).bind (·.dst) with
  | none=>rfl
  | some d =>
   have hd : B.env d = T.env d:=he d (by
    simp only [Oper.looksAt,List.mem_append,hg,hj]
    exact .inr (by simp))
   simp only [hd]

theorem gR.Mj {T B : aa} {v : AV} {σ' : ab} (h : gR P W0 n fz ops o T v σ') (hz : isZ o.op = true) (τ : ab) (hst : B.st = T.st ++ τ) (he : ∀ d ∈ o.looksAt ops,B.env d = T.env d) : gR P W0 n fz ops o B v B.st:=by
 obtain ⟨hd,h⟩:=h
 have hW : isW o.op = false:=by cases hw : isW o.op with | false=>rfl | true=>rw [sZ hw] at hz; cases hz
 have hp2 : ∀ u,gU P W0 fz o T u → gU P W0 fz o B u:=fun u hu=>⟨db (ops:=ops) (T:=T.ag (T.st ++ τ)) (B:=B) hst he (hu.2.2 hz τ),fun hR σ=>db (ops:=ops) (T:=T.ag σ) (B:=B.ag σ) rfl he (hu.2.1 hR σ),
  fun _ τ'=>db (ops:=ops) (T:=T.ag (T.st ++ (τ ++ τ'))) (B:=B.ag (B.st ++ τ')) (by rw [hst,List.append_assoc]; rfl) he (hu.2.2 hz _)⟩
 refine ⟨hd,?_⟩
 split at h
 ·rcases h with ⟨h1,h2,h3⟩ | ⟨h1,h2,h3⟩
  ·exact .inl ⟨h1,rfl,hp2 v h3⟩
  ·rw [hW] at h1; cases h1
 ·rename_i j want hg
  obtain ⟨h0,h0',G,u,h1,h2,h3⟩:=h
  refine ⟨h0,rfl,G,u,?_,h2,fun hG=>hp2 u (h3 hG)⟩
  rw [← h1]
  unfold wW
  cases hj : (ops[j]?).bind (·.dst) with
  | none=>rfl
  | some d =>
   have hd : B.env d = T.env d:=he d (by
    simp only [Oper.looksAt,List.mem_append,hg,hj]
    exact .inr (by simp))
   simp only [hd]

structure kW (fz : List Nat) (E : Oper → Bool) (ops : Array Oper) (ac : List (List Nat)) : Prop where
 anc : ∀ (i : Nat) (oi : Oper) (j : Nat),ops[i]? = some oi → j ∈ (ac[i]?).getD [] → ∃ e ∈ oi.after,Region.binds .any e = true ∧ (e.on = j ∨ j ∈ (ac[e.on]?).getD [])
 DY : rK ops
 sO : ∀ (i : Nat) (oi : Oper),ops[i]? = some oi → ∀ e ∈ oi.after,Region.binds .any e = true → e.on < i
 gd : ∀ (i : Nat) (oi : Oper),ops[i]? = some oi → E oi = true → oi.guard = none
 look : ∀ (i j : Nat) (oi oj : Oper) (d : Nat),ops[i]? = some oi → ops[j]? = some oj → i ≠ j → oj.dst = some d → d ∈ oi.looksAt ops → (j < i → ey oi j = true) ∧ (i < j → ey oj i = true) ∧ (E oj = true → E oi = false → i < j) ∧ (E oi = true → E oj = false → j < i)
 wr : ∀ (i j : Nat) (oi oj : Oper),ops[i]? = some oi → ops[j]? = some oj → i ≠ j → E oi = false → E oj = false → isW oj.op = true → (isW oi.op || isR fz oi.dst oi.op) = true → (j < i → j ∈ (ac[i]?).getD []) ∧ (i < j → i ∈ (ac[j]?).getD [])
 chain : ∀ (i j : Nat) (oi oj : Oper),ops[i]? = some oi → ops[j]? = some oj → E oi = true → E oj = true → j < i → j ∈ (ac[i]?).getD []
 last : ∀ (i j : Nat) (oi oj : Oper),ops[i]? = some oi → ops[j]? = some oj → E oi = true → E oj = false → (isW oj.op || isR fz oj.dst oj.op) = true → (yV oi.op && isZ oj.op) = false → j ∈ (ac[i]?).getD []

theorem CC (h : wC fz E ops ac = true) : kW fz E ops ac:=by
 unfold wC at h
 rw [Bool.and_eq_true] at h
 obtain ⟨hanc,h⟩:=h
 have hall : ∀ (i : Nat) (oi : Oper),ops[i]? = some oi → oi.after.all (fun e=>!Region.binds .any e || decide (e.on < i)) = true ∧ (!E oi || oi.guard.isNone) = true ∧ ∀ (j : Nat) (oj : Oper),ops[j]? = some oj → (i == j || zN fz E ops ac i j oi oj) = true:=fun i oi hi=>by
  have h1:=List.all_eq_true.1 h i (List.mem_range.2 (Array.getElem?_eq_some_iff.1 hi).1)
  rw [hi] at h1
  simp only [Bool.and_eq_true] at h1
  refine ⟨h1.1.1,h1.1.2,fun j oj hj=>?_⟩
  have h2:=List.all_eq_true.1 h1.2 j (List.mem_range.2 (Array.getElem?_eq_some_iff.1 hj).1)
  rw [hj] at h2
  exact h2
 have pair : ∀ (i j : Nat) (oi oj : Oper),ops[i]? = some oi → ops[j]? = some oj → i ≠ j → (((match oj.dst with
  | none=>true
  | some d=>oi.dst != some d && (!(oi.looksAt ops).contains d || ((if j < i then ey oi j else ey oj i) && (!E oj || E oi || decide (i < j)) && (!(E oi && !E oj) || decide (j < i))))) = true ∧
  (!(!E oj && !E oi && isW oj.op && (isW oi.op || isR fz oi.dst oi.op)) || (if j < i then ((ac[i]?).getD []).contains j else ((ac[j]?).getD []).contains i)) = true) ∧
  (!(E oi && E oj && decide (j < i)) || ((ac[i]?).getD []).contains j) = true ∧ (!(E oi && !E oj && (isW oj.op || isR fz oj.dst oj.op)) || ((yV oi.op && isZ oj.op) || ((ac[i]?).getD []).contains j)) = true):=fun i j oi oj hi hj hne=>by
  have:=(hall i oi hi).2.2 j oj hj
  rw [Bool.or_eq_true] at this
  rcases this with h | h
  ·exact absurd (by simpa using h) hne
  ·unfold zN at h
   rw [Bool.and_eq_true,Bool.and_eq_true,Bool.and_eq_true] at h
   exact h
 refine ⟨fun i oi j hi hj=>?_,fun i j oi oj d hi hj hdi hdj=>?_,fun i oi hi e he hb=>?_,fun i oi hi hE=>?_,fun i j oi oj d hi hj hne hd hm=>?_,fun i j oi oj hi hj hne h1 h2 hw hr=>?_,fun i j oi oj hi hj h1 h2 hlt=>?_,fun i j oi oj hi hj h1 h2 hr haz=>?_⟩
 ·have h1:=List.all_eq_true.1 hanc i (List.mem_range.2 (Array.getElem?_eq_some_iff.1 hi).1)
  rw [hi] at h1
  have h2:=List.all_eq_true.1 h1 j hj
  obtain ⟨e,he,h3⟩:=Array.any_eq_true'.1 h2
  simp only [Bool.and_eq_true,Bool.or_eq_true,beq_iff_eq,List.contains_iff_mem] at h3
  exact ⟨e,he,h3.1,h3.2⟩
 ·by_cases hij : i = j
  ·exact hij
  ·have:=(pair i j oi oj hi hj hij).1.1
   rw [hdj] at this
   simp only [Bool.and_eq_true,bne_iff_ne,ne_eq] at this
   exact absurd hdi this.1
 ·have:=Array.all_eq_true_iff_forall_mem.1 (hall i oi hi).1 e he
  simpa [hb] using this
 ·have:=(hall i oi hi).2.1
  simpa [hE] using this
 ·have:=(pair i j oi oj hi hj hne).1.1
  rw [hd] at this
  simp only [Bool.and_eq_true,bne_iff_ne,ne_eq,Bool.or_eq_true,Bool.not_eq_true',List.contains_eq_mem,decide_eq_false_iff_not] at this
  rcases this.2 with h | ⟨⟨h,h3⟩,h4⟩
  ·exact absurd hm h
  ·refine ⟨fun hlt=>by rwa [if_pos hlt] at h,fun hgt=>by rwa [if_neg (by omega)] at h,fun hE hE'=>?_,fun hE hE'=>?_⟩
   ·rcases h3 with (h3 | h3) | h3
    ·rw [hE] at h3; cases h3
    ·rw [hE'] at h3; cases h3
    ·simpa using h3
   ·rcases h4 with h4 | h4
    ·simp [hE,hE'] at h4
    ·simpa using h4
 ·have:=(pair i j oi oj hi hj hne).1.2
  simp only [h1,h2,hw,hr,Bool.not_false,Bool.and_self,Bool.not_true,Bool.false_or] at this
  refine ⟨fun hlt=>by rw [if_pos hlt] at this; simpa using this,fun hgt=>by rw [if_neg (by omega)] at this; simpa using this⟩
 ·have:=(pair i j oi oj hi hj (by omega)).2.1
  simpa [h1,h2,hlt] using this
 ·have:=(pair i j oi oj hi hj (fun e=>by subst e; rw [hi] at hj; cases hj; rw [h1] at h2; cases h2)).2.2
  simp only [h1,h2,hr,haz,Bool.not_false,Bool.and_self,Bool.not_true,Bool.false_or] at this
  simpa using this

theorem oz (hf : kW fz E ops ac) {S : Nat → Prop} (hcl : ∀ (i : Nat) (oi : Oper),ops[i]? = some oi → S i → ∀ e ∈ oi.after,Region.binds .any e = true → S e.on) :
  ∀ (i : Nat) (oi : Oper),ops[i]? = some oi → (∀ e ∈ oi.after,Region.binds .any e = true → S e.on) → ∀ j ∈ (ac[i]?).getD [],S j:=fun i=>by
 induction i using Nat.strongRecOn with
 | _ i ih =>
  intro oi hi hs j hj
  obtain ⟨e,he,hb,hj'⟩:=hf.anc i oi j hi hj
  have hlt:=hf.sO i oi hi e he hb
  rcases hj' with rfl | hj'
  ·exact hs e he hb
  ·have hk : ∃ ok,ops[e.on]? = some ok:=⟨_,Array.getElem?_eq_getElem (Nat.lt_trans hlt (Array.getElem?_eq_some_iff.1 hi).1)⟩
   obtain ⟨ok,hk⟩:=hk
   exact ih e.on hlt ok hk (hcl e.on ok hk (hs e he hb)) j hj'

theorem fN {j : Nat} (h : ey o j = true) : ∃ e ∈ o.after,e.on = j ∧ Region.binds .any e = true:=by
 unfold ey at h
 obtain ⟨e,he,h⟩:=Array.any_eq_true'.1 h
 simp only [Bool.and_eq_true,beq_iff_eq] at h
 exact ⟨e,he,h.1,h.2⟩

theorem oF {α : Type} {p q : α → Bool} : ∀ {l : List α} {x : α},(∀ y ∈ l,q y = true → p y = true) → x ∈ l → p x = true → q x = false → l.countP q < l.countP p
 | y :: l,x,hpq,hx,hp,hq=>by
  have hle : l.countP q ≤ l.countP p:=List.countP_mono_left (fun z hz=>hpq z (by simp [hz]))
  rcases List.mem_cons.1 hx with rfl | hx
  ·rw [List.countP_cons_of_pos hp,List.countP_cons_of_neg (by simp [hq])]
   omega
  ·have ih:=oF (l:=l) (fun z hz=>hpq z (by simp [hz])) hx hp hq
   by_cases hqy : q y = true
   ·rw [List.countP_cons_of_pos hqy,List.countP_cons_of_pos (hpq y (by simp) hqy)]; omega
   ·rw [List.countP_cons_of_neg hqy]
    by_cases hpy : p y = true
    ·rw [List.countP_cons_of_pos hpy]; omega
    ·rw [List.countP_cons_of_neg hpy]; exact ih

def H4 (E : Oper → Bool) (ops : Array Oper) (ss : List ab) (listed : Array Bool) (st : ab) : Prop :=
 ∃ m,m ≤ ops.size ∧ ss[m]? = some st ∧ ∀ (j : Nat) (oj : Oper),ops[j]? = some oj → E oj = false → isW oj.op = true → (listed.getD j false = true ↔ j < m)

def eVC (P : Program) (W0 : World) (n : Nat) (fz : List Nat) : List Oper → (aa → Prop) → aa → Prop
 | [],K,B=>K B
 | o :: r,K,B=>Bb fz o.op ∧ sv P W0 n fz o B fun B'=>eVC P W0 n fz r K B'

theorem fY {listed : Array Bool} {i : Nat} (hi : i < listed.size) (j : Nat) : (listed.setIfInBounds i true).getD j false = true ↔ (listed.getD j false = true ∨ j = i):=by
 by_cases hj : j = i
 ·subst hj
  simp [Array.getD,hi]
 ·rw [getD_set_ne false (Ne.symm hj)]; simp [hj]

theorem cn {listed : Array Bool} {i : Nat} (hi : i < listed.size) (j : Nat) : (listed.setIfInBounds i true).getD j false = false ↔ (listed.getD j false = false ∧ j ≠ i):=by
 have:=fY hi j
 cases h1 : (listed.setIfInBounds i true).getD j false <;> cases h2 : listed.getD j false <;> simp_all

theorem j9 (hf : kW fz E ops ac) {listed : Array Bool} (hsz : listed.size = ops.size) (hnil : Region.ready .any ops listed = []) : ∀ i,i < ops.size → listed.getD i false = true:=fun i=>by
 induction i using Nat.strongRecOn with
 | _ i ih =>
  intro hi
  cases hl : listed.getD i false with
  | true=>rfl
  | false =>
   exfalso
   have : i ∈ Region.ready .any ops listed:=mem_ready.2 ⟨by
    have h1 : i < listed.size:=by omega
    simp [Array.getD,h1] at hl ⊢
    exact hl,ops[i],Array.getElem?_eq_getElem hi,fun e he hb=>ih e.on (hf.sO i _ (Array.getElem?_eq_getElem hi) e he hb) (by have:=hf.sO i _ (Array.getElem?_eq_getElem hi) e he hb; omega)⟩
   rw [hnil] at this
   cases this

theorem tE {listed : Array Bool} (hfuel : (List.range ops.size).countP (fun i=>!listed.getD i true) ≤ 0) : Region.ready .any ops listed = []:=by
 cases hrd : Region.ready .any ops listed with
 | nil=>rfl
 | cons i r =>
  exfalso
  have hi : i ∈ Region.ready .any ops listed:=by rw [hrd]; simp
  obtain ⟨h1,o,ho,_⟩:=mem_ready.1 hi
  have:=List.countP_pos_iff (p:=fun i=>!listed.getD i true) (l:=List.range ops.size) |>.2 ⟨i,List.mem_range.2 (Array.getElem?_eq_some_iff.1 ho).1,by simp only [h1]; rfl⟩
  omega

theorem CD {listed : Array Bool} {i fuel : Nat} (hsz : listed.size = ops.size) (hilt : i < ops.size) (h1 : listed.getD i true = false) (hfuel : (List.range ops.size).countP (fun i=>!listed.getD i true) ≤ fuel + 1) :
  (List.range ops.size).countP (fun j=>!(listed.setIfInBounds i true).getD j true) ≤ fuel:=by
 have:=oF (l:=List.range ops.size) (p:=fun j=>!listed.getD j true) (q:=fun j=>!(listed.setIfInBounds i true).getD j true) (x:=i) (fun j _ hj=>by
  by_cases hji : j = i
  ·subst hji; simpa using h1
  ·rw [getD_set_ne true (Ne.symm hji)] at hj; exact hj) (List.mem_range.2 hilt) (by rw [h1]; rfl) (by
   have h3 : i < listed.size:=by omega
   simp [Array.getD,h3])
 omega

def rr (ops : Array Oper) (listed : Array Bool) : Prop:=∀ (i : Nat) (oi : Oper),ops[i]? = some oi → listed.getD i true = true → ∀ e ∈ oi.after,Region.binds .any e = true → listed.getD e.on false = true

theorem rr.next {listed : Array Bool} {i : Nat} (hcl : rr ops listed) (ho : ops[i]? = some o) (h2 : ∀ e ∈ o.after,Region.binds .any e = true → listed.getD e.on false = true) : rr ops (listed.setIfInBounds i true):=fun j oj hj hlj e he hb=>by
 by_cases hji : j = i
 ·subst hji
  rw [ho] at hj
  cases hj
  exact getD_set_true (h2 e he hb)
 ·rw [getD_set_ne true (Ne.symm hji)] at hlj
  exact getD_set_true (hcl j oj hj hlj e he hb)

structure Mid (fz : List Nat) (E : Oper → Bool) (ops : Array Oper) (vs : List AV) (ss : List ab) (A : aa) (listed : Array Bool) (rem : List (Oper × Nat)) (D B : aa) : Prop where
 a : ∀ (i : Nat) (o : Oper) (d : Nat),ops[i]? = some o → E o = false → o.dst = some d → listed.getD i false = false → D.env d = A.env d
 b : ∀ d,(∀ (i : Nat) (o : Oper),ops[i]? = some o → E o = false → o.dst = some d → listed.getD i false = true) → D.env d = B.env d
 st : D.st = B.st
 v : ∀ (i : Nat) (o : Oper) (d : Nat) (v : AV),ops[i]? = some o → E o = false → o.dst = some d → vs[i]? = some v → B.env d = v
 o : ∀ d,(∀ (i : Nat) (o : Oper),ops[i]? = some o → o.dst = some d → E o = true ∧ listed.getD i false = false) → B.env d = A.env d
 rw : ∀ (i : Nat) (o : Oper),ops[i]? = some o → E o = false → (isW o.op || isR fz o.dst o.op) = true → isZ o.op = false → listed.getD i false = true
 z : ∀ (i : Nat) (o : Oper) (σi : ab),ops[i]? = some o → E o = false → isR fz o.dst o.op = true → isZ o.op = true → listed.getD i false = false → ss[i]? = some σi → ∃ τ,D.st = σi ++ τ
 r1 : ∀ p ∈ rem,ops[p.2]? = some p.1 ∧ E p.1 = true ∧ listed.getD p.2 false = false
 r2 : ∀ (i : Nat) (o : Oper),ops[i]? = some o → E o = true → listed.getD i false = false → (o,i) ∈ rem
 r3 : rem.Pairwise fun p q=>p.2 < q.2

theorem xG {vs : List AV} {ss : List ab} {Qx : Exit → Act → World → Prop} (hf : kW fz E ops ac) (hlen : vs.length = ops.size)
  (hat : ∀ j o v,ops[j]? = some o → vs[j]? = some v → ∃ Tj σ',iZ E ops vs A (· < j) Tj ∧ ss[j]? = some Tj.st ∧ ss[j + 1]? = some σ' ∧ (E o = true → σ' = Tj.st) ∧ (E o = false → gR P W0 n fz ops o Tj v σ')) :
  ∀ (fuel : Nat) (listed : Array Bool) (D B : aa) (rem : List (Oper × Nat)) (w : World) (C : Ctx) (a : Act),listed.size = ops.size → (List.range ops.size).countP (fun i=>!listed.getD i true) ≤ fuel → rr ops listed →
   Mid fz E ops vs ss A listed rem D B → bE P W0 n w C D a → eVC P W0 n fz (rem.map (·.1)) K B → (∀ B' C' a' w',K B' → bE P W0 n w' C' B' a' → Step w C w' C' → Qx .normal a' w') → jx P .any ops Qx fuel listed a w:=by
 have hend : ∀ (listed : Array Bool) (D B : aa) (rem : List (Oper × Nat)),(∀ i,i < ops.size → listed.getD i false = true) → Mid fz E ops vs ss A listed rem D B → eVC P W0 n fz (rem.map (·.1)) K B → D = B ∧ K B:=fun listed D B rem hall hm hK=>by
  have hrem : rem = []:=by
   cases rem with
   | nil=>rfl
   | cons p r =>
    obtain ⟨h1,_,h3⟩:=hm.r1 p (by simp)
    rw [hall p.2 (Array.getElem?_eq_some_iff.1 h1).1] at h3
    cases h3
  subst hrem
  refine ⟨?_,hK⟩
  have h1:=hm.st
  have h2 : D.env = B.env:=funext fun d=>hm.b d fun i o hi _ _=>hall i (Array.getElem?_eq_some_iff.1 hi).1
  cases D; cases B; simp only at h1 h2; subst h1 h2; rfl
 intro fuel
 induction fuel with
 | zero =>
  intro listed D B rem w C a hsz hfuel hclosed hm hr hK hq
  have hnil:=tE hfuel
  obtain ⟨rfl,hKB⟩:=hend listed D B rem (j9 hf hsz hnil) hm hK
  exact ⟨hnil,hq _ C a w hKB hr (.refl _ _)⟩
 | succ fuel ih =>
  intro listed D B rem w C a hsz hfuel hclosed hm hr hK hq
  refine ⟨fun hnil=>?_,fun i hi=>?_⟩
  ·obtain ⟨rfl,hKB⟩:=hend listed D B rem (j9 hf hsz hnil) hm hK
   exact hq _ C a w hKB hr (.refl _ _)
  ·obtain ⟨h1,o,ho,h2⟩:=mem_ready.1 hi
   have hilt:=(Array.getElem?_eq_some_iff.1 ho).1
   have hil : i < listed.size:=by omega
   have hif : listed.getD i false = false:=by
    simp [Array.getD,hil] at h1 ⊢
    exact h1
   have hcl : ∀ (j : Nat) (oj : Oper),ops[j]? = some oj → listed.getD j false = true → ey oj i = true → False:=fun j oj hj hlj hwt=>by
    have hjlt:=(Array.getElem?_eq_some_iff.1 hj).1
    obtain ⟨e,he,e1,e2⟩:=fN hwt
    have:=hclosed j oj hj (by
     have h3 : j < listed.size:=by omega
     simp [Array.getD,h3] at hlj ⊢
     exact hlj) e he e2
    rw [e1,hif] at this
    cases this
   have hwt : ∀ (j : Nat),ey o j = true → listed.getD j false = true:=fun j hw=>by
    obtain ⟨e,he,e1,e2⟩:=fN hw
    rw [← e1]; exact h2 e he e2
   have hdone : ∀ j ∈ (ac[i]?).getD [],listed.getD j false = true:=oz hf (S:=fun j=>listed.getD j false = true) (fun j oj hj hlj=>hclosed j oj hj (by
    have h3 : j < listed.size:=by have:=(Array.getElem?_eq_some_iff.1 hj).1; omega
    simp [Array.getD,h3] at hlj ⊢
    exact hlj)) i o ho h2
   have hsz' : (listed.setIfInBounds i true).size = ops.size:=by simpa using hsz
   have hfuel':=CD hsz hilt h1 hfuel
   have hclosed':=hclosed.next ho h2
   unfold An
   rw [ho]
   simp only
   cases hEo : E o with
   | false =>
    obtain ⟨vi,hv⟩ : ∃ v,vs[i]? = some v:=⟨_,List.getElem?_eq_getElem (l:=vs) (show i < vs.length by omega)⟩
    obtain ⟨T,σ',hT,hTs,_,_,hstep⟩:=hat i o vi ho hv
    have hnrw : (isW o.op || isR fz o.dst o.op) = false ∨ (isR fz o.dst o.op = true ∧ isZ o.op = true):=by
     cases hx : (isW o.op || isR fz o.dst o.op) with
     | false=>exact .inl rfl
     | true =>
      cases hz : isZ o.op with
      | false=>have:=hm.rw i o ho hEo hx hz; rw [hif] at this; cases this
      | true =>
       have hw : isW o.op = false:=by cases hw : isW o.op with | false=>rfl | true=>rw [sZ hw] at hz; cases hz
       rw [hw,Bool.false_or] at hx
       exact .inr ⟨hx,rfl⟩
    have hW : isW o.op = false:=by
     rcases hnrw with h | ⟨_,h⟩
     ·simp only [Bool.or_eq_false_iff] at h; exact h.1
     ·cases hw : isW o.op with | false=>rfl | true=>rw [sZ hw] at h; cases h
    have hlook : ∀ d ∈ o.looksAt ops,D.env d = T.env d:=(fun d hd=>by
     by_cases hex : ∃ (j : Nat) (oj : Oper),ops[j]? = some oj ∧ oj.dst = some d
     ·obtain ⟨j,oj,hj,hdj⟩:=hex
      have honly : ∀ k ok,ops[k]? = some ok → ok.dst = some d → k = j:=fun k ok hk hdk=>hf.DY k j ok oj d hk hj hdk hdj
      by_cases hEj : E oj = true
      ·have hji : j ≠ i:=fun e=>by subst e; rw [ho] at hj; cases hj; rw [hEo] at hEj; cases hEj
       have hl:=hf.look i j o oj d ho hj (Ne.symm hji) hdj hd
       have hgt:=hl.2.2.1 hEj hEo
       have hnl : listed.getD j false = false:=by
        cases hlj : listed.getD j false with
        | false=>rfl
        | true=>exact (hcl j oj hj hlj (hl.2.1 hgt)).elim
       rw [hm.b d (fun k ok hk hok hdk=>by have:=honly k ok hk hdk; subst this; rw [hj] at hk; cases hk; rw [hEj] at hok; cases hok),hm.o d (fun k ok hk hdk=>by have:=honly k ok hk hdk; subst this; rw [hj] at hk; cases hk; exact ⟨hEj,hnl⟩),hT.old d (fun k ok _ hk hok hdk=>by have:=honly k ok hk hdk; subst this; rw [hj] at hk; cases hk; rw [hEj] at hok; cases hok)]
      have hEj : E oj = false:=by simpa using hEj
      have hvj:=List.getElem?_eq_getElem (l:=vs) (show j < vs.length by have:=(Array.getElem?_eq_some_iff.1 hj).1; omega)
      rcases Nat.lt_trichotomy j i with hlt | heq | hgt
      ·have hlj:=hwt j ((hf.look i j o oj d ho hj (by omega) hdj hd).1 hlt)
       rw [hm.b d (fun k ok hk _ hdk=>by rw [honly k ok hk hdk]; exact hlj),hm.v j oj d _ hj hEj hdj hvj,hT.set j oj d _ hlt hj hEj hdj hvj]
      ·subst heq
       rw [hm.a j oj d hj hEj hdj hif,hT.old d (fun k ok hk hok _ hdk=>by have:=honly k ok hok hdk; omega)]
      ·have hnl : listed.getD j false = false:=by
        cases hlj : listed.getD j false with
        | false=>rfl
        | true=>exact (hcl j oj hj hlj ((hf.look i j o oj d ho hj (by omega) hdj hd).2.1 hgt)).elim
       rw [hm.a j oj d hj hEj hdj hnl,hT.old d (fun k ok hk hok _ hdk=>by have:=honly k ok hok hdk; omega)]
     ·rw [hm.b d (fun k ok hk _ hdk=>absurd ⟨k,ok,hk,hdk⟩ hex),hm.o d (fun k ok hk hdk=>absurd ⟨k,ok,hk,hdk⟩ hex),hT.old d (fun k ok _ hk _ hdk=>hex ⟨k,ok,hk,hdk⟩)])
    have hstepD : gR P W0 n fz ops o D vi D.st:=by
     rcases hnrw with hn | ⟨hR,hz⟩
     ·have:=(hstep hEo).congr (B:=D) (fun hx=>by rw [hn] at hx; cases hx) hlook
      rw [hW] at this
      simpa only [Bool.false_eq_true,if_false] using this
     ·obtain ⟨τ,hτ⟩:=hm.z i o T.st ho hEo hR hz hif hTs
      exact (hstep hEo).Mj hz τ hτ hlook
    have hmid : Mid fz E ops vs ss A (listed.setIfInBounds i true) rem (D.put o.dst vi) B:=by
     refine ⟨fun j oj d hj hEj hdj hlj=>?_,fun d hd=>?_,by rw [aa.D4]; exact hm.st,hm.v,fun d hd'=>hm.o d fun j oj hj hdj=>⟨(hd' j oj hj hdj).1,((cn hil j).1 (hd' j oj hj hdj).2).1⟩,fun j oj hj hEj hx hz=>(fY hil j).2 (.inl (hm.rw j oj hj hEj hx hz)),fun j oj σj hj hEj hR hz hl hs=>by rw [aa.D4]; exact hm.z j oj σj hj hEj hR hz ((cn hil j).1 hl).1 hs,fun p hp=>?_,fun j oj hj hEj hlj=>?_,hm.r3⟩
     ·obtain ⟨g1,g2⟩:=(cn hil j).1 hlj
      rw [dF (fun hod=>g2 (hf.DY j i oj o d hj ho hdj hod))]
      exact hm.a j oj d hj hEj hdj g1
     ·by_cases hod : o.dst = some d
      ·rw [fu hod,hm.v i o d vi ho hEo hod hv]
      ·rw [dF hod]
       refine hm.b d fun j oj hj hEj hdj=>?_
       rcases (fY hil j).1 (hd j oj hj hEj hdj) with h | h
       ·exact h
       ·subst h; rw [ho] at hj; cases hj; exact absurd hdj hod
     ·obtain ⟨g1,g2,g3⟩:=hm.r1 p hp
      refine ⟨g1,g2,(cn hil p.2).2 ⟨g3,fun e=>?_⟩⟩
      rw [e,ho] at g1; cases g1; rw [hEo] at g2; cases g2
     ·exact hm.r2 j oj hj hEj ((cn hil j).1 hlj).1
    have hgo : ∀ w' C' a',bE P W0 n w' C' (D.put o.dst vi) a' → Step w C w' C' → jx P .any ops Qx fuel (listed.setIfInBounds i true) a' w':=fun w' C' a' hr' hs =>
     ih _ _ B rem w' C' a' hsz' hfuel' hclosed' hmid hr' hK (fun B' C'' a'' w'' hKB hr'' hs''=>hq B' C'' a'' w'' hKB hr'' (hs.trans hs''))
    obtain ⟨hd,hstepD⟩:=hstepD
    have same : ∀ v,(D.put o.dst v).ag D.st = D.put o.dst v:=fun v=>by cases o.dst <;> rfl
    have fin : ∀ x w',az P w' C vi x → Step w C w' C → aw P W0 w' C D.st → jx P .any ops Qx fuel (listed.setIfInBounds i true) (a.put o.dst x) w':=fun x w' hv hs hst=>hgo w' C _ (by
     have:=jI (o:=o) hr hd hs hst hv
     rwa [same] at this) hs
    split at hstepD
    ·rename_i hg
     rw [if_pos (by simp [Region.wanted,hg])]
     rcases hstepD with ⟨_,_,hp⟩ | ⟨hW',_⟩
     ·exact ⟨hp.1 w C a (hr.toO o) _ _ fin,dA (hp.1 w C a (hr.toO o) _ _ fun x _ _ _ _=>put_defers a o.dst x)⟩
     ·rw [hW] at hW'; cases hW'
    ·rename_i j want hg
     obtain ⟨_,_,G,u,g1,g2,g3⟩:=hstepD
     have hw:=rh hr g1 hg
     rw [hw]
     cases G with
     | true =>
      rw [if_pos rfl]
      exact ⟨(g3 rfl).1 w C a (hr.toO o) _ _ fun x w' hv hs hst=>fin x w' (by rw [g2]; exact .maybe (fun _=>hv) (fun e=>by cases e)) hs hst,dA ((g3 rfl).1 w C a (hr.toO o) _ _ fun x _ _ _ _=>put_defers a o.dst x)⟩
     | false =>
      rw [if_neg (by simp)]
      exact hgo w C _ (ki hr hd (v:=vi) (x:=undef) (by rw [g2]; exact .maybe (fun e=>by cases e) (fun _=>rfl))) (.refl _ _)
   | true =>
    have hmem:=hm.r2 i o ho hEo hif
    cases hrem : rem with
    | nil=>rw [hrem] at hmem; cases hmem
    | cons p r =>
     have hhead : p = (o,i):=by
      rw [hrem] at hmem
      rcases List.mem_cons.1 hmem with h | h
      ·exact h.symm
      ·exfalso
       have h3:=hm.r3
       rw [hrem] at h3
       have hlt:=(List.pairwise_cons.1 h3).1 (o,i) h
       obtain ⟨g1,g2,g3⟩:=hm.r1 p (by rw [hrem]; simp)
       have:=hdone p.2 (hf.chain i p.2 o p.1 ho g1 hEo g2 hlt)
       rw [g3] at this; cases this
     subst hhead
     rw [hrem,List.map_cons] at hK
     obtain ⟨hnf,hop⟩:=hK
     rw [if_pos (by simp [Region.wanted,hf.gd i o ho hEo])]
     have hrO : eh P W0 o w C B a:=mu (ops:=ops) (T:=B) (B:=D) hm.st (fun d hd=>hm.b d fun j oj hj hEj hdj=>by
      have hne : i ≠ j:=fun e=>by subst e; rw [ho] at hj; cases hj; rw [hEo] at hEj; cases hEj
      have hl:=hf.look i j o oj d ho hj hne hdj hd
      exact hwt j (hl.1 (hl.2.2.2 hEo hEj))) (hr.toO o)
     have hd:=hop.1
     have hop : sv P W0 n fz o B (fun B'=>eVC P W0 n fz (r.map (·.1)) K B' ∧ (yV o.op = true → ∃ τ,B'.st = B.st ++ τ)):=by
      cases hal : yV o.op with
      | false =>
       have e : (fun B'=>eVC P W0 n fz (r.map (·.1)) K B' ∧ (false = true → ∃ τ,B'.st = B.st ++ τ)) = fun B'=>eVC P W0 n fz (r.map (·.1)) K B':=funext fun B'=>propext ⟨fun h=>h.1,fun h=>⟨h,fun e=>by cases e⟩⟩
       rw [e]
       exact hop
      | true =>
       obtain ⟨h1,h2⟩:=hop
       refine ⟨h1,?_⟩
       cases ho' : o.op <;> rw [ho'] at hal h2 <;> first | (simp [yV] at hal; done) | skip
       simp only at h2 ⊢
       split at h2
       ·exact ⟨h2,fun _=>⟨_,rfl⟩⟩
       ·exact h2
     refine ⟨rS hrO hnf hop fun v x σ' w' C' hK' hv hst hs=>?_,dA (rS hrO hnf hop fun _ x _ _ _ _ _ _ _=>put_defers a o.dst x)⟩
     obtain ⟨hK',hup⟩:=hK'
     have hr':=jI (o:=o) hr hd hs hst hv
     refine ih _ ((D.put o.dst v).ag σ') ((B.put o.dst v).ag σ') r w' C' _ hsz' hfuel' hclosed' ?_ hr' hK' (fun B' C'' a'' w'' hKB hr'' hs''=>hq B' C'' a'' w'' hKB hr'' (hs.trans hs''))
     have hEne : ∀ (j : Nat) (oj : Oper),ops[j]? = some oj → E oj = false → j ≠ i:=fun j oj hj hEj e=>by subst e; rw [ho] at hj; cases hj; rw [hEo] at hEj; cases hEj
     refine ⟨fun j oj d hj hEj hdj hlj=>?_,fun d hd'=>?_,rfl,fun j oj d u hj hEj hdj hu=>?_,fun d hd'=>?_,fun j oj hj hEj hx hz=>(fY hil j).2 (.inl (hm.rw j oj hj hEj hx hz)),fun j oj σj hj hEj hR hz hl hs'=>?_,fun p hp=>?_,fun j oj hj hEj hlj=>?_,?_⟩
     ·rw [gG,dF (fun hod=>hEne j oj hj hEj (hf.DY j i oj o d hj ho hdj hod))]
      exact hm.a j oj d hj hEj hdj ((cn hil j).1 hlj).1
     ·rw [gG,gG]
      by_cases hod : o.dst = some d
      ·rw [fu hod,fu hod]
      ·rw [dF hod,dF hod]
       refine hm.b d fun j oj hj hEj hdj=>?_
       rcases (fY hil j).1 (hd' j oj hj hEj hdj) with h | h
       ·exact h
       ·exact absurd h (hEne j oj hj hEj)
     ·rw [gG,dF (fun hod=>hEne j oj hj hEj (hf.DY j i oj o d hj ho hdj hod))]
      exact hm.v j oj d u hj hEj hdj hu
     ·have hne : o.dst ≠ some d:=fun hod=>by
       have:=(hd' i o ho hod).2
       rw [(fY hil i).2 (.inr rfl)] at this
       cases this
      rw [gG,dF hne]
      exact hm.o d fun j oj hj hdj=>⟨(hd' j oj hj hdj).1,((cn hil j).1 (hd' j oj hj hdj).2).1⟩
     ·obtain ⟨g1,g2⟩:=(cn hil j).1 hl
      obtain ⟨τ,hτ⟩:=hm.z j oj σj hj hEj hR hz g1 hs'
      cases hal : yV o.op with
      | false =>
       have:=hdone j (hf.last i j o oj ho hj hEo hEj (by simp [hR]) (by simp [hal]))
       rw [g1] at this; cases this
      | true =>
       obtain ⟨τ',hτ'⟩:=hup hal
       have e1 : σ' = B.st ++ τ':=hτ'
       refine ⟨τ ++ τ',?_⟩
       show σ' = _
       rw [e1,← hm.st,hτ,List.append_assoc]
     ·obtain ⟨g1,g2,g3⟩:=hm.r1 p (by rw [hrem]; exact List.mem_cons_of_mem _ hp)
      have h3:=hm.r3
      rw [hrem] at h3
      have hlt:=(List.pairwise_cons.1 h3).1 p hp
      exact ⟨g1,g2,(cn hil p.2).2 ⟨g3,by simp only at hlt; omega⟩⟩
     ·obtain ⟨g1,g2⟩:=(cn hil j).1 hlj
      have:=hm.r2 j oj hj hEj g1
      rw [hrem] at this
      rcases List.mem_cons.1 this with h | h
      ·cases h; exact absurd rfl g2
      ·exact h
     ·have h3:=hm.r3
      rw [hrem] at h3
      exact (List.pairwise_cons.1 h3).2

theorem mn (E : Oper → Bool) : ∀ (l : List Oper) (k : Nat),((l.zipIdx k).filter (fun p=>E p.1)).map (·.1) = l.filter E
 | [],_=>rfl
 | o :: r,k=>by
  rw [List.zipIdx_cons,List.filter_cons,List.filter_cons]
  cases h : E o with
  | true=>simp only [if_true,List.map_cons]; rw [mn E r]
  | false=>simp only [Bool.false_eq_true,if_false]; rw [mn E r]

theorem BF {vs : List AV} {ss : List ab} {B : aa} {Qx : Exit → Act → World → Prop} (hf : kW fz E ops ac) (hseq : Seq P W0 n fz E ops ops.toList A vs ss B) (hK : eVC P W0 n fz (ops.toList.filter E) K B) :
  ∀ (fuel : Nat) (listed : Array Bool) (D : aa) (w : World) (C : Ctx) (a : Act),listed.size = ops.size → (List.range ops.size).countP (fun i=>!listed.getD i true) ≤ fuel →
   (∀ (i : Nat) (oi : Oper),ops[i]? = some oi → listed.getD i true = true → ∀ e ∈ oi.after,Region.binds .any e = true → listed.getD e.on false = true) →
   (∀ (i : Nat) (oi : Oper),ops[i]? = some oi → E oi = true → listed.getD i false = false) →
   iZ E ops vs A (fun i=>listed.getD i false = true) D → H4 E ops (A.st :: ss) listed D.st → bE P W0 n w C D a → (∀ B' C' a' w',K B' → bE P W0 n w' C' B' a' → Step w C w' C' → Qx .normal a' w') → jx P .any ops Qx fuel listed a w:=by
 have hD:=hf.DY
 have hedge:=hf.sO
 have he0 : iZ E ops vs A (· < 0) A:=⟨fun i _ _ _ hi=>absurd hi (Nat.not_lt_zero i),fun _ _=>rfl⟩
 obtain ⟨hat,hB,hlen,hBs⟩:=zw (ss:=A.st :: ss) ops.toList vs ss 0 A B hD (by simp) (by simp) (fun j=>by rw [show 0 + 1 + j = j + 1 by omega]; simp) rfl hseq he0
 simp only [Nat.zero_add] at hat hB hBs
 have hBs' : (A.st :: ss)[ops.size]? = some B.st:=by simpa using hBs
 have hsame : ∀ (d m : Nat),m + d ≤ ops.size → (∀ (j : Nat) (oj : Oper),m ≤ j → j < m + d → ops[j]? = some oj → E oj = false → isW oj.op = false) → (A.st :: ss)[m + d]? = (A.st :: ss)[m]?:=fun d=>by
  induction d with
  | zero=>intro m _ _; rfl
  | succ d ihd =>
   intro m hm hno
   rw [← ihd m (by omega) (fun j oj h1 h2=>hno j oj h1 (by omega))]
   have hlt : m + d < ops.size:=by omega
   obtain ⟨vj,hvj⟩ : ∃ v,vs[m + d]? = some v:=⟨_,List.getElem?_eq_getElem (l:=vs) (show m + d < vs.length by rw [hlen]; simpa using hlt)⟩
   obtain ⟨T,σ',_,e1,e2,hsk,hok⟩:=hat (m + d) ops[m + d] vj (by simp [hlt]) hvj
   have : σ' = T.st:=by
    cases hEm : E ops[m + d] with
    | true=>exact hsk hEm
    | false =>
    have hnw:=hno (m + d) ops[m + d] (by omega) (by omega) (by simp [hlt]) hEm
    have h2:=(hok hEm).2
    split at h2
    ·rcases h2 with h2 | h2
     ·exact h2.2.1
     ·rw [hnw] at h2; cases h2.1
    ·exact h2.2.1
   rw [show m + (d + 1) = m + d + 1 by omega,e2,e1,this]
 have hstEnd : ∀ (listed : Array Bool) (D : aa),(∀ (i : Nat) (o : Oper),ops[i]? = some o → E o = false → (isW o.op || isR fz o.dst o.op) = true → isZ o.op = false → listed.getD i false = true) → H4 E ops (A.st :: ss) listed D.st → D.st = B.st:=fun listed D hall ⟨m,hm,hs,hw⟩=>by
  have:=hsame (ops.size - m) m (by omega) (fun j oj h1 h2 hoj hEj=>by
   cases hwj : isW oj.op with
   | false=>rfl
   | true =>
    have:=(hw j oj hoj hEj hwj).1 (hall j oj hoj hEj (by simp [hwj]) (sZ hwj))
    omega)
  rw [show m + (ops.size - m) = ops.size by omega,hBs',hs] at this
  exact (Option.some.inj this).symm
 have hat' : ∀ j o v,ops[j]? = some o → vs[j]? = some v → ∃ Tj σ',iZ E ops vs A (· < j) Tj ∧ (A.st :: ss)[j]? = some Tj.st ∧ (A.st :: ss)[j + 1]? = some σ' ∧ (E o = true → σ' = Tj.st) ∧ (E o = false → gR P W0 n fz ops o Tj v σ'):=fun j o v hj hv=>hat j o v (by simpa using hj) hv
 have hover : ∀ (fuel : Nat) (listed : Array Bool) (D : aa) (w : World) (C : Ctx) (a : Act),listed.size = ops.size → (List.range ops.size).countP (fun i=>!listed.getD i true) ≤ fuel → rr ops listed →
   (∀ (i : Nat) (oi : Oper),ops[i]? = some oi → E oi = true → listed.getD i false = false) → iZ E ops vs A (fun i=>listed.getD i false = true) D → H4 E ops (A.st :: ss) listed D.st → bE P W0 n w C D a →
   (∀ (i : Nat) (o : Oper),ops[i]? = some o → E o = false → (isW o.op || isR fz o.dst o.op) = true → isZ o.op = false → listed.getD i false = true) → (∀ B' C' a' w',K B' → bE P W0 n w' C' B' a' → Step w C w' C' → Qx .normal a' w') → jx P .any ops Qx fuel listed a w:=fun fuel listed D w C a hsz hfuel hclosed hEl hE hS hr hall hq=>by
  refine xG hf (by rw [hlen]; simp) hat' fuel listed D B ((ops.toList.zipIdx 0).filter (fun p=>E p.1)) w C a hsz hfuel hclosed ⟨fun i o d hi hEi hdi hl=>?_,fun d hd=>?_,hstEnd listed D hall hS,fun i o d v hi hEi hdi hv=>?_,fun d hd=>?_,hall,fun i o σi hi hEi hR hz hl hs=>?_,fun p hp=>?_,fun i o hi hEi hl=>?_,?_⟩ hr (by rw [mn]; exact hK) hq
  ·exact hE.old d fun k ok hk hok _ hdk=>by have:=hD k i ok o d hok hi hdk hdi; subst this; rw [hl] at hk; cases hk
  ·by_cases hex : ∃ (i : Nat) (o : Oper),ops[i]? = some o ∧ E o = false ∧ o.dst = some d
   ·obtain ⟨i,o,hi,hEi,hdi⟩:=hex
    have hlt:=(Array.getElem?_eq_some_iff.1 hi).1
    have hv:=List.getElem?_eq_getElem (l:=vs) (show i < vs.length by rw [hlen]; simpa using hlt)
    rw [hE.set i o d _ (hd i o hi hEi hdi) hi hEi hdi hv,hB.set i o d _ (by simpa using hlt) hi hEi hdi hv]
   ·rw [hE.old d (fun i o _ hi hEi hdi=>hex ⟨i,o,hi,hEi,hdi⟩),hB.old d (fun i o _ hi hEi hdi=>hex ⟨i,o,hi,hEi,hdi⟩)]
  ·exact hB.set i o d v (by simpa using (Array.getElem?_eq_some_iff.1 hi).1) hi hEi hdi hv
  ·exact hB.old d fun i o _ hi hEi hdi=>by have:=(hd i o hi hdi).1; rw [hEi] at this; cases this
  ·have hlt:=(Array.getElem?_eq_some_iff.1 hi).1
   have hnow : ∀ (j : Nat) (oj : Oper),i ≤ j → j < i + (ops.size - i) → ops[j]? = some oj → E oj = false → isW oj.op = false:=fun j oj h1 h2 hj hEj=>by
    cases hwj : isW oj.op with
    | false=>rfl
    | true =>
     have hne : i ≠ j:=fun e=>by subst e; rw [hi] at hj; cases hj; rw [sZ hwj] at hz; cases hz
     have hlj:=hall j oj hj hEj (by simp [hwj]) (sZ hwj)
     have hmem:=(hf.wr i j o oj hi hj hne hEi hEj hwj (by simp [hR])).2 (by omega)
     have:=oz hf (S:=fun j=>listed.getD j false = true) (fun k ok hk hlk=>hclosed k ok hk (by
      have h3 : k < listed.size:=by have:=(Array.getElem?_eq_some_iff.1 hk).1; omega
      simp [Array.getD,h3] at hlk ⊢
      exact hlk)) j oj hj (hclosed j oj hj (by
      have h3 : j < listed.size:=by have:=(Array.getElem?_eq_some_iff.1 hj).1; omega
      simp [Array.getD,h3] at hlj ⊢
      exact hlj)) i hmem
     rw [hl] at this; cases this
   have hsm:=hsame (ops.size - i) i (by omega) hnow
   rw [show i + (ops.size - i) = ops.size by omega,hBs',hs] at hsm
   exact ⟨[],by rw [List.append_nil,hstEnd listed D hall hS]; exact Option.some.inj hsm⟩
  ·obtain ⟨hp1,hp2⟩:=List.mem_filter.1 hp
   have h3 : ops[p.2]? = some p.1:=by
    have:=List.mem_zipIdx_iff_getElem?.1 hp1
    simpa using this
   exact ⟨h3,hp2,hEl p.2 p.1 h3 hp2⟩
  ·exact List.mem_filter.2 ⟨List.mem_zipIdx_iff_getElem?.2 (by simpa using hi),hEi⟩
  ·refine List.Pairwise.filter _ ?_
   rw [List.pairwise_iff_getElem]
   intro i j hi hj hij
   simp only [List.getElem_zipIdx]
   omega
 intro fuel
 induction fuel with
 | zero =>
  intro listed D w C a hsz hfuel hclosed hEl hE hS hr hq
  refine hover 0 listed D w C a hsz hfuel hclosed hEl hE hS hr (fun i o hi _ _ _=>j9 hf hsz (tE hfuel) i (Array.getElem?_eq_some_iff.1 hi).1) hq
 | succ fuel ih =>
  intro listed D w C a hsz hfuel hclosed hEl hE hS hr hq
  by_cases hall : ∀ (i : Nat) (o : Oper),ops[i]? = some o → E o = false → (isW o.op || isR fz o.dst o.op) = true → isZ o.op = false → listed.getD i false = true
  ·exact hover (fuel + 1) listed D w C a hsz hfuel hclosed hEl hE hS hr hall hq
  refine ⟨fun hnil=>absurd (fun i o hi _ _ _=>j9 hf hsz hnil i (Array.getElem?_eq_some_iff.1 hi).1) hall,fun i hi=>?_⟩
  ·obtain ⟨h1,o,ho,h2⟩:=mem_ready.1 hi
   have hilt:=(Array.getElem?_eq_some_iff.1 ho).1
   obtain ⟨vi,hv⟩ : ∃ v,vs[i]? = some v:=⟨_,List.getElem?_eq_getElem (l:=vs) (show i < vs.length by rw [hlen]; simpa using hilt)⟩
   obtain ⟨T,σ',hT,hTs,hTs',_,hstep⟩:=hat i o _ (by simpa using ho) hv
   have hif : listed.getD i false = false:=by
    have h3 : i < listed.size:=by omega
    simp [Array.getD,h3] at h1 ⊢
    exact h1
   have hil : i < listed.size:=by omega
   have hdone : ∀ j ∈ (ac[i]?).getD [],listed.getD j false = true:=oz hf (S:=fun j=>listed.getD j false = true) (fun j oj hj hlj=>hclosed j oj hj (by
    have h3 : j < listed.size:=by have:=(Array.getElem?_eq_some_iff.1 hj).1; omega
    simp [Array.getD,h3] at hlj ⊢
    exact hlj)) i o ho h2
   have hEo : E o = false:=by
    cases hEo : E o with
    | false=>rfl
    | true=>exact absurd (fun j oj hj hEj hx hz=>hdone j (hf.last i j o oj ho hj hEo hEj hx (by rw [hz,Bool.and_false]))) hall
   replace hstep:=hstep hEo
   have hdoneOf : ∀ (j : Nat) (oj : Oper),ops[j]? = some oj → listed.getD j false = true → ∀ k ∈ (ac[j]?).getD [],listed.getD k false = true:=fun j oj hj hlj=>by
    have hcl' : ∀ (j : Nat) (oj : Oper),ops[j]? = some oj → listed.getD j false = true → ∀ e ∈ oj.after,Region.binds .any e = true → listed.getD e.on false = true:=fun j oj hj hlj=>hclosed j oj hj (by
     have h3 : j < listed.size:=by have:=(Array.getElem?_eq_some_iff.1 hj).1; omega
     simp [Array.getD,h3] at hlj ⊢
     exact hlj)
    exact oz hf (S:=fun j=>listed.getD j false = true) hcl' j oj hj (hcl' j oj hj hlj)
   obtain ⟨m,hm,hms,hmw⟩:=hS
   have hcl : ∀ (j : Nat) (oj : Oper),ops[j]? = some oj → listed.getD j false = true → ey oj i = true → False:=fun j oj hj hlj hwt=>by
    have hjlt:=(Array.getElem?_eq_some_iff.1 hj).1
    obtain ⟨e,he,e1,e2⟩:=fN hwt
    have:=hclosed j oj hj (by
     have h3 : j < listed.size:=by omega
     simp [Array.getD,h3] at hlj ⊢
     exact hlj) e he e2
    rw [e1,hif] at this
    cases this
   have hpos : (isW o.op || isR fz o.dst o.op) = true → (A.st :: ss)[i]? = (A.st :: ss)[m]? ∧ (∀ (j : Nat) (oj : Oper),ops[j]? = some oj → E oj = false → isW oj.op = true → j ≠ i → (listed.getD j false = true ↔ j < i)):=fun hlk=>by
    have hiff : ∀ (j : Nat) (oj : Oper),ops[j]? = some oj → E oj = false → isW oj.op = true → j ≠ i → (listed.getD j false = true ↔ j < i):=fun j oj hj hEj hwj hne=>by
     obtain ⟨g1,g2⟩:=hf.wr i j o oj ho hj (Ne.symm hne) hEo hEj hwj hlk
     constructor
     ·intro hlj
      rcases Nat.lt_or_gt_of_ne hne with hlt | hgt
      ·exact hlt
      ·have:=hdoneOf j oj hj hlj i (g2 hgt); rw [hif] at this; cases this
     ·intro hlt
      exact hdone j (g1 hlt)
    refine ⟨?_,hiff⟩
    rcases Nat.le_total m i with hle | hle
    ·have:=hsame (i - m) m (by omega) (fun j oj g1 g2 hoj hEj=>by
      cases hwj : isW oj.op with
      | false=>rfl
      | true =>
       have:=(hmw j oj hoj hEj hwj).1 ((hiff j oj hoj hEj hwj (by omega)).2 (by omega))
       omega)
     rwa [show m + (i - m) = i by omega] at this
    ·have:=hsame (m - i) i (by omega) (fun j oj g1 g2 hoj hEj=>by
      cases hwj : isW oj.op with
      | false=>rfl
      | true =>
       have hlj:=(hmw j oj hoj hEj hwj).2 (by omega)
       by_cases hji : j = i
       ·subst hji; rw [hif] at hlj; cases hlj
       ·have:=(hiff j oj hoj hEj hwj hji).1 hlj
        omega)
     rw [show i + (m - i) = m by omega] at this
     exact this.symm
   have hstD : (isW o.op || isR fz o.dst o.op) = true → D.st = T.st:=fun hlk=>by
    have:=(hpos hlk).1
    rw [hTs,hms] at this
    exact (Option.some.inj this).symm
   have hstepD : gR P W0 n fz ops o D vi (if isW o.op then σ' else D.st):=hstep.congr hstD (fun d hd=>by
    by_cases hex : ∃ (j : Nat) (oj : Oper),ops[j]? = some oj ∧ oj.dst = some d
    ·obtain ⟨j,oj,hj,hdj⟩:=hex
     have hjlt:=(Array.getElem?_eq_some_iff.1 hj).1
     have hvj:=List.getElem?_eq_getElem (l:=vs) (show j < vs.length by rw [hlen]; simpa using hjlt)
     have honly : ∀ k ok,ops[k]? = some ok → ok.dst = some d → k = j:=fun k ok hk hdk=>hD k j ok oj d hk hj hdk hdj
     by_cases hEj : E oj = true
     ·rw [hE.old d (fun k ok _ hk hok hdk=>by have:=honly k ok hk hdk; subst this; rw [hj] at hk; cases hk; rw [hEj] at hok; cases hok),hT.old d (fun k ok _ hk hok hdk=>by have:=honly k ok hk hdk; subst this; rw [hj] at hk; cases hk; rw [hEj] at hok; cases hok)]
     have hEj : E oj = false:=by simpa using hEj
     rcases Nat.lt_trichotomy j i with hlt | heq | hgt
     ·obtain ⟨e,he,e1,e2⟩:=fN ((hf.look i j o oj d ho hj (by omega) hdj hd).1 hlt)
      have hlj : listed.getD j false = true:=by rw [← e1]; exact h2 e he e2
      rw [hE.set j oj d _ hlj hj hEj hdj hvj,hT.set j oj d _ hlt hj hEj hdj hvj]
     ·subst heq
      have e1 : D.env d = A.env d:=hE.old d (fun k ok hk hok _ hdk=>by have:=honly k ok hok hdk; subst this; rw [hif] at hk; cases hk)
      have e2 : T.env d = A.env d:=hT.old d (fun k ok hk hok _ hdk=>by have:=honly k ok hok hdk; omega)
      rw [e1,e2]
     ·have hnl : listed.getD j false = false:=by
       cases hlj : listed.getD j false with
       | false=>rfl
       | true =>
        exfalso
        obtain ⟨e,he,e1,e2⟩:=fN ((hf.look i j o oj d ho hj (by omega) hdj hd).2.1 hgt)
        have:=hclosed j oj hj (by
         have h3 : j < listed.size:=by omega
         simp [Array.getD,h3] at hlj ⊢
         exact hlj) e he e2
        rw [e1,hif] at this
        cases this
      have e1 : D.env d = A.env d:=hE.old d (fun k ok hk hok _ hdk=>by have:=honly k ok hok hdk; subst this; rw [hnl] at hk; cases hk)
      have e2 : T.env d = A.env d:=hT.old d (fun k ok hk hok _ hdk=>by have:=honly k ok hok hdk; omega)
      rw [e1,e2]
    ·rw [hE.old d (fun k ok _ hk _ hdk=>hex ⟨k,ok,hk,hdk⟩),hT.old d (fun k ok _ hk _ hdk=>hex ⟨k,ok,hk,hdk⟩)])
   have hput : iZ E ops vs A (fun j=>(listed.setIfInBounds i true).getD j false = true) ((D.put o.dst vi).ag (if isW o.op then σ' else D.st)):=by
    have hp:=hE.put hD ho hEo hv
    have hiff : ∀ j,(listed.setIfInBounds i true).getD j false = true ↔ (listed.getD j false = true ∨ j = i):=fun j=>by
     by_cases hj : j = i
     ·subst hj
      have h3 : j < listed.size:=by omega
      simp [Array.getD,h3]
     ·rw [getD_set_ne false (Ne.symm hj)]; simp [hj]
    exact ⟨fun j oj d u hj=>hp.set j oj d u ((hiff j).1 hj),fun d hd=>hp.old d (fun j oj hj=>hd j oj ((hiff j).2 hj))⟩
   have hsz' : (listed.setIfInBounds i true).size = ops.size:=by simpa using hsz
   have hfuel' : (List.range ops.size).countP (fun j=>!(listed.setIfInBounds i true).getD j true) ≤ fuel:=by
    have:=oF (l:=List.range ops.size) (p:=fun j=>!listed.getD j true) (q:=fun j=>!(listed.setIfInBounds i true).getD j true) (x:=i) (fun j _ hj=>by
     by_cases hji : j = i
     ·subst hji; simpa using h1
     ·rw [getD_set_ne true (Ne.symm hji)] at hj; exact hj) (List.mem_range.2 hilt) (by rw [h1]; rfl) (by
      have h3 : i < listed.size:=by omega
      simp [Array.getD,h3])
    omega
   have hclosed' : ∀ (j : Nat) (oj : Oper),ops[j]? = some oj → (listed.setIfInBounds i true).getD j true = true → ∀ e ∈ oj.after,Region.binds .any e = true → (listed.setIfInBounds i true).getD e.on false = true:=fun j oj hj hlj e he hb=>by
    by_cases hji : j = i
    ·subst hji
     rw [ho] at hj
     cases hj
     exact getD_set_true (h2 e he hb)
    ·rw [getD_set_ne true (Ne.symm hji)] at hlj
     exact getD_set_true (hclosed j oj hj hlj e he hb)
   have hS' : H4 E ops (A.st :: ss) (listed.setIfInBounds i true) (if isW o.op then σ' else D.st):=by
    have hset : ∀ j,(listed.setIfInBounds i true).getD j false = true ↔ (listed.getD j false = true ∨ j = i):=fun j=>by
     by_cases hj : j = i
     ·subst hj
      have h3 : j < listed.size:=by omega
      simp [Array.getD,h3]
     ·rw [getD_set_ne false (Ne.symm hj)]; simp [hj]
    cases hW : isW o.op with
    | false =>
     refine ⟨m,hm,by simpa using hms,fun j oj hj hEj hwj=>?_⟩
     have hji : j ≠ i:=fun e=>by subst e; rw [ho] at hj; cases hj; rw [hW] at hwj; cases hwj
     rw [hset]
     simp only [hji,or_false]
     exact hmw j oj hj hEj hwj
    | true =>
     refine ⟨i + 1,by omega,by simpa using hTs',fun j oj hj hEj hwj=>?_⟩
     rw [hset]
     by_cases hji : j = i
     ·subst hji; simp
     ·have:=(hpos (by simp [hW])).2 j oj hj hEj hwj hji
      simp only [hji,or_false,this]
      omega
   have hgo : ∀ w' C' a',bE P W0 n w' C' ((D.put o.dst vi).ag (if isW o.op then σ' else D.st)) a' → Step w C w' C' → jx P .any ops Qx fuel (listed.setIfInBounds i true) a' w':=fun w' C' a' hr' hs =>
    ih _ _ w' C' a' hsz' hfuel' hclosed' (fun j oj hj hEj=>(cn hil j).2 ⟨hEl j oj hj hEj,fun e=>by subst e; rw [ho] at hj; cases hj; rw [hEo] at hEj; cases hEj⟩) hput hS' hr' (fun B' C'' a'' w'' hKB hr'' hs''=>hq B' C'' a'' w'' hKB hr'' (hs.trans hs''))
   unfold An
   rw [ho]
   simp only
   obtain ⟨hd,hstepD⟩:=hstepD
   have fin : isW o.op = false → ∀ x w',az P w' C vi x → Step w C w' C → aw P W0 w' C D.st → jx P .any ops Qx fuel (listed.setIfInBounds i true) (a.put o.dst x) w':=fun hW x w' hv hs hst=>hgo w' C _ (by
    have:=jI (o:=o) hr hd hs hst hv
    simpa [hW] using this) hs
   split at hstepD
   ·rename_i hg
    rw [if_pos (by simp [Region.wanted,hg])]
    rcases hstepD with ⟨hW,_,hp⟩ | ⟨hW,hu,hp⟩
    ·exact ⟨hp.1 w C a (hr.toO o) _ _ (fin hW),dA (hp.1 w C a (hr.toO o) _ _ fun x _ _ _ _=>put_defers a o.dst x)⟩
    ·rw [if_pos hW] at hp
     obtain ⟨w',r1,r2,r3⟩:=hp w C a (hr.toO o)
     refine ⟨lS r1 (hgo w' C _ ?_ r2),dA (lS r1 (put_defers a o.dst undef))⟩
     rw [if_pos hW,hu]
     exact jI (o:=o) hr hd r2 r3 (.undef _)
   ·rename_i j want hg
    obtain ⟨hW,_,G,u,g1,g2,g3⟩:=hstepD
    have hw:=rh hr g1 hg
    rw [hw]
    cases G with
    | true =>
     rw [if_pos rfl]
     exact ⟨(g3 rfl).1 w C a (hr.toO o) _ _ fun x w' hv hs hst=>fin hW x w' (by rw [g2]; exact .maybe (fun _=>hv) (fun e=>by cases e)) hs hst,dA ((g3 rfl).1 w C a (hr.toO o) _ _ fun x _ _ _ _=>put_defers a o.dst x)⟩
    | false =>
     rw [if_neg (by simp)]
     refine hgo w C _ ?_ (.refl _ _)
     have e : (D.put o.dst vi).ag D.st = D.put o.dst vi:=by cases o.dst <;> rfl
     have:=ki hr hd (v:=vi) (x:=undef) (by rw [g2]; exact .maybe (fun e=>by cases e) (fun _=>rfl))
     rw [← e] at this
     simpa [hW] using this

theorem VC.QR {id : Nat} {l : List Oper} {Q : Exit → aa → Prop} (hm : P.follows .mixedOrders = true) (hdep : wC fz E l.toArray ac = true) (h : ∃ vs ss B,Seq P W0 n fz E l.toArray l A vs ss B ∧ eVC P W0 n fz (l.filter E) (Q .normal) B) : VC P W0 n (.region id l.toArray true) Q A:=fun w C a hr=>by
 obtain ⟨vs,ss,B,hseq,hB⟩:=h
 have hr' : bE P W0 n w.drew C A a:=hr.step (Step.drew w C) hr.st.drew
 refine sn hm (BF (K:=Q .normal) (CC hdep) (vs:=vs) (ss:=ss) (B:=B) (by simpa using hseq) (by simpa using hB) l.toArray.size _ A w.drew C a (by simp) ?_ ?_ ?_ ?_ ?_ hr' ?_)
 ·exact Nat.le_trans List.countP_le_length (by simp)
 ·intro i oi hi hl
  have hlt:=(Array.getElem?_eq_some_iff.1 hi).1
  exfalso
  simp [Array.getD] at hl
  simp at hlt
  exact absurd hl (by omega)
 ·intro i oi hi _
  simp [Array.getD]
 ·refine ⟨fun i o d v hi=>?_,fun _ _=>rfl⟩
  exfalso
  simp [Array.getD] at hi
 ·exact ⟨0,Nat.zero_le _,rfl,fun j oj _ _ _=>by simp [Array.getD]⟩
 ·intro B' C' a' w' hK hr' hs
  exact ⟨B',C',hK,hr',(Step.drew w C).trans hs⟩

end
end Go.Av
end
section
namespace Go.Av
open Go

def unm : AV → AV | .maybe _ v=>v | v=>v
def okM (gd : Option Bool) : AV → Prop | .maybe g _=>imp gd (g = true) | _=>True
def fT (gd : Option Bool) (b : Bool) : AV → Prop | .maybe g _=>imp gd (b = true → g = true) | _=>True
def wi : AV → Prop | .bool _=>True | _=>False
def bl : AV → Bool | .bool b=>b | _=>false
def isI : AV → Prop | .int _ _=>True | _=>False
def iv : AV → Int | .int _ n=>n | _=>0

def nW (b : Bool) (u v : AV) : AV:=mK b u v
def cc (P : Program) (op : BinOp) (t : TypeId) (u v : AV) : AV:=(ck P op t u v).getD .undef
def cj (P : Program) (op : BinOp) (t : TypeId) (u v : AV) : Prop:=(ck P op t u v).isSome = true
def unV (op : UnOp) (u : AV) : AV:=match op,u with | .not,.bool b=>.bool (!b) | .neg,.int k m=>.int k (k.wrap (-m)) | _,_=>.undef
def unC (op : UnOp) (u : AV) : Prop:=match op,u with | .not,.bool _=>True | .neg,.int _ _=>True | _,_=>False
def pP (σ : ab) : AV → AV | .loc _ v=>v | .ptr _ id i path=>(look σ id i path).getD .undef | _=>.undef
def pY (gd : Option Bool) (σ : ab) (t : TypeId) : AV → Prop | .loc t' _=>t' = t | .ptr t' id i path=>t' = t ∧ imp gd ((look σ id i path).isSome = true) | _=>False
def pA (P : Program) (s : TypeId) (k : Nat) : AV → AV
 | .loc _ (.agg _ fs)=>.loc ((((bp P s).getD [])[k]?).getD 0) (fs[k]?.getD .undef)
 | .ptr _ id i path=>.ptr ((((bp P s).getD [])[k]?).getD 0) id i (path ++ [k])
 | _=>.undef
def pc (P : Program) (s : TypeId) (k : Nat) : AV → Prop
 | .loc t (.agg t' fs)=>t = s ∧ t' = s ∧ bo P s = true ∧ (bp P s).isSome = true ∧ (((bp P s).getD [])[k]?).isSome = true ∧ fs[k]?.isSome = true
 | .ptr t _ _ _=>t = s ∧ bo P s = true ∧ (bp P s).isSome = true ∧ (((bp P s).getD [])[k]?).isSome = true
 | _=>False
def fvV (k : Nat) : AV → AV | .agg _ fs=>fs[k]?.getD .undef | _=>.undef
def fvC (P : Program) (s : TypeId) (k : Nat) : AV → Prop | .agg t fs=>t = s ∧ bo P s = true ∧ (bp P s).isSome = true ∧ (((bp P s).getD [])[k]?).isSome = true ∧ fs[k]?.isSome = true | _=>False
def atV (xs : List AV) (i : Int) : AV:=xs[i.toNat]?.getD .undef
def dG (P : Program) (t : TypeId) (i : Int) : AV → AV
 | .ptr _ id j path=>.ptr ((jE P t).getD 0) id j (path ++ [i.toNat])
 | .loc _ (.agg _ fs)=>.loc ((jE P t).getD 0) (fs[i.toNat]?.getD .undef)
 | .row e id off _=>.ptr e id (off + i.toNat) []
 | .sl e xs=>.loc e (atV xs i)
 | .lit e xs=>.loc e (atV xs i)
 | .own e xs _=>.loc e (atV xs i)
 | _=>.undef
def dE (P : Program) (gd : Option Bool) (σ : ab) (t : TypeId) (i : Int) : AV → Prop
 | .ptr t' _ _ _=>t' = t ∧ (jE P t).isSome = true ∧ (bp P t).isSome = true ∧ imp gd (0 ≤ i ∧ i.toNat < ((bp P t).getD []).length)
 | .loc t' (.agg t'' fs)=>t' = t ∧ t'' = t ∧ (jE P t).isSome = true ∧ (bp P t).isSome = true ∧ imp gd (0 ≤ i ∧ i.toNat < fs.length)
 | .row e id _ m=>elT P t = some e ∧ 0 < ae P e ∧ imp gd (0 ≤ i ∧ i.toNat < m) ∧ live σ id
 | .sl e xs=>elT P t = some e ∧ 0 < ae P e ∧ imp gd (0 ≤ i ∧ i.toNat < xs.length)
 | .lit e xs=>elT P t = some e ∧ 0 < ae P e ∧ imp gd (0 ≤ i ∧ i.toNat < xs.length)
 | .own e xs _=>elT P t = some e ∧ 0 < ae P e ∧ imp gd (0 ≤ i ∧ i.toNat < xs.length)
 | _=>False
def uD (i : Int) : AV → AV | .str l=>.int .u8 (l[i.toNat]?.getD 0).toNat | .agg _ fs=>fs[i.toNat]?.getD .undef | _=>.undef
def uk (P : Program) (gd : Option Bool) (t : TypeId) (i : Int) : AV → Prop | .str l=>bH P t = true ∧ imp gd (0 ≤ i ∧ i.toNat < l.length) | .agg t' fs=>t' = t ∧ (jE P t).isSome = true ∧ (bp P t).isSome = true ∧ imp gd (0 ≤ i ∧ i.toNat < fs.length) | _=>False
def nO (k : Nat) : AV → AV | .tup as=>as[k]?.getD .undef | _=>.undef
def nr (k : Nat) : AV → Prop | .tup as=>as[k]?.isSome = true | _=>False
def fA (P : Program) (d : TypeId) : AV → AV | .int _ m=>(match eB P d with | some k'=>.int k' (k'.wrap m) | none=>.str (xY m)) | .str l=>.str l | .lit _ xs=>.str (xs.map iw) | .sl _ xs=>.str (xs.map iw) | .own _ xs _=>.str (xs.map iw) | _=>.undef
def byC (P : Program) (s d e : TypeId) (xs : List AV) : Prop:=elT P s = some e ∧ eB P e = some .u8 ∧ ae P e = 1 ∧ bH P d = true ∧ gk xs
def gE (P : Program) (s d : TypeId) : AV → Prop | .int _ _=>(eB P s).isSome = true ∧ ((eB P d).isSome || bH P d) = true | .str _=>bH P s = true ∧ bH P d = true | .lit e xs=>byC P s d e xs | .sl e xs=>byC P s d e xs | .own e xs _=>byC P s d e xs | _=>False
def cu (A : aa) (d : Nat) : Option Operand → Nat | none=>d | some y=>(iv (unm (A.val y))).toNat
def mX (gd : Option Bool) (A : aa) : Option Operand → Prop | none=>True | some y=>okM gd (A.val y) ∧ isI (unm (A.val y)) ∧ imp gd (0 ≤ iv (unm (A.val y)))
def kq (A : aa) (lo hi : Option Operand) : AV → AV
 | .row e id off m=>.row e id (off + cu A 0 lo) (cu A m hi - cu A 0 lo)
 | .au=>.au
 | .str l=>.str (fR l (cu A 0 lo) (cu A l.length hi))
 | .sl e xs=>.sl e (fR xs (cu A 0 lo) (cu A xs.length hi))
 | .lit e xs=>.sl e (fR xs (cu A 0 lo) (cu A xs.length hi))
 | .own e xs _=>.sl e (fR xs (cu A 0 lo) (cu A xs.length hi))
 | _=>.undef
def ml (gd : Option Bool) (A : aa) (lo hi : Option Operand) (m : Nat) : Prop:=mX gd A lo ∧ mX gd A hi ∧ imp gd (cu A 0 lo ≤ cu A m hi ∧ cu A m hi ≤ m)
def iD (P : Program) (gd : Option Bool) (A : aa) (t : TypeId) (lo hi : Option Operand) : AV → Prop
 | .row e _ _ m=>elT P t = some e ∧ 0 < ae P e ∧ ml gd A lo hi m
 | .au=>(elT P t).isSome = true ∧ 0 < ae P ((elT P t).getD 0) ∧ mX gd A lo ∧ mX gd A hi ∧ imp gd (cu A 0 lo = 0 ∧ cu A 0 hi = 0)
 | .str l=>bH P t = true ∧ ml gd A lo hi l.length
 | .sl e xs=>elT P t = some e ∧ 0 < ae P e ∧ ml gd A lo hi xs.length
 | .lit e xs=>elT P t = some e ∧ 0 < ae P e ∧ ml gd A lo hi xs.length
 | .own e xs _=>elT P t = some e ∧ 0 < ae P e ∧ ml gd A lo hi xs.length
 | _=>False
def di (A : aa) : List (Nat × Operand) → List (Nat × AV) | []=>[] | (i,x) :: r=>(i,unm (A.val x)) :: di A r
def fc (gd : Option Bool) (A : aa) : List (Nat × Operand) → Prop | []=>True | (_,x) :: r=>okM gd (A.val x) ∧ fc gd A r
def eu (P : Program) (t : TypeId) : List AV:=match zeroOf P t with | some (.agg _ fs)=>fs | _=>[]
def eO (P : Program) (t : TypeId) : Bool:=match zeroOf P t with | some (.agg t' _)=>t' == t | _=>false
def yX (P : Program) (t : TypeId) (qs : List (Nat × AV)) : Prop:=(bp P t).isSome = true ∧ eO P t = true ∧ lI P ((bp P t).getD []) qs = true
def er (P : Program) (t : TypeId) (m : Nat) (qs : List (Nat × AV)) : Prop:=match elT P t with
 | some e=>0 < ae P e ∧ aZ P e = true ∧ m * ae P e ≤ 16777216 ∧ qs.map (·.1) = List.range' 0 m ∧ qs.all (fun p=>bf P e p.2) = true
 | none=>False
def oL : AV → AV
 | .str l=>.int .i64 l.length
 | .sl _ xs=>.int .i64 xs.length
 | .lit _ xs=>.int .i64 xs.length
 | .own _ xs _=>.int .i64 xs.length
 | .au=>.int .i64 0
 | .row _ _ _ n=>.int .i64 n
 | _=>.undef
def gT (P : Program) (t : TypeId) : AV → Prop
 | .str _=>bH P t = true
 | .sl _ _=>(elT P t).isSome = true
 | .lit _ _=>(elT P t).isSome = true
 | .own _ _ _=>(elT P t).isSome = true
 | .au=>(elT P t).isSome = true
 | .row _ _ _ _=>(elT P t).isSome = true
 | _=>False
def gL (b : Builtin) (us : List AV) : AV:=match b,us with
 | .len,[u]=>oL u
 | .cap,[_]=>.int .i64 0
 | .max,[.int k p,.int _ q]=>.int k (vY p q)
 | .min,[.int k p,.int _ q]=>.int k (yd p q)
 | _,_=>.undef
def iI (P : Program) (b : Builtin) (ts : List TypeId) (us : List AV) : Prop:=match b,us with
 | .len,[u]=>(match ts with | [t]=>gT P t u | _=>False)
 | .cap,[u]=>(match ts with | [t]=>(match u with | .au=>(elT P t).isSome = true | _=>False) | _=>False)
 | .max,[.int k _,.int k' _]=>k' = k
 | .min,[.int k _,.int k' _]=>k' = k
 | _,_=>False
def cd (A : aa) : List Operand → List AV | []=>[] | x :: r=>unm (A.val x) :: cd A r
def dD (gd : Option Bool) (A : aa) : List Operand → Prop | []=>True | x :: r=>okM gd (A.val x) ∧ dD gd A r

noncomputable def Dv (P : Program) (σ : ab) (t : TypeId) (k u : AV) : AV:=match nQ P t with | some (kt,vt)=>CI P ((Bw σ kt u).getD []) k (lp P vt) | none=>.undef
def CX (P : Program) (gd : Option Bool) (σ : ab) (t : TypeId) (k u : AV) : Prop:=match nQ P t with | some (kt,vt)=>aZ P vt = true ∧ Maps.Keyed P kt ∧ imp gd (BR P kt k) ∧ (Bw σ kt u).isSome = true | none=>False

noncomputable def opV (P : Program) (gd : Option Bool) (A : aa) : Op → AV
 | .move x=>(match gd with | none=>A.val x | some _=>unm (A.val x))
 | .assign x=>(match gd with | none=>A.val x | some _=>unm (A.val x))
 | .pick c x y=>nW (bl (unm (A.val c))) (unm (A.val x)) (unm (A.val y))
 | .binOp op t x y _=>cc P op t (unm (A.val x)) (unm (A.val y))
 | .unOp op _ x=>unV op (unm (A.val x))
 | .load _ x=>pP A.st (unm (A.val x))
 | .fieldAddr s x k=>pA P s k (unm (A.val x))
 | .field s x k=>fvV k (unm (A.val x))
 | .indexAddr t x ix=>dG P t (iv (unm (A.val ix))) (unm (A.val x))
 | .index _ x ix=>uD (iv (unm (A.val ix))) (unm (A.val x))
 | .extract x k=>nO k (unm (A.val x))
 | .nilCheck x=>unm (A.val x)
 | .convert _ d x=>fA P d (unm (A.val x))
 | .makeFunc (.func f) _ caps=>.fn f (cd A caps.toList)
 | .slice _ x lo hi _=>kq A lo hi (unm (A.val x))
 | .build t ps=>.agg t (mO (di A ps.toList) (eu P t))
 | .buildSlice t _ ps=>.lit ((elT P t).getD 0) ((di A ps.toList).map (·.2))
 | .box t x=>.loc t (unm (A.val x))
 | .lookup t x ix false=>Dv P A.st t (unm (A.val ix)) (unm (A.val x))
 | .makeInterface t x=>.iface t (unm (A.val x))
 | .typeAssert x _ d ok=>jk P d ok (unm (A.val x))
 | .call c=>(match c.callee with | .builtin b=>gL b (cd A c.args.toList) | _=>.undef)
 | _=>.undef

def opC (P : Program) (gd : Option Bool) (A : aa) : Op → Prop
 | .move x=>(match gd with | none=>True | some _=>okM gd (A.val x))
 | .assign x=>(match gd with | none=>True | some _=>okM gd (A.val x))
 | .pick c x y=>okM gd (A.val c) ∧ wi (unm (A.val c)) ∧ fT gd (bl (unm (A.val c))) (A.val x) ∧ fT gd (!bl (unm (A.val c))) (A.val y)
 | .binOp op t x y _=>okM gd (A.val x) ∧ okM gd (A.val y) ∧ cj P op t (unm (A.val x)) (unm (A.val y))
 | .unOp op _ x=>okM gd (A.val x) ∧ unC op (unm (A.val x))
 | .load t x=>okM gd (A.val x) ∧ pY gd A.st t (unm (A.val x))
 | .fieldAddr s x k=>okM gd (A.val x) ∧ pc P s k (unm (A.val x))
 | .field s x k=>okM gd (A.val x) ∧ fvC P s k (unm (A.val x))
 | .indexAddr t x ix=>okM gd (A.val x) ∧ okM gd (A.val ix) ∧ isI (unm (A.val ix)) ∧ dE P gd A.st t (iv (unm (A.val ix))) (unm (A.val x))
 | .index t x ix=>okM gd (A.val x) ∧ okM gd (A.val ix) ∧ isI (unm (A.val ix)) ∧ uk P gd t (iv (unm (A.val ix))) (unm (A.val x))
 | .extract x k=>okM gd (A.val x) ∧ nr k (unm (A.val x))
 | .nilCheck x=>okM gd (A.val x) ∧ (unm (A.val x)).fI = true
 | .convert s d x=>okM gd (A.val x) ∧ gE P s d (unm (A.val x))
 | .makeFunc (.func _) first caps=>first.toList = [] ∧ dD gd A caps.toList ∧ (cd A caps.toList).all AV.aS = true
 | .slice t x lo hi mx=>mx = none ∧ okM gd (A.val x) ∧ iD P gd A t lo hi (unm (A.val x))
 | .build t ps=>fc gd A ps.toList ∧ yX P t (di A ps.toList)
 | .buildSlice t m ps=>fc gd A ps.toList ∧ er P t m (di A ps.toList)
 | .box t x=>okM gd (A.val x) ∧ bf P t (unm (A.val x)) = true
 | .lookup t x ix false=>okM gd (A.val x) ∧ okM gd (A.val ix) ∧ CX P gd A.st t (unm (A.val ix)) (unm (A.val x))
 | .makeInterface t x=>okM gd (A.val x) ∧ lj P t = true ∧ (unm (A.val x)).aS = true
 | .typeAssert x _ d ok=>okM gd (A.val x) ∧ l0 P d ok (unm (A.val x))
 | .call c=>(match c.callee with | .builtin b=>dD gd A c.args.toList ∧ iI P b c.argTypes.toList (cd A c.args.toList) | _=>False)
 | _=>False

section
variable {P : Program} {W0 : World} {σ : ab} {n : Nat} {A : aa} {gd : Option Bool} {K : AV → Prop}

theorem aI {x : AV} {k : AV → Prop} (h1 : okM gd x) (h2 : k (unm x)) : strip gd x k:=by cases x <;> first | exact ⟨h1,h2⟩ | exact h2
theorem ug {b : Bool} {x : AV} {k : AV → Prop} (h1 : fT gd b x) (h2 : k (unm x)) : r5 gd b x k:=by cases x <;> first | exact ⟨h1,h2⟩ | exact h2
theorem ff : ∀ {xs : List Operand} {k : List AV → Prop},dD gd A xs → k (cd A xs) → stripL gd (xs.map A.val) k
 | [],_,_,h=>h
 | _ :: _,_,h1,h2=>aI h1.1 (ff h1.2 h2)
theorem j0 : ∀ {ps : List (Nat × Operand)} {k : List (Nat × AV) → Prop},fc gd A ps → k (di A ps) → lY gd A ps k
 | [],_,_,h=>h
 | (_,_) :: _,_,h1,h2=>aI h1.1 (j0 h1.2 h2)
theorem zT {v : AV} (h : isI v) : ∃ k,v = .int k (iv v):=by cases v <;> first | exact ⟨_,rfl⟩ | exact h.elim
theorem Ih {v : AV} (h : wi v) : v = .bool (bl v):=by cases v <;> first | rfl | exact h.elim

theorem fB {x : Option Operand} {d : Nat} {k : Nat → Prop} (h1 : mX gd A x) (h2 : k (cu A d x)) : eK gd A x d k:=by
 cases x with
 | none=>exact h2
 | some y =>
  obtain ⟨h3,h4,h5⟩:=h1
  refine aI h3 ?_
  obtain ⟨kk,hk⟩:=zT h4
  rw [hk]
  exact ⟨h5,h2⟩

theorem qO {lo hi : Option Operand} {m : Nat} {k : Nat → Nat → Prop} (h : ml gd A lo hi m) (hk : k (cu A 0 lo) (cu A m hi)) : eK gd A lo 0 fun p=>eK gd A hi m fun q=>imp gd (p ≤ q ∧ q ≤ m) ∧ k p q :=
 fB h.1 (fB h.2.1 ⟨h.2.2,hk⟩)

theorem Ix {lo hi : Option Operand} {k : Nat → Nat → Prop} (h : mX gd A lo ∧ mX gd A hi ∧ imp gd (cu A 0 lo = 0 ∧ cu A 0 hi = 0)) (hk : k (cu A 0 lo) (cu A 0 hi)) : eK gd A lo 0 fun p=>eK gd A hi 0 fun q=>imp gd (p = 0 ∧ q = 0) ∧ k p q :=
 fB h.1 (fB h.2.1 ⟨h.2.2,hk⟩)

theorem y9 {t : TypeId} {u : AV} {lo hi : Option Operand} (h1 : iD P gd A t lo hi u) (h2 : K (kq A lo hi u)) : qv P gd A t u lo hi K:=by
 unfold iD at h1
 split at h1
 ·exact ⟨⟨h1.1,h1.2.1⟩,qO (k:=fun p q=>K (.row _ _ (_ + p) (q - p))) h1.2.2 h2⟩
 ·obtain ⟨h3,h4,h5⟩:=h1
  obtain ⟨e,he⟩:=Option.isSome_iff_exists.1 h3
  rw [he] at h4
  show (match elT P t with | some e=>0 < ae P e ∧ eK gd A lo 0 fun p=>eK gd A hi 0 fun q=>imp gd (p = 0 ∧ q = 0) ∧ K .au | none=>False)
  rw [he]
  exact ⟨h4,Ix (k:=fun _ _=>K .au) h5 h2⟩
 ·exact ⟨h1.1,qO (k:=fun p q=>K (.str (fR _ p q))) h1.2 h2⟩
 ·exact ⟨⟨h1.1,h1.2.1⟩,qO (k:=fun p q=>K (.sl _ (fR _ p q))) h1.2.2 h2⟩
 ·exact ⟨⟨h1.1,h1.2.1⟩,qO (k:=fun p q=>K (.sl _ (fR _ p q))) h1.2.2 h2⟩
 ·exact ⟨⟨h1.1,h1.2.1⟩,qO (k:=fun p q=>K (.sl _ (fR _ p q))) h1.2.2 h2⟩
 ·exact h1.elim

theorem rP {op : Op} (h1 : opC P gd A op) (h2 : K (opV P gd A op)) : iC P W0 gd op A K:=by
 cases op
 case move x=>cases gd <;> first | exact h2 | exact aI h1 h2
 case assign x=>cases gd <;> first | exact h2 | exact aI h1 h2
 case pick c x y =>
  obtain ⟨g1,g2,g3,g4⟩:=h1
  refine aI g1 ?_
  rw [Ih g2]
  exact ug g3 (ug g4 h2)
 case binOp op t x y _ =>
  obtain ⟨g1,g2,g3⟩:=h1
  refine aI g1 (aI g2 ?_)
  obtain ⟨z,hz⟩:=Option.isSome_iff_exists.1 g3
  simp only [opV,cc,hz,Option.getD_some] at h2
  simp only [Ey,hz]
  exact h2
 case unOp op _ x =>
  refine aI h1.1 ?_
  have h3:=h1.2
  simp only [opV] at h2
  revert h2 h3
  generalize unm (A.val x) = u
  intro h2 h3
  cases op <;> cases u <;> first | exact h2 | exact h3.elim
 case load t x =>
  refine aI h1.1 ?_
  have h3:=h1.2
  simp only [opV] at h2
  revert h2 h3
  generalize unm (A.val x) = u
  intro h2 h3
  cases u <;> first | exact h3.elim | skip
  ·exact ⟨h3,h2⟩
  ·simp only [pY] at h3
   refine ⟨h3.1,?_⟩
   simp only [pP] at h2
   split
   ·rename_i z hz
    rw [hz] at h2
    exact h2
   ·rename_i hz
    rw [hz] at h2
    exact ⟨h3.2.map (fun h=>by rw [hz] at h; cases h),h2⟩
 case field s x k =>
  refine aI h1.1 ?_
  have h3:=h1.2
  simp only [opV] at h2
  revert h2 h3
  generalize unm (A.val x) = u
  intro h2 h3
  cases u <;> first | exact h3.elim | skip
  simp only [fvC] at h3
  obtain ⟨e1,e3,e4,e5,e6⟩:=h3
  obtain ⟨ts,hts⟩:=Option.isSome_iff_exists.1 e4
  simp only [hts,Option.getD_some] at e5
  obtain ⟨ty,hty⟩:=Option.isSome_iff_exists.1 e5
  obtain ⟨y,hy⟩:=Option.isSome_iff_exists.1 e6
  simp only [fvV,hy,Option.getD_some] at h2
  simp only [Mp,hts,hty,hy]
  exact ⟨⟨e1,e3⟩,h2⟩
 case fieldAddr s x k =>
  refine aI h1.1 ?_
  have h3:=h1.2
  simp only [opV] at h2
  revert h2 h3
  generalize unm (A.val x) = u
  intro h2 h3
  cases u <;> first | exact h3.elim | skip
  ·rename_i t v
   cases v <;> first | exact h3.elim | skip
   simp only [pc] at h3
   obtain ⟨e1,e2,e3,e4,e5,e6⟩:=h3
   obtain ⟨ts,hts⟩:=Option.isSome_iff_exists.1 e4
   simp only [hts,Option.getD_some] at e5
   obtain ⟨ty,hty⟩:=Option.isSome_iff_exists.1 e5
   obtain ⟨y,hy⟩:=Option.isSome_iff_exists.1 e6
   simp only [pA,hts,Option.getD_some,hty,hy] at h2
   simp only [nG,hts,hty,hy]
   exact ⟨⟨e1,e2,e3⟩,h2⟩
  ·simp only [pc] at h3
   obtain ⟨e1,e3,e4,e5⟩:=h3
   obtain ⟨ts,hts⟩:=Option.isSome_iff_exists.1 e4
   simp only [hts,Option.getD_some] at e5
   obtain ⟨ty,hty⟩:=Option.isSome_iff_exists.1 e5
   simp only [pA,hts,Option.getD_some,hty] at h2
   simp only [nG,hts,hty]
   exact ⟨⟨e1,e3⟩,h2⟩
 case indexAddr t x ix =>
  obtain ⟨g1,g2,g3,h3⟩:=h1
  refine aI g1 (aI g2 ?_)
  obtain ⟨kk,hk⟩:=zT g3
  rw [hk]
  simp only [opV] at h2
  revert h2 h3
  generalize unm (A.val x) = u
  intro h2 h3
  cases u <;> first | exact h3.elim | skip
  ·exact ⟨⟨h3.1,h3.2.1⟩,h3.2.2,h2⟩
  ·exact ⟨⟨h3.1,h3.2.1⟩,h3.2.2,h2⟩
  ·exact ⟨⟨h3.1,h3.2.1⟩,h3.2.2,h2⟩
  ·exact ⟨⟨h3.1,h3.2.1⟩,h3.2.2.1,h3.2.2.2,h2⟩
  ·rename_i t' v
   cases v <;> first | exact h3.elim | skip
   exact ⟨⟨h3.1,h3.2.1,h3.2.2.1,h3.2.2.2.1⟩,h3.2.2.2.2,h2⟩
  ·obtain ⟨e1,e2,e3,e4⟩:=h3
   obtain ⟨ts,hts⟩:=Option.isSome_iff_exists.1 e3
   simp only [hts,Option.getD_some] at e4
   simp only [iY,hts]
   exact ⟨⟨e1,e2⟩,e4,h2⟩
 case index t x ix =>
  obtain ⟨g1,g2,g3,h3⟩:=h1
  refine aI g1 (aI g2 ?_)
  obtain ⟨kk,hk⟩:=zT g3
  rw [hk]
  simp only [opV] at h2
  revert h2 h3
  generalize unm (A.val x) = u
  intro h2 h3
  cases u <;> first | exact h3.elim | skip
  ·exact ⟨h3.1,h3.2,h2⟩
  ·exact ⟨⟨h3.1,h3.2.1,h3.2.2.1⟩,h3.2.2.2,h2⟩
 case extract x k =>
  refine aI h1.1 ?_
  have h3:=h1.2
  simp only [opV] at h2
  revert h2 h3
  generalize unm (A.val x) = u
  intro h2 h3
  cases u <;> first | exact h3.elim | skip
  simp only [nr] at h3
  obtain ⟨z,hz⟩:=Option.isSome_iff_exists.1 h3
  simp only [nO,hz,Option.getD_some] at h2
  simp only [oI,hz]
  exact h2
 case nilCheck x=>exact aI h1.1 ⟨h1.2,h2⟩
 case makeInterface t x=>exact aI h1.1 ⟨h1.2,h2⟩
 case typeAssert x xt d ok=>exact aI h1.1 ⟨h1.2,h2⟩
 case convert s d x =>
  refine aI h1.1 ?_
  have h3:=h1.2
  simp only [opV] at h2
  revert h2 h3
  generalize unm (A.val x) = u
  intro h2 h3
  cases u <;> first | exact h3.elim | skip
  ·simp only [gE] at h3
   obtain ⟨z,hz⟩:=Option.isSome_iff_exists.1 h3.1
   cases hz' : eB P d with
   | some z' =>
    simp only [fA,hz'] at h2
    simp only [lF,hz,hz']
    exact h2
   | none =>
    have h4:=h3.2
    simp only [hz',Option.isSome_none,Bool.false_or] at h4
    simp only [fA,hz'] at h2
    simp only [lF,hz,hz']
    exact ⟨h4,h2⟩
  all_goals exact ⟨h3,h2⟩
 case makeFunc fn first caps =>
  cases fn <;> first | exact h1.elim | skip
  exact ⟨h1.1,ff h1.2.1 ⟨h1.2.2,h2⟩⟩
 case slice t x lo hi mx=>exact ⟨h1.1,aI h1.2.1 (y9 h1.2.2 h2)⟩
 case build t ps =>
  refine j0 h1.1 ?_
  obtain ⟨g1,g2',g4⟩:=h1.2
  have ⟨fs,g2⟩ : ∃ fs,zeroOf P t = some (.agg t fs):=by
   unfold eO at g2'
   split at g2'
   ·rename_i t' fs hz; simp only [beq_iff_eq] at g2'; subst g2'; exact ⟨fs,hz⟩
   ·cases g2'
  obtain ⟨ts,hts⟩:=Option.isSome_iff_exists.1 g1
  simp only [hts,Option.getD_some] at g4
  simp only [opV,eu,g2] at h2
  simp only [qg,hts,g2]
  exact ⟨⟨trivial,g4⟩,h2⟩
 case buildSlice t m ps =>
  refine j0 h1.1 ?_
  have h3:=h1.2
  unfold er at h3
  split at h3
  ·rename_i e he
   simp only [opV,he,Option.getD_some] at h2
   simp only [ic,he]
   exact ⟨h3,h2⟩
  ·exact h3.elim
 case box t x=>exact aI h1.1 ⟨h1.2,h2⟩
 case lookup t x ix c =>
  cases c
  case true=>exact h1.elim
  refine aI h1.1 (aI h1.2.1 ?_)
  have h3:=h1.2.2
  unfold CX at h3
  simp only [opV,Dv] at h2
  unfold yB
  split at h3
  ·rename_i kt vt ht
   rw [ht] at h2
   simp only at h2
   obtain ⟨l,hl⟩:=Option.isSome_iff_exists.1 h3.2.2.2
   rw [hl] at h2
   simp only [ht,hl]
   exact ⟨h3.1,h3.2.1,h3.2.2.1,h2⟩
  ·exact h3.elim
 case call c =>
  obtain ⟨callee,args,argTypes⟩:=c
  cases callee <;> first | exact h1.elim | skip
  rename_i b
  refine ff h1.1 ?_
  have h3:=h1.2
  simp only [opV] at h2
  revert h2 h3
  generalize cd A args.toList = us
  intro h2 h3
  unfold iI at h3
  unfold lV
  split at h3
  ·rename_i u
   split at h3
   ·rename_i t ht
    simp only at ht
    simp only [ht]
    simp only [gL] at h2
    cases u <;> first | exact h3.elim | exact ⟨h3,fun _=>h2⟩
   ·exact h3.elim
  ·rename_i u
   split at h3
   ·rename_i t ht
    simp only at ht
    simp only [ht]
    simp only [gL] at h2
    cases u <;> first | exact h3.elim | exact ⟨h3,h2⟩
   ·exact h3.elim
  ·exact ⟨h3,h2⟩
  ·exact ⟨h3,h2⟩
  ·exact h3.elim
 all_goals exact h1.elim

end
end Go.Av
end
