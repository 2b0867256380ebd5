/- Texts that the last one of this claim rests on: a layer over the guide's own conditions for code; contracts of the functions that the law reaches, one by one. No conditions beside those of the given rows. -/
import Derived.Laws.MakeOwn
import Derived.Lib.AppendZeros
import Derived.Lib.ConvBytes
import Derived.Laws.BytesString
import Derived.Laws.Cells
import Derived.Lib.AppendStr
import Derived.Orders
import Derived.Laws.Externs
import Derived.Test.YtekjlnodoelblaaGreatDoorWaa
set_option linter.unusedSimpArgs false
set_option linter.unusedVariables false
section
namespace Go.Av
open Go

section
variable {P : Program} {W0 w w' : World} {C C' : Ctx} {σ σ' : Store} {n : Nat} {A : AState} {a : Act} {o : Oper}

theorem run_append_room_off (w : World) (t ty e : TypeId) (i : TypeInfo) (ht : P.underlying t = some (.slice e)) (hi : P.info? e = some i)
  (g off sLen sCap : Nat) (te : TypeId) (fr : Nat × Nat) (cur : Array Value) (hg : w.heap[g]? = some (.cells cur te fr)) (hfr : FrOk fr cur.size)
  (a : Addr) (m c : Nat) (news : List Value) (hl : news.length = m * i.size) (hnews : ∀ j u,news[j]? = some u → w.cell? (a.add j) = some u) (h1 : ∀ u ∈ news,u.oneCell' = true)
  (hroom : sLen + m ≤ sCap) (hfit : off + sLen * i.size + news.length ≤ cur.size) :
  (Builtin.append_ #[t,t] ty #[.slice (some ⟨g,off,none⟩) sLen sCap,.slice (some a) m c]).run P w =
   .ok (.slice (some ⟨g,off,none⟩) (sLen + m) sCap) (w.setRow g (splice cur (off + sLen * i.size) news)):=by
 have hf:=run_firstCells_some (P:=P) w i.size m a m c news hl hnews
 have hst:=run_storeCells_atT P g (off + sLen * i.size) te fr news 0 cur w hg hfr (by simpa using hfit) h1
 simp only [Nat.add_zero] at hst
 simp [Builtin.append_,run_underlying ht,sizeOf,typeInfo,hi,Builtin.lenOf,hroom,hf,Addr.add_lit,hst,splice]

theorem obj_newM (h : StRel P W0 w C σ) {e : TypeId} {zs : List AV} {cap : Nat} {arr : Array Value} {cf : Nat → List Value} (hl : zs.length ≤ cap) (hc : cap ≤ maxLen) (hs : arr.size = cap * szOf P e)
  (hz : ∀ i x,zs[i]? = some x → Rel P w C x (cf i) ∧ (cf i).length = szOf P e ∧ fits P e x ∧ ∀ (j : Nat) (u : Value),(cf i)[j]? = some u → arr[i * szOf P e + j]? = some u) :
  ∃ C',Step w C (w.alloc (.cells arr e)) C' ∧ StRel P W0 (w.alloc (.cells arr e)) C' (σ ++ [some (.cells e zs)]) ∧ RelV P (w.alloc (.cells arr e)) C' (.row e σ.length 0 zs.length) (.slice (some ⟨w.heap.size,0,none⟩) zs.length cap) ∧ C'.m σ.length = some (.obj w.heap.size e 0 arr.size):=by
 have hhw : zs.length * szOf P e ≤ arr.size:=by rw [hs]; exact Nat.mul_le_mul_right _ hl
 obtain ⟨h1,h2⟩:=h.push (ob:=.cells arr e) (ow:=.obj w.heap.size e 0 arr.size) (so:=.cells e zs) rfl
  ⟨rfl,arr,e,(0,0),heap_alloc_new w _,.inl rfl,rfl,by simpa using hhw,cf,fun i x hx=>by
   obtain ⟨g1,g2,g3,g4⟩:=hz i x hx
   exact ⟨g1.mono (step_push _ rfl),g2,g3,fun j c hj=>by rw [Nat.zero_add]; exact g4 j c hj⟩⟩
 refine ⟨_,h1,h2,.one rfl (.row hl hc (by simp [Ctx.push,h.nx]) (fun ow how=>?_)),by simp [Ctx.push,h.nx]⟩
 simp only [Ctx.push,h.nx,if_true,Option.some.injEq] at how
 subst how
 exact ⟨_,0,_,rfl,fun _=>by simp,by simp [hs]⟩

theorem obj_new (h : StRel P W0 w C σ) {e : TypeId} {zs : List AV} {cap : Nat} {arr : Array Value} {cf : Nat → List Value} (hl : zs.length ≤ cap) (hc : cap ≤ maxLen) (hs : arr.size = cap * szOf P e)
  (hz : ∀ i x,zs[i]? = some x → Rel P w C x (cf i) ∧ (cf i).length = szOf P e ∧ fits P e x ∧ ∀ (j : Nat) (u : Value),(cf i)[j]? = some u → arr[i * szOf P e + j]? = some u) :
  ∃ C',Step w C (w.alloc (.cells arr e)) C' ∧ StRel P W0 (w.alloc (.cells arr e)) C' (σ ++ [some (.cells e zs)]) ∧ RelV P (w.alloc (.cells arr e)) C' (.row e σ.length 0 zs.length) (.slice (some ⟨w.heap.size,0,none⟩) zs.length cap):=by
 obtain ⟨C',h1,h2,h3,_⟩:=obj_newM (P:=P) h hl hc hs hz
 exact ⟨C',h1,h2,h3⟩

theorem obj_grow (h : StRel P W0 w C σ) {id b base base' room : Nat} {fr : Nat × Nat} {e t' : TypeId} {xs zs : List AV} {arr arr' : Array Value} {cf : Nat → List Value} (hs : σ[id]? = some (some (.cells e xs))) (hm : C.m id = some (.obj b e base room)) (hb : w.heap[b]? = some (.cells arr t' fr)) (hf : FrOk fr arr.size)
  (hsz : arr.size = room) (hsize : arr'.size = arr.size) (hfit : base' + zs.length * szOf P e ≤ room)
  (hz : ∀ i x,zs[i]? = some x → Rel P w C x (cf i) ∧ (cf i).length = szOf P e ∧ fits P e x ∧ ∀ (j : Nat) (u : Value),(cf i)[j]? = some u → arr'[base' + i * szOf P e + j]? = some u) :
  ∃ C',Step w C (w.setRow b arr') C' ∧ StRel P W0 (w.setRow b arr') C' (σ.set id none ++ [some (.cells e zs)]) ∧ C'.nx = σ.length + 1 ∧ C'.m σ.length = some (.obj b e base' room):=by
 have htl : id < σ.length:=(List.getElem?_eq_some_iff.1 hs).1
 have hnew : (w.setRow b arr').heap[b]? = some (.cells arr' t' fr):=setRow_heap w b arr _ t' _ hb
 have hC : ∀ i ow,((C.kill id).push (.obj b e base' room)).m i = some ow → (i = C.nx ∧ ow = .obj b e base' room) ∨ (i ≠ C.nx ∧ i ≠ id ∧ C.m i = some ow):=fun i ow hi=>by
  rw [push_m,kill_nx,kill_m] at hi
  split at hi
  ·rename_i he; cases hi; exact .inl ⟨he,rfl⟩
  ·rename_i he
   split at hi
   ·cases hi
   ·rename_i ht; exact .inr ⟨he,ht,hi⟩
 have hne : ∀ i ow,i ≠ id → C.m i = some ow → ow.blk ≠ b:=fun i ow hi hm' he=>hi (h.inj i id ow _ hm' hm (by simpa [Own.blk] using he))
 have hstep : Step w C (w.setRow b arr') ((C.kill id).push (.obj b e base' room)):=by
  refine ⟨by simp [Ctx.push,Ctx.kill],fun i ow hid hi=>?_,fun b' i hst=>?_,rfl,rfl,rfl,by simp,fun b' hlt hn=>?_⟩
  ·rcases hC i ow hi with ⟨e1,_⟩ | ⟨_,_,h'⟩
   ·omega
   ·exact h'
  ·have hbb : b' ≠ b:=fun e1=>by
    obtain ⟨_,_,_,e2,_⟩:=hst.2 id _ hm (by simp [Own.blk,e1])
    cases e2
   refine ⟨cell_setRow_other w b _ ⟨b',i,none⟩ hbb,by simpa using hst.1,fun i' ow hi he=>?_⟩
   rcases hC i' ow hi with ⟨_,rfl⟩ | ⟨_,_,h'⟩
   ·exact absurd he (fun e1=>hbb e1.symm)
   ·exact hst.2 i' ow h' he
  ·refine ⟨setRow_other w b b' _ (fun e1=>hn id _ hm (by simp [Own.blk,e1])),fun i ow hi=>?_⟩
   rcases hC i ow hi with ⟨_,rfl⟩ | ⟨_,_,h'⟩
   ·intro he; exact hn id _ hm he
   ·exact hn i ow h'
 refine ⟨_,hstep,h.change hstep (fun i ow hi=>?_) (by simp [Ctx.push,Ctx.kill,h.nx]) (fun i j x y hi hj he=>?_) (fun i ow hi=>?_) (fun i=>?_),by simp [Ctx.push,Ctx.kill,h.nx],by simp [Ctx.push,Ctx.kill,h.nx]⟩
 ·rcases hC i ow hi with ⟨_,rfl⟩ | ⟨_,_,h'⟩
  ·exact h.low id (.obj b e base room) hm
  ·exact h.low i ow h'
 ·rcases hC i x hi with ⟨e1,rfl⟩ | ⟨e1,t1,h1⟩
  ·rcases hC j y hj with ⟨e2,rfl⟩ | ⟨e2,t2,h2⟩
   ·omega
   ·exact absurd he.symm (hne j y t2 h2)
  ·rcases hC j y hj with ⟨e2,rfl⟩ | ⟨e2,t2,h2⟩
   ·exact absurd he (hne i x t1 h1)
   ·exact h.inj i j x y h1 h2 he
 ·simp only [Ctx.push,Ctx.kill]
  rcases hC i ow hi with ⟨e1,_⟩ | ⟨_,_,h1⟩
  ·omega
  ·have:=h.dom i ow h1; omega
 ·rw [join_push,List.length_set,join_set _ _ _ _ htl]
  by_cases hi : i = σ.length
  ·left
   rw [if_pos hi]
   have : ((C.kill id).push (.obj b e base' room)).m i = some (.obj b e base' room):=by simp [Ctx.push,Ctx.kill,hi,h.nx]
   rw [this]
   refine ⟨rfl,_,t',fr,hnew,by rw [hsize]; exact hf,by rw [hsize,hsz],hfit,cf,fun q x hx=>?_⟩
   obtain ⟨g1,g2,g3,g4⟩:=hz q x hx
   exact ⟨g1.mono hstep,g2,g3,g4⟩
  ·rw [if_neg hi]
   by_cases ht : i = id
   ·left
    rw [if_pos ht]
    have : ((C.kill id).push (.obj b e base' room)).m i = none:=by
     rw [push_m,kill_nx,kill_m,if_neg (by rw [h.nx]; exact hi),if_pos ht]
    rw [this]
    trivial
   ·right
    rw [if_neg ht]
    refine ⟨rfl,?_,fun ow how=>setRow_other w b _ _ (hne i ow ht how)⟩
    rw [push_m,kill_nx,kill_m,if_neg (by rw [h.nx]; exact hi),if_neg ht]

theorem ok_appendRow (hr : RelO P W0 o w C A a) {x y : Operand} {t u e : TypeId} {v z : AV} {xs ys : List AV} (ho : o.op = .call { callee:=.builtin .append,args:=#[x,y],argTypes:=#[t,u] })
  (hx : Is P W0 o A x v) (hy : Is P W0 o A y z) (ht : elT P t = some e) (hu : elT P u = some e) (he : 0 < szOf P e) (hz0 : hasZero P e = true) (hb : RowSt A.st v e xs) (hys : ReadL A.st z e ys)
  (hbytes : (xs.length + ys.length) * bytesOf P e ≤ 140737488355328) (hmax : xs.length + ys.length ≤ maxLen) :
  ∃ r w' C' v' σ',(execOp a.eval o).run P w = .ok (.value r) w' ∧ ((ys = [] ∧ v' = v ∧ σ' = A.st) ∨ (ys ≠ [] ∧ v' = .row e A.st.length 0 (xs.length + ys.length) ∧ σ' = killOf v A.st ++ [some (.cells e (xs ++ ys))])) ∧ Step w C w' C' ∧ StRel P W0 w' C' σ' ∧ RelV P w' C' v' r:=by
 obtain ⟨inf,hinf,hsz⟩:=szOf_info he
 have htu:=elT_inv ht
 have hrun : ∀ b l c yv r w',(Builtin.append_ #[t,t] o.type #[.slice b l c,yv]).run P w = .ok r w' → a.eval x = .slice b l c → a.eval y = yv → (execOp a.eval o).run P w = .ok (.value r) w':=fun b l c yv r w' h h1 h2=>by
  rw [← run_append_types htu (elT_inv hu) hinf] at h
  simp [execOp,ho,resolve,invoke,builtin,h1,h2,h]
 have hxv:=hx w C a hr
 have hyv:=hy w C a hr
 obtain ⟨ady,capy,cfy,hye,y3,y4,y5⟩:=hys.cells hr.st hyv
 obtain ⟨bx,cx,hxe,hlx⟩ : ∃ b c,a.eval x = .slice b xs.length c ∧ xs.length ≤ c:=by
  rcases hb with ⟨rfl,rfl⟩ | rfl | ⟨id,off,m,zs,rfl,hs,hm,rfl⟩
  ·exact ⟨none,0,hxv.nils_inv,Nat.le_refl _⟩
  ·have:=hxv.one_inv rfl
   cases hev : a.eval x <;> (rw [hev] at this; cases this)
   exact ⟨_,_,rfl,Nat.le_refl _⟩
  ·obtain ⟨ad,cap,cf,hve,g1,_⟩:=row_cells hr.st hxv hs hm
   have hlen : ((zs.drop off).take m).length = m:=by simp; omega
   rw [hlen]
   exact ⟨_,_,hve,g1⟩
 by_cases hyl : ys = []
 ·subst hyl
  exact ⟨_,w,C,v,A.st,hrun _ _ _ _ _ _ (run_append_zero htu hinf _ _ _ _ _ _ hlx w) hxe hye,.inl ⟨rfl,rfl,rfl⟩,.refl _ _,hr.st,by rw [← hxe]; exact hxv⟩
 have hpos : 0 < ys.length:=by cases ys with | nil=>exact absurd rfl hyl | cons=>simp
 obtain ⟨by_,oy,rfl,news,n1,n2,n3,n4⟩:=y5 hpos
 have n2' : ∀ j u,news[j]? = some u → w.cell? ((⟨by_,oy,none⟩ : Addr).add j) = some u:=fun j u hj=>by rw [Addr.add_lit]; exact n2 j u hj
 obtain ⟨inf',z0,hinf',hiz,hzs⟩:=hasZero_inv hz0
 obtain rfl : inf' = inf:=by rw [hinf] at hinf'; exact (Option.some.inj hinf').symm
 have hmax' : xs.length + ys.length ≤ 9223372036854775807:=by unfold maxLen at hmax; omega
 rw [bytes_of hinf] at hbytes
 have hlen : (xs ++ ys).length = xs.length + ys.length:=by simp
 have hgetl : ∀ i x,(xs ++ ys)[i]? = some x → (i < xs.length ∧ xs[i]? = some x) ∨ (xs.length ≤ i ∧ ys[i - xs.length]? = some x):=fun i x hx=>by
  by_cases hi : i < xs.length
  ·rw [List.getElem?_append_left hi] at hx; exact .inl ⟨hi,hx⟩
  ·rw [List.getElem?_append_right (by omega)] at hx; exact .inr ⟨by omega,hx⟩
 have fresh : ∀ (C1 : Ctx) (σ1 : Store) (b : Addr) (cap : Nat) (olds : List Value) (cf : Nat → List Value),Step w C w C1 → StRel P W0 w C1 σ1 → σ1.length = A.st.length → a.eval x = .slice (some b) xs.length cap → cap < xs.length + ys.length →
   olds.length = xs.length * szOf P e → (∀ j u,olds[j]? = some u → w.cell? (b.add j) = some u) → (∀ (i : Nat) (x : AV),xs[i]? = some x → Rel P w C x (cf i)) → (∀ i x,xs[i]? = some x → (cf i).length = szOf P e ∧ fits P e x) →
   (∀ i x,xs[i]? = some x → ∀ (j : Nat) (u : Value),(cf i)[j]? = some u → olds[i * szOf P e + j]? = some u) →
   ∃ r w' C',(execOp a.eval o).run P w = .ok (.value r) w' ∧ Step w C w' C' ∧ StRel P W0 w' C' (σ1 ++ [some (.cells e (xs ++ ys))]) ∧ RelV P w' C' (.row e A.st.length 0 (xs.length + ys.length)) r:=fun C1 σ1 b cap olds cf k1 k2 hl1 hxq hroom p1 p2 c3 c4 p4=>by
  have hap:=run_append_grow (P:=P) w t o.type e inf' z0 htu hinf hiz b xs.length cap olds (by rw [p1,hsz]) p2 ⟨by_,oy,none⟩ ys.length capy news (by rw [n1,hsz]) n2' hroom (by omega) (growslice_fits hroom hbytes)
  have hge:=grownCap_ge w (xs.length + ys.length) cap e
  have hcap:=grownCap_le_maxLen w (xs.length + ys.length) cap e hmax
  obtain ⟨C',g1,g2,g3⟩:=obj_new (P:=P) (W0:=W0) k2.drew (e:=e) (zs:=xs ++ ys) (cap:=grownCap w (xs.length + ys.length) cap e)
   (arr:=olds.toArray ++ news.toArray ++ Builtin.zeroCells z0.cells (grownCap w (xs.length + ys.length) cap e - (xs.length + ys.length))) (cf:=fun i=>if i < xs.length then cf i else cfy (i - xs.length)) (by rw [hlen]; exact hge) hcap
   (by simp only [Array.size_append,List.size_toArray,size_zeroCells,p1,n1,hzs,← Nat.add_mul]; congr 1; omega)
   (fun i x hx=>by
    have hs:=k1.trans (Step.drew w _)
    rcases hgetl i x hx with ⟨hi,hx'⟩ | ⟨hi,hx'⟩
    ·simp only [hi,if_true]
     refine ⟨(c3 i x hx').mono hs,(c4 i x hx').1,(c4 i x hx').2,fun j u hj=>?_⟩
     have:=p4 i x hx' j u hj
     have hl:=(List.getElem?_eq_some_iff.1 this).1
     rw [Array.getElem?_append_left (by simp; omega),Array.getElem?_append_left (by simpa using hl)]
     simpa using this
    ·simp only [show ¬ i < xs.length by omega,if_false]
     refine ⟨(y3 _ x hx').mono hs,(y4 _ x hx').1,(y4 _ x hx').2,fun j u hj=>?_⟩
     have:=n4 _ x hx' j u hj
     have hl:=(List.getElem?_eq_some_iff.1 this).1
     have hmul : i * szOf P e = xs.length * szOf P e + (i - xs.length) * szOf P e:=by rw [← Nat.add_mul]; congr 1; omega
     rw [Array.getElem?_append_left (by simp; omega),Array.getElem?_append_right (by simp; omega)]
     simp only [List.size_toArray,p1,List.getElem?_toArray]
     rw [show i * szOf P e + j - xs.length * szOf P e = (i - xs.length) * szOf P e + j by omega]
     exact this)
  rw [hlen,hl1] at g3
  exact ⟨_,_,C',hrun _ _ _ _ _ _ hap hxq hye,(k1.trans (Step.drew w _)).trans g1,g2,g3⟩
 rcases hb with ⟨rfl,rfl⟩ | rfl | ⟨id,off,m,zs,rfl,hs,hm,rfl⟩
 ·simp only [List.length_nil,Nat.zero_add] at hbytes hmax hmax'
  have hxe':=hxv.nils_inv
  have hap:=run_append_nil (P:=P) w t o.type e inf' z0 htu hinf hiz ⟨by_,oy,none⟩ ys.length capy news (by rw [n1,hsz]) n2' hpos (by omega) (by omega)
  have hge:=grownCap_ge w ys.length 0 e
  have hcap:=grownCap_le_maxLen w ys.length 0 e hmax
  obtain ⟨C',g1,g2,g3⟩:=obj_new (P:=P) (W0:=W0) hr.st.drew (e:=e) (zs:=ys) (cap:=grownCap w ys.length 0 e) (arr:=news.toArray ++ Builtin.zeroCells z0.cells (grownCap w ys.length 0 e - ys.length)) (cf:=cfy) hge hcap
   (by simp only [Array.size_append,List.size_toArray,size_zeroCells,n1,hzs,← Nat.add_mul]; congr 1; omega)
   (fun i x hx=>⟨(y3 i x hx).mono (Step.drew w C),(y4 i x hx).1,(y4 i x hx).2,fun j u hj=>by
    have:=n4 i x hx j u hj
    rw [Array.getElem?_append_left (by simpa using (List.getElem?_eq_some_iff.1 this).1)]
    simpa using this⟩)
  exact ⟨_,_,C',_,_,hrun _ _ _ _ _ _ hap hxe' hye,.inr ⟨hyl,rfl,rfl⟩,(Step.drew w C).trans g1,by simpa [killOf] using g2,by simpa using g3⟩
 ·obtain ⟨ad,capx,cfx,hxq,x1,x2,x3,x4,x5⟩:=(hxv.one_inv rfl).sl_of (.inr (.inl rfl))
  have hcx : capx = xs.length:=by
   have:=hxv.one_inv rfl
   rw [hxq] at this
   cases this
   rfl
  subst hcx
  by_cases hxl : xs = []
  ·subst hxl
   simp only [List.length_nil,Nat.zero_add] at hbytes hmax hmax'
   cases ad with
   | none =>
    have hap:=run_append_nil (P:=P) w t o.type e inf' z0 htu hinf hiz ⟨by_,oy,none⟩ ys.length capy news (by rw [n1,hsz]) n2' hpos (by omega) (by omega)
    have hge:=grownCap_ge w ys.length 0 e
    have hcap:=grownCap_le_maxLen w ys.length 0 e hmax
    obtain ⟨C',g1,g2,g3⟩:=obj_new (P:=P) (W0:=W0) hr.st.drew (e:=e) (zs:=ys) (cap:=grownCap w ys.length 0 e) (arr:=news.toArray ++ Builtin.zeroCells z0.cells (grownCap w ys.length 0 e - ys.length)) (cf:=cfy) hge hcap
     (by simp only [Array.size_append,List.size_toArray,size_zeroCells,n1,hzs,← Nat.add_mul]; congr 1; omega)
     (fun i x hx=>⟨(y3 i x hx).mono (Step.drew w C),(y4 i x hx).1,(y4 i x hx).2,fun j u hj=>by
      have:=n4 i x hx j u hj
      rw [Array.getElem?_append_left (by simpa using (List.getElem?_eq_some_iff.1 this).1)]
      simpa using this⟩)
    exact ⟨_,_,C',_,_,hrun _ _ _ _ _ _ hap hxq hye,.inr ⟨hyl,rfl,rfl⟩,(Step.drew w C).trans g1,by simpa [killOf] using g2,by simpa using g3⟩
   | some b =>
    obtain ⟨r,w',C',g0,g1,g2,g3⟩:=fresh C A.st b 0 [] cfx (.refl _ _) hr.st rfl hxq (by simpa using hpos) (by simp) (by simp) x3 x4 (by simp)
    exact ⟨r,w',C',_,_,g0,.inr ⟨hyl,rfl,rfl⟩,g1,g2,g3⟩
  ·have hxp : 0 < xs.length:=by cases xs with | nil=>exact absurd rfl hxl | cons=>simp
   obtain ⟨bx',ox',rfl,x6⟩:=x5 hxp
   obtain ⟨olds,p1,p2,p3,p4⟩:=list_cells x3 x4 x6
   obtain ⟨r,w',C',g0,g1,g2,g3⟩:=fresh C A.st ⟨bx',ox',none⟩ xs.length olds cfx (.refl _ _) hr.st rfl hxq (by omega) p1 (fun j u hj=>by rw [Addr.add_lit]; exact p2 j u hj) x3 x4 p4
   exact ⟨r,w',C',_,_,g0,.inr ⟨hyl,rfl,rfl⟩,g1,g2,g3⟩
 ·obtain ⟨ad,cap,cf,hxq,g1,g2,_,c3,c4,b,base,room,arr,t',fr,m1,m2,mf,m3,g5,g6,g7⟩:=row_cells hr.st hxv hs hm
  have hlm : ((zs.drop off).take m).length = m:=by simp; omega
  have hidl : id < A.st.length:=(List.getElem?_eq_some_iff.1 hs).1
  generalize hxs : (zs.drop off).take m = xs at *
  by_cases hroom : xs.length + ys.length ≤ cap
  ·-- in place
   obtain rfl:=g5 (by omega)
   have hfit : base + off * szOf P e + xs.length * szOf P e + news.length ≤ arr.size:=by
    rw [n1,m3,Nat.add_assoc,Nat.add_assoc,← Nat.add_mul,← Nat.add_mul]
    exact Nat.le_trans (Nat.add_le_add_left (Nat.mul_le_mul_right _ (by omega)) _) (Nat.le_of_eq g6)
   have hap:=run_append_room_off (P:=P) w t o.type e inf' htu hinf b (base + off * szOf P e) xs.length cap t' fr arr m2 mf ⟨by_,oy,none⟩ ys.length capy news (by rw [n1,hsz]) n2' n3 hroom (by rw [hsz]; exact hfit)
   rw [hsz] at hap
   have hsize : (splice arr (base + off * szOf P e + xs.length * szOf P e) news).size = arr.size:=splice_size hfit
   obtain ⟨C',k1,k2,k3,k4⟩:=obj_grow hr.st (base':=base + off * szOf P e) (zs:=xs ++ ys) (cf:=fun i=>if i < xs.length then cf i else cfy (i - xs.length)) hs m1 m2 mf m3 hsize (by
     rw [hlen,Nat.add_assoc,← Nat.add_mul]
     exact Nat.le_trans (Nat.add_le_add_left (Nat.mul_le_mul_right _ (by omega)) _) (Nat.le_of_eq g6)) (fun i x hx=>by
    rcases hgetl i x hx with ⟨hi,hx'⟩ | ⟨hi,hx'⟩
    ·simp only [hi,if_true]
     refine ⟨c3 i x hx',(c4 i x hx').1,(c4 i x hx').2,fun j u hj=>?_⟩
     have hjl : j < szOf P e:=by rw [← (c4 i x hx').1]; exact (List.getElem?_eq_some_iff.1 hj).1
     have h5 : (i + 1) * szOf P e ≤ xs.length * szOf P e:=Nat.mul_le_mul_right _ hi
     rw [Nat.succ_mul] at h5
     rw [Nat.add_assoc (base + off * szOf P e),splice_get hfit,if_neg (by omega)]
     have:=g7 i x hx' j u hj
     rwa [show base + off * szOf P e + i * szOf P e + j = base + off * szOf P e + (i * szOf P e + j) by omega] at this
    ·simp only [show ¬ i < xs.length by omega,if_false]
     refine ⟨y3 _ x hx',(y4 _ x hx').1,(y4 _ x hx').2,fun j u hj=>?_⟩
     have:=n4 _ x hx' j u hj
     have hl:=(List.getElem?_eq_some_iff.1 this).1
     have hmul : i * szOf P e = xs.length * szOf P e + (i - xs.length) * szOf P e:=by rw [← Nat.add_mul]; congr 1; omega
     rw [Nat.add_assoc (base + off * szOf P e),splice_get hfit,if_pos (by omega),show base + off * szOf P e + (i * szOf P e + j) - (base + off * szOf P e + xs.length * szOf P e) = (i - xs.length) * szOf P e + j by omega]
     exact this)
   refine ⟨_,_,C',_,_,hrun _ _ _ _ _ _ hap (by rw [hxq,hlm]) hye,.inr ⟨hyl,rfl,rfl⟩,k1,k2,.one rfl (.row hroom g2 (by omega) (fun ow how=>?_))⟩
   rw [k4] at how
   cases how
   refine ⟨b,base + off * szOf P e,room,rfl,fun _=>by simp,?_⟩
   rw [Nat.zero_add,Nat.add_assoc,← Nat.add_mul]
   exact g6
  ·obtain ⟨k1,k2⟩:=hr.st.kill id hidl
   cases ad with
   | none =>
    have hc0 : cap = 0:=by
     rcases Nat.eq_zero_or_pos cap with h | h
     ·exact h
     ·have:=g5 h; cases this
    subst hc0
    have hm0 : m = 0:=by omega
    have hxs0 : xs = []:=by rw [← List.length_eq_zero_iff]; omega
    subst hxs0
    simp only [List.length_nil,Nat.zero_add] at hbytes hmax hmax' hlm
    have hap:=run_append_nil (P:=P) w t o.type e inf' z0 htu hinf hiz ⟨by_,oy,none⟩ ys.length capy news (by rw [n1,hsz]) n2' hpos (by omega) (by omega)
    have hge:=grownCap_ge w ys.length 0 e
    have hcap:=grownCap_le_maxLen w ys.length 0 e hmax
    obtain ⟨C',q1,q2,q3⟩:=obj_new (P:=P) (W0:=W0) k2.drew (e:=e) (zs:=ys) (cap:=grownCap w ys.length 0 e) (arr:=news.toArray ++ Builtin.zeroCells z0.cells (grownCap w ys.length 0 e - ys.length)) (cf:=cfy) hge hcap
     (by simp only [Array.size_append,List.size_toArray,size_zeroCells,n1,hzs,← Nat.add_mul]; congr 1; omega)
     (fun i x hx=>⟨(y3 i x hx).mono (k1.trans (Step.drew w _)),(y4 i x hx).1,(y4 i x hx).2,fun j u hj=>by
      have:=n4 i x hx j u hj
      rw [Array.getElem?_append_left (by simpa using (List.getElem?_eq_some_iff.1 this).1)]
      simpa using this⟩)
    rw [List.length_set] at q3
    refine ⟨_,_,C',_,_,hrun _ _ _ _ _ _ hap (by rw [hxq,hm0]) hye,.inr ⟨hyl,rfl,rfl⟩,(k1.trans (Step.drew w _)).trans q1,by simpa [killOf] using q2,by simpa using q3⟩
   | some b' =>
    have hcells : ∃ olds : List Value,olds.length = xs.length * szOf P e ∧ (∀ (j : Nat) (u : Value),olds[j]? = some u → w.cell? (b'.add j) = some u) ∧ ∀ i x,xs[i]? = some x → ∀ (j : Nat) (u : Value),(cf i)[j]? = some u → olds[i * szOf P e + j]? = some u:=by
     by_cases hxl : xs = []
     ·subst hxl; exact ⟨[],by simp,by simp,by simp⟩
     ·have hcp : 0 < cap:=by
       have : 0 < xs.length:=by cases xs with | nil=>exact absurd rfl hxl | cons=>simp
       omega
      have hb':=g5 hcp
      cases hb'
      have hrd : ReadL A.st (.row e id off m) e xs:=.inr (.inr ⟨id,off,m,zs,rfl,hs,hm,hxs.symm⟩)
      refine ⟨(arr.toList.drop (base + off * szOf P e)).take (xs.length * szOf P e),?_,fun j u hj=>?_,fun i x hx j u hj=>?_⟩
      ·have h6 : base + (off + xs.length) * szOf P e ≤ arr.size:=by rw [m3]; exact Nat.le_trans (Nat.add_le_add_left (Nat.mul_le_mul_right _ (by omega)) _) (Nat.le_of_eq g6)
       rw [Nat.add_mul] at h6
       simp only [List.length_take,List.length_drop,Array.length_toList]
       omega
      ·rw [List.getElem?_take] at hj
       split at hj
       ·rw [List.getElem?_drop,Array.getElem?_toList] at hj
        rw [Addr.add_lit]
        simp [World.cell?,m2,hj]
       ·cases hj
      ·have hi:=(List.getElem?_eq_some_iff.1 hx).1
       have hjl : j < szOf P e:=by rw [← (c4 i x hx).1]; exact (List.getElem?_eq_some_iff.1 hj).1
       have h5 : (i + 1) * szOf P e ≤ xs.length * szOf P e:=Nat.mul_le_mul_right _ hi
       rw [Nat.succ_mul] at h5
       rw [List.getElem?_take,if_pos (by omega),List.getElem?_drop,Array.getElem?_toList]
       have:=g7 i x hx j u hj
       rwa [show base + off * szOf P e + i * szOf P e + j = base + off * szOf P e + (i * szOf P e + j) by omega] at this
    obtain ⟨olds,p1,p2,p4⟩:=hcells
    obtain ⟨r,w',C',q0,q1,q2,q3⟩:=fresh (C.kill id) (A.st.set id none) b' cap olds cf k1 k2 (by simp) (by rw [hxq,hlm]) (by omega) p1 p2 c3 c4 p4
    exact ⟨r,w',C',_,_,q0,.inr ⟨hyl,rfl,rfl⟩,q1,q2,q3⟩

end
end Go.Av
end
section
namespace Go.Av
open Go

section
variable {P : Program} {W0 w w' : World} {C C' : Ctx} {σ σ' : Store} {n : Nat} {A : AState} {a : Act} {o : Oper}

theorem made_get {z : Array Value} {sz m i j : Nat} {u : Value} (hz : z.size = sz) (hi : i < m) (hj : z[j]? = some u) : (madeCells z (m * sz))[i * sz + j]? = some u:=by
 have hjl : j < sz:=by rw [← hz]; exact (Array.getElem?_eq_some_iff.1 hj).1
 have : (i + 1) * sz ≤ m * sz:=Nat.mul_le_mul_right _ hi
 rw [Nat.succ_mul] at this
 have hlt : i * sz + j < m * sz:=by omega
 have hmod : (i * sz + j) % z.size = j:=by rw [hz,Nat.mul_comm,Nat.mul_add_mod]; exact Nat.mod_eq_of_lt hjl
 simp only [madeCells,Array.getElem?_map,Array.getElem?_range,hlt,if_true,Option.map_some]
 rw [hmod]
 obtain ⟨h1,h2⟩:=Array.getElem?_eq_some_iff.1 hj
 rw [getElem!_pos z j h1,h2]

theorem ok_makeSlice (hr : RelO P W0 o w C A a) {x y : Operand} {t e : TypeId} {k k' : IntKind} {m : Int} {v : AV} (ho : o.op = .makeSlice t x y) (hx : Is P W0 o A x (.int k m)) (hy : Is P W0 o A y (.int k' m)) (ht : elT P t = some e) (hz : zeroOf P e = some v) (he : 0 < szOf P e)
  (h0 : 0 ≤ m) (hb : m.toNat * bytesOf P e ≤ 281474976710656) (hm : m.toNat ≤ maxLen) :
  ∃ r w' C',(execOp a.eval o).run P w = .ok (.value r) w' ∧ Step w C w' C' ∧ StRel P W0 w' C' (A.st ++ [some (.cells e (List.replicate m.toNat v))]) ∧ RelV P w' C' (.row e A.st.length 0 m.toNat) r:=by
 obtain ⟨inf,z,hi,hiz,hc,hf⟩:=zeroOf_rel (w:=w) (C:=C) hz
 obtain ⟨inf',hinf,hsz⟩:=szOf_info he
 obtain rfl : inf' = inf:=by rw [hi] at hinf; exact (Option.some.inj hinf).symm
 have hcl : z.cells.size = szOf P e:=by have:=hc.length_fits hf; simpa using this
 rw [bytes_of hi] at hb
 have hm' : m ≤ 9223372036854775807:=by unfold maxLen at hm; omega
 have hxe:=(hx w C a hr).int_inv
 have hye:=(hy w C a hr).int_inv
 have hrun:=run_make (P:=P) w t e inf' z (elT_inv ht) hi hiz k k' m m h0 (Int.le_refl _) (by
  have h2 : ((inf'.bytes : Nat) : Int) * m = ((m.toNat * inf'.bytes : Nat) : Int):=by rw [Int.natCast_mul,Int.toNat_of_nonneg h0,Int.mul_comm]
  rw [h2]; exact Int.ofNat_le.2 hb) hm'
 obtain ⟨C',g1,g2,g3⟩:=obj_new (P:=P) (W0:=W0) hr.st (e:=e) (zs:=List.replicate m.toNat v) (cap:=m.toNat) (arr:=madeCells z.cells (m.toNat * inf'.size)) (cf:=fun _=>z.cells.toList) (by simp) hm (by rw [size_madeCells,hsz])
  (fun i x hx=>by
   simp only [List.getElem?_replicate] at hx
   split at hx
   ·cases hx
    rename_i hlt
    refine ⟨hc,by simpa using hcl,hf,fun j u hj=>?_⟩
    rw [hsz]
    exact made_get hcl hlt (by simpa using hj)
   ·cases hx)
 simp only [List.length_replicate] at g3
 refine ⟨_,_,C',?_,g1,g2,g3⟩
 simp [execOp,ho,hxe,hye,hrun]

theorem ok_appendZero (hr : RelO P W0 o w C A a) {x y : Operand} {t u e : TypeId} {k kn : IntKind} {m : Nat} {v : AV} (ho : o.op = .call { callee:=.builtin .append,args:=#[x,y],argTypes:=#[t,u] })
  (hx : Is P W0 o A x .nils) (hy : Is P W0 o A y (.int k m)) (ht : elT P t = some e) (hu : P.underlying u = some (.int kn)) (he : 0 < szOf P e) (hz : zeroOf P e = some v) (h0 : 0 < m) (hb : m * bytesOf P e ≤ 140737488355328) (hm : m ≤ maxLen) :
  ∃ r w' C',(execOp a.eval o).run P w = .ok (.value r) w' ∧ Step w C w' C' ∧ StRel P W0 w' C' (A.st ++ [some (.cells e (List.replicate m v))]) ∧ RelV P w' C' (.row e A.st.length 0 m) r:=by
 obtain ⟨inf,z,hi,hiz,hc,hf⟩:=zeroOf_rel (w:=w) (C:=C) hz
 obtain ⟨inf',hinf,hsz⟩:=szOf_info he
 obtain rfl : inf' = inf:=by rw [hi] at hinf; exact (Option.some.inj hinf).symm
 have hcl : z.cells.size = szOf P e:=by have:=hc.length_fits hf; simpa using this
 rw [bytes_of hi] at hb
 have hm' : (m : Int) ≤ 9223372036854775807:=by unfold maxLen at hm; omega
 have hxe:=(hx w C a hr).nils_inv
 have hye:=(hy w C a hr).int_inv
 have hrun:=Lib.run_append_nil_zeros (P:=P) w t u o.type e inf' z k kn (elT_inv ht) hu hi hiz m h0 (by rw [hsz]; exact he) hm' (by omega)
 have hge:=grownCap_ge w m 0 e
 have hcap:=grownCap_le_maxLen w m 0 e (by omega)
 obtain ⟨C',g1,g2,g3⟩:=obj_new (P:=P) (W0:=W0) hr.st.drew (e:=e) (zs:=List.replicate m v) (cap:=grownCap w m 0 e) (arr:=Builtin.zeroCells z.cells m ++ Builtin.zeroCells z.cells (grownCap w m 0 e - m)) (cf:=fun _=>z.cells.toList) (by simpa using hge) hcap
  (by simp only [Array.size_append,size_zeroCells,hcl,← Nat.add_mul]; congr 1; omega)
  (fun i x hx=>by
   simp only [List.getElem?_replicate] at hx
   split at hx
   ·cases hx
    rename_i hlt
    refine ⟨hc.mono (Step.drew w C),by simpa using hcl,hf,fun j u hj=>?_⟩
    have hjl : j < szOf P e:=by rw [← hcl]; simpa using (List.getElem?_eq_some_iff.1 hj).1
    have h5 : (i + 1) * szOf P e ≤ m * szOf P e:=Nat.mul_le_mul_right _ hlt
    rw [Nat.succ_mul] at h5
    rw [Array.getElem?_append_left (by rw [size_zeroCells,hcl]; omega)]
    have hzm : Builtin.zeroCells z.cells m = madeCells z.cells (m * szOf P e):=by simp only [Builtin.zeroCells,madeCells,hcl]
    rw [hzm]
    exact made_get hcl hlt (by simpa using hj)
   ·cases hx)
 simp only [List.length_replicate] at g3
 refine ⟨_,_,C',?_,(Step.drew w C).trans g1,g2,g3⟩
 simp [execOp,ho,resolve,invoke,builtin,hxe,hye,hrun]

end
end Go.Av
end
section
namespace Go.Av
open Go

section
variable {P : Program} {W0 w w' : World} {C C' : Ctx} {σ σ' : Store} {n : Nat} {A : AState} {a : Act} {o : Oper}

theorem obj_set (h : StRel P W0 w C σ) {id b base room : Nat} {fr : Nat × Nat} {e t' : TypeId} {xs zs : List AV} {arr arr' : Array Value} {cf : Nat → List Value} (hs : σ[id]? = some (some (.cells e xs))) (hm : C.m id = some (.obj b e base room)) (hb : w.heap[b]? = some (.cells arr t' fr)) (hf : FrOk fr arr.size)
  (hsz : arr.size = room) (hsize : arr'.size = arr.size) (hfit : base + zs.length * szOf P e ≤ room)
  (hz : ∀ i x,zs[i]? = some x → Rel P w C x (cf i) ∧ (cf i).length = szOf P e ∧ fits P e x ∧ ∀ (j : Nat) (u : Value),(cf i)[j]? = some u → arr'[base + i * szOf P e + j]? = some u) :
  Step w C (w.setRow b arr') C ∧ StRel P W0 (w.setRow b arr') C (σ.set id (some (.cells e zs))):=by
 have hstep:=step_setRow (w:=w) hm arr'
 have hidl : id < σ.length:=(List.getElem?_eq_some_iff.1 hs).1
 refine ⟨hstep,h.change hstep h.low (by simpa using h.nx) h.inj h.dom (fun j=>?_)⟩
 rw [join_set _ _ _ _ hidl]
 by_cases hj : j = id
 ·left
  subst hj
  rw [if_pos rfl,hm]
  refine ⟨rfl,_,t',fr,setRow_heap w b arr _ t' _ hb,by rw [hsize]; exact hf,by rw [hsize,hsz],hfit,cf,fun q x hq=>?_⟩
  obtain ⟨g1,g2,g3,g4⟩:=hz q x hq
  exact ⟨g1.mono hstep,g2,g3,g4⟩
 ·right
  rw [if_neg hj]
  exact ⟨rfl,rfl,fun x hx=>setRow_other w b x.blk _ (fun e=>hj (h.inj j id x _ hx hm (by simpa [Own.blk] using e)))⟩

theorem laidL_len {zs ys : List AV} {k : Nat} (h : k + ys.length ≤ zs.length) : (laidL zs k ys).length = zs.length:=by simp [laidL]; omega
theorem laidL_get {zs ys : List AV} {k : Nat} (h : k + ys.length ≤ zs.length) (i : Nat) : (laidL zs k ys)[i]? = if k ≤ i ∧ i < k + ys.length then ys[i - k]? else zs[i]?:=by
 have hk : (zs.take k).length = k:=by simp; omega
 unfold laidL
 by_cases h1 : i < k
 ·rw [if_neg (by omega),List.append_assoc,List.getElem?_append_left (by omega),List.getElem?_take,if_pos h1]
 ·by_cases h2 : i < k + ys.length
  ·rw [if_pos ⟨by omega,h2⟩,List.getElem?_append_left (by simp; omega),List.getElem?_append_right (by omega),hk]
  ·rw [if_neg (by omega),List.getElem?_append_right (by simp; omega),List.getElem?_drop]
   congr 1
   simp
   omega
theorem laidL_nil {zs : List AV} {k : Nat} : laidL zs k [] = zs:=by simp [laidL]

theorem row_room (hr : StRel P W0 w C σ) {e te : TypeId} {id off m : Nat} {zs : List AV} {v : Value} (hv : RelV P w C (.row e id off m) v) (he : 0 < szOf P e) (hs : σ[id]? = some (some (.cells te zs))) :
  te = e ∧ ∃ ad cap b base room arr t' fr,v = .slice ad m cap ∧ m ≤ cap ∧ cap ≤ maxLen ∧ C.m id = some (.obj b e base room) ∧ w.heap[b]? = some (.cells arr t' fr) ∧ FrOk fr arr.size ∧ arr.size = room ∧ base + zs.length * szOf P e ≤ room ∧
   (0 < cap → ad = some ⟨b,base + off * szOf P e,none⟩) ∧ zs.length ≤ off + cap ∧ id < C.nx ∧
   ∃ cf : Nat → List Value,∀ i x,zs[i]? = some x → Rel P w C x (cf i) ∧ (cf i).length = szOf P e ∧ fits P e x ∧ ∀ (j : Nat) (c : Value),(cf i)[j]? = some c → arr[base + i * szOf P e + j]? = some c:=by
 have hv':=hv.one_inv rfl
 obtain ⟨b,base,room,arr,t',fr,m1,m2,mf,m3,m4,cf,m5⟩:=hr.cells hs
 cases hv' with
 | row h1 h2 h3 h4 =>
  obtain ⟨b',base',room',e1,e2,e3⟩:=h4 _ m1
  cases e1
  refine ⟨rfl,_,_,b,base,room,arr,t',fr,rfl,h1,h2,m1,m2,mf,m3,m4,e2,?_,h3,cf,m5⟩
  rw [← e3] at m4
  have:=Nat.le_of_add_le_add_left m4
  exact Nat.le_of_mul_le_mul_right this he

theorem ok_appendIn (hr : RelO P W0 o w C A a) {x y : Operand} {t u e : TypeId} {id off m : Nat} {zs ys : List AV} {z : AV} (ho : o.op = .call { callee:=.builtin .append,args:=#[x,y],argTypes:=#[t,u] })
  (hx : Is P W0 o A x (.row e id off m)) (hy : Is P W0 o A y z) (ht : elT P t = some e) (hu : elT P u = some e) (he : 0 < szOf P e) (hs : A.st[id]? = some (some (.cells e zs))) (hys : ReadL A.st z e ys) (hm : off + m + ys.length ≤ zs.length) :
  ∃ r w',(execOp a.eval o).run P w = .ok (.value r) w' ∧ Step w C w' C ∧ StRel P W0 w' C (A.st.set id (some (.cells e (laidL zs (off + m) ys)))) ∧ RelV P w' C (.row e id off (m + ys.length)) r:=by
 obtain ⟨inf,hinf,hsz⟩:=szOf_info he
 have htu:=elT_inv ht
 have hrun : ∀ b l c yv r w',(Builtin.append_ #[t,t] o.type #[.slice b l c,yv]).run P w = .ok r w' → a.eval x = .slice b l c → a.eval y = yv → (execOp a.eval o).run P w = .ok (.value r) w':=fun b l c yv r w' h h1 h2=>by
  rw [← run_append_types htu (elT_inv hu) hinf] at h
  simp [execOp,ho,resolve,invoke,builtin,h1,h2,h]
 have hxv:=hx w C a hr
 have hyv:=hy w C a hr
 obtain ⟨ady,capy,cfy,hye,y3,y4,y5⟩:=hys.cells hr.st hyv
 obtain ⟨_,ad,cap,b,base,room,arr,t',fr,hxe,c1,c2,m1,m2,mf,m3,m4,e2,e3,hid,cf,m5⟩:=row_room hr.st hxv he hs
 have hidl : id < A.st.length:=(List.getElem?_eq_some_iff.1 hs).1
 by_cases hyl : ys = []
 ·subst hyl
  rw [laidL_nil,show A.st.set id (some (.cells e zs)) = A.st from by
   refine List.ext_getElem? fun i=>?_
   by_cases hi : id = i
   ·subst hi; rw [List.getElem?_set_self hidl,hs]
   ·rw [List.getElem?_set_ne hi]]
  exact ⟨_,w,hrun _ _ _ _ _ _ (run_append_zero htu hinf _ _ _ _ _ _ c1 w) hxe hye,.refl _ _,hr.st,by rw [← hxe]; exact hxv⟩
 have hpos : 0 < ys.length:=by cases ys with | nil=>exact absurd rfl hyl | cons=>simp
 obtain ⟨by_,oy,rfl,news,n1,n2,n3,n4⟩:=y5 hpos
 have n2' : ∀ j u,news[j]? = some u → w.cell? ((⟨by_,oy,none⟩ : Addr).add j) = some u:=fun j u hj=>by rw [Addr.add_lit]; exact n2 j u hj
 obtain rfl:=e2 (by omega)
 have h6 : base + (off + m + ys.length) * szOf P e ≤ arr.size:=by rw [m3]; exact Nat.le_trans (Nat.add_le_add_left (Nat.mul_le_mul_right _ hm) _) m4
 have hfit : base + off * szOf P e + m * szOf P e + news.length ≤ arr.size:=by
  rw [n1]
  rw [Nat.add_mul,Nat.add_mul] at h6
  omega
 have hap:=run_append_room_off (P:=P) w t o.type e inf htu hinf b (base + off * szOf P e) m cap t' fr arr m2 mf ⟨by_,oy,none⟩ ys.length capy news (by rw [n1,hsz]) n2' n3 (by omega) (by rw [hsz]; exact hfit)
 rw [hsz] at hap
 have hsize : (splice arr (base + off * szOf P e + m * szOf P e) news).size = arr.size:=splice_size hfit
 have hoff : base + off * szOf P e + m * szOf P e = base + (off + m) * szOf P e:=by rw [Nat.add_mul]; omega
 obtain ⟨k1,k2⟩:=obj_set hr.st (zs:=laidL zs (off + m) ys) (cf:=fun i=>if off + m ≤ i ∧ i < off + m + ys.length then cfy (i - (off + m)) else cf i) hs m1 m2 mf m3 hsize (by rw [laidL_len hm]; exact m4) (fun i x hx=>by
  rw [laidL_get hm] at hx
  by_cases hi : off + m ≤ i ∧ i < off + m + ys.length
  ·rw [if_pos hi] at hx
   simp only [hi,and_self,if_true]
   refine ⟨y3 _ x hx,(y4 _ x hx).1,(y4 _ x hx).2,fun j u hj=>?_⟩
   have:=n4 _ x hx j u hj
   have hl:=(List.getElem?_eq_some_iff.1 this).1
   have hmul : i * szOf P e = (off + m) * szOf P e + (i - (off + m)) * szOf P e:=by rw [← Nat.add_mul]; congr 1; omega
   rw [splice_get hfit,if_pos (by omega),show base + i * szOf P e + j - (base + off * szOf P e + m * szOf P e) = (i - (off + m)) * szOf P e + j by omega]
   exact this
  ·rw [if_neg hi] at hx
   simp only [hi,if_false]
   obtain ⟨q1,q2,q3,q4⟩:=m5 i x hx
   refine ⟨q1,q2,q3,fun j u hj=>?_⟩
   have hjl : j < szOf P e:=by rw [← q2]; exact (List.getElem?_eq_some_iff.1 hj).1
   rw [splice_get hfit,if_neg ?_]
   ·exact q4 j u hj
   ·rintro ⟨b1,b2⟩
    rw [hoff] at b1 b2
    rw [n1] at b2
    rcases Nat.lt_or_ge i (off + m) with hlt | hge
    ·have h5 : (i + 1) * szOf P e ≤ (off + m) * szOf P e:=Nat.mul_le_mul_right _ hlt
     rw [Nat.succ_mul] at h5
     omega
    ·have h5 : (off + m + ys.length) * szOf P e ≤ i * szOf P e:=Nat.mul_le_mul_right _ (by omega)
     rw [Nat.add_mul] at h5
     omega)
 refine ⟨_,_,hrun _ _ _ _ _ _ hap hxe hye,k1,k2,.one rfl (.row (by omega) c2 hid (fun ow how=>?_))⟩
 have hxv':=hxv.one_inv rfl
 rw [hxe] at hxv'
 cases hxv' with
 | row _ _ _ h4=>exact h4 ow how

theorem ok_appendKeep (hr : RelO P W0 o w C A a) {x y : Operand} {t u e : TypeId} {id off m : Nat} {zs ys : List AV} {z : AV} (ho : o.op = .call { callee:=.builtin .append,args:=#[x,y],argTypes:=#[t,u] })
  (hx : Is P W0 o A x (.row e id off m)) (hy : Is P W0 o A y z) (ht : elT P t = some e) (hu : elT P u = some e) (he : 0 < szOf P e) (hz0 : hasZero P e = true) (hs : A.st[id]? = some (some (.cells e zs))) (hm : off + m = zs.length) (hys : ReadL A.st z e ys)
  (hbytes : (m + ys.length) * bytesOf P e ≤ 140737488355328) (hmax : m + ys.length ≤ maxLen) :
  ∃ r w' C' v' σ',(execOp a.eval o).run P w = .ok (.value r) w' ∧ ((v' = .row e id off (m + ys.length) ∧ σ' = A.st.set id (some (.cells e (zs ++ ys)))) ∨ (v' = .row e A.st.length 0 (m + ys.length) ∧ σ' = A.st ++ [some (.cells e (zs.drop off ++ ys))])) ∧ Step w C w' C' ∧ StRel P W0 w' C' σ' ∧ RelV P w' C' v' r:=by
 obtain ⟨inf,hinf,hsz⟩:=szOf_info he
 have htu:=elT_inv ht
 have hrun : ∀ b l c yv r w',(Builtin.append_ #[t,t] o.type #[.slice b l c,yv]).run P w = .ok r w' → a.eval x = .slice b l c → a.eval y = yv → (execOp a.eval o).run P w = .ok (.value r) w':=fun b l c yv r w' h h1 h2=>by
  rw [← run_append_types htu (elT_inv hu) hinf] at h
  simp [execOp,ho,resolve,invoke,builtin,h1,h2,h]
 have hxv:=hx w C a hr
 have hyv:=hy w C a hr
 obtain ⟨ady,capy,cfy,hye,y3,y4,y5⟩:=hys.cells hr.st hyv
 obtain ⟨_,ad,cap,b,base,room,arr,t',fr,hxe,c1,c2,m1,m2,mf,m3,m4,e2,e3,hid,cf,m5⟩:=row_room hr.st hxv he hs
 have hex : base + (off + cap) * szOf P e = room:=by
  have hxv':=hxv.one_inv rfl
  rw [hxe] at hxv'
  cases hxv' with
  | row _ _ _ h4 =>
   obtain ⟨b',base',room',g1,_,g3⟩:=h4 _ m1
   cases g1
   exact g3
 have hidl : id < A.st.length:=(List.getElem?_eq_some_iff.1 hs).1
 by_cases hyl : ys = []
 ·subst hyl
  refine ⟨_,w,C,_,_,hrun _ _ _ _ _ _ (run_append_zero htu hinf _ _ _ _ _ _ c1 w) hxe hye,.inl ⟨rfl,rfl⟩,.refl _ _,?_,by rw [← hxe]; exact hxv⟩
  rw [List.append_nil,show A.st.set id (some (.cells e zs)) = A.st from by
   refine List.ext_getElem? fun i=>?_
   by_cases hi : id = i
   ·subst hi; rw [List.getElem?_set_self hidl,hs]
   ·rw [List.getElem?_set_ne hi]]
  exact hr.st
 have hpos : 0 < ys.length:=by cases ys with | nil=>exact absurd rfl hyl | cons=>simp
 obtain ⟨by_,oy,rfl,news,n1,n2,n3,n4⟩:=y5 hpos
 have n2' : ∀ j u,news[j]? = some u → w.cell? ((⟨by_,oy,none⟩ : Addr).add j) = some u:=fun j u hj=>by rw [Addr.add_lit]; exact n2 j u hj
 by_cases hroom : m + ys.length ≤ cap
 ·-- within its room
  obtain rfl:=e2 (by omega)
  have h6 : (off + (m + ys.length)) * szOf P e ≤ (off + cap) * szOf P e:=Nat.mul_le_mul_right _ (by omega)
  have hoff : base + off * szOf P e + m * szOf P e = base + (off + m) * szOf P e:=by rw [Nat.add_mul]; omega
  have hfit : base + off * szOf P e + m * szOf P e + news.length ≤ arr.size:=by
   rw [n1,m3]
   simp only [Nat.add_mul] at h6 hex
   omega
  have hap:=run_append_room_off (P:=P) w t o.type e inf htu hinf b (base + off * szOf P e) m cap t' fr arr m2 mf ⟨by_,oy,none⟩ ys.length capy news (by rw [n1,hsz]) n2' n3 hroom (by rw [hsz]; exact hfit)
  rw [hsz] at hap
  have hsize : (splice arr (base + off * szOf P e + m * szOf P e) news).size = arr.size:=splice_size hfit
  obtain ⟨k1,k2⟩:=obj_set hr.st (zs:=zs ++ ys) (cf:=fun i=>if i < zs.length then cf i else cfy (i - zs.length)) hs m1 m2 mf m3 hsize (by
    rw [List.length_append,← hm,← hex]
    exact Nat.add_le_add_left (Nat.mul_le_mul_right _ (by omega)) _) (fun i x hx=>by
   by_cases hi : i < zs.length
   ·rw [List.getElem?_append_left hi] at hx
    simp only [hi,if_true]
    obtain ⟨q1,q2,q3,q4⟩:=m5 i x hx
    refine ⟨q1,q2,q3,fun j u hj=>?_⟩
    have hjl : j < szOf P e:=by rw [← q2]; exact (List.getElem?_eq_some_iff.1 hj).1
    have h5 : (i + 1) * szOf P e ≤ (off + m) * szOf P e:=Nat.mul_le_mul_right _ (by omega)
    rw [Nat.succ_mul] at h5
    rw [splice_get hfit,if_neg (by omega)]
    exact q4 j u hj
   ·rw [List.getElem?_append_right (by omega)] at hx
    simp only [hi,if_false]
    refine ⟨y3 _ x hx,(y4 _ x hx).1,(y4 _ x hx).2,fun j u hj=>?_⟩
    have:=n4 _ x hx j u hj
    have hl:=(List.getElem?_eq_some_iff.1 this).1
    have hmul : i * szOf P e = (off + m) * szOf P e + (i - zs.length) * szOf P e:=by rw [← Nat.add_mul]; congr 1; omega
    rw [splice_get hfit,if_pos (by omega),show base + i * szOf P e + j - (base + off * szOf P e + m * szOf P e) = (i - zs.length) * szOf P e + j by omega]
    exact this)
  refine ⟨_,_,C,_,_,hrun _ _ _ _ _ _ hap hxe hye,.inl ⟨rfl,rfl⟩,k1,k2,.one rfl (.row hroom c2 hid (fun ow how=>?_))⟩
  have hxv':=hxv.one_inv rfl
  rw [hxe] at hxv'
  cases hxv' with
  | row _ _ _ h4=>exact h4 ow how
 obtain ⟨inf',z0,hinf',hiz,hzs⟩:=hasZero_inv hz0
 obtain rfl : inf' = inf:=by rw [hinf] at hinf'; exact (Option.some.inj hinf').symm
 rw [bytes_of hinf] at hbytes
 have hdl : (zs.drop off).length = m:=by rw [List.length_drop]; omega
 have hlen : (zs.drop off ++ ys).length = m + ys.length:=by rw [List.length_append,hdl]
 have hgetl : ∀ i x,(zs.drop off ++ ys)[i]? = some x → (i < m ∧ zs[off + i]? = some x) ∨ (m ≤ i ∧ ys[i - m]? = some x):=fun i x hx=>by
  by_cases hi : i < m
  ·rw [List.getElem?_append_left (by omega),List.getElem?_drop] at hx; exact .inl ⟨hi,hx⟩
  ·rw [List.getElem?_append_right (by omega),hdl] at hx; exact .inr ⟨by omega,hx⟩
 cases ad with
 | none =>
  have hc0 : cap = 0:=by
   rcases Nat.eq_zero_or_pos cap with h | h
   ·exact h
   ·have:=e2 h; cases this
  subst hc0
  have hm0 : m = 0:=by omega
  subst hm0
  have hz : zs.drop off = []:=by rw [← List.length_eq_zero_iff]; exact hdl
  rw [hz]
  simp only [Nat.zero_add] at hbytes hmax
  have hap:=run_append_nil (P:=P) w t o.type e inf' z0 htu hinf hiz ⟨by_,oy,none⟩ ys.length capy news (by rw [n1,hsz]) n2' hpos (by unfold maxLen at hmax; omega) (by omega)
  have hge:=grownCap_ge w ys.length 0 e
  have hcap:=grownCap_le_maxLen w ys.length 0 e hmax
  obtain ⟨C',q1,q2,q3⟩:=obj_new (P:=P) (W0:=W0) hr.st.drew (e:=e) (zs:=ys) (cap:=grownCap w ys.length 0 e) (arr:=news.toArray ++ Builtin.zeroCells z0.cells (grownCap w ys.length 0 e - ys.length)) (cf:=cfy) hge hcap
   (by simp only [Array.size_append,List.size_toArray,size_zeroCells,n1,hzs,← Nat.add_mul]; congr 1; omega)
   (fun i x hx=>⟨(y3 i x hx).mono (Step.drew w C),(y4 i x hx).1,(y4 i x hx).2,fun j u hj=>by
    have:=n4 i x hx j u hj
    rw [Array.getElem?_append_left (by simpa using (List.getElem?_eq_some_iff.1 this).1)]
    simpa using this⟩)
  exact ⟨_,_,C',_,_,hrun _ _ _ _ _ _ hap hxe hye,.inr ⟨rfl,rfl⟩,(Step.drew w C).trans q1,by simpa using q2,by simpa using q3⟩
 | some b' =>
  have hcells : ∃ olds : List Value,olds.length = m * szOf P e ∧ (∀ (j : Nat) (u : Value),olds[j]? = some u → w.cell? (b'.add j) = some u) ∧ ∀ i x,i < m → zs[off + i]? = some x → ∀ (j : Nat) (u : Value),(cf (off + i))[j]? = some u → olds[i * szOf P e + j]? = some u:=by
   by_cases hxl : m = 0
   ·subst hxl; exact ⟨[],by simp,by simp,fun i x hi=>by omega⟩
   ·have hb':=e2 (by omega)
    cases hb'
    refine ⟨(arr.toList.drop (base + off * szOf P e)).take (m * szOf P e),?_,fun j u hj=>?_,fun i x hi hx j u hj=>?_⟩
    ·have h6 : (off + m) * szOf P e ≤ (off + cap) * szOf P e:=Nat.mul_le_mul_right _ (by omega)
     simp only [Nat.add_mul] at h6 hex
     simp only [List.length_take,List.length_drop,Array.length_toList]
     omega
    ·rw [List.getElem?_take] at hj
     split at hj
     ·rw [List.getElem?_drop,Array.getElem?_toList] at hj
      rw [Addr.add_lit]
      simp [World.cell?,m2,hj]
     ·cases hj
    ·obtain ⟨q1,q2,q3,q4⟩:=m5 _ x hx
     have hjl : j < szOf P e:=by rw [← q2]; exact (List.getElem?_eq_some_iff.1 hj).1
     have h5 : (i + 1) * szOf P e ≤ m * szOf P e:=Nat.mul_le_mul_right _ hi
     rw [Nat.succ_mul] at h5
     rw [List.getElem?_take,if_pos (by omega),List.getElem?_drop,Array.getElem?_toList]
     have:=q4 j u hj
     rwa [Nat.add_mul,show base + (off * szOf P e + i * szOf P e) + j = base + off * szOf P e + (i * szOf P e + j) by omega] at this
  obtain ⟨olds,p1,p2,p4⟩:=hcells
  have hap:=run_append_grow (P:=P) w t o.type e inf' z0 htu hinf hiz b' m cap olds (by rw [p1,hsz]) p2 ⟨by_,oy,none⟩ ys.length capy news (by rw [n1,hsz]) n2' (by omega) (by unfold maxLen at hmax; omega) (growslice_fits (by omega) hbytes)
  have hge:=grownCap_ge w (m + ys.length) cap e
  have hcap:=grownCap_le_maxLen w (m + ys.length) cap e hmax
  obtain ⟨C',g1,g2,g3⟩:=obj_new (P:=P) (W0:=W0) hr.st.drew (e:=e) (zs:=zs.drop off ++ ys) (cap:=grownCap w (m + ys.length) cap e)
   (arr:=olds.toArray ++ news.toArray ++ Builtin.zeroCells z0.cells (grownCap w (m + ys.length) cap e - (m + ys.length))) (cf:=fun i=>if i < m then cf (off + i) else cfy (i - m)) (by rw [hlen]; exact hge) hcap
   (by simp only [Array.size_append,List.size_toArray,size_zeroCells,p1,n1,hzs,← Nat.add_mul]; congr 1; omega)
   (fun i x hx=>by
    rcases hgetl i x hx with ⟨hi,hx'⟩ | ⟨hi,hx'⟩
    ·simp only [hi,if_true]
     obtain ⟨q1,q2,q3,q4⟩:=m5 _ x hx'
     refine ⟨q1.mono (Step.drew w C),q2,q3,fun j u hj=>?_⟩
     have:=p4 i x hi hx' j u hj
     have hl:=(List.getElem?_eq_some_iff.1 this).1
     rw [Array.getElem?_append_left (by simp; omega),Array.getElem?_append_left (by simpa using hl)]
     simpa using this
    ·simp only [show ¬ i < m by omega,if_false]
     refine ⟨(y3 _ x hx').mono (Step.drew w C),(y4 _ x hx').1,(y4 _ x hx').2,fun j u hj=>?_⟩
     have:=n4 _ x hx' j u hj
     have hl:=(List.getElem?_eq_some_iff.1 this).1
     have hmul : i * szOf P e = m * szOf P e + (i - m) * szOf P e:=by rw [← Nat.add_mul]; congr 1; omega
     rw [Array.getElem?_append_left (by simp; omega),Array.getElem?_append_right (by simp; omega)]
     simp only [List.size_toArray,p1,List.getElem?_toArray]
     rw [show i * szOf P e + j - m * szOf P e = (i - m) * szOf P e + j by omega]
     exact this)
  rw [hlen] at g3
  exact ⟨_,_,C',_,_,hrun _ _ _ _ _ _ hap hxe hye,.inr ⟨rfl,rfl⟩,(Step.drew w C).trans g1,g2,g3⟩

theorem ok_clear (hr : RelO P W0 o w C A a) {x : Operand} {t e : TypeId} {id off m : Nat} {zs : List AV} {v : AV} (ho : o.op = .call { callee:=.builtin .clear,args:=#[x],argTypes:=#[t] })
  (hx : Is P W0 o A x (.row e id off m)) (ht : elT P t = some e) (he : 0 < szOf P e) (hz : zeroOf P e = some v) (hs : A.st[id]? = some (some (.cells e zs))) (hm : off + m ≤ zs.length) :
  ∃ r w',(execOp a.eval o).run P w = .ok (.value r) w' ∧ Step w C w' C ∧ StRel P W0 w' C (A.st.set id (some (.cells e (laidL zs off (List.replicate m v))))) ∧ RelV P w' C (.tup []) r:=by
 obtain ⟨inf,z,hi,hiz,hc,hf⟩:=zeroOf_rel (w:=w) (C:=C) hz
 obtain ⟨inf',hinf,hsz⟩:=szOf_info he
 obtain rfl : inf' = inf:=by rw [hi] at hinf; exact (Option.some.inj hinf).symm
 have hcl : z.cells.size = szOf P e:=by have:=hc.length_fits hf; simpa using this
 have htu:=elT_inv ht
 have hxv:=hx w C a hr
 obtain ⟨_,ad,cap,b,base,room,arr,t',fr,hxe,c1,c2,m1,m2,mf,m3,m4,e2,e3,hid,cf,m5⟩:=row_room hr.st hxv he hs
 have hidl : id < A.st.length:=(List.getElem?_eq_some_iff.1 hs).1
 have hrel : ∀ w',RelV P w' C (.tup []) (.tuple #[]):=fun w'=>.tup (vs:=[]) rfl (fun i a v h=>by simp at h)
 have hzv : (zeroValue e).run P w = .ok z w:=by simp [zeroValue,typeInfo,hi,hiz]
 by_cases hm0 : m = 0
 ·subst hm0
  rw [show laidL zs off (List.replicate 0 v) = zs from laidL_nil,show A.st.set id (some (.cells e zs)) = A.st from by
   refine List.ext_getElem? fun i=>?_
   by_cases hi : id = i
   ·subst hi; rw [List.getElem?_set_self hidl,hs]
   ·rw [List.getElem?_set_ne hi]]
  refine ⟨_,w,?_,.refl _ _,hr.st,hrel _⟩
  cases ad <;> simp [execOp,ho,resolve,invoke,builtin,hxe,Builtin.clear_,run_underlying htu]
 obtain rfl:=e2 (by omega)
 have hzm : Builtin.zeroCells z.cells m = madeCells z.cells (m * szOf P e):=by simp only [Builtin.zeroCells,madeCells,hcl]
 have hll : (Builtin.zeroCells z.cells m).toList.length = m * szOf P e:=by simp [size_zeroCells,hcl]
 have hrl : (List.replicate m v).length = m:=by simp
 have h6 : base + (off + m) * szOf P e ≤ arr.size:=by rw [m3]; exact Nat.le_trans (Nat.add_le_add_left (Nat.mul_le_mul_right _ hm) _) m4
 have hfit : base + off * szOf P e + (Builtin.zeroCells z.cells m).toList.length ≤ arr.size:=by
  rw [hll]
  rw [Nat.add_mul] at h6
  omega
 have hone : ∀ u ∈ (Builtin.zeroCells z.cells m).toList,u.oneCell' = true:=fun u hu=>by
  rw [hzm] at hu
  simp only [madeCells,Array.toList_map,List.mem_map] at hu
  obtain ⟨q,hq,rfl⟩:=hu
  have hq' : q % z.cells.size < z.cells.size:=Nat.mod_lt _ (by omega)
  rw [getElem!_pos z.cells _ hq']
  exact hc.oneCell _ (by simp)
 have hst:=run_storeCells_atT P b (base + off * szOf P e) t' fr (Builtin.zeroCells z.cells m).toList 0 arr w m2 mf (by simpa using hfit) hone
 simp only [Nat.add_zero] at hst
 have hsize : (splice arr (base + off * szOf P e) (Builtin.zeroCells z.cells m).toList).size = arr.size:=splice_size hfit
 obtain ⟨k1,k2⟩:=obj_set hr.st (zs:=laidL zs off (List.replicate m v)) (cf:=fun i=>if off ≤ i ∧ i < off + m then z.cells.toList else cf i) hs m1 m2 mf m3 hsize (by rw [laidL_len (by rw [hrl]; exact hm)]; exact m4) (fun i x hx=>by
  rw [laidL_get (by rw [hrl]; exact hm),hrl] at hx
  by_cases hi : off ≤ i ∧ i < off + m
  ·rw [if_pos hi,List.getElem?_replicate,if_pos (by omega)] at hx
   cases hx
   simp only [hi,and_self,if_true]
   refine ⟨hc,by simpa using hcl,hf,fun j u hj=>?_⟩
   have hjl : j < szOf P e:=by rw [← hcl]; simpa using (List.getElem?_eq_some_iff.1 hj).1
   have h5 : (i - off + 1) * szOf P e ≤ m * szOf P e:=Nat.mul_le_mul_right _ (by omega)
   rw [Nat.succ_mul] at h5
   have hmul : i * szOf P e = off * szOf P e + (i - off) * szOf P e:=by rw [← Nat.add_mul]; congr 1; omega
   rw [splice_get hfit,if_pos (by omega),show base + i * szOf P e + j - (base + off * szOf P e) = (i - off) * szOf P e + j by omega,hzm,Array.getElem?_toList]
   exact made_get hcl (show i - off < m by omega) (by simpa using hj)
  ·rw [if_neg hi] at hx
   simp only [hi,if_false]
   obtain ⟨q1,q2,q3,q4⟩:=m5 i x hx
   refine ⟨q1,q2,q3,fun j u hj=>?_⟩
   have hjl : j < szOf P e:=by rw [← q2]; exact (List.getElem?_eq_some_iff.1 hj).1
   rw [splice_get hfit,if_neg ?_]
   ·exact q4 j u hj
   ·rintro ⟨b1,b2⟩
    rw [hll] at b2
    rcases Nat.lt_or_ge i off with hlt | hge
    ·have h5 : (i + 1) * szOf P e ≤ off * szOf P e:=Nat.mul_le_mul_right _ hlt
     rw [Nat.succ_mul] at h5
     omega
    ·have h5 : (off + m) * szOf P e ≤ i * szOf P e:=Nat.mul_le_mul_right _ (by omega)
     rw [Nat.add_mul] at h5
     omega)
 refine ⟨_,_,?_,k1,k2,hrel _⟩
 have esp : splice arr (base + off * szOf P e) (Builtin.zeroCells z.cells m).toList = (arr.toList.take (base + off * szOf P e) ++ (Builtin.zeroCells z.cells m).toList ++ arr.toList.drop (base + off * szOf P e + (Builtin.zeroCells z.cells m).toList.length)).toArray:=rfl
 rw [esp]
 have hne : ∀ (q : Nat),m = q → (Builtin.clear_ #[t] o.type #[.slice (some ⟨b,base + off * szOf P e,none⟩) q cap]).run P w = .ok (.tuple #[]) (w.setRow b (arr.toList.take (base + off * szOf P e) ++ (Builtin.zeroCells z.cells m).toList ++ arr.toList.drop (base + off * szOf P e + (Builtin.zeroCells z.cells m).toList.length)).toArray):=fun q hq=>by
  cases q with
  | zero=>exact absurd hq hm0
  | succ q=>simp [Builtin.clear_,run_underlying htu,hzv,← hq,hst]
 simp [execOp,ho,resolve,invoke,builtin,hxe,hne m rfl]

theorem ok_slice_over {t e te : TypeId} {x : Operand} {lo hi : Option Operand} {id off m p q : Nat} {zs : List AV} (ho : o.op = .slice t x lo hi none) (hx : Is P W0 o A x (.row e id off m)) (ht : elT P t = some e) (he : 0 < szOf P e)
  (hlo : BndIs P W0 o A lo 0 p) (hhi : BndIs P W0 o A hi m q) (h1 : p ≤ q) (hs : A.st[id]? = some (some (.cells te zs))) (h2 : off + q ≤ zs.length) : ValOk P W0 o A (.row e id (off + p) (q - p)) :=
 .of_same fun w C a hr=>by
  obtain ⟨inf,hinf,hsz⟩:=szOf_info he
  obtain ⟨_,ad,cap,b,base,room,arr,t',fr,hv,g1,g2,m1,m2,mf,m3,m4,e2,e3,hid,cf,m5⟩:=row_room hr.st (hx w C a hr) he hs
  have hb:=run_sliceBounds hr true hlo hhi h1 (show q ≤ cap by omega)
  have h:=(hx w C a hr).one_inv rfl
  rw [hv] at h
  cases h with
  | row _ _ _ h4 =>
   refine ⟨.slice (if cap = p then ad else ad.map (·.add (p * szOf P e))) (q - p) (cap - p),?_,.one rfl (.row (by omega) (by omega) hid (fun ow how=>?_))⟩
   ·simp [execOp,ho,Instr.sliceAt,Instr.slice,run_underlying (elT_inv ht),hv,hb,sizeOf,typeInfo,hinf,hsz]
   ·obtain ⟨b,base,room,e1,e2,e3⟩:=h4 ow how
    refine ⟨b,base,room,e1,fun hc=>?_,by rw [show off + p + (cap - p) = off + cap by omega]; exact e3⟩
    rw [if_neg (by omega),e2 (by omega)]
    simp [Addr.add_lit,Nat.add_mul,Nat.add_assoc]

theorem ok_slice3 {t e : TypeId} {x lo hi mx : Operand} {id off m : Nat} {k1 k2 k3 : IntKind} {p q r : Int} (ho : o.op = .slice t x (some lo) (some hi) (some mx)) (hx : Is P W0 o A x (.row e id off m)) (ht : elT P t = some e) (he : 0 < szOf P e)
  (hlo : Is P W0 o A lo (.int k1 p)) (hhi : Is P W0 o A hi (.int k2 q)) (hmx : Is P W0 o A mx (.int k3 r)) (h0 : 0 ≤ p) (h1 : p ≤ q) (h2 : q ≤ r) (h3 : r ≤ m) : ValOk P W0 o A .undef :=
 .of_same fun w C a hr=>by
  obtain ⟨inf,hinf,hsz⟩:=szOf_info he
  have h:=(hx w C a hr).one_inv rfl
  have ⟨ad,cap,hv,g1⟩ : ∃ ad cap,a.eval x = .slice ad m cap ∧ m ≤ cap:=by
   generalize a.eval x = v at h
   cases h with
   | row h1 h2 h3 h4=>exact ⟨_,_,rfl,h1⟩
  have e1:=(hlo w C a hr).int_inv
  have e2:=(hhi w C a hr).int_inv
  have e3:=(hmx w C a hr).int_inv
  have b1:=fun c=>run_sliceBound (P:=P) (w:=w) k1 c (i:=p) (y:=q.toNat) h0 rfl (by omega)
  have b2:=fun c=>run_sliceBound (P:=P) (w:=w) k2 c (i:=q) (y:=r.toNat) (by omega) rfl (by omega)
  have b3:=fun c=>run_sliceBound (P:=P) (w:=w) k3 c (i:=r) (y:=cap) (by omega) rfl (by omega)
  refine ⟨.slice (if r.toNat = p.toNat then ad else ad.map (·.add (p.toNat * szOf P e))) (q.toNat - p.toNat) (r.toNat - p.toNat),?_,.undef _⟩
  simp [execOp,ho,Instr.sliceAt,Instr.slice,Instr.sliceBounds,run_underlying (elT_inv ht),hv,e1,e2,e3,b1,b2,b3,sizeOf,typeInfo,hinf,hsz]

theorem byte_rel (P : Program) (w : World) (C : Ctx) (c : UInt8) : Rel P w C (byteAV c) [.int .u8 c.toNat]:=.int _ _
theorem ok_bytes (hr : RelO P W0 o w C A a) {s d e : TypeId} {x : Operand} {l : List UInt8} (ho : o.op = .convert s d x) (hx : Is P W0 o A x (.str l)) (hs : isStrT P s = true) (hd : elT P d = some e) (he : intT P e = some .u8) (h1 : szOf P e = 1) (hp : prim P e = true) :
  ∃ r w' C',(execOp a.eval o).run P w = .ok (.value r) w' ∧ Step w C w' C' ∧ StRel P W0 w' C' (A.st ++ [some (.cells e (l.map byteAV))]) ∧ RelV P w' C' (.row e A.st.length 0 l.length) r:=by
 obtain ⟨hxe,hlm⟩:=(hx w C a hr).str_inv
 have hrun:=Lib.run_convert_string_bytes (P:=P) w s d e ⟨l.toArray⟩ (isStrT_inv hs) (elT_inv hd) (intT_inv he)
 have hsz : (⟨l.toArray⟩ : ByteArray).size = l.length:=by simp [ByteArray.size]
 rw [hsz] at hrun
 have hge:=grownCap_ge w l.length 0 e
 have hcap:=grownCap_le_maxLen w l.length 0 e hlm
 have hml : (l.map byteAV).length = l.length:=List.length_map ..
 have hbs : (Lib.bytesCells w e ⟨l.toArray⟩).size = grownCap w l.length 0 e * szOf P e:=by
  simp only [Lib.bytesCells,Array.size_append,Array.size_map,Array.size_replicate,hsz,h1,Nat.mul_one]
  simp
  omega
 obtain ⟨C',k1,k2,k3,k4⟩:=obj_newM (P:=P) (W0:=W0) hr.st.drew (e:=e) (zs:=l.map byteAV) (cap:=grownCap w l.length 0 e) (arr:=Lib.bytesCells w e ⟨l.toArray⟩) (cf:=fun i=>[.int .u8 ((l.getD i 0).toNat : Nat)]) (by rw [hml]; exact hge) hcap hbs (fun i x hx=>by
  rw [List.getElem?_map] at hx
  obtain ⟨c,hc,rfl⟩:=Option.map_eq_some_iff.1 hx
  have hi:=(List.getElem?_eq_some_iff.1 hc).1
  have hcd : l.getD i 0 = c:=by rw [List.getD_eq_getElem?_getD,hc]; rfl
  rw [hcd]
  refine ⟨byte_rel P _ _ c,by simp [h1],⟨rfl,hp⟩,fun j u hj=>?_⟩
  cases j with
  | succ j=>simp at hj
  | zero =>
   simp only [List.getElem?_cons_zero,Option.some.injEq] at hj
   subst hj
   rw [h1,Nat.mul_one,Nat.add_zero]
   unfold Lib.bytesCells
   rw [Array.getElem?_append_left (by simpa using hi)]
   simp [hc])
 rw [hml] at k3
 have hw : Lib.bytesWorld w e ⟨l.toArray⟩ = (w.drew.alloc (.cells (Lib.bytesCells w e ⟨l.toArray⟩) e)).freeze ⟨w.heap.size,(Lib.bytesCells w e ⟨l.toArray⟩).size,none⟩ 1:=rfl
 have hdz : w.drew.heap.size = w.heap.size:=rfl
 rw [hdz] at k4
 have hnew:=Lib.bytesWorld_at_new w e ⟨l.toArray⟩
 have hsize:=Lib.bytesWorld_size w e ⟨l.toArray⟩
 have hsz1 : (w.drew.alloc (.cells (Lib.bytesCells w e ⟨l.toArray⟩) e)).heap.size = w.heap.size + 1:=by simp [World.alloc,-World.alloc_eq]
 have hblk : ∀ b,b ≠ w.heap.size → (Lib.bytesWorld w e ⟨l.toArray⟩).heap[b]? = (w.drew.alloc (.cells (Lib.bytesCells w e ⟨l.toArray⟩) e)).heap[b]?:=fun b hb=>by
  rcases Nat.lt_or_ge b w.heap.size with h | h
  ·rw [Lib.bytesWorld_at_old w e _ b h]
   exact (RowKit.Below.heap_alloc w.drew _ b h).symm
  ·rw [Array.getElem?_eq_none (by omega),Array.getElem?_eq_none (by omega)]
 have hstep : Step (w.drew.alloc (.cells (Lib.bytesCells w e ⟨l.toArray⟩) e)) C' (Lib.bytesWorld w e ⟨l.toArray⟩) C':=by
  refine ⟨Nat.le_refl _,fun _ _ _ h=>h,fun b i hst=>?_,rfl,rfl,rfl,by omega,fun b hb hn=>?_⟩
  ·have hbb : b ≠ w.heap.size:=fun e1=>by
    obtain ⟨_,_,_,e2,_⟩:=hst.2 _ _ k4 (by simp [Own.blk,e1])
    cases e2
   refine ⟨by simp only [World.cell?,hblk b hbb],by have:=hst.1; omega,hst.2⟩
  ·have hbb : b ≠ w.heap.size:=fun e1=>hn _ _ k4 (by simp [Own.blk,e1])
   exact ⟨hblk b hbb,hn⟩
 refine ⟨_,_,C',?_,((Step.drew w C).trans k1).trans hstep,?_,k3.mono hstep⟩
 ·simp [execOp,ho,hxe,hrun]
 ·refine k2.change hstep k2.low k2.nx k2.inj k2.dom (fun i=>?_)
  by_cases hi : i = A.st.length
  ·left
   subst hi
   rw [k4,List.getElem?_append_right (Nat.le_refl _),Nat.sub_self]
   have ho:=k2.obj A.st.length
   rw [k4,List.getElem?_append_right (Nat.le_refl _),Nat.sub_self] at ho
   simp only [List.getElem?_cons_zero,Option.join_some] at ho ⊢
   obtain ⟨_,arr,t',fr,q1,q2,q3,q4,cf,q5⟩:=ho
   have ea : arr = Lib.bytesCells w e ⟨l.toArray⟩:=by
    have:=heap_alloc_new w.drew (.cells (Lib.bytesCells w e ⟨l.toArray⟩) e)
    rw [hdz,q1] at this
    cases this
    rfl
   subst ea
   refine ⟨rfl,_,_,_,hnew,.inr (Nat.le_refl _),q3,q4,cf,fun q z hz=>?_⟩
   obtain ⟨g1,g2,g3,g4⟩:=q5 q z hz
   exact ⟨g1.mono hstep,g2,g3,g4⟩
  ·right
   exact ⟨rfl,rfl,fun ow how=>hblk _ fun e1=>hi (k2.inj i _ ow _ how k4 (by simpa [Own.blk] using e1))⟩
theorem ok_string (hr : RelO P W0 o w C A a) {s d e : TypeId} {x : Operand} {u : AV} {l : List UInt8} (ho : o.op = .convert s d x) (hx : Is P W0 o A x u) (hu : ReadL A.st u e (l.map byteAV)) (hs : elT P s = some e) (he : intT P e = some .u8) (h1 : szOf P e = 1) (hd : isStrT P d = true) :
  ∃ r,(execOp a.eval o).run P w = .ok (.value r) w ∧ RelV P w C (.str l) r:=by
 obtain ⟨ad,cap,cf,hxe,y3,y4,y5⟩:=hu.cells hr.st (hx w C a hr)
 have hml : (l.map byteAV).length = l.length:=List.length_map ..
 rw [hml] at hxe y5
 have hcap : l.length ≤ maxLen:=by
  have hv:=hx w C a hr
  rcases hu with h | ⟨rfl,h⟩ | ⟨id,off,m,zs,rfl,h2,h3,h4⟩
  ·unfold AV.asList at h
   rw [← hml]
   split at h <;> cases h
   ·obtain ⟨_,_,_,_,x1,x2,_⟩:=(hv.one_inv rfl).sl_of (.inl rfl)
    exact Nat.le_trans x1 x2
   ·obtain ⟨_,_,_,_,x1,x2,_⟩:=(hv.one_inv rfl).sl_of (.inr (.inl rfl))
    exact Nat.le_trans x1 x2
   ·obtain ⟨_,_,_,_,x1,x2,_⟩:=(hv.one_inv rfl).sl_of (.inr (.inr ⟨_,rfl⟩))
    exact Nat.le_trans x1 x2
  ·rw [← hml,h]; exact Nat.zero_le _
  ·have hv':=hv.one_inv rfl
   rw [hxe] at hv'
   cases hv' with
   | row hm1 hm2=>omega
 have hc1:=run_convert_bytes_string (P:=P) w s d e ad l.length cap (elT_inv hs) (intT_inv he) (isStrT_inv hd)
 refine ⟨.string ⟨l.toArray⟩,?_,.one rfl (.str hcap)⟩
 have hfold : ∀ (l : List UInt8) (b : ByteArray),((l.map fun c=>((c.toNat : Nat) : Int)).foldl (fun r n=>r.push (UInt8.ofNat n.toNat)) b) = ⟨b.data ++ l.toArray⟩:=fun l=>by
  induction l with
  | nil=>intro b; simp
  | cons c l ih =>
   intro b
   rw [List.map_cons,List.foldl_cons,ih]
   congr 1
   simp [ByteArray.push]
 have hrun : (Conv.bytesToString (.slice ad l.length cap)).run P w = .ok (.string ⟨l.toArray⟩) w:=by
  by_cases hl0 : l = []
  ·subst hl0
   cases ad with
   | none=>rfl
   | some ad =>
    have:=run_bytesToString (P:=P) w ad 0 cap [] (by
     have:=run_loadCells_list (P:=P) (w:=w) ad [] (by simp)
     simpa using this)
    exact (by simpa using this : (Conv.bytesToString (.slice (some ad) 0 cap)).run P w = .ok (.string ByteArray.empty) w)
  ·obtain ⟨b,off,rfl,news,n1,n2,n3,n4⟩:=y5 (by cases l with | nil=>exact absurd rfl hl0 | cons=>simp)
   have hnews : news = (l.map fun c=>((c.toNat : Nat) : Int)).map (Value.int .u8):=by
    rw [h1,Nat.mul_one] at n1
    refine List.ext_getElem? fun i=>?_
    by_cases hi : i < l.length
    ·obtain ⟨c,hc⟩ : ∃ c,l[i]? = some c:=⟨_,List.getElem?_eq_getElem hi⟩
     have hx : (l.map byteAV)[i]? = some (byteAV c):=by rw [List.getElem?_map,hc]; rfl
     have hcf : cf i = [.int .u8 c.toNat]:=by
      have:=y3 i _ hx
      generalize cf i = z at this
      cases this
      rfl
     have:=n4 i _ hx 0 (.int .u8 c.toNat) (by rw [hcf]; rfl)
     rw [h1,Nat.mul_one,Nat.add_zero] at this
     rw [this,List.getElem?_map,List.getElem?_map,hc]
     rfl
    ·rw [List.getElem?_eq_none (by omega),List.getElem?_eq_none (by simp; omega)]
   have hload:=run_loadCells_list (P:=P) (w:=w) ⟨b,off,none⟩ news (fun j u hj=>by rw [Addr.add_lit]; exact n2 j u hj)
   rw [h1,Nat.mul_one] at n1
   rw [n1] at hload
   rw [hnews] at hload
   have:=run_bytesToString (P:=P) w ⟨b,off,none⟩ l.length cap _ hload
   rw [this,hfold]
   simp
 simp [execOp,ho,hxe,hc1,hrun]
theorem freeze_end {b : Nat} {arr : Array Value} {t' : TypeId} {fr : Nat × Nat} (hb : w.heap[b]? = some (.cells arr t' fr)) (hf : FrOk fr arr.size) :
  ∃ fr',(w.freeze ⟨b,arr.size,none⟩ 1).heap[b]? = some (.cells arr t' fr') ∧ FrOk fr' arr.size ∧ (∀ k,k ≠ b → (w.freeze ⟨b,arr.size,none⟩ 1).heap[k]? = w.heap[k]?) ∧ (w.freeze ⟨b,arr.size,none⟩ 1).heap.size = w.heap.size:=by
 have hlt:=(Array.getElem?_eq_some_iff.1 hb).1
 have hbe:=(Array.getElem?_eq_some_iff.1 hb).2
 unfold World.freeze
 rw [if_neg (by decide)]
 simp only [Array.size_modify]
 refine ⟨if fr.1 == fr.2 then (arr.size,arr.size + 1) else (min fr.1 arr.size,max fr.2 (arr.size + 1)),?_,?_,fun k hk=>?_,trivial⟩
 ·rw [Array.getElem?_eq_getElem (by simpa using hlt),Array.getElem_modify_self,hbe]
 ·unfold FrOk at *
  right
  split
  ·exact Nat.le_refl _
  ·rename_i h
   rcases hf with rfl | hf
   ·exact absurd (by decide : ((0,0) : Nat × Nat).1 == ((0,0) : Nat × Nat).2) h
   ·simp only []
    omega
 ·rw [Array.getElem?_modify,if_neg (fun e=>hk e.symm)]
theorem ok_convert_id (hr : RelO P W0 o w C A a) {s e : TypeId} {x : Operand} {id off m : Nat} {xs : List AV} (ho : o.op = .convert s s x) (hx : Is P W0 o A x (.row e id off m)) (hs : elT P s = some e) (he : intT P e = some .u8) (h0 : 0 < m) (hσ : A.st[id]? = some (some (.cells e xs))) (hm : off + m ≤ xs.length) :
  ∃ r w' C',(execOp a.eval o).run P w = .ok (.value r) w' ∧ Step w C w' C' ∧ StRel P W0 w' C' (A.st.set id none) ∧ RelV P w' C' (.sl e ((xs.drop off).take m)) r:=by
 have hv:=hx w C a hr
 obtain ⟨b,base,room,arr,t',fr,m1,m2,mf,m3,m4,cf,m5⟩:=hr.st.cells hσ
 obtain ⟨cap,hxe⟩ : ∃ cap,a.eval x = .slice (some ⟨b,base + off * szOf P e,none⟩) m cap:=by
  have h1:=hv.one_inv rfl
  generalize a.eval x = y at h1 ⊢
  cases h1 with
  | row g1 g2 g3 g4 =>
   obtain ⟨b',base',room',e1,e2,e3⟩:=g4 _ m1
   cases e1
   exact ⟨_,by rw [e2 (by omega)]⟩
 obtain ⟨fr',f1,f2,f3,f4⟩:=freeze_end (w:=w) m2 mf
 obtain ⟨w',hw'⟩ : ∃ w',w' = w.freeze ⟨b,arr.size,none⟩ 1:=⟨_,rfl⟩
 rw [← hw'] at f1 f3 f4
 have hcell : ∀ ad : Addr,w'.cell? ad = w.cell? ad:=fun ad=>by
  unfold World.cell?
  by_cases hb : ad.block = b
  ·rw [hb,f1,m2]
  ·rw [f3 _ hb]
 have hstep : Step w C w' C:=by
  refine ⟨Nat.le_refl _,fun _ _ _ h=>h,fun b' i hst=>⟨hcell _,by rw [f4]; exact hst.1,hst.2⟩,?_,?_,?_,by omega,fun b' hb' hn=>⟨f3 _ fun e1=>hn _ _ m1 (by simp [Own.blk,e1]),hn⟩⟩
  all_goals rw [hw']; unfold World.freeze; rw [if_neg (by decide)]
 have hst2 : StRel P W0 w' C A.st:=by
  refine hr.st.change hstep hr.st.low hr.st.nx hr.st.inj hr.st.dom fun i=>?_
  by_cases hi : i = id
  ·left
   subst hi
   rw [hσ,Option.join_some,m1]
   refine ⟨rfl,arr,t',fr',f1,f2,m3,m4,cf,fun i x hx=>?_⟩
   obtain ⟨q1,q2,q3,q4⟩:=m5 i x hx
   exact ⟨q1.mono hstep,q2,q3,q4⟩
  ·right
   exact ⟨rfl,rfl,fun ow how=>f3 _ fun e1=>hi (hr.st.inj i _ ow _ how m1 (by simpa [Own.blk] using e1))⟩
 have hidl:=(List.getElem?_eq_some_iff.1 hσ).1
 obtain ⟨k1,k2⟩:=hst2.kill id hidl
 refine ⟨_,w',C.kill id,?_,hstep.trans k1,k2,freeze_row hst2 (hv.mono hstep) hσ hm⟩
 have hsh : w.shape? b = some (t',arr.size):=by unfold World.shape?; rw [m2]
 rw [hxe,hw']
 simp [execOp,ho,hxe,convert,run_underlying (elT_inv hs),run_underlying (intT_inv he),markStringish,hsh]
theorem ok_buildRow (hr : RelO P W0 o w C A a) {t e : TypeId} {m : Nat} {ps : Array (Nat × Operand)} {qs : List (Nat × AV)} (ho : o.op = .buildSlice t m ps) (ht : elT P t = some e) (he : 0 < szOf P e) (hz : hasZero P e = true) (hm : m * szOf P e ≤ 2 ^ 24)
  (hq : IsParts P W0 o A ps.toList qs) (hk : qs.map (·.1) = List.range' 0 m) (hf : ∀ p ∈ qs,fits P e p.2) :
  ∃ r w' C',(execOp a.eval o).run P w = .ok (.value r) w' ∧ Step w C w' C' ∧ StRel P W0 w' C' (A.st ++ [some (.cells e (qs.map (·.2)))]) ∧ RelV P w' C' (.row e A.st.length 0 m) r:=by
 obtain ⟨inf,z,hinf,hiz,_⟩:=hasZero_inv hz
 have hsz : inf.size = szOf P e:=by simp [szOf,hinf]
 have hlen : qs.length = m:=by have:=congrArg List.length hk; simpa using this
 have hzv : (zeroValue e).run P w = .ok z w:=by simp [zeroValue,typeInfo,hinf,hiz]
 have hsv : (sizeOf e).run P w = .ok (szOf P e) w:=by simp [sizeOf,typeInfo,hinf,hsz]
 have hbig : ¬ m * szOf P e > 2 ^ 24:=by omega
 have hrun : ∀ arr : Array Value,arr.size = m * szOf P e → ∃ cells',Instr.fill (fun i=>some (i * szOf P e,szOf P e)) arr (ps.toList.map fun q=>(q.1,a.eval q.2)) = some cells' ∧ cells'.size = arr.size ∧ (∀ p,p < 0 * szOf P e → cells'[p]? = arr[p]?) ∧ RowIs P w C e 0 (qs.map (·.2)) cells' :=
  fun arr harr=>run_fill_row m qs (ps.toList.map fun q=>(q.1,a.eval q.2)) 0 arr (by rw [hk,hlen]) (by simpa using hq.1) harr (by omega) (hq.rel hr) hf
 have e1 : (Array.map (fun x=>(x.1,a.eval x.2)) ps).toList = ps.toList.map fun q=>(q.1,a.eval q.2):=by simp
 obtain ⟨zc,hzc⟩ : ∃ zc : Array Value,zc = if m * szOf P e = 0 then #[] else z.cells:=⟨_,rfl⟩
 obtain ⟨cells',f1,f2,_,cf,f4⟩:=hrun ((Array.range (m * szOf P e)).map (zc[· % zc.size]!)) (by simp)
 have hl : (qs.map (·.2)).length = m:=by simpa using hlen
 have hmax : m ≤ maxLen:=by
  have : m * 1 ≤ m * szOf P e:=Nat.mul_le_mul_left _ he
  unfold maxLen; omega
 have hsize : cells'.size = m * szOf P e:=by simpa using f2
 obtain ⟨C',k1,k2,k3,_⟩:=obj_newM (P:=P) (W0:=W0) hr.st (e:=e) (zs:=qs.map (·.2)) (cap:=m) (arr:=cells') (cf:=cf) (by rw [hl]; exact Nat.le_refl _) hmax hsize (fun i x hx=>by
  have:=f4 i x hx
  rw [Nat.zero_add] at this
  exact ⟨this.1,this.1.length_fits this.2.1,this.2.1,this.2.2⟩)
 rw [hl] at k3
 refine ⟨_,_,C',?_,k1,k2,k3⟩
 simp only [execOp,ho,Instr.buildSlice,Sem.run_bind,Result.andThen_ok,run_underlying (elT_inv ht),hsv,hbig,if_false,Sem.run_pure]
 by_cases h0 : m * szOf P e = 0
 ·rw [if_pos h0] at hzc ⊢
  subst hzc
  simp only [Sem.run_bind,Sem.run_pure,Result.andThen_ok]
  rw [e1,f1]
  simp only [newRow,newObj,Sem.run_bind,Sem.run_pure]
  rfl
 ·rw [if_neg h0] at hzc ⊢
  subst hzc
  simp only [Sem.run_bind,Sem.run_pure,Result.andThen_ok,hzv]
  rw [e1,f1]
  simp only [newRow,newObj,Sem.run_bind,Sem.run_pure]
  rfl
end
end Go.Av
end
section
namespace Go.Av
open Go

section
variable {P : Program} {W0 w w' : World} {C C' : Ctx} {σ σ' : Store} {n : Nat} {A : AState} {a : Act} {o : Oper}

theorem run_append_zeroStr {t u e : TypeId} {i : TypeInfo} (ht : P.underlying t = some (.slice e)) (hu : P.underlying u = some .string) (hi : P.info? e = some i) (ty : TypeId) (b : Option Addr) (l c : Nat) {s : ByteArray} (hs : s.size = 0) (hl : l ≤ c) (w : World) :
  (Builtin.append_ #[t,u] ty #[.slice b l c,.string s]).run P w = .ok (.slice b l c) w:=by
 have he : s.data = #[]:=by
  have : s.data.size = 0:=hs
  exact Array.eq_empty_of_size_eq_zero this
 cases b <;> simp [Builtin.append_,run_underlying ht,run_underlying hu,sizeOf,typeInfo,hi,Builtin.lenOf,hs,hl,Builtin.firstCells,he,loadCells,loadCellsFrom,storeCells]
theorem ok_appendStr (hr : RelO P W0 o w C A a) {x y : Operand} {t u e : TypeId} {v : AV} {xs : List AV} {l : List UInt8} (ho : o.op = .call { callee:=.builtin .append,args:=#[x,y],argTypes:=#[t,u] })
  (hx : Is P W0 o A x v) (hy : Is P W0 o A y (.str l)) (ht : elT P t = some e) (hu : isStrT P u = true) (he8 : intT P e = some .u8) (h1 : szOf P e = 1) (hp : prim P e = true) (he : 0 < szOf P e) (hz0 : hasZero P e = true) (hb : Bld A.st v e xs)
  (hbytes : (xs.length + l.length) * bytesOf P e ≤ 140737488355328) (hmax : xs.length + l.length ≤ maxLen) :
  ∃ r w' C' v' σ',(execOp a.eval o).run P w = .ok (.value r) w' ∧ App A.st v e (xs ++ l.map byteAV) v' σ' ∧ Step w C w' C' ∧ StRel P W0 w' C' σ' ∧ RelV P w' C' v' r:=by
 obtain ⟨inf,hinf,hsz⟩:=szOf_info he
 have htu:=elT_inv ht
 have hus:=isStrT_inv hu
 have hrun : ∀ b l c yv r w',(Builtin.append_ #[t,u] o.type #[.slice b l c,yv]).run P w = .ok r w' → a.eval x = .slice b l c → a.eval y = yv → (execOp a.eval o).run P w = .ok (.value r) w':=fun b l c yv r w' h h1 h2=>by
  simp [execOp,ho,resolve,invoke,builtin,h1,h2,h]
 have hxv:=hx w C a hr
 obtain ⟨hye,hlm⟩:=(hy w C a hr).str_inv
 obtain ⟨s,hs⟩ : ∃ s : ByteArray,s = ⟨l.toArray⟩:=⟨_,rfl⟩
 rw [← hs] at hye
 obtain ⟨ys,hys⟩ : ∃ ys : List AV,ys = l.map byteAV:=⟨_,rfl⟩
 have hyl0 : ys.length = l.length:=by rw [hys,List.length_map]
 have hss : s.size = ys.length:=by rw [hs,hyl0]; simp [ByteArray.size]
 rw [← hys]
 rw [← hyl0] at hbytes hmax
 obtain ⟨cfy,hcfy⟩ : ∃ cfy : Nat → List Value,cfy = fun i=>[.int .u8 ((l.getD i 0).toNat : Nat)]:=⟨_,rfl⟩
 have hgy : ∀ (i : Nat) (x : AV),ys[i]? = some x → ∃ c,l[i]? = some c ∧ x = byteAV c ∧ cfy i = [.int .u8 c.toNat]:=fun i x hx=>by
  rw [hys,List.getElem?_map] at hx
  obtain ⟨c,hc,rfl⟩:=Option.map_eq_some_iff.1 hx
  refine ⟨c,hc,rfl,?_⟩
  rw [hcfy]
  simp only [List.getD_eq_getElem?_getD,hc,Option.getD_some]
 have y3 : ∀ (i : Nat) (x : AV),ys[i]? = some x → Rel P w C x (cfy i):=fun i x hx=>by
  obtain ⟨c,_,rfl,e1⟩:=hgy i x hx
  rw [e1]; exact .int _ _
 have y4 : ∀ i x,ys[i]? = some x → (cfy i).length = szOf P e ∧ fits P e x:=fun i x hx=>by
  obtain ⟨c,_,rfl,e1⟩:=hgy i x hx
  rw [e1]; exact ⟨by simp [h1],⟨rfl,hp⟩⟩
 obtain ⟨bx,cx,hxe,hlx⟩ : ∃ b c,a.eval x = .slice b xs.length c ∧ xs.length ≤ c:=by
  rcases hb with ⟨rfl,rfl⟩ | rfl | ⟨tok,rfl,_⟩
  ·exact ⟨none,0,hxv.nils_inv,Nat.le_refl _⟩
  ·have:=hxv.one_inv rfl
   generalize a.eval x = v at this
   cases this with
   | lit=>exact ⟨_,_,rfl,Nat.le_refl _⟩
  ·obtain ⟨b,cap,cf,h1,h2,_⟩:=(hxv.one_inv rfl).own_inv
   exact ⟨_,_,h1,h2⟩
 cases hyl : ys with
 | nil =>
  rw [hyl] at hss
  refine ⟨_,w,C,v,A.st,hrun _ _ _ _ _ _ (run_append_zeroStr htu hus hinf _ _ _ _ (by rw [hss]; rfl) hlx w) hxe hye,⟨by simpa using hb,Nat.le_refl _,fun _ _ _=>rfl,.inl rfl⟩,.refl _ _,hr.st,by rw [← hxe]; exact hxv⟩
 | cons y0 yr =>
  rw [← hyl]
  have hpos : 0 < ys.length:=by simp [hyl]
  obtain ⟨news,hnews⟩ : ∃ news : List Value,news = Lib.strCells s:=⟨_,rfl⟩
  have n1 : news.length = ys.length * szOf P e:=by rw [hnews,Lib.strCells_length,hss,h1,Nat.mul_one]
  have n3 : ∀ u ∈ news,u.oneCell' = true:=by rw [hnews]; exact Lib.strCells_oneCell s
  have n4 : ∀ i x,ys[i]? = some x → ∀ (j : Nat) (u : Value),(cfy i)[j]? = some u → news[i * szOf P e + j]? = some u:=fun i x hx j u hj=>by
   obtain ⟨c,hc,rfl,e1⟩:=hgy i x hx
   rw [e1] at hj
   cases j with
   | succ j=>simp at hj
   | zero =>
    simp only [List.getElem?_cons_zero,Option.some.injEq] at hj
    subst hj
    rw [h1,Nat.mul_one,Nat.add_zero,hnews,hs]
    simp only [Lib.strCells,List.getElem?_map,hc,Option.map_some]
  have hsa : s.data.map (fun b=>Value.int .u8 b.toNat) = news.toArray:=by rw [hnews]; apply Array.ext'; simp [Lib.strCells]
  obtain ⟨inf',z0,hinf',hiz,hzs⟩:=hasZero_inv hz0
  obtain rfl : inf' = inf:=by rw [hinf] at hinf'; exact (Option.some.inj hinf').symm
  have hmax' : xs.length + ys.length ≤ 9223372036854775807:=by unfold maxLen at hmax; omega
  rw [bytes_of hinf] at hbytes
  rcases hb with ⟨rfl,rfl⟩ | rfl | ⟨tok,rfl,htok⟩
  ·-- a nil slice
   simp only [List.length_nil,Nat.zero_add] at hbytes hmax hmax'
   have hxe':=hxv.nils_inv
   have hap:=run_append_nil_string (P:=P) w t u o.type e inf' z0 htu hus hinf hiz s (by omega) (by omega) (by rw [hss]; omega)
   rw [hss,hsa] at hap
   have hge:=grownCap_ge w ys.length 0 e
   have hcap:=grownCap_le_maxLen w ys.length 0 e hmax
   obtain ⟨C',g1,g2,g3⟩:=own_new (P:=P) (W0:=W0) hr.st.drew (e:=e) (zs:=ys) (cap:=grownCap w ys.length 0 e) (arr:=news.toArray ++ Builtin.zeroCells z0.cells (grownCap w ys.length 0 e - ys.length)) (cf:=cfy) hge hcap
    (by simp only [Array.size_append,List.size_toArray,size_zeroCells,n1,hzs,← Nat.add_mul]; congr 1; omega)
    (fun i x hx=>⟨(y3 i x hx).mono (Step.drew w C),(y4 i x hx).1,(y4 i x hx).2,fun j u hj=>by
     have:=n4 i x hx j u hj
     rw [Array.getElem?_append_left (by simpa using (List.getElem?_eq_some_iff.1 this).1)]
     simpa using this⟩)
   refine ⟨_,_,C',_,_,hrun _ _ _ _ _ _ hap hxe' hye,⟨.inr (.inr ⟨_,rfl,by simp⟩),by simp,fun id hid _=>by rw [List.getElem?_append_left hid],.inr ⟨_,rfl,Nat.le_refl _⟩⟩,(Step.drew w C).trans g1,g2,g3⟩
  ·-- a list as long as its row
   obtain ⟨adx,capx,cfx,hxq,x1,x2,x3,x4,x5⟩:=(hxv.one_inv rfl).sl_of (.inr (.inl rfl))
   have hcx : capx = xs.length:=by
    have:=hxv.one_inv rfl
    rw [hxq] at this
    cases this
    rfl
   subst hcx
   have hlen : (xs ++ ys).length = xs.length + ys.length:=by simp
   have hgetl : ∀ i x,(xs ++ ys)[i]? = some x → (i < xs.length ∧ xs[i]? = some x) ∨ (xs.length ≤ i ∧ ys[i - xs.length]? = some x):=fun i x hx=>by
    by_cases hi : i < xs.length
    ·rw [List.getElem?_append_left hi] at hx; exact .inl ⟨hi,hx⟩
    ·rw [List.getElem?_append_right (by omega)] at hx; exact .inr ⟨by omega,hx⟩
   have hge:=grownCap_ge w (xs.length + ys.length) xs.length e
   have hcap:=grownCap_le_maxLen w (xs.length + ys.length) xs.length e hmax
   have fin : ∀ (olds : List Value),olds.length = xs.length * szOf P e → (∀ i x,xs[i]? = some x → ∀ (j : Nat) (u : Value),(cfx i)[j]? = some u → olds[i * szOf P e + j]? = some u) →
     (Builtin.append_ #[t,u] o.type #[.slice adx xs.length xs.length,a.eval y]).run P w = .ok (.slice (some ⟨w.heap.size,0,none⟩) (xs.length + ys.length) (grownCap w (xs.length + ys.length) xs.length e)) (w.drew.alloc (.cells (olds.toArray ++ news.toArray ++ Builtin.zeroCells z0.cells (grownCap w (xs.length + ys.length) xs.length e - (xs.length + ys.length))) e)) →
     ∃ r w' C' v' σ',(execOp a.eval o).run P w = .ok (.value r) w' ∧ App A.st (.lit e xs) e (xs ++ ys) v' σ' ∧ Step w C w' C' ∧ StRel P W0 w' C' σ' ∧ RelV P w' C' v' r:=fun olds p1 p4 hap=>by
    obtain ⟨C',g1,g2,g3⟩:=own_new (P:=P) (W0:=W0) hr.st.drew (e:=e) (zs:=xs ++ ys) (cap:=grownCap w (xs.length + ys.length) xs.length e)
     (arr:=olds.toArray ++ news.toArray ++ Builtin.zeroCells z0.cells (grownCap w (xs.length + ys.length) xs.length e - (xs.length + ys.length))) (cf:=fun i=>if i < xs.length then cfx i else cfy (i - xs.length)) (by rw [hlen]; exact hge) hcap
     (by simp only [Array.size_append,List.size_toArray,size_zeroCells,p1,n1,hzs,← Nat.add_mul]; congr 1; omega)
     (fun i x hx=>by
      rcases hgetl i x hx with ⟨hi,hx'⟩ | ⟨hi,hx'⟩
      ·simp only [hi,if_true]
       refine ⟨(x3 i x hx').mono (Step.drew w C),(x4 i x hx').1,(x4 i x hx').2,fun j u hj=>?_⟩
       have:=p4 i x hx' j u hj
       have hl:=(List.getElem?_eq_some_iff.1 this).1
       rw [Array.getElem?_append_left (by simp; omega),Array.getElem?_append_left (by simpa using hl)]
       simpa using this
      ·simp only [show ¬ i < xs.length by omega,if_false]
       refine ⟨(y3 _ x hx').mono (Step.drew w C),(y4 _ x hx').1,(y4 _ x hx').2,fun j u hj=>?_⟩
       have:=n4 _ x hx' j u hj
       have hl:=(List.getElem?_eq_some_iff.1 this).1
       have hmul : i * szOf P e = xs.length * szOf P e + (i - xs.length) * szOf P e:=by rw [← Nat.add_mul]; congr 1; omega
       rw [Array.getElem?_append_left (by simp; omega),Array.getElem?_append_right (by simp; omega)]
       simp only [List.size_toArray,p1,List.getElem?_toArray]
       rw [show i * szOf P e + j - xs.length * szOf P e = (i - xs.length) * szOf P e + j by omega]
       exact this)
    rw [hlen] at g3
    exact ⟨_,_,C',_,_,hrun _ _ _ _ _ _ hap hxq rfl,⟨.inr (.inr ⟨_,rfl,by simp⟩),by simp,fun id hid _=>by rw [List.getElem?_append_left hid],.inr ⟨_,rfl,Nat.le_refl _⟩⟩,(Step.drew w C).trans g1,g2,g3⟩
   rw [hye] at fin
   cases adx with
   | none =>
    have hx0 : xs = []:=by
     cases xs with
     | nil=>rfl
     | cons c r=>obtain ⟨b,off,e1,_⟩:=x5 (by simp); cases e1
    subst hx0
    simp only [List.length_nil,Nat.zero_add] at hbytes hmax hmax' fin
    have hap:=run_append_nil_string (P:=P) w t u o.type e inf' z0 htu hus hinf hiz s (by omega) (by omega) (by rw [hss]; omega)
    rw [hss,hsa] at hap
    exact fin [] (by simp) (by simp) (by simpa using hap)
   | some b0 =>
    have hcells : ∃ olds : List Value,olds.length = xs.length * szOf P e ∧ (∀ (j : Nat) (u : Value),olds[j]? = some u → w.cell? (b0.add j) = some u) ∧ ∀ i x,xs[i]? = some x → ∀ (j : Nat) (u : Value),(cfx i)[j]? = some u → olds[i * szOf P e + j]? = some u:=by
     by_cases hxl : xs = []
     ·subst hxl; exact ⟨[],by simp,by simp,by simp⟩
     ·have hxp : 0 < xs.length:=by cases xs with | nil=>exact absurd rfl hxl | cons=>simp
      obtain ⟨bx',ox',e1,x6⟩:=x5 hxp
      cases e1
      obtain ⟨olds,p1,p2,p3,p4⟩:=list_cells x3 x4 x6
      exact ⟨olds,p1,fun j u hj=>by rw [Addr.add_lit]; exact p2 j u hj,p4⟩
    obtain ⟨olds,p1,p2,p4⟩:=hcells
    have hap:=Lib.run_append_grow_string (P:=P) w t u o.type e inf' z0 htu hus hinf hiz b0 xs.length xs.length olds (by rw [p1,hsz]) p2 s (by omega) (by rw [hss]; omega) (by rw [hss]; exact growslice_fits (by omega) hbytes)
    rw [hss,← hnews] at hap
    exact fin olds p1 p4 hap
  ·-- a row of the call's own
   obtain ⟨b,cap,cf,hxq,c1,c2,c3,c4,c5,c6⟩:=(hxv.one_inv rfl).own_inv
   obtain ⟨b',e',hw,cap',arr,t1,t2,t3,t4⟩:=hr.st.tok htok
   have t5:=c6 _ t1
   cases t5
   have htl : tok < A.st.length:=(List.getElem?_eq_some_iff.1 htok).1
   have hlen : (xs ++ ys).length = xs.length + ys.length:=by simp
   have hgetl : ∀ i x,(xs ++ ys)[i]? = some x → (i < xs.length ∧ xs[i]? = some x) ∨ (xs.length ≤ i ∧ ys[i - xs.length]? = some x):=fun i x hx=>by
    by_cases hi : i < xs.length
    ·rw [List.getElem?_append_left hi] at hx; exact .inl ⟨hi,hx⟩
    ·rw [List.getElem?_append_right (by omega)] at hx; exact .inr ⟨by omega,hx⟩
   have hxcells : ∀ (i : Nat) (x : AV),xs[i]? = some x → ∀ (j : Nat) (u : Value),(cf i)[j]? = some u → arr[i * szOf P e + j]? = some u ∧ i * szOf P e + j < xs.length * szOf P e:=fun i x hx j u hj=>by
    have hi:=(List.getElem?_eq_some_iff.1 hx).1
    obtain ⟨b2,o2,e2,hc⟩:=c5 (by omega)
    cases e2
    have h1:=(hc i hi j u hj).1
    simp only [World.cell?,t2,Nat.zero_add,Option.isSome_none,Bool.false_eq_true,if_false] at h1
    have hjl : j < szOf P e:=by rw [← (c4 i x hx).1]; exact (List.getElem?_eq_some_iff.1 hj).1
    have : (i + 1) * szOf P e ≤ xs.length * szOf P e:=Nat.mul_le_mul_right _ hi
    rw [Nat.succ_mul] at this
    exact ⟨h1,by omega⟩
   by_cases hroom : xs.length + ys.length ≤ cap
   ·-- in place
    have hfit : xs.length * szOf P e + news.length ≤ arr.size:=by rw [n1,t3,← Nat.add_mul]; exact Nat.mul_le_mul_right _ hroom
    have hap:=Lib.run_append_room_string (P:=P) w t u o.type e inf' htu hus hinf (by rw [hsz]; exact h1) b xs.length cap arr t2 s (by rw [hss]; exact hroom) (by rw [hss]; rw [n1,h1] at hfit; omega)
    rw [hss,← hnews] at hap
    have hsp : (arr.toList.take xs.length ++ news ++ arr.toList.drop (xs.length + ys.length)).toArray = splice arr (xs.length * szOf P e) news:=by
     unfold splice
     rw [n1,h1,Nat.mul_one,Nat.mul_one]
    rw [hsp] at hap
    obtain ⟨C',g1,g2,g3,g4,g5⟩:=tok_grow hr.st htok t1 t2 t3 hfit
    have hnewcell : ∀ i,(w.setRow b (splice arr (xs.length * szOf P e) news)).cell? ⟨b,i,none⟩ = (splice arr (xs.length * szOf P e) news)[i]?:=fun i=>cell_setRow_same w b i arr _ e _ t2
    refine ⟨_,_,C',.own e (xs ++ ys) A.st.length,_,hrun _ _ _ _ _ _ hap hxq hye,⟨.inr (.inr ⟨_,rfl,by simp⟩),by simp,fun id hid hne=>?_,.inr ⟨_,rfl,Nat.le_refl _⟩⟩,g1,g2,?_⟩
    ·rw [List.getElem?_append_left (by simpa using hid),List.getElem?_set_ne (fun e=>hne (by simp [tokOf,e]))]
    ·rw [← hlen]
     refine .one rfl (.own (fun i=>if i < xs.length then cf i else cfy (i - xs.length)) (by rw [hlen]; exact hroom) c2 (fun i x hx=>?_) (fun i x hx=>?_) (fun _=>⟨b,0,rfl,fun i hi j u hj=>?_⟩) (by rw [g3]; omega) (fun ow how=>?_))
     ·rcases hgetl i x hx with ⟨hi,hx'⟩ | ⟨hi,hx'⟩
      ·rw [if_pos hi]; exact (c3 i x hx').mono g1
      ·rw [if_neg (by omega)]; exact (y3 _ x hx').mono g1
     ·rcases hgetl i x hx with ⟨hi,hx'⟩ | ⟨hi,hx'⟩
      ·simp only [hi,if_true]; exact c4 i x hx'
      ·simp only [show ¬ i < xs.length by omega,if_false]; exact y4 _ x hx'
     ·have hst : ∀ k,k < xs.length * szOf P e + news.length → Stable (w.setRow b (splice arr (xs.length * szOf P e) news)) C' b k:=fun k hk =>
       ⟨by simpa using (Array.getElem?_eq_some_iff.1 t2).1,fun id ow hm hbk=>⟨_,_,_,g5 id ow hm hbk,hk⟩⟩
      rw [hnewcell,Nat.zero_add,splice_get hfit]
      by_cases hix : i < xs.length
      ·simp only [hix,if_true] at hj
       obtain ⟨q1,q2⟩:=hxcells i _ (List.getElem?_eq_getElem hix) j u hj
       rw [if_neg (by omega)]
       exact ⟨q1,hst _ (by omega)⟩
      ·simp only [hix,if_false] at hj
       rw [hlen] at hi
       have hyi:=List.getElem?_eq_getElem (show i - xs.length < ys.length by omega)
       have hnw:=n4 _ _ hyi j u hj
       have hnl:=(List.getElem?_eq_some_iff.1 hnw).1
       have hmul : i * szOf P e = xs.length * szOf P e + (i - xs.length) * szOf P e:=by rw [← Nat.add_mul]; congr 1; omega
       rw [if_pos (by omega),show i * szOf P e + j - xs.length * szOf P e = (i - xs.length) * szOf P e + j by omega]
       exact ⟨hnw,hst _ (by omega)⟩
     ·rw [g4] at how
      cases how
      rw [n1,hlen,Nat.add_mul]
   ·-- a new row
    obtain ⟨olds,p1,p2,p3,p4⟩:=list_cells (P:=P) (e:=e) (b:=b) (off:=0) c3 c4 (fun i hi=>by
     obtain ⟨b2,o2,e2,hc⟩:=c5 (by omega)
     cases e2
     exact hc i hi)
    have hap:=Lib.run_append_grow_string (P:=P) w t u o.type e inf' z0 htu hus hinf hiz ⟨b,0,none⟩ xs.length cap olds (by rw [p1,hsz]) (fun j u hj=>by rw [Addr.add_lit]; exact p2 j u hj) s (by omega) (by rw [hss]; omega) (by rw [hss]; exact growslice_fits (by omega) hbytes)
    rw [hss,← hnews] at hap
    have hge:=grownCap_ge w (xs.length + ys.length) cap e
    have hcap:=grownCap_le_maxLen w (xs.length + ys.length) cap e hmax
    obtain ⟨k1,k2⟩:=hr.st.kill tok htl
    obtain ⟨C',g1,g2,g3⟩:=own_new (P:=P) (W0:=W0) k2.drew (e:=e) (zs:=xs ++ ys) (cap:=grownCap w (xs.length + ys.length) cap e)
     (arr:=olds.toArray ++ news.toArray ++ Builtin.zeroCells z0.cells (grownCap w (xs.length + ys.length) cap e - (xs.length + ys.length))) (cf:=fun i=>if i < xs.length then cf i else cfy (i - xs.length)) (by rw [hlen]; exact hge) hcap
     (by simp only [Array.size_append,List.size_toArray,size_zeroCells,p1,n1,hzs,← Nat.add_mul]; congr 1; omega)
     (fun i x hx=>by
      have hs:=k1.trans (Step.drew w _)
      rcases hgetl i x hx with ⟨hi,hx'⟩ | ⟨hi,hx'⟩
      ·simp only [hi,if_true]
       refine ⟨(c3 i x hx').mono hs,(c4 i x hx').1,(c4 i x hx').2,fun j u hj=>?_⟩
       have:=p4 i x hx' j u hj
       have hl:=(List.getElem?_eq_some_iff.1 this).1
       rw [Array.getElem?_append_left (by simp; omega),Array.getElem?_append_left (by simpa using hl)]
       simpa using this
      ·simp only [show ¬ i < xs.length by omega,if_false]
       refine ⟨(y3 _ x hx').mono hs,(y4 _ x hx').1,(y4 _ x hx').2,fun j u hj=>?_⟩
       have:=n4 _ x hx' j u hj
       have hl:=(List.getElem?_eq_some_iff.1 this).1
       have hmul : i * szOf P e = xs.length * szOf P e + (i - xs.length) * szOf P e:=by rw [← Nat.add_mul]; congr 1; omega
       rw [Array.getElem?_append_left (by simp; omega),Array.getElem?_append_right (by simp; omega)]
       simp only [List.size_toArray,p1,List.getElem?_toArray]
       rw [show i * szOf P e + j - xs.length * szOf P e = (i - xs.length) * szOf P e + j by omega]
       exact this)
    rw [hlen] at g3
    rw [List.length_set] at g3
    refine ⟨_,_,C',_,_,hrun _ _ _ _ _ _ hap hxq hye,⟨.inr (.inr ⟨A.st.length,rfl,by simp⟩),by simp,fun id hid hne=>?_,.inr ⟨_,rfl,Nat.le_refl _⟩⟩,(k1.trans (Step.drew w _)).trans g1,g2,g3⟩
    rw [List.getElem?_append_left (by simpa using hid),List.getElem?_set_ne (fun e=>hne (by simp [tokOf,e]))]
end
end Go.Av
end
section
namespace Go.Av
open Go

section
variable {P : Program} {W0 w w' : World} {C C' : Ctx} {σ σ' : Store} {n : Nat} {A : AState} {a : Act} {o : Oper} {fz : List Nat} {K : AState → Prop}

theorem value_wp {v : Value} (hrun : (execOp a.eval o).run P w = .ok (.value v) w') {next : Act → World → Prop} {Qx : Exit → Act → World → Prop} (h : next (a.put o.dst v) w') : o.wp P a w next Qx:=by
 unfold Oper.wp
 rw [hrun]
 exact h

theorem skip_wp (hrun : (execOp a.eval o).run P w = .ok .skip w') {next : Act → World → Prop} {Qx : Exit → Act → World → Prop} (h : next (a.put o.dst undef) w') : o.wp P a w next Qx:=by
 unfold Oper.wp
 rw [hrun]
 exact h

theorem strip_none {x : Operand} (hm : x ∈ o.op.operands) {k : AV → Prop} (h : strip none (A.val x) k) : ∃ u,k u ∧ Is P W0 o A x u:=strip_sound (gd:=none) hm h
theorem stripL_none {xs : List Operand} (hm : ∀ x ∈ xs,x ∈ o.op.operands) {k : List AV → Prop} (h : stripL none (xs.map A.val) k) : ∃ us,k us ∧ IsL P W0 o A xs us:=stripL_sound (gd:=none) _ _ hm h

theorem storeVC_wp (hr : RelA P W0 n w C A a) (hd : dstOk n o.dst) {t : TypeId} {x y : Operand} {u v : AV} (ho : o.op = .store t x y) (hx : Is P W0 o A x u) (hy : Is P W0 o A y v)
  (h : storeVC P fz A t x u v fun A'=>K (A'.put o.dst .undef)) {next : Act → World → Prop} {Qx : Exit → Act → World → Prop}
  (hn : ∀ A' C' a' w',K A' → RelA P W0 n w' C' A' a' → Step w C w' C' → next a' w') : o.wp P a w next Qx:=by
 unfold storeVC at h
 split at h
 ·obtain ⟨⟨rfl,hf⟩,h⟩:=h
  rename_i t' id i path
  split at h
  ·rename_i te xs hs
   split at h
   ·rename_i z hz
    split at h
    ·rename_i y0 hy0
     split at h
     ·rename_i d
      have hl : look A.st id i path = some y0:=by simp [look,hs,hz,hy0]
      obtain ⟨w',r1,r2,r3⟩:=store_ptr (hr.toO o) ho hx hy hl (fits_of_B hf) hs hz
      have hidl : id < A.st.length:=(List.getElem?_eq_some_iff.1 hs).1
      split at h
      ·-- given up
       obtain ⟨rfl,h⟩:=h
       have hzz : z = y0:=by cases z <;> simpa [AV.at] using hy0
       subst hzz
       have hi : i < xs.length:=(List.getElem?_eq_some_iff.1 hz).1
       have hset : z.setAt [] v = v:=by cases z <;> rfl
       rw [hset] at r3
       have hs' : (A.st.set id (some (.cells te (xs.set i v))))[id]? = some (some (.cells te (xs.set i v))):=by simp [hidl]
       have hv:=(hx w C a (hr.toO o)).mono r2
       have hfr:=freeze_ptr (x:=v) r3 hv hs' (by simp [hi])
       obtain ⟨k1,k2⟩:=r3.kill id (by simpa using hidl)
       rw [List.set_set] at k2
       have hr1:=hr.step (r2.trans k1) k2
       have hdn : d < n:=by
        by_cases hdn : d < n
        ·exact hdn
        ·have hle : a.tmps.size ≤ d:=by rw [hr.size]; exact Nat.le_of_not_lt hdn
         have : a.eval (.tmp d) = undef:=by
          show a.tmps.getD d undef = undef
          rw [Array.getD_eq_getD_getElem?,Array.getElem?_eq_none hle]
          rfl
         rw [this] at hfr
         obtain ⟨_,_,_,e,_⟩:=hfr.loc_inv
         cases e
       have hr2 : RelA P W0 n w' (C.kill id) ((A.upd d (.loc t' v)).withSt (A.st.set id none)) a:=by
        refine ⟨fun j=>?_,hr1.defers,hr1.size,hr1.st⟩
        by_cases hj : j = d
        ·subst hj
         have hfr' : RelV P w' (C.kill id) (.loc t' v) (a.tmps.getD j undef):=hfr
         simpa [AState.upd,AState.withSt] using hfr'
        ·have:=hr1.env j; simpa [AState.upd,AState.withSt,hj] using this
       have hr3:=put_rel (o:=o) (v:=.undef) (x:=undef) hr2 hd (.undef _)
       exact skip_wp r1 (hn _ _ _ _ h hr3 (r2.trans k1))
      ·have hr1:=hr.step r2 r3
       have hr3:=put_rel (o:=o) (v:=.undef) (x:=undef) hr1 hd (.undef _)
       exact skip_wp r1 (hn _ _ _ _ h hr3 r2)
     ·exact h.elim
    ·exact h.elim
   ·exact h.elim
  ·exact h.elim
 ·exact h.elim

def noFz (fz : List Nat) : Op → Prop
 | .store _ (.tmp d) _=>fz.contains d = false
 | _=>True

theorem storeVC_wpO (hr : RelO P W0 o w C A a) {t : TypeId} {x y : Operand} {u v : AV} (ho : o.op = .store t x y) (hnf : noFz fz (.store t x y)) (hx : Is P W0 o A x u) (hy : Is P W0 o A y v)
  (h : storeVC P fz A t x u v fun A'=>K (A'.put o.dst .undef)) {next : Act → World → Prop} {Qx : Exit → Act → World → Prop}
  (hn : ∀ v x σ' w' C',K ((A.put o.dst v).withSt σ') → RelV P w' C' v x → StRel P W0 w' C' σ' → Step w C w' C' → next (a.put o.dst x) w') : o.wp P a w next Qx:=by
 unfold storeVC at h
 split at h
 ·obtain ⟨⟨rfl,hf⟩,h⟩:=h
  rename_i t' id i path
  split at h
  ·rename_i te xs hs
   split at h
   ·rename_i z hz
    split at h
    ·rename_i y0 hy0
     split at h
     ·rename_i d
      have hl : look A.st id i path = some y0:=by simp [look,hs,hz,hy0]
      obtain ⟨w',r1,r2,r3⟩:=store_ptr hr ho hx hy hl (fits_of_B hf) hs hz
      rw [if_neg (by simp only [noFz] at hnf; rw [hnf]; simp)] at h
      refine skip_wp r1 (hn .undef undef _ w' C ?_ (.undef _) r3 r2)
      have e : ∀ σ,(A.withSt σ).put o.dst .undef = (A.put o.dst .undef).withSt σ:=fun σ=>by cases o.dst <;> rfl
      rw [← e]; exact h
     ·exact h.elim
    ·exact h.elim
   ·exact h.elim
  ·exact h.elim
 ·exact h.elim

theorem opVC_wpO (hr : RelO P W0 o w C A a) (hnf : noFz fz o.op) (h : opVC P W0 n fz o A K) {next : Act → World → Prop} {Qx : Exit → Act → World → Prop}
  (hn : ∀ v x σ' w' C',K ((A.put o.dst v).withSt σ') → RelV P w' C' v x → StRel P W0 w' C' σ' → Step w C w' C' → next (a.put o.dst x) w') : o.wp P a w next Qx:=by
 have hval : valVC P W0 none o.op A (fun v=>K (A.put o.dst v)) → o.wp P a w next Qx:=fun h=>by
  obtain ⟨v,hK,hp⟩:=valVC_sound hr h
  exact hp w C a hr _ _ fun x w' hv hs hst=>hn v x A.st w' C (by
   have e : (A.put o.dst v).withSt A.st = A.put o.dst v:=by cases o.dst <;> rfl
   rw [e]; exact hK) hv hst hs
 obtain ⟨hd,h⟩:=h
 split at h
 ·rename_i c hc
  obtain ⟨callee,args,argTypes⟩:=c
  split at h
  ·rename_i f hf
   simp only at hf
   subst hf
   obtain ⟨fv,h,hfv⟩:=strip_none (P:=P) (W0:=W0) (o:=o) (by simp [*,Op.operands,Call.operands]) h
   obtain ⟨us,h,hus⟩:=stripL_none (P:=P) (W0:=W0) (o:=o) (fun y hy=>by simp [*,Op.operands,Call.operands]; simp at hy; simp [hy]) h
   split at h
   ·refine acall_wp hr hc hfv hus h (fun v r σ' w' C' hK hst hv hs=>hn r v σ' w' C' hK hv hst hs)
   ·exact h.elim
  ·rename_i hf
   simp only at hf
   subst hf
   obtain ⟨us,h2,hus⟩:=stripL_none (P:=P) (W0:=W0) (o:=o) (fun y hy=>by simp [*,Op.operands,Call.operands]; simp at hy; simp [hy]) h
   clear h
   split at h2
   ·obtain ⟨x,y,hxy,hx,hy⟩:=toList_two hus
    simp only at hxy
    subst hxy
    rcases h2 with h2 | h2 | h2 | h2 | h2 | h2
    ·unfold appendVC at h2
     split at h2
     ·rename_i ts t u hts
      obtain rfl : argTypes = #[t,u]:=by rw [← Array.toArray_toList (xs:=argTypes)]; simp only at hts; rw [hts]
      obtain ⟨e,xs,ys,⟨h1,h2,h3,h4⟩,h5,h6,h7,h8,h9⟩:=h2
      obtain ⟨r,w',C',v',σ',g1,g2,g3,g4,g5⟩:=ok_append hr hc hx hy h1 h2 h3 h4 h5 h6 h7 h8
      exact value_wp g1 (hn v' r σ' w' C' (h9 v' σ' g2) g5 g4 g3)
     ·exact h2.elim
    ·unfold appendRowVC at h2
     split at h2
     ·rename_i ts t u hts
      obtain rfl : argTypes = #[t,u]:=by rw [← Array.toArray_toList (xs:=argTypes)]; simp only at hts; rw [hts]
      obtain ⟨e,xs,ys,⟨h1,h2,h3,h4⟩,h5,h6,h7,h8,h9,h10⟩:=h2
      obtain ⟨r,w',C',v',σ',g1,g2,g3,g4,g5⟩:=ok_appendRow hr hc hx hy h1 h2 h3 h4 h5 h6 h7 h8
      refine value_wp g1 (hn v' r σ' w' C' ?_ g5 g4 g3)
      rcases g2 with ⟨e1,rfl,rfl⟩ | ⟨e1,rfl,rfl⟩
      ·exact h9 e1
      ·exact h10 e1
     ·exact h2.elim
    ·unfold appendZeroVC at h2
     split at h2
     ·rename_i ts t u hts
      obtain rfl : argTypes = #[t,u]:=by rw [← Array.toArray_toList (xs:=argTypes)]; simp only at hts; rw [hts]
      obtain ⟨e,m,z,k,kn,⟨rfl,rfl⟩,⟨h1,h2,h3,h4,h5⟩,h6,h7,h8,h9⟩:=h2
      obtain ⟨r,w',C',g1,g2,g3,g4⟩:=ok_appendZero hr hc hx hy h1 h2 h3 h5 h6 h7 h8
      exact value_wp g1 (hn _ r _ w' C' h9 g4 g3 g2)
     ·exact h2.elim
    ·unfold appendInVC at h2
     split at h2
     ·rename_i ts t u hts
      obtain rfl : argTypes = #[t,u]:=by rw [← Array.toArray_toList (xs:=argTypes)]; simp only at hts; rw [hts]
      obtain ⟨e,id,off,m,zs,ys,⟨h1,h2,h3⟩,rfl,h4,h5,h6,h7⟩:=h2
      obtain ⟨r,w',g1,g2,g3,g4⟩:=ok_appendIn hr hc hx hy h1 h2 h3 h4 h5 h6
      exact value_wp g1 (hn _ r _ w' C h7 g4 g3 g2)
     ·exact h2.elim
    ·unfold appendKeepVC at h2
     split at h2
     ·rename_i ts t u hts
      obtain rfl : argTypes = #[t,u]:=by rw [← Array.toArray_toList (xs:=argTypes)]; simp only at hts; rw [hts]
      obtain ⟨e,id,off,m,zs,ys,⟨h1,h2,h3,h4⟩,rfl,h5,h6,h7,h8,h9,h10,h11⟩:=h2
      obtain ⟨r,w',C',v',σ',g1,g5,g2,g3,g4⟩:=ok_appendKeep hr hc hx hy h1 h2 h3 h4 h5 h6 h7 h8 h9
      rcases g5 with ⟨rfl,rfl⟩ | ⟨rfl,rfl⟩
      ·exact value_wp g1 (hn _ r _ w' C' h10 g4 g3 g2)
      ·exact value_wp g1 (hn _ r _ w' C' h11 g4 g3 g2)
     ·exact h2.elim
    ·unfold appendStrVC at h2
     split at h2
     ·rename_i ts t u hts
      obtain rfl : argTypes = #[t,u]:=by rw [← Array.toArray_toList (xs:=argTypes)]; simp only at hts; rw [hts]
      obtain ⟨e,xs,l,⟨h1,h3,h4,h5,h6,h7⟩,h8,rfl,h9,h10,h11⟩:=h2
      obtain ⟨r,w',C',v',σ',g1,g5,g2,g3,g4⟩:=ok_appendStr hr hc hx hy h1 h3 h4 h5 h6 (by rw [h5]; decide) h7 h8 h9 h10
      exact value_wp g1 (hn _ r _ w' C' (h11 v' σ' g5) g4 g3 g2)
     ·exact h2.elim
   ·exact h2.elim
  ·rename_i hf
   simp only at hf
   subst hf
   obtain ⟨us,h2,hus⟩:=stripL_none (P:=P) (W0:=W0) (o:=o) (fun y hy=>by simp [*,Op.operands,Call.operands]; simp at hy; simp [hy]) h
   clear h
   split at h2
   ·obtain ⟨x,hxy,hx⟩:=toList_one hus
    simp only at hxy
    subst hxy
    unfold clearVC at h2
    split at h2
    ·rename_i ts t hts
     obtain rfl : argTypes = #[t]:=by rw [← Array.toArray_toList (xs:=argTypes)]; simp only at hts; rw [hts]
     obtain ⟨e,id,off,m,zs,v,⟨h1,h2,h3⟩,rfl,h4,h5,h6⟩:=h2
     obtain ⟨r,w',g1,g2,g3,g4⟩:=ok_clear hr hc hx h1 h2 h3 h4 h5
     exact value_wp g1 (hn _ r _ w' C h6 g4 g3 g2)
    ·exact h2.elim
   ·exact h2.elim
  ·exact hval h
 ·rename_i t x hop
  split at h
  ·rename_i d hdst
   split at h
   ·obtain ⟨v,h,hv⟩:=strip_none (P:=P) (W0:=W0) (o:=o) (by simp [*,Op.operands]) h
    exact (ok_box hop hv (fits_of_B h.1)).pure w C a hr _ _ fun x w' hv hs hst=>hn _ x A.st w' C (by
     have e : (A.put o.dst (.loc t v)).withSt A.st = A.put o.dst (.loc t v):=by cases o.dst <;> rfl
     rw [e,hdst]; exact h.2) hv hst hs
   ·obtain ⟨v,h,hv⟩:=strip_none (P:=P) (W0:=W0) (o:=o) (by simp [*,Op.operands]) h
    obtain ⟨y,w',C',g1,g2,g3,g4⟩:=box_obj hr hop hv (fits_of_B h.1)
    exact value_wp g1 (hn _ y _ w' C' (by rw [hdst]; exact h.2) g2 g4 g3)
  ·exact h.elim
 ·rename_i t hop
  split at h
  ·rename_i v hz
   obtain ⟨y,w',C',g1,g2,g3,g4⟩:=alloc_obj hr hop hz
   exact value_wp g1 (hn _ y _ w' C' h g2 g4 g3)
  ·exact h.elim
 ·rename_i t x y hop
  obtain ⟨u,h,hu⟩:=strip_none (P:=P) (W0:=W0) (o:=o) (by simp [*,Op.operands]) h
  obtain ⟨v,h,hv⟩:=strip_none (P:=P) (W0:=W0) (o:=o) (by simp [*,Op.operands]) h
  unfold makeVC at h
  split at h
  ·obtain ⟨rfl,h⟩:=h
   split at h
   ·rename_i e he
    split at h
    ·rename_i z hz
     obtain ⟨h1,h2,h3,h4,h5⟩:=h
     obtain ⟨r,w',C',g1,g2,g3,g4⟩:=ok_makeSlice hr hop hu hv he hz h1 h2 h3 h4
     exact value_wp g1 (hn _ r _ w' C' h5 g4 g3 g2)
    ·exact h.elim
   ·exact h.elim
  ·exact h.elim
 ·rename_i t x y hop
  obtain ⟨u,h,hu⟩:=strip_none (P:=P) (W0:=W0) (o:=o) (by simp [*,Op.operands]) h
  obtain ⟨v,h,hv⟩:=strip_none (P:=P) (W0:=W0) (o:=o) (by simp [*,Op.operands]) h
  exact storeVC_wpO hr hop (by rw [hop] at hnf; exact hnf) hu hv h hn
 ·rename_i t x hop
  obtain ⟨ht,h⟩:=h
  obtain ⟨u,h,hu⟩:=strip_none (P:=P) (W0:=W0) (o:=o) (by simp [*,Op.operands]) h
  split at h
  ·obtain ⟨y,w',C',g1,g2,g3,g4⟩:=iter_obj hr hop hu (isStrT_inv ht)
   exact value_wp g1 (hn _ y _ w' C' h g2 g4 g3)
  ·exact h.elim
 ·rename_i x hop
  obtain ⟨u,h,hu⟩:=strip_none (P:=P) (W0:=W0) (o:=o) (by simp [*,Op.operands]) h
  split at h
  ·split at h
   ·rename_i l pos hs
    rcases Nat.lt_or_ge pos l.length with hp | hp
    ·obtain ⟨y,w',g1,g2,g3,g4⟩:=iter_next hr hop hu hs hp
     exact value_wp g1 (hn _ y _ w' C (h.1 hp) g2 g4 g3)
    ·obtain ⟨y,g1,g2⟩:=iter_over hr hop hu hs hp
     exact value_wp g1 (hn _ y A.st w C (by
      have e : (A.put o.dst (.tup [.bool false])).withSt A.st = A.put o.dst (.tup [.bool false]):=by cases o.dst <;> rfl
      rw [e]; exact h.2 hp) g2 hr.st (.refl _ _))
   ·exact h.elim
  ·exact h.elim
 ·rename_i t x lo hi mx hop
  rcases h with h | h
  ·exact hval h
  obtain ⟨u,h,hu⟩:=strip_none (P:=P) (W0:=W0) (o:=o) (by simp [*,Op.operands]) h
  have fin : ∀ v,ValOk P W0 o A v → K (A.put o.dst v) → o.wp P a w next Qx:=fun v hv hK=>hv.pure w C a hr _ _ fun x w' hv hs hst=>hn v x A.st w' C (by
   have e : (A.put o.dst v).withSt A.st = A.put o.dst v:=by cases o.dst <;> rfl
   rw [e]; exact hK) hv hst hs
  unfold overVC at h
  split at h
  ·obtain ⟨⟨h1,h2⟩,h⟩:=h
   split at h
   ·obtain ⟨p,h,hp⟩:=bndVC_sound (P:=P) (W0:=W0) (o:=o) (gd:=none) (fun y hy=>by simp [hop,Op.operands,hy]) h
    obtain ⟨q,h,hq⟩:=bndVC_sound (P:=P) (W0:=W0) (o:=o) (gd:=none) (fun y hy=>by simp [hop,Op.operands,hy]) h
    obtain ⟨⟨h3,te,zs,h4,h5⟩,hK⟩:=h
    exact fin _ (ok_slice_over hop hu h1 h2 hp hq h3 h4 h5) hK
   ·obtain ⟨⟨hl,hh⟩,h⟩:=h
    obtain ⟨y1,rfl⟩:=Option.isSome_iff_exists.1 hl
    obtain ⟨y2,rfl⟩:=Option.isSome_iff_exists.1 hh
    rename_i y3
    obtain ⟨p,h,hp⟩:=bndVC_sound (P:=P) (W0:=W0) (o:=o) (gd:=none) (fun y hy=>by cases hy; simp [hop,Op.operands]) h
    obtain ⟨q,h,hq⟩:=bndVC_sound (P:=P) (W0:=W0) (o:=o) (gd:=none) (fun y hy=>by cases hy; simp [hop,Op.operands]) h
    obtain ⟨r,h,hr'⟩:=bndVC_sound (P:=P) (W0:=W0) (o:=o) (gd:=none) (fun y hy=>by cases hy; simp [hop,Op.operands]) h
    obtain ⟨⟨h3,h4,h5⟩,hK⟩:=h
    obtain ⟨k1,i1,p1,p2,p3⟩:=hp
    obtain ⟨k2,i2,q1,q2,q3⟩:=hq
    obtain ⟨k3,i3,r1,r2,r3⟩:=hr'
    exact fin _ (ok_slice3 hop hu h1 h2 p1 q1 r1 p2 (by omega) (by omega) (by omega)) hK
  ·exact h.elim
 ·rename_i s d x hop
  rcases h with h | h
  ·exact hval h
  obtain ⟨u,h,hu⟩:=strip_none (P:=P) (W0:=W0) (o:=o) (by simp [*,Op.operands]) h
  rcases h with ⟨l,e,rfl,⟨h1,h2,h3,h4,h5⟩,hK⟩ | ⟨l,e,h0,⟨h1,h2,h3,h4⟩,hK⟩ | ⟨e,id,off,m,xs,rfl,⟨rfl,h1,h2⟩,h3,h4,h5,hK⟩
  ·obtain ⟨y,w',C',g1,g2,g3,g4⟩:=ok_bytes hr hop hu h1 h2 h3 h4 h5
   exact value_wp g1 (hn _ y _ w' C' hK g4 g3 g2)
  ·obtain ⟨y,g1,g2⟩:=ok_string hr hop hu h0 h1 h2 h3 h4
   exact value_wp g1 (hn _ y _ w C hK g2 hr.st (.refl _ _))
  ·obtain ⟨y,w',C',g1,g2,g3,g4⟩:=ok_convert_id hr hop hu h1 h2 h3 h4 h5
   exact value_wp g1 (hn _ y _ w' C' hK g4 g3 g2)
 ·rename_i t m ps hop
  rcases h with h | h
  ·exact hval h
  obtain ⟨qs,h,hq⟩:=partsVC_sound (gd:=none) (P:=P) (W0:=W0) (o:=o) _ _ (fun p hp=>by simp only [hop,Op.operands]; exact List.mem_toArray.2 (List.mem_map_of_mem hp)) h
  unfold buildRowVC at h
  split at h
  ·rename_i e he
   obtain ⟨⟨g1,g2,g3,g4,g5⟩,hK⟩:=h
   obtain ⟨y,w',C',q1,q2,q3,q4⟩:=ok_buildRow hr hop he g1 g2 (by omega) hq g4 (fun p hp=>fits_of_B (List.all_eq_true.1 g5 p hp))
   exact value_wp q1 (hn _ y _ w' C' hK q4 q3 q2)
  ·exact h.elim
 ·rename_i t hop
  split at h
  ·rename_i kt vt ht
   obtain ⟨y,w',C',g1,g2,g3,g4⟩:=map_new hr hop kt
   exact value_wp g1 (hn _ y _ w' C' h g2 g4 g3)
  ·exact h.elim
 ·rename_i t x ix y hop
  obtain ⟨u,h,hu⟩:=strip_none (P:=P) (W0:=W0) (o:=o) (by simp [*,Op.operands]) h
  obtain ⟨k,h,hk⟩:=strip_none (P:=P) (W0:=W0) (o:=o) (by simp [*,Op.operands]) h
  obtain ⟨v,h,hv⟩:=strip_none (P:=P) (W0:=W0) (o:=o) (by simp [*,Op.operands]) h
  unfold putVC at h
  split at h
  ·obtain ⟨kt,vt,l,h1,h2,h3,h4,h5,h6⟩:=h
   obtain ⟨w',g1,g2,g3⟩:=map_put (u:=.nil) hr hop hu hk hv h1 h2 h3 h4 h5
   exact skip_wp g1 (hn .undef undef _ w' C h6 (.undef _) g3 g2)
  ·exact h.elim
 ·exact hval h

theorem opVC_wp (hr : RelA P W0 n w C A a) (h : opVC P W0 n fz o A K) {next : Act → World → Prop} {Qx : Exit → Act → World → Prop}
  (hn : ∀ A' C' a' w',K A' → RelA P W0 n w' C' A' a' → Step w C w' C' → next a' w') : o.wp P a w next Qx:=by
 have key : noFz fz o.op → o.wp P a w next Qx:=fun hnf=>opVC_wpO (hr.toO o) hnf h fun v x σ' w' C' hK hv hst hs=>hn _ C' _ w' hK (put_step hr h.1 hs hst hv) hs
 cases hop : o.op
 case store t x y =>
  obtain ⟨hd,h2⟩:=h
  rw [hop] at h2
  obtain ⟨u,h2,hu⟩:=strip_none (P:=P) (W0:=W0) (o:=o) (by simp [*,Op.operands]) h2
  obtain ⟨v,h2,hv⟩:=strip_none (P:=P) (W0:=W0) (o:=o) (by simp [*,Op.operands]) h2
  exact storeVC_wp hr hd hop hu hv h2 hn
 all_goals exact key (by rw [hop]; trivial)

theorem gdOf_inv {ops : Array Oper} {j : Nat} {want G : Bool} (hr : RelA P W0 n w C A a) (h : gdOf ops A j want = some G) (ho : o.guard = some (j,want)) : Region.wanted o (yielded ops a.tmps) = G:=by
 unfold gdOf at h
 split at h
 ·rename_i d hd
  have he:=hr.env d
  have hget : a.tmps.getD d undef = (a.tmps[d]?).getD undef:=by simp
  split at h
  ·rename_i b hb
   rw [hb] at he
   simp only [Option.some.injEq] at h
   have hv:=he.bool_inv
   rw [hget] at hv
   cases ht : a.tmps[d]? with
   | none=>rw [ht] at hv; cases hv
   | some v =>
    rw [ht] at hv
    simp only [Option.getD_some] at hv
    subst hv h
    have hy : yielded ops a.tmps j = some b:=by unfold yielded; rw [hd]; simp only [Option.bind_some,ht]
    simp only [Region.wanted,ho,hy]
    cases b <;> cases want <;> rfl
  ·rename_i g b hb
   rw [hb] at he
   simp only [Option.some.injEq] at h
   cases he with
   | one h1=>simp [AV.isOne] at h1
   | maybe h1 h2 =>
    cases g with
    | true =>
     have hv:=(h1 rfl).bool_inv
     rw [hget] at hv
     cases ht : a.tmps[d]? with
     | none=>rw [ht] at hv; cases hv
     | some v =>
      rw [ht] at hv
      simp only [Option.getD_some] at hv
      subst hv
      subst h
      have hy : yielded ops a.tmps j = some b:=by unfold yielded; rw [hd]; simp only [Option.bind_some,ht]
      simp only [Region.wanted,ho,hy]
      cases b <;> cases want <;> rfl
    | false =>
     have hv:=h2 rfl
     rw [hget] at hv
     subst h
     have hy : yielded ops a.tmps j = none:=by
      unfold yielded
      rw [hd]
      simp only [Option.bind_some]
      cases ht : a.tmps[d]? with
      | none=>rfl
      | some v =>
       rw [ht] at hv
       simp only [Option.getD_some] at hv
       subst hv
       rfl
     simp only [Region.wanted,ho,hy]
     cases want <;> rfl
  ·rename_i v0 hnb hb
   rw [hb] at he
   simp only [Option.some.injEq] at h
   cases he with
   | one h1=>simp [AV.isOne] at h1
   | maybe h1 h2 =>
    have hv:=h2 rfl
    rw [hget] at hv
    subst h
    have hy : yielded ops a.tmps j = none:=by
     unfold yielded
     rw [hd]
     simp only [Option.bind_some]
     cases ht : a.tmps[d]? with
     | none=>rfl
     | some v =>
      rw [ht] at hv
      simp only [Option.getD_some] at hv
      subst hv
      rfl
    simp only [Region.wanted,ho,hy]
    cases want <;> rfl
  ·cases h
 ·cases h

theorem guard_wp {G : Bool} (hr : RelA P W0 n w C A a) (h : valVC P W0 (some G) o.op A fun v=>K (A.put o.dst (.maybe G v))) :
  ∃ v,K (A.put o.dst (.maybe G v)) ∧ (G = true → PureOk P W0 o A v):=valVC_sound (hr.toO o) h

theorem opsVC_wp {ops : Array Oper} {Qx : Exit → Act → World → Prop} : ∀ (l : List Oper) (K : AState → Prop) (A : AState) (w : World) (C : Ctx) (a : Act),RelA P W0 n w C A a → opsVC P W0 n fz ops l K A →
  (∀ A' C' a' w',K A' → RelA P W0 n w' C' A' a' → Step w C w' C' → Qx .normal a' w') → wpList P ops Qx l a w
 | [],K,A,w,C,a,hr,h,hn=>wpList_nil (hn A C a w h hr (.refl _ _))
 | o :: r,K,A,w,C,a,hr,h,hn=>by
  simp only [opsVC] at h
  unfold wpList
  split at h
  ·rename_i hg
   rw [if_pos (by simp [Region.wanted,hg])]
   left
   exact opVC_wp hr h (fun A' C' a' w' hK hr' hs=>opsVC_wp r K A' w' C' a' hr' hK (fun A'' C'' a'' w'' hK' hr'' hs'=>hn A'' C'' a'' w'' hK' hr'' (hs.trans hs')))
  ·rename_i j want hg
   split at h
   ·rename_i G hG
    obtain ⟨hd,h⟩:=h
    have hw:=gdOf_inv hr hG hg
    rw [hw]
    rcases h with h | ⟨ht,hf⟩
    case inr =>
     cases G with
     | true =>
      rw [if_pos rfl]
      left
      exact opVC_wp hr (ht rfl) (fun A' C' a' w' hK hr' hs=>opsVC_wp r K A' w' C' a' hr' hK (fun A'' C'' a'' w'' hK' hr'' hs'=>hn A'' C'' a'' w'' hK' hr'' (hs.trans hs')))
     | false =>
      rw [if_neg (by simp)]
      obtain ⟨v0,hf0⟩:=hf rfl
      exact opsVC_wp r K (A.put o.dst (.maybe false v0)) w C _ (put_rel hr hd (RelV.maybe (fun e=>by cases e) (fun _=>rfl))) hf0 hn
    obtain ⟨v,hK,hp⟩:=guard_wp hr h
    cases G with
    | true =>
     rw [if_pos rfl]
     left
     refine hp rfl w C a (hr.toO o) _ _ fun x w' hv hs hst=>opsVC_wp r K (A.put o.dst (.maybe true v)) w' C _ ?_ hK (fun A'' C'' a'' w'' hK' hr'' hs'=>hn A'' C'' a'' w'' hK' hr'' (hs.trans hs'))
     have:=put_step (o:=o) hr hd hs hst (RelV.maybe (g:=true) (fun _=>hv) (fun e=>by cases e))
     cases ho : o.dst <;> simpa [ho,AState.put,AState.upd,AState.withSt] using this
    | false =>
     rw [if_neg (by simp)]
     refine opsVC_wp r K (A.put o.dst (.maybe false v)) w C _ ?_ hK hn
     exact put_rel hr hd (RelV.maybe (fun e=>by cases e) (fun _=>rfl))
   ·exact h.elim

theorem VC.region {id : Nat} {l : List Oper} {Q : Exit → AState → Prop} (h : opsVC P W0 n fz l.toArray l (fun A'=>Q .normal A') A) : VC P W0 n (.region id l.toArray false) Q A:=fun w C a hr =>
 wp_region_lit (opsVC_wp l _ A w C a hr h fun A' C' _ _ q r s=>⟨A',C',q,r,s⟩)

def envOf (args : List AV) : Nat → AV:=fun i=>args[i]?.getD .undef

def resOf (env : Nat → AV) : List Nat → AV
 | [t]=>env t
 | ts=>.tup (ts.map env)

theorem mapM_tmps {F : ResultVar → Sem Value} {tmps : Array Value} (hF : ∀ t,(F (.tmp t)).run P w = .ok (tmps.getD t undef) w) : ∀ ts : List Nat,((ts.map ResultVar.tmp).mapM F).run P w = .ok (ts.map fun t=>tmps.getD t undef) w
 | []=>rfl
 | t :: ts=>by
  rw [List.map_cons,List.mapM_cons]
  simp only [Sem.run_bind,hF,Result.andThen_ok,mapM_tmps hF ts,Sem.run_pure,List.map_cons]

theorem results_rel {fn : Func} {ts : List Nat} (hr : RelA P W0 n w C A a) (h : fn.results = (ts.map ResultVar.tmp).toArray) : ∃ v,(results fn a.tmps).run P w = .ok v w ∧ RelV P w C (resOf A.env ts) v:=by
 have hm : (results fn a.tmps).run P w = .ok (if h : (ts.map fun t=>a.tmps.getD t undef).toArray.size = 1 then (ts.map fun t=>a.tmps.getD t undef).toArray[0] else .tuple (ts.map fun t=>a.tmps.getD t undef).toArray) w:=by
  unfold results
  rw [h,Array.mapM_eq_mapM_toList]
  simp only [Sem.run_bind,Sem.run_map]
  rw [mapM_tmps (tmps:=a.tmps) (fun t=>rfl) ts]
  rfl
 match ts,hm with
 | [],hm=>exact ⟨_,hm,.tup (vs:=[]) rfl (by simp)⟩
 | [t],hm=>exact ⟨_,hm,hr.env t⟩
 | t :: u :: ts,hm =>
  refine ⟨_,hm,?_⟩
  rw [dif_neg (by simp)]
  refine .tup (by simp) (fun i x v hx hv=>?_)
  simp only [List.getElem?_map,Option.map_eq_some_iff] at hx hv
  obtain ⟨q,hq,rfl⟩:=hx
  obtain ⟨q',hq',rfl⟩:=hv
  rw [hq] at hq'
  cases hq'
  exact hr.env q

def EndQ (ts : List Nat) (Q : AV → Store → Prop) (σ : Store) : Exit → AState → Prop
 | .normal,A | .ret,A=>∃ r' σ',Weak (resOf A.env ts) r' ∧ (σ.length ≤ σ'.length ∧ σ' = A.st.take σ'.length) ∧ (∀ id te xs,id < σ'.length → A.st[id]? = some (some (.cells te xs)) → ∀ x ∈ xs,IdsLt σ'.length x) ∧ IdsLt σ'.length r' ∧ Q r' σ'
 | _,_=>False

theorem rel_entry {args : List AV} {vs : List Value} {m : Nat} (hst : StRel P W0 w C σ) (hl : args.length = vs.length) (hv : ∀ (i : Nat) (a : AV) (v : Value),args[i]? = some a → vs[i]? = some v → RelV P w C a v) (hargs : args.length ≤ m) :
  RelA P W0 m w C ⟨envOf args,σ⟩ { tmps:=vs.toArray ++ Array.replicate (m - vs.toArray.size) undef,defers:=[] }:=by
 refine ⟨fun i=>?_,rfl,by simp; omega,hst⟩
 simp only [envOf]
 by_cases hi : i < args.length
 ·have h1:=List.getElem?_eq_getElem hi
  have h2:=List.getElem?_eq_getElem (l:=vs) (show i < vs.length by omega)
  rw [h1,Option.getD_some]
  have h3:=hv i _ _ h1 h2
  have : (vs.toArray ++ Array.replicate (m - vs.toArray.size) undef).getD i undef = vs[i]:=by
   rw [Array.getD_eq_getD_getElem?,Array.getElem?_append_left (by simp; omega)]
   simp [h2]
  rw [this]
  exact h3
 ·rw [List.getElem?_eq_none (by omega),Option.getD_none]
  exact .undef _

theorem acall_of_vc {f : FuncId} {fn : Func} {c : Code} {args : List AV} {Q : AV → Store → Prop} (hf : P.funcs[f]? = some fn) (hb : fn.body = some c) (hnm : (fn.name == "runtime.NumGoroutine") = false) (hargs : args.length ≤ fn.ntmps) {ts : List Nat} (hres : fn.results = (ts.map ResultVar.tmp).toArray)
  (h : VC P W0 fn.ntmps c (EndQ ts Q σ) ⟨envOf args,σ⟩) : ACall P W0 f args σ Q:=by
 refine fun w C vs hst hl hv=>.inl ⟨⟨fn,hf,by simp [hb],hnm⟩,calls_of_wp hf hb ?_⟩
 have hr : RelA P W0 fn.ntmps w C ⟨envOf args,σ⟩ { tmps:=vs.toArray ++ Array.replicate (fn.ntmps - vs.toArray.size) undef,defers:=[] }:=by
  refine ⟨fun i=>?_,rfl,by simp; omega,hst⟩
  simp only [envOf]
  by_cases hi : i < args.length
  ·have h1:=List.getElem?_eq_getElem hi
   have h2:=List.getElem?_eq_getElem (l:=vs) (show i < vs.length by omega)
   rw [h1,Option.getD_some]
   have h3:=hv i _ _ h1 h2
   have : (vs.toArray ++ Array.replicate (fn.ntmps - vs.toArray.size) undef).getD i undef = vs[i]:=by
    rw [Array.getD_eq_getD_getElem?,Array.getElem?_append_left (by simp; omega)]
    simp [h2]
   rw [this]
   exact h3
  ·rw [List.getElem?_eq_none (by omega),Option.getD_none]
   exact .undef _
 refine wp_mono (h w C _ hr) fun e a' w' ⟨A',C',q,r,s⟩=>?_
 have fin : (∃ r' σ',Weak (resOf A'.env ts) r' ∧ (σ.length ≤ σ'.length ∧ σ' = A'.st.take σ'.length) ∧ (∀ id te xs,id < σ'.length → A'.st[id]? = some (some (.cells te xs)) → ∀ x ∈ xs,IdsLt σ'.length x) ∧ IdsLt σ'.length r' ∧ Q r' σ') →
   a'.defers = [] ∧ ∃ v,(results fn a'.tmps).run P w' = .ok v w' ∧ ∃ v₁ r σ' C',Ending.returned v = .returned v₁ ∧ Q r σ' ∧ StRel P W0 w' C' σ' ∧ RelV P w' C' r v₁ ∧ Step w C w' C':=by
  rintro ⟨r1,σ',h2,⟨h3,h4⟩,h5,h6,h7⟩
  obtain ⟨v,g1,g2⟩:=results_rel r hres
  have hle : σ'.length ≤ A'.st.length:=by have:=congrArg List.length h4; rw [List.length_take] at this; omega
  refine ⟨r.defers,v,g1,v,r1,σ',C'.upTo σ'.length,rfl,h7,?_,(g2.weak h2).upTo h6,s.upTo (by rw [hst.nx]; exact h3)⟩
  have:=r.st.upTo hle h5
  rwa [← h4] at this
 cases e with
 | normal=>exact fin q
 | ret=>exact fin q
 | _=>exact q.elim

end
end Go.Av
end
section
namespace Go.Av
open Go

def isW : Op → Bool | .store _ _ _=>true | _=>false
def effM (fz : List Nat) : Option Nat → Bool | some d=>fz.contains (2000000 + d) | none=>false
def rdM (fz : List Nat) : Option Nat → Bool | some d=>fz.contains (3000000 + d) | none=>false
def eM (fz : List Nat) (id : Nat) (o : Oper) : Bool:=match o.dst with | some d=>fz.contains (2000000 + d) | none=>fz.contains (4000000 + id)

def isR (fz : List Nat) (dst : Option Nat) : Op → Bool
 | .load _ (.tmp d)=>!(fz.contains d || fz.contains (6000000 + d))
 | .load _ _=>true
 | .indexAddr _ _ _=>true
 | .lookup _ _ _ _=>true
 | .call _=>rdM fz dst
 | _=>false

def PureAt (P : Program) (W0 : World) (fz : List Nat) (o : Oper) (A : AState) (v : AV) : Prop :=
 PureOk P W0 o A v ∧ (isR fz o.dst o.op = false → ∀ σ,PureOk P W0 o (A.withSt σ) v)

def StoreOk (P : Program) (W0 : World) (o : Oper) (A : AState) (σ' : Store) : Prop :=
 ∀ w C a,RelO P W0 o w C A a → ∃ w',(execOp a.eval o).run P w = .ok .skip w' ∧ Step w C w' C ∧ StRel P W0 w' C σ'

def StepOk (P : Program) (W0 : World) (n : Nat) (fz : List Nat) (ops : Array Oper) (o : Oper) (A : AState) (v : AV) (σ' : Store) : Prop :=
 dstOk n o.dst ∧ (match o.guard with
  | none=>(isW o.op = false ∧ σ' = A.st ∧ PureAt P W0 fz o A v) ∨ (isW o.op = true ∧ v = .undef ∧ StoreOk P W0 o A σ')
  | some (j,want)=>isW o.op = false ∧ σ' = A.st ∧ ∃ G u,gdOf ops A j want = some G ∧ v = .maybe G u ∧ (G = true → PureAt P W0 fz o A u))

inductive Seq (P : Program) (W0 : World) (n : Nat) (fz : List Nat) (E : Oper → Bool) (ops : Array Oper) : List Oper → AState → List AV → List Store → AState → Prop
 | nil (A) : Seq P W0 n fz E ops [] A [] [] A
 | cons {o r A v σ' vs ss B} : E o = false → StepOk P W0 n fz ops o A v σ' → Seq P W0 n fz E ops r ((A.put o.dst v).withSt σ') vs ss B → Seq P W0 n fz E ops (o :: r) A (v :: vs) (σ' :: ss) B
 | skip {o r A vs ss B} : E o = true → Seq P W0 n fz E ops r A vs ss B → Seq P W0 n fz E ops (o :: r) A (.undef :: vs) (A.st :: ss) B

def mkAnc : List (List Nat) → List Oper → List (List Nat)
 | acc,[]=>acc
 | acc,o :: r=>mkAnc (acc ++ [((o.after.toList.filter (Region.binds .any)).flatMap fun e=>e.on :: (acc[e.on]?).getD []).eraseDups]) r
def ancOk (ops : Array Oper) (ac : List (List Nat)) : Bool :=
 (List.range ops.size).all fun i=>match ops[i]? with
  | none=>true
  | some o=>((ac[i]?).getD []).all fun j=>o.after.any fun e=>Region.binds .any e && (e.on == j || ((ac[e.on]?).getD []).contains j)

def waitsFor (o : Oper) (j : Nat) : Bool:=o.after.any fun e=>e.on == j && Region.binds .any e

def pairOk (fz : List Nat) (E : Oper → Bool) (ops : Array Oper) (ac : List (List Nat)) (i j : Nat) (oi oj : Oper) : Bool :=
 ((match oj.dst with
  | none=>true
  | some d=>oi.dst != some d && (!(oi.looksAt ops).contains d || ((if j < i then waitsFor oi j else waitsFor oj i) && (!E oj || E oi || decide (i < j)) && (!(E oi && !E oj) || decide (j < i))))) &&
 (!(!E oj && !E oi && isW oj.op && (isW oi.op || isR fz oi.dst oi.op)) || (if j < i then ((ac[i]?).getD []).contains j else ((ac[j]?).getD []).contains i))) &&
 ((!(E oi && E oj && decide (j < i)) || ((ac[i]?).getD []).contains j) &&
 (!(E oi && !E oj && (isW oj.op || isR fz oj.dst oj.op)) || ((ac[i]?).getD []).contains j))

def depOk (fz : List Nat) (E : Oper → Bool) (ops : Array Oper) (ac : List (List Nat)) : Bool :=
 ancOk ops ac && (List.range ops.size).all fun i=>match ops[i]? with
  | none=>true
  | some oi=>oi.after.all (fun e=>!Region.binds .any e || decide (e.on < i)) && (!E oi || oi.guard.isNone) && (List.range ops.size).all fun j=>match ops[j]? with
   | none=>true
   | some oj=>i == j || pairOk fz E ops ac i j oi oj

structure EnvIs (E : Oper → Bool) (ops : Array Oper) (vs : List AV) (A : AState) (S : Nat → Prop) (B : AState) : Prop where
 set : ∀ i o d v,S i → ops[i]? = some o → E o = false → o.dst = some d → vs[i]? = some v → B.env d = v
 old : ∀ d,(∀ i o,S i → ops[i]? = some o → E o = false → o.dst ≠ some d) → B.env d = A.env d

section
variable {P : Program} {W0 w w' : World} {C C' : Ctx} {n : Nat} {A : AState} {a : Act} {o : Oper} {ops : Array Oper} {K : AState → Prop} {fz : List Nat} {E : Oper → Bool} {ac : List (List Nat)}

theorem AState.put_st (A : AState) (d : Option Nat) (v : AV) : (A.put d v).st = A.st:=by cases d <;> rfl

theorem put_env_same {d : Nat} (h : o.dst = some d) (v : AV) : (A.put o.dst v).env d = v:=by rw [h]; exact A.upd_same d v
theorem put_env_ne {d : Nat} (h : o.dst ≠ some d) (v : AV) : (A.put o.dst v).env d = A.env d:=by
 cases ho : o.dst with
 | none=>rfl
 | some d'=>exact A.upd_ne v (fun e=>h (by rw [ho,e]))

def Distinct (ops : Array Oper) : Prop:=∀ (i j : Nat) (oi oj : Oper) (d : Nat),ops[i]? = some oi → ops[j]? = some oj → oi.dst = some d → oj.dst = some d → i = j

theorem EnvIs.put {vs : List AV} {S : Nat → Prop} {B : AState} {i : Nat} {v : AV} (hD : Distinct ops) (h : EnvIs E ops vs A S B) (hi : ops[i]? = some o) (hE : E o = false) (hv : vs[i]? = some v) : EnvIs E ops vs A (fun j=>S j ∨ j = i) (B.put o.dst v):=by
 refine ⟨fun j oj d u hj hoj hej hd hu=>?_,fun d hd=>?_⟩
 ·rcases hj with hj | rfl
  ·by_cases hod : o.dst = some d
   ·have:=hD i j o oj d hi hoj hod hd
    subst this
    rw [hv] at hu
    cases hu
    exact put_env_same hod v
   ·rw [put_env_ne hod]; exact h.set j oj d u hj hoj hej hd hu
  ·rw [hi] at hoj
   cases hoj
   rw [hv] at hu
   cases hu
   exact put_env_same hd v
 ·rw [put_env_ne (hd i o (.inr rfl) hi hE)]
  exact h.old d (fun j oj hj=>hd j oj (.inl hj))

theorem withSt_env' (A : AState) (σ : Store) : (A.withSt σ).env = A.env:=rfl

theorem seq_at {vs : List AV} {ss : List Store} : ∀ (l : List Oper) (us : List AV) (ts : List Store) (k : Nat) (T B : AState),Distinct ops → (∀ j,l[j]? = ops[k + j]?) → (∀ j,us[j]? = vs[k + j]?) → (∀ j,ts[j]? = ss[k + 1 + j]?) → ss[k]? = some T.st → Seq P W0 n fz E ops l T us ts B → EnvIs E ops vs A (· < k) T →
  (∀ j o v,l[j]? = some o → us[j]? = some v → ∃ Tj σ',EnvIs E ops vs A (· < k + j) Tj ∧ ss[k + j]? = some Tj.st ∧ ss[k + j + 1]? = some σ' ∧ (E o = true → σ' = Tj.st) ∧ (E o = false → StepOk P W0 n fz ops o Tj v σ')) ∧ EnvIs E ops vs A (· < k + l.length) B ∧ us.length = l.length ∧ ss[k + l.length]? = some B.st
 | [],us,ts,k,T,B,_,_,_,_,h0,hs,he=>by
  cases hs
  exact ⟨by simp,by simpa using he,rfl,h0⟩
 | o :: r,us,ts,k,T,B,hD,hl,hu,ht,h0,hs,he=>by
  have hok : ops[k]? = some o:=by have:=hl 0; simpa using this.symm
  have hl' : ∀ j,r[j]? = ops[k + 1 + j]?:=fun j=>by have:=hl (j + 1); rw [show k + (j + 1) = k + 1 + j by omega] at this; simpa using this
  cases hs with
  | cons hE h1 h2 =>
   rename_i v σ' vs' ss'
   have hvk : vs[k]? = some v:=by have:=hu 0; simpa using this.symm
   have hsk : ss[k + 1]? = some σ':=by have:=ht 0; simpa using this.symm
   have he' : EnvIs E ops vs A (· < k + 1) ((T.put o.dst v).withSt σ'):=by
    have:=he.put hD hok hE hvk
    exact ⟨fun i oi d u hi=>this.set i oi d u (by omega),fun d hd=>this.old d (fun i oi hi=>hd i oi (by omega))⟩
   obtain ⟨g1,g2,g3,g4⟩:=seq_at r vs' ss' (k + 1) _ B hD hl' (fun j=>by have:=hu (j + 1); rw [show k + (j + 1) = k + 1 + j by omega] at this; simpa using this)
    (fun j=>by have:=ht (j + 1); rw [show k + 1 + (j + 1) = k + 1 + 1 + j by omega] at this; simpa using this) hsk h2 he'
   refine ⟨fun j oj u hj huj=>?_,?_,by simp [g3],?_⟩
   ·cases j with
    | zero=>simp at hj huj; subst hj huj; exact ⟨T,σ',by simpa using he,h0,hsk,fun e=>by (rw [hE] at e; cases e),fun _=>h1⟩
    | succ j =>
     simp at hj huj
     obtain ⟨Tj,σj,e1,e2,e3,e4⟩:=g1 j oj u hj huj
     rw [show k + 1 + j = k + (j + 1) by omega] at e1 e2 e3
     exact ⟨Tj,σj,e1,e2,e3,e4⟩
   ·rw [List.length_cons,show k + (r.length + 1) = k + 1 + r.length by omega]; exact g2
   ·rw [List.length_cons,show k + (r.length + 1) = k + 1 + r.length by omega]; exact g4
  | skip hE h2 =>
   rename_i vs' ss'
   have hsk : ss[k + 1]? = some T.st:=by have:=ht 0; simpa using this.symm
   have he' : EnvIs E ops vs A (· < k + 1) T:=by
    refine ⟨fun i oi d u hi hoi hei=>?_,fun d hd=>he.old d (fun i oi hi=>hd i oi (by omega))⟩
    rcases Nat.lt_succ_iff_lt_or_eq.1 hi with hi' | hi'
    ·exact he.set i oi d u hi' hoi hei
    ·subst hi'; rw [hok] at hoi; cases hoi; rw [hE] at hei; cases hei
   obtain ⟨g1,g2,g3,g4⟩:=seq_at r vs' ss' (k + 1) _ B hD hl' (fun j=>by have:=hu (j + 1); rw [show k + (j + 1) = k + 1 + j by omega] at this; simpa using this)
    (fun j=>by have:=ht (j + 1); rw [show k + 1 + (j + 1) = k + 1 + 1 + j by omega] at this; simpa using this) hsk h2 he'
   refine ⟨fun j oj u hj huj=>?_,?_,by simp [g3],?_⟩
   ·cases j with
    | zero=>simp at hj huj; subst hj huj; exact ⟨T,T.st,by simpa using he,h0,hsk,fun _=>rfl,fun e=>by (rw [hE] at e; cases e)⟩
    | succ j =>
     simp at hj huj
     obtain ⟨Tj,σj,e1,e2,e3,e4⟩:=g1 j oj u hj huj
     rw [show k + 1 + j = k + (j + 1) by omega] at e1 e2 e3
     exact ⟨Tj,σj,e1,e2,e3,e4⟩
   ·rw [List.length_cons,show k + (r.length + 1) = k + 1 + r.length by omega]; exact g2
   ·rw [List.length_cons,show k + (r.length + 1) = k + 1 + r.length by omega]; exact g4

theorem relO_congr {T B : AState} (hst : B.st = T.st) (he : ∀ d ∈ o.looksAt ops,B.env d = T.env d) {w : World} {C : Ctx} {a : Act} (hr : RelO P W0 o w C B a) : RelO P W0 o w C T a:=by
 have hval : ∀ x ∈ o.op.operands,T.val x = B.val x:=fun x hx=>by
  cases x with
  | tmp t =>
   refine (he t ?_).symm
   simp only [Oper.looksAt,List.mem_append,List.mem_filterMap]
   exact .inl ⟨.tmp t,Array.mem_toList_iff.2 hx,rfl⟩
  | _=>rfl
 exact ⟨fun x hx=>by rw [hval x hx]; exact hr.ops x hx,by rw [← hst]; exact hr.st⟩

theorem pureOk_congr {T B : AState} (hst : B.st = T.st) (he : ∀ d ∈ o.looksAt ops,B.env d = T.env d) {u : AV} (hp : PureOk P W0 o T u) : PureOk P W0 o B u:=fun w C a hr next Q hn=>by
 have:=hp w C a (relO_congr hst he hr) next Q
 rw [hst] at hn
 exact this hn

theorem StepOk.congr {T B : AState} {v : AV} {σ' : Store} (h : StepOk P W0 n fz ops o T v σ') (hst : (isW o.op || isR fz o.dst o.op) = true → B.st = T.st) (he : ∀ d ∈ o.looksAt ops,B.env d = T.env d) :
  StepOk P W0 n fz ops o B v (if isW o.op then σ' else B.st):=by
 obtain ⟨hd,h⟩:=h
 have hp : ∀ u,PureAt P W0 fz o T u → isW o.op = false → PureOk P W0 o B u:=fun u hp hw=>by
  cases hR : isR fz o.dst o.op with
  | true=>exact pureOk_congr (ops:=ops) (hst (by simp [hR])) he hp.1
  | false=>exact pureOk_congr (ops:=ops) (T:=T.withSt B.st) (B:=B) rfl he (hp.2 hR B.st)
 have hp2 : ∀ u,PureAt P W0 fz o T u → isW o.op = false → PureAt P W0 fz o B u:=fun u hu hw=>⟨hp u hu hw,fun hR σ=>pureOk_congr (ops:=ops) (T:=T.withSt σ) (B:=B.withSt σ) rfl he (hu.2 hR σ)⟩
 refine ⟨hd,?_⟩
 split at h
 ·rcases h with ⟨h1,h2,h3⟩ | ⟨h1,h2,h3⟩
  ·exact .inl ⟨h1,by simp [h1],hp2 v h3 h1⟩
  ·refine .inr ⟨h1,h2,?_⟩
   rw [if_pos h1]
   exact fun w C a hr=>h3 w C a (relO_congr (ops:=ops) (hst (by simp [h1])) he hr)
 ·rename_i j want hg
  obtain ⟨h0,h0',G,u,h1,h2,h3⟩:=h
  refine ⟨h0,by simp [h0],G,u,?_,h2,fun hG=>hp2 u (h3 hG) h0⟩
  rw [← h1]
  unfold gdOf
  cases hj : (ops[j]?).bind (·.dst) with
  | none=>rfl
  | some d =>
   have hd : B.env d = T.env d:=he d (by
    simp only [Oper.looksAt,List.mem_append,hg,hj]
    exact .inr (by simp))
   simp only [hd]

structure DepFacts (fz : List Nat) (E : Oper → Bool) (ops : Array Oper) (ac : List (List Nat)) : Prop where
 anc : ∀ (i : Nat) (oi : Oper) (j : Nat),ops[i]? = some oi → j ∈ (ac[i]?).getD [] → ∃ e ∈ oi.after,Region.binds .any e = true ∧ (e.on = j ∨ j ∈ (ac[e.on]?).getD [])
 dist : Distinct ops
 edge : ∀ (i : Nat) (oi : Oper),ops[i]? = some oi → ∀ e ∈ oi.after,Region.binds .any e = true → e.on < i
 gd : ∀ (i : Nat) (oi : Oper),ops[i]? = some oi → E oi = true → oi.guard = none
 look : ∀ (i j : Nat) (oi oj : Oper) (d : Nat),ops[i]? = some oi → ops[j]? = some oj → i ≠ j → oj.dst = some d → d ∈ oi.looksAt ops → (j < i → waitsFor oi j = true) ∧ (i < j → waitsFor oj i = true) ∧ (E oj = true → E oi = false → i < j) ∧ (E oi = true → E oj = false → j < i)
 wr : ∀ (i j : Nat) (oi oj : Oper),ops[i]? = some oi → ops[j]? = some oj → i ≠ j → E oi = false → E oj = false → isW oj.op = true → (isW oi.op || isR fz oi.dst oi.op) = true → (j < i → j ∈ (ac[i]?).getD []) ∧ (i < j → i ∈ (ac[j]?).getD [])
 chain : ∀ (i j : Nat) (oi oj : Oper),ops[i]? = some oi → ops[j]? = some oj → E oi = true → E oj = true → j < i → j ∈ (ac[i]?).getD []
 last : ∀ (i j : Nat) (oi oj : Oper),ops[i]? = some oi → ops[j]? = some oj → E oi = true → E oj = false → (isW oj.op || isR fz oj.dst oj.op) = true → j ∈ (ac[i]?).getD []

theorem depOk_inv (h : depOk fz E ops ac = true) : DepFacts fz E ops ac:=by
 unfold depOk at h
 rw [Bool.and_eq_true] at h
 obtain ⟨hanc,h⟩:=h
 have hall : ∀ (i : Nat) (oi : Oper),ops[i]? = some oi → oi.after.all (fun e=>!Region.binds .any e || decide (e.on < i)) = true ∧ (!E oi || oi.guard.isNone) = true ∧ ∀ (j : Nat) (oj : Oper),ops[j]? = some oj → (i == j || pairOk fz E ops ac i j oi oj) = true:=fun i oi hi=>by
  have h1:=List.all_eq_true.1 h i (List.mem_range.2 (Array.getElem?_eq_some_iff.1 hi).1)
  rw [hi] at h1
  simp only [Bool.and_eq_true] at h1
  refine ⟨h1.1.1,h1.1.2,fun j oj hj=>?_⟩
  have h2:=List.all_eq_true.1 h1.2 j (List.mem_range.2 (Array.getElem?_eq_some_iff.1 hj).1)
  rw [hj] at h2
  exact h2
 have pair : ∀ (i j : Nat) (oi oj : Oper),ops[i]? = some oi → ops[j]? = some oj → i ≠ j → (((match oj.dst with
  | none=>true
  | some d=>oi.dst != some d && (!(oi.looksAt ops).contains d || ((if j < i then waitsFor oi j else waitsFor oj i) && (!E oj || E oi || decide (i < j)) && (!(E oi && !E oj) || decide (j < i))))) = true ∧
  (!(!E oj && !E oi && isW oj.op && (isW oi.op || isR fz oi.dst oi.op)) || (if j < i then ((ac[i]?).getD []).contains j else ((ac[j]?).getD []).contains i)) = true) ∧
  (!(E oi && E oj && decide (j < i)) || ((ac[i]?).getD []).contains j) = true ∧ (!(E oi && !E oj && (isW oj.op || isR fz oj.dst oj.op)) || ((ac[i]?).getD []).contains j) = true):=fun i j oi oj hi hj hne=>by
  have:=(hall i oi hi).2.2 j oj hj
  rw [Bool.or_eq_true] at this
  rcases this with h | h
  ·exact absurd (by simpa using h) hne
  ·unfold pairOk at h
   rw [Bool.and_eq_true,Bool.and_eq_true,Bool.and_eq_true] at h
   exact h
 refine ⟨fun i oi j hi hj=>?_,fun i j oi oj d hi hj hdi hdj=>?_,fun i oi hi e he hb=>?_,fun i oi hi hE=>?_,fun i j oi oj d hi hj hne hd hm=>?_,fun i j oi oj hi hj hne h1 h2 hw hr=>?_,fun i j oi oj hi hj h1 h2 hlt=>?_,fun i j oi oj hi hj h1 h2 hr=>?_⟩
 ·have h1:=List.all_eq_true.1 hanc i (List.mem_range.2 (Array.getElem?_eq_some_iff.1 hi).1)
  rw [hi] at h1
  have h2:=List.all_eq_true.1 h1 j hj
  obtain ⟨e,he,h3⟩:=Array.any_eq_true'.1 h2
  simp only [Bool.and_eq_true,Bool.or_eq_true,beq_iff_eq,List.contains_iff_mem] at h3
  exact ⟨e,he,h3.1,h3.2⟩
 ·by_cases hij : i = j
  ·exact hij
  ·have:=(pair i j oi oj hi hj hij).1.1
   rw [hdj] at this
   simp only [Bool.and_eq_true,bne_iff_ne,ne_eq] at this
   exact absurd hdi this.1
 ·have:=Array.all_eq_true_iff_forall_mem.1 (hall i oi hi).1 e he
  simpa [hb] using this
 ·have:=(hall i oi hi).2.1
  simpa [hE] using this
 ·have:=(pair i j oi oj hi hj hne).1.1
  rw [hd] at this
  simp only [Bool.and_eq_true,bne_iff_ne,ne_eq,Bool.or_eq_true,Bool.not_eq_true',List.contains_eq_mem,decide_eq_false_iff_not] at this
  rcases this.2 with h | ⟨⟨h,h3⟩,h4⟩
  ·exact absurd hm h
  ·refine ⟨fun hlt=>by rwa [if_pos hlt] at h,fun hgt=>by rwa [if_neg (by omega)] at h,fun hE hE'=>?_,fun hE hE'=>?_⟩
   ·rcases h3 with (h3 | h3) | h3
    ·rw [hE] at h3; cases h3
    ·rw [hE'] at h3; cases h3
    ·simpa using h3
   ·rcases h4 with h4 | h4
    ·simp [hE,hE'] at h4
    ·simpa using h4
 ·have:=(pair i j oi oj hi hj hne).1.2
  simp only [h1,h2,hw,hr,Bool.not_false,Bool.and_self,Bool.not_true,Bool.false_or] at this
  refine ⟨fun hlt=>by rw [if_pos hlt] at this; simpa using this,fun hgt=>by rw [if_neg (by omega)] at this; simpa using this⟩
 ·have:=(pair i j oi oj hi hj (by omega)).2.1
  simpa [h1,h2,hlt] using this
 ·have:=(pair i j oi oj hi hj (fun e=>by subst e; rw [hi] at hj; cases hj; rw [h1] at h2; cases h2)).2.2
  simp only [h1,h2,hr,Bool.not_false,Bool.and_self,Bool.not_true,Bool.false_or] at this
  simpa using this

theorem anc_done (hf : DepFacts fz E ops ac) {S : Nat → Prop} (hcl : ∀ (i : Nat) (oi : Oper),ops[i]? = some oi → S i → ∀ e ∈ oi.after,Region.binds .any e = true → S e.on) :
  ∀ (i : Nat) (oi : Oper),ops[i]? = some oi → (∀ e ∈ oi.after,Region.binds .any e = true → S e.on) → ∀ j ∈ (ac[i]?).getD [],S j:=fun i=>by
 induction i using Nat.strongRecOn with
 | _ i ih =>
  intro oi hi hs j hj
  obtain ⟨e,he,hb,hj'⟩:=hf.anc i oi j hi hj
  have hlt:=hf.edge i oi hi e he hb
  rcases hj' with rfl | hj'
  ·exact hs e he hb
  ·have hk : ∃ ok,ops[e.on]? = some ok:=⟨_,Array.getElem?_eq_getElem (Nat.lt_trans hlt (Array.getElem?_eq_some_iff.1 hi).1)⟩
   obtain ⟨ok,hk⟩:=hk
   exact ih e.on hlt ok hk (hcl e.on ok hk (hs e he hb)) j hj'

theorem waitsFor_inv {j : Nat} (h : waitsFor o j = true) : ∃ e ∈ o.after,e.on = j ∧ Region.binds .any e = true:=by
 unfold waitsFor at h
 obtain ⟨e,he,h⟩:=Array.any_eq_true'.1 h
 simp only [Bool.and_eq_true,beq_iff_eq] at h
 exact ⟨e,he,h.1,h.2⟩

theorem countP_lt {α : Type} {p q : α → Bool} : ∀ {l : List α} {x : α},(∀ y ∈ l,q y = true → p y = true) → x ∈ l → p x = true → q x = false → l.countP q < l.countP p
 | y :: l,x,hpq,hx,hp,hq=>by
  have hle : l.countP q ≤ l.countP p:=List.countP_mono_left (fun z hz=>hpq z (by simp [hz]))
  rcases List.mem_cons.1 hx with rfl | hx
  ·rw [List.countP_cons_of_pos hp,List.countP_cons_of_neg (by simp [hq])]
   omega
  ·have ih:=countP_lt (l:=l) (fun z hz=>hpq z (by simp [hz])) hx hp hq
   by_cases hqy : q y = true
   ·rw [List.countP_cons_of_pos hqy,List.countP_cons_of_pos (hpq y (by simp) hqy)]; omega
   ·rw [List.countP_cons_of_neg hqy]
    by_cases hpy : p y = true
    ·rw [List.countP_cons_of_pos hpy]; omega
    ·rw [List.countP_cons_of_neg hpy]; exact ih

def StIs (E : Oper → Bool) (ops : Array Oper) (ss : List Store) (listed : Array Bool) (st : Store) : Prop :=
 ∃ m,m ≤ ops.size ∧ ss[m]? = some st ∧ ∀ (j : Nat) (oj : Oper),ops[j]? = some oj → E oj = false → isW oj.op = true → (listed.getD j false = true ↔ j < m)

def eVC (P : Program) (W0 : World) (n : Nat) (fz : List Nat) : List Oper → (AState → Prop) → AState → Prop
 | [],K,B=>K B
 | o :: r,K,B=>noFz fz o.op ∧ opVC P W0 n fz o B fun B'=>eVC P W0 n fz r K B'

theorem listed_set {listed : Array Bool} {i : Nat} (hi : i < listed.size) (j : Nat) : (listed.setIfInBounds i true).getD j false = true ↔ (listed.getD j false = true ∨ j = i):=by
 by_cases hj : j = i
 ·subst hj
  simp [Array.getD,hi]
 ·rw [getD_set_ne false (Ne.symm hj)]; simp [hj]

theorem listed_set_f {listed : Array Bool} {i : Nat} (hi : i < listed.size) (j : Nat) : (listed.setIfInBounds i true).getD j false = false ↔ (listed.getD j false = false ∧ j ≠ i):=by
 have:=listed_set hi j
 cases h1 : (listed.setIfInBounds i true).getD j false <;> cases h2 : listed.getD j false <;> simp_all

theorem none_ready (hf : DepFacts fz E ops ac) {listed : Array Bool} (hsz : listed.size = ops.size) (hnil : Region.ready .any ops listed = []) : ∀ i,i < ops.size → listed.getD i false = true:=fun i=>by
 induction i using Nat.strongRecOn with
 | _ i ih =>
  intro hi
  cases hl : listed.getD i false with
  | true=>rfl
  | false =>
   exfalso
   have : i ∈ Region.ready .any ops listed:=mem_ready.2 ⟨by
    have h1 : i < listed.size:=by omega
    simp [Array.getD,h1] at hl ⊢
    exact hl,ops[i],Array.getElem?_eq_getElem hi,fun e he hb=>ih e.on (hf.edge i _ (Array.getElem?_eq_getElem hi) e he hb) (by have:=hf.edge i _ (Array.getElem?_eq_getElem hi) e he hb; omega)⟩
   rw [hnil] at this
   cases this

theorem fuel_zero {listed : Array Bool} (hfuel : (List.range ops.size).countP (fun i=>!listed.getD i true) ≤ 0) : Region.ready .any ops listed = []:=by
 cases hrd : Region.ready .any ops listed with
 | nil=>rfl
 | cons i r =>
  exfalso
  have hi : i ∈ Region.ready .any ops listed:=by rw [hrd]; simp
  obtain ⟨h1,o,ho,_⟩:=mem_ready.1 hi
  have:=List.countP_pos_iff (p:=fun i=>!listed.getD i true) (l:=List.range ops.size) |>.2 ⟨i,List.mem_range.2 (Array.getElem?_eq_some_iff.1 ho).1,by simp only [h1]; rfl⟩
  omega

theorem fuel_next {listed : Array Bool} {i fuel : Nat} (hsz : listed.size = ops.size) (hilt : i < ops.size) (h1 : listed.getD i true = false) (hfuel : (List.range ops.size).countP (fun i=>!listed.getD i true) ≤ fuel + 1) :
  (List.range ops.size).countP (fun j=>!(listed.setIfInBounds i true).getD j true) ≤ fuel:=by
 have:=countP_lt (l:=List.range ops.size) (p:=fun j=>!listed.getD j true) (q:=fun j=>!(listed.setIfInBounds i true).getD j true) (x:=i) (fun j _ hj=>by
  by_cases hji : j = i
  ·subst hji; simpa using h1
  ·rw [getD_set_ne true (Ne.symm hji)] at hj; exact hj) (List.mem_range.2 hilt) (by rw [h1]; rfl) (by
   have h3 : i < listed.size:=by omega
   simp [Array.getD,h3])
 omega

def Closed (ops : Array Oper) (listed : Array Bool) : Prop:=∀ (i : Nat) (oi : Oper),ops[i]? = some oi → listed.getD i true = true → ∀ e ∈ oi.after,Region.binds .any e = true → listed.getD e.on false = true

theorem Closed.next {listed : Array Bool} {i : Nat} (hcl : Closed ops listed) (ho : ops[i]? = some o) (h2 : ∀ e ∈ o.after,Region.binds .any e = true → listed.getD e.on false = true) : Closed ops (listed.setIfInBounds i true):=fun j oj hj hlj e he hb=>by
 by_cases hji : j = i
 ·subst hji
  rw [ho] at hj
  cases hj
  exact getD_set_true (h2 e he hb)
 ·rw [getD_set_ne true (Ne.symm hji)] at hlj
  exact getD_set_true (hcl j oj hj hlj e he hb)

structure Mid (fz : List Nat) (E : Oper → Bool) (ops : Array Oper) (vs : List AV) (A : AState) (listed : Array Bool) (rem : List (Oper × Nat)) (D B : AState) : Prop where
 a : ∀ (i : Nat) (o : Oper) (d : Nat),ops[i]? = some o → E o = false → o.dst = some d → listed.getD i false = false → D.env d = A.env d
 b : ∀ d,(∀ (i : Nat) (o : Oper),ops[i]? = some o → E o = false → o.dst = some d → listed.getD i false = true) → D.env d = B.env d
 st : D.st = B.st
 v : ∀ (i : Nat) (o : Oper) (d : Nat) (v : AV),ops[i]? = some o → E o = false → o.dst = some d → vs[i]? = some v → B.env d = v
 o : ∀ d,(∀ (i : Nat) (o : Oper),ops[i]? = some o → o.dst = some d → E o = true ∧ listed.getD i false = false) → B.env d = A.env d
 rw : ∀ (i : Nat) (o : Oper),ops[i]? = some o → E o = false → (isW o.op || isR fz o.dst o.op) = true → listed.getD i false = true
 r1 : ∀ p ∈ rem,ops[p.2]? = some p.1 ∧ E p.1 = true ∧ listed.getD p.2 false = false
 r2 : ∀ (i : Nat) (o : Oper),ops[i]? = some o → E o = true → listed.getD i false = false → (o,i) ∈ rem
 r3 : rem.Pairwise fun p q=>p.2 < q.2

theorem chain_order {vs : List AV} {ss : List Store} {Qx : Exit → Act → World → Prop} (hf : DepFacts fz E ops ac) (hlen : vs.length = ops.size)
  (hat : ∀ j o v,ops[j]? = some o → vs[j]? = some v → ∃ Tj σ',EnvIs E ops vs A (· < j) Tj ∧ ss[j]? = some Tj.st ∧ ss[j + 1]? = some σ' ∧ (E o = true → σ' = Tj.st) ∧ (E o = false → StepOk P W0 n fz ops o Tj v σ')) :
  ∀ (fuel : Nat) (listed : Array Bool) (D B : AState) (rem : List (Oper × Nat)) (w : World) (C : Ctx) (a : Act),listed.size = ops.size → (List.range ops.size).countP (fun i=>!listed.getD i true) ≤ fuel → Closed ops listed →
   Mid fz E ops vs A listed rem D B → RelA P W0 n w C D a → eVC P W0 n fz (rem.map (·.1)) K B → (∀ B' C' a' w',K B' → RelA P W0 n w' C' B' a' → Step w C w' C' → Qx .normal a' w') → wpAny P .any ops Qx fuel listed a w:=by
 have hend : ∀ (listed : Array Bool) (D B : AState) (rem : List (Oper × Nat)),(∀ i,i < ops.size → listed.getD i false = true) → Mid fz E ops vs A listed rem D B → eVC P W0 n fz (rem.map (·.1)) K B → D = B ∧ K B:=fun listed D B rem hall hm hK=>by
  have hrem : rem = []:=by
   cases rem with
   | nil=>rfl
   | cons p r =>
    obtain ⟨h1,_,h3⟩:=hm.r1 p (by simp)
    rw [hall p.2 (Array.getElem?_eq_some_iff.1 h1).1] at h3
    cases h3
  subst hrem
  refine ⟨?_,hK⟩
  have h1:=hm.st
  have h2 : D.env = B.env:=funext fun d=>hm.b d fun i o hi _ _=>hall i (Array.getElem?_eq_some_iff.1 hi).1
  cases D; cases B; simp only at h1 h2; subst h1 h2; rfl
 intro fuel
 induction fuel with
 | zero =>
  intro listed D B rem w C a hsz hfuel hclosed hm hr hK hq
  have hnil:=fuel_zero hfuel
  obtain ⟨rfl,hKB⟩:=hend listed D B rem (none_ready hf hsz hnil) hm hK
  exact ⟨hnil,hq _ C a w hKB hr (.refl _ _)⟩
 | succ fuel ih =>
  intro listed D B rem w C a hsz hfuel hclosed hm hr hK hq
  refine ⟨fun hnil=>?_,fun i hi=>?_⟩
  ·obtain ⟨rfl,hKB⟩:=hend listed D B rem (none_ready hf hsz hnil) hm hK
   exact hq _ C a w hKB hr (.refl _ _)
  ·obtain ⟨h1,o,ho,h2⟩:=mem_ready.1 hi
   have hilt:=(Array.getElem?_eq_some_iff.1 ho).1
   have hil : i < listed.size:=by omega
   have hif : listed.getD i false = false:=by
    simp [Array.getD,hil] at h1 ⊢
    exact h1
   have hcl : ∀ (j : Nat) (oj : Oper),ops[j]? = some oj → listed.getD j false = true → waitsFor oj i = true → False:=fun j oj hj hlj hwt=>by
    have hjlt:=(Array.getElem?_eq_some_iff.1 hj).1
    obtain ⟨e,he,e1,e2⟩:=waitsFor_inv hwt
    have:=hclosed j oj hj (by
     have h3 : j < listed.size:=by omega
     simp [Array.getD,h3] at hlj ⊢
     exact hlj) e he e2
    rw [e1,hif] at this
    cases this
   have hwt : ∀ (j : Nat),waitsFor o j = true → listed.getD j false = true:=fun j hw=>by
    obtain ⟨e,he,e1,e2⟩:=waitsFor_inv hw
    rw [← e1]; exact h2 e he e2
   have hdone : ∀ j ∈ (ac[i]?).getD [],listed.getD j false = true:=anc_done hf (S:=fun j=>listed.getD j false = true) (fun j oj hj hlj=>hclosed j oj hj (by
    have h3 : j < listed.size:=by have:=(Array.getElem?_eq_some_iff.1 hj).1; omega
    simp [Array.getD,h3] at hlj ⊢
    exact hlj)) i o ho h2
   have hsz' : (listed.setIfInBounds i true).size = ops.size:=by simpa using hsz
   have hfuel':=fuel_next hsz hilt h1 hfuel
   have hclosed':=hclosed.next ho h2
   unfold wpOp
   rw [ho]
   simp only
   cases hEo : E o with
   | false =>
    obtain ⟨vi,hv⟩ : ∃ v,vs[i]? = some v:=⟨_,List.getElem?_eq_getElem (l:=vs) (show i < vs.length by omega)⟩
    obtain ⟨T,σ',hT,_,_,_,hstep⟩:=hat i o vi ho hv
    have hnrw : (isW o.op || isR fz o.dst o.op) = false:=by
     cases hx : (isW o.op || isR fz o.dst o.op) with
     | false=>rfl
     | true=>have:=hm.rw i o ho hEo hx; rw [hif] at this; cases this
    have hW : isW o.op = false:=by simp only [Bool.or_eq_false_iff] at hnrw; exact hnrw.1
    have hstepD:=(hstep hEo).congr (B:=D) (fun hx=>by rw [hnrw] at hx; cases hx) (fun d hd=>by
     by_cases hex : ∃ (j : Nat) (oj : Oper),ops[j]? = some oj ∧ oj.dst = some d
     ·obtain ⟨j,oj,hj,hdj⟩:=hex
      have honly : ∀ k ok,ops[k]? = some ok → ok.dst = some d → k = j:=fun k ok hk hdk=>hf.dist k j ok oj d hk hj hdk hdj
      by_cases hEj : E oj = true
      ·have hji : j ≠ i:=fun e=>by subst e; rw [ho] at hj; cases hj; rw [hEo] at hEj; cases hEj
       have hl:=hf.look i j o oj d ho hj (Ne.symm hji) hdj hd
       have hgt:=hl.2.2.1 hEj hEo
       have hnl : listed.getD j false = false:=by
        cases hlj : listed.getD j false with
        | false=>rfl
        | true=>exact (hcl j oj hj hlj (hl.2.1 hgt)).elim
       rw [hm.b d (fun k ok hk hok hdk=>by have:=honly k ok hk hdk; subst this; rw [hj] at hk; cases hk; rw [hEj] at hok; cases hok),hm.o d (fun k ok hk hdk=>by have:=honly k ok hk hdk; subst this; rw [hj] at hk; cases hk; exact ⟨hEj,hnl⟩),hT.old d (fun k ok _ hk hok hdk=>by have:=honly k ok hk hdk; subst this; rw [hj] at hk; cases hk; rw [hEj] at hok; cases hok)]
      have hEj : E oj = false:=by simpa using hEj
      have hvj:=List.getElem?_eq_getElem (l:=vs) (show j < vs.length by have:=(Array.getElem?_eq_some_iff.1 hj).1; omega)
      rcases Nat.lt_trichotomy j i with hlt | heq | hgt
      ·have hlj:=hwt j ((hf.look i j o oj d ho hj (by omega) hdj hd).1 hlt)
       rw [hm.b d (fun k ok hk _ hdk=>by rw [honly k ok hk hdk]; exact hlj),hm.v j oj d _ hj hEj hdj hvj,hT.set j oj d _ hlt hj hEj hdj hvj]
      ·subst heq
       rw [hm.a j oj d hj hEj hdj hif,hT.old d (fun k ok hk hok _ hdk=>by have:=honly k ok hok hdk; omega)]
      ·have hnl : listed.getD j false = false:=by
        cases hlj : listed.getD j false with
        | false=>rfl
        | true=>exact (hcl j oj hj hlj ((hf.look i j o oj d ho hj (by omega) hdj hd).2.1 hgt)).elim
       rw [hm.a j oj d hj hEj hdj hnl,hT.old d (fun k ok hk hok _ hdk=>by have:=honly k ok hok hdk; omega)]
     ·rw [hm.b d (fun k ok hk _ hdk=>absurd ⟨k,ok,hk,hdk⟩ hex),hm.o d (fun k ok hk hdk=>absurd ⟨k,ok,hk,hdk⟩ hex),hT.old d (fun k ok _ hk _ hdk=>hex ⟨k,ok,hk,hdk⟩)])
    rw [hW] at hstepD
    simp only [Bool.false_eq_true,if_false] at hstepD
    have hmid : Mid fz E ops vs A (listed.setIfInBounds i true) rem (D.put o.dst vi) B:=by
     refine ⟨fun j oj d hj hEj hdj hlj=>?_,fun d hd=>?_,by rw [AState.put_st]; exact hm.st,hm.v,fun d hd'=>hm.o d fun j oj hj hdj=>⟨(hd' j oj hj hdj).1,((listed_set_f hil j).1 (hd' j oj hj hdj).2).1⟩,fun j oj hj hEj hx=>(listed_set hil j).2 (.inl (hm.rw j oj hj hEj hx)),fun p hp=>?_,fun j oj hj hEj hlj=>?_,hm.r3⟩
     ·obtain ⟨g1,g2⟩:=(listed_set_f hil j).1 hlj
      rw [put_env_ne (fun hod=>g2 (hf.dist j i oj o d hj ho hdj hod))]
      exact hm.a j oj d hj hEj hdj g1
     ·by_cases hod : o.dst = some d
      ·rw [put_env_same hod,hm.v i o d vi ho hEo hod hv]
      ·rw [put_env_ne hod]
       refine hm.b d fun j oj hj hEj hdj=>?_
       rcases (listed_set hil j).1 (hd j oj hj hEj hdj) with h | h
       ·exact h
       ·subst h; rw [ho] at hj; cases hj; exact absurd hdj hod
     ·obtain ⟨g1,g2,g3⟩:=hm.r1 p hp
      refine ⟨g1,g2,(listed_set_f hil p.2).2 ⟨g3,fun e=>?_⟩⟩
      rw [e,ho] at g1; cases g1; rw [hEo] at g2; cases g2
     ·exact hm.r2 j oj hj hEj ((listed_set_f hil j).1 hlj).1
    have hgo : ∀ w' C' a',RelA P W0 n w' C' (D.put o.dst vi) a' → Step w C w' C' → wpAny P .any ops Qx fuel (listed.setIfInBounds i true) a' w':=fun w' C' a' hr' hs =>
     ih _ _ B rem w' C' a' hsz' hfuel' hclosed' hmid hr' hK (fun B' C'' a'' w'' hKB hr'' hs''=>hq B' C'' a'' w'' hKB hr'' (hs.trans hs''))
    obtain ⟨hd,hstepD⟩:=hstepD
    have same : ∀ v,(D.put o.dst v).withSt D.st = D.put o.dst v:=fun v=>by cases o.dst <;> rfl
    have fin : ∀ x w',RelV P w' C vi x → Step w C w' C → StRel P W0 w' C D.st → wpAny P .any ops Qx fuel (listed.setIfInBounds i true) (a.put o.dst x) w':=fun x w' hv hs hst=>hgo w' C _ (by
     have:=put_step (o:=o) hr hd hs hst hv
     rwa [same] at this) hs
    split at hstepD
    ·rename_i hg
     rw [if_pos (by simp [Region.wanted,hg])]
     left
     rcases hstepD with ⟨_,_,hp⟩ | ⟨hW',_⟩
     ·exact hp.1 w C a (hr.toO o) _ _ fin
     ·rw [hW] at hW'; cases hW'
    ·rename_i j want hg
     obtain ⟨_,_,G,u,g1,g2,g3⟩:=hstepD
     have hw:=gdOf_inv hr g1 hg
     rw [hw]
     cases G with
     | true =>
      rw [if_pos rfl]
      exact .inl ((g3 rfl).1 w C a (hr.toO o) _ _ fun x w' hv hs hst=>fin x w' (by rw [g2]; exact .maybe (fun _=>hv) (fun e=>by cases e)) hs hst)
     | false =>
      rw [if_neg (by simp)]
      exact hgo w C _ (put_rel hr hd (v:=vi) (x:=undef) (by rw [g2]; exact .maybe (fun e=>by cases e) (fun _=>rfl))) (.refl _ _)
   | true =>
    have hmem:=hm.r2 i o ho hEo hif
    cases hrem : rem with
    | nil=>rw [hrem] at hmem; cases hmem
    | cons p r =>
     have hhead : p = (o,i):=by
      rw [hrem] at hmem
      rcases List.mem_cons.1 hmem with h | h
      ·exact h.symm
      ·exfalso
       have h3:=hm.r3
       rw [hrem] at h3
       have hlt:=(List.pairwise_cons.1 h3).1 (o,i) h
       obtain ⟨g1,g2,g3⟩:=hm.r1 p (by rw [hrem]; simp)
       have:=hdone p.2 (hf.chain i p.2 o p.1 ho g1 hEo g2 hlt)
       rw [g3] at this; cases this
     subst hhead
     rw [hrem,List.map_cons] at hK
     obtain ⟨hnf,hop⟩:=hK
     rw [if_pos (by simp [Region.wanted,hf.gd i o ho hEo])]
     left
     have hrO : RelO P W0 o w C B a:=relO_congr (ops:=ops) (T:=B) (B:=D) hm.st (fun d hd=>hm.b d fun j oj hj hEj hdj=>by
      have hne : i ≠ j:=fun e=>by subst e; rw [ho] at hj; cases hj; rw [hEo] at hEj; cases hEj
      have hl:=hf.look i j o oj d ho hj hne hdj hd
      exact hwt j (hl.1 (hl.2.2.2 hEo hEj))) (hr.toO o)
     have hd:=hop.1
     refine opVC_wpO hrO hnf hop fun v x σ' w' C' hK' hv hst hs=>?_
     have hr':=put_step (o:=o) hr hd hs hst hv
     refine ih _ ((D.put o.dst v).withSt σ') ((B.put o.dst v).withSt σ') r w' C' _ hsz' hfuel' hclosed' ?_ hr' hK' (fun B' C'' a'' w'' hKB hr'' hs''=>hq B' C'' a'' w'' hKB hr'' (hs.trans hs''))
     have hEne : ∀ (j : Nat) (oj : Oper),ops[j]? = some oj → E oj = false → j ≠ i:=fun j oj hj hEj e=>by subst e; rw [ho] at hj; cases hj; rw [hEo] at hEj; cases hEj
     refine ⟨fun j oj d hj hEj hdj hlj=>?_,fun d hd'=>?_,rfl,fun j oj d u hj hEj hdj hu=>?_,fun d hd'=>?_,fun j oj hj hEj hx=>(listed_set hil j).2 (.inl (hm.rw j oj hj hEj hx)),fun p hp=>?_,fun j oj hj hEj hlj=>?_,?_⟩
     ·rw [withSt_env',put_env_ne (fun hod=>hEne j oj hj hEj (hf.dist j i oj o d hj ho hdj hod))]
      exact hm.a j oj d hj hEj hdj ((listed_set_f hil j).1 hlj).1
     ·rw [withSt_env',withSt_env']
      by_cases hod : o.dst = some d
      ·rw [put_env_same hod,put_env_same hod]
      ·rw [put_env_ne hod,put_env_ne hod]
       refine hm.b d fun j oj hj hEj hdj=>?_
       rcases (listed_set hil j).1 (hd' j oj hj hEj hdj) with h | h
       ·exact h
       ·exact absurd h (hEne j oj hj hEj)
     ·rw [withSt_env',put_env_ne (fun hod=>hEne j oj hj hEj (hf.dist j i oj o d hj ho hdj hod))]
      exact hm.v j oj d u hj hEj hdj hu
     ·have hne : o.dst ≠ some d:=fun hod=>by
       have:=(hd' i o ho hod).2
       rw [(listed_set hil i).2 (.inr rfl)] at this
       cases this
      rw [withSt_env',put_env_ne hne]
      exact hm.o d fun j oj hj hdj=>⟨(hd' j oj hj hdj).1,((listed_set_f hil j).1 (hd' j oj hj hdj).2).1⟩
     ·obtain ⟨g1,g2,g3⟩:=hm.r1 p (by rw [hrem]; exact List.mem_cons_of_mem _ hp)
      have h3:=hm.r3
      rw [hrem] at h3
      have hlt:=(List.pairwise_cons.1 h3).1 p hp
      exact ⟨g1,g2,(listed_set_f hil p.2).2 ⟨g3,by simp only at hlt; omega⟩⟩
     ·obtain ⟨g1,g2⟩:=(listed_set_f hil j).1 hlj
      have:=hm.r2 j oj hj hEj g1
      rw [hrem] at this
      rcases List.mem_cons.1 this with h | h
      ·cases h; exact absurd rfl g2
      ·exact h
     ·have h3:=hm.r3
      rw [hrem] at h3
      exact (List.pairwise_cons.1 h3).2

theorem filter_fst (E : Oper → Bool) : ∀ (l : List Oper) (k : Nat),((l.zipIdx k).filter (fun p=>E p.1)).map (·.1) = l.filter E
 | [],_=>rfl
 | o :: r,k=>by
  rw [List.zipIdx_cons,List.filter_cons,List.filter_cons]
  cases h : E o with
  | true=>simp only [if_true,List.map_cons]; rw [filter_fst E r]
  | false=>simp only [Bool.false_eq_true,if_false]; rw [filter_fst E r]

theorem any_order {vs : List AV} {ss : List Store} {B : AState} {Qx : Exit → Act → World → Prop} (hf : DepFacts fz E ops ac) (hseq : Seq P W0 n fz E ops ops.toList A vs ss B) (hK : eVC P W0 n fz (ops.toList.filter E) K B) :
  ∀ (fuel : Nat) (listed : Array Bool) (D : AState) (w : World) (C : Ctx) (a : Act),listed.size = ops.size → (List.range ops.size).countP (fun i=>!listed.getD i true) ≤ fuel →
   (∀ (i : Nat) (oi : Oper),ops[i]? = some oi → listed.getD i true = true → ∀ e ∈ oi.after,Region.binds .any e = true → listed.getD e.on false = true) →
   (∀ (i : Nat) (oi : Oper),ops[i]? = some oi → E oi = true → listed.getD i false = false) →
   EnvIs E ops vs A (fun i=>listed.getD i false = true) D → StIs E ops (A.st :: ss) listed D.st → RelA P W0 n w C D a → (∀ B' C' a' w',K B' → RelA P W0 n w' C' B' a' → Step w C w' C' → Qx .normal a' w') → wpAny P .any ops Qx fuel listed a w:=by
 have hD:=hf.dist
 have hedge:=hf.edge
 have he0 : EnvIs E ops vs A (· < 0) A:=⟨fun i _ _ _ hi=>absurd hi (Nat.not_lt_zero i),fun _ _=>rfl⟩
 obtain ⟨hat,hB,hlen,hBs⟩:=seq_at (ss:=A.st :: ss) ops.toList vs ss 0 A B hD (by simp) (by simp) (fun j=>by rw [show 0 + 1 + j = j + 1 by omega]; simp) rfl hseq he0
 simp only [Nat.zero_add] at hat hB hBs
 have hBs' : (A.st :: ss)[ops.size]? = some B.st:=by simpa using hBs
 have hsame : ∀ (d m : Nat),m + d ≤ ops.size → (∀ (j : Nat) (oj : Oper),m ≤ j → j < m + d → ops[j]? = some oj → E oj = false → isW oj.op = false) → (A.st :: ss)[m + d]? = (A.st :: ss)[m]?:=fun d=>by
  induction d with
  | zero=>intro m _ _; rfl
  | succ d ihd =>
   intro m hm hno
   rw [← ihd m (by omega) (fun j oj h1 h2=>hno j oj h1 (by omega))]
   have hlt : m + d < ops.size:=by omega
   obtain ⟨vj,hvj⟩ : ∃ v,vs[m + d]? = some v:=⟨_,List.getElem?_eq_getElem (l:=vs) (show m + d < vs.length by rw [hlen]; simpa using hlt)⟩
   obtain ⟨T,σ',_,e1,e2,hsk,hok⟩:=hat (m + d) ops[m + d] vj (by simp [hlt]) hvj
   have : σ' = T.st:=by
    cases hEm : E ops[m + d] with
    | true=>exact hsk hEm
    | false =>
    have hnw:=hno (m + d) ops[m + d] (by omega) (by omega) (by simp [hlt]) hEm
    have h2:=(hok hEm).2
    split at h2
    ·rcases h2 with h2 | h2
     ·exact h2.2.1
     ·rw [hnw] at h2; cases h2.1
    ·exact h2.2.1
   rw [show m + (d + 1) = m + d + 1 by omega,e2,e1,this]
 have hstEnd : ∀ (listed : Array Bool) (D : AState),(∀ (i : Nat) (o : Oper),ops[i]? = some o → E o = false → (isW o.op || isR fz o.dst o.op) = true → listed.getD i false = true) → StIs E ops (A.st :: ss) listed D.st → D.st = B.st:=fun listed D hall ⟨m,hm,hs,hw⟩=>by
  have:=hsame (ops.size - m) m (by omega) (fun j oj h1 h2 hoj hEj=>by
   cases hwj : isW oj.op with
   | false=>rfl
   | true =>
    have:=(hw j oj hoj hEj hwj).1 (hall j oj hoj hEj (by simp [hwj]))
    omega)
  rw [show m + (ops.size - m) = ops.size by omega,hBs',hs] at this
  exact (Option.some.inj this).symm
 have hat' : ∀ j o v,ops[j]? = some o → vs[j]? = some v → ∃ Tj σ',EnvIs E ops vs A (· < j) Tj ∧ (A.st :: ss)[j]? = some Tj.st ∧ (A.st :: ss)[j + 1]? = some σ' ∧ (E o = true → σ' = Tj.st) ∧ (E o = false → StepOk P W0 n fz ops o Tj v σ'):=fun j o v hj hv=>hat j o v (by simpa using hj) hv
 have hover : ∀ (fuel : Nat) (listed : Array Bool) (D : AState) (w : World) (C : Ctx) (a : Act),listed.size = ops.size → (List.range ops.size).countP (fun i=>!listed.getD i true) ≤ fuel → Closed ops listed →
   (∀ (i : Nat) (oi : Oper),ops[i]? = some oi → E oi = true → listed.getD i false = false) → EnvIs E ops vs A (fun i=>listed.getD i false = true) D → StIs E ops (A.st :: ss) listed D.st → RelA P W0 n w C D a →
   (∀ (i : Nat) (o : Oper),ops[i]? = some o → E o = false → (isW o.op || isR fz o.dst o.op) = true → listed.getD i false = true) → (∀ B' C' a' w',K B' → RelA P W0 n w' C' B' a' → Step w C w' C' → Qx .normal a' w') → wpAny P .any ops Qx fuel listed a w:=fun fuel listed D w C a hsz hfuel hclosed hEl hE hS hr hall hq=>by
  refine chain_order hf (by rw [hlen]; simp) hat' fuel listed D B ((ops.toList.zipIdx 0).filter (fun p=>E p.1)) w C a hsz hfuel hclosed ⟨fun i o d hi hEi hdi hl=>?_,fun d hd=>?_,hstEnd listed D hall hS,fun i o d v hi hEi hdi hv=>?_,fun d hd=>?_,hall,fun p hp=>?_,fun i o hi hEi hl=>?_,?_⟩ hr (by rw [filter_fst]; exact hK) hq
  ·exact hE.old d fun k ok hk hok _ hdk=>by have:=hD k i ok o d hok hi hdk hdi; subst this; rw [hl] at hk; cases hk
  ·by_cases hex : ∃ (i : Nat) (o : Oper),ops[i]? = some o ∧ E o = false ∧ o.dst = some d
   ·obtain ⟨i,o,hi,hEi,hdi⟩:=hex
    have hlt:=(Array.getElem?_eq_some_iff.1 hi).1
    have hv:=List.getElem?_eq_getElem (l:=vs) (show i < vs.length by rw [hlen]; simpa using hlt)
    rw [hE.set i o d _ (hd i o hi hEi hdi) hi hEi hdi hv,hB.set i o d _ (by simpa using hlt) hi hEi hdi hv]
   ·rw [hE.old d (fun i o _ hi hEi hdi=>hex ⟨i,o,hi,hEi,hdi⟩),hB.old d (fun i o _ hi hEi hdi=>hex ⟨i,o,hi,hEi,hdi⟩)]
  ·exact hB.set i o d v (by simpa using (Array.getElem?_eq_some_iff.1 hi).1) hi hEi hdi hv
  ·exact hB.old d fun i o _ hi hEi hdi=>by have:=(hd i o hi hdi).1; rw [hEi] at this; cases this
  ·obtain ⟨hp1,hp2⟩:=List.mem_filter.1 hp
   have h3 : ops[p.2]? = some p.1:=by
    have:=List.mem_zipIdx_iff_getElem?.1 hp1
    simpa using this
   exact ⟨h3,hp2,hEl p.2 p.1 h3 hp2⟩
  ·exact List.mem_filter.2 ⟨List.mem_zipIdx_iff_getElem?.2 (by simpa using hi),hEi⟩
  ·refine List.Pairwise.filter _ ?_
   rw [List.pairwise_iff_getElem]
   intro i j hi hj hij
   simp only [List.getElem_zipIdx]
   omega
 intro fuel
 induction fuel with
 | zero =>
  intro listed D w C a hsz hfuel hclosed hEl hE hS hr hq
  refine hover 0 listed D w C a hsz hfuel hclosed hEl hE hS hr (fun i o hi _ _=>none_ready hf hsz (fuel_zero hfuel) i (Array.getElem?_eq_some_iff.1 hi).1) hq
 | succ fuel ih =>
  intro listed D w C a hsz hfuel hclosed hEl hE hS hr hq
  by_cases hall : ∀ (i : Nat) (o : Oper),ops[i]? = some o → E o = false → (isW o.op || isR fz o.dst o.op) = true → listed.getD i false = true
  ·exact hover (fuel + 1) listed D w C a hsz hfuel hclosed hEl hE hS hr hall hq
  refine ⟨fun hnil=>absurd (fun i o hi _ _=>none_ready hf hsz hnil i (Array.getElem?_eq_some_iff.1 hi).1) hall,fun i hi=>?_⟩
  ·obtain ⟨h1,o,ho,h2⟩:=mem_ready.1 hi
   have hilt:=(Array.getElem?_eq_some_iff.1 ho).1
   obtain ⟨vi,hv⟩ : ∃ v,vs[i]? = some v:=⟨_,List.getElem?_eq_getElem (l:=vs) (show i < vs.length by rw [hlen]; simpa using hilt)⟩
   obtain ⟨T,σ',hT,hTs,hTs',_,hstep⟩:=hat i o _ (by simpa using ho) hv
   have hif : listed.getD i false = false:=by
    have h3 : i < listed.size:=by omega
    simp [Array.getD,h3] at h1 ⊢
    exact h1
   have hil : i < listed.size:=by omega
   have hdone : ∀ j ∈ (ac[i]?).getD [],listed.getD j false = true:=anc_done hf (S:=fun j=>listed.getD j false = true) (fun j oj hj hlj=>hclosed j oj hj (by
    have h3 : j < listed.size:=by have:=(Array.getElem?_eq_some_iff.1 hj).1; omega
    simp [Array.getD,h3] at hlj ⊢
    exact hlj)) i o ho h2
   have hEo : E o = false:=by
    cases hEo : E o with
    | false=>rfl
    | true=>exact absurd (fun j oj hj hEj hx=>hdone j (hf.last i j o oj ho hj hEo hEj hx)) hall
   replace hstep:=hstep hEo
   have hdoneOf : ∀ (j : Nat) (oj : Oper),ops[j]? = some oj → listed.getD j false = true → ∀ k ∈ (ac[j]?).getD [],listed.getD k false = true:=fun j oj hj hlj=>by
    have hcl' : ∀ (j : Nat) (oj : Oper),ops[j]? = some oj → listed.getD j false = true → ∀ e ∈ oj.after,Region.binds .any e = true → listed.getD e.on false = true:=fun j oj hj hlj=>hclosed j oj hj (by
     have h3 : j < listed.size:=by have:=(Array.getElem?_eq_some_iff.1 hj).1; omega
     simp [Array.getD,h3] at hlj ⊢
     exact hlj)
    exact anc_done hf (S:=fun j=>listed.getD j false = true) hcl' j oj hj (hcl' j oj hj hlj)
   obtain ⟨m,hm,hms,hmw⟩:=hS
   have hcl : ∀ (j : Nat) (oj : Oper),ops[j]? = some oj → listed.getD j false = true → waitsFor oj i = true → False:=fun j oj hj hlj hwt=>by
    have hjlt:=(Array.getElem?_eq_some_iff.1 hj).1
    obtain ⟨e,he,e1,e2⟩:=waitsFor_inv hwt
    have:=hclosed j oj hj (by
     have h3 : j < listed.size:=by omega
     simp [Array.getD,h3] at hlj ⊢
     exact hlj) e he e2
    rw [e1,hif] at this
    cases this
   have hpos : (isW o.op || isR fz o.dst o.op) = true → (A.st :: ss)[i]? = (A.st :: ss)[m]? ∧ (∀ (j : Nat) (oj : Oper),ops[j]? = some oj → E oj = false → isW oj.op = true → j ≠ i → (listed.getD j false = true ↔ j < i)):=fun hlk=>by
    have hiff : ∀ (j : Nat) (oj : Oper),ops[j]? = some oj → E oj = false → isW oj.op = true → j ≠ i → (listed.getD j false = true ↔ j < i):=fun j oj hj hEj hwj hne=>by
     obtain ⟨g1,g2⟩:=hf.wr i j o oj ho hj (Ne.symm hne) hEo hEj hwj hlk
     constructor
     ·intro hlj
      rcases Nat.lt_or_gt_of_ne hne with hlt | hgt
      ·exact hlt
      ·have:=hdoneOf j oj hj hlj i (g2 hgt); rw [hif] at this; cases this
     ·intro hlt
      exact hdone j (g1 hlt)
    refine ⟨?_,hiff⟩
    rcases Nat.le_total m i with hle | hle
    ·have:=hsame (i - m) m (by omega) (fun j oj g1 g2 hoj hEj=>by
      cases hwj : isW oj.op with
      | false=>rfl
      | true =>
       have:=(hmw j oj hoj hEj hwj).1 ((hiff j oj hoj hEj hwj (by omega)).2 (by omega))
       omega)
     rwa [show m + (i - m) = i by omega] at this
    ·have:=hsame (m - i) i (by omega) (fun j oj g1 g2 hoj hEj=>by
      cases hwj : isW oj.op with
      | false=>rfl
      | true =>
       have hlj:=(hmw j oj hoj hEj hwj).2 (by omega)
       by_cases hji : j = i
       ·subst hji; rw [hif] at hlj; cases hlj
       ·have:=(hiff j oj hoj hEj hwj hji).1 hlj
        omega)
     rw [show i + (m - i) = m by omega] at this
     exact this.symm
   have hstD : (isW o.op || isR fz o.dst o.op) = true → D.st = T.st:=fun hlk=>by
    have:=(hpos hlk).1
    rw [hTs,hms] at this
    exact (Option.some.inj this).symm
   have hstepD : StepOk P W0 n fz ops o D vi (if isW o.op then σ' else D.st):=hstep.congr hstD (fun d hd=>by
    by_cases hex : ∃ (j : Nat) (oj : Oper),ops[j]? = some oj ∧ oj.dst = some d
    ·obtain ⟨j,oj,hj,hdj⟩:=hex
     have hjlt:=(Array.getElem?_eq_some_iff.1 hj).1
     have hvj:=List.getElem?_eq_getElem (l:=vs) (show j < vs.length by rw [hlen]; simpa using hjlt)
     have honly : ∀ k ok,ops[k]? = some ok → ok.dst = some d → k = j:=fun k ok hk hdk=>hD k j ok oj d hk hj hdk hdj
     by_cases hEj : E oj = true
     ·rw [hE.old d (fun k ok _ hk hok hdk=>by have:=honly k ok hk hdk; subst this; rw [hj] at hk; cases hk; rw [hEj] at hok; cases hok),hT.old d (fun k ok _ hk hok hdk=>by have:=honly k ok hk hdk; subst this; rw [hj] at hk; cases hk; rw [hEj] at hok; cases hok)]
     have hEj : E oj = false:=by simpa using hEj
     rcases Nat.lt_trichotomy j i with hlt | heq | hgt
     ·obtain ⟨e,he,e1,e2⟩:=waitsFor_inv ((hf.look i j o oj d ho hj (by omega) hdj hd).1 hlt)
      have hlj : listed.getD j false = true:=by rw [← e1]; exact h2 e he e2
      rw [hE.set j oj d _ hlj hj hEj hdj hvj,hT.set j oj d _ hlt hj hEj hdj hvj]
     ·subst heq
      have e1 : D.env d = A.env d:=hE.old d (fun k ok hk hok _ hdk=>by have:=honly k ok hok hdk; subst this; rw [hif] at hk; cases hk)
      have e2 : T.env d = A.env d:=hT.old d (fun k ok hk hok _ hdk=>by have:=honly k ok hok hdk; omega)
      rw [e1,e2]
     ·have hnl : listed.getD j false = false:=by
       cases hlj : listed.getD j false with
       | false=>rfl
       | true =>
        exfalso
        obtain ⟨e,he,e1,e2⟩:=waitsFor_inv ((hf.look i j o oj d ho hj (by omega) hdj hd).2.1 hgt)
        have:=hclosed j oj hj (by
         have h3 : j < listed.size:=by omega
         simp [Array.getD,h3] at hlj ⊢
         exact hlj) e he e2
        rw [e1,hif] at this
        cases this
      have e1 : D.env d = A.env d:=hE.old d (fun k ok hk hok _ hdk=>by have:=honly k ok hok hdk; subst this; rw [hnl] at hk; cases hk)
      have e2 : T.env d = A.env d:=hT.old d (fun k ok hk hok _ hdk=>by have:=honly k ok hok hdk; omega)
      rw [e1,e2]
    ·rw [hE.old d (fun k ok _ hk _ hdk=>hex ⟨k,ok,hk,hdk⟩),hT.old d (fun k ok _ hk _ hdk=>hex ⟨k,ok,hk,hdk⟩)])
   have hput : EnvIs E ops vs A (fun j=>(listed.setIfInBounds i true).getD j false = true) ((D.put o.dst vi).withSt (if isW o.op then σ' else D.st)):=by
    have hp:=hE.put hD ho hEo hv
    have hiff : ∀ j,(listed.setIfInBounds i true).getD j false = true ↔ (listed.getD j false = true ∨ j = i):=fun j=>by
     by_cases hj : j = i
     ·subst hj
      have h3 : j < listed.size:=by omega
      simp [Array.getD,h3]
     ·rw [getD_set_ne false (Ne.symm hj)]; simp [hj]
    exact ⟨fun j oj d u hj=>hp.set j oj d u ((hiff j).1 hj),fun d hd=>hp.old d (fun j oj hj=>hd j oj ((hiff j).2 hj))⟩
   have hsz' : (listed.setIfInBounds i true).size = ops.size:=by simpa using hsz
   have hfuel' : (List.range ops.size).countP (fun j=>!(listed.setIfInBounds i true).getD j true) ≤ fuel:=by
    have:=countP_lt (l:=List.range ops.size) (p:=fun j=>!listed.getD j true) (q:=fun j=>!(listed.setIfInBounds i true).getD j true) (x:=i) (fun j _ hj=>by
     by_cases hji : j = i
     ·subst hji; simpa using h1
     ·rw [getD_set_ne true (Ne.symm hji)] at hj; exact hj) (List.mem_range.2 hilt) (by rw [h1]; rfl) (by
      have h3 : i < listed.size:=by omega
      simp [Array.getD,h3])
    omega
   have hclosed' : ∀ (j : Nat) (oj : Oper),ops[j]? = some oj → (listed.setIfInBounds i true).getD j true = true → ∀ e ∈ oj.after,Region.binds .any e = true → (listed.setIfInBounds i true).getD e.on false = true:=fun j oj hj hlj e he hb=>by
    by_cases hji : j = i
    ·subst hji
     rw [ho] at hj
     cases hj
     exact getD_set_true (h2 e he hb)
    ·rw [getD_set_ne true (Ne.symm hji)] at hlj
     exact getD_set_true (hclosed j oj hj hlj e he hb)
   have hS' : StIs E ops (A.st :: ss) (listed.setIfInBounds i true) (if isW o.op then σ' else D.st):=by
    have hset : ∀ j,(listed.setIfInBounds i true).getD j false = true ↔ (listed.getD j false = true ∨ j = i):=fun j=>by
     by_cases hj : j = i
     ·subst hj
      have h3 : j < listed.size:=by omega
      simp [Array.getD,h3]
     ·rw [getD_set_ne false (Ne.symm hj)]; simp [hj]
    cases hW : isW o.op with
    | false =>
     refine ⟨m,hm,by simpa using hms,fun j oj hj hEj hwj=>?_⟩
     have hji : j ≠ i:=fun e=>by subst e; rw [ho] at hj; cases hj; rw [hW] at hwj; cases hwj
     rw [hset]
     simp only [hji,or_false]
     exact hmw j oj hj hEj hwj
    | true =>
     refine ⟨i + 1,by omega,by simpa using hTs',fun j oj hj hEj hwj=>?_⟩
     rw [hset]
     by_cases hji : j = i
     ·subst hji; simp
     ·have:=(hpos (by simp [hW])).2 j oj hj hEj hwj hji
      simp only [hji,or_false,this]
      omega
   have hgo : ∀ w' C' a',RelA P W0 n w' C' ((D.put o.dst vi).withSt (if isW o.op then σ' else D.st)) a' → Step w C w' C' → wpAny P .any ops Qx fuel (listed.setIfInBounds i true) a' w':=fun w' C' a' hr' hs =>
    ih _ _ w' C' a' hsz' hfuel' hclosed' (fun j oj hj hEj=>(listed_set_f hil j).2 ⟨hEl j oj hj hEj,fun e=>by subst e; rw [ho] at hj; cases hj; rw [hEo] at hEj; cases hEj⟩) hput hS' hr' (fun B' C'' a'' w'' hKB hr'' hs''=>hq B' C'' a'' w'' hKB hr'' (hs.trans hs''))
   unfold wpOp
   rw [ho]
   simp only
   obtain ⟨hd,hstepD⟩:=hstepD
   have fin : isW o.op = false → ∀ x w',RelV P w' C vi x → Step w C w' C → StRel P W0 w' C D.st → wpAny P .any ops Qx fuel (listed.setIfInBounds i true) (a.put o.dst x) w':=fun hW x w' hv hs hst=>hgo w' C _ (by
    have:=put_step (o:=o) hr hd hs hst hv
    simpa [hW] using this) hs
   split at hstepD
   ·rename_i hg
    rw [if_pos (by simp [Region.wanted,hg])]
    left
    rcases hstepD with ⟨hW,_,hp⟩ | ⟨hW,hu,hp⟩
    ·exact hp.1 w C a (hr.toO o) _ _ (fin hW)
    ·rw [if_pos hW] at hp
     obtain ⟨w',r1,r2,r3⟩:=hp w C a (hr.toO o)
     refine skip_wp r1 (hgo w' C _ ?_ r2)
     rw [if_pos hW,hu]
     exact put_step (o:=o) hr hd r2 r3 (.undef _)
   ·rename_i j want hg
    obtain ⟨hW,_,G,u,g1,g2,g3⟩:=hstepD
    have hw:=gdOf_inv hr g1 hg
    rw [hw]
    cases G with
    | true =>
     rw [if_pos rfl]
     exact .inl ((g3 rfl).1 w C a (hr.toO o) _ _ fun x w' hv hs hst=>fin hW x w' (by rw [g2]; exact .maybe (fun _=>hv) (fun e=>by cases e)) hs hst)
    | false =>
     rw [if_neg (by simp)]
     refine hgo w C _ ?_ (.refl _ _)
     have e : (D.put o.dst vi).withSt D.st = D.put o.dst vi:=by cases o.dst <;> rfl
     have:=put_rel hr hd (v:=vi) (x:=undef) (by rw [g2]; exact .maybe (fun e=>by cases e) (fun _=>rfl))
     rw [← e] at this
     simpa [hW] using this

theorem VC.draws {id : Nat} {l : List Oper} {Q : Exit → AState → Prop} (hm : P.follows .mixedOrders = true) (hdep : depOk fz E l.toArray ac = true) (h : ∃ vs ss B,Seq P W0 n fz E l.toArray l A vs ss B ∧ eVC P W0 n fz (l.filter E) (Q .normal) B) : VC P W0 n (.region id l.toArray true) Q A:=fun w C a hr=>by
 obtain ⟨vs,ss,B,hseq,hB⟩:=h
 have hr' : RelA P W0 n w.drew C A a:=hr.step (Step.drew w C) hr.st.drew
 refine wp_region_any hm (any_order (K:=Q .normal) (depOk_inv hdep) (vs:=vs) (ss:=ss) (B:=B) (by simpa using hseq) (by simpa using hB) l.toArray.size _ A w.drew C a (by simp) ?_ ?_ ?_ ?_ ?_ hr' ?_)
 ·exact Nat.le_trans List.countP_le_length (by simp)
 ·intro i oi hi hl
  have hlt:=(Array.getElem?_eq_some_iff.1 hi).1
  exfalso
  simp [Array.getD] at hl
  simp at hlt
  exact absurd hl (by omega)
 ·intro i oi hi _
  simp [Array.getD]
 ·refine ⟨fun i o d v hi=>?_,fun _ _=>rfl⟩
  exfalso
  simp [Array.getD] at hi
 ·exact ⟨0,Nat.zero_le _,rfl,fun j oj _ _ _=>by simp [Array.getD]⟩
 ·intro B' C' a' w' hK hr' hs
  exact ⟨B',C',hK,hr',(Step.drew w C).trans hs⟩

end
end Go.Av
end
section
namespace Go.Av
open Go

def unm : AV → AV | .maybe _ v=>v | v=>v
def okM (gd : Option Bool) : AV → Prop | .maybe g _=>imp gd (g = true) | _=>True
def okM2 (gd : Option Bool) (b : Bool) : AV → Prop | .maybe g _=>imp gd (b = true → g = true) | _=>True
def isBl : AV → Prop | .bool _=>True | _=>False
def bl : AV → Bool | .bool b=>b | _=>false
def isI : AV → Prop | .int _ _=>True | _=>False
def iv : AV → Int | .int _ n=>n | _=>0

def pickV (b : Bool) (u v : AV) : AV:=pickAV b u v
def binV (P : Program) (op : BinOp) (t : TypeId) (u v : AV) : AV:=(abin P op t u v).getD .undef
def binC (P : Program) (op : BinOp) (t : TypeId) (u v : AV) : Prop:=(abin P op t u v).isSome = true
def unV (op : UnOp) (u : AV) : AV:=match op,u with | .not,.bool b=>.bool (!b) | .neg,.int k m=>.int k (k.wrap (-m)) | _,_=>.undef
def unC (op : UnOp) (u : AV) : Prop:=match op,u with | .not,.bool _=>True | .neg,.int _ _=>True | _,_=>False
def loadV (σ : Store) : AV → AV | .loc _ v=>v | .ptr _ id i path=>(look σ id i path).getD .undef | _=>.undef
def loadC (gd : Option Bool) (σ : Store) (t : TypeId) : AV → Prop | .loc t' _=>t' = t | .ptr t' id i path=>t' = t ∧ imp gd ((look σ id i path).isSome = true) | _=>False
def fieldV (P : Program) (s : TypeId) (k : Nat) : AV → AV
 | .loc _ (.agg _ fs)=>.loc ((((flds P s).getD [])[k]?).getD 0) (fs[k]?.getD .undef)
 | .ptr _ id i path=>.ptr ((((flds P s).getD [])[k]?).getD 0) id i (path ++ [k])
 | _=>.undef
def fieldC (P : Program) (s : TypeId) (k : Nat) : AV → Prop
 | .loc t (.agg t' fs)=>t = s ∧ t' = s ∧ isStruct P s = true ∧ (flds P s).isSome = true ∧ (((flds P s).getD [])[k]?).isSome = true ∧ fs[k]?.isSome = true
 | .ptr t _ _ _=>t = s ∧ isStruct P s = true ∧ (flds P s).isSome = true ∧ (((flds P s).getD [])[k]?).isSome = true
 | _=>False
def atV (xs : List AV) (i : Int) : AV:=xs[i.toNat]?.getD .undef
def indexAddrV (P : Program) (t : TypeId) (i : Int) : AV → AV
 | .ptr _ id j path=>.ptr ((arrT P t).getD 0) id j (path ++ [i.toNat])
 | .loc _ (.agg _ fs)=>.loc ((arrT P t).getD 0) (fs[i.toNat]?.getD .undef)
 | .row e id off _=>.ptr e id (off + i.toNat) []
 | .sl e xs=>.loc e (atV xs i)
 | .lit e xs=>.loc e (atV xs i)
 | .own e xs _=>.loc e (atV xs i)
 | _=>.undef
def indexAddrC (P : Program) (gd : Option Bool) (σ : Store) (t : TypeId) (i : Int) : AV → Prop
 | .ptr t' _ _ _=>t' = t ∧ (arrT P t).isSome = true ∧ (flds P t).isSome = true ∧ imp gd (0 ≤ i ∧ i.toNat < ((flds P t).getD []).length)
 | .loc t' (.agg t'' fs)=>t' = t ∧ t'' = t ∧ (arrT P t).isSome = true ∧ (flds P t).isSome = true ∧ imp gd (0 ≤ i ∧ i.toNat < fs.length)
 | .row e id _ m=>elT P t = some e ∧ 0 < szOf P e ∧ imp gd (0 ≤ i ∧ i.toNat < m) ∧ live σ id
 | .sl e xs=>elT P t = some e ∧ 0 < szOf P e ∧ imp gd (0 ≤ i ∧ i.toNat < xs.length)
 | .lit e xs=>elT P t = some e ∧ 0 < szOf P e ∧ imp gd (0 ≤ i ∧ i.toNat < xs.length)
 | .own e xs _=>elT P t = some e ∧ 0 < szOf P e ∧ imp gd (0 ≤ i ∧ i.toNat < xs.length)
 | _=>False
def indexV (i : Int) : AV → AV | .str l=>.int .u8 (l[i.toNat]?.getD 0).toNat | .agg _ fs=>fs[i.toNat]?.getD .undef | _=>.undef
def indexC (P : Program) (gd : Option Bool) (t : TypeId) (i : Int) : AV → Prop | .str l=>isStrT P t = true ∧ imp gd (0 ≤ i ∧ i.toNat < l.length) | .agg t' fs=>t' = t ∧ (arrT P t).isSome = true ∧ (flds P t).isSome = true ∧ imp gd (0 ≤ i ∧ i.toNat < fs.length) | _=>False
def extractV (k : Nat) : AV → AV | .tup as=>as[k]?.getD .undef | _=>.undef
def extractC (k : Nat) : AV → Prop | .tup as=>as[k]?.isSome = true | _=>False
def convertV (P : Program) (d : TypeId) : AV → AV | .int _ m=>(match intT P d with | some k'=>.int k' (k'.wrap m) | none=>.str (encL m)) | .str l=>.str l | .lit _ xs=>.str (xs.map unByte) | .sl _ xs=>.str (xs.map unByte) | .own _ xs _=>.str (xs.map unByte) | _=>.undef
def byC (P : Program) (s d e : TypeId) (xs : List AV) : Prop:=elT P s = some e ∧ intT P e = some .u8 ∧ szOf P e = 1 ∧ isStrT P d = true ∧ allByte xs
def convertC (P : Program) (s d : TypeId) : AV → Prop | .int _ _=>(intT P s).isSome = true ∧ ((intT P d).isSome || isStrT P d) = true | .str _=>isStrT P s = true ∧ isStrT P d = true | .lit e xs=>byC P s d e xs | .sl e xs=>byC P s d e xs | .own e xs _=>byC P s d e xs | _=>False
def bndV (A : AState) (d : Nat) : Option Operand → Nat | none=>d | some y=>(iv (unm (A.val y))).toNat
def bndC (gd : Option Bool) (A : AState) : Option Operand → Prop | none=>True | some y=>okM gd (A.val y) ∧ isI (unm (A.val y)) ∧ imp gd (0 ≤ iv (unm (A.val y)))
def sliceV (A : AState) (lo hi : Option Operand) : AV → AV
 | .row e id off m=>.row e id (off + bndV A 0 lo) (bndV A m hi - bndV A 0 lo)
 | .nils=>.nils
 | .str l=>.str (cutL l (bndV A 0 lo) (bndV A l.length hi))
 | .sl e xs=>.sl e (cutL xs (bndV A 0 lo) (bndV A xs.length hi))
 | .lit e xs=>.sl e (cutL xs (bndV A 0 lo) (bndV A xs.length hi))
 | .own e xs _=>.sl e (cutL xs (bndV A 0 lo) (bndV A xs.length hi))
 | _=>.undef
def cutC (gd : Option Bool) (A : AState) (lo hi : Option Operand) (m : Nat) : Prop:=bndC gd A lo ∧ bndC gd A hi ∧ imp gd (bndV A 0 lo ≤ bndV A m hi ∧ bndV A m hi ≤ m)
def sliceC (P : Program) (gd : Option Bool) (A : AState) (t : TypeId) (lo hi : Option Operand) : AV → Prop
 | .row e _ _ m=>elT P t = some e ∧ 0 < szOf P e ∧ cutC gd A lo hi m
 | .nils=>(elT P t).isSome = true ∧ 0 < szOf P ((elT P t).getD 0) ∧ bndC gd A lo ∧ bndC gd A hi ∧ imp gd (bndV A 0 lo = 0 ∧ bndV A 0 hi = 0)
 | .str l=>isStrT P t = true ∧ cutC gd A lo hi l.length
 | .sl e xs=>elT P t = some e ∧ 0 < szOf P e ∧ cutC gd A lo hi xs.length
 | .lit e xs=>elT P t = some e ∧ 0 < szOf P e ∧ cutC gd A lo hi xs.length
 | .own e xs _=>elT P t = some e ∧ 0 < szOf P e ∧ cutC gd A lo hi xs.length
 | _=>False
def partsV (A : AState) : List (Nat × Operand) → List (Nat × AV) | []=>[] | (i,x) :: r=>(i,unm (A.val x)) :: partsV A r
def partsC (gd : Option Bool) (A : AState) : List (Nat × Operand) → Prop | []=>True | (_,x) :: r=>okM gd (A.val x) ∧ partsC gd A r
def zeroFs (P : Program) (t : TypeId) : List AV:=match zeroOf P t with | some (.agg _ fs)=>fs | _=>[]
def zeroIs (P : Program) (t : TypeId) : Bool:=match zeroOf P t with | some (.agg t' _)=>t' == t | _=>false
def buildC (P : Program) (t : TypeId) (qs : List (Nat × AV)) : Prop:=(flds P t).isSome = true ∧ zeroIs P t = true ∧ partsFitB P ((flds P t).getD []) qs = true
def buildSliceC (P : Program) (t : TypeId) (m : Nat) (qs : List (Nat × AV)) : Prop:=match elT P t with
 | some e=>0 < szOf P e ∧ hasZero P e = true ∧ m * szOf P e ≤ 16777216 ∧ qs.map (·.1) = List.range' 0 m ∧ qs.all (fun p=>fitsB P e p.2) = true
 | none=>False
def lenV : AV → AV
 | .str l=>.int .i64 l.length
 | .sl _ xs=>.int .i64 xs.length
 | .lit _ xs=>.int .i64 xs.length
 | .own _ xs _=>.int .i64 xs.length
 | .nils=>.int .i64 0
 | .row _ _ _ n=>.int .i64 n
 | _=>.undef
def lenC (P : Program) (t : TypeId) : AV → Prop
 | .str _=>isStrT P t = true
 | .sl _ _=>(elT P t).isSome = true
 | .lit _ _=>(elT P t).isSome = true
 | .own _ _ _=>(elT P t).isSome = true
 | .nils=>(elT P t).isSome = true
 | .row _ _ _ _=>(elT P t).isSome = true
 | _=>False
def builtinV (b : Builtin) (us : List AV) : AV:=match b,us with
 | .len,[u]=>lenV u
 | .cap,[_]=>.int .i64 0
 | .max,[.int k p,.int _ q]=>.int k (maxI p q)
 | .min,[.int k p,.int _ q]=>.int k (minI p q)
 | _,_=>.undef
def builtinC (P : Program) (b : Builtin) (ts : List TypeId) (us : List AV) : Prop:=match b,us with
 | .len,[u]=>(match ts with | [t]=>lenC P t u | _=>False)
 | .cap,[u]=>(match ts with | [t]=>(match u with | .nils=>(elT P t).isSome = true | _=>False) | _=>False)
 | .max,[.int k _,.int k' _]=>k' = k
 | .min,[.int k _,.int k' _]=>k' = k
 | _,_=>False
def valsOf (A : AState) : List Operand → List AV | []=>[] | x :: r=>unm (A.val x) :: valsOf A r
def valsC (gd : Option Bool) (A : AState) : List Operand → Prop | []=>True | x :: r=>okM gd (A.val x) ∧ valsC gd A r

noncomputable def lookV (P : Program) (σ : Store) (t : TypeId) (k u : AV) : AV:=match mapT P t with | some (kt,vt)=>mget P ((mpAt σ kt u).getD []) k (zero1 P vt) | none=>.undef
def lookC (P : Program) (gd : Option Bool) (σ : Store) (t : TypeId) (k u : AV) : Prop:=match mapT P t with | some (kt,vt)=>hasZero P vt = true ∧ Maps.Keyed P kt ∧ imp gd (keyC P kt k) ∧ (mpAt σ kt u).isSome = true | none=>False

noncomputable def opV (P : Program) (gd : Option Bool) (A : AState) : Op → AV
 | .move x=>(match gd with | none=>A.val x | some _=>unm (A.val x))
 | .assign x=>(match gd with | none=>A.val x | some _=>unm (A.val x))
 | .pick c x y=>pickV (bl (unm (A.val c))) (unm (A.val x)) (unm (A.val y))
 | .binOp op t x y _=>binV P op t (unm (A.val x)) (unm (A.val y))
 | .unOp op _ x=>unV op (unm (A.val x))
 | .load _ x=>loadV A.st (unm (A.val x))
 | .fieldAddr s x k=>fieldV P s k (unm (A.val x))
 | .indexAddr t x ix=>indexAddrV P t (iv (unm (A.val ix))) (unm (A.val x))
 | .index _ x ix=>indexV (iv (unm (A.val ix))) (unm (A.val x))
 | .extract x k=>extractV k (unm (A.val x))
 | .nilCheck x=>unm (A.val x)
 | .convert _ d x=>convertV P d (unm (A.val x))
 | .makeFunc (.func f) _ caps=>.fn f (valsOf A caps.toList)
 | .slice _ x lo hi _=>sliceV A lo hi (unm (A.val x))
 | .build t ps=>.agg t (setAll (partsV A ps.toList) (zeroFs P t))
 | .buildSlice t _ ps=>.lit ((elT P t).getD 0) ((partsV A ps.toList).map (·.2))
 | .box t x=>.loc t (unm (A.val x))
 | .lookup t x ix false=>lookV P A.st t (unm (A.val ix)) (unm (A.val x))
 | .makeInterface t x=>.iface t (unm (A.val x))
 | .typeAssert x _ d ok=>assertV P d ok (unm (A.val x))
 | .call c=>(match c.callee with | .builtin b=>builtinV b (valsOf A c.args.toList) | _=>.undef)
 | _=>.undef

def opC (P : Program) (gd : Option Bool) (A : AState) : Op → Prop
 | .move x=>(match gd with | none=>True | some _=>okM gd (A.val x))
 | .assign x=>(match gd with | none=>True | some _=>okM gd (A.val x))
 | .pick c x y=>okM gd (A.val c) ∧ isBl (unm (A.val c)) ∧ okM2 gd (bl (unm (A.val c))) (A.val x) ∧ okM2 gd (!bl (unm (A.val c))) (A.val y)
 | .binOp op t x y _=>okM gd (A.val x) ∧ okM gd (A.val y) ∧ binC P op t (unm (A.val x)) (unm (A.val y))
 | .unOp op _ x=>okM gd (A.val x) ∧ unC op (unm (A.val x))
 | .load t x=>okM gd (A.val x) ∧ loadC gd A.st t (unm (A.val x))
 | .fieldAddr s x k=>okM gd (A.val x) ∧ fieldC P s k (unm (A.val x))
 | .indexAddr t x ix=>okM gd (A.val x) ∧ okM gd (A.val ix) ∧ isI (unm (A.val ix)) ∧ indexAddrC P gd A.st t (iv (unm (A.val ix))) (unm (A.val x))
 | .index t x ix=>okM gd (A.val x) ∧ okM gd (A.val ix) ∧ isI (unm (A.val ix)) ∧ indexC P gd t (iv (unm (A.val ix))) (unm (A.val x))
 | .extract x k=>okM gd (A.val x) ∧ extractC k (unm (A.val x))
 | .nilCheck x=>okM gd (A.val x) ∧ (unm (A.val x)).isPtr = true
 | .convert s d x=>okM gd (A.val x) ∧ convertC P s d (unm (A.val x))
 | .makeFunc (.func _) first caps=>first.toList = [] ∧ valsC gd A caps.toList ∧ (valsOf A caps.toList).all AV.isOne = true
 | .slice t x lo hi mx=>mx = none ∧ okM gd (A.val x) ∧ sliceC P gd A t lo hi (unm (A.val x))
 | .build t ps=>partsC gd A ps.toList ∧ buildC P t (partsV A ps.toList)
 | .buildSlice t m ps=>partsC gd A ps.toList ∧ buildSliceC P t m (partsV A ps.toList)
 | .box t x=>okM gd (A.val x) ∧ fitsB P t (unm (A.val x)) = true
 | .lookup t x ix false=>okM gd (A.val x) ∧ okM gd (A.val ix) ∧ lookC P gd A.st t (unm (A.val ix)) (unm (A.val x))
 | .makeInterface t x=>okM gd (A.val x) ∧ concT P t = true ∧ (unm (A.val x)).isOne = true
 | .typeAssert x _ d ok=>okM gd (A.val x) ∧ assertC P d ok (unm (A.val x))
 | .call c=>(match c.callee with | .builtin b=>valsC gd A c.args.toList ∧ builtinC P b c.argTypes.toList (valsOf A c.args.toList) | _=>False)
 | _=>False

section
variable {P : Program} {W0 : World} {σ : Store} {n : Nat} {A : AState} {gd : Option Bool} {K : AV → Prop}

theorem strip_of {x : AV} {k : AV → Prop} (h1 : okM gd x) (h2 : k (unm x)) : strip gd x k:=by cases x <;> first | exact ⟨h1,h2⟩ | exact h2
theorem strip2_of {b : Bool} {x : AV} {k : AV → Prop} (h1 : okM2 gd b x) (h2 : k (unm x)) : strip2 gd b x k:=by cases x <;> first | exact ⟨h1,h2⟩ | exact h2
theorem stripL_of : ∀ {xs : List Operand} {k : List AV → Prop},valsC gd A xs → k (valsOf A xs) → stripL gd (xs.map A.val) k
 | [],_,_,h=>h
 | _ :: _,_,h1,h2=>strip_of h1.1 (stripL_of h1.2 h2)
theorem partsVC_of : ∀ {ps : List (Nat × Operand)} {k : List (Nat × AV) → Prop},partsC gd A ps → k (partsV A ps) → partsVC gd A ps k
 | [],_,_,h=>h
 | (_,_) :: _,_,h1,h2=>strip_of h1.1 (partsVC_of h1.2 h2)
theorem isI_eq {v : AV} (h : isI v) : ∃ k,v = .int k (iv v):=by cases v <;> first | exact ⟨_,rfl⟩ | exact h.elim
theorem isBl_eq {v : AV} (h : isBl v) : v = .bool (bl v):=by cases v <;> first | rfl | exact h.elim

theorem bndVC_of {x : Option Operand} {d : Nat} {k : Nat → Prop} (h1 : bndC gd A x) (h2 : k (bndV A d x)) : bndVC gd A x d k:=by
 cases x with
 | none=>exact h2
 | some y =>
  obtain ⟨h3,h4,h5⟩:=h1
  refine strip_of h3 ?_
  obtain ⟨kk,hk⟩:=isI_eq h4
  rw [hk]
  exact ⟨h5,h2⟩

theorem cut_of {lo hi : Option Operand} {m : Nat} {k : Nat → Nat → Prop} (h : cutC gd A lo hi m) (hk : k (bndV A 0 lo) (bndV A m hi)) : bndVC gd A lo 0 fun p=>bndVC gd A hi m fun q=>imp gd (p ≤ q ∧ q ≤ m) ∧ k p q :=
 bndVC_of h.1 (bndVC_of h.2.1 ⟨h.2.2,hk⟩)

theorem cut_of0 {lo hi : Option Operand} {k : Nat → Nat → Prop} (h : bndC gd A lo ∧ bndC gd A hi ∧ imp gd (bndV A 0 lo = 0 ∧ bndV A 0 hi = 0)) (hk : k (bndV A 0 lo) (bndV A 0 hi)) : bndVC gd A lo 0 fun p=>bndVC gd A hi 0 fun q=>imp gd (p = 0 ∧ q = 0) ∧ k p q :=
 bndVC_of h.1 (bndVC_of h.2.1 ⟨h.2.2,hk⟩)

theorem sliceVC_of {t : TypeId} {u : AV} {lo hi : Option Operand} (h1 : sliceC P gd A t lo hi u) (h2 : K (sliceV A lo hi u)) : sliceVC P gd A t u lo hi K:=by
 unfold sliceC at h1
 split at h1
 ·exact ⟨⟨h1.1,h1.2.1⟩,cut_of (k:=fun p q=>K (.row _ _ (_ + p) (q - p))) h1.2.2 h2⟩
 ·obtain ⟨h3,h4,h5⟩:=h1
  obtain ⟨e,he⟩:=Option.isSome_iff_exists.1 h3
  rw [he] at h4
  show (match elT P t with | some e=>0 < szOf P e ∧ bndVC gd A lo 0 fun p=>bndVC gd A hi 0 fun q=>imp gd (p = 0 ∧ q = 0) ∧ K .nils | none=>False)
  rw [he]
  exact ⟨h4,cut_of0 (k:=fun _ _=>K .nils) h5 h2⟩
 ·exact ⟨h1.1,cut_of (k:=fun p q=>K (.str (cutL _ p q))) h1.2 h2⟩
 ·exact ⟨⟨h1.1,h1.2.1⟩,cut_of (k:=fun p q=>K (.sl _ (cutL _ p q))) h1.2.2 h2⟩
 ·exact ⟨⟨h1.1,h1.2.1⟩,cut_of (k:=fun p q=>K (.sl _ (cutL _ p q))) h1.2.2 h2⟩
 ·exact ⟨⟨h1.1,h1.2.1⟩,cut_of (k:=fun p q=>K (.sl _ (cutL _ p q))) h1.2.2 h2⟩
 ·exact h1.elim

theorem valVC_of {op : Op} (h1 : opC P gd A op) (h2 : K (opV P gd A op)) : valVC P W0 gd op A K:=by
 cases op
 case move x=>cases gd <;> first | exact h2 | exact strip_of h1 h2
 case assign x=>cases gd <;> first | exact h2 | exact strip_of h1 h2
 case pick c x y =>
  obtain ⟨g1,g2,g3,g4⟩:=h1
  refine strip_of g1 ?_
  rw [isBl_eq g2]
  exact strip2_of g3 (strip2_of g4 h2)
 case binOp op t x y _ =>
  obtain ⟨g1,g2,g3⟩:=h1
  refine strip_of g1 (strip_of g2 ?_)
  obtain ⟨z,hz⟩:=Option.isSome_iff_exists.1 g3
  simp only [opV,binV,hz,Option.getD_some] at h2
  simp only [binVC,hz]
  exact h2
 case unOp op _ x =>
  refine strip_of h1.1 ?_
  have h3:=h1.2
  simp only [opV] at h2
  revert h2 h3
  generalize unm (A.val x) = u
  intro h2 h3
  cases op <;> cases u <;> first | exact h2 | exact h3.elim
 case load t x =>
  refine strip_of h1.1 ?_
  have h3:=h1.2
  simp only [opV] at h2
  revert h2 h3
  generalize unm (A.val x) = u
  intro h2 h3
  cases u <;> first | exact h3.elim | skip
  ·exact ⟨h3,h2⟩
  ·simp only [loadC] at h3
   refine ⟨h3.1,?_⟩
   simp only [loadV] at h2
   split
   ·rename_i z hz
    rw [hz] at h2
    exact h2
   ·rename_i hz
    rw [hz] at h2
    exact ⟨h3.2.map (fun h=>by rw [hz] at h; cases h),h2⟩
 case fieldAddr s x k =>
  refine strip_of h1.1 ?_
  have h3:=h1.2
  simp only [opV] at h2
  revert h2 h3
  generalize unm (A.val x) = u
  intro h2 h3
  cases u <;> first | exact h3.elim | skip
  ·rename_i t v
   cases v <;> first | exact h3.elim | skip
   simp only [fieldC] at h3
   obtain ⟨e1,e2,e3,e4,e5,e6⟩:=h3
   obtain ⟨ts,hts⟩:=Option.isSome_iff_exists.1 e4
   simp only [hts,Option.getD_some] at e5
   obtain ⟨ty,hty⟩:=Option.isSome_iff_exists.1 e5
   obtain ⟨y,hy⟩:=Option.isSome_iff_exists.1 e6
   simp only [fieldV,hts,Option.getD_some,hty,hy] at h2
   simp only [fieldVC,hts,hty,hy]
   exact ⟨⟨e1,e2,e3⟩,h2⟩
  ·simp only [fieldC] at h3
   obtain ⟨e1,e3,e4,e5⟩:=h3
   obtain ⟨ts,hts⟩:=Option.isSome_iff_exists.1 e4
   simp only [hts,Option.getD_some] at e5
   obtain ⟨ty,hty⟩:=Option.isSome_iff_exists.1 e5
   simp only [fieldV,hts,Option.getD_some,hty] at h2
   simp only [fieldVC,hts,hty]
   exact ⟨⟨e1,e3⟩,h2⟩
 case indexAddr t x ix =>
  obtain ⟨g1,g2,g3,h3⟩:=h1
  refine strip_of g1 (strip_of g2 ?_)
  obtain ⟨kk,hk⟩:=isI_eq g3
  rw [hk]
  simp only [opV] at h2
  revert h2 h3
  generalize unm (A.val x) = u
  intro h2 h3
  cases u <;> first | exact h3.elim | skip
  ·exact ⟨⟨h3.1,h3.2.1⟩,h3.2.2,h2⟩
  ·exact ⟨⟨h3.1,h3.2.1⟩,h3.2.2,h2⟩
  ·exact ⟨⟨h3.1,h3.2.1⟩,h3.2.2,h2⟩
  ·exact ⟨⟨h3.1,h3.2.1⟩,h3.2.2.1,h3.2.2.2,h2⟩
  ·rename_i t' v
   cases v <;> first | exact h3.elim | skip
   exact ⟨⟨h3.1,h3.2.1,h3.2.2.1,h3.2.2.2.1⟩,h3.2.2.2.2,h2⟩
  ·obtain ⟨e1,e2,e3,e4⟩:=h3
   obtain ⟨ts,hts⟩:=Option.isSome_iff_exists.1 e3
   simp only [hts,Option.getD_some] at e4
   simp only [indexAddrVC,hts]
   exact ⟨⟨e1,e2⟩,e4,h2⟩
 case index t x ix =>
  obtain ⟨g1,g2,g3,h3⟩:=h1
  refine strip_of g1 (strip_of g2 ?_)
  obtain ⟨kk,hk⟩:=isI_eq g3
  rw [hk]
  simp only [opV] at h2
  revert h2 h3
  generalize unm (A.val x) = u
  intro h2 h3
  cases u <;> first | exact h3.elim | skip
  ·exact ⟨h3.1,h3.2,h2⟩
  ·exact ⟨⟨h3.1,h3.2.1,h3.2.2.1⟩,h3.2.2.2,h2⟩
 case extract x k =>
  refine strip_of h1.1 ?_
  have h3:=h1.2
  simp only [opV] at h2
  revert h2 h3
  generalize unm (A.val x) = u
  intro h2 h3
  cases u <;> first | exact h3.elim | skip
  simp only [extractC] at h3
  obtain ⟨z,hz⟩:=Option.isSome_iff_exists.1 h3
  simp only [extractV,hz,Option.getD_some] at h2
  simp only [extractVC,hz]
  exact h2
 case nilCheck x=>exact strip_of h1.1 ⟨h1.2,h2⟩
 case makeInterface t x=>exact strip_of h1.1 ⟨h1.2,h2⟩
 case typeAssert x xt d ok=>exact strip_of h1.1 ⟨h1.2,h2⟩
 case convert s d x =>
  refine strip_of h1.1 ?_
  have h3:=h1.2
  simp only [opV] at h2
  revert h2 h3
  generalize unm (A.val x) = u
  intro h2 h3
  cases u <;> first | exact h3.elim | skip
  ·simp only [convertC] at h3
   obtain ⟨z,hz⟩:=Option.isSome_iff_exists.1 h3.1
   cases hz' : intT P d with
   | some z' =>
    simp only [convertV,hz'] at h2
    simp only [convertVC,hz,hz']
    exact h2
   | none =>
    have h4:=h3.2
    simp only [hz',Option.isSome_none,Bool.false_or] at h4
    simp only [convertV,hz'] at h2
    simp only [convertVC,hz,hz']
    exact ⟨h4,h2⟩
  all_goals exact ⟨h3,h2⟩
 case makeFunc fn first caps =>
  cases fn <;> first | exact h1.elim | skip
  exact ⟨h1.1,stripL_of h1.2.1 ⟨h1.2.2,h2⟩⟩
 case slice t x lo hi mx=>exact ⟨h1.1,strip_of h1.2.1 (sliceVC_of h1.2.2 h2)⟩
 case build t ps =>
  refine partsVC_of h1.1 ?_
  obtain ⟨g1,g2',g4⟩:=h1.2
  have ⟨fs,g2⟩ : ∃ fs,zeroOf P t = some (.agg t fs):=by
   unfold zeroIs at g2'
   split at g2'
   ·rename_i t' fs hz; simp only [beq_iff_eq] at g2'; subst g2'; exact ⟨fs,hz⟩
   ·cases g2'
  obtain ⟨ts,hts⟩:=Option.isSome_iff_exists.1 g1
  simp only [hts,Option.getD_some] at g4
  simp only [opV,zeroFs,g2] at h2
  simp only [buildVC,hts,g2]
  exact ⟨⟨trivial,g4⟩,h2⟩
 case buildSlice t m ps =>
  refine partsVC_of h1.1 ?_
  have h3:=h1.2
  unfold buildSliceC at h3
  split at h3
  ·rename_i e he
   simp only [opV,he,Option.getD_some] at h2
   simp only [buildSliceVC,he]
   exact ⟨h3,h2⟩
  ·exact h3.elim
 case box t x=>exact strip_of h1.1 ⟨h1.2,h2⟩
 case lookup t x ix c =>
  cases c
  case true=>exact h1.elim
  refine strip_of h1.1 (strip_of h1.2.1 ?_)
  have h3:=h1.2.2
  unfold lookC at h3
  simp only [opV,lookV] at h2
  unfold lookVC
  split at h3
  ·rename_i kt vt ht
   rw [ht] at h2
   simp only at h2
   obtain ⟨l,hl⟩:=Option.isSome_iff_exists.1 h3.2.2.2
   rw [hl] at h2
   simp only [ht,hl]
   exact ⟨h3.1,h3.2.1,h3.2.2.1,h2⟩
  ·exact h3.elim
 case call c =>
  obtain ⟨callee,args,argTypes⟩:=c
  cases callee <;> first | exact h1.elim | skip
  rename_i b
  refine stripL_of h1.1 ?_
  have h3:=h1.2
  simp only [opV] at h2
  revert h2 h3
  generalize valsOf A args.toList = us
  intro h2 h3
  unfold builtinC at h3
  unfold builtinVC
  split at h3
  ·rename_i u
   split at h3
   ·rename_i t ht
    simp only at ht
    simp only [ht]
    simp only [builtinV] at h2
    cases u <;> first | exact h3.elim | exact ⟨h3,fun _=>h2⟩
   ·exact h3.elim
  ·rename_i u
   split at h3
   ·rename_i t ht
    simp only at ht
    simp only [ht]
    simp only [builtinV] at h2
    cases u <;> first | exact h3.elim | exact ⟨h3,h2⟩
   ·exact h3.elim
  ·exact ⟨h3,h2⟩
  ·exact ⟨h3,h2⟩
  ·exact h3.elim
 all_goals exact h1.elim

end
end Go.Av
end
section
namespace Go.Av
open Go

def dstAt (ops : Array Oper) (j : Nat) : Option Nat:=(ops[j]?).bind (·.dst)
def wrapG (gd : Option Bool) (v : AV) : AV:=match gd with | none=>v | some G=>.maybe G v
def gdV (want : Bool) : AV → Bool | .bool b=>b == want | .maybe g (.bool b)=>g && (b == want) | _=>false
def gdC : AV → Prop | .bool _=>True | .maybe _ (.bool _)=>True | .maybe g _=>g = false | _=>False

inductive Tag {α : Type} (x : α) : Type | mk : Tag x

def CallP (P : Program) (W0 : World) (gd : Option Bool) (so : Option Store) (f : AV) (us : List AV) (dst : Option Nat) (A : AState) (k : AState → Prop) (_ : Tag k) : Prop:=callVC P W0 gd so f us fun r=>k (A.put dst (wrapG gd r))

def CallA (P : Program) (W0 : World) (f : AV) (us : List AV) (dst : Option Nat) (A : AState) (k : AState → Prop) (_ : Tag k) : Prop :=
 match f with
 | .fn g caps=>ACall P W0 g (us ++ caps) A.st fun r σ'=>k ((A.put dst r).withSt σ')
 | _=>False

def AppA (P : Program) (ts : List TypeId) (us : List AV) (dst : Option Nat) (A : AState) (k : AState → Prop) (_ : Tag k) : Prop :=
 match us with
 | [x,y]=>(appendVC P A.st ts x y fun v σ'=>k ((A.put dst v).withSt σ')) ∨ (appendRowVC P A.st ts x y fun v σ'=>k ((A.put dst v).withSt σ')) ∨ (appendZeroVC P A.st ts x y fun v σ'=>k ((A.put dst v).withSt σ')) ∨ appendInVC P A.st ts x y (fun v σ'=>k ((A.put dst v).withSt σ')) ∨ appendKeepVC P A.st ts x y (fun v σ'=>k ((A.put dst v).withSt σ')) ∨ appendStrVC P A.st ts x y fun v σ'=>k ((A.put dst v).withSt σ')
 | _=>False

def ClearA (P : Program) (ts : List TypeId) (us : List AV) (dst : Option Nat) (A : AState) (k : AState → Prop) (_ : Tag k) : Prop :=
 match us with
 | [x]=>clearVC P A.st ts x fun σ'=>k ((A.put dst (.tup [])).withSt σ')
 | _=>False

def PutA (P : Program) (t : TypeId) (u ix v : AV) (A : AState) (k : AState → Prop) (_ : Tag k) : Prop:=putVC P A.st t u ix v fun σ'=>k (A.withSt σ')

def ovM (fz : List Nat) : Option Nat → Bool | some d=>fz.contains (5000000 + d) | none=>false
def RoomFor (σ : Store) (id m : Nat) : Prop:=∃ te zs,σ[id]? = some (some (.cells te zs)) ∧ m ≤ zs.length
def overC (P : Program) (A : AState) (t : TypeId) (lo hi mx : Option Operand) : AV → Prop
 | .row e id off m=>elT P t = some e ∧ 0 < szOf P e ∧ bndC none A lo ∧ bndC none A hi ∧ bndV A 0 lo ≤ bndV A m hi ∧ (match mx with
  | none=>RoomFor A.st id (off + bndV A m hi)
  | some _=>lo.isSome = true ∧ hi.isSome = true ∧ bndC none A mx ∧ bndV A m hi ≤ bndV A m mx ∧ bndV A m mx ≤ m)
 | _=>False
def overV (A : AState) (lo hi mx : Option Operand) : AV → AV
 | .row e id off m=>(match mx with | none=>.row e id (off + bndV A 0 lo) (bndV A m hi - bndV A 0 lo) | some _=>.undef)
 | _=>.undef
theorem overVC_of {P : Program} {A : AState} {t : TypeId} {lo hi mx : Option Operand} {u : AV} {K : AV → Prop} (h1 : overC P A t lo hi mx u) (h2 : K (overV A lo hi mx u)) : overVC P A t u lo hi mx K:=by
 unfold overC at h1
 split at h1
 ·obtain ⟨g1,g2,g3,g4,g5,g6⟩:=h1
  refine ⟨⟨g1,g2⟩,?_⟩
  cases mx with
  | none =>
   obtain ⟨te,zs,e1,e2⟩:=g6
   exact bndVC_of g3 (bndVC_of g4 ⟨⟨g5,te,zs,e1,e2⟩,h2⟩)
  | some y=>exact ⟨⟨g6.1,g6.2.1⟩,bndVC_of g3 (bndVC_of g4 (bndVC_of g6.2.2.1 ⟨⟨g5,g6.2.2.2.1,g6.2.2.2.2⟩,h2⟩))⟩
 ·exact h1.elim

def ConvA (P : Program) (s d : TypeId) (u : AV) (dst : Option Nat) (A : AState) (k : AState → Prop) (_ : Tag k) : Prop:=bytesVC P A.st s d u fun v σ'=>k ((A.put dst v).withSt σ')
def MakeA (P : Program) (t : TypeId) (u v : AV) (dst : Option Nat) (A : AState) (k : AState → Prop) (_ : Tag k) : Prop:=makeVC P A t u v fun r σ'=>k ((A.put dst r).withSt σ')

def setLook (σ : Store) (id i : Nat) (path : List Nat) (v : AV) : Store :=
 match σ[id]? with
 | some (some (.cells te xs))=>σ.set id (some (.cells te (xs.set i ((xs[i]?.getD .undef).setAt path v))))
 | _=>σ

def StoreA (P : Program) (fz : List Nat) (t : TypeId) (x : Operand) (v : AV) (A : AState) (k : AState → Prop) (_ : Tag k) : AV → Prop
 | .ptr t' id i path=>t' = t ∧ fitsB P t v = true ∧ (look A.st id i path).isSome = true ∧ (match x with
  | .tmp d=>if fz.contains d then path = [] ∧ k ((A.upd d (.loc t v)).withSt (A.st.set id none)) else k (A.withSt (setLook A.st id i path v))
  | _=>False)
 | _=>False

def NextA (id : Nat) (dst : Option Nat) (A : AState) (k : AState → Prop) : Option (Option SObj) → Prop
 | some (some (.iter l pos))=>(pos < l.length → k ((A.put dst (.tup [.bool true,.int .i64 pos,.int .i32 (decAt l pos).1])).withSt (A.st.set id (some (.iter l (pos + (decAt l pos).2)))))) ∧ (l.length ≤ pos → k (A.put dst (.tup [.bool false])))
 | _=>False
def RangeA (P : Program) (t : TypeId) (dst : Option Nat) (A : AState) (k : AState → Prop) : AV → Prop
 | .str l=>isStrT P t = true ∧ k ((A.put dst (.it A.st.length)).withSt (A.st ++ [some (.iter l 0)]))
 | _=>False
def NextV (dst : Option Nat) (A : AState) (k : AState → Prop) : AV → Prop
 | .it id=>NextA id dst A k A.st[id]?
 | _=>False

def vop (P : Program) (W0 : World) (gd : Option Bool) (so : Option Store) (dst : Option Nat) (A : AState) (k : AState → Prop) : Op → Prop
 | .call c=>(match c.callee with
  | .value f=>okM gd (A.val f) ∧ valsC gd A c.args.toList ∧ CallP P W0 gd so (unm (A.val f)) (valsOf A c.args.toList) dst A k .mk
  | _=>imp gd (opC P gd A (.call c)) ∧ k (A.put dst (wrapG gd (opV P gd A (.call c)))))
 | op=>imp gd (opC P gd A op) ∧ k (A.put dst (wrapG gd (opV P gd A op)))

def op2 (P : Program) (W0 : World) (fz : List Nat) (dst : Option Nat) (A : AState) (k : AState → Prop) : Op → Prop
 | .call c=>(match c.callee with
  | .value f=>okM none (A.val f) ∧ valsC none A c.args.toList ∧ CallA P W0 (unm (A.val f)) (valsOf A c.args.toList) dst A k .mk
  | .builtin .append=>valsC none A c.args.toList ∧ AppA P c.argTypes.toList (valsOf A c.args.toList) dst A k .mk
  | .builtin .clear=>valsC none A c.args.toList ∧ ClearA P c.argTypes.toList (valsOf A c.args.toList) dst A k .mk
  | _=>vop P W0 none (some A.st) dst A k (.call c))
 | .box t x=>(match dst with
  | some d=>if fz.contains d then vop P W0 none (some A.st) dst A k (.box t x)
   else okM none (A.val x) ∧ fitsB P t (unm (A.val x)) = true ∧ k ((A.upd d (.ptr t A.st.length 0 [])).withSt (A.st ++ [some (.cells t [unm (A.val x)])]))
  | none=>False)
 | .alloc t=>(zeroOf P t).isSome = true ∧ k ((A.put dst (.ptr t A.st.length 0 [])).withSt (A.st ++ [some (.cells t [(zeroOf P t).getD .undef])]))
 | .makeSlice t x y=>okM none (A.val x) ∧ okM none (A.val y) ∧ MakeA P t (unm (A.val x)) (unm (A.val y)) dst A k .mk
 | .store t x y=>okM none (A.val x) ∧ okM none (A.val y) ∧ StoreA P fz t x (unm (A.val y)) A (fun A'=>k (A'.put dst .undef)) .mk (unm (A.val x))
 | .range t x=>okM none (A.val x) ∧ RangeA P t dst A k (unm (A.val x))
 | .next x true=>okM none (A.val x) ∧ NextV dst A k (unm (A.val x))
 | .slice t x lo hi mx=>if ovM fz dst then okM none (A.val x) ∧ overC P A t lo hi mx (unm (A.val x)) ∧ k (A.put dst (overV A lo hi mx (unm (A.val x)))) else vop P W0 none (some A.st) dst A k (.slice t x lo hi mx)
 | .convert s d x=>if ovM fz dst then okM none (A.val x) ∧ ConvA P s d (unm (A.val x)) dst A k .mk else vop P W0 none (some A.st) dst A k (.convert s d x)
 | .buildSlice t m ps=>if ovM fz dst then partsC none A ps.toList ∧ buildSliceC P t m (partsV A ps.toList) ∧ k ((A.put dst (.row ((elT P t).getD 0) A.st.length 0 m)).withSt (A.st ++ [some (.cells ((elT P t).getD 0) ((partsV A ps.toList).map (·.2)))])) else vop P W0 none (some A.st) dst A k (.buildSlice t m ps)
 | .makeMap t none=>(mapT P t).isSome = true ∧ k ((A.put dst (.mp A.st.length)).withSt (A.st ++ [some (.mp ((mapT P t).getD (0,0)).1 [])]))
 | .mapUpdate t x ix y=>okM none (A.val x) ∧ okM none (A.val ix) ∧ okM none (A.val y) ∧ PutA P t (unm (A.val x)) (unm (A.val ix)) (unm (A.val y)) A (fun A'=>k (A'.put dst .undef)) .mk
 | op=>vop P W0 none (some A.st) dst A k op

def yldsL (fz : List Nat) : List Oper → List Nat
 | []=>[]
 | o :: r=>(match o.op with
  | .load _ (.tmp d)=>if fz.contains (6000000 + d) then [d] else []
  | _=>[]) ++ yldsL fz r
def ylds (fz : List Nat) (l : List Oper) : List Nat:=if fz.all (fun x=>decide (x < 6000000)) then [] else yldsL fz l
def yld1 (A : AState) (d : Nat) : AState:=match A.env d with
 | .ptr t id 0 []=>(match A.st[id]? with
  | some (some (.cells te [z]))=>if te = t then (A.upd d (.loc t z)).withSt (A.st.set id none) else A
  | _=>A)
 | _=>A
def YldA : List Nat → AState → (AState → Prop) → Prop
 | [],A,k=>k A
 | d :: r,A,k=>YldA r (yld1 A d) k
def DepOk (fz : List Nat) (id : Nat) (ops : Array Oper) (_ : Tag ops) : Prop:=depOk fz (eM fz id) ops (mkAnc [] ops.toList) = true

def owr (fz : List Nat) (dst : Option Nat) (op : Op) : List Nat:=match op with
 | .load _ (.tmp d)=>if fz.contains (6000000 + d) then d :: dst.toList else dst.toList
 | .store _ (.tmp d) _=>if fz.contains d then d :: dst.toList else dst.toList
 | _=>dst.toList

def dsts (fz : List Nat) : Code → List Nat
 | .region _ ops _=>ops.toList.flatMap fun o=>owr fz o.dst o.op
 | .seq x y=>dsts fz x ++ dsts fz y
 | .cond _ x y=>dsts fz x ++ dsts fz y
 | .block _ c=>dsts fz c
 | .loop c=>dsts fz c
 | _=>[]

def Agree (ws : List Nat) (A B : AState) : Prop:=∀ i,i ∉ ws → B.env i = A.env i

def LoopVC (P : Program) (W0 : World) (n : Nat) (fz : List Nat) (c : Code) (_ : Tag c) (Q : Exit → AState → Prop) (_ : Tag Q) (A : AState) : Prop:=VC P W0 n (.loop c) (fun e A'=>Q e A' ∧ Agree (dsts fz c) A A') A

def gop (P : Program) (W0 : World) (G : Bool) (dst : Option Nat) (A : AState) (k : AState → Prop) : Op → Prop
 | .call c=>(match c.callee with
  | .value f=>okM (some G) (A.val f) ∧ valsC (some G) A c.args.toList ∧ (G = true → CallA P W0 (unm (A.val f)) (valsOf A c.args.toList) dst A k .mk) ∧ (G = false → ∃ v,k (A.put dst (.maybe false v)))
  | .builtin .append=>valsC (some G) A c.args.toList ∧ (G = true → AppA P c.argTypes.toList (valsOf A c.args.toList) dst A k .mk) ∧ (G = false → ∃ v,k (A.put dst (.maybe false v)))
  | _=>False)
 | _=>False

def ops2 (P : Program) (W0 : World) (n : Nat) (fz : List Nat) (ops : Array Oper) : List Oper → (AState → Prop) → AState → Prop
 | [],K,A=>K A
 | o :: r,K,A=>dstOk n o.dst ∧ (match o.guard with
  | none=>op2 P W0 fz o.dst A (fun A'=>ops2 P W0 n fz ops r K A') o.op
  | some (j,want)=>(match dstAt ops j with
   | some d=>gdC (A.env d) ∧ (if effM fz o.dst then gop P W0 (gdV want (A.env d)) o.dst A (fun A'=>ops2 P W0 n fz ops r K A') o.op else vop P W0 (some (gdV want (A.env d))) (some A.st) o.dst A (fun A'=>ops2 P W0 n fz ops r K A') o.op)
   | none=>False))

def isLocB : AV → Bool | .loc _ _=>true | _=>false
def locOk (fz : List Nat) (A : AState) : Operand → Prop
 | .tmp d=>(fz.contains d || fz.contains (6000000 + d)) = true → isLocB (unm (A.env d)) = true
 | _=>True

def dop (P : Program) (W0 : World) (fz : List Nat) (gd : Option Bool) (dst : Option Nat) (A : AState) (k : AState → Prop) : Op → Prop
 | .store t x y=>gd = none ∧ okM none (A.val x) ∧ okM none (A.val y) ∧ StoreA P [] t x (unm (A.val y)) A (fun A'=>k (A'.put dst .undef)) .mk (unm (A.val x))
 | .load t x=>locOk fz A x ∧ vop P W0 gd none dst A k (.load t x)
 | .call c=>vop P W0 gd (if rdM fz dst then some A.st else none) dst A k (.call c)
 | op=>vop P W0 gd none dst A k op

def draws2 (P : Program) (W0 : World) (n : Nat) (fz : List Nat) (id : Nat) (ops : Array Oper) : List Oper → (AState → Prop) → AState → Prop
 | [],K,A=>K A
 | o :: r,K,A=>if eM fz id o then draws2 P W0 n fz id ops r K A else dstOk n o.dst ∧ (match o.guard with
  | none=>dop P W0 fz none o.dst A (fun A'=>draws2 P W0 n fz id ops r K A') o.op
  | some (j,want)=>(match dstAt ops j with
   | some d=>gdC (A.env d) ∧ dop P W0 fz (some (gdV want (A.env d))) o.dst A (fun A'=>draws2 P W0 n fz id ops r K A') o.op
   | none=>False))

def notFz (fz : List Nat) : Operand → Prop
 | .tmp d=>fz.contains d = false
 | _=>True

def eop (P : Program) (W0 : World) (fz : List Nat) (dst : Option Nat) (A : AState) (k : AState → Prop) : Op → Prop
 | .store t x y=>notFz fz x ∧ okM none (A.val x) ∧ okM none (A.val y) ∧ StoreA P fz t x (unm (A.val y)) A (fun A'=>k (A'.put dst .undef)) .mk (unm (A.val x))
 | op=>op2 P W0 fz dst A k op

def eops (P : Program) (W0 : World) (n : Nat) (fz : List Nat) (id : Nat) : List Oper → (AState → Prop) → AState → Prop
 | [],K,A=>K A
 | o :: r,K,A=>if eM fz id o then dstOk n o.dst ∧ eop P W0 fz o.dst A (fun A'=>eops P W0 n fz id r K A') o.op else eops P W0 n fz id r K A

def eopsIf (P : Program) (W0 : World) (n : Nat) (fz : List Nat) (id : Nat) (l : List Oper) (K : AState → Prop) (A : AState) : Prop :=
 if fz.all (fun x=>decide (x < 2000000)) then K A else eops P W0 n fz id l K A

def cVC (P : Program) (W0 : World) (n : Nat) (fz : List Nat) : Code → (Exit → AState → Prop) → AState → Prop
 | .skip,Q,A=>Q .normal A
 | .ret,Q,A=>Q .ret A
 | .exit id,Q,A=>Q (.exit id) A
 | .seq x y,Q,A=>cVC P W0 n fz x (thenQ (cVC P W0 n fz y Q) Q) A
 | .cond c x y,Q,A=>okM none (A.val c) ∧ isBl (unm (A.val c)) ∧ (bl (unm (A.val c)) = true → cVC P W0 n fz x Q A) ∧ (bl (unm (A.val c)) = false → cVC P W0 n fz y Q A)
 | .block id c,Q,A=>cVC P W0 n fz c (blockQ id Q) A
 | .region id ops true,Q,A=>P.follows .mixedOrders = true ∧ DepOk fz id ops .mk ∧ YldA (ylds fz ops.toList) A (draws2 P W0 n fz id ops ops.toList (fun B=>eopsIf P W0 n fz id ops.toList (Q .normal) B))
 | .region _ ops false,Q,A=>ops2 P W0 n fz ops ops.toList (Q .normal) A
 | .loop c,Q,A=>LoopVC P W0 n fz c .mk Q .mk A
 | _,_,_=>False

def endsB : Code → Bool
 | .ret=>true
 | .exit _=>true
 | .seq x y=>endsB x || endsB y
 | .cond _ x y=>endsB x && endsB y
 | _=>false

def JoinVC (P : Program) (W0 : World) (n : Nat) (fz : List Nat) (b : Bool) (x : Code) (_ : Tag x) (y : Code) (_ : Tag y) (z : Code) (_ : Tag z) (Q : Exit → AState → Prop) (_ : Tag Q) (A : AState) : Prop :=
 (b = true → cVC P W0 n fz x (thenQ (cVC P W0 n fz z Q) Q) A) ∧ (b = false → cVC P W0 n fz y (thenQ (cVC P W0 n fz z Q) Q) A)

section
variable {P : Program} {W0 : World} {σ : Store} {n : Nat} {A : AState} {gd : Option Bool} {fz : List Nat}

theorem vop_sound0 {dst : Option Nat} {k : AState → Prop} {op : Op} (hg : ∀ p : Prop,imp gd p → p) (h : vop P W0 gd (some A.st) dst A k op) : valVC P W0 gd op A fun v=>k (A.put dst (wrapG gd v)):=by
 unfold vop at h
 split at h
 ·rename_i c
  obtain ⟨callee,args,argTypes⟩:=c
  split at h
  ·rename_i f hf
   simp only at hf
   subst hf
   exact strip_of h.1 (stripL_of h.2.1 h.2.2)
  ·exact valVC_of (hg _ h.1) h.2
 ·exact valVC_of (hg _ h.1) h.2

theorem vop_sound {dst : Option Nat} {k : AState → Prop} {op : Op} (h : vop P W0 none (some A.st) dst A k op) : valVC P W0 none op A fun v=>k (A.put dst v):=vop_sound0 (gd:=none) (fun _ h=>h) h

theorem vop_takes {so : Option Store} {dst : Option Nat} {k : AState → Prop} {op : Op} (h : vop P W0 gd so dst A k op) : ∃ v,k (A.put dst (wrapG gd v)):=by
 unfold vop at h
 split at h
 ·split at h
  ·have h3:=h.2.2
   unfold CallP callVC at h3
   split at h3
   ·obtain ⟨r,_,h5⟩:=h3
    exact ⟨r,h5⟩
   ·exact h3.elim
  ·exact ⟨_,h.2⟩
 ·exact ⟨_,h.2⟩

theorem storeA_sound {t : TypeId} {x : Operand} {u v : AV} {k : AState → Prop} (h : StoreA P fz t x v A k .mk u) : storeVC P fz A t x u v k:=by
 unfold StoreA at h
 split at h
 ·rename_i t' id i path
  obtain ⟨h1,h2,h3,h4⟩:=h
  unfold storeVC
  refine ⟨⟨h1,h2⟩,?_⟩
  obtain ⟨z,hz⟩:=Option.isSome_iff_exists.1 h3
  unfold look at hz
  split at hz
  ·rename_i te xs hs
   try rw [hs]
   try simp only
   cases hx : xs[i]? with
   | none=>rw [hx] at hz; cases hz
   | some y =>
    rw [hx] at hz
    simp only [Option.bind_some] at hz
    simp only [hz]
    cases x with
    | tmp d =>
     simp only at h4 ⊢
     split at h4
     ·rename_i hc; rw [if_pos hc]; exact h4
     ·rename_i hc
      rw [if_neg hc]
      simpa only [setLook,hs,hx,Option.getD_some] using h4
    | _=>exact h4
  ·cases hz
 ·exact h.elim

theorem op2_sound {o : Oper} {k : AState → Prop} (hd : dstOk n o.dst) (h : op2 P W0 fz o.dst A k o.op) : opVC P W0 n fz o A k:=by
 refine ⟨hd,?_⟩
 unfold op2 at h
 split at h
 ·rename_i c hc
  rw [hc]
  obtain ⟨callee,args,argTypes⟩:=c
  simp only at h ⊢
  split at h
  ·rename_i f
   refine strip_of h.1 (stripL_of h.2.1 ?_)
   have h3:=h.2.2
   unfold CallA at h3
   split at h3
   ·rename_i g caps he
    rw [he]
    exact h3
   ·exact h3.elim
  ·refine stripL_of h.1 ?_
   have h3:=h.2
   unfold AppA at h3
   split at h3
   ·rename_i x y he
    rw [he]
    exact h3
   ·exact h3.elim
  ·refine stripL_of h.1 ?_
   have h3:=h.2
   unfold ClearA at h3
   split at h3
   ·rename_i x he
    rw [he]
    exact h3
   ·exact h3.elim
  ·have h3:=vop_sound (W0:=W0) h
   rename_i hne1 hne2 hne3
   split
   ·exact absurd rfl (hne1 _)
   ·exact absurd rfl hne2
   ·exact absurd rfl hne3
   ·exact h3
 ·rename_i t x hop
  rw [hop]
  simp only
  split at h
  ·rename_i d hdst
   rw [hdst]
   simp only
   split at h
   ·rename_i hc
    rw [if_pos hc]
    have h2:=h.2
    rw [hdst] at h2
    exact strip_of h.1.1 ⟨h.1.2,h2⟩
   ·rename_i hc
    rw [if_neg hc]
    exact strip_of h.1 ⟨h.2.1,h.2.2⟩
  ·exact h.elim
 ·rename_i t hop
  rw [hop]
  simp only
  obtain ⟨v,hv⟩:=Option.isSome_iff_exists.1 h.1
  have h2:=h.2
  rw [hv] at h2 ⊢
  exact h2
 ·rename_i t x y hop
  rw [hop]
  simp only
  exact strip_of h.1 (strip_of h.2.1 h.2.2)
 ·rename_i t x y hop
  rw [hop]
  simp only
  exact strip_of h.1 (strip_of h.2.1 (storeA_sound h.2.2))
 ·rename_i t x hop
  rw [hop]
  simp only
  have h2:=h.2
  unfold RangeA at h2
  split at h2
  ·rename_i l he
   exact ⟨h2.1,strip_of h.1 (by rw [he]; exact h2.2)⟩
  ·exact h2.elim
 ·rename_i x hop
  rw [hop]
  simp only
  have h2:=h.2
  unfold NextV at h2
  split at h2
  ·rename_i id he
   refine strip_of h.1 ?_
   rw [he]
   simp only
   unfold NextA at h2
   split at h2
   ·rename_i l pos hs
    rw [hs]
    exact h2
   ·exact h2.elim
  ·exact h2.elim
 ·rename_i t x lo hi mx hop
  rw [hop]
  simp only
  split at h
  ·exact .inr (strip_of h.1 (overVC_of h.2.1 h.2.2))
  ·exact .inl (vop_sound (W0:=W0) h)
 ·rename_i s d x hop
  rw [hop]
  simp only
  split at h
  ·exact .inr (strip_of h.1 h.2)
  ·exact .inl (vop_sound (W0:=W0) h)
 ·rename_i t m ps hop
  rw [hop]
  simp only
  split at h
  ·refine .inr (partsVC_of h.1 ?_)
   obtain ⟨_,h2,h3⟩:=h
   unfold buildSliceC at h2
   unfold buildRowVC
   split at h2
   ·rename_i e he
    simp only [he,Option.getD_some] at h3 ⊢
    exact ⟨h2,h3⟩
   ·exact h2.elim
  ·exact .inl (vop_sound (W0:=W0) h)
 ·rename_i t hop
  rw [hop]
  simp only
  obtain ⟨⟨kt,vt⟩,hv⟩:=Option.isSome_iff_exists.1 h.1
  have h2:=h.2
  rw [hv] at h2 ⊢
  exact h2
 ·rename_i t x ix y hop
  rw [hop]
  simp only
  refine strip_of h.1 (strip_of h.2.1 (strip_of h.2.2.1 ?_))
  have h2:=h.2.2.2
  unfold PutA putVC at h2
  unfold putVC
  split at h2
  ·obtain ⟨kt,vt,l,g1,g2,g3,g4,g5,g6⟩:=h2
   exact ⟨kt,vt,l,g1,g2,g3,g4,g5,by
    have e : ∀ σ,(A.withSt σ).put o.dst .undef = (A.put o.dst .undef).withSt σ:=fun σ=>by cases o.dst <;> rfl
    show k ((A.put o.dst .undef).withSt _)
    rw [← e]; exact g6⟩
  ·exact h2.elim
 ·rename_i h1 h2 h3 h8 h4 h6 h7 h9 h12 h13 h10 h11
  have h5:=vop_sound (W0:=W0) h
  split
  ·rename_i c hc; exact absurd hc (h1 c)
  ·rename_i t x hc; exact absurd hc (h2 t x)
  ·rename_i t hc; exact absurd hc (h3 t)
  ·rename_i t x y hc; exact absurd hc (h8 t x y)
  ·rename_i t x y hc; exact absurd hc (h4 t x y)
  ·rename_i t x hc; exact absurd hc (h6 t x)
  ·rename_i x hc; exact absurd hc (h7 x)
  ·rename_i t x lo hi mx hc; exact absurd hc (h9 t x lo hi mx)
  ·rename_i s d x hc; exact absurd hc (h12 s d x)
  ·rename_i t m ps hc; exact absurd hc (h13 t m ps)
  ·rename_i t hc; exact absurd hc (h10 t)
  ·rename_i t x ix y hc; exact absurd hc (h11 t x ix y)
  ·exact h5

theorem dst_gd {ops : Array Oper} {j d : Nat} {want : Bool} (hj : dstAt ops j = some d) (hc : gdC (A.env d)) : gdOf ops A j want = some (gdV want (A.env d)):=by
 unfold dstAt at hj
 unfold gdOf
 rw [hj]
 simp only
 revert hc
 generalize A.env d = u
 intro hc
 cases u <;> first | rfl | skip
 all_goals first | exact hc.elim | skip
 rename_i g v
 cases v <;> first | rfl | (cases g <;> first | rfl | (cases hc))

theorem Agree.refl (ws : List Nat) (A : AState) : Agree ws A A:=fun _ _=>rfl
theorem Agree.trans {ws vs : List Nat} {A B C : AState} (h : Agree ws A B) (k : Agree vs B C) : Agree (ws ++ vs) A C:=fun i hi=>(k i (fun e=>hi (List.mem_append_right _ e))).trans (h i (fun e=>hi (List.mem_append_left _ e)))
theorem Agree.mono {ws vs : List Nat} {A B : AState} (h : Agree ws A B) (hs : ∀ i ∈ ws,i ∈ vs) : Agree vs A B:=fun i hi=>h i fun e=>hi (hs i e)
theorem agree_put (A : AState) (dst : Option Nat) (v : AV) : Agree dst.toList A (A.put dst v):=fun i hi=>by
 cases dst with
 | none=>rfl
 | some d=>exact A.upd_ne v (fun e=>hi (by simp [e]))
theorem agree_st {ws : List Nat} {A B : AState} (h : Agree ws A B) (σ : Store) : Agree ws A (B.withSt σ):=h

theorem vop_mono {so : Option Store} {dst : Option Nat} {k k' : AState → Prop} {op : Op} (hk : ∀ A',Agree dst.toList A A' → k A' → k' A') (h : vop P W0 gd so dst A k op) : vop P W0 gd so dst A k' op:=by
 cases op
 case call c =>
  obtain ⟨callee,args,argTypes⟩:=c
  cases callee
  case value f =>
   obtain ⟨h1,h2,h3⟩:=h
   refine ⟨h1,h2,?_⟩
   unfold CallP callVC at h3 ⊢
   split at h3
   ·obtain ⟨r,h4,h5⟩:=h3
    exact ⟨r,h4,hk _ (agree_put _ _ _) h5⟩
   ·exact h3.elim
  all_goals exact ⟨h.1,hk _ (agree_put _ _ _) h.2⟩
 all_goals exact ⟨h.1,hk _ (agree_put _ _ _) h.2⟩

theorem owr_dst {dst : Option Nat} {op : Op} {i : Nat} (hi : i ∈ dst.toList) : i ∈ owr fz dst op:=by
 unfold owr
 split
 ·split
  ·exact List.mem_cons_of_mem _ hi
  ·exact hi
 ·split
  ·exact List.mem_cons_of_mem _ hi
  ·exact hi
 ·exact hi
theorem op2_mono {dst : Option Nat} {k k' : AState → Prop} {op : Op} (hk : ∀ A',Agree (owr fz dst op) A A' → k A' → k' A') (h : op2 P W0 fz dst A k op) : op2 P W0 fz dst A k' op:=by
 cases op
 case call c =>
  obtain ⟨callee,args,argTypes⟩:=c
  cases callee
  case value f =>
   obtain ⟨h1,h2,h3⟩:=h
   refine ⟨h1,h2,?_⟩
   unfold CallA at h3 ⊢
   split at h3
   ·exact h3.mono fun _ _=>hk _ (agree_st (agree_put _ _ _) _)
   ·exact h3.elim
  case builtin b =>
   cases b
   case append =>
    refine ⟨h.1,?_⟩
    have h3:=h.2
    unfold AppA at h3 ⊢
    split at h3
    ·rcases h3 with h3 | h3 | h3 | h3 | h3 | h3
     ·left
      unfold appendVC at h3 ⊢
      split at h3
      ·obtain ⟨e,xs,ys,g1,g2,g3,g4,g5,g6⟩:=h3
       exact ⟨e,xs,ys,g1,g2,g3,g4,g5,fun v σ' hv=>hk _ (agree_st (agree_put _ _ _) _) (g6 v σ' hv)⟩
      ·exact h3.elim
     ·right; left
      unfold appendRowVC at h3 ⊢
      split at h3
      ·obtain ⟨e,xs,ys,g1,g2,g3,g4,g5,g6,g7⟩:=h3
       exact ⟨e,xs,ys,g1,g2,g3,g4,g5,fun he=>hk _ (agree_st (agree_put _ _ _) _) (g6 he),fun he=>hk _ (agree_st (agree_put _ _ _) _) (g7 he)⟩
      ·exact h3.elim
     ·right; right; left
      unfold appendZeroVC at h3 ⊢
      split at h3
      ·obtain ⟨e,m,z,k,kn,g1,g2,g3,g4,g5,g6⟩:=h3
       exact ⟨e,m,z,k,kn,g1,g2,g3,g4,g5,hk _ (agree_st (agree_put _ _ _) _) g6⟩
      ·exact h3.elim
     ·right; right; right; left
      unfold appendInVC at h3 ⊢
      split at h3
      ·obtain ⟨e,id,off,m,zs,ys,g1,g2,g3,g4,g5,g6⟩:=h3
       exact ⟨e,id,off,m,zs,ys,g1,g2,g3,g4,g5,hk _ (agree_st (agree_put _ _ _) _) g6⟩
      ·exact h3.elim
     ·right; right; right; right; left
      unfold appendKeepVC at h3 ⊢
      split at h3
      ·obtain ⟨e,id,off,m,zs,ys,g1,g2,g3,g4,g5,g6,g7,g8,g9⟩:=h3
       exact ⟨e,id,off,m,zs,ys,g1,g2,g3,g4,g5,g6,g7,hk _ (agree_st (agree_put _ _ _) _) g8,hk _ (agree_st (agree_put _ _ _) _) g9⟩
      ·exact h3.elim
     ·right; right; right; right; right
      unfold appendStrVC at h3 ⊢
      split at h3
      ·obtain ⟨e,xs,l,g1,g2,g3,g4,g5,g6⟩:=h3
       exact ⟨e,xs,l,g1,g2,g3,g4,g5,fun v σ' ha=>hk _ (agree_st (agree_put _ _ _) _) (g6 v σ' ha)⟩
      ·exact h3.elim
    ·exact h3.elim
   case clear =>
    refine ⟨h.1,?_⟩
    have h3:=h.2
    unfold ClearA at h3 ⊢
    split at h3
    ·unfold clearVC at h3 ⊢
     split at h3
     ·obtain ⟨e,id,off,m,zs,v,g1,g2,g3,g4,g5⟩:=h3
      exact ⟨e,id,off,m,zs,v,g1,g2,g3,g4,hk _ (agree_st (agree_put _ _ _) _) g5⟩
     ·exact h3.elim
    ·exact h3.elim
   all_goals (simp only [op2] at h ⊢; exact vop_mono hk h)
  all_goals (simp only [op2] at h ⊢; exact vop_mono hk h)
 case box t x =>
  simp only [op2] at h ⊢
  split at h
  ·split at h
   ·rename_i hc; rw [if_pos hc]; exact vop_mono hk h
   ·rename_i hc; rw [if_neg hc]; exact ⟨h.1,h.2.1,hk _ (agree_st (agree_put A (some _) _) _) h.2.2⟩
  ·exact h.elim
 case alloc t=>exact ⟨h.1,hk _ (agree_st (agree_put _ _ _) _) h.2⟩
 case convert s d x =>
  simp only [op2] at h ⊢
  split at h
  ·rename_i hc
   rw [if_pos hc]
   refine ⟨h.1,?_⟩
   rcases h.2 with ⟨l,e,g1,g2,g3⟩ | ⟨l,e,g1,g2,g3⟩ | ⟨e,id,off,m,xs,g1,g2,g3,g4,g5,g6⟩
   ·exact .inl ⟨l,e,g1,g2,hk _ (agree_st (agree_put _ _ _) _) g3⟩
   ·exact .inr (.inl ⟨l,e,g1,g2,hk _ (agree_st (agree_put _ _ _) _) g3⟩)
   ·exact .inr (.inr ⟨e,id,off,m,xs,g1,g2,g3,g4,g5,hk _ (agree_st (agree_put _ _ _) _) g6⟩)
  ·rename_i hc
   rw [if_neg hc]
   exact vop_mono hk h
 case buildSlice t m ps =>
  simp only [op2] at h ⊢
  split at h
  ·rename_i hc
   rw [if_pos hc]
   exact ⟨h.1,h.2.1,hk _ (agree_st (agree_put _ _ _) _) h.2.2⟩
  ·rename_i hc
   rw [if_neg hc]
   exact vop_mono hk h
 case makeSlice t x y =>
  refine ⟨h.1,h.2.1,?_⟩
  have h3:=h.2.2
  unfold MakeA makeVC at h3 ⊢
  split at h3
  ·refine ⟨h3.1,?_⟩
   have h4:=h3.2
   split at h4
   ·split at h4
    ·obtain ⟨g1,g2,g3,g4,g5⟩:=h4
     exact ⟨g1,g2,g3,g4,hk _ (agree_st (agree_put _ _ _) _) g5⟩
    ·exact h4.elim
   ·exact h4.elim
  ·exact h3.elim
 case store t x y =>
  refine ⟨h.1,h.2.1,?_⟩
  have h3:=h.2.2
  revert h3
  generalize unm (A.val x) = u
  intro h3
  unfold StoreA at h3 ⊢
  split at h3
  ·obtain ⟨g1,g2,g3,g4⟩:=h3
   refine ⟨g1,g2,g3,?_⟩
   split at g4
   ·simp only
    split at g4
    ·rename_i hc
     rw [if_pos hc]
     refine ⟨g4.1,hk _ (fun i hi=>?_) g4.2⟩
     simp only [owr,hc,if_true] at hi
     exact (agree_put _ dst .undef i (fun e=>hi (by simp [e]))).trans (A.upd_ne _ (fun e=>hi (by simp [e])))
    ·rename_i hc
     rw [if_neg hc]
     refine hk _ (fun i hi=>?_) g4
     simp only [owr,hc,Bool.false_eq_true,if_false] at hi
     exact agree_put (A.withSt _) dst .undef i hi
   ·exact g4.elim
  ·exact h3.elim
 case range t x =>
  refine ⟨h.1,?_⟩
  have h2:=h.2
  unfold RangeA at h2 ⊢
  split at h2
  ·exact ⟨h2.1,hk _ (agree_st (agree_put _ _ _) _) h2.2⟩
  ·exact h2.elim
 case next x b =>
  cases b
  ·simp only [op2] at h ⊢; exact vop_mono hk h
  ·refine ⟨h.1,?_⟩
   have h2:=h.2
   unfold NextV at h2 ⊢
   split at h2
   ·unfold NextA at h2 ⊢
    split at h2
    ·exact ⟨fun hp=>hk _ (agree_st (agree_put _ _ _) _) (h2.1 hp),fun hp=>hk _ (agree_put _ _ _) (h2.2 hp)⟩
    ·exact h2.elim
   ·exact h2.elim
 case slice t x lo hi mx =>
  simp only [op2] at h ⊢
  split at h
  ·rename_i hc; rw [if_pos hc]; exact ⟨h.1,h.2.1,hk _ (agree_put _ _ _) h.2.2⟩
  ·rename_i hc; rw [if_neg hc]; exact vop_mono hk h
 case makeMap t r =>
  cases r
  ·exact ⟨h.1,hk _ (agree_st (agree_put _ _ _) _) h.2⟩
  ·simp only [op2] at h ⊢; exact vop_mono hk h
 case mapUpdate t x ix y =>
  refine ⟨h.1,h.2.1,h.2.2.1,?_⟩
  have h3:=h.2.2.2
  unfold PutA putVC at h3 ⊢
  split at h3
  ·obtain ⟨kt,vt,l,g1,g2,g3,g4,g5,g6⟩:=h3
   exact ⟨kt,vt,l,g1,g2,g3,g4,g5,hk _ (agree_put (A.withSt _) dst .undef) g6⟩
  ·exact h3.elim
 all_goals (simp only [op2] at h ⊢; exact vop_mono (fun A' ha=>hk A' (ha.mono fun i hi=>owr_dst hi)) h)

theorem okM_of {g : Bool} {v : AV} (hg : g = true) (h : okM (some g) v) : okM none v:=by
 cases v <;> first | trivial | exact h hg
theorem valsC_of {g : Bool} (hg : g = true) : ∀ {l : List Operand},valsC (some g) A l → valsC none A l
 | [],_=>trivial
 | _ :: _,h=>⟨okM_of hg h.1,valsC_of hg h.2⟩

theorem gop_sound {G : Bool} {o : Oper} {k : AState → Prop} (hd : dstOk n o.dst) (h : gop P W0 G o.dst A k o.op) : (G = true → opVC P W0 n fz o A k) ∧ (G = false → ∃ v,k (A.put o.dst (.maybe false v))):=by
 unfold gop at h
 split at h
 ·rename_i c hc
  obtain ⟨callee,args,argTypes⟩:=c
  simp only at h
  split at h
  ·rename_i f
   refine ⟨fun hG=>op2_sound (P:=P) (W0:=W0) (fz:=fz) hd ?_,h.2.2.2⟩
   rw [hc]
   exact ⟨okM_of hG h.1,valsC_of hG h.2.1,h.2.2.1 hG⟩
  ·refine ⟨fun hG=>op2_sound (P:=P) (W0:=W0) (fz:=fz) hd ?_,h.2.2⟩
   rw [hc]
   exact ⟨valsC_of hG h.1,h.2.1 hG⟩
  ·exact h.elim
 ·exact h.elim

theorem gop_mono {G : Bool} {dst : Option Nat} {k k' : AState → Prop} {op : Op} (hk : ∀ A',Agree dst.toList A A' → k A' → k' A') (h : gop P W0 G dst A k op) : gop P W0 G dst A k' op:=by
 unfold gop at h ⊢
 split at h
 ·rename_i c
  split at h
  ·rename_i f hf
   refine ⟨h.1,h.2.1,fun hG=>?_,fun hG=>(h.2.2.2 hG).imp fun _=>hk _ (agree_put _ _ _)⟩
   have h3:=h.2.2.1 hG
   unfold CallA at h3 ⊢
   split at h3
   ·exact h3.mono fun _ _=>hk _ (agree_st (agree_put _ _ _) _)
   ·exact h3.elim
  ·refine ⟨h.1,fun hG=>?_,fun hG=>(h.2.2 hG).imp fun _=>hk _ (agree_put _ _ _)⟩
   exact (op2_mono (P:=P) (W0:=W0) (fz:=[]) (op:=.call ⟨.builtin .append,c.args,c.argTypes⟩) (fun A' ha=>hk A' ha) ⟨valsC_of hG h.1,h.2.1 hG⟩).2
  ·exact h.elim
 ·exact h.elim

theorem ops2_sound {ops : Array Oper} : ∀ (l : List Oper) (K : AState → Prop) (A : AState),ops2 P W0 n fz ops l K A → opsVC P W0 n fz ops l K A
 | [],_,_,h=>h
 | o :: r,K,A,h=>by
  simp only [ops2] at h
  obtain ⟨hd,h⟩:=h
  simp only [opsVC]
  have ih:=ops2_sound (ops:=ops) r K
  split at h
  ·rename_i hg
   simp only [hg]
   exact op2_sound hd (op2_mono (fun A' _=>ih A') h)
  ·rename_i j want hg
   simp only [hg]
   split at h
   ·rename_i d hj
    rw [dst_gd hj h.1]
    refine ⟨hd,?_⟩
    have h2:=h.2
    split at h2
    ·exact .inr (gop_sound hd (gop_mono (fun A' _=>ih A') h2))
    ·have h3:=vop_mono (fun A' _=>ih A') h2
     revert h3
     generalize gdV want (A.env d) = G
     intro h3
     cases G with
     | true=>exact .inl (vop_sound0 (gd:=some true) (fun _ h=>h rfl) h3)
     | false=>exact .inr ⟨fun e=>(Bool.false_ne_true e).elim,fun _=>vop_takes h3⟩
   ·exact h.elim

theorem valsC_st (σ : Store) : ∀ l : List Operand,valsC gd (A.withSt σ) l = valsC gd A l
 | []=>rfl
 | x :: r=>by rw [valsC,valsC,valsC_st σ r]; rfl
theorem valsOf_st (σ : Store) : ∀ l : List Operand,valsOf (A.withSt σ) l = valsOf A l
 | []=>rfl
 | x :: r=>by rw [valsOf,valsOf,valsOf_st σ r]; rfl
theorem partsC_st (σ : Store) : ∀ l : List (Nat × Operand),partsC gd (A.withSt σ) l = partsC gd A l
 | []=>rfl
 | (_,x) :: r=>by rw [partsC,partsC,partsC_st σ r]; rfl
theorem partsV_st (σ : Store) : ∀ l : List (Nat × Operand),partsV (A.withSt σ) l = partsV A l
 | []=>rfl
 | (_,x) :: r=>by rw [partsV,partsV,partsV_st σ r]; rfl

theorem opC_st {dst : Option Nat} {op : Op} (h : isR fz dst op = false) (hl : ∀ t x,op = .load t x → locOk fz A x) (σ : Store) : opC P gd (A.withSt σ) op = opC P gd A op ∧ opV P gd (A.withSt σ) op = opV P gd A op:=by
 cases op <;> first | exact ⟨rfl,rfl⟩ | (simp [isR] at h; done) | skip
 ·simp only [opC,opV,partsC_st,partsV_st,and_self]
 ·simp only [opC,opV,partsC_st,partsV_st,and_self]
 ·rename_i t x
  have h2:=hl t x rfl
  cases x <;> first | (simp [isR] at h; done) | skip
  rename_i d
  simp only [isR,Bool.not_eq_false'] at h
  have h3 : isLocB (unm (A.val (.tmp d))) = true:=h2 h
  have hv : (A.withSt σ).val (.tmp d) = A.val (.tmp d):=rfl
  simp only [opC,opV,hv]
  revert h3
  generalize unm (A.val (.tmp d)) = u
  intro h3
  cases u <;> first | (simp [isLocB] at h3; done) | exact ⟨rfl,rfl⟩
 ·rename_i fn first caps; cases fn <;> simp only [opC,opV,valsC_st,valsOf_st,and_self]
 ·rename_i c; obtain ⟨callee,args,ts⟩:=c; cases callee <;> simp only [opC,opV,valsC_st,valsOf_st,and_self]

theorem pureAt_of0 {o : Oper} (hl : ∀ t x,o.op = .load t x → locOk fz A x) (h : opC P gd A o.op) : imp gd (PureAt P W0 fz o A (opV P gd A o.op)):=by
 have key : ∀ A' : AState,opC P gd A' o.op → imp gd (PureOk P W0 o A' (opV P gd A' o.op)):=fun A' h'=>by
  have hv : valVC P W0 gd o.op A' (· = opV P gd A' o.op):=valVC_of h' rfl
  cases gd with
  | none =>
   intro w C a hr
   obtain ⟨v,rfl,hp⟩:=valVC_sound hr hv
   exact hp w C a hr
  | some g =>
   intro hg w C a hr
   obtain ⟨v,rfl,hp⟩:=valVC_sound hr hv
   exact hp hg w C a hr
 have k2 : isR fz o.dst o.op = false → ∀ σ,imp gd (PureOk P W0 o (A.withSt σ) (opV P gd A o.op)):=fun hR σ=>by
  obtain ⟨e1,e2⟩:=opC_st (P:=P) (gd:=gd) (A:=A) hR hl σ
  have:=key (A.withSt σ) (by rw [e1]; exact h)
  rwa [e2] at this
 cases gd with
 | none=>exact ⟨key A h,k2⟩
 | some g=>exact fun hg=>⟨key A h hg,fun hR σ=>k2 hR σ hg⟩

theorem pureAt_of {o : Oper} (hl : ∀ t x,o.op = .load t x → locOk fz A x) (h : imp gd (opC P gd A o.op)) : imp gd (PureAt P W0 fz o A (opV P gd A o.op)):=by
 cases gd with
 | none=>exact pureAt_of0 hl h
 | some g=>exact fun hg=>pureAt_of0 (gd:=some g) hl (h hg) hg

theorem pureAt_call {o : Oper} {so : Option Store} {f : Operand} {args : Array Operand} {argTypes : Array TypeId} {r : AV} (ho : o.op = .call ⟨.value f,args,argTypes⟩) (hso : so = none ∨ (so = some A.st ∧ rdM fz o.dst = true)) (h1 : okM gd (A.val f)) (h2 : valsC gd A args.toList)
  (h3 : callVC P W0 gd so (unm (A.val f)) (valsOf A args.toList) (· = r)) : imp gd (PureAt P W0 fz o A r):=by
 have key : ∀ σ : Store,(so = some A.st → σ = A.st) → imp gd (PureOk P W0 o (A.withSt σ) r):=fun σ hσ=>by
  have h3' : callVC P W0 gd (some σ) (unm (A.val f)) (valsOf A args.toList) (· = r):=by
   unfold callVC at h3 ⊢
   split at h3
   ·obtain ⟨r',g1,g2⟩:=h3
    refine ⟨r',g1.map fun g=>?_,g2⟩
    rcases hso with rfl | ⟨rfl,_⟩
    ·exact g σ
    ·rw [hσ rfl]; exact g
   ·exact h3.elim
  have hv : valVC P W0 gd o.op (A.withSt σ) (· = r):=by
   rw [ho]
   exact strip_of (x:=(A.withSt σ).val f) h1 (stripL_of (A:=A.withSt σ) (by rw [valsC_st]; exact h2) (by rw [valsOf_st]; exact h3'))
  cases gd with
  | none =>
   intro w C a hr
   obtain ⟨v,rfl,hp⟩:=valVC_sound hr hv
   exact hp w C a hr
  | some g =>
   intro hg w C a hr
   obtain ⟨v,rfl,hp⟩:=valVC_sound hr hv
   exact hp hg w C a hr
 have hall : isR fz o.dst o.op = false → ∀ σ,(so = some A.st → σ = A.st):=fun hR σ hs=>by
  rcases hso with h | ⟨_,h⟩
  ·rw [h] at hs; cases hs
  ·rw [ho] at hR; simp only [isR] at hR; rw [h] at hR; cases hR
 cases gd with
 | none=>exact ⟨key A.st fun _=>rfl,fun hR σ=>key σ (hall hR σ)⟩
 | some g=>exact fun hg=>⟨key A.st (fun _=>rfl) hg,fun hR σ=>key σ (hall hR σ) hg⟩

theorem dop_takes {o : Oper} {k : AState → Prop} (hW : isW o.op = false) (h : dop P W0 fz gd o.dst A k o.op) : ∃ v,k (A.put o.dst (wrapG gd v)) ∧ imp gd (PureAt P W0 fz o A v):=by
 have hgen : (∀ t x,o.op = .load t x → locOk fz A x) → imp gd (opC P gd A o.op) ∧ k (A.put o.dst (wrapG gd (opV P gd A o.op))) → ∃ v,k (A.put o.dst (wrapG gd v)) ∧ imp gd (PureAt P W0 fz o A v):=fun hl h=>⟨_,h.2,pureAt_of hl h.1⟩
 cases hop : o.op
 case call c =>
  obtain ⟨callee,args,argTypes⟩:=c
  cases callee
  case value f =>
   rw [hop] at h
   obtain ⟨h1,h2,h3⟩:=h
   unfold CallP callVC at h3
   split at h3
   ·rename_i g caps hf
    obtain ⟨r,h4,h5⟩:=h3
    refine ⟨r,h5,pureAt_call (so:=if rdM fz o.dst then some A.st else none) hop ?_ h1 h2 (by unfold callVC; rw [hf]; exact ⟨r,h4,rfl⟩)⟩
    split
    ·rename_i hm; exact .inr ⟨rfl,hm⟩
    ·exact .inl rfl
   ·exact h3.elim
  all_goals (rw [hop] at h; exact hgen (fun t x e=>by rw [hop] at e; cases e) (by rw [hop]; exact h))
 case load t x =>
  rw [hop] at h
  exact hgen (fun t' x' e=>by rw [hop] at e; cases e; exact h.1) (by rw [hop]; exact h.2)
 case store t x y=>rw [hop] at hW; cases hW
 all_goals (rw [hop] at h; exact hgen (fun t x e=>by rw [hop] at e; cases e) (by rw [hop]; exact h))

theorem storeA_pick {o : Oper} {t : TypeId} {x y : Operand} {k : AState → Prop} (ho : o.op = .store t x y) (h1 : okM none (A.val x)) (h2 : okM none (A.val y)) (h : StoreA P [] t x (unm (A.val y)) A k .mk (unm (A.val x))) : ∃ σ',k (A.withSt σ') ∧ StoreOk P W0 o A σ':=by
 have isx : Is P W0 o A x (unm (A.val x)):=by
  obtain ⟨u,hu,hi⟩:=strip_none (P:=P) (W0:=W0) (o:=o) (A:=A) (x:=x) (by simp [ho,Op.operands]) (k:=(· = unm (A.val x))) (strip_of h1 rfl)
  rw [← hu]; exact hi
 have isy : Is P W0 o A y (unm (A.val y)):=by
  obtain ⟨u,hu,hi⟩:=strip_none (P:=P) (W0:=W0) (o:=o) (A:=A) (x:=y) (by simp [ho,Op.operands]) (k:=(· = unm (A.val y))) (strip_of h2 rfl)
  rw [← hu]; exact hi
 unfold StoreA at h
 split at h
 ·rename_i t' id i path hux
  obtain ⟨rfl,g2,g3,g4⟩:=h
  rw [hux] at isx
  obtain ⟨z,hz⟩:=Option.isSome_iff_exists.1 g3
  obtain ⟨te,xs,y0,hs,hx,hy0⟩:=look_inv hz
  split at g4
  ·simp only [List.contains_nil,Bool.false_eq_true,if_false] at g4
   refine ⟨_,g4,fun w C a hr=>?_⟩
   have:=store_ptr hr ho isx isy hz (fits_of_B g2) hs hx
   simpa only [setLook,hs,hx,Option.getD_some] using this
  ·exact g4.elim
 ·exact h.elim

theorem draws2_seq {id : Nat} {ops : Array Oper} : ∀ (l : List Oper) (K : AState → Prop) (A : AState),draws2 P W0 n fz id ops l K A → ∃ vs ss B,Seq P W0 n fz (eM fz id) ops l A vs ss B ∧ K B
 | [],_,A,h=>⟨[],[],A,.nil A,h⟩
 | o :: r,K,A,h=>by
  simp only [draws2] at h
  split at h
  ·rename_i hE
   obtain ⟨vs,ss,B,h1,h2⟩:=draws2_seq r K _ h
   exact ⟨_,_,B,.skip hE h1,h2⟩
  rename_i hE
  replace hE : eM fz id o = false:=by simpa using hE
  obtain ⟨hd,h⟩:=h
  have same : ∀ v,(A.put o.dst v).withSt A.st = A.put o.dst v:=fun v=>by cases o.dst <;> rfl
  split at h
  ·rename_i hg
   have gen : isW o.op = false → dop P W0 fz none o.dst A (fun A'=>draws2 P W0 n fz id ops r K A') o.op → ∃ vs ss B,Seq P W0 n fz (eM fz id) ops (o :: r) A vs ss B ∧ K B:=fun hW hv=>by
    obtain ⟨v,hk,hp⟩:=dop_takes hW hv
    obtain ⟨vs,ss,B,h1,h2⟩:=draws2_seq r K _ hk
    exact ⟨v :: vs,A.st :: ss,B,.cons hE ⟨hd,by rw [hg]; exact .inl ⟨hW,rfl,hp⟩⟩ (by rw [same]; exact h1),h2⟩
   cases hop : o.op
   case store t x y =>
    rw [hop] at h
    obtain ⟨_,h1,h2,h3⟩:=h
    obtain ⟨σ',hk,hs⟩:=storeA_pick (W0:=W0) hop h1 h2 h3
    obtain ⟨vs,ss,B,g1,g2⟩:=draws2_seq r K _ hk
    have e : (A.withSt σ').put o.dst .undef = (A.put o.dst .undef).withSt σ':=by cases o.dst <;> rfl
    rw [e] at g1
    exact ⟨.undef :: vs,σ' :: ss,B,.cons hE ⟨hd,by rw [hg]; exact .inr ⟨by rw [hop]; rfl,rfl,hs⟩⟩ g1,g2⟩
   all_goals exact gen (by rw [hop]; rfl) (by rw [hop] at h ⊢; exact h)
  ·rename_i j want hg
   split at h
   ·rename_i d hj
    have hW : isW o.op = false:=by
     cases hop : o.op <;> first | rfl | skip
     have:=h.2
     rw [hop] at this
     cases this.1
    obtain ⟨v,hk,hp⟩:=dop_takes hW h.2
    obtain ⟨vs,ss,B,h1,h2⟩:=draws2_seq r K _ hk
    refine ⟨_ :: vs,A.st :: ss,B,.cons hE ⟨hd,by rw [hg]; exact ⟨hW,rfl,_,v,dst_gd hj h.1,rfl,hp⟩⟩ (by rw [same]; exact h1),h2⟩
   ·exact h.elim

theorem eop_mono {dst : Option Nat} {k k' : AState → Prop} {op : Op} (hk : ∀ A',Agree (owr fz dst op) A A' → k A' → k' A') (h : eop P W0 fz dst A k op) : eop P W0 fz dst A k' op:=by
 cases op
 case store t x y=>exact ⟨h.1,op2_mono (P:=P) (W0:=W0) (op:=.store t x y) hk h.2⟩
 all_goals exact op2_mono (P:=P) (W0:=W0) hk h

theorem eop_sound {o : Oper} {k : AState → Prop} (hd : dstOk n o.dst) (h : eop P W0 fz o.dst A k o.op) : noFz fz o.op ∧ opVC P W0 n fz o A k:=by
 cases hop : o.op
 case store t x y =>
  rw [hop] at h
  refine ⟨?_,op2_sound hd (by rw [hop]; exact h.2)⟩
  have:=h.1
  cases x <;> first | trivial | exact this
 all_goals exact ⟨trivial,op2_sound hd (by rw [hop] at h ⊢; exact h)⟩

theorem eops_sound {id : Nat} : ∀ (l : List Oper) (K : AState → Prop) (A : AState),eops P W0 n fz id l K A → eVC P W0 n fz (l.filter (eM fz id)) K A
 | [],_,_,h=>h
 | o :: r,K,A,h=>by
  simp only [eops] at h
  split at h
  ·rename_i hE
   rw [List.filter_cons_of_pos hE]
   have:=eop_sound (n:=n) h.1 (eop_mono (fun A' _=>eops_sound r K A') h.2)
   exact this
  ·rename_i hE
   rw [List.filter_cons_of_neg hE]
   exact eops_sound r K A h

theorem eopsIf_sound {id : Nat} {l : List Oper} {K : AState → Prop} (h : eopsIf P W0 n fz id l K A) : eVC P W0 n fz (l.filter (eM fz id)) K A:=by
 unfold eopsIf at h
 split at h
 ·rename_i hall
  have : l.filter (eM fz id) = []:=by
   rw [List.filter_eq_nil_iff]
   intro o _ hE
   have key : ∀ x,2000000 ≤ x → fz.contains x = false:=fun x hx=>by
    cases hc : fz.contains x with
    | false=>rfl
    | true =>
     have:=List.all_eq_true.1 hall x (by simpa using hc)
     simp at this
     omega
   unfold eM at hE
   split at hE
   ·rw [key _ (by omega)] at hE; cases hE
   ·rw [key _ (by omega)] at hE; cases hE
  rw [this]
  exact h
 ·exact eops_sound _ _ _ h

theorem dop_mono {dst : Option Nat} {k k' : AState → Prop} {op : Op} (hk : ∀ A',Agree dst.toList A A' → k A' → k' A') (h : dop P W0 fz gd dst A k op) : dop P W0 fz gd dst A k' op:=by
 cases op
 case store t x y=>exact ⟨h.1,op2_mono (P:=P) (W0:=W0) (fz:=[]) (op:=.store t x y) (fun A' ha=>hk A' (by cases x <;> exact ha)) h.2⟩
 case load t x=>exact ⟨h.1,vop_mono hk h.2⟩
 case call c=>exact vop_mono (op:=.call c) hk h
 all_goals (simp only [dop] at h ⊢; exact vop_mono hk h)

theorem yldsL_owr : ∀ (l : List Oper) (i : Nat),i ∈ yldsL fz l → i ∈ l.flatMap fun o=>owr fz o.dst o.op
 | [],_,h=>by cases h
 | o :: r,i,h=>by
  rw [yldsL] at h
  rw [List.flatMap_cons]
  rcases List.mem_append.1 h with h | h
  ·refine List.mem_append_left _ ?_
   cases hop : o.op <;> rw [hop] at h <;> first | (cases h; done) | skip
   rename_i t x
   cases x <;> first | (cases h; done) | skip
   rename_i d
   simp only at h
   unfold owr
   simp only
   split at h
   ·rename_i hc
    rw [if_pos hc]
    rw [List.mem_singleton.1 h]
    exact List.mem_cons_self ..
   ·cases h
  ·exact List.mem_append_right _ (yldsL_owr r i h)
theorem ylds_owr (l : List Oper) (i : Nat) (h : i ∈ ylds fz l) : i ∈ l.flatMap fun o=>owr fz o.dst o.op:=by
 unfold ylds at h
 split at h
 ·cases h
 ·exact yldsL_owr l i h
theorem agree_yld1 (A : AState) (d : Nat) : Agree [d] A (yld1 A d):=fun i hi=>by
 have hne : i ≠ d:=fun e=>hi (by simp [e])
 unfold yld1
 split
 ·split
  ·split
   ·exact A.upd_ne _ hne
   ·rfl
  ·rfl
 ·rfl
theorem YldA.mono : ∀ (l : List Nat) (A : AState) {k k' : AState → Prop},(∀ B,Agree l A B → k B → k' B) → YldA l A k → YldA l A k'
 | [],A,_,_,hk,h=>hk A (.refl _ _) h
 | d :: r,A,_,_,hk,h=>YldA.mono r (yld1 A d) (fun B hB=>hk B (by simpa using (agree_yld1 A d).trans hB)) h
theorem relA_yld1 {w : World} {C : Ctx} {a : Act} (h : RelA P W0 n w C A a) (d : Nat) : ∃ C',RelA P W0 n w C' (yld1 A d) a ∧ Step w C w C':=by
 unfold yld1
 split
 ·rename_i t id he
  split
  ·rename_i te z hs
   split
   ·rename_i ht
    subst ht
    have hv:=h.env d
    rw [he] at hv
    have hfr:=freeze_ptr h.st hv hs (i:=0) (x:=z) rfl
    obtain ⟨k1,k2⟩:=h.st.kill id (List.getElem?_eq_some_iff.1 hs).1
    have hr1:=h.step k1 k2
    refine ⟨_,⟨fun j=>?_,hr1.defers,hr1.size,hr1.st⟩,k1⟩
    by_cases hj : j = d
    ·subst hj; simpa [AState.upd,AState.withSt] using hfr
    ·have:=hr1.env j; simpa [AState.upd,AState.withSt,hj] using this
   ·exact ⟨C,h,.refl _ _⟩
  ·exact ⟨C,h,.refl _ _⟩
 ·exact ⟨C,h,.refl _ _⟩
theorem VC.yld {c : Code} {Q : Exit → AState → Prop} : ∀ (l : List Nat) (A : AState),YldA l A (VC P W0 n c Q) → VC P W0 n c Q A
 | [],_,h=>h
 | d :: r,A,h=>fun w C a hr=>by
  obtain ⟨C',h1,h2⟩:=relA_yld1 hr d
  exact wp_mono (VC.yld r _ h w C' a h1) fun e a' w' ⟨A',C'',q,g1,g2⟩=>⟨A',C'',q,g1,h2.trans g2⟩
theorem YldA.step {d : Nat} {r : List Nat} {t : TypeId} {id : Nat} {z : AV} {k : AState → Prop} (h1 : A.env d = .ptr t id 0 []) (h2 : A.st[id]? = some (some (.cells t [z]))) (hk : YldA r ((A.upd d (.loc t z)).withSt (A.st.set id none)) k) : YldA (d :: r) A k:=by
 have : yld1 A d = (A.upd d (.loc t z)).withSt (A.st.set id none):=by
  unfold yld1
  rw [h1]
  simp only [h2,if_true]
 show YldA r (yld1 A d) k
 rw [this]
 exact hk

theorem ops2_mono {ops : Array Oper} {K K' : AState → Prop} : ∀ (l : List Oper) (A : AState),(∀ A',Agree (l.flatMap fun o=>owr fz o.dst o.op) A A' → K A' → K' A') → ops2 P W0 n fz ops l K A → ops2 P W0 n fz ops l K' A
 | [],A,hk,h=>hk _ (.refl _ _) h
 | o :: r,A,hk,h=>by
  simp only [ops2] at h ⊢
  refine ⟨h.1,?_⟩
  have h2:=h.2
  have step : ∀ A',Agree (owr fz o.dst o.op) A A' → ops2 P W0 n fz ops r K A' → ops2 P W0 n fz ops r K' A':=fun A' ha=>ops2_mono r A' fun A'' hb=>hk A'' (by simpa using ha.trans hb)
  split at h2
  ·exact op2_mono step h2
  ·split at h2
   ·refine ⟨h2.1,?_⟩
    have h3:=h2.2
    split at h3
    ·rename_i hc; rw [if_pos hc]; exact gop_mono (fun A' ha=>step A' (ha.mono fun i hi=>owr_dst hi)) h3
    ·rename_i hc; rw [if_neg hc]; exact vop_mono (fun A' ha=>step A' (ha.mono fun i hi=>owr_dst hi)) h3
   ·exact h2.elim

theorem draws2_mono {id : Nat} {ops : Array Oper} {K K' : AState → Prop} : ∀ (l : List Oper) (A : AState),(∀ A',Agree (l.flatMap fun o=>owr fz o.dst o.op) A A' → K A' → K' A') → draws2 P W0 n fz id ops l K A → draws2 P W0 n fz id ops l K' A
 | [],A,hk,h=>hk _ (.refl _ _) h
 | o :: r,A,hk,h=>by
  simp only [draws2] at h ⊢
  have step : ∀ A',Agree o.dst.toList A A' → draws2 P W0 n fz id ops r K A' → draws2 P W0 n fz id ops r K' A':=fun A' ha=>draws2_mono r A' fun A'' hb=>hk A'' (by
   refine Agree.mono (ha.trans hb) fun i hi=>?_
   rw [List.flatMap_cons]
   rcases List.mem_append.1 hi with hi | hi
   ·exact List.mem_append_left _ (owr_dst hi)
   ·exact List.mem_append_right _ hi)
  split at h
  ·rename_i hE
   rw [if_pos hE]
   exact step A (.refl _ _) h
  rename_i hE
  rw [if_neg hE]
  refine ⟨h.1,?_⟩
  have h2:=h.2
  split at h2
  ·exact dop_mono step h2
  ·split at h2
   ·exact ⟨h2.1,dop_mono step h2.2⟩
   ·exact h2.elim

theorem eops_mono {id : Nat} {K K' : AState → Prop} : ∀ (l : List Oper) (A : AState),(∀ A',Agree (l.flatMap fun o=>owr fz o.dst o.op) A A' → K A' → K' A') → eops P W0 n fz id l K A → eops P W0 n fz id l K' A
 | [],A,hk,h=>hk _ (.refl _ _) h
 | o :: r,A,hk,h=>by
  simp only [eops] at h ⊢
  have step : ∀ A',Agree (owr fz o.dst o.op) A A' → eops P W0 n fz id r K A' → eops P W0 n fz id r K' A':=fun A' ha=>eops_mono r A' fun A'' hb=>hk A'' (by simpa using ha.trans hb)
  split at h
  ·rename_i hE
   rw [if_pos hE]
   exact ⟨h.1,eop_mono step h.2⟩
  ·rename_i hE
   rw [if_neg hE]
   exact step A (.refl _ _) h

theorem eopsIf_mono {id : Nat} {l : List Oper} {K K' : AState → Prop} (hk : ∀ A',Agree (l.flatMap fun o=>owr fz o.dst o.op) A A' → K A' → K' A') (h : eopsIf P W0 n fz id l K A) : eopsIf P W0 n fz id l K' A:=by
 unfold eopsIf at h ⊢
 split at h
 ·rename_i hc; rw [if_pos hc]; exact hk _ (.refl _ _) h
 ·rename_i hc; rw [if_neg hc]; exact eops_mono _ _ hk h

theorem cVC_mono : ∀ (c : Code) {Q Q' : Exit → AState → Prop} (A : AState) (_ : ∀ e A',Agree (dsts fz c) A A' → Q e A' → Q' e A'),cVC P W0 n fz c Q A → cVC P W0 n fz c Q' A
 | .skip,_,_,A,hq,h=>hq _ A (.refl _ _) h
 | .ret,_,_,A,hq,h=>hq _ A (.refl _ _) h
 | .exit _,_,_,A,hq,h=>hq _ A (.refl _ _) h
 | .seq x y,Q,Q',A,hq,h=>cVC_mono x A (fun e A' ha q=>by
   cases e with
   | normal=>exact cVC_mono y A' (fun e A'' hb=>hq e A'' (ha.trans hb)) q
   | _=>exact hq _ _ (ha.mono fun i hi=>List.mem_append_left _ hi) q) h
 | .cond c x y,_,_,A,hq,h=>⟨h.1,h.2.1,fun hb=>cVC_mono x A (fun e A' ha=>hq e A' (ha.mono fun i hi=>List.mem_append_left _ hi)) (h.2.2.1 hb),fun hb=>cVC_mono y A (fun e A' ha=>hq e A' (ha.mono fun i hi=>List.mem_append_right _ hi)) (h.2.2.2 hb)⟩
 | .block id c,_,_,A,hq,h=>cVC_mono c A (fun e A' ha q=>by
   cases e with
   | exit id' =>
    simp only [blockQ] at q ⊢
    split at q
    ·rename_i he; rw [if_pos he]; exact hq _ _ ha q
    ·rename_i he; rw [if_neg he]; exact hq _ _ ha q
   | _=>exact hq _ _ ha q) h
 | .region _ _ true,_,_,A,hq,h=>⟨h.1,h.2.1,YldA.mono _ A (fun B hB hd=>draws2_mono (fz:=fz) _ B (fun A' ha q=>eopsIf_mono (fun A'' hb q=>hq _ A'' ((hB.trans (ha.trans hb)).mono fun i hi=>by
   rcases List.mem_append.1 hi with h | h
   ·exact ylds_owr _ _ h
   ·rcases List.mem_append.1 h with h | h <;> exact h) q) q) hd) h.2.2⟩
 | .region _ _ false,_,_,A,hq,h=>ops2_mono _ A (fun A' ha q=>hq _ A' ha q) h
 | .loop c,_,_,_,hq,h=>VC.mono h fun e A' q=>⟨hq e A' q.2 q.1,q.2⟩
 | .rangeFunc ..,_,_,_,_,h=>h.elim
 | .scope ..,_,_,_,_,h=>h.elim
 | .label ..,_,_,_,_,h=>h.elim
 | .goto ..,_,_,_,_,h=>h.elim
 | .refuse ..,_,_,_,_,h=>h.elim

def YldIf (fz : List Nat) (l : List Oper) (A : AState) (k : AState → Prop) (_ : Tag k) : Prop:=YldA (ylds fz l) A k
def YldM (fz : List Nat) (l : List Oper) (A : AState) (k : AState → Prop) (_ : Tag k) : Prop:=YldA (ylds fz l) A k
theorem YldM.no {l : List Oper} {k : AState → Prop} (h : ylds fz l = []) (hk : k A) : YldM fz l A k .mk:=by
 unfold YldM
 rw [h]
 exact hk
theorem YldM.of {l : List Oper} {k : AState → Prop} (ds : List Nat) (h : ylds fz l = ds) (hk : YldA ds A k) : YldM fz l A k .mk:=by
 unfold YldM
 rw [h]
 exact hk
theorem YldA.done {k : AState → Prop} (hk : k A) : YldA [] A k:=hk
theorem JoinVC.cut {b : Bool} {x y z : Code} {Q : Exit → AState → Prop} (R : AState → Prop) (h : ∀ A,R A → cVC P W0 n fz z Q A) (h1 : b = true → cVC P W0 n fz x (thenQ R Q) A) (h2 : b = false → cVC P W0 n fz y (thenQ R Q) A) : JoinVC P W0 n fz b x .mk y .mk z .mk Q .mk A :=
 ⟨fun hb=>cVC_mono x A (fun e A' _ q=>by cases e <;> first | exact h _ q | exact q) (h1 hb),fun hb=>cVC_mono y A (fun e A' _ q=>by cases e <;> first | exact h _ q | exact q) (h2 hb)⟩

theorem JoinVC.both {b : Bool} {x y z : Code} {Q : Exit → AState → Prop} (h1 : b = true → cVC P W0 n fz x (thenQ (cVC P W0 n fz z Q) Q) A) (h2 : b = false → cVC P W0 n fz y (thenQ (cVC P W0 n fz z Q) Q) A) : JoinVC P W0 n fz b x .mk y .mk z .mk Q .mk A:=⟨h1,h2⟩

def keep (ks : List Nat) (A B : AState) : AState:=⟨fun i=>if ks.contains i then A.env i else B.env i,B.st⟩

theorem keep_eq {ks ws : List Nat} {B : AState} (hk : ks.all (fun i=>!ws.contains i) = true) (h : Agree ws A B) : keep ks A B = B:=by
 obtain ⟨env,st⟩:=B
 show AState.mk _ st = AState.mk env st
 congr 1
 funext i
 show (if ks.contains i then A.env i else env i) = env i
 split
 ·rename_i hi
  refine (h i fun hw=>?_).symm
  have:=List.all_eq_true.1 hk i (by simpa using hi)
  simp [hw] at this
 ·rfl

theorem JoinVC.at {b : Bool} {x y z : Code} {Q : Exit → AState → Prop} (ks : List Nat) (hks : ks.all (fun i=>!(dsts fz x ++ dsts fz y).contains i) = true) (R : AState → Prop) (h1 : b = true → cVC P W0 n fz x (thenQ R Q) A) (h2 : b = false → cVC P W0 n fz y (thenQ R Q) A)
  (h : ∀ B,R B → cVC P W0 n fz z Q (keep ks A B)) : JoinVC P W0 n fz b x .mk y .mk z .mk Q .mk A:=by
 have key : ∀ B,Agree (dsts fz x ++ dsts fz y) A B → R B → cVC P W0 n fz z Q B:=fun B ha hR=>by
  have:=h B hR
  rwa [keep_eq hks ha] at this
 exact ⟨fun hb=>cVC_mono x A (fun e A' ha q=>by cases e <;> first | exact key _ (ha.mono fun i hi=>List.mem_append_left _ hi) q | exact q) (h1 hb),fun hb=>cVC_mono y A (fun e A' ha q=>by cases e <;> first | exact key _ (ha.mono fun i hi=>List.mem_append_right _ hi) q | exact q) (h2 hb)⟩

theorem VC.cond2 {c : Operand} {x y : Code} {Q : Exit → AState → Prop} (h1 : okM none (A.val c)) (h2 : isBl (unm (A.val c))) (ht : bl (unm (A.val c)) = true → VC P W0 n x Q A) (hf : bl (unm (A.val c)) = false → VC P W0 n y Q A) : VC P W0 n (.cond c x y) Q A:=fun w C a hr=>by
 have hv:=hr.val c
 have hb : a.eval c = .bool (bl (unm (A.val c))):=by
  revert hv h1 h2
  generalize A.val c = u
  intro h1 h2 hv
  cases u <;> first | exact h2.elim | exact hv.bool_inv | skip
  rename_i g v
  have:=hv.strip h1
  cases v <;> first | exact h2.elim | exact this.bool_inv
 exact wp_cond_split hb (fun h=>ht h w C a hr) (fun h=>hf h w C a hr)

theorem cVC_sound : ∀ (c : Code) (Q : Exit → AState → Prop) (A : AState),cVC P W0 n fz c Q A → VC P W0 n c Q A
 | .skip,_,_,h=>.skip h
 | .ret,_,_,h=>.ret h
 | .exit _,_,_,h=>.exit h
 | .seq x y,Q,A,h=>.seq ((cVC_sound x _ A h).mono fun e A' q=>by
   cases e with
   | normal=>exact cVC_sound y Q A' q
   | _=>exact q)
 | .cond c x y,Q,A,h=>.cond2 h.1 h.2.1 (fun hb=>cVC_sound x Q A (h.2.2.1 hb)) (fun hb=>cVC_sound y Q A (h.2.2.2 hb))
 | .block id c,Q,A,h=>.block (cVC_sound c _ A h)
 | .region id ops true,Q,A,h=>.yld _ A (YldA.mono _ A (fun A1 _ hd=>by
  obtain ⟨vs,ss,B,h3,h4⟩:=draws2_seq _ _ _ hd
  have h5:=eopsIf_sound h4
  have:=VC.draws (id:=id) (l:=ops.toList) (Q:=Q) (A:=A1) (ac:=mkAnc [] ops.toList) h.1 (by have:=h.2.1; unfold DepOk at this; simpa using this) ⟨vs,ss,B,by simpa using h3,h5⟩
  simpa using this) h.2.2)
 | .region id ops false,Q,A,h=>by
  have h3:=ops2_sound _ _ _ h
  have:=VC.region (id:=id) (l:=ops.toList) (fz:=fz) (Q:=Q) (by simpa using h3)
  simpa using this
 | .loop c,Q,A,h=>VC.mono h fun _ _ q=>q.1
 | .rangeFunc ..,_,_,h=>h.elim
 | .scope ..,_,_,h=>h.elim
 | .label ..,_,_,h=>h.elim
 | .goto ..,_,_,h=>h.elim
 | .refuse ..,_,_,h=>h.elim

end
end Go.Av
end
section
namespace Go.Av
open Go

inductive Small : AV → Prop
 | undef : Small .undef
 | int (k n) : Small (.int k n)
 | bool (b) : Small (.bool b)
 | str {l : List UInt8} : l.length ≤ maxLen → Small (.str l)
 | nil : Small .nil
 | nils : Small .nils
 | nilm : Small .nilm
 | niface : Small .niface
 | iface {t v} : Small v → Small (.iface t v)
 | sl {e} {xs : List AV} : xs.length ≤ maxLen → (∀ x ∈ xs,Small x) → Small (.sl e xs)
 | lit {e} {xs : List AV} : xs.length ≤ maxLen → (∀ x ∈ xs,Small x) → Small (.lit e xs)
 | own {e} {xs : List AV} {tok} : xs.length ≤ maxLen → (∀ x ∈ xs,Small x) → Small (.own e xs tok)
 | row {e id off n} : n ≤ maxLen → Small (.row e id off n)
 | agg {t} {fs : List AV} : (∀ x ∈ fs,Small x) → Small (.agg t fs)
 | loc {t v} : Small v → Small (.loc t v)
 | ptr (t id i path) : Small (.ptr t id i path)
 | it (id) : Small (.it id)
 | mp (id) : Small (.mp id)
 | fn {f} {caps : List AV} : (∀ x ∈ caps,Small x) → Small (.fn f caps)
 | tup {vs : List AV} : (∀ x ∈ vs,Small x) → Small (.tup vs)
 | maybe {g v} : (g = true → Small v) → Small (.maybe g v)

section
variable {P : Program} {W0 w w' : World} {C C' : Ctx} {σ σ' : Store} {n : Nat} {A : AState} {a : Act} {fz : List Nat}

theorem small_mem {xs : List AV} (h : ∀ (i : Nat) (x : AV),xs[i]? = some x → Small x) : ∀ x ∈ xs,Small x:=fun x hx=>by
 obtain ⟨i,hi,he⟩:=List.getElem_of_mem hx
 exact h i x (by rw [← he]; exact List.getElem?_eq_getElem hi)

theorem Rel.small {x : AV} {cs : List Value} (h : Rel P w C x cs) : Small x:=by
 induction h with
 | int k n=>exact .int k n
 | bool b=>exact .bool b
 | str h=>exact .str h
 | nil=>exact .nil
 | nils=>exact .nils
 | nilm=>exact .nilm
 | niface=>exact .niface
 | iface _ _ ih=>exact .iface ih
 | sl cf h1 h2 _ _ _ ih=>exact .sl (Nat.le_trans h1 h2) (small_mem ih)
 | lit cf h1 _ _ _ ih=>exact .lit h1 (small_mem ih)
 | own cf h1 h2 _ _ _ _ _ ih=>exact .own (Nat.le_trans h1 h2) (small_mem ih)
 | row h1 h2=>exact .row (Nat.le_trans h1 h2)
 | agg cf _ _ _ _ _ _ ih=>exact .agg (small_mem ih)
 | loc _ _ _ _ ih=>exact .loc ih
 | ptr=>exact .ptr ..
 | it=>exact .it _
 | mp=>exact .mp _
 | fn h1 h2 h3 ih=>exact .fn (small_mem fun i x hx=>ih i x _ hx (List.getElem?_eq_getElem (by rw [← h1]; exact (List.getElem?_eq_some_iff.1 hx).1)))

theorem RelV.small {x : AV} {v : Value} (h : RelV P w C x v) : Small x:=by
 induction h with
 | undef=>exact .undef
 | maybe _ _ ih=>exact .maybe ih
 | tup h1 _ ih=>exact .tup (small_mem fun i x hx=>ih i x _ hx (List.getElem?_eq_getElem (by rw [← h1]; exact (List.getElem?_eq_some_iff.1 hx).1)))
 | agg h=>exact h.small
 | one _ h=>exact h.small

structure WkA (A B : AState) : Prop where
 env : ∀ i,Weak (A.env i) (B.env i)
 st : A.st = B.st

theorem WkA.refl (A : AState) : WkA A A:=⟨fun _=>.refl _,rfl⟩
theorem WkA.upd {A B : AState} {d : Nat} {v : AV} (h : WkA A B) (hv : Weak (A.env d) v) : WkA A (B.upd d v):=⟨fun i=>by
 by_cases hi : i = d
 ·subst hi; rw [AState.upd_same]; exact hv
 ·rw [AState.upd_ne B v hi]; exact h.env i,h.st⟩

def Back (I : AState → Prop) (A : AState) : Prop:=I A
theorem Back.here {I : AState → Prop} (h : I A) : Back I A:=h

def Fall (I : Nat → AState → Prop) (k : Nat) (A : AState) : Prop:=∃ k',k' < k ∧ I k' A
theorem Fall.here {I : Nat → AState → Prop} {k : Nat} (k' : Nat) (hk : k' < k) (h : I k' A) : Fall I k A:=⟨k',hk,h⟩

def Kept (fz : List Nat) (c : Code) (_ : Tag c) (ks : List Nat) : Prop:=ks.all (fun i=>!(dsts fz c).contains i) = true
theorem Kept.of {c : Code} {ks : List Nat} (h : ks.all (fun i=>!(dsts fz c).contains i) = true) : Kept fz c .mk ks:=h
theorem Kept.nil {c : Code} : Kept fz c .mk []:=rfl

theorem LoopVC.falls {c : Code} {Q : Exit → AState → Prop} (ks : List Nat) (hks : Kept fz c .mk ks) (I : Nat → AState → Prop) (k₀ : Nat) (h₀ : I k₀ A)
  (round : ∀ k B,I k B → cVC P W0 n fz c (thenQ (Fall I k) Q) (keep ks A B)) : LoopVC P W0 n fz c .mk Q .mk A:=by
 refine .loop (fun k B=>Agree (dsts fz c) A B ∧ I k B) k₀ ⟨.refl _ _,h₀⟩ fun k B ⟨ha,hI⟩=>?_
 have h1:=round k B hI
 rw [keep_eq hks ha] at h1
 refine (cVC_sound c _ B (cVC_mono (Q':=thenQ (fun A'=>∃ k',k' < k ∧ Agree (dsts fz c) A A' ∧ I k' A') fun e A'=>Q e A' ∧ Agree (dsts fz c) A A') c B (fun e A' hb q=>?_) h1))
 have hab : Agree (dsts fz c) A A':=(ha.trans hb).mono fun i hi=>by rcases List.mem_append.1 hi with h | h <;> exact h
 cases e with
 | normal =>
  obtain ⟨k',hk,hI'⟩:=q
  exact ⟨k',hk,hab,hI'⟩
 | _=>exact ⟨q,hab⟩

theorem LoopVC.upto {c : Code} {Q : Exit → AState → Prop} (ks : List Nat) (hks : Kept fz c .mk ks) (N : Nat) (I : Nat → AState → Prop) (i₀ : Nat) (hi₀ : i₀ ≤ N) (h₀ : I i₀ A)
  (round : ∀ i B,i ≤ N → I i B → cVC P W0 n fz c (thenQ (fun A'=>i < N ∧ I (i + 1) A') Q) (keep ks A B)) : LoopVC P W0 n fz c .mk Q .mk A:=by
 refine .falls ks hks (fun k B=>∃ i,i ≤ N ∧ k = N - i ∧ I i B) (N - i₀) ⟨i₀,hi₀,rfl,h₀⟩ fun k B ⟨i,hi,hk,hI⟩=>?_
 refine cVC_mono c _ (fun e A' _ q=>?_) (round i B hi hI)
 cases e with
 | normal=>exact ⟨N - (i + 1),by have:=q.1; omega,i + 1,q.1,rfl,q.2⟩
 | _=>exact q

theorem VC.falls {c : Code} {Q : Exit → AState → Prop} (fz : List Nat) (I : Nat → AState → Prop) (k₀ : Nat) (h₀ : Back (I k₀) A)
  (round : ∀ k A,I k A → cVC P W0 n fz c (thenQ (Fall I k) Q) A) : LoopVC P W0 n fz c .mk Q .mk A:=.falls [] .nil I k₀ h₀ round

theorem VC.upto {c : Code} {Q : Exit → AState → Prop} (fz : List Nat) (N : Nat) (I : Nat → AState → Prop) (i₀ : Nat) (hi₀ : i₀ ≤ N) (h₀ : Back (I i₀) A)
  (round : ∀ i A,i ≤ N → I i A → cVC P W0 n fz c (thenQ (fun A'=>i < N ∧ Back (I (i + 1)) A') Q) A) : LoopVC P W0 n fz c .mk Q .mk A:=.upto [] .nil N I i₀ hi₀ h₀ round

theorem LoopVC.at {c : Code} {id : Nat} {K : AState → Prop} {Q : Exit → AState → Prop} (ks : List Nat) (hks : Kept fz c .mk ks) (R : AState → Prop) (h : LoopVC P W0 n fz c .mk (blockQ id (thenQ R Q)) .mk A) (hR : ∀ B,R B → K (keep ks A B)) : LoopVC P W0 n fz c .mk (blockQ id (thenQ K Q)) .mk A :=
 VC.mono h fun e A' ⟨q,ha⟩=>by
  have key : R A' → K A':=fun hr=>by
   have:=hR A' hr
   rwa [keep_eq hks ha] at this
  refine ⟨?_,ha⟩
  cases e with
  | normal=>exact key q
  | exit id' =>
   simp only [blockQ] at q ⊢
   split at q
   ·rename_i he; rw [if_pos he]; exact key q
   ·rename_i he; rw [if_neg he]; exact q
  | _=>exact q

theorem LoopVC.cut {c : Code} {id : Nat} {K : AState → Prop} {Q : Exit → AState → Prop} (R : AState → Prop) (hR : ∀ A,R A → K A) (h : LoopVC P W0 n fz c .mk (blockQ id (thenQ R Q)) .mk A) : LoopVC P W0 n fz c .mk (blockQ id (thenQ K Q)) .mk A:=.at [] .nil R h hR

def EndP (ts : List Nat) (r : AV) (σ : Store) : Exit → AState → Prop
 | .normal,A | .ret,A=>Weak (resOf A.env ts) r ∧ A.st.take σ.length = σ
 | _,_=>False

theorem fn_pure {f : FuncId} {fn : Func} {c : Code} {args : List AV} {r : AV} {m : Nat} (ts : List Nat) (fz : List Nat) (hf : P.funcs[f]? = some fn) (hb : fn.body = some c) (hnm : (fn.name == "runtime.NumGoroutine") = false)
  (hm : fn.ntmps = m) (hargs : Nat.ble args.length m = true) (hres : fn.results = (ts.map ResultVar.tmp).toArray) (hr : IdsLt 0 r)
  (h : (∀ a ∈ args,Small a) → ∀ σ,cVC P W0 m fz c (EndP ts r σ) ⟨envOf args,σ⟩) : PureFn P W0 f args r:=fun σ=>by
 subst hm
 refine fun w C vs hst hl hv=>?_
 have hsm : ∀ a ∈ args,Small a:=small_mem fun i x hx=>(hv i x _ hx (List.getElem?_eq_getElem (by rw [← hl]; exact (List.getElem?_eq_some_iff.1 hx).1))).small
 have hvc:=cVC_sound c _ _ (h hsm σ)
 refine (acall_of_vc hf hb hnm (Nat.le_of_ble_eq_true hargs) hres (Q:=fun r' σ'=>r' = r ∧ σ' = σ) (hvc.mono fun e A' q=>?_)) w C vs hst hl hv
 have key : Weak (resOf A'.env ts) r ∧ A'.st.take σ.length = σ → EndQ ts (fun r' σ'=>r' = r ∧ σ' = σ) σ .ret A':=fun ⟨q1,q2⟩=>by
  refine ⟨r,σ,q1,⟨Nat.le_refl _,q2.symm⟩,fun id te xs hid hs=>?_,idsLt_mono (Nat.zero_le _) hr,rfl,rfl⟩
  have : σ[id]? = some (some (.cells te xs)):=by rw [← hs,← q2,List.getElem?_take,if_pos hid]
  exact hst.ids this
 cases e with
 | normal=>exact key q
 | ret=>exact key q
 | _=>exact q.elim

def appB (P : Program) (t u e : TypeId) (N : Nat) : Bool:=elT P t == some e && (elT P u == some e && (Nat.ble 1 (szOf P e) && (hasZero P e && (Nat.ble (N * bytesOf P e) 140737488355328 && Nat.ble N 9223372036854775807))))
theorem appB_inv {t u e : TypeId} {N : Nat} (h : appB P t u e N = true) : (elT P t = some e ∧ elT P u = some e ∧ 0 < szOf P e ∧ hasZero P e = true) ∧ N * bytesOf P e ≤ 140737488355328 ∧ N ≤ maxLen:=by
 simp only [appB,Bool.and_eq_true,beq_iff_eq] at h
 obtain ⟨h1,h2,h3,h4,h5,h6⟩:=h
 exact ⟨⟨h1,h2,Nat.le_of_ble_eq_true h3,h4⟩,Nat.le_of_ble_eq_true h5,Nat.le_of_ble_eq_true h6⟩

inductive Frz : AState → AState → Prop
 | refl (D : AState) : Frz D D
 | row {D B : AState} (d : Nat) {e te : TypeId} {id off m : Nat} {xs : List AV} : D.env d = .row e id off m → D.st[id]? = some (some (.cells te xs)) → off + m ≤ xs.length → Frz ((D.upd d (.sl e ((xs.drop off).take m))).withSt (D.st.set id none)) B → Frz D B

theorem RelA.frz {B : AState} (hf : Frz A B) : ∀ {C : Ctx},RelA P W0 n w C A a → ∃ C',RelA P W0 n w C' B a ∧ Step w C w C':=by
 induction hf with
 | refl A=>exact fun h=>⟨_,h,.refl _ _⟩
 | row d h1 h2 h3 _ ih =>
  intro C h
  have hv:=h.env d
  rw [h1] at hv
  have hfr:=freeze_row h.st hv h2 h3
  obtain ⟨k1,k2⟩:=h.st.kill _ (List.getElem?_eq_some_iff.1 h2).1
  have hr1:=h.step k1 k2
  have hr2 : RelA P W0 n w (C.kill _) ((AState.upd _ d (.sl _ _)).withSt (List.set _ _ none)) a:=⟨fun j=>by
   by_cases hj : j = d
   ·subst hj; simpa [AState.upd,AState.withSt] using hfr
   ·have:=hr1.env j; simpa [AState.upd,AState.withSt,hj] using this,hr1.defers,hr1.size,hr1.st⟩
  obtain ⟨C',g1,g2⟩:=ih hr2
  exact ⟨C',g1,k1.trans g2⟩

def EndR (R : AState → Prop) : Exit → AState → Prop
 | .normal,A | .ret,A=>∃ A',Frz A A' ∧ R A'
 | _,_=>False

theorem EndR.ret {R : AState → Prop} (h : R A) : EndR R .ret A:=⟨A,.refl A,h⟩
theorem EndR.normal {R : AState → Prop} (h : R A) : EndR R .normal A:=⟨A,.refl A,h⟩
theorem EndR.frz {R : AState → Prop} {x : Exit} (d : Nat) {e te : TypeId} {id off m : Nat} {xs : List AV} (h1 : A.env d = .row e id off m) (h2 : A.st[id]? = some (some (.cells te xs))) (h3 : off + m ≤ xs.length)
  (h : EndR R x ((A.upd d (.sl e ((xs.drop off).take m))).withSt (A.st.set id none))) : EndR R x A:=by
 cases x with
 | normal=>obtain ⟨A',g1,g2⟩:=h; exact ⟨A',.row d h1 h2 h3 g1,g2⟩
 | ret=>obtain ⟨A',g1,g2⟩:=h; exact ⟨A',.row d h1 h2 h3 g1,g2⟩
 | _=>exact h.elim

theorem EndR.vc {R : AState → Prop} {c : Code} (h : VC P W0 n c (EndR R) A) : VC P W0 n c (fun e A'=>(e = .normal ∨ e = .ret) ∧ R A') A:=fun w C a hr =>
 wp_mono (h w C a hr) fun e a' w' ⟨A',C',q,r,s⟩=>by
  cases e with
  | normal=>obtain ⟨B,g1,g2⟩:=q; obtain ⟨C'',h1,h2⟩:=r.frz g1; exact ⟨B,C'',⟨.inl rfl,g2⟩,h1,s.trans h2⟩
  | ret=>obtain ⟨B,g1,g2⟩:=q; obtain ⟨C'',h1,h2⟩:=r.frz g1; exact ⟨B,C'',⟨.inr rfl,g2⟩,h1,s.trans h2⟩
  | _=>exact q.elim

theorem fn_call {f : FuncId} {fn : Func} {c : Code} {args : List AV} {Q : AV → Store → Prop} {m : Nat} (ts : List Nat) (fz : List Nat) (hf : P.funcs[f]? = some fn) (hb : fn.body = some c) (hnm : (fn.name == "runtime.NumGoroutine") = false)
  (hm : fn.ntmps = m) (hargs : Nat.ble args.length m = true) (hres : fn.results = (ts.map ResultVar.tmp).toArray)
  (h : (∀ a ∈ args,Small a) → cVC P W0 m fz c (EndR fun A=>∃ r,Weak (resOf A.env ts) r ∧ σ.length ≤ A.st.length ∧ Q r A.st) ⟨envOf args,σ⟩) : ACall P W0 f args σ Q:=by
 subst hm
 refine fun w C vs hst hl hv=>?_
 have hsm : ∀ a ∈ args,Small a:=small_mem fun i x hx=>(hv i x _ hx (List.getElem?_eq_getElem (by rw [← hl]; exact (List.getElem?_eq_some_iff.1 hx).1))).small
 have hvc:=EndR.vc (cVC_sound c _ _ (h hsm))
 refine .inl ⟨⟨fn,hf,by simp [hb],hnm⟩,calls_of_wp hf hb (wp_mono (hvc w C _ (rel_entry hst hl hv (Nat.le_of_ble_eq_true hargs))) fun e a' w' ⟨A',C',q,r,s⟩=>?_)⟩
 have fin : a'.defers = [] ∧ ∃ v,(results fn a'.tmps).run P w' = .ok v w' ∧ ∃ v₁ r σ' C',Ending.returned v = .returned v₁ ∧ Q r σ' ∧ StRel P W0 w' C' σ' ∧ RelV P w' C' r v₁ ∧ Step w C w' C':=by
  obtain ⟨_,r1,h2,_,h4⟩:=q
  obtain ⟨v,g1,g2⟩:=results_rel r hres
  exact ⟨r.defers,v,g1,v,r1,A'.st,C',rfl,h4,r.st,g2.weak h2,s⟩
 rcases q.1 with rfl | rfl
 ·exact fin
 ·exact fin

theorem fn_st {f : FuncId} {fn : Func} {c : Code} {args : List AV} {r : AV} {m : Nat} (ts : List Nat) (fz : List Nat) (hf : P.funcs[f]? = some fn) (hb : fn.body = some c) (hnm : (fn.name == "runtime.NumGoroutine") = false)
  (hm : fn.ntmps = m) (hargs : Nat.ble args.length m = true) (hres : fn.results = (ts.map ResultVar.tmp).toArray) (hr : IdsLt σ.length r)
  (h : (∀ a ∈ args,Small a) → cVC P W0 m fz c (EndR fun A=>Weak (resOf A.env ts) r ∧ A.st.take σ.length = σ) ⟨envOf args,σ⟩) : ACall P W0 f args σ fun r' σ'=>r' = r ∧ σ' = σ:=by
 subst hm
 refine fun w C vs hst hl hv=>?_
 have hsm : ∀ a ∈ args,Small a:=small_mem fun i x hx=>(hv i x _ hx (List.getElem?_eq_getElem (by rw [← hl]; exact (List.getElem?_eq_some_iff.1 hx).1))).small
 have hvc:=EndR.vc (cVC_sound c _ _ (h hsm))
 refine (acall_of_vc hf hb hnm (Nat.le_of_ble_eq_true hargs) hres (Q:=fun r' σ'=>r' = r ∧ σ' = σ) (hvc.mono fun e A' ⟨he,q1,q2⟩=>?_)) w C vs hst hl hv
 have key : EndQ ts (fun r' σ'=>r' = r ∧ σ' = σ) σ .ret A':=by
  refine ⟨r,σ,q1,⟨Nat.le_refl _,q2.symm⟩,fun id te xs hid hs=>?_,hr,rfl,rfl⟩
  have : σ[id]? = some (some (.cells te xs)):=by rw [← hs,← q2,List.getElem?_take,if_pos hid]
  exact hst.ids this
 rcases he with rfl | rfl
 ·exact key
 ·exact key

theorem fn_ext {f : FuncId} {fn : Func} {e : Array Value → Sem Value} {args : List AV} {r : AV} (hf : P.funcs[f]? = some fn) (hname : (fn.name == "runtime.NumGoroutine") = false)
  (hb : fn.body.isNone = true) (hn : Extern.findNext fn = none) (he : Extern.find fn = some e) (h : ∀ w C (vs : List Value),args.length = vs.length → (∀ (i : Nat) (a : AV) (v : Value),args[i]? = some a → vs[i]? = some v → RelV P w C a v) → ∃ v,(e vs.toArray).run P w = .ok v w ∧ RelV P w C r v) : PureFn P W0 f args r:=fun σ w C vs hst hl hv=>by
 obtain ⟨v,h1,h2⟩:=h w C vs hl hv
 refine .inr ⟨v,w,?_,v,r,σ,C,rfl,⟨rfl,rfl⟩,hst,h2,.refl _ _⟩
 rw [run_callFunc_extern hf hname hb hn he,h1]
 rfl

theorem AppA.own {t u e : TypeId} {x y : AV} {xs ys : List AV} {dst : Option Nat} {k : AState → Prop} (N : Nat) (ho : appB P t u e N = true) (hb : Bld A.st x e xs) (hy : ReadL A.st y e ys) (hN : xs.length + ys.length ≤ N)
  (hk : ∀ v σ',App A.st x e (xs ++ ys) v σ' → k ((A.put dst v).withSt σ')) : AppA P [t,u] [x,y] dst A k .mk:=by
 obtain ⟨h1,h2,h3⟩:=appB_inv ho
 exact .inl ⟨e,xs,ys,h1,hb,hy,Nat.le_trans (Nat.mul_le_mul_right _ hN) h2,Nat.le_trans hN h3,hk⟩

theorem AppA.row {t u e : TypeId} {x y : AV} {xs ys : List AV} {dst : Option Nat} {k : AState → Prop} (N : Nat) (ho : appB P t u e N = true) (hb : RowSt A.st x e xs) (hy : ReadL A.st y e ys) (hN : xs.length + ys.length ≤ N)
  (h0 : ys = [] → k ((A.put dst x).withSt A.st)) (hk : ys ≠ [] → k ((A.put dst (.row e A.st.length 0 (xs.length + ys.length))).withSt (killOf x A.st ++ [some (.cells e (xs ++ ys))]))) : AppA P [t,u] [x,y] dst A k .mk:=by
 obtain ⟨h1,h2,h3⟩:=appB_inv ho
 exact .inr (.inl ⟨e,xs,ys,h1,hb,hy,Nat.le_trans (Nat.mul_le_mul_right _ hN) h2,Nat.le_trans hN h3,h0,hk⟩)

theorem AppA.zero {t u e : TypeId} {k' kn : IntKind} {m : Nat} {z : AV} {dst : Option Nat} {k : AState → Prop} (N : Nat) (ht : elT P t = some e) (hu : P.underlying u = some (.int kn)) (hz : zeroOf P e = some z) (ho : (Nat.ble 1 (szOf P e) && (hasZero P e && (Nat.ble (N * bytesOf P e) 140737488355328 && Nat.ble N 9223372036854775807))) = true) (h0 : 0 < m) (hN : m ≤ N)
  (hk : k ((A.put dst (.row e A.st.length 0 m)).withSt (A.st ++ [some (.cells e (List.replicate m z))]))) : AppA P [t,u] [.nils,.int k' m] dst A k .mk:=by
 simp only [Bool.and_eq_true] at ho
 obtain ⟨h1,h2,h3,h4⟩:=ho
 exact .inr (.inr (.inl ⟨e,m,z,k',kn,⟨rfl,rfl⟩,⟨ht,hu,Nat.le_of_ble_eq_true h1,h2,hz⟩,h0,Nat.le_trans (Nat.mul_le_mul_right _ hN) (Nat.le_of_ble_eq_true h3),Nat.le_trans hN (Nat.le_of_ble_eq_true h4),hk⟩))

theorem AppA.keep {t u e : TypeId} {id off m : Nat} {y : AV} {zs ys : List AV} {dst : Option Nat} {k : AState → Prop} (N : Nat) (ho : appB P t u e N = true) (hs : A.st[id]? = some (some (.cells e zs))) (hm : off + m = zs.length) (hy : ReadL A.st y e ys) (hN : m + ys.length ≤ N)
  (hin : k ((A.put dst (.row e id off (m + ys.length))).withSt (A.st.set id (some (.cells e (zs ++ ys)))))) (hnew : k ((A.put dst (.row e A.st.length 0 (m + ys.length))).withSt (A.st ++ [some (.cells e (zs.drop off ++ ys))]))) : AppA P [t,u] [.row e id off m,y] dst A k .mk:=by
 obtain ⟨h1,h2,h3⟩:=appB_inv ho
 exact .inr (.inr (.inr (.inr (.inl ⟨e,id,off,m,zs,ys,h1,rfl,hs,hm,hy,Nat.le_trans (Nat.mul_le_mul_right _ hN) h2,Nat.le_trans hN h3,hin,hnew⟩))))
theorem ClearA.row {t e : TypeId} {id off m : Nat} {zs : List AV} {v : AV} {dst : Option Nat} {k : AState → Prop} (h1 : elT P t = some e) (h3 : 0 < szOf P e) (hz : zeroOf P e = some v) (hs : A.st[id]? = some (some (.cells e zs))) (hN : off + m ≤ zs.length)
  (hk : k ((A.put dst (.tup [])).withSt (A.st.set id (some (.cells e (laidL zs off (List.replicate m v))))))) : ClearA P [t] [.row e id off m] dst A k .mk :=
 ⟨e,id,off,m,zs,v,⟨h1,h3,hz⟩,rfl,hs,hN,hk⟩
theorem PutA.put {t kt vt : TypeId} {id : Nat} {ix v : AV} {l : List (AV × AV)} {k : AState → Prop} (h1 : mapT P t = some (kt,vt)) (h2 : Maps.Keyed P kt) (h3 : keyC P kt ix) (h4 : (rig1 v).isSome = true) (hs : A.st[id]? = some (some (.mp kt l)))
  (hk : k (A.withSt (A.st.set id (some (.mp kt (mset P l ix v)))))) : PutA P t (.mp id) ix v A k .mk:=⟨kt,vt,l,h1,h2,h3,h4,hs,hk⟩

theorem MakeA.go {t e : TypeId} {k k' : IntKind} {m : Nat} {z : AV} {dst : Option Nat} {K : AState → Prop} (N : Nat) (ht : elT P t = some e) (hz : zeroOf P e = some z) (ho : (Nat.ble 1 (szOf P e) && Nat.ble (N * bytesOf P e) 281474976710656 && Nat.ble N 9223372036854775807) = true) (hN : m ≤ N)
  (hk : K ((A.put dst (.row e A.st.length 0 m)).withSt (A.st ++ [some (.cells e (List.replicate m z))]))) : MakeA P t (.int k m) (.int k' m) dst A K .mk:=by
 rw [Bool.and_eq_true,Bool.and_eq_true] at ho
 refine ⟨rfl,?_⟩
 simp only [ht,hz,Int.toNat_natCast]
 refine ⟨Nat.le_of_ble_eq_true ho.1.1,Int.natCast_nonneg _,Nat.le_trans (Nat.mul_le_mul_right _ hN) (Nat.le_of_ble_eq_true ho.1.2),Nat.le_trans hN (Nat.le_of_ble_eq_true ho.2),hk⟩

theorem PureSt.of {so : Option Store} {g : FuncId} {us : List AV} {r : AV} (h : PureFn P W0 g us r) : PureSt P W0 so g us r:=by cases so <;> first | exact h | exact h _
theorem CallP.go {gd : Option Bool} {so : Option Store} {g : FuncId} {caps us : List AV} {dst : Option Nat} {k : AState → Prop} {r : AV} (h : imp gd (PureFn P W0 g (us ++ caps) r)) (hk : k (A.put dst (wrapG gd r))) : CallP P W0 gd so (.fn g caps) us dst A k .mk:=⟨r,h.map .of,hk⟩
theorem CallP.st {gd : Option Bool} {g : FuncId} {caps us : List AV} {dst : Option Nat} {k : AState → Prop} {r : AV} (h : imp gd (ACall P W0 g (us ++ caps) σ fun r' σ'=>r' = r ∧ σ' = σ)) (hk : k (A.put dst (wrapG gd r))) : CallP P W0 gd (some σ) (.fn g caps) us dst A k .mk:=⟨r,h,hk⟩
theorem CallP.fn {gd : Option Bool} {so : Option Store} {g : FuncId} {us : List AV} {dst : Option Nat} {k : AState → Prop} {r : AV} (h : PureFn P W0 g us r) (hk : k (A.put dst (wrapG gd r))) : CallP P W0 gd so (.fn g []) us dst A k .mk:=⟨r,.of (.of (by simpa using h)),hk⟩
theorem CallP.fnG {G : Bool} {so : Option Store} {g : FuncId} {us : List AV} {dst : Option Nat} {k : AState → Prop} {r : AV} (h : G = true → PureFn P W0 g us r) (hk : k (A.put dst (.maybe G r))) : CallP P W0 (some G) so (.fn g []) us dst A k .mk:=⟨r,fun hg=>.of (by simpa using h hg),hk⟩

theorem put_withSt (dst : Option Nat) (r : AV) : (A.put dst r).withSt A.st = A.put dst r:=by cases dst <;> rfl

theorem CallA.pure {g : FuncId} {caps us : List AV} {dst : Option Nat} {k : AState → Prop} {r : AV} (h : PureFn P W0 g (us ++ caps) r) (hk : k (A.put dst r)) : CallA P W0 (.fn g caps) us dst A k .mk :=
 (h A.st).mono fun r' σ' ⟨h1,h2⟩=>by subst h1 h2; rw [put_withSt]; exact hk
theorem CallA.fn {g : FuncId} {us : List AV} {dst : Option Nat} {k : AState → Prop} {r : AV} (h : PureFn P W0 g us r) (hk : k (A.put dst r)) : CallA P W0 (.fn g []) us dst A k .mk:=.pure (by simpa using h) hk

end
end Go.Av
end
