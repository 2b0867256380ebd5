/- Texts that the last one of this claim rests on: a layer over the guide's own conditions for code; contracts of the functions that the law reaches, one by one. No conditions beside those of the given rows. -/
import Derived.Laws.Externs
import Derived.Test.YtbooehmmhbioaaaGreatDoorWab
set_option linter.unusedSimpArgs false
set_option linter.unusedVariables false
section
namespace Go.Av
open Go
def qJ (ops:Array Oper)(j:Nat):Option Nat:=(ops[j]?).bind (·.dst)
def cS (gd:Option Bool)(v:AV):AV:=match gd with|none=>v|some G=>.maybe G v
def gdV (want:Bool):AV→Bool| .bool b=>b==want| .maybe g (.bool b)=>g&&(b==want)|_=>false
def gdC :AV→Prop| .bool _=>True| .maybe _ (.bool _)=>True| .maybe g _=>g=false|_=>False
inductive Tag {α:Type}(x:α):Type|mk:Tag x
def aA (P:Program)(W0:World)(gd:Option Bool)(so:Option ab)(f:AV)(us:List AV)(dst:Option Nat)(A:aa)(k:aa→Prop)(_:Tag k):Prop:=iT P W0 gd so f us λr=>k (A.put dst (cS gd r))
def an (P:Program)(W0:World)(f:AV)(us:List AV)(dst:Option Nat)(A:aa)(k:aa→Prop)(_:Tag k):Prop:=
 match f with
 | .fn g caps=>aX P W0 g (us++caps) A.st λr σ'=>k ((A.put dst r).al σ')
 |_=>False
def bX (P:Program)(ts:List TypeId)(us:List AV)(dst:Option Nat)(A:aa)(k:aa→Prop)(_:Tag k):Prop:=
 match us with
 |[x,y]=>(oJ P A.st ts x y λv σ'=>k ((A.put dst v).al σ'))∨(jO P A.st ts x y λv σ'=>k ((A.put dst v).al σ'))∨(iE P A.st ts x y λv σ'=>k ((A.put dst v).al σ'))∨kC P A.st ts x y (λv σ'=>k ((A.put dst v).al σ'))∨iH P A.st ts x y (λv σ'=>k ((A.put dst v).al σ'))∨ju P A.st ts x y λv σ'=>k ((A.put dst v).al σ')
 |_=>False
def nh (P:Program)(ts:List TypeId)(us:List AV)(dst:Option Nat)(A:aa)(k:aa→Prop)(_:Tag k):Prop:=
 match us with
 |[x]=>ry P A.st ts x λσ'=>k ((A.put dst (.tup [])).al σ')
 |_=>False
def DR (P:Program)(t:TypeId)(u ix v:AV)(A:aa)(k:aa→Prop)(_:Tag k):Prop:=vp P A.st t u ix v λσ'=>k (A.al σ')
def ovM (fz:List Nat):Option Nat→Bool|some d=>fz.contains (5000000+d)|none=>false
def BH (σ:ab)(id m:Nat):Prop:=∃ te zs,σ[id]?=some (some (.cells te zs))∧m≤zs.length
def xX (P:Program)(A:aa)(t:TypeId)(lo hi mx:Option Operand):AV→Prop
 | .row e id off m=>elT P t=some e∧0<ae P e∧ni none A lo∧ni none A hi∧cw A 0 lo≤cw A m hi∧(match mx with
  |none=>BH A.st id (off+cw A m hi)
  |some _=>lo.isSome=true∧hi.isSome=true∧ni none A mx∧cw A m hi≤cw A m mx∧cw A m mx≤m)
 |_=>False
def xR (A:aa)(lo hi mx:Option Operand):AV→AV
 | .row e id off m=>(match mx with|none=>.row e id (off+cw A 0 lo) (cw A m hi-cw A 0 lo)|some _=>.undef)
 |_=>.undef
theorem DX {P:Program}{A:aa}{t:TypeId}{lo hi mx:Option Operand}{u:AV}{K:AV→Prop}(h1:xX P A t lo hi mx u)(h2:K (xR A lo hi mx u)):Ac P A t u lo hi mx K:=by
 unfold xX at h1
 split at h1
 ·obtain⟨g1,g2,g3,g4,g5,g6⟩:=h1
  refine⟨⟨g1,g2⟩,?_⟩
  cases mx with
  |none=>
   obtain⟨te,zs,e1,e2⟩:=g6
   exact fU g3 (fU g4 ⟨⟨g5,te,zs,e1,e2⟩,h2⟩)
  |some y=>exact⟨⟨g6.1,g6.2.1⟩,fU g3 (fU g4 (fU g6.2.2.1 ⟨⟨g5,g6.2.2.2.1,g6.2.2.2.2⟩,h2⟩))⟩
 ·exact h1.elim
def qy (P:Program)(s d:TypeId)(u:AV)(dst:Option Nat)(A:aa)(k:aa→Prop)(_:Tag k):Prop:=Ci P A.st s d u λv σ'=>k ((A.put dst v).al σ')
def yQ (P:Program)(t:TypeId)(u v:AV)(dst:Option Nat)(A:aa)(k:aa→Prop)(_:Tag k):Prop:=vT P A t u v λr σ'=>k ((A.put dst r).al σ')
def df (σ:ab)(id i:Nat)(path:List Nat)(v:AV):ab:=
 match σ[id]? with
 |some (some (.cells te xs))=>σ.set id (some (.cells te (xs.set i ((xs[i]?.getD .undef).setAt path v))))
 |_=>σ
def ic (P:Program)(fz:List Nat)(t:TypeId)(x:Operand)(v:AV)(A:aa)(k:aa→Prop)(_:Tag k):AV→Prop
 | .ptr t' id i path=>t'=t∧bo P t v=true∧(look A.st id i path).isSome=true∧(match x with
  | .tmp d=>if fz.contains d then path=[]∧k ((A.upd d (.loc t v)).al (A.st.set id none))else k (A.al (df A.st id i path v))
  |_=>False)
 |_=>False
def xO (id:Nat)(dst:Option Nat)(A:aa)(k:aa→Prop):Option (Option cY)→Prop
 |some (some (.iter l pos))=>(pos<l.length→k ((A.put dst (.tup [.bool true,.int .i64 pos,.int .i32 (gq l pos).1])).al (A.st.set id (some (.iter l (pos+(gq l pos).2))))))∧(l.length≤pos→k (A.put dst (.tup [.bool false])))
 |_=>False
def s6 (P:Program)(t:TypeId)(dst:Option Nat)(A:aa)(k:aa→Prop):AV→Prop
 | .str l=>bK P t=true∧k ((A.put dst (.it A.st.length)).al (A.st++[some (.iter l 0)]))
 |_=>False
def xh (dst:Option Nat)(A:aa)(k:aa→Prop):AV→Prop
 | .it id=>xO id dst A k A.st[id]?
 |_=>False
def vop (P:Program)(W0:World)(gd:Option Bool)(so:Option ab)(dst:Option Nat)(A:aa)(k:aa→Prop):Op→Prop
 | .call c=>(match c.callee with
  | .value f=>okM gd (A.val f)∧dQ gd A c.args.toList∧aA P W0 gd so (unm (A.val f)) (cq A c.args.toList) dst A k .mk
  |_=>imp gd (opC P gd A (.call c))∧k (A.put dst (cS gd (opV P gd A (.call c)))))
 |op=>imp gd (opC P gd A op)∧k (A.put dst (cS gd (opV P gd A op)))
def op2 (P:Program)(W0:World)(fz:List Nat)(dst:Option Nat)(A:aa)(k:aa→Prop):Op→Prop
 | .call c=>(match c.callee with
  | .value f=>okM none (A.val f)∧dQ none A c.args.toList∧an P W0 (unm (A.val f)) (cq A c.args.toList) dst A k .mk
  | .builtin .append=>dQ none A c.args.toList∧bX P c.argTypes.toList (cq A c.args.toList) dst A k .mk
  | .builtin .clear=>dQ none A c.args.toList∧nh P c.argTypes.toList (cq A c.args.toList) dst A k .mk
  |_=>vop P W0 none (some A.st) dst A k (.call c))
 | .box t x=>(match dst with
  |some d=>if fz.contains d then vop P W0 none (some A.st) dst A k (.box t x)
   else okM none (A.val x)∧bo P t (unm (A.val x))=true∧k ((A.upd d (.ptr t A.st.length 0 [])).al (A.st++[some (.cells t [unm (A.val x)])]))
  |none=>False)
 | .alloc t=>(zeroOf P t).isSome=true∧k ((A.put dst (.ptr t A.st.length 0 [])).al (A.st++[some (.cells t [(zeroOf P t).getD .undef])]))
 | .makeSlice t x y=>okM none (A.val x)∧okM none (A.val y)∧yQ P t (unm (A.val x)) (unm (A.val y)) dst A k .mk
 | .store t x y=>okM none (A.val x)∧okM none (A.val y)∧ic P fz t x (unm (A.val y)) A (λA'=>k (A'.put dst .undef)) .mk (unm (A.val x))
 | .range t x=>okM none (A.val x)∧s6 P t dst A k (unm (A.val x))
 | .next x true=>okM none (A.val x)∧xh dst A k (unm (A.val x))
 | .slice t x lo hi mx=>if ovM fz dst then okM none (A.val x)∧xX P A t lo hi mx (unm (A.val x))∧k (A.put dst (xR A lo hi mx (unm (A.val x))))else vop P W0 none (some A.st) dst A k (.slice t x lo hi mx)
 | .convert s d x=>if ovM fz dst then okM none (A.val x)∧qy P s d (unm (A.val x)) dst A k .mk else vop P W0 none (some A.st) dst A k (.convert s d x)
 | .buildSlice t m ps=>if ovM fz dst then fB none A ps.toList∧eO P t m (dy A ps.toList)∧k ((A.put dst (.row ((elT P t).getD 0) A.st.length 0 m)).al (A.st++[some (.cells ((elT P t).getD 0) ((dy A ps.toList).map (·.2)))]))else vop P W0 none (some A.st) dst A k (.buildSlice t m ps)
 | .makeMap t none=>(ou P t).isSome=true∧k ((A.put dst (.mp A.st.length)).al (A.st++[some (.mp ((ou P t).getD (0,0)).1 [])]))
 | .mapUpdate t x ix y=>okM none (A.val x)∧okM none (A.val ix)∧okM none (A.val y)∧DR P t (unm (A.val x)) (unm (A.val ix)) (unm (A.val y)) A (λA'=>k (A'.put dst .undef)) .mk
 |op=>vop P W0 none (some A.st) dst A k op
def B0 (fz:List Nat):List Oper→List Nat
 |[]=>[]
 |o::r=>(match o.op with
  | .load _ (.tmp d)=>if fz.contains (6000000+d)then [d]else []
  |_=>[])++B0 fz r
def zf (fz:List Nat)(l:List Oper):List Nat:=if fz.all (λx=>decide (x<6000000))then []else B0 fz l
def wh (A:aa)(d:Nat):aa:=match A.env d with
 | .ptr t id 0 []=>(match A.st[id]? with
  |some (some (.cells te [z]))=>if te=t then(A.upd d (.loc t z)).al (A.st.set id none)else A
  |_=>A)
 |_=>A
def k9 :List Nat→aa→(aa→Prop)→Prop
 |[],A,k=>k A
 |d::r,A,k=>k9 r (wh A d) k
def xG (fz:List Nat)(id:Nat)(ops:Array Oper)(_:Tag ops):Prop:=zy fz (eM fz id) ops (Bo [] ops.toList)=true
def owr (fz:List Nat)(dst:Option Nat)(op:Op):List Nat:=match op with
 | .load _ (.tmp d)=>if fz.contains (6000000+d)then d::dst.toList else dst.toList
 | .store _ (.tmp d) _=>if fz.contains d then d::dst.toList else dst.toList
 |_=>dst.toList
def k8 (fz:List Nat):Code→List Nat
 | .region _ ops _=>ops.toList.flatMap λo=>owr fz o.dst o.op
 | .seq x y=>k8 fz x++k8 fz y
 | .cond _ x y=>k8 fz x++k8 fz y
 | .block _ c=>k8 fz c
 | .loop c=>k8 fz c
 |_=>[]
def cT (ws:List Nat)(A B:aa):Prop:=∀ i,i∉ws→B.env i=A.env i
def af (P:Program)(W0:World)(n:Nat)(fz:List Nat)(c:Code)(_:Tag c)(Q:Exit→aa→Prop)(_:Tag Q)(A:aa):Prop:=VC P W0 n (.loop c) (λe A'=>Q e A'∧cT (k8 fz c) A A') A
def gop (P:Program)(W0:World)(G:Bool)(dst:Option Nat)(A:aa)(k:aa→Prop):Op→Prop
 | .call c=>(match c.callee with
  | .value f=>okM (some G) (A.val f)∧dQ (some G) A c.args.toList∧(G=true→an P W0 (unm (A.val f)) (cq A c.args.toList) dst A k .mk)∧(G=false→ ∃v,k (A.put dst (.maybe false v)))
  | .builtin .append=>dQ (some G) A c.args.toList∧(G=true→bX P c.argTypes.toList (cq A c.args.toList) dst A k .mk)∧(G=false→ ∃v,k (A.put dst (.maybe false v)))
  |_=>False)
 |_=>False
def ig (P:Program)(W0:World)(n:Nat)(fz:List Nat)(ops:Array Oper):List Oper→(aa→Prop)→aa→Prop
 |[],K,A=>K A
 |o::r,K,A=>ir n o.dst∧(match o.guard with
  |none=>op2 P W0 fz o.dst A (λA'=>ig P W0 n fz ops r K A') o.op
  |some (j,want)=>(match qJ ops j with
   |some d=>gdC (A.env d)∧(if JO fz o.dst then gop P W0 (gdV want (A.env d)) o.dst A (λA'=>ig P W0 n fz ops r K A') o.op else vop P W0 (some (gdV want (A.env d))) (some A.st) o.dst A (λA'=>ig P W0 n fz ops r K A') o.op)
   |none=>False))
def rQ :AV→Bool| .loc _ _=>true|_=>false
def sW (fz:List Nat)(A:aa):Operand→Prop
 | .tmp d=>(fz.contains d||fz.contains (6000000+d))=true→rQ (unm (A.env d))=true
 |_=>True
def dop (P:Program)(W0:World)(fz:List Nat)(gd:Option Bool)(dst:Option Nat)(A:aa)(k:aa→Prop):Op→Prop
 | .store t x y=>gd=none∧okM none (A.val x)∧okM none (A.val y)∧ic P [] t x (unm (A.val y)) A (λA'=>k (A'.put dst .undef)) .mk (unm (A.val x))
 | .load t x=>sW fz A x∧vop P W0 gd none dst A k (.load t x)
 | .call c=>vop P W0 gd (if rdM fz dst then some A.st else none) dst A k (.call c)
 |op=>vop P W0 gd none dst A k op
def cM (P:Program)(W0:World)(n:Nat)(fz:List Nat)(id:Nat)(ops:Array Oper):List Oper→(aa→Prop)→aa→Prop
 |[],K,A=>K A
 |o::r,K,A=>if eM fz id o then cM P W0 n fz id ops r K A else ir n o.dst∧(match o.guard with
  |none=>dop P W0 fz none o.dst A (λA'=>cM P W0 n fz id ops r K A') o.op
  |some (j,want)=>(match qJ ops j with
   |some d=>gdC (A.env d)∧dop P W0 fz (some (gdV want (A.env d))) o.dst A (λA'=>cM P W0 n fz id ops r K A') o.op
   |none=>False))
def FQ (fz:List Nat):Operand→Prop
 | .tmp d=>fz.contains d=false
 |_=>True
def eop (P:Program)(W0:World)(fz:List Nat)(dst:Option Nat)(A:aa)(k:aa→Prop):Op→Prop
 | .store t x y=>FQ fz x∧okM none (A.val x)∧okM none (A.val y)∧ic P fz t x (unm (A.val y)) A (λA'=>k (A'.put dst .undef)) .mk (unm (A.val x))
 |op=>op2 P W0 fz dst A k op
def j0 (P:Program)(W0:World)(n:Nat)(fz:List Nat)(id:Nat):List Oper→(aa→Prop)→aa→Prop
 |[],K,A=>K A
 |o::r,K,A=>if eM fz id o then ir n o.dst∧eop P W0 fz o.dst A (λA'=>j0 P W0 n fz id r K A') o.op else j0 P W0 n fz id r K A
def lq (P:Program)(W0:World)(n:Nat)(fz:List Nat)(id:Nat)(l:List Oper)(K:aa→Prop)(A:aa):Prop:=
 if fz.all (λx=>decide (x<2000000))then K A else j0 P W0 n fz id l K A
def cVC (P:Program)(W0:World)(n:Nat)(fz:List Nat):Code→(Exit→aa→Prop)→aa→Prop
 | .skip,Q,A=>Q .normal A
 | .ret,Q,A=>Q .ret A
 | .exit id,Q,A=>Q (.exit id) A
 | .seq x y,Q,A=>cVC P W0 n fz x (bV (cVC P W0 n fz y Q) Q) A
 | .cond c x y,Q,A=>okM none (A.val c)∧yY (unm (A.val c))∧(bl (unm (A.val c))=true→cVC P W0 n fz x Q A)∧(bl (unm (A.val c))=false→cVC P W0 n fz y Q A)
 | .block id c,Q,A=>cVC P W0 n fz c (dB id Q) A
 | .region id ops true,Q,A=>P.follows .mixedOrders=true∧xG fz id ops .mk∧k9 (zf fz ops.toList) A (cM P W0 n fz id ops ops.toList (λB=>lq P W0 n fz id ops.toList (Q .normal) B))
 | .region _ ops false,Q,A=>ig P W0 n fz ops ops.toList (Q .normal) A
 | .loop c,Q,A=>af P W0 n fz c .mk Q .mk A
 |_,_,_=>False
def gp :Code→Bool
 | .ret=>true
 | .exit _=>true
 | .seq x y=>gp x||gp y
 | .cond _ x y=>gp x&&gp y
 |_=>false
def cg (P:Program)(W0:World)(n:Nat)(fz:List Nat)(b:Bool)(x:Code)(_:Tag x)(y:Code)(_:Tag y)(z:Code)(_:Tag z)(Q:Exit→aa→Prop)(_:Tag Q)(A:aa):Prop:=
 (b=true→cVC P W0 n fz x (bV (cVC P W0 n fz z Q) Q) A)∧(b=false→cVC P W0 n fz y (bV (cVC P W0 n fz z Q) Q) A)
section
variable {P :Program}{W0:World}{σ:ab}{n:Nat}{A:aa}{gd:Option Bool}{fz:List Nat}
theorem sO {dst:Option Nat}{k:aa→Prop}{op:Op}(hg: ∀p:Prop,imp gd p→p)(h:vop P W0 gd (some A.st) dst A k op):jm P W0 gd op A λv=>k (A.put dst (cS gd v)):=by
 unfold vop at h
 split at h
 ·rename_i c
  obtain⟨callee,args,argTypes⟩:=c
  split at h
  ·rename_i f hf
   simp only at hf
   subst hf
   exact aN h.1 (fK h.2.1 h.2.2)
  ·exact si (hg _ h.1) h.2
 ·exact si (hg _ h.1) h.2
theorem jZ {dst:Option Nat}{k:aa→Prop}{op:Op}(h:vop P W0 none (some A.st) dst A k op):jm P W0 none op A λv=>k (A.put dst v):=sO (gd:=none) (λ_ h=>h) h
theorem CE {so:Option ab}{dst:Option Nat}{k:aa→Prop}{op:Op}(h:vop P W0 gd so dst A k op): ∃v,k (A.put dst (cS gd v)):=by
 unfold vop at h
 split at h
 ·split at h
  ·have h3:=h.2.2
   unfold aA iT at h3
   split at h3
   ·obtain⟨r,_,h5⟩:=h3
    exact⟨r,h5⟩
   ·exact h3.elim
  ·exact⟨_,h.2⟩
 ·exact⟨_,h.2⟩
theorem wA {t:TypeId}{x:Operand}{u v:AV}{k:aa→Prop}(h:ic P fz t x v A k .mk u):kA P fz A t x u v k:=by
 unfold ic at h
 split at h
 ·rename_i t' id i path
  obtain⟨h1,h2,h3,h4⟩:=h
  unfold kA
  refine⟨⟨h1,h2⟩,?_⟩
  obtain⟨z,hz⟩:=Option.isSome_iff_exists.1 h3
  unfold look at hz
  split at hz
  ·rename_i te xs hs
   try rw[hs]
   try simp only
   cases hx:xs[i]? with
   |none=>rw[hx]at hz;cases hz
   |some y=>
    rw[hx]at hz
    simp only[Option.bind_some]at hz
    simp only[hz]
    cases x with
    |tmp d=>
     simp only at h4 ⊢
     split at h4
     ·rename_i hc;rw[if_pos hc];exact h4
     ·rename_i hc
      rw[if_neg hc]
      simpa only[df,hs,hx,Option.getD_some]using h4
    |_=>exact h4
  ·cases hz
 ·exact h.elim
theorem kc {o:Oper}{k:aa→Prop}(hd:ir n o.dst)(h:op2 P W0 fz o.dst A k o.op):tZ P W0 n fz o A k:=by
 refine⟨hd,?_⟩
 unfold op2 at h
 split at h
 ·rename_i c hc
  rw[hc]
  obtain⟨callee,args,argTypes⟩:=c
  simp only at h ⊢
  split at h
  ·rename_i f
   refine aN h.1 (fK h.2.1 ?_)
   have h3:=h.2.2
   unfold an at h3
   split at h3
   ·rename_i g caps he
    rw[he]
    exact h3
   ·exact h3.elim
  ·refine fK h.1 ?_
   have h3:=h.2
   unfold bX at h3
   split at h3
   ·rename_i x y he
    rw[he]
    exact h3
   ·exact h3.elim
  ·refine fK h.1 ?_
   have h3:=h.2
   unfold nh at h3
   split at h3
   ·rename_i x he
    rw[he]
    exact h3
   ·exact h3.elim
  ·have h3:=jZ (W0:=W0) h
   rename_i hne1 hne2 hne3
   split
   ·exact absurd rfl (hne1 _)
   ·exact absurd rfl hne2
   ·exact absurd rfl hne3
   ·exact h3
 ·rename_i t x hop
  rw[hop]
  simp only
  split at h
  ·rename_i d hdst
   rw[hdst]
   simp only
   split at h
   ·rename_i hc
    rw[if_pos hc]
    have h2:=h.2
    rw[hdst]at h2
    exact aN h.1.1 ⟨h.1.2,h2⟩
   ·rename_i hc
    rw[if_neg hc]
    exact aN h.1 ⟨h.2.1,h.2.2⟩
  ·exact h.elim
 ·rename_i t hop
  rw[hop]
  simp only
  obtain⟨v,hv⟩:=Option.isSome_iff_exists.1 h.1
  have h2:=h.2
  rw[hv]at h2 ⊢
  exact h2
 ·rename_i t x y hop
  rw[hop]
  simp only
  exact aN h.1 (aN h.2.1 h.2.2)
 ·rename_i t x y hop
  rw[hop]
  simp only
  exact aN h.1 (aN h.2.1 (wA h.2.2))
 ·rename_i t x hop
  rw[hop]
  simp only
  have h2:=h.2
  unfold s6 at h2
  split at h2
  ·rename_i l he
   exact⟨h2.1,aN h.1 (by rw[he];exact h2.2)⟩
  ·exact h2.elim
 ·rename_i x hop
  rw[hop]
  simp only
  have h2:=h.2
  unfold xh at h2
  split at h2
  ·rename_i id he
   refine aN h.1 ?_
   rw[he]
   simp only
   unfold xO at h2
   split at h2
   ·rename_i l pos hs
    rw[hs]
    exact h2
   ·exact h2.elim
  ·exact h2.elim
 ·rename_i t x lo hi mx hop
  rw[hop]
  simp only
  split at h
  ·exact .inr (aN h.1 (DX h.2.1 h.2.2))
  ·exact .inl (jZ (W0:=W0) h)
 ·rename_i s d x hop
  rw[hop]
  simp only
  split at h
  ·exact .inr (aN h.1 h.2)
  ·exact .inl (jZ (W0:=W0) h)
 ·rename_i t m ps hop
  rw[hop]
  simp only
  split at h
  ·refine .inr (kR h.1 ?_)
   obtain⟨_,h2,h3⟩:=h
   unfold eO at h2
   unfold mU
   split at h2
   ·rename_i e he
    simp only[he,Option.getD_some]at h3 ⊢
    exact⟨h2,h3⟩
   ·exact h2.elim
  ·exact .inl (jZ (W0:=W0) h)
 ·rename_i t hop
  rw[hop]
  simp only
  obtain⟨⟨kt,vt⟩,hv⟩:=Option.isSome_iff_exists.1 h.1
  have h2:=h.2
  rw[hv]at h2 ⊢
  exact h2
 ·rename_i t x ix y hop
  rw[hop]
  simp only
  refine aN h.1 (aN h.2.1 (aN h.2.2.1 ?_))
  have h2:=h.2.2.2
  unfold DR vp at h2
  unfold vp
  split at h2
  ·obtain⟨kt,vt,l,g1,g2,g3,g4,g5,g6⟩:=h2
   exact⟨kt,vt,l,g1,g2,g3,g4,g5,by
    have e: ∀σ,(A.al σ).put o.dst .undef=(A.put o.dst .undef).al σ:=λσ=>by cases o.dst<;>rfl
    show k ((A.put o.dst .undef).al _)
    rw[←e];exact g6⟩
  ·exact h2.elim
 ·rename_i h1 h2 h3 h8 h4 h6 h7 h9 h12 h13 h10 h11
  have h5:=jZ (W0:=W0) h
  split
  ·rename_i c hc;exact absurd hc (h1 c)
  ·rename_i t x hc;exact absurd hc (h2 t x)
  ·rename_i t hc;exact absurd hc (h3 t)
  ·rename_i t x y hc;exact absurd hc (h8 t x y)
  ·rename_i t x y hc;exact absurd hc (h4 t x y)
  ·rename_i t x hc;exact absurd hc (h6 t x)
  ·rename_i x hc;exact absurd hc (h7 x)
  ·rename_i t x lo hi mx hc;exact absurd hc (h9 t x lo hi mx)
  ·rename_i s d x hc;exact absurd hc (h12 s d x)
  ·rename_i t m ps hc;exact absurd hc (h13 t m ps)
  ·rename_i t hc;exact absurd hc (h10 t)
  ·rename_i t x ix y hc;exact absurd hc (h11 t x ix y)
  ·exact h5
theorem GW {ops:Array Oper}{j d:Nat}{want:Bool}(hj:qJ ops j=some d)(hc:gdC (A.env d)):ya ops A j want=some (gdV want (A.env d)):=by
 unfold qJ at hj
 unfold ya
 rw[hj]
 simp only
 revert hc
 generalize A.env d=u
 intro hc
 cases u<;>first|rfl|skip
 all_goals first|exact hc.elim|skip
 rename_i g v
 cases v<;>first|rfl|(cases g<;>first|rfl|(cases hc))
theorem cT.refl (ws:List Nat)(A:aa):cT ws A A:=λ_ _=>rfl
theorem cT.trans {ws vs:List Nat}{A B C:aa}(h:cT ws A B)(k:cT vs B C):cT (ws++vs) A C:=λi hi=>(k i (λe=>hi (List.mem_append_right _ e))).trans (h i (λe=>hi (List.mem_append_left _ e)))
theorem cT.mono {ws vs:List Nat}{A B:aa}(h:cT ws A B)(hs: ∀i∈ws,i∈vs):cT vs A B:=λi hi=>h i λe=>hi (hs i e)
theorem ba (A:aa)(dst:Option Nat)(v:AV):cT dst.toList A (A.put dst v):=λi hi=>by
 cases dst with
 |none=>rfl
 |some d=>exact A.rR v (λe=>hi (by simp[e]))
theorem ca {ws:List Nat}{A B:aa}(h:cT ws A B)(σ:ab):cT ws A (B.al σ):=h
theorem dq {so:Option ab}{dst:Option Nat}{k k':aa→Prop}{op:Op}(hk: ∀A',cT dst.toList A A'→k A'→k' A')(h:vop P W0 gd so dst A k op):vop P W0 gd so dst A k' op:=by
 cases op
 case call c=>
  obtain⟨callee,args,argTypes⟩:=c
  cases callee
  case value f=>
   obtain⟨h1,h2,h3⟩:=h
   refine⟨h1,h2,?_⟩
   unfold aA iT at h3 ⊢
   split at h3
   ·obtain⟨r,h4,h5⟩:=h3
    exact⟨r,h4,hk _ (ba _ _ _) h5⟩
   ·exact h3.elim
  all_goals exact⟨h.1,hk _ (ba _ _ _) h.2⟩
 all_goals exact⟨h.1,hk _ (ba _ _ _) h.2⟩
theorem rE {dst:Option Nat}{op:Op}{i:Nat}(hi:i∈dst.toList):i∈owr fz dst op:=by
 unfold owr
 split
 ·split
  ·exact List.mem_cons_of_mem _ hi
  ·exact hi
 ·split
  ·exact List.mem_cons_of_mem _ hi
  ·exact hi
 ·exact hi
theorem j5 {dst:Option Nat}{k k':aa→Prop}{op:Op}(hk: ∀A',cT (owr fz dst op) A A'→k A'→k' A')(h:op2 P W0 fz dst A k op):op2 P W0 fz dst A k' op:=by
 cases op
 case call c=>
  obtain⟨callee,args,argTypes⟩:=c
  cases callee
  case value f=>
   obtain⟨h1,h2,h3⟩:=h
   refine⟨h1,h2,?_⟩
   unfold an at h3 ⊢
   split at h3
   ·exact h3.mono λ_ _=>hk _ (ca (ba _ _ _) _)
   ·exact h3.elim
  case builtin b=>
   cases b
   case append=>
    refine⟨h.1,?_⟩
    have h3:=h.2
    unfold bX at h3 ⊢
    split at h3
    ·rcases h3 with h3|h3|h3|h3|h3|h3
     ·left
      unfold oJ at h3 ⊢
      split at h3
      ·obtain⟨e,xs,ys,g1,g2,g3,g4,g5,g6⟩:=h3
       exact⟨e,xs,ys,g1,g2,g3,g4,g5,λv σ' hv=>hk _ (ca (ba _ _ _) _) (g6 v σ' hv)⟩
      ·exact h3.elim
     ·right;left
      unfold jO at h3 ⊢
      split at h3
      ·obtain⟨e,xs,ys,g1,g2,g3,g4,g5,g6,g7⟩:=h3
       exact⟨e,xs,ys,g1,g2,g3,g4,g5,λhe=>hk _ (ca (ba _ _ _) _) (g6 he),λhe=>hk _ (ca (ba _ _ _) _) (g7 he)⟩
      ·exact h3.elim
     ·right;right;left
      unfold iE at h3 ⊢
      split at h3
      ·obtain⟨e,m,z,k,kn,g1,g2,g3,g4,g5,g6⟩:=h3
       exact⟨e,m,z,k,kn,g1,g2,g3,g4,g5,hk _ (ca (ba _ _ _) _) g6⟩
      ·exact h3.elim
     ·right;right;right;left
      unfold kC at h3 ⊢
      split at h3
      ·obtain⟨e,id,off,m,zs,ys,g1,g2,g3,g4,g5,g6⟩:=h3
       exact⟨e,id,off,m,zs,ys,g1,g2,g3,g4,g5,hk _ (ca (ba _ _ _) _) g6⟩
      ·exact h3.elim
     ·right;right;right;right;left
      unfold iH at h3 ⊢
      split at h3
      ·obtain⟨e,id,off,m,zs,ys,g1,g2,g3,g4,g5,g6,g7,g8,g9⟩:=h3
       exact⟨e,id,off,m,zs,ys,g1,g2,g3,g4,g5,g6,g7,hk _ (ca (ba _ _ _) _) g8,hk _ (ca (ba _ _ _) _) g9⟩
      ·exact h3.elim
     ·right;right;right;right;right
      unfold ju at h3 ⊢
      split at h3
      ·obtain⟨e,xs,l,g1,g2,g3,g4,g5,g6⟩:=h3
       exact⟨e,xs,l,g1,g2,g3,g4,g5,λv σ' ha=>hk _ (ca (ba _ _ _) _) (g6 v σ' ha)⟩
      ·exact h3.elim
    ·exact h3.elim
   case clear=>
    refine⟨h.1,?_⟩
    have h3:=h.2
    unfold nh at h3 ⊢
    split at h3
    ·unfold ry at h3 ⊢
     split at h3
     ·obtain⟨e,id,off,m,zs,v,g1,g2,g3,g4,g5⟩:=h3
      exact⟨e,id,off,m,zs,v,g1,g2,g3,g4,hk _ (ca (ba _ _ _) _) g5⟩
     ·exact h3.elim
    ·exact h3.elim
   all_goals (simp only[op2]at h ⊢;exact dq hk h)
  all_goals (simp only[op2]at h ⊢;exact dq hk h)
 case box t x=>
  simp only[op2]at h ⊢
  split at h
  ·split at h
   ·rename_i hc;rw[if_pos hc];exact dq hk h
   ·rename_i hc;rw[if_neg hc];exact⟨h.1,h.2.1,hk _ (ca (ba A (some _) _) _) h.2.2⟩
  ·exact h.elim
 case alloc t=>exact⟨h.1,hk _ (ca (ba _ _ _) _) h.2⟩
 case convert s d x=>
  simp only[op2]at h ⊢
  split at h
  ·rename_i hc
   rw[if_pos hc]
   refine⟨h.1,?_⟩
   rcases h.2 with⟨l,e,g1,g2,g3⟩|⟨l,e,g1,g2,g3⟩|⟨e,id,off,m,xs,g1,g2,g3,g4,g5,g6⟩
   ·exact .inl ⟨l,e,g1,g2,hk _ (ca (ba _ _ _) _) g3⟩
   ·exact .inr (.inl ⟨l,e,g1,g2,hk _ (ca (ba _ _ _) _) g3⟩)
   ·exact .inr (.inr ⟨e,id,off,m,xs,g1,g2,g3,g4,g5,hk _ (ca (ba _ _ _) _) g6⟩)
  ·rename_i hc
   rw[if_neg hc]
   exact dq hk h
 case buildSlice t m ps=>
  simp only[op2]at h ⊢
  split at h
  ·rename_i hc
   rw[if_pos hc]
   exact⟨h.1,h.2.1,hk _ (ca (ba _ _ _) _) h.2.2⟩
  ·rename_i hc
   rw[if_neg hc]
   exact dq hk h
 case makeSlice t x y=>
  refine⟨h.1,h.2.1,?_⟩
  have h3:=h.2.2
  unfold yQ vT at h3 ⊢
  split at h3
  ·refine⟨h3.1,?_⟩
   have h4:=h3.2
   split at h4
   ·split at h4
    ·obtain⟨g1,g2,g3,g4,g5⟩:=h4
     exact⟨g1,g2,g3,g4,hk _ (ca (ba _ _ _) _) g5⟩
    ·exact h4.elim
   ·exact h4.elim
  ·exact h3.elim
 case store t x y=>
  refine⟨h.1,h.2.1,?_⟩
  have h3:=h.2.2
  revert h3
  generalize unm (A.val x)=u
  intro h3
  unfold ic at h3 ⊢
  split at h3
  ·obtain⟨g1,g2,g3,g4⟩:=h3
   refine⟨g1,g2,g3,?_⟩
   split at g4
   ·simp only
    split at g4
    ·rename_i hc
     rw[if_pos hc]
     refine⟨g4.1,hk _ (λi hi=>?_) g4.2⟩
     simp only[owr,hc,if_true]at hi
     exact(ba _ dst .undef i (λe=>hi (by simp[e]))).trans (A.rR _ (λe=>hi (by simp[e])))
    ·rename_i hc
     rw[if_neg hc]
     refine hk _ (λi hi=>?_) g4
     simp only[owr,hc,Bool.false_eq_true,if_false]at hi
     exact ba (A.al _) dst .undef i hi
   ·exact g4.elim
  ·exact h3.elim
 case range t x=>
  refine⟨h.1,?_⟩
  have h2:=h.2
  unfold s6 at h2 ⊢
  split at h2
  ·exact⟨h2.1,hk _ (ca (ba _ _ _) _) h2.2⟩
  ·exact h2.elim
 case next x b=>
  cases b
  ·simp only[op2]at h ⊢;exact dq hk h
  ·refine⟨h.1,?_⟩
   have h2:=h.2
   unfold xh at h2 ⊢
   split at h2
   ·unfold xO at h2 ⊢
    split at h2
    ·exact⟨λhp=>hk _ (ca (ba _ _ _) _) (h2.1 hp),λhp=>hk _ (ba _ _ _) (h2.2 hp)⟩
    ·exact h2.elim
   ·exact h2.elim
 case slice t x lo hi mx=>
  simp only[op2]at h ⊢
  split at h
  ·rename_i hc;rw[if_pos hc];exact⟨h.1,h.2.1,hk _ (ba _ _ _) h.2.2⟩
  ·rename_i hc;rw[if_neg hc];exact dq hk h
 case makeMap t r=>
  cases r
  ·exact⟨h.1,hk _ (ca (ba _ _ _) _) h.2⟩
  ·simp only[op2]at h ⊢;exact dq hk h
 case mapUpdate t x ix y=>
  refine⟨h.1,h.2.1,h.2.2.1,?_⟩
  have h3:=h.2.2.2
  unfold DR vp at h3 ⊢
  split at h3
  ·obtain⟨kt,vt,l,g1,g2,g3,g4,g5,g6⟩:=h3
   exact⟨kt,vt,l,g1,g2,g3,g4,g5,hk _ (ba (A.al _) dst .undef) g6⟩
  ·exact h3.elim
 all_goals (simp only[op2]at h ⊢;exact dq (λA' ha=>hk A' (ha.mono λi hi=>rE hi)) h)
theorem FU {g:Bool}{v:AV}(hg:g=true)(h:okM (some g) v):okM none v:=by
 cases v<;>first|trivial|exact h hg
theorem oF {g:Bool}(hg:g=true): ∀{l:List Operand},dQ (some g) A l→dQ none A l
 |[],_=>trivial
 |_::_,h=>⟨FU hg h.1,oF hg h.2⟩
theorem Dx {G:Bool}{o:Oper}{k:aa→Prop}(hd:ir n o.dst)(h:gop P W0 G o.dst A k o.op):(G=true→tZ P W0 n fz o A k)∧(G=false→ ∃v,k (A.put o.dst (.maybe false v))):=by
 unfold gop at h
 split at h
 ·rename_i c hc
  obtain⟨callee,args,argTypes⟩:=c
  simp only at h
  split at h
  ·rename_i f
   refine⟨λhG=>kc (P:=P) (W0:=W0) (fz:=fz) hd ?_,h.2.2.2⟩
   rw[hc]
   exact⟨FU hG h.1,oF hG h.2.1,h.2.2.1 hG⟩
  ·refine⟨λhG=>kc (P:=P) (W0:=W0) (fz:=fz) hd ?_,h.2.2⟩
   rw[hc]
   exact⟨oF hG h.1,h.2.1 hG⟩
  ·exact h.elim
 ·exact h.elim
theorem xm {G:Bool}{dst:Option Nat}{k k':aa→Prop}{op:Op}(hk: ∀A',cT dst.toList A A'→k A'→k' A')(h:gop P W0 G dst A k op):gop P W0 G dst A k' op:=by
 unfold gop at h ⊢
 split at h
 ·rename_i c
  split at h
  ·rename_i f hf
   refine⟨h.1,h.2.1,λhG=>?_,λhG=>(h.2.2.2 hG).imp λ_=>hk _ (ba _ _ _)⟩
   have h3:=h.2.2.1 hG
   unfold an at h3 ⊢
   split at h3
   ·exact h3.mono λ_ _=>hk _ (ca (ba _ _ _) _)
   ·exact h3.elim
  ·refine⟨h.1,λhG=>?_,λhG=>(h.2.2 hG).imp λ_=>hk _ (ba _ _ _)⟩
   exact(j5 (P:=P) (W0:=W0) (fz:=[]) (op:=.call ⟨.builtin .append,c.args,c.argTypes⟩) (λA' ha=>hk A' ha) ⟨oF hG h.1,h.2.1 hG⟩).2
  ·exact h.elim
 ·exact h.elim
theorem kd {ops:Array Oper}: ∀(l:List Oper) (K:aa→Prop) (A:aa),ig P W0 n fz ops l K A→oc P W0 n fz ops l K A
 |[],_,_,h=>h
 |o::r,K,A,h=>by
  simp only[ig]at h
  obtain⟨hd,h⟩:=h
  simp only[oc]
  have ih:=kd (ops:=ops) r K
  split at h
  ·rename_i hg
   simp only[hg]
   exact kc hd (j5 (λA' _=>ih A') h)
  ·rename_i j want hg
   simp only[hg]
   split at h
   ·rename_i d hj
    rw[GW hj h.1]
    refine⟨hd,?_⟩
    have h2:=h.2
    split at h2
    ·exact .inr (Dx hd (xm (λA' _=>ih A') h2))
    ·have h3:=dq (λA' _=>ih A') h2
     revert h3
     generalize gdV want (A.env d)=G
     intro h3
     cases G with
     |true=>exact .inl (sO (gd:=some true) (λ_ h=>h rfl) h3)
     |false=>exact .inr ⟨λe=>(Bool.false_ne_true e).elim,λ_=>CE h3⟩
   ·exact h.elim
theorem oV (σ:ab): ∀l:List Operand,dQ gd (A.al σ) l=dQ gd A l
 |[]=>rfl
 |x::r=>by rw[dQ,dQ,oV σ r];rfl
theorem me (σ:ab): ∀l:List Operand,cq (A.al σ) l=cq A l
 |[]=>rfl
 |x::r=>by rw[cq,cq,me σ r];rfl
theorem pQ (σ:ab): ∀l:List (Nat×Operand),fB gd (A.al σ) l=fB gd A l
 |[]=>rfl
 |(_,x)::r=>by rw[fB,fB,pQ σ r];rfl
theorem pA (σ:ab): ∀l:List (Nat×Operand),dy (A.al σ) l=dy A l
 |[]=>rfl
 |(_,x)::r=>by rw[dy,dy,pA σ r];rfl
theorem MS {dst:Option Nat}{op:Op}(h:isR fz dst op=false)(hl: ∀t x,op= .load t x→sW fz A x)(σ:ab):opC P gd (A.al σ) op=opC P gd A op∧opV P gd (A.al σ) op=opV P gd A op:=by
 cases op<;>first|exact⟨rfl,rfl⟩|(simp[isR]at h;done)|skip
 ·simp only[opC,opV,pQ,pA,and_self]
 ·simp only[opC,opV,pQ,pA,and_self]
 ·rename_i t x
  have h2:=hl t x rfl
  cases x<;>first|(simp[isR]at h;done)|skip
  rename_i d
  simp only[isR,Bool.not_eq_false']at h
  have h3:rQ (unm (A.val (.tmp d)))=true:=h2 h
  have hv:(A.al σ).val (.tmp d)=A.val (.tmp d):=rfl
  simp only[opC,opV,hv]
  revert h3
  generalize unm (A.val (.tmp d))=u
  intro h3
  cases u<;>first|(simp[rQ]at h3;done)|exact⟨rfl,rfl⟩
 ·rename_i fn first caps;cases fn<;>simp only[opC,opV,oV,me,and_self]
 ·rename_i c;obtain⟨callee,args,ts⟩:=c;cases callee<;>simp only[opC,opV,oV,me,and_self]
theorem Ka {σ:ab}{id i:Nat}{path:List Nat}(h:(look σ id i path).isSome=true)(τ:ab):look (σ++τ) id i path=look σ id i path:=by
 unfold look at h ⊢
 by_cases hl:id<σ.length
 ·rw[List.getElem?_append_left hl]
 ·rw[List.getElem?_eq_none (by omega)]at h
  cases h
theorem NH {op:Op}(h:opC P gd A op)(hz:isZ op=true)(hg: ∀g,gd=some g→g=true)(τ:ab):opC P gd (A.al (A.st++τ)) op∧opV P gd (A.al (A.st++τ)) op=opV P gd A op:=by
 cases op<;>first|(simp[isZ]at hz;done)|skip
 rename_i t x
 have hv:(A.al (A.st++τ)).val x=A.val x:=by cases x<;>rfl
 have hst:(A.al (A.st++τ)).st=A.st++τ:=rfl
 simp only[opC,opV,hv,hst]at h ⊢
 obtain⟨h1,h2⟩:=h
 revert h2
 generalize unm (A.val x)=u
 intro h2
 cases u<;>first|exact h2.elim|exact⟨⟨h1,h2⟩,rfl⟩|skip
 rename_i t' id i path
 obtain⟨e,h3⟩:=h2
 have h4:(look A.st id i path).isSome=true:=by
  cases gd with
  |none=>exact h3
  |some g=>exact h3 (hg g rfl)
 have h5:=Ka h4 τ
 refine⟨⟨h1,e,?_⟩,?_⟩
 ·rw[h5];exact h3
 ·show(look (A.st++τ) id i path).getD .undef=_
  rw[h5];rfl
theorem tm {o:Oper}(hl: ∀t x,o.op= .load t x→sW fz A x)(h:opC P gd A o.op):imp gd (ie P W0 fz o A (opV P gd A o.op)):=by
 have key: ∀A':aa,opC P gd A' o.op→imp gd (dd P W0 o A' (opV P gd A' o.op)):=λA' h'=>by
  have hv:jm P W0 gd o.op A' (· =opV P gd A' o.op):=si h' rfl
  cases gd with
  |none=>
   intro w C a hr
   obtain⟨v,rfl,hp⟩:=fJ hr hv
   exact hp w C a hr
  |some g=>
   intro hg w C a hr
   obtain⟨v,rfl,hp⟩:=fJ hr hv
   exact hp hg w C a hr
 have k2:isR fz o.dst o.op=false→ ∀σ,imp gd (dd P W0 o (A.al σ) (opV P gd A o.op)):=λhR σ=>by
  obtain⟨e1,e2⟩:=MS (P:=P) (gd:=gd) (A:=A) hR hl σ
  have:=key (A.al σ) (by rw[e1];exact h)
  rwa [e2]at this
 have k3:isZ o.op=true→(∀g,gd=some g→g=true)→ ∀τ,opC P gd (A.al (A.st++τ)) o.op∧opV P gd (A.al (A.st++τ)) o.op=opV P gd A o.op:=λhz hg τ=>NH h hz hg τ
 cases gd with
 |none=>exact⟨key A h,k2,λhz τ=>by
   obtain⟨g1,g2⟩:=k3 hz (λg e=>by cases e) τ
   have:=key _ g1
   rw[g2]at this
   exact this⟩
 |some g=>exact λhg=>⟨key A h hg,λhR σ=>k2 hR σ hg,λhz τ=>by
   obtain⟨g1,g2⟩:=k3 hz (λg' e=>by cases e;exact hg) τ
   have:=key _ g1
   rw[g2]at this
   exact this hg⟩
theorem CA {o:Oper}(hl: ∀t x,o.op= .load t x→sW fz A x)(h:imp gd (opC P gd A o.op)):imp gd (ie P W0 fz o A (opV P gd A o.op)):=by
 cases gd with
 |none=>exact tm hl h
 |some g=>exact λhg=>tm (gd:=some g) hl (h hg) hg
theorem wW {o:Oper}{so:Option ab}{f:Operand}{args:Array Operand}{argTypes:Array TypeId}{r:AV}(ho:o.op= .call ⟨.value f,args,argTypes⟩)(hso:so=none∨(so=some A.st∧rdM fz o.dst=true))(h1:okM gd (A.val f))(h2:dQ gd A args.toList)
  (h3:iT P W0 gd so (unm (A.val f)) (cq A args.toList) (· =r)):imp gd (ie P W0 fz o A r):=by
 have key: ∀σ:ab,(so=some A.st→σ=A.st)→imp gd (dd P W0 o (A.al σ) r):=λσ hσ=>by
  have h3':iT P W0 gd (some σ) (unm (A.val f)) (cq A args.toList) (· =r):=by
   unfold iT at h3 ⊢
   split at h3
   ·obtain⟨r',g1,g2⟩:=h3
    refine⟨r',g1.map λg=>?_,g2⟩
    rcases hso with rfl|⟨rfl,_⟩
    ·exact g σ
    ·rw[hσ rfl];exact g
   ·exact h3.elim
  have hv:jm P W0 gd o.op (A.al σ) (· =r):=by
   rw[ho]
   exact aN (x:=(A.al σ).val f) h1 (fK (A:=A.al σ) (by rw[oV];exact h2) (by rw[me];exact h3'))
  cases gd with
  |none=>
   intro w C a hr
   obtain⟨v,rfl,hp⟩:=fJ hr hv
   exact hp w C a hr
  |some g=>
   intro hg w C a hr
   obtain⟨v,rfl,hp⟩:=fJ hr hv
   exact hp hg w C a hr
 have hall:isR fz o.dst o.op=false→ ∀σ,(so=some A.st→σ=A.st):=λhR σ hs=>by
  rcases hso with h|⟨_,h⟩
  ·rw[h]at hs;cases hs
  ·rw[ho]at hR;simp only[isR]at hR;rw[h]at hR;cases hR
 cases gd with
 |none=>exact⟨key A.st λ_=>rfl,λhR σ=>key σ (hall hR σ),λhz=>by rw[ho]at hz;cases hz⟩
 |some g=>exact λhg=>⟨key A.st (λ_=>rfl) hg,λhR σ=>key σ (hall hR σ) hg,λhz=>by rw[ho]at hz;cases hz⟩
theorem vw {o:Oper}{k:aa→Prop}(hW:isW o.op=false)(h:dop P W0 fz gd o.dst A k o.op): ∃v,k (A.put o.dst (cS gd v))∧imp gd (ie P W0 fz o A v):=by
 have hgen:(∀t x,o.op= .load t x→sW fz A x)→imp gd (opC P gd A o.op)∧k (A.put o.dst (cS gd (opV P gd A o.op)))→ ∃v,k (A.put o.dst (cS gd v))∧imp gd (ie P W0 fz o A v):=λhl h=>⟨_,h.2,CA hl h.1⟩
 cases hop:o.op
 case call c=>
  obtain⟨callee,args,argTypes⟩:=c
  cases callee
  case value f=>
   rw[hop]at h
   obtain⟨h1,h2,h3⟩:=h
   unfold aA iT at h3
   split at h3
   ·rename_i g caps hf
    obtain⟨r,h4,h5⟩:=h3
    refine⟨r,h5,wW (so:=if rdM fz o.dst then some A.st else none) hop ?_ h1 h2 (by unfold iT;rw[hf];exact⟨r,h4,rfl⟩)⟩
    split
    ·rename_i hm;exact .inr ⟨rfl,hm⟩
    ·exact .inl rfl
   ·exact h3.elim
  all_goals (rw[hop]at h;exact hgen (λt x e=>by rw[hop]at e;cases e) (by rw[hop];exact h))
 case load t x=>
  rw[hop]at h
  exact hgen (λt' x' e=>by rw[hop]at e;cases e;exact h.1) (by rw[hop];exact h.2)
 case store t x y=>rw[hop]at hW;cases hW
 all_goals (rw[hop]at h;exact hgen (λt x e=>by rw[hop]at e;cases e) (by rw[hop];exact h))
theorem xN {o:Oper}{t:TypeId}{x y:Operand}{k:aa→Prop}(ho:o.op= .store t x y)(h1:okM none (A.val x))(h2:okM none (A.val y))(h:ic P [] t x (unm (A.val y)) A k .mk (unm (A.val x))): ∃σ',k (A.al σ')∧BR P W0 o A σ':=by
 have isx:Is P W0 o A x (unm (A.val x)):=by
  obtain⟨u,hu,hi⟩:=bO (P:=P) (W0:=W0) (o:=o) (A:=A) (x:=x) (by simp[ho,Op.operands]) (k:=(· =unm (A.val x))) (aN h1 rfl)
  rw[←hu];exact hi
 have isy:Is P W0 o A y (unm (A.val y)):=by
  obtain⟨u,hu,hi⟩:=bO (P:=P) (W0:=W0) (o:=o) (A:=A) (x:=y) (by simp[ho,Op.operands]) (k:=(· =unm (A.val y))) (aN h2 rfl)
  rw[←hu];exact hi
 unfold ic at h
 split at h
 ·rename_i t' id i path hux
  obtain⟨rfl,g2,g3,g4⟩:=h
  rw[hux]at isx
  obtain⟨z,hz⟩:=Option.isSome_iff_exists.1 g3
  obtain⟨te,xs,y0,hs,hx,hy0⟩:=om hz
  split at g4
  ·simp only[List.contains_nil,Bool.false_eq_true,if_false]at g4
   refine⟨_,g4,λw C a hr=>?_⟩
   have:=ql hr ho isx isy hz (eT g2) hs hx
   simpa only[df,hs,hx,Option.getD_some]using this
  ·exact g4.elim
 ·exact h.elim
theorem iU {id:Nat}{ops:Array Oper}: ∀(l:List Oper) (K:aa→Prop) (A:aa),cM P W0 n fz id ops l K A→ ∃vs ss B,Seq P W0 n fz (eM fz id) ops l A vs ss B∧K B
 |[],_,A,h=>⟨[],[],A,.nil A,h⟩
 |o::r,K,A,h=>by
  simp only[cM]at h
  split at h
  ·rename_i hE
   obtain⟨vs,ss,B,h1,h2⟩:=iU r K _ h
   exact⟨_,_,B,.skip hE h1,h2⟩
  rename_i hE
  replace hE:eM fz id o=false:=by simpa using hE
  obtain⟨hd,h⟩:=h
  have same: ∀v,(A.put o.dst v).al A.st=A.put o.dst v:=λv=>by cases o.dst<;>rfl
  split at h
  ·rename_i hg
   have gen:isW o.op=false→dop P W0 fz none o.dst A (λA'=>cM P W0 n fz id ops r K A') o.op→ ∃vs ss B,Seq P W0 n fz (eM fz id) ops (o::r) A vs ss B∧K B:=λhW hv=>by
    obtain⟨v,hk,hp⟩:=vw hW hv
    obtain⟨vs,ss,B,h1,h2⟩:=iU r K _ hk
    exact⟨v::vs,A.st::ss,B,.cons hE ⟨hd,by rw[hg];exact .inl ⟨hW,rfl,hp⟩⟩ (by rw[same];exact h1),h2⟩
   cases hop:o.op
   case store t x y=>
    rw[hop]at h
    obtain⟨_,h1,h2,h3⟩:=h
    obtain⟨σ',hk,hs⟩:=xN (W0:=W0) hop h1 h2 h3
    obtain⟨vs,ss,B,g1,g2⟩:=iU r K _ hk
    have e:(A.al σ').put o.dst .undef=(A.put o.dst .undef).al σ':=by cases o.dst<;>rfl
    rw[e]at g1
    exact⟨.undef::vs,σ'::ss,B,.cons hE ⟨hd,by rw[hg];exact .inr ⟨by rw[hop];rfl,rfl,hs⟩⟩ g1,g2⟩
   all_goals exact gen (by rw[hop];rfl) (by rw[hop]at h ⊢;exact h)
  ·rename_i j want hg
   split at h
   ·rename_i d hj
    have hW:isW o.op=false:=by
     cases hop:o.op<;>first|rfl|skip
     have:=h.2
     rw[hop]at this
     cases this.1
    obtain⟨v,hk,hp⟩:=vw hW h.2
    obtain⟨vs,ss,B,h1,h2⟩:=iU r K _ hk
    refine⟨_::vs,A.st::ss,B,.cons hE ⟨hd,by rw[hg];exact⟨hW,rfl,_,v,GW hj h.1,rfl,hp⟩⟩ (by rw[same];exact h1),h2⟩
   ·exact h.elim
theorem yz {dst:Option Nat}{k k':aa→Prop}{op:Op}(hk: ∀A',cT (owr fz dst op) A A'→k A'→k' A')(h:eop P W0 fz dst A k op):eop P W0 fz dst A k' op:=by
 cases op
 case store t x y=>exact⟨h.1,j5 (P:=P) (W0:=W0) (op:=.store t x y) hk h.2⟩
 all_goals exact j5 (P:=P) (W0:=W0) hk h
theorem CN {o:Oper}{k:aa→Prop}(hd:ir n o.dst)(h:eop P W0 fz o.dst A k o.op):DZ fz o.op∧tZ P W0 n fz o A k:=by
 cases hop:o.op
 case store t x y=>
  rw[hop]at h
  refine⟨?_,kc hd (by rw[hop];exact h.2)⟩
  have:=h.1
  cases x<;>first|trivial|exact this
 all_goals exact⟨trivial,kc hd (by rw[hop]at h ⊢;exact h)⟩
theorem nF {id:Nat}: ∀(l:List Oper) (K:aa→Prop) (A:aa),j0 P W0 n fz id l K A→eVC P W0 n fz (l.filter (eM fz id)) K A
 |[],_,_,h=>h
 |o::r,K,A,h=>by
  simp only[j0]at h
  split at h
  ·rename_i hE
   rw[List.filter_cons_of_pos hE]
   have:=CN (n:=n) h.1 (yz (λA' _=>nF r K A') h.2)
   exact this
  ·rename_i hE
   rw[List.filter_cons_of_neg hE]
   exact nF r K A h
theorem vP {id:Nat}{l:List Oper}{K:aa→Prop}(h:lq P W0 n fz id l K A):eVC P W0 n fz (l.filter (eM fz id)) K A:=by
 unfold lq at h
 split at h
 ·rename_i hall
  have:l.filter (eM fz id)=[]:=by
   rw[List.filter_eq_nil_iff]
   intro o _ hE
   have key: ∀x,2000000≤x→fz.contains x=false:=λx hx=>by
    cases hc:fz.contains x with
    |false=>rfl
    |true=>
     have:=List.all_eq_true.1 hall x (by simpa using hc)
     simp at this
     omega
   unfold eM at hE
   split at hE
   ·rw[key _ (by omega)]at hE;cases hE
   ·rw[key _ (by omega)]at hE;cases hE
  rw[this]
  exact h
 ·exact nF _ _ _ h
theorem zv {dst:Option Nat}{k k':aa→Prop}{op:Op}(hk: ∀A',cT dst.toList A A'→k A'→k' A')(h:dop P W0 fz gd dst A k op):dop P W0 fz gd dst A k' op:=by
 cases op
 case store t x y=>exact⟨h.1,j5 (P:=P) (W0:=W0) (fz:=[]) (op:=.store t x y) (λA' ha=>hk A' (by cases x<;>exact ha)) h.2⟩
 case load t x=>exact⟨h.1,dq hk h.2⟩
 case call c=>exact dq (op:=.call c) hk h
 all_goals (simp only[dop]at h ⊢;exact dq hk h)
theorem uc : ∀(l:List Oper) (i:Nat),i∈B0 fz l→i∈l.flatMap λo=>owr fz o.dst o.op
 |[],_,h=>by cases h
 |o::r,i,h=>by
  rw[B0]at h
  rw[List.flatMap_cons]
  rcases List.mem_append.1 h with h|h
  ·refine List.mem_append_left _ ?_
   cases hop:o.op<;>rw[hop]at h<;>first|(cases h;done)|skip
   rename_i t x
   cases x<;>first|(cases h;done)|skip
   rename_i d
   simp only at h
   unfold owr
   simp only
   split at h
   ·rename_i hc
    rw[if_pos hc]
    rw[List.mem_singleton.1 h]
    exact List.mem_cons_self ..
   ·cases h
  ·exact List.mem_append_right _ (uc r i h)
theorem EV (l:List Oper)(i:Nat)(h:i∈zf fz l):i∈l.flatMap λo=>owr fz o.dst o.op:=by
 unfold zf at h
 split at h
 ·cases h
 ·exact uc l i h
theorem zR (A:aa)(d:Nat):cT [d] A (wh A d):=λi hi=>by
 have hne:i≠d:=λe=>hi (by simp[e])
 unfold wh
 split
 ·split
  ·split
   ·exact A.rR _ hne
   ·rfl
  ·rfl
 ·rfl
theorem k9.mono : ∀(l:List Nat) (A:aa) {k k':aa→Prop},(∀B,cT l A B→k B→k' B)→k9 l A k→k9 l A k'
 |[],A,_,_,hk,h=>hk A (.refl _ _) h
 |d::r,A,_,_,hk,h=>k9.mono r (wh A d) (λB hB=>hk B (by simpa using (zR A d).trans hB)) h
theorem Da {w:World}{C:Ctx}{a:Act}(h:bL P W0 n w C A a)(d:Nat): ∃C',bL P W0 n w C' (wh A d) a∧Step w C w C':=by
 unfold wh
 split
 ·rename_i t id he
  split
  ·rename_i te z hs
   split
   ·rename_i ht
    subst ht
    have hv:=h.env d
    rw[he]at hv
    have hfr:=kV h.st hv hs (i:=0) (x:=z) rfl
    obtain⟨k1,k2⟩:=h.st.kill id (List.getElem?_eq_some_iff.1 hs).1
    have hr1:=h.step k1 k2
    refine⟨_,⟨λj=>?_,hr1.defers,hr1.size,hr1.st⟩,k1⟩
    by_cases hj:j=d
    ·subst hj;simpa[aa.upd,aa.al]using hfr
    ·have:=hr1.env j;simpa[aa.upd,aa.al,hj]using this
   ·exact⟨C,h,.refl _ _⟩
  ·exact⟨C,h,.refl _ _⟩
 ·exact⟨C,h,.refl _ _⟩
theorem VC.yld {c:Code}{Q:Exit→aa→Prop}: ∀(l:List Nat) (A:aa),k9 l A (VC P W0 n c Q)→VC P W0 n c Q A
 |[],_,h=>h
 |d::r,A,h=>λw C a hr=>by
  obtain⟨C',h1,h2⟩:=Da hr d
  exact gM (VC.yld r _ h w C' a h1) λe a' w' ⟨A',C'',q,g1,g2⟩=>⟨A',C'',q,g1,h2.trans g2⟩
theorem k9.step {d:Nat}{r:List Nat}{t:TypeId}{id:Nat}{z:AV}{k:aa→Prop}(h1:A.env d= .ptr t id 0 [])(h2:A.st[id]?=some (some (.cells t [z])))(hk:k9 r ((A.upd d (.loc t z)).al (A.st.set id none)) k):k9 (d::r) A k:=by
 have:wh A d=(A.upd d (.loc t z)).al (A.st.set id none):=by
  unfold wh
  rw[h1]
  simp only[h2,if_true]
 show k9 r (wh A d) k
 rw[this]
 exact hk
theorem uI {ops:Array Oper}{K K':aa→Prop}: ∀(l:List Oper) (A:aa),(∀A',cT (l.flatMap λo=>owr fz o.dst o.op) A A'→K A'→K' A')→ig P W0 n fz ops l K A→ig P W0 n fz ops l K' A
 |[],A,hk,h=>hk _ (.refl _ _) h
 |o::r,A,hk,h=>by
  simp only[ig]at h ⊢
  refine⟨h.1,?_⟩
  have h2:=h.2
  have step: ∀A',cT (owr fz o.dst o.op) A A'→ig P W0 n fz ops r K A'→ig P W0 n fz ops r K' A':=λA' ha=>uI r A' λA'' hb=>hk A'' (by simpa using ha.trans hb)
  split at h2
  ·exact j5 step h2
  ·split at h2
   ·refine⟨h2.1,?_⟩
    have h3:=h2.2
    split at h3
    ·rename_i hc;rw[if_pos hc];exact xm (λA' ha=>step A' (ha.mono λi hi=>rE hi)) h3
    ·rename_i hc;rw[if_neg hc];exact dq (λA' ha=>step A' (ha.mono λi hi=>rE hi)) h3
   ·exact h2.elim
theorem qA {id:Nat}{ops:Array Oper}{K K':aa→Prop}: ∀(l:List Oper) (A:aa),(∀A',cT (l.flatMap λo=>owr fz o.dst o.op) A A'→K A'→K' A')→cM P W0 n fz id ops l K A→cM P W0 n fz id ops l K' A
 |[],A,hk,h=>hk _ (.refl _ _) h
 |o::r,A,hk,h=>by
  simp only[cM]at h ⊢
  have step: ∀A',cT o.dst.toList A A'→cM P W0 n fz id ops r K A'→cM P W0 n fz id ops r K' A':=λA' ha=>qA r A' λA'' hb=>hk A'' (by
   refine cT.mono (ha.trans hb) λi hi=>?_
   rw[List.flatMap_cons]
   rcases List.mem_append.1 hi with hi|hi
   ·exact List.mem_append_left _ (rE hi)
   ·exact List.mem_append_right _ hi)
  split at h
  ·rename_i hE
   rw[if_pos hE]
   exact step A (.refl _ _) h
  rename_i hE
  rw[if_neg hE]
  refine⟨h.1,?_⟩
  have h2:=h.2
  split at h2
  ·exact zv step h2
  ·split at h2
   ·exact⟨h2.1,zv step h2.2⟩
   ·exact h2.elim
theorem uz {id:Nat}{K K':aa→Prop}: ∀(l:List Oper) (A:aa),(∀A',cT (l.flatMap λo=>owr fz o.dst o.op) A A'→K A'→K' A')→j0 P W0 n fz id l K A→j0 P W0 n fz id l K' A
 |[],A,hk,h=>hk _ (.refl _ _) h
 |o::r,A,hk,h=>by
  simp only[j0]at h ⊢
  have step: ∀A',cT (owr fz o.dst o.op) A A'→j0 P W0 n fz id r K A'→j0 P W0 n fz id r K' A':=λA' ha=>uz r A' λA'' hb=>hk A'' (by simpa using ha.trans hb)
  split at h
  ·rename_i hE
   rw[if_pos hE]
   exact⟨h.1,yz step h.2⟩
  ·rename_i hE
   rw[if_neg hE]
   exact step A (.refl _ _) h
theorem zp {id:Nat}{l:List Oper}{K K':aa→Prop}(hk: ∀A',cT (l.flatMap λo=>owr fz o.dst o.op) A A'→K A'→K' A')(h:lq P W0 n fz id l K A):lq P W0 n fz id l K' A:=by
 unfold lq at h ⊢
 split at h
 ·rename_i hc;rw[if_pos hc];exact hk _ (.refl _ _) h
 ·rename_i hc;rw[if_neg hc];exact uz _ _ hk h
theorem ee : ∀(c:Code) {Q Q':Exit→aa→Prop} (A:aa) (_: ∀e A',cT (k8 fz c) A A'→Q e A'→Q' e A'),cVC P W0 n fz c Q A→cVC P W0 n fz c Q' A
 | .skip,_,_,A,hq,h=>hq _ A (.refl _ _) h
 | .ret,_,_,A,hq,h=>hq _ A (.refl _ _) h
 | .exit _,_,_,A,hq,h=>hq _ A (.refl _ _) h
 | .seq x y,Q,Q',A,hq,h=>ee x A (λe A' ha q=>by
   cases e with
   |normal=>exact ee y A' (λe A'' hb=>hq e A'' (ha.trans hb)) q
   |_=>exact hq _ _ (ha.mono λi hi=>List.mem_append_left _ hi) q) h
 | .cond c x y,_,_,A,hq,h=>⟨h.1,h.2.1,λhb=>ee x A (λe A' ha=>hq e A' (ha.mono λi hi=>List.mem_append_left _ hi)) (h.2.2.1 hb),λhb=>ee y A (λe A' ha=>hq e A' (ha.mono λi hi=>List.mem_append_right _ hi)) (h.2.2.2 hb)⟩
 | .block id c,_,_,A,hq,h=>ee c A (λe A' ha q=>by
   cases e with
   |exit id'=>
    simp only[dB]at q ⊢
    split at q
    ·rename_i he;rw[if_pos he];exact hq _ _ ha q
    ·rename_i he;rw[if_neg he];exact hq _ _ ha q
   |_=>exact hq _ _ ha q) h
 | .region _ _ true,_,_,A,hq,h=>⟨h.1,h.2.1,k9.mono _ A (λB hB hd=>qA (fz:=fz) _ B (λA' ha q=>zp (λA'' hb q=>hq _ A'' ((hB.trans (ha.trans hb)).mono λi hi=>by
   rcases List.mem_append.1 hi with h|h
   ·exact EV _ _ h
   ·rcases List.mem_append.1 h with h|h<;>exact h) q) q) hd) h.2.2⟩
 | .region _ _ false,_,_,A,hq,h=>uI _ A (λA' ha q=>hq _ A' ha q) h
 | .loop c,_,_,_,hq,h=>VC.mono h λe A' q=>⟨hq e A' q.2 q.1,q.2⟩
 | .rangeFunc ..,_,_,_,_,h=>h.elim
 | .scope ..,_,_,_,_,h=>h.elim
 | .label ..,_,_,_,_,h=>h.elim
 | .goto ..,_,_,_,_,h=>h.elim
 | .refuse ..,_,_,_,_,h=>h.elim
def Bj (fz:List Nat)(l:List Oper)(A:aa)(k:aa→Prop)(_:Tag k):Prop:=k9 (zf fz l) A k
def yK (fz:List Nat)(l:List Oper)(A:aa)(k:aa→Prop)(_:Tag k):Prop:=k9 (zf fz l) A k
theorem yK.no {l:List Oper}{k:aa→Prop}(h:zf fz l=[])(hk:k A):yK fz l A k .mk:=by
 unfold yK
 rw[h]
 exact hk
theorem yK.of {l:List Oper}{k:aa→Prop}(ds:List Nat)(h:zf fz l=ds)(hk:k9 ds A k):yK fz l A k .mk:=by
 unfold yK
 rw[h]
 exact hk
theorem k9.done {k:aa→Prop}(hk:k A):k9 [] A k:=hk
theorem cg.cut {b:Bool}{x y z:Code}{Q:Exit→aa→Prop}(R:aa→Prop)(h: ∀A,R A→cVC P W0 n fz z Q A)(h1:b=true→cVC P W0 n fz x (bV R Q) A)(h2:b=false→cVC P W0 n fz y (bV R Q) A):cg P W0 n fz b x .mk y .mk z .mk Q .mk A:=
 ⟨λhb=>ee x A (λe A' _ q=>by cases e<;>first|exact h _ q|exact q) (h1 hb),λhb=>ee y A (λe A' _ q=>by cases e<;>first|exact h _ q|exact q) (h2 hb)⟩
theorem cg.both {b:Bool}{x y z:Code}{Q:Exit→aa→Prop}(h1:b=true→cVC P W0 n fz x (bV (cVC P W0 n fz z Q) Q) A)(h2:b=false→cVC P W0 n fz y (bV (cVC P W0 n fz z Q) Q) A):cg P W0 n fz b x .mk y .mk z .mk Q .mk A:=⟨h1,h2⟩
def eC (ks:List Nat)(A B:aa):aa:=⟨λi=>if ks.contains i then A.env i else B.env i,B.st⟩
theorem wk {ks ws:List Nat}{B:aa}(hk:ks.all (λi=>!ws.contains i)=true)(h:cT ws A B):eC ks A B=B:=by
 obtain⟨env,st⟩:=B
 show aa.mk _ st=aa.mk env st
 congr 1
 funext i
 show(if ks.contains i then A.env i else env i)=env i
 split
 ·rename_i hi
  refine(h i λhw=>?_).symm
  have:=List.all_eq_true.1 hk i (by simpa using hi)
  simp[hw]at this
 ·rfl
theorem cg.at {b:Bool}{x y z:Code}{Q:Exit→aa→Prop}(ks:List Nat)(hks:ks.all (λi=>!(k8 fz x++k8 fz y).contains i)=true)(R:aa→Prop)(h1:b=true→cVC P W0 n fz x (bV R Q) A)(h2:b=false→cVC P W0 n fz y (bV R Q) A)
  (h: ∀B,R B→cVC P W0 n fz z Q (eC ks A B)):cg P W0 n fz b x .mk y .mk z .mk Q .mk A:=by
 have key: ∀B,cT (k8 fz x++k8 fz y) A B→R B→cVC P W0 n fz z Q B:=λB ha hR=>by
  have:=h B hR
  rwa [wk hks ha]at this
 exact⟨λhb=>ee x A (λe A' ha q=>by cases e<;>first|exact key _ (ha.mono λi hi=>List.mem_append_left _ hi) q|exact q) (h1 hb),λhb=>ee y A (λe A' ha q=>by cases e<;>first|exact key _ (ha.mono λi hi=>List.mem_append_right _ hi) q|exact q) (h2 hb)⟩
theorem VC.RU {c:Operand}{x y:Code}{Q:Exit→aa→Prop}(h1:okM none (A.val c))(h2:yY (unm (A.val c)))(ht:bl (unm (A.val c))=true→VC P W0 n x Q A)(hf:bl (unm (A.val c))=false→VC P W0 n y Q A):VC P W0 n (.cond c x y) Q A:=λw C a hr=>by
 have hv:=hr.val c
 have hb:a.eval c= .bool (bl (unm (A.val c))):=by
  revert hv h1 h2
  generalize A.val c=u
  intro h1 h2 hv
  cases u<;>first|exact h2.elim|exact hv.fY|skip
  rename_i g v
  have:=hv.strip h1
  cases v<;>first|exact h2.elim|exact this.fY
 exact lG hb (λh=>ht h w C a hr) (λh=>hf h w C a hr)
theorem bt : ∀(c:Code) (Q:Exit→aa→Prop) (A:aa),cVC P W0 n fz c Q A→VC P W0 n c Q A
 | .skip,_,_,h=>.skip h
 | .ret,_,_,h=>.ret h
 | .exit _,_,_,h=>.exit h
 | .seq x y,Q,A,h=>.seq ((bt x _ A h).mono λe A' q=>by
   cases e with
   |normal=>exact bt y Q A' q
   |_=>exact q)
 | .cond c x y,Q,A,h=>.RU h.1 h.2.1 (λhb=>bt x Q A (h.2.2.1 hb)) (λhb=>bt y Q A (h.2.2.2 hb))
 | .block id c,Q,A,h=>.block (bt c _ A h)
 | .region id ops true,Q,A,h=>.yld _ A (k9.mono _ A (λA1 _ hd=>by
  obtain⟨vs,ss,B,h3,h4⟩:=iU _ _ _ hd
  have h5:=vP h4
  have:=VC.SS (id:=id) (l:=ops.toList) (Q:=Q) (A:=A1) (ac:=Bo [] ops.toList) h.1 (by have:=h.2.1;unfold xG at this;simpa using this) ⟨vs,ss,B,by simpa using h3,h5⟩
  simpa using this) h.2.2)
 | .region id ops false,Q,A,h=>by
  have h3:=kd _ _ _ h
  have:=VC.region (id:=id) (l:=ops.toList) (fz:=fz) (Q:=Q) (by simpa using h3)
  simpa using this
 | .loop c,Q,A,h=>VC.mono h λ_ _ q=>q.1
 | .rangeFunc ..,_,_,h=>h.elim
 | .scope ..,_,_,h=>h.elim
 | .label ..,_,_,h=>h.elim
 | .goto ..,_,_,h=>h.elim
 | .refuse ..,_,_,h=>h.elim
end
end Go.Av
end
section
namespace Go.Av
open Go
inductive Small :AV→Prop
 |undef:Small .undef
 |int (k n):Small (.int k n)
 |bool (b):Small (.bool b)
 |str {l:List UInt8}:l.length≤maxLen→Small (.str l)
 |nil:Small .nil
 |ay:Small .ay
 |jR:Small .jR
 |cG:Small .cG
 |iface {t v}:Small v→Small (.iface t v)
 |sl {e} {xs:List AV}:xs.length≤maxLen→(∀x∈xs,Small x)→Small (.sl e xs)
 |lit {e} {xs:List AV}:xs.length≤maxLen→(∀x∈xs,Small x)→Small (.lit e xs)
 |own {e} {xs:List AV} {tok}:xs.length≤maxLen→(∀x∈xs,Small x)→Small (.own e xs tok)
 |row {e id off n}:n≤maxLen→Small (.row e id off n)
 |agg {t} {fs:List AV}:(∀x∈fs,Small x)→Small (.agg t fs)
 |loc {t v}:Small v→Small (.loc t v)
 |ptr (t id i path):Small (.ptr t id i path)
 |it (id):Small (.it id)
 |mp (id):Small (.mp id)
 |yl (l):Small (.yl l)
 |fn {f} {caps:List AV}:(∀x∈caps,Small x)→Small (.fn f caps)
 |tup {vs:List AV}:(∀x∈vs,Small x)→Small (.tup vs)
 |maybe {g v}:(g=true→Small v)→Small (.maybe g v)
section
variable {P :Program}{W0 w w':World}{C C':Ctx}{σ σ':ab}{n:Nat}{A:aa}{a:Act}{fz:List Nat}
theorem dj {xs:List AV}(h: ∀(i:Nat)(x:AV),xs[i]?=some x→Small x): ∀x∈xs,Small x:=λx hx=>by
 obtain⟨i,hi,he⟩:=List.getElem_of_mem hx
 exact h i x (by rw[←he];exact List.getElem?_eq_getElem hi)
theorem Rel.small {x:AV}{cs:List Value}(h:Rel P w C x cs):Small x:=by
 induction h with
 |int k n=>exact .int k n
 |bool b=>exact .bool b
 |str h=>exact .str h
 |nil=>exact .nil
 |ay=>exact .ay
 |jR=>exact .jR
 |cG=>exact .cG
 |iface _ _ ih=>exact .iface ih
 |sl cf h1 h2 _ _ _ ih=>exact .sl (Nat.le_trans h1 h2) (dj ih)
 |lit cf h1 _ _ _ ih=>exact .lit h1 (dj ih)
 |own cf h1 h2 _ _ _ _ _ ih=>exact .own (Nat.le_trans h1 h2) (dj ih)
 |row h1 h2=>exact .row (Nat.le_trans h1 h2)
 |agg cf _ _ _ _ _ _ ih=>exact .agg (dj ih)
 |loc _ _ _ _ ih=>exact .loc ih
 |ptr=>exact .ptr ..
 |it=>exact .it _
 |mp=>exact .mp _
 |yl=>exact .yl _
 |fn h1 h2 h3 ih=>exact .fn (dj λi x hx=>ih i x _ hx (List.getElem?_eq_getElem (by rw[←h1];exact(List.getElem?_eq_some_iff.1 hx).1)))
theorem aC.small {x:AV}{v:Value}(h:aC P w C x v):Small x:=by
 induction h with
 |undef=>exact .undef
 |maybe _ _ ih=>exact .maybe ih
 |tup h1 _ ih=>exact .tup (dj λi x hx=>ih i x _ hx (List.getElem?_eq_getElem (by rw[←h1];exact(List.getElem?_eq_some_iff.1 hx).1)))
 |agg h=>exact h.small
 |one _ h=>exact h.small
structure WkA (A B:aa):Prop where
 env: ∀i,cR (A.env i) (B.env i)
 st:A.st=B.st
theorem WkA.refl (A:aa):WkA A A:=⟨λ_=>.refl _,rfl⟩
theorem WkA.upd {A B:aa}{d:Nat}{v:AV}(h:WkA A B)(hv:cR (A.env d) v):WkA A (B.upd d v):=⟨λi=>by
 by_cases hi:i=d
 ·subst hi;rw[aa.xe];exact hv
 ·rw[aa.rR B v hi];exact h.env i,h.st⟩
def Fw (I:aa→Prop)(A:aa):Prop:=I A
theorem Fw.here {I:aa→Prop}(h:I A):Fw I A:=h
def Jo (I:Nat→aa→Prop)(k:Nat)(A:aa):Prop:=∃ k',k'<k∧I k' A
theorem Jo.here {I:Nat→aa→Prop}{k:Nat}(k':Nat)(hk:k'<k)(h:I k' A):Jo I k A:=⟨k',hk,h⟩
def Kept (fz:List Nat)(c:Code)(_:Tag c)(ks:List Nat):Prop:=ks.all (λi=>!(k8 fz c).contains i)=true
theorem Kept.of {c:Code}{ks:List Nat}(h:ks.all (λi=>!(k8 fz c).contains i)=true):Kept fz c .mk ks:=h
theorem Kept.nil {c:Code}:Kept fz c .mk []:=rfl
theorem af.cD {c:Code}{Q:Exit→aa→Prop}(ks:List Nat)(hks:Kept fz c .mk ks)(I:Nat→aa→Prop)(k₀:Nat)(h₀:I k₀ A)
  (round: ∀k B,I k B→cVC P W0 n fz c (bV (Jo I k) Q) (eC ks A B)):af P W0 n fz c .mk Q .mk A:=by
 refine .loop (λk B=>cT (k8 fz c) A B∧I k B) k₀ ⟨.refl _ _,h₀⟩ λk B ⟨ha,hI⟩=>?_
 have h1:=round k B hI
 rw[wk hks ha]at h1
 refine(bt c _ B (ee (Q':=bV (λA'=>∃ k',k'<k∧cT (k8 fz c) A A'∧I k' A') λe A'=>Q e A'∧cT (k8 fz c) A A') c B (λe A' hb q=>?_) h1))
 have hab:cT (k8 fz c) A A':=(ha.trans hb).mono λi hi=>by rcases List.mem_append.1 hi with h|h<;>exact h
 cases e with
 |normal=>
  obtain⟨k',hk,hI'⟩:=q
  exact⟨k',hk,hab,hI'⟩
 |_=>exact⟨q,hab⟩
theorem af.upto {c:Code}{Q:Exit→aa→Prop}(ks:List Nat)(hks:Kept fz c .mk ks)(N:Nat)(I:Nat→aa→Prop)(i₀:Nat)(hi₀:i₀≤N)(h₀:I i₀ A)
  (round: ∀i B,i≤N→I i B→cVC P W0 n fz c (bV (λA'=>i<N∧I (i+1) A') Q) (eC ks A B)):af P W0 n fz c .mk Q .mk A:=by
 refine .cD ks hks (λk B=>∃ i,i≤N∧k=N-i∧I i B) (N-i₀) ⟨i₀,hi₀,rfl,h₀⟩ λk B ⟨i,hi,hk,hI⟩=>?_
 refine ee c _ (λe A' _ q=>?_) (round i B hi hI)
 cases e with
 |normal=>exact⟨N-(i+1),by have:=q.1;omega,i+1,q.1,rfl,q.2⟩
 |_=>exact q
theorem VC.cD {c:Code}{Q:Exit→aa→Prop}(fz:List Nat)(I:Nat→aa→Prop)(k₀:Nat)(h₀:Fw (I k₀) A)
  (round: ∀k A,I k A→cVC P W0 n fz c (bV (Jo I k) Q) A):af P W0 n fz c .mk Q .mk A:=.cD [] .nil I k₀ h₀ round
theorem VC.upto {c:Code}{Q:Exit→aa→Prop}(fz:List Nat)(N:Nat)(I:Nat→aa→Prop)(i₀:Nat)(hi₀:i₀≤N)(h₀:Fw (I i₀) A)
  (round: ∀i A,i≤N→I i A→cVC P W0 n fz c (bV (λA'=>i<N∧Fw (I (i+1)) A') Q) A):af P W0 n fz c .mk Q .mk A:=.upto [] .nil N I i₀ hi₀ h₀ round
theorem af.at {c:Code}{id:Nat}{K:aa→Prop}{Q:Exit→aa→Prop}(ks:List Nat)(hks:Kept fz c .mk ks)(R:aa→Prop)(h:af P W0 n fz c .mk (dB id (bV R Q)) .mk A)(hR: ∀B,R B→K (eC ks A B)):af P W0 n fz c .mk (dB id (bV K Q)) .mk A:=
 VC.mono h λe A' ⟨q,ha⟩=>by
  have key:R A'→K A':=λhr=>by
   have:=hR A' hr
   rwa [wk hks ha]at this
  refine⟨?_,ha⟩
  cases e with
  |normal=>exact key q
  |exit id'=>
   simp only[dB]at q ⊢
   split at q
   ·rename_i he;rw[if_pos he];exact key q
   ·rename_i he;rw[if_neg he];exact q
  |_=>exact q
theorem af.cut {c:Code}{id:Nat}{K:aa→Prop}{Q:Exit→aa→Prop}(R:aa→Prop)(hR: ∀A,R A→K A)(h:af P W0 n fz c .mk (dB id (bV R Q)) .mk A):af P W0 n fz c .mk (dB id (bV K Q)) .mk A:=.at [] .nil R h hR
def Ly (ts:List Nat)(r:AV)(σ:ab):Exit→aa→Prop
 | .normal,A| .ret,A=>cR (gV A.env ts) r∧A.st.take σ.length=σ
 |_,_=>False
theorem ai {f : FuncId} {fn : Func} {c : Code} {args : List AV} {r : AV} {m : Nat} (ts : List Nat) (fz : List Nat) (hf : P.funcs[f]? = some fn) (hb : fn.body = some c) (hnm : (fn.name == "runtime.NumGoroutine") = false)
  (hm:fn.ntmps=m) (hargs:Nat.ble args.length m=true) (hres:fn.results=(ts.map ResultVar.tmp).toArray) (hr:aR 0 r)
  (h:(∀a∈args,Small a)→ ∀σ,cVC P W0 m fz c (Ly ts r σ) ⟨gO args,σ⟩):ag P W0 f args r:=λσ=>by
 subst hm
 refine λw C vs hst hl hv=>?_
 have hsm: ∀a∈args,Small a:=dj λi x hx=>(hv i x _ hx (List.getElem?_eq_getElem (by rw[←hl];exact(List.getElem?_eq_some_iff.1 hx).1))).small
 have hvc:=bt c _ _ (h hsm σ)
 refine(qu hf hb hnm (Nat.le_of_ble_eq_true hargs) hres (Q:=λr' σ'=>r'=r∧σ'=σ) (hvc.mono λe A' q=>?_)) w C vs hst hl hv
 have key:cR (gV A'.env ts) r∧A'.st.take σ.length=σ→Mi ts (λr' σ'=>r'=r∧σ'=σ) σ .ret A':=λ⟨q1,q2⟩=>by
  refine⟨r,σ,q1,⟨Nat.le_refl _,q2.symm⟩,λid te xs hid hs=>?_,ec (Nat.zero_le _) hr,rfl,rfl⟩
  have:σ[id]?=some (some (.cells te xs)):=by rw[←hs,←q2,List.getElem?_take,if_pos hid]
  exact hst.ids this
 cases e with
 |normal=>exact key q
 |ret=>exact key q
 |_=>exact q.elim
def tF (P:Program)(t u e:TypeId)(N:Nat):Bool:=elT P t==some e&&(elT P u==some e&&(Nat.ble 1 (ae P e)&&(bk P e&&(Nat.ble (N*bytesOf P e) 140737488355328&&Nat.ble N 9223372036854775807))))
theorem sn {t u e:TypeId}{N:Nat}(h:tF P t u e N=true):(elT P t=some e∧elT P u=some e∧0<ae P e∧bk P e=true)∧N*bytesOf P e≤140737488355328∧N≤maxLen:=by
 simp only[tF,Bool.and_eq_true,beq_iff_eq]at h
 obtain⟨h1,h2,h3,h4,h5,h6⟩:=h
 exact⟨⟨h1,h2,Nat.le_of_ble_eq_true h3,h4⟩,Nat.le_of_ble_eq_true h5,Nat.le_of_ble_eq_true h6⟩
inductive Frz :aa→aa→Prop
 |refl (D:aa):Frz D D
 |row {D B:aa} (d:Nat) {e te:TypeId} {id off m:Nat} {xs:List AV}:D.env d= .row e id off m→D.st[id]?=some (some (.cells te xs))→off+m≤xs.length→Frz ((D.upd d (.sl e ((xs.drop off).take m))).al (D.st.set id none)) B→Frz D B
theorem bL.frz {B:aa}(hf:Frz A B): ∀{C:Ctx},bL P W0 n w C A a→ ∃C',bL P W0 n w C' B a∧Step w C w C':=by
 induction hf with
 |refl A=>exact λh=>⟨_,h,.refl _ _⟩
 |row d h1 h2 h3 _ ih=>
  intro C h
  have hv:=h.env d
  rw[h1]at hv
  have hfr:=kL h.st hv h2 h3
  obtain⟨k1,k2⟩:=h.st.kill _ (List.getElem?_eq_some_iff.1 h2).1
  have hr1:=h.step k1 k2
  have hr2:bL P W0 n w (C.kill _) ((aa.upd _ d (.sl _ _)).al (List.set _ _ none)) a:=⟨λj=>by
   by_cases hj:j=d
   ·subst hj;simpa[aa.upd,aa.al]using hfr
   ·have:=hr1.env j;simpa[aa.upd,aa.al,hj]using this,hr1.defers,hr1.size,hr1.st⟩
  obtain⟨C',g1,g2⟩:=ih hr2
  exact⟨C',g1,k1.trans g2⟩
def bU (R:aa→Prop):Exit→aa→Prop
 | .normal,A| .ret,A=>∃ A',Frz A A'∧R A'
 |_,_=>False
theorem bU.ret {R:aa→Prop}(h:R A):bU R .ret A:=⟨A,.refl A,h⟩
theorem bU.normal {R:aa→Prop}(h:R A):bU R .normal A:=⟨A,.refl A,h⟩
theorem bU.frz {R:aa→Prop}{x:Exit}(d:Nat){e te:TypeId}{id off m:Nat}{xs:List AV}(h1:A.env d= .row e id off m)(h2:A.st[id]?=some (some (.cells te xs)))(h3:off+m≤xs.length)
  (h:bU R x ((A.upd d (.sl e ((xs.drop off).take m))).al (A.st.set id none))):bU R x A:=by
 cases x with
 |normal=>obtain⟨A',g1,g2⟩:=h;exact⟨A',.row d h1 h2 h3 g1,g2⟩
 |ret=>obtain⟨A',g1,g2⟩:=h;exact⟨A',.row d h1 h2 h3 g1,g2⟩
 |_=>exact h.elim
theorem bU.vc {R:aa→Prop}{c:Code}(h:VC P W0 n c (bU R) A):VC P W0 n c (λe A'=>(e= .normal∨e= .ret)∧R A') A:=λw C a hr=>
 gM (h w C a hr) λe a' w' ⟨A',C',q,r,s⟩=>by
  cases e with
  |normal=>obtain⟨B,g1,g2⟩:=q;obtain⟨C'',h1,h2⟩:=r.frz g1;exact⟨B,C'',⟨.inl rfl,g2⟩,h1,s.trans h2⟩
  |ret=>obtain⟨B,g1,g2⟩:=q;obtain⟨C'',h1,h2⟩:=r.frz g1;exact⟨B,C'',⟨.inr rfl,g2⟩,h1,s.trans h2⟩
  |_=>exact q.elim
theorem cK {f : FuncId} {fn : Func} {c : Code} {args : List AV} {Q : AV → ab → Prop} {m : Nat} (ts : List Nat) (fz : List Nat) (hf : P.funcs[f]? = some fn) (hb : fn.body = some c) (hnm : (fn.name == "runtime.NumGoroutine") = false)
  (hm:fn.ntmps=m) (hargs:Nat.ble args.length m=true) (hres:fn.results=(ts.map ResultVar.tmp).toArray)
  (h:(∀a∈args,Small a)→cVC P W0 m fz c (bU λA=>∃ r,cR (gV A.env ts) r∧σ.length≤A.st.length∧Q r A.st) ⟨gO args,σ⟩):aX P W0 f args σ Q:=by
 subst hm
 refine λw C vs hst hl hv=>?_
 have hsm: ∀a∈args,Small a:=dj λi x hx=>(hv i x _ hx (List.getElem?_eq_getElem (by rw[←hl];exact(List.getElem?_eq_some_iff.1 hx).1))).small
 have hvc:=bU.vc (bt c _ _ (h hsm))
 refine .inl ⟨⟨fn,hf,by simp[hb],hnm⟩,calls_of_wp hf hb (wp_mono (wU (hvc w C _ (ka hst hl hv (Nat.le_of_ble_eq_true hargs)))) λe a' w' ⟨A',C',q,r,s⟩=>?_)⟩
 have fin:a'.defers=[]∧ ∃v,(results fn a'.tmps).run P w'= .ok v w'∧ ∃v₁ r σ' C',Ending.returned v= .returned v₁∧Q r σ'∧aB P W0 w' C' σ'∧aC P w' C' r v₁∧Step w C w' C':=by
  obtain⟨_,r1,h2,_,h4⟩:=q
  obtain⟨v,g1,g2⟩:=lp r hres
  exact⟨r.defers,v,g1,v,r1,A'.st,C',rfl,h4,r.st,g2.cU h2,s⟩
 rcases q.1 with rfl|rfl
 ·exact fin
 ·exact fin
theorem qK {f : FuncId} {fn : Func} {c : Code} {args : List AV} {r : AV} {m : Nat} (ts : List Nat) (fz : List Nat) (hf : P.funcs[f]? = some fn) (hb : fn.body = some c) (hnm : (fn.name == "runtime.NumGoroutine") = false)
  (hm:fn.ntmps=m) (hargs:Nat.ble args.length m=true) (hres:fn.results=(ts.map ResultVar.tmp).toArray) (hr:aR σ.length r)
  (h:(∀a∈args,Small a)→cVC P W0 m fz c (bU λA=>cR (gV A.env ts) r∧A.st.take σ.length=σ) ⟨gO args,σ⟩):aX P W0 f args σ λr' σ'=>r'=r∧σ'=σ:=by
 subst hm
 refine λw C vs hst hl hv=>?_
 have hsm: ∀a∈args,Small a:=dj λi x hx=>(hv i x _ hx (List.getElem?_eq_getElem (by rw[←hl];exact(List.getElem?_eq_some_iff.1 hx).1))).small
 have hvc:=bU.vc (bt c _ _ (h hsm))
 refine(qu hf hb hnm (Nat.le_of_ble_eq_true hargs) hres (Q:=λr' σ'=>r'=r∧σ'=σ) (hvc.mono λe A' ⟨he,q1,q2⟩=>?_)) w C vs hst hl hv
 have key:Mi ts (λr' σ'=>r'=r∧σ'=σ) σ .ret A':=by
  refine⟨r,σ,q1,⟨Nat.le_refl _,q2.symm⟩,λid te xs hid hs=>?_,hr,rfl,rfl⟩
  have:σ[id]?=some (some (.cells te xs)):=by rw[←hs,←q2,List.getElem?_take,if_pos hid]
  exact hst.ids this
 rcases he with rfl|rfl
 ·exact key
 ·exact key
theorem oG {f : FuncId} {fn : Func} {c : Code} {args : List AV} {r : AV} {m : Nat} (ts : List Nat) (fz : List Nat) (hf : P.funcs[f]? = some fn) (hb : fn.body = some c) (hnm : (fn.name == "runtime.NumGoroutine") = false)
  (hm:fn.ntmps=m) (hargs:Nat.ble args.length m=true) (hres:fn.results=(ts.map ResultVar.tmp).toArray) (hr:aR 0 r)
  (h:(∀a∈args,Small a)→ ∀σ,cVC P W0 m fz c (bU λA=>cR (gV A.env ts) r∧A.st.take σ.length=σ) ⟨gO args,σ⟩):ag P W0 f args r:=λσ=>
 qK ts fz hf hb hnm hm hargs hres (ec (Nat.zero_le _) hr) λhs=>h hs σ
theorem NL {f : FuncId} {fn : Func} {e : Array Value → Sem Value} {args : List AV} {r : AV} (hf : P.funcs[f]? = some fn) (hname : (fn.name == "runtime.NumGoroutine") = false)
  (hb:fn.body.isNone=true) (hn:Extern.findNext fn=none) (he:Extern.find fn=some e) (h: ∀w C (vs:List Value),args.length=vs.length→(∀(i:Nat) (a:AV) (v:Value),args[i]?=some a→vs[i]?=some v→aC P w C a v)→ ∃v,(e vs.toArray).run P w= .ok v w∧aC P w C r v):ag P W0 f args r:=λσ w C vs hst hl hv=>by
 obtain⟨v,h1,h2⟩:=h w C vs hl hv
 refine .inr ⟨v,w,?_,v,r,σ,C,rfl,⟨rfl,rfl⟩,hst,h2,.refl _ _⟩
 rw[run_callFunc_extern hf hname hb hn he,h1]
 rfl
theorem bX.own {t u e:TypeId}{x y:AV}{xs ys:List AV}{dst:Option Nat}{k:aa→Prop}(N:Nat)(ho:tF P t u e N=true)(hb:Bld A.st x e xs)(hy:dN A.st y e ys)(hN:xs.length+ys.length≤N)
  (hk: ∀v σ',App A.st x e (xs++ys) v σ'→k ((A.put dst v).al σ')):bX P [t,u] [x,y] dst A k .mk:=by
 obtain⟨h1,h2,h3⟩:=sn ho
 exact .inl ⟨e,xs,ys,h1,hb,hy,Nat.le_trans (Nat.mul_le_mul_right _ hN) h2,Nat.le_trans hN h3,hk⟩
theorem bX.row {t u e:TypeId}{x y:AV}{xs ys:List AV}{dst:Option Nat}{k:aa→Prop}(N:Nat)(ho:tF P t u e N=true)(hb:dh A.st x e xs)(hy:dN A.st y e ys)(hN:xs.length+ys.length≤N)
  (h0:ys=[]→k ((A.put dst x).al A.st)) (hk:ys≠[]→k ((A.put dst (.row e A.st.length 0 (xs.length+ys.length))).al (bS x A.st++[some (.cells e (xs++ys))]))):bX P [t,u] [x,y] dst A k .mk:=by
 obtain⟨h1,h2,h3⟩:=sn ho
 exact .inr (.inl ⟨e,xs,ys,h1,hb,hy,Nat.le_trans (Nat.mul_le_mul_right _ hN) h2,Nat.le_trans hN h3,h0,hk⟩)
theorem bX.zero {t u e:TypeId}{k' kn:IntKind}{m:Nat}{z:AV}{dst:Option Nat}{k:aa→Prop}(N:Nat)(ht:elT P t=some e)(hu:P.underlying u=some (.int kn))(hz:zeroOf P e=some z)(ho:(Nat.ble 1 (ae P e)&&(bk P e&&(Nat.ble (N*bytesOf P e) 140737488355328&&Nat.ble N 9223372036854775807)))=true)(h0:0<m)(hN:m≤N)
  (hk:k ((A.put dst (.row e A.st.length 0 m)).al (A.st++[some (.cells e (List.replicate m z))]))):bX P [t,u] [.ay,.int k' m] dst A k .mk:=by
 simp only[Bool.and_eq_true]at ho
 obtain⟨h1,h2,h3,h4⟩:=ho
 exact .inr (.inr (.inl ⟨e,m,z,k',kn,⟨rfl,rfl⟩,⟨ht,hu,Nat.le_of_ble_eq_true h1,h2,hz⟩,h0,Nat.le_trans (Nat.mul_le_mul_right _ hN) (Nat.le_of_ble_eq_true h3),Nat.le_trans hN (Nat.le_of_ble_eq_true h4),hk⟩))
theorem bX.eC {t u e:TypeId}{id off m:Nat}{y:AV}{zs ys:List AV}{dst:Option Nat}{k:aa→Prop}(N:Nat)(ho:tF P t u e N=true)(hs:A.st[id]?=some (some (.cells e zs)))(hm:off+m=zs.length)(hy:dN A.st y e ys)(hN:m+ys.length≤N)
  (hin:k ((A.put dst (.row e id off (m+ys.length))).al (A.st.set id (some (.cells e (zs++ys)))))) (hnew:k ((A.put dst (.row e A.st.length 0 (m+ys.length))).al (A.st++[some (.cells e (zs.drop off++ys))]))):bX P [t,u] [.row e id off m,y] dst A k .mk:=by
 obtain⟨h1,h2,h3⟩:=sn ho
 exact .inr (.inr (.inr (.inr (.inl ⟨e,id,off,m,zs,ys,h1,rfl,hs,hm,hy,Nat.le_trans (Nat.mul_le_mul_right _ hN) h2,Nat.le_trans hN h3,hin,hnew⟩))))
theorem nh.row {t e:TypeId}{id off m:Nat}{zs:List AV}{v:AV}{dst:Option Nat}{k:aa→Prop}(h1:elT P t=some e)(h3:0<ae P e)(hz:zeroOf P e=some v)(hs:A.st[id]?=some (some (.cells e zs)))(hN:off+m≤zs.length)
  (hk:k ((A.put dst (.tup [])).al (A.st.set id (some (.cells e (iy zs off (List.replicate m v))))))):nh P [t] [.row e id off m] dst A k .mk:=
 ⟨e,id,off,m,zs,v,⟨h1,h3,hz⟩,rfl,hs,hN,hk⟩
theorem DR.put {t kt vt:TypeId}{id:Nat}{ix v:AV}{l:List (AV×AV)}{k:aa→Prop}(h1:ou P t=some (kt,vt))(h2:Maps.Keyed P kt)(h3:DN P kt ix)(h4:(ng v).isSome=true)(hs:A.st[id]?=some (some (.mp kt l)))
  (hk:k (A.al (A.st.set id (some (.mp kt (Af P l ix v)))))):DR P t (.mp id) ix v A k .mk:=⟨kt,vt,l,h1,h2,h3,h4,hs,hk⟩
theorem yQ.go {t e:TypeId}{k k':IntKind}{m:Nat}{z:AV}{dst:Option Nat}{K:aa→Prop}(N:Nat)(ht:elT P t=some e)(hz:zeroOf P e=some z)(ho:(Nat.ble 1 (ae P e)&&Nat.ble (N*bytesOf P e) 281474976710656&&Nat.ble N 9223372036854775807)=true)(hN:m≤N)
  (hk:K ((A.put dst (.row e A.st.length 0 m)).al (A.st++[some (.cells e (List.replicate m z))]))):yQ P t (.int k m) (.int k' m) dst A K .mk:=by
 rw[Bool.and_eq_true,Bool.and_eq_true]at ho
 refine⟨rfl,?_⟩
 simp only[ht,hz,Int.toNat_natCast]
 refine⟨Nat.le_of_ble_eq_true ho.1.1,Int.natCast_nonneg _,Nat.le_trans (Nat.mul_le_mul_right _ hN) (Nat.le_of_ble_eq_true ho.1.2),Nat.le_trans hN (Nat.le_of_ble_eq_true ho.2),hk⟩
theorem Ar.of {so:Option ab}{g:FuncId}{us:List AV}{r:AV}(h:ag P W0 g us r):Ar P W0 so g us r:=by cases so<;>first|exact h|exact h _
theorem aA.go {gd:Option Bool}{so:Option ab}{g:FuncId}{caps us:List AV}{dst:Option Nat}{k:aa→Prop}{r:AV}(h:imp gd (ag P W0 g (us++caps) r))(hk:k (A.put dst (cS gd r))):aA P W0 gd so (.fn g caps) us dst A k .mk:=⟨r,h.map .of,hk⟩
theorem aA.st {gd:Option Bool}{g:FuncId}{caps us:List AV}{dst:Option Nat}{k:aa→Prop}{r:AV}(h:imp gd (aX P W0 g (us++caps) σ λr' σ'=>r'=r∧σ'=σ))(hk:k (A.put dst (cS gd r))):aA P W0 gd (some σ) (.fn g caps) us dst A k .mk:=⟨r,h,hk⟩
theorem aA.fn {gd:Option Bool}{so:Option ab}{g:FuncId}{us:List AV}{dst:Option Nat}{k:aa→Prop}{r:AV}(h:ag P W0 g us r)(hk:k (A.put dst (cS gd r))):aA P W0 gd so (.fn g []) us dst A k .mk:=⟨r,.of (.of (by simpa using h)),hk⟩
theorem aA.fnG {G:Bool}{so:Option ab}{g:FuncId}{us:List AV}{dst:Option Nat}{k:aa→Prop}{r:AV}(h:G=true→ag P W0 g us r)(hk:k (A.put dst (.maybe G r))):aA P W0 (some G) so (.fn g []) us dst A k .mk:=⟨r,λhg=>.of (by simpa using h hg),hk⟩
theorem nK (dst:Option Nat)(r:AV):(A.put dst r).al A.st=A.put dst r:=by cases dst<;>rfl
theorem an.pure {g:FuncId}{caps us:List AV}{dst:Option Nat}{k:aa→Prop}{r:AV}(h:ag P W0 g (us++caps) r)(hk:k (A.put dst r)):an P W0 (.fn g caps) us dst A k .mk:=
 (h A.st).mono λr' σ' ⟨h1,h2⟩=>by subst h1 h2;rw[nK];exact hk
theorem an.fn {g:FuncId}{us:List AV}{dst:Option Nat}{k:aa→Prop}{r:AV}(h:ag P W0 g us r)(hk:k (A.put dst r)):an P W0 (.fn g []) us dst A k .mk:=.pure (by simpa using h) hk
end
end Go.Av
end
