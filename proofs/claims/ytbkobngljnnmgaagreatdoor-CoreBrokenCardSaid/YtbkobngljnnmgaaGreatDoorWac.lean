/- What the last text of this claim rests on. No conditions. -/
import Derived.Attr
import Derived.Test.YtbkobngljnnmgaaGreatDoorWab
set_option linter.unusedSimpArgs false
set_option linter.unusedVariables false
open Iff renaming rfl->acf
section
namespace Go.Av
open Go
section
variable {P :Program}{W0:World}{σ:ab}{n:Nat}{A:aa}{gd:Option Bool}{fz:List Nat}{Q:Exit->aa->Prop}{K k:aa->Prop}{ops:Array Oper}
theorem Od  :unm .undef= .undef:=rfl
theorem L5  :okM gd .undef=True:=rfl
theorem IN  (q:Bool):iu gd q .undef=True:=rfl
theorem UE (k:IntKind)(m:Int):unm (.int k m)=(.int k m):=rfl
theorem U8 (k:IntKind)(m:Int):okM gd (.int k m)=True:=rfl
theorem RZ (k:IntKind)(m:Int)(q:Bool):iu gd q (.int k m)=True:=rfl
theorem Sf (b:Bool):unm (.bool b)=(.bool b):=rfl
theorem Se (b:Bool):okM gd (.bool b)=True:=rfl
theorem Lh (b:Bool)(q:Bool):iu gd q (.bool b)=True:=rfl
theorem VM (l:List UInt8):unm (.str l)=(.str l):=rfl
theorem Vs (l:List UInt8):okM gd (.str l)=True:=rfl
theorem Rr (l:List UInt8)(q:Bool):iu gd q (.str l)=True:=rfl
theorem TN  :unm .nil= .nil:=rfl
theorem UG  :okM gd .nil=True:=rfl
theorem SI  (q:Bool):iu gd q .nil=True:=rfl
theorem S5  :unm .aq= .aq:=rfl
theorem QI  :okM gd .aq=True:=rfl
theorem N7  (q:Bool):iu gd q .aq=True:=rfl
theorem Yf (e:TypeId)(xs:List AV):unm (.sl e xs)=(.sl e xs):=rfl
theorem Xq (e:TypeId)(xs:List AV):okM gd (.sl e xs)=True:=rfl
theorem T2 (e:TypeId)(xs:List AV)(q:Bool):iu gd q (.sl e xs)=True:=rfl
theorem Vi (e:TypeId)(xs:List AV):unm (.lit e xs)=(.lit e xs):=rfl
theorem Wc (e:TypeId)(xs:List AV):okM gd (.lit e xs)=True:=rfl
theorem SE (e:TypeId)(xs:List AV)(q:Bool):iu gd q (.lit e xs)=True:=rfl
theorem Uu (e:TypeId)(xs:List AV)(tok:Nat):unm (.own e xs tok)=(.own e xs tok):=rfl
theorem UO (e:TypeId)(xs:List AV)(tok:Nat):okM gd (.own e xs tok)=True:=rfl
theorem Qs (e:TypeId)(xs:List AV)(tok:Nat)(q:Bool):iu gd q (.own e xs tok)=True:=rfl
theorem P9 :unm .lg= .lg:=rfl
theorem P6 :okM gd .lg=True:=rfl
theorem Yc (id:Nat):unm (.mp id)=(.mp id):=rfl
theorem XP (id:Nat):okM gd (.mp id)=True:=rfl
theorem TY (id:Nat)(q:Bool):iu gd q (.mp id)=True:=rfl
theorem Jo :unm .da= .da:=rfl
theorem Qq :unm .ke= .ke:=rfl
theorem HO :okM gd .da=True:=rfl
theorem Qk :okM gd .ke=True:=rfl
theorem FP (q:Bool):iu gd q .da=True:=rfl
theorem Lz (q:Bool):iu gd q .ke=True:=rfl
theorem NM (t:TypeId)(v:AV):unm (.iface t v)= .iface t v:=rfl
theorem Nj (t:TypeId)(v:AV):okM gd (.iface t v)=True:=rfl
theorem Iv (t:TypeId)(v:AV)(q:Bool):iu gd q (.iface t v)=True:=rfl
theorem TF (e:TypeId)(id off m:Nat):unm (.row e id off m)=(.row e id off m):=rfl
theorem UI (e:TypeId)(id off m:Nat):okM gd (.row e id off m)=True:=rfl
theorem Ru (e:TypeId)(id off m:Nat)(q:Bool):iu gd q (.row e id off m)=True:=rfl
theorem Vq (t:TypeId)(fs:List AV):unm (.agg t fs)=(.agg t fs):=rfl
theorem UR (t:TypeId)(fs:List AV):okM gd (.agg t fs)=True:=rfl
theorem S3 (t:TypeId)(fs:List AV)(q:Bool):iu gd q (.agg t fs)=True:=rfl
theorem Ue (t:TypeId)(v:AV):unm (.loc t v)=(.loc t v):=rfl
theorem Ud (t:TypeId)(v:AV):okM gd (.loc t v)=True:=rfl
theorem Ss (t:TypeId)(v:AV)(q:Bool):iu gd q (.loc t v)=True:=rfl
theorem TO (t:TypeId)(id i:Nat)(path:List Nat):unm (.ptr t id i path)=(.ptr t id i path):=rfl
theorem VJ (t:TypeId)(id i:Nat)(path:List Nat):okM gd (.ptr t id i path)=True:=rfl
theorem Sw (t:TypeId)(id i:Nat)(path:List Nat)(q:Bool):iu gd q (.ptr t id i path)=True:=rfl
theorem Xf (id:Nat):unm (.it id)=(.it id):=rfl
theorem Yp (id:Nat):unm (.yl id)=(.yl id):=rfl
theorem YH (id:Nat):okM gd (.it id)=True:=rfl
theorem XH (id:Nat):okM gd (.yl id)=True:=rfl
theorem UY (id:Nat)(q:Bool):iu gd q (.it id)=True:=rfl
theorem VN (id:Nat)(q:Bool):iu gd q (.yl id)=True:=rfl
theorem Yb (f:FuncId)(caps:List AV):unm (.fn f caps)=(.fn f caps):=rfl
theorem X9 (f:FuncId)(caps:List AV):okM gd (.fn f caps)=True:=rfl
theorem VO (f:FuncId)(caps:List AV)(q:Bool):iu gd q (.fn f caps)=True:=rfl
theorem TI (vs:List AV):unm (.tup vs)=(.tup vs):=rfl
theorem Ve (vs:List AV):okM gd (.tup vs)=True:=rfl
theorem S4 (vs:List AV)(q:Bool):iu gd q (.tup vs)=True:=rfl
theorem MS (g:Bool)(v:AV):unm (.maybe g v)=v:=rfl
attribute [go_sem] Od L5 IN UE U8 RZ Sf Se Lh VM Vs Rr TN UG SI S5 QI N7 Yf Xq T2 Vi Wc SE Uu UO Qs P9 P6 Yc XP TY Jo Qq HO Qk FP Lz NM Nj Iv TF UI Ru Vq UR S3 Ue Ud Ss TO VJ Sw Xf Yp YH XH UY VN Yb X9 VO TI Ve S4 MS
def M5 (g h:Bool):Prop:=g=true->h=true
@[go_sem] theorem Zp (g:Bool):M5 g g=True:=eq_true id
@[go_sem] theorem Zc (g:Bool):M5 g true=True:=eq_true λ_=>rfl
theorem EH (g:Bool)(v:AV):okM none (.maybe g v)=(g=true):=rfl
theorem Gt (G g:Bool)(v:AV):okM (some G) (.maybe g v)=M5 G g:=rfl
theorem BS (g b:Bool)(v:AV):iu none b (.maybe g v)=M5 b g:=rfl
attribute [go_sem] EH Gt BS
@[go_sem] theorem UA (G g b:Bool)(v:AV):iu (some G) b (.maybe g v)=M5 (G&&b) g:=by simp[iu,imp,M5]
theorem PZ (p:Prop):imp none p=p:=rfl
theorem QS (g:Bool)(p:Prop):imp (some g) p=(g=true->p):=rfl
theorem Ll (b:Bool):Fp (.bool b)=True:=rfl
theorem Vk (b:Bool):bl (.bool b)=b:=rfl
theorem V8 (k:IntKind)(m:Int):isI (.int k m)=True:=rfl
theorem Xr (k:IntKind)(m:Int):iv (.int k m)=m:=rfl
theorem OM (b:Bool):gdC (.bool b)=True:=rfl
attribute [go_sem] PZ QS Ll Vk V8 Xr OM
@[go_sem ↓] theorem Pq (p:Prop):imp (some false) p=True:=eq_true λh=>(Bool.false_ne_true h).elim
@[go_sem] theorem VL (v:AV):gdC (.maybe false v)=True:=by cases v<;>simp[gdC]
@[go_sem] theorem Wp (want:Bool)(v:AV):gdV want (.maybe false v)=false:=by cases v<;>simp[gdV]
@[go_sem] theorem Y0 (g b:Bool):gdC (.maybe g (.bool b))=True:=rfl
@[go_sem] theorem Yq (b:Bool):gdV true (.bool b)=b:=by cases b<;>rfl
@[go_sem] theorem Xj (b:Bool):gdV false (.bool b)= !b:=by cases b<;>rfl
@[go_sem] theorem WJ (g b:Bool):gdV true (.maybe g (.bool b))=(g&&b):=by cases g<;>cases b<;>rfl
@[go_sem] theorem WM (g b:Bool):gdV false (.maybe g (.bool b))=(g&& !b):=by cases g<;>cases b<;>rfl
theorem Hd (v:AV):dp none v=v:=rfl
theorem Ji (g:Bool)(v:AV):dp (some g) v= .maybe g v:=rfl
theorem Vb (d i:Nat)(v:AV):(A.upd d v).env i=if i=d then v else A.env i:=rfl
theorem YP (d:Nat)(v:AV):(A.upd d v).st=A.st:=rfl
theorem XK (d:Nat)(v:AV):A.put (some d) v=A.upd d v:=rfl
theorem Xp (v:AV):A.put none v=A:=rfl
theorem IH (s:ab)(i:Nat):(A.ax s).env i=A.env i:=rfl
theorem K9 (s:ab):(A.ax s).st=s:=rfl
theorem Cq (B:aa)(i:Nat):(keep [] A B).env i=B.env i:=rfl
attribute [go_sem] Hd Ji Vb YP XK Xp IH K9 Cq
@[go_sem] theorem Tx (k:Nat)(ks:List Nat)(B:aa)(i:Nat):(keep (k::ks) A B).env i=if i=k then A.env i else(keep ks A B).env i:=by
 grind [keep]
theorem U2 (ks:List Nat)(B:aa):(keep ks A B).st=B.st:=rfl
theorem Yw (e:Nat->AV)(s:ab)(i:Nat):(aa.mk e s).env i=e i:=rfl
theorem aa3 (e:Nat->AV)(s:ab):(aa.mk e s).st=s:=rfl
theorem RJ (as:List AV)(i:Nat):iU as i=as[i]?.getD .undef:=rfl
theorem Ut (t:Nat):A.val (.tmp t)=A.env t:=rfl
theorem SN (f:Nat):A.val (.func f)= .fn f []:=rfl
theorem Ua (k:IntKind)(m:Int):A.val (.const (.int k m))= .int k m:=rfl
theorem Ql (b:Bool):A.val (.const (.bool b))= .bool b:=rfl
theorem Wk :A.val (.const (.pointer none))= .nil:=rfl
theorem PF :A.val (.const (.slice none 0 0))= .aq:=rfl
theorem VH (l:List UInt8):A.val (.const (.string ⟨l.toArray⟩))=if qd 300 l=true then .str l else .undef:=rfl
attribute [go_sem] U2 Yw aa3 RJ Ut SN Ua Ql Wk PF VH
@[go_sem] theorem Yj (n:Nat):qd n []=true:=by cases n<;>rfl
theorem Ej (n:Nat)(x:UInt8)(l:List UInt8):qd (n+1) (x::l)=qd n l:=rfl
theorem HT :cK A []=[]:=rfl
theorem D6 (x:Operand)(r:List Operand):cK A (x::r)=unm (A.val x)::cK A r:=rfl
theorem MQ :eZ gd A []=True:=rfl
theorem Hr (x:Operand)(r:List Operand):eZ gd A (x::r)=(okM gd (A.val x)/\eZ gd A r):=rfl
theorem HE :ez A []=[]:=rfl
theorem GF (i:Nat)(x:Operand)(r:List (Nat×Operand)):ez A ((i,x)::r)=(i,unm (A.val x))::ez A r:=rfl
theorem Hk :gO gd A []=True:=rfl
theorem F1 (i:Nat)(x:Operand)(r:List (Nat×Operand)):gO gd A ((i,x)::r)=(okM gd (A.val x)/\gO gd A r):=rfl
attribute [go_sem] Ej HT D6 MQ Hr HE GF Hk F1
attribute [go_sem] List.getElem?_cons_zero List.getElem?_cons_succ List.getElem?_nil Option.getD_some Option.getD_none Option.isSome_some Option.bind_some List.getElem?_toArray qz List.set_cons_zero List.set_cons_succ true_and and_true Bool.and_true Bool.true_and Bool.and_false Bool.false_and Bool.or_false Bool.false_or Bool.or_true Bool.true_or
theorem vq (id:Nat)(ops:Array Oper)(d:Bool)(y:Code):cVC P W0 n fz (.seq (.region id ops d) y) Q A=cVC P W0 n fz (.region id ops d) (cq (cVC P W0 n fz y Q) Q) A:=propext acf
theorem yR (id:Nat)(c:Code)(y:Code):cVC P W0 n fz (.seq (.block id c) y) Q A=cVC P W0 n fz (.block id c) (cq (cVC P W0 n fz y Q) Q) A:=propext acf
attribute [go_sem ↓] vq yR
theorem tG (K1 K2:aa->Prop):cq K1 (cq K2 Q)=cq K1 Q:=by funext e A;cases e<;>rfl
@[go_sem ↓] theorem Wv (u v y:Code):cVC P W0 n fz (.seq (.seq u v) y) Q A=cVC P W0 n fz (.seq u (.seq v y)) Q A:=by simp[cVC,tG]
theorem CR  (y:Code):cVC P W0 n fz (.seq .skip y) Q A=cVC P W0 n fz .skip (cq (cVC P W0 n fz y Q) Q) A:=propext acf
theorem DK  (y:Code):cVC P W0 n fz (.seq .ret y) Q A=cVC P W0 n fz .ret (cq (cVC P W0 n fz y Q) Q) A:=propext acf
theorem CQ (id:Nat)(y:Code):cVC P W0 n fz (.seq (.exit id) y) Q A=cVC P W0 n fz (.exit id) (cq (cVC P W0 n fz y Q) Q) A:=propext acf
theorem BW (c:Code)(y:Code):cVC P W0 n fz (.seq (.loop c) y) Q A=cVC P W0 n fz (.loop c) (cq (cVC P W0 n fz y Q) Q) A:=propext acf
attribute [go_sem ↓] CR DK CQ BW
theorem MC :iX .ret=true:=rfl
theorem Ja (id:Nat):iX (.exit id)=true:=rfl
theorem Hc :iX .skip=false:=rfl
theorem NS (x y:Code):iX (.seq x y)=(iX x||iX y):=rfl
theorem JD (c:Operand)(x y:Code):iX (.cond c x y)=(iX x&&iX y):=rfl
attribute [go_sem] MC Ja Hc NS JD
theorem CS (id:Nat)(ops:Array Oper)(d:Bool):iX (.region id ops d)=false:=rfl
theorem Ee (id:Nat)(c:Code):iX (.block id c)=false:=rfl
theorem Jp (c:Code):iX (.loop c)=false:=rfl
attribute [go_sem ↓] CS Ee Jp
@[go_sem ↓] theorem WK (c:Operand)(x y z:Code):cVC P W0 n fz (.seq (.cond c x y) z) Q A=(okM none (A.val c)/\Fp (unm (A.val c))/\(if iX x||iX y then
   (bl (unm (A.val c))=true->cVC P W0 n fz x (cq (cVC P W0 n fz z Q) Q) A)/\(bl (unm (A.val c))=false->cVC P W0 n fz y (cq (cVC P W0 n fz z Q) Q) A)
  else cc P W0 n fz (bl (unm (A.val c))) x .mk y .mk z .mk Q .mk A)):=by
 split<;>exact propext acf
theorem RV :cVC P W0 n fz .skip Q A=Q .normal A:=propext acf
theorem Un :cVC P W0 n fz .ret Q A=Q .ret A:=propext acf
theorem SA (id:Nat):cVC P W0 n fz (.exit id) Q A=Q (.exit id) A:=propext acf
theorem LG (id:Nat)(c:Code):cVC P W0 n fz (.block id c) Q A=cVC P W0 n fz c (eB id Q) A:=propext acf
theorem PK (c:Operand)(x y:Code):cVC P W0 n fz (.cond c x y) Q A=(okM none (A.val c)/\Fp (unm (A.val c))/\(bl (unm (A.val c))=true->cVC P W0 n fz x Q A)/\(bl (unm (A.val c))=false->cVC P W0 n fz y Q A)):=propext acf
attribute [go_sem ↓] RV Un SA LG PK
@[go_sem ↓] theorem X7 (id:Nat)(l:List Oper):cVC P W0 n fz (.region id l.toArray false) Q A=j3 P W0 n fz l.toArray l (Q .normal) A:=by simp[cVC]
@[go_sem ↓] theorem ZA (id:Nat)(l:List Oper):cVC P W0 n fz (.region id l.toArray true) Q A=(P.follows .mixedOrders=true/\Ea fz id l.toArray .mk/\KY fz l A (dx P W0 n fz id l.toArray l (λB=>om P W0 n fz id l (Q .normal) B)) .mk):=by simp[cVC,KY]
@[go_sem ↓] theorem aaE (l:List Oper)(k:aa->Prop):KY fz l A k .mk=(if fz.all (λx=>decide (x<6000000))then k A else Ds fz l A k .mk):=by
 unfold KY Ds FY;split<;>rfl
theorem PY (c:Code):cVC P W0 n fz (.loop c) Q A=ae P W0 n fz c .mk Q .mk A:=propext acf
theorem De :cq K Q .normal A=K A:=propext acf
theorem My :cq K Q .ret A=Q .ret A:=propext acf
theorem JR (id:Nat):cq K Q (.exit id) A=Q (.exit id) A:=propext acf
theorem Ek (id id':Nat):eB id Q (.exit id') A=if id'=id then Q .normal A else Q (.exit id') A:=propext acf
theorem ym (id:Nat):eB id Q .normal A=Q .normal A:=propext acf
theorem Ju (id:Nat):eB id Q .ret A=Q .ret A:=propext acf
theorem Th :j3 P W0 n fz ops [] K A=K A:=propext acf
theorem Me (dst:Option Nat)(op:Op)(ty:TypeId)(pos:String)(after:Array Edge)(r:List Oper):j3 P W0 n fz ops (⟨dst,op,ty,pos,after,none⟩::r) K A=(j4 n dst/\op2 P W0 fz dst A (λA'=>j3 P W0 n fz ops r K A') op):=propext acf
theorem G6 (dst:Option Nat)(op:Op)(ty:TypeId)(pos:String)(after:Array Edge)(j:Nat)(want:Bool)(r:List Oper):j3 P W0 n fz ops (⟨dst,op,ty,pos,after,some (j,want)⟩::r) K A=(j4 n dst/\(match tJ ops j with
   |some d=>gdC (A.env d)/\(if Wi fz dst then gop P W0 (gdV want (A.env d)) dst A (λA'=>j3 P W0 n fz ops r K A') op else vop P W0 (some (gdV want (A.env d))) (some A.st) dst A (λA'=>j3 P W0 n fz ops r K A') op)
   |none=>False)):=propext acf
attribute [go_sem ↓] PY De My JR Ek ym Ju Th Me G6
theorem Nd (d:Nat):Wi fz (some d)=fz.contains (2000000+d):=rfl
theorem PC (d:Nat):ovM fz (some d)=fz.contains (5000000+d):=rfl
theorem Qo :ovM fz none=false:=rfl
theorem LA :Wi fz none=false:=rfl
theorem RX (d:Nat):rdM fz (some d)=fz.contains (3000000+d):=rfl
theorem PQ :rdM fz none=false:=rfl
attribute [go_sem] Nd PC Qo LA RX PQ
attribute [go_sem] decide_true decide_false
theorem LS (id:Nat)(l:List Oper):om P W0 n fz id l K A=(if fz.all (λx=>decide (x<2000000))then K A else lf P W0 n fz id l K A):=rfl
theorem RR (id:Nat):lf P W0 n fz id [] K A=K A:=propext acf
attribute [go_sem ↓] LS RR
@[go_sem ↓] theorem YW (id d:Nat)(op:Op)(ty:TypeId)(pos:String)(after:Array Edge)(g:Option (Nat×Bool))(r:List Oper):lf P W0 n fz id (⟨some d,op,ty,pos,after,g⟩::r) K A=(if fz.contains (2000000+d)then d<n/\eop P W0 fz (some d) A (λA'=>if fz.contains (1000000+d)then e7 A.st A'.st/\lf P W0 n fz id r K A' else lf P W0 n fz id r K A') op else lf P W0 n fz id r K A):=by rw[lf];rfl
@[go_sem ↓] theorem YF (id:Nat)(op:Op)(ty:TypeId)(pos:String)(after:Array Edge)(g:Option (Nat×Bool))(r:List Oper):lf P W0 n fz id (⟨none,op,ty,pos,after,g⟩::r) K A=(if fz.contains (4000000+id)then True/\eop P W0 fz none A (λA'=>lf P W0 n fz id r K A') op else lf P W0 n fz id r K A):=by rw[lf];rfl
theorem ME (dst:Option Nat)(t:TypeId)(x y:Operand):eop P W0 fz dst A k (.store t x y)=(Rt fz x/\okM none (A.val x)/\okM none (A.val y)/\j1 P fz t x (unm (A.val y)) A (λA'=>k (A'.put dst .undef)) .mk (unm (A.val x))):=propext acf
theorem O1 (dst:Option Nat)(x:Operand):eop P W0 fz dst A k (.move x)=op2 P W0 fz dst A k (.move x):=propext acf
theorem Iq (dst:Option Nat)(x:Operand):eop P W0 fz dst A k (.assign x)=op2 P W0 fz dst A k (.assign x):=propext acf
theorem Qz (dst:Option Nat)(c x y:Operand):eop P W0 fz dst A k (.pick c x y)=op2 P W0 fz dst A k (.pick c x y):=propext acf
theorem Ni (dst:Option Nat)(op:BinOp)(t t':TypeId)(x y:Operand):eop P W0 fz dst A k (.binOp op t x y t')=op2 P W0 fz dst A k (.binOp op t x y t'):=propext acf
theorem OK (dst:Option Nat)(op:UnOp)(t:TypeId)(x:Operand):eop P W0 fz dst A k (.unOp op t x)=op2 P W0 fz dst A k (.unOp op t x):=propext acf
theorem Rx (dst:Option Nat)(t:TypeId)(x:Operand):eop P W0 fz dst A k (.load t x)=op2 P W0 fz dst A k (.load t x):=propext acf
theorem yy (dst:Option Nat)(t:TypeId)(x:Operand)(i:Nat):eop P W0 fz dst A k (.fieldAddr t x i)=op2 P W0 fz dst A k (.fieldAddr t x i):=propext acf
theorem MP (dst:Option Nat)(t:TypeId)(x:Operand)(i:Nat):eop P W0 fz dst A k (.field t x i)=op2 P W0 fz dst A k (.field t x i):=propext acf
theorem yU (dst:Option Nat)(t:TypeId)(x y:Operand):eop P W0 fz dst A k (.indexAddr t x y)=op2 P W0 fz dst A k (.indexAddr t x y):=propext acf
theorem LR (dst:Option Nat)(t:TypeId)(x y:Operand):eop P W0 fz dst A k (.index t x y)=op2 P W0 fz dst A k (.index t x y):=propext acf
theorem EZ (dst:Option Nat)(x:Operand)(i:Nat):eop P W0 fz dst A k (.extract x i)=op2 P W0 fz dst A k (.extract x i):=propext acf
theorem Bv (dst:Option Nat)(x:Operand):eop P W0 fz dst A k (.nilCheck x)=op2 P W0 fz dst A k (.nilCheck x):=propext acf
theorem E4 (dst:Option Nat)(s d:TypeId)(x:Operand):eop P W0 fz dst A k (.convert s d x)=op2 P W0 fz dst A k (.convert s d x):=propext acf
theorem vL (dst:Option Nat)(x:Operand)(xt d:TypeId)(ok:Bool):eop P W0 fz dst A k (.typeAssert x xt d ok)=op2 P W0 fz dst A k (.typeAssert x xt d ok):=propext acf
theorem qG (dst:Option Nat)(t:TypeId)(x:Operand):eop P W0 fz dst A k (.makeInterface t x)=op2 P W0 fz dst A k (.makeInterface t x):=propext acf
theorem OF (dst:Option Nat)(t:TypeId)(x:Operand)(lo hi mx:Option Operand):eop P W0 fz dst A k (.slice t x lo hi mx)=op2 P W0 fz dst A k (.slice t x lo hi mx):=propext acf
theorem NL (dst:Option Nat)(t:TypeId)(ps:Array (Nat×Operand)):eop P W0 fz dst A k (.build t ps)=op2 P W0 fz dst A k (.build t ps):=propext acf
theorem x0 (dst:Option Nat)(t:TypeId)(m:Nat)(ps:Array (Nat×Operand)):eop P W0 fz dst A k (.buildSlice t m ps)=op2 P W0 fz dst A k (.buildSlice t m ps):=propext acf
theorem U0 (dst:Option Nat)(t:TypeId)(x:Operand):eop P W0 fz dst A k (.box t x)=op2 P W0 fz dst A k (.box t x):=propext acf
theorem Si (dst:Option Nat)(c:Call):eop P W0 fz dst A k (.call c)=op2 P W0 fz dst A k (.call c):=propext acf
theorem zv (dst:Option Nat)(t:TypeId)(x y:Operand):eop P W0 fz dst A k (.makeSlice t x y)=op2 P W0 fz dst A k (.makeSlice t x y):=propext acf
attribute [go_sem ↓] ME O1 Iq Qz Ni OK Rx yy MP yU LR EZ Bv E4 vL qG OF NL x0 U0 Si zv
theorem Mv (d:Nat):xU fz A (.tmp d)=((fz.contains d||fz.contains (6000000+d))=true->xk (unm (A.env d))=true):=propext acf
theorem JH (t:TypeId)(v:AV):xk (.loc t v)=true:=rfl
theorem N8 (d:Nat):Rt fz (.tmp d)=(fz.contains d=false):=propext acf
attribute [go_sem] Mv JH N8
@[go_sem ↓] theorem X4 (id:Nat):dx P W0 n fz id ops [] K A=K A:=propext acf
@[go_sem ↓] theorem Wy (id d:Nat)(op:Op)(ty:TypeId)(pos:String)(after:Array Edge)(r:List Oper):dx P W0 n fz id ops (⟨some d,op,ty,pos,after,none⟩::r) K A=(if fz.contains (2000000+d)then dx P W0 n fz id ops r K A else d<n/\dop P W0 fz none (some d) A (λA'=>dx P W0 n fz id ops r K A') op):=by rw[dx];rfl
@[go_sem ↓] theorem Tz (id:Nat)(op:Op)(ty:TypeId)(pos:String)(after:Array Edge)(r:List Oper):dx P W0 n fz id ops (⟨none,op,ty,pos,after,none⟩::r) K A=(if fz.contains (4000000+id)then dx P W0 n fz id ops r K A else True/\dop P W0 fz none none A (λA'=>dx P W0 n fz id ops r K A') op):=by rw[dx];rfl
@[go_sem ↓] theorem V4 (id d:Nat)(op:Op)(ty:TypeId)(pos:String)(after:Array Edge)(j:Nat)(want:Bool)(r:List Oper):dx P W0 n fz id ops (⟨some d,op,ty,pos,after,some (j,want)⟩::r) K A=(if fz.contains (2000000+d)then dx P W0 n fz id ops r K A else d<n/\(match tJ ops j with
   |some e=>gdC (A.env e)/\dop P W0 fz (some (gdV want (A.env e))) (some d) A (λA'=>dx P W0 n fz id ops r K A') op
   |none=>False)):=by rw[dx];rfl
theorem Jg (d:Nat):j4 n (some d)=(d<n):=rfl
theorem IU :j4 n none=True:=rfl
attribute [go_sem] Jg IU
@[go_sem] theorem XV (l:List Oper)(j:Nat):tJ l.toArray j=(l[j]?).bind (·.dst):=by simp[tJ]
theorem RW (so:Option ab)(dst:Option Nat)(x:Operand):vop P W0 gd so dst A k (.move x)=(imp gd (opC P gd A (.move x))/\k (A.put dst (dp gd (opV P gd A (.move x))))):=propext acf
theorem QY (dst:Option Nat)(x:Operand):op2 P W0 fz dst A k (.move x)=vop P W0 none (some A.st) dst A k (.move x):=propext acf
theorem JC (so:Option ab)(dst:Option Nat)(x:Operand):vop P W0 gd so dst A k (.assign x)=(imp gd (opC P gd A (.assign x))/\k (A.put dst (dp gd (opV P gd A (.assign x))))):=propext acf
theorem GM (dst:Option Nat)(x:Operand):op2 P W0 fz dst A k (.assign x)=vop P W0 none (some A.st) dst A k (.assign x):=propext acf
theorem OP (so:Option ab)(dst:Option Nat)(c x y:Operand):vop P W0 gd so dst A k (.pick c x y)=(imp gd (opC P gd A (.pick c x y))/\k (A.put dst (dp gd (opV P gd A (.pick c x y))))):=propext acf
theorem QH (dst:Option Nat)(c x y:Operand):op2 P W0 fz dst A k (.pick c x y)=vop P W0 none (some A.st) dst A k (.pick c x y):=propext acf
theorem N6 (so:Option ab)(dst:Option Nat)(op:BinOp)(t t':TypeId)(x y:Operand):vop P W0 gd so dst A k (.binOp op t x y t')=(imp gd (opC P gd A (.binOp op t x y t'))/\k (A.put dst (dp gd (opV P gd A (.binOp op t x y t'))))):=propext acf
theorem Lj (dst:Option Nat)(op:BinOp)(t t':TypeId)(x y:Operand):op2 P W0 fz dst A k (.binOp op t x y t')=vop P W0 none (some A.st) dst A k (.binOp op t x y t'):=propext acf
theorem QJ (so:Option ab)(dst:Option Nat)(op:UnOp)(t:TypeId)(x:Operand):vop P W0 gd so dst A k (.unOp op t x)=(imp gd (opC P gd A (.unOp op t x))/\k (A.put dst (dp gd (opV P gd A (.unOp op t x))))):=propext acf
theorem Sp (dst:Option Nat)(op:UnOp)(t:TypeId)(x:Operand):op2 P W0 fz dst A k (.unOp op t x)=vop P W0 none (some A.st) dst A k (.unOp op t x):=propext acf
theorem Qw (so:Option ab)(dst:Option Nat)(t:TypeId)(x:Operand):vop P W0 gd so dst A k (.load t x)=(imp gd (opC P gd A (.load t x))/\k (A.put dst (dp gd (opV P gd A (.load t x))))):=propext acf
theorem RQ (dst:Option Nat)(t:TypeId)(x:Operand):op2 P W0 fz dst A k (.load t x)=vop P W0 none (some A.st) dst A k (.load t x):=propext acf
theorem yD (so:Option ab)(dst:Option Nat)(t:TypeId)(x:Operand)(i:Nat):vop P W0 gd so dst A k (.fieldAddr t x i)=(imp gd (opC P gd A (.fieldAddr t x i))/\k (A.put dst (dp gd (opV P gd A (.fieldAddr t x i))))):=propext acf
theorem LL (so:Option ab)(dst:Option Nat)(t:TypeId)(x:Operand)(i:Nat):vop P W0 gd so dst A k (.field t x i)=(imp gd (opC P gd A (.field t x i))/\k (A.put dst (dp gd (opV P gd A (.field t x i))))):=propext acf
theorem zp (dst:Option Nat)(t:TypeId)(x:Operand)(i:Nat):op2 P W0 fz dst A k (.fieldAddr t x i)=vop P W0 none (some A.st) dst A k (.fieldAddr t x i):=propext acf
theorem Ol (dst:Option Nat)(t:TypeId)(x:Operand)(i:Nat):op2 P W0 fz dst A k (.field t x i)=vop P W0 none (some A.st) dst A k (.field t x i):=propext acf
theorem yz (so:Option ab)(dst:Option Nat)(t:TypeId)(x y:Operand):vop P W0 gd so dst A k (.indexAddr t x y)=(imp gd (opC P gd A (.indexAddr t x y))/\k (A.put dst (dp gd (opV P gd A (.indexAddr t x y))))):=propext acf
theorem yF (dst:Option Nat)(t:TypeId)(x y:Operand):op2 P W0 fz dst A k (.indexAddr t x y)=vop P W0 none (some A.st) dst A k (.indexAddr t x y):=propext acf
theorem Lu (so:Option ab)(dst:Option Nat)(t:TypeId)(x y:Operand):vop P W0 gd so dst A k (.index t x y)=(imp gd (opC P gd A (.index t x y))/\k (A.put dst (dp gd (opV P gd A (.index t x y))))):=propext acf
theorem N2 (dst:Option Nat)(t:TypeId)(x y:Operand):op2 P W0 fz dst A k (.index t x y)=vop P W0 none (some A.st) dst A k (.index t x y):=propext acf
theorem Gg (so:Option ab)(dst:Option Nat)(x:Operand)(i:Nat):vop P W0 gd so dst A k (.extract x i)=(imp gd (opC P gd A (.extract x i))/\k (A.put dst (dp gd (opV P gd A (.extract x i))))):=propext acf
theorem Gp (dst:Option Nat)(x:Operand)(i:Nat):op2 P W0 fz dst A k (.extract x i)=vop P W0 none (some A.st) dst A k (.extract x i):=propext acf
theorem AZ (so:Option ab)(dst:Option Nat)(x:Operand):vop P W0 gd so dst A k (.nilCheck x)=(imp gd (opC P gd A (.nilCheck x))/\k (A.put dst (dp gd (opV P gd A (.nilCheck x))))):=propext acf
theorem AX (dst:Option Nat)(x:Operand):op2 P W0 fz dst A k (.nilCheck x)=vop P W0 none (some A.st) dst A k (.nilCheck x):=propext acf
theorem Ff (so:Option ab)(dst:Option Nat)(s d:TypeId)(x:Operand):vop P W0 gd so dst A k (.convert s d x)=(imp gd (opC P gd A (.convert s d x))/\k (A.put dst (dp gd (opV P gd A (.convert s d x))))):=propext acf
theorem Fg (dst:Option Nat)(s d:TypeId)(x:Operand):op2 P W0 fz dst A k (.convert s d x)=(if ovM fz dst then okM none (A.val x)/\lK P s d (unm (A.val x)) dst A k .mk else vop P W0 none (some A.st) dst A k (.convert s d x)):=propext acf
theorem xD (so:Option ab)(dst:Option Nat)(x:Operand)(xt d:TypeId)(ok:Bool):vop P W0 gd so dst A k (.typeAssert x xt d ok)=(imp gd (opC P gd A (.typeAssert x xt d ok))/\k (A.put dst (dp gd (opV P gd A (.typeAssert x xt d ok))))):=propext acf
theorem wm (dst:Option Nat)(x:Operand)(xt d:TypeId)(ok:Bool):op2 P W0 fz dst A k (.typeAssert x xt d ok)=vop P W0 none (some A.st) dst A k (.typeAssert x xt d ok):=propext acf
theorem r7 (so:Option ab)(dst:Option Nat)(t:TypeId)(x:Operand):vop P W0 gd so dst A k (.makeInterface t x)=(imp gd (opC P gd A (.makeInterface t x))/\k (A.put dst (dp gd (opV P gd A (.makeInterface t x))))):=propext acf
theorem rq (dst:Option Nat)(t:TypeId)(x:Operand):op2 P W0 fz dst A k (.makeInterface t x)=vop P W0 none (some A.st) dst A k (.makeInterface t x):=propext acf
theorem F5 (dst:Option Nat)(t:TypeId):op2 P W0 fz dst A k (.makeMap t none)=((mX P t).isSome=true/\k ((A.put dst (.mp A.st.length)).ax (A.st++[some (.mp ((mX P t).getD (0,0)).1 [])]))):=propext acf
theorem yI (dst:Option Nat)(t:TypeId)(x ix y:Operand):op2 P W0 fz dst A k (.mapUpdate t x ix y)=(okM none (A.val x)/\okM none (A.val ix)/\okM none (A.val y)/\Jm P t (unm (A.val x)) (unm (A.val ix)) (unm (A.val y)) A (λA'=>k (A'.put dst .undef)) .mk):=propext acf
theorem EG (dst:Option Nat)(t:TypeId):eop P W0 fz dst A k (.makeMap t none)=op2 P W0 fz dst A k (.makeMap t none):=propext acf
theorem yJ (dst:Option Nat)(t:TypeId)(x ix y:Operand):eop P W0 fz dst A k (.mapUpdate t x ix y)=op2 P W0 fz dst A k (.mapUpdate t x ix y):=propext acf
attribute [go_sem ↓] RW QY JC GM OP QH N6 Lj QJ Sp Qw RQ yD LL zp Ol yz yF Lu N2 Gg Gp AZ AX Ff Fg xD wm r7 rq F5 yI EG yJ
@[go_sem ↓] theorem Zu (dst:Option Nat)(xs:List Operand)(ts:List TypeId):op2 P W0 fz dst A k (.call ⟨.builtin .clear,xs.toArray,ts.toArray⟩)=(eZ none A xs/\qo P ts (cK A xs) dst A k .mk):=by simp[op2]
theorem I5 (so:Option ab)(dst:Option Nat)(t:TypeId)(x ix:Operand):vop P W0 gd so dst A k (.lookup t x ix false)=(imp gd (opC P gd A (.lookup t x ix false))/\k (A.put dst (dp gd (opV P gd A (.lookup t x ix false))))):=propext acf
theorem G0 (dst:Option Nat)(t:TypeId)(x ix:Operand):op2 P W0 fz dst A k (.lookup t x ix false)=vop P W0 none (some A.st) dst A k (.lookup t x ix false):=propext acf
theorem I2 (dst:Option Nat)(t:TypeId)(x ix:Operand):eop P W0 fz dst A k (.lookup t x ix false)=op2 P W0 fz dst A k (.lookup t x ix false):=propext acf
theorem Hu (dst:Option Nat)(t:TypeId)(x ix:Operand):dop P W0 fz gd dst A k (.lookup t x ix false)=vop P W0 gd none dst A k (.lookup t x ix false):=propext acf
attribute [go_sem ↓] I5 G0 I2 Hu
theorem HP (t:TypeId)(x ix:Operand):opV P gd A (.lookup t x ix false)=OU P A.st t (unm (A.val ix)) (unm (A.val x)):=rfl
theorem JM (t:TypeId)(x ix:Operand):opC P gd A (.lookup t x ix false)=(okM gd (A.val x)/\okM gd (A.val ix)/\ub P gd A.st t (unm (A.val ix)) (unm (A.val x))):=rfl
attribute [go_sem] HP JM
theorem Fy (so:Option ab)(dst:Option Nat)(t:TypeId)(x ix:Operand):vop P W0 gd so dst A k (.lookup t x ix true)=(imp gd (opC P gd A (.lookup t x ix true))/\k (A.put dst (dp gd (opV P gd A (.lookup t x ix true))))):=propext acf
theorem Fl (dst:Option Nat)(t:TypeId)(x ix:Operand):op2 P W0 fz dst A k (.lookup t x ix true)=vop P W0 none (some A.st) dst A k (.lookup t x ix true):=propext acf
theorem Fc (dst:Option Nat)(t:TypeId)(x ix:Operand):eop P W0 fz dst A k (.lookup t x ix true)=op2 P W0 fz dst A k (.lookup t x ix true):=propext acf
theorem Gx (dst:Option Nat)(t:TypeId)(x ix:Operand):dop P W0 fz gd dst A k (.lookup t x ix true)=vop P W0 gd none dst A k (.lookup t x ix true):=propext acf
attribute [go_sem ↓] Fy Fl Fc Gx
theorem Gr (t:TypeId)(x ix:Operand):opV P gd A (.lookup t x ix true)=wb P A.st t (unm (A.val ix)) (unm (A.val x)):=rfl
theorem FA (t:TypeId)(x ix:Operand):opC P gd A (.lookup t x ix true)=(okM gd (A.val x)/\okM gd (A.val ix)/\ub P gd A.st t (unm (A.val ix)) (unm (A.val x))):=rfl
theorem Nb (t:TypeId)(lo hi:Option Operand)(e:TypeId)(id off m:Nat):DS P A t lo hi none (.row e id off m)=(elT P t=some e/\0<af P e/\pV none A lo/\pV none A hi/\c8 A 0 lo<=c8 A m hi/\Kz A.st id (off+c8 A m hi)):=propext acf
theorem Lq (lo hi:Option Operand)(e:TypeId)(id off m:Nat):D2 A lo hi none (.row e id off m)= .row e id (off+c8 A 0 lo) (c8 A m hi-c8 A 0 lo):=rfl
theorem Jy (lo hi:Option Operand)(z:Operand)(e:TypeId)(id off m:Nat):D2 A lo hi (some z) (.row e id off m)= .undef:=rfl
attribute [go_sem] Gr FA Nb Lq Jy
theorem LU (so:Option ab)(dst:Option Nat)(t:TypeId)(x:Operand)(lo hi mx:Option Operand):vop P W0 gd so dst A k (.slice t x lo hi mx)=(imp gd (opC P gd A (.slice t x lo hi mx))/\k (A.put dst (dp gd (opV P gd A (.slice t x lo hi mx))))):=propext acf
theorem Lv (dst:Option Nat)(t:TypeId)(x:Operand)(lo hi mx:Option Operand):op2 P W0 fz dst A k (.slice t x lo hi mx)=(if ovM fz dst then okM none (A.val x)/\DS P A t lo hi mx (unm (A.val x))/\k (A.put dst (D2 A lo hi mx (unm (A.val x))))else vop P W0 none (some A.st) dst A k (.slice t x lo hi mx)):=propext acf
theorem Lp (so:Option ab)(dst:Option Nat)(t:TypeId)(ps:Array (Nat×Operand)):vop P W0 gd so dst A k (.build t ps)=(imp gd (opC P gd A (.build t ps))/\k (A.put dst (dp gd (opV P gd A (.build t ps))))):=propext acf
theorem Ov (dst:Option Nat)(t:TypeId)(ps:Array (Nat×Operand)):op2 P W0 fz dst A k (.build t ps)=vop P W0 none (some A.st) dst A k (.build t ps):=propext acf
theorem xa (so:Option ab)(dst:Option Nat)(t:TypeId)(m:Nat)(ps:Array (Nat×Operand)):vop P W0 gd so dst A k (.buildSlice t m ps)=(imp gd (opC P gd A (.buildSlice t m ps))/\k (A.put dst (dp gd (opV P gd A (.buildSlice t m ps))))):=propext acf
attribute [go_sem ↓] LU Lv Lp Ov xa
@[go_sem ↓] theorem St (dst:Option Nat)(t:TypeId)(m:Nat)(ps:List (Nat×Operand)):op2 P W0 fz dst A k (.buildSlice t m ps.toArray)=(if ovM fz dst then gO none A ps/\fQ P t m (ez A ps)/\k ((A.put dst (.row ((elT P t).getD 0) A.st.length 0 m)).ax (A.st++[some (.cells ((elT P t).getD 0) ((ez A ps).map (·.2)))]))else vop P W0 none (some A.st) dst A k (.buildSlice t m ps.toArray)):=by simp[op2]
theorem Wr (so:Option ab)(dst:Option Nat)(t:TypeId)(x:Operand):vop P W0 gd so dst A k (.box t x)=(imp gd (opC P gd A (.box t x))/\k (A.put dst (dp gd (opV P gd A (.box t x))))):=propext acf
theorem Bp (so:Option ab)(dst:Option Nat)(f:FuncId)(first caps:Array Operand):vop P W0 gd so dst A k (.makeFunc (.func f) first caps)=(imp gd (opC P gd A (.makeFunc (.func f) first caps))/\k (A.put dst (dp gd (opV P gd A (.makeFunc (.func f) first caps))))):=propext acf
theorem BF (dst:Option Nat)(f:FuncId)(first caps:Array Operand):op2 P W0 fz dst A k (.makeFunc (.func f) first caps)=vop P W0 none (some A.st) dst A k (.makeFunc (.func f) first caps):=propext acf
theorem Gb (so:Option ab)(dst:Option Nat)(b:Builtin)(xs:Array Operand)(ts:Array TypeId):vop P W0 gd so dst A k (.call ⟨.builtin b,xs,ts⟩)=(imp gd (opC P gd A (.call ⟨.builtin b,xs,ts⟩))/\k (A.put dst (dp gd (opV P gd A (.call ⟨.builtin b,xs,ts⟩))))):=propext acf
theorem Wq (dst:Option Nat)(xs:Array Operand)(ts:Array TypeId):op2 P W0 fz dst A k (.call ⟨.builtin .len,xs,ts⟩)=vop P W0 none (some A.st) dst A k (.call ⟨.builtin .len,xs,ts⟩):=propext acf
theorem TA (dst:Option Nat)(xs:Array Operand)(ts:Array TypeId):op2 P W0 fz dst A k (.call ⟨.builtin .cap,xs,ts⟩)=vop P W0 none (some A.st) dst A k (.call ⟨.builtin .cap,xs,ts⟩):=propext acf
theorem Ur (dst:Option Nat)(xs:Array Operand)(ts:Array TypeId):op2 P W0 fz dst A k (.call ⟨.builtin .max,xs,ts⟩)=vop P W0 none (some A.st) dst A k (.call ⟨.builtin .max,xs,ts⟩):=propext acf
theorem Ws (dst:Option Nat)(xs:Array Operand)(ts:Array TypeId):op2 P W0 fz dst A k (.call ⟨.builtin .min,xs,ts⟩)=vop P W0 none (some A.st) dst A k (.call ⟨.builtin .min,xs,ts⟩):=propext acf
attribute [go_sem ↓] Wr Bp BF Gb Wq TA Ur Ws
@[go_sem ↓] theorem ZI (so:Option ab)(dst:Option Nat)(f:Operand)(xs:List Operand)(ts:Array TypeId):vop P W0 gd so dst A k (.call ⟨.value f,xs.toArray,ts⟩)=(okM gd (A.val f)/\eZ gd A xs/\aD P W0 gd so (unm (A.val f)) (cK A xs) dst A k .mk):=by simp[vop]
@[go_sem ↓] theorem aao (dst:Option Nat)(f:Operand)(xs:List Operand)(ts:Array TypeId):op2 P W0 fz dst A k (.call ⟨.value f,xs.toArray,ts⟩)=(okM none (A.val f)/\eZ none A xs/\aj P W0 (unm (A.val f)) (cK A xs) dst A k .mk):=by simp[op2]
@[go_sem ↓] theorem Xy (dst:Option Nat)(xs:List Operand)(ts:List TypeId):op2 P W0 fz dst A k (.call ⟨.builtin .append,xs.toArray,ts.toArray⟩)=(eZ none A xs/\bq P ts (cK A xs) dst A k .mk):=by simp[op2]
theorem VX (d:Nat)(t:TypeId)(x:Operand):op2 P W0 fz (some d) A k (.box t x)=if fz.contains d then vop P W0 none (some A.st) (some d) A k (.box t x)
   else(okM none (A.val x)/\bb P t (unm (A.val x))=true/\k ((A.upd d (.ptr t A.st.length 0 [])).ax (A.st++[some (.cells t [unm (A.val x)])]))):=rfl
theorem NJ (dst:Option Nat)(t:TypeId):op2 P W0 fz dst A k (.alloc t)=((zeroOf P t).isSome=true/\k ((A.put dst (.ptr t A.st.length 0 [])).ax (A.st++[some (.cells t [(zeroOf P t).getD .undef])]))):=propext acf
theorem zl (dst:Option Nat)(t:TypeId)(x y:Operand):op2 P W0 fz dst A k (.makeSlice t x y)=(okM none (A.val x)/\okM none (A.val y)/\Am P t (unm (A.val x)) (unm (A.val y)) dst A k .mk):=propext acf
theorem Np (dst:Option Nat)(t:TypeId)(x y:Operand):op2 P W0 fz dst A k (.store t x y)=(okM none (A.val x)/\okM none (A.val y)/\j1 P fz t x (unm (A.val y)) A (λA'=>k (A'.put dst .undef)) .mk (unm (A.val x))):=propext acf
theorem IC (t t':TypeId)(d id i:Nat)(path:List Nat)(v:AV):j1 P fz t (.tmp d) v A k .mk (.ptr t' id i path)=(t'=t/\bb P t v=true/\(look A.st id i path).isSome=true/\(if fz.contains d then path=[]/\k ((A.upd d (.loc t v)).ax (A.st.set id none))else k (A.ax (dV A.st id i path v)))):=propext acf
theorem NZ (dst:Option Nat)(t:TypeId)(x:Operand):op2 P W0 fz dst A k (.range t x)=(okM none (A.val x)/\vb P t dst A k (unm (A.val x))):=propext acf
theorem RG (dst:Option Nat)(x:Operand):op2 P W0 fz dst A k (.next x true)=(okM none (A.val x)/\GK dst A k (unm (A.val x))):=propext acf
attribute [go_sem ↓] VX NJ zl Np IC NZ RG
theorem Hy (t:TypeId)(dst:Option Nat)(l:List UInt8):vb P t dst A k (.str l)=(bU P t=true/\k ((A.put dst (.it A.st.length)).ax (A.st++[some (.iter l 0)]))):=propext acf
theorem Qa (dst:Option Nat)(id:Nat):GK dst A k (.it id)=DI id dst A k A.st[id]?:=propext acf
theorem Hf (id:Nat)(dst:Option Nat)(l:List UInt8)(pos:Nat):DI id dst A k (some (some (.iter l pos)))=((pos<l.length->k ((A.put dst (.tup [.bool true,.int .i64 pos,.int .i32 (iW l pos).1])).ax (A.st.set id (some (.iter l (pos+(iW l pos).2))))))/\(l.length<=pos->k (A.put dst (.tup [.bool false])))):=propext acf
attribute [go_sem] Hy Qa Hf
theorem RC (dst:Option Nat)(x:Operand):dop P W0 fz gd dst A k (.move x)=vop P W0 gd none dst A k (.move x):=propext acf
theorem Ig (dst:Option Nat)(x:Operand):dop P W0 fz gd dst A k (.assign x)=vop P W0 gd none dst A k (.assign x):=propext acf
theorem PM (dst:Option Nat)(c x y:Operand):dop P W0 fz gd dst A k (.pick c x y)=vop P W0 gd none dst A k (.pick c x y):=propext acf
theorem NQ (dst:Option Nat)(op:BinOp)(t t':TypeId)(x y:Operand):dop P W0 fz gd dst A k (.binOp op t x y t')=vop P W0 gd none dst A k (.binOp op t x y t'):=propext acf
theorem P7 (dst:Option Nat)(op:UnOp)(t:TypeId)(x:Operand):dop P W0 fz gd dst A k (.unOp op t x)=vop P W0 gd none dst A k (.unOp op t x):=propext acf
theorem Ps (dst:Option Nat)(t:TypeId)(x:Operand):dop P W0 fz gd dst A k (.load t x)=(xU fz A x/\vop P W0 gd none dst A k (.load t x)):=propext acf
theorem yL (dst:Option Nat)(t:TypeId)(x:Operand)(i:Nat):dop P W0 fz gd dst A k (.fieldAddr t x i)=vop P W0 gd none dst A k (.fieldAddr t x i):=propext acf
theorem Lr (dst:Option Nat)(t:TypeId)(x:Operand)(i:Nat):dop P W0 fz gd dst A k (.field t x i)=vop P W0 gd none dst A k (.field t x i):=propext acf
theorem yx (dst:Option Nat)(t:TypeId)(x y:Operand):dop P W0 fz gd dst A k (.indexAddr t x y)=vop P W0 gd none dst A k (.indexAddr t x y):=propext acf
theorem Ln (dst:Option Nat)(t:TypeId)(x y:Operand):dop P W0 fz gd dst A k (.index t x y)=vop P W0 gd none dst A k (.index t x y):=propext acf
theorem FH (dst:Option Nat)(x:Operand)(i:Nat):dop P W0 fz gd dst A k (.extract x i)=vop P W0 gd none dst A k (.extract x i):=propext acf
theorem BB (dst:Option Nat)(x:Operand):dop P W0 fz gd dst A k (.nilCheck x)=vop P W0 gd none dst A k (.nilCheck x):=propext acf
theorem Gu (dst:Option Nat)(s d:TypeId)(x:Operand):dop P W0 fz gd dst A k (.convert s d x)=vop P W0 gd none dst A k (.convert s d x):=propext acf
theorem xp (dst:Option Nat)(x:Operand)(xt d:TypeId)(ok:Bool):dop P W0 fz gd dst A k (.typeAssert x xt d ok)=vop P W0 gd none dst A k (.typeAssert x xt d ok):=propext acf
theorem qX (dst:Option Nat)(t:TypeId)(x:Operand):dop P W0 fz gd dst A k (.makeInterface t x)=vop P W0 gd none dst A k (.makeInterface t x):=propext acf
theorem LJ (dst:Option Nat)(t:TypeId)(x:Operand)(lo hi mx:Option Operand):dop P W0 fz gd dst A k (.slice t x lo hi mx)=vop P W0 gd none dst A k (.slice t x lo hi mx):=propext acf
theorem M9 (dst:Option Nat)(t:TypeId)(ps:Array (Nat×Operand)):dop P W0 fz gd dst A k (.build t ps)=vop P W0 gd none dst A k (.build t ps):=propext acf
theorem uX (dst:Option Nat)(t:TypeId)(m:Nat)(ps:Array (Nat×Operand)):dop P W0 fz gd dst A k (.buildSlice t m ps)=vop P W0 gd none dst A k (.buildSlice t m ps):=propext acf
theorem Di (dst:Option Nat)(f:FuncId)(first caps:Array Operand):dop P W0 fz gd dst A k (.makeFunc (.func f) first caps)=vop P W0 gd none dst A k (.makeFunc (.func f) first caps):=propext acf
theorem Wb (dst:Option Nat)(t:TypeId)(x:Operand):dop P W0 fz gd dst A k (.box t x)=vop P W0 gd none dst A k (.box t x):=propext acf
theorem QP (dst:Option Nat)(c:Call):dop P W0 fz gd dst A k (.call c)=vop P W0 gd (if rdM fz dst then some A.st else none) dst A k (.call c):=propext acf
theorem LO (dst:Option Nat)(t:TypeId)(x y:Operand):dop P W0 fz gd dst A k (.store t x y)=(gd=none/\okM none (A.val x)/\okM none (A.val y)/\j1 P [] t x (unm (A.val y)) A (λA'=>k (A'.put dst .undef)) .mk (unm (A.val x))):=propext acf
attribute [go_sem ↓] RC Ig PM NQ P7 Ps yL Lr yx Ln FH BB Gu xp qX LJ M9 uX Di Wb QP LO
theorem OS (x:Operand):isW (.move x)=false:=rfl
theorem J0 (x:Operand):isW (.assign x)=false:=rfl
theorem Qc (x:Operand)(y:Operand)(z:Operand):isW (.pick x y z)=false:=rfl
theorem Oa (op:BinOp)(t:TypeId)(x:Operand)(y:Operand)(t':TypeId):isW (.binOp op t x y t')=false:=rfl
theorem Pv (op:UnOp)(t:TypeId)(x:Operand):isW (.unOp op t x)=false:=rfl
theorem PL (t:TypeId)(x:Operand):isW (.load t x)=false:=rfl
theorem yZ (t:TypeId)(x:Operand)(i:Nat):isW (.fieldAddr t x i)=false:=rfl
theorem Oy (t:TypeId)(x:Operand)(i:Nat):isW (.field t x i)=false:=rfl
theorem yu (t:TypeId)(x:Operand)(y:Operand):isW (.indexAddr t x y)=false:=rfl
theorem OI (t:TypeId)(x:Operand)(y:Operand):isW (.index t x y)=false:=rfl
theorem DM (x:Operand)(i:Nat):isW (.extract x i)=false:=rfl
theorem Dg (x:Operand):isW (.nilCheck x)=false:=rfl
theorem F0 (t:TypeId)(t':TypeId)(x:Operand):isW (.convert t t' x)=false:=rfl
theorem wZ (x:Operand)(xt d:TypeId)(ok:Bool):isW (.typeAssert x xt d ok)=false:=rfl
theorem qH (t:TypeId)(x:Operand):isW (.makeInterface t x)=false:=rfl
theorem Nz (t:TypeId)(x:Operand)(lo:Option Operand)(hi:Option Operand)(mx:Option Operand):isW (.slice t x lo hi mx)=false:=rfl
theorem On (t:TypeId)(ps:Array (Nat×Operand)):isW (.build t ps)=false:=rfl
theorem u9 (t:TypeId)(i:Nat)(ps:Array (Nat×Operand)):isW (.buildSlice t i ps)=false:=rfl
theorem VI (t:TypeId)(x:Operand):isW (.box t x)=false:=rfl
theorem B7 (fn:Fn)(ps1:Array Operand)(ps2:Array Operand):isW (.makeFunc fn ps1 ps2)=false:=rfl
theorem ON (c:Call):isW (.call c)=false:=rfl
attribute [go_sem] OS J0 Qc Oa Pv PL yZ Oy yu OI DM Dg F0 wZ qH Nz On u9 VI B7 ON
attribute [go_sem] List.contains_cons List.contains_nil
theorem IJ (x:Operand):opC P none A (.move x)=True:=rfl
theorem HA (g:Bool)(x:Operand):opC P (some g) A (.move x)=okM (some g) (A.val x):=rfl
theorem Hs (x:Operand):opV P none A (.move x)=A.val x:=rfl
theorem G7 (g:Bool)(x:Operand):opV P (some g) A (.move x)=unm (A.val x):=rfl
theorem Ce (x:Operand):opC P none A (.assign x)=True:=rfl
theorem Bq (g:Bool)(x:Operand):opC P (some g) A (.assign x)=okM (some g) (A.val x):=rfl
theorem CD (x:Operand):opV P none A (.assign x)=A.val x:=rfl
theorem C8 (g:Bool)(x:Operand):opV P (some g) A (.assign x)=unm (A.val x):=rfl
theorem QV (c x y:Operand):opV P gd A (.pick c x y)=oV (bl (unm (A.val c))) (unm (A.val x)) (unm (A.val y)):=rfl
theorem Rq (c x y:Operand):opC P gd A (.pick c x y)=(okM gd (A.val c)/\Fp (unm (A.val c))/\iu gd (bl (unm (A.val c))) (A.val x)/\iu gd (!bl (unm (A.val c))) (A.val y)):=rfl
theorem N3 (op:BinOp)(t t':TypeId)(x y:Operand):opV P gd A (.binOp op t x y t')=cI P op t (unm (A.val x)) (unm (A.val y)):=rfl
theorem Ms (op:BinOp)(t t':TypeId)(x y:Operand):opC P gd A (.binOp op t x y t')=(okM gd (A.val x)/\okM gd (A.val y)/\cJ P op t (unm (A.val x)) (unm (A.val y))):=rfl
theorem Qm (op:UnOp)(t:TypeId)(x:Operand):opV P gd A (.unOp op t x)=unV op (unm (A.val x)):=rfl
theorem PR (op:UnOp)(t:TypeId)(x:Operand):opC P gd A (.unOp op t x)=(okM gd (A.val x)/\unC op (unm (A.val x))):=rfl
theorem Tn (t:TypeId)(x:Operand):opV P gd A (.load t x)=uc A.st (unm (A.val x)):=rfl
theorem Pg (t:TypeId)(x:Operand):opC P gd A (.load t x)=(okM gd (A.val x)/\tR gd A.st t (unm (A.val x))):=rfl
theorem zj (s:TypeId)(x:Operand)(i:Nat):opV P gd A (.fieldAddr s x i)=nV P s i (unm (A.val x)):=rfl
theorem Nu (s:TypeId)(x:Operand)(i:Nat):opV P gd A (.field s x i)=fvV i (unm (A.val x)):=rfl
theorem TE (t:TypeId)(k:Nat)(fs:List AV):fvV k (.agg t fs)=fs[k]?.getD .undef:=rfl
theorem yE (s:TypeId)(x:Operand)(i:Nat):opC P gd A (.fieldAddr s x i)=(okM gd (A.val x)/\oP P s i (unm (A.val x))):=rfl
theorem Mo (s:TypeId)(x:Operand)(i:Nat):opC P gd A (.field s x i)=(okM gd (A.val x)/\fvC P s i (unm (A.val x))):=rfl
theorem UW (s t:TypeId)(k:Nat)(fs:List AV):fvC P s k (.agg t fs)=(t=s/\bp P s=true/\(bz P s).isSome=true/\(((bz P s).getD [])[k]?).isSome=true/\fs[k]?.isSome=true):=rfl
theorem yq (t:TypeId)(x ix:Operand):opV P gd A (.indexAddr t x ix)=fj P t (iv (unm (A.val ix))) (unm (A.val x)):=rfl
theorem yN (t:TypeId)(x ix:Operand):opC P gd A (.indexAddr t x ix)=(okM gd (A.val x)/\okM gd (A.val ix)/\isI (unm (A.val ix))/\fe P gd A.st t (iv (unm (A.val ix))) (unm (A.val x))):=rfl
theorem LB (t:TypeId)(x ix:Operand):opV P gd A (.index t x ix)=AW (iv (unm (A.val ix))) (unm (A.val x)):=rfl
theorem Mh (t:TypeId)(x ix:Operand):opC P gd A (.index t x ix)=(okM gd (A.val x)/\okM gd (A.val ix)/\isI (unm (A.val ix))/\CH P gd t (iv (unm (A.val ix))) (unm (A.val x))):=rfl
theorem GJ (x:Operand)(i:Nat):opV P gd A (.extract x i)=rU i (unm (A.val x)):=rfl
theorem DH (x:Operand)(i:Nat):opC P gd A (.extract x i)=(okM gd (A.val x)/\rE i (unm (A.val x))):=rfl
theorem AY (x:Operand):opV P gd A (.nilCheck x)=unm (A.val x):=rfl
theorem BC (x:Operand):opC P gd A (.nilCheck x)=(okM gd (A.val x)/\(unm (A.val x)).iL=true):=rfl
theorem F3 (s d:TypeId)(x:Operand):opV P gd A (.convert s d x)=jU P d (unm (A.val x)):=rfl
theorem FN (s d:TypeId)(x:Operand):opC P gd A (.convert s d x)=(okM gd (A.val x)/\jJ P s d (unm (A.val x))):=rfl
theorem rm (t:TypeId)(x:Operand):opV P gd A (.makeInterface t x)= .iface t (unm (A.val x)):=rfl
theorem qL (t:TypeId)(x:Operand):opC P gd A (.makeInterface t x)=(okM gd (A.val x)/\oH P t=true/\(unm (A.val x)).bj=true):=rfl
theorem wu (x:Operand)(xt d:TypeId)(ok:Bool):opV P gd A (.typeAssert x xt d ok)=lu P d ok (unm (A.val x)):=rfl
theorem xC (x:Operand)(xt d:TypeId)(ok:Bool):opC P gd A (.typeAssert x xt d ok)=(okM gd (A.val x)/\pC P d ok (unm (A.val x))):=rfl
attribute [go_sem] IJ HA Hs G7 Ce Bq CD C8 QV Rq N3 Ms Qm PR Tn Pg zj Nu TE yE Mo UW yq yN LB Mh GJ DH AY BC F3 FN rm qL wu xC
@[go_sem] theorem VT (f:FuncId)(first:Array Operand)(caps:List Operand):opV P gd A (.makeFunc (.func f) first caps.toArray)= .fn f (cK A caps):=by simp[opV]
@[go_sem] theorem U7 (f:FuncId)(caps:List Operand):opC P gd A (.makeFunc (.func f) #[] caps.toArray)=(eZ gd A caps/\(cK A caps).all AV.bj=true):=by simp[opC]
@[go_sem] theorem Zo (t:TypeId)(x:Operand)(lo hi mx:Option Operand):opV P gd A (.slice t x lo hi mx)=lO A lo hi (unm (A.val x)):=rfl
@[go_sem] theorem Zk (t:TypeId)(x:Operand)(lo hi:Option Operand):opC P gd A (.slice t x lo hi none)=(okM gd (A.val x)/\kW P gd A t lo hi (unm (A.val x))):=by simp[opC]
@[go_sem] theorem Ze (t:TypeId)(ps:List (Nat×Operand)):opV P gd A (.build t ps.toArray)= .agg t (qz (ez A ps) (cV P t)):=by simp[opV]
@[go_sem] theorem Y1 (t:TypeId)(ps:List (Nat×Operand)):opC P gd A (.build t ps.toArray)=(gO gd A ps/\Hz P t (ez A ps)):=by simp[opC]
@[go_sem] theorem O6 (t:TypeId)(m:Nat)(ps:List (Nat×Operand)):opV P gd A (.buildSlice t m ps.toArray)= .lit ((elT P t).getD 0) ((ez A ps).map (·.2)):=by simp[opV]
@[go_sem] theorem Tg (t:TypeId)(m:Nat)(ps:List (Nat×Operand)):opC P gd A (.buildSlice t m ps.toArray)=(gO gd A ps/\fQ P t m (ez A ps)):=by simp[opC]
theorem Wg (t:TypeId)(x:Operand):opV P gd A (.box t x)= .loc t (unm (A.val x)):=rfl
theorem U5 (t:TypeId)(x:Operand):opC P gd A (.box t x)=(okM gd (A.val x)/\bb P t (unm (A.val x))=true):=rfl
attribute [go_sem] Wg U5
@[go_sem] theorem WC (b:Builtin)(xs:List Operand)(ts:Array TypeId):opV P gd A (.call ⟨.builtin b,xs.toArray,ts⟩)=jS b (cK A xs):=by simp[opV]
@[go_sem] theorem WL (b:Builtin)(xs:List Operand)(ts:List TypeId):opC P gd A (.call ⟨.builtin b,xs.toArray,ts.toArray⟩)=(eZ gd A xs/\kZ P b ts (cK A xs)):=by simp[opC]
theorem JQ (c p q:Bool):oV c (.bool p) (.bool q)= .bool (xn c p q):=rfl
theorem Lk (c:Bool)(k k':IntKind)(p q:Int):oV c (.int k p) (.int k' q)=if c then .int k p else .int k' q:=rfl
theorem MM (c:Bool)(p q:List UInt8):oV c (.str p) (.str q)=if c then .str p else .str q:=rfl
attribute [go_sem] JQ Lk MM
attribute [go_sem] Fj Ia
@[go_sem] theorem Z3 (t:TypeId)(k:IntKind)(a b:Int):cI P .add t (.int k a) (.int k b)= .int k (k.wrap (a+b)):=by simp[cI,cR,dy,jg]
@[go_sem] theorem aaw (t:TypeId)(k:IntKind)(a b:Int):cJ P .add t (.int k a) (.int k b)=True:=by simp[cJ,cR,dy,jg]
@[go_sem] theorem ZN (t:TypeId)(k:IntKind)(a b:Int):cI P .sub t (.int k a) (.int k b)= .int k (k.wrap (a-b)):=by simp[cI,cR,dy,jg]
@[go_sem] theorem ZM (t:TypeId)(k:IntKind)(a b:Int):cJ P .sub t (.int k a) (.int k b)=True:=by simp[cJ,cR,dy,jg]
@[go_sem] theorem ZS (t:TypeId)(k:IntKind)(a b:Int):cI P .mul t (.int k a) (.int k b)= .int k (k.wrap (a*b)):=by simp[cI,cR,dy,jg]
@[go_sem] theorem aaP (t:TypeId)(k:IntKind)(a b:Int):cJ P .mul t (.int k a) (.int k b)=True:=by simp[cJ,cR,dy,jg]
@[go_sem] theorem aaB (t:TypeId)(k:IntKind)(a b:Int):cI P .eql t (.int k a) (.int k b)= .bool (a==b):=by simp[cI,cR,dy,jg]
@[go_sem] theorem ZX (t:TypeId)(k:IntKind)(a b:Int):cJ P .eql t (.int k a) (.int k b)=True:=by simp[cJ,cR,dy,jg]
@[go_sem] theorem aah (t:TypeId)(k:IntKind)(a b:Int):cI P .neq t (.int k a) (.int k b)= .bool (a !=b):=by simp[cI,cR,dy,jg]
@[go_sem] theorem aa0 (t:TypeId)(k:IntKind)(a b:Int):cJ P .neq t (.int k a) (.int k b)=True:=by simp[cJ,cR,dy,jg]
@[go_sem] theorem ZE (t:TypeId)(k:IntKind)(a b:Int):cI P .lss t (.int k a) (.int k b)= .bool (decide (a<b)):=by simp[cI,cR,dy,jg]
@[go_sem] theorem aaD (t:TypeId)(k:IntKind)(a b:Int):cJ P .lss t (.int k a) (.int k b)=True:=by simp[cJ,cR,dy,jg]
@[go_sem] theorem aa1 (t:TypeId)(k:IntKind)(a b:Int):cI P .leq t (.int k a) (.int k b)= .bool (decide (a<=b)):=by simp[cI,cR,dy,jg]
@[go_sem] theorem ZC (t:TypeId)(k:IntKind)(a b:Int):cJ P .leq t (.int k a) (.int k b)=True:=by simp[cJ,cR,dy,jg]
@[go_sem] theorem aad (t:TypeId)(k:IntKind)(a b:Int):cI P .gtr t (.int k a) (.int k b)= .bool (decide (b<a)):=by simp[cI,cR,dy,jg]
@[go_sem] theorem Z4 (t:TypeId)(k:IntKind)(a b:Int):cJ P .gtr t (.int k a) (.int k b)=True:=by simp[cJ,cR,dy,jg]
@[go_sem] theorem aba (t:TypeId)(k:IntKind)(a b:Int):cI P .geq t (.int k a) (.int k b)= .bool (decide (b<=a)):=by simp[cI,cR,dy,jg]
@[go_sem] theorem aay (t:TypeId)(k:IntKind)(a b:Int):cJ P .geq t (.int k a) (.int k b)=True:=by simp[cJ,cR,dy,jg]
@[go_sem] theorem aau (t:TypeId)(k:IntKind)(a b:Int):cI P .and t (.int k a) (.int k b)= .int k (bits .and k a b):=by simp[cI,cR,dy,jg]
@[go_sem] theorem aa7 (t:TypeId)(k:IntKind)(a b:Int):cJ P .and t (.int k a) (.int k b)=True:=by simp[cJ,cR,dy,jg]
@[go_sem] theorem abm (t:TypeId)(k:IntKind)(a b:Int):cI P .or t (.int k a) (.int k b)= .int k (bits .or k a b):=by simp[cI,cR,dy,jg]
@[go_sem] theorem abf (t:TypeId)(k:IntKind)(a b:Int):cJ P .or t (.int k a) (.int k b)=True:=by simp[cJ,cR,dy,jg]
@[go_sem] theorem Z8 (t:TypeId)(k k':IntKind)(a b:Int):cI P .shl t (.int k a) (.int k' b)=if b<0 then .undef else .int k (k.wrap (a*2^(min b.toNat k.bits))):=by grind [cI,cR,wX,jg]
@[go_sem] theorem Z1 (t:TypeId)(k k':IntKind)(a b:Int):cJ P .shl t (.int k a) (.int k' b)= ¬(b<0):=by simp[cJ,cR,wX,jg]
@[go_sem] theorem aas (t:TypeId)(k k':IntKind)(a b:Int):cI P .shr t (.int k a) (.int k' b)=if b<0 then .undef else .int k (a.fdiv (2^(min b.toNat k.bits))):=by grind [cI,cR,wX,jg]
@[go_sem] theorem ZB (t:TypeId)(k k':IntKind)(a b:Int):cJ P .shr t (.int k a) (.int k' b)= ¬(b<0):=by simp[cJ,cR,wX,jg]
@[go_sem] theorem Y9 (t:TypeId)(fs gs:List AV):cI P .eql t (.agg t fs) (.agg t gs)=((kJ P t fs gs).map AV.bool).getD .undef:=by simp[cI,cR]
@[go_sem] theorem Zz (t:TypeId)(fs gs:List AV):cJ P .eql t (.agg t fs) (.agg t gs)=((kJ P t fs gs).isSome=true):=by simp[cJ,cR]
@[go_sem] theorem sc (t:TypeId)(fs gs:List AV):cI P .neq t (.agg t fs) (.agg t gs)=((kJ P t fs gs).map λb=>AV.bool (!b)).getD .undef:=by simp[cI,cR]
@[go_sem] theorem se (t:TypeId)(fs gs:List AV):cJ P .neq t (.agg t fs) (.agg t gs)=((kJ P t fs gs).isSome=true):=by simp[cJ,cR]
@[go_sem] theorem Zs (t:TypeId)(a b:List UInt8):cI P .eql t (.str a) (.str b)= .bool (a==b):=by simp[cI,cR,iw]
@[go_sem] theorem YY (t:TypeId)(a b:List UInt8):cJ P .eql t (.str a) (.str b)=True:=by simp[cJ,cR,iw]
@[go_sem] theorem YZ (t:TypeId)(a b:List UInt8):cI P .neq t (.str a) (.str b)= .bool (!(a==b)):=by simp[cI,cR,iw]
@[go_sem] theorem Y6 (t:TypeId)(a b:List UInt8):cJ P .neq t (.str a) (.str b)=True:=by simp[cJ,cR,iw]
@[go_sem] theorem YV (t:TypeId)(a b:List UInt8):cI P .lss t (.str a) (.str b)= .bool (Op.bytesLess a b):=by simp[cI,cR,iw]
@[go_sem] theorem Zf (t:TypeId)(a b:List UInt8):cJ P .lss t (.str a) (.str b)=True:=by simp[cJ,cR,iw]
@[go_sem] theorem Zh (t:TypeId)(a b:List UInt8):cI P .gtr t (.str a) (.str b)= .bool (!(Op.bytesLess a b||a==b)):=by simp[cI,cR,iw]
@[go_sem] theorem Y8 (t:TypeId)(a b:List UInt8):cJ P .gtr t (.str a) (.str b)=True:=by simp[cJ,cR,iw]
@[go_sem] theorem Zr (t:TypeId)(a b:List UInt8):cI P .geq t (.str a) (.str b)= .bool (!Op.bytesLess a b):=by simp[cI,cR,iw]
@[go_sem] theorem Y5 (t:TypeId)(a b:List UInt8):cJ P .geq t (.str a) (.str b)=True:=by simp[cJ,cR,iw]
@[go_sem] theorem W3 (t:TypeId):cI P .eql t .aq .aq=if (elT P t).isSome then .bool true else .undef:=by grind [cI,cR,lS]
@[go_sem] theorem W7 (t:TypeId):cJ P .eql t .aq .aq=((elT P t).isSome=true):=by simp[cJ,cR,lS]
@[go_sem] theorem Yn (t e:TypeId)(x:AV)(xs:List AV):cI P .eql t (.sl e (x::xs)) .aq=if (elT P t).isSome then .bool false else .undef:=by grind [cI,cR,lS,AV.isFull]
@[go_sem] theorem YN (t e:TypeId)(x:AV)(xs:List AV):cJ P .eql t (.sl e (x::xs)) .aq=((elT P t).isSome=true):=by simp[cJ,cR,lS,AV.isFull]
@[go_sem] theorem Zv (t:TypeId)(a b:Bool):cI P .eql t (.bool a) (.bool b)=if kg P t then .bool (a==b)else .undef:=by grind [cI,cR,lS]
@[go_sem] theorem Y4 (t:TypeId)(a b:Bool):cJ P .eql t (.bool a) (.bool b)=(kg P t=true):=by simp[cJ,cR,lS]
@[go_sem] theorem YX (t:TypeId)(a b:Bool):cI P .neq t (.bool a) (.bool b)=if kg P t then .bool (!(a==b))else .undef:=by grind [cI,cR,lS]
@[go_sem] theorem Zi (t:TypeId)(a b:Bool):cJ P .neq t (.bool a) (.bool b)=(kg P t=true):=by simp[cJ,cR,lS]
theorem TS (b:Bool):unV .not (.bool b)= .bool (!b):=rfl
theorem Uk (b:Bool):unC .not (.bool b)=True:=rfl
theorem UT (k:IntKind)(m:Int):unV .neg (.int k m)= .int k (k.wrap (-m)):=rfl
theorem TV (k:IntKind)(m:Int):unC .neg (.int k m)=True:=rfl
theorem MI (t:TypeId)(v:AV):uc σ (.loc t v)=v:=rfl
theorem M8 (t t':TypeId)(v:AV):tR gd σ t (.loc t' v)=(t'=t):=rfl
theorem Mc (t:TypeId)(id i:Nat)(path:List Nat):uc σ (.ptr t id i path)=(look σ id i path).getD .undef:=rfl
theorem Lw (t t':TypeId)(id i:Nat)(path:List Nat):tR gd σ t (.ptr t' id i path)=(t'=t/\imp gd ((look σ id i path).isSome=true)):=rfl
theorem Ij (s t t':TypeId)(i:Nat)(fs:List AV):nV P s i (.loc t (.agg t' fs))= .loc ((((bz P s).getD [])[i]?).getD 0) (fs[i]?.getD .undef):=rfl
theorem Hb (s t t':TypeId)(i:Nat)(fs:List AV):oP P s i (.loc t (.agg t' fs))=(t=s/\t'=s/\bp P s=true/\(bz P s).isSome=true/\(((bz P s).getD [])[i]?).isSome=true/\fs[i]?.isSome=true):=rfl
theorem GS (s t:TypeId)(j id i:Nat)(path:List Nat):nV P s j (.ptr t id i path)= .ptr ((((bz P s).getD [])[j]?).getD 0) id i (path++[j]):=rfl
theorem Jb (s t:TypeId)(j id i:Nat)(path:List Nat):oP P s j (.ptr t id i path)=(t=s/\bp P s=true/\(bz P s).isSome=true/\(((bz P s).getD [])[j]?).isSome=true):=rfl
theorem La (ty:TypeId)(k:IntKind)(m:Int):bb P ty (.int k m)=cd P ty:=rfl
theorem Oi (k:IntKind)(m:Int):AV.bj (.int k m)=true:=rfl
theorem IW (ty:TypeId)(b:Bool):bb P ty (.bool b)=cd P ty:=rfl
theorem JO (b:Bool):AV.bj (.bool b)=true:=rfl
theorem Mj (ty:TypeId)(l:List UInt8):bb P ty (.str l)=cd P ty:=rfl
theorem Ox (l:List UInt8):AV.bj (.str l)=true:=rfl
theorem Li (ty:TypeId)  :bb P ty .nil=cd P ty:=rfl
theorem Nl  :AV.bj .nil=true:=rfl
theorem It (ty:TypeId)  :bb P ty .aq=cd P ty:=rfl
theorem GY  :AV.bj .aq=true:=rfl
theorem Pw (ty:TypeId)(e:TypeId)(xs:List AV):bb P ty (.sl e xs)=cd P ty:=rfl
theorem SC (e:TypeId)(xs:List AV):AV.bj (.sl e xs)=true:=rfl
theorem N9 (ty:TypeId)(e:TypeId)(xs:List AV):bb P ty (.lit e xs)=cd P ty:=rfl
theorem Nk (e:TypeId)(xs:List AV):AV.bj (.lit e xs)=true:=rfl
theorem M7 (ty:TypeId)(e:TypeId)(xs:List AV)(tok:Nat):bb P ty (.own e xs tok)=cd P ty:=rfl
theorem LP (e:TypeId)(xs:List AV)(tok:Nat):AV.bj (.own e xs tok)=true:=rfl
theorem PE (ty:TypeId)(id:Nat):bb P ty (.mp id)=cd P ty:=rfl
theorem Tc (id:Nat):AV.bj (.mp id)=true:=rfl
theorem BX (ty:TypeId):bb P ty .da=cd P ty:=rfl
theorem HR (ty:TypeId):bb P ty .ke=cd P ty:=rfl
theorem Bo :AV.bj .da=true:=rfl
theorem Ht :AV.bj .ke=true:=rfl
theorem Gh (ty t:TypeId)(v:AV):bb P ty (.iface t v)=cd P ty:=rfl
theorem EA (t:TypeId)(v:AV):AV.bj (.iface t v)=true:=rfl
theorem yS (t d:TypeId)(ok:Bool)(v:AV):lu P d ok (.iface t v)=if t=d then(if ok=true then .tup [v,.bool true]else v)else .tup [iY P d,.bool false]:=rfl
theorem vU (d:TypeId)(ok:Bool):lu P d ok .da= .tup [iY P d,.bool false]:=rfl
theorem yK (t d:TypeId)(ok:Bool)(v:AV):pC P d ok (.iface t v)=(oH P d=true/\(t=d\/(ok=true/\Nr P d=true))):=rfl
theorem vK (d:TypeId)(ok:Bool):pC P d ok .da=(oH P d=true/\ok=true/\Nr P d=true):=rfl
theorem LY (ty:TypeId)(e:TypeId)(id off m:Nat):bb P ty (.row e id off m)=cd P ty:=rfl
theorem NT (e:TypeId)(id off m:Nat):AV.bj (.row e id off m)=true:=rfl
theorem Ly (t t':TypeId)(fs:List AV):bb P t (.agg t' fs)=(t'==t&&(bz P t).isSome):=rfl
theorem Ma (t:TypeId)(fs:List AV):AV.bj (.agg t fs)=false:=rfl
theorem Mw (ty:TypeId)(t:TypeId)(v:AV):bb P ty (.loc t v)=cd P ty:=rfl
theorem LF (t:TypeId)(v:AV):AV.bj (.loc t v)=true:=rfl
theorem Mp (ty:TypeId)(t:TypeId)(id i:Nat)(path:List Nat):bb P ty (.ptr t id i path)=cd P ty:=rfl
theorem L7 (t:TypeId)(id i:Nat)(path:List Nat):AV.bj (.ptr t id i path)=true:=rfl
theorem Rv (ty:TypeId)(id:Nat):bb P ty (.it id)=cd P ty:=rfl
theorem Qg (id:Nat):AV.bj (.it id)=true:=rfl
theorem Q5 (id:Nat):AV.bj (.yl id)=true:=rfl
theorem P4 (ty:TypeId)(f:FuncId)(caps:List AV):bb P ty (.fn f caps)=cd P ty:=rfl
theorem PW (f:FuncId)(caps:List AV):AV.bj (.fn f caps)=true:=rfl
theorem SU (l:List UInt8):oU (.str l)= .int .i64 l.length:=rfl
theorem R7 (P:Program)(t:TypeId)(l:List UInt8):gn P t (.str l)=(bU P t=true):=rfl
theorem VR (e:TypeId)(xs:List AV):oU (.sl e xs)= .int .i64 xs.length:=rfl
theorem Uw (P:Program)(t:TypeId)(e:TypeId)(xs:List AV):gn P t (.sl e xs)=((elT P t).isSome=true):=rfl
theorem QG (e:TypeId)(xs:List AV):oU (.lit e xs)= .int .i64 xs.length:=rfl
theorem QE (P:Program)(t:TypeId)(e:TypeId)(xs:List AV):gn P t (.lit e xs)=((elT P t).isSome=true):=rfl
theorem RY (e:TypeId)(xs:List AV)(tok:Nat):oU (.own e xs tok)= .int .i64 xs.length:=rfl
theorem PO (P:Program)(t:TypeId)(e:TypeId)(xs:List AV)(tok:Nat):gn P t (.own e xs tok)=((elT P t).isSome=true):=rfl
theorem MJ  :oU (.aq)= .int .i64 0:=rfl
theorem LC (P:Program)(t:TypeId)  :gn P t (.aq)=((elT P t).isSome=true):=rfl
theorem Pc (e:TypeId)(id off n:Nat):oU (.row e id off n)= .int .i64 n:=rfl
theorem Sq (P:Program)(t:TypeId)(e:TypeId)(id off n:Nat):gn P t (.row e id off n)=((elT P t).isSome=true):=rfl
theorem xN (t t':TypeId)(i:Int)(id j:Nat)(path:List Nat):fj P t i (.ptr t' id j path)= .ptr ((kf P t).getD 0) id j (path++[i.toNat]):=rfl
theorem wq (t t' t'':TypeId)(i:Int)(fs:List AV):fj P t i (.loc t' (.agg t'' fs))= .loc ((kf P t).getD 0) (fs[i.toNat]?.getD .undef):=rfl
theorem wI (t e:TypeId)(i:Int)(id off m:Nat):fj P t i (.row e id off m)= .ptr e id (off+i.toNat) []:=rfl
theorem zd (t e:TypeId)(i:Int)(xs:List AV):fj P t i (.sl e xs)= .loc e (atV xs i):=rfl
theorem wN (t e:TypeId)(i:Int)(xs:List AV):fj P t i (.lit e xs)= .loc e (atV xs i):=rfl
theorem xV (t e:TypeId)(i:Int)(xs:List AV)(k:Nat):fj P t i (.own e xs k)= .loc e (atV xs i):=rfl
theorem vn (σ:ab)(t t':TypeId)(i:Int)(id j:Nat)(path:List Nat):fe P gd σ t i (.ptr t' id j path)=(t'=t/\(kf P t).isSome=true/\(bz P t).isSome=true/\imp gd (0<=i/\i.toNat<((bz P t).getD []).length)):=rfl
theorem xZ (σ:ab)(t t' t'':TypeId)(i:Int)(fs:List AV):fe P gd σ t i (.loc t' (.agg t'' fs))=(t'=t/\t''=t/\(kf P t).isSome=true/\(bz P t).isSome=true/\imp gd (0<=i/\i.toNat<fs.length)):=rfl
theorem vV (σ:ab)(t e:TypeId)(i:Int)(id off m:Nat):fe P gd σ t i (.row e id off m)=(elT P t=some e/\0<af P e/\imp gd (0<=i/\i.toNat<m)/\live σ id):=rfl
theorem yk (σ:ab)(t e:TypeId)(i:Int)(xs:List AV):fe P gd σ t i (.sl e xs)=(elT P t=some e/\0<af P e/\imp gd (0<=i/\i.toNat<xs.length)):=rfl
theorem vF (σ:ab)(t e:TypeId)(i:Int)(xs:List AV):fe P gd σ t i (.lit e xs)=(elT P t=some e/\0<af P e/\imp gd (0<=i/\i.toNat<xs.length)):=rfl
theorem wk (σ:ab)(t e:TypeId)(i:Int)(xs:List AV)(k:Nat):fe P gd σ t i (.own e xs k)=(elT P t=some e/\0<af P e/\imp gd (0<=i/\i.toNat<xs.length)):=rfl
theorem H3 (A:aa)(lo hi:Option Operand)(e:TypeId)(id off m:Nat):lO A lo hi (.row e id off m)= .row e id (off+c8 A 0 lo) (c8 A m hi-c8 A 0 lo):=rfl
theorem Fw (A:aa)(lo hi:Option Operand):lO A lo hi .aq= .aq:=rfl
theorem JF (A:aa)(lo hi:Option Operand)(l:List UInt8):lO A lo hi (.str l)= .str (iP l (c8 A 0 lo) (c8 A l.length hi)):=rfl
theorem L3 (A:aa)(lo hi:Option Operand)(e:TypeId)(xs:List AV):lO A lo hi (.sl e xs)= .sl e (iP xs (c8 A 0 lo) (c8 A xs.length hi)):=rfl
theorem JW (A:aa)(lo hi:Option Operand)(e:TypeId)(xs:List AV):lO A lo hi (.lit e xs)= .sl e (iP xs (c8 A 0 lo) (c8 A xs.length hi)):=rfl
theorem JV (A:aa)(lo hi:Option Operand)(e:TypeId)(xs:List AV)(k:Nat):lO A lo hi (.own e xs k)= .sl e (iP xs (c8 A 0 lo) (c8 A xs.length hi)):=rfl
theorem wo (A:aa)(t:TypeId)(lo hi:Option Operand)(e:TypeId)(id off m:Nat):kW P gd A t lo hi (.row e id off m)=(elT P t=some e/\0<af P e/\oo gd A lo hi m):=rfl
theorem tT (A:aa)(t:TypeId)(lo hi:Option Operand):kW P gd A t lo hi .aq=((elT P t).isSome=true/\0<af P ((elT P t).getD 0)/\pV gd A lo/\pV gd A hi/\imp gd (c8 A 0 lo=0/\c8 A 0 hi=0)):=rfl
theorem GV (A:aa)(t:TypeId)(lo hi:Option Operand)(l:List UInt8):kW P gd A t lo hi (.str l)=(bU P t=true/\oo gd A lo hi l.length):=rfl
theorem OH (A:aa)(t:TypeId)(lo hi:Option Operand)(e:TypeId)(xs:List AV):kW P gd A t lo hi (.sl e xs)=(elT P t=some e/\0<af P e/\oo gd A lo hi xs.length):=rfl
theorem Jq (A:aa)(t:TypeId)(lo hi:Option Operand)(e:TypeId)(xs:List AV):kW P gd A t lo hi (.lit e xs)=(elT P t=some e/\0<af P e/\oo gd A lo hi xs.length):=rfl
theorem H9 (A:aa)(t:TypeId)(lo hi:Option Operand)(e:TypeId)(xs:List AV)(k:Nat):kW P gd A t lo hi (.own e xs k)=(elT P t=some e/\0<af P e/\oo gd A lo hi xs.length):=rfl
attribute [go_sem] TS Uk UT TV MI M8 Mc Lw Ij Hb GS Jb La Oi IW JO Mj Ox Li Nl It GY Pw SC N9 Nk M7 LP PE Tc BX HR Bo Ht Gh EA yS vU yK vK LY NT Ly Ma Mw LF Mp L7 Rv Qg Q5 P4 PW SU R7 VR Uw QG QE RY PO MJ LC Pc Sq xN wq wI zd wN xV vn xZ vV yk vF wk H3 Fw JF L3 JW JV wo tT GV OH Jq H9
attribute [go_sem] beq_self_eq_true Bool.not_true Bool.not_false oo c8 pV fQ Hz AV.iL pB jV List.all_cons List.all_nil List.map_cons List.map_nil
theorem Ha (i:Int)(l:List UInt8):AW i (.str l)= .int .u8 (l[i.toNat]?.getD 0).toNat:=rfl
theorem HI (t:TypeId)(i:Int)(l:List UInt8):CH P gd t i (.str l)=(bU P t=true/\imp gd (0<=i/\i.toNat<l.length)):=rfl
theorem G1 (i:Int)(t:TypeId)(fs:List AV):AW i (.agg t fs)=fs[i.toNat]?.getD .undef:=rfl
theorem H6 (t t':TypeId)(i:Int)(fs:List AV):CH P gd t i (.agg t' fs)=(t'=t/\(kf P t).isSome=true/\(bz P t).isSome=true/\imp gd (0<=i/\i.toNat<fs.length)):=rfl
theorem Ba (i:Nat)(as:List AV):rU i (.tup as)=as[i]?.getD .undef:=rfl
theorem B9 (i:Nat)(as:List AV):rE i (.tup as)=(as[i]?.isSome=true):=rfl
theorem BD (d:TypeId)(k:IntKind)(m:Int):jU P d (.int k m)=match fV P d with|some k'=>.int k' (k'.wrap m)|none=>.str (FF m):=rfl
theorem Dm (d:TypeId)(l:List UInt8):jU P d (.str l)= .str l:=rfl
theorem By (d e:TypeId)(xs:List AV):jU P d (.lit e xs)= .str (xs.map ky):=rfl
theorem EF (d e:TypeId)(xs:List AV):jU P d (.sl e xs)= .str (xs.map ky):=rfl
theorem CO (d e:TypeId)(xs:List AV)(i:Nat):jU P d (.own e xs i)= .str (xs.map ky):=rfl
theorem CA (s d e:TypeId)(xs:List AV):jJ P s d (.lit e xs)=(elT P s=some e/\fV P e=some .u8/\af P e=1/\bU P d=true/\jx xs):=rfl
theorem F7 (s d e:TypeId)(xs:List AV):jJ P s d (.sl e xs)=(elT P s=some e/\fV P e=some .u8/\af P e=1/\bU P d=true/\jx xs):=rfl
theorem BV (s d e:TypeId)(xs:List AV)(i:Nat):jJ P s d (.own e xs i)=(elT P s=some e/\fV P e=some .u8/\af P e=1/\bU P d=true/\jx xs):=rfl
theorem Jx (k:IntKind)(n:Int):ky (.int k n)=UInt8.ofNat n.toNat:=rfl
theorem Fu :jx []=True:=rfl
theorem CF (x:AV)(r:List AV):jx (x::r)=(isByte x/\jx r):=rfl
theorem JA (k:IntKind)(n:Int):isByte (.int k n)=(k= .u8/\0<=n/\n<256):=rfl
theorem Bc (s d:TypeId)(l:List UInt8):jJ P s d (.str l)=(bU P s=true/\bU P d=true):=rfl
theorem A0 (s d:TypeId)(k:IntKind)(m:Int):jJ P s d (.int k m)=((fV P s).isSome=true/\((fV P d).isSome||bU P d)=true):=rfl
attribute [go_sem] Ha HI G1 H6 Ba B9 BD Dm By EF CO CA F7 BV Jx Fu CF JA Bc A0
attribute [go_sem] Option.isSome_none
theorem BP (u:AV):jS .len [u]=oU u:=rfl
theorem Bm (t:TypeId)(u:AV):kZ P .len [t] [u]=gn P t u:=rfl
theorem Bl (u:AV):jS .cap [u]= .int .i64 0:=rfl
theorem BO (t:TypeId):kZ P .cap [t] [.aq]=((elT P t).isSome=true):=rfl
theorem Dp (k k':IntKind)(p q:Int):jS .max [.int k p,.int k' q]= .int k (F4 p q):=rfl
theorem CE (ts:List TypeId)(k k':IntKind)(p q:Int):kZ P .max ts [.int k p,.int k' q]=(k'=k):=rfl
theorem BH (k k':IntKind)(p q:Int):jS .min [.int k p,.int k' q]= .int k (uD p q):=rfl
theorem Bz (ts:List TypeId)(k k':IntKind)(p q:Int):kZ P .min ts [.int k p,.int k' q]=(k'=k):=rfl
theorem Ti (ts:List Nat)(r:AV):YD ts r σ .ret A=(dj (jV A.env ts) r/\A.st.take σ.length=σ):=rfl
theorem Ei (ts:List Nat)(r:AV):YD ts r σ .normal A=(dj (jV A.env ts) r/\A.st.take σ.length=σ):=rfl
attribute [go_sem] BP Bm Bl BO Dp CE BH Bz Ti Ei
theorem TC (i:Nat):(0<=(i:Int))=True:=eq_true (Int.natCast_nonneg i)
theorem XM (a b:UInt8):(a.toNat=b.toNat)=(a=b):=propext UInt8.toNat_inj
theorem T1 (a b:Nat):((a:Int)<(b:Int))=(a<b):=propext Int.ofNat_lt
theorem V9 (a b:Nat):((a:Int)<=(b:Int))=(a<=b):=propext Int.ofNat_le
theorem cast_eq (a b:Nat):((a:Int)=(b:Int))=(a=b):=propext Int.ofNat_inj
attribute [go_sem] TC XM T1 V9 cast_eq Int.toNat_natCast decide_eq_true_eq decide_eq_false_iff_not beq_iff_eq beq_eq_false_iff_ne bne_iff_ne bne_eq_false_iff_eq ne_eq Nat.not_lt Nat.not_le Bool.not_eq_true' Bool.not_eq_false'
attribute [go_sem] List.take_length imp_self implies_true and_imp forall_self_imp false_implies Bool.false_eq_true
@[go_sem] theorem YT (x:AV):dj x x=True:=eq_true (.refl x)
end
end Go.Av
end
