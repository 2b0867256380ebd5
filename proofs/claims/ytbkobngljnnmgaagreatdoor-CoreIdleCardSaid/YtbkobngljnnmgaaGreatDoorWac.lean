/- What the last text of this claim rests on. No conditions. -/
import Derived.Attr
import Derived.Test.YtbkobngljnnmgaaGreatDoorWab
set_option linter.unusedSimpArgs false
set_option linter.unusedVariables false
open Iff renaming rfl->acG
section
namespace Go.Av
open Go
section
variable {P :Program}{W0:World}{σ:ab}{n:Nat}{A:aa}{gd:Option Bool}{fz:List Nat}{Q:Exit->aa->Prop}{K k:aa->Prop}{ops:Array Oper}
theorem Ng  :unm .undef= .undef:=rfl
theorem Pa  :okM gd .undef=True:=rfl
theorem Ii  (q:Bool):ie gd q .undef=True:=rfl
theorem V3 (k:IntKind)(m:Int):unm (.int k m)=(.int k m):=rfl
theorem We (k:IntKind)(m:Int):okM gd (.int k m)=True:=rfl
theorem P7 (k:IntKind)(m:Int)(q:Bool):ie gd q (.int k m)=True:=rfl
theorem QE (b:Bool):unm (.bool b)=(.bool b):=rfl
theorem QM (b:Bool):okM gd (.bool b)=True:=rfl
theorem LD (b:Bool)(q:Bool):ie gd q (.bool b)=True:=rfl
theorem VT (l:List UInt8):unm (.str l)=(.str l):=rfl
theorem WU (l:List UInt8):okM gd (.str l)=True:=rfl
theorem Q6 (l:List UInt8)(q:Bool):ie gd q (.str l)=True:=rfl
theorem WG  :unm .nil= .nil:=rfl
theorem VO  :okM gd .nil=True:=rfl
theorem S5  (q:Bool):ie gd q .nil=True:=rfl
theorem Pq  :unm .ar= .ar:=rfl
theorem Tl  :okM gd .ar=True:=rfl
theorem Nc  (q:Bool):ie gd q .ar=True:=rfl
theorem Yc (e:TypeId)(xs:List AV):unm (.sl e xs)=(.sl e xs):=rfl
theorem YW (e:TypeId)(xs:List AV):okM gd (.sl e xs)=True:=rfl
theorem VD (e:TypeId)(xs:List AV)(q:Bool):ie gd q (.sl e xs)=True:=rfl
theorem WD (e:TypeId)(xs:List AV):unm (.lit e xs)=(.lit e xs):=rfl
theorem WO (e:TypeId)(xs:List AV):okM gd (.lit e xs)=True:=rfl
theorem P4 (e:TypeId)(xs:List AV)(q:Bool):ie gd q (.lit e xs)=True:=rfl
theorem Uu (e:TypeId)(xs:List AV)(tok:Nat):unm (.own e xs tok)=(.own e xs tok):=rfl
theorem WT (e:TypeId)(xs:List AV)(tok:Nat):okM gd (.own e xs tok)=True:=rfl
theorem SQ (e:TypeId)(xs:List AV)(tok:Nat)(q:Bool):ie gd q (.own e xs tok)=True:=rfl
theorem SN :unm .lf= .lf:=rfl
theorem Q5 :okM gd .lf=True:=rfl
theorem X7 (id:Nat):unm (.mp id)=(.mp id):=rfl
theorem Yg (id:Nat):okM gd (.mp id)=True:=rfl
theorem U3 (id:Nat)(q:Bool):ie gd q (.mp id)=True:=rfl
theorem HX :unm .df= .df:=rfl
theorem TA :unm .kd= .kd:=rfl
theorem Io :okM gd .df=True:=rfl
theorem Sv :okM gd .kd=True:=rfl
theorem Fg (q:Bool):ie gd q .df=True:=rfl
theorem MB (q:Bool):ie gd q .kd=True:=rfl
theorem M9 (t:TypeId)(v:AV):unm (.iface t v)= .iface t v:=rfl
theorem MP (t:TypeId)(v:AV):okM gd (.iface t v)=True:=rfl
theorem Jc (t:TypeId)(v:AV)(q:Bool):ie gd q (.iface t v)=True:=rfl
theorem Vk (e:TypeId)(id off m:Nat):unm (.row e id off m)=(.row e id off m):=rfl
theorem U5 (e:TypeId)(id off m:Nat):okM gd (.row e id off m)=True:=rfl
theorem SA (e:TypeId)(id off m:Nat)(q:Bool):ie gd q (.row e id off m)=True:=rfl
theorem Vw (t:TypeId)(fs:List AV):unm (.agg t fs)=(.agg t fs):=rfl
theorem UF (t:TypeId)(fs:List AV):okM gd (.agg t fs)=True:=rfl
theorem Qa (t:TypeId)(fs:List AV)(q:Bool):ie gd q (.agg t fs)=True:=rfl
theorem Wq (t:TypeId)(v:AV):unm (.loc t v)=(.loc t v):=rfl
theorem Vt (t:TypeId)(v:AV):okM gd (.loc t v)=True:=rfl
theorem Qw (t:TypeId)(v:AV)(q:Bool):ie gd q (.loc t v)=True:=rfl
theorem Vs (t:TypeId)(id i:Nat)(path:List Nat):unm (.ptr t id i path)=(.ptr t id i path):=rfl
theorem WE (t:TypeId)(id i:Nat)(path:List Nat):okM gd (.ptr t id i path)=True:=rfl
theorem Sg (t:TypeId)(id i:Nat)(path:List Nat)(q:Bool):ie gd q (.ptr t id i path)=True:=rfl
theorem Ys (id:Nat):unm (.it id)=(.it id):=rfl
theorem Y1 (id:Nat):unm (.yl id)=(.yl id):=rfl
theorem XZ (id:Nat):okM gd (.it id)=True:=rfl
theorem Zg (id:Nat):okM gd (.yl id)=True:=rfl
theorem Up (id:Nat)(q:Bool):ie gd q (.it id)=True:=rfl
theorem Wa (id:Nat)(q:Bool):ie gd q (.yl id)=True:=rfl
theorem YX (f:FuncId)(caps:List AV):unm (.fn f caps)=(.fn f caps):=rfl
theorem X3 (f:FuncId)(caps:List AV):okM gd (.fn f caps)=True:=rfl
theorem WQ (f:FuncId)(caps:List AV)(q:Bool):ie gd q (.fn f caps)=True:=rfl
theorem UH (vs:List AV):unm (.tup vs)=(.tup vs):=rfl
theorem Wm (vs:List AV):okM gd (.tup vs)=True:=rfl
theorem Sk (vs:List AV)(q:Bool):ie gd q (.tup vs)=True:=rfl
theorem OA (g:Bool)(v:AV):unm (.maybe g v)=v:=rfl
attribute [go_sem] Ng Pa Ii V3 We P7 QE QM LD VT WU Q6 WG VO S5 Pq Tl Nc Yc YW VD WD WO P4 Uu WT SQ SN Q5 X7 Yg U3 HX TA Io Sv Fg MB M9 MP Jc Vk U5 SA Vw UF Qa Wq Vt Qw Vs WE Sg Ys Y1 XZ Zg Up Wa YX X3 WQ UH Wm Sk OA
def Oo (g h:Bool):Prop:=g=true->h=true
@[go_sem] theorem Zl (g:Bool):Oo g g=True:=eq_true id
@[go_sem] theorem ZM (g:Bool):Oo g true=True:=eq_true λ_=>rfl
theorem Ft (g:Bool)(v:AV):okM none (.maybe g v)=(g=true):=rfl
theorem EH (G g:Bool)(v:AV):okM (some G) (.maybe g v)=Oo G g:=rfl
theorem BN (g b:Bool)(v:AV):ie none b (.maybe g v)=Oo b g:=rfl
attribute [go_sem] Ft EH BN
@[go_sem] theorem V5 (G g b:Bool)(v:AV):ie (some G) b (.maybe g v)=Oo (G&&b) g:=by simp[ie,imp,Oo]
theorem Qv (p:Prop):imp none p=p:=rfl
theorem Qu (g:Bool)(p:Prop):imp (some g) p=(g=true->p):=rfl
theorem Mb (b:Bool):En (.bool b)=True:=rfl
theorem VI (b:Bool):bl (.bool b)=b:=rfl
theorem Vr (k:IntKind)(m:Int):isI (.int k m)=True:=rfl
theorem Zh (k:IntKind)(m:Int):iv (.int k m)=m:=rfl
theorem Sz (b:Bool):gdC (.bool b)=True:=rfl
attribute [go_sem] Qv Qu Mb VI Vr Zh Sz
@[go_sem ↓] theorem PE (p:Prop):imp (some false) p=True:=eq_true λh=>(Bool.false_ne_true h).elim
@[go_sem] theorem UE (v:AV):gdC (.maybe false v)=True:=by cases v<;>simp[gdC]
@[go_sem] theorem T9 (want:Bool)(v:AV):gdV want (.maybe false v)=false:=by cases v<;>simp[gdV]
@[go_sem] theorem Zq (g b:Bool):gdC (.maybe g (.bool b))=True:=rfl
@[go_sem] theorem Yu (b:Bool):gdV true (.bool b)=b:=by cases b<;>rfl
@[go_sem] theorem YU (b:Bool):gdV false (.bool b)= !b:=by cases b<;>rfl
@[go_sem] theorem Xk (g b:Bool):gdV true (.maybe g (.bool b))=(g&&b):=by cases g<;>cases b<;>rfl
@[go_sem] theorem Xn (g b:Bool):gdV false (.maybe g (.bool b))=(g&& !b):=by cases g<;>cases b<;>rfl
theorem J9 (v:AV):dw none v=v:=rfl
theorem Hj (g:Bool)(v:AV):dw (some g) v= .maybe g v:=rfl
theorem UX (d i:Nat)(v:AV):(A.upd d v).env i=if i=d then v else A.env i:=rfl
theorem YH (d:Nat)(v:AV):(A.upd d v).st=A.st:=rfl
theorem YK (d:Nat)(v:AV):A.put (some d) v=A.upd d v:=rfl
theorem Xt (v:AV):A.put none v=A:=rfl
theorem Jf (s:ab)(i:Nat):(A.ay s).env i=A.env i:=rfl
theorem OV (s:ab):(A.ay s).st=s:=rfl
theorem BM (B:aa)(i:Nat):(keep [] A B).env i=B.env i:=rfl
attribute [go_sem] J9 Hj UX YH YK Xt Jf OV BM
@[go_sem] theorem T3 (k:Nat)(ks:List Nat)(B:aa)(i:Nat):(keep (k::ks) A B).env i=if i=k then A.env i else(keep ks A B).env i:=by
 grind [keep]
theorem Vj (ks:List Nat)(B:aa):(keep ks A B).st=B.st:=rfl
theorem Yp (e:Nat->AV)(s:ab)(i:Nat):(aa.mk e s).env i=e i:=rfl
theorem aaj (e:Nat->AV)(s:ab):(aa.mk e s).st=s:=rfl
theorem Rz (as:List AV)(i:Nat):iP as i=as[i]?.getD .undef:=rfl
theorem WK (t:Nat):A.val (.tmp t)=A.env t:=rfl
theorem TG (f:Nat):A.val (.func f)= .fn f []:=rfl
theorem UY (k:IntKind)(m:Int):A.val (.const (.int k m))= .int k m:=rfl
theorem R6 (b:Bool):A.val (.const (.bool b))= .bool b:=rfl
theorem Wi :A.val (.const (.pointer none))= .nil:=rfl
theorem RL :A.val (.const (.slice none 0 0))= .ar:=rfl
theorem WB (l:List UInt8):A.val (.const (.string ⟨l.toArray⟩))=if pY 300 l=true then .str l else .undef:=rfl
attribute [go_sem] Vj Yp aaj Rz WK TG UY R6 Wi RL WB
@[go_sem] theorem YS (n:Nat):pY n []=true:=by cases n<;>rfl
theorem GY (n:Nat)(x:UInt8)(l:List UInt8):pY (n+1) (x::l)=pY n l:=rfl
theorem I9 :cT A []=[]:=rfl
theorem EW (x:Operand)(r:List Operand):cT A (x::r)=unm (A.val x)::cT A r:=rfl
theorem MC :e8 gd A []=True:=rfl
theorem HA (x:Operand)(r:List Operand):e8 gd A (x::r)=(okM gd (A.val x)/\e8 gd A r):=rfl
theorem Hu :eB A []=[]:=rfl
theorem DL (i:Nat)(x:Operand)(r:List (Nat×Operand)):eB A ((i,x)::r)=(i,unm (A.val x))::eB A r:=rfl
theorem JM :gL gd A []=True:=rfl
theorem DQ (i:Nat)(x:Operand)(r:List (Nat×Operand)):gL gd A ((i,x)::r)=(okM gd (A.val x)/\gL gd A r):=rfl
attribute [go_sem] GY I9 EW MC HA Hu DL JM DQ
attribute [go_sem] List.getElem?_cons_zero List.getElem?_cons_succ List.getElem?_nil Option.getD_some Option.getD_none Option.isSome_some Option.bind_some List.getElem?_toArray pZ List.set_cons_zero List.set_cons_succ true_and and_true Bool.and_true Bool.true_and Bool.and_false Bool.false_and Bool.or_false Bool.false_or Bool.or_true Bool.true_or
theorem vC (id:Nat)(ops:Array Oper)(d:Bool)(y:Code):cVC P W0 n fz (.seq (.region id ops d) y) Q A=cVC P W0 n fz (.region id ops d) (cr (cVC P W0 n fz y Q) Q) A:=propext acG
theorem zz (id:Nat)(c:Code)(y:Code):cVC P W0 n fz (.seq (.block id c) y) Q A=cVC P W0 n fz (.block id c) (cr (cVC P W0 n fz y Q) Q) A:=propext acG
attribute [go_sem ↓] vC zz
theorem uc (K1 K2:aa->Prop):cr K1 (cr K2 Q)=cr K1 Q:=by funext e A;cases e<;>rfl
@[go_sem ↓] theorem W6 (u v y:Code):cVC P W0 n fz (.seq (.seq u v) y) Q A=cVC P W0 n fz (.seq u (.seq v y)) Q A:=by simp[cVC,uc]
theorem BJ  (y:Code):cVC P W0 n fz (.seq .skip y) Q A=cVC P W0 n fz .skip (cr (cVC P W0 n fz y Q) Q) A:=propext acG
theorem D9  (y:Code):cVC P W0 n fz (.seq .ret y) Q A=cVC P W0 n fz .ret (cr (cVC P W0 n fz y Q) Q) A:=propext acG
theorem Ce (id:Nat)(y:Code):cVC P W0 n fz (.seq (.exit id) y) Q A=cVC P W0 n fz (.exit id) (cr (cVC P W0 n fz y Q) Q) A:=propext acG
theorem De (c:Code)(y:Code):cVC P W0 n fz (.seq (.loop c) y) Q A=cVC P W0 n fz (.loop c) (cr (cVC P W0 n fz y Q) Q) A:=propext acG
attribute [go_sem ↓] BJ D9 Ce De
theorem Lv :iQ .ret=true:=rfl
theorem I4 (id:Nat):iQ (.exit id)=true:=rfl
theorem G5 :iQ .skip=false:=rfl
theorem Oc (x y:Code):iQ (.seq x y)=(iQ x||iQ y):=rfl
theorem Ir (c:Operand)(x y:Code):iQ (.cond c x y)=(iQ x&&iQ y):=rfl
attribute [go_sem] Lv I4 G5 Oc Ir
theorem C7 (id:Nat)(ops:Array Oper)(d:Bool):iQ (.region id ops d)=false:=rfl
theorem Gp (id:Nat)(c:Code):iQ (.block id c)=false:=rfl
theorem IV (c:Code):iQ (.loop c)=false:=rfl
attribute [go_sem ↓] C7 Gp IV
@[go_sem ↓] theorem Xp (c:Operand)(x y z:Code):cVC P W0 n fz (.seq (.cond c x y) z) Q A=(okM none (A.val c)/\En (unm (A.val c))/\(if iQ x||iQ y then
   (bl (unm (A.val c))=true->cVC P W0 n fz x (cr (cVC P W0 n fz z Q) Q) A)/\(bl (unm (A.val c))=false->cVC P W0 n fz y (cr (cVC P W0 n fz z Q) Q) A)
  else cm P W0 n fz (bl (unm (A.val c))) x .mk y .mk z .mk Q .mk A)):=by
 split<;>exact propext acG
theorem QX :cVC P W0 n fz .skip Q A=Q .normal A:=propext acG
theorem Wu :cVC P W0 n fz .ret Q A=Q .ret A:=propext acG
theorem Se (id:Nat):cVC P W0 n fz (.exit id) Q A=Q (.exit id) A:=propext acG
theorem N1 (id:Nat)(c:Code):cVC P W0 n fz (.block id c) Q A=cVC P W0 n fz c (eD id Q) A:=propext acG
theorem S9 (c:Operand)(x y:Code):cVC P W0 n fz (.cond c x y) Q A=(okM none (A.val c)/\En (unm (A.val c))/\(bl (unm (A.val c))=true->cVC P W0 n fz x Q A)/\(bl (unm (A.val c))=false->cVC P W0 n fz y Q A)):=propext acG
attribute [go_sem ↓] QX Wu Se N1 S9
@[go_sem ↓] theorem Zf (id:Nat)(l:List Oper):cVC P W0 n fz (.region id l.toArray false) Q A=jT P W0 n fz l.toArray l (Q .normal) A:=by simp[cVC]
@[go_sem ↓] theorem ZJ (id:Nat)(l:List Oper):cVC P W0 n fz (.region id l.toArray true) Q A=(P.follows .mixedOrders=true/\F9 fz id l.toArray .mk/\Ls fz l A (dz P W0 n fz id l.toArray l (λB=>oz P W0 n fz id l (Q .normal) B)) .mk):=by simp[cVC,Ls]
@[go_sem ↓] theorem aaF (l:List Oper)(k:aa->Prop):Ls fz l A k .mk=(if fz.all (λx=>decide (x<6000000))then k A else DO fz l A k .mk):=by
 unfold Ls DO D3;split<;>rfl
theorem Rl (c:Code):cVC P W0 n fz (.loop c) Q A=ae P W0 n fz c .mk Q .mk A:=propext acG
theorem Cy :cr K Q .normal A=K A:=propext acG
theorem Mf :cr K Q .ret A=Q .ret A:=propext acG
theorem IU (id:Nat):cr K Q (.exit id) A=Q (.exit id) A:=propext acG
theorem Fw (id id':Nat):eD id Q (.exit id') A=if id'=id then Q .normal A else Q (.exit id') A:=propext acG
theorem yS (id:Nat):eD id Q .normal A=Q .normal A:=propext acG
theorem Hk (id:Nat):eD id Q .ret A=Q .ret A:=propext acG
theorem QY :jT P W0 n fz ops [] K A=K A:=propext acG
theorem Lt (dst:Option Nat)(op:Op)(ty:TypeId)(pos:String)(after:Array Edge)(r:List Oper):jT P W0 n fz ops (⟨dst,op,ty,pos,after,none⟩::r) K A=(j0 n dst/\op2 P W0 fz dst A (λA'=>jT P W0 n fz ops r K A') op):=propext acG
theorem IY (dst:Option Nat)(op:Op)(ty:TypeId)(pos:String)(after:Array Edge)(j:Nat)(want:Bool)(r:List Oper):jT P W0 n fz ops (⟨dst,op,ty,pos,after,some (j,want)⟩::r) K A=(j0 n dst/\(match tK ops j with
   |some d=>gdC (A.env d)/\(if Vm fz dst then gop P W0 (gdV want (A.env d)) dst A (λA'=>jT P W0 n fz ops r K A') op else vop P W0 (some (gdV want (A.env d))) (some A.st) dst A (λA'=>jT P W0 n fz ops r K A') op)
   |none=>False)):=propext acG
attribute [go_sem ↓] Rl Cy Mf IU Fw yS Hk QY Lt IY
theorem LP (d:Nat):Vm fz (some d)=fz.contains (2000000+d):=rfl
theorem R3 (d:Nat):ovM fz (some d)=fz.contains (5000000+d):=rfl
theorem Tp :ovM fz none=false:=rfl
theorem MF :Vm fz none=false:=rfl
theorem QJ (d:Nat):rdM fz (some d)=fz.contains (3000000+d):=rfl
theorem Pp :rdM fz none=false:=rfl
attribute [go_sem] LP R3 Tp MF QJ Pp
attribute [go_sem] decide_true decide_false
theorem Nu (id:Nat)(l:List Oper):oz P W0 n fz id l K A=(if fz.all (λx=>decide (x<2000000))then K A else lg P W0 n fz id l K A):=rfl
theorem R4 (id:Nat):lg P W0 n fz id [] K A=K A:=propext acG
attribute [go_sem ↓] Nu R4
@[go_sem ↓] theorem Zp (id d:Nat)(op:Op)(ty:TypeId)(pos:String)(after:Array Edge)(g:Option (Nat×Bool))(r:List Oper):lg P W0 n fz id (⟨some d,op,ty,pos,after,g⟩::r) K A=(if fz.contains (2000000+d)then d<n/\eop P W0 fz (some d) A (λA'=>if fz.contains (1000000+d)then e5 A.st A'.st/\lg P W0 n fz id r K A' else lg P W0 n fz id r K A') op else lg P W0 n fz id r K A):=by rw[lg];rfl
@[go_sem ↓] theorem XL (id:Nat)(op:Op)(ty:TypeId)(pos:String)(after:Array Edge)(g:Option (Nat×Bool))(r:List Oper):lg P W0 n fz id (⟨none,op,ty,pos,after,g⟩::r) K A=(if fz.contains (4000000+id)then True/\eop P W0 fz none A (λA'=>lg P W0 n fz id r K A') op else lg P W0 n fz id r K A):=by rw[lg];rfl
theorem My (dst:Option Nat)(t:TypeId)(x y:Operand):eop P W0 fz dst A k (.store t x y)=(TR fz x/\okM none (A.val x)/\okM none (A.val y)/\jV P fz t x (unm (A.val y)) A (λA'=>k (A'.put dst .undef)) .mk (unm (A.val x))):=propext acG
theorem Tz (dst:Option Nat)(x:Operand):eop P W0 fz dst A k (.move x)=op2 P W0 fz dst A k (.move x):=propext acG
theorem Jb (dst:Option Nat)(x:Operand):eop P W0 fz dst A k (.assign x)=op2 P W0 fz dst A k (.assign x):=propext acG
theorem PZ (dst:Option Nat)(c x y:Operand):eop P W0 fz dst A k (.pick c x y)=op2 P W0 fz dst A k (.pick c x y):=propext acG
theorem MG (dst:Option Nat)(op:BinOp)(t t':TypeId)(x y:Operand):eop P W0 fz dst A k (.binOp op t x y t')=op2 P W0 fz dst A k (.binOp op t x y t'):=propext acG
theorem Pt (dst:Option Nat)(op:UnOp)(t:TypeId)(x:Operand):eop P W0 fz dst A k (.unOp op t x)=op2 P W0 fz dst A k (.unOp op t x):=propext acG
theorem PC (dst:Option Nat)(t:TypeId)(x:Operand):eop P W0 fz dst A k (.load t x)=op2 P W0 fz dst A k (.load t x):=propext acG
theorem yy (dst:Option Nat)(t:TypeId)(x:Operand)(i:Nat):eop P W0 fz dst A k (.fieldAddr t x i)=op2 P W0 fz dst A k (.fieldAddr t x i):=propext acG
theorem Na (dst:Option Nat)(t:TypeId)(x:Operand)(i:Nat):eop P W0 fz dst A k (.field t x i)=op2 P W0 fz dst A k (.field t x i):=propext acG
theorem zC (dst:Option Nat)(t:TypeId)(x y:Operand):eop P W0 fz dst A k (.indexAddr t x y)=op2 P W0 fz dst A k (.indexAddr t x y):=propext acG
theorem LB (dst:Option Nat)(t:TypeId)(x y:Operand):eop P W0 fz dst A k (.index t x y)=op2 P W0 fz dst A k (.index t x y):=propext acG
theorem Fl (dst:Option Nat)(x:Operand)(i:Nat):eop P W0 fz dst A k (.extract x i)=op2 P W0 fz dst A k (.extract x i):=propext acG
theorem C4 (dst:Option Nat)(x:Operand):eop P W0 fz dst A k (.nilCheck x)=op2 P W0 fz dst A k (.nilCheck x):=propext acG
theorem FI (dst:Option Nat)(s d:TypeId)(x:Operand):eop P W0 fz dst A k (.convert s d x)=op2 P W0 fz dst A k (.convert s d x):=propext acG
theorem wj (dst:Option Nat)(x:Operand)(xt d:TypeId)(ok:Bool):eop P W0 fz dst A k (.typeAssert x xt d ok)=op2 P W0 fz dst A k (.typeAssert x xt d ok):=propext acG
theorem rJ (dst:Option Nat)(t:TypeId)(x:Operand):eop P W0 fz dst A k (.makeInterface t x)=op2 P W0 fz dst A k (.makeInterface t x):=propext acG
theorem MK (dst:Option Nat)(t:TypeId)(x:Operand)(lo hi mx:Option Operand):eop P W0 fz dst A k (.slice t x lo hi mx)=op2 P W0 fz dst A k (.slice t x lo hi mx):=propext acG
theorem ND (dst:Option Nat)(t:TypeId)(ps:Array (Nat×Operand)):eop P W0 fz dst A k (.build t ps)=op2 P W0 fz dst A k (.build t ps):=propext acG
theorem yj (dst:Option Nat)(t:TypeId)(m:Nat)(ps:Array (Nat×Operand)):eop P W0 fz dst A k (.buildSlice t m ps)=op2 P W0 fz dst A k (.buildSlice t m ps):=propext acG
theorem Ur (dst:Option Nat)(t:TypeId)(x:Operand):eop P W0 fz dst A k (.box t x)=op2 P W0 fz dst A k (.box t x):=propext acG
theorem PI (dst:Option Nat)(c:Call):eop P W0 fz dst A k (.call c)=op2 P W0 fz dst A k (.call c):=propext acG
theorem zo (dst:Option Nat)(t:TypeId)(x y:Operand):eop P W0 fz dst A k (.makeSlice t x y)=op2 P W0 fz dst A k (.makeSlice t x y):=propext acG
attribute [go_sem ↓] My Tz Jb PZ MG Pt PC yy Na zC LB Fl C4 FI wj rJ MK ND yj Ur PI zo
theorem O9 (d:Nat):vA fz A (.tmp d)=((fz.contains d||fz.contains (6000000+d))=true->vH (unm (A.env d))=true):=propext acG
theorem Hh (t:TypeId)(v:AV):vH (.loc t v)=true:=rfl
theorem OB (d:Nat):TR fz (.tmp d)=(fz.contains d=false):=propext acG
attribute [go_sem] O9 Hh OB
@[go_sem ↓] theorem YE (id:Nat):dz P W0 n fz id ops [] K A=K A:=propext acG
@[go_sem ↓] theorem Xc (id d:Nat)(op:Op)(ty:TypeId)(pos:String)(after:Array Edge)(r:List Oper):dz P W0 n fz id ops (⟨some d,op,ty,pos,after,none⟩::r) K A=(if fz.contains (2000000+d)then dz P W0 n fz id ops r K A else d<n/\dop P W0 fz none (some d) A (λA'=>dz P W0 n fz id ops r K A') op):=by rw[dz];rfl
@[go_sem ↓] theorem Vx (id:Nat)(op:Op)(ty:TypeId)(pos:String)(after:Array Edge)(r:List Oper):dz P W0 n fz id ops (⟨none,op,ty,pos,after,none⟩::r) K A=(if fz.contains (4000000+id)then dz P W0 n fz id ops r K A else True/\dop P W0 fz none none A (λA'=>dz P W0 n fz id ops r K A') op):=by rw[dz];rfl
@[go_sem ↓] theorem Vn (id d:Nat)(op:Op)(ty:TypeId)(pos:String)(after:Array Edge)(j:Nat)(want:Bool)(r:List Oper):dz P W0 n fz id ops (⟨some d,op,ty,pos,after,some (j,want)⟩::r) K A=(if fz.contains (2000000+d)then dz P W0 n fz id ops r K A else d<n/\(match tK ops j with
   |some e=>gdC (A.env e)/\dop P W0 fz (some (gdV want (A.env e))) (some d) A (λA'=>dz P W0 n fz id ops r K A') op
   |none=>False)):=by rw[dz];rfl
theorem Je (d:Nat):j0 n (some d)=(d<n):=rfl
theorem I2 :j0 n none=True:=rfl
attribute [go_sem] Je I2
@[go_sem] theorem YN (l:List Oper)(j:Nat):tK l.toArray j=(l[j]?).bind (·.dst):=by simp[tK]
theorem Pk (so:Option ab)(dst:Option Nat)(x:Operand):vop P W0 gd so dst A k (.move x)=(imp gd (opC P gd A (.move x))/\k (A.put dst (dw gd (opV P gd A (.move x))))):=propext acG
theorem Pf (dst:Option Nat)(x:Operand):op2 P W0 fz dst A k (.move x)=vop P W0 none (some A.st) dst A k (.move x):=propext acG
theorem Jx (so:Option ab)(dst:Option Nat)(x:Operand):vop P W0 gd so dst A k (.assign x)=(imp gd (opC P gd A (.assign x))/\k (A.put dst (dw gd (opV P gd A (.assign x))))):=propext acG
theorem IN (dst:Option Nat)(x:Operand):op2 P W0 fz dst A k (.assign x)=vop P W0 none (some A.st) dst A k (.assign x):=propext acG
theorem S8 (so:Option ab)(dst:Option Nat)(c x y:Operand):vop P W0 gd so dst A k (.pick c x y)=(imp gd (opC P gd A (.pick c x y))/\k (A.put dst (dw gd (opV P gd A (.pick c x y))))):=propext acG
theorem Q1 (dst:Option Nat)(c x y:Operand):op2 P W0 fz dst A k (.pick c x y)=vop P W0 none (some A.st) dst A k (.pick c x y):=propext acG
theorem LK (so:Option ab)(dst:Option Nat)(op:BinOp)(t t':TypeId)(x y:Operand):vop P W0 gd so dst A k (.binOp op t x y t')=(imp gd (opC P gd A (.binOp op t x y t'))/\k (A.put dst (dw gd (opV P gd A (.binOp op t x y t'))))):=propext acG
theorem LY (dst:Option Nat)(op:BinOp)(t t':TypeId)(x y:Operand):op2 P W0 fz dst A k (.binOp op t x y t')=vop P W0 none (some A.st) dst A k (.binOp op t x y t'):=propext acG
theorem Qi (so:Option ab)(dst:Option Nat)(op:UnOp)(t:TypeId)(x:Operand):vop P W0 gd so dst A k (.unOp op t x)=(imp gd (opC P gd A (.unOp op t x))/\k (A.put dst (dw gd (opV P gd A (.unOp op t x))))):=propext acG
theorem Tf (dst:Option Nat)(op:UnOp)(t:TypeId)(x:Operand):op2 P W0 fz dst A k (.unOp op t x)=vop P W0 none (some A.st) dst A k (.unOp op t x):=propext acG
theorem PJ (so:Option ab)(dst:Option Nat)(t:TypeId)(x:Operand):vop P W0 gd so dst A k (.load t x)=(imp gd (opC P gd A (.load t x))/\k (A.put dst (dw gd (opV P gd A (.load t x))))):=propext acG
theorem TN (dst:Option Nat)(t:TypeId)(x:Operand):op2 P W0 fz dst A k (.load t x)=vop P W0 none (some A.st) dst A k (.load t x):=propext acG
theorem zk (so:Option ab)(dst:Option Nat)(t:TypeId)(x:Operand)(i:Nat):vop P W0 gd so dst A k (.fieldAddr t x i)=(imp gd (opC P gd A (.fieldAddr t x i))/\k (A.put dst (dw gd (opV P gd A (.fieldAddr t x i))))):=propext acG
theorem ML (so:Option ab)(dst:Option Nat)(t:TypeId)(x:Operand)(i:Nat):vop P W0 gd so dst A k (.field t x i)=(imp gd (opC P gd A (.field t x i))/\k (A.put dst (dw gd (opV P gd A (.field t x i))))):=propext acG
theorem zn (dst:Option Nat)(t:TypeId)(x:Operand)(i:Nat):op2 P W0 fz dst A k (.fieldAddr t x i)=vop P W0 none (some A.st) dst A k (.fieldAddr t x i):=propext acG
theorem LU (dst:Option Nat)(t:TypeId)(x:Operand)(i:Nat):op2 P W0 fz dst A k (.field t x i)=vop P W0 none (some A.st) dst A k (.field t x i):=propext acG
theorem yF (so:Option ab)(dst:Option Nat)(t:TypeId)(x y:Operand):vop P W0 gd so dst A k (.indexAddr t x y)=(imp gd (opC P gd A (.indexAddr t x y))/\k (A.put dst (dw gd (opV P gd A (.indexAddr t x y))))):=propext acG
theorem zd (dst:Option Nat)(t:TypeId)(x y:Operand):op2 P W0 fz dst A k (.indexAddr t x y)=vop P W0 none (some A.st) dst A k (.indexAddr t x y):=propext acG
theorem MN (so:Option ab)(dst:Option Nat)(t:TypeId)(x y:Operand):vop P W0 gd so dst A k (.index t x y)=(imp gd (opC P gd A (.index t x y))/\k (A.put dst (dw gd (opV P gd A (.index t x y))))):=propext acG
theorem N5 (dst:Option Nat)(t:TypeId)(x y:Operand):op2 P W0 fz dst A k (.index t x y)=vop P W0 none (some A.st) dst A k (.index t x y):=propext acG
theorem FP (so:Option ab)(dst:Option Nat)(x:Operand)(i:Nat):vop P W0 gd so dst A k (.extract x i)=(imp gd (opC P gd A (.extract x i))/\k (A.put dst (dw gd (opV P gd A (.extract x i))))):=propext acG
theorem E8 (dst:Option Nat)(x:Operand)(i:Nat):op2 P W0 fz dst A k (.extract x i)=vop P W0 none (some A.st) dst A k (.extract x i):=propext acG
theorem Be (so:Option ab)(dst:Option Nat)(x:Operand):vop P W0 gd so dst A k (.nilCheck x)=(imp gd (opC P gd A (.nilCheck x))/\k (A.put dst (dw gd (opV P gd A (.nilCheck x))))):=propext acG
theorem B7 (dst:Option Nat)(x:Operand):op2 P W0 fz dst A k (.nilCheck x)=vop P W0 none (some A.st) dst A k (.nilCheck x):=propext acG
theorem DT (so:Option ab)(dst:Option Nat)(s d:TypeId)(x:Operand):vop P W0 gd so dst A k (.convert s d x)=(imp gd (opC P gd A (.convert s d x))/\k (A.put dst (dw gd (opV P gd A (.convert s d x))))):=propext acG
theorem Ff (dst:Option Nat)(s d:TypeId)(x:Operand):op2 P W0 fz dst A k (.convert s d x)=(if ovM fz dst then okM none (A.val x)/\lI P s d (unm (A.val x)) dst A k .mk else vop P W0 none (some A.st) dst A k (.convert s d x)):=propext acG
theorem vM (so:Option ab)(dst:Option Nat)(x:Operand)(xt d:TypeId)(ok:Bool):vop P W0 gd so dst A k (.typeAssert x xt d ok)=(imp gd (opC P gd A (.typeAssert x xt d ok))/\k (A.put dst (dw gd (opV P gd A (.typeAssert x xt d ok))))):=propext acG
theorem vT (dst:Option Nat)(x:Operand)(xt d:TypeId)(ok:Bool):op2 P W0 fz dst A k (.typeAssert x xt d ok)=vop P W0 none (some A.st) dst A k (.typeAssert x xt d ok):=propext acG
theorem rp (so:Option ab)(dst:Option Nat)(t:TypeId)(x:Operand):vop P W0 gd so dst A k (.makeInterface t x)=(imp gd (opC P gd A (.makeInterface t x))/\k (A.put dst (dw gd (opV P gd A (.makeInterface t x))))):=propext acG
theorem r6 (dst:Option Nat)(t:TypeId)(x:Operand):op2 P W0 fz dst A k (.makeInterface t x)=vop P W0 none (some A.st) dst A k (.makeInterface t x):=propext acG
theorem F6 (dst:Option Nat)(t:TypeId):op2 P W0 fz dst A k (.makeMap t none)=((nm P t).isSome=true/\k ((A.put dst (.mp A.st.length)).ay (A.st++[some (.mp ((nm P t).getD (0,0)).1 [])]))):=propext acG
theorem zy (dst:Option Nat)(t:TypeId)(x ix y:Operand):op2 P W0 fz dst A k (.mapUpdate t x ix y)=(okM none (A.val x)/\okM none (A.val ix)/\okM none (A.val y)/\IZ P t (unm (A.val x)) (unm (A.val ix)) (unm (A.val y)) A (λA'=>k (A'.put dst .undef)) .mk):=propext acG
theorem Gd (dst:Option Nat)(t:TypeId):eop P W0 fz dst A k (.makeMap t none)=op2 P W0 fz dst A k (.makeMap t none):=propext acG
theorem yz (dst:Option Nat)(t:TypeId)(x ix y:Operand):eop P W0 fz dst A k (.mapUpdate t x ix y)=op2 P W0 fz dst A k (.mapUpdate t x ix y):=propext acG
attribute [go_sem ↓] Pk Pf Jx IN S8 Q1 LK LY Qi Tf PJ TN zk ML zn LU yF zd MN N5 FP E8 Be B7 DT Ff vM vT rp r6 F6 zy Gd yz
@[go_sem ↓] theorem Zn (dst:Option Nat)(xs:List Operand)(ts:List TypeId):op2 P W0 fz dst A k (.call ⟨.builtin .clear,xs.toArray,ts.toArray⟩)=(e8 none A xs/\qj P ts (cT A xs) dst A k .mk):=by simp[op2]
theorem Ie (so:Option ab)(dst:Option Nat)(t:TypeId)(x ix:Operand):vop P W0 gd so dst A k (.lookup t x ix false)=(imp gd (opC P gd A (.lookup t x ix false))/\k (A.put dst (dw gd (opV P gd A (.lookup t x ix false))))):=propext acG
theorem HB (dst:Option Nat)(t:TypeId)(x ix:Operand):op2 P W0 fz dst A k (.lookup t x ix false)=vop P W0 none (some A.st) dst A k (.lookup t x ix false):=propext acG
theorem Ix (dst:Option Nat)(t:TypeId)(x ix:Operand):eop P W0 fz dst A k (.lookup t x ix false)=op2 P W0 fz dst A k (.lookup t x ix false):=propext acG
theorem JK (dst:Option Nat)(t:TypeId)(x ix:Operand):dop P W0 fz gd dst A k (.lookup t x ix false)=vop P W0 gd none dst A k (.lookup t x ix false):=propext acG
attribute [go_sem ↓] Ie HB Ix JK
theorem HG (t:TypeId)(x ix:Operand):opV P gd A (.lookup t x ix false)=TS P A.st t (unm (A.val ix)) (unm (A.val x)):=rfl
theorem JH (t:TypeId)(x ix:Operand):opC P gd A (.lookup t x ix false)=(okM gd (A.val x)/\okM gd (A.val ix)/\uh P gd A.st t (unm (A.val ix)) (unm (A.val x))):=rfl
attribute [go_sem] HG JH
theorem DN (so:Option ab)(dst:Option Nat)(t:TypeId)(x ix:Operand):vop P W0 gd so dst A k (.lookup t x ix true)=(imp gd (opC P gd A (.lookup t x ix true))/\k (A.put dst (dw gd (opV P gd A (.lookup t x ix true))))):=propext acG
theorem Fo (dst:Option Nat)(t:TypeId)(x ix:Operand):op2 P W0 fz dst A k (.lookup t x ix true)=vop P W0 none (some A.st) dst A k (.lookup t x ix true):=propext acG
theorem EI (dst:Option Nat)(t:TypeId)(x ix:Operand):eop P W0 fz dst A k (.lookup t x ix true)=op2 P W0 fz dst A k (.lookup t x ix true):=propext acG
theorem FH (dst:Option Nat)(t:TypeId)(x ix:Operand):dop P W0 fz gd dst A k (.lookup t x ix true)=vop P W0 gd none dst A k (.lookup t x ix true):=propext acG
attribute [go_sem ↓] DN Fo EI FH
theorem Eh (t:TypeId)(x ix:Operand):opV P gd A (.lookup t x ix true)=xx P A.st t (unm (A.val ix)) (unm (A.val x)):=rfl
theorem Fh (t:TypeId)(x ix:Operand):opC P gd A (.lookup t x ix true)=(okM gd (A.val x)/\okM gd (A.val ix)/\uh P gd A.st t (unm (A.val ix)) (unm (A.val x))):=rfl
theorem OD (t:TypeId)(lo hi:Option Operand)(e:TypeId)(id off m:Nat):Gn P A t lo hi none (.row e id off m)=(elT P t=some e/\0<af P e/\qB none A lo/\qB none A hi/\cW A 0 lo<=cW A m hi/\K6 A.st id (off+cW A m hi)):=propext acG
theorem LG (lo hi:Option Operand)(e:TypeId)(id off m:Nat):GW A lo hi none (.row e id off m)= .row e id (off+cW A 0 lo) (cW A m hi-cW A 0 lo):=rfl
theorem HD (lo hi:Option Operand)(z:Operand)(e:TypeId)(id off m:Nat):GW A lo hi (some z) (.row e id off m)= .undef:=rfl
attribute [go_sem] Eh Fh OD LG HD
theorem L9 (so:Option ab)(dst:Option Nat)(t:TypeId)(x:Operand)(lo hi mx:Option Operand):vop P W0 gd so dst A k (.slice t x lo hi mx)=(imp gd (opC P gd A (.slice t x lo hi mx))/\k (A.put dst (dw gd (opV P gd A (.slice t x lo hi mx))))):=propext acG
theorem M6 (dst:Option Nat)(t:TypeId)(x:Operand)(lo hi mx:Option Operand):op2 P W0 fz dst A k (.slice t x lo hi mx)=(if ovM fz dst then okM none (A.val x)/\Gn P A t lo hi mx (unm (A.val x))/\k (A.put dst (GW A lo hi mx (unm (A.val x))))else vop P W0 none (some A.st) dst A k (.slice t x lo hi mx)):=propext acG
theorem NH (so:Option ab)(dst:Option Nat)(t:TypeId)(ps:Array (Nat×Operand)):vop P W0 gd so dst A k (.build t ps)=(imp gd (opC P gd A (.build t ps))/\k (A.put dst (dw gd (opV P gd A (.build t ps))))):=propext acG
theorem Mc (dst:Option Nat)(t:TypeId)(ps:Array (Nat×Operand)):op2 P W0 fz dst A k (.build t ps)=vop P W0 none (some A.st) dst A k (.build t ps):=propext acG
theorem wR (so:Option ab)(dst:Option Nat)(t:TypeId)(m:Nat)(ps:Array (Nat×Operand)):vop P W0 gd so dst A k (.buildSlice t m ps)=(imp gd (opC P gd A (.buildSlice t m ps))/\k (A.put dst (dw gd (opV P gd A (.buildSlice t m ps))))):=propext acG
attribute [go_sem ↓] L9 M6 NH Mc wR
@[go_sem ↓] theorem RQ (dst:Option Nat)(t:TypeId)(m:Nat)(ps:List (Nat×Operand)):op2 P W0 fz dst A k (.buildSlice t m ps.toArray)=(if ovM fz dst then gL none A ps/\ga P t m (eB A ps)/\k ((A.put dst (.row ((elT P t).getD 0) A.st.length 0 m)).ay (A.st++[some (.cells ((elT P t).getD 0) ((eB A ps).map (·.2)))]))else vop P W0 none (some A.st) dst A k (.buildSlice t m ps.toArray)):=by simp[op2]
theorem Wv (so:Option ab)(dst:Option Nat)(t:TypeId)(x:Operand):vop P W0 gd so dst A k (.box t x)=(imp gd (opC P gd A (.box t x))/\k (A.put dst (dw gd (opV P gd A (.box t x))))):=propext acG
theorem Ch (so:Option ab)(dst:Option Nat)(f:FuncId)(first caps:Array Operand):vop P W0 gd so dst A k (.makeFunc (.func f) first caps)=(imp gd (opC P gd A (.makeFunc (.func f) first caps))/\k (A.put dst (dw gd (opV P gd A (.makeFunc (.func f) first caps))))):=propext acG
theorem Bp (dst:Option Nat)(f:FuncId)(first caps:Array Operand):op2 P W0 fz dst A k (.makeFunc (.func f) first caps)=vop P W0 none (some A.st) dst A k (.makeFunc (.func f) first caps):=propext acG
theorem Fv (so:Option ab)(dst:Option Nat)(b:Builtin)(xs:Array Operand)(ts:Array TypeId):vop P W0 gd so dst A k (.call ⟨.builtin b,xs,ts⟩)=(imp gd (opC P gd A (.call ⟨.builtin b,xs,ts⟩))/\k (A.put dst (dw gd (opV P gd A (.call ⟨.builtin b,xs,ts⟩))))):=propext acG
theorem Uj (dst:Option Nat)(xs:Array Operand)(ts:Array TypeId):op2 P W0 fz dst A k (.call ⟨.builtin .len,xs,ts⟩)=vop P W0 none (some A.st) dst A k (.call ⟨.builtin .len,xs,ts⟩):=propext acG
theorem Wf (dst:Option Nat)(xs:Array Operand)(ts:Array TypeId):op2 P W0 fz dst A k (.call ⟨.builtin .cap,xs,ts⟩)=vop P W0 none (some A.st) dst A k (.call ⟨.builtin .cap,xs,ts⟩):=propext acG
theorem VA (dst:Option Nat)(xs:Array Operand)(ts:Array TypeId):op2 P W0 fz dst A k (.call ⟨.builtin .max,xs,ts⟩)=vop P W0 none (some A.st) dst A k (.call ⟨.builtin .max,xs,ts⟩):=propext acG
theorem Vy (dst:Option Nat)(xs:Array Operand)(ts:Array TypeId):op2 P W0 fz dst A k (.call ⟨.builtin .min,xs,ts⟩)=vop P W0 none (some A.st) dst A k (.call ⟨.builtin .min,xs,ts⟩):=propext acG
attribute [go_sem ↓] Wv Ch Bp Fv Uj Wf VA Vy
@[go_sem ↓] theorem aby (so:Option ab)(dst:Option Nat)(f:Operand)(xs:List Operand)(ts:Array TypeId):vop P W0 gd so dst A k (.call ⟨.value f,xs.toArray,ts⟩)=(okM gd (A.val f)/\e8 gd A xs/\aD P W0 gd so (unm (A.val f)) (cT A xs) dst A k .mk):=by simp[vop]
@[go_sem ↓] theorem aaN (dst:Option Nat)(f:Operand)(xs:List Operand)(ts:Array TypeId):op2 P W0 fz dst A k (.call ⟨.value f,xs.toArray,ts⟩)=(okM none (A.val f)/\e8 none A xs/\aj P W0 (unm (A.val f)) (cT A xs) dst A k .mk):=by simp[op2]
@[go_sem ↓] theorem Yq (dst:Option Nat)(xs:List Operand)(ts:List TypeId):op2 P W0 fz dst A k (.call ⟨.builtin .append,xs.toArray,ts.toArray⟩)=(e8 none A xs/\bA P ts (cT A xs) dst A k .mk):=by simp[op2]
theorem VF (d:Nat)(t:TypeId)(x:Operand):op2 P W0 fz (some d) A k (.box t x)=if fz.contains d then vop P W0 none (some A.st) (some d) A k (.box t x)
   else(okM none (A.val x)/\bc P t (unm (A.val x))=true/\k ((A.upd d (.ptr t A.st.length 0 [])).ay (A.st++[some (.cells t [unm (A.val x)])]))):=rfl
theorem NF (dst:Option Nat)(t:TypeId):op2 P W0 fz dst A k (.alloc t)=((zeroOf P t).isSome=true/\k ((A.put dst (.ptr t A.st.length 0 [])).ay (A.st++[some (.cells t [(zeroOf P t).getD .undef])]))):=propext acG
theorem zA (dst:Option Nat)(t:TypeId)(x y:Operand):op2 P W0 fz dst A k (.makeSlice t x y)=(okM none (A.val x)/\okM none (A.val y)/\A4 P t (unm (A.val x)) (unm (A.val y)) dst A k .mk):=propext acG
theorem LH (dst:Option Nat)(t:TypeId)(x y:Operand):op2 P W0 fz dst A k (.store t x y)=(okM none (A.val x)/\okM none (A.val y)/\jV P fz t x (unm (A.val y)) A (λA'=>k (A'.put dst .undef)) .mk (unm (A.val x))):=propext acG
theorem HR (t t':TypeId)(d id i:Nat)(path:List Nat)(v:AV):jV P fz t (.tmp d) v A k .mk (.ptr t' id i path)=(t'=t/\bc P t v=true/\(look A.st id i path).isSome=true/\(if fz.contains d then path=[]/\k ((A.upd d (.loc t v)).ay (A.st.set id none))else k (A.ay (dY A.st id i path v)))):=propext acG
theorem L5 (dst:Option Nat)(t:TypeId)(x:Operand):op2 P W0 fz dst A k (.range t x)=(okM none (A.val x)/\ym P t dst A k (unm (A.val x))):=propext acG
theorem Pv (dst:Option Nat)(x:Operand):op2 P W0 fz dst A k (.next x true)=(okM none (A.val x)/\FA dst A k (unm (A.val x))):=propext acG
attribute [go_sem ↓] VF NF zA LH HR L5 Pv
theorem Iz (t:TypeId)(dst:Option Nat)(l:List UInt8):ym P t dst A k (.str l)=(bV P t=true/\k ((A.put dst (.it A.st.length)).ay (A.st++[some (.iter l 0)]))):=propext acG
theorem RS (dst:Option Nat)(id:Nat):FA dst A k (.it id)=Ee id dst A k A.st[id]?:=propext acG
theorem Jn (id:Nat)(dst:Option Nat)(l:List UInt8)(pos:Nat):Ee id dst A k (some (some (.iter l pos)))=((pos<l.length->k ((A.put dst (.tup [.bool true,.int .i64 pos,.int .i32 (iR l pos).1])).ay (A.st.set id (some (.iter l (pos+(iR l pos).2))))))/\(l.length<=pos->k (A.put dst (.tup [.bool false])))):=propext acG
attribute [go_sem] Iz RS Jn
theorem R0 (dst:Option Nat)(x:Operand):dop P W0 fz gd dst A k (.move x)=vop P W0 gd none dst A k (.move x):=propext acG
theorem G3 (dst:Option Nat)(x:Operand):dop P W0 fz gd dst A k (.assign x)=vop P W0 gd none dst A k (.assign x):=propext acG
theorem PH (dst:Option Nat)(c x y:Operand):dop P W0 fz gd dst A k (.pick c x y)=vop P W0 gd none dst A k (.pick c x y):=propext acG
theorem OC (dst:Option Nat)(op:BinOp)(t t':TypeId)(x y:Operand):dop P W0 fz gd dst A k (.binOp op t x y t')=vop P W0 gd none dst A k (.binOp op t x y t'):=propext acG
theorem TI (dst:Option Nat)(op:UnOp)(t:TypeId)(x:Operand):dop P W0 fz gd dst A k (.unOp op t x)=vop P W0 gd none dst A k (.unOp op t x):=propext acG
theorem RY (dst:Option Nat)(t:TypeId)(x:Operand):dop P W0 fz gd dst A k (.load t x)=(vA fz A x/\vop P W0 gd none dst A k (.load t x)):=propext acG
theorem yG (dst:Option Nat)(t:TypeId)(x:Operand)(i:Nat):dop P W0 fz gd dst A k (.fieldAddr t x i)=vop P W0 gd none dst A k (.fieldAddr t x i):=propext acG
theorem LA (dst:Option Nat)(t:TypeId)(x:Operand)(i:Nat):dop P W0 fz gd dst A k (.field t x i)=vop P W0 gd none dst A k (.field t x i):=propext acG
theorem yw (dst:Option Nat)(t:TypeId)(x y:Operand):dop P W0 fz gd dst A k (.indexAddr t x y)=vop P W0 gd none dst A k (.indexAddr t x y):=propext acG
theorem LQ (dst:Option Nat)(t:TypeId)(x y:Operand):dop P W0 fz gd dst A k (.index t x y)=vop P W0 gd none dst A k (.index t x y):=propext acG
theorem Gw (dst:Option Nat)(x:Operand)(i:Nat):dop P W0 fz gd dst A k (.extract x i)=vop P W0 gd none dst A k (.extract x i):=propext acG
theorem Dg (dst:Option Nat)(x:Operand):dop P W0 fz gd dst A k (.nilCheck x)=vop P W0 gd none dst A k (.nilCheck x):=propext acG
theorem GP (dst:Option Nat)(s d:TypeId)(x:Operand):dop P W0 fz gd dst A k (.convert s d x)=vop P W0 gd none dst A k (.convert s d x):=propext acG
theorem yd (dst:Option Nat)(x:Operand)(xt d:TypeId)(ok:Bool):dop P W0 fz gd dst A k (.typeAssert x xt d ok)=vop P W0 gd none dst A k (.typeAssert x xt d ok):=propext acG
theorem rz (dst:Option Nat)(t:TypeId)(x:Operand):dop P W0 fz gd dst A k (.makeInterface t x)=vop P W0 gd none dst A k (.makeInterface t x):=propext acG
theorem O7 (dst:Option Nat)(t:TypeId)(x:Operand)(lo hi mx:Option Operand):dop P W0 fz gd dst A k (.slice t x lo hi mx)=vop P W0 gd none dst A k (.slice t x lo hi mx):=propext acG
theorem Ni (dst:Option Nat)(t:TypeId)(ps:Array (Nat×Operand)):dop P W0 fz gd dst A k (.build t ps)=vop P W0 gd none dst A k (.build t ps):=propext acG
theorem xr (dst:Option Nat)(t:TypeId)(m:Nat)(ps:Array (Nat×Operand)):dop P W0 fz gd dst A k (.buildSlice t m ps)=vop P W0 gd none dst A k (.buildSlice t m ps):=propext acG
theorem Bo (dst:Option Nat)(f:FuncId)(first caps:Array Operand):dop P W0 fz gd dst A k (.makeFunc (.func f) first caps)=vop P W0 gd none dst A k (.makeFunc (.func f) first caps):=propext acG
theorem V1 (dst:Option Nat)(t:TypeId)(x:Operand):dop P W0 fz gd dst A k (.box t x)=vop P W0 gd none dst A k (.box t x):=propext acG
theorem P9 (dst:Option Nat)(c:Call):dop P W0 fz gd dst A k (.call c)=vop P W0 gd (if rdM fz dst then some A.st else none) dst A k (.call c):=propext acG
theorem M4 (dst:Option Nat)(t:TypeId)(x y:Operand):dop P W0 fz gd dst A k (.store t x y)=(gd=none/\okM none (A.val x)/\okM none (A.val y)/\jV P [] t x (unm (A.val y)) A (λA'=>k (A'.put dst .undef)) .mk (unm (A.val x))):=propext acG
attribute [go_sem ↓] R0 G3 PH OC TI RY yG LA yw LQ Gw Dg GP yd rz O7 Ni xr Bo V1 P9 M4
theorem TK (x:Operand):isW (.move x)=false:=rfl
theorem IB (x:Operand):isW (.assign x)=false:=rfl
theorem SD (x:Operand)(y:Operand)(z:Operand):isW (.pick x y z)=false:=rfl
theorem N8 (op:BinOp)(t:TypeId)(x:Operand)(y:Operand)(t':TypeId):isW (.binOp op t x y t')=false:=rfl
theorem QG (op:UnOp)(t:TypeId)(x:Operand):isW (.unOp op t x)=false:=rfl
theorem TW (t:TypeId)(x:Operand):isW (.load t x)=false:=rfl
theorem zh (t:TypeId)(x:Operand)(i:Nat):isW (.fieldAddr t x i)=false:=rfl
theorem L3 (t:TypeId)(x:Operand)(i:Nat):isW (.field t x i)=false:=rfl
theorem zr (t:TypeId)(x:Operand)(y:Operand):isW (.indexAddr t x y)=false:=rfl
theorem Mw (t:TypeId)(x:Operand)(y:Operand):isW (.index t x y)=false:=rfl
theorem DB (x:Operand)(i:Nat):isW (.extract x i)=false:=rfl
theorem BW (x:Operand):isW (.nilCheck x)=false:=rfl
theorem FE (t:TypeId)(t':TypeId)(x:Operand):isW (.convert t t' x)=false:=rfl
theorem vG (x:Operand)(xt d:TypeId)(ok:Bool):isW (.typeAssert x xt d ok)=false:=rfl
theorem rr (t:TypeId)(x:Operand):isW (.makeInterface t x)=false:=rfl
theorem OI (t:TypeId)(x:Operand)(lo:Option Operand)(hi:Option Operand)(mx:Option Operand):isW (.slice t x lo hi mx)=false:=rfl
theorem O5 (t:TypeId)(ps:Array (Nat×Operand)):isW (.build t ps)=false:=rfl
theorem yn (t:TypeId)(i:Nat)(ps:Array (Nat×Operand)):isW (.buildSlice t i ps)=false:=rfl
theorem UB (t:TypeId)(x:Operand):isW (.box t x)=false:=rfl
theorem BB (fn:Fn)(ps1:Array Operand)(ps2:Array Operand):isW (.makeFunc fn ps1 ps2)=false:=rfl
theorem Sa (c:Call):isW (.call c)=false:=rfl
attribute [go_sem] TK IB SD N8 QG TW zh L3 zr Mw DB BW FE vG rr OI O5 yn UB BB Sa
attribute [go_sem] List.contains_cons List.contains_nil
theorem Kf (x:Operand):opC P none A (.move x)=True:=rfl
theorem Jr (g:Bool)(x:Operand):opC P (some g) A (.move x)=okM (some g) (A.val x):=rfl
theorem JT (x:Operand):opV P none A (.move x)=A.val x:=rfl
theorem II (g:Bool)(x:Operand):opV P (some g) A (.move x)=unm (A.val x):=rfl
theorem Ct (x:Operand):opC P none A (.assign x)=True:=rfl
theorem CJ (g:Bool)(x:Operand):opC P (some g) A (.assign x)=okM (some g) (A.val x):=rfl
theorem CK (x:Operand):opV P none A (.assign x)=A.val x:=rfl
theorem Cw (g:Bool)(x:Operand):opV P (some g) A (.assign x)=unm (A.val x):=rfl
theorem Rf (c x y:Operand):opV P gd A (.pick c x y)=oJ (bl (unm (A.val c))) (unm (A.val x)) (unm (A.val y)):=rfl
theorem Q3 (c x y:Operand):opC P gd A (.pick c x y)=(okM gd (A.val c)/\En (unm (A.val c))/\ie gd (bl (unm (A.val c))) (A.val x)/\ie gd (!bl (unm (A.val c))) (A.val y)):=rfl
theorem OJ (op:BinOp)(t t':TypeId)(x y:Operand):opV P gd A (.binOp op t x y t')=cZ P op t (unm (A.val x)) (unm (A.val y)):=rfl
theorem Ms (op:BinOp)(t t':TypeId)(x y:Operand):opC P gd A (.binOp op t x y t')=(okM gd (A.val x)/\okM gd (A.val y)/\dd P op t (unm (A.val x)) (unm (A.val y))):=rfl
theorem Qf (op:UnOp)(t:TypeId)(x:Operand):opV P gd A (.unOp op t x)=unV op (unm (A.val x)):=rfl
theorem SJ (op:UnOp)(t:TypeId)(x:Operand):opC P gd A (.unOp op t x)=(okM gd (A.val x)/\unC op (unm (A.val x))):=rfl
theorem TB (t:TypeId)(x:Operand):opV P gd A (.load t x)=tM A.st (unm (A.val x)):=rfl
theorem Q7 (t:TypeId)(x:Operand):opC P gd A (.load t x)=(okM gd (A.val x)/\tX gd A.st t (unm (A.val x))):=rfl
theorem zm (s:TypeId)(x:Operand)(i:Nat):opV P gd A (.fieldAddr s x i)=qi P s i (unm (A.val x)):=rfl
theorem O8 (s:TypeId)(x:Operand)(i:Nat):opV P gd A (.field s x i)=fvV i (unm (A.val x)):=rfl
theorem VM (t:TypeId)(k:Nat)(fs:List AV):fvV k (.agg t fs)=fs[k]?.getD .undef:=rfl
theorem yK (s:TypeId)(x:Operand)(i:Nat):opC P gd A (.fieldAddr s x i)=(okM gd (A.val x)/\qc P s i (unm (A.val x))):=rfl
theorem NK (s:TypeId)(x:Operand)(i:Nat):opC P gd A (.field s x i)=(okM gd (A.val x)/\fvC P s i (unm (A.val x))):=rfl
theorem VR (s t:TypeId)(k:Nat)(fs:List AV):fvC P s k (.agg t fs)=(t=s/\bq P s=true/\(bt P s).isSome=true/\(((bt P s).getD [])[k]?).isSome=true/\fs[k]?.isSome=true):=rfl
theorem zi (t:TypeId)(x ix:Operand):opV P gd A (.indexAddr t x ix)=fc P t (iv (unm (A.val ix))) (unm (A.val x)):=rfl
theorem yY (t:TypeId)(x ix:Operand):opC P gd A (.indexAddr t x ix)=(okM gd (A.val x)/\okM gd (A.val ix)/\isI (unm (A.val ix))/\fj P gd A.st t (iv (unm (A.val ix))) (unm (A.val x))):=rfl
theorem Ma (t:TypeId)(x ix:Operand):opV P gd A (.index t x ix)=Cb (iv (unm (A.val ix))) (unm (A.val x)):=rfl
theorem Oa (t:TypeId)(x ix:Operand):opC P gd A (.index t x ix)=(okM gd (A.val x)/\okM gd (A.val ix)/\isI (unm (A.val ix))/\Bf P gd t (iv (unm (A.val ix))) (unm (A.val x))):=rfl
theorem EC (x:Operand)(i:Nat):opV P gd A (.extract x i)=rW i (unm (A.val x)):=rfl
theorem DE (x:Operand)(i:Nat):opC P gd A (.extract x i)=(okM gd (A.val x)/\r8 i (unm (A.val x))):=rfl
theorem BD (x:Operand):opV P gd A (.nilCheck x)=unm (A.val x):=rfl
theorem Cu (x:Operand):opC P gd A (.nilCheck x)=(okM gd (A.val x)/\(unm (A.val x)).ig=true):=rfl
theorem FM (s d:TypeId)(x:Operand):opV P gd A (.convert s d x)=jQ P d (unm (A.val x)):=rfl
theorem Fx (s d:TypeId)(x:Operand):opC P gd A (.convert s d x)=(okM gd (A.val x)/\jF P s d (unm (A.val x))):=rfl
theorem rD (t:TypeId)(x:Operand):opV P gd A (.makeInterface t x)= .iface t (unm (A.val x)):=rfl
theorem rh (t:TypeId)(x:Operand):opC P gd A (.makeInterface t x)=(okM gd (A.val x)/\oD P t=true/\(unm (A.val x)).bk=true):=rfl
theorem vJ (x:Operand)(xt d:TypeId)(ok:Bool):opV P gd A (.typeAssert x xt d ok)=lH P d ok (unm (A.val x)):=rfl
theorem xe (x:Operand)(xt d:TypeId)(ok:Bool):opC P gd A (.typeAssert x xt d ok)=(okM gd (A.val x)/\pA P d ok (unm (A.val x))):=rfl
attribute [go_sem] Kf Jr JT II Ct CJ CK Cw Rf Q3 OJ Ms Qf SJ TB Q7 zm O8 VM yK NK VR zi yY Ma Oa EC DE BD Cu FM Fx rD rh vJ xe
@[go_sem] theorem Ul (f:FuncId)(first:Array Operand)(caps:List Operand):opV P gd A (.makeFunc (.func f) first caps.toArray)= .fn f (cT A caps):=by simp[opV]
@[go_sem] theorem Vu (f:FuncId)(caps:List Operand):opC P gd A (.makeFunc (.func f) #[] caps.toArray)=(e8 gd A caps/\(cT A caps).all AV.bk=true):=by simp[opC]
@[go_sem] theorem ZN (t:TypeId)(x:Operand)(lo hi mx:Option Operand):opV P gd A (.slice t x lo hi mx)=lP A lo hi (unm (A.val x)):=rfl
@[go_sem] theorem ZL (t:TypeId)(x:Operand)(lo hi:Option Operand):opC P gd A (.slice t x lo hi none)=(okM gd (A.val x)/\kr P gd A t lo hi (unm (A.val x))):=by simp[opC]
@[go_sem] theorem Zm (t:TypeId)(ps:List (Nat×Operand)):opV P gd A (.build t ps.toArray)= .agg t (pZ (eB A ps) (cI P t)):=by simp[opV]
@[go_sem] theorem Zs (t:TypeId)(ps:List (Nat×Operand)):opC P gd A (.build t ps.toArray)=(gL gd A ps/\G9 P t (eB A ps)):=by simp[opC]
@[go_sem] theorem Rn (t:TypeId)(m:Nat)(ps:List (Nat×Operand)):opV P gd A (.buildSlice t m ps.toArray)= .lit ((elT P t).getD 0) ((eB A ps).map (·.2)):=by simp[opV]
@[go_sem] theorem RG (t:TypeId)(m:Nat)(ps:List (Nat×Operand)):opC P gd A (.buildSlice t m ps.toArray)=(gL gd A ps/\ga P t m (eB A ps)):=by simp[opC]
theorem Uy (t:TypeId)(x:Operand):opV P gd A (.box t x)= .loc t (unm (A.val x)):=rfl
theorem UM (t:TypeId)(x:Operand):opC P gd A (.box t x)=(okM gd (A.val x)/\bc P t (unm (A.val x))=true):=rfl
attribute [go_sem] Uy UM
@[go_sem] theorem WV (b:Builtin)(xs:List Operand)(ts:Array TypeId):opV P gd A (.call ⟨.builtin b,xs.toArray,ts⟩)=ju b (cT A xs):=by simp[opV]
@[go_sem] theorem W8 (b:Builtin)(xs:List Operand)(ts:List TypeId):opC P gd A (.call ⟨.builtin b,xs.toArray,ts.toArray⟩)=(e8 gd A xs/\kV P b ts (cT A xs)):=by simp[opC]
theorem IQ (c p q:Bool):oJ c (.bool p) (.bool q)= .bool (xC c p q):=rfl
theorem Oy (c:Bool)(k k':IntKind)(p q:Int):oJ c (.int k p) (.int k' q)=if c then .int k p else .int k' q:=rfl
theorem OW (c:Bool)(p q:List UInt8):oJ c (.str p) (.str q)=if c then .str p else .str q:=rfl
attribute [go_sem] IQ Oy OW
attribute [go_sem] Gb Jk
@[go_sem] theorem aab (t:TypeId)(k:IntKind)(a b:Int):cZ P .add t (.int k a) (.int k b)= .int k (k.wrap (a+b)):=by simp[cZ,dc,dB,iX]
@[go_sem] theorem aaI (t:TypeId)(k:IntKind)(a b:Int):dd P .add t (.int k a) (.int k b)=True:=by simp[dd,dc,dB,iX]
@[go_sem] theorem aaA (t:TypeId)(k:IntKind)(a b:Int):cZ P .sub t (.int k a) (.int k b)= .int k (k.wrap (a-b)):=by simp[cZ,dc,dB,iX]
@[go_sem] theorem Z7 (t:TypeId)(k:IntKind)(a b:Int):dd P .sub t (.int k a) (.int k b)=True:=by simp[dd,dc,dB,iX]
@[go_sem] theorem aa1 (t:TypeId)(k:IntKind)(a b:Int):cZ P .mul t (.int k a) (.int k b)= .int k (k.wrap (a*b)):=by simp[cZ,dc,dB,iX]
@[go_sem] theorem abh (t:TypeId)(k:IntKind)(a b:Int):dd P .mul t (.int k a) (.int k b)=True:=by simp[dd,dc,dB,iX]
@[go_sem] theorem abu (t:TypeId)(k:IntKind)(a b:Int):cZ P .eql t (.int k a) (.int k b)= .bool (a==b):=by simp[cZ,dc,dB,iX]
@[go_sem] theorem Z8 (t:TypeId)(k:IntKind)(a b:Int):dd P .eql t (.int k a) (.int k b)=True:=by simp[dd,dc,dB,iX]
@[go_sem] theorem aat (t:TypeId)(k:IntKind)(a b:Int):cZ P .neq t (.int k a) (.int k b)= .bool (a !=b):=by simp[cZ,dc,dB,iX]
@[go_sem] theorem aaP (t:TypeId)(k:IntKind)(a b:Int):dd P .neq t (.int k a) (.int k b)=True:=by simp[dd,dc,dB,iX]
@[go_sem] theorem aay (t:TypeId)(k:IntKind)(a b:Int):cZ P .lss t (.int k a) (.int k b)= .bool (decide (a<b)):=by simp[cZ,dc,dB,iX]
@[go_sem] theorem Z1 (t:TypeId)(k:IntKind)(a b:Int):dd P .lss t (.int k a) (.int k b)=True:=by simp[dd,dc,dB,iX]
@[go_sem] theorem aaw (t:TypeId)(k:IntKind)(a b:Int):cZ P .leq t (.int k a) (.int k b)= .bool (decide (a<=b)):=by simp[cZ,dc,dB,iX]
@[go_sem] theorem abv (t:TypeId)(k:IntKind)(a b:Int):dd P .leq t (.int k a) (.int k b)=True:=by simp[dd,dc,dB,iX]
@[go_sem] theorem aah (t:TypeId)(k:IntKind)(a b:Int):cZ P .gtr t (.int k a) (.int k b)= .bool (decide (b<a)):=by simp[cZ,dc,dB,iX]
@[go_sem] theorem aa5 (t:TypeId)(k:IntKind)(a b:Int):dd P .gtr t (.int k a) (.int k b)=True:=by simp[dd,dc,dB,iX]
@[go_sem] theorem aav (t:TypeId)(k:IntKind)(a b:Int):cZ P .geq t (.int k a) (.int k b)= .bool (decide (b<=a)):=by simp[cZ,dc,dB,iX]
@[go_sem] theorem aaM (t:TypeId)(k:IntKind)(a b:Int):dd P .geq t (.int k a) (.int k b)=True:=by simp[dd,dc,dB,iX]
@[go_sem] theorem abA (t:TypeId)(k:IntKind)(a b:Int):cZ P .and t (.int k a) (.int k b)= .int k (bits .and k a b):=by simp[cZ,dc,dB,iX]
@[go_sem] theorem aan (t:TypeId)(k:IntKind)(a b:Int):dd P .and t (.int k a) (.int k b)=True:=by simp[dd,dc,dB,iX]
@[go_sem] theorem abJ (t:TypeId)(k:IntKind)(a b:Int):cZ P .or t (.int k a) (.int k b)= .int k (bits .or k a b):=by simp[cZ,dc,dB,iX]
@[go_sem] theorem abH (t:TypeId)(k:IntKind)(a b:Int):dd P .or t (.int k a) (.int k b)=True:=by simp[dd,dc,dB,iX]
@[go_sem] theorem aaJ (t:TypeId)(k k':IntKind)(a b:Int):cZ P .shl t (.int k a) (.int k' b)=if b<0 then .undef else .int k (k.wrap (a*2^(min b.toNat k.bits))):=by grind [cZ,dc,vQ,iX]
@[go_sem] theorem aaX (t:TypeId)(k k':IntKind)(a b:Int):dd P .shl t (.int k a) (.int k' b)= ¬(b<0):=by simp[dd,dc,vQ,iX]
@[go_sem] theorem aao (t:TypeId)(k k':IntKind)(a b:Int):cZ P .shr t (.int k a) (.int k' b)=if b<0 then .undef else .int k (a.fdiv (2^(min b.toNat k.bits))):=by grind [cZ,dc,vQ,iX]
@[go_sem] theorem aa6 (t:TypeId)(k k':IntKind)(a b:Int):dd P .shr t (.int k a) (.int k' b)= ¬(b<0):=by simp[dd,dc,vQ,iX]
@[go_sem] theorem ZO (t:TypeId)(fs gs:List AV):cZ P .eql t (.agg t fs) (.agg t gs)=((kR P t fs gs).map AV.bool).getD .undef:=by simp[cZ,dc]
@[go_sem] theorem Zz (t:TypeId)(fs gs:List AV):dd P .eql t (.agg t fs) (.agg t gs)=((kR P t fs gs).isSome=true):=by simp[dd,dc]
@[go_sem] theorem Al (t:TypeId)(fs gs:List AV):cZ P .neq t (.agg t fs) (.agg t gs)=((kR P t fs gs).map λb=>AV.bool (!b)).getD .undef:=by simp[cZ,dc]
@[go_sem] theorem AD (t:TypeId)(fs gs:List AV):dd P .neq t (.agg t fs) (.agg t gs)=((kR P t fs gs).isSome=true):=by simp[dd,dc]
@[go_sem] theorem Zj (t:TypeId)(a b:List UInt8):cZ P .eql t (.str a) (.str b)= .bool (a==b):=by simp[cZ,dc,iw]
@[go_sem] theorem Zy (t:TypeId)(a b:List UInt8):dd P .eql t (.str a) (.str b)=True:=by simp[dd,dc,iw]
@[go_sem] theorem Zx (t:TypeId)(a b:List UInt8):cZ P .neq t (.str a) (.str b)= .bool (!(a==b)):=by simp[cZ,dc,iw]
@[go_sem] theorem ZW (t:TypeId)(a b:List UInt8):dd P .neq t (.str a) (.str b)=True:=by simp[dd,dc,iw]
@[go_sem] theorem Zw (t:TypeId)(a b:List UInt8):cZ P .lss t (.str a) (.str b)= .bool (Op.bytesLess a b):=by simp[cZ,dc,iw]
@[go_sem] theorem ZP (t:TypeId)(a b:List UInt8):dd P .lss t (.str a) (.str b)=True:=by simp[dd,dc,iw]
@[go_sem] theorem Zk (t:TypeId)(a b:List UInt8):cZ P .gtr t (.str a) (.str b)= .bool (!(Op.bytesLess a b||a==b)):=by simp[cZ,dc,iw]
@[go_sem] theorem ZR (t:TypeId)(a b:List UInt8):dd P .gtr t (.str a) (.str b)=True:=by simp[dd,dc,iw]
@[go_sem] theorem ZA (t:TypeId)(a b:List UInt8):cZ P .geq t (.str a) (.str b)= .bool (!Op.bytesLess a b):=by simp[cZ,dc,iw]
@[go_sem] theorem ZB (t:TypeId)(a b:List UInt8):dd P .geq t (.str a) (.str b)=True:=by simp[dd,dc,iw]
@[go_sem] theorem Xv (t:TypeId):cZ P .eql t .ar .ar=if (elT P t).isSome then .bool true else .undef:=by grind [cZ,dc,nF]
@[go_sem] theorem Y7 (t:TypeId):dd P .eql t .ar .ar=((elT P t).isSome=true):=by simp[dd,dc,nF]
@[go_sem] theorem YL (t e:TypeId)(x:AV)(xs:List AV):cZ P .eql t (.sl e (x::xs)) .ar=if (elT P t).isSome then .bool false else .undef:=by grind [cZ,dc,nF,AV.isFull]
@[go_sem] theorem Yj (t e:TypeId)(x:AV)(xs:List AV):dd P .eql t (.sl e (x::xs)) .ar=((elT P t).isSome=true):=by simp[dd,dc,nF,AV.isFull]
@[go_sem] theorem ZQ (t:TypeId)(a b:Bool):cZ P .eql t (.bool a) (.bool b)=if mR P t then .bool (a==b)else .undef:=by grind [cZ,dc,nF]
@[go_sem] theorem ZV (t:TypeId)(a b:Bool):dd P .eql t (.bool a) (.bool b)=(mR P t=true):=by simp[dd,dc,nF]
theorem Ww (b:Bool):unV .not (.bool b)= .bool (!b):=rfl
theorem WJ (b:Bool):unC .not (.bool b)=True:=rfl
theorem Wn (k:IntKind)(m:Int):unV .neg (.int k m)= .int k (k.wrap (-m)):=rfl
theorem UU (k:IntKind)(m:Int):unC .neg (.int k m)=True:=rfl
theorem O6 (t:TypeId)(v:AV):tM σ (.loc t v)=v:=rfl
theorem Me (t t':TypeId)(v:AV):tX gd σ t (.loc t' v)=(t'=t):=rfl
theorem MU (t:TypeId)(id i:Nat)(path:List Nat):tM σ (.ptr t id i path)=(look σ id i path).getD .undef:=rfl
theorem Nj (t t':TypeId)(id i:Nat)(path:List Nat):tX gd σ t (.ptr t' id i path)=(t'=t/\imp gd ((look σ id i path).isSome=true)):=rfl
theorem Ih (s t t':TypeId)(i:Nat)(fs:List AV):qi P s i (.loc t (.agg t' fs))= .loc ((((bt P s).getD [])[i]?).getD 0) (fs[i]?.getD .undef):=rfl
theorem Hb (s t t':TypeId)(i:Nat)(fs:List AV):qc P s i (.loc t (.agg t' fs))=(t=s/\t'=s/\bq P s=true/\(bt P s).isSome=true/\(((bt P s).getD [])[i]?).isSome=true/\fs[i]?.isSome=true):=rfl
theorem G7 (s t:TypeId)(j id i:Nat)(path:List Nat):qi P s j (.ptr t id i path)= .ptr ((((bt P s).getD [])[j]?).getD 0) id i (path++[j]):=rfl
theorem Ke (s t:TypeId)(j id i:Nat)(path:List Nat):qc P s j (.ptr t id i path)=(t=s/\bq P s=true/\(bt P s).isSome=true/\(((bt P s).getD [])[j]?).isSome=true):=rfl
theorem Np (ty:TypeId)(k:IntKind)(m:Int):bc P ty (.int k m)=ck P ty:=rfl
theorem L0 (k:IntKind)(m:Int):AV.bk (.int k m)=true:=rfl
theorem JG (ty:TypeId)(b:Bool):bc P ty (.bool b)=ck P ty:=rfl
theorem JS (b:Bool):AV.bk (.bool b)=true:=rfl
theorem LM (ty:TypeId)(l:List UInt8):bc P ty (.str l)=ck P ty:=rfl
theorem Ou (l:List UInt8):AV.bk (.str l)=true:=rfl
theorem NY (ty:TypeId)  :bc P ty .nil=ck P ty:=rfl
theorem Nq  :AV.bk .nil=true:=rfl
theorem Jy (ty:TypeId)  :bc P ty .ar=ck P ty:=rfl
theorem G8  :AV.bk .ar=true:=rfl
theorem PX (ty:TypeId)(e:TypeId)(xs:List AV):bc P ty (.sl e xs)=ck P ty:=rfl
theorem Rb (e:TypeId)(xs:List AV):AV.bk (.sl e xs)=true:=rfl
theorem MX (ty:TypeId)(e:TypeId)(xs:List AV):bc P ty (.lit e xs)=ck P ty:=rfl
theorem LI (e:TypeId)(xs:List AV):AV.bk (.lit e xs)=true:=rfl
theorem M3 (ty:TypeId)(e:TypeId)(xs:List AV)(tok:Nat):bc P ty (.own e xs tok)=ck P ty:=rfl
theorem NU (e:TypeId)(xs:List AV)(tok:Nat):AV.bk (.own e xs tok)=true:=rfl
theorem T0 (ty:TypeId)(id:Nat):bc P ty (.mp id)=ck P ty:=rfl
theorem Ps (id:Nat):AV.bk (.mp id)=true:=rfl
theorem Ca (ty:TypeId):bc P ty .df=ck P ty:=rfl
theorem I8 (ty:TypeId):bc P ty .kd=ck P ty:=rfl
theorem CP :AV.bk .df=true:=rfl
theorem JC :AV.bk .kd=true:=rfl
theorem D8 (ty t:TypeId)(v:AV):bc P ty (.iface t v)=ck P ty:=rfl
theorem DS (t:TypeId)(v:AV):AV.bk (.iface t v)=true:=rfl
theorem yM (t d:TypeId)(ok:Bool)(v:AV):lH P d ok (.iface t v)=if t=d then(if ok=true then .tup [v,.bool true]else v)else .tup [iO P d,.bool false]:=rfl
theorem xU (d:TypeId)(ok:Bool):lH P d ok .df= .tup [iO P d,.bool false]:=rfl
theorem yU (t d:TypeId)(ok:Bool)(v:AV):pA P d ok (.iface t v)=(oD P d=true/\(t=d\/(ok=true/\OG P d=true))):=rfl
theorem vp (d:TypeId)(ok:Bool):pA P d ok .df=(oD P d=true/\ok=true/\OG P d=true):=rfl
theorem OY (ty:TypeId)(e:TypeId)(id off m:Nat):bc P ty (.row e id off m)=ck P ty:=rfl
theorem Ox (e:TypeId)(id off m:Nat):AV.bk (.row e id off m)=true:=rfl
theorem MV (t t':TypeId)(fs:List AV):bc P t (.agg t' fs)=(t'==t&&(bt P t).isSome):=rfl
theorem Ol (t:TypeId)(fs:List AV):AV.bk (.agg t fs)=false:=rfl
theorem NO (ty:TypeId)(t:TypeId)(v:AV):bc P ty (.loc t v)=ck P ty:=rfl
theorem Of (t:TypeId)(v:AV):AV.bk (.loc t v)=true:=rfl
theorem M0 (ty:TypeId)(t:TypeId)(id i:Nat)(path:List Nat):bc P ty (.ptr t id i path)=ck P ty:=rfl
theorem OK (t:TypeId)(id i:Nat)(path:List Nat):AV.bk (.ptr t id i path)=true:=rfl
theorem Sb (ty:TypeId)(id:Nat):bc P ty (.it id)=ck P ty:=rfl
theorem QR (id:Nat):AV.bk (.it id)=true:=rfl
theorem Rp (id:Nat):AV.bk (.yl id)=true:=rfl
theorem Px (ty:TypeId)(f:FuncId)(caps:List AV):bc P ty (.fn f caps)=ck P ty:=rfl
theorem Tv (f:FuncId)(caps:List AV):AV.bk (.fn f caps)=true:=rfl
theorem Tw (l:List UInt8):oA (.str l)= .int .i64 l.length:=rfl
theorem Qc (P:Program)(t:TypeId)(l:List UInt8):fR P t (.str l)=(bV P t=true):=rfl
theorem Vf (e:TypeId)(xs:List AV):oA (.sl e xs)= .int .i64 xs.length:=rfl
theorem UO (P:Program)(t:TypeId)(e:TypeId)(xs:List AV):fR P t (.sl e xs)=((elT P t).isSome=true):=rfl
theorem SB (e:TypeId)(xs:List AV):oA (.lit e xs)= .int .i64 xs.length:=rfl
theorem SI (P:Program)(t:TypeId)(e:TypeId)(xs:List AV):fR P t (.lit e xs)=((elT P t).isSome=true):=rfl
theorem Su (e:TypeId)(xs:List AV)(tok:Nat):oA (.own e xs tok)= .int .i64 xs.length:=rfl
theorem SY (P:Program)(t:TypeId)(e:TypeId)(xs:List AV)(tok:Nat):fR P t (.own e xs tok)=((elT P t).isSome=true):=rfl
theorem NA  :oA (.ar)= .int .i64 0:=rfl
theorem Mi (P:Program)(t:TypeId)  :fR P t (.ar)=((elT P t).isSome=true):=rfl
theorem P1 (e:TypeId)(id off n:Nat):oA (.row e id off n)= .int .i64 n:=rfl
theorem QS (P:Program)(t:TypeId)(e:TypeId)(id off n:Nat):fR P t (.row e id off n)=((elT P t).isSome=true):=rfl
theorem xG (t t':TypeId)(i:Int)(id j:Nat)(path:List Nat):fc P t i (.ptr t' id j path)= .ptr ((jd P t).getD 0) id j (path++[i.toNat]):=rfl
theorem vZ (t t' t'':TypeId)(i:Int)(fs:List AV):fc P t i (.loc t' (.agg t'' fs))= .loc ((jd P t).getD 0) (fs[i.toNat]?.getD .undef):=rfl
theorem wP (t e:TypeId)(i:Int)(id off m:Nat):fc P t i (.row e id off m)= .ptr e id (off+i.toNat) []:=rfl
theorem zE (t e:TypeId)(i:Int)(xs:List AV):fc P t i (.sl e xs)= .loc e (atV xs i):=rfl
theorem yk (t e:TypeId)(i:Int)(xs:List AV):fc P t i (.lit e xs)= .loc e (atV xs i):=rfl
theorem wk (t e:TypeId)(i:Int)(xs:List AV)(k:Nat):fc P t i (.own e xs k)= .loc e (atV xs i):=rfl
theorem wV (σ:ab)(t t':TypeId)(i:Int)(id j:Nat)(path:List Nat):fj P gd σ t i (.ptr t' id j path)=(t'=t/\(jd P t).isSome=true/\(bt P t).isSome=true/\imp gd (0<=i/\i.toNat<((bt P t).getD []).length)):=rfl
theorem wQ (σ:ab)(t t' t'':TypeId)(i:Int)(fs:List AV):fj P gd σ t i (.loc t' (.agg t'' fs))=(t'=t/\t''=t/\(jd P t).isSome=true/\(bt P t).isSome=true/\imp gd (0<=i/\i.toNat<fs.length)):=rfl
theorem wq (σ:ab)(t e:TypeId)(i:Int)(id off m:Nat):fj P gd σ t i (.row e id off m)=(elT P t=some e/\0<af P e/\imp gd (0<=i/\i.toNat<m)/\live σ id):=rfl
theorem zv (σ:ab)(t e:TypeId)(i:Int)(xs:List AV):fj P gd σ t i (.sl e xs)=(elT P t=some e/\0<af P e/\imp gd (0<=i/\i.toNat<xs.length)):=rfl
theorem xi (σ:ab)(t e:TypeId)(i:Int)(xs:List AV):fj P gd σ t i (.lit e xs)=(elT P t=some e/\0<af P e/\imp gd (0<=i/\i.toNat<xs.length)):=rfl
theorem vS (σ:ab)(t e:TypeId)(i:Int)(xs:List AV)(k:Nat):fj P gd σ t i (.own e xs k)=(elT P t=some e/\0<af P e/\imp gd (0<=i/\i.toNat<xs.length)):=rfl
theorem JP (A:aa)(lo hi:Option Operand)(e:TypeId)(id off m:Nat):lP A lo hi (.row e id off m)= .row e id (off+cW A 0 lo) (cW A m hi-cW A 0 lo):=rfl
theorem Em (A:aa)(lo hi:Option Operand):lP A lo hi .ar= .ar:=rfl
theorem Iq (A:aa)(lo hi:Option Operand)(l:List UInt8):lP A lo hi (.str l)= .str (iK l (cW A 0 lo) (cW A l.length hi)):=rfl
theorem NZ (A:aa)(lo hi:Option Operand)(e:TypeId)(xs:List AV):lP A lo hi (.sl e xs)= .sl e (iK xs (cW A 0 lo) (cW A xs.length hi)):=rfl
theorem IP (A:aa)(lo hi:Option Operand)(e:TypeId)(xs:List AV):lP A lo hi (.lit e xs)= .sl e (iK xs (cW A 0 lo) (cW A xs.length hi)):=rfl
theorem H6 (A:aa)(lo hi:Option Operand)(e:TypeId)(xs:List AV)(k:Nat):lP A lo hi (.own e xs k)= .sl e (iK xs (cW A 0 lo) (cW A xs.length hi)):=rfl
theorem wJ (A:aa)(t:TypeId)(lo hi:Option Operand)(e:TypeId)(id off m:Nat):kr P gd A t lo hi (.row e id off m)=(elT P t=some e/\0<af P e/\om gd A lo hi m):=rfl
theorem tS (A:aa)(t:TypeId)(lo hi:Option Operand):kr P gd A t lo hi .ar=((elT P t).isSome=true/\0<af P ((elT P t).getD 0)/\qB gd A lo/\qB gd A hi/\imp gd (cW A 0 lo=0/\cW A 0 hi=0)):=rfl
theorem I5 (A:aa)(t:TypeId)(lo hi:Option Operand)(l:List UInt8):kr P gd A t lo hi (.str l)=(bV P t=true/\om gd A lo hi l.length):=rfl
theorem LL (A:aa)(t:TypeId)(lo hi:Option Operand)(e:TypeId)(xs:List AV):kr P gd A t lo hi (.sl e xs)=(elT P t=some e/\0<af P e/\om gd A lo hi xs.length):=rfl
theorem I3 (A:aa)(t:TypeId)(lo hi:Option Operand)(e:TypeId)(xs:List AV):kr P gd A t lo hi (.lit e xs)=(elT P t=some e/\0<af P e/\om gd A lo hi xs.length):=rfl
theorem Kh (A:aa)(t:TypeId)(lo hi:Option Operand)(e:TypeId)(xs:List AV)(k:Nat):kr P gd A t lo hi (.own e xs k)=(elT P t=some e/\0<af P e/\om gd A lo hi xs.length):=rfl
attribute [go_sem] Ww WJ Wn UU O6 Me MU Nj Ih Hb G7 Ke Np L0 JG JS LM Ou NY Nq Jy G8 PX Rb MX LI M3 NU T0 Ps Ca I8 CP JC D8 DS yM xU yU vp OY Ox MV Ol NO Of M0 OK Sb QR Rp Px Tv Tw Qc Vf UO SB SI Su SY NA Mi P1 QS xG vZ wP zE yk wk wV wQ wq zv xi vS JP Em Iq NZ IP H6 wJ tS I5 LL I3 Kh
attribute [go_sem] beq_self_eq_true Bool.not_true Bool.not_false om cW qB ga G9 AV.ig o9 js List.all_cons List.all_nil List.map_cons List.map_nil
theorem G6 (i:Int)(l:List UInt8):Cb i (.str l)= .int .u8 (l[i.toNat]?.getD 0).toNat:=rfl
theorem Hp (t:TypeId)(i:Int)(l:List UInt8):Bf P gd t i (.str l)=(bV P t=true/\imp gd (0<=i/\i.toNat<l.length)):=rfl
theorem HO (i:Int)(t:TypeId)(fs:List AV):Cb i (.agg t fs)=fs[i.toNat]?.getD .undef:=rfl
theorem Hy (t t':TypeId)(i:Int)(fs:List AV):Bf P gd t i (.agg t' fs)=(t'=t/\(jd P t).isSome=true/\(bt P t).isSome=true/\imp gd (0<=i/\i.toNat<fs.length)):=rfl
theorem Bt (i:Nat)(as:List AV):rW i (.tup as)=as[i]?.getD .undef:=rfl
theorem BX (i:Nat)(as:List AV):r8 i (.tup as)=(as[i]?.isSome=true):=rfl
theorem Dt (d:TypeId)(k:IntKind)(m:Int):jQ P d (.int k m)=match fZ P d with|some k'=>.int k' (k'.wrap m)|none=>.str (GC m):=rfl
theorem Dh (d:TypeId)(l:List UInt8):jQ P d (.str l)= .str l:=rfl
theorem C5 (d e:TypeId)(xs:List AV):jQ P d (.lit e xs)= .str (xs.map kA):=rfl
theorem Fm (d e:TypeId)(xs:List AV):jQ P d (.sl e xs)= .str (xs.map kA):=rfl
theorem CV (d e:TypeId)(xs:List AV)(i:Nat):jQ P d (.own e xs i)= .str (xs.map kA):=rfl
theorem CZ (s d e:TypeId)(xs:List AV):jF P s d (.lit e xs)=(elT P s=some e/\fZ P e=some .u8/\af P e=1/\bV P d=true/\jo xs):=rfl
theorem Es (s d e:TypeId)(xs:List AV):jF P s d (.sl e xs)=(elT P s=some e/\fZ P e=some .u8/\af P e=1/\bV P d=true/\jo xs):=rfl
theorem Cq (s d e:TypeId)(xs:List AV)(i:Nat):jF P s d (.own e xs i)=(elT P s=some e/\fZ P e=some .u8/\af P e=1/\bV P d=true/\jo xs):=rfl
theorem JU (k:IntKind)(n:Int):kA (.int k n)=UInt8.ofNat n.toNat:=rfl
theorem Fp :jo []=True:=rfl
theorem CT (x:AV)(r:List AV):jo (x::r)=(isByte x/\jo r):=rfl
theorem JN (k:IntKind)(n:Int):isByte (.int k n)=(k= .u8/\0<=n/\n<256):=rfl
theorem BV (s d:TypeId)(l:List UInt8):jF P s d (.str l)=(bV P s=true/\bV P d=true):=rfl
theorem Bh (s d:TypeId)(k:IntKind)(m:Int):jF P s d (.int k m)=((fZ P s).isSome=true/\((fZ P d).isSome||bV P d)=true):=rfl
attribute [go_sem] G6 Hp HO Hy Bt BX Dt Dh C5 Fm CV CZ Es Cq JU Fp CT JN BV Bh
attribute [go_sem] Option.isSome_none
theorem BG (u:AV):ju .len [u]=oA u:=rfl
theorem Da (t:TypeId)(u:AV):kV P .len [t] [u]=fR P t u:=rfl
theorem BK (u:AV):ju .cap [u]= .int .i64 0:=rfl
theorem BF (t:TypeId):kV P .cap [t] [.ar]=((elT P t).isSome=true):=rfl
theorem BC (k k':IntKind)(p q:Int):ju .max [.int k p,.int k' q]= .int k (GV p q):=rfl
theorem Db (ts:List TypeId)(k k':IntKind)(p q:Int):kV P .max ts [.int k p,.int k' q]=(k'=k):=rfl
theorem CC (k k':IntKind)(p q:Int):ju .min [.int k p,.int k' q]= .int k (uy p q):=rfl
theorem CB (ts:List TypeId)(k k':IntKind)(p q:Int):kV P .min ts [.int k p,.int k' q]=(k'=k):=rfl
theorem Qk (ts:List Nat)(r:AV):Xy ts r σ .ret A=(dq (js A.env ts) r/\A.st.take σ.length=σ):=rfl
theorem FR (ts:List Nat)(r:AV):Xy ts r σ .normal A=(dq (js A.env ts) r/\A.st.take σ.length=σ):=rfl
attribute [go_sem] BG Da BK BF BC Db CC CB Qk FR
theorem Wg (i:Nat):(0<=(i:Int))=True:=eq_true (Int.natCast_nonneg i)
theorem Xu (a b:UInt8):(a.toNat=b.toNat)=(a=b):=propext UInt8.toNat_inj
theorem UL (a b:Nat):((a:Int)<(b:Int))=(a<b):=propext Int.ofNat_lt
theorem Va (a b:Nat):((a:Int)<=(b:Int))=(a<=b):=propext Int.ofNat_le
theorem cast_eq (a b:Nat):((a:Int)=(b:Int))=(a=b):=propext Int.ofNat_inj
attribute [go_sem] Wg Xu UL Va cast_eq Int.toNat_natCast decide_eq_true_eq decide_eq_false_iff_not beq_iff_eq beq_eq_false_iff_ne bne_iff_ne bne_eq_false_iff_eq ne_eq Nat.not_lt Nat.not_le Bool.not_eq_true' Bool.not_eq_false'
attribute [go_sem] List.take_length imp_self implies_true and_imp forall_self_imp false_implies Bool.false_eq_true
@[go_sem] theorem Zt (x:AV):dq x x=True:=eq_true (.refl x)
end
end Go.Av
end
