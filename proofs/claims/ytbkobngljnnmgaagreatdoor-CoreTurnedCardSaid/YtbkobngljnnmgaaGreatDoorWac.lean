/- What the last text of this claim rests on. No conditions. -/
import Derived.Attr
import Derived.Test.YtbkobngljnnmgaaGreatDoorWab
set_option linter.unusedSimpArgs false
set_option linter.unusedVariables false
open Iff renaming rfl->ab4
section
namespace Go.Av
open Go
section
variable {P :Program}{W0:World}{σ:ab}{n:Nat}{A:aa}{gd:Option Bool}{fz:List Nat}{Q:Exit->aa->Prop}{K k:aa->Prop}{ops:Array Oper}
theorem LW  :unm .undef= .undef:=rfl
theorem K6  :okM gd .undef=True:=rfl
theorem Jb  (q:Bool):iC gd q .undef=True:=rfl
theorem UW (k:IntKind)(m:Int):unm (.int k m)=(.int k m):=rfl
theorem TW (k:IntKind)(m:Int):okM gd (.int k m)=True:=rfl
theorem OK (k:IntKind)(m:Int)(q:Bool):iC gd q (.int k m)=True:=rfl
theorem St (b:Bool):unm (.bool b)=(.bool b):=rfl
theorem PK (b:Bool):okM gd (.bool b)=True:=rfl
theorem MN (b:Bool)(q:Bool):iC gd q (.bool b)=True:=rfl
theorem UE (l:List UInt8):unm (.str l)=(.str l):=rfl
theorem U6 (l:List UInt8):okM gd (.str l)=True:=rfl
theorem QB (l:List UInt8)(q:Bool):iC gd q (.str l)=True:=rfl
theorem VP  :unm .nil= .nil:=rfl
theorem Up  :okM gd .nil=True:=rfl
theorem RO  (q:Bool):iC gd q .nil=True:=rfl
theorem PF  :unm .ar= .ar:=rfl
theorem RT  :okM gd .ar=True:=rfl
theorem M5  (q:Bool):iC gd q .ar=True:=rfl
theorem WT (e:TypeId)(xs:List AV):unm (.sl e xs)=(.sl e xs):=rfl
theorem XC (e:TypeId)(xs:List AV):okM gd (.sl e xs)=True:=rfl
theorem U4 (e:TypeId)(xs:List AV)(q:Bool):iC gd q (.sl e xs)=True:=rfl
theorem UY (e:TypeId)(xs:List AV):unm (.lit e xs)=(.lit e xs):=rfl
theorem T5 (e:TypeId)(xs:List AV):okM gd (.lit e xs)=True:=rfl
theorem OM (e:TypeId)(xs:List AV)(q:Bool):iC gd q (.lit e xs)=True:=rfl
theorem TS (e:TypeId)(xs:List AV)(tok:Nat):unm (.own e xs tok)=(.own e xs tok):=rfl
theorem TH (e:TypeId)(xs:List AV)(tok:Nat):okM gd (.own e xs tok)=True:=rfl
theorem Ra (e:TypeId)(xs:List AV)(tok:Nat)(q:Bool):iC gd q (.own e xs tok)=True:=rfl
theorem QJ :unm .kV= .kV:=rfl
theorem RU :okM gd .kV=True:=rfl
theorem WX (id:Nat):unm (.mp id)=(.mp id):=rfl
theorem Yh (id:Nat):okM gd (.mp id)=True:=rfl
theorem VZ (id:Nat)(q:Bool):iC gd q (.mp id)=True:=rfl
theorem Ii :unm .da= .da:=rfl
theorem SF :unm .j4= .j4:=rfl
theorem Hj :okM gd .da=True:=rfl
theorem Pj :okM gd .j4=True:=rfl
theorem E4 (q:Bool):iC gd q .da=True:=rfl
theorem MT (q:Bool):iC gd q .j4=True:=rfl
theorem Ns (t:TypeId)(v:AV):unm (.iface t v)= .iface t v:=rfl
theorem Nd (t:TypeId)(v:AV):okM gd (.iface t v)=True:=rfl
theorem Ih (t:TypeId)(v:AV)(q:Bool):iC gd q (.iface t v)=True:=rfl
theorem V1 (e:TypeId)(id off m:Nat):unm (.row e id off m)=(.row e id off m):=rfl
theorem UQ (e:TypeId)(id off m:Nat):okM gd (.row e id off m)=True:=rfl
theorem Pc (e:TypeId)(id off m:Nat)(q:Bool):iC gd q (.row e id off m)=True:=rfl
theorem Uf (t:TypeId)(fs:List AV):unm (.agg t fs)=(.agg t fs):=rfl
theorem Ud (t:TypeId)(fs:List AV):okM gd (.agg t fs)=True:=rfl
theorem OR (t:TypeId)(fs:List AV)(q:Bool):iC gd q (.agg t fs)=True:=rfl
theorem UC (t:TypeId)(v:AV):unm (.loc t v)=(.loc t v):=rfl
theorem U7 (t:TypeId)(v:AV):okM gd (.loc t v)=True:=rfl
theorem SP (t:TypeId)(v:AV)(q:Bool):iC gd q (.loc t v)=True:=rfl
theorem Uk (t:TypeId)(id i:Nat)(path:List Nat):unm (.ptr t id i path)=(.ptr t id i path):=rfl
theorem UB (t:TypeId)(id i:Nat)(path:List Nat):okM gd (.ptr t id i path)=True:=rfl
theorem Tl (t:TypeId)(id i:Nat)(path:List Nat)(q:Bool):iC gd q (.ptr t id i path)=True:=rfl
theorem XG (id:Nat):unm (.it id)=(.it id):=rfl
theorem XK (id:Nat):unm (.yl id)=(.yl id):=rfl
theorem Yt (id:Nat):okM gd (.it id)=True:=rfl
theorem XW (id:Nat):okM gd (.yl id)=True:=rfl
theorem Vf (id:Nat)(q:Bool):iC gd q (.it id)=True:=rfl
theorem Vh (id:Nat)(q:Bool):iC gd q (.yl id)=True:=rfl
theorem Yk (f:FuncId)(caps:List AV):unm (.fn f caps)=(.fn f caps):=rfl
theorem Xk (f:FuncId)(caps:List AV):okM gd (.fn f caps)=True:=rfl
theorem TK (f:FuncId)(caps:List AV)(q:Bool):iC gd q (.fn f caps)=True:=rfl
theorem VU (vs:List AV):unm (.tup vs)=(.tup vs):=rfl
theorem T9 (vs:List AV):okM gd (.tup vs)=True:=rfl
theorem Sr (vs:List AV)(q:Bool):iC gd q (.tup vs)=True:=rfl
theorem N9 (g:Bool)(v:AV):unm (.maybe g v)=v:=rfl
attribute [go_sem] LW K6 Jb UW TW OK St PK MN UE U6 QB VP Up RO PF RT M5 WT XC U4 UY T5 OM TS TH Ra QJ RU WX Yh VZ Ii SF Hj Pj E4 MT Ns Nd Ih V1 UQ Pc Uf Ud OR UC U7 SP Uk UB Tl XG XK Yt XW Vf Vh Yk Xk TK VU T9 Sr N9
def K8 (g h:Bool):Prop:=g=true->h=true
@[go_sem] theorem YY (g:Bool):K8 g g=True:=eq_true id
@[go_sem] theorem Zg (g:Bool):K8 g true=True:=eq_true λ_=>rfl
theorem De (g:Bool)(v:AV):okM none (.maybe g v)=(g=true):=rfl
theorem Gb (G g:Bool)(v:AV):okM (some G) (.maybe g v)=K8 G g:=rfl
theorem A0 (g b:Bool)(v:AV):iC none b (.maybe g v)=K8 b g:=rfl
attribute [go_sem] De Gb A0
@[go_sem] theorem UP (G g b:Bool)(v:AV):iC (some G) b (.maybe g v)=K8 (G&&b) g:=by simp[iC,imp,K8]
theorem Rk (p:Prop):imp none p=p:=rfl
theorem PL (g:Bool)(p:Prop):imp (some g) p=(g=true->p):=rfl
theorem Ln (b:Bool):Em (.bool b)=True:=rfl
theorem Vs (b:Bool):bl (.bool b)=b:=rfl
theorem Ue (k:IntKind)(m:Int):isI (.int k m)=True:=rfl
theorem XF (k:IntKind)(m:Int):iv (.int k m)=m:=rfl
theorem Re (b:Bool):gdC (.bool b)=True:=rfl
attribute [go_sem] Rk PL Ln Vs Ue XF Re
@[go_sem ↓] theorem RP (p:Prop):imp (some false) p=True:=eq_true λh=>(Bool.false_ne_true h).elim
@[go_sem] theorem We (v:AV):gdC (.maybe false v)=True:=by cases v<;>simp[gdC]
@[go_sem] theorem TY (want:Bool)(v:AV):gdV want (.maybe false v)=false:=by cases v<;>simp[gdV]
@[go_sem] theorem Y1 (g b:Bool):gdC (.maybe g (.bool b))=True:=rfl
@[go_sem] theorem Yq (b:Bool):gdV true (.bool b)=b:=by cases b<;>rfl
@[go_sem] theorem Yj (b:Bool):gdV false (.bool b)= !b:=by cases b<;>rfl
@[go_sem] theorem Wm (g b:Bool):gdV true (.maybe g (.bool b))=(g&&b):=by cases g<;>cases b<;>rfl
@[go_sem] theorem Wp (g b:Bool):gdV false (.maybe g (.bool b))=(g&& !b):=by cases g<;>cases b<;>rfl
theorem I9 (v:AV):di none v=v:=rfl
theorem GV (g:Bool)(v:AV):di (some g) v= .maybe g v:=rfl
theorem V9 (d i:Nat)(v:AV):(A.upd d v).env i=if i=d then v else A.env i:=rfl
theorem X4 (d:Nat)(v:AV):(A.upd d v).st=A.st:=rfl
theorem Yc (d:Nat)(v:AV):A.put (some d) v=A.upd d v:=rfl
theorem Yf (v:AV):A.put none v=A:=rfl
theorem I2 (s:ab)(i:Nat):(A.ax s).env i=A.env i:=rfl
theorem Ms (s:ab):(A.ax s).st=s:=rfl
theorem AR (B:aa)(i:Nat):(keep [] A B).env i=B.env i:=rfl
attribute [go_sem] I9 GV V9 X4 Yc Yf I2 Ms AR
@[go_sem] theorem Tp (k:Nat)(ks:List Nat)(B:aa)(i:Nat):(keep (k::ks) A B).env i=if i=k then A.env i else(keep ks A B).env i:=by
 grind [keep]
theorem Uu (ks:List Nat)(B:aa):(keep ks A B).st=B.st:=rfl
theorem Ya (e:Nat->AV)(s:ab)(i:Nat):(aa.mk e s).env i=e i:=rfl
theorem ZV (e:Nat->AV)(s:ab):(aa.mk e s).st=s:=rfl
theorem P5 (as:List AV)(i:Nat):iH as i=as[i]?.getD .undef:=rfl
theorem US (t:Nat):A.val (.tmp t)=A.env t:=rfl
theorem PC (f:Nat):A.val (.func f)= .fn f []:=rfl
theorem Vn (k:IntKind)(m:Int):A.val (.const (.int k m))= .int k m:=rfl
theorem P6 (b:Bool):A.val (.const (.bool b))= .bool b:=rfl
theorem VQ :A.val (.const (.pointer none))= .nil:=rfl
theorem Qm :A.val (.const (.slice none 0 0))= .ar:=rfl
theorem Us (l:List UInt8):A.val (.const (.string ⟨l.toArray⟩))=if qf 300 l=true then .str l else .undef:=rfl
attribute [go_sem] Uu Ya ZV P5 US PC Vn P6 VQ Qm Us
@[go_sem] theorem Xe (n:Nat):qf n []=true:=by cases n<;>rfl
theorem Fv (n:Nat)(x:UInt8)(l:List UInt8):qf (n+1) (x::l)=qf n l:=rfl
theorem IV :cM A []=[]:=rfl
theorem Df (x:Operand)(r:List Operand):cM A (x::r)=unm (A.val x)::cM A r:=rfl
theorem K9 :eN gd A []=True:=rfl
theorem HO (x:Operand)(r:List Operand):eN gd A (x::r)=(okM gd (A.val x)/\eN gd A r):=rfl
theorem Iz :er A []=[]:=rfl
theorem Gy (i:Nat)(x:Operand)(r:List (Nat×Operand)):er A ((i,x)::r)=(i,unm (A.val x))::er A r:=rfl
theorem Hh :gF gd A []=True:=rfl
theorem DL (i:Nat)(x:Operand)(r:List (Nat×Operand)):gF gd A ((i,x)::r)=(okM gd (A.val x)/\gF gd A r):=rfl
attribute [go_sem] Fv IV Df K9 HO Iz Gy Hh DL
attribute [go_sem] List.getElem?_cons_zero List.getElem?_cons_succ List.getElem?_nil Option.getD_some Option.getD_none Option.isSome_some Option.bind_some List.getElem?_toArray pR List.set_cons_zero List.set_cons_succ true_and and_true Bool.and_true Bool.true_and Bool.and_false Bool.false_and Bool.or_false Bool.false_or Bool.or_true Bool.true_or
theorem wF (id:Nat)(ops:Array Oper)(d:Bool)(y:Code):cVC P W0 n fz (.seq (.region id ops d) y) Q A=cVC P W0 n fz (.region id ops d) (cq (cVC P W0 n fz y Q) Q) A:=propext ab4
theorem yb (id:Nat)(c:Code)(y:Code):cVC P W0 n fz (.seq (.block id c) y) Q A=cVC P W0 n fz (.block id c) (cq (cVC P W0 n fz y Q) Q) A:=propext ab4
attribute [go_sem ↓] wF yb
theorem tE (K1 K2:aa->Prop):cq K1 (cq K2 Q)=cq K1 Q:=by funext e A;cases e<;>rfl
@[go_sem ↓] theorem Wv (u v y:Code):cVC P W0 n fz (.seq (.seq u v) y) Q A=cVC P W0 n fz (.seq u (.seq v y)) Q A:=by simp[cVC,tE]
theorem Cs  (y:Code):cVC P W0 n fz (.seq .skip y) Q A=cVC P W0 n fz .skip (cq (cVC P W0 n fz y Q) Q) A:=propext ab4
theorem EF  (y:Code):cVC P W0 n fz (.seq .ret y) Q A=cVC P W0 n fz .ret (cq (cVC P W0 n fz y Q) Q) A:=propext ab4
theorem Bt (id:Nat)(y:Code):cVC P W0 n fz (.seq (.exit id) y) Q A=cVC P W0 n fz (.exit id) (cq (cVC P W0 n fz y Q) Q) A:=propext ab4
theorem BD (c:Code)(y:Code):cVC P W0 n fz (.seq (.loop c) y) Q A=cVC P W0 n fz (.loop c) (cq (cVC P W0 n fz y Q) Q) A:=propext ab4
attribute [go_sem ↓] Cs EF Bt BD
theorem LA :iJ .ret=true:=rfl
theorem Hv (id:Nat):iJ (.exit id)=true:=rfl
theorem HG :iJ .skip=false:=rfl
theorem LU (x y:Code):iJ (.seq x y)=(iJ x||iJ y):=rfl
theorem GN (c:Operand)(x y:Code):iJ (.cond c x y)=(iJ x&&iJ y):=rfl
attribute [go_sem] LA Hv HG LU GN
theorem AQ (id:Nat)(ops:Array Oper)(d:Bool):iJ (.region id ops d)=false:=rfl
theorem EX (id:Nat)(c:Code):iJ (.block id c)=false:=rfl
theorem IT (c:Code):iJ (.loop c)=false:=rfl
attribute [go_sem ↓] AQ EX IT
@[go_sem ↓] theorem Wz (c:Operand)(x y z:Code):cVC P W0 n fz (.seq (.cond c x y) z) Q A=(okM none (A.val c)/\Em (unm (A.val c))/\(if iJ x||iJ y then
   (bl (unm (A.val c))=true->cVC P W0 n fz x (cq (cVC P W0 n fz z Q) Q) A)/\(bl (unm (A.val c))=false->cVC P W0 n fz y (cq (cVC P W0 n fz z Q) Q) A)
  else cj P W0 n fz (bl (unm (A.val c))) x .mk y .mk z .mk Q .mk A)):=by
 split<;>exact propext ab4
theorem Q6 :cVC P W0 n fz .skip Q A=Q .normal A:=propext ab4
theorem VS :cVC P W0 n fz .ret Q A=Q .ret A:=propext ab4
theorem Pa (id:Nat):cVC P W0 n fz (.exit id) Q A=Q (.exit id) A:=propext ab4
theorem NY (id:Nat)(c:Code):cVC P W0 n fz (.block id c) Q A=cVC P W0 n fz c (en id Q) A:=propext ab4
theorem Rv (c:Operand)(x y:Code):cVC P W0 n fz (.cond c x y) Q A=(okM none (A.val c)/\Em (unm (A.val c))/\(bl (unm (A.val c))=true->cVC P W0 n fz x Q A)/\(bl (unm (A.val c))=false->cVC P W0 n fz y Q A)):=propext ab4
attribute [go_sem ↓] Q6 VS Pa NY Rv
@[go_sem ↓] theorem Xc (id:Nat)(l:List Oper):cVC P W0 n fz (.region id l.toArray false) Q A=jN P W0 n fz l.toArray l (Q .normal) A:=by simp[cVC]
@[go_sem ↓] theorem YT (id:Nat)(l:List Oper):cVC P W0 n fz (.region id l.toArray true) Q A=(P.follows .mixedOrders=true/\DF fz id l.toArray .mk/\J3 fz l A (dr P W0 n fz id l.toArray l (λB=>oa P W0 n fz id l (Q .normal) B)) .mk):=by simp[cVC,J3]
@[go_sem ↓] theorem ZL (l:List Oper)(k:aa->Prop):J3 fz l A k .mk=(if fz.all (λx=>decide (x<6000000))then k A else FE fz l A k .mk):=by
 unfold J3 FE EI;split<;>rfl
theorem RI (c:Code):cVC P W0 n fz (.loop c) Q A=ae P W0 n fz c .mk Q .mk A:=propext ab4
theorem BU :cq K Q .normal A=K A:=propext ab4
theorem Oy :cq K Q .ret A=Q .ret A:=propext ab4
theorem Iw (id:Nat):cq K Q (.exit id) A=Q (.exit id) A:=propext ab4
theorem Ej (id id':Nat):en id Q (.exit id') A=if id'=id then Q .normal A else Q (.exit id') A:=propext ab4
theorem yq (id:Nat):en id Q .normal A=Q .normal A:=propext ab4
theorem Jo (id:Nat):en id Q .ret A=Q .ret A:=propext ab4
theorem OQ :jN P W0 n fz ops [] K A=K A:=propext ab4
theorem My (dst:Option Nat)(op:Op)(ty:TypeId)(pos:String)(after:Array Edge)(r:List Oper):jN P W0 n fz ops (⟨dst,op,ty,pos,after,none⟩::r) K A=(jQ n dst/\op2 P W0 fz dst A (λA'=>jN P W0 n fz ops r K A') op):=propext ab4
theorem Ji (dst:Option Nat)(op:Op)(ty:TypeId)(pos:String)(after:Array Edge)(j:Nat)(want:Bool)(r:List Oper):jN P W0 n fz ops (⟨dst,op,ty,pos,after,some (j,want)⟩::r) K A=(jQ n dst/\(match tx ops j with
   |some d=>gdC (A.env d)/\(if UH fz dst then gop P W0 (gdV want (A.env d)) dst A (λA'=>jN P W0 n fz ops r K A') op else vop P W0 (some (gdV want (A.env d))) (some A.st) dst A (λA'=>jN P W0 n fz ops r K A') op)
   |none=>False)):=propext ab4
attribute [go_sem ↓] RI BU Oy Iw Ej yq Jo OQ My Ji
theorem Mn (d:Nat):UH fz (some d)=fz.contains (2000000+d):=rfl
theorem Pg (d:Nat):ovM fz (some d)=fz.contains (5000000+d):=rfl
theorem RE :ovM fz none=false:=rfl
theorem Ov :UH fz none=false:=rfl
theorem Th (d:Nat):rdM fz (some d)=fz.contains (3000000+d):=rfl
theorem P9 :rdM fz none=false:=rfl
attribute [go_sem] Mn Pg RE Ov Th P9
attribute [go_sem] decide_true decide_false
theorem M3 (id:Nat)(l:List Oper):oa P W0 n fz id l K A=(if fz.all (λx=>decide (x<2000000))then K A else kW P W0 n fz id l K A):=rfl
theorem SU (id:Nat):kW P W0 n fz id [] K A=K A:=propext ab4
attribute [go_sem ↓] M3 SU
@[go_sem ↓] theorem Y8 (id d:Nat)(op:Op)(ty:TypeId)(pos:String)(after:Array Edge)(g:Option (Nat×Bool))(r:List Oper):kW P W0 n fz id (⟨some d,op,ty,pos,after,g⟩::r) K A=(if fz.contains (2000000+d)then d<n/\eop P W0 fz (some d) A (λA'=>if fz.contains (1000000+d)then eL A.st A'.st/\kW P W0 n fz id r K A' else kW P W0 n fz id r K A') op else kW P W0 n fz id r K A):=by rw[kW];rfl
@[go_sem ↓] theorem XD (id:Nat)(op:Op)(ty:TypeId)(pos:String)(after:Array Edge)(g:Option (Nat×Bool))(r:List Oper):kW P W0 n fz id (⟨none,op,ty,pos,after,g⟩::r) K A=(if fz.contains (4000000+id)then True/\eop P W0 fz none A (λA'=>kW P W0 n fz id r K A') op else kW P W0 n fz id r K A):=by rw[kW];rfl
theorem Mp (dst:Option Nat)(t:TypeId)(x y:Operand):eop P W0 fz dst A k (.store t x y)=(PY fz x/\okM none (A.val x)/\okM none (A.val y)/\jL P fz t x (unm (A.val y)) A (λA'=>k (A'.put dst .undef)) .mk (unm (A.val x))):=propext ab4
theorem OX (dst:Option Nat)(x:Operand):eop P W0 fz dst A k (.move x)=op2 P W0 fz dst A k (.move x):=propext ab4
theorem JN (dst:Option Nat)(x:Operand):eop P W0 fz dst A k (.assign x)=op2 P W0 fz dst A k (.assign x):=propext ab4
theorem Sn (dst:Option Nat)(c x y:Operand):eop P W0 fz dst A k (.pick c x y)=op2 P W0 fz dst A k (.pick c x y):=propext ab4
theorem Oh (dst:Option Nat)(op:BinOp)(t t':TypeId)(x y:Operand):eop P W0 fz dst A k (.binOp op t x y t')=op2 P W0 fz dst A k (.binOp op t x y t'):=propext ab4
theorem SX (dst:Option Nat)(op:UnOp)(t:TypeId)(x:Operand):eop P W0 fz dst A k (.unOp op t x)=op2 P W0 fz dst A k (.unOp op t x):=propext ab4
theorem OV (dst:Option Nat)(t:TypeId)(x:Operand):eop P W0 fz dst A k (.load t x)=op2 P W0 fz dst A k (.load t x):=propext ab4
theorem yW (dst:Option Nat)(t:TypeId)(x:Operand)(i:Nat):eop P W0 fz dst A k (.fieldAddr t x i)=op2 P W0 fz dst A k (.fieldAddr t x i):=propext ab4
theorem Og (dst:Option Nat)(t:TypeId)(x:Operand)(i:Nat):eop P W0 fz dst A k (.field t x i)=op2 P W0 fz dst A k (.field t x i):=propext ab4
theorem yp (dst:Option Nat)(t:TypeId)(x y:Operand):eop P W0 fz dst A k (.indexAddr t x y)=op2 P W0 fz dst A k (.indexAddr t x y):=propext ab4
theorem M4 (dst:Option Nat)(t:TypeId)(x y:Operand):eop P W0 fz dst A k (.index t x y)=op2 P W0 fz dst A k (.index t x y):=propext ab4
theorem Fg (dst:Option Nat)(x:Operand)(i:Nat):eop P W0 fz dst A k (.extract x i)=op2 P W0 fz dst A k (.extract x i):=propext ab4
theorem CW (dst:Option Nat)(x:Operand):eop P W0 fz dst A k (.nilCheck x)=op2 P W0 fz dst A k (.nilCheck x):=propext ab4
theorem F0 (dst:Option Nat)(s d:TypeId)(x:Operand):eop P W0 fz dst A k (.convert s d x)=op2 P W0 fz dst A k (.convert s d x):=propext ab4
theorem vz (dst:Option Nat)(x:Operand)(xt d:TypeId)(ok:Bool):eop P W0 fz dst A k (.typeAssert x xt d ok)=op2 P W0 fz dst A k (.typeAssert x xt d ok):=propext ab4
theorem rn (dst:Option Nat)(t:TypeId)(x:Operand):eop P W0 fz dst A k (.makeInterface t x)=op2 P W0 fz dst A k (.makeInterface t x):=propext ab4
theorem Ll (dst:Option Nat)(t:TypeId)(x:Operand)(lo hi mx:Option Operand):eop P W0 fz dst A k (.slice t x lo hi mx)=op2 P W0 fz dst A k (.slice t x lo hi mx):=propext ab4
theorem ND (dst:Option Nat)(t:TypeId)(ps:Array (Nat×Operand)):eop P W0 fz dst A k (.build t ps)=op2 P W0 fz dst A k (.build t ps):=propext ab4
theorem xx (dst:Option Nat)(t:TypeId)(m:Nat)(ps:Array (Nat×Operand)):eop P W0 fz dst A k (.buildSlice t m ps)=op2 P W0 fz dst A k (.buildSlice t m ps):=propext ab4
theorem Ub (dst:Option Nat)(t:TypeId)(x:Operand):eop P W0 fz dst A k (.box t x)=op2 P W0 fz dst A k (.box t x):=propext ab4
theorem Sc (dst:Option Nat)(c:Call):eop P W0 fz dst A k (.call c)=op2 P W0 fz dst A k (.call c):=propext ab4
theorem yP (dst:Option Nat)(t:TypeId)(x y:Operand):eop P W0 fz dst A k (.makeSlice t x y)=op2 P W0 fz dst A k (.makeSlice t x y):=propext ab4
attribute [go_sem ↓] Mp OX JN Sn Oh SX OV yW Og yp M4 Fg CW F0 vz rn Ll ND xx Ub Sc yP
theorem L1 (d:Nat):wb fz A (.tmp d)=((fz.contains d||fz.contains (6000000+d))=true->wI (unm (A.env d))=true):=propext ab4
theorem I3 (t:TypeId)(v:AV):wI (.loc t v)=true:=rfl
theorem M1 (d:Nat):PY fz (.tmp d)=(fz.contains d=false):=propext ab4
attribute [go_sem] L1 I3 M1
@[go_sem ↓] theorem Xp (id:Nat):dr P W0 n fz id ops [] K A=K A:=propext ab4
@[go_sem ↓] theorem WG (id d:Nat)(op:Op)(ty:TypeId)(pos:String)(after:Array Edge)(r:List Oper):dr P W0 n fz id ops (⟨some d,op,ty,pos,after,none⟩::r) K A=(if fz.contains (2000000+d)then dr P W0 n fz id ops r K A else d<n/\dop P W0 fz none (some d) A (λA'=>dr P W0 n fz id ops r K A') op):=by rw[dr];rfl
@[go_sem ↓] theorem Wg (id:Nat)(op:Op)(ty:TypeId)(pos:String)(after:Array Edge)(r:List Oper):dr P W0 n fz id ops (⟨none,op,ty,pos,after,none⟩::r) K A=(if fz.contains (4000000+id)then dr P W0 n fz id ops r K A else True/\dop P W0 fz none none A (λA'=>dr P W0 n fz id ops r K A') op):=by rw[dr];rfl
@[go_sem ↓] theorem VG (id d:Nat)(op:Op)(ty:TypeId)(pos:String)(after:Array Edge)(j:Nat)(want:Bool)(r:List Oper):dr P W0 n fz id ops (⟨some d,op,ty,pos,after,some (j,want)⟩::r) K A=(if fz.contains (2000000+d)then dr P W0 n fz id ops r K A else d<n/\(match tx ops j with
   |some e=>gdC (A.env e)/\dop P W0 fz (some (gdV want (A.env e))) (some d) A (λA'=>dr P W0 n fz id ops r K A') op
   |none=>False)):=by rw[dr];rfl
theorem Hb (d:Nat):jQ n (some d)=(d<n):=rfl
theorem IM :jQ n none=True:=rfl
attribute [go_sem] Hb IM
@[go_sem] theorem X1 (l:List Oper)(j:Nat):tx l.toArray j=(l[j]?).bind (·.dst):=by simp[tx]
theorem Qu (so:Option ab)(dst:Option Nat)(x:Operand):vop P W0 gd so dst A k (.move x)=(imp gd (opC P gd A (.move x))/\k (A.put dst (di gd (opV P gd A (.move x))))):=propext ab4
theorem Q3 (dst:Option Nat)(x:Operand):op2 P W0 fz dst A k (.move x)=vop P W0 none (some A.st) dst A k (.move x):=propext ab4
theorem It (so:Option ab)(dst:Option Nat)(x:Operand):vop P W0 gd so dst A k (.assign x)=(imp gd (opC P gd A (.assign x))/\k (A.put dst (di gd (opV P gd A (.assign x))))):=propext ab4
theorem Hq (dst:Option Nat)(x:Operand):op2 P W0 fz dst A k (.assign x)=vop P W0 none (some A.st) dst A k (.assign x):=propext ab4
theorem Pl (so:Option ab)(dst:Option Nat)(c x y:Operand):vop P W0 gd so dst A k (.pick c x y)=(imp gd (opC P gd A (.pick c x y))/\k (A.put dst (di gd (opV P gd A (.pick c x y))))):=propext ab4
theorem Pb (dst:Option Nat)(c x y:Operand):op2 P W0 fz dst A k (.pick c x y)=vop P W0 none (some A.st) dst A k (.pick c x y):=propext ab4
theorem NO (so:Option ab)(dst:Option Nat)(op:BinOp)(t t':TypeId)(x y:Operand):vop P W0 gd so dst A k (.binOp op t x y t')=(imp gd (opC P gd A (.binOp op t x y t'))/\k (A.put dst (di gd (opV P gd A (.binOp op t x y t'))))):=propext ab4
theorem Lo (dst:Option Nat)(op:BinOp)(t t':TypeId)(x y:Operand):op2 P W0 fz dst A k (.binOp op t x y t')=vop P W0 none (some A.st) dst A k (.binOp op t x y t'):=propext ab4
theorem Ta (so:Option ab)(dst:Option Nat)(op:UnOp)(t:TypeId)(x:Operand):vop P W0 gd so dst A k (.unOp op t x)=(imp gd (opC P gd A (.unOp op t x))/\k (A.put dst (di gd (opV P gd A (.unOp op t x))))):=propext ab4
theorem Q0 (dst:Option Nat)(op:UnOp)(t:TypeId)(x:Operand):op2 P W0 fz dst A k (.unOp op t x)=vop P W0 none (some A.st) dst A k (.unOp op t x):=propext ab4
theorem Sg (so:Option ab)(dst:Option Nat)(t:TypeId)(x:Operand):vop P W0 gd so dst A k (.load t x)=(imp gd (opC P gd A (.load t x))/\k (A.put dst (di gd (opV P gd A (.load t x))))):=propext ab4
theorem Ss (dst:Option Nat)(t:TypeId)(x:Operand):op2 P W0 fz dst A k (.load t x)=vop P W0 none (some A.st) dst A k (.load t x):=propext ab4
theorem ze (so:Option ab)(dst:Option Nat)(t:TypeId)(x:Operand)(i:Nat):vop P W0 gd so dst A k (.fieldAddr t x i)=(imp gd (opC P gd A (.fieldAddr t x i))/\k (A.put dst (di gd (opV P gd A (.fieldAddr t x i))))):=propext ab4
theorem NS (so:Option ab)(dst:Option Nat)(t:TypeId)(x:Operand)(i:Nat):vop P W0 gd so dst A k (.field t x i)=(imp gd (opC P gd A (.field t x i))/\k (A.put dst (di gd (opV P gd A (.field t x i))))):=propext ab4
theorem yk (dst:Option Nat)(t:TypeId)(x:Operand)(i:Nat):op2 P W0 fz dst A k (.fieldAddr t x i)=vop P W0 none (some A.st) dst A k (.fieldAddr t x i):=propext ab4
theorem Mk (dst:Option Nat)(t:TypeId)(x:Operand)(i:Nat):op2 P W0 fz dst A k (.field t x i)=vop P W0 none (some A.st) dst A k (.field t x i):=propext ab4
theorem yO (so:Option ab)(dst:Option Nat)(t:TypeId)(x y:Operand):vop P W0 gd so dst A k (.indexAddr t x y)=(imp gd (opC P gd A (.indexAddr t x y))/\k (A.put dst (di gd (opV P gd A (.indexAddr t x y))))):=propext ab4
theorem yz (dst:Option Nat)(t:TypeId)(x y:Operand):op2 P W0 fz dst A k (.indexAddr t x y)=vop P W0 none (some A.st) dst A k (.indexAddr t x y):=propext ab4
theorem NH (so:Option ab)(dst:Option Nat)(t:TypeId)(x y:Operand):vop P W0 gd so dst A k (.index t x y)=(imp gd (opC P gd A (.index t x y))/\k (A.put dst (di gd (opV P gd A (.index t x y))))):=propext ab4
theorem L8 (dst:Option Nat)(t:TypeId)(x y:Operand):op2 P W0 fz dst A k (.index t x y)=vop P W0 none (some A.st) dst A k (.index t x y):=propext ab4
theorem FJ (so:Option ab)(dst:Option Nat)(x:Operand)(i:Nat):vop P W0 gd so dst A k (.extract x i)=(imp gd (opC P gd A (.extract x i))/\k (A.put dst (di gd (opV P gd A (.extract x i))))):=propext ab4
theorem Ee (dst:Option Nat)(x:Operand)(i:Nat):op2 P W0 fz dst A k (.extract x i)=vop P W0 none (some A.st) dst A k (.extract x i):=propext ab4
theorem AN (so:Option ab)(dst:Option Nat)(x:Operand):vop P W0 gd so dst A k (.nilCheck x)=(imp gd (opC P gd A (.nilCheck x))/\k (A.put dst (di gd (opV P gd A (.nilCheck x))))):=propext ab4
theorem BT (dst:Option Nat)(x:Operand):op2 P W0 fz dst A k (.nilCheck x)=vop P W0 none (some A.st) dst A k (.nilCheck x):=propext ab4
theorem Fx (so:Option ab)(dst:Option Nat)(s d:TypeId)(x:Operand):vop P W0 gd so dst A k (.convert s d x)=(imp gd (opC P gd A (.convert s d x))/\k (A.put dst (di gd (opV P gd A (.convert s d x))))):=propext ab4
theorem Gn (dst:Option Nat)(s d:TypeId)(x:Operand):op2 P W0 fz dst A k (.convert s d x)=(if ovM fz dst then okM none (A.val x)/\lB P s d (unm (A.val x)) dst A k .mk else vop P W0 none (some A.st) dst A k (.convert s d x)):=propext ab4
theorem wE (so:Option ab)(dst:Option Nat)(x:Operand)(xt d:TypeId)(ok:Bool):vop P W0 gd so dst A k (.typeAssert x xt d ok)=(imp gd (opC P gd A (.typeAssert x xt d ok))/\k (A.put dst (di gd (opV P gd A (.typeAssert x xt d ok))))):=propext ab4
theorem wH (dst:Option Nat)(x:Operand)(xt d:TypeId)(ok:Bool):op2 P W0 fz dst A k (.typeAssert x xt d ok)=vop P W0 none (some A.st) dst A k (.typeAssert x xt d ok):=propext ab4
theorem rv (so:Option ab)(dst:Option Nat)(t:TypeId)(x:Operand):vop P W0 gd so dst A k (.makeInterface t x)=(imp gd (opC P gd A (.makeInterface t x))/\k (A.put dst (di gd (opV P gd A (.makeInterface t x))))):=propext ab4
theorem qD (dst:Option Nat)(t:TypeId)(x:Operand):op2 P W0 fz dst A k (.makeInterface t x)=vop P W0 none (some A.st) dst A k (.makeInterface t x):=propext ab4
theorem DH (dst:Option Nat)(t:TypeId):op2 P W0 fz dst A k (.makeMap t none)=((nm P t).isSome=true/\k ((A.put dst (.mp A.st.length)).ax (A.st++[some (.mp ((nm P t).getD (0,0)).1 [])]))):=propext ab4
theorem yH (dst:Option Nat)(t:TypeId)(x ix y:Operand):op2 P W0 fz dst A k (.mapUpdate t x ix y)=(okM none (A.val x)/\okM none (A.val ix)/\okM none (A.val y)/\HV P t (unm (A.val x)) (unm (A.val ix)) (unm (A.val y)) A (λA'=>k (A'.put dst .undef)) .mk):=propext ab4
theorem FY (dst:Option Nat)(t:TypeId):eop P W0 fz dst A k (.makeMap t none)=op2 P W0 fz dst A k (.makeMap t none):=propext ab4
theorem yj (dst:Option Nat)(t:TypeId)(x ix y:Operand):eop P W0 fz dst A k (.mapUpdate t x ix y)=op2 P W0 fz dst A k (.mapUpdate t x ix y):=propext ab4
attribute [go_sem ↓] Qu Q3 It Hq Pl Pb NO Lo Ta Q0 Sg Ss ze NS yk Mk yO yz NH L8 FJ Ee AN BT Fx Gn wE wH rv qD DH yH FY yj
@[go_sem ↓] theorem YV (dst:Option Nat)(xs:List Operand)(ts:List TypeId):op2 P W0 fz dst A k (.call ⟨.builtin .clear,xs.toArray,ts.toArray⟩)=(eN none A xs/\pU P ts (cM A xs) dst A k .mk):=by simp[op2]
theorem Jw (so:Option ab)(dst:Option Nat)(t:TypeId)(x ix:Operand):vop P W0 gd so dst A k (.lookup t x ix false)=(imp gd (opC P gd A (.lookup t x ix false))/\k (A.put dst (di gd (opV P gd A (.lookup t x ix false))))):=propext ab4
theorem HZ (dst:Option Nat)(t:TypeId)(x ix:Operand):op2 P W0 fz dst A k (.lookup t x ix false)=vop P W0 none (some A.st) dst A k (.lookup t x ix false):=propext ab4
theorem Ja (dst:Option Nat)(t:TypeId)(x ix:Operand):eop P W0 fz dst A k (.lookup t x ix false)=op2 P W0 fz dst A k (.lookup t x ix false):=propext ab4
theorem HI (dst:Option Nat)(t:TypeId)(x ix:Operand):dop P W0 fz gd dst A k (.lookup t x ix false)=vop P W0 gd none dst A k (.lookup t x ix false):=propext ab4
attribute [go_sem ↓] Jw HZ Ja HI
theorem Hz (t:TypeId)(x ix:Operand):opV P gd A (.lookup t x ix false)=P3 P A.st t (unm (A.val ix)) (unm (A.val x)):=rfl
theorem IY (t:TypeId)(x ix:Operand):opC P gd A (.lookup t x ix false)=(okM gd (A.val x)/\okM gd (A.val ix)/\tA P gd A.st t (unm (A.val ix)) (unm (A.val x))):=rfl
attribute [go_sem] Hz IY
theorem EK (so:Option ab)(dst:Option Nat)(t:TypeId)(x ix:Operand):vop P W0 gd so dst A k (.lookup t x ix true)=(imp gd (opC P gd A (.lookup t x ix true))/\k (A.put dst (di gd (opV P gd A (.lookup t x ix true))))):=propext ab4
theorem D9 (dst:Option Nat)(t:TypeId)(x ix:Operand):op2 P W0 fz dst A k (.lookup t x ix true)=vop P W0 none (some A.st) dst A k (.lookup t x ix true):=propext ab4
theorem Fz (dst:Option Nat)(t:TypeId)(x ix:Operand):eop P W0 fz dst A k (.lookup t x ix true)=op2 P W0 fz dst A k (.lookup t x ix true):=propext ab4
theorem FM (dst:Option Nat)(t:TypeId)(x ix:Operand):dop P W0 fz gd dst A k (.lookup t x ix true)=vop P W0 gd none dst A k (.lookup t x ix true):=propext ab4
attribute [go_sem ↓] EK D9 Fz FM
theorem Fc (t:TypeId)(x ix:Operand):opV P gd A (.lookup t x ix true)=xc P A.st t (unm (A.val ix)) (unm (A.val x)):=rfl
theorem Ea (t:TypeId)(x ix:Operand):opC P gd A (.lookup t x ix true)=(okM gd (A.val x)/\okM gd (A.val ix)/\tA P gd A.st t (unm (A.val ix)) (unm (A.val x))):=rfl
theorem Oe (t:TypeId)(lo hi:Option Operand)(e:TypeId)(id off m:Nat):FL P A t lo hi none (.row e id off m)=(elT P t=some e/\0<af P e/\qh none A lo/\qh none A hi/\cW A 0 lo<=cW A m hi/\Kk A.st id (off+cW A m hi)):=propext ab4
theorem NV (lo hi:Option Operand)(e:TypeId)(id off m:Nat):DJ A lo hi none (.row e id off m)= .row e id (off+cW A 0 lo) (cW A m hi-cW A 0 lo):=rfl
theorem IP (lo hi:Option Operand)(z:Operand)(e:TypeId)(id off m:Nat):DJ A lo hi (some z) (.row e id off m)= .undef:=rfl
attribute [go_sem] Fc Ea Oe NV IP
theorem Nv (so:Option ab)(dst:Option Nat)(t:TypeId)(x:Operand)(lo hi mx:Option Operand):vop P W0 gd so dst A k (.slice t x lo hi mx)=(imp gd (opC P gd A (.slice t x lo hi mx))/\k (A.put dst (di gd (opV P gd A (.slice t x lo hi mx))))):=propext ab4
theorem Lg (dst:Option Nat)(t:TypeId)(x:Operand)(lo hi mx:Option Operand):op2 P W0 fz dst A k (.slice t x lo hi mx)=(if ovM fz dst then okM none (A.val x)/\FL P A t lo hi mx (unm (A.val x))/\k (A.put dst (DJ A lo hi mx (unm (A.val x))))else vop P W0 none (some A.st) dst A k (.slice t x lo hi mx)):=propext ab4
theorem Nr (so:Option ab)(dst:Option Nat)(t:TypeId)(ps:Array (Nat×Operand)):vop P W0 gd so dst A k (.build t ps)=(imp gd (opC P gd A (.build t ps))/\k (A.put dst (di gd (opV P gd A (.build t ps))))):=propext ab4
theorem N1 (dst:Option Nat)(t:TypeId)(ps:Array (Nat×Operand)):op2 P W0 fz dst A k (.build t ps)=vop P W0 none (some A.st) dst A k (.build t ps):=propext ab4
theorem we (so:Option ab)(dst:Option Nat)(t:TypeId)(m:Nat)(ps:Array (Nat×Operand)):vop P W0 gd so dst A k (.buildSlice t m ps)=(imp gd (opC P gd A (.buildSlice t m ps))/\k (A.put dst (di gd (opV P gd A (.buildSlice t m ps))))):=propext ab4
attribute [go_sem ↓] Nv Lg Nr N1 we
@[go_sem ↓] theorem PX (dst:Option Nat)(t:TypeId)(m:Nat)(ps:List (Nat×Operand)):op2 P W0 fz dst A k (.buildSlice t m ps.toArray)=(if ovM fz dst then gF none A ps/\fH P t m (er A ps)/\k ((A.put dst (.row ((elT P t).getD 0) A.st.length 0 m)).ax (A.st++[some (.cells ((elT P t).getD 0) ((er A ps).map (·.2)))]))else vop P W0 none (some A.st) dst A k (.buildSlice t m ps.toArray)):=by simp[op2]
theorem Vu (so:Option ab)(dst:Option Nat)(t:TypeId)(x:Operand):vop P W0 gd so dst A k (.box t x)=(imp gd (opC P gd A (.box t x))/\k (A.put dst (di gd (opV P gd A (.box t x))))):=propext ab4
theorem Bv (so:Option ab)(dst:Option Nat)(f:FuncId)(first caps:Array Operand):vop P W0 gd so dst A k (.makeFunc (.func f) first caps)=(imp gd (opC P gd A (.makeFunc (.func f) first caps))/\k (A.put dst (di gd (opV P gd A (.makeFunc (.func f) first caps))))):=propext ab4
theorem Cf (dst:Option Nat)(f:FuncId)(first caps:Array Operand):op2 P W0 fz dst A k (.makeFunc (.func f) first caps)=vop P W0 none (some A.st) dst A k (.makeFunc (.func f) first caps):=propext ab4
theorem Eb (so:Option ab)(dst:Option Nat)(b:Builtin)(xs:Array Operand)(ts:Array TypeId):vop P W0 gd so dst A k (.call ⟨.builtin b,xs,ts⟩)=(imp gd (opC P gd A (.call ⟨.builtin b,xs,ts⟩))/\k (A.put dst (di gd (opV P gd A (.call ⟨.builtin b,xs,ts⟩))))):=propext ab4
theorem VI (dst:Option Nat)(xs:Array Operand)(ts:Array TypeId):op2 P W0 fz dst A k (.call ⟨.builtin .len,xs,ts⟩)=vop P W0 none (some A.st) dst A k (.call ⟨.builtin .len,xs,ts⟩):=propext ab4
theorem V8 (dst:Option Nat)(xs:Array Operand)(ts:Array TypeId):op2 P W0 fz dst A k (.call ⟨.builtin .cap,xs,ts⟩)=vop P W0 none (some A.st) dst A k (.call ⟨.builtin .cap,xs,ts⟩):=propext ab4
theorem V6 (dst:Option Nat)(xs:Array Operand)(ts:Array TypeId):op2 P W0 fz dst A k (.call ⟨.builtin .max,xs,ts⟩)=vop P W0 none (some A.st) dst A k (.call ⟨.builtin .max,xs,ts⟩):=propext ab4
theorem Vl (dst:Option Nat)(xs:Array Operand)(ts:Array TypeId):op2 P W0 fz dst A k (.call ⟨.builtin .min,xs,ts⟩)=vop P W0 none (some A.st) dst A k (.call ⟨.builtin .min,xs,ts⟩):=propext ab4
attribute [go_sem ↓] Vu Bv Cf Eb VI V8 V6 Vl
@[go_sem ↓] theorem ZM (so:Option ab)(dst:Option Nat)(f:Operand)(xs:List Operand)(ts:Array TypeId):vop P W0 gd so dst A k (.call ⟨.value f,xs.toArray,ts⟩)=(okM gd (A.val f)/\eN gd A xs/\aC P W0 gd so (unm (A.val f)) (cM A xs) dst A k .mk):=by simp[vop]
@[go_sem ↓] theorem Zr (dst:Option Nat)(f:Operand)(xs:List Operand)(ts:Array TypeId):op2 P W0 fz dst A k (.call ⟨.value f,xs.toArray,ts⟩)=(okM none (A.val f)/\eN none A xs/\aj P W0 (unm (A.val f)) (cM A xs) dst A k .mk):=by simp[op2]
@[go_sem ↓] theorem YH (dst:Option Nat)(xs:List Operand)(ts:List TypeId):op2 P W0 fz dst A k (.call ⟨.builtin .append,xs.toArray,ts.toArray⟩)=(eN none A xs/\bz P ts (cM A xs) dst A k .mk):=by simp[op2]
theorem Vv (d:Nat)(t:TypeId)(x:Operand):op2 P W0 fz (some d) A k (.box t x)=if fz.contains d then vop P W0 none (some A.st) (some d) A k (.box t x)
   else(okM none (A.val x)/\bb P t (unm (A.val x))=true/\k ((A.upd d (.ptr t A.st.length 0 [])).ax (A.st++[some (.cells t [unm (A.val x)])]))):=rfl
theorem L4 (dst:Option Nat)(t:TypeId):op2 P W0 fz dst A k (.alloc t)=((zeroOf P t).isSome=true/\k ((A.put dst (.ptr t A.st.length 0 [])).ax (A.st++[some (.cells t [(zeroOf P t).getD .undef])]))):=propext ab4
theorem ym (dst:Option Nat)(t:TypeId)(x y:Operand):op2 P W0 fz dst A k (.makeSlice t x y)=(okM none (A.val x)/\okM none (A.val y)/\zJ P t (unm (A.val x)) (unm (A.val y)) dst A k .mk):=propext ab4
theorem Lq (dst:Option Nat)(t:TypeId)(x y:Operand):op2 P W0 fz dst A k (.store t x y)=(okM none (A.val x)/\okM none (A.val y)/\jL P fz t x (unm (A.val y)) A (λA'=>k (A'.put dst .undef)) .mk (unm (A.val x))):=propext ab4
theorem Hx (t t':TypeId)(d id i:Nat)(path:List Nat)(v:AV):jL P fz t (.tmp d) v A k .mk (.ptr t' id i path)=(t'=t/\bb P t v=true/\(look A.st id i path).isSome=true/\(if fz.contains d then path=[]/\k ((A.upd d (.loc t v)).ax (A.st.set id none))else k (A.ax (dS A.st id i path v)))):=propext ab4
theorem Oz (dst:Option Nat)(t:TypeId)(x:Operand):op2 P W0 fz dst A k (.range t x)=(okM none (A.val x)/\vS P t dst A k (unm (A.val x))):=propext ab4
theorem PA (dst:Option Nat)(x:Operand):op2 P W0 fz dst A k (.next x true)=(okM none (A.val x)/\DU dst A k (unm (A.val x))):=propext ab4
attribute [go_sem ↓] Vv L4 ym Lq Hx Oz PA
theorem Hp (t:TypeId)(dst:Option Nat)(l:List UInt8):vS P t dst A k (.str l)=(bU P t=true/\k ((A.put dst (.it A.st.length)).ax (A.st++[some (.iter l 0)]))):=propext ab4
theorem QG (dst:Option Nat)(id:Nat):DU dst A k (.it id)=F5 id dst A k A.st[id]?:=propext ab4
theorem H7 (id:Nat)(dst:Option Nat)(l:List UInt8)(pos:Nat):F5 id dst A k (some (some (.iter l pos)))=((pos<l.length->k ((A.put dst (.tup [.bool true,.int .i64 pos,.int .i32 (iG l pos).1])).ax (A.st.set id (some (.iter l (pos+(iG l pos).2))))))/\(l.length<=pos->k (A.put dst (.tup [.bool false])))):=propext ab4
attribute [go_sem] Hp QG H7
theorem Qq (dst:Option Nat)(x:Operand):dop P W0 fz gd dst A k (.move x)=vop P W0 gd none dst A k (.move x):=propext ab4
theorem HX (dst:Option Nat)(x:Operand):dop P W0 fz gd dst A k (.assign x)=vop P W0 gd none dst A k (.assign x):=propext ab4
theorem PU (dst:Option Nat)(c x y:Operand):dop P W0 fz gd dst A k (.pick c x y)=vop P W0 gd none dst A k (.pick c x y):=propext ab4
theorem OB (dst:Option Nat)(op:BinOp)(t t':TypeId)(x y:Operand):dop P W0 fz gd dst A k (.binOp op t x y t')=vop P W0 gd none dst A k (.binOp op t x y t'):=propext ab4
theorem Sw (dst:Option Nat)(op:UnOp)(t:TypeId)(x:Operand):dop P W0 fz gd dst A k (.unOp op t x)=vop P W0 gd none dst A k (.unOp op t x):=propext ab4
theorem SO (dst:Option Nat)(t:TypeId)(x:Operand):dop P W0 fz gd dst A k (.load t x)=(wb fz A x/\vop P W0 gd none dst A k (.load t x)):=propext ab4
theorem ye (dst:Option Nat)(t:TypeId)(x:Operand)(i:Nat):dop P W0 fz gd dst A k (.fieldAddr t x i)=vop P W0 gd none dst A k (.fieldAddr t x i):=propext ab4
theorem Lt (dst:Option Nat)(t:TypeId)(x:Operand)(i:Nat):dop P W0 fz gd dst A k (.field t x i)=vop P W0 gd none dst A k (.field t x i):=propext ab4
theorem yT (dst:Option Nat)(t:TypeId)(x y:Operand):dop P W0 fz gd dst A k (.indexAddr t x y)=vop P W0 gd none dst A k (.indexAddr t x y):=propext ab4
theorem Lp (dst:Option Nat)(t:TypeId)(x y:Operand):dop P W0 fz gd dst A k (.index t x y)=vop P W0 gd none dst A k (.index t x y):=propext ab4
theorem D0 (dst:Option Nat)(x:Operand)(i:Nat):dop P W0 fz gd dst A k (.extract x i)=vop P W0 gd none dst A k (.extract x i):=propext ab4
theorem A7 (dst:Option Nat)(x:Operand):dop P W0 fz gd dst A k (.nilCheck x)=vop P W0 gd none dst A k (.nilCheck x):=propext ab4
theorem DC (dst:Option Nat)(s d:TypeId)(x:Operand):dop P W0 fz gd dst A k (.convert s d x)=vop P W0 gd none dst A k (.convert s d x):=propext ab4
theorem wW (dst:Option Nat)(x:Operand)(xt d:TypeId)(ok:Bool):dop P W0 fz gd dst A k (.typeAssert x xt d ok)=vop P W0 gd none dst A k (.typeAssert x xt d ok):=propext ab4
theorem rI (dst:Option Nat)(t:TypeId)(x:Operand):dop P W0 fz gd dst A k (.makeInterface t x)=vop P W0 gd none dst A k (.makeInterface t x):=propext ab4
theorem K5 (dst:Option Nat)(t:TypeId)(x:Operand)(lo hi mx:Option Operand):dop P W0 fz gd dst A k (.slice t x lo hi mx)=vop P W0 gd none dst A k (.slice t x lo hi mx):=propext ab4
theorem Nf (dst:Option Nat)(t:TypeId)(ps:Array (Nat×Operand)):dop P W0 fz gd dst A k (.build t ps)=vop P W0 gd none dst A k (.build t ps):=propext ab4
theorem wB (dst:Option Nat)(t:TypeId)(m:Nat)(ps:Array (Nat×Operand)):dop P W0 fz gd dst A k (.buildSlice t m ps)=vop P W0 gd none dst A k (.buildSlice t m ps):=propext ab4
theorem CG (dst:Option Nat)(f:FuncId)(first caps:Array Operand):dop P W0 fz gd dst A k (.makeFunc (.func f) first caps)=vop P W0 gd none dst A k (.makeFunc (.func f) first caps):=propext ab4
theorem UZ (dst:Option Nat)(t:TypeId)(x:Operand):dop P W0 fz gd dst A k (.box t x)=vop P W0 gd none dst A k (.box t x):=propext ab4
theorem Q4 (dst:Option Nat)(c:Call):dop P W0 fz gd dst A k (.call c)=vop P W0 gd (if rdM fz dst then some A.st else none) dst A k (.call c):=propext ab4
theorem Ng (dst:Option Nat)(t:TypeId)(x y:Operand):dop P W0 fz gd dst A k (.store t x y)=(gd=none/\okM none (A.val x)/\okM none (A.val y)/\jL P [] t x (unm (A.val y)) A (λA'=>k (A'.put dst .undef)) .mk (unm (A.val x))):=propext ab4
attribute [go_sem ↓] Qq HX PU OB Sw SO ye Lt yT Lp D0 A7 DC wW rI K5 Nf wB CG UZ Q4 Ng
theorem SV (x:Operand):isW (.move x)=false:=rfl
theorem JD (x:Operand):isW (.assign x)=false:=rfl
theorem SH (x:Operand)(y:Operand)(z:Operand):isW (.pick x y z)=false:=rfl
theorem Lr (op:BinOp)(t:TypeId)(x:Operand)(y:Operand)(t':TypeId):isW (.binOp op t x y t')=false:=rfl
theorem OD (op:UnOp)(t:TypeId)(x:Operand):isW (.unOp op t x)=false:=rfl
theorem Pt (t:TypeId)(x:Operand):isW (.load t x)=false:=rfl
theorem zg (t:TypeId)(x:Operand)(i:Nat):isW (.fieldAddr t x i)=false:=rfl
theorem No (t:TypeId)(x:Operand)(i:Nat):isW (.field t x i)=false:=rfl
theorem yE (t:TypeId)(x:Operand)(y:Operand):isW (.indexAddr t x y)=false:=rfl
theorem MW (t:TypeId)(x:Operand)(y:Operand):isW (.index t x y)=false:=rfl
theorem Gg (x:Operand)(i:Nat):isW (.extract x i)=false:=rfl
theorem B9 (x:Operand):isW (.nilCheck x)=false:=rfl
theorem Gq (t:TypeId)(t':TypeId)(x:Operand):isW (.convert t t' x)=false:=rfl
theorem wA (x:Operand)(xt d:TypeId)(ok:Bool):isW (.typeAssert x xt d ok)=false:=rfl
theorem rF (t:TypeId)(x:Operand):isW (.makeInterface t x)=false:=rfl
theorem Lm (t:TypeId)(x:Operand)(lo:Option Operand)(hi:Option Operand)(mx:Option Operand):isW (.slice t x lo hi mx)=false:=rfl
theorem Of (t:TypeId)(ps:Array (Nat×Operand)):isW (.build t ps)=false:=rfl
theorem vk (t:TypeId)(i:Nat)(ps:Array (Nat×Operand)):isW (.buildSlice t i ps)=false:=rfl
theorem TN (t:TypeId)(x:Operand):isW (.box t x)=false:=rfl
theorem CY (fn:Fn)(ps1:Array Operand)(ps2:Array Operand):isW (.makeFunc fn ps1 ps2)=false:=rfl
theorem Qg (c:Call):isW (.call c)=false:=rfl
attribute [go_sem] SV JD SH Lr OD Pt zg No yE MW Gg B9 Gq wA rF Lm Of vk TN CY Qg
attribute [go_sem] List.contains_cons List.contains_nil
theorem Jn (x:Operand):opC P none A (.move x)=True:=rfl
theorem Ht (g:Bool)(x:Operand):opC P (some g) A (.move x)=okM (some g) (A.val x):=rfl
theorem IW (x:Operand):opV P none A (.move x)=A.val x:=rfl
theorem GF (g:Bool)(x:Operand):opV P (some g) A (.move x)=unm (A.val x):=rfl
theorem AL (x:Operand):opC P none A (.assign x)=True:=rfl
theorem CI (g:Bool)(x:Operand):opC P (some g) A (.assign x)=okM (some g) (A.val x):=rfl
theorem B8 (x:Operand):opV P none A (.assign x)=A.val x:=rfl
theorem CL (g:Bool)(x:Operand):opV P (some g) A (.assign x)=unm (A.val x):=rfl
theorem Po (c x y:Operand):opV P gd A (.pick c x y)=oA (bl (unm (A.val c))) (unm (A.val x)) (unm (A.val y)):=rfl
theorem Rn (c x y:Operand):opC P gd A (.pick c x y)=(okM gd (A.val c)/\Em (unm (A.val c))/\iC gd (bl (unm (A.val c))) (A.val x)/\iC gd (!bl (unm (A.val c))) (A.val y)):=rfl
theorem Lv (op:BinOp)(t t':TypeId)(x y:Operand):opV P gd A (.binOp op t x y t')=cD P op t (unm (A.val x)) (unm (A.val y)):=rfl
theorem MV (op:BinOp)(t t':TypeId)(x y:Operand):opC P gd A (.binOp op t x y t')=(okM gd (A.val x)/\okM gd (A.val y)/\cF P op t (unm (A.val x)) (unm (A.val y))):=rfl
theorem S5 (op:UnOp)(t:TypeId)(x:Operand):opV P gd A (.unOp op t x)=unV op (unm (A.val x)):=rfl
theorem RY (op:UnOp)(t:TypeId)(x:Operand):opC P gd A (.unOp op t x)=(okM gd (A.val x)/\unC op (unm (A.val x))):=rfl
theorem O0 (t:TypeId)(x:Operand):opV P gd A (.load t x)=tK A.st (unm (A.val x)):=rfl
theorem QC (t:TypeId)(x:Operand):opC P gd A (.load t x)=(okM gd (A.val x)/\tB gd A.st t (unm (A.val x))):=rfl
theorem za (s:TypeId)(x:Operand)(i:Nat):opV P gd A (.fieldAddr s x i)=sy P s i (unm (A.val x)):=rfl
theorem Ma (s:TypeId)(x:Operand)(i:Nat):opV P gd A (.field s x i)=fvV i (unm (A.val x)):=rfl
theorem Uv (t:TypeId)(k:Nat)(fs:List AV):fvV k (.agg t fs)=fs[k]?.getD .undef:=rfl
theorem yh (s:TypeId)(x:Operand)(i:Nat):opC P gd A (.fieldAddr s x i)=(okM gd (A.val x)/\sk P s i (unm (A.val x))):=rfl
theorem LZ (s:TypeId)(x:Operand)(i:Nat):opC P gd A (.field s x i)=(okM gd (A.val x)/\fvC P s i (unm (A.val x))):=rfl
theorem VL (s t:TypeId)(k:Nat)(fs:List AV):fvC P s k (.agg t fs)=(t=s/\bq P s=true/\(bw P s).isSome=true/\(((bw P s).getD [])[k]?).isSome=true/\fs[k]?.isSome=true):=rfl
theorem yU (t:TypeId)(x ix:Operand):opV P gd A (.indexAddr t x ix)=eQ P t (iv (unm (A.val ix))) (unm (A.val x)):=rfl
theorem yg (t:TypeId)(x ix:Operand):opC P gd A (.indexAddr t x ix)=(okM gd (A.val x)/\okM gd (A.val ix)/\isI (unm (A.val ix))/\e6 P gd A.st t (iv (unm (A.val ix))) (unm (A.val x))):=rfl
theorem Oi (t:TypeId)(x ix:Operand):opV P gd A (.index t x ix)=AK (iv (unm (A.val ix))) (unm (A.val x)):=rfl
theorem ML (t:TypeId)(x ix:Operand):opC P gd A (.index t x ix)=(okM gd (A.val x)/\okM gd (A.val ix)/\isI (unm (A.val ix))/\Cu P gd t (iv (unm (A.val ix))) (unm (A.val x))):=rfl
theorem EE (x:Operand)(i:Nat):opV P gd A (.extract x i)=rS i (unm (A.val x)):=rfl
theorem FV (x:Operand)(i:Nat):opC P gd A (.extract x i)=(okM gd (A.val x)/\rf i (unm (A.val x))):=rfl
theorem Ch (x:Operand):opV P gd A (.nilCheck x)=unm (A.val x):=rfl
theorem Cc (x:Operand):opC P gd A (.nilCheck x)=(okM gd (A.val x)/\(unm (A.val x)).ic=true):=rfl
theorem GA (s d:TypeId)(x:Operand):opV P gd A (.convert s d x)=jH P d (unm (A.val x)):=rfl
theorem EO (s d:TypeId)(x:Operand):opC P gd A (.convert s d x)=(okM gd (A.val x)/\jq P s d (unm (A.val x))):=rfl
theorem rr (t:TypeId)(x:Operand):opV P gd A (.makeInterface t x)= .iface t (unm (A.val x)):=rfl
theorem rV (t:TypeId)(x:Operand):opC P gd A (.makeInterface t x)=(okM gd (A.val x)/\oz P t=true/\(unm (A.val x)).bj=true):=rfl
theorem xa (x:Operand)(xt d:TypeId)(ok:Bool):opV P gd A (.typeAssert x xt d ok)=lr P d ok (unm (A.val x)):=rfl
theorem xQ (x:Operand)(xt d:TypeId)(ok:Bool):opC P gd A (.typeAssert x xt d ok)=(okM gd (A.val x)/\o6 P d ok (unm (A.val x))):=rfl
attribute [go_sem] Jn Ht IW GF AL CI B8 CL Po Rn Lv MV S5 RY O0 QC za Ma Uv yh LZ VL yU yg Oi ML EE FV Ch Cc GA EO rr rV xa xQ
@[go_sem] theorem Ve (f:FuncId)(first:Array Operand)(caps:List Operand):opV P gd A (.makeFunc (.func f) first caps.toArray)= .fn f (cM A caps):=by simp[opV]
@[go_sem] theorem Tr (f:FuncId)(caps:List Operand):opC P gd A (.makeFunc (.func f) #[] caps.toArray)=(eN gd A caps/\(cM A caps).all AV.bj=true):=by simp[opC]
@[go_sem] theorem Y7 (t:TypeId)(x:Operand)(lo hi mx:Option Operand):opV P gd A (.slice t x lo hi mx)=lH A lo hi (unm (A.val x)):=rfl
@[go_sem] theorem Y2 (t:TypeId)(x:Operand)(lo hi:Option Operand):opC P gd A (.slice t x lo hi none)=(okM gd (A.val x)/\j9 P gd A t lo hi (unm (A.val x))):=by simp[opC]
@[go_sem] theorem Zd (t:TypeId)(ps:List (Nat×Operand)):opV P gd A (.build t ps.toArray)= .agg t (pR (er A ps) (cV P t)):=by simp[opV]
@[go_sem] theorem Zk (t:TypeId)(ps:List (Nat×Operand)):opC P gd A (.build t ps.toArray)=(gF gd A ps/\JQ P t (er A ps)):=by simp[opC]
@[go_sem] theorem PT (t:TypeId)(m:Nat)(ps:List (Nat×Operand)):opV P gd A (.buildSlice t m ps.toArray)= .lit ((elT P t).getD 0) ((er A ps).map (·.2)):=by simp[opV]
@[go_sem] theorem Rz (t:TypeId)(m:Nat)(ps:List (Nat×Operand)):opC P gd A (.buildSlice t m ps.toArray)=(gF gd A ps/\fH P t m (er A ps)):=by simp[opC]
theorem TO (t:TypeId)(x:Operand):opV P gd A (.box t x)= .loc t (unm (A.val x)):=rfl
theorem U2 (t:TypeId)(x:Operand):opC P gd A (.box t x)=(okM gd (A.val x)/\bb P t (unm (A.val x))=true):=rfl
attribute [go_sem] TO U2
@[go_sem] theorem Wy (b:Builtin)(xs:List Operand)(ts:Array TypeId):opV P gd A (.call ⟨.builtin b,xs.toArray,ts⟩)=jz b (cM A xs):=by simp[opV]
@[go_sem] theorem WB (b:Builtin)(xs:List Operand)(ts:List TypeId):opC P gd A (.call ⟨.builtin b,xs.toArray,ts.toArray⟩)=(eN gd A xs/\ky P b ts (cM A xs)):=by simp[opC]
theorem Hf (c p q:Bool):oA c (.bool p) (.bool q)= .bool (vH c p q):=rfl
theorem Nb (c:Bool)(k k':IntKind)(p q:Int):oA c (.int k p) (.int k' q)=if c then .int k p else .int k' q:=rfl
theorem NZ (c:Bool)(p q:List UInt8):oA c (.str p) (.str q)=if c then .str p else .str q:=rfl
attribute [go_sem] Hf Nb NZ
attribute [go_sem] DK Im
@[go_sem] theorem Z1 (t:TypeId)(k:IntKind)(a b:Int):cD P .add t (.int k a) (.int k b)= .int k (k.wrap (a+b)):=by simp[cD,cS,du,iY]
@[go_sem] theorem Z8 (t:TypeId)(k:IntKind)(a b:Int):cF P .add t (.int k a) (.int k b)=True:=by simp[cF,cS,du,iY]
@[go_sem] theorem aag (t:TypeId)(k:IntKind)(a b:Int):cD P .sub t (.int k a) (.int k b)= .int k (k.wrap (a-b)):=by simp[cD,cS,du,iY]
@[go_sem] theorem aa3 (t:TypeId)(k:IntKind)(a b:Int):cF P .sub t (.int k a) (.int k b)=True:=by simp[cF,cS,du,iY]
@[go_sem] theorem aaT (t:TypeId)(k:IntKind)(a b:Int):cD P .mul t (.int k a) (.int k b)= .int k (k.wrap (a*b)):=by simp[cD,cS,du,iY]
@[go_sem] theorem aaK (t:TypeId)(k:IntKind)(a b:Int):cF P .mul t (.int k a) (.int k b)=True:=by simp[cF,cS,du,iY]
@[go_sem] theorem ZT (t:TypeId)(k:IntKind)(a b:Int):cD P .eql t (.int k a) (.int k b)= .bool (a==b):=by simp[cD,cS,du,iY]
@[go_sem] theorem aac (t:TypeId)(k:IntKind)(a b:Int):cF P .eql t (.int k a) (.int k b)=True:=by simp[cF,cS,du,iY]
@[go_sem] theorem ZB (t:TypeId)(k:IntKind)(a b:Int):cD P .neq t (.int k a) (.int k b)= .bool (a !=b):=by simp[cD,cS,du,iY]
@[go_sem] theorem ZW (t:TypeId)(k:IntKind)(a b:Int):cF P .neq t (.int k a) (.int k b)=True:=by simp[cF,cS,du,iY]
@[go_sem] theorem Z3 (t:TypeId)(k:IntKind)(a b:Int):cD P .lss t (.int k a) (.int k b)= .bool (decide (a<b)):=by simp[cD,cS,du,iY]
@[go_sem] theorem ZI (t:TypeId)(k:IntKind)(a b:Int):cF P .lss t (.int k a) (.int k b)=True:=by simp[cF,cS,du,iY]
@[go_sem] theorem ZU (t:TypeId)(k:IntKind)(a b:Int):cD P .leq t (.int k a) (.int k b)= .bool (decide (a<=b)):=by simp[cD,cS,du,iY]
@[go_sem] theorem Z7 (t:TypeId)(k:IntKind)(a b:Int):cF P .leq t (.int k a) (.int k b)=True:=by simp[cF,cS,du,iY]
@[go_sem] theorem Zy (t:TypeId)(k:IntKind)(a b:Int):cD P .gtr t (.int k a) (.int k b)= .bool (decide (b<a)):=by simp[cD,cS,du,iY]
@[go_sem] theorem Zt (t:TypeId)(k:IntKind)(a b:Int):cF P .gtr t (.int k a) (.int k b)=True:=by simp[cF,cS,du,iY]
@[go_sem] theorem aaF (t:TypeId)(k:IntKind)(a b:Int):cD P .geq t (.int k a) (.int k b)= .bool (decide (b<=a)):=by simp[cD,cS,du,iY]
@[go_sem] theorem ZA (t:TypeId)(k:IntKind)(a b:Int):cF P .geq t (.int k a) (.int k b)=True:=by simp[cF,cS,du,iY]
@[go_sem] theorem ZE (t:TypeId)(k:IntKind)(a b:Int):cD P .and t (.int k a) (.int k b)= .int k (bits .and k a b):=by simp[cD,cS,du,iY]
@[go_sem] theorem ZO (t:TypeId)(k:IntKind)(a b:Int):cF P .and t (.int k a) (.int k b)=True:=by simp[cF,cS,du,iY]
@[go_sem] theorem aba (t:TypeId)(k:IntKind)(a b:Int):cD P .or t (.int k a) (.int k b)= .int k (bits .or k a b):=by simp[cD,cS,du,iY]
@[go_sem] theorem abf (t:TypeId)(k:IntKind)(a b:Int):cF P .or t (.int k a) (.int k b)=True:=by simp[cF,cS,du,iY]
@[go_sem] theorem ZR (t:TypeId)(k k':IntKind)(a b:Int):cD P .shl t (.int k a) (.int k' b)=if b<0 then .undef else .int k (k.wrap (a*2^(min b.toNat k.bits))):=by grind [cD,cS,uU,iY]
@[go_sem] theorem aan (t:TypeId)(k k':IntKind)(a b:Int):cF P .shl t (.int k a) (.int k' b)= ¬(b<0):=by simp[cF,cS,uU,iY]
@[go_sem] theorem aak (t:TypeId)(k k':IntKind)(a b:Int):cD P .shr t (.int k a) (.int k' b)=if b<0 then .undef else .int k (a.fdiv (2^(min b.toNat k.bits))):=by grind [cD,cS,uU,iY]
@[go_sem] theorem aad (t:TypeId)(k k':IntKind)(a b:Int):cF P .shr t (.int k a) (.int k' b)= ¬(b<0):=by simp[cF,cS,uU,iY]
@[go_sem] theorem Za (t:TypeId)(fs gs:List AV):cD P .eql t (.agg t fs) (.agg t gs)=((kE P t fs gs).map AV.bool).getD .undef:=by simp[cD,cS]
@[go_sem] theorem YZ (t:TypeId)(fs gs:List AV):cF P .eql t (.agg t fs) (.agg t gs)=((kE P t fs gs).isSome=true):=by simp[cF,cS]
@[go_sem] theorem pn (t:TypeId)(fs gs:List AV):cD P .neq t (.agg t fs) (.agg t gs)=((kE P t fs gs).map λb=>AV.bool (!b)).getD .undef:=by simp[cD,cS]
@[go_sem] theorem oU (t:TypeId)(fs gs:List AV):cF P .neq t (.agg t fs) (.agg t gs)=((kE P t fs gs).isSome=true):=by simp[cF,cS]
@[go_sem] theorem Y4 (t:TypeId)(a b:List UInt8):cD P .eql t (.str a) (.str b)= .bool (a==b):=by simp[cD,cS,ij]
@[go_sem] theorem YX (t:TypeId)(a b:List UInt8):cF P .eql t (.str a) (.str b)=True:=by simp[cF,cS,ij]
@[go_sem] theorem Ze (t:TypeId)(a b:List UInt8):cD P .neq t (.str a) (.str b)= .bool (!(a==b)):=by simp[cD,cS,ij]
@[go_sem] theorem Zi (t:TypeId)(a b:List UInt8):cF P .neq t (.str a) (.str b)=True:=by simp[cF,cS,ij]
@[go_sem] theorem Zb (t:TypeId)(a b:List UInt8):cD P .lss t (.str a) (.str b)= .bool (Op.bytesLess a b):=by simp[cD,cS,ij]
@[go_sem] theorem YP (t:TypeId)(a b:List UInt8):cF P .lss t (.str a) (.str b)=True:=by simp[cF,cS,ij]
@[go_sem] theorem YU (t:TypeId)(a b:List UInt8):cD P .gtr t (.str a) (.str b)= .bool (!(Op.bytesLess a b||a==b)):=by simp[cD,cS,ij]
@[go_sem] theorem YS (t:TypeId)(a b:List UInt8):cF P .gtr t (.str a) (.str b)=True:=by simp[cF,cS,ij]
@[go_sem] theorem YL (t:TypeId)(a b:List UInt8):cD P .geq t (.str a) (.str b)= .bool (!Op.bytesLess a b):=by simp[cD,cS,ij]
@[go_sem] theorem Zj (t:TypeId)(a b:List UInt8):cF P .geq t (.str a) (.str b)=True:=by simp[cF,cS,ij]
@[go_sem] theorem YC (t:TypeId):cD P .eql t .ar .ar=if (elT P t).isSome then .bool true else .undef:=by grind [cD,cS,lK]
@[go_sem] theorem W8 (t:TypeId):cF P .eql t .ar .ar=((elT P t).isSome=true):=by simp[cF,cS,lK]
@[go_sem] theorem X5 (t e:TypeId)(x:AV)(xs:List AV):cD P .eql t (.sl e (x::xs)) .ar=if (elT P t).isSome then .bool false else .undef:=by grind [cD,cS,lK,AV.isFull]
@[go_sem] theorem W6 (t e:TypeId)(x:AV)(xs:List AV):cF P .eql t (.sl e (x::xs)) .ar=((elT P t).isSome=true):=by simp[cF,cS,lK,AV.isFull]
@[go_sem] theorem YQ (t:TypeId)(a b:Bool):cD P .eql t (.bool a) (.bool b)=if j5 P t then .bool (a==b)else .undef:=by grind [cD,cS,lK]
@[go_sem] theorem YK (t:TypeId)(a b:Bool):cF P .eql t (.bool a) (.bool b)=(j5 P t=true):=by simp[cF,cS,lK]
@[go_sem] theorem Zh (t:TypeId)(a b:Bool):cD P .neq t (.bool a) (.bool b)=if j5 P t then .bool (!(a==b))else .undef:=by grind [cD,cS,lK]
@[go_sem] theorem YO (t:TypeId)(a b:Bool):cF P .neq t (.bool a) (.bool b)=(j5 P t=true):=by simp[cF,cS,lK]
theorem TZ (b:Bool):unV .not (.bool b)= .bool (!b):=rfl
theorem VH (b:Bool):unC .not (.bool b)=True:=rfl
theorem Wa (k:IntKind)(m:Int):unV .neg (.int k m)= .int k (k.wrap (-m)):=rfl
theorem Vr (k:IntKind)(m:Int):unC .neg (.int k m)=True:=rfl
theorem Nq (t:TypeId)(v:AV):tK σ (.loc t v)=v:=rfl
theorem ME (t t':TypeId)(v:AV):tB gd σ t (.loc t' v)=(t'=t):=rfl
theorem MP (t:TypeId)(id i:Nat)(path:List Nat):tK σ (.ptr t id i path)=(look σ id i path).getD .undef:=rfl
theorem Oc (t t':TypeId)(id i:Nat)(path:List Nat):tB gd σ t (.ptr t' id i path)=(t'=t/\imp gd ((look σ id i path).isSome=true)):=rfl
theorem GZ (s t t':TypeId)(i:Nat)(fs:List AV):sy P s i (.loc t (.agg t' fs))= .loc ((((bw P s).getD [])[i]?).getD 0) (fs[i]?.getD .undef):=rfl
theorem Hy (s t t':TypeId)(i:Nat)(fs:List AV):sk P s i (.loc t (.agg t' fs))=(t=s/\t'=s/\bq P s=true/\(bw P s).isSome=true/\(((bw P s).getD [])[i]?).isSome=true/\fs[i]?.isSome=true):=rfl
theorem JR (s t:TypeId)(j id i:Nat)(path:List Nat):sy P s j (.ptr t id i path)= .ptr ((((bw P s).getD [])[j]?).getD 0) id i (path++[j]):=rfl
theorem JS (s t:TypeId)(j id i:Nat)(path:List Nat):sk P s j (.ptr t id i path)=(t=s/\bq P s=true/\(bw P s).isSome=true/\(((bw P s).getD [])[j]?).isSome=true):=rfl
theorem NC (ty:TypeId)(k:IntKind)(m:Int):bb P ty (.int k m)=cd P ty:=rfl
theorem LL (k:IntKind)(m:Int):AV.bj (.int k m)=true:=rfl
theorem IQ (ty:TypeId)(b:Bool):bb P ty (.bool b)=cd P ty:=rfl
theorem Jz (b:Bool):AV.bj (.bool b)=true:=rfl
theorem LX (ty:TypeId)(l:List UInt8):bb P ty (.str l)=cd P ty:=rfl
theorem Lj (l:List UInt8):AV.bj (.str l)=true:=rfl
theorem La (ty:TypeId)  :bb P ty .nil=cd P ty:=rfl
theorem N0  :AV.bj .nil=true:=rfl
theorem HJ (ty:TypeId)  :bb P ty .ar=cd P ty:=rfl
theorem G8  :AV.bj .ar=true:=rfl
theorem O4 (ty:TypeId)(e:TypeId)(xs:List AV):bb P ty (.sl e xs)=cd P ty:=rfl
theorem Sx (e:TypeId)(xs:List AV):AV.bj (.sl e xs)=true:=rfl
theorem Nt (ty:TypeId)(e:TypeId)(xs:List AV):bb P ty (.lit e xs)=cd P ty:=rfl
theorem M8 (e:TypeId)(xs:List AV):AV.bj (.lit e xs)=true:=rfl
theorem NI (ty:TypeId)(e:TypeId)(xs:List AV)(tok:Nat):bb P ty (.own e xs tok)=cd P ty:=rfl
theorem NL (e:TypeId)(xs:List AV)(tok:Nat):AV.bj (.own e xs tok)=true:=rfl
theorem Rr (ty:TypeId)(id:Nat):bb P ty (.mp id)=cd P ty:=rfl
theorem O1 (id:Nat):AV.bj (.mp id)=true:=rfl
theorem CQ (ty:TypeId):bb P ty .da=cd P ty:=rfl
theorem JT (ty:TypeId):bb P ty .j4=cd P ty:=rfl
theorem AZ :AV.bj .da=true:=rfl
theorem Ic :AV.bj .j4=true:=rfl
theorem DG (ty t:TypeId)(v:AV):bb P ty (.iface t v)=cd P ty:=rfl
theorem Ft (t:TypeId)(v:AV):AV.bj (.iface t v)=true:=rfl
theorem yx (t d:TypeId)(ok:Bool)(v:AV):lr P d ok (.iface t v)=if t=d then(if ok=true then .tup [v,.bool true]else v)else .tup [iI P d,.bool false]:=rfl
theorem xw (d:TypeId)(ok:Bool):lr P d ok .da= .tup [iI P d,.bool false]:=rfl
theorem zh (t d:TypeId)(ok:Bool)(v:AV):o6 P d ok (.iface t v)=(oz P d=true/\(t=d\/(ok=true/\N3 P d=true))):=rfl
theorem xz (d:TypeId)(ok:Bool):o6 P d ok .da=(oz P d=true/\ok=true/\N3 P d=true):=rfl
theorem Ox (ty:TypeId)(e:TypeId)(id off m:Nat):bb P ty (.row e id off m)=cd P ty:=rfl
theorem Mx (e:TypeId)(id off m:Nat):AV.bj (.row e id off m)=true:=rfl
theorem LV (t t':TypeId)(fs:List AV):bb P t (.agg t' fs)=(t'==t&&(bw P t).isSome):=rfl
theorem On (t:TypeId)(fs:List AV):AV.bj (.agg t fs)=false:=rfl
theorem L7 (ty:TypeId)(t:TypeId)(v:AV):bb P ty (.loc t v)=cd P ty:=rfl
theorem Oj (t:TypeId)(v:AV):AV.bj (.loc t v)=true:=rfl
theorem LK (ty:TypeId)(t:TypeId)(id i:Nat)(path:List Nat):bb P ty (.ptr t id i path)=cd P ty:=rfl
theorem LH (t:TypeId)(id i:Nat)(path:List Nat):AV.bj (.ptr t id i path)=true:=rfl
theorem Sy (ty:TypeId)(id:Nat):bb P ty (.it id)=cd P ty:=rfl
theorem Ry (id:Nat):AV.bj (.it id)=true:=rfl
theorem Qk (id:Nat):AV.bj (.yl id)=true:=rfl
theorem RA (ty:TypeId)(f:FuncId)(caps:List AV):bb P ty (.fn f caps)=cd P ty:=rfl
theorem O6 (f:FuncId)(caps:List AV):AV.bj (.fn f caps)=true:=rfl
theorem Tk (l:List UInt8):oK (.str l)= .int .i64 l.length:=rfl
theorem SE (P:Program)(t:TypeId)(l:List UInt8):fY P t (.str l)=(bU P t=true):=rfl
theorem VF (e:TypeId)(xs:List AV):oK (.sl e xs)= .int .i64 xs.length:=rfl
theorem Ug (P:Program)(t:TypeId)(e:TypeId)(xs:List AV):fY P t (.sl e xs)=((elT P t).isSome=true):=rfl
theorem QY (e:TypeId)(xs:List AV):oK (.lit e xs)= .int .i64 xs.length:=rfl
theorem O3 (P:Program)(t:TypeId)(e:TypeId)(xs:List AV):fY P t (.lit e xs)=((elT P t).isSome=true):=rfl
theorem Qs (e:TypeId)(xs:List AV)(tok:Nat):oK (.own e xs tok)= .int .i64 xs.length:=rfl
theorem QO (P:Program)(t:TypeId)(e:TypeId)(xs:List AV)(tok:Nat):fY P t (.own e xs tok)=((elT P t).isSome=true):=rfl
theorem Ob  :oK (.ar)= .int .i64 0:=rfl
theorem Nx (P:Program)(t:TypeId)  :fY P t (.ar)=((elT P t).isSome=true):=rfl
theorem Su (e:TypeId)(id off n:Nat):oK (.row e id off n)= .int .i64 n:=rfl
theorem Td (P:Program)(t:TypeId)(e:TypeId)(id off n:Nat):fY P t (.row e id off n)=((elT P t).isSome=true):=rfl
theorem v8 (t t':TypeId)(i:Int)(id j:Nat)(path:List Nat):eQ P t i (.ptr t' id j path)= .ptr ((j2 P t).getD 0) id j (path++[i.toNat]):=rfl
theorem uZ (t t' t'':TypeId)(i:Int)(fs:List AV):eQ P t i (.loc t' (.agg t'' fs))= .loc ((j2 P t).getD 0) (fs[i.toNat]?.getD .undef):=rfl
theorem vD (t e:TypeId)(i:Int)(id off m:Nat):eQ P t i (.row e id off m)= .ptr e id (off+i.toNat) []:=rfl
theorem xZ (t e:TypeId)(i:Int)(xs:List AV):eQ P t i (.sl e xs)= .loc e (atV xs i):=rfl
theorem uX (t e:TypeId)(i:Int)(xs:List AV):eQ P t i (.lit e xs)= .loc e (atV xs i):=rfl
theorem xy (t e:TypeId)(i:Int)(xs:List AV)(k:Nat):eQ P t i (.own e xs k)= .loc e (atV xs i):=rfl
theorem vl (σ:ab)(t t':TypeId)(i:Int)(id j:Nat)(path:List Nat):e6 P gd σ t i (.ptr t' id j path)=(t'=t/\(j2 P t).isSome=true/\(bw P t).isSome=true/\imp gd (0<=i/\i.toNat<((bw P t).getD []).length)):=rfl
theorem xR (σ:ab)(t t' t'':TypeId)(i:Int)(fs:List AV):e6 P gd σ t i (.loc t' (.agg t'' fs))=(t'=t/\t''=t/\(j2 P t).isSome=true/\(bw P t).isSome=true/\imp gd (0<=i/\i.toNat<fs.length)):=rfl
theorem xS (σ:ab)(t e:TypeId)(i:Int)(id off m:Nat):e6 P gd σ t i (.row e id off m)=(elT P t=some e/\0<af P e/\imp gd (0<=i/\i.toNat<m)/\live σ id):=rfl
theorem yX (σ:ab)(t e:TypeId)(i:Int)(xs:List AV):e6 P gd σ t i (.sl e xs)=(elT P t=some e/\0<af P e/\imp gd (0<=i/\i.toNat<xs.length)):=rfl
theorem wa (σ:ab)(t e:TypeId)(i:Int)(xs:List AV):e6 P gd σ t i (.lit e xs)=(elT P t=some e/\0<af P e/\imp gd (0<=i/\i.toNat<xs.length)):=rfl
theorem wL (σ:ab)(t e:TypeId)(i:Int)(xs:List AV)(k:Nat):e6 P gd σ t i (.own e xs k)=(elT P t=some e/\0<af P e/\imp gd (0<=i/\i.toNat<xs.length)):=rfl
theorem IG (A:aa)(lo hi:Option Operand)(e:TypeId)(id off m:Nat):lH A lo hi (.row e id off m)= .row e id (off+cW A 0 lo) (cW A m hi-cW A 0 lo):=rfl
theorem GB (A:aa)(lo hi:Option Operand):lH A lo hi .ar= .ar:=rfl
theorem GU (A:aa)(lo hi:Option Operand)(l:List UInt8):lH A lo hi (.str l)= .str (iD l (cW A 0 lo) (cW A l.length hi)):=rfl
theorem Me (A:aa)(lo hi:Option Operand)(e:TypeId)(xs:List AV):lH A lo hi (.sl e xs)= .sl e (iD xs (cW A 0 lo) (cW A xs.length hi)):=rfl
theorem Jh (A:aa)(lo hi:Option Operand)(e:TypeId)(xs:List AV):lH A lo hi (.lit e xs)= .sl e (iD xs (cW A 0 lo) (cW A xs.length hi)):=rfl
theorem GM (A:aa)(lo hi:Option Operand)(e:TypeId)(xs:List AV)(k:Nat):lH A lo hi (.own e xs k)= .sl e (iD xs (cW A 0 lo) (cW A xs.length hi)):=rfl
theorem vY (A:aa)(t:TypeId)(lo hi:Option Operand)(e:TypeId)(id off m:Nat):j9 P gd A t lo hi (.row e id off m)=(elT P t=some e/\0<af P e/\nQ gd A lo hi m):=rfl
theorem tU (A:aa)(t:TypeId)(lo hi:Option Operand):j9 P gd A t lo hi .ar=((elT P t).isSome=true/\0<af P ((elT P t).getD 0)/\qh gd A lo/\qh gd A hi/\imp gd (cW A 0 lo=0/\cW A 0 hi=0)):=rfl
theorem HC (A:aa)(t:TypeId)(lo hi:Option Operand)(l:List UInt8):j9 P gd A t lo hi (.str l)=(bU P t=true/\nQ gd A lo hi l.length):=rfl
theorem L2 (A:aa)(t:TypeId)(lo hi:Option Operand)(e:TypeId)(xs:List AV):j9 P gd A t lo hi (.sl e xs)=(elT P t=some e/\0<af P e/\nQ gd A lo hi xs.length):=rfl
theorem Ju (A:aa)(t:TypeId)(lo hi:Option Operand)(e:TypeId)(xs:List AV):j9 P gd A t lo hi (.lit e xs)=(elT P t=some e/\0<af P e/\nQ gd A lo hi xs.length):=rfl
theorem H6 (A:aa)(t:TypeId)(lo hi:Option Operand)(e:TypeId)(xs:List AV)(k:Nat):j9 P gd A t lo hi (.own e xs k)=(elT P t=some e/\0<af P e/\nQ gd A lo hi xs.length):=rfl
attribute [go_sem] TZ VH Wa Vr Nq ME MP Oc GZ Hy JR JS NC LL IQ Jz LX Lj La N0 HJ G8 O4 Sx Nt M8 NI NL Rr O1 CQ JT AZ Ic DG Ft yx xw zh xz Ox Mx LV On L7 Oj LK LH Sy Ry Qk RA O6 Tk SE VF Ug QY O3 Qs QO Ob Nx Su Td v8 uZ vD xZ uX xy vl xR xS yX wa wL IG GB GU Me Jh GM vY tU HC L2 Ju H6
attribute [go_sem] beq_self_eq_true Bool.not_true Bool.not_false nQ cW qh fH JQ AV.ic o7 jD List.all_cons List.all_nil List.map_cons List.map_nil
theorem Jj (i:Int)(l:List UInt8):AK i (.str l)= .int .u8 (l[i.toNat]?.getD 0).toNat:=rfl
theorem H0 (t:TypeId)(i:Int)(l:List UInt8):Cu P gd t i (.str l)=(bU P t=true/\imp gd (0<=i/\i.toNat<l.length)):=rfl
theorem HM (i:Int)(t:TypeId)(fs:List AV):AK i (.agg t fs)=fs[i.toNat]?.getD .undef:=rfl
theorem HU (t t':TypeId)(i:Int)(fs:List AV):Cu P gd t i (.agg t' fs)=(t'=t/\(j2 P t).isSome=true/\(bw P t).isSome=true/\imp gd (0<=i/\i.toNat<fs.length)):=rfl
theorem BW (i:Nat)(as:List AV):rS i (.tup as)=as[i]?.getD .undef:=rfl
theorem AT (i:Nat)(as:List AV):rf i (.tup as)=(as[i]?.isSome=true):=rfl
theorem AX (d:TypeId)(k:IntKind)(m:Int):jH P d (.int k m)=match fI P d with|some k'=>.int k' (k'.wrap m)|none=>.str (Dx m):=rfl
theorem BO (d:TypeId)(l:List UInt8):jH P d (.str l)= .str l:=rfl
theorem Bm (d e:TypeId)(xs:List AV):jH P d (.lit e xs)= .str (xs.map kG):=rfl
theorem E1 (d e:TypeId)(xs:List AV):jH P d (.sl e xs)= .str (xs.map kG):=rfl
theorem BI (d e:TypeId)(xs:List AV)(i:Nat):jH P d (.own e xs i)= .str (xs.map kG):=rfl
theorem CT (s d e:TypeId)(xs:List AV):jq P s d (.lit e xs)=(elT P s=some e/\fI P e=some .u8/\af P e=1/\bU P d=true/\jh xs):=rfl
theorem Fw (s d e:TypeId)(xs:List AV):jq P s d (.sl e xs)=(elT P s=some e/\fI P e=some .u8/\af P e=1/\bU P d=true/\jh xs):=rfl
theorem BV (s d e:TypeId)(xs:List AV)(i:Nat):jq P s d (.own e xs i)=(elT P s=some e/\fI P e=some .u8/\af P e=1/\bU P d=true/\jh xs):=rfl
theorem Hk (k:IntKind)(n:Int):kG (.int k n)=UInt8.ofNat n.toNat:=rfl
theorem F3 :jh []=True:=rfl
theorem Bs (x:AV)(r:List AV):jh (x::r)=(isByte x/\jh r):=rfl
theorem Hm (k:IntKind)(n:Int):isByte (.int k n)=(k= .u8/\0<=n/\n<256):=rfl
theorem Cv (s d:TypeId)(l:List UInt8):jq P s d (.str l)=(bU P s=true/\bU P d=true):=rfl
theorem BY (s d:TypeId)(k:IntKind)(m:Int):jq P s d (.int k m)=((fI P s).isSome=true/\((fI P d).isSome||bU P d)=true):=rfl
attribute [go_sem] Jj H0 HM HU BW AT AX BO Bm E1 BI CT Fw BV Hk F3 Bs Hm Cv BY
attribute [go_sem] Option.isSome_none
theorem Cw (u:AV):jz .len [u]=oK u:=rfl
theorem Cp (t:TypeId)(u:AV):ky P .len [t] [u]=fY P t u:=rfl
theorem BJ (u:AV):jz .cap [u]= .int .i64 0:=rfl
theorem AU (t:TypeId):ky P .cap [t] [.ar]=((elT P t).isSome=true):=rfl
theorem CA (k k':IntKind)(p q:Int):jz .max [.int k p,.int k' q]= .int k (F7 p q):=rfl
theorem Bh (ts:List TypeId)(k k':IntKind)(p q:Int):ky P .max ts [.int k p,.int k' q]=(k'=k):=rfl
theorem Bx (k k':IntKind)(p q:Int):jz .min [.int k p,.int k' q]= .int k (tX p q):=rfl
theorem Bu (ts:List TypeId)(k k':IntKind)(p q:Int):ky P .min ts [.int k p,.int k' q]=(k'=k):=rfl
theorem SA (ts:List Nat)(r:AV):Xd ts r σ .ret A=(df (jD A.env ts) r/\A.st.take σ.length=σ):=rfl
theorem Dt (ts:List Nat)(r:AV):Xd ts r σ .normal A=(df (jD A.env ts) r/\A.st.take σ.length=σ):=rfl
attribute [go_sem] Cw Cp BJ AU CA Bh Bx Bu SA Dt
theorem T4 (i:Nat):(0<=(i:Int))=True:=eq_true (Int.natCast_nonneg i)
theorem Ym (a b:UInt8):(a.toNat=b.toNat)=(a=b):=propext UInt8.toNat_inj
theorem TJ (a b:Nat):((a:Int)<(b:Int))=(a<b):=propext Int.ofNat_lt
theorem TD (a b:Nat):((a:Int)<=(b:Int))=(a<=b):=propext Int.ofNat_le
theorem cast_eq (a b:Nat):((a:Int)=(b:Int))=(a=b):=propext Int.ofNat_inj
attribute [go_sem] T4 Ym TJ TD cast_eq Int.toNat_natCast decide_eq_true_eq decide_eq_false_iff_not beq_iff_eq beq_eq_false_iff_ne bne_iff_ne bne_eq_false_iff_eq ne_eq Nat.not_lt Nat.not_le Bool.not_eq_true' Bool.not_eq_false'
attribute [go_sem] List.take_length imp_self implies_true and_imp forall_self_imp false_implies Bool.false_eq_true
@[go_sem] theorem Zc (x:AV):df x x=True:=eq_true (.refl x)
end
end Go.Av
end
