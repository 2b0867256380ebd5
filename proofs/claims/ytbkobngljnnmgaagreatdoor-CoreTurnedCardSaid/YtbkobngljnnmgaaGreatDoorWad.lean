/- What the last text of this claim rests on. No conditions. -/
import Derived.IntWalk
import Derived.RangeFuncLeaves
import Derived.RangeFuncRecord
import Derived.Shelf.SlSortCmp.NoneTotal
import Derived.Test.YtbkobngljnnmgaaGreatDoorProg
import Derived.Test.YtbkobngljnnmgaaGreatDoorWac
set_option linter.unusedSimpArgs false
set_option linter.unusedVariables false
open List renaming getElem?_eq_some_iff->ab4,getElem?_eq_getElem->ab6,getElem?_set_self->ab7
open Array renaming getElem?_eq_some_iff->ab5
open Nat renaming le_of_ble_eq_true->ab8,le_refl->ab9,le_trans->acb,succ_pos->ace
open Option renaming join_some->aca
open Iff renaming rfl->acd
open Classical renaming choose_spec->acf
section
namespace Go.Av
open Go
theorem aH {n:Int}(h: -9223372036854775808<=n/\n<=9223372036854775807):IntKind.i64.wrap n=n:=by grind [IntKind.wrap_i64]
@[go_sem] theorem wrap_u8 (c:UInt8):IntKind.i64.wrap (c.toNat:Int)=c.toNat:=aH (by grind [UInt8.toNat_lt])
theorem DF.of {fz:List Nat}{id:Nat}{ops:Array Oper}(h:Ec fz (eM fz id) ops (Kl [] ops.toList)=true):DF fz id ops .mk:=h
@[go_sem] theorem YJ (n:Nat):(((n+1:Nat):Int)==0)=false:=by grind
@[go_sem] theorem aay (n:Nat):((no_index (OfNat.ofNat n):Nat):Int)=(OfNat.ofNat n:Int):=rfl
@[go_sem] theorem aaH (n:Nat)(h:n<=9223372036854775807):IntKind.i64.wrap (no_index (OfNat.ofNat n):Int)=(OfNat.ofNat n:Int):=aH (by
 have e:(OfNat.ofNat n:Int)=((n:Nat):Int):=rfl;omega)
theorem au :maxLen=9223372036854775807:=rfl
theorem j7 {i N:Nat}(h:i<N)(hN:N<=maxLen):IntKind.i64.wrap ((i:Int)+1)=((i+1:Nat):Int):=by
 grind [au,aH]
theorem ah {i N:Nat}(h:i<N)(hN:N<=maxLen):AV.int .i64 (IntKind.i64.wrap ((i:Int)+1))= .int .i64 ((i+1:Nat):Int):=by rw[j7 h hN]
theorem dy {l:List UInt8}(h:Small (.str l)):l.length<=maxLen:=by cases h;assumption
theorem PV {e:TypeId}{xs:List AV}(h:Small (.sl e xs)):xs.length<=maxLen/\ ∀x∈xs,Small x:=by cases h;simp_all
theorem aN {α:Type}{f:α->AV}{e:TypeId}{l:List α}(h:Small (.sl e (l.map f))):l.length<=maxLen/\ ∀x∈l,Small (f x):=by
 obtain⟨h1,h2⟩:=PV h;simp_all
@[go_sem] theorem Zm {α:Type}(l:List α)(i:Nat):iD l i l.length=l.drop i:=by
 grind [iD,List.length_drop]
@[go_sem] theorem Zo {α:Type}(l:List α)(j:Nat):iD l 0 j=l.take j:=by simp[iD]
@[go_sem] theorem WY {α:Type}(c:α)(r:List α):iD (c::r) 1 (r.length+1)=r:=by simp[iD]
theorem Vx :(([]:List UInt8)==[])=true:=rfl
theorem RX (c:UInt8)(r:List UInt8):((c::r:List UInt8)==[])=false:=rfl
theorem AO (c:UInt8)(r:List UInt8):(([]:List UInt8)==c::r)=false:=rfl
attribute [go_sem] Vx RX AO
attribute [go_sem] List.drop_succ_cons List.drop_zero List.length_cons List.length_nil true_implies false_implies Bool.false_eq_true Bool.true_eq_false
@[go_sem] theorem aar (n:Nat):(0<n+1)=True:=eq_true (ace n)
@[go_sem] theorem WK (n:Nat):(1<=n+1)=True:=eq_true (ace n)
attribute [go_sem] ab9 not_true_eq_false not_false_eq_true
@[go_sem] theorem VA (n:Nat):(n<0)=False:=eq_false (Nat.not_lt_zero n)
theorem RL {l:List UInt8}{i:Nat}{f:UInt8->Bool}:(decide (i<l.length)&&f (l[i]?.getD 0))=true↔ ∃c,l[i]?=some c/\f c=true:=by
 grind
theorem Pw {l:List UInt8}{i:Nat}{f:UInt8->Bool}:(decide (i<l.length)&&f (l[i]?.getD 0))=false↔ ∀c,l[i]?=some c->f c=false:=by
 grind
theorem BX (σ l:ab)(k:Nat):(σ++l)[σ.length+k]?=l[k]?:=by grind
@[go_sem] theorem S4 (σ l:ab)(k i:Nat)(path:List Nat):look (σ++l) (σ.length+k) i path=look l k i path:=by simp[look,BX]
@[go_sem] theorem Zf (σ l:ab)(i:Nat)(path:List Nat):look (σ++l) σ.length i path=look l 0 i path:=S4 σ l 0 i path
theorem Om (t:TypeId)(xs:List AV)(l:ab)(i:Nat)(path:List Nat):look (some (.cells t xs)::l) 0 i path=(xs[i]?).bind (·.at path):=rfl
theorem Ow (o:Option bJ)(l:ab)(k i:Nat)(path:List Nat):look (o::l) (k+1) i path=look l k i path:=rfl
attribute [go_sem] Om Ow
@[go_sem] theorem ZH (σ l:ab):(σ++l)[σ.length]?=l[0]?:=BX σ l 0
theorem od {s:List UInt8}{pos:Nat}{c:UInt8}(h:s[pos]?=some c)(hc:c.toNat<128):iG s pos=(c.toNat,1):=by
 grind [ByteArray.get!,iG,Utf8.decode]
theorem sD {s:List UInt8}{pos:Nat}{c:UInt8}(h:s[pos]?=some c)(hc:128<=c.toNat):128<=(iG s pos).1:=by
 grind [ByteArray.get!,iG,Utf8.decode,Utf8.runeError]
theorem Dz (σ l:ab)(k:Nat)(o:Option bJ):(σ++l).set (σ.length+k) o=σ++l.set k o:=by
 simp_all
@[go_sem] theorem aa7 (σ l:ab)(k:Nat)(o:Option bJ):(σ++l).set (σ.length+k) o=σ++l.set k o:=Dz σ l k o
@[go_sem] theorem Zx (σ l:ab)(o:Option bJ):(σ++l).set σ.length o=σ++l.set 0 o:=Dz σ l 0 o
@[go_sem] theorem Gh (σ l:ab)(k i:Nat)(path:List Nat)(v:AV):dS (σ++l) (σ.length+k) i path v=σ++dS l k i path v:=by
 unfold dS;rw[BX];split
 .simp_all
 .rfl
@[go_sem] theorem T8 (σ l:ab)(i:Nat)(path:List Nat)(v:AV):dS (σ++l) σ.length i path v=σ++dS l 0 i path v:=Gh σ l 0 i path v
@[go_sem] theorem V7 (t:TypeId)(xs:List AV)(l:ab)(i:Nat)(path:List Nat)(v:AV):dS (some (.cells t xs)::l) 0 i path v=some (.cells t (xs.set i ((xs[i]?.getD .undef).setAt path v)))::l:=rfl
@[go_sem] theorem UL (o:Option bJ)(l:ab)(k i:Nat)(path:List Nat)(v:AV):dS (o::l) (k+1) i path v=o::dS l k i path v:=by
 grind [dS]
@[go_sem] theorem abp (v:AV):v.at []=some v:=by cases v<;>rfl
@[go_sem] theorem abb (t:TypeId)(fs:List AV)(k:Nat)(r:List Nat):(AV.agg t fs).at (k::r)=(fs[k]?).bind (·.at r):=rfl
@[go_sem] theorem Y6 (v u:AV):v.setAt [] u=u:=by cases v<;>rfl
attribute [go_sem] List.length_append List.append_assoc List.cons_append List.nil_append
def Ext (σ st:ab):Prop:=st.take σ.length=σ
theorem Ext.refl (σ:ab):Ext σ σ:=List.take_length
theorem Ext.le {σ st:ab}(h:Ext σ st):σ.length<=st.length:=by
 have:=congrArg List.length h;grind
theorem Ext.app {σ st:ab}(h:Ext σ st)(l:ab):Ext σ (st++l):=by
 grind [Ext]
theorem Ext.set {σ st:ab}(h:Ext σ st){id:Nat}(hid:σ.length<=id)(o:Option bJ):Ext σ (st.set id o):=by
 grind [Ext,List.take_set_of_le]
@[go_sem] theorem aaM (σ l:ab):(σ++l).take σ.length=σ:=List.take_left
theorem aq {a b:Bool}(h:a=b):df (.bool a) (.bool b):=by rw[h];exact .refl _
theorem az {k:IntKind}{a b:Int}(h:a=b):df (.int k a) (.int k b):=by rw[h];exact .refl _
theorem oF {a b:List UInt8}(h:a=b):df (.str a) (.str b):=by rw[h];exact .refl _
def dc :AV->Prop| .maybe _ _=>False|_=>True
theorem cp {gd:Option Bool}{x:AV}(h:dc x):okM gd x=True:=by cases x<;>first|exact h.elim|exact eq_true trivial
theorem c8 {x:AV}(h:dc x):unm x=x:=by cases x<;>first|exact h.elim|rfl
theorem aw {α:Type}{f:α->AV}{l:List α}{i:Nat}{a:α}(h:l[i]?=some a):atV (l.map f) (i:Int)=f a:=by
 grind [atV]
theorem get_some {α:Type}{l:List α}{i:Nat}(h:i<l.length): ∃x,l[i]?=some x:=⟨_,ab6 h⟩
theorem ai {α:Type}{l:List α}{i:Nat}{x:α}(h:l[i]?=some x):l.take (i+1)=l.take i++[x]:=by
 grind [List.take_add_one]
end Go.Av
end
section
namespace Go.Proofs.Tryz
open Go Go.Av
@[go_sem] theorem YM :prog.follows .mixedOrders=true/\af prog 3=1/\cd prog 3=true/\fI prog 3=some .i64/\bm prog 3=true/\zeroOf prog 3=some (.int .i64 0)/\af prog 4=1/\cd prog 4=true/\j5 prog 4=true/\bm prog 4=true/\zeroOf prog 4=some (.bool false)/\af prog 5=1:=by and_intros<;>kernel_rfl
@[go_sem] theorem abI :cd prog 5=true/\fI prog 5=some .u8/\oz prog 9=true/\af prog 9=1/\cd prog 9=true/\bU prog 9=true/\fI prog 9=none/\bm prog 9=true/\fI prog 21=some .i32/\cd prog 22=true/\elT prog 22=some 53/\cd prog 23=true:=by and_intros<;>kernel_rfl
@[go_sem] theorem abd :elT prog 23=some 51/\zeroOf prog 23=some .ar/\elT prog 24=some 66/\cd prog 27=true/\elT prog 27=some 100/\bw prog 29=some [3,3,3,3,3]/\zeroOf prog 29=some (.agg 29 [(.int .i64 0),(.int .i64 0),(.int .i64 0),(.int .i64 0),(.int .i64 0)])/\dd prog 29=true/\cV prog 29=[(.int .i64 0),(.int .i64 0),(.int .i64 0),(.int .i64 0),(.int .i64 0)]/\cd prog 30=true/\elT prog 30=some 117/\bq prog 32=true:=by and_intros<;>kernel_rfl
@[go_sem] theorem abg :bw prog 32=some [3,22,27,29,30]/\zeroOf prog 32=some (.agg 32 [(.int .i64 0),.ar,.ar,(.agg 29 [(.int .i64 0),(.int .i64 0),(.int .i64 0),(.int .i64 0),(.int .i64 0)]),.ar])/\dd prog 32=true/\cV prog 32=[(.int .i64 0),.ar,.ar,(.agg 29 [(.int .i64 0),(.int .i64 0),(.int .i64 0),(.int .i64 0),(.int .i64 0)]),.ar]/\af prog 47=1/\cd prog 47=true/\elT prog 47=some 77/\bm prog 47=true/\cd prog 48=true/\elT prog 48=some 76/\cd prog 49=true/\elT prog 49=some 179:=by and_intros<;>kernel_rfl
@[go_sem] theorem aa5 :af prog 51=9/\bq prog 51=true/\bm prog 51=true/\bw prog 51=some [9,9,47,47,47,48,48,49,4]/\zeroOf prog 51=some (.agg 51 [(.str []),(.str []),.ar,.ar,.ar,.ar,.ar,.ar,(.bool false)])/\dd prog 51=true/\cV prog 51=[(.str []),(.str []),.ar,.ar,.ar,.ar,.ar,.ar,(.bool false)]/\af prog 53=11/\bq prog 53=true/\bm prog 53=true/\bw prog 53=some [51,4,4]/\zeroOf prog 53=some (.agg 53 [(.agg 51 [(.str []),(.str []),.ar,.ar,.ar,.ar,.ar,.ar,(.bool false)]),(.bool false),(.bool false)]):=by and_intros<;>kernel_rfl
@[go_sem] theorem aa9 :dd prog 53=true/\cV prog 53=[(.agg 51 [(.str []),(.str []),.ar,.ar,.ar,.ar,.ar,.ar,(.bool false)]),(.bool false),(.bool false)]/\cd prog 60=true/\elT prog 60=some 4/\af prog 66=3/\bq prog 66=true/\bm prog 66=true/\bw prog 66=some [3,9,9]/\zeroOf prog 66=some (.agg 66 [(.int .i64 0),(.str []),(.str [])])/\dd prog 66=true/\cV prog 66=[(.int .i64 0),(.str []),(.str [])]/\cd prog 73=true:=by and_intros<;>kernel_rfl
@[go_sem] theorem abh :elT prog 73=some 9/\zeroOf prog 73=some .ar/\af prog 76=3/\bq prog 76=true/\bm prog 76=true/\bw prog 76=some [9,3,9]/\zeroOf prog 76=some (.agg 76 [(.str []),(.int .i64 0),(.str [])])/\dd prog 76=true/\cV prog 76=[(.str []),(.int .i64 0),(.str [])]/\af prog 77=1/\cd prog 77=true/\elT prog 77=some 76:=by and_intros<;>kernel_rfl
@[go_sem] theorem abj :bm prog 77=true/\cd prog 80=true/\gX prog 80=true/\cd prog 84=true/\elT prog 84=some 88/\af prog 88=1/\cd prog 88=true/\elT prog 88=some 3/\bm prog 88=true/\af prog 100=3/\bq prog 100=true/\bm prog 100=true:=by and_intros<;>kernel_rfl
@[go_sem] theorem aaS :bw prog 100=some [3,9,9]/\zeroOf prog 100=some (.agg 100 [(.int .i64 0),(.str []),(.str [])])/\dd prog 100=true/\cV prog 100=[(.int .i64 0),(.str []),(.str [])]/\cd prog 111=true/\af prog 117=5/\bm prog 117=true/\bw prog 117=some [3,9,4,3,9]/\dd prog 117=true/\cV prog 117=[(.int .i64 0),(.str []),(.bool false),(.int .i64 0),(.str [])]/\j2 prog 119=some 47/\bw prog 119=some [47,47,47]:=by and_intros<;>kernel_rfl
@[go_sem] theorem aaZ :dd prog 119=true/\cV prog 119=[.ar,.ar,.ar]/\gX prog 120=true/\bq prog 128=true/\bw prog 128=some [22,23,30]/\dd prog 128=true/\cV prog 128=[.ar,.ar,.ar]/\cd prog 139=true/\elT prog 139=some 150/\cd prog 140=true/\elT prog 140=some 148/\cd prog 141=true:=by and_intros<;>kernel_rfl
@[go_sem] theorem aaz :elT prog 141=some 218/\bq prog 143=true/\bw prog 143=some [23,22,24,84,60,139,140,4,4,3,3,4,141]/\dd prog 143=true/\cV prog 143=[.ar,.ar,.ar,.ar,.ar,.ar,.ar,(.bool false),(.bool false),(.int .i64 0),(.int .i64 0),(.bool false),.ar]/\af prog 148=1/\cd prog 148=true/\bm prog 148=true/\zeroOf prog 148=some (.int .u32 0)/\af prog 150=6/\bq prog 150=true/\bm prog 150=true:=by and_intros<;>kernel_rfl
@[go_sem] theorem ZN :bw prog 150=some [4,148,140,140,3,4]/\zeroOf prog 150=some (.agg 150 [(.bool false),(.int .u32 0),.ar,.ar,(.int .i64 0),(.bool false)])/\dd prog 150=true/\cV prog 150=[(.bool false),(.int .u32 0),.ar,.ar,(.int .i64 0),(.bool false)]/\j2 prog 168=some 47/\bw prog 168=some [47,47,47,47,47,47]/\dd prog 168=true/\cV prog 168=[.ar,.ar,.ar,.ar,.ar,.ar]/\j2 prog 172=some 9/\bw prog 172=some [9,9]/\zeroOf prog 172=some (.agg 172 [(.str []),(.str [])])/\dd prog 172=true:=by and_intros<;>kernel_rfl
@[go_sem] theorem aaX :cV prog 172=[(.str []),(.str [])]/\j2 prog 173=some 172/\bw prog 173=some [172,172,172]/\dd prog 173=true/\cV prog 173=[(.agg 172 [(.str []),(.str [])]),(.agg 172 [(.str []),(.str [])]),(.agg 172 [(.str []),(.str [])])]/\af prog 179=2/\bq prog 179=true/\bm prog 179=true/\bw prog 179=some [9,9]/\zeroOf prog 179=some (.agg 179 [(.str []),(.str [])])/\bq prog 182=true/\bw prog 182=some [9,4,4]:=by and_intros<;>kernel_rfl
@[go_sem] theorem aaq :zeroOf prog 182=some (.agg 182 [(.str []),(.bool false),(.bool false)])/\dd prog 182=true/\cV prog 182=[(.str []),(.bool false),(.bool false)]/\cd prog 185=true/\gX prog 185=true/\bq prog 188=true/\bw prog 188=some [3,185]/\dd prog 188=true/\cV prog 188=[(.int .i64 0),.nil]/\af prog 190=1/\cd prog 190=true/\fI prog 190=some .i64:=by and_intros<;>kernel_rfl
@[go_sem] theorem Zs :bm prog 190=true/\af prog 191=1/\cd prog 191=true/\elT prog 191=some 190/\bm prog 191=true/\bq prog 201=true/\bw prog 201=some [23]/\dd prog 201=true/\cV prog 201=[.ar]/\af prog 218=6/\bq prog 218=true/\bm prog 218=true:=by and_intros<;>kernel_rfl
@[go_sem] theorem aaa :bw prog 218=some [148,29]/\zeroOf prog 218=some (.agg 218 [(.int .u32 0),(.agg 29 [(.int .i64 0),(.int .i64 0),(.int .i64 0),(.int .i64 0),(.int .i64 0)])])/\dd prog 218=true/\cV prog 218=[(.int .u32 0),(.agg 29 [(.int .i64 0),(.int .i64 0),(.int .i64 0),(.int .i64 0),(.int .i64 0)])]/\cd prog 226=true/\elT prog 226=some 280/\bq prog 228=true/\bw prog 228=some [226,111,73,88,27]/\cd prog 246=true/\elT prog 246=some 191/\bq prog 248=true/\bw prog 248=some [3,246]:=by and_intros<;>kernel_rfl
@[go_sem] theorem Zw :dd prog 248=true/\cV prog 248=[(.int .i64 0),.ar]/\elT prog 249=some 47/\af prog 261=3/\bq prog 261=true/\bm prog 261=true/\bw prog 261=some [3,148,148]/\zeroOf prog 261=some (.agg 261 [(.int .i64 0),(.int .u32 0),(.int .u32 0)])/\dd prog 261=true/\cV prog 261=[(.int .i64 0),(.int .u32 0),(.int .u32 0)]/\elT prog 262=some 261/\elT prog 273=some 274:=by and_intros<;>kernel_rfl
@[go_sem] theorem ZF :af prog 274=1/\cd prog 274=true/\bm prog 274=true/\elT prog 276=some 5/\bq prog 278=true/\bw prog 278=some [4,273,273,273,273]/\zeroOf prog 278=some (.agg 278 [(.bool false),.ar,.ar,.ar,.ar])/\dd prog 278=true/\cV prog 278=[(.bool false),.ar,.ar,.ar,.ar]/\af prog 280=15/\bq prog 280=true/\bm prog 280=true:=by and_intros<;>kernel_rfl
@[go_sem] theorem aaE :bw prog 280=some [9,278,278,4,9,4,4]/\zeroOf prog 280=some (.agg 280 [(.str []),(.agg 278 [(.bool false),.ar,.ar,.ar,.ar]),(.agg 278 [(.bool false),.ar,.ar,.ar,.ar]),(.bool false),(.str []),(.bool false),(.bool false)])/\dd prog 280=true/\cV prog 280=[(.str []),(.agg 278 [(.bool false),.ar,.ar,.ar,.ar]),(.agg 278 [(.bool false),.ar,.ar,.ar,.ar]),(.bool false),(.str []),(.bool false),(.bool false)]/\fI prog 290=some .u64/\cd prog 313=true/\bq prog 329=true/\bw prog 329=some [9,9]/\dd prog 329=true/\cV prog 329=[(.str []),(.str [])]:=by and_intros<;>kernel_rfl
end Go.Proofs.Tryz
end
section
namespace Go.Av
open Go
section
variable {P :Program}{W0 w w':World}{C C':Ctx}{σ σ':ab}{n:Nat}{A:aa}{a:Act}
theorem aE.zp (h:aE P W0 w C σ){te t:TypeId}{id0 i id o:Nat}{path:List Nat}{zs:List AV}{z u u':AV}(h0:σ[id0]?=some (some (.cells te zs)))(hz:zs[i]?=some z)(hp:z.at path=some u)
  (hid:id<σ.length) (hne:id≠id0) (hpl:place P te path=some (t,o)) (h1:u.bj=true) (h2:u'.bj=true) (hfz: ∀v,aI P w C u v->aI P w (C.kill id) u' v):
  aE P W0 w (C.kill id) ((σ.set id none).set id0 (some (.cells te (zs.set i (z.setAt path u'))))):=by
 obtain⟨k1,k2⟩:=h.kill id hid;obtain⟨b,base,room,arr,t',fr,m1,m2,mf,m3,m4,cf,m5⟩:=h.cells h0;obtain⟨r1,r2,r3,r4⟩:=m5 i z hz;obtain⟨c,g1,g2,g3,g4⟩:=CJ path te t o z _ (cf i) r1 r3 hpl hp;obtain⟨v,rfl⟩:=g1.one_cell h1;have hfz1:=(hfz v (.one h1 g1)).aG h2;have hft:fits P t u':=by
  have:cd P t=true:=by cases u<;>first|exact g2.2|cases h1
  cases u'<;>first|exact⟨rfl,this⟩|cases h2
 obtain⟨q1,q2,q3⟩:=sE path te t o z _ _ (cf i) [v] (r1.mono k1) r3 hpl hp hfz1 hft;have hsp:(bB (cf i).toArray o [v]).toList=cf i:=by
  refine List.ext_getElem? λp=>?_
  grind [bN]
 rw[hsp]at q2;have hid0l:id0<σ.length:=(ab4.1 h0).1;refine k2.change (Step.refl _ _) k2.low (by rw[k2.nx];simp) k2.inj k2.dom λj=>?_
 by_cases hj:j=id0
 .subst hj;left;rw[ab7 (by simp_all),aca,pW,if_neg (λe=>hne e.symm),m1];refine⟨rfl,arr,t',fr,m2,mf,m3,by simp_all,cf,λp x hx=>?_⟩;grind [Rel.mono]
 grind
theorem aE.EA (h:aE P W0 w C σ){te e te' t:TypeId}{id0 i id off m o:Nat}{path:List Nat}{zs xs:List AV}{z:AV}(h0:σ[id0]?=some (some (.cells te zs)))(hz:zs[i]?=some z)(hp:z.at path=some (.row e id off m))
  (hs:σ[id]?=some (some (.cells te' xs))) (hm:off+m<=xs.length) (hne:id≠id0) (hpl:place P te path=some (t,o)):
  aE P W0 w (C.kill id) ((σ.set id none).set id0 (some (.cells te (zs.set i (z.setAt path (.sl e ((xs.drop off).take m))))))):=
 h.zp h0 hz hp (ab4.1 hs).1 hne hpl rfl rfl λ_ hv=>nj h hv hs hm
inductive lM (P:Program):aa->aa->Prop
 |refl (D:aa):lM P D D
 |row {D B:aa} (d:Nat) {e te:TypeId} {id off m:Nat} {xs:List AV}:D.env d= .row e id off m->D.st[id]?=some (some (.cells te xs))->off+m<=xs.length->lM P ((D.upd d (.sl e ((xs.drop off).take m))).ax (D.st.set id none)) B->lM P D B
 |cell {D B:aa} {te e te' t:TypeId} (id0 i:Nat) (path:List Nat) {id off m o:Nat} {zs xs:List AV} {z:AV}:D.st[id0]?=some (some (.cells te zs))->zs[i]?=some z->z.at path=some (.row e id off m)->D.st[id]?=some (some (.cells te' xs))->off+m<=xs.length->id≠id0->place P te path=some (t,o)->
   lM P (D.ax ((D.st.set id none).set id0 (some (.cells te (zs.set i (z.setAt path (.sl e ((xs.drop off).take m)))))))) B->lM P D B
 |Kw {D B:aa} {te t' t:TypeId} (id0 i:Nat) (path:List Nat) {id o:Nat} {zs:List AV} {z x:AV}:D.st[id0]?=some (some (.cells te zs))->zs[i]?=some z->z.at path=some (.ptr t' id 0 [])->D.st[id]?=some (some (.cells t' [x]))->id≠id0->place P te path=some (t,o)->
   lM P (D.ax ((D.st.set id none).set id0 (some (.cells te (zs.set i (z.setAt path (.loc t' x))))))) B->lM P D B
 |pt {D B:aa} (d:Nat) {t:TypeId} {id:Nat} {x:AV}:D.env d= .ptr t id 0 []->D.st[id]?=some (some (.cells t [x]))->lM P ((D.upd d (.loc t x)).ax (D.st.set id none)) B->lM P D B
 |bT {D B:aa} {te:TypeId} (id0 i:Nat) {zs:List AV} {z z':AV}:D.st[id0]?=some (some (.cells te zs))->zs[i]?=some z->Sub z z'->lM P (D.ax (D.st.set id0 (some (.cells te (zs.set i z'))))) B->lM P D B
theorem aE.N8 (h:aE P W0 w C σ){te:TypeId}{id0 i:Nat}{zs:List AV}{z z':AV}(h0:σ[id0]?=some (some (.cells te zs)))(hz:zs[i]?=some z)(hs:Sub z z'):
  aE P W0 w C (σ.set id0 (some (.cells te (zs.set i z')))):=by
 obtain⟨b,base,room,arr,t',fr,m1,m2,mf,m3,m4,cf,m5⟩:=h.cells h0;have hid0l:id0<σ.length:=(ab4.1 h0).1;refine h.change (Step.refl _ _) h.low (by rw[h.nx];simp) h.inj h.dom λj=>?_
 by_cases hj:j=id0
 .subst hj;left;rw[ab7 hid0l,aca,m1];refine⟨rfl,arr,t',fr,m2,mf,m3,by simp_all,cf,λp x hx=>?_⟩;grind [Rel.sub,Sub.fits]
 grind
theorem bG.VW {B:aa}(hf:lM P A B): ∀{C:Ctx},bG P W0 n w C A a-> ∃C',bG P W0 n w C' B a/\Step w C w C':=by
 induction hf with
 |refl A=>grind [Step.refl]
 |row d h1 h2 h3 _ ih=>
  intro C h;have hv:=h.env d;rw[h1]at hv;have hfr:=nj h.st hv h2 h3;obtain⟨k1,k2⟩:=h.st.kill _ (ab4.1 h2).1;have hr1:=h.step k1 k2;have hr2:bG P W0 n w (C.kill _) ((aa.upd _ d (.sl _ _)).ax (List.set _ _ none)) a:=⟨λj=>by
   by_cases hj:j=d
   .subst hj;simpa[aa.upd,aa.ax]using hfr
   .have:=hr1.env j;simpa[aa.upd,aa.ax,hj]using this,hr1.defers,hr1.size,hr1.st⟩
  grind [Step.trans]
 |cell id0 i path h1 h2 h3 h4 h5 h6 h7 _ ih=>
  intro C h;obtain⟨k1,k2⟩:=h.st.kill _ (ab4.1 h4).1;have hr1:=h.step k1 (h.st.EA h1 h2 h3 h4 h5 h6 h7);obtain⟨C',g1,g2⟩:=ih hr1;grind [Step.trans]
 |Kw id0 i path h1 h2 h3 h4 h5 h6 _ ih=>
  intro C h;have hidl:=(ab4.1 h4).1;obtain⟨k1,k2⟩:=h.st.kill _ hidl;have hr1:=h.step k1 (h.st.zp h1 h2 h3 hidl h5 h6 rfl rfl λ_ hv=>mR h.st hv h4 (i:=0) rfl);obtain⟨C',g1,g2⟩:=ih hr1;grind [Step.trans]
 |pt d h1 h2 _ ih=>
  intro C h;have hv:=h.env d;rw[h1]at hv;have hfr:=mR h.st hv h2 (i:=0) rfl;obtain⟨k1,k2⟩:=h.st.kill _ (ab4.1 h2).1;have hr1:=h.step k1 k2;have hr2:bG P W0 n w (C.kill _) ((aa.upd _ d (.loc _ _)).ax (List.set _ _ none)) a:=⟨λj=>by
   by_cases hj:j=d
   .subst hj;simpa[aa.upd,aa.ax]using hfr
   .have:=hr1.env j;simpa[aa.upd,aa.ax,hj]using this,hr1.defers,hr1.size,hr1.st⟩
  grind [Step.trans]
 |bT id0 i h1 h2 h3 _ ih=>
  intro C h;have hr1:=h.step (.refl _ _) (h.st.N8 h1 h2 h3);exact ih hr1
def gE (A:aa):ResultVar->AV
 | .tmp t=>A.env t
 | .cell a _=>tK A.st (A.env a)
def vT (A:aa):ResultVar->Prop
 | .tmp _=>True
 | .cell a t=>tB none A.st t (A.env a)
def tY (A:aa):List ResultVar->AV
 |[t]=>gE A t
 |ts=>.tup (ts.map (gE A))
def ny (A:aa):List ResultVar->Prop
 |[]=>True
 |t::r=>vT A t/\ny A r
def OZ (a:Act):ResultVar->Sem Value
 | .tmp t=>pure (a.tmps.getD t undef)
 | .cell a' ty=>do loadVar ty (<-asAddr (a.tmps.getD a' undef))
theorem Ps (hr:bG P W0 n w C A a)(t:ResultVar)(hc:vT A t): ∃v,(OZ a t).run P w= .ok v w/\aI P w C (gE A t) v:=by
 cases t with
 |tmp t=>exact⟨_,rfl,hr.env t⟩
 |cell d ty=>
  have hd:=hr.env d;simp only[vT]at hc;simp only[gE];cases hv:A.env d with
  |loc ty' v=>
   rw[hv]at hc hd;obtain rfl:ty'=ty:=hc;obtain⟨b,o,cs,e,h1,h2,h3,h4⟩:=hd.rA;rw[OZ,e];obtain⟨x,g1,g2⟩:=gu (w:=w) (off:=o) h1 h2 (λj c hj=>(h4 j c hj).1);exact⟨x,by grind [asAddr],g2⟩
  |ptr ty' id i path=>
   rw[hv]at hc hd;obtain⟨rfl,hl⟩:=hc;obtain⟨x,hx⟩:=Option.isSome_iff_exists.1 (show(look A.st id i path).isSome=true from hl);obtain⟨te,xs,z,h1,h2,h3⟩:=nT hx;obtain⟨ad,e0,_,hm⟩:=hd.pd;rw[OZ,e0];obtain⟨b,base,room,arr,t',fr,m1,m2,mf,m3,m4,cf,m5⟩:=hr.st.cells h1;obtain⟨b',te',base',room',off,e1,e2,e3⟩:=hm _ m1;cases e1;subst e3;obtain⟨r1,r2,r3,r4⟩:=m5 i z h2;obtain⟨c,g1,g2,g3,g4⟩:=CJ path te _ off z x (cf i) r1 r3 e2 h3;obtain⟨y,q1,q2⟩:=gu (w:=w) (b:=b) (off:=base+i*af P te+off) g1 g2 (λj c' hj=>by
    grind [World.cell?])
   grind [tK,asAddr]
  |_=>rw[hv]at hc;exact hc.elim
theorem FP {F:ResultVar->Sem Value}(hr:bG P W0 n w C A a)(hF: ∀t,vT A t-> ∃v,(F t).run P w= .ok v w/\aI P w C (gE A t) v): ∀ts:List ResultVar,ny A ts-> ∃vs:List Value,(ts.mapM F).run P w= .ok vs w/\vs.length=ts.length/\ ∀(i:Nat) (t:ResultVar) (v:Value),ts[i]?=some t->vs[i]?=some v->aI P w C (gE A t) v
 |[],_=>⟨[],rfl,rfl,by simp⟩
 |t::ts,hc=>by
  obtain⟨v,h1,h2⟩:=hF t hc.1;obtain⟨vs,g1,g2,g3⟩:=FP hr hF ts hc.2;refine⟨v::vs,?_,by simp[g2],λi t' v' ht hv=>?_⟩
  .simp_all
  grind
theorem mI {fn:Func}{ts:List ResultVar}(hr:bG P W0 n w C A a)(h:fn.results=ts.toArray)(hc:ny A ts): ∃v,(results fn a.tmps).run P w= .ok v w/\aI P w C (tY A ts) v:=by
 obtain⟨vs,g1,g2,g3⟩:=FP (F:=OZ a) hr (λt ht=>Ps hr t ht) ts hc;have hm:(results fn a.tmps).run P w= .ok (if h:vs.toArray.size=1 then vs.toArray[0]else .tuple vs.toArray) w:=by
  have e:results fn a.tmps=(do
    let vs <-fn.results.mapM (OZ a)
    pure (if h:vs.size=1 then vs[0]else .tuple vs)):=by
   unfold results;congr 2
  simp_all
 match ts,vs,hm,g2,g3 with
 |[],[],hm,_,_=>exact⟨_,hm,.tup (vs:=[]) rfl (by simp)⟩
 |[t],[v],hm,_,g3=>exact⟨_,hm,g3 0 t v rfl rfl⟩
 |t::u::ts,v::v'::vs,hm,g2,g3=>
  refine⟨_,hm,?_⟩;rw[dif_neg (by simp)];refine .tup (by simp_all) (λi x v hx hv=>?_);grind
def cY (P:Program)(R:aa->Prop):Exit->aa->Prop
 | .normal,A| .ret,A=>∃ A',lM P A A'/\R A'
 |_,_=>False
theorem cY.ret {R:aa->Prop}(h:R A):cY P R .ret A:=⟨A,.refl A,h⟩
theorem cY.normal {R:aa->Prop}(h:R A):cY P R .normal A:=⟨A,.refl A,h⟩
theorem cY.via {R:aa->Prop}{x:Exit}{B:aa}(hx:x= .ret\/x= .normal)(hf:lM P A B)(h:R B):cY P R x A:=by
 rcases hx with rfl|rfl
 .exact⟨B,hf,h⟩
 .exact⟨B,hf,h⟩
theorem cY.vc {R:aa->Prop}{c:Code}(h:VC P W0 n c (cY P R) A):VC P W0 n c (λe A'=>(e= .normal\/e= .ret)/\R A') A:=λw C a hr=>
 iq (h w C a hr) λe a' w' ⟨A',C',q,r,s⟩=>by
  cases e with
  |normal=>obtain⟨B,g1,g2⟩:=q;grind [bG.VW,Step.trans]
  |ret=>obtain⟨B,g1,g2⟩:=q;grind [bG.VW,Step.trans]
  |_=>exact q.elim
def Mo (ts:List ResultVar)(σ:ab)(Q:AV->ab->Prop)(A:aa):Prop:=ny A ts/\ ∃r,df (tY A ts) r/\σ.length<=A.st.length/\Q r A.st
theorem OE {f : FuncId} {fn : Func} {c : Code} {args : List AV} {Q : AV → ab → Prop} {m : Nat} (ts : List ResultVar) (hf : P.funcs[f]? = some fn) (hb : fn.body = some c) (hnm : (fn.name == "runtime.NumGoroutine") = false)
  (hm:fn.ntmps=m) (hargs:Nat.ble args.length m=true) (hres:fn.results=ts.toArray)
  (h:(∀a∈args,Small a)->VC P W0 m c (cY P (Mo ts σ Q)) ⟨iH args,σ⟩):aO P W0 f args σ Q:=by
 subst hm;refine λw C vs hst hl hv=>?_
 have hsm: ∀a∈args,Small a:=dV λi x hx=>(hv i x _ hx (ab6 (by grind))).small
 have hvc:=cY.vc (h hsm);refine .inl ⟨⟨fn,hf,by simp[hb],hnm⟩,calls_of_wp hf hb (wp_mono (Bq (hvc w C _ (lS hst hl hv (ab8 hargs)))) λe a' w' ⟨A',C',q,r,s⟩=>?_)⟩;have fin:a'.defers=[]/\ ∃v,(results fn a'.tmps).run P w'= .ok v w'/\ ∃v₁ r σ' C',Ending.returned v= .returned v₁/\Q r σ'/\aE P W0 w' C' σ'/\aI P w' C' r v₁/\Step w C w' C':=by
  obtain⟨_,hc,r1,h2,_,h4⟩:=q;obtain⟨v,g1,g2⟩:=mI r hres hc;exact⟨r.defers,v,g1,v,r1,A'.st,C',rfl,h4,r.st,g2.bT h2,s⟩
 rcases q.1 with rfl|rfl
 .exact fin
 .exact fin
theorem ju {f : FuncId} {fn : Func} {c : Code} {args : List AV} {Q : AV → ab → Prop} {m : Nat} (ts : List ResultVar) (fz : List Nat) (hf : P.funcs[f]? = some fn) (hb : fn.body = some c) (hnm : (fn.name == "runtime.NumGoroutine") = false)
  (hm:fn.ntmps=m) (hargs:Nat.ble args.length m=true) (hres:fn.results=ts.toArray)
  (h:(∀a∈args,Small a)->cVC P W0 m fz c (cY P (Mo ts σ Q)) ⟨iH args,σ⟩):aO P W0 f args σ Q:=
 OE ts hf hb hnm hm hargs hres λhs=>bA c _ _ (h hs)
def Uh (ts:List ResultVar)(r:AV)(σ:ab)(A:aa):Prop:=ny A ts/\df (tY A ts) r/\A.st.take σ.length=σ
theorem CV {f : FuncId} {fn : Func} {c : Code} {args : List AV} {r : AV} {m : Nat} (ts : List ResultVar) (fz : List Nat) (hf : P.funcs[f]? = some fn) (hb : fn.body = some c) (hnm : (fn.name == "runtime.NumGoroutine") = false)
  (hm:fn.ntmps=m) (hargs:Nat.ble args.length m=true) (hres:fn.results=ts.toArray) (hr:aV σ.length r)
  (h:(∀a∈args,Small a)->cVC P W0 m fz c (cY P (Uh ts r σ)) ⟨iH args,σ⟩):aO P W0 f args σ λr' σ'=>r'=r/\σ'=σ:=by
 subst hm;refine λw C vs hst hl hv=>?_
 have hsm: ∀a∈args,Small a:=dV λi x hx=>(hv i x _ hx (ab6 (by grind))).small
 have hvc:=cY.vc (bA c _ _ (h hsm));refine .inl ⟨⟨fn,hf,by simp[hb],hnm⟩,calls_of_wp hf hb (wp_mono (Bq (hvc w C _ (lS hst hl hv (ab8 hargs)))) λe a' w' ⟨A',C',q,rl,s⟩=>?_)⟩;have fin:a'.defers=[]/\ ∃v,(results fn a'.tmps).run P w'= .ok v w'/\ ∃v₁ r' σ' C',Ending.returned v= .returned v₁/\(r'=r/\σ'=σ)/\aE P W0 w' C' σ'/\aI P w' C' r' v₁/\Step w C w' C':=by
  obtain⟨_,hc,q1,q2⟩:=q;obtain⟨v,g1,g2⟩:=mI rl hres hc;have hle:σ.length<=A'.st.length:=by grind
  have hs2:aE P W0 w' (C'.eH σ.length) σ:=by
   have:=rl.st.eH (n:=σ.length) hle λid te xs hid hs=>hst.ids (show σ[id]?=some (some (.cells te xs)) by grind)
   simp_all
  grind [bG.defers,aI.eH,aI.bT,Step.eH,aE.nx]
 rcases q.1 with rfl|rfl
 .exact fin
 .exact fin
theorem xd {f : FuncId} {fn : Func} {c : Code} {args : List AV} {r : AV} {m : Nat} (ts : List ResultVar) (fz : List Nat) (hf : P.funcs[f]? = some fn) (hb : fn.body = some c) (hnm : (fn.name == "runtime.NumGoroutine") = false)
  (hm:fn.ntmps=m) (hargs:Nat.ble args.length m=true) (hres:fn.results=ts.toArray) (hr:aV 0 r)
  (h:(∀a∈args,Small a)-> ∀σ,cVC P W0 m fz c (cY P (Uh ts r σ)) ⟨iH args,σ⟩):ag P W0 f args r:=λσ=>
 CV ts fz hf hb hnm hm hargs hres (eR (Nat.zero_le _) hr) λhs=>h hs σ
def Sb :Nat->Code->Option (Code×Code)
 |0,.seq x y=>some (x,y)
 |k+1,.seq x y=>(Sb k y).map λz=>(.seq x z.1,z.2)
 |_,_=>none
theorem VC.abK {c:Code}{Q:Exit->aa->Prop}{B:aa}(hf:lM P A B)(h:VC P W0 n c Q B):VC P W0 n c Q A:=λw C a hr=>by
 obtain⟨C',h1,h2⟩:=bG.VW hf hr;exact iq (h w C' a h1) λ_ _ _ ⟨A',C2,q,r,s⟩=>⟨A',C2,q,r,h2.trans s⟩
theorem VC.cut {fz:List Nat}{Q:Exit->aa->Prop}: ∀(k:Nat) {c x y:Code} {A:aa},Sb k c=some (x,y)->cVC P W0 n fz x (cq (λA'=>∃ B,lM P A' B/\cVC P W0 n fz y Q B) Q) A->VC P W0 n c Q A
 |0,.seq x y,_,_,A,h,hv=>by
  cases h;refine .seq ((bA x _ _ hv).mono λe A' q=>?_);cases e with
  |normal=>
   obtain⟨B,hf,hq⟩:=q;exact .abK hf (bA y _ _ hq)
  |_=>exact q
 |k+1,.seq x z,_,y,A,h,hv=>by
  obtain⟨⟨u,v⟩,hu,e⟩:=Option.map_eq_some_iff.1 (show(Sb k z).map (λz=>(Code.seq x z.1,z.2))=_ from h);cases e;refine .seq ((bA x _ _ hv).mono λe A' q=>?_);cases e with
  |normal=>exact VC.cut k hu q
  |_=>exact q
def SC (ts:List ResultVar)(r:AV)(σ:ab):Exit->aa->Prop
 | .normal,A| .ret,A=>Uh ts r σ A
 |_,_=>False
theorem lR {f : FuncId} {fn : Func} {c : Code} {args : List AV} {r : AV} {m : Nat} (ts : List ResultVar) (fz : List Nat) (hf : P.funcs[f]? = some fn) (hb : fn.body = some c) (hnm : (fn.name == "runtime.NumGoroutine") = false)
  (hm:fn.ntmps=m) (hargs:Nat.ble args.length m=true) (hres:fn.results=ts.toArray) (hr:aV 0 r)
  (h:(∀a∈args,Small a)-> ∀σ,cVC P W0 m fz c (SC ts r σ) ⟨iH args,σ⟩):ag P W0 f args r:=
 xd ts fz hf hb hnm hm hargs hres hr λhs σ=>e8 c _ (λe A' _ q=>by
  cases e with
  |normal=>exact cY.normal q
  |ret=>exact cY.ret q
  |_=>exact q.elim) (h hs σ)
@[go_sem ↓] theorem Y5 {fz:List Nat}{k:aa->Prop}(dst:Option Nat)(t:TypeId):eop P W0 fz dst A k (.alloc t)=op2 P W0 fz dst A k (.alloc t):=propext acd
theorem Mu (ts:List ResultVar)(r:AV):SC ts r σ .ret A=(ny A ts/\df (tY A ts) r/\A.st.take σ.length=σ):=propext acd
theorem AW (ts:List ResultVar)(r:AV):SC ts r σ .normal A=(ny A ts/\df (tY A ts) r/\A.st.take σ.length=σ):=propext acd
theorem Ua (ts:List ResultVar)(r:AV):Uh ts r σ A=(ny A ts/\df (tY A ts) r/\A.st.take σ.length=σ):=propext acd
theorem VX (ts:List ResultVar)(Q:AV->ab->Prop):Mo ts σ Q A=(ny A ts/\ ∃r,df (tY A ts) r/\σ.length<=A.st.length/\Q r A.st):=propext acd
theorem QL (t:ResultVar):tY A [t]=gE A t:=rfl
theorem SI (t u:ResultVar):tY A [t,u]= .tup [gE A t,gE A u]:=rfl
theorem GG (t u v:ResultVar):tY A [t,u,v]= .tup [gE A t,gE A u,gE A v]:=rfl
theorem PO :tY A []= .tup []:=rfl
theorem S9 (t:Nat):gE A (.tmp t)=A.env t:=rfl
theorem N2 (t:Nat)(ty:TypeId):gE A (.cell t ty)=tK A.st (A.env t):=rfl
theorem N5 (t:Nat):vT A (.tmp t)=True:=rfl
theorem JC (t:Nat)(ty:TypeId):vT A (.cell t ty)=tB none A.st ty (A.env t):=rfl
theorem Na :ny A []=True:=rfl
theorem JL (t:ResultVar)(r:List ResultVar):ny A (t::r)=(vT A t/\ny A r):=rfl
attribute [go_sem] Mu AW Ua VX QL SI GG PO S9 N2 N5 JC Na JL
end
def im :Obj->Bool
 | .cells ..=>false
 |_=>true
structure dz (w:World)(C:Ctx)(D:Nat)(o:Obj):Prop where
 hp:w.heap[D]?=some o
 nc:im o=true
 no: ∀id ow,C.m id=some ow->ow.blk≠D
section
variable {P :Program}{W0 w w' w0:World}{C C' C0:Ctx}{σ σ':ab}{n:Nat}{A:aa}{a:Act}{D:Nat}{o o':Obj}
theorem dz.step (h:dz w C D o)(hs:Step w C w' C'):dz w' C' D o:=by
 obtain⟨e,k⟩:=hs.block D (ab5.1 h.hp).1 h.no;exact⟨e.trans h.hp,h.nc,k⟩
theorem V0 {b i:Nat}(h:w.heap[b]?=some o)(h1:im o=true):w.cell? ⟨b,i,none⟩=none:=by
 unfold World.cell?;simp only[h];cases o<;>first|rfl|cases h1
theorem vC (h:w.heap[D]?=some o)(h1:im o=true)(h2:im o'=true)(b i:Nat):(w.putObj D o').cell? ⟨b,i,none⟩=w.cell? ⟨b,i,none⟩:=by
 grind [V0,World.putObj_heap_same,World.cell?,World.putObj_heap_other]
theorem dz.Q1 (h:dz w C D o)(h2:im o'=true):lh w C (w.putObj D o') C:=
 ⟨ab9 _,λ_ _ _ h=>h,λb i hs=>⟨vC h.hp h.nc h2 b i,by grind [fw,World.putObj_size]⟩⟩
theorem dz.put (h:dz w C D o)(h2:im o'=true):dz (w.putObj D o') C D o':=⟨World.putObj_heap_same (ab5.1 h.hp).1,h2,h.no⟩
theorem dz.other {D':Nat}{o2:Obj}(h:dz w C D o)(hne:D≠D'):dz (w.putObj D' o2) C D o:=⟨(World.putObj_heap_other hne).trans h.hp,h.nc,h.no⟩
theorem aE.apart (h:aE P W0 w C σ)(hA:dz w C D o)(h2:im o'=true)(hD:W0.heap.size<=D):aE P W0 (w.putObj D o') C σ:=by
 refine⟨h.base.trans ⟨rfl,rfl,rfl,by simp_all,λk hk=>World.putObj_heap_other (by omega)⟩,h.low,h.nx,h.inj,h.dom,λi=>?_⟩;exact(h.obj i).gq (hA.Q1 h2) λx hx=>World.putObj_heap_other (hA.no i x hx)
theorem bG.apart (h:bG P W0 n w C A a)(hA:dz w C D o)(h2:im o'=true)(hD:W0.heap.size<=D):bG P W0 n (w.putObj D o') C A a:=
 ⟨λi=>(h.env i).gq (hA.Q1 h2),h.defers,h.size,h.st.apart hA h2 hD⟩
theorem Step.apart (h:Step w0 C0 w C)(hA:dz w C D o)(h2:im o'=true)(hD:w0.heap.size<=D):Step w0 C0 (w.putObj D o') C:=
 ⟨h.nx,h.dead,λb i hs=>by
  obtain⟨e,s⟩:=h.il b i hs;exact⟨(vC hA.hp hA.nc h2 b i).trans e,by grind [fw,World.putObj_size]⟩,h.os,h.tape,h.output,by rw[World.putObj_size];exact h.size,λb hb hn=>by
  grind [Step.block,World.putObj_heap_other]⟩
theorem dz.new (h:aE P W0 w C σ)(o:Obj)(ho:im o=true):dz (w.alloc o) C w.heap.size o:=⟨World.alloc_heap_new w o,ho,h.fresh⟩
def mU (w:World)(C:Ctx)(B:Nat)(ms:List Deferred):Prop:=∀ d∈ms,∃D,d={ target:=.collected D,args:=#[] }/\B<=D/\dz w C D (.deferred (some []))
theorem mU.step {B:Nat}{ms:List Deferred}(h:mU w C B ms)(hs:Step w C w' C'):mU w' C' B ms:=λd hd=>by
 obtain⟨D,h1,h2,h3⟩:=h d hd;grind [dz.step]
def VCM (P:Program)(W0:World)(n:Nat)(c:Code)(Q:Exit->aa->Prop)(A:aa):Prop:=
 ∀w C a ms B,bG P W0 n w C A a->mU w C B ms->(ms.map (·.target)).Nodup->B<=w.heap.size->c.wpIn .wide 0 P (λe a' w'=>∃ a0 ms' A' C',a'=more a0 ms'/\Q e A'/\bG P W0 n w' C' A' a0/\mU w' C' B ms'/\(ms'.map (·.target)).Nodup/\Step w C w' C') (more a ms) w
theorem VCM.of {c:Code}{Q:Exit->aa->Prop}(h:VC P W0 n c Q A):VCM P W0 n c Q A:=λw C a ms B hr hm hd hB=>
 wpIn_mono (h w C a hr none 0 ms) λe a' w' ⟨a0,e0,A',C',q,r,s⟩=>⟨a0,ms,A',C',e0,q,r,hm.step s,hd,s⟩
theorem VCM.seq {x y:Code}{Q:Exit->aa->Prop}(h:VCM P W0 n x (cq (VCM P W0 n y Q) Q) A):VCM P W0 n (.seq x y) Q A:=λw C a ms B hr hm hd hB=>
 wpIn_seq (wpIn_mono (h w C a ms B hr hm hd hB) λe a' w' ⟨a0,ms',A',C',e0,q,r,m,d,s⟩=>by
  cases e with
  |normal=>
   subst e0;exact wpIn_mono (q w' C' a0 ms' B r m d (acb hB s.size)) λ_ _ _ ⟨a1,ms'',A'',C'',e1,q',r',m',d',s'⟩=>⟨a1,ms'',A'',C'',e1,q',r',m',d',s.trans s'⟩
  |_=>exact⟨a0,ms',A',C',e0,q,r,m,d,s⟩)
theorem VCM.block {id:Nat}{c:Code}{Q:Exit->aa->Prop}(h:VCM P W0 n c (en id Q) A):VCM P W0 n (.block id c) Q A:=λw C a ms B hr hm hd hB=>
 wpIn_block (wpIn_mono (h w C a ms B hr hm hd hB) λe a' w' ⟨a0,ms',A',C',e0,q,r,m,d,s⟩=>by
  cases e with
  |exit id'=>
   grind [en,Exit.inBlock]
  |_=>exact⟨a0,ms',A',C',e0,q,r,m,d,s⟩)
theorem VCM.mono {c:Code}{Q Q':Exit->aa->Prop}(h:VCM P W0 n c Q A)(hq: ∀e A,Q e A->Q' e A):VCM P W0 n c Q' A:=λw C a ms B hr hm hd hB=>
 wpIn_mono (h w C a ms B hr hm hd hB) λ_ _ _ ⟨a0,ms',A',C',e0,q,r,m,d,s⟩=>⟨a0,ms',A',C',e0,hq _ _ q,r,m,d,s⟩
theorem Kx {fn:Func}{tmps:Array Value}{R:Ending->World->Prop}{B:Nat}: ∀(ms:List Deferred) (w:World) (C:Ctx),mU w C B ms->(ms.map (·.target)).Nodup->
  (∀w',(∀A a,bG P W0 n w C A a->W0.heap.size<=B->bG P W0 n w' C A a)->(∀w0 C0,Step w0 C0 w C->w0.heap.size<=B->Step w0 C0 w' C)->LeavesIn .wide 0 P fn tmps R [] .returning w')->LeavesInM .wide 0 P fn tmps R ms .returning w
 |[],w,C,_,_,h=>h w (λ_ _ h _=>h) (λ_ _ h _=>h)
 |d::ms,w,C,hm,hd,h=>by
  obtain⟨D,rfl,hB,hA⟩:=hm d (by simp);rw[List.map_cons,List.nodup_cons]at hd;refine⟨by simp,.inl ⟨D,w.putObj D (.deferred none),rfl,run_takeDeferred hA.hp,Kx ms _ C (λd hdm=>?_) hd.2 λw' h1 h2=>h w' (λA a hr hl=>h1 A a (hr.apart hA rfl (acb hl hB)) hl) (λw0 C0 hs hl=>h2 w0 C0 (hs.apart hA rfl (acb hl hB)) hl)⟩⟩;obtain⟨D',rfl,hB',hA'⟩:=hm d (by simp[hdm]);grind [dz.other]
theorem QH {f : FuncId} {fn : Func} {c : Code} {args : List AV} {Q : AV → ab → Prop} {m : Nat} (ts : List ResultVar) (hf : P.funcs[f]? = some fn) (hb : fn.body = some c) (hnm : (fn.name == "runtime.NumGoroutine") = false)
  (hm:fn.ntmps=m) (hargs:Nat.ble args.length m=true) (hres:fn.results=ts.toArray)
  (h:(∀a∈args,Small a)->VCM P W0 m c (cY P (Mo ts σ Q)) ⟨iH args,σ⟩):aO P W0 f args σ Q:=by
 subst hm;refine λw C vs hst hl hv=>?_
 have hsm: ∀a∈args,Small a:=dV λi x hx=>(hv i x _ hx (ab6 (by grind))).small
 have hr0:=lS (m:=fn.ntmps) hst hl hv (ab8 hargs);refine .inl ⟨⟨fn,hf,by simp[hb],hnm⟩,(callsIn_wide (n:=0)).1 (callsIn_of_wp_marks hf hb trivial ?_)⟩;have h0:=h hsm w C _ [] w.heap.size hr0 (λd hd=>by cases hd) (by simp) (ab9 _);rw[fL]at h0;refine wpIn_mono h0 λe a' w' ⟨a0,ms',A',C',e0,q,r,mk,md,s⟩=>?_
 have fin:(∃B,lM P A' B/\Mo ts σ Q B)->LeavesInM .wide 0 P fn a'.tmps (λe w'=>∃ v r σ' C',e= .returned v/\Q r σ'/\aE P W0 w' C' σ'/\aI P w' C' r v/\Step w C w' C') a'.defers .returning w':=by
  rintro⟨B,g1,hc,r1,h2,_,h4⟩;obtain⟨C'',k1,k2⟩:=r.VW g1;have ed:a'.defers=ms':=by grind [more,bG.defers]
  have et:a'.tmps=a0.tmps:=by rw[e0];rfl
  rw[ed,et];refine Kx (P:=P) (W0:=W0) (n:=fn.ntmps) (B:=w.heap.size) ms' w' C'' (mk.step k2) md λw3 g3 g4=>?_
  have r3:=g3 B a0 k1 hst.base.size;obtain⟨v,q1,q2⟩:=mI r3 hres hc;exact⟨v,q1,v,r1,B.st,C'',rfl,h4,r3.st,q2.bT h2,g4 w C (s.trans k2) (ab9 _)⟩
 cases e with
 |normal=>exact fin q
 |ret=>exact fin q
 |_=>exact q.elim
end
open Go Go.Sort
section
variable {P :Program}{W0 w:World}{C:Ctx}{σ:ab}
theorem aE.CM {id:Nat}{te:TypeId}{xs ys:List AV}{fl:Array Value}{k n:Nat}{os:Array Obj}{b base room:Nat}(h:aE P W0 w C σ)(hs:σ[id]?=some (some (.cells te xs)))(hm:C.m id=some (.obj b te base room))
  (hk:af P te=k) (hl:ys.length=xs.length) (hfl:fl.size=xs.length*k)
  (hy: ∀(i:Nat) (y:AV),ys[i]?=some y-> ∃cs,Rel P w C y cs/\cs.length=k/\fits P te y/\ ∀(j:Nat) (c:Value),cs[j]?=some c->fl[i*k+j]?=some c):
  Step w C (grow (putRow (λv:Value=>v) (Sort.ahead w n) b base fl) os) C/\aE P W0 (grow (putRow (λv:Value=>v) (Sort.ahead w n) b base fl) os) C (σ.set id (some (.cells te ys))):=by
 obtain⟨b',base',room',arr,t',fr,m1,m2,mf,m3,m4,cf,m5⟩:=h.cells hs;rw[hm]at m1;cases m1;have hbl:b<w.heap.size:=(ab5.1 m2).1;have hidl:=(ab4.1 hs).1;obtain⟨w',hw'⟩: ∃w',w'=grow (putRow (λv:Value=>v) (Sort.ahead w n) b base fl) os:=⟨_,rfl⟩;have hsz:(putRow (λv:Value=>v) (Sort.ahead w n) b base fl).heap.size=w.heap.size:=by simp_all
 have hot: ∀j,j<w.heap.size->j≠b->w'.heap[j]?=w.heap[j]?:=λj hj hne=>by
  grind [Sort.heap_grow_old,Sort.putRow,Sort.mapBlock,Sort.ahead]
 have hat:w'.heap[b]?=some (.cells (putCells (λv:Value=>v) base fl arr) t' fr):=by
  rw[hw',heap_grow_old _ _ (by omega)];simp only[putRow,mapBlock,Sort.ahead];rw[Array.getElem?_modify,if_pos rfl,m2];rfl
 have hsize:w.heap.size<=w'.heap.size:=by simp_all
 have hst:Step w C w' C:=⟨ab9 _,λ_ _ _ h=>h,λb0 o0 hs0=>by
  have hne:b0≠b:=λe=>by
   obtain⟨e1,hw,cap,e2,_⟩:=hs0.2 id _ hm (by rw[e];rfl);cases e2
  refine⟨?_,Nat.lt_of_lt_of_le hs0.1 hsize,hs0.2⟩;unfold World.cell?;simp only[hot b0 hs0.1 hne],by rw[hw'];rfl,by simp_all,by rw[hw'];rfl,hsize,λj hj hn=>⟨hot j hj λe=>hn id _ hm (by rw[e];rfl),hn⟩⟩
 rw[<-hw'];refine⟨hst,h.change hst h.low (by rw[h.nx];simp) h.inj h.dom λj=>?_⟩;by_cases hj:j=id
 .subst hj;left;rw[ab7 hidl,aca,hm];have hps:(putCells (λv:Value=>v) base fl arr).size=arr.size:=by simp[putCells]
  classical
  refine⟨rfl,_,t',fr,hat,by simp_all,by omega,by simp_all,λi=>(ys[i]?.bind λy=>if hex: ∃cs,Rel P w C y cs/\cs.length=k/\fits P te y/\ ∀(j:Nat) (c:Value),cs[j]?=some c->fl[i*k+j]?=some c then some (Classical.choose hex)else none).getD [],λi x hx=>?_⟩;have hex:=hy i x hx;simp only[hx,Option.bind_some,dif_pos hex,Option.getD_some];obtain⟨r1,r2,r3,r4⟩:=acf hex;refine⟨r1.mono hst,by omega,r3,λq c hq=>?_⟩;have hflq:=r4 q c hq;have hql:q<k:=by grind
  have hlt:=(ab5.1 hflq).1;have hin:base+i*k+q<arr.size:=by
   grind
  rw[hk];simp only[putCells,Array.getElem?_mapIdx];grind
 .right;refine⟨by grind,rfl,λow ho=>hot _ (h.lt ho) λe=>hj (h.inj j id _ _ ho hm (by rw[e];rfl))⟩
end
end Go.Av
end
