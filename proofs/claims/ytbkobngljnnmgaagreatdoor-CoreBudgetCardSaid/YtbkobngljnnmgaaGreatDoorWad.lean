/- Texts that the last one of this claim rests on: a layer over the guide's own conditions for code; contracts of the functions that the law reaches, one by one. No conditions beside those of the given rows. -/
import Derived.IntWalk
import Derived.RangeFuncLeaves
import Derived.RangeFuncRecord
import Derived.Shelf.SlSortCmp.NoneTotal
import Derived.Test.YtbkobngljnnmgaaGreatDoorProg
import Derived.Test.YtbkobngljnnmgaaGreatDoorWac
set_option linter.unusedSimpArgs false
set_option linter.unusedVariables false
open List renaming getElem?_eq_some_iff->acO,getElem?_eq_getElem->acQ,getElem?_set_self->acR
open Array renaming getElem?_eq_some_iff->acP
open Nat renaming le_of_ble_eq_true->acS,le_refl->acT,le_trans->acV,succ_pos->acX
open Option renaming join_some->acU
open Iff renaming rfl->acW
open Classical renaming choose_spec->acY
section
namespace Go.Av
open Go
theorem aH {n:Int}(h: -9223372036854775808<=n/\n<=9223372036854775807):IntKind.i64.wrap n=n:=by grind [IntKind.wrap_i64]
@[go_sem] theorem wrap_u8 (c:UInt8):IntKind.i64.wrap (c.toNat:Int)=c.toNat:=aH (by grind [UInt8.toNat_lt])
theorem Bs.of {fz:List Nat}{id:Nat}{ops:Array Oper}(h:BH fz (eM fz id) ops (G6 [] ops.toList)=true):Bs fz id ops .mk:=h
@[go_sem] theorem Ve (n:Nat):(((n+1:Nat):Int)==0)=false:=by grind
@[go_sem] theorem Z4 (n:Nat):((no_index (OfNat.ofNat n):Nat):Int)=(OfNat.ofNat n:Int):=rfl
@[go_sem] theorem ZS (n:Nat)(h:n<=9223372036854775807):IntKind.i64.wrap (no_index (OfNat.ofNat n):Int)=(OfNat.ofNat n:Int):=aH (by
 have e:(OfNat.ofNat n:Int)=((n:Nat):Int):=rfl;omega)
theorem au :maxLen=9223372036854775807:=rfl
theorem j9 {i N:Nat}(h:i<N)(hN:N<=maxLen):IntKind.i64.wrap ((i:Int)+1)=((i+1:Nat):Int):=by
 grind [au,aH]
theorem ah {i N:Nat}(h:i<N)(hN:N<=maxLen):AV.int .i64 (IntKind.i64.wrap ((i:Int)+1))= .int .i64 ((i+1:Nat):Int):=by rw[j9 h hN]
theorem dw {l:List UInt8}(h:Small (.str l)):l.length<=maxLen:=by cases h;assumption
theorem LH {e:TypeId}{xs:List AV}(h:Small (.sl e xs)):xs.length<=maxLen/\ ∀x∈xs,Small x:=by cases h;simp_all
theorem aQ {α:Type}{f:α->AV}{e:TypeId}{l:List α}(h:Small (.sl e (l.map f))):l.length<=maxLen/\ ∀x∈l,Small (f x):=by
 obtain⟨h1,h2⟩:=LH h;simp_all
@[go_sem] theorem W9 {α:Type}(l:List α)(i:Nat):iG l i l.length=l.drop i:=by
 grind [iG,List.length_drop]
@[go_sem] theorem VJ {α:Type}(l:List α)(j:Nat):iG l 0 j=l.take j:=by simp[iG]
@[go_sem] theorem RB {α:Type}(c:α)(r:List α):iG (c::r) 1 (r.length+1)=r:=by simp[iG]
@[go_sem] theorem abI :(([]:List UInt8)==[])=true:=rfl
@[go_sem] theorem Yk (c:UInt8)(r:List UInt8):((c::r:List UInt8)==[])=false:=rfl
@[go_sem] theorem Nh (c:UInt8)(r:List UInt8):(([]:List UInt8)==c::r)=false:=rfl
attribute [go_sem] List.drop_succ_cons List.drop_zero List.length_cons List.length_nil true_implies false_implies Bool.false_eq_true Bool.true_eq_false
@[go_sem] theorem Zy (n:Nat):(0<n+1)=True:=eq_true (acX n)
@[go_sem] theorem Qo (n:Nat):(1<=n+1)=True:=eq_true (acX n)
attribute [go_sem] acT not_true_eq_false not_false_eq_true
@[go_sem] theorem Nj (n:Nat):(n<0)=False:=eq_false (Nat.not_lt_zero n)
theorem LK {l:List UInt8}{i:Nat}{f:UInt8->Bool}:(decide (i<l.length)&&f (l[i]?.getD 0))=true↔ ∃c,l[i]?=some c/\f c=true:=by
 grind
theorem KO {l:List UInt8}{i:Nat}{f:UInt8->Bool}:(decide (i<l.length)&&f (l[i]?.getD 0))=false↔ ∀c,l[i]?=some c->f c=false:=by
 grind
theorem zW (σ l:ab)(k:Nat):(σ++l)[σ.length+k]?=l[k]?:=by grind
@[go_sem] theorem KX (σ l:ab)(k i:Nat)(path:List Nat):look (σ++l) (σ.length+k) i path=look l k i path:=by simp[look,zW]
@[go_sem] theorem VV (σ l:ab)(i:Nat)(path:List Nat):look (σ++l) σ.length i path=look l 0 i path:=KX σ l 0 i path
@[go_sem] theorem VY (t:TypeId)(xs:List AV)(l:ab)(i:Nat)(path:List Nat):look (some (.cells t xs)::l) 0 i path=(xs[i]?).bind (·.at path):=rfl
@[go_sem] theorem WI (o:Option bK)(l:ab)(k i:Nat)(path:List Nat):look (o::l) (k+1) i path=look l k i path:=rfl
@[go_sem] theorem X4 (σ l:ab):(σ++l)[σ.length]?=l[0]?:=zW σ l 0
theorem nQ {s:List UInt8}{pos:Nat}{c:UInt8}(h:s[pos]?=some c)(hc:c.toNat<128):iI s pos=(c.toNat,1):=by
 grind [ByteArray.get!,iI,Utf8.decode]
theorem sn {s:List UInt8}{pos:Nat}{c:UInt8}(h:s[pos]?=some c)(hc:128<=c.toNat):128<=(iI s pos).1:=by
 grind [ByteArray.get!,iI,Utf8.decode,Utf8.runeError]
theorem Dj (σ l:ab)(k:Nat)(o:Option bK):(σ++l).set (σ.length+k) o=σ++l.set k o:=by
 simp_all
@[go_sem] theorem abh (σ l:ab)(k:Nat)(o:Option bK):(σ++l).set (σ.length+k) o=σ++l.set k o:=Dj σ l k o
@[go_sem] theorem aam (σ l:ab)(o:Option bK):(σ++l).set σ.length o=σ++l.set 0 o:=Dj σ l 0 o
@[go_sem] theorem B9 (σ l:ab)(k i:Nat)(path:List Nat)(v:AV):dR (σ++l) (σ.length+k) i path v=σ++dR l k i path v:=by
 unfold dR;rw[zW];split
 .simp_all
 .rfl
@[go_sem] theorem Px (σ l:ab)(i:Nat)(path:List Nat)(v:AV):dR (σ++l) σ.length i path v=σ++dR l 0 i path v:=B9 σ l 0 i path v
@[go_sem] theorem OQ (t:TypeId)(xs:List AV)(l:ab)(i:Nat)(path:List Nat)(v:AV):dR (some (.cells t xs)::l) 0 i path v=some (.cells t (xs.set i ((xs[i]?.getD .undef).setAt path v)))::l:=rfl
@[go_sem] theorem Oy (o:Option bK)(l:ab)(k i:Nat)(path:List Nat)(v:AV):dR (o::l) (k+1) i path v=o::dR l k i path v:=by
 grind [dR]
@[go_sem] theorem acm (v:AV):v.at []=some v:=by cases v<;>rfl
@[go_sem] theorem aaL (t:TypeId)(fs:List AV)(k:Nat)(r:List Nat):(AV.agg t fs).at (k::r)=(fs[k]?).bind (·.at r):=rfl
@[go_sem] theorem Wa (v u:AV):v.setAt [] u=u:=by cases v<;>rfl
attribute [go_sem] List.length_append List.append_assoc List.cons_append List.nil_append
def Ext (σ st:ab):Prop:=st.take σ.length=σ
theorem Ext.refl (σ:ab):Ext σ σ:=List.take_length
theorem Ext.le {σ st:ab}(h:Ext σ st):σ.length<=st.length:=by
 have:=congrArg List.length h;grind
theorem Ext.app {σ st:ab}(h:Ext σ st)(l:ab):Ext σ (st++l):=by
 grind [Ext]
theorem Ext.set {σ st:ab}(h:Ext σ st){id:Nat}(hid:σ.length<=id)(o:Option bK):Ext σ (st.set id o):=by
 grind [Ext,List.take_set_of_le]
@[go_sem] theorem aah (σ l:ab):(σ++l).take σ.length=σ:=List.take_left
theorem aq {a b:Bool}(h:a=b):dc (.bool a) (.bool b):=by rw[h];exact .refl _
theorem az {k:IntKind}{a b:Int}(h:a=b):dc (.int k a) (.int k b):=by rw[h];exact .refl _
theorem oH {a b:List UInt8}(h:a=b):dc (.str a) (.str b):=by rw[h];exact .refl _
def dd :AV->Prop| .maybe _ _=>False|_=>True
theorem cq {gd:Option Bool}{x:AV}(h:dd x):okM gd x=True:=by cases x<;>first|exact h.elim|exact eq_true trivial
theorem cY {x:AV}(h:dd x):unm x=x:=by cases x<;>first|exact h.elim|rfl
theorem aw {α:Type}{f:α->AV}{l:List α}{i:Nat}{a:α}(h:l[i]?=some a):atV (l.map f) (i:Int)=f a:=by
 grind [atV]
theorem get_some {α:Type}{l:List α}{i:Nat}(h:i<l.length): ∃x,l[i]?=some x:=⟨_,acQ h⟩
theorem ai {α:Type}{l:List α}{i:Nat}{x:α}(h:l[i]?=some x):l.take (i+1)=l.take i++[x]:=by
 grind [List.take_add_one]
end Go.Av
end
section
namespace Go.Proofs.Tryz
open Go Go.Av
@[go_sem] theorem VN :prog.follows .mixedOrders=true/\af prog 3=1/\cg prog 3=true/\fD prog 3=some .i64/\bm prog 3=true/\zeroOf prog 3=some (.int .i64 0)/\af prog 4=1/\cg prog 4=true/\j5 prog 4=true/\bm prog 4=true/\zeroOf prog 4=some (.bool false)/\af prog 5=1:=by and_intros<;>kernel_rfl
@[go_sem] theorem acr :cg prog 5=true/\fD prog 5=some .u8/\od prog 9=true/\af prog 9=1/\cg prog 9=true/\bV prog 9=true/\fD prog 9=none/\bm prog 9=true/\fD prog 21=some .i32/\cg prog 22=true/\elT prog 22=some 53/\cg prog 23=true:=by and_intros<;>kernel_rfl
@[go_sem] theorem abq :elT prog 23=some 51/\zeroOf prog 23=some .ar/\elT prog 24=some 66/\cg prog 27=true/\elT prog 27=some 100/\bw prog 29=some [3,3,3,3,3]/\zeroOf prog 29=some (.agg 29 [(.int .i64 0),(.int .i64 0),(.int .i64 0),(.int .i64 0),(.int .i64 0)])/\df prog 29=true/\cX prog 29=[(.int .i64 0),(.int .i64 0),(.int .i64 0),(.int .i64 0),(.int .i64 0)]/\cg prog 30=true/\elT prog 30=some 117/\bp prog 32=true:=by and_intros<;>kernel_rfl
@[go_sem] theorem abr :bw prog 32=some [3,22,27,29,30]/\zeroOf prog 32=some (.agg 32 [(.int .i64 0),.ar,.ar,(.agg 29 [(.int .i64 0),(.int .i64 0),(.int .i64 0),(.int .i64 0),(.int .i64 0)]),.ar])/\df prog 32=true/\cX prog 32=[(.int .i64 0),.ar,.ar,(.agg 29 [(.int .i64 0),(.int .i64 0),(.int .i64 0),(.int .i64 0),(.int .i64 0)]),.ar]/\fD prog 39=some .u64/\af prog 47=1/\cg prog 47=true/\elT prog 47=some 77/\bm prog 47=true/\cg prog 48=true/\elT prog 48=some 76/\cg prog 49=true:=by and_intros<;>kernel_rfl
@[go_sem] theorem abm :elT prog 49=some 179/\af prog 51=9/\bp prog 51=true/\bm prog 51=true/\bw prog 51=some [9,9,47,47,47,48,48,49,4]/\zeroOf prog 51=some (.agg 51 [(.str []),(.str []),.ar,.ar,.ar,.ar,.ar,.ar,(.bool false)])/\df prog 51=true/\cX prog 51=[(.str []),(.str []),.ar,.ar,.ar,.ar,.ar,.ar,(.bool false)]/\af prog 53=11/\bp prog 53=true/\bm prog 53=true/\bw prog 53=some [51,4,4]:=by and_intros<;>kernel_rfl
@[go_sem] theorem abf :zeroOf prog 53=some (.agg 53 [(.agg 51 [(.str []),(.str []),.ar,.ar,.ar,.ar,.ar,.ar,(.bool false)]),(.bool false),(.bool false)])/\df prog 53=true/\cX prog 53=[(.agg 51 [(.str []),(.str []),.ar,.ar,.ar,.ar,.ar,.ar,(.bool false)]),(.bool false),(.bool false)]/\cg prog 60=true/\elT prog 60=some 4/\af prog 66=3/\bp prog 66=true/\bm prog 66=true/\bw prog 66=some [3,9,9]/\zeroOf prog 66=some (.agg 66 [(.int .i64 0),(.str []),(.str [])])/\df prog 66=true/\cX prog 66=[(.int .i64 0),(.str []),(.str [])]:=by and_intros<;>kernel_rfl
@[go_sem] theorem aaZ :cg prog 73=true/\elT prog 73=some 9/\zeroOf prog 73=some .ar/\af prog 76=3/\bp prog 76=true/\bm prog 76=true/\bw prog 76=some [9,3,9]/\zeroOf prog 76=some (.agg 76 [(.str []),(.int .i64 0),(.str [])])/\df prog 76=true/\cX prog 76=[(.str []),(.int .i64 0),(.str [])]/\af prog 77=1/\cg prog 77=true:=by and_intros<;>kernel_rfl
@[go_sem] theorem abd :elT prog 77=some 76/\bm prog 77=true/\cg prog 80=true/\gW prog 80=true/\cg prog 84=true/\elT prog 84=some 88/\af prog 88=1/\cg prog 88=true/\elT prog 88=some 3/\bm prog 88=true/\af prog 100=3/\bp prog 100=true:=by and_intros<;>kernel_rfl
@[go_sem] theorem aay :bm prog 100=true/\bw prog 100=some [3,9,9]/\zeroOf prog 100=some (.agg 100 [(.int .i64 0),(.str []),(.str [])])/\df prog 100=true/\cX prog 100=[(.int .i64 0),(.str []),(.str [])]/\cg prog 111=true/\af prog 117=5/\bm prog 117=true/\bw prog 117=some [3,9,4,3,9]/\df prog 117=true/\cX prog 117=[(.int .i64 0),(.str []),(.bool false),(.int .i64 0),(.str [])]/\j3 prog 119=some 47:=by and_intros<;>kernel_rfl
@[go_sem] theorem X3 :bw prog 119=some [47,47,47]/\df prog 119=true/\cX prog 119=[.ar,.ar,.ar]/\gW prog 120=true/\bp prog 128=true/\bw prog 128=some [22,23,30]/\df prog 128=true/\cX prog 128=[.ar,.ar,.ar]/\cg prog 139=true/\elT prog 139=some 150/\cg prog 140=true/\elT prog 140=some 148:=by and_intros<;>kernel_rfl
@[go_sem] theorem Z5 :cg prog 141=true/\elT prog 141=some 218/\bp prog 143=true/\bw prog 143=some [23,22,24,84,60,139,140,4,4,3,3,4,141]/\df prog 143=true/\cX prog 143=[.ar,.ar,.ar,.ar,.ar,.ar,.ar,(.bool false),(.bool false),(.int .i64 0),(.int .i64 0),(.bool false),.ar]/\af prog 148=1/\cg prog 148=true/\bm prog 148=true/\zeroOf prog 148=some (.int .u32 0)/\af prog 150=6/\bp prog 150=true:=by and_intros<;>kernel_rfl
@[go_sem] theorem XC :bm prog 150=true/\bw prog 150=some [4,148,140,140,3,4]/\zeroOf prog 150=some (.agg 150 [(.bool false),(.int .u32 0),.ar,.ar,(.int .i64 0),(.bool false)])/\df prog 150=true/\cX prog 150=[(.bool false),(.int .u32 0),.ar,.ar,(.int .i64 0),(.bool false)]/\j3 prog 168=some 47/\bw prog 168=some [47,47,47,47,47,47]/\df prog 168=true/\cX prog 168=[.ar,.ar,.ar,.ar,.ar,.ar]/\j3 prog 172=some 9/\bw prog 172=some [9,9]/\zeroOf prog 172=some (.agg 172 [(.str []),(.str [])]):=by and_intros<;>kernel_rfl
@[go_sem] theorem Z0 :df prog 172=true/\cX prog 172=[(.str []),(.str [])]/\j3 prog 173=some 172/\bw prog 173=some [172,172,172]/\df prog 173=true/\cX prog 173=[(.agg 172 [(.str []),(.str [])]),(.agg 172 [(.str []),(.str [])]),(.agg 172 [(.str []),(.str [])])]/\af prog 179=2/\bp prog 179=true/\bm prog 179=true/\bw prog 179=some [9,9]/\zeroOf prog 179=some (.agg 179 [(.str []),(.str [])])/\bp prog 182=true:=by and_intros<;>kernel_rfl
@[go_sem] theorem XK :bw prog 182=some [9,4,4]/\zeroOf prog 182=some (.agg 182 [(.str []),(.bool false),(.bool false)])/\df prog 182=true/\cX prog 182=[(.str []),(.bool false),(.bool false)]/\cg prog 185=true/\gW prog 185=true/\bp prog 188=true/\bw prog 188=some [3,185]/\df prog 188=true/\cX prog 188=[(.int .i64 0),.nil]/\af prog 190=1/\cg prog 190=true:=by and_intros<;>kernel_rfl
@[go_sem] theorem Yi :fD prog 190=some .i64/\bm prog 190=true/\af prog 191=1/\cg prog 191=true/\elT prog 191=some 190/\bm prog 191=true/\bp prog 201=true/\bw prog 201=some [23]/\df prog 201=true/\cX prog 201=[.ar]/\af prog 218=6/\bp prog 218=true:=by and_intros<;>kernel_rfl
@[go_sem] theorem XN :bm prog 218=true/\bw prog 218=some [148,29]/\zeroOf prog 218=some (.agg 218 [(.int .u32 0),(.agg 29 [(.int .i64 0),(.int .i64 0),(.int .i64 0),(.int .i64 0),(.int .i64 0)])])/\df prog 218=true/\cX prog 218=[(.int .u32 0),(.agg 29 [(.int .i64 0),(.int .i64 0),(.int .i64 0),(.int .i64 0),(.int .i64 0)])]/\cg prog 226=true/\elT prog 226=some 280/\bp prog 228=true/\bw prog 228=some [226,111,73,88,27]/\cg prog 246=true/\elT prog 246=some 191/\bp prog 248=true:=by and_intros<;>kernel_rfl
@[go_sem] theorem X2 :bw prog 248=some [3,246]/\df prog 248=true/\cX prog 248=[(.int .i64 0),.ar]/\elT prog 249=some 47/\af prog 261=3/\bp prog 261=true/\bm prog 261=true/\bw prog 261=some [3,148,148]/\zeroOf prog 261=some (.agg 261 [(.int .i64 0),(.int .u32 0),(.int .u32 0)])/\df prog 261=true/\cX prog 261=[(.int .i64 0),(.int .u32 0),(.int .u32 0)]/\elT prog 262=some 261:=by and_intros<;>kernel_rfl
@[go_sem] theorem Xr :elT prog 273=some 274/\af prog 274=1/\cg prog 274=true/\bm prog 274=true/\elT prog 276=some 5/\bp prog 278=true/\bw prog 278=some [4,273,273,273,273]/\zeroOf prog 278=some (.agg 278 [(.bool false),.ar,.ar,.ar,.ar])/\df prog 278=true/\cX prog 278=[(.bool false),.ar,.ar,.ar,.ar]/\af prog 280=15/\bp prog 280=true:=by and_intros<;>kernel_rfl
@[go_sem] theorem Yu :bm prog 280=true/\bw prog 280=some [9,278,278,4,9,4,4]/\zeroOf prog 280=some (.agg 280 [(.str []),(.agg 278 [(.bool false),.ar,.ar,.ar,.ar]),(.agg 278 [(.bool false),.ar,.ar,.ar,.ar]),(.bool false),(.str []),(.bool false),(.bool false)])/\df prog 280=true/\cX prog 280=[(.str []),(.agg 278 [(.bool false),.ar,.ar,.ar,.ar]),(.agg 278 [(.bool false),.ar,.ar,.ar,.ar]),(.bool false),(.str []),(.bool false),(.bool false)]/\fD prog 290=some .u64/\cg prog 313=true/\bp prog 329=true/\bw prog 329=some [9,9]/\df prog 329=true/\cX prog 329=[(.str []),(.str [])]:=by and_intros<;>kernel_rfl
end Go.Proofs.Tryz
end
section
namespace Go.Av
open Go
section
variable {P :Program}{W0 w w':World}{C C':Ctx}{σ σ':ab}{n:Nat}{A:aa}{a:Act}
theorem aE.yb (h:aE P W0 w C σ){te t:TypeId}{id0 i id o:Nat}{path:List Nat}{zs:List AV}{z u u':AV}(h0:σ[id0]?=some (some (.cells te zs)))(hz:zs[i]?=some z)(hp:z.at path=some u)
  (hid:id<σ.length) (hne:id≠id0) (hpl:place P te path=some (t,o)) (h1:u.bg=true) (h2:u'.bg=true) (hfz: ∀v,aI P w C u v->aI P w (C.kill id) u' v):
  aE P W0 w (C.kill id) ((σ.set id none).set id0 (some (.cells te (zs.set i (z.setAt path u'))))):=by
 obtain⟨k1,k2⟩:=h.kill id hid;obtain⟨b,base,room,arr,t',fr,m1,m2,mf,m3,m4,cf,m5⟩:=h.cells h0;obtain⟨r1,r2,r3,r4⟩:=m5 i z hz;obtain⟨c,g1,g2,g3,g4⟩:=zQ path te t o z _ (cf i) r1 r3 hpl hp;obtain⟨v,rfl⟩:=g1.one_cell h1;have hfz1:=(hfz v (.one h1 g1)).aG h2;have hft:fits P t u':=by
  have:cg P t=true:=by cases u<;>first|exact g2.2|cases h1
  cases u'<;>first|exact⟨rfl,this⟩|cases h2
 obtain⟨q1,q2,q3⟩:=sw path te t o z _ _ (cf i) [v] (r1.mono k1) r3 hpl hp hfz1 hft;have hsp:(bB (cf i).toArray o [v]).toList=cf i:=by
  refine List.ext_getElem? λp=>?_
  grind [bN]
 rw[hsp]at q2;have hid0l:id0<σ.length:=(acO.1 h0).1;refine k2.change (Step.refl _ _) k2.low (by rw[k2.nx];simp) k2.inj k2.dom λj=>?_
 by_cases hj:j=id0
 .subst hj;left;rw[acR (by simp_all),acU,pW,if_neg (λe=>hne e.symm),m1];refine⟨rfl,arr,t',fr,m2,mf,m3,by simp_all,cf,λp x hx=>?_⟩;grind [Rel.mono]
 grind
theorem aE.Ct (h:aE P W0 w C σ){te e te' t:TypeId}{id0 i id off m o:Nat}{path:List Nat}{zs xs:List AV}{z:AV}(h0:σ[id0]?=some (some (.cells te zs)))(hz:zs[i]?=some z)(hp:z.at path=some (.row e id off m))
  (hs:σ[id]?=some (some (.cells te' xs))) (hm:off+m<=xs.length) (hne:id≠id0) (hpl:place P te path=some (t,o)):
  aE P W0 w (C.kill id) ((σ.set id none).set id0 (some (.cells te (zs.set i (z.setAt path (.sl e ((xs.drop off).take m))))))):=
 h.yb h0 hz hp (acO.1 hs).1 hne hpl rfl rfl λ_ hv=>mT h hv hs hm
inductive mL (P:Program):aa->aa->Prop
 |refl (D:aa):mL P D D
 |row {D B:aa} (d:Nat) {e te:TypeId} {id off m:Nat} {xs:List AV}:D.env d= .row e id off m->D.st[id]?=some (some (.cells te xs))->off+m<=xs.length->mL P ((D.upd d (.sl e ((xs.drop off).take m))).ax (D.st.set id none)) B->mL P D B
 |cell {D B:aa} {te e te' t:TypeId} (id0 i:Nat) (path:List Nat) {id off m o:Nat} {zs xs:List AV} {z:AV}:D.st[id0]?=some (some (.cells te zs))->zs[i]?=some z->z.at path=some (.row e id off m)->D.st[id]?=some (some (.cells te' xs))->off+m<=xs.length->id≠id0->place P te path=some (t,o)->
   mL P (D.ax ((D.st.set id none).set id0 (some (.cells te (zs.set i (z.setAt path (.sl e ((xs.drop off).take m)))))))) B->mL P D B
 |GM {D B:aa} {te t' t:TypeId} (id0 i:Nat) (path:List Nat) {id o:Nat} {zs:List AV} {z x:AV}:D.st[id0]?=some (some (.cells te zs))->zs[i]?=some z->z.at path=some (.ptr t' id 0 [])->D.st[id]?=some (some (.cells t' [x]))->id≠id0->place P te path=some (t,o)->
   mL P (D.ax ((D.st.set id none).set id0 (some (.cells te (zs.set i (z.setAt path (.loc t' x))))))) B->mL P D B
 |pt {D B:aa} (d:Nat) {t:TypeId} {id:Nat} {x:AV}:D.env d= .ptr t id 0 []->D.st[id]?=some (some (.cells t [x]))->mL P ((D.upd d (.loc t x)).ax (D.st.set id none)) B->mL P D B
 |cb {D B:aa} {te:TypeId} (id0 i:Nat) {zs:List AV} {z z':AV}:D.st[id0]?=some (some (.cells te zs))->zs[i]?=some z->Sub z z'->mL P (D.ax (D.st.set id0 (some (.cells te (zs.set i z'))))) B->mL P D B
theorem aE.I3 (h:aE P W0 w C σ){te:TypeId}{id0 i:Nat}{zs:List AV}{z z':AV}(h0:σ[id0]?=some (some (.cells te zs)))(hz:zs[i]?=some z)(hs:Sub z z'):
  aE P W0 w C (σ.set id0 (some (.cells te (zs.set i z')))):=by
 obtain⟨b,base,room,arr,t',fr,m1,m2,mf,m3,m4,cf,m5⟩:=h.cells h0;have hid0l:id0<σ.length:=(acO.1 h0).1;refine h.change (Step.refl _ _) h.low (by rw[h.nx];simp) h.inj h.dom λj=>?_
 by_cases hj:j=id0
 .subst hj;left;rw[acR hid0l,acU,m1];refine⟨rfl,arr,t',fr,m2,mf,m3,by simp_all,cf,λp x hx=>?_⟩;grind [Rel.sub,Sub.fits]
 grind
theorem bG.Sr {B:aa}(hf:mL P A B): ∀{C:Ctx},bG P W0 n w C A a-> ∃C',bG P W0 n w C' B a/\Step w C w C':=by
 induction hf with
 |refl A=>grind [Step.refl]
 |row d h1 h2 h3 _ ih=>
  intro C h;have hv:=h.env d;rw[h1]at hv;have hfr:=mT h.st hv h2 h3;obtain⟨k1,k2⟩:=h.st.kill _ (acO.1 h2).1;have hr1:=h.step k1 k2;have hr2:bG P W0 n w (C.kill _) ((aa.upd _ d (.sl _ _)).ax (List.set _ _ none)) a:=⟨λj=>by
   by_cases hj:j=d
   .subst hj;simpa[aa.upd,aa.ax]using hfr
   .have:=hr1.env j;simpa[aa.upd,aa.ax,hj]using this,hr1.defers,hr1.size,hr1.st⟩
  grind [Step.trans]
 |cell id0 i path h1 h2 h3 h4 h5 h6 h7 _ ih=>
  intro C h;obtain⟨k1,k2⟩:=h.st.kill _ (acO.1 h4).1;have hr1:=h.step k1 (h.st.Ct h1 h2 h3 h4 h5 h6 h7);obtain⟨C',g1,g2⟩:=ih hr1;grind [Step.trans]
 |GM id0 i path h1 h2 h3 h4 h5 h6 _ ih=>
  intro C h;have hidl:=(acO.1 h4).1;obtain⟨k1,k2⟩:=h.st.kill _ hidl;have hr1:=h.step k1 (h.st.yb h1 h2 h3 hidl h5 h6 rfl rfl λ_ hv=>mQ h.st hv h4 (i:=0) rfl);obtain⟨C',g1,g2⟩:=ih hr1;grind [Step.trans]
 |pt d h1 h2 _ ih=>
  intro C h;have hv:=h.env d;rw[h1]at hv;have hfr:=mQ h.st hv h2 (i:=0) rfl;obtain⟨k1,k2⟩:=h.st.kill _ (acO.1 h2).1;have hr1:=h.step k1 k2;have hr2:bG P W0 n w (C.kill _) ((aa.upd _ d (.loc _ _)).ax (List.set _ _ none)) a:=⟨λj=>by
   by_cases hj:j=d
   .subst hj;simpa[aa.upd,aa.ax]using hfr
   .have:=hr1.env j;simpa[aa.upd,aa.ax,hj]using this,hr1.defers,hr1.size,hr1.st⟩
  grind [Step.trans]
 |cb id0 i h1 h2 h3 _ ih=>
  intro C h;have hr1:=h.step (.refl _ _) (h.st.I3 h1 h2 h3);exact ih hr1
def gG (A:aa):ResultVar->AV
 | .tmp t=>A.env t
 | .cell a _=>tL A.st (A.env a)
def wy (A:aa):ResultVar->Prop
 | .tmp _=>True
 | .cell a t=>qN none A.st t (A.env a)
def ug (A:aa):List ResultVar->AV
 |[t]=>gG A t
 |ts=>.tup (ts.map (gG A))
def nH (A:aa):List ResultVar->Prop
 |[]=>True
 |t::r=>wy A t/\nH A r
def KH (a:Act):ResultVar->Sem Value
 | .tmp t=>pure (a.tmps.getD t undef)
 | .cell a' ty=>do loadVar ty (<-asAddr (a.tmps.getD a' undef))
theorem Lq (hr:bG P W0 n w C A a)(t:ResultVar)(hc:wy A t): ∃v,(KH a t).run P w= .ok v w/\aI P w C (gG A t) v:=by
 cases t with
 |tmp t=>exact⟨_,rfl,hr.env t⟩
 |cell d ty=>
  have hd:=hr.env d;simp only[wy]at hc;simp only[gG];cases hv:A.env d with
  |loc ty' v=>
   rw[hv]at hc hd;obtain rfl:ty'=ty:=hc;obtain⟨b,o,cs,e,h1,h2,h3,h4⟩:=hd.rm;rw[KH,e];obtain⟨x,g1,g2⟩:=gE (w:=w) (off:=o) h1 h2 (λj c hj=>(h4 j c hj).1);exact⟨x,by grind [asAddr],g2⟩
  |ptr ty' id i path=>
   rw[hv]at hc hd;obtain⟨rfl,hl⟩:=hc;obtain⟨x,hx⟩:=Option.isSome_iff_exists.1 (show(look A.st id i path).isSome=true from hl);obtain⟨te,xs,z,h1,h2,h3⟩:=oc hx;obtain⟨ad,e0,_,hm⟩:=hd.o5;rw[KH,e0];obtain⟨b,base,room,arr,t',fr,m1,m2,mf,m3,m4,cf,m5⟩:=hr.st.cells h1;obtain⟨b',te',base',room',off,e1,e2,e3⟩:=hm _ m1;cases e1;subst e3;obtain⟨r1,r2,r3,r4⟩:=m5 i z h2;obtain⟨c,g1,g2,g3,g4⟩:=zQ path te _ off z x (cf i) r1 r3 e2 h3;obtain⟨y,q1,q2⟩:=gE (w:=w) (b:=b) (off:=base+i*af P te+off) g1 g2 (λj c' hj=>by
    grind [World.cell?])
   grind [tL,asAddr]
  |_=>rw[hv]at hc;exact hc.elim
theorem Dz {F:ResultVar->Sem Value}(hr:bG P W0 n w C A a)(hF: ∀t,wy A t-> ∃v,(F t).run P w= .ok v w/\aI P w C (gG A t) v): ∀ts:List ResultVar,nH A ts-> ∃vs:List Value,(ts.mapM F).run P w= .ok vs w/\vs.length=ts.length/\ ∀(i:Nat) (t:ResultVar) (v:Value),ts[i]?=some t->vs[i]?=some v->aI P w C (gG A t) v
 |[],_=>⟨[],rfl,rfl,by simp⟩
 |t::ts,hc=>by
  obtain⟨v,h1,h2⟩:=hF t hc.1;obtain⟨vs,g1,g2,g3⟩:=Dz hr hF ts hc.2;refine⟨v::vs,?_,by simp[g2],λi t' v' ht hv=>?_⟩
  .simp_all
  grind
theorem np {fn:Func}{ts:List ResultVar}(hr:bG P W0 n w C A a)(h:fn.results=ts.toArray)(hc:nH A ts): ∃v,(results fn a.tmps).run P w= .ok v w/\aI P w C (ug A ts) v:=by
 obtain⟨vs,g1,g2,g3⟩:=Dz (F:=KH a) hr (λt ht=>Lq hr t ht) ts hc;have hm:(results fn a.tmps).run P w= .ok (if h:vs.toArray.size=1 then vs.toArray[0]else .tuple vs.toArray) w:=by
  have e:results fn a.tmps=(do
    let vs <-fn.results.mapM (KH a)
    pure (if h:vs.size=1 then vs[0]else .tuple vs)):=by
   unfold results;congr 2
  simp_all
 match ts,vs,hm,g2,g3 with
 |[],[],hm,_,_=>exact⟨_,hm,.tup (vs:=[]) rfl (by simp)⟩
 |[t],[v],hm,_,g3=>exact⟨_,hm,g3 0 t v rfl rfl⟩
 |t::u::ts,v::v'::vs,hm,g2,g3=>
  refine⟨_,hm,?_⟩;rw[dif_neg (by simp)];refine .tup (by simp_all) (λi x v hx hv=>?_);grind
def c7 (P:Program)(R:aa->Prop):Exit->aa->Prop
 | .normal,A| .ret,A=>∃ A',mL P A A'/\R A'
 |_,_=>False
theorem c7.ret {R:aa->Prop}(h:R A):c7 P R .ret A:=⟨A,.refl A,h⟩
theorem c7.normal {R:aa->Prop}(h:R A):c7 P R .normal A:=⟨A,.refl A,h⟩
theorem c7.via {R:aa->Prop}{x:Exit}{B:aa}(hx:x= .ret\/x= .normal)(hf:mL P A B)(h:R B):c7 P R x A:=by
 rcases hx with rfl|rfl
 .exact⟨B,hf,h⟩
 .exact⟨B,hf,h⟩
theorem c7.vc {R:aa->Prop}{c:Code}(h:VC P W0 n c (c7 P R) A):VC P W0 n c (λe A'=>(e= .normal\/e= .ret)/\R A') A:=λw C a hr=>
 jl (h w C a hr) λe a' w' ⟨A',C',q,r,s⟩=>by
  cases e with
  |normal=>obtain⟨B,g1,g2⟩:=q;grind [bG.Sr,Step.trans]
  |ret=>obtain⟨B,g1,g2⟩:=q;grind [bG.Sr,Step.trans]
  |_=>exact q.elim
def Mo (ts:List ResultVar)(σ:ab)(Q:AV->ab->Prop)(A:aa):Prop:=nH A ts/\ ∃r,dc (ug A ts) r/\σ.length<=A.st.length/\Q r A.st
theorem jv {f : FuncId} {fn : Func} {c : Code} {args : List AV} {Q : AV → ab → Prop} {m : Nat} (ts : List ResultVar) (fz : List Nat) (hf : P.funcs[f]? = some fn) (hb : fn.body = some c) (hnm : (fn.name == "runtime.NumGoroutine") = false)
  (hm:fn.ntmps=m) (hargs:Nat.ble args.length m=true) (hres:fn.results=ts.toArray)
  (h:(∀a∈args,Small a)->cVC P W0 m fz c (c7 P (Mo ts σ Q)) ⟨jx args,σ⟩):aP P W0 f args σ Q:=by
 subst hm;refine λw C vs hst hl hv=>?_
 have hsm: ∀a∈args,Small a:=dV λi x hx=>(hv i x _ hx (acQ (by grind))).small
 have hvc:=c7.vc (bI c _ _ (h hsm));refine .inl ⟨⟨fn,hf,by simp[hb],hnm⟩,calls_of_wp hf hb (wp_mono (zz (hvc w C _ (mi hst hl hv (acS hargs)))) λe a' w' ⟨A',C',q,r,s⟩=>?_)⟩;have fin:a'.defers=[]/\ ∃v,(results fn a'.tmps).run P w'= .ok v w'/\ ∃v₁ r σ' C',Ending.returned v= .returned v₁/\Q r σ'/\aE P W0 w' C' σ'/\aI P w' C' r v₁/\Step w C w' C':=by
  obtain⟨_,hc,r1,h2,_,h4⟩:=q;obtain⟨v,g1,g2⟩:=np r hres hc;exact⟨r.defers,v,g1,v,r1,A'.st,C',rfl,h4,r.st,g2.cb h2,s⟩
 rcases q.1 with rfl|rfl
 .exact fin
 .exact fin
def Ov (ts:List ResultVar)(r:AV)(σ:ab)(A:aa):Prop:=nH A ts/\dc (ug A ts) r/\A.st.take σ.length=σ
theorem zY {f : FuncId} {fn : Func} {c : Code} {args : List AV} {r : AV} {m : Nat} (ts : List ResultVar) (fz : List Nat) (hf : P.funcs[f]? = some fn) (hb : fn.body = some c) (hnm : (fn.name == "runtime.NumGoroutine") = false)
  (hm:fn.ntmps=m) (hargs:Nat.ble args.length m=true) (hres:fn.results=ts.toArray) (hr:aU σ.length r)
  (h:(∀a∈args,Small a)->cVC P W0 m fz c (c7 P (Ov ts r σ)) ⟨jx args,σ⟩):aP P W0 f args σ λr' σ'=>r'=r/\σ'=σ:=by
 subst hm;refine λw C vs hst hl hv=>?_
 have hsm: ∀a∈args,Small a:=dV λi x hx=>(hv i x _ hx (acQ (by grind))).small
 have hvc:=c7.vc (bI c _ _ (h hsm));refine .inl ⟨⟨fn,hf,by simp[hb],hnm⟩,calls_of_wp hf hb (wp_mono (zz (hvc w C _ (mi hst hl hv (acS hargs)))) λe a' w' ⟨A',C',q,rl,s⟩=>?_)⟩;have fin:a'.defers=[]/\ ∃v,(results fn a'.tmps).run P w'= .ok v w'/\ ∃v₁ r' σ' C',Ending.returned v= .returned v₁/\(r'=r/\σ'=σ)/\aE P W0 w' C' σ'/\aI P w' C' r' v₁/\Step w C w' C':=by
  obtain⟨_,hc,q1,q2⟩:=q;obtain⟨v,g1,g2⟩:=np rl hres hc;have hle:σ.length<=A'.st.length:=by grind
  have hs2:aE P W0 w' (C'.eH σ.length) σ:=by
   have:=rl.st.eH (n:=σ.length) hle λid te xs hid hs=>hst.ids (show σ[id]?=some (some (.cells te xs)) by grind)
   simp_all
  grind [bG.defers,aI.eH,aI.cb,Step.eH,aE.nx]
 rcases q.1 with rfl|rfl
 .exact fin
 .exact fin
theorem wT {f : FuncId} {fn : Func} {c : Code} {args : List AV} {r : AV} {m : Nat} (ts : List ResultVar) (fz : List Nat) (hf : P.funcs[f]? = some fn) (hb : fn.body = some c) (hnm : (fn.name == "runtime.NumGoroutine") = false)
  (hm:fn.ntmps=m) (hargs:Nat.ble args.length m=true) (hres:fn.results=ts.toArray) (hr:aU 0 r)
  (h:(∀a∈args,Small a)-> ∀σ,cVC P W0 m fz c (c7 P (Ov ts r σ)) ⟨jx args,σ⟩):ag P W0 f args r:=λσ=>
 zY ts fz hf hb hnm hm hargs hres (eQ (Nat.zero_le _) hr) λhs=>h hs σ
def Lv (ts:List ResultVar)(r:AV)(σ:ab):Exit->aa->Prop
 | .normal,A| .ret,A=>Ov ts r σ A
 |_,_=>False
theorem l9 {f : FuncId} {fn : Func} {c : Code} {args : List AV} {r : AV} {m : Nat} (ts : List ResultVar) (fz : List Nat) (hf : P.funcs[f]? = some fn) (hb : fn.body = some c) (hnm : (fn.name == "runtime.NumGoroutine") = false)
  (hm:fn.ntmps=m) (hargs:Nat.ble args.length m=true) (hres:fn.results=ts.toArray) (hr:aU 0 r)
  (h:(∀a∈args,Small a)-> ∀σ,cVC P W0 m fz c (Lv ts r σ) ⟨jx args,σ⟩):ag P W0 f args r:=
 wT ts fz hf hb hnm hm hargs hres hr λhs σ=>fq c _ (λe A' _ q=>by
  cases e with
  |normal=>exact c7.normal q
  |ret=>exact c7.ret q
  |_=>exact q.elim) (h hs σ)
@[go_sem ↓] theorem Vr {fz:List Nat}{k:aa->Prop}(dst:Option Nat)(t:TypeId):eop P W0 fz dst A k (.alloc t)=op2 P W0 fz dst A k (.alloc t):=propext acW
@[go_sem] theorem Us (ts:List ResultVar)(r:AV):Lv ts r σ .ret A=(nH A ts/\dc (ug A ts) r/\A.st.take σ.length=σ):=propext acW
@[go_sem] theorem Pj (ts:List ResultVar)(r:AV):Lv ts r σ .normal A=(nH A ts/\dc (ug A ts) r/\A.st.take σ.length=σ):=propext acW
@[go_sem] theorem aaY (ts:List ResultVar)(r:AV):Ov ts r σ A=(nH A ts/\dc (ug A ts) r/\A.st.take σ.length=σ):=propext acW
@[go_sem] theorem aaN (ts:List ResultVar)(Q:AV->ab->Prop):Mo ts σ Q A=(nH A ts/\ ∃r,dc (ug A ts) r/\σ.length<=A.st.length/\Q r A.st):=propext acW
@[go_sem] theorem ZK (t:ResultVar):ug A [t]=gG A t:=rfl
@[go_sem] theorem Yt (t u:ResultVar):ug A [t,u]= .tup [gG A t,gG A u]:=rfl
@[go_sem] theorem R0 (t u v:ResultVar):ug A [t,u,v]= .tup [gG A t,gG A u,gG A v]:=rfl
@[go_sem] theorem XV :ug A []= .tup []:=rfl
@[go_sem] theorem aab (t:Nat):gG A (.tmp t)=A.env t:=rfl
@[go_sem] theorem Wz (t:Nat)(ty:TypeId):gG A (.cell t ty)=tL A.st (A.env t):=rfl
@[go_sem] theorem VM (t:Nat):wy A (.tmp t)=True:=rfl
@[go_sem] theorem Tg (t:Nat)(ty:TypeId):wy A (.cell t ty)=qN none A.st ty (A.env t):=rfl
@[go_sem] theorem Xh :nH A []=True:=rfl
@[go_sem] theorem TV (t:ResultVar)(r:List ResultVar):nH A (t::r)=(wy A t/\nH A r):=rfl
end
def gZ :Obj->Bool
 | .cells ..=>false
 |_=>true
structure du (w:World)(C:Ctx)(D:Nat)(o:Obj):Prop where
 hp:w.heap[D]?=some o
 nc:gZ o=true
 no: ∀id ow,C.m id=some ow->ow.blk≠D
section
variable {P :Program}{W0 w w' w0:World}{C C' C0:Ctx}{σ σ':ab}{n:Nat}{A:aa}{a:Act}{D:Nat}{o o':Obj}
theorem du.step (h:du w C D o)(hs:Step w C w' C'):du w' C' D o:=by
 obtain⟨e,k⟩:=hs.block D (acP.1 h.hp).1 h.no;exact⟨e.trans h.hp,h.nc,k⟩
theorem O1 {b i:Nat}(h:w.heap[b]?=some o)(h1:gZ o=true):w.cell? ⟨b,i,none⟩=none:=by
 unfold World.cell?;simp only[h];cases o<;>first|rfl|cases h1
theorem vK (h:w.heap[D]?=some o)(h1:gZ o=true)(h2:gZ o'=true)(b i:Nat):(w.putObj D o').cell? ⟨b,i,none⟩=w.cell? ⟨b,i,none⟩:=by
 grind [O1,World.putObj_heap_same,World.cell?,World.putObj_heap_other]
theorem du.Mv (h:du w C D o)(h2:gZ o'=true):lC w C (w.putObj D o') C:=
 ⟨acT _,λ_ _ _ h=>h,λb i hs=>⟨vK h.hp h.nc h2 b i,by grind [fw,World.putObj_size]⟩⟩
theorem du.put (h:du w C D o)(h2:gZ o'=true):du (w.putObj D o') C D o':=⟨World.putObj_heap_same (acP.1 h.hp).1,h2,h.no⟩
theorem du.other {D':Nat}{o2:Obj}(h:du w C D o)(hne:D≠D'):du (w.putObj D' o2) C D o:=⟨(World.putObj_heap_other hne).trans h.hp,h.nc,h.no⟩
theorem aE.apart (h:aE P W0 w C σ)(hA:du w C D o)(h2:gZ o'=true)(hD:W0.heap.size<=D):aE P W0 (w.putObj D o') C σ:=by
 refine⟨h.base.trans ⟨rfl,rfl,rfl,by simp_all,λk hk=>World.putObj_heap_other (by omega)⟩,h.low,h.nx,h.inj,h.dom,λi=>?_⟩;exact(h.obj i).gw (hA.Mv h2) λx hx=>World.putObj_heap_other (hA.no i x hx)
theorem bG.apart (h:bG P W0 n w C A a)(hA:du w C D o)(h2:gZ o'=true)(hD:W0.heap.size<=D):bG P W0 n (w.putObj D o') C A a:=
 ⟨λi=>(h.env i).gw (hA.Mv h2),h.defers,h.size,h.st.apart hA h2 hD⟩
theorem Step.apart (h:Step w0 C0 w C)(hA:du w C D o)(h2:gZ o'=true)(hD:w0.heap.size<=D):Step w0 C0 (w.putObj D o') C:=
 ⟨h.nx,h.dead,λb i hs=>by
  obtain⟨e,s⟩:=h.ik b i hs;exact⟨(vK hA.hp hA.nc h2 b i).trans e,by grind [fw,World.putObj_size]⟩,h.os,h.tape,h.output,by rw[World.putObj_size];exact h.size,λb hb hn=>by
  grind [Step.block,World.putObj_heap_other]⟩
theorem du.new (h:aE P W0 w C σ)(o:Obj)(ho:gZ o=true):du (w.alloc o) C w.heap.size o:=⟨World.alloc_heap_new w o,ho,h.fresh⟩
def nq (w:World)(C:Ctx)(B:Nat)(ms:List Deferred):Prop:=∀ d∈ms,∃D,d={ target:=.collected D,args:=#[] }/\B<=D/\du w C D (.deferred (some []))
theorem nq.step {B:Nat}{ms:List Deferred}(h:nq w C B ms)(hs:Step w C w' C'):nq w' C' B ms:=λd hd=>by
 obtain⟨D,h1,h2,h3⟩:=h d hd;grind [du.step]
def VCM (P:Program)(W0:World)(n:Nat)(c:Code)(Q:Exit->aa->Prop)(A:aa):Prop:=
 ∀w C a ms B,bG P W0 n w C A a->nq w C B ms->(ms.map (·.target)).Nodup->B<=w.heap.size->c.wpIn .wide 0 P (λe a' w'=>∃ a0 ms' A' C',a'=more a0 ms'/\Q e A'/\bG P W0 n w' C' A' a0/\nq w' C' B ms'/\(ms'.map (·.target)).Nodup/\Step w C w' C') (more a ms) w
theorem VCM.of {c:Code}{Q:Exit->aa->Prop}(h:VC P W0 n c Q A):VCM P W0 n c Q A:=λw C a ms B hr hm hd hB=>
 wpIn_mono (h w C a hr none 0 ms) λe a' w' ⟨a0,e0,A',C',q,r,s⟩=>⟨a0,ms,A',C',e0,q,r,hm.step s,hd,s⟩
theorem VCM.seq {x y:Code}{Q:Exit->aa->Prop}(h:VCM P W0 n x (cr (VCM P W0 n y Q) Q) A):VCM P W0 n (.seq x y) Q A:=λw C a ms B hr hm hd hB=>
 wpIn_seq (wpIn_mono (h w C a ms B hr hm hd hB) λe a' w' ⟨a0,ms',A',C',e0,q,r,m,d,s⟩=>by
  cases e with
  |normal=>
   subst e0;exact wpIn_mono (q w' C' a0 ms' B r m d (acV hB s.size)) λ_ _ _ ⟨a1,ms'',A'',C'',e1,q',r',m',d',s'⟩=>⟨a1,ms'',A'',C'',e1,q',r',m',d',s.trans s'⟩
  |_=>exact⟨a0,ms',A',C',e0,q,r,m,d,s⟩)
theorem VCM.block {id:Nat}{c:Code}{Q:Exit->aa->Prop}(h:VCM P W0 n c (er id Q) A):VCM P W0 n (.block id c) Q A:=λw C a ms B hr hm hd hB=>
 wpIn_block (wpIn_mono (h w C a ms B hr hm hd hB) λe a' w' ⟨a0,ms',A',C',e0,q,r,m,d,s⟩=>by
  cases e with
  |exit id'=>
   grind [er,Exit.inBlock]
  |_=>exact⟨a0,ms',A',C',e0,q,r,m,d,s⟩)
theorem VCM.mono {c:Code}{Q Q':Exit->aa->Prop}(h:VCM P W0 n c Q A)(hq: ∀e A,Q e A->Q' e A):VCM P W0 n c Q' A:=λw C a ms B hr hm hd hB=>
 wpIn_mono (h w C a ms B hr hm hd hB) λ_ _ _ ⟨a0,ms',A',C',e0,q,r,m,d,s⟩=>⟨a0,ms',A',C',e0,hq _ _ q,r,m,d,s⟩
theorem Gf {fn:Func}{tmps:Array Value}{R:Ending->World->Prop}{B:Nat}: ∀(ms:List Deferred) (w:World) (C:Ctx),nq w C B ms->(ms.map (·.target)).Nodup->
  (∀w',(∀A a,bG P W0 n w C A a->W0.heap.size<=B->bG P W0 n w' C A a)->(∀w0 C0,Step w0 C0 w C->w0.heap.size<=B->Step w0 C0 w' C)->LeavesIn .wide 0 P fn tmps R [] .returning w')->LeavesInM .wide 0 P fn tmps R ms .returning w
 |[],w,C,_,_,h=>h w (λ_ _ h _=>h) (λ_ _ h _=>h)
 |d::ms,w,C,hm,hd,h=>by
  obtain⟨D,rfl,hB,hA⟩:=hm d (by simp);rw[List.map_cons,List.nodup_cons]at hd;refine⟨by simp,.inl ⟨D,w.putObj D (.deferred none),rfl,run_takeDeferred hA.hp,Gf ms _ C (λd hdm=>?_) hd.2 λw' h1 h2=>h w' (λA a hr hl=>h1 A a (hr.apart hA rfl (acV hl hB)) hl) (λw0 C0 hs hl=>h2 w0 C0 (hs.apart hA rfl (acV hl hB)) hl)⟩⟩;obtain⟨D',rfl,hB',hA'⟩:=hm d (by simp[hdm]);grind [du.other]
theorem Kw {f : FuncId} {fn : Func} {c : Code} {args : List AV} {Q : AV → ab → Prop} {m : Nat} (ts : List ResultVar) (hf : P.funcs[f]? = some fn) (hb : fn.body = some c) (hnm : (fn.name == "runtime.NumGoroutine") = false)
  (hm:fn.ntmps=m) (hargs:Nat.ble args.length m=true) (hres:fn.results=ts.toArray)
  (h:(∀a∈args,Small a)->VCM P W0 m c (c7 P (Mo ts σ Q)) ⟨jx args,σ⟩):aP P W0 f args σ Q:=by
 subst hm;refine λw C vs hst hl hv=>?_
 have hsm: ∀a∈args,Small a:=dV λi x hx=>(hv i x _ hx (acQ (by grind))).small
 have hr0:=mi (m:=fn.ntmps) hst hl hv (acS hargs);refine .inl ⟨⟨fn,hf,by simp[hb],hnm⟩,(callsIn_wide (n:=0)).1 (callsIn_of_wp_marks hf hb trivial ?_)⟩;have h0:=h hsm w C _ [] w.heap.size hr0 (λd hd=>by cases hd) (by simp) (acT _);rw[fP]at h0;refine wpIn_mono h0 λe a' w' ⟨a0,ms',A',C',e0,q,r,mk,md,s⟩=>?_
 have fin:(∃B,mL P A' B/\Mo ts σ Q B)->LeavesInM .wide 0 P fn a'.tmps (λe w'=>∃ v r σ' C',e= .returned v/\Q r σ'/\aE P W0 w' C' σ'/\aI P w' C' r v/\Step w C w' C') a'.defers .returning w':=by
  rintro⟨B,g1,hc,r1,h2,_,h4⟩;obtain⟨C'',k1,k2⟩:=r.Sr g1;have ed:a'.defers=ms':=by grind [more,bG.defers]
  have et:a'.tmps=a0.tmps:=by rw[e0];rfl
  rw[ed,et];refine Gf (P:=P) (W0:=W0) (n:=fn.ntmps) (B:=w.heap.size) ms' w' C'' (mk.step k2) md λw3 g3 g4=>?_
  have r3:=g3 B a0 k1 hst.base.size;obtain⟨v,q1,q2⟩:=np r3 hres hc;exact⟨v,q1,v,r1,B.st,C'',rfl,h4,r3.st,q2.cb h2,g4 w C (s.trans k2) (acT _)⟩
 cases e with
 |normal=>exact fin q
 |ret=>exact fin q
 |_=>exact q.elim
end
open Go Go.Sort
section
variable {P :Program}{W0 w:World}{C:Ctx}{σ:ab}
theorem aE.z6 {id:Nat}{te:TypeId}{xs ys:List AV}{fl:Array Value}{k n:Nat}{os:Array Obj}{b base room:Nat}(h:aE P W0 w C σ)(hs:σ[id]?=some (some (.cells te xs)))(hm:C.m id=some (.obj b te base room))
  (hk:af P te=k) (hl:ys.length=xs.length) (hfl:fl.size=xs.length*k)
  (hy: ∀(i:Nat) (y:AV),ys[i]?=some y-> ∃cs,Rel P w C y cs/\cs.length=k/\fits P te y/\ ∀(j:Nat) (c:Value),cs[j]?=some c->fl[i*k+j]?=some c):
  Step w C (grow (putRow (λv:Value=>v) (Sort.ahead w n) b base fl) os) C/\aE P W0 (grow (putRow (λv:Value=>v) (Sort.ahead w n) b base fl) os) C (σ.set id (some (.cells te ys))):=by
 obtain⟨b',base',room',arr,t',fr,m1,m2,mf,m3,m4,cf,m5⟩:=h.cells hs;rw[hm]at m1;cases m1;have hbl:b<w.heap.size:=(acP.1 m2).1;have hidl:=(acO.1 hs).1;obtain⟨w',hw'⟩: ∃w',w'=grow (putRow (λv:Value=>v) (Sort.ahead w n) b base fl) os:=⟨_,rfl⟩;have hsz:(putRow (λv:Value=>v) (Sort.ahead w n) b base fl).heap.size=w.heap.size:=by simp_all
 have hot: ∀j,j<w.heap.size->j≠b->w'.heap[j]?=w.heap[j]?:=λj hj hne=>by
  grind [Sort.heap_grow_old,Sort.putRow,Sort.mapBlock,Sort.ahead]
 have hat:w'.heap[b]?=some (.cells (putCells (λv:Value=>v) base fl arr) t' fr):=by
  rw[hw',heap_grow_old _ _ (by omega)];simp only[putRow,mapBlock,Sort.ahead];rw[Array.getElem?_modify,if_pos rfl,m2];rfl
 have hsize:w.heap.size<=w'.heap.size:=by simp_all
 have hst:Step w C w' C:=⟨acT _,λ_ _ _ h=>h,λb0 o0 hs0=>by
  have hne:b0≠b:=λe=>by
   obtain⟨e1,hw,cap,e2,_⟩:=hs0.2 id _ hm (by rw[e];rfl);cases e2
  refine⟨?_,Nat.lt_of_lt_of_le hs0.1 hsize,hs0.2⟩;unfold World.cell?;simp only[hot b0 hs0.1 hne],by rw[hw'];rfl,by simp_all,by rw[hw'];rfl,hsize,λj hj hn=>⟨hot j hj λe=>hn id _ hm (by rw[e];rfl),hn⟩⟩
 rw[<-hw'];refine⟨hst,h.change hst h.low (by rw[h.nx];simp) h.inj h.dom λj=>?_⟩;by_cases hj:j=id
 .subst hj;left;rw[acR hidl,acU,hm];have hps:(putCells (λv:Value=>v) base fl arr).size=arr.size:=by simp[putCells]
  classical
  refine⟨rfl,_,t',fr,hat,by simp_all,by omega,by simp_all,λi=>(ys[i]?.bind λy=>if hex: ∃cs,Rel P w C y cs/\cs.length=k/\fits P te y/\ ∀(j:Nat) (c:Value),cs[j]?=some c->fl[i*k+j]?=some c then some (Classical.choose hex)else none).getD [],λi x hx=>?_⟩;have hex:=hy i x hx;simp only[hx,Option.bind_some,dif_pos hex,Option.getD_some];obtain⟨r1,r2,r3,r4⟩:=acY hex;refine⟨r1.mono hst,by omega,r3,λq c hq=>?_⟩;have hflq:=r4 q c hq;have hql:q<k:=by grind
  have hlt:=(acP.1 hflq).1;have hin:base+i*k+q<arr.size:=by
   grind
  rw[hk];simp only[putCells,Array.getElem?_mapIdx];grind
 .right;refine⟨by grind,rfl,λow ho=>hot _ (h.lt ho) λe=>hj (h.inj j id _ _ ho hm (by rw[e];rfl))⟩
end
end Go.Av
end
