/- What the last text of this claim rests on. No conditions. -/
import Derived.IntWalk
import Derived.RangeFuncLeaves
import Derived.RangeFuncRecord
import Derived.Shelf.SlSortCmp.NoneTotal
import Derived.Test.YtbkobngljnnmgaaGreatDoorProg
import Derived.Test.YtbkobngljnnmgaaGreatDoorWac
set_option linter.unusedSimpArgs false
set_option linter.unusedVariables false
open List renaming getElem?_eq_some_iff->acf,getElem?_eq_getElem->ach,getElem?_set_self->aci
open Array renaming getElem?_eq_some_iff->acg
open Nat renaming le_of_ble_eq_true->acj,le_refl->ack,le_trans->acn,succ_pos->acp
open Option renaming join_some->acm
open Iff renaming rfl->aco
open Classical renaming choose_spec->acq
section
namespace Go.Av
open Go
theorem aJ {n:Int}(h: -9223372036854775808<=n/\n<=9223372036854775807):IntKind.i64.wrap n=n:=by grind [IntKind.wrap_i64]
@[go_sem] theorem wrap_u8 (c:UInt8):IntKind.i64.wrap (c.toNat:Int)=c.toNat:=aJ (by grind [UInt8.toNat_lt])
theorem Ea.of {fz:List Nat}{id:Nat}{ops:Array Oper}(h:DD fz (eM fz id) ops (Ko [] ops.toList)=true):Ea fz id ops .mk:=h
@[go_sem] theorem Zg (n:Nat):(((n+1:Nat):Int)==0)=false:=by grind
@[go_sem] theorem aap (n:Nat):((no_index (OfNat.ofNat n):Nat):Int)=(OfNat.ofNat n:Int):=rfl
@[go_sem] theorem Z2 (n:Nat)(h:n<=9223372036854775807):IntKind.i64.wrap (no_index (OfNat.ofNat n):Int)=(OfNat.ofNat n:Int):=aJ (by
 have e:(OfNat.ofNat n:Int)=((n:Nat):Int):=rfl;omega)
theorem au :maxLen=9223372036854775807:=rfl
theorem ko {i N:Nat}(h:i<N)(hN:N<=maxLen):IntKind.i64.wrap ((i:Int)+1)=((i+1:Nat):Int):=by
 grind [au,aJ]
theorem ag {i N:Nat}(h:i<N)(hN:N<=maxLen):AV.int .i64 (IntKind.i64.wrap ((i:Int)+1))= .int .i64 ((i+1:Nat):Int):=by rw[ko h hN]
theorem dC {l:List UInt8}(h:Small (.str l)):l.length<=maxLen:=by cases h;assumption
theorem Ta {e:TypeId}{xs:List AV}(h:Small (.sl e xs)):xs.length<=maxLen/\ ∀x∈xs,Small x:=by cases h;simp_all
theorem Nf {t:TypeId}{fs:List AV}(h:Small (.agg t fs)): ∀x∈fs,Small x:=by cases h;assumption
theorem aQ {α:Type}{f:α->AV}{e:TypeId}{l:List α}(h:Small (.sl e (l.map f))):l.length<=maxLen/\ ∀x∈l,Small (f x):=by
 obtain⟨h1,h2⟩:=Ta h;simp_all
@[go_sem] theorem Zt {α:Type}(l:List α)(i:Nat):iP l i l.length=l.drop i:=by
 grind [iP,List.length_drop]
@[go_sem] theorem Zw {α:Type}(l:List α)(j:Nat):iP l 0 j=l.take j:=by simp[iP]
@[go_sem] theorem XU {α:Type}(c:α)(r:List α):iP (c::r) 1 (r.length+1)=r:=by simp[iP]
theorem VF :(([]:List UInt8)==[])=true:=rfl
theorem Q6 (c:UInt8)(r:List UInt8):((c::r:List UInt8)==[])=false:=rfl
theorem Bh (c:UInt8)(r:List UInt8):(([]:List UInt8)==c::r)=false:=rfl
attribute [go_sem] VF Q6 Bh
attribute [go_sem] List.drop_succ_cons List.drop_zero List.length_cons List.length_nil true_implies false_implies Bool.false_eq_true Bool.true_eq_false
@[go_sem] theorem aaX (n:Nat):(0<n+1)=True:=eq_true (acp n)
@[go_sem] theorem WN (n:Nat):(1<=n+1)=True:=eq_true (acp n)
attribute [go_sem] ack not_true_eq_false not_false_eq_true
@[go_sem] theorem Wo (n:Nat):(n<0)=False:=eq_false (Nat.not_lt_zero n)
theorem Rz {l:List UInt8}{i:Nat}{f:UInt8->Bool}:(decide (i<l.length)&&f (l[i]?.getD 0))=true↔ ∃c,l[i]?=some c/\f c=true:=by
 grind
theorem QA {l:List UInt8}{i:Nat}{f:UInt8->Bool}:(decide (i<l.length)&&f (l[i]?.getD 0))=false↔ ∀c,l[i]?=some c->f c=false:=by
 grind
theorem CT (σ l:ab)(k:Nat):(σ++l)[σ.length+k]?=l[k]?:=by grind
@[go_sem] theorem PJ (σ l:ab)(k i:Nat)(path:List Nat):look (σ++l) (σ.length+k) i path=look l k i path:=by simp[look,CT]
@[go_sem] theorem YU (σ l:ab)(i:Nat)(path:List Nat):look (σ++l) σ.length i path=look l 0 i path:=PJ σ l 0 i path
theorem LK (t:TypeId)(xs:List AV)(l:ab)(i:Nat)(path:List Nat):look (some (.cells t xs)::l) 0 i path=(xs[i]?).bind (·.at path):=rfl
theorem LQ (o:Option bH)(l:ab)(k i:Nat)(path:List Nat):look (o::l) (k+1) i path=look l k i path:=rfl
attribute [go_sem] LK LQ
@[go_sem] theorem aab (σ l:ab):(σ++l)[σ.length]?=l[0]?:=CT σ l 0
theorem od {s:List UInt8}{pos:Nat}{c:UInt8}(h:s[pos]?=some c)(hc:c.toNat<128):iW s pos=(c.toNat,1):=by
 grind [ByteArray.get!,iW,Utf8.decode]
theorem tw {s:List UInt8}{pos:Nat}{c:UInt8}(h:s[pos]?=some c)(hc:128<=c.toNat):128<=(iW s pos).1:=by
 grind [ByteArray.get!,iW,Utf8.decode,Utf8.runeError]
theorem Dw (σ l:ab)(k:Nat)(o:Option bH):(σ++l).set (σ.length+k) o=σ++l.set k o:=by
 simp_all
@[go_sem] theorem abj (σ l:ab)(k:Nat)(o:Option bH):(σ++l).set (σ.length+k) o=σ++l.set k o:=Dw σ l k o
@[go_sem] theorem Z9 (σ l:ab)(o:Option bH):(σ++l).set σ.length o=σ++l.set 0 o:=Dw σ l 0 o
@[go_sem] theorem DG (σ l:ab)(k i:Nat)(path:List Nat)(v:AV):dV (σ++l) (σ.length+k) i path v=σ++dV l k i path v:=by
 unfold dV;rw[CT];split
 .simp_all
 .rfl
@[go_sem] theorem Uz (σ l:ab)(i:Nat)(path:List Nat)(v:AV):dV (σ++l) σ.length i path v=σ++dV l 0 i path v:=DG σ l 0 i path v
@[go_sem] theorem Wl (t:TypeId)(xs:List AV)(l:ab)(i:Nat)(path:List Nat)(v:AV):dV (some (.cells t xs)::l) 0 i path v=some (.cells t (xs.set i ((xs[i]?.getD .undef).setAt path v)))::l:=rfl
@[go_sem] theorem U3 (o:Option bH)(l:ab)(k i:Nat)(path:List Nat)(v:AV):dV (o::l) (k+1) i path v=o::dV l k i path v:=by
 grind [dV]
@[go_sem] theorem abW (v:AV):v.at []=some v:=by cases v<;>rfl
@[go_sem] theorem abi (t:TypeId)(fs:List AV)(k:Nat)(r:List Nat):(AV.agg t fs).at (k::r)=(fs[k]?).bind (·.at r):=rfl
@[go_sem] theorem Zx (v u:AV):v.setAt [] u=u:=by cases v<;>rfl
attribute [go_sem] List.length_append List.append_assoc List.cons_append List.nil_append
def Ext (σ st:ab):Prop:=st.take σ.length=σ
theorem Ext.refl (σ:ab):Ext σ σ:=List.take_length
theorem Ext.le {σ st:ab}(h:Ext σ st):σ.length<=st.length:=by
 have:=congrArg List.length h;grind
theorem Ext.app {σ st:ab}(h:Ext σ st)(l:ab):Ext σ (st++l):=by
 grind [Ext]
theorem Ext.set {σ st:ab}(h:Ext σ st){id:Nat}(hid:σ.length<=id)(o:Option bH):Ext σ (st.set id o):=by
 grind [Ext,List.take_set_of_le]
@[go_sem] theorem aaW (σ l:ab):(σ++l).take σ.length=σ:=List.take_left
theorem ar {a b:Bool}(h:a=b):dj (.bool a) (.bool b):=by rw[h];exact .refl _
theorem az {k:IntKind}{a b:Int}(h:a=b):dj (.int k a) (.int k b):=by rw[h];exact .refl _
theorem n9 {a b:List UInt8}(h:a=b):dj (.str a) (.str b):=by rw[h];exact .refl _
def df :AV->Prop| .maybe _ _=>False|_=>True
theorem cr {gd:Option Bool}{x:AV}(h:df x):okM gd x=True:=by cases x<;>first|exact h.elim|exact eq_true trivial
theorem cX {x:AV}(h:df x):unm x=x:=by cases x<;>first|exact h.elim|rfl
theorem aw {α:Type}{f:α->AV}{l:List α}{i:Nat}{a:α}(h:l[i]?=some a):atV (l.map f) (i:Int)=f a:=by
 grind [atV]
theorem get_some {α:Type}{l:List α}{i:Nat}(h:i<l.length): ∃x,l[i]?=some x:=⟨_,ach h⟩
theorem ah {α:Type}{l:List α}{i:Nat}{x:α}(h:l[i]?=some x):l.take (i+1)=l.take i++[x]:=by
 grind [List.take_add_one]
theorem any_true {α:Type}{f:α->Bool}{l:List α}{i:Nat}{x:α}(h:l[i]?=some x)(hf:f x=true):l.any f=true:=by
 grind
end Go.Av
end
section
namespace Go.Proofs.Tryz
open Go Go.Av
@[go_sem] theorem Zd :prog.follows .mixedOrders=true/\af prog 3=1/\cd prog 3=true/\fV prog 3=some .i64/\bm prog 3=true/\zeroOf prog 3=some (.int .i64 0)/\af prog 4=1/\cd prog 4=true/\kg prog 4=true/\bm prog 4=true/\zeroOf prog 4=some (.bool false)/\af prog 5=1:=by and_intros<;>kernel_rfl
@[go_sem] theorem ab3 :cd prog 5=true/\fV prog 5=some .u8/\oH prog 9=true/\af prog 9=1/\cd prog 9=true/\bU prog 9=true/\fV prog 9=none/\bm prog 9=true/\fV prog 21=some .i32/\cd prog 22=true/\elT prog 22=some 53/\cd prog 23=true:=by and_intros<;>kernel_rfl
@[go_sem] theorem abu :elT prog 23=some 51/\zeroOf prog 23=some .aq/\elT prog 24=some 66/\cd prog 27=true/\elT prog 27=some 100/\bz prog 29=some [3,3,3,3,3]/\zeroOf prog 29=some (.agg 29 [(.int .i64 0),(.int .i64 0),(.int .i64 0),(.int .i64 0),(.int .i64 0)])/\di prog 29=true/\cV prog 29=[(.int .i64 0),(.int .i64 0),(.int .i64 0),(.int .i64 0),(.int .i64 0)]/\cd prog 30=true/\elT prog 30=some 117/\bp prog 32=true:=by and_intros<;>kernel_rfl
@[go_sem] theorem abr :bz prog 32=some [3,22,27,29,30]/\zeroOf prog 32=some (.agg 32 [(.int .i64 0),.aq,.aq,(.agg 29 [(.int .i64 0),(.int .i64 0),(.int .i64 0),(.int .i64 0),(.int .i64 0)]),.aq])/\di prog 32=true/\cV prog 32=[(.int .i64 0),.aq,.aq,(.agg 29 [(.int .i64 0),(.int .i64 0),(.int .i64 0),(.int .i64 0),(.int .i64 0)]),.aq]/\af prog 47=1/\cd prog 47=true/\elT prog 47=some 77/\bm prog 47=true/\cd prog 48=true/\elT prog 48=some 76/\cd prog 49=true/\elT prog 49=some 179:=by and_intros<;>kernel_rfl
@[go_sem] theorem abn :af prog 51=9/\bp prog 51=true/\bm prog 51=true/\bz prog 51=some [9,9,47,47,47,48,48,49,4]/\zeroOf prog 51=some (.agg 51 [(.str []),(.str []),.aq,.aq,.aq,.aq,.aq,.aq,(.bool false)])/\di prog 51=true/\cV prog 51=[(.str []),(.str []),.aq,.aq,.aq,.aq,.aq,.aq,(.bool false)]/\af prog 53=11/\bp prog 53=true/\bm prog 53=true/\bz prog 53=some [51,4,4]/\zeroOf prog 53=some (.agg 53 [(.agg 51 [(.str []),(.str []),.aq,.aq,.aq,.aq,.aq,.aq,(.bool false)]),(.bool false),(.bool false)]):=by and_intros<;>kernel_rfl
@[go_sem] theorem abk :di prog 53=true/\cV prog 53=[(.agg 51 [(.str []),(.str []),.aq,.aq,.aq,.aq,.aq,.aq,(.bool false)]),(.bool false),(.bool false)]/\cd prog 60=true/\elT prog 60=some 4/\af prog 66=3/\bp prog 66=true/\bm prog 66=true/\bz prog 66=some [3,9,9]/\zeroOf prog 66=some (.agg 66 [(.int .i64 0),(.str []),(.str [])])/\di prog 66=true/\cV prog 66=[(.int .i64 0),(.str []),(.str [])]/\cd prog 73=true:=by and_intros<;>kernel_rfl
@[go_sem] theorem abg :elT prog 73=some 9/\zeroOf prog 73=some .aq/\af prog 76=3/\bp prog 76=true/\bm prog 76=true/\bz prog 76=some [9,3,9]/\zeroOf prog 76=some (.agg 76 [(.str []),(.int .i64 0),(.str [])])/\di prog 76=true/\cV prog 76=[(.str []),(.int .i64 0),(.str [])]/\af prog 77=1/\cd prog 77=true/\elT prog 77=some 76:=by and_intros<;>kernel_rfl
@[go_sem] theorem abh :bm prog 77=true/\cd prog 80=true/\iO prog 80=true/\cd prog 84=true/\elT prog 84=some 88/\af prog 88=1/\cd prog 88=true/\elT prog 88=some 3/\bm prog 88=true/\af prog 100=3/\bp prog 100=true/\bm prog 100=true:=by and_intros<;>kernel_rfl
@[go_sem] theorem ZK :bz prog 100=some [3,9,9]/\zeroOf prog 100=some (.agg 100 [(.int .i64 0),(.str []),(.str [])])/\di prog 100=true/\cV prog 100=[(.int .i64 0),(.str []),(.str [])]/\cd prog 111=true/\af prog 117=5/\bm prog 117=true/\bz prog 117=some [3,9,4,3,9]/\di prog 117=true/\cV prog 117=[(.int .i64 0),(.str []),(.bool false),(.int .i64 0),(.str [])]/\kf prog 119=some 47/\bz prog 119=some [47,47,47]:=by and_intros<;>kernel_rfl
@[go_sem] theorem ZU :di prog 119=true/\cV prog 119=[.aq,.aq,.aq]/\iO prog 120=true/\bp prog 128=true/\bz prog 128=some [22,23,30]/\di prog 128=true/\cV prog 128=[.aq,.aq,.aq]/\cd prog 139=true/\elT prog 139=some 150/\cd prog 140=true/\elT prog 140=some 148/\cd prog 141=true:=by and_intros<;>kernel_rfl
@[go_sem] theorem aat :elT prog 141=some 218/\bp prog 143=true/\bz prog 143=some [23,22,24,84,60,139,140,4,4,3,3,4,141]/\di prog 143=true/\cV prog 143=[.aq,.aq,.aq,.aq,.aq,.aq,.aq,(.bool false),(.bool false),(.int .i64 0),(.int .i64 0),(.bool false),.aq]/\af prog 148=1/\cd prog 148=true/\bm prog 148=true/\zeroOf prog 148=some (.int .u32 0)/\af prog 150=6/\bp prog 150=true/\bm prog 150=true:=by and_intros<;>kernel_rfl
@[go_sem] theorem aaQ :bz prog 150=some [4,148,140,140,3,4]/\zeroOf prog 150=some (.agg 150 [(.bool false),(.int .u32 0),.aq,.aq,(.int .i64 0),(.bool false)])/\di prog 150=true/\cV prog 150=[(.bool false),(.int .u32 0),.aq,.aq,(.int .i64 0),(.bool false)]/\kf prog 168=some 47/\bz prog 168=some [47,47,47,47,47,47]/\di prog 168=true/\cV prog 168=[.aq,.aq,.aq,.aq,.aq,.aq]/\kf prog 172=some 9/\bz prog 172=some [9,9]/\zeroOf prog 172=some (.agg 172 [(.str []),(.str [])])/\di prog 172=true:=by and_intros<;>kernel_rfl
@[go_sem] theorem aaM :cV prog 172=[(.str []),(.str [])]/\kf prog 173=some 172/\bz prog 173=some [172,172,172]/\di prog 173=true/\cV prog 173=[(.agg 172 [(.str []),(.str [])]),(.agg 172 [(.str []),(.str [])]),(.agg 172 [(.str []),(.str [])])]/\af prog 179=2/\bp prog 179=true/\bm prog 179=true/\bz prog 179=some [9,9]/\zeroOf prog 179=some (.agg 179 [(.str []),(.str [])])/\bp prog 182=true/\bz prog 182=some [9,4,4]:=by and_intros<;>kernel_rfl
@[go_sem] theorem aaZ :zeroOf prog 182=some (.agg 182 [(.str []),(.bool false),(.bool false)])/\di prog 182=true/\cV prog 182=[(.str []),(.bool false),(.bool false)]/\cd prog 185=true/\iO prog 185=true/\bp prog 188=true/\bz prog 188=some [3,185]/\di prog 188=true/\cV prog 188=[(.int .i64 0),.nil]/\af prog 190=1/\cd prog 190=true/\fV prog 190=some .i64:=by and_intros<;>kernel_rfl
@[go_sem] theorem aa9 :bm prog 190=true/\af prog 191=1/\cd prog 191=true/\elT prog 191=some 190/\bm prog 191=true/\bp prog 201=true/\bz prog 201=some [23]/\di prog 201=true/\cV prog 201=[.aq]/\af prog 218=6/\bp prog 218=true/\bm prog 218=true:=by and_intros<;>kernel_rfl
@[go_sem] theorem aa6 :bz prog 218=some [148,29]/\zeroOf prog 218=some (.agg 218 [(.int .u32 0),(.agg 29 [(.int .i64 0),(.int .i64 0),(.int .i64 0),(.int .i64 0),(.int .i64 0)])])/\di prog 218=true/\cV prog 218=[(.int .u32 0),(.agg 29 [(.int .i64 0),(.int .i64 0),(.int .i64 0),(.int .i64 0),(.int .i64 0)])]/\cd prog 226=true/\elT prog 226=some 280/\bp prog 228=true/\bz prog 228=some [226,111,73,88,27]/\cd prog 246=true/\elT prog 246=some 191/\bp prog 248=true/\bz prog 248=some [3,246]:=by and_intros<;>kernel_rfl
@[go_sem] theorem aaV :di prog 248=true/\cV prog 248=[(.int .i64 0),.aq]/\elT prog 249=some 47/\af prog 261=3/\bp prog 261=true/\bm prog 261=true/\bz prog 261=some [3,148,148]/\zeroOf prog 261=some (.agg 261 [(.int .i64 0),(.int .u32 0),(.int .u32 0)])/\di prog 261=true/\cV prog 261=[(.int .i64 0),(.int .u32 0),(.int .u32 0)]/\elT prog 262=some 261/\elT prog 273=some 274:=by and_intros<;>kernel_rfl
@[go_sem] theorem aaC :af prog 274=1/\cd prog 274=true/\bm prog 274=true/\elT prog 276=some 5/\bp prog 278=true/\bz prog 278=some [4,273,273,273,273]/\zeroOf prog 278=some (.agg 278 [(.bool false),.aq,.aq,.aq,.aq])/\di prog 278=true/\cV prog 278=[(.bool false),.aq,.aq,.aq,.aq]/\af prog 280=15/\bp prog 280=true/\bm prog 280=true:=by and_intros<;>kernel_rfl
@[go_sem] theorem aaL :bz prog 280=some [9,278,278,4,9,4,4]/\zeroOf prog 280=some (.agg 280 [(.str []),(.agg 278 [(.bool false),.aq,.aq,.aq,.aq]),(.agg 278 [(.bool false),.aq,.aq,.aq,.aq]),(.bool false),(.str []),(.bool false),(.bool false)])/\di prog 280=true/\cV prog 280=[(.str []),(.agg 278 [(.bool false),.aq,.aq,.aq,.aq]),(.agg 278 [(.bool false),.aq,.aq,.aq,.aq]),(.bool false),(.str []),(.bool false),(.bool false)]/\fV prog 290=some .u64/\cd prog 313=true/\bp prog 329=true/\bz prog 329=some [9,9]/\di prog 329=true/\cV prog 329=[(.str []),(.str [])]:=by and_intros<;>kernel_rfl
end Go.Proofs.Tryz
end
section
namespace Go.Av
open Go
section
variable {P :Program}{W0 w w':World}{C C':Ctx}{σ σ':ab}{n:Nat}{A:aa}{a:Act}
theorem aE.z8 (h:aE P W0 w C σ){te t:TypeId}{id0 i id o:Nat}{path:List Nat}{zs:List AV}{z u u':AV}(h0:σ[id0]?=some (some (.cells te zs)))(hz:zs[i]?=some z)(hp:z.at path=some u)
  (hid:id<σ.length) (hne:id≠id0) (hpl:place P te path=some (t,o)) (h1:u.bj=true) (h2:u'.bj=true) (hfz: ∀v,aI P w C u v->aI P w (C.kill id) u' v):
  aE P W0 w (C.kill id) ((σ.set id none).set id0 (some (.cells te (zs.set i (z.setAt path u'))))):=by
 obtain⟨k1,k2⟩:=h.kill id hid;obtain⟨b,base,room,arr,t',fr,m1,m2,mf,m3,m4,cf,m5⟩:=h.cells h0;obtain⟨r1,r2,r3,r4⟩:=m5 i z hz;obtain⟨c,g1,g2,g3,g4⟩:=Cr path te t o z _ (cf i) r1 r3 hpl hp;obtain⟨v,rfl⟩:=g1.one_cell h1;have hfz1:=(hfz v (.one h1 g1)).aG h2;have hft:fits P t u':=by
  have:cd P t=true:=by cases u<;>first|exact g2.2|cases h1
  cases u'<;>first|exact⟨rfl,this⟩|cases h2
 obtain⟨q1,q2,q3⟩:=sL path te t o z _ _ (cf i) [v] (r1.mono k1) r3 hpl hp hfz1 hft;have hsp:(bB (cf i).toArray o [v]).toList=cf i:=by
  refine List.ext_getElem? λp=>?_
  grind [bM]
 rw[hsp]at q2;have hid0l:id0<σ.length:=(acf.1 h0).1;refine k2.change (Step.refl _ _) k2.low (by rw[k2.nx];simp) k2.inj k2.dom λj=>?_
 by_cases hj:j=id0
 .subst hj;left;rw[aci (by simp_all),acm,p9,if_neg (λe=>hne e.symm),m1];refine⟨rfl,arr,t',fr,m2,mf,m3,by simp_all,cf,λp x hx=>?_⟩;grind [Rel.mono]
 grind
theorem aE.F6 (h:aE P W0 w C σ){te e te' t:TypeId}{id0 i id off m o:Nat}{path:List Nat}{zs xs:List AV}{z:AV}(h0:σ[id0]?=some (some (.cells te zs)))(hz:zs[i]?=some z)(hp:z.at path=some (.row e id off m))
  (hs:σ[id]?=some (some (.cells te' xs))) (hm:off+m<=xs.length) (hne:id≠id0) (hpl:place P te path=some (t,o)):
  aE P W0 w (C.kill id) ((σ.set id none).set id0 (some (.cells te (zs.set i (z.setAt path (.sl e ((xs.drop off).take m))))))):=
 h.z8 h0 hz hp (acf.1 hs).1 hne hpl rfl rfl λ_ hv=>mN h hv hs hm
inductive lV (P:Program):aa->aa->Prop
 |refl (D:aa):lV P D D
 |row {D B:aa} (d:Nat) {e te:TypeId} {id off m:Nat} {xs:List AV}:D.env d= .row e id off m->D.st[id]?=some (some (.cells te xs))->off+m<=xs.length->lV P ((D.upd d (.sl e ((xs.drop off).take m))).ax (D.st.set id none)) B->lV P D B
 |cell {D B:aa} {te e te' t:TypeId} (id0 i:Nat) (path:List Nat) {id off m o:Nat} {zs xs:List AV} {z:AV}:D.st[id0]?=some (some (.cells te zs))->zs[i]?=some z->z.at path=some (.row e id off m)->D.st[id]?=some (some (.cells te' xs))->off+m<=xs.length->id≠id0->place P te path=some (t,o)->
   lV P (D.ax ((D.st.set id none).set id0 (some (.cells te (zs.set i (z.setAt path (.sl e ((xs.drop off).take m)))))))) B->lV P D B
 |KZ {D B:aa} {te t' t:TypeId} (id0 i:Nat) (path:List Nat) {id o:Nat} {zs:List AV} {z x:AV}:D.st[id0]?=some (some (.cells te zs))->zs[i]?=some z->z.at path=some (.ptr t' id 0 [])->D.st[id]?=some (some (.cells t' [x]))->id≠id0->place P te path=some (t,o)->
   lV P (D.ax ((D.st.set id none).set id0 (some (.cells te (zs.set i (z.setAt path (.loc t' x))))))) B->lV P D B
 |pt {D B:aa} (d:Nat) {t:TypeId} {id:Nat} {x:AV}:D.env d= .ptr t id 0 []->D.st[id]?=some (some (.cells t [x]))->lV P ((D.upd d (.loc t x)).ax (D.st.set id none)) B->lV P D B
 |bS {D B:aa} {te:TypeId} (id0 i:Nat) {zs:List AV} {z z':AV}:D.st[id0]?=some (some (.cells te zs))->zs[i]?=some z->Sub z z'->lV P (D.ax (D.st.set id0 (some (.cells te (zs.set i z'))))) B->lV P D B
theorem aE.MH (h:aE P W0 w C σ){te:TypeId}{id0 i:Nat}{zs:List AV}{z z':AV}(h0:σ[id0]?=some (some (.cells te zs)))(hz:zs[i]?=some z)(hs:Sub z z'):
  aE P W0 w C (σ.set id0 (some (.cells te (zs.set i z')))):=by
 obtain⟨b,base,room,arr,t',fr,m1,m2,mf,m3,m4,cf,m5⟩:=h.cells h0;have hid0l:id0<σ.length:=(acf.1 h0).1;refine h.change (Step.refl _ _) h.low (by rw[h.nx];simp) h.inj h.dom λj=>?_
 by_cases hj:j=id0
 .subst hj;left;rw[aci hid0l,acm,m1];refine⟨rfl,arr,t',fr,m2,mf,m3,by simp_all,cf,λp x hx=>?_⟩;grind [Rel.sub,Sub.fits]
 grind
theorem bF.Us {B:aa}(hf:lV P A B): ∀{C:Ctx},bF P W0 n w C A a-> ∃C',bF P W0 n w C' B a/\Step w C w C':=by
 induction hf with
 |refl A=>grind [Step.refl]
 |row d h1 h2 h3 _ ih=>
  intro C h;have hv:=h.env d;rw[h1]at hv;have hfr:=mN h.st hv h2 h3;obtain⟨k1,k2⟩:=h.st.kill _ (acf.1 h2).1;have hr1:=h.step k1 k2;have hr2:bF P W0 n w (C.kill _) ((aa.upd _ d (.sl _ _)).ax (List.set _ _ none)) a:=⟨λj=>by
   by_cases hj:j=d
   .subst hj;simpa[aa.upd,aa.ax]using hfr
   .have:=hr1.env j;simpa[aa.upd,aa.ax,hj]using this,hr1.defers,hr1.size,hr1.st⟩
  grind [Step.trans]
 |cell id0 i path h1 h2 h3 h4 h5 h6 h7 _ ih=>
  intro C h;obtain⟨k1,k2⟩:=h.st.kill _ (acf.1 h4).1;have hr1:=h.step k1 (h.st.F6 h1 h2 h3 h4 h5 h6 h7);obtain⟨C',g1,g2⟩:=ih hr1;grind [Step.trans]
 |KZ id0 i path h1 h2 h3 h4 h5 h6 _ ih=>
  intro C h;have hidl:=(acf.1 h4).1;obtain⟨k1,k2⟩:=h.st.kill _ hidl;have hr1:=h.step k1 (h.st.z8 h1 h2 h3 hidl h5 h6 rfl rfl λ_ hv=>mG h.st hv h4 (i:=0) rfl);obtain⟨C',g1,g2⟩:=ih hr1;grind [Step.trans]
 |pt d h1 h2 _ ih=>
  intro C h;have hv:=h.env d;rw[h1]at hv;have hfr:=mG h.st hv h2 (i:=0) rfl;obtain⟨k1,k2⟩:=h.st.kill _ (acf.1 h2).1;have hr1:=h.step k1 k2;have hr2:bF P W0 n w (C.kill _) ((aa.upd _ d (.loc _ _)).ax (List.set _ _ none)) a:=⟨λj=>by
   by_cases hj:j=d
   .subst hj;simpa[aa.upd,aa.ax]using hfr
   .have:=hr1.env j;simpa[aa.upd,aa.ax,hj]using this,hr1.defers,hr1.size,hr1.st⟩
  grind [Step.trans]
 |bS id0 i h1 h2 h3 _ ih=>
  intro C h;have hr1:=h.step (.refl _ _) (h.st.MH h1 h2 h3);exact ih hr1
def gP (A:aa):ResultVar->AV
 | .tmp t=>A.env t
 | .cell a _=>uc A.st (A.env a)
def ve (A:aa):ResultVar->Prop
 | .tmp _=>True
 | .cell a t=>tR none A.st t (A.env a)
def uA (A:aa):List ResultVar->AV
 |[t]=>gP A t
 |ts=>.tup (ts.map (gP A))
def nM (A:aa):List ResultVar->Prop
 |[]=>True
 |t::r=>ve A t/\nM A r
def OO (a:Act):ResultVar->Sem Value
 | .tmp t=>pure (a.tmps.getD t undef)
 | .cell a' ty=>do loadVar ty (<-asAddr (a.tmps.getD a' undef))
theorem OX (hr:bF P W0 n w C A a)(t:ResultVar)(hc:ve A t): ∃v,(OO a t).run P w= .ok v w/\aI P w C (gP A t) v:=by
 cases t with
 |tmp t=>exact⟨_,rfl,hr.env t⟩
 |cell d ty=>
  have hd:=hr.env d;simp only[ve]at hc;simp only[gP];cases hv:A.env d with
  |loc ty' v=>
   rw[hv]at hc hd;obtain rfl:ty'=ty:=hc;obtain⟨b,o,cs,e,h1,h2,h3,h4⟩:=hd.rK;rw[OO,e];obtain⟨x,g1,g2⟩:=gL (w:=w) (off:=o) h1 h2 (λj c hj=>(h4 j c hj).1);exact⟨x,by grind [asAddr],g2⟩
  |ptr ty' id i path=>
   rw[hv]at hc hd;obtain⟨rfl,hl⟩:=hc;obtain⟨x,hx⟩:=Option.isSome_iff_exists.1 (show(look A.st id i path).isSome=true from hl);obtain⟨te,xs,z,h1,h2,h3⟩:=og hx;obtain⟨ad,e0,_,hm⟩:=hd.px;rw[OO,e0];obtain⟨b,base,room,arr,t',fr,m1,m2,mf,m3,m4,cf,m5⟩:=hr.st.cells h1;obtain⟨b',te',base',room',off,e1,e2,e3⟩:=hm _ m1;cases e1;subst e3;obtain⟨r1,r2,r3,r4⟩:=m5 i z h2;obtain⟨c,g1,g2,g3,g4⟩:=Cr path te _ off z x (cf i) r1 r3 e2 h3;obtain⟨y,q1,q2⟩:=gL (w:=w) (b:=b) (off:=base+i*af P te+off) g1 g2 (λj c' hj=>by
    grind [World.cell?])
   grind [uc,asAddr]
  |_=>rw[hv]at hc;exact hc.elim
theorem EI {F:ResultVar->Sem Value}(hr:bF P W0 n w C A a)(hF: ∀t,ve A t-> ∃v,(F t).run P w= .ok v w/\aI P w C (gP A t) v): ∀ts:List ResultVar,nM A ts-> ∃vs:List Value,(ts.mapM F).run P w= .ok vs w/\vs.length=ts.length/\ ∀(i:Nat) (t:ResultVar) (v:Value),ts[i]?=some t->vs[i]?=some v->aI P w C (gP A t) v
 |[],_=>⟨[],rfl,rfl,by simp⟩
 |t::ts,hc=>by
  obtain⟨v,h1,h2⟩:=hF t hc.1;obtain⟨vs,g1,g2,g3⟩:=EI hr hF ts hc.2;refine⟨v::vs,?_,by simp[g2],λi t' v' ht hv=>?_⟩
  .simp_all
  grind
theorem mY {fn:Func}{ts:List ResultVar}(hr:bF P W0 n w C A a)(h:fn.results=ts.toArray)(hc:nM A ts): ∃v,(results fn a.tmps).run P w= .ok v w/\aI P w C (uA A ts) v:=by
 obtain⟨vs,g1,g2,g3⟩:=EI (F:=OO a) hr (λt ht=>OX hr t ht) ts hc;have hm:(results fn a.tmps).run P w= .ok (if h:vs.toArray.size=1 then vs.toArray[0]else .tuple vs.toArray) w:=by
  have e:results fn a.tmps=(do
    let vs <-fn.results.mapM (OO a)
    pure (if h:vs.size=1 then vs[0]else .tuple vs)):=by
   unfold results;congr 2
  simp_all
 match ts,vs,hm,g2,g3 with
 |[],[],hm,_,_=>exact⟨_,hm,.tup (vs:=[]) rfl (by simp)⟩
 |[t],[v],hm,_,g3=>exact⟨_,hm,g3 0 t v rfl rfl⟩
 |t::u::ts,v::v'::vs,hm,g2,g3=>
  refine⟨_,hm,?_⟩;rw[dif_neg (by simp)];refine .tup (by simp_all) (λi x v hx hv=>?_);grind
def cW (P:Program)(R:aa->Prop):Exit->aa->Prop
 | .normal,A| .ret,A=>∃ A',lV P A A'/\R A'
 |_,_=>False
theorem cW.ret {R:aa->Prop}(h:R A):cW P R .ret A:=⟨A,.refl A,h⟩
theorem cW.normal {R:aa->Prop}(h:R A):cW P R .normal A:=⟨A,.refl A,h⟩
theorem cW.via {R:aa->Prop}{x:Exit}{B:aa}(hx:x= .ret\/x= .normal)(hf:lV P A B)(h:R B):cW P R x A:=by
 rcases hx with rfl|rfl
 .exact⟨B,hf,h⟩
 .exact⟨B,hf,h⟩
theorem cW.vc {R:aa->Prop}{c:Code}(h:VC P W0 n c (cW P R) A):VC P W0 n c (λe A'=>(e= .normal\/e= .ret)/\R A') A:=λw C a hr=>
 iN (h w C a hr) λe a' w' ⟨A',C',q,r,s⟩=>by
  cases e with
  |normal=>obtain⟨B,g1,g2⟩:=q;grind [bF.Us,Step.trans]
  |ret=>obtain⟨B,g1,g2⟩:=q;grind [bF.Us,Step.trans]
  |_=>exact q.elim
def K8 (ts:List ResultVar)(σ:ab)(Q:AV->ab->Prop)(A:aa):Prop:=nM A ts/\ ∃r,dj (uA A ts) r/\σ.length<=A.st.length/\Q r A.st
theorem Tl {f : FuncId} {fn : Func} {c : Code} {args : List AV} {Q : AV → ab → Prop} {m : Nat} (ts : List ResultVar) (hf : P.funcs[f]? = some fn) (hb : fn.body = some c) (hnm : (fn.name == "runtime.NumGoroutine") = false)
  (hm:fn.ntmps=m) (hargs:Nat.ble args.length m=true) (hres:fn.results=ts.toArray)
  (h:(∀a∈args,Small a)->VC P W0 m c (cW P (K8 ts σ Q)) ⟨iU args,σ⟩):aP P W0 f args σ Q:=by
 subst hm;refine λw C vs hst hl hv=>?_
 have hsm: ∀a∈args,Small a:=dZ λi x hx=>(hv i x _ hx (ach (by grind))).small
 have hvc:=cW.vc (h hsm);refine .inl ⟨⟨fn,hf,by simp[hb],hnm⟩,calls_of_wp hf hb (wp_mono (Ca (hvc w C _ (lX hst hl hv (acj hargs)))) λe a' w' ⟨A',C',q,r,s⟩=>?_)⟩;have fin:a'.defers=[]/\ ∃v,(results fn a'.tmps).run P w'= .ok v w'/\ ∃v₁ r σ' C',Ending.returned v= .returned v₁/\Q r σ'/\aE P W0 w' C' σ'/\aI P w' C' r v₁/\Step w C w' C':=by
  obtain⟨_,hc,r1,h2,_,h4⟩:=q;obtain⟨v,g1,g2⟩:=mY r hres hc;exact⟨r.defers,v,g1,v,r1,A'.st,C',rfl,h4,r.st,g2.bS h2,s⟩
 rcases q.1 with rfl|rfl
 .exact fin
 .exact fin
theorem jH {f : FuncId} {fn : Func} {c : Code} {args : List AV} {Q : AV → ab → Prop} {m : Nat} (ts : List ResultVar) (fz : List Nat) (hf : P.funcs[f]? = some fn) (hb : fn.body = some c) (hnm : (fn.name == "runtime.NumGoroutine") = false)
  (hm:fn.ntmps=m) (hargs:Nat.ble args.length m=true) (hres:fn.results=ts.toArray)
  (h:(∀a∈args,Small a)->cVC P W0 m fz c (cW P (K8 ts σ Q)) ⟨iU args,σ⟩):aP P W0 f args σ Q:=
 Tl ts hf hb hnm hm hargs hres λhs=>bA c _ _ (h hs)
def T8 (ts:List ResultVar)(r:AV)(σ:ab)(A:aa):Prop:=nM A ts/\dj (uA A ts) r/\A.st.take σ.length=σ
theorem CB {f : FuncId} {fn : Func} {c : Code} {args : List AV} {r : AV} {m : Nat} (ts : List ResultVar) (fz : List Nat) (hf : P.funcs[f]? = some fn) (hb : fn.body = some c) (hnm : (fn.name == "runtime.NumGoroutine") = false)
  (hm:fn.ntmps=m) (hargs:Nat.ble args.length m=true) (hres:fn.results=ts.toArray) (hr:aW σ.length r)
  (h:(∀a∈args,Small a)->cVC P W0 m fz c (cW P (T8 ts r σ)) ⟨iU args,σ⟩):aP P W0 f args σ λr' σ'=>r'=r/\σ'=σ:=by
 subst hm;refine λw C vs hst hl hv=>?_
 have hsm: ∀a∈args,Small a:=dZ λi x hx=>(hv i x _ hx (ach (by grind))).small
 have hvc:=cW.vc (bA c _ _ (h hsm));refine .inl ⟨⟨fn,hf,by simp[hb],hnm⟩,calls_of_wp hf hb (wp_mono (Ca (hvc w C _ (lX hst hl hv (acj hargs)))) λe a' w' ⟨A',C',q,rl,s⟩=>?_)⟩;have fin:a'.defers=[]/\ ∃v,(results fn a'.tmps).run P w'= .ok v w'/\ ∃v₁ r' σ' C',Ending.returned v= .returned v₁/\(r'=r/\σ'=σ)/\aE P W0 w' C' σ'/\aI P w' C' r' v₁/\Step w C w' C':=by
  obtain⟨_,hc,q1,q2⟩:=q;obtain⟨v,g1,g2⟩:=mY rl hres hc;have hle:σ.length<=A'.st.length:=by grind
  have hs2:aE P W0 w' (C'.eQ σ.length) σ:=by
   have:=rl.st.eQ (n:=σ.length) hle λid te xs hid hs=>hst.ids (show σ[id]?=some (some (.cells te xs)) by grind)
   simp_all
  grind [bF.defers,aI.eQ,aI.bS,Step.eQ,aE.nx]
 rcases q.1 with rfl|rfl
 .exact fin
 .exact fin
theorem xJ {f : FuncId} {fn : Func} {c : Code} {args : List AV} {r : AV} {m : Nat} (ts : List ResultVar) (fz : List Nat) (hf : P.funcs[f]? = some fn) (hb : fn.body = some c) (hnm : (fn.name == "runtime.NumGoroutine") = false)
  (hm:fn.ntmps=m) (hargs:Nat.ble args.length m=true) (hres:fn.results=ts.toArray) (hr:aW 0 r)
  (h:(∀a∈args,Small a)-> ∀σ,cVC P W0 m fz c (cW P (T8 ts r σ)) ⟨iU args,σ⟩):ai P W0 f args r:=λσ=>
 CB ts fz hf hb hnm hm hargs hres (fk (Nat.zero_le _) hr) λhs=>h hs σ
def S7 :Nat->Code->Option (Code×Code)
 |0,.seq x y=>some (x,y)
 |k+1,.seq x y=>(S7 k y).map λz=>(.seq x z.1,z.2)
 |_,_=>none
theorem VC.abJ {c:Code}{Q:Exit->aa->Prop}{B:aa}(hf:lV P A B)(h:VC P W0 n c Q B):VC P W0 n c Q A:=λw C a hr=>by
 obtain⟨C',h1,h2⟩:=bF.Us hf hr;exact iN (h w C' a h1) λ_ _ _ ⟨A',C2,q,r,s⟩=>⟨A',C2,q,r,h2.trans s⟩
theorem VC.cut {fz:List Nat}{Q:Exit->aa->Prop}: ∀(k:Nat) {c x y:Code} {A:aa},S7 k c=some (x,y)->cVC P W0 n fz x (cq (λA'=>∃ B,lV P A' B/\cVC P W0 n fz y Q B) Q) A->VC P W0 n c Q A
 |0,.seq x y,_,_,A,h,hv=>by
  cases h;refine .seq ((bA x _ _ hv).mono λe A' q=>?_);cases e with
  |normal=>
   obtain⟨B,hf,hq⟩:=q;exact .abJ hf (bA y _ _ hq)
  |_=>exact q
 |k+1,.seq x z,_,y,A,h,hv=>by
  obtain⟨⟨u,v⟩,hu,e⟩:=Option.map_eq_some_iff.1 (show(S7 k z).map (λz=>(Code.seq x z.1,z.2))=_ from h);cases e;refine .seq ((bA x _ _ hv).mono λe A' q=>?_);cases e with
  |normal=>exact VC.cut k hu q
  |_=>exact q
def RO (ts:List ResultVar)(r:AV)(σ:ab):Exit->aa->Prop
 | .normal,A| .ret,A=>T8 ts r σ A
 |_,_=>False
theorem mg {f : FuncId} {fn : Func} {c : Code} {args : List AV} {r : AV} {m : Nat} (ts : List ResultVar) (fz : List Nat) (hf : P.funcs[f]? = some fn) (hb : fn.body = some c) (hnm : (fn.name == "runtime.NumGoroutine") = false)
  (hm:fn.ntmps=m) (hargs:Nat.ble args.length m=true) (hres:fn.results=ts.toArray) (hr:aW 0 r)
  (h:(∀a∈args,Small a)-> ∀σ,cVC P W0 m fz c (RO ts r σ) ⟨iU args,σ⟩):ai P W0 f args r:=
 xJ ts fz hf hb hnm hm hargs hres hr λhs σ=>fp c _ (λe A' _ q=>by
  cases e with
  |normal=>exact cW.normal q
  |ret=>exact cW.ret q
  |_=>exact q.elim) (h hs σ)
@[go_sem ↓] theorem Za {fz:List Nat}{k:aa->Prop}(dst:Option Nat)(t:TypeId):eop P W0 fz dst A k (.alloc t)=op2 P W0 fz dst A k (.alloc t):=propext aco
theorem Lo (ts:List ResultVar)(r:AV):RO ts r σ .ret A=(nM A ts/\dj (uA A ts) r/\A.st.take σ.length=σ):=propext aco
theorem Cc (ts:List ResultVar)(r:AV):RO ts r σ .normal A=(nM A ts/\dj (uA A ts) r/\A.st.take σ.length=σ):=propext aco
theorem UM (ts:List ResultVar)(r:AV):T8 ts r σ A=(nM A ts/\dj (uA A ts) r/\A.st.take σ.length=σ):=propext aco
theorem TH (ts:List ResultVar)(Q:AV->ab->Prop):K8 ts σ Q A=(nM A ts/\ ∃r,dj (uA A ts) r/\σ.length<=A.st.length/\Q r A.st):=propext aco
theorem QM (t:ResultVar):uA A [t]=gP A t:=rfl
theorem SO (t u:ResultVar):uA A [t,u]= .tup [gP A t,gP A u]:=rfl
theorem HW (t u v:ResultVar):uA A [t,u,v]= .tup [gP A t,gP A u,gP A v]:=rfl
theorem Sc :uA A []= .tup []:=rfl
theorem Sg (t:Nat):gP A (.tmp t)=A.env t:=rfl
theorem Oq (t:Nat)(ty:TypeId):gP A (.cell t ty)=uc A.st (A.env t):=rfl
theorem Oo (t:Nat):ve A (.tmp t)=True:=rfl
theorem H7 (t:Nat)(ty:TypeId):ve A (.cell t ty)=tR none A.st ty (A.env t):=rfl
theorem L8 :nM A []=True:=rfl
theorem G9 (t:ResultVar)(r:List ResultVar):nM A (t::r)=(ve A t/\nM A r):=rfl
attribute [go_sem] Lo Cc UM TH QM SO HW Sc Sg Oq Oo H7 L8 G9
end
def iy :Obj->Bool
 | .cells ..=>false
 |_=>true
structure dB (w:World)(C:Ctx)(D:Nat)(o:Obj):Prop where
 hp:w.heap[D]?=some o
 nc:iy o=true
 no: ∀id ow,C.m id=some ow->ow.blk≠D
section
variable {P :Program}{W0 w w' w0:World}{C C' C0:Ctx}{σ σ':ab}{n:Nat}{A:aa}{a:Act}{D:Nat}{o o':Obj}
theorem dB.step (h:dB w C D o)(hs:Step w C w' C'):dB w' C' D o:=by
 obtain⟨e,k⟩:=hs.block D (acg.1 h.hp).1 h.no;exact⟨e.trans h.hp,h.nc,k⟩
theorem UJ {b i:Nat}(h:w.heap[b]?=some o)(h1:iy o=true):w.cell? ⟨b,i,none⟩=none:=by
 unfold World.cell?;simp only[h];cases o<;>first|rfl|cases h1
theorem xe (h:w.heap[D]?=some o)(h1:iy o=true)(h2:iy o'=true)(b i:Nat):(w.putObj D o').cell? ⟨b,i,none⟩=w.cell? ⟨b,i,none⟩:=by
 grind [UJ,World.putObj_heap_same,World.cell?,World.putObj_heap_other]
theorem dB.Tr (h:dB w C D o)(h2:iy o'=true):lj w C (w.putObj D o') C:=
 ⟨ack _,λ_ _ _ h=>h,λb i hs=>⟨xe h.hp h.nc h2 b i,by grind [fF,World.putObj_size]⟩⟩
theorem dB.put (h:dB w C D o)(h2:iy o'=true):dB (w.putObj D o') C D o':=⟨World.putObj_heap_same (acg.1 h.hp).1,h2,h.no⟩
theorem dB.other {D':Nat}{o2:Obj}(h:dB w C D o)(hne:D≠D'):dB (w.putObj D' o2) C D o:=⟨(World.putObj_heap_other hne).trans h.hp,h.nc,h.no⟩
theorem aE.apart (h:aE P W0 w C σ)(hA:dB w C D o)(h2:iy o'=true)(hD:W0.heap.size<=D):aE P W0 (w.putObj D o') C σ:=by
 refine⟨h.base.trans ⟨rfl,rfl,rfl,by simp_all,λk hk=>World.putObj_heap_other (by omega)⟩,h.low,h.nx,h.inj,h.dom,λi=>?_⟩;exact(h.obj i).gB (hA.Tr h2) λx hx=>World.putObj_heap_other (hA.no i x hx)
theorem bF.apart (h:bF P W0 n w C A a)(hA:dB w C D o)(h2:iy o'=true)(hD:W0.heap.size<=D):bF P W0 n (w.putObj D o') C A a:=
 ⟨λi=>(h.env i).gB (hA.Tr h2),h.defers,h.size,h.st.apart hA h2 hD⟩
theorem Step.apart (h:Step w0 C0 w C)(hA:dB w C D o)(h2:iy o'=true)(hD:w0.heap.size<=D):Step w0 C0 (w.putObj D o') C:=
 ⟨h.nx,h.dead,λb i hs=>by
  obtain⟨e,s⟩:=h.iq b i hs;exact⟨(xe hA.hp hA.nc h2 b i).trans e,by grind [fF,World.putObj_size]⟩,h.os,h.tape,h.output,by rw[World.putObj_size];exact h.size,λb hb hn=>by
  grind [Step.block,World.putObj_heap_other]⟩
theorem dB.new (h:aE P W0 w C σ)(o:Obj)(ho:iy o=true):dB (w.alloc o) C w.heap.size o:=⟨World.alloc_heap_new w o,ho,h.fresh⟩
def mP (w:World)(C:Ctx)(B:Nat)(ms:List Deferred):Prop:=∀ d∈ms,∃D,d={ target:=.collected D,args:=#[] }/\B<=D/\dB w C D (.deferred (some []))
theorem mP.step {B:Nat}{ms:List Deferred}(h:mP w C B ms)(hs:Step w C w' C'):mP w' C' B ms:=λd hd=>by
 obtain⟨D,h1,h2,h3⟩:=h d hd;grind [dB.step]
def VCM (P:Program)(W0:World)(n:Nat)(c:Code)(Q:Exit->aa->Prop)(A:aa):Prop:=
 ∀w C a ms B,bF P W0 n w C A a->mP w C B ms->(ms.map (·.target)).Nodup->B<=w.heap.size->c.wpIn .wide 0 P (λe a' w'=>∃ a0 ms' A' C',a'=more a0 ms'/\Q e A'/\bF P W0 n w' C' A' a0/\mP w' C' B ms'/\(ms'.map (·.target)).Nodup/\Step w C w' C') (more a ms) w
theorem VCM.of {c:Code}{Q:Exit->aa->Prop}(h:VC P W0 n c Q A):VCM P W0 n c Q A:=λw C a ms B hr hm hd hB=>
 wpIn_mono (h w C a hr none 0 ms) λe a' w' ⟨a0,e0,A',C',q,r,s⟩=>⟨a0,ms,A',C',e0,q,r,hm.step s,hd,s⟩
theorem VCM.seq {x y:Code}{Q:Exit->aa->Prop}(h:VCM P W0 n x (cq (VCM P W0 n y Q) Q) A):VCM P W0 n (.seq x y) Q A:=λw C a ms B hr hm hd hB=>
 wpIn_seq (wpIn_mono (h w C a ms B hr hm hd hB) λe a' w' ⟨a0,ms',A',C',e0,q,r,m,d,s⟩=>by
  cases e with
  |normal=>
   subst e0;exact wpIn_mono (q w' C' a0 ms' B r m d (acn hB s.size)) λ_ _ _ ⟨a1,ms'',A'',C'',e1,q',r',m',d',s'⟩=>⟨a1,ms'',A'',C'',e1,q',r',m',d',s.trans s'⟩
  |_=>exact⟨a0,ms',A',C',e0,q,r,m,d,s⟩)
theorem VCM.block {id:Nat}{c:Code}{Q:Exit->aa->Prop}(h:VCM P W0 n c (eB id Q) A):VCM P W0 n (.block id c) Q A:=λw C a ms B hr hm hd hB=>
 wpIn_block (wpIn_mono (h w C a ms B hr hm hd hB) λe a' w' ⟨a0,ms',A',C',e0,q,r,m,d,s⟩=>by
  cases e with
  |exit id'=>
   grind [eB,Exit.inBlock]
  |_=>exact⟨a0,ms',A',C',e0,q,r,m,d,s⟩)
theorem VCM.mono {c:Code}{Q Q':Exit->aa->Prop}(h:VCM P W0 n c Q A)(hq: ∀e A,Q e A->Q' e A):VCM P W0 n c Q' A:=λw C a ms B hr hm hd hB=>
 wpIn_mono (h w C a ms B hr hm hd hB) λ_ _ _ ⟨a0,ms',A',C',e0,q,r,m,d,s⟩=>⟨a0,ms',A',C',e0,hq _ _ q,r,m,d,s⟩
theorem KS {fn:Func}{tmps:Array Value}{R:Ending->World->Prop}{B:Nat}: ∀(ms:List Deferred) (w:World) (C:Ctx),mP w C B ms->(ms.map (·.target)).Nodup->
  (∀w',(∀A a,bF P W0 n w C A a->W0.heap.size<=B->bF P W0 n w' C A a)->(∀w0 C0,Step w0 C0 w C->w0.heap.size<=B->Step w0 C0 w' C)->LeavesIn .wide 0 P fn tmps R [] .returning w')->LeavesInM .wide 0 P fn tmps R ms .returning w
 |[],w,C,_,_,h=>h w (λ_ _ h _=>h) (λ_ _ h _=>h)
 |d::ms,w,C,hm,hd,h=>by
  obtain⟨D,rfl,hB,hA⟩:=hm d (by simp);rw[List.map_cons,List.nodup_cons]at hd;refine⟨by simp,.inl ⟨D,w.putObj D (.deferred none),rfl,run_takeDeferred hA.hp,KS ms _ C (λd hdm=>?_) hd.2 λw' h1 h2=>h w' (λA a hr hl=>h1 A a (hr.apart hA rfl (acn hl hB)) hl) (λw0 C0 hs hl=>h2 w0 C0 (hs.apart hA rfl (acn hl hB)) hl)⟩⟩;obtain⟨D',rfl,hB',hA'⟩:=hm d (by simp[hdm]);grind [dB.other]
theorem RU {f : FuncId} {fn : Func} {c : Code} {args : List AV} {Q : AV → ab → Prop} {m : Nat} (ts : List ResultVar) (hf : P.funcs[f]? = some fn) (hb : fn.body = some c) (hnm : (fn.name == "runtime.NumGoroutine") = false)
  (hm:fn.ntmps=m) (hargs:Nat.ble args.length m=true) (hres:fn.results=ts.toArray)
  (h:(∀a∈args,Small a)->VCM P W0 m c (cW P (K8 ts σ Q)) ⟨iU args,σ⟩):aP P W0 f args σ Q:=by
 subst hm;refine λw C vs hst hl hv=>?_
 have hsm: ∀a∈args,Small a:=dZ λi x hx=>(hv i x _ hx (ach (by grind))).small
 have hr0:=lX (m:=fn.ntmps) hst hl hv (acj hargs);refine .inl ⟨⟨fn,hf,by simp[hb],hnm⟩,(callsIn_wide (n:=0)).1 (callsIn_of_wp_marks hf hb trivial ?_)⟩;have h0:=h hsm w C _ [] w.heap.size hr0 (λd hd=>by cases hd) (by simp) (ack _);rw[fP]at h0;refine wpIn_mono h0 λe a' w' ⟨a0,ms',A',C',e0,q,r,mk,md,s⟩=>?_
 have fin:(∃B,lV P A' B/\K8 ts σ Q B)->LeavesInM .wide 0 P fn a'.tmps (λe w'=>∃ v r σ' C',e= .returned v/\Q r σ'/\aE P W0 w' C' σ'/\aI P w' C' r v/\Step w C w' C') a'.defers .returning w':=by
  rintro⟨B,g1,hc,r1,h2,_,h4⟩;obtain⟨C'',k1,k2⟩:=r.Us g1;have ed:a'.defers=ms':=by grind [more,bF.defers]
  have et:a'.tmps=a0.tmps:=by rw[e0];rfl
  rw[ed,et];refine KS (P:=P) (W0:=W0) (n:=fn.ntmps) (B:=w.heap.size) ms' w' C'' (mk.step k2) md λw3 g3 g4=>?_
  have r3:=g3 B a0 k1 hst.base.size;obtain⟨v,q1,q2⟩:=mY r3 hres hc;exact⟨v,q1,v,r1,B.st,C'',rfl,h4,r3.st,q2.bS h2,g4 w C (s.trans k2) (ack _)⟩
 cases e with
 |normal=>exact fin q
 |ret=>exact fin q
 |_=>exact q.elim
end
open Go Go.Sort
section
variable {P :Program}{W0 w:World}{C:Ctx}{σ:ab}
theorem aE.Cs {id:Nat}{te:TypeId}{xs ys:List AV}{fl:Array Value}{k n:Nat}{os:Array Obj}{b base room:Nat}(h:aE P W0 w C σ)(hs:σ[id]?=some (some (.cells te xs)))(hm:C.m id=some (.obj b te base room))
  (hk:af P te=k) (hl:ys.length=xs.length) (hfl:fl.size=xs.length*k)
  (hy: ∀(i:Nat) (y:AV),ys[i]?=some y-> ∃cs,Rel P w C y cs/\cs.length=k/\fits P te y/\ ∀(j:Nat) (c:Value),cs[j]?=some c->fl[i*k+j]?=some c):
  Step w C (grow (putRow (λv:Value=>v) (Sort.ahead w n) b base fl) os) C/\aE P W0 (grow (putRow (λv:Value=>v) (Sort.ahead w n) b base fl) os) C (σ.set id (some (.cells te ys))):=by
 obtain⟨b',base',room',arr,t',fr,m1,m2,mf,m3,m4,cf,m5⟩:=h.cells hs;rw[hm]at m1;cases m1;have hbl:b<w.heap.size:=(acg.1 m2).1;have hidl:=(acf.1 hs).1;obtain⟨w',hw'⟩: ∃w',w'=grow (putRow (λv:Value=>v) (Sort.ahead w n) b base fl) os:=⟨_,rfl⟩;have hsz:(putRow (λv:Value=>v) (Sort.ahead w n) b base fl).heap.size=w.heap.size:=by simp_all
 have hot: ∀j,j<w.heap.size->j≠b->w'.heap[j]?=w.heap[j]?:=λj hj hne=>by
  grind [Sort.heap_grow_old,Sort.putRow,Sort.mapBlock,Sort.ahead]
 have hat:w'.heap[b]?=some (.cells (putCells (λv:Value=>v) base fl arr) t' fr):=by
  rw[hw',heap_grow_old _ _ (by omega)];simp only[putRow,mapBlock,Sort.ahead];rw[Array.getElem?_modify,if_pos rfl,m2];rfl
 have hsize:w.heap.size<=w'.heap.size:=by simp_all
 have hst:Step w C w' C:=⟨ack _,λ_ _ _ h=>h,λb0 o0 hs0=>by
  have hne:b0≠b:=λe=>by
   obtain⟨e1,hw,cap,e2,_⟩:=hs0.2 id _ hm (by rw[e];rfl);cases e2
  refine⟨?_,Nat.lt_of_lt_of_le hs0.1 hsize,hs0.2⟩;unfold World.cell?;simp only[hot b0 hs0.1 hne],by rw[hw'];rfl,by simp_all,by rw[hw'];rfl,hsize,λj hj hn=>⟨hot j hj λe=>hn id _ hm (by rw[e];rfl),hn⟩⟩
 rw[<-hw'];refine⟨hst,h.change hst h.low (by rw[h.nx];simp) h.inj h.dom λj=>?_⟩;by_cases hj:j=id
 .subst hj;left;rw[aci hidl,acm,hm];have hps:(putCells (λv:Value=>v) base fl arr).size=arr.size:=by simp[putCells]
  classical
  refine⟨rfl,_,t',fr,hat,by simp_all,by omega,by simp_all,λi=>(ys[i]?.bind λy=>if hex: ∃cs,Rel P w C y cs/\cs.length=k/\fits P te y/\ ∀(j:Nat) (c:Value),cs[j]?=some c->fl[i*k+j]?=some c then some (Classical.choose hex)else none).getD [],λi x hx=>?_⟩;have hex:=hy i x hx;simp only[hx,Option.bind_some,dif_pos hex,Option.getD_some];obtain⟨r1,r2,r3,r4⟩:=acq hex;refine⟨r1.mono hst,by omega,r3,λq c hq=>?_⟩;have hflq:=r4 q c hq;have hql:q<k:=by grind
  have hlt:=(acg.1 hflq).1;have hin:base+i*k+q<arr.size:=by
   grind
  rw[hk];simp only[putCells,Array.getElem?_mapIdx];grind
 .right;refine⟨by grind,rfl,λow ho=>hot _ (h.lt ho) λe=>hj (h.inj j id _ _ ho hm (by rw[e];rfl))⟩
end
end Go.Av
end
