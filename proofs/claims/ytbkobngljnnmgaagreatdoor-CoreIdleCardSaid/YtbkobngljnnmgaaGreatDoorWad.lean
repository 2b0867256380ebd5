/- What the last text of this claim rests on. No conditions. -/
import Derived.IntWalk
import Derived.RangeFuncLeaves
import Derived.RangeFuncRecord
import Derived.Shelf.SlSortCmp.NoneTotal
import Derived.Test.YtbkobngljnnmgaaGreatDoorProg
import Derived.Test.YtbkobngljnnmgaaGreatDoorWac
set_option linter.unusedSimpArgs false
set_option linter.unusedVariables false
open List renaming getElem?_eq_some_iff->acG,getElem?_eq_getElem->acI,getElem?_set_self->acJ
open Array renaming getElem?_eq_some_iff->acH
open Nat renaming le_of_ble_eq_true->acK,le_refl->acL,le_trans->acN,succ_pos->acP
open Option renaming join_some->acM
open Iff renaming rfl->acO
open Classical renaming choose_spec->acQ
section
namespace Go.Av
open Go
theorem aG {n:Int}(h: -9223372036854775808<=n/\n<=9223372036854775807):IntKind.i64.wrap n=n:=by grind [IntKind.wrap_i64]
@[go_sem] theorem wrap_u8 (c:UInt8):IntKind.i64.wrap (c.toNat:Int)=c.toNat:=aG (by grind [UInt8.toNat_lt])
theorem F9.of {fz:List Nat}{id:Nat}{ops:Array Oper}(h:Ey fz (eM fz id) ops (KJ [] ops.toList)=true):F9 fz id ops .mk:=h
@[go_sem] theorem Zi (n:Nat):(((n+1:Nat):Int)==0)=false:=by grind
@[go_sem] theorem abg (n:Nat):((no_index (OfNat.ofNat n):Nat):Int)=(OfNat.ofNat n:Int):=rfl
@[go_sem] theorem aaE (n:Nat)(h:n<=9223372036854775807):IntKind.i64.wrap (no_index (OfNat.ofNat n):Int)=(OfNat.ofNat n:Int):=aG (by
 have e:(OfNat.ofNat n:Int)=((n:Nat):Int):=rfl;omega)
theorem aq :maxLen=9223372036854775807:=rfl
theorem jf {i N:Nat}(h:i<N)(hN:N<=maxLen):IntKind.i64.wrap ((i:Int)+1)=((i+1:Nat):Int):=by
 grind [aq,aG]
theorem ag {i N:Nat}(h:i<N)(hN:N<=maxLen):AV.int .i64 (IntKind.i64.wrap ((i:Int)+1))= .int .i64 ((i+1:Nat):Int):=by rw[jf h hN]
theorem dI {l:List UInt8}(h:Small (.str l)):l.length<=maxLen:=by cases h;assumption
theorem RM {e:TypeId}{xs:List AV}(h:Small (.sl e xs)):xs.length<=maxLen/\ ∀x∈xs,Small x:=by cases h;simp_all
theorem pg {t:TypeId}{fs:List AV}(h:Small (.agg t fs)): ∀x∈fs,Small x:=by cases h;assumption
theorem aL {α:Type}{f:α->AV}{e:TypeId}{l:List α}(h:Small (.sl e (l.map f))):l.length<=maxLen/\ ∀x∈l,Small (f x):=by
 obtain⟨h1,h2⟩:=RM h;simp_all
@[go_sem] theorem ZU {α:Type}(l:List α)(i:Nat):iK l i l.length=l.drop i:=by
 grind [iK,List.length_drop]
@[go_sem] theorem ZD {α:Type}(l:List α)(j:Nat):iK l 0 j=l.take j:=by simp[iK]
@[go_sem] theorem XM {α:Type}(c:α)(r:List α):iK (c::r) 1 (r.length+1)=r:=by simp[iK]
theorem T8 :(([]:List UInt8)==[])=true:=rfl
theorem Tx (c:UInt8)(r:List UInt8):((c::r:List UInt8)==[])=false:=rfl
theorem Cr (c:UInt8)(r:List UInt8):(([]:List UInt8)==c::r)=false:=rfl
attribute [go_sem] T8 Tx Cr
attribute [go_sem] List.drop_succ_cons List.drop_zero List.length_cons List.length_nil true_implies false_implies Bool.false_eq_true Bool.true_eq_false
@[go_sem] theorem aa8 (n:Nat):(0<n+1)=True:=eq_true (acP n)
@[go_sem] theorem W5 (n:Nat):(1<=n+1)=True:=eq_true (acP n)
attribute [go_sem] acL not_true_eq_false not_false_eq_true
@[go_sem] theorem UG (n:Nat):(n<0)=False:=eq_false (Nat.not_lt_zero n)
theorem Pj {l:List UInt8}{i:Nat}{f:UInt8->Bool}:(decide (i<l.length)&&f (l[i]?.getD 0))=true↔ ∃c,l[i]?=some c/\f c=true:=by
 grind
theorem Q2 {l:List UInt8}{i:Nat}{f:UInt8->Bool}:(decide (i<l.length)&&f (l[i]?.getD 0))=false↔ ∀c,l[i]?=some c->f c=false:=by
 grind
theorem Bq (σ l:ab)(k:Nat):(σ++l)[σ.length+k]?=l[k]?:=by grind
@[go_sem] theorem RZ (σ l:ab)(k i:Nat)(path:List Nat):look (σ++l) (σ.length+k) i path=look l k i path:=by simp[look,Bq]
@[go_sem] theorem Zo (σ l:ab)(i:Nat)(path:List Nat):look (σ++l) σ.length i path=look l 0 i path:=RZ σ l 0 i path
theorem LF (t:TypeId)(xs:List AV)(l:ab)(i:Nat)(path:List Nat):look (some (.cells t xs)::l) 0 i path=(xs[i]?).bind (·.at path):=rfl
theorem M5 (o:Option bJ)(l:ab)(k i:Nat)(path:List Nat):look (o::l) (k+1) i path=look l k i path:=rfl
attribute [go_sem] LF M5
@[go_sem] theorem aa9 (σ l:ab):(σ++l)[σ.length]?=l[0]?:=Bq σ l 0
theorem oL {s:List UInt8}{pos:Nat}{c:UInt8}(h:s[pos]?=some c)(hc:c.toNat<128):iR s pos=(c.toNat,1):=by
 grind [ByteArray.get!,iR,Utf8.decode]
theorem tx {s:List UInt8}{pos:Nat}{c:UInt8}(h:s[pos]?=some c)(hc:128<=c.toNat):128<=(iR s pos).1:=by
 grind [ByteArray.get!,iR,Utf8.decode,Utf8.runeError]
theorem EX (σ l:ab)(k:Nat)(o:Option bJ):(σ++l).set (σ.length+k) o=σ++l.set k o:=by
 simp_all
@[go_sem] theorem abE (σ l:ab)(k:Nat)(o:Option bJ):(σ++l).set (σ.length+k) o=σ++l.set k o:=EX σ l k o
@[go_sem] theorem abf (σ l:ab)(o:Option bJ):(σ++l).set σ.length o=σ++l.set 0 o:=EX σ l 0 o
@[go_sem] theorem EU (σ l:ab)(k i:Nat)(path:List Nat)(v:AV):dY (σ++l) (σ.length+k) i path v=σ++dY l k i path v:=by
 unfold dY;rw[Bq];split
 .simp_all
 .rfl
@[go_sem] theorem V9 (σ l:ab)(i:Nat)(path:List Nat)(v:AV):dY (σ++l) σ.length i path v=σ++dY l 0 i path v:=EU σ l 0 i path v
@[go_sem] theorem Wk (t:TypeId)(xs:List AV)(l:ab)(i:Nat)(path:List Nat)(v:AV):dY (some (.cells t xs)::l) 0 i path v=some (.cells t (xs.set i ((xs[i]?.getD .undef).setAt path v)))::l:=rfl
@[go_sem] theorem UT (o:Option bJ)(l:ab)(k i:Nat)(path:List Nat)(v:AV):dY (o::l) (k+1) i path v=o::dY l k i path v:=by
 grind [dY]
@[go_sem] theorem acd (v:AV):v.at []=some v:=by cases v<;>rfl
@[go_sem] theorem abF (t:TypeId)(fs:List AV)(k:Nat)(r:List Nat):(AV.agg t fs).at (k::r)=(fs[k]?).bind (·.at r):=rfl
@[go_sem] theorem Zv (v u:AV):v.setAt [] u=u:=by cases v<;>rfl
attribute [go_sem] List.length_append List.append_assoc List.cons_append List.nil_append
def Ext (σ st:ab):Prop:=st.take σ.length=σ
theorem Ext.refl (σ:ab):Ext σ σ:=List.take_length
theorem Ext.le {σ st:ab}(h:Ext σ st):σ.length<=st.length:=by
 have:=congrArg List.length h;grind
theorem Ext.app {σ st:ab}(h:Ext σ st)(l:ab):Ext σ (st++l):=by
 grind [Ext]
theorem Ext.set {σ st:ab}(h:Ext σ st){id:Nat}(hid:σ.length<=id)(o:Option bJ):Ext σ (st.set id o):=by
 grind [Ext,List.take_set_of_le]
@[go_sem] theorem aba (σ l:ab):(σ++l).take σ.length=σ:=List.take_left
theorem au {a b:Bool}(h:a=b):dq (.bool a) (.bool b):=by rw[h];exact .refl _
theorem az {k:IntKind}{a b:Int}(h:a=b):dq (.int k a) (.int k b):=by rw[h];exact .refl _
theorem oo {a b:List UInt8}(h:a=b):dq (.str a) (.str b):=by rw[h];exact .refl _
def dm :AV->Prop| .maybe _ _=>False|_=>True
theorem ct {gd:Option Bool}{x:AV}(h:dm x):okM gd x=True:=by cases x<;>first|exact h.elim|exact eq_true trivial
theorem da {x:AV}(h:dm x):unm x=x:=by cases x<;>first|exact h.elim|rfl
theorem aw {α:Type}{f:α->AV}{l:List α}{i:Nat}{a:α}(h:l[i]?=some a):atV (l.map f) (i:Int)=f a:=by
 grind [atV]
theorem get_some {α:Type}{l:List α}{i:Nat}(h:i<l.length): ∃x,l[i]?=some x:=⟨_,acI h⟩
theorem ah {α:Type}{l:List α}{i:Nat}{x:α}(h:l[i]?=some x):l.take (i+1)=l.take i++[x]:=by
 grind [List.take_add_one]
theorem any_true {α:Type}{f:α->Bool}{l:List α}{i:Nat}{x:α}(h:l[i]?=some x)(hf:f x=true):l.any f=true:=by
 grind
end Go.Av
end
section
namespace Go.Proofs.Tryz
open Go Go.Av
@[go_sem] theorem ZE :prog.follows .mixedOrders=true/\af prog 3=1/\ck prog 3=true/\fZ prog 3=some .i64/\bn prog 3=true/\zeroOf prog 3=some (.int .i64 0)/\af prog 4=1/\ck prog 4=true/\mR prog 4=true/\bn prog 4=true/\zeroOf prog 4=some (.bool false)/\af prog 5=1:=by and_intros<;>kernel_rfl
@[go_sem] theorem ab5 :ck prog 5=true/\fZ prog 5=some .u8/\oD prog 9=true/\af prog 9=1/\ck prog 9=true/\bV prog 9=true/\fZ prog 9=none/\bn prog 9=true/\fZ prog 21=some .i32/\ck prog 22=true/\elT prog 22=some 53/\ck prog 23=true:=by and_intros<;>kernel_rfl
@[go_sem] theorem abM :elT prog 23=some 51/\zeroOf prog 23=some .ar/\elT prog 24=some 66/\ck prog 27=true/\elT prog 27=some 100/\jd prog 29=some 3/\bt prog 29=some [3,3,3,3,3]/\zeroOf prog 29=some (.agg 29 [(.int .i64 0),(.int .i64 0),(.int .i64 0),(.int .i64 0),(.int .i64 0)])/\c9 prog 29=true/\cI prog 29=[(.int .i64 0),(.int .i64 0),(.int .i64 0),(.int .i64 0),(.int .i64 0)]/\ck prog 30=true/\elT prog 30=some 117:=by and_intros<;>kernel_rfl
@[go_sem] theorem abP :bq prog 32=true/\bt prog 32=some [3,22,27,29,30]/\zeroOf prog 32=some (.agg 32 [(.int .i64 0),.ar,.ar,(.agg 29 [(.int .i64 0),(.int .i64 0),(.int .i64 0),(.int .i64 0),(.int .i64 0)]),.ar])/\c9 prog 32=true/\cI prog 32=[(.int .i64 0),.ar,.ar,(.agg 29 [(.int .i64 0),(.int .i64 0),(.int .i64 0),(.int .i64 0),(.int .i64 0)]),.ar]/\af prog 47=1/\ck prog 47=true/\elT prog 47=some 77/\bn prog 47=true/\ck prog 48=true/\elT prog 48=some 76/\ck prog 49=true:=by and_intros<;>kernel_rfl
@[go_sem] theorem abR :elT prog 49=some 179/\af prog 51=9/\bq prog 51=true/\bn prog 51=true/\bt prog 51=some [9,9,47,47,47,48,48,49,4]/\zeroOf prog 51=some (.agg 51 [(.str []),(.str []),.ar,.ar,.ar,.ar,.ar,.ar,(.bool false)])/\c9 prog 51=true/\cI prog 51=[(.str []),(.str []),.ar,.ar,.ar,.ar,.ar,.ar,(.bool false)]/\af prog 53=11/\bq prog 53=true/\bn prog 53=true/\bt prog 53=some [51,4,4]:=by and_intros<;>kernel_rfl
@[go_sem] theorem abO :zeroOf prog 53=some (.agg 53 [(.agg 51 [(.str []),(.str []),.ar,.ar,.ar,.ar,.ar,.ar,(.bool false)]),(.bool false),(.bool false)])/\c9 prog 53=true/\cI prog 53=[(.agg 51 [(.str []),(.str []),.ar,.ar,.ar,.ar,.ar,.ar,(.bool false)]),(.bool false),(.bool false)]/\ck prog 60=true/\elT prog 60=some 4/\af prog 66=3/\bq prog 66=true/\bn prog 66=true/\bt prog 66=some [3,9,9]/\zeroOf prog 66=some (.agg 66 [(.int .i64 0),(.str []),(.str [])])/\c9 prog 66=true/\cI prog 66=[(.int .i64 0),(.str []),(.str [])]:=by and_intros<;>kernel_rfl
@[go_sem] theorem abQ :ck prog 73=true/\elT prog 73=some 9/\zeroOf prog 73=some .ar/\af prog 76=3/\bq prog 76=true/\bn prog 76=true/\bt prog 76=some [9,3,9]/\zeroOf prog 76=some (.agg 76 [(.str []),(.int .i64 0),(.str [])])/\c9 prog 76=true/\cI prog 76=[(.str []),(.int .i64 0),(.str [])]/\af prog 77=1/\ck prog 77=true:=by and_intros<;>kernel_rfl
@[go_sem] theorem abL :elT prog 77=some 76/\bn prog 77=true/\ck prog 80=true/\ik prog 80=true/\ck prog 84=true/\elT prog 84=some 88/\af prog 88=1/\ck prog 88=true/\elT prog 88=some 3/\bn prog 88=true/\jd prog 94=some 47/\bt prog 94=some [47,47]:=by and_intros<;>kernel_rfl
@[go_sem] theorem abG :c9 prog 94=true/\cI prog 94=[.ar,.ar]/\af prog 100=3/\bq prog 100=true/\bn prog 100=true/\bt prog 100=some [3,9,9]/\zeroOf prog 100=some (.agg 100 [(.int .i64 0),(.str []),(.str [])])/\c9 prog 100=true/\cI prog 100=[(.int .i64 0),(.str []),(.str [])]/\ck prog 111=true/\af prog 117=5/\bn prog 117=true:=by and_intros<;>kernel_rfl
@[go_sem] theorem aaL :bt prog 117=some [3,9,4,3,9]/\c9 prog 117=true/\cI prog 117=[(.int .i64 0),(.str []),(.bool false),(.int .i64 0),(.str [])]/\jd prog 119=some 47/\bt prog 119=some [47,47,47]/\c9 prog 119=true/\cI prog 119=[.ar,.ar,.ar]/\ik prog 120=true/\bq prog 128=true/\bt prog 128=some [22,23,30]/\c9 prog 128=true/\cI prog 128=[.ar,.ar,.ar]:=by and_intros<;>kernel_rfl
@[go_sem] theorem aas :ck prog 139=true/\elT prog 139=some 150/\ck prog 140=true/\elT prog 140=some 148/\ck prog 141=true/\elT prog 141=some 218/\bq prog 143=true/\bt prog 143=some [23,22,24,84,60,139,140,4,4,3,3,4,141]/\c9 prog 143=true/\cI prog 143=[.ar,.ar,.ar,.ar,.ar,.ar,.ar,(.bool false),(.bool false),(.int .i64 0),(.int .i64 0),(.bool false),.ar]/\af prog 148=1/\ck prog 148=true:=by and_intros<;>kernel_rfl
@[go_sem] theorem abk :bn prog 148=true/\zeroOf prog 148=some (.int .u32 0)/\af prog 150=6/\bq prog 150=true/\bn prog 150=true/\bt prog 150=some [4,148,140,140,3,4]/\zeroOf prog 150=some (.agg 150 [(.bool false),(.int .u32 0),.ar,.ar,(.int .i64 0),(.bool false)])/\c9 prog 150=true/\cI prog 150=[(.bool false),(.int .u32 0),.ar,.ar,(.int .i64 0),(.bool false)]/\jd prog 168=some 47/\bt prog 168=some [47,47,47,47,47,47]/\c9 prog 168=true:=by and_intros<;>kernel_rfl
@[go_sem] theorem abr :cI prog 168=[.ar,.ar,.ar,.ar,.ar,.ar]/\jd prog 172=some 9/\bt prog 172=some [9,9]/\zeroOf prog 172=some (.agg 172 [(.str []),(.str [])])/\c9 prog 172=true/\cI prog 172=[(.str []),(.str [])]/\jd prog 173=some 172/\bt prog 173=some [172,172,172]/\c9 prog 173=true/\cI prog 173=[(.agg 172 [(.str []),(.str [])]),(.agg 172 [(.str []),(.str [])]),(.agg 172 [(.str []),(.str [])])]/\af prog 179=2/\bq prog 179=true:=by and_intros<;>kernel_rfl
@[go_sem] theorem abn :bn prog 179=true/\bt prog 179=some [9,9]/\zeroOf prog 179=some (.agg 179 [(.str []),(.str [])])/\bq prog 182=true/\bt prog 182=some [9,4,4]/\zeroOf prog 182=some (.agg 182 [(.str []),(.bool false),(.bool false)])/\c9 prog 182=true/\cI prog 182=[(.str []),(.bool false),(.bool false)]/\ck prog 185=true/\ik prog 185=true/\bq prog 188=true/\bt prog 188=some [3,185]:=by and_intros<;>kernel_rfl
@[go_sem] theorem aac :c9 prog 188=true/\cI prog 188=[(.int .i64 0),.nil]/\af prog 190=1/\ck prog 190=true/\fZ prog 190=some .i64/\bn prog 190=true/\af prog 191=1/\ck prog 191=true/\elT prog 191=some 190/\bn prog 191=true/\bq prog 201=true/\bt prog 201=some [23]:=by and_intros<;>kernel_rfl
@[go_sem] theorem abB :c9 prog 201=true/\cI prog 201=[.ar]/\af prog 218=6/\bq prog 218=true/\bn prog 218=true/\bt prog 218=some [148,29]/\zeroOf prog 218=some (.agg 218 [(.int .u32 0),(.agg 29 [(.int .i64 0),(.int .i64 0),(.int .i64 0),(.int .i64 0),(.int .i64 0)])])/\c9 prog 218=true/\cI prog 218=[(.int .u32 0),(.agg 29 [(.int .i64 0),(.int .i64 0),(.int .i64 0),(.int .i64 0),(.int .i64 0)])]/\ck prog 226=true/\elT prog 226=some 280/\bq prog 228=true:=by and_intros<;>kernel_rfl
@[go_sem] theorem aa7 :bt prog 228=some [226,111,73,88,27]/\jd prog 233=some 48/\bt prog 233=some [48,48]/\c9 prog 233=true/\cI prog 233=[.ar,.ar]/\ck prog 246=true/\elT prog 246=some 191/\bq prog 248=true/\bt prog 248=some [3,246]/\c9 prog 248=true/\cI prog 248=[(.int .i64 0),.ar]/\elT prog 249=some 47:=by and_intros<;>kernel_rfl
@[go_sem] theorem aaS :af prog 261=3/\bq prog 261=true/\bn prog 261=true/\bt prog 261=some [3,148,148]/\zeroOf prog 261=some (.agg 261 [(.int .i64 0),(.int .u32 0),(.int .u32 0)])/\c9 prog 261=true/\cI prog 261=[(.int .i64 0),(.int .u32 0),(.int .u32 0)]/\elT prog 262=some 261/\elT prog 273=some 274/\af prog 274=1/\ck prog 274=true/\bn prog 274=true:=by and_intros<;>kernel_rfl
@[go_sem] theorem Z3 :elT prog 276=some 5/\bq prog 278=true/\bt prog 278=some [4,273,273,273,273]/\zeroOf prog 278=some (.agg 278 [(.bool false),.ar,.ar,.ar,.ar])/\c9 prog 278=true/\cI prog 278=[(.bool false),.ar,.ar,.ar,.ar]/\af prog 280=15/\bq prog 280=true/\bn prog 280=true/\bt prog 280=some [9,278,278,4,9,4,4]/\zeroOf prog 280=some (.agg 280 [(.str []),(.agg 278 [(.bool false),.ar,.ar,.ar,.ar]),(.agg 278 [(.bool false),.ar,.ar,.ar,.ar]),(.bool false),(.str []),(.bool false),(.bool false)])/\c9 prog 280=true:=by and_intros<;>kernel_rfl
@[go_sem] theorem aam :cI prog 280=[(.str []),(.agg 278 [(.bool false),.ar,.ar,.ar,.ar]),(.agg 278 [(.bool false),.ar,.ar,.ar,.ar]),(.bool false),(.str []),(.bool false),(.bool false)]/\fZ prog 290=some .u64/\ck prog 313=true/\bq prog 329=true/\bt prog 329=some [9,9]/\c9 prog 329=true/\cI prog 329=[(.str []),(.str [])]:=by and_intros<;>kernel_rfl
end Go.Proofs.Tryz
end
section
namespace Go.Av
open Go
section
variable {P :Program}{W0 w w':World}{C C':Ctx}{σ σ':ab}{n:Nat}{A:aa}{a:Act}
theorem aE.zP (h:aE P W0 w C σ){te t:TypeId}{id0 i id o:Nat}{path:List Nat}{zs:List AV}{z u u':AV}(h0:σ[id0]?=some (some (.cells te zs)))(hz:zs[i]?=some z)(hp:z.at path=some u)
  (hid:id<σ.length) (hne:id≠id0) (hpl:place P te path=some (t,o)) (h1:u.bk=true) (h2:u'.bk=true) (hfz: ∀v,aJ P w C u v->aJ P w (C.kill id) u' v):
  aE P W0 w (C.kill id) ((σ.set id none).set id0 (some (.cells te (zs.set i (z.setAt path u'))))):=by
 obtain⟨k1,k2⟩:=h.kill id hid;obtain⟨b,base,room,arr,t',fr,m1,m2,mf,m3,m4,cf,m5⟩:=h.cells h0;obtain⟨r1,r2,r3,r4⟩:=m5 i z hz;obtain⟨c,g1,g2,g3,g4⟩:=Cm path te t o z _ (cf i) r1 r3 hpl hp;obtain⟨v,rfl⟩:=g1.one_cell h1;have hfz1:=(hfz v (.one h1 g1)).aH h2;have hft:fits P t u':=by
  have:ck P t=true:=by cases u<;>first|exact g2.2|cases h1
  cases u'<;>first|exact⟨rfl,this⟩|cases h2
 obtain⟨q1,q2,q3⟩:=tE path te t o z _ _ (cf i) [v] (r1.mono k1) r3 hpl hp hfz1 hft;have hsp:(bC (cf i).toArray o [v]).toList=cf i:=by
  refine List.ext_getElem? λp=>?_
  grind [bQ]
 rw[hsp]at q2;have hid0l:id0<σ.length:=(acG.1 h0).1;refine k2.change (Step.refl _ _) k2.low (by rw[k2.nx];simp) k2.inj k2.dom λj=>?_
 by_cases hj:j=id0
 .subst hj;left;rw[acJ (by simp_all),acM,p9,if_neg (λe=>hne e.symm),m1];refine⟨rfl,arr,t',fr,m2,mf,m3,by simp_all,cf,λp x hx=>?_⟩;grind [Rel.mono]
 grind
theorem aE.Gt (h:aE P W0 w C σ){te e te' t:TypeId}{id0 i id off m o:Nat}{path:List Nat}{zs xs:List AV}{z:AV}(h0:σ[id0]?=some (some (.cells te zs)))(hz:zs[i]?=some z)(hp:z.at path=some (.row e id off m))
  (hs:σ[id]?=some (some (.cells te' xs))) (hm:off+m<=xs.length) (hne:id≠id0) (hpl:place P te path=some (t,o)):
  aE P W0 w (C.kill id) ((σ.set id none).set id0 (some (.cells te (zs.set i (z.setAt path (.sl e ((xs.drop off).take m))))))):=
 h.zP h0 hz hp (acG.1 hs).1 hne hpl rfl rfl λ_ hv=>nj h hv hs hm
inductive lT (P:Program):aa->aa->Prop
 |refl (D:aa):lT P D D
 |row {D B:aa} (d:Nat) {e te:TypeId} {id off m:Nat} {xs:List AV}:D.env d= .row e id off m->D.st[id]?=some (some (.cells te xs))->off+m<=xs.length->lT P ((D.upd d (.sl e ((xs.drop off).take m))).ay (D.st.set id none)) B->lT P D B
 |cell {D B:aa} {te e te' t:TypeId} (id0 i:Nat) (path:List Nat) {id off m o:Nat} {zs xs:List AV} {z:AV}:D.st[id0]?=some (some (.cells te zs))->zs[i]?=some z->z.at path=some (.row e id off m)->D.st[id]?=some (some (.cells te' xs))->off+m<=xs.length->id≠id0->place P te path=some (t,o)->
   lT P (D.ay ((D.st.set id none).set id0 (some (.cells te (zs.set i (z.setAt path (.sl e ((xs.drop off).take m)))))))) B->lT P D B
 |K0 {D B:aa} {te t' t:TypeId} (id0 i:Nat) (path:List Nat) {id o:Nat} {zs:List AV} {z x:AV}:D.st[id0]?=some (some (.cells te zs))->zs[i]?=some z->z.at path=some (.ptr t' id 0 [])->D.st[id]?=some (some (.cells t' [x]))->id≠id0->place P te path=some (t,o)->
   lT P (D.ay ((D.st.set id none).set id0 (some (.cells te (zs.set i (z.setAt path (.loc t' x))))))) B->lT P D B
 |pt {D B:aa} (d:Nat) {t:TypeId} {id:Nat} {x:AV}:D.env d= .ptr t id 0 []->D.st[id]?=some (some (.cells t [x]))->lT P ((D.upd d (.loc t x)).ay (D.st.set id none)) B->lT P D B
 |cb {D B:aa} {te:TypeId} (id0 i:Nat) {zs:List AV} {z z':AV}:D.st[id0]?=some (some (.cells te zs))->zs[i]?=some z->Sub z z'->lT P (D.ay (D.st.set id0 (some (.cells te (zs.set i z'))))) B->lT P D B
theorem aE.Oj (h:aE P W0 w C σ){te:TypeId}{id0 i:Nat}{zs:List AV}{z z':AV}(h0:σ[id0]?=some (some (.cells te zs)))(hz:zs[i]?=some z)(hs:Sub z z'):
  aE P W0 w C (σ.set id0 (some (.cells te (zs.set i z')))):=by
 obtain⟨b,base,room,arr,t',fr,m1,m2,mf,m3,m4,cf,m5⟩:=h.cells h0;have hid0l:id0<σ.length:=(acG.1 h0).1;refine h.change (Step.refl _ _) h.low (by rw[h.nx];simp) h.inj h.dom λj=>?_
 by_cases hj:j=id0
 .subst hj;left;rw[acJ hid0l,acM,m1];refine⟨rfl,arr,t',fr,m2,mf,m3,by simp_all,cf,λp x hx=>?_⟩;grind [Rel.sub,Sub.fits]
 grind
theorem bG.VW {B:aa}(hf:lT P A B): ∀{C:Ctx},bG P W0 n w C A a-> ∃C',bG P W0 n w C' B a/\Step w C w C':=by
 induction hf with
 |refl A=>grind [Step.refl]
 |row d h1 h2 h3 _ ih=>
  intro C h;have hv:=h.env d;rw[h1]at hv;have hfr:=nj h.st hv h2 h3;obtain⟨k1,k2⟩:=h.st.kill _ (acG.1 h2).1;have hr1:=h.step k1 k2;have hr2:bG P W0 n w (C.kill _) ((aa.upd _ d (.sl _ _)).ay (List.set _ _ none)) a:=⟨λj=>by
   by_cases hj:j=d
   .subst hj;simpa[aa.upd,aa.ay]using hfr
   .have:=hr1.env j;simpa[aa.upd,aa.ay,hj]using this,hr1.defers,hr1.size,hr1.st⟩
  grind [Step.trans]
 |cell id0 i path h1 h2 h3 h4 h5 h6 h7 _ ih=>
  intro C h;obtain⟨k1,k2⟩:=h.st.kill _ (acG.1 h4).1;have hr1:=h.step k1 (h.st.Gt h1 h2 h3 h4 h5 h6 h7);obtain⟨C',g1,g2⟩:=ih hr1;grind [Step.trans]
 |K0 id0 i path h1 h2 h3 h4 h5 h6 _ ih=>
  intro C h;have hidl:=(acG.1 h4).1;obtain⟨k1,k2⟩:=h.st.kill _ hidl;have hr1:=h.step k1 (h.st.zP h1 h2 h3 hidl h5 h6 rfl rfl λ_ hv=>mF h.st hv h4 (i:=0) rfl);obtain⟨C',g1,g2⟩:=ih hr1;grind [Step.trans]
 |pt d h1 h2 _ ih=>
  intro C h;have hv:=h.env d;rw[h1]at hv;have hfr:=mF h.st hv h2 (i:=0) rfl;obtain⟨k1,k2⟩:=h.st.kill _ (acG.1 h2).1;have hr1:=h.step k1 k2;have hr2:bG P W0 n w (C.kill _) ((aa.upd _ d (.loc _ _)).ay (List.set _ _ none)) a:=⟨λj=>by
   by_cases hj:j=d
   .subst hj;simpa[aa.upd,aa.ay]using hfr
   .have:=hr1.env j;simpa[aa.upd,aa.ay,hj]using this,hr1.defers,hr1.size,hr1.st⟩
  grind [Step.trans]
 |cb id0 i h1 h2 h3 _ ih=>
  intro C h;have hr1:=h.step (.refl _ _) (h.st.Oj h1 h2 h3);exact ih hr1
def gP (A:aa):ResultVar->AV
 | .tmp t=>A.env t
 | .cell a _=>tM A.st (A.env a)
def xh (A:aa):ResultVar->Prop
 | .tmp _=>True
 | .cell a t=>tX none A.st t (A.env a)
def uE (A:aa):List ResultVar->AV
 |[t]=>gP A t
 |ts=>.tup (ts.map (gP A))
def nQ (A:aa):List ResultVar->Prop
 |[]=>True
 |t::r=>xh A t/\nQ A r
def RR (a:Act):ResultVar->Sem Value
 | .tmp t=>pure (a.tmps.getD t undef)
 | .cell a' ty=>do loadVar ty (<-asAddr (a.tmps.getD a' undef))
theorem TL (hr:bG P W0 n w C A a)(t:ResultVar)(hc:xh A t): ∃v,(RR a t).run P w= .ok v w/\aJ P w C (gP A t) v:=by
 cases t with
 |tmp t=>exact⟨_,rfl,hr.env t⟩
 |cell d ty=>
  have hd:=hr.env d;simp only[xh]at hc;simp only[gP];cases hv:A.env d with
  |loc ty' v=>
   rw[hv]at hc hd;obtain rfl:ty'=ty:=hc;obtain⟨b,o,cs,e,h1,h2,h3,h4⟩:=hd.rq;rw[RR,e];obtain⟨x,g1,g2⟩:=gE (w:=w) (off:=o) h1 h2 (λj c hj=>(h4 j c hj).1);exact⟨x,by grind [asAddr],g2⟩
  |ptr ty' id i path=>
   rw[hv]at hc hd;obtain⟨rfl,hl⟩:=hc;obtain⟨x,hx⟩:=Option.isSome_iff_exists.1 (show(look A.st id i path).isSome=true from hl);obtain⟨te,xs,z,h1,h2,h3⟩:=oP hx;obtain⟨ad,e0,_,hm⟩:=hd.py;rw[RR,e0];obtain⟨b,base,room,arr,t',fr,m1,m2,mf,m3,m4,cf,m5⟩:=hr.st.cells h1;obtain⟨b',te',base',room',off,e1,e2,e3⟩:=hm _ m1;cases e1;subst e3;obtain⟨r1,r2,r3,r4⟩:=m5 i z h2;obtain⟨c,g1,g2,g3,g4⟩:=Cm path te _ off z x (cf i) r1 r3 e2 h3;obtain⟨y,q1,q2⟩:=gE (w:=w) (b:=b) (off:=base+i*af P te+off) g1 g2 (λj c' hj=>by
    grind [World.cell?])
   grind [tM,asAddr]
  |_=>rw[hv]at hc;exact hc.elim
theorem Ec {F:ResultVar->Sem Value}(hr:bG P W0 n w C A a)(hF: ∀t,xh A t-> ∃v,(F t).run P w= .ok v w/\aJ P w C (gP A t) v): ∀ts:List ResultVar,nQ A ts-> ∃vs:List Value,(ts.mapM F).run P w= .ok vs w/\vs.length=ts.length/\ ∀(i:Nat) (t:ResultVar) (v:Value),ts[i]?=some t->vs[i]?=some v->aJ P w C (gP A t) v
 |[],_=>⟨[],rfl,rfl,by simp⟩
 |t::ts,hc=>by
  obtain⟨v,h1,h2⟩:=hF t hc.1;obtain⟨vs,g1,g2,g3⟩:=Ec hr hF ts hc.2;refine⟨v::vs,?_,by simp[g2],λi t' v' ht hv=>?_⟩
  .simp_all
  grind
theorem nr {fn:Func}{ts:List ResultVar}(hr:bG P W0 n w C A a)(h:fn.results=ts.toArray)(hc:nQ A ts): ∃v,(results fn a.tmps).run P w= .ok v w/\aJ P w C (uE A ts) v:=by
 obtain⟨vs,g1,g2,g3⟩:=Ec (F:=RR a) hr (λt ht=>TL hr t ht) ts hc;have hm:(results fn a.tmps).run P w= .ok (if h:vs.toArray.size=1 then vs.toArray[0]else .tuple vs.toArray) w:=by
  have e:results fn a.tmps=(do
    let vs <-fn.results.mapM (RR a)
    pure (if h:vs.size=1 then vs[0]else .tuple vs)):=by
   unfold results;congr 2
  simp_all
 match ts,vs,hm,g2,g3 with
 |[],[],hm,_,_=>exact⟨_,hm,.tup (vs:=[]) rfl (by simp)⟩
 |[t],[v],hm,_,g3=>exact⟨_,hm,g3 0 t v rfl rfl⟩
 |t::u::ts,v::v'::vs,hm,g2,g3=>
  refine⟨_,hm,?_⟩;rw[dif_neg (by simp)];refine .tup (by simp_all) (λi x v hx hv=>?_);grind
def cX (P:Program)(R:aa->Prop):Exit->aa->Prop
 | .normal,A| .ret,A=>∃ A',lT P A A'/\R A'
 |_,_=>False
theorem cX.ret {R:aa->Prop}(h:R A):cX P R .ret A:=⟨A,.refl A,h⟩
theorem cX.normal {R:aa->Prop}(h:R A):cX P R .normal A:=⟨A,.refl A,h⟩
theorem cX.via {R:aa->Prop}{x:Exit}{B:aa}(hx:x= .ret\/x= .normal)(hf:lT P A B)(h:R B):cX P R x A:=by
 rcases hx with rfl|rfl
 .exact⟨B,hf,h⟩
 .exact⟨B,hf,h⟩
theorem cX.vc {R:aa->Prop}{c:Code}(h:VC P W0 n c (cX P R) A):VC P W0 n c (λe A'=>(e= .normal\/e= .ret)/\R A') A:=λw C a hr=>
 iC (h w C a hr) λe a' w' ⟨A',C',q,r,s⟩=>by
  cases e with
  |normal=>obtain⟨B,g1,g2⟩:=q;grind [bG.VW,Step.trans]
  |ret=>obtain⟨B,g1,g2⟩:=q;grind [bG.VW,Step.trans]
  |_=>exact q.elim
def NL (ts:List ResultVar)(σ:ab)(Q:AV->ab->Prop)(A:aa):Prop:=nQ A ts/\ ∃r,dq (uE A ts) r/\σ.length<=A.st.length/\Q r A.st
theorem Qg {f : FuncId} {fn : Func} {c : Code} {args : List AV} {Q : AV → ab → Prop} {m : Nat} (ts : List ResultVar) (hf : P.funcs[f]? = some fn) (hb : fn.body = some c) (hnm : (fn.name == "runtime.NumGoroutine") = false)
  (hm:fn.ntmps=m) (hargs:Nat.ble args.length m=true) (hres:fn.results=ts.toArray)
  (h:(∀a∈args,Small a)->VC P W0 m c (cX P (NL ts σ Q)) ⟨iP args,σ⟩):aS P W0 f args σ Q:=by
 subst hm;refine λw C vs hst hl hv=>?_
 have hsm: ∀a∈args,Small a:=eg λi x hx=>(hv i x _ hx (acI (by grind))).small
 have hvc:=cX.vc (h hsm);refine .inl ⟨⟨fn,hf,by simp[hb],hnm⟩,calls_of_wp hf hb (wp_mono (Cj (hvc w C _ (mu hst hl hv (acK hargs)))) λe a' w' ⟨A',C',q,r,s⟩=>?_)⟩;have fin:a'.defers=[]/\ ∃v,(results fn a'.tmps).run P w'= .ok v w'/\ ∃v₁ r σ' C',Ending.returned v= .returned v₁/\Q r σ'/\aE P W0 w' C' σ'/\aJ P w' C' r v₁/\Step w C w' C':=by
  obtain⟨_,hc,r1,h2,_,h4⟩:=q;obtain⟨v,g1,g2⟩:=nr r hres hc;exact⟨r.defers,v,g1,v,r1,A'.st,C',rfl,h4,r.st,g2.cb h2,s⟩
 rcases q.1 with rfl|rfl
 .exact fin
 .exact fin
theorem jE {f : FuncId} {fn : Func} {c : Code} {args : List AV} {Q : AV → ab → Prop} {m : Nat} (ts : List ResultVar) (fz : List Nat) (hf : P.funcs[f]? = some fn) (hb : fn.body = some c) (hnm : (fn.name == "runtime.NumGoroutine") = false)
  (hm:fn.ntmps=m) (hargs:Nat.ble args.length m=true) (hres:fn.results=ts.toArray)
  (h:(∀a∈args,Small a)->cVC P W0 m fz c (cX P (NL ts σ Q)) ⟨iP args,σ⟩):aS P W0 f args σ Q:=
 Qg ts hf hb hnm hm hargs hres λhs=>bB c _ _ (h hs)
def UJ (ts:List ResultVar)(r:AV)(σ:ab)(A:aa):Prop:=nQ A ts/\dq (uE A ts) r/\A.st.take σ.length=σ
theorem Cz {f : FuncId} {fn : Func} {c : Code} {args : List AV} {r : AV} {m : Nat} (ts : List ResultVar) (fz : List Nat) (hf : P.funcs[f]? = some fn) (hb : fn.body = some c) (hnm : (fn.name == "runtime.NumGoroutine") = false)
  (hm:fn.ntmps=m) (hargs:Nat.ble args.length m=true) (hres:fn.results=ts.toArray) (hr:aX σ.length r)
  (h:(∀a∈args,Small a)->cVC P W0 m fz c (cX P (UJ ts r σ)) ⟨iP args,σ⟩):aS P W0 f args σ λr' σ'=>r'=r/\σ'=σ:=by
 subst hm;refine λw C vs hst hl hv=>?_
 have hsm: ∀a∈args,Small a:=eg λi x hx=>(hv i x _ hx (acI (by grind))).small
 have hvc:=cX.vc (bB c _ _ (h hsm));refine .inl ⟨⟨fn,hf,by simp[hb],hnm⟩,calls_of_wp hf hb (wp_mono (Cj (hvc w C _ (mu hst hl hv (acK hargs)))) λe a' w' ⟨A',C',q,rl,s⟩=>?_)⟩;have fin:a'.defers=[]/\ ∃v,(results fn a'.tmps).run P w'= .ok v w'/\ ∃v₁ r' σ' C',Ending.returned v= .returned v₁/\(r'=r/\σ'=σ)/\aE P W0 w' C' σ'/\aJ P w' C' r' v₁/\Step w C w' C':=by
  obtain⟨_,hc,q1,q2⟩:=q;obtain⟨v,g1,g2⟩:=nr rl hres hc;have hle:σ.length<=A'.st.length:=by grind
  have hs2:aE P W0 w' (C'.eY σ.length) σ:=by
   have:=rl.st.eY (n:=σ.length) hle λid te xs hid hs=>hst.ids (show σ[id]?=some (some (.cells te xs)) by grind)
   simp_all
  grind [bG.defers,aJ.eY,aJ.cb,Step.eY,aE.nx]
 rcases q.1 with rfl|rfl
 .exact fin
 .exact fin
theorem xN {f : FuncId} {fn : Func} {c : Code} {args : List AV} {r : AV} {m : Nat} (ts : List ResultVar) (fz : List Nat) (hf : P.funcs[f]? = some fn) (hb : fn.body = some c) (hnm : (fn.name == "runtime.NumGoroutine") = false)
  (hm:fn.ntmps=m) (hargs:Nat.ble args.length m=true) (hres:fn.results=ts.toArray) (hr:aX 0 r)
  (h:(∀a∈args,Small a)-> ∀σ,cVC P W0 m fz c (cX P (UJ ts r σ)) ⟨iP args,σ⟩):ai P W0 f args r:=λσ=>
 Cz ts fz hf hb hnm hm hargs hres (fo (Nat.zero_le _) hr) λhs=>h hs σ
def Pg :Nat->Code->Option (Code×Code)
 |0,.seq x y=>some (x,y)
 |k+1,.seq x y=>(Pg k y).map λz=>(.seq x z.1,z.2)
 |_,_=>none
theorem VC.acn {c:Code}{Q:Exit->aa->Prop}{B:aa}(hf:lT P A B)(h:VC P W0 n c Q B):VC P W0 n c Q A:=λw C a hr=>by
 obtain⟨C',h1,h2⟩:=bG.VW hf hr;exact iC (h w C' a h1) λ_ _ _ ⟨A',C2,q,r,s⟩=>⟨A',C2,q,r,h2.trans s⟩
theorem VC.cut {fz:List Nat}{Q:Exit->aa->Prop}: ∀(k:Nat) {c x y:Code} {A:aa},Pg k c=some (x,y)->cVC P W0 n fz x (cr (λA'=>∃ B,lT P A' B/\cVC P W0 n fz y Q B) Q) A->VC P W0 n c Q A
 |0,.seq x y,_,_,A,h,hv=>by
  cases h;refine .seq ((bB x _ _ hv).mono λe A' q=>?_);cases e with
  |normal=>
   obtain⟨B,hf,hq⟩:=q;exact .acn hf (bB y _ _ hq)
  |_=>exact q
 |k+1,.seq x z,_,y,A,h,hv=>by
  obtain⟨⟨u,v⟩,hu,e⟩:=Option.map_eq_some_iff.1 (show(Pg k z).map (λz=>(Code.seq x z.1,z.2))=_ from h);cases e;refine .seq ((bB x _ _ hv).mono λe A' q=>?_);cases e with
  |normal=>exact VC.cut k hu q
  |_=>exact q
def Ru (ts:List ResultVar)(r:AV)(σ:ab):Exit->aa->Prop
 | .normal,A| .ret,A=>UJ ts r σ A
 |_,_=>False
theorem kD {f : FuncId} {fn : Func} {c : Code} {args : List AV} {r : AV} {m : Nat} (ts : List ResultVar) (fz : List Nat) (hf : P.funcs[f]? = some fn) (hb : fn.body = some c) (hnm : (fn.name == "runtime.NumGoroutine") = false)
  (hm:fn.ntmps=m) (hargs:Nat.ble args.length m=true) (hres:fn.results=ts.toArray) (hr:aX 0 r)
  (h:(∀a∈args,Small a)-> ∀σ,cVC P W0 m fz c (Ru ts r σ) ⟨iP args,σ⟩):ai P W0 f args r:=
 xN ts fz hf hb hnm hm hargs hres hr λhs σ=>fC c _ (λe A' _ q=>by
  cases e with
  |normal=>exact cX.normal q
  |ret=>exact cX.ret q
  |_=>exact q.elim) (h hs σ)
@[go_sem ↓] theorem ZK {fz:List Nat}{k:aa->Prop}(dst:Option Nat)(t:TypeId):eop P W0 fz dst A k (.alloc t)=op2 P W0 fz dst A k (.alloc t):=propext acO
theorem N7 (ts:List ResultVar)(r:AV):Ru ts r σ .ret A=(nQ A ts/\dq (uE A ts) r/\A.st.take σ.length=σ):=propext acO
theorem CM (ts:List ResultVar)(r:AV):Ru ts r σ .normal A=(nQ A ts/\dq (uE A ts) r/\A.st.take σ.length=σ):=propext acO
theorem Wh (ts:List ResultVar)(r:AV):UJ ts r σ A=(nQ A ts/\dq (uE A ts) r/\A.st.take σ.length=σ):=propext acO
theorem Wt (ts:List ResultVar)(Q:AV->ab->Prop):NL ts σ Q A=(nQ A ts/\ ∃r,dq (uE A ts) r/\σ.length<=A.st.length/\Q r A.st):=propext acO
theorem Q4 (t:ResultVar):uE A [t]=gP A t:=rfl
theorem Tn (t u:ResultVar):uE A [t,u]= .tup [gP A t,gP A u]:=rfl
theorem Ja (t u v:ResultVar):uE A [t,u,v]= .tup [gP A t,gP A u,gP A v]:=rfl
theorem RU :uE A []= .tup []:=rfl
theorem Qz (t:Nat):gP A (.tmp t)=A.env t:=rfl
theorem MJ (t:Nat)(ty:TypeId):gP A (.cell t ty)=tM A.st (A.env t):=rfl
theorem Oh (t:Nat):xh A (.tmp t)=True:=rfl
theorem J8 (t:Nat)(ty:TypeId):xh A (.cell t ty)=tX none A.st ty (A.env t):=rfl
theorem Nt :nQ A []=True:=rfl
theorem JB (t:ResultVar)(r:List ResultVar):nQ A (t::r)=(xh A t/\nQ A r):=rfl
attribute [go_sem] N7 CM Wh Wt Q4 Tn Ja RU Qz MJ Oh J8 Nt JB
end
def iq :Obj->Bool
 | .cells ..=>false
 |_=>true
structure dF (w:World)(C:Ctx)(D:Nat)(o:Obj):Prop where
 hp:w.heap[D]?=some o
 nc:iq o=true
 no: ∀id ow,C.m id=some ow->ow.blk≠D
section
variable {P :Program}{W0 w w' w0:World}{C C' C0:Ctx}{σ σ':ab}{n:Nat}{A:aa}{a:Act}{D:Nat}{o o':Obj}
theorem dF.step (h:dF w C D o)(hs:Step w C w' C'):dF w' C' D o:=by
 obtain⟨e,k⟩:=hs.block D (acH.1 h.hp).1 h.no;exact⟨e.trans h.hp,h.nc,k⟩
theorem WR {b i:Nat}(h:w.heap[b]?=some o)(h1:iq o=true):w.cell? ⟨b,i,none⟩=none:=by
 unfold World.cell?;simp only[h];cases o<;>first|rfl|cases h1
theorem xL (h:w.heap[D]?=some o)(h1:iq o=true)(h2:iq o'=true)(b i:Nat):(w.putObj D o').cell? ⟨b,i,none⟩=w.cell? ⟨b,i,none⟩:=by
 grind [WR,World.putObj_heap_same,World.cell?,World.putObj_heap_other]
theorem dF.Ta (h:dF w C D o)(h2:iq o'=true):lG w C (w.putObj D o') C:=
 ⟨acL _,λ_ _ _ h=>h,λb i hs=>⟨xL h.hp h.nc h2 b i,by grind [fG,World.putObj_size]⟩⟩
theorem dF.put (h:dF w C D o)(h2:iq o'=true):dF (w.putObj D o') C D o':=⟨World.putObj_heap_same (acH.1 h.hp).1,h2,h.no⟩
theorem dF.other {D':Nat}{o2:Obj}(h:dF w C D o)(hne:D≠D'):dF (w.putObj D' o2) C D o:=⟨(World.putObj_heap_other hne).trans h.hp,h.nc,h.no⟩
theorem aE.apart (h:aE P W0 w C σ)(hA:dF w C D o)(h2:iq o'=true)(hD:W0.heap.size<=D):aE P W0 (w.putObj D o') C σ:=by
 refine⟨h.base.trans ⟨rfl,rfl,rfl,by simp_all,λk hk=>World.putObj_heap_other (by omega)⟩,h.low,h.nx,h.inj,h.dom,λi=>?_⟩;exact(h.obj i).gC (hA.Ta h2) λx hx=>World.putObj_heap_other (hA.no i x hx)
theorem bG.apart (h:bG P W0 n w C A a)(hA:dF w C D o)(h2:iq o'=true)(hD:W0.heap.size<=D):bG P W0 n (w.putObj D o') C A a:=
 ⟨λi=>(h.env i).gC (hA.Ta h2),h.defers,h.size,h.st.apart hA h2 hD⟩
theorem Step.apart (h:Step w0 C0 w C)(hA:dF w C D o)(h2:iq o'=true)(hD:w0.heap.size<=D):Step w0 C0 (w.putObj D o') C:=
 ⟨h.nx,h.dead,λb i hs=>by
  obtain⟨e,s⟩:=h.gZ b i hs;exact⟨(xL hA.hp hA.nc h2 b i).trans e,by grind [fG,World.putObj_size]⟩,h.os,h.tape,h.output,by rw[World.putObj_size];exact h.size,λb hb hn=>by
  grind [Step.block,World.putObj_heap_other]⟩
theorem dF.new (h:aE P W0 w C σ)(o:Obj)(ho:iq o=true):dF (w.alloc o) C w.heap.size o:=⟨World.alloc_heap_new w o,ho,h.fresh⟩
def nJ (w:World)(C:Ctx)(B:Nat)(ms:List Deferred):Prop:=∀ d∈ms,∃D,d={ target:=.collected D,args:=#[] }/\B<=D/\dF w C D (.deferred (some []))
theorem nJ.step {B:Nat}{ms:List Deferred}(h:nJ w C B ms)(hs:Step w C w' C'):nJ w' C' B ms:=λd hd=>by
 obtain⟨D,h1,h2,h3⟩:=h d hd;grind [dF.step]
def VCM (P:Program)(W0:World)(n:Nat)(c:Code)(Q:Exit->aa->Prop)(A:aa):Prop:=
 ∀w C a ms B,bG P W0 n w C A a->nJ w C B ms->(ms.map (·.target)).Nodup->B<=w.heap.size->c.wpIn .wide 0 P (λe a' w'=>∃ a0 ms' A' C',a'=more a0 ms'/\Q e A'/\bG P W0 n w' C' A' a0/\nJ w' C' B ms'/\(ms'.map (·.target)).Nodup/\Step w C w' C') (more a ms) w
theorem VCM.of {c:Code}{Q:Exit->aa->Prop}(h:VC P W0 n c Q A):VCM P W0 n c Q A:=λw C a ms B hr hm hd hB=>
 wpIn_mono (h w C a hr none 0 ms) λe a' w' ⟨a0,e0,A',C',q,r,s⟩=>⟨a0,ms,A',C',e0,q,r,hm.step s,hd,s⟩
theorem VCM.seq {x y:Code}{Q:Exit->aa->Prop}(h:VCM P W0 n x (cr (VCM P W0 n y Q) Q) A):VCM P W0 n (.seq x y) Q A:=λw C a ms B hr hm hd hB=>
 wpIn_seq (wpIn_mono (h w C a ms B hr hm hd hB) λe a' w' ⟨a0,ms',A',C',e0,q,r,m,d,s⟩=>by
  cases e with
  |normal=>
   subst e0;exact wpIn_mono (q w' C' a0 ms' B r m d (acN hB s.size)) λ_ _ _ ⟨a1,ms'',A'',C'',e1,q',r',m',d',s'⟩=>⟨a1,ms'',A'',C'',e1,q',r',m',d',s.trans s'⟩
  |_=>exact⟨a0,ms',A',C',e0,q,r,m,d,s⟩)
theorem VCM.block {id:Nat}{c:Code}{Q:Exit->aa->Prop}(h:VCM P W0 n c (eD id Q) A):VCM P W0 n (.block id c) Q A:=λw C a ms B hr hm hd hB=>
 wpIn_block (wpIn_mono (h w C a ms B hr hm hd hB) λe a' w' ⟨a0,ms',A',C',e0,q,r,m,d,s⟩=>by
  cases e with
  |exit id'=>
   grind [eD,Exit.inBlock]
  |_=>exact⟨a0,ms',A',C',e0,q,r,m,d,s⟩)
theorem VCM.mono {c:Code}{Q Q':Exit->aa->Prop}(h:VCM P W0 n c Q A)(hq: ∀e A,Q e A->Q' e A):VCM P W0 n c Q' A:=λw C a ms B hr hm hd hB=>
 wpIn_mono (h w C a ms B hr hm hd hB) λ_ _ _ ⟨a0,ms',A',C',e0,q,r,m,d,s⟩=>⟨a0,ms',A',C',e0,hq _ _ q,r,m,d,s⟩
theorem La {fn:Func}{tmps:Array Value}{R:Ending->World->Prop}{B:Nat}: ∀(ms:List Deferred) (w:World) (C:Ctx),nJ w C B ms->(ms.map (·.target)).Nodup->
  (∀w',(∀A a,bG P W0 n w C A a->W0.heap.size<=B->bG P W0 n w' C A a)->(∀w0 C0,Step w0 C0 w C->w0.heap.size<=B->Step w0 C0 w' C)->LeavesIn .wide 0 P fn tmps R [] .returning w')->LeavesInM .wide 0 P fn tmps R ms .returning w
 |[],w,C,_,_,h=>h w (λ_ _ h _=>h) (λ_ _ h _=>h)
 |d::ms,w,C,hm,hd,h=>by
  obtain⟨D,rfl,hB,hA⟩:=hm d (by simp);rw[List.map_cons,List.nodup_cons]at hd;refine⟨by simp,.inl ⟨D,w.putObj D (.deferred none),rfl,run_takeDeferred hA.hp,La ms _ C (λd hdm=>?_) hd.2 λw' h1 h2=>h w' (λA a hr hl=>h1 A a (hr.apart hA rfl (acN hl hB)) hl) (λw0 C0 hs hl=>h2 w0 C0 (hs.apart hA rfl (acN hl hB)) hl)⟩⟩;obtain⟨D',rfl,hB',hA'⟩:=hm d (by simp[hdm]);grind [dF.other]
theorem PT {f : FuncId} {fn : Func} {c : Code} {args : List AV} {Q : AV → ab → Prop} {m : Nat} (ts : List ResultVar) (hf : P.funcs[f]? = some fn) (hb : fn.body = some c) (hnm : (fn.name == "runtime.NumGoroutine") = false)
  (hm:fn.ntmps=m) (hargs:Nat.ble args.length m=true) (hres:fn.results=ts.toArray)
  (h:(∀a∈args,Small a)->VCM P W0 m c (cX P (NL ts σ Q)) ⟨iP args,σ⟩):aS P W0 f args σ Q:=by
 subst hm;refine λw C vs hst hl hv=>?_
 have hsm: ∀a∈args,Small a:=eg λi x hx=>(hv i x _ hx (acI (by grind))).small
 have hr0:=mu (m:=fn.ntmps) hst hl hv (acK hargs);refine .inl ⟨⟨fn,hf,by simp[hb],hnm⟩,(callsIn_wide (n:=0)).1 (callsIn_of_wp_marks hf hb trivial ?_)⟩;have h0:=h hsm w C _ [] w.heap.size hr0 (λd hd=>by cases hd) (by simp) (acL _);rw[fU]at h0;refine wpIn_mono h0 λe a' w' ⟨a0,ms',A',C',e0,q,r,mk,md,s⟩=>?_
 have fin:(∃B,lT P A' B/\NL ts σ Q B)->LeavesInM .wide 0 P fn a'.tmps (λe w'=>∃ v r σ' C',e= .returned v/\Q r σ'/\aE P W0 w' C' σ'/\aJ P w' C' r v/\Step w C w' C') a'.defers .returning w':=by
  rintro⟨B,g1,hc,r1,h2,_,h4⟩;obtain⟨C'',k1,k2⟩:=r.VW g1;have ed:a'.defers=ms':=by grind [more,bG.defers]
  have et:a'.tmps=a0.tmps:=by rw[e0];rfl
  rw[ed,et];refine La (P:=P) (W0:=W0) (n:=fn.ntmps) (B:=w.heap.size) ms' w' C'' (mk.step k2) md λw3 g3 g4=>?_
  have r3:=g3 B a0 k1 hst.base.size;obtain⟨v,q1,q2⟩:=nr r3 hres hc;exact⟨v,q1,v,r1,B.st,C'',rfl,h4,r3.st,q2.cb h2,g4 w C (s.trans k2) (acL _)⟩
 cases e with
 |normal=>exact fin q
 |ret=>exact fin q
 |_=>exact q.elim
end
open Go Go.Sort
section
variable {P :Program}{W0 w:World}{C:Ctx}{σ:ab}
theorem aE.BH {id:Nat}{te:TypeId}{xs ys:List AV}{fl:Array Value}{k n:Nat}{os:Array Obj}{b base room:Nat}(h:aE P W0 w C σ)(hs:σ[id]?=some (some (.cells te xs)))(hm:C.m id=some (.obj b te base room))
  (hk:af P te=k) (hl:ys.length=xs.length) (hfl:fl.size=xs.length*k)
  (hy: ∀(i:Nat) (y:AV),ys[i]?=some y-> ∃cs,Rel P w C y cs/\cs.length=k/\fits P te y/\ ∀(j:Nat) (c:Value),cs[j]?=some c->fl[i*k+j]?=some c):
  Step w C (grow (putRow (λv:Value=>v) (Sort.ahead w n) b base fl) os) C/\aE P W0 (grow (putRow (λv:Value=>v) (Sort.ahead w n) b base fl) os) C (σ.set id (some (.cells te ys))):=by
 obtain⟨b',base',room',arr,t',fr,m1,m2,mf,m3,m4,cf,m5⟩:=h.cells hs;rw[hm]at m1;cases m1;have hbl:b<w.heap.size:=(acH.1 m2).1;have hidl:=(acG.1 hs).1;obtain⟨w',hw'⟩: ∃w',w'=grow (putRow (λv:Value=>v) (Sort.ahead w n) b base fl) os:=⟨_,rfl⟩;have hsz:(putRow (λv:Value=>v) (Sort.ahead w n) b base fl).heap.size=w.heap.size:=by simp_all
 have hot: ∀j,j<w.heap.size->j≠b->w'.heap[j]?=w.heap[j]?:=λj hj hne=>by
  grind [Sort.heap_grow_old,Sort.putRow,Sort.mapBlock,Sort.ahead]
 have hat:w'.heap[b]?=some (.cells (putCells (λv:Value=>v) base fl arr) t' fr):=by
  rw[hw',heap_grow_old _ _ (by omega)];simp only[putRow,mapBlock,Sort.ahead];rw[Array.getElem?_modify,if_pos rfl,m2];rfl
 have hsize:w.heap.size<=w'.heap.size:=by simp_all
 have hst:Step w C w' C:=⟨acL _,λ_ _ _ h=>h,λb0 o0 hs0=>by
  have hne:b0≠b:=λe=>by
   obtain⟨e1,hw,cap,e2,_⟩:=hs0.2 id _ hm (by rw[e];rfl);cases e2
  refine⟨?_,Nat.lt_of_lt_of_le hs0.1 hsize,hs0.2⟩;unfold World.cell?;simp only[hot b0 hs0.1 hne],by rw[hw'];rfl,by simp_all,by rw[hw'];rfl,hsize,λj hj hn=>⟨hot j hj λe=>hn id _ hm (by rw[e];rfl),hn⟩⟩
 rw[<-hw'];refine⟨hst,h.change hst h.low (by rw[h.nx];simp) h.inj h.dom λj=>?_⟩;by_cases hj:j=id
 .subst hj;left;rw[acJ hidl,acM,hm];have hps:(putCells (λv:Value=>v) base fl arr).size=arr.size:=by simp[putCells]
  classical
  refine⟨rfl,_,t',fr,hat,by simp_all,by omega,by simp_all,λi=>(ys[i]?.bind λy=>if hex: ∃cs,Rel P w C y cs/\cs.length=k/\fits P te y/\ ∀(j:Nat) (c:Value),cs[j]?=some c->fl[i*k+j]?=some c then some (Classical.choose hex)else none).getD [],λi x hx=>?_⟩;have hex:=hy i x hx;simp only[hx,Option.bind_some,dif_pos hex,Option.getD_some];obtain⟨r1,r2,r3,r4⟩:=acQ hex;refine⟨r1.mono hst,by omega,r3,λq c hq=>?_⟩;have hflq:=r4 q c hq;have hql:q<k:=by grind
  have hlt:=(acH.1 hflq).1;have hin:base+i*k+q<arr.size:=by
   grind
  rw[hk];simp only[putCells,Array.getElem?_mapIdx];grind
 .right;refine⟨by grind,rfl,λow ho=>hot _ (h.lt ho) λe=>hj (h.inj j id _ _ ho hm (by rw[e];rfl))⟩
end
end Go.Av
end
