/- Texts that the last one of this claim rests on: a layer over the guide's own conditions for code; contracts of the functions that the law reaches, one by one. No conditions beside those of the given rows. -/
import Derived.IntWalk
import Derived.RangeFuncLeaves
import Derived.RangeFuncRecord
import Derived.Shelf.SlSortCmp.NoneTotal
import Derived.Test.YtbooehmmhbioaaaGreatDoorProg
import Derived.Test.YtbooehmmhbioaaaGreatDoorWac
set_option linter.unusedSimpArgs false
set_option linter.unusedVariables false
section
namespace Go.Av
open Go
theorem aH {n:Int}(h: -9223372036854775808≤n∧n≤9223372036854775807):IntKind.i64.wrap n=n:=by rw[IntKind.wrap_i64];omega
@[go_sem] theorem wrap_u8 (c:UInt8):IntKind.i64.wrap (c.toNat:Int)=c.toNat:=aH (by have:=c.toNat_lt;omega)
theorem zQ.of {fz:List Nat}{id:Nat}{ops:Array Oper}(h:zJ fz (eM fz id) ops (CO [] ops.toList)=true):zQ fz id ops .mk:=h
@[go_sem] theorem Ry (n:Nat):(((n+1:Nat):Int)==0)=false:=by simp;omega
@[go_sem] theorem U7 (n:Nat):((no_index (OfNat.ofNat n):Nat):Int)=(OfNat.ofNat n:Int):=rfl
@[go_sem] theorem S5 (n:Nat)(h:n≤9223372036854775807):IntKind.i64.wrap (no_index (OfNat.ofNat n):Int)=(OfNat.ofNat n:Int):=aH (by
 have e:(OfNat.ofNat n:Int)=((n:Nat):Int):=rfl
 rw[e];omega)
theorem aq :maxLen=9223372036854775807:=rfl
theorem jf {i N:Nat}(h:i<N)(hN:N≤maxLen):IntKind.i64.wrap ((i:Int)+1)=((i+1:Nat):Int):=by
 rw[aq]at hN
 rw[aH (by omega)]
 omega
theorem ag {i N:Nat}(h:i<N)(hN:N≤maxLen):AV.int .i64 (IntKind.i64.wrap ((i:Int)+1))= .int .i64 ((i+1:Nat):Int):=by rw[jf h hN]
theorem c7 {l:List UInt8}(h:Small (.str l)):l.length≤maxLen:=by cases h;assumption
theorem HP {e:TypeId}{xs:List AV}(h:Small (.sl e xs)):xs.length≤maxLen∧ ∀x∈xs,Small x:=by cases h;exact⟨by assumption,by assumption⟩
theorem nj {t:TypeId}{fs:List AV}(h:Small (.agg t fs)): ∀x∈fs,Small x:=by cases h;assumption
theorem aF {α:Type}{f:α→AV}{e:TypeId}{l:List α}(h:Small (.sl e (l.map f))):l.length≤maxLen∧ ∀x∈l,Small (f x):=by
 obtain⟨h1,h2⟩:=HP h
 exact⟨by simpa using h1,λx hx=>h2 _ (List.mem_map_of_mem hx)⟩
@[go_sem] theorem P7 {α:Type}(l:List α)(i:Nat):gD l i l.length=l.drop i:=by
 unfold gD
 rw[←List.length_drop,List.take_length]
@[go_sem] theorem QV {α:Type}(l:List α)(j:Nat):gD l 0 j=l.take j:=by simp[gD]
@[go_sem] theorem Oo {α:Type}(c:α)(r:List α):gD (c::r) 1 (r.length+1)=r:=by simp[gD]
@[go_sem] theorem Wi :(([]:List UInt8)==[])=true:=rfl
@[go_sem] theorem Vg (c:UInt8)(r:List UInt8):((c::r:List UInt8)==[])=false:=rfl
@[go_sem] theorem Lj (c:UInt8)(r:List UInt8):(([]:List UInt8)==c::r)=false:=rfl
attribute [go_sem] List.drop_succ_cons List.drop_zero List.length_cons List.length_nil true_implies false_implies Bool.false_eq_true Bool.true_eq_false
@[go_sem] theorem UD (n:Nat):(0<n+1)=True:=eq_true (Nat.succ_pos n)
@[go_sem] theorem Mk (n:Nat):(1≤n+1)=True:=eq_true (Nat.succ_pos n)
attribute [go_sem] Nat.le_refl not_true_eq_false not_false_eq_true
@[go_sem] theorem JM (n:Nat):(n<0)=False:=eq_false (Nat.not_lt_zero n)
theorem FN {l:List UInt8}{i:Nat}{f:UInt8→Bool}:(decide (i<l.length)&&f (l[i]?.getD 0))=true↔ ∃c,l[i]?=some c∧f c=true:=by
 cases h:l[i]? with
 |none=>have:=List.getElem?_eq_none_iff.1 h;simp;omega
 |some c=>have:=(List.getElem?_eq_some_iff.1 h).1;simp[this]
theorem zz {l:List UInt8}{i:Nat}{f:UInt8→Bool}:(decide (i<l.length)&&f (l[i]?.getD 0))=false↔ ∀c,l[i]?=some c→f c=false:=by
 cases h:l[i]? with
 |none=>have:=List.getElem?_eq_none_iff.1 h;simp;omega
 |some c=>have:=(List.getElem?_eq_some_iff.1 h).1;simp[this]
theorem xE (σ l:ab)(k:Nat):(σ++l)[σ.length+k]?=l[k]?:=by rw[List.getElem?_append_right (by omega)];congr 1;omega
@[go_sem] theorem Hd (σ l:ab)(k i:Nat)(path:List Nat):look (σ++l) (σ.length+k) i path=look l k i path:=by simp only[look,xE]
@[go_sem] theorem RY (σ l:ab)(i:Nat)(path:List Nat):look (σ++l) σ.length i path=look l 0 i path:=Hd σ l 0 i path
@[go_sem] theorem R0 (t:TypeId)(xs:List AV)(l:ab)(i:Nat)(path:List Nat):look (some (.cells t xs)::l) 0 i path=(xs[i]?).bind (·.at path):=rfl
@[go_sem] theorem Qy (o:Option cM)(l:ab)(k i:Nat)(path:List Nat):look (o::l) (k+1) i path=look l k i path:=rfl
@[go_sem] theorem Tu (σ l:ab):(σ++l)[σ.length]?=l[0]?:=xE σ l 0
theorem mI {s:List UInt8}{pos:Nat}{c:UInt8}(h:s[pos]?=some c)(hc:c.toNat<128):gH s pos=(c.toNat,1):=by
 obtain⟨hi,he⟩:=List.getElem?_eq_some_iff.1 h
 have h0:((⟨s.toArray⟩:ByteArray).get! (pos+0))=c:=by
  show s.toArray[pos+0]! =c
  simp[hi,he]
 unfold gH Utf8.decode
 simp only[h0]
 rw[if_pos hc]
theorem qQ {s:List UInt8}{pos:Nat}{c:UInt8}(h:s[pos]?=some c)(hc:128≤c.toNat):128≤(gH s pos).1:=by
 obtain⟨hi,he⟩:=List.getElem?_eq_some_iff.1 h
 have h0:((⟨s.toArray⟩:ByteArray).get! (pos+0))=c:=by
  show s.toArray[pos+0]! =c
  simp[hi,he]
 unfold gH Utf8.decode
 simp only[h0]
 rw[if_neg (by omega)]
 repeat' split
 all_goals first|(simp[Utf8.runeError];done)|skip
 all_goals simp_all
 all_goals omega
theorem sP (σ l:ab)(k:Nat)(o:Option cM):(σ++l).set (σ.length+k) o=σ++l.set k o:=by
 rw[List.set_append_right _ _ (by omega)];congr 2;omega
@[go_sem] theorem WT (σ l:ab)(k:Nat)(o:Option cM):(σ++l).set (σ.length+k) o=σ++l.set k o:=sP σ l k o
@[go_sem] theorem TR (σ l:ab)(o:Option cM):(σ++l).set σ.length o=σ++l.set 0 o:=sP σ l 0 o
@[go_sem] theorem An (σ l:ab)(k i:Nat)(path:List Nat)(v:AV):dB (σ++l) (σ.length+k) i path v=σ++dB l k i path v:=by
 unfold dB
 rw[xE]
 split
 ·exact sP ..
 ·rfl
@[go_sem] theorem JP (σ l:ab)(i:Nat)(path:List Nat)(v:AV):dB (σ++l) σ.length i path v=σ++dB l 0 i path v:=An σ l 0 i path v
@[go_sem] theorem I4 (t:TypeId)(xs:List AV)(l:ab)(i:Nat)(path:List Nat)(v:AV):dB (some (.cells t xs)::l) 0 i path v=some (.cells t (xs.set i ((xs[i]?.getD .undef).setAt path v)))::l:=rfl
@[go_sem] theorem JZ (o:Option cM)(l:ab)(k i:Nat)(path:List Nat)(v:AV):dB (o::l) (k+1) i path v=o::dB l k i path v:=by
 show(match l[k]? with|some (some (.cells te xs))=>(o::l).set (k+1) (some (.cells te (xs.set i ((xs[i]?.getD .undef).setAt path v))))|_=>o::l)=_
 unfold dB
 split<;>simp_all
@[go_sem] theorem XB (v:AV):v.at []=some v:=by cases v<;>rfl
@[go_sem] theorem WB (t:TypeId)(fs:List AV)(k:Nat)(r:List Nat):(AV.agg t fs).at (k::r)=(fs[k]?).bind (·.at r):=rfl
@[go_sem] theorem Qa (v u:AV):v.setAt [] u=u:=by cases v<;>rfl
attribute [go_sem] List.length_append List.append_assoc List.cons_append List.nil_append
def Ext (σ st:ab):Prop:=st.take σ.length=σ
theorem Ext.refl (σ:ab):Ext σ σ:=List.take_length
theorem Ext.le {σ st:ab}(h:Ext σ st):σ.length≤st.length:=by
 have:=congrArg List.length h
 rw[List.length_take]at this
 omega
theorem Ext.app {σ st:ab}(h:Ext σ st)(l:ab):Ext σ (st++l):=by
 unfold Ext
 rw[List.take_append_of_le_length h.le]
 exact h
theorem Ext.set {σ st:ab}(h:Ext σ st){id:Nat}(hid:σ.length≤id)(o:Option cM):Ext σ (st.set id o):=by
 unfold Ext
 rw[List.take_set_of_le hid]
 exact h
@[go_sem] theorem Uq (σ l:ab):(σ++l).take σ.length=σ:=List.take_left
theorem aj {a b:Bool}(h:a=b):cT (.bool a) (.bool b):=by rw[h];exact .refl _
theorem au {k:IntKind}{a b:Int}(h:a=b):cT (.int k a) (.int k b):=by rw[h];exact .refl _
theorem ft {a b:List UInt8}(h:a=b):cT (.str a) (.str b):=by rw[h];exact .refl _
def cS :AV→Prop| .maybe _ _=>False|_=>True
theorem bT {gd:Option Bool}{x:AV}(h:cS x):okM gd x=True:=by cases x<;>first|exact h.elim|exact eq_true trivial
theorem cB {x:AV}(h:cS x):unm x=x:=by cases x<;>first|exact h.elim|rfl
theorem ar {α:Type}{f:α→AV}{l:List α}{i:Nat}{a:α}(h:l[i]?=some a):atV (l.map f) (i:Int)=f a:=by
 simp only[atV,Int.toNat_natCast,List.getElem?_map,h,Option.map_some,Option.getD_some]
theorem get_some {α:Type}{l:List α}{i:Nat}(h:i<l.length): ∃x,l[i]?=some x:=⟨_,List.getElem?_eq_getElem h⟩
theorem ai {α:Type}{l:List α}{i:Nat}{x:α}(h:l[i]?=some x):l.take (i+1)=l.take i++[x]:=by
 rw[List.take_add_one,h];rfl
theorem all_false {α:Type}{f:α→Bool}{l:List α}{i:Nat}{x:α}(h:l[i]?=some x)(hf:f x=false):l.all f=false:=by
 rw[List.all_eq_false];exact⟨x,List.mem_of_getElem? h,by simp[hf]⟩
theorem any_true {α:Type}{f:α→Bool}{l:List α}{i:Nat}{x:α}(h:l[i]?=some x)(hf:f x=true):l.any f=true:=by
 rw[List.any_eq_true];exact⟨x,List.mem_of_getElem? h,hf⟩
end Go.Av
end
section
namespace Go.Proofs.Tryz
open Go Go.Av
@[go_sem] theorem Sm :prog.follows .mixedOrders=true∧af prog 3=1∧cG prog 3=true∧iZ prog 3=some .i64∧bC prog 3=true∧zeroOf prog 3=some (.int .i64 0)∧af prog 4=1∧cG prog 4=true∧kW prog 4=true∧bC prog 4=true∧zeroOf prog 4=some (.bool false)∧iZ prog 5=some .u8:=by and_intros<;>kernel_rfl
@[go_sem] theorem Xr :mz prog 9=true∧af prog 9=1∧cG prog 9=true∧cj prog 9=true∧iZ prog 9=none∧bC prog 9=true∧iZ prog 21=some .i32∧cG prog 22=true∧elT prog 22=some 54∧zeroOf prog 22=some .az∧cG prog 23=true∧elT prog 23=some 56:=by and_intros<;>kernel_rfl
@[go_sem] theorem Wu :elT prog 24=some 83∧cG prog 28=true∧gx prog 28=true∧cG prog 33=true∧elT prog 33=some 37∧af prog 37=1∧elT prog 37=some 3∧bC prog 37=true∧gQ prog 39=some 3∧bq prog 39=some [3,3,3,3,3]∧zeroOf prog 39=some (.agg 39 [(.int .i64 0),(.int .i64 0),(.int .i64 0),(.int .i64 0),(.int .i64 0)])∧dD prog 39=true:=by and_intros<;>kernel_rfl
@[go_sem] theorem We :dw prog 39=[(.int .i64 0),(.int .i64 0),(.int .i64 0),(.int .i64 0),(.int .i64 0)]∧af prog 50=1∧cG prog 50=true∧elT prog 50=some 72∧bC prog 50=true∧cG prog 51=true∧elT prog 51=some 81∧cG prog 52=true∧elT prog 52=some 147∧af prog 54=9∧bB prog 54=true∧bC prog 54=true:=by and_intros<;>kernel_rfl
@[go_sem] theorem WC :bq prog 54=some [9,9,50,50,50,51,51,52,4]∧zeroOf prog 54=some (.agg 54 [(.str []),(.str []),.az,.az,.az,.az,.az,.az,(.bool false)])∧dD prog 54=true∧dw prog 54=[(.str []),(.str []),.az,.az,.az,.az,.az,.az,(.bool false)]∧af prog 56=11∧bB prog 56=true∧bC prog 56=true∧bq prog 56=some [54,4,4]∧zeroOf prog 56=some (.agg 56 [(.agg 54 [(.str []),(.str []),.az,.az,.az,.az,.az,.az,(.bool false)]),(.bool false),(.bool false)])∧dD prog 56=true∧dw prog 56=[(.agg 54 [(.str []),(.str []),.az,.az,.az,.az,.az,.az,(.bool false)]),(.bool false),(.bool false)]∧elT prog 58=some 9:=by and_intros<;>kernel_rfl
@[go_sem] theorem WG :iZ prog 63=some .u64∧cG prog 66=true∧elT prog 66=some 4∧gQ prog 71=some 50∧bq prog 71=some [50,50]∧dD prog 71=true∧dw prog 71=[.az,.az]∧af prog 72=1∧cG prog 72=true∧elT prog 72=some 81∧bC prog 72=true∧af prog 81=3:=by and_intros<;>kernel_rfl
@[go_sem] theorem VU :bB prog 81=true∧bC prog 81=true∧bq prog 81=some [9,3,9]∧zeroOf prog 81=some (.agg 81 [(.str []),(.int .i64 0),(.str [])])∧dD prog 81=true∧dw prog 81=[(.str []),(.int .i64 0),(.str [])]∧af prog 83=3∧bB prog 83=true∧bC prog 83=true∧bq prog 83=some [3,9,9]∧zeroOf prog 83=some (.agg 83 [(.int .i64 0),(.str []),(.str [])])∧dD prog 83=true:=by and_intros<;>kernel_rfl
@[go_sem] theorem Wc :dw prog 83=[(.int .i64 0),(.str []),(.str [])]∧gx prog 86=true∧cG prog 92=true∧elT prog 92=some 102∧cG prog 93=true∧elT prog 93=some 100∧cG prog 94=true∧elT prog 94=some 116∧bB prog 96=true∧bq prog 96=some [22,23,24,33,66,92,93,4,4,3,3,4,94]∧dD prog 96=true∧dw prog 96=[.az,.az,.az,.az,.az,.az,.az,(.bool false),(.bool false),(.int .i64 0),(.int .i64 0),(.bool false),.az]:=by and_intros<;>kernel_rfl
@[go_sem] theorem Tc :af prog 100=1∧cG prog 100=true∧bC prog 100=true∧zeroOf prog 100=some (.int .u32 0)∧af prog 102=6∧bB prog 102=true∧bC prog 102=true∧bq prog 102=some [4,100,93,93,3,4]∧zeroOf prog 102=some (.agg 102 [(.bool false),(.int .u32 0),.az,.az,(.int .i64 0),(.bool false)])∧dD prog 102=true∧dw prog 102=[(.bool false),(.int .u32 0),.az,.az,(.int .i64 0),(.bool false)]∧af prog 116=6:=by and_intros<;>kernel_rfl
@[go_sem] theorem VO :bB prog 116=true∧bC prog 116=true∧bq prog 116=some [100,39]∧zeroOf prog 116=some (.agg 116 [(.int .u32 0),(.agg 39 [(.int .i64 0),(.int .i64 0),(.int .i64 0),(.int .i64 0),(.int .i64 0)])])∧dD prog 116=true∧dw prog 116=[(.int .u32 0),(.agg 39 [(.int .i64 0),(.int .i64 0),(.int .i64 0),(.int .i64 0),(.int .i64 0)])]∧gQ prog 118=some 50∧bq prog 118=some [50,50,50]∧dD prog 118=true∧dw prog 118=[.az,.az,.az]∧cG prog 130=true∧gx prog 130=true:=by and_intros<;>kernel_rfl
@[go_sem] theorem UG :bB prog 133=true∧bq prog 133=some [3,130]∧dD prog 133=true∧dw prog 133=[(.int .i64 0),.nil]∧af prog 135=1∧cG prog 135=true∧iZ prog 135=some .i64∧bC prog 135=true∧af prog 136=1∧cG prog 136=true∧elT prog 136=some 135∧bC prog 136=true:=by and_intros<;>kernel_rfl
@[go_sem] theorem T5 :af prog 147=2∧bB prog 147=true∧bC prog 147=true∧bq prog 147=some [9,9]∧zeroOf prog 147=some (.agg 147 [(.str []),(.str [])])∧bB prog 149=true∧bq prog 149=some [22]∧dD prog 149=true∧dw prog 149=[.az]∧af prog 171=3∧bB prog 171=true∧bC prog 171=true:=by and_intros<;>kernel_rfl
@[go_sem] theorem Ut :bq prog 171=some [3,100,100]∧zeroOf prog 171=some (.agg 171 [(.int .i64 0),(.int .u32 0),(.int .u32 0)])∧dD prog 171=true∧dw prog 171=[(.int .i64 0),(.int .u32 0),(.int .u32 0)]∧elT prog 172=some 171∧gQ prog 184=some 50∧bq prog 184=some [50,50,50,50,50,50]∧dD prog 184=true∧dw prog 184=[.az,.az,.az,.az,.az,.az]∧gQ prog 186=some 9∧bq prog 186=some [9,9]∧zeroOf prog 186=some (.agg 186 [(.str []),(.str [])]):=by and_intros<;>kernel_rfl
@[go_sem] theorem S6 :dD prog 186=true∧dw prog 186=[(.str []),(.str [])]∧gQ prog 187=some 186∧bq prog 187=some [186,186,186]∧dD prog 187=true∧dw prog 187=[(.agg 186 [(.str []),(.str [])]),(.agg 186 [(.str []),(.str [])]),(.agg 186 [(.str []),(.str [])])]∧cG prog 189=true∧elT prog 189=some 136∧bB prog 191=true∧bq prog 191=some [3,189]∧dD prog 191=true∧dw prog 191=[(.int .i64 0),.az]:=by and_intros<;>kernel_rfl
@[go_sem] theorem SU :elT prog 192=some 50∧bB prog 205=true∧bq prog 205=some [9,4,4]∧zeroOf prog 205=some (.agg 205 [(.str []),(.bool false),(.bool false)])∧dD prog 205=true∧dw prog 205=[(.str []),(.bool false),(.bool false)]∧gQ prog 226=some 51∧bq prog 226=some [51,51]∧dD prog 226=true∧dw prog 226=[.az,.az]∧bB prog 269=true∧bq prog 269=some [9,9]:=by and_intros<;>kernel_rfl
@[go_sem] theorem VN :dD prog 269=true∧dw prog 269=[(.str []),(.str [])]:=by and_intros<;>kernel_rfl
end Go.Proofs.Tryz
end
section
namespace Go.Av
open Go
section
variable {P :Program}{W0 w w':World}{C C':Ctx}{σ σ':ab}{n:Nat}{A:aa}{a:Act}
theorem aC.wi (h:aC P W0 w C σ){te t:TypeId}{id0 i id o:Nat}{path:List Nat}{zs:List AV}{z u u':AV}(h0:σ[id0]?=some (some (.cells te zs)))(hz:zs[i]?=some z)(hp:z.at path=some u)
  (hid:id<σ.length) (hne:id≠id0) (hpl:place P te path=some (t,o)) (h1:u.bb=true) (h2:u'.bb=true) (hfz: ∀v,aI P w C u v→aI P w (C.kill id) u' v):
  aC P W0 w (C.kill id) ((σ.set id none).set id0 (some (.cells te (zs.set i (z.setAt path u'))))):=by
 obtain⟨k1,k2⟩:=h.kill id hid
 obtain⟨b,base,room,arr,t',fr,m1,m2,mf,m3,m4,cf,m5⟩:=h.cells h0
 obtain⟨r1,r2,r3,r4⟩:=m5 i z hz
 obtain⟨c,g1,g2,g3,g4⟩:=xk path te t o z _ (cf i) r1 r3 hpl hp
 obtain⟨v,rfl⟩:=g1.one_cell h1
 have hfz1:=(hfz v (.one h1 g1)).aS h2
 have hft:fits P t u':=by
  have:cG P t=true:=by cases u<;>first|exact g2.2|cases h1
  cases u'<;>first|exact⟨rfl,this⟩|cases h2
 obtain⟨q1,q2,q3⟩:=qb path te t o z _ _ (cf i) [v] (r1.mono k1) r3 hpl hp hfz1 hft
 have hsp:(bD (cf i).toArray o [v]).toList=cf i:=by
  refine List.ext_getElem? λp=>?_
  rw[Array.getElem?_toList,bF (by simpa using q1)]
  split
  ·rename_i hpr
   have hp0:p-o=0:=by simp at hpr;omega
   have hpo:p=o:=by simp at hpr;omega
   rw[hp0,hpo]
   exact(g4 0 v rfl).symm
  ·simp
 rw[hsp]at q2
 have hid0l:id0<σ.length:=(List.getElem?_eq_some_iff.1 h0).1
 refine k2.change (Step.refl _ _) k2.low (by rw[k2.nx];simp) k2.inj k2.dom λj=>?_
 by_cases hj:j=id0
 ·subst hj
  left
  rw[List.getElem?_set_self (by simpa using hid0l),Option.join_some,oo,if_neg (λe=>hne e.symm),m1]
  refine⟨rfl,arr,t',fr,m2,mf,m3,by simpa using m4,cf,λp x hx=>?_⟩
  rw[List.getElem?_set]at hx
  split at hx
  ·rename_i hpi
   split at hx
   ·cases hx
    subst hpi
    exact⟨q2,r2,q3,r4⟩
   ·cases hx
  ·obtain⟨s1,s2,s3,s4⟩:=m5 p x hx
   exact⟨s1.mono k1,s2,s3,s4⟩
 ·right
  refine⟨by rw[List.getElem?_set_ne (λe=>hj e.symm)],rfl,λow hm=>rfl⟩
theorem aC.Am (h:aC P W0 w C σ){te e te' t:TypeId}{id0 i id off m o:Nat}{path:List Nat}{zs xs:List AV}{z:AV}(h0:σ[id0]?=some (some (.cells te zs)))(hz:zs[i]?=some z)(hp:z.at path=some (.row e id off m))
  (hs:σ[id]?=some (some (.cells te' xs))) (hm:off+m≤xs.length) (hne:id≠id0) (hpl:place P te path=some (t,o)):
  aC P W0 w (C.kill id) ((σ.set id none).set id0 (some (.cells te (zs.set i (z.setAt path (.sl e ((xs.drop off).take m))))))):=
 h.wi h0 hz hp (List.getElem?_eq_some_iff.1 hs).1 hne hpl rfl rfl λ_ hv=>n9 h hv hs hm
inductive kT (P:Program):aa→aa→Prop
 |refl (D:aa):kT P D D
 |row {D B:aa} (d:Nat) {e te:TypeId} {id off m:Nat} {xs:List AV}:D.env d= .row e id off m→D.st[id]?=some (some (.cells te xs))→off+m≤xs.length→kT P ((D.upd d (.sl e ((xs.drop off).take m))).an (D.st.set id none)) B→kT P D B
 |cell {D B:aa} {te e te' t:TypeId} (id0 i:Nat) (path:List Nat) {id off m o:Nat} {zs xs:List AV} {z:AV}:D.st[id0]?=some (some (.cells te zs))→zs[i]?=some z→z.at path=some (.row e id off m)→D.st[id]?=some (some (.cells te' xs))→off+m≤xs.length→id≠id0→place P te path=some (t,o)→
   kT P (D.an ((D.st.set id none).set id0 (some (.cells te (zs.set i (z.setAt path (.sl e ((xs.drop off).take m)))))))) B→kT P D B
 |Df {D B:aa} {te t' t:TypeId} (id0 i:Nat) (path:List Nat) {id o:Nat} {zs:List AV} {z x:AV}:D.st[id0]?=some (some (.cells te zs))→zs[i]?=some z→z.at path=some (.ptr t' id 0 [])→D.st[id]?=some (some (.cells t' [x]))→id≠id0→place P te path=some (t,o)→
   kT P (D.an ((D.st.set id none).set id0 (some (.cells te (zs.set i (z.setAt path (.loc t' x))))))) B→kT P D B
 |pt {D B:aa} (d:Nat) {t:TypeId} {id:Nat} {x:AV}:D.env d= .ptr t id 0 []→D.st[id]?=some (some (.cells t [x]))→kT P ((D.upd d (.loc t x)).an (D.st.set id none)) B→kT P D B
 |cI {D B:aa} {te:TypeId} (id0 i:Nat) {zs:List AV} {z z':AV}:D.st[id0]?=some (some (.cells te zs))→zs[i]?=some z→Sub z z'→kT P (D.an (D.st.set id0 (some (.cells te (zs.set i z'))))) B→kT P D B
theorem aC.Dp (h:aC P W0 w C σ){te:TypeId}{id0 i:Nat}{zs:List AV}{z z':AV}(h0:σ[id0]?=some (some (.cells te zs)))(hz:zs[i]?=some z)(hs:Sub z z'):
  aC P W0 w C (σ.set id0 (some (.cells te (zs.set i z')))):=by
 obtain⟨b,base,room,arr,t',fr,m1,m2,mf,m3,m4,cf,m5⟩:=h.cells h0
 have hid0l:id0<σ.length:=(List.getElem?_eq_some_iff.1 h0).1
 refine h.change (Step.refl _ _) h.low (by rw[h.nx];simp) h.inj h.dom λj=>?_
 by_cases hj:j=id0
 ·subst hj
  left
  rw[List.getElem?_set_self hid0l,Option.join_some,m1]
  refine⟨rfl,arr,t',fr,m2,mf,m3,by simpa using m4,cf,λp x hx=>?_⟩
  rw[List.getElem?_set]at hx
  split at hx
  ·rename_i hpi
   split at hx
   ·cases hx
    subst hpi
    obtain⟨r1,r2,r3,r4⟩:=m5 i z hz
    exact⟨r1.sub hs,r2,hs.fits _ r3,r4⟩
   ·cases hx
  ·exact m5 p x hx
 ·right
  exact⟨by rw[List.getElem?_set_ne (λe=>hj e.symm)],rfl,λow hm=>rfl⟩
theorem bL.N7 {B:aa}(hf:kT P A B): ∀{C:Ctx},bL P W0 n w C A a→ ∃C',bL P W0 n w C' B a∧Step w C w C':=by
 induction hf with
 |refl A=>exact λh=>⟨_,h,.refl _ _⟩
 |row d h1 h2 h3 _ ih=>
  intro C h
  have hv:=h.env d
  rw[h1]at hv
  have hfr:=n9 h.st hv h2 h3
  obtain⟨k1,k2⟩:=h.st.kill _ (List.getElem?_eq_some_iff.1 h2).1
  have hr1:=h.step k1 k2
  have hr2:bL P W0 n w (C.kill _) ((aa.upd _ d (.sl _ _)).an (List.set _ _ none)) a:=⟨λj=>by
   by_cases hj:j=d
   ·subst hj;simpa[aa.upd,aa.an]using hfr
   ·have:=hr1.env j;simpa[aa.upd,aa.an,hj]using this,hr1.defers,hr1.size,hr1.st⟩
  obtain⟨C',g1,g2⟩:=ih hr2
  exact⟨C',g1,k1.trans g2⟩
 |cell id0 i path h1 h2 h3 h4 h5 h6 h7 _ ih=>
  intro C h
  obtain⟨k1,k2⟩:=h.st.kill _ (List.getElem?_eq_some_iff.1 h4).1
  have hr1:=h.step k1 (h.st.Am h1 h2 h3 h4 h5 h6 h7)
  obtain⟨C',g1,g2⟩:=ih hr1
  exact⟨C',g1,k1.trans g2⟩
 |Df id0 i path h1 h2 h3 h4 h5 h6 _ ih=>
  intro C h
  have hidl:=(List.getElem?_eq_some_iff.1 h4).1
  obtain⟨k1,k2⟩:=h.st.kill _ hidl
  have hr1:=h.step k1 (h.st.wi h1 h2 h3 hidl h5 h6 rfl rfl λ_ hv=>kX h.st hv h4 (i:=0) rfl)
  obtain⟨C',g1,g2⟩:=ih hr1
  exact⟨C',g1,k1.trans g2⟩
 |pt d h1 h2 _ ih=>
  intro C h
  have hv:=h.env d
  rw[h1]at hv
  have hfr:=kX h.st hv h2 (i:=0) rfl
  obtain⟨k1,k2⟩:=h.st.kill _ (List.getElem?_eq_some_iff.1 h2).1
  have hr1:=h.step k1 k2
  have hr2:bL P W0 n w (C.kill _) ((aa.upd _ d (.loc _ _)).an (List.set _ _ none)) a:=⟨λj=>by
   by_cases hj:j=d
   ·subst hj;simpa[aa.upd,aa.an]using hfr
   ·have:=hr1.env j;simpa[aa.upd,aa.an,hj]using this,hr1.defers,hr1.size,hr1.st⟩
  obtain⟨C',g1,g2⟩:=ih hr2
  exact⟨C',g1,k1.trans g2⟩
 |cI id0 i h1 h2 h3 _ ih=>
  intro C h
  have hr1:=h.step (.refl _ _) (h.st.Dp h1 h2 h3)
  exact ih hr1
def jn (A:aa):ResultVar→AV
 | .tmp t=>A.env t
 | .cell a _=>rJ A.st (A.env a)
def tf (A:aa):ResultVar→Prop
 | .tmp _=>True
 | .cell a t=>rG none A.st t (A.env a)
def rS (A:aa):List ResultVar→AV
 |[t]=>jn A t
 |ts=>.tup (ts.map (jn A))
def lF (A:aa):List ResultVar→Prop
 |[]=>True
 |t::r=>tf A t∧lF A r
def Ih (a:Act):ResultVar→Sem Value
 | .tmp t=>pure (a.tmps.getD t undef)
 | .cell a' ty=>do loadVar ty (←asAddr (a.tmps.getD a' undef))
theorem HC (hr:bL P W0 n w C A a)(t:ResultVar)(hc:tf A t): ∃v,(Ih a t).run P w= .ok v w∧aI P w C (jn A t) v:=by
 cases t with
 |tmp t=>exact⟨_,rfl,hr.env t⟩
 |cell d ty=>
  have hd:=hr.env d
  simp only[tf]at hc
  simp only[jn]
  cases hv:A.env d with
  |loc ty' v=>
   rw[hv]at hc hd
   obtain rfl:ty'=ty:=hc
   obtain⟨b,o,cs,e,h1,h2,h3,h4⟩:=hd.pn
   rw[Ih,e]
   obtain⟨x,g1,g2⟩:=fE (w:=w) (off:=o) h1 h2 (λj c hj=>(h4 j c hj).1)
   exact⟨x,by simpa only[Sem.run_bind,asAddr,Sem.run_pure,Result.andThen_ok]using g1,g2⟩
  |ptr ty' id i path=>
   rw[hv]at hc hd
   obtain⟨rfl,hl⟩:=hc
   obtain⟨x,hx⟩:=Option.isSome_iff_exists.1 (show(look A.st id i path).isSome=true from hl)
   obtain⟨te,xs,z,h1,h2,h3⟩:=o5 hx
   obtain⟨ad,e0,_,hm⟩:=hd.nk
   rw[Ih,e0]
   obtain⟨b,base,room,arr,t',fr,m1,m2,mf,m3,m4,cf,m5⟩:=hr.st.cells h1
   obtain⟨b',te',base',room',off,e1,e2,e3⟩:=hm _ m1
   cases e1
   subst e3
   obtain⟨r1,r2,r3,r4⟩:=m5 i z h2
   obtain⟨c,g1,g2,g3,g4⟩:=xk path te _ off z x (cf i) r1 r3 e2 h3
   obtain⟨y,q1,q2⟩:=fE (w:=w) (b:=b) (off:=base+i*af P te+off) g1 g2 (λj c' hj=>by
    have:=r4 _ _ (g4 j c' hj)
    rw[Nat.add_assoc]
    simp[World.cell?,m2,←Nat.add_assoc]at this ⊢
    exact this)
   refine⟨y,?_,by simp only[rJ,hx,Option.getD_some];exact q2⟩
   simpa only[Sem.run_bind,asAddr,Sem.run_pure,Result.andThen_ok]using q1
  |_=>rw[hv]at hc;exact hc.elim
theorem zK {F:ResultVar→Sem Value}(hr:bL P W0 n w C A a)(hF: ∀t,tf A t→ ∃v,(F t).run P w= .ok v w∧aI P w C (jn A t) v): ∀ts:List ResultVar,lF A ts→ ∃vs:List Value,(ts.mapM F).run P w= .ok vs w∧vs.length=ts.length∧ ∀(i:Nat) (t:ResultVar) (v:Value),ts[i]?=some t→vs[i]?=some v→aI P w C (jn A t) v
 |[],_=>⟨[],rfl,rfl,by simp⟩
 |t::ts,hc=>by
  obtain⟨v,h1,h2⟩:=hF t hc.1
  obtain⟨vs,g1,g2,g3⟩:=zK hr hF ts hc.2
  refine⟨v::vs,?_,by simp[g2],λi t' v' ht hv=>?_⟩
  ·rw[List.mapM_cons]
   simp only[Sem.run_bind,h1,Result.andThen_ok,g1,Sem.run_pure]
  ·cases i with
   |zero=>simp at ht hv;subst ht hv;exact h2
   |succ i=>exact g3 i t' v' (by simpa using ht) (by simpa using hv)
theorem kL {fn:Func}{ts:List ResultVar}(hr:bL P W0 n w C A a)(h:fn.results=ts.toArray)(hc:lF A ts): ∃v,(results fn a.tmps).run P w= .ok v w∧aI P w C (rS A ts) v:=by
 obtain⟨vs,g1,g2,g3⟩:=zK (F:=Ih a) hr (λt ht=>HC hr t ht) ts hc
 have hm:(results fn a.tmps).run P w= .ok (if h:vs.toArray.size=1 then vs.toArray[0]else .tuple vs.toArray) w:=by
  have e:results fn a.tmps=(do
    let vs ←fn.results.mapM (Ih a)
    pure (if h:vs.size=1 then vs[0]else .tuple vs)):=by
   unfold results
   congr 2
  rw[e,h,Array.mapM_eq_mapM_toList]
  simp only[Sem.run_bind,Sem.run_map]
  rw[g1]
  rfl
 match ts,vs,hm,g2,g3 with
 |[],[],hm,_,_=>exact⟨_,hm,.tup (vs:=[]) rfl (by simp)⟩
 |[t],[v],hm,_,g3=>exact⟨_,hm,g3 0 t v rfl rfl⟩
 |t::u::ts,v::v'::vs,hm,g2,g3=>
  refine⟨_,hm,?_⟩
  rw[dif_neg (by simp)]
  refine .tup (by simpa using g2.symm) (λi x v hx hv=>?_)
  rw[List.getElem?_map,Option.map_eq_some_iff]at hx
  obtain⟨q,hq,rfl⟩:=hx
  exact g3 i q v hq hv
def cW (P:Program)(R:aa→Prop):Exit→aa→Prop
 | .normal,A| .ret,A=>∃ A',kT P A A'∧R A'
 |_,_=>False
theorem cW.ret {R:aa→Prop}(h:R A):cW P R .ret A:=⟨A,.refl A,h⟩
theorem cW.normal {R:aa→Prop}(h:R A):cW P R .normal A:=⟨A,.refl A,h⟩
theorem cW.via {R:aa→Prop}{x:Exit}{B:aa}(hx:x= .ret∨x= .normal)(hf:kT P A B)(h:R B):cW P R x A:=by
 rcases hx with rfl|rfl
 ·exact⟨B,hf,h⟩
 ·exact⟨B,hf,h⟩
theorem cW.vc {R:aa→Prop}{c:Code}(h:VC P W0 n c (cW P R) A):VC P W0 n c (λe A'=>(e= .normal∨e= .ret)∧R A') A:=λw C a hr=>
 il (h w C a hr) λe a' w' ⟨A',C',q,r,s⟩=>by
  cases e with
  |normal=>obtain⟨B,g1,g2⟩:=q;obtain⟨C'',h1,h2⟩:=r.N7 g1;exact⟨B,C'',⟨.inl rfl,g2⟩,h1,s.trans h2⟩
  |ret=>obtain⟨B,g1,g2⟩:=q;obtain⟨C'',h1,h2⟩:=r.N7 g1;exact⟨B,C'',⟨.inr rfl,g2⟩,h1,s.trans h2⟩
  |_=>exact q.elim
def Hj (ts:List ResultVar)(σ:ab)(Q:AV→ab→Prop)(A:aa):Prop:=lF A ts∧ ∃r,cT (rS A ts) r∧σ.length≤A.st.length∧Q r A.st
theorem jD {f : FuncId} {fn : Func} {c : Code} {args : List AV} {Q : AV → ab → Prop} {m : Nat} (ts : List ResultVar) (fz : List Nat) (hf : P.funcs[f]? = some fn) (hb : fn.body = some c) (hnm : (fn.name == "runtime.NumGoroutine") = false)
  (hm:fn.ntmps=m) (hargs:Nat.ble args.length m=true) (hres:fn.results=ts.toArray)
  (h:(∀a∈args,Small a)→cVC P W0 m fz c (cW P (Hj ts σ Q)) ⟨ib args,σ⟩):bg P W0 f args σ Q:=by
 subst hm
 refine λw C vs hst hl hv=>?_
 have hsm: ∀a∈args,Small a:=dH λi x hx=>(hv i x _ hx (List.getElem?_eq_getElem (by rw[←hl];exact(List.getElem?_eq_some_iff.1 hx).1))).small
 have hvc:=cW.vc (bz c _ _ (h hsm))
 refine .inl ⟨⟨fn,hf,by simp[hb],hnm⟩,calls_of_wp hf hb (wp_mono (w8 (hvc w C _ (kB hst hl hv (Nat.le_of_ble_eq_true hargs)))) λe a' w' ⟨A',C',q,r,s⟩=>?_)⟩
 have fin:a'.defers=[]∧ ∃v,(results fn a'.tmps).run P w'= .ok v w'∧ ∃v₁ r σ' C',Ending.returned v= .returned v₁∧Q r σ'∧aC P W0 w' C' σ'∧aI P w' C' r v₁∧Step w C w' C':=by
  obtain⟨_,hc,r1,h2,_,h4⟩:=q
  obtain⟨v,g1,g2⟩:=kL r hres hc
  exact⟨r.defers,v,g1,v,r1,A'.st,C',rfl,h4,r.st,g2.cI h2,s⟩
 rcases q.1 with rfl|rfl
 ·exact fin
 ·exact fin
def Jy (ts:List ResultVar)(r:AV)(σ:ab)(A:aa):Prop:=lF A ts∧cT (rS A ts) r∧A.st.take σ.length=σ
theorem xn {f : FuncId} {fn : Func} {c : Code} {args : List AV} {r : AV} {m : Nat} (ts : List ResultVar) (fz : List Nat) (hf : P.funcs[f]? = some fn) (hb : fn.body = some c) (hnm : (fn.name == "runtime.NumGoroutine") = false)
  (hm:fn.ntmps=m) (hargs:Nat.ble args.length m=true) (hres:fn.results=ts.toArray) (hr:aW σ.length r)
  (h:(∀a∈args,Small a)→cVC P W0 m fz c (cW P (Jy ts r σ)) ⟨ib args,σ⟩):bg P W0 f args σ λr' σ'=>r'=r∧σ'=σ:=by
 subst hm
 refine λw C vs hst hl hv=>?_
 have hsm: ∀a∈args,Small a:=dH λi x hx=>(hv i x _ hx (List.getElem?_eq_getElem (by rw[←hl];exact(List.getElem?_eq_some_iff.1 hx).1))).small
 have hvc:=cW.vc (bz c _ _ (h hsm))
 refine .inl ⟨⟨fn,hf,by simp[hb],hnm⟩,calls_of_wp hf hb (wp_mono (w8 (hvc w C _ (kB hst hl hv (Nat.le_of_ble_eq_true hargs)))) λe a' w' ⟨A',C',q,rl,s⟩=>?_)⟩
 have fin:a'.defers=[]∧ ∃v,(results fn a'.tmps).run P w'= .ok v w'∧ ∃v₁ r' σ' C',Ending.returned v= .returned v₁∧(r'=r∧σ'=σ)∧aC P W0 w' C' σ'∧aI P w' C' r' v₁∧Step w C w' C':=by
  obtain⟨_,hc,q1,q2⟩:=q
  obtain⟨v,g1,g2⟩:=kL rl hres hc
  have hle:σ.length≤A'.st.length:=by have:=congrArg List.length q2;rw[List.length_take]at this;omega
  have hs2:aC P W0 w' (C'.dQ σ.length) σ:=by
   have:=rl.st.dQ (n:=σ.length) hle λid te xs hid hs=>hst.ids (show σ[id]?=some (some (.cells te xs)) by rw[←hs,←q2,List.getElem?_take,if_pos hid])
   rwa [q2]at this
  exact⟨rl.defers,v,g1,v,r,σ,C'.dQ σ.length,rfl,⟨rfl,rfl⟩,hs2,(g2.cI q1).dQ hr,s.dQ (by rw[hst.nx];exact Nat.le_refl _)⟩
 rcases q.1 with rfl|rfl
 ·exact fin
 ·exact fin
theorem tc {f : FuncId} {fn : Func} {c : Code} {args : List AV} {r : AV} {m : Nat} (ts : List ResultVar) (fz : List Nat) (hf : P.funcs[f]? = some fn) (hb : fn.body = some c) (hnm : (fn.name == "runtime.NumGoroutine") = false)
  (hm:fn.ntmps=m) (hargs:Nat.ble args.length m=true) (hres:fn.results=ts.toArray) (hr:aW 0 r)
  (h:(∀a∈args,Small a)→ ∀σ,cVC P W0 m fz c (cW P (Jy ts r σ)) ⟨ib args,σ⟩):ah P W0 f args r:=λσ=>
 xn ts fz hf hb hnm hm hargs hres (ej (Nat.zero_le _) hr) λhs=>h hs σ
def GX (ts:List ResultVar)(r:AV)(σ:ab):Exit→aa→Prop
 | .normal,A| .ret,A=>Jy ts r σ A
 |_,_=>False
theorem lS {f : FuncId} {fn : Func} {c : Code} {args : List AV} {r : AV} {m : Nat} (ts : List ResultVar) (fz : List Nat) (hf : P.funcs[f]? = some fn) (hb : fn.body = some c) (hnm : (fn.name == "runtime.NumGoroutine") = false)
  (hm:fn.ntmps=m) (hargs:Nat.ble args.length m=true) (hres:fn.results=ts.toArray) (hr:aW 0 r)
  (h:(∀a∈args,Small a)→ ∀σ,cVC P W0 m fz c (GX ts r σ) ⟨ib args,σ⟩):ah P W0 f args r:=
 tc ts fz hf hb hnm hm hargs hres hr λhs σ=>eD c _ (λe A' _ q=>by
  cases e with
  |normal=>exact cW.normal q
  |ret=>exact cW.ret q
  |_=>exact q.elim) (h hs σ)
@[go_sem ↓] theorem QP {fz:List Nat}{k:aa→Prop}(dst:Option Nat)(t:TypeId):eop P W0 fz dst A k (.alloc t)=op2 P W0 fz dst A k (.alloc t):=propext Iff.rfl
@[go_sem] theorem Re (ts:List ResultVar)(r:AV):GX ts r σ .ret A=(lF A ts∧cT (rS A ts) r∧A.st.take σ.length=σ):=propext Iff.rfl
@[go_sem] theorem JQ (ts:List ResultVar)(r:AV):GX ts r σ .normal A=(lF A ts∧cT (rS A ts) r∧A.st.take σ.length=σ):=propext Iff.rfl
@[go_sem] theorem V7 (ts:List ResultVar)(r:AV):Jy ts r σ A=(lF A ts∧cT (rS A ts) r∧A.st.take σ.length=σ):=propext Iff.rfl
@[go_sem] theorem V0 (ts:List ResultVar)(Q:AV→ab→Prop):Hj ts σ Q A=(lF A ts∧ ∃r,cT (rS A ts) r∧σ.length≤A.st.length∧Q r A.st):=propext Iff.rfl
@[go_sem] theorem UK (t:ResultVar):rS A [t]=jn A t:=rfl
@[go_sem] theorem Vo (t u:ResultVar):rS A [t,u]= .tup [jn A t,jn A u]:=rfl
@[go_sem] theorem M4 (t u v:ResultVar):rS A [t,u,v]= .tup [jn A t,jn A u,jn A v]:=rfl
@[go_sem] theorem U1 :rS A []= .tup []:=rfl
@[go_sem] theorem Vn (t:Nat):jn A (.tmp t)=A.env t:=rfl
@[go_sem] theorem PX (t:Nat)(ty:TypeId):jn A (.cell t ty)=rJ A.st (A.env t):=rfl
@[go_sem] theorem Rm (t:Nat):tf A (.tmp t)=True:=rfl
@[go_sem] theorem ML (t:Nat)(ty:TypeId):tf A (.cell t ty)=rG none A.st ty (A.env t):=rfl
@[go_sem] theorem Q4 :lF A []=True:=rfl
@[go_sem] theorem MR (t:ResultVar)(r:List ResultVar):lF A (t::r)=(tf A t∧lF A r):=rfl
end
end Go.Av
end
section
namespace Go.Av
open Go
def gl :Obj→Bool
 | .cells ..=>false
 |_=>true
structure du (w:World)(C:Ctx)(D:Nat)(o:Obj):Prop where
 hp:w.heap[D]?=some o
 nc:gl o=true
 no: ∀id ow,C.m id=some ow→ow.blk≠D
section
variable {P :Program}{W0 w w' w0:World}{C C' C0:Ctx}{σ σ':ab}{n:Nat}{A:aa}{a:Act}{D:Nat}{o o':Obj}
theorem du.step (h:du w C D o)(hs:Step w C w' C'):du w' C' D o:=by
 obtain⟨e,k⟩:=hs.block D (Array.getElem?_eq_some_iff.1 h.hp).1 h.no
 exact⟨e.trans h.hp,h.nc,k⟩
theorem CR {b i:Nat}(h:w.heap[b]?=some o)(h1:gl o=true):w.cell? ⟨b,i,none⟩=none:=by
 unfold World.cell?
 simp only[h]
 cases o<;>first|rfl|cases h1
theorem sM (h:w.heap[D]?=some o)(h1:gl o=true)(h2:gl o'=true)(b i:Nat):(w.putObj D o').cell? ⟨b,i,none⟩=w.cell? ⟨b,i,none⟩:=by
 by_cases hb:b=D
 ·subst hb
  rw[CR h h1,CR (World.putObj_heap_same (Array.getElem?_eq_some_iff.1 h).1) h2]
 ·unfold World.cell?
  simp only[World.putObj_heap_other hb]
theorem du.H3 (h:du w C D o)(h2:gl o'=true):lG w C (w.putObj D o') C:=
 ⟨Nat.le_refl _,λ_ _ _ h=>h,λb i hs=>⟨sM h.hp h.nc h2 b i,by rw[eW,World.putObj_size];exact hs⟩⟩
theorem du.put (h:du w C D o)(h2:gl o'=true):du (w.putObj D o') C D o':=⟨World.putObj_heap_same (Array.getElem?_eq_some_iff.1 h.hp).1,h2,h.no⟩
theorem du.other {D':Nat}{o2:Obj}(h:du w C D o)(hne:D≠D'):du (w.putObj D' o2) C D o:=⟨(World.putObj_heap_other hne).trans h.hp,h.nc,h.no⟩
theorem aC.apart (h:aC P W0 w C σ)(hA:du w C D o)(h2:gl o'=true)(hD:W0.heap.size≤D):aC P W0 (w.putObj D o') C σ:=by
 refine⟨h.base.trans ⟨rfl,rfl,rfl,by rw[World.putObj_size];exact Nat.le_refl _,λk hk=>World.putObj_heap_other (by omega)⟩,h.low,h.nx,h.inj,h.dom,λi=>?_⟩
 exact(h.obj i).fu (hA.H3 h2) λx hx=>World.putObj_heap_other (hA.no i x hx)
theorem bL.apart (h:bL P W0 n w C A a)(hA:du w C D o)(h2:gl o'=true)(hD:W0.heap.size≤D):bL P W0 n (w.putObj D o') C A a:=
 ⟨λi=>(h.env i).fu (hA.H3 h2),h.defers,h.size,h.st.apart hA h2 hD⟩
theorem Step.apart (h:Step w0 C0 w C)(hA:du w C D o)(h2:gl o'=true)(hD:w0.heap.size≤D):Step w0 C0 (w.putObj D o') C:=
 ⟨h.nx,h.dead,λb i hs=>by
  obtain⟨e,s⟩:=h.gr b i hs
  exact⟨(sM hA.hp hA.nc h2 b i).trans e,by rw[eW,World.putObj_size];exact s⟩,h.os,h.tape,h.output,by rw[World.putObj_size];exact h.size,λb hb hn=>by
  obtain⟨e,k⟩:=h.block b hb hn
  exact⟨(World.putObj_heap_other (by omega)).trans e,k⟩⟩
theorem du.new (h:aC P W0 w C σ)(o:Obj)(ho:gl o=true):du (w.alloc o) C w.heap.size o:=⟨World.alloc_heap_new w o,ho,h.fresh⟩
def kU (w:World)(C:Ctx)(B:Nat)(ms:List Deferred):Prop:=∀ d∈ms,∃D,d={ target:=.collected D,args:=#[] }∧B≤D∧du w C D (.deferred (some []))
theorem kU.step {B:Nat}{ms:List Deferred}(h:kU w C B ms)(hs:Step w C w' C'):kU w' C' B ms:=λd hd=>by
 obtain⟨D,h1,h2,h3⟩:=h d hd
 exact⟨D,h1,h2,h3.step hs⟩
def VCM (P:Program)(W0:World)(n:Nat)(c:Code)(Q:Exit→aa→Prop)(A:aa):Prop:=
 ∀w C a ms B,bL P W0 n w C A a→kU w C B ms→(ms.map (·.target)).Nodup→B≤w.heap.size→c.wpIn .wide 0 P (λe a' w'=>∃ a0 ms' A' C',a'=more a0 ms'∧Q e A'∧bL P W0 n w' C' A' a0∧kU w' C' B ms'∧(ms'.map (·.target)).Nodup∧Step w C w' C') (more a ms) w
theorem VCM.of {c:Code}{Q:Exit→aa→Prop}(h:VC P W0 n c Q A):VCM P W0 n c Q A:=λw C a ms B hr hm hd hB=>
 wpIn_mono (h w C a hr none 0 ms) λe a' w' ⟨a0,e0,A',C',q,r,s⟩=>⟨a0,ms,A',C',e0,q,r,hm.step s,hd,s⟩
theorem VCM.seq {x y:Code}{Q:Exit→aa→Prop}(h:VCM P W0 n x (bZ (VCM P W0 n y Q) Q) A):VCM P W0 n (.seq x y) Q A:=λw C a ms B hr hm hd hB=>
 wpIn_seq (wpIn_mono (h w C a ms B hr hm hd hB) λe a' w' ⟨a0,ms',A',C',e0,q,r,m,d,s⟩=>by
  cases e with
  |normal=>
   subst e0
   exact wpIn_mono (q w' C' a0 ms' B r m d (Nat.le_trans hB s.size)) λ_ _ _ ⟨a1,ms'',A'',C'',e1,q',r',m',d',s'⟩=>⟨a1,ms'',A'',C'',e1,q',r',m',d',s.trans s'⟩
  |_=>exact⟨a0,ms',A',C',e0,q,r,m,d,s⟩)
theorem VCM.block {id:Nat}{c:Code}{Q:Exit→aa→Prop}(h:VCM P W0 n c (dT id Q) A):VCM P W0 n (.block id c) Q A:=λw C a ms B hr hm hd hB=>
 wpIn_block (wpIn_mono (h w C a ms B hr hm hd hB) λe a' w' ⟨a0,ms',A',C',e0,q,r,m,d,s⟩=>by
  cases e with
  |exit id'=>
   simp only[dT]at q
   simp only[Exit.inBlock]
   split at q
   ·rename_i he;rw[if_pos he];exact⟨a0,ms',A',C',e0,q,r,m,d,s⟩
   ·rename_i he;rw[if_neg he];exact⟨a0,ms',A',C',e0,q,r,m,d,s⟩
  |_=>exact⟨a0,ms',A',C',e0,q,r,m,d,s⟩)
theorem VCM.mono {c:Code}{Q Q':Exit→aa→Prop}(h:VCM P W0 n c Q A)(hq: ∀e A,Q e A→Q' e A):VCM P W0 n c Q' A:=λw C a ms B hr hm hd hB=>
 wpIn_mono (h w C a ms B hr hm hd hB) λ_ _ _ ⟨a0,ms',A',C',e0,q,r,m,d,s⟩=>⟨a0,ms',A',C',e0,hq _ _ q,r,m,d,s⟩
theorem CX {fn:Func}{tmps:Array Value}{R:Ending→World→Prop}{B:Nat}: ∀(ms:List Deferred) (w:World) (C:Ctx),kU w C B ms→(ms.map (·.target)).Nodup→
  (∀w',(∀A a,bL P W0 n w C A a→W0.heap.size≤B→bL P W0 n w' C A a)→(∀w0 C0,Step w0 C0 w C→w0.heap.size≤B→Step w0 C0 w' C)→LeavesIn .wide 0 P fn tmps R [] .returning w')→LeavesInM .wide 0 P fn tmps R ms .returning w
 |[],w,C,_,_,h=>h w (λ_ _ h _=>h) (λ_ _ h _=>h)
 |d::ms,w,C,hm,hd,h=>by
  obtain⟨D,rfl,hB,hA⟩:=hm d (by simp)
  rw[List.map_cons,List.nodup_cons]at hd
  refine⟨by simp,.inl ⟨D,w.putObj D (.deferred none),rfl,run_takeDeferred hA.hp,CX ms _ C (λd hdm=>?_) hd.2 λw' h1 h2=>h w' (λA a hr hl=>h1 A a (hr.apart hA rfl (Nat.le_trans hl hB)) hl) (λw0 C0 hs hl=>h2 w0 C0 (hs.apart hA rfl (Nat.le_trans hl hB)) hl)⟩⟩
  obtain⟨D',rfl,hB',hA'⟩:=hm d (by simp[hdm])
  refine⟨D',rfl,hB',hA'.other λe=>hd.1 ?_⟩
  subst e
  exact List.mem_map.2 ⟨_,hdm,rfl⟩
theorem HZ {f : FuncId} {fn : Func} {c : Code} {args : List AV} {Q : AV → ab → Prop} {m : Nat} (ts : List ResultVar) (hf : P.funcs[f]? = some fn) (hb : fn.body = some c) (hnm : (fn.name == "runtime.NumGoroutine") = false)
  (hm:fn.ntmps=m) (hargs:Nat.ble args.length m=true) (hres:fn.results=ts.toArray)
  (h:(∀a∈args,Small a)→VCM P W0 m c (cW P (Hj ts σ Q)) ⟨ib args,σ⟩):bg P W0 f args σ Q:=by
 subst hm
 refine λw C vs hst hl hv=>?_
 have hsm: ∀a∈args,Small a:=dH λi x hx=>(hv i x _ hx (List.getElem?_eq_getElem (by rw[←hl];exact(List.getElem?_eq_some_iff.1 hx).1))).small
 have hr0:=kB (m:=fn.ntmps) hst hl hv (Nat.le_of_ble_eq_true hargs)
 refine .inl ⟨⟨fn,hf,by simp[hb],hnm⟩,(callsIn_wide (n:=0)).1 (callsIn_of_wp_marks hf hb trivial ?_)⟩
 have h0:=h hsm w C _ [] w.heap.size hr0 (λd hd=>by cases hd) (by simp) (Nat.le_refl _)
 rw[eB]at h0
 refine wpIn_mono h0 λe a' w' ⟨a0,ms',A',C',e0,q,r,mk,md,s⟩=>?_
 have fin:(∃B,kT P A' B∧Hj ts σ Q B)→LeavesInM .wide 0 P fn a'.tmps (λe w'=>∃ v r σ' C',e= .returned v∧Q r σ'∧aC P W0 w' C' σ'∧aI P w' C' r v∧Step w C w' C') a'.defers .returning w':=by
  rintro⟨B,g1,hc,r1,h2,_,h4⟩
  obtain⟨C'',k1,k2⟩:=r.N7 g1
  have ed:a'.defers=ms':=by rw[e0,more,r.defers];rfl
  have et:a'.tmps=a0.tmps:=by rw[e0];rfl
  rw[ed,et]
  refine CX (P:=P) (W0:=W0) (n:=fn.ntmps) (B:=w.heap.size) ms' w' C'' (mk.step k2) md λw3 g3 g4=>?_
  have r3:=g3 B a0 k1 hst.base.size
  obtain⟨v,q1,q2⟩:=kL r3 hres hc
  exact⟨v,q1,v,r1,B.st,C'',rfl,h4,r3.st,q2.cI h2,g4 w C (s.trans k2) (Nat.le_refl _)⟩
 cases e with
 |normal=>exact fin q
 |ret=>exact fin q
 |_=>exact q.elim
end
end Go.Av
end
section
namespace Go.Av
open Go Go.Sort
section
variable {P :Program}{W0 w:World}{C:Ctx}{σ:ab}
theorem aC.H6 {id:Nat}{te:TypeId}{xs ys:List AV}{fl:Array Value}{k n:Nat}{os:Array Obj}{b base room:Nat}(h:aC P W0 w C σ)(hs:σ[id]?=some (some (.cells te xs)))(hm:C.m id=some (.obj b te base room))
  (hk:af P te=k) (hl:ys.length=xs.length) (hfl:fl.size=xs.length*k)
  (hy: ∀(i:Nat) (y:AV),ys[i]?=some y→ ∃cs,Rel P w C y cs∧cs.length=k∧fits P te y∧ ∀(j:Nat) (c:Value),cs[j]?=some c→fl[i*k+j]?=some c):
  Step w C (grow (putRow (λv:Value=>v) (Sort.ahead w n) b base fl) os) C∧aC P W0 (grow (putRow (λv:Value=>v) (Sort.ahead w n) b base fl) os) C (σ.set id (some (.cells te ys))):=by
 obtain⟨b',base',room',arr,t',fr,m1,m2,mf,m3,m4,cf,m5⟩:=h.cells hs
 rw[hm]at m1
 cases m1
 have hbl:b<w.heap.size:=(Array.getElem?_eq_some_iff.1 m2).1
 have hidl:=(List.getElem?_eq_some_iff.1 hs).1
 obtain⟨w',hw'⟩: ∃w',w'=grow (putRow (λv:Value=>v) (Sort.ahead w n) b base fl) os:=⟨_,rfl⟩
 have hsz:(putRow (λv:Value=>v) (Sort.ahead w n) b base fl).heap.size=w.heap.size:=by simp[putRow,mapBlock,Sort.ahead]
 have hot: ∀j,j<w.heap.size→j≠b→w'.heap[j]?=w.heap[j]?:=λj hj hne=>by
  rw[hw',heap_grow_old _ _ (by rw[hsz];exact hj)]
  simp only[putRow,mapBlock,Sort.ahead]
  rw[Array.getElem?_modify,if_neg (Ne.symm hne)]
 have hat:w'.heap[b]?=some (.cells (putCells (λv:Value=>v) base fl arr) t' fr):=by
  rw[hw',heap_grow_old _ _ (by rw[hsz];exact hbl)]
  simp only[putRow,mapBlock,Sort.ahead]
  rw[Array.getElem?_modify,if_pos rfl,m2]
  rfl
 have hsize:w.heap.size≤w'.heap.size:=by rw[hw',size_grow,hsz];omega
 have hst:Step w C w' C:=⟨Nat.le_refl _,λ_ _ _ h=>h,λb0 o0 hs0=>by
  have hne:b0≠b:=λe=>by
   obtain⟨e1,hw,cap,e2,_⟩:=hs0.2 id _ hm (by rw[e];rfl)
   cases e2
  refine⟨?_,Nat.lt_of_lt_of_le hs0.1 hsize,hs0.2⟩
  unfold World.cell?
  simp only[hot b0 hs0.1 hne],by rw[hw'];rfl,by rw[hw'];rfl,by rw[hw'];rfl,hsize,λj hj hn=>⟨hot j hj λe=>hn id _ hm (by rw[e];rfl),hn⟩⟩
 rw[←hw']
 refine⟨hst,h.change hst h.low (by rw[h.nx];simp) h.inj h.dom λj=>?_⟩
 by_cases hj:j=id
 ·subst hj
  left
  rw[List.getElem?_set_self hidl,Option.join_some,hm]
  have hps:(putCells (λv:Value=>v) base fl arr).size=arr.size:=by simp[putCells]
  classical
  refine⟨rfl,_,t',fr,hat,by rw[hps];exact mf,by rw[hps];exact m3,by rw[hl];exact m4,λi=>(ys[i]?.bind λy=>if hex: ∃cs,Rel P w C y cs∧cs.length=k∧fits P te y∧ ∀(j:Nat) (c:Value),cs[j]?=some c→fl[i*k+j]?=some c then some (Classical.choose hex)else none).getD [],λi x hx=>?_⟩
  have hex:=hy i x hx
  simp only[hx,Option.bind_some,dif_pos hex,Option.getD_some]
  obtain⟨r1,r2,r3,r4⟩:=Classical.choose_spec hex
  refine⟨r1.mono hst,by rw[hk];exact r2,r3,λq c hq=>?_⟩
  have hflq:=r4 q c hq
  have hql:q<k:=by rw[←r2];exact(List.getElem?_eq_some_iff.1 hq).1
  have hlt:=(Array.getElem?_eq_some_iff.1 hflq).1
  have hin:base+i*k+q<arr.size:=by
   rw[m3]
   rw[hk]at m4
   rw[hfl]at hlt
   omega
  rw[hk]
  simp only[putCells,Array.getElem?_mapIdx]
  rw[Array.getElem?_eq_getElem hin]
  simp only[Option.map_some]
  rw[if_pos ⟨by omega,by omega⟩,show base+i*k+q-base=i*k+q by omega,getElem!_pos fl _ hlt,←(Array.getElem?_eq_some_iff.1 hflq).2]
 ·right
  refine⟨by rw[List.getElem?_set_ne (λe=>hj e.symm)],rfl,λow ho=>hot _ (h.lt ho) λe=>hj (h.inj j id _ _ ho hm (by rw[e];rfl))⟩
end
end Go.Av
end
