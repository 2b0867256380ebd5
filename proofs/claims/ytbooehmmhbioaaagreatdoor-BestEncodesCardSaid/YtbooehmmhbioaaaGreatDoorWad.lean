/- Texts that the last one of this claim rests on: a layer over the guide's own conditions for code; contracts of the functions that the law reaches, one by one. No conditions beside those of the given rows. -/
import Derived.IntWalk
import Derived.RangeFuncLeaves
import Derived.RangeFuncRecord
import Derived.Shelf.SlSortCmp.NoneTotal
import Derived.Test.YtbooehmmhbioaaaGreatDoorProg
import Derived.Test.YtbooehmmhbioaaaGreatDoorWac
set_option linter.unusedSimpArgs false
set_option linter.unusedVariables false
section
namespace Go.Av
open Go
theorem aE {n:Int}(h: -9223372036854775808≤n∧n≤9223372036854775807):IntKind.i64.wrap n=n:=by rw[IntKind.wrap_i64];omega
@[go_sem] theorem wrap_u8 (c:UInt8):IntKind.i64.wrap (c.toNat:Int)=c.toNat:=aE (by have:=c.toNat_lt;omega)
theorem xZ.of {fz:List Nat}{id:Nat}{ops:Array Oper}(h:zZ fz (eM fz id) ops (Cz [] ops.toList)=true):xZ fz id ops .mk:=h
@[go_sem] theorem Rx (n:Nat):(((n+1:Nat):Int)==0)=false:=by simp;omega
@[go_sem] theorem UA (n:Nat):((no_index (OfNat.ofNat n):Nat):Int)=(OfNat.ofNat n:Int):=rfl
@[go_sem] theorem TW (n:Nat)(h:n≤9223372036854775807):IntKind.i64.wrap (no_index (OfNat.ofNat n):Int)=(OfNat.ofNat n:Int):=aE (by
 have e:(OfNat.ofNat n:Int)=((n:Nat):Int):=rfl
 rw[e];omega)
theorem aq :maxLen=9223372036854775807:=rfl
theorem iV {i N:Nat}(h:i<N)(hN:N≤maxLen):IntKind.i64.wrap ((i:Int)+1)=((i+1:Nat):Int):=by
 rw[aq]at hN
 rw[aE (by omega)]
 omega
theorem ah {i N:Nat}(h:i<N)(hN:N≤maxLen):AV.int .i64 (IntKind.i64.wrap ((i:Int)+1))= .int .i64 ((i+1:Nat):Int):=by rw[iV h hN]
theorem cT {l:List UInt8}(h:Small (.str l)):l.length≤maxLen:=by cases h;assumption
theorem EJ {e:TypeId}{xs:List AV}(h:Small (.sl e xs)):xs.length≤maxLen∧ ∀x∈xs,Small x:=by cases h;exact⟨by assumption,by assumption⟩
theorem nb {t:TypeId}{fs:List AV}(h:Small (.agg t fs)): ∀x∈fs,Small x:=by cases h;assumption
theorem aH {α:Type}{f:α→AV}{e:TypeId}{l:List α}(h:Small (.sl e (l.map f))):l.length≤maxLen∧ ∀x∈l,Small (f x):=by
 obtain⟨h1,h2⟩:=EJ h
 exact⟨by simpa using h1,λx hx=>h2 _ (List.mem_map_of_mem hx)⟩
@[go_sem] theorem P7 {α:Type}(l:List α)(i:Nat):gp l i l.length=l.drop i:=by
 unfold gp
 rw[←List.length_drop,List.take_length]
@[go_sem] theorem QU {α:Type}(l:List α)(j:Nat):gp l 0 j=l.take j:=by simp[gp]
@[go_sem] theorem Nk {α:Type}(c:α)(r:List α):gp (c::r) 1 (r.length+1)=r:=by simp[gp]
@[go_sem] theorem VN :(([]:List UInt8)==[])=true:=rfl
@[go_sem] theorem UJ (c:UInt8)(r:List UInt8):((c::r:List UInt8)==[])=false:=rfl
@[go_sem] theorem KS (c:UInt8)(r:List UInt8):(([]:List UInt8)==c::r)=false:=rfl
attribute [go_sem] List.drop_succ_cons List.drop_zero List.length_cons List.length_nil true_implies false_implies Bool.false_eq_true Bool.true_eq_false
@[go_sem] theorem Sl (n:Nat):(0<n+1)=True:=eq_true (Nat.succ_pos n)
@[go_sem] theorem Lg (n:Nat):(1≤n+1)=True:=eq_true (Nat.succ_pos n)
attribute [go_sem] Nat.le_refl not_true_eq_false not_false_eq_true
@[go_sem] theorem I7 (n:Nat):(n<0)=False:=eq_false (Nat.not_lt_zero n)
theorem FZ {l:List UInt8}{i:Nat}{f:UInt8→Bool}:(decide (i<l.length)&&f (l[i]?.getD 0))=true↔ ∃c,l[i]?=some c∧f c=true:=by
 cases h:l[i]? with
 |none=>have:=List.getElem?_eq_none_iff.1 h;simp;omega
 |some c=>have:=(List.getElem?_eq_some_iff.1 h).1;simp[this]
theorem xQ {l:List UInt8}{i:Nat}{f:UInt8→Bool}:(decide (i<l.length)&&f (l[i]?.getD 0))=false↔ ∀c,l[i]?=some c→f c=false:=by
 cases h:l[i]? with
 |none=>have:=List.getElem?_eq_none_iff.1 h;simp;omega
 |some c=>have:=(List.getElem?_eq_some_iff.1 h).1;simp[this]
theorem xx (σ l:ab)(k:Nat):(σ++l)[σ.length+k]?=l[k]?:=by rw[List.getElem?_append_right (by omega)];congr 1;omega
@[go_sem] theorem E3 (σ l:ab)(k i:Nat)(path:List Nat):look (σ++l) (σ.length+k) i path=look l k i path:=by simp only[look,xx]
@[go_sem] theorem Pe (σ l:ab)(i:Nat)(path:List Nat):look (σ++l) σ.length i path=look l 0 i path:=E3 σ l 0 i path
@[go_sem] theorem Q3 (t:TypeId)(xs:List AV)(l:ab)(i:Nat)(path:List Nat):look (some (.cells t xs)::l) 0 i path=(xs[i]?).bind (·.at path):=rfl
@[go_sem] theorem RO (o:Option cX)(l:ab)(k i:Nat)(path:List Nat):look (o::l) (k+1) i path=look l k i path:=rfl
@[go_sem] theorem T0 (σ l:ab):(σ++l)[σ.length]?=l[0]?:=xx σ l 0
theorem mj {s:List UInt8}{pos:Nat}{c:UInt8}(h:s[pos]?=some c)(hc:c.toNat<128):gu s pos=(c.toNat,1):=by
 obtain⟨hi,he⟩:=List.getElem?_eq_some_iff.1 h
 have h0:((⟨s.toArray⟩:ByteArray).get! (pos+0))=c:=by
  show s.toArray[pos+0]! =c
  simp[hi,he]
 unfold gu Utf8.decode
 simp only[h0]
 rw[if_pos hc]
theorem p8 {s:List UInt8}{pos:Nat}{c:UInt8}(h:s[pos]?=some c)(hc:128≤c.toNat):128≤(gu s pos).1:=by
 obtain⟨hi,he⟩:=List.getElem?_eq_some_iff.1 h
 have h0:((⟨s.toArray⟩:ByteArray).get! (pos+0))=c:=by
  show s.toArray[pos+0]! =c
  simp[hi,he]
 unfold gu Utf8.decode
 simp only[h0]
 rw[if_neg (by omega)]
 repeat' split
 all_goals first|(simp[Utf8.runeError];done)|skip
 all_goals simp_all
 all_goals omega
theorem sy (σ l:ab)(k:Nat)(o:Option cX):(σ++l).set (σ.length+k) o=σ++l.set k o:=by
 rw[List.set_append_right _ _ (by omega)];congr 2;omega
@[go_sem] theorem WH (σ l:ab)(k:Nat)(o:Option cX):(σ++l).set (σ.length+k) o=σ++l.set k o:=sy σ l k o
@[go_sem] theorem Sn (σ l:ab)(o:Option cX):(σ++l).set σ.length o=σ++l.set 0 o:=sy σ l 0 o
@[go_sem] theorem zA (σ l:ab)(k i:Nat)(path:List Nat)(v:AV):de (σ++l) (σ.length+k) i path v=σ++de l k i path v:=by
 unfold de
 rw[xx]
 split
 ·exact sy ..
 ·rfl
@[go_sem] theorem La (σ l:ab)(i:Nat)(path:List Nat)(v:AV):de (σ++l) σ.length i path v=σ++de l 0 i path v:=zA σ l 0 i path v
@[go_sem] theorem Jl (t:TypeId)(xs:List AV)(l:ab)(i:Nat)(path:List Nat)(v:AV):de (some (.cells t xs)::l) 0 i path v=some (.cells t (xs.set i ((xs[i]?.getD .undef).setAt path v)))::l:=rfl
@[go_sem] theorem Jg (o:Option cX)(l:ab)(k i:Nat)(path:List Nat)(v:AV):de (o::l) (k+1) i path v=o::de l k i path v:=by
 show(match l[k]? with|some (some (.cells te xs))=>(o::l).set (k+1) (some (.cells te (xs.set i ((xs[i]?.getD .undef).setAt path v))))|_=>o::l)=_
 unfold de
 split<;>simp_all
@[go_sem] theorem Xw (v:AV):v.at []=some v:=by cases v<;>rfl
@[go_sem] theorem V9 (t:TypeId)(fs:List AV)(k:Nat)(r:List Nat):(AV.agg t fs).at (k::r)=(fs[k]?).bind (·.at r):=rfl
@[go_sem] theorem Rl (v u:AV):v.setAt [] u=u:=by cases v<;>rfl
attribute [go_sem] List.length_append List.append_assoc List.cons_append List.nil_append
def Ext (σ st:ab):Prop:=st.take σ.length=σ
theorem Ext.refl (σ:ab):Ext σ σ:=List.take_length
theorem Ext.le {σ st:ab}(h:Ext σ st):σ.length≤st.length:=by
 have:=congrArg List.length h
 rw[List.length_take]at this
 omega
theorem Ext.app {σ st:ab}(h:Ext σ st)(l:ab):Ext σ (st++l):=by
 unfold Ext
 rw[List.take_append_of_le_length h.le]
 exact h
theorem Ext.set {σ st:ab}(h:Ext σ st){id:Nat}(hid:σ.length≤id)(o:Option cX):Ext σ (st.set id o):=by
 unfold Ext
 rw[List.take_set_of_le hid]
 exact h
@[go_sem] theorem TQ (σ l:ab):(σ++l).take σ.length=σ:=List.take_left
theorem ai {a b:Bool}(h:a=b):cR (.bool a) (.bool b):=by rw[h];exact .refl _
theorem ar {k:IntKind}{a b:Int}(h:a=b):cR (.int k a) (.int k b):=by rw[h];exact .refl _
theorem fj {a b:List UInt8}(h:a=b):cR (.str a) (.str b):=by rw[h];exact .refl _
def cJ :AV→Prop| .maybe _ _=>False|_=>True
theorem bR {gd:Option Bool}{x:AV}(h:cJ x):okM gd x=True:=by cases x<;>first|exact h.elim|exact eq_true trivial
theorem cp {x:AV}(h:cJ x):unm x=x:=by cases x<;>first|exact h.elim|rfl
theorem av {α:Type}{f:α→AV}{l:List α}{i:Nat}{a:α}(h:l[i]?=some a):atV (l.map f) (i:Int)=f a:=by
 simp only[atV,Int.toNat_natCast,List.getElem?_map,h,Option.map_some,Option.getD_some]
theorem get_some {α:Type}{l:List α}{i:Nat}(h:i<l.length): ∃x,l[i]?=some x:=⟨_,List.getElem?_eq_getElem h⟩
theorem aj {α:Type}{l:List α}{i:Nat}{x:α}(h:l[i]?=some x):l.take (i+1)=l.take i++[x]:=by
 rw[List.take_add_one,h];rfl
theorem all_false {α:Type}{f:α→Bool}{l:List α}{i:Nat}{x:α}(h:l[i]?=some x)(hf:f x=false):l.all f=false:=by
 rw[List.all_eq_false];exact⟨x,List.mem_of_getElem? h,by simp[hf]⟩
theorem any_true {α:Type}{f:α→Bool}{l:List α}{i:Nat}{x:α}(h:l[i]?=some x)(hf:f x=true):l.any f=true:=by
 rw[List.any_eq_true];exact⟨x,List.mem_of_getElem? h,hf⟩
end Go.Av
end
section
namespace Go.Proofs.Tryz
open Go Go.Av
@[go_sem] theorem Qd :prog.follows .mixedOrders=true∧af prog 3=1∧cD prog 3=true∧iQ prog 3=some .i64∧bw prog 3=true∧zeroOf prog 3=some (.int .i64 0)∧af prog 4=1∧cD prog 4=true∧iN prog 4=true∧bw prog 4=true∧zeroOf prog 4=some (.bool false)∧iQ prog 5=some .u8:=by and_intros<;>kernel_rfl
@[go_sem] theorem Xn :l0 prog 9=true∧af prog 9=1∧cD prog 9=true∧cc prog 9=true∧iQ prog 9=none∧bw prog 9=true∧iQ prog 21=some .i32∧cD prog 22=true∧elT prog 22=some 54∧zeroOf prog 22=some .az∧cD prog 23=true∧elT prog 23=some 56:=by and_intros<;>kernel_rfl
@[go_sem] theorem VZ :elT prog 24=some 83∧cD prog 28=true∧eN prog 28=true∧cD prog 33=true∧elT prog 33=some 37∧af prog 37=1∧elT prog 37=some 3∧bw prog 37=true∧bp prog 39=some [3,3,3,3,3]∧zeroOf prog 39=some (.agg 39 [(.int .i64 0),(.int .i64 0),(.int .i64 0),(.int .i64 0),(.int .i64 0)])∧dj prog 39=true∧c9 prog 39=[(.int .i64 0),(.int .i64 0),(.int .i64 0),(.int .i64 0),(.int .i64 0)]:=by and_intros<;>kernel_rfl
@[go_sem] theorem V6 :af prog 50=1∧cD prog 50=true∧elT prog 50=some 72∧bw prog 50=true∧cD prog 51=true∧elT prog 51=some 81∧cD prog 52=true∧elT prog 52=some 147∧af prog 54=9∧bs prog 54=true∧bw prog 54=true∧bp prog 54=some [9,9,50,50,50,51,51,52,4]:=by and_intros<;>kernel_rfl
@[go_sem] theorem VF :zeroOf prog 54=some (.agg 54 [(.str []),(.str []),.az,.az,.az,.az,.az,.az,(.bool false)])∧dj prog 54=true∧c9 prog 54=[(.str []),(.str []),.az,.az,.az,.az,.az,.az,(.bool false)]∧af prog 56=11∧bs prog 56=true∧bw prog 56=true∧bp prog 56=some [54,4,4]∧zeroOf prog 56=some (.agg 56 [(.agg 54 [(.str []),(.str []),.az,.az,.az,.az,.az,.az,(.bool false)]),(.bool false),(.bool false)])∧dj prog 56=true∧c9 prog 56=[(.agg 54 [(.str []),(.str []),.az,.az,.az,.az,.az,.az,(.bool false)]),(.bool false),(.bool false)]∧elT prog 58=some 9∧iQ prog 63=some .u64:=by and_intros<;>kernel_rfl
@[go_sem] theorem Wm :cD prog 66=true∧elT prog 66=some 4∧eN prog 67=true∧ig prog 71=some 50∧bp prog 71=some [50,50]∧dj prog 71=true∧c9 prog 71=[.az,.az]∧af prog 72=1∧cD prog 72=true∧elT prog 72=some 81∧bw prog 72=true∧af prog 81=3:=by and_intros<;>kernel_rfl
@[go_sem] theorem V1 :bs prog 81=true∧bw prog 81=true∧bp prog 81=some [9,3,9]∧zeroOf prog 81=some (.agg 81 [(.str []),(.int .i64 0),(.str [])])∧dj prog 81=true∧c9 prog 81=[(.str []),(.int .i64 0),(.str [])]∧af prog 83=3∧bs prog 83=true∧bw prog 83=true∧bp prog 83=some [3,9,9]∧zeroOf prog 83=some (.agg 83 [(.int .i64 0),(.str []),(.str [])])∧dj prog 83=true:=by and_intros<;>kernel_rfl
@[go_sem] theorem VK :c9 prog 83=[(.int .i64 0),(.str []),(.str [])]∧eN prog 86=true∧cD prog 92=true∧elT prog 92=some 102∧cD prog 93=true∧elT prog 93=some 100∧cD prog 94=true∧elT prog 94=some 116∧bs prog 96=true∧bp prog 96=some [22,23,24,33,66,92,93,4,4,3,3,4,94]∧dj prog 96=true∧c9 prog 96=[.az,.az,.az,.az,.az,.az,.az,(.bool false),(.bool false),(.int .i64 0),(.int .i64 0),(.bool false),.az]:=by and_intros<;>kernel_rfl
@[go_sem] theorem UR :af prog 100=1∧cD prog 100=true∧bw prog 100=true∧zeroOf prog 100=some (.int .u32 0)∧af prog 102=6∧bs prog 102=true∧bw prog 102=true∧bp prog 102=some [4,100,93,93,3,4]∧zeroOf prog 102=some (.agg 102 [(.bool false),(.int .u32 0),.az,.az,(.int .i64 0),(.bool false)])∧dj prog 102=true∧c9 prog 102=[(.bool false),(.int .u32 0),.az,.az,(.int .i64 0),(.bool false)]∧af prog 116=6:=by and_intros<;>kernel_rfl
@[go_sem] theorem S3 :bs prog 116=true∧bw prog 116=true∧bp prog 116=some [100,39]∧zeroOf prog 116=some (.agg 116 [(.int .u32 0),(.agg 39 [(.int .i64 0),(.int .i64 0),(.int .i64 0),(.int .i64 0),(.int .i64 0)])])∧dj prog 116=true∧c9 prog 116=[(.int .u32 0),(.agg 39 [(.int .i64 0),(.int .i64 0),(.int .i64 0),(.int .i64 0),(.int .i64 0)])]∧ig prog 118=some 50∧bp prog 118=some [50,50,50]∧dj prog 118=true∧c9 prog 118=[.az,.az,.az]∧cD prog 130=true∧eN prog 130=true:=by and_intros<;>kernel_rfl
@[go_sem] theorem Ve :bs prog 133=true∧bp prog 133=some [3,130]∧dj prog 133=true∧c9 prog 133=[(.int .i64 0),.nil]∧af prog 135=1∧cD prog 135=true∧iQ prog 135=some .i64∧bw prog 135=true∧af prog 136=1∧cD prog 136=true∧elT prog 136=some 135∧bw prog 136=true:=by and_intros<;>kernel_rfl
@[go_sem] theorem Tg :af prog 147=2∧bs prog 147=true∧bw prog 147=true∧bp prog 147=some [9,9]∧zeroOf prog 147=some (.agg 147 [(.str []),(.str [])])∧bs prog 149=true∧bp prog 149=some [22]∧dj prog 149=true∧c9 prog 149=[.az]∧af prog 171=3∧bs prog 171=true∧bw prog 171=true:=by and_intros<;>kernel_rfl
@[go_sem] theorem TB :bp prog 171=some [3,100,100]∧zeroOf prog 171=some (.agg 171 [(.int .i64 0),(.int .u32 0),(.int .u32 0)])∧dj prog 171=true∧c9 prog 171=[(.int .i64 0),(.int .u32 0),(.int .u32 0)]∧elT prog 172=some 171∧ig prog 184=some 50∧bp prog 184=some [50,50,50,50,50,50]∧dj prog 184=true∧c9 prog 184=[.az,.az,.az,.az,.az,.az]∧ig prog 186=some 9∧bp prog 186=some [9,9]∧zeroOf prog 186=some (.agg 186 [(.str []),(.str [])]):=by and_intros<;>kernel_rfl
@[go_sem] theorem UC :dj prog 186=true∧c9 prog 186=[(.str []),(.str [])]∧ig prog 187=some 186∧bp prog 187=some [186,186,186]∧dj prog 187=true∧c9 prog 187=[(.agg 186 [(.str []),(.str [])]),(.agg 186 [(.str []),(.str [])]),(.agg 186 [(.str []),(.str [])])]∧cD prog 189=true∧elT prog 189=some 136∧bs prog 191=true∧bp prog 191=some [3,189]∧dj prog 191=true∧c9 prog 191=[(.int .i64 0),.az]:=by and_intros<;>kernel_rfl
@[go_sem] theorem Tq :elT prog 192=some 50∧bs prog 205=true∧bp prog 205=some [9,4,4]∧zeroOf prog 205=some (.agg 205 [(.str []),(.bool false),(.bool false)])∧dj prog 205=true∧c9 prog 205=[(.str []),(.bool false),(.bool false)]∧ig prog 226=some 51∧bp prog 226=some [51,51]∧dj prog 226=true∧c9 prog 226=[.az,.az]∧bs prog 269=true∧bp prog 269=some [9,9]:=by and_intros<;>kernel_rfl
@[go_sem] theorem TJ :dj prog 269=true∧c9 prog 269=[(.str []),(.str [])]:=by and_intros<;>kernel_rfl
end Go.Proofs.Tryz
end
section
namespace Go.Av
open Go
section
variable {P :Program}{W0 w w':World}{C C':Ctx}{σ σ':ab}{n:Nat}{A:aa}{a:Act}
theorem aB.uV (h:aB P W0 w C σ){te t:TypeId}{id0 i id o:Nat}{path:List Nat}{zs:List AV}{z u u':AV}(h0:σ[id0]?=some (some (.cells te zs)))(hz:zs[i]?=some z)(hp:z.at path=some u)
  (hid:id<σ.length) (hne:id≠id0) (hpl:place P te path=some (t,o)) (h1:u.aX=true) (h2:u'.aX=true) (hfz: ∀v,aF P w C u v→aF P w (C.kill id) u' v):
  aB P W0 w (C.kill id) ((σ.set id none).set id0 (some (.cells te (zs.set i (z.setAt path u'))))):=by
 obtain⟨k1,k2⟩:=h.kill id hid
 obtain⟨b,base,room,arr,t',fr,m1,m2,mf,m3,m4,cf,m5⟩:=h.cells h0
 obtain⟨r1,r2,r3,r4⟩:=m5 i z hz
 obtain⟨c,g1,g2,g3,g4⟩:=xy path te t o z _ (cf i) r1 r3 hpl hp
 obtain⟨v,rfl⟩:=g1.one_cell h1
 have hfz1:=(hfz v (.one h1 g1)).aP h2
 have hft:fits P t u':=by
  have:cD P t=true:=by cases u<;>first|exact g2.2|cases h1
  cases u'<;>first|exact⟨rfl,this⟩|cases h2
 obtain⟨q1,q2,q3⟩:=p0 path te t o z _ _ (cf i) [v] (r1.mono k1) r3 hpl hp hfz1 hft
 have hsp:(bz (cf i).toArray o [v]).toList=cf i:=by
  refine List.ext_getElem? λp=>?_
  rw[Array.getElem?_toList,bC (by simpa using q1)]
  split
  ·rename_i hpr
   have hp0:p-o=0:=by simp at hpr;omega
   have hpo:p=o:=by simp at hpr;omega
   rw[hp0,hpo]
   exact(g4 0 v rfl).symm
  ·simp
 rw[hsp]at q2
 have hid0l:id0<σ.length:=(List.getElem?_eq_some_iff.1 h0).1
 refine k2.change (Step.refl _ _) k2.low (by rw[k2.nx];simp) k2.inj k2.dom λj=>?_
 by_cases hj:j=id0
 ·subst hj
  left
  rw[List.getElem?_set_self (by simpa using hid0l),Option.join_some,nu,if_neg (λe=>hne e.symm),m1]
  refine⟨rfl,arr,t',fr,m2,mf,m3,by simpa using m4,cf,λp x hx=>?_⟩
  rw[List.getElem?_set]at hx
  split at hx
  ·rename_i hpi
   split at hx
   ·cases hx
    subst hpi
    exact⟨q2,r2,q3,r4⟩
   ·cases hx
  ·obtain⟨s1,s2,s3,s4⟩:=m5 p x hx
   exact⟨s1.mono k1,s2,s3,s4⟩
 ·right
  refine⟨by rw[List.getElem?_set_ne (λe=>hj e.symm)],rfl,λow hm=>rfl⟩
theorem aB.yL (h:aB P W0 w C σ){te e te' t:TypeId}{id0 i id off m o:Nat}{path:List Nat}{zs xs:List AV}{z:AV}(h0:σ[id0]?=some (some (.cells te zs)))(hz:zs[i]?=some z)(hp:z.at path=some (.row e id off m))
  (hs:σ[id]?=some (some (.cells te' xs))) (hm:off+m≤xs.length) (hne:id≠id0) (hpl:place P te path=some (t,o)):
  aB P W0 w (C.kill id) ((σ.set id none).set id0 (some (.cells te (zs.set i (z.setAt path (.sl e ((xs.drop off).take m))))))):=
 h.uV h0 hz hp (List.getElem?_eq_some_iff.1 hs).1 hne hpl rfl rfl λ_ hv=>nS h hv hs hm
inductive kZ (P:Program):aa→aa→Prop
 |refl (D:aa):kZ P D D
 |row {D B:aa} (d:Nat) {e te:TypeId} {id off m:Nat} {xs:List AV}:D.env d= .row e id off m→D.st[id]?=some (some (.cells te xs))→off+m≤xs.length→kZ P ((D.upd d (.sl e ((xs.drop off).take m))).an (D.st.set id none)) B→kZ P D B
 |cell {D B:aa} {te e te' t:TypeId} (id0 i:Nat) (path:List Nat) {id off m o:Nat} {zs xs:List AV} {z:AV}:D.st[id0]?=some (some (.cells te zs))→zs[i]?=some z→z.at path=some (.row e id off m)→D.st[id]?=some (some (.cells te' xs))→off+m≤xs.length→id≠id0→place P te path=some (t,o)→
   kZ P (D.an ((D.st.set id none).set id0 (some (.cells te (zs.set i (z.setAt path (.sl e ((xs.drop off).take m)))))))) B→kZ P D B
 |CW {D B:aa} {te t' t:TypeId} (id0 i:Nat) (path:List Nat) {id o:Nat} {zs:List AV} {z x:AV}:D.st[id0]?=some (some (.cells te zs))→zs[i]?=some z→z.at path=some (.ptr t' id 0 [])→D.st[id]?=some (some (.cells t' [x]))→id≠id0→place P te path=some (t,o)→
   kZ P (D.an ((D.st.set id none).set id0 (some (.cells te (zs.set i (z.setAt path (.loc t' x))))))) B→kZ P D B
 |pt {D B:aa} (d:Nat) {t:TypeId} {id:Nat} {x:AV}:D.env d= .ptr t id 0 []→D.st[id]?=some (some (.cells t [x]))→kZ P ((D.upd d (.loc t x)).an (D.st.set id none)) B→kZ P D B
 |bZ {D B:aa} {te:TypeId} (id0 i:Nat) {zs:List AV} {z z':AV}:D.st[id0]?=some (some (.cells te zs))→zs[i]?=some z→Sub z z'→kZ P (D.an (D.st.set id0 (some (.cells te (zs.set i z'))))) B→kZ P D B
theorem aB.D8 (h:aB P W0 w C σ){te:TypeId}{id0 i:Nat}{zs:List AV}{z z':AV}(h0:σ[id0]?=some (some (.cells te zs)))(hz:zs[i]?=some z)(hs:Sub z z'):
  aB P W0 w C (σ.set id0 (some (.cells te (zs.set i z')))):=by
 obtain⟨b,base,room,arr,t',fr,m1,m2,mf,m3,m4,cf,m5⟩:=h.cells h0
 have hid0l:id0<σ.length:=(List.getElem?_eq_some_iff.1 h0).1
 refine h.change (Step.refl _ _) h.low (by rw[h.nx];simp) h.inj h.dom λj=>?_
 by_cases hj:j=id0
 ·subst hj
  left
  rw[List.getElem?_set_self hid0l,Option.join_some,m1]
  refine⟨rfl,arr,t',fr,m2,mf,m3,by simpa using m4,cf,λp x hx=>?_⟩
  rw[List.getElem?_set]at hx
  split at hx
  ·rename_i hpi
   split at hx
   ·cases hx
    subst hpi
    obtain⟨r1,r2,r3,r4⟩:=m5 i z hz
    exact⟨r1.sub hs,r2,hs.fits _ r3,r4⟩
   ·cases hx
  ·exact m5 p x hx
 ·right
  exact⟨by rw[List.getElem?_set_ne (λe=>hj e.symm)],rfl,λow hm=>rfl⟩
theorem bI.My {B:aa}(hf:kZ P A B): ∀{C:Ctx},bI P W0 n w C A a→ ∃C',bI P W0 n w C' B a∧Step w C w C':=by
 induction hf with
 |refl A=>exact λh=>⟨_,h,.refl _ _⟩
 |row d h1 h2 h3 _ ih=>
  intro C h
  have hv:=h.env d
  rw[h1]at hv
  have hfr:=nS h.st hv h2 h3
  obtain⟨k1,k2⟩:=h.st.kill _ (List.getElem?_eq_some_iff.1 h2).1
  have hr1:=h.step k1 k2
  have hr2:bI P W0 n w (C.kill _) ((aa.upd _ d (.sl _ _)).an (List.set _ _ none)) a:=⟨λj=>by
   by_cases hj:j=d
   ·subst hj;simpa[aa.upd,aa.an]using hfr
   ·have:=hr1.env j;simpa[aa.upd,aa.an,hj]using this,hr1.defers,hr1.size,hr1.st⟩
  obtain⟨C',g1,g2⟩:=ih hr2
  exact⟨C',g1,k1.trans g2⟩
 |cell id0 i path h1 h2 h3 h4 h5 h6 h7 _ ih=>
  intro C h
  obtain⟨k1,k2⟩:=h.st.kill _ (List.getElem?_eq_some_iff.1 h4).1
  have hr1:=h.step k1 (h.st.yL h1 h2 h3 h4 h5 h6 h7)
  obtain⟨C',g1,g2⟩:=ih hr1
  exact⟨C',g1,k1.trans g2⟩
 |CW id0 i path h1 h2 h3 h4 h5 h6 _ ih=>
  intro C h
  have hidl:=(List.getElem?_eq_some_iff.1 h4).1
  obtain⟨k1,k2⟩:=h.st.kill _ hidl
  have hr1:=h.step k1 (h.st.uV h1 h2 h3 hidl h5 h6 rfl rfl λ_ hv=>kV h.st hv h4 (i:=0) rfl)
  obtain⟨C',g1,g2⟩:=ih hr1
  exact⟨C',g1,k1.trans g2⟩
 |pt d h1 h2 _ ih=>
  intro C h
  have hv:=h.env d
  rw[h1]at hv
  have hfr:=kV h.st hv h2 (i:=0) rfl
  obtain⟨k1,k2⟩:=h.st.kill _ (List.getElem?_eq_some_iff.1 h2).1
  have hr1:=h.step k1 k2
  have hr2:bI P W0 n w (C.kill _) ((aa.upd _ d (.loc _ _)).an (List.set _ _ none)) a:=⟨λj=>by
   by_cases hj:j=d
   ·subst hj;simpa[aa.upd,aa.an]using hfr
   ·have:=hr1.env j;simpa[aa.upd,aa.an,hj]using this,hr1.defers,hr1.size,hr1.st⟩
  obtain⟨C',g1,g2⟩:=ih hr2
  exact⟨C',g1,k1.trans g2⟩
 |bZ id0 i h1 h2 h3 _ ih=>
  intro C h
  have hr1:=h.step (.refl _ _) (h.st.D8 h1 h2 h3)
  exact ih hr1
def ji (A:aa):ResultVar→AV
 | .tmp t=>A.env t
 | .cell a _=>qT A.st (A.env a)
def tA (A:aa):ResultVar→Prop
 | .tmp _=>True
 | .cell a t=>qS none A.st t (A.env a)
def ry (A:aa):List ResultVar→AV
 |[t]=>ji A t
 |ts=>.tup (ts.map (ji A))
def lg (A:aa):List ResultVar→Prop
 |[]=>True
 |t::r=>tA A t∧lg A r
def Gq (a:Act):ResultVar→Sem Value
 | .tmp t=>pure (a.tmps.getD t undef)
 | .cell a' ty=>do loadVar ty (←asAddr (a.tmps.getD a' undef))
theorem G1 (hr:bI P W0 n w C A a)(t:ResultVar)(hc:tA A t): ∃v,(Gq a t).run P w= .ok v w∧aF P w C (ji A t) v:=by
 cases t with
 |tmp t=>exact⟨_,rfl,hr.env t⟩
 |cell d ty=>
  have hd:=hr.env d
  simp only[tA]at hc
  simp only[ji]
  cases hv:A.env d with
  |loc ty' v=>
   rw[hv]at hc hd
   obtain rfl:ty'=ty:=hc
   obtain⟨b,o,cs,e,h1,h2,h3,h4⟩:=hd.pc
   rw[Gq,e]
   obtain⟨x,g1,g2⟩:=fq (w:=w) (off:=o) h1 h2 (λj c hj=>(h4 j c hj).1)
   exact⟨x,by simpa only[Sem.run_bind,asAddr,Sem.run_pure,Result.andThen_ok]using g1,g2⟩
  |ptr ty' id i path=>
   rw[hv]at hc hd
   obtain⟨rfl,hl⟩:=hc
   obtain⟨x,hx⟩:=Option.isSome_iff_exists.1 (show(look A.st id i path).isSome=true from hl)
   obtain⟨te,xs,z,h1,h2,h3⟩:=pB hx
   obtain⟨ad,e0,_,hm⟩:=hd.mH
   rw[Gq,e0]
   obtain⟨b,base,room,arr,t',fr,m1,m2,mf,m3,m4,cf,m5⟩:=hr.st.cells h1
   obtain⟨b',te',base',room',off,e1,e2,e3⟩:=hm _ m1
   cases e1
   subst e3
   obtain⟨r1,r2,r3,r4⟩:=m5 i z h2
   obtain⟨c,g1,g2,g3,g4⟩:=xy path te _ off z x (cf i) r1 r3 e2 h3
   obtain⟨y,q1,q2⟩:=fq (w:=w) (b:=b) (off:=base+i*af P te+off) g1 g2 (λj c' hj=>by
    have:=r4 _ _ (g4 j c' hj)
    rw[Nat.add_assoc]
    simp[World.cell?,m2,←Nat.add_assoc]at this ⊢
    exact this)
   refine⟨y,?_,by simp only[qT,hx,Option.getD_some];exact q2⟩
   simpa only[Sem.run_bind,asAddr,Sem.run_pure,Result.andThen_ok]using q1
  |_=>rw[hv]at hc;exact hc.elim
theorem zY {F:ResultVar→Sem Value}(hr:bI P W0 n w C A a)(hF: ∀t,tA A t→ ∃v,(F t).run P w= .ok v w∧aF P w C (ji A t) v): ∀ts:List ResultVar,lg A ts→ ∃vs:List Value,(ts.mapM F).run P w= .ok vs w∧vs.length=ts.length∧ ∀(i:Nat) (t:ResultVar) (v:Value),ts[i]?=some t→vs[i]?=some v→aF P w C (ji A t) v
 |[],_=>⟨[],rfl,rfl,by simp⟩
 |t::ts,hc=>by
  obtain⟨v,h1,h2⟩:=hF t hc.1
  obtain⟨vs,g1,g2,g3⟩:=zY hr hF ts hc.2
  refine⟨v::vs,?_,by simp[g2],λi t' v' ht hv=>?_⟩
  ·rw[List.mapM_cons]
   simp only[Sem.run_bind,h1,Result.andThen_ok,g1,Sem.run_pure]
  ·cases i with
   |zero=>simp at ht hv;subst ht hv;exact h2
   |succ i=>exact g3 i t' v' (by simpa using ht) (by simpa using hv)
theorem kJ {fn:Func}{ts:List ResultVar}(hr:bI P W0 n w C A a)(h:fn.results=ts.toArray)(hc:lg A ts): ∃v,(results fn a.tmps).run P w= .ok v w∧aF P w C (ry A ts) v:=by
 obtain⟨vs,g1,g2,g3⟩:=zY (F:=Gq a) hr (λt ht=>G1 hr t ht) ts hc
 have hm:(results fn a.tmps).run P w= .ok (if h:vs.toArray.size=1 then vs.toArray[0]else .tuple vs.toArray) w:=by
  have e:results fn a.tmps=(do
    let vs ←fn.results.mapM (Gq a)
    pure (if h:vs.size=1 then vs[0]else .tuple vs)):=by
   unfold results
   congr 2
  rw[e,h,Array.mapM_eq_mapM_toList]
  simp only[Sem.run_bind,Sem.run_map]
  rw[g1]
  rfl
 match ts,vs,hm,g2,g3 with
 |[],[],hm,_,_=>exact⟨_,hm,.tup (vs:=[]) rfl (by simp)⟩
 |[t],[v],hm,_,g3=>exact⟨_,hm,g3 0 t v rfl rfl⟩
 |t::u::ts,v::v'::vs,hm,g2,g3=>
  refine⟨_,hm,?_⟩
  rw[dif_neg (by simp)]
  refine .tup (by simpa using g2.symm) (λi x v hx hv=>?_)
  rw[List.getElem?_map,Option.map_eq_some_iff]at hx
  obtain⟨q,hq,rfl⟩:=hx
  exact g3 i q v hq hv
def cI (P:Program)(R:aa→Prop):Exit→aa→Prop
 | .normal,A| .ret,A=>∃ A',kZ P A A'∧R A'
 |_,_=>False
theorem cI.ret {R:aa→Prop}(h:R A):cI P R .ret A:=⟨A,.refl A,h⟩
theorem cI.normal {R:aa→Prop}(h:R A):cI P R .normal A:=⟨A,.refl A,h⟩
theorem cI.via {R:aa→Prop}{x:Exit}{B:aa}(hx:x= .ret∨x= .normal)(hf:kZ P A B)(h:R B):cI P R x A:=by
 rcases hx with rfl|rfl
 ·exact⟨B,hf,h⟩
 ·exact⟨B,hf,h⟩
theorem cI.vc {R:aa→Prop}{c:Code}(h:VC P W0 n c (cI P R) A):VC P W0 n c (λe A'=>(e= .normal∨e= .ret)∧R A') A:=λw C a hr=>
 gU (h w C a hr) λe a' w' ⟨A',C',q,r,s⟩=>by
  cases e with
  |normal=>obtain⟨B,g1,g2⟩:=q;obtain⟨C'',h1,h2⟩:=r.My g1;exact⟨B,C'',⟨.inl rfl,g2⟩,h1,s.trans h2⟩
  |ret=>obtain⟨B,g1,g2⟩:=q;obtain⟨C'',h1,h2⟩:=r.My g1;exact⟨B,C'',⟨.inr rfl,g2⟩,h1,s.trans h2⟩
  |_=>exact q.elim
def EY (ts:List ResultVar)(σ:ab)(Q:AV→ab→Prop)(A:aa):Prop:=lg A ts∧ ∃r,cR (ry A ts) r∧σ.length≤A.st.length∧Q r A.st
theorem jw {f : FuncId} {fn : Func} {c : Code} {args : List AV} {Q : AV → ab → Prop} {m : Nat} (ts : List ResultVar) (fz : List Nat) (hf : P.funcs[f]? = some fn) (hb : fn.body = some c) (hnm : (fn.name == "runtime.NumGoroutine") = false)
  (hm:fn.ntmps=m) (hargs:Nat.ble args.length m=true) (hres:fn.results=ts.toArray)
  (h:(∀a∈args,Small a)→cVC P W0 m fz c (cI P (EY ts σ Q)) ⟨gY args,σ⟩):aY P W0 f args σ Q:=by
 subst hm
 refine λw C vs hst hl hv=>?_
 have hsm: ∀a∈args,Small a:=dq λi x hx=>(hv i x _ hx (List.getElem?_eq_getElem (by rw[←hl];exact(List.getElem?_eq_some_iff.1 hx).1))).small
 have hvc:=cI.vc (br c _ _ (h hsm))
 refine .inl ⟨⟨fn,hf,by simp[hb],hnm⟩,calls_of_wp hf hb (wp_mono (wu (hvc w C _ (kl hst hl hv (Nat.le_of_ble_eq_true hargs)))) λe a' w' ⟨A',C',q,r,s⟩=>?_)⟩
 have fin:a'.defers=[]∧ ∃v,(results fn a'.tmps).run P w'= .ok v w'∧ ∃v₁ r σ' C',Ending.returned v= .returned v₁∧Q r σ'∧aB P W0 w' C' σ'∧aF P w' C' r v₁∧Step w C w' C':=by
  obtain⟨_,hc,r1,h2,_,h4⟩:=q
  obtain⟨v,g1,g2⟩:=kJ r hres hc
  exact⟨r.defers,v,g1,v,r1,A'.st,C',rfl,h4,r.st,g2.bZ h2,s⟩
 rcases q.1 with rfl|rfl
 ·exact fin
 ·exact fin
def J0 (ts:List ResultVar)(r:AV)(σ:ab)(A:aa):Prop:=lg A ts∧cR (ry A ts) r∧A.st.take σ.length=σ
theorem xp {f : FuncId} {fn : Func} {c : Code} {args : List AV} {r : AV} {m : Nat} (ts : List ResultVar) (fz : List Nat) (hf : P.funcs[f]? = some fn) (hb : fn.body = some c) (hnm : (fn.name == "runtime.NumGoroutine") = false)
  (hm:fn.ntmps=m) (hargs:Nat.ble args.length m=true) (hres:fn.results=ts.toArray) (hr:aU σ.length r)
  (h:(∀a∈args,Small a)→cVC P W0 m fz c (cI P (J0 ts r σ)) ⟨gY args,σ⟩):aY P W0 f args σ λr' σ'=>r'=r∧σ'=σ:=by
 subst hm
 refine λw C vs hst hl hv=>?_
 have hsm: ∀a∈args,Small a:=dq λi x hx=>(hv i x _ hx (List.getElem?_eq_getElem (by rw[←hl];exact(List.getElem?_eq_some_iff.1 hx).1))).small
 have hvc:=cI.vc (br c _ _ (h hsm))
 refine .inl ⟨⟨fn,hf,by simp[hb],hnm⟩,calls_of_wp hf hb (wp_mono (wu (hvc w C _ (kl hst hl hv (Nat.le_of_ble_eq_true hargs)))) λe a' w' ⟨A',C',q,rl,s⟩=>?_)⟩
 have fin:a'.defers=[]∧ ∃v,(results fn a'.tmps).run P w'= .ok v w'∧ ∃v₁ r' σ' C',Ending.returned v= .returned v₁∧(r'=r∧σ'=σ)∧aB P W0 w' C' σ'∧aF P w' C' r' v₁∧Step w C w' C':=by
  obtain⟨_,hc,q1,q2⟩:=q
  obtain⟨v,g1,g2⟩:=kJ rl hres hc
  have hle:σ.length≤A'.st.length:=by have:=congrArg List.length q2;rw[List.length_take]at this;omega
  have hs2:aB P W0 w' (C'.dB σ.length) σ:=by
   have:=rl.st.dB (n:=σ.length) hle λid te xs hid hs=>hst.ids (show σ[id]?=some (some (.cells te xs)) by rw[←hs,←q2,List.getElem?_take,if_pos hid])
   rwa [q2]at this
  exact⟨rl.defers,v,g1,v,r,σ,C'.dB σ.length,rfl,⟨rfl,rfl⟩,hs2,(g2.bZ q1).dB hr,s.dB (by rw[hst.nx];exact Nat.le_refl _)⟩
 rcases q.1 with rfl|rfl
 ·exact fin
 ·exact fin
theorem tO {f : FuncId} {fn : Func} {c : Code} {args : List AV} {r : AV} {m : Nat} (ts : List ResultVar) (fz : List Nat) (hf : P.funcs[f]? = some fn) (hb : fn.body = some c) (hnm : (fn.name == "runtime.NumGoroutine") = false)
  (hm:fn.ntmps=m) (hargs:Nat.ble args.length m=true) (hres:fn.results=ts.toArray) (hr:aU 0 r)
  (h:(∀a∈args,Small a)→ ∀σ,cVC P W0 m fz c (cI P (J0 ts r σ)) ⟨gY args,σ⟩):ag P W0 f args r:=λσ=>
 xp ts fz hf hb hnm hm hargs hres (dW (Nat.zero_le _) hr) λhs=>h hs σ
def HE (ts:List ResultVar)(r:AV)(σ:ab):Exit→aa→Prop
 | .normal,A| .ret,A=>J0 ts r σ A
 |_,_=>False
theorem oA {f : FuncId} {fn : Func} {c : Code} {args : List AV} {r : AV} {m : Nat} (ts : List ResultVar) (fz : List Nat) (hf : P.funcs[f]? = some fn) (hb : fn.body = some c) (hnm : (fn.name == "runtime.NumGoroutine") = false)
  (hm:fn.ntmps=m) (hargs:Nat.ble args.length m=true) (hres:fn.results=ts.toArray) (hr:aU 0 r)
  (h:(∀a∈args,Small a)→ ∀σ,cVC P W0 m fz c (HE ts r σ) ⟨gY args,σ⟩):ag P W0 f args r:=
 tO ts fz hf hb hnm hm hargs hres hr λhs σ=>ej c _ (λe A' _ q=>by
  cases e with
  |normal=>exact cI.normal q
  |ret=>exact cI.ret q
  |_=>exact q.elim) (h hs σ)
@[go_sem ↓] theorem Ri {fz:List Nat}{k:aa→Prop}(dst:Option Nat)(t:TypeId):eop P W0 fz dst A k (.alloc t)=op2 P W0 fz dst A k (.alloc t):=propext Iff.rfl
@[go_sem] theorem Qw (ts:List ResultVar)(r:AV):HE ts r σ .ret A=(lg A ts∧cR (ry A ts) r∧A.st.take σ.length=σ):=propext Iff.rfl
@[go_sem] theorem Ja (ts:List ResultVar)(r:AV):HE ts r σ .normal A=(lg A ts∧cR (ry A ts) r∧A.st.take σ.length=σ):=propext Iff.rfl
@[go_sem] theorem V2 (ts:List ResultVar)(r:AV):J0 ts r σ A=(lg A ts∧cR (ry A ts) r∧A.st.take σ.length=σ):=propext Iff.rfl
@[go_sem] theorem WG (ts:List ResultVar)(Q:AV→ab→Prop):EY ts σ Q A=(lg A ts∧ ∃r,cR (ry A ts) r∧σ.length≤A.st.length∧Q r A.st):=propext Iff.rfl
@[go_sem] theorem TY (t:ResultVar):ry A [t]=ji A t:=rfl
@[go_sem] theorem TE (t u:ResultVar):ry A [t,u]= .tup [ji A t,ji A u]:=rfl
@[go_sem] theorem NK (t u v:ResultVar):ry A [t,u,v]= .tup [ji A t,ji A u,ji A v]:=rfl
@[go_sem] theorem Tk :ry A []= .tup []:=rfl
@[go_sem] theorem SL (t:Nat):ji A (.tmp t)=A.env t:=rfl
@[go_sem] theorem Pk (t:Nat)(ty:TypeId):ji A (.cell t ty)=qT A.st (A.env t):=rfl
@[go_sem] theorem R7 (t:Nat):tA A (.tmp t)=True:=rfl
@[go_sem] theorem NB (t:Nat)(ty:TypeId):tA A (.cell t ty)=qS none A.st ty (A.env t):=rfl
@[go_sem] theorem RB :lg A []=True:=rfl
@[go_sem] theorem M3 (t:ResultVar)(r:List ResultVar):lg A (t::r)=(tA A t∧lg A r):=rfl
end
end Go.Av
end
section
namespace Go.Av
open Go
def fR :Obj→Bool
 | .cells ..=>false
 |_=>true
structure da (w:World)(C:Ctx)(D:Nat)(o:Obj):Prop where
 hp:w.heap[D]?=some o
 nc:fR o=true
 no: ∀id ow,C.m id=some ow→ow.blk≠D
section
variable {P :Program}{W0 w w' w0:World}{C C' C0:Ctx}{σ σ':ab}{n:Nat}{A:aa}{a:Act}{D:Nat}{o o':Obj}
theorem da.step (h:da w C D o)(hs:Step w C w' C'):da w' C' D o:=by
 obtain⟨e,k⟩:=hs.block D (Array.getElem?_eq_some_iff.1 h.hp).1 h.no
 exact⟨e.trans h.hp,h.nc,k⟩
theorem Ch {b i:Nat}(h:w.heap[b]?=some o)(h1:fR o=true):w.cell? ⟨b,i,none⟩=none:=by
 unfold World.cell?
 simp only[h]
 cases o<;>first|rfl|cases h1
theorem sL (h:w.heap[D]?=some o)(h1:fR o=true)(h2:fR o'=true)(b i:Nat):(w.putObj D o').cell? ⟨b,i,none⟩=w.cell? ⟨b,i,none⟩:=by
 by_cases hb:b=D
 ·subst hb
  rw[Ch h h1,Ch (World.putObj_heap_same (Array.getElem?_eq_some_iff.1 h).1) h2]
 ·unfold World.cell?
  simp only[World.putObj_heap_other hb]
theorem da.G5 (h:da w C D o)(h2:fR o'=true):lh w C (w.putObj D o') C:=
 ⟨Nat.le_refl _,λ_ _ _ h=>h,λb i hs=>⟨sL h.hp h.nc h2 b i,by rw[eH,World.putObj_size];exact hs⟩⟩
theorem da.put (h:da w C D o)(h2:fR o'=true):da (w.putObj D o') C D o':=⟨World.putObj_heap_same (Array.getElem?_eq_some_iff.1 h.hp).1,h2,h.no⟩
theorem da.other {D':Nat}{o2:Obj}(h:da w C D o)(hne:D≠D'):da (w.putObj D' o2) C D o:=⟨(World.putObj_heap_other hne).trans h.hp,h.nc,h.no⟩
theorem aB.apart (h:aB P W0 w C σ)(hA:da w C D o)(h2:fR o'=true)(hD:W0.heap.size≤D):aB P W0 (w.putObj D o') C σ:=by
 refine⟨h.base.trans ⟨rfl,rfl,rfl,by rw[World.putObj_size];exact Nat.le_refl _,λk hk=>World.putObj_heap_other (by omega)⟩,h.low,h.nx,h.inj,h.dom,λi=>?_⟩
 exact(h.obj i).ff (hA.G5 h2) λx hx=>World.putObj_heap_other (hA.no i x hx)
theorem bI.apart (h:bI P W0 n w C A a)(hA:da w C D o)(h2:fR o'=true)(hD:W0.heap.size≤D):bI P W0 n (w.putObj D o') C A a:=
 ⟨λi=>(h.env i).ff (hA.G5 h2),h.defers,h.size,h.st.apart hA h2 hD⟩
theorem Step.apart (h:Step w0 C0 w C)(hA:da w C D o)(h2:fR o'=true)(hD:w0.heap.size≤D):Step w0 C0 (w.putObj D o') C:=
 ⟨h.nx,h.dead,λb i hs=>by
  obtain⟨e,s⟩:=h.gb b i hs
  exact⟨(sL hA.hp hA.nc h2 b i).trans e,by rw[eH,World.putObj_size];exact s⟩,h.os,h.tape,h.output,by rw[World.putObj_size];exact h.size,λb hb hn=>by
  obtain⟨e,k⟩:=h.block b hb hn
  exact⟨(World.putObj_heap_other (by omega)).trans e,k⟩⟩
theorem da.new (h:aB P W0 w C σ)(o:Obj)(ho:fR o=true):da (w.alloc o) C w.heap.size o:=⟨World.alloc_heap_new w o,ho,h.fresh⟩
def kD (w:World)(C:Ctx)(B:Nat)(ms:List Deferred):Prop:=∀ d∈ms,∃D,d={ target:=.collected D,args:=#[] }∧B≤D∧da w C D (.deferred (some []))
theorem kD.step {B:Nat}{ms:List Deferred}(h:kD w C B ms)(hs:Step w C w' C'):kD w' C' B ms:=λd hd=>by
 obtain⟨D,h1,h2,h3⟩:=h d hd
 exact⟨D,h1,h2,h3.step hs⟩
def VCM (P:Program)(W0:World)(n:Nat)(c:Code)(Q:Exit→aa→Prop)(A:aa):Prop:=
 ∀w C a ms B,bI P W0 n w C A a→kD w C B ms→(ms.map (·.target)).Nodup→B≤w.heap.size→c.wpIn .wide 0 P (λe a' w'=>∃ a0 ms' A' C',a'=more a0 ms'∧Q e A'∧bI P W0 n w' C' A' a0∧kD w' C' B ms'∧(ms'.map (·.target)).Nodup∧Step w C w' C') (more a ms) w
theorem VCM.of {c:Code}{Q:Exit→aa→Prop}(h:VC P W0 n c Q A):VCM P W0 n c Q A:=λw C a ms B hr hm hd hB=>
 wpIn_mono (h w C a hr none 0 ms) λe a' w' ⟨a0,e0,A',C',q,r,s⟩=>⟨a0,ms,A',C',e0,q,r,hm.step s,hd,s⟩
theorem VCM.seq {x y:Code}{Q:Exit→aa→Prop}(h:VCM P W0 n x (bU (VCM P W0 n y Q) Q) A):VCM P W0 n (.seq x y) Q A:=λw C a ms B hr hm hd hB=>
 wpIn_seq (wpIn_mono (h w C a ms B hr hm hd hB) λe a' w' ⟨a0,ms',A',C',e0,q,r,m,d,s⟩=>by
  cases e with
  |normal=>
   subst e0
   exact wpIn_mono (q w' C' a0 ms' B r m d (Nat.le_trans hB s.size)) λ_ _ _ ⟨a1,ms'',A'',C'',e1,q',r',m',d',s'⟩=>⟨a1,ms'',A'',C'',e1,q',r',m',d',s.trans s'⟩
  |_=>exact⟨a0,ms',A',C',e0,q,r,m,d,s⟩)
theorem VCM.block {id:Nat}{c:Code}{Q:Exit→aa→Prop}(h:VCM P W0 n c (dC id Q) A):VCM P W0 n (.block id c) Q A:=λw C a ms B hr hm hd hB=>
 wpIn_block (wpIn_mono (h w C a ms B hr hm hd hB) λe a' w' ⟨a0,ms',A',C',e0,q,r,m,d,s⟩=>by
  cases e with
  |exit id'=>
   simp only[dC]at q
   simp only[Exit.inBlock]
   split at q
   ·rename_i he;rw[if_pos he];exact⟨a0,ms',A',C',e0,q,r,m,d,s⟩
   ·rename_i he;rw[if_neg he];exact⟨a0,ms',A',C',e0,q,r,m,d,s⟩
  |_=>exact⟨a0,ms',A',C',e0,q,r,m,d,s⟩)
theorem VCM.mono {c:Code}{Q Q':Exit→aa→Prop}(h:VCM P W0 n c Q A)(hq: ∀e A,Q e A→Q' e A):VCM P W0 n c Q' A:=λw C a ms B hr hm hd hB=>
 wpIn_mono (h w C a ms B hr hm hd hB) λ_ _ _ ⟨a0,ms',A',C',e0,q,r,m,d,s⟩=>⟨a0,ms',A',C',e0,hq _ _ q,r,m,d,s⟩
theorem Cu {fn:Func}{tmps:Array Value}{R:Ending→World→Prop}{B:Nat}: ∀(ms:List Deferred) (w:World) (C:Ctx),kD w C B ms→(ms.map (·.target)).Nodup→
  (∀w',(∀A a,bI P W0 n w C A a→W0.heap.size≤B→bI P W0 n w' C A a)→(∀w0 C0,Step w0 C0 w C→w0.heap.size≤B→Step w0 C0 w' C)→LeavesIn .wide 0 P fn tmps R [] .returning w')→LeavesInM .wide 0 P fn tmps R ms .returning w
 |[],w,C,_,_,h=>h w (λ_ _ h _=>h) (λ_ _ h _=>h)
 |d::ms,w,C,hm,hd,h=>by
  obtain⟨D,rfl,hB,hA⟩:=hm d (by simp)
  rw[List.map_cons,List.nodup_cons]at hd
  refine⟨by simp,.inl ⟨D,w.putObj D (.deferred none),rfl,run_takeDeferred hA.hp,Cu ms _ C (λd hdm=>?_) hd.2 λw' h1 h2=>h w' (λA a hr hl=>h1 A a (hr.apart hA rfl (Nat.le_trans hl hB)) hl) (λw0 C0 hs hl=>h2 w0 C0 (hs.apart hA rfl (Nat.le_trans hl hB)) hl)⟩⟩
  obtain⟨D',rfl,hB',hA'⟩:=hm d (by simp[hdm])
  refine⟨D',rfl,hB',hA'.other λe=>hd.1 ?_⟩
  subst e
  exact List.mem_map.2 ⟨_,hdm,rfl⟩
theorem FA {f : FuncId} {fn : Func} {c : Code} {args : List AV} {Q : AV → ab → Prop} {m : Nat} (ts : List ResultVar) (hf : P.funcs[f]? = some fn) (hb : fn.body = some c) (hnm : (fn.name == "runtime.NumGoroutine") = false)
  (hm:fn.ntmps=m) (hargs:Nat.ble args.length m=true) (hres:fn.results=ts.toArray)
  (h:(∀a∈args,Small a)→VCM P W0 m c (cI P (EY ts σ Q)) ⟨gY args,σ⟩):aY P W0 f args σ Q:=by
 subst hm
 refine λw C vs hst hl hv=>?_
 have hsm: ∀a∈args,Small a:=dq λi x hx=>(hv i x _ hx (List.getElem?_eq_getElem (by rw[←hl];exact(List.getElem?_eq_some_iff.1 hx).1))).small
 have hr0:=kl (m:=fn.ntmps) hst hl hv (Nat.le_of_ble_eq_true hargs)
 refine .inl ⟨⟨fn,hf,by simp[hb],hnm⟩,(callsIn_wide (n:=0)).1 (callsIn_of_wp_marks hf hb trivial ?_)⟩
 have h0:=h hsm w C _ [] w.heap.size hr0 (λd hd=>by cases hd) (by simp) (Nat.le_refl _)
 rw[eu]at h0
 refine wpIn_mono h0 λe a' w' ⟨a0,ms',A',C',e0,q,r,mk,md,s⟩=>?_
 have fin:(∃B,kZ P A' B∧EY ts σ Q B)→LeavesInM .wide 0 P fn a'.tmps (λe w'=>∃ v r σ' C',e= .returned v∧Q r σ'∧aB P W0 w' C' σ'∧aF P w' C' r v∧Step w C w' C') a'.defers .returning w':=by
  rintro⟨B,g1,hc,r1,h2,_,h4⟩
  obtain⟨C'',k1,k2⟩:=r.My g1
  have ed:a'.defers=ms':=by rw[e0,more,r.defers];rfl
  have et:a'.tmps=a0.tmps:=by rw[e0];rfl
  rw[ed,et]
  refine Cu (P:=P) (W0:=W0) (n:=fn.ntmps) (B:=w.heap.size) ms' w' C'' (mk.step k2) md λw3 g3 g4=>?_
  have r3:=g3 B a0 k1 hst.base.size
  obtain⟨v,q1,q2⟩:=kJ r3 hres hc
  exact⟨v,q1,v,r1,B.st,C'',rfl,h4,r3.st,q2.bZ h2,g4 w C (s.trans k2) (Nat.le_refl _)⟩
 cases e with
 |normal=>exact fin q
 |ret=>exact fin q
 |_=>exact q.elim
end
end Go.Av
end
section
namespace Go.Av
open Go Go.Sort
section
variable {P :Program}{W0 w:World}{C:Ctx}{σ:ab}
theorem aB.He {id:Nat}{te:TypeId}{xs ys:List AV}{fl:Array Value}{k n:Nat}{os:Array Obj}{b base room:Nat}(h:aB P W0 w C σ)(hs:σ[id]?=some (some (.cells te xs)))(hm:C.m id=some (.obj b te base room))
  (hk:af P te=k) (hl:ys.length=xs.length) (hfl:fl.size=xs.length*k)
  (hy: ∀(i:Nat) (y:AV),ys[i]?=some y→ ∃cs,Rel P w C y cs∧cs.length=k∧fits P te y∧ ∀(j:Nat) (c:Value),cs[j]?=some c→fl[i*k+j]?=some c):
  Step w C (grow (putRow (λv:Value=>v) (Sort.ahead w n) b base fl) os) C∧aB P W0 (grow (putRow (λv:Value=>v) (Sort.ahead w n) b base fl) os) C (σ.set id (some (.cells te ys))):=by
 obtain⟨b',base',room',arr,t',fr,m1,m2,mf,m3,m4,cf,m5⟩:=h.cells hs
 rw[hm]at m1
 cases m1
 have hbl:b<w.heap.size:=(Array.getElem?_eq_some_iff.1 m2).1
 have hidl:=(List.getElem?_eq_some_iff.1 hs).1
 obtain⟨w',hw'⟩: ∃w',w'=grow (putRow (λv:Value=>v) (Sort.ahead w n) b base fl) os:=⟨_,rfl⟩
 have hsz:(putRow (λv:Value=>v) (Sort.ahead w n) b base fl).heap.size=w.heap.size:=by simp[putRow,mapBlock,Sort.ahead]
 have hot: ∀j,j<w.heap.size→j≠b→w'.heap[j]?=w.heap[j]?:=λj hj hne=>by
  rw[hw',heap_grow_old _ _ (by rw[hsz];exact hj)]
  simp only[putRow,mapBlock,Sort.ahead]
  rw[Array.getElem?_modify,if_neg (Ne.symm hne)]
 have hat:w'.heap[b]?=some (.cells (putCells (λv:Value=>v) base fl arr) t' fr):=by
  rw[hw',heap_grow_old _ _ (by rw[hsz];exact hbl)]
  simp only[putRow,mapBlock,Sort.ahead]
  rw[Array.getElem?_modify,if_pos rfl,m2]
  rfl
 have hsize:w.heap.size≤w'.heap.size:=by rw[hw',size_grow,hsz];omega
 have hst:Step w C w' C:=⟨Nat.le_refl _,λ_ _ _ h=>h,λb0 o0 hs0=>by
  have hne:b0≠b:=λe=>by
   obtain⟨e1,hw,cap,e2,_⟩:=hs0.2 id _ hm (by rw[e];rfl)
   cases e2
  refine⟨?_,Nat.lt_of_lt_of_le hs0.1 hsize,hs0.2⟩
  unfold World.cell?
  simp only[hot b0 hs0.1 hne],by rw[hw'];rfl,by rw[hw'];rfl,by rw[hw'];rfl,hsize,λj hj hn=>⟨hot j hj λe=>hn id _ hm (by rw[e];rfl),hn⟩⟩
 rw[←hw']
 refine⟨hst,h.change hst h.low (by rw[h.nx];simp) h.inj h.dom λj=>?_⟩
 by_cases hj:j=id
 ·subst hj
  left
  rw[List.getElem?_set_self hidl,Option.join_some,hm]
  have hps:(putCells (λv:Value=>v) base fl arr).size=arr.size:=by simp[putCells]
  classical
  refine⟨rfl,_,t',fr,hat,by rw[hps];exact mf,by rw[hps];exact m3,by rw[hl];exact m4,λi=>(ys[i]?.bind λy=>if hex: ∃cs,Rel P w C y cs∧cs.length=k∧fits P te y∧ ∀(j:Nat) (c:Value),cs[j]?=some c→fl[i*k+j]?=some c then some (Classical.choose hex)else none).getD [],λi x hx=>?_⟩
  have hex:=hy i x hx
  simp only[hx,Option.bind_some,dif_pos hex,Option.getD_some]
  obtain⟨r1,r2,r3,r4⟩:=Classical.choose_spec hex
  refine⟨r1.mono hst,by rw[hk];exact r2,r3,λq c hq=>?_⟩
  have hflq:=r4 q c hq
  have hql:q<k:=by rw[←r2];exact(List.getElem?_eq_some_iff.1 hq).1
  have hlt:=(Array.getElem?_eq_some_iff.1 hflq).1
  have hin:base+i*k+q<arr.size:=by
   rw[m3]
   rw[hk]at m4
   rw[hfl]at hlt
   omega
  rw[hk]
  simp only[putCells,Array.getElem?_mapIdx]
  rw[Array.getElem?_eq_getElem hin]
  simp only[Option.map_some]
  rw[if_pos ⟨by omega,by omega⟩,show base+i*k+q-base=i*k+q by omega,getElem!_pos fl _ hlt,←(Array.getElem?_eq_some_iff.1 hflq).2]
 ·right
  refine⟨by rw[List.getElem?_set_ne (λe=>hj e.symm)],rfl,λow ho=>hot _ (h.lt ho) λe=>hj (h.inj j id _ _ ho hm (by rw[e];rfl))⟩
end
end Go.Av
end
