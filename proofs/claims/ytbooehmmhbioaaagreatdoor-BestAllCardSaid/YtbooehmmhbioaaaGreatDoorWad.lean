/- Texts that the last one of this claim rests on: a layer over the guide's own conditions for code; contracts of the functions that the law reaches, one by one. No conditions beside those of the given rows. -/
import Derived.IntWalk
import Derived.RangeFuncLeaves
import Derived.RangeFuncRecord
import Derived.Shelf.SlSortCmp.NoneTotal
import Derived.Test.YtbooehmmhbioaaaGreatDoorProg
import Derived.Test.YtbooehmmhbioaaaGreatDoorWac
set_option linter.unusedSimpArgs false
set_option linter.unusedVariables false
section
namespace Go.Av
open Go
theorem aF {n:Int}(h: -9223372036854775808≤n∧n≤9223372036854775807):IntKind.i64.wrap n=n:=by rw[IntKind.wrap_i64];omega
@[go_sem] theorem wrap_u8 (c:UInt8):IntKind.i64.wrap (c.toNat:Int)=c.toNat:=aF (by have:=c.toNat_lt;omega)
theorem yB.of {fz:List Nat}{id:Nat}{ops:Array Oper}(h:As fz (eM fz id) ops (DD [] ops.toList)=true):yB fz id ops .mk:=h
@[go_sem] theorem R5 (n:Nat):(((n+1:Nat):Int)==0)=false:=by simp;omega
@[go_sem] theorem Ux (n:Nat):((no_index (OfNat.ofNat n):Nat):Int)=(OfNat.ofNat n:Int):=rfl
@[go_sem] theorem UH (n:Nat)(h:n≤9223372036854775807):IntKind.i64.wrap (no_index (OfNat.ofNat n):Int)=(OfNat.ofNat n:Int):=aF (by
 have e:(OfNat.ofNat n:Int)=((n:Nat):Int):=rfl
 rw[e];omega)
theorem aq :maxLen=9223372036854775807:=rfl
theorem ia {i N:Nat}(h:i<N)(hN:N≤maxLen):IntKind.i64.wrap ((i:Int)+1)=((i+1:Nat):Int):=by
 rw[aq]at hN
 rw[aF (by omega)]
 omega
theorem af {i N:Nat}(h:i<N)(hN:N≤maxLen):AV.int .i64 (IntKind.i64.wrap ((i:Int)+1))= .int .i64 ((i+1:Nat):Int):=by rw[ia h hN]
theorem da {l:List UInt8}(h:Small (.str l)):l.length≤maxLen:=by cases h;assumption
theorem He {e:TypeId}{xs:List AV}(h:Small (.sl e xs)):xs.length≤maxLen∧ ∀x∈xs,Small x:=by cases h;exact⟨by assumption,by assumption⟩
theorem nG {t:TypeId}{fs:List AV}(h:Small (.agg t fs)): ∀x∈fs,Small x:=by cases h;assumption
theorem aC {α:Type}{f:α→AV}{e:TypeId}{l:List α}(h:Small (.sl e (l.map f))):l.length≤maxLen∧ ∀x∈l,Small (f x):=by
 obtain⟨h1,h2⟩:=He h
 exact⟨by simpa using h1,λx hx=>h2 _ (List.mem_map_of_mem hx)⟩
@[go_sem] theorem Se {α:Type}(l:List α)(i:Nat):gL l i l.length=l.drop i:=by
 unfold gL
 rw[←List.length_drop,List.take_length]
@[go_sem] theorem RR {α:Type}(l:List α)(j:Nat):gL l 0 j=l.take j:=by simp[gL]
@[go_sem] theorem NT {α:Type}(c:α)(r:List α):gL (c::r) 1 (r.length+1)=r:=by simp[gL]
@[go_sem] theorem Wv :(([]:List UInt8)==[])=true:=rfl
@[go_sem] theorem TG (c:UInt8)(r:List UInt8):((c::r:List UInt8)==[])=false:=rfl
@[go_sem] theorem Kw (c:UInt8)(r:List UInt8):(([]:List UInt8)==c::r)=false:=rfl
attribute [go_sem] List.drop_succ_cons List.drop_zero List.length_cons List.length_nil true_implies false_implies Bool.false_eq_true Bool.true_eq_false
@[go_sem] theorem UC (n:Nat):(0<n+1)=True:=eq_true (Nat.succ_pos n)
@[go_sem] theorem MO (n:Nat):(1≤n+1)=True:=eq_true (Nat.succ_pos n)
attribute [go_sem] Nat.le_refl not_true_eq_false not_false_eq_true
@[go_sem] theorem LL (n:Nat):(n<0)=False:=eq_false (Nat.not_lt_zero n)
theorem G4 {l:List UInt8}{i:Nat}{f:UInt8→Bool}:(decide (i<l.length)&&f (l[i]?.getD 0))=true↔ ∃c,l[i]?=some c∧f c=true:=by
 cases h:l[i]? with
 |none=>have:=List.getElem?_eq_none_iff.1 h;simp;omega
 |some c=>have:=(List.getElem?_eq_some_iff.1 h).1;simp[this]
theorem AI {l:List UInt8}{i:Nat}{f:UInt8→Bool}:(decide (i<l.length)&&f (l[i]?.getD 0))=false↔ ∀c,l[i]?=some c→f c=false:=by
 cases h:l[i]? with
 |none=>have:=List.getElem?_eq_none_iff.1 h;simp;omega
 |some c=>have:=(List.getElem?_eq_some_iff.1 h).1;simp[this]
theorem xg (σ l:ab)(k:Nat):(σ++l)[σ.length+k]?=l[k]?:=by rw[List.getElem?_append_right (by omega)];congr 1;omega
@[go_sem] theorem FO (σ l:ab)(k i:Nat)(path:List Nat):look (σ++l) (σ.length+k) i path=look l k i path:=by simp only[look,xg]
@[go_sem] theorem QU (σ l:ab)(i:Nat)(path:List Nat):look (σ++l) σ.length i path=look l 0 i path:=FO σ l 0 i path
@[go_sem] theorem RO (t:TypeId)(xs:List AV)(l:ab)(i:Nat)(path:List Nat):look (some (.cells t xs)::l) 0 i path=(xs[i]?).bind (·.at path):=rfl
@[go_sem] theorem SB (o:Option c9)(l:ab)(k i:Nat)(path:List Nat):look (o::l) (k+1) i path=look l k i path:=rfl
@[go_sem] theorem S9 (σ l:ab):(σ++l)[σ.length]?=l[0]?:=xg σ l 0
theorem mD {s:List UInt8}{pos:Nat}{c:UInt8}(h:s[pos]?=some c)(hc:c.toNat<128):gO s pos=(c.toNat,1):=by
 obtain⟨hi,he⟩:=List.getElem?_eq_some_iff.1 h
 have h0:((⟨s.toArray⟩:ByteArray).get! (pos+0))=c:=by
  show s.toArray[pos+0]! =c
  simp[hi,he]
 unfold gO Utf8.decode
 simp only[h0]
 rw[if_pos hc]
theorem qI {s:List UInt8}{pos:Nat}{c:UInt8}(h:s[pos]?=some c)(hc:128≤c.toNat):128≤(gO s pos).1:=by
 obtain⟨hi,he⟩:=List.getElem?_eq_some_iff.1 h
 have h0:((⟨s.toArray⟩:ByteArray).get! (pos+0))=c:=by
  show s.toArray[pos+0]! =c
  simp[hi,he]
 unfold gO Utf8.decode
 simp only[h0]
 rw[if_neg (by omega)]
 repeat' split
 all_goals first|(simp[Utf8.runeError];done)|skip
 all_goals simp_all
 all_goals omega
theorem tB (σ l:ab)(k:Nat)(o:Option c9):(σ++l).set (σ.length+k) o=σ++l.set k o:=by
 rw[List.set_append_right _ _ (by omega)];congr 2;omega
@[go_sem] theorem Xu (σ l:ab)(k:Nat)(o:Option c9):(σ++l).set (σ.length+k) o=σ++l.set k o:=tB σ l k o
@[go_sem] theorem Vb (σ l:ab)(o:Option c9):(σ++l).set σ.length o=σ++l.set 0 o:=tB σ l 0 o
@[go_sem] theorem AX (σ l:ab)(k i:Nat)(path:List Nat)(v:AV):dA (σ++l) (σ.length+k) i path v=σ++dA l k i path v:=by
 unfold dA
 rw[xg]
 split
 ·exact tB ..
 ·rfl
@[go_sem] theorem Lc (σ l:ab)(i:Nat)(path:List Nat)(v:AV):dA (σ++l) σ.length i path v=σ++dA l 0 i path v:=AX σ l 0 i path v
@[go_sem] theorem JW (t:TypeId)(xs:List AV)(l:ab)(i:Nat)(path:List Nat)(v:AV):dA (some (.cells t xs)::l) 0 i path v=some (.cells t (xs.set i ((xs[i]?.getD .undef).setAt path v)))::l:=rfl
@[go_sem] theorem KS (o:Option c9)(l:ab)(k i:Nat)(path:List Nat)(v:AV):dA (o::l) (k+1) i path v=o::dA l k i path v:=by
 show(match l[k]? with|some (some (.cells te xs))=>(o::l).set (k+1) (some (.cells te (xs.set i ((xs[i]?.getD .undef).setAt path v))))|_=>o::l)=_
 unfold dA
 split<;>simp_all
@[go_sem] theorem XP (v:AV):v.at []=some v:=by cases v<;>rfl
@[go_sem] theorem Xv (t:TypeId)(fs:List AV)(k:Nat)(r:List Nat):(AV.agg t fs).at (k::r)=(fs[k]?).bind (·.at r):=rfl
@[go_sem] theorem SF (v u:AV):v.setAt [] u=u:=by cases v<;>rfl
attribute [go_sem] List.length_append List.append_assoc List.cons_append List.nil_append
def Ext (σ st:ab):Prop:=st.take σ.length=σ
theorem Ext.refl (σ:ab):Ext σ σ:=List.take_length
theorem Ext.le {σ st:ab}(h:Ext σ st):σ.length≤st.length:=by
 have:=congrArg List.length h
 rw[List.length_take]at this
 omega
theorem Ext.app {σ st:ab}(h:Ext σ st)(l:ab):Ext σ (st++l):=by
 unfold Ext
 rw[List.take_append_of_le_length h.le]
 exact h
theorem Ext.set {σ st:ab}(h:Ext σ st){id:Nat}(hid:σ.length≤id)(o:Option c9):Ext σ (st.set id o):=by
 unfold Ext
 rw[List.take_set_of_le hid]
 exact h
@[go_sem] theorem UT (σ l:ab):(σ++l).take σ.length=σ:=List.take_left
theorem ai {a b:Bool}(h:a=b):cT (.bool a) (.bool b):=by rw[h];exact .refl _
theorem aw {k:IntKind}{a b:Int}(h:a=b):cT (.int k a) (.int k b):=by rw[h];exact .refl _
theorem fG {a b:List UInt8}(h:a=b):cT (.str a) (.str b):=by rw[h];exact .refl _
def cY :AV→Prop| .maybe _ _=>False|_=>True
theorem bY {gd:Option Bool}{x:AV}(h:cY x):okM gd x=True:=by cases x<;>first|exact h.elim|exact eq_true trivial
theorem cH {x:AV}(h:cY x):unm x=x:=by cases x<;>first|exact h.elim|rfl
theorem an {α:Type}{f:α→AV}{l:List α}{i:Nat}{a:α}(h:l[i]?=some a):atV (l.map f) (i:Int)=f a:=by
 simp only[atV,Int.toNat_natCast,List.getElem?_map,h,Option.map_some,Option.getD_some]
theorem get_some {α:Type}{l:List α}{i:Nat}(h:i<l.length): ∃x,l[i]?=some x:=⟨_,List.getElem?_eq_getElem h⟩
theorem aj {α:Type}{l:List α}{i:Nat}{x:α}(h:l[i]?=some x):l.take (i+1)=l.take i++[x]:=by
 rw[List.take_add_one,h];rfl
theorem all_false {α:Type}{f:α→Bool}{l:List α}{i:Nat}{x:α}(h:l[i]?=some x)(hf:f x=false):l.all f=false:=by
 rw[List.all_eq_false];exact⟨x,List.mem_of_getElem? h,by simp[hf]⟩
theorem any_true {α:Type}{f:α→Bool}{l:List α}{i:Nat}{x:α}(h:l[i]?=some x)(hf:f x=true):l.any f=true:=by
 rw[List.any_eq_true];exact⟨x,List.mem_of_getElem? h,hf⟩
end Go.Av
end
section
namespace Go.Proofs.Tryz
open Go Go.Av
@[go_sem] theorem RG :prog.follows .mixedOrders=true∧ag prog 3=1∧cM prog 3=true∧jq prog 3=some .i64∧bC prog 3=true∧zeroOf prog 3=some (.int .i64 0)∧ag prog 4=1∧cM prog 4=true∧lq prog 4=true∧bC prog 4=true∧zeroOf prog 4=some (.bool false)∧jq prog 5=some .u8:=by and_intros<;>kernel_rfl
@[go_sem] theorem X2 :mE prog 9=true∧ag prog 9=1∧cM prog 9=true∧cq prog 9=true∧jq prog 9=none∧bC prog 9=true∧jq prog 21=some .i32∧cM prog 22=true∧elT prog 22=some 54∧zeroOf prog 22=some .aA∧cM prog 23=true∧elT prog 23=some 56:=by and_intros<;>kernel_rfl
@[go_sem] theorem Xq :elT prog 24=some 83∧cM prog 28=true∧fA prog 28=true∧cM prog 33=true∧elT prog 33=some 37∧elT prog 34=some 39∧ag prog 37=1∧elT prog 37=some 3∧bC prog 37=true∧ag prog 39=5∧bC prog 39=true∧gU prog 39=some 3:=by and_intros<;>kernel_rfl
@[go_sem] theorem WM :bu prog 39=some [3,3,3,3,3]∧zeroOf prog 39=some (.agg 39 [(.int .i64 0),(.int .i64 0),(.int .i64 0),(.int .i64 0),(.int .i64 0)])∧dE prog 39=true∧dr prog 39=[(.int .i64 0),(.int .i64 0),(.int .i64 0),(.int .i64 0),(.int .i64 0)]∧ag prog 50=1∧cM prog 50=true∧elT prog 50=some 72∧bC prog 50=true∧cM prog 51=true∧elT prog 51=some 81∧cM prog 52=true∧elT prog 52=some 147:=by and_intros<;>kernel_rfl
@[go_sem] theorem WN :ag prog 54=9∧bF prog 54=true∧bC prog 54=true∧bu prog 54=some [9,9,50,50,50,51,51,52,4]∧zeroOf prog 54=some (.agg 54 [(.str []),(.str []),.aA,.aA,.aA,.aA,.aA,.aA,(.bool false)])∧dE prog 54=true∧dr prog 54=[(.str []),(.str []),.aA,.aA,.aA,.aA,.aA,.aA,(.bool false)]∧ag prog 56=11∧bF prog 56=true∧bC prog 56=true∧bu prog 56=some [54,4,4]∧zeroOf prog 56=some (.agg 56 [(.agg 54 [(.str []),(.str []),.aA,.aA,.aA,.aA,.aA,.aA,(.bool false)]),(.bool false),(.bool false)]):=by and_intros<;>kernel_rfl
@[go_sem] theorem Ww :dE prog 56=true∧dr prog 56=[(.agg 54 [(.str []),(.str []),.aA,.aA,.aA,.aA,.aA,.aA,(.bool false)]),(.bool false),(.bool false)]∧elT prog 58=some 9∧jq prog 63=some .u64∧cM prog 66=true∧elT prog 66=some 4∧gU prog 71=some 50∧bu prog 71=some [50,50]∧dE prog 71=true∧dr prog 71=[.aA,.aA]∧ag prog 72=1∧cM prog 72=true:=by and_intros<;>kernel_rfl
@[go_sem] theorem WY :elT prog 72=some 81∧bC prog 72=true∧ag prog 81=3∧bF prog 81=true∧bC prog 81=true∧bu prog 81=some [9,3,9]∧zeroOf prog 81=some (.agg 81 [(.str []),(.int .i64 0),(.str [])])∧dE prog 81=true∧dr prog 81=[(.str []),(.int .i64 0),(.str [])]∧ag prog 83=3∧bF prog 83=true∧bC prog 83=true:=by and_intros<;>kernel_rfl
@[go_sem] theorem W2 :bu prog 83=some [3,9,9]∧zeroOf prog 83=some (.agg 83 [(.int .i64 0),(.str []),(.str [])])∧dE prog 83=true∧dr prog 83=[(.int .i64 0),(.str []),(.str [])]∧fA prog 86=true∧cM prog 92=true∧elT prog 92=some 102∧cM prog 93=true∧elT prog 93=some 100∧cM prog 94=true∧elT prog 94=some 116∧bF prog 96=true:=by and_intros<;>kernel_rfl
@[go_sem] theorem Xb :bu prog 96=some [22,23,24,33,66,92,93,4,4,3,3,4,94]∧dE prog 96=true∧dr prog 96=[.aA,.aA,.aA,.aA,.aA,.aA,.aA,(.bool false),(.bool false),(.int .i64 0),(.int .i64 0),(.bool false),.aA]∧ag prog 100=1∧cM prog 100=true∧bC prog 100=true∧zeroOf prog 100=some (.int .u32 0)∧ag prog 102=6∧bF prog 102=true∧bC prog 102=true∧bu prog 102=some [4,100,93,93,3,4]∧zeroOf prog 102=some (.agg 102 [(.bool false),(.int .u32 0),.aA,.aA,(.int .i64 0),(.bool false)]):=by and_intros<;>kernel_rfl
@[go_sem] theorem U6 :dE prog 102=true∧dr prog 102=[(.bool false),(.int .u32 0),.aA,.aA,(.int .i64 0),(.bool false)]∧ag prog 116=6∧bF prog 116=true∧bC prog 116=true∧bu prog 116=some [100,39]∧zeroOf prog 116=some (.agg 116 [(.int .u32 0),(.agg 39 [(.int .i64 0),(.int .i64 0),(.int .i64 0),(.int .i64 0),(.int .i64 0)])])∧dE prog 116=true∧dr prog 116=[(.int .u32 0),(.agg 39 [(.int .i64 0),(.int .i64 0),(.int .i64 0),(.int .i64 0),(.int .i64 0)])]∧gU prog 118=some 50∧bu prog 118=some [50,50,50]∧dE prog 118=true:=by and_intros<;>kernel_rfl
@[go_sem] theorem Ue :dr prog 118=[.aA,.aA,.aA]∧cM prog 130=true∧fA prog 130=true∧bF prog 133=true∧bu prog 133=some [3,130]∧dE prog 133=true∧dr prog 133=[(.int .i64 0),.nil]∧ag prog 135=1∧cM prog 135=true∧jq prog 135=some .i64∧bC prog 135=true∧ag prog 136=1:=by and_intros<;>kernel_rfl
@[go_sem] theorem TI :cM prog 136=true∧elT prog 136=some 135∧bC prog 136=true∧ag prog 147=2∧bF prog 147=true∧bC prog 147=true∧bu prog 147=some [9,9]∧zeroOf prog 147=some (.agg 147 [(.str []),(.str [])])∧bF prog 149=true∧bu prog 149=some [22]∧dE prog 149=true∧dr prog 149=[.aA]:=by and_intros<;>kernel_rfl
@[go_sem] theorem UB :ag prog 171=3∧bF prog 171=true∧bC prog 171=true∧bu prog 171=some [3,100,100]∧zeroOf prog 171=some (.agg 171 [(.int .i64 0),(.int .u32 0),(.int .u32 0)])∧dE prog 171=true∧dr prog 171=[(.int .i64 0),(.int .u32 0),(.int .u32 0)]∧elT prog 172=some 171∧gU prog 184=some 50∧bu prog 184=some [50,50,50,50,50,50]∧dE prog 184=true∧dr prog 184=[.aA,.aA,.aA,.aA,.aA,.aA]:=by and_intros<;>kernel_rfl
@[go_sem] theorem UJ :gU prog 186=some 9∧bu prog 186=some [9,9]∧zeroOf prog 186=some (.agg 186 [(.str []),(.str [])])∧dE prog 186=true∧dr prog 186=[(.str []),(.str [])]∧gU prog 187=some 186∧bu prog 187=some [186,186,186]∧dE prog 187=true∧dr prog 187=[(.agg 186 [(.str []),(.str [])]),(.agg 186 [(.str []),(.str [])]),(.agg 186 [(.str []),(.str [])])]∧cM prog 189=true∧elT prog 189=some 136∧bF prog 191=true:=by and_intros<;>kernel_rfl
@[go_sem] theorem VK :bu prog 191=some [3,189]∧dE prog 191=true∧dr prog 191=[(.int .i64 0),.aA]∧elT prog 192=some 50∧bF prog 205=true∧bu prog 205=some [9,4,4]∧zeroOf prog 205=some (.agg 205 [(.str []),(.bool false),(.bool false)])∧dE prog 205=true∧dr prog 205=[(.str []),(.bool false),(.bool false)]∧gU prog 226=some 51∧bu prog 226=some [51,51]∧dE prog 226=true:=by and_intros<;>kernel_rfl
@[go_sem] theorem TQ :dr prog 226=[.aA,.aA]∧bF prog 269=true∧bu prog 269=some [9,9]∧dE prog 269=true∧dr prog 269=[(.str []),(.str [])]:=by and_intros<;>kernel_rfl
end Go.Proofs.Tryz
end
section
namespace Go.Av
open Go
section
variable {P :Program}{W0 w w':World}{C C':Ctx}{σ σ':ab}{n:Nat}{A:aa}{a:Act}
theorem aG.vR (h:aG P W0 w C σ){te t:TypeId}{id0 i id o:Nat}{path:List Nat}{zs:List AV}{z u u':AV}(h0:σ[id0]?=some (some (.cells te zs)))(hz:zs[i]?=some z)(hp:z.at path=some u)
  (hid:id<σ.length) (hne:id≠id0) (hpl:place P te path=some (t,o)) (h1:u.bc=true) (h2:u'.bc=true) (hfz: ∀v,aJ P w C u v→aJ P w (C.kill id) u' v):
  aG P W0 w (C.kill id) ((σ.set id none).set id0 (some (.cells te (zs.set i (z.setAt path u'))))):=by
 obtain⟨k1,k2⟩:=h.kill id hid
 obtain⟨b,base,room,arr,t',fr,m1,m2,mf,m3,m4,cf,m5⟩:=h.cells h0
 obtain⟨r1,r2,r3,r4⟩:=m5 i z hz
 obtain⟨c,g1,g2,g3,g4⟩:=xY path te t o z _ (cf i) r1 r3 hpl hp
 obtain⟨v,rfl⟩:=g1.one_cell h1
 have hfz1:=(hfz v (.one h1 g1)).aU h2
 have hft:fits P t u':=by
  have:cM P t=true:=by cases u<;>first|exact g2.2|cases h1
  cases u'<;>first|exact⟨rfl,this⟩|cases h2
 obtain⟨q1,q2,q3⟩:=qU path te t o z _ _ (cf i) [v] (r1.mono k1) r3 hpl hp hfz1 hft
 have hsp:(bG (cf i).toArray o [v]).toList=cf i:=by
  refine List.ext_getElem? λp=>?_
  rw[Array.getElem?_toList,bK (by simpa using q1)]
  split
  ·rename_i hpr
   have hp0:p-o=0:=by simp at hpr;omega
   have hpo:p=o:=by simp at hpr;omega
   rw[hp0,hpo]
   exact(g4 0 v rfl).symm
  ·simp
 rw[hsp]at q2
 have hid0l:id0<σ.length:=(List.getElem?_eq_some_iff.1 h0).1
 refine k2.change (Step.refl _ _) k2.low (by rw[k2.nx];simp) k2.inj k2.dom λj=>?_
 by_cases hj:j=id0
 ·subst hj
  left
  rw[List.getElem?_set_self (by simpa using hid0l),Option.join_some,oe,if_neg (λe=>hne e.symm),m1]
  refine⟨rfl,arr,t',fr,m2,mf,m3,by simpa using m4,cf,λp x hx=>?_⟩
  rw[List.getElem?_set]at hx
  split at hx
  ·rename_i hpi
   split at hx
   ·cases hx
    subst hpi
    exact⟨q2,r2,q3,r4⟩
   ·cases hx
  ·obtain⟨s1,s2,s3,s4⟩:=m5 p x hx
   exact⟨s1.mono k1,s2,s3,s4⟩
 ·right
  refine⟨by rw[List.getElem?_set_ne (λe=>hj e.symm)],rfl,λow hm=>rfl⟩
theorem aG.zW (h:aG P W0 w C σ){te e te' t:TypeId}{id0 i id off m o:Nat}{path:List Nat}{zs xs:List AV}{z:AV}(h0:σ[id0]?=some (some (.cells te zs)))(hz:zs[i]?=some z)(hp:z.at path=some (.row e id off m))
  (hs:σ[id]?=some (some (.cells te' xs))) (hm:off+m≤xs.length) (hne:id≠id0) (hpl:place P te path=some (t,o)):
  aG P W0 w (C.kill id) ((σ.set id none).set id0 (some (.cells te (zs.set i (z.setAt path (.sl e ((xs.drop off).take m))))))):=
 h.vR h0 hz hp (List.getElem?_eq_some_iff.1 hs).1 hne hpl rfl rfl λ_ hv=>oQ h hv hs hm
inductive lJ (P:Program):aa→aa→Prop
 |refl (D:aa):lJ P D D
 |row {D B:aa} (d:Nat) {e te:TypeId} {id off m:Nat} {xs:List AV}:D.env d= .row e id off m→D.st[id]?=some (some (.cells te xs))→off+m≤xs.length→lJ P ((D.upd d (.sl e ((xs.drop off).take m))).ar (D.st.set id none)) B→lJ P D B
 |cell {D B:aa} {te e te' t:TypeId} (id0 i:Nat) (path:List Nat) {id off m o:Nat} {zs xs:List AV} {z:AV}:D.st[id0]?=some (some (.cells te zs))→zs[i]?=some z→z.at path=some (.row e id off m)→D.st[id]?=some (some (.cells te' xs))→off+m≤xs.length→id≠id0→place P te path=some (t,o)→
   lJ P (D.ar ((D.st.set id none).set id0 (some (.cells te (zs.set i (z.setAt path (.sl e ((xs.drop off).take m)))))))) B→lJ P D B
 |C6 {D B:aa} {te t' t:TypeId} (id0 i:Nat) (path:List Nat) {id o:Nat} {zs:List AV} {z x:AV}:D.st[id0]?=some (some (.cells te zs))→zs[i]?=some z→z.at path=some (.ptr t' id 0 [])→D.st[id]?=some (some (.cells t' [x]))→id≠id0→place P te path=some (t,o)→
   lJ P (D.ar ((D.st.set id none).set id0 (some (.cells te (zs.set i (z.setAt path (.loc t' x))))))) B→lJ P D B
 |pt {D B:aa} (d:Nat) {t:TypeId} {id:Nat} {x:AV}:D.env d= .ptr t id 0 []→D.st[id]?=some (some (.cells t [x]))→lJ P ((D.upd d (.loc t x)).ar (D.st.set id none)) B→lJ P D B
 |cy {D B:aa} {te:TypeId} (id0 i:Nat) {zs:List AV} {z z':AV}:D.st[id0]?=some (some (.cells te zs))→zs[i]?=some z→Sub z z'→lJ P (D.ar (D.st.set id0 (some (.cells te (zs.set i z'))))) B→lJ P D B
theorem aG.EB (h:aG P W0 w C σ){te:TypeId}{id0 i:Nat}{zs:List AV}{z z':AV}(h0:σ[id0]?=some (some (.cells te zs)))(hz:zs[i]?=some z)(hs:Sub z z'):
  aG P W0 w C (σ.set id0 (some (.cells te (zs.set i z')))):=by
 obtain⟨b,base,room,arr,t',fr,m1,m2,mf,m3,m4,cf,m5⟩:=h.cells h0
 have hid0l:id0<σ.length:=(List.getElem?_eq_some_iff.1 h0).1
 refine h.change (Step.refl _ _) h.low (by rw[h.nx];simp) h.inj h.dom λj=>?_
 by_cases hj:j=id0
 ·subst hj
  left
  rw[List.getElem?_set_self hid0l,Option.join_some,m1]
  refine⟨rfl,arr,t',fr,m2,mf,m3,by simpa using m4,cf,λp x hx=>?_⟩
  rw[List.getElem?_set]at hx
  split at hx
  ·rename_i hpi
   split at hx
   ·cases hx
    subst hpi
    obtain⟨r1,r2,r3,r4⟩:=m5 i z hz
    exact⟨r1.sub hs,r2,hs.fits _ r3,r4⟩
   ·cases hx
  ·exact m5 p x hx
 ·right
  exact⟨by rw[List.getElem?_set_ne (λe=>hj e.symm)],rfl,λow hm=>rfl⟩
theorem bP.ND {B:aa}(hf:lJ P A B): ∀{C:Ctx},bP P W0 n w C A a→ ∃C',bP P W0 n w C' B a∧Step w C w C':=by
 induction hf with
 |refl A=>exact λh=>⟨_,h,.refl _ _⟩
 |row d h1 h2 h3 _ ih=>
  intro C h
  have hv:=h.env d
  rw[h1]at hv
  have hfr:=oQ h.st hv h2 h3
  obtain⟨k1,k2⟩:=h.st.kill _ (List.getElem?_eq_some_iff.1 h2).1
  have hr1:=h.step k1 k2
  have hr2:bP P W0 n w (C.kill _) ((aa.upd _ d (.sl _ _)).ar (List.set _ _ none)) a:=⟨λj=>by
   by_cases hj:j=d
   ·subst hj;simpa[aa.upd,aa.ar]using hfr
   ·have:=hr1.env j;simpa[aa.upd,aa.ar,hj]using this,hr1.defers,hr1.size,hr1.st⟩
  obtain⟨C',g1,g2⟩:=ih hr2
  exact⟨C',g1,k1.trans g2⟩
 |cell id0 i path h1 h2 h3 h4 h5 h6 h7 _ ih=>
  intro C h
  obtain⟨k1,k2⟩:=h.st.kill _ (List.getElem?_eq_some_iff.1 h4).1
  have hr1:=h.step k1 (h.st.zW h1 h2 h3 h4 h5 h6 h7)
  obtain⟨C',g1,g2⟩:=ih hr1
  exact⟨C',g1,k1.trans g2⟩
 |C6 id0 i path h1 h2 h3 h4 h5 h6 _ ih=>
  intro C h
  have hidl:=(List.getElem?_eq_some_iff.1 h4).1
  obtain⟨k1,k2⟩:=h.st.kill _ hidl
  have hr1:=h.step k1 (h.st.vR h1 h2 h3 hidl h5 h6 rfl rfl λ_ hv=>k8 h.st hv h4 (i:=0) rfl)
  obtain⟨C',g1,g2⟩:=ih hr1
  exact⟨C',g1,k1.trans g2⟩
 |pt d h1 h2 _ ih=>
  intro C h
  have hv:=h.env d
  rw[h1]at hv
  have hfr:=k8 h.st hv h2 (i:=0) rfl
  obtain⟨k1,k2⟩:=h.st.kill _ (List.getElem?_eq_some_iff.1 h2).1
  have hr1:=h.step k1 k2
  have hr2:bP P W0 n w (C.kill _) ((aa.upd _ d (.loc _ _)).ar (List.set _ _ none)) a:=⟨λj=>by
   by_cases hj:j=d
   ·subst hj;simpa[aa.upd,aa.ar]using hfr
   ·have:=hr1.env j;simpa[aa.upd,aa.ar,hj]using this,hr1.defers,hr1.size,hr1.st⟩
  obtain⟨C',g1,g2⟩:=ih hr2
  exact⟨C',g1,k1.trans g2⟩
 |cy id0 i h1 h2 h3 _ ih=>
  intro C h
  have hr1:=h.step (.refl _ _) (h.st.EB h1 h2 h3)
  exact ih hr1
def jC (A:aa):ResultVar→AV
 | .tmp t=>A.env t
 | .cell a _=>rR A.st (A.env a)
def uX (A:aa):ResultVar→Prop
 | .tmp _=>True
 | .cell a t=>rK none A.st t (A.env a)
def sw (A:aa):List ResultVar→AV
 |[t]=>jC A t
 |ts=>.tup (ts.map (jC A))
def lY (A:aa):List ResultVar→Prop
 |[]=>True
 |t::r=>uX A t∧lY A r
def Ie (a:Act):ResultVar→Sem Value
 | .tmp t=>pure (a.tmps.getD t undef)
 | .cell a' ty=>do loadVar ty (←asAddr (a.tmps.getD a' undef))
theorem Hz (hr:bP P W0 n w C A a)(t:ResultVar)(hc:uX A t): ∃v,(Ie a t).run P w= .ok v w∧aJ P w C (jC A t) v:=by
 cases t with
 |tmp t=>exact⟨_,rfl,hr.env t⟩
 |cell d ty=>
  have hd:=hr.env d
  simp only[uX]at hc
  simp only[jC]
  cases hv:A.env d with
  |loc ty' v=>
   rw[hv]at hc hd
   obtain rfl:ty'=ty:=hc
   obtain⟨b,o,cs,e,h1,h2,h3,h4⟩:=hd.py
   rw[Ie,e]
   obtain⟨x,g1,g2⟩:=fL (w:=w) (off:=o) h1 h2 (λj c hj=>(h4 j c hj).1)
   exact⟨x,by simpa only[Sem.run_bind,asAddr,Sem.run_pure,Result.andThen_ok]using g1,g2⟩
  |ptr ty' id i path=>
   rw[hv]at hc hd
   obtain⟨rfl,hl⟩:=hc
   obtain⟨x,hx⟩:=Option.isSome_iff_exists.1 (show(look A.st id i path).isSome=true from hl)
   obtain⟨te,xs,z,h1,h2,h3⟩:=pH hx
   obtain⟨ad,e0,_,hm⟩:=hd.nA
   rw[Ie,e0]
   obtain⟨b,base,room,arr,t',fr,m1,m2,mf,m3,m4,cf,m5⟩:=hr.st.cells h1
   obtain⟨b',te',base',room',off,e1,e2,e3⟩:=hm _ m1
   cases e1
   subst e3
   obtain⟨r1,r2,r3,r4⟩:=m5 i z h2
   obtain⟨c,g1,g2,g3,g4⟩:=xY path te _ off z x (cf i) r1 r3 e2 h3
   obtain⟨y,q1,q2⟩:=fL (w:=w) (b:=b) (off:=base+i*ag P te+off) g1 g2 (λj c' hj=>by
    have:=r4 _ _ (g4 j c' hj)
    rw[Nat.add_assoc]
    simp[World.cell?,m2,←Nat.add_assoc]at this ⊢
    exact this)
   refine⟨y,?_,by simp only[rR,hx,Option.getD_some];exact q2⟩
   simpa only[Sem.run_bind,asAddr,Sem.run_pure,Result.andThen_ok]using q1
  |_=>rw[hv]at hc;exact hc.elim
theorem yF {F:ResultVar→Sem Value}(hr:bP P W0 n w C A a)(hF: ∀t,uX A t→ ∃v,(F t).run P w= .ok v w∧aJ P w C (jC A t) v): ∀ts:List ResultVar,lY A ts→ ∃vs:List Value,(ts.mapM F).run P w= .ok vs w∧vs.length=ts.length∧ ∀(i:Nat) (t:ResultVar) (v:Value),ts[i]?=some t→vs[i]?=some v→aJ P w C (jC A t) v
 |[],_=>⟨[],rfl,rfl,by simp⟩
 |t::ts,hc=>by
  obtain⟨v,h1,h2⟩:=hF t hc.1
  obtain⟨vs,g1,g2,g3⟩:=yF hr hF ts hc.2
  refine⟨v::vs,?_,by simp[g2],λi t' v' ht hv=>?_⟩
  ·rw[List.mapM_cons]
   simp only[Sem.run_bind,h1,Result.andThen_ok,g1,Sem.run_pure]
  ·cases i with
   |zero=>simp at ht hv;subst ht hv;exact h2
   |succ i=>exact g3 i t' v' (by simpa using ht) (by simpa using hv)
theorem lS {fn:Func}{ts:List ResultVar}(hr:bP P W0 n w C A a)(h:fn.results=ts.toArray)(hc:lY A ts): ∃v,(results fn a.tmps).run P w= .ok v w∧aJ P w C (sw A ts) v:=by
 obtain⟨vs,g1,g2,g3⟩:=yF (F:=Ie a) hr (λt ht=>Hz hr t ht) ts hc
 have hm:(results fn a.tmps).run P w= .ok (if h:vs.toArray.size=1 then vs.toArray[0]else .tuple vs.toArray) w:=by
  have e:results fn a.tmps=(do
    let vs ←fn.results.mapM (Ie a)
    pure (if h:vs.size=1 then vs[0]else .tuple vs)):=by
   unfold results
   congr 2
  rw[e,h,Array.mapM_eq_mapM_toList]
  simp only[Sem.run_bind,Sem.run_map]
  rw[g1]
  rfl
 match ts,vs,hm,g2,g3 with
 |[],[],hm,_,_=>exact⟨_,hm,.tup (vs:=[]) rfl (by simp)⟩
 |[t],[v],hm,_,g3=>exact⟨_,hm,g3 0 t v rfl rfl⟩
 |t::u::ts,v::v'::vs,hm,g2,g3=>
  refine⟨_,hm,?_⟩
  rw[dif_neg (by simp)]
  refine .tup (by simpa using g2.symm) (λi x v hx hv=>?_)
  rw[List.getElem?_map,Option.map_eq_some_iff]at hx
  obtain⟨q,hq,rfl⟩:=hx
  exact g3 i q v hq hv
def cU (P:Program)(R:aa→Prop):Exit→aa→Prop
 | .normal,A| .ret,A=>∃ A',lJ P A A'∧R A'
 |_,_=>False
theorem cU.ret {R:aa→Prop}(h:R A):cU P R .ret A:=⟨A,.refl A,h⟩
theorem cU.normal {R:aa→Prop}(h:R A):cU P R .normal A:=⟨A,.refl A,h⟩
theorem cU.via {R:aa→Prop}{x:Exit}{B:aa}(hx:x= .ret∨x= .normal)(hf:lJ P A B)(h:R B):cU P R x A:=by
 rcases hx with rfl|rfl
 ·exact⟨B,hf,h⟩
 ·exact⟨B,hf,h⟩
theorem cU.vc {R:aa→Prop}{c:Code}(h:VC P W0 n c (cU P R) A):VC P W0 n c (λe A'=>(e= .normal∨e= .ret)∧R A') A:=λw C a hr=>
 iK (h w C a hr) λe a' w' ⟨A',C',q,r,s⟩=>by
  cases e with
  |normal=>obtain⟨B,g1,g2⟩:=q;obtain⟨C'',h1,h2⟩:=r.ND g1;exact⟨B,C'',⟨.inl rfl,g2⟩,h1,s.trans h2⟩
  |ret=>obtain⟨B,g1,g2⟩:=q;obtain⟨C'',h1,h2⟩:=r.ND g1;exact⟨B,C'',⟨.inr rfl,g2⟩,h1,s.trans h2⟩
  |_=>exact q.elim
def Ik (ts:List ResultVar)(σ:ab)(Q:AV→ab→Prop)(A:aa):Prop:=lY A ts∧ ∃r,cT (sw A ts) r∧σ.length≤A.st.length∧Q r A.st
theorem jz {f : FuncId} {fn : Func} {c : Code} {args : List AV} {Q : AV → ab → Prop} {m : Nat} (ts : List ResultVar) (fz : List Nat) (hf : P.funcs[f]? = some fn) (hb : fn.body = some c) (hnm : (fn.name == "runtime.NumGoroutine") = false)
  (hm:fn.ntmps=m) (hargs:Nat.ble args.length m=true) (hres:fn.results=ts.toArray)
  (h:(∀a∈args,Small a)→cVC P W0 m fz c (cU P (Ik ts σ Q)) ⟨iI args,σ⟩):bg P W0 f args σ Q:=by
 subst hm
 refine λw C vs hst hl hv=>?_
 have hsm: ∀a∈args,Small a:=dH λi x hx=>(hv i x _ hx (List.getElem?_eq_getElem (by rw[←hl];exact(List.getElem?_eq_some_iff.1 hx).1))).small
 have hvc:=cU.vc (bD c _ _ (h hsm))
 refine .inl ⟨⟨fn,hf,by simp[hb],hnm⟩,calls_of_wp hf hb (wp_mono (yg (hvc w C _ (kP hst hl hv (Nat.le_of_ble_eq_true hargs)))) λe a' w' ⟨A',C',q,r,s⟩=>?_)⟩
 have fin:a'.defers=[]∧ ∃v,(results fn a'.tmps).run P w'= .ok v w'∧ ∃v₁ r σ' C',Ending.returned v= .returned v₁∧Q r σ'∧aG P W0 w' C' σ'∧aJ P w' C' r v₁∧Step w C w' C':=by
  obtain⟨_,hc,r1,h2,_,h4⟩:=q
  obtain⟨v,g1,g2⟩:=lS r hres hc
  exact⟨r.defers,v,g1,v,r1,A'.st,C',rfl,h4,r.st,g2.cy h2,s⟩
 rcases q.1 with rfl|rfl
 ·exact fin
 ·exact fin
def KT (ts:List ResultVar)(r:AV)(σ:ab)(A:aa):Prop:=lY A ts∧cT (sw A ts) r∧A.st.take σ.length=σ
theorem xG {f : FuncId} {fn : Func} {c : Code} {args : List AV} {r : AV} {m : Nat} (ts : List ResultVar) (fz : List Nat) (hf : P.funcs[f]? = some fn) (hb : fn.body = some c) (hnm : (fn.name == "runtime.NumGoroutine") = false)
  (hm:fn.ntmps=m) (hargs:Nat.ble args.length m=true) (hres:fn.results=ts.toArray) (hr:aW σ.length r)
  (h:(∀a∈args,Small a)→cVC P W0 m fz c (cU P (KT ts r σ)) ⟨iI args,σ⟩):bg P W0 f args σ λr' σ'=>r'=r∧σ'=σ:=by
 subst hm
 refine λw C vs hst hl hv=>?_
 have hsm: ∀a∈args,Small a:=dH λi x hx=>(hv i x _ hx (List.getElem?_eq_getElem (by rw[←hl];exact(List.getElem?_eq_some_iff.1 hx).1))).small
 have hvc:=cU.vc (bD c _ _ (h hsm))
 refine .inl ⟨⟨fn,hf,by simp[hb],hnm⟩,calls_of_wp hf hb (wp_mono (yg (hvc w C _ (kP hst hl hv (Nat.le_of_ble_eq_true hargs)))) λe a' w' ⟨A',C',q,rl,s⟩=>?_)⟩
 have fin:a'.defers=[]∧ ∃v,(results fn a'.tmps).run P w'= .ok v w'∧ ∃v₁ r' σ' C',Ending.returned v= .returned v₁∧(r'=r∧σ'=σ)∧aG P W0 w' C' σ'∧aJ P w' C' r' v₁∧Step w C w' C':=by
  obtain⟨_,hc,q1,q2⟩:=q
  obtain⟨v,g1,g2⟩:=lS rl hres hc
  have hle:σ.length≤A'.st.length:=by have:=congrArg List.length q2;rw[List.length_take]at this;omega
  have hs2:aG P W0 w' (C'.dU σ.length) σ:=by
   have:=rl.st.dU (n:=σ.length) hle λid te xs hid hs=>hst.ids (show σ[id]?=some (some (.cells te xs)) by rw[←hs,←q2,List.getElem?_take,if_pos hid])
   rwa [q2]at this
  exact⟨rl.defers,v,g1,v,r,σ,C'.dU σ.length,rfl,⟨rfl,rfl⟩,hs2,(g2.cy q1).dU hr,s.dU (by rw[hst.nx];exact Nat.le_refl _)⟩
 rcases q.1 with rfl|rfl
 ·exact fin
 ·exact fin
theorem ua {f : FuncId} {fn : Func} {c : Code} {args : List AV} {r : AV} {m : Nat} (ts : List ResultVar) (fz : List Nat) (hf : P.funcs[f]? = some fn) (hb : fn.body = some c) (hnm : (fn.name == "runtime.NumGoroutine") = false)
  (hm:fn.ntmps=m) (hargs:Nat.ble args.length m=true) (hres:fn.results=ts.toArray) (hr:aW 0 r)
  (h:(∀a∈args,Small a)→ ∀σ,cVC P W0 m fz c (cU P (KT ts r σ)) ⟨iI args,σ⟩):ah P W0 f args r:=λσ=>
 xG ts fz hf hb hnm hm hargs hres (ep (Nat.zero_le _) hr) λhs=>h hs σ
def Gl (ts:List ResultVar)(r:AV)(σ:ab):Exit→aa→Prop
 | .normal,A| .ret,A=>KT ts r σ A
 |_,_=>False
theorem kM {f : FuncId} {fn : Func} {c : Code} {args : List AV} {r : AV} {m : Nat} (ts : List ResultVar) (fz : List Nat) (hf : P.funcs[f]? = some fn) (hb : fn.body = some c) (hnm : (fn.name == "runtime.NumGoroutine") = false)
  (hm:fn.ntmps=m) (hargs:Nat.ble args.length m=true) (hres:fn.results=ts.toArray) (hr:aW 0 r)
  (h:(∀a∈args,Small a)→ ∀σ,cVC P W0 m fz c (Gl ts r σ) ⟨iI args,σ⟩):ah P W0 f args r:=
 ua ts fz hf hb hnm hm hargs hres hr λhs σ=>eI c _ (λe A' _ q=>by
  cases e with
  |normal=>exact cU.normal q
  |ret=>exact cU.ret q
  |_=>exact q.elim) (h hs σ)
@[go_sem ↓] theorem SV {fz:List Nat}{k:aa→Prop}(dst:Option Nat)(t:TypeId):eop P W0 fz dst A k (.alloc t)=op2 P W0 fz dst A k (.alloc t):=propext Iff.rfl
@[go_sem] theorem Ql (ts:List ResultVar)(r:AV):Gl ts r σ .ret A=(lY A ts∧cT (sw A ts) r∧A.st.take σ.length=σ):=propext Iff.rfl
@[go_sem] theorem Le (ts:List ResultVar)(r:AV):Gl ts r σ .normal A=(lY A ts∧cT (sw A ts) r∧A.st.take σ.length=σ):=propext Iff.rfl
@[go_sem] theorem Xy (ts:List ResultVar)(r:AV):KT ts r σ A=(lY A ts∧cT (sw A ts) r∧A.st.take σ.length=σ):=propext Iff.rfl
@[go_sem] theorem Xs (ts:List ResultVar)(Q:AV→ab→Prop):Ik ts σ Q A=(lY A ts∧ ∃r,cT (sw A ts) r∧σ.length≤A.st.length∧Q r A.st):=propext Iff.rfl
@[go_sem] theorem TX (t:ResultVar):sw A [t]=jC A t:=rfl
@[go_sem] theorem VX (t u:ResultVar):sw A [t,u]= .tup [jC A t,jC A u]:=rfl
@[go_sem] theorem O6 (t u v:ResultVar):sw A [t,u,v]= .tup [jC A t,jC A u,jC A v]:=rfl
@[go_sem] theorem TM :sw A []= .tup []:=rfl
@[go_sem] theorem UI (t:Nat):jC A (.tmp t)=A.env t:=rfl
@[go_sem] theorem Sp (t:Nat)(ty:TypeId):jC A (.cell t ty)=rR A.st (A.env t):=rfl
@[go_sem] theorem SN (t:Nat):uX A (.tmp t)=True:=rfl
@[go_sem] theorem Oe (t:Nat)(ty:TypeId):uX A (.cell t ty)=rK none A.st ty (A.env t):=rfl
@[go_sem] theorem RA :lY A []=True:=rfl
@[go_sem] theorem N1 (t:ResultVar)(r:List ResultVar):lY A (t::r)=(uX A t∧lY A r):=rfl
end
end Go.Av
end
section
namespace Go.Av
open Go
def gl :Obj→Bool
 | .cells ..=>false
 |_=>true
structure dt (w:World)(C:Ctx)(D:Nat)(o:Obj):Prop where
 hp:w.heap[D]?=some o
 nc:gl o=true
 no: ∀id ow,C.m id=some ow→ow.blk≠D
section
variable {P :Program}{W0 w w' w0:World}{C C' C0:Ctx}{σ σ':ab}{n:Nat}{A:aa}{a:Act}{D:Nat}{o o':Obj}
theorem dt.step (h:dt w C D o)(hs:Step w C w' C'):dt w' C' D o:=by
 obtain⟨e,k⟩:=hs.block D (Array.getElem?_eq_some_iff.1 h.hp).1 h.no
 exact⟨e.trans h.hp,h.nc,k⟩
theorem DK {b i:Nat}(h:w.heap[b]?=some o)(h1:gl o=true):w.cell? ⟨b,i,none⟩=none:=by
 unfold World.cell?
 simp only[h]
 cases o<;>first|rfl|cases h1
theorem uI (h:w.heap[D]?=some o)(h1:gl o=true)(h2:gl o'=true)(b i:Nat):(w.putObj D o').cell? ⟨b,i,none⟩=w.cell? ⟨b,i,none⟩:=by
 by_cases hb:b=D
 ·subst hb
  rw[DK h h1,DK (World.putObj_heap_same (Array.getElem?_eq_some_iff.1 h).1) h2]
 ·unfold World.cell?
  simp only[World.putObj_heap_other hb]
theorem dt.HV (h:dt w C D o)(h2:gl o'=true):lX w C (w.putObj D o') C:=
 ⟨Nat.le_refl _,λ_ _ _ h=>h,λb i hs=>⟨uI h.hp h.nc h2 b i,by rw[eZ,World.putObj_size];exact hs⟩⟩
theorem dt.put (h:dt w C D o)(h2:gl o'=true):dt (w.putObj D o') C D o':=⟨World.putObj_heap_same (Array.getElem?_eq_some_iff.1 h.hp).1,h2,h.no⟩
theorem dt.other {D':Nat}{o2:Obj}(h:dt w C D o)(hne:D≠D'):dt (w.putObj D' o2) C D o:=⟨(World.putObj_heap_other hne).trans h.hp,h.nc,h.no⟩
theorem aG.apart (h:aG P W0 w C σ)(hA:dt w C D o)(h2:gl o'=true)(hD:W0.heap.size≤D):aG P W0 (w.putObj D o') C σ:=by
 refine⟨h.base.trans ⟨rfl,rfl,rfl,by rw[World.putObj_size];exact Nat.le_refl _,λk hk=>World.putObj_heap_other (by omega)⟩,h.low,h.nx,h.inj,h.dom,λi=>?_⟩
 exact(h.obj i).fF (hA.HV h2) λx hx=>World.putObj_heap_other (hA.no i x hx)
theorem bP.apart (h:bP P W0 n w C A a)(hA:dt w C D o)(h2:gl o'=true)(hD:W0.heap.size≤D):bP P W0 n (w.putObj D o') C A a:=
 ⟨λi=>(h.env i).fF (hA.HV h2),h.defers,h.size,h.st.apart hA h2 hD⟩
theorem Step.apart (h:Step w0 C0 w C)(hA:dt w C D o)(h2:gl o'=true)(hD:w0.heap.size≤D):Step w0 C0 (w.putObj D o') C:=
 ⟨h.nx,h.dead,λb i hs=>by
  obtain⟨e,s⟩:=h.gu b i hs
  exact⟨(uI hA.hp hA.nc h2 b i).trans e,by rw[eZ,World.putObj_size];exact s⟩,h.os,h.tape,h.output,by rw[World.putObj_size];exact h.size,λb hb hn=>by
  obtain⟨e,k⟩:=h.block b hb hn
  exact⟨(World.putObj_heap_other (by omega)).trans e,k⟩⟩
theorem dt.new (h:aG P W0 w C σ)(o:Obj)(ho:gl o=true):dt (w.alloc o) C w.heap.size o:=⟨World.alloc_heap_new w o,ho,h.fresh⟩
def lI (w:World)(C:Ctx)(B:Nat)(ms:List Deferred):Prop:=∀ d∈ms,∃D,d={ target:=.collected D,args:=#[] }∧B≤D∧dt w C D (.deferred (some []))
theorem lI.step {B:Nat}{ms:List Deferred}(h:lI w C B ms)(hs:Step w C w' C'):lI w' C' B ms:=λd hd=>by
 obtain⟨D,h1,h2,h3⟩:=h d hd
 exact⟨D,h1,h2,h3.step hs⟩
def VCM (P:Program)(W0:World)(n:Nat)(c:Code)(Q:Exit→aa→Prop)(A:aa):Prop:=
 ∀w C a ms B,bP P W0 n w C A a→lI w C B ms→(ms.map (·.target)).Nodup→B≤w.heap.size→c.wpIn .wide 0 P (λe a' w'=>∃ a0 ms' A' C',a'=more a0 ms'∧Q e A'∧bP P W0 n w' C' A' a0∧lI w' C' B ms'∧(ms'.map (·.target)).Nodup∧Step w C w' C') (more a ms) w
theorem VCM.of {c:Code}{Q:Exit→aa→Prop}(h:VC P W0 n c Q A):VCM P W0 n c Q A:=λw C a ms B hr hm hd hB=>
 wpIn_mono (h w C a hr none 0 ms) λe a' w' ⟨a0,e0,A',C',q,r,s⟩=>⟨a0,ms,A',C',e0,q,r,hm.step s,hd,s⟩
theorem VCM.seq {x y:Code}{Q:Exit→aa→Prop}(h:VCM P W0 n x (cd (VCM P W0 n y Q) Q) A):VCM P W0 n (.seq x y) Q A:=λw C a ms B hr hm hd hB=>
 wpIn_seq (wpIn_mono (h w C a ms B hr hm hd hB) λe a' w' ⟨a0,ms',A',C',e0,q,r,m,d,s⟩=>by
  cases e with
  |normal=>
   subst e0
   exact wpIn_mono (q w' C' a0 ms' B r m d (Nat.le_trans hB s.size)) λ_ _ _ ⟨a1,ms'',A'',C'',e1,q',r',m',d',s'⟩=>⟨a1,ms'',A'',C'',e1,q',r',m',d',s.trans s'⟩
  |_=>exact⟨a0,ms',A',C',e0,q,r,m,d,s⟩)
theorem VCM.block {id:Nat}{c:Code}{Q:Exit→aa→Prop}(h:VCM P W0 n c (dX id Q) A):VCM P W0 n (.block id c) Q A:=λw C a ms B hr hm hd hB=>
 wpIn_block (wpIn_mono (h w C a ms B hr hm hd hB) λe a' w' ⟨a0,ms',A',C',e0,q,r,m,d,s⟩=>by
  cases e with
  |exit id'=>
   simp only[dX]at q
   simp only[Exit.inBlock]
   split at q
   ·rename_i he;rw[if_pos he];exact⟨a0,ms',A',C',e0,q,r,m,d,s⟩
   ·rename_i he;rw[if_neg he];exact⟨a0,ms',A',C',e0,q,r,m,d,s⟩
  |_=>exact⟨a0,ms',A',C',e0,q,r,m,d,s⟩)
theorem VCM.mono {c:Code}{Q Q':Exit→aa→Prop}(h:VCM P W0 n c Q A)(hq: ∀e A,Q e A→Q' e A):VCM P W0 n c Q' A:=λw C a ms B hr hm hd hB=>
 wpIn_mono (h w C a ms B hr hm hd hB) λ_ _ _ ⟨a0,ms',A',C',e0,q,r,m,d,s⟩=>⟨a0,ms',A',C',e0,hq _ _ q,r,m,d,s⟩
theorem CQ {fn:Func}{tmps:Array Value}{R:Ending→World→Prop}{B:Nat}: ∀(ms:List Deferred) (w:World) (C:Ctx),lI w C B ms→(ms.map (·.target)).Nodup→
  (∀w',(∀A a,bP P W0 n w C A a→W0.heap.size≤B→bP P W0 n w' C A a)→(∀w0 C0,Step w0 C0 w C→w0.heap.size≤B→Step w0 C0 w' C)→LeavesIn .wide 0 P fn tmps R [] .returning w')→LeavesInM .wide 0 P fn tmps R ms .returning w
 |[],w,C,_,_,h=>h w (λ_ _ h _=>h) (λ_ _ h _=>h)
 |d::ms,w,C,hm,hd,h=>by
  obtain⟨D,rfl,hB,hA⟩:=hm d (by simp)
  rw[List.map_cons,List.nodup_cons]at hd
  refine⟨by simp,.inl ⟨D,w.putObj D (.deferred none),rfl,run_takeDeferred hA.hp,CQ ms _ C (λd hdm=>?_) hd.2 λw' h1 h2=>h w' (λA a hr hl=>h1 A a (hr.apart hA rfl (Nat.le_trans hl hB)) hl) (λw0 C0 hs hl=>h2 w0 C0 (hs.apart hA rfl (Nat.le_trans hl hB)) hl)⟩⟩
  obtain⟨D',rfl,hB',hA'⟩:=hm d (by simp[hdm])
  refine⟨D',rfl,hB',hA'.other λe=>hd.1 ?_⟩
  subst e
  exact List.mem_map.2 ⟨_,hdm,rfl⟩
theorem Ha {f : FuncId} {fn : Func} {c : Code} {args : List AV} {Q : AV → ab → Prop} {m : Nat} (ts : List ResultVar) (hf : P.funcs[f]? = some fn) (hb : fn.body = some c) (hnm : (fn.name == "runtime.NumGoroutine") = false)
  (hm:fn.ntmps=m) (hargs:Nat.ble args.length m=true) (hres:fn.results=ts.toArray)
  (h:(∀a∈args,Small a)→VCM P W0 m c (cU P (Ik ts σ Q)) ⟨iI args,σ⟩):bg P W0 f args σ Q:=by
 subst hm
 refine λw C vs hst hl hv=>?_
 have hsm: ∀a∈args,Small a:=dH λi x hx=>(hv i x _ hx (List.getElem?_eq_getElem (by rw[←hl];exact(List.getElem?_eq_some_iff.1 hx).1))).small
 have hr0:=kP (m:=fn.ntmps) hst hl hv (Nat.le_of_ble_eq_true hargs)
 refine .inl ⟨⟨fn,hf,by simp[hb],hnm⟩,(callsIn_wide (n:=0)).1 (callsIn_of_wp_marks hf hb trivial ?_)⟩
 have h0:=h hsm w C _ [] w.heap.size hr0 (λd hd=>by cases hd) (by simp) (Nat.le_refl _)
 rw[eK]at h0
 refine wpIn_mono h0 λe a' w' ⟨a0,ms',A',C',e0,q,r,mk,md,s⟩=>?_
 have fin:(∃B,lJ P A' B∧Ik ts σ Q B)→LeavesInM .wide 0 P fn a'.tmps (λe w'=>∃ v r σ' C',e= .returned v∧Q r σ'∧aG P W0 w' C' σ'∧aJ P w' C' r v∧Step w C w' C') a'.defers .returning w':=by
  rintro⟨B,g1,hc,r1,h2,_,h4⟩
  obtain⟨C'',k1,k2⟩:=r.ND g1
  have ed:a'.defers=ms':=by rw[e0,more,r.defers];rfl
  have et:a'.tmps=a0.tmps:=by rw[e0];rfl
  rw[ed,et]
  refine CQ (P:=P) (W0:=W0) (n:=fn.ntmps) (B:=w.heap.size) ms' w' C'' (mk.step k2) md λw3 g3 g4=>?_
  have r3:=g3 B a0 k1 hst.base.size
  obtain⟨v,q1,q2⟩:=lS r3 hres hc
  exact⟨v,q1,v,r1,B.st,C'',rfl,h4,r3.st,q2.cy h2,g4 w C (s.trans k2) (Nat.le_refl _)⟩
 cases e with
 |normal=>exact fin q
 |ret=>exact fin q
 |_=>exact q.elim
end
end Go.Av
end
section
namespace Go.Av
open Go Go.Sort
section
variable {P :Program}{W0 w:World}{C:Ctx}{σ:ab}
theorem aG.HU {id:Nat}{te:TypeId}{xs ys:List AV}{fl:Array Value}{k n:Nat}{os:Array Obj}{b base room:Nat}(h:aG P W0 w C σ)(hs:σ[id]?=some (some (.cells te xs)))(hm:C.m id=some (.obj b te base room))
  (hk:ag P te=k) (hl:ys.length=xs.length) (hfl:fl.size=xs.length*k)
  (hy: ∀(i:Nat) (y:AV),ys[i]?=some y→ ∃cs,Rel P w C y cs∧cs.length=k∧fits P te y∧ ∀(j:Nat) (c:Value),cs[j]?=some c→fl[i*k+j]?=some c):
  Step w C (grow (putRow (λv:Value=>v) (Sort.ahead w n) b base fl) os) C∧aG P W0 (grow (putRow (λv:Value=>v) (Sort.ahead w n) b base fl) os) C (σ.set id (some (.cells te ys))):=by
 obtain⟨b',base',room',arr,t',fr,m1,m2,mf,m3,m4,cf,m5⟩:=h.cells hs
 rw[hm]at m1
 cases m1
 have hbl:b<w.heap.size:=(Array.getElem?_eq_some_iff.1 m2).1
 have hidl:=(List.getElem?_eq_some_iff.1 hs).1
 obtain⟨w',hw'⟩: ∃w',w'=grow (putRow (λv:Value=>v) (Sort.ahead w n) b base fl) os:=⟨_,rfl⟩
 have hsz:(putRow (λv:Value=>v) (Sort.ahead w n) b base fl).heap.size=w.heap.size:=by simp[putRow,mapBlock,Sort.ahead]
 have hot: ∀j,j<w.heap.size→j≠b→w'.heap[j]?=w.heap[j]?:=λj hj hne=>by
  rw[hw',heap_grow_old _ _ (by rw[hsz];exact hj)]
  simp only[putRow,mapBlock,Sort.ahead]
  rw[Array.getElem?_modify,if_neg (Ne.symm hne)]
 have hat:w'.heap[b]?=some (.cells (putCells (λv:Value=>v) base fl arr) t' fr):=by
  rw[hw',heap_grow_old _ _ (by rw[hsz];exact hbl)]
  simp only[putRow,mapBlock,Sort.ahead]
  rw[Array.getElem?_modify,if_pos rfl,m2]
  rfl
 have hsize:w.heap.size≤w'.heap.size:=by rw[hw',size_grow,hsz];omega
 have hst:Step w C w' C:=⟨Nat.le_refl _,λ_ _ _ h=>h,λb0 o0 hs0=>by
  have hne:b0≠b:=λe=>by
   obtain⟨e1,hw,cap,e2,_⟩:=hs0.2 id _ hm (by rw[e];rfl)
   cases e2
  refine⟨?_,Nat.lt_of_lt_of_le hs0.1 hsize,hs0.2⟩
  unfold World.cell?
  simp only[hot b0 hs0.1 hne],by rw[hw'];rfl,by rw[hw'];rfl,by rw[hw'];rfl,hsize,λj hj hn=>⟨hot j hj λe=>hn id _ hm (by rw[e];rfl),hn⟩⟩
 rw[←hw']
 refine⟨hst,h.change hst h.low (by rw[h.nx];simp) h.inj h.dom λj=>?_⟩
 by_cases hj:j=id
 ·subst hj
  left
  rw[List.getElem?_set_self hidl,Option.join_some,hm]
  have hps:(putCells (λv:Value=>v) base fl arr).size=arr.size:=by simp[putCells]
  classical
  refine⟨rfl,_,t',fr,hat,by rw[hps];exact mf,by rw[hps];exact m3,by rw[hl];exact m4,λi=>(ys[i]?.bind λy=>if hex: ∃cs,Rel P w C y cs∧cs.length=k∧fits P te y∧ ∀(j:Nat) (c:Value),cs[j]?=some c→fl[i*k+j]?=some c then some (Classical.choose hex)else none).getD [],λi x hx=>?_⟩
  have hex:=hy i x hx
  simp only[hx,Option.bind_some,dif_pos hex,Option.getD_some]
  obtain⟨r1,r2,r3,r4⟩:=Classical.choose_spec hex
  refine⟨r1.mono hst,by rw[hk];exact r2,r3,λq c hq=>?_⟩
  have hflq:=r4 q c hq
  have hql:q<k:=by rw[←r2];exact(List.getElem?_eq_some_iff.1 hq).1
  have hlt:=(Array.getElem?_eq_some_iff.1 hflq).1
  have hin:base+i*k+q<arr.size:=by
   rw[m3]
   rw[hk]at m4
   rw[hfl]at hlt
   omega
  rw[hk]
  simp only[putCells,Array.getElem?_mapIdx]
  rw[Array.getElem?_eq_getElem hin]
  simp only[Option.map_some]
  rw[if_pos ⟨by omega,by omega⟩,show base+i*k+q-base=i*k+q by omega,getElem!_pos fl _ hlt,←(Array.getElem?_eq_some_iff.1 hflq).2]
 ·right
  refine⟨by rw[List.getElem?_set_ne (λe=>hj e.symm)],rfl,λow ho=>hot _ (h.lt ho) λe=>hj (h.inj j id _ _ ho hm (by rw[e];rfl))⟩
end
end Go.Av
end
