/- Texts that the last one of this claim rests on: a layer over the guide's own conditions for code; contracts of the functions that the law reaches, one by one. No conditions beside those of the given rows. -/
import Derived.Shelf.SlSortCmp.NoneTotal
import Derived.Test.YtbooehmmhbioaaaGreatDoorWad
import Derived.Test.YtbooehmmhbioaaaGreatDoorWan
import Derived.Test.YtbooehmmhbioaaaGreatDoorWap
import Derived.Test.YtbooehmmhbioaaaGreatDoorWas
import Derived.Test.YtbooehmmhbioaaaGreatDoorWau
import Derived.Test.YtbooehmmhbioaaaGreatDoorWaw
import Derived.Test.YtbooehmmhbioaaaGreatDoorWax
set_option linter.unusedSimpArgs false
set_option linter.unusedVariables false
section
namespace Go.Proofs.Tryz
open Go Go.Av
set_option maxRecDepth 10000
variable {W0 :World}
def gA (S:Nat):Option cX:=some (.cells 100 [cb S])
def ycM (bx:Nat)(I:Nat→ab→Prop):Int→ab→(ab→Prop)→Prop:=λi σ Qn=>∃ S k,i=((k:Nat):Int)∧S<4294967296∧I S σ∧σ[bx]?=some (gA S)∧k<32∧S.testBit k=true∧(∀j,j<k→S.testBit j=false)∧Qn=λσ'=>σ'[bx]?=some (gA S)∧I (S &&& (S-1)) (σ'.set bx (gA (S &&& (S-1))))
theorem Ee {S:Nat}(h0:S≠0)(hS:S<4294967296): ∃k,k<32∧S.testBit k=true∧ ∀j,j<k→S.testBit j=false:=by
 have hex: ∃k,S.testBit k=true:=by
  refine Classical.byContradiction λhn=>h0 (Nat.eq_of_testBit_eq λi=>?_)
  rw[Nat.zero_testBit]
  cases h:S.testBit i
  ·rfl
  ·exact absurd ⟨i,h⟩ hn
 obtain⟨k,hk,hm⟩:=dO hex
 refine⟨k,?_,hk,λj hj=>?_⟩
 ·refine Classical.byContradiction λhn=>?_
  have:S<2^k:=Nat.lt_of_lt_of_le hS (Nat.pow_le_pow_right (n:=2) (by decide) (show 32≤k by omega))
  rw[Nat.testBit_lt_two_pow this]at hk
  cases hk
 ·cases h:S.testBit j
  ·rfl
  ·have:=hm j h;omega
theorem Jr (hW:rE W0)(bx:Nat)(I:Nat→ab→Prop)(Qx:ab→Prop):GD prog W0 173 [.ptr 100 bx 0 []] (ycM bx I) Qx (λσ=>∃ S,S<4294967296∧I S σ∧σ[bx]?=some (gA S)) (λσ=>I 0 σ):=by
 intro B L U w C σ vs m hU hY u0 hst hl hv hpre
 refine(callsIn_of_wp (F:=.wide) func173 rfl trivial (wpIn_mono (?_:Code.wpIn .wide m prog _ (λe a' w'=>∃ A' C' md',U md' w' C'∧bI prog W0 14 w' C' A' a'∧du prog W0 B w C w' C' A'.st∧(((e= .normal∨e= .ret)∧md'=true∧I 0 A'.st)∨((e= .normal∨e= .ret)∧md'=false∧Qx A'.st))) _ _) λe a' w' ⟨A',C',md',u',r',l',q⟩=>?_))
 ·obtain _|⟨v1,_|⟨_,_⟩⟩:=vs<;>simp at hl
  have hr0:=kl (P:=prog) (W0:=W0) (m:=14) (args:=[.yl L,.ptr 100 bx 0 []]) (vs:=[.func (.yield L) #[] #[],v1]) hst rfl (λi a v ha hv'=>by
   obtain _|_|i:=i
   ·simp at ha hv';subst ha hv';exact .one rfl (.yl L)
   ·simp at ha hv';subst ha hv';exact hv 0 _ _ rfl rfl
   ·simp at ha) (by simp)
  refine(?_:VCY prog W0 B U 14 _ (λe A' md'=>((e= .normal∨e= .ret)∧md'=true∧I 0 A'.st)∨((e= .normal∨e= .ret)∧md'=false∧Qx A'.st)) ⟨gY [.yl L,.ptr 100 bx 0 []],σ⟩ true) w C _ m u0 hr0
  refine VCY.block (VCY.loop (λk A b=>b=true∧A.env 0= .yl L∧A.env 1= .ptr 100 bx 0 []∧ ∃S,k=S∧S<4294967296∧I S A.st∧A.st[bx]?=some (gA S)) (Classical.choose hpre) ⟨rfl,rfl,rfl,_,rfl,Classical.choose_spec hpre⟩ λk A b ⟨hb,hA0,hA1,S,hk,hS,hI,hbx⟩=>?_)
  subst hb hk
  have hbx':=hbx
  unfold gA cb at hbx'
  refine VCY.seq (VCY.of hU (br (fz:=[]) _ _ _ ?_))
  simp only[go_sem,simprocAttr,hA0,hA1,aw hbx',ay hbx']
  refine⟨λh0=>?_,λh0=>?_⟩
  ·have hS0:k≠0:=by omega
   obtain⟨j,hj,hjb,hjl⟩:=Ee hS0 hS
   refine VCY.seq (VCY.block (VCY.seq (VCY.J8 (fz:=[]) (L:=L) (Qn:=λσ'=>σ'[bx]?=some (gA k)∧I (k &&& (k-1)) (σ'.set bx (gA (k &&& (k-1))))) (Qx:=Qx) (i:=(j:Int)) (K:=λA1=>A1.env 9= .yl L∧A1.env 11= .int .i64 j∧A1.env 1= .ptr 100 bx 0 []∧A1.env 0= .yl L∧A1.st=A.st) 3 hU rfl (by decide) ?_ λA1 ⟨e9,e11,e1,e0,est⟩=>⟨e9,e11,λw2 C2 u2 hst2=>?_,λσ' hq=>?_,λσ' hq=>?_⟩)))
   ·simp only[List.take_succ_cons,List.take_zero]
    simp only[go_sem,simprocAttr,hA0,hA1,aw hbx',ay hbx']
    refine ak.fn (SP hW hS hj hjb hjl) ?_
    simp only[go_sem,simprocAttr]
    exact⟨hA1,hA0⟩
   ·rw[est]at hst2
    exact hY _ w2 C2 A.st _ u2 hst2 ⟨k,j,rfl,hS,hI,hbx,hj,hjb,hjl,rfl⟩
   ·obtain⟨hq1,hq2⟩:=hq
    have hq1':=hq1
    unfold gA cb at hq1'
    simp only[List.drop_succ_cons,List.drop_zero]
    simp only[go_sem,simprocAttr,e9,e11,e1,e0,est]
    refine VCY.of hU (br (fz:=[]) _ _ _ ?_)
    simp only[go_sem,simprocAttr]
    refine VCY.of hU (br (fz:=[]) _ _ _ ?_)
    have hand:bits .and .u32 (k:Int) (IntKind.u32.wrap ((k:Int)-1))=((k &&& (k-1):Nat):Int):=by
     rw[show IntKind.u32.wrap ((k:Int)-1)=((k-1:Nat):Int) by rw[IntKind.wrap_u32];omega]
     exact fI k (k-1) hS (by omega)
    simp only[go_sem,simprocAttr,e9,e11,e1,e0,est,aw hq1',ay hq1',hand,aR hq1']
    have hle:k &&& (k-1)≤k-1:=Nat.and_le_right
    exact⟨k &&& (k-1),by omega,_,rfl,by omega,hq2,List.getElem?_set_self (List.getElem?_eq_some_iff.1 hq1).1⟩
   ·simp only[List.drop_succ_cons,List.drop_zero]
    simp only[go_sem,simprocAttr,e9,e11,e1,e0,est]
    refine VCY.of hU (br (fz:=[]) _ _ _ ?_)
    simp only[go_sem,simprocAttr]
    exact .inr ⟨.inr trivial,hq⟩
  ·have hS0:k=0:=by omega
   subst hS0
   exact .inl ⟨.inl trivial,hI⟩
 ·obtain⟨fin,hmd⟩:(e= .normal∨e= .ret)∧((md'=true∧I 0 A'.st)∨(md'=false∧Qx A'.st)):=by
   rcases q with⟨h1,h2⟩|⟨h1,h2⟩
   ·exact⟨h1,.inl h2⟩
   ·exact⟨h1,.inr h2⟩
  have key: ∀fn:Func,fn.results= #[]→a'.defers=[]∧ ∃v,(results fn a'.tmps).run prog w'= .ok v w'∧ ∃v' C' σ',Ending.returned v= .returned v'∧du prog W0 B w C w' C' σ'∧((U true w' C'∧I 0 σ')∨(U false w' C'∧Qx σ')):=λfn hfn=>by
   obtain⟨v,g1,g2⟩:=lG (fn:=fn) (ts:=[]) r' hfn
   refine⟨r'.defers,v,g1,v,C',_,rfl,l',?_⟩
   rcases hmd with⟨h1,h2⟩|⟨h1,h2⟩
   ·subst h1;exact .inl ⟨u',h2⟩
   ·subst h1;exact .inr ⟨u',h2⟩
  rcases fin with rfl|rfl
  ·exact key _ rfl
  ·exact key _ rfl
theorem pV {n p:Nat}{fz:List Nat}{g:Operand}{asg body:Code}{Q:Exit→aa→Prop}{A:aa}(hW:rE W0)(bx:Nat)(I:Nat→ab→Prop)(X:ab→Prop)(S0:Nat)(hg:A.val g= .fn 173 [.ptr 100 bx 0 []])(hp:p<n)(hS0:S0<4294967296)(hbx:A.st[bx]?=some (gA S0))(h0:I S0 A.st)
  (round: ∀(S k:Nat) (σ:ab),S<4294967296→I S σ→σ[bx]?=some (gA S)→k<32→S.testBit k=true→(∀j,j<k→S.testBit j=false)→
   cVC prog W0 n fz asg (bU (cVC prog W0 n fz body (sw (λσ'=>σ'[bx]?=some (gA S)∧I (S &&& (S-1)) (σ'.set bx (gA (S &&& (S-1))))) X)) λ_ _=>False) ((A.an σ).upd p (.int .i64 (k:Int))))
  (he: ∀σ,I 0 σ→Q .normal (A.an σ)) (hx: ∀σ,X σ→Q .ret (A.an σ)):wA prog W0 n fz g #[p] asg .mk body .mk Q .mk A:=
 VCM.range hg hp (enters_of func173 (by kernel_rfl) rfl) (Jr hW bx I X) ⟨S0,hS0,h0,hbx⟩ (λi σ Qn hy=>by
  obtain⟨S,k,rfl,hS,hI,hb,hk,h1,h2,rfl⟩:=hy
  refine(br asg _ _ (round S k σ hS hI hb hk h1 h2)).mono λe A' q=>?_
  cases e with
  |normal=>exact br body _ _ q
  |_=>exact q) he hx
@[go_sem ↓] theorem Iw {Qn Qr:ab→Prop}{A:aa}:sw Qn Qr .normal A=Qn A.st:=rfl
@[go_sem ↓] theorem MC {Qn Qr:ab→Prop}{A:aa}:sw Qn Qr .ret A=Qr A.st:=rfl
end Go.Proofs.Tryz
end
section
namespace Go.Av
open Go
theorem aY.back {P:Program}{W0:World}{f:FuncId}{args:List AV}{r:AV}{σ:ab}(hr:aU σ.length r)(h:aY P W0 f args σ λr' σ'=>cR r' r∧Ext σ σ'):aY P W0 f args σ λr' σ'=>r'=r∧σ'=σ:=λw C vs hst hl hv=>
 (h w C vs hst hl hv).mono λe w' ⟨v,r',σ',C',he,⟨hw,hx⟩,hs,hrv,hstep⟩=>by
  have hs2:aB P W0 w' (C'.dB σ.length) σ:=by
   have:=hs.dB (n:=σ.length) hx.le λid te xs hid hss=>hst.ids (show σ[id]?=some (some (.cells te xs)) by
    have e:=congrArg (·[id]?) hx
    simp only[List.getElem?_take,if_pos hid]at e
    rw[←e];exact hss)
   rwa [hx]at this
  exact⟨v,r,σ,C'.dB σ.length,he,⟨rfl,rfl⟩,hs2,(hrv.bZ hw).dB hr,hstep.dB (by rw[hst.nx];exact Nat.le_refl _)⟩
theorem fB {n k S:Nat}(hS:S<2^n)(hk:n≤k):aV k S=aV n S:=by
 refine List.Perm.eq_of_pairwise (le:=(· < ·)) (λa b _ _ h1 h2=>by omega) (List.Pairwise.sublist List.filter_sublist List.pairwise_lt_range) (List.Pairwise.sublist List.filter_sublist List.pairwise_lt_range) ?_
 have nd: ∀m,(aV m S).Nodup:=λm=>(List.Pairwise.sublist List.filter_sublist List.pairwise_lt_range:(aV m S).Pairwise (· < ·)).imp λ{a b} h=>by omega
 rw[List.perm_ext_iff_of_nodup (nd k) (nd n)]
 intro i
 rw[bK,bK]
 constructor
 ·rintro⟨h1,h2⟩
  refine⟨Classical.byContradiction λhn=>?_,h2⟩
  rw[Nat.testBit_lt_two_pow (Nat.lt_of_lt_of_le hS (Nat.pow_le_pow_right (n:=2) (by decide) (by omega)))]at h2
  cases h2
 ·rintro⟨h1,h2⟩
  exact⟨by omega,h2⟩
theorem kU (k:Nat):aV k 0=[]:=by
 unfold aV
 exact List.filter_eq_nil_iff.2 λi _=>by simp
end Go.Av
namespace Go.Proofs.Tryz
open Go Go.Av
set_option maxRecDepth 10000
set_option maxHeartbeats 1000000
variable {W0 :World}
variable {a0 a1 a2 a3 a4 a6 a7 a8 a9 a10 a11 a12:AV}
def dK (all:List Pkg)(s:List aG)(l:List aS):AV:=.sl 102 ((List.range all.length).map λi=>gi all s l i ((all[i]?).getD we))
theorem yh {all:List Pkg}{s:List aG}{l:List aS}{i:Nat}{p:Pkg}(h:all[i]?=some p):((List.range all.length).map λi=>gi all s l i ((all[i]?).getD we))[i]?=some (gi all s l i p):=by
 rw[List.getElem?_map,List.getElem?_range (List.getElem?_eq_some_iff.1 h).1,Option.map_some,h]
 rfl
theorem qG {all:List Pkg}{s:List aG}{l:List aS}{i:Nat}{p:Pkg}(h:all[i]?=some p):atV ((List.range all.length).map λi=>gi all s l i ((all[i]?).getD we)) (i:Int)= .agg 102 [.bool (mo l s p),cb (gh all i),dY ((p.pre++p.dep).map (eS all)),dY (p.rcm.map (eS all)),.int .i64 (cH all p),.bool (xG s p)]:=by
 unfold atV
 rw[Int.toNat_natCast,yh h]
 rfl
theorem zd (n S:Nat)(hn:n<4294967296)(hS:S<4294967296):ag prog W0 167 [cb n,.loc 100 (cb S)] (.bool (n &&& S==0)):=by
 refine al [3] [] func167 rfl rfl ntmps167 rfl rfl (.bool _) λhs σ=>?_
 have hb:=fI n S hn hS
 simp only[go_sem,simprocAttr,cb,hb]
 rw[show(((n &&& S:Nat):Int)==0)=(n &&& S==0) by rw[Bool.eq_iff_iff];simp]
 exact .refl _
theorem Bc (hW:rE W0)(σ:ab)(id:Nat)(all:List Pkg)(s:List aG)(l:List aS)(S:Nat)(h24:all.length≤24)(hS:S<2^all.length)(hid:σ[id]?=some (cm a0 a1 a2 a3 a4 (dK all s l) a6 a7 a8 a9 a10 a11 a12)):
  aY prog W0 118 [.ptr 96 id 0 [],cb S] σ λr σ'=>r= .bool (eO all S)∧σ'=σ:=by
 have hidl:=(List.getElem?_eq_some_iff.1 hid).1
 have hS32:S<4294967296:=Nat.lt_of_lt_of_le hS (Nat.pow_le_pow_right (n:=2) (by decide) (show all.length≤32 by omega))
 refine aY.back (.bool _) ?_
 refine qJ [.cell 4 4] [2,3] func118 rfl rfl ntmps118 rfl rfl λhs=>?_
 simp only[go_sem,simprocAttr,cb]
 refine ak.goes (by simp only[go_sem,simprocAttr]) (nO S (σ++[some (.cells 4 [.bool false])])) λr σ1 ⟨hr,hσ1⟩=>?_
 subst hr hσ1
 simp only[go_sem,simprocAttr]
 have hbx: ∀S',(σ++[some (.cells 4 [.bool false]),gA S'])[σ.length+1]?=some (gA S'):=λS'=>by rw[List.getElem?_append_right (by simp)];simp
 have hidτ: ∀S',(σ++[some (.cells 4 [.bool false]),gA S'])[id]?=some (cm a0 a1 a2 a3 a4 (dK all s l) a6 a7 a8 a9 a10 a11 a12):=λS'=>by rw[List.getElem?_append_left hidl,hid]
 have hset: ∀S' b S'',(σ++[some (.cells 4 [.bool b]),gA S']).set (σ.length+1) (gA S'')=σ++[some (.cells 4 [.bool b]),gA S'']:=λS' b S''=>by rw[List.set_append_right _ _ (by omega)];simp
 have hre: ∀S',(σ++[some (.cells 4 [.bool false]),gA S'])[σ.length]?=some (some (.cells 4 [.bool false])):=λS'=>by rw[List.getElem?_append_right (by simp)];simp
 have hhl:eO all S=(aV 32 S).all λi=>(nE all i).all λn=>n &&& S !=0:=by rw[fB hS (by omega)];rfl
 refine pV hW (σ.length+1) (λS' τ=>τ=σ++[some (.cells 4 [.bool false]),gA S']∧ ∃done,aV 32 S=done++aV 32 S'∧ ∀i∈done,((nE all i).all λn=>n &&& S !=0)=true)
  (λτ=>Ext σ τ∧τ[σ.length]?=some (some (.cells 4 [.bool false]))∧eO all S=false) S (by simp only[go_sem,simprocAttr]) (by decide) hS32 (by simp only[go_sem,simprocAttr];exact hbx S) ⟨by simp only[go_sem,simprocAttr];rfl,[],rfl,λi hi=>by cases hi⟩
  (λS' k τ hS' ⟨hτ,done,hd1,hd2⟩ hb hk hkb hkl=>?_) (λτ ⟨hτ,done,hd1,hd2⟩=>?_) (λτ ⟨hτ,hf,hn⟩=>?_)
 ·subst hτ
  have hlow:=lS (k:=32) hkb hkl hk
  have hkS:k∈aV 32 S:=by rw[hd1,hlow];simp
  have hkn:k<all.length:=by rw[fB hS (by omega)]at hkS;exact(bK.1 hkS).1
  obtain⟨p,hp⟩:=get_some hkn
  have hfa:=yh (s:=s) (l:=l) hp
  have hid1:=hidτ S'
  have hre1:=hre S'
  unfold cm dK at hid1
  have han:=TO (W0:=W0) cb (λ_=>trivial) ((p.pre++p.dep).map (eS all)) (λn=>n &&& S==0) 167 [.loc 100 (cb S)] (λn hn=>by
   have hn32:n<4294967296:=by
    obtain⟨c,_,rfl⟩:=List.mem_map.1 hn
    exact kA λz hz=>by have:=(List.mem_filter.1 hz).1;rw[List.mem_range]at this;omega
   exact zd n S hn32 hS32)
  have hany:(((p.pre++p.dep).map (eS all)).any λn=>n &&& S==0)= !((nE all k).all λn=>n &&& S !=0):=by
   unfold nE
   rw[hp,List.all_eq_not_any_not,Bool.not_not]
   congr 1
   funext n
   cases h:(n &&& S==0)<;>simp[bne,h]
  have hat:=qG (s:=s) (l:=l) hp
  have hlen:((List.range all.length).map λi=>gi all s l i ((all[i]?).getD we)).length=all.length:=by rw[List.length_map,List.length_range]
  simp only[go_sem,simprocAttr,aw hid1,ay hid1,hat,hlen]
  refine⟨hkn,ak.fn (r:=.bool _) han ?_⟩
  rw[hany]
  simp only[go_sem,simprocAttr,aR hre1]
  refine⟨λhno=>⟨Ext.app (.refl _) _,?_⟩,λhyes=>⟨hbx S',done++[k],?_,λi hi=>?_⟩⟩
  ·rw[hhl,List.all_eq_false]
   exact⟨k,hkS,by simpa using hno⟩
  ·rw[hd1,hlow,List.append_assoc]
   rfl
  ·rcases List.mem_append.1 hi with hi|hi
   ·exact hd2 i hi
   ·rw[List.mem_singleton]at hi
    subst hi
    simpa using hyes
 ·subst hτ
  rw[kU,List.append_nil]at hd1
  have hre1:=hre 0
  simp only[go_sem,simprocAttr,aR hre1]
  refine cI.ret ?_
  have hre2:(σ++[some (.cells 4 [.bool true]),gA 0])[σ.length]?=some (some (.cells 4 [.bool true])):=by rw[List.getElem?_append_right (by simp)];simp
  have hT:eO all S=true:=by rw[hhl,hd1,List.all_eq_true];exact hd2
  rw[hT]
  simp only[go_sem,simprocAttr,aw hre2,ay hre2]
  exact⟨_,.refl _,by simp,.refl _,Ext.app (.refl _) _⟩
 ·simp only[go_sem,simprocAttr]
  refine cI.ret ?_
  rw[hn]
  have hle:=hτ.le
  simp only[go_sem,simprocAttr,aw hf,ay hf]
  exact⟨_,.refl _,hle,.refl _,hτ⟩
end Go.Proofs.Tryz
end
section
namespace Go.Av
open Go
theorem yt (K k:Nat):(K &&& 2^k==0)= !K.testBit k:=by
 rw[and_zero]
 congr 1
 rw[Bool.eq_iff_iff,sH]
 constructor
 ·rintro⟨i,h1,h2⟩
  rw[Nat.testBit_two_pow]at h2
  have:k=i:=of_decide_eq_true h2
  rw[this];exact h1
 ·intro h
  exact⟨k,h,by rw[Nat.testBit_two_pow];simp⟩
theorem zL (l:List Nat)(a:Nat):orN (l++[a])=orN l ||| a:=by
 induction l with
 |nil=>simp[orN]
 |cons b r ih=>rw[List.cons_append,orN,ih,orN,Nat.or_assoc]
theorem E6 {l:List Nat}(h: ∀a∈l,a<4294967296):orN l<4294967296:=by
 induction l with
 |nil=>decide
 |cons b r ih=>rw[orN];exact Nat.or_lt_two_pow (n:=32) (h b (by simp)) (ih λa ha=>h a (by simp[ha]))
theorem rb (k S:Nat):(aV k S).length≤k:=by
 unfold aV
 exact Nat.le_trans (List.length_filter_le _ _) (by rw[List.length_range];exact Nat.le_refl _)
end Go.Av
namespace Go.Proofs.Tryz
open Go Go.Av
set_option maxRecDepth 10000
set_option maxHeartbeats 1000000
variable {W0 :World}
variable {a0 a1 a2 a3 a4 a8 a9 a10 a11 a12:AV}
def Ak (ch un ad nw:Int)(kn:Nat):ab:=[some (.cells 39 [.agg 39 [.int .i64 0,.int .i64 0,.int .i64 0,.int .i64 0,.int .i64 0]]),some (.cells 3 [.int .i64 ch]),some (.cells 3 [.int .i64 un]),some (.cells 3 [.int .i64 ad]),some (.cells 3 [.int .i64 nw]),some (.cells 100 [.int .u32 (kn:Nat)])]
def nU (ch un ad nw:Int)(kn S:Nat)(J:ab):ab:=some (.cells 39 [.agg 39 [.int .i64 0,.int .i64 0,.int .i64 0,.int .i64 0,.int .i64 0]])::some (.cells 3 [.int .i64 ch])::some (.cells 3 [.int .i64 un])::some (.cells 3 [.int .i64 ad])::some (.cells 3 [.int .i64 nw])::some (.cells 100 [.int .u32 (kn:Nat)])::some (.cells 100 [.int .u32 (S:Nat)])::J
theorem FN (hW:rE W0)(σ:ab)(id:Nat)(all:List Pkg)(s:List aG)(l:List aS)(S:Nat)(up:Bool)(h24:all.length≤24)(hrc: ∀p∈all,p.rcm.length≤1048576)(GY:s.length≤10)(hS:S<2^all.length)
  (hid:σ[id]?=some (cm a0 a1 a2 a3 a4 (dK all s l) (dY (s.map (gB all))) (.bool up) a8 a9 a10 a11 a12)):
  aY prog W0 119 [.ptr 96 id 0 [],cb S] σ λr σ'=>r=dF (jn all s S up)∧σ'=σ:=by
 have hidl:=(List.getElem?_eq_some_iff.1 hid).1
 have hS32:S<4294967296:=Nat.lt_of_lt_of_le hS (Nat.pow_le_pow_right (n:=2) (by decide) (show all.length≤32 by omega))
 refine aY.back (dW (Nat.zero_le _) (FW _)) ?_
 refine qJ [.cell 4 39] [2,3,14] func119 rfl rfl ntmps119 rfl rfl λhs=>?_
 have hid1: ∀τ,(σ++τ)[id]?=some (cm a0 a1 a2 a3 a4 (dK all s l) (dY (s.map (gB all))) (.bool up) a8 a9 a10 a11 a12):=λτ=>by rw[List.getElem?_append_left hidl,hid]
 have hid2:=hid1
 unfold cm dY at hid2
 have hln:(s.map (gB all)).length=s.length:=List.length_map ..
 have hthere: ∀a∈s.map (gB all),a<4294967296:=λa ha=>by
  obtain⟨x,_,rfl⟩:=List.mem_map.1 ha
  exact kA λz hz=>by have:=(List.mem_filter.1 hz).1;rw[List.mem_range]at this;omega
 obtain⟨L,hL⟩: ∃L,L=s.map (gB all):=⟨_,rfl⟩
 rw[←hL]at hln hthere
 have hLl:(L.map cb).length=s.length:=by rw[List.length_map,hln]
 simp only[go_sem,simprocAttr,cb,aw (hid2 _),ay (hid2 _),←hL,hLl]
 refine ae.at [2,3,4,6,7,8,9,10] (.of (by kernel_rfl)) (λA=>A.env 5= .int .i64 (L.filter λx=>x &&& S==0).length∧A.st=σ++Ak 0 0 0 0 (orN L)) ?_ λB ⟨h5,hst⟩=>?_
 ·refine ae.upto [2,3,4,6,7,8,9,10,20,21] (.of (by kernel_rfl)) s.length (λi A=>A.env 22= .int .i64 i∧A.env 5= .int .i64 ((L.take i).filter λx=>x &&& S==0).length∧A.st=σ++Ak 0 0 0 0 (orN (L.take i))) 0 (Nat.zero_le _) ?_ λi B hi ⟨h22,h5,hst⟩=>?_
  ·simp only[go_sem,simprocAttr]
   exact⟨rfl,rfl⟩
  unfold Ak at hst
  simp only[go_sem,simprocAttr,h22,h5,hst]
  refine⟨λhlt=>?_,λhge=>?_⟩
  ·obtain⟨y,hy⟩:=get_some (show i<L.length by omega)
   have hyl:=hthere y (List.mem_of_getElem? hy)
   have hkl:orN (L.take i)<4294967296:=E6 λa ha=>hthere a (List.mem_of_mem_take ha)
   have hor:=hZ _ _ hkl hyl
   have hand:=fI _ _ hyl hS32
   have hatV:atV (L.map cb) (i:Int)= .int .u32 y:=av hy
   have hc:=zU (λx=>x &&& S==0) hy
   have hcl:=GZ (λx=>x &&& S==0) L i
   simp only[go_sem,simprocAttr,h22,h5,hst,hatV,hor,hand,hLl]
   refine⟨hlt,λhz=>⟨hlt,ah hlt (by rw[aq];omega),?_,?_⟩,λhz=>⟨hlt,ah hlt (by rw[aq];omega),?_,?_⟩⟩
   ·rw[hc,if_pos (by simpa using hz)]
    exact ah (N:=11) (by omega) (by rw[aq];omega)
   ·rw[aj hy,zL];rfl
   ·rw[hc,if_neg (by simpa using hz)]
    rfl
   ·rw[aj hy,zL];rfl
  ·rw[List.take_of_length_le (show L.length≤i by omega)]
   exact⟨rfl,rfl⟩
 have hst0:=hst
 unfold Ak at hst
 simp only[go_sem,simprocAttr,hst]
 refine ak.goes (by simp only[go_sem,simprocAttr];exact hst) (nO S (σ++Ak 0 0 0 0 (orN L))) λr σ1 ⟨hr,hσ1⟩=>?_
 subst hr hσ1
 have hbn:(σ++Ak 0 0 0 0 (orN L)).length=σ.length+6:=by simp[Ak]
 rw[hbn]
 simp only[go_sem,simprocAttr,Ak]
 have hbx: ∀ch un ad nw kn S' J,(σ++nU ch un ad nw kn S' J)[σ.length+6]?=some (gA S'):=λch un ad nw kn S' J=>by rw[List.getElem?_append_right (by omega)];simp[nU,gA,cb]
 have hset: ∀ch un ad nw kn S' S'' J,(σ++nU ch un ad nw kn S' J).set (σ.length+6) (gA S'')=σ++nU ch un ad nw kn S'' J:=λch un ad nw kn S' S'' J=>by rw[List.set_append_right _ _ (by omega)];simp[nU,gA,cb]
 obtain⟨un,hun⟩: ∃un:Nat→Nat,un=λi=>((tc all i).filter λw=>w &&& S==0).length:=⟨_,rfl⟩
 refine pV hW (σ.length+6) (λS' τ=>∃ done J,aV 32 S=done++aV 32 S'∧τ=σ++nU (done.filter (gS all s)).length (done.map un).sum (done.filter λi=>!(orN L).testBit i).length (done.map (dA all)).sum (orN L) S' J)
  (λτ=>False) S (by simp only[go_sem,simprocAttr]) (by decide) hS32 (by simp only[go_sem,simprocAttr];exact hbx 0 0 0 0 _ S []) ⟨[],[],rfl,by simp only[go_sem,simprocAttr];rfl⟩
  (λS' k τ hS' ⟨done,J,hd1,hτ⟩ hb hk hkb hkl=>?_) (λτ ⟨done,J,hd1,hτ⟩=>?_) (λτ hf=>hf.elim)
 ·subst hτ
  have hlow:=lS (k:=32) hkb hkl hk
  have hkS:k∈aV 32 S:=by rw[hd1,hlow];simp
  have hkn:k<all.length:=by rw[fB hS (by omega)]at hkS;exact(bK.1 hkS).1
  obtain⟨p,hp⟩:=get_some hkn
  have hpr:=hrc p (List.mem_of_getElem? hp)
  have hat:=qG (s:=s) (l:=l) hp
  have hlen:((List.range all.length).map λi=>gi all s l i ((all[i]?).getD we)).length=all.length:=by rw[List.length_map,List.length_range]
  have hid3:=hid1
  unfold cm dK at hid3
  unfold nU
  have hdl:done.length+1≤32:=by
   have h1:=rb 32 S
   rw[hd1,hlow,List.length_append,List.length_cons]at h1
   omega
  have hch:xG s p=gS all s k:=by unfold xG gS;simp only[hp];cases eo s p.name<;>rfl
  have hnw:dA all k=cH all p:=by unfold dA;rw[hp]
  have hnl: ∀i,dA all i≤24:=λi=>by
   unfold dA
   split
   ·unfold cH;exact Nat.le_trans (List.length_filter_le _ _) h24
   ·omega
  have hns:=mM (l:=done) (f:=dA all) λa _=>hnl a
  have hcf:=List.length_filter_le (gS all s) done
  have haf:=List.length_filter_le (λi=>!(orN L).testBit i) done
  have hchs:((done++[k]).filter (gS all s)).length=(done.filter (gS all s)).length+if gS all s k=true then 1 else 0:=by
   rw[List.filter_append,List.length_append,List.filter_cons,List.filter_nil]
   congr 1
   split<;>rfl
  have hads:((done++[k]).filter λi=>!(orN L).testBit i).length=(done.filter λi=>!(orN L).testBit i).length+if (!(orN L).testBit k)=true then 1 else 0:=by
   rw[List.filter_append,List.length_append,List.filter_cons,List.filter_nil]
   congr 1
   split<;>rfl
  have hnws:((done++[k]).map (dA all)).sum=(done.map (dA all)).sum+cH all p:=by
   rw[List.map_append,List.sum_append,←hnw];simp
  have hwn:IntKind.i64.wrap (((done.map (dA all)).sum:Int)+(cH all p:Int))=(((done++[k]).map (dA all)).sum:Nat):=by
   have:=hnl k
   rw[hnw]at this
   rw[hnws,aE (by omega)]
   omega
  simp only[go_sem,simprocAttr,aw (hid3 _),ay (hid3 _),hat,hlen,hwn]
  refine⟨hkn,cB.at [3,7,8,10,13,14] (by kernel_rfl) (λA=>∃ J',A.st=σ++nU ((done++[k]).filter (gS all s)).length (done.map un).sum (done.filter λi=>!(orN L).testBit i).length ((done++[k]).map (dA all)).sum (orN L) S' J') (λhc=>?_) (λhc=>?_) λB1 ⟨J1,hst1⟩=>?_⟩
  ·rw[hch]at hc
   rw[if_pos hc]at hchs
   have hw:IntKind.i64.wrap (((done.filter (gS all s)).length:Int)+1)=(((done++[k]).filter (gS all s)).length:Nat):=by
    rw[hchs,aE (by omega)]
    omega
   simp only[go_sem,simprocAttr,hw]
   exact⟨_,rfl⟩
  ·rw[hch]at hc
   rw[if_neg (by rw[hc];decide)]at hchs
   simp only[go_sem,simprocAttr]
   rw[hchs]
   exact⟨_,rfl⟩
  ·unfold nU at hst1
   have hok:orN L<4294967296:=E6 hthere
   have hand:=fI (orN L) (2^k) hok (lI hk)
   simp only[go_sem,simprocAttr,hst1]
   refine⟨.of (by kernel_rfl),aA.fn (qk k hk) ?_⟩
   have hz:(((orN L &&& 2^k:Nat):Int)==0)= !(orN L).testBit k:=by
    rw[←yt,Bool.eq_iff_iff];simp
   simp only[go_sem,simprocAttr,hst1,hand,hz]
   refine cB.at [3,7,14] (by kernel_rfl) (λA=>∃ J',A.st=σ++nU ((done++[k]).filter (gS all s)).length (done.map un).sum ((done++[k]).filter λi=>!(orN L).testBit i).length ((done++[k]).map (dA all)).sum (orN L) S' J') (λhc=>?_) (λhc=>?_) λB2 ⟨J2,hst2⟩=>?_
   ·rw[if_pos hc]at hads
    have hw:IntKind.i64.wrap (((done.filter λi=>!(orN L).testBit i).length:Int)+1)=(((done++[k]).filter λi=>!(orN L).testBit i).length:Nat):=by
     rw[hads,aE (by omega)]
     omega
    simp only[go_sem,simprocAttr,hst1,hw]
    exact⟨_,rfl⟩
   ·rw[if_neg (by rw[hc];decide)]at hads
    simp only[go_sem,simprocAttr,hst1]
    rw[hads]
    exact⟨_,rfl⟩
   ·have hst20:=hst2
    unfold nU at hst2
    obtain⟨ws,hws⟩: ∃ws,ws=p.rcm.map (eS all):=⟨_,rfl⟩
    have hwl:ws.length≤1048576:=by rw[hws,List.length_map];exact hpr
    have hwk:tc all k=ws:=by unfold tc;rw[hws];simp only[hp]
    have hw32: ∀a∈ws,a<4294967296:=λa ha=>by
     rw[hws]at ha
     obtain⟨c,_,rfl⟩:=List.mem_map.1 ha
     exact kA λz hz=>by have:=(List.mem_filter.1 hz).1;rw[List.mem_range]at this;omega
    have huk:un k=(ws.filter λw=>w &&& S==0).length:=by rw[hun];simp only[hwk]
    have hul: ∀i,un i≤1048576:=λi=>by
     rw[hun]
     refine Nat.le_trans (List.length_filter_le _ _) ?_
     unfold tc
     split
     ·rename_i q hq
      rw[List.length_map]
      exact hrc q (List.mem_of_getElem? hq)
     ·simp
    have hus:=mM (l:=done) (f:=un) λa _=>hul a
    have hwsl:(ws.map cb).length=ws.length:=List.length_map ..
    simp only[go_sem,simprocAttr,hst2,dY,←hws,hwsl]
    refine ae.ats [3,7,62,63] (.of (by kernel_rfl)) (λA=>A.st=σ++nU ((done++[k]).filter (gS all s)).length ((done++[k]).map un).sum ((done++[k]).filter λi=>!(orN L).testBit i).length ((done++[k]).map (dA all)).sum (orN L) S' J2) ?_ λB3 hst3=>?_
    ·refine ae.upto [3,7,62,63] (.of (by kernel_rfl)) ws.length (λi A=>A.env 64= .int .i64 i∧A.st=σ++nU ((done++[k]).filter (gS all s)).length (((done.map un).sum+((ws.take i).filter λw=>w &&& S==0).length:Nat):Int) ((done++[k]).filter λi=>!(orN L).testBit i).length ((done++[k]).map (dA all)).sum (orN L) S' J2) 0 (Nat.zero_le _) ?_ λi B3 hi ⟨h64,hst3⟩=>?_
     ·simp only[go_sem,simprocAttr,hst2]
      rfl
     unfold nU at hst3
     simp only[go_sem,simprocAttr,h64,hst3]
     refine⟨λhlt=>?_,λhge=>?_⟩
     ·obtain⟨y,hy⟩:=get_some hlt
      have hand2:=fI y S (hw32 y (List.mem_of_getElem? hy)) hS32
      have hatV:atV (ws.map cb) (i:Int)= .int .u32 y:=av hy
      have hc:=zU (λw=>w &&& S==0) hy
      have hcl:=GZ (λw=>w &&& S==0) ws i
      have hw2:IntKind.i64.wrap ((((done.map un).sum+((ws.take i).filter λw=>w &&& S==0).length:Nat):Int)+1)=(((done.map un).sum+((ws.take i).filter λw=>w &&& S==0).length+1:Nat):Int):=by
       rw[aE (by omega)]
       omega
      simp only[go_sem,simprocAttr,h64,hst3,hatV,hand2,hwsl,hw2]
      refine⟨hlt,λhz=>⟨hlt,ah hlt (by rw[aq];omega),?_⟩,λhz=>⟨hlt,ah hlt (by rw[aq];omega),?_⟩⟩
      ·rw[hc,if_pos (by simpa using hz)]
       rfl
      ·rw[hc,if_neg (by simpa using hz)]
       rfl
     ·rw[List.take_of_length_le hge,←huk,show(done.map un).sum+un k=((done++[k]).map un).sum by rw[List.map_append,List.sum_append];simp]
      rfl
    ·simp only[go_sem,simprocAttr,hst3]
     exact⟨hbx _ _ _ _ _ _ _,done++[k],J2,by rw[hd1,hlow,List.append_assoc];rfl,rfl⟩
 ·subst hτ
  rw[kU,List.append_nil]at hd1
  have hid3:=hid1
  unfold cm at hid3
  unfold nU
  have hcost:jn all s S up=yD up (L.filter λx=>x &&& S==0).length (done.filter (gS all s)).length (done.map un).sum (done.filter λi=>!(orN L).testBit i).length (done.map (dA all)).sum:=by
   unfold jn
   rw[←fB hS (show all.length≤32 by omega),hd1,hL,hun,List.filter_map,List.length_map]
   rfl
  rw[hcost]
  simp only[go_sem,simprocAttr,aw (hid3 _),ay (hid3 _),h5]
  refine⟨λhup=>cI.ret ?_,λhup=>cI.ret ?_⟩
  ·subst hup
   simp only[go_sem,simprocAttr]
   exact⟨_,.refl _,by simp,.refl _,Ext.app (.refl _) _⟩
  ·subst hup
   simp only[go_sem,simprocAttr]
   exact⟨_,.refl _,by simp,.refl _,Ext.app (.refl _) _⟩
end Go.Proofs.Tryz
end
section
namespace Go.Av
open Go.Proofs.Tryz
theorem DJ {α:Type}(l:List α):(List.range l.length).filterMap (l[·]?)=l:=by
 induction l with
 |nil=>rfl
 |cons a r ih=>
  rw[List.length_cons,List.range_succ_eq_map,List.filterMap_cons,List.getElem?_cons_zero,List.filterMap_map]
  exact congrArg (a:: ·) ih
theorem Ay (all:List Pkg)(S:Nat):(atL all (aV all.length S)).Sublist all:=by
 have h2:(atL all (aV all.length S)).Sublist ((List.range all.length).filterMap (all[·]?)):=by
  unfold atL aV
  exact List.Sublist.filterMap _ List.filter_sublist
 rwa [DJ]at h2
theorem wV {l:List Pkg}(h:bg l=0):(cG l []).length≤10:=by
 unfold bg at h
 split at h
 ·cases h
 ·split at h
  ·rename_i h2;exact absurd h h2
  ·split at h
   ·cases h
   ·split at h
    ·cases h
    ·omega
theorem Bk {l m:List Pkg}(hs:l.Sublist m)(h:bg m=0):bg l=0:=by
 have h1:=wV h
 refine vB (Nat.le_trans hs.length_le (dH h)) (λp hp=>cW h (hs.subset hp)) ((eV h).1.sublist hs) (Nat.le_trans (mO _ _ (eQ l [] List.nodup_nil) λx hx=>?_) h1)
 rw[fx]at hx ⊢
 rcases hx with hx|⟨p,hp,e⟩
 ·exact .inl hx
 ·exact .inr ⟨p,hs.subset hp,e⟩
theorem Eu {l m:List Pkg}(hs:l.Sublist m)(h:bg m=0)(ho:m=cw m):cw l=l:=by
 have h1:lx m:=by rw[ho];exact iT (eV h).2
 exact px (h1.sublist hs)
end Go.Av
namespace Go.Proofs.Tryz
open Go Go.Av
set_option maxRecDepth 10000
set_option maxHeartbeats 1000000
variable {W0 :World}
variable {a1 a2 a3 a4 a5 a6 a7 a8 a9 a10 a11 a12:AV}
def tq (v:AV):Option cX:=some (.cells 22 [v])
theorem Hy (hW:rE W0)(σ:ab)(id:Nat)(all:List Pkg)(S:Nat)(h0:bg all=0)(ho:all=cw all)(hmn: ∀p∈all,lp p)(hS:S<2^all.length)
  (hid:σ[id]?=some (cm (aT all) a1 a2 a3 a4 a5 a6 a7 a8 a9 a10 a11 a12)):
  aY prog W0 58 [.ptr 96 id 0 [],cb S] σ λr σ'=>r=aT (atL all (aV all.length S))∧σ'=σ:=by
 have hidl:=(List.getElem?_eq_some_iff.1 hid).1
 have h24:=dH h0
 have hS32:S<4294967296:=Nat.lt_of_lt_of_le hS (Nat.pow_le_pow_right (n:=2) (by decide) (show all.length≤32 by omega))
 have hsub:=Ay all S
 have hmw:=Bk hsub h0
 have hsw:=Eu hsub h0 ho
 have hmnw: ∀p∈atL all (aV all.length S),lp p:=λp hp=>hmn p (hsub.subset hp)
 have hpm: ∀p∈atL all (aV all.length S),aL p=0:=λp hp=>cW hmw hp
 have hwl:(atL all (aV all.length S)).length≤24:=dH hmw
 refine aY.back (dW (Nat.zero_le _) (iX _)) ?_
 refine qJ [.tmp 4] [2,11,2000025,4000004] func58 rfl rfl ntmps58 rfl rfl λhs=>?_
 simp only[go_sem,simprocAttr,cb]
 refine ak.goes (by simp only[go_sem,simprocAttr];rfl) (nO S (σ++[tq .az])) λr σ1 ⟨hr,hσ1⟩=>?_
 subst hr hσ1
 simp only[go_sem,simprocAttr]
 have hbn:(σ++[tq .az]).length=σ.length+1:=by simp
 refine pV hW (σ.length+1) (λS' τ=>∃ done v,aV 32 S=done++aV 32 S'∧τ[σ.length]?=some (tq v)∧aK σ τ v 54 ((atL all done).map au))
  (λτ=>False) S (by simp only[go_sem,simprocAttr]) (by decide) hS32 ?_ ?_
  (λS' k τ hS' ⟨done,v,hd1,hv,hb⟩ hbx hk hkb hkl=>?_) (λτ ⟨done,v,hd1,hv,hb⟩=>?_) (λτ hf=>hf.elim)
 ·simp only[go_sem,simprocAttr]
  rw[List.getElem?_append_right (by omega)]
  simp[gA]
 ·simp only[go_sem,simprocAttr]
  exact⟨[],.az,rfl,rfl,aK.nil (Ext.app (.refl _) _) _⟩
 ·have hlow:=lS (k:=32) hkb hkl hk
  have hkS:k∈aV 32 S:=by rw[hd1,hlow];simp
  have hkn:k<all.length:=by rw[fB hS (by omega)]at hkS;exact(bK.1 hkS).1
  obtain⟨p,hp⟩:=get_some hkn
  have hidτ:τ[id]?=some (cm (aT all) a1 a2 a3 a4 a5 a6 a7 a8 a9 a10 a11 a12):=by
   have e:=congrArg (·[id]?) hb.ext
   simp only[List.getElem?_take,if_pos hidl]at e
   rw[e,hid]
  have hv1:=hv
  unfold cm aT at hidτ
  unfold tq at hv1
  have hatV:atV (all.map au) (k:Int)=au p:=av hp
  have hdl:done.length+1≤32:=by
   have h1:=rb 32 S
   rw[hd1,hlow,List.length_append,List.length_cons]at h1
   omega
  have hal:((atL all done).map au).length≤done.length:=by
   rw[List.length_map]
   exact List.length_filterMap_le _ _
  simp only[go_sem,simprocAttr,aw hidτ,ay hidτ,aw hv1,ay hv1,hb.bld.ok,hb.bld.un,hatV,List.length_map]
  refine⟨.of (by kernel_rfl),hkn,bM.yY (σ:=τ) (by simp only[go_sem,simprocAttr]) 1048576 (by kernel_rfl) hb.bld (.lit _ _ _) (by simp;simp at hal;omega) λv' σ' ha=>?_⟩
  have hb':=hb.app ha
  have hkeep: ∀(j:Nat) (o:cX),τ[j]?=some (some o)→o≠ .tok→σ'[j]?=some (some o):=λj o hj ho=>by
   rw[ha.old j (List.getElem?_eq_some_iff.1 hj).1 (λe=>by have:=hb.bld.nR e;rw[hj]at this;cases this;exact ho rfl),hj]
  have hv2:=hkeep _ _ hv1 (λh=>by cases h)
  have hbx2:=hkeep _ _ hbx (λh=>by cases h)
  have hl2:=(List.getElem?_eq_some_iff.1 hv2).1
  have hl3:=(List.getElem?_eq_some_iff.1 hbx2).1
  simp only[go_sem,simprocAttr,aw hv2,ay hv2,aR hv2,hb'.bld.ok,hb'.bld.un,hb'.bld.fits]
  refine⟨?_,done++[k],v',by rw[hd1,hlow,List.append_assoc];rfl,?_,?_⟩
  ·rw[List.getElem?_set_ne (by omega)];exact hbx2
  ·rw[List.getElem?_set_ne (by omega),List.getElem?_set_self hl2];rfl
  ·have e:(atL all (done++[k])).map au=(atL all done).map au++[au p]:=by
    unfold atL
    rw[List.filterMap_append,List.map_append]
    simp[hp]
   rw[e]
   refine⟨hb'.bld.eC λj hj=>?_,(hb'.ext.set (Nat.le_refl _) _).set (Nat.le_succ _) _,hb'.tok⟩
   have n1:=hb'.bld.ne hv2 (λh=>by cases h)
   have n2:=hb'.bld.ne hbx2 (λh=>by cases h)
   rw[List.getElem?_set_ne (λe=>n2 (by rw[e];exact hj)),List.getElem?_set_ne (λe=>n1 (by rw[e];exact hj))]
 ·rw[kU,List.append_nil]at hd1
  have hwn:atL all done=atL all (aV all.length S):=by rw[←hd1,fB hS (by omega)]
  rw[hwn]at hb
  have hv1:=hv
  unfold tq at hv1
  simp only[go_sem,simprocAttr,aw hv1,ay hv1,hb.bld.ok,hb.bld.un]
  have hix:=BK (W0:=W0) (atL all (aV all.length S)) hmnw
  rw[if_pos hmw,hsw]at hix
  refine ak.fn (hix.bZ (.cons hb.bZ .nil)) ?_
  simp only[go_sem,simprocAttr]
  refine ak.fn (ue _) ?_
  simp only[go_sem,simprocAttr]
  obtain⟨T,hT⟩: ∃T,T=atL all (aV all.length S):=⟨_,rfl⟩
  rw[←hT]at hwl hpm ⊢
  refine ae.at [] (.of (by kernel_rfl)) (λA=>∃ u,A.env 9=u∧aK σ A.st u 54 (T.map au)) ?_ λB ⟨u,h9,hb2⟩=>?_
  ·refine ae.upto [7,32] (.of (by kernel_rfl)) T.length (λi A=>A.env 33= .int .i64 i∧ ∃u,A.env 9=u∧aK σ A.st u 54 ((T.take i).map au)) 0 (Nat.zero_le _) ?_ λi B hi ⟨h33,u,h9,hb2⟩=>?_
   ·simp only[go_sem,simprocAttr]
    exact⟨_,rfl,aK.nil hb.ext _⟩
   simp only[go_sem,simprocAttr,h33,h9,hb2.bld.ok,hb2.bld.un]
   refine⟨λhlt=>?_,λhge=>?_⟩
   ·obtain⟨p,hp⟩:=get_some hlt
    refine ak.fn (Ma T i hp (hpm p (List.mem_of_getElem? hp))) ?_
    have hb3:aK σ (B.st++[none]) u 54 ((T.take i).map au):=⟨hb2.bld.eC λj hj=>by rw[List.getElem?_append_left (hb2.bld.lt j hj)],hb2.ext.app _,hb2.tok⟩
    simp only[go_sem,simprocAttr,h33,h9,hb2.bld.ok,hb2.bld.un]
    refine bM.yY (σ:=B.st++[none]) (by simp only[go_sem,simprocAttr]) 1048576 (by kernel_rfl) hb3.bld (.lit _ _ _) (by simp;omega) λv' σ' ha=>?_
    have hb4:=hb3.app ha
    simp only[go_sem,simprocAttr,h33,h9,hb4.bld.ok,hb4.bld.un]
    refine⟨hlt,ah hlt (by rw[aq];omega),_,rfl,?_⟩
    rw[aj hp,List.map_append]
    exact hb4
   ·rw[List.take_of_length_le hge]at hb2
    exact⟨_,rfl,hb2⟩
  ·simp only[go_sem,simprocAttr,h9,hb2.bld.ok,hb2.bld.un]
   refine cI.ret ?_
   simp only[go_sem,simprocAttr,hb2.bld.un]
   exact⟨_,hb2.bZ,hb2.ext.le,.refl _,hb2.ext⟩
end Go.Proofs.Tryz
end
section
namespace Go.Av
open Go Go.Sort Go.Proofs
abbrev FB:=List Nat×Nat
def cN (x:FB)(j:Nat):Int:=((x.1[j]?).getD 0:Nat)
def c5 (x:FB):List Int:=[cN x 0,cN x 1,cN x 2,cN x 3,cN x 4]
def sF (x:FB):Nat:=x.2 % 4294967296
def cfF (x y:FB):Int:=orL [orL (List.zipWith sgn (c5 x) (c5 y)),sgn (fK (sF y):Nat) (fK (sF x):Nat)]
theorem Ti (a b c d e:Int):orL [a,b,c,d,e]=if a≠0 then a else if b≠0 then b else if c≠0 then c else if d≠0 then d else if e≠0 then e else 0:=rfl
theorem HJ (x y z:FB):TT (cfF x y) (cfF y z) (cfF x z):=by
 have h: ∀x y,cfF x y=if orL (List.zipWith sgn (c5 x) (c5 y))≠0 then orL (List.zipWith sgn (c5 x) (c5 y))else if sgn (fK (sF y):Nat) (fK (sF x):Nat)≠0 then sgn (fK (sF y):Nat) (fK (sF x):Nat)else 0:=λx y=>rfl
 have h5:TT (orL (List.zipWith sgn (c5 x) (c5 y))) (orL (List.zipWith sgn (c5 y) (c5 z))) (orL (List.zipWith sgn (c5 x) (c5 z))):=by
  unfold c5
  simp only[List.zipWith_cons_cons,List.zipWith_nil_left,Ti]
  exact TT.lex (TT.sgn _ _ _) λ_ _ _=>TT.lex (TT.sgn _ _ _) λ_ _ _=>TT.lex (TT.sgn _ _ _) λ_ _ _=>TT.lex (TT.sgn _ _ _) λ_ _ _=>TT.lex (TT.sgn _ _ _) λ_ _ _=>TT.zero
 rw[h x y,h y z,h x z]
 refine TT.lex h5 λ_ _ _=>TT.lex ?_ λ_ _ _=>TT.zero
 intro h1 h2
 have:=TT.sgn (fK (sF z):Nat) (fK (sF y):Nat) (fK (sF x):Nat) h2 h1
 exact⟨this.1,λe=>(this.2 e).symm⟩
theorem pH (x y:FB):cfF y x= -cfF x y:=by
 have h: ∀x y,cfF x y=if orL (List.zipWith sgn (c5 x) (c5 y))≠0 then orL (List.zipWith sgn (c5 x) (c5 y))else if sgn (fK (sF y):Nat) (fK (sF x):Nat)≠0 then sgn (fK (sF y):Nat) (fK (sF x):Nat)else 0:=λx y=>rfl
 have h5:orL (List.zipWith sgn (c5 y) (c5 x))= -orL (List.zipWith sgn (c5 x) (c5 y)):=by
  unfold c5
  simp only[List.zipWith_cons_cons,List.zipWith_nil_left,Ti]
  rw[fe (cN x 0) (cN y 0),fe (cN x 1) (cN y 1),fe (cN x 2) (cN y 2),fe (cN x 3) (cN y 3),fe (cN x 4) (cN y 4)]
  generalize sgn (cN x 0) (cN y 0)=a
  generalize sgn (cN x 1) (cN y 1)=b
  generalize sgn (cN x 2) (cN y 2)=c
  generalize sgn (cN x 3) (cN y 3)=d
  generalize sgn (cN x 4) (cN y 4)=e
  by_cases h1:a=0<;>by_cases h2:b=0<;>by_cases h3:c=0<;>by_cases h4:d=0<;>by_cases h5:e=0<;>simp[h1,h2,h3,h4,h5]
 rw[h y x,h x y,h5,fe (fK (sF y):Nat) (fK (sF x):Nat)]
 generalize orL (List.zipWith sgn (c5 x) (c5 y))=a
 generalize sgn (fK (sF y):Nat) (fK (sF x):Nat)=b
 by_cases h1:a=0<;>by_cases h2:b=0<;>simp[h1,h2]
theorem JQ :SWO (ltOf cfF):=by
 refine⟨λx=>?_,λx y z h1 h2=>?_,λx y z h1 h2=>?_⟩
 ·have:=pH x x
  exact decide_eq_false (by omega)
 ·have a1:=of_decide_eq_true h1
  have a2:=of_decide_eq_true h2
  obtain⟨g1,g2⟩:=HJ x y z (by omega) (by omega)
  refine decide_eq_true ?_
  rcases Int.lt_or_eq_of_le g1 with h|h
  ·exact h
  ·have:=(g2 h).1;omega
 ·have a1:=of_decide_eq_false h1
  have a2:=of_decide_eq_false h2
  obtain⟨g1,g2⟩:=HJ z y x (by rw[pH];omega) (by rw[pH];omega)
  refine decide_eq_false ?_
  rw[pH]at g1
  omega
theorem zF : ∀{c d:List Nat},c.length=d.length→(lexB c d=true↔orL (List.zipWith sgn (c.map λ(x:Nat)=>(x:Int)) (d.map λ(x:Nat)=>(x:Int)))<0)∧(c=d↔orL (List.zipWith sgn (c.map λ(x:Nat)=>(x:Int)) (d.map λ(x:Nat)=>(x:Int)))=0)
 |[],[],_=>by simp[lexB,orL]
 |a::x,b::y,h=>by
  obtain⟨i1,i2⟩:=zF (c:=x) (d:=y) (by simpa using h)
  simp only[List.map_cons,List.zipWith_cons_cons,orL,lexB]
  by_cases hab:a=b
  ·subst hab
   have:sgn (a:Int) (a:Int)=0:=by simp[sgn]
   rw[this]
   simp only[ne_eq,not_true_eq_false,if_false,if_true,List.cons.injEq,true_and]
   exact⟨i1,i2⟩
  ·have hs:sgn (a:Int) (b:Int)≠0:=by unfold sgn;repeat' split<;>omega
   rw[if_neg hab,if_pos hs]
   refine⟨?_,?_⟩
   ·rw[decide_eq_true_eq]
    unfold sgn
    repeat' split
    all_goals omega
   ·simp[hab,hs]
theorem FV {x:FB}(h:x.1.length=5):c5 x=x.1.map λ(x:Nat)=>(x:Int):=by
 obtain⟨c,S⟩:=x
 match c,h with
 |[a,b,c,d,e],_=>rfl
theorem Kq {x y:FB}(hx:x.1.length=5∧x.2<4294967296)(hy:y.1.length=5∧y.2<4294967296):ltOf cfF x y=ltB x y:=by
 have hsx:sF x=x.2:=Nat.mod_eq_of_lt hx.2
 have hsy:sF y=y.2:=Nat.mod_eq_of_lt hy.2
 obtain⟨i1,i2⟩:=zF (hx.1.trans hy.1.symm)
 unfold ltOf ltB cfF
 rw[hsx,hsy,FV hx.1,FV hy.1,uW hx.2,uW hy.2,Bool.eq_iff_iff,decide_eq_true_eq,Bool.or_eq_true,Bool.and_eq_true,decide_eq_true_eq,beq_iff_eq,i1,i2]
 generalize orL (List.zipWith sgn (x.1.map λ(x:Nat)=>(x:Int)) (y.1.map λ(x:Nat)=>(x:Int)))=a
 simp only[orL,sgn]
 repeat' split
 all_goals omega
end Go.Av
namespace Go.Proofs.Tryz
open Go Go.Av Go.Sort
set_option maxRecDepth 100000
set_option maxHeartbeats 1000000
variable {W0 :World}
def eL (x:FB):AV:=.agg 116 [cb x.2,dF x.1]
def nh (x:FB):List Value:=[.int .u32 (sF x:Nat),.int .i64 (cN x 0),.int .i64 (cN x 1),.int .i64 (cN x 2),.int .i64 (cN x 3),.int .i64 (cN x 4)]
def Fp (x:FB):Prop:=x.1.length=5∧x.2<4294967296
theorem GR {w:World}{C:Ctx}{c:List Nat}{cs:List Value}(h5:c.length=5)(h:Rel prog w C (dF c) cs):cs=c.map λ(x:Nat)=>Value.int .i64 (x:Int):=by
 cases h with
 |agg cf h1 h2 h3 h4 h6 h7=>
 rename_i ts
 have hf:bp prog 39=some [3,3,3,3,3]:=by kernel_rfl
 rw[hf]at h1
 cases h1
 have hsz:af prog 39=5:=by kernel_rfl
 rw[hsz]at h3
 refine List.ext_getElem? λi=>?_
 by_cases hi:i<5
 ·have hx:(c.map λ(x:Nat)=>AV.int .i64 (x:Int))[i]?=some (.int .i64 (c[i]'(by omega):Nat)):=by rw[List.getElem?_map,List.getElem?_eq_getElem (by omega)];rfl
  have hr:=h6 i _ hx
  have hty:([3,3,3,3,3]:List TypeId)[i]?=some 3:=by
   match i,hi with
   |0,_=>rfl
   |1,_=>rfl
   |2,_=>rfl
   |3,_=>rfl
   |4,_=>rfl
  obtain⟨_,_,g3⟩:=h7 i _ _ hx hty
  generalize cf i=ci at hr g3
  cases hr
  have o0:ba prog [3,3,3,3,3] 0=0:=by kernel_rfl
  have o1:ba prog [3,3,3,3,3] 1=1:=by kernel_rfl
  have o2:ba prog [3,3,3,3,3] 2=2:=by kernel_rfl
  have o3:ba prog [3,3,3,3,3] 3=3:=by kernel_rfl
  have o4:ba prog [3,3,3,3,3] 4=4:=by kernel_rfl
  have hoff:ba prog [3,3,3,3,3] i=i:=by
   match i,hi with
   |0,_=>exact o0
   |1,_=>exact o1
   |2,_=>exact o2
   |3,_=>exact o3
   |4,_=>exact o4
  have:=g3 0 _ rfl
  rw[hoff,Nat.add_zero]at this
  rw[this,List.getElem?_map,List.getElem?_eq_getElem (by omega)]
  rfl
 ·rw[List.getElem?_eq_none (by omega),List.getElem?_eq_none (by simp;omega)]
theorem IG {w:World}{C:Ctx}{x:FB}{cs:List Value}(hx:Fp x)(h:Rel prog w C (eL x) cs):cs=nh x:=by
 cases h with
 |agg cf h1 h2 h3 h4 h6 h7=>
 have hf:bp prog 116=some [100,39]:=by kernel_rfl
 rw[hf]at h1
 cases h1
 have hsz:af prog 116=6:=by kernel_rfl
 rw[hsz]at h3
 have ho0:ba prog [100,39] 0=0:=by kernel_rfl
 have ho1:ba prog [100,39] 1=1:=by kernel_rfl
 have r0:=h6 0 _ rfl
 obtain⟨_,_,g0⟩:=h7 0 _ _ rfl rfl
 have r1:=h6 1 _ rfl
 obtain⟨_,_,g1⟩:=h7 1 _ _ rfl rfl
 have e1:=GR hx.1 r1
 rw[e1]at g1
 generalize cf 0=c0 at r0 g0
 cases r0
 have q0:=g0 0 _ rfl
 rw[ho0]at q0
 rw[ho1]at g1
 obtain⟨c,S⟩:=x
 obtain⟨hc,hS⟩:=hx
 match c,hc with
 |[a,b,c,d,e],_=>
  have q1:=g1 0 _ rfl
  have q2:=g1 1 _ rfl
  have q3:=g1 2 _ rfl
  have q4:=g1 3 _ rfl
  have q5:=g1 4 _ rfl
  have hm:S % 4294967296=S:=Nat.mod_eq_of_lt hS
  match cs,h3 with
  |[v0,v1,v2,v3,v4,v5],_=>
   simp at q0 q1 q2 q3 q4 q5
   subst q0 q1 q2 q3 q4 q5
   show _=[Value.int .u32 ((S % 4294967296:Nat):Int),_,_,_,_,_]
   rw[hm]
   rfl
theorem JB {w:World}{C:Ctx}{x:FB}(hx:Fp x):Rel prog w C (eL x) (nh x):=by
 obtain⟨c,S⟩:=x
 obtain⟨hc,hS⟩:=hx
 match c,hc with
 |[a,b,c,d,e],_=>
  have hm:S % 4294967296=S:=Nat.mod_eq_of_lt hS
  have hcost:Rel prog w C (dF [a,b,c,d,e]) [.int .i64 (a:Nat),.int .i64 (b:Nat),.int .i64 (c:Nat),.int .i64 (d:Nat),.int .i64 (e:Nat)]:=by
   refine .agg (ts:=[3,3,3,3,3]) (λi=>[.int .i64 (([a,b,c,d,e][i]?.getD 0:Nat):Int)]) (by kernel_rfl) rfl (by kernel_rfl) (λc hc=>?_) (λi x hx=>?_) (λi x ty hx hty=>?_)
   ·simp at hc
    rcases hc with rfl|rfl|rfl|rfl|rfl<;>rfl
   ·match i,hx with
    |0,hx=>cases hx;exact .int _ _
    |1,hx=>cases hx;exact .int _ _
    |2,hx=>cases hx;exact .int _ _
    |3,hx=>cases hx;exact .int _ _
    |4,hx=>cases hx;exact .int _ _
   ·match i,hx,hty with
    |0,hx,hty=>cases hx;cases hty;exact⟨by kernel_rfl,⟨rfl,by kernel_rfl⟩,λj u hj=>by match j,hj with|0,hj=>cases hj;rfl⟩
    |1,hx,hty=>cases hx;cases hty;exact⟨by kernel_rfl,⟨rfl,by kernel_rfl⟩,λj u hj=>by match j,hj with|0,hj=>cases hj;rfl⟩
    |2,hx,hty=>cases hx;cases hty;exact⟨by kernel_rfl,⟨rfl,by kernel_rfl⟩,λj u hj=>by match j,hj with|0,hj=>cases hj;rfl⟩
    |3,hx,hty=>cases hx;cases hty;exact⟨by kernel_rfl,⟨rfl,by kernel_rfl⟩,λj u hj=>by match j,hj with|0,hj=>cases hj;rfl⟩
    |4,hx,hty=>cases hx;cases hty;exact⟨by kernel_rfl,⟨rfl,by kernel_rfl⟩,λj u hj=>by match j,hj with|0,hj=>cases hj;rfl⟩
  refine .agg (ts:=[100,39]) (λi=>if i=0 then [.int .u32 (S:Nat)]else [.int .i64 (a:Nat),.int .i64 (b:Nat),.int .i64 (c:Nat),.int .i64 (d:Nat),.int .i64 (e:Nat)]) (by kernel_rfl) rfl (by kernel_rfl) (λv hv=>?_) (λi x hx=>?_) (λi x ty hx hty=>?_)
  ·simp[nh]at hv
   rcases hv with rfl|rfl|rfl|rfl|rfl|rfl<;>rfl
  ·match i,hx with
   |0,hx=>cases hx;exact .int _ _
   |1,hx=>cases hx;exact hcost
  ·match i,hx,hty with
   |0,hx,hty=>
    cases hx;cases hty
    refine⟨by kernel_rfl,⟨rfl,by kernel_rfl⟩,λj u hj=>?_⟩
    match j,hj with
    |0,hj=>
     cases hj
     show some (Value.int .u32 ((S % 4294967296:Nat):Int))=_
     rw[hm]
   |1,hx,hty=>
    cases hx;cases hty
    refine⟨by kernel_rfl,⟨rfl,by kernel_rfl⟩,λj u hj=>?_⟩
    match j,hj with
    |0,hj=>cases hj;rfl
    |1,hj=>cases hj;rfl
    |2,hj=>cases hj;rfl
    |3,hj=>cases hj;rfl
    |4,hj=>cases hj;rfl
theorem ot (x:FB):(nh x).length=6:=rfl
theorem HD (x:FB): ∀v∈nh x,v.oneCell'=true:=λv hv=>by
 simp[nh]at hv
 rcases hv with rfl|rfl|rfl|rfl|rfl|rfl<;>rfl
theorem Ba (σ:ab)(id:Nat)(xs:List FB)(hid:σ[id]?=some (some (.cells 116 (xs.map eL))))(h0:xs≠[])(hx:xs.length≤1000000000)(hm: ∀x∈xs,Fp x):
  aY prog W0 120 [.row 116 id 0 xs.length,.fn 121 []] σ λr σ'=>∃ ys:List FB,ys.Perm xs∧(ys.Pairwise λx y=>ltB y x=false)∧σ'=σ.set id (some (.cells 116 (ys.map eL))):=λw C vs hst hl hv=>by
 obtain _|⟨v1,_|⟨v2,_|⟨_,_⟩⟩⟩:=vs<;>simp at hl
 have h1:=(hv 0 _ _ rfl rfl).aP rfl
 have h2:=(hv 1 _ _ rfl rfl).aP rfl
 obtain⟨b,base,room,arr,t',fr,m1,m2,mf,m3,m4,cf,m5⟩:=hst.cells hid
 have hpos:0<xs.length:=List.length_pos_iff.2 h0
 have hsz:af prog 116=6:=by kernel_rfl
 rw[hsz,List.length_map]at m4
 cases h1 with
 |row hn hc hi ho=>
 rename_i a cap
 obtain⟨b',base',room',e1,e2,e3⟩:=ho _ m1
 cases e1
 have e4:=e2 (by omega)
 subst e4
 cases h2 with
 |fn f1 f2 f3=>
 rename_i vs
 have:vs=[]:=List.length_eq_zero_iff.1 f1.symm
 subst this
 rw[Nat.zero_mul,Nat.add_zero]
 have hcell: ∀j (h:j<xs.length) (q:Nat) (c:Value),(nh xs[j])[q]?=some c→arr[base+j*6+q]?=some c:=λj h q c hq=>by
  have hj:(xs.map eL)[j]?=some (eL xs[j]):=by rw[List.getElem?_map,List.getElem?_eq_getElem h];rfl
  obtain⟨r1,r2,r3,r4⟩:=m5 j _ hj
  rw[IG (hm _ (List.getElem_mem h)) r1,hsz]at r4
  exact r4 q c hq
 have hH:HoldsK nh 6 w b base xs.toArray:=λt ht=>by
  have ht':t<xs.length*6:=by simpa using ht
  have hj:t / 6<xs.length:=by omega
  refine⟨?_,yQ (n:=0) m2 mf (by omega)⟩
  rw[get_flatK _ _ _ _ (by simpa using ht'),getElem!_pos xs.toArray (t / 6) (by simpa using hj),List.getElem_toArray]
  have hq:t % 6<(nh xs[t / 6]).length:=by rw[ot];omega
  have:=hcell (t / 6) hj (t % 6) _ (List.getElem?_eq_getElem hq)
  rw[getElem!_pos (nh xs[t / 6]) (t % 6) hq]
  unfold World.cell?
  simp only[m2]
  rw[show base+t / 6*6+t % 6=base+t by omega]at this
  exact this
 refine .inl ⟨⟨_,func120,by kernel_rfl,by kernel_rfl⟩,?_⟩
 have hq:=AnyQ.slices_SortFunc Tryz.CO 6 Tryz.isAgg116 Tryz.sizeOf116 nh ot HD cfF JQ 121 #[] b base cap xs.toArray w (enters_of func121 (by kernel_rfl) rfl)
  (λm os dk hs x y=>Hv (sF x) (sF y) (Nat.mod_lt _ (by decide)) (Nat.mod_lt _ (by decide)) _ _ _ _ _ _ _ _ _ _ _) hH (Array.getElem?_eq_some_iff.1 m2).1 (by simp;omega)
 refine hq.mono λe w' ⟨he,d',n,os,⟨p1,p2,p3⟩,p4,hw⟩=>?_
 have hp:d'.toList.Perm xs:=by
  have e1:d'.extract 0 xs.toArray.size=d':=by rw[←p1];exact Array.extract_size
  rw[e1,Array.extract_size]at p3
  simpa using p3
 have hll:=hp.length_eq
 have hok: ∀x∈d'.toList,Fp x:=λx hx=>hm x (hp.subset hx)
 unfold sortWorldK putRowK at hw
 obtain⟨s1,s2⟩:=hst.He (fl:=flatK nh 6 d') (n:=n) (os:=os) (ys:=d'.toList.map eL) (k:=6) hid m1 hsz (by simpa using hll) (by simp at hll;simp[hll]) λi y hy=>by
  rw[List.getElem?_map]at hy
  obtain⟨x,hx,rfl⟩:=Option.map_eq_some_iff.1 hy
  have hil:=(List.getElem?_eq_some_iff.1 hx).1
  refine⟨nh x,JB (hok x (List.mem_of_getElem? hx)),rfl,⟨rfl,by kernel_rfl⟩,λj c hc=>?_⟩
  have hj:=(List.getElem?_eq_some_iff.1 hc).1
  rw[ot]at hj
  have hdl:i<d'.size:=by simpa using hil
  have hlt:i*6+j<(flatK nh 6 d').size:=by rw[size_flatK];omega
  rw[Array.getElem?_eq_getElem hlt,←getElem!_pos (flatK nh 6 d') (i*6+j) hlt,get_flatK _ _ _ _ (by omega),show(i*6+j) / 6=i by omega,show(i*6+j) % 6=j by omega,getElem!_pos d' i hdl]
  have hxe:d'[i]=x:=by
   have:=(List.getElem?_eq_some_iff.1 hx).2
   simpa using this
  rw[hxe,getElem!_pos (nh x) j (by rw[ot];exact hj)]
  exact congrArg some (List.getElem?_eq_some_iff.1 hc).2
 subst hw
 refine⟨_,.tup [],_,C,he,⟨d'.toList,hp,?_,rfl⟩,s2,.tup rfl (λi a v h=>by simp at h),s1⟩
 rw[List.pairwise_iff_getElem]
 intro i j hi hj hij
 have hi':i<d'.size:=by simpa using hi
 have hj':j<d'.size:=by simpa using hj
 have h4:=p4 i j (Nat.zero_le _) hij (by rw[←p1];exact hj')
 rw[getElem!_pos d' i hi',getElem!_pos d' j hj',Kq (hok _ (Array.getElem_mem_toList hj')) (hok _ (Array.getElem_mem_toList hi'))]at h4
 simpa using h4
theorem zJ :ag prog W0 120 [.az,.fn 121 []] (.tup []):=by
 refine tv func120 (by kernel_rfl) (by kernel_rfl) λw C vs hb hlow hvl hv=>?_
 obtain _|⟨v1,_|⟨v2,_|⟨_,_⟩⟩⟩:=vs<;>simp at hvl
 have h1:=(hv 0 _ _ rfl rfl).aP rfl
 cases h1
 refine(AnyF.slices_SortFunc_none Tryz.CO none 0 v2 w).mono λe w' ⟨he,hw⟩=>?_
 subst hw
 exact⟨_,he,.tup rfl (λi a v h=>by simp at h),RowKit.Below.refl _ _⟩
end Go.Proofs.Tryz
end
