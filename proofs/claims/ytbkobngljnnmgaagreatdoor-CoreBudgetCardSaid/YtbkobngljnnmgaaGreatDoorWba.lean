/- Texts that the last one of this claim rests on: a layer over the guide's own conditions for code; contracts of the functions that the law reaches, one by one. No conditions beside those of the given rows. -/
import Derived.Shelf.SlSortCmp.NoneTotal
import Derived.Test.YtbkobngljnnmgaaGreatDoorWad
import Derived.Test.YtbkobngljnnmgaaGreatDoorWan
import Derived.Test.YtbkobngljnnmgaaGreatDoorWap
import Derived.Test.YtbkobngljnnmgaaGreatDoorWas
import Derived.Test.YtbkobngljnnmgaaGreatDoorWaw
import Derived.Test.YtbkobngljnnmgaaGreatDoorWay
import Derived.Test.YtbkobngljnnmgaaGreatDoorWaz
set_option linter.unusedSimpArgs false
set_option linter.unusedVariables false
open List renaming getElem?_eq_some_iff->acO,mem_of_getElem?->acQ,length_map->acS,getElem?_set_ne->acT,filter_sublist->acU,zipWith_cons_cons->acV,length_filter_le->acW,getElem?_set_self->ac2,pairwise_lt_range->ac3,append_nil->ac4,zipWith_nil_left->ac6,drop_succ_cons->ac7,mem_map->ac8,map_append->ada,drop_zero->adb
open Nat renaming pow_le_pow_right->acP,lt_of_lt_of_le->acR,mod_eq_of_lt->acX,zero_le->acY,testBit_lt_two_pow->ac1,le_trans->ac9,mod_lt->adg
open Classical renaming byContradiction->acZ,choose_spec->adf
open Array renaming getElem_mem_toList->ac0
open List.Pairwise renaming sublist->ac5
open List.Perm renaming eq_of_pairwise->ade
section
namespace Go.Proofs.Tryz
open Go Go.Av
set_option maxRecDepth 10000
variable {W0 :World}
def jq (S:Nat):Option bK:=some (.cells 148 [cP S])
def ycM (bx:Nat)(I:Nat->ab->Prop):Int->ab->(ab->Prop)->Prop:=λi σ Qn=>∃ S k,i=((k:Nat):Int)/\S<4294967296/\I S σ/\σ[bx]?=some (jq S)/\k<32/\S.testBit k=true/\(∀j,j<k->S.testBit j=false)/\Qn=λσ'=>σ'[bx]?=some (jq S)/\I (S &&& (S-1)) (σ'.set bx (jq (S &&& (S-1))))
theorem IM {S:Nat}(h0:S≠0)(hS:S<4294967296): ∃k,k<32/\S.testBit k=true/\ ∀j,j<k->S.testBit j=false:=by
 have hex: ∃k,S.testBit k=true:=by
  refine acZ λhn=>h0 (Nat.eq_of_testBit_eq λi=>?_)
  simp_all
 obtain⟨k,hk,hm⟩:=fo hex;refine⟨k,?_,hk,λj hj=>?_⟩
 .refine acZ λhn=>?_
  have:S<2^k:=acR hS (acP (n:=2) (by decide) (show 32<=k by omega));grind [ac1]
 grind
theorem Oa (hW:rR W0)(bx:Nat)(I:Nat->ab->Prop)(Qx:ab->Prop):Lt prog W0 259 [.ptr 148 bx 0 []] (ycM bx I) Qx (λσ=>∃ S,S<4294967296/\I S σ/\σ[bx]?=some (jq S)) (λσ=>I 0 σ):=by
 intro B L U w C σ vs m hU hY u0 hst hl hv hpre;refine(callsIn_of_wp (F:=.wide) func259 rfl trivial (wpIn_mono (?_:Code.wpIn .wide m prog _ (λe a' w'=>∃ A' C' md',U md' w' C'/\bG prog W0 14 w' C' A' a'/\ee prog W0 B w C w' C' A'.st/\(((e= .normal\/e= .ret)/\md'=true/\I 0 A'.st)\/((e= .normal\/e= .ret)/\md'=false/\Qx A'.st))) _ _) λe a' w' ⟨A',C',md',u',r',l',q⟩=>?_))
 .obtain _|⟨v1,_|⟨_,_⟩⟩:=vs<;>simp at hl
  have hr0:=mi (P:=prog) (W0:=W0) (m:=14) (args:=[.yl L,.ptr 148 bx 0 []]) (vs:=[.func (.yield L) #[] #[],v1]) hst rfl (λi a v ha hv'=>by
   obtain _|_|i:=i
   .simp at ha hv';subst ha hv';exact .one rfl (.yl L)
   .grind
   simp_all) (by simp)
  refine(?_:VCY prog W0 B U 14 _ (λe A' md'=>((e= .normal\/e= .ret)/\md'=true/\I 0 A'.st)\/((e= .normal\/e= .ret)/\md'=false/\Qx A'.st)) ⟨jx [.yl L,.ptr 148 bx 0 []],σ⟩ true) w C _ m u0 hr0;refine VCY.block (VCY.loop (λk A b=>b=true/\A.env 0= .yl L/\A.env 1= .ptr 148 bx 0 []/\ ∃S,k=S/\S<4294967296/\I S A.st/\A.st[bx]?=some (jq S)) (Classical.choose hpre) ⟨rfl,rfl,rfl,_,rfl,adf hpre⟩ λk A b ⟨hb,hA0,hA1,S,hk,hS,hI,hbx⟩=>?_);subst hb hk;have hbx':=hbx;unfold jq cP at hbx';refine VCY.seq (VCY.of hU (bI (fz:=[]) _ _ _ ?_));simp only[go_sem,simprocAttr,hA1,ak hbx'];refine⟨λh0=>?_,λh0=>?_⟩
  .have hS0:k≠0:=by omega
   obtain⟨j,hj,hjb,hjl⟩:=IM hS0 hS;refine VCY.seq (VCY.block (VCY.seq (VCY.O9 (fz:=[]) (L:=L) (Qn:=λσ'=>σ'[bx]?=some (jq k)/\I (k &&& (k-1)) (σ'.set bx (jq (k &&& (k-1))))) (Qx:=Qx) (i:=(j:Int)) (K:=λA1=>A1.env 9= .yl L/\A1.env 11= .int .i64 j/\A1.env 1= .ptr 148 bx 0 []/\A1.env 0= .yl L/\A1.st=A.st) 3 hU rfl (by decide) ?_ λA1 ⟨e9,e11,e1,e0,est⟩=>⟨e9,e11,λw2 C2 u2 hst2=>?_,λσ' hq=>?_,λσ' hq=>?_⟩)))
   .simp only[List.take_succ_cons,List.take_zero];simp only[go_sem,simprocAttr,hA0,hA1,ak hbx'];refine aj.fn (Y6 hW hS hj hjb hjl) ?_;simp only[go_sem,simprocAttr];simp_all
   .rw[est]at hst2;exact hY _ w2 C2 A.st _ u2 hst2 ⟨k,j,rfl,hS,hI,hbx,hj,hjb,hjl,rfl⟩
   .obtain⟨hq1,hq2⟩:=hq;have hq1':=hq1;unfold jq cP at hq1';simp only[ac7,adb];simp only[go_sem,simprocAttr];refine VCY.of hU (bI (fz:=[]) _ _ _ ?_);simp only[go_sem,simprocAttr];refine VCY.of hU (bI (fz:=[]) _ _ _ ?_);have hand:bits .and .u32 (k:Int) (IntKind.u32.wrap ((k:Int)-1))=((k &&& (k-1):Nat):Int):=by
     rw[show IntKind.u32.wrap ((k:Int)-1)=((k-1:Nat):Int) by grind [IntKind.wrap_u32]];grind [gL]
    simp only[go_sem,simprocAttr,e1,e0,ak hq1',hand,aC hq1'];have hle:k &&& (k-1)<=k-1:=Nat.and_le_right;exact⟨k &&& (k-1),by omega,_,rfl,by omega,hq2,ac2 (acO.1 hq1).1⟩
   .simp only[ac7,adb];simp only[go_sem,simprocAttr];refine VCY.of hU (bI (fz:=[]) _ _ _ ?_);simp only[go_sem,simprocAttr];simp_all
  simp_all
 .obtain⟨fin,hmd⟩:(e= .normal\/e= .ret)/\((md'=true/\I 0 A'.st)\/(md'=false/\Qx A'.st)):=by
   grind
  have key: ∀fn:Func,fn.results= #[]->a'.defers=[]/\ ∃v,(results fn a'.tmps).run prog w'= .ok v w'/\ ∃v' C' σ',Ending.returned v= .returned v'/\ee prog W0 B w C w' C' σ'/\((U true w' C'/\I 0 σ')\/(U false w' C'/\Qx σ')):=λfn hfn=>by
   obtain⟨v,g1,g2⟩:=oG (fn:=fn) (ts:=[]) r' hfn;grind [bG.defers]
  rcases fin with rfl|rfl
  .exact key _ rfl
  .exact key _ rfl
theorem s7 {n p:Nat}{fz:List Nat}{g:Operand}{asg body:Code}{Q:Exit->aa->Prop}{A:aa}(hW:rR W0)(bx:Nat)(I:Nat->ab->Prop)(X:ab->Prop)(S0:Nat)(hg:A.val g= .fn 259 [.ptr 148 bx 0 []])(hp:p<n)(hS0:S0<4294967296)(hbx:A.st[bx]?=some (jq S0))(h0:I S0 A.st)
  (round: ∀(S k:Nat) (σ:ab),S<4294967296->I S σ->σ[bx]?=some (jq S)->k<32->S.testBit k=true->(∀j,j<k->S.testBit j=false)->
   cVC prog W0 n fz asg (cr (cVC prog W0 n fz body (xa (λσ'=>σ'[bx]?=some (jq S)/\I (S &&& (S-1)) (σ'.set bx (jq (S &&& (S-1))))) X)) λ_ _=>False) ((A.ax σ).upd p (.int .i64 (k:Int))))
  (he: ∀σ,I 0 σ->Q .normal (A.ax σ)) (hx: ∀σ,X σ->Q .ret (A.ax σ)):AB prog W0 n fz g #[p] asg .mk body .mk Q .mk A:=
 VCM.range hg hp (enters_of func259 (by kernel_rfl) rfl) (Oa hW bx I X) ⟨S0,hS0,h0,hbx⟩ (λi σ Qn hy=>by
  obtain⟨S,k,rfl,hS,hI,hb,hk,h1,h2,rfl⟩:=hy;refine(bI asg _ _ (round S k σ hS hI hb hk h1 h2)).mono λe A' q=>?_
  cases e with
  |normal=>exact bI body _ _ q
  |_=>exact q) he hx
@[go_sem ↓] theorem M7 {Qn Qr:ab->Prop}{A:aa}:xa Qn Qr .normal A=Qn A.st:=rfl
@[go_sem ↓] theorem Rq {Qn Qr:ab->Prop}{A:aa}:xa Qn Qr .ret A=Qr A.st:=rfl
end Go.Proofs.Tryz
end
section
namespace Go.Av
open Go
theorem aP.back {P:Program}{W0:World}{f:FuncId}{args:List AV}{r:AV}{σ:ab}(hr:aU σ.length r)(h:aP P W0 f args σ λr' σ'=>dc r' r/\Ext σ σ'):aP P W0 f args σ λr' σ'=>r'=r/\σ'=σ:=λw C vs hst hl hv=>
 (h w C vs hst hl hv).mono λe w' ⟨v,r',σ',C',he,⟨hw,hx⟩,hs,hrv,hstep⟩=>by
  have hs2:aE P W0 w' (C'.eH σ.length) σ:=by
   have:=hs.eH (n:=σ.length) hx.le λid te xs hid hss=>hst.ids (show σ[id]?=some (some (.cells te xs)) by
    have e:=congrArg (·[id]?) hx;simp_all)
   rwa [hx]at this
  grind [aI.eH,aI.cb,Step.eH,aE.nx]
theorem gM {n k S:Nat}(hS:S<2^n)(hk:n<=k):bf k S=bf n S:=by
 refine ade (le:=(· < ·)) (λa b _ _ h1 h2=>by omega) (ac5 acU ac3) (ac5 acU ac3) ?_;grind [bf,acU,List.perm_ext_iff_of_nodup,ac1,acR,acP]
theorem mX (k:Nat):bf k 0=[]:=by
 simp[bf]
end Go.Av
end
section
namespace Go.Proofs.Tryz
open Go Go.Av
set_option maxRecDepth 10000
set_option maxHeartbeats 1000000
variable {W0 :World}
variable {a0 a1 a2 a3 a4 a6 a7 a8 a9 a10 a11 a12:AV}
def eA (all:List Pkg)(s:List aD)(l:List aK):AV:=.sl 150 ((List.range all.length).map λi=>ia all s l i ((all[i]?).getD wW))
theorem Bf {all:List Pkg}{s:List aD}{l:List aK}{i:Nat}{p:Pkg}(h:all[i]?=some p):((List.range all.length).map λi=>ia all s l i ((all[i]?).getD wW))[i]?=some (ia all s l i p):=by
 grind
theorem sA {all:List Pkg}{s:List aD}{l:List aK}{i:Nat}{p:Pkg}(h:all[i]?=some p):atV ((List.range all.length).map λi=>ia all s l i ((all[i]?).getD wW)) (i:Int)= .agg 150 [.bool (nT l s p),cP (iu all i),eT ((p.pre++p.dep).map (fZ all)),eT (p.rcm.map (fZ all)),.int .i64 (dx all p),.bool (Dg s p)]:=by
 unfold atV;rw[Int.toNat_natCast,Bf h];rfl
theorem Bc (n S:Nat)(hn:n<4294967296)(hS:S<4294967296):ag prog W0 253 [cP n,.loc 148 (cP S)] (.bool (n &&& S==0)):=by
 refine an [3] [] func253 rfl rfl ntmps253 rfl rfl (.bool _) λhs σ=>?_
 have hb:=gL n S hn hS;simp only[go_sem,simprocAttr,cP,hb];rw[show(((n &&& S:Nat):Int)==0)=(n &&& S==0) by grind];exact .refl _
theorem Fs (hW:rR W0)(σ:ab)(id:Nat)(all:List Pkg)(s:List aD)(l:List aK)(S:Nat)(h24:all.length<=24)(hS:S<2^all.length)(hid:σ[id]?=some (cU a0 a1 a2 a3 a4 (eA all s l) a6 a7 a8 a9 a10 a11 a12)):
  aP prog W0 210 [.ptr 143 id 0 [],cP S] σ λr σ'=>r= .bool (fM all S)/\σ'=σ:=by
 have hidl:=(acO.1 hid).1;have hS32:S<4294967296:=acR hS (acP (n:=2) (by decide) (show all.length<=32 by omega));refine aP.back (.bool _) ?_;refine sS [.cell 4 4] [2,3] func210 rfl rfl ntmps210 rfl rfl λhs=>?_
 simp only[go_sem,simprocAttr,cP];refine aj.goes (by simp only[go_sem,simprocAttr]) (qp S (σ++[some (.cells 4 [.bool false])])) λr σ1 ⟨hr,hσ1⟩=>?_
 subst hr hσ1;simp only[go_sem,simprocAttr];have hbx: ∀S',(σ++[some (.cells 4 [.bool false]),jq S'])[σ.length+1]?=some (jq S'):=λS'=>by simp_all
 have hidτ: ∀S',(σ++[some (.cells 4 [.bool false]),jq S'])[id]?=some (cU a0 a1 a2 a3 a4 (eA all s l) a6 a7 a8 a9 a10 a11 a12):=λS'=>by grind
 have hset: ∀S' b S'',(σ++[some (.cells 4 [.bool b]),jq S']).set (σ.length+1) (jq S'')=σ++[some (.cells 4 [.bool b]),jq S'']:=λS' b S''=>by simp_all
 have hre: ∀S',(σ++[some (.cells 4 [.bool false]),jq S'])[σ.length]?=some (some (.cells 4 [.bool false])):=λS'=>by simp_all
 have hhl:fM all S=(bf 32 S).all λi=>(qi all i).all λn=>n &&& S !=0:=by rw[gM hS (by omega)];rfl
 refine s7 hW (σ.length+1) (λS' τ=>τ=σ++[some (.cells 4 [.bool false]),jq S']/\ ∃done,bf 32 S=done++bf 32 S'/\ ∀i∈done,((qi all i).all λn=>n &&& S !=0)=true)
  (λτ=>Ext σ τ/\τ[σ.length]?=some (some (.cells 4 [.bool false]))/\fM all S=false) S (by simp only[go_sem,simprocAttr]) (by decide) hS32 (by simp only[go_sem,simprocAttr];exact hbx S) ⟨by simp only[go_sem,simprocAttr];rfl,[],rfl,λi hi=>by cases hi⟩
  (λS' k τ hS' ⟨hτ,done,hd1,hd2⟩ hb hk hkb hkl=>?_) (λτ ⟨hτ,done,hd1,hd2⟩=>?_) (λτ ⟨hτ,hf,hn⟩=>?_)
 .subst hτ;have hlow:=og (k:=32) hkb hkl hk;have hkS:k∈bf 32 S:=by simp_all
  have hkn:k<all.length:=by rw[gM hS (by omega)]at hkS;grind [c8]
  obtain⟨p,hp⟩:=get_some hkn;have hfa:=Bf (s:=s) (l:=l) hp;have hid1:=hidτ S';have hre1:=hre S';unfold cU eA at hid1;have han:=ZR (W0:=W0) cP (λ_=>trivial) ((p.pre++p.dep).map (fZ all)) (λn=>n &&& S==0) 253 [.loc 148 (cP S)] (λn hn=>by
   have hn32:n<4294967296:=by
    obtain⟨c,_,rfl⟩:=ac8.1 hn;exact ng λz hz=>by grind
   grind [Bc])
  have hany:(((p.pre++p.dep).map (fZ all)).any λn=>n &&& S==0)= !((qi all k).all λn=>n &&& S !=0):=by
   grind [qi]
  have hat:=sA (s:=s) (l:=l) hp;have hlen:((List.range all.length).map λi=>ia all s l i ((all[i]?).getD wW)).length=all.length:=by simp_all
  simp only[go_sem,simprocAttr,ak hid1,hat,hlen];refine⟨hkn,aj.fn (r:=.bool _) han ?_⟩;rw[hany];simp only[go_sem,simprocAttr,aC hre1];refine⟨λhno=>⟨Ext.app (.refl _) _,?_⟩,λhyes=>⟨hbx S',done++[k],?_,λi hi=>?_⟩⟩
  .simp_all
  .simp_all
  grind
 .subst hτ;rw[mX,ac4]at hd1;have hre1:=hre 0;simp only[go_sem,simprocAttr,aC hre1];refine c7.ret ?_;have hre2:(σ++[some (.cells 4 [.bool true]),jq 0])[σ.length]?=some (some (.cells 4 [.bool true])):=by simp_all
  have hT:fM all S=true:=by grind
  rw[hT];simp only[go_sem,simprocAttr,ak hre2];exact⟨_,.refl _,by simp,.refl _,Ext.app (.refl _) _⟩
 .simp only[go_sem,simprocAttr];refine c7.ret ?_;rw[hn];have hle:=hτ.le;simp only[go_sem,simprocAttr,ak hf];exact⟨_,.refl _,hle,.refl _,hτ⟩
end Go.Proofs.Tryz
end
section
namespace Go.Av
open Go
theorem CP (K k:Nat):(K &&& 2^k==0)= !K.testBit k:=by
 grind [vy]
theorem Da (l:List Nat)(a:Nat):orN (l++[a])=orN l ||| a:=by
 induction l with
 |nil=>simp[orN]
 |cons b r ih=>grind [orN]
theorem Jk {l:List Nat}(h: ∀a∈l,a<4294967296):orN l<4294967296:=by
 induction l with
 |nil=>decide
 |cons b r ih=>rw[orN];exact Nat.or_lt_two_pow (n:=32) (h b (by simp)) (ih λa ha=>h a (by simp[ha]))
theorem ti (k S:Nat):(bf k S).length<=k:=by
 grind [bf]
end Go.Av
end
section
namespace Go.Proofs.Tryz
open Go Go.Av
set_option maxRecDepth 10000
set_option maxHeartbeats 1000000
variable {W0 :World}
variable {a0 a1 a2 a3 a4 a8 a9 a10 a11 a12:AV}
def ER (ch un ad nw:Int)(kn:Nat):ab:=[some (.cells 29 [.agg 29 [.int .i64 0,.int .i64 0,.int .i64 0,.int .i64 0,.int .i64 0]]),some (.cells 3 [.int .i64 ch]),some (.cells 3 [.int .i64 un]),some (.cells 3 [.int .i64 ad]),some (.cells 3 [.int .i64 nw]),some (.cells 148 [.int .u32 (kn:Nat)])]
def p5 (ch un ad nw:Int)(kn S:Nat)(J:ab):ab:=some (.cells 29 [.agg 29 [.int .i64 0,.int .i64 0,.int .i64 0,.int .i64 0,.int .i64 0]])::some (.cells 3 [.int .i64 ch])::some (.cells 3 [.int .i64 un])::some (.cells 3 [.int .i64 ad])::some (.cells 3 [.int .i64 nw])::some (.cells 148 [.int .u32 (kn:Nat)])::some (.cells 148 [.int .u32 (S:Nat)])::J
theorem LW (hW:rR W0)(σ:ab)(id:Nat)(all:List Pkg)(s:List aD)(l:List aK)(S:Nat)(up:Bool)(h24:all.length<=24)(hrc: ∀p∈all,p.rcm.length<=1048576)(Er:s.length<=10)(hS:S<2^all.length)
  (hid:σ[id]?=some (cU a0 a1 a2 a3 a4 (eA all s l) (eT (s.map (iY all))) (.bool up) a8 a9 a10 a11 a12)):
  aP prog W0 211 [.ptr 143 id 0 [],cP S] σ λr σ'=>r=bW (kB all s S up)/\σ'=σ:=by
 have hidl:=(acO.1 hid).1;have hS32:S<4294967296:=acR hS (acP (n:=2) (by decide) (show all.length<=32 by omega));refine aP.back (eQ (acY _) (MB _)) ?_;refine sS [.cell 4 29] [2,3,14] func211 rfl rfl ntmps211 rfl rfl λhs=>?_
 have hid1: ∀τ,(σ++τ)[id]?=some (cU a0 a1 a2 a3 a4 (eA all s l) (eT (s.map (iY all))) (.bool up) a8 a9 a10 a11 a12):=λτ=>by grind
 have hid2:=hid1;unfold cU eT at hid2;have hln:(s.map (iY all)).length=s.length:=acS ..;have hthere: ∀a∈s.map (iY all),a<4294967296:=λa ha=>by
  obtain⟨x,_,rfl⟩:=ac8.1 ha;exact ng λz hz=>by have:=(List.mem_filter.1 hz).1;grind
 obtain⟨L,hL⟩: ∃L,L=s.map (iY all):=⟨_,rfl⟩;rw[<-hL]at hln hthere;have hLl:(L.map cP).length=s.length:=by simp_all
 simp only[go_sem,simprocAttr,cP,ak (hid2 _),<-hL,hLl];refine ae.at [2,3,4,6,7,8,9,10] (.of (by kernel_rfl)) (λA=>A.env 5= .int .i64 (L.filter λx=>x &&& S==0).length/\A.st=σ++ER 0 0 0 0 (orN L)) ?_ λB ⟨h5,hst⟩=>?_
 .refine ae.upto [2,3,4,6,7,8,9,10,20,21] (.of (by kernel_rfl)) s.length (λi A=>A.env 22= .int .i64 i/\A.env 5= .int .i64 ((L.take i).filter λx=>x &&& S==0).length/\A.st=σ++ER 0 0 0 0 (orN (L.take i))) 0 (acY _) ?_ λi B hi ⟨h22,h5,hst⟩=>?_
  .simp only[go_sem,simprocAttr];exact⟨rfl,rfl⟩
  unfold ER at hst;simp only[go_sem,simprocAttr,h22,h5,hst];refine⟨λhlt=>?_,λhge=>?_⟩
  .obtain⟨y,hy⟩:=get_some (show i<L.length by omega);have hyl:=hthere y (acQ hy);have hkl:orN (L.take i)<4294967296:=Jk λa ha=>hthere a (List.mem_of_mem_take ha)
   have hor:=jk _ _ hkl hyl;have hand:=gL _ _ hyl hS32;have hatV:atV (L.map cP) (i:Int)= .int .u32 y:=aw hy;have hc:=Dt (λx=>x &&& S==0) hy;have hcl:=JN (λx=>x &&& S==0) L i;simp only[go_sem,simprocAttr,hatV,hor,hand,hLl];refine⟨hlt,λhz=>⟨hlt,ah hlt (by grind [au]),?_,?_⟩,λhz=>⟨hlt,ah hlt (by grind [au]),?_,?_⟩⟩
   .rw[hc,if_pos (by simp_all)];exact ah (N:=11) (by omega) (by simp[au])
   .rw[ai hy,Da];rfl
   .simp_all
   .rw[ai hy,Da];rfl
  grind
 have hst0:=hst;unfold ER at hst;simp only[go_sem,simprocAttr,hst];refine aj.goes (by simp only[go_sem,simprocAttr];exact hst) (qp S (σ++ER 0 0 0 0 (orN L))) λr σ1 ⟨hr,hσ1⟩=>?_
 subst hr hσ1;have hbn:(σ++ER 0 0 0 0 (orN L)).length=σ.length+6:=by grind
 rw[hbn];simp only[go_sem,simprocAttr,ER];have hbx: ∀ch un ad nw kn S' J,(σ++p5 ch un ad nw kn S' J)[σ.length+6]?=some (jq S'):=λch un ad nw kn S' J=>by simp[p5,jq,cP]
 have hset: ∀ch un ad nw kn S' S'' J,(σ++p5 ch un ad nw kn S' J).set (σ.length+6) (jq S'')=σ++p5 ch un ad nw kn S'' J:=λch un ad nw kn S' S'' J=>by simp_all[p5]
 obtain⟨un,hun⟩: ∃un:Nat->Nat,un=λi=>((vu all i).filter λw=>w &&& S==0).length:=⟨_,rfl⟩
 refine s7 hW (σ.length+6) (λS' τ=>∃ done J,bf 32 S=done++bf 32 S'/\τ=σ++p5 (done.filter (jt all s)).length (done.map un).sum (done.filter λi=>!(orN L).testBit i).length (done.map (ef all)).sum (orN L) S' J)
  (λτ=>False) S (by simp only[go_sem,simprocAttr]) (by decide) hS32 (by simp only[go_sem,simprocAttr];exact hbx 0 0 0 0 _ S []) ⟨[],[],rfl,by simp only[go_sem,simprocAttr];rfl⟩
  (λS' k τ hS' ⟨done,J,hd1,hτ⟩ hb hk hkb hkl=>?_) (λτ ⟨done,J,hd1,hτ⟩=>?_) (λτ hf=>hf.elim)
 .subst hτ;have hlow:=og (k:=32) hkb hkl hk;have hkS:k∈bf 32 S:=by simp_all
  have hkn:k<all.length:=by rw[gM hS (by omega)]at hkS;grind [c8]
  obtain⟨p,hp⟩:=get_some hkn;have hpr:=hrc p (acQ hp);have hat:=sA (s:=s) (l:=l) hp;have hlen:((List.range all.length).map λi=>ia all s l i ((all[i]?).getD wW)).length=all.length:=by simp_all
  have hid3:=hid1;unfold cU eA at hid3;unfold p5;have hdl:done.length+1<=32:=by
   grind [ti]
  have hch:Dg s p=jt all s k:=by grind [Dg,jt]
  have hnw:ef all k=dx all p:=by grind [ef]
  have hnl: ∀i,ef all i<=24:=λi=>by
   unfold ef;split
   .grind [dx]
   .omega
  have hns:=po (l:=done) (f:=ef all) λa _=>hnl a
  have hcf:=acW (jt all s) done;have haf:=acW (λi=>!(orN L).testBit i) done;have hchs:((done++[k]).filter (jt all s)).length=(done.filter (jt all s)).length+if jt all s k=true then 1 else 0:=by
   grind
  have hads:((done++[k]).filter λi=>!(orN L).testBit i).length=(done.filter λi=>!(orN L).testBit i).length+if (!(orN L).testBit k)=true then 1 else 0:=by
   grind
  have hnws:((done++[k]).map (ef all)).sum=(done.map (ef all)).sum+dx all p:=by
   simp_all
  have hwn:IntKind.i64.wrap (((done.map (ef all)).sum:Int)+(dx all p:Int))=(((done++[k]).map (ef all)).sum:Nat):=by
   have:=hnl k;rw[hnw]at this;rw[hnws,aH (by omega)];omega
  simp only[go_sem,simprocAttr,ak (hid3 _),hat,hlen,hwn];refine⟨hkn,cj.at [3,7,8,10,13,14] (by kernel_rfl) (λA=>∃ J',A.st=σ++p5 ((done++[k]).filter (jt all s)).length (done.map un).sum (done.filter λi=>!(orN L).testBit i).length ((done++[k]).map (ef all)).sum (orN L) S' J') (λhc=>?_) (λhc=>?_) λB1 ⟨J1,hst1⟩=>?_⟩
  .rw[hch]at hc;rw[if_pos hc]at hchs;have hw:IntKind.i64.wrap (((done.filter (jt all s)).length:Int)+1)=(((done++[k]).filter (jt all s)).length:Nat):=by
    rw[hchs,aH (by omega)];omega
   simp only[go_sem,simprocAttr,hw];exact⟨_,rfl⟩
  .rw[hch]at hc;rw[if_neg (by simp_all)]at hchs;simp only[go_sem,simprocAttr];rw[hchs];exact⟨_,rfl⟩
  .unfold p5 at hst1;have hok:orN L<4294967296:=Jk hthere;have hand:=gL (orN L) (2^k) hok (oa hk);simp only[go_sem,simprocAttr,hst1];refine⟨.of (by kernel_rfl),aB.fn (sT k hk) ?_⟩;have hz:(((orN L &&& 2^k:Nat):Int)==0)= !(orN L).testBit k:=by
    rw[<-CP,Bool.eq_iff_iff];simp
   simp only[go_sem,simprocAttr,hand,hz];refine cj.at [3,7,14] (by kernel_rfl) (λA=>∃ J',A.st=σ++p5 ((done++[k]).filter (jt all s)).length (done.map un).sum ((done++[k]).filter λi=>!(orN L).testBit i).length ((done++[k]).map (ef all)).sum (orN L) S' J') (λhc=>?_) (λhc=>?_) λB2 ⟨J2,hst2⟩=>?_
   .rw[if_pos hc]at hads;have hw:IntKind.i64.wrap (((done.filter λi=>!(orN L).testBit i).length:Int)+1)=(((done++[k]).filter λi=>!(orN L).testBit i).length:Nat):=by
     rw[hads,aH (by omega)];omega
    simp only[go_sem,simprocAttr,hst1,hw];exact⟨_,rfl⟩
   .rw[if_neg (by simp_all)]at hads;simp only[go_sem,simprocAttr,hst1];simp_all
   .have hst20:=hst2;unfold p5 at hst2;obtain⟨ws,hws⟩: ∃ws,ws=p.rcm.map (fZ all):=⟨_,rfl⟩;have hwl:ws.length<=1048576:=by simp_all
    have hwk:vu all k=ws:=by grind [vu]
    have hw32: ∀a∈ws,a<4294967296:=λa ha=>by
     rw[hws]at ha;obtain⟨c,_,rfl⟩:=ac8.1 ha;exact ng λz hz=>by grind
    have huk:un k=(ws.filter λw=>w &&& S==0).length:=by simp_all
    have hul: ∀i,un i<=1048576:=λi=>by
     rw[hun];refine ac9 (acW _ _) ?_;unfold vu;split
     .grind
     .simp
    have hus:=po (l:=done) (f:=un) λa _=>hul a
    have hwsl:(ws.map cP).length=ws.length:=acS ..;simp only[go_sem,simprocAttr,hst2,eT,<-hws,hwsl];refine ae.ats [3,7,62,63] (.of (by kernel_rfl)) (λA=>A.st=σ++p5 ((done++[k]).filter (jt all s)).length ((done++[k]).map un).sum ((done++[k]).filter λi=>!(orN L).testBit i).length ((done++[k]).map (ef all)).sum (orN L) S' J2) ?_ λB3 hst3=>?_
    .refine ae.upto [3,7,62,63] (.of (by kernel_rfl)) ws.length (λi A=>A.env 64= .int .i64 i/\A.st=σ++p5 ((done++[k]).filter (jt all s)).length (((done.map un).sum+((ws.take i).filter λw=>w &&& S==0).length:Nat):Int) ((done++[k]).filter λi=>!(orN L).testBit i).length ((done++[k]).map (ef all)).sum (orN L) S' J2) 0 (acY _) ?_ λi B3 hi ⟨h64,hst3⟩=>?_
     .simp only[go_sem,simprocAttr,hst2];rfl
     unfold p5 at hst3;simp only[go_sem,simprocAttr,h64,hst3];refine⟨λhlt=>?_,λhge=>?_⟩
     .obtain⟨y,hy⟩:=get_some hlt;have hand2:=gL y S (hw32 y (acQ hy)) hS32;have hatV:atV (ws.map cP) (i:Int)= .int .u32 y:=aw hy;have hc:=Dt (λw=>w &&& S==0) hy;have hcl:=JN (λw=>w &&& S==0) ws i;have hw2:IntKind.i64.wrap ((((done.map un).sum+((ws.take i).filter λw=>w &&& S==0).length:Nat):Int)+1)=(((done.map un).sum+((ws.take i).filter λw=>w &&& S==0).length+1:Nat):Int):=by
       rw[aH (by omega)];omega
      simp only[go_sem,simprocAttr,hatV,hand2,hwsl,hw2];refine⟨hlt,λhz=>⟨hlt,ah hlt (by grind [au]),?_⟩,λhz=>⟨hlt,ah hlt (by grind [au]),?_⟩⟩
      .rw[hc,if_pos (by simp_all)];rfl
      simp_all
     .rw[List.take_of_length_le hge,<-huk,show(done.map un).sum+un k=((done++[k]).map un).sum by simp_all];rfl
    .simp only[go_sem,simprocAttr,hst3];exact⟨hbx _ _ _ _ _ _ _,done++[k],J2,by simp_all,rfl⟩
 .subst hτ;rw[mX,ac4]at hd1;have hid3:=hid1;unfold cU at hid3;unfold p5;have hcost:kB all s S up=Cj up (L.filter λx=>x &&& S==0).length (done.filter (jt all s)).length (done.map un).sum (done.filter λi=>!(orN L).testBit i).length (done.map (ef all)).sum:=by
   unfold kB;rw[<-gM hS (show all.length<=32 by omega),hd1,hL,hun,List.filter_map,acS];rfl
  rw[hcost];simp only[go_sem,simprocAttr,ak (hid3 _),h5];refine⟨λhup=>c7.ret ?_,λhup=>c7.ret ?_⟩
  .subst hup;simp only[go_sem,simprocAttr];exact⟨_,.refl _,by simp,.refl _,Ext.app (.refl _) _⟩
  .subst hup;simp only[go_sem,simprocAttr];exact⟨_,.refl _,by simp,.refl _,Ext.app (.refl _) _⟩
end Go.Proofs.Tryz
end
section
namespace Go.Av
open Go.Proofs.Tryz
theorem Hv {α:Type}(l:List α):(List.range l.length).filterMap (l[·]?)=l:=by
 induction l with
 |nil=>rfl
 |cons a r ih=>
  rw[List.length_cons,List.range_succ_eq_map,List.filterMap_cons,List.getElem?_cons_zero,List.filterMap_map];exact congrArg (a:: ·) ih
theorem wS (all:List Pkg)(S:Nat):(atL all (bf all.length S)).Sublist all:=by
 grind [atL,bf,acU,Hv]
theorem rH {l:List Pkg}(h:aZ l=0):(dr l []).length<=10:=by
 grind [aZ]
theorem vH {l m:List Pkg}(hs:l.Sublist m)(h:aZ m=0):aZ l=0:=by
 have h1:=rH h;refine o8 (ac9 hs.length_le (dH h)) (λp hp=>dM h (hs.subset hp)) ((ft h).1.sublist hs) (ac9 (ka _ _ (ic l [] List.nodup_nil) λx hx=>?_) h1);grind [iL]
theorem Hh {l m:List Pkg}(hs:l.Sublist m)(h:aZ m=0)(ho:m=cS m):cS l=l:=by
 have h1:nJ m:=by rw[ho];exact j8 (ft h).2
 exact wa (h1.sublist hs)
end Go.Av
end
section
namespace Go.Proofs.Tryz
open Go Go.Av
set_option maxRecDepth 10000
set_option maxHeartbeats 1000000
variable {W0 :World}
variable {a1 a2 a3 a4 a5 a6 a7 a8 a9 a10 a11 a12:AV}
def v8 (v:AV):Option bK:=some (.cells 23 [v])
theorem LV (hW:rR W0)(σ:ab)(id:Nat)(all:List Pkg)(S:Nat)(h0:aZ all=0)(ho:all=cS all)(hmn: ∀p∈all,iE p)(hS:S<2^all.length)
  (hid:σ[id]?=some (cU (aM all) a1 a2 a3 a4 a5 a6 a7 a8 a9 a10 a11 a12)):
  aP prog W0 157 [.ptr 143 id 0 [],cP S] σ λr σ'=>r=aM (atL all (bf all.length S))/\σ'=σ:=by
 have hidl:=(acO.1 hid).1;have h24:=dH h0;have hS32:S<4294967296:=acR hS (acP (n:=2) (by decide) (show all.length<=32 by omega));have hsub:=wS all S;have hmw:=vH hsub h0;have hsw:=Hh hsub h0 ho;have hmnw: ∀p∈atL all (bf all.length S),iE p:=λp hp=>hmn p (hsub.subset hp)
 have hpm: ∀p∈atL all (bf all.length S),aS p=0:=λp hp=>dM hmw hp
 have hwl:(atL all (bf all.length S)).length<=24:=dH hmw;refine aP.back (eQ (acY _) (kf _)) ?_;refine sS [.tmp 4] [2,11,2000025,4000004] func157 rfl rfl ntmps157 rfl rfl λhs=>?_
 simp only[go_sem,simprocAttr,cP];refine aj.goes (by simp only[go_sem,simprocAttr];rfl) (qp S (σ++[v8 .ar])) λr σ1 ⟨hr,hσ1⟩=>?_
 subst hr hσ1;simp only[go_sem,simprocAttr];have hbn:(σ++[v8 .ar]).length=σ.length+1:=by simp
 refine s7 hW (σ.length+1) (λS' τ=>∃ done v,bf 32 S=done++bf 32 S'/\τ[σ.length]?=some (v8 v)/\aL σ τ v 51 ((atL all done).map ay))
  (λτ=>False) S (by simp only[go_sem,simprocAttr]) (by decide) hS32 ?_ ?_
  (λS' k τ hS' ⟨done,v,hd1,hv,hb⟩ hbx hk hkb hkl=>?_) (λτ ⟨done,v,hd1,hv,hb⟩=>?_) (λτ hf=>hf.elim)
 .simp only[go_sem,simprocAttr];simp[jq]
 .simp only[go_sem,simprocAttr];exact⟨[],.ar,rfl,rfl,aL.nil (Ext.app (.refl _) _) _⟩
 .have hlow:=og (k:=32) hkb hkl hk;have hkS:k∈bf 32 S:=by grind
  have hkn:k<all.length:=by grind [gM,c8]
  obtain⟨p,hp⟩:=get_some hkn;have hidτ:τ[id]?=some (cU (aM all) a1 a2 a3 a4 a5 a6 a7 a8 a9 a10 a11 a12):=by
   have e:=congrArg (·[id]?) hb.ext;grind
  have hv1:=hv;unfold cU aM at hidτ;unfold v8 at hv1;have hatV:atV (all.map ay) (k:Int)=ay p:=aw hp;have hdl:done.length+1<=32:=by
   grind [ti]
  have hal:((atL all done).map ay).length<=done.length:=by
   rw[acS];exact List.length_filterMap_le _ _
  simp only[go_sem,simprocAttr,ak hidτ,ak hv1,hb.bld.ok,hb.bld.un,hatV,acS];refine⟨.of (by kernel_rfl),hkn,bA.mI (σ:=τ) (by simp only[go_sem,simprocAttr]) 1048576 (by kernel_rfl) hb.bld (.lit _ _ _) (by grind) λv' σ' ha=>?_⟩;have hb':=hb.app ha;have hkeep: ∀(j:Nat) (o:bK),τ[j]?=some (some o)->o≠ .tok->σ'[j]?=some (some o):=λj o hj ho=>by
   rw[ha.old j (acO.1 hj).1 (λe=>by have:=hb.bld.iM e;grind),hj]
  have hv2:=hkeep _ _ hv1 (λh=>by cases h);have hbx2:=hkeep _ _ hbx (λh=>by cases h);have hl2:=(acO.1 hv2).1;have hl3:=(acO.1 hbx2).1;simp only[go_sem,simprocAttr,ak hv2,aC hv2,hb'.bld.ok,hb'.bld.un,hb'.bld.fits];refine⟨?_,done++[k],v',by grind,?_,?_⟩
  .rw[acT (by omega)];exact hbx2
  .rw[acT (by omega),ac2 hl2];rfl
  .have e:(atL all (done++[k])).map ay=(atL all done).map ay++[ay p]:=by
    unfold atL;rw[List.filterMap_append,ada];simp[hp]
   rw[e];refine⟨hb'.bld.keep λj hj=>?_,(hb'.ext.set (Nat.le_refl _) _).set (Nat.le_succ _) _,hb'.tok⟩;have n1:=hb'.bld.ne hv2 (λh=>by cases h);have n2:=hb'.bld.ne hbx2 (λh=>by cases h);rw[acT (λe=>n2 (by grind)),acT (λe=>n1 (by grind))]
 .rw[mX,ac4]at hd1;have hwn:atL all done=atL all (bf all.length S):=by grind [gM]
  rw[hwn]at hb;have hv1:=hv;unfold v8 at hv1;simp only[go_sem,simprocAttr,ak hv1,hb.bld.ok,hb.bld.un];have hix:=sg (W0:=W0) (atL all (bf all.length S)) hmnw;rw[if_pos hmw,hsw]at hix;refine aj.fn (hix.cb (.cons hb.cb .nil)) ?_;simp only[go_sem,simprocAttr];refine aj.fn (sr _) ?_;simp only[go_sem,simprocAttr];obtain⟨T,hT⟩: ∃T,T=atL all (bf all.length S):=⟨_,rfl⟩;rw[<-hT]at hwl hpm ⊢;refine ae.at [] (.of (by kernel_rfl)) (λA=>∃ u,A.env 9=u/\aL σ A.st u 51 (T.map ay)) ?_ λB ⟨u,h9,hb2⟩=>?_
  .refine ae.upto [7,32] (.of (by kernel_rfl)) T.length (λi A=>A.env 33= .int .i64 i/\ ∃u,A.env 9=u/\aL σ A.st u 51 ((T.take i).map ay)) 0 (acY _) ?_ λi B hi ⟨h33,u,h9,hb2⟩=>?_
   .simp only[go_sem,simprocAttr];grind [aL.nil,aL.ext]
   simp only[go_sem,simprocAttr,h33,h9];refine⟨λhlt=>?_,λhge=>?_⟩
   .obtain⟨p,hp⟩:=get_some hlt;refine aj.fn (Kx T i hp (hpm p (acQ hp))) ?_;have hb3:aL σ (B.st++[none]) u 51 ((T.take i).map ay):=⟨hb2.bld.keep λj hj=>by rw[List.getElem?_append_left (hb2.bld.lt j hj)],hb2.ext.app _,hb2.tok⟩;simp only[go_sem,simprocAttr,h9,hb2.bld.ok,hb2.bld.un];refine bA.mI (σ:=B.st++[none]) (by simp only[go_sem,simprocAttr]) 1048576 (by kernel_rfl) hb3.bld (.lit _ _ _) (by grind) λv' σ' ha=>?_
    have hb4:=hb3.app ha;simp only[go_sem,simprocAttr,h33];refine⟨hlt,ah hlt (by grind [au]),_,rfl,?_⟩;rw[ai hp,ada];exact hb4
   grind
  .simp only[go_sem,simprocAttr,h9];refine c7.ret ?_;simp only[go_sem,simprocAttr];exact⟨_,hb2.cb,hb2.ext.le,.refl _,hb2.ext⟩
end Go.Proofs.Tryz
end
section
namespace Go.Av
open Go Go.Sort Go.Proofs
abbrev FB:=List Nat×Nat
def cN (x:FB)(j:Nat):Int:=((x.1[j]?).getD 0:Nat)
def c5 (x:FB):List Int:=[cN x 0,cN x 1,cN x 2,cN x 3,cN x 4]
def sF (x:FB):Nat:=x.2 % 4294967296
def cfF (x y:FB):Int:=orL [orL (List.zipWith sgn (c5 x) (c5 y)),sgn (jo (sF y):Nat) (jo (sF x):Nat)]
theorem Zr (a b c d e:Int):orL [a,b,c,d,e]=if a≠0 then a else if b≠0 then b else if c≠0 then c else if d≠0 then d else if e≠0 then e else 0:=rfl
theorem J6 (x y z:FB):TT (cfF x y) (cfF y z) (cfF x z):=by
 have h: ∀x y,cfF x y=if orL (List.zipWith sgn (c5 x) (c5 y))≠0 then orL (List.zipWith sgn (c5 x) (c5 y))else if sgn (jo (sF y):Nat) (jo (sF x):Nat)≠0 then sgn (jo (sF y):Nat) (jo (sF x):Nat)else 0:=λx y=>rfl
 have h5:TT (orL (List.zipWith sgn (c5 x) (c5 y))) (orL (List.zipWith sgn (c5 y) (c5 z))) (orL (List.zipWith sgn (c5 x) (c5 z))):=by
  unfold c5;simp only[acV,ac6,Zr];exact TT.lex (TT.sgn _ _ _) λ_ _ _=>TT.lex (TT.sgn _ _ _) λ_ _ _=>TT.lex (TT.sgn _ _ _) λ_ _ _=>TT.lex (TT.sgn _ _ _) λ_ _ _=>TT.lex (TT.sgn _ _ _) λ_ _ _=>TT.zero
 rw[h x y,h y z,h x z];refine TT.lex h5 λ_ _ _=>TT.lex ?_ λ_ _ _=>TT.zero
 intro h1 h2;have:=TT.sgn (jo (sF z):Nat) (jo (sF y):Nat) (jo (sF x):Nat) h2 h1;omega
theorem rv (x y:FB):cfF y x= -cfF x y:=by
 have h: ∀x y,cfF x y=if orL (List.zipWith sgn (c5 x) (c5 y))≠0 then orL (List.zipWith sgn (c5 x) (c5 y))else if sgn (jo (sF y):Nat) (jo (sF x):Nat)≠0 then sgn (jo (sF y):Nat) (jo (sF x):Nat)else 0:=λx y=>rfl
 have h5:orL (List.zipWith sgn (c5 y) (c5 x))= -orL (List.zipWith sgn (c5 x) (c5 y)):=by
  unfold c5;simp only[acV,ac6,Zr];grind [nX]
 grind [sgn]
theorem PG :SWO (ltOf cfF):=by
 refine⟨λx=>?_,λx y z h1 h2=>?_,λx y z h1 h2=>?_⟩
 .have:=rv x x;exact decide_eq_false (by omega)
 .have a1:=of_decide_eq_true h1;have a2:=of_decide_eq_true h2;obtain⟨g1,g2⟩:=J6 x y z (by omega) (by omega);refine decide_eq_true ?_;omega
 .have a1:=of_decide_eq_false h1;have a2:=of_decide_eq_false h2;obtain⟨g1,g2⟩:=J6 z y x (by grind [rv]) (by grind [rv]);refine decide_eq_false ?_;grind [rv]
theorem Bb : ∀{c d:List Nat},c.length=d.length->(lexB c d=true↔orL (List.zipWith sgn (c.map λ(x:Nat)=>(x:Int)) (d.map λ(x:Nat)=>(x:Int)))<0)/\(c=d↔orL (List.zipWith sgn (c.map λ(x:Nat)=>(x:Int)) (d.map λ(x:Nat)=>(x:Int)))=0)
 |[],[],_=>by simp[lexB,orL]
 |a::x,b::y,h=>by
  obtain⟨i1,i2⟩:=Bb (c:=x) (d:=y) (by simp_all);simp only[List.map_cons,acV,orL,lexB];grind [sgn]
theorem SX {x:FB}(h:x.1.length=5):c5 x=x.1.map λ(x:Nat)=>(x:Int):=by
 obtain⟨c,S⟩:=x
 match c,h with
 |[a,b,c,d,e],_=>rfl
theorem Pu {x y:FB}(hx:x.1.length=5/\x.2<4294967296)(hy:y.1.length=5/\y.2<4294967296):ltOf cfF x y=ltB x y:=by
 have hsx:sF x=x.2:=acX hx.2;have hsy:sF y=y.2:=acX hy.2;obtain⟨i1,i2⟩:=Bb (hx.1.trans hy.1.symm);unfold ltOf ltB cfF;grind [SX,Hz,orL,sgn]
end Go.Av
end
section
namespace Go.Proofs.Tryz
open Go Go.Av Go.Sort
set_option maxRecDepth 100000
set_option maxHeartbeats 1000000
variable {W0 :World}
def fN (x:FB):AV:=.agg 218 [cP x.2,bW x.1]
def qB (x:FB):List Value:=[.int .u32 (sF x:Nat),.int .i64 (cN x 0),.int .i64 (cN x 1),.int .i64 (cN x 2),.int .i64 (cN x 3),.int .i64 (cN x 4)]
def KQ (x:FB):Prop:=x.1.length=5/\x.2<4294967296
theorem Kq {w:World}{C:Ctx}{c:List Nat}{cs:List Value}(h5:c.length=5)(h:Rel prog w C (bW c) cs):cs=c.map λ(x:Nat)=>Value.int .i64 (x:Int):=by
 cases h with
 |agg cf h1 h2 h3 h4 h6 h7=>
 rename_i ts;have hf:bw prog 29=some [3,3,3,3,3]:=by kernel_rfl
 rw[hf]at h1;cases h1;have hsz:af prog 29=5:=by kernel_rfl
 rw[hsz]at h3;refine List.ext_getElem? λi=>?_
 by_cases hi:i<5
 .have hx:(c.map λ(x:Nat)=>AV.int .i64 (x:Int))[i]?=some (.int .i64 (c[i]'(by omega):Nat)):=by simp_all
  have hr:=h6 i _ hx;have hty:([3,3,3,3,3]:List TypeId)[i]?=some 3:=by
   grind
  obtain⟨_,_,g3⟩:=h7 i _ _ hx hty;generalize cf i=ci at hr g3;cases hr;have o0:bo prog [3,3,3,3,3] 0=0:=by kernel_rfl
  have o1:bo prog [3,3,3,3,3] 1=1:=by kernel_rfl
  have o2:bo prog [3,3,3,3,3] 2=2:=by kernel_rfl
  have o3:bo prog [3,3,3,3,3] 3=3:=by kernel_rfl
  have o4:bo prog [3,3,3,3,3] 4=4:=by kernel_rfl
  have hoff:bo prog [3,3,3,3,3] i=i:=by
   grind
  have:=g3 0 _ rfl;simp_all
 simp_all
theorem NF {w:World}{C:Ctx}{x:FB}{cs:List Value}(hx:KQ x)(h:Rel prog w C (fN x) cs):cs=qB x:=by
 cases h with
 |agg cf h1 h2 h3 h4 h6 h7=>
 have hf:bw prog 218=some [148,29]:=by kernel_rfl
 rw[hf]at h1;cases h1;have hsz:af prog 218=6:=by kernel_rfl
 rw[hsz]at h3;have ho0:bo prog [148,29] 0=0:=by kernel_rfl
 have ho1:bo prog [148,29] 1=1:=by kernel_rfl
 have r0:=h6 0 _ rfl;obtain⟨_,_,g0⟩:=h7 0 _ _ rfl rfl;have r1:=h6 1 _ rfl;obtain⟨_,_,g1⟩:=h7 1 _ _ rfl rfl;have e1:=Kq hx.1 r1;rw[e1]at g1;generalize cf 0=c0 at r0 g0;cases r0;have q0:=g0 0 _ rfl;rw[ho0]at q0;rw[ho1]at g1;obtain⟨c,S⟩:=x;obtain⟨hc,hS⟩:=hx
 match c,hc with
 |[a,b,c,d,e],_=>
  have q1:=g1 0 _ rfl;have q2:=g1 1 _ rfl;have q3:=g1 2 _ rfl;have q4:=g1 3 _ rfl;have q5:=g1 4 _ rfl;have hm:S % 4294967296=S:=acX hS
  match cs,h3 with
  |[v0,v1,v2,v3,v4,v5],_=>
   simp at q0 q1 q2 q3 q4 q5;subst q0 q1 q2 q3 q4 q5;show _=[Value.int .u32 ((S % 4294967296:Nat):Int),_,_,_,_,_];rw[hm];rfl
theorem P1 {w:World}{C:Ctx}{x:FB}(hx:KQ x):Rel prog w C (fN x) (qB x):=by
 obtain⟨c,S⟩:=x;obtain⟨hc,hS⟩:=hx
 match c,hc with
 |[a,b,c,d,e],_=>
  have hm:S % 4294967296=S:=acX hS;have hcost:Rel prog w C (bW [a,b,c,d,e]) [.int .i64 (a:Nat),.int .i64 (b:Nat),.int .i64 (c:Nat),.int .i64 (d:Nat),.int .i64 (e:Nat)]:=by
   refine .agg (ts:=[3,3,3,3,3]) (λi=>[.int .i64 (([a,b,c,d,e][i]?.getD 0:Nat):Int)]) (by kernel_rfl) rfl (by kernel_rfl) (λc hc=>?_) (λi x hx=>?_) (λi x ty hx hty=>?_)
   .simp at hc;rcases hc with rfl|rfl|rfl|rfl|rfl<;>rfl
   .match i,hx with
    |0,hx=>cases hx;exact .int _ _
    |1,hx=>cases hx;exact .int _ _
    |2,hx=>cases hx;exact .int _ _
    |3,hx=>cases hx;exact .int _ _
    |4,hx=>cases hx;exact .int _ _
   .match i,hx,hty with
    |0,hx,hty=>cases hx;cases hty;exact⟨by kernel_rfl,⟨rfl,by kernel_rfl⟩,λj u hj=>by match j,hj with|0,hj=>cases hj;rfl⟩
    |1,hx,hty=>cases hx;cases hty;exact⟨by kernel_rfl,⟨rfl,by kernel_rfl⟩,λj u hj=>by match j,hj with|0,hj=>cases hj;rfl⟩
    |2,hx,hty=>cases hx;cases hty;exact⟨by kernel_rfl,⟨rfl,by kernel_rfl⟩,λj u hj=>by match j,hj with|0,hj=>cases hj;rfl⟩
    |3,hx,hty=>cases hx;cases hty;exact⟨by kernel_rfl,⟨rfl,by kernel_rfl⟩,λj u hj=>by match j,hj with|0,hj=>cases hj;rfl⟩
    |4,hx,hty=>cases hx;cases hty;exact⟨by kernel_rfl,⟨rfl,by kernel_rfl⟩,λj u hj=>by match j,hj with|0,hj=>cases hj;rfl⟩
  refine .agg (ts:=[148,29]) (λi=>if i=0 then [.int .u32 (S:Nat)]else [.int .i64 (a:Nat),.int .i64 (b:Nat),.int .i64 (c:Nat),.int .i64 (d:Nat),.int .i64 (e:Nat)]) (by kernel_rfl) rfl (by kernel_rfl) (λv hv=>?_) (λi x hx=>?_) (λi x ty hx hty=>?_)
  .simp[qB]at hv;rcases hv with rfl|rfl|rfl|rfl|rfl|rfl<;>rfl
  .match i,hx with
   |0,hx=>cases hx;exact .int _ _
   |1,hx=>simp_all
  .match i,hx,hty with
   |0,hx,hty=>
    cases hx;cases hty;refine⟨by kernel_rfl,⟨rfl,by kernel_rfl⟩,λj u hj=>?_⟩
    match j,hj with
    |0,hj=>
     cases hj;show some (Value.int .u32 ((S % 4294967296:Nat):Int))=_;rw[hm]
   |1,hx,hty=>
    cases hx;cases hty;refine⟨by kernel_rfl,⟨rfl,by kernel_rfl⟩,λj u hj=>?_⟩
    match j,hj with
    |0,hj=>cases hj;rfl
    |1,hj=>cases hj;rfl
    |2,hj=>cases hj;rfl
    |3,hj=>cases hj;rfl
    |4,hj=>cases hj;rfl
theorem xc (x:FB):(qB x).length=6:=rfl
theorem Lc (x:FB): ∀v∈qB x,v.oneCell'=true:=λv hv=>by
 simp[qB]at hv;rcases hv with rfl|rfl|rfl|rfl|rfl|rfl<;>rfl
theorem EW (σ:ab)(id:Nat)(xs:List FB)(hid:σ[id]?=some (some (.cells 218 (xs.map fN))))(h0:xs≠[])(hx:xs.length<=1000000000)(hm: ∀x∈xs,KQ x):
  aP prog W0 212 [.row 218 id 0 xs.length,.fn 213 []] σ λr σ'=>∃ ys:List FB,ys.Perm xs/\(ys.Pairwise λx y=>ltB y x=false)/\σ'=σ.set id (some (.cells 218 (ys.map fN))):=λw C vs hst hl hv=>by
 obtain _|⟨v1,_|⟨v2,_|⟨_,_⟩⟩⟩:=vs<;>simp at hl
 have h1:=(hv 0 _ _ rfl rfl).aG rfl;have h2:=(hv 1 _ _ rfl rfl).aG rfl;obtain⟨b,base,room,arr,t',fr,m1,m2,mf,m3,m4,cf,m5⟩:=hst.cells hid;have hpos:0<xs.length:=List.length_pos_iff.2 h0;have hsz:af prog 218=6:=by kernel_rfl
 rw[hsz,acS]at m4;cases h1 with
 |row hn hc hi ho=>
 rename_i a cap;obtain⟨b',base',room',e1,e2,e3⟩:=ho _ m1;cases e1;have e4:=e2 (by omega);subst e4;cases h2 with
 |fn f1 f2 f3=>
 rename_i vs
 have:vs=[]:=List.length_eq_zero_iff.1 f1.symm;subst this;rw[Nat.zero_mul,Nat.add_zero];have hcell: ∀j (h:j<xs.length) (q:Nat) (c:Value),(qB xs[j])[q]?=some c->arr[base+j*6+q]?=some c:=λj h q c hq=>by
  have hj:(xs.map fN)[j]?=some (fN xs[j]):=by simp_all
  grind [NF]
 have hH:HoldsK qB 6 w b base xs.toArray:=λt ht=>by
  have ht':t<xs.length*6:=by simp_all
  have hj:t / 6<xs.length:=by omega
  refine⟨?_,qS (n:=0) m2 mf (by omega)⟩;rw[get_flatK _ _ _ _ (by omega),getElem!_pos xs.toArray (t / 6) (by omega),List.getElem_toArray];have hq:t % 6<(qB xs[t / 6]).length:=by grind [xc]
  have:=hcell (t / 6) hj (t % 6) _ (List.getElem?_eq_getElem hq);rw[getElem!_pos (qB xs[t / 6]) (t % 6) hq];grind [World.cell?]
 refine .inl ⟨⟨_,func212,by kernel_rfl,by kernel_rfl⟩,?_⟩;have hq:=AnyQ.slices_SortFunc Tryz.GJ 6 Tryz.isAgg218 Tryz.sizeOf218 qB xc Lc cfF PG 213 #[] b base cap xs.toArray w (enters_of func213 (by kernel_rfl) rfl)
  (λm os dk hs x y=>JE (sF x) (sF y) (adg _ (by decide)) (adg _ (by decide)) _ _ _ _ _ _ _ _ _ _ _) hH (Array.getElem?_eq_some_iff.1 m2).1 (by grind)
 refine hq.mono λe w' ⟨he,d',n,os,⟨p1,p2,p3⟩,p4,hw⟩=>?_
 have hp:d'.toList.Perm xs:=by
  grind [Array.extract_size]
 have hll:=hp.length_eq;have hok: ∀x∈d'.toList,KQ x:=λx hx=>hm x (hp.subset hx)
 unfold sortWorldK putRowK at hw;obtain⟨s1,s2⟩:=hst.z6 (fl:=flatK qB 6 d') (n:=n) (os:=os) (ys:=d'.toList.map fN) (k:=6) hid m1 hsz (by simp_all) (by simp_all) λi y hy=>by
  rw[List.getElem?_map]at hy;obtain⟨x,hx,rfl⟩:=Option.map_eq_some_iff.1 hy;have hil:=(acO.1 hx).1;refine⟨qB x,P1 (hok x (acQ hx)),rfl,⟨rfl,by kernel_rfl⟩,λj c hc=>?_⟩;have hj:=(acO.1 hc).1;rw[xc]at hj;have hdl:i<d'.size:=by omega
  have hlt:i*6+j<(flatK qB 6 d').size:=by rw[size_flatK];omega
  rw[Array.getElem?_eq_getElem hlt,<-getElem!_pos (flatK qB 6 d') (i*6+j) hlt,get_flatK _ _ _ _ (by omega),show(i*6+j) / 6=i by omega,show(i*6+j) % 6=j by omega,getElem!_pos d' i hdl];simp_all
 subst hw;refine⟨_,.tup [],_,C,he,⟨d'.toList,hp,?_,rfl⟩,s2,.tup rfl (λi a v h=>by simp at h),s1⟩;rw[List.pairwise_iff_getElem];intro i j hi hj hij;have hi':i<d'.size:=by omega
 have hj':j<d'.size:=by omega
 have h4:=p4 i j (acY _) hij (by omega);rw[getElem!_pos d' i hi',getElem!_pos d' j hj',Pu (hok _ (ac0 hj')) (hok _ (ac0 hi'))]at h4;simp_all
theorem CO :ag prog W0 212 [.ar,.fn 213 []] (.tup []):=by
 refine iP func212 (by kernel_rfl) (by kernel_rfl) λw C vs hb hlow hvl hv=>?_
 obtain _|⟨v1,_|⟨v2,_|⟨_,_⟩⟩⟩:=vs<;>simp at hvl
 have h1:=(hv 0 _ _ rfl rfl).aG rfl;cases h1;refine(AnyF.slices_SortFunc_none Tryz.GJ none 0 v2 w).mono λe w' ⟨he,hw⟩=>?_
 subst hw;exact⟨_,he,.tup rfl (λi a v h=>by simp at h),RowKit.Below.refl _ _⟩
end Go.Proofs.Tryz
end
