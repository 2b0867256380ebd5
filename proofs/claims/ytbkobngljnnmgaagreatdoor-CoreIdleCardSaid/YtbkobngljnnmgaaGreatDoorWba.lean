/- What the last text of this claim rests on. No conditions. -/
import Derived.Shelf.SlSortCmp.NoneTotal
import Derived.Test.YtbkobngljnnmgaaGreatDoorWad
import Derived.Test.YtbkobngljnnmgaaGreatDoorWan
import Derived.Test.YtbkobngljnnmgaaGreatDoorWap
import Derived.Test.YtbkobngljnnmgaaGreatDoorWas
import Derived.Test.YtbkobngljnnmgaaGreatDoorWaw
import Derived.Test.YtbkobngljnnmgaaGreatDoorWay
import Derived.Test.YtbkobngljnnmgaaGreatDoorWaz
set_option linter.unusedSimpArgs false
set_option linter.unusedVariables false
open List renaming getElem?_eq_some_iff->acG,mem_of_getElem?->acI,length_map->acK,getElem?_set_ne->acL,filter_sublist->acM,zipWith_cons_cons->acN,length_filter_le->acO,getElem?_set_self->acU,pairwise_lt_range->acV,append_nil->acW,zipWith_nil_left->acY,drop_succ_cons->acZ,mem_map->ac0,map_append->ac2,drop_zero->ac3
open Nat renaming pow_le_pow_right->acH,lt_of_lt_of_le->acJ,mod_eq_of_lt->acP,zero_le->acQ,testBit_lt_two_pow->acT,le_trans->ac1,mod_lt->ac6
open Classical renaming byContradiction->acR,choose_spec->ac5
open Array renaming getElem_mem_toList->acS
open List.Pairwise renaming sublist->acX
open List.Perm renaming eq_of_pairwise->ac4
section
namespace Go.Proofs.Tryz
open Go Go.Av
set_option maxRecDepth 10000
variable {W0 :World}
def jw (S:Nat):Option bJ:=some (.cells 148 [cR S])
def ycM (bx:Nat)(I:Nat->ab->Prop):Int->ab->(ab->Prop)->Prop:=λi σ Qn=>∃ S k,i=((k:Nat):Int)/\S<4294967296/\I S σ/\σ[bx]?=some (jw S)/\k<32/\S.testBit k=true/\(∀j,j<k->S.testBit j=false)/\Qn=λσ'=>σ'[bx]?=some (jw S)/\I (S &&& (S-1)) (σ'.set bx (jw (S &&& (S-1))))
theorem Pd {S:Nat}(h0:S≠0)(hS:S<4294967296): ∃k,k<32/\S.testBit k=true/\ ∀j,j<k->S.testBit j=false:=by
 have hex: ∃k,S.testBit k=true:=by
  refine acR λhn=>h0 (Nat.eq_of_testBit_eq λi=>?_)
  simp_all
 obtain⟨k,hk,hm⟩:=fB hex;refine⟨k,?_,hk,λj hj=>?_⟩
 .refine acR λhn=>?_
  have:S<2^k:=acJ hS (acH (n:=2) (by decide) (show 32<=k by omega));grind [acT]
 grind
theorem T7 (hW:qL W0)(bx:Nat)(I:Nat->ab->Prop)(Qx:ab->Prop):Pl prog W0 259 [.ptr 148 bx 0 []] (ycM bx I) Qx (λσ=>∃ S,S<4294967296/\I S σ/\σ[bx]?=some (jw S)) (λσ=>I 0 σ):=by
 intro B L U w C σ vs m hU hY u0 hst hl hv hpre;refine(callsIn_of_wp (F:=.wide) func259 rfl trivial (wpIn_mono (?_:Code.wpIn .wide m prog _ (λe a' w'=>∃ A' C' md',U md' w' C'/\bG prog W0 14 w' C' A' a'/\eA prog W0 B w C w' C' A'.st/\(((e= .normal\/e= .ret)/\md'=true/\I 0 A'.st)\/((e= .normal\/e= .ret)/\md'=false/\Qx A'.st))) _ _) λe a' w' ⟨A',C',md',u',r',l',q⟩=>?_))
 .obtain _|⟨v1,_|⟨_,_⟩⟩:=vs<;>simp at hl
  have hr0:=mu (P:=prog) (W0:=W0) (m:=14) (args:=[.yl L,.ptr 148 bx 0 []]) (vs:=[.func (.yield L) #[] #[],v1]) hst rfl (λi a v ha hv'=>by
   obtain _|_|i:=i
   .simp at ha hv';subst ha hv';exact .one rfl (.yl L)
   .grind
   simp_all) (by simp)
  refine(?_:VCY prog W0 B U 14 _ (λe A' md'=>((e= .normal\/e= .ret)/\md'=true/\I 0 A'.st)\/((e= .normal\/e= .ret)/\md'=false/\Qx A'.st)) ⟨iP [.yl L,.ptr 148 bx 0 []],σ⟩ true) w C _ m u0 hr0;refine VCY.block (VCY.loop (λk A b=>b=true/\A.env 0= .yl L/\A.env 1= .ptr 148 bx 0 []/\ ∃S,k=S/\S<4294967296/\I S A.st/\A.st[bx]?=some (jw S)) (Classical.choose hpre) ⟨rfl,rfl,rfl,_,rfl,ac5 hpre⟩ λk A b ⟨hb,hA0,hA1,S,hk,hS,hI,hbx⟩=>?_);subst hb hk;have hbx':=hbx;unfold jw cR at hbx';refine VCY.seq (VCY.of hU (bB (fz:=[]) _ _ _ ?_));simp only[go_sem,simprocAttr,hA1,an hbx'];refine⟨λh0=>?_,λh0=>?_⟩
  .have hS0:k≠0:=by omega
   obtain⟨j,hj,hjb,hjl⟩:=Pd hS0 hS;refine VCY.seq (VCY.block (VCY.seq (VCY.Uw (fz:=[]) (L:=L) (Qn:=λσ'=>σ'[bx]?=some (jw k)/\I (k &&& (k-1)) (σ'.set bx (jw (k &&& (k-1))))) (Qx:=Qx) (i:=(j:Int)) (K:=λA1=>A1.env 9= .yl L/\A1.env 11= .int .i64 j/\A1.env 1= .ptr 148 bx 0 []/\A1.env 0= .yl L/\A1.st=A.st) 3 hU rfl (by decide) ?_ λA1 ⟨e9,e11,e1,e0,est⟩=>⟨e9,e11,λw2 C2 u2 hst2=>?_,λσ' hq=>?_,λσ' hq=>?_⟩)))
   .simp only[List.take_succ_cons,List.take_zero];simp only[go_sem,simprocAttr,hA0,hA1,an hbx'];refine aj.fn (abi hW hS hj hjb hjl) ?_;simp only[go_sem,simprocAttr];simp_all
   .rw[est]at hst2;exact hY _ w2 C2 A.st _ u2 hst2 ⟨k,j,rfl,hS,hI,hbx,hj,hjb,hjl,rfl⟩
   .obtain⟨hq1,hq2⟩:=hq;have hq1':=hq1;unfold jw cR at hq1';simp only[acZ,ac3];simp only[go_sem,simprocAttr];refine VCY.of hU (bB (fz:=[]) _ _ _ ?_);simp only[go_sem,simprocAttr];refine VCY.of hU (bB (fz:=[]) _ _ _ ?_);have hand:bits .and .u32 (k:Int) (IntKind.u32.wrap ((k:Int)-1))=((k &&& (k-1):Nat):Int):=by
     rw[show IntKind.u32.wrap ((k:Int)-1)=((k-1:Nat):Int) by grind [IntKind.wrap_u32]];grind [gX]
    simp only[go_sem,simprocAttr,e1,e0,an hq1',hand,aC hq1'];have hle:k &&& (k-1)<=k-1:=Nat.and_le_right;exact⟨k &&& (k-1),by omega,_,rfl,by omega,hq2,acU (acG.1 hq1).1⟩
   .simp only[acZ,ac3];simp only[go_sem,simprocAttr];refine VCY.of hU (bB (fz:=[]) _ _ _ ?_);simp only[go_sem,simprocAttr];simp_all
  simp_all
 .obtain⟨fin,hmd⟩:(e= .normal\/e= .ret)/\((md'=true/\I 0 A'.st)\/(md'=false/\Qx A'.st)):=by
   grind
  have key: ∀fn:Func,fn.results= #[]->a'.defers=[]/\ ∃v,(results fn a'.tmps).run prog w'= .ok v w'/\ ∃v' C' σ',Ending.returned v= .returned v'/\eA prog W0 B w C w' C' σ'/\((U true w' C'/\I 0 σ')\/(U false w' C'/\Qx σ')):=λfn hfn=>by
   obtain⟨v,g1,g2⟩:=oB (fn:=fn) (ts:=[]) r' hfn;grind [bG.defers]
  rcases fin with rfl|rfl
  .exact key _ rfl
  .exact key _ rfl
theorem sM {n p:Nat}{fz:List Nat}{g:Operand}{asg body:Code}{Q:Exit->aa->Prop}{A:aa}(hW:qL W0)(bx:Nat)(I:Nat->ab->Prop)(X:ab->Prop)(S0:Nat)(hg:A.val g= .fn 259 [.ptr 148 bx 0 []])(hp:p<n)(hS0:S0<4294967296)(hbx:A.st[bx]?=some (jw S0))(h0:I S0 A.st)
  (round: ∀(S k:Nat) (σ:ab),S<4294967296->I S σ->σ[bx]?=some (jw S)->k<32->S.testBit k=true->(∀j,j<k->S.testBit j=false)->
   cVC prog W0 n fz asg (cr (cVC prog W0 n fz body (vy (λσ'=>σ'[bx]?=some (jw S)/\I (S &&& (S-1)) (σ'.set bx (jw (S &&& (S-1))))) X)) λ_ _=>False) ((A.ay σ).upd p (.int .i64 (k:Int))))
  (he: ∀σ,I 0 σ->Q .normal (A.ay σ)) (hx: ∀σ,X σ->Q .ret (A.ay σ)):CF prog W0 n fz g #[p] asg .mk body .mk Q .mk A:=
 VCM.range hg hp (enters_of func259 (by kernel_rfl) rfl) (T7 hW bx I X) ⟨S0,hS0,h0,hbx⟩ (λi σ Qn hy=>by
  obtain⟨S,k,rfl,hS,hI,hb,hk,h1,h2,rfl⟩:=hy;refine(bB asg _ _ (round S k σ hS hI hb hk h1 h2)).mono λe A' q=>?_
  cases e with
  |normal=>exact bB body _ _ q
  |_=>exact q) he hx
theorem zF {Qn Qr:ab->Prop}{A:aa}:vy Qn Qr .normal A=Qn A.st:=rfl
theorem IG {Qn Qr:ab->Prop}{A:aa}:vy Qn Qr .ret A=Qr A.st:=rfl
attribute [go_sem ↓] zF IG
end Go.Proofs.Tryz
end
section
namespace Go.Av
open Go
theorem aS.back {P:Program}{W0:World}{f:FuncId}{args:List AV}{r:AV}{σ:ab}(hr:aX σ.length r)(h:aS P W0 f args σ λr' σ'=>dq r' r/\Ext σ σ'):aS P W0 f args σ λr' σ'=>r'=r/\σ'=σ:=λw C vs hst hl hv=>
 (h w C vs hst hl hv).mono λe w' ⟨v,r',σ',C',he,⟨hw,hx⟩,hs,hrv,hstep⟩=>by
  have hs2:aE P W0 w' (C'.eY σ.length) σ:=by
   have:=hs.eY (n:=σ.length) hx.le λid te xs hid hss=>hst.ids (show σ[id]?=some (some (.cells te xs)) by
    have e:=congrArg (·[id]?) hx;simp_all)
   rwa [hx]at this
  grind [aJ.eY,aJ.cb,Step.eY,aE.nx]
theorem gU {n k S:Nat}(hS:S<2^n)(hk:n<=k):bh k S=bh n S:=by
 refine ac4 (le:=(· < ·)) (λa b _ _ h1 h2=>by omega) (acX acM acV) (acX acM acV) ?_;grind [bh,acM,List.perm_ext_iff_of_nodup,acT,acJ,acH]
theorem nI (k:Nat):bh k 0=[]:=by
 simp[bh]
end Go.Av
end
section
namespace Go.Proofs.Tryz
open Go Go.Av
set_option maxRecDepth 10000
set_option maxHeartbeats 1000000
variable {W0 :World}
variable {a0 a1 a2 a3 a4 a6 a7 a8 a9 a10 a11 a12:AV}
def eR (all:List Pkg)(s:List aB)(l:List aN):AV:=.sl 150 ((List.range all.length).map λi=>iF all s l i ((all[i]?).getD xJ))
theorem GX {all:List Pkg}{s:List aB}{l:List aN}{i:Nat}{p:Pkg}(h:all[i]?=some p):((List.range all.length).map λi=>iF all s l i ((all[i]?).getD xJ))[i]?=some (iF all s l i p):=by
 grind
theorem sX {all:List Pkg}{s:List aB}{l:List aN}{i:Nat}{p:Pkg}(h:all[i]?=some p):atV ((List.range all.length).map λi=>iF all s l i ((all[i]?).getD xJ)) (i:Int)= .agg 150 [.bool (oF l s p),cR (iH all i),fk ((p.pre++p.dep).map (gf all)),fk (p.rcm.map (gf all)),.int .i64 (bF all p),.bool (Gz s p)]:=by
 unfold atV;rw[Int.toNat_natCast,GX h];rfl
theorem FJ (n S:Nat)(hn:n<4294967296)(hS:S<4294967296):ai prog W0 253 [cR n,.loc 148 (cR S)] (.bool (n &&& S==0)):=by
 refine ak [3] [] func253 rfl rfl ntmps253 rfl rfl (.bool _) λhs σ=>?_
 have hb:=gX n S hn hS;simp only[go_sem,simprocAttr,cR,hb];rw[show(((n &&& S:Nat):Int)==0)=(n &&& S==0) by grind];exact .refl _
theorem Jp (hW:qL W0)(σ:ab)(id:Nat)(all:List Pkg)(s:List aB)(l:List aN)(S:Nat)(h24:all.length<=24)(hS:S<2^all.length)(hid:σ[id]?=some (c7 a0 a1 a2 a3 a4 (eR all s l) a6 a7 a8 a9 a10 a11 a12)):
  aS prog W0 210 [.ptr 143 id 0 [],cR S] σ λr σ'=>r= .bool (fM all S)/\σ'=σ:=by
 have hidl:=(acG.1 hid).1;have hS32:S<4294967296:=acJ hS (acH (n:=2) (by decide) (show all.length<=32 by omega));refine aS.back (.bool _) ?_;refine tg [.cell 4 4] [2,3] func210 rfl rfl ntmps210 rfl rfl λhs=>?_
 simp only[go_sem,simprocAttr,cR];refine aj.goes (by simp only[go_sem,simprocAttr]) (qb S (σ++[some (.cells 4 [.bool false])])) λr σ1 ⟨hr,hσ1⟩=>?_
 subst hr hσ1;simp only[go_sem,simprocAttr];have hbx: ∀S',(σ++[some (.cells 4 [.bool false]),jw S'])[σ.length+1]?=some (jw S'):=λS'=>by simp_all
 have hidτ: ∀S',(σ++[some (.cells 4 [.bool false]),jw S'])[id]?=some (c7 a0 a1 a2 a3 a4 (eR all s l) a6 a7 a8 a9 a10 a11 a12):=λS'=>by grind
 have hset: ∀S' b S'',(σ++[some (.cells 4 [.bool b]),jw S']).set (σ.length+1) (jw S'')=σ++[some (.cells 4 [.bool b]),jw S'']:=λS' b S''=>by simp_all
 have hre: ∀S',(σ++[some (.cells 4 [.bool false]),jw S'])[σ.length]?=some (some (.cells 4 [.bool false])):=λS'=>by simp_all
 have hhl:fM all S=(bh 32 S).all λi=>(p8 all i).all λn=>n &&& S !=0:=by rw[gU hS (by omega)];rfl
 refine sM hW (σ.length+1) (λS' τ=>τ=σ++[some (.cells 4 [.bool false]),jw S']/\ ∃done,bh 32 S=done++bh 32 S'/\ ∀i∈done,((p8 all i).all λn=>n &&& S !=0)=true)
  (λτ=>Ext σ τ/\τ[σ.length]?=some (some (.cells 4 [.bool false]))/\fM all S=false) S (by simp only[go_sem,simprocAttr]) (by decide) hS32 (by simp only[go_sem,simprocAttr];exact hbx S) ⟨by simp only[go_sem,simprocAttr];rfl,[],rfl,λi hi=>by cases hi⟩
  (λS' k τ hS' ⟨hτ,done,hd1,hd2⟩ hb hk hkb hkl=>?_) (λτ ⟨hτ,done,hd1,hd2⟩=>?_) (λτ ⟨hτ,hf,hn⟩=>?_)
 .subst hτ;have hlow:=oG (k:=32) hkb hkl hk;have hkS:k∈bh 32 S:=by simp_all
  have hkn:k<all.length:=by rw[gU hS (by omega)]at hkS;grind [de]
  obtain⟨p,hp⟩:=get_some hkn;have hfa:=GX (s:=s) (l:=l) hp;have hid1:=hidτ S';have hre1:=hre S';unfold c7 eR at hid1;have han:=aaR (W0:=W0) cR (λ_=>trivial) ((p.pre++p.dep).map (gf all)) (λn=>n &&& S==0) 253 [.loc 148 (cR S)] (λn hn=>by
   have hn32:n<4294967296:=by
    obtain⟨c,_,rfl⟩:=ac0.1 hn;exact mS λz hz=>by grind
   grind [FJ])
  have hany:(((p.pre++p.dep).map (gf all)).any λn=>n &&& S==0)= !((p8 all k).all λn=>n &&& S !=0):=by
   grind [p8]
  have hat:=sX (s:=s) (l:=l) hp;have hlen:((List.range all.length).map λi=>iF all s l i ((all[i]?).getD xJ)).length=all.length:=by simp_all
  simp only[go_sem,simprocAttr,an hid1,hat,hlen];refine⟨hkn,aj.fn (r:=.bool _) han ?_⟩;rw[hany];simp only[go_sem,simprocAttr,aC hre1];refine⟨λhno=>⟨Ext.app (.refl _) _,?_⟩,λhyes=>⟨hbx S',done++[k],?_,λi hi=>?_⟩⟩
  .simp_all
  .simp_all
  grind
 .subst hτ;rw[nI,acW]at hd1;have hre1:=hre 0;simp only[go_sem,simprocAttr,aC hre1];refine cX.ret ?_;have hre2:(σ++[some (.cells 4 [.bool true]),jw 0])[σ.length]?=some (some (.cells 4 [.bool true])):=by simp_all
  have hT:fM all S=true:=by grind
  rw[hT];simp only[go_sem,simprocAttr,an hre2];exact⟨_,.refl _,by simp,.refl _,Ext.app (.refl _) _⟩
 .simp only[go_sem,simprocAttr];refine cX.ret ?_;rw[hn];have hle:=hτ.le;simp only[go_sem,simprocAttr,an hf];exact⟨_,.refl _,hle,.refl _,hτ⟩
end Go.Proofs.Tryz
end
section
namespace Go.Av
open Go
theorem GI (K k:Nat):(K &&& 2^k==0)= !K.testBit k:=by
 grind [wC]
theorem DM (l:List Nat)(a:Nat):orN (l++[a])=orN l ||| a:=by
 induction l with
 |nil=>simp[orN]
 |cons b r ih=>grind [orN]
theorem SX {l:List Nat}(h: ∀a∈l,a<4294967296):orN l<4294967296:=by
 induction l with
 |nil=>decide
 |cons b r ih=>rw[orN];exact Nat.or_lt_two_pow (n:=32) (h b (by simp)) (ih λa ha=>h a (by simp[ha]))
theorem tP (k S:Nat):(bh k S).length<=k:=by
 grind [bh]
end Go.Av
end
section
namespace Go.Proofs.Tryz
open Go Go.Av
set_option maxRecDepth 10000
set_option maxHeartbeats 1000000
variable {W0 :World}
variable {a0 a1 a2 a3 a4 a8 a9 a10 a11 a12:AV}
def HU (ch un ad nw:Int)(kn:Nat):ab:=[some (.cells 29 [.agg 29 [.int .i64 0,.int .i64 0,.int .i64 0,.int .i64 0,.int .i64 0]]),some (.cells 3 [.int .i64 ch]),some (.cells 3 [.int .i64 un]),some (.cells 3 [.int .i64 ad]),some (.cells 3 [.int .i64 nw]),some (.cells 148 [.int .u32 (kn:Nat)])]
def ql (ch un ad nw:Int)(kn S:Nat)(J:ab):ab:=some (.cells 29 [.agg 29 [.int .i64 0,.int .i64 0,.int .i64 0,.int .i64 0,.int .i64 0]])::some (.cells 3 [.int .i64 ch])::some (.cells 3 [.int .i64 un])::some (.cells 3 [.int .i64 ad])::some (.cells 3 [.int .i64 nw])::some (.cells 148 [.int .u32 (kn:Nat)])::some (.cells 148 [.int .u32 (S:Nat)])::J
theorem P8 (hW:qL W0)(σ:ab)(id:Nat)(all:List Pkg)(s:List aB)(l:List aN)(S:Nat)(up:Bool)(h24:all.length<=24)(hrc: ∀p∈all,p.rcm.length<=1048576)(D6:s.length<=10)(hS:S<2^all.length)
  (hid:σ[id]?=some (c7 a0 a1 a2 a3 a4 (eR all s l) (fk (s.map (iU all))) (.bool up) a8 a9 a10 a11 a12)):
  aS prog W0 211 [.ptr 143 id 0 [],cR S] σ λr σ'=>r=bH (kB all s S up)/\σ'=σ:=by
 have hidl:=(acG.1 hid).1;have hS32:S<4294967296:=acJ hS (acH (n:=2) (by decide) (show all.length<=32 by omega));refine aS.back (fo (acQ _) (DP _)) ?_;refine tg [.cell 4 29] [2,3,14] func211 rfl rfl ntmps211 rfl rfl λhs=>?_
 have hid1: ∀τ,(σ++τ)[id]?=some (c7 a0 a1 a2 a3 a4 (eR all s l) (fk (s.map (iU all))) (.bool up) a8 a9 a10 a11 a12):=λτ=>by grind
 have hid2:=hid1;unfold c7 fk at hid2;have hln:(s.map (iU all)).length=s.length:=acK ..;have hthere: ∀a∈s.map (iU all),a<4294967296:=λa ha=>by
  obtain⟨x,_,rfl⟩:=ac0.1 ha;exact mS λz hz=>by have:=(List.mem_filter.1 hz).1;grind
 obtain⟨L,hL⟩: ∃L,L=s.map (iU all):=⟨_,rfl⟩;rw[<-hL]at hln hthere;have hLl:(L.map cR).length=s.length:=by simp_all
 simp only[go_sem,simprocAttr,cR,an (hid2 _),<-hL,hLl];refine ae.at [2,3,4,6,7,8,9,10] (λA=>A.env 5= .int .i64 (L.filter λx=>x &&& S==0).length/\A.st=σ++HU 0 0 0 0 (orN L)) ?_ λB ⟨h5,hst⟩=>?_
 .refine ae.upto [2,3,4,6,7,8,9,10,20,21] s.length (λi A=>A.env 22= .int .i64 i/\A.env 5= .int .i64 ((L.take i).filter λx=>x &&& S==0).length/\A.st=σ++HU 0 0 0 0 (orN (L.take i))) 0 (acQ _) ?_ λi B hi ⟨h22,h5,hst⟩=>?_
  .simp only[go_sem,simprocAttr];exact⟨rfl,rfl⟩
  unfold HU at hst;simp only[go_sem,simprocAttr,h22,h5,hst];refine⟨λhlt=>?_,λhge=>?_⟩
  .obtain⟨y,hy⟩:=get_some (show i<L.length by omega);have hyl:=hthere y (acI hy);have hkl:orN (L.take i)<4294967296:=SX λa ha=>hthere a (List.mem_of_mem_take ha)
   have hor:=jB _ _ hkl hyl;have hand:=gX _ _ hyl hS32;have hatV:atV (L.map cR) (i:Int)= .int .u32 y:=aw hy;have hc:=oH (λx=>x &&& S==0) hy;have hcl:=xu (λx=>x &&& S==0) L i;simp only[go_sem,simprocAttr,hatV,hor,hand,hLl];refine⟨hlt,λhz=>⟨hlt,ag hlt (by grind [aq]),?_,?_⟩,λhz=>⟨hlt,ag hlt (by grind [aq]),?_,?_⟩⟩
   .rw[hc,if_pos (by simp_all)];exact ag (N:=11) (by omega) (by simp[aq])
   .rw[ah hy,DM];rfl
   .simp_all
   .rw[ah hy,DM];rfl
  grind
 have hst0:=hst;unfold HU at hst;simp only[go_sem,simprocAttr,hst];refine aj.goes (by simp only[go_sem,simprocAttr];exact hst) (qb S (σ++HU 0 0 0 0 (orN L))) λr σ1 ⟨hr,hσ1⟩=>?_
 subst hr hσ1;have hbn:(σ++HU 0 0 0 0 (orN L)).length=σ.length+6:=by grind
 rw[hbn];simp only[go_sem,simprocAttr,HU];have hbx: ∀ch un ad nw kn S' J,(σ++ql ch un ad nw kn S' J)[σ.length+6]?=some (jw S'):=λch un ad nw kn S' J=>by simp[ql,jw,cR]
 have hset: ∀ch un ad nw kn S' S'' J,(σ++ql ch un ad nw kn S' J).set (σ.length+6) (jw S'')=σ++ql ch un ad nw kn S'' J:=λch un ad nw kn S' S'' J=>by simp_all[ql]
 obtain⟨un,hun⟩: ∃un:Nat->Nat,un=λi=>((xE all i).filter λw=>w &&& S==0).length:=⟨_,rfl⟩
 refine sM hW (σ.length+6) (λS' τ=>∃ done J,bh 32 S=done++bh 32 S'/\τ=σ++ql (done.filter (jK all s)).length (done.map un).sum (done.filter λi=>!(orN L).testBit i).length (done.map (eo all)).sum (orN L) S' J)
  (λτ=>False) S (by simp only[go_sem,simprocAttr]) (by decide) hS32 (by simp only[go_sem,simprocAttr];exact hbx 0 0 0 0 _ S []) ⟨[],[],rfl,by simp only[go_sem,simprocAttr];rfl⟩
  (λS' k τ hS' ⟨done,J,hd1,hτ⟩ hb hk hkb hkl=>?_) (λτ ⟨done,J,hd1,hτ⟩=>?_) (λτ hf=>hf.elim)
 .subst hτ;have hlow:=oG (k:=32) hkb hkl hk;have hkS:k∈bh 32 S:=by simp_all
  have hkn:k<all.length:=by rw[gU hS (by omega)]at hkS;grind [de]
  obtain⟨p,hp⟩:=get_some hkn;have hpr:=hrc p (acI hp);have hat:=sX (s:=s) (l:=l) hp;have hlen:((List.range all.length).map λi=>iF all s l i ((all[i]?).getD xJ)).length=all.length:=by simp_all
  have hid3:=hid1;unfold c7 eR at hid3;unfold ql;have hdl:done.length+1<=32:=by
   grind [tP]
  have hch:Gz s p=jK all s k:=by grind [Gz,jK]
  have hnw:eo all k=bF all p:=by grind [eo]
  have hnl: ∀i,eo all i<=24:=λi=>by
   unfold eo;split
   .grind [bF]
   .omega
  have hns:=pc (l:=done) (f:=eo all) λa _=>hnl a
  have hcf:=acO (jK all s) done;have haf:=acO (λi=>!(orN L).testBit i) done;have hchs:((done++[k]).filter (jK all s)).length=(done.filter (jK all s)).length+if jK all s k=true then 1 else 0:=by
   grind
  have hads:((done++[k]).filter λi=>!(orN L).testBit i).length=(done.filter λi=>!(orN L).testBit i).length+if (!(orN L).testBit k)=true then 1 else 0:=by
   grind
  have hnws:((done++[k]).map (eo all)).sum=(done.map (eo all)).sum+bF all p:=by
   simp_all
  have hwn:IntKind.i64.wrap (((done.map (eo all)).sum:Int)+(bF all p:Int))=(((done++[k]).map (eo all)).sum:Nat):=by
   have:=hnl k;rw[hnw]at this;rw[hnws,aG (by omega)];omega
  simp only[go_sem,simprocAttr,an (hid3 _),hat,hlen,hwn];refine⟨hkn,cm.at [3,7,8,10,13,14] (by kernel_rfl) (λA=>∃ J',A.st=σ++ql ((done++[k]).filter (jK all s)).length (done.map un).sum (done.filter λi=>!(orN L).testBit i).length ((done++[k]).map (eo all)).sum (orN L) S' J') (λhc=>?_) (λhc=>?_) λB1 ⟨J1,hst1⟩=>?_⟩
  .rw[hch]at hc;rw[if_pos hc]at hchs;have hw:IntKind.i64.wrap (((done.filter (jK all s)).length:Int)+1)=(((done++[k]).filter (jK all s)).length:Nat):=by
    rw[hchs,aG (by omega)];omega
   simp only[go_sem,simprocAttr,hw];exact⟨_,rfl⟩
  .rw[hch]at hc;rw[if_neg (by simp_all)]at hchs;simp only[go_sem,simprocAttr];rw[hchs];exact⟨_,rfl⟩
  .unfold ql at hst1;have hok:orN L<4294967296:=SX hthere;have hand:=gX (orN L) (2^k) hok (oK hk);simp only[go_sem,simprocAttr,hst1];refine⟨.of (by kernel_rfl),aD.fn (tv k hk) ?_⟩;have hz:(((orN L &&& 2^k:Nat):Int)==0)= !(orN L).testBit k:=by
    rw[<-GI,Bool.eq_iff_iff];simp
   simp only[go_sem,simprocAttr,hand,hz];refine cm.at [3,7,14] (by kernel_rfl) (λA=>∃ J',A.st=σ++ql ((done++[k]).filter (jK all s)).length (done.map un).sum ((done++[k]).filter λi=>!(orN L).testBit i).length ((done++[k]).map (eo all)).sum (orN L) S' J') (λhc=>?_) (λhc=>?_) λB2 ⟨J2,hst2⟩=>?_
   .rw[if_pos hc]at hads;have hw:IntKind.i64.wrap (((done.filter λi=>!(orN L).testBit i).length:Int)+1)=(((done++[k]).filter λi=>!(orN L).testBit i).length:Nat):=by
     rw[hads,aG (by omega)];omega
    simp only[go_sem,simprocAttr,hst1,hw];exact⟨_,rfl⟩
   .rw[if_neg (by simp_all)]at hads;simp only[go_sem,simprocAttr,hst1];simp_all
   .have hst20:=hst2;unfold ql at hst2;obtain⟨ws,hws⟩: ∃ws,ws=p.rcm.map (gf all):=⟨_,rfl⟩;have hwl:ws.length<=1048576:=by simp_all
    have hwk:xE all k=ws:=by grind [xE]
    have hw32: ∀a∈ws,a<4294967296:=λa ha=>by
     rw[hws]at ha;obtain⟨c,_,rfl⟩:=ac0.1 ha;exact mS λz hz=>by grind
    have huk:un k=(ws.filter λw=>w &&& S==0).length:=by simp_all
    have hul: ∀i,un i<=1048576:=λi=>by
     rw[hun];refine ac1 (acO _ _) ?_;unfold xE;split
     .grind
     .simp
    have hus:=pc (l:=done) (f:=un) λa _=>hul a
    have hwsl:(ws.map cR).length=ws.length:=acK ..;simp only[go_sem,simprocAttr,hst2,fk,<-hws,hwsl];refine ae.ats [3,7,62,63] (λA=>A.st=σ++ql ((done++[k]).filter (jK all s)).length ((done++[k]).map un).sum ((done++[k]).filter λi=>!(orN L).testBit i).length ((done++[k]).map (eo all)).sum (orN L) S' J2) ?_ λB3 hst3=>?_
    .refine ae.upto [3,7,62,63] ws.length (λi A=>A.env 64= .int .i64 i/\A.st=σ++ql ((done++[k]).filter (jK all s)).length (((done.map un).sum+((ws.take i).filter λw=>w &&& S==0).length:Nat):Int) ((done++[k]).filter λi=>!(orN L).testBit i).length ((done++[k]).map (eo all)).sum (orN L) S' J2) 0 (acQ _) ?_ λi B3 hi ⟨h64,hst3⟩=>?_
     .simp only[go_sem,simprocAttr,hst2];rfl
     unfold ql at hst3;simp only[go_sem,simprocAttr,h64,hst3];refine⟨λhlt=>?_,λhge=>?_⟩
     .obtain⟨y,hy⟩:=get_some hlt;have hand2:=gX y S (hw32 y (acI hy)) hS32;have hatV:atV (ws.map cR) (i:Int)= .int .u32 y:=aw hy;have hc:=oH (λw=>w &&& S==0) hy;have hcl:=xu (λw=>w &&& S==0) ws i;have hw2:IntKind.i64.wrap ((((done.map un).sum+((ws.take i).filter λw=>w &&& S==0).length:Nat):Int)+1)=(((done.map un).sum+((ws.take i).filter λw=>w &&& S==0).length+1:Nat):Int):=by
       rw[aG (by omega)];omega
      simp only[go_sem,simprocAttr,hatV,hand2,hwsl,hw2];refine⟨hlt,λhz=>⟨hlt,ag hlt (by grind [aq]),?_⟩,λhz=>⟨hlt,ag hlt (by grind [aq]),?_⟩⟩
      .rw[hc,if_pos (by simp_all)];rfl
      simp_all
     .rw[List.take_of_length_le hge,<-huk,show(done.map un).sum+un k=((done++[k]).map un).sum by simp_all];rfl
    .simp only[go_sem,simprocAttr,hst3];exact⟨hbx _ _ _ _ _ _ _,done++[k],J2,by simp_all,rfl⟩
 .subst hτ;rw[nI,acW]at hd1;have hid3:=hid1;unfold c7 at hid3;unfold ql;have hcost:kB all s S up=zV up (L.filter λx=>x &&& S==0).length (done.filter (jK all s)).length (done.map un).sum (done.filter λi=>!(orN L).testBit i).length (done.map (eo all)).sum:=by
   unfold kB;rw[<-gU hS (show all.length<=32 by omega),hd1,hL,hun,List.filter_map,acK];rfl
  rw[hcost];simp only[go_sem,simprocAttr,an (hid3 _),h5];refine⟨λhup=>cX.ret ?_,λhup=>cX.ret ?_⟩
  .subst hup;simp only[go_sem,simprocAttr];exact⟨_,.refl _,by simp,.refl _,Ext.app (.refl _) _⟩
  .subst hup;simp only[go_sem,simprocAttr];exact⟨_,.refl _,by simp,.refl _,Ext.app (.refl _) _⟩
end Go.Proofs.Tryz
end
section
namespace Go.Av
open Go.Proofs.Tryz
theorem LX {α:Type}(l:List α):(List.range l.length).filterMap (l[·]?)=l:=by
 induction l with
 |nil=>rfl
 |cons a r ih=>
  rw[List.length_cons,List.range_succ_eq_map,List.filterMap_cons,List.getElem?_cons_zero,List.filterMap_map];exact congrArg (a:: ·) ih
theorem vR (all:List Pkg)(S:Nat):(atL all (bh all.length S)).Sublist all:=by
 grind [atL,bh,acM,LX]
theorem rN {l:List Pkg}(h:aY l=0):(dE l []).length<=10:=by
 grind [aY]
theorem qz {l m:List Pkg}(hs:l.Sublist m)(h:aY m=0):aY l=0:=by
 have h1:=rN h;refine pe (ac1 hs.length_le (dK h)) (λp hp=>dT h (hs.subset hp)) ((eX h).1.sublist hs) (ac1 (kj _ _ (iz l [] List.nodup_nil) λx hx=>?_) h1);grind [iV]
theorem Nh {l m:List Pkg}(hs:l.Sublist m)(h:aY m=0)(ho:m=cV m):cV l=l:=by
 have h1:kf m:=by rw[ho];exact kl (eX h).2
 exact vr (h1.sublist hs)
end Go.Av
end
section
namespace Go.Proofs.Tryz
open Go Go.Av
set_option maxRecDepth 10000
set_option maxHeartbeats 1000000
variable {W0 :World}
variable {a1 a2 a3 a4 a5 a6 a7 a8 a9 a10 a11 a12:AV}
def wD (v:AV):Option bJ:=some (.cells 23 [v])
theorem Ti (hW:qL W0)(σ:ab)(id:Nat)(all:List Pkg)(S:Nat)(h0:aY all=0)(ho:all=cV all)(hmn: ∀p∈all,iM p)(hS:S<2^all.length)
  (hid:σ[id]?=some (c7 (aI all) a1 a2 a3 a4 a5 a6 a7 a8 a9 a10 a11 a12)):
  aS prog W0 157 [.ptr 143 id 0 [],cR S] σ λr σ'=>r=aI (atL all (bh all.length S))/\σ'=σ:=by
 have hidl:=(acG.1 hid).1;have h24:=dK h0;have hS32:S<4294967296:=acJ hS (acH (n:=2) (by decide) (show all.length<=32 by omega));have hsub:=vR all S;have hmw:=qz hsub h0;have hsw:=Nh hsub h0 ho;have hmnw: ∀p∈atL all (bh all.length S),iM p:=λp hp=>hmn p (hsub.subset hp)
 have hpm: ∀p∈atL all (bh all.length S),aT p=0:=λp hp=>dT hmw hp
 have hwl:(atL all (bh all.length S)).length<=24:=dK hmw;refine aS.back (fo (acQ _) (kL _)) ?_;refine tg [.tmp 4] [2,11,2000025,4000004] func157 rfl rfl ntmps157 rfl rfl λhs=>?_
 simp only[go_sem,simprocAttr,cR];refine aj.goes (by simp only[go_sem,simprocAttr];rfl) (qb S (σ++[wD .ar])) λr σ1 ⟨hr,hσ1⟩=>?_
 subst hr hσ1;simp only[go_sem,simprocAttr];have hbn:(σ++[wD .ar]).length=σ.length+1:=by simp
 refine sM hW (σ.length+1) (λS' τ=>∃ done v,bh 32 S=done++bh 32 S'/\τ[σ.length]?=some (wD v)/\aM σ τ v 51 ((atL all done).map ax))
  (λτ=>False) S (by simp only[go_sem,simprocAttr]) (by decide) hS32 ?_ ?_
  (λS' k τ hS' ⟨done,v,hd1,hv,hb⟩ hbx hk hkb hkl=>?_) (λτ ⟨done,v,hd1,hv,hb⟩=>?_) (λτ hf=>hf.elim)
 .simp only[go_sem,simprocAttr];simp[jw]
 .simp only[go_sem,simprocAttr];exact⟨[],.ar,rfl,rfl,aM.nil (Ext.app (.refl _) _) _⟩
 .have hlow:=oG (k:=32) hkb hkl hk;have hkS:k∈bh 32 S:=by grind
  have hkn:k<all.length:=by grind [gU,de]
  obtain⟨p,hp⟩:=get_some hkn;have hidτ:τ[id]?=some (c7 (aI all) a1 a2 a3 a4 a5 a6 a7 a8 a9 a10 a11 a12):=by
   have e:=congrArg (·[id]?) hb.ext;grind
  have hv1:=hv;unfold c7 aI at hidτ;unfold wD at hv1;have hatV:atV (all.map ax) (k:Int)=ax p:=aw hp;have hdl:done.length+1<=32:=by
   grind [tP]
  have hal:((atL all done).map ax).length<=done.length:=by
   rw[acK];exact List.length_filterMap_le _ _
  simp only[go_sem,simprocAttr,an hidτ,an hv1,hb.bld.ok,hb.bld.un,hatV,acK];refine⟨.of (by kernel_rfl),hkn,bA.ng (σ:=τ) (by simp only[go_sem,simprocAttr]) 1048576 (by kernel_rfl) hb.bld (.lit _ _ _) (by grind) λv' σ' ha=>?_⟩;have hb':=hb.app ha;have hkeep: ∀(j:Nat) (o:bJ),τ[j]?=some (some o)->o≠ .tok->σ'[j]?=some (some o):=λj o hj ho=>by
   rw[ha.old j (acG.1 hj).1 (λe=>by have:=hb.bld.iY e;grind),hj]
  have hv2:=hkeep _ _ hv1 (λh=>by cases h);have hbx2:=hkeep _ _ hbx (λh=>by cases h);have hl2:=(acG.1 hv2).1;have hl3:=(acG.1 hbx2).1;simp only[go_sem,simprocAttr,an hv2,aC hv2,hb'.bld.ok,hb'.bld.un,hb'.bld.fits];refine⟨?_,done++[k],v',by grind,?_,?_⟩
  .rw[acL (by omega)];exact hbx2
  .rw[acL (by omega),acU hl2];rfl
  .have e:(atL all (done++[k])).map ax=(atL all done).map ax++[ax p]:=by
    unfold atL;rw[List.filterMap_append,ac2];simp[hp]
   rw[e];refine⟨hb'.bld.keep λj hj=>?_,(hb'.ext.set (Nat.le_refl _) _).set (Nat.le_succ _) _,hb'.tok⟩;have n1:=hb'.bld.ne hv2 (λh=>by cases h);have n2:=hb'.bld.ne hbx2 (λh=>by cases h);rw[acL (λe=>n2 (by grind)),acL (λe=>n1 (by grind))]
 .rw[nI,acW]at hd1;have hwn:atL all done=atL all (bh all.length S):=by grind [gU]
  rw[hwn]at hb;have hv1:=hv;unfold wD at hv1;simp only[go_sem,simprocAttr,an hv1,hb.bld.ok,hb.bld.un];have hix:=tG (W0:=W0) (atL all (bh all.length S)) hmnw;rw[if_pos hmw,hsw]at hix;refine aj.fn (hix.cb (.cons hb.cb .nil)) ?_;simp only[go_sem,simprocAttr];refine aj.fn (tD _) ?_;simp only[go_sem,simprocAttr];obtain⟨T,hT⟩: ∃T,T=atL all (bh all.length S):=⟨_,rfl⟩;rw[<-hT]at hwl hpm ⊢;refine ae.at [] (λA=>∃ u,A.env 9=u/\aM σ A.st u 51 (T.map ax)) ?_ λB ⟨u,h9,hb2⟩=>?_
  .refine ae.upto [7,32] T.length (λi A=>A.env 33= .int .i64 i/\ ∃u,A.env 9=u/\aM σ A.st u 51 ((T.take i).map ax)) 0 (acQ _) ?_ λi B hi ⟨h33,u,h9,hb2⟩=>?_
   .simp only[go_sem,simprocAttr];grind [aM.nil,aM.ext]
   simp only[go_sem,simprocAttr,h33,h9];refine⟨λhlt=>?_,λhge=>?_⟩
   .obtain⟨p,hp⟩:=get_some hlt;refine aj.fn (SH T i hp (hpm p (acI hp))) ?_;have hb3:aM σ (B.st++[none]) u 51 ((T.take i).map ax):=⟨hb2.bld.keep λj hj=>by rw[List.getElem?_append_left (hb2.bld.lt j hj)],hb2.ext.app _,hb2.tok⟩;simp only[go_sem,simprocAttr,h9,hb2.bld.ok,hb2.bld.un];refine bA.ng (σ:=B.st++[none]) (by simp only[go_sem,simprocAttr]) 1048576 (by kernel_rfl) hb3.bld (.lit _ _ _) (by grind) λv' σ' ha=>?_
    have hb4:=hb3.app ha;simp only[go_sem,simprocAttr,h33];refine⟨hlt,ag hlt (by grind [aq]),_,rfl,?_⟩;rw[ah hp,ac2];exact hb4
   grind
  .simp only[go_sem,simprocAttr,h9];refine cX.ret ?_;simp only[go_sem,simprocAttr];exact⟨_,hb2.cb,hb2.ext.le,.refl _,hb2.ext⟩
end Go.Proofs.Tryz
end
section
namespace Go.Av
open Go Go.Sort Go.Proofs
abbrev FB:=List Nat×Nat
def cN (x:FB)(j:Nat):Int:=((x.1[j]?).getD 0:Nat)
def c5 (x:FB):List Int:=[cN x 0,cN x 1,cN x 2,cN x 3,cN x 4]
def sF (x:FB):Nat:=x.2 % 4294967296
def cfF (x y:FB):Int:=orL [orL (List.zipWith sgn (c5 x) (c5 y)),sgn (jP (sF y):Nat) (jP (sF x):Nat)]
theorem abj (a b c d e:Int):orL [a,b,c,d,e]=if a≠0 then a else if b≠0 then b else if c≠0 then c else if d≠0 then d else if e≠0 then e else 0:=rfl
theorem PF (x y z:FB):TT (cfF x y) (cfF y z) (cfF x z):=by
 have h: ∀x y,cfF x y=if orL (List.zipWith sgn (c5 x) (c5 y))≠0 then orL (List.zipWith sgn (c5 x) (c5 y))else if sgn (jP (sF y):Nat) (jP (sF x):Nat)≠0 then sgn (jP (sF y):Nat) (jP (sF x):Nat)else 0:=λx y=>rfl
 have h5:TT (orL (List.zipWith sgn (c5 x) (c5 y))) (orL (List.zipWith sgn (c5 y) (c5 z))) (orL (List.zipWith sgn (c5 x) (c5 z))):=by
  unfold c5;simp only[acN,acY,abj];exact TT.lex (TT.sgn _ _ _) λ_ _ _=>TT.lex (TT.sgn _ _ _) λ_ _ _=>TT.lex (TT.sgn _ _ _) λ_ _ _=>TT.lex (TT.sgn _ _ _) λ_ _ _=>TT.lex (TT.sgn _ _ _) λ_ _ _=>TT.zero
 rw[h x y,h y z,h x z];refine TT.lex h5 λ_ _ _=>TT.lex ?_ λ_ _ _=>TT.zero
 intro h1 h2;have:=TT.sgn (jP (sF z):Nat) (jP (sF y):Nat) (jP (sF x):Nat) h2 h1;omega
theorem rQ (x y:FB):cfF y x= -cfF x y:=by
 have h: ∀x y,cfF x y=if orL (List.zipWith sgn (c5 x) (c5 y))≠0 then orL (List.zipWith sgn (c5 x) (c5 y))else if sgn (jP (sF y):Nat) (jP (sF x):Nat)≠0 then sgn (jP (sF y):Nat) (jP (sF x):Nat)else 0:=λx y=>rfl
 have h5:orL (List.zipWith sgn (c5 y) (c5 x))= -orL (List.zipWith sgn (c5 x) (c5 y)):=by
  unfold c5;simp only[acN,acY,abj];grind [oa]
 grind [sgn]
theorem Vg :SWO (ltOf cfF):=by
 refine⟨λx=>?_,λx y z h1 h2=>?_,λx y z h1 h2=>?_⟩
 .have:=rQ x x;exact decide_eq_false (by omega)
 .have a1:=of_decide_eq_true h1;have a2:=of_decide_eq_true h2;obtain⟨g1,g2⟩:=PF x y z (by omega) (by omega);refine decide_eq_true ?_;omega
 .have a1:=of_decide_eq_false h1;have a2:=of_decide_eq_false h2;obtain⟨g1,g2⟩:=PF z y x (by grind [rQ]) (by grind [rQ]);refine decide_eq_false ?_;grind [rQ]
theorem GH : ∀{c d:List Nat},c.length=d.length->(lexB c d=true↔orL (List.zipWith sgn (c.map λ(x:Nat)=>(x:Int)) (d.map λ(x:Nat)=>(x:Int)))<0)/\(c=d↔orL (List.zipWith sgn (c.map λ(x:Nat)=>(x:Int)) (d.map λ(x:Nat)=>(x:Int)))=0)
 |[],[],_=>by simp[lexB,orL]
 |a::x,b::y,h=>by
  obtain⟨i1,i2⟩:=GH (c:=x) (d:=y) (by simp_all);simp only[List.map_cons,acN,orL,lexB];grind [sgn]
theorem Yr {x:FB}(h:x.1.length=5):c5 x=x.1.map λ(x:Nat)=>(x:Int):=by
 obtain⟨c,S⟩:=x
 match c,h with
 |[a,b,c,d,e],_=>rfl
theorem U7 {x y:FB}(hx:x.1.length=5/\x.2<4294967296)(hy:y.1.length=5/\y.2<4294967296):ltOf cfF x y=ltB x y:=by
 have hsx:sF x=x.2:=acP hx.2;have hsy:sF y=y.2:=acP hy.2;obtain⟨i1,i2⟩:=GH (hx.1.trans hy.1.symm);unfold ltOf ltB cfF;grind [Yr,NR,orL,sgn]
end Go.Av
end
section
namespace Go.Proofs.Tryz
open Go Go.Av Go.Sort
set_option maxRecDepth 100000
set_option maxHeartbeats 1000000
variable {W0 :World}
def fS (x:FB):AV:=.agg 218 [cR x.2,bH x.1]
def qq (x:FB):List Value:=[.int .u32 (sF x:Nat),.int .i64 (cN x 0),.int .i64 (cN x 1),.int .i64 (cN x 2),.int .i64 (cN x 3),.int .i64 (cN x 4)]
def Rw (x:FB):Prop:=x.1.length=5/\x.2<4294967296
theorem Re {w:World}{C:Ctx}{c:List Nat}{cs:List Value}(h5:c.length=5)(h:Rel prog w C (bH c) cs):cs=c.map λ(x:Nat)=>Value.int .i64 (x:Int):=by
 cases h with
 |agg cf h1 h2 h3 h4 h6 h7=>
 rename_i ts;have hf:bt prog 29=some [3,3,3,3,3]:=by kernel_rfl
 rw[hf]at h1;cases h1;have hsz:af prog 29=5:=by kernel_rfl
 rw[hsz]at h3;refine List.ext_getElem? λi=>?_
 by_cases hi:i<5
 .have hx:(c.map λ(x:Nat)=>AV.int .i64 (x:Int))[i]?=some (.int .i64 (c[i]'(by omega):Nat)):=by simp_all
  have hr:=h6 i _ hx;have hty:([3,3,3,3,3]:List TypeId)[i]?=some 3:=by
   grind
  obtain⟨_,_,g3⟩:=h7 i _ _ hx hty;generalize cf i=ci at hr g3;cases hr;have o0:bp prog [3,3,3,3,3] 0=0:=by kernel_rfl
  have o1:bp prog [3,3,3,3,3] 1=1:=by kernel_rfl
  have o2:bp prog [3,3,3,3,3] 2=2:=by kernel_rfl
  have o3:bp prog [3,3,3,3,3] 3=3:=by kernel_rfl
  have o4:bp prog [3,3,3,3,3] 4=4:=by kernel_rfl
  have hoff:bp prog [3,3,3,3,3] i=i:=by
   grind
  have:=g3 0 _ rfl;simp_all
 simp_all
theorem Wo {w:World}{C:Ctx}{x:FB}{cs:List Value}(hx:Rw x)(h:Rel prog w C (fS x) cs):cs=qq x:=by
 cases h with
 |agg cf h1 h2 h3 h4 h6 h7=>
 have hf:bt prog 218=some [148,29]:=by kernel_rfl
 rw[hf]at h1;cases h1;have hsz:af prog 218=6:=by kernel_rfl
 rw[hsz]at h3;have ho0:bp prog [148,29] 0=0:=by kernel_rfl
 have ho1:bp prog [148,29] 1=1:=by kernel_rfl
 have r0:=h6 0 _ rfl;obtain⟨_,_,g0⟩:=h7 0 _ _ rfl rfl;have r1:=h6 1 _ rfl;obtain⟨_,_,g1⟩:=h7 1 _ _ rfl rfl;have e1:=Re hx.1 r1;rw[e1]at g1;generalize cf 0=c0 at r0 g0;cases r0;have q0:=g0 0 _ rfl;rw[ho0]at q0;rw[ho1]at g1;obtain⟨c,S⟩:=x;obtain⟨hc,hS⟩:=hx
 match c,hc with
 |[a,b,c,d,e],_=>
  have q1:=g1 0 _ rfl;have q2:=g1 1 _ rfl;have q3:=g1 2 _ rfl;have q4:=g1 3 _ rfl;have q5:=g1 4 _ rfl;have hm:S % 4294967296=S:=acP hS
  match cs,h3 with
  |[v0,v1,v2,v3,v4,v5],_=>
   simp at q0 q1 q2 q3 q4 q5;subst q0 q1 q2 q3 q4 q5;show _=[Value.int .u32 ((S % 4294967296:Nat):Int),_,_,_,_,_];rw[hm];rfl
theorem Uk {w:World}{C:Ctx}{x:FB}(hx:Rw x):Rel prog w C (fS x) (qq x):=by
 obtain⟨c,S⟩:=x;obtain⟨hc,hS⟩:=hx
 match c,hc with
 |[a,b,c,d,e],_=>
  have hm:S % 4294967296=S:=acP hS;have hcost:Rel prog w C (bH [a,b,c,d,e]) [.int .i64 (a:Nat),.int .i64 (b:Nat),.int .i64 (c:Nat),.int .i64 (d:Nat),.int .i64 (e:Nat)]:=by
   refine .agg (ts:=[3,3,3,3,3]) (λi=>[.int .i64 (([a,b,c,d,e][i]?.getD 0:Nat):Int)]) (by kernel_rfl) rfl (by kernel_rfl) (λc hc=>?_) (λi x hx=>?_) (λi x ty hx hty=>?_)
   .simp at hc;rcases hc with rfl|rfl|rfl|rfl|rfl<;>rfl
   .match i,hx with
    |0,hx=>cases hx;exact .int _ _
    |1,hx=>cases hx;exact .int _ _
    |2,hx=>cases hx;exact .int _ _
    |3,hx=>cases hx;exact .int _ _
    |4,hx=>cases hx;exact .int _ _
   .match i,hx,hty with
    |0,hx,hty=>cases hx;cases hty;exact⟨by kernel_rfl,⟨rfl,by kernel_rfl⟩,λj u hj=>by match j,hj with|0,hj=>cases hj;rfl⟩
    |1,hx,hty=>cases hx;cases hty;exact⟨by kernel_rfl,⟨rfl,by kernel_rfl⟩,λj u hj=>by match j,hj with|0,hj=>cases hj;rfl⟩
    |2,hx,hty=>cases hx;cases hty;exact⟨by kernel_rfl,⟨rfl,by kernel_rfl⟩,λj u hj=>by match j,hj with|0,hj=>cases hj;rfl⟩
    |3,hx,hty=>cases hx;cases hty;exact⟨by kernel_rfl,⟨rfl,by kernel_rfl⟩,λj u hj=>by match j,hj with|0,hj=>cases hj;rfl⟩
    |4,hx,hty=>cases hx;cases hty;exact⟨by kernel_rfl,⟨rfl,by kernel_rfl⟩,λj u hj=>by match j,hj with|0,hj=>cases hj;rfl⟩
  refine .agg (ts:=[148,29]) (λi=>if i=0 then [.int .u32 (S:Nat)]else [.int .i64 (a:Nat),.int .i64 (b:Nat),.int .i64 (c:Nat),.int .i64 (d:Nat),.int .i64 (e:Nat)]) (by kernel_rfl) rfl (by kernel_rfl) (λv hv=>?_) (λi x hx=>?_) (λi x ty hx hty=>?_)
  .simp[qq]at hv;rcases hv with rfl|rfl|rfl|rfl|rfl|rfl<;>rfl
  .match i,hx with
   |0,hx=>cases hx;exact .int _ _
   |1,hx=>simp_all
  .match i,hx,hty with
   |0,hx,hty=>
    cases hx;cases hty;refine⟨by kernel_rfl,⟨rfl,by kernel_rfl⟩,λj u hj=>?_⟩
    match j,hj with
    |0,hj=>
     cases hj;show some (Value.int .u32 ((S % 4294967296:Nat):Int))=_;rw[hm]
   |1,hx,hty=>
    cases hx;cases hty;refine⟨by kernel_rfl,⟨rfl,by kernel_rfl⟩,λj u hj=>?_⟩
    match j,hj with
    |0,hj=>cases hj;rfl
    |1,hj=>cases hj;rfl
    |2,hj=>cases hj;rfl
    |3,hj=>cases hj;rfl
    |4,hj=>cases hj;rfl
theorem vq (x:FB):(qq x).length=6:=rfl
theorem Rt (x:FB): ∀v∈qq x,v.oneCell'=true:=λv hv=>by
 simp[qq]at hv;rcases hv with rfl|rfl|rfl|rfl|rfl|rfl<;>rfl
theorem JJ (σ:ab)(id:Nat)(xs:List FB)(hid:σ[id]?=some (some (.cells 218 (xs.map fS))))(h0:xs≠[])(hx:xs.length<=1000000000)(hm: ∀x∈xs,Rw x):
  aS prog W0 212 [.row 218 id 0 xs.length,.fn 213 []] σ λr σ'=>∃ ys:List FB,ys.Perm xs/\(ys.Pairwise λx y=>ltB y x=false)/\σ'=σ.set id (some (.cells 218 (ys.map fS))):=λw C vs hst hl hv=>by
 obtain _|⟨v1,_|⟨v2,_|⟨_,_⟩⟩⟩:=vs<;>simp at hl
 have h1:=(hv 0 _ _ rfl rfl).aH rfl;have h2:=(hv 1 _ _ rfl rfl).aH rfl;obtain⟨b,base,room,arr,t',fr,m1,m2,mf,m3,m4,cf,m5⟩:=hst.cells hid;have hpos:0<xs.length:=List.length_pos_iff.2 h0;have hsz:af prog 218=6:=by kernel_rfl
 rw[hsz,acK]at m4;cases h1 with
 |row hn hc hi ho=>
 rename_i a cap;obtain⟨b',base',room',e1,e2,e3⟩:=ho _ m1;cases e1;have e4:=e2 (by omega);subst e4;cases h2 with
 |fn f1 f2 f3=>
 rename_i vs
 have:vs=[]:=List.length_eq_zero_iff.1 f1.symm;subst this;rw[Nat.zero_mul,Nat.add_zero];have hcell: ∀j (h:j<xs.length) (q:Nat) (c:Value),(qq xs[j])[q]?=some c->arr[base+j*6+q]?=some c:=λj h q c hq=>by
  have hj:(xs.map fS)[j]?=some (fS xs[j]):=by simp_all
  grind [Wo]
 have hH:HoldsK qq 6 w b base xs.toArray:=λt ht=>by
  have ht':t<xs.length*6:=by simp_all
  have hj:t / 6<xs.length:=by omega
  refine⟨?_,qT (n:=0) m2 mf (by omega)⟩;rw[get_flatK _ _ _ _ (by omega),getElem!_pos xs.toArray (t / 6) (by omega),List.getElem_toArray];have hq:t % 6<(qq xs[t / 6]).length:=by grind [vq]
  have:=hcell (t / 6) hj (t % 6) _ (List.getElem?_eq_getElem hq);rw[getElem!_pos (qq xs[t / 6]) (t % 6) hq];grind [World.cell?]
 refine .inl ⟨⟨_,func212,by kernel_rfl,by kernel_rfl⟩,?_⟩;have hq:=AnyQ.slices_SortFunc Tryz.KG 6 Tryz.isAgg218 Tryz.sizeOf218 qq vq Rt cfF Vg 213 #[] b base cap xs.toArray w (enters_of func213 (by kernel_rfl) rfl)
  (λm os dk hs x y=>RW (sF x) (sF y) (ac6 _ (by decide)) (ac6 _ (by decide)) _ _ _ _ _ _ _ _ _ _ _) hH (Array.getElem?_eq_some_iff.1 m2).1 (by grind)
 refine hq.mono λe w' ⟨he,d',n,os,⟨p1,p2,p3⟩,p4,hw⟩=>?_
 have hp:d'.toList.Perm xs:=by
  grind [Array.extract_size]
 have hll:=hp.length_eq;have hok: ∀x∈d'.toList,Rw x:=λx hx=>hm x (hp.subset hx)
 unfold sortWorldK putRowK at hw;obtain⟨s1,s2⟩:=hst.BH (fl:=flatK qq 6 d') (n:=n) (os:=os) (ys:=d'.toList.map fS) (k:=6) hid m1 hsz (by simp_all) (by simp_all) λi y hy=>by
  rw[List.getElem?_map]at hy;obtain⟨x,hx,rfl⟩:=Option.map_eq_some_iff.1 hy;have hil:=(acG.1 hx).1;refine⟨qq x,Uk (hok x (acI hx)),rfl,⟨rfl,by kernel_rfl⟩,λj c hc=>?_⟩;have hj:=(acG.1 hc).1;rw[vq]at hj;have hdl:i<d'.size:=by omega
  have hlt:i*6+j<(flatK qq 6 d').size:=by rw[size_flatK];omega
  rw[Array.getElem?_eq_getElem hlt,<-getElem!_pos (flatK qq 6 d') (i*6+j) hlt,get_flatK _ _ _ _ (by omega),show(i*6+j) / 6=i by omega,show(i*6+j) % 6=j by omega,getElem!_pos d' i hdl];simp_all
 subst hw;refine⟨_,.tup [],_,C,he,⟨d'.toList,hp,?_,rfl⟩,s2,.tup rfl (λi a v h=>by simp at h),s1⟩;rw[List.pairwise_iff_getElem];intro i j hi hj hij;have hi':i<d'.size:=by omega
 have hj':j<d'.size:=by omega
 have h4:=p4 i j (acQ _) hij (by omega);rw[getElem!_pos d' i hi',getElem!_pos d' j hj',U7 (hok _ (acS hj')) (hok _ (acS hi'))]at h4;simp_all
theorem FD :ai prog W0 212 [.ar,.fn 213 []] (.tup []):=by
 refine jc func212 (by kernel_rfl) (by kernel_rfl) λw C vs hb hlow hvl hv=>?_
 obtain _|⟨v1,_|⟨v2,_|⟨_,_⟩⟩⟩:=vs<;>simp at hvl
 have h1:=(hv 0 _ _ rfl rfl).aH rfl;cases h1;refine(AnyF.slices_SortFunc_none Tryz.KG none 0 v2 w).mono λe w' ⟨he,hw⟩=>?_
 subst hw;exact⟨_,he,.tup rfl (λi a v h=>by simp at h),RowKit.Below.refl _ _⟩
end Go.Proofs.Tryz
end
