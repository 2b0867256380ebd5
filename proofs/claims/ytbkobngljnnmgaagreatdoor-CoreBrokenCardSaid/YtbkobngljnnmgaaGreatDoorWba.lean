/- What the last text of this claim rests on. No conditions. -/
import Derived.Shelf.SlSortCmp.NoneTotal
import Derived.Test.YtbkobngljnnmgaaGreatDoorWad
import Derived.Test.YtbkobngljnnmgaaGreatDoorWan
import Derived.Test.YtbkobngljnnmgaaGreatDoorWap
import Derived.Test.YtbkobngljnnmgaaGreatDoorWas
import Derived.Test.YtbkobngljnnmgaaGreatDoorWaw
import Derived.Test.YtbkobngljnnmgaaGreatDoorWay
import Derived.Test.YtbkobngljnnmgaaGreatDoorWaz
set_option linter.unusedSimpArgs false
set_option linter.unusedVariables false
open List renaming getElem?_eq_some_iff->acf,mem_of_getElem?->ach,length_map->acj,getElem?_set_ne->ack,filter_sublist->acm,zipWith_cons_cons->acn,length_filter_le->aco,getElem?_set_self->acv,pairwise_lt_range->acw,append_nil->acx,zipWith_nil_left->acz,drop_succ_cons->acA,mem_map->acB,map_append->acD,drop_zero->acE
open Nat renaming pow_le_pow_right->acg,lt_of_lt_of_le->aci,mod_eq_of_lt->acp,zero_le->acq,testBit_lt_two_pow->acu,le_trans->acC,mod_lt->acH
open Classical renaming byContradiction->acr,choose_spec->acG
open Array renaming getElem_mem_toList->acs
open List.Pairwise renaming sublist->acy
open List.Perm renaming eq_of_pairwise->acF
section
namespace Go.Proofs.Tryz
open Go Go.Av
set_option maxRecDepth 10000
variable {W0 :World}
def jF (S:Nat):Option bH:=some (.cells 148 [cL S])
def ycM (bx:Nat)(I:Nat->ab->Prop):Int->ab->(ab->Prop)->Prop:=λi σ Qn=>∃ S k,i=((k:Nat):Int)/\S<4294967296/\I S σ/\σ[bx]?=some (jF S)/\k<32/\S.testBit k=true/\(∀j,j<k->S.testBit j=false)/\Qn=λσ'=>σ'[bx]?=some (jF S)/\I (S &&& (S-1)) (σ'.set bx (jF (S &&& (S-1))))
theorem Mr {S:Nat}(h0:S≠0)(hS:S<4294967296): ∃k,k<32/\S.testBit k=true/\ ∀j,j<k->S.testBit j=false:=by
 have hex: ∃k,S.testBit k=true:=by
  refine acr λhn=>h0 (Nat.eq_of_testBit_eq λi=>?_)
  simp_all
 obtain⟨k,hk,hm⟩:=fu hex;refine⟨k,?_,hk,λj hj=>?_⟩
 .refine acr λhn=>?_
  have:S<2^k:=aci hS (acg (n:=2) (by decide) (show 32<=k by omega));grind [acu]
 grind
theorem Vx (hW:qM W0)(bx:Nat)(I:Nat->ab->Prop)(Qx:ab->Prop):SB prog W0 259 [.ptr 148 bx 0 []] (ycM bx I) Qx (λσ=>∃ S,S<4294967296/\I S σ/\σ[bx]?=some (jF S)) (λσ=>I 0 σ):=by
 intro B L U w C σ vs m hU hY u0 hst hl hv hpre;refine(callsIn_of_wp (F:=.wide) func259 rfl trivial (wpIn_mono (?_:Code.wpIn .wide m prog _ (λe a' w'=>∃ A' C' md',U md' w' C'/\bF prog W0 14 w' C' A' a'/\ei prog W0 B w C w' C' A'.st/\(((e= .normal\/e= .ret)/\md'=true/\I 0 A'.st)\/((e= .normal\/e= .ret)/\md'=false/\Qx A'.st))) _ _) λe a' w' ⟨A',C',md',u',r',l',q⟩=>?_))
 .obtain _|⟨v1,_|⟨_,_⟩⟩:=vs<;>simp at hl
  have hr0:=lX (P:=prog) (W0:=W0) (m:=14) (args:=[.yl L,.ptr 148 bx 0 []]) (vs:=[.func (.yield L) #[] #[],v1]) hst rfl (λi a v ha hv'=>by
   obtain _|_|i:=i
   .simp at ha hv';subst ha hv';exact .one rfl (.yl L)
   .grind
   simp_all) (by simp)
  refine(?_:VCY prog W0 B U 14 _ (λe A' md'=>((e= .normal\/e= .ret)/\md'=true/\I 0 A'.st)\/((e= .normal\/e= .ret)/\md'=false/\Qx A'.st)) ⟨iU [.yl L,.ptr 148 bx 0 []],σ⟩ true) w C _ m u0 hr0;refine VCY.block (VCY.loop (λk A b=>b=true/\A.env 0= .yl L/\A.env 1= .ptr 148 bx 0 []/\ ∃S,k=S/\S<4294967296/\I S A.st/\A.st[bx]?=some (jF S)) (Classical.choose hpre) ⟨rfl,rfl,rfl,_,rfl,acG hpre⟩ λk A b ⟨hb,hA0,hA1,S,hk,hS,hI,hbx⟩=>?_);subst hb hk;have hbx':=hbx;unfold jF cL at hbx';refine VCY.seq (VCY.of hU (bA (fz:=[]) _ _ _ ?_));simp only[go_sem,simprocAttr,hA1,ak hbx'];refine⟨λh0=>?_,λh0=>?_⟩
  .have hS0:k≠0:=by omega
   obtain⟨j,hj,hjb,hjl⟩:=Mr hS0 hS;refine VCY.seq (VCY.block (VCY.seq (VCY.VY (fz:=[]) (L:=L) (Qn:=λσ'=>σ'[bx]?=some (jF k)/\I (k &&& (k-1)) (σ'.set bx (jF (k &&& (k-1))))) (Qx:=Qx) (i:=(j:Int)) (K:=λA1=>A1.env 9= .yl L/\A1.env 11= .int .i64 j/\A1.env 1= .ptr 148 bx 0 []/\A1.env 0= .yl L/\A1.st=A.st) 3 hU rfl (by decide) ?_ λA1 ⟨e9,e11,e1,e0,est⟩=>⟨e9,e11,λw2 C2 u2 hst2=>?_,λσ' hq=>?_,λσ' hq=>?_⟩)))
   .simp only[List.take_succ_cons,List.take_zero];simp only[go_sem,simprocAttr,hA0,hA1,ak hbx'];refine aj.fn (ZF hW hS hj hjb hjl) ?_;simp only[go_sem,simprocAttr];simp_all
   .rw[est]at hst2;exact hY _ w2 C2 A.st _ u2 hst2 ⟨k,j,rfl,hS,hI,hbx,hj,hjb,hjl,rfl⟩
   .obtain⟨hq1,hq2⟩:=hq;have hq1':=hq1;unfold jF cL at hq1';simp only[acA,acE];simp only[go_sem,simprocAttr];refine VCY.of hU (bA (fz:=[]) _ _ _ ?_);simp only[go_sem,simprocAttr];refine VCY.of hU (bA (fz:=[]) _ _ _ ?_);have hand:bits .and .u32 (k:Int) (IntKind.u32.wrap ((k:Int)-1))=((k &&& (k-1):Nat):Int):=by
     rw[show IntKind.u32.wrap ((k:Int)-1)=((k-1:Nat):Int) by grind [IntKind.wrap_u32]];grind [ia]
    simp only[go_sem,simprocAttr,e1,e0,ak hq1',hand,aC hq1'];have hle:k &&& (k-1)<=k-1:=Nat.and_le_right;exact⟨k &&& (k-1),by omega,_,rfl,by omega,hq2,acv (acf.1 hq1).1⟩
   .simp only[acA,acE];simp only[go_sem,simprocAttr];refine VCY.of hU (bA (fz:=[]) _ _ _ ?_);simp only[go_sem,simprocAttr];simp_all
  simp_all
 .obtain⟨fin,hmd⟩:(e= .normal\/e= .ret)/\((md'=true/\I 0 A'.st)\/(md'=false/\Qx A'.st)):=by
   grind
  have key: ∀fn:Func,fn.results= #[]->a'.defers=[]/\ ∃v,(results fn a'.tmps).run prog w'= .ok v w'/\ ∃v' C' σ',Ending.returned v= .returned v'/\ei prog W0 B w C w' C' σ'/\((U true w' C'/\I 0 σ')\/(U false w' C'/\Qx σ')):=λfn hfn=>by
   obtain⟨v,g1,g2⟩:=oG (fn:=fn) (ts:=[]) r' hfn;grind [bF.defers]
  rcases fin with rfl|rfl
  .exact key _ rfl
  .exact key _ rfl
theorem td {n p:Nat}{fz:List Nat}{g:Operand}{asg body:Code}{Q:Exit->aa->Prop}{A:aa}(hW:qM W0)(bx:Nat)(I:Nat->ab->Prop)(X:ab->Prop)(S0:Nat)(hg:A.val g= .fn 259 [.ptr 148 bx 0 []])(hp:p<n)(hS0:S0<4294967296)(hbx:A.st[bx]?=some (jF S0))(h0:I S0 A.st)
  (round: ∀(S k:Nat) (σ:ab),S<4294967296->I S σ->σ[bx]?=some (jF S)->k<32->S.testBit k=true->(∀j,j<k->S.testBit j=false)->
   cVC prog W0 n fz asg (cq (cVC prog W0 n fz body (wM (λσ'=>σ'[bx]?=some (jF S)/\I (S &&& (S-1)) (σ'.set bx (jF (S &&& (S-1))))) X)) λ_ _=>False) ((A.ax σ).upd p (.int .i64 (k:Int))))
  (he: ∀σ,I 0 σ->Q .normal (A.ax σ)) (hx: ∀σ,X σ->Q .ret (A.ax σ)):CW prog W0 n fz g #[p] asg .mk body .mk Q .mk A:=
 VCM.range hg hp (enters_of func259 (by kernel_rfl) rfl) (Vx hW bx I X) ⟨S0,hS0,h0,hbx⟩ (λi σ Qn hy=>by
  obtain⟨S,k,rfl,hS,hI,hb,hk,h1,h2,rfl⟩:=hy;refine(bA asg _ _ (round S k σ hS hI hb hk h1 h2)).mono λe A' q=>?_
  cases e with
  |normal=>exact bA body _ _ q
  |_=>exact q) he hx
theorem zt {Qn Qr:ab->Prop}{A:aa}:wM Qn Qr .normal A=Qn A.st:=rfl
theorem Jt {Qn Qr:ab->Prop}{A:aa}:wM Qn Qr .ret A=Qr A.st:=rfl
attribute [go_sem ↓] zt Jt
end Go.Proofs.Tryz
end
section
namespace Go.Av
open Go
theorem aP.back {P:Program}{W0:World}{f:FuncId}{args:List AV}{r:AV}{σ:ab}(hr:aW σ.length r)(h:aP P W0 f args σ λr' σ'=>dj r' r/\Ext σ σ'):aP P W0 f args σ λr' σ'=>r'=r/\σ'=σ:=λw C vs hst hl hv=>
 (h w C vs hst hl hv).mono λe w' ⟨v,r',σ',C',he,⟨hw,hx⟩,hs,hrv,hstep⟩=>by
  have hs2:aE P W0 w' (C'.eQ σ.length) σ:=by
   have:=hs.eQ (n:=σ.length) hx.le λid te xs hid hss=>hst.ids (show σ[id]?=some (some (.cells te xs)) by
    have e:=congrArg (·[id]?) hx;simp_all)
   rwa [hx]at this
  grind [aI.eQ,aI.bS,Step.eQ,aE.nx]
theorem gW {n k S:Nat}(hS:S<2^n)(hk:n<=k):bg k S=bg n S:=by
 refine acF (le:=(· < ·)) (λa b _ _ h1 h2=>by omega) (acy acm acw) (acy acm acw) ?_;grind [bg,acm,List.perm_ext_iff_of_nodup,acu,aci,acg]
theorem nf (k:Nat):bg k 0=[]:=by
 simp[bg]
end Go.Av
end
section
namespace Go.Proofs.Tryz
open Go Go.Av
set_option maxRecDepth 10000
set_option maxHeartbeats 1000000
variable {W0 :World}
variable {a0 a1 a2 a3 a4 a6 a7 a8 a9 a10 a11 a12:AV}
def eJ (all:List Pkg)(s:List aA)(l:List aM):AV:=.sl 150 ((List.range all.length).map λi=>iC all s l i ((all[i]?).getD xl))
theorem Fe {all:List Pkg}{s:List aA}{l:List aM}{i:Nat}{p:Pkg}(h:all[i]?=some p):((List.range all.length).map λi=>iC all s l i ((all[i]?).getD xl))[i]?=some (iC all s l i p):=by
 grind
theorem tj {all:List Pkg}{s:List aA}{l:List aM}{i:Nat}{p:Pkg}(h:all[i]?=some p):atV ((List.range all.length).map λi=>iC all s l i ((all[i]?).getD xl)) (i:Int)= .agg 150 [.bool (oe l s p),cL (iD all i),fo ((p.pre++p.dep).map (gl all)),fo (p.rcm.map (gl all)),.int .i64 (dG all p),.bool (E0 s p)]:=by
 unfold atV;rw[Int.toNat_natCast,Fe h];rfl
theorem DO (n S:Nat)(hn:n<4294967296)(hS:S<4294967296):ai prog W0 253 [cL n,.loc 148 (cL S)] (.bool (n &&& S==0)):=by
 refine an [3] [] func253 rfl rfl ntmps253 rfl rfl (.bool _) λhs σ=>?_
 have hb:=ia n S hn hS;simp only[go_sem,simprocAttr,cL,hb];rw[show(((n &&& S:Nat):Int)==0)=(n &&& S==0) by grind];exact .refl _
theorem Iu (hW:qM W0)(σ:ab)(id:Nat)(all:List Pkg)(s:List aA)(l:List aM)(S:Nat)(h24:all.length<=24)(hS:S<2^all.length)(hid:σ[id]?=some (cT a0 a1 a2 a3 a4 (eJ all s l) a6 a7 a8 a9 a10 a11 a12)):
  aP prog W0 210 [.ptr 143 id 0 [],cL S] σ λr σ'=>r= .bool (fZ all S)/\σ'=σ:=by
 have hidl:=(acf.1 hid).1;have hS32:S<4294967296:=aci hS (acg (n:=2) (by decide) (show all.length<=32 by omega));refine aP.back (.bool _) ?_;refine sH [.cell 4 4] [2,3] func210 rfl rfl ntmps210 rfl rfl λhs=>?_
 simp only[go_sem,simprocAttr,cL];refine aj.goes (by simp only[go_sem,simprocAttr]) (qB S (σ++[some (.cells 4 [.bool false])])) λr σ1 ⟨hr,hσ1⟩=>?_
 subst hr hσ1;simp only[go_sem,simprocAttr];have hbx: ∀S',(σ++[some (.cells 4 [.bool false]),jF S'])[σ.length+1]?=some (jF S'):=λS'=>by simp_all
 have hidτ: ∀S',(σ++[some (.cells 4 [.bool false]),jF S'])[id]?=some (cT a0 a1 a2 a3 a4 (eJ all s l) a6 a7 a8 a9 a10 a11 a12):=λS'=>by grind
 have hset: ∀S' b S'',(σ++[some (.cells 4 [.bool b]),jF S']).set (σ.length+1) (jF S'')=σ++[some (.cells 4 [.bool b]),jF S'']:=λS' b S''=>by simp_all
 have hre: ∀S',(σ++[some (.cells 4 [.bool false]),jF S'])[σ.length]?=some (some (.cells 4 [.bool false])):=λS'=>by simp_all
 have hhl:fZ all S=(bg 32 S).all λi=>(qj all i).all λn=>n &&& S !=0:=by rw[gW hS (by omega)];rfl
 refine td hW (σ.length+1) (λS' τ=>τ=σ++[some (.cells 4 [.bool false]),jF S']/\ ∃done,bg 32 S=done++bg 32 S'/\ ∀i∈done,((qj all i).all λn=>n &&& S !=0)=true)
  (λτ=>Ext σ τ/\τ[σ.length]?=some (some (.cells 4 [.bool false]))/\fZ all S=false) S (by simp only[go_sem,simprocAttr]) (by decide) hS32 (by simp only[go_sem,simprocAttr];exact hbx S) ⟨by simp only[go_sem,simprocAttr];rfl,[],rfl,λi hi=>by cases hi⟩
  (λS' k τ hS' ⟨hτ,done,hd1,hd2⟩ hb hk hkb hkl=>?_) (λτ ⟨hτ,done,hd1,hd2⟩=>?_) (λτ ⟨hτ,hf,hn⟩=>?_)
 .subst hτ;have hlow:=oA (k:=32) hkb hkl hk;have hkS:k∈bg 32 S:=by simp_all
  have hkn:k<all.length:=by rw[gW hS (by omega)]at hkS;grind [c9]
  obtain⟨p,hp⟩:=get_some hkn;have hfa:=Fe (s:=s) (l:=l) hp;have hid1:=hidτ S';have hre1:=hre S';unfold cT eJ at hid1;have han:=aae (W0:=W0) cL (λ_=>trivial) ((p.pre++p.dep).map (gl all)) (λn=>n &&& S==0) 253 [.loc 148 (cL S)] (λn hn=>by
   have hn32:n<4294967296:=by
    obtain⟨c,_,rfl⟩:=acB.1 hn;exact mR λz hz=>by grind
   grind [DO])
  have hany:(((p.pre++p.dep).map (gl all)).any λn=>n &&& S==0)= !((qj all k).all λn=>n &&& S !=0):=by
   grind [qj]
  have hat:=tj (s:=s) (l:=l) hp;have hlen:((List.range all.length).map λi=>iC all s l i ((all[i]?).getD xl)).length=all.length:=by simp_all
  simp only[go_sem,simprocAttr,ak hid1,hat,hlen];refine⟨hkn,aj.fn (r:=.bool _) han ?_⟩;rw[hany];simp only[go_sem,simprocAttr,aC hre1];refine⟨λhno=>⟨Ext.app (.refl _) _,?_⟩,λhyes=>⟨hbx S',done++[k],?_,λi hi=>?_⟩⟩
  .simp_all
  .simp_all
  grind
 .subst hτ;rw[nf,acx]at hd1;have hre1:=hre 0;simp only[go_sem,simprocAttr,aC hre1];refine cW.ret ?_;have hre2:(σ++[some (.cells 4 [.bool true]),jF 0])[σ.length]?=some (some (.cells 4 [.bool true])):=by simp_all
  have hT:fZ all S=true:=by grind
  rw[hT];simp only[go_sem,simprocAttr,ak hre2];exact⟨_,.refl _,by simp,.refl _,Ext.app (.refl _) _⟩
 .simp only[go_sem,simprocAttr];refine cW.ret ?_;rw[hn];have hle:=hτ.le;simp only[go_sem,simprocAttr,ak hf];exact⟨_,.refl _,hle,.refl _,hτ⟩
end Go.Proofs.Tryz
end
section
namespace Go.Av
open Go
theorem GI (K k:Nat):(K &&& 2^k==0)= !K.testBit k:=by
 grind [vP]
theorem DU (l:List Nat)(a:Nat):orN (l++[a])=orN l ||| a:=by
 induction l with
 |nil=>simp[orN]
 |cons b r ih=>grind [orN]
theorem R0 {l:List Nat}(h: ∀a∈l,a<4294967296):orN l<4294967296:=by
 induction l with
 |nil=>decide
 |cons b r ih=>rw[orN];exact Nat.or_lt_two_pow (n:=32) (h b (by simp)) (ih λa ha=>h a (by simp[ha]))
theorem tY (k S:Nat):(bg k S).length<=k:=by
 grind [bg]
end Go.Av
end
section
namespace Go.Proofs.Tryz
open Go Go.Av
set_option maxRecDepth 10000
set_option maxHeartbeats 1000000
variable {W0 :World}
variable {a0 a1 a2 a3 a4 a8 a9 a10 a11 a12:AV}
def Jl (ch un ad nw:Int)(kn:Nat):ab:=[some (.cells 29 [.agg 29 [.int .i64 0,.int .i64 0,.int .i64 0,.int .i64 0,.int .i64 0]]),some (.cells 3 [.int .i64 ch]),some (.cells 3 [.int .i64 un]),some (.cells 3 [.int .i64 ad]),some (.cells 3 [.int .i64 nw]),some (.cells 148 [.int .u32 (kn:Nat)])]
def qq (ch un ad nw:Int)(kn S:Nat)(J:ab):ab:=some (.cells 29 [.agg 29 [.int .i64 0,.int .i64 0,.int .i64 0,.int .i64 0,.int .i64 0]])::some (.cells 3 [.int .i64 ch])::some (.cells 3 [.int .i64 un])::some (.cells 3 [.int .i64 ad])::some (.cells 3 [.int .i64 nw])::some (.cells 148 [.int .u32 (kn:Nat)])::some (.cells 148 [.int .u32 (S:Nat)])::J
theorem QK (hW:qM W0)(σ:ab)(id:Nat)(all:List Pkg)(s:List aA)(l:List aM)(S:Nat)(up:Bool)(h24:all.length<=24)(hrc: ∀p∈all,p.rcm.length<=1048576)(GP:s.length<=10)(hS:S<2^all.length)
  (hid:σ[id]?=some (cT a0 a1 a2 a3 a4 (eJ all s l) (fo (s.map (je all))) (.bool up) a8 a9 a10 a11 a12)):
  aP prog W0 211 [.ptr 143 id 0 [],cL S] σ λr σ'=>r=cp (kH all s S up)/\σ'=σ:=by
 have hidl:=(acf.1 hid).1;have hS32:S<4294967296:=aci hS (acg (n:=2) (by decide) (show all.length<=32 by omega));refine aP.back (fk (acq _) (Ts _)) ?_;refine sH [.cell 4 29] [2,3,14] func211 rfl rfl ntmps211 rfl rfl λhs=>?_
 have hid1: ∀τ,(σ++τ)[id]?=some (cT a0 a1 a2 a3 a4 (eJ all s l) (fo (s.map (je all))) (.bool up) a8 a9 a10 a11 a12):=λτ=>by grind
 have hid2:=hid1;unfold cT fo at hid2;have hln:(s.map (je all)).length=s.length:=acj ..;have hthere: ∀a∈s.map (je all),a<4294967296:=λa ha=>by
  obtain⟨x,_,rfl⟩:=acB.1 ha;exact mR λz hz=>by have:=(List.mem_filter.1 hz).1;grind
 obtain⟨L,hL⟩: ∃L,L=s.map (je all):=⟨_,rfl⟩;rw[<-hL]at hln hthere;have hLl:(L.map cL).length=s.length:=by simp_all
 simp only[go_sem,simprocAttr,cL,ak (hid2 _),<-hL,hLl];refine ae.at [2,3,4,6,7,8,9,10] (λA=>A.env 5= .int .i64 (L.filter λx=>x &&& S==0).length/\A.st=σ++Jl 0 0 0 0 (orN L)) ?_ λB ⟨h5,hst⟩=>?_
 .refine ae.upto [2,3,4,6,7,8,9,10,20,21] s.length (λi A=>A.env 22= .int .i64 i/\A.env 5= .int .i64 ((L.take i).filter λx=>x &&& S==0).length/\A.st=σ++Jl 0 0 0 0 (orN (L.take i))) 0 (acq _) ?_ λi B hi ⟨h22,h5,hst⟩=>?_
  .simp only[go_sem,simprocAttr];exact⟨rfl,rfl⟩
  unfold Jl at hst;simp only[go_sem,simprocAttr,h22,h5,hst];refine⟨λhlt=>?_,λhge=>?_⟩
  .obtain⟨y,hy⟩:=get_some (show i<L.length by omega);have hyl:=hthere y (ach hy);have hkl:orN (L.take i)<4294967296:=R0 λa ha=>hthere a (List.mem_of_mem_take ha)
   have hor:=jN _ _ hkl hyl;have hand:=ia _ _ hyl hS32;have hatV:atV (L.map cL) (i:Int)= .int .u32 y:=aw hy;have hc:=D9 (λx=>x &&& S==0) hy;have hcl:=PH (λx=>x &&& S==0) L i;simp only[go_sem,simprocAttr,hatV,hor,hand,hLl];refine⟨hlt,λhz=>⟨hlt,ag hlt (by grind [au]),?_,?_⟩,λhz=>⟨hlt,ag hlt (by grind [au]),?_,?_⟩⟩
   .rw[hc,if_pos (by simp_all)];exact ag (N:=11) (by omega) (by simp[au])
   .rw[ah hy,DU];rfl
   .simp_all
   .rw[ah hy,DU];rfl
  grind
 have hst0:=hst;unfold Jl at hst;simp only[go_sem,simprocAttr,hst];refine aj.goes (by simp only[go_sem,simprocAttr];exact hst) (qB S (σ++Jl 0 0 0 0 (orN L))) λr σ1 ⟨hr,hσ1⟩=>?_
 subst hr hσ1;have hbn:(σ++Jl 0 0 0 0 (orN L)).length=σ.length+6:=by grind
 rw[hbn];simp only[go_sem,simprocAttr,Jl];have hbx: ∀ch un ad nw kn S' J,(σ++qq ch un ad nw kn S' J)[σ.length+6]?=some (jF S'):=λch un ad nw kn S' J=>by simp[qq,jF,cL]
 have hset: ∀ch un ad nw kn S' S'' J,(σ++qq ch un ad nw kn S' J).set (σ.length+6) (jF S'')=σ++qq ch un ad nw kn S'' J:=λch un ad nw kn S' S'' J=>by simp_all[qq]
 obtain⟨un,hun⟩: ∃un:Nat->Nat,un=λi=>((vo all i).filter λw=>w &&& S==0).length:=⟨_,rfl⟩
 refine td hW (σ.length+6) (λS' τ=>∃ done J,bg 32 S=done++bg 32 S'/\τ=σ++qq (done.filter (jO all s)).length (done.map un).sum (done.filter λi=>!(orN L).testBit i).length (done.map (ej all)).sum (orN L) S' J)
  (λτ=>False) S (by simp only[go_sem,simprocAttr]) (by decide) hS32 (by simp only[go_sem,simprocAttr];exact hbx 0 0 0 0 _ S []) ⟨[],[],rfl,by simp only[go_sem,simprocAttr];rfl⟩
  (λS' k τ hS' ⟨done,J,hd1,hτ⟩ hb hk hkb hkl=>?_) (λτ ⟨done,J,hd1,hτ⟩=>?_) (λτ hf=>hf.elim)
 .subst hτ;have hlow:=oA (k:=32) hkb hkl hk;have hkS:k∈bg 32 S:=by simp_all
  have hkn:k<all.length:=by rw[gW hS (by omega)]at hkS;grind [c9]
  obtain⟨p,hp⟩:=get_some hkn;have hpr:=hrc p (ach hp);have hat:=tj (s:=s) (l:=l) hp;have hlen:((List.range all.length).map λi=>iC all s l i ((all[i]?).getD xl)).length=all.length:=by simp_all
  have hid3:=hid1;unfold cT eJ at hid3;unfold qq;have hdl:done.length+1<=32:=by
   grind [tY]
  have hch:E0 s p=jO all s k:=by grind [E0,jO]
  have hnw:ej all k=dG all p:=by grind [ej]
  have hnl: ∀i,ej all i<=24:=λi=>by
   unfold ej;split
   .grind [dG]
   .omega
  have hns:=pe (l:=done) (f:=ej all) λa _=>hnl a
  have hcf:=aco (jO all s) done;have haf:=aco (λi=>!(orN L).testBit i) done;have hchs:((done++[k]).filter (jO all s)).length=(done.filter (jO all s)).length+if jO all s k=true then 1 else 0:=by
   grind
  have hads:((done++[k]).filter λi=>!(orN L).testBit i).length=(done.filter λi=>!(orN L).testBit i).length+if (!(orN L).testBit k)=true then 1 else 0:=by
   grind
  have hnws:((done++[k]).map (ej all)).sum=(done.map (ej all)).sum+dG all p:=by
   simp_all
  have hwn:IntKind.i64.wrap (((done.map (ej all)).sum:Int)+(dG all p:Int))=(((done++[k]).map (ej all)).sum:Nat):=by
   have:=hnl k;rw[hnw]at this;rw[hnws,aJ (by omega)];omega
  simp only[go_sem,simprocAttr,ak (hid3 _),hat,hlen,hwn];refine⟨hkn,cc.at [3,7,8,10,13,14] (by kernel_rfl) (λA=>∃ J',A.st=σ++qq ((done++[k]).filter (jO all s)).length (done.map un).sum (done.filter λi=>!(orN L).testBit i).length ((done++[k]).map (ej all)).sum (orN L) S' J') (λhc=>?_) (λhc=>?_) λB1 ⟨J1,hst1⟩=>?_⟩
  .rw[hch]at hc;rw[if_pos hc]at hchs;have hw:IntKind.i64.wrap (((done.filter (jO all s)).length:Int)+1)=(((done++[k]).filter (jO all s)).length:Nat):=by
    rw[hchs,aJ (by omega)];omega
   simp only[go_sem,simprocAttr,hw];exact⟨_,rfl⟩
  .rw[hch]at hc;rw[if_neg (by simp_all)]at hchs;simp only[go_sem,simprocAttr];rw[hchs];exact⟨_,rfl⟩
  .unfold qq at hst1;have hok:orN L<4294967296:=R0 hthere;have hand:=ia (orN L) (2^k) hok (oq hk);simp only[go_sem,simprocAttr,hst1];refine⟨.of (by kernel_rfl),aD.fn (sd k hk) ?_⟩;have hz:(((orN L &&& 2^k:Nat):Int)==0)= !(orN L).testBit k:=by
    rw[<-GI,Bool.eq_iff_iff];simp
   simp only[go_sem,simprocAttr,hand,hz];refine cc.at [3,7,14] (by kernel_rfl) (λA=>∃ J',A.st=σ++qq ((done++[k]).filter (jO all s)).length (done.map un).sum ((done++[k]).filter λi=>!(orN L).testBit i).length ((done++[k]).map (ej all)).sum (orN L) S' J') (λhc=>?_) (λhc=>?_) λB2 ⟨J2,hst2⟩=>?_
   .rw[if_pos hc]at hads;have hw:IntKind.i64.wrap (((done.filter λi=>!(orN L).testBit i).length:Int)+1)=(((done++[k]).filter λi=>!(orN L).testBit i).length:Nat):=by
     rw[hads,aJ (by omega)];omega
    simp only[go_sem,simprocAttr,hst1,hw];exact⟨_,rfl⟩
   .rw[if_neg (by simp_all)]at hads;simp only[go_sem,simprocAttr,hst1];simp_all
   .have hst20:=hst2;unfold qq at hst2;obtain⟨ws,hws⟩: ∃ws,ws=p.rcm.map (gl all):=⟨_,rfl⟩;have hwl:ws.length<=1048576:=by simp_all
    have hwk:vo all k=ws:=by grind [vo]
    have hw32: ∀a∈ws,a<4294967296:=λa ha=>by
     rw[hws]at ha;obtain⟨c,_,rfl⟩:=acB.1 ha;exact mR λz hz=>by grind
    have huk:un k=(ws.filter λw=>w &&& S==0).length:=by simp_all
    have hul: ∀i,un i<=1048576:=λi=>by
     rw[hun];refine acC (aco _ _) ?_;unfold vo;split
     .grind
     .simp
    have hus:=pe (l:=done) (f:=un) λa _=>hul a
    have hwsl:(ws.map cL).length=ws.length:=acj ..;simp only[go_sem,simprocAttr,hst2,fo,<-hws,hwsl];refine ae.ats [3,7,62,63] (λA=>A.st=σ++qq ((done++[k]).filter (jO all s)).length ((done++[k]).map un).sum ((done++[k]).filter λi=>!(orN L).testBit i).length ((done++[k]).map (ej all)).sum (orN L) S' J2) ?_ λB3 hst3=>?_
    .refine ae.upto [3,7,62,63] ws.length (λi A=>A.env 64= .int .i64 i/\A.st=σ++qq ((done++[k]).filter (jO all s)).length (((done.map un).sum+((ws.take i).filter λw=>w &&& S==0).length:Nat):Int) ((done++[k]).filter λi=>!(orN L).testBit i).length ((done++[k]).map (ej all)).sum (orN L) S' J2) 0 (acq _) ?_ λi B3 hi ⟨h64,hst3⟩=>?_
     .simp only[go_sem,simprocAttr,hst2];rfl
     unfold qq at hst3;simp only[go_sem,simprocAttr,h64,hst3];refine⟨λhlt=>?_,λhge=>?_⟩
     .obtain⟨y,hy⟩:=get_some hlt;have hand2:=ia y S (hw32 y (ach hy)) hS32;have hatV:atV (ws.map cL) (i:Int)= .int .u32 y:=aw hy;have hc:=D9 (λw=>w &&& S==0) hy;have hcl:=PH (λw=>w &&& S==0) ws i;have hw2:IntKind.i64.wrap ((((done.map un).sum+((ws.take i).filter λw=>w &&& S==0).length:Nat):Int)+1)=(((done.map un).sum+((ws.take i).filter λw=>w &&& S==0).length+1:Nat):Int):=by
       rw[aJ (by omega)];omega
      simp only[go_sem,simprocAttr,hatV,hand2,hwsl,hw2];refine⟨hlt,λhz=>⟨hlt,ag hlt (by grind [au]),?_⟩,λhz=>⟨hlt,ag hlt (by grind [au]),?_⟩⟩
      .rw[hc,if_pos (by simp_all)];rfl
      simp_all
     .rw[List.take_of_length_le hge,<-huk,show(done.map un).sum+un k=((done++[k]).map un).sum by simp_all];rfl
    .simp only[go_sem,simprocAttr,hst3];exact⟨hbx _ _ _ _ _ _ _,done++[k],J2,by simp_all,rfl⟩
 .subst hτ;rw[nf,acx]at hd1;have hid3:=hid1;unfold cT at hid3;unfold qq;have hcost:kH all s S up=Dz up (L.filter λx=>x &&& S==0).length (done.filter (jO all s)).length (done.map un).sum (done.filter λi=>!(orN L).testBit i).length (done.map (ej all)).sum:=by
   unfold kH;rw[<-gW hS (show all.length<=32 by omega),hd1,hL,hun,List.filter_map,acj];rfl
  rw[hcost];simp only[go_sem,simprocAttr,ak (hid3 _),h5];refine⟨λhup=>cW.ret ?_,λhup=>cW.ret ?_⟩
  .subst hup;simp only[go_sem,simprocAttr];exact⟨_,.refl _,by simp,.refl _,Ext.app (.refl _) _⟩
  .subst hup;simp only[go_sem,simprocAttr];exact⟨_,.refl _,by simp,.refl _,Ext.app (.refl _) _⟩
end Go.Proofs.Tryz
end
section
namespace Go.Av
open Go.Proofs.Tryz
theorem LD {α:Type}(l:List α):(List.range l.length).filterMap (l[·]?)=l:=by
 induction l with
 |nil=>rfl
 |cons a r ih=>
  rw[List.length_cons,List.range_succ_eq_map,List.filterMap_cons,List.getElem?_cons_zero,List.filterMap_map];exact congrArg (a:: ·) ih
theorem xx (all:List Pkg)(S:Nat):(atL all (bg all.length S)).Sublist all:=by
 grind [atL,bg,acm,LD]
theorem rO {l:List Pkg}(h:aZ l=0):(dA l []).length<=10:=by
 grind [aZ]
theorem xT {l m:List Pkg}(hs:l.Sublist m)(h:aZ m=0):aZ l=0:=by
 have h1:=rO h;refine oZ (acC hs.length_le (dF h)) (λp hp=>dT h (hs.subset hp)) ((fD h).1.sublist hs) (acC (kl _ _ (iM l [] List.nodup_nil) λx hx=>?_) h1);grind [jo]
theorem Lb {l m:List Pkg}(hs:l.Sublist m)(h:aZ m=0)(ho:m=cO m):cO l=l:=by
 have h1:nR m:=by rw[ho];exact kp (fD h).2
 exact vZ (h1.sublist hs)
end Go.Av
end
section
namespace Go.Proofs.Tryz
open Go Go.Av
set_option maxRecDepth 10000
set_option maxHeartbeats 1000000
variable {W0 :World}
variable {a1 a2 a3 a4 a5 a6 a7 a8 a9 a10 a11 a12:AV}
def vY (v:AV):Option bH:=some (.cells 23 [v])
theorem Pp (hW:qM W0)(σ:ab)(id:Nat)(all:List Pkg)(S:Nat)(h0:aZ all=0)(ho:all=cO all)(hmn: ∀p∈all,iT p)(hS:S<2^all.length)
  (hid:σ[id]?=some (cT (aL all) a1 a2 a3 a4 a5 a6 a7 a8 a9 a10 a11 a12)):
  aP prog W0 157 [.ptr 143 id 0 [],cL S] σ λr σ'=>r=aL (atL all (bg all.length S))/\σ'=σ:=by
 have hidl:=(acf.1 hid).1;have h24:=dF h0;have hS32:S<4294967296:=aci hS (acg (n:=2) (by decide) (show all.length<=32 by omega));have hsub:=xx all S;have hmw:=xT hsub h0;have hsw:=Lb hsub h0 ho;have hmnw: ∀p∈atL all (bg all.length S),iT p:=λp hp=>hmn p (hsub.subset hp)
 have hpm: ∀p∈atL all (bg all.length S),aS p=0:=λp hp=>dT hmw hp
 have hwl:(atL all (bg all.length S)).length<=24:=dF hmw;refine aP.back (fk (acq _) (kA _)) ?_;refine sH [.tmp 4] [2,11,2000025,4000004] func157 rfl rfl ntmps157 rfl rfl λhs=>?_
 simp only[go_sem,simprocAttr,cL];refine aj.goes (by simp only[go_sem,simprocAttr];rfl) (qB S (σ++[vY .aq])) λr σ1 ⟨hr,hσ1⟩=>?_
 subst hr hσ1;simp only[go_sem,simprocAttr];have hbn:(σ++[vY .aq]).length=σ.length+1:=by simp
 refine td hW (σ.length+1) (λS' τ=>∃ done v,bg 32 S=done++bg 32 S'/\τ[σ.length]?=some (vY v)/\aH σ τ v 51 ((atL all done).map ay))
  (λτ=>False) S (by simp only[go_sem,simprocAttr]) (by decide) hS32 ?_ ?_
  (λS' k τ hS' ⟨done,v,hd1,hv,hb⟩ hbx hk hkb hkl=>?_) (λτ ⟨done,v,hd1,hv,hb⟩=>?_) (λτ hf=>hf.elim)
 .simp only[go_sem,simprocAttr];simp[jF]
 .simp only[go_sem,simprocAttr];exact⟨[],.aq,rfl,rfl,aH.nil (Ext.app (.refl _) _) _⟩
 .have hlow:=oA (k:=32) hkb hkl hk;have hkS:k∈bg 32 S:=by grind
  have hkn:k<all.length:=by grind [gW,c9]
  obtain⟨p,hp⟩:=get_some hkn;have hidτ:τ[id]?=some (cT (aL all) a1 a2 a3 a4 a5 a6 a7 a8 a9 a10 a11 a12):=by
   have e:=congrArg (·[id]?) hb.ext;grind
  have hv1:=hv;unfold cT aL at hidτ;unfold vY at hv1;have hatV:atV (all.map ay) (k:Int)=ay p:=aw hp;have hdl:done.length+1<=32:=by
   grind [tY]
  have hal:((atL all done).map ay).length<=done.length:=by
   rw[acj];exact List.length_filterMap_le _ _
  simp only[go_sem,simprocAttr,ak hidτ,ak hv1,hb.bld.ok,hb.bld.un,hatV,acj];refine⟨.of (by kernel_rfl),hkn,bq.mI (σ:=τ) (by simp only[go_sem,simprocAttr]) 1048576 (by kernel_rfl) hb.bld (.lit _ _ _) (by grind) λv' σ' ha=>?_⟩;have hb':=hb.app ha;have hkeep: ∀(j:Nat) (o:bH),τ[j]?=some (some o)->o≠ .tok->σ'[j]?=some (some o):=λj o hj ho=>by
   rw[ha.old j (acf.1 hj).1 (λe=>by have:=hb.bld.jl e;grind),hj]
  have hv2:=hkeep _ _ hv1 (λh=>by cases h);have hbx2:=hkeep _ _ hbx (λh=>by cases h);have hl2:=(acf.1 hv2).1;have hl3:=(acf.1 hbx2).1;simp only[go_sem,simprocAttr,ak hv2,aC hv2,hb'.bld.ok,hb'.bld.un,hb'.bld.fits];refine⟨?_,done++[k],v',by grind,?_,?_⟩
  .rw[ack (by omega)];exact hbx2
  .rw[ack (by omega),acv hl2];rfl
  .have e:(atL all (done++[k])).map ay=(atL all done).map ay++[ay p]:=by
    unfold atL;rw[List.filterMap_append,acD];simp[hp]
   rw[e];refine⟨hb'.bld.keep λj hj=>?_,(hb'.ext.set (Nat.le_refl _) _).set (Nat.le_succ _) _,hb'.tok⟩;have n1:=hb'.bld.ne hv2 (λh=>by cases h);have n2:=hb'.bld.ne hbx2 (λh=>by cases h);rw[ack (λe=>n2 (by grind)),ack (λe=>n1 (by grind))]
 .rw[nf,acx]at hd1;have hwn:atL all done=atL all (bg all.length S):=by grind [gW]
  rw[hwn]at hb;have hv1:=hv;unfold vY at hv1;simp only[go_sem,simprocAttr,ak hv1,hb.bld.ok,hb.bld.un];have hix:=sA (W0:=W0) (atL all (bg all.length S)) hmnw;rw[if_pos hmw,hsw]at hix;refine aj.fn (hix.bS (.cons hb.bS .nil)) ?_;simp only[go_sem,simprocAttr];refine aj.fn (sv _) ?_;simp only[go_sem,simprocAttr];obtain⟨T,hT⟩: ∃T,T=atL all (bg all.length S):=⟨_,rfl⟩;rw[<-hT]at hwl hpm ⊢;refine ae.at [] (λA=>∃ u,A.env 9=u/\aH σ A.st u 51 (T.map ay)) ?_ λB ⟨u,h9,hb2⟩=>?_
  .refine ae.upto [7,32] T.length (λi A=>A.env 33= .int .i64 i/\ ∃u,A.env 9=u/\aH σ A.st u 51 ((T.take i).map ay)) 0 (acq _) ?_ λi B hi ⟨h33,u,h9,hb2⟩=>?_
   .simp only[go_sem,simprocAttr];grind [aH.nil,aH.ext]
   simp only[go_sem,simprocAttr,h33,h9];refine⟨λhlt=>?_,λhge=>?_⟩
   .obtain⟨p,hp⟩:=get_some hlt;refine aj.fn (Py T i hp (hpm p (ach hp))) ?_;have hb3:aH σ (B.st++[none]) u 51 ((T.take i).map ay):=⟨hb2.bld.keep λj hj=>by rw[List.getElem?_append_left (hb2.bld.lt j hj)],hb2.ext.app _,hb2.tok⟩;simp only[go_sem,simprocAttr,h9,hb2.bld.ok,hb2.bld.un];refine bq.mI (σ:=B.st++[none]) (by simp only[go_sem,simprocAttr]) 1048576 (by kernel_rfl) hb3.bld (.lit _ _ _) (by grind) λv' σ' ha=>?_
    have hb4:=hb3.app ha;simp only[go_sem,simprocAttr,h33];refine⟨hlt,ag hlt (by grind [au]),_,rfl,?_⟩;rw[ah hp,acD];exact hb4
   grind
  .simp only[go_sem,simprocAttr,h9];refine cW.ret ?_;simp only[go_sem,simprocAttr];exact⟨_,hb2.bS,hb2.ext.le,.refl _,hb2.ext⟩
end Go.Proofs.Tryz
end
section
namespace Go.Av
open Go Go.Sort Go.Proofs
abbrev FB:=List Nat×Nat
def cN (x:FB)(j:Nat):Int:=((x.1[j]?).getD 0:Nat)
def c5 (x:FB):List Int:=[cN x 0,cN x 1,cN x 2,cN x 3,cN x 4]
def sF (x:FB):Nat:=x.2 % 4294967296
def cfF (x y:FB):Int:=orL [orL (List.zipWith sgn (c5 x) (c5 y)),sgn (jG (sF y):Nat) (jG (sF x):Nat)]
theorem ZW (a b c d e:Int):orL [a,b,c,d,e]=if a≠0 then a else if b≠0 then b else if c≠0 then c else if d≠0 then d else if e≠0 then e else 0:=rfl
theorem RP (x y z:FB):TT (cfF x y) (cfF y z) (cfF x z):=by
 have h: ∀x y,cfF x y=if orL (List.zipWith sgn (c5 x) (c5 y))≠0 then orL (List.zipWith sgn (c5 x) (c5 y))else if sgn (jG (sF y):Nat) (jG (sF x):Nat)≠0 then sgn (jG (sF y):Nat) (jG (sF x):Nat)else 0:=λx y=>rfl
 have h5:TT (orL (List.zipWith sgn (c5 x) (c5 y))) (orL (List.zipWith sgn (c5 y) (c5 z))) (orL (List.zipWith sgn (c5 x) (c5 z))):=by
  unfold c5;simp only[acn,acz,ZW];exact TT.lex (TT.sgn _ _ _) λ_ _ _=>TT.lex (TT.sgn _ _ _) λ_ _ _=>TT.lex (TT.sgn _ _ _) λ_ _ _=>TT.lex (TT.sgn _ _ _) λ_ _ _=>TT.lex (TT.sgn _ _ _) λ_ _ _=>TT.zero
 rw[h x y,h y z,h x z];refine TT.lex h5 λ_ _ _=>TT.lex ?_ λ_ _ _=>TT.zero
 intro h1 h2;have:=TT.sgn (jG (sF z):Nat) (jG (sF y):Nat) (jG (sF x):Nat) h2 h1;omega
theorem ru (x y:FB):cfF y x= -cfF x y:=by
 have h: ∀x y,cfF x y=if orL (List.zipWith sgn (c5 x) (c5 y))≠0 then orL (List.zipWith sgn (c5 x) (c5 y))else if sgn (jG (sF y):Nat) (jG (sF x):Nat)≠0 then sgn (jG (sF y):Nat) (jG (sF x):Nat)else 0:=λx y=>rfl
 have h5:orL (List.zipWith sgn (c5 y) (c5 x))= -orL (List.zipWith sgn (c5 x) (c5 y)):=by
  unfold c5;simp only[acn,acz,ZW];grind [nU]
 grind [sgn]
theorem U4 :SWO (ltOf cfF):=by
 refine⟨λx=>?_,λx y z h1 h2=>?_,λx y z h1 h2=>?_⟩
 .have:=ru x x;exact decide_eq_false (by omega)
 .have a1:=of_decide_eq_true h1;have a2:=of_decide_eq_true h2;obtain⟨g1,g2⟩:=RP x y z (by omega) (by omega);refine decide_eq_true ?_;omega
 .have a1:=of_decide_eq_false h1;have a2:=of_decide_eq_false h2;obtain⟨g1,g2⟩:=RP z y x (by grind [ru]) (by grind [ru]);refine decide_eq_false ?_;grind [ru]
theorem FI : ∀{c d:List Nat},c.length=d.length->(lexB c d=true↔orL (List.zipWith sgn (c.map λ(x:Nat)=>(x:Int)) (d.map λ(x:Nat)=>(x:Int)))<0)/\(c=d↔orL (List.zipWith sgn (c.map λ(x:Nat)=>(x:Int)) (d.map λ(x:Nat)=>(x:Int)))=0)
 |[],[],_=>by simp[lexB,orL]
 |a::x,b::y,h=>by
  obtain⟨i1,i2⟩:=FI (c:=x) (d:=y) (by simp_all);simp only[List.map_cons,acn,orL,lexB];grind [sgn]
theorem Yz {x:FB}(h:x.1.length=5):c5 x=x.1.map λ(x:Nat)=>(x:Int):=by
 obtain⟨c,S⟩:=x
 match c,h with
 |[a,b,c,d,e],_=>rfl
theorem VU {x y:FB}(hx:x.1.length=5/\x.2<4294967296)(hy:y.1.length=5/\y.2<4294967296):ltOf cfF x y=ltB x y:=by
 have hsx:sF x=x.2:=acp hx.2;have hsy:sF y=y.2:=acp hy.2;obtain⟨i1,i2⟩:=FI (hx.1.trans hy.1.symm);unfold ltOf ltB cfF;grind [Yz,NF,orL,sgn]
end Go.Av
end
section
namespace Go.Proofs.Tryz
open Go Go.Av Go.Sort
set_option maxRecDepth 100000
set_option maxHeartbeats 1000000
variable {W0 :World}
def fW (x:FB):AV:=.agg 218 [cL x.2,cp x.1]
def pZ (x:FB):List Value:=[.int .u32 (sF x:Nat),.int .i64 (cN x 0),.int .i64 (cN x 1),.int .i64 (cN x 2),.int .i64 (cN x 3),.int .i64 (cN x 4)]
def RT (x:FB):Prop:=x.1.length=5/\x.2<4294967296
theorem Ph {w:World}{C:Ctx}{c:List Nat}{cs:List Value}(h5:c.length=5)(h:Rel prog w C (cp c) cs):cs=c.map λ(x:Nat)=>Value.int .i64 (x:Int):=by
 cases h with
 |agg cf h1 h2 h3 h4 h6 h7=>
 rename_i ts;have hf:bz prog 29=some [3,3,3,3,3]:=by kernel_rfl
 rw[hf]at h1;cases h1;have hsz:af prog 29=5:=by kernel_rfl
 rw[hsz]at h3;refine List.ext_getElem? λi=>?_
 by_cases hi:i<5
 .have hx:(c.map λ(x:Nat)=>AV.int .i64 (x:Int))[i]?=some (.int .i64 (c[i]'(by omega):Nat)):=by simp_all
  have hr:=h6 i _ hx;have hty:([3,3,3,3,3]:List TypeId)[i]?=some 3:=by
   grind
  obtain⟨_,_,g3⟩:=h7 i _ _ hx hty;generalize cf i=ci at hr g3;cases hr;have o0:bo prog [3,3,3,3,3] 0=0:=by kernel_rfl
  have o1:bo prog [3,3,3,3,3] 1=1:=by kernel_rfl
  have o2:bo prog [3,3,3,3,3] 2=2:=by kernel_rfl
  have o3:bo prog [3,3,3,3,3] 3=3:=by kernel_rfl
  have o4:bo prog [3,3,3,3,3] 4=4:=by kernel_rfl
  have hoff:bo prog [3,3,3,3,3] i=i:=by
   grind
  have:=g3 0 _ rfl;simp_all
 simp_all
theorem Wa {w:World}{C:Ctx}{x:FB}{cs:List Value}(hx:RT x)(h:Rel prog w C (fW x) cs):cs=pZ x:=by
 cases h with
 |agg cf h1 h2 h3 h4 h6 h7=>
 have hf:bz prog 218=some [148,29]:=by kernel_rfl
 rw[hf]at h1;cases h1;have hsz:af prog 218=6:=by kernel_rfl
 rw[hsz]at h3;have ho0:bo prog [148,29] 0=0:=by kernel_rfl
 have ho1:bo prog [148,29] 1=1:=by kernel_rfl
 have r0:=h6 0 _ rfl;obtain⟨_,_,g0⟩:=h7 0 _ _ rfl rfl;have r1:=h6 1 _ rfl;obtain⟨_,_,g1⟩:=h7 1 _ _ rfl rfl;have e1:=Ph hx.1 r1;rw[e1]at g1;generalize cf 0=c0 at r0 g0;cases r0;have q0:=g0 0 _ rfl;rw[ho0]at q0;rw[ho1]at g1;obtain⟨c,S⟩:=x;obtain⟨hc,hS⟩:=hx
 match c,hc with
 |[a,b,c,d,e],_=>
  have q1:=g1 0 _ rfl;have q2:=g1 1 _ rfl;have q3:=g1 2 _ rfl;have q4:=g1 3 _ rfl;have q5:=g1 4 _ rfl;have hm:S % 4294967296=S:=acp hS
  match cs,h3 with
  |[v0,v1,v2,v3,v4,v5],_=>
   simp at q0 q1 q2 q3 q4 q5;subst q0 q1 q2 q3 q4 q5;show _=[Value.int .u32 ((S % 4294967296:Nat):Int),_,_,_,_,_];rw[hm];rfl
theorem UD {w:World}{C:Ctx}{x:FB}(hx:RT x):Rel prog w C (fW x) (pZ x):=by
 obtain⟨c,S⟩:=x;obtain⟨hc,hS⟩:=hx
 match c,hc with
 |[a,b,c,d,e],_=>
  have hm:S % 4294967296=S:=acp hS;have hcost:Rel prog w C (cp [a,b,c,d,e]) [.int .i64 (a:Nat),.int .i64 (b:Nat),.int .i64 (c:Nat),.int .i64 (d:Nat),.int .i64 (e:Nat)]:=by
   refine .agg (ts:=[3,3,3,3,3]) (λi=>[.int .i64 (([a,b,c,d,e][i]?.getD 0:Nat):Int)]) (by kernel_rfl) rfl (by kernel_rfl) (λc hc=>?_) (λi x hx=>?_) (λi x ty hx hty=>?_)
   .simp at hc;rcases hc with rfl|rfl|rfl|rfl|rfl<;>rfl
   .match i,hx with
    |0,hx=>cases hx;exact .int _ _
    |1,hx=>cases hx;exact .int _ _
    |2,hx=>cases hx;exact .int _ _
    |3,hx=>cases hx;exact .int _ _
    |4,hx=>cases hx;exact .int _ _
   .match i,hx,hty with
    |0,hx,hty=>cases hx;cases hty;exact⟨by kernel_rfl,⟨rfl,by kernel_rfl⟩,λj u hj=>by match j,hj with|0,hj=>cases hj;rfl⟩
    |1,hx,hty=>cases hx;cases hty;exact⟨by kernel_rfl,⟨rfl,by kernel_rfl⟩,λj u hj=>by match j,hj with|0,hj=>cases hj;rfl⟩
    |2,hx,hty=>cases hx;cases hty;exact⟨by kernel_rfl,⟨rfl,by kernel_rfl⟩,λj u hj=>by match j,hj with|0,hj=>cases hj;rfl⟩
    |3,hx,hty=>cases hx;cases hty;exact⟨by kernel_rfl,⟨rfl,by kernel_rfl⟩,λj u hj=>by match j,hj with|0,hj=>cases hj;rfl⟩
    |4,hx,hty=>cases hx;cases hty;exact⟨by kernel_rfl,⟨rfl,by kernel_rfl⟩,λj u hj=>by match j,hj with|0,hj=>cases hj;rfl⟩
  refine .agg (ts:=[148,29]) (λi=>if i=0 then [.int .u32 (S:Nat)]else [.int .i64 (a:Nat),.int .i64 (b:Nat),.int .i64 (c:Nat),.int .i64 (d:Nat),.int .i64 (e:Nat)]) (by kernel_rfl) rfl (by kernel_rfl) (λv hv=>?_) (λi x hx=>?_) (λi x ty hx hty=>?_)
  .simp[pZ]at hv;rcases hv with rfl|rfl|rfl|rfl|rfl|rfl<;>rfl
  .match i,hx with
   |0,hx=>cases hx;exact .int _ _
   |1,hx=>simp_all
  .match i,hx,hty with
   |0,hx,hty=>
    cases hx;cases hty;refine⟨by kernel_rfl,⟨rfl,by kernel_rfl⟩,λj u hj=>?_⟩
    match j,hj with
    |0,hj=>
     cases hj;show some (Value.int .u32 ((S % 4294967296:Nat):Int))=_;rw[hm]
   |1,hx,hty=>
    cases hx;cases hty;refine⟨by kernel_rfl,⟨rfl,by kernel_rfl⟩,λj u hj=>?_⟩
    match j,hj with
    |0,hj=>cases hj;rfl
    |1,hj=>cases hj;rfl
    |2,hj=>cases hj;rfl
    |3,hj=>cases hj;rfl
    |4,hj=>cases hj;rfl
theorem vl (x:FB):(pZ x).length=6:=rfl
theorem RB (x:FB): ∀v∈pZ x,v.oneCell'=true:=λv hv=>by
 simp[pZ]at hv;rcases hv with rfl|rfl|rfl|rfl|rfl|rfl<;>rfl
theorem Iw (σ:ab)(id:Nat)(xs:List FB)(hid:σ[id]?=some (some (.cells 218 (xs.map fW))))(h0:xs≠[])(hx:xs.length<=1000000000)(hm: ∀x∈xs,RT x):
  aP prog W0 212 [.row 218 id 0 xs.length,.fn 213 []] σ λr σ'=>∃ ys:List FB,ys.Perm xs/\(ys.Pairwise λx y=>ltB y x=false)/\σ'=σ.set id (some (.cells 218 (ys.map fW))):=λw C vs hst hl hv=>by
 obtain _|⟨v1,_|⟨v2,_|⟨_,_⟩⟩⟩:=vs<;>simp at hl
 have h1:=(hv 0 _ _ rfl rfl).aG rfl;have h2:=(hv 1 _ _ rfl rfl).aG rfl;obtain⟨b,base,room,arr,t',fr,m1,m2,mf,m3,m4,cf,m5⟩:=hst.cells hid;have hpos:0<xs.length:=List.length_pos_iff.2 h0;have hsz:af prog 218=6:=by kernel_rfl
 rw[hsz,acj]at m4;cases h1 with
 |row hn hc hi ho=>
 rename_i a cap;obtain⟨b',base',room',e1,e2,e3⟩:=ho _ m1;cases e1;have e4:=e2 (by omega);subst e4;cases h2 with
 |fn f1 f2 f3=>
 rename_i vs
 have:vs=[]:=List.length_eq_zero_iff.1 f1.symm;subst this;rw[Nat.zero_mul,Nat.add_zero];have hcell: ∀j (h:j<xs.length) (q:Nat) (c:Value),(pZ xs[j])[q]?=some c->arr[base+j*6+q]?=some c:=λj h q c hq=>by
  have hj:(xs.map fW)[j]?=some (fW xs[j]):=by simp_all
  grind [Wa]
 have hH:HoldsK pZ 6 w b base xs.toArray:=λt ht=>by
  have ht':t<xs.length*6:=by simp_all
  have hj:t / 6<xs.length:=by omega
  refine⟨?_,rN (n:=0) m2 mf (by omega)⟩;rw[get_flatK _ _ _ _ (by omega),getElem!_pos xs.toArray (t / 6) (by omega),List.getElem_toArray];have hq:t % 6<(pZ xs[t / 6]).length:=by grind [vl]
  have:=hcell (t / 6) hj (t % 6) _ (List.getElem?_eq_getElem hq);rw[getElem!_pos (pZ xs[t / 6]) (t % 6) hq];grind [World.cell?]
 refine .inl ⟨⟨_,func212,by kernel_rfl,by kernel_rfl⟩,?_⟩;have hq:=AnyQ.slices_SortFunc Tryz.Kk 6 Tryz.isAgg218 Tryz.sizeOf218 pZ vl RB cfF U4 213 #[] b base cap xs.toArray w (enters_of func213 (by kernel_rfl) rfl)
  (λm os dk hs x y=>P5 (sF x) (sF y) (acH _ (by decide)) (acH _ (by decide)) _ _ _ _ _ _ _ _ _ _ _) hH (Array.getElem?_eq_some_iff.1 m2).1 (by grind)
 refine hq.mono λe w' ⟨he,d',n,os,⟨p1,p2,p3⟩,p4,hw⟩=>?_
 have hp:d'.toList.Perm xs:=by
  grind [Array.extract_size]
 have hll:=hp.length_eq;have hok: ∀x∈d'.toList,RT x:=λx hx=>hm x (hp.subset hx)
 unfold sortWorldK putRowK at hw;obtain⟨s1,s2⟩:=hst.Cs (fl:=flatK pZ 6 d') (n:=n) (os:=os) (ys:=d'.toList.map fW) (k:=6) hid m1 hsz (by simp_all) (by simp_all) λi y hy=>by
  rw[List.getElem?_map]at hy;obtain⟨x,hx,rfl⟩:=Option.map_eq_some_iff.1 hy;have hil:=(acf.1 hx).1;refine⟨pZ x,UD (hok x (ach hx)),rfl,⟨rfl,by kernel_rfl⟩,λj c hc=>?_⟩;have hj:=(acf.1 hc).1;rw[vl]at hj;have hdl:i<d'.size:=by omega
  have hlt:i*6+j<(flatK pZ 6 d').size:=by rw[size_flatK];omega
  rw[Array.getElem?_eq_getElem hlt,<-getElem!_pos (flatK pZ 6 d') (i*6+j) hlt,get_flatK _ _ _ _ (by omega),show(i*6+j) / 6=i by omega,show(i*6+j) % 6=j by omega,getElem!_pos d' i hdl];simp_all
 subst hw;refine⟨_,.tup [],_,C,he,⟨d'.toList,hp,?_,rfl⟩,s2,.tup rfl (λi a v h=>by simp at h),s1⟩;rw[List.pairwise_iff_getElem];intro i j hi hj hij;have hi':i<d'.size:=by omega
 have hj':j<d'.size:=by omega
 have h4:=p4 i j (acq _) hij (by omega);rw[getElem!_pos d' i hi',getElem!_pos d' j hj',VU (hok _ (acs hj')) (hok _ (acs hi'))]at h4;simp_all
theorem DA :ai prog W0 212 [.aq,.fn 213 []] (.tup []):=by
 refine jh func212 (by kernel_rfl) (by kernel_rfl) λw C vs hb hlow hvl hv=>?_
 obtain _|⟨v1,_|⟨v2,_|⟨_,_⟩⟩⟩:=vs<;>simp at hvl
 have h1:=(hv 0 _ _ rfl rfl).aG rfl;cases h1;refine(AnyF.slices_SortFunc_none Tryz.Kk none 0 v2 w).mono λe w' ⟨he,hw⟩=>?_
 subst hw;exact⟨_,he,.tup rfl (λi a v h=>by simp at h),RowKit.Below.refl _ _⟩
end Go.Proofs.Tryz
end
