/- What the last text of this claim rests on. No conditions. -/
import Derived.Test.YtbkobngljnnmgaaGreatDoorWad
import Derived.Test.YtbkobngljnnmgaaGreatDoorWal
import Derived.Test.YtbkobngljnnmgaaGreatDoorWas
import Derived.Test.YtbkobngljnnmgaaGreatDoorWaw
import Derived.Test.YtbkobngljnnmgaaGreatDoorWay
import Derived.Test.YtbkobngljnnmgaaGreatDoorWba
import Derived.Test.YtbkobngljnnmgaaGreatDoorWbc
import Derived.Test.YtbkobngljnnmgaaGreatDoorWbd
set_option linter.unusedSimpArgs false
set_option linter.unusedVariables false
open List renaming getElem?_eq_some_iff->acf,length_map->acg,take_of_length_le->ach,getElem?_map->aci,mem_of_getElem?->acm,getElem?_append_left->acn,length_append->aco,getElem?_set_self->acp,mem_singleton->acr,map_append->acs,take_length->acu,length_nil->acv,length_take->acw,mem_append->acy,append_nil->acz,getElem?_set_ne->acA,mem_map->acB,foldl_append->acC,getElem?_eq_getElem->acD,append_assoc->acF,length_filter_le->acG,length_cons->acH,getElem_toArray->acI,mem_append_left->acJ,length_pos_iff->acK,mem_cons_self->acM,find?_eq_none->acN,getElem?_zip_eq_some->acO,mem_flatMap->acR,length_set->acU,length_mergeSort->acV,mem_append_right->acW,mem_of_mem_take->ac0,getElem_of_mem->ac2,mergeSort_perm->ac3,flatMap_append->ac4,flatMap_cons->ac9,all_eq_false->ada,filter_cons->adb,flatMap_nil->ade,all_eq_true->adf,mem_filter->adg
open Nat renaming zero_le->acj,zero_add->acE,add_zero->acL,le_refl->acP,or_lt_two_pow->acQ,mul_one->acX,pow_le_pow_right->acY,mul_le_mul->acZ,lt_of_le_of_lt->ac5,zero_mul->ac7,le_trans->ac8,and_le_left->adj
open Option renaming getD_some->ack,isSome_some->acq,map_eq_some_iff->acS
open BitVec renaming toNat_ofInt->acx,toNat_or->adh
open Bool renaming eq_iff_iff->acT,or_eq_false_iff->ac1,false_ne_true->ac6
open UInt8 renaming toNat_inj->adi
open List.Perm renaming length_eq->adk
section
namespace Go.Av
open Go Go.Sort Go.Proofs
section
variable {P :Program}{W0 w:World}{C:Ctx}{σ:ab}
theorem row_one {α:Type} [Inhabited α] {av:α->AV}{enc:α->Value}{te:TypeId}(hsz:af P te=1)(ho: ∀x cs,Rel P w C (av x) cs->cs=[enc x])(hst:aE P W0 w C σ){id n:Nat}{xs:List α}(hid:σ[id]?=some (some (.cells te (xs.map av)))){v:Value}(h1:Rel P w C (.row te id 0 n) [v])(hn:n=xs.length)(h0:xs≠[]):
  ∃b base room cap,C.m id=some (.obj b te base room)/\v= .slice (some ⟨b,base,none⟩) xs.length cap/\xs.length<=cap/\cap<=maxLen/\base+cap=room/\b<w.heap.size/\Holds enc w b base xs.toArray/\ ∀x∈xs,Rel P w C (av x) [enc x]/\fits P te (av x):=by
 obtain⟨b,base,room,arr,t',fr,m1,m2,mf,m3,m4,cf,m5⟩:=hst.cells hid;have hpos:0<xs.length:=acK.2 h0;rw[hsz,acg,acX]at m4;subst hn;cases h1 with
 |row hn hc hi hoo=>
 rename_i a cap;obtain⟨b',base',room',e1,e2,e3⟩:=hoo _ m1;cases e1;have e4:=e2 (by omega);subst e4;rw[hsz,ac7,acL];rw[hsz,acE,acX]at e3;have hx: ∀(j:Nat) (x:α),xs[j]?=some x->Rel P w C (av x) [enc x]/\fits P te (av x)/\arr[base+j]?=some (enc x):=λj x hj=>by
  have hj2:(xs.map av)[j]?=some (av x):=by rw[aci,hj];rfl
  obtain⟨r1,r2,r3,r4⟩:=m5 j _ hj2;have e:=ho _ _ r1;rw[e]at r1 r4;have:=r4 0 _ rfl;rw[hsz,acX,acL]at this;exact⟨r1,r3,this⟩
 refine⟨b,base,room,cap,m1,rfl,hn,hc,e3,(Array.getElem?_eq_some_iff.1 m2).1,λj hj=>?_,λx hx2=>?_⟩
 .have hj':j<xs.length:=by simpa using hj
  obtain⟨x,hxj⟩:=get_some hj';obtain⟨_,_,h3⟩:=hx j x hxj;refine⟨?_,rN (n:=0) m2 mf (by omega)⟩;have e:xs.toArray[j]! =x:=by
   rw[getElem!_pos xs.toArray j hj,acI];exact(acf.1 hxj).2
  rw[e];grind [World.cell?]
 .obtain⟨j,hj,rfl⟩:=ac2 hx2;have:=hx j _ (acD hj);exact⟨this.1,this.2.1⟩
theorem CN {α:Type} [Inhabited α] {av:α->AV}{enc:α->Value}{te:TypeId}(hsz:af P te=1)(hst:aE P W0 w C σ){id:Nat}{xs ys:List α}(hid:σ[id]?=some (some (.cells te (xs.map av)))){b base room:Nat}(n:Nat)(os:Array Obj)(hm:C.m id=some (.obj b te base room))(hl:ys.length=xs.length)(hr: ∀y∈ys,Rel P w C (av y) [enc y]/\fits P te (av y)):
  Step w C (grow (putRow enc (Sort.ahead w n) b base ys.toArray) os) C/\aE P W0 (grow (putRow enc (Sort.ahead w n) b base ys.toArray) os) C (σ.set id (some (.cells te (ys.map av)))):=by
 rw[wE];refine hst.Cs (fl:=ys.toArray.map enc) (n:=n) (os:=os) (ys:=ys.map av) (k:=1) hid hm hsz (by simp[hl]) (by simp[hl]) λi y hy=>?_
 rw[aci]at hy;obtain⟨x,hx,rfl⟩:=acS.1 hy;obtain⟨r1,r2⟩:=hr x (acm hx);refine⟨[enc x],r1,rfl,r2,λj c hc=>?_⟩;obtain _|j:=j
 .cases hc;simp[hx]
 .cases hc
theorem Ad (w:World):grow w #[]=w:=by
 unfold grow;simp
theorem K5 {x:List UInt8}{cs:List Value}(h:Rel P w C (.str x) cs):cs=[encStr x]:=by cases h;rfl
theorem Kh {x:Int}{cs:List Value}(h:Rel P w C (.int .i64 x) cs):cs=[.int .i64 x]:=by cases h;rfl
end
end Go.Av
end
section
namespace Go.Proofs.Tryz
open Go Go.Av Go.Sort Go.Proofs
set_option maxRecDepth 100000
set_option maxHeartbeats 1000000
variable {W0 :World}
theorem xW (σ:ab)(id:Nat)(xs:List (List UInt8))(hid:σ[id]?=some (some (.cells 9 (xs.map (.str)))))(h0:xs≠[])(hx:xs.length<=1000000):
  aP prog W0 216 [.row 9 id 0 xs.length] σ λr σ'=>r= .tup []/\σ'=σ.set id (some (.cells 9 ((xs.mergeSort λx y=>decide (x<=y)).map (.str)))):=λw C vs hst hl hv=>by
 obtain _|⟨v1,_|⟨_,_⟩⟩:=vs<;>simp at hl
 have h1:=(hv 0 _ _ rfl rfl).aG rfl;obtain⟨b,base,room,cap,m1,rfl,c1,c2,c3,hb,hH,hr⟩:=row_one (enc:=encStr) (by kernel_rfl) (λx cs h=>K5 h) hst hid h1 rfl h0;refine .inl ⟨⟨_,func216,by kernel_rfl,by kernel_rfl⟩,?_⟩;refine(Any.slices_Sort_string Tryz.sortStr b base cap xs w hH hb (by omega)).mono λe w' ⟨he,n,os,hw⟩=>?_
 have hp:=ac3 xs λx y=>decide (x<=y)
 obtain⟨s1,s2⟩:=CN (enc:=encStr) (by kernel_rfl) hst hid n os m1 hp.length_eq λy hy=>hr y (hp.mem_iff.1 hy)
 subst hw;exact⟨_,.tup [],_,C,he,⟨rfl,rfl⟩,s2,.tup rfl (λi a v h=>by simp at h),s1⟩
theorem tC :ai prog W0 216 [.aq] (.tup []):=by
 refine jh func216 (by kernel_rfl) (by kernel_rfl) λw C vs hb hlow hvl hv=>?_
 obtain _|⟨v1,_|⟨_,_⟩⟩:=vs<;>simp at hvl
 have h1:=(hv 0 _ _ rfl rfl).aG rfl;cases h1;refine(Any.slices_Sort_string_none Tryz.sortStr none 0 w).mono λe w' ⟨he,hw⟩=>?_
 subst hw;exact⟨_,he,.tup rfl (λi a v h=>by simp at h),RowKit.Below.refl _ _⟩
theorem IK (σ:ab)(id:Nat)(xs:List (Int))(hid:σ[id]?=some (some (.cells 3 (xs.map (.int .i64)))))(h0:xs≠[])(hx:xs.length<=1000000):
  aP prog W0 270 [.row 3 id 0 xs.length] σ λr σ'=>r= .tup []/\σ'=σ.set id (some (.cells 3 ((xs.mergeSort λx y=>decide (x<=y)).map (.int .i64)))):=λw C vs hst hl hv=>by
 obtain _|⟨v1,_|⟨_,_⟩⟩:=vs<;>simp at hl
 have h1:=(hv 0 _ _ rfl rfl).aG rfl;obtain⟨b,base,room,cap,m1,rfl,c1,c2,c3,hb,hH,hr⟩:=row_one (enc:=Value.int .i64) (by kernel_rfl) (λx cs h=>Kh h) hst hid h1 rfl h0;refine .inl ⟨⟨_,func270,by kernel_rfl,by kernel_rfl⟩,?_⟩;refine(Any.slices_Sort_int Tryz.sortInt b base cap xs w hH hb (by omega)).mono λe w' ⟨he,n,os,hw⟩=>?_
 have hp:=ac3 xs λx y=>decide (x<=y)
 obtain⟨s1,s2⟩:=CN (enc:=Value.int .i64) (by kernel_rfl) hst hid n os m1 hp.length_eq λy hy=>hr y (hp.mem_iff.1 hy)
 subst hw;exact⟨_,.tup [],_,C,he,⟨rfl,rfl⟩,s2,.tup rfl (λi a v h=>by simp at h),s1⟩
theorem DL :ai prog W0 270 [.aq] (.tup []):=by
 refine jh func270 (by kernel_rfl) (by kernel_rfl) λw C vs hb hlow hvl hv=>?_
 obtain _|⟨v1,_|⟨_,_⟩⟩:=vs<;>simp at hvl
 have h1:=(hv 0 _ _ rfl rfl).aG rfl;cases h1;refine(Any.slices_Sort_int_none Tryz.sortInt none 0 w).mono λe w' ⟨he,hw⟩=>?_
 subst hw;exact⟨_,he,.tup rfl (λi a v h=>by simp at h),RowKit.Below.refl _ _⟩
theorem G4 (xs:List (List UInt8)):(Lib.compact xs).length<=xs.length:=by
 unfold Lib.compact Lib.compactUpTo;rw[acg];exact ac8 (acG _ _) (by simp)
theorem Hi (σ:ab)(id:Nat)(xs:List (List UInt8))(hid:σ[id]?=some (some (.cells 9 (xs.map .str))))(h0:xs≠[])(hx:xs.length<=1000000):
  aP prog W0 217 [.row 9 id 0 xs.length] σ λr σ'=>r= .row 9 id 0 (Lib.compact xs).length/\σ'=σ.set id (some (.cells 9 ((Lib.compact xs++List.replicate (xs.length-(Lib.compact xs).length) []).map .str))):=λw C vs hst hl hv=>by
 obtain _|⟨v1,_|⟨_,_⟩⟩:=vs<;>simp at hl
 have h1:=(hv 0 _ _ rfl rfl).aG rfl;obtain⟨b,base,room,cap,m1,rfl,c1,c2,c3,hb,hH,hr⟩:=row_one (enc:=encStr) (by kernel_rfl) (λx cs h=>K5 h) hst hid h1 rfl h0;refine .inl ⟨⟨_,func217,by kernel_rfl,by kernel_rfl⟩,?_⟩;refine(Any.slices_Compact_string Tryz.K0 b base cap xs w hH (by omega) c1).mono λe w' ⟨he,q,hw⟩=>?_
 have hle:=G4 xs;have hsz:af prog 9=1:=by kernel_rfl
 obtain⟨s1,s2⟩:=CN (enc:=encStr) (ys:=Lib.compact xs++List.replicate (xs.length-(Lib.compact xs).length) []) hsz hst hid q #[] m1 (by simp;omega) λy hy=>by
  rcases acy.1 hy with hy|hy
  .refine hr y ?_;unfold Lib.compact Lib.compactUpTo at hy;obtain⟨j,hj,rfl⟩:=acB.1 hy;have hj':j<xs.length:=by simpa using (adg.1 hj).1
   simp[getElem!_pos,hj']
  .rw[(List.mem_replicate.1 hy).2];exact⟨.str (by simp),⟨rfl,by kernel_rfl⟩⟩
 rw[Ad]at s1 s2;subst hw;have hil:id<C.nx:=by
  rw[hst.nx];exact(acf.1 hid).1
 refine⟨_,_,_,C,he,⟨rfl,rfl⟩,s2,.one rfl (.row (by omega) c2 hil λow how=>?_),s1⟩;rw[m1]at how;cases how;exact⟨b,base,room,rfl,λ_=>by rw[hsz,ac7,acL],by rw[hsz];omega⟩
theorem IE :ai prog W0 217 [.aq] .aq:=by
 refine jh func217 (by kernel_rfl) (by kernel_rfl) λw C vs hb hlow hvl hv=>?_
 obtain _|⟨v1,_|⟨_,_⟩⟩:=vs<;>simp at hvl
 have h1:=(hv 0 _ _ rfl rfl).aG rfl;cases h1;refine(Any.slices_Compact_string_empty Tryz.K0 none 0 w).mono λe w' ⟨he,hw⟩=>?_
 subst hw;exact⟨_,he,.one rfl .aq,RowKit.Below.refl _ _⟩
theorem Xa (l:List Int)(x:Int)(hs:l.Pairwise (· <= ·))(hl:l.length<=1048576):ai prog W0 271 [.sl 3 (l.map (.int .i64)),.int .i64 x] (.tup [.int .i64 (l.countP (· <x):Nat),.bool (l.contains x)]):=by
 refine nq func271 (by kernel_rfl) (by kernel_rfl) λw C vs hvl hv=>?_
 obtain _|⟨v1,_|⟨v2,_|⟨_,_⟩⟩⟩:=vs<;>simp at hvl
 have h1:=hv 0 _ _ rfl rfl;have h2:=(hv 1 _ _ rfl rfl).aG rfl;cases h2;have hr: ∀w C,aI prog w C (.tup [.int .i64 (l.countP (· <x):Nat),.bool (l.contains x)]) (.tuple #[.int .i64 (l.countP (· <x):Nat),.bool (l.contains x)]):=λw C=>by
  refine .tup (vs:=[_,_]) rfl λi a v ha hv=>?_
  match i,ha,hv with
  |0,ha,hv=>cases ha;cases hv;exact .one rfl (.int _ _)
  |1,ha,hv=>cases ha;cases hv;exact .one rfl (.bool _)
 obtain⟨ad,cap,cf,rfl,x1,x2,x3,x4,x5⟩:=(h1.aG rfl).nJ (e:=3) (xs:=l.map (.int .i64)) (.inl rfl);have hml:(l.map (AV.int .i64)).length=l.length:=acg ..;rw[hml]at x1 x5 ⊢;have hsz:af prog 3=1:=by kernel_rfl
 by_cases hl0:l=[]
 .subst hl0;exact(Any.slices_BinarySearch_int_empty Tryz.WO ad cap x w).mono λe w' ⟨he,hw⟩=>⟨_,he,hr,hw▸RowKit.Below.refl _ _⟩
 have hpos:0<l.length:=acK.2 hl0;obtain⟨b,o,rfl,hc⟩:=x5 hpos;have hcell: ∀j,j<l.length->w.cell? ⟨b,o+j,none⟩=some (.int .i64 (l.getD j 0)):=λj hj=>by
  obtain⟨y,hy⟩:=get_some hj;have hjs:(l.map (AV.int .i64))[j]?=some (.int .i64 y):=by rw[aci,hy];rfl
  have hcf:cf j=[.int .i64 y]:=Kh (x3 j _ hjs);have:=hc j hj 0 (.int .i64 y) (by rw[hcf];rfl);rw[hsz,acX,acL]at this;rw[this.1,List.getD_eq_getElem?_getD,hy];rfl
 have hj:=Any.slices_BinarySearch_int Tryz.WO b o l.length cap l x w (acP _) (by omega) hcell (by rw[acu];exact hs);rw[acu]at hj;refine hj.mono λe w' ⟨he,q,hw⟩=>⟨_,he,hr,?_⟩
 subst hw;exact⟨rfl,rfl,rfl,acP _,λ_ _=>rfl⟩
end Go.Proofs.Tryz
end
section
namespace Go.Proofs.Tryz
open Go Go.Av
set_option maxRecDepth 10000
set_option maxHeartbeats 1000000
variable {W0 :World}
def eH (m:Nat):AV:=.int .u64 (m:Nat)
def fx (l:List Nat):AV:=.sl 274 (l.map eH)
theorem KX {e:Nat}(he:e<=60):IntKind.u64.wrap ((2:Int)^e)=((2^e:Nat):Int):=by
 have h1:2^e<=2^60:=acY (by decide) he;have h2:(2:Int)^e=((2^e:Nat):Int):=by rw[Int.natCast_pow];rfl
 rw[h2,IntKind.wrap_u64];generalize 2^e=x at *;omega
theorem w8 (i:Nat)(w:Bool)(hi:i<=20):ai prog W0 218 [.int .i64 i,.bool w] (eH (mK i w)):=by
 refine an [4] [] func218 rfl rfl ntmps218 rfl rfl (.int _ _) λhs σ=>?_
 have h1:IntKind.i64.wrap (2*(i:Int))=((2*i:Nat):Int):=by rw[aJ (by omega)];omega
 have h2:IntKind.i64.wrap (((2*i:Nat):Int)+1)=((2*i+1:Nat):Int):=by rw[aJ (by omega)];omega
 have m1:min (2*i) 64=2*i:=by omega
 have m2:min (2*i+1) 64=2*i+1:=by omega
 simp only[go_sem,simprocAttr,h1,h2,Int.toNat_natCast,m1,m2,Int.one_mul,KX (show 2*i<=60 by omega),KX (show 2*i+1<=60 by omega)];refine⟨λh=>⟨by omega,?_⟩,λh=>⟨by omega,?_⟩⟩
 .rw[if_neg (by omega),h];exact .refl _
 .rw[if_neg (by omega),h];exact .refl _
theorem Mu (a b:Nat)(ha:a<2^60)(hb:b<2^60):bits .or .i64 (a:Int) (b:Int)=((a ||| b:Nat):Int):=by
 have h1:(BitVec.ofInt 64 (a:Int)).toNat=a:=by simp[acx];omega
 have h2:(BitVec.ofInt 64 (b:Int)).toNat=b:=by simp[acx];omega
 have h3:=acQ ha hb;show IntKind.i64.wrap ((BitVec.ofInt 64 (a:Int) ||| BitVec.ofInt 64 (b:Int)).toNat:Int)=_;rw[adh,h1,h2];exact aJ (by omega)
theorem Cn {a b e:Nat}(hb:b<2^e)(ha:a*2^e+b<2^60):bits .or .i64 ((a*2^e:Nat):Int) ((b:Nat):Int)=((a*2^e+b:Nat):Int):=by
 have h1:=Nat.two_pow_add_eq_or_of_lt hb a;rw[Nat.mul_comm]at h1;rw[h1];exact Mu _ _ (by omega) (by omega)
theorem qF (kind n:Nat)(pre:Bool)(i o:Nat)(hk:kind<=3)(hn:n<256)(hi:i<16)(ho:o<256):ai prog W0 309 [.int .i64 kind,.int .i64 n,.bool pre,.int .i64 i,.int .i64 o] (.int .i64 (Oz kind n pre i o:Nat)):=by
 refine an [10] [] func309 rfl rfl ntmps309 rfl rfl (.int _ _) λhs σ=>?_
 have w1:IntKind.i64.wrap ((kind:Int)*256)=((kind*2^8:Nat):Int):=by rw[aJ (by omega)];omega
 have o1:=Cn (a:=kind) (b:=n) (e:=8) (by omega) (by omega);obtain⟨a,ha⟩: ∃a,a=kind*2^8+n:=⟨_,rfl⟩;rw[<-ha]at o1;have hab:a<=1023:=by omega
 have w2:IntKind.i64.wrap ((a:Int)*2)=((a*2^1:Nat):Int):=by rw[aJ (by omega)];omega
 have o2:=Cn (a:=a) (b:=1) (e:=1) (by omega) (by omega);generalize hks:kind*2^8=ks at *;obtain⟨a2,ha2⟩: ∃a2,a2=a*2^1:=⟨_,rfl⟩;rw[<-ha2]at w2 o2;obtain⟨b,hb⟩: ∃b,b=a2+if pre=true then 1 else 0:=⟨_,rfl⟩;have hbl:b<=2047:=by rw[hb];split<;>omega
 have w3:IntKind.i64.wrap ((b:Int)*16)=((b*2^4:Nat):Int):=by rw[aJ (by omega)];omega
 have o3:=Cn (a:=b) (b:=i) (e:=4) (by omega) (by omega);obtain⟨c,hc⟩: ∃c,c=b*2^4+i:=⟨_,rfl⟩;rw[<-hc]at o3;have hcl:c<=32767:=by omega
 generalize hbs:b*2^4=bs at *;have w4:IntKind.i64.wrap ((c:Int)*256)=((c*2^8:Nat):Int):=by rw[aJ (by omega)];omega
 have o4:=Cn (a:=c) (b:=o) (e:=8) (by omega) (by omega);generalize hcs:c*2^8=cs at *;have hN:Oz kind n pre i o=cs+o:=by
  unfold Oz;cases pre<;>simp only[if_pos,if_neg,Bool.false_eq_true,if_false,if_true]at hb ⊢ <;>omega
 rw[hN];have m8:(2:Int)^min 8 64=256:=rfl;have m1:(2:Int)^min 1 64=2:=rfl;have m4:(2:Int)^min 4 64=16:=rfl;simp only[go_sem,simprocAttr];refine cc.at [3,4] (by kernel_rfl) (λA=>A.env 11= .int .i64 (b:Nat)/\A.st=σ) (λh=>?_) (λh=>?_) λB ⟨h11,hst⟩=>?_
 .simp only[go_sem,simprocAttr];rw[hb,if_pos h,m8,m1,w1,o1,w2];exact congrArg _ o2
 .simp only[go_sem,simprocAttr];rw[hb,if_neg (by rw[h];simp),m8,m1,w1,o1,w2];rfl
 simp only[go_sem,simprocAttr,h11];rw[m8,m4,w3,o3,w4,o4];exact⟨.refl _,by rw[hst,acu]⟩
theorem wH {k:List UInt8}{i:Nat}{c:UInt8}(h:k[i]?=some c):jd (k.take (i+1))=jd (k.take i)+if c=0 then 0 else 1:=by
 unfold jd;rw[ah h,List.filter_append,aco,adb,List.filter_nil];by_cases hc:c=0<;>simp[hc]
theorem R9 (k:List UInt8)(hk:k.length<=20):ai prog W0 223 [.str k] (.int .i64 (jd k:Nat)):=by
 refine jA [2] [5000007] func223 rfl rfl ntmps223 rfl rfl (.int _ _) λhs σ=>?_
 simp only[go_sem,simprocAttr];refine lK.bytes (e:=5) ⟨by kernel_rfl,by kernel_rfl,by kernel_rfl,by kernel_rfl,by kernel_rfl⟩ ?_;have hid:(σ++[some (bH.cells 5 (k.map ba))])[σ.length]?=some (some (.cells 5 (k.map ba))):=by simp
 simp only[go_sem,simprocAttr];refine ae.at [] (λA=>A.env 3= .int .i64 (jd k:Nat)/\A.st=σ++[some (.cells 5 (k.map ba))]) ?_ λB ⟨h3,hst⟩=>?_
 .refine ae.upto [7,8] k.length (λi A=>A.env 9= .int .i64 i/\A.env 3= .int .i64 (jd (k.take i):Nat)/\A.st=σ++[some (.cells 5 (k.map ba))]) 0 (acj _) ?_ λi B hi ⟨h9,h3,hst⟩=>?_
  .simp only[go_sem,simprocAttr];rfl
  simp only[go_sem,simprocAttr,h9,h3];refine⟨λhc=>?_,λhc=>?_⟩
  .obtain⟨c,hci⟩:=get_some hc;have hg:((k.map ba)[0+i]?.bind λx=>some x)=some (.int .u8 (c.toNat:Nat)):=by
    rw[acE,aci,hci];rfl
   have hcl:jd (k.take i)<=i:=by
    have h1:=acG (· !=0) (k.take i);rw[acw]at h1;unfold jd;omega
   have hin:AV.int .i64 (IntKind.i64.wrap ((i:Int)+1))= .int .i64 (i+1:Nat):=ag hc (by rw[au];omega);have hz:((c.toNat:Nat):Int)=0↔c=0:=by
    rw[Int.natCast_eq_zero];exact⟨λh=>adi.1 h,λh=>by rw[h];rfl⟩
   simp only[go_sem,simprocAttr,h9,h3,hst,ak hid,aO hid,hg,ack,acq,hz];refine⟨hc,λh=>⟨hc,hin,?_⟩,λh=>⟨hc,hin,?_⟩⟩
   .rw[wH hci,if_neg h,aJ (by omega)];rfl
   .rw[wH hci,if_pos h];rfl
  .exact⟨by rw[ach hc],hst⟩
 simp only[go_sem,simprocAttr,h3];refine bu.ret ?_;simp only[go_sem,simprocAttr,hst]
theorem uH (t:List Pkg)(n:List UInt8):ai prog W0 158 [aL t,.str n] (.tup [ay ((ja t n).getD xl),.bool (ja t n).isSome]):=by
 refine mg [.cell 4 51,.tmp 5] [7] func158 rfl rfl ntmps158 rfl rfl (.qT (rj _) (.bool _)) λhs σ=>?_
 have hl:=(aQ (hs _ (acM ..))).1;simp only[go_sem,simprocAttr,aL,acg];obtain⟨z,hz⟩: ∃z:Option bH,z=some (.cells 51 [.agg 51 [.str [],.str [],.aq,.aq,.aq,.aq,.aq,.aq,.bool false]]):=⟨_,rfl⟩;rw[<-hz];have hz0:(σ++[z])[σ.length]?=some z:=by simp
 refine ae.at [4] (λA=>A.st[σ.length]?=some z/\Ext (σ++[z]) A.st/\ja t n=none) ?_ λB ⟨h4,hst,hn⟩=>?_
 .refine ae.upto [1,4,8,9] t.length (λi A=>A.env 10= .int .i64 i/\Ext (σ++[z]) A.st/\ ∀q∈t.take i,(q.name==n)=false) 0 (acj _) ?_ λi B hi ⟨h10,hst,hI⟩=>?_
  .simp only[go_sem,simprocAttr];exact⟨.refl _,by simp⟩
  simp only[go_sem,simprocAttr,h10,acg];refine⟨λhc=>⟨hc,?_⟩,λhc=>?_⟩
  .obtain⟨p,hp⟩:=get_some hc;simp only[aw hp];have hid2:(B.st++[none])[σ.length]?=some z:=Ext.keep (hst.app [none]) hz0;have hxt:Ext σ (B.st++[none]):=Ext.low (hst.app [none]);rw[hz]at hid2;simp only[go_sem,simprocAttr,h10,ay,ak hid2,aC hid2];refine⟨λh=>?_,λh=>?_⟩
   .have hf:ja t n=some p:=js hp (by simp[h]) hI;rw[hf];have hid3:((B.st++[none]).set σ.length (some (.cells 51 [.agg 51 [.str p.name,.str p.ver,aB p.pre,aB p.dep,aB p.rcm,aF p.con,aF p.brk,cy p.eI,.bool p.ess]])))[σ.length]?=some (some (.cells 51 [.agg 51 [.str p.name,.str p.ver,aB p.pre,aB p.dep,aB p.rcm,aF p.con,aF p.brk,cy p.eI,.bool p.ess]])):=acp (acf.1 hid2).1;simp only[go_sem,simprocAttr,ak hid3];exact hxt.set (acP _) _
   .refine⟨hc,ag hc hl,hst.app _,λq hq=>?_⟩;rw[ah hp]at hq;rcases acy.1 hq with hq|hq
    .simpa using hI q hq
    .rw[acr.1 hq];exact h
  .rw[ach hc]at hI;exact⟨Ext.keep hst hz0,hst,acN.2 λq hq=>by rw[hI q hq];simp⟩
 have hxt:Ext σ B.st:=Ext.low hst;rw[hz]at h4;have hid3:(B.st.set σ.length (some (.cells 51 [.agg 51 [.str [],.str [],.aq,.aq,.aq,.aq,.aq,.aq,.bool false]])))[σ.length]?=some (some (.cells 51 [.agg 51 [.str [],.str [],.aq,.aq,.aq,.aq,.aq,.aq,.bool false]])):=acp (acf.1 h4).1;simp only[go_sem,simprocAttr,ak h4,aC h4,ak hid3];rw[hn];refine⟨dh ?_ (.refl _),hxt.set (acP _) _⟩;exact .sub (.agg rfl λi a b ha hb=>by
  match i,ha,hb with
  |0,ha,hb|1,ha,hb|8,ha,hb=>cases ha;cases hb;exact .refl _
  |2,ha,hb|3,ha,hb|4,ha,hb|5,ha,hb|6,ha,hb|7,ha,hb=>cases ha;cases hb;exact .aq _)
def cm (f:j6):AV:=.agg 278 [.bool f.ess,fx f.pre,fx f.dep,fx f.con,fx f.brk]
def kN (n:bE):AV:=.agg 280 [.str n.name,cm n.old,cm n.new,.bool n.wanted,.str n.ver,.bool n.same,.bool n.kF]
def gj (n:bE)(kind:Nat)(c:UInt8):Int:=match fJ n kind c with|some d=>d.toNat|none=>-1
theorem ik (c m:UInt8):(((c.toNat:Nat):Int)==((m.toNat:Nat):Int))=decide (c=m):=by
 rw[acT,beq_iff_eq,decide_eq_true_eq,Int.natCast_inj];exact adi
theorem Oc (n:bE)(kind:Nat)(c:UInt8)(hk:1<=kind/\kind<=4):ai prog W0 222 [kN n,.int .i64 kind,.int .u8 (c.toNat:Nat)] (.int .i64 (gj n kind c)):=by
 refine an [6] [3] func222 rfl rfl ntmps222 rfl rfl (.int _ _) λhs σ=>?_
 have q0:(((c.toNat:Nat):Int)==0)=decide (c=0):=ik c 0;have q1:(((c.toNat:Nat):Int)==1)=decide (c=1):=ik c 1;have q2:(((c.toNat:Nat):Int)==2)=decide (c=2):=ik c 2;have q3:(((c.toNat:Nat):Int)==3)=decide (c=3):=ik c 3;have q4:(((c.toNat:Nat):Int)==4)=decide (c=4):=ik c 4;simp only[go_sem,simprocAttr,kN,q0,q1,q2,q3,q4];refine⟨λk1=>⟨λh=>az ?_,λh=>az ?_⟩,λk1=>⟨λk4=>⟨λh=>az ?_,λh=>az ?_⟩,λk4=>⟨λk2=>?_,λk2=>⟨λk3=>⟨λh=>az ?_,λh=>az ?_⟩,λk3=>az ?_⟩⟩⟩⟩
 .have e1:kind=1:=by omega
  have hc:c=2\/c=4:=by simpa using h
  unfold gj fJ;rw[if_pos e1,if_pos hc];rcases hc with rfl|rfl<;>rfl
 .have e1:kind=1:=by omega
  have hc: ¬(c=2\/c=4):=by simpa using h
  unfold gj fJ;rw[if_pos e1,if_neg hc]
 .have e1:kind=4:=by omega
  have hc:c=1\/c=3:=by simpa using h
  unfold gj fJ;rw[if_neg (by omega),if_pos e1,if_pos hc];rcases hc with rfl|rfl<;>rfl
 .have e1:kind=4:=by omega
  have hc: ¬(c=1\/c=3):=by simpa using h
  unfold gj fJ;rw[if_neg (by omega),if_pos e1,if_neg hc]
 .have e1:kind=2:=by omega
  obtain⟨f,hf⟩: ∃f,f=if 3<=c.toNat then n.new else n.old:=⟨_,rfl⟩;have hid: ∀g:j6,(σ++[some (bH.cells 278 [cm g])])[σ.length]?=some (some (.cells 278 [cm g])):=λg=>by simp
  have ho: ∀g:j6,unm (cm g)=cm g:=λg=>rfl
  have hfit: ∀g:j6,bb prog 278 (cm g)=true:=λg=>by kernel_rfl
  rw[ho];refine⟨trivial,hfit _,?_⟩;refine cc.at [2,7] (by kernel_rfl) (λA=>A.st=σ++[some (.cells 278 [cm f])]) (λh=>?_) (λh=>?_) λB hst=>?_
  .have hb:=hid n.old;have h3:3<=c.toNat:=by simp only[decide_eq_true_eq]at h;omega
   rw[if_pos h3]at hf;unfold cm at hb;simp only[go_sem,simprocAttr,kN,cm,ak hb,aO hb,aC hb];rw[hf]
  .have h3: ¬3<=c.toNat:=by simp only[decide_eq_false_iff_not]at h;omega
   rw[if_neg h3]at hf;simp only[go_sem,simprocAttr];rw[hf]
  have hb:=hid f;unfold cm at hb;have hat:(cm f).at [0]=some (.bool f.ess):=rfl;have qn:(((c.toNat:Nat):Int) !=0)= !decide (c=0):=by rw[bne,q0]
  have qe:(((c.toNat:Nat):Int)=0)=(c=0):=propext ⟨λh=>by simpa[q0]using beq_iff_eq.2 h,λh=>by rw[h];rfl⟩;simp only[go_sem,simprocAttr,hst,ak hb,aO hb,hat,qn,qe,ack,acq];have ht:gj n kind c=if c≠0/\f.ess=false then 0 else-1:=by
   unfold gj fJ;rw[if_neg (by omega),if_neg (by omega),if_pos e1,<-hf];by_cases hc:c≠0/\f.ess=false
   .rw[if_pos hc,if_pos hc];rfl
   .rw[if_neg hc,if_neg hc]
  rw[ht];refine⟨λh=>az ?_,λh=>az ?_⟩
  .rw[if_pos (by simpa using h)]
  .rw[if_neg (λhc=>by simp[hc]at h)]
 .have hc:n.wanted=true/\(c=0\/((c=1\/c=2)/\n.same=false)):=by simpa using h
  unfold gj fJ;rw[if_neg (by omega),if_neg (by omega),if_neg (by omega),if_pos hc];rfl
 .have hc: ¬(n.wanted=true/\(c=0\/((c=1\/c=2)/\n.same=false))):=λhc=>by
   have:(n.wanted&&(decide (c=0)||(decide (c=1)||decide (c=2))&& !n.same))=true:=by simpa using hc
   rw[this]at h;cases h
  unfold gj fJ;rw[if_neg (by omega),if_neg (by omega),if_neg (by omega),if_neg hc]
 .omega
end Go.Proofs.Tryz
end
section
namespace Go.Av
open Go
theorem dw.refl {σ:ab}{x:AV}{e:TypeId}{xs:List AV}(h:iR σ x e xs):dw σ x e xs x σ:=⟨h,Fr.refl _ _,λj hj=>.inl hj⟩
theorem dw.step {σ τ υ:ab}{x v u:AV}{e:TypeId}{xs zs:List AV}(h:dw σ x e xs v τ)(h':dw τ v e zs u υ):dw σ x e zs u υ:=by
 have hl:=h.fr.len;refine⟨h'.row,⟨ac8 hl h'.fr.len,λj hj hF=>?_⟩,λj hj=>?_⟩
 .rw[h'.fr.old j (by omega) λhv=>?_,h.fr.old j hj hF];rcases h.aN j hv with g|g
  .exact hF g
  .omega
 .rcases h'.aN j hj with g|g
  .exact h.aN j g
  .exact .inr (by omega)
theorem iR.more {σ:ab}{x:AV}{e:TypeId}{xs:List AV}(h:iR σ x e xs)(l:ab):iR (σ++l) x e xs:=h.keep λj hj=>by
 refine acn ?_;rcases h with⟨rfl,_⟩|⟨id,rfl,h,_⟩
 .simp[aN]at hj
 .have:=(acf.1 h).1;grind [aN]
theorem dw.more {σ τ:ab}{x v:AV}{e:TypeId}{xs:List AV}(h:dw σ x e xs v τ)(l:ab):dw σ x e xs v (τ++l):=
 ⟨h.row.more l,h.fr.app l,h.aN⟩
theorem dw.ob {σ τ:ab}{x v:AV}{e te:TypeId}{xs zs ys:List AV}(hx:iR σ x e zs)(h:dw σ x e xs v τ){id:Nat}(hid:σ[id]?=some (some (.cells te ys)))(hne:te≠e):τ[id]?=some (some (.cells te ys)):=by
 rw[h.fr.old id (acf.1 hid).1 λhF=>?_,hid];rcases hx with⟨rfl,_⟩|⟨idx,rfl,h2,_⟩
 .cases hF
 .simp only[Av.aN,acr]at hF;subst hF;rw[hid]at h2;cases h2;exact hne rfl
theorem Bg {a b:Nat}(ha:a<2^60)(hb:b<2^60):bits .or .u64 (a:Int) (b:Int)=((a ||| b:Nat):Int):=by
 have h1:(BitVec.ofInt 64 (a:Int)).toNat=a:=by simp[acx];omega
 have h2:(BitVec.ofInt 64 (b:Int)).toNat=b:=by simp[acx];omega
 have h3:=acQ ha hb;show IntKind.u64.wrap ((BitVec.ofInt 64 (a:Int) ||| BitVec.ofInt 64 (b:Int)).toNat:Int)=_;rw[adh,h1,h2,IntKind.wrap_u64];generalize a ||| b=x at *
 omega
theorem CK {a b:Nat}(ha:a<2^60)(hb:b<2^60):bits .and .u64 (a:Int) (b:Int)=((a &&& b:Nat):Int):=by
 have h1:(BitVec.ofInt 64 (a:Int)).toNat=a:=by simp[acx];omega
 have h2:(BitVec.ofInt 64 (b:Int)).toNat=b:=by simp[acx];omega
 have h3:a &&& b<2^60:=ac5 adj ha;show IntKind.u64.wrap ((BitVec.ofInt 64 (a:Int) &&& BitVec.ofInt 64 (b:Int)).toNat:Int)=_;rw[BitVec.toNat_and,h1,h2,IntKind.wrap_u64];generalize a &&& b=x at *;omega
end Go.Av
end
section
namespace Go.Proofs.Tryz
open Go Go.Av
set_option maxRecDepth 10000
set_option maxHeartbeats 1000000
variable {W0 :World}
theorem Wt (k:List UInt8)(hk:k.length<=20):ai prog W0 267 [.str k] (.tup [eH (gQ k),eH (onK k)]):=by
 refine jA [2,3] [5000008] func267 rfl rfl ntmps267 rfl rfl (.qT (.int _ _) (.int _ _)) λhs σ=>?_
 simp only[go_sem,simprocAttr];refine lK.bytes (e:=5) ⟨by kernel_rfl,by kernel_rfl,by kernel_rfl,by kernel_rfl,by kernel_rfl⟩ ?_;have hid:(σ++[some (bH.cells 5 (k.map ba))])[σ.length]?=some (some (.cells 5 (k.map ba))):=by simp
 simp only[go_sem,simprocAttr];refine ae.at [] (λA=>A.env 2=eH (gQ k)/\A.env 3=eH (onK k)/\A.st=σ++[some (.cells 5 (k.map ba))]) ?_ λB ⟨h2,h3,hst⟩=>?_
 .refine ae.upto [8,9] k.length (λi A=>A.env 10= .int .i64 i/\A.env 2=eH (gQ (k.take i))/\A.env 3=eH (onK (k.take i))/\A.st=σ++[some (.cells 5 (k.map ba))]) 0 (acj _) ?_ λi B hi ⟨h10,h2,h3,hst⟩=>?_
  .simp only[go_sem,simprocAttr];exact⟨rfl,rfl⟩
  simp only[go_sem,simprocAttr,h10,h2,h3];refine⟨λhc=>?_,λhc=>?_⟩
  .obtain⟨c,hci⟩:=get_some hc;have hg:((k.map ba)[0+i]?.bind λx=>some x)=some (.int .u8 (c.toNat:Nat)):=by
    rw[acE,aci,hci];rfl
   have hin:AV.int .i64 (IntKind.i64.wrap ((i:Int)+1))= .int .i64 (i+1:Nat):=ag hc (by rw[au];omega);have q0:(((c.toNat:Nat):Int)==0)=decide (c=0):=ik c 0;have q2:(((c.toNat:Nat):Int)==2)=decide (c=2):=ik c 2;have q4:(((c.toNat:Nat):Int)==4)=decide (c=4):=ik c 4;simp only[go_sem,simprocAttr,h10,h2,h3,hst,ak hid,aO hid,hg,ack,acq,q0,q2,q4];have g1:gQ (k.take i)<2^60:=AO (by rw[acw];omega);have g2:onK (k.take i)<2^60:=Qb (by rw[acw];omega);have g3:mK i (decide (3<=c.toNat))<2^60:=nb (by omega);have q3:decide (3<=((c.toNat:Nat):Int))=decide (3<=c.toNat):=decide_eq_decide.2 (by omega);have o1:=Bg g1 g3;have o2:=Bg g2 g3;have t1:=Gy hci;have t2:=Tf hci;refine⟨hc,λh0=>⟨hc,hin,?_,?_⟩,λh0=>?_⟩
   .rw[t1,if_pos h0]
   .rw[t2,if_neg (by rw[h0];decide)]
   rw[q3];refine aj.fn (w8 i (decide (3<=c.toNat)) (by omega)) ?_;rw[if_neg h0]at t1;unfold eH at h2 h3;simp only[go_sem,simprocAttr,eH,h10,h2,h3,o1,o2,q2,q4];refine⟨λh24=>⟨hc,hin,?_,?_⟩,λh24=>⟨hc,hin,?_,?_⟩⟩
   .rw[t1]
   .rw[t2,if_pos (by simpa using h24)];exact⟨rfl,hst⟩
   .rw[t1]
   .rw[t2,if_neg (by simpa using h24)];exact⟨rfl,hst⟩
  .exact⟨by rw[ach hc],by rw[ach hc],hst⟩
 simp only[go_sem,simprocAttr,h2,h3];refine bu.ret ?_;simp only[go_sem,simprocAttr,hst]
def ff (l:List Int):List AV:=l.map (.int .i64)
def eG (l:List Nat):List Int:=l.map λn:Nat=>(n:Int)
theorem Es (σ:ab)(x:AV)(out:List Int)(n:Nat)(pre:Bool)(l:List Nat)(on:Nat)(hn:n<256)(hl:l.length<=12)(hb: ∀m∈l,m<2^60)(hon:on<2^60)(hx:iR σ x 3 (ff out))(ho:out.length<=100000):
  aP prog W0 268 [x,.int .i64 n,.bool pre,fx l,eH on] σ λr σ'=>dw σ x 3 (ff (out++eG (fmI (gp n pre on) 0 l))) r σ':=by
 refine bY [10] [] func268 rfl rfl ntmps268 rfl rfl λhs=>?_
 have hok:=hx.v.st.ok;have hun:=hx.v.st.un;simp only[go_sem,simprocAttr,fx,acg];refine ae.at [] (λA=>∃ v,A.env 0=v/\dw σ x 3 (ff (out++eG (fmI (gp n pre on) 0 l))) v A.st) ?_ λB ⟨v,h0,hA⟩=>?_
 .refine ae.upto [1,2,4,13,14] l.length (λi A=>∃ v,A.env 15= .int .i64 i/\A.env 0=v/\dw σ x 3 (ff (out++eG (fmI (gp n pre on) 0 (l.take i)))) v A.st) 0 (acj _) ?_ λi B hi ⟨v,h15,h0,hA⟩=>?_
  .simp only[go_sem,simprocAttr];refine⟨x,rfl,?_⟩;have e:out++eG (fmI (gp n pre on) 0 (l.take 0))=out:=by simp[fmI,eG]
   rw[e];exact dw.refl hx
  simp only[go_sem,simprocAttr,h15,h0,acg];refine⟨λhc=>⟨hc,?_⟩,λhc=>?_⟩
  .obtain⟨m,hm⟩:=get_some hc;simp only[aw hm];have hm60:=hb m (acm hm);have hin:AV.int .i64 (IntKind.i64.wrap ((i:Int)+1))= .int .i64 (i+1:Nat):=ag hc (by rw[au];omega);have e1:fmI (gp n pre on) 0 (l.take (i+1))=fmI (gp n pre on) 0 (l.take i)++gp n pre on i m:=cZ hm;have hzz:(((m &&& on:Nat):Int)==0)=decide (m &&& on=0):=by rw[acT,beq_iff_eq,decide_eq_true_eq];omega
   have hlen:(fmI (gp n pre on) 0 (l.take i)).length<=12:=by
    have:=l9 (n:=n) (pre:=pre) (on:=on) (l:=l.take i);rw[acw]at this;omega
   simp only[go_sem,simprocAttr,h15,h0,eH,CK hm60 hon,hzz];refine⟨λhz=>?_,λhz=>⟨hc,v,hin,rfl,?_⟩⟩
   .refine aj.fn (qF 1 n pre i 0 (by omega) hn (by omega) (by omega)) ?_;simp only[go_sem,simprocAttr,h15,h0,hA.row.v.st.ok,hA.row.v.st.un];refine bq.yj (by simp only[go_sem,simprocAttr]) 1048576 (by kernel_rfl) hA.row.v (.lit _ _ _) (by simp) (by simp[ff,eG];omega) λv' σ' ha=>?_
    simp only[go_sem,simprocAttr,h15,ha.row.v.st.ok,ha.row.v.st.un];refine⟨hc,v',hin,rfl,?_⟩;rw[e1,gp,if_pos hz];have:=hA.step ha;simpa[ff,eG]using this
   .rw[e1,gp,if_neg hz,acz];exact hA
  .rw[ach hc]at hA;exact⟨v,rfl,hA⟩
 have hok2:=hA.row.v.st.ok;have hun2:=hA.row.v.st.un;simp only[go_sem,simprocAttr,h0,hok2,hun2];refine bu.ret ?_;simp only[go_sem,simprocAttr,hok2,hun2];exact⟨v,.refl _,hA.fr.len,hA⟩
def stO (nv km:AV):List AV->Option bH
 |[a,b,c]=>some (.cells 228 [.agg 228 [nv,km,a,b,c]])
 |_=>none
def lM (ns:List bE):AV:=.sl 280 (ns.map kN)
theorem vA (σ:ab)(id:Nat)(ns:List bE)(km a b c:AV)(x:AV)(out:List Int)(kind n:Nat)(l:List Nat)(there:Nat)(hob:σ[id]?=some (stO (lM ns) km [a,b,c]))(hns:ns.length<=20)(hk:kind<=3)(hn:n<256)(hl:l.length<=12)(hb: ∀m∈l,m<2^60)(hth:there<2^60)(hx:iR σ x 3 (ff out))(ho:out.length<=100000):
  aP prog W0 269 [.ptr 228 id 0 [],x,.int .i64 kind,.int .i64 n,fx l,eH there] σ λr σ'=>dw σ x 3 (ff (out++eG (fmI (cH kind n ns.length there) 0 l))) r σ':=by
 refine bY [12] [] func269 rfl rfl ntmps269 rfl rfl λhs=>?_
 have hok:=hx.v.st.ok;have hun:=hx.v.st.un;unfold stO lM at hob;simp only[go_sem,simprocAttr,fx,acg];refine ae.at [] (λA=>∃ v,A.env 1=v/\dw σ x 3 (ff (out++eG (fmI (cH kind n ns.length there) 0 l))) v A.st) ?_ λB ⟨v,h1,hA⟩=>?_
 .refine ae.upto [0,2,3,5,16,17] l.length (λi A=>∃ v,A.env 18= .int .i64 i/\A.env 1=v/\dw σ x 3 (ff (out++eG (fmI (cH kind n ns.length there) 0 (l.take i)))) v A.st) 0 (acj _) ?_ λi B hi ⟨v,h18,h1,hA⟩=>?_
  .simp only[go_sem,simprocAttr];refine⟨x,rfl,?_⟩;have e:out++eG (fmI (cH kind n ns.length there) 0 (l.take 0))=out:=by simp[fmI,eG]
   rw[e];exact dw.refl hx
  simp only[go_sem,simprocAttr,h18,h1,acg];refine⟨λhc=>⟨hc,?_⟩,λhc=>?_⟩
  .obtain⟨m,hm⟩:=get_some hc;simp only[aw hm];have hm60:=hb m (acm hm);have hin:AV.int .i64 (IntKind.i64.wrap ((i:Int)+1))= .int .i64 (i+1:Nat):=ag hc (by rw[au];omega);have e1:fmI (cH kind n ns.length there) 0 (l.take (i+1))=fmI (cH kind n ns.length there) 0 (l.take i)++cH kind n ns.length there i m:=cZ hm;have hlen:(fmI (cH kind n ns.length there) 0 (l.take i)).length<=240:=by
    have h2:=nm (kind:=kind) (n:=n) (len:=ns.length) (there:=there) (l:=l.take i);rw[acw]at h2;have h3:min i l.length*ns.length<=12*20:=acZ (by omega) hns;omega
   have hobB:=dw.ob hx hA hob (by decide);simp only[go_sem,simprocAttr,h18,h1,ak hobB,aO hobB,acg];refine ae.ats [0,2,3,5,16,17,18] (λA=>∃ v,A.env 1=v/\dw σ x 3 (ff (out++eG (fmI (cH kind n ns.length there) 0 (l.take (i+1))))) v A.st) ?_ λC ⟨v2,h1',hA2⟩=>?_
   .refine ae.upto [0,2,3,5,13,14,16,17,18,27] ns.length (λk A=>∃ v,A.env 28= .int .i64 k/\A.env 1=v/\dw σ x 3 (ff (out++eG (fmI (cH kind n ns.length there) 0 (l.take i)++(List.range k).flatMap (nW kind n there i m)))) v A.st) 0 (acj _) ?_ λk C hk2 ⟨v2,h28,h1',hA2⟩=>?_
    .simp only[go_sem,simprocAttr];refine⟨v,h1,?_⟩;simpa using hA
    have hmt:m &&& there<2^60:=ac5 adj hm60;have a1:=CK hm60 hth;simp only[go_sem,simprocAttr,h28,h1',acg,eH,a1];refine⟨λhc2=>?_,λhc2=>?_⟩
    .have g1:mK k false<2^60:=nb (by omega);have g2:mK k true<2^60:=nb (by omega);have o1:=Bg g1 g2;have a2:=CK hmt (acQ g1 g2);refine aD.fnG (λ_=>w8 k false (by omega)) ?_;simp only[go_sem,simprocAttr,eH];refine aD.fnG (λ_=>w8 k true (by omega)) ?_;have hin2:AV.int .i64 (IntKind.i64.wrap ((k:Int)+1))= .int .i64 (k+1:Nat):=ag hc2 (by rw[au];omega);simp only[go_sem,simprocAttr,eH,o1,a2,h28];have hq:((k:Int) !=n&&((m &&& there &&& (mK k false ||| mK k true):Nat):Int) !=0)=decide (k≠n/\m &&& there &&& (mK k false ||| mK k true)≠0):=by
      rw[acT];simp only[Bool.and_eq_true,bne_iff_ne,ne_eq,decide_eq_true_eq];omega
     rw[hq];have hlen2:((List.range k).flatMap (nW kind n there i m)).length<=20:=by
      have:=qO (kind:=kind) (n:=n) (len:=k) (there:=there) (i:=i) (m:=m);unfold cH at this;omega
     refine⟨λhz=>?_,λhz=>⟨hc2,v2,hin2,h1',?_⟩⟩
     .have hz':=of_decide_eq_true hz;refine aj.fn (qF kind n false i k hk hn (by omega) (by omega)) ?_;simp only[go_sem,simprocAttr,h28,h1',hA2.row.v.st.ok,hA2.row.v.st.un];refine bq.yj (by simp only[go_sem,simprocAttr]) 1048576 (by kernel_rfl) hA2.row.v (.lit _ _ _) (by simp) (by simp only[ff,eG,acg,aco,acH,acv];omega) λv' σ' ha=>?_
      simp only[go_sem,simprocAttr,h28,ha.row.v.st.ok,ha.row.v.st.un];refine⟨hc2,v',hin2,rfl,?_⟩;have:=hA2.step ha;have e9:nW kind n there i m k=[Oz kind n false i k]:=if_pos hz';rw[ac4,ac9,ade,acz,e9];simpa[ff,eG]using this
     .have e9:nW kind n there i m k=[]:=if_neg (of_decide_eq_false hz);rw[ac4,ac9,ade,acz,e9,acz];exact hA2
    .rw[show k=ns.length by omega]at hA2;refine⟨v2,rfl,?_⟩;rw[e1];exact hA2
   .simp only[go_sem,simprocAttr,h18];exact⟨hc,v2,hin,h1',hA2⟩
  .rw[ach hc]at hA;exact⟨v,rfl,hA⟩
 have hok2:=hA.row.v.st.ok;have hun2:=hA.row.v.st.un;simp only[go_sem,simprocAttr,h1,hok2,hun2];refine bu.ret ?_;simp only[go_sem,simprocAttr,hok2,hun2];exact⟨v,.refl _,hA.fr.len,hA⟩
theorem MF (a b:List Int)(hb:b.Pairwise (· <= ·))(hbl:b.length<=1048576):ai prog W0 224 [.sl 3 (ff a),.sl 3 (ff b)] (.bool (Cx a b)):=by
 refine an [4] [] func224 rfl rfl ntmps224 rfl rfl (.bool _) λhs σ=>?_
 have hl:=(aQ (hs _ (acM ..))).1;simp only[go_sem,simprocAttr,ff,acg];refine ae.upto [1,9,10] a.length (λi A=>A.env 11= .int .i64 i/\A.st=σ/\ ∀n∈a.take i,b.contains n=true) 0 (acj _) ?_ λi B hi ⟨h11,hst,hI⟩=>?_
 .simp only[go_sem,simprocAttr];simp
 simp only[go_sem,simprocAttr,h11,hst,acg];refine⟨λhc=>⟨hc,?_⟩,λhc=>?_⟩
 .obtain⟨n,hn⟩:=get_some hc;simp only[aw hn];simp only[go_sem,simprocAttr,h11,hst];refine aj.fn (Xa b n hb hbl) ?_;simp only[go_sem,simprocAttr,h11,hst];refine⟨λh=>ar ?_,λh=>⟨hc,ag hc hl,?_⟩⟩
  .exact(ada.2 ⟨n,acm hn,by rw[h];simp⟩).symm
  .rw[ah hn];intro y hy;rcases acy.1 hy with hy|hy
   .exact hI y hy
   .rw[acr.1 hy];exact h
 .rw[ach hc]at hI;exact ar (adf.2 hI).symm
theorem ML {ns:List bE}{k:List UInt8}{i:Nat}{c:UInt8}{n:bE}(hn:ns[i]?=some n)(hc:c≠0):iZ ns k i c=fmI (gp i true (onK k)) 0 (if 3<=c.toNat then n.new else n.old).pre++(if c=2\/c=4 then fmI (gp i false (onK k)) 0 (if 3<=c.toNat then n.new else n.old).dep else [])++fmI (cH 2 i ns.length (gQ k)) 0 (if 3<=c.toNat then n.new else n.old).con++fmI (cH 3 i ns.length (onK k)) 0 (if 3<=c.toNat then n.new else n.old).brk:=by
 unfold iZ;rw[if_neg hc,hn]
theorem QD (a b:List Nat):eG (a++b)=eG a++eG b:=by simp[eG]
theorem FZ (σ:ab)(id:Nat)(ns:List bE)(km a b c:AV)(k:List UInt8)(hob:σ[id]?=some (stO (lM ns) km [a,b,c]))(hns:ns.length<=20)(hb: ∀n∈ns,zJ n)(hk:k.length=ns.length):
  aP prog W0 221 [.ptr 228 id 0 [],.str k] σ λr σ'=>r= .sl 3 (ff (gr ns k))/\σ'=σ:=by
 refine mj [4] [5000017] func221 rfl rfl ntmps221 rfl rfl (.sl λx hx=>by obtain⟨z,_,rfl⟩:=acB.1 hx;exact .int _ _) λhs=>?_
 simp only[go_sem,simprocAttr];refine aj.fn (Wt k (by omega)) ?_;simp only[go_sem,simprocAttr,eH];refine lK.bytes (e:=5) ⟨by kernel_rfl,by kernel_rfl,by kernel_rfl,by kernel_rfl,by kernel_rfl⟩ ?_;simp only[go_sem,simprocAttr];obtain⟨τ0,hτ⟩: ∃τ0,τ0=σ++[some (bH.cells 5 (k.map ba))]:=⟨_,rfl⟩;have hbid:τ0[σ.length]?=some (some (.cells 5 (k.map ba))):=by rw[hτ];simp
 have hob0:τ0[id]?=some (stO (lM ns) km [a,b,c]):=by
  rw[hτ,acn (acf.1 hob).1];exact hob
 have hxt:Ext σ τ0:=by rw[hτ];exact(Ext.refl _).app _
 rw[<-hτ];have hx0:iR τ0 .aq 3 []:=.inl ⟨rfl,rfl⟩;refine ae.at [] (λA=>∃ v,A.env 7=v/\dw τ0 .aq 3 (ff (eG (fY ns k))) v A.st) ?_ λB ⟨v,h7,hA⟩=>?_
 .refine ae.upto [0,5,6,17,18] k.length (λi A=>∃ v,A.env 19= .int .i64 i/\A.env 7=v/\dw τ0 .aq 3 (ff (eG (fmI (iZ ns k) 0 (k.take i)))) v A.st) 0 (acj _) ?_ λi B hi ⟨v,h19,h7,hA⟩=>?_
  .simp only[go_sem,simprocAttr];exact⟨_,rfl,dw.refl hx0⟩
  simp only[go_sem,simprocAttr,h19,h7];refine⟨λhc=>?_,λhc=>?_⟩
  .obtain⟨c',hci⟩:=get_some hc;obtain⟨n,hn⟩:=get_some (show i<ns.length by omega);have hbB:=dw.ob hx0 hA hbid (by decide);have hobB:=dw.ob hx0 hA hob0 (by decide);have hg:((k.map ba)[0+i]?.bind λx=>some x)=some (.int .u8 (c'.toNat:Nat)):=by
    rw[acE,aci,hci];rfl
   have hin:AV.int .i64 (IntKind.i64.wrap ((i:Int)+1))= .int .i64 (i+1:Nat):=ag hc (by rw[au];omega);have q0:(((c'.toNat:Nat):Int)==0)=decide (c'=0):=ik c' 0;have q2:(((c'.toNat:Nat):Int)==2)=decide (c'=2):=ik c' 2;have q4:(((c'.toNat:Nat):Int)==4)=decide (c'=4):=ik c' 4;have e1:fmI (iZ ns k) 0 (k.take (i+1))=fmI (iZ ns k) 0 (k.take i)++iZ ns k i c':=cZ hci;have hpl:=qk (k:=k) (i:=i) hb hns (by omega);unfold lM at hobB;simp only[go_sem,simprocAttr,h19,h7,ak hbB,aO hbB,hg,ack,acq,q0,q2,q4];refine⟨hc,λh0=>⟨hc,v,hin,rfl,?_⟩,λh0=>?_⟩
   .rw[e1];unfold iZ;rw[if_pos h0,acz];exact hA
   simp only[go_sem,simprocAttr,h19,h7,ak hobB,aO hobB,acg,aw hn,kN];obtain⟨f,hf⟩: ∃f,f=if 3<=c'.toNat then n.new else n.old:=⟨_,rfl⟩;have hB:=hb n (acm hn);have hfb:AQ f:=by
    rw[hf];split
    .exact hB.new
    .exact hB.old
   have hF: ∀g:j6,(B.st++[some (bH.cells 278 [cm g])])[B.st.length]?=some (some (.cells 278 [cm g])):=λg=>by simp
   have hob1: ∀o,(B.st++[o])[id]?=some (some (.cells 228 [.agg 228 [.sl 280 (ns.map kN),km,a,b,c]])):=λo=>by
    rw[acn (acf.1 hobB).1];exact hobB
   have ho: ∀g:j6,unm (cm g)=cm g:=λg=>rfl
   have hfit: ∀g:j6,bb prog 278 (cm g)=true:=λg=>by kernel_rfl
   rw[ho];refine⟨by omega,trivial,hfit _,?_⟩;refine cc.at [0,5,6,7,8,9,10,17,18,19] (by kernel_rfl) (λA=>A.st=B.st++[some (.cells 278 [cm f])]) (λh=>?_) (λh=>?_) λC hst=>?_
   .have h3:3<=c'.toNat:=by simp only[decide_eq_true_eq]at h;omega
    rw[if_pos h3]at hf;have hb1:=hF n.old;unfold cm at hb1;simp only[go_sem,simprocAttr,h19,h7,cm,ak (hob1 _),aO (hob1 _),acg,aw hn,kN,ak hb1,aO hb1,aC hb1];refine⟨by omega,?_⟩;rw[hf]
   .have h3: ¬3<=c'.toNat:=by simp only[decide_eq_false_iff_not]at h;omega
    rw[if_neg h3]at hf;simp only[go_sem,simprocAttr];rw[hf]
   have hb1:=hF f;unfold cm at hb1;have at1:(cm f).at [1]=some (fx f.pre):=rfl;have at2:(cm f).at [2]=some (fx f.dep):=rfl;have at3:(cm f).at [3]=some (fx f.con):=rfl;have at4:(cm f).at [4]=some (fx f.brk):=rfl;have hso: ∀g l,okM g (fx l)=True:=λg l=>eq_true trivial
   have hsu: ∀l,unm (fx l)=fx l:=λl=>rfl
   obtain⟨F,hFe⟩: ∃F,F=some (bH.cells 278 [cm f]):=⟨_,rfl⟩;have hFB:(B.st++[F])[B.st.length]?=some (some (.cells 278 [cm f])):=by rw[hFe];simp
   rw[<-hFe]at hst;have hA1:=hA.more [F];obtain⟨τ1,hτ1⟩: ∃τ1,τ1=B.st++[F]:=⟨_,rfl⟩;rw[<-hτ1]at hst hA1 hFB;have hFB':=hFB;unfold cm at hFB';have hth:=AO (k:=k) (by omega);have hon:=Qb (k:=k) (by omega);have l1:=l9 (n:=i) (pre:=true) (on:=onK k) (l:=f.pre);have l2:=l9 (n:=i) (pre:=false) (on:=onK k) (l:=f.dep);have l3:=nm (kind:=2) (n:=i) (len:=ns.length) (there:=gQ k) (l:=f.con);have l4:f.con.length*ns.length<=12*20:=acZ hfb.con hns;have b1:=hfb.pre;have b2:=hfb.dep;have eC:=ML (k:=k) hn h0;rw[<-hf]at eC;rw[e1,eC];clear eC e1;generalize fmI (iZ ns k) 0 (k.take i)=pre at *;simp only[go_sem,simprocAttr,h19,h7,hst,ak hFB',aO hFB',at1,hso,hsu,ack,acq,hA.row.v.st.ok,hA.row.v.st.un];refine aj.goes hst (Es τ1 v (eG pre) i true f.pre (onK k) (by omega) hfb.pre hfb.ab7 hon hA1.row (by simp only[eG,acg];omega)) λv1 st1 hL1=>?_
   have hF1:=dw.ob hA1.row hL1 hFB (by decide);unfold cm at hF1;simp only[go_sem,simprocAttr,h19,hL1.row.v.st.ok,hL1.row.v.st.un,q2,q4];refine cc.at [0,5,6,8,10,17,18,19] (by kernel_rfl) (λA=>∃ u,A.env 7=u/\dw τ1 v 3 (ff (eG pre++eG (fmI (gp i true (onK k)) 0 f.pre)++eG (if c'=2\/c'=4 then fmI (gp i false (onK k)) 0 f.dep else []))) u A.st) (λh=>?_) (λh=>?_) λD ⟨v2,h72,hL2⟩=>?_
   .simp only[go_sem,simprocAttr,h19,ak hF1,aO hF1,at2,hso,hsu,ack,acq,hL1.row.v.st.ok,hL1.row.v.st.un];refine aj.goes (by simp only[go_sem,simprocAttr]) (Es st1 v1 (eG pre++eG (fmI (gp i true (onK k)) 0 f.pre)) i false f.dep (onK k) (by omega) hfb.dep hfb.ab0 hon hL1.row (by simp only[eG,acg,aco];omega)) λv2 st2 hL2=>?_
    simp only[go_sem,simprocAttr,hL2.row.v.st.ok,hL2.row.v.st.un];rw[if_pos (by simpa using h)];exact⟨v2,rfl,by simpa only[acF]using hL1.step hL2⟩
   .simp only[go_sem,simprocAttr];rw[if_neg (by simpa using h)];exact⟨v1,rfl,by simpa[eG]using hL1⟩
   have hF2:=dw.ob hA1.row hL2 hFB (by decide);have hob2:=dw.ob hA1.row hL2 (by rw[hτ1];exact hob1 F) (by decide);unfold cm at hF2;simp only[go_sem,simprocAttr,h19,h72,ak hF2,aO hF2,at3,hso,hsu,ack,acq,hL2.row.v.st.ok,hL2.row.v.st.un];refine aj.goes (by simp only[go_sem,simprocAttr]) (vA D.st id ns km a b c v2 _ 2 i f.con (gQ k) hob2 hns (by omega) (by omega) hfb.con hfb.abC hth hL2.row (by simp only[eG,acg,aco];split<;>(try simp only[acv])<;>omega)) λv3 st3 hL3=>?_
   have hL3':=hL2.step hL3;have hF3:=dw.ob hA1.row hL3' hFB (by decide);have hob3:=dw.ob hA1.row hL3' (by rw[hτ1];exact hob1 F) (by decide);unfold cm at hF3;simp only[go_sem,simprocAttr,h19,ak hF3,aO hF3,at4,hso,hsu,ack,acq,hL3.row.v.st.ok,hL3.row.v.st.un];refine aj.goes (by simp only[go_sem,simprocAttr]) (vA st3 id ns km a b c v3 _ 3 i f.brk (onK k) hob3 hns (by omega) (by omega) hfb.brk hfb.abY hon hL3.row (by simp only[eG,acg,aco];split<;>(try simp only[acv])<;>omega)) λv4 st4 hL4=>?_
   simp only[go_sem,simprocAttr,h19,hL4.row.v.st.ok,hL4.row.v.st.un];refine⟨hc,v4,hin,rfl,?_⟩;have hfin:=(hA1.step hL3').step hL4;simp only[QD];simpa only[acF]using hfin
  .rw[ach hc]at hA;exact⟨v,rfl,hA⟩
 have hok2:=hA.row.v.st.ok;have hun2:=hA.row.v.st.un;have hlen:(fY ns k).length<=10080:=by
  have:=qk (k:=k) (i:=k.length) hb hns (by omega)
  rwa [acu]at this
 have hxB:Ext σ B.st:=by
  have h1:=hA.fr.tM hxt λj hj=>by simp[aN]at hj
  exact h1
 simp only[go_sem,simprocAttr,h7,hok2,hun2];rcases hA.row with⟨rfl,h0⟩|⟨ir,rfl,hir,h0⟩
 .have e0:gr ns k=[]:=by
   have:fY ns k=[]:=by simpa[ff,eG]using h0
   simp[gr,this]
  refine aj.fn DL ?_;simp only[go_sem,simprocAttr,h7];refine bu.ret ?_;simp only[go_sem,simprocAttr];rw[e0];exact⟨.aq _,hxB⟩
 .have hne:eG (fY ns k)≠[]:=λe=>h0 (by rw[e];rfl)
  have hlz:(ff (eG (fY ns k))).length=(eG (fY ns k)).length:=by simp[ff]
  rw[hlz];have hloi:σ.length<=ir:=by
   rcases hA.aN ir (by simp[aN])with h|h
   .simp[aN]at h
   .have:=hxt.le;omega
  refine aj.goes (by simp only[go_sem,simprocAttr]) (IK B.st ir (eG (fY ns k)) hir hne (by simp only[eG,acg];omega)) λr st1 ⟨hr,hst1⟩=>?_
  subst hr;simp only[go_sem,simprocAttr,h7];have hat:st1[ir]?=some (some (.cells 3 (ff (gr ns k)))):=by
   rw[hst1,acp (acf.1 hir).1];rfl
  have hzl:(ff (eG (fY ns k))).length=(ff (gr ns k)).length:=by
   simp only[ff,eG,gr,acg,acV]
  refine bu.frz (e:=3) (te:=3) (id:=ir) (off:=0) (m:=(ff (eG (fY ns k))).length) (xs:=ff (gr ns k)) 4 (by simp only[go_sem,simprocAttr]) (by simp only[go_sem,simprocAttr];exact hat) (by omega) (bu.ret ?_);simp only[go_sem,simprocAttr];rw[hzl,acu];refine⟨.refl _,?_⟩;have hx1:Ext σ st1:=by
   rw[hst1];exact hxB.set hloi _
  exact hx1.set hloi _
def bR (l:List (List UInt8)):List AV:=l.map .str
theorem U1 {σ:ab}{id:Nat}{l:List (List UInt8)}(hid:σ[id]?=some (some (.cells 9 (bR l))))(hl:l.length<=1048576)(s:List UInt8):aP prog W0 225 [.row 9 id 0 l.length,.str s] σ λr σ'=>r= .int .i64 (iS (λx=>s==x) l)/\σ'=σ:=by
 unfold bR at hid;refine mj [4] [] func225 rfl rfl ntmps225 rfl rfl (.int _ _) λhs=>?_
 simp only[go_sem,simprocAttr];refine ae.upto [0,1,7] l.length (λi A=>A.env 8= .int .i64 i/\A.st=σ/\ ∀a∈l.take i,(s==a)=false) 0 (acj _) ?_ λi B hi ⟨h8,hst,hI⟩=>?_
 .simp only[go_sem,simprocAttr];simp
 simp only[go_sem,simprocAttr,h8,hst,ak hid,aO hid];refine⟨λhc=>?_,λhc=>?_⟩
 .obtain⟨a,ha⟩:=get_some hc;have hg:(List.map AV.str l)[0+i]?=some (.str a):=by rw[acE,aci,ha];rfl
  simp only[go_sem,simprocAttr,h8,hst,ak hid,aO hid,hg,Option.bind_some,acq,ack];refine⟨hc,λhq=>bu.ret ?_,λhq=>⟨hc,ag hc (by rw[au];omega),?_⟩⟩
  .simp only[go_sem,simprocAttr,hst];rw[gf (q:=λx=>s==x) ha (by simp[hq]) hI];exact .refl _
  .rw[ah ha];intro b hb;rcases acy.1 hb with hb|hb
   .simpa using hI b hb
   .rw[acr.1 hb];exact hq
 .rw[ach hc]at hI;refine bu.ret ?_;simp only[go_sem,simprocAttr,hst];rw[dM (q:=λx=>s==x) hI];exact .refl _
theorem Vh {σ:ab}{id:Nat}{l:List (List UInt8)}(hid:σ[id]?=some (some (.cells 9 (bR l))))(hl:l.length<=1048576)(s:List UInt8):aP prog W0 182 [.row 9 id 0 l.length,.str s] σ λr σ'=>r= .bool (l.any λx=>s==x)/\σ'=σ:=by
 refine mj [4] [] func182 rfl rfl ntmps182 rfl rfl (.bool _) λhs=>?_
 simp only[go_sem,simprocAttr];refine aj.reads (by simp only[go_sem,simprocAttr]) (U1 hid hl s) ?_;simp only[go_sem,simprocAttr];refine bu.ret ?_;simp only[go_sem,simprocAttr];exact ar jv
theorem TB {σ:ab}{v:AV}{l:List (List UInt8)}(h:iR σ v 9 (bR l))(hl:l.length<=1048576)(s:List UInt8):aP prog W0 182 [v,.str s] σ λr σ'=>r= .bool (l.any λx=>s==x)/\σ'=σ:=by
 rcases h with⟨rfl,h⟩|⟨id,rfl,h,h0⟩
 .have:l=[]:=by simpa[bR]using h
  subst this;exact((II [] s) σ).bS (.cons (.aq _) (.cons (.refl _) .nil))
 .have e:(bR l).length=l.length:=by simp[bR]
  rw[e];exact Vh h hl s
def r5 (v:AV):Option bH:=some (.cells 73 [v])
theorem WQ {σ σ':ab}{id:Nat}{v v' w:AV}{e:TypeId}{xs ys:List AV}(ha:dw (σ++[none]) v e xs v' σ')(hid2:σ'[id]?=some (some (.cells 73 ys))):σ.length<=(σ'.set id (r5 w)).length:=by
 have:=ha.fr.len;rw[aco]at this;rw[acU];omega
theorem ZV {σ σ':ab}{id:Nat}{v v':AV}{o:List (List UInt8)}{q:List UInt8->Bool}{n:List UInt8}(hc:(q n&& !o.any λx=>n==x)=true)(hidl:id<σ.length)(hid1:(σ++[none])[id]?=some (some (.cells 73 [v])))(hv:iR σ v 9 (bR o))(ha:dw (σ++[none]) v 9 (bR o++[.str n]) v' σ')(hid2:σ'[id]?=some (some (.cells 73 [v]))):
  ∃w,(σ'.set id (r5 v'))[id]?=some (r5 w)/\iR (σ'.set id (r5 v')) w 9 (bR (gw q o n))/\Fr (id::aN v) σ (σ'.set id (r5 v'))/\ ∀j∈aN w,j∈aN v\/σ.length<=j:=by
 refine⟨v',acp (acf.1 hid2).1,?_,?_,λj hj=>?_⟩
 .have e:bR (gw q o n)=bR o++[.str n]:=by
   rw[gw,if_pos hc];simp[bR]
  rw[e];refine ha.row.keep λj hj=>acA ?_
  rintro rfl;rcases ha.row with⟨rfl,_⟩|⟨ir,rfl,h2,_⟩
  .simp[aN]at hj
  .simp only[aN,acr]at hj;subst hj;rw[hid2]at h2;cases h2
 .have h1:Fr (id::aN v) σ σ':=(Fr.trans (F:=id::aN v) (.ext ((Ext.refl _).app _)) ha.fr λj hj=>.inl (List.mem_cons_of_mem _ hj));exact h1.set (.inl (acM ..)) _
 .rcases ha.aN j hj with h|h
  .exact .inl h
  .rw[aco]at h;exact .inr (by omega)
theorem XJ {σ:ab}{id:Nat}{v:AV}{o:List (List UInt8)}(s:List aA)(t:List Pkg)(b:Bool)(n:List UInt8)(hid:σ[id]?=some (r5 v))(hv:iR σ v 9 (bR o))(ho:o.length<=100000):
  aP prog W0 261 ([.str n]++[.loc 22 (aK s),.loc 23 (aL t),.loc 4 (.bool b),.ptr 73 id 0 []]) σ λr σ'=>r= .tup []/\ ∃v',σ'[id]?=some (r5 v')/\iR σ' v' 9 (bR (gw (λn=>en s t n==b) o n))/\Fr (id::aN v) σ σ'/\ ∀j∈aN v',j∈aN v\/σ.length<=j:=by
 refine bY [] [8] func261 rfl rfl ntmps261 rfl rfl λhs=>?_
 have hid':σ[id]?=some (some (.cells 73 [v])):=hid;have hidl:=(acf.1 hid).1;have hid1:(σ++[none])[id]?=some (some (.cells 73 [v])):=by
  rw[acn hidl];exact hid
 have hcon:=TB (W0:=W0) (hv.more [none]) (by omega) n;simp only[go_sem,simprocAttr];refine aj.fn (nE s n) ?_;simp only[go_sem,simprocAttr];refine aj.fn (uH t n) ?_;rcases dO (λx:aA=>x.pkg.name==n) s with⟨hi,hall⟩|⟨i,a,ha,hqa,hbef,hi⟩
 .have hf:cF s n=none:=acN.2 λx hx=>by rw[hall x hx];simp
  have hst:en s t n=false:=by unfold en;rw[hf]
  rw[hi];simp only[go_sem,simprocAttr,ay,kj];refine⟨.of (by kernel_rfl),aD.fnG (r:=.bool false) (λh=>(ac6 h).elim) ?_⟩;simp only[go_sem,simprocAttr,ay,kj,ak hid1,aO hid1,hv.v.st.ok,hv.v.st.un];refine aD.st (λ_=>by simpa using hcon) ?_;simp only[go_sem,simprocAttr,ak hid1,aO hid1,aC hid1,hv.v.st.ok,hv.v.st.un];refine⟨λhc=>?_,λhc=>bu.normal ?_⟩
  .refine bq.yj (by simp only[go_sem,simprocAttr]) 1048576 (by kernel_rfl) (hv.more [none]).v (.lit _ _ _) (by simp) (by simp only[bR,acg,acH,acv];omega) λv' σ' ha=>?_
   have hid2:=dw.ob (hv.more [none]) ha hid1 (by decide);simp only[go_sem,simprocAttr,ak hid2,aC hid2,ha.row.v.st.ok,ha.row.v.st.un,ha.row.v.st.fits];refine bu.normal ?_;simp only[go_sem,simprocAttr];exact⟨_,.refl _,WQ ha hid2,rfl,ZV (by rw[hst];simpa using hc) hidl hid1 hv ha hid2⟩
  .simp only[go_sem,simprocAttr];exact⟨_,.refl _,by simp,rfl,v,hid1,by rw[gw,if_neg (by rw[hst,show(false==b&& !o.any λx=>n==x)=false from by simpa using hc];simp)];exact hv.more [none],.ext ((Ext.refl _).app _),λj hj=>.inl hj⟩
 .have hf:cF s n=some a:=js ha hqa hbef;have h0: ¬(i:Int)<0:=by omega
  have hil:=(acf.1 ha).1;rw[hi,if_neg h0];simp only[go_sem,simprocAttr,ay,aK,acg,aw ha,bf];refine⟨.of (by kernel_rfl),λ_=>hil,λ_=>hil,?_⟩;refine aD.fnG (λ_=>nF _ _) ?_;have hst:((ja t n).isSome&&a.k9&&bt a.pkg.ver ((ja t n).getD xl).ver)=en s t n:=by
   unfold en;rw[hf];cases ja t n<;>simp
  simp only[go_sem,simprocAttr,ay,ak hid1,aO hid1,hv.v.st.ok,hv.v.st.un,hst];refine aD.st (λ_=>by simpa using hcon) ?_;simp only[go_sem,simprocAttr,ak hid1,aO hid1,aC hid1,hv.v.st.ok,hv.v.st.un];refine⟨λhc=>?_,λhc=>bu.normal ?_⟩
  .refine bq.yj (by simp only[go_sem,simprocAttr]) 1048576 (by kernel_rfl) (hv.more [none]).v (.lit _ _ _) (by simp) (by simp only[bR,acg,acH,acv];omega) λv' σ' ha=>?_
   have hid2:=dw.ob (hv.more [none]) ha hid1 (by decide);simp only[go_sem,simprocAttr,ak hid2,aC hid2,ha.row.v.st.ok,ha.row.v.st.un,ha.row.v.st.fits];refine bu.normal ?_;simp only[go_sem,simprocAttr];exact⟨_,.refl _,WQ ha hid2,rfl,ZV hc hidl hid1 hv ha hid2⟩
  .simp only[go_sem,simprocAttr];exact⟨_,.refl _,by simp,rfl,v,hid1,by rw[gw,if_neg (by rw[hc];simp)];exact hv.more [none],.ext ((Ext.refl _).app _),λj hj=>.inl hj⟩
structure NmI (σ st:ab)(id:Nat)(o:List (List UInt8)):Prop where
 ex: ∃v,st[id]?=some (r5 v)/\iR st v 9 (bR o)/\ ∀j∈aN v,σ.length<=j
 ext:Ext σ st
 low:σ.length<=id
theorem NmI.more {σ st:ab}{id:Nat}{o:List (List UInt8)}(h:NmI σ st id o)(l:ab):NmI σ (st++l) id o:=by
 obtain⟨v,h1,h2,h3⟩:=h.ex;exact⟨⟨v,by rw[acn (acf.1 h1).1];exact h1,h2.more l,h3⟩,h.ext.app l,h.low⟩
theorem NmI.add {σ st:ab}{id:Nat}{o:List (List UInt8)}(h:NmI σ st id o)(s:List aA)(t:List Pkg)(b:Bool)(n:List UInt8)(ho:o.length<=100000):
  aP prog W0 261 ([.str n]++[.loc 22 (aK s),.loc 23 (aL t),.loc 4 (.bool b),.ptr 73 id 0 []]) st λr σ'=>r= .tup []/\NmI σ σ' id (gw (λn=>en s t n==b) o n):=by
 obtain⟨v,h1,h2,h3⟩:=h.ex;refine(XJ s t b n h1 h2 ho).mono λr σ' ⟨hr,v',g1,g2,g3,g4⟩=>⟨hr,⟨v',g1,g2,λj hj=>?_⟩,?_,h.low⟩
 .have:=h.ext.le;rcases g4 j hj with g|g
  .exact h3 j g
  .omega
 .refine g3.tM h.ext λj hj=>?_
  rcases List.mem_cons.1 hj with rfl|hj
  .exact h.low
  .exact h3 j hj
theorem R8 (s:List aA)(t:List Pkg)(b:Bool)(hs1:s.length<=1000)(ht1:t.length<=1000):ai prog W0 215 [aK s,aL t,.bool b] (.sl 9 (bR ((aY s t).filter λn=>en s t n==b))):=by
 refine jA [6] [3,4,5,10,12] func215 rfl rfl ntmps215 rfl rfl (.sl λx hx=>by obtain⟨z,_,rfl⟩:=acB.1 hx;exact .str _) λhs σ=>?_
 obtain⟨q,hq⟩: ∃q,q=λn=>en s t n==b:=⟨_,rfl⟩
 have hN0:NmI σ (σ++[r5 .aq]) σ.length []:=⟨⟨.aq,by simp,.inl ⟨rfl,rfl⟩,by simp[aN]⟩,(Ext.refl _).app _,acP _⟩;obtain⟨id,hid⟩: ∃id,id=σ.length:=⟨_,rfl⟩;have o1: ∀i,(((s.take i).map (·.pkg.name)).foldl (gw q) []).length<=1000:=λi=>by
  have:=wB q ((s.take i).map (·.pkg.name)) [];simp only[acg,acw,acv]at this;omega
 have o2: ∀i,(((t.take i).map (·.name)).foldl (gw q) ((s.map (·.pkg.name)).foldl (gw q) [])).length<=2000:=λi=>by
  have:=wB q ((t.take i).map (·.name)) ((s.map (·.pkg.name)).foldl (gw q) []);have h1:=wB q (s.map (·.pkg.name)) [];simp only[acg,acw,acv]at this h1;omega
 rw[<-hid]at hN0;simp only[go_sem,simprocAttr,aK,acg];rw[<-hid];refine ae.at [4,7,8] (λA=>NmI σ A.st id ((s.map (·.pkg.name)).foldl (gw q) [])) ?_ λB hB=>?_
 .refine ae.upto [4,7,8,14,15] s.length (λi A=>A.env 16= .int .i64 i/\NmI σ A.st id (((s.take i).map (·.pkg.name)).foldl (gw q) [])) 0 (acj _) ?_ λi B hi ⟨h16,hB⟩=>?_
  .simp only[go_sem,simprocAttr];exact hN0
  simp only[go_sem,simprocAttr,h16,acg];refine⟨λhc=>⟨hc,?_⟩,λhc=>?_⟩
  .obtain⟨x,hx⟩:=get_some hc;simp only[aw hx];simp only[go_sem,simprocAttr,h16,bf,ay];refine aj.goes (by simp only[go_sem,simprocAttr]) ((hB.more [none]).add s t b x.pkg.name (by have:=o1 i;omega)) λr st1 ⟨hr,h1⟩=>?_
   simp only[go_sem,simprocAttr,h16];refine⟨hc,ag hc (by rw[au];omega),?_⟩;rw[ah hx,acs,acC];rw[hq]at h1 ⊢;exact h1
  .rw[ach hc]at hB;exact hB
 simp only[go_sem,simprocAttr,aL,acg];refine ae.at [7] (λA=>NmI σ A.st id ((lP s t).foldl (gw q) [])) ?_ λC hC=>?_
 .refine ae.upto [7,8,26,27] t.length (λi A=>A.env 28= .int .i64 i/\NmI σ A.st id (((t.take i).map (·.name)).foldl (gw q) ((s.map (·.pkg.name)).foldl (gw q) []))) 0 (acj _) ?_ λi C hi ⟨h28,hC⟩=>?_
  .simp only[go_sem,simprocAttr];exact hB
  simp only[go_sem,simprocAttr,h28,acg];refine⟨λhc=>⟨hc,?_⟩,λhc=>?_⟩
  .obtain⟨x,hx⟩:=get_some hc;simp only[aw hx];simp only[go_sem,simprocAttr,h28,ay];refine aj.goes (by simp only[go_sem,simprocAttr]) ((hC.more [none]).add s t b x.name (by have:=o2 i;omega)) λr st1 ⟨hr,h1⟩=>?_
   simp only[go_sem,simprocAttr,h28];refine⟨hc,ag hc (by rw[au];omega),?_⟩;rw[ah hx,acs,acC];rw[hq]at h1 ⊢;exact h1
  .rw[ach hc]at hC;unfold lP;rw[acC];exact hC
 obtain⟨v,g1,g2,g3⟩:=hC.ex;have g1':C.st[id]?=some (some (.cells 73 [v])):=g1;have e:=IA s t b;rw[<-hq]at e;have e2:((lP s t).foldl (gw q) []).length<=2000:=by
  have:=o2 t.length;rw[acu]at this;unfold lP;rw[acC];exact this
 simp only[go_sem,simprocAttr,ak g1',aO g1',g2.v.st.ok,g2.v.st.un];rcases g2 with⟨rfl,h0⟩|⟨ir,rfl,hir,h0⟩
 .have e0:(aY s t).filter q=[]:=by
   rw[<-e,show(lP s t).foldl (gw q) []=[] by simpa[bR]using h0];simp
  refine aj.fn tC ?_;simp only[go_sem,simprocAttr,ak g1',aO g1'];refine bu.ret ?_;simp only[go_sem,simprocAttr];rw[<-hq,e0,hid];exact⟨.aq _,hC.ext⟩
 .have hne:(lP s t).foldl (gw q) []≠[]:=λe=>h0 (by rw[e];rfl)
  have hlz:(bR ((lP s t).foldl (gw q) [])).length=((lP s t).foldl (gw q) []).length:=by simp[bR]
  have hloi:σ.length<=ir:=g3 ir (by simp[aN]);have hnei:id≠ir:=λh=>by
   subst h;rw[g1']at hir;cases hir
  have hsr:=xW (W0:=W0) C.st ir ((lP s t).foldl (gw q) []) hir hne (by omega);rw[<-hlz]at hsr;refine aj.goes (by simp only[go_sem,simprocAttr]) hsr λr st1 ⟨hr,hst1⟩=>?_
  subst hr;have g1'':st1[id]?=some (some (.cells 73 [.row 9 ir 0 (bR ((lP s t).foldl (gw q) [])).length])):=by
   rw[hst1,acA (Ne.symm hnei)];exact g1'
  simp only[go_sem,simprocAttr,ak g1'',aO g1''];have hat:st1[ir]?=some (some (.cells 9 (bR ((aY s t).filter q)))):=by
   rw[hst1,acp (acf.1 hir).1,<-e];rfl
  have hzl:(bR ((lP s t).foldl (gw q) [])).length=(bR ((aY s t).filter q)).length:=by
   rw[<-e];simp only[bR,acg,acV]
  refine bu.frz (e:=9) (te:=9) (id:=ir) (off:=0) (m:=(bR ((lP s t).foldl (gw q) [])).length) (xs:=bR ((aY s t).filter q)) 6 (by simp only[go_sem,simprocAttr]) (by simp only[go_sem,simprocAttr];exact hat) (by omega) (bu.ret ?_);simp only[go_sem,simprocAttr];rw[hzl,acu,<-hq,hid];refine⟨.refl _,?_⟩;have hx1:Ext σ st1:=by
   rw[hst1];exact hC.ext.set hloi _
  exact hx1.set hloi _
theorem wv (s:List aA)(t:List Pkg)(hs1:s.length<=1000)(ht1:t.length<=1000):ai prog W0 159 [aK s,aL t] (.sl 9 (bR (fB s t))):=by
 refine an [4] [] func159 rfl rfl ntmps159 rfl rfl (.sl λx hx=>by obtain⟨z,_,rfl⟩:=acB.1 hx;exact .str _) λhs σ=>?_
 have e:fB s t=(aY s t).filter λn=>en s t n==false:=by
  unfold fB;congr 1;funext n;cases en s t n<;>rfl
 simp only[go_sem,simprocAttr];refine aj.fn (R8 s t false hs1 ht1) ?_;simp only[go_sem,simprocAttr];rw[e];exact .refl _
end Go.Proofs.Tryz
end
section
namespace Go.Av
open Go.Proofs.Tryz
theorem JK {l:List (Pkg×Nat)}{i:Nat}{x:Pkg×Nat}(c:Clause)(h:l[i]?=some x):fA (l.take (i+1)) c=if c.any (dc x.1)=true then fA (l.take i) c ||| x.2 else fA (l.take i) c:=by
 unfold fA;rw[ah h,acC];rfl
end Go.Av
end
section
namespace Go.Proofs.Tryz
open Go Go.Av
set_option maxRecDepth 10000
set_option maxHeartbeats 1000000
variable {W0 :World}
theorem I8 (p:Pkg)(a:Atom):ai prog W0 264 [aU a,.loc 51 (ay p)] (.bool (dc p a)):=by
 refine an [3] [2] func264 rfl rfl ntmps264 rfl rfl (.bool _) λhs σ=>?_
 simp only[go_sem,simprocAttr];refine aj.fn (vu p a) ?_;simp only[go_sem,simprocAttr]
 try exact ar rfl
def KH (l:List (Pkg×Nat)):List AV:=[.loc 23 (aL (l.map (·.1))),.loc 273 (fx (l.map (·.2)))]
theorem zR (l:List (Pkg×Nat))(hll:l.length<=40)(hl2: ∀x∈l,x.2<2^60)(c:Clause):ai prog W0 263 ([aF c]++KH l) (eH (fA l c)):=by
 refine an [4] [7] func263 rfl rfl ntmps263 rfl rfl (.int _ _) λhs σ=>?_
 simp only[go_sem,simprocAttr,KH,aL,acg];refine ae.at [] (λA=>A.env 5=eH (fA l c)/\Ext σ A.st) ?_ λB ⟨h5,hst⟩=>?_
 .refine ae.upto [0,2,8,9] l.length (λi A=>A.env 10= .int .i64 i/\A.env 5=eH (fA (l.take i) c)/\Ext σ A.st) 0 (acj _) ?_ λi B hi ⟨h10,h5,hst⟩=>?_
  .simp only[go_sem,simprocAttr];exact⟨rfl,.refl _⟩
  simp only[go_sem,simprocAttr,h10,h5,acg];refine⟨λhc=>?_,λhc=>?_⟩
  .obtain⟨x,hx⟩:=get_some hc;have hx1:(l.map (·.1))[i]?=some x.1:=by rw[aci,hx];rfl
   have hx2:(l.map (·.2))[i]?=some x.2:=by rw[aci,hx];rfl
   have m1:fA (l.take i) c<2^60:=EX λy hy=>hl2 y (ac0 hy)
   have m2:=hl2 x (acm hx);have hin:AV.int .i64 (IntKind.i64.wrap ((i:Int)+1))= .int .i64 (i+1:Nat):=ag hc (by rw[au];omega);have ms:=JK c hx;simp only[aw hx1];simp only[go_sem,simprocAttr,h10,h5];refine⟨hc,aj.fn (A5 aU df.atom c (dc x.1) _ [.loc 51 (ay x.1)] (λa _=>I8 x.1 a)) ?_⟩;unfold eH at h5;simp only[go_sem,simprocAttr,h10,h5,fx,eH,acg,aw hx2,Bg m1 m2];refine⟨λh=>⟨hc,hc,hin,?_,hst.app _⟩,λh=>⟨hc,hin,?_,hst.app _⟩⟩
   .rw[ms,if_pos h]
   .rw[ms,if_neg (by rw[h];simp)]
  .rw[ach hc];exact⟨rfl,hst⟩
 simp only[go_sem,simprocAttr,h5];exact hst
theorem AJ (l:List (Pkg×Nat))(hll:l.length<=40)(hl2: ∀x∈l,x.2<2^60)(m:List Clause)(hm:m.length<=12):ai prog W0 265 [aB m,.loc 313 (.fn 263 (KH l))] (fx (m.map (λc=>fA l c))):=by
 refine an [3] [6] func265 rfl rfl ntmps265 rfl rfl (.sl λx hx=>by obtain⟨z,_,rfl⟩:=acB.1 hx;exact .int _ _) λhs σ=>?_
 simp only[go_sem,simprocAttr,aB,acg];refine ae.at [] (λA=>∃ v,A.env 4=v/\aH σ A.st v 274 ((m.map (λc=>fA l c)).map eH)) ?_ λB ⟨v,h4,hb⟩=>?_
 .refine ae.upto [1,7,8] m.length (λi A=>∃ v,A.env 9= .int .i64 i/\A.env 4=v/\aH σ A.st v 274 (((m.take i).map (λc=>fA l c)).map eH)) 0 (acj _) ?_ λi B hi ⟨v,h9,h4,hb⟩=>?_
  .simp only[go_sem,simprocAttr];exact⟨_,rfl,aH.nil (.refl _) _⟩
  simp only[go_sem,simprocAttr,h9,h4,acg];refine⟨λhc=>⟨hc,?_⟩,λhc=>?_⟩
  .obtain⟨c,hcm⟩:=get_some hc;have hin:AV.int .i64 (IntKind.i64.wrap ((i:Int)+1))= .int .i64 (i+1:Nat):=ag hc (by rw[au];omega);have e:((m.take (i+1)).map (λc=>fA l c)).map eH=((m.take i).map (λc=>fA l c)).map eH++[eH ((λc=>fA l c) c)]:=by
    rw[ah hcm,acs,acs];rfl
   simp only[aw hcm];have hao:okM none (aF c)=True:=eq_true trivial;have hau:unm (aF c)=aF c:=rfl;simp only[go_sem,simprocAttr,hao,hau,h9,h4];refine aj.pure (zR l hll hl2 c) ?_;simp only[go_sem,simprocAttr,h9,h4,eH,hb.ok,hb.un];refine bq.own 1048576 (by kernel_rfl) hb.bld (.lit _ _ _) (by simp;omega) λv' σ' ha'=>?_
   have hb':=hb.app ha';simp only[go_sem,simprocAttr,h9,hb'.ok,hb'.un];rw[e];exact⟨hc,_,hin,rfl,hb'⟩
  .rw[ach hc]at hb;exact⟨v,rfl,hb⟩
 simp only[go_sem,simprocAttr,h4,hb.ok,hb.un];exact⟨hb.bS,hb.ext⟩
theorem AK (l:List (Pkg×Nat))(hll:l.length<=40)(hl2: ∀x∈l,x.2<2^60)(m:List Atom)(hm:m.length<=12):ai prog W0 266 [aF m,.loc 313 (.fn 263 (KH l))] (fx (m.map (λa=>fA l [a]))):=by
 refine an [3] [6] func266 rfl rfl ntmps266 rfl rfl (.sl λx hx=>by obtain⟨z,_,rfl⟩:=acB.1 hx;exact .int _ _) λhs σ=>?_
 simp only[go_sem,simprocAttr,aF,acg];refine ae.at [] (λA=>∃ v,A.env 4=v/\aH σ A.st v 274 ((m.map (λa=>fA l [a])).map eH)) ?_ λB ⟨v,h4,hb⟩=>?_
 .refine ae.upto [1,7,8] m.length (λi A=>∃ v,A.env 9= .int .i64 i/\A.env 4=v/\aH σ A.st v 274 (((m.take i).map (λa=>fA l [a])).map eH)) 0 (acj _) ?_ λi B hi ⟨v,h9,h4,hb⟩=>?_
  .simp only[go_sem,simprocAttr];exact⟨_,rfl,aH.nil (.refl _) _⟩
  simp only[go_sem,simprocAttr,h9,h4,acg];refine⟨λhc=>⟨hc,?_⟩,λhc=>?_⟩
  .obtain⟨c,hcm⟩:=get_some hc;have hin:AV.int .i64 (IntKind.i64.wrap ((i:Int)+1))= .int .i64 (i+1:Nat):=ag hc (by rw[au];omega);have e:((m.take (i+1)).map (λa=>fA l [a])).map eH=((m.take i).map (λa=>fA l [a])).map eH++[eH ((λa=>fA l [a]) c)]:=by
    rw[ah hcm,acs,acs];rfl
   simp only[aw hcm];have hao:okM none (aU c)=True:=eq_true trivial;have hau:unm (aU c)=aU c:=rfl;have haf:bb prog 76 (aU c)=true:=by kernel_rfl
   have hb1:=hb.more [none];simp only[go_sem,simprocAttr,hao,hau,haf,h9,h4];refine aj.pure ((zR l hll hl2 [c]).bS (.cons (.lit _ _) (mz.refl _))) ?_;simp only[go_sem,simprocAttr,h9,h4,eH,hb1.ok,hb1.un];refine bq.own 1048576 (by kernel_rfl) hb1.bld (.lit _ _ _) (by simp;omega) λv' σ' ha'=>?_
   have hb':=hb1.app ha';simp only[go_sem,simprocAttr,h9,hb'.ok,hb'.un];rw[e];exact⟨hc,_,hin,rfl,hb'⟩
  .rw[ach hc]at hb;exact⟨v,rfl,hb⟩
 simp only[go_sem,simprocAttr,h4,hb.ok,hb.un];exact⟨hb.bS,hb.ext⟩
theorem MV (f:j6):aW 0 (cm f):=.agg λy hy=>by
 have hs: ∀l,aW 0 (fx l):=λl=>.sl λx hx=>by obtain⟨z,_,rfl⟩:=acB.1 hx;exact .int _ _
 simp at hy;rcases hy with rfl|rfl|rfl|rfl|rfl<;>first|exact .bool _|exact hs _
theorem FM (l:List (Pkg×Nat))(hll:l.length<=40)(hl2: ∀x∈l,x.2<2^60)(p:Pkg)(hp:aS p=0):ai prog W0 219 [ay p,aL (l.map (·.1)),fx (l.map (·.2))] (cm (eS l p)):=by
 refine mg [.cell 6 278] [3,4,5,7] func219 rfl rfl ntmps219 rfl rfl (MV _) λhs σ=>?_
 have hG:=dz hp;have hso: ∀g l,okM g (fx l)=True:=λg l=>eq_true trivial
 have hsu: ∀l,unm (fx l)=fx l:=λl=>rfl
 have hsf: ∀l,bb prog 273 (fx l)=true:=λl=>by kernel_rfl
 have hz:(zeroOf prog 313).isSome=true:=by kernel_rfl
 simp only[go_sem,simprocAttr,ay,hso,hsu,hsf,hz];refine⟨.of (by kernel_rfl),aD.go (AJ l hll hl2 p.pre hG.pre.1) ?_⟩;simp only[go_sem,simprocAttr,ay,hso,hsu,hsf];refine aD.go (AJ l hll hl2 p.dep hG.dep.1) ?_;simp only[go_sem,simprocAttr,ay,hso,hsu,hsf];refine aD.go (AK l hll hl2 p.con hG.con.1) ?_;simp only[go_sem,simprocAttr,ay,hso,hsu,hsf];refine aD.go (AK l hll hl2 p.brk hG.brk.1) ?_;simp only[go_sem,simprocAttr,ay,hso,hsu,hsf];exact .refl _
end Go.Proofs.Tryz
end
section
namespace Go.Av
open Go
theorem App.nK {σ σ':ab}{x v:AV}{e:TypeId}{xs zs:List AV}(hb:Bld σ x e xs)(h:App σ x e zs v σ'):e7 σ σ':=λid te ys hid=>by
 rw[h.old id (acf.1 hid).1 λht=>?_,hid];have:=hb.jl ht;rw[hid]at this;cases this
theorem cM.A7 {σ st st':ab}{id:Nat}{vs:List AV}{es:List TypeId}{xss:List (List AV)}{M:Option bH}(h:cM σ st id vs es xss λ_=>M){k:Nat}{v v':AV}{e:TypeId}{zs:List AV}(hv:vs[k]?=some v)(he:es[k]?=some e)(ha:App st v e zs v' st'):
  cM σ st' id (vs.set k v') es (xss.set k zs) (λ_=>M):=by
 have h1:=h.app hv he ha h.ob;have hat:st'[id]?=some M:=by
  rw[ha.old id (acf.1 h.at_).1 λht=>?_]
  .exact h.at_
  .have:=h.tok hv ht;rw[h.at_]at this;obtain⟨te,x,hx⟩:=h.ob;rw[hx]at this;cases this
 rw[fN hat]at h1;exact h1
theorem cM.cst {σ st:ab}{id:Nat}{vs:List AV}{es:List TypeId}{xss:List (List AV)}{mk:List AV->Option bH}(h:cM σ st id vs es xss mk):cM σ st id vs es xss λ_=>mk vs:=by
 have h1:=h.put (mk':=λ_=>mk vs) h.ob;rw[fN h.at_]at h1;exact h1
theorem cM.other {σ st:ab}{id mid:Nat}{vs:List AV}{es:List TypeId}{xss:List (List AV)}{mk:List AV->Option bH}(h:cM σ st id vs es xss mk)(hlo:σ.length<=mid){kt:TypeId}{l:List (AV×AV)}(hm:st[mid]?=some (some (.mp kt l)))(o:Option bH):cM σ (st.set mid o) id vs es xss mk:=by
 refine⟨h.ext.set hlo _,h.low,?_,h.ob,λk v e xs h1 h2 h3=>?_,h.f,h.d,h.l1,h.l2⟩
 .rw[acA]
  .exact h.at_
  .rintro rfl;have:=h.at_;obtain⟨te,x,hx⟩:=h.ob;rw[hx,hm]at this;cases this
 .have hb:=h.b k v e xs h1 h2 h3;refine hb.keep λj hj=>acA ?_
  rintro rfl;exact hb.ne hm (by simp) hj
open Go.Proofs.Tryz
theorem Cf {k:List UInt8}(hk:k.length<=20):rig prog (.str k)=some (.string ⟨k.toArray⟩):=by
 exact if_pos (by rw[au];omega)
theorem str_inj {k k':List UInt8}(hk:k.length<=20)(hk':k'.length<=20)(h:rig prog (.str k)=rig prog (.str k')):k=k':=by
 rw[Cf hk,Cf hk']at h;simpa using h
end Go.Av
end
section
namespace Go.Proofs.Tryz
open Go Go.Av
set_option maxRecDepth 10000
set_option maxHeartbeats 1000000
variable {W0 :World}
theorem KD :Go.Maps.Keyed prog 9:=Go.Maps.string_keyed (by kernel_rfl)
theorem KU {k:List UInt8}(hk:k.length<=20):Cw prog 9 (.str k):=⟨_,_,Cf hk,Go.WideMaps.keyOf_string_mk (by kernel_rfl) (by show k.toArray.size<=_;rw[au];simp;omega)⟩
def bW (s:bL):AV:=.agg 100 [.int .i64 (s.kind:Nat),.str s.name,.str s.ver]
def ab1 :List TypeId:=[9,3,100]
structure StS (σ st:ab)(id mid:Nat)(ns:List bE)(a b c:AV)(q:List (List UInt8×List bL))(fr:List Int)(by_:List bL):Prop where
 sea:cM σ st id [a,b,c] ab1 [bR (q.map (·.1)),ff fr,by_.map bW] (stO (lM ns) (.mp mid))
 mlo:σ.length<=mid
 mp: ∃l,st[mid]?=some (some (.mp 9 l))/\(∀p∈l,∃(k:List UInt8) (v:Int),p=(.str k,.int .i64 v)/\k∈q.map (·.1))/\ ∀k∈q.map (·.1),∃v,(AV.str k,v)∈l
 low: ∀k∈q.map (·.1),k.length<=20
theorem Rj {l:List (AV×AV)}{q:List (List UInt8)}{key:List UInt8}(h1: ∀p∈l,∃(k:List UInt8)(v:Int),p=(.str k,.int .i64 v)/\k∈q)(h2: ∀k∈q,∃v,(AV.str k,v)∈l)(hq: ∀k∈q,k.length<=20)(hk:key.length<=20):BU prog l (.str key)=decide (key∈q):=by
 unfold BU;refine decide_eq_decide.2 ⟨λ⟨p,hp,e⟩=>?_,λh=>?_⟩
 .obtain⟨k,v,rfl,hkq⟩:=h1 p hp;rw[<-str_inj (hq k hkq) hk e];exact hkq
 .obtain⟨v,hv⟩:=h2 key h;exact⟨_,hv,rfl⟩
theorem O9 {σ st:ab}{id mid:Nat}{ns:List bE}{a b c:AV}{q:List (List UInt8×List bL)}{fr:List Int}{by_:List bL}(h:StS σ st id mid ns a b c q fr by_)(hq:q.length<=20000)(hf:fr.length=q.length)(hby:by_.length=q.length)(key:List UInt8)(hk:key.length<=20)(from_:Int)(s:bL)(p:List bL):
  aP prog W0 161 [.ptr 228 id 0 [],.str key,.int .i64 from_,bW s] st λr st'=>st.length<=st'.length/\ ∃a' b' c',if key∈q.map (·.1)then StS σ st' id mid ns a' b' c' q fr by_ else StS σ st' id mid ns a' b' c' (q++[(key,p)]) (fr++[from_]) (by_++[s]):=by
 obtain⟨l,hm,hl1,hl2⟩:=h.mp;refine bY [] [7,4000003,2000039,1000039,2000046,1000046,2000053,4000004] func161 rfl rfl ntmps161 rfl rfl λhs=>?_
 have hob:=h.sea.at_;unfold stO lM at hob;have hml:mid<st.length:=(acf.1 hm).1;have hmt:mX prog 111=some (9,3):=by kernel_rfl
 have hat:ug st 9 (.mp mid)=some l:=by simp[ug,hm]
 have hC: ∀gd,ub prog gd st 111 (.str key) (.mp mid)=True:=λgd=>by
  refine eq_true ?_;unfold ub;simp only[hmt];exact⟨by kernel_rfl,KD,.of (KU hk),by rw[hat];rfl⟩
 obtain⟨z,hz⟩: ∃z,wb prog st 111 (.str key) (.mp mid)= .tup [z,.bool (decide (key∈q.map (·.1)))]:=by
  unfold wb;simp only[hmt,hat,ack];exact⟨_,by rw[Rj hl1 hl2 h.low hk]⟩
 simp only[go_sem,simprocAttr,bW,ak hob,aO hob,hC,hz];refine⟨λh0=>bu.ret ?_,λh0=>⟨.of (by kernel_rfl),?_⟩⟩
 .simp only[go_sem,simprocAttr];refine⟨_,.refl _,a,b,c,?_⟩;rw[if_pos h0];exact h
 have h3:=h.sea.b 0 a 9 _ rfl rfl rfl;have h4:=h.sea.b 1 b 3 _ rfl rfl rfl;have h5:=h.sea.b 2 c 100 _ rfl rfl rfl;simp only[go_sem,simprocAttr,ak hob,aO hob,h3.ok,h3.un,h3.len,h3.gn];refine Jm.put hmt KD (KU hk) rfl hm ?_;obtain⟨l',hl'⟩: ∃l',l'=uz prog l (.str key) (.int .i64 ((bR (q.map (·.1))).length:Nat)):=⟨_,rfl⟩;have hS1:=h.sea.other h.mlo hm (some (.mp 9 l'));have hm1:(st.set mid (some (.mp 9 l')))[mid]?=some (some (.mp 9 l')):=acp hml;have hlen1:(st.set mid (some (.mp 9 l'))).length=st.length:=acU;obtain⟨st1,hst1⟩: ∃st1,st1=st.set mid (some (.mp 9 l')):=⟨_,rfl⟩;rw[<-hst1]at hS1 hm1 hlen1;have hob1:=hS1.at_;unfold stO lM at hob1;have b0:=hS1.b 0 a 9 _ rfl rfl rfl;have b1:=hS1.b 1 b 3 _ rfl rfl rfl;have b2:=hS1.b 2 c 100 _ rfl rfl rfl;rw[<-hl'];simp only[go_sem,simprocAttr,<-hst1,ak hob1,aO hob1,b0.ok,b0.un,b1.ok,b1.un,b2.ok,b2.un];refine⟨.of (by kernel_rfl),?_⟩;have hC0:=hS1.cst;refine bq.mI (σ:=st1) (by simp only[go_sem,simprocAttr]) 1048576 (by kernel_rfl) b0 (.lit _ _ _) (by simp[bR];omega) λa' st2 ha=>?_
 have hC1:=hC0.A7 (k:=0) rfl rfl ha;have b1':=hC1.b 1 b 3 _ rfl rfl rfl;simp only[go_sem,simprocAttr,<-hst1,ha.bld.ok,ha.bld.un,b1.ok,b1.un];refine⟨ha.nK b0,?_⟩;refine bq.mI (σ:=st2) (by simp only[go_sem,simprocAttr]) 1048576 (by kernel_rfl) b1' (.lit _ _ _) (by simp[ff];omega) λb' st3 hb=>?_
 have hC2:=hC1.A7 (k:=1) rfl rfl hb;have b2':=hC2.b 2 c 100 _ rfl rfl rfl;simp only[go_sem,simprocAttr,hb.bld.ok,hb.bld.un,b2.ok,b2.un];refine⟨hb.nK b1',?_⟩;refine bq.mI (σ:=st3) (by simp only[go_sem,simprocAttr]) 1048576 (by kernel_rfl) b2' (.lit _ _ _) (by simp;omega) λc' st4 hc=>?_
 have hC3:=hC2.A7 (k:=2) rfl rfl hc;have hob4:=hC3.at_;unfold stO lM at hob4;have hil4:=(acf.1 hob4).1;have hsl: ∀o:Option bH,(st4.set id o)[id]?=some o:=λo=>acp hil4
 simp only[go_sem,simprocAttr,ak hob4,aC hob4,ak (hsl _),aC (hsl _),List.set_set,ha.bld.ok,ha.bld.un,ha.bld.fits,hb.bld.ok,hb.bld.un,hb.bld.fits,hc.bld.ok,hc.bld.un,hc.bld.fits];refine bu.normal ?_;simp only[go_sem,simprocAttr];have hP:=hC3.put (mk':=stO (lM ns) (.mp mid)) ⟨_,_,rfl⟩;have hm4:(st4.set id (stO (lM ns) (.mp mid) [a',b',c']))[mid]?=some (some (.mp 9 l')):=by
  have old: ∀{σ σ':ab} {x v:AV} {e:TypeId} {xs zs:List AV},Bld σ x e xs->App σ x e zs v σ'->σ[mid]?=some (some (.mp 9 l'))->σ'[mid]?=some (some (.mp 9 l')):=λhb ha hm=>by
   rw[ha.old mid (acf.1 hm).1 λht=>?_,hm];have:=hb.jl ht;rw[hm]at this;cases this
  rw[acA]
  .exact old b2' hc (old b1' hb (old b0 ha hm1))
  .rintro rfl;have:=hS1.at_;rw[hm1]at this;cases this
 have hle:st.length<=(st4.set id (stO (lM ns) (.mp mid) [a',b',c'])).length:=by
  have l1:=ha.len;have l2:=hb.len;have l3:=hc.len;rw[acU];omega
 refine⟨_,.refl _,hle,hle,a',b',c',?_⟩;rw[if_neg h0];have ek:(q++[(key,p)]).map (·.1)=q.map (·.1)++[key]:=by simp
 refine⟨?_,h.mlo,⟨l',hm4,λy hy=>?_,λk hkq=>?_⟩,λk hkq=>?_⟩
 .have e0:bR ((q++[(key,p)]).map (·.1))=bR (q.map (·.1))++[.str key]:=by simp[bR]
  have e1:ff (fr++[from_])=ff fr++[.int .i64 from_]:=by simp[ff]
  have e2:(by_++[s]).map bW=by_.map bW++[bW s]:=by simp
  rw[e0,e1,e2];exact hP
 .rw[hl']at hy;rw[ek];rcases Pk hy with hy|rfl
  .obtain⟨k,v,e,hkq⟩:=hl1 y hy;exact⟨k,v,e,acJ _ hkq⟩
  .exact⟨key,_,rfl,by simp⟩
 .rw[ek]at hkq;rw[hl'];rcases acy.1 hkq with hk2|hk2
  .obtain⟨v,hv⟩:=hl2 k hk2;refine⟨v,?_⟩;unfold uz;refine acJ _ ?_;simp only[adg,decide_eq_true_eq];exact⟨hv,λe=>h0 (by rw[<-str_inj (h.low k hk2) hk e];exact hk2)⟩
  .rw[acr.1 hk2];exact⟨_,by unfold uz;exact acW _ (acr.2 rfl)⟩
 .rw[ek]at hkq;rcases acy.1 hkq with hkq|hkq
  .exact h.low k hkq
  .rw[acr.1 hkq];exact hk
end Go.Proofs.Tryz
end
section
namespace Go.Av
theorem yo.abB {q:List (List UInt8×List bL)}{fr:List Int}{by_:List bL}(h:yo q fr by_): ∀(i:Nat) (k:List UInt8) (p:List bL),q[i]?=some (k,p)->p.length<=i:=λi=>by
 induction i using Nat.strongRecOn with
 |_ i ih=>
  intro k p hi;rcases h.on i k p hi with⟨h1,h2⟩|⟨j,k',p',st,h1,_,_,h4,h5⟩
  .rw[h2];simp
  .have:=ih j h1 k' p' h4;rw[h5,aco,acH,acv];omega
theorem FC {ns:List bE}{k:List UInt8}{i:Nat}{n:bE}{c:UInt8}(hn:ns[i]?=some n)(hc:k[i]?=some c)(h:tI n c=false):pK ns k=false:=by
 unfold pK;rw[ada];refine⟨(n,c),acm (i:=i) ?_,by rw[h];simp⟩;rw[acO];exact⟨hn,hc⟩
theorem IS {ns:List bE}{k:List UInt8}(h: ∀(i:Nat)(n:bE)(c:UInt8),ns[i]?=some n->k[i]?=some c->tI n c=true):pK ns k=true:=by
 unfold pK;rw[adf];intro x hx;obtain⟨i,hi⟩:=List.mem_iff_getElem?.1 hx;rw[acO]at hi;exact h i x.1 x.2 hi.1 hi.2
end Go.Av
end
section
namespace Go.Proofs.Tryz
open Go Go.Av
set_option maxRecDepth 10000
set_option maxHeartbeats 1000000
variable {W0 :World}
theorem VB (σ:ab)(id:Nat)(ns:List bE)(km a b c:AV)(k:List UInt8)(hob:σ[id]?=some (stO (lM ns) km [a,b,c]))(hns:ns.length<=20)(hk:k.length=ns.length):
  aP prog W0 162 [.ptr 228 id 0 [],.str k] σ λr σ'=>r= .bool (pK ns k)/\σ'=σ:=by
 refine mj [4] [6] func162 rfl rfl ntmps162 rfl rfl (.bool _) λhs=>?_
 unfold stO lM at hob;simp only[go_sem,simprocAttr,ak hob,aO hob,acg];refine ae.upto [1,10,11] ns.length (λi A=>A.env 12= .int .i64 i/\Ext σ A.st/\ ∀(j:Nat) (n:bE) (c:UInt8),j<i->ns[j]?=some n->k[j]?=some c->tI n c=true) 0 (acj _) ?_ λi B hi ⟨h12,hst,hI⟩=>?_
 .simp only[go_sem,simprocAttr];exact Ext.refl _
 simp only[go_sem,simprocAttr,h12,acg];refine⟨λhc=>⟨hc,?_⟩,λhc=>bu.ret ?_⟩
 .obtain⟨n,hn⟩:=get_some hc;obtain⟨c',hcc⟩:=get_some (show i<k.length by omega);simp only[aw hn];have q0:(((c'.toNat:Nat):Int)==0)=decide (c'=0):=ik c' 0;have q2:(((c'.toNat:Nat):Int)==2)=decide (c'=2):=ik c' 2;have q4:(((c'.toNat:Nat):Int)==4)=decide (c'=4):=ik c' 4;have b0:(((c'.toNat:Nat):Int) !=0)= !decide (c'=0):=by rw[bne,q0]
  have b2:(((c'.toNat:Nat):Int) !=2)= !decide (c'=2):=by rw[bne,q2]
  have b4:(((c'.toNat:Nat):Int) !=4)= !decide (c'=4):=by rw[bne,q4]
  have hik:=(acf.1 hcc).1;have bad:tI n c'=false->dj (.bool false) (.bool (pK ns k)):=λh=>ar (FC hn hcc h).symm
  simp only[go_sem,simprocAttr,h12,kN,hcc,ack,b0,b2,b4];refine⟨λ_=>hik,λh=>bu.ret ?_,λh=>⟨λ_=>hik,λ_=>hik,λh2=>bu.ret ?_,λh2=>⟨hc,ag hc (by rw[au];omega),hst.app _,λj n2 c2 hj h3 h4=>?_⟩⟩⟩
  .simp only[go_sem,simprocAttr];refine⟨bad ?_,hst.app _⟩;unfold tI;grind
  .simp only[go_sem,simprocAttr];refine⟨bad ?_,hst.app _⟩;unfold tI;grind
  .by_cases hji:j=i
   .subst hji;rw[hn]at h3;rw[hcc]at h4;cases h3;cases h4;unfold tI;cases hw:n.wanted<;>grind
   .exact hI j n2 c2 (by omega) h3 h4
 .simp only[go_sem,simprocAttr];rw[IS λj n c h1 h2=>hI j n c (by have:=(acf.1 h1).1;omega) h1 h2];exact⟨.refl _,hst⟩
def kK (s:bL):List Value:=[.int .i64 (s.kind:Nat),.string ⟨s.name.toArray⟩,.string ⟨s.ver.toArray⟩]
theorem Pb {w:World}{C:Ctx}{s:bL}{cs:List Value}(h:Rel prog w C (bW s) cs):cs=kK s:=by
 cases h with
 |agg cf h1 h2 h3 h4 h6 h7=>
 have hf:bz prog 100=some [3,9,9]:=by kernel_rfl
 rw[hf]at h1;cases h1;have hsz:af prog 100=3:=by kernel_rfl
 rw[hsz]at h3;have ho0:bo prog [3,9,9] 0=0:=by kernel_rfl
 have ho1:bo prog [3,9,9] 1=1:=by kernel_rfl
 have ho2:bo prog [3,9,9] 2=2:=by kernel_rfl
 have r0:=h6 0 _ rfl;have r1:=h6 1 _ rfl;have r2:=h6 2 _ rfl;obtain⟨_,_,g0⟩:=h7 0 _ _ rfl rfl;obtain⟨_,_,g1⟩:=h7 1 _ _ rfl rfl;obtain⟨_,_,g2⟩:=h7 2 _ _ rfl rfl;generalize cf 0=c0 at r0 g0;generalize cf 1=c1 at r1 g1;generalize cf 2=c2 at r2 g2;cases r0;cases r1;cases r2;have q0:=g0 0 _ rfl;have q1:=g1 0 _ rfl;have q2:=g2 0 _ rfl;rw[ho0]at q0;rw[ho1]at q1;rw[ho2]at q2
 match cs,h3 with
 |[v0,v1,v2],_=>
  simp at q0 q1 q2;subst q0 q1 q2;rfl
instance : Inhabited bL:=⟨⟨0,[],[]⟩⟩
open Go.Sort in
theorem HV (σ:ab)(id:Nat)(xs:List bL)(hid:σ[id]?=some (some (.cells 100 (xs.map bW))))(h0:xs≠[])(hx:xs.length<=1000000):
  aP prog W0 220 [.row 100 id 0 xs.length] σ λr σ'=>r= .tup []/\σ'=σ.set id (some (.cells 100 (xs.reverse.map bW))):=λw C vs hst hl hv=>by
 obtain _|⟨v1,_|⟨_,_⟩⟩:=vs<;>simp at hl
 have h1:=(hv 0 _ _ rfl rfl).aG rfl;obtain⟨b,base,room,arr,t',fr,m1,m2,mf,m3,m4,cf,m5⟩:=hst.cells hid;have hpos:0<xs.length:=acK.2 h0;have hsz:af prog 100=3:=by kernel_rfl
 rw[hsz,acg]at m4;cases h1 with
 |row hn hc hi ho=>
 rename_i a cap;obtain⟨b',base',room',e1,e2,e3⟩:=ho _ m1;cases e1;have e4:=e2 (by omega);subst e4;rw[ac7,acL];have hel: ∀j (h:j<xs.length),Rel prog w C (bW xs[j]) (kK xs[j])/\fits prog 100 (bW xs[j])/\ ∀(q:Nat) (c:Value),(kK xs[j])[q]?=some c->arr[base+j*3+q]?=some c:=λj h=>by
  have hj:(xs.map bW)[j]?=some (bW xs[j]):=by simp[h]
  obtain⟨r1,r2,r3,r4⟩:=m5 j _ hj;have e:=Pb r1;rw[e]at r1 r4;rw[hsz]at r4;exact⟨r1,r3,r4⟩
 have hlen3: ∀x,(kK x).length=3:=λx=>rfl
 have hH:HoldsK kK 3 w b base xs.toArray:=λt ht=>by
  have ht':t<xs.length*3:=by simp_all
  have hj:t / 3<xs.length:=by omega
  refine⟨?_,rN (n:=0) m2 mf (by omega)⟩;rw[get_flatK _ _ _ _ (by omega),getElem!_pos xs.toArray (t / 3) (by simpa using hj),acI];have hq:t % 3<(kK xs[t / 3]).length:=by rw[hlen3];omega
  have:=(hel (t / 3) hj).2.2 (t % 3) _ (acD hq);rw[getElem!_pos (kK xs[t / 3]) (t % 3) hq];grind [World.cell?]
 refine .inl ⟨⟨_,func220,by kernel_rfl,by kernel_rfl⟩,?_⟩;have hq:=AnyQ.slices_Reverse Tryz.KO 3 Tryz.isAgg100 Tryz.sizeOf100 kK hlen3 (λx v hv=>by
  simp[kK]at hv;rcases hv with rfl|rfl|rfl<;>rfl) b base cap xs.toArray w hH (by simp;omega)
 refine hq.mono λe w' ⟨he,n,hw⟩=>?_
 unfold putRowK at hw;have hrev:xs.toArray.reverse=xs.reverse.toArray:=by simp
 rw[hrev]at hw;obtain⟨s1,s2⟩:=hst.Cs (fl:=flatK kK 3 xs.reverse.toArray) (n:=n) (os:=#[]) (ys:=xs.reverse.map bW) (k:=3) hid m1 hsz (by simp) (by simp[size_flatK]) λi y hy=>by
  rw[aci]at hy;obtain⟨x,hx,rfl⟩:=acS.1 hy;have hil:=(acf.1 hx).1;obtain⟨j,hj,hjx⟩:=ac2 (List.mem_reverse.1 (acm hx));have hr:=hel j hj;rw[hjx]at hr;refine⟨kK x,hr.1,rfl,hr.2.1,λq c hc=>?_⟩;have hql:=(acf.1 hc).1;rw[hlen3]at hql;have hrl:xs.reverse.length=xs.length:=List.length_reverse;have hlt:i*3+q<(flatK kK 3 xs.reverse.toArray).size:=by rw[size_flatK];simp at hil ⊢;omega
  rw[Array.getElem?_eq_getElem hlt,<-getElem!_pos (flatK kK 3 xs.reverse.toArray) (i*3+q) hlt,get_flatK _ _ _ _ (by simp at hil ⊢;omega),show(i*3+q) / 3=i by omega,show(i*3+q) % 3=q by omega,getElem!_pos xs.reverse.toArray i (by simpa using hil)];have hx':xs.reverse[i]'hil=x:=(acf.1 hx).2;have hq3:q<(kK x).length:=by rw[hlen3];exact hql
  rw[acI,hx',getElem!_pos (kK x) q hq3,<-acD hq3];exact hc
 rw[Ad]at s1 s2;subst hw;exact⟨_,.tup [],_,C,he,⟨rfl,rfl⟩,s2,.tup rfl (λi a v h=>by simp at h),s1⟩
theorem Gj :ai prog W0 220 [.aq] (.tup []):=by
 refine jh func220 (by kernel_rfl) (by kernel_rfl) λw C vs hb hlow hvl hv=>?_
 obtain _|⟨v1,_|⟨_,_⟩⟩:=vs<;>simp at hvl
 have h1:=(hv 0 _ _ rfl rfl).aG rfl;cases h1;refine(AnyQ.slices_Reverse_empty Tryz.KO none 0 w).mono λe w' ⟨he,hw⟩=>?_
 subst hw;exact⟨_,he,.tup rfl (λi a v h=>by simp at h),RowKit.Below.refl _ _⟩
theorem XR {σ0 σ:ab}{id mid:Nat}{ns:List bE}{a b c:AV}{q:List (List UInt8×List bL)}{fr:List Int}{by_:List bL}(h:StS σ0 σ id mid ns a b c q fr by_)(hL:yo q fr by_)(hq:q.length<=20000){at_:Nat}{k:List UInt8}{p:List bL}(ha:q[at_]?=some (k,p)):
  aP prog W0 163 [.ptr 228 id 0 [],.int .i64 (at_:Nat)] σ λr σ'=>r= .sl 100 (p.map bW)/\σ'=σ:=by
 have hob:=h.sea.at_;unfold stO lM at hob;refine mj [4] [] func163 rfl rfl ntmps163 rfl rfl (.sl λx hx=>by
  obtain⟨z,_,rfl⟩:=acB.1 hx;refine .agg λy hy=>?_
  simp at hy;rcases hy with rfl|rfl|rfl<;>first|exact .int _ _|exact .str _) λhs=>?_
 simp only[go_sem,simprocAttr];refine ae.at [] (λA=>∃ v,A.env 5=v/\dw σ .aq 100 (p.reverse.map bW) v A.st) ?_ λB ⟨v,h5,hA⟩=>?_
 .refine ae.cB [0] (λn A=>∃ v k' p',A.env 1= .int .i64 (n:Nat)/\A.env 5=v/\q[n]?=some (k',p')/\ ∃o,p=p'++o/\o.length+n<=at_/\dw σ .aq 100 (o.reverse.map bW) v A.st) at_ ?_ λn B ⟨v,k',p',h1,h5,hn,o,hp,hon,hA⟩=>?_
  .simp only[go_sem,simprocAttr];exact⟨_,k,p,rfl,ha,[],by simp,by simp,dw.refl (.inl ⟨rfl,rfl⟩)⟩
  have hobB:=dw.ob (.inl ⟨rfl,rfl⟩) hA hob (by decide);have hol:o.length<=20000:=by
   have:=(acf.1 ha).1;omega
  simp only[go_sem,simprocAttr,h1,h5,hA.row.v.st.ok,hA.row.v.st.un];refine⟨λhpos=>?_,λhz=>⟨v,rfl,?_⟩⟩
  .obtain⟨j,k2,p2,s2,hj,hfr,hby,hqj,hpp⟩:=(hL.on n k' p' hn).resolve_left (λe=>by omega);have hbc:=h.sea.b 2 c 100 _ rfl rfl rfl;have hbf:=h.sea.b 1 b 3 _ rfl rfl rfl;have hbx:(by_.map bW)[n]?=some (bW s2):=by rw[aci,hby];rfl
   have hfx:(ff fr)[n]?=some (.int .i64 (j:Nat)):=by unfold ff;rw[aci,hfr];rfl
   have hso:okM none (bW s2)=True:=eq_true trivial;have hsu:unm (bW s2)=bW s2:=rfl;have hsf:bb prog 100 (bW s2)=true:=by kernel_rfl
   simp only[go_sem,simprocAttr,h1,h5,ak hobB,aO hobB,hbc.ok,hbc.un,hbc.ixV hbx,hbc.ixC hbx,hso,hsu,hsf,hA.row.v.st.ok,hA.row.v.st.un];refine⟨by rw[acg];exact(acf.1 hby).1,bq.yj (by simp only[go_sem,simprocAttr]) 1048576 (by kernel_rfl) hA.row.v (.lit _ _ _) (by simp) (by simp;omega) λv' σ' hv'=>?_⟩;have hA2:=hA.step hv';have hob2:=dw.ob (.inl ⟨rfl,rfl⟩) hA2 hob (by decide);simp only[go_sem,simprocAttr,h1,ak hob2,aO hob2,hbf.ok,hbf.un,hbf.ixV hfx,hbf.ixC hfx,hv'.row.v.st.ok,hv'.row.v.st.un];refine⟨by simp[ff];exact(acf.1 hfr).1,?_⟩;refine .here j hj ⟨v',k2,p2,rfl,rfl,hqj,s2::o,by rw[hp,hpp];simp,by simp;omega,?_⟩;rw[List.reverse_cons,acs];exact hA2
  .have hn0:n=0:=by omega
   subst hn0;rcases hL.on 0 k' p' hn with⟨_,e⟩|⟨j,_,_,_,hj,_⟩
   .rw[e,List.nil_append]at hp;rw[hp];exact hA
   .omega
 have hxB:Ext σ B.st:=hA.fr.tM (.refl _) λj hj=>by simp[aN]at hj
 have hpl:p.length<=20000:=by
  have h1:=hL.abB at_ k p ha;have h2:=(acf.1 ha).1;omega
 simp only[go_sem,simprocAttr,h5,hA.row.v.st.ok,hA.row.v.st.un];rcases hA.row with⟨rfl,h0⟩|⟨ir,rfl,hir,h0⟩
 .have e0:p=[]:=by simpa using h0
  refine aj.fn Gj ?_;simp only[go_sem,simprocAttr,h5];refine bu.ret ?_;simp only[go_sem,simprocAttr];rw[e0];exact⟨.aq _,hxB⟩
 .have hne:p.reverse≠[]:=λe=>h0 (by rw[e];rfl)
  have hloi:σ.length<=ir:=by
   rcases hA.aN ir (by simp[aN])with h|h
   .simp[aN]at h
   .exact h
  have hlz:(p.reverse.map bW).length=p.reverse.length:=by simp
  have hrv:=HV (W0:=W0) B.st ir p.reverse hir hne (by simp;omega);rw[<-hlz]at hrv;refine aj.goes (by simp only[go_sem,simprocAttr]) hrv λr st1 ⟨hr,hst1⟩=>?_
  subst hr;simp only[go_sem,simprocAttr,h5];have hat:st1[ir]?=some (some (.cells 100 (p.map bW))):=by
   rw[hst1,acp (acf.1 hir).1,List.reverse_reverse]
  have hzl:(p.reverse.map bW).length=(p.map bW).length:=by simp
  refine bu.frz (e:=100) (te:=100) (id:=ir) (off:=0) (m:=(p.reverse.map bW).length) (xs:=p.map bW) 4 (by simp only[go_sem,simprocAttr]) (by simp only[go_sem,simprocAttr];exact hat) (by omega) (bu.ret ?_);simp only[go_sem,simprocAttr];rw[hzl,acu];refine⟨.refl _,?_⟩;have hx1:Ext σ st1:=by
   rw[hst1];exact hxB.set hloi _
  exact hx1.set hloi _
end Go.Proofs.Tryz
end
section
namespace Go.Av
theorem Tk {α β:Type}{f:Nat->α->List β}{l:List α}{i:Nat}{y:β}(h:y∈fmI f 0 (l.take i)):y∈fmI f 0 l:=by
 rw[<-List.take_append_drop i l,Bk];exact acJ _ h
theorem GR {ns:List bE}{k:List UInt8}{j i:Nat}{x:bL×List UInt8}(hj:j<=3)(h:x∈dN ns k j i):x∈ku ns k:=by
 unfold dN at h;unfold ku;rcases acy.1 h with h|h
 .obtain⟨kind,hk,hx⟩:=acR.1 h;exact acR.2 ⟨kind,ac0 hk,hx⟩
 .have:j=0\/j=1\/j=2\/j=3:=by omega
  refine acR.2 ⟨j+1,?_,Tk h⟩;rcases this with rfl|rfl|rfl|rfl<;>simp
theorem Q8 {p:List bL}{x:bL×List UInt8}{q:List (List UInt8×List bL)}:kU _root_.id p [x] q=if x.2∈q.map (·.1)then q else q++[(x.2,p++[x.1])]:=by
 simp only[kU,_root_.id];congr
open Go.Proofs.Tryz
structure BA (ns:List bE)(k0:List UInt8):Prop where
 len:ns.length<=20
 size:k0.length=ns.length
 low: ∀c∈k0,c.toNat<=4
 few:(ns.filter (·.kF)).length<=6
 ok: ∀n∈ns,zJ n
end Go.Av
end
section
namespace Go.Proofs.Tryz
open Go Go.Av
set_option maxRecDepth 10000
set_option maxHeartbeats 1000000
variable {W0 :World}
theorem StS.more {σ st:ab}{id mid:Nat}{ns:List bE}{a b c:AV}{q:List (List UInt8×List bL)}{fr:List Int}{by_:List bL}(h:StS σ st id mid ns a b c q fr by_)(l:ab):StS σ (st++l) id mid ns a b c q fr by_:=by
 obtain⟨m,hm,h1,h2⟩:=h.mp;exact⟨h.sea.more l,h.mlo,⟨m,by rw[acn (acf.1 hm).1];exact hm,h1,h2⟩,h.low⟩
structure ExI (σ st:ab)(id mid:Nat)(ns:List bE)(k0:List UInt8)(q:List (List UInt8×List bL)):Prop where
 ex: ∃a b c fr by_,StS σ st id mid ns a b c q fr by_/\yo q fr by_
 ways:Ks ns k0 q
theorem ExI.more {σ st:ab}{id mid:Nat}{ns:List bE}{k0:List UInt8}{q:List (List UInt8×List bL)}(h:ExI σ st id mid ns k0 q)(l:ab):ExI σ (st++l) id mid ns k0 q:=by
 obtain⟨a,b,c,fr,by_,h1,h2⟩:=h.ex;exact⟨⟨a,b,c,fr,by_,h1.more l,h2⟩,h.ways⟩
theorem ExI.size {σ st:ab}{id mid:Nat}{ns:List bE}{k0:List UInt8}{q:List (List UInt8×List bL)}(h:ExI σ st id mid ns k0 q)(H:BA ns k0):q.length<=20000:=by
 have h1:=vB h.ways;have h2:5^(ns.filter (·.kF)).length<=5^6:=acY (by decide) H.few;omega
theorem ExI.put {σ st:ab}{id mid:Nat}{ns:List bE}{k0:List UInt8}{q:List (List UInt8×List bL)}(h:ExI σ st id mid ns k0 q)(H:BA ns k0){at_:Nat}{k:List UInt8}{p:List bL}(ha:q[at_]?=some (k,p))(x:bL×List UInt8)(hx:x.2∈eO ns k0):
  aP prog W0 161 [.ptr 228 id 0 [],.str x.2,.int .i64 (at_:Nat),bW x.1] st λr st'=>st.length<=st'.length/\ExI σ st' id mid ns k0 (kU _root_.id p [x] q):=by
 have hsz:=h.size H;obtain⟨a,b,c,fr,by_,h1,h2⟩:=h.ex;have hk20:x.2.length<=20:=by rw[mq hx,H.size];exact H.len
 have hw:=AN p (m:=[x]) (l:=q) (λy hy=>by rw[acr.1 hy];exact hx) h.ways;refine(O9 h1 hsz h2.l1 h2.l2 x.2 hk20 (at_:Nat) x.1 (p++[x.1])).mono λr st' ⟨hle,a',b',c',hr⟩=>⟨hle,⟨?_,hw⟩⟩
 .rw[Q8];by_cases hm:x.2∈q.map (·.1)
  .rw[if_pos hm]at hr ⊢;exact⟨a',b',c',fr,by_,hr,h2⟩
  .rw[if_neg hm]at hr ⊢;exact⟨a',b',c',_,_,hr,h2.snoc ha _ _⟩
theorem NH {σ st:ab}{id mid:Nat}{ns:List bE}{k0:List UInt8}{q:List (List UInt8×List bL)}(h:ExI σ st id mid ns k0 q)(H:BA ns k0){at_:Nat}{k:List UInt8}{p:List bL}(ha:q[at_]?=some (k,p)):
  aP prog W0 164 [.ptr 228 id 0 [],.int .i64 (at_:Nat)] st λr st'=>st.length<=st'.length/\ExI σ st' id mid ns k0 (kU _root_.id p (ku ns k) q):=by
 have hsz:=h.size H;have hal:=(acf.1 ha).1;have hkw:k∈eO ns k0:=h.ways.2 _ (acm ha);have hkl:k.length=ns.length:=(mq hkw).trans H.size;have hns:=H.len;have hways:=JI H.size H.low hkw;obtain⟨a,b,c,fr,by_,h1,h2⟩:=h.ex;have hob:=h1.sea.at_;unfold stO lM at hob;have b0:=h1.sea.b 0 a 9 _ rfl rfl rfl;have hkx:(bR (q.map (·.1)))[at_]?=some (.str k):=by
  unfold bR;rw[aci,aci,ha];rfl
 refine bY [] [8,5000051,5000058] func164 rfl rfl ntmps164 rfl rfl λhs=>?_
 simp only[go_sem,simprocAttr,ak hob,aO hob,b0.ok,b0.un,b0.ixV hkx,b0.ixC hkx];refine⟨by simpa[bR]using hal,aj.reads (by simp only[go_sem,simprocAttr]) (FZ st id ns (.mp mid) a b c k h1.sea.at_ hns H.ok hkl) ?_⟩;simp only[go_sem,simprocAttr];refine ae.upto [0,1,4,5] 4 (λj A=>A.env 6= .int .i64 (j+1:Nat)/\st.length<=A.st.length/\ExI σ A.st id mid ns k0 (kU _root_.id p (dN ns k j 0) q)) 0 (acj _) ?_ λj B hj ⟨h6,hle,hB⟩=>?_
 .simp only[go_sem,simprocAttr];rw[Fv];exact h
 have hc4:decide (((j+1:Nat):Int)<=4)=decide (j<4):=decide_eq_decide.2 (by omega);simp only[go_sem,simprocAttr,h6];refine⟨λhc=>?_,λhc=>bu.normal ?_⟩
 .have hj4:j<4:=by omega
  obtain⟨a1,b1,c1,fr1,by1,g1,g2⟩:=hB.ex;have hob1:=g1.sea.at_;unfold stO lM at hob1;simp only[go_sem,simprocAttr,ak hob1,aO hob1,acg];refine ae.ats [0,1,4,5,6] (λA=>st.length<=A.st.length/\ExI σ A.st id mid ns k0 (kU _root_.id p (dN ns k (j+1) 0) q)) ?_ λC ⟨hle2,hC⟩=>?_
  .refine ae.upto [0,1,4,5,6,30,31] ns.length (λi A=>A.env 32= .int .i64 i/\st.length<=A.st.length/\ExI σ A.st id mid ns k0 (kU _root_.id p (dN ns k j i) q)) 0 (acj _) ?_ λi C hi ⟨h32,hle2,hC⟩=>?_
   .simp only[go_sem,simprocAttr];exact⟨hle,hB⟩
   simp only[go_sem,simprocAttr,h32,acg];refine⟨λhc2=>⟨hc2,?_⟩,λhc2=>?_⟩
   .obtain⟨n,hn⟩:=get_some hc2;obtain⟨d,hd⟩:=get_some (show i<k.length by omega);simp only[aw hn];have hno: ∀g,okM g (kN n)=True:=λg=>eq_true trivial
    have hnu:unm (kN n)=kN n:=rfl;have hnf:bb prog 280 (kN n)=true:=by kernel_rfl
    have hin:AV.int .i64 (IntKind.i64.wrap ((i:Int)+1))= .int .i64 (i+1:Nat):=ag hc2 (by rw[au];omega);have es:dN ns k j (i+1)=dN ns k j i++nG ns k (j+1) i n:=Gq hn;have hik:=(acf.1 hd).1;have hC1:=hC.more [none];simp only[go_sem,simprocAttr,h32,h6,hno,hnu,hnf,hd,ack];refine⟨.of (by kernel_rfl),hik,aD.go (Oc n (j+1) d (by omega)) ?_⟩;simp only[go_sem,simprocAttr,h32,h6,kN];have hnone:nG ns k (j+1) i n=[]->ExI σ (C.st++[none]) id mid ns k0 (kU _root_.id p (dN ns k j (i+1)) q):=λe=>by
     rw[es,e,acz];exact hC1
    refine⟨λhx=>⟨hc2,hin,by omega,hnone ?_⟩,λhx=>?_⟩
    .unfold nG;rw[hd]
     dsimp only
     cases ht:fJ n (j+1) d with
     |none=>rfl
     |some e=>
      have h0: ¬gj n (j+1) d<0:=by
       unfold gj;rw[ht]
       dsimp only
       omega
      dsimp only
      rw[if_neg];rintro⟨hm,_⟩;rw[hm]at hx;simp at hx;exact h0 hx
    obtain⟨e,ht,hte,hmv⟩: ∃e,fJ n (j+1) d=some e/\gj n (j+1) d=((e.toNat:Nat):Int)/\n.kF=true:=by
     rw[ac1]at hx;unfold gj at hx ⊢;cases ht:fJ n (j+1) d with
     |none=>rw[ht]at hx;simp at hx
     |some e=>exact⟨e,rfl,rfl,by simpa using hx.1⟩
    have he4:=w9 ht;have hxw: ∀x∈nG ns k (j+1) i n,x.2∈eO ns k0:=λx hx=>hways x (GR (j:=j) (i:=i+1) (by omega) (by rw[es];exact acW _ hx))
    have hke:k.set i e∈eO ns k0:=xj he4 hkw hn hmv (by rw[H.size];omega);have hkel:(k.set i e).length=ns.length:=(mq hke).trans H.size;rw[hte];refine lK.bytes (e:=5) ⟨by kernel_rfl,by kernel_rfl,by kernel_rfl,by kernel_rfl,by kernel_rfl⟩ ?_;obtain⟨τ1,hτ1⟩: ∃τ1,τ1=C.st++[none]:=⟨_,rfl⟩;have hlτ:C.st.length<=τ1.length:=by rw[hτ1];simp
    simp only[go_sem,simprocAttr,<-hτ1];have hub:IntKind.u8.wrap ((e.toNat:Nat):Int)=((e.toNat:Nat):Int):=by
     have:=UInt8.toNat_lt e;rw[IntKind.wrap_u8];omega
    have hcs:(k.map ba).set (0+i) (AV.int .u8 (IntKind.u8.wrap ((e.toNat:Nat):Int)))=(k.set i e).map ba:=by
     rw[hub,acE,List.map_set];rfl
    have hlv:live (τ1++[some (bH.cells 5 (k.map ba))]) τ1.length:=⟨5,k.map ba,by simp⟩;have hbi:((k.map ba)[0+i]?.bind λx=>some x).isSome=true:=by simp[hik]
    rw[hcs];refine⟨⟨hik,hlv⟩,hbi,?_⟩;obtain⟨τ2,hτ2⟩: ∃τ2,τ2=τ1++[some (bH.cells 5 ((k.set i e).map ba))]:=⟨_,rfl⟩;have hC2:ExI σ τ2 id mid ns k0 (kU _root_.id p (dN ns k j i) q):=by
     rw[hτ2,hτ1];exact hC1.more _
    have hat:τ2[τ1.length]?=some (some (.cells 5 ((k.set i e).map ba))):=by rw[hτ2];simp
    have hl2:st.length<=τ2.length:=by rw[hτ2,aco];omega
    have hkk:((k.set i e).map ba).length=k.length:=by simp
    refine lK.str (e:=5) (l:=k.set i e) ⟨by kernel_rfl,by kernel_rfl,by kernel_rfl,by kernel_rfl⟩ (.inr (.inr ⟨τ1.length,0,k.length,(k.set i e).map ba,rfl,by simp only[go_sem,simprocAttr,<-hτ2,hat],by simp,by rw[List.drop_zero,<-hkk,acu]⟩)) ?_;simp only[go_sem,simprocAttr,<-hτ2];refine aj.fn (R9 (k.set i e) (by omega)) ?_;obtain⟨a2,b2,c2,fr2,by2,f1,f2⟩:=hC2.ex;have hob2:=f1.sea.at_;simp only[go_sem,simprocAttr,<-hτ2,h32];refine aD.st (λ_=>FZ τ2 id ns (.mp mid) a2 b2 c2 (k.set i e) hob2 hns H.ok hkel) ?_;simp only[go_sem,simprocAttr];have hwl:=HF (k:=k) H.ok hns (by omega);refine aD.fnG (λ_=>MF (gr ns (k.set i e)) (gr ns k) (IL ns k) (by omega)) ?_;rw[Ip];simp only[go_sem,simprocAttr,h32];obtain⟨w,hw⟩: ∃w,w=(fY ns (k.set i e)).all λv=>(fY ns k).contains v:=⟨_,rfl⟩
    rw[<-hw];have hdc:decide ((10:Int)<((jd (k.set i e):Nat):Int))=decide (10<jd (k.set i e)):=decide_eq_decide.2 (by omega);rw[hdc];have hnx:nG ns k (j+1) i n=if jd (k.set i e)<=10/\w=true then [(⟨j+1,n.name,if j+1=3 then n.ver else []⟩,k.set i e)]else []:=by
     unfold nG;rw[hd]
     dsimp only
     rw[ht]
     dsimp only
     rw[<-hw,hmv];simp
    refine⟨λhz=>⟨hc2,hin,by omega,?_⟩,λhz=>?_⟩
    .rw[es,hnx,if_neg,acz]
     .exact hC2
     .rintro⟨h10,h11⟩;rw[h11]at hz;simp at hz;omega
    simp only[go_sem,simprocAttr,h32,h6];have hz':jd (k.set i e)<=10/\w=true:=by
     rw[ac1]at hz;have g1:=of_decide_eq_false hz.1;exact⟨by omega,by simpa using hz.2⟩
    obtain⟨s,hs2⟩: ∃s:bL,s=⟨j+1,n.name,if j+1=3 then n.ver else []⟩:=⟨_,rfl⟩;rw[if_pos hz',<-hs2]at hnx;have hS: ∀x:List UInt8,(τ2++[some (bH.cells 100 [.agg 100 [.int .i64 (j+1:Nat),.str n.name,.str x]])])[τ2.length]?=some (some (.cells 100 [.agg 100 [.int .i64 (j+1:Nat),.str n.name,.str x]])):=λx=>by simp
    refine cc.at [0,1,4,5,6,11,12,30,31,32] (by kernel_rfl) (λA=>A.st=τ2++[some (.cells 100 [bW s])]) (λh3=>?_) (λh3=>?_) λD hst=>?_
    .have h3':j+1=3:=by simp only[beq_iff_eq]at h3;omega
     rw[if_pos h3']at hs2;simp only[go_sem,simprocAttr,kN,ak (hS _),aO (hS _),aC (hS _)];rw[hs2];rfl
    .have h3': ¬j+1=3:=by intro h;rw[h]at h3;simp at h3
     rw[if_neg h3']at hs2;simp only[go_sem,simprocAttr];rw[hs2];rfl
    obtain⟨tt,htt⟩:=rH (κ:=_root_.id) p (dN ns k j i) q;have ha':(kU _root_.id p (dN ns k j i) q)[at_]?=some (k,p):=by
     rw[htt,acn hal];exact ha
    have hC3:=hC2.more [some (.cells 100 [bW s])];have hSs:(τ2++[some (bH.cells 100 [bW s])])[τ2.length]?=some (some (.cells 100 [bW s])):=by simp
    have hso:okM none (bW s)=True:=eq_true trivial;have hsu:unm (bW s)=bW s:=rfl;simp only[go_sem,simprocAttr,h32,hst,ak hSs,aO hSs,hso,hsu];refine aj.goes hst (hC3.put H ha' (s,k.set i e) hke) λr st5 ⟨hle5,h5⟩=>?_
    simp only[go_sem,simprocAttr,h32];rw[aco]at hle5;refine⟨hc2,hin,by omega,?_⟩;rw[es,hnx,E3];exact h5
   .rw[E2 (by omega) hj4]
    have:dN ns k j i=dN ns k j ns.length:=by rw[show i=ns.length by omega]
    exact⟨hle2,hC⟩
  simp only[go_sem,simprocAttr,h6];exact⟨hj4,ag (N:=5) (by omega) (by rw[au];omega),hle2,hC⟩
 .simp only[go_sem,simprocAttr];have e4:j=4:=by omega
  subst e4;rw[HU]at hB;exact⟨_,.refl _,hle,hle,hB⟩
end Go.Proofs.Tryz
end
section
namespace Go.Av
open Go.Proofs.Tryz
def HJ (most:Nat):List Pkg->Nat->Nat->Bool
 |[],_,_=>true
 |p::r,n,run=>if r.head?.map (·.name)=some p.name then HJ most r n (run+1)else if most<n*(run+2)then false else HJ most r (n*(run+2)) 0
end Go.Av
end
section
namespace Go.Proofs.Tryz
open Go Go.Av
set_option maxRecDepth 10000
variable {W0 :World}
theorem Wm (l:List Pkg)(hl:l.length<=1024)(m:Nat)(hm:m<=1048576):ai prog W0 31 [aL l,.int .i64 m] (.bool (HJ m l 1 0)):=by
 refine an [4] [] func31 rfl rfl ntmps31 rfl rfl (.bool _) λhs σ=>?_
 simp only[go_sem,simprocAttr,aL,acg];refine ae.upto [0,1,9] l.length (λi A=>∃ n run:Nat,A.env 10= .int .i64 i/\A.env 5= .int .i64 n/\A.env 6= .int .i64 run/\A.st=σ/\HJ m (l.drop i) n run=HJ m l 1 0/\n<=m+1/\run<=i) 0 (acj _) ?_ λi B hi ⟨n,run,h10,h5,h6,hst,hI,hn,hr⟩=>?_
 .simp only[go_sem,simprocAttr];grind
 simp only[go_sem,simprocAttr,h10,h5,h6,acg];refine⟨λhc=>?_,λhc=>?_⟩
 .obtain⟨p,hp⟩:=get_some hc;have hd:l.drop i=p::l.drop (i+1):=by
   grind [List.getElem_cons_drop]
  have hmul:n*(run+2)<=1048577*1026:=acZ (by omega) (by omega);have hw1:IntKind.i64.wrap ((run:Int)+1)=((run+1:Nat):Int):=by grind [aJ]
  have hw2:IntKind.i64.wrap (((run+1:Nat):Int)+1)=((run+2:Nat):Int):=by grind [aJ]
  have hw3:IntKind.i64.wrap ((n:Int)*((run+2:Nat):Int))=((n*(run+2):Nat):Int):=by grind [aJ]
  have hw4:IntKind.i64.wrap ((i:Int)+1)=((i+1:Nat):Int):=by grind [aJ]
  rw[hd,HJ,List.head?_drop]at hI;by_cases hlt:i+1<l.length
  .obtain⟨q,hq⟩:=get_some hlt;have hf:((i+1:Nat):Int)≠(l.length:Int):=by omega
   have hf2:(((i+1:Nat):Int)==(l.length:Int))=false:=by simp_all
   simp only[go_sem,simprocAttr,hw1,hw2,hw3,hw4,hf2,hst,ay,aw hp,aw hq,hc,hlt];rw[hq,Option.map_some]at hI;refine⟨.of (by kernel_rfl),λhne=>⟨λhm1=>ar ?_,λhm1=>⟨_,0,rfl,rfl,?_,by omega,acj _⟩⟩,λhe=>⟨n,run+1,rfl,rfl,?_,hn,by omega⟩⟩
   .simp_all
   .grind
   simp_all
  .have hf:((i+1:Nat):Int)=(l.length:Int):=by omega
   have hf2:(((i+1:Nat):Int)==(l.length:Int))=true:=by simp_all
   simp only[go_sem,simprocAttr,hw1,hw2,hw3,hw4,hf2,hst,ay,aw hp,uO];rw[List.getElem?_eq_none (by omega),Option.map_none,if_neg (by simp)]at hI;have hel:i+1=l.length:=by omega
   refine⟨.of (by kernel_rfl),λh=>absurd hel h,λh=>absurd hel h,λh=>absurd hel h,λh=>absurd hel h,λh=>absurd hel h,λhm1=>ar ?_,λhm1=>⟨hc,_,0,rfl,rfl,?_,by omega,acj _⟩⟩
   .simp_all
   grind
 .rw[List.drop_of_length_le hc]at hI;exact⟨ar (by rw[<-hI];rfl),by simp_all⟩
end Go.Proofs.Tryz
end
section
namespace Go.Av
open Go.Proofs.Tryz
def jL (s:List aA)(p:Pkg):Bool:=match cF s p.name with
 |none=>true
 |some x=>!bt x.pkg.ver p.ver
theorem Ga (repo:List Pkg)(s:List aA):dU repo s=s.map (·.pkg)++repo.filter (jL s):=rfl
theorem zh {l:List Pkg}(h:aZ l=0):l.length<=24:=by
 grind [aZ]
theorem gZ {s:List aA}(h:bJ s=0):s.length<=10:=by
 grind [bJ]
end Go.Av
end
section
namespace Go.Proofs.Tryz
open Go Go.Av
set_option maxRecDepth 10000
variable {W0 :World}
theorem IV (s:List aA)(n:List UInt8):(iS (λx:aA=>x.pkg.name==n) s= -1/\cF s n=none)\/ ∃k x,s[k]?=some x/\cF s n=some x/\iS (λx:aA=>x.pkg.name==n) s=(k:Nat):=by
 rcases dO (λx:aA=>x.pkg.name==n) s with⟨h1,h2⟩|⟨k,p,h1,h2,h3,h4⟩
 .exact .inl ⟨h1,acN.2 λx hx=>by simp_all⟩
 .exact .inr ⟨k,p,h1,js h1 h2 h3,h4⟩
theorem TQ (repo:List Pkg)(s:List aA):ai prog W0 22 [aL repo,aK s] (.tup [aL (c7 repo s).1,.int .i64 (c7 repo s).2]):=by
 refine an [4,5] [10,12] func22 rfl rfl ntmps22 rfl rfl (.qT (kA _) (.int _ _)) λhs σ=>?_
 simp only[go_sem,simprocAttr];refine aj.fn (Ou repo) ?_;simp only[go_sem,simprocAttr];refine⟨λhc=>?_,λhc=>?_⟩
 .have:c7 repo s=([],aZ repo):=by grind [c7]
  rw[this];exact dh (.sub (.aq _)) (.refl _)
 refine aj.fn (Hj s) ?_;simp only[go_sem,simprocAttr];refine⟨λhc2=>?_,λhc2=>?_⟩
 .have:c7 repo s=([],bJ s):=by grind [c7]
  rw[this];exact dh (.sub (.aq _)) (.refl _)
 have h24:=zh hc;have h10:=gZ hc2;simp only[go_sem,simprocAttr,aK,acg];refine ae.at [0,1,24,25] (λA=>∃ v,A.env 8=v/\aH σ A.st v 51 ((s.map (·.pkg)).map ay)) ?_ λB ⟨v,h3,hb⟩=>?_
 .refine ae.upto [0,1,24,25] s.length (λi A=>∃ v,A.env 8=v/\A.env 26= .int .i64 i/\aH σ A.st v 51 (((s.take i).map (·.pkg)).map ay)) 0 (acj _) ?_ λi B hi ⟨v,h3,h8,hb⟩=>?_
  .simp only[go_sem,simprocAttr];simp[aH.nil,Ext.refl]
  simp only[go_sem,simprocAttr,h3,h8,hb.ok,hb.un,acg];refine⟨λhlt=>⟨hlt,?_⟩,λhlt=>?_⟩
  .obtain⟨x,hx⟩:=get_some hlt;simp only[aw hx];have hb1:=hb.more [none];simp only[go_sem,simprocAttr,bf,ay];refine bq.own 733007751829 (by kernel_rfl) hb1.bld (.lit _ _ _) (by grind) λv' σ' ha'=>?_
   have hb':=hb1.app ha';simp only[go_sem,simprocAttr,h8];refine⟨hlt,_,rfl,ag hlt (by grind [au]),?_⟩;rw[ah hx,acs,acs];exact hb'
  grind
 have hfind: ∀n,ai prog W0 21 [.sl 53 (s.map bf),.str n] (.int .i64 (iS (λx:aA=>x.pkg.name==n) s)):=λn=>by
  grind [QC,aK]
 simp only[go_sem,simprocAttr,aL,acg];refine ae.at [1,36,37] (λA=>∃ v,A.env 8=v/\aH σ A.st v 51 ((dU repo s).map ay)) ?_ λB2 ⟨v2,h4,hb2⟩=>?_
 .refine ae.upto [1,36,37] repo.length (λi A=>∃ v,A.env 8=v/\A.env 38= .int .i64 i/\aH σ A.st v 51 ((s.map (·.pkg)++(repo.take i).filter (jL s)).map ay)) 0 (acj _) ?_ λi B2 hi ⟨v2,h4,h38,hb2⟩=>?_
  .simp only[go_sem,simprocAttr,h3];simp_all
  simp only[go_sem,simprocAttr,h4,h38,acg];refine⟨λhlt=>⟨hlt,?_⟩,λhlt=>?_⟩
  .obtain⟨p,hp⟩:=get_some hlt;have hlen:((repo.take i).filter (jL s)).length<=24:=ac8 (acG _ _) (by grind);simp only[aw hp];have hb3:=hb2.more [none];simp only[go_sem,simprocAttr,ay];refine aj.fn (hfind p.name) ?_;have hgo: ∀b,jL s p=b->(repo.take (i+1)).filter (jL s)=(repo.take i).filter (jL s)++(if b=true then [p]else []):=λb hb=>by
    simp_all[ah,adb]
   rcases IV s p.name with⟨g1,g2⟩|⟨k,x,g1,g2,g3⟩
   .have hj:jL s p=true:=by grind [jL]
    rw[g1];simp only[go_sem,simprocAttr];refine⟨.of (by kernel_rfl),aD.fnG (r:=.bool false) (λh=>(ac6 h).elim) ?_⟩;simp only[go_sem,simprocAttr,h4,h38,hb2.ok,hb2.un];refine bq.own 733007751829 (by kernel_rfl) hb3.bld (.lit _ _ _) (by grind) λv' σ' ha'=>?_
    have hb':=hb3.app ha';simp only[go_sem,simprocAttr,h38];refine⟨hlt,_,rfl,ag hlt (by grind [au]),?_⟩;rw[hgo true (by rw[hj]),if_pos rfl,<-acF,acs];exact hb'
   .rw[g3];have hkl:=(acf.1 g1).1;have hk0:decide ((k:Int)<0)=false:=decide_eq_false (by omega);simp only[go_sem,simprocAttr,hk0,aw g1,bf,ay,acg];refine⟨.of (by kernel_rfl),hkl,aD.fnG (λ_=>oz x.pkg.ver p.ver) ?_⟩;have hj:jL s p= !bt x.pkg.ver p.ver:=by grind [jL]
    simp only[go_sem,simprocAttr,h4,h38,hb2.ok,hb2.un];refine⟨λhv=>?_,λhv=>⟨hlt,_,rfl,ag hlt (by grind [au]),?_⟩⟩
    .refine bq.own 733007751829 (by kernel_rfl) hb3.bld (.lit _ _ _) (by grind) λv' σ' ha'=>?_
     have hb':=hb3.app ha';simp only[go_sem,simprocAttr,h38];refine⟨hlt,_,rfl,ag hlt (by grind [au]),?_⟩;rw[hgo true (by simp_all),if_pos rfl,<-acF,acs];exact hb'
    simp_all
  .rw[ach hlt]at hb2;exact⟨_,rfl,hb2⟩
 have hjl:(dU repo s).length<=1024:=by
  grind [Ga]
 have hlen:oU v2= .int .i64 (dU repo s).length:=by rw[hb2.len,acg]
 have hlc:=λt=>hb2.gn prog t
 simp only[go_sem,simprocAttr,h4,hb2.ok,hb2.un,hlen,hlc];refine aD.fnG (λ_=>(zC (dU repo s) hjl).bS (.cons hb2.bS .nil)) ?_;simp only[go_sem,simprocAttr,h4,hb2.ok,hb2.un,acg];have hnl:=M0 (dU repo s);refine⟨λhm=>⟨?_,hb2.ext⟩,λhm=>?_⟩
 .have:c7 repo s=([],12):=by
   grind [c7]
  rw[this];exact dh (.sub (.aq _)) (.refl _)
 .have:c7 repo s=(cO (dU repo s),0):=by
   grind [c7]
  refine aj.fn ((Ir (dU repo s) hjl).bS (.cons hb2.bS .nil)) ?_;rw[this];simp only[go_sem,simprocAttr];exact⟨.refl _,hb2.ext⟩
theorem FU (repo:List Pkg)(s:List aA):(c7 repo s).1.length<=24:=by
 unfold c7;split
 .simp
 split
 .simp
 split
 .simp
 grind [adk,ey]
end Go.Proofs.Tryz
end
