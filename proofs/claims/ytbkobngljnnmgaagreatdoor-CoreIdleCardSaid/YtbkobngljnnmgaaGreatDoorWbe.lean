/- What the last text of this claim rests on. No conditions. -/
import Derived.Test.YtbkobngljnnmgaaGreatDoorWad
import Derived.Test.YtbkobngljnnmgaaGreatDoorWal
import Derived.Test.YtbkobngljnnmgaaGreatDoorWas
import Derived.Test.YtbkobngljnnmgaaGreatDoorWaw
import Derived.Test.YtbkobngljnnmgaaGreatDoorWay
import Derived.Test.YtbkobngljnnmgaaGreatDoorWba
import Derived.Test.YtbkobngljnnmgaaGreatDoorWbc
import Derived.Test.YtbkobngljnnmgaaGreatDoorWbd
set_option linter.unusedSimpArgs false
set_option linter.unusedVariables false
open List renaming getElem?_eq_some_iff->acG,length_map->acH,take_of_length_le->acI,getElem?_map->acJ,mem_of_getElem?->acM,getElem?_append_left->acN,length_append->acO,getElem?_set_self->acP,mem_singleton->acR,map_append->acS,take_length->acT,length_nil->acU,length_take->acV,mem_append->acX,append_nil->acY,getElem?_set_ne->acZ,mem_map->ac0,foldl_append->ac1,getElem?_eq_getElem->ac2,append_assoc->ac4,length_filter_le->ac5,length_cons->ac6,getElem_toArray->ac7,mem_append_left->ac8,length_pos_iff->ac9,mem_cons_self->adb,find?_eq_none->ade,getElem?_zip_eq_some->adf,mem_flatMap->adi,length_set->adl,length_mergeSort->adm,mem_append_right->adn,mem_of_mem_take->adr,getElem_of_mem->adt,mergeSort_perm->adu,flatMap_append->adv,flatMap_cons->adC,all_eq_false->adD,filter_cons->adE,flatMap_nil->adF,all_eq_true->adG,mem_filter->adH
open Nat renaming zero_le->acK,zero_add->ac3,add_zero->ada,le_refl->adg,or_lt_two_pow->adh,mul_one->ado,pow_le_pow_right->adp,mul_le_mul->adq,lt_of_le_of_lt->adw,zero_mul->adA,le_trans->adB,and_le_left->adK
open Option renaming getD_some->acL,isSome_some->acQ,map_eq_some_iff->adj
open BitVec renaming toNat_ofInt->acW,toNat_or->adI
open Bool renaming eq_iff_iff->adk,or_eq_false_iff->ads,false_ne_true->adz
open UInt8 renaming toNat_inj->adJ
open List.Perm renaming length_eq->adL
section
namespace Go.Av
open Go Go.Sort Go.Proofs
section
variable {P :Program}{W0 w:World}{C:Ctx}{σ:ab}
theorem row_one {α:Type} [Inhabited α] {av:α->AV}{enc:α->Value}{te:TypeId}(hsz:af P te=1)(ho: ∀x cs,Rel P w C (av x) cs->cs=[enc x])(hst:aE P W0 w C σ){id n:Nat}{xs:List α}(hid:σ[id]?=some (some (.cells te (xs.map av)))){v:Value}(h1:Rel P w C (.row te id 0 n) [v])(hn:n=xs.length)(h0:xs≠[]):
  ∃b base room cap,C.m id=some (.obj b te base room)/\v= .slice (some ⟨b,base,none⟩) xs.length cap/\xs.length<=cap/\cap<=maxLen/\base+cap=room/\b<w.heap.size/\Holds enc w b base xs.toArray/\ ∀x∈xs,Rel P w C (av x) [enc x]/\fits P te (av x):=by
 obtain⟨b,base,room,arr,t',fr,m1,m2,mf,m3,m4,cf,m5⟩:=hst.cells hid;have hpos:0<xs.length:=ac9.2 h0;rw[hsz,acH,ado]at m4;subst hn;cases h1 with
 |row hn hc hi hoo=>
 rename_i a cap;obtain⟨b',base',room',e1,e2,e3⟩:=hoo _ m1;cases e1;have e4:=e2 (by omega);subst e4;rw[hsz,adA,ada];rw[hsz,ac3,ado]at e3;have hx: ∀(j:Nat) (x:α),xs[j]?=some x->Rel P w C (av x) [enc x]/\fits P te (av x)/\arr[base+j]?=some (enc x):=λj x hj=>by
  have hj2:(xs.map av)[j]?=some (av x):=by rw[acJ,hj];rfl
  obtain⟨r1,r2,r3,r4⟩:=m5 j _ hj2;have e:=ho _ _ r1;rw[e]at r1 r4;have:=r4 0 _ rfl;rw[hsz,ado,ada]at this;exact⟨r1,r3,this⟩
 refine⟨b,base,room,cap,m1,rfl,hn,hc,e3,(Array.getElem?_eq_some_iff.1 m2).1,λj hj=>?_,λx hx2=>?_⟩
 .have hj':j<xs.length:=by simpa using hj
  obtain⟨x,hxj⟩:=get_some hj';obtain⟨_,_,h3⟩:=hx j x hxj;refine⟨?_,qT (n:=0) m2 mf (by omega)⟩;have e:xs.toArray[j]! =x:=by
   rw[getElem!_pos xs.toArray j hj,ac7];exact(acG.1 hxj).2
  rw[e];grind [World.cell?]
 .obtain⟨j,hj,rfl⟩:=adt hx2;have:=hx j _ (ac2 hj);exact⟨this.1,this.2.1⟩
theorem Dj {α:Type} [Inhabited α] {av:α->AV}{enc:α->Value}{te:TypeId}(hsz:af P te=1)(hst:aE P W0 w C σ){id:Nat}{xs ys:List α}(hid:σ[id]?=some (some (.cells te (xs.map av)))){b base room:Nat}(n:Nat)(os:Array Obj)(hm:C.m id=some (.obj b te base room))(hl:ys.length=xs.length)(hr: ∀y∈ys,Rel P w C (av y) [enc y]/\fits P te (av y)):
  Step w C (grow (putRow enc (Sort.ahead w n) b base ys.toArray) os) C/\aE P W0 (grow (putRow enc (Sort.ahead w n) b base ys.toArray) os) C (σ.set id (some (.cells te (ys.map av)))):=by
 rw[vE];refine hst.BH (fl:=ys.toArray.map enc) (n:=n) (os:=os) (ys:=ys.map av) (k:=1) hid hm hsz (by simp[hl]) (by simp[hl]) λi y hy=>?_
 rw[acJ]at hy;obtain⟨x,hx,rfl⟩:=adj.1 hy;obtain⟨r1,r2⟩:=hr x (acM hx);refine⟨[enc x],r1,rfl,r2,λj c hc=>?_⟩;obtain _|j:=j
 .cases hc;simp[hx]
 .cases hc
theorem zR (w:World):grow w #[]=w:=by
 unfold grow;simp
theorem KA {x:List UInt8}{cs:List Value}(h:Rel P w C (.str x) cs):cs=[encStr x]:=by cases h;rfl
theorem KE {x:Int}{cs:List Value}(h:Rel P w C (.int .i64 x) cs):cs=[.int .i64 x]:=by cases h;rfl
end
end Go.Av
end
section
namespace Go.Proofs.Tryz
open Go Go.Av Go.Sort Go.Proofs
set_option maxRecDepth 100000
set_option maxHeartbeats 1000000
variable {W0 :World}
theorem wO (σ:ab)(id:Nat)(xs:List (List UInt8))(hid:σ[id]?=some (some (.cells 9 (xs.map (.str)))))(h0:xs≠[])(hx:xs.length<=1000000):
  aS prog W0 216 [.row 9 id 0 xs.length] σ λr σ'=>r= .tup []/\σ'=σ.set id (some (.cells 9 ((xs.mergeSort λx y=>decide (x<=y)).map (.str)))):=λw C vs hst hl hv=>by
 obtain _|⟨v1,_|⟨_,_⟩⟩:=vs<;>simp at hl
 have h1:=(hv 0 _ _ rfl rfl).aH rfl;obtain⟨b,base,room,cap,m1,rfl,c1,c2,c3,hb,hH,hr⟩:=row_one (enc:=encStr) (by kernel_rfl) (λx cs h=>KA h) hst hid h1 rfl h0;refine .inl ⟨⟨_,func216,by kernel_rfl,by kernel_rfl⟩,?_⟩;refine(Any.slices_Sort_string Tryz.sortStr b base cap xs w hH hb (by omega)).mono λe w' ⟨he,n,os,hw⟩=>?_
 have hp:=adu xs λx y=>decide (x<=y)
 obtain⟨s1,s2⟩:=Dj (enc:=encStr) (by kernel_rfl) hst hid n os m1 hp.length_eq λy hy=>hr y (hp.mem_iff.1 hy)
 subst hw;exact⟨_,.tup [],_,C,he,⟨rfl,rfl⟩,s2,.tup rfl (λi a v h=>by simp at h),s1⟩
theorem tW :ai prog W0 216 [.ar] (.tup []):=by
 refine jc func216 (by kernel_rfl) (by kernel_rfl) λw C vs hb hlow hvl hv=>?_
 obtain _|⟨v1,_|⟨_,_⟩⟩:=vs<;>simp at hvl
 have h1:=(hv 0 _ _ rfl rfl).aH rfl;cases h1;refine(Any.slices_Sort_string_none Tryz.sortStr none 0 w).mono λe w' ⟨he,hw⟩=>?_
 subst hw;exact⟨_,he,.tup rfl (λi a v h=>by simp at h),RowKit.Below.refl _ _⟩
theorem I6 (σ:ab)(id:Nat)(xs:List (Int))(hid:σ[id]?=some (some (.cells 3 (xs.map (.int .i64)))))(h0:xs≠[])(hx:xs.length<=1000000):
  aS prog W0 270 [.row 3 id 0 xs.length] σ λr σ'=>r= .tup []/\σ'=σ.set id (some (.cells 3 ((xs.mergeSort λx y=>decide (x<=y)).map (.int .i64)))):=λw C vs hst hl hv=>by
 obtain _|⟨v1,_|⟨_,_⟩⟩:=vs<;>simp at hl
 have h1:=(hv 0 _ _ rfl rfl).aH rfl;obtain⟨b,base,room,cap,m1,rfl,c1,c2,c3,hb,hH,hr⟩:=row_one (enc:=Value.int .i64) (by kernel_rfl) (λx cs h=>KE h) hst hid h1 rfl h0;refine .inl ⟨⟨_,func270,by kernel_rfl,by kernel_rfl⟩,?_⟩;refine(Any.slices_Sort_int Tryz.sortInt b base cap xs w hH hb (by omega)).mono λe w' ⟨he,n,os,hw⟩=>?_
 have hp:=adu xs λx y=>decide (x<=y)
 obtain⟨s1,s2⟩:=Dj (enc:=Value.int .i64) (by kernel_rfl) hst hid n os m1 hp.length_eq λy hy=>hr y (hp.mem_iff.1 hy)
 subst hw;exact⟨_,.tup [],_,C,he,⟨rfl,rfl⟩,s2,.tup rfl (λi a v h=>by simp at h),s1⟩
theorem Ge :ai prog W0 270 [.ar] (.tup []):=by
 refine jc func270 (by kernel_rfl) (by kernel_rfl) λw C vs hb hlow hvl hv=>?_
 obtain _|⟨v1,_|⟨_,_⟩⟩:=vs<;>simp at hvl
 have h1:=(hv 0 _ _ rfl rfl).aH rfl;cases h1;refine(Any.slices_Sort_int_none Tryz.sortInt none 0 w).mono λe w' ⟨he,hw⟩=>?_
 subst hw;exact⟨_,he,.tup rfl (λi a v h=>by simp at h),RowKit.Below.refl _ _⟩
theorem Jh (xs:List (List UInt8)):(Lib.compact xs).length<=xs.length:=by
 unfold Lib.compact Lib.compactUpTo;rw[acH];exact adB (ac5 _ _) (by simp)
theorem Kd (σ:ab)(id:Nat)(xs:List (List UInt8))(hid:σ[id]?=some (some (.cells 9 (xs.map .str))))(h0:xs≠[])(hx:xs.length<=1000000):
  aS prog W0 217 [.row 9 id 0 xs.length] σ λr σ'=>r= .row 9 id 0 (Lib.compact xs).length/\σ'=σ.set id (some (.cells 9 ((Lib.compact xs++List.replicate (xs.length-(Lib.compact xs).length) []).map .str))):=λw C vs hst hl hv=>by
 obtain _|⟨v1,_|⟨_,_⟩⟩:=vs<;>simp at hl
 have h1:=(hv 0 _ _ rfl rfl).aH rfl;obtain⟨b,base,room,cap,m1,rfl,c1,c2,c3,hb,hH,hr⟩:=row_one (enc:=encStr) (by kernel_rfl) (λx cs h=>KA h) hst hid h1 rfl h0;refine .inl ⟨⟨_,func217,by kernel_rfl,by kernel_rfl⟩,?_⟩;refine(Any.slices_Compact_string Tryz.Li b base cap xs w hH (by omega) c1).mono λe w' ⟨he,q,hw⟩=>?_
 have hle:=Jh xs;have hsz:af prog 9=1:=by kernel_rfl
 obtain⟨s1,s2⟩:=Dj (enc:=encStr) (ys:=Lib.compact xs++List.replicate (xs.length-(Lib.compact xs).length) []) hsz hst hid q #[] m1 (by simp;omega) λy hy=>by
  rcases acX.1 hy with hy|hy
  .refine hr y ?_;unfold Lib.compact Lib.compactUpTo at hy;obtain⟨j,hj,rfl⟩:=ac0.1 hy;have hj':j<xs.length:=by simpa using (adH.1 hj).1
   simp[getElem!_pos,hj']
  .rw[(List.mem_replicate.1 hy).2];exact⟨.str (by simp),⟨rfl,by kernel_rfl⟩⟩
 rw[zR]at s1 s2;subst hw;have hil:id<C.nx:=by
  rw[hst.nx];exact(acG.1 hid).1
 refine⟨_,_,_,C,he,⟨rfl,rfl⟩,s2,.one rfl (.row (by omega) c2 hil λow how=>?_),s1⟩;rw[m1]at how;cases how;exact⟨b,base,room,rfl,λ_=>by rw[hsz,adA,ada],by rw[hsz];omega⟩
theorem IX :ai prog W0 217 [.ar] .ar:=by
 refine jc func217 (by kernel_rfl) (by kernel_rfl) λw C vs hb hlow hvl hv=>?_
 obtain _|⟨v1,_|⟨_,_⟩⟩:=vs<;>simp at hvl
 have h1:=(hv 0 _ _ rfl rfl).aH rfl;cases h1;refine(Any.slices_Compact_string_empty Tryz.Li none 0 w).mono λe w' ⟨he,hw⟩=>?_
 subst hw;exact⟨_,he,.one rfl .ar,RowKit.Below.refl _ _⟩
theorem Xr (l:List Int)(x:Int)(hs:l.Pairwise (· <= ·))(hl:l.length<=1048576):ai prog W0 271 [.sl 3 (l.map (.int .i64)),.int .i64 x] (.tup [.int .i64 (l.countP (· <x):Nat),.bool (l.contains x)]):=by
 refine mO func271 (by kernel_rfl) (by kernel_rfl) λw C vs hvl hv=>?_
 obtain _|⟨v1,_|⟨v2,_|⟨_,_⟩⟩⟩:=vs<;>simp at hvl
 have h1:=hv 0 _ _ rfl rfl;have h2:=(hv 1 _ _ rfl rfl).aH rfl;cases h2;have hr: ∀w C,aJ prog w C (.tup [.int .i64 (l.countP (· <x):Nat),.bool (l.contains x)]) (.tuple #[.int .i64 (l.countP (· <x):Nat),.bool (l.contains x)]):=λw C=>by
  refine .tup (vs:=[_,_]) rfl λi a v ha hv=>?_
  match i,ha,hv with
  |0,ha,hv=>cases ha;cases hv;exact .one rfl (.int _ _)
  |1,ha,hv=>cases ha;cases hv;exact .one rfl (.bool _)
 obtain⟨ad,cap,cf,rfl,x1,x2,x3,x4,x5⟩:=(h1.aH rfl).nT (e:=3) (xs:=l.map (.int .i64)) (.inl rfl);have hml:(l.map (AV.int .i64)).length=l.length:=acH ..;rw[hml]at x1 x5 ⊢;have hsz:af prog 3=1:=by kernel_rfl
 by_cases hl0:l=[]
 .subst hl0;exact(Any.slices_BinarySearch_int_empty Tryz.Xl ad cap x w).mono λe w' ⟨he,hw⟩=>⟨_,he,hr,hw▸RowKit.Below.refl _ _⟩
 have hpos:0<l.length:=ac9.2 hl0;obtain⟨b,o,rfl,hc⟩:=x5 hpos;have hcell: ∀j,j<l.length->w.cell? ⟨b,o+j,none⟩=some (.int .i64 (l.getD j 0)):=λj hj=>by
  obtain⟨y,hy⟩:=get_some hj;have hjs:(l.map (AV.int .i64))[j]?=some (.int .i64 y):=by rw[acJ,hy];rfl
  have hcf:cf j=[.int .i64 y]:=KE (x3 j _ hjs);have:=hc j hj 0 (.int .i64 y) (by rw[hcf];rfl);rw[hsz,ado,ada]at this;rw[this.1,List.getD_eq_getElem?_getD,hy];rfl
 have hj:=Any.slices_BinarySearch_int Tryz.Xl b o l.length cap l x w (adg _) (by omega) hcell (by rw[acT];exact hs);rw[acT]at hj;refine hj.mono λe w' ⟨he,q,hw⟩=>⟨_,he,hr,?_⟩
 subst hw;exact⟨rfl,rfl,rfl,adg _,λ_ _=>rfl⟩
end Go.Proofs.Tryz
end
section
namespace Go.Proofs.Tryz
open Go Go.Av
set_option maxRecDepth 10000
set_option maxHeartbeats 1000000
variable {W0 :World}
def eO (m:Nat):AV:=.int .u64 (m:Nat)
def fD (l:List Nat):AV:=.sl 274 (l.map eO)
theorem Ld {e:Nat}(he:e<=60):IntKind.u64.wrap ((2:Int)^e)=((2^e:Nat):Int):=by
 have h1:2^e<=2^60:=adp (by decide) he;have h2:(2:Int)^e=((2^e:Nat):Int):=by rw[Int.natCast_pow];rfl
 rw[h2,IntKind.wrap_u64];generalize 2^e=x at *;omega
theorem wv (i:Nat)(w:Bool)(hi:i<=20):ai prog W0 218 [.int .i64 i,.bool w] (eO (nH i w)):=by
 refine ak [4] [] func218 rfl rfl ntmps218 rfl rfl (.int _ _) λhs σ=>?_
 have h1:IntKind.i64.wrap (2*(i:Int))=((2*i:Nat):Int):=by rw[aG (by omega)];omega
 have h2:IntKind.i64.wrap (((2*i:Nat):Int)+1)=((2*i+1:Nat):Int):=by rw[aG (by omega)];omega
 have m1:min (2*i) 64=2*i:=by omega
 have m2:min (2*i+1) 64=2*i+1:=by omega
 simp only[go_sem,simprocAttr,h1,h2,Int.toNat_natCast,m1,m2,Int.one_mul,Ld (show 2*i<=60 by omega),Ld (show 2*i+1<=60 by omega)];refine⟨λh=>⟨by omega,?_⟩,λh=>⟨by omega,?_⟩⟩
 .rw[if_neg (by omega),h];exact .refl _
 .rw[if_neg (by omega),h];exact .refl _
theorem Nb (a b:Nat)(ha:a<2^60)(hb:b<2^60):bits .or .i64 (a:Int) (b:Int)=((a ||| b:Nat):Int):=by
 have h1:(BitVec.ofInt 64 (a:Int)).toNat=a:=by simp[acW];omega
 have h2:(BitVec.ofInt 64 (b:Int)).toNat=b:=by simp[acW];omega
 have h3:=adh ha hb;show IntKind.i64.wrap ((BitVec.ofInt 64 (a:Int) ||| BitVec.ofInt 64 (b:Int)).toNat:Int)=_;rw[adI,h1,h2];exact aG (by omega)
theorem CD {a b e:Nat}(hb:b<2^e)(ha:a*2^e+b<2^60):bits .or .i64 ((a*2^e:Nat):Int) ((b:Nat):Int)=((a*2^e+b:Nat):Int):=by
 have h1:=Nat.two_pow_add_eq_or_of_lt hb a;rw[Nat.mul_comm]at h1;rw[h1];exact Nb _ _ (by omega) (by omega)
theorem sc (kind n:Nat)(pre:Bool)(i o:Nat)(hk:kind<=3)(hn:n<256)(hi:i<16)(ho:o<256):ai prog W0 309 [.int .i64 kind,.int .i64 n,.bool pre,.int .i64 i,.int .i64 o] (.int .i64 (Nx kind n pre i o:Nat)):=by
 refine ak [10] [] func309 rfl rfl ntmps309 rfl rfl (.int _ _) λhs σ=>?_
 have w1:IntKind.i64.wrap ((kind:Int)*256)=((kind*2^8:Nat):Int):=by rw[aG (by omega)];omega
 have o1:=CD (a:=kind) (b:=n) (e:=8) (by omega) (by omega);obtain⟨a,ha⟩: ∃a,a=kind*2^8+n:=⟨_,rfl⟩;rw[<-ha]at o1;have hab:a<=1023:=by omega
 have w2:IntKind.i64.wrap ((a:Int)*2)=((a*2^1:Nat):Int):=by rw[aG (by omega)];omega
 have o2:=CD (a:=a) (b:=1) (e:=1) (by omega) (by omega);generalize hks:kind*2^8=ks at *;obtain⟨a2,ha2⟩: ∃a2,a2=a*2^1:=⟨_,rfl⟩;rw[<-ha2]at w2 o2;obtain⟨b,hb⟩: ∃b,b=a2+if pre=true then 1 else 0:=⟨_,rfl⟩;have hbl:b<=2047:=by rw[hb];split<;>omega
 have w3:IntKind.i64.wrap ((b:Int)*16)=((b*2^4:Nat):Int):=by rw[aG (by omega)];omega
 have o3:=CD (a:=b) (b:=i) (e:=4) (by omega) (by omega);obtain⟨c,hc⟩: ∃c,c=b*2^4+i:=⟨_,rfl⟩;rw[<-hc]at o3;have hcl:c<=32767:=by omega
 generalize hbs:b*2^4=bs at *;have w4:IntKind.i64.wrap ((c:Int)*256)=((c*2^8:Nat):Int):=by rw[aG (by omega)];omega
 have o4:=CD (a:=c) (b:=o) (e:=8) (by omega) (by omega);generalize hcs:c*2^8=cs at *;have hN:Nx kind n pre i o=cs+o:=by
  unfold Nx;cases pre<;>simp only[if_pos,if_neg,Bool.false_eq_true,if_false,if_true]at hb ⊢ <;>omega
 rw[hN];have m8:(2:Int)^min 8 64=256:=rfl;have m1:(2:Int)^min 1 64=2:=rfl;have m4:(2:Int)^min 4 64=16:=rfl;simp only[go_sem,simprocAttr];refine cm.at [3,4] (by kernel_rfl) (λA=>A.env 11= .int .i64 (b:Nat)/\A.st=σ) (λh=>?_) (λh=>?_) λB ⟨h11,hst⟩=>?_
 .simp only[go_sem,simprocAttr];rw[hb,if_pos h,m8,m1,w1,o1,w2];exact congrArg _ o2
 .simp only[go_sem,simprocAttr];rw[hb,if_neg (by rw[h];simp),m8,m1,w1,o1,w2];rfl
 simp only[go_sem,simprocAttr,h11];rw[m8,m4,w3,o3,w4,o4];exact⟨.refl _,by rw[hst,acT]⟩
theorem wM {k:List UInt8}{i:Nat}{c:UInt8}(h:k[i]?=some c):jb (k.take (i+1))=jb (k.take i)+if c=0 then 0 else 1:=by
 unfold jb;rw[ah h,List.filter_append,acO,adE,List.filter_nil];by_cases hc:c=0<;>simp[hc]
theorem PM (k:List UInt8)(hk:k.length<=20):ai prog W0 223 [.str k] (.int .i64 (jb k:Nat)):=by
 refine jJ [2] [5000007] func223 rfl rfl ntmps223 rfl rfl (.int _ _) λhs σ=>?_
 simp only[go_sem,simprocAttr];refine lI.bytes (e:=5) ⟨by kernel_rfl,by kernel_rfl,by kernel_rfl,by kernel_rfl,by kernel_rfl⟩ ?_;have hid:(σ++[some (bJ.cells 5 (k.map ba))])[σ.length]?=some (some (.cells 5 (k.map ba))):=by simp
 simp only[go_sem,simprocAttr];refine ae.at [] (λA=>A.env 3= .int .i64 (jb k:Nat)/\A.st=σ++[some (.cells 5 (k.map ba))]) ?_ λB ⟨h3,hst⟩=>?_
 .refine ae.upto [7,8] k.length (λi A=>A.env 9= .int .i64 i/\A.env 3= .int .i64 (jb (k.take i):Nat)/\A.st=σ++[some (.cells 5 (k.map ba))]) 0 (acK _) ?_ λi B hi ⟨h9,h3,hst⟩=>?_
  .simp only[go_sem,simprocAttr];rfl
  simp only[go_sem,simprocAttr,h9,h3];refine⟨λhc=>?_,λhc=>?_⟩
  .obtain⟨c,hci⟩:=get_some hc;have hg:((k.map ba)[0+i]?.bind λx=>some x)=some (.int .u8 (c.toNat:Nat)):=by
    rw[ac3,acJ,hci];rfl
   have hcl:jb (k.take i)<=i:=by
    have h1:=ac5 (· !=0) (k.take i);rw[acV]at h1;unfold jb;omega
   have hin:AV.int .i64 (IntKind.i64.wrap ((i:Int)+1))= .int .i64 (i+1:Nat):=ag hc (by rw[aq];omega);have hz:((c.toNat:Nat):Int)=0↔c=0:=by
    rw[Int.natCast_eq_zero];exact⟨λh=>adJ.1 h,λh=>by rw[h];rfl⟩
   simp only[go_sem,simprocAttr,h9,h3,hst,an hid,aP hid,hg,acL,acQ,hz];refine⟨hc,λh=>⟨hc,hin,?_⟩,λh=>⟨hc,hin,?_⟩⟩
   .rw[wM hci,if_neg h,aG (by omega)];rfl
   .rw[wM hci,if_pos h];rfl
  .exact⟨by rw[acI hc],hst⟩
 simp only[go_sem,simprocAttr,h3];refine bz.ret ?_;simp only[go_sem,simprocAttr,hst]
theorem vf (t:List Pkg)(n:List UInt8):ai prog W0 158 [aI t,.str n] (.tup [ax ((gy t n).getD xJ),.bool (gy t n).isSome]):=by
 refine kD [.cell 4 51,.tmp 5] [7] func158 rfl rfl ntmps158 rfl rfl (.rj (rB _) (.bool _)) λhs σ=>?_
 have hl:=(aL (hs _ (adb ..))).1;simp only[go_sem,simprocAttr,aI,acH];obtain⟨z,hz⟩: ∃z:Option bJ,z=some (.cells 51 [.agg 51 [.str [],.str [],.ar,.ar,.ar,.ar,.ar,.ar,.bool false]]):=⟨_,rfl⟩;rw[<-hz];have hz0:(σ++[z])[σ.length]?=some z:=by simp
 refine ae.at [4] (λA=>A.st[σ.length]?=some z/\Ext (σ++[z]) A.st/\gy t n=none) ?_ λB ⟨h4,hst,hn⟩=>?_
 .refine ae.upto [1,4,8,9] t.length (λi A=>A.env 10= .int .i64 i/\Ext (σ++[z]) A.st/\ ∀q∈t.take i,(q.name==n)=false) 0 (acK _) ?_ λi B hi ⟨h10,hst,hI⟩=>?_
  .simp only[go_sem,simprocAttr];exact⟨.refl _,by simp⟩
  simp only[go_sem,simprocAttr,h10,acH];refine⟨λhc=>⟨hc,?_⟩,λhc=>?_⟩
  .obtain⟨p,hp⟩:=get_some hc;simp only[aw hp];have hid2:(B.st++[none])[σ.length]?=some z:=Ext.keep (hst.app [none]) hz0;have hxt:Ext σ (B.st++[none]):=Ext.low (hst.app [none]);rw[hz]at hid2;simp only[go_sem,simprocAttr,h10,ax,an hid2,aC hid2];refine⟨λh=>?_,λh=>?_⟩
   .have hf:gy t n=some p:=gI hp (by simp[h]) hI;rw[hf];have hid3:((B.st++[none]).set σ.length (some (.cells 51 [.agg 51 [.str p.name,.str p.ver,aA p.pre,aA p.dep,aA p.rcm,aF p.con,aF p.brk,cG p.eN,.bool p.ess]])))[σ.length]?=some (some (.cells 51 [.agg 51 [.str p.name,.str p.ver,aA p.pre,aA p.dep,aA p.rcm,aF p.con,aF p.brk,cG p.eN,.bool p.ess]])):=acP (acG.1 hid2).1;simp only[go_sem,simprocAttr,an hid3];exact hxt.set (adg _) _
   .refine⟨hc,ag hc hl,hst.app _,λq hq=>?_⟩;rw[ah hp]at hq;rcases acX.1 hq with hq|hq
    .simpa using hI q hq
    .rw[acR.1 hq];exact h
  .rw[acI hc]at hI;exact⟨Ext.keep hst hz0,hst,ade.2 λq hq=>by rw[hI q hq];simp⟩
 have hxt:Ext σ B.st:=Ext.low hst;rw[hz]at h4;have hid3:(B.st.set σ.length (some (.cells 51 [.agg 51 [.str [],.str [],.ar,.ar,.ar,.ar,.ar,.ar,.bool false]])))[σ.length]?=some (some (.cells 51 [.agg 51 [.str [],.str [],.ar,.ar,.ar,.ar,.ar,.ar,.bool false]])):=acP (acG.1 h4).1;simp only[go_sem,simprocAttr,an h4,aC h4,an hid3];rw[hn];refine⟨dp ?_ (.refl _),hxt.set (adg _) _⟩;exact .sub (.agg rfl λi a b ha hb=>by
  match i,ha,hb with
  |0,ha,hb|1,ha,hb|8,ha,hb=>cases ha;cases hb;exact .refl _
  |2,ha,hb|3,ha,hb|4,ha,hb|5,ha,hb|6,ha,hb|7,ha,hb=>cases ha;cases hb;exact .ar _)
def cp (f:j2):AV:=.agg 278 [.bool f.ess,fD f.pre,fD f.dep,fD f.con,fD f.brk]
def kp (n:bE):AV:=.agg 280 [.str n.name,cp n.old,cp n.new,.bool n.wanted,.str n.ver,.bool n.same,.bool n.kK]
def gh (n:bE)(kind:Nat)(c:UInt8):Int:=match fI n kind c with|some d=>d.toNat|none=>-1
theorem iI (c m:UInt8):(((c.toNat:Nat):Int)==((m.toNat:Nat):Int))=decide (c=m):=by
 rw[adk,beq_iff_eq,decide_eq_true_eq,Int.natCast_inj];exact adJ
theorem O3 (n:bE)(kind:Nat)(c:UInt8)(hk:1<=kind/\kind<=4):ai prog W0 222 [kp n,.int .i64 kind,.int .u8 (c.toNat:Nat)] (.int .i64 (gh n kind c)):=by
 refine ak [6] [3] func222 rfl rfl ntmps222 rfl rfl (.int _ _) λhs σ=>?_
 have q0:(((c.toNat:Nat):Int)==0)=decide (c=0):=iI c 0;have q1:(((c.toNat:Nat):Int)==1)=decide (c=1):=iI c 1;have q2:(((c.toNat:Nat):Int)==2)=decide (c=2):=iI c 2;have q3:(((c.toNat:Nat):Int)==3)=decide (c=3):=iI c 3;have q4:(((c.toNat:Nat):Int)==4)=decide (c=4):=iI c 4;simp only[go_sem,simprocAttr,kp,q0,q1,q2,q3,q4];refine⟨λk1=>⟨λh=>az ?_,λh=>az ?_⟩,λk1=>⟨λk4=>⟨λh=>az ?_,λh=>az ?_⟩,λk4=>⟨λk2=>?_,λk2=>⟨λk3=>⟨λh=>az ?_,λh=>az ?_⟩,λk3=>az ?_⟩⟩⟩⟩
 .have e1:kind=1:=by omega
  have hc:c=2\/c=4:=by simpa using h
  unfold gh fI;rw[if_pos e1,if_pos hc];rcases hc with rfl|rfl<;>rfl
 .have e1:kind=1:=by omega
  have hc: ¬(c=2\/c=4):=by simpa using h
  unfold gh fI;rw[if_pos e1,if_neg hc]
 .have e1:kind=4:=by omega
  have hc:c=1\/c=3:=by simpa using h
  unfold gh fI;rw[if_neg (by omega),if_pos e1,if_pos hc];rcases hc with rfl|rfl<;>rfl
 .have e1:kind=4:=by omega
  have hc: ¬(c=1\/c=3):=by simpa using h
  unfold gh fI;rw[if_neg (by omega),if_pos e1,if_neg hc]
 .have e1:kind=2:=by omega
  obtain⟨f,hf⟩: ∃f,f=if 3<=c.toNat then n.new else n.old:=⟨_,rfl⟩;have hid: ∀g:j2,(σ++[some (bJ.cells 278 [cp g])])[σ.length]?=some (some (.cells 278 [cp g])):=λg=>by simp
  have ho: ∀g:j2,unm (cp g)=cp g:=λg=>rfl
  have hfit: ∀g:j2,bc prog 278 (cp g)=true:=λg=>by kernel_rfl
  rw[ho];refine⟨trivial,hfit _,?_⟩;refine cm.at [2,7] (by kernel_rfl) (λA=>A.st=σ++[some (.cells 278 [cp f])]) (λh=>?_) (λh=>?_) λB hst=>?_
  .have hb:=hid n.old;have h3:3<=c.toNat:=by simp only[decide_eq_true_eq]at h;omega
   rw[if_pos h3]at hf;unfold cp at hb;simp only[go_sem,simprocAttr,kp,cp,an hb,aP hb,aC hb];rw[hf]
  .have h3: ¬3<=c.toNat:=by simp only[decide_eq_false_iff_not]at h;omega
   rw[if_neg h3]at hf;simp only[go_sem,simprocAttr];rw[hf]
  have hb:=hid f;unfold cp at hb;have hat:(cp f).at [0]=some (.bool f.ess):=rfl;have qn:(((c.toNat:Nat):Int) !=0)= !decide (c=0):=by rw[bne,q0]
  have qe:(((c.toNat:Nat):Int)=0)=(c=0):=propext ⟨λh=>by simpa[q0]using beq_iff_eq.2 h,λh=>by rw[h];rfl⟩;simp only[go_sem,simprocAttr,hst,an hb,aP hb,hat,qn,qe,acL,acQ];have ht:gh n kind c=if c≠0/\f.ess=false then 0 else-1:=by
   unfold gh fI;rw[if_neg (by omega),if_neg (by omega),if_pos e1,<-hf];by_cases hc:c≠0/\f.ess=false
   .rw[if_pos hc,if_pos hc];rfl
   .rw[if_neg hc,if_neg hc]
  rw[ht];refine⟨λh=>az ?_,λh=>az ?_⟩
  .rw[if_pos (by simpa using h)]
  .rw[if_neg (λhc=>by simp[hc]at h)]
 .have hc:n.wanted=true/\(c=0\/((c=1\/c=2)/\n.same=false)):=by simpa using h
  unfold gh fI;rw[if_neg (by omega),if_neg (by omega),if_neg (by omega),if_pos hc];rfl
 .have hc: ¬(n.wanted=true/\(c=0\/((c=1\/c=2)/\n.same=false))):=λhc=>by
   have:(n.wanted&&(decide (c=0)||(decide (c=1)||decide (c=2))&& !n.same))=true:=by simpa using hc
   rw[this]at h;cases h
  unfold gh fI;rw[if_neg (by omega),if_neg (by omega),if_neg (by omega),if_neg hc]
 .omega
end Go.Proofs.Tryz
end
section
namespace Go.Av
open Go
theorem dD.refl {σ:ab}{x:AV}{e:TypeId}{xs:List AV}(h:iL σ x e xs):dD σ x e xs x σ:=⟨h,Fr.refl _ _,λj hj=>.inl hj⟩
theorem dD.step {σ τ υ:ab}{x v u:AV}{e:TypeId}{xs zs:List AV}(h:dD σ x e xs v τ)(h':dD τ v e zs u υ):dD σ x e zs u υ:=by
 have hl:=h.fr.len;refine⟨h'.row,⟨adB hl h'.fr.len,λj hj hF=>?_⟩,λj hj=>?_⟩
 .rw[h'.fr.old j (by omega) λhv=>?_,h.fr.old j hj hF];rcases h.aR j hv with g|g
  .exact hF g
  .omega
 .rcases h'.aR j hj with g|g
  .exact h.aR j g
  .exact .inr (by omega)
theorem iL.more {σ:ab}{x:AV}{e:TypeId}{xs:List AV}(h:iL σ x e xs)(l:ab):iL (σ++l) x e xs:=h.keep λj hj=>by
 refine acN ?_;rcases h with⟨rfl,_⟩|⟨id,rfl,h,_⟩
 .simp[aR]at hj
 .have:=(acG.1 h).1;grind [aR]
theorem dD.more {σ τ:ab}{x v:AV}{e:TypeId}{xs:List AV}(h:dD σ x e xs v τ)(l:ab):dD σ x e xs v (τ++l):=
 ⟨h.row.more l,h.fr.app l,h.aR⟩
theorem dD.ob {σ τ:ab}{x v:AV}{e te:TypeId}{xs zs ys:List AV}(hx:iL σ x e zs)(h:dD σ x e xs v τ){id:Nat}(hid:σ[id]?=some (some (.cells te ys)))(hne:te≠e):τ[id]?=some (some (.cells te ys)):=by
 rw[h.fr.old id (acG.1 hid).1 λhF=>?_,hid];rcases hx with⟨rfl,_⟩|⟨idx,rfl,h2,_⟩
 .cases hF
 .simp only[Av.aR,acR]at hF;subst hF;rw[hid]at h2;cases h2;exact hne rfl
theorem B8 {a b:Nat}(ha:a<2^60)(hb:b<2^60):bits .or .u64 (a:Int) (b:Int)=((a ||| b:Nat):Int):=by
 have h1:(BitVec.ofInt 64 (a:Int)).toNat=a:=by simp[acW];omega
 have h2:(BitVec.ofInt 64 (b:Int)).toNat=b:=by simp[acW];omega
 have h3:=adh ha hb;show IntKind.u64.wrap ((BitVec.ofInt 64 (a:Int) ||| BitVec.ofInt 64 (b:Int)).toNat:Int)=_;rw[adI,h1,h2,IntKind.wrap_u64];generalize a ||| b=x at *
 omega
theorem CN {a b:Nat}(ha:a<2^60)(hb:b<2^60):bits .and .u64 (a:Int) (b:Int)=((a &&& b:Nat):Int):=by
 have h1:(BitVec.ofInt 64 (a:Int)).toNat=a:=by simp[acW];omega
 have h2:(BitVec.ofInt 64 (b:Int)).toNat=b:=by simp[acW];omega
 have h3:a &&& b<2^60:=adw adK ha;show IntKind.u64.wrap ((BitVec.ofInt 64 (a:Int) &&& BitVec.ofInt 64 (b:Int)).toNat:Int)=_;rw[BitVec.toNat_and,h1,h2,IntKind.wrap_u64];generalize a &&& b=x at *;omega
end Go.Av
end
section
namespace Go.Proofs.Tryz
open Go Go.Av
set_option maxRecDepth 10000
set_option maxHeartbeats 1000000
variable {W0 :World}
theorem Wb (k:List UInt8)(hk:k.length<=20):ai prog W0 267 [.str k] (.tup [eO (gM k),eO (onK k)]):=by
 refine jJ [2,3] [5000008] func267 rfl rfl ntmps267 rfl rfl (.rj (.int _ _) (.int _ _)) λhs σ=>?_
 simp only[go_sem,simprocAttr];refine lI.bytes (e:=5) ⟨by kernel_rfl,by kernel_rfl,by kernel_rfl,by kernel_rfl,by kernel_rfl⟩ ?_;have hid:(σ++[some (bJ.cells 5 (k.map ba))])[σ.length]?=some (some (.cells 5 (k.map ba))):=by simp
 simp only[go_sem,simprocAttr];refine ae.at [] (λA=>A.env 2=eO (gM k)/\A.env 3=eO (onK k)/\A.st=σ++[some (.cells 5 (k.map ba))]) ?_ λB ⟨h2,h3,hst⟩=>?_
 .refine ae.upto [8,9] k.length (λi A=>A.env 10= .int .i64 i/\A.env 2=eO (gM (k.take i))/\A.env 3=eO (onK (k.take i))/\A.st=σ++[some (.cells 5 (k.map ba))]) 0 (acK _) ?_ λi B hi ⟨h10,h2,h3,hst⟩=>?_
  .simp only[go_sem,simprocAttr];exact⟨rfl,rfl⟩
  simp only[go_sem,simprocAttr,h10,h2,h3];refine⟨λhc=>?_,λhc=>?_⟩
  .obtain⟨c,hci⟩:=get_some hc;have hg:((k.map ba)[0+i]?.bind λx=>some x)=some (.int .u8 (c.toNat:Nat)):=by
    rw[ac3,acJ,hci];rfl
   have hin:AV.int .i64 (IntKind.i64.wrap ((i:Int)+1))= .int .i64 (i+1:Nat):=ag hc (by rw[aq];omega);have q0:(((c.toNat:Nat):Int)==0)=decide (c=0):=iI c 0;have q2:(((c.toNat:Nat):Int)==2)=decide (c=2):=iI c 2;have q4:(((c.toNat:Nat):Int)==4)=decide (c=4):=iI c 4;simp only[go_sem,simprocAttr,h10,h2,h3,hst,an hid,aP hid,hg,acL,acQ,q0,q2,q4];have g1:gM (k.take i)<2^60:=A9 (by rw[acV];omega);have g2:onK (k.take i)<2^60:=S4 (by rw[acV];omega);have g3:nH i (decide (3<=c.toNat))<2^60:=mZ (by omega);have q3:decide (3<=((c.toNat:Nat):Int))=decide (3<=c.toNat):=decide_eq_decide.2 (by omega);have o1:=B8 g1 g3;have o2:=B8 g2 g3;have t1:=ED hci;have t2:=P6 hci;refine⟨hc,λh0=>⟨hc,hin,?_,?_⟩,λh0=>?_⟩
   .rw[t1,if_pos h0]
   .rw[t2,if_neg (by rw[h0];decide)]
   rw[q3];refine aj.fn (wv i (decide (3<=c.toNat)) (by omega)) ?_;rw[if_neg h0]at t1;unfold eO at h2 h3;simp only[go_sem,simprocAttr,eO,h10,h2,h3,o1,o2,q2,q4];refine⟨λh24=>⟨hc,hin,?_,?_⟩,λh24=>⟨hc,hin,?_,?_⟩⟩
   .rw[t1]
   .rw[t2,if_pos (by simpa using h24)];exact⟨rfl,hst⟩
   .rw[t1]
   .rw[t2,if_neg (by simpa using h24)];exact⟨rfl,hst⟩
  .exact⟨by rw[acI hc],by rw[acI hc],hst⟩
 simp only[go_sem,simprocAttr,h2,h3];refine bz.ret ?_;simp only[go_sem,simprocAttr,hst]
def fp (l:List Int):List AV:=l.map (.int .i64)
def eK (l:List Nat):List Int:=l.map λn:Nat=>(n:Int)
theorem GA (σ:ab)(x:AV)(out:List Int)(n:Nat)(pre:Bool)(l:List Nat)(on:Nat)(hn:n<256)(hl:l.length<=12)(hb: ∀m∈l,m<2^60)(hon:on<2^60)(hx:iL σ x 3 (fp out))(ho:out.length<=100000):
  aS prog W0 268 [x,.int .i64 n,.bool pre,fD l,eO on] σ λr σ'=>dD σ x 3 (fp (out++eK (fmI (gn n pre on) 0 l))) r σ':=by
 refine bZ [10] [] func268 rfl rfl ntmps268 rfl rfl λhs=>?_
 have hok:=hx.v.st.ok;have hun:=hx.v.st.un;simp only[go_sem,simprocAttr,fD,acH];refine ae.at [] (λA=>∃ v,A.env 0=v/\dD σ x 3 (fp (out++eK (fmI (gn n pre on) 0 l))) v A.st) ?_ λB ⟨v,h0,hA⟩=>?_
 .refine ae.upto [1,2,4,13,14] l.length (λi A=>∃ v,A.env 15= .int .i64 i/\A.env 0=v/\dD σ x 3 (fp (out++eK (fmI (gn n pre on) 0 (l.take i)))) v A.st) 0 (acK _) ?_ λi B hi ⟨v,h15,h0,hA⟩=>?_
  .simp only[go_sem,simprocAttr];refine⟨x,rfl,?_⟩;have e:out++eK (fmI (gn n pre on) 0 (l.take 0))=out:=by simp[fmI,eK]
   rw[e];exact dD.refl hx
  simp only[go_sem,simprocAttr,h15,h0,acH];refine⟨λhc=>⟨hc,?_⟩,λhc=>?_⟩
  .obtain⟨m,hm⟩:=get_some hc;simp only[aw hm];have hm60:=hb m (acM hm);have hin:AV.int .i64 (IntKind.i64.wrap ((i:Int)+1))= .int .i64 (i+1:Nat):=ag hc (by rw[aq];omega);have e1:fmI (gn n pre on) 0 (l.take (i+1))=fmI (gn n pre on) 0 (l.take i)++gn n pre on i m:=fx hm;have hzz:(((m &&& on:Nat):Int)==0)=decide (m &&& on=0):=by rw[adk,beq_iff_eq,decide_eq_true_eq];omega
   have hlen:(fmI (gn n pre on) 0 (l.take i)).length<=12:=by
    have:=my (n:=n) (pre:=pre) (on:=on) (l:=l.take i);rw[acV]at this;omega
   simp only[go_sem,simprocAttr,h15,h0,eO,CN hm60 hon,hzz];refine⟨λhz=>?_,λhz=>⟨hc,v,hin,rfl,?_⟩⟩
   .refine aj.fn (sc 1 n pre i 0 (by omega) hn (by omega) (by omega)) ?_;simp only[go_sem,simprocAttr,h15,h0,hA.row.v.st.ok,hA.row.v.st.un];refine bA.za (by simp only[go_sem,simprocAttr]) 1048576 (by kernel_rfl) hA.row.v (.lit _ _ _) (by simp) (by simp[fp,eK];omega) λv' σ' ha=>?_
    simp only[go_sem,simprocAttr,h15,ha.row.v.st.ok,ha.row.v.st.un];refine⟨hc,v',hin,rfl,?_⟩;rw[e1,gn,if_pos hz];have:=hA.step ha;simpa[fp,eK]using this
   .rw[e1,gn,if_neg hz,acY];exact hA
  .rw[acI hc]at hA;exact⟨v,rfl,hA⟩
 have hok2:=hA.row.v.st.ok;have hun2:=hA.row.v.st.un;simp only[go_sem,simprocAttr,h0,hok2,hun2];refine bz.ret ?_;simp only[go_sem,simprocAttr,hok2,hun2];exact⟨v,.refl _,hA.fr.len,hA⟩
def stO (nv km:AV):List AV->Option bJ
 |[a,b,c]=>some (.cells 228 [.agg 228 [nv,km,a,b,c]])
 |_=>none
def lU (ns:List bE):AV:=.sl 280 (ns.map kp)
theorem xo (σ:ab)(id:Nat)(ns:List bE)(km a b c:AV)(x:AV)(out:List Int)(kind n:Nat)(l:List Nat)(there:Nat)(hob:σ[id]?=some (stO (lU ns) km [a,b,c]))(hns:ns.length<=20)(hk:kind<=3)(hn:n<256)(hl:l.length<=12)(hb: ∀m∈l,m<2^60)(hth:there<2^60)(hx:iL σ x 3 (fp out))(ho:out.length<=100000):
  aS prog W0 269 [.ptr 228 id 0 [],x,.int .i64 kind,.int .i64 n,fD l,eO there] σ λr σ'=>dD σ x 3 (fp (out++eK (fmI (cP kind n ns.length there) 0 l))) r σ':=by
 refine bZ [12] [] func269 rfl rfl ntmps269 rfl rfl λhs=>?_
 have hok:=hx.v.st.ok;have hun:=hx.v.st.un;unfold stO lU at hob;simp only[go_sem,simprocAttr,fD,acH];refine ae.at [] (λA=>∃ v,A.env 1=v/\dD σ x 3 (fp (out++eK (fmI (cP kind n ns.length there) 0 l))) v A.st) ?_ λB ⟨v,h1,hA⟩=>?_
 .refine ae.upto [0,2,3,5,16,17] l.length (λi A=>∃ v,A.env 18= .int .i64 i/\A.env 1=v/\dD σ x 3 (fp (out++eK (fmI (cP kind n ns.length there) 0 (l.take i)))) v A.st) 0 (acK _) ?_ λi B hi ⟨v,h18,h1,hA⟩=>?_
  .simp only[go_sem,simprocAttr];refine⟨x,rfl,?_⟩;have e:out++eK (fmI (cP kind n ns.length there) 0 (l.take 0))=out:=by simp[fmI,eK]
   rw[e];exact dD.refl hx
  simp only[go_sem,simprocAttr,h18,h1,acH];refine⟨λhc=>⟨hc,?_⟩,λhc=>?_⟩
  .obtain⟨m,hm⟩:=get_some hc;simp only[aw hm];have hm60:=hb m (acM hm);have hin:AV.int .i64 (IntKind.i64.wrap ((i:Int)+1))= .int .i64 (i+1:Nat):=ag hc (by rw[aq];omega);have e1:fmI (cP kind n ns.length there) 0 (l.take (i+1))=fmI (cP kind n ns.length there) 0 (l.take i)++cP kind n ns.length there i m:=fx hm;have hlen:(fmI (cP kind n ns.length there) 0 (l.take i)).length<=240:=by
    have h2:=mJ (kind:=kind) (n:=n) (len:=ns.length) (there:=there) (l:=l.take i);rw[acV]at h2;have h3:min i l.length*ns.length<=12*20:=adq (by omega) hns;omega
   have hobB:=dD.ob hx hA hob (by decide);simp only[go_sem,simprocAttr,h18,h1,an hobB,aP hobB,acH];refine ae.ats [0,2,3,5,16,17,18] (λA=>∃ v,A.env 1=v/\dD σ x 3 (fp (out++eK (fmI (cP kind n ns.length there) 0 (l.take (i+1))))) v A.st) ?_ λC ⟨v2,h1',hA2⟩=>?_
   .refine ae.upto [0,2,3,5,13,14,16,17,18,27] ns.length (λk A=>∃ v,A.env 28= .int .i64 k/\A.env 1=v/\dD σ x 3 (fp (out++eK (fmI (cP kind n ns.length there) 0 (l.take i)++(List.range k).flatMap (og kind n there i m)))) v A.st) 0 (acK _) ?_ λk C hk2 ⟨v2,h28,h1',hA2⟩=>?_
    .simp only[go_sem,simprocAttr];refine⟨v,h1,?_⟩;simpa using hA
    have hmt:m &&& there<2^60:=adw adK hm60;have a1:=CN hm60 hth;simp only[go_sem,simprocAttr,h28,h1',acH,eO,a1];refine⟨λhc2=>?_,λhc2=>?_⟩
    .have g1:nH k false<2^60:=mZ (by omega);have g2:nH k true<2^60:=mZ (by omega);have o1:=B8 g1 g2;have a2:=CN hmt (adh g1 g2);refine aD.fnG (λ_=>wv k false (by omega)) ?_;simp only[go_sem,simprocAttr,eO];refine aD.fnG (λ_=>wv k true (by omega)) ?_;have hin2:AV.int .i64 (IntKind.i64.wrap ((k:Int)+1))= .int .i64 (k+1:Nat):=ag hc2 (by rw[aq];omega);simp only[go_sem,simprocAttr,eO,o1,a2,h28];have hq:((k:Int) !=n&&((m &&& there &&& (nH k false ||| nH k true):Nat):Int) !=0)=decide (k≠n/\m &&& there &&& (nH k false ||| nH k true)≠0):=by
      rw[adk];simp only[Bool.and_eq_true,bne_iff_ne,ne_eq,decide_eq_true_eq];omega
     rw[hq];have hlen2:((List.range k).flatMap (og kind n there i m)).length<=20:=by
      have:=rK (kind:=kind) (n:=n) (len:=k) (there:=there) (i:=i) (m:=m);unfold cP at this;omega
     refine⟨λhz=>?_,λhz=>⟨hc2,v2,hin2,h1',?_⟩⟩
     .have hz':=of_decide_eq_true hz;refine aj.fn (sc kind n false i k hk hn (by omega) (by omega)) ?_;simp only[go_sem,simprocAttr,h28,h1',hA2.row.v.st.ok,hA2.row.v.st.un];refine bA.za (by simp only[go_sem,simprocAttr]) 1048576 (by kernel_rfl) hA2.row.v (.lit _ _ _) (by simp) (by simp only[fp,eK,acH,acO,ac6,acU];omega) λv' σ' ha=>?_
      simp only[go_sem,simprocAttr,h28,ha.row.v.st.ok,ha.row.v.st.un];refine⟨hc2,v',hin2,rfl,?_⟩;have:=hA2.step ha;have e9:og kind n there i m k=[Nx kind n false i k]:=if_pos hz';rw[adv,adC,adF,acY,e9];simpa[fp,eK]using this
     .have e9:og kind n there i m k=[]:=if_neg (of_decide_eq_false hz);rw[adv,adC,adF,acY,e9,acY];exact hA2
    .rw[show k=ns.length by omega]at hA2;refine⟨v2,rfl,?_⟩;rw[e1];exact hA2
   .simp only[go_sem,simprocAttr,h18];exact⟨hc,v2,hin,h1',hA2⟩
  .rw[acI hc]at hA;exact⟨v,rfl,hA⟩
 have hok2:=hA.row.v.st.ok;have hun2:=hA.row.v.st.un;simp only[go_sem,simprocAttr,h1,hok2,hun2];refine bz.ret ?_;simp only[go_sem,simprocAttr,hok2,hun2];exact⟨v,.refl _,hA.fr.len,hA⟩
theorem Ns (a b:List Int)(hb:b.Pairwise (· <= ·))(hbl:b.length<=1048576):ai prog W0 224 [.sl 3 (fp a),.sl 3 (fp b)] (.bool (BT a b)):=by
 refine ak [4] [] func224 rfl rfl ntmps224 rfl rfl (.bool _) λhs σ=>?_
 have hl:=(aL (hs _ (adb ..))).1;simp only[go_sem,simprocAttr,fp,acH];refine ae.upto [1,9,10] a.length (λi A=>A.env 11= .int .i64 i/\A.st=σ/\ ∀n∈a.take i,b.contains n=true) 0 (acK _) ?_ λi B hi ⟨h11,hst,hI⟩=>?_
 .simp only[go_sem,simprocAttr];simp
 simp only[go_sem,simprocAttr,h11,hst,acH];refine⟨λhc=>⟨hc,?_⟩,λhc=>?_⟩
 .obtain⟨n,hn⟩:=get_some hc;simp only[aw hn];simp only[go_sem,simprocAttr,h11,hst];refine aj.fn (Xr b n hb hbl) ?_;simp only[go_sem,simprocAttr,h11,hst];refine⟨λh=>au ?_,λh=>⟨hc,ag hc hl,?_⟩⟩
  .exact(adD.2 ⟨n,acM hn,by rw[h];simp⟩).symm
  .rw[ah hn];intro y hy;rcases acX.1 hy with hy|hy
   .exact hI y hy
   .rw[acR.1 hy];exact h
 .rw[acI hc]at hI;exact au (adG.2 hI).symm
theorem NJ {ns:List bE}{k:List UInt8}{i:Nat}{c:UInt8}{n:bE}(hn:ns[i]?=some n)(hc:c≠0):jg ns k i c=fmI (gn i true (onK k)) 0 (if 3<=c.toNat then n.new else n.old).pre++(if c=2\/c=4 then fmI (gn i false (onK k)) 0 (if 3<=c.toNat then n.new else n.old).dep else [])++fmI (cP 2 i ns.length (gM k)) 0 (if 3<=c.toNat then n.new else n.old).con++fmI (cP 3 i ns.length (onK k)) 0 (if 3<=c.toNat then n.new else n.old).brk:=by
 unfold jg;rw[if_neg hc,hn]
theorem Sl (a b:List Nat):eK (a++b)=eK a++eK b:=by simp[eK]
theorem E6 (σ:ab)(id:Nat)(ns:List bE)(km a b c:AV)(k:List UInt8)(hob:σ[id]?=some (stO (lU ns) km [a,b,c]))(hns:ns.length<=20)(hb: ∀n∈ns,Ab n)(hk:k.length=ns.length):
  aS prog W0 221 [.ptr 228 id 0 [],.str k] σ λr σ'=>r= .sl 3 (fp (gx ns k))/\σ'=σ:=by
 refine lZ [4] [5000017] func221 rfl rfl ntmps221 rfl rfl (.sl λx hx=>by obtain⟨z,_,rfl⟩:=ac0.1 hx;exact .int _ _) λhs=>?_
 simp only[go_sem,simprocAttr];refine aj.fn (Wb k (by omega)) ?_;simp only[go_sem,simprocAttr,eO];refine lI.bytes (e:=5) ⟨by kernel_rfl,by kernel_rfl,by kernel_rfl,by kernel_rfl,by kernel_rfl⟩ ?_;simp only[go_sem,simprocAttr];obtain⟨τ0,hτ⟩: ∃τ0,τ0=σ++[some (bJ.cells 5 (k.map ba))]:=⟨_,rfl⟩;have hbid:τ0[σ.length]?=some (some (.cells 5 (k.map ba))):=by rw[hτ];simp
 have hob0:τ0[id]?=some (stO (lU ns) km [a,b,c]):=by
  rw[hτ,acN (acG.1 hob).1];exact hob
 have hxt:Ext σ τ0:=by rw[hτ];exact(Ext.refl _).app _
 rw[<-hτ];have hx0:iL τ0 .ar 3 []:=.inl ⟨rfl,rfl⟩;refine ae.at [] (λA=>∃ v,A.env 7=v/\dD τ0 .ar 3 (fp (eK (fY ns k))) v A.st) ?_ λB ⟨v,h7,hA⟩=>?_
 .refine ae.upto [0,5,6,17,18] k.length (λi A=>∃ v,A.env 19= .int .i64 i/\A.env 7=v/\dD τ0 .ar 3 (fp (eK (fmI (jg ns k) 0 (k.take i)))) v A.st) 0 (acK _) ?_ λi B hi ⟨v,h19,h7,hA⟩=>?_
  .simp only[go_sem,simprocAttr];exact⟨_,rfl,dD.refl hx0⟩
  simp only[go_sem,simprocAttr,h19,h7];refine⟨λhc=>?_,λhc=>?_⟩
  .obtain⟨c',hci⟩:=get_some hc;obtain⟨n,hn⟩:=get_some (show i<ns.length by omega);have hbB:=dD.ob hx0 hA hbid (by decide);have hobB:=dD.ob hx0 hA hob0 (by decide);have hg:((k.map ba)[0+i]?.bind λx=>some x)=some (.int .u8 (c'.toNat:Nat)):=by
    rw[ac3,acJ,hci];rfl
   have hin:AV.int .i64 (IntKind.i64.wrap ((i:Int)+1))= .int .i64 (i+1:Nat):=ag hc (by rw[aq];omega);have q0:(((c'.toNat:Nat):Int)==0)=decide (c'=0):=iI c' 0;have q2:(((c'.toNat:Nat):Int)==2)=decide (c'=2):=iI c' 2;have q4:(((c'.toNat:Nat):Int)==4)=decide (c'=4):=iI c' 4;have e1:fmI (jg ns k) 0 (k.take (i+1))=fmI (jg ns k) 0 (k.take i)++jg ns k i c':=fx hci;have hpl:=qp (k:=k) (i:=i) hb hns (by omega);unfold lU at hobB;simp only[go_sem,simprocAttr,h19,h7,an hbB,aP hbB,hg,acL,acQ,q0,q2,q4];refine⟨hc,λh0=>⟨hc,v,hin,rfl,?_⟩,λh0=>?_⟩
   .rw[e1];unfold jg;rw[if_pos h0,acY];exact hA
   simp only[go_sem,simprocAttr,h19,h7,an hobB,aP hobB,acH,aw hn,kp];obtain⟨f,hf⟩: ∃f,f=if 3<=c'.toNat then n.new else n.old:=⟨_,rfl⟩;have hB:=hb n (acM hn);have hfb:A6 f:=by
    rw[hf];split
    .exact hB.new
    .exact hB.old
   have hF: ∀g:j2,(B.st++[some (bJ.cells 278 [cp g])])[B.st.length]?=some (some (.cells 278 [cp g])):=λg=>by simp
   have hob1: ∀o,(B.st++[o])[id]?=some (some (.cells 228 [.agg 228 [.sl 280 (ns.map kp),km,a,b,c]])):=λo=>by
    rw[acN (acG.1 hobB).1];exact hobB
   have ho: ∀g:j2,unm (cp g)=cp g:=λg=>rfl
   have hfit: ∀g:j2,bc prog 278 (cp g)=true:=λg=>by kernel_rfl
   rw[ho];refine⟨by omega,trivial,hfit _,?_⟩;refine cm.at [0,5,6,7,8,9,10,17,18,19] (by kernel_rfl) (λA=>A.st=B.st++[some (.cells 278 [cp f])]) (λh=>?_) (λh=>?_) λC hst=>?_
   .have h3:3<=c'.toNat:=by simp only[decide_eq_true_eq]at h;omega
    rw[if_pos h3]at hf;have hb1:=hF n.old;unfold cp at hb1;simp only[go_sem,simprocAttr,h19,h7,cp,an (hob1 _),aP (hob1 _),acH,aw hn,kp,an hb1,aP hb1,aC hb1];refine⟨by omega,?_⟩;rw[hf]
   .have h3: ¬3<=c'.toNat:=by simp only[decide_eq_false_iff_not]at h;omega
    rw[if_neg h3]at hf;simp only[go_sem,simprocAttr];rw[hf]
   have hb1:=hF f;unfold cp at hb1;have at1:(cp f).at [1]=some (fD f.pre):=rfl;have at2:(cp f).at [2]=some (fD f.dep):=rfl;have at3:(cp f).at [3]=some (fD f.con):=rfl;have at4:(cp f).at [4]=some (fD f.brk):=rfl;have hso: ∀g l,okM g (fD l)=True:=λg l=>eq_true trivial
   have hsu: ∀l,unm (fD l)=fD l:=λl=>rfl
   obtain⟨F,hFe⟩: ∃F,F=some (bJ.cells 278 [cp f]):=⟨_,rfl⟩;have hFB:(B.st++[F])[B.st.length]?=some (some (.cells 278 [cp f])):=by rw[hFe];simp
   rw[<-hFe]at hst;have hA1:=hA.more [F];obtain⟨τ1,hτ1⟩: ∃τ1,τ1=B.st++[F]:=⟨_,rfl⟩;rw[<-hτ1]at hst hA1 hFB;have hFB':=hFB;unfold cp at hFB';have hth:=A9 (k:=k) (by omega);have hon:=S4 (k:=k) (by omega);have l1:=my (n:=i) (pre:=true) (on:=onK k) (l:=f.pre);have l2:=my (n:=i) (pre:=false) (on:=onK k) (l:=f.dep);have l3:=mJ (kind:=2) (n:=i) (len:=ns.length) (there:=gM k) (l:=f.con);have l4:f.con.length*ns.length<=12*20:=adq hfb.con hns;have b1:=hfb.pre;have b2:=hfb.dep;have eC:=NJ (k:=k) hn h0;rw[<-hf]at eC;rw[e1,eC];clear eC e1;generalize fmI (jg ns k) 0 (k.take i)=pre at *;simp only[go_sem,simprocAttr,h19,h7,hst,an hFB',aP hFB',at1,hso,hsu,acL,acQ,hA.row.v.st.ok,hA.row.v.st.un];refine aj.goes hst (GA τ1 v (eK pre) i true f.pre (onK k) (by omega) hfb.pre hfb.acq hon hA1.row (by simp only[eK,acH];omega)) λv1 st1 hL1=>?_
   have hF1:=dD.ob hA1.row hL1 hFB (by decide);unfold cp at hF1;simp only[go_sem,simprocAttr,h19,hL1.row.v.st.ok,hL1.row.v.st.un,q2,q4];refine cm.at [0,5,6,8,10,17,18,19] (by kernel_rfl) (λA=>∃ u,A.env 7=u/\dD τ1 v 3 (fp (eK pre++eK (fmI (gn i true (onK k)) 0 f.pre)++eK (if c'=2\/c'=4 then fmI (gn i false (onK k)) 0 f.dep else []))) u A.st) (λh=>?_) (λh=>?_) λD ⟨v2,h72,hL2⟩=>?_
   .simp only[go_sem,simprocAttr,h19,an hF1,aP hF1,at2,hso,hsu,acL,acQ,hL1.row.v.st.ok,hL1.row.v.st.un];refine aj.goes (by simp only[go_sem,simprocAttr]) (GA st1 v1 (eK pre++eK (fmI (gn i true (onK k)) 0 f.pre)) i false f.dep (onK k) (by omega) hfb.dep hfb.aci hon hL1.row (by simp only[eK,acH,acO];omega)) λv2 st2 hL2=>?_
    simp only[go_sem,simprocAttr,hL2.row.v.st.ok,hL2.row.v.st.un];rw[if_pos (by simpa using h)];exact⟨v2,rfl,by simpa only[ac4]using hL1.step hL2⟩
   .simp only[go_sem,simprocAttr];rw[if_neg (by simpa using h)];exact⟨v1,rfl,by simpa[eK]using hL1⟩
   have hF2:=dD.ob hA1.row hL2 hFB (by decide);have hob2:=dD.ob hA1.row hL2 (by rw[hτ1];exact hob1 F) (by decide);unfold cp at hF2;simp only[go_sem,simprocAttr,h19,h72,an hF2,aP hF2,at3,hso,hsu,acL,acQ,hL2.row.v.st.ok,hL2.row.v.st.un];refine aj.goes (by simp only[go_sem,simprocAttr]) (xo D.st id ns km a b c v2 _ 2 i f.con (gM k) hob2 hns (by omega) (by omega) hfb.con hfb.abY hth hL2.row (by simp only[eK,acH,acO];split<;>(try simp only[acU])<;>omega)) λv3 st3 hL3=>?_
   have hL3':=hL2.step hL3;have hF3:=dD.ob hA1.row hL3' hFB (by decide);have hob3:=dD.ob hA1.row hL3' (by rw[hτ1];exact hob1 F) (by decide);unfold cp at hF3;simp only[go_sem,simprocAttr,h19,an hF3,aP hF3,at4,hso,hsu,acL,acQ,hL3.row.v.st.ok,hL3.row.v.st.un];refine aj.goes (by simp only[go_sem,simprocAttr]) (xo st3 id ns km a b c v3 _ 3 i f.brk (onK k) hob3 hns (by omega) (by omega) hfb.brk hfb.ab0 hon hL3.row (by simp only[eK,acH,acO];split<;>(try simp only[acU])<;>omega)) λv4 st4 hL4=>?_
   simp only[go_sem,simprocAttr,h19,hL4.row.v.st.ok,hL4.row.v.st.un];refine⟨hc,v4,hin,rfl,?_⟩;have hfin:=(hA1.step hL3').step hL4;simp only[Sl];simpa only[ac4]using hfin
  .rw[acI hc]at hA;exact⟨v,rfl,hA⟩
 have hok2:=hA.row.v.st.ok;have hun2:=hA.row.v.st.un;have hlen:(fY ns k).length<=10080:=by
  have:=qp (k:=k) (i:=k.length) hb hns (by omega)
  rwa [acT]at this
 have hxB:Ext σ B.st:=by
  have h1:=hA.fr.ug hxt λj hj=>by simp[aR]at hj
  exact h1
 simp only[go_sem,simprocAttr,h7,hok2,hun2];rcases hA.row with⟨rfl,h0⟩|⟨ir,rfl,hir,h0⟩
 .have e0:gx ns k=[]:=by
   have:fY ns k=[]:=by simpa[fp,eK]using h0
   simp[gx,this]
  refine aj.fn Ge ?_;simp only[go_sem,simprocAttr,h7];refine bz.ret ?_;simp only[go_sem,simprocAttr];rw[e0];exact⟨.ar _,hxB⟩
 .have hne:eK (fY ns k)≠[]:=λe=>h0 (by rw[e];rfl)
  have hlz:(fp (eK (fY ns k))).length=(eK (fY ns k)).length:=by simp[fp]
  rw[hlz];have hloi:σ.length<=ir:=by
   rcases hA.aR ir (by simp[aR])with h|h
   .simp[aR]at h
   .have:=hxt.le;omega
  refine aj.goes (by simp only[go_sem,simprocAttr]) (I6 B.st ir (eK (fY ns k)) hir hne (by simp only[eK,acH];omega)) λr st1 ⟨hr,hst1⟩=>?_
  subst hr;simp only[go_sem,simprocAttr,h7];have hat:st1[ir]?=some (some (.cells 3 (fp (gx ns k)))):=by
   rw[hst1,acP (acG.1 hir).1];rfl
  have hzl:(fp (eK (fY ns k))).length=(fp (gx ns k)).length:=by
   simp only[fp,eK,gx,acH,adm]
  refine bz.frz (e:=3) (te:=3) (id:=ir) (off:=0) (m:=(fp (eK (fY ns k))).length) (xs:=fp (gx ns k)) 4 (by simp only[go_sem,simprocAttr]) (by simp only[go_sem,simprocAttr];exact hat) (by omega) (bz.ret ?_);simp only[go_sem,simprocAttr];rw[hzl,acT];refine⟨.refl _,?_⟩;have hx1:Ext σ st1:=by
   rw[hst1];exact hxB.set hloi _
  exact hx1.set hloi _
def bT (l:List (List UInt8)):List AV:=l.map .str
theorem WN {σ:ab}{id:Nat}{l:List (List UInt8)}(hid:σ[id]?=some (some (.cells 9 (bT l))))(hl:l.length<=1048576)(s:List UInt8):aS prog W0 225 [.row 9 id 0 l.length,.str s] σ λr σ'=>r= .int .i64 (fK (λx=>s==x) l)/\σ'=σ:=by
 unfold bT at hid;refine lZ [4] [] func225 rfl rfl ntmps225 rfl rfl (.int _ _) λhs=>?_
 simp only[go_sem,simprocAttr];refine ae.upto [0,1,7] l.length (λi A=>A.env 8= .int .i64 i/\A.st=σ/\ ∀a∈l.take i,(s==a)=false) 0 (acK _) ?_ λi B hi ⟨h8,hst,hI⟩=>?_
 .simp only[go_sem,simprocAttr];simp
 simp only[go_sem,simprocAttr,h8,hst,an hid,aP hid];refine⟨λhc=>?_,λhc=>?_⟩
 .obtain⟨a,ha⟩:=get_some hc;have hg:(List.map AV.str l)[0+i]?=some (.str a):=by rw[ac3,acJ,ha];rfl
  simp only[go_sem,simprocAttr,h8,hst,an hid,aP hid,hg,Option.bind_some,acQ,acL];refine⟨hc,λhq=>bz.ret ?_,λhq=>⟨hc,ag hc (by rw[aq];omega),?_⟩⟩
  .simp only[go_sem,simprocAttr,hst];rw[eQ (q:=λx=>s==x) ha (by simp[hq]) hI];exact .refl _
  .rw[ah ha];intro b hb;rcases acX.1 hb with hb|hb
   .simpa using hI b hb
   .rw[acR.1 hb];exact hq
 .rw[acI hc]at hI;refine bz.ret ?_;simp only[go_sem,simprocAttr,hst];rw[dr (q:=λx=>s==x) hI];exact .refl _
theorem Vz {σ:ab}{id:Nat}{l:List (List UInt8)}(hid:σ[id]?=some (some (.cells 9 (bT l))))(hl:l.length<=1048576)(s:List UInt8):aS prog W0 182 [.row 9 id 0 l.length,.str s] σ λr σ'=>r= .bool (l.any λx=>s==x)/\σ'=σ:=by
 refine lZ [4] [] func182 rfl rfl ntmps182 rfl rfl (.bool _) λhs=>?_
 simp only[go_sem,simprocAttr];refine aj.reads (by simp only[go_sem,simprocAttr]) (WN hid hl s) ?_;simp only[go_sem,simprocAttr];refine bz.ret ?_;simp only[go_sem,simprocAttr];exact au jq
theorem VY {σ:ab}{v:AV}{l:List (List UInt8)}(h:iL σ v 9 (bT l))(hl:l.length<=1048576)(s:List UInt8):aS prog W0 182 [v,.str s] σ λr σ'=>r= .bool (l.any λx=>s==x)/\σ'=σ:=by
 rcases h with⟨rfl,h⟩|⟨id,rfl,h,h0⟩
 .have:l=[]:=by simpa[bT]using h
  subst this;exact((Ia [] s) σ).cb (.cons (.ar _) (.cons (.refl _) .nil))
 .have e:(bT l).length=l.length:=by simp[bT]
  rw[e];exact Vz h hl s
def qY (v:AV):Option bJ:=some (.cells 73 [v])
theorem WW {σ σ':ab}{id:Nat}{v v' w:AV}{e:TypeId}{xs ys:List AV}(ha:dD (σ++[none]) v e xs v' σ')(hid2:σ'[id]?=some (some (.cells 73 ys))):σ.length<=(σ'.set id (qY w)).length:=by
 have:=ha.fr.len;rw[acO]at this;rw[adl];omega
theorem Z9 {σ σ':ab}{id:Nat}{v v':AV}{o:List (List UInt8)}{q:List UInt8->Bool}{n:List UInt8}(hc:(q n&& !o.any λx=>n==x)=true)(hidl:id<σ.length)(hid1:(σ++[none])[id]?=some (some (.cells 73 [v])))(hv:iL σ v 9 (bT o))(ha:dD (σ++[none]) v 9 (bT o++[.str n]) v' σ')(hid2:σ'[id]?=some (some (.cells 73 [v]))):
  ∃w,(σ'.set id (qY v'))[id]?=some (qY w)/\iL (σ'.set id (qY v')) w 9 (bT (gp q o n))/\Fr (id::aR v) σ (σ'.set id (qY v'))/\ ∀j∈aR w,j∈aR v\/σ.length<=j:=by
 refine⟨v',acP (acG.1 hid2).1,?_,?_,λj hj=>?_⟩
 .have e:bT (gp q o n)=bT o++[.str n]:=by
   rw[gp,if_pos hc];simp[bT]
  rw[e];refine ha.row.keep λj hj=>acZ ?_
  rintro rfl;rcases ha.row with⟨rfl,_⟩|⟨ir,rfl,h2,_⟩
  .simp[aR]at hj
  .simp only[aR,acR]at hj;subst hj;rw[hid2]at h2;cases h2
 .have h1:Fr (id::aR v) σ σ':=(Fr.trans (F:=id::aR v) (.ext ((Ext.refl _).app _)) ha.fr λj hj=>.inl (List.mem_cons_of_mem _ hj));exact h1.set (.inl (adb ..)) _
 .rcases ha.aR j hj with h|h
  .exact .inl h
  .rw[acO]at h;exact .inr (by omega)
theorem Xz {σ:ab}{id:Nat}{v:AV}{o:List (List UInt8)}(s:List aB)(t:List Pkg)(b:Bool)(n:List UInt8)(hid:σ[id]?=some (qY v))(hv:iL σ v 9 (bT o))(ho:o.length<=100000):
  aS prog W0 261 ([.str n]++[.loc 22 (aK s),.loc 23 (aI t),.loc 4 (.bool b),.ptr 73 id 0 []]) σ λr σ'=>r= .tup []/\ ∃v',σ'[id]?=some (qY v')/\iL σ' v' 9 (bT (gp (λn=>cw s t n==b) o n))/\Fr (id::aR v) σ σ'/\ ∀j∈aR v',j∈aR v\/σ.length<=j:=by
 refine bZ [] [8] func261 rfl rfl ntmps261 rfl rfl λhs=>?_
 have hid':σ[id]?=some (some (.cells 73 [v])):=hid;have hidl:=(acG.1 hid).1;have hid1:(σ++[none])[id]?=some (some (.cells 73 [v])):=by
  rw[acN hidl];exact hid
 have hcon:=VY (W0:=W0) (hv.more [none]) (by omega) n;simp only[go_sem,simprocAttr];refine aj.fn (mQ s n) ?_;simp only[go_sem,simprocAttr];refine aj.fn (vf t n) ?_;rcases dj (λx:aB=>x.pkg.name==n) s with⟨hi,hall⟩|⟨i,a,ha,hqa,hbef,hi⟩
 .have hf:ca s n=none:=ade.2 λx hx=>by rw[hall x hx];simp
  have hst:cw s t n=false:=by unfold cw;rw[hf]
  rw[hi];simp only[go_sem,simprocAttr,ax,j8];refine⟨.of (by kernel_rfl),aD.fnG (r:=.bool false) (λh=>(adz h).elim) ?_⟩;simp only[go_sem,simprocAttr,ax,j8,an hid1,aP hid1,hv.v.st.ok,hv.v.st.un];refine aD.st (λ_=>by simpa using hcon) ?_;simp only[go_sem,simprocAttr,an hid1,aP hid1,aC hid1,hv.v.st.ok,hv.v.st.un];refine⟨λhc=>?_,λhc=>bz.normal ?_⟩
  .refine bA.za (by simp only[go_sem,simprocAttr]) 1048576 (by kernel_rfl) (hv.more [none]).v (.lit _ _ _) (by simp) (by simp only[bT,acH,ac6,acU];omega) λv' σ' ha=>?_
   have hid2:=dD.ob (hv.more [none]) ha hid1 (by decide);simp only[go_sem,simprocAttr,an hid2,aC hid2,ha.row.v.st.ok,ha.row.v.st.un,ha.row.v.st.fits];refine bz.normal ?_;simp only[go_sem,simprocAttr];exact⟨_,.refl _,WW ha hid2,rfl,Z9 (by rw[hst];simpa using hc) hidl hid1 hv ha hid2⟩
  .simp only[go_sem,simprocAttr];exact⟨_,.refl _,by simp,rfl,v,hid1,by rw[gp,if_neg (by rw[hst,show(false==b&& !o.any λx=>n==x)=false from by simpa using hc];simp)];exact hv.more [none],.ext ((Ext.refl _).app _),λj hj=>.inl hj⟩
 .have hf:ca s n=some a:=gI ha hqa hbef;have h0: ¬(i:Int)<0:=by omega
  have hil:=(acG.1 ha).1;rw[hi,if_neg h0];simp only[go_sem,simprocAttr,ax,aK,acH,aw ha,bg];refine⟨.of (by kernel_rfl),λ_=>hil,λ_=>hil,?_⟩;refine aD.fnG (λ_=>np _ _) ?_;have hst:((gy t n).isSome&&a.ku&&bb a.pkg.ver ((gy t n).getD xJ).ver)=cw s t n:=by
   unfold cw;rw[hf];cases gy t n<;>simp
  simp only[go_sem,simprocAttr,ax,an hid1,aP hid1,hv.v.st.ok,hv.v.st.un,hst];refine aD.st (λ_=>by simpa using hcon) ?_;simp only[go_sem,simprocAttr,an hid1,aP hid1,aC hid1,hv.v.st.ok,hv.v.st.un];refine⟨λhc=>?_,λhc=>bz.normal ?_⟩
  .refine bA.za (by simp only[go_sem,simprocAttr]) 1048576 (by kernel_rfl) (hv.more [none]).v (.lit _ _ _) (by simp) (by simp only[bT,acH,ac6,acU];omega) λv' σ' ha=>?_
   have hid2:=dD.ob (hv.more [none]) ha hid1 (by decide);simp only[go_sem,simprocAttr,an hid2,aC hid2,ha.row.v.st.ok,ha.row.v.st.un,ha.row.v.st.fits];refine bz.normal ?_;simp only[go_sem,simprocAttr];exact⟨_,.refl _,WW ha hid2,rfl,Z9 hc hidl hid1 hv ha hid2⟩
  .simp only[go_sem,simprocAttr];exact⟨_,.refl _,by simp,rfl,v,hid1,by rw[gp,if_neg (by rw[hc];simp)];exact hv.more [none],.ext ((Ext.refl _).app _),λj hj=>.inl hj⟩
structure NmI (σ st:ab)(id:Nat)(o:List (List UInt8)):Prop where
 ex: ∃v,st[id]?=some (qY v)/\iL st v 9 (bT o)/\ ∀j∈aR v,σ.length<=j
 ext:Ext σ st
 low:σ.length<=id
theorem NmI.more {σ st:ab}{id:Nat}{o:List (List UInt8)}(h:NmI σ st id o)(l:ab):NmI σ (st++l) id o:=by
 obtain⟨v,h1,h2,h3⟩:=h.ex;exact⟨⟨v,by rw[acN (acG.1 h1).1];exact h1,h2.more l,h3⟩,h.ext.app l,h.low⟩
theorem NmI.add {σ st:ab}{id:Nat}{o:List (List UInt8)}(h:NmI σ st id o)(s:List aB)(t:List Pkg)(b:Bool)(n:List UInt8)(ho:o.length<=100000):
  aS prog W0 261 ([.str n]++[.loc 22 (aK s),.loc 23 (aI t),.loc 4 (.bool b),.ptr 73 id 0 []]) st λr σ'=>r= .tup []/\NmI σ σ' id (gp (λn=>cw s t n==b) o n):=by
 obtain⟨v,h1,h2,h3⟩:=h.ex;refine(Xz s t b n h1 h2 ho).mono λr σ' ⟨hr,v',g1,g2,g3,g4⟩=>⟨hr,⟨v',g1,g2,λj hj=>?_⟩,?_,h.low⟩
 .have:=h.ext.le;rcases g4 j hj with g|g
  .exact h3 j g
  .omega
 .refine g3.ug h.ext λj hj=>?_
  rcases List.mem_cons.1 hj with rfl|hj
  .exact h.low
  .exact h3 j hj
theorem Q8 (s:List aB)(t:List Pkg)(b:Bool)(hs1:s.length<=1000)(ht1:t.length<=1000):ai prog W0 215 [aK s,aI t,.bool b] (.sl 9 (bT ((aO s t).filter λn=>cw s t n==b))):=by
 refine jJ [6] [3,4,5,10,12] func215 rfl rfl ntmps215 rfl rfl (.sl λx hx=>by obtain⟨z,_,rfl⟩:=ac0.1 hx;exact .str _) λhs σ=>?_
 obtain⟨q,hq⟩: ∃q,q=λn=>cw s t n==b:=⟨_,rfl⟩
 have hN0:NmI σ (σ++[qY .ar]) σ.length []:=⟨⟨.ar,by simp,.inl ⟨rfl,rfl⟩,by simp[aR]⟩,(Ext.refl _).app _,adg _⟩;obtain⟨id,hid⟩: ∃id,id=σ.length:=⟨_,rfl⟩;have o1: ∀i,(((s.take i).map (·.pkg.name)).foldl (gp q) []).length<=1000:=λi=>by
  have:=ya q ((s.take i).map (·.pkg.name)) [];simp only[acH,acV,acU]at this;omega
 have o2: ∀i,(((t.take i).map (·.name)).foldl (gp q) ((s.map (·.pkg.name)).foldl (gp q) [])).length<=2000:=λi=>by
  have:=ya q ((t.take i).map (·.name)) ((s.map (·.pkg.name)).foldl (gp q) []);have h1:=ya q (s.map (·.pkg.name)) [];simp only[acH,acV,acU]at this h1;omega
 rw[<-hid]at hN0;simp only[go_sem,simprocAttr,aK,acH];rw[<-hid];refine ae.at [4,7,8] (λA=>NmI σ A.st id ((s.map (·.pkg.name)).foldl (gp q) [])) ?_ λB hB=>?_
 .refine ae.upto [4,7,8,14,15] s.length (λi A=>A.env 16= .int .i64 i/\NmI σ A.st id (((s.take i).map (·.pkg.name)).foldl (gp q) [])) 0 (acK _) ?_ λi B hi ⟨h16,hB⟩=>?_
  .simp only[go_sem,simprocAttr];exact hN0
  simp only[go_sem,simprocAttr,h16,acH];refine⟨λhc=>⟨hc,?_⟩,λhc=>?_⟩
  .obtain⟨x,hx⟩:=get_some hc;simp only[aw hx];simp only[go_sem,simprocAttr,h16,bg,ax];refine aj.goes (by simp only[go_sem,simprocAttr]) ((hB.more [none]).add s t b x.pkg.name (by have:=o1 i;omega)) λr st1 ⟨hr,h1⟩=>?_
   simp only[go_sem,simprocAttr,h16];refine⟨hc,ag hc (by rw[aq];omega),?_⟩;rw[ah hx,acS,ac1];rw[hq]at h1 ⊢;exact h1
  .rw[acI hc]at hB;exact hB
 simp only[go_sem,simprocAttr,aI,acH];refine ae.at [7] (λA=>NmI σ A.st id ((k9 s t).foldl (gp q) [])) ?_ λC hC=>?_
 .refine ae.upto [7,8,26,27] t.length (λi A=>A.env 28= .int .i64 i/\NmI σ A.st id (((t.take i).map (·.name)).foldl (gp q) ((s.map (·.pkg.name)).foldl (gp q) []))) 0 (acK _) ?_ λi C hi ⟨h28,hC⟩=>?_
  .simp only[go_sem,simprocAttr];exact hB
  simp only[go_sem,simprocAttr,h28,acH];refine⟨λhc=>⟨hc,?_⟩,λhc=>?_⟩
  .obtain⟨x,hx⟩:=get_some hc;simp only[aw hx];simp only[go_sem,simprocAttr,h28,ax];refine aj.goes (by simp only[go_sem,simprocAttr]) ((hC.more [none]).add s t b x.name (by have:=o2 i;omega)) λr st1 ⟨hr,h1⟩=>?_
   simp only[go_sem,simprocAttr,h28];refine⟨hc,ag hc (by rw[aq];omega),?_⟩;rw[ah hx,acS,ac1];rw[hq]at h1 ⊢;exact h1
  .rw[acI hc]at hC;unfold k9;rw[ac1];exact hC
 obtain⟨v,g1,g2,g3⟩:=hC.ex;have g1':C.st[id]?=some (some (.cells 73 [v])):=g1;have e:=Hv s t b;rw[<-hq]at e;have e2:((k9 s t).foldl (gp q) []).length<=2000:=by
  have:=o2 t.length;rw[acT]at this;unfold k9;rw[ac1];exact this
 simp only[go_sem,simprocAttr,an g1',aP g1',g2.v.st.ok,g2.v.st.un];rcases g2 with⟨rfl,h0⟩|⟨ir,rfl,hir,h0⟩
 .have e0:(aO s t).filter q=[]:=by
   rw[<-e,show(k9 s t).foldl (gp q) []=[] by simpa[bT]using h0];simp
  refine aj.fn tW ?_;simp only[go_sem,simprocAttr,an g1',aP g1'];refine bz.ret ?_;simp only[go_sem,simprocAttr];rw[<-hq,e0,hid];exact⟨.ar _,hC.ext⟩
 .have hne:(k9 s t).foldl (gp q) []≠[]:=λe=>h0 (by rw[e];rfl)
  have hlz:(bT ((k9 s t).foldl (gp q) [])).length=((k9 s t).foldl (gp q) []).length:=by simp[bT]
  have hloi:σ.length<=ir:=g3 ir (by simp[aR]);have hnei:id≠ir:=λh=>by
   subst h;rw[g1']at hir;cases hir
  have hsr:=wO (W0:=W0) C.st ir ((k9 s t).foldl (gp q) []) hir hne (by omega);rw[<-hlz]at hsr;refine aj.goes (by simp only[go_sem,simprocAttr]) hsr λr st1 ⟨hr,hst1⟩=>?_
  subst hr;have g1'':st1[id]?=some (some (.cells 73 [.row 9 ir 0 (bT ((k9 s t).foldl (gp q) [])).length])):=by
   rw[hst1,acZ (Ne.symm hnei)];exact g1'
  simp only[go_sem,simprocAttr,an g1'',aP g1''];have hat:st1[ir]?=some (some (.cells 9 (bT ((aO s t).filter q)))):=by
   rw[hst1,acP (acG.1 hir).1,<-e];rfl
  have hzl:(bT ((k9 s t).foldl (gp q) [])).length=(bT ((aO s t).filter q)).length:=by
   rw[<-e];simp only[bT,acH,adm]
  refine bz.frz (e:=9) (te:=9) (id:=ir) (off:=0) (m:=(bT ((k9 s t).foldl (gp q) [])).length) (xs:=bT ((aO s t).filter q)) 6 (by simp only[go_sem,simprocAttr]) (by simp only[go_sem,simprocAttr];exact hat) (by omega) (bz.ret ?_);simp only[go_sem,simprocAttr];rw[hzl,acT,<-hq,hid];refine⟨.refl _,?_⟩;have hx1:Ext σ st1:=by
   rw[hst1];exact hC.ext.set hloi _
  exact hx1.set hloi _
theorem xO (s:List aB)(t:List Pkg)(hs1:s.length<=1000)(ht1:t.length<=1000):ai prog W0 159 [aK s,aI t] (.sl 9 (bT (eW s t))):=by
 refine ak [4] [] func159 rfl rfl ntmps159 rfl rfl (.sl λx hx=>by obtain⟨z,_,rfl⟩:=ac0.1 hx;exact .str _) λhs σ=>?_
 have e:eW s t=(aO s t).filter λn=>cw s t n==false:=by
  unfold eW;congr 1;funext n;cases cw s t n<;>rfl
 simp only[go_sem,simprocAttr];refine aj.fn (Q8 s t false hs1 ht1) ?_;simp only[go_sem,simprocAttr];rw[e];exact .refl _
end Go.Proofs.Tryz
end
section
namespace Go.Av
open Go.Proofs.Tryz
theorem Hr {l:List (Pkg×Nat)}{i:Nat}{x:Pkg×Nat}(c:Clause)(h:l[i]?=some x):ft (l.take (i+1)) c=if c.any (c8 x.1)=true then ft (l.take i) c ||| x.2 else ft (l.take i) c:=by
 unfold ft;rw[ah h,ac1];rfl
end Go.Av
end
section
namespace Go.Proofs.Tryz
open Go Go.Av
set_option maxRecDepth 10000
set_option maxHeartbeats 1000000
variable {W0 :World}
theorem HC (p:Pkg)(a:Atom):ai prog W0 264 [aV a,.loc 51 (ax p)] (.bool (c8 p a)):=by
 refine ak [3] [2] func264 rfl rfl ntmps264 rfl rfl (.bool _) λhs σ=>?_
 simp only[go_sem,simprocAttr];refine aj.fn (xp p a) ?_;simp only[go_sem,simprocAttr]
 try exact au rfl
def Kj (l:List (Pkg×Nat)):List AV:=[.loc 23 (aI (l.map (·.1))),.loc 273 (fD (l.map (·.2)))]
theorem Ai (l:List (Pkg×Nat))(hll:l.length<=40)(hl2: ∀x∈l,x.2<2^60)(c:Clause):ai prog W0 263 ([aF c]++Kj l) (eO (ft l c)):=by
 refine ak [4] [7] func263 rfl rfl ntmps263 rfl rfl (.int _ _) λhs σ=>?_
 simp only[go_sem,simprocAttr,Kj,aI,acH];refine ae.at [] (λA=>A.env 5=eO (ft l c)/\Ext σ A.st) ?_ λB ⟨h5,hst⟩=>?_
 .refine ae.upto [0,2,8,9] l.length (λi A=>A.env 10= .int .i64 i/\A.env 5=eO (ft (l.take i) c)/\Ext σ A.st) 0 (acK _) ?_ λi B hi ⟨h10,h5,hst⟩=>?_
  .simp only[go_sem,simprocAttr];exact⟨rfl,.refl _⟩
  simp only[go_sem,simprocAttr,h10,h5,acH];refine⟨λhc=>?_,λhc=>?_⟩
  .obtain⟨x,hx⟩:=get_some hc;have hx1:(l.map (·.1))[i]?=some x.1:=by rw[acJ,hx];rfl
   have hx2:(l.map (·.2))[i]?=some x.2:=by rw[acJ,hx];rfl
   have m1:ft (l.take i) c<2^60:=F0 λy hy=>hl2 y (adr hy)
   have m2:=hl2 x (acM hx);have hin:AV.int .i64 (IntKind.i64.wrap ((i:Int)+1))= .int .i64 (i+1:Nat):=ag hc (by rw[aq];omega);have ms:=Hr c hx;simp only[aw hx1];simp only[go_sem,simprocAttr,h10,h5];refine⟨hc,aj.fn (Dm aV dm.atom c (c8 x.1) _ [.loc 51 (ax x.1)] (λa _=>HC x.1 a)) ?_⟩;unfold eO at h5;simp only[go_sem,simprocAttr,h10,h5,fD,eO,acH,aw hx2,B8 m1 m2];refine⟨λh=>⟨hc,hc,hin,?_,hst.app _⟩,λh=>⟨hc,hin,?_,hst.app _⟩⟩
   .rw[ms,if_pos h]
   .rw[ms,if_neg (by rw[h];simp)]
  .rw[acI hc];exact⟨rfl,hst⟩
 simp only[go_sem,simprocAttr,h5];exact hst
theorem AN (l:List (Pkg×Nat))(hll:l.length<=40)(hl2: ∀x∈l,x.2<2^60)(m:List Clause)(hm:m.length<=12):ai prog W0 265 [aA m,.loc 313 (.fn 263 (Kj l))] (fD (m.map (λc=>ft l c))):=by
 refine ak [3] [6] func265 rfl rfl ntmps265 rfl rfl (.sl λx hx=>by obtain⟨z,_,rfl⟩:=ac0.1 hx;exact .int _ _) λhs σ=>?_
 simp only[go_sem,simprocAttr,aA,acH];refine ae.at [] (λA=>∃ v,A.env 4=v/\aM σ A.st v 274 ((m.map (λc=>ft l c)).map eO)) ?_ λB ⟨v,h4,hb⟩=>?_
 .refine ae.upto [1,7,8] m.length (λi A=>∃ v,A.env 9= .int .i64 i/\A.env 4=v/\aM σ A.st v 274 (((m.take i).map (λc=>ft l c)).map eO)) 0 (acK _) ?_ λi B hi ⟨v,h9,h4,hb⟩=>?_
  .simp only[go_sem,simprocAttr];exact⟨_,rfl,aM.nil (.refl _) _⟩
  simp only[go_sem,simprocAttr,h9,h4,acH];refine⟨λhc=>⟨hc,?_⟩,λhc=>?_⟩
  .obtain⟨c,hcm⟩:=get_some hc;have hin:AV.int .i64 (IntKind.i64.wrap ((i:Int)+1))= .int .i64 (i+1:Nat):=ag hc (by rw[aq];omega);have e:((m.take (i+1)).map (λc=>ft l c)).map eO=((m.take i).map (λc=>ft l c)).map eO++[eO ((λc=>ft l c) c)]:=by
    rw[ah hcm,acS,acS];rfl
   simp only[aw hcm];have hao:okM none (aF c)=True:=eq_true trivial;have hau:unm (aF c)=aF c:=rfl;simp only[go_sem,simprocAttr,hao,hau,h9,h4];refine aj.pure (Ai l hll hl2 c) ?_;simp only[go_sem,simprocAttr,h9,h4,eO,hb.ok,hb.un];refine bA.own 1048576 (by kernel_rfl) hb.bld (.lit _ _ _) (by simp;omega) λv' σ' ha'=>?_
   have hb':=hb.app ha';simp only[go_sem,simprocAttr,h9,hb'.ok,hb'.un];rw[e];exact⟨hc,_,hin,rfl,hb'⟩
  .rw[acI hc]at hb;exact⟨v,rfl,hb⟩
 simp only[go_sem,simprocAttr,h4,hb.ok,hb.un];exact⟨hb.cb,hb.ext⟩
theorem Ax (l:List (Pkg×Nat))(hll:l.length<=40)(hl2: ∀x∈l,x.2<2^60)(m:List Atom)(hm:m.length<=12):ai prog W0 266 [aF m,.loc 313 (.fn 263 (Kj l))] (fD (m.map (λa=>ft l [a]))):=by
 refine ak [3] [6] func266 rfl rfl ntmps266 rfl rfl (.sl λx hx=>by obtain⟨z,_,rfl⟩:=ac0.1 hx;exact .int _ _) λhs σ=>?_
 simp only[go_sem,simprocAttr,aF,acH];refine ae.at [] (λA=>∃ v,A.env 4=v/\aM σ A.st v 274 ((m.map (λa=>ft l [a])).map eO)) ?_ λB ⟨v,h4,hb⟩=>?_
 .refine ae.upto [1,7,8] m.length (λi A=>∃ v,A.env 9= .int .i64 i/\A.env 4=v/\aM σ A.st v 274 (((m.take i).map (λa=>ft l [a])).map eO)) 0 (acK _) ?_ λi B hi ⟨v,h9,h4,hb⟩=>?_
  .simp only[go_sem,simprocAttr];exact⟨_,rfl,aM.nil (.refl _) _⟩
  simp only[go_sem,simprocAttr,h9,h4,acH];refine⟨λhc=>⟨hc,?_⟩,λhc=>?_⟩
  .obtain⟨c,hcm⟩:=get_some hc;have hin:AV.int .i64 (IntKind.i64.wrap ((i:Int)+1))= .int .i64 (i+1:Nat):=ag hc (by rw[aq];omega);have e:((m.take (i+1)).map (λa=>ft l [a])).map eO=((m.take i).map (λa=>ft l [a])).map eO++[eO ((λa=>ft l [a]) c)]:=by
    rw[ah hcm,acS,acS];rfl
   simp only[aw hcm];have hao:okM none (aV c)=True:=eq_true trivial;have hau:unm (aV c)=aV c:=rfl;have haf:bc prog 76 (aV c)=true:=by kernel_rfl
   have hb1:=hb.more [none];simp only[go_sem,simprocAttr,hao,hau,haf,h9,h4];refine aj.pure ((Ai l hll hl2 [c]).cb (.cons (.lit _ _) (mz.refl _))) ?_;simp only[go_sem,simprocAttr,h9,h4,eO,hb1.ok,hb1.un];refine bA.own 1048576 (by kernel_rfl) hb1.bld (.lit _ _ _) (by simp;omega) λv' σ' ha'=>?_
   have hb':=hb1.app ha';simp only[go_sem,simprocAttr,h9,hb'.ok,hb'.un];rw[e];exact⟨hc,_,hin,rfl,hb'⟩
  .rw[acI hc]at hb;exact⟨v,rfl,hb⟩
 simp only[go_sem,simprocAttr,h4,hb.ok,hb.un];exact⟨hb.cb,hb.ext⟩
theorem Ob (f:j2):aX 0 (cp f):=.agg λy hy=>by
 have hs: ∀l,aX 0 (fD l):=λl=>.sl λx hx=>by obtain⟨z,_,rfl⟩:=ac0.1 hx;exact .int _ _
 simp at hy;rcases hy with rfl|rfl|rfl|rfl|rfl<;>first|exact .bool _|exact hs _
theorem GG (l:List (Pkg×Nat))(hll:l.length<=40)(hl2: ∀x∈l,x.2<2^60)(p:Pkg)(hp:aT p=0):ai prog W0 219 [ax p,aI (l.map (·.1)),fD (l.map (·.2))] (cp (eS l p)):=by
 refine kD [.cell 6 278] [3,4,5,7] func219 rfl rfl ntmps219 rfl rfl (Ob _) λhs σ=>?_
 have hG:=cQ hp;have hso: ∀g l,okM g (fD l)=True:=λg l=>eq_true trivial
 have hsu: ∀l,unm (fD l)=fD l:=λl=>rfl
 have hsf: ∀l,bc prog 273 (fD l)=true:=λl=>by kernel_rfl
 have hz:(zeroOf prog 313).isSome=true:=by kernel_rfl
 simp only[go_sem,simprocAttr,ax,hso,hsu,hsf,hz];refine⟨.of (by kernel_rfl),aD.go (AN l hll hl2 p.pre hG.pre.1) ?_⟩;simp only[go_sem,simprocAttr,ax,hso,hsu,hsf];refine aD.go (AN l hll hl2 p.dep hG.dep.1) ?_;simp only[go_sem,simprocAttr,ax,hso,hsu,hsf];refine aD.go (Ax l hll hl2 p.con hG.con.1) ?_;simp only[go_sem,simprocAttr,ax,hso,hsu,hsf];refine aD.go (Ax l hll hl2 p.brk hG.brk.1) ?_;simp only[go_sem,simprocAttr,ax,hso,hsu,hsf];exact .refl _
end Go.Proofs.Tryz
end
section
namespace Go.Av
open Go
theorem App.nN {σ σ':ab}{x v:AV}{e:TypeId}{xs zs:List AV}(hb:Bld σ x e xs)(h:App σ x e zs v σ'):e5 σ σ':=λid te ys hid=>by
 rw[h.old id (acG.1 hid).1 λht=>?_,hid];have:=hb.iY ht;rw[hid]at this;cases this
theorem cS.Cs {σ st st':ab}{id:Nat}{vs:List AV}{es:List TypeId}{xss:List (List AV)}{M:Option bJ}(h:cS σ st id vs es xss λ_=>M){k:Nat}{v v':AV}{e:TypeId}{zs:List AV}(hv:vs[k]?=some v)(he:es[k]?=some e)(ha:App st v e zs v' st'):
  cS σ st' id (vs.set k v') es (xss.set k zs) (λ_=>M):=by
 have h1:=h.app hv he ha h.ob;have hat:st'[id]?=some M:=by
  rw[ha.old id (acG.1 h.at_).1 λht=>?_]
  .exact h.at_
  .have:=h.tok hv ht;rw[h.at_]at this;obtain⟨te,x,hx⟩:=h.ob;rw[hx]at this;cases this
 rw[fV hat]at h1;exact h1
theorem cS.cst {σ st:ab}{id:Nat}{vs:List AV}{es:List TypeId}{xss:List (List AV)}{mk:List AV->Option bJ}(h:cS σ st id vs es xss mk):cS σ st id vs es xss λ_=>mk vs:=by
 have h1:=h.put (mk':=λ_=>mk vs) h.ob;rw[fV h.at_]at h1;exact h1
theorem cS.other {σ st:ab}{id mid:Nat}{vs:List AV}{es:List TypeId}{xss:List (List AV)}{mk:List AV->Option bJ}(h:cS σ st id vs es xss mk)(hlo:σ.length<=mid){kt:TypeId}{l:List (AV×AV)}(hm:st[mid]?=some (some (.mp kt l)))(o:Option bJ):cS σ (st.set mid o) id vs es xss mk:=by
 refine⟨h.ext.set hlo _,h.low,?_,h.ob,λk v e xs h1 h2 h3=>?_,h.f,h.d,h.l1,h.l2⟩
 .rw[acZ]
  .exact h.at_
  .rintro rfl;have:=h.at_;obtain⟨te,x,hx⟩:=h.ob;rw[hx,hm]at this;cases this
 .have hb:=h.b k v e xs h1 h2 h3;refine hb.keep λj hj=>acZ ?_
  rintro rfl;exact hb.ne hm (by simp) hj
open Go.Proofs.Tryz
theorem B9 {k:List UInt8}(hk:k.length<=20):rig prog (.str k)=some (.string ⟨k.toArray⟩):=by
 exact if_pos (by rw[aq];omega)
theorem str_inj {k k':List UInt8}(hk:k.length<=20)(hk':k'.length<=20)(h:rig prog (.str k)=rig prog (.str k')):k=k':=by
 rw[B9 hk,B9 hk']at h;simpa using h
end Go.Av
end
section
namespace Go.Proofs.Tryz
open Go Go.Av
set_option maxRecDepth 10000
set_option maxHeartbeats 1000000
variable {W0 :World}
theorem KD :Go.Maps.Keyed prog 9:=Go.Maps.string_keyed (by kernel_rfl)
theorem Lb {k:List UInt8}(hk:k.length<=20):Df prog 9 (.str k):=⟨_,_,B9 hk,Go.WideMaps.keyOf_string_mk (by kernel_rfl) (by show k.toArray.size<=_;rw[aq];simp;omega)⟩
def bX (s:bN):AV:=.agg 100 [.int .i64 (s.kind:Nat),.str s.name,.str s.ver]
def acf :List TypeId:=[9,3,100]
structure StS (σ st:ab)(id mid:Nat)(ns:List bE)(a b c:AV)(q:List (List UInt8×List bN))(fr:List Int)(by_:List bN):Prop where
 sea:cS σ st id [a,b,c] acf [bT (q.map (·.1)),fp fr,by_.map bX] (stO (lU ns) (.mp mid))
 mlo:σ.length<=mid
 mp: ∃l,st[mid]?=some (some (.mp 9 l))/\(∀p∈l,∃(k:List UInt8) (v:Int),p=(.str k,.int .i64 v)/\k∈q.map (·.1))/\ ∀k∈q.map (·.1),∃v,(AV.str k,v)∈l
 low: ∀k∈q.map (·.1),k.length<=20
theorem PY {l:List (AV×AV)}{q:List (List UInt8)}{key:List UInt8}(h1: ∀p∈l,∃(k:List UInt8)(v:Int),p=(.str k,.int .i64 v)/\k∈q)(h2: ∀k∈q,∃v,(AV.str k,v)∈l)(hq: ∀k∈q,k.length<=20)(hk:key.length<=20):Ck prog l (.str key)=decide (key∈q):=by
 unfold Ck;refine decide_eq_decide.2 ⟨λ⟨p,hp,e⟩=>?_,λh=>?_⟩
 .obtain⟨k,v,rfl,hkq⟩:=h1 p hp;rw[<-str_inj (hq k hkq) hk e];exact hkq
 .obtain⟨v,hv⟩:=h2 key h;exact⟨_,hv,rfl⟩
theorem QL {σ st:ab}{id mid:Nat}{ns:List bE}{a b c:AV}{q:List (List UInt8×List bN)}{fr:List Int}{by_:List bN}(h:StS σ st id mid ns a b c q fr by_)(hq:q.length<=20000)(hf:fr.length=q.length)(hby:by_.length=q.length)(key:List UInt8)(hk:key.length<=20)(from_:Int)(s:bN)(p:List bN):
  aS prog W0 161 [.ptr 228 id 0 [],.str key,.int .i64 from_,bX s] st λr st'=>st.length<=st'.length/\ ∃a' b' c',if key∈q.map (·.1)then StS σ st' id mid ns a' b' c' q fr by_ else StS σ st' id mid ns a' b' c' (q++[(key,p)]) (fr++[from_]) (by_++[s]):=by
 obtain⟨l,hm,hl1,hl2⟩:=h.mp;refine bZ [] [7,4000003,2000039,1000039,2000046,1000046,2000053,4000004] func161 rfl rfl ntmps161 rfl rfl λhs=>?_
 have hob:=h.sea.at_;unfold stO lU at hob;have hml:mid<st.length:=(acG.1 hm).1;have hmt:nm prog 111=some (9,3):=by kernel_rfl
 have hat:uD st 9 (.mp mid)=some l:=by simp[uD,hm]
 have hC: ∀gd,uh prog gd st 111 (.str key) (.mp mid)=True:=λgd=>by
  refine eq_true ?_;unfold uh;simp only[hmt];exact⟨by kernel_rfl,KD,.of (Lb hk),by rw[hat];rfl⟩
 obtain⟨z,hz⟩: ∃z,xx prog st 111 (.str key) (.mp mid)= .tup [z,.bool (decide (key∈q.map (·.1)))]:=by
  unfold xx;simp only[hmt,hat,acL];exact⟨_,by rw[PY hl1 hl2 h.low hk]⟩
 simp only[go_sem,simprocAttr,bX,an hob,aP hob,hC,hz];refine⟨λh0=>bz.ret ?_,λh0=>⟨.of (by kernel_rfl),?_⟩⟩
 .simp only[go_sem,simprocAttr];refine⟨_,.refl _,a,b,c,?_⟩;rw[if_pos h0];exact h
 have h3:=h.sea.b 0 a 9 _ rfl rfl rfl;have h4:=h.sea.b 1 b 3 _ rfl rfl rfl;have h5:=h.sea.b 2 c 100 _ rfl rfl rfl;simp only[go_sem,simprocAttr,an hob,aP hob,h3.ok,h3.un,h3.len,h3.fR];refine IZ.put hmt KD (Lb hk) rfl hm ?_;obtain⟨l',hl'⟩: ∃l',l'=uF prog l (.str key) (.int .i64 ((bT (q.map (·.1))).length:Nat)):=⟨_,rfl⟩;have hS1:=h.sea.other h.mlo hm (some (.mp 9 l'));have hm1:(st.set mid (some (.mp 9 l')))[mid]?=some (some (.mp 9 l')):=acP hml;have hlen1:(st.set mid (some (.mp 9 l'))).length=st.length:=adl;obtain⟨st1,hst1⟩: ∃st1,st1=st.set mid (some (.mp 9 l')):=⟨_,rfl⟩;rw[<-hst1]at hS1 hm1 hlen1;have hob1:=hS1.at_;unfold stO lU at hob1;have b0:=hS1.b 0 a 9 _ rfl rfl rfl;have b1:=hS1.b 1 b 3 _ rfl rfl rfl;have b2:=hS1.b 2 c 100 _ rfl rfl rfl;rw[<-hl'];simp only[go_sem,simprocAttr,<-hst1,an hob1,aP hob1,b0.ok,b0.un,b1.ok,b1.un,b2.ok,b2.un];refine⟨.of (by kernel_rfl),?_⟩;have hC0:=hS1.cst;refine bA.ng (σ:=st1) (by simp only[go_sem,simprocAttr]) 1048576 (by kernel_rfl) b0 (.lit _ _ _) (by simp[bT];omega) λa' st2 ha=>?_
 have hC1:=hC0.Cs (k:=0) rfl rfl ha;have b1':=hC1.b 1 b 3 _ rfl rfl rfl;simp only[go_sem,simprocAttr,<-hst1,ha.bld.ok,ha.bld.un,b1.ok,b1.un];refine⟨ha.nN b0,?_⟩;refine bA.ng (σ:=st2) (by simp only[go_sem,simprocAttr]) 1048576 (by kernel_rfl) b1' (.lit _ _ _) (by simp[fp];omega) λb' st3 hb=>?_
 have hC2:=hC1.Cs (k:=1) rfl rfl hb;have b2':=hC2.b 2 c 100 _ rfl rfl rfl;simp only[go_sem,simprocAttr,hb.bld.ok,hb.bld.un,b2.ok,b2.un];refine⟨hb.nN b1',?_⟩;refine bA.ng (σ:=st3) (by simp only[go_sem,simprocAttr]) 1048576 (by kernel_rfl) b2' (.lit _ _ _) (by simp;omega) λc' st4 hc=>?_
 have hC3:=hC2.Cs (k:=2) rfl rfl hc;have hob4:=hC3.at_;unfold stO lU at hob4;have hil4:=(acG.1 hob4).1;have hsl: ∀o:Option bJ,(st4.set id o)[id]?=some o:=λo=>acP hil4
 simp only[go_sem,simprocAttr,an hob4,aC hob4,an (hsl _),aC (hsl _),List.set_set,ha.bld.ok,ha.bld.un,ha.bld.fits,hb.bld.ok,hb.bld.un,hb.bld.fits,hc.bld.ok,hc.bld.un,hc.bld.fits];refine bz.normal ?_;simp only[go_sem,simprocAttr];have hP:=hC3.put (mk':=stO (lU ns) (.mp mid)) ⟨_,_,rfl⟩;have hm4:(st4.set id (stO (lU ns) (.mp mid) [a',b',c']))[mid]?=some (some (.mp 9 l')):=by
  have old: ∀{σ σ':ab} {x v:AV} {e:TypeId} {xs zs:List AV},Bld σ x e xs->App σ x e zs v σ'->σ[mid]?=some (some (.mp 9 l'))->σ'[mid]?=some (some (.mp 9 l')):=λhb ha hm=>by
   rw[ha.old mid (acG.1 hm).1 λht=>?_,hm];have:=hb.iY ht;rw[hm]at this;cases this
  rw[acZ]
  .exact old b2' hc (old b1' hb (old b0 ha hm1))
  .rintro rfl;have:=hS1.at_;rw[hm1]at this;cases this
 have hle:st.length<=(st4.set id (stO (lU ns) (.mp mid) [a',b',c'])).length:=by
  have l1:=ha.len;have l2:=hb.len;have l3:=hc.len;rw[adl];omega
 refine⟨_,.refl _,hle,hle,a',b',c',?_⟩;rw[if_neg h0];have ek:(q++[(key,p)]).map (·.1)=q.map (·.1)++[key]:=by simp
 refine⟨?_,h.mlo,⟨l',hm4,λy hy=>?_,λk hkq=>?_⟩,λk hkq=>?_⟩
 .have e0:bT ((q++[(key,p)]).map (·.1))=bT (q.map (·.1))++[.str key]:=by simp[bT]
  have e1:fp (fr++[from_])=fp fr++[.int .i64 from_]:=by simp[fp]
  have e2:(by_++[s]).map bX=by_.map bX++[bX s]:=by simp
  rw[e0,e1,e2];exact hP
 .rw[hl']at hy;rw[ek];rcases S7 hy with hy|rfl
  .obtain⟨k,v,e,hkq⟩:=hl1 y hy;exact⟨k,v,e,ac8 _ hkq⟩
  .exact⟨key,_,rfl,by simp⟩
 .rw[ek]at hkq;rw[hl'];rcases acX.1 hkq with hk2|hk2
  .obtain⟨v,hv⟩:=hl2 k hk2;refine⟨v,?_⟩;unfold uF;refine ac8 _ ?_;simp only[adH,decide_eq_true_eq];exact⟨hv,λe=>h0 (by rw[<-str_inj (h.low k hk2) hk e];exact hk2)⟩
  .rw[acR.1 hk2];exact⟨_,by unfold uF;exact adn _ (acR.2 rfl)⟩
 .rw[ek]at hkq;rcases acX.1 hkq with hkq|hkq
  .exact h.low k hkq
  .rw[acR.1 hkq];exact hk
end Go.Proofs.Tryz
end
section
namespace Go.Av
theorem yQ.ack {q:List (List UInt8×List bN)}{fr:List Int}{by_:List bN}(h:yQ q fr by_): ∀(i:Nat) (k:List UInt8) (p:List bN),q[i]?=some (k,p)->p.length<=i:=λi=>by
 induction i using Nat.strongRecOn with
 |_ i ih=>
  intro k p hi;rcases h.on i k p hi with⟨h1,h2⟩|⟨j,k',p',st,h1,_,_,h4,h5⟩
  .rw[h2];simp
  .have:=ih j h1 k' p' h4;rw[h5,acO,ac6,acU];omega
theorem EB {ns:List bE}{k:List UInt8}{i:Nat}{n:bE}{c:UInt8}(hn:ns[i]?=some n)(hc:k[i]?=some c)(h:pO n c=false):mg ns k=false:=by
 unfold mg;rw[adD];refine⟨(n,c),acM (i:=i) ?_,by rw[h];simp⟩;rw[adf];exact⟨hn,hc⟩
theorem Ij {ns:List bE}{k:List UInt8}(h: ∀(i:Nat)(n:bE)(c:UInt8),ns[i]?=some n->k[i]?=some c->pO n c=true):mg ns k=true:=by
 unfold mg;rw[adG];intro x hx;obtain⟨i,hi⟩:=List.mem_iff_getElem?.1 hx;rw[adf]at hi;exact h i x.1 x.2 hi.1 hi.2
end Go.Av
end
section
namespace Go.Proofs.Tryz
open Go Go.Av
set_option maxRecDepth 10000
set_option maxHeartbeats 1000000
variable {W0 :World}
theorem T5 (σ:ab)(id:Nat)(ns:List bE)(km a b c:AV)(k:List UInt8)(hob:σ[id]?=some (stO (lU ns) km [a,b,c]))(hns:ns.length<=20)(hk:k.length=ns.length):
  aS prog W0 162 [.ptr 228 id 0 [],.str k] σ λr σ'=>r= .bool (mg ns k)/\σ'=σ:=by
 refine lZ [4] [6] func162 rfl rfl ntmps162 rfl rfl (.bool _) λhs=>?_
 unfold stO lU at hob;simp only[go_sem,simprocAttr,an hob,aP hob,acH];refine ae.upto [1,10,11] ns.length (λi A=>A.env 12= .int .i64 i/\Ext σ A.st/\ ∀(j:Nat) (n:bE) (c:UInt8),j<i->ns[j]?=some n->k[j]?=some c->pO n c=true) 0 (acK _) ?_ λi B hi ⟨h12,hst,hI⟩=>?_
 .simp only[go_sem,simprocAttr];exact Ext.refl _
 simp only[go_sem,simprocAttr,h12,acH];refine⟨λhc=>⟨hc,?_⟩,λhc=>bz.ret ?_⟩
 .obtain⟨n,hn⟩:=get_some hc;obtain⟨c',hcc⟩:=get_some (show i<k.length by omega);simp only[aw hn];have q0:(((c'.toNat:Nat):Int)==0)=decide (c'=0):=iI c' 0;have q2:(((c'.toNat:Nat):Int)==2)=decide (c'=2):=iI c' 2;have q4:(((c'.toNat:Nat):Int)==4)=decide (c'=4):=iI c' 4;have b0:(((c'.toNat:Nat):Int) !=0)= !decide (c'=0):=by rw[bne,q0]
  have b2:(((c'.toNat:Nat):Int) !=2)= !decide (c'=2):=by rw[bne,q2]
  have b4:(((c'.toNat:Nat):Int) !=4)= !decide (c'=4):=by rw[bne,q4]
  have hik:=(acG.1 hcc).1;have bad:pO n c'=false->dq (.bool false) (.bool (mg ns k)):=λh=>au (EB hn hcc h).symm
  simp only[go_sem,simprocAttr,h12,kp,hcc,acL,b0,b2,b4];refine⟨λ_=>hik,λh=>bz.ret ?_,λh=>⟨λ_=>hik,λ_=>hik,λh2=>bz.ret ?_,λh2=>⟨hc,ag hc (by rw[aq];omega),hst.app _,λj n2 c2 hj h3 h4=>?_⟩⟩⟩
  .simp only[go_sem,simprocAttr];refine⟨bad ?_,hst.app _⟩;unfold pO;grind
  .simp only[go_sem,simprocAttr];refine⟨bad ?_,hst.app _⟩;unfold pO;grind
  .by_cases hji:j=i
   .subst hji;rw[hn]at h3;rw[hcc]at h4;cases h3;cases h4;unfold pO;cases hw:n.wanted<;>grind
   .exact hI j n2 c2 (by omega) h3 h4
 .simp only[go_sem,simprocAttr];rw[Ij λj n c h1 h2=>hI j n c (by have:=(acG.1 h1).1;omega) h1 h2];exact⟨.refl _,hst⟩
def kq (s:bN):List Value:=[.int .i64 (s.kind:Nat),.string ⟨s.name.toArray⟩,.string ⟨s.ver.toArray⟩]
theorem Ro {w:World}{C:Ctx}{s:bN}{cs:List Value}(h:Rel prog w C (bX s) cs):cs=kq s:=by
 cases h with
 |agg cf h1 h2 h3 h4 h6 h7=>
 have hf:bt prog 100=some [3,9,9]:=by kernel_rfl
 rw[hf]at h1;cases h1;have hsz:af prog 100=3:=by kernel_rfl
 rw[hsz]at h3;have ho0:bp prog [3,9,9] 0=0:=by kernel_rfl
 have ho1:bp prog [3,9,9] 1=1:=by kernel_rfl
 have ho2:bp prog [3,9,9] 2=2:=by kernel_rfl
 have r0:=h6 0 _ rfl;have r1:=h6 1 _ rfl;have r2:=h6 2 _ rfl;obtain⟨_,_,g0⟩:=h7 0 _ _ rfl rfl;obtain⟨_,_,g1⟩:=h7 1 _ _ rfl rfl;obtain⟨_,_,g2⟩:=h7 2 _ _ rfl rfl;generalize cf 0=c0 at r0 g0;generalize cf 1=c1 at r1 g1;generalize cf 2=c2 at r2 g2;cases r0;cases r1;cases r2;have q0:=g0 0 _ rfl;have q1:=g1 0 _ rfl;have q2:=g2 0 _ rfl;rw[ho0]at q0;rw[ho1]at q1;rw[ho2]at q2
 match cs,h3 with
 |[v0,v1,v2],_=>
  simp at q0 q1 q2;subst q0 q1 q2;rfl
instance : Inhabited bN:=⟨⟨0,[],[]⟩⟩
open Go.Sort in
theorem J7 (σ:ab)(id:Nat)(xs:List bN)(hid:σ[id]?=some (some (.cells 100 (xs.map bX))))(h0:xs≠[])(hx:xs.length<=1000000):
  aS prog W0 220 [.row 100 id 0 xs.length] σ λr σ'=>r= .tup []/\σ'=σ.set id (some (.cells 100 (xs.reverse.map bX))):=λw C vs hst hl hv=>by
 obtain _|⟨v1,_|⟨_,_⟩⟩:=vs<;>simp at hl
 have h1:=(hv 0 _ _ rfl rfl).aH rfl;obtain⟨b,base,room,arr,t',fr,m1,m2,mf,m3,m4,cf,m5⟩:=hst.cells hid;have hpos:0<xs.length:=ac9.2 h0;have hsz:af prog 100=3:=by kernel_rfl
 rw[hsz,acH]at m4;cases h1 with
 |row hn hc hi ho=>
 rename_i a cap;obtain⟨b',base',room',e1,e2,e3⟩:=ho _ m1;cases e1;have e4:=e2 (by omega);subst e4;rw[adA,ada];have hel: ∀j (h:j<xs.length),Rel prog w C (bX xs[j]) (kq xs[j])/\fits prog 100 (bX xs[j])/\ ∀(q:Nat) (c:Value),(kq xs[j])[q]?=some c->arr[base+j*3+q]?=some c:=λj h=>by
  have hj:(xs.map bX)[j]?=some (bX xs[j]):=by simp[h]
  obtain⟨r1,r2,r3,r4⟩:=m5 j _ hj;have e:=Ro r1;rw[e]at r1 r4;rw[hsz]at r4;exact⟨r1,r3,r4⟩
 have hlen3: ∀x,(kq x).length=3:=λx=>rfl
 have hH:HoldsK kq 3 w b base xs.toArray:=λt ht=>by
  have ht':t<xs.length*3:=by simp_all
  have hj:t / 3<xs.length:=by omega
  refine⟨?_,qT (n:=0) m2 mf (by omega)⟩;rw[get_flatK _ _ _ _ (by omega),getElem!_pos xs.toArray (t / 3) (by simpa using hj),ac7];have hq:t % 3<(kq xs[t / 3]).length:=by rw[hlen3];omega
  have:=(hel (t / 3) hj).2.2 (t % 3) _ (ac2 hq);rw[getElem!_pos (kq xs[t / 3]) (t % 3) hq];grind [World.cell?]
 refine .inl ⟨⟨_,func220,by kernel_rfl,by kernel_rfl⟩,?_⟩;have hq:=AnyQ.slices_Reverse Tryz.KU 3 Tryz.isAgg100 Tryz.sizeOf100 kq hlen3 (λx v hv=>by
  simp[kq]at hv;rcases hv with rfl|rfl|rfl<;>rfl) b base cap xs.toArray w hH (by simp;omega)
 refine hq.mono λe w' ⟨he,n,hw⟩=>?_
 unfold putRowK at hw;have hrev:xs.toArray.reverse=xs.reverse.toArray:=by simp
 rw[hrev]at hw;obtain⟨s1,s2⟩:=hst.BH (fl:=flatK kq 3 xs.reverse.toArray) (n:=n) (os:=#[]) (ys:=xs.reverse.map bX) (k:=3) hid m1 hsz (by simp) (by simp[size_flatK]) λi y hy=>by
  rw[acJ]at hy;obtain⟨x,hx,rfl⟩:=adj.1 hy;have hil:=(acG.1 hx).1;obtain⟨j,hj,hjx⟩:=adt (List.mem_reverse.1 (acM hx));have hr:=hel j hj;rw[hjx]at hr;refine⟨kq x,hr.1,rfl,hr.2.1,λq c hc=>?_⟩;have hql:=(acG.1 hc).1;rw[hlen3]at hql;have hrl:xs.reverse.length=xs.length:=List.length_reverse;have hlt:i*3+q<(flatK kq 3 xs.reverse.toArray).size:=by rw[size_flatK];simp at hil ⊢;omega
  rw[Array.getElem?_eq_getElem hlt,<-getElem!_pos (flatK kq 3 xs.reverse.toArray) (i*3+q) hlt,get_flatK _ _ _ _ (by simp at hil ⊢;omega),show(i*3+q) / 3=i by omega,show(i*3+q) % 3=q by omega,getElem!_pos xs.reverse.toArray i (by simpa using hil)];have hx':xs.reverse[i]'hil=x:=(acG.1 hx).2;have hq3:q<(kq x).length:=by rw[hlen3];exact hql
  rw[ac7,hx',getElem!_pos (kq x) q hq3,<-ac2 hq3];exact hc
 rw[zR]at s1 s2;subst hw;exact⟨_,.tup [],_,C,he,⟨rfl,rfl⟩,s2,.tup rfl (λi a v h=>by simp at h),s1⟩
theorem Gs :ai prog W0 220 [.ar] (.tup []):=by
 refine jc func220 (by kernel_rfl) (by kernel_rfl) λw C vs hb hlow hvl hv=>?_
 obtain _|⟨v1,_|⟨_,_⟩⟩:=vs<;>simp at hvl
 have h1:=(hv 0 _ _ rfl rfl).aH rfl;cases h1;refine(AnyQ.slices_Reverse_empty Tryz.KU none 0 w).mono λe w' ⟨he,hw⟩=>?_
 subst hw;exact⟨_,he,.tup rfl (λi a v h=>by simp at h),RowKit.Below.refl _ _⟩
theorem YP {σ0 σ:ab}{id mid:Nat}{ns:List bE}{a b c:AV}{q:List (List UInt8×List bN)}{fr:List Int}{by_:List bN}(h:StS σ0 σ id mid ns a b c q fr by_)(hL:yQ q fr by_)(hq:q.length<=20000){at_:Nat}{k:List UInt8}{p:List bN}(ha:q[at_]?=some (k,p)):
  aS prog W0 163 [.ptr 228 id 0 [],.int .i64 (at_:Nat)] σ λr σ'=>r= .sl 100 (p.map bX)/\σ'=σ:=by
 have hob:=h.sea.at_;unfold stO lU at hob;refine lZ [4] [] func163 rfl rfl ntmps163 rfl rfl (.sl λx hx=>by
  obtain⟨z,_,rfl⟩:=ac0.1 hx;refine .agg λy hy=>?_
  simp at hy;rcases hy with rfl|rfl|rfl<;>first|exact .int _ _|exact .str _) λhs=>?_
 simp only[go_sem,simprocAttr];refine ae.at [] (λA=>∃ v,A.env 5=v/\dD σ .ar 100 (p.reverse.map bX) v A.st) ?_ λB ⟨v,h5,hA⟩=>?_
 .refine ae.cC [0] (λn A=>∃ v k' p',A.env 1= .int .i64 (n:Nat)/\A.env 5=v/\q[n]?=some (k',p')/\ ∃o,p=p'++o/\o.length+n<=at_/\dD σ .ar 100 (o.reverse.map bX) v A.st) at_ ?_ λn B ⟨v,k',p',h1,h5,hn,o,hp,hon,hA⟩=>?_
  .simp only[go_sem,simprocAttr];exact⟨_,k,p,rfl,ha,[],by simp,by simp,dD.refl (.inl ⟨rfl,rfl⟩)⟩
  have hobB:=dD.ob (.inl ⟨rfl,rfl⟩) hA hob (by decide);have hol:o.length<=20000:=by
   have:=(acG.1 ha).1;omega
  simp only[go_sem,simprocAttr,h1,h5,hA.row.v.st.ok,hA.row.v.st.un];refine⟨λhpos=>?_,λhz=>⟨v,rfl,?_⟩⟩
  .obtain⟨j,k2,p2,s2,hj,hfr,hby,hqj,hpp⟩:=(hL.on n k' p' hn).resolve_left (λe=>by omega);have hbc:=h.sea.b 2 c 100 _ rfl rfl rfl;have hbf:=h.sea.b 1 b 3 _ rfl rfl rfl;have hbx:(by_.map bX)[n]?=some (bX s2):=by rw[acJ,hby];rfl
   have hfx:(fp fr)[n]?=some (.int .i64 (j:Nat)):=by unfold fp;rw[acJ,hfr];rfl
   have hso:okM none (bX s2)=True:=eq_true trivial;have hsu:unm (bX s2)=bX s2:=rfl;have hsf:bc prog 100 (bX s2)=true:=by kernel_rfl
   simp only[go_sem,simprocAttr,h1,h5,an hobB,aP hobB,hbc.ok,hbc.un,hbc.ixV hbx,hbc.ixC hbx,hso,hsu,hsf,hA.row.v.st.ok,hA.row.v.st.un];refine⟨by rw[acH];exact(acG.1 hby).1,bA.za (by simp only[go_sem,simprocAttr]) 1048576 (by kernel_rfl) hA.row.v (.lit _ _ _) (by simp) (by simp;omega) λv' σ' hv'=>?_⟩;have hA2:=hA.step hv';have hob2:=dD.ob (.inl ⟨rfl,rfl⟩) hA2 hob (by decide);simp only[go_sem,simprocAttr,h1,an hob2,aP hob2,hbf.ok,hbf.un,hbf.ixV hfx,hbf.ixC hfx,hv'.row.v.st.ok,hv'.row.v.st.un];refine⟨by simp[fp];exact(acG.1 hfr).1,?_⟩;refine .here j hj ⟨v',k2,p2,rfl,rfl,hqj,s2::o,by rw[hp,hpp];simp,by simp;omega,?_⟩;rw[List.reverse_cons,acS];exact hA2
  .have hn0:n=0:=by omega
   subst hn0;rcases hL.on 0 k' p' hn with⟨_,e⟩|⟨j,_,_,_,hj,_⟩
   .rw[e,List.nil_append]at hp;rw[hp];exact hA
   .omega
 have hxB:Ext σ B.st:=hA.fr.ug (.refl _) λj hj=>by simp[aR]at hj
 have hpl:p.length<=20000:=by
  have h1:=hL.ack at_ k p ha;have h2:=(acG.1 ha).1;omega
 simp only[go_sem,simprocAttr,h5,hA.row.v.st.ok,hA.row.v.st.un];rcases hA.row with⟨rfl,h0⟩|⟨ir,rfl,hir,h0⟩
 .have e0:p=[]:=by simpa using h0
  refine aj.fn Gs ?_;simp only[go_sem,simprocAttr,h5];refine bz.ret ?_;simp only[go_sem,simprocAttr];rw[e0];exact⟨.ar _,hxB⟩
 .have hne:p.reverse≠[]:=λe=>h0 (by rw[e];rfl)
  have hloi:σ.length<=ir:=by
   rcases hA.aR ir (by simp[aR])with h|h
   .simp[aR]at h
   .exact h
  have hlz:(p.reverse.map bX).length=p.reverse.length:=by simp
  have hrv:=J7 (W0:=W0) B.st ir p.reverse hir hne (by simp;omega);rw[<-hlz]at hrv;refine aj.goes (by simp only[go_sem,simprocAttr]) hrv λr st1 ⟨hr,hst1⟩=>?_
  subst hr;simp only[go_sem,simprocAttr,h5];have hat:st1[ir]?=some (some (.cells 100 (p.map bX))):=by
   rw[hst1,acP (acG.1 hir).1,List.reverse_reverse]
  have hzl:(p.reverse.map bX).length=(p.map bX).length:=by simp
  refine bz.frz (e:=100) (te:=100) (id:=ir) (off:=0) (m:=(p.reverse.map bX).length) (xs:=p.map bX) 4 (by simp only[go_sem,simprocAttr]) (by simp only[go_sem,simprocAttr];exact hat) (by omega) (bz.ret ?_);simp only[go_sem,simprocAttr];rw[hzl,acT];refine⟨.refl _,?_⟩;have hx1:Ext σ st1:=by
   rw[hst1];exact hxB.set hloi _
  exact hx1.set hloi _
end Go.Proofs.Tryz
end
section
namespace Go.Av
theorem Sj {α β:Type}{f:Nat->α->List β}{l:List α}{i:Nat}{y:β}(h:y∈fmI f 0 (l.take i)):y∈fmI f 0 l:=by
 rw[<-List.take_append_drop i l,CX];exact ac8 _ h
theorem IK {ns:List bE}{k:List UInt8}{j i:Nat}{x:bN×List UInt8}(hj:j<=3)(h:x∈dS ns k j i):x∈jS ns k:=by
 unfold dS at h;unfold jS;rcases acX.1 h with h|h
 .obtain⟨kind,hk,hx⟩:=adi.1 h;exact adi.2 ⟨kind,adr hk,hx⟩
 .have:j=0\/j=1\/j=2\/j=3:=by omega
  refine adi.2 ⟨j+1,?_,Sj h⟩;rcases this with rfl|rfl|rfl|rfl<;>simp
theorem Ri {p:List bN}{x:bN×List UInt8}{q:List (List UInt8×List bN)}:jD _root_.id p [x] q=if x.2∈q.map (·.1)then q else q++[(x.2,p++[x.1])]:=by
 simp only[jD,_root_.id];congr
open Go.Proofs.Tryz
structure Cl (ns:List bE)(k0:List UInt8):Prop where
 len:ns.length<=20
 size:k0.length=ns.length
 low: ∀c∈k0,c.toNat<=4
 few:(ns.filter (·.kK)).length<=6
 ok: ∀n∈ns,Ab n
end Go.Av
end
section
namespace Go.Proofs.Tryz
open Go Go.Av
set_option maxRecDepth 10000
set_option maxHeartbeats 1000000
variable {W0 :World}
theorem StS.more {σ st:ab}{id mid:Nat}{ns:List bE}{a b c:AV}{q:List (List UInt8×List bN)}{fr:List Int}{by_:List bN}(h:StS σ st id mid ns a b c q fr by_)(l:ab):StS σ (st++l) id mid ns a b c q fr by_:=by
 obtain⟨m,hm,h1,h2⟩:=h.mp;exact⟨h.sea.more l,h.mlo,⟨m,by rw[acN (acG.1 hm).1];exact hm,h1,h2⟩,h.low⟩
structure ExI (σ st:ab)(id mid:Nat)(ns:List bE)(k0:List UInt8)(q:List (List UInt8×List bN)):Prop where
 ex: ∃a b c fr by_,StS σ st id mid ns a b c q fr by_/\yQ q fr by_
 ways:KQ ns k0 q
theorem ExI.more {σ st:ab}{id mid:Nat}{ns:List bE}{k0:List UInt8}{q:List (List UInt8×List bN)}(h:ExI σ st id mid ns k0 q)(l:ab):ExI σ (st++l) id mid ns k0 q:=by
 obtain⟨a,b,c,fr,by_,h1,h2⟩:=h.ex;exact⟨⟨a,b,c,fr,by_,h1.more l,h2⟩,h.ways⟩
theorem ExI.size {σ st:ab}{id mid:Nat}{ns:List bE}{k0:List UInt8}{q:List (List UInt8×List bN)}(h:ExI σ st id mid ns k0 q)(H:Cl ns k0):q.length<=20000:=by
 have h1:=xV h.ways;have h2:5^(ns.filter (·.kK)).length<=5^6:=adp (by decide) H.few;omega
theorem ExI.put {σ st:ab}{id mid:Nat}{ns:List bE}{k0:List UInt8}{q:List (List UInt8×List bN)}(h:ExI σ st id mid ns k0 q)(H:Cl ns k0){at_:Nat}{k:List UInt8}{p:List bN}(ha:q[at_]?=some (k,p))(x:bN×List UInt8)(hx:x.2∈eU ns k0):
  aS prog W0 161 [.ptr 228 id 0 [],.str x.2,.int .i64 (at_:Nat),bX x.1] st λr st'=>st.length<=st'.length/\ExI σ st' id mid ns k0 (jD _root_.id p [x] q):=by
 have hsz:=h.size H;obtain⟨a,b,c,fr,by_,h1,h2⟩:=h.ex;have hk20:x.2.length<=20:=by rw[mw hx,H.size];exact H.len
 have hw:=Aj p (m:=[x]) (l:=q) (λy hy=>by rw[acR.1 hy];exact hx) h.ways;refine(QL h1 hsz h2.l1 h2.l2 x.2 hk20 (at_:Nat) x.1 (p++[x.1])).mono λr st' ⟨hle,a',b',c',hr⟩=>⟨hle,⟨?_,hw⟩⟩
 .rw[Ri];by_cases hm:x.2∈q.map (·.1)
  .rw[if_pos hm]at hr ⊢;exact⟨a',b',c',fr,by_,hr,h2⟩
  .rw[if_neg hm]at hr ⊢;exact⟨a',b',c',_,_,hr,h2.snoc ha _ _⟩
theorem Mx {σ st:ab}{id mid:Nat}{ns:List bE}{k0:List UInt8}{q:List (List UInt8×List bN)}(h:ExI σ st id mid ns k0 q)(H:Cl ns k0){at_:Nat}{k:List UInt8}{p:List bN}(ha:q[at_]?=some (k,p)):
  aS prog W0 164 [.ptr 228 id 0 [],.int .i64 (at_:Nat)] st λr st'=>st.length<=st'.length/\ExI σ st' id mid ns k0 (jD _root_.id p (jS ns k) q):=by
 have hsz:=h.size H;have hal:=(acG.1 ha).1;have hkw:k∈eU ns k0:=h.ways.2 _ (acM ha);have hkl:k.length=ns.length:=(mw hkw).trans H.size;have hns:=H.len;have hways:=Ji H.size H.low hkw;obtain⟨a,b,c,fr,by_,h1,h2⟩:=h.ex;have hob:=h1.sea.at_;unfold stO lU at hob;have b0:=h1.sea.b 0 a 9 _ rfl rfl rfl;have hkx:(bT (q.map (·.1)))[at_]?=some (.str k):=by
  unfold bT;rw[acJ,acJ,ha];rfl
 refine bZ [] [8,5000051,5000058] func164 rfl rfl ntmps164 rfl rfl λhs=>?_
 simp only[go_sem,simprocAttr,an hob,aP hob,b0.ok,b0.un,b0.ixV hkx,b0.ixC hkx];refine⟨by simpa[bT]using hal,aj.reads (by simp only[go_sem,simprocAttr]) (E6 st id ns (.mp mid) a b c k h1.sea.at_ hns H.ok hkl) ?_⟩;simp only[go_sem,simprocAttr];refine ae.upto [0,1,4,5] 4 (λj A=>A.env 6= .int .i64 (j+1:Nat)/\st.length<=A.st.length/\ExI σ A.st id mid ns k0 (jD _root_.id p (dS ns k j 0) q)) 0 (acK _) ?_ λj B hj ⟨h6,hle,hB⟩=>?_
 .simp only[go_sem,simprocAttr];rw[ET];exact h
 have hc4:decide (((j+1:Nat):Int)<=4)=decide (j<4):=decide_eq_decide.2 (by omega);simp only[go_sem,simprocAttr,h6];refine⟨λhc=>?_,λhc=>bz.normal ?_⟩
 .have hj4:j<4:=by omega
  obtain⟨a1,b1,c1,fr1,by1,g1,g2⟩:=hB.ex;have hob1:=g1.sea.at_;unfold stO lU at hob1;simp only[go_sem,simprocAttr,an hob1,aP hob1,acH];refine ae.ats [0,1,4,5,6] (λA=>st.length<=A.st.length/\ExI σ A.st id mid ns k0 (jD _root_.id p (dS ns k (j+1) 0) q)) ?_ λC ⟨hle2,hC⟩=>?_
  .refine ae.upto [0,1,4,5,6,30,31] ns.length (λi A=>A.env 32= .int .i64 i/\st.length<=A.st.length/\ExI σ A.st id mid ns k0 (jD _root_.id p (dS ns k j i) q)) 0 (acK _) ?_ λi C hi ⟨h32,hle2,hC⟩=>?_
   .simp only[go_sem,simprocAttr];exact⟨hle,hB⟩
   simp only[go_sem,simprocAttr,h32,acH];refine⟨λhc2=>⟨hc2,?_⟩,λhc2=>?_⟩
   .obtain⟨n,hn⟩:=get_some hc2;obtain⟨d,hd⟩:=get_some (show i<k.length by omega);simp only[aw hn];have hno: ∀g,okM g (kp n)=True:=λg=>eq_true trivial
    have hnu:unm (kp n)=kp n:=rfl;have hnf:bc prog 280 (kp n)=true:=by kernel_rfl
    have hin:AV.int .i64 (IntKind.i64.wrap ((i:Int)+1))= .int .i64 (i+1:Nat):=ag hc2 (by rw[aq];omega);have es:dS ns k j (i+1)=dS ns k j i++nO ns k (j+1) i n:=Gy hn;have hik:=(acG.1 hd).1;have hC1:=hC.more [none];simp only[go_sem,simprocAttr,h32,h6,hno,hnu,hnf,hd,acL];refine⟨.of (by kernel_rfl),hik,aD.go (O3 n (j+1) d (by omega)) ?_⟩;simp only[go_sem,simprocAttr,h32,h6,kp];have hnone:nO ns k (j+1) i n=[]->ExI σ (C.st++[none]) id mid ns k0 (jD _root_.id p (dS ns k j (i+1)) q):=λe=>by
     rw[es,e,acY];exact hC1
    refine⟨λhx=>⟨hc2,hin,by omega,hnone ?_⟩,λhx=>?_⟩
    .unfold nO;rw[hd]
     dsimp only
     cases ht:fI n (j+1) d with
     |none=>rfl
     |some e=>
      have h0: ¬gh n (j+1) d<0:=by
       unfold gh;rw[ht]
       dsimp only
       omega
      dsimp only
      rw[if_neg];rintro⟨hm,_⟩;rw[hm]at hx;simp at hx;exact h0 hx
    obtain⟨e,ht,hte,hmv⟩: ∃e,fI n (j+1) d=some e/\gh n (j+1) d=((e.toNat:Nat):Int)/\n.kK=true:=by
     rw[ads]at hx;unfold gh at hx ⊢;cases ht:fI n (j+1) d with
     |none=>rw[ht]at hx;simp at hx
     |some e=>exact⟨e,rfl,rfl,by simpa using hx.1⟩
    have he4:=xD ht;have hxw: ∀x∈nO ns k (j+1) i n,x.2∈eU ns k0:=λx hx=>hways x (IK (j:=j) (i:=i+1) (by omega) (by rw[es];exact adn _ hx))
    have hke:k.set i e∈eU ns k0:=wg he4 hkw hn hmv (by rw[H.size];omega);have hkel:(k.set i e).length=ns.length:=(mw hke).trans H.size;rw[hte];refine lI.bytes (e:=5) ⟨by kernel_rfl,by kernel_rfl,by kernel_rfl,by kernel_rfl,by kernel_rfl⟩ ?_;obtain⟨τ1,hτ1⟩: ∃τ1,τ1=C.st++[none]:=⟨_,rfl⟩;have hlτ:C.st.length<=τ1.length:=by rw[hτ1];simp
    simp only[go_sem,simprocAttr,<-hτ1];have hub:IntKind.u8.wrap ((e.toNat:Nat):Int)=((e.toNat:Nat):Int):=by
     have:=UInt8.toNat_lt e;rw[IntKind.wrap_u8];omega
    have hcs:(k.map ba).set (0+i) (AV.int .u8 (IntKind.u8.wrap ((e.toNat:Nat):Int)))=(k.set i e).map ba:=by
     rw[hub,ac3,List.map_set];rfl
    have hlv:live (τ1++[some (bJ.cells 5 (k.map ba))]) τ1.length:=⟨5,k.map ba,by simp⟩;have hbi:((k.map ba)[0+i]?.bind λx=>some x).isSome=true:=by simp[hik]
    rw[hcs];refine⟨⟨hik,hlv⟩,hbi,?_⟩;obtain⟨τ2,hτ2⟩: ∃τ2,τ2=τ1++[some (bJ.cells 5 ((k.set i e).map ba))]:=⟨_,rfl⟩;have hC2:ExI σ τ2 id mid ns k0 (jD _root_.id p (dS ns k j i) q):=by
     rw[hτ2,hτ1];exact hC1.more _
    have hat:τ2[τ1.length]?=some (some (.cells 5 ((k.set i e).map ba))):=by rw[hτ2];simp
    have hl2:st.length<=τ2.length:=by rw[hτ2,acO];omega
    have hkk:((k.set i e).map ba).length=k.length:=by simp
    refine lI.str (e:=5) (l:=k.set i e) ⟨by kernel_rfl,by kernel_rfl,by kernel_rfl,by kernel_rfl⟩ (.inr (.inr ⟨τ1.length,0,k.length,(k.set i e).map ba,rfl,by simp only[go_sem,simprocAttr,<-hτ2,hat],by simp,by rw[List.drop_zero,<-hkk,acT]⟩)) ?_;simp only[go_sem,simprocAttr,<-hτ2];refine aj.fn (PM (k.set i e) (by omega)) ?_;obtain⟨a2,b2,c2,fr2,by2,f1,f2⟩:=hC2.ex;have hob2:=f1.sea.at_;simp only[go_sem,simprocAttr,<-hτ2,h32];refine aD.st (λ_=>E6 τ2 id ns (.mp mid) a2 b2 c2 (k.set i e) hob2 hns H.ok hkel) ?_;simp only[go_sem,simprocAttr];have hwl:=Hz (k:=k) H.ok hns (by omega);refine aD.fnG (λ_=>Ns (gx ns (k.set i e)) (gx ns k) (HI ns k) (by omega)) ?_;rw[J4];simp only[go_sem,simprocAttr,h32];obtain⟨w,hw⟩: ∃w,w=(fY ns (k.set i e)).all λv=>(fY ns k).contains v:=⟨_,rfl⟩
    rw[<-hw];have hdc:decide ((10:Int)<((jb (k.set i e):Nat):Int))=decide (10<jb (k.set i e)):=decide_eq_decide.2 (by omega);rw[hdc];have hnx:nO ns k (j+1) i n=if jb (k.set i e)<=10/\w=true then [(⟨j+1,n.name,if j+1=3 then n.ver else []⟩,k.set i e)]else []:=by
     unfold nO;rw[hd]
     dsimp only
     rw[ht]
     dsimp only
     rw[<-hw,hmv];simp
    refine⟨λhz=>⟨hc2,hin,by omega,?_⟩,λhz=>?_⟩
    .rw[es,hnx,if_neg,acY]
     .exact hC2
     .rintro⟨h10,h11⟩;rw[h11]at hz;simp at hz;omega
    simp only[go_sem,simprocAttr,h32,h6];have hz':jb (k.set i e)<=10/\w=true:=by
     rw[ads]at hz;have g1:=of_decide_eq_false hz.1;exact⟨by omega,by simpa using hz.2⟩
    obtain⟨s,hs2⟩: ∃s:bN,s=⟨j+1,n.name,if j+1=3 then n.ver else []⟩:=⟨_,rfl⟩;rw[if_pos hz',<-hs2]at hnx;have hS: ∀x:List UInt8,(τ2++[some (bJ.cells 100 [.agg 100 [.int .i64 (j+1:Nat),.str n.name,.str x]])])[τ2.length]?=some (some (.cells 100 [.agg 100 [.int .i64 (j+1:Nat),.str n.name,.str x]])):=λx=>by simp
    refine cm.at [0,1,4,5,6,11,12,30,31,32] (by kernel_rfl) (λA=>A.st=τ2++[some (.cells 100 [bX s])]) (λh3=>?_) (λh3=>?_) λD hst=>?_
    .have h3':j+1=3:=by simp only[beq_iff_eq]at h3;omega
     rw[if_pos h3']at hs2;simp only[go_sem,simprocAttr,kp,an (hS _),aP (hS _),aC (hS _)];rw[hs2];rfl
    .have h3': ¬j+1=3:=by intro h;rw[h]at h3;simp at h3
     rw[if_neg h3']at hs2;simp only[go_sem,simprocAttr];rw[hs2];rfl
    obtain⟨tt,htt⟩:=sd (κ:=_root_.id) p (dS ns k j i) q;have ha':(jD _root_.id p (dS ns k j i) q)[at_]?=some (k,p):=by
     rw[htt,acN hal];exact ha
    have hC3:=hC2.more [some (.cells 100 [bX s])];have hSs:(τ2++[some (bJ.cells 100 [bX s])])[τ2.length]?=some (some (.cells 100 [bX s])):=by simp
    have hso:okM none (bX s)=True:=eq_true trivial;have hsu:unm (bX s)=bX s:=rfl;simp only[go_sem,simprocAttr,h32,hst,an hSs,aP hSs,hso,hsu];refine aj.goes hst (hC3.put H ha' (s,k.set i e) hke) λr st5 ⟨hle5,h5⟩=>?_
    simp only[go_sem,simprocAttr,h32];rw[acO]at hle5;refine⟨hc2,hin,by omega,?_⟩;rw[es,hnx,Gf];exact h5
   .rw[E9 (by omega) hj4]
    have:dS ns k j i=dS ns k j ns.length:=by rw[show i=ns.length by omega]
    exact⟨hle2,hC⟩
  simp only[go_sem,simprocAttr,h6];exact⟨hj4,ag (N:=5) (by omega) (by rw[aq];omega),hle2,hC⟩
 .simp only[go_sem,simprocAttr];have e4:j=4:=by omega
  subst e4;rw[Ig]at hB;exact⟨_,.refl _,hle,hle,hB⟩
end Go.Proofs.Tryz
end
section
namespace Go.Av
open Go.Proofs.Tryz
def H3 (most:Nat):List Pkg->Nat->Nat->Bool
 |[],_,_=>true
 |p::r,n,run=>if r.head?.map (·.name)=some p.name then H3 most r n (run+1)else if most<n*(run+2)then false else H3 most r (n*(run+2)) 0
end Go.Av
end
section
namespace Go.Proofs.Tryz
open Go Go.Av
set_option maxRecDepth 10000
variable {W0 :World}
theorem V2 (l:List Pkg)(hl:l.length<=1024)(m:Nat)(hm:m<=1048576):ai prog W0 31 [aI l,.int .i64 m] (.bool (H3 m l 1 0)):=by
 refine ak [4] [] func31 rfl rfl ntmps31 rfl rfl (.bool _) λhs σ=>?_
 simp only[go_sem,simprocAttr,aI,acH];refine ae.upto [0,1,9] l.length (λi A=>∃ n run:Nat,A.env 10= .int .i64 i/\A.env 5= .int .i64 n/\A.env 6= .int .i64 run/\A.st=σ/\H3 m (l.drop i) n run=H3 m l 1 0/\n<=m+1/\run<=i) 0 (acK _) ?_ λi B hi ⟨n,run,h10,h5,h6,hst,hI,hn,hr⟩=>?_
 .simp only[go_sem,simprocAttr];grind
 simp only[go_sem,simprocAttr,h10,h5,h6,acH];refine⟨λhc=>?_,λhc=>?_⟩
 .obtain⟨p,hp⟩:=get_some hc;have hd:l.drop i=p::l.drop (i+1):=by
   grind [List.getElem_cons_drop]
  have hmul:n*(run+2)<=1048577*1026:=adq (by omega) (by omega);have hw1:IntKind.i64.wrap ((run:Int)+1)=((run+1:Nat):Int):=by grind [aG]
  have hw2:IntKind.i64.wrap (((run+1:Nat):Int)+1)=((run+2:Nat):Int):=by grind [aG]
  have hw3:IntKind.i64.wrap ((n:Int)*((run+2:Nat):Int))=((n*(run+2):Nat):Int):=by grind [aG]
  have hw4:IntKind.i64.wrap ((i:Int)+1)=((i+1:Nat):Int):=by grind [aG]
  rw[hd,H3,List.head?_drop]at hI;by_cases hlt:i+1<l.length
  .obtain⟨q,hq⟩:=get_some hlt;have hf:((i+1:Nat):Int)≠(l.length:Int):=by omega
   have hf2:(((i+1:Nat):Int)==(l.length:Int))=false:=by simp_all
   simp only[go_sem,simprocAttr,hw1,hw2,hw3,hw4,hf2,hst,ax,aw hp,aw hq,hc,hlt];rw[hq,Option.map_some]at hI;refine⟨.of (by kernel_rfl),λhne=>⟨λhm1=>au ?_,λhm1=>⟨_,0,rfl,rfl,?_,by omega,acK _⟩⟩,λhe=>⟨n,run+1,rfl,rfl,?_,hn,by omega⟩⟩
   .simp_all
   .grind
   simp_all
  .have hf:((i+1:Nat):Int)=(l.length:Int):=by omega
   have hf2:(((i+1:Nat):Int)==(l.length:Int))=true:=by simp_all
   simp only[go_sem,simprocAttr,hw1,hw2,hw3,hw4,hf2,hst,ax,aw hp,uP];rw[List.getElem?_eq_none (by omega),Option.map_none,if_neg (by simp)]at hI;have hel:i+1=l.length:=by omega
   refine⟨.of (by kernel_rfl),λh=>absurd hel h,λh=>absurd hel h,λh=>absurd hel h,λh=>absurd hel h,λh=>absurd hel h,λhm1=>au ?_,λhm1=>⟨hc,_,0,rfl,rfl,?_,by omega,acK _⟩⟩
   .simp_all
   grind
 .rw[List.drop_of_length_le hc]at hI;exact⟨au (by rw[<-hI];rfl),by simp_all⟩
end Go.Proofs.Tryz
end
section
namespace Go.Av
open Go.Proofs.Tryz
def jv (s:List aB)(p:Pkg):Bool:=match ca s p.name with
 |none=>true
 |some x=>!bb x.pkg.ver p.ver
theorem DV (repo:List Pkg)(s:List aB):dV repo s=s.map (·.pkg)++repo.filter (jv s):=rfl
theorem zp {l:List Pkg}(h:aY l=0):l.length<=24:=by
 grind [aY]
theorem fP {s:List aB}(h:br s=0):s.length<=10:=by
 grind [br]
end Go.Av
end
section
namespace Go.Proofs.Tryz
open Go Go.Av
set_option maxRecDepth 10000
variable {W0 :World}
theorem IM (s:List aB)(n:List UInt8):(fK (λx:aB=>x.pkg.name==n) s= -1/\ca s n=none)\/ ∃k x,s[k]?=some x/\ca s n=some x/\fK (λx:aB=>x.pkg.name==n) s=(k:Nat):=by
 rcases dj (λx:aB=>x.pkg.name==n) s with⟨h1,h2⟩|⟨k,p,h1,h2,h3,h4⟩
 .exact .inl ⟨h1,ade.2 λx hx=>by simp_all⟩
 .exact .inr ⟨k,p,h1,gI h1 h2 h3,h4⟩
theorem KR (repo:List Pkg)(s:List aB):ai prog W0 22 [aI repo,aK s] (.tup [aI (cB repo s).1,.int .i64 (cB repo s).2]):=by
 refine ak [4,5] [10,12] func22 rfl rfl ntmps22 rfl rfl (.rj (kL _) (.int _ _)) λhs σ=>?_
 simp only[go_sem,simprocAttr];refine aj.fn (OO repo) ?_;simp only[go_sem,simprocAttr];refine⟨λhc=>?_,λhc=>?_⟩
 .have:cB repo s=([],aY repo):=by grind [cB]
  rw[this];exact dp (.sub (.ar _)) (.refl _)
 refine aj.fn (Ka s) ?_;simp only[go_sem,simprocAttr];refine⟨λhc2=>?_,λhc2=>?_⟩
 .have:cB repo s=([],br s):=by grind [cB]
  rw[this];exact dp (.sub (.ar _)) (.refl _)
 have h24:=zp hc;have h10:=fP hc2;simp only[go_sem,simprocAttr,aK,acH];refine ae.at [0,1,24,25] (λA=>∃ v,A.env 8=v/\aM σ A.st v 51 ((s.map (·.pkg)).map ax)) ?_ λB ⟨v,h3,hb⟩=>?_
 .refine ae.upto [0,1,24,25] s.length (λi A=>∃ v,A.env 8=v/\A.env 26= .int .i64 i/\aM σ A.st v 51 (((s.take i).map (·.pkg)).map ax)) 0 (acK _) ?_ λi B hi ⟨v,h3,h8,hb⟩=>?_
  .simp only[go_sem,simprocAttr];simp[aM.nil,Ext.refl]
  simp only[go_sem,simprocAttr,h3,h8,hb.ok,hb.un,acH];refine⟨λhlt=>⟨hlt,?_⟩,λhlt=>?_⟩
  .obtain⟨x,hx⟩:=get_some hlt;simp only[aw hx];have hb1:=hb.more [none];simp only[go_sem,simprocAttr,bg,ax];refine bA.own 733007751829 (by kernel_rfl) hb1.bld (.lit _ _ _) (by grind) λv' σ' ha'=>?_
   have hb':=hb1.app ha';simp only[go_sem,simprocAttr,h8];refine⟨hlt,_,rfl,ag hlt (by grind [aq]),?_⟩;rw[ah hx,acS,acS];exact hb'
  grind
 have hfind: ∀n,ai prog W0 21 [.sl 53 (s.map bg),.str n] (.int .i64 (fK (λx:aB=>x.pkg.name==n) s)):=λn=>by
  grind [DG,aK]
 simp only[go_sem,simprocAttr,aI,acH];refine ae.at [1,36,37] (λA=>∃ v,A.env 8=v/\aM σ A.st v 51 ((dV repo s).map ax)) ?_ λB2 ⟨v2,h4,hb2⟩=>?_
 .refine ae.upto [1,36,37] repo.length (λi A=>∃ v,A.env 8=v/\A.env 38= .int .i64 i/\aM σ A.st v 51 ((s.map (·.pkg)++(repo.take i).filter (jv s)).map ax)) 0 (acK _) ?_ λi B2 hi ⟨v2,h4,h38,hb2⟩=>?_
  .simp only[go_sem,simprocAttr,h3];simp_all
  simp only[go_sem,simprocAttr,h4,h38,acH];refine⟨λhlt=>⟨hlt,?_⟩,λhlt=>?_⟩
  .obtain⟨p,hp⟩:=get_some hlt;have hlen:((repo.take i).filter (jv s)).length<=24:=adB (ac5 _ _) (by grind);simp only[aw hp];have hb3:=hb2.more [none];simp only[go_sem,simprocAttr,ax];refine aj.fn (hfind p.name) ?_;have hgo: ∀b,jv s p=b->(repo.take (i+1)).filter (jv s)=(repo.take i).filter (jv s)++(if b=true then [p]else []):=λb hb=>by
    simp_all[ah,adE]
   rcases IM s p.name with⟨g1,g2⟩|⟨k,x,g1,g2,g3⟩
   .have hj:jv s p=true:=by grind [jv]
    rw[g1];simp only[go_sem,simprocAttr];refine⟨.of (by kernel_rfl),aD.fnG (r:=.bool false) (λh=>(adz h).elim) ?_⟩;simp only[go_sem,simprocAttr,h4,h38,hb2.ok,hb2.un];refine bA.own 733007751829 (by kernel_rfl) hb3.bld (.lit _ _ _) (by grind) λv' σ' ha'=>?_
    have hb':=hb3.app ha';simp only[go_sem,simprocAttr,h38];refine⟨hlt,_,rfl,ag hlt (by grind [aq]),?_⟩;rw[hgo true (by rw[hj]),if_pos rfl,<-ac4,acS];exact hb'
   .rw[g3];have hkl:=(acG.1 g1).1;have hk0:decide ((k:Int)<0)=false:=decide_eq_false (by omega);simp only[go_sem,simprocAttr,hk0,aw g1,bg,ax,acH];refine⟨.of (by kernel_rfl),hkl,aD.fnG (λ_=>im x.pkg.ver p.ver) ?_⟩;have hj:jv s p= !bb x.pkg.ver p.ver:=by grind [jv]
    simp only[go_sem,simprocAttr,h4,h38,hb2.ok,hb2.un];refine⟨λhv=>?_,λhv=>⟨hlt,_,rfl,ag hlt (by grind [aq]),?_⟩⟩
    .refine bA.own 733007751829 (by kernel_rfl) hb3.bld (.lit _ _ _) (by grind) λv' σ' ha'=>?_
     have hb':=hb3.app ha';simp only[go_sem,simprocAttr,h38];refine⟨hlt,_,rfl,ag hlt (by grind [aq]),?_⟩;rw[hgo true (by simp_all),if_pos rfl,<-ac4,acS];exact hb'
    simp_all
  .rw[acI hlt]at hb2;exact⟨_,rfl,hb2⟩
 have hjl:(dV repo s).length<=1024:=by
  grind [DV]
 have hlen:oA v2= .int .i64 (dV repo s).length:=by rw[hb2.len,acH]
 have hlc:=λt=>hb2.fR prog t
 simp only[go_sem,simprocAttr,h4,hb2.ok,hb2.un,hlen,hlc];refine aD.fnG (λ_=>(Ae (dV repo s) hjl).cb (.cons hb2.cb .nil)) ?_;simp only[go_sem,simprocAttr,h4,hb2.ok,hb2.un,acH];have hnl:=MY (dV repo s);refine⟨λhm=>⟨?_,hb2.ext⟩,λhm=>?_⟩
 .have:cB repo s=([],12):=by
   grind [cB]
  rw[this];exact dp (.sub (.ar _)) (.refl _)
 .have:cB repo s=(cV (dV repo s),0):=by
   grind [cB]
  refine aj.fn ((IH (dV repo s) hjl).cb (.cons hb2.cb .nil)) ?_;rw[this];simp only[go_sem,simprocAttr];exact⟨.refl _,hb2.ext⟩
theorem FV (repo:List Pkg)(s:List aB):(cB repo s).1.length<=24:=by
 unfold cB;split
 .simp
 split
 .simp
 split
 .simp
 grind [adL,eE]
end Go.Proofs.Tryz
end
