/- What the last text of this claim rests on. No conditions. -/
import Derived.Deep.RegionWith
import Derived.Test.YtbkobngljnnmgaaGreatDoorWah
import Derived.Test.YtbkobngljnnmgaaGreatDoorWal
import Derived.Test.YtbkobngljnnmgaaGreatDoorWap
import Derived.Test.YtbkobngljnnmgaaGreatDoorWas
import Derived.Test.YtbkobngljnnmgaaGreatDoorWau
import Derived.Test.YtbkobngljnnmgaaGreatDoorWaw
set_option linter.unusedSimpArgs false
set_option linter.unusedVariables false
open List renaming getElem?_eq_some_iff->acf,length_map->acg,mem_of_getElem?->ach,take_of_length_le->acj,getElem?_set_self->ack,getElem?_append_left->acm,map_append->acn,getElem?_set_ne->acp,getElem?_map->acq,find?_eq_none->acr,all_eq_true->acu,mem_cons_self->acx,any_eq_false->acy,getElem?_take_of_lt->acz,any_eq_true->acA,mem_iff_getElem?->acF,mem_of_mem_take->acG,map_take->acH,ext_getElem?->acK,mem_map->acM,mem_cons->acQ
open Nat renaming zero_le->aci,zero_add->aco,le_refl->acs,pow_lt_pow_right->acv,eq_of_testBit_eq->acw,testBit_succ->acB,le_trans->acC,testBit_and->acE,lt_of_le_of_lt->acI,lt_of_lt_of_le->acJ,or_lt_two_pow->acL,mul_le_mul->acO,mod_lt->acU
open Option renaming map_some->acD
open Bool renaming eq_iff_iff->acN,and_assoc->acP
open List.Pairwise renaming imp_of_mem->acR,sublist->acT,imp->acW
open List.Perm renaming eq_of_pairwise->acS
open Classical renaming not_not->acV
section
namespace Go.Proofs.Tryz
open Go Go.Av Go.Sort
set_option maxRecDepth 100000
set_option maxHeartbeats 2000000
theorem qN {x m k:Nat}{K M:Int}(hx:x<4294967296)(hm:m<4294967296)(e1:(x:Int) / K=((x >>> k:Nat):Int))(e2: ∀y:Nat,(y:Int)*K % 4294967296=((y <<< k % 4294967296:Nat):Int))(hM:M=(m:Int)):
  bits .or .u32 (bits .and .u32 ((x:Int) / K) M) (bits .and .u32 (x:Int) M*K % 4294967296)=((bX m k x:Nat):Int):=by
 subst hM;have l1:x >>> k<4294967296:=by rw[Nat.shiftRight_eq_div_pow];exact acI (Nat.div_le_self _ _) hx
 rw[e1,ia _ _ l1 hm,ia _ _ hx hm,e2,jN _ _ (acI Nat.and_le_right hm) (acU _ (by decide))];rfl
theorem Vz {x:Nat}(hx:x<4294967296):bits .or .u32 ((x:Int) / 65536) ((x:Int)*65536 % 4294967296)=(((x >>> 16) ||| ((x <<< 16) % 4294967296):Nat):Int):=by
 have e1:(x:Int) / (65536:Int)=((x >>> 16:Nat):Int):=by omega
 have l1:x >>> 16<4294967296:=by omega
 have e2:(x:Int)*(65536:Int) % (4294967296:Int)=((x <<< 16 % 4294967296:Nat):Int):=by omega
 rw[e1,e2,jN _ _ l1 (acU _ (by decide))]
theorem Ym (x:Nat)(hx:x<4294967296)(w:World):Calls prog 333 #[.int .u32 x] w λe w'=>e= .returned (.int .u32 (((bX 16711935 8 x >>> 16) ||| ((bX 16711935 8 x <<< 16) % 4294967296):Nat):Int))/\w'=w:=by
 have h1:=qN (m:=16711935) (k:=8) (K:=256) (M:=16711935) hx (by decide) (by omega) (λy=>by omega) rfl;have h2:=Vz (x:=bX 16711935 8 x) (mh (by decide));rw[<-h2,<-h1];clear h1 h2
 go_enter func333,ntmps333
 go_wp2
 go_ret
 simp_all
theorem abe (x:Nat)(hx:x<4294967296)(w:World):Calls prog 299 #[.int .u32 x] w λe w'=>e= .returned (.int .u32 (jG x:Nat))/\w'=w:=by
 have h1:=qN (m:=1431655765) (k:=1) (K:=2) (M:=1431655765) hx (by decide) (by omega) (λy=>by omega) rfl;have l1:bX 1431655765 1 x<4294967296:=mh (by decide);have h2:=qN (m:=858993459) (k:=2) (K:=4) (M:=858993459) l1 (by decide) (by omega) (λy=>by omega) rfl;have l2:bX 858993459 2 (bX 1431655765 1 x)<4294967296:=mh (by decide);have h3:=qN (m:=252645135) (k:=4) (K:=16) (M:=252645135) l2 (by decide) (by omega) (λy=>by omega) rfl;have l3:bX 252645135 4 (bX 858993459 2 (bX 1431655765 1 x))<4294967296:=mh (by decide);have q:=Ym _ l3;rw[<-h3,<-h2,<-h1]at q;have hr:jG x=(bX 16711935 8 (bX 252645135 4 (bX 858993459 2 (bX 1431655765 1 x))) >>> 16) ||| ((bX 16711935 8 (bX 252645135 4 (bX 858993459 2 (bX 1431655765 1 x))) <<< 16) % 4294967296):=rfl
 rw[hr];generalize ((bX 16711935 8 (bX 252645135 4 (bX 858993459 2 (bX 1431655765 1 x))) >>> 16) ||| ((bX 16711935 8 (bX 252645135 4 (bX 858993459 2 (bX 1431655765 1 x))) <<< 16) % 4294967296):Nat)=r at *;clear h1 h2 h3 hr l1 l2 l3
 go_enter func299,ntmps299
 go_wp2_with (go_at_call 333;refine(q _).mono ?_;rintro e w' ⟨rfl,rfl⟩)
 go_ret
 simp_all
theorem Gz (x:Nat)(hx:x<4294967296)(w:World):Calls prog 258 #[.int .u32 x] w λe w'=>e= .returned (.int .u32 (jG x:Nat))/\w'=w:=by
 have q:=abe x hx;generalize jG x=r at *
 go_enter func258,ntmps258
 go_wp2_with (go_at_call 299;refine(q _).mono ?_;rintro e w' ⟨rfl,rfl⟩)
 go_ret
 simp_all
theorem Yu (c d:List Int)(hc:c.length=5)(hd:d.length=5)(B C o:Nat)(w:World)(h1: ∀j x,c[j]?=some x->w.cell? ⟨B,1+j,none⟩=some (.int .i64 x))(h2: ∀j x,d[j]?=some x->w.cell? ⟨C,1+j,none⟩=some (.int .i64 x)):Calls prog 256 #[.slice (some ⟨B,1,none⟩) 5 5,.slice (some ⟨C,1,none⟩) 5 5] w λe w'=>e= .returned (.int .i64 (orL (List.zipWith sgn c d)))/\w'=w:=by
 obtain⟨c0,c1,c2,c3,c4,rfl⟩: ∃a b c' d e,c=[a,b,c',d,e]:=by
  match c,hc with
  |[a,b,c',d,e],_=>simp_all
 obtain⟨d0,d1,d2,d3,d4,rfl⟩: ∃a b c' d' e,d=[a,b,c',d',e]:=by
  match d,hd with
  |[a,b,c',d',e],_=>simp_all
 have a0:=h1 0 _ rfl;have a1:=h1 1 _ rfl;have a2:=h1 2 _ rfl;have a3:=h1 3 _ rfl;have a4:=h1 4 _ rfl;have b0:=h2 0 _ rfl;have b1:=h2 1 _ rfl;have b2:=h2 2 _ rfl;have b3:=h2 3 _ rfl;have b4:=h2 4 _ rfl;clear h1 h2 hc hd;simp only[Nat.reduceAdd]at a0 a1 a2 a3 a4 b0 b1 b2 b3 b4;have q:=λx y W=>YE x y W
 simp only[List.zipWith_cons_cons,List.zipWith_nil_left];generalize hs0:sgn c0 d0=s0 at *;generalize hs1:sgn c1 d1=s1 at *;generalize hs2:sgn c2 d2=s2 at *;generalize hs3:sgn c3 d3=s3 at *;generalize hs4:sgn c4 d4=s4 at *;have g0:s0≠0->orL [s0,s1,s2,s3,s4]=s0:=λh=>by simp[orL,h]
 have g1:s0=0->s1≠0->orL [s0,s1,s2,s3,s4]=s1:=λh h'=>by grind [orL]
 have g2:s0=0->s1=0->s2≠0->orL [s0,s1,s2,s3,s4]=s2:=λh h' h''=>by grind [orL]
 have g3:s0=0->s1=0->s2=0->s3≠0->orL [s0,s1,s2,s3,s4]=s3:=λh h' h'' h3=>by grind [orL]
 have g4:s0=0->s1=0->s2=0->s3=0->orL [s0,s1,s2,s3,s4]=s4:=λh h' h'' h3=>by grind [orL]
 generalize orL [s0,s1,s2,s3,s4]=r at *
 go_enter func256,ntmps256
 go_wp2
 refine wp_loop_rounds 6 ?_;rw[rounds_succ]
 go_wp2_with (go_at_call 297;refine(q _ _ _).mono ?_;rintro e w' ⟨rfl,rfl⟩)
 all_goals (try (rw[rounds_succ];go_wp2_with (go_at_call 297;refine(q _ _ _).mono ?_;rintro e w' ⟨rfl,rfl⟩)))
 all_goals (try (rw[rounds_succ];go_wp2_with (go_at_call 297;refine(q _ _ _).mono ?_;rintro e w' ⟨rfl,rfl⟩)))
 all_goals (try (rw[rounds_succ];go_wp2_with (go_at_call 297;refine(q _ _ _).mono ?_;rintro e w' ⟨rfl,rfl⟩)))
 all_goals (try (rw[rounds_succ];go_wp2_with (go_at_call 297;refine(q _ _ _).mono ?_;rintro e w' ⟨rfl,rfl⟩)))
 all_goals (try (rw[rounds_succ];go_wp2_with (go_at_call 297;refine(q _ _ _).mono ?_;rintro e w' ⟨rfl,rfl⟩)))
 all_goals (try go_ret)
 all_goals refine⟨?_,rfl⟩
 all_goals simp_all
set_option maxHeartbeats 4000000
theorem P5 (s t:Nat)(hs:s<4294967296)(ht:t<4294967296)(c0 c1 c2 c3 c4 d0 d1 d2 d3 d4:Int)(w:World):
  Calls prog 213 #[.agg #[.int .u32 s,.int .i64 c0,.int .i64 c1,.int .i64 c2,.int .i64 c3,.int .i64 c4],.agg #[.int .u32 t,.int .i64 d0,.int .i64 d1,.int .i64 d2,.int .i64 d3,.int .i64 d4]] w λe w'=>
   e= .returned (.int .i64 (orL [orL (List.zipWith sgn [c0,c1,c2,c3,c4] [d0,d1,d2,d3,d4]),sgn (jG t) (jG s)]))/\ ∃q os,w'=grow (w.drewN q) os:=by
 have k1: ∀(W:World) (u v:Value),(W.alloc (.cells #[u,v] 3)).cell? ⟨W.heap.size,0,none⟩=some u:=λW u v=>by simp_all
 have k2: ∀(W:World) (u v:Value),(W.alloc (.cells #[u,v] 3)).cell? ⟨W.heap.size,1,none⟩=some v:=λW u v=>by simp_all
 have r1:=Gz s hs;have r2:=Gz t ht;generalize jG s=rs at *;generalize jG t=rt at *;have q:=λx y W=>YG x y W
 generalize hz:sgn (rt:Int) rs=z at *;obtain⟨W1,hW1⟩: ∃W1,W1=(w.alloc (.cells #[.int .u32 s,.int .i64 c0,.int .i64 c1,.int .i64 c2,.int .i64 c3,.int .i64 c4] 218)).alloc (.cells #[.int .u32 t,.int .i64 d0,.int .i64 d1,.int .i64 d2,.int .i64 d3,.int .i64 d4] 218):=⟨_,rfl⟩;have hh0:W1.heap[w.heap.size]?=some (.cells #[.int .u32 s,.int .i64 c0,.int .i64 c1,.int .i64 c2,.int .i64 c3,.int .i64 c4] 218):=by
  grind [RowKit.Below.heap_alloc,World.alloc_heap_new]
 have hh1:W1.heap[w.heap.size+1]?=some (.cells #[.int .u32 t,.int .i64 d0,.int .i64 d1,.int .i64 d2,.int .i64 d3,.int .i64 d4] 218):=by
  grind [World.alloc]
 have hcell: ∀(b j:Nat) (a:Array Value) (x:Value),W1.heap[b]?=some (.cells a 218)->a[j]?=some x->W1.drew.cell? ⟨b,j,none⟩=some x:=λb j a x h1 h2=>by
  show(match W1.heap[b]? with|some (.cells c _ _)=>_|_=>_)=_;simp_all
 have g1:Calls prog 256 #[.slice (some ⟨w.heap.size,1,none⟩) 5 5,.slice (some ⟨w.heap.size+1,1,none⟩) 5 5] W1.drew λe w'=>e= .returned (.int .i64 (orL (List.zipWith sgn [c0,c1,c2,c3,c4] [d0,d1,d2,d3,d4])))/\w'=W1.drew:=Yu [c0,c1,c2,c3,c4] [d0,d1,d2,d3,d4] rfl rfl _ _ 0 _ (λj x hj=>hcell _ _ _ _ hh0 (by
  grind)) (λj x hj=>hcell _ _ _ _ hh1 (by
  grind))
 have e1:W1.drew.cell? ⟨w.heap.size,0,none⟩=some (.int .u32 s):=hcell _ _ _ _ hh0 rfl;have e2:W1.drew.cell? ⟨w.heap.size+1,0,none⟩=some (.int .u32 t):=hcell _ _ _ _ hh1 rfl;have hfin: ∀o:Obj,∃q os,(W1.alloc o).drew=grow (w.drewN q) os:=λo=>⟨1,_,by rw[hW1,alloc_eq_grow,alloc_eq_grow,alloc_eq_grow,grow_grow,grow_grow];rfl⟩
 have kk1: ∀u v:Value,(W1.alloc (.cells #[u,v] 3)).drew.cell? ⟨W1.heap.size,0,none⟩=some u:=λu v=>k1 W1 u v
 have kk2: ∀u v:Value,(W1.alloc (.cells #[u,v] 3)).drew.cell? ⟨W1.heap.size,1,none⟩=some v:=λu v=>k2 W1 u v
 clear k1 k2;clear hh0 hh1 hcell;generalize orL (List.zipWith sgn [c0,c1,c2,c3,c4] [d0,d1,d2,d3,d4])=y at *
 go_enter func213,ntmps213
 go_wp2
 rw[<-hW1];clear hW1
 go_region_with (first|(go_at_call 256;refine g1.mono ?_;rintro e w' ⟨rfl,rfl⟩)|(go_at_call 258;refine(r1 _).mono ?_;rintro e w' ⟨rfl,rfl⟩)|(go_at_call 258;refine(r2 _).mono ?_;rintro e w' ⟨rfl,rfl⟩)|(go_at_call 257;refine(q _ _ _).mono ?_;rintro e w' ⟨rfl,rfl⟩)|(go_at_call 139;refine(Z7 _ _ _ _ (kk1 _ _) (kk2 _ _)).mono ?_;rintro e w' ⟨rfl,rfl⟩))
 all_goals (try go_wp2)
 all_goals (try go_ret)
 all_goals exact⟨rfl,hfin _⟩
end Go.Proofs.Tryz
end
section
namespace Go.Proofs.Tryz
open Go Go.Av
set_option maxRecDepth 10000
variable {W0 :World}
theorem pU (l:List Clause)(hl:l.length<=1048576)(hc: ∀c∈l,c.length<=1048576):ai prog W0 206 [aB l] (aB l):=by
 refine an [2] [] func206 rfl rfl ntmps206 rfl rfl (eh _) λhs σ=>?_
 simp only[go_sem,simprocAttr,aB,acg];refine ae.at [6,7] (λA=>∃ v,A.env 3=v/\aH σ A.st v 77 (l.map aF)) ?_ λB ⟨v,h3,hb⟩=>?_
 .refine ae.upto [6,7] l.length (λi A=>∃ v,A.env 3=v/\A.env 8= .int .i64 i/\aH σ A.st v 77 ((l.take i).map aF)) 0 (aci _) ?_ λi B hi ⟨v,h3,h8,hb⟩=>?_
  .simp only[go_sem,simprocAttr];simp[aH.nil,Ext.refl]
  simp only[go_sem,simprocAttr,h3,h8,acg];refine⟨λhlt=>⟨hlt,?_⟩,λhlt=>?_⟩
  .obtain⟨c,ha⟩:=get_some hlt;simp only[aw ha];simp only[go_sem,simprocAttr,aF];refine aj.fn (v7 c (hc c (ach ha))) ?_;simp only[go_sem,simprocAttr,hb.ok,hb.un,aF];refine bq.own 1048576 (by kernel_rfl) hb.bld (.lit _ _ _) (by grind) λv' σ' ha'=>?_
   have hb':=hb.app ha';simp only[go_sem,simprocAttr,h8];refine⟨hlt,_,rfl,ag hlt (by grind [au]),?_⟩;rw[ah ha,acn];exact hb'
  grind
 simp only[go_sem,simprocAttr,h3];exact⟨hb.bS,hb.ext⟩
theorem IG {g:FuncId}{caps:List AV}:ai prog W0 143 [.aq,.fn g caps] (.tup []):=by
 have h1:ai prog W0 250 [.aq,.int .i64 0,.int .i64 0,.fn g caps] (.tup []):=by
  refine an [] [] func250 rfl rfl ntmps250 rfl rfl (.tup λx hx=>by cases hx) λhs σ=>?_
  simp only[go_sem,simprocAttr];refine ae.cB [0,1,2,3] (λk E=>E.env 8= .int .i64 1/\E.st=σ) 0 ?_ λk E ⟨h8,hst⟩=>?_
  .simp only[go_sem,simprocAttr]
  simp only[go_sem,simprocAttr,h8,hst]
  try exact .refl _
 have h2:ai prog W0 207 [.aq,.int .i64 0,.fn g caps] (.tup []):=by
  refine an [] [] func207 rfl rfl ntmps207 rfl rfl (.tup λx hx=>by cases hx) λhs σ=>?_
  simp only[go_sem,simprocAttr];refine ae.at [0,1,2,6] (λE=>E.env 7= .int .i64 0/\E.st=σ) ?_ λE ⟨h7,hst⟩=>?_
  .refine ae.cB [0,1,2,6] (λk E=>E.env 7= .int .i64 0/\E.env 8= .int .i64 20/\E.st=σ) 0 ?_ λk E ⟨h7,h8,hst⟩=>?_
   .simp only[go_sem,simprocAttr]
   simp only[go_sem,simprocAttr,h7,h8,hst]
  simp only[go_sem,simprocAttr,h7];refine aj.fn h1 ?_;simp only[go_sem,simprocAttr];refine ae.cB [0,1,2] (λk E=>E.env 6= .int .i64 20/\E.st=σ) 0 ?_ λk E ⟨h6,hst⟩=>?_
  .simp only[go_sem,simprocAttr,hst]
  simp only[go_sem,simprocAttr,h6,hst]
  try exact .refl _
 refine an [] [] func143 rfl rfl ntmps143 rfl rfl (.tup λx hx=>by cases hx) λhs σ=>?_
 simp only[go_sem,simprocAttr];refine aj.fn h2 ?_;simp only[go_sem,simprocAttr]
 try exact .refl _
theorem X2 (x y:aA):ai prog W0 144 [bf x,bf y] (.int .i64 (jI x.pkg.name y.pkg.name)):=by
 refine an [4] [2,3] func144 rfl rfl ntmps144 rfl rfl (.int _ _) λhs σ=>?_
 simp only[go_sem,simprocAttr,bf,ay];refine aj.fn (Bj x.pkg.name y.pkg.name) ?_;simp only[go_sem,simprocAttr]
 try exact .refl _
theorem XI (x:aA)(hp:aS x.pkg=0):ai prog W0 142 [bf x] (bf x):=by
 have hg:=dz hp;refine mg [.cell 2 53] [] func142 rfl rfl ntmps142 rfl rfl (C9 _) λhs σ=>?_
 simp only[go_sem,simprocAttr,bf,ay];have g1:=kY hg.pre;have g2:=kY hg.dep;have g3:=kY hg.rcm;refine⟨.of (by kernel_rfl),aD.fn (pU x.pkg.pre g1.1 g1.2) ?_⟩;simp only[go_sem,simprocAttr];refine aD.fn (pU x.pkg.dep g2.1 g2.2) ?_;simp only[go_sem,simprocAttr];refine aD.fn (pU x.pkg.rcm g3.1 g3.2) ?_;simp only[go_sem,simprocAttr];refine⟨.of (by kernel_rfl),aD.fn (pq x.pkg.con (by grind [ux.con])) ?_⟩;simp only[go_sem,simprocAttr];refine aD.fn (pq x.pkg.brk (by grind [ux.brk])) ?_;simp only[go_sem,simprocAttr];refine aD.fn (Aa x.pkg.eI (by grind [ux.eI])) ?_;simp only[go_sem,simprocAttr]
def tH (l:List aA):Prop:=∀ (i:Nat) (x y:aA),l[i]?=some x->l[i+1]?=some y-> ¬jI y.pkg.name x.pkg.name<0
def j7 (l:List aA):Option bH:=some (.cells 53 (l.map bf))
theorem Cu (σ:ab)(id n:Nat)(l:List aA)(hn:n=l.length)(hx:n<=1048576)(hr:tH l)(hid:σ[id]?=some (j7 l)):
  aP prog W0 250 [.row 53 id 0 n,.int .i64 0,.int .i64 n,.fn 144 []] σ λr σ'=>σ'=σ:=by
 refine bY [] [] func250 rfl rfl ntmps250 rfl rfl λhs=>?_
 simp only[go_sem,simprocAttr];refine ae.cB [0,1,2,3] (λk B=>∃ i:Nat,B.env 8= .int .i64 i/\k=n-i/\1<=i/\B.st=σ) (n-1) ?_ λk B ⟨i,h8,hk,hi,hst⟩=>?_
 .simp only[go_sem,simprocAttr];grind
 unfold j7 at hid;simp only[go_sem,simprocAttr,h8];refine⟨λhin=>?_,λhin=>bu.normal ?_⟩
 .refine ae.ats [0,1,2,3,8] (λB=>B.st=σ) ?_ λB hst=>?_
  .refine ae.cB [0,1,2,3,8] (λk B=>B.env 9= .int .i64 i/\B.st=σ) 0 ?_ λk B ⟨h9,hst⟩=>?_
   .simp only[go_sem,simprocAttr];exact hst
   obtain⟨x,hx1⟩:=get_some (show i-1<l.length by omega);obtain⟨y,hy⟩:=get_some (show i<l.length by omega);have hw1:IntKind.i64.wrap ((i:Int)-1)=(i:Int)-1:=aJ (by omega);have hnn:((i:Int)-1).toNat=i-1:=by omega
   have hd:decide (0<i)=true:=decide_eq_true (by omega);simp only[go_sem,simprocAttr,h9,hst,ak hid,aO hid,hw1,hnn,aco,acq,hx1,hy,acD];refine⟨.of (by kernel_rfl),λ_=>by omega,λ_=>by omega,aD.go (λ_=>X2 y x) ?_⟩;have hno:=hr (i-1) x y hx1 (by simp_all);simp only[go_sem,simprocAttr,h9,hst];grind
  simp only[go_sem,simprocAttr,h8];exact .here (n-(i+1)) (by omega) ⟨i+1,ag hin (by grind [au]),rfl,by omega,by simp only[go_sem,simprocAttr,hst]⟩
 .simp only[go_sem,simprocAttr,hst];exact⟨_,.refl _⟩
theorem NO (σ:ab)(id n:Nat)(l:List aA)(hn:n=l.length)(hx:n<20)(hr:tH l)(hid:σ[id]?=some (j7 l)):
  aP prog W0 207 [.row 53 id 0 n,.int .i64 n,.fn 144 []] σ λr σ'=>σ'=σ:=by
 refine bY [] [] func207 rfl rfl ntmps207 rfl rfl λhs=>?_
 simp only[go_sem,simprocAttr];refine ae.at [0,1,2,6] (λE=>E.env 7= .int .i64 0/\E.st=σ) ?_ λE ⟨h7,hst⟩=>?_
 .refine ae.cB [0,1,2,6] (λk E=>E.env 7= .int .i64 0/\E.env 8= .int .i64 20/\E.st=σ) 0 ?_ λk E ⟨h7,h8,hst⟩=>?_
  .simp only[go_sem,simprocAttr]
  simp only[go_sem,simprocAttr,h7,h8,hst];omega
 simp only[go_sem,simprocAttr,h7];refine aj.goes (by simp only[go_sem,simprocAttr];exact hst) (Cu σ id n l hn (by omega) hr hid) λr σ1 hσ=>?_
 simp only[go_sem,simprocAttr];refine ae.cB [0,1,2] (λk E=>E.env 6= .int .i64 20/\E.st=σ) 0 ?_ λk E ⟨h6,hst⟩=>?_
 .simp only[go_sem,simprocAttr];exact hσ
 simp only[go_sem,simprocAttr,h6];refine⟨λh=>by omega,λ_=>bu.normal ?_⟩;simp only[go_sem,simprocAttr,hst];exact⟨_,.refl _⟩
theorem yH (σ:ab)(id n:Nat)(l:List aA)(hn:n=l.length)(hx:n<20)(hr:tH l)(hid:σ[id]?=some (j7 l)):
  aP prog W0 143 [.row 53 id 0 n,.fn 144 []] σ λr σ'=>σ'=σ:=by
 refine bY [] [] func143 rfl rfl ntmps143 rfl rfl λhs=>?_
 simp only[go_sem,simprocAttr];refine aj.goes (by simp only[go_sem,simprocAttr]) (NO σ id n l hn hx hr hid) λr σ1 hσ=>?_
 simp only[go_sem,simprocAttr];refine bu.normal ?_;simp only[go_sem,simprocAttr];exact⟨_,.refl _,by simp_all,hσ⟩
theorem s7 (l:List aA)(hm: ∀x∈l,aS x.pkg=0)(hl:l.length<20)(hr:tH l):ai prog W0 79 [aK l] (aK l):=by
 refine jA [2] [5] func79 rfl rfl ntmps79 rfl rfl (qP _) λhs σ=>?_
 simp only[go_sem,simprocAttr,aK,acg];refine ae.at [6,7] (λA=>∃ v,A.env 3=v/\dI σ A.st v 53 (l.map bf)/\((v= .aq/\l=[])\/ ∃id,v= .row 53 id 0 l.length/\A.st[id]?=some (j7 l))) ?_ λB ⟨v,h3,hb,hv⟩=>?_
 .refine ae.upto [6,7] l.length (λi A=>∃ v,A.env 3=v/\A.env 8= .int .i64 i/\dI σ A.st v 53 ((l.take i).map bf)/\((v= .aq/\l.take i=[])\/ ∃id,v= .row 53 id 0 i/\A.st[id]?=some (j7 (l.take i)))) 0 (aci _) ?_ λi B hi ⟨v,h3,h8,hb,hv⟩=>?_
  .simp only[go_sem,simprocAttr];simp[dI.nil,Ext.refl]
  have hok:=hb.nI.ok;have hun:=hb.nI.un;simp only[go_sem,simprocAttr,h3,h8,acg];refine⟨λhc=>⟨hc,?_⟩,λhc=>?_⟩
  .obtain⟨x,hx⟩:=get_some hc;have hb':=hb.more [none];simp only[aw hx];have hfe:bb prog 53 (bf x)=true:=by kernel_rfl
   simp only[go_sem,simprocAttr,hfe];refine aj.fn (XI x (hm x (ach hx))) ?_;simp only[go_sem,simprocAttr,hok,hun,hfe];have hil:(l.take i).length=i:=by simp_all
   refine bq.row 1048576 (by kernel_rfl) hb'.row.st (.lit _ _ _) (by grind) (λh=>by cases h) λ_=>?_
   simp only[go_sem,simprocAttr,h8];have hkl:(cn v (B.st++[none])).length=B.st.length+1:=by grind [cn]
   have hke:Ext σ (cn v (B.st++[none])):=by
    grind [cn,Ext.set,dI.ext,dI.low,aN]
   have hat:(cn v (B.st++[none])++[some (bH.cells 53 (List.map bf (l.take i)++[bf x]))])[B.st.length+1]?=some (j7 (l.take (i+1))):=by
    simp_all[ah,j7]
   have hlen:(List.map bf (l.take i)).length+1=i+1:=by simp_all
   have hs1:(l.take (i+1)).length=i+1:=by grind
   refine⟨hc,_,rfl,ag hc (by grind [au]),⟨.inr ⟨B.st.length+1,0,_,_,rfl,hat,by simp_all,?_⟩,hke.app _,λj hj=>?_⟩,.inr ⟨_,by rw[hlen],hat⟩⟩
   .grind
   .have h1:j=B.st.length+1:=by grind [aN]
    have:=hb.ext.le;omega
  grind
 rcases hv with⟨rfl,rfl⟩|⟨id,rfl,hid⟩
 .simp only[go_sem,simprocAttr,h3];refine aj.fn IG ?_;simp only[go_sem,simprocAttr,h3];refine bu.ret ?_;simp only[go_sem,simprocAttr];exact⟨.aq _,hb.ext⟩
 .simp only[go_sem,simprocAttr,h3];refine aj.goes (by simp only[go_sem,simprocAttr]) (yH B.st id l.length l rfl hl hr hid) λr σ1 hσ=>?_
  simp only[go_sem,simprocAttr,h3];have hlo:=hb.low id (by simp[aN]);have hid1:σ1[id]?=some (some (.cells 53 (l.map bf))):=by rw[hσ];exact hid
  have hx1:Ext σ σ1:=by grind [dI.ext]
  refine bu.frz (e:=53) (te:=53) (id:=id) (off:=0) (m:=l.length) (xs:=l.map bf) 2 (by simp only[go_sem,simprocAttr]) (by simp only[go_sem,simprocAttr];exact hid1) (by simp) (bu.ret ?_);simp only[go_sem,simprocAttr];rw[acj (by simp)];exact⟨.refl _,hx1.set hlo _⟩
end Go.Proofs.Tryz
end
section
namespace Go.Av
def jj {α:Type}(f:α->α->Bool)(l:List α):Bool:=(l.foldl (λ(s:Bool×List α) a=>(s.1||s.2.any (f a),s.2++[a])) (false,[])).1
theorem He {α:Type}(f:α->α->Bool)(l:List α):(l.foldl (λ(s:Bool×List α) a=>(s.1||s.2.any (f a),s.2++[a])) (false,[])).2=l:=by
 have key: ∀(l p:List α) (b:Bool),(l.foldl (λ(s:Bool×List α) a=>(s.1||s.2.any (f a),s.2++[a])) (b,p)).2=p++l:=by
  intro l
  induction l with
  |nil=>simp
  |cons a r ih=>grind
 simp_all
theorem tO {α:Type}(f:α->α->Bool)(l:List α)(a:α):jj f (l++[a])=(jj f l||l.any (f a)):=by
 simp[jj,He]
theorem oK {α:Type}{f:α->α->Bool}{l:List α}{i:Nat}{a:α}(h:l[i]?=some a):jj f (l.take (i+1))=(jj f (l.take i)||(l.take i).any (f a)):=by
 rw[ah h,tO]
theorem Dv {α:Type}{f:α->α->Bool}{l:List α}{i:Nat}(h:jj f (l.take i)=true):jj f l=true:=by
 have key: ∀k,jj f (l.take (i+k))=true:=λk=>by
  induction k with
  |zero=>exact h
  |succ k ih=>
   by_cases hl:i+k<l.length
   .obtain⟨a,ha⟩:=get_some hl;grind [oK]
   grind [acj]
 have:=key l.length;grind [acj]
theorem Uo {α:Type}{p:List α->Prop}(h0:p [])(hs: ∀xs x,p xs->p (xs++[x]))(xs:List α):p xs:=by
 have h: ∀ys:List α,p ys.reverse:=λys=>by
  induction ys with
  |nil=>exact h0
  |cons y r ih=>simp_all
 have:=h xs.reverse;simp_all
def HH (k:Int):Bool:=k==1||k==2||k==5||k==6
def jy (a:aM):Bool:=(decide (1<=a.kind)&&decide (a.kind<=7))&&(if HH a.kind=true then eN a.name else a.name==[])&&(a.ver==[]||(a.kind==1&&bK a.ver))
def sD (a:aM):Bool:=a.kind==3||a.kind==4||a.kind==7
def DB (a b:aM):Bool:=(a.name !=[]&&a.name==b.name)||(sD a&&sD b)
def dH (l:List aM):Int:=if l.length=0\/6<l.length then 12 else if (l.any λa=>!jy a)=true then 3 else if jj DB l=true then 4 else 0
end Go.Av
end
section
namespace Go.Proofs.Tryz
open Go Go.Av
set_option maxRecDepth 10000
variable {W0 :World}
theorem En (a:aM):ai prog W0 69 [ck a] (.bool (sD a)):=by
 refine an [2] [] func69 rfl rfl ntmps69 rfl rfl (.bool _) λhs σ=>?_
 simp only[go_sem,simprocAttr,ck,sD]
 try exact .refl _
theorem yt (s:List UInt8):ai prog W0 119 [.str s] (.bool (bK s)):=by
 refine an [2] [] func119 rfl rfl ntmps119 rfl rfl (.bool _) λhs σ=>?_
 simp only[go_sem,simprocAttr];refine aj.fn (kQ s) ?_;cases h:fL s with
 |none=>
  simp only[go_sem,simprocAttr,gv,bK,h]
  try exact .refl _
 |some v=>
  simp only[go_sem,simprocAttr,gv,bK,h]
  try exact .refl _
def A9 (k:Int):List UInt8×Bool×Bool:=
 if k=1 then([105,110,115,116,97,108,108],true,true)else if k=2 then([114,101,109,111,118,101],true,false)else if k=3 then([117,112,103,114,97,100,101],false,false)
 else if k=4 then([100,105,115,116,45,117,112,103,114,97,100,101],false,false)else if k=5 then([104,111,108,100],true,false)else if k=6 then([117,110,104,111,108,100],true,false)
 else if k=7 then([102,105,120,45,98,114,111,107,101,110],false,false)else([],false,false)
def QB (h:List UInt8×Bool×Bool):AV:=.agg 182 [.str h.1,.bool h.2.1,.bool h.2.2]
theorem ZP (k:Int):ai prog W0 117 [.int .i64 k] (QB (A9 k)):=by
 refine mg [.cell 2 182] [] func117 rfl rfl ntmps117 rfl rfl (by unfold QB;exact .agg λx hx=>by simp at hx;rcases hx with rfl|rfl|rfl<;>constructor) λhs σ=>?_
 simp only[go_sem,simprocAttr];refine⟨λh=>?_,λh1=>⟨λh=>?_,λh2=>⟨λh=>?_,λh3=>⟨λh=>?_,λh4=>⟨λh=>?_,λh5=>⟨λh=>?_,λh6=>⟨λh=>?_,λh7=>?_⟩⟩⟩⟩⟩⟩⟩
 all_goals first|(subst h;exact .refl _)|(rw[show A9 k=([],false,false) by grind [A9]];exact .refl _)
theorem SH (a:aM):jy a=(!((A9 a.kind).1==[])&& !((A9 a.kind).2.1&& !eN a.name)&& !(!(A9 a.kind).2.1&&a.name !=[])&&(a.ver==[]||((A9 a.kind).2.2&&bK a.ver))):=by
 obtain⟨k,n,v⟩:=a;unfold jy HH A9;grind
theorem LH (a:aM):ai prog W0 68 [ck a] (.bool (jy a)):=by
 rw[SH];refine an [2] [1,3] func68 rfl rfl ntmps68 rfl rfl (.bool _) λhs σ=>?_
 simp only[go_sem,simprocAttr,ck];refine aj.fn (ZP a.kind) ?_;generalize A9 a.kind=h;obtain⟨h1,h2,h3⟩:=h;simp only[go_sem,simprocAttr,QB];refine⟨λe=>ar (by simp[e]),λe=>?_⟩;refine aD.fnG (λ_=>Ci a.name) ?_;simp only[go_sem,simprocAttr];refine⟨λe2=>ar ?_,λe2=>?_⟩
 .grind
 refine aD.fnG (λ_=>yt a.ver) ?_;simp only[go_sem,simprocAttr];grind [ar]
theorem OJ (l:List aM):ai prog W0 34 [bC l] (.int .i64 (dH l)):=by
 refine an [2] [4,6,8] func34 rfl rfl ntmps34 rfl rfl (.int _ _) λhs σ=>?_
 have hl:=(aQ (hs _ (acx ..))).1;simp only[go_sem,simprocAttr,bC,acg];refine⟨λh=>?_,λh=>?_⟩
 .rw[dH,if_pos (by grind)];exact .refl _
 have h6: ¬(l.length=0\/6<l.length):=by grind
 refine ae.at [0] (λA=>Ext σ A.st/\ ∀a∈l,jy a=true) ?_ λB ⟨hst,hall⟩=>?_
 .refine ae.upto [0,17,18] l.length (λi A=>A.env 19= .int .i64 i/\Ext σ A.st/\NoB (λa:aM=>!jy a) l i) 0 (aci _) ?_ λi B hi ⟨h19,hst,hI⟩=>?_
  .simp only[go_sem,simprocAttr];simp[Ext.refl,NoB.zero]
  simp only[go_sem,simprocAttr,h19,acg];refine⟨λhc=>⟨hc,?_⟩,λhc=>⟨hst,λa ha=>by grind [NoB.all]⟩⟩;obtain⟨a,ha⟩:=get_some hc;simp only[aw ha];have hfa:bb prog 66 (ck a)=true:=by kernel_rfl
  simp only[go_sem,simprocAttr,hfa];refine aj.fn (LH a) ?_;simp only[go_sem,simprocAttr,h19];refine⟨λhq=>⟨?_,hst.app _⟩,λhq=>⟨hc,ag hc hl,hst.app _,hI.succ ha (by simp[hq])⟩⟩;rw[dH,if_neg h6,if_pos (acA.2 ⟨a,ach ha,by simp[hq]⟩)];exact .refl _
 have h3: ¬(l.any λa=>!jy a)=true:=by simp_all
 simp only[go_sem,simprocAttr,acg];refine ae.upto [0,27,28] l.length (λi A=>A.env 29= .int .i64 i/\Ext σ A.st/\jj DB (l.take i)=false) 0 (aci _) ?_ λi B hi ⟨h29,hst,hI⟩=>?_
 .simp only[go_sem,simprocAttr];exact⟨hst,rfl⟩
 simp only[go_sem,simprocAttr,h29,acg];refine⟨λhc=>⟨hc,?_⟩,λhc=>?_⟩
 .obtain⟨a,ha⟩:=get_some hc;simp only[aw ha];have hil:(l.take i).length=i:=by simp_all
  have hfa:bb prog 66 (ck a)=true:=by kernel_rfl
  simp only[go_sem,simprocAttr,hfa];rw[<-acH];refine⟨⟨aci _,hi⟩,?_⟩;refine ae.ats [0,27,28,29] (λA=>Ext σ A.st/\(l.take i).any (DB a)=false) ?_ λB2 ⟨hst,hno⟩=>?_
  .refine ae.upto [0,6,27,28,29,36,37] i (λj A=>A.env 38= .int .i64 j/\Ext σ A.st/\NoB (DB a) (l.take i) j) 0 (aci _) ?_ λj B2 hj ⟨h38,hst,hI2⟩=>?_
   .simp only[go_sem,simprocAttr];grind [Ext.app,NoB.zero]
   simp only[go_sem,simprocAttr,h38,hil,acg];refine⟨λhc2=>⟨hc2,?_⟩,λhc2=>⟨hst,acy.2 λb hb=>by grind [NoB.all]⟩⟩;obtain⟨b,hb⟩:=get_some (show j<(l.take i).length by omega);simp only[aw hb];have hwa:=En (W0:=W0) a;have hwb:=En (W0:=W0) b;unfold ck at hwa hwb;simp only[go_sem,simprocAttr,ck];refine aD.fnG (λ_=>hwa) ?_;simp only[go_sem,simprocAttr];refine aD.fnG (λ_=>hwb) ?_;simp only[go_sem,simprocAttr,h38];refine⟨λhq=>⟨?_,hst.app _⟩,λhq=>⟨hc2,ag hc2 (by omega),hst.app _,hI2.succ hb (by simp_all[DB])⟩⟩;have hd:jj DB l=true:=by
    refine Dv (i:=i+1) ?_;rw[oK ha,acA.2 ⟨b,ach hb,by grind [DB]⟩,Bool.or_true]
   rw[dH,if_neg h6,if_neg h3,if_pos hd];exact .refl _
  simp only[go_sem,simprocAttr,h29];grind [ag,oK]
 .rw[acj hc]at hI;rw[dH,if_neg h6,if_neg h3,hI];exact⟨.refl _,hst⟩
theorem Bu {a:aM}(h:jy a=true):sD a=(a.name==[]):=by
 grind [jy,HH,sD,eN]
def Dd (a:aM):Bool:=a.kind==1&&a.ver !=[]
def sq (a:aM):Bool:=a.kind==6||a.kind==2||Dd a
theorem Tq (a:aM):ai prog W0 165 [ck a] (.bool (Dd a)):=by
 refine an [2] [1] func165 rfl rfl ntmps165 rfl rfl (.bool _) λhs σ=>?_
 simp only[go_sem,simprocAttr,ck,Dd,bne]
 try exact .refl _
theorem QQ (a:aM):ai prog W0 95 [ck a] (.bool (sq a)):=by
 have h:=Tq (W0:=W0) a;unfold ck at h;refine an [2] [1] func95 rfl rfl ntmps95 rfl rfl (.bool _) λhs σ=>?_
 simp only[go_sem,simprocAttr,ck];refine aD.fnG (λ_=>h) ?_;simp only[go_sem,simprocAttr,sq]
 try exact .refl _
theorem Su (a:aM)(k:Int):ai prog W0 166 [ck a,.loc 3 (.int .i64 k)] (.bool (a.kind==k)):=by
 refine an [3] [2] func166 rfl rfl ntmps166 rfl rfl (.bool _) λhs σ=>?_
 simp only[go_sem,simprocAttr,ck]
 try exact .refl _
theorem Vd (k:Int):ai prog W0 96 [.int .i64 k] (.fn 166 [.loc 3 (.int .i64 k)]):=by
 refine an [2] [1] func96 rfl rfl ntmps96 rfl rfl (.fn λx hx=>by rw[List.mem_singleton]at hx;subst hx;exact .loc (.int _ _)) λhs σ=>?_
 simp only[go_sem,simprocAttr]
 try exact .refl _
theorem DV (l:List aM)(n:List UInt8)(q:aM->Bool)(g:FuncId)(caps:List AV)(hg: ∀a∈l,ai prog W0 g ([ck a]++caps) (.bool (q a))):ai prog W0 94 [bC l,.str n,.fn g caps] (.bool (l.any λa=>a.name==n&&q a)):=by
 refine an [6] [8] func94 rfl rfl ntmps94 rfl rfl (.bool _) λhs σ=>?_
 have hl:=(aQ (hs _ (acx ..))).1;simp only[go_sem,simprocAttr,bC,acg];refine ae.upto [1,2,9,10] l.length (λi A=>A.env 11= .int .i64 i/\Ext σ A.st/\NoB (λa:aM=>a.name==n&&q a) l i) 0 (aci _) ?_ λi B hi ⟨h11,hst,hI⟩=>?_
 .simp only[go_sem,simprocAttr];simp[Ext.refl,NoB.zero]
 simp only[go_sem,simprocAttr,h11,acg];refine⟨λhc=>⟨hc,?_⟩,λhc=>?_⟩
 .obtain⟨a,ha⟩:=get_some hc;simp only[aw ha];have hfa:bb prog 66 (ck a)=true:=by kernel_rfl
  have hga:=hg a (ach ha);simp only[List.cons_append,List.nil_append,ck]at hga;simp only[go_sem,simprocAttr,ck];refine aD.go (λ_=>hga) ?_;simp only[go_sem,simprocAttr,h11];refine⟨λhq=>⟨ar ?_,hst.app _⟩,λhq=>⟨hc,ag hc hl,hst.app _,hI.succ ha hq⟩⟩;grind
 .refine⟨ar ?_,hst⟩;grind [NoB.all]
theorem MX (σ:ab)(s:List aA)(hm: ∀x∈s,aS x.pkg=0)(hl:s.length<=1024):aP prog W0 93 [aK s] σ λr σ'=>Ext σ σ'/\((r= .aq/\s=[])\/ ∃id,r= .row 53 id 0 s.length/\σ'[id]?=some (j7 s)/\σ.length<=id):=by
 refine bY [2] [5] func93 rfl rfl ntmps93 rfl rfl λhs=>?_
 simp only[go_sem,simprocAttr,aK,acg];refine ae.at [6,7] (λA=>∃ v,A.env 3=v/\dI σ A.st v 53 (s.map bf)/\((v= .aq/\s=[])\/ ∃id,v= .row 53 id 0 s.length/\A.st[id]?=some (j7 s))) ?_ λB ⟨v,h3,hb,hv⟩=>?_
 .refine ae.upto [6,7] s.length (λi A=>∃ v,A.env 3=v/\A.env 8= .int .i64 i/\dI σ A.st v 53 ((s.take i).map bf)/\((v= .aq/\s.take i=[])\/ ∃id,v= .row 53 id 0 i/\A.st[id]?=some (j7 (s.take i)))) 0 (aci _) ?_ λi B hi ⟨v,h3,h8,hb,hv⟩=>?_
  .simp only[go_sem,simprocAttr];simp[dI.nil,Ext.refl]
  have hok:=hb.nI.ok;have hun:=hb.nI.un;simp only[go_sem,simprocAttr,h3,h8,acg];refine⟨λhc=>⟨hc,?_⟩,λhc=>?_⟩
  .obtain⟨x,hx⟩:=get_some hc;have hb':=hb.more [none];simp only[aw hx];have hfe:bb prog 53 (bf x)=true:=by kernel_rfl
   simp only[go_sem,simprocAttr,hfe];have hso:=s7 (W0:=W0) [x] (λy hy=>by grind) (by simp) (λi a b ha hb=>by simp at hb);unfold aK at hso;refine aj.fn (hso.bS (.cons (.lit _ _) .nil)) ?_;simp only[go_sem,simprocAttr,hok,hun];have hil:(s.take i).length=i:=by simp_all
   refine bq.row 1048576 (by kernel_rfl) hb'.row.st (.sl _ _ _) (by grind) (λh=>by cases h) λ_=>?_
   simp only[go_sem,simprocAttr,h8];have hkl:(cn v (B.st++[none])).length=B.st.length+1:=by grind [cn]
   have hke:Ext σ (cn v (B.st++[none])):=by
    grind [cn,Ext.set,dI.ext,dI.low,aN]
   have hat:(cn v (B.st++[none])++[some (bH.cells 53 (List.map bf (s.take i)++[bf x]))])[B.st.length+1]?=some (j7 (s.take (i+1))):=by
    grind [ah,j7]
   have hlen:(List.map bf (s.take i)).length+1=i+1:=by simp_all
   have hs1:(s.take (i+1)).length=i+1:=by grind
   refine⟨hc,_,rfl,ag hc (by grind [au]),⟨.inr ⟨B.st.length+1,0,_,_,rfl,hat,by simp_all,?_⟩,hke.app _,λj hj=>?_⟩,.inr ⟨_,by rw[hlen],hat⟩⟩
   .grind
   .have h1:j=B.st.length+1:=by grind [aN]
    have:=hb.ext.le;omega
  grind
 rcases hv with⟨rfl,rfl⟩|⟨id,rfl,hid⟩
 .simp only[go_sem,simprocAttr,h3];refine bu.ret ?_;simp only[go_sem,simprocAttr];exact⟨_,.refl _,hb.ext.le,hb.ext,.inl rfl⟩
 .simp only[go_sem,simprocAttr,h3];refine bu.ret ?_;simp only[go_sem,simprocAttr];exact⟨_,.refl _,hb.ext.le,hb.ext,.inr ⟨id,rfl,hid,hb.low id (by simp[aN])⟩⟩
def gG (l:List aM)(x:aA):aA:={ x with hold:=if (l.any λa=>a.name==x.pkg.name&&sq a)=true then false else if (l.any λa=>a.name==x.pkg.name&&a.kind==5)=true then true else x.hold }
theorem Kl (l:List aM)(s:List aA)(hm: ∀x∈s,aS x.pkg=0)(hl:s.length<=1024):ai prog W0 39 [bC l,aK s] (aK (s.map (gG l))):=by
 refine jA [4] [7] func39 rfl rfl ntmps39 rfl rfl (qP _) λhs σ=>?_
 simp only[go_sem,simprocAttr];refine aj.goes (by simp only[go_sem,simprocAttr]) (MX σ s hm hl) λr σ1 ⟨hx,hr⟩=>?_
 rcases hr with⟨rfl,rfl⟩|⟨id,rfl,hid,hlo⟩
 .simp only[go_sem,simprocAttr];refine ae.upto [0,5,11,12] 0 (λi A=>A.env 13= .int .i64 0/\Ext σ A.st) 0 (aci _) ?_ λi B hi ⟨h13,hst⟩=>?_
  .simp only[go_sem,simprocAttr];exact hx
  simp only[go_sem,simprocAttr,h13];refine bu.ret ?_;simp only[go_sem,simprocAttr,aK];exact⟨.aq _,hst⟩
 .have hs47:s.length<=maxLen:=by grind [au]
  have hid1l:=(acf.1 hid).1;simp only[go_sem,simprocAttr];refine ae.upto [0,5,11,12] s.length (λi A=>A.env 13= .int .i64 i/\Ext σ A.st/\ ∃l',l'.length=s.length/\A.st[id]?=some (j7 l')/\(∀k x,k<i->s[k]?=some x->l'[k]?=some (gG l x))/\ ∀k,i<=k->l'[k]?=s[k]?) 0 (aci _) ?_ λi B hi ⟨h13,hst,l',hll,hat,hI,hJ⟩=>?_
  .simp only[go_sem,simprocAttr];grind
  have hat0:=hat;have hidl:=(acf.1 hat).1;unfold j7 at hat;simp only[go_sem,simprocAttr,h13];refine⟨λhc=>?_,λhc=>?_⟩
  .obtain⟨x,hx1⟩:=get_some hc;have hlx:l'[i]?=some x:=by grind
   have hfe:bb prog 53 (bf x)=true:=by kernel_rfl
   have hat2:(B.st++[none])[id]?=some (some (.cells 53 (l'.map bf))):=by grind
   have hl2:id<(B.st++[none]).length:=by grind
   have hn1:=DV (W0:=W0) l x.pkg.name sq 95 [] (λa _=>by simp[QQ]);have hn2:=DV (W0:=W0) l x.pkg.name (λa=>a.kind==5) 166 [.loc 3 (.int .i64 5)] (λa _=>by simp[Su]);have hset: ∀b:Bool,(l'.map bf).set i ((bf x).setAt [2] (.bool b))=(l'.set i { x with hold:=b }).map bf:=λb=>by rw[List.map_set];rfl
   have hfin: ∀y:aA,y=gG l x->(l'.set i y).length=s.length/\(∀k z,k<i+1->s[k]?=some z->(l'.set i y)[k]?=some (gG l z))/\ ∀k,i+1<=k->(l'.set i y)[k]?=s[k]?:=λy hy=>by
    refine⟨by simp_all,λk z hk hz=>?_,λk hk=>?_⟩
    .rcases Nat.lt_succ_iff_lt_or_eq.1 hk with h|rfl
     .grind
     simp_all
    grind
   have hsame:gG l x=x->(∀k z,k<i+1->s[k]?=some z->l'[k]?=some (gG l z)):=λh k z hk hz=>by
    grind
   simp only[go_sem,simprocAttr,ak hat,aO hat,aco,acq,hlx,acD,hfe];refine⟨hc,?_⟩;simp only[go_sem,simprocAttr,bf,ay];refine aj.fn hn1 ?_;simp only[go_sem,simprocAttr];have hlk: ∃y,Av.look (B.st++[none]) id i [2]=some y:=⟨.bool x.hold,by rw[ak hat2,acq,hlx];rfl⟩;obtain⟨y0,hy0⟩:=hlk;have hsl: ∀b:Bool,dV (B.st++[none]) id i [2] (.bool b)=(B.st++[none]).set id (j7 (l'.set i { x with hold:=b })):=λb=>by
    rw[aC hat2,acq,hlx];exact congrArg (λz=>(B.st++[none]).set id (some (.cells 53 z))) (hset b)
   have hsx: ∀o,Ext σ ((B.st++[none]).set id o):=λo=>(hst.app _).set hlo _
   refine⟨λhq=>?_,λhq=>?_⟩
   .obtain⟨f1,f2,f3⟩:=hfin { x with hold:=false } (by grind [gG]);simp only[go_sem,simprocAttr,hy0,aO hat2,aco,h13,hsl];exact⟨hc,hc,ag hc hs47,hsx _,_,f1,ack hl2,f2,f3⟩
   .refine aj.fn (Vd 5) ?_;simp only[go_sem,simprocAttr];refine aj.fn hn2 ?_;simp only[go_sem,simprocAttr,hy0,aO hat2,aco,h13,hsl];refine⟨λhq2=>?_,λhq2=>?_⟩
    .obtain⟨f1,f2,f3⟩:=hfin { x with hold:=true } (by grind [gG]);exact⟨hc,hc,ag hc hs47,hsx _,_,f1,ack hl2,f2,f3⟩
    .exact⟨hc,ag hc hs47,hst.app _,l',hll,hat2,hsame (by unfold gG;simp_all[if_neg]),λk hk=>hJ k (by omega)⟩
  .have e:l'=s.map (gG l):=by
    refine acK λk=>?_
    grind
   refine bu.frz (e:=53) (te:=53) (id:=id) (off:=0) (m:=s.length) (xs:=l'.map bf) 4 (by simp only[go_sem,simprocAttr]) (by simp only[go_sem,simprocAttr];exact hat) (by simp[hll]) (bu.ret ?_);simp only[go_sem,simprocAttr];rw[acj (by simp[hll]),e];exact⟨.refl _,hst.set hlo _⟩
end Go.Proofs.Tryz
end
section
namespace Go.Proofs.Tryz
open Go Go.Av
set_option maxRecDepth 10000
variable {W0 :World}
def cT (a0 a1 a2 a3 a4 a5 a6 a7 a8 a9 a10 a11 a12:AV):Option bH:=some (.cells 143 [.agg 143 [a0,a1,a2,a3,a4,a5,a6,a7,a8,a9,a10,a11,a12]])
theorem one_pow {i:Nat}(h:i<32):IntKind.u32.wrap (1*2^(min i 32))=((2^i:Nat):Int):=by
 have h1:(2^i:Nat)<4294967296:=acJ (acv (by decide) h) (by decide);grind [IntKind.wrap,IntKind.signed,IntKind.bits]
theorem sd (i:Nat)(h:i<32):ai prog W0 88 [.int .i64 i] (.int .u32 ((2^i:Nat):Int)):=by
 refine an [2] [] func88 rfl rfl ntmps88 rfl rfl (.int _ _) λhs σ=>?_
 simp only[go_sem,simprocAttr];refine⟨by omega,?_⟩;rw[one_pow h];exact .refl _
def kX (l:List aM)(k:Int)(n:List UInt8):Option aM:=l.find? λa=>a.kind==k&&a.name==n
variable {a0 a1 a3 a4 a5 a6 a7 a8 a9 a10 a11 a12:AV}
theorem ou (σ:ab)(id:Nat)(l:List aM)(k:Int)(n:List UInt8)(hl:l.length<=maxLen)(hid:σ[id]?=some (cT a0 a1 (bC l) a3 a4 a5 a6 a7 a8 a9 a10 a11 a12)):
  aP prog W0 151 [.ptr 143 id 0 [],.int .i64 k,.str n] σ λr σ'=>r= .tup [ck ((kX l k n).getD pF),.bool (kX l k n).isSome]/\σ'=σ:=by
 have hidl:=(acf.1 hid).1;refine CB [.cell 6 66,.tmp 7] [9] func151 rfl rfl ntmps151 rfl rfl (.qT (fk (aci _) (J8 _)) (.bool _)) λhs=>?_
 unfold cT at hid;have hid0:(σ++[some (bH.cells 66 [ck pF])])[id]?=σ[id]?:=acm hidl;rw[hid]at hid0;unfold ck pF at hid0;simp only[go_sem,simprocAttr,ak hid0,bC,acg];refine ae.upto [1,2,6,13,14] l.length (λi A=>A.env 15= .int .i64 i/\Ext (σ++[some (.cells 66 [ck pF])]) A.st/\NoB (λa:aM=>a.kind==k&&a.name==n) l i) 0 (aci _) ?_ λi B hi ⟨h15,hst,hI⟩=>?_
 .simp only[go_sem,simprocAttr];exact⟨.refl _,.zero _ _⟩
 have c1:B.st[σ.length]?=some (some (.cells 66 [ck pF])):=by
  have e:=congrArg (·[σ.length]?) hst;simp_all
 have c2:(B.st++[none])[σ.length]?=some (some (.cells 66 [ck pF])):=(acm (acf.1 c1).1).trans c1;have hx:Ext σ B.st:=(Ext.refl σ).app _ |>.trans hst
 simp only[go_sem,simprocAttr,h15,acg];refine⟨λhc=>⟨hc,?_⟩,λhc=>?_⟩
 .obtain⟨a,ha⟩:=get_some hc;simp only[aw ha];unfold ck at c2;simp only[go_sem,simprocAttr,ck,ak c2,aC c2];refine⟨λhq=>cW.ret ?_,λhq=>⟨hc,ag hc hl,hst.app _,hI.succ ha hq⟩⟩
  have:kX l k n=some a:=js ha hq hI;rw[this];simp only[go_sem,simprocAttr,cU (acf.1 c2).1];exact(hx.app _).set (acs _) _
 .have:kX l k n=none:=acr.2 λx hx=>by grind [NoB.all]
  rw[this];unfold ck at c1;simp only[go_sem,simprocAttr,ak c1,aC c1];refine cW.ret ?_;simp only[go_sem,simprocAttr,cU (acf.1 c1).1];exact⟨.refl _,hx.set (acs _) _⟩
theorem dO {α:Type}(q:α->Bool)(l:List α):(iS q l= -1/\ ∀a∈l,q a=false)\/ ∃i a,l[i]?=some a/\q a=true/\(∀b∈l.take i,q b=false)/\iS q l=(i:Nat):=by
 by_cases h: ∀a∈l,q a=false
 .grind [dM]
 .right;have hex: ∃a∈l,q a=true:=by
   simp_all
  have hlt:l.findIdx q<l.length:=List.findIdx_lt_length.2 hex;obtain⟨a,ha⟩:=get_some hlt;have hqa:q a=true:=by
   grind
  have hb: ∀b∈l.take (l.findIdx q),q b=false:=λb hb=>by
   grind [acF]
  grind [gf]
def bQ (l:List aM)(s:List aA)(n:List UInt8):Option aA:=(s.map (gG l)).find? λx=>x.pkg.name==n
theorem xq (σ:ab)(id:Nat)(l:List aM)(s:List aA)(n:List UInt8)(hm: ∀x∈s,aS x.pkg=0)(hl:s.length<=1024)(hid:σ[id]?=some (cT a0 (aK s) (bC l) a3 a4 a5 a6 a7 a8 a9 a10 a11 a12)):
  aP prog W0 152 [.ptr 143 id 0 [],.str n] σ λr σ'=>r= .tup [bf ((bQ l s n).getD gx),.bool (bQ l s n).isSome]/\σ'=σ:=by
 have hidl:=(acf.1 hid).1;refine CB [.cell 4 53,.tmp 5] [] func152 rfl rfl ntmps152 rfl rfl (.qT (fk (aci _) (C9 _)) (.bool _)) λhs=>?_
 unfold cT at hid;have hlk: ∀o:Option bH,(σ++[o])[id]?=some (some (.cells 143 [.agg 143 [a0,aK s,bC l,a3,a4,a5,a6,a7,a8,a9,a10,a11,a12]])):=λo=>by grind
 simp only[go_sem,simprocAttr,ak (hlk _)];refine⟨.of (by kernel_rfl),aD.fn (Kl l s hm hl) ?_⟩;simp only[go_sem,simprocAttr];refine aj.fn (nE (s.map (gG l)) n) ?_;rcases dO (λx:aA=>x.pkg.name==n) (s.map (gG l))with⟨hi,hall⟩|⟨i,a,ha,hqa,hbef,hi⟩
 .have hf:bQ l s n=none:=acr.2 λx hx=>by grind
  rw[hi,hf];simp only[go_sem,simprocAttr];refine cW.ret ?_;simp only[go_sem,simprocAttr];exact dh (.sub (To gx)) (.refl _)
 .have hf:bQ l s n=some a:=js ha hqa hbef;have h0: ¬(i:Int)<0:=by omega
  rw[hi,hf,if_neg h0];simp only[go_sem,simprocAttr,aK,aw ha];have hil:=(acf.1 ha).1;have hfe:bb prog 53 (bf a)=true:=by kernel_rfl
  refine⟨by simp_all,hfe,cW.ret ?_⟩;simp only[go_sem,simprocAttr]
  done
theorem QW (a:aM):ai prog W0 209 [ck a] (.bool (a.kind==3)):=by
 refine an [2] [1] func209 rfl rfl ntmps209 rfl rfl (.bool _) λhs σ=>?_
 simp only[go_sem,simprocAttr,ck]
 try exact .refl _
theorem Rs (a:aM):ai prog W0 154 [ck a] (.bool (a.kind==3)):=by
 refine an [2] [1] func154 rfl rfl ntmps154 rfl rfl (.bool _) λhs σ=>?_
 simp only[go_sem,simprocAttr,ck]
 try exact .refl _
theorem LN (l:List aM):ai prog W0 153 [bC l,.fn 209 []] (.bool (oQ l)):=WD ck df.ask l (λa=>a.kind==3) _ [] λa _=>by simp[QW]
theorem Lg (l:List aM):ai prog W0 153 [bC l,.fn 154 []] (.bool (oQ l)):=WD ck df.ask l (λa=>a.kind==3) _ [] λa _=>by simp[Rs]
def AS (l:List aM)(s:List aA)(n:List UInt8):Bool:=!oQ l||(((bQ l s n).isSome||(kX l 1 n).isSome)&& !(kX l 2 n).isSome)
theorem wz (x:aA):bb prog 53 (bf x)=true:=by kernel_rfl
theorem rJ (a:aM):bb prog 66 (ck a)=true:=by kernel_rfl
theorem KL (σ:ab)(id:Nat)(l:List aM)(s:List aA)(n:List UInt8)(hm: ∀x∈s,aS x.pkg=0)(hs1:s.length<=1024)(hl:l.length<=1024)(hid:σ[id]?=some (cT a0 (aK s) (bC l) a3 a4 a5 a6 a7 a8 a9 a10 a11 a12)):
  aP prog W0 155 [.ptr 143 id 0 [],.str n] σ λr σ'=>r= .bool (AS l s n)/\σ'=σ:=by
 have hl47:l.length<=maxLen:=by grind [au]
 refine mj [4] [6,8,10] func155 rfl rfl ntmps155 rfl rfl (.bool _) λhs=>?_
 have hid0:=hid;unfold cT at hid0;simp only[go_sem,simprocAttr,ak hid0];refine aj.fn (LN l) ?_;simp only[go_sem,simprocAttr];refine aj.reads (by simp only[go_sem,simprocAttr]) (xq σ id l s n hm hs1 hid) ?_;simp only[go_sem,simprocAttr,wz];have hmo: ∀τ,(σ++τ)[id]?=some (cT a0 (aK s) (bC l) a3 a4 a5 a6 a7 a8 a9 a10 a11 a12):=λτ=>by grind
 refine aj.reads (by simp only[go_sem,simprocAttr]) (ou (σ++[none]) id l 1 n hl47 (hmo _)) ?_;simp only[go_sem,simprocAttr,rJ];refine aj.reads (by simp only[go_sem,simprocAttr]) (ou (σ++[none,none]) id l 2 n hl47 (hmo _)) ?_;simp only[go_sem,simprocAttr,rJ];refine bu.ret ?_;simp only[go_sem,simprocAttr,AS]
 try exact .refl _
def ua (l:List aM)(s:List aA)(n:List UInt8):Bool:=(!(kX l 1 n).isSome&& !((bQ l s n).isSome&&(((bQ l s n).getD gx).hold||((bQ l s n).getD gx).pkg.ess)))&& !(oQ l&&AS l s n)
theorem TL (σ:ab)(id:Nat)(l:List aM)(s:List aA)(n:List UInt8)(hm: ∀x∈s,aS x.pkg=0)(hs1:s.length<=1024)(hl:l.length<=1024)(hid:σ[id]?=some (cT a0 (aK s) (bC l) a3 a4 a5 a6 a7 a8 a9 a10 a11 a12)):
  aP prog W0 87 [.ptr 143 id 0 [],.str n] σ λr σ'=>r= .bool (ua l s n)/\σ'=σ:=by
 have hl47:l.length<=maxLen:=by grind [au]
 have hmo: ∀τ,(σ++τ)[id]?=some (cT a0 (aK s) (bC l) a3 a4 a5 a6 a7 a8 a9 a10 a11 a12):=λτ=>by grind
 refine mj [4] [5,7] func87 rfl rfl ntmps87 rfl rfl (.bool _) λhs=>?_
 simp only[go_sem,simprocAttr];refine aj.reads (by simp only[go_sem,simprocAttr]) (ou σ id l 1 n hl47 hid) ?_;simp only[go_sem,simprocAttr,rJ];refine aj.reads (by simp only[go_sem,simprocAttr]) (xq (σ++[none]) id l s n hm hs1 (hmo _)) ?_;have hid0:=hmo [none,none];unfold cT at hid0;simp only[go_sem,simprocAttr,wz,ak hid0];refine aj.fn (Lg l) ?_;have he:bf ((bQ l s n).getD gx)= .agg 53 [.agg 51 [.str ((bQ l s n).getD gx).pkg.name,.str ((bQ l s n).getD gx).pkg.ver,aB ((bQ l s n).getD gx).pkg.pre,aB ((bQ l s n).getD gx).pkg.dep,aB ((bQ l s n).getD gx).pkg.rcm,aF ((bQ l s n).getD gx).pkg.con,aF ((bQ l s n).getD gx).pkg.brk,cy ((bQ l s n).getD gx).pkg.eI,.bool ((bQ l s n).getD gx).pkg.ess],.bool ((bQ l s n).getD gx).k9,.bool ((bQ l s n).getD gx).hold]:=rfl;simp only[go_sem,simprocAttr,he];refine aD.st (λ_=>KL (σ++[none,none]) id l s n hm hs1 hl (hmo _)) ?_;simp only[go_sem,simprocAttr];refine bu.ret ?_;simp only[go_sem,simprocAttr,ua]
 try exact .refl _
def oe (l:List aM)(s:List aA)(p:Pkg):Bool:=
 let ex:=(kX l 1 p.name).isSome&&((kX l 1 p.name).getD pF).ver !=[]
 if ((kX l 2 p.name).isSome||(ex&& !bt p.ver ((kX l 1 p.name).getD pF).ver))=true then false
 else if ((bQ l s p.name).isSome&&((((bQ l s p.name).getD gx).hold&& !bt p.ver ((bQ l s p.name).getD gx).pkg.ver)||(!ex&&decide (bO p.ver ((bQ l s p.name).getD gx).pkg.ver<0))))=true then false
 else AS l s p.name
theorem Ya (σ:ab)(id:Nat)(l:List aM)(s:List aA)(p:Pkg)(hm: ∀x∈s,aS x.pkg=0)(hs1:s.length<=1024)(hl:l.length<=1024)(hid:σ[id]?=some (cT a0 (aK s) (bC l) a3 a4 a5 a6 a7 a8 a9 a10 a11 a12)):
  aP prog W0 148 [.ptr 143 id 0 [],ay p] σ λr σ'=>r= .bool (oe l s p)/\σ'=σ:=by
 have hl47:l.length<=maxLen:=by grind [au]
 have hmo: ∀τ,(σ++τ)[id]?=some (cT a0 (aK s) (bC l) a3 a4 a5 a6 a7 a8 a9 a10 a11 a12):=λτ=>by grind
 refine mj [4] [3,5,8,10] func148 rfl rfl ntmps148 rfl rfl (.bool _) λhs=>?_
 simp only[go_sem,simprocAttr,ay];refine aj.reads (by simp only[go_sem,simprocAttr]) (ou σ id l 1 p.name hl47 hid) ?_;have ha:ck ((kX l 1 p.name).getD pF)= .agg 66 [.int .i64 ((kX l 1 p.name).getD pF).kind,.str ((kX l 1 p.name).getD pF).name,.str ((kX l 1 p.name).getD pF).ver]:=rfl;have he:bf ((bQ l s p.name).getD gx)= .agg 53 [.agg 51 [.str ((bQ l s p.name).getD gx).pkg.name,.str ((bQ l s p.name).getD gx).pkg.ver,aB ((bQ l s p.name).getD gx).pkg.pre,aB ((bQ l s p.name).getD gx).pkg.dep,aB ((bQ l s p.name).getD gx).pkg.rcm,aF ((bQ l s p.name).getD gx).pkg.con,aF ((bQ l s p.name).getD gx).pkg.brk,cy ((bQ l s p.name).getD gx).pkg.eI,.bool ((bQ l s p.name).getD gx).pkg.ess],.bool ((bQ l s p.name).getD gx).k9,.bool ((bQ l s p.name).getD gx).hold]:=rfl;simp only[go_sem,simprocAttr,ha];refine aj.reads (by simp only[go_sem,simprocAttr]) (ou (σ++[none]) id l 2 p.name hl47 (hmo _)) ?_;simp only[go_sem,simprocAttr,rJ];refine aD.fnG (λ_=>nF p.ver ((kX l 1 p.name).getD pF).ver) ?_;simp only[go_sem,simprocAttr];have hbn: ∀v:List UInt8,(v !=[])= !(v==[]):=λv=>rfl
 refine⟨λh1=>bu.ret ?_,λh1=>?_⟩
 .simp only[go_sem,simprocAttr];grind [ar,oe]
 refine aj.reads (by simp only[go_sem,simprocAttr]) (xq (σ++[none,none]) id l s p.name hm hs1 (hmo _)) ?_;simp only[go_sem,simprocAttr,he];refine aD.fnG (λ_=>nF p.ver ((bQ l s p.name).getD gx).pkg.ver) ?_;simp only[go_sem,simprocAttr];refine aD.fnG (λ_=>pR p.ver ((bQ l s p.name).getD gx).pkg.ver) ?_;simp only[go_sem,simprocAttr];refine⟨λh2=>bu.ret ?_,λh2=>?_⟩
 .simp only[go_sem,simprocAttr];grind [ar,oe]
 refine aj.reads (by simp only[go_sem,simprocAttr]) (KL (σ++[none,none,none]) id l s p.name hm hs1 hl (hmo _)) ?_;simp only[go_sem,simprocAttr];refine bu.ret ?_;simp only[go_sem,simprocAttr];grind [ar,oe]
end Go.Proofs.Tryz
end
section
namespace Go.Av
def cG (xs:List Int):List Int:=xs.foldl (λa x=>if a.getLast?=some x then a else a++[x]) []
theorem kI (xs:List Int)(x:Int):cG (xs++[x])=if (cG xs).getLast?=some x then cG xs else cG xs++[x]:=by
 grind [cG]
theorem rP {p:List Int->Prop}(h0:p [])(hs: ∀xs x,p xs->p (xs++[x]))(xs:List Int):p xs:=by
 have h: ∀ys:List Int,p ys.reverse:=λys=>by
  induction ys with
  |nil=>exact h0
  |cons y r ih=>simp_all
 have:=h xs.reverse;simp_all
theorem GZ (xs:List Int):(cG xs).getLast?=xs.getLast?:=by
 refine rP (p:=λxs=>(cG xs).getLast?=xs.getLast?) rfl (λxs x ih=>?_) xs;grind [kI]
theorem MB (xs:List Int): ∀y,y∈cG xs↔y∈xs:=by
 refine rP (p:=λxs=>∀ y,y∈cG xs↔y∈xs) (λy=>Iff.rfl) (λxs x ih y=>?_) xs;grind [kI]
theorem z6 (xs:List Int):(cG xs).length<=xs.length:=by
 refine rP (p:=λxs=>(cG xs).length<=xs.length) (acs _) (λxs x ih=>?_) xs;grind [kI]
theorem Ry (xs:List Int): ∀(i:Nat) (a b:Int),(cG xs)[i]?=some a->(cG xs)[i+1]?=some b->a≠b:=by
 refine rP (p:=λxs=>∀ (i:Nat) (a b:Int),(cG xs)[i]?=some a->(cG xs)[i+1]?=some b->a≠b) (λi a b h=>by simp[cG]) (λxs x ih i a b ha hb=>?_) xs;rw[kI]at ha hb;grind
theorem xL {xs:List Int}{k:Nat}{a b:Int}(hk:0<k)(ha:xs[k]?=some a)(hb:xs[k-1]?=some b):cG (xs.take (k+1))=if b=a then cG (xs.take k)else cG (xs.take k)++[a]:=by
 rw[ah ha,kI,GZ];grind
end Go.Av
end
section
namespace Go.Proofs.Tryz
open Go Go.Av
set_option maxRecDepth 10000
variable {W0 :World}
theorem Du (σ:ab)(id:Nat)(xs:List Int)(hid:σ[id]?=some (some (.cells 190 (xs.map (.int .i64)))))(hx:xs.length<=1048576)(h0:xs≠[]):
  aP prog W0 241 [.row 190 id 0 xs.length] σ λr σ'=>∃ zs,r= .row 190 id 0 (cG xs).length/\σ'=σ.set id (some (.cells 190 zs))/\zs.length=xs.length/\zs.take (cG xs).length=(cG xs).map (.int .i64):=by
 have hidl:id<σ.length:=(acf.1 hid).1;have h1:0<xs.length:=List.length_pos_iff.2 h0;have hone:cG (xs.take 1)=xs.take 1:=by
  cases xs with
  |nil=>rfl
  |cons x r=>simp[cG]
 have hdone:cG xs=xs-> ∃zs,(AV.row 190 id 0 xs.length)= .row 190 id 0 (cG xs).length/\σ=σ.set id (some (.cells 190 zs))/\zs.length=xs.length/\zs.take (cG xs).length=(cG xs).map (.int .i64):=λh=>by
  grind [fN]
 refine bY [2] [] func241 rfl rfl ntmps241 rfl rfl λhs=>?_
 simp only[go_sem,simprocAttr];refine⟨λ_=>bu.ret ?_,λh2=>?_⟩
 .simp only[go_sem,simprocAttr];exact⟨_,.refl _,hdone (by grind)⟩
 refine ae.cB [0] (λk A=>∃ j:Nat,A.env 3= .int .i64 j/\k=xs.length-j/\0<j/\j<=xs.length/\A.st=σ/\cG (xs.take j)=xs.take j) (xs.length-1) ⟨1,?_⟩ λk B ⟨j,h3,hk,hj,hjl,hst,hcj⟩=>?_
 .simp only[go_sem,simprocAttr];grind
 simp only[go_sem,simprocAttr,h3,hst];refine⟨λhlt=>?_,λhge=>bu.ret ?_⟩
 .obtain⟨a,ha⟩:=get_some hlt;obtain⟨b,hb⟩:=get_some (show j-1<xs.length by omega);have hw:IntKind.i64.wrap ((j:Int)-1)=(j:Int)-1:=aJ (by omega);have hn:((j:Int)-1).toNat=j-1:=by omega
  have hsu:=xL hj ha hb;simp only[go_sem,simprocAttr,ak hid,aO hid,hw,hn,aco,acq,ha,hb,acD];refine⟨.of (by kernel_rfl),hlt,by omega,λheq=>?_,λhne=>?_⟩
  .have heq':b=a:=(by omega:a=b).symm;rw[if_pos heq',hcj]at hsu;refine⟨by omega,?_⟩;refine ae.at [0] (λA=>∃ zs,A.env 3= .int .i64 (cG xs).length/\A.st=σ.set id (some (.cells 190 zs))/\zs.length=xs.length/\zs.take (cG xs).length=(cG xs).map (.int .i64)) ?_ λC ⟨zs,h3,hst,hzl,hzt⟩=>?_
   .refine ae.upto [0,4] (xs.length-j) (λi A=>0<i/\A.env 5= .int .i64 i/\ ∃(p:Nat) (zs:List AV),p=(cG (xs.take (j+i))).length/\A.env 3= .int .i64 p/\A.st=σ.set id (some (.cells 190 zs))/\zs.length=xs.length/\p<j+i/\zs.take p=(cG (xs.take (j+i))).map (.int .i64)/\ ∀m,j+i<=m+1->zs[m]?=(xs.map (.int .i64))[m]?) 1 (by omega) ?_ λi B hi ⟨hi0,h5,p,zs,hp,h3,hst,hzl,hpj,hzt,hzr⟩=>?_
    .simp only[go_sem,simprocAttr];grind [fN,acH]
    have hidl2:id<(σ.set id (some (.cells 190 zs))).length:=by grind
    simp only[go_sem,simprocAttr,h5,h3,hst];refine⟨λhil=>?_,λhil=>?_⟩
    .obtain⟨c,hc⟩:=get_some (show j+i<xs.length by omega);obtain⟨d,hd⟩:=get_some (show j+i-1<xs.length by omega);have hsu2:=xL (show 0<j+i by omega) hc hd;have hzc:zs[j+i]?=some (.int .i64 c):=by grind
     have hzd:zs[j+i-1]?=some (.int .i64 d):=by grind
     have hlc:Av.look (σ.set id (some (.cells 190 zs))) id (j+i) []=some (.int .i64 c):=by rw[cU hidl,hzc];rfl
     have hld:Av.look (σ.set id (some (.cells 190 zs))) id (j+(i-1)) []=some (.int .i64 d):=by rw[cU hidl,show j+(i-1)=j+i-1 by omega,hzd];rfl
     have hwi:IntKind.i64.wrap ((i:Int)-1)=(i:Int)-1:=aJ (by omega);have hni:((i:Int)-1).toNat=i-1:=by omega
     have hwj:IntKind.i64.wrap ((i:Int)+1)=((i+1:Nat):Int):=by grind [aJ]
     simp only[go_sem,simprocAttr,hwi,hni,hlc,hld,mu hidl];refine⟨.of (by kernel_rfl),by omega,by omega,λhcd=>?_,λhcd=>?_⟩
     .have hcd': ¬d=c:=λe=>by omega
      rw[if_neg hcd']at hsu2;have hpl:p<xs.length:=by omega
      obtain⟨y,hy⟩:=Option.isSome_iff_exists.1 (show(zs[p]?).isSome=true by grind);have hlp:Av.look (σ.set id (some (.cells 190 zs))) id p []=some y:=by rw[cU hidl,hy];cases y<;>rfl
      have hwp:IntKind.i64.wrap ((p:Int)+1)=((p+1:Nat):Int):=by grind [aJ]
      simp only[go_sem,simprocAttr,aco,hlp,eg hidl,hwp,hwj];refine⟨by omega,by omega,by omega,p+1,zs.set p (.int .i64 c),?_,rfl,rfl,by grind,by omega,?_,λm hm=>?_⟩
      .grind
      .grind [ah,List.take_set_of_le]
      grind
     .have hcd':d=c:=by omega
      rw[if_pos hcd']at hsu2;simp only[go_sem,simprocAttr,hwj];grind
    .have e9:xs.take (j+i)=xs:=acj (by omega);grind
   have hcl:=z6 xs;simp only[go_sem,simprocAttr,h3];rw[aco];refine⟨hcl,qo.row (v:=.int .i64 0) (by kernel_rfl) (by simp only[go_sem,simprocAttr]) (by kernel_rfl) (zs:=zs) (by simp only[go_sem,simprocAttr,hst];grind) (by omega) ?_⟩;have hzc:(j5 zs (cG xs).length (List.replicate (xs.length-(cG xs).length) (.int .i64 0))).take (cG xs).length=zs.take (cG xs).length:=by
    grind [j5]
   simp only[go_sem,simprocAttr,h3,hst,List.set_set];refine⟨⟨aci _,hcl⟩,bu.ret ?_⟩;simp only[go_sem,simprocAttr,Nat.sub_zero];exact⟨_,.refl _,by simp,_,rfl,rfl,by grind [sJ],by grind⟩
  .have hne': ¬b=a:=λe=>by omega
   rw[if_neg hne',hcj,<-ah ha]at hsu;exact .here (xs.length-(j+1)) (by omega) ⟨j+1,ag hlt (by grind [au]),rfl,by omega,by omega,by simp only[go_sem,simprocAttr,hst],hsu⟩
 .simp only[go_sem,simprocAttr,hst];rw[acj (by omega)]at hcj;exact⟨_,.refl _,hdone hcj⟩
theorem SQ (σ:ab)(c:List Int)(h0:c≠[])(hl:c.length<=1000)(hc: ∀l∈c,l≠0/\l.natAbs<=1000000):
  aP prog W0 194 [fG c] σ λr σ'=>Ext σ σ'/\((∃d:List Int,d≠[]/\d.length<=c.length/\(∀l,l∈d↔l∈c)/\r= .tup [fG d,.bool true])\/(r= .tup [.aq,.bool false]/\ ∀M,yX M c=true)):=by
 refine bY [2,3] [] func194 rfl rfl ntmps194 rfl rfl λhs=>?_
 simp only[go_sem,simprocAttr];refine aj.goes (by simp only[go_sem,simprocAttr]) (Eb σ c h0 (by omega)) λr σ' ⟨hr,hσ⟩=>?_
 subst hr hσ;simp only[go_sem,simprocAttr];have hid:(σ++[some (bH.cells 190 (c.map (AV.int .i64)))])[σ.length]?=some (ints c):=by simp[ints]
 refine aj.goes (by simp only[go_sem,simprocAttr]) (PN _ σ.length c hid h0 (by omega) λx hx=>(hc x hx).2) λr τ ⟨ys,hp,hτ⟩=>?_
 simp only[go_sem,simprocAttr];have hyl:=hp.length_eq;have hid:τ[σ.length]?=some (some (.cells 190 (ys.map (.int .i64)))):=by grind [ints]
 have hτl:τ.length=σ.length+1:=by simp_all
 have hτe:Ext σ τ:=by grind [Ext.app,Ext.refl]
 rw[<-hyl];have hy0:ys≠[]:=λe=>h0 (by simp_all)
 refine aj.goes (by simp only[go_sem,simprocAttr]) (Du _ σ.length ys hid (by omega) hy0) λr σ' ⟨zs,hr,hσ,hzl,hzt⟩=>?_
 subst hr;have hd1: ∀l,l∈cG ys↔l∈c:=λl=>(MB ys l).trans hp.mem_iff
 have hdl:=z6 ys;have hdn:=Ry ys;have hd0:cG ys≠[]:=λe=>by
  grind [List.exists_mem_of_ne_nil]
 generalize hD:cG ys=D at *;have hid':σ'[σ.length]?=some (some (.cells 190 zs)):=by simp_all
 have hσl:σ'.length=σ.length+1:=by simp_all
 have hσe:Ext σ σ':=by grind [Ext.set]
 have hz: ∀(i:Nat) (x:Int),D[i]?=some x->zs[i]?=some (.int .i64 x):=λi x hx=>by
  have hi:=(acf.1 hx).1
  have:(zs.take D.length)[i]?=zs[i]?:=acz hi;simp_all
 clear hσ;simp only[go_sem,simprocAttr];refine ae.at [4] (λA=>A.st=σ') ?_ λB hst=>?_
 .refine ae.upto [4,13,14] D.length (λi A=>A.env 15= .int .i64 i/\A.st=σ') 0 (aci _) ?_ λi B hi ⟨h15,hst⟩=>?_
  .simp only[go_sem,simprocAttr]
   done
  by_cases hlt:i<D.length
  .obtain⟨a,ha⟩:=get_some hlt;obtain⟨b,hb⟩:=get_some (show i-1<D.length by omega);have hw:IntKind.i64.wrap ((i:Int)-1)=(i:Int)-1:=aJ (by omega);have hn:((i:Int)-1).toNat=i-1:=by omega
   have ham:=hc a ((hd1 a).1 (ach ha));have hbm:=hc b ((hd1 b).1 (ach hb));have ha0:(a==0)=false:=by simp_all
   simp only[go_sem,simprocAttr,h15,hst,hw,hn,aco,hz i a ha,hz (i-1) b hb,ak hid',aO hid',ha0,Option.bind_some,Option.isSome_some,Option.getD_some];refine λ_=>⟨hlt,λhg=>by omega,aD.fnG (λ_=>oa b (by omega)) ?_⟩
   simp only[go_sem,simprocAttr,hst];refine aD.fnG (λ_=>oa a (by omega)) ?_;simp only[go_sem,simprocAttr,h15,hst];refine⟨λhq=>?_,λhq=>⟨hlt,ag hlt (by grind [au])⟩⟩;refine bu.ret ?_;simp only[go_sem,simprocAttr,hst];refine⟨_,.refl _,by omega,hσe,.inr ⟨rfl,λM=>?_⟩⟩;simp only[Bool.and_eq_true,decide_eq_true_eq,beq_iff_eq]at hq;obtain⟨hi0,hab⟩:=hq;have hne:b≠a:=hdn (i-1) b a hb (by grind);have hneg:b= -a:=by omega
   have h1:a∈c:=(hd1 a).1 (ach ha);have h2: -a∈c:=by grind
   refine acA.2 ?_;grind [DE]
  .have hd:decide ((i:Int)<(D.length:Int))=false:=decide_eq_false (by omega);simp only[go_sem,simprocAttr,h15,hst];omega
 simp only[go_sem,simprocAttr];refine bu.frz (e:=190) (te:=190) (id:=σ.length) (off:=0) (m:=D.length) (xs:=zs) 2 (by simp only[go_sem,simprocAttr]) (by simp only[go_sem,simprocAttr,hst];exact hid') (by omega) (bu.ret ?_);simp only[go_sem,simprocAttr,hst];rw[hzt];exact⟨_,.refl _,by simp_all,hσe.set (acs _) _,.inl ⟨D,hd0,by omega,hd1,rfl⟩⟩
theorem Kb (σ:ab)(id n:Nat)(cv:AV)(cls:List (List Int))(hid:σ[id]?=some (vT n cv))(hb:Bld σ cv 191 (cls.map fG))(hn:n<=200)(hc5:cls.length<5000)(c:List Int)(hw:wfC n c=true)(h0:c≠[])(hl:c.length<=1000):
  aP prog W0 126 [.ptr 248 id 0 [],fG c] σ λr σ'=>r= .bool true/\Fr (id::aN cv) σ σ'/\ ∃cv' cls',σ'[id]?=some (vT n cv')/\Bld σ' cv' 191 (cls'.map fG)/\(∀j∈aN cv',j∈aN cv\/σ.length<=j)/\
   (∀M,ie M cls'=(ie M cls&&yX M c))/\cls'.length<=cls.length+1/\ ∀d∈cls',d∈cls\/(d≠[]/\d.length<=c.length/\ ∀l,l∈d↔l∈c):=by
 refine bY [4] [] func126 rfl rfl ntmps126 rfl rfl λhs=>?_
 have hc: ∀l∈c,l≠0/\l.natAbs<=n:=λl hl=>by
  have:=acu.1 hw l hl;grind [wfL]
 simp only[go_sem,simprocAttr];refine aj.reads (by simp only[go_sem,simprocAttr]) (XE σ id n cv cls hid hb (by omega) hc5 c λl hl=>by grind) ?_;rw[hw];simp only[go_sem,simprocAttr];refine aj.goes (by simp only[go_sem,simprocAttr]) (SQ σ c h0 hl λl hl=>⟨(hc l hl).1,by grind⟩) λr σ' ⟨hx,hr⟩=>?_
 have hidl:=(acf.1 hid).1;have hid':σ'[id]?=some (vT n cv):=by rw[(Fr.ext (F:=[]) hx).old id hidl (by simp),hid]
 have hb':Bld σ' cv 191 (cls.map fG):=hb.keep λj hj=>(Fr.ext (F:=[]) hx).old j (hb.lt j hj) (by simp)
 rcases hr with⟨d,hd0,hdl,hp,rfl⟩|⟨rfl,hM⟩
 .simp only[go_sem,simprocAttr];refine cc.both (λ_=>?_) (λh=>by cases h);simp only[go_sem,simprocAttr,ak hid',hb'.ok,hb'.un];refine bq.mI (σ:=σ') (by simp only[go_sem,simprocAttr]) 1048576 (by kernel_rfl) hb' (.lit _ _ _) (by grind) λv' σ'' ha=>?_
  have hf:=ha.fr;have hidl':=(acf.1 hid').1;have hid'':σ''[id]?=some (vT n cv):=by rw[hf.old id hidl' (hb'.ne hid' (by simp)),hid']
  have hbv:=ha.bld;simp only[go_sem,simprocAttr,ak hid'',aC hid'',hbv.ok,hbv.un,hbv.fits];refine bu.ret ?_;simp only[go_sem,simprocAttr];have hne:id∉aN v':=hbv.ne hid'' (by simp);refine⟨_,.refl _,by have:=hf.len;have:=hx.le;grind,rfl,?_,v',cls++[d],?_,?_,?_,?_,?_,?_⟩
  .exact((Fr.ext (F:=id::aN cv) hx).trans (hf.mono (G:=id::aN cv) λj hj=>by simp[hj]) λj hj=>.inl hj).set (.inl (by simp)) _
  .have:=hf.len;simp[show id<σ''.length by omega];rfl
  .grind [Bld.keep]
  .exact λj hj=>(ha.aN hb' j hj).imp_right λh=>by have:=hx.le;omega
  .grind [ie,Af]
  .simp
  grind
 .simp only[go_sem,simprocAttr];refine cc.both (λh=>by cases h) (λ_=>?_);simp only[go_sem,simprocAttr];refine bu.ret ?_;simp only[go_sem,simprocAttr];refine⟨_,.refl _,hx.le,rfl,.ext hx,cv,cls,hid',hb',λj hj=>.inl hj,λM=>by simp_all,by omega,λd hd=>.inl hd⟩
set_option maxHeartbeats 1000000
theorem OV {M:Nat->Bool}{c d:List Int}(h: ∀l,l∈c↔l∈d):yX M c=yX M d:=Af (M:=M) h
theorem lB (l:List Pkg)(b:Pkg->Bool):(br l b).length<=l.length:=by
 grind [br,plB]
theorem kC {l:List Pkg}{b:Pkg->Bool}{k:Nat}(h:k∈br l b):k<l.length:=by
 grind [uT]
theorem sn (all:List Pkg): ∀c:Clause,(jX all c).length<=c.length*all.length
 |[]=>by simp[jX]
 |a::r=>by
  have:=sn all r;grind [lB,jX,Nat.succ_mul]
theorem JP (all:List Pkg)(c:Clause)(j:Nat)(a:Atom)(h:c[j]?=some a):jX all (c.take (j+1))=jX all (c.take j)++(br all λq=>dc q a).map fO:=by
 simp_all[ah,jX]
theorem Vg {all:List Pkg}{i:Nat}(hi:i<all.length)(c:Clause):wfC all.length (-fO i::jX all c)=true:=by
 refine acu.2 λl hl=>?_
 have h:=(UZ hi c).1;refine acu.1 h l ?_;grind [yQ,zV]
theorem Xs {all:List Pkg}{i:Nat}(c:Clause)(M:Nat->Bool):yX M (-fO i::jX all c)=yX M (yQ all i c):=OV λl=>by
 simp[yQ,zV]
def XN (n sid:Nat):Option bH:=some (.cells 188 [.agg 188 [.int .i64 n,.ptr 248 sid 0 []]])
structure jR (τ st:ab)(aid sid n:Nat)(cv:AV)(cls:List (List Int)):Prop where
 ext:Ext τ st
 alo:τ.length<=aid
 slo:τ.length<=sid
 ao:st[aid]?=some (XN n sid)
 so:st[sid]?=some (vT n cv)
 bld:Bld st cv 191 (cls.map fG)
 clo: ∀j∈aN cv,τ.length<=j
 ok:W2 n cls
theorem jR.more {τ st:ab}{aid sid n:Nat}{cv:AV}{cls:List (List Int)}(h:jR τ st aid sid n cv cls)(l:ab):jR τ (st++l) aid sid n cv cls:=by
 have old: ∀j,j<st.length->(st++l)[j]?=st[j]?:=λj hj=>acm hj
 exact⟨h.ext.app l,h.alo,h.slo,by grind [jR.ao],by grind [jR.so],h.bld.keep λj hj=>old j (h.bld.lt j hj),h.clo,h.ok⟩
theorem jR.add {τ st st':ab}{aid sid n:Nat}{cv cv':AV}{cls cls':List (List Int)}{c:List Int}(h:jR τ st aid sid n cv cls)(hf:Fr (sid::aN cv) st st')(hs:st'[sid]?=some (vT n cv'))(hb:Bld st' cv' 191 (cls'.map fG))(hft: ∀j∈aN cv',j∈aN cv\/st.length<=j)
  (hl:cls'.length<=5000) (hd: ∀d∈cls',d∈cls\/(d≠[]/\d.length<=c.length/\ ∀l,l∈d↔l∈c)) (hw:wfC n c=true) (hc:c.length<=1048576):jR τ st' aid sid n cv' cls':=by
 have hx:=h.ext.le;have ne:aid≠sid:=λe=>by have:=h.ao;rw[e,h.so]at this;grind [XN,vT]
 refine⟨hf.tM h.ext λj hj=>?_,h.alo,h.slo,?_,hs,hb,λj hj=>?_,⟨h.ok.small,hl,λd hdm=>?_⟩⟩
 .rcases acQ.1 hj with rfl|hj
  .exact h.slo
  .exact h.clo j hj
 .rw[hf.old aid (acf.1 h.ao).1 (by simp[ne,h.bld.ne h.ao]),h.ao]
 .rcases hft j hj with h1|h1
  .exact h.clo j h1
  .omega
 .rcases hd d hdm with h1|⟨h1,h2,h3⟩
  .exact h.ok.wf d h1
  .refine⟨h1,by omega,λl hl=>?_⟩;exact Uv.1 (acu.1 hw l ((h3 l).1 hl))
theorem Ns (σ:ab)(all:List Pkg)(hp: ∀p∈all,iT p):
  aP prog W0 73 [aL all] σ λr σ'=>Ext σ σ'/\
   ((aZ all≠0/\r= .tup [.nil,.int .i64 (aZ all)])\/(aZ all=0/\all≠cO all/\r= .tup [.nil,.int .i64 1])\/
    (aZ all=0/\all=cO all/\ ∃cls,r= .tup [abz all.length cls,.int .i64 0]/\W2 all.length cls/\ ∀M,ie M cls=ie M (uj all 0 all))):=by
 refine jH [.tmp 2,.tmp 3] [8,13,17,2000036,2000037,2000038,2000006,2000122] func73 rfl rfl ntmps73 rfl rfl λhs=>?_
 simp only[go_sem,simprocAttr];refine aj.fn (sA all hp) ?_;by_cases h0:aZ all=0
 .rw[if_pos h0];simp only[go_sem,simprocAttr];refine aj.fn (Ho all h0) ?_;simp only[go_sem,simprocAttr];refine⟨λhne=>cW.ret ?_,λhe=>?_⟩
  .simp only[go_sem,simprocAttr];exact⟨_,.refl _,.refl _,.inr (.inl ⟨h0,hne,rfl⟩)⟩
  rw[<-he];have h24:=dF h0;have hm:=λp hp=>dz (dT h0 (p:=p) hp)
  simp only[go_sem,simprocAttr,aL,acg];refine aj.goes (by simp only[go_sem,simprocAttr]) (Xw σ all.length (by omega)) λr σ1 ⟨hr,hσ⟩=>?_
  subst hr hσ;simp only[go_sem,simprocAttr,acg];have a0:jR σ (σ++[vT all.length .aq,XN all.length σ.length]) (σ.length+1) σ.length all.length .aq []:=
   ⟨(Ext.refl _).app _,by omega,acs _,by simp,by simp,.inl ⟨rfl,rfl⟩,by simp[aN],⟨by omega,by simp,by simp⟩⟩
  refine ae.at [6] (λA=>∃ cv cls,jR σ A.st (σ.length+1) σ.length all.length cv cls/\ ∀M,ie M cls=ie M (uj all 0 all)) ?_ λB ⟨cv,cls,ha,hM⟩=>?_
  .refine ae.upto [0,4,6,39,40] all.length (λi A=>A.env 41= .int .i64 i/\ ∃cv cls,jR σ A.st (σ.length+1) σ.length all.length cv cls/\(∀M,ie M cls=ie M (uj all 0 (all.take i)))/\cls.length<=i*60) 0 (aci _) ?_ λi B hi ⟨h41,cv,cls,ha,hM,hcl⟩=>?_
   .simp only[go_sem,simprocAttr];exact⟨.aq,[],a0,λM=>rfl,by simp⟩
   simp only[go_sem,simprocAttr,h41,acg];refine⟨λhlt=>?_,λhge=>?_⟩
   .obtain⟨p,hpi⟩:=get_some hlt;have hpm:=wV (dT h0 (ach hpi));have hpg:=hm p (ach hpi);simp only[aw hpi];simp only[go_sem,simprocAttr,ay];refine⟨hlt,aj.fn ((Ax [p.pre,p.dep] (by simp) (by grind)).bS (.cons (.lit _ _) .nil)) ?_⟩;have efl:[p.pre,p.dep].flatten=p.pre++p.dep:=by simp
    rw[efl];have hpl2:(p.pre++p.dep).length<=24:=by grind
    have hgd: ∀c∈p.pre++p.dep,c.length<=6:=λc hc=>by
     grind [BG,ux.pre,ux.dep]
    generalize hD:p.pre++p.dep=D at hpl2 hgd ⊢;clear efl;have hwn:IntKind.i64.wrap (-(((i+1:Nat):Int)))= -fO i:=by rw[aJ (by omega)];rfl
    have hws:IntKind.i64.wrap ((i:Int)+1)=((i+1:Nat):Int):=by grind [aJ]
    simp only[go_sem,simprocAttr,aB,acg];refine ae.at [0,4,6,7,8,39,40,41] (λA=>∃ cv cls',jR σ A.st (σ.length+1) σ.length all.length cv cls'/\(∀M,ie M cls'=(ie M (uj all 0 (all.take i))&&ie M (D.map (yQ all i))))/\cls'.length<=i*60+24) ?_ λB2 ⟨cv2,cls2,ha2,hM2,hcl2⟩=>?_
    .refine ae.upto [0,4,6,7,8,39,40,41,51,52] D.length (λj A=>A.env 53= .int .i64 j/\ ∃cv cls',jR σ A.st (σ.length+1) σ.length all.length cv cls'/\(∀M,ie M cls'=(ie M (uj all 0 (all.take i))&&ie M ((D.take j).map (yQ all i))))/\cls'.length<=i*60+j) 0 (aci _) ?_ λj B2 hj ⟨h53,cv2,cls2,ha2,hM2,hcl2⟩=>?_
     .simp only[go_sem,simprocAttr];exact⟨cv,cls,ha.more _,λM=>by grind [ie],by omega⟩
     simp only[go_sem,simprocAttr,h53,acg];refine⟨λhlt2=>?_,λhge2=>?_⟩
     .obtain⟨c,hc⟩:=get_some hlt2;have hc6:=hgd c (ach hc);simp only[aw hc];simp only[go_sem,simprocAttr,hws,hwn,acg,aF];refine⟨hlt2,?_⟩;refine ae.at [0,4,6,7,8,39,40,41,51,52,53] (λA=>∃ v,A.env 11=v/\aH B2.st A.st v 190 ((-fO i::jX all c).map (.int .i64))) ?_ λB3 ⟨v,h11,hv⟩=>?_
      .refine ae.upto [0,4,6,7,8,39,40,41,51,52,53,61,62] c.length (λk A=>A.env 63= .int .i64 k/\ ∃v,A.env 11=v/\aH B2.st A.st v 190 ((-fO i::jX all (c.take k)).map (.int .i64))) 0 (aci _) ?_ λk B3 hk ⟨h63,v,h11,hv⟩=>?_
       .simp only[go_sem,simprocAttr];exact⟨_,rfl,⟨.inr (.inl rfl),.refl _,λt h=>by cases h⟩⟩
       simp only[go_sem,simprocAttr,h63,h11,acg];refine⟨λhlt3=>⟨hlt3,?_⟩,λhge3=>?_⟩
       .obtain⟨a,hq⟩:=get_some hlt3;simp only[aw hq];simp only[go_sem,simprocAttr];refine aj.fn (Ec all (by omega) a) ?_;have hpl:=lB all λq=>dc q a
        have hlm:=sn all (c.take k);rw[List.length_take]at hlm;have hlm2:(jX all (c.take k)).length<=144:=acC hlm (acO (show min k c.length<=6 by omega) h24);simp only[go_sem,simprocAttr,nN,acg];refine ae.ats [0,4,6,7,8,39,40,41,51,52,53,61,62,63] (λA=>∃ v,A.env 11=v/\aH B2.st A.st v 190 ((-fO i::jX all (c.take (k+1))).map (.int .i64))) ?_ λB4 ⟨v,h11,hv⟩=>?_
        .refine ae.upto [0,4,6,7,8,39,40,41,51,52,53,61,62,63,69,70] (br all λq=>dc q a).length (λm A=>A.env 71= .int .i64 m/\ ∃v,A.env 11=v/\aH B2.st A.st v 190 ((-fO i::(jX all (c.take k)++(((br all λq=>dc q a)).take m).map fO)).map (.int .i64))) 0 (aci _) ?_ λm B4 hm ⟨h71,v,h11,hv⟩=>?_
         .simp only[go_sem,simprocAttr];grind [aH.more]
         simp only[go_sem,simprocAttr,h71,h11,acg,hv.ok,hv.un];refine⟨λhlt4=>⟨hlt4,?_⟩,λhge4=>?_⟩
         .obtain⟨x,hx⟩:=get_some hlt4;have hxl:=kC (ach hx);have hwx:IntKind.i64.wrap ((x:Int)+1)=fO x:=by rw[aJ (by omega)];rfl
          simp only[aw hx];simp only[go_sem,simprocAttr,hwx];refine bq.own 1048576 (by kernel_rfl) hv.bld (.lit _ _ _) (by grind) λv' σ' ha'=>?_
          have hv':=hv.app ha';simp only[go_sem,simprocAttr,h71];refine⟨hlt4,ag hlt4 (by grind [au]),_,rfl,?_⟩;rw[ah hx];grind
         grind [JP]
        simp only[go_sem,simprocAttr,h63,h11];grind [ag,au]
       grind
      have ha3:jR σ B3.st (σ.length+1) σ.length all.length cv2 cls2:=by rw[hv.ext.eq];exact ha2.more _
      have k1:=Vg hlt c;have k2:=sn all c;have k3:(jX all c).length<=144:=acC k2 (acO hc6 h24);simp only[go_sem,simprocAttr,h11,hv.ok,hv.un,ak ha3.ao];refine aj.goes (by simp only[go_sem,simprocAttr]) ((Kb B3.st σ.length all.length cv2 cls2 ha3.so ha3.bld (by omega) (by omega) (-fO i::jX all c) k1 (by simp) (by grind)).bS (.cons (.refl _) (.cons hv.bS .nil))) λr σ4 ⟨hr,hf,cv4,cls4,hso,hbl,hft,hM4,hcl4,hd4⟩=>?_
      have ha4:=ha3.add hf hso hbl hft (by omega) hd4 k1 (by grind);simp only[go_sem,simprocAttr,h53];refine⟨hlt2,ag hlt2 (by grind [au]),cv4,cls4,ha4,λM=>?_,by omega⟩;rw[hM4,hM2,Xs,ah hc,acn,wa,acP];simp[ie]
     .rw[acj hge2]at hM2;exact⟨cv2,cls2,ha2,hM2,by omega⟩
    simp only[go_sem,simprocAttr,acg];have hil2:(all.take i).length=i:=by grind
    rw[<-acH];refine⟨⟨aci _,hi⟩,?_⟩;refine ae.ats [0,4,6,39,40,41] (λA=>∃ cv cls',jR σ A.st (σ.length+1) σ.length all.length cv cls'/\(∀M,ie M cls'=ie M (uj all 0 (all.take (i+1))))/\cls'.length<=i*60+24+i) ?_ λB5 ⟨cv5,cls5,ha5,hM5,hcl5⟩=>?_
    .refine ae.upto [0,4,6,7,8,39,40,41,91,92] i (λk A=>A.env 93= .int .i64 k/\ ∃cv cls',jR σ A.st (σ.length+1) σ.length all.length cv cls'/\(∀M,ie M cls'=(ie M cls2&&ie M (Bb p i 0 ((all.take i).take k))))/\cls'.length<=i*60+24+k) 0 (aci _) ?_ λk B6 hk ⟨h93,cv6,cls6,ha6,hM6,hcl6⟩=>?_
     .simp only[go_sem,simprocAttr];grind [Bb,ie]
     simp only[go_sem,simprocAttr,h93,acg];refine⟨λhlt6=>⟨hlt6,?_⟩,λhge6=>?_⟩
     .obtain⟨q,hq⟩:=get_some hlt6;simp only[aw hq];simp only[go_sem,simprocAttr,ay];refine aD.fnG (λ_=>Ep p q) ?_;have hcs:=AF (p:=p) (i:=i) (all.take i) 0 k q hq;rw[aco]at hcs;have hki:k<i:=by omega
      have hwk:IntKind.i64.wrap ((k:Int)+1)=((k+1:Nat):Int):=by grind [aJ]
      have hwkn:IntKind.i64.wrap (-(((k+1:Nat):Int)))= -fO k:=by rw[aJ (by omega)];rfl
      simp only[go_sem,simprocAttr,h93];refine⟨λhb=>?_,λhb=>?_⟩
      .have ha7:=ha6.more [none];obtain⟨w1,w2⟩:=UC hlt hki;simp only[go_sem,simprocAttr,ak ha7.ao,hws,hwn,hwk,hwkn];refine aj.goes (by simp only[go_sem,simprocAttr]) ((Kb (B6.st++[none]) σ.length all.length cv6 cls6 ha7.so ha7.bld (by omega) (by omega) [-fO i,-fO k] w1 (by simp) (by simp)).bS (.cons (.refl _) (.cons (.lit _ _) .nil))) λr σ8 ⟨hr,hf,cv8,cls8,hso,hbl,hft,hM8,hcl8,hd8⟩=>?_
       have ha8:=ha7.add hf hso hbl hft (by omega) hd8 w1 (by simp);simp only[go_sem,simprocAttr,h93];grind [ie]
      .refine⟨by omega,ag hki (by grind [au]),cv6,cls6,ha6.more _,λM=>?_,by omega⟩;grind
     .rw[acj hge6]at hM6;refine⟨cv6,cls6,ha6,λM=>?_,by omega⟩;rw[hM6,hM2,Aq all all 0 i p hpi,wa,Xt,wa,aco,hD,acP]
    simp only[go_sem,simprocAttr,h41];grind
   grind
  simp only[go_sem,simprocAttr];have hsl:=(acf.1 ha.so).1;have hcl:=(acf.1 ha.ao).1;have hsub:Sub (.agg 248 [.int .i64 all.length,cv]) (.agg 248 [.int .i64 all.length,FR cls]):=by
   refine .agg rfl λi x y hx hy=>?_
   match i with
   |0=>cases hx;cases hy;exact .refl _
   |1=>
    cases hx;cases hy;rcases ha.bld with⟨rfl,h⟩|rfl|⟨t,rfl,_⟩
    .unfold FR;rw[h];exact .aq _
    .exact .lit _ _
    .exact .own _ _ _
   |i+2=>simp at hx
  refine cW.via (.inl rfl) (.bS σ.length 0 (zs:=[.agg 248 [.int .i64 all.length,cv]]) (z':=.agg 248 [.int .i64 all.length,FR cls]) (by simp only[go_sem,simprocAttr];exact ha.so) rfl hsub
   (.KZ (σ.length+1) 0 [1] (te:=188) (t':=248) (t:=185) (o:=1) (id:=σ.length) (zs:=[.agg 188 [.int .i64 all.length,.ptr 248 σ.length 0 []]]) (x:=.agg 248 [.int .i64 all.length,FR cls]) (by simp only[go_sem,simprocAttr];rw[acp (by omega)];exact ha.ao) rfl rfl (by simp only[go_sem,simprocAttr];grind) (by omega) (by kernel_rfl)
    (.pt 2 (t:=188) (id:=σ.length+1) (x:=.agg 188 [.int .i64 all.length,UX all.length cls]) (by simp only[go_sem,simprocAttr]) (by simp only[go_sem,simprocAttr];rw[ack (by grind)];rfl) (.refl _)))) ?_
  simp only[go_sem,simprocAttr];refine⟨_,.refl _,by grind,?_,.inr (.inr ⟨h0,cls,rfl,ha.ok,hM⟩)⟩;grind [Ext.set,jR.ext]
 .rw[if_neg h0];simp only[go_sem,simprocAttr];refine⟨λ_=>cW.ret ?_,λh=>absurd h h0⟩;simp only[go_sem,simprocAttr];exact⟨_,.refl _,.refl _,.inl ⟨h0,rfl⟩⟩
end Go.Proofs.Tryz
end
section
namespace Go.Av
theorem mR {l:List Nat}(h: ∀i∈l,i<32):bZ l<4294967296:=by
 induction l with
 |nil=>decide
 |cons a r ih=>
  have h1:2^a<2^32:=acv (by decide) (h a (by simp));have h2:bZ r<2^32:=ih λi hi=>h i (by simp[hi])
  exact acL h1 h2
theorem oq {i:Nat}(h:i<32):2^i<4294967296:=by
 have h1:2^i<2^32:=acv (by decide) h;omega
theorem T9 {a b:Nat}(h1:a<4294967296)(h2:b<4294967296):a ||| b<4294967296:=acL (n:=32) h1 h2
theorem zM {n:Nat}{f:Nat->Bool}(h:n<=32):bitsOf n f<4294967296:=mR λi hi=>by
 grind
theorem sr (l:List Nat)(x:Nat):bZ (l++[x])=bZ l ||| 2^x:=by
 refine acw λi=>?_
 grind [dd]
theorem Pz (all:List Pkg):gl all []=0:=by
 refine acw λi=>?_
 grind [gl,iJ,xw]
end Go.Av
end
section
namespace Go.Proofs.Tryz
open Go Go.Av
set_option maxRecDepth 10000
variable {W0 :World}
theorem M3 (all:List Pkg)(c:Clause)(a:Atom):gl all (c++[a])=gl all c ||| bZ (br all λq=>dc q a):=by
 refine acw λi=>?_
 unfold gl;rw[Nat.testBit_or,iJ,iJ,dd,acN];grind [br,plB,xw]
def cL (n:Nat):AV:=.int .u32 (n:Nat)
def fo (l:List Nat):AV:=.sl 148 (l.map cL)
@[go_sem] theorem aa4 (gd:Option Bool)(l:List Nat):okM gd (fo l)=True:=eq_true trivial
@[go_sem] theorem aam (l:List Nat):unm (fo l)=fo l:=rfl
theorem vS (l:List Nat):aW 0 (fo l):=.sl λx hx=>by
 obtain⟨y,_,rfl⟩:=acM.1 hx;exact .int _ _
theorem KE (all:List Pkg)(h24:all.length<=24)(l:List Clause)(hl:l.length<=1048576):ai prog W0 145 [fq all,aB l] (fo (l.map (gl all))):=by
 refine an [4] [10] func145 rfl rfl ntmps145 rfl rfl (vS _) λhs σ=>?_
 have hcs: ∀c∈l,Small (aF c):=λc hc=>(aQ (hs _ (List.mem_cons_of_mem _ (acx ..)))).2 c hc
 simp only[go_sem,simprocAttr,aB,acg];refine ae.at [] (λA=>∃ v,A.env 5=v/\aH σ A.st v 148 ((l.map (gl all)).map cL)) ?_ λB ⟨v,h5,hb⟩=>?_
 .refine ae.upto [0,13,14] l.length (λi A=>∃ v,A.env 5=v/\A.env 15= .int .i64 i/\aH σ A.st v 148 (((l.take i).map (gl all)).map cL)) 0 (aci _) ?_ λi B hi ⟨v,h5,h15,hb⟩=>?_
  .simp only[go_sem,simprocAttr];simp[aH.nil,Ext.refl]
  simp only[go_sem,simprocAttr,h5,h15,acg];refine⟨λhlt=>⟨hlt,?_⟩,λhlt=>?_⟩
  .obtain⟨c,hc⟩:=get_some hlt;simp only[aw hc];simp only[go_sem,simprocAttr,aF,acg];have hcl:c.length<=maxLen:=(aQ (hcs c (ach hc))).1;refine ae.at [0,5,13,14,15] (λA=>A.env 8=cL (gl all c)/\aH σ A.st v 148 (((l.take i).map (gl all)).map cL)) ?_ λB2 ⟨h8,hb2⟩=>?_
   .refine ae.upto [0,5,13,14,15,19,20] c.length (λj A=>A.env 21= .int .i64 j/\A.env 8=cL (gl all (c.take j))/\aH σ A.st v 148 (((l.take i).map (gl all)).map cL)) 0 (aci _) ?_ λj B2 hj ⟨h21,h8,hb2⟩=>?_
    .simp only[go_sem,simprocAttr];exact⟨by rw[List.take_zero,Pz];rfl,hb⟩
    simp only[go_sem,simprocAttr,h21,h8,acg];refine⟨λhlt2=>⟨hlt2,?_⟩,λhlt2=>⟨by grind,hb2⟩⟩;obtain⟨a,ha⟩:=get_some hlt2;simp only[aw ha];simp only[go_sem,simprocAttr];refine aj.fn (Ec all (by omega) a) ?_;simp only[go_sem,simprocAttr,nN,acg];refine ae.ats [0,5,13,14,15,19,20,21] (λA=>A.env 8=cL (gl all (c.take (j+1)))/\aH σ A.st v 148 (((l.take i).map (gl all)).map cL)) ?_ λB3 ⟨h8,hb3⟩=>?_
    .refine ae.upto [0,5,13,14,15,19,20,21,27,28] (br all λq=>dc q a).length (λm A=>A.env 29= .int .i64 m/\A.env 8=cL (gl all (c.take j) ||| bZ ((br all λq=>dc q a).take m))/\aH σ A.st v 148 (((l.take i).map (gl all)).map cL)) 0 (aci _) ?_ λm B3 hm ⟨h29,h8,hb3⟩=>?_
     .simp only[go_sem,simprocAttr];grind [bZ,aH.more]
     unfold cL at h8;simp only[go_sem,simprocAttr,h29,h8,acg];have hpl:=lB all λq=>dc q a
     refine⟨λhlt3=>⟨hlt3,?_⟩,λhlt3=>⟨?_,hb3⟩⟩
     .obtain⟨x,hx⟩:=get_some hlt3;have hxl:=kC (ach hx);simp only[aw hx];simp only[go_sem,simprocAttr];refine aj.fn (sd x (by omega)) ?_;have hm1:bZ ((br all λq=>dc q a).take m)<4294967296:=mR λy hy=>by
       have:=kC (acG hy);omega
      have hor:=jN (gl all (c.take j) ||| bZ ((br all λq=>dc q a).take m)) (2^x) (T9 (zM (by omega)) hm1) (oq (by omega));simp only[go_sem,simprocAttr,h29,hor];refine⟨hlt3,ag hlt3 (by grind [au]),?_,hb3⟩;rw[ah hx,sr,Nat.or_assoc];rfl
     simp_all[ah,M3,acj]
    simp only[go_sem,simprocAttr,h21,h8];grind [ag]
   unfold cL at h8;simp only[go_sem,simprocAttr,h5,h8,hb2.ok,hb2.un];refine bq.own 1048576 (by kernel_rfl) hb2.bld (.lit _ _ _) (by grind) λv' σ' ha'=>?_
   have hb':=hb2.app ha';simp only[go_sem,simprocAttr,h15];refine⟨hlt,_,rfl,ag hlt (by grind [au]),?_⟩;simp_all[ah]
  grind
 simp only[go_sem,simprocAttr,h5];exact⟨hb.bS,hb.ext⟩
end Go.Proofs.Tryz
end
section
namespace Go.Av
open Go
theorem Bld.ixV {P:Program}{st:ab}{v x:AV}{e:TypeId}{xs:List AV}{i:Nat}(h:Bld st v e xs)(hx:xs[i]?=some x)(t:TypeId):fj P t (i:Int) v= .loc e x:=by
 rcases h with⟨rfl,rfl⟩|rfl|⟨tok,rfl,_⟩
 .simp at hx
 .show AV.loc e (atV xs i)=_;grind [atV]
 .show AV.loc e (atV xs i)=_;grind [atV]
theorem Bld.ixC {P:Program}{st σ:ab}{v x:AV}{e:TypeId}{xs:List AV}{i:Nat}(h:Bld st v e xs)(hx:xs[i]?=some x)(t:TypeId)(gd:Option Bool):fe P gd σ t (i:Int) v=(elT P t=some e/\0<af P e/\imp gd (0<=(i:Int)/\(i:Int).toNat<xs.length)):=by
 rcases h with⟨rfl,rfl⟩|rfl|⟨tok,rfl,_⟩
 .simp at hx
 .rfl
 .rfl
end Go.Av
end
section
namespace Go.Proofs.Tryz
open Go Go.Av
set_option maxRecDepth 10000
set_option maxHeartbeats 1000000
variable {W0 :World}
variable {a0 a1 a3 a4 a5 a6 a7 a8 a9 a10 a11 a12:AV}
theorem Lc (f:Nat->Bool)(k:Nat):bitsOf (k+1) f=if f k=true then bitsOf k f ||| 2^k else bitsOf k f:=by
 grind [bitsOf,List.range_succ,sr]
def E0 (s:List aA)(p:Pkg):Bool:=match cF s p.name with
 |some x=>!bt x.pkg.ver p.ver
 |none=>false
def iC (all:List Pkg)(s:List aA)(l:List aM)(i:Nat)(p:Pkg):AV:=.agg 150 [.bool (oe l s p),cL (iD all i),fo ((p.pre++p.dep).map (gl all)),fo (p.rcm.map (gl all)),.int .i64 (dG all p),.bool (E0 s p)]
theorem Tv (all:List Pkg)(s:List aA)(l:List aM)(i:Nat)(p:Pkg):aW 0 (iC all s l i p):=.agg λx hx=>by
 simp only[acQ,List.not_mem_nil,or_false]at hx;rcases hx with rfl|rfl|rfl|rfl|rfl|rfl
 .exact .bool _
 .exact .int _ _
 .exact vS _
 .exact vS _
 .exact .int _ _
 .exact .bool _
theorem Sx (σ:ab)(id:Nat)(all:List Pkg)(l:List aM)(s:List aA)(i:Nat)(p:Pkg)(hi:all[i]?=some p)(h24:all.length<=24)(hp12:p.pre.length<=12/\p.dep.length<=12)(hr12:p.rcm.length<=12)(hm: ∀x∈s,aS x.pkg=0)(hs1:s.length<=1024)(hl:l.length<=1024)(hb:Bld σ a0 51 (all.map ay))(hid:σ[id]?=some (cT a0 (aK s) (bC l) a3 a4 a5 a6 a7 a8 a9 a10 a11 a12)):
  aP prog W0 84 [.ptr 143 id 0 [],fq all,.int .i64 i] σ λr σ'=>r=iC all s l i p/\σ'=σ:=by
 have hidl:=(acf.1 hid).1;have hil:=(acf.1 hi).1;have hmo: ∀τ,(σ++τ)[id]?=some (cT a0 (aK s) (bC l) a3 a4 a5 a6 a7 a8 a9 a10 a11 a12):=λτ=>by grind
 have hpc:=Ax (W0:=W0) [p.pre,p.dep] (by simp) (by grind);have efl:[p.pre,p.dep].flatten=p.pre++p.dep:=by simp
 rw[efl]at hpc;refine CB [.cell 6 150] [7,10,2000008,4000002,4000007,4000010] func84 rfl rfl ntmps84 rfl rfl (fk (aci _) (Tv _ _ _ _ _)) λhs=>?_
 have hid0:=λτ=>hmo τ
 unfold cT at hid0;have hix:(all.map ay)[i]?=some (ay p):=by simp_all
 simp only[go_sem,simprocAttr,ak (hid0 _),hb.ok,hb.un,hb.ixV hix,hb.ixC hix,acg];refine⟨hil,?_⟩;have hnw:=QZ (W0:=W0) p all (by omega);unfold ay at hnw;simp only[go_sem,simprocAttr,ay];refine⟨.of (by kernel_rfl),aD.fn (hpc.bS (.cons (.lit _ _) .nil)) ?_⟩;simp only[go_sem,simprocAttr];refine aD.fn (KE all h24 (p.pre++p.dep) (by grind)) ?_;simp only[go_sem,simprocAttr];refine aD.fn (KE all h24 p.rcm (by omega)) ?_;simp only[go_sem,simprocAttr,ak (hid0 _),hb.ok,hb.un];refine aD.fn (hnw.bS (.cons (.refl _) (.cons hb.bS .nil))) ?_;have hfs: ∀l,bb prog 140 (fo l)=true:=λl=>by kernel_rfl
 have hf1:=λl=>hfs l
 unfold fo at hf1;generalize hN:fo ((p.pre++p.dep).map (gl all))=vN;generalize hW:fo (p.rcm.map (gl all))=vW;have n1:df vN:=by rw[<-hN];trivial
 have n2:df vW:=by rw[<-hW];trivial
 have f1:bb prog 140 vN=true:=by grind
 have f2:bb prog 140 vW=true:=by grind
 simp only[go_sem,simprocAttr,ak (hid0 _),hb.ok,hb.un,cr n1,cr n2,cX n1,cX n2,f1,f2,hb.len,hb.gn,acg];generalize hst0:(σ++[some (bH.cells 150 [.agg 150 [.bool false,.int .u32 0,.aq,.aq,.int .i64 0,.bool false]]),none,some (bH.cells 150 [.agg 150 [.bool false,.int .u32 0,vN,vW,.int .i64 (dG all p),.bool false]])])=st0;refine ae.at [0,1,6,7,8] (λA=>∃ τ:ab,A.st=σ++τ/\A.st[σ.length]?=some (some (.cells 150 [.agg 150 [.bool false,.int .u32 0,.aq,.aq,.int .i64 0,.bool false]]))/\A.st[σ.length+2]?=some (some (.cells 150 [.agg 150 [.bool false,cL (iD all i),vN,vW,.int .i64 (dG all p),.bool false]]))) ?_ λB ⟨τ,hst,c1,c2⟩=>?_
 .refine ae.upto [0,1,6,7,8,42,43] all.length (λk A=>A.env 44= .int .i64 k/\ ∃τ:ab,A.st=σ++τ/\A.st[σ.length]?=some (some (.cells 150 [.agg 150 [.bool false,.int .u32 0,.aq,.aq,.int .i64 0,.bool false]]))/\A.st[σ.length+2]?=some (some (.cells 150 [.agg 150 [.bool false,cL (bitsOf k (jr all i)),vN,vW,.int .i64 (dG all p),.bool false]]))) 0 (aci _) ?_ λk B hk ⟨h44,τ,hst,c1,c2⟩=>?_
  .simp only[go_sem,simprocAttr];refine⟨_,hst0.symm,by grind,by rw[<-hst0];simp;rfl⟩
  simp only[go_sem,simprocAttr,h44];refine⟨λhlt=>?_,λhge=>?_⟩
  .obtain⟨q,hq⟩:=get_some hlt;have hixq:(all.map ay)[k]?=some (ay q):=by simp_all
   have hcl:=Ep (W0:=W0) p q;have hca:jr all i k=fR p q:=by grind [jr]
   unfold ay at hcl hixq;simp only[go_sem,simprocAttr,hb.ok,hb.un,hb.ixV hixq,hb.ixC hixq,acg];have hl0:σ.length<B.st.length:=(acf.1 c1).1;have hl2:σ.length+2<B.st.length:=(acf.1 c2).1;have d1:(B.st++[none])[σ.length]?=some (some (.cells 150 [.agg 150 [.bool false,.int .u32 0,.aq,.aq,.int .i64 0,.bool false]])):=by simp_all
   have d2:(B.st++[none])[σ.length+2]?=some (some (.cells 150 [.agg 150 [.bool false,.int .u32 (bitsOf k (jr all i):Nat),vN,vW,.int .i64 (dG all p),.bool false]])):=by rw[acm hl2];exact c2
   have hst':B.st++[none]=σ++(τ++[none]):=by simp_all
   have hor:=jN (bitsOf k (jr all i)) (2^k) (zM (by omega)) (oq (by omega));have hsu:=Lc (jr all i) k;rw[hca]at hsu;refine⟨hlt,aj.fn hcl ?_⟩;simp only[go_sem,simprocAttr,h44];refine⟨λhc=>?_,λhc=>?_⟩
   .rw[if_pos hc]at hsu;simp only[go_sem,simprocAttr,ak d2];refine⟨.of (by kernel_rfl),aD.fn (sd k (by omega)) ?_⟩;simp only[go_sem,simprocAttr,h44,ak d2,aC d2,hor];refine⟨hlt,ag hlt (by grind [au]),(τ++[none]).set 2 (some (.cells 150 [.agg 150 [.bool false,.int .u32 ((bitsOf k (jr all i) ||| 2^k:Nat):Int),vN,vW,.int .i64 (dG all p),.bool false]])),?_,?_,?_⟩
    .simp_all
    .simp_all
    .rw[ack (by grind),hsu];rfl
   grind [ag,au]
  .have e:k=all.length:=by omega
   subst e;exact⟨τ,hst,c1,c2⟩
 have hl0:σ.length<B.st.length:=(acf.1 c1).1;have hl2:σ.length+2<B.st.length:=(acf.1 c2).1;have hidB:B.st[id]?=some (cT a0 (aK s) (bC l) a3 a4 a5 a6 a7 a8 a9 a10 a11 a12):=by simp_all
 have hidB0:=hidB;unfold cT at hidB0;have hidl2:id<σ.length:=hidl;have c2':=c2;unfold cL at c2';have hmay:=λ(st':ab) (h:st'[id]?=some (cT a0 (aK s) (bC l) a3 a4 a5 a6 a7 a8 a9 a10 a11 a12))=>Ya (W0:=W0) st' id l s p hm hs1 hl h
 unfold ay at hmay;simp only[go_sem,simprocAttr,ak hidB0];refine⟨.of (by kernel_rfl),aD.fn (nE s p.name) ?_⟩;rcases dO (λx:aA=>x.pkg.name==p.name) s with⟨hi2,hall⟩|⟨m,x,hx,hqx,hbef,hi2⟩
 .have hcg:E0 s p=false:=by
   grind [E0,cF]
  rw[hi2];simp only[go_sem,simprocAttr];refine⟨.of (by kernel_rfl),aD.fnG (r:=.bool false) (λh=>(Bool.false_ne_true h).elim) ?_⟩;simp only[go_sem,simprocAttr,ak c2',aC c2'];refine aj.reads (by simp only[go_sem,simprocAttr]) (hmay (B.st.set (σ.length+2) (some (.cells 150 [.agg 150 [.bool false,.int .u32 (iD all i:Nat),vN,vW,.int .i64 (dG all p),.bool (false)]]))) (by simp_all)) ?_;simp only[go_sem,simprocAttr,cU hl2,eg hl2];have e0:(B.st.set (σ.length+2) (some (.cells 150 [.agg 150 [.bool (oe l s p),.int .u32 (iD all i:Nat),vN,vW,.int .i64 (dG all p),.bool (false)]])))[σ.length]?=some (some (.cells 150 [.agg 150 [.bool false,.int .u32 0,.aq,.aq,.int .i64 0,.bool false]])):=by simp_all
  simp only[go_sem,simprocAttr,ak e0,aC e0];refine cW.ret ?_;simp only[go_sem,simprocAttr,cU (show σ.length<(B.st.set (σ.length+2) _).length by simpa using hl0)];have hxe:Ext σ B.st:=by grind [Ext.app,Ext.refl]
  refine⟨?_,(hxe.set (by omega) _).set (acs _) _⟩;unfold iC;rw[hN,hW,hcg];exact .refl _
 .have hcg:E0 s p= !bt x.pkg.ver p.ver:=by
   unfold E0;rw[show cF s p.name=some x from js hx hqx hbef]
  have h0: ¬(m:Int)<0:=by omega
  have hml:=(acf.1 hx).1;rw[hi2,if_neg h0];simp only[go_sem,simprocAttr,ak hidB0,aK,aw hx,bf,ay,acg];refine⟨.of (by kernel_rfl),hml,aD.fnG (λ_=>nF x.pkg.ver p.ver) ?_⟩;simp only[go_sem,simprocAttr,ak c2',aC c2'];refine aj.reads (by simp only[go_sem,simprocAttr]) (hmay (B.st.set (σ.length+2) (some (.cells 150 [.agg 150 [.bool false,.int .u32 (iD all i:Nat),vN,vW,.int .i64 (dG all p),.bool (!bt x.pkg.ver p.ver)]]))) (by simp_all)) ?_;simp only[go_sem,simprocAttr,cU hl2,eg hl2];have e0:(B.st.set (σ.length+2) (some (.cells 150 [.agg 150 [.bool (oe l s p),.int .u32 (iD all i:Nat),vN,vW,.int .i64 (dG all p),.bool (!bt x.pkg.ver p.ver)]])))[σ.length]?=some (some (.cells 150 [.agg 150 [.bool false,.int .u32 0,.aq,.aq,.int .i64 0,.bool false]])):=by simp_all
  simp only[go_sem,simprocAttr,ak e0,aC e0];refine cW.ret ?_;simp only[go_sem,simprocAttr,cU (show σ.length<(B.st.set (σ.length+2) _).length by simpa using hl0)];have hxe:Ext σ B.st:=by grind [Ext.app,Ext.refl]
  refine⟨?_,(hxe.set (by omega) _).set (acs _) _⟩;unfold iC;rw[hN,hW,hcg];exact .refl _
end Go.Proofs.Tryz
end
section
namespace Go.Av
open Go
structure cM (σ st:ab)(id:Nat)(vs:List AV)(es:List TypeId)(xss:List (List AV))(mk:List AV->Option bH):Prop where
 ext:Ext σ st
 low:σ.length<=id
 at_:st[id]?=some (mk vs)
 ob: ∃te x,mk vs=some (.cells te x)
 b: ∀(k:Nat) (v:AV) (e:TypeId) (xs:List AV),vs[k]?=some v->es[k]?=some e->xss[k]?=some xs->Bld st v e xs
 f: ∀(k:Nat) (v:AV) (t:Nat),vs[k]?=some v->fI v=some t->σ.length<=t
 d: ∀(j k:Nat) (u v:AV) (t:Nat),j≠k->vs[j]?=some u->vs[k]?=some v->fI u=some t->fI v≠some t
 l1:vs.length=es.length
 l2:vs.length=xss.length
theorem Bld.jl {st:ab}{v:AV}{e:TypeId}{xs:List AV}{t:Nat}(h:Bld st v e xs)(ht:fI v=some t):st[t]?=some (some .tok):=by
 rcases h with⟨rfl,_⟩|rfl|⟨tok,rfl,h1⟩
 .cases ht
 .cases ht
 .cases ht;exact h1
theorem cM.tok {σ st:ab}{id:Nat}{vs:List AV}{es:List TypeId}{xss:List (List AV)}{mk:List AV->Option bH}(h:cM σ st id vs es xss mk){k t:Nat}{v:AV}(hv:vs[k]?=some v)(ht:fI v=some t):st[t]?=some (some .tok):=by
 have hk:=(acf.1 hv).1;have h1:=h.l1;have h2:=h.l2;obtain⟨e,he⟩:=get_some (show k<es.length by omega);obtain⟨xs,hx⟩:=get_some (show k<xss.length by omega);exact(h.b k v e xs hv he hx).jl ht
theorem cM.app {σ st st':ab}{id:Nat}{vs:List AV}{es:List TypeId}{xss:List (List AV)}{mk:List AV->Option bH}(h:cM σ st id vs es xss mk){k:Nat}{v v':AV}{e:TypeId}{zs:List AV}(hv:vs[k]?=some v)(he:es[k]?=some e)(ha:App st v e zs v' st')
  (hob: ∃te x,mk (vs.set k v')=some (.cells te x)):cM σ (st'.set id (mk (vs.set k v'))) id (vs.set k v') es (xss.set k zs) mk:=by
 have hk:=(acf.1 hv).1;have h1:=h.l1;have h2:=h.l2;have hidl:=(acf.1 h.at_).1;have hnt: ∀(j t:Nat) (u:AV),vs[j]?=some u->fI u=some t->t≠id:=λj t u hu ht e=>by
  have:=h.tok hu ht;grind [cM.at_,cM.ob]
 have hv'id: ∀t,fI v'=some t->t≠id:=λt ht e=>by
  grind [App.tok]
 have hxe:Ext σ st':=by
  unfold Ext at *;have hl:=h.ext;refine acK λi=>?_
  by_cases hi:i<σ.length
  .rw[acz hi];have hst:st[i]?=σ[i]?:=by
    have:=congrArg (·[i]?) hl;simp_all
   grind [App.old,cM.f]
  grind
 refine⟨hxe.set h.low _,h.low,ack (acJ hidl ha.len),hob,λj u e' xs hu hee hxs=>?_,λj u t hu ht=>?_,λi j u w t hne hu hw ht=>?_,by simp_all,by simp_all⟩
 .by_cases hjk:j=k
  .subst hjk;rw[ack hk]at hu;cases hu;rw[he]at hee;cases hee;rw[ack (by omega)]at hxs;cases hxs;rcases ha.bld with h3|h3|⟨t,h3,h4⟩
   .exact .inl h3
   .exact .inr (.inl h3)
   .exact .inr (.inr ⟨t,h3,by rw[acp (λe=>hv'id t (by rw[h3];rfl) e.symm)];exact h4⟩)
  .rw[acp (λe=>hjk e.symm)]at hu hxs;rcases h.b j u e' xs hu hee hxs with h3|h3|⟨t,h3,h4⟩
   .exact .inl h3
   .exact .inr (.inl h3)
   .refine .inr (.inr ⟨t,h3,?_⟩);grind [fI,App.old,cM.d]
 .by_cases hjk:j=k
  .subst hjk;rw[ack hk]at hu;cases hu;rcases ha.tok with h3|⟨t',h3,h4⟩
   .rw[h3]at ht;exact h.f j v t hv ht
   .rw[h3]at ht;cases ht;exact acC h.ext.le h4
  .rw[acp (λe=>hjk e.symm)]at hu;exact h.f j u t hu ht
 .have old: ∀(i:Nat) (u:AV) (t:Nat),vs[i]?=some u->fI u=some t->t<st.length:=λi u t hu ht=>(acf.1 (h.tok hu ht)).1
  by_cases hik:i=k
  .grind [App.tok,cM.d]
  .rw[acp (λe=>hik e.symm)]at hu;by_cases hjk:j=k
   .grind [App.tok,cM.d]
   grind [cM.d]
theorem cM.more {σ st:ab}{id:Nat}{vs:List AV}{es:List TypeId}{xss:List (List AV)}{mk:List AV->Option bH}(h:cM σ st id vs es xss mk)(τ:ab):cM σ (st++τ) id vs es xss mk:=
 ⟨h.ext.app τ,h.low,by grind [acm,cM.at_],h.ob,λk v e xs h1 h2 h3=>by
  have hb:=h.b k v e xs h1 h2 h3;grind [Bld.keep,Bld.lt],h.f,h.d,h.l1,h.l2⟩
theorem cM.put {σ st:ab}{id:Nat}{vs:List AV}{es:List TypeId}{xss:List (List AV)}{mk mk':List AV->Option bH}(h:cM σ st id vs es xss mk)(hob: ∃te x,mk' vs=some (.cells te x)):cM σ (st.set id (mk' vs)) id vs es xss mk':=by
 refine⟨h.ext.set h.low _,h.low,ack (acf.1 h.at_).1,hob,λk v e xs h1 h2 h3=>?_,h.f,h.d,h.l1,h.l2⟩;rcases h.b k v e xs h1 h2 h3 with h4|h4|⟨t,h4,h5⟩
 .exact .inl h4
 .exact .inr (.inl h4)
 .refine .inr (.inr ⟨t,h4,?_⟩);grind [cM.ob,cM.at_]
end Go.Av
end
section
namespace Go.Proofs.Tryz
open Go Go.Av
set_option maxRecDepth 10000
set_option maxHeartbeats 1000000
variable {W0 :World}
theorem V2 (p q:Pkg)(x:aA):ai prog W0 76 [ay p,.loc 53 (bf x)] (.bool (decide (p=x.pkg))):=by
 have h:=JJ (W0:=W0) p x.pkg;refine an [3] [2] func76 rfl rfl ntmps76 rfl rfl (.bool _) λhs σ=>?_
 simp only[go_sem,simprocAttr,bf];refine aj.fn h ?_;simp only[go_sem,simprocAttr]
 try exact .refl _
def fy (s:List aA)(l:List aM)(up nv:Bool)(bud:Int):List AV->Option bH
 |[v0,v3,v4,v5,v6]=>cT v0 (aK s) (bC l) v3 v4 v5 v6 (.bool up) (.bool nv) (.int .i64 bud) (.int .i64 0) (.bool false) .aq
 |_=>none
def lI :List TypeId:=[51,88,4,150,148]
def nS (all:List Pkg)(s:List aA)(l:List aM):Int:=
 if aZ all≠0 then aZ all else if all≠cO all then 1 else if bJ s≠0 then bJ s else if dH l≠0 then dH l else if (s.any λx=>!all.any λp=>decide (p=x.pkg))=true then 1 else 0
def jm (all:List Pkg)(s:List aA)(l:List aM):Bool:=l.any λa=>(a.kind==5&&(cF s a.name).isNone)||(a.kind==1&&decide ((br all λp=>p.name==a.name).length=0))
def Bn (all:List Pkg)(s:List aA)(l:List aM)(bud:Int):Option bH:=
 fy s l (eV l) (jm all s l) bud [aL all,.sl 88 ((nmB all all.length).map λn=>nN (br all λp=>p.name==n)),.sl 4 ((nmB all all.length).map λn=>.bool (ua l s n)),
  .sl 150 ((List.range all.length).map λi=>iC all s l i ((all[i]?).getD xl)),fo (s.map λx=>bZ (br all λp=>p.name==x.pkg.name))]
theorem J5 : ∀{s:List aA},k8 s=false->tH s
 |[],_,i,x,y,hx,_=>by simp at hx
 |[a],_,i,x,y,hx,hy=>by simp at hy
 |a::b::r,h,0,x,y,hx,hy=>by
  grind [k8,ew,eu,jI]
 |a::b::r,h,i+1,x,y,hx,hy=>by
  rw[k8,Bool.or_eq_false_iff]at h;exact J5 h.2 i x y (by simp_all) (by simp_all)
theorem V7 {s:List aA}(h:bJ s=0):(∀x∈s,aS x.pkg=0)/\s.length<=10/\tH s:=by
 unfold bJ at h;split at h
 .cases h
 .rename_i h1;split at h
  .omega
  .rename_i h2;split at h
   .cases h
   .rename_i h3;exact⟨λx hx=>im (acV.1 h2) _ (acM.2 ⟨x,hx,rfl⟩),by omega,J5 (by simp_all)⟩
theorem VA (l:List aM)(h0:l≠[])(hl:l.length<=1048576):ai prog W0 80 [bC l] (bC l):=by
 refine an [2] [] func80 rfl rfl ntmps80 rfl rfl (.sl λx hx=>by grind [J8]) λhs σ=>?_
 cases l with
 |nil=>simp_all
 |cons x c=>
  simp only[go_sem,simprocAttr,bC,List.map_cons];refine bq.own 1048576 (by kernel_rfl) (.inr (.inl rfl)) (.sl _ _ _) (by simp_all) λv' σ' ha'=>?_
  have hb':=(aH.app (σ:=σ) ⟨.inr (.inl rfl),.refl _,λt h=>by cases h⟩ ha');simp only[go_sem,simprocAttr];exact⟨hb'.bS,hb'.ext⟩
theorem YS (σ:ab)(all:List Pkg)(s:List aA)(l:List aM)(bud:Int)(hp: ∀p∈all,iT p)(hsp: ∀x∈s,iT x.pkg):
  aP prog W0 37 [aL all,aK s,bC l,.int .i64 bud] σ λr σ'=>Ext σ σ'/\((nS all s l≠0/\r= .tup [.nil,.int .i64 (nS all s l)])\/(nS all s l=0/\ ∃id,r= .tup [.ptr 143 id 0 [],.int .i64 0]/\σ.length<=id/\σ'[id]?=some (Bn all s l bud))):=by
 refine jH [.tmp 8,.tmp 9] [15,20,26,31,2000076,2000018,2000095,4000022,3000115,2000117,4000027,2000137,4000032,3000147,2000149,4000033] func37 rfl rfl ntmps37 rfl rfl λhs=>?_
 simp only[go_sem,simprocAttr];refine aj.goes (by simp only[go_sem,simprocAttr]) (Ns σ all hp) λr σ1 ⟨hx,hr⟩=>?_
 rcases hr with⟨h0,rfl⟩|⟨h0,h1,rfl⟩|⟨h0,h1,cls,rfl,_,_⟩
 .have hE:nS all s l=aZ all:=by grind [nS]
  simp only[go_sem,simprocAttr];refine⟨λ_=>cW.ret ?_,λh=>absurd h h0⟩;simp only[go_sem,simprocAttr];exact⟨_,.refl _,hx.le,hx,.inl ⟨by omega,by rw[hE]⟩⟩
 .have hE:nS all s l=1:=by grind [nS]
  simp only[go_sem,simprocAttr];refine cW.ret ?_;simp only[go_sem,simprocAttr];exact⟨_,.refl _,hx.le,hx,.inl ⟨by omega,by rw[hE]⟩⟩
 simp only[go_sem,simprocAttr];refine aj.fn (p0 s hsp) ?_;simp only[go_sem,simprocAttr];refine⟨λh2=>cW.ret ?_,λh2=>?_⟩
 .have hE:nS all s l=bJ s:=by grind [nS]
  simp only[go_sem,simprocAttr];exact⟨_,.refl _,hx.le,hx,.inl ⟨by omega,by rw[hE]⟩⟩
 refine aj.fn (OJ l) ?_;simp only[go_sem,simprocAttr];refine⟨λh3=>cW.ret ?_,λh3=>?_⟩
 .have hE:nS all s l=dH l:=by grind [nS]
  simp only[go_sem,simprocAttr];exact⟨_,.refl _,hx.le,hx,.inl ⟨by omega,by rw[hE]⟩⟩
 have hE:nS all s l=if (s.any λx=>!all.any λp=>decide (p=x.pkg))=true then 1 else 0:=by grind [nS]
 obtain⟨hm,GP,hrise⟩:=V7 h2;have h24:=dF h0;have hl6:l≠[]/\l.length<=6:=by
  grind [dH]
 simp only[go_sem,simprocAttr,aK,acg];refine ae.at [0,1,2,3] (λA=>Ext σ A.st/\(s.any λx=>!all.any λp=>decide (p=x.pkg))=false) ?_ λB ⟨hst,hno⟩=>?_
 .refine ae.upto [0,1,2,3,52,53] s.length (λi A=>A.env 54= .int .i64 i/\Ext σ A.st/\NoB (λx:aA=>!all.any λp=>decide (p=x.pkg)) s i) 0 (aci _) ?_ λi B hi ⟨h54,hst,hI⟩=>?_
  .simp only[go_sem,simprocAttr];grind [NoB.zero]
  simp only[go_sem,simprocAttr,h54,acg];refine⟨λhc=>⟨hc,?_⟩,λhc=>⟨hst,acy.2 λx hxm=>by grind [NoB.all]⟩⟩;obtain⟨x,hxx⟩:=get_some hc;simp only[aw hxx];have han:=WR (W0:=W0) ay df.pkg all (λp=>decide (p=x.pkg)) 76 [.loc 53 (bf x)] (λp _=>by simpa using V2 p p x);simp only[go_sem,simprocAttr,wz];refine aj.fn han ?_;simp only[go_sem,simprocAttr,h54];refine⟨λhq=>cW.ret ?_,λhq=>⟨hc,ag hc (by grind [au]),hst.app _,hI.succ hxx (by simp[hq])⟩⟩;have hE1:nS all s l=1:=by grind
  simp only[go_sem,simprocAttr];exact⟨_,.refl _,by have:=hst.le;omega,hst.app _,.inl ⟨by omega,by rw[hE1]⟩⟩
 have hE0:nS all s l=0:=by grind
 simp only[go_sem,simprocAttr];refine aj.fn (sA all hp) ?_;rw[if_pos h0,<-h1];simp only[go_sem,simprocAttr];have hso:=s7 (W0:=W0) s hm (by omega) hrise;unfold aK at hso;refine aj.fn hso ?_;simp only[go_sem,simprocAttr];refine aj.fn (VA l hl6.1 (by omega)) ?_;simp only[go_sem,simprocAttr];refine aj.fn (IQ l) ?_;simp only[go_sem,simprocAttr];have hfa:bb prog 24 (bC l)=true:=by kernel_rfl
 refine⟨hfa,aj.fn (sv all) ?_⟩;have hS0:cM σ (B.st++[fy s l (eV l) false bud [.aq,.aq,.aq,.aq,.aq]]) B.st.length [.aq,.aq,.aq,.aq,.aq] lI [[],[],[],[],[]] (fy s l (eV l) false bud):=by
  refine⟨hst.app _,hst.le,by simp,⟨_,_,rfl⟩,λk v e xs hv _ hxs=>?_,λk v t hv ht=>?_,λj k u v t _ hu _ ht=>?_,rfl,rfl⟩
  .rcases k with _|_|_|_|_|k<;>simp at hv hxs<;>subst hv hxs<;>exact .inl ⟨rfl,rfl⟩
  .rcases k with _|_|_|_|_|k<;>simp at hv<;>subst hv<;>cases ht
  .rcases j with _|_|_|_|_|j<;>simp at hu<;>subst hu<;>cases ht
 obtain⟨id,hidd⟩: ∃id,id=B.st.length:=⟨_,rfl⟩;rw[<-hidd]at hS0;rw[<-hidd];simp only[go_sem,simprocAttr];refine ae.at [2,16,18] (λA=>∃ v0,cM σ A.st id [v0,.aq,.aq,.aq,.aq] lI [all.map ay,[],[],[],[]] (fy s l (eV l) false bud)) ?_ λB2 ⟨v0,hS⟩=>?_
 .refine ae.upto [2,16,18,78] all.length (λi A=>A.env 79= .int .i64 i/\ ∃v0,cM σ A.st id [v0,.aq,.aq,.aq,.aq] lI [(all.take i).map ay,[],[],[],[]] (fy s l (eV l) false bud)) 0 (aci _) ?_ λi B2 hi ⟨h79,v0,hS⟩=>?_
  .simp only[go_sem,simprocAttr];exact⟨_,hS0⟩
  simp only[go_sem,simprocAttr,h79];refine⟨λhc=>?_,λhc=>?_⟩
  .obtain⟨p,hpi⟩:=get_some hc;have hS1:=hS.more [none];have hb0:=hS1.b 0 v0 51 _ rfl rfl rfl;have hat:=hS1.at_;unfold fy cT at hat;refine aj.fn (Py all i hpi (dT h0 (ach hpi))) ?_;have hfp:bb prog 51 (ay p)=true:=by kernel_rfl
   simp only[go_sem,simprocAttr,hfp,ak hat,hb0.ok,hb0.un];refine⟨.of (by kernel_rfl),bq.mI (σ:=B2.st++[none]) (by simp only[go_sem,simprocAttr]) 1048576 (by kernel_rfl) hb0 (.lit _ _ _) (by grind) λv' σ' ha=>?_⟩;have hat':=(cM.app hS1 (k:=0) rfl rfl ha ⟨_,_,rfl⟩);have hidσ:σ'[id]?=(B2.st++[none])[id]?:=ha.old id (acf.1 hat).1 (λe=>by grind [Bld.jl]);rw[hat]at hidσ;have hbv:=ha.bld;simp only[go_sem,simprocAttr,h79,ak hidσ,aC hidσ,hbv.ok,hbv.un,hbv.fits];refine⟨hc,ag hc (by grind [au]),v',?_⟩;have e1:(all.take (i+1)).map ay=(all.take i).map ay++[ay p]:=by rw[ah hpi,acn];rfl
   rw[e1];exact hat'
  grind
 have hb0:=hS.b 0 v0 51 _ rfl rfl rfl;have hat:=hS.at_;unfold fy cT at hat;simp only[go_sem,simprocAttr,ak hat,hb0.ok,hb0.un,hb0.len,hb0.gn,acg];obtain⟨fa,hfa2⟩: ∃fa:Nat->AV,fa=λi=>iC all s l i ((all[i]?).getD xl):=⟨_,rfl⟩
 have hm1:=λp hp=>dz (dT h0 (p:=p) hp)
 refine ae.at [2,16,18] (λA=>∃ v5,cM σ A.st id [v0,.aq,.aq,v5,.aq] lI [all.map ay,[],[],(List.range all.length).map fa,[]] (fy s l (eV l) false bud)) ?_ λB3 ⟨v5,hS⟩=>?_
 .refine ae.upto [2,16,18,103] all.length (λi A=>A.env 104= .int .i64 i/\ ∃v5,cM σ A.st id [v0,.aq,.aq,v5,.aq] lI [all.map ay,[],[],(List.range i).map fa,[]] (fy s l (eV l) false bud)) 0 (aci _) ?_ λi B3 hi ⟨h104,v5,hS⟩=>?_
  .simp only[go_sem,simprocAttr];grind
  simp only[go_sem,simprocAttr,h104];refine⟨λhc=>?_,λhc=>?_⟩
  .obtain⟨p,hpi⟩:=get_some hc;have hpg:=hm1 p (ach hpi);have hpm:=wV (dT h0 (ach hpi));have hb0:=hS.b 0 v0 51 _ rfl rfl rfl;have hb5:=hS.b 3 v5 150 _ rfl rfl rfl;have hat:=hS.at_;have hlr:=Sx (W0:=W0) B3.st id all l s i p hpi h24 hpm (by grind [ux.rcm]) hm (by omega) (by omega) hb0 hat;have hfi:iC all s l i p=fa i:=by grind
   rw[hfi]at hlr;have hff:bb prog 150 (fa i)=true:=by rw[<-hfi];kernel_rfl
   have hnf:df (fa i):=by rw[<-hfi];trivial
   unfold fy cT at hat;simp only[go_sem,simprocAttr,ak hat];refine⟨.of (by kernel_rfl),aD.st hlr ?_⟩;simp only[go_sem,simprocAttr,hb5.ok,hb5.un,cr hnf,cX hnf,hff];refine bq.mI (σ:=B3.st) (by simp only[go_sem,simprocAttr]) 1048576 (by kernel_rfl) hb5 (.lit _ _ _) (by grind) λv' σ' ha=>?_
   have hat':=(cM.app hS (k:=3) rfl rfl ha ⟨_,_,rfl⟩);have hidσ:σ'[id]?=B3.st[id]?:=ha.old id (acf.1 hat).1 (λe=>by grind [Bld.jl]);rw[hat]at hidσ;have hbv:=ha.bld;simp only[go_sem,simprocAttr,h104,ak hidσ,aC hidσ,hbv.ok,hbv.un,hbv.fits];refine⟨hc,ag hc (by grind [au]),v',?_⟩;rw[acn];exact hat'
  grind
 simp only[go_sem,simprocAttr];refine aj.fn (O4 all (by omega)) ?_;obtain⟨N,hN⟩: ∃N,N=nmB all all.length:=⟨_,rfl⟩;rw[<-hN];obtain⟨fn,hfn⟩: ∃fn:List UInt8->AV,fn=λn=>nN (br all λp=>p.name==n):=⟨_,rfl⟩
 obtain⟨fl,hfl⟩: ∃fl:List UInt8->AV,fl=λn=>.bool (ua l s n):=⟨_,rfl⟩
 have hNl:N.length<=24:=by grind [B8]
 simp only[go_sem,simprocAttr,acg];refine ae.at [2,16,18] (λA=>∃ v3 v4,cM σ A.st id [v0,v3,v4,v5,.aq] lI [all.map ay,N.map fn,N.map fl,(List.range all.length).map fa,[]] (fy s l (eV l) false bud)) ?_ λB4 ⟨v3,v4,hS⟩=>?_
 .refine ae.upto [2,16,18,122,123] N.length (λi A=>A.env 124= .int .i64 i/\ ∃v3 v4,cM σ A.st id [v0,v3,v4,v5,.aq] lI [all.map ay,(N.take i).map fn,(N.take i).map fl,(List.range all.length).map fa,[]] (fy s l (eV l) false bud)) 0 (aci _) ?_ λi B4 hi ⟨h124,v3,v4,hS⟩=>?_
  .simp only[go_sem,simprocAttr];grind
  simp only[go_sem,simprocAttr,h124,acg];refine⟨λhc=>⟨hc,?_⟩,λhc=>?_⟩
  .obtain⟨n,hn⟩:=get_some hc;simp only[aw hn];have hb3:=hS.b 1 v3 88 _ rfl rfl rfl;have hat:=hS.at_;have hof:=Rf (W0:=W0) all (by omega) n;have hff:nN (br all λp=>p.name==n)=fn n:=by rw[hfn]
   rw[hff]at hof;have hft:bb prog 88 (fn n)=true:=by rw[<-hff];kernel_rfl
   have hnf:df (fn n):=by rw[<-hff];trivial
   unfold fy cT at hat;simp only[go_sem,simprocAttr,ak hat];refine⟨.of (by kernel_rfl),aD.fn hof ?_⟩;simp only[go_sem,simprocAttr,hb3.ok,hb3.un,cr hnf,cX hnf,hft];refine bq.mI (σ:=B4.st) (by simp only[go_sem,simprocAttr]) 1048576 (by kernel_rfl) hb3 (.lit _ _ _) (by grind) λv' σ' ha=>?_
   have hS2:=(cM.app hS (k:=1) rfl rfl ha ⟨_,_,rfl⟩);have hidσ:σ'[id]?=B4.st[id]?:=ha.old id (acf.1 hat).1 (λe=>by grind [Bld.jl]);rw[hat]at hidσ;have hbv:=ha.bld;have hidl:=(acf.1 hidσ).1;obtain⟨st2,hst2⟩: ∃st2,st2=σ'.set id (cT v0 (aK s) (bC l) v' v4 v5 .aq (.bool (eV l)) (.bool false) (.int .i64 bud) (.int .i64 0) (.bool false) .aq):=⟨_,rfl⟩;have hat2:st2[id]?=some (cT v0 (aK s) (bC l) v' v4 v5 .aq (.bool (eV l)) (.bool false) (.int .i64 bud) (.int .i64 0) (.bool false) .aq):=by grind
   have hlk:=TL (W0:=W0) st2 id l s n hm (by omega) (by omega) hat2;have hS3:cM σ st2 id [v0,v',v4,v5,.aq] lI [all.map ay,(N.take i).map fn++[fn n],(N.take i).map fl,(List.range all.length).map fa,[]] (fy s l (eV l) false bud):=by rw[hst2];exact hS2
   have hb4:=hS3.b 2 v4 4 _ rfl rfl rfl;unfold cT at hat2 hst2;simp only[go_sem,simprocAttr,ak hidσ,aC hidσ,hbv.ok,hbv.un,hbv.fits];rw[<-hst2];simp only[go_sem,simprocAttr,ak hat2];refine⟨.of (by kernel_rfl),aD.st hlk ?_⟩;simp only[go_sem,simprocAttr,hb4.ok,hb4.un];refine bq.mI (σ:=st2) (by simp only[go_sem,simprocAttr]) 1048576 (by kernel_rfl) hb4 (.lit _ _ _) (by grind) λv'' σ'' ha2=>?_
   have hS4:=(cM.app hS3 (k:=2) rfl rfl ha2 ⟨_,_,rfl⟩);have hidσ2:σ''[id]?=st2[id]?:=ha2.old id (acf.1 hat2).1 (λe=>by grind [Bld.jl]);rw[hat2]at hidσ2;have hbv2:=ha2.bld;simp only[go_sem,simprocAttr,h124,ak hidσ2,aC hidσ2,hbv2.ok,hbv2.un,hbv2.fits];refine⟨hc,ag hc (by grind [au]),v',v'',?_⟩;have e1:(N.take (i+1)).map fn=(N.take i).map fn++[fn n]:=by rw[ah hn,acn];rfl
   have e2:(N.take (i+1)).map fl=(N.take i).map fl++[.bool (ua l s n)]:=by rw[ah hn,acn,hfl];rfl
   rw[e1,e2];exact hS4
  grind
 have hat:=hS.at_;unfold fy cT at hat;simp only[go_sem,simprocAttr,ak hat,aK,acg];obtain⟨fm,hfm⟩: ∃fm:aA->Nat,fm=λx=>bZ (br all λp=>p.name==x.pkg.name):=⟨_,rfl⟩
 refine ae.at [2,16,18] (λA=>∃ v6,cM σ A.st id [v0,v3,v4,v5,v6] lI [all.map ay,N.map fn,N.map fl,(List.range all.length).map fa,(s.map fm).map cL] (fy s l (eV l) false bud)) ?_ λB5 ⟨v6,hS⟩=>?_
 .refine ae.upto [2,16,18,156,157] s.length (λi A=>A.env 158= .int .i64 i/\ ∃v6,cM σ A.st id [v0,v3,v4,v5,v6] lI [all.map ay,N.map fn,N.map fl,(List.range all.length).map fa,((s.take i).map fm).map cL] (fy s l (eV l) false bud)) 0 (aci _) ?_ λi B5 hi ⟨h158,v6,hS⟩=>?_
  .simp only[go_sem,simprocAttr];grind
  simp only[go_sem,simprocAttr,h158,acg];refine⟨λhc=>⟨hc,?_⟩,λhc=>?_⟩
  .obtain⟨x,hxx⟩:=get_some hc;simp only[aw hxx];simp only[go_sem,simprocAttr,bf,ay];refine aj.fn (Rf all (by omega) x.pkg.name) ?_;have hpl:=lB all λp=>p.name==x.pkg.name
   simp only[go_sem,simprocAttr,nN,acg];refine ae.at [2,16,18,156,157,158] (λA=>A.env 27=cL (fm x)/\cM σ A.st id [v0,v3,v4,v5,v6] lI [all.map ay,N.map fn,N.map fl,(List.range all.length).map fa,((s.take i).map fm).map cL] (fy s l (eV l) false bud)) ?_ λB6 ⟨h27,hS⟩=>?_
   .refine ae.upto [2,16,18,156,157,158,166,167] (br all λp=>p.name==x.pkg.name).length (λm A=>A.env 168= .int .i64 m/\A.env 27=cL (bZ ((br all λp=>p.name==x.pkg.name).take m))/\cM σ A.st id [v0,v3,v4,v5,v6] lI [all.map ay,N.map fn,N.map fl,(List.range all.length).map fa,((s.take i).map fm).map cL] (fy s l (eV l) false bud)) 0 (aci _) ?_ λm B6 hmm ⟨h168,h27,hS⟩=>?_
    .simp only[go_sem,simprocAttr];exact⟨rfl,hS.more _⟩
    unfold cL at h27;simp only[go_sem,simprocAttr,h168,h27,acg];refine⟨λhlt=>⟨hlt,?_⟩,λhge=>⟨?_,hS⟩⟩
    .obtain⟨y,hy⟩:=get_some hlt;have hyl:=kC (ach hy);simp only[aw hy];simp only[go_sem,simprocAttr];refine aj.fn (sd y (by omega)) ?_;have hm1:bZ ((br all λp=>p.name==x.pkg.name).take m)<4294967296:=mR λz hz=>by
      have:=kC (acG hz);omega
     have hor:=jN (bZ ((br all λp=>p.name==x.pkg.name).take m)) (2^y) hm1 (oq (by omega));simp only[go_sem,simprocAttr,h168,hor];refine⟨hlt,ag hlt (by grind [au]),?_,hS⟩;rw[ah hy,sr];rfl
    grind
   have hb6:=hS.b 4 v6 148 _ rfl rfl rfl;have hat:=hS.at_;unfold fy cT at hat;unfold cL at h27;simp only[go_sem,simprocAttr,h27,ak hat,hb6.ok,hb6.un];refine bq.mI (σ:=B6.st) (by simp only[go_sem,simprocAttr]) 1048576 (by kernel_rfl) hb6 (.lit _ _ _) (by grind) λv' σ' ha=>?_
   have hat':=(cM.app hS (k:=4) rfl rfl ha ⟨_,_,rfl⟩);have hidσ:σ'[id]?=B6.st[id]?:=ha.old id (acf.1 hat).1 (λe=>by grind [Bld.jl]);rw[hat]at hidσ;have hbv:=ha.bld;simp only[go_sem,simprocAttr,h158,ak hidσ,aC hidσ,hbv.ok,hbv.un,hbv.fits];refine⟨hc,ag hc (by grind [au]),v',?_⟩;have e1:((s.take (i+1)).map fm).map cL=((s.take i).map fm).map cL++[cL (fm x)]:=by rw[ah hxx,acn,acn];rfl
   rw[e1];exact hat'
  grind
 have hfind: ∀a:aM,∃m:Int,(if iS (λx:aA=>x.pkg.name==a.name) s<0 then 0 else iS (λx:aA=>x.pkg.name==a.name) s)=m/\decide (0<=iS (λx:aA=>x.pkg.name==a.name) s)=(cF s a.name).isSome:=λa=>by
  grind [dO,cF]
 simp only[go_sem,simprocAttr,bC,acg];refine ae.at [18] (λA=>cM σ A.st id [v0,v3,v4,v5,v6] lI [all.map ay,N.map fn,N.map fl,(List.range all.length).map fa,(s.map fm).map cL] (fy s l (eV l) (jm all s l) bud)) ?_ λB6 hS=>?_
 .refine ae.upto [16,18,188,189] l.length (λi A=>A.env 190= .int .i64 i/\cM σ A.st id [v0,v3,v4,v5,v6] lI [all.map ay,N.map fn,N.map fl,(List.range all.length).map fa,(s.map fm).map cL] (fy s l (eV l) (jm all s (l.take i)) bud)) 0 (aci _) ?_ λi B6 hi ⟨h190,hS⟩=>?_
  .simp only[go_sem,simprocAttr];exact hS
  simp only[go_sem,simprocAttr,h190,acg];refine⟨λhc=>⟨hc,?_⟩,λhc=>?_⟩
  .obtain⟨a,ha⟩:=get_some hc;simp only[aw ha];have hS1:=hS.more [none];have hat:=hS1.at_;unfold fy cT at hat;obtain⟨m,hm1,hm2⟩:=hfind a;have hff:=nE (W0:=W0) s a.name;rw[hm1,hm2]at hff;unfold aK at hat hff;have hnx:jm all s (l.take (i+1))=(jm all s (l.take i)||(a.kind==5&& !(cF s a.name).isSome)||(a.kind==1&&((br all λp=>p.name==a.name).length:Int)==0)):=by
    rw[ah ha];grind [jm]
   simp only[go_sem,simprocAttr,ck,ak hat];refine⟨.of (by kernel_rfl),aD.fn hff ?_⟩;simp only[go_sem,simprocAttr,ak hat];refine aD.fnG (λ_=>Rf all (by omega) a.name) ?_;simp only[go_sem,simprocAttr,h190,nN,acg,ak hat,aC hat];rw[hnx];exact⟨hc,ag hc (by grind [au]),hS1.put (mk':=fy s l (eV l) (jm all s (l.take i)||(a.kind==5&& !(cF s a.name).isSome)||(a.kind==1&&((br all λp=>p.name==a.name).length:Int)==0)) bud) ⟨_,_,rfl⟩⟩
  grind
 simp only[go_sem,simprocAttr];have hsub: ∀{v:AV} {e:TypeId} {xs:List AV},Bld B6.st v e xs->Sub v (.sl e xs):=λh=>by
  rcases h with⟨rfl,rfl⟩|rfl|⟨t,rfl,_⟩
  .exact .aq _
  .exact .lit _ _
  .exact .own _ _ _
 have hat:=hS.at_;have u0:=hsub (hS.b 0 v0 _ _ rfl rfl rfl);have u3:=hsub (hS.b 1 v3 _ _ rfl rfl rfl);have u4:=hsub (hS.b 2 v4 _ _ rfl rfl rfl);have u5:=hsub (hS.b 3 v5 _ _ rfl rfl rfl);have u6:=hsub (hS.b 4 v6 _ _ rfl rfl rfl);have hnew:Bn all s l bud=some (.cells 143 [.agg 143 [.sl 51 (all.map ay),aK s,bC l,.sl 88 (N.map fn),.sl 4 (N.map fl),.sl 150 ((List.range all.length).map fa),.sl 148 ((s.map fm).map cL),.bool (eV l),.bool (jm all s l),.int .i64 bud,.int .i64 0,.bool false,.aq]]):=by
  rw[hN,hfn,hfl,hfa2,hfm];rfl
 have hagg:Sub (.agg 143 [v0,aK s,bC l,v3,v4,v5,v6,.bool (eV l),.bool (jm all s l),.int .i64 bud,.int .i64 0,.bool false,.aq]) (.agg 143 [.sl 51 (all.map ay),aK s,bC l,.sl 88 (N.map fn),.sl 4 (N.map fl),.sl 150 ((List.range all.length).map fa),.sl 148 ((s.map fm).map cL),.bool (eV l),.bool (jm all s l),.int .i64 bud,.int .i64 0,.bool false,.aq]):=by
  refine .agg rfl λk x y hx hy=>?_
  rcases k with _|_|_|_|_|_|_|_|_|_|_|_|_|k<;>simp at hx hy<;>subst hx hy
  all_goals first|exact .refl _|assumption|grind
 refine cW.via (.inl rfl) (.bS id 0 (zs:=[.agg 143 [v0,aK s,bC l,v3,v4,v5,v6,.bool (eV l),.bool (jm all s l),.int .i64 bud,.int .i64 0,.bool false,.aq]]) (by simp only[go_sem,simprocAttr];exact hat) rfl hagg (.refl _)) ?_;simp only[go_sem,simprocAttr];have hidl:=(acf.1 hat).1;exact⟨_,.refl _,by have:=hS.ext.le;grind,hS.ext.set hS.low _,.inr ⟨hE0,id,rfl,hS.low,by grind⟩⟩
def cp (c:List Nat):AV:=.agg 29 (c.map λx=>.int .i64 (x:Nat))
theorem Ts (c:List Nat):aW 0 (cp c):=.agg λx hx=>by
 obtain⟨y,_,rfl⟩:=acM.1 hx;exact .int _ _
theorem D9 {α:Type}(q:α->Bool){l:List α}{i:Nat}{a:α}(h:l[i]?=some a):((l.take (i+1)).filter q).length=((l.take i).filter q).length+(if q a=true then 1 else 0):=by
 rw[ah h,List.filter_append,List.length_append,List.filter_cons,List.filter_nil];grind
theorem PH {α:Type}(q:α->Bool)(l:List α)(i:Nat):((l.take i).filter q).length<=i:=acC (List.length_filter_le _ _) (by grind)
def AI (l:List aM)(x:aA):aA:={ x with hold:=we (cQ l x.pkg.name) x.hold }
end Go.Proofs.Tryz
end
section
namespace Go.Proofs.Tryz
open Go Go.Av
theorem Ke {l:List aM}(hn:(l.map (·.name)).Nodup)(n:List UInt8)(q:aM->Bool):(l.any λa=>a.name==n&&q a)=(match cQ l n with|some a=>q a|none=>false):=by
 grind [mQ,sM]
theorem vC {l:List aM}(hn:(l.map (·.name)).Nodup)(k:Int)(n:List UInt8):kX l k n=(match cQ l n with|some a=>if a.kind=k then some a else none|none=>none):=by
 unfold kX;cases h:cQ l n with
 |none=>
  refine acr.2 λa ha=>?_
  have h1:=acr.1 h a ha;simp_all
 |some a=>
  obtain⟨h1,h2⟩:=mQ h;simp only;cases hf:l.find? (λa=>a.kind==k&&a.name==n)with
  |none=>
   grind
  |some b=>
   grind [sM]
theorem sg {l:List aM}(hn:(l.map (·.name)).Nodup){k:Int}(hk:k≠0)(n:List UInt8):(kX l k n).isSome=(kindOf (cQ l n)==k):=by
 grind [vC,kindOf]
theorem Uh {l:List aM}(hn:(l.map (·.name)).Nodup)(x:aA):gG l x=AI l x:=by
 unfold gG AI;rw[Ke hn x.pkg.name sq,Ke hn x.pkg.name λa=>a.kind==5];grind [we,sq,Dd]
theorem entry_eq {l:List aM}(hn:(l.map (·.name)).Nodup)(s:List aA)(n:List UInt8):bQ l s n=(cF s n).map (AI l):=by
 unfold bQ cF;rw[List.find?_map];have e:(λx:aA=>x.pkg.name==n)∘gG l=λx=>x.pkg.name==n:=funext λx=>rfl
 rw[e];have e2:gG l=AI l:=funext (Uh hn);rw[e2]
theorem KR {l:List aM}(hn:(l.map (·.name)).Nodup)(s:List aA)(n:List UInt8):AS l s n=tW l s n:=by
 grind [AS,tW,entry_eq,sg]
theorem Ui {l:List aM}(hn:(l.map (·.name)).Nodup)(s:List aA)(n:List UInt8):ua l s n=oD l s n:=by
 grind [ua,oD,KR,entry_eq,sg,cF,AI]
theorem W4 {l:List aM}(hn:(l.map (·.name)).Nodup)(s:List aA)(p:Pkg):oe l s p=CY l s p:=by
 have hex:((kX l 1 p.name).isSome&&((kX l 1 p.name).getD pF).ver !=[])=iH (cQ l p.name):=by
  grind [vC,iH]
 have hver:iH (cQ l p.name)=true->((kX l 1 p.name).getD pF).ver=qY (cQ l p.name):=λh=>by
  grind [vC,qY]
 unfold oe CY;simp only;rw[hex,KR hn,sg hn (by decide),entry_eq hn];have h1:(iH (cQ l p.name)&& !bt p.ver ((kX l 1 p.name).getD pF).ver)=(iH (cQ l p.name)&& !bt p.ver (qY (cQ l p.name))):=by
  grind
 rw[h1];cases hf:cF s p.name with
 |none=>
  grind
 |some x=>
  have hxn:x.pkg.name=p.name:=by
   have:=List.find?_some hf;simp_all
  grind [AI]
end Go.Proofs.Tryz
end
section
namespace Go.Av
theorem LM {α:Type}{f:α->α->Bool}{l:List α}(h:jj f l=false):l.Pairwise λb a=>f a b=false:=by
 revert h
 refine Uo (p:=λl=>jj f l=false->l.Pairwise λb a=>f a b=false) (λ_=>.nil) (λxs x ih h=>?_) l;grind [tO]
end Go.Av
end
section
namespace Go.Proofs.Tryz
open Go Go.Av
theorem Vr {l:List aM}(h:dH l=0):l≠[]/\l.length<=6/\(∀a∈l,jy a=true)/\(l.map (·.name)).Nodup:=by
 grind [dH,LM,DB,acR,Bu]
theorem zH (all:List Pkg)(n:List UInt8):br all (λp=>p.name==n)=placesOf all n:=by
 grind [br,plB,placesOf]
theorem SY (all:List Pkg)(s:List aA)(l:List aM):jm all s l=dR all s l:=by
 unfold jm dR;congr 1;funext a;congr 2;rw[acN,decide_eq_true_eq,List.length_eq_zero_iff];simp only[Bool.not_eq_true',acy,beq_iff_eq];constructor
 .intro h p hp hn;obtain⟨k,hk⟩:=acF.1 hp
  have:k∈br all λp=>p.name==a.name:=uT.2 ⟨p,hk,by simp_all⟩
  simp_all
 .intro h;refine List.eq_nil_iff_forall_not_mem.2 λk hk=>?_
  grind [uT]
def Pl (all:List Pkg)(i:Nat):Prop:=i=0\/ ∀p q,all[i-1]?=some p->all[i]?=some q->p.name≠q.name
theorem P3 {all:List Pkg}{i:Nat}{p:Pkg}(hp:all[i]?=some p): ∀q,all[aR all i]?=some q->q.name≠p.name:=λq hq e=>by
 have hr:aR all i=i+((all.drop i).takeWhile λq=>q.name==p.name).length:=by grind [aR]
 have h0:=List.takeWhile_append_dropWhile (p:=λq:Pkg=>q.name==p.name) (l:=all.drop i);have h1:(all.drop i)[((all.drop i).takeWhile λq=>q.name==p.name).length]?=some q:=by simp_all
 rw[<-h0]at h1;rw[List.getElem?_append_right (by simp_all)]at h1;rw[h0,Nat.sub_self]at h1;cases hd:(all.drop i).dropWhile λq=>q.name==p.name with
 |nil=>simp_all
 |cons x r=>
  grind [List.head?_dropWhile_not]
theorem EY {all:List Pkg}: ∀{f i:Nat},all.length<f+i->i<=all.length->Pl all i->nA all f i=(List.range' i (all.length-i)).filterMap (uC all)
 |0,i,hf,hi,hs=>by omega
 |f+1,i,hf,hi,hs=>by
  rw[nA];cases hp:all[i]? with
  |none=>
   simp_all
  |some p=>
   obtain⟨b1,b2⟩:=eD hp;have hil:=(acf.1 hp).1;have hst:Pl all (aR all i):=by
    right;intro a b ha hb e;obtain⟨q,hq,hqn⟩:=np hp (k:=aR all i-1) (by omega) (by omega);grind [P3]
   have ih:=EY (all:=all) (f:=f) (i:=aR all i) (by omega) b2 hst;simp only;rw[ih];have e1:List.range' i (all.length-i)=i::(List.range' (i+1) (aR all i-(i+1))++List.range' (aR all i) (all.length-aR all i)):=by
    have h1:=List.range'_append (s:=i+1) (m:=aR all i-(i+1)) (n:=all.length-aR all i) (step:=1);rw[Nat.one_mul,show i+1+(aR all i-(i+1))=aR all i by omega,show aR all i-(i+1)+(all.length-aR all i)=all.length-(i+1) by omega]at h1;rw[h1,show all.length-i=(all.length-(i+1))+1 by omega,List.range'_succ]
   have h0:uC all i=some p.name:=by
    unfold uC;rw[hp];simp only;rw[if_pos];rcases hs with h|h
    .omega
    simp_all
   have h2:(List.range' (i+1) (aR all i-(i+1))).filterMap (uC all)=[]:=by
    refine List.filterMap_eq_nil_iff.2 λk hk=>?_
    rw[List.mem_range'_1]at hk;obtain⟨q,hq,hqn⟩:=np hp (k:=k) (by omega) (by omega);obtain⟨q',hq',hqn'⟩:=np hp (k:=k-1) (by omega) (by omega);grind [uC]
   simp_all
theorem sC (all:List Pkg):nmB all all.length=nA all (all.length+1) 0:=by
 rw[EY (by omega) (by omega) (.inl rfl)];simp[nmB,List.range_eq_range']
end Go.Proofs.Tryz
end
section
namespace Go.Av
open Go.Proofs.Tryz
theorem qE : ∀(b S:Nat),S.testBit b=true->(∀j,j<b->S.testBit j=false)-> ∀i,(S &&& (S-1)).testBit i=(S.testBit i&&i !=b)
 |0,S,h,_,i=>by
  have h1:S % 2=1:=by simp_all
  rw[acE];cases i with
  |zero=>
   grind
  |succ i=>
   grind
 |b+1,S,h,hl,i=>by
  have h1:S % 2=0:=by
   have:=hl 0 (Nat.succ_pos _);grind
  rw[acB]at h;have h0:S / 2≠0:=λe=>by simp_all
  have ih:=qE b (S / 2) h (λj hj=>by grind);rw[acE];cases i with
  |zero=>
   simp_all
  |succ i=>
   rw[acB,acB,show(S-1) / 2=S / 2-1 by omega,<-acE,ih i];simp_all
theorem oA {k S b:Nat}(hb:S.testBit b=true)(hl: ∀j,j<b->S.testBit j=false)(hk:b<k):bg k S=b::bg k (S &&& (S-1)):=by
 have hs: ∀n,(bg k n).Pairwise (· < ·):=λn=>acT List.filter_sublist List.pairwise_lt_range
 have hm: ∀i,i∈bg k (S &&& (S-1))↔i∈bg k S/\i≠b:=λi=>by
  grind [c9,qE]
 have hc:(b::bg k (S &&& (S-1))).Pairwise (· < ·):=by
  grind [List.pairwise_cons,c9]
 refine acS (le:=(· < ·)) (λa b _ _ h1 h2=>by omega) (hs _) hc ?_;grind [List.perm_ext_iff_of_nodup,acW,c9]
end Go.Av
end
section
namespace Go.Proofs.Tryz
open Go Go.Av
set_option maxRecDepth 10000
variable {W0 :World}
theorem qB (S:Nat)(σ:ab):aP prog W0 214 [cL S] σ λr σ'=>r= .fn 259 [.ptr 148 σ.length 0 []]/\σ'=σ++[some (.cells 148 [cL S])]:=by
 refine bY [2] [] func214 rfl rfl ntmps214 rfl rfl λhs=>?_
 simp only[go_sem,simprocAttr,cL];exact⟨_,.refl _,_,.refl _,by simp[aa.upd,aa.ax],rfl,rfl⟩
end Go.Proofs.Tryz
end
