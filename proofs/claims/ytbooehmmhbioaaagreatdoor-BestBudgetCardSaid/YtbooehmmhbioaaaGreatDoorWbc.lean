/- Texts that the last one of this claim rests on: a layer over the guide's own conditions for code; contracts of the functions that the law reaches, one by one. No conditions beside those of the given rows. -/
import Derived.Test.YtbooehmmhbioaaaGreatDoorWaw
import Derived.Test.YtbooehmmhbioaaaGreatDoorWba
import Derived.Test.YtbooehmmhbioaaaGreatDoorWbb
set_option linter.unusedSimpArgs false
set_option linter.unusedVariables false
section
namespace Go.Av
open Go.Proofs.Tryz
theorem AR (l:List (List Nat×List Nat)):(LI l).Perm l:=by
 have key: ∀(l o:List (List Nat×List Nat)),(l.foldl (λo p=>tw p o) o).Perm (o++l):=λl=>by
  induction l with
  |nil=>intro o;simp
  |cons p l ih=>
   intro o
   refine(ih _).trans ?_
   refine((qo p o).append_right l).trans ?_
   exact List.perm_middle.symm
 have h:=key l []
 rw[List.nil_append]at h
 exact h
@[go_sem] theorem W7 (l:List Nat):unm (lx l)=lx l:=rfl
@[go_sem] theorem Vr (gd:Option Bool)(l:List Nat):okM gd (cq l)=True:=eq_true trivial
@[go_sem] theorem U2 (l:List Nat):unm (cq l)=cq l:=rfl
end Go.Av
namespace Go.Proofs.Tryz
open Go Go.Av
set_option maxRecDepth 10000
set_option maxHeartbeats 1000000
variable {W0 :World}
end Go.Proofs.Tryz
end
section
namespace Go.Av
open Go.Proofs.Tryz
def pN (all:List Pkg):Nat→Nat→Nat
 |0,_=>1
 |f+1,i=>if i=all.length then 1 else(aD all i-i+1)*pN all f (aD all i)
theorem LG {all:List Pkg}: ∀{f g i:Nat},i≤all.length→all.length-i≤f→all.length-i≤g→pN all f i=pN all g i
 |0,0,_,_,_,_=>rfl
 |0,g+1,i,hi,h1,_=>by
  have e:i=all.length:=by omega
  rw[pN,pN,if_pos e]
 |f+1,0,i,hi,_,h2=>by
  have e:i=all.length:=by omega
  rw[pN,pN,if_pos e]
 |f+1,g+1,i,hi,h1,h2=>by
  rw[pN,pN]
  by_cases e:i=all.length
  ·rw[if_pos e,if_pos e]
  ·rw[if_neg e,if_neg e]
   obtain⟨p,hp⟩:=get_some (show i<all.length by omega)
   obtain⟨b1,b2⟩:=cM hp
   rw[LG (f:=f) (g:=g) b2 (by omega) (by omega)]
def xc (all:List Pkg)(i:Nat):Nat:=pN all (all.length-i) i
theorem FC (all:List Pkg):xc all all.length=1:=by rw[xc,Nat.sub_self,pN]
theorem ED {all:List Pkg}{i:Nat}{p:Pkg}(hp:all[i]?=some p):xc all i=(aD all i-i+1)*xc all (aD all i):=by
 have hi:=(List.getElem?_eq_some_iff.1 hp).1
 obtain⟨b1,b2⟩:=cM hp
 rw[xc,xc,show all.length-i=(all.length-i-1)+1 by omega,pN,if_neg (by omega),LG (f:=all.length-i-1) (g:=all.length-aD all i) b2 (by omega) (by omega)]
theorem Ab {most n:Nat}: ∀{r:List Pkg} {p:Pkg} {k:Nat},pB most (p::r) n k=if most<n*(k+((p::r).takeWhile λq=>q.name==p.name).length+1)then false else pB most ((p::r).drop ((p::r).takeWhile λq=>q.name==p.name).length) (n*(k+((p::r).takeWhile λq=>q.name==p.name).length+1)) 0
 |[],p,k=>by
  rw[pB,List.takeWhile_cons_of_pos (by simp)]
  simp
 |q::r,p,k=>by
  rw[pB,List.takeWhile_cons_of_pos (by simp),List.head?_cons,Option.map_some]
  by_cases h:q.name=p.name
  ·rw[if_pos (by rw[h]),Ab,h,List.length_cons,List.drop_succ_cons]
   rw[show k+1+((q::r).takeWhile λq=>q.name==p.name).length+1=k+(((q::r).takeWhile λq=>q.name==p.name).length+1)+1 by omega]
  ·rw[if_neg (λe=>h (Option.some.inj e)),List.takeWhile_cons_of_neg (by simpa using h)]
   simp
theorem CY {all:List Pkg}{most:Nat}: ∀{m i n:Nat},all.length-i≤m→i≤all.length→n≤most→pB most (all.drop i) n 0=true→n*xc all i≤most
 |m,i,n,hm,hi,hn,h=>by
  by_cases e:i=all.length
  ·subst e
   rw[FC,Nat.mul_one]
   exact hn
  obtain⟨p,hp⟩:=get_some (show i<all.length by omega)
  obtain⟨b1,b2⟩:=cM hp
  have hd:all.drop i=p::all.drop (i+1):=by
   rw[←List.getElem_cons_drop (show i<all.length by omega),(List.getElem?_eq_some_iff.1 hp).2]
  have hr:aD all i=i+((all.drop i).takeWhile λq=>q.name==p.name).length:=by simp[aD,hp]
  rw[hd,Ab,←hd]at h
  split at h
  ·cases h
  rename_i hle
  rw[List.drop_drop,←hr]at h
  cases m with
  |zero=>omega
  |succ m=>
   have hk:0+((all.drop i).takeWhile λq=>q.name==p.name).length+1=aD all i-i+1:=by omega
   rw[hk]at h hle
   have:=CY (m:=m) (i:=aD all i) (n:=n*(aD all i-i+1)) (by omega) b2 (by omega) h
   rw[ED hp,←Nat.mul_assoc]
   exact this
theorem Od {all:List Pkg}{most:Nat}(h1:1≤most)(h:pB most all 1 0=true):xc all 0≤most:=by
 have:=CY (m:=all.length) (i:=0) (n:=1) (by omega) (Nat.zero_le _) h1 h
 omega
end Go.Av
end
section
namespace Go.Av
open Go.Proofs.Tryz
theorem zj {all:List Pkg}{s:List aC}{l:List aH}{up:Bool}{x:List Nat×List Nat}(h:x∈ll all s l up):x.2∈dH all (all.length+1) 0 []∧gE l (atL all x.2) s=true∧x.1=v8 all s (atL all x.2) up:=by
 obtain⟨t,ht,rfl⟩:=List.mem_map.1 ((AR _).subset h)
 obtain⟨h1,h2⟩:=List.mem_filter.1 ht
 exact⟨h1,h2,rfl⟩
theorem yB {all:List Pkg}{s:List aC}{l:List aH}(h:cK all s l=true){t:List Pkg}(ht: ∀p∈t,p∈all):gE l t s=false:=by
 unfold cK at h
 obtain⟨a,ha,h⟩:=List.any_eq_true.1 h
 have hm:lg t s a=false:=by
  rw[Bool.or_eq_true,Bool.and_eq_true,Bool.and_eq_true,beq_iff_eq,beq_iff_eq,Bool.not_eq_true']at h
  unfold lg
  rcases h with⟨h1,h2⟩|⟨h1,h2⟩
  ·rw[if_neg (by omega),if_neg (by omega),if_pos h1]
   cases he:ec s a.name<;>simp_all
  ·rw[if_pos h1,show dT t a.name=none from List.find?_eq_none.2 λp hp=>by
    have:=List.any_eq_false.1 h2 p (ht p hp)
    simpa using this]
 unfold gE
 rw[show l.all (lg t s)=false from List.all_eq_false.2 ⟨a,ha,by rw[hm];simp⟩]
 rfl
theorem Bq {all:List Pkg}{s:List aC}{l:List aH}{up:Bool}(h:cK all s l=true):ll all s l up=[]:=by
 refine List.eq_nil_iff_forall_not_mem.2 λx hx=>?_
 obtain⟨h1,h2,_⟩:=zj hx
 obtain⟨s1,s2⟩:=DZ h1 (Nat.zero_le _) (by simp[atL]) (by omega)
 rw[yB h λp hp=>s1.subset hp]at h2
 cases h2
def mi (all:List Pkg)(s:List aC)(l:List aH)(bud:Int):Nat→SSt
 |0=>.fresh
 |i+1=>(ep all s l bud (mi all s l bud i)).2.2
def fV (all:List Pkg)(s:List aC)(l:List aH)(bud:Int):Bool:=!cK all s l&&decide (0<bud∧bud<pG all s l)
def sB (all:List Pkg)(s:List aC)(l:List aH)(bud:Int)(i:Nat):Option FB×Int:=if fV all s l bud=true then(none,11)else((ja all s l)[i]?,0)
theorem BO {all:List Pkg}{s:List aC}{l:List aH}{bud:Int}: ∀i:Nat,mi all s l bud i=if cK all s l=true∨i=0 then .fresh else if fV all s l bud=true then .fail else .run ((ja all s l).drop i)
 |0=>by simp[mi]
 |i+1=>by
  rw[mi,BO i]
  cases hn:cK all s l with
  |true=>simp[ep,hn]
  |false=>
   have hf:fV all s l bud=decide (0<bud∧bud<pG all s l):=by unfold fV;rw[hn];rfl
   by_cases h:0<bud∧bud<pG all s l
   ·rw[hf,decide_eq_true h]
    by_cases h0:i=0<;>simp[ep,hn,h0,h]
   ·rw[hf,decide_eq_false h]
    by_cases h0:i=0<;>simp[ep,hn,h0,h]
theorem lY (all:List Pkg)(s:List aC)(l:List aH)(bud:Int)(i:Nat):ep all s l bud (mi all s l bud i)=((sB all s l bud i).1,(sB all s l bud i).2,mi all s l bud (i+1)):=by
 have key:(ep all s l bud (mi all s l bud i)).1=(sB all s l bud i).1∧(ep all s l bud (mi all s l bud i)).2.1=(sB all s l bud i).2:=by
  rw[BO i]
  unfold sB
  cases hn:cK all s l with
  |true=>
   have hb:ja all s l=[]:=by unfold ja;rw[Bq hn];rfl
   have hf:fV all s l bud=false:=by unfold fV;rw[hn];rfl
   simp[ep,hn,hf,hb]
  |false=>
   have hf:fV all s l bud=decide (0<bud∧bud<pG all s l):=by unfold fV;rw[hn];rfl
   by_cases h:0<bud∧bud<pG all s l
   ·rw[hf,decide_eq_true h]
    by_cases h0:i=0<;>simp[ep,hn,h0,h]
   ·rw[hf,decide_eq_false h]
    by_cases h0:i=0
    ·subst h0
     simp[ep,hn,h,List.head?_eq_getElem?]
    ·simp[ep,hn,h0,h,List.head?_drop]
 exact Prod.ext key.1 (Prod.ext key.2 rfl)
theorem Fq (all:List Pkg)(s:List aC)(l:List aH)(i:Nat):sB all s l 0 i=((ja all s l)[i]?,0):=by
 unfold sB fV
 rw[if_neg (by simp)]
structure Xe (repo:List Pkg)(s:List aC)(l:List aH)(all:List Pkg):Prop where
 sea:dw l=0→FQ all s l
 mn: ∀p∈all,lu p
 FH:bV s=0
 new:ly all s l=dw l
 few:xc all 0≤700
 may:bk all=0
 srt:nf all
 sub: ∀x∈s,x.pkg∈all
 mns: ∀x∈s,lu x.pkg
theorem KV {repo:List Pkg}{s:List aC}(l:List aH)(h:(tP repo s).2=true):Xe repo s l (tP repo s).1:=by
 unfold tP at h ⊢
 split at h
 ·rename_i hl
  rw[if_pos hl]
  simp only[Bool.and_eq_true,decide_eq_true_eq]at h
  obtain⟨h2,hf⟩:=h
  have hsp: ∀x∈s,lu x.pkg:=λx hx=>vJ hl.2 _ (List.mem_map_of_mem hx)
  obtain⟨k1,k2,k3,k4⟩:=I0 h2
  obtain⟨_,hnm⟩:=o8 k4
  have hn:=nn k4
  have hmn: ∀p∈(gp repo s).1,lu p:=by
   have he:(gp repo s).1=cI (fy repo s):=by
    unfold gp at h2 ⊢
    split at h2
    ·rename_i hh;exact absurd h2 hh
    rename_i h3
    rw[if_neg h3]
    split at h2
    ·rename_i hh;exact absurd h2 hh
    rename_i h4
    rw[if_neg h4]
    split at h2
    ·cases h2
    rename_i h5
    rw[if_neg h5]
   intro p hp
   rw[he]at hp
   have hp:=(eD _).subset hp
   unfold fy at hp
   rcases List.mem_append.1 hp with hp|hp
   ·obtain⟨x,hx,rfl⟩:=List.mem_map.1 hp
    exact hsp x hx
   ·exact vJ hl.1 p (List.mem_filter.1 hp).1
  have hin:(s.any λx=>!(gp repo s).1.any λp=>decide (p=x.pkg))=false:=by
   refine List.any_eq_false.2 λx hx=>?_
   rw[List.any_eq_true.2 ⟨x.pkg,k3 x hx,by simp⟩]
   simp
  refine⟨λhq=>⟨k1,(ub k2).symm,hmn,qT k4,(KU hq).2.2.2,hn,λx hx=>⟨x.pkg,k3 x hx,rfl⟩⟩,hmn,k4,?_,Od (by omega) hf,k1,k2,k3,hsp⟩
  unfold ly
  rw[if_neg (by simp[k1]),if_neg (by rw[ub k2];simp),if_neg (by simp[k4])]
  split
  ·rfl
  ·rename_i hq
   rw[if_neg (by rw[hin];simp)]
   exact(Classical.not_not.1 hq).symm
 ·cases h
end Go.Av
end
section
namespace Go.Proofs.Tryz
open Go Go.Av
set_option maxRecDepth 10000
set_option maxHeartbeats 1000000
variable {W0 :World}
theorem EZ {a b:List Nat}(ha:a.length=5)(hb:b.length=5):bY prog .neq 39 (cq a) (cq b)=True:=by
 unfold cq
 simp only[go_sem,simprocAttr,xB ha hb]
 try trivial
theorem Fv {a b:List Nat}(ha:a.length=5)(hb:b.length=5):bU prog .neq 39 (cq a) (cq b)= .bool (!decide (a=b)):=by
 unfold cq
 simp only[go_sem,simprocAttr,xB ha hb]
 rfl
theorem bS.via {σ σ':ab}{id:Nat}{all:List Pkg}{s:List aC}{l:List aH}{bud:Int}{st:SSt}(h:bS σ id all s l bud st)(h1:σ'[id]?=σ[id]?)(h2: ∀(j:Nat)(ys:List AV),σ[j]?=some (some (cV.cells 116 ys))→σ'[j]?=σ[j]?):bS σ' id all s l bud st:=by
 cases st with
 |fresh=>exact h1.trans h
 |run o=>
  obtain⟨g1,⟨v,g2,g3⟩,g4⟩:=h
  refine⟨g1,⟨v,h1.trans g2,g3.ey λj hj=>?_⟩,g4⟩
  rcases g3 with⟨rfl,_⟩|⟨k,off,m,zs,rfl,hk,_⟩
  ·cases hj
  ·cases List.mem_singleton.1 hj
   exact h2 _ _ hk
 |fail=>
  obtain⟨g1,g2,v,g3⟩:=h
  exact⟨g1,g2,v,h1.trans g3⟩
theorem bS.ob {σ:ab}{id:Nat}{all:List Pkg}{s:List aC}{l:List aH}{bud:Int}{st:SSt}(h:bS σ id all s l bud st): ∃sp dn v,σ[id]?=some (cY all s l bud sp dn v):=by
 cases st with
 |fresh=>exact⟨_,_,_,h⟩
 |run o=>obtain⟨_,⟨v,h2,_⟩,_⟩:=h;exact⟨_,_,_,h2⟩
 |fail=>obtain⟨_,_,v,h3⟩:=h;exact⟨_,_,_,h3⟩
theorem bS.ext {σ σ':ab}{id:Nat}{all:List Pkg}{s:List aC}{l:List aH}{bud:Int}{st:SSt}(h:bS σ id all s l bud st)(hx:Ext σ σ'):bS σ' id all s l bud st:=by
 have key: ∀{j:Nat} {o:cV},σ[j]?=some (some o)→σ'[j]?=σ[j]?:=λ{j o} hj=>by
  rw[hx.eq,List.getElem?_append_left (List.getElem?_eq_some_iff.1 hj).1]
 obtain⟨_,_,_,ho⟩:=bS.ob h
 unfold cY at ho
 exact bS.via h (key ho) λj ys hj=>key hj
theorem bS.app {σ:ab}{id:Nat}{all:List Pkg}{s:List aC}{l:List aH}{bud:Int}{st:SSt}(h:bS σ id all s l bud st)(x:ab):bS (σ++x) id all s l bud st:=bS.ext h (.app (.refl _) x)
end Go.Proofs.Tryz
end
section
namespace Go.Proofs.Tryz
open Go Go.Av
set_option maxRecDepth 10000
set_option maxHeartbeats 2000000
variable {W0 :World}
def pkO (all:List Pkg):Option FB→List Pkg
 |none=>[]
 |some x=>atL all (aT all.length x.2)
def coO :Option FB→List Nat
 |none=>[0,0,0,0,0]
 |some x=>x.1
theorem lN (all:List Pkg)(o:Option FB)(e:Int):Cw all o e= .tup [aU (pkO all o),cq (coO o),.bool o.isSome,.int .i64 e]:=by cases o<;>rfl
def spS (all:List Pkg)(s:List aC)(l:List aH)(bud:Int):SSt→Int
 | .fresh=>0
 | .run _=>pG all s l
 | .fail=>bud
theorem bS.obW {σ:ab}{id:Nat}{all:List Pkg}{s:List aC}{l:List aH}{bud:Int}{st:SSt}(h:bS σ id all s l bud st): ∃dn v,σ[id]?=some (cY all s l bud (spS all s l bud st) dn v):=by
 cases st with
 |fresh=>exact⟨_,_,h⟩
 |run o=>obtain⟨_,⟨v,h2,_⟩,_⟩:=h;exact⟨_,_,h2⟩
 |fail=>obtain⟨_,_,v,h3⟩:=h;exact⟨_,_,h3⟩
theorem bS.fr {σ σ':ab}{id idx:Nat}{all:List Pkg}{s:List aC}{l:List aH}{bud bud':Int}{st st':SSt}(h:bS σ id all s l bud st)(hx:bS σ idx all s l bud' st')(hne:id≠idx)(hf:Fr [idx] σ σ'):bS σ' id all s l bud st:=by
 obtain⟨_,_,_,ho⟩:=bS.ob h
 obtain⟨_,_,_,hxo⟩:=bS.ob hx
 refine bS.via h (hf.old id (List.getElem?_eq_some_iff.1 ho).1 (by simpa using hne)) λj ys hj=>hf.old j (List.getElem?_eq_some_iff.1 hj).1 λhji=>?_
 cases List.mem_singleton.1 hji
 rw[hj]at hxo
 exact absurd hxo (by unfold cY ck;simp)
theorem Eo {all:List Pkg}{s:List aC}{l:List aH}(i:Nat):(coO ((ja all s l)[i]?)).length=5:=by
 unfold ja
 rw[List.getElem?_map]
 cases h:(ll all s l (dV l))[i]? with
 |none=>rfl
 |some x=>
  obtain⟨_,_,h3⟩:=zj (List.mem_of_getElem? h)
  show x.1.length=5
  rw[h3]
  exact j4 _ _ _ _ _ _
theorem Df {all:List Pkg}{s:List aC}{l:List aH}{a b:Int}(ha:0<a)(hab:a≤b)(h:fV all s l b=true):fV all s l a=true:=by
 unfold fV at *
 simp only[Bool.and_eq_true,decide_eq_true_eq]at *
 exact⟨h.1,ha,by omega⟩
theorem La {all:List Pkg}{s:List aC}{l:List aH}{b:Int}(hc:mw all)(h:fV all s l b=true):b<2*2^all.length:=by
 unfold fV at h
 simp only[Bool.and_eq_true,decide_eq_true_eq]at h
 have h1:=xH s l hc (dQ all s l)
 have h2:=h.2.2
 unfold pG at h2
 have e:((2*2^all.length:Nat):Int)=2*2^all.length:=by rw[Int.natCast_mul,Int.natCast_pow];rfl
 omega
def spF (all:List Pkg)(s:List aC)(l:List aH):Int:=if cK all s l=true then 0 else pG all s l
theorem Fm {all:List Pkg}{s:List aC}{l:List aH}{bud:Int}(hf:fV all s l bud=false)(j:Nat):spS all s l bud (mi all s l bud (j+1))=spF all s l:=by
 rw[BO,hf]
 unfold spF
 by_cases hn:cK all s l=true
 ·rw[if_pos (.inl hn),if_pos hn];rfl
 ·rw[if_neg (by simp[hn]),if_neg (by simp),if_neg hn];rfl
theorem Bw {all:List Pkg}{s:List aC}{l:List aH}{bud:Int}(hf:fV all s l bud=false)(j:Nat):sB all s l bud j=((ja all s l)[j]?,0):=by
 unfold sB
 rw[hf]
 rfl
theorem pO {all:List Pkg}{s:List aC}{l:List aH}{bud:Int}(hf:fV all s l bud=true)(j:Nat):sB all s l bud j=(none,11):=by
 unfold sB
 rw[hf]
 rfl
theorem vm (b n:Int)(h:0<n)(hn:n≤4294967296):1≤IntKind.i64.wrap (IntKind.i64.wrap ((IntKind.u64.wrap b).tmod n)+1)∧IntKind.i64.wrap (IntKind.i64.wrap ((IntKind.u64.wrap b).tmod n)+1)≤n:=by
 have h0:0≤IntKind.u64.wrap b:=by rw[IntKind.wrap_u64];omega
 rw[Int.tmod_eq_emod_of_nonneg h0]
 generalize IntKind.u64.wrap b=u at *
 have h1:=Int.emod_nonneg u (show n≠0 by omega)
 have h2:=Int.emod_lt_of_pos u h
 have e1:IntKind.i64.wrap (u % n)=u % n:=aE (by omega)
 have e2:IntKind.i64.wrap (u % n+1)=u % n+1:=aE (by omega)
 rw[e1,e2]
 omega
theorem Bp (hW:rA W0)(repo:List Pkg)(s:List aC)(l:List aH)(a b:Int)(hp: ∀p∈repo,rJ p)(hsp: ∀x∈s,rJ x.pkg)(hsl:s.length≤733007751829):ag prog W0 6 [aU repo,aY s,br l,.int .i64 a,.int .i64 b] (.bool true):=by
 refine .GA (.bool _) λσ=>?_
 refine jw [.tmp 10] [21,25,29,33] func6 rfl rfl ntmps6 rfl rfl λhs=>?_
 simp only[go_sem,simprocAttr]
 refine al.fn (Kb repo s hp hsp hsl) ?_
 obtain⟨all,hall⟩: ∃all,all=(tP repo s).1:=⟨_,rfl⟩
 obtain⟨ok,hok⟩: ∃ok,ok=(tP repo s).2:=⟨_,rfl⟩
 rw[←hall,←hok]
 simp only[go_sem,simprocAttr,br,aU,List.length_map]
 refine⟨λhc=>?_,λhc=>?_⟩
 ·refine al.fn (iU hW) ?_
  simp only[go_sem,simprocAttr]
  refine cH.ret ?_
  simp only[go_sem,simprocAttr]
  exact⟨_,.refl _,.refl _,.refl _⟩
 simp only[Bool.or_eq_false_iff,Bool.not_eq_false',decide_eq_false_iff_not]at hc
 obtain⟨⟨hc1,hc2⟩,hc3⟩:=hc
 have hF:=KV (repo:=repo) (s:=s) l (by rw[←hok];exact hc1)
 rw[←hall]at hF
 obtain⟨a1,a2⟩:=vm a 3000 (by decide) (by decide)
 obtain⟨b1,b2⟩:=vm b 20000 (by decide) (by decide)
 generalize IntKind.i64.wrap (IntKind.i64.wrap ((IntKind.u64.wrap a).tmod 3000)+1)=a' at *
 generalize IntKind.i64.wrap (IntKind.i64.wrap ((IntKind.u64.wrap b).tmod 20000)+1)=b' at *
 refine cJ.at [1,2,11] (by kernel_rfl) (λA=>∃ a b:Int,A.env 3= .int .i64 a∧A.env 4= .int .i64 b∧1≤a∧a≤b∧b≤20000∧A.st=σ) (λhc=>?_) (λhc=>?_) λB1 ⟨a,b,h3,h4,ha1,hab,hb2,hst1⟩=>?_
 ·simp only[go_sem,simprocAttr]
  simp only[decide_eq_true_eq]at hc
  exact⟨b',a',rfl,rfl,b1,by omega,by omega⟩
 ·simp only[go_sem,simprocAttr]
  simp only[decide_eq_false_iff_not]at hc
  exact⟨a',b',rfl,rfl,a1,by omega,by omega⟩
 simp only[go_sem,simprocAttr,h3,h4,hst1]
 refine al.goes (σ:=σ) (by simp only[go_sem,simprocAttr,hst1]) (qJ σ all s l a hF.mn hF.mns) λr σ1 ⟨hx1,hr1⟩=>?_
 rw[hF.new]at hr1
 rcases hr1 with⟨hne,rfl⟩|⟨hq,idx,rfl,hidx,hobx⟩
 ·simp only[go_sem,simprocAttr,h3,h4]
  refine al.goes (σ:=σ1) (by rfl) (qJ σ1 all s l b hF.mn hF.mns) λr σ2 ⟨hx2,hr2⟩=>?_
  rw[hF.new]at hr2
  rcases hr2 with⟨_,rfl⟩|⟨hq,_⟩
  ·simp only[go_sem,simprocAttr,h3,h4]
   refine al.goes (σ:=σ2) (by rfl) (qJ σ2 all s l 0 hF.mn hF.mns) λr σ3 ⟨hx3,hr3⟩=>?_
   rw[hF.new]at hr3
   rcases hr3 with⟨_,rfl⟩|⟨hq,_⟩
   ·simp only[go_sem,simprocAttr,h3,h4]
    have hx:Ext σ σ3:=hx1.trans (hx2.trans hx3)
    refine⟨λ_=>az.fnG (λ_=>iU hW) ?_,λh=>absurd (show dw l=0 by simpa using h) hne⟩
    simp only[go_sem,simprocAttr]
    refine cH.ret ?_
    simp only[go_sem,simprocAttr]
    exact⟨_,.refl _,hx.le,.refl _,hx⟩
   ·exact absurd hq hne
  ·exact absurd hq hne
 simp only[go_sem,simprocAttr,h3,h4]
 refine al.goes (σ:=σ1) (by rfl) (qJ σ1 all s l b hF.mn hF.mns) λr σ2 ⟨hx2,hr2⟩=>?_
 rw[hF.new]at hr2
 rcases hr2 with⟨hne,_⟩|⟨_,idy,rfl,hidy,hoby⟩
 ·exact absurd hq hne
 simp only[go_sem,simprocAttr,h3,h4]
 refine al.goes (σ:=σ2) (by rfl) (qJ σ2 all s l 0 hF.mn hF.mns) λr σ3 ⟨hx3,hr3⟩=>?_
 rw[hF.new]at hr3
 rcases hr3 with⟨hne,_⟩|⟨_,idz,rfl,hidz,hobz⟩
 ·exact absurd hq hne
 simp only[go_sem,simprocAttr,h3,h4]
 have H:=hF.sea hq
 have hcn:=tU hF.srt
 have h24:=dF hF.may
 rw[vd H.hU.asks]at hobx hoby hobz
 have ix:=(List.getElem?_eq_some_iff.1 hobx).1
 have iy:=(List.getElem?_eq_some_iff.1 hoby).1
 have iz:=(List.getElem?_eq_some_iff.1 hobz).1
 have hx:Ext σ σ3:=hx1.trans (hx2.trans hx3)
 have sx:bS σ3 idx all s l a .fresh:=bS.ext (σ:=σ1) hobx (hx2.trans hx3)
 have sy:bS σ3 idy all s l b .fresh:=bS.ext (σ:=σ2) hoby hx3
 have sz:bS σ3 idz all s l 0 .fresh:=hobz
 have hsp0:0≤spF all s l:=by unfold spF;split<;>omega
 refine af.upto [4,11,13,15,17] (.of (by kernel_rfl)) 30 (λj A=>A.env 124= .int .i64 j∧(∃sp:Int,A.env 19= .int .i64 sp∧(sp=0∨sp=spF all s l))∧Ext σ A.st∧bS A.st idx all s l a (mi all s l a j)∧bS A.st idy all s l b (mi all s l b j)∧bS A.st idz all s l 0 (mi all s l 0 j)) 0 (Nat.zero_le _) ?_ λj B hj ⟨h124,⟨sp,h19,hsp⟩,hx1,sx,sy,sz⟩=>?_
 ·simp only[go_sem,simprocAttr]
  exact⟨⟨0,rfl,.inl rfl⟩,hx,sx,sy,sz⟩
 simp only[go_sem,simprocAttr,h124,h19]
 refine⟨λhc=>?_,λhc=>?_⟩
 ·have hn:=mZ hW B.st idx all s l a (mi all s l a j) H (by omega) (by omega) sx
  rw[lY,lN]at hn
  refine al.goes (by rfl) hn λr σ4 ⟨hr,hfr,sx4⟩=>?_
  subst hr
  have sy4:=bS.app (sy.fr sx (by omega) hfr) [none]
  have sz4:=bS.app (sz.fr sx (by omega) hfr) [none]
  have sx4:=bS.app sx4 [none]
  have hx4:Ext σ (σ4++[none]):=(hfr.qX hx1 λj hj=>by simp at hj;omega).app _
  have q0: ∀o:Option FB,bn prog 39 (cq (coO o))=True:=λo=>eq_true (by kernel_rfl)
  simp only[go_sem,simprocAttr,h124,h19,q0]
  have hn:=mZ hW (σ4++[none]) idy all s l b (mi all s l b j) H (by omega) (by omega) sy4
  rw[lY,lN]at hn
  refine al.goes (by rfl) hn λr σ5 ⟨hr,hfr5,sy5⟩=>?_
  subst hr
  have sx5:=bS.app (sx4.fr sy4 (by omega) hfr5) [none]
  have sz5:=bS.app (sz4.fr sy4 (by omega) hfr5) [none]
  have sy5:=bS.app sy5 [none]
  have hx5:Ext σ (σ5++[none]):=(hfr5.qX hx4 λj hj=>by simp at hj;omega).app _
  simp only[go_sem,simprocAttr,h124,h19,q0]
  have hn:=mZ hW (σ5++[none]) idz all s l 0 (mi all s l 0 j) H (by omega) (by omega) sz5
  rw[lY,lN]at hn
  refine al.goes (by rfl) hn λr σ6 ⟨hr,hfr6,sz6⟩=>?_
  subst hr
  have sx6:=bS.app (sx5.fr sz5 (by omega) hfr6) [none]
  have sy6:=bS.app (sy5.fr sz5 (by omega) hfr6) [none]
  have sz6:=bS.app sz6 [none]
  have hx6:Ext σ (σ6++[none]):=(hfr6.qX hx5 λj hj=>by simp at hj;omega).app _
  rw[Fq]
  obtain⟨o,ho⟩: ∃o,o=(ja all s l)[j]?:=⟨_,rfl⟩
  have hc5:(coO o).length=5:=by rw[ho];exact Eo j
  rw[←ho]
  have q1:=EZ hc5 hc5
  have q2:=Fv hc5 hc5
  rw[decide_eq_true rfl,Bool.not_true]at q2
  cases hfb:fV all s l b with
  |true=>
   have hfa:=Df (by omega) hab hfb
   have hlb:=La hcn hfb
   rw[pO hfa,pO hfb]
   have hn12:all.length≤12:=by omega
   have hpw:2^all.length≤2^12:=Nat.pow_le_pow_right (by decide) hn12
   have w1:IntKind.u64.wrap (all.length:Int)=all.length:=by rw[IntKind.wrap_u64];omega
   have w2:((all.length:Int)<0)=False:=eq_false (by omega)
   have w3:min (Int.toNat (all.length:Int)) 64=all.length:=by rw[Int.toNat_natCast];omega
   have w4:IntKind.i64.wrap (4*2^all.length)=((4*2^all.length:Nat):Int):=by
    have e:(4*2^all.length:Int)=((4*2^all.length:Nat):Int):=by rw[Int.natCast_mul,Int.natCast_pow];rfl
    rw[e,aE (by omega)]
   have w5:decide (((4*2^all.length:Nat):Int)<b)=false:=by
    have e:((2*2^all.length:Nat):Int)=2*2^all.length:=by rw[Int.natCast_mul,Int.natCast_pow];rfl
    exact decide_eq_false (by omega)
   simp only[go_sem,simprocAttr,h124,h19,q0,q1,q2,h4,List.length_map,w1,w2,w3,w4,w5]
   have w6: ¬IntKind.i64.wrap (4*2^min all.length 64)<b:=by
    rw[Nat.min_eq_left (by omega),w4]
    simpa using w5
   refine⟨λh=>absurd h w6,λ_=>az.fnG (r:=.bool false) (λh=>(Bool.false_ne_true h).elim) ?_⟩
   simp only[go_sem,simprocAttr,h124,h19,q0,q1,q2,h4]
   have hn7:=mZ hW (σ6++[none]) idx all s l a (mi all s l a (j+1)) H (by omega) (by omega) sx6
   rw[lY,lN,pO hfa]at hn7
   refine al.goes (by rfl) hn7 λr σ7 ⟨hr,hfr7,sx7⟩=>?_
   subst hr
   have hx7:Ext σ (σ7++[none]):=(hfr7.qX hx6 λj hj=>by simp at hj;omega).app _
   simp only[go_sem,simprocAttr,q0]
   refine az.fnG (λ_=>iU hW) ?_
   simp only[go_sem,simprocAttr]
   refine cH.ret ?_
   simp only[go_sem,simprocAttr]
   exact⟨_,.refl _,by have:=hx7.le;simpa using this,.refl _,hx7⟩
  |false=>
   cases hfa:fV all s l a with
   |true=>
    rw[pO hfa,Bw hfb,←ho]
    simp only[go_sem,simprocAttr,h124,h19,q0,q1,q2]
    refine az.fnG (λ_=>lU (pkO all o) (pkO all o)) ?_
    rw[decide_eq_true rfl]
    simp only[go_sem,simprocAttr,h124,h19,q0,q1,q2]
    have hn7:=mZ hW (σ6++[none]) idx all s l a (mi all s l a (j+1)) H (by omega) (by omega) sx6
    rw[lY,lN,pO hfa]at hn7
    refine al.goes (by rfl) hn7 λr σ7 ⟨hr,hfr7,sx7⟩=>?_
    subst hr
    have hx7:Ext σ (σ7++[none]):=(hfr7.qX hx6 λj hj=>by simp at hj;omega).app _
    simp only[go_sem,simprocAttr,q0]
    refine az.fnG (λ_=>iU hW) ?_
    simp only[go_sem,simprocAttr]
    refine cH.ret ?_
    simp only[go_sem,simprocAttr]
    exact⟨_,.refl _,by have:=hx7.le;simpa using this,.refl _,hx7⟩
   |false=>
    rw[Bw hfa,Bw hfb,←ho]
    simp only[go_sem,simprocAttr,h124,h19,q0,q1,q2]
    refine az.fnG (λ_=>lU (pkO all o) (pkO all o)) ?_
    rw[decide_eq_true rfl]
    simp only[go_sem,simprocAttr,h124,h19,q0,q1,q2]
    refine az.fnG (λ_=>lU (pkO all o) (pkO all o)) ?_
    rw[decide_eq_true rfl]
    simp only[go_sem,simprocAttr,h124,h19,q0,q1,q2]
    obtain⟨dnx,vx,obx⟩:=bS.obW sx6
    rw[Fm hfa]at obx
    obtain⟨dny,vy,oby⟩:=bS.obW sy6
    rw[Fm hfb]at oby
    have px:=yN (W0:=W0) (σ6++[none]) idx all s l a _ dnx vx obx
    have py:=yN (W0:=W0) (σ6++[none]) idy all s l b _ dny vy oby
    have l1:decide (spF all s l<sp)=false:=decide_eq_false (by omega)
    refine az.st (λ_=>px) ?_
    simp only[go_sem,simprocAttr,h124,h19,q0,q1,q2]
    refine az.st (λ_=>py) ?_
    simp only[go_sem,simprocAttr,h124,h19,q0,q1,q2]
    refine az.st (λ_=>px) ?_
    simp only[go_sem,simprocAttr,h124,h19,q0,q1,q2,l1]
    refine al.reads (σ:=σ6++[none]) (by rfl) px ?_
    simp only[go_sem,simprocAttr,h124,h19,q0,q1,q2]
    refine⟨λhno=>al.fn (iU hW) ?_,λ_=>⟨by omega,ah (show j<30 by omega) (by rw[ar];omega),⟨_,rfl,.inr rfl⟩,hx6,sx6,sy6,sz6⟩⟩
    simp only[go_sem,simprocAttr]
    refine cH.ret ?_
    simp only[go_sem,simprocAttr]
    exact⟨_,.refl _,by have:=hx6.le;simpa using this,.refl _,hx6⟩
 ·refine al.fn (iU hW) ?_
  simp only[go_sem,simprocAttr]
  refine cH.ret ?_
  simp only[go_sem,simprocAttr]
  exact⟨_,.refl _,hx1.le,.refl _,hx1⟩
end Go.Proofs.Tryz
end
