/- What the last text of this claim rests on. No conditions. -/
import Derived.Test.YtbkobngljnnmgaaGreatDoorWah
set_option linter.unusedSimpArgs false
set_option linter.unusedVariables false
open List renaming takeWhile_append_dropWhile->acG,mem_flatMap->acI
open List.Sublist renaming trans->acH
section
namespace Go.Proofs.Tryz
open Go Go.Av
theorem BY {l:List Pkg}{t:List Nat}{k:Nat}{x:Pkg}(h:l[k]?=some x):atL l (t++[k])=atL l t++[x]:=by
 grind [atL]
theorem KV {α:Type}(f:α->Bool): ∀l:List α,l.drop (l.takeWhile f).length=l.dropWhile f
 |[]=>rfl
 |a::l=>by
  cases h:f a with
  |false=>simp_all
  |true=>simp[h,KV f l]
theorem PA {α:Type}(f:α->Bool): ∀(l:List α) (x:α),x∈l.takeWhile f->f x=true
 |[],_,h=>by simp at h
 |a::l,x,h=>by
  cases hf:f a with
  |false=>simp_all
  |true=>
   simp[hf]at h;rcases h with rfl|h
   .exact hf
   .exact PA f l x h
theorem LN {l:List Pkg}{i:Nat}{p:Pkg}(hp:l[i]?=some p): ∃run:List Pkg,l.drop i=run++l.drop (aQ l i)/\(∀x∈run,x.name=p.name)/\ ∀x∈run,∃k,i<=k/\k<aQ l i/\l[k]?=some x:=by
 have hr:aQ l i=i+((l.drop i).takeWhile λq=>q.name==p.name).length:=by grind [aQ]
 refine⟨(l.drop i).takeWhile λq=>q.name==p.name,?_,λx hx=>?_,λx hx=>?_⟩
 .grind [List.drop_drop,acG,KV]
 .grind [PA]
 .obtain⟨k,hk,e⟩:=List.getElem_of_mem hx;refine⟨i+k,by omega,by omega,?_⟩;have h1:=acG (p:=λq:Pkg=>q.name==p.name) (l:=l.drop i);rw[<-List.getElem?_drop,<-h1,List.getElem?_append_left hk,List.getElem?_eq_getElem hk,e]
theorem RV {L:List Pkg}{n:List UInt8}(h: ∀x∈L,x.name=n)(hp:L.Pairwise λq p=>q.name≠p.name):L=[]\/ ∃x,L=[x]:=by
 match L,h,hp with
 |[],_,_=>simp_all
 |[x],_,_=>simp_all
 |x::y::L,h,hp=>
  simp_all
theorem Ip {l:List Pkg}: ∀{f i:Nat} {t:List Nat} {L:List Pkg},l.length<=f+i->i<=l.length->L.Sublist (l.drop i)->L.Pairwise (λq p=>q.name≠p.name)->dh (atL l t++L)=true-> ∃u∈ec l (f+1) i t,atL l u=atL l t++L:=by
 intro f
 induction f with
 |zero=>
  grind [lL]
 |succ f ih=>
  intro i t L hf hi hs hn hh;by_cases e:i=l.length
  .grind [lL]
  obtain⟨p,hp⟩:=get_some (show i<l.length by omega);obtain⟨b1,b2⟩:=dR hp;obtain⟨run,r1,r2,r3⟩:=LN hp;rw[r1]at hs;obtain⟨L1,L2,rfl,s1,s2⟩:=List.sublist_append_iff.1 hs;rw[List.pairwise_append]at hn;rw[ec,if_neg e];rcases RV (λx hx=>r2 x (s1.subset hx)) hn.1 with rfl|⟨x,rfl⟩
  .grind
  .obtain⟨k,k1,k2,k3⟩:=r3 x (s1.subset (by simp));obtain⟨u,hu,eu⟩:=ih (t:=t++[k]) (by omega) b2 s2 hn.2.1 (by grind [BY]);refine⟨u,List.mem_append_left _ (acI.2 ⟨k,by grind,hu⟩),?_⟩;grind [BY]
theorem OT {l:List Pkg}: ∀{f i:Nat} {t u:List Nat},u∈ec l f i t->i<=l.length->(atL l t).Sublist (l.take i)->l.length<f+i+1->(atL l u).Sublist l/\dh (atL l u)=true:=by
 intro f
 induction f with
 |zero=>
  grind [lL]
 |succ f ih=>
  intro i t u hu hi hs hf;by_cases e:i=l.length
  .grind [lL]
  obtain⟨p,hp⟩:=get_some (show i<l.length by omega);obtain⟨b1,b2⟩:=dR hp;have hpre: ∀{a b:Nat},a<=b->(l.take a).Sublist (l.take b):=λ{a b} h=>by
   have:=List.take_sublist a (l.take b);grind
  rw[ec,if_neg e]at hu;rcases List.mem_append.1 hu with hu|hu
  .obtain⟨k,hk,hu⟩:=acI.1 hu;rw[List.mem_range'_1]at hk;obtain⟨x,hx⟩:=get_some (show k<l.length by omega);refine ih hu b2 ?_ (by omega);rw[BY hx];refine acH ?_ (hpre (show k+1<=aQ l i by omega));grind [ah,acH]
  .exact ih hu b2 (hs.trans (hpre (by omega))) (by omega)
end Go.Proofs.Tryz
end
