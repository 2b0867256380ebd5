/- What the last text of this claim rests on. No conditions. -/
import Derived.Test.YtbkobngljnnmgaaGreatDoorWah
set_option linter.unusedSimpArgs false
set_option linter.unusedVariables false
open List.Sublist renaming trans->acf
section
namespace Go.Proofs.Tryz
open Go Go.Av
theorem Vw {l:List Pkg}{t:List Nat}{k:Nat}{x:Pkg}(h:l[k]?=some x):atL l (t++[k])=atL l t++[x]:=by
 grind [atL]
theorem Oj {l:List Pkg}: ∀{f i:Nat} {t u:List Nat},u∈eL l f i t->i<=l.length->(atL l t).Sublist (l.take i)->l.length<f+i+1->(atL l u).Sublist l/\gb (atL l u)=true:=by
 intro f
 induction f with
 |zero=>
  grind [tS]
 |succ f ih=>
  intro i t u hu hi hs hf;by_cases e:i=l.length
  .grind [tS]
  obtain⟨p,hp⟩:=get_some (show i<l.length by omega);obtain⟨b1,b2⟩:=eD hp;have hpre: ∀{a b:Nat},a<=b->(l.take a).Sublist (l.take b):=λ{a b} h=>by
   have:=List.take_sublist a (l.take b);grind
  rw[eL,if_neg e]at hu;rcases List.mem_append.1 hu with hu|hu
  .obtain⟨k,hk,hu⟩:=List.mem_flatMap.1 hu;rw[List.mem_range'_1]at hk;obtain⟨x,hx⟩:=get_some (show k<l.length by omega);refine ih hu b2 ?_ (by omega);rw[Vw hx];refine acf ?_ (hpre (show k+1<=aR l i by omega));grind [ah,acf]
  .exact ih hu b2 (hs.trans (hpre (by omega))) (by omega)
end Go.Proofs.Tryz
end
