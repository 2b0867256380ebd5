/- Texts that the last one of this claim rests on: a layer over the guide's own conditions for code; contracts of the functions that the law reaches, one by one. No conditions beside those of the given rows. -/
import Derived.Test.YtbooehmmhbioaaaGreatDoorWah
set_option linter.unusedSimpArgs false
set_option linter.unusedVariables false
section
namespace Go.Proofs.Tryz
open Go Go.Av
theorem IB {l:List Pkg}{t:List Nat}{k:Nat}{x:Pkg}(h:l[k]?=some x):atL l (t++[k])=atL l t++[x]:=by
 simp[atL,List.filterMap_append,h]
theorem DZ {l:List Pkg}: ∀{f i:Nat} {t u:List Nat},u∈dH l f i t→i≤l.length→(atL l t).Sublist (l.take i)→l.length<f+i+1→(atL l u).Sublist l∧fU (atL l u)=true:=by
 intro f
 induction f with
 |zero=>
  intro i t u hu hi hs hf
  have e:i=l.length:=by omega
  subst e
  rw[rp]at hu
  split at hu
  ·rw[List.mem_singleton.1 hu]
   rw[List.take_length]at hs
   exact⟨hs,by assumption⟩
  ·cases hu
 |succ f ih=>
  intro i t u hu hi hs hf
  by_cases e:i=l.length
  ·subst e
   rw[rp]at hu
   split at hu
   ·rw[List.mem_singleton.1 hu]
    rw[List.take_length]at hs
    exact⟨hs,by assumption⟩
   ·cases hu
  obtain⟨p,hp⟩:=get_some (show i<l.length by omega)
  obtain⟨b1,b2⟩:=cM hp
  have hpre: ∀{a b:Nat},a≤b→(l.take a).Sublist (l.take b):=λ{a b} h=>by
   have:=List.take_sublist a (l.take b)
   rwa [List.take_take,Nat.min_eq_left h]at this
  rw[dH,if_neg e]at hu
  rcases List.mem_append.1 hu with hu|hu
  ·obtain⟨k,hk,hu⟩:=List.mem_flatMap.1 hu
   rw[List.mem_range'_1]at hk
   obtain⟨x,hx⟩:=get_some (show k<l.length by omega)
   refine ih hu b2 ?_ (by omega)
   rw[IB hx]
   refine List.Sublist.trans ?_ (hpre (show k+1≤aD l i by omega))
   rw[ai hx]
   exact(hs.trans (hpre hk.1)).append (.refl _)
  ·exact ih hu b2 (hs.trans (hpre (by omega))) (by omega)
end Go.Proofs.Tryz
end
