/- Texts that the last one of this claim rests on: a layer over the guide's own conditions for code; contracts of the functions that the law reaches, one by one. No conditions beside those of the given rows. -/
import Derived.ProofKit
import Derived.OpenShut
import Derived.Carry
import Derived.Test.YtbooehmmhbioaaaGreatDoorWab
set_option linter.unusedSimpArgs false
set_option linter.unusedVariables false
section
namespace Go.Av
open Go
def C0 :Ctx:=⟨λ_=>none,0⟩
def OfT (P:Program):Nat→TypeId→AV→Prop
 |0,_,_=>False
 |n+1,t,a=>match P.underlying t with
  |some .bool=>∃ b,a= .bool b
  |some (.int k)=>∃ m,a= .int k m∧(Lit.int k m).wf=true
  |some .string=>∃ l,a= .str l∧l.length≤reachBytes
  |some (.slice e)=>∃ xs,a= .sl e xs∧(xs.length≤reachBytes∧xs.length*P.bytesOf e≤reachBytes)∧ ∀x∈xs,OfT P n e x
  |some (.struct fs)=>∃ xs,a= .agg t xs∧xs.length=fs.size∧ ∀(i:Nat) (f:Field) (x:AV),fs[i]?=some f→xs[i]?=some x→OfT P n f.type x
  |some (.array m e)=>∃ xs,a= .agg t xs∧xs.length=m∧ ∀x∈xs,OfT P n e x
  |_=>False
mutual
def jO :AV→Nat
 | .str l=>l.length+1
 | .sl _ xs=>jo xs+1
 | .agg _ xs=>jo xs+1
 |_=>1
def jo :List AV→Nat
 |[]=>0
 |x::r=>jO x+jo r
end
mutual
def jS {H:Type}:DataW H→Nat
 | .lit (.string bytes)=>bytes.length+1
 | .slice elems spare=>k9 elems+k9 spare+1
 | .agg parts=>k9 parts+1
 |_=>1
def k9 {H:Type}:List (DataW H)→Nat
 |[]=>0
 |d::r=>jS d+k9 r
end
theorem pO {H:Type}: ∀{ys:List AV} {ds:List (DataW H)},ys.length=ds.length→(∀(i:Nat) (y:AV) (d:DataW H),ys[i]?=some y→ds[i]?=some d→jO y≤jS d)→jo ys≤k9 ds
 |[],_,_,_=>by simp[jo]
 |_::_,[],h,_=>by simp at h
 |y::ys,d::ds,h,hk=>by
  rw[jo,k9]
  have h1:=hk 0 y d rfl rfl
  have h2:=pO (ys:=ys) (ds:=ds) (by simpa using h) λi y' d' h1 h2=>hk (i+1) y' d' (by simpa using h1) (by simpa using h2)
  omega
def oN (P:Program):Nat→TypeId→Bool
 |0,_=>false
 |n+1,t=>Nat.ble 1 (af P t)&&match P.underlying t with
  |some .bool|some (.int _)|some .string=>cD P t
  |some (.slice e)=>cD P t&&Nat.ble 1 (P.bytesOf e)&&oN P n e
  |some (.struct fs)=>(bp P t).isSome&&fs.toList.all λf=>oN P n f.type
  |some (.array _ e)=>(bp P t).isSome&&oN P n e
  |_=>false
section
variable {H :Type}{enc:TypeId×Value→H}{P:Program}{w:World}{base:Nat}{spare:Nat→Bool}{held:Bool}
theorem qg : ∀{ts:List TypeId} {ds:List (DataW H)},(∀n∈DataW.weightsEach P ts ds,n≤reachBytes)→ ∀(i:Nat) (t:TypeId) (d:DataW H),ts[i]?=some t→ds[i]?=some d→ ∀n∈d.weights P t,n≤reachBytes
 |[],_,_,i,t,d,ht,_=>by simp at ht
 |_::_,[],_,i,t,d,_,hd=>by simp at hd
 |t::ts,d::ds,h,i,t',d',ht,hd=>by
  cases i with
  |zero=>
   simp at ht hd;subst ht hd
   exact λn hn=>h n (by rw[DataW.weightsEach];simp[hn])
  |succ i=>exact qg (ts:=ts) (ds:=ds) (λn hn=>h n (by rw[DataW.weightsEach];simp[hn])) i t' d' (by simpa using ht) (by simpa using hd)
theorem sj {e:TypeId}: ∀{ds:List (DataW H)},(∀n∈DataW.weightsAll P e ds,n≤reachBytes)→ ∀(i:Nat) (d:DataW H),ds[i]?=some d→ ∀n∈d.weights P e,n≤reachBytes
 |[],_,i,d,hd=>by simp at hd
 |d::ds,h,i,d',hd=>by
  cases i with
  |zero=>
   simp at hd;subst hd
   exact λn hn=>h n (by rw[DataW.weightsAll];simp[hn])
  |succ i=>exact sj (ds:=ds) (λn hn=>h n (by rw[DataW.weightsAll];simp[hn])) i d' (by simpa using hd)
theorem jd (t:TypeId):P.cellsOf t=af P t:=by
 unfold Program.cellsOf af
 cases P.info? t<;>rfl
theorem mq {α:Type} [Inhabited α] {n:Nat}{p:Nat→α→Prop}(h: ∀i,i<n→ ∃a,p i a): ∃xs:List α,xs.length=n∧ ∀(i:Nat) (a:α),xs[i]?=some a→p i a:=by
 refine⟨(List.range n).map λi=>Classical.epsilon (p i),by simp,λi a hi=>?_⟩
 rw[List.getElem?_map]at hi
 have hl:i<n:=by
  by_cases hl:i<n
  ·exact hl
  ·rw[List.getElem?_eq_none (by simp;omega)]at hi;cases hi
 rw[List.getElem?_range hl]at hi
 cases hi
 exact Classical.epsilon_spec (h i hl)
theorem vK {a:Addr}{n:Nat}{cs:List Value}(h:w.cells? base a n=some cs)(hn:0<n):cs.length=n∧ ∃b o,a=⟨b,o,none⟩∧ ∀j c,cs[j]?=some c→w.cell? ⟨b,o+j,none⟩=some c:=by
 unfold World.cells? at h
 split at h
 ·have hl:=mapM_some_length h
  simp at hl
  have hg: ∀j,j<n→w.cell? (a.add j)=cs[j]?:=λj hj=>mapM_some_get h j j (by simp[hj])
  obtain⟨b,o,s⟩:=a
  have hs:s=none:=by
   have h0:=hg 0 hn
   rw[List.getElem?_eq_getElem (by omega)]at h0
   have:=World.cell?_spot h0
   simpa[Addr.add]using this
  subst hs
  refine⟨hl,b,o,rfl,λj c hj=>?_⟩
  have hjl:j<n:=by rw[←hl];exact(List.getElem?_eq_some_iff.1 hj).1
  have:=hg j hjl
  rw[Addr.add_lit]at this
  rw[this,hj]
 ·cases h
theorem wF {b o:Nat}{cs:List Value}(h: ∀j c,cs[j]?=some c→w.cell? ⟨b,o+j,none⟩=some c):Cells w C0 b o cs:=λj c hj=>by
 have h1:=h j c hj
 refine⟨h1,?_,λid ow hm=>by simp[C0]at hm⟩
 by_cases hb:b<w.heap.size
 ·exact hb
 ·simp only[World.cell?]at h1
  rw[Array.getElem?_eq_none (by omega)]at h1
  cases h1
theorem Ji {cs:List Value}{n d i:Nat}{u:Value}(h:((cs.drop d).take n)[i]?=some u):cs[d+i]?=some u∧i<n:=by
 rw[List.getElem?_take]at h
 split at h
 ·rename_i hi
  rw[List.getElem?_drop]at h
  exact⟨h,hi⟩
 ·cases h
theorem s9 (ts:List TypeId): ∀(n k:Nat),n≤ts.length→k<ba P ts n→ ∃i ty,ts[i]?=some ty∧i<n∧ba P ts i≤k∧k<ba P ts i+af P ty
 |0,k,_,h=>by simp[ba]at h
 |n+1,k,hn,h=>by
  obtain⟨ty,hty⟩: ∃ty,ts[n]?=some ty:=⟨_,List.getElem?_eq_getElem (by omega)⟩
  rw[jr hty]at h
  by_cases hk:k<ba P ts n
  ·obtain⟨i,ty',h1,h2,h3,h4⟩:=s9 ts n k (by omega) hk
   exact⟨i,ty',h1,by omega,h3,h4⟩
  ·exact⟨n,ty,hty,by omega,by omega,h⟩
theorem G9 {t:TypeId}{ts:List TypeId}{xs:List AV}{cs:List Value}(hf:bp P t=some ts)(hl:xs.length=ts.length)(hc:cs.length=af P t)
  (h: ∀(i:Nat) (x:AV) (ty:TypeId),xs[i]?=some x→ts[i]?=some ty→Rel P w C0 x ((cs.drop (ba P ts i)).take (af P ty))∧fits P ty x∧((cs.drop (ba P ts i)).take (af P ty)).length=af P ty):Rel P w C0 (.agg t xs) cs:=by
 have hty: ∀(i:Nat) (x:AV),xs[i]?=some x→ ∃ty,ts[i]?=some ty:=λi x hx=>⟨_,List.getElem?_eq_getElem (by rw[←hl];exact(List.getElem?_eq_some_iff.1 hx).1)⟩
 refine .agg (λi=>match ts[i]? with|some ty=>(cs.drop (ba P ts i)).take (af P ty)|none=>[]) hf hl hc (λc hm=>?_) (λi x hx=>?_) (λi x ty hx hty'=>?_)
 ·obtain⟨k,hk,rfl⟩:=List.mem_iff_getElem.1 hm
  have hk':k<ba P ts ts.length:=by rw[←ij hf,←hc];exact hk
  obtain⟨i,ty,h1,h2,h3,h4⟩:=s9 ts ts.length k (Nat.le_refl _) hk'
  obtain⟨x,hx⟩: ∃x,xs[i]?=some x:=⟨_,List.getElem?_eq_getElem (by omega)⟩
  refine(h i x ty hx h1).1.ky _ (List.mem_iff_getElem?.2 ⟨k-ba P ts i,?_⟩)
  rw[List.getElem?_take_of_lt (by omega),List.getElem?_drop,show ba P ts i+(k-ba P ts i)=k by omega,List.getElem?_eq_getElem hk]
 ·obtain⟨ty,ht⟩:=hty i x hx
  simp only[ht]
  exact(h i x ty hx ht).1
 ·simp only[hty']
  obtain⟨h1,h2,h3⟩:=h i x ty hx hty'
  exact⟨h3,h2,λj u hj=>(Ji hj).1⟩
theorem sb : ∀(m fuel:Nat) (t:TypeId) (cs:List Value) (x:DataW H×List MemPlace),oN P m t=true→DataW.trod enc P w base spare held fuel t cs=some x→(∀n∈x.1.weights P t,n≤reachBytes)→
  ∃a,OfT P m t a∧Rel P w C0 a cs∧fits P t a∧cs.length=af P t∧jO a≤jS x.1
 |0,_,_,_,_,h,_,_=>by simp[oN]at h
 |m+1,0,_,_,_,_,h,_=>by simp[DataW.trod]at h
 |m+1,fuel+1,t,cs,x,hr,h,hw=>by
  rw[oN,Bool.and_eq_true]at hr
  obtain⟨hsz,hr⟩:=hr
  have hsz:=Nat.le_of_ble_eq_true hsz
  have psz:cD P t=true→af P t=1:=λhp=>by
   unfold cD at hp
   split at hp
   ·cases hp
   ·cases hp
   ·cases hp
   ·simpa using hp
  cases hu:P.underlying t with
  |none=>rw[hu]at hr;simp at hr
  |some U=>
   rw[hu]at hr
   cases U with
   |bool=>
    unfold DataW.trod at h
    rw[hu]at h
    dsimp only at hr
    split at h<;>simp_all
    rename_i b
    obtain⟨rfl,_⟩:=h
    exact⟨.bool b,by simp[OfT,hu],.bool b,⟨rfl,hr⟩,by simp[jO,jS]⟩
   |int k=>
    unfold DataW.trod at h
    rw[hu]at h
    dsimp only at hr
    split at h<;>simp_all
    obtain⟨⟨h1,h2⟩,h3⟩:=h
    exact⟨.int _ _,by simp[OfT,hu,h2],.int _ _,⟨rfl,hr⟩,by rw[←h3];simp[jO,jS]⟩
   |string=>
    unfold DataW.trod at h
    rw[hu]at h
    dsimp only at hr
    split at h<;>simp_all
    rename_i s
    obtain⟨h1,h2⟩:=h
    have hw2:s.data.toList.length≤reachBytes:=hw _ (by rw[←h2];simp[DataW.weights])
    exact⟨.str s.data.toList,by simp[OfT,hu];exact hw2,by have:=Rel.str (P:=P) (w:=w) (C:=C0) (l:=s.data.toList) (by simpa using h1);simpa using this,⟨rfl,hr⟩,by rw[←h2];simp[jO,jS]⟩
   |slice e=>
    rw[Bool.and_eq_true,Bool.and_eq_true]at hr
    obtain⟨⟨hp,hby⟩,he⟩:=hr
    have hby:=Nat.le_of_ble_eq_true hby
    have hs1:=psz hp
    have hes:0<af P e:=by
     cases m with
     |zero=>simp[oN]at he
     |succ m=>rw[oN,Bool.and_eq_true]at he;exact Nat.le_of_ble_eq_true he.1
    rcases DataW.trod_slice hu h with⟨rfl,hx0⟩|⟨a,len,cap,elems,rest,n,hn,rfl,hxe,hb,hlc,hcm,hel,hE,_⟩
    ·refine⟨.sl e [],by simp[OfT,hu],?_,⟨rfl,hp⟩,by simp[hs1],by rw[hx0];simp[jO,jo,jS]⟩
     exact .sl (xs:=[]) (λ_=>[]) (Nat.zero_le _) (Nat.zero_le _) (by simp) (by simp) (λh=>absurd h (by simp))
    ·have hwl:(len≤reachBytes∧len*P.bytesOf e≤reachBytes)∧ ∀(i:Nat) (d:DataW H),(elems.map (·.1))[i]?=some d→ ∀n∈d.weights P e,n≤reachBytes:=by
      rw[hxe]at hw
      simp only[DataW.weights,hu]at hw
      refine⟨?_,sj λn hn=>hw n (by simp[hn])⟩
      have h0:=hw ((elems.map (·.1)).length+(rest.map (·.1)).length |> (· *P.bytesOf e)) (by simp)
      have h1:len*1≤((elems.map (·.1)).length+(rest.map (·.1)).length)*P.bytesOf e:=Nat.mul_le_mul (by simp[hel]) hby
      have h2:len*P.bytesOf e≤((elems.map (·.1)).length+(rest.map (·.1)).length)*P.bytesOf e:=Nat.mul_le_mul_right _ (by simp[hel])
      simp only at h0
      exact⟨by omega,Nat.le_trans h2 h0⟩
     have key: ∀i,i<len→ ∃y:AV×List Value,OfT P m e y.1∧Rel P w C0 y.1 y.2∧fits P e y.1∧y.2.length=af P e∧w.cells? base (a.add (i*af P e)) (af P e)=some y.2∧ ∀d,(elems.map (·.1))[i]?=some d→jO y.1≤jS d:=λi hi=>by
      have h1:=hE i hi
      rw[jd,List.getElem?_eq_getElem (by omega)]at h1
      cases hc:w.cells? base (a.add (i*af P e)) (af P e)with
      |none=>rw[hc]at h1;cases h1
      |some cs=>
       rw[hc,Option.bind_some]at h1
       obtain⟨y,g1,g2,g3,g4,g5⟩:=sb m n e cs _ he h1 (hwl.2 i _ (by rw[List.getElem?_map,List.getElem?_eq_getElem (by omega)];rfl))
       exact⟨(y,cs),g1,g2,g3,g4,rfl,λd hd=>by
        rw[List.getElem?_map,List.getElem?_eq_getElem (by omega)]at hd
        cases hd
        exact g5⟩
     obtain⟨ys,hyl,hy⟩:=mq key
     have hab:0<len→ ∃b o,a=⟨b,o,none⟩:=λhl=>by
      obtain⟨y,_,_,_,_,hc,_⟩:=key 0 hl
      obtain⟨_,b,o,hao,_⟩:=vK hc hes
      obtain⟨b',o',s'⟩:=a
      simp[Addr.add]at hao
      exact⟨b',o',by simp[hao.2.2]⟩
     refine⟨.sl e (ys.map (·.1)),?_,?_,⟨rfl,hp⟩,by simp[hs1],?_⟩
     ·simp only[OfT,hu]
      refine⟨_,rfl,by rw[List.length_map,hyl];exact hwl.1,λx hx=>?_⟩
      obtain⟨y,hy1,rfl⟩:=List.mem_map.1 hx
      obtain⟨i,hi⟩:=List.mem_iff_getElem?.1 hy1
      exact(hy i y hi).1
     ·have hml:(ys.map (·.1)).length=len:=by rw[List.length_map,hyl]
      have hget: ∀(i:Nat) (x:AV),(ys.map (·.1))[i]?=some x→ ∃y,ys[i]?=some y∧x=y.1:=λi x hx=>by
       rw[List.getElem?_map]at hx
       cases hyi:ys[i]? with
       |none=>rw[hyi]at hx;cases hx
       |some y=>rw[hyi]at hx;cases hx;exact⟨y,rfl,rfl⟩
      have:Rel P w C0 (.sl e (ys.map (·.1))) [.slice (some a) (ys.map (·.1)).length cap]:=by
       refine .sl (λi=>((ys[i]?).map (·.2)).getD []) (by omega) hcm (λi x hx=>?_) (λi x hx=>?_) (λhpos=>?_)
       ·obtain⟨y,h1,rfl⟩:=hget i x hx
        rw[h1]
        exact(hy i y h1).2.1
       ·obtain⟨y,h1,rfl⟩:=hget i x hx
        rw[h1]
        exact⟨(hy i y h1).2.2.2.1,(hy i y h1).2.2.1⟩
       ·obtain⟨b,o,rfl⟩:=hab (by omega)
        refine⟨b,o,rfl,λi hi=>?_⟩
        obtain⟨y,h1⟩: ∃y,ys[i]?=some y:=⟨_,List.getElem?_eq_getElem (by rw[hyl,←hml];exact hi)⟩
        show Cells w C0 b _ (((ys[i]?).map (·.2)).getD [])
        rw[h1]
        have h2:=(hy i y h1).2.2.2.2.1
        rw[Addr.add_lit]at h2
        obtain⟨_,b',o',e1,h3⟩:=vK h2 hes
        cases e1
        exact wF h3
      rw[hml]at this
      exact this
     ·rw[hxe,jO,jS]
      have:=pO (ys:=ys.map (·.1)) (ds:=elems.map (·.1)) (by rw[List.length_map,List.length_map,hyl,hel]) λi y d h1 h2=>by
       rw[List.getElem?_map,Option.map_eq_some_iff]at h1
       obtain⟨y',h3,rfl⟩:=h1
       exact(hy i y' h3).2.2.2.2.2 d h2
      omega
   |struct fs=>
    rw[Bool.and_eq_true]at hr
    obtain⟨hfl,hfs⟩:=hr
    obtain⟨ts,hts⟩:=Option.isSome_iff_exists.1 hfl
    obtain⟨xs,n,hn,hxe,hcl,hxl,hX⟩:=DataW.trod_struct hu h
    rw[hxe]at hw
    simp only[DataW.weights,hu]at hw
    rw[jd]at hcl
    have hts':=hts
    unfold bp at hts'
    rw[hu]at hts'
    dsimp only at hts'
    split at hts'
    ·rename_i hok
     rw[Bool.and_eq_true]at hok
     cases hts'
     have key: ∀i,i<fs.toList.length→ ∃y:AV,∀f,fs.toList[i]?=some f→OfT P m f.type y∧Rel P w C0 y ((cs.drop (ba P (fs.toList.map (·.type)) i)).take (af P f.type))∧fits P f.type y∧((cs.drop (ba P (fs.toList.map (·.type)) i)).take (af P f.type)).length=af P f.type∧ ∀d,(xs.map (·.1))[i]?=some d→jO y≤jS d:=λi hi=>by
      have hf:fs.toList[i]?=some fs.toList[i]:=List.getElem?_eq_getElem hi
      have h1:=hX i fs.toList[i] (by rw[←hf];simp)
      rw[jd,List.getElem?_eq_getElem (by rw[hxl];simpa using hi)]at h1
      have hoff:=oc fs.toList 0 (af P t) hok.1 i _ hf
      have hoff':fs.toList[i].offset=ba P (fs.toList.map (·.type)) i:=by
       rw[hoff,ba,←List.map_take,List.map_map]
       simp[Function.comp_def]
      rw[hoff']at h1
      obtain⟨y,g1,g2,g3,g4,g5⟩:=sb m n _ _ _ (List.all_eq_true.1 hfs _ (List.getElem_mem hi)) h1 (qg hw i _ _ (by rw[List.getElem?_map,hf];rfl) (by rw[List.getElem?_map,List.getElem?_eq_getElem (by rw[hxl];simpa using hi)];rfl))
      exact⟨y,λf hf'=>by
       rw[hf]at hf'
       cases hf'
       exact⟨g1,g2,g3,g4,λd hd=>by
        rw[List.getElem?_map,List.getElem?_eq_getElem (by rw[hxl];simpa using hi)]at hd
        cases hd
        exact g5⟩⟩
     obtain⟨ys,hyl,hy⟩:=mq key
     have hget: ∀(i:Nat) (y:AV) (ty:TypeId),ys[i]?=some y→(fs.toList.map (·.type))[i]?=some ty→ ∃f,fs.toList[i]?=some f∧ty=f.type:=λi y ty _ hty=>by
      rw[List.getElem?_map]at hty
      cases hf:fs.toList[i]? with
      |none=>rw[hf]at hty;cases hty
      |some f=>rw[hf]at hty;cases hty;exact⟨f,rfl,rfl⟩
     refine⟨.agg t ys,?_,G9 hts (by rw[hyl,List.length_map]) hcl (λi y ty hyi hty=>?_),⟨rfl,hfl⟩,hcl,?_⟩
     ·simp only[OfT,hu]
      refine⟨ys,rfl,by rw[hyl];simp,λi f x hf hx=>(hy i x hx f (by simpa using hf)).1⟩
     ·obtain⟨f,hf,rfl⟩:=hget i y ty hyi hty
      obtain⟨_,g2,g3,g4,_⟩:=hy i y hyi f hf
      exact⟨g2,g3,g4⟩
     ·rw[hxe,jO,jS]
      have:=pO (ys:=ys) (ds:=xs.map (·.1)) (by rw[List.length_map,hyl,hxl];simp) λi y d h1 h2=>by
       obtain⟨f,hf⟩: ∃f,fs.toList[i]?=some f:=⟨_,List.getElem?_eq_getElem (by rw[←hyl];exact(List.getElem?_eq_some_iff.1 h1).1)⟩
       exact(hy i y h1 f hf).2.2.2.2 d h2
      omega
    ·cases hts'
   |array k e=>
    rw[Bool.and_eq_true]at hr
    obtain⟨hfl,hfs⟩:=hr
    obtain⟨ts,hts⟩:=Option.isSome_iff_exists.1 hfl
    obtain⟨xs,n,hn,hxe,hcl,hxl,hX⟩:=DataW.trod_array hu h
    rw[hxe]at hw
    simp only[DataW.weights,hu]at hw
    rw[jd]at hcl
    have hts':=hts
    unfold bp at hts'
    rw[hu]at hts'
    dsimp only at hts'
    split at hts'
    ·cases hts'
     have key: ∀i,i<k→ ∃y:AV,OfT P m e y∧Rel P w C0 y ((cs.drop (i*af P e)).take (af P e))∧fits P e y∧((cs.drop (i*af P e)).take (af P e)).length=af P e∧ ∀d,(xs.map (·.1))[i]?=some d→jO y≤jS d:=λi hi=>by
      have h1:=hX i hi
      rw[jd,List.getElem?_eq_getElem (by omega)]at h1
      obtain⟨y,g1,g2,g3,g4,g5⟩:=sb m n _ _ _ hfs h1 (sj hw i _ (by rw[List.getElem?_map,List.getElem?_eq_getElem (by omega)];rfl))
      exact⟨y,g1,g2,g3,g4,λd hd=>by
       rw[List.getElem?_map,List.getElem?_eq_getElem (by omega)]at hd
       cases hd
       exact g5⟩
     obtain⟨ys,hyl,hy⟩:=mq key
     refine⟨.agg t ys,?_,G9 hts (by rw[hyl,List.length_replicate]) hcl (λi y ty hyi hty=>?_),⟨rfl,hfl⟩,hcl,?_⟩
     ·simp only[OfT,hu]
      refine⟨ys,rfl,hyl,λx hx=>?_⟩
      obtain⟨i,hi⟩:=List.mem_iff_getElem?.1 hx
      exact(hy i x hi).1
     ·have hik:i<k:=by rw[←hyl];exact(List.getElem?_eq_some_iff.1 hyi).1
      rw[List.getElem?_replicate_of_lt hik]at hty
      cases hty
      rw[dm _ _ _ (by omega)]
      exact⟨(hy i y hyi).2.1,(hy i y hyi).2.2.1,(hy i y hyi).2.2.2.1⟩
     ·rw[hxe,jO,jS]
      have:=pO (ys:=ys) (ds:=xs.map (·.1)) (by rw[List.length_map,hyl,hxl]) λi y d h1 h2=>(hy i y h1).2.2.2.2 d h2
      omega
    ·cases hts'
   |_=>simp at hr
theorem ON {m base':Nat}{t:TypeId}{v:Value}{d:DataW H}{ps:List MemPlace}(hr:oN P m t=true)(hv:Value.okWide P w .any base' t v)(h:DataW.Trod enc P w base spare held t v d ps)(hw: ∀n∈d.weights P t,n≤reachBytes): ∃a,OfT P m t a∧aF P w C0 a v∧jO a≤jS d:=by
 obtain⟨fuel,h⟩:=h
 obtain⟨a,h1,h2,h3,h4,h5⟩:=sb m fuel t _ _ hr h hw
 refine⟨a,h1,?_,h5⟩
 cases m with
 |zero=>simp[oN]at hr
 |succ m=>
  have hone:a.aX=true→(∀cs,v≠ .agg cs)→aF P w C0 a v:=λho hn=>by
   have:v.cells.toList=[v]:=by cases v<;>first|rfl|exact absurd rfl (hn _)
   rw[this]at h2
   exact .one ho h2
  rw[oN,Bool.and_eq_true]at hr
  obtain⟨_,hr⟩:=hr
  unfold Value.okWide at hv
  unfold OfT at h1
  cases hu:P.underlying t with
  |none=>rw[hu]at h1;exact h1.elim
  |some U=>
   rw[hu]at h1 hv hr
   cases U<;>dsimp only at h1 hv hr<;>try exact h1.elim
   case struct=>
    obtain⟨xs,rfl,_⟩:=h1
    obtain⟨cs,rfl,_⟩:=hv
    have:=aF.agg (P:=P) (w:=w) (C:=C0) h2
    simpa[Value.cells]using this
   case array=>
    obtain⟨xs,rfl,_⟩:=h1
    obtain⟨cs,rfl,_⟩:=hv
    have:=aF.agg (P:=P) (w:=w) (C:=C0) h2
    simpa[Value.cells]using this
   case bool=>
    obtain⟨b,rfl⟩:=h1
    exact hone rfl λcs e=>by subst e;simp[Cell.okWide,hu,Cell.ok]at hv
   case int=>
    obtain⟨b,rfl,_⟩:=h1
    exact hone rfl λcs e=>by subst e;simp[Cell.okWide,hu,Cell.ok]at hv
   case string=>
    obtain⟨b,rfl,_⟩:=h1
    exact hone rfl λcs e=>by subst e;simp[Cell.okWide,hu,Cell.ok]at hv
   case slice=>
    obtain⟨b,rfl,_⟩:=h1
    exact hone rfl λcs e=>by subst e;simp[Cell.okWide,hu,Cell.ok]at hv
def ui (P:Program)(n:Nat):List TypeId→List AV→Prop
 |[],[]=>True
 |t::ts,x::xs=>OfT P n t x∧ui P n ts xs
 |_,_=>False
theorem ui.of {n:Nat}: ∀{ts:List TypeId} {xs:List AV},xs.length=ts.length→(∀(i:Nat) (t:TypeId) (x:AV),ts[i]?=some t→xs[i]?=some x→OfT P n t x)→ui P n ts xs
 |[],[],_,_=>trivial
 |[],_::_,h,_=>by simp at h
 |_::_,[],h,_=>by simp at h
 |t::ts,x::xs,h,hx=>⟨hx 0 t x rfl rfl,ui.of (by simpa using h) λi t' x' h1 h2=>hx (i+1) t' x' (by simpa using h1) (by simpa using h2)⟩
theorem sQ {n:Nat}{t:TypeId}{ts:List TypeId}{a:AV}(hf:bp P t=some ts)(h:OfT P (n+1) t a): ∃xs,a= .agg t xs∧ui P n ts xs:=by
 unfold bp at hf
 rw[OfT]at h
 split at hf
 ·rename_i fs hu
  rw[hu]at h
  split at hf
  ·cases hf
   obtain⟨xs,h1,h2,h3⟩:=h
   refine⟨xs,h1,ui.of (by rw[h2];simp) λi ty x ht hx=>?_⟩
   rw[List.getElem?_map]at ht
   cases hi:fs.toList[i]? with
   |none=>rw[hi]at ht;cases ht
   |some f=>
    rw[hi]at ht
    cases ht
    exact h3 i f x (by simpa using hi) hx
  ·cases hf
 ·rename_i m e hu
  rw[hu]at h
  split at hf
  ·cases hf
   obtain⟨xs,h1,h2,h3⟩:=h
   refine⟨xs,h1,ui.of (by rw[h2];simp) λi ty x ht hx=>?_⟩
   have hi:i<m:=by
    have:=(List.getElem?_eq_some_iff.1 ht).1
    simpa using this
   rw[List.getElem?_replicate_of_lt hi]at ht
   cases ht
   exact h3 x (List.mem_of_getElem? hx)
  ·cases hf
 ·cases hf
theorem Hw {n:Nat}{t e:TypeId}{a:AV}(hf:elT P t=some e)(h:OfT P (n+1) t a): ∃xs,a= .sl e xs∧xs.length≤reachBytes∧ ∀x∈xs,OfT P n e x:=by
 rw[OfT,cr hf]at h
 obtain⟨xs,h1,h2,h3⟩:=h
 exact⟨xs,h1,h2.1,h3⟩
theorem mD {n:Nat}{t:TypeId}{a:AV}(hf:cc P t=true)(h:OfT P (n+1) t a): ∃l,a= .str l∧l.length≤reachBytes:=by
 unfold cc at hf
 rw[OfT]at h
 split at hf
 ·rename_i hu
  rw[hu]at h
  exact h
 ·cases hf
theorem zg {n:Nat}{t:TypeId}{a:AV}(hf:iN P t=true)(h:OfT P (n+1) t a): ∃b,a= .bool b:=by
 unfold iN at hf
 rw[OfT]at h
 split at hf
 ·rename_i hu
  rw[hu]at h
  exact h
 ·cases hf
theorem CL {n:Nat}{t:TypeId}{k:IntKind}{a:AV}(hf:iQ P t=some k)(h:OfT P (n+1) t a): ∃m,a= .int k m∧(Lit.int k m).wf=true:=by
 unfold iQ at hf
 rw[OfT]at h
 split at hf
 ·rename_i hu
  rw[hu]at h
  cases hf
  exact h
 ·cases hf
theorem all_map {α:Type}{f:α→AV}: ∀{xs:List AV},(∀x∈xs,∃p,x=f p)→ ∃ps:List α,xs=ps.map f
 |[],_=>⟨[],rfl⟩
 |x::xs,h=>by
  obtain⟨p,rfl⟩:=h x (by simp)
  obtain⟨ps,rfl⟩:=all_map (xs:=xs) λy hy=>h y (by simp[hy])
  exact⟨p::ps,rfl⟩
theorem mL {α:Type}{f:α→AV}{n:Nat}{t e:TypeId}{a:AV}(he:elT P t=some e)(hf: ∀x,OfT P n e x→ ∃p,x=f p)(h:OfT P (n+1) t a): ∃ps:List α,a= .sl e (ps.map f)∧ps.length≤reachBytes:=by
 obtain⟨xs,rfl,hl,hx⟩:=Hw he h
 obtain⟨ps,rfl⟩:=all_map λx hm=>hf x (hx x hm)
 exact⟨ps,rfl,by simpa using hl⟩
end
end Go.Av
end
section
namespace Go.Av
open Go Go.ChangeShapes Go.WideShapes Go.RowKit
section
variable {H :Type}{enc:TypeId×Value→H}{P:Program}{W W':World}
theorem AD {f:FuncId}{fn:Func}{vs:Array Value}{w:World}{R:Ending→World→Prop}(hf:P.funcs[f]?=some fn)(hb:fn.body.isSome=true)(h:DO P f vs w R):Calls P f vs w R:=by
 rcases h with⟨_,h⟩|⟨v,w',h1,_⟩
 ·exact h
 ·exfalso
  have hbn:fn.body.isNone=false:=by cases hb2:fn.body<;>simp_all
  have hp:(program).run P w= .ok P w:=rfl
  simp only[callFunc,Sem.run_bind,hp,Result.andThen_ok,hf,hbn,Bool.false_eq_true,if_false]at h1
  split at h1<;>simp[Sem.run_pure]at h1
theorem C9 (W:World):aB P W W C0 [] where
 base:=Below.refl _ _
 low:=λi ow h=>by simp[C0]at h
 nx:=rfl
 inj:=λi j a b h=>by simp[C0]at h
 dom:=λi ow h=>by simp[C0]at h
 obj:=λi=>by simp[C0,fM]
theorem ag.calls {f:FuncId}{fn:Func}{ws:List AV}{r:AV}{vs:Array Value}(h:ag P W f ws r)(hf:P.funcs[f]?=some fn)(hb:fn.body.isSome=true)(hl:ws.length=vs.size)
  (hv: ∀(i:Nat) (a:AV) (v:Value),ws[i]?=some a→vs[i]?=some v→aF P W C0 a v):Calls P f vs W λe W'=>∃ v C',e= .returned v∧aF P W' C' r v∧Below W.heap.size W W':=by
 have h0:=h [] W C0 vs.toList (C9 W) (by simpa using hl) (λi a v ha hv'=>hv i a v ha (by simpa using hv'))
 rw[Array.toArray_toList]at h0
 refine(AD hf hb h0).mono λe W' ⟨v,r',σ',C',he,⟨h1,h2⟩,hst,hr,hs⟩=>?_
 subst h1
 exact⟨v,C',he,hr,hst.base⟩
theorem ns (hl:laidOutB P=true){W W':World}(hb:Below W.heap.size W W'): ∀(ts:List TypeId) (vs:List Value) (ds:List (DataW H)) (p:List MemPlace),ts.all (λt=>P.readableRec t&&decide (t<P.types.size))=true→(∀x∈p,x.block<W.heap.size)→
  DataW.TrodAll enc P W 0 (λ_=>true) true ts vs ds p→DataW.TrodAll enc P W' 0 (λb=>decide (b<W.heap.size)) true ts vs ds p
 |[],vs,ds,p,_,_,h=>by
  obtain⟨rfl,rfl,rfl⟩:=trodAll_nil h
  exact trodAll_mk0
 |t::ts,vs,ds,p,hr,hp,h=>by
  obtain⟨v,vs',d,ds',a,b,rfl,rfl,rfl,h1,h2⟩:=trodAll_cons h
  rw[List.all_cons,Bool.and_eq_true,Bool.and_eq_true]at hr
  exact trodAll_cons_mk (Below.trod hl hr.1.1 (of_decide_eq_true hr.1.2) h1 hb λx hx=>hp x (by simp[hx])) (ns hl hb ts vs' ds' b hr.2 (λx hx=>hp x (by simp[hx])) h2)
theorem lQ : ∀{ts:List TypeId} {vs:List Value} {ds:List (DataW H)} {p:List MemPlace} {base:Nat} {spare:Nat→Bool} {held:Bool},DataW.TrodAll enc P W base spare held ts vs ds p→vs.length=ts.length∧ds.length=ts.length
 |[],vs,ds,p,_,_,_,h=>by
  obtain⟨rfl,rfl,_⟩:=trodAll_nil h
  exact⟨rfl,rfl⟩
 |t::ts,vs,ds,p,_,_,_,h=>by
  obtain⟨v,vs',d,ds',a,b,rfl,rfl,_,_,h2⟩:=trodAll_cons h
  have:=lQ h2
  simp[this]
theorem Co {m base:Nat}: ∀(ts:List TypeId) (vs:List Value) (ds:List (DataW H)) (p:List MemPlace) (spare:Nat→Bool),ts.all (oN P m)=true→(∀(j:Nat) t v,ts[j]?=some t→vs[j]?=some v→Value.okWide P W .any base t v)→
  DataW.TrodAll enc P W 0 spare true ts vs ds p→(∀n∈DataW.weightsEach P ts ds,n≤reachBytes)→ ∃ws:List AV,ws.length=ts.length∧(∀(i:Nat) (t:TypeId) (a:AV),ts[i]?=some t→ws[i]?=some a→OfT P m t a)∧(∀(i:Nat) (a:AV) (v:Value),ws[i]?=some a→vs[i]?=some v→aF P W C0 a v)∧jo ws≤k9 ds
 |[],vs,ds,p,_,_,_,h,_=>⟨[],rfl,by simp,by simp,by simp[jo]⟩
 |t::ts,vs,ds,p,spare,hr,hok,h,hw=>by
  obtain⟨v,vs',d,ds',a,b,rfl,rfl,rfl,h1,h2⟩:=trodAll_cons h
  rw[List.all_cons,Bool.and_eq_true]at hr
  obtain⟨x,hx1,hx2,hx3⟩:=ON hr.1 (hok 0 t v rfl rfl) h1 (qg hw 0 t d rfl rfl)
  obtain⟨ws,g1,g2,g3,g4⟩:=Co ts vs' ds' b spare hr.2 (λj t v ht hv=>hok (j+1) t v (by simpa using ht) (by simpa using hv)) h2 (λn hn=>hw n (by rw[DataW.weightsEach];simp[hn]))
  refine⟨x::ws,by simp[g1],λi t' a' ht ha=>?_,λi a' v' ha hv=>?_,by rw[jo,k9];omega⟩
  ·cases i with
   |zero=>simp at ht ha;subst ht ha;exact hx1
   |succ i=>exact g2 i t' a' (by simpa using ht) (by simpa using ha)
  ·cases i with
   |zero=>simp at ha hv;subst ha hv;exact hx2
   |succ i=>exact g3 i a' v' (by simpa using ha) (by simpa using hv)
theorem Dz {fn:Func}{s:ChangeSpec}{args:Array Value}{ds gs:List (DataW H)}{before:List MemPlace}{tb:TypeId}(hl:laidOutB P=true)(hr:fn.params.toList.all (λt=>P.readableRec t&&decide (t<P.types.size))=true)
  (hres:fn.resultTypes= #[tb]) (hbool:P.underlying tb=some .bool) (hvars:s.vars=[]) (hfn: ∀ds:List (DataW H),ds.length=fn.params.toList.length→s.fn H ds={ results:=[.lit (.bool true)],args:=ds })
  (hW:DataW.Whole enc P fn.params.toList s.vars false W args.toList ds gs before) (hb:Below W.heap.size W W'):s.post enc P fn false true false false W args (.bool true) W':=by
 have hlt:=λp hp=>hW.lt p hp
 have hW2:=hW
 obtain⟨p,q,hA,hV,rfl,_,_⟩:=hW
 rw[hvars]at hV
 obtain⟨rfl,rfl⟩:gs=[]∧q=[]:=by
  cases gs with
  |nil=>exact⟨rfl,hV⟩
  |cons d gs=>exact hV.elim
 have e:=hfn ds (lQ hA).2
 refine⟨ds,[],p++[],[],p,[],hW2,?_,?_,?_,hb.frame _,λh=>by cases h⟩
 ·rw[List.append_nil,e,hres]
  exact trodAll_cons_mk (shut_bool hbool _) trodAll_mk0
 ·rw[List.append_nil,e]
  exact ns hl hb _ _ _ _ hr (λx hx=>by simpa using hlt x (by simp[hx])) hA
 ·rw[List.append_nil,e,hvars]
  rfl
theorem ou {vt:List TypeId}{gs:List (DataW H)}: ∀{ts:List TypeId} {ds:List (DataW H)},ds.length=ts.length→DataW.weightsEach P (ts++vt) (ds++gs)=DataW.weightsEach P ts ds++DataW.weightsEach P vt gs
 |[],[],_=>by simp[DataW.weightsEach]
 |[],_::_,h=>by simp at h
 |_::_,[],h=>by simp at h
 |t::ts,d::ds,h=>by
  rw[List.cons_append,List.cons_append,DataW.weightsEach,DataW.weightsEach,ou (by simpa using h),List.append_assoc]
theorem DW {w:World}{C:Ctx}{b:Bool}{v:Value}(h:aF P w C (.bool b) v):v= .bool b:=by
 cases h with
 |one _ h=>cases h;rfl
theorem uH {f:FuncId}{fn:Func}{s:ChangeSpec}{m base:Nat}{args:Array Value}{ds gs:List (DataW H)}{before:List MemPlace}{tb:TypeId}{vt:List TypeId}(hf:P.funcs[f]?=some fn)(hbody:fn.body.isSome=true)
  (hl:laidOutB P=true) (hr:fn.params.toList.all (λt=>P.readableRec t&&decide (t<P.types.size))=true) (hrd:fn.params.toList.all (oN P m)=true)
  (hres:fn.resultTypes= #[tb]) (hbool:P.underlying tb=some .bool) (hvars:s.vars=[]) (hfn: ∀ds:List (DataW H),ds.length=fn.params.toList.length→s.fn H ds={ results:=[.lit (.bool true)],args:=ds })
  (hval: ∀(j:Nat) t v,fn.params[j]?=some t→args[j]?=some v→Value.okWide P W .any base t v)
  (hW:DataW.Whole enc P fn.params.toList s.vars false W args.toList ds gs before) (hwt:(DataW.weightsEach P (fn.params.toList++vt) (ds++gs)).all (· ≤reachBytes)=true)
  (law: ∀ws:List AV,ws.length=fn.params.toList.length→(∀(i:Nat) (t:TypeId) (a:AV),fn.params.toList[i]?=some t→ws[i]?=some a→OfT P m t a)→jo ws≤k9 ds→ag P W f ws (.bool true)):
  Calls P f args W λe W'=>∃ v,e= .returned v∧s.post enc P fn false true false false W args v W':=by
 obtain⟨p,q,hA,_⟩:=id hW
 have hlen:=lQ hA
 rw[ou hlen.2,List.all_append,Bool.and_eq_true]at hwt
 obtain⟨ws,h1,h2,h3,h4⟩:=Co (m:=m) (base:=base) fn.params.toList args.toList ds p _ hrd (λj t v ht hv=>hval j t v (by simpa using ht) (by simpa using hv)) hA (λn hn=>by simpa using List.all_eq_true.1 hwt.1 n hn)
 refine((law ws h1 h2 h4).calls hf hbody (by rw[h1,←hlen.1];simp) λi a v ha hv=>h3 i a v ha (by simpa using hv)).mono λe W' ⟨v,C',he,hrel,hb⟩=>?_
 rw[DW hrel]at he
 exact⟨_,he,Dz hl hr hres hbool hvars hfn hW hb⟩
theorem xl {f:FuncId}{fn:Func}{s:ChangeSpec}{m base:Nat}{args:Array Value}{ds gs:List (DataW H)}{before:List MemPlace}{tb:TypeId}{vt:List TypeId}(hf:P.funcs[f]?=some fn)(hbody:fn.body.isSome=true)
  (hl:laidOutB P=true) (hr:fn.params.toList.all (λt=>P.readableRec t&&decide (t<P.types.size))=true) (hrd:fn.params.toList.all (oN P m)=true)
  (hres:fn.resultTypes= #[tb]) (hbool:P.underlying tb=some .bool) (hvars:s.vars=[]) (hfn: ∀ds:List (DataW H),ds.length=fn.params.toList.length→s.fn H ds={ results:=[.lit (.bool true)],args:=ds })
  (hval: ∀(j:Nat) t v,fn.params[j]?=some t→args[j]?=some v→Value.okWide P W .any base t v)
  (hW:DataW.Whole enc P fn.params.toList s.vars false W args.toList ds gs before) (hwt:(DataW.weightsEach P (fn.params.toList++vt) (ds++gs)).all (· ≤reachBytes)=true)
  (law: ∀ws:List AV,ws.length=fn.params.toList.length→(∀(i:Nat) (t:TypeId) (a:AV),fn.params.toList[i]?=some t→ws[i]?=some a→OfT P m t a)→ag P W f ws (.bool true)):
  Calls P f args W λe W'=>∃ v,e= .returned v∧s.post enc P fn false true false false W args v W':=
 uH hf hbody hl hr hrd hres hbool hvars hfn hval hW hwt λws h1 h2 _=>law ws h1 h2
end
end Go.Av
end
