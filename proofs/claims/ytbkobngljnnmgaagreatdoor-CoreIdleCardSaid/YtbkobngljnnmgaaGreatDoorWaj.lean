/- What the last text of this claim rests on. No conditions. -/
import Derived.ProofKit
import Derived.OpenShut
import Derived.Carry
import Derived.Test.YtbkobngljnnmgaaGreatDoorWab
set_option linter.unusedSimpArgs false
set_option linter.unusedVariables false
open List renaming getElem?_eq_getElem->acG,mem_iff_getElem?->acI,cons_append->acL,append_nil->acM,all_cons->acN
open Bool renaming and_eq_true->acH
open Nat renaming le_of_ble_eq_true->acJ,zero_le->acP
open Option renaming isSome_iff_exists->acK
open Classical renaming epsilon_spec->acO
section
namespace Go.Av
open Go
def C0 :Ctx:=⟨λ_=>none,0⟩
def OfT (P:Program):Nat->TypeId->AV->Prop
 |0,_,_=>False
 |n+1,t,a=>match P.underlying t with
  |some .bool=>∃ b,a= .bool b
  |some (.int k)=>∃ m,a= .int k m/\(Lit.int k m).wf=true
  |some .string=>∃ l,a= .str l/\l.length<=reachBytes
  |some (.slice e)=>∃ xs,a= .sl e xs/\(xs.length<=reachBytes/\xs.length*P.bytesOf e<=reachBytes)/\ ∀x∈xs,OfT P n e x
  |some (.struct fs)=>∃ xs,a= .agg t xs/\xs.length=fs.size/\ ∀(i:Nat) (f:Field) (x:AV),fs[i]?=some f->xs[i]?=some x->OfT P n f.type x
  |some (.array m e)=>∃ xs,a= .agg t xs/\xs.length=m/\ ∀x∈xs,OfT P n e x
  |_=>False
mutual
def lz :AV->Nat
 | .str l=>l.length+1
 | .sl _ xs=>ky xs+1
 | .agg _ xs=>ky xs+1
 |_=>1
def ky :List AV->Nat
 |[]=>0
 |x::r=>lz x+ky r
end
mutual
def lu {H:Type}:DataW H->Nat
 | .lit (.string bytes)=>bytes.length+1
 | .slice elems spare=>mG elems+mG spare+1
 | .agg parts=>mG parts+1
 |_=>1
def mG {H:Type}:List (DataW H)->Nat
 |[]=>0
 |d::r=>lu d+mG r
end
theorem sf {H:Type}: ∀{ys:List AV} {ds:List (DataW H)},ys.length=ds.length->(∀(i:Nat) (y:AV) (d:DataW H),ys[i]?=some y->ds[i]?=some d->lz y<=lu d)->ky ys<=mG ds
 |[],_,_,_=>by simp[ky]
 |_::_,[],h,_=>by simp at h
 |y::ys,d::ds,h,hk=>by
  rw[ky,mG];have h1:=hk 0 y d rfl rfl;have h2:=sf (ys:=ys) (ds:=ds) (by simp_all) λi y' d' h1 h2=>hk (i+1) y' d' (by simp_all) (by simp_all)
  omega
def r5 (P:Program):Nat->TypeId->Bool
 |0,_=>false
 |n+1,t=>Nat.ble 1 (af P t)&&match P.underlying t with
  |some .bool|some (.int _)|some .string=>ck P t
  |some (.slice e)=>ck P t&&Nat.ble 1 (P.bytesOf e)&&r5 P n e
  |some (.struct fs)=>(bt P t).isSome&&fs.toList.all λf=>r5 P n f.type
  |some (.array _ e)=>(bt P t).isSome&&r5 P n e
  |_=>false
section
variable {H :Type}{enc:TypeId×Value->H}{P:Program}{w:World}{base:Nat}{spare:Nat->Bool}{held:Bool}
theorem ta : ∀{ts:List TypeId} {ds:List (DataW H)},(∀n∈DataW.weightsEach P ts ds,n<=reachBytes)-> ∀(i:Nat) (t:TypeId) (d:DataW H),ts[i]?=some t->ds[i]?=some d-> ∀n∈d.weights P t,n<=reachBytes
 |[],_,_,i,t,d,ht,_=>by simp at ht
 |_::_,[],_,i,t,d,_,hd=>by simp at hd
 |t::ts,d::ds,h,i,t',d',ht,hd=>by
  cases i with
  |zero=>
   simp_all[DataW.weightsEach]
  |succ i=>exact ta (ts:=ts) (ds:=ds) (λn hn=>h n (by grind [DataW.weightsEach])) i t' d' (by simp_all) (by simp_all)
theorem yb {e:TypeId}: ∀{ds:List (DataW H)},(∀n∈DataW.weightsAll P e ds,n<=reachBytes)-> ∀(i:Nat) (d:DataW H),ds[i]?=some d-> ∀n∈d.weights P e,n<=reachBytes
 |[],_,i,d,hd=>by simp at hd
 |d::ds,h,i,d',hd=>by
  cases i with
  |zero=>
   simp_all[DataW.weightsAll]
  |succ i=>exact yb (ds:=ds) (λn hn=>h n (by grind [DataW.weightsAll])) i d' (by simp_all)
theorem kY (t:TypeId):P.cellsOf t=af P t:=by
 grind [Program.cellsOf,af]
theorem oU {α:Type} [Inhabited α] {n:Nat}{p:Nat->α->Prop}(h: ∀i,i<n-> ∃a,p i a): ∃xs:List α,xs.length=n/\ ∀(i:Nat) (a:α),xs[i]?=some a->p i a:=by
 refine⟨(List.range n).map λi=>Classical.epsilon (p i),by simp,λi a hi=>?_⟩;rw[List.getElem?_map]at hi;have hl:i<n:=by
  grind
 rw[List.getElem?_range hl]at hi;cases hi;simp_all[acO]
theorem A0 {a:Addr}{n:Nat}{cs:List Value}(h:w.cells? base a n=some cs)(hn:0<n):cs.length=n/\ ∃b o,a=⟨b,o,none⟩/\ ∀j c,cs[j]?=some c->w.cell? ⟨b,o+j,none⟩=some c:=by
 unfold World.cells? at h;split at h
 .have hl:=mapM_some_length h;simp at hl;have hg: ∀j,j<n->w.cell? (a.add j)=cs[j]?:=λj hj=>mapM_some_get h j j (by simp[hj])
  obtain⟨b,o,s⟩:=a;have hs:s=none:=by
   have h0:=hg 0 hn;rw[acG (by omega)]at h0;have:=World.cell?_spot h0;grind [Addr.add]
  grind [Addr.add_lit]
 .cases h
theorem Bv {b o:Nat}{cs:List Value}(h: ∀j c,cs[j]?=some c->w.cell? ⟨b,o+j,none⟩=some c):Cells w C0 b o cs:=λj c hj=>by
 have h1:=h j c hj;refine⟨h1,?_,λid ow hm=>by grind [C0]⟩;grind [World.cell?]
theorem xn (ts:List TypeId): ∀(n k:Nat),n<=ts.length->k<bp P ts n-> ∃i ty,ts[i]?=some ty/\i<n/\bp P ts i<=k/\k<bp P ts i+af P ty
 |0,k,_,h=>by grind [bp]
 |n+1,k,hn,h=>by
  obtain⟨ty,hty⟩: ∃ty,ts[n]?=some ty:=⟨_,acG (by omega)⟩;rw[nb hty]at h;by_cases hk:k<bp P ts n
  .obtain⟨i,ty',h1,h2,h3,h4⟩:=xn ts n k (by omega) hk;grind
  grind
theorem QD {t:TypeId}{ts:List TypeId}{xs:List AV}{cs:List Value}(hf:bt P t=some ts)(hl:xs.length=ts.length)(hc:cs.length=af P t)
  (h: ∀(i:Nat) (x:AV) (ty:TypeId),xs[i]?=some x->ts[i]?=some ty->Rel P w C0 x ((cs.drop (bp P ts i)).take (af P ty))/\fits P ty x/\((cs.drop (bp P ts i)).take (af P ty)).length=af P ty):Rel P w C0 (.agg t xs) cs:=by
 have hty: ∀(i:Nat) (x:AV),xs[i]?=some x-> ∃ty,ts[i]?=some ty:=λi x hx=>⟨_,acG (by grind)⟩
 refine .agg (λi=>match ts[i]? with|some ty=>(cs.drop (bp P ts i)).take (af P ty)|none=>[]) hf hl hc (λc hm=>?_) (λi x hx=>?_) (λi x ty hx hty'=>?_)
 .obtain⟨k,hk,rfl⟩:=List.mem_iff_getElem.1 hm;have hk':k<bp P ts ts.length:=by grind [jy]
  obtain⟨i,ty,h1,h2,h3,h4⟩:=xn ts ts.length k (Nat.le_refl _) hk';obtain⟨x,hx⟩: ∃x,xs[i]?=some x:=⟨_,acG (by omega)⟩;refine(h i x ty hx h1).1.nq _ (acI.2 ⟨k-bp P ts i,?_⟩);grind
 .grind
 grind
theorem uY : ∀(m fuel:Nat) (t:TypeId) (cs:List Value) (x:DataW H×List MemPlace),r5 P m t=true->DataW.trod enc P w base spare held fuel t cs=some x->(∀n∈x.1.weights P t,n<=reachBytes)->
  ∃a,OfT P m t a/\Rel P w C0 a cs/\fits P t a/\cs.length=af P t/\lz a<=lu x.1
 |0,_,_,_,_,h,_,_=>by grind [r5]
 |m+1,0,_,_,_,_,h,_=>by simp[DataW.trod]at h
 |m+1,fuel+1,t,cs,x,hr,h,hw=>by
  rw[r5,acH]at hr;obtain⟨hsz,hr⟩:=hr;have hsz:=acJ hsz;have psz:ck P t=true->af P t=1:=λhp=>by
   grind [ck]
  cases hu:P.underlying t with
  |none=>simp_all
  |some U=>
   rw[hu]at hr;cases U with
   |bool=>
    unfold DataW.trod at h;rw[hu]at h
    dsimp only at hr
    split at h<;>simp_all
    rename_i b;obtain⟨rfl,_⟩:=h;exact⟨.bool b,by grind [OfT],.bool b,⟨rfl,hr⟩,by simp[lz,lu]⟩
   |int k=>
    unfold DataW.trod at h;rw[hu]at h
    dsimp only at hr
    split at h<;>simp_all
    obtain⟨⟨h1,h2⟩,h3⟩:=h;exact⟨.int _ _,by grind [OfT],.int _ _,⟨rfl,hr⟩,by grind [lz,lu]⟩
   |string=>
    unfold DataW.trod at h;rw[hu]at h
    dsimp only at hr
    split at h<;>simp_all
    rename_i s;obtain⟨h1,h2⟩:=h;have hw2:s.data.toList.length<=reachBytes:=hw _ (by grind [DataW.weights]);exact⟨.str s.data.toList,by grind [OfT],by have:=Rel.str (P:=P) (w:=w) (C:=C0) (l:=s.data.toList) (by simp_all);omega,⟨rfl,hr⟩,by grind [lz,lu]⟩
   |slice e=>
    rw[acH,acH]at hr;obtain⟨⟨hp,hby⟩,he⟩:=hr;have hby:=acJ hby;have hs1:=psz hp;have hes:0<af P e:=by
     cases m with
     |zero=>grind [r5]
     |succ m=>rw[r5,acH]at he;exact acJ he.1
    rcases DataW.trod_slice hu h with⟨rfl,hx0⟩|⟨a,len,cap,elems,rest,n,hn,rfl,hxe,hb,hlc,hcm,hel,hE,_⟩
    .refine⟨.sl e [],by grind [OfT],?_,⟨rfl,hp⟩,by simp[hs1],by grind [lz,ky,lu]⟩;exact .sl (xs:=[]) (λ_=>[]) (acP _) (acP _) (by simp) (by simp) (λh=>absurd h (by simp))
    .have hwl:(len<=reachBytes/\len*P.bytesOf e<=reachBytes)/\ ∀(i:Nat) (d:DataW H),(elems.map (·.1))[i]?=some d-> ∀n∈d.weights P e,n<=reachBytes:=by
      rw[hxe]at hw;simp only[DataW.weights,hu]at hw;refine⟨?_,yb λn hn=>hw n (by simp[hn])⟩;have h0:=hw ((elems.map (·.1)).length+(rest.map (·.1)).length |> (· *P.bytesOf e)) (by simp);have h1:len*1<=((elems.map (·.1)).length+(rest.map (·.1)).length)*P.bytesOf e:=Nat.mul_le_mul (by simp[hel]) hby;grind
     have key: ∀i,i<len-> ∃y:AV×List Value,OfT P m e y.1/\Rel P w C0 y.1 y.2/\fits P e y.1/\y.2.length=af P e/\w.cells? base (a.add (i*af P e)) (af P e)=some y.2/\ ∀d,(elems.map (·.1))[i]?=some d->lz y.1<=lu d:=λi hi=>by
      have h1:=hE i hi;rw[kY,acG (by omega)]at h1;cases hc:w.cells? base (a.add (i*af P e)) (af P e)with
      |none=>simp_all
      |some cs=>
       rw[hc,Option.bind_some]at h1;obtain⟨y,g1,g2,g3,g4,g5⟩:=uY m n e cs _ he h1 (hwl.2 i _ (by simp_all));exact⟨(y,cs),g1,g2,g3,g4,rfl,λd hd=>by
        simp_all⟩
     obtain⟨ys,hyl,hy⟩:=oU key;have hab:0<len-> ∃b o,a=⟨b,o,none⟩:=λhl=>by
      grind [A0,Addr.add]
     refine⟨.sl e (ys.map (·.1)),?_,?_,⟨rfl,hp⟩,by simp[hs1],?_⟩
     .grind [OfT,acI]
     .have hml:(ys.map (·.1)).length=len:=by simp_all
      have hget: ∀(i:Nat) (x:AV),(ys.map (·.1))[i]?=some x-> ∃y,ys[i]?=some y/\x=y.1:=λi x hx=>by
       simp_all
      have:Rel P w C0 (.sl e (ys.map (·.1))) [.slice (some a) (ys.map (·.1)).length cap]:=by
       refine .sl (λi=>((ys[i]?).map (·.2)).getD []) (by omega) hcm (λi x hx=>?_) (λi x hx=>?_) (λhpos=>?_)
       .grind
       .grind
       .obtain⟨b,o,rfl⟩:=hab (by omega);refine⟨b,o,rfl,λi hi=>?_⟩;obtain⟨y,h1⟩: ∃y,ys[i]?=some y:=⟨_,acG (by omega)⟩;show Cells w C0 b _ (((ys[i]?).map (·.2)).getD []);rw[h1];have h2:=(hy i y h1).2.2.2.2.1;rw[Addr.add_lit]at h2;obtain⟨_,b',o',e1,h3⟩:=A0 h2 hes;grind [Bv]
      simp_all
     .rw[hxe,lz,lu];have:=sf (ys:=ys.map (·.1)) (ds:=elems.map (·.1)) (by simp_all) λi y d h1 h2=>by
       grind
      omega
   |struct fs=>
    rw[acH]at hr;obtain⟨hfl,hfs⟩:=hr;obtain⟨ts,hts⟩:=acK.1 hfl;obtain⟨xs,n,hn,hxe,hcl,hxl,hX⟩:=DataW.trod_struct hu h;rw[hxe]at hw;simp only[DataW.weights,hu]at hw;rw[kY]at hcl;have hts':=hts;unfold bt at hts';rw[hu]at hts'
    dsimp only at hts'
    split at hts'
    .rename_i hok;rw[acH]at hok;cases hts';have key: ∀i,i<fs.toList.length-> ∃y:AV,∀f,fs.toList[i]?=some f->OfT P m f.type y/\Rel P w C0 y ((cs.drop (bp P (fs.toList.map (·.type)) i)).take (af P f.type))/\fits P f.type y/\((cs.drop (bp P (fs.toList.map (·.type)) i)).take (af P f.type)).length=af P f.type/\ ∀d,(xs.map (·.1))[i]?=some d->lz y<=lu d:=λi hi=>by
      have hf:fs.toList[i]?=some fs.toList[i]:=acG hi;have h1:=hX i fs.toList[i] (by simp_all);rw[kY,acG (by grind)]at h1;have hoff:=pX fs.toList 0 (af P t) hok.1 i _ hf;have hoff':fs.toList[i].offset=bp P (fs.toList.map (·.type)) i:=by
       simp_all[bp,Function.comp_def]
      rw[hoff']at h1;obtain⟨y,g1,g2,g3,g4,g5⟩:=uY m n _ _ _ (List.all_eq_true.1 hfs _ (List.getElem_mem hi)) h1 (ta hw i _ _ (by grind) (by grind));exact⟨y,λf hf'=>by
       grind⟩
     obtain⟨ys,hyl,hy⟩:=oU key;have hget: ∀(i:Nat) (y:AV) (ty:TypeId),ys[i]?=some y->(fs.toList.map (·.type))[i]?=some ty-> ∃f,fs.toList[i]?=some f/\ty=f.type:=λi y ty _ hty=>by
      grind
     refine⟨.agg t ys,?_,QD hts (by simp_all) hcl (λi y ty hyi hty=>?_),⟨rfl,hfl⟩,hcl,?_⟩
     .grind [OfT]
     .grind
     .rw[hxe,lz,lu];have:=sf (ys:=ys) (ds:=xs.map (·.1)) (by simp_all) λi y d h1 h2=>by
       grind
      omega
    simp_all
   |array k e=>
    rw[acH]at hr;obtain⟨hfl,hfs⟩:=hr;obtain⟨ts,hts⟩:=acK.1 hfl;obtain⟨xs,n,hn,hxe,hcl,hxl,hX⟩:=DataW.trod_array hu h;rw[hxe]at hw;simp only[DataW.weights,hu]at hw;rw[kY]at hcl;have hts':=hts;unfold bt at hts';rw[hu]at hts'
    dsimp only at hts'
    split at hts'
    .cases hts';have key: ∀i,i<k-> ∃y:AV,OfT P m e y/\Rel P w C0 y ((cs.drop (i*af P e)).take (af P e))/\fits P e y/\((cs.drop (i*af P e)).take (af P e)).length=af P e/\ ∀d,(xs.map (·.1))[i]?=some d->lz y<=lu d:=λi hi=>by
      have h1:=hX i hi;rw[kY,acG (by omega)]at h1;obtain⟨y,g1,g2,g3,g4,g5⟩:=uY m n _ _ _ hfs h1 (yb hw i _ (by simp_all));grind
     obtain⟨ys,hyl,hy⟩:=oU key;refine⟨.agg t ys,?_,QD hts (by simp_all) hcl (λi y ty hyi hty=>?_),⟨rfl,hfl⟩,hcl,?_⟩
     .grind [OfT,acI]
     .grind [eh]
     .rw[hxe,lz,lu];have:=sf (ys:=ys) (ds:=xs.map (·.1)) (by simp_all) λi y d h1 h2=>(hy i y h1).2.2.2.2 d h2
      omega
    simp_all
   |_=>simp at hr
theorem Zb {m base':Nat}{t:TypeId}{v:Value}{d:DataW H}{ps:List MemPlace}(hr:r5 P m t=true)(hv:Value.okWide P w .any base' t v)(h:DataW.Trod enc P w base spare held t v d ps)(hw: ∀n∈d.weights P t,n<=reachBytes): ∃a,OfT P m t a/\aJ P w C0 a v/\lz a<=lu d:=by
 obtain⟨fuel,h⟩:=h;obtain⟨a,h1,h2,h3,h4,h5⟩:=uY m fuel t _ _ hr h hw;refine⟨a,h1,?_,h5⟩;cases m with
 |zero=>grind [r5]
 |succ m=>
  have hone:a.bk=true->(∀cs,v≠ .agg cs)->aJ P w C0 a v:=λho hn=>by
   have:v.cells.toList=[v]:=by cases v<;>first|rfl|simp_all
   rw[this]at h2;exact .one ho h2
  rw[r5,acH]at hr;obtain⟨_,hr⟩:=hr;unfold Value.okWide at hv;unfold OfT at h1;cases hu:P.underlying t with
  |none=>simp_all
  |some U=>
   rw[hu]at h1 hv hr;cases U<;>dsimp only at h1 hv hr<;>try exact h1.elim
   case struct=>
    obtain⟨xs,rfl,_⟩:=h1;obtain⟨cs,rfl,_⟩:=hv;have:=aJ.agg (P:=P) (w:=w) (C:=C0) h2;simp_all[Value.cells]
   case array=>
    obtain⟨xs,rfl,_⟩:=h1;obtain⟨cs,rfl,_⟩:=hv;have:=aJ.agg (P:=P) (w:=w) (C:=C0) h2;simp_all[Value.cells]
   case bool=>
    obtain⟨b,rfl⟩:=h1;exact hone rfl λcs e=>by simp_all[Cell.okWide,Cell.ok]
   case int=>
    obtain⟨b,rfl,_⟩:=h1;exact hone rfl λcs e=>by simp_all[Cell.okWide,Cell.ok]
   case string=>
    obtain⟨b,rfl,_⟩:=h1;exact hone rfl λcs e=>by simp_all[Cell.okWide,Cell.ok]
   case slice=>
    obtain⟨b,rfl,_⟩:=h1;exact hone rfl λcs e=>by simp_all[Cell.okWide,Cell.ok]
def zl (P:Program)(n:Nat):List TypeId->List AV->Prop
 |[],[]=>True
 |t::ts,x::xs=>OfT P n t x/\zl P n ts xs
 |_,_=>False
theorem zl.of {n:Nat}: ∀{ts:List TypeId} {xs:List AV},xs.length=ts.length->(∀(i:Nat) (t:TypeId) (x:AV),ts[i]?=some t->xs[i]?=some x->OfT P n t x)->zl P n ts xs
 |[],[],_,_=>trivial
 |[],_::_,h,_=>by simp at h
 |_::_,[],h,_=>by simp at h
 |t::ts,x::xs,h,hx=>⟨hx 0 t x rfl rfl,zl.of (by simp_all) λi t' x' h1 h2=>hx (i+1) t' x' (by simp_all) (by simp_all)⟩
theorem qN {n:Nat}{t:TypeId}{ts:List TypeId}{a:AV}(hf:bt P t=some ts)(h:OfT P (n+1) t a): ∃xs,a= .agg t xs/\zl P n ts xs:=by
 grind [bt,OfT,zl.of]
theorem R2 {n:Nat}{t e:TypeId}{a:AV}(hf:elT P t=some e)(h:OfT P (n+1) t a): ∃xs,a= .sl e xs/\xs.length<=reachBytes/\ ∀x∈xs,OfT P n e x:=by
 rw[OfT,bR hf]at h;grind
theorem Wp {n:Nat}{t e:TypeId}{a:AV}(hf:elT P t=some e)(h:OfT P (n+1) t a): ∃xs,a= .sl e xs/\xs.length*P.bytesOf e<=reachBytes/\ ∀x∈xs,OfT P n e x:=by
 rw[OfT,bR hf]at h;grind
theorem o7 {n:Nat}{t:TypeId}{a:AV}(hf:bV P t=true)(h:OfT P (n+1) t a): ∃l,a= .str l/\l.length<=reachBytes:=by
 grind [bV,OfT]
theorem xS {n:Nat}{t:TypeId}{a:AV}(hf:mR P t=true)(h:OfT P (n+1) t a): ∃b,a= .bool b:=by
 grind [mR,OfT]
theorem V4 {n:Nat}{t:TypeId}{k:IntKind}{a:AV}(hf:fZ P t=some k)(h:OfT P (n+1) t a): ∃m,a= .int k m/\(Lit.int k m).wf=true:=by
 grind [fZ,OfT]
theorem all_map {α:Type}{f:α->AV}: ∀{xs:List AV},(∀x∈xs,∃p,x=f p)-> ∃ps:List α,xs=ps.map f
 |[],_=>⟨[],rfl⟩
 |x::xs,h=>by
  obtain⟨p,rfl⟩:=h x (by simp);obtain⟨ps,rfl⟩:=all_map (xs:=xs) λy hy=>h y (by simp[hy])
  exact⟨p::ps,rfl⟩
theorem uO {α:Type}{f:α->AV}{n:Nat}{t e:TypeId}{a:AV}(he:elT P t=some e)(hf: ∀x,OfT P n e x-> ∃p,x=f p)(h:OfT P (n+1) t a): ∃ps:List α,a= .sl e (ps.map f)/\ps.length<=reachBytes:=by
 obtain⟨xs,rfl,hl,hx⟩:=R2 he h;obtain⟨ps,rfl⟩:=all_map λx hm=>hf x (hx x hm)
 grind
end
end Go.Av
end
section
namespace Go.Av
open Go Go.ChangeShapes Go.WideShapes Go.RowKit
section
variable {H :Type}{enc:TypeId×Value->H}{P:Program}{W W':World}
theorem G0 {f:FuncId}{fn:Func}{vs:Array Value}{w:World}{R:Ending->World->Prop}(hf:P.funcs[f]?=some fn)(hb:fn.body.isSome=true)(h:NI P f vs w R):Calls P f vs w R:=by
 rcases h with⟨_,h⟩|⟨v,w',h1,_⟩
 .exact h
 .exfalso;have hbn:fn.body.isNone=false:=by simp_all
  grind [Sem.run,program,callFunc,Sem.run_bind,Result.andThen_ok,Sem.run_pure]
theorem Mh (W:World):aE P W W C0 [] where
 base:=Below.refl _ _
 low:=λi ow h=>by grind [C0]
 nx:=rfl
 inj:=λi j a b h=>by simp[C0]
 dom:=λi ow h=>by grind [C0]
 obj:=λi=>by simp[C0,gO]
theorem ai.calls {f:FuncId}{fn:Func}{ws:List AV}{r:AV}{vs:Array Value}(h:ai P W f ws r)(hf:P.funcs[f]?=some fn)(hb:fn.body.isSome=true)(hl:ws.length=vs.size)
  (hv: ∀(i:Nat) (a:AV) (v:Value),ws[i]?=some a->vs[i]?=some v->aJ P W C0 a v):Calls P f vs W λe W'=>∃ v C',e= .returned v/\aJ P W' C' r v/\Below W.heap.size W W':=by
 have h0:=h [] W C0 vs.toList (Mh W) (by omega) (λi a v ha hv'=>hv i a v ha (by simp_all));rw[Array.toArray_toList]at h0;refine(G0 hf hb h0).mono λe W' ⟨v,r',σ',C',he,⟨h1,h2⟩,hst,hr,hs⟩=>?_
 grind [aE.base]
theorem pQ (hl:laidOutB P=true){W W':World}(hb:Below W.heap.size W W'): ∀(ts:List TypeId) (vs:List Value) (ds:List (DataW H)) (p:List MemPlace),ts.all (λt=>P.readableRec t&&decide (t<P.types.size))=true->(∀x∈p,x.block<W.heap.size)->
  DataW.TrodAll enc P W 0 (λ_=>true) true ts vs ds p->DataW.TrodAll enc P W' 0 (λb=>decide (b<W.heap.size)) true ts vs ds p
 |[],vs,ds,p,_,_,h=>by
  obtain⟨rfl,rfl,rfl⟩:=trodAll_nil h;exact trodAll_mk0
 |t::ts,vs,ds,p,hr,hp,h=>by
  obtain⟨v,vs',d,ds',a,b,rfl,rfl,rfl,h1,h2⟩:=trodAll_cons h;rw[acN,acH,acH]at hr;exact trodAll_cons_mk (Below.trod hl hr.1.1 (of_decide_eq_true hr.1.2) h1 hb λx hx=>hp x (by simp[hx])) (pQ hl hb ts vs' ds' b hr.2 (λx hx=>hp x (by simp[hx])) h2)
theorem oE : ∀{ts:List TypeId} {vs:List Value} {ds:List (DataW H)} {p:List MemPlace} {base:Nat} {spare:Nat->Bool} {held:Bool},DataW.TrodAll enc P W base spare held ts vs ds p->vs.length=ts.length/\ds.length=ts.length
 |[],vs,ds,p,_,_,_,h=>by
  obtain⟨rfl,rfl,_⟩:=trodAll_nil h;omega
 |t::ts,vs,ds,p,_,_,_,h=>by
  obtain⟨v,vs',d,ds',a,b,rfl,rfl,_,_,h2⟩:=trodAll_cons h;have:=oE h2;simp_all
theorem K3 {m base:Nat}: ∀(ts:List TypeId) (vs:List Value) (ds:List (DataW H)) (p:List MemPlace) (spare:Nat->Bool),ts.all (r5 P m)=true->(∀(j:Nat) t v,ts[j]?=some t->vs[j]?=some v->Value.okWide P W .any base t v)->
  DataW.TrodAll enc P W 0 spare true ts vs ds p->(∀n∈DataW.weightsEach P ts ds,n<=reachBytes)-> ∃ws:List AV,ws.length=ts.length/\(∀(i:Nat) (t:TypeId) (a:AV),ts[i]?=some t->ws[i]?=some a->OfT P m t a)/\(∀(i:Nat) (a:AV) (v:Value),ws[i]?=some a->vs[i]?=some v->aJ P W C0 a v)/\ky ws<=mG ds
 |[],vs,ds,p,_,_,_,h,_=>⟨[],rfl,by simp,by simp,by simp[ky]⟩
 |t::ts,vs,ds,p,spare,hr,hok,h,hw=>by
  obtain⟨v,vs',d,ds',a,b,rfl,rfl,rfl,h1,h2⟩:=trodAll_cons h;rw[acN,acH]at hr;obtain⟨x,hx1,hx2,hx3⟩:=Zb hr.1 (hok 0 t v rfl rfl) h1 (ta hw 0 t d rfl rfl);obtain⟨ws,g1,g2,g3,g4⟩:=K3 ts vs' ds' b spare hr.2 (λj t v ht hv=>hok (j+1) t v (by simp_all) (by simp_all)) h2 (λn hn=>hw n (by grind [DataW.weightsEach]));refine⟨x::ws,by simp[g1],λi t' a' ht ha=>?_,λi a' v' ha hv=>?_,by grind [ky,mG]⟩
  .grind
  grind
theorem MI {fn:Func}{s:ChangeSpec}{args:Array Value}{ds gs:List (DataW H)}{before:List MemPlace}{tb:TypeId}(hl:laidOutB P=true)(hr:fn.params.toList.all (λt=>P.readableRec t&&decide (t<P.types.size))=true)
  (hres:fn.resultTypes= #[tb]) (hbool:P.underlying tb=some .bool) (hvars:s.vars=[]) (hfn: ∀ds:List (DataW H),ds.length=fn.params.toList.length->s.fn H ds={ results:=[.lit (.bool true)],args:=ds })
  (hW:DataW.Whole enc P fn.params.toList s.vars false W args.toList ds gs before) (hb:Below W.heap.size W W'):s.post enc P fn false true false false W args (.bool true) W':=by
 have hlt:=λp hp=>hW.lt p hp
 have hW2:=hW;obtain⟨p,q,hA,hV,rfl,_,_⟩:=hW;rw[hvars]at hV;obtain⟨rfl,rfl⟩:gs=[]/\q=[]:=by
  cases gs with
  |nil=>exact⟨rfl,hV⟩
  |cons d gs=>exact hV.elim
 have e:=hfn ds (oE hA).2;refine⟨ds,[],p++[],[],p,[],hW2,?_,?_,?_,hb.frame _,λh=>by cases h⟩
 .rw[acM,e,hres];exact trodAll_cons_mk (shut_bool hbool _) trodAll_mk0
 .grind [pQ]
 .rw[acM,e,hvars];rfl
theorem rT {vt:List TypeId}{gs:List (DataW H)}: ∀{ts:List TypeId} {ds:List (DataW H)},ds.length=ts.length->DataW.weightsEach P (ts++vt) (ds++gs)=DataW.weightsEach P ts ds++DataW.weightsEach P vt gs
 |[],[],_=>by simp[DataW.weightsEach]
 |[],_::_,h=>by simp at h
 |_::_,[],h=>by simp at h
 |t::ts,d::ds,h=>by
  rw[acL,acL,DataW.weightsEach,DataW.weightsEach,rT (by simp_all),List.append_assoc]
theorem MS {w:World}{C:Ctx}{b:Bool}{v:Value}(h:aJ P w C (.bool b) v):v= .bool b:=by
 cases h with
 |one _ h=>cases h;rfl
theorem zx {f:FuncId}{fn:Func}{s:ChangeSpec}{m base:Nat}{args:Array Value}{ds gs:List (DataW H)}{before:List MemPlace}{tb:TypeId}{vt:List TypeId}(hf:P.funcs[f]?=some fn)(hbody:fn.body.isSome=true)
  (hl:laidOutB P=true) (hr:fn.params.toList.all (λt=>P.readableRec t&&decide (t<P.types.size))=true) (hrd:fn.params.toList.all (r5 P m)=true)
  (hres:fn.resultTypes= #[tb]) (hbool:P.underlying tb=some .bool) (hvars:s.vars=[]) (hfn: ∀ds:List (DataW H),ds.length=fn.params.toList.length->s.fn H ds={ results:=[.lit (.bool true)],args:=ds })
  (hval: ∀(j:Nat) t v,fn.params[j]?=some t->args[j]?=some v->Value.okWide P W .any base t v)
  (hW:DataW.Whole enc P fn.params.toList s.vars false W args.toList ds gs before) (hwt:(DataW.weightsEach P (fn.params.toList++vt) (ds++gs)).all (· <=reachBytes)=true)
  (law: ∀ws:List AV,ws.length=fn.params.toList.length->(∀(i:Nat) (t:TypeId) (a:AV),fn.params.toList[i]?=some t->ws[i]?=some a->OfT P m t a)->ky ws<=mG ds->ai P W f ws (.bool true)):
  Calls P f args W λe W'=>∃ v,e= .returned v/\s.post enc P fn false true false false W args v W':=by
 obtain⟨p,q,hA,_⟩:=id hW;have hlen:=oE hA;rw[rT hlen.2,List.all_append,acH]at hwt;obtain⟨ws,h1,h2,h3,h4⟩:=K3 (m:=m) (base:=base) fn.params.toList args.toList ds p _ hrd (λj t v ht hv=>hval j t v (by simp_all) (by simp_all)) hA (λn hn=>by simp_all);grind [Calls.mono,ai.calls,MS,MI]
theorem Bi {f:FuncId}{fn:Func}{s:ChangeSpec}{m base:Nat}{args:Array Value}{ds gs:List (DataW H)}{before:List MemPlace}{tb:TypeId}{vt:List TypeId}(hf:P.funcs[f]?=some fn)(hbody:fn.body.isSome=true)
  (hl:laidOutB P=true) (hr:fn.params.toList.all (λt=>P.readableRec t&&decide (t<P.types.size))=true) (hrd:fn.params.toList.all (r5 P m)=true)
  (hres:fn.resultTypes= #[tb]) (hbool:P.underlying tb=some .bool) (hvars:s.vars=[]) (hfn: ∀ds:List (DataW H),ds.length=fn.params.toList.length->s.fn H ds={ results:=[.lit (.bool true)],args:=ds })
  (hval: ∀(j:Nat) t v,fn.params[j]?=some t->args[j]?=some v->Value.okWide P W .any base t v)
  (hW:DataW.Whole enc P fn.params.toList s.vars false W args.toList ds gs before) (hwt:(DataW.weightsEach P (fn.params.toList++vt) (ds++gs)).all (· <=reachBytes)=true)
  (law: ∀ws:List AV,ws.length=fn.params.toList.length->(∀(i:Nat) (t:TypeId) (a:AV),fn.params.toList[i]?=some t->ws[i]?=some a->OfT P m t a)->ai P W f ws (.bool true)):
  Calls P f args W λe W'=>∃ v,e= .returned v/\s.post enc P fn false true false false W args v W':=
 zx hf hbody hl hr hrd hres hbool hvars hfn hval hW hwt λws h1 h2 _=>law ws h1 h2
end
end Go.Av
end
