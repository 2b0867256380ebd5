/- Texts that the last one of this claim rests on: a layer over the guide's own conditions for code; contracts of the functions that the law reaches, one by one. No conditions beside those of the given rows. -/
import Derived.WalkKit
import Derived.WalkSpells
import Derived.WalkLawsBesides
import Derived.Laws.StructEq
import Derived.Laws.Concat
import Derived.ChangeKeysEq
import Derived.Laws.BytesArg
import Derived.Laws.BytesString
import Derived.Lib.Strings
import Derived.Maps.Keyed
import Derived.RangeFuncLeaves
import Derived.TacticsIn
import Derived.OrdersIn
set_option linter.unusedSimpArgs false
set_option linter.unusedVariables false
section
namespace Go.Av
open Go
inductive AV where
 |undef
 |int (k:IntKind) (n:Int)
 |bool (b:Bool)
 |str (l:List UInt8)
 |nil
 |az
 |j3
 |cC
 |iface (t:TypeId) (v:AV)
 |sl (e:TypeId) (xs:List AV)
 |lit (e:TypeId) (xs:List AV)
 |own (e:TypeId) (xs:List AV) (tok:Nat)
 |row (e:TypeId) (id off n:Nat)
 |agg (t:TypeId) (fs:List AV)
 |loc (t:TypeId) (v:AV)
 |ptr (t:TypeId) (id i:Nat) (path:List Nat)
 |it (id:Nat)
 |mp (id:Nat)
 |yl (l:Nat)
 |fn (f:FuncId) (caps:List AV)
 |tup (vs:List AV)
 |maybe (g:Bool) (v:AV)
 deriving Inhabited
inductive cX where
 |cells (t:TypeId) (xs:List AV)
 |tok
 |iter (l:List UInt8) (pos:Nat)
 |mp (kt:TypeId) (l:List (AV×AV))
 deriving Inhabited
abbrev ab:=List (Option cX)
inductive Own where
 |obj (b:Nat) (t:TypeId) (base room:Nat)
 |tok (b:Nat) (e:TypeId) (hw cap:Nat)
 |iter (b:Nat)
 |mp (b:Nat)
 deriving Inhabited
def Own.blk :Own→Nat
 | .obj b _ _ _=>b
 | .tok b _ _ _=>b
 | .iter b=>b
 | .mp b=>b
structure Ctx where
 m:Nat→Option Own
 nx:Nat
def af (P:Program)(t:TypeId):Nat:=match P.info? t with|some i=>i.size|none=>0
def jZ (P:Program):List Field→Nat→Nat→Bool
 |[],o,n=>o==n
 |f::r,o,n=>f.offset==o&&(decide (0<af P f.type)&&jZ P r (o+af P f.type) n)
def bp (P:Program)(t:TypeId):Option (List TypeId):=
 match P.underlying t with
 |some (.struct fs)=>if jZ P fs.toList 0 (af P t)&&decide (0<af P t)then some (fs.toList.map (·.type))else none
 |some (.array n e)=>if af P t==n*af P e&&decide (0<af P t)then some (List.replicate n e)else none
 |_=>none
def cD (P:Program)(t:TypeId):Bool:=
 match P.underlying t with
 |some (.struct _)|some (.array _ _)|none=>false
 |some _=>af P t==1
def elT (P:Program)(t:TypeId):Option TypeId:=
 match P.underlying t with
 |some (.slice e)=>some e
 |_=>none
def ba (P:Program)(ts:List TypeId)(k:Nat):Nat:=((ts.take k).map (af P)).sum
def place (P:Program)(te:TypeId):List Nat→Option (TypeId×Nat)
 |[]=>some (te,0)
 |k::r=>(bp P te).bind λts=>ts[k]?.bind λty=>(place P ty r).map λ(t,o)=>(t,ba P ts k+o)
def AV.aX :AV→Bool
 | .agg _ _| .undef| .maybe _ _| .tup _=>false
 |_=>true
def fits (P:Program)(t:TypeId)(x:AV):Prop:=
 match x with
 | .agg t' _=>t'=t∧(bp P t).isSome=true
 |x=>x.aX=true∧cD P t=true
def eH (w:World)(C:Ctx)(b o:Nat):Prop:=
 b<w.heap.size∧ ∀id ow,C.m id=some ow→ow.blk=b→ ∃e hw cap,ow= .tok b e hw cap∧o<hw
def Cells (w:World)(C:Ctx)(b o:Nat)(cs:List Value):Prop:=
 ∀j c,cs[j]?=some c→w.cell? ⟨b,o+j,none⟩=some c∧eH w C b (o+j)
def eR (w:World)(C:Ctx)(size:Nat)(a:Option Addr)(n:Nat)(cf:Nat→List Value):Prop:=
 0<n→ ∃b o,a=some ⟨b,o,none⟩∧ ∀i,i<n→Cells w C b (o+i*size) (cf i)
inductive Rel (P:Program)(w:World)(C:Ctx):AV→List Value→Prop
 |int (k n):Rel P w C (.int k n) [.int k n]
 |bool (b):Rel P w C (.bool b) [.bool b]
 |str {l}:l.length≤maxLen→Rel P w C (.str l) [.string ⟨l.toArray⟩]
 |nil:Rel P w C .nil [.pointer none]
 |az:Rel P w C .az [.slice none 0 0]
 |j3:Rel P w C .j3 [.map none]
 |cC:Rel P w C .cC [.nilIface]
 |iface {t v x}:v.aX=true→Rel P w C v [x]→Rel P w C (.iface t v) [.iface t x]
 |sl {e xs a cap} (cf:Nat→List Value):xs.length≤cap→cap≤maxLen→(∀(i:Nat) (x:AV),xs[i]?=some x→Rel P w C x (cf i))→
   (∀i x,xs[i]?=some x→(cf i).length=af P e∧fits P e x)→eR w C (af P e) a xs.length cf→Rel P w C (.sl e xs) [.slice a xs.length cap]
 |lit {e xs a} (cf:Nat→List Value):xs.length≤maxLen→(∀(i:Nat) (x:AV),xs[i]?=some x→Rel P w C x (cf i))→
   (∀i x,xs[i]?=some x→(cf i).length=af P e∧fits P e x)→eR w C (af P e) a xs.length cf→Rel P w C (.lit e xs) [.slice a xs.length xs.length]
 |own {e xs tok b cap} (cf:Nat→List Value):xs.length≤cap→cap≤maxLen→(∀(i:Nat) (x:AV),xs[i]?=some x→Rel P w C x (cf i))→
   (∀i x,xs[i]?=some x→(cf i).length=af P e∧fits P e x)→eR w C (af P e) (some ⟨b,0,none⟩) xs.length cf→
   tok<C.nx→(∀ow,C.m tok=some ow→ow= .tok b e (xs.length*af P e) cap)→Rel P w C (.own e xs tok) [.slice (some ⟨b,0,none⟩) xs.length cap]
 |row {e id off n a cap}:n≤cap→cap≤maxLen→id<C.nx→
   (∀ow,C.m id=some ow→ ∃b base room,ow= .obj b e base room∧(0<cap→a=some ⟨b,base+off*af P e,none⟩)∧base+(off+cap)*af P e=room)→Rel P w C (.row e id off n) [.slice a n cap]
 |agg {t ts fs} {cs:List Value} (cf:Nat→List Value):bp P t=some ts→fs.length=ts.length→cs.length=af P t→(∀c∈cs,c.oneCell'=true)→(∀(i:Nat) (x:AV),fs[i]?=some x→Rel P w C x (cf i))→
   (∀i x ty,fs[i]?=some x→ts[i]?=some ty→(cf i).length=af P ty∧fits P ty x∧ ∀(j:Nat) (u:Value),(cf i)[j]?=some u→cs[ba P ts i+j]?=some u)→Rel P w C (.agg t fs) cs
 |loc {t v cs b o}:Rel P w C v cs→fits P t v→cs.length=af P t→Cells w C b o cs→Rel P w C (.loc t v) [.pointer (some ⟨b,o,none⟩)]
 |ptr {t id i path a}:id<C.nx→(∀ow,C.m id=some ow→ ∃b te base room off,ow= .obj b te base room∧place P te path=some (t,off)∧a=⟨b,base+i*af P te+off,none⟩)→
   Rel P w C (.ptr t id i path) [.pointer (some a)]
 |it {id a}:id<C.nx→(∀ow,C.m id=some ow→ ∃b,ow= .iter b∧a=⟨b,0,none⟩)→Rel P w C (.it id) [.pointer (some a)]
 |mp {id r}:id<C.nx→(∀ow,C.m id=some ow→ow= .mp r)→Rel P w C (.mp id) [.map (some r)]
 |yl (l):Rel P w C (.yl l) [.func (.yield l) #[] #[]]
 |fn {f caps} {vs:List Value}:caps.length=vs.length→(∀(i:Nat) (c:AV),caps[i]?=some c→c.aX=true)→(∀(i:Nat) (c:AV) (v:Value),caps[i]?=some c→vs[i]?=some v→Rel P w C c [v])→Rel P w C (.fn f caps) [.func (.func f) #[] vs.toArray]
inductive aF (P:Program)(w:World)(C:Ctx):AV→Value→Prop
 |undef (v):aF P w C .undef v
 |maybe {g a v}:(g=true→aF P w C a v)→(g=false→v=Go.undef)→aF P w C (.maybe g a) v
 |tup {as} {vs:List Value}:as.length=vs.length→(∀(i:Nat) (a:AV) (v:Value),as[i]?=some a→vs[i]?=some v→aF P w C a v)→aF P w C (.tup as) (.tuple vs.toArray)
 |agg {t fs} {cs:List Value}:Rel P w C (.agg t fs) cs→aF P w C (.agg t fs) (.agg cs.toArray)
 |one {a v}:a.aX=true→Rel P w C a [v]→aF P w C a v
structure Step (w:World)(C:Ctx)(w':World)(C':Ctx):Prop where
 nx:C.nx≤C'.nx
 dead: ∀id ow,id<C.nx→C'.m id=some ow→C.m id=some ow
 gb: ∀b o,eH w C b o→w'.cell? ⟨b,o,none⟩=w.cell? ⟨b,o,none⟩∧eH w' C' b o
 os:w'.os=w.os
 tape:w'.tape=w.tape
 output:w'.output=w.output
 size:w.heap.size≤w'.heap.size
 block: ∀b,b<w.heap.size→(∀id ow,C.m id=some ow→ow.blk≠b)→w'.heap[b]?=w.heap[b]?∧ ∀id ow,C'.m id=some ow→ow.blk≠b
structure lh (w:World)(C:Ctx)(w':World)(C':Ctx):Prop where
 nx:C.nx≤C'.nx
 dead: ∀id ow,id<C.nx→C'.m id=some ow→C.m id=some ow
 gb: ∀b o,eH w C b o→w'.cell? ⟨b,o,none⟩=w.cell? ⟨b,o,none⟩∧eH w' C' b o
theorem Step.s {w w':World}{C C':Ctx}(h:Step w C w' C'):lh w C w' C':=⟨h.nx,h.dead,h.gb⟩
theorem Step.refl (w:World)(C:Ctx):Step w C w C:=
 ⟨Nat.le_refl _,λ_ _ _ h=>h,λ_ _ h=>⟨rfl,h⟩,rfl,rfl,rfl,Nat.le_refl _,λ_ _ h=>⟨rfl,h⟩⟩
theorem Step.trans {w w₁ w₂:World}{C C₁ C₂:Ctx}(h:Step w C w₁ C₁)(k:Step w₁ C₁ w₂ C₂):Step w C w₂ C₂ where
 nx:=Nat.le_trans h.nx k.nx
 dead:=λid ow hid hm=>h.dead id ow hid (k.dead id ow (Nat.lt_of_lt_of_le hid h.nx) hm)
 gb:=λb o hs=>by
  obtain⟨e1,s1⟩:=h.gb b o hs
  obtain⟨e2,s2⟩:=k.gb b o s1
  exact⟨e2.trans e1,s2⟩
 os:=k.os.trans h.os
 tape:=k.tape.trans h.tape
 output:=k.output.trans h.output
 size:=Nat.le_trans h.size k.size
 block:=λb hb hn=>by
  obtain⟨e1,n1⟩:=h.block b hb hn
  obtain⟨e2,n2⟩:=k.block b (Nat.lt_of_lt_of_le hb h.size) n1
  exact⟨e2.trans e1,n2⟩
section mono
variable {P :Program}{w w':World}{C C':Ctx}
theorem Cells.ff (h:lh w C w' C'){b o:Nat}{cs:List Value}(hc:Cells w C b o cs):Cells w' C' b o cs:=λj c hj=>by
 obtain⟨h1,h2⟩:=hc j c hj
 obtain⟨e,s⟩:=h.gb _ _ h2
 exact⟨e.trans h1,s⟩
theorem eR.ff (h:lh w C w' C'){size n:Nat}{a:Option Addr}{cf:Nat→List Value}(hr:eR w C size a n cf):eR w' C' size a n cf:=λhn=>by
 obtain⟨b,o,e,hc⟩:=hr hn
 exact⟨b,o,e,λi hi=>(hc i hi).ff h⟩
theorem Rel.ff (h:lh w C w' C'){a:AV}{cs:List Value}(hr:Rel P w C a cs):Rel P w' C' a cs:=by
 induction hr with
 |int k n=>exact .int k n
 |bool b=>exact .bool b
 |str hl=>exact .str hl
 |nil=>exact .nil
 |az=>exact .az
 |j3=>exact .j3
 |cC=>exact .cC
 |iface h1 _ ih=>exact .iface h1 ih
 |sl cf h1 h2 _ h4 h5 ih=>exact .sl cf h1 h2 ih h4 (h5.ff h)
 |lit cf h1 _ h4 h5 ih=>exact .lit cf h1 ih h4 (h5.ff h)
 |own cf h1 h2 _ h4 h5 h6 h7 ih=>exact .own cf h1 h2 ih h4 (h5.ff h) (Nat.lt_of_lt_of_le h6 h.nx) (λow how=>h7 ow (h.dead _ _ h6 how))
 |row h1 h2 h3 h4=>exact .row h1 h2 (Nat.lt_of_lt_of_le h3 h.nx) (λow how=>h4 ow (h.dead _ _ h3 how))
 |agg cf h1 h2 h3 h4 _ h6 ih=>exact .agg cf h1 h2 h3 h4 ih h6
 |loc _ h2 h3 h4 ih=>exact .loc ih h2 h3 (h4.ff h)
 |ptr h1 h2=>exact .ptr (Nat.lt_of_lt_of_le h1 h.nx) (λow how=>h2 ow (h.dead _ _ h1 how))
 |it h1 h2=>exact .it (Nat.lt_of_lt_of_le h1 h.nx) (λow how=>h2 ow (h.dead _ _ h1 how))
 |mp h1 h2=>exact .mp (Nat.lt_of_lt_of_le h1 h.nx) (λow how=>h2 ow (h.dead _ _ h1 how))
 |yl l=>exact .yl l
 |fn h1 h2 _ ih=>exact .fn h1 h2 ih
theorem aF.ff (h:lh w C w' C'){a:AV}{v:Value}(hr:aF P w C a v):aF P w' C' a v:=by
 induction hr with
 |undef v=>exact .undef v
 |maybe _ h2 ih=>exact .maybe ih h2
 |tup h1 _ ih=>exact .tup h1 ih
 |agg h1=>exact .agg (h1.ff h)
 |one h1 h2=>exact .one h1 (h2.ff h)
theorem Cells.mono (h:Step w C w' C'){b o:Nat}{cs:List Value}(hc:Cells w C b o cs):Cells w' C' b o cs:=hc.ff h.s
theorem eR.mono (h:Step w C w' C'){size n:Nat}{a:Option Addr}{cf:Nat→List Value}(hr:eR w C size a n cf):eR w' C' size a n cf:=hr.ff h.s
theorem Rel.mono (h:Step w C w' C'){a:AV}{cs:List Value}(hr:Rel P w C a cs):Rel P w' C' a cs:=hr.ff h.s
theorem aF.mono (h:Step w C w' C'){a:AV}{v:Value}(hr:aF P w C a v):aF P w' C' a v:=hr.ff h.s
end mono
end Go.Av
end
section
namespace Go.Av
open Go
structure aa where
 env:Nat→AV
 st:ab
def aa.upd (A:aa)(d:Nat)(v:AV):aa:={ A with env:=λi=>if i=d then v else A.env i }
def aa.put (A:aa)(d:Option Nat)(v:AV):aa:=match d with|some d=>A.upd d v|none=>A
def aa.an (A:aa)(σ:ab):aa:={ A with st:=σ }
theorem aa.xU (A:aa)(d:Nat)(v:AV):(A.upd d v).env d=v:=by simp[aa.upd]
theorem aa.tP (A:aa){i d:Nat}(v:AV)(h:i≠d):(A.upd d v).env i=A.env i:=by simp[aa.upd,h]
def rL :AV→Option Value
 | .int k n=>some (.int k n)
 | .bool b=>some (.bool b)
 | .str l=>if l.length≤maxLen then some (.string ⟨l.toArray⟩)else none
 |_=>none
def DK :List AV→Option (List Value)
 |[]=>some []
 |x::r=>(rL x).bind λv=>(DK r).map λvs=>v::vs
def rig (P:Program):AV→Option Value
 | .agg t fs=>(match bp P t with
  |some ts=>if ts.all (λty=>af P ty==1)=true then(DK fs).map λvs=>.agg vs.toArray else none
  |none=>none)
 |x=>rL x
def Gg (P:Program)(w:World)(kt:TypeId)(l:List (AV×AV))(b:Nat):Prop:=∃ es clock,w.heap[b]?=some (.map es clock)∧(es.toList.Pairwise λe f=>e.key≠f.key)∧
 (∀e∈es.toList,(∃q,keyOf P kt e.key=some q)∧ ∃p∈l,rig P p.1=some e.key∧rL p.2=some e.val)∧ ∀p∈l,∃e∈es.toList,rig P p.1=some e.key∧rL p.2=some e.val
def wG (fr:Nat×Nat)(n:Nat):Prop:=fr=(0,0)∨n≤fr.1
def fM (P:Program)(w:World)(C:Ctx):Option cX→Option Own→Prop
 |none,none=>True
 |some (.cells te xs),some (.obj b te' base room)=>te=te'∧ ∃arr t' fr,w.heap[b]?=some (.cells arr t' fr)∧wG fr arr.size∧arr.size=room∧base+xs.length*af P te≤room∧
   ∃cf:Nat→List Value,∀(i:Nat) (x:AV),xs[i]?=some x→Rel P w C x (cf i)∧(cf i).length=af P te∧fits P te x∧ ∀(j:Nat) (c:Value),(cf i)[j]?=some c→arr[base+i*af P te+j]?=some c
 |some .tok,some (.tok b e hw cap)=>∃ arr,w.heap[b]?=some (.cells arr e (0,0))∧arr.size=cap*af P e∧hw≤arr.size
 |some (.iter l pos),some (.iter b)=>w.heap[b]?=some (.stringIter ⟨l.toArray⟩ pos)
 |some (.mp kt l),some (.mp b)=>Gg P w kt l b
 |_,_=>False
structure aB (P:Program)(W0:World)(w:World)(C:Ctx)(σ:ab):Prop where
 base:RowKit.Below W0.heap.size W0 w
 low: ∀i ow,C.m i=some ow→W0.heap.size≤ow.blk
 nx:C.nx=σ.length
 inj: ∀i j a b,C.m i=some a→C.m j=some b→a.blk=b.blk→i=j
 dom: ∀i ow,C.m i=some ow→i<C.nx
 obj: ∀i,fM P w C (σ[i]?).join (C.m i)
structure bI (P:Program)(W0:World)(n:Nat)(w:World)(C:Ctx)(A:aa)(a:Act):Prop where
 env: ∀i,aF P w C (A.env i) (a.tmps.getD i undef)
 defers:a.defers=[]
 size:a.tmps.size=n
 st:aB P W0 w C A.st
section
variable {P :Program}{W0 w w':World}{C C':Ctx}{σ σ':ab}{n:Nat}
theorem Rel.ky {a:AV}{cs:List Value}(h:Rel P w C a cs): ∀c∈cs,c.oneCell'=true:=by
 cases h with
 |agg cf _ _ _ h4=>exact h4
 |_=>intro c hc;simp only[List.mem_singleton]at hc;subst hc;rfl
theorem Rel.one_cell {a:AV}{cs:List Value}(h:Rel P w C a cs)(h1:a.aX=true): ∃v,cs=[v]:=by
 cases h<;>first|exact⟨_,rfl⟩|(simp[AV.aX]at h1)
theorem fM.ff (h:lh w C w' C'){o:Option cX}{ow:Option Own}(hr:fM P w C o ow)(hb: ∀x,ow=some x→w'.heap[x.blk]?=w.heap[x.blk]?):fM P w' C' o ow:=by
 unfold fM at hr ⊢
 split at hr
 ·trivial
 ·rename_i te xs b te' base room
  obtain⟨h1,arr,t',fr,h2,hf,h3,h4,cf,h5⟩:=hr
  refine⟨h1,arr,t',fr,(hb _ rfl).trans h2,hf,h3,h4,cf,λi x hx=>?_⟩
  obtain⟨r1,r2,r3,r4⟩:=h5 i x hx
  exact⟨r1.ff h,r2,r3,r4⟩
 ·obtain⟨arr,h2,h3⟩:=hr
  exact⟨arr,(hb _ rfl).trans h2,h3⟩
 ·exact(hb _ rfl).trans hr
 ·obtain⟨es,clock,h2,h3⟩:=hr
  exact⟨es,clock,(hb _ rfl).trans h2,h3⟩
 ·exact hr.elim
theorem fM.mono (h:Step w C w' C'){o:Option cX}{ow:Option Own}(hr:fM P w C o ow)(hb: ∀x,ow=some x→w'.heap[x.blk]?=w.heap[x.blk]?):fM P w' C' o ow:=hr.ff h.s hb
theorem aB.lt (h:aB P W0 w C σ){i:Nat}{ow:Own}(hm:C.m i=some ow):ow.blk<w.heap.size:=by
 have ho:=h.obj i
 rw[hm]at ho
 have key: ∀o,w.heap[ow.blk]?=some o→ow.blk<w.heap.size:=λo ho=>(Array.getElem?_eq_some_iff.1 ho).1
 unfold fM at ho
 split at ho
 ·rename_i heq;cases heq
 ·rename_i heq;cases heq;obtain⟨_,arr,t',fr,h2,_⟩:=ho;exact key _ h2
 ·rename_i heq;cases heq;obtain⟨arr,h2,_⟩:=ho;exact key _ h2
 ·rename_i heq;cases heq;exact key _ ho
 ·rename_i heq;cases heq;obtain⟨es,clock,h2,_⟩:=ho;exact key _ h2
 ·exact ho.elim
theorem aB.change (h:aB P W0 w C σ)(hs:Step w C w' C')(low: ∀i ow,C'.m i=some ow→W0.heap.size≤ow.blk)(hnx:C'.nx=σ'.length)
  (inj: ∀i j a b,C'.m i=some a→C'.m j=some b→a.blk=b.blk→i=j) (dom: ∀i ow,C'.m i=some ow→i<C'.nx)
  (hobj: ∀i,fM P w' C' (σ'[i]?).join (C'.m i)∨((σ'[i]?).join=(σ[i]?).join∧C'.m i=C.m i∧ ∀ow,C.m i=some ow→w'.heap[ow.blk]?=w.heap[ow.blk]?)):
  aB P W0 w' C' σ':=by
 refine⟨h.base.trans ⟨hs.os,hs.tape,hs.output,hs.size,λk hk=>(hs.block k (Nat.lt_of_lt_of_le hk h.base.size) (λid ow hm e=>?_)).1⟩,low,hnx,inj,dom,λi=>?_⟩
 ·have:=h.low id ow hm;omega
 rcases hobj i with h1|⟨h1,h2,h3⟩
 ·exact h1
 ·rw[h1,h2]
  exact(h.obj i).mono hs (λx hx=>h3 x hx)
theorem aB.world (h:aB P W0 w C σ)(hs:Step w C w' C)(hb: ∀i ow,C.m i=some ow→w'.heap[ow.blk]?=w.heap[ow.blk]?):aB P W0 w' C σ:=
 h.change hs h.low h.nx h.inj h.dom (λi=>.inr ⟨rfl,rfl,hb i⟩)
theorem Step.drew (w:World)(C:Ctx):Step w C w.drew C:=
 ⟨Nat.le_refl _,λ_ _ _ h=>h,λ_ _ h=>⟨rfl,h⟩,rfl,rfl,rfl,Nat.le_refl _,λ_ _ h=>⟨rfl,h⟩⟩
theorem Step.alloc (w:World)(C:Ctx)(o:Obj):Step w C (w.alloc o) C where
 nx:=Nat.le_refl _
 dead:=λ_ _ _ h=>h
 gb:=λb x h=>⟨World.cell?_alloc_lt w o ⟨b,x,none⟩ h.1,by simp[Nat.lt_succ_of_lt h.1],h.2⟩
 os:=rfl
 tape:=rfl
 output:=rfl
 size:=by simp
 block:=λb hb hn=>⟨RowKit.Below.heap_alloc w o b hb,hn⟩
theorem aB.drew (h:aB P W0 w C σ):aB P W0 w.drew C σ:=h.world (Step.drew w C) (λ_ _ _=>rfl)
theorem aB.alloc (h:aB P W0 w C σ)(o:Obj):aB P W0 (w.alloc o) C σ:=
 h.world (Step.alloc w C o) (λ_ _ hm=>RowKit.Below.heap_alloc w o _ (h.lt hm))
theorem eH.free {b o:Nat}(hb:b<w.heap.size)(hn: ∀id ow,C.m id=some ow→ow.blk≠b):eH w C b o:=
 ⟨hb,λid ow hm he=>absurd he (hn id ow hm)⟩
theorem aB.fresh (h:aB P W0 w C σ): ∀id ow,C.m id=some ow→ow.blk≠w.heap.size:=λ_ _ hm=>Nat.ne_of_lt (h.lt hm)
theorem F8 {a:Array Value}{d i:Nat}{v:Value}(hd:d<a.size):(a.setIfInBounds d v).getD i undef=if i=d then v else a.getD i undef:=by
 by_cases h:i=d
 ·subst h;simp[hd]
 ·rw[if_neg h]
  simp[Array.getElem?_setIfInBounds_ne (Ne.symm h)]
theorem bI.put {A:aa}{a:Act}(h:bI P W0 n w C A a){d:Nat}(hd:d<n){v:AV}{x:Value}(hv:aF P w C v x):bI P W0 n w C (A.upd d v) (a.put (some d) x) where
 env:=λi=>by
  have hd':d<a.tmps.size:=by rw[h.size];exact hd
  simp only[Act.put,aa.upd,F8 hd']
  by_cases hi:i=d
  ·simp[hi,hv]
  ·simp only[hi,if_false];exact h.env i
 defers:=h.defers
 size:=by simpa[Act.put]using h.size
 st:=h.st
theorem bI.step {A:aa}{a:Act}{σ':ab}(h:bI P W0 n w C A a)(hs:Step w C w' C')(hst:aB P W0 w' C' σ'):bI P W0 n w' C' { A with st:=σ' } a where
 env:=λi=>(h.env i).mono hs
 defers:=h.defers
 size:=h.size
 st:=hst
end
end Go.Av
end
section
namespace Go.Av
open Go
def jR :Value→AV
 | .int k n=>.int k n
 | .bool b=>.bool b
 | .string s=>if s.data.toList.length≤maxLen then .str s.data.toList else .undef
 | .pointer none=>.nil
 | .slice none 0 0=>.az
 | .map none=>.j3
 | .nilIface=>.cC
 |_=>.undef
def aa.val (A:aa):Operand→AV
 | .tmp t=>A.env t
 | .const v=>jR v
 | .func f=>.fn f []
 | .global _=>.undef
structure fJ (P:Program)(W0:World)(o:Oper)(w:World)(C:Ctx)(A:aa)(a:Act):Prop where
 ops: ∀x∈o.op.operands,aF P w C (A.val x) (a.eval x)
 st:aB P W0 w C A.st
def bW (P:Program)(W0:World)(o:Oper)(A:aa)(v:AV):Prop:=
 ∀w C a,fJ P W0 o w C A a→ ∃x w',(execOp a.eval o).run P w= .ok (.value x) w'∧aF P w' C v x∧Step w C w' C∧aB P W0 w' C A.st
def Is (P:Program)(W0:World)(o:Oper)(A:aa)(x:Operand)(u:AV):Prop:=∀ w C a,fJ P W0 o w C A a→aF P w C u (a.eval x)
section
variable {P :Program}{W0 w w':World}{C C':Ctx}{σ σ':ab}{n:Nat}{A:aa}{a:Act}
theorem jH (v:Value):aF P w C (jR v) v:=by
 unfold jR
 split
 ·exact .one rfl (.int _ _)
 ·exact .one rfl (.bool _)
 ·rename_i s
  split
  ·rename_i h
   exact .one rfl (by
    have:=Rel.str (P:=P) (w:=w) (C:=C) h
    simpa using this)
  ·exact .undef _
 ·exact .one rfl .nil
 ·exact .one rfl .az
 ·exact .one rfl .j3
 ·exact .one rfl .cC
 ·exact .undef _
theorem bI.val (h:bI P W0 n w C A a)(x:Operand):aF P w C (A.val x) (a.eval x):=by
 cases x with
 |tmp t=>exact h.env t
 |const v=>exact jH v
 |global g=>exact .undef _
 |func f=>exact .one rfl (.fn (vs:=[]) rfl (by simp) (by simp))
theorem bI.toO (h:bI P W0 n w C A a)(o:Oper):fJ P W0 o w C A a:=⟨λx _=>h.val x,h.st⟩
theorem Is.val {o:Oper}(A:aa){x:Operand}(hx:x∈o.op.operands):Is P W0 o A x (A.val x):=λ_ _ _ hr=>hr.ops x hx
theorem aF.cF {k:IntKind}{m:Int}{v:Value}(h:aF P w C (.int k m) v):v= .int k m:=by
 cases h with
 |one _ h=>cases h;rfl
theorem aF.gf {b:Bool}{v:Value}(h:aF P w C (.bool b) v):v= .bool b:=by
 cases h with
 |one _ h=>cases h;rfl
theorem aF.gE {l:List UInt8}{v:Value}(h:aF P w C (.str l) v):v= .string ⟨l.toArray⟩∧l.length≤maxLen:=by
 cases h with
 |one _ h=>cases h;exact⟨rfl,‹_›⟩
theorem aF.rZ {v:Value}(h:aF P w C .nil v):v= .pointer none:=by
 cases h with
 |one _ h=>cases h;rfl
theorem aF.dR {v:Value}(h:aF P w C .az v):v= .slice none 0 0:=by
 cases h with
 |one _ h=>cases h;rfl
theorem aF.B8 {as:List AV}{v:Value}(h:aF P w C (.tup as) v): ∃vs:List Value,v= .tuple vs.toArray∧as.length=vs.length∧ ∀(i:Nat) (a:AV) (v:Value),as[i]?=some a→vs[i]?=some v→aF P w C a v:=by
 cases h with
 |tup h1 h2=>exact⟨_,rfl,h1,h2⟩
 |one h=>simp[AV.aX]at h
theorem aF.py {t:TypeId}{fs:List AV}{v:Value}(h:aF P w C (.agg t fs) v): ∃cs:List Value,v= .agg cs.toArray∧Rel P w C (.agg t fs) cs:=by
 cases h with
 |agg h=>exact⟨_,rfl,h⟩
 |one h=>simp[AV.aX]at h
theorem aF.aP {x:AV}{v:Value}(h:aF P w C x v)(h1:x.aX=true):Rel P w C x [v]:=by
 cases h with
 |one _ h=>exact h
 |_=>simp[AV.aX]at h1
theorem aF.cells {t:TypeId}{x:AV}{v:Value}(h:aF P w C x v)(hf:fits P t x):Rel P w C x v.cells.toList:=by
 cases h with
 |undef=>simp[fits,AV.aX]at hf
 |maybe=>simp[fits,AV.aX]at hf
 |tup=>simp[fits,AV.aX]at hf
 |agg h=>simpa[Value.cells]using h
 |one h1 h=>
  have:v.cells= #[v]:=by
   have:=h.ky v (by simp)
   cases v<;>first|rfl|simp[Value.oneCell']at this
  rw[this];exact h
theorem bJ {t:TypeId}(h:0<af P t): ∃i,P.info? t=some i∧i.size=af P t:=by
 unfold af at h ⊢
 cases hi:P.info? t with
 |none=>simp[hi]at h
 |some i=>exact⟨i,rfl,rfl⟩
theorem oc : ∀(fs:List Field) (o n:Nat),jZ P fs o n=true→ ∀k f,fs[k]?=some f→f.offset=o+((fs.take k).map λf=>af P f.type).sum
 |[],_,_,_,k,f,hk=>by simp at hk
 |g::r,o,n,h,0,f,hk=>by
  simp[jZ]at h hk
  subst hk;simp[h.1]
 |g::r,o,n,h,k+1,f,hk=>by
  simp only[jZ,Bool.and_eq_true,beq_iff_eq,decide_eq_true_eq]at h
  have:=oc r (o+af P g.type) n h.2.2 k f (by simpa using hk)
  rw[this];simp;omega
theorem pg : ∀(fs:List Field) (o n:Nat),jZ P fs o n=true→n=o+(fs.map λf=>af P f.type).sum
 |[],o,n,h=>by simp[jZ]at h;simp[h]
 |g::r,o,n,h=>by
  simp only[jZ,Bool.and_eq_true,beq_iff_eq,decide_eq_true_eq]at h
  have:=pg r (o+af P g.type) n h.2.2
  rw[this];simp;omega
theorem sY : ∀(fs:List Field) (o n:Nat),jZ P fs o n=true→ ∀f∈fs,0<af P f.type
 |[],_,_,_,f,hf=>by cases hf
 |g::r,o,n,h,f,hf=>by
  simp only[jZ,Bool.and_eq_true,beq_iff_eq,decide_eq_true_eq]at h
  rcases List.mem_cons.1 hf with rfl|hf
  ·exact h.2.1
  ·exact sY r _ n h.2.2 f hf
theorem fN {t:TypeId}{ts:List TypeId}(h:bp P t=some ts):
  (∃fs,P.underlying t=some (.struct fs)∧ts=fs.toList.map (·.type)∧(∀k f,fs[k]?=some f→f.offset=ba P ts k∧0<af P f.type)∧af P t=ba P ts ts.length)∨
  (∃n e,P.underlying t=some (.array n e)∧ts=List.replicate n e∧af P t=n*af P e):=by
 unfold bp at h
 split at h
 ·rename_i fs hu
  split at h
  ·rename_i hok
   simp only[Option.some.injEq]at h
   subst h
   simp only[Bool.and_eq_true,decide_eq_true_eq]at hok
   replace hok:=hok.1
   refine .inl ⟨fs,hu,rfl,λk f hk=>⟨?_,sY fs.toList 0 _ hok f (Array.mem_toList_iff.2 (Array.mem_of_getElem? hk))⟩,?_⟩
   ·have:=oc fs.toList 0 _ hok k f (by simpa using hk)
    rw[this,Nat.zero_add]
    simp only[ba,List.map_take,List.map_map]
    rfl
   ·have:=pg fs.toList 0 _ hok
    rw[this,Nat.zero_add,ba,List.take_length,List.map_map]
    rfl
  ·cases h
 ·rename_i k e hu
  split at h
  ·rename_i hok
   simp only[Option.some.injEq]at h
   subst h
   simp only[Bool.and_eq_true,decide_eq_true_eq,beq_iff_eq]at hok
   exact .inr ⟨k,e,hu,rfl,hok.1⟩
  ·cases h
 ·cases h
theorem dm (k n:Nat)(e:TypeId)(h:k≤n):ba P (List.replicate n e) k=k*af P e:=by
 simp[ba,List.take_replicate,Nat.min_eq_left h]
theorem mh {t:TypeId}{ts:List TypeId}(h:bp P t=some ts):0<af P t:=by
 unfold bp at h
 split at h
 ·split at h
  ·rename_i hok
   simp only[Bool.and_eq_true,decide_eq_true_eq]at hok
   exact hok.2
  ·cases h
 ·split at h
  ·rename_i hok
   simp only[Bool.and_eq_true,decide_eq_true_eq]at hok
   exact hok.2
  ·cases h
 ·cases h
theorem ij {t:TypeId}{ts:List TypeId}(h:bp P t=some ts):af P t=ba P ts ts.length:=by
 rcases fN h with⟨fs,_,_,_,h4⟩|⟨n,e,_,h2,h3⟩
 ·exact h4
 ·subst h2;rw[List.length_replicate,dm _ _ _ (Nat.le_refl _),h3]
theorem nq {t:TypeId}{ts:List TypeId}(h:bp P t=some ts)(w:World):(isAgg t).run P w= .ok true w:=by
 rcases fN h with⟨fs,hu,_⟩|⟨n,e,hu,_⟩<;>simp[isAgg,run_underlying hu]
theorem gI {t:TypeId}(h:cD P t=true)(w:World):(isAgg t).run P w= .ok false w∧af P t=1:=by
 unfold cD at h
 split at h
 ·cases h
 ·cases h
 ·cases h
 ·rename_i d hs ha hu
  refine⟨?_,by simpa using h⟩
  simp only[isAgg,Sem.run_bind,run_underlying hu,Result.andThen_ok]
  cases d<;>first|rfl|(exact absurd hu (hs _))|(exact absurd hu (ha _ _))
theorem Rel.bu {t:TypeId}{x:AV}{cs:List Value}(h:Rel P w C x cs)(hf:fits P t x):cs.length=af P t:=by
 cases x<;>simp only[fits,AV.aX,Bool.false_eq_true,false_and]at hf
 case agg t' fs=>
  obtain⟨rfl,_⟩:=hf
  cases h with
  |agg cf h1 h2 h3=>exact h3
 all_goals
  obtain⟨v,rfl⟩:=h.one_cell rfl
  rw[(gI hf.2 default).2];rfl
end
end Go.Av
end
section
namespace Go.Av
open Go
section
variable {P :Program}{W0 w w':World}{C C':Ctx}{σ σ':ab}{n:Nat}{A:aa}{a:Act}{o:Oper}
theorem bW.of_same {v:AV}(h: ∀w C a,fJ P W0 o w C A a→ ∃x,(execOp a.eval o).run P w= .ok (.value x) w∧aF P w C v x):bW P W0 o A v:=
 λw C a hr=>let ⟨x,h1,h2⟩:=h w C a hr;⟨x,w,h1,h2,.refl _ _,hr.st⟩
theorem I6 {x:Operand}{u:AV}(ho:o.op= .move x)(hx:Is P W0 o A x u):bW P W0 o A u:=
 .of_same λw C a hr=>⟨a.eval x,by simp[execOp,ho],hx w C a hr⟩
theorem DR {x:Operand}{u:AV}(ho:o.op= .assign x)(hx:Is P W0 o A x u):bW P W0 o A u:=
 .of_same λw C a hr=>⟨a.eval x,by simp[execOp,ho],hx w C a hr⟩
theorem aF.strip {g:Bool}{v:AV}{x:Value}(h:aF P w C (.maybe g v) x)(hg:g=true):aF P w C v x:=by
 cases h with
 |maybe h _=>exact h hg
 |one h=>simp[AV.aX]at h
theorem fq {t:TypeId}{v:AV}{cs:List Value}{b off:Nat}(hr:Rel P w C v cs)(hf:fits P t v)(hc: ∀(j:Nat)(c:Value),cs[j]?=some c→w.cell? ⟨b,off+j,none⟩=some c):
  ∃x,(loadVar t ⟨b,off,none⟩).run P w= .ok x w∧aF P w C v x:=by
 have hlen:=hr.bu hf
 cases hv:v.aX with
 |true=>
  obtain⟨x,rfl⟩:=hr.one_cell hv
  have hp:cD P t=true:=by
   cases v<;>simp_all[fits,AV.aX]
  refine⟨x,?_,.one hv hr⟩
  have h0:=hc 0 x (by simp)
  simp only[Nat.add_zero]at h0
  simp[loadVar,(gI hp w).1,h0]
 |false=>
  cases v<;>simp only[AV.aX,Bool.true_eq_false]at hv<;>simp only[fits,AV.aX,Bool.false_eq_true,false_and]at hf
  rename_i t' fs
  obtain⟨rfl,hf⟩:=hf
  obtain⟨ts,hts⟩:=Option.isSome_iff_exists.1 hf
  obtain⟨i,hi,hsz⟩:=bJ (mh hts)
  have hl:=run_loadCells_list (P:=P) w ⟨b,off,none⟩ cs (λj c hj=>by rw[Addr.add_lit];exact hc j c hj)
  rw[hlen,←hsz]at hl
  exact⟨.agg cs.toArray,by simp[loadVar,nq hts w,sizeOf,typeInfo,hi,hl],.agg hr⟩
theorem aF.pc {t:TypeId}{v:AV}{x:Value}(h:aF P w C (.loc t v) x): ∃b off cs,x= .pointer (some ⟨b,off,none⟩)∧Rel P w C v cs∧fits P t v∧cs.length=af P t∧Cells w C b off cs:=by
 have:=h.aP rfl
 cases this with
 |loc h1 h2 h3 h4=>exact⟨_,_,_,rfl,h1,h2,h3,h4⟩
theorem yp {t:TypeId}{v:AV}{x:Operand}(ho:o.op= .load t x)(hx:Is P W0 o A x (.loc t v)):bW P W0 o A v:=
 .of_same λw C a hr=>by
  have h:=hx w C a hr
  obtain⟨b,off,cs,hv,h1,h2,h3,h4⟩:=h.pc
  obtain⟨y,hy,hr'⟩:=fq h1 h2 (λj c hj=>(h4 j c hj).1)
  exact⟨y,by simp[execOp,ho,Instr.loadAt,Instr.sureAddr,hv,hy],hr'⟩
theorem Rel.part {t:TypeId}{ts:List TypeId}{fs:List AV}{cs:List Value}(h:Rel P w C (.agg t fs) cs)(hts:bp P t=some ts){k:Nat}{x:AV}{ty:TypeId}(hx:fs[k]?=some x)(hty:ts[k]?=some ty):
  ∃c,Rel P w C x c∧c.length=af P ty∧fits P ty x∧(∀(j:Nat) (u:Value),c[j]?=some u→cs[ba P ts k+j]?=some u):=by
 cases h with
 |agg cf h1 h2 h3 h4 h5 h6=>
  rw[hts]at h1
  cases h1
  exact⟨cf k,h5 k x hx,h6 k x ty hx hty⟩
theorem Rel.sq {t:TypeId}{ts:List TypeId}{fs:List AV}{cs:List Value}(h:Rel P w C (.agg t fs) cs)(hts:bp P t=some ts):fs.length=ts.length:=by
 cases h with
 |agg cf h1 h2=>rw[hts]at h1;cases h1;exact h2
theorem tm {f:Field}(hf:0<af P f.type)(b off:Nat)(w:World):(fieldPlace ⟨b,off,none⟩ f).run P w= .ok ⟨b,off+f.offset,none⟩ w:=by
 obtain⟨i,hi,hsz⟩:=bJ hf
 simp[fieldPlace,sizeOf,typeInfo,hi,hsz,Nat.ne_of_gt hf,Addr.add_lit]
theorem qC {s:TypeId}{ts:List TypeId}{fs:List AV}{x:Operand}{k:Nat}{y:AV}{ty:TypeId}(ho:o.op= .fieldAddr s x k)(hx:Is P W0 o A x (.loc s (.agg s fs)))(hst:(P.underlying s).any (λd=>match d with| .struct _=>true|_=>false)=true)
  (hts:bp P s=some ts) (hy:fs[k]?=some y) (hty:ts[k]?=some ty):bW P W0 o A (.loc ty y):=
 .of_same λw C a hr=>by
  have h:=hx w C a hr
  obtain⟨b,off,cs,hv,h1,h2,h3,h4⟩:=h.pc
  rcases fN hts with⟨fl,hu,e1,e2,e3⟩|⟨m,e,hu,_⟩
  case inr=>simp[hu]at hst
  obtain⟨c,r1,r2,r3,r4⟩:=h1.part hts hy hty
  have hk:k<fl.size:=by
   have:k<ts.length:=(List.getElem?_eq_some_iff.1 hty).1
   rw[e1]at this;simpa using this
  have hfk:fl[k]?=some fl[k]:=Array.getElem?_eq_getElem hk
  obtain⟨hoff,hpos⟩:=e2 k _ hfk
  have hfp:=tm hpos b off w
  refine⟨.pointer (some ⟨b,off+ba P ts k,none⟩),?_,.one rfl (.loc r1 r3 r2 (λj u hj=>?_))⟩
  ·simp[execOp,ho,Instr.fieldAt,run_underlying hu,hfk,Instr.sureAddr,hv,hfp,hoff]
  ·have:=h4 (ba P ts k+j) u (r4 j u hj)
   rwa [←Nat.add_assoc]at this
theorem Rel.tw {e:TypeId}{xs:List AV}{x:AV}{v:Value}(h:Rel P w C x [v])(hx:x= .sl e xs∨x= .lit e xs∨ ∃tok,x= .own e xs tok):
  ∃ad cap cf,v= .slice ad xs.length cap∧xs.length≤cap∧cap≤maxLen∧(∀(i:Nat) (x:AV),xs[i]?=some x→Rel P w C x (cf i))∧
   (∀i x,xs[i]?=some x→(cf i).length=af P e∧fits P e x)∧eR w C (af P e) ad xs.length cf:=by
 rcases hx with rfl|rfl|⟨tok,rfl⟩
 ·cases h with|sl cf h1 h2 h3 h4 h5=>exact⟨_,_,cf,rfl,h1,h2,h3,h4,h5⟩
 ·cases h with|lit cf h1 h3 h4 h5=>exact⟨_,_,cf,rfl,Nat.le_refl _,h1,h3,h4,h5⟩
 ·cases h with|own cf h1 h2 h3 h4 h5=>exact⟨_,_,cf,rfl,h1,h2,h3,h4,h5⟩
def AV.kO :AV→Option (TypeId×List AV)
 | .sl e xs| .lit e xs| .own e xs _=>some (e,xs)
 |_=>none
theorem AV.kP {x:AV}{e:TypeId}{xs:List AV}(h:x.kO=some (e,xs)):(x= .sl e xs∨x= .lit e xs∨ ∃tok,x= .own e xs tok)∧x.aX=true:=by
 cases x<;>simp[AV.kO]at h<;>(obtain⟨rfl,rfl⟩:=h;simp[AV.aX])
theorem cr {t e:TypeId}(h:elT P t=some e):P.underlying t=some (.slice e):=by
 unfold elT at h
 split at h
 ·cases h;assumption
 ·cases h
theorem oR {t e:TypeId}{x ix:Operand}{xs:List AV}{k:IntKind}{i:Int}{l:AV}{y:AV}(ho:o.op= .indexAddr t x ix)(hx:Is P W0 o A x l)(hl:l.kO=some (e,xs))(hi:Is P W0 o A ix (.int k i))
  (ht:elT P t=some e) (he:0<af P e) (h0:0≤i) (hy:xs[i.toNat]?=some y):bW P W0 o A (.loc e y):=
 .of_same λw C a hr=>by
  have hxv:=hx w C a hr
  obtain⟨hcase,hone⟩:=AV.kP hl
  obtain⟨ad,cap,cf,hv,h1,h2,h3,h4,h5⟩:=(hxv.aP hone).tw hcase
  have hiv:=hi w C a hr
  replace hiv:=hiv.cF
  have hlt:i.toNat<xs.length:=(List.getElem?_eq_some_iff.1 hy).1
  obtain⟨b,off,rfl,hc⟩:=h5 (by omega)
  obtain⟨inf,hinf,hsz⟩:=bJ he
  have hlt':i<(xs.length:Int):=by omega
  refine⟨.pointer (some ⟨b,off+i.toNat*af P e,none⟩),?_,.one rfl (.loc (h3 _ _ hy) (h4 _ _ hy).2 (h4 _ _ hy).1 (hc _ hlt))⟩
  simp[execOp,ho,Instr.indexAt,hv,hiv,asIntOf,run_underlying (cr ht),h0,hlt',sizeOf,typeInfo,hinf,hsz,Addr.add_lit]
theorem xg {t:TypeId}{x ix:Operand}{l:List UInt8}{k:IntKind}{i:Int}{c:UInt8}(ho:o.op= .index t x ix)(hx:Is P W0 o A x (.str l))(hi:Is P W0 o A ix (.int k i))
  (ht:P.underlying t=some .string) (h0:0≤i) (hy:l[i.toNat]?=some c):bW P W0 o A (.int .u8 c.toNat):=
 .of_same λw C a hr=>by
  have hxv:=hx w C a hr
  obtain⟨hxv,_⟩:=hxv.gE
  have hiv:=hi w C a hr
  replace hiv:=hiv.cF
  have hlt:i.toNat<l.length:=(List.getElem?_eq_some_iff.1 hy).1
  refine⟨.int .u8 c.toNat,?_,.one rfl (.int _ _)⟩
  have hc:({ data:=l.toArray }:ByteArray)[i.toNat]?=some c:=by
   have:i.toNat<({ data:=l.toArray }:ByteArray).size:=by simpa[ByteArray.size]using hlt
   rw[getElem?_pos ({ data:=l.toArray }:ByteArray) i.toNat this]
   have h2:=(List.getElem?_eq_some_iff.1 hy).2
   rw[←h2]
   rfl
  simp[execOp,ho,Instr.index,hxv,hiv,asIntOf,run_underlying ht,h0,hc]
end
end Go.Av
end
section
namespace Go.Av
open Go
def cM (op:BinOp)(k:IntKind)(a b:Int):Option AV:=
 match op with
 | .add=>some (.int k (k.wrap (a+b)))
 | .sub=>some (.int k (k.wrap (a-b)))
 | .mul=>some (.int k (k.wrap (a*b)))
 | .eql=>some (.bool (a==b))
 | .neq=>some (.bool (a !=b))
 | .lss=>some (.bool (decide (a<b)))
 | .leq=>some (.bool (decide (a≤b)))
 | .gtr=>some (.bool (decide (b<a)))
 | .geq=>some (.bool (decide (b≤a)))
 | .quo=>if b=0 then none else some (.int k (k.wrap (a.tdiv b)))
 | .rem=>if b=0 then none else some (.int k (a.tmod b))
 | .and=>some (.int k (bits .and k a b))
 | .or=>some (.int k (bits .or k a b))
 | .xor=>some (.int k (bits .xor k a b))
 | .andNot=>some (.int k (bits .andNot k a b))
 |_=>none
def sT (op:BinOp)(k:IntKind)(a b:Int):Option AV:=
 if b<0 then none else match op with
 | .shl=>some (.int k (k.wrap (a*2^(min b.toNat k.bits))))
 | .shr=>some (.int k (a.fdiv (2^(min b.toNat k.bits))))
 |_=>none
def gm :BinOp→Bool
 | .shl| .shr=>true
 |_=>false
def gk (op:BinOp)(a b:List UInt8):Option AV:=
 match op with
 | .add=>if a.length+b.length≤maxLen then some (.str (a++b))else none
 | .eql=>some (.bool (a==b))
 | .neq=>some (.bool (!(a==b)))
 | .lss=>some (.bool (Op.bytesLess a b))
 | .leq=>some (.bool (Op.bytesLess a b||a==b))
 | .gtr=>some (.bool (!(Op.bytesLess a b||a==b)))
 | .geq=>some (.bool (!Op.bytesLess a b))
 |_=>none
def AV.gj :AV→Bool
 | .loc _ _| .ptr _ _ _ _| .it _=>true
 |_=>false
def eN (P:Program)(t:TypeId):Bool:=match P.underlying t with|some (.pointer _)=>true|_=>false
def iN (P:Program)(t:TypeId):Bool:=match P.underlying t with|some .bool=>true|_=>false
def AV.isFull :AV→Bool
 | .sl _ (_::_)| .lit _ (_::_)| .own _ (_::_) _=>true
 |_=>false
def jm (P:Program)(t:TypeId):AV→AV→Option Bool
 | .bool a,.bool b=>if iN P t then some (a==b)else none
 | .az,.az=>if (elT P t).isSome then some true else none
 | .az,y=>if (elT P t).isSome&&y.isFull then some false else none
 |x,.az=>if (elT P t).isSome&&x.isFull then some false else none
 | .nil,.nil=>if eN P t then some true else none
 | .nil,y=>if eN P t&&y.gj then some false else none
 |x,.nil=>if eN P t&&x.gj then some false else none
 |_,_=>none
def eq1 (P:Program)(ty:TypeId)(x y:AV):Option Bool:=
 match P.underlying ty,x,y with
 |some (.int _),.int k a,.int k' b=>if k=k' then some (a==b)else none
 |some .string,.str a,.str b=>some (a==b)
 |some .bool,.bool a,.bool b=>some (a==b)
 |_,_,_=>none
def p6 (P:Program):List TypeId→List AV→List AV→Option Bool
 |[],[],[]=>some true
 |ty::ts,x::xs,y::ys=>(eq1 P ty x y).bind λb=>(p6 P ts xs ys).map λc=>b&&c
 |_,_,_=>none
def iF (P:Program)(t:TypeId)(fs gs:List AV):Option Bool:=
 match P.underlying t with
 | some (.struct fl) => if fl.toList.all (fun f => f.name != "_") && (!P.stoodInHeld t && !P.eqGuardType P.depth t) then (bp P t).bind fun ts => p6 P ts fs gs else none
 |some (.array n e)=>if af P e==1&& !P.eqGuardType P.depth t then(bp P t).bind λts=>p6 P ts fs gs else none
 |_=>none
def cd (P:Program)(op:BinOp)(t:TypeId)(x y:AV):Option AV:=
 match x,y with
 | .int k a,.int k' b=>if gm op=true then sT op k a b else if k=k' then cM op k a b else none
 | .str a,.str b=>gk op a b
 | .agg t1 fs,.agg t2 gs=>if t1=t∧t2=t then(match op with
  | .eql=>(iF P t fs gs).map .bool
  | .neq=>(iF P t fs gs).map λb=>.bool (!b)
  |_=>none)else none
 |x,y=>match op with
  | .eql=>(jm P t x y).map .bool
  | .neq=>(jm P t x y).map λb=>.bool (!b)
  |_=>none
section
variable {P :Program}{W0 w w':World}{C C':Ctx}{σ σ':ab}{n:Nat}{A:aa}{a:Act}{o:Oper}
theorem aF.gj {x:AV}{v:Value}(h:aF P w C x v)(hp:x.gj=true): ∃ad,v= .pointer (some ad):=by
 cases x<;>simp[AV.gj]at hp
 all_goals
  have:=h.aP rfl
  cases this
  exact⟨_,rfl⟩
theorem ED {t:TypeId}(d:Nat)(hu:P.underlying t=some .bool)(p q:Bool)(w:World):(Op.equalIn (d+1) t (.bool p) (.bool q)).run P w= .ok (p==q) w:=by
 simp[Op.equalIn,run_underlying hu]
theorem EO {t e:TypeId}(d:Nat)(hu:P.underlying t=some (.pointer e))(w:World):(Op.equalIn (d+1) t (.pointer none) (.pointer none)).run P w= .ok true w:=by
 simp[Op.equalIn,run_underlying hu]
theorem Ey {t e:TypeId}(d:Nat)(hu:P.underlying t=some (.pointer e))(ad:Addr)(w:World):(Op.equalIn (d+1) t (.pointer none) (.pointer (some ad))).run P w= .ok false w:=by
 simp[Op.equalIn,run_underlying hu]
theorem Ep {t e:TypeId}(d:Nat)(hu:P.underlying t=some (.pointer e))(ad:Addr)(w:World):(Op.equalIn (d+1) t (.pointer (some ad)) (.pointer none)).run P w= .ok false w:=by
 simp[Op.equalIn,run_underlying hu]
theorem DI {t e:TypeId}(d:Nat)(hu:P.underlying t=some (.slice e))(w:World):(Op.equalIn (d+1) t (.slice none 0 0) (.slice none 0 0)).run P w= .ok true w:=by
 simp[Op.equalIn,run_underlying hu]
theorem Bz {t e:TypeId}(d:Nat)(hu:P.underlying t=some (.slice e))(ad:Addr)(l c:Nat)(w:World):(Op.equalIn (d+1) t (.slice none 0 0) (.slice (some ad) l c)).run P w= .ok false w:=by
 simp[Op.equalIn,run_underlying hu]
theorem BR {t e:TypeId}(d:Nat)(hu:P.underlying t=some (.slice e))(ad:Addr)(l c:Nat)(w:World):(Op.equalIn (d+1) t (.slice (some ad) l c) (.slice none 0 0)).run P w= .ok false w:=by
 simp[Op.equalIn,run_underlying hu]
theorem aF.isFull {x:AV}{v:Value}(h:aF P w C x v)(hp:x.isFull=true): ∃ad l c,v= .slice (some ad) l c:=by
 have key: ∀e xs,(x= .sl e xs∨x= .lit e xs∨ ∃tok,x= .own e xs tok)→0<xs.length→x.aX=true→ ∃ad l c,v= .slice (some ad) l c:=λe xs hx hl ho=>by
  obtain⟨ad,cap,cf,hv,_,_,_,_,h5⟩:=(h.aP ho).tw hx
  obtain⟨b,off,rfl,_⟩:=h5 hl
  exact⟨_,_,_,hv⟩
 unfold AV.isFull at hp
 split at hp
 ·exact key _ _ (.inl rfl) (by simp) rfl
 ·exact key _ _ (.inr (.inl rfl)) (by simp) rfl
 ·exact key _ _ (.inr (.inr ⟨_,rfl⟩)) (by simp) rfl
 ·cases hp
theorem j6 (op:BinOp)(t:TypeId)(x y:Operand)(b:Option Addr)(l c:Nat)(v:Value)(w:World):(eqGuard op t x y (.slice b l c) v).run P w= .ok () w:=by
 cases op<;>simp[eqGuard]
def Value.mG :Value→Bool
 | .bool _| .pointer _| .slice _ _ _=>true
 |_=>false
theorem Gs {t:TypeId}{x y:AV}{u v:Value}{b:Bool}(h:jm P t x y=some b)(hx:aF P w C x u)(hy:aF P w C y v):
  (Op.equal t u v).run P w= .ok b w∧Value.mG u=true:=by
 show(Op.equalIn (9999+1) t u v).run P w= .ok b w∧Value.mG u=true
 have hptr:eN P t=true→ ∃e,P.underlying t=some (.pointer e):=λhp=>by
  unfold eN at hp
  split at hp
  ·exact⟨_,by assumption⟩
  ·cases hp
 unfold jm at h
 split at h
 ·split at h
  ·rename_i hb
   simp only[Option.some.injEq]at h
   subst h
   have hu:P.underlying t=some .bool:=by
    unfold iN at hb
    split at hb
    ·assumption
    ·cases hb
   rw[hx.gf,hy.gf]
   exact⟨ED _ hu _ _ _,rfl⟩
  ·cases h
 ·split at h
  ·rename_i hp
   simp only[Option.some.injEq]at h
   subst h
   obtain⟨e,hu⟩:=Option.isSome_iff_exists.1 hp
   rw[hx.dR,hy.dR]
   exact⟨DI _ (cr hu) _,rfl⟩
  ·cases h
 ·split at h
  ·rename_i hp
   simp only[Bool.and_eq_true]at hp
   simp only[Option.some.injEq]at h
   subst h
   obtain⟨e,hu⟩:=Option.isSome_iff_exists.1 hp.1
   obtain⟨ad,l,c,rfl⟩:=hy.isFull hp.2
   rw[hx.dR]
   exact⟨Bz _ (cr hu) _ _ _ _,rfl⟩
  ·cases h
 ·split at h
  ·rename_i hp
   simp only[Bool.and_eq_true]at hp
   simp only[Option.some.injEq]at h
   subst h
   obtain⟨e,hu⟩:=Option.isSome_iff_exists.1 hp.1
   obtain⟨ad,l,c,rfl⟩:=hx.isFull hp.2
   rw[hy.dR]
   exact⟨BR _ (cr hu) _ _ _ _,rfl⟩
  ·cases h
 ·split at h
  ·rename_i hp
   simp only[Option.some.injEq]at h
   subst h
   obtain⟨e,hu⟩:=hptr hp
   rw[hx.rZ,hy.rZ]
   exact⟨EO _ hu _,rfl⟩
  ·cases h
 ·split at h
  ·rename_i hp
   simp only[Bool.and_eq_true]at hp
   simp only[Option.some.injEq]at h
   subst h
   obtain⟨e,hu⟩:=hptr hp.1
   obtain⟨ad,rfl⟩:=hy.gj hp.2
   rw[hx.rZ]
   exact⟨Ey _ hu _ _,rfl⟩
  ·cases h
 ·split at h
  ·rename_i hp
   simp only[Bool.and_eq_true]at hp
   simp only[Option.some.injEq]at h
   subst h
   obtain⟨e,hu⟩:=hptr hp.1
   obtain⟨ad,rfl⟩:=hx.gj hp.2
   rw[hy.rZ]
   exact⟨Ep _ hu _ _,rfl⟩
  ·cases h
 ·cases h
theorem AW {op:BinOp}{t:TypeId}{k:IntKind}{p q:Int}{v:AV}(h:cM op k p q=some v)(w:World):
  ∃x,(binOp op t (.int k p) (.int k q)).run P w= .ok x w∧aF P w C v x:=by
 by_cases h0:q=0
 ·subst h0
  cases op<;>simp only[cM,if_true,Option.some.injEq,reduceCtorEq]at h<;>subst h
  all_goals first
   |exact⟨_,by simp[go_sem],.one rfl (.int _ _)⟩
   |exact⟨_,by simp[go_sem],.one rfl (.bool _)⟩
 cases op<;>simp only[cM,h0,if_false,Option.some.injEq,reduceCtorEq]at h<;>subst h
 all_goals first
  |exact⟨_,by simp[go_sem,h0],.one rfl (.int _ _)⟩
  |exact⟨_,by simp[go_sem,h0],.one rfl (.bool _)⟩
theorem Dy {op:BinOp}{t:TypeId}{k k':IntKind}{p q:Int}{v:AV}(h:sT op k p q=some v)(w:World):
  ∃x,(binOp op t (.int k p) (.int k' q)).run P w= .ok x w∧aF P w C v x:=by
 unfold sT at h
 split at h
 ·cases h
 ·rename_i h0
  cases op<;>simp only[Option.some.injEq,reduceCtorEq]at h<;>subst h
  ·exact⟨_,by simp only[binOp,Op.shift,h0,if_false];rfl,.one rfl (.int _ _)⟩
  ·exact⟨_,by simp only[binOp,Op.shift,h0,if_false];rfl,.one rfl (.int _ _)⟩
theorem BA {op:BinOp}{t:TypeId}{p q:List UInt8}{v:AV}(h:gk op p q=some v)(w:World):
  ∃x,(binOp op t (.string ⟨p.toArray⟩) (.string ⟨q.toArray⟩)).run P w= .ok x w∧aF P w C v x:=by
 have hl: ∀l:List UInt8,(⟨l.toArray⟩:ByteArray).toList=l:=λl=>by
  simp[ByteArray.toList_eq]
 by_cases ha:op= .add
 ·subst ha
  simp only[gk]at h
  split at h
  ·rename_i hle
   cases h
   refine⟨_,?_,.one rfl (.str (l:=p++q) (by simpa using hle))⟩
   have hn: ¬((((⟨p.toArray⟩:ByteArray).size+(⟨q.toArray⟩:ByteArray).size:Nat):Int)>IntKind.i64.max):=by
    show ¬(((p.toArray.size+q.toArray.size:Nat):Int)>9223372036854775807)
    simp only[List.size_toArray]
    unfold maxLen at hle
    omega
   simp only[binOp,Op.stringOp,hn,if_false]
   rw[ByteArray.mk_append_mk]
   rfl
  ·cases h
 cases op<;>simp only[gk,Option.some.injEq,reduceCtorEq,not_true_eq_false]at h ha<;>subst h
 all_goals exact⟨_,by simp only[binOp,Op.stringOp,hl];rfl,.one rfl (.bool _)⟩
theorem B9 {ty:TypeId}{x y:AV}{b:Bool}(h:eq1 P ty x y=some b):x.aX=true∧y.aX=true∧(∀(d:Nat) (v v':Value),Rel P w C x [v]→Rel P w C y [v']→(Op.equalIn (d+1) ty v v').run P w= .ok b w)∧
  ∀(cs:Array Value) (off:Nat) (v:Value),cs[off]?=some v→(Go.part ty cs off).run P w= .ok v w:=by
 unfold eq1 at h
 split at h
 ·rename_i k0 k a k' b' hu
  split at h
  ·rename_i hk
   subst hk
   cases h
   refine⟨rfl,rfl,λd v v' hv hv'=>?_,λcs off v hv=>by simp[Go.part,isAgg,run_underlying hu,hv]⟩
   cases hv;cases hv'
   exact run_equalIn_int w d ty _ _ _ _ hu
  ·cases h
 ·rename_i a b' hu
  cases h
  refine⟨rfl,rfl,λd v v' hv hv'=>?_,λcs off v hv=>by simp[Go.part,isAgg,run_underlying hu,hv]⟩
  cases hv;cases hv'
  rw[run_equalIn_string w d ty _ _ hu]
  simp[ByteArray.toList_eq]
 ·rename_i a b' hu
  cases h
  refine⟨rfl,rfl,λd v v' hv hv'=>?_,λcs off v hv=>by simp[Go.part,isAgg,run_underlying hu,hv]⟩
  cases hv;cases hv'
  exact run_equalIn_bool' w d ty _ _ hu
 ·cases h
theorem ya (d : Nat) {cs ds : List Value} : ∀ (fl : List Field) (xs ys : List AV) (b : Bool), fl.all (fun f => f.name != "_") = true →
  (∀(i:Nat) (f:Field) (x:AV),fl[i]?=some f→xs[i]?=some x→x.aX=true→ ∃v,Rel P w C x [v]∧cs[f.offset]?=some v)→(∀(i:Nat) (f:Field) (x:AV),fl[i]?=some f→ys[i]?=some x→x.aX=true→ ∃v,Rel P w C x [v]∧ds[f.offset]?=some v)→
  p6 P (fl.map (·.type)) xs ys=some b→(Op.eqFields (d+1) cs.toArray ds.toArray fl).run P w= .ok b w
 |[],xs,ys,b,_,_,_,h=>by
  rcases xs with _|⟨x,xs⟩<;>rcases ys with _|⟨y,ys⟩<;>simp[p6]at h
  subst h
  simp[Op.eqFields]
 |f::fl,xs,ys,b,hn,hx,hy,h=>by
  rcases xs with _|⟨x,xs⟩<;>rcases ys with _|⟨y,ys⟩<;>simp only[List.map_cons,p6,reduceCtorEq]at h
  rw[List.all_cons,Bool.and_eq_true,bne_iff_ne]at hn
  cases h1:eq1 P f.type x y with
  |none=>rw[h1]at h;cases h
  |some b1=>
   rw[h1,Option.bind_some]at h
   cases h2:p6 P (fl.map (·.type)) xs ys with
   |none=>rw[h2]at h;cases h
   |some b2=>
    rw[h2,Option.map_some]at h
    cases h
    obtain⟨o1,o2,r1,r2⟩:=B9 (P:=P) (w:=w) (C:=C) h1
    obtain⟨v,hv,hc⟩:=hx 0 f x rfl rfl o1
    obtain⟨v',hv',hc'⟩:=hy 0 f y rfl rfl o2
    have ih:=ya d fl xs ys b2 hn.2 (λi g z hg hz=>hx (i+1) g z (by simpa using hg) (by simpa using hz)) (λi g z hg hz=>hy (i+1) g z (by simpa using hg) (by simpa using hz)) h2
    simp only[Op.eqFields,hn.1,ne_eq,not_false_eq_true,if_true,Sem.run_bind,r2 cs.toArray f.offset v (by simpa using hc),r2 ds.toArray f.offset v' (by simpa using hc'),Result.andThen_ok,r1 d v v' hv hv']
    cases b1
    ·simp
    ·simpa using ih
theorem yO (d:Nat){e:TypeId}{cs ds:List Value}: ∀(m k:Nat) (xs ys:List AV) (b:Bool),
  (∀(i:Nat) (x:AV),xs[i]?=some x→i<m→x.aX=true→ ∃v,Rel P w C x [v]∧cs[k+i]?=some v)→(∀(i:Nat) (x:AV),ys[i]?=some x→i<m→x.aX=true→ ∃v,Rel P w C x [v]∧ds[k+i]?=some v)→
  p6 P (List.replicate m e) xs ys=some b→(Op.eqItems (d+1) e 1 cs.toArray ds.toArray (List.range' k m)).run P w= .ok b w
 |0,k,xs,ys,b,_,_,h=>by
  rcases xs with _|⟨x,xs⟩<;>rcases ys with _|⟨y,ys⟩<;>simp[p6]at h
  subst h
  simp[Op.eqItems]
 |m+1,k,xs,ys,b,hx,hy,h=>by
  rcases xs with _|⟨x,xs⟩<;>rcases ys with _|⟨y,ys⟩<;>simp only[List.replicate_succ,p6,reduceCtorEq]at h
  cases h1:eq1 P e x y with
  |none=>rw[h1]at h;cases h
  |some b1=>
   rw[h1,Option.bind_some]at h
   cases h2:p6 P (List.replicate m e) xs ys with
   |none=>rw[h2]at h;cases h
   |some b2=>
    rw[h2,Option.map_some]at h
    cases h
    obtain⟨o1,o2,r1,r2⟩:=B9 (P:=P) (w:=w) (C:=C) h1
    obtain⟨v,hv,hc⟩:=hx 0 x rfl (Nat.succ_pos _) o1
    obtain⟨v',hv',hc'⟩:=hy 0 y rfl (Nat.succ_pos _) o2
    have ih:=yO d m (k+1) xs ys b2 (λi z hz hi=>by have:=hx (i+1) z (by simpa using hz) (by omega);rwa [show k+(i+1)=k+1+i by omega]at this) (λi z hz hi=>by have:=hy (i+1) z (by simpa using hz) (by omega);rwa [show k+(i+1)=k+1+i by omega]at this) h2
    rw[List.range'_succ]
    simp only[Op.eqItems,Sem.run_bind,Nat.mul_one,r2 cs.toArray k v (by simpa using hc),r2 ds.toArray k v' (by simpa using hc'),Result.andThen_ok,r1 d v v' hv hv']
    cases b1
    ·simp
    ·simpa using ih
theorem DY {e:TypeId}(h:af P e=1)(m:Nat): ∀i,i≤m→ba P (List.replicate m e) i=i:=λi hi=>by
 unfold ba
 rw[List.take_replicate,Nat.min_eq_left hi,List.map_replicate,h,List.sum_replicate_nat,Nat.mul_one]
theorem vY {t:TypeId}{fs gs:List AV}{u u':Value}{b:Bool}(h:iF P t fs gs=some b)(hx:aF P w C (.agg t fs) u)(hy:aF P w C (.agg t gs) u')(op:BinOp)(ox oy:Operand):
  (eqGuard op t ox oy u u').run P w= .ok () w∧(Op.equalIn 10000 t u u').run P w= .ok b w∧ ∃cs ds,u= .agg cs∧u'= .agg ds:=by
 obtain⟨cs,rfl,h1⟩:=hx.py
 obtain⟨ds,rfl,h2⟩:=hy.py
 unfold iF at h
 split at h
 ·rename_i fl hu
  split at h
  ·rename_i hok
   simp only[Bool.and_eq_true,Bool.not_eq_true']at hok
   obtain⟨hnm,hst,hg⟩:=hok
   cases hf:bp P t with
   |none=>rw[hf]at h;cases h
   |some ts=>
    rw[hf,Option.bind_some]at h
    refine⟨run_eqGuard_agg w op t ox oy _ _ hg,?_,_,_,rfl,rfl⟩
    have hfo:P.fieldsOf t=fl:=by simp[Program.fieldsOf,hu]
    rw[run_equalIn_struct w 9999 t _ _ (by rw[hfo];exact hu) hst,hfo]
    rcases fN hf with⟨fl',hu',e1,e2,e3⟩|⟨m,e,hu',_⟩
    case inr=>rw[hu]at hu';cases hu'
    rw[hu]at hu'
    cases hu'
    have hts:ts=fl.toList.map (·.type):=by rw[e1]
    have key: ∀{zs:List AV} {es:List Value},Rel P w C (.agg t zs) es→ ∀(i:Nat) (f:Field) (x:AV),fl.toList[i]?=some f→zs[i]?=some x→x.aX=true→ ∃v,Rel P w C x [v]∧es[f.offset]?=some v:=λ{zs es} hz i f x hfi hxi ho=>by
     have hty:ts[i]?=some f.type:=by rw[hts,List.getElem?_map,hfi];rfl
     obtain⟨c,r1,r2,r3,r4⟩:=hz.part hf hxi hty
     obtain⟨v,rfl⟩:=r1.one_cell ho
     have:=r4 0 v rfl
     obtain⟨hoff,_⟩:=e2 i f (by simpa using hfi)
     refine⟨v,r1,?_⟩
     rw[hoff]
     simpa using this
    rw[hts]at h
    exact ya 9998 fl.toList fs gs b hnm (key h1) (key h2) h
  ·cases h
 ·rename_i n e hu
  split at h
  ·rename_i hok
   simp only[Bool.and_eq_true,Bool.not_eq_true',beq_iff_eq]at hok
   obtain⟨hsz,hg⟩:=hok
   cases hf:bp P t with
   |none=>rw[hf]at h;cases h
   |some ts=>
    rw[hf,Option.bind_some]at h
    refine⟨run_eqGuard_agg w op t ox oy _ _ hg,?_,_,_,rfl,rfl⟩
    obtain⟨fi,hfi⟩: ∃fi,P.info? e=some fi:=by
     unfold af at hsz
     cases hi:P.info? e with
     |none=>rw[hi]at hsz;cases hsz
     |some fi=>exact⟨fi,rfl⟩
    have hce:P.cellsOf e=1:=by
     unfold af at hsz
     unfold Program.cellsOf
     rw[hfi]at hsz ⊢
     exact hsz
    rw[run_equalIn_array w 9999 _ _ hu hfi,hce,List.range_eq_range']
    rcases fN hf with⟨fl',hu',_⟩|⟨m,e',hu',hts,_⟩
    ·rw[hu]at hu';cases hu'
    rw[hu]at hu'
    cases hu'
    have key: ∀{zs:List AV} {es:List Value},Rel P w C (.agg t zs) es→ ∀(i:Nat) (x:AV),zs[i]?=some x→i<n→x.aX=true→ ∃v,Rel P w C x [v]∧es[0+i]?=some v:=λ{zs es} hz i x hxi hin ho=>by
     have hty:ts[i]?=some e:=by rw[hts,List.getElem?_replicate,if_pos hin]
     obtain⟨c,r1,r2,r3,r4⟩:=hz.part hf hxi hty
     obtain⟨v,rfl⟩:=r1.one_cell ho
     have:=r4 0 v rfl
     rw[hts,DY hsz n i (by omega)]at this
     exact⟨v,r1,by simpa using this⟩
    rw[hts]at h
    exact yO 9998 n 0 fs gs b (key h1) (key h2) h
  ·cases h
 ·cases h
theorem Fw {op:BinOp}{t:TypeId}{x y v:AV}{u u':Value}(h:cd P op t x y=some v)(hx:aF P w C x u)(hy:aF P w C y u')(ox oy:Operand):
  ∃z,(do eqGuard op t ox oy u u';binOp op t u u').run P w= .ok z w∧aF P w C v z:=by
 unfold cd at h
 split at h
 ·split at h
  ·rename_i k p k' q hs
   rw[hx.cF,hy.cF,Sem.run_bind,show eqGuard op t ox oy (.int k p) (.int k' q)=pure ()from by cases op<;>simp[gm]at hs<;>simp[eqGuard]; ]
   exact Dy h w
  split at h
  ·rename_i k p k' q _ hk
   subst hk
   rw[hx.cF,hy.cF,eqGuard_at_int]
   exact AW h w
  ·cases h
 ·rw[hx.gE.1,hy.gE.1,eqGuard_at_string]
  exact BA h w
 ·split at h
  ·rename_i t1 fs t2 gs ht
   obtain⟨rfl,rfl⟩:=ht
   split at h
   ·cases hb:iF P t2 fs gs with
    |none=>rw[hb]at h;cases h
    |some b=>
     rw[hb]at h
     cases h
     obtain⟨g1,g2,cs,ds,rfl,rfl⟩:=vY hb hx hy .eql ox oy
     refine⟨.bool b,?_,.one rfl (.bool _)⟩
     rw[Sem.run_bind,g1,Result.andThen_ok,run_eql_struct,g2]
     rfl
   ·cases hb:iF P t2 fs gs with
    |none=>rw[hb]at h;cases h
    |some b=>
     rw[hb]at h
     cases h
     obtain⟨g1,g2,cs,ds,rfl,rfl⟩:=vY hb hx hy .neq ox oy
     refine⟨.bool (!b),?_,.one rfl (.bool _)⟩
     rw[Sem.run_bind,g1,Result.andThen_ok,run_neq_struct,g2]
     rfl
   ·cases h
  ·cases h
 ·rename_i h1 h2
  have key: ∀b,jm P t x y=some b→(do eqGuard op t ox oy u u';(pure ():Sem Unit)).run P w= .ok () w∧(Op.equal t u u').run P w= .ok b w∧Value.mG u=true:=λb hb=>by
   obtain⟨e1,e2⟩:=Gs hb hx hy
   refine⟨?_,e1,e2⟩
   cases u<;>simp[Value.mG]at e2
   ·rw[eqGuard_at_bool];rfl
   ·rw[eqGuard_at_pointer];rfl
   ·rw[Sem.run_bind,j6];rfl
  split at h
  ·cases hb:jm P t x y with
   |none=>simp[hb]at h
   |some b=>
    simp[hb]at h
    subst h
    obtain⟨g1,g2,g3⟩:=key b hb
    refine⟨.bool b,?_,.one rfl (.bool _)⟩
    cases u<;>simp[Value.mG]at g3
    ·simp[eqGuard_at_bool,binOp,g2]
    ·cases u'<;>simp[eqGuard_at_pointer,binOp,g2]
    ·cases u'<;>simp[j6,binOp,g2]
  ·cases hb:jm P t x y with
   |none=>simp[hb]at h
   |some b=>
    simp[hb]at h
    subst h
    obtain⟨g1,g2,g3⟩:=key b hb
    refine⟨.bool (!b),?_,.one rfl (.bool _)⟩
    cases u<;>simp[Value.mG]at g3
    ·simp[eqGuard_at_bool,binOp,g2]
    ·cases u'<;>simp[eqGuard_at_pointer,binOp,g2]
    ·cases u'<;>simp[j6,binOp,g2]
  ·cases h
theorem Fz {op:BinOp}{t t':TypeId}{x y:Operand}{u v z:AV}(ho:o.op= .binOp op t x y t')(hx:Is P W0 o A x u)(hy:Is P W0 o A y v)(hb:cd P op t u v=some z):bW P W0 o A z:=
 .of_same λw C a hr=>by
  have h1:=hx w C a hr
  have h2:=hy w C a hr
  obtain⟨r,h3,h4⟩:=Fw hb h1 h2 x y
  refine⟨r,?_,h4⟩
  simp only[execOp,ho,Sem.run_bind,h3,Result.andThen_ok,Sem.run_pure]
end
end Go.Av
end
section
namespace Go.Av
open Go
def rm (c x y:Bool):Bool:=if c then x else y
theorem yq (c x:Bool):rm c x false=(c&&x):=by cases c<;>rfl
theorem AE (c y:Bool):rm c true y=(c||y):=by cases c<;>rfl
def lT (c:Bool)(x y:AV):AV:=
 match x,y with
 | .bool p,.bool q=>.bool (rm c p q)
 |x,y=>if c then x else y
section
variable {P :Program}{W0 w w':World}{C C':Ctx}{σ σ':ab}{n:Nat}{A:aa}{a:Act}{o:Oper}
theorem AB {c:Bool}{x y:AV}{u v:Value}(hx:c=true→aF P w C x u)(hy:c=false→aF P w C y v):aF P w C (lT c x y) (if c then u else v):=by
 unfold lT
 split
 ·rename_i p q
  cases c
  ·have:=hy rfl;simpa[rm]using this
  ·have:=hx rfl;simpa[rm]using this
 ·cases c
  ·simpa using hy rfl
  ·simpa using hx rfl
theorem Kd {c x y:Operand}{b:Bool}{u v:AV}(ho:o.op= .pick c x y)(hc:Is P W0 o A c (.bool b))
  (hx:b=true→Is P W0 o A x u) (hy:b=false→Is P W0 o A y v):bW P W0 o A (lT b u v):=
 .of_same λw C a hr=>by
  have h:=(hc w C a hr).gf
  refine⟨if b then a.eval x else a.eval y,?_,AB (λh=>hx h w C a hr) (λh=>hy h w C a hr)⟩
  simp[execOp,ho,h,asBool]
theorem NT {t:TypeId}{x:Operand}{b:Bool}(ho:o.op= .unOp .not t x)(hx:Is P W0 o A x (.bool b)):bW P W0 o A (.bool (!b)):=
 .of_same λw C a hr=>by
  have h:=hx w C a hr
  exact⟨.bool (!b),by simp[execOp,ho,h.gf,Op.unary],.one rfl (.bool _)⟩
theorem NS {t:TypeId}{x:Operand}{k:IntKind}{m:Int}(ho:o.op= .unOp .neg t x)(hx:Is P W0 o A x (.int k m)):bW P W0 o A (.int k (k.wrap (-m))):=
 .of_same λw C a hr=>by
  have h:=hx w C a hr
  exact⟨.int k (k.wrap (-m)),by simp[execOp,ho,h.cF,Op.unary,Op.intArith],.one rfl (.int _ _)⟩
theorem BE {x:Operand}{as:List AV}{k:Nat}{v:AV}(ho:o.op= .extract x k)(hx:Is P W0 o A x (.tup as))(hv:as[k]?=some v):bW P W0 o A v:=
 .of_same λw C a hr=>by
  have h:=hx w C a hr
  obtain⟨vs,e1,e2,e3⟩:=h.B8
  have hk:k<vs.length:=by rw[←e2];exact(List.getElem?_eq_some_iff.1 hv).1
  exact⟨vs[k],by simp[execOp,ho,e1,Instr.extract,hk],e3 k v _ hv (List.getElem?_eq_getElem hk)⟩
theorem xR {x:Operand}{v:AV}(ho:o.op= .nilCheck x)(hx:Is P W0 o A x v)(hp:v.gj=true):bW P W0 o A v:=
 .of_same λw C a hr=>by
  have h:=hx w C a hr
  obtain⟨ad,had⟩:=h.gj hp
  exact⟨.pointer (some ad),by simp[execOp,ho,had],by rw[←had];exact h⟩
theorem Bw {s d:TypeId}{x:Operand}{k k':IntKind}{m:Int}(ho:o.op= .convert s d x)(hx:Is P W0 o A x (.int k m))(hs:(P.underlying s).isSome=true)(hd:P.underlying d=some (.int k')):
  bW P W0 o A (.int k' (k'.wrap m)):=
 .of_same λw C a hr=>by
  have h:=hx w C a hr
  have hik:P.intKind d=k':=by simp[Program.intKind,hd]
  refine⟨.int k' (k'.wrap m),?_,.one rfl (.int _ _)⟩
  have:=run_convert_int (P:=P) w s d k m hs (by rw[hik];exact hd)
  rw[hik]at this
  simp[execOp,ho,h.cF,this]
def IsL (P:Program)(W0:World)(o:Oper)(A:aa)(xs:List Operand)(us:List AV):Prop:=xs.length=us.length∧ ∀(i:Nat) (x:Operand) (u:AV),xs[i]?=some x→us[i]?=some u→Is P W0 o A x u
theorem xS {f:FuncId}{caps:Array Operand}{vs:List AV}(ho:o.op= .makeFunc (.func f) #[] caps)(hv:IsL P W0 o A caps.toList vs)(h1:vs.all AV.aX=true):bW P W0 o A (.fn f vs):=
 .of_same λw C a hr=>by
  refine⟨.func (.func f) #[] (caps.toList.map a.eval).toArray,?_,.one rfl (.fn (by simp[←hv.1]) (λi c hc=>?_) (λi c v hc hi=>?_))⟩
  ·have e:Array.map a.eval caps=(caps.toList.map a.eval).toArray:=by rw[←Array.toList_map]
   simp[execOp,ho,Instr.makeFunc,e]
  ·exact List.all_eq_true.1 h1 c (List.mem_of_getElem? hc)
  ·have hone:=List.all_eq_true.1 h1 c (List.mem_of_getElem? hc)
   simp only[List.getElem?_map,Option.map_eq_some_iff]at hi
   obtain⟨y,hy,rfl⟩:=hi
   exact(hv.2 i y c hy hc w C a hr).aP hone
def AV.lenOf :AV→Option Nat
 | .sl _ xs| .lit _ xs| .own _ xs _=>some xs.length
 | .az=>some 0
 | .row _ _ _ n=>some n
 |_=>none
theorem aF.vu {x:AV}{v:Value}{m:Nat}(h:aF P w C x v)(hl:x.lenOf=some m): ∃ad cap,v= .slice ad m cap∧m≤cap∧cap≤maxLen:=by
 cases x<;>simp only[AV.lenOf,Option.some.injEq,reduceCtorEq]at hl<;>subst hl
 ·rw[h.dR];exact⟨_,_,rfl,Nat.le_refl _,Nat.zero_le _⟩
 ·have:=h.aP rfl;cases this with|sl cf h1 h2=>exact⟨_,_,rfl,h1,h2⟩
 ·have:=h.aP rfl;cases this with|lit cf h1=>exact⟨_,_,rfl,Nat.le_refl _,h1⟩
 ·have:=h.aP rfl;cases this with|own cf h1 h2=>exact⟨_,_,rfl,h1,h2⟩
 ·have:=h.aP rfl;cases this with|row h1 h2=>exact⟨_,_,rfl,h1,h2⟩
theorem O3 {x:AV}{v:Value}{m:Nat}(h:aF P w C x v)(hl:x.lenOf=some m):m≤maxLen:=by
 obtain⟨_,_,_,h1,h2⟩:=h.vu hl;omega
theorem O7 {x:Operand}{t:TypeId}{v:AV}{m:Nat}(ho:o.op= .call { callee:=.builtin .len,args:=#[x],argTypes:=#[t] })(hx:Is P W0 o A x v)(hl:v.lenOf=some m)(ht:(elT P t).isSome=true):bW P W0 o A (.int .i64 m):=
 .of_same λw C a hr=>by
  have h:=hx w C a hr
  obtain⟨ad,cap,hv,_,_⟩:=h.vu hl
  obtain⟨e,he⟩:=Option.isSome_iff_exists.1 ht
  exact⟨.int .i64 m,by simp[execOp,ho,resolve,invoke,builtin,Builtin.len_,run_underlying (cr he),hv,goInt],.one rfl (.int _ _)⟩
theorem zN {x:Operand}{t:TypeId}(ho:o.op= .call { callee:=.builtin .cap,args:=#[x],argTypes:=#[t] })(hx:Is P W0 o A x .az)(ht:(elT P t).isSome=true):bW P W0 o A (.int .i64 0):=
 .of_same λw C a hr=>by
  have h:=hx w C a hr
  obtain⟨e,he⟩:=Option.isSome_iff_exists.1 ht
  exact⟨.int .i64 0,by simp[execOp,ho,resolve,invoke,builtin,Builtin.cap_,run_underlying (cr he),h.dR,goInt],.one rfl (.int _ _)⟩
theorem AL {x:Operand}{t:TypeId}{l:List UInt8}(ho:o.op= .call { callee:=.builtin .len,args:=#[x],argTypes:=#[t] })(hx:Is P W0 o A x (.str l))(ht:P.underlying t=some .string):bW P W0 o A (.int .i64 l.length):=
 .of_same λw C a hr=>by
  have h:=hx w C a hr
  have e:(⟨l.toArray⟩:ByteArray).size=l.length:=by show l.toArray.size=l.length;simp
  exact⟨.int .i64 l.length,by simp[execOp,ho,resolve,invoke,builtin,Builtin.len_,run_underlying ht,h.gE.1,goInt,e],.one rfl (.int _ _)⟩
def yC (a b:Int):Int:=if b>a then b else a
def rG (a b:Int):Int:=if b<a then b else a
theorem N5 {x y:Operand}{ts:Array TypeId}{k:IntKind}{p q:Int}(ho:o.op= .call { callee:=.builtin .max,args:=#[x,y],argTypes:=ts })(hx:Is P W0 o A x (.int k p))(hy:Is P W0 o A y (.int k q)):bW P W0 o A (.int k (yC p q)):=
 .of_same λw C a hr=>by
  have h1:=hx w C a hr
  have h2:=hy w C a hr
  exact⟨.int k (yC p q),by simp[execOp,ho,resolve,invoke,builtin,Builtin.max_,Builtin.max2,h1.cF,h2.cF,yC],.one rfl (.int _ _)⟩
theorem N3 {x y:Operand}{ts:Array TypeId}{k:IntKind}{p q:Int}(ho:o.op= .call { callee:=.builtin .min,args:=#[x,y],argTypes:=ts })(hx:Is P W0 o A x (.int k p))(hy:Is P W0 o A y (.int k q)):bW P W0 o A (.int k (rG p q)):=
 .of_same λw C a hr=>by
  have h1:=hx w C a hr
  have h2:=hy w C a hr
  exact⟨.int k (rG p q),by simp[execOp,ho,resolve,invoke,builtin,Builtin.min_,Builtin.min2,h1.cF,h2.cF,rG],.one rfl (.int _ _)⟩
end
end Go.Av
end
section
namespace Go.Av
open Go
def za (m:Int):List UInt8:=(Utf8.encode m).data.toList
section
variable {P :Program}{W0 w w':World}{C C':Ctx}{σ σ':ab}{n:Nat}{A:aa}{a:Act}{o:Oper}
theorem J6 (m:Int):(za m).length≤4:=by
 unfold za Utf8.encode
 simp only
 generalize (if Utf8.valid m then m.toNat else Utf8.runeError)=c
 by_cases h1:c<0x80
 ·rw[if_pos h1];exact Nat.le_of_ble_eq_true rfl
 by_cases h2:c<0x800
 ·rw[if_neg h1,if_pos h2];exact Nat.le_of_ble_eq_true rfl
 by_cases h3:c<0x10000
 ·rw[if_neg h1,if_neg h2,if_pos h3];exact Nat.le_of_ble_eq_true rfl
 ·rw[if_neg h1,if_neg h2,if_neg h3];exact Nat.le_of_ble_eq_true rfl
theorem rA {s d:TypeId}{x:Operand}{k:IntKind}{m:Int}(ho:o.op= .convert s d x)(hx:Is P W0 o A x (.int k m))(hs:(P.underlying s).isSome=true)(hd:P.underlying d=some .string):
  bW P W0 o A (.str (za m)):=
 .of_same λw C a hr=>by
  have h:=hx w C a hr
  obtain⟨su,hsu⟩:=Option.isSome_iff_exists.1 hs
  refine⟨.string (Utf8.encode m),?_,.one rfl (.str (Nat.le_trans (J6 m) (by decide)))⟩
  have:(convert s d (.int k m)).run P w= .ok (.string (Utf8.encode m)) w:=by
   simp only[convert,Sem.run_bind,run_underlying hsu,run_underlying hd,Result.andThen_ok]
   cases su<;>rfl
  simp[execOp,ho,h.cF,this]
theorem rz {s d:TypeId}{x:Operand}{l:List UInt8}(ho:o.op= .convert s d x)(hx:Is P W0 o A x (.str l))(hs:P.underlying s=some .string)(hd:P.underlying d=some .string):
  bW P W0 o A (.str l):=
 .of_same λw C a hr=>by
  have h:=hx w C a hr
  refine⟨.string ⟨l.toArray⟩,?_,.one rfl (.str h.gE.2)⟩
  have:(convert s d (.string ⟨l.toArray⟩)).run P w= .ok (.string ⟨l.toArray⟩) w:=by
   simp only[convert,Sem.run_bind,run_underlying hs,run_underlying hd,Result.andThen_ok]
   rfl
  simp[execOp,ho,h.gE.1,this]
end
end Go.Av
end
section
namespace Go.Av
open Go
def nM (c:UInt8):AV:=.int .u8 c.toNat
def jj :AV→UInt8| .int _ n=>UInt8.ofNat n.toNat|_=>0
def isByte :AV→Prop| .int k n=>k= .u8∧0≤n∧n<256|_=>False
def gL :List AV→Prop|[]=>True|x::r=>isByte x∧gL r
theorem Ed {x:AV}(h:isByte x):x=nM (jj x):=by
 cases x<;>first|exact h.elim|skip
 rename_i k n
 obtain⟨rfl,h1,h2⟩:=h
 have:((UInt8.ofNat n.toNat).toNat:Int)=n:=by
  rw[UInt8.toNat_ofNat']
  omega
 simp only[nM,jj,this]
theorem tt : ∀{xs:List AV},gL xs→xs=(xs.map jj).map nM
 |[],_=>rfl
 |x::r,h=>by rw[List.map_cons,List.map_cons,←Ed h.1,←tt h.2]
section
variable {P :Program}{W0 w w':World}{C C':Ctx}{σ σ':ab}{n:Nat}{A:aa}{a:Act}{o:Oper}
theorem qp {s d e:TypeId}{x:Operand}{u:AV}{l:List UInt8}(ho:o.op= .convert s d x)(hx:Is P W0 o A x u)(hu:u.kO=some (e,l.map nM))(hs:P.underlying s=some (.slice e))(he:P.underlying e=some (.int .u8))(h1:af P e=1)
  (hd:P.underlying d=some .string):bW P W0 o A (.str l):=
 .of_same λw C a hr=>by
  have h:=hx w C a hr
  obtain⟨hcase,hone⟩:=AV.kP hu
  obtain⟨ad,cap,cf,hv,y1,y2,y3,y4,y5⟩:=(h.aP hone).tw hcase
  rw[List.length_map]at hv y1 y5
  have hlen:l.length≤maxLen:=Nat.le_trans y1 y2
  refine⟨.string ⟨l.toArray⟩,?_,.one rfl (.str hlen)⟩
  by_cases hl0:l=[]
  ·subst hl0
   have hc1:=run_convert_bytes_string (P:=P) w s d e ad 0 cap hs he hd
   have:(Conv.bytesToString (.slice ad 0 cap)).run P w= .ok (.string ⟨#[]⟩) w:=by
    cases ad with
    |none=>rfl
    |some ad=>
     have:=run_bytesToString (P:=P) w ad 0 cap [] (by
      have:=run_loadCells_list (P:=P) (w:=w) ad [] (by simp)
      simpa using this)
     exact(by simpa using this:(Conv.bytesToString (.slice (some ad) 0 cap)).run P w= .ok (.string ByteArray.empty) w)
   rw[List.length_nil]at hv
   simp[execOp,ho,hv,hc1,this]
  ·obtain⟨b,off,rfl,hc⟩:=y5 (by cases l with|nil=>exact absurd rfl hl0|cons=>simp)
   have:=run_convert_bytes_arg (P:=P) w s e hs he b off l.length cap (l.map λc=>((c.toNat:Nat):Int)) (by simp) (λi hi=>by
    obtain⟨c,hcc⟩: ∃c,l[i]?=some c:=⟨_,List.getElem?_eq_getElem hi⟩
    have hx:(l.map nM)[i]?=some (nM c):=by rw[List.getElem?_map,hcc];rfl
    have hcf:cf i=[.int .u8 c.toNat]:=by
     have:=y3 i _ hx
     generalize cf i=z at this
     cases this
     rfl
    have hg:=(hc i hi 0 (.int .u8 c.toNat) (by rw[hcf];rfl)).1
    rw[h1,Nat.mul_one,Nat.add_zero]at hg
    rw[hg]
    have:(l.map λc=>((c.toNat:Nat):Int)).getD i 0=c.toNat:=by rw[List.getD_eq_getElem?_getD,List.getElem?_map,hcc];rfl
    rw[this]) d hd
   have hso:strOfNums (l.map λc=>((c.toNat:Nat):Int))=⟨l.toArray⟩:=by
    unfold strOfNums
    rw[List.map_map]
    congr 2
    refine(List.map_congr_left λc _=>?_).trans (List.map_id l)
    simp
   rw[hso]at this
   simp[execOp,ho,hv,this]
end
end Go.Av
end
section
namespace Go.Av
open Go
def jF (P:Program)(W0:World)(o:Oper)(A:aa)(x:Option Operand)(d l:Nat):Prop:=
 match x with
 |none=>l=d
 |some y=>∃ k i,Is P W0 o A y (.int k i)∧0≤i∧i.toNat=l
def gp {α:Type}(xs:List α)(lo hi:Nat):List α:=(xs.drop lo).take (hi-lo)
theorem rv {α:Type}(xs:List α){lo hi:Nat}(h:lo≤hi)(h':hi≤xs.length):(gp xs lo hi).length=hi-lo:=by simp[gp];omega
theorem zW {α:Type}{xs:List α}{lo hi i:Nat}{x:α}(hx:(gp xs lo hi)[i]?=some x):xs[lo+i]?=some x∧i<hi-lo:=by
 unfold gp at hx
 rw[List.getElem?_take]at hx
 split at hx
 ·rw[List.getElem?_drop]at hx;exact⟨hx,by assumption⟩
 ·cases hx
section
variable {P :Program}{W0 w w':World}{C C':Ctx}{σ σ':ab}{n:Nat}{A:aa}{a:Act}{o:Oper}
theorem run_sliceBound {w:World}(k:IntKind){i:Int}{y l:Nat}(code:BoundsCode)(h0:0≤i)(hl:i.toNat=l)(hy:l≤y):(Instr.sliceBound (.int k i) y code).run P w= .ok l w:=by
 have h1:0≤i∧i≤(y:Int):=⟨h0,by omega⟩
 simp[Instr.sliceBound,asIntOf,h1,hl]
theorem fu (hr:fJ P W0 o w C A a)(isS:Bool){lo hi:Option Operand}{len cap l h:Nat}(hlo:jF P W0 o A lo 0 l)(hhi:jF P W0 o A hi len h)(hlh:l≤h)(hhc:h≤cap):
  (Instr.sliceBounds isS len cap (lo.map a.eval) (hi.map a.eval) none).run P w= .ok (l,h,cap) w:=by
 have e: ∀y k i,Is P W0 o A y (.int k i)→a.eval y= .int k i:=λy k i hy=>(hy w C a hr).cF
 cases lo with
 |none=>
  cases hi with
  |none=>simp only[jF]at hlo hhi;subst hlo hhi;simp[Instr.sliceBounds]
  |some y=>
   obtain⟨k,i,h1,h2,h3⟩:=hhi
   simp only[jF]at hlo
   subst hlo
   simp[Instr.sliceBounds,e y k i h1,run_sliceBound k _ h2 h3 hhc]
 |some x=>
  obtain⟨kx,ix,x1,x2,x3⟩:=hlo
  cases hi with
  |none=>
   simp only[jF]at hhi
   subst hhi
   simp[Instr.sliceBounds,e x kx ix x1,run_sliceBound kx _ x2 x3 hlh]
  |some y=>
   obtain⟨k,i,h1,h2,h3⟩:=hhi
   simp[Instr.sliceBounds,e x kx ix x1,e y k i h1,run_sliceBound kx _ x2 x3 hlh,run_sliceBound k _ h2 h3 hhc]
theorem xo {t:TypeId}{x:Operand}{lo hi:Option Operand}{l:List UInt8}{p q:Nat}(ho:o.op= .slice t x lo hi none)(hx:Is P W0 o A x (.str l))(ht:P.underlying t=some .string)
  (hlo:jF P W0 o A lo 0 p) (hhi:jF P W0 o A hi l.length q) (h1:p≤q) (h2:q≤l.length):bW P W0 o A (.str (gp l p q)):=
 .of_same λw C a hr=>by
  have h:=hx w C a hr
  obtain⟨hv,hle⟩:=h.gE
  have e:(⟨l.toArray⟩:ByteArray).size=l.length:=by show l.toArray.size=l.length;simp
  have hb:=fu hr false hlo hhi h1 h2
  refine⟨.string ⟨(gp l p q).toArray⟩,?_,.one rfl (.str ?_)⟩
  ·have he:=Lib.extract_eq (⟨l.toArray⟩:ByteArray) p q
   simp only[]at he
   simp[execOp,ho,Instr.sliceAt,Instr.slice,run_underlying ht,hv,e,hb,he,gp]
  ·rw[rv l h1 h2];omega
theorem uh {t e:TypeId}{x:Operand}{lo hi:Option Operand}{xs:List AV}{p q:Nat}{v:AV}(ho:o.op= .slice t x lo hi none)(hx:Is P W0 o A x v)(hl:v.kO=some (e,xs))(ht:elT P t=some e)(he:0<af P e)
  (hlo:jF P W0 o A lo 0 p) (hhi:jF P W0 o A hi xs.length q) (h1:p≤q) (h2:q≤xs.length):bW P W0 o A (.sl e (gp xs p q)):=
 .of_same λw C a hr=>by
  have h:=hx w C a hr
  obtain⟨hcase,hone⟩:=AV.kP hl
  obtain⟨ad,cap,cf,hv,c1,c2,c3,c4,c5⟩:=(h.aP hone).tw hcase
  obtain⟨inf,hinf,hsz⟩:=bJ he
  have hb:=fu hr true hlo hhi h1 (Nat.le_trans h2 c1)
  have hlen:=rv xs h1 h2
  refine⟨.slice (if cap=p then ad else ad.map (·.add (p*af P e))) (q-p) (cap-p),?_,?_⟩
  ·simp[execOp,ho,Instr.sliceAt,Instr.slice,run_underlying (cr ht),hv,hb,sizeOf,typeInfo,hinf,hsz]
  ·rw[←hlen]
   refine .one rfl (.sl (λi=>cf (p+i)) (by omega) (by omega) (λi x hi=>c3 _ _ (zW hi).1) (λi x hi=>c4 _ _ (zW hi).1) ?_)
   intro hpos
   rw[hlen]at hpos
   obtain⟨b,off,rfl,hc⟩:=c5 (by omega)
   rw[if_neg (by omega)]
   refine⟨b,off+p*af P e,by simp[Addr.add_lit],λi hi=>?_⟩
   rw[hlen]at hi
   have:=hc (p+i) (by omega)
   rwa [Nat.add_mul,←Nat.add_assoc]at this
theorem xk {t e:TypeId}{x:Operand}{lo hi:Option Operand}{id off m p q:Nat}(ho:o.op= .slice t x lo hi none)(hx:Is P W0 o A x (.row e id off m))(ht:elT P t=some e)(he:0<af P e)
  (hlo:jF P W0 o A lo 0 p) (hhi:jF P W0 o A hi m q) (h1:p≤q) (h2:q≤m):bW P W0 o A (.row e id (off+p) (q-p)):=
 .of_same λw C a hr=>by
  have h:=(hx w C a hr).aP rfl
  obtain⟨inf,hinf,hsz⟩:=bJ he
  have⟨ad,cap,hv,g1,g2,g3,g4⟩: ∃ad cap,a.eval x= .slice ad m cap∧m≤cap∧cap≤maxLen∧id<C.nx∧(∀ow,C.m id=some ow→ ∃b base room,ow= .obj b e base room∧(0<cap→ad=some ⟨b,base+off*af P e,none⟩)∧base+(off+cap)*af P e=room):=by
   generalize a.eval x=v at h
   cases h with
   |row h1 h2 h3 h4=>exact⟨_,_,rfl,h1,h2,h3,h4⟩
  have hb:=fu hr true hlo hhi h1 (Nat.le_trans h2 g1)
  refine⟨.slice (if cap=p then ad else ad.map (·.add (p*af P e))) (q-p) (cap-p),?_,.one rfl (.row (by omega) (by omega) g3 (λow how=>?_))⟩
  ·simp[execOp,ho,Instr.sliceAt,Instr.slice,run_underlying (cr ht),hv,hb,sizeOf,typeInfo,hinf,hsz]
  ·obtain⟨b,base,room,e1,e2,e3⟩:=g4 ow how
   refine⟨b,base,room,e1,λhc=>?_,by rw[show off+p+(cap-p)=off+cap by omega];exact e3⟩
   rw[if_neg (by omega),e2 (by omega)]
   simp[Addr.add_lit,Nat.add_mul,Nat.add_assoc]
theorem uk {t e:TypeId}{x:Operand}{lo hi:Option Operand}(ho:o.op= .slice t x lo hi none)(hx:Is P W0 o A x .az)(ht:elT P t=some e)(he:0<af P e)
  (hlo:jF P W0 o A lo 0 0) (hhi:jF P W0 o A hi 0 0):bW P W0 o A .az:=
 .of_same λw C a hr=>by
  have hv:=(hx w C a hr).dR
  obtain⟨inf,hinf,hsz⟩:=bJ he
  have hb:=fu hr (len:=0) (cap:=0) true hlo hhi (Nat.le_refl 0) (Nat.le_refl 0)
  exact⟨.slice none 0 0,by simp[execOp,ho,Instr.sliceAt,Instr.slice,run_underlying (cr ht),hv,hb,sizeOf,typeInfo,hinf],.one rfl .az⟩
end
end Go.Av
end
section
namespace Go.Av
open Go
def bz (arr:Array Value)(off:Nat)(l:List Value):Array Value:=(arr.toList.take off++l++arr.toList.drop (off+l.length)).toArray
theorem dw {arr:Array Value}{off:Nat}{l:List Value}(h:off+l.length≤arr.size):(bz arr off l).size=arr.size:=by
 simp only[bz,List.size_toArray,List.length_append,List.length_take,List.length_drop,Array.length_toList];omega
theorem bC {arr:Array Value}{off:Nat}{l:List Value}(h:off+l.length≤arr.size)(p:Nat):(bz arr off l)[p]?=if off≤p∧p<off+l.length then l[p-off]? else arr[p]?:=by
 simp only[bz,List.getElem?_toArray,List.append_assoc]
 have ht:(arr.toList.take off).length=off:=by simp;omega
 by_cases h1:p<off
 ·rw[List.getElem?_append_left (by omega),List.getElem?_take,if_pos h1,if_neg (by omega)];simp
 ·rw[List.getElem?_append_right (by omega),ht]
  by_cases h2:p<off+l.length
  ·rw[List.getElem?_append_left (by omega),if_pos ⟨by omega,h2⟩]
  ·rw[List.getElem?_append_right (by omega),if_neg (by omega),List.getElem?_drop]
   simp only[Array.getElem?_toList]
   congr 1;omega
theorem Bb {arr:Array Value}{off:Nat}{l:List Value}{q:Value→Prop}(h1: ∀c∈arr.toList,q c)(h2: ∀c∈l,q c): ∀c∈(bz arr off l).toList,q c:=by
 intro c hc
 simp only[bz,List.mem_append]at hc
 rcases hc with(hc|hc)|hc
 ·exact h1 c (List.mem_of_mem_take hc)
 ·exact h2 c hc
 ·exact h1 c (List.mem_of_mem_drop hc)
theorem ru : ∀(l:List Value) (k off:Nat) (arr:Array Value),off+k+l.length≤arr.size→(l.zipIdx k).foldl (λcs (x:Value×Nat)=>cs.setIfInBounds (off+x.2) x.1) arr=bz arr (off+k) l
 |[],k,off,arr,_=>by simp[bz]
 |v::r,k,off,arr,h=>by
  simp only[List.zipIdx_cons,List.foldl_cons]
  simp only[List.length_cons]at h
  rw[ru r (k+1) off _ (by simp;omega)]
  apply Array.ext_getElem?
  intro p
  rw[bC (by simp;omega),bC (by simp;omega)]
  simp only[List.length_cons]
  by_cases h1:off+k=p
  ·subst h1
   rw[if_neg (by omega),if_pos (by omega)]
   simp[show off+k<arr.size by omega]
  ·by_cases h2:off+(k+1)≤p∧p<off+(k+1)+r.length
   ·rw[if_pos h2,if_pos (by omega),show p-(off+k)=(p-(off+(k+1)))+1 by omega,List.getElem?_cons_succ]
   ·rw[if_neg h2,if_neg (by omega),Array.getElem?_setIfInBounds_ne h1]
theorem jP (v:Array Value)(off:Nat)(arr:Array Value)(h:off+v.size≤arr.size):v.zipIdx.foldl (λcs (x:Value×Nat)=>cs.setIfInBounds (off+x.2) x.1) arr=bz arr off v.toList:=by
 have:=ru v.toList 0 off arr (by simpa using h)
 simp only[Nat.add_zero]at this
 rw[←this,←Array.foldl_toList]
 congr 1
 simp
section
variable {P :Program}{W0 w w':World}{C C':Ctx}{σ σ':ab}{n:Nat}{A:aa}{a:Act}{o:Oper}
theorem jr {ts:List TypeId}{k:Nat}{ty:TypeId}(h:ts[k]?=some ty):ba P ts (k+1)=ba P ts k+af P ty:=by
 obtain⟨hk,he⟩:=List.getElem?_eq_some_iff.1 h
 simp only[ba,List.take_succ_eq_append_getElem hk,List.map_append,List.sum_append,he]
 simp
theorem nP {ts:List TypeId}{i k:Nat}(h:i≤k):ba P ts i≤ba P ts k:=by
 induction h with
 |refl=>exact Nat.le_refl _
 |step _ ih=>
  rename_i m hm
  refine Nat.le_trans ih ?_
  cases hk:ts[m]? with
  |some ty=>rw[jr hk];omega
  |none=>
   have:ts.length≤m:=List.getElem?_eq_none_iff.1 hk
   unfold ba
   rw[List.take_of_length_le this,List.take_of_length_le (by omega)]
   exact Nat.le_refl _
structure o6 (P:Program)(w:World)(C:Ctx)(ts:List TypeId)(fs:List AV)(cs:List Value):Prop where
 len:fs.length=ts.length
 size:cs.length=ba P ts ts.length
 one: ∀c∈cs,c.oneCell'=true
 part: ∃cf:Nat→List Value,∀i x ty,fs[i]?=some x→ts[i]?=some ty→Rel P w C x (cf i)∧(cf i).length=af P ty∧fits P ty x∧ ∀(j:Nat) (u:Value),(cf i)[j]?=some u→cs[ba P ts i+j]?=some u
theorem o6.rel {t:TypeId}{ts:List TypeId}{fs:List AV}{cs:List Value}(h:o6 P w C ts fs cs)(ht:bp P t=some ts):Rel P w C (.agg t fs) cs:=by
 obtain⟨cf,hcf⟩:=h.part
 have hget: ∀i x,fs[i]?=some x→ ∃ty,ts[i]?=some ty:=λi x hx=>by
  have:i<ts.length:=by rw[←h.len];exact(List.getElem?_eq_some_iff.1 hx).1
  exact⟨_,List.getElem?_eq_getElem this⟩
 refine .agg cf ht h.len (by rw[h.size,ij ht]) h.one (λi x hx=>?_) (λi x ty hx hty=>?_)
 ·obtain⟨ty,hty⟩:=hget i x hx
  exact(hcf i x ty hx hty).1
 ·exact(hcf i x ty hx hty).2
theorem Rel.parts {t:TypeId}{ts:List TypeId}{fs:List AV}{cs:List Value}(h:Rel P w C (.agg t fs) cs)(ht:bp P t=some ts):o6 P w C ts fs cs:=by
 cases h with
 |agg cf h1 h2 h3 h4 h5 h6=>
  rw[ht]at h1
  cases h1
  exact⟨h2,by rw[h3,ij ht],h4,cf,λi x ty hx hty=>⟨h5 i x hx,h6 i x ty hx hty⟩⟩
theorem o6.set {ts:List TypeId}{fs:List AV}{cs:List Value}(h:o6 P w C ts fs cs){k:Nat}{ty:TypeId}{x:AV}{c:List Value}(hty:ts[k]?=some ty)(hx:Rel P w C x c)(hf:fits P ty x):
  ba P ts k+c.length≤cs.length∧o6 P w C ts (fs.set k x) (bz cs.toArray (ba P ts k) c).toList:=by
 obtain⟨cf,hcf⟩:=h.part
 have hlen:=hx.bu hf
 have hk:k<ts.length:=(List.getElem?_eq_some_iff.1 hty).1
 have hfit:ba P ts k+c.length≤cs.length:=by
  rw[hlen,←jr hty,h.size];exact nP (by omega)
 refine⟨hfit,⟨by simpa using h.len,?_,?_,λi=>if i=k then c else cf i,λi y ty' hy hty'=>?_⟩⟩
 ·have:=dw (arr:=cs.toArray) (off:=ba P ts k) (l:=c) (by simpa using hfit)
  simpa[h.size]using this
 ·exact Bb (q:=λc=>c.oneCell'=true) (by simpa using h.one) hx.ky
 ·have hget: ∀p,(bz cs.toArray (ba P ts k) c).toList[p]?=if ba P ts k≤p∧p<ba P ts k+c.length then c[p-ba P ts k]? else cs[p]?:=λp=>by
   rw[Array.getElem?_toList,bC (by simpa using hfit)];simp
  by_cases hik:i=k
  ·subst hik
   rw[hty]at hty'
   cases hty'
   have:i<fs.length:=by rw[h.len];exact hk
   simp only[List.getElem?_set_self this,Option.some.injEq]at hy
   subst hy
   simp only[if_true]
   refine⟨hx,hlen,hf,λj u hj=>?_⟩
   have hjl:j<c.length:=(List.getElem?_eq_some_iff.1 hj).1
   rw[hget,if_pos ⟨by omega,by omega⟩,Nat.add_sub_cancel_left]
   exact hj
  ·rw[List.getElem?_set_ne (Ne.symm hik)]at hy
   simp only[hik,if_false]
   obtain⟨r1,r2,r3,r4⟩:=hcf i y ty' hy hty'
   refine⟨r1,r2,r3,λj u hj=>?_⟩
   have hjl:j<af P ty':=by rw[←r2];exact(List.getElem?_eq_some_iff.1 hj).1
   rw[hget,if_neg ?_]
   ·exact r4 j u hj
   ·rintro⟨g1,g2⟩
    rcases Nat.lt_or_gt_of_ne hik with hlt|hgt
    ·have:=nP (P:=P) (ts:=ts) (show i+1≤k by omega)
     rw[jr hty']at this
     omega
    ·have:=nP (P:=P) (ts:=ts) (show k+1≤i by omega)
     rw[jr hty,←hlen]at this
     omega
end
def lN (P:Program)(z:TypeId→List Value→Option AV):List TypeId→List Value→Option (List AV)
 |[],_=>some []
 |t::ts,cs=>match z t (cs.take (af P t)),lN P z ts (cs.drop (af P t))with
  |some a,some as=>some (a::as)
  |_,_=>none
def ph (P:Program):Nat→TypeId→List Value→Option AV
 |0,_,_=>none
 |f+1,t,cs=>match bp P t with
  |some ts=>if cs.length==af P t&&cs.all Value.oneCell' then(lN P (ph P f) ts cs).map (.agg t)else none
  |none=>if cD P t then match cs with
    |[c]=>if (jR c).aX then some (jR c)else none
    |_=>none
   else none
def zeroOf (P:Program)(t:TypeId):Option AV:=((P.info? t).bind (·.zero)).bind λz=>ph P 8 t z.cells.toList
section
variable {P :Program}{W0 w w':World}{C C':Ctx}{σ σ':ab}{n:Nat}{A:aa}{a:Act}{o:Oper}
theorem oK {z:TypeId→List Value→Option AV}: ∀(ts:List TypeId) (cs:List Value) (as:List AV),lN P z ts cs=some as→
  as.length=ts.length∧ ∀i x ty,as[i]?=some x→ts[i]?=some ty→z ty ((cs.drop (ba P ts i)).take (af P ty))=some x
 |[],cs,as,h=>by
  simp[lN]at h
  subst h
  exact⟨rfl,by simp⟩
 |t::ts,cs,as,h=>by
  simp only[lN]at h
  split at h
  ·rename_i a as' h1 h2
   simp only[Option.some.injEq]at h
   subst h
   obtain⟨g1,g2⟩:=oK ts _ as' h2
   refine⟨by simp[g1],λi x ty hx hty=>?_⟩
   cases i with
   |zero=>
    simp at hx hty
    subst hx hty
    simpa[ba]using h1
   |succ i=>
    simp at hx hty
    have:=g2 i x ty hx hty
    rw[List.drop_drop]at this
    simpa[ba]using this
  ·cases h
theorem oI : ∀(f:Nat) (t:TypeId) (cs:List Value) (x:AV),ph P f t cs=some x→Rel P w C x cs∧fits P t x
 |0,_,_,_,h=>by cases h
 |f+1,t,cs,x,h=>by
  simp only[ph]at h
  split at h
  ·rename_i ts hts
   split at h
   ·rename_i hok
    simp only[Bool.and_eq_true,beq_iff_eq,List.all_eq_true]at hok
    simp only[Option.map_eq_some_iff]at h
    obtain⟨as,has,rfl⟩:=h
    obtain⟨g1,g2⟩:=oK ts cs as has
    have hp:o6 P w C ts as cs:=by
     refine⟨g1,by rw[hok.1,ij hts],hok.2,λi=>(cs.drop (ba P ts i)).take (af P (ts.getD i 0)),λi x ty hx hty=>?_⟩
     have hd:ts.getD i 0=ty:=by simp[List.getD,hty]
     have hz:=g2 i x ty hx hty
     obtain⟨r1,r2⟩:=oI f ty _ x hz
     simp only[hd]
     refine⟨r1,r1.bu r2,r2,λj u hj=>?_⟩
     rw[List.getElem?_take]at hj
     split at hj
     ·rwa [List.getElem?_drop]at hj
     ·cases hj
    exact⟨hp.rel hts,rfl,by simp[hts]⟩
   ·cases h
  ·split at h
   ·rename_i hp
    split at h
    ·rename_i c
     split at h
     ·rename_i hone
      simp only[Option.some.injEq]at h
      subst h
      refine⟨(jH c).aP hone,?_⟩
      cases hc:jR c<;>simp_all[fits,AV.aX]
     ·cases h
    ·cases h
   ·cases h
theorem jt {t:TypeId}{x:AV}(h:zeroOf P t=some x): ∃i z,P.info? t=some i∧i.zero=some z∧Rel P w C x z.cells.toList∧fits P t x:=by
 unfold zeroOf at h
 obtain⟨z,hz,hf⟩:=Option.bind_eq_some_iff.1 h
 obtain⟨i,hi,hz⟩:=Option.bind_eq_some_iff.1 hz
 exact⟨i,z,hi,hz,oI 8 t _ x hf⟩
def nB :List (Nat×AV)→List AV→List AV
 |[],fs=>fs
 |(i,v)::r,fs=>nB r (fs.set i v)
def sK (P:Program)(ts:List TypeId)(ps:List (Nat×AV)):Prop:=∀ p∈ps,∃ty,ts[p.1]?=some ty∧fits P ty p.2
theorem ti {ts:List TypeId}{place:Nat→Option (Nat×Nat)}(hpl: ∀k ty,ts[k]?=some ty→place k=some (ba P ts k,af P ty)):
  ∀(ps:List (Nat×AV)) (vs:List (Nat×Value)) (fs:List AV) (cells:Array Value),o6 P w C ts fs cells.toList→ps.length=vs.length→
   (∀(i:Nat) (p:Nat×AV) (v:Nat×Value),ps[i]?=some p→vs[i]?=some v→v.1=p.1∧aF P w C p.2 v.2)→sK P ts ps→ ∃cells',Instr.fill place cells vs=some cells'∧o6 P w C ts (nB ps fs) cells'.toList
 |[],vs,fs,cells,h,hl,_,_=>by
  have:vs=[]:=List.eq_nil_of_length_eq_zero (by simpa using hl.symm)
  subst this
  exact⟨cells,rfl,h⟩
 |(k,x)::ps,[],fs,cells,h,hl,_,_=>by simp at hl
 |(k,x)::ps,(k',v)::vs,fs,cells,h,hl,hr,hf=>by
  obtain⟨e1,e2⟩:=hr 0 (k,x) (k',v) rfl rfl
  simp only at e1 e2
  subst e1
  obtain⟨ty,hty,hfit⟩:=hf (k',x) (by simp)
  simp only at hty hfit
  have hc:=e2.cells hfit
  obtain⟨s1,s2⟩:=h.set hty hc hfit
  have hsz:v.cells.size=af P ty:=by
   have:=hc.bu hfit
   simpa using this
  have s1':ba P ts k'+v.cells.size≤cells.size:=by simpa using s1
  obtain⟨cells',r1,r2⟩:=ti hpl ps vs (fs.set k' x) (bz cells (ba P ts k') v.cells.toList) s2 (by simpa using hl)
   (λi p q hp hq=>hr (i+1) p q (by simpa using hp) (by simpa using hq)) (λp hp=>hf p (by simp[hp]))
  refine⟨cells',?_,r2⟩
  rw[←r1]
  have hfold:=jP v.cells (ba P ts k') cells s1'
  simp only[Instr.fill,hpl _ _ hty,hsz,ne_eq,not_true_eq_false,decide_false,Bool.false_or]
  rw[if_neg (by simp;omega)]
  congr 1
def jC (P:Program)(W0:World)(o:Oper)(A:aa)(ps:List (Nat×Operand))(qs:List (Nat×AV)):Prop:=
 qs.length=ps.length∧ ∀(i:Nat) (p:Nat×Operand) (q:Nat×AV),ps[i]?=some p→qs[i]?=some q→p.1=q.1∧Is P W0 o A p.2 q.2
theorem jC.rel {ps:List (Nat×Operand)}{qs:List (Nat×AV)}(h:jC P W0 o A ps qs)(hr:fJ P W0 o w C A a): ∀(i:Nat) (p:Nat×AV) (v:Nat×Value),qs[i]?=some p→(ps.map λq=>(q.1,a.eval q.2))[i]?=some v→v.1=p.1∧aF P w C p.2 v.2:=by
 intro i p v hp hv
 simp only[List.getElem?_map,Option.map_eq_some_iff]at hv
 obtain⟨y,hy,rfl⟩:=hv
 obtain⟨e1,e2⟩:=h.2 i y p hy hp
 exact⟨e1,e2 w C a hr⟩
theorem ra (w:World): ∀(fs:List Field),(∀f∈fs,0<af P f.type)→(fs.mapM (λf=>do pure (f.offset,←sizeOf f.type):Field→Sem (Nat×Nat))).run P w= .ok (fs.map λf=>(f.offset,af P f.type)) w
 |[],_=>rfl
 |f::r,h=>by
  obtain⟨i,hi,hs⟩:=bJ (h f (by simp))
  have ih:=ra w r (λg hg=>h g (by simp[hg]))
  rw[List.mapM_cons]
  have hsz:(sizeOf f.type).run P w= .ok (af P f.type) w:=by simp[sizeOf,typeInfo,hi,hs]
  simp only[Sem.run_bind,hsz,ih,Result.andThen_ok,Sem.run_pure,List.map_cons]
theorem Gf {t:TypeId}{ts:List TypeId}{ps:Array (Nat×Operand)}{fs:List AV}{qs:List (Nat×AV)}(ho:o.op= .build t ps)(hts:bp P t=some ts)
  (hz:zeroOf P t=some (.agg t fs)) (hq:jC P W0 o A ps.toList qs) (hf:sK P ts qs):bW P W0 o A (.agg t (nB qs fs)):=
 .of_same λw C a hr=>by
  obtain⟨inf,z,hi,hiz,hrel,hfit⟩:=jt (w:=w) (C:=C) hz
  have hparts:=hrel.parts hts
  have e:(Array.map (λx=>(x.1,a.eval x.2)) ps).toList=ps.toList.map λq=>(q.1,a.eval q.2):=by simp
  have hzv:(zeroValue t).run P w= .ok z w:=by simp[zeroValue,typeInfo,hi,hiz]
  rcases fN hts with⟨fl,hu,e1,e2,e3⟩|⟨m,el,hu,e1,e2⟩
  ·have hm:=ra (P:=P) w fl.toList (λf hf=>by
    obtain⟨k,hk,he⟩:=List.getElem_of_mem hf
    have:fl[k]?=some f:=by rw[←he];simp
    exact(e2 k f (by simpa using this)).2)
   have hpl: ∀k ty,ts[k]?=some ty→((fl.toList.map λf=>(f.offset,af P f.type)).toArray[·]?) k=some (ba P ts k,af P ty):=λk ty hk=>by
    subst e1
    simp only[List.getElem?_map,Option.map_eq_some_iff]at hk
    obtain⟨f,hf,rfl⟩:=hk
    have hf':fl[k]?=some f:=by simpa using hf
    have:=(e2 k f hf').1
    simp[hf',this]
   obtain⟨cells',r1,r2⟩:=ti hpl qs (ps.toList.map λq=>(q.1,a.eval q.2)) fs z.cells hparts (by simpa using hq.1) (hq.rel hr) hf
   refine⟨.agg cells',?_,?_⟩
   ·have hmA:(fl.mapM (λf=>do pure (f.offset,←sizeOf f.type):Field→Sem (Nat×Nat))).run P w= .ok (fl.toList.map λf=>(f.offset,af P f.type)).toArray w:=by
     rw[←Array.toArray_toList (xs:=fl),Array.mapM_eq_mapM_toList]
     simp only[Sem.run_map,hm,Result.andThen_ok]
    simp only[execOp,ho,Instr.build,Sem.run_bind,hzv,Result.andThen_ok,run_underlying hu,hmA]
    rw[e,r1]
    rfl
   ·have:=aF.agg (r2.rel hts)
    simpa using this
  ·have hpos:0<af P el:=by
    rcases Nat.eq_zero_or_pos (af P el)with h0|h0
    ·have:=mh hts;rw[e2,h0]at this;simp at this
    ·exact h0
   obtain⟨inf',hinf,hsz⟩:=bJ hpos
   have hpl: ∀k ty,ts[k]?=some ty→(λi=>some (i*af P el,af P el)) k=some (ba P ts k,af P ty):=λk ty hk=>by
    subst e1
    have hk':=List.getElem?_eq_some_iff.1 hk
    obtain⟨hlt,he⟩:=hk'
    simp only[List.length_replicate]at hlt
    simp only[List.getElem_replicate]at he
    subst he
    rw[dm _ _ _ (by omega)]
   obtain⟨cells',r1,r2⟩:=ti hpl qs (ps.toList.map λq=>(q.1,a.eval q.2)) fs z.cells hparts (by simpa using hq.1) (hq.rel hr) hf
   refine⟨.agg cells',?_,?_⟩
   ·have hso:(sizeOf el).run P w= .ok (af P el) w:=by simp[sizeOf,typeInfo,hinf,hsz]
    simp only[execOp,ho,Instr.build,Sem.run_bind,hzv,Result.andThen_ok,run_underlying hu,hso]
    rw[e,r1]
    rfl
   ·have:=aF.agg (r2.rel hts)
    simpa using this
theorem zP {e:TypeId}{xs:List AV}{cf:Nat→List Value}{arr:Array Value}(hst:aB P W0 w C σ)(hl:xs.length≤maxLen)
  (h: ∀i x,xs[i]?=some x→Rel P w C x (cf i)∧fits P e x∧ ∀(j:Nat) (u:Value),(cf i)[j]?=some u→arr[i*af P e+j]?=some u):
  aF P (w.alloc (.cells arr e)) C (.lit e xs) (.slice (some ⟨w.heap.size,0,none⟩) xs.length xs.length):=by
 refine .one rfl (.lit cf hl (λi x hx=>(h i x hx).1.mono (Step.alloc w C _)) (λi x hx=>⟨(h i x hx).1.bu (h i x hx).2.1,(h i x hx).2.1⟩) (λ_=>⟨w.heap.size,0,rfl,λi hi j u hj=>⟨?_,?_⟩⟩))
 ·have:=(h i _ (List.getElem?_eq_getElem hi)).2.2 j u hj
  rw[World.cell?_alloc_new,Nat.zero_add]
  exact this
 ·exact eH.free (by simp) (hst.fresh)
def Gl (P:Program)(w:World)(C:Ctx)(e:TypeId)(k:Nat)(xs:List AV)(cells:Array Value):Prop:=
 ∃cf:Nat→List Value,∀i x,xs[i]?=some x→Rel P w C x (cf (k+i))∧fits P e x∧ ∀(j:Nat) (u:Value),(cf (k+i))[j]?=some u→cells[(k+i)*af P e+j]?=some u
theorem kR {e:TypeId}(N:Nat): ∀(ps:List (Nat×AV)) (vs:List (Nat×Value)) (k:Nat) (cells:Array Value),ps.map (·.1)=List.range' k ps.length→ps.length=vs.length→cells.size=N*af P e→k+ps.length≤N→
  (∀(i:Nat) (p:Nat×AV) (v:Nat×Value),ps[i]?=some p→vs[i]?=some v→v.1=p.1∧aF P w C p.2 v.2)→(∀p∈ps,fits P e p.2)→
  ∃cells',Instr.fill (λi=>some (i*af P e,af P e)) cells vs=some cells'∧cells'.size=cells.size∧(∀p,p<k*af P e→cells'[p]?=cells[p]?)∧Gl P w C e k (ps.map (·.2)) cells'
 |[],vs,k,cells,_,hl,_,_,_,_=>by
  have:vs=[]:=List.eq_nil_of_length_eq_zero (by simpa using hl.symm)
  subst this
  exact⟨cells,rfl,rfl,λ_ _=>rfl,λ_=>[],by simp⟩
 |(q,x)::ps,[],k,cells,_,hl,_,_,_,_=>by simp at hl
 |(q,x)::ps,(q',v)::vs,k,cells,hk,hl,hs,hN,hr,hf=>by
  simp only[List.map_cons,List.length_cons,List.range'_succ,List.cons.injEq]at hk
  obtain⟨rfl,hk⟩:=hk
  obtain⟨e1,e2⟩:=hr 0 (q,x) (q',v) rfl rfl
  simp only at e1 e2
  subst e1
  have hfit:=hf (q',x) (by simp)
  simp only at hfit
  have hc:=e2.cells hfit
  have hsz:v.cells.size=af P e:=by
   have:=hc.bu hfit
   simpa using this
  simp only[List.length_cons]at hN hl
  have hroom:q'*af P e+v.cells.size≤cells.size:=by
   rw[hs,hsz,←Nat.succ_mul]
   exact Nat.mul_le_mul_right _ (by omega)
  have hss:=dw (arr:=cells) (off:=q'*af P e) (l:=v.cells.toList) (by simpa using hroom)
  obtain⟨cells',r1,r2,r3,cf,r4⟩:=kR N ps vs (q'+1) (bz cells (q'*af P e) v.cells.toList) (by simpa using hk) (by omega) (by rw[hss,hs]) (by omega)
   (λi p r hp hr'=>hr (i+1) p r (by simpa using hp) (by simpa using hr')) (λp hp=>hf p (by simp[hp]))
  have hmul:(q'+1)*af P e=q'*af P e+af P e:=Nat.succ_mul _ _
  refine⟨cells',?_,by rw[r2,hss],λp hp=>?_,λi=>if i=q' then v.cells.toList else cf i,λi y hy=>?_⟩
  ·rw[←r1]
   have hfold:=jP v.cells (q'*af P e) cells hroom
   simp only[Instr.fill,hsz,ne_eq,not_true_eq_false,decide_false,Bool.false_or]
   rw[if_neg (by simp;omega)]
   congr 1
  ·rw[r3 p (by omega),bC (by simpa using hroom),if_neg (by omega)]
  ·cases i with
   |zero=>
    simp only[List.map_cons,List.getElem?_cons_zero,Option.some.injEq]at hy
    subst hy
    simp only[Nat.add_zero,if_true]
    refine⟨hc,hfit,λj u hj=>?_⟩
    have hjl:j<v.cells.size:=by
     have:=(List.getElem?_eq_some_iff.1 hj).1
     simpa using this
    rw[r3 _ (by omega),bC (by simpa using hroom),if_pos ⟨by omega,by simp;omega⟩,Nat.add_sub_cancel_left]
    exact hj
   |succ i=>
    simp only[List.map_cons,List.getElem?_cons_succ]at hy
    have:=r4 i y hy
    rw[show q'+1+i=q'+(i+1) by omega]at this
    simp only[show ¬q'+(i+1)=q' by omega,if_false]
    exact this
def bw (P:Program)(t:TypeId):Bool:=match (P.info? t).bind (·.zero)with|some z=>z.cells.size==af P t|none=>false
theorem gQ {t:TypeId}(h:bw P t=true): ∃inf z,P.info? t=some inf∧inf.zero=some z∧z.cells.size=af P t:=by
 unfold bw at h
 split at h
 ·rename_i z hz
  obtain⟨inf,hinf,hiz⟩:=Option.bind_eq_some_iff.1 hz
  exact⟨inf,z,hinf,hiz,by simpa using h⟩
 ·cases h
theorem uu {t e:TypeId}{m:Nat}{ps:Array (Nat×Operand)}{qs:List (Nat×AV)}(ho:o.op= .buildSlice t m ps)(ht:elT P t=some e)(he:0<af P e)(hz:bw P e=true)(hm:m*af P e≤2^24)
  (hq:jC P W0 o A ps.toList qs) (hk:qs.map (·.1)=List.range' 0 m) (hf: ∀p∈qs,fits P e p.2):bW P W0 o A (.lit e (qs.map (·.2))):=
 λw C a hr=>by
  obtain⟨inf,z,hinf,hiz,_⟩:=gQ hz
  have hsz:inf.size=af P e:=by simp[af,hinf]
  have hlen:qs.length=m:=by have:=congrArg List.length hk;simpa using this
  have hzv:(zeroValue e).run P w= .ok z w:=by simp[zeroValue,typeInfo,hinf,hiz]
  have hsv:(sizeOf e).run P w= .ok (af P e) w:=by simp[sizeOf,typeInfo,hinf,hsz]
  have hbig: ¬m*af P e>2^24:=by omega
  have hrun: ∀arr:Array Value,arr.size=m*af P e→ ∃cells',Instr.fill (λi=>some (i*af P e,af P e)) arr (ps.toList.map λq=>(q.1,a.eval q.2))=some cells'∧cells'.size=arr.size∧(∀p,p<0*af P e→cells'[p]?=arr[p]?)∧Gl P w C e 0 (qs.map (·.2)) cells':=
   λarr harr=>kR m qs (ps.toList.map λq=>(q.1,a.eval q.2)) 0 arr (by rw[hk,hlen]) (by simpa using hq.1) harr (by omega) (hq.rel hr) hf
  have e1:(Array.map (λx=>(x.1,a.eval x.2)) ps).toList=ps.toList.map λq=>(q.1,a.eval q.2):=by simp
  obtain⟨zc,hzc⟩: ∃zc:Array Value,zc=if m*af P e=0 then #[]else z.cells:=⟨_,rfl⟩
  obtain⟨cells',f1,f2,_,cf,f4⟩:=hrun ((Array.range (m*af P e)).map (zc[· % zc.size]!)) (by simp)
  have hl:(qs.map (·.2)).length=m:=by simpa using hlen
  have hmax:m≤maxLen:=by
   have:m*1≤m*af P e:=Nat.mul_le_mul_left _ he
   unfold maxLen;omega
  have hrel:=zP (P:=P) (e:=e) (xs:=qs.map (·.2)) (cf:=cf) (arr:=cells') hr.st (by rw[hl];exact hmax) (λi x hx=>by
   have:=f4 i x hx
   rwa [Nat.zero_add]at this)
  rw[hl]at hrel
  refine⟨_,_,?_,hrel,Step.alloc _ _ _,hr.st.alloc _⟩
  simp only[execOp,ho,Instr.buildSlice,Sem.run_bind,Result.andThen_ok,run_underlying (cr ht),hsv,hbig,if_false,Sem.run_pure]
  by_cases h0:m*af P e=0
  ·rw[if_pos h0]at hzc ⊢
   subst hzc
   simp only[Sem.run_bind,Sem.run_pure,Result.andThen_ok]
   rw[e1,f1]
   simp only[newRow,newObj,Sem.run_bind,Sem.run_pure]
   rfl
  ·rw[if_neg h0]at hzc ⊢
   subst hzc
   simp only[Sem.run_bind,Sem.run_pure,Result.andThen_ok,hzv]
   rw[e1,f1]
   simp only[newRow,newObj,Sem.run_bind,Sem.run_pure]
   rfl
theorem Gj {t:TypeId}{x:Operand}{v:AV}(ho:o.op= .box t x)(hx:Is P W0 o A x v)(hf:fits P t v):bW P W0 o A (.loc t v):=λw C a hr=>by
 have hc:=(hx w C a hr).cells hf
 have hcl:(a.eval x).cells.toList.length=af P t:=hc.bu hf
 refine⟨.pointer (some ⟨w.heap.size,0,none⟩),w.alloc (.cells (a.eval x).cells t),?_,.one rfl (.loc (hc.mono (Step.alloc w C _)) hf hcl (λj c hj=>⟨?_,eH.free (by simp) hr.st.fresh⟩)),Step.alloc _ _ _,hr.st.alloc _⟩
 ·simp only[execOp,ho,Instr.box,newVar,newRow,newObj,Sem.run_bind,Sem.run_pure]
  rfl
 ·rw[World.cell?_alloc_new,Nat.zero_add]
  simpa using hj
end
end Go.Av
end
section
namespace Go.Av
open Go
def AV.at :AV→List Nat→Option AV
 |v,[]=>some v
 | .agg _ fs,k::r=>(fs[k]?).bind (·.at r)
 |_,_::_=>none
def look (σ:ab)(id i:Nat)(path:List Nat):Option AV:=
 match σ[id]? with
 |some (some (.cells _ xs))=>(xs[i]?).bind (·.at path)
 |_=>none
section
variable {P :Program}{W0 w w':World}{C C':Ctx}{σ σ':ab}{n:Nat}{A:aa}{a:Act}{o:Oper}
theorem xy : ∀(path:List Nat) (te t:TypeId) (off:Nat) (x v:AV) (cs:List Value),Rel P w C x cs→fits P te x→place P te path=some (t,off)→x.at path=some v→
  ∃c,Rel P w C v c∧fits P t v∧c.length=af P t∧ ∀(j:Nat) (u:Value),c[j]?=some u→cs[off+j]?=some u
 |[],te,t,off,x,v,cs,hr,hf,hp,hx=>by
  simp only[place,Option.some.injEq,Prod.mk.injEq]at hp
  obtain⟨rfl,rfl⟩:=hp
  have hv:x=v:=by cases x<;>simpa[AV.at]using hx
  subst hv
  exact⟨cs,hr,hf,hr.bu hf,λj u hj=>by rwa [Nat.zero_add]⟩
 |k::r,te,t,off,x,v,cs,hr,hf,hp,hx=>by
  cases x with
  |agg t' fs=>
   simp only[AV.at]at hx
   obtain⟨y,hy,hyv⟩:=Option.bind_eq_some_iff.1 hx
   obtain⟨rfl,_⟩:=hf
   simp only[place]at hp
   obtain⟨ts,hts,hp⟩:=Option.bind_eq_some_iff.1 hp
   obtain⟨ty,hty,hp'⟩:=Option.bind_eq_some_iff.1 hp
   simp only[Option.map_eq_some_iff,Prod.mk.injEq,Prod.exists]at hp'
   obtain⟨t1,o1,hpl,rfl,rfl⟩:=hp'
   obtain⟨c1,r1,r2,r3,r4⟩:=hr.part hts hy hty
   obtain⟨c,g1,g2,g3,g4⟩:=xy r ty t1 o1 y v c1 r1 r3 hpl hyv
   refine⟨c,g1,g2,g3,λj u hj=>?_⟩
   rw[Nat.add_assoc]
   exact r4 _ _ (g4 j u hj)
  |_=>simp[AV.at]at hx
theorem aB.cells (h:aB P W0 w C σ){id:Nat}{te:TypeId}{xs:List AV}(hs:σ[id]?=some (some (.cells te xs))):
  ∃b base room arr t' fr,C.m id=some (.obj b te base room)∧w.heap[b]?=some (.cells arr t' fr)∧wG fr arr.size∧arr.size=room∧base+xs.length*af P te≤room∧
   ∃cf:Nat→List Value,∀(i:Nat) (x:AV),xs[i]?=some x→Rel P w C x (cf i)∧(cf i).length=af P te∧fits P te x∧ ∀(j:Nat) (c:Value),(cf i)[j]?=some c→arr[base+i*af P te+j]?=some c:=by
 have ho:=h.obj id
 rw[hs]at ho
 simp only[Option.join_some]at ho
 cases hm:C.m id with
 |none=>rw[hm]at ho;exact ho.elim
 |some ow=>
  rw[hm]at ho
  cases ow with
  |obj b te' base room=>
   obtain⟨rfl,arr,t',fr,h1,hf,h2,h3,h4⟩:=ho
   exact⟨b,base,room,arr,t',fr,rfl,h1,hf,h2,h3,h4⟩
  |tok=>exact ho.elim
  |iter=>exact ho.elim
  |mp=>exact ho.elim
theorem aF.mH {t:TypeId}{id i:Nat}{path:List Nat}{v:Value}(h:aF P w C (.ptr t id i path) v):
  ∃a,v= .pointer (some a)∧id<C.nx∧ ∀ow,C.m id=some ow→ ∃b te base room off,ow= .obj b te base room∧place P te path=some (t,off)∧a=⟨b,base+i*af P te+off,none⟩:=by
 have:=h.aP rfl
 cases this with
 |ptr h1 h2=>exact⟨_,rfl,h1,h2⟩
theorem pB {id i:Nat}{path:List Nat}{v:AV}(h:look σ id i path=some v): ∃te xs x,σ[id]?=some (some (.cells te xs))∧xs[i]?=some x∧x.at path=some v:=by
 unfold look at h
 split at h
 ·rename_i te xs hs
  obtain⟨x,hx,hv⟩:=Option.bind_eq_some_iff.1 h
  exact⟨te,xs,x,hs,hx,hv⟩
 ·cases h
theorem zS {t:TypeId}{id i:Nat}{path:List Nat}{v:AV}{x:Operand}(ho:o.op= .load t x)(hx:Is P W0 o A x (.ptr t id i path))(hl:look A.st id i path=some v):bW P W0 o A v:=
 .of_same λw C a hr=>by
  obtain⟨ad,hv,_,hm⟩:=(hx w C a hr).mH
  obtain⟨te,xs,y,hs,hy,hyv⟩:=pB hl
  obtain⟨b,base,room,arr,t',fr,m1,m2,mf,m3,m4,cf,m5⟩:=hr.st.cells hs
  obtain⟨b',te',base',room',off,e1,e2,rfl⟩:=hm _ m1
  cases e1
  obtain⟨r1,r2,r3,r4⟩:=m5 i y hy
  obtain⟨c,g1,g2,g3,g4⟩:=xy path te t off y v (cf i) r1 r3 e2 hyv
  have hcell: ∀(j:Nat) (u:Value),c[j]?=some u→w.cell? ⟨b,base+i*af P te+off+j,none⟩=some u:=λj u hj=>by
   have:=r4 (off+j) u (g4 j u hj)
   rw[←Nat.add_assoc]at this
   simp[World.cell?,m2,this]
  obtain⟨z,hz,hzr⟩:=fq g1 g2 hcell
  exact⟨z,by simp[execOp,ho,Instr.loadAt,Instr.sureAddr,hv,hz],hzr⟩
def bs (P:Program)(t:TypeId):Bool:=match P.underlying t with|some (.struct _)=>true|_=>false
theorem wL {s:TypeId}(h:bs P s=true):(P.underlying s).any (λd=>match d with| .struct _=>true|_=>false)=true:=by
 unfold bs at h
 split at h
 ·rename_i hu;simp[hu]
 ·cases h
theorem nN : ∀(path:List Nat) (te t:TypeId) (off:Nat) (k:Nat) (ts:List TypeId) (ty:TypeId),place P te path=some (t,off)→bp P t=some ts→ts[k]?=some ty→place P te (path++[k])=some (ty,off+ba P ts k)
 |[],te,t,off,k,ts,ty,h,ht,hk=>by
  simp only[place,Option.some.injEq,Prod.mk.injEq]at h
  obtain⟨rfl,rfl⟩:=h
  simp[place,ht,hk]
 |q::r,te,t,off,k,ts,ty,h,ht,hk=>by
  simp only[place]at h
  obtain⟨ts',hts,hp⟩:=Option.bind_eq_some_iff.1 h
  obtain⟨ty',hty,hp'⟩:=Option.bind_eq_some_iff.1 hp
  simp only[Option.map_eq_some_iff,Prod.mk.injEq,Prod.exists]at hp'
  obtain⟨t1,o1,hpl,rfl,rfl⟩:=hp'
  have:=nN r ty' t1 o1 k ts ty hpl ht hk
  simp[place,hts,hty,this,Nat.add_assoc]
theorem pQ {s:TypeId}{ts:List TypeId}{x:Operand}{k id i:Nat}{path:List Nat}{ty:TypeId}(ho:o.op= .fieldAddr s x k)(hx:Is P W0 o A x (.ptr s id i path))(hst:bs P s=true)
  (hts:bp P s=some ts) (hty:ts[k]?=some ty):bW P W0 o A (.ptr ty id i (path++[k])):=
 .of_same λw C a hr=>by
  obtain⟨ad,hv,hid,hm⟩:=(hx w C a hr).mH
  rcases fN hts with⟨fl,hu,e1,e2,e3⟩|⟨m,e,hu,_⟩
  case inr=>simp[bs,hu]at hst
  have hk:k<fl.size:=by
   have:k<ts.length:=(List.getElem?_eq_some_iff.1 hty).1
   rw[e1]at this;simpa using this
  have hfk:fl[k]?=some fl[k]:=Array.getElem?_eq_getElem hk
  obtain⟨hoff,hpos⟩:=e2 k _ hfk
  obtain⟨inf,hinf,hsz⟩:=bJ hpos
  have hfp:(fieldPlace ad fl[k]).run P w= .ok (ad.add (ba P ts k)) w:=by
   simp[fieldPlace,sizeOf,typeInfo,hinf,hsz,Nat.ne_of_gt hpos,hoff]
  refine⟨.pointer (some (ad.add (ba P ts k))),?_,.one rfl (.ptr hid (λow how=>?_))⟩
  ·simp[execOp,ho,Instr.fieldAt,run_underlying hu,hfk,Instr.sureAddr,hv,hfp]
  ·obtain⟨b,te,base,room,off,g1,g2,rfl⟩:=hm ow how
   exact⟨b,te,base,room,off+ba P ts k,g1,nN path te s off k ts ty g2 hts hty,by rw[Addr.add_lit];simp⟩
theorem qo {t e:TypeId}{x ix:Operand}{k:IntKind}{i:Int}{id off m:Nat}(ho:o.op= .indexAddr t x ix)(hx:Is P W0 o A x (.row e id off m))(hi:Is P W0 o A ix (.int k i))
  (ht:elT P t=some e) (he:0<af P e) (h0:0≤i) (hm:i.toNat<m) (hlive: ∃te xs,A.st[id]?=some (some (.cells te xs))):bW P W0 o A (.ptr e id (off+i.toNat) []):=
 .of_same λw C a hr=>by
  have hxv:=(hx w C a hr).aP rfl
  have hiv:=(hi w C a hr).cF
  obtain⟨te,xs,hs⟩:=hlive
  obtain⟨b,base,room,arr,t',fr,m1,_⟩:=hr.st.cells hs
  generalize hval:a.eval x=v at hxv
  cases hxv with
  |row h1 h2 h3 h4=>
   obtain⟨b',base',room',g1,g2,g3⟩:=h4 _ m1
   cases g1
   have ha:=g2 (by omega)
   subst ha
   obtain⟨inf,hinf,hsz⟩:=bJ he
   have hlt':i<(m:Int):=by omega
   refine⟨.pointer (some ⟨b,base+off*af P e+i.toNat*af P e,none⟩),?_,.one rfl (.ptr h3 (λow how=>?_))⟩
   ·simp[execOp,ho,Instr.indexAt,hval,hiv,asIntOf,run_underlying (cr ht),h0,hlt',sizeOf,typeInfo,hinf,hsz,Addr.add_lit]
   ·rw[m1]at how
    cases how
    exact⟨b,e,base,room,0,rfl,rfl,by simp[Nat.add_mul,Nat.add_assoc]⟩
end
end Go.Av
end
section
namespace Go.Av
open Go
def ig (P:Program)(t:TypeId):Option TypeId:=match P.underlying t with|some (.array _ e)=>some e|_=>none
section
variable {P :Program}{W0 w w':World}{C C':Ctx}{σ σ':ab}{n:Nat}{A:aa}{a:Act}{o:Oper}
theorem sB {t e:TypeId}(h:ig P t=some e){ts:List TypeId}(hts:bp P t=some ts): ∃m,P.underlying t=some (.array m e)∧ts=List.replicate m e∧0<af P e:=by
 unfold ig at h
 split at h
 ·rename_i m e' hu
  cases h
  have hpos:=mh hts
  rcases fN hts with⟨fl,hu',_⟩|⟨m',e',hu',h1,h2⟩
  ·rw[hu]at hu';cases hu'
  ·rw[hu]at hu'
   cases hu'
   refine⟨m,hu,h1,?_⟩
   rcases Nat.eq_zero_or_pos (af P e)with h0|h0
   ·rw[h2,h0]at hpos;simp at hpos
   ·exact h0
 ·cases h
theorem oz {t:TypeId}{v:AV}{cs:List Value}{arr:Array Value}{off:Nat}(hr:Rel P w C v cs)(hf:fits P t v)(hc: ∀(j:Nat)(c:Value),cs[j]?=some c→arr[off+j]?=some c):
  ∃x,(part t arr off).run P w= .ok x w∧aF P w C v x:=by
 have hlen:=hr.bu hf
 cases hv:v.aX with
 |true=>
  obtain⟨x,rfl⟩:=hr.one_cell hv
  have hp:cD P t=true:=by
   cases v<;>simp_all[fits,AV.aX]
  refine⟨x,?_,.one hv hr⟩
  have h0:=hc 0 x (by simp)
  simp only[Nat.add_zero]at h0
  simp[part,(gI hp w).1,h0]
 |false=>
  cases v<;>simp only[AV.aX,Bool.true_eq_false]at hv<;>simp only[fits,AV.aX,Bool.false_eq_true,false_and]at hf
  rename_i t' fs
  obtain⟨rfl,hf⟩:=hf
  obtain⟨ts,hts⟩:=Option.isSome_iff_exists.1 hf
  obtain⟨i,hi,hsz⟩:=bJ (mh hts)
  refine⟨.agg (arr.extract off (off+i.size)),by simp[part,nq hts w,sizeOf,typeInfo,hi],?_⟩
  have:arr.extract off (off+i.size)=cs.toArray:=by
   refine Array.ext_getElem? λj=>?_
   rw[hsz]
   by_cases hj:j<cs.length
   ·have h1:=List.getElem?_eq_getElem hj
    have h2:=hc j _ h1
    have h3:=(Array.getElem?_eq_some_iff.1 h2).1
    rw[Array.getElem?_extract,if_pos (by omega),h2]
    simp[h1]
   ·rw[Array.getElem?_extract]
    have: ¬j<min (off+af P t') arr.size-off:=by omega
    rw[if_neg this]
    simp
    omega
  rw[this]
  exact .agg hr
theorem wH {t e:TypeId}{ts:List TypeId}{fs:List AV}{x ix:Operand}{k:IntKind}{i:Int}{y:AV}(ho:o.op= .index t x ix)(hx:Is P W0 o A x (.agg t fs))(hi:Is P W0 o A ix (.int k i))
  (ha:ig P t=some e) (hts:bp P t=some ts) (h0:0≤i) (hy:fs[i.toNat]?=some y):bW P W0 o A y:=
 .of_same λw C a hr=>by
  obtain⟨cs,hv,hrel⟩:=(hx w C a hr).py
  have hiv:=(hi w C a hr).cF
  obtain⟨m,hu,rfl,hpos⟩:=sB ha hts
  have hlt:i.toNat<m:=by
   have:=(List.getElem?_eq_some_iff.1 hy).1
   rw[hrel.sq hts]at this
   simpa using this
  obtain⟨c,r1,r2,r3,r4⟩:=hrel.part hts hy (ty:=e) (by simp[hlt])
  obtain⟨inf,hinf,hsz⟩:=bJ hpos
  obtain⟨z,hz,hzr⟩:=oz (arr:=cs.toArray) (off:=i.toNat*af P e) r1 r3 (λj u hj=>by
   have:=r4 j u hj
   rw[dm _ _ _ (by omega)]at this
   simpa using this)
  refine⟨z,?_,hzr⟩
  have hlt':i<(m:Int):=by omega
  simp[execOp,ho,Instr.index,hv,hiv,asIntOf,run_underlying hu,h0,hlt',sizeOf,typeInfo,hinf,hsz,hz]
theorem D9 {s ty:TypeId}{ts:List TypeId}{fs:List AV}{x:Operand}{k:Nat}{y:AV}(ho:o.op= .field s x k)(hx:Is P W0 o A x (.agg s fs))(hst:bs P s=true)(hts:bp P s=some ts)(hy:fs[k]?=some y)(hty:ts[k]?=some ty):bW P W0 o A y:=
 .of_same λw C a hr=>by
  obtain⟨cs,hv,hrel⟩:=(hx w C a hr).py
  rcases fN hts with⟨fl,hu,e1,e2,e3⟩|⟨m,e,hu,_⟩
  case inr=>simp[bs,hu]at hst
  have hk:k<fl.size:=by
   have:k<ts.length:=(List.getElem?_eq_some_iff.1 hty).1
   rw[e1]at this;simpa using this
  have hfk:fl[k]?=some fl[k]:=Array.getElem?_eq_getElem hk
  obtain⟨hoff,hpos⟩:=e2 k _ hfk
  obtain⟨c,r1,r2,r3,r4⟩:=hrel.part hts hy hty
  have htt:fl[k].type=ty:=by
   rw[e1,List.getElem?_map,Array.getElem?_toList,hfk]at hty
   simpa using hty
  obtain⟨z,hz,hzr⟩:=oz (arr:=cs.toArray) (off:=ba P ts k) r1 r3 (λj u hj=>by simpa using r4 j u hj)
  refine⟨z,?_,hzr⟩
  simp[execOp,ho,Instr.field,asAgg,hv,run_underlying hu,hfk,hoff,htt,hz]
theorem oO {t e:TypeId}{ts:List TypeId}{x ix:Operand}{k:IntKind}{i:Int}{id j:Nat}{path:List Nat}(ho:o.op= .indexAddr t x ix)(hx:Is P W0 o A x (.ptr t id j path))(hi:Is P W0 o A ix (.int k i))
  (ha:ig P t=some e) (hts:bp P t=some ts) (h0:0≤i) (hlt:i.toNat<ts.length):bW P W0 o A (.ptr e id j (path++[i.toNat])):=
 .of_same λw C a hr=>by
  obtain⟨ad,hv,hid,hm⟩:=(hx w C a hr).mH
  have hiv:=(hi w C a hr).cF
  obtain⟨m,hu,rfl,hpos⟩:=sB ha hts
  simp only[List.length_replicate]at hlt
  obtain⟨inf,hinf,hsz⟩:=bJ hpos
  have hlt':i<(m:Int):=by omega
  refine⟨.pointer (some (ad.add (i.toNat*af P e))),?_,.one rfl (.ptr hid (λow how=>?_))⟩
  ·simp[execOp,ho,Instr.indexAt,hv,hiv,asIntOf,run_underlying hu,h0,hlt',sizeOf,typeInfo,hinf,hsz,Instr.sureAddr]
  ·obtain⟨b,te,base,room,off,g1,g2,rfl⟩:=hm ow how
   refine⟨b,te,base,room,off+ba P (List.replicate m e) i.toNat,g1,nN path te t off i.toNat _ e g2 hts (by simp[hlt]),?_⟩
   rw[dm _ _ _ (by omega),Addr.add_lit]
   simp
theorem pF {t e:TypeId}{ts:List TypeId}{fs:List AV}{x ix:Operand}{k:IntKind}{i:Int}{y:AV}(ho:o.op= .indexAddr t x ix)(hx:Is P W0 o A x (.loc t (.agg t fs)))(hi:Is P W0 o A ix (.int k i))
  (ha:ig P t=some e) (hts:bp P t=some ts) (h0:0≤i) (hy:fs[i.toNat]?=some y):bW P W0 o A (.loc e y):=
 .of_same λw C a hr=>by
  obtain⟨b,off,cs,hv,h1,h2,h3,h4⟩:=(hx w C a hr).pc
  have hiv:=(hi w C a hr).cF
  obtain⟨m,hu,rfl,hpos⟩:=sB ha hts
  have hlt:i.toNat<m:=by
   have:=(List.getElem?_eq_some_iff.1 hy).1
   rw[h1.sq hts]at this
   simpa using this
  obtain⟨c,r1,r2,r3,r4⟩:=h1.part hts hy (ty:=e) (by simp[hlt])
  obtain⟨inf,hinf,hsz⟩:=bJ hpos
  have hlt':i<(m:Int):=by omega
  refine⟨.pointer (some ⟨b,off+i.toNat*af P e,none⟩),?_,.one rfl (.loc r1 r3 r2 (λj u hj=>?_))⟩
  ·simp[execOp,ho,Instr.indexAt,hv,hiv,asIntOf,run_underlying hu,h0,hlt',sizeOf,typeInfo,hinf,hsz,Instr.sureAddr,Addr.add_lit]
  ·have:=h4 (ba P (List.replicate m e) i.toNat+j) u (r4 j u hj)
   rwa [dm _ _ _ (by omega),←Nat.add_assoc]at this
end
end Go.Av
end
section
namespace Go.Av
open Go
section
variable {P :Program}{W0 w w':World}{C C':Ctx}{σ σ':ab}{n:Nat}{A:aa}{a:Act}{o:Oper}
theorem yk {x:AV}{v:Value}(h:rL x=some v):x.aX=true:=by
 cases x<;>first|rfl|cases h
theorem zT {x:AV}{v u:Value}(h:rL x=some v)(hr:Rel P w C x [u]):u=v:=by
 cases x<;>simp only[rL,reduceCtorEq,Option.some.injEq]at h
 ·subst h;cases hr;rfl
 ·subst h;cases hr;rfl
 ·cases hr with
  |str hl=>rw[if_pos hl]at h;exact Option.some.inj h
theorem GP {x:AV}{v:Value}(h:rL x=some v):aF P w C x v:=by
 cases x<;>first|cases h|skip
 ·exact .one rfl (.int _ _)
 ·exact .one rfl (.bool _)
 ·simp only[rL]at h
  split at h
  ·cases h;exact .one rfl (.str (by assumption))
  ·cases h
theorem Ap : ∀{xs:List AV} {vs:List Value},DK xs=some vs→xs.length=vs.length∧ ∀(i:Nat) (x:AV),xs[i]?=some x→ ∃v,rL x=some v∧vs[i]?=some v
 |[],vs,h=>by cases h;exact⟨rfl,by simp⟩
 |x::r,vs,h=>by
  simp only[DK]at h
  cases h1:rL x with
  |none=>rw[h1]at h;cases h
  |some v=>
   rw[h1,Option.bind_some]at h
   cases h2:DK r with
   |none=>rw[h2]at h;cases h
   |some us=>
    rw[h2]at h
    cases h
    obtain⟨g1,g2⟩:=Ap h2
    refine⟨by simp[g1],λi y hy=>?_⟩
    cases i with
    |zero=>simp at hy;subst hy;exact⟨v,h1,rfl⟩
    |succ i=>simpa using g2 i y (by simpa using hy)
theorem Ai : ∀{l:List Nat},(∀x∈l,x=1)→l.sum=l.length
 |[],_=>rfl
 |x::l,h=>by
  have:=Ai (l:=l) λy hy=>h y (by simp[hy])
  have h1:=h x (by simp)
  simp only[List.sum_cons,List.length_cons]
  omega
theorem Js {x:AV}{v u:Value}(h:rig P x=some v)(hr:aF P w C x u):u=v:=by
 have plain:rL x=some v→u=v:=λh=>zT h (hr.aP (yk h))
 cases x
 case agg t fs=>
  obtain⟨cs,rfl,hrel⟩:=hr.py
  simp only[rig]at h
  split at h
  ·rename_i ts hts
   split at h
   ·rename_i hall
    cases hL:DK fs with
    |none=>rw[hL]at h;cases h
    |some vs=>
     rw[hL]at h
     simp only[Option.map_some,Option.some.injEq]at h
     subst h
     obtain⟨g1,g2⟩:=Ap hL
     cases hrel with
     |agg cf h1 h2 h3 h4 h5 h6=>
      rename_i ts'
      rw[hts]at h1
      cases h1
      have ones: ∀ty∈ts,af P ty=1:=λty hty=>by simpa using List.all_eq_true.1 hall ty hty
      have off: ∀i,i≤ts.length→ba P ts i=i:=λi hi=>by
       unfold ba
       rw[Ai (λx hx=>by
        obtain⟨ty,hty,rfl⟩:=List.mem_map.1 hx
        exact ones ty (List.mem_of_mem_take hty))]
       simp;omega
      have hlen:cs.length=vs.length:=by rw[h3,ij hts,off _ (Nat.le_refl _),←h2,g1]
      congr 1
      congr 1
      refine List.ext_getElem? λi=>?_
      by_cases hi:i<fs.length
      ·have hx:=List.getElem?_eq_getElem hi
       obtain⟨v,hv1,hv2⟩:=g2 i _ hx
       have hty:=List.getElem?_eq_getElem (l:=ts) (show i<ts.length by omega)
       obtain⟨k1,k2,k3⟩:=h6 i _ _ hx hty
       obtain⟨z,hz⟩:=(h5 i _ hx).one_cell (yk hv1)
       have hrz:=h5 i _ hx
       rw[hz]at hrz
       have:=zT hv1 hrz
       subst this
       have h7:=k3 0 z (by rw[hz];rfl)
       rw[off i (by omega),Nat.add_zero]at h7
       rw[h7,hv2]
      ·rw[List.getElem?_eq_none (by omega),List.getElem?_eq_none (by omega)]
   ·cases h
  ·cases h
 all_goals exact plain h
def sV (P:Program)(t:TypeId):Option (TypeId×TypeId):=match P.underlying t with|some (.map k e)=>some (k,e)|_=>none
theorem HM {t kt vt:TypeId}(h:sV P t=some (kt,vt)):P.underlying t=some (.map kt vt):=by
 unfold sV at h
 split at h
 ·cases h;assumption
 ·cases h
def NG (P:Program)(kt:TypeId)(v:AV):Prop:=∃ x q,rig P v=some x∧keyOf P kt x=some q
def Dd (σ:ab)(kt:TypeId):AV→Option (List (AV×AV))
 | .mp id=>(match σ[id]? with|some (some (.mp kt' l))=>if kt'=kt then some l else none|_=>none)
 |_=>none
def ma (P:Program)(t:TypeId):AV:=match (P.info? t).bind (·.zero)with|some z=>jR z|none=>.undef
open Classical in
noncomputable def G2 (P:Program)(l:List (AV×AV))(k z:AV):AV:=if h: ∃p∈l,rig P p.1=rig P k then(Classical.choose h).2 else z
theorem HQ {kt:TypeId}{u:AV}{l:List (AV×AV)}(h:Dd σ kt u=some l): ∃id,u= .mp id∧σ[id]?=some (some (.mp kt l)):=by
 cases u<;>first|cases h|skip
 rename_i id
 simp only[Dd]at h
 split at h
 ·rename_i kt' l' hs
  split at h
  ·rename_i he
   subst he
   cases h
   exact⟨id,rfl,hs⟩
  ·cases h
 ·cases h
theorem aB.mp (h:aB P W0 w C σ){id:Nat}{kt:TypeId}{l:List (AV×AV)}(hs:σ[id]?=some (some (.mp kt l))): ∃b,C.m id=some (.mp b)∧Gg P w kt l b:=by
 have ho:=h.obj id
 rw[hs]at ho
 simp only[Option.join_some]at ho
 cases hm:C.m id with
 |none=>rw[hm]at ho;exact ho.elim
 |some ow=>
  rw[hm]at ho
  cases ow with
  |mp b=>exact⟨b,rfl,ho⟩
  |_=>exact ho.elim
theorem O0 {id:Nat}{v:Value}(h:aF P w C (.mp id) v): ∃r,v= .map (some r)∧ ∀ow,C.m id=some ow→ow= .mp r:=by
 have:=h.aP rfl
 cases this with
 |mp h1 h2=>exact⟨_,rfl,h2⟩
theorem DU {es:List MapEntry}(h:es.Pairwise λe f=>e.key≠f.key): ∀{e f:MapEntry},e∈es→f∈es→e.key=f.key→e=f:=by
 induction es with
 |nil=>intro e f he;cases he
 |cons x r ih=>
  rw[List.pairwise_cons]at h
  intro e f he hf hk
  rcases List.mem_cons.1 he with he'|he'
  ·rcases List.mem_cons.1 hf with hf'|hf'
   ·rw[he',hf']
   ·rw[he']at hk;exact absurd hk (h.1 f hf')
  ·rcases List.mem_cons.1 hf with hf'|hf'
   ·rw[hf']at hk;exact absurd hk.symm (h.1 e he')
   ·exact ih h.2 he' hf' hk
theorem Eb {t kt vt:TypeId}{x ix:Operand}{u k:AV}{l:List (AV×AV)}(ho:o.op= .lookup t x ix false)(hx:Is P W0 o A x u)(hi:Is P W0 o A ix k)(ht:sV P t=some (kt,vt))(hz:bw P vt=true)
  (K:Maps.Keyed P kt) (hk:NG P kt k) (hl:Dd A.st kt u=some l):bW P W0 o A (G2 P l k (ma P vt)):=λw C a hr=>by
 obtain⟨id,rfl,hs⟩:=HQ hl
 obtain⟨r,hv,hm⟩:=O0 (hx w C a hr)
 obtain⟨b,hc,es,clock,hb,hd,he1,he2⟩:=hr.st.mp hs
 cases hm _ hc
 obtain⟨y,q,hy,hq⟩:=hk
 have hkey:=Js hy (hi w C a hr)
 obtain⟨inf,z,hinf,hiz,_⟩:=gQ hz
 have hzv:(zeroValue vt).run P w= .ok z w:=by simp[zeroValue,typeInfo,hinf,hiz]
 have hz1:ma P vt=jR z:=by simp[ma,hinf,hiz]
 have hu:=HM ht
 rcases K.find w hq es.toList (λe he=>(he1 e he).1)with⟨h1,h2⟩|⟨j,e,h1,h2,h3⟩
 ·refine⟨z,w,?_,?_,.refl _ _,hr.st⟩
  ·simp[execOp,ho,hv,hkey,Instr.lookup,run_underlying hu,MapKept.run_getObj_map hb,K.check w _ hq,h1,hzv,Result.andThen]
  ·have: ¬ ∃p∈l,rig P p.1=rig P k:=λ⟨p,hp,hpk⟩=>by
    obtain⟨e,he,g1,_⟩:=he2 p hp
    rw[hpk,hy]at g1
    exact h2 e he (Option.some.inj g1).symm
   rw[G2,dif_neg this,hz1]
   exact jH z
 ·refine⟨e.val,w,?_,?_,.refl _ _,hr.st⟩
  ·simp[execOp,ho,hv,hkey,Instr.lookup,run_underlying hu,MapKept.run_getObj_map hb,K.check w _ hq,h1,Result.andThen]
  ·have hem:e∈es.toList:=List.mem_of_getElem? h2
   obtain⟨_,p,hp,g1,g2⟩:=he1 e hem
   have hex: ∃p∈l,rig P p.1=rig P k:=⟨p,hp,by rw[g1,h3,hy]⟩
   rw[G2,dif_pos hex]
   obtain⟨hc1,hc2⟩:=Classical.choose_spec hex
   obtain⟨f,hf,k1,k2⟩:=he2 _ hc1
   rw[hc2,hy]at k1
   have:f=e:=DU hd hf hem (by rw[h3];exact(Option.some.inj k1).symm)
   subst this
   exact GP k2
end
def l0 (P:Program)(t:TypeId):Bool:=match P.underlying t with
 |some (.interface _)=>false
 |some _=>true
 |none=>false
def DE (P:Program)(t:TypeId):Bool:=((P.info? t).bind (·.zero)).isSome
def jL (P:Program)(d:TypeId)(ok:Bool):AV→AV
 | .iface t v=>if t=d then(if ok=true then .tup [v,.bool true]else v)else .tup [ma P d,.bool false]
 | .cC=>.tup [ma P d,.bool false]
 |_=>.undef
def mF (P:Program)(d:TypeId)(ok:Bool):AV→Prop
 | .iface t _=>l0 P d=true∧(t=d∨(ok=true∧DE P d=true))
 | .cC=>l0 P d=true∧ok=true∧DE P d=true
 |_=>False
theorem qi {P:Program}{t:TypeId}(h:l0 P t=true): ∃U,P.underlying t=some U∧ ∀m,U≠ .interface m:=by
 unfold l0 at h
 split at h
 ·cases h
 ·rename_i U hn hU
  exact⟨U,hU,λm e=>hn m (by rw[←e])⟩
 ·cases h
section
variable {P :Program}{W0 w w':World}{C C':Ctx}{σ σ':ab}{n:Nat}{A:aa}{a:Act}{o:Oper}
theorem pY {t:TypeId}{x:Operand}{u:AV}(ho:o.op= .makeInterface t x)(hx:Is P W0 o A x u)(h1:l0 P t=true)(h2:u.aX=true):bW P W0 o A (.iface t u):=
 .of_same λw C a hr=>by
  have h:=(hx w C a hr).aP h2
  obtain⟨U,hU,hn⟩:=qi h1
  refine⟨.iface t (a.eval x),?_,.one rfl (.iface h2 h)⟩
  have:(Instr.makeInterface t (a.eval x)).run P w= .ok (.iface t (a.eval x)) w:=by
   simp only[Instr.makeInterface,Sem.run_bind,run_underlying hU,Result.andThen_ok]
   cases U<;>first|rfl|exact absurd rfl (hn _)
  simp[execOp,ho,this]
theorem uq {xt d:TypeId}{ok:Bool}{x:Operand}{u:AV}(ho:o.op= .typeAssert x xt d ok)(hx:Is P W0 o A x u)(h:mF P d ok u):bW P W0 o A (jL P d ok u):=
 .of_same λw C a hr=>by
  have hv:=hx w C a hr
  have hpair: ∀(v:AV) (x:Value) (b:Bool),aF P w C v x→aF P w C (.tup [v,.bool b]) (.tuple #[x,.bool b]):=λv x b hr=>by
   refine .tup (vs:=[x,.bool b]) rfl λi a v ha hv=>?_
   rcases i with _|_|i
   ·cases ha;cases hv;exact hr
   ·cases ha;cases hv;exact .one rfl (.bool _)
   ·simp at ha
  have hzero:DE P d=true→ ∃z,(zeroValue d).run P w= .ok z w∧aF P w C (ma P d) z:=λhz=>by
   unfold DE at hz
   obtain⟨z,hz⟩:=Option.isSome_iff_exists.1 hz
   obtain⟨i,hi,hiz⟩:=Option.bind_eq_some_iff.1 hz
   refine⟨z,by simp[zeroValue,typeInfo,hi,hiz],?_⟩
   unfold ma
   rw[hz]
   exact jH z
  cases u<;>first|exact h.elim|skip
  ·obtain⟨h1,h2,h3⟩:=h
   obtain⟨U,hU,hn⟩:=qi h1
   obtain⟨z,hz1,hz2⟩:=hzero h3
   have hx':=hv.aP rfl
   generalize hev:a.eval x=xv at hx'
   cases hx'
   refine⟨.tuple #[z,.bool false],?_,hpair _ _ _ hz2⟩
   have:(Instr.typeAssert .nilIface xt d ok).run P w= .ok (.tuple #[z,.bool false]) w:=by
    subst h2
    simp only[Instr.typeAssert,Sem.run_bind,run_underlying hU,Result.andThen_ok]
    cases U<;>first|exact absurd rfl (hn _)|simp[hz1]
   simp[execOp,ho,hev,this]
  ·rename_i t v
   obtain⟨h1,h2⟩:=h
   obtain⟨U,hU,hn⟩:=qi h1
   have hx':=hv.aP rfl
   generalize hev:a.eval x=xv at hx'
   cases hx' with
   |iface h3 h4=>
    rename_i y
    by_cases htd:t=d
    ·subst htd
     refine⟨if ok=true then .tuple #[y,.bool true]else y,?_,?_⟩
     ·have:(Instr.typeAssert (.iface t y) xt t ok).run P w= .ok (if ok=true then .tuple #[y,.bool true]else y) w:=by
       simp only[Instr.typeAssert,Sem.run_bind,run_underlying hU,Result.andThen_ok]
       cases U<;>first|exact absurd rfl (hn _)|simp
      simp[execOp,ho,hev,this]
     ·simp only[jL,if_true]
      cases ok
      ·exact .one h3 h4
      ·exact hpair _ _ _ (.one h3 h4)
    ·obtain⟨h5,h6⟩:=h2.resolve_left htd
     obtain⟨z,hz1,hz2⟩:=hzero h6
     refine⟨.tuple #[z,.bool false],?_,by simp only[jL,if_neg htd];exact hpair _ _ _ hz2⟩
     have:(Instr.typeAssert (.iface t y) xt d ok).run P w= .ok (.tuple #[z,.bool false]) w:=by
      subst h5
      simp only[Instr.typeAssert,Sem.run_bind,run_underlying hU,Result.andThen_ok]
      cases U<;>first|exact absurd rfl (hn _)|simp[htd,hz1]
     simp[execOp,ho,hev,this]
end
end Go.Av
end
section
namespace Go.Av
open Go
def DO (P:Program)(f:FuncId)(vs:Array Value)(w:World)(R:Ending→World→Prop):Prop:=
 ((∃ fn, P.funcs[f]? = some fn ∧ fn.body.isSome = true ∧ (fn.name == "runtime.NumGoroutine") = false) ∧ Calls P f vs w R) ∨
 ∃v w',(callFunc f vs).run P w= .ok (.value v) w'∧R (.returned v) w'
theorem DO.mono {P:Program}{f:FuncId}{vs:Array Value}{w:World}{R R':Ending→World→Prop}(h:DO P f vs w R)(hr: ∀e w',R e w'→R' e w'):DO P f vs w R':=by
 rcases h with⟨h1,h2⟩|⟨v,w',h1,h2⟩
 ·exact .inl ⟨h1,h2.mono λe w'=>hr e w'⟩
 ·exact .inr ⟨v,w',h1,hr _ _ h2⟩
def aY (P:Program)(W0:World)(f:FuncId)(args:List AV)(σ:ab)(Q:AV→ab→Prop):Prop:=
 ∀w C (vs:List Value),aB P W0 w C σ→args.length=vs.length→(∀(i:Nat) (a:AV) (v:Value),args[i]?=some a→vs[i]?=some v→aF P w C a v)→
  DO P f vs.toArray w λe w'=>∃ v r σ' C',e= .returned v∧Q r σ'∧aB P W0 w' C' σ'∧aF P w' C' r v∧Step w C w' C'
def ag (P:Program)(W0:World)(f:FuncId)(args:List AV)(r:AV):Prop:=∀ σ,aY P W0 f args σ λr' σ'=>r'=r∧σ'=σ
def dd (P:Program)(W0:World)(o:Oper)(A:aa)(v:AV):Prop:=
 ∀w C a,fJ P W0 o w C A a→ ∀(next:Act→World→Prop) (Q:Exit→Act→World→Prop),
  (∀x w',aF P w' C v x→Step w C w' C→aB P W0 w' C A.st→next (a.put o.dst x) w')→o.wp P a w next Q
def imp (gd:Option Bool)(p:Prop):Prop:=match gd with|none=>p|some g=>(g=true→p)
theorem imp.of {gd:Option Bool}{p:Prop}(h:p):imp gd p:=by cases gd<;>first|exact h|exact λ_=>h
theorem imp.map {gd:Option Bool}{p q:Prop}(h:p→q)(hp:imp gd p):imp gd q:=by cases gd<;>first|exact h hp|exact λg=>h (hp g)
theorem imp.yS {gd:Option Bool}{p q r:Prop}(h:p→q→r)(hp:imp gd p)(hq:imp gd q):imp gd r:=by cases gd<;>first|exact h hp hq|exact λg=>h (hp g) (hq g)
theorem imp.qx {gd:Option Bool}{p q r s:Prop}(h:p→q→r→s)(hp:imp gd p)(hq:imp gd q)(hr:imp gd r):imp gd s:=by cases gd<;>first|exact h hp hq hr|exact λg=>h (hp g) (hq g) (hr g)
def strip (gd:Option Bool)(x:AV)(k:AV→Prop):Prop:=match x with| .maybe g v=>imp gd (g=true)∧k v|v=>k v
def sZ (gd:Option Bool)(b:Bool)(x:AV)(k:AV→Prop):Prop:=match x with| .maybe g v=>imp gd (b=true→g=true)∧k v|v=>k v
def stripL (gd:Option Bool)(xs:List AV)(k:List AV→Prop):Prop:=
 match xs with
 |[]=>k []
 |x::r=>strip gd x λu=>stripL gd r λus=>k (u::us)
def Fy (P:Program)(op:BinOp)(t:TypeId)(u v:AV)(K:AV→Prop):Prop:=match cd P op t u v with|some z=>K z|none=>False
def UY (op:UnOp)(u:AV)(K:AV→Prop):Prop:=
 match op,u with
 | .not,.bool b=>K (.bool (!b))
 | .neg,.int k m=>K (.int k (k.wrap (-m)))
 |_,_=>False
def A8 (gd:Option Bool)(σ:ab)(t:TypeId)(u:AV)(K:AV→Prop):Prop:=
 match u with
 | .loc t' v=>t'=t∧K v
 | .ptr t' id i path=>t'=t∧(match look σ id i path with|some v=>K v|none=>imp gd False∧K .undef)
 |_=>False
def oZ (P:Program)(s:TypeId)(u:AV)(k:Nat)(K:AV→Prop):Prop:=
 match u with
 | .loc t (.agg t' fs)=>(t=s∧t'=s∧bs P s=true)∧(match bp P s with
  |some ts=>(match fs[k]?,ts[k]? with
   |some y,some ty=>K (.loc ty y)
   |_,_=>False)
  |none=>False)
 | .ptr t id i path=>(t=s∧bs P s=true)∧(match bp P s with
  |some ts=>(match ts[k]? with
   |some ty=>K (.ptr ty id i (path++[k]))
   |none=>False)
  |none=>False)
 |_=>False
def live (σ:ab)(id:Nat):Prop:=∃ te xs,σ[id]?=some (some (.cells te xs))
def jM (P:Program)(gd:Option Bool)(σ:ab)(t:TypeId)(u v:AV)(K:AV→Prop):Prop:=
 match v with
 | .int _ i=>(match u with
  | .row e id off m=>(elT P t=some e∧0<af P e)∧imp gd (0≤i∧i.toNat<m)∧live σ id∧K (.ptr e id (off+i.toNat) [])
  | .ptr t' id j path=>(t'=t∧(ig P t).isSome=true)∧(match bp P t with
   |some ts=>imp gd (0≤i∧i.toNat<ts.length)∧K (.ptr ((ig P t).getD 0) id j (path++[i.toNat]))
   |none=>False)
  | .loc t' (.agg t'' fs)=>(t'=t∧t''=t∧(ig P t).isSome=true∧(bp P t).isSome=true)∧imp gd (0≤i∧i.toNat<fs.length)∧K (.loc ((ig P t).getD 0) (fs[i.toNat]?.getD .undef))
  |u=>(match u.kO with
   |some (e,xs)=>(elT P t=some e∧0<af P e)∧imp gd (0≤i∧i.toNat<xs.length)∧K (.loc e (xs[i.toNat]?.getD .undef))
   |none=>False))
 |_=>False
def cc (P:Program)(t:TypeId):Bool:=match P.underlying t with|some .string=>true|_=>false
def wQ (P:Program)(gd:Option Bool)(t:TypeId)(u v:AV)(K:AV→Prop):Prop:=
 match u,v with
 | .str l,.int _ i=>cc P t=true∧imp gd (0≤i∧i.toNat<l.length)∧K (.int .u8 (l[i.toNat]?.getD 0).toNat)
 | .agg t' fs,.int _ i=>(t'=t∧(ig P t).isSome=true∧(bp P t).isSome=true)∧imp gd (0≤i∧i.toNat<fs.length)∧K (fs[i.toNat]?.getD .undef)
 |_,_=>False
def Of (P:Program)(s:TypeId)(k:Nat)(u:AV)(K:AV→Prop):Prop:=
 match u with
 | .agg t fs=>(match bp P s with
  |some ts=>(match ts[k]?,fs[k]? with
   |some _,some y=>(t=s∧bs P s=true)∧K y
   |_,_=>False)
  |none=>False)
 |_=>False
def qK (u:AV)(k:Nat)(K:AV→Prop):Prop:=match u with| .tup as=>(match as[k]? with|some v=>K v|none=>False)|_=>False
def iQ (P:Program)(t:TypeId):Option IntKind:=match P.underlying t with|some (.int k)=>some k|_=>none
def mS (P:Program)(s d:TypeId)(u:AV)(K:AV→Prop):Prop:=
 match u with
 | .int _ m=>(match iQ P s,iQ P d with|some _,some k'=>K (.int k' (k'.wrap m))|some _,none=>cc P d=true∧K (.str (za m))|_,_=>False)
 | .str l=>(cc P s=true∧cc P d=true)∧K (.str l)
 |u=>(match u.kO with
  |some (e,xs)=>(elT P s=some e∧iQ P e=some .u8∧af P e=1∧cc P d=true∧gL xs)∧K (.str (xs.map jj))
  |none=>False)
def ib (gd:Option Bool)(A:aa)(x:Option Operand)(d:Nat)(k:Nat→Prop):Prop:=
 match x with
 |none=>k d
 |some y=>strip gd (A.val y) λv=>(match v with| .int _ i=>imp gd (0≤i)∧k i.toNat|_=>False)
def r6 (P:Program)(gd:Option Bool)(A:aa)(t:TypeId)(u:AV)(lo hi:Option Operand)(K:AV→Prop):Prop:=
 match u with
 | .str l=>cc P t=true∧ib gd A lo 0 λp=>ib gd A hi l.length λq=>imp gd (p≤q∧q≤l.length)∧K (.str (gp l p q))
 | .row e id off m=>(elT P t=some e∧0<af P e)∧ib gd A lo 0 λp=>ib gd A hi m λq=>imp gd (p≤q∧q≤m)∧K (.row e id (off+p) (q-p))
 | .az=>(match elT P t with|some e=>0<af P e∧ib gd A lo 0 λp=>ib gd A hi 0 λq=>imp gd (p=0∧q=0)∧K .az|none=>False)
 |u=>match u.kO with
  |some (e,xs)=>(elT P t=some e∧0<af P e)∧ib gd A lo 0 λp=>ib gd A hi xs.length λq=>imp gd (p≤q∧q≤xs.length)∧K (.sl e (gp xs p q))
  |none=>False
def mC (gd:Option Bool)(A:aa)(ps:List (Nat×Operand))(k:List (Nat×AV)→Prop):Prop:=
 match ps with
 |[]=>k []
 |(i,x)::r=>strip gd (A.val x) λu=>mC gd A r λus=>k ((i,u)::us)
def bq (P:Program)(t:TypeId)(x:AV):Bool:=
 match x with
 | .agg t' _=>t'==t&&(bp P t).isSome
 |x=>x.aX&&cD P t
theorem eU {P:Program}{t:TypeId}{x:AV}(h:bq P t x=true):fits P t x:=by
 cases x<;>simp_all[bq,fits]
def mJ (P:Program)(ts:List TypeId)(ps:List (Nat×AV)):Bool:=ps.all λp=>match ts[p.1]? with|some ty=>bq P ty p.2|none=>false
def r8 (P:Program)(t:TypeId)(qs:List (Nat×AV))(K:AV→Prop):Prop:=
 match bp P t,zeroOf P t with
 |some ts,some (.agg t' fs)=>(t'=t∧mJ P ts qs=true)∧K (.agg t (nB qs fs))
 |_,_=>False
def iM (P:Program)(t:TypeId)(m:Nat)(qs:List (Nat×AV))(K:AV→Prop):Prop:=
 match elT P t with
 |some e=>(0<af P e∧bw P e=true∧m*af P e≤16777216∧qs.map (·.1)=List.range' 0 m∧qs.all (λp=>bq P e p.2)=true)∧K (.lit e (qs.map (·.2)))
 |none=>False
def mT (P:Program)(gd:Option Bool)(b:Builtin)(ts:List TypeId)(us:List AV)(K:AV→Prop):Prop:=
 match b,us with
 | .len,[u]=>(match ts with
  |[t]=>(match u with
   | .str l=>cc P t=true∧(imp gd (l.length≤maxLen)→K (.int .i64 l.length))
   |u=>(match u.lenOf with
    |some m=>(elT P t).isSome=true∧(imp gd (m≤maxLen)→K (.int .i64 m))
    |none=>False))
  |_=>False)
 | .cap,[u]=>(match ts with
  |[t]=>(match u with
   | .az=>(elT P t).isSome=true∧K (.int .i64 0)
   |_=>False)
  |_=>False)
 | .max,[u,v]=>(match u,v with| .int k p,.int k' q=>k'=k∧K (.int k (yC p q))|_,_=>False)
 | .min,[u,v]=>(match u,v with| .int k p,.int k' q=>k'=k∧K (.int k (rG p q))|_,_=>False)
 |_,_=>False
def AQ (P:Program)(W0:World)(so:Option ab)(f:FuncId)(args:List AV)(r:AV):Prop:=match so with
 |none=>ag P W0 f args r
 |some σ=>aY P W0 f args σ λr' σ'=>r'=r∧σ'=σ
def jv (P:Program)(W0:World)(gd:Option Bool)(so:Option ab)(f:AV)(us:List AV)(K:AV→Prop):Prop:=
 match f with
 | .fn g caps=>∃ r,imp gd (AQ P W0 so g (us++caps) r)∧K r
 |_=>False
def BP (P:Program)(gd:Option Bool)(σ:ab)(t:TypeId)(u v:AV)(K:AV→Prop):Prop:=
 match sV P t with
 |some (kt,vt)=>bw P vt=true∧Maps.Keyed P kt∧imp gd (NG P kt v)∧(match Dd σ kt u with|some l=>K (G2 P l v (ma P vt))|none=>False)
 |none=>False
def je (P:Program)(W0:World)(gd:Option Bool)(op:Op)(A:aa)(K:AV→Prop):Prop:=
 match op with
 | .move x=>(match gd with|none=>K (A.val x)|some _=>strip gd (A.val x) K)
 | .assign x=>(match gd with|none=>K (A.val x)|some _=>strip gd (A.val x) K)
 | .pick c x y=>strip gd (A.val c) λcv=>(match cv with
  | .bool b=>sZ gd b (A.val x) λu=>sZ gd (!b) (A.val y) λv=>K (lT b u v)
  |_=>False)
 | .binOp op t x y _=>strip gd (A.val x) λu=>strip gd (A.val y) λv=>Fy P op t u v K
 | .unOp op _ x=>strip gd (A.val x) λu=>UY op u K
 | .load t x=>strip gd (A.val x) λu=>A8 gd A.st t u K
 | .fieldAddr s x k=>strip gd (A.val x) λu=>oZ P s u k K
 | .indexAddr t x ix=>strip gd (A.val x) λu=>strip gd (A.val ix) λv=>jM P gd A.st t u v K
 | .index t x ix=>strip gd (A.val x) λu=>strip gd (A.val ix) λv=>wQ P gd t u v K
 | .extract x k=>strip gd (A.val x) λu=>qK u k K
 | .field s x k=>strip gd (A.val x) λu=>Of P s k u K
 | .nilCheck x=>strip gd (A.val x) λu=>u.gj=true∧K u
 | .convert s d x=>strip gd (A.val x) λu=>mS P s d u K
 | .makeFunc fn first caps=>(match fn with
  | .func f=>first.toList=[]∧stripL gd (caps.toList.map A.val) λvs=>vs.all AV.aX=true∧K (.fn f vs)
  |_=>False)
 | .slice t x lo hi mx=>mx=none∧strip gd (A.val x) λu=>r6 P gd A t u lo hi K
 | .build t ps=>mC gd A ps.toList λqs=>r8 P t qs K
 | .buildSlice t m ps=>mC gd A ps.toList λqs=>iM P t m qs K
 | .box t x=>strip gd (A.val x) λv=>bq P t v=true∧K (.loc t v)
 | .lookup t x ix false=>strip gd (A.val x) λu=>strip gd (A.val ix) λv=>BP P gd A.st t u v K
 | .makeInterface t x=>strip gd (A.val x) λu=>(l0 P t=true∧u.aX=true)∧K (.iface t u)
 | .typeAssert x _ d ok=>strip gd (A.val x) λu=>mF P d ok u∧K (jL P d ok u)
 | .call c=>(match c.callee with
  | .builtin b=>stripL gd (c.args.toList.map A.val) λus=>mT P gd b c.argTypes.toList us K
  | .value f=>strip gd (A.val f) λfv=>stripL gd (c.args.toList.map A.val) λus=>jv P W0 gd (some A.st) fv us K
  |_=>False)
 |_=>False
section
variable {P :Program}{W0 w w':World}{C C':Ctx}{σ σ':ab}{n:Nat}{A:aa}{a:Act}{o:Oper}{gd:Option Bool}{K:AV→Prop}
theorem bW.pure {v:AV}(h:bW P W0 o A v):dd P W0 o A v:=λw C a hr next Q hn=>by
 obtain⟨x,w',h1,h2,h3,h4⟩:=h w C a hr
 unfold Oper.wp
 rw[h1]
 exact hn x w' h2 h3 h4
theorem Ho (h:aB P W0 w C σ)(h':aB P W0 w' C' σ)(hs:Step w C w' C'):C'=C:=by
 have hm: ∀i,C'.m i=C.m i:=λi=>by
  have h1:=h.obj i
  have h2:=h'.obj i
  cases hc:C'.m i with
  |none=>
   cases hc':C.m i with
   |none=>rfl
   |some ow=>
    rw[hc]at h2
    rw[hc']at h1
    cases ho:(σ[i]?).join with
    |none=>rw[ho]at h1;cases ow<;>exact h1.elim
    |some s=>rw[ho]at h2;cases s<;>exact h2.elim
  |some ow=>
   have hlt:=h'.dom i ow hc
   rw[hs.dead i ow (by rw[h.nx,←h'.nx];exact hlt) hc]
 have hnx:C'.nx=C.nx:=by rw[h.nx,h'.nx]
 cases C;cases C'
 simp only at hm hnx
 subst hnx
 congr
 exact funext hm
theorem aW {x:Operand}(hm:x∈o.op.operands){k:AV→Prop}(h:strip gd (A.val x) k): ∃u,k u∧imp gd (Is P W0 o A x u):=by
 unfold strip at h
 have hv:=Is.val (P:=P) (W0:=W0) A hm
 split at h
 ·rename_i g v hx
  rw[hx]at hv
  exact⟨v,h.2,h.1.map λhg w C a hr=>(hv w C a hr).strip hg⟩
 ·exact⟨_,h,.of hv⟩
theorem pj {b:Bool}{x:Operand}(hm:x∈o.op.operands){k:AV→Prop}(h:sZ gd b (A.val x) k): ∃u,k u∧imp gd (b=true→Is P W0 o A x u):=by
 unfold sZ at h
 have hv:=Is.val (P:=P) (W0:=W0) A hm
 split at h
 ·rename_i g v hx
  rw[hx]at hv
  exact⟨v,h.2,h.1.map λhg hb w C a hr=>(hv w C a hr).strip (hg hb)⟩
 ·exact⟨_,h,.of λ_=>hv⟩
theorem fW : ∀(xs:List Operand) (k:List AV→Prop),(∀x∈xs,x∈o.op.operands)→stripL gd (xs.map A.val) k→ ∃us,k us∧imp gd (IsL P W0 o A xs us)
 |[],k,_,h=>⟨[],h,.of ⟨rfl,by simp⟩⟩
 |x::r,k,hm,h=>by
  obtain⟨u,hu,hi⟩:=aW (P:=P) (W0:=W0) (hm x (by simp)) h
  obtain⟨us,hus,hil⟩:=fW r _ (λy hy=>hm y (by simp[hy])) hu
  refine⟨u::us,hus,hi.yS (λh1 h2=>⟨by simp[h2.1],λi y v hy hv=>?_⟩) hil⟩
  cases i with
  |zero=>simp at hy hv;subst hy hv;exact h1
  |succ i=>simp at hy hv;exact h2.2 i y v hy hv
theorem gJ : ∀(ps:List (Nat×Operand)) (k:List (Nat×AV)→Prop),(∀p∈ps,p.2∈o.op.operands)→mC gd A ps k→ ∃qs,k qs∧imp gd (jC P W0 o A ps qs)
 |[],k,_,h=>⟨[],h,.of ⟨rfl,by simp⟩⟩
 |(j,x)::r,k,hm,h=>by
  obtain⟨u,hu,hi⟩:=aW (P:=P) (W0:=W0) (hm (j,x) (by simp)) h
  obtain⟨us,hus,hil⟩:=gJ r _ (λy hy=>hm y (by simp[hy])) hu
  refine⟨(j,u)::us,hus,hi.yS (λh1 h2=>⟨by simp[h2.1],λi y v hy hv=>?_⟩) hil⟩
  cases i with
  |zero=>simp at hy hv;subst hy hv;exact⟨rfl,h1⟩
  |succ i=>simp at hy hv;exact h2.2 i y v hy hv
theorem dV {x:Option Operand}(hm: ∀y,x=some y→y∈o.op.operands){d:Nat}{k:Nat→Prop}(h:ib gd A x d k): ∃l,k l∧imp gd (jF P W0 o A x d l):=by
 unfold ib at h
 split at h
 ·exact⟨d,h,.of rfl⟩
 ·obtain⟨u,hu,hi⟩:=aW (P:=P) (W0:=W0) (hm _ rfl) h
  split at hu
  ·rename_i k' i
   exact⟨i.toNat,hu.2,hi.yS (λh1 h2=>⟨k',i,h1,h2,rfl⟩) hu.1⟩
  ·exact hu.elim
end
end Go.Av
end
section
namespace Go.Av
open Go
section
variable {P :Program}{W0 w w':World}{C C':Ctx}{σ σ':ab}{n:Nat}{A:aa}{a:Act}{o:Oper}{gd:Option Bool}{K:AV→Prop}
theorem eE {t:TypeId}(h:cc P t=true):P.underlying t=some .string:=by
 unfold cc at h
 split at h
 ·assumption
 ·cases h
theorem oQ {t:TypeId}{k:IntKind}(h:iQ P t=some k):P.underlying t=some (.int k):=by
 unfold iQ at h
 split at h
 ·cases h;assumption
 ·cases h
theorem sk {x:Operand}(ho:o.op= .move x∨o.op= .assign x)(hm:x∈o.op.operands)(h:match gd with|none=>K (A.val x)|some _=>strip gd (A.val x) K): ∃v,K v∧imp gd (dd P W0 o A v):=by
 have key: ∀u,Is P W0 o A x u→dd P W0 o A u:=λu hu=>by
  rcases ho with ho|ho
  ·exact(I6 ho hu).pure
  ·exact(DR ho hu).pure
 cases gd with
 |none=>exact⟨_,h,key _ (Is.val A hm)⟩
 |some g=>
  obtain⟨u,hu,hi⟩:=aW (P:=P) (W0:=W0) hm h
  exact⟨u,hu,hi.map (key u)⟩
theorem Ar {t:TypeId}{x:Operand}{u:AV}(ho:o.op= .load t x)(hi:imp gd (Is P W0 o A x u))(h:A8 gd A.st t u K): ∃v,K v∧imp gd (dd P W0 o A v):=by
 unfold A8 at h
 split at h
 ·obtain⟨rfl,hk⟩:=h
  exact⟨_,hk,hi.map λhx=>(yp ho hx).pure⟩
 ·obtain⟨rfl,hk⟩:=h
  split at hk
  ·rename_i v hv
   exact⟨v,hk,hi.map λhx=>(zS ho hx hv).pure⟩
  ·exact⟨_,hk.2,hk.1.map False.elim⟩
 ·exact h.elim
theorem xE {s:TypeId}{x:Operand}{k:Nat}{u:AV}(ho:o.op= .fieldAddr s x k)(hi:imp gd (Is P W0 o A x u))(h:oZ P s u k K): ∃v,K v∧imp gd (dd P W0 o A v):=by
 unfold oZ at h
 split at h
 ·obtain⟨⟨rfl,rfl,hst⟩,h⟩:=h
  split at h
  ·rename_i ts hts
   split at h
   ·rename_i y ty hy hty
    exact⟨_,h,hi.map λhx=>(qC ho hx (wL hst) hts hy hty).pure⟩
   ·exact h.elim
  ·exact h.elim
 ·obtain⟨⟨rfl,hst⟩,h⟩:=h
  split at h
  ·rename_i ts hts
   split at h
   ·rename_i ty hty
    exact⟨_,h,hi.map λhx=>(pQ ho hx hst hts hty).pure⟩
   ·exact h.elim
  ·exact h.elim
 ·exact h.elim
theorem rD {t:TypeId}{x ix:Operand}{u v:AV}(ho:o.op= .indexAddr t x ix)(hi:imp gd (Is P W0 o A x u))(hj:imp gd (Is P W0 o A ix v))(h:jM P gd A.st t u v K): ∃v,K v∧imp gd (dd P W0 o A v):=by
 unfold jM at h
 split at h
 ·split at h
  ·obtain⟨⟨h1,h2⟩,h3,h4,h5⟩:=h
   exact⟨_,h5,imp.qx (λhx hy h3=>(qo ho hx hy h1 h2 h3.1 h3.2 h4).pure) hi hj h3⟩
  ·obtain⟨⟨rfl,h1⟩,h⟩:=h
   obtain⟨e,he⟩:=Option.isSome_iff_exists.1 h1
   split at h
   ·rename_i ts hts
    rw[he]at h
    exact⟨_,h.2,imp.qx (λhx hy h3=>(oO ho hx hy he hts h3.1 h3.2).pure) hi hj h.1⟩
   ·exact h.elim
  ·obtain⟨⟨rfl,rfl,h1,h2⟩,h3,h4⟩:=h
   obtain⟨e,he⟩:=Option.isSome_iff_exists.1 h1
   obtain⟨ts,hts⟩:=Option.isSome_iff_exists.1 h2
   rw[he]at h4
   exact⟨_,h4,imp.qx (λhx hy h3=>(pF ho hx hy he hts h3.1 (by simp[List.getElem?_eq_getElem h3.2])).pure) hi hj h3⟩
  ·split at h
   ·rename_i e xs hl
    obtain⟨⟨h1,h2⟩,h3,h4⟩:=h
    exact⟨_,h4,imp.qx (λhx hy h3=>(oR ho hx hl hy h1 h2 h3.1 (by simp[List.getElem?_eq_getElem h3.2])).pure) hi hj h3⟩
   ·exact h.elim
 ·exact h.elim
theorem Ac {t:TypeId}{x ix:Operand}{u v:AV}(ho:o.op= .index t x ix)(hi:imp gd (Is P W0 o A x u))(hj:imp gd (Is P W0 o A ix v))(h:wQ P gd t u v K): ∃v,K v∧imp gd (dd P W0 o A v):=by
 unfold wQ at h
 split at h
 ·obtain⟨h1,h2,h3⟩:=h
  exact⟨_,h3,imp.qx (λhx hy h2=>(xg ho hx hy (eE h1) h2.1 (by simp[List.getElem?_eq_getElem h2.2])).pure) hi hj h2⟩
 ·obtain⟨⟨rfl,h1,h2⟩,h3,h4⟩:=h
  obtain⟨e,he⟩:=Option.isSome_iff_exists.1 h1
  obtain⟨ts,hts⟩:=Option.isSome_iff_exists.1 h2
  exact⟨_,h4,imp.qx (λhx hy h3=>(wH ho hx hy he hts h3.1 (by simp[List.getElem?_eq_getElem h3.2])).pure) hi hj h3⟩
 ·exact h.elim
theorem ym {t:TypeId}{x:Operand}{lo hi:Option Operand}{u:AV}(ho:o.op= .slice t x lo hi none)(hlo: ∀y,lo=some y→y∈o.op.operands)(hhi: ∀y,hi=some y→y∈o.op.operands)(hi':imp gd (Is P W0 o A x u))(h:r6 P gd A t u lo hi K): ∃v,K v∧imp gd (dd P W0 o A v):=by
 unfold r6 at h
 split at h
 ·obtain⟨h1,h⟩:=h
  obtain⟨p,h,hp⟩:=dV (P:=P) (W0:=W0) hlo h
  obtain⟨q,h,hq⟩:=dV (P:=P) (W0:=W0) hhi h
  exact⟨_,h.2,imp.qx (λhx hpq hb=>(xo ho hx (eE h1) hpq.1 hpq.2 hb.1 hb.2).pure) hi' (imp.yS And.intro hp hq) h.1⟩
 ·obtain⟨⟨h1,h2⟩,h⟩:=h
  obtain⟨p,h,hp⟩:=dV (P:=P) (W0:=W0) hlo h
  obtain⟨q,h,hq⟩:=dV (P:=P) (W0:=W0) hhi h
  exact⟨_,h.2,imp.qx (λhx hpq hb=>(xk ho hx h1 h2 hpq.1 hpq.2 hb.1 hb.2).pure) hi' (imp.yS And.intro hp hq) h.1⟩
 ·split at h
  ·rename_i e he
   obtain⟨h1,h⟩:=h
   obtain⟨p,h,hp⟩:=dV (P:=P) (W0:=W0) hlo h
   obtain⟨q,h,hq⟩:=dV (P:=P) (W0:=W0) hhi h
   exact⟨_,h.2,imp.qx (λhx hpq hb=>by
    obtain⟨rfl,rfl⟩:=hb
    exact(uk ho hx he h1 hpq.1 hpq.2).pure) hi' (imp.yS And.intro hp hq) h.1⟩
  ·exact h.elim
 ·split at h
  ·rename_i e xs hl
   obtain⟨⟨h1,h2⟩,h⟩:=h
   obtain⟨p,h,hp⟩:=dV (P:=P) (W0:=W0) hlo h
   obtain⟨q,h,hq⟩:=dV (P:=P) (W0:=W0) hhi h
   exact⟨_,h.2,imp.qx (λhx hpq hb=>(uh ho hx hl h1 h2 hpq.1 hpq.2 hb.1 hb.2).pure) hi' (imp.yS And.intro hp hq) h.1⟩
  ·exact h.elim
theorem uF {ts:List TypeId}{ps:List (Nat×AV)}(h:mJ P ts ps=true):sK P ts ps:=λp hp=>by
 have:=List.all_eq_true.1 h p hp
 split at this
 ·rename_i ty hty
  exact⟨ty,hty,eU this⟩
 ·cases this
theorem Ad {t:TypeId}{ps:Array (Nat×Operand)}{qs:List (Nat×AV)}(ho:o.op= .build t ps)(hi:imp gd (jC P W0 o A ps.toList qs))(h:r8 P t qs K): ∃v,K v∧imp gd (dd P W0 o A v):=by
 unfold r8 at h
 split at h
 ·rename_i ts t' fs hts hz
  obtain⟨⟨rfl,h2⟩,h3⟩:=h
  exact⟨_,h3,hi.map λhq=>(Gf ho hts hz hq (uF h2)).pure⟩
 ·exact h.elim
theorem qI {t:TypeId}{m:Nat}{ps:Array (Nat×Operand)}{qs:List (Nat×AV)}(ho:o.op= .buildSlice t m ps)(hi:imp gd (jC P W0 o A ps.toList qs))(h:iM P t m qs K): ∃v,K v∧imp gd (dd P W0 o A v):=by
 unfold iM at h
 split at h
 ·rename_i e he
  obtain⟨⟨h1,h2,h3,h4,h5⟩,h6⟩:=h
  exact⟨_,h6,hi.map λhq=>(uu ho he h1 h2 h3 hq h4 (λp hp=>eU (List.all_eq_true.1 h5 p hp))).pure⟩
 ·exact h.elim
theorem gD {xs:Array Operand}{u:AV}(h:IsL P W0 o A xs.toList [u]): ∃x,xs= #[x]∧Is P W0 o A x u:=by
 obtain⟨l⟩:=xs
 obtain⟨h1,h2⟩:=h
 match l,h1 with
 |[x],_=>exact⟨x,rfl,h2 0 x u rfl rfl⟩
theorem oh {xs:Array Operand}{u v:AV}(h:IsL P W0 o A xs.toList [u,v]): ∃x y,xs= #[x,y]∧Is P W0 o A x u∧Is P W0 o A y v:=by
 obtain⟨l⟩:=xs
 obtain⟨h1,h2⟩:=h
 match l,h1 with
 |[x,y],_=>exact⟨x,y,rfl,h2 0 x u rfl rfl,h2 1 y v rfl rfl⟩
theorem uy (hr:fJ P W0 o w C A a){b:Builtin}{xs:Array Operand}{ts:Array TypeId}{us:List AV}(ho:o.op= .call { callee:=.builtin b,args:=xs,argTypes:=ts })
  (hi:imp gd (IsL P W0 o A xs.toList us)) (h:mT P gd b ts.toList us K): ∃v,K v∧imp gd (dd P W0 o A v):=by
 unfold mT at h
 split at h
 ·split at h
  ·rename_i t hts
   obtain rfl:ts= #[t]:=by rw[←Array.toArray_toList (xs:=ts),hts]
   split at h
   ·rename_i l
    obtain⟨h1,h2⟩:=h
    refine⟨_,h2 (hi.map λhq=>?_),hi.map λhq=>?_⟩
    ·obtain⟨x,rfl,hx⟩:=gD hq
     exact(hx w C a hr).gE.2
    ·obtain⟨x,rfl,hx⟩:=gD hq
     exact(AL ho hx (eE h1)).pure
   ·split at h
    ·rename_i m hl
     obtain⟨h1,h2⟩:=h
     refine⟨_,h2 (hi.map λhq=>?_),hi.map λhq=>?_⟩
     ·obtain⟨x,rfl,hx⟩:=gD hq
      exact O3 (hx w C a hr) hl
     ·obtain⟨x,rfl,hx⟩:=gD hq
      exact(O7 ho hx hl h1).pure
    ·exact h.elim
  ·exact h.elim
 ·split at h
  ·rename_i t hts
   obtain rfl:ts= #[t]:=by rw[←Array.toArray_toList (xs:=ts),hts]
   split at h
   ·obtain⟨h1,h2⟩:=h
    refine⟨_,h2,hi.map λhq=>?_⟩
    obtain⟨x,rfl,hx⟩:=gD hq
    exact(zN ho hx h1).pure
   ·exact h.elim
  ·exact h.elim
 ·split at h
  ·obtain⟨rfl,h⟩:=h
   refine⟨_,h,hi.map λhq=>?_⟩
   obtain⟨x,y,rfl,hx,hy⟩:=oh hq
   exact(N5 ho hx hy).pure
  ·exact h.elim
 ·split at h
  ·obtain⟨rfl,h⟩:=h
   refine⟨_,h,hi.map λhq=>?_⟩
   obtain⟨x,y,rfl,hx,hy⟩:=oh hq
   exact(N3 ho hx hy).pure
  ·exact h.elim
 ·exact h.elim
theorem JO {x:Operand}{xs:Array Operand}{ts:Array TypeId}{g:FuncId}{cv:List Value}{next:Act→World→Prop}{Q:Exit→Act→World→Prop}{R:Ending→World→Prop}
  (ho:o.op= .call { callee:=.value x,args:=xs,argTypes:=ts })
  (e1:a.eval x= .func (.func g) #[] cv.toArray) (hc:DO P g (xs.toList.map a.eval++cv).toArray w R) (hR: ∀e w',R e w'→ ∃v,e= .returned v∧next (a.put o.dst v) w'):o.wp P a w next Q:=by
 have hargs:(Array.map a.eval xs)++cv.toArray=(xs.toList.map a.eval++cv).toArray:=by
  apply Array.toList_inj.1
  simp
 rcases hc with⟨⟨fn,h1,h2,h3⟩,hc⟩|⟨v,w',hc,hq⟩
 case inr=>
  have hrun:(execOp a.eval o).run P w= .ok (.value v) w':=by
   simp only[execOp,ho,resolve,e1,Deferred.ofValue,invoke,Sem.run_bind,Sem.run_pure,Result.andThen_ok,Array.empty_append]
   rw[hargs]
   exact hc
  obtain⟨v',e,hn⟩:=hR _ _ hq
  cases e
  unfold Oper.wp
  rw[hrun]
  exact hn
 have hrun:(execOp a.eval o).run P w= .ok (.enter g (xs.toList.map a.eval++cv).toArray) w:=by
  have hb:fn.body.isNone=false:=by cases hb:fn.body<;>simp_all
  have hp:(program).run P w= .ok P w:=rfl
  simp only[execOp,ho,resolve,e1,Deferred.ofValue,invoke,callFunc,Sem.run_bind,Sem.run_pure,Result.andThen_ok,hp,h1,h3,hb,Bool.false_eq_true,if_false,Array.empty_append]
  rw[hargs]
 unfold Oper.wp
 rw[hrun,Oper.upon_enter]
 refine hc.mono λe w' hw=>?_
 obtain⟨v,rfl,hn⟩:=hR e w' hw
 exact hn
theorem Nq {g:FuncId}{caps:List AV}{v:Value}(h:aF P w C (.fn g caps) v): ∃cv:List Value,v= .func (.func g) #[] cv.toArray∧caps.length=cv.length∧ ∀(i:Nat) (c:AV) (v:Value),caps[i]?=some c→cv[i]?=some v→aF P w C c v:=by
 have:=h.aP rfl
 cases this with
 |fn g1 g2 g3=>exact⟨_,rfl,g1,λi c v hc hv=>.one (g2 i c hc) (g3 i c v hc hv)⟩
theorem zl (hr:fJ P W0 o w C A a){x:Operand}{xs:Array Operand}{ts:Array TypeId}{g:FuncId}{caps us:List AV}{R:AV→ab→Prop}(ho:o.op= .call { callee:=.value x,args:=xs,argTypes:=ts })
  (hx:Is P W0 o A x (.fn g caps)) (hu:IsL P W0 o A xs.toList us) (hc:aY P W0 g (us++caps) A.st R) {next:Act→World→Prop} {Q:Exit→Act→World→Prop}
  (hn: ∀v r σ' w' C',R r σ'→aB P W0 w' C' σ'→aF P w' C' r v→Step w C w' C'→next (a.put o.dst v) w'):o.wp P a w next Q:=by
 obtain⟨cv,e1,e2,e3⟩:=Nq (hx w C a hr)
 have hl:(us++caps).length=(xs.toList.map a.eval++cv).length:=by simp[←hu.1,e2]
 refine JO ho e1 (hc w C _ hr.st hl (λi c v hc' hv=>?_)) (λe w' he=>?_)
 ·by_cases hi:i<us.length
  ·rw[List.getElem?_append_left hi]at hc'
   rw[List.getElem?_append_left (by simpa[hu.1]using hi)]at hv
   simp only[List.getElem?_map,Option.map_eq_some_iff]at hv
   obtain⟨y,hy,rfl⟩:=hv
   exact hu.2 i y c hy hc' w C a hr
  ·rw[List.getElem?_append_right (by omega)]at hc'
   rw[List.getElem?_append_right (by simp only[List.length_map];rw[hu.1];omega)]at hv
   simp only[List.length_map,hu.1]at hv
   exact e3 _ c v hc' hv
 ·obtain⟨v,r,σ',C',rfl,g1,g2,g3,g4⟩:=he
  exact⟨v,rfl,hn v r σ' w' C' g1 g2 g3 g4⟩
theorem Bg {x:Operand}{xs:Array Operand}{ts:Array TypeId}{f:AV}{us:List AV}(ho:o.op= .call { callee:=.value x,args:=xs,argTypes:=ts })
  (hx:imp gd (Is P W0 o A x f)) (hu:imp gd (IsL P W0 o A xs.toList us)) (h:jv P W0 gd (some A.st) f us K): ∃v,K v∧imp gd (dd P W0 o A v):=by
 unfold jv at h
 split at h
 ·obtain⟨r,h1,h2⟩:=h
  refine⟨r,h2,imp.qx (λhx hu h1 w C a hr next Q hn=>zl hr ho hx hu h1 λv r' σ' w' C' hR g2 g3 g4=>?_) hx hu h1⟩
  obtain⟨rfl,rfl⟩:=hR
  have hC:=Ho hr.st g2 g4
  subst hC
  exact hn v w' g3 g4 g2
 ·exact h.elim
theorem fE (hr:fJ P W0 o w C A a)(h:je P W0 gd o.op A K): ∃v,K v∧imp gd (dd P W0 o A v):=by
 generalize ho:o.op=op at h
 cases op<;>simp only[je]at h
 case move x=>exact sk (.inl ho) (by simp[ho,Op.operands]) h
 case assign x=>exact sk (.inr ho) (by simp[ho,Op.operands]) h
 case pick c x y=>
  obtain⟨cv,h,hc⟩:=aW (P:=P) (W0:=W0) (o:=o) (by simp[ho,Op.operands]) h
  split at h
  ·obtain⟨u,h,hu⟩:=pj (P:=P) (W0:=W0) (o:=o) (by simp[ho,Op.operands]) h
   obtain⟨v,h,hv⟩:=pj (P:=P) (W0:=W0) (o:=o) (by simp[ho,Op.operands]) h
   exact⟨_,h,imp.qx (λhc hu hv=>(Kd ho hc hu (λe=>hv (by simp[e]))).pure) hc hu hv⟩
  ·exact h.elim
 case binOp op t x y t'=>
  obtain⟨u,h,hu⟩:=aW (P:=P) (W0:=W0) (o:=o) (by simp[ho,Op.operands]) h
  obtain⟨v,h,hv⟩:=aW (P:=P) (W0:=W0) (o:=o) (by simp[ho,Op.operands]) h
  unfold Fy at h
  split at h
  ·rename_i z hz
   exact⟨z,h,imp.yS (λhu hv=>(Fz ho hu hv hz).pure) hu hv⟩
  ·exact h.elim
 case unOp op t x=>
  obtain⟨u,h,hu⟩:=aW (P:=P) (W0:=W0) (o:=o) (by simp[ho,Op.operands]) h
  unfold UY at h
  split at h
  ·exact⟨_,h,hu.map λhu=>(NT ho hu).pure⟩
  ·exact⟨_,h,hu.map λhu=>(NS ho hu).pure⟩
  ·exact h.elim
 case load t x=>
  obtain⟨u,h,hu⟩:=aW (P:=P) (W0:=W0) (o:=o) (by simp[ho,Op.operands]) h
  exact Ar ho hu h
 case fieldAddr s x k=>
  obtain⟨u,h,hu⟩:=aW (P:=P) (W0:=W0) (o:=o) (by simp[ho,Op.operands]) h
  exact xE ho hu h
 case indexAddr t x ix=>
  obtain⟨u,h,hu⟩:=aW (P:=P) (W0:=W0) (o:=o) (by simp[ho,Op.operands]) h
  obtain⟨v,h,hv⟩:=aW (P:=P) (W0:=W0) (o:=o) (by simp[ho,Op.operands]) h
  exact rD ho hu hv h
 case index t x ix=>
  obtain⟨u,h,hu⟩:=aW (P:=P) (W0:=W0) (o:=o) (by simp[ho,Op.operands]) h
  obtain⟨v,h,hv⟩:=aW (P:=P) (W0:=W0) (o:=o) (by simp[ho,Op.operands]) h
  exact Ac ho hu hv h
 case field s x k=>
  obtain⟨u,h1,hu⟩:=aW (P:=P) (W0:=W0) (o:=o) (by simp[ho,Op.operands]) h
  unfold Of at h1
  split at h1
  ·split at h1
   ·rename_i ts hts
    split at h1
    ·rename_i ty y hty hy
     obtain⟨⟨rfl,hst⟩,h2⟩:=h1
     exact⟨_,h2,hu.map λhx=>(D9 ho hx hst hts hy hty).pure⟩
    ·exact h1.elim
   ·exact h1.elim
  ·exact h1.elim
 case extract x k=>
  obtain⟨u,h,hu⟩:=aW (P:=P) (W0:=W0) (o:=o) (by simp[ho,Op.operands]) h
  unfold qK at h
  split at h
  ·split at h
   ·rename_i v hv
    exact⟨v,h,hu.map λhu=>(BE ho hu hv).pure⟩
   ·exact h.elim
  ·exact h.elim
 case nilCheck x=>
  obtain⟨u,h,hu⟩:=aW (P:=P) (W0:=W0) (o:=o) (by simp[ho,Op.operands]) h
  exact⟨u,h.2,hu.map λhu=>(xR ho hu h.1).pure⟩
 case makeInterface t x=>
  obtain⟨u,h,hu⟩:=aW (P:=P) (W0:=W0) (o:=o) (by simp[ho,Op.operands]) h
  exact⟨_,h.2,hu.map λhu=>(pY ho hu h.1.1 h.1.2).pure⟩
 case typeAssert x xt d ok=>
  obtain⟨u,h,hu⟩:=aW (P:=P) (W0:=W0) (o:=o) (by simp[ho,Op.operands]) h
  exact⟨_,h.2,hu.map λhu=>(uq ho hu h.1).pure⟩
 case convert s d x=>
  obtain⟨u,h,hu⟩:=aW (P:=P) (W0:=W0) (o:=o) (by simp[ho,Op.operands]) h
  unfold mS at h
  split at h
  ·split at h
   ·rename_i k1 k2 hs hd
    exact⟨_,h,hu.map λhu=>(Bw ho hu (by simp[oQ hs]) (oQ hd)).pure⟩
   ·rename_i k1 hs hd
    exact⟨_,h.2,hu.map λhu=>(rA ho hu (by simp[oQ hs]) (eE h.1)).pure⟩
   ·exact h.elim
  ·exact⟨_,h.2,hu.map λhu=>(rz ho hu (eE h.1.1) (eE h.1.2)).pure⟩
  ·split at h
   ·rename_i e xs hl
    obtain⟨⟨g1,g2,g3,g4,g5⟩,h⟩:=h
    rw[tt g5]at hl
    exact⟨_,h,hu.map λhu=>(qp ho hu hl (cr g1) (oQ g2) g3 (eE g4)).pure⟩
   ·exact h.elim
 case makeFunc fn first caps=>
  split at h
  ·rename_i f
   obtain⟨h1,h⟩:=h
   obtain rfl:first= #[]:=by rw[←Array.toArray_toList (xs:=first),h1]
   obtain⟨us,h,hu⟩:=fW (P:=P) (W0:=W0) (o:=o) _ _ (λy hy=>by simp[ho,Op.operands];simp at hy;simp[hy]) h
   exact⟨_,h.2,hu.map λhu=>(xS ho hu h.1).pure⟩
  ·exact h.elim
 case slice t x lo hi mx=>
  obtain⟨rfl,h⟩:=h
  obtain⟨u,h,hu⟩:=aW (P:=P) (W0:=W0) (o:=o) (by simp[ho,Op.operands]) h
  exact ym ho (λy hy=>by simp[ho,Op.operands,hy]) (λy hy=>by simp[ho,Op.operands,hy]) hu h
 case lookup t x ix c=>
  cases c
  case true=>exact h.elim
  obtain⟨u,h,hu⟩:=aW (P:=P) (W0:=W0) (o:=o) (by simp[ho,Op.operands]) h
  obtain⟨v,h,hv⟩:=aW (P:=P) (W0:=W0) (o:=o) (by simp[ho,Op.operands]) h
  unfold BP at h
  split at h
  ·rename_i kt vt ht
   obtain⟨h1,h2,h3,h4⟩:=h
   split at h4
   ·rename_i l hl
    exact⟨_,h4,imp.qx (λhu hv h3=>(Eb ho hu hv ht h1 h2 h3 hl).pure) hu hv h3⟩
   ·exact h4.elim
  ·exact h.elim
 case box t x=>
  obtain⟨u,h,hu⟩:=aW (P:=P) (W0:=W0) (o:=o) (by simp[ho,Op.operands]) h
  exact⟨_,h.2,hu.map λhu=>(Gj ho hu (eU h.1)).pure⟩
 case build t ps=>
  obtain⟨qs,h,hq⟩:=gJ (P:=P) (W0:=W0) (o:=o) _ _ (λp hp=>by simp only[ho,Op.operands];exact List.mem_toArray.2 (List.mem_map_of_mem hp)) h
  exact Ad ho hq h
 case buildSlice t m ps=>
  obtain⟨qs,h,hq⟩:=gJ (P:=P) (W0:=W0) (o:=o) _ _ (λp hp=>by simp only[ho,Op.operands];exact List.mem_toArray.2 (List.mem_map_of_mem hp)) h
  exact qI ho hq h
 case call c=>
  obtain⟨callee,args,argTypes⟩:=c
  cases callee with
  |builtin b=>
   obtain⟨us,h,hu⟩:=fW (P:=P) (W0:=W0) (o:=o) _ _ (λy hy=>by simp[ho,Op.operands,Call.operands];simp at hy;simp[hy]) h
   exact uy hr ho hu h
  |value f=>
   obtain⟨fv,h,hf⟩:=aW (P:=P) (W0:=W0) (o:=o) (by simp[ho,Op.operands,Call.operands]) h
   obtain⟨us,h,hu⟩:=fW (P:=P) (W0:=W0) (o:=o) _ _ (λy hy=>by simp[ho,Op.operands,Call.operands];simp at hy;simp[hy]) h
   exact Bg ho hf hu h
  |invoke r m=>exact h.elim
end
end Go.Av
end
section
namespace Go.Av
open Go
def Ctx.push (C:Ctx)(ow:Own):Ctx:={ m:=λi=>if i=C.nx then some ow else C.m i,nx:=C.nx+1 }
def Ctx.kill (C:Ctx)(id:Nat):Ctx:={ m:=λi=>if i=id then none else C.m i,nx:=C.nx }
theorem qA (C:Ctx)(ow:Own)(i:Nat):(C.push ow).m i=if i=C.nx then some ow else C.m i:=rfl
theorem nu (C:Ctx)(id i:Nat):(C.kill id).m i=if i=id then none else C.m i:=rfl
theorem mE (C:Ctx)(id:Nat):(C.kill id).nx=C.nx:=rfl
def AV.setAt :AV→List Nat→AV→AV
 |_,[],v=>v
 | .agg t fs,k::r,v=>match fs[k]? with
  |some y=>.agg t (fs.set k (y.setAt r v))
  |none=>.agg t fs
 |x,_::_,_=>x
section
variable {P :Program}{W0 w w':World}{C C':Ctx}{σ σ':ab}{n:Nat}{A:aa}{a:Act}{o:Oper}
theorem pS (σ:ab)(o:Option cX)(i:Nat):((σ++[o])[i]?).join=if i=σ.length then o else(σ[i]?).join:=by
 by_cases h:i<σ.length
 ·rw[List.getElem?_append_left h,if_neg (by omega)]
 ·rw[List.getElem?_append_right (by omega)]
  by_cases h':i=σ.length
  ·subst h';simp
  ·rw[if_neg h',List.getElem?_eq_none (by simp;omega),List.getElem?_eq_none (by omega)]
theorem j8 (σ:ab)(o:Option cX)(id i:Nat)(h:id<σ.length):((σ.set id o)[i]?).join=if i=id then o else(σ[i]?).join:=by
 by_cases h':i=id
 ·subst h';simp[h]
 ·rw[List.getElem?_set_ne (Ne.symm h'),if_neg h']
theorem mA (ob:Obj){ow:Own}(hb:ow.blk=w.heap.size):Step w C (w.alloc ob) (C.push ow):=by
 refine⟨Nat.le_succ _,λid x hid hm=>?_,λb i hst=>⟨World.cell?_alloc_lt w ob ⟨b,i,none⟩ hst.1,by simp[Nat.lt_succ_of_lt hst.1],λid x hm he=>?_⟩,rfl,rfl,rfl,by simp,λb hlt hn=>⟨RowKit.Below.heap_alloc w ob b hlt,λid x hm=>?_⟩⟩
 ·simp only[Ctx.push]at hm
  rw[if_neg (by omega)]at hm
  exact hm
 ·simp only[Ctx.push]at hm
  split at hm
  ·cases hm;rw[hb]at he;have:=hst.1;omega
  ·exact hst.2 id x hm he
 ·simp only[Ctx.push]at hm
  split at hm
  ·cases hm;rw[hb];omega
  ·exact hn id x hm
theorem aB.push (h:aB P W0 w C σ){ob:Obj}{ow:Own}{so:cX}(hb:ow.blk=w.heap.size)(hobj:fM P (w.alloc ob) (C.push ow) (some so) (some ow)):
  Step w C (w.alloc ob) (C.push ow)∧aB P W0 (w.alloc ob) (C.push ow) (σ++[some so]):=by
 have hs:Step w C (w.alloc ob) (C.push ow):=mA ob hb
 refine⟨hs,h.change hs (λi x hm=>?_) (by simp[Ctx.push,h.nx]) (λi j x y hi hj he=>?_) (λi x hm=>?_) (λi=>?_)⟩
 ·simp only[Ctx.push]at hm
  split at hm
  ·cases hm;rw[hb];exact h.base.size
  ·exact h.low i x hm
 ·simp only[Ctx.push]at hi hj
  split at hi
  ·split at hj
   ·omega
   ·cases hi;have:=h.lt hj;omega
  ·split at hj
   ·cases hj;have:=h.lt hi;omega
   ·exact h.inj i j x y hi hj he
 ·simp only[Ctx.push]at hm ⊢
  split at hm
  ·omega
  ·have:=h.dom i x hm;omega
 ·rw[pS]
  simp only[Ctx.push]
  by_cases hi:i=σ.length
  ·left
   rw[if_pos hi,if_pos (by rw[h.nx];exact hi)]
   exact hobj
  ·right
   rw[if_neg hi,if_neg (by rw[h.nx];exact hi)]
   exact⟨rfl,rfl,λx hx=>RowKit.Below.heap_alloc w ob _ (h.lt hx)⟩
theorem aB.kill (h:aB P W0 w C σ)(id:Nat)(hid:id<σ.length):Step w C w (C.kill id)∧aB P W0 w (C.kill id) (σ.set id none):=by
 have hsub: ∀i x,(C.kill id).m i=some x→C.m i=some x:=λi x hm=>by
  simp only[Ctx.kill]at hm
  split at hm
  ·cases hm
  ·exact hm
 have hs:Step w C w (C.kill id):=
  ⟨Nat.le_refl _,λi x _ hm=>hsub i x hm,λb i hst=>⟨rfl,hst.1,λj x hm he=>hst.2 j x (hsub j x hm) he⟩,rfl,rfl,rfl,Nat.le_refl _,λb _ hn=>⟨rfl,λj x hm=>hn j x (hsub j x hm)⟩⟩
 refine⟨hs,h.change hs (λi x hm=>h.low i x (hsub i x hm)) (by simp[Ctx.kill,h.nx]) (λi j x y hi hj he=>h.inj i j x y (hsub i x hi) (hsub j y hj) he) (λi x hm=>h.dom i x (hsub i x hm)) (λi=>?_)⟩
 rw[j8 _ _ _ _ hid]
 by_cases hi:i=id
 ·left;subst hi;simp[Ctx.kill,fM]
 ·right
  rw[if_neg hi]
  exact⟨rfl,by simp[Ctx.kill,hi],λ_ _=>rfl⟩
theorem re {id b base room:Nat}{te:TypeId}(hm:C.m id=some (.obj b te base room))(arr:Array Value):Step w C (w.setRow b arr) C:=by
 refine⟨Nat.le_refl _,λ_ _ _ hm=>hm,λb' i hst=>?_,rfl,rfl,rfl,by simp,λb' hlt hn=>⟨setRow_other w b b' arr (λe=>hn id _ hm (by simp[Own.blk,e])),hn⟩⟩
 have hne:b'≠b:=λe=>by
  obtain⟨_,_,_,e1,_⟩:=hst.2 id _ hm (by simp[Own.blk,e])
  cases e1
 exact⟨cell_setRow_other w b arr ⟨b',i,none⟩ hne,by simpa using hst.1,hst.2⟩
theorem AJ (arr:Array Value)(off:Nat)(c:List Value)(h:c.length=arr.size)(h0:off=0):bz arr off c=c.toArray:=by
 subst h0
 simp only[bz,List.take_zero,List.nil_append,Nat.zero_add]
 rw[List.drop_of_length_le (by simp[h])]
 simp
theorem Ef {arr:Array Value}{o1 o2:Nat}{c1 c:List Value}(h1:o1+c1.length≤arr.size)(h2:o2+c.length≤c1.length)(hat: ∀(j:Nat)(u:Value),c1[j]?=some u→arr[o1+j]?=some u):
  bz arr o1 (bz c1.toArray o2 c).toList=bz arr (o1+o2) c:=by
 have hsz:=dw (arr:=c1.toArray) (off:=o2) (l:=c) (by simpa using h2)
 have hl:(bz c1.toArray o2 c).toList.length=c1.length:=by simpa using hsz
 apply Array.ext_getElem?
 intro p
 rw[bC (by rw[hl];exact h1),bC (by omega),hl]
 by_cases g1:o1≤p∧p<o1+c1.length
 ·rw[if_pos g1,Array.getElem?_toList,bC (by simpa using h2)]
  by_cases g2:o2≤p-o1∧p-o1<o2+c.length
  ·rw[if_pos g2,if_pos (by omega),show p-o1-o2=p-(o1+o2) by omega]
  ·rw[if_neg g2,if_neg (by omega)]
   have hlt:p-o1<c1.length:=by omega
   have:=hat (p-o1) _ (List.getElem?_eq_getElem hlt)
   rw[show o1+(p-o1)=p by omega]at this
   rw[this,List.getElem?_toArray,List.getElem?_eq_getElem hlt]
 ·rw[if_neg g1,if_neg (by omega)]
theorem p0 : ∀(path:List Nat) (te t:TypeId) (off:Nat) (x v y:AV) (cs c:List Value),Rel P w C x cs→fits P te x→place P te path=some (t,off)→x.at path=some y→Rel P w C v c→fits P t v→
  off+c.length≤cs.length∧Rel P w C (x.setAt path v) (bz cs.toArray off c).toList∧fits P te (x.setAt path v)
 |[],te,t,off,x,v,y,cs,c,hr,hf,hp,hx,hv,hfv=>by
  simp only[place,Option.some.injEq,Prod.mk.injEq]at hp
  obtain⟨rfl,rfl⟩:=hp
  have hl:c.length=cs.length:=by rw[hv.bu hfv,hr.bu hf]
  have e:x.setAt [] v=v:=by cases x<;>rfl
  rw[e,AJ _ _ _ (by simpa using hl) rfl]
  exact⟨by omega,by simpa using hv,hfv⟩
 |k::r,te,t,off,x,v,y,cs,c,hr,hf,hp,hx,hv,hfv=>by
  cases x with
  |agg t' fs=>
   simp only[AV.at]at hx
   obtain⟨z,hz,hzv⟩:=Option.bind_eq_some_iff.1 hx
   obtain⟨rfl,hfs⟩:=hf
   simp only[place]at hp
   obtain⟨ts,hts,hp⟩:=Option.bind_eq_some_iff.1 hp
   obtain⟨ty,hty,hp'⟩:=Option.bind_eq_some_iff.1 hp
   simp only[Option.map_eq_some_iff,Prod.mk.injEq,Prod.exists]at hp'
   obtain⟨t1,o1,hpl,rfl,rfl⟩:=hp'
   obtain⟨c1,r1,r2,r3,r4⟩:=hr.part hts hz hty
   obtain⟨g1,g2,g3⟩:=p0 r ty t1 o1 z v y c1 c r1 r3 hpl hzv hv hfv
   have hlen2:(bz c1.toArray o1 c).toList.length=c1.length:=by
    have:=dw (arr:=c1.toArray) (off:=o1) (l:=c) (by simpa using g1)
    simpa using this
   obtain⟨s1,s2⟩:=(hr.parts hts).set hty g2 g3
   rw[hlen2]at s1
   have hin:=Ef (arr:=cs.toArray) (o1:=ba P ts k) (o2:=o1) (c1:=c1) (c:=c) (by simpa using s1) g1 (λj u hj=>by simpa using r4 j u hj)
   rw[hin]at s2
   have hset:(AV.agg t' fs).setAt (k::r) v= .agg t' (fs.set k (z.setAt r v)):=by simp[AV.setAt,hz]
   rw[hset]
   exact⟨by omega,s2.rel hts,rfl,hfs⟩
  |_=>simp[AV.at]at hx
theorem eg (P:Program)(g o:Nat)(t:TypeId)(fz:Nat×Nat): ∀(vs:List Value) (i:Nat) (cur:Array Value) (w:World),w.heap[g]?=some (.cells cur t fz)→wG fz cur.size→o+i+vs.length≤cur.size→(∀v∈vs,v.oneCell'=true)→
  (storeCells ⟨g,o,none⟩ vs i).run P w= .ok () (w.setRow g (cur.toList.take (o+i)++vs++cur.toList.drop (o+i+vs.length)).toArray)
 |[],i,cur,w,hg,_,_,_=>by
  simp only[storeCells,List.append_nil,List.length_nil,Nat.add_zero,List.take_append_drop,Array.toArray_toList]
  rw[setRow_self w g cur t fz hg]
  rfl
 |v::rest,i,cur,w,hg,hfz,hl,h1=>by
  have hi:o+i<cur.size:=by simp at hl;omega
  have hadd:(⟨g,o,none⟩:Addr).add i=⟨g,o+i,none⟩:=by unfold Addr.add;split<;>simp_all
  have hcell:w.cell? ⟨g,o+i,none⟩=some cur[o+i]:=by simp[World.cell?,hg,hi]
  have hfro:w.frozen? ⟨g,o+i,none⟩=false:=by
   obtain⟨lo,hi'⟩:=fz
   simp only[World.frozen?,hg,Bool.and_eq_false_iff,decide_eq_false_iff_not]
   rcases hfz with e|e
   ·cases e;right;omega
   ·left;simp only at e;omega
  have hst:(store ((⟨g,o,none⟩:Addr).add i) v).run P w= .ok () (w.setRow g (cur.setIfInBounds (o+i) v)):=by
   rw[hadd,run_store P w _ v _ (h1 v (by simp)),hcell]
   simp[hfro,setCell_eq_setRow w g (o+i) cur t fz v hg]
  have ih:=eg P g o t fz rest (i+1) (cur.setIfInBounds (o+i) v) (w.setRow g (cur.setIfInBounds (o+i) v)) (setRow_heap w g cur _ t _ hg) (by simpa using hfz) (by simp at hl ⊢;omega) (λx hx=>h1 x (by simp[hx]))
  simp only[storeCells,Sem.run_bind,hst,Result.andThen_ok,ih,setRow_setRow]
  congr 3
  have e:=list_seg_step cur.toList (o+i) v rest (by simp at hl ⊢;omega)
  simpa[Array.toList_setIfInBounds,Nat.add_assoc]using e
theorem qH (hr:fJ P W0 o w C A a){t:TypeId}{x y:Operand}{id i:Nat}{path:List Nat}{u v:AV}(ho:o.op= .store t x y)(hx:Is P W0 o A x (.ptr t id i path))(hy:Is P W0 o A y v)
  (hl:look A.st id i path=some u) (hf:fits P t v) {te:TypeId} {xs:List AV} {z:AV} (hs:A.st[id]?=some (some (.cells te xs))) (hz:xs[i]?=some z):
  ∃w',(execOp a.eval o).run P w= .ok .skip w'∧Step w C w' C∧aB P W0 w' C (A.st.set id (some (.cells te (xs.set i (z.setAt path v))))):=by
 obtain⟨ad,hv,hid,hm⟩:=(hx w C a hr).mH
 obtain⟨te',xs',z',hs',hz',hzv⟩:=pB hl
 rw[hs]at hs'
 cases hs'
 rw[hz]at hz'
 cases hz'
 obtain⟨b,base,room,arr,t',fr,m1,m2,mf,m3,m4,cf,m5⟩:=hr.st.cells hs
 obtain⟨b',te',base',room',off,e1,e2,rfl⟩:=hm _ m1
 cases e1
 obtain⟨r1,r2,r3,r4⟩:=m5 i z hz
 have hyv:=hy w C a hr
 have hc:=hyv.cells hf
 obtain⟨g1,g2,g3⟩:=p0 path te t off z v u (cf i) _ r1 r3 e2 hzv hc hf
 have hi:i<xs.length:=(List.getElem?_eq_some_iff.1 hz).1
 have hcl:(a.eval y).cells.size=af P t:=by have:=hc.bu hf;simpa using this
 have hend:base+i*af P te+af P te≤arr.size:=by
  rw[m3,Nat.add_assoc,←Nat.succ_mul]
  exact Nat.le_trans (Nat.add_le_add_left (Nat.mul_le_mul_right _ hi) _) m4
 have hoff:off+(a.eval y).cells.toList.length≤af P te:=by rw[←r2];exact g1
 have hfit:base+i*af P te+off+0+(a.eval y).cells.toList.length≤arr.size:=by omega
 have hst:=eg P b (base+i*af P te+off) t' fr (a.eval y).cells.toList 0 arr w m2 mf hfit hc.ky
 simp only[Nat.add_zero]at hst hfit
 have hpos:0<af P t:=by
  cases v<;>simp only[fits,AV.aX,Bool.false_eq_true,false_and]at hf
  case agg t1 fs=>
   obtain⟨ts,hts⟩:=Option.isSome_iff_exists.1 hf.2
   exact mh hts
  all_goals rw[(gI hf.2 default).2];omega
 obtain⟨inf,hinf,hsz⟩:=bJ hpos
 have hstep:=re (w:=w) m1 (bz arr (base+i*af P te+off) (a.eval y).cells.toList)
 refine⟨_,?_,hstep,?_⟩
 ·have e:bz arr (base+i*af P te+off) (a.eval y).cells.toList=(arr.toList.take (base+i*af P te+off)++(a.eval y).cells.toList++arr.toList.drop (base+i*af P te+off+(a.eval y).cells.toList.length)).toArray:=rfl
  rw[e]
  simp[execOp,ho,Instr.storeAt,Instr.sureAddr,hv,storeVar,sizeOf,typeInfo,hinf,hsz,hcl,hst]
 ·have hidl:id<A.st.length:=(List.getElem?_eq_some_iff.1 hs).1
  refine hr.st.change hstep hr.st.low (by simpa using hr.st.nx) hr.st.inj hr.st.dom (λj=>?_)
  rw[j8 _ _ _ _ hidl]
  by_cases hj:j=id
  ·left
   subst hj
   rw[if_pos rfl,m1]
   have hsize:(bz arr (base+i*af P te+off) (a.eval y).cells.toList).size=arr.size:=dw hfit
   refine⟨rfl,_,t',fr,setRow_heap w b arr _ t' _ m2,by rw[hsize];exact mf,by rw[hsize,m3],by simpa using m4,λq=>if q=i then(bz (cf i).toArray off (a.eval y).cells.toList).toList else cf q,λq zq hq=>?_⟩
   by_cases hqi:q=i
   ·subst hqi
    simp only[List.getElem?_set_self hi,Option.some.injEq]at hq
    subst hq
    simp only[if_true]
    have hl2:(bz (cf q).toArray off (a.eval y).cells.toList).toList.length=af P te:=(g2.mono hstep).bu g3
    refine⟨g2.mono hstep,hl2,g3,λj c hj=>?_⟩
    have hjl:j<af P te:=by rw[←hl2];exact(List.getElem?_eq_some_iff.1 hj).1
    rw[Array.getElem?_toList,bC (by simpa using g1)]at hj
    rw[bC hfit]
    by_cases hin:off≤j∧j<off+(a.eval y).cells.toList.length
    ·rw[if_pos hin]at hj
     rw[if_pos (by omega),show base+q*af P te+j-(base+q*af P te+off)=j-off by omega]
     exact hj
    ·rw[if_neg hin]at hj
     rw[if_neg (by omega)]
     exact r4 j c (by simpa using hj)
   ·rw[List.getElem?_set_ne (Ne.symm hqi)]at hq
    simp only[hqi,if_false]
    obtain⟨q1,q2,q3,q4⟩:=m5 q zq hq
    refine⟨q1.mono hstep,q2,q3,λj c hj=>?_⟩
    have hjl:j<af P te:=by rw[←q2];exact(List.getElem?_eq_some_iff.1 hj).1
    rw[bC hfit,if_neg ?_]
    ·exact q4 j c hj
    ·rintro⟨b1,b2⟩
     rcases Nat.lt_or_gt_of_ne hqi with hlt|hgt
     ·have:(q+1)*af P te≤i*af P te:=Nat.mul_le_mul_right _ hlt
      rw[Nat.succ_mul]at this
      omega
     ·have:(i+1)*af P te≤q*af P te:=Nat.mul_le_mul_right _ hgt
      rw[Nat.succ_mul]at this
      omega
  ·right
   rw[if_neg hj]
   refine⟨rfl,rfl,λx hx=>setRow_other w b x.blk _ (λe=>hj (hr.st.inj j id x _ hx m1 (by simpa[Own.blk]using e)))⟩
end
end Go.Av
end
section
namespace Go.Av
open Go
section
variable {P :Program}{W0 w w':World}{C C':Ctx}{σ σ':ab}{n:Nat}{A:aa}{a:Act}{o:Oper}
theorem Jf (hr:fJ P W0 o w C A a){t:TypeId}{x:Operand}{v:AV}(ho:o.op= .box t x)(hx:Is P W0 o A x v)(hf:fits P t v):
  ∃y w' C',(execOp a.eval o).run P w= .ok (.value y) w'∧aF P w' C' (.ptr t A.st.length 0 []) y∧Step w C w' C'∧aB P W0 w' C' (A.st++[some (.cells t [v])]):=by
 have hc:=(hx w C a hr).cells hf
 have hcl:(a.eval x).cells.size=af P t:=by have:=hc.bu hf;simpa using this
 obtain⟨h1,h2⟩:=hr.st.push (ob:=.cells (a.eval x).cells t) (ow:=.obj w.heap.size t 0 (a.eval x).cells.size) (so:=.cells t [v]) rfl
  ⟨rfl,(a.eval x).cells,t,(0,0),heap_alloc_new w _,.inl rfl,rfl,by simp[hcl],λ_=>(a.eval x).cells.toList,λi z hz=>by
   cases i with
   |zero=>
    simp at hz;subst hz
    refine⟨?_,by simpa using hcl,hf,λj c hj=>by simpa using hj⟩
    exact hc.mono (mA _ rfl)
   |succ i=>simp at hz⟩
 refine⟨.pointer (some ⟨w.heap.size,0,none⟩),_,_,?_,?_,h1,h2⟩
 ·simp only[execOp,ho,Instr.box,newVar,newRow,newObj,Sem.run_bind,Sem.run_pure]
  rfl
 ·refine .one rfl (.ptr (by simp[Ctx.push,hr.st.nx]) (λow how=>?_))
  simp only[Ctx.push,hr.st.nx,if_true,Option.some.injEq]at how
  subst how
  exact⟨_,t,0,_,0,rfl,rfl,by simp⟩
theorem EG (hr:fJ P W0 o w C A a){t:TypeId}{v:AV}(ho:o.op= .alloc t)(hz:zeroOf P t=some v):
  ∃y w' C',(execOp a.eval o).run P w= .ok (.value y) w'∧aF P w' C' (.ptr t A.st.length 0 []) y∧Step w C w' C'∧aB P W0 w' C' (A.st++[some (.cells t [v])]):=by
 obtain⟨inf,z,hi,hiz,hc,hf⟩:=jt (w:=w) (C:=C) hz
 have hcl:z.cells.size=af P t:=by have:=hc.bu hf;simpa using this
 obtain⟨h1,h2⟩:=hr.st.push (ob:=.cells z.cells t) (ow:=.obj w.heap.size t 0 z.cells.size) (so:=.cells t [v]) rfl
  ⟨rfl,z.cells,t,(0,0),heap_alloc_new w _,.inl rfl,rfl,by simp[hcl],λ_=>z.cells.toList,λi y hy=>by
   cases i with
   |zero=>
    simp at hy;subst hy
    exact⟨hc.mono (mA _ rfl),by simpa using hcl,hf,λj c hj=>by simpa using hj⟩
   |succ i=>simp at hy⟩
 refine⟨.pointer (some ⟨w.heap.size,0,none⟩),_,_,?_,?_,h1,h2⟩
 ·simp only[execOp,ho,Instr.alloc,zeroValue,typeInfo,newVar,newRow,newObj,Sem.run_bind]
  simp[Sem.run,program,hi,hiz]
 ·refine .one rfl (.ptr (by simp[Ctx.push,hr.st.nx]) (λow how=>?_))
  simp only[Ctx.push,hr.st.nx,if_true,Option.some.injEq]at how
  subst how
  exact⟨_,t,0,_,0,rfl,rfl,by simp⟩
theorem kV (h:aB P W0 w C σ){t te:TypeId}{id i:Nat}{xs:List AV}{x:AV}{v:Value}(hv:aF P w C (.ptr t id i []) v)(hs:σ[id]?=some (some (.cells te xs)))(hx:xs[i]?=some x):
  aF P w (C.kill id) (.loc t x) v:=by
 obtain⟨ad,rfl,hid,hm⟩:=hv.mH
 obtain⟨b,base,room,arr,t',fr,m1,m2,mf,m3,m4,cf,m5⟩:=h.cells hs
 obtain⟨b',te',base',room',off,e1,e2,rfl⟩:=hm _ m1
 cases e1
 simp only[place,Option.some.injEq,Prod.mk.injEq]at e2
 obtain⟨rfl,rfl⟩:=e2
 obtain⟨r1,r2,r3,r4⟩:=m5 i x hx
 have hidl:id<σ.length:=(List.getElem?_eq_some_iff.1 hs).1
 obtain⟨k1,k2⟩:=h.kill id hidl
 refine .one rfl (.loc (r1.mono k1) r3 r2 (λj c hj=>⟨?_,eH.free (Array.getElem?_eq_some_iff.1 m2).1 (λq x hq he=>?_)⟩))
 ·have:=r4 j c hj
  rw[Nat.add_zero]
  simp[World.cell?,m2,this]
 ·simp only[Ctx.kill]at hq
  split at hq
  ·cases hq
  ·rename_i hne
   exact hne (h.inj q id x _ hq m1 (by simpa[Own.blk]using he))
theorem nS (h:aB P W0 w C σ){e te:TypeId}{id off m:Nat}{xs:List AV}{v:Value}(hv:aF P w C (.row e id off m) v)(hs:σ[id]?=some (some (.cells te xs)))(hm:off+m≤xs.length):
  aF P w (C.kill id) (.sl e ((xs.drop off).take m)) v:=by
 have hv':=hv.aP rfl
 obtain⟨b,base,room,arr,t',fr,m1,m2,mf,m3,m4,cf,m5⟩:=h.cells hs
 have hidl:id<σ.length:=(List.getElem?_eq_some_iff.1 hs).1
 obtain⟨k1,k2⟩:=h.kill id hidl
 have hlen:((xs.drop off).take m).length=m:=by simp;omega
 have hget: ∀i x,((xs.drop off).take m)[i]?=some x→xs[off+i]?=some x:=λi x hx=>by
  rw[List.getElem?_take]at hx
  split at hx
  ·rwa [List.getElem?_drop]at hx
  ·cases hx
 cases hv' with
 |row h1 h2 h3 h4=>
  obtain⟨b',base',room',e1,e2,e3⟩:=h4 _ m1
  cases e1
  have hrel:Rel P w (C.kill id) (.sl e ((xs.drop off).take m)) [.slice _ ((xs.drop off).take m).length _]:=
   .sl (a:=_) (λi=>cf (off+i)) (by rw[hlen];exact h1) h2 (λi x hx=>(m5 _ _ (hget i x hx)).1.mono k1) (λi x hx=>⟨(m5 _ _ (hget i x hx)).2.1,(m5 _ _ (hget i x hx)).2.2.1⟩) (λhpos=>by
    rw[hlen]at hpos
    refine⟨b,base+off*af P e,e2 (by omega),λi hi j c hj=>⟨?_,eH.free (Array.getElem?_eq_some_iff.1 m2).1 (λq x hq he=>?_)⟩⟩
    ·have hx:=List.getElem?_eq_getElem hi
     have:=(m5 _ _ (hget i _ hx)).2.2.2 j c hj
     rw[Nat.add_mul,←Nat.add_assoc]at this
     simp[World.cell?,m2,this]
    ·simp only[Ctx.kill]at hq
     split at hq
     ·cases hq
     ·rename_i hne
      exact hne (h.inj q id x _ hq m1 (by simpa[Own.blk]using he)))
  rw[hlen]at hrel
  exact .one rfl hrel
end
end Go.Av
end
section
namespace Go.Av
open Go
def gu (l:List UInt8)(pos:Nat):Nat×Nat:=Utf8.decode ⟨l.toArray⟩ pos
section
variable {P :Program}{W0 w w':World}{C C':Ctx}{σ σ':ab}{n:Nat}{A:aa}{a:Act}{o:Oper}
theorem HX (hr:fJ P W0 o w C A a){t:TypeId}{x:Operand}{l:List UInt8}(ho:o.op= .range t x)(hx:Is P W0 o A x (.str l))(ht:P.underlying t=some .string):
  ∃y w' C',(execOp a.eval o).run P w= .ok (.value y) w'∧aF P w' C' (.it A.st.length) y∧Step w C w' C'∧aB P W0 w' C' (A.st++[some (.iter l 0)]):=by
 have hv:=(hx w C a hr).gE.1
 obtain⟨h1,h2⟩:=hr.st.push (ob:=.stringIter ⟨l.toArray⟩ 0) (ow:=.iter w.heap.size) (so:=.iter l 0) rfl (heap_alloc_new w _)
 refine⟨.pointer (some ⟨w.heap.size,0,none⟩),_,_,?_,?_,h1,h2⟩
 ·simp only[execOp,ho,Instr.range,newObj,Sem.run_bind,run_underlying ht,Result.andThen_ok,hv,Sem.run_pure]
  rfl
 ·refine .one rfl (.it (by simp[Ctx.push,hr.st.nx]) (λow how=>?_))
  simp only[Ctx.push,hr.st.nx,if_true,Option.some.injEq]at how
  subst how
  exact⟨_,rfl,rfl⟩
theorem aB.iter (h:aB P W0 w C σ){id:Nat}{l:List UInt8}{pos:Nat}(hs:σ[id]?=some (some (.iter l pos))): ∃b,C.m id=some (.iter b)∧w.heap[b]?=some (.stringIter ⟨l.toArray⟩ pos):=by
 have ho:=h.obj id
 rw[hs]at ho
 simp only[Option.join_some]at ho
 cases hm:C.m id with
 |none=>rw[hm]at ho;exact ho.elim
 |some ow=>
  rw[hm]at ho
  cases ow with
  |iter b=>exact⟨b,rfl,ho⟩
  |_=>exact ho.elim
theorem Hl {id:Nat}{v:Value}(h:aF P w C (.it id) v): ∃ad,v= .pointer (some ad)∧ ∀ow,C.m id=some ow→ ∃b,ow= .iter b∧ad=⟨b,0,none⟩:=by
 have:=h.aP rfl
 cases this with
 |it h1 h2=>exact⟨_,rfl,h2⟩
theorem Et (hr:fJ P W0 o w C A a){x:Operand}{id:Nat}{l:List UInt8}{pos:Nat}(ho:o.op= .next x true)(hx:Is P W0 o A x (.it id))(hs:A.st[id]?=some (some (.iter l pos)))(hp:l.length≤pos):
  ∃y,(execOp a.eval o).run P w= .ok (.value y) w∧aF P w C (.tup [.bool false]) y:=by
 obtain⟨ad,hv,hm⟩:=Hl (hx w C a hr)
 obtain⟨b,hc,hb⟩:=hr.st.iter hs
 obtain⟨b',e,rfl⟩:=hm _ hc
 cases e
 have hsz: ¬pos<(⟨l.toArray⟩:ByteArray).size:=by show ¬pos<l.toArray.size;simp;omega
 refine⟨.tuple #[.bool false],?_,.tup (vs:=[.bool false]) rfl (λi u z hu hz=>?_)⟩
 ·simp only[execOp,ho,Instr.next,hv,getObj,Sem.run_bind]
  simp[Sem.run,hb,hsz,Result.andThen]
 ·cases i with
  |zero=>simp at hu hz;subst hu hz;exact .one rfl (.bool _)
  |succ i=>simp at hu
theorem C8 (hr:fJ P W0 o w C A a){x:Operand}{id:Nat}{l:List UInt8}{pos:Nat}(ho:o.op= .next x true)(hx:Is P W0 o A x (.it id))(hs:A.st[id]?=some (some (.iter l pos)))(hp:pos<l.length):
  ∃y w',(execOp a.eval o).run P w= .ok (.value y) w'∧aF P w' C (.tup [.bool true,.int .i64 pos,.int .i32 (gu l pos).1]) y∧Step w C w' C∧aB P W0 w' C (A.st.set id (some (.iter l (pos+(gu l pos).2)))):=by
 obtain⟨ad,hv,hm⟩:=Hl (hx w C a hr)
 obtain⟨b,hc,hb⟩:=hr.st.iter hs
 obtain⟨b',e,rfl⟩:=hm _ hc
 cases e
 have hsz:pos<(⟨l.toArray⟩:ByteArray).size:=by show pos<l.toArray.size;simpa using hp
 have hblt:b<w.heap.size:=(Array.getElem?_eq_some_iff.1 hb).1
 have hidl:id<A.st.length:=(List.getElem?_eq_some_iff.1 hs).1
 have hother: ∀(b':Nat),b'≠b→(w.heap.setIfInBounds b (.stringIter ⟨l.toArray⟩ (pos+(gu l pos).2)))[b']?=w.heap[b']?:=λb' hne=>by
  rw[Array.getElem?_setIfInBounds_ne (Ne.symm hne)]
 have hstep:Step w C { w with heap:=w.heap.setIfInBounds b (.stringIter ⟨l.toArray⟩ (pos+(gu l pos).2)) } C:=by
  refine⟨Nat.le_refl _,λ_ _ _ hm=>hm,λb' i hst=>?_,rfl,rfl,rfl,by simp,λb' hlt hn=>⟨hother b' (λe=>hn id _ hc (by simp[Own.blk,e])),hn⟩⟩
  have hne:b'≠b:=λe=>by
   obtain⟨_,_,_,e1,_⟩:=hst.2 id _ hc (by simp[Own.blk,e])
   cases e1
  refine⟨?_,by simpa using hst.1,hst.2⟩
  simp only[World.cell?,hother b' hne]
 refine⟨.tuple #[.bool true,goInt pos,.int .i32 (gu l pos).1],_,?_,.tup (vs:=[.bool true,goInt pos,.int .i32 (gu l pos).1]) rfl (λi u z hu hz=>?_),hstep,?_⟩
 ·simp only[execOp,ho,Instr.next,hv,getObj,setObj,Sem.run_bind]
  simp[Sem.run,hb,hsz,Result.andThen,gu]
 ·match i with
  |0=>simp at hu hz;subst hu hz;exact .one rfl (.bool _)
  |1=>simp[goInt]at hu hz;subst hu hz;exact .one rfl (.int _ _)
  |2=>simp at hu hz;subst hu hz;exact .one rfl (.int _ _)
  |i+3=>simp at hu
 ·refine hr.st.change hstep hr.st.low (by simpa using hr.st.nx) hr.st.inj hr.st.dom (λj=>?_)
  rw[j8 _ _ _ _ hidl]
  by_cases hj:j=id
  ·left
   subst hj
   rw[if_pos rfl,hc]
   show _=_
   simp[hblt]
  ·right
   rw[if_neg hj]
   refine⟨rfl,rfl,λy hy=>hother y.blk (λe=>hj (hr.st.inj j id y _ hy hc (by simpa[Own.blk]using e)))⟩
end
end Go.Av
end
section
namespace Go.Av
open Go
section
variable {P :Program}{W0 w w':World}{C C':Ctx}{σ σ':ab}{n:Nat}{A:aa}{a:Act}{o:Oper}
theorem IN (hr:fJ P W0 o w C A a){t:TypeId}(ho:o.op= .makeMap t none)(kt:TypeId):
  ∃y w' C',(execOp a.eval o).run P w= .ok (.value y) w'∧aF P w' C' (.mp A.st.length) y∧Step w C w' C'∧aB P W0 w' C' (A.st++[some (.mp kt [])]):=by
 obtain⟨h1,h2⟩:=hr.st.push (ob:=.map #[] 0) (ow:=.mp w.heap.size) (so:=.mp kt []) rfl ⟨#[],0,heap_alloc_new w _,by simp,by simp,by simp⟩
 refine⟨.map (some w.heap.size),_,_,?_,?_,h1,h2⟩
 ·simp only[execOp,ho,Instr.makeMap,newObj,Sem.run_bind,Sem.run_pure]
  rfl
 ·refine .one rfl (.mp (by simp[Ctx.push,hr.st.nx]) (λow how=>?_))
  simp only[Ctx.push,hr.st.nx,if_true,Option.some.injEq]at how
  exact how.symm
end
end Go.Av
end
section
namespace Go.Av
open Go
inductive aU (n:Nat):AV→Prop
 |undef:aU n .undef
 |int (k m):aU n (.int k m)
 |bool (b):aU n (.bool b)
 |str (l):aU n (.str l)
 |nil:aU n .nil
 |az:aU n .az
 |j3:aU n .j3
 |cC:aU n .cC
 |iface {t v}:aU n v→aU n (.iface t v)
 |sl {e xs}:(∀x∈xs,aU n x)→aU n (.sl e xs)
 |lit {e xs}:(∀x∈xs,aU n x)→aU n (.lit e xs)
 |own {e xs tok}:tok<n→(∀x∈xs,aU n x)→aU n (.own e xs tok)
 |row {e id off m}:id<n→aU n (.row e id off m)
 |agg {t fs}:(∀x∈fs,aU n x)→aU n (.agg t fs)
 |loc {t v}:aU n v→aU n (.loc t v)
 |ptr {t id i path}:id<n→aU n (.ptr t id i path)
 |it {id}:id<n→aU n (.it id)
 |mp {id}:id<n→aU n (.mp id)
 |yl (l):aU n (.yl l)
 |fn {f caps}:(∀x∈caps,aU n x)→aU n (.fn f caps)
 |tup {vs}:(∀x∈vs,aU n x)→aU n (.tup vs)
 |maybe {g v}:aU n v→aU n (.maybe g v)
inductive Sub :AV→AV→Prop
 |refl (x):Sub x x
 |trans {x y z}:Sub x y→Sub y z→Sub x z
 |own (e xs tok):Sub (.own e xs tok) (.sl e xs)
 |lit (e xs):Sub (.lit e xs) (.sl e xs)
 |az (e):Sub .az (.sl e [])
 |agg {t} {xs ys:List AV}:xs.length=ys.length→(∀(i:Nat) (x y:AV),xs[i]?=some x→ys[i]?=some y→Sub x y)→Sub (.agg t xs) (.agg t ys)
 |sls {e} {xs ys:List AV}:xs.length=ys.length→(∀(i:Nat) (x y:AV),xs[i]?=some x→ys[i]?=some y→Sub x y)→Sub (.sl e xs) (.sl e ys)
 |lits {e} {xs ys:List AV}:xs.length=ys.length→(∀(i:Nat) (x y:AV),xs[i]?=some x→ys[i]?=some y→Sub x y)→Sub (.lit e xs) (.lit e ys)
 |owns {e tok} {xs ys:List AV}:xs.length=ys.length→(∀(i:Nat) (x y:AV),xs[i]?=some x→ys[i]?=some y→Sub x y)→Sub (.own e xs tok) (.own e ys tok)
 |loc {t x y}:Sub x y→Sub (.loc t x) (.loc t y)
inductive cR :AV→AV→Prop
 |sub {x y}:Sub x y→cR x y
 |refl (x):cR x x
 |own (e xs tok):cR (.own e xs tok) (.sl e xs)
 |lit (e xs):cR (.lit e xs) (.sl e xs)
 |az (e):cR .az (.sl e [])
 |undef (x):cR x .undef
 |trans {x y z}:cR x y→cR y z→cR x z
 |tup {xs ys:List AV}:xs.length=ys.length→(∀(i:Nat) (x y:AV),xs[i]?=some x→ys[i]?=some y→cR x y)→cR (.tup xs) (.tup ys)
section
variable {P :Program}{W0 w w':World}{C C':Ctx}{σ σ':ab}{n:Nat}{A:aa}{a:Act}{o:Oper}
theorem Rel.SS {x:AV}{cs:List Value}(h:Rel P w C x cs):aU C.nx x:=by
 have mem: ∀{xs:List AV} {cf:Nat→List Value},(∀(i:Nat) (x:AV),xs[i]?=some x→aU C.nx x)→ ∀x∈xs,aU C.nx x:=λ{xs cf} h x hx=>by
  obtain⟨i,hi,he⟩:=List.getElem_of_mem hx
  exact h i x (by rw[←he];exact List.getElem?_eq_getElem hi)
 induction h with
 |int k n=>exact .int k n
 |bool b=>exact .bool b
 |str=>exact .str _
 |nil=>exact .nil
 |az=>exact .az
 |j3=>exact .j3
 |cC=>exact .cC
 |iface _ _ ih=>exact .iface ih
 |sl cf _ _ _ _ _ ih=>exact .sl (mem (cf:=cf) ih)
 |lit cf _ _ _ _ ih=>exact .lit (mem (cf:=cf) ih)
 |own cf _ _ _ _ _ h6 _ ih=>exact .own h6 (mem (cf:=cf) ih)
 |row _ _ h3=>exact .row h3
 |agg cf _ _ _ _ _ _ ih=>exact .agg (mem (cf:=cf) ih)
 |loc _ _ _ _ ih=>exact .loc ih
 |ptr h1=>exact .ptr h1
 |it h1=>exact .it h1
 |mp h1=>exact .mp h1
 |yl l=>exact .yl l
 |fn h1 h2 h3 ih=>
  refine .fn (mem (cf:=λ_=>[]) λi x hx=>?_)
  have hi:=(List.getElem?_eq_some_iff.1 hx).1
  exact ih i x _ hx (List.getElem?_eq_getElem (by rw[←h1];exact hi))
theorem dW {m:Nat}(hm:n≤m){x:AV}(h:aU n x):aU m x:=by
 induction h with
 |undef=>exact .undef
 |int k n=>exact .int k n
 |bool b=>exact .bool b
 |str=>exact .str _
 |nil=>exact .nil
 |az=>exact .az
 |j3=>exact .j3
 |cC=>exact .cC
 |iface _ ih=>exact .iface ih
 |sl _ ih=>exact .sl ih
 |lit _ ih=>exact .lit ih
 |own h1 _ ih=>exact .own (Nat.lt_of_lt_of_le h1 hm) ih
 |row h1=>exact .row (Nat.lt_of_lt_of_le h1 hm)
 |agg _ ih=>exact .agg ih
 |loc _ ih=>exact .loc ih
 |ptr h1=>exact .ptr (Nat.lt_of_lt_of_le h1 hm)
 |it h1=>exact .it (Nat.lt_of_lt_of_le h1 hm)
 |mp h1=>exact .mp (Nat.lt_of_lt_of_le h1 hm)
 |yl l=>exact .yl l
 |fn _ ih=>exact .fn ih
 |tup _ ih=>exact .tup ih
 |maybe _ ih=>exact .maybe ih
def Ctx.dB (C:Ctx)(n:Nat):Ctx:={ m:=λi=>if i<n then C.m i else none,nx:=n }
theorem ek {i:Nat}{ow:Own}(h:(C.dB n).m i=some ow):i<n∧C.m i=some ow:=by
 simp only[Ctx.dB]at h
 split at h
 ·exact⟨by assumption,h⟩
 ·cases h
theorem eH.dB {b i:Nat}(h:eH w C b i)(n:Nat):eH w (C.dB n) b i:=⟨h.1,λid ow hm he=>h.2 id ow (ek hm).2 he⟩
theorem Rel.dB {x:AV}{cs:List Value}(h:Rel P w C x cs)(hi:aU n x):Rel P w (C.dB n) x cs:=by
 have hcells: ∀{b off:Nat} {cs:List Value},Cells w C b off cs→Cells w (C.dB n) b off cs:=λhc j c hj=>⟨(hc j c hj).1,(hc j c hj).2.dB n⟩
 have hreads: ∀{size m:Nat} {a:Option Addr} {cf:Nat→List Value},eR w C size a m cf→eR w (C.dB n) size a m cf:=λhr hm=>by
  obtain⟨b,off,e,hc⟩:=hr hm
  exact⟨b,off,e,λi hi=>hcells (hc i hi)⟩
 induction h with
 |int k n=>exact .int k n
 |bool b=>exact .bool b
 |str h=>exact .str h
 |nil=>exact .nil
 |az=>exact .az
 |j3=>exact .j3
 |cC=>exact .cC
 |iface h1 _ ih=>cases hi with|iface hi=>exact .iface h1 (ih hi)
 |sl cf h1 h2 _ h4 h5 ih=>cases hi with|sl hi=>exact .sl cf h1 h2 (λi x hx=>ih i x hx (hi x (List.mem_of_getElem? hx))) h4 (hreads h5)
 |lit cf h1 _ h4 h5 ih=>cases hi with|lit hi=>exact .lit cf h1 (λi x hx=>ih i x hx (hi x (List.mem_of_getElem? hx))) h4 (hreads h5)
 |own cf h1 h2 _ h4 h5 h6 h7 ih=>cases hi with|own ht hi=>exact .own cf h1 h2 (λi x hx=>ih i x hx (hi x (List.mem_of_getElem? hx))) h4 (hreads h5) ht (λow how=>h7 ow (ek how).2)
 |row h1 h2 h3 h4=>cases hi with|row hi=>exact .row h1 h2 hi (λow how=>h4 ow (ek how).2)
 |agg cf h1 h2 h3 h4 _ h6 ih=>cases hi with|agg hi=>exact .agg cf h1 h2 h3 h4 (λi x hx=>ih i x hx (hi x (List.mem_of_getElem? hx))) h6
 |loc _ h2 h3 h4 ih=>cases hi with|loc hi=>exact .loc (ih hi) h2 h3 (hcells h4)
 |ptr h1 h2=>cases hi with|ptr hi=>exact .ptr hi (λow how=>h2 ow (ek how).2)
 |it h1 h2=>cases hi with|it hi=>exact .it hi (λow how=>h2 ow (ek how).2)
 |mp h1 h2=>cases hi with|mp hi=>exact .mp hi (λow how=>h2 ow (ek how).2)
 |yl l=>exact .yl l
 |fn h1 h2 _ ih=>cases hi with|fn hi=>exact .fn h1 h2 (λi c v hc hv=>ih i c v hc hv (hi c (List.mem_of_getElem? hc)))
theorem aF.dB {x:AV}{v:Value}(h:aF P w C x v)(hi:aU n x):aF P w (C.dB n) x v:=by
 induction h with
 |undef v=>exact .undef v
 |maybe _ h2 ih=>cases hi with|maybe hi=>exact .maybe (λg=>ih g hi) h2
 |tup h1 _ ih=>cases hi with|tup hi=>exact .tup h1 (λi a v ha hv=>ih i a v ha hv (hi a (List.mem_of_getElem? ha)))
 |agg h1=>exact .agg (h1.dB hi)
 |one h1 h2=>exact .one h1 (h2.dB hi)
theorem aB.dB (h:aB P W0 w C σ)(hn:n≤σ.length)(hi: ∀id te xs,id<n→σ[id]?=some (some (.cells te xs))→ ∀x∈xs,aU n x):aB P W0 w (C.dB n) (σ.take n):=by
 refine⟨h.base,λi ow hm=>h.low i ow (ek hm).2,by simp[Ctx.dB];omega,λi j a b ha hb he=>h.inj i j a b (ek ha).2 (ek hb).2 he,λi ow hm=>(ek hm).1,λi=>?_⟩
 by_cases hin:i<n
 ·have e1:(σ.take n)[i]?=σ[i]?:=by rw[List.getElem?_take,if_pos hin]
  have e2:(C.dB n).m i=C.m i:=by simp[Ctx.dB,hin]
  rw[e1,e2]
  have ho:=h.obj i
  unfold fM at ho ⊢
  split at ho
  ·trivial
  ·rename_i te xs b te' base room hs hm
   have hs':σ[i]?=some (some (.cells te xs)):=by
    cases hσ:σ[i]? with
    |none=>rw[hσ]at hs;cases hs
    |some q=>rw[hσ]at hs;simp at hs;rw[hs]
   obtain⟨h1,arr,t',fr,h2,hf,h3,h4,cf,h5⟩:=ho
   refine⟨h1,arr,t',fr,h2,hf,h3,h4,cf,λq x hx=>?_⟩
   obtain⟨r1,r2,r3,r4⟩:=h5 q x hx
   exact⟨r1.dB (hi i te xs hin hs' x (List.mem_of_getElem? hx)),r2,r3,r4⟩
  ·exact ho
  ·exact ho
  ·exact ho
  ·exact ho.elim
 ·have e1:((σ.take n)[i]?).join=none:=by rw[List.getElem?_take,if_neg hin];rfl
  have e2:(C.dB n).m i=none:=by simp[Ctx.dB,hin]
  rw[e1,e2]
  trivial
theorem Step.dB (h:Step w C w' C')(hn:C.nx≤n):Step w C w' (C'.dB n) where
 nx:=hn
 dead:=λid ow hid hm=>h.dead id ow hid (ek hm).2
 gb:=λb i hs=>⟨(h.gb b i hs).1,(h.gb b i hs).2.dB n⟩
 os:=h.os
 tape:=h.tape
 output:=h.output
 size:=h.size
 block:=λb hb hf=>⟨(h.block b hb hf).1,λid ow hm=>(h.block b hb hf).2 id ow (ek hm).2⟩
theorem aB.ids (h:aB P W0 w C σ){id:Nat}{te:TypeId}{xs:List AV}(hs:σ[id]?=some (some (.cells te xs))): ∀x∈xs,aU σ.length x:=λx hx=>by
 obtain⟨b,base,room,arr,t',fr,m1,m2,mf,m3,m4,cf,m5⟩:=h.cells hs
 obtain⟨i,hi,he⟩:=List.getElem_of_mem hx
 rw[←h.nx]
 exact(m5 i x (by rw[←he];exact List.getElem?_eq_getElem hi)).1.SS
theorem Rel.rX {e:TypeId}{xs:List AV}{x:AV}{cs:List Value}(h:Rel P w C x cs)(hx:x= .lit e xs∨ ∃tok,x= .own e xs tok):Rel P w C (.sl e xs) cs:=by
 rcases hx with rfl|⟨tok,rfl⟩
 ·cases h with|lit cf h1 h3 h4 h5=>exact .sl cf (Nat.le_refl _) h1 h3 h4 h5
 ·cases h with|own cf h1 h2 h3 h4 h5=>exact .sl cf h1 h2 h3 h4 h5
theorem Rel.vh {e:TypeId}{cs:List Value}(h:Rel P w C .az cs):Rel P w C (.sl e []) cs:=by
 cases h
 exact .sl (xs:=[]) (λ_=>[]) (Nat.le_refl _) (Nat.zero_le _) (by simp) (by simp) (λhp=>absurd hp (by simp))
theorem Sub.one {x y:AV}(h:Sub x y):y.aX=x.aX:=by
 induction h with
 |trans _ _ ih1 ih2=>exact ih2.trans ih1
 |_=>rfl
theorem Sub.Oe {x y:AV}(h:Sub x y):x=y∨(x.aX=true∧y.aX=true)∨ ∃t fs fs',x= .agg t fs∧y= .agg t fs':=by
 induction h with
 |refl=>exact .inl rfl
 |trans _ _ ih1 ih2=>
  rcases ih1 with rfl|⟨h1,h2⟩|⟨t,fs,fs',rfl,rfl⟩
  ·exact ih2
  ·rcases ih2 with rfl|⟨h3,h4⟩|⟨t,fs,fs',rfl,rfl⟩
   ·exact .inr (.inl ⟨h1,h2⟩)
   ·exact .inr (.inl ⟨h1,h4⟩)
   ·simp[AV.aX]at h2
  ·rcases ih2 with rfl|⟨h3,h4⟩|⟨t',gs,gs',e,rfl⟩
   ·exact .inr (.inr ⟨_,_,_,rfl,rfl⟩)
   ·simp[AV.aX]at h3
   ·cases e
    exact .inr (.inr ⟨_,_,_,rfl,rfl⟩)
 |agg=>exact .inr (.inr ⟨_,_,_,rfl,rfl⟩)
 |_=>exact .inr (.inl ⟨rfl,rfl⟩)
theorem Sub.fits {x y:AV}(h:Sub x y)(t:TypeId)(hf:fits P t x):fits P t y:=by
 induction h with
 |refl=>exact hf
 |trans _ _ ih1 ih2=>exact ih2 (ih1 hf)
 |_=>exact hf
theorem Rel.sub {x y:AV}(hw:Sub x y){cs:List Value}(h:Rel P w C x cs):Rel P w C y cs:=by
 have lists: ∀{e:TypeId} {xs ys:List AV} {cf:Nat→List Value},xs.length=ys.length→(∀(i:Nat) (x y:AV),xs[i]?=some x→ys[i]?=some y→Sub x y)→
   (∀(i:Nat) (x y:AV),xs[i]?=some x→ys[i]?=some y→ ∀{cs:List Value},Rel P w C x cs→Rel P w C y cs)→
   (∀(i:Nat) (x:AV),xs[i]?=some x→Rel P w C x (cf i))→(∀i x,xs[i]?=some x→(cf i).length=af P e∧Av.fits P e x)→
   (∀(i:Nat) (x:AV),ys[i]?=some x→Rel P w C x (cf i))∧(∀i x,ys[i]?=some x→(cf i).length=af P e∧Av.fits P e x):=λ{e xs ys cf} hl hs ih h1 h2=>by
  have get: ∀(i:Nat) (y:AV),ys[i]?=some y→ ∃x,xs[i]?=some x:=λi y hy=>⟨_,List.getElem?_eq_getElem (by rw[hl];exact(List.getElem?_eq_some_iff.1 hy).1)⟩
  refine⟨λi y hy=>?_,λi y hy=>?_⟩
  ·obtain⟨x,hx⟩:=get i y hy
   exact ih i x y hx hy (h1 i x hx)
  ·obtain⟨x,hx⟩:=get i y hy
   exact⟨(h2 i x hx).1,(hs i x y hx hy).fits e (h2 i x hx).2⟩
 induction hw generalizing cs with
 |refl=>exact h
 |trans _ _ ih1 ih2=>exact ih2 (ih1 h)
 |own e xs tok=>exact h.rX (.inr ⟨tok,rfl⟩)
 |lit e xs=>exact h.rX (.inl rfl)
 |az e=>exact h.vh
 |agg hl hs ih=>
  rename_i t xs ys
  cases h with
  |agg cf h1 h2 h3 h4 h5 h6=>
   have get: ∀(i:Nat) (y:AV),ys[i]?=some y→ ∃x,xs[i]?=some x:=λi y hy=>⟨_,List.getElem?_eq_getElem (by rw[hl];exact(List.getElem?_eq_some_iff.1 hy).1)⟩
   refine .agg cf h1 (by omega) h3 h4 (λi y hy=>?_) (λi y ty hy hty=>?_)
   ·obtain⟨x,hx⟩:=get i y hy
    exact ih i x y hx hy (h5 i x hx)
   ·obtain⟨x,hx⟩:=get i y hy
    obtain⟨g1,g2,g3⟩:=h6 i x ty hx hty
    exact⟨g1,(hs i x y hx hy).fits ty g2,g3⟩
 |sls hl hs ih=>
  cases h with
  |sl cf h1 h2 h3 h4 h5=>
   obtain⟨g1,g2⟩:=lists hl hs (λi x y hx hy {cs} h=>ih i x y hx hy h) h3 h4
   rw[hl]at h1 h5 ⊢
   exact .sl cf h1 h2 g1 g2 h5
 |lits hl hs ih=>
  cases h with
  |lit cf h1 h3 h4 h5=>
   obtain⟨g1,g2⟩:=lists hl hs (λi x y hx hy {cs} h=>ih i x y hx hy h) h3 h4
   rw[hl]at h1 h5 ⊢
   exact .lit cf h1 g1 g2 h5
 |owns hl hs ih=>
  cases h with
  |own cf h1 h2 h3 h4 h5 h6 h7=>
   obtain⟨g1,g2⟩:=lists hl hs (λi x y hx hy {cs} h=>ih i x y hx hy h) h3 h4
   rw[hl]at h1 h5 h7 ⊢
   exact .own cf h1 h2 g1 g2 h5 h6 h7
 |loc hs ih=>
  cases h with
  |loc h1 h2 h3 h4=>exact .loc (ih h1) (hs.fits _ h2) h3 h4
theorem aF.bZ {x y:AV}{v:Value}(hw:cR x y)(h:aF P w C x v):aF P w C y v:=by
 induction hw generalizing v with
 |sub hs=>
  rcases hs.Oe with rfl|⟨h1,h2⟩|⟨t,fs,fs',rfl,rfl⟩
  ·exact h
  ·exact .one h2 ((h.aP h1).sub hs)
  ·cases h with
   |agg h1=>exact .agg (h1.sub hs)
   |one h1=>simp[AV.aX]at h1
 |refl x=>exact h
 |own e xs tok=>exact .one rfl ((h.aP rfl).rX (.inr ⟨tok,rfl⟩))
 |lit e xs=>exact .one rfl ((h.aP rfl).rX (.inl rfl))
 |az e=>exact .one rfl (h.aP rfl).vh
 |undef x=>exact .undef v
 |trans _ _ ih1 ih2=>exact ih2 (ih1 h)
 |tup hl _ ih=>
  rename_i xs ys _
  obtain⟨vs,rfl,e1,e2⟩:=h.B8
  refine .tup (by omega) (λi y v hy hv=>?_)
  have hi:=(List.getElem?_eq_some_iff.1 hy).1
  have hx:=List.getElem?_eq_getElem (l:=xs) (show i<xs.length by omega)
  exact ih i _ y hx hy (e2 i _ v hx hv)
inductive nn :List AV→List AV→Prop
 |nil:nn [] []
 |cons {x y xs ys}:cR x y→nn xs ys→nn (x::xs) (y::ys)
theorem nn.get {xs ys:List AV}(h:nn xs ys):xs.length=ys.length∧ ∀(i:Nat) (y:AV),ys[i]?=some y→ ∃x,xs[i]?=some x∧cR x y:=by
 induction h with
 |nil=>exact⟨rfl,by simp⟩
 |cons h1 _ ih=>
  refine⟨by simp[ih.1],λi y hy=>?_⟩
  cases i with
  |zero=>simp at hy;subst hy;exact⟨_,rfl,h1⟩
  |succ i=>simp at hy ⊢;exact ih.2 i y hy
theorem nn.refl : ∀xs,nn xs xs
 |[]=>.nil
 |x::xs=>.cons (.refl x) (nn.refl xs)
theorem aY.bZ {f:FuncId}{xs ys:List AV}{Q:AV→ab→Prop}(h:aY P W0 f ys σ Q)(hw:nn xs ys):aY P W0 f xs σ Q:=
 λw C vs hst hl hr=>h w C vs hst (by rw[←hw.get.1];exact hl) (λi y v hy hv=>by
  obtain⟨x,hx,hxy⟩:=hw.get.2 i y hy
  exact(hr i x v hx hv).bZ hxy)
theorem aY.mono {f:FuncId}{xs:List AV}{Q Q':AV→ab→Prop}(h:aY P W0 f xs σ Q)(hq: ∀r σ',Q r σ'→Q' r σ'):aY P W0 f xs σ Q':=
 λw C vs hst hl hr=>(h w C vs hst hl hr).mono λ_ _ ⟨v,r,σ',C',e,q,rest⟩=>⟨v,r,σ',C',e,hq _ _ q,rest⟩
theorem ag.bZ {f:FuncId}{xs ys:List AV}{r:AV}(h:ag P W0 f ys r)(hw:nn xs ys):ag P W0 f xs r:=λσ=>(h σ).bZ hw
end
end Go.Av
end
section
namespace Go.Av
open Go
def RD :Option Nat→Fence
 |none=>.wide
 |some l=>Fence.wide.inRound l
def more (a:Act)(ds:List Deferred):Act:={ tmps:=a.tmps,defers:=a.defers++ds }
def uR (ds:List Deferred)(Q:Exit→Act→World→Prop):Exit→Act→World→Prop:=λe a' w'=>∃ a0,a'=more a0 ds∧Q e a0 w'
def wpR (P:Program)(c:Code)(Q:Exit→Act→World→Prop)(a:Act)(w:World):Prop:=∀ r n ds,c.wpIn (RD r) n P (uR ds Q) (more a ds) w
section
variable {P :Program}{Q:Exit→Act→World→Prop}{a:Act}{w:World}{ops:Array Oper}{o:Oper}
theorem E1 (r:Option Nat)(f:FuncId):(RD r).fn f:=by cases r<;>trivial
theorem Gu (r:Option Nat):(RD r).depth=none:=by cases r<;>rfl
theorem DX (P:Program)(r:Option Nat):Machine.fenced P (RD r)=Machine.fenced P .wide:=by cases r<;>rfl
theorem eu (a:Act):more a []=a:=by simp[more]
theorem jc (a:Act)(ds:List Deferred)(d:Option Tmp)(v:Value):more (a.put d v) ds=(more a ds).put d v:=by cases d<;>rfl
theorem put_defers (a:Act)(d:Option Tmp)(v:Value):(a.put d v).defers=a.defers:=by cases d<;>rfl
theorem qL (a:Act)(ds:List Deferred):(more a ds).tmps=a.tmps:=rfl
theorem DQ (a:Act)(ds:List Deferred):(more a ds).eval=a.eval:=rfl
theorem GB {f:FuncId}{args:Array Value}{R:Ending→World→Prop}(h:Calls P f args w R)(r:Option Nat)(n:Nat):CallsIn (RD r) n P f args w R:=by
 cases r with
 |none=>exact callsIn_wide.2 h
 |some l=>exact show CallsIn .wide n P f args w R from callsIn_wide.2 h
theorem I2 {row:String}{args:Array Value}{R:Value→World→Prop}(h:Rows P row args w R)(r:Option Nat)(n:Nat):RowsIn (RD r) n P row args w R:=λc cs _=>by
 obtain⟨v,w',q,s⟩:=h c cs
 exact⟨v,w',q,by rw[DX];exact stepsIn_wide.2 s⟩
theorem Cm {next next':Act→World→Prop}(hnd: ∀c,o.op≠ .defer c)(h:o.wp P a w next Q){r:Option Nat}{n:Nat}{ds:List Deferred}(hn: ∀a0 w',next a0 w'→next' (more a0 ds) w'):
  o.wpIn (RD r) n P (more a ds) w next' (uR ds Q):=by
 refine⟨λf _=>E1 r f,?_⟩
 rw[Oper.semAt_eq _ _ _ hnd,DQ]
 unfold Oper.wp at h
 revert h
 generalize (execOp a.eval o).run P w=res
 intro h
 have hd:(RD r).depth.isSome=true→1≤n:=λe=>by rw[Gu]at e;cases e
 cases res with
 |ok nx w'=>
  cases nx with
  |value v=>have:=hn _ _ h;rw[jc]at this;exact this
  |skip=>have:=hn _ _ h;rw[jc]at this;exact this
  |defer d=>have:=hn _ _ h;rw[jc]at this;exact this
  |enter f args=>
   refine⟨hd,(GB h r _).mono λe w'' hR=>?_⟩
   cases e with
   |returned v=>have:=hn _ _ hR;rw[jc]at this;exact this
   |panicked chain=>exact⟨a,rfl,hR⟩
   |outgrown=>obtain⟨a0,w0,hq⟩:=hR;exact⟨_,w0,a0,rfl,hq⟩
  |row row args=>exact⟨hd,(I2 h r _).mono λv w'' hR=>by have:=hn _ _ hR;rw[jc]at this;exact this⟩
  |_=>exact h.elim
 |halt x w'=>
  cases x with
  |panic v=>exact⟨a,rfl,h⟩
  |_=>exact h.elim
theorem dU (h:o.wp P a w (λa' _=>a'.defers=a.defers) (λ_ _ _=>False)): ∀c,o.op≠ .defer c:=λc hc=>by
 unfold Oper.wp execOp at h
 rw[hc]at h
 simp only[Sem.run_bind]at h
 revert h
 generalize (resolve a.eval c o.type).run P w=res
 intro h
 cases res with
 |ok d w'=>
  have:=congrArg List.length (show(({ a with defers:=d::a.defers }:Act).put o.dst undef).defers=a.defers from h)
  rw[put_defers]at this
  simp at this
 |halt x w'=>cases x<;>exact h.elim
def kG (P:Program)(ops:Array Oper)(Q:Exit→Act→World→Prop)(l:List Oper)(a:Act)(w:World):Prop:=∀ r n ds,wpListIn (RD r) n P ops (uR ds Q) l (more a ds) w
theorem zo (h:Q .normal a w):kG P ops Q [] a w:=λ_ _ _=>⟨a,rfl,h⟩
theorem nL {l:List Oper}(hw:Region.wanted o (yielded ops a.tmps)=true)(h:o.wp P a w (kG P ops Q l) Q)(hnd: ∀c,o.op≠ .defer c):kG P ops Q (o::l) a w:=λr n ds=>by
 unfold wpListIn
 rw[qL,if_pos hw]
 exact Cm hnd h λa0 w' g=>g r n ds
theorem om {l:List Oper}(hw:Region.wanted o (yielded ops a.tmps)=false)(h:kG P ops Q l (a.put o.dst undef) w):kG P ops Q (o::l) a w:=λr n ds=>by
 unfold wpListIn
 rw[qL,if_neg (by simpa using hw),←jc]
 exact⟨λf _=>E1 r f,h r n ds⟩
def B0 (P:Program)(ops:Array Oper)(Q:Exit→Act→World→Prop)(i:Nat)(K:Act→World→Prop)(a:Act)(w:World):Prop:=
 match ops[i]? with
 |none=>K a w
 |some o=>if Region.wanted o (yielded ops a.tmps)then o.wp P a w K Q∧ ∀c,o.op≠ .defer c else K (a.put o.dst undef) w
def j0 (P:Program)(md:Region.Mode)(ops:Array Oper)(Q:Exit→Act→World→Prop):Nat→Array Bool→Act→World→Prop
 |0,listed,a,w=>Region.ready md ops listed=[]∧Q .normal a w
 |fuel+1,listed,a,w=>
  (Region.ready md ops listed=[]→Q .normal a w)∧
  ∀i∈Region.ready md ops listed,B0 P ops Q i (j0 P md ops Q fuel (listed.setIfInBounds i true)) a w
theorem jB {md:Region.Mode}(r:Option Nat)(n:Nat)(ds:List Deferred): ∀(fuel:Nat) (listed:Array Bool) (a:Act) (w:World),j0 P md ops Q fuel listed a w→wpAnyIn (RD r) n P md ops (uR ds Q) fuel listed (more a ds) w
 |0,_,a,_,h=>⟨h.1,a,rfl,h.2⟩
 |fuel+1,listed,a,w,h=>⟨λe=>⟨a,rfl,h.1 e⟩,λi hi=>by
  have:=h.2 i hi
  unfold B0 at this
  unfold wpOpIn
  cases ho:ops[i]? with
  |none=>
   rw[ho]at this
   exact jB r n ds fuel _ a w this
  |some o=>
   rw[ho]at this
   simp only at this ⊢
   rw[qL]
   split at this
   ·rename_i hw
    rw[if_pos hw]
    exact Cm this.2 this.1 λa0 w' g=>jB r n ds fuel _ a0 w' g
   ·rename_i hw
    rw[if_neg hw,←jc]
    exact⟨λf _=>E1 r f,jB r n ds fuel _ _ w this⟩⟩
theorem gU {c:Code}{Q':Exit→Act→World→Prop}(h:wpR P c Q a w)(hq: ∀e a w,Q e a w→Q' e a w):wpR P c Q' a w:=λr n ds=>
 wpIn_mono (h r n ds) λ_ _ _ ⟨a0,e,q⟩=>⟨a0,e,hq _ _ _ q⟩
theorem FL (h:Q .normal a w):wpR P .skip Q a w:=λ_ _ _=>wpIn_skip ⟨a,rfl,h⟩
theorem K4 (h:Q .ret a w):wpR P .ret Q a w:=λ_ _ _=>wpIn_ret ⟨a,rfl,h⟩
theorem Gx {id:Nat}(h:Q (.exit id) a w):wpR P (.exit id) Q a w:=λ_ _ _=>wpIn_exit ⟨a,rfl,h⟩
theorem ID {x y:Code}(h:wpR P x (Exit.then (λa' w'=>wpR P y Q a' w') Q) a w):wpR P (.seq x y) Q a w:=λr n ds=>
 wpIn_seq (wpIn_mono (h r n ds) λe a' w' ⟨a0,e0,q⟩=>by
  cases e with
  |normal=>subst e0;exact q r n ds
  |_=>exact⟨a0,e0,q⟩)
theorem mc {c:Operand}{x y:Code}{t:Bool}(hc:a.eval c= .bool t)(ht:t=true→wpR P x Q a w)(hf:t=false→wpR P y Q a w):wpR P (.cond c x y) Q a w:=λr n ds=>
 wpIn_cond_split (t:=t) hc (λe=>ht e r n ds) (λe=>hf e r n ds)
theorem En {id:Nat}{c:Code}(h:wpR P c (Exit.inBlock id Q) a w):wpR P (.block id c) Q a w:=λr n ds=>
 wpIn_block (wpIn_mono (h r n ds) λe a' w' ⟨a0,e0,q⟩=>by
  cases e with
  |exit id'=>
   simp only[Exit.inBlock]at q ⊢
   split at q<;>rename_i he
   ·rw[if_pos he];exact⟨a0,e0,q⟩
   ·rw[if_neg he];exact⟨a0,e0,q⟩
  |_=>exact⟨a0,e0,q⟩)
theorem GC {p:Nat→Prop}: ∀k,p k→ ∃k,p k∧ ∀j,p j→k≤j:=λk=>by
 induction k using Nat.strongRecOn with
 |_ k ih=>
  intro h
  by_cases hx: ∃j,j<k∧p j
  ·obtain⟨j,hj,hp⟩:=hx
   exact ih j hj hp
  ·exact⟨k,h,λj hp=>Nat.le_of_not_lt λhj=>hx ⟨j,hj,hp⟩⟩
theorem dO {p:Nat→Prop}(h: ∃k,p k): ∃k,p k∧ ∀j,p j→k≤j:=let ⟨k,hk⟩:=h;GC k hk
open Classical in
theorem Hp {c:Code}(I:Nat→Act→World→Prop)(k₀:Nat)(h₀:I k₀ a w)(round: ∀k a w,I k a w→wpR P c (Exit.then (λa' w'=>∃ k',k'<k∧I k' a' w') Q) a w):wpR P (.loop c) Q a w:=λr n ds=>by
 let p:Act→World→Nat→Prop:=λa' w' k=>∃ a0,a'=more a0 ds∧I k a0 w'
 refine wpIn_loop (λa' w'=>∃ k,p a' w' k) (λa' w'=>if h: ∃k,p a' w' k then Classical.choose (dO h)else 0) ⟨k₀,a,rfl,h₀⟩ λa' w' hI=>?_
 obtain⟨⟨a0,e0,hk⟩,hmin⟩:=Classical.choose_spec (dO hI)
 have hμ:(if h: ∃k,p a' w' k then Classical.choose (dO h)else 0)=Classical.choose (dO hI):=dif_pos hI
 rw[hμ]
 generalize Classical.choose (dO hI)=k at hk hmin ⊢
 subst e0
 refine wpIn_mono (round k a0 w' hk r n ds) λe a2 w2 ⟨a3,e3,q⟩=>?_
 cases e with
 |normal=>
  obtain⟨k',hlt,hI'⟩:=q
  have hex: ∃k,p a2 w2 k:=⟨k',a3,e3,hI'⟩
  refine⟨hex,?_⟩
  rw[dif_pos hex]
  exact Nat.lt_of_le_of_lt ((Classical.choose_spec (dO hex)).2 k' ⟨a3,e3,hI'⟩) hlt
 |_=>exact⟨a3,e3,q⟩
theorem sR {id:Nat}{l:List Oper}(h:kG P l.toArray Q l a w):wpR P (.region id l.toArray false) Q a w:=λr n ds=>wpIn_region_lit (h r n ds)
theorem tG {id:Nat}(hm:P.follows .mixedOrders=true)(h:j0 P .any ops Q ops.size (Array.replicate ops.size false) a { w with drawn:=w.drawn+1 }):wpR P (.region id ops true) Q a w:=λr n ds=>
 wpIn_region_any hm (jB r n ds _ _ a _ h)
theorem wu {c:Code}(h:wpR P c Q a w):c.wp P Q a w:=by
 have:=h none 0 []
 rw[eu]at this
 exact wpIn_wide.1 (wpIn_mono this λe a' w' ⟨a0,e0,q⟩=>by rw[e0,eu];exact q)
end
end Go.Av
end
section
namespace Go.Av
open Go
def Bld (σ:ab)(v:AV)(e:TypeId)(xs:List AV):Prop:=(v= .az∧xs=[])∨v= .lit e xs∨ ∃tok,v= .own e xs tok∧σ[tok]?=some (some .tok)
def eW :AV→Option Nat
 | .own _ _ t=>some t
 |_=>none
structure App (σ:ab)(x:AV)(e:TypeId)(zs:List AV)(v:AV)(σ':ab):Prop where
 bld:Bld σ' v e zs
 len:σ.length≤σ'.length
 old: ∀id,id<σ.length→eW x≠some id→σ'[id]?=σ[id]?
 tok:eW v=eW x∨ ∃t,eW v=some t∧σ.length≤t
def bytesOf (P:Program)(e:TypeId):Nat:=match P.info? e with|some i=>i.bytes|none=>0
def fh (σ:ab)(z:AV)(e:TypeId)(ys:List AV):Prop:=z.kO=some (e,ys)∨(z= .az∧ys=[])∨ ∃id off m zs,z= .row e id off m∧σ[id]?=some (some (.cells e zs))∧off+m≤zs.length∧ys=(zs.drop off).take m
def di (σ:ab)(x:AV)(e:TypeId)(xs:List AV):Prop:=(x= .az∧xs=[])∨x= .lit e xs∨ ∃id off m zs,x= .row e id off m∧σ[id]?=some (some (.cells e zs))∧off+m≤zs.length∧xs=(zs.drop off).take m
def bQ (x:AV)(σ:ab):ab:=match x with| .row _ id _ _=>σ.set id none|_=>σ
def oq (P:Program)(σ:ab)(ts:List TypeId)(x y:AV)(K:AV→ab→Prop):Prop:=
 match ts with
 |[t,u]=>∃ e xs ys,(elT P t=some e∧elT P u=some e∧0<af P e∧bw P e=true)∧Bld σ x e xs∧fh σ y e ys∧(xs.length+ys.length)*bytesOf P e≤140737488355328∧
   xs.length+ys.length≤maxLen∧ ∀v σ',App σ x e (xs++ys) v σ'→K v σ'
 |_=>False
def iR (P:Program)(σ:ab)(ts:List TypeId)(x y:AV)(K:AV→ab→Prop):Prop:=
 match ts with
 |[t,u]=>∃ e m z k kn,(x= .az∧y= .int k (m:Nat))∧(elT P t=some e∧P.underlying u=some (.int kn)∧0<af P e∧bw P e=true∧zeroOf P e=some z)∧0<m∧m*bytesOf P e≤140737488355328∧m≤maxLen∧
   K (.row e σ.length 0 m) (σ++[some (.cells e (List.replicate m z))])
 |_=>False
def jV (P:Program)(σ:ab)(ts:List TypeId)(x y:AV)(K:AV→ab→Prop):Prop:=
 match ts with
 |[t,u]=>∃ e xs ys,(elT P t=some e∧elT P u=some e∧0<af P e∧bw P e=true)∧di σ x e xs∧fh σ y e ys∧(xs.length+ys.length)*bytesOf P e≤140737488355328∧
   xs.length+ys.length≤maxLen∧(ys=[]→K x σ)∧(ys≠[]→K (.row e σ.length 0 (xs.length+ys.length)) (bQ x σ++[some (.cells e (xs++ys))]))
 |_=>False
def wk (P:Program)(A:aa)(t:TypeId)(u v:AV)(K:AV→ab→Prop):Prop:=
 match u,v with
 | .int _ m,.int _ m'=>m'=m∧(match elT P t with
  |some e=>(match zeroOf P e with
   |some z=>0<af P e∧0≤m∧m.toNat*bytesOf P e≤281474976710656∧m.toNat≤maxLen∧K (.row e A.st.length 0 m.toNat) (A.st++[some (.cells e (List.replicate m.toNat z))])
   |none=>False)
  |none=>False)
 |_,_=>False
def iJ (zs:List AV)(k:Nat)(ys:List AV):List AV:=zs.take k++ys++zs.drop (k+ys.length)
def kE (P:Program)(σ:ab)(ts:List TypeId)(x y:AV)(K:AV→ab→Prop):Prop:=
 match ts with
 |[t,u]=>∃ e id off m zs ys,(elT P t=some e∧elT P u=some e∧0<af P e)∧x= .row e id off m∧σ[id]?=some (some (.cells e zs))∧fh σ y e ys∧off+m+ys.length≤zs.length∧
   K (.row e id off (m+ys.length)) (σ.set id (some (.cells e (iJ zs (off+m) ys))))
 |_=>False
def pD (P:Program)(σ:ab)(ts:List TypeId)(x y:AV)(K:AV→ab→Prop):Prop:=False
def rh (P:Program)(σ:ab)(ts:List TypeId)(x y:AV)(K:AV→ab→Prop):Prop:=False
def Cv (P:Program)(σ:ab)(s d:TypeId)(u:AV)(K:AV→ab→Prop):Prop:=False
def nQ (P:Program)(σ:ab)(t:TypeId)(m:Nat)(qs:List (Nat×AV))(K:AV→ab→Prop):Prop:=
 match elT P t with
 |some e=>(0<af P e∧bw P e=true∧m*af P e≤16777216∧qs.map (·.1)=List.range' 0 m∧qs.all (λp=>bq P e p.2)=true)∧K (.row e σ.length 0 m) (σ++[some (.cells e (qs.map (·.2)))])
 |none=>False
def rS (P:Program)(σ:ab)(ts:List TypeId)(x:AV)(K:ab→Prop):Prop:=
 match ts with
 |[t]=>∃ e id off m zs v,(elT P t=some e∧0<af P e∧zeroOf P e=some v)∧x= .row e id off m∧σ[id]?=some (some (.cells e zs))∧off+m≤zs.length∧
   K (σ.set id (some (.cells e (iJ zs off (List.replicate m v)))))
 |_=>False
def Fc (P:Program)(A:aa)(t:TypeId)(u:AV)(lo hi mx:Option Operand)(K:AV→Prop):Prop:=False
def L6 (P:Program)(σ:ab)(t:TypeId)(u k v:AV)(K:ab→Prop):Prop:=False
def lf (P:Program)(fz:List Nat)(A:aa)(t:TypeId)(x:Operand)(u v:AV)(K:aa→Prop):Prop:=
 match u with
 | .ptr t' id i path=>(t'=t∧bq P t v=true)∧(match A.st[id]? with
  |some (some (.cells te xs))=>(match xs[i]? with
   |some z=>(match z.at path with
    |some _=>(match x with
     | .tmp d=>if fz.contains d then path=[]∧K ((A.upd d (.loc t v)).an (A.st.set id none))else K (A.an (A.st.set id (some (.cells te (xs.set i (z.setAt path v))))))
     |_=>False)
    |none=>False)
   |none=>False)
  |_=>False)
 |_=>False
def iG (n:Nat):Option Nat→Prop
 |some d=>d<n
 |none=>True
def uB (P:Program)(W0:World)(n:Nat)(fz:List Nat)(o:Oper)(A:aa)(K:aa→Prop):Prop:=
 iG n o.dst∧(match o.op with
 | .call c=>(match c.callee with
  | .value f=>strip none (A.val f) λfv=>stripL none (c.args.toList.map A.val) λus=>(match fv with
   | .fn g caps=>aY P W0 g (us++caps) A.st λr σ'=>K ((A.put o.dst r).an (σ'))
   |_=>False)
  | .builtin .append=>stripL none (c.args.toList.map A.val) λus=>(match us with
   |[x,y]=>(oq P A.st c.argTypes.toList x y λv σ'=>K ((A.put o.dst v).an (σ')))∨(jV P A.st c.argTypes.toList x y λv σ'=>K ((A.put o.dst v).an (σ')))∨(iR P A.st c.argTypes.toList x y λv σ'=>K ((A.put o.dst v).an (σ')))∨kE P A.st c.argTypes.toList x y (λv σ'=>K ((A.put o.dst v).an (σ')))∨pD P A.st c.argTypes.toList x y (λv σ'=>K ((A.put o.dst v).an (σ')))∨rh P A.st c.argTypes.toList x y λv σ'=>K ((A.put o.dst v).an (σ'))
   |_=>False)
  | .builtin .clear=>stripL none (c.args.toList.map A.val) λus=>(match us with
   |[x]=>rS P A.st c.argTypes.toList x λσ'=>K ((A.put o.dst (.tup [])).an (σ'))
   |_=>False)
  |_=>je P W0 none o.op A λv=>K (A.put o.dst v))
 | .box t x=>(match o.dst with
  |some d=>if fz.contains d then strip none (A.val x) λv=>bq P t v=true∧K (A.upd d (.loc t v))
   else strip none (A.val x) λv=>bq P t v=true∧K ((A.upd d (.ptr t A.st.length 0 [])).an (A.st++[some (.cells t [v])]))
  |none=>False)
 | .alloc t=>(match zeroOf P t with
  |some v=>K ((A.put o.dst (.ptr t A.st.length 0 [])).an (A.st++[some (.cells t [v])]))
  |none=>False)
 | .makeSlice t x y=>strip none (A.val x) λu=>strip none (A.val y) λv=>wk P A t u v λr σ'=>K ((A.put o.dst r).an σ')
 | .store t x y=>strip none (A.val x) λu=>strip none (A.val y) λv=>lf P fz A t x u v λA'=>K (A'.put o.dst .undef)
 | .range t x=>cc P t=true∧strip none (A.val x) λu=>(match u with
  | .str l=>K ((A.put o.dst (.it A.st.length)).an (A.st++[some (.iter l 0)]))
  |_=>False)
 | .next x true=>strip none (A.val x) λu=>(match u with
  | .it id=>(match A.st[id]? with
   |some (some (.iter l pos))=>(pos<l.length→K ((A.put o.dst (.tup [.bool true,.int .i64 pos,.int .i32 (gu l pos).1])).an (A.st.set id (some (.iter l (pos+(gu l pos).2))))))∧(l.length≤pos→K (A.put o.dst (.tup [.bool false])))
   |_=>False)
  |_=>False)
 | .slice t x lo hi mx=>(je P W0 none o.op A λv=>K (A.put o.dst v))∨strip none (A.val x) λu=>Fc P A t u lo hi mx λv=>K (A.put o.dst v)
 | .convert s d x=>(je P W0 none o.op A λv=>K (A.put o.dst v))∨strip none (A.val x) λu=>Cv P A.st s d u λv σ'=>K ((A.put o.dst v).an (σ'))
 | .buildSlice t m ps=>(je P W0 none o.op A λv=>K (A.put o.dst v))∨mC none A ps.toList λqs=>nQ P A.st t m qs λv σ'=>K ((A.put o.dst v).an (σ'))
 | .makeMap t none=>(match sV P t with
  |some (kt,_)=>K ((A.put o.dst (.mp A.st.length)).an (A.st++[some (.mp kt [])]))
  |none=>False)
 | .mapUpdate t x ix y=>strip none (A.val x) λu=>strip none (A.val ix) λk=>strip none (A.val y) λv=>L6 P A.st t u k v λσ'=>K ((A.put o.dst .undef).an (σ'))
 |_=>je P W0 none o.op A λv=>K (A.put o.dst v))
def yG (ops:Array Oper)(A:aa)(j:Nat)(want:Bool):Option Bool:=
 match (ops[j]?).bind (·.dst)with
 |some d=>(match A.env d with
  | .bool b=>some (b==want)
  | .maybe g (.bool b)=>some (g&&(b==want))
  | .maybe false _=>some false
  |_=>none)
 |none=>none
def pI (P:Program)(W0:World)(n:Nat)(fz:List Nat)(ops:Array Oper):List Oper→(aa→Prop)→aa→Prop
 |[],K,A=>K A
 |o::r,K,A=>match o.guard with
  |none=>uB P W0 n fz o A λA'=>pI P W0 n fz ops r K A'
  |some (j,want)=>(match yG ops A j want with
   |some G=>iG n o.dst∧((je P W0 (some G) o.op A λv=>pI P W0 n fz ops r K (A.put o.dst (.maybe G v)))∨
    ((G=true→uB P W0 n fz o A λA'=>pI P W0 n fz ops r K A')∧(G=false→ ∃v,pI P W0 n fz ops r K (A.put o.dst (.maybe false v)))))
   |none=>False)
def VC (P:Program)(W0:World)(n:Nat)(c:Code)(Q:Exit→aa→Prop)(A:aa):Prop:=
 ∀w C a,bI P W0 n w C A a→wpR P c (λe a' w'=>∃ A' C',Q e A'∧bI P W0 n w' C' A' a'∧Step w C w' C') a w
section
variable {P :Program}{W0 w w':World}{C C':Ctx}{σ σ':ab}{n:Nat}{A:aa}{a:Act}{o:Oper}{Q:Exit→aa→Prop}
theorem VC.skip (h:Q .normal A):VC P W0 n .skip Q A:=λ_ C _ hr=>FL ⟨A,C,h,hr,.refl _ _⟩
theorem VC.ret (h:Q .ret A):VC P W0 n .ret Q A:=λ_ C _ hr=>K4 ⟨A,C,h,hr,.refl _ _⟩
theorem VC.exit {id:Nat}(h:Q (.exit id) A):VC P W0 n (.exit id) Q A:=λ_ C _ hr=>Gx ⟨A,C,h,hr,.refl _ _⟩
theorem VC.mono {c:Code}{Q':Exit→aa→Prop}(h:VC P W0 n c Q A)(hq: ∀e A,Q e A→Q' e A):VC P W0 n c Q' A:=
 λw C a hr=>gU (h w C a hr) λ_ _ _ ⟨A',C',q,r,s⟩=>⟨A',C',hq _ _ q,r,s⟩
def bU (K:aa→Prop)(Q:Exit→aa→Prop):Exit→aa→Prop
 | .normal,A=>K A
 |e,A=>Q e A
theorem VC.seq {x y:Code}(h:VC P W0 n x (bU (VC P W0 n y Q) Q) A):VC P W0 n (.seq x y) Q A:=λw C a hr=>
 ID (gU (h w C a hr) λe a' w' ⟨A',C',q,r,s⟩=>by
  cases e with
  |normal=>exact gU (q w' C' a' r) λ_ _ _ ⟨A'',C'',q',r',s'⟩=>⟨A'',C'',q',r',s.trans s'⟩
  |_=>exact⟨A',C',q,r,s⟩)
theorem VC.cond {c:Operand}{x y:Code}{b:Bool}(hc:A.val c= .bool b)(ht:b=true→VC P W0 n x Q A)(hf:b=false→VC P W0 n y Q A):VC P W0 n (.cond c x y) Q A:=λw C a hr=>by
 have hv:=hr.val c
 rw[hc]at hv
 exact mc hv.gf (λh=>ht h w C a hr) (λh=>hf h w C a hr)
def dC (id:Nat)(Q:Exit→aa→Prop):Exit→aa→Prop
 | .exit id',A=>if id'=id then Q .normal A else Q (.exit id') A
 |e,A=>Q e A
theorem VC.block {id:Nat}{c:Code}(h:VC P W0 n c (dC id Q) A):VC P W0 n (.block id c) Q A:=λw C a hr=>
 En (gU (h w C a hr) λe a' w' ⟨A',C',q,r,s⟩=>by
  cases e with
  |exit id'=>
   simp only[dC]at q
   simp only[Exit.inBlock]
   split at q
   ·rename_i he;rw[if_pos he];exact⟨A',C',q,r,s⟩
   ·rename_i he;rw[if_neg he];exact⟨A',C',q,r,s⟩
  |_=>exact⟨A',C',q,r,s⟩)
theorem VC.loop {c:Code}(I:Nat→aa→Prop)(k₀:Nat)(h₀:I k₀ A)(round: ∀k A,I k A→VC P W0 n c (bU (λA'=>∃ k',k'<k∧I k' A') Q) A):VC P W0 n (.loop c) Q A:=λw C a hr=>
 Hp (λk a' w'=>∃ A' C',I k A'∧bI P W0 n w' C' A' a'∧Step w C w' C') k₀ ⟨A,C,h₀,hr,.refl _ _⟩ λk a' w' ⟨A',C',hI,hr',hs⟩=>
  gU (round k A' hI w' C' a' hr') λe a'' w'' ⟨A'',C'',q,r,s⟩=>by
   cases e with
   |normal=>
    obtain⟨k',hk,hI'⟩:=q
    exact⟨k',hk,A'',C'',hI',r,hs.trans s⟩
   |_=>exact⟨A'',C'',q,r,hs.trans s⟩
theorem kC (hr:bI P W0 n w C A a){v:AV}{x:Value}(hd:iG n o.dst)(hv:aF P w C v x):bI P W0 n w C (A.put o.dst v) (a.put o.dst x):=by
 cases ho:o.dst with
 |none=>simpa[aa.put,Act.put]using hr
 |some d=>
  rw[ho]at hd
  exact hr.put hd hv
theorem j7 (hr:bI P W0 n w C A a){v:AV}{x:Value}(hd:iG n o.dst)(hs:Step w C w' C')(hst:aB P W0 w' C' σ')(hv:aF P w' C' v x):bI P W0 n w' C' ((A.put o.dst v).an (σ')) (a.put o.dst x):=by
 have h1:=hr.step hs hst
 have h2:=kC (o:=o) h1 hd hv
 cases ho:o.dst with
 |none=>rw[ho]at h2;exact h2
 |some d=>rw[ho]at h2;exact h2
end
end Go.Av
end
section
namespace Go.Av
open Go
section
variable {P :Program}{W0 w w':World}{C C':Ctx}{σ σ':ab}{n:Nat}{A:aa}{a:Act}{o:Oper}
theorem ko {e:TypeId}{xs:List AV}{cf:Nat→List Value}{b off:Nat}(h3: ∀(i:Nat)(x:AV),xs[i]?=some x→Rel P w C x (cf i))(h4: ∀i x,xs[i]?=some x→(cf i).length=af P e∧fits P e x)
  (h5: ∀i,i<xs.length→Cells w C b (off+i*af P e) (cf i)):
  ∃news:List Value,news.length=xs.length*af P e∧(∀(j:Nat) (u:Value),news[j]?=some u→w.cell? ⟨b,off+j,none⟩=some u)∧(∀u∈news,u.oneCell'=true)∧
   ∀i x,xs[i]?=some x→ ∀(j:Nat) (u:Value),(cf i)[j]?=some u→news[i*af P e+j]?=some u:=by
 have key: ∀k,k≤xs.length→ ∃news:List Value,news.length=k*af P e∧(∀(j:Nat) (u:Value),news[j]?=some u→w.cell? ⟨b,off+j,none⟩=some u)∧(∀u∈news,u.oneCell'=true)∧
   ∀i x,i<k→xs[i]?=some x→ ∀(j:Nat) (u:Value),(cf i)[j]?=some u→news[i*af P e+j]?=some u:=by
  intro k
  induction k with
  |zero=>intro _;exact⟨[],by simp,by simp,by simp,λi x hi=>absurd hi (by omega)⟩
  |succ k ih=>
   intro hk
   obtain⟨news,g1,g2,g3,g4⟩:=ih (by omega)
   have hx:=List.getElem?_eq_getElem (show k<xs.length by omega)
   have hl:=(h4 k _ hx).1
   refine⟨news++cf k,by simp[g1,hl,Nat.succ_mul],λj u hj=>?_,λu hu=>?_,λi x hi hxi j u hj=>?_⟩
   ·by_cases hjl:j<news.length
    ·rw[List.getElem?_append_left hjl]at hj;exact g2 j u hj
    ·rw[List.getElem?_append_right (by omega),g1]at hj
     have:=(h5 k (by omega) _ u hj).1
     rwa [show off+k*af P e+(j-k*af P e)=off+j by omega]at this
   ·rcases List.mem_append.1 hu with hu|hu
    ·exact g3 u hu
    ·exact(h3 k _ hx).ky u hu
   ·by_cases hik:i=k
    ·subst hik
     rw[List.getElem?_append_right (by omega),g1,Nat.add_sub_cancel_left]
     exact hj
    ·have hjl:j<af P e:=by rw[←(h4 i x hxi).1];exact(List.getElem?_eq_some_iff.1 hj).1
     have:(i+1)*af P e≤k*af P e:=Nat.mul_le_mul_right _ (by omega)
     rw[Nat.succ_mul]at this
     rw[List.getElem?_append_left (by omega)]
     exact g4 i x (by omega) hxi j u hj
 obtain⟨news,g1,g2,g3,g4⟩:=key xs.length (Nat.le_refl _)
 exact⟨news,g1,g2,g3,λi x hx=>g4 i x (List.getElem?_eq_some_iff.1 hx).1 hx⟩
theorem p7 (h:aB P W0 w C σ){e te:TypeId}{id off m:Nat}{xs:List AV}{v:Value}(hv:aF P w C (.row e id off m) v)(hs:σ[id]?=some (some (.cells te xs)))(_hm:off+m≤xs.length):
  ∃(ad:Option Addr) (cap:Nat) (cf:Nat→List Value),v= .slice ad m cap∧m≤cap∧cap≤maxLen∧te=e∧(∀(i:Nat) (x:AV),((xs.drop off).take m)[i]?=some x→Rel P w C x (cf i))∧
   (∀i x,((xs.drop off).take m)[i]?=some x→(cf i).length=af P e∧fits P e x)∧ ∃b base room arr t' fr,C.m id=some (.obj b e base room)∧w.heap[b]?=some (.cells arr t' fr)∧wG fr arr.size∧arr.size=room∧
    (0<cap→ad=some ⟨b,base+off*af P e,none⟩)∧base+(off+cap)*af P e=room∧
    (∀i x,((xs.drop off).take m)[i]?=some x→ ∀(j:Nat) (c:Value),(cf i)[j]?=some c→arr[base+off*af P e+i*af P e+j]?=some c):=by
 have hv':=hv.aP rfl
 obtain⟨b,base,room,arr,t',fr,m1,m2,mf,m3,m4,cf,m5⟩:=h.cells hs
 have hget: ∀i x,((xs.drop off).take m)[i]?=some x→xs[off+i]?=some x:=λi x hx=>by
  rw[List.getElem?_take]at hx
  split at hx
  ·rwa [List.getElem?_drop]at hx
  ·cases hx
 cases hv' with
 |row h1 h2 h3 h4=>
  obtain⟨b',base',room',e1,e2,e3⟩:=h4 _ m1
  cases e1
  refine⟨_,_,λi=>cf (off+i),rfl,h1,h2,rfl,λi x hx=>(m5 _ _ (hget i x hx)).1,λi x hx=>⟨(m5 _ _ (hget i x hx)).2.1,(m5 _ _ (hget i x hx)).2.2.1⟩,b,base,room,arr,t',fr,m1,m2,mf,m3,e2,e3,λi x hx j c hj=>?_⟩
  have:=(m5 _ _ (hget i x hx)).2.2.2 j c hj
  rwa [show base+off*af P e+i*af P e+j=base+(off+i)*af P e+j by rw[Nat.add_mul];omega]
theorem fh.cells (h:aB P W0 w C σ){z:AV}{e:TypeId}{ys:List AV}{v:Value}(hr:fh σ z e ys)(hv:aF P w C z v):
  ∃(ad:Option Addr) (cap:Nat) (cf:Nat→List Value),v= .slice ad ys.length cap∧(∀(i:Nat) (x:AV),ys[i]?=some x→Rel P w C x (cf i))∧(∀i x,ys[i]?=some x→(cf i).length=af P e∧fits P e x)∧
   (0<ys.length→ ∃b off,ad=some ⟨b,off,none⟩∧ ∃news:List Value,news.length=ys.length*af P e∧(∀(j:Nat) (u:Value),news[j]?=some u→w.cell? ⟨b,off+j,none⟩=some u)∧(∀u∈news,u.oneCell'=true)∧
    ∀i x,ys[i]?=some x→ ∀(j:Nat) (u:Value),(cf i)[j]?=some u→news[i*af P e+j]?=some u):=by
 rcases hr with hr|⟨rfl,rfl⟩|⟨id,off,m,zs,rfl,hs,hm,rfl⟩
 ·obtain⟨hcase,hone⟩:=AV.kP hr
  obtain⟨ad,capy,cfy,hye,y1,y2,y3,y4,y5⟩:=(hv.aP hone).tw hcase
  refine⟨ad,capy,cfy,hye,y3,y4,λhpos=>?_⟩
  obtain⟨b,off,e1,y6⟩:=y5 hpos
  exact⟨b,off,e1,ko y3 y4 y6⟩
 ·exact⟨none,0,λ_=>[],hv.dR,by simp,by simp,by simp⟩
 ·obtain⟨ad,cap,cf,hve,g1,g2,_,g3,g4,b,base,room,arr,t',fr,m1,m2,mf,m3,g5,g6,g7⟩:=p7 h hv hs hm
  have hlen:((zs.drop off).take m).length=m:=by simp;omega
  rw[hlen]
  refine⟨ad,cap,cf,hve,g3,g4,λhpos=>⟨b,base+off*af P e,g5 (by omega),?_⟩⟩
  have key: ∀k,k≤m→ ∃news:List Value,news.length=k*af P e∧(∀(j:Nat) (u:Value),news[j]?=some u→w.cell? ⟨b,base+off*af P e+j,none⟩=some u)∧(∀u∈news,u.oneCell'=true)∧
    ∀i x,i<k→((zs.drop off).take m)[i]?=some x→ ∀(j:Nat) (u:Value),(cf i)[j]?=some u→news[i*af P e+j]?=some u:=by
   intro k
   induction k with
   |zero=>intro _;exact⟨[],by simp,by simp,by simp,λi x hi=>absurd hi (by omega)⟩
   |succ k ih=>
    intro hk
    obtain⟨news,n1,n2,n3,n4⟩:=ih (by omega)
    have hx:=List.getElem?_eq_getElem (show k<((zs.drop off).take m).length by omega)
    have hl:=(g4 k _ hx).1
    refine⟨news++cf k,by simp[n1,hl,Nat.succ_mul],λj u hj=>?_,λu hu=>?_,λi x hi hxi j u hj=>?_⟩
    ·by_cases hjl:j<news.length
     ·rw[List.getElem?_append_left hjl]at hj;exact n2 j u hj
     ·rw[List.getElem?_append_right (by omega),n1]at hj
      have:=g7 k _ hx _ u hj
      rw[show base+off*af P e+k*af P e+(j-k*af P e)=base+off*af P e+j by omega]at this
      simp[World.cell?,m2,this]
    ·rcases List.mem_append.1 hu with hu|hu
     ·exact n3 u hu
     ·exact(g3 k _ hx).ky u hu
    ·by_cases hik:i=k
     ·subst hik
      rw[List.getElem?_append_right (by omega),n1,Nat.add_sub_cancel_left]
      exact hj
     ·have hjl:j<af P e:=by rw[←(g4 i x hxi).1];exact(List.getElem?_eq_some_iff.1 hj).1
      have:(i+1)*af P e≤k*af P e:=Nat.mul_le_mul_right _ (by omega)
      rw[Nat.succ_mul]at this
      rw[List.getElem?_append_left (by omega)]
      exact n4 i x (by omega) hxi j u hj
  obtain⟨news,n1,n2,n3,n4⟩:=key m (Nat.le_refl _)
  exact⟨news,n1,n2,n3,λi x hx=>n4 i x (by have:=(List.getElem?_eq_some_iff.1 hx).1;omega) hx⟩
end
end Go.Av
end
section
namespace Go.Av
open Go
section
variable {P :Program}{W0 w w':World}{C C':Ctx}{σ σ':ab}{n:Nat}{A:aa}{a:Act}{o:Oper}
theorem gy {t u e e':TypeId}{i:TypeInfo}(ht:P.underlying t=some (.slice e))(hu:P.underlying u=some (.slice e'))(hi:P.info? e=some i)(ty:TypeId)(b:Option Addr)(l c:Nat)(y:Value)(w:World):
  (Builtin.append_ #[t,u] ty #[.slice b l c,y]).run P w=(Builtin.append_ #[t,t] ty #[.slice b l c,y]).run P w:=by
 have hsv:(sizeOf e).run P w= .ok i.size w:=by simp[sizeOf,typeInfo,hi]
 have h1: ∀v:TypeId,(#[t,v]:Array TypeId)[1]?=some v:=λ_=>rfl
 have h0: ∀v:TypeId,(#[t,v]:Array TypeId)[0]?=some t:=λ_=>rfl
 have h2:(#[.slice b l c,y]:Array Value)[0]?=some (.slice b l c):=rfl
 have h3:(#[.slice b l c,y]:Array Value)[1]?=some y:=rfl
 simp only[Builtin.append_,h0,h1,h2,h3,Sem.run_bind,run_underlying ht,run_underlying hu,Result.andThen_ok,hsv,Sem.run_pure]
theorem xu (h:aB P W0 w C σ){e:TypeId}{zs:List AV}{cap:Nat}{arr:Array Value}{cf:Nat→List Value}(hl:zs.length≤cap)(hc:cap≤maxLen)(hs:arr.size=cap*af P e)
  (hz: ∀i x,zs[i]?=some x→Rel P w C x (cf i)∧(cf i).length=af P e∧fits P e x∧ ∀(j:Nat) (u:Value),(cf i)[j]?=some u→arr[i*af P e+j]?=some u):
  ∃C',Step w C (w.alloc (.cells arr e)) C'∧aB P W0 (w.alloc (.cells arr e)) C' (σ++[some .tok])∧aF P (w.alloc (.cells arr e)) C' (.own e zs σ.length) (.slice (some ⟨w.heap.size,0,none⟩) zs.length cap):=by
 have hhw:zs.length*af P e≤arr.size:=by rw[hs];exact Nat.mul_le_mul_right _ hl
 obtain⟨h1,h2⟩:=h.push (ob:=.cells arr e) (ow:=.tok w.heap.size e (zs.length*af P e) cap) (so:=.tok) rfl ⟨arr,heap_alloc_new w _,hs,hhw⟩
 refine⟨_,h1,h2,.one rfl (.own cf hl hc (λi x hx=>(hz i x hx).1.mono h1) (λi x hx=>⟨(hz i x hx).2.1,(hz i x hx).2.2.1⟩) (λ_=>⟨w.heap.size,0,rfl,λi hi j u hj=>⟨?_,⟨by simp,λid ow hm he=>?_⟩⟩⟩) (by simp[Ctx.push,h.nx]) (λow how=>?_))⟩
 ·have:=(hz i _ (List.getElem?_eq_getElem hi)).2.2.2 j u hj
  rw[World.cell?_alloc_new,Nat.zero_add]
  exact this
 ·simp only[Ctx.push]at hm
  split at hm
  ·cases hm
   refine⟨_,_,_,rfl,?_⟩
   have hjl:j<af P e:=by rw[←(hz i _ (List.getElem?_eq_getElem hi)).2.1];exact(List.getElem?_eq_some_iff.1 hj).1
   have:(i+1)*af P e≤zs.length*af P e:=Nat.mul_le_mul_right _ hi
   rw[Nat.succ_mul]at this
   omega
  ·exact absurd he (by have:=h.lt hm;omega)
 ·simp only[Ctx.push,h.nx,if_true,Option.some.injEq]at how
  exact how.symm
theorem aB.tok (h:aB P W0 w C σ){id:Nat}(hs:σ[id]?=some (some .tok)): ∃b e hw cap arr,C.m id=some (.tok b e hw cap)∧w.heap[b]?=some (.cells arr e (0,0))∧arr.size=cap*af P e∧hw≤arr.size:=by
 have ho:=h.obj id
 rw[hs]at ho
 simp only[Option.join_some]at ho
 cases hm:C.m id with
 |none=>rw[hm]at ho;exact ho.elim
 |some ow=>
  rw[hm]at ho
  cases ow with
  |tok b e hw cap=>
   obtain⟨arr,h1,h2,h3⟩:=ho
   exact⟨b,e,hw,cap,arr,rfl,h1,h2,h3⟩
  |obj=>exact ho.elim
  |iter=>exact ho.elim
  |mp=>exact ho.elim
theorem GS (h:aB P W0 w C σ){tok b hw cap:Nat}{e:TypeId}{arr:Array Value}{news:List Value}(hs:σ[tok]?=some (some .tok))(hm:C.m tok=some (.tok b e hw cap))(hb:w.heap[b]?=some (.cells arr e (0,0)))
  (hsz:arr.size=cap*af P e) (hfit:hw+news.length≤arr.size):
  ∃C',Step w C (w.setRow b (bz arr hw news)) C'∧aB P W0 (w.setRow b (bz arr hw news)) C' (σ.set tok none++[some .tok])∧C'.nx=σ.length+1∧C'.m σ.length=some (.tok b e (hw+news.length) cap)∧
   ∀id ow,C'.m id=some ow→ow.blk=b→ow= .tok b e (hw+news.length) cap:=by
 have htl:tok<σ.length:=(List.getElem?_eq_some_iff.1 hs).1
 have hsize:(bz arr hw news).size=arr.size:=dw hfit
 have hnew:(w.setRow b (bz arr hw news)).heap[b]?=some (.cells (bz arr hw news) e (0,0)):=setRow_heap w b arr _ e _ hb
 have hC: ∀i ow,((C.kill tok).push (.tok b e (hw+news.length) cap)).m i=some ow→(i=C.nx∧ow= .tok b e (hw+news.length) cap)∨(i≠C.nx∧i≠tok∧C.m i=some ow):=λi ow hi=>by
  rw[qA,mE,nu]at hi
  split at hi
  ·rename_i he;cases hi;exact .inl ⟨he,rfl⟩
  ·rename_i he
   split at hi
   ·cases hi
   ·rename_i ht;exact .inr ⟨he,ht,hi⟩
 have hne: ∀i ow,i≠tok→C.m i=some ow→ow.blk≠b:=λi ow hi hm' he=>hi (h.inj i tok ow _ hm' hm (by simpa[Own.blk]using he))
 have hstep:Step w C (w.setRow b (bz arr hw news)) ((C.kill tok).push (.tok b e (hw+news.length) cap)):=by
  refine⟨by simp[Ctx.push,Ctx.kill],λid ow hid hi=>?_,λb' i hst=>?_,rfl,rfl,rfl,by simp,λb' hlt hn=>?_⟩
  ·rcases hC id ow hi with⟨he,_⟩|⟨_,_,h'⟩
   ·omega
   ·exact h'
  ·by_cases hbb:b'=b
   ·subst hbb
    obtain⟨e',hw',cap',e1,e2⟩:=hst.2 tok _ hm rfl
    cases e1
    refine⟨?_,by simpa using hst.1,λid ow hi he=>?_⟩
    ·simp only[World.cell?,hnew,hb,Option.isSome_none,Bool.false_eq_true,if_false]
     rw[bC hfit,if_neg (by omega)]
    ·rcases hC id ow hi with⟨_,rfl⟩|⟨_,ht,h'⟩
     ·exact⟨_,_,_,rfl,by omega⟩
     ·exact absurd he (hne id ow ht h')
   ·refine⟨cell_setRow_other w b _ ⟨b',i,none⟩ hbb,by simpa using hst.1,λid ow hi he=>?_⟩
    rcases hC id ow hi with⟨_,rfl⟩|⟨_,_,h'⟩
    ·exact absurd he (λe=>hbb e.symm)
    ·exact hst.2 id ow h' he
  ·refine⟨setRow_other w b b' _ (λe=>hn tok _ hm (by simp[Own.blk,e])),λid ow hi=>?_⟩
   rcases hC id ow hi with⟨_,rfl⟩|⟨_,_,h'⟩
   ·intro he;exact hn tok _ hm he
   ·exact hn id ow h'
 refine⟨_,hstep,h.change hstep (λi ow hi=>?_) (by simp[Ctx.push,Ctx.kill,h.nx]) (λi j x y hi hj he=>?_) (λi ow hi=>?_) (λi=>?_),by simp[Ctx.push,Ctx.kill,h.nx],by simp[Ctx.push,Ctx.kill,h.nx],λid ow hi he=>?_⟩
 ·rcases hC i ow hi with⟨_,rfl⟩|⟨_,_,h'⟩
  ·exact h.low tok (.tok b e hw cap) hm
  ·exact h.low i ow h'
 ·rcases hC i x hi with⟨e1,rfl⟩|⟨e1,t1,h1⟩
  ·rcases hC j y hj with⟨e2,rfl⟩|⟨e2,t2,h2⟩
   ·omega
   ·exact absurd he.symm (hne j y t2 h2)
  ·rcases hC j y hj with⟨e2,rfl⟩|⟨e2,t2,h2⟩
   ·exact absurd he (hne i x t1 h1)
   ·exact h.inj i j x y h1 h2 he
 ·simp only[Ctx.push,Ctx.kill]
  rcases hC i ow hi with⟨e1,_⟩|⟨_,_,h1⟩
  ·omega
  ·have:=h.dom i ow h1;omega
 ·rw[pS,List.length_set,j8 _ _ _ _ htl]
  by_cases hi:i=σ.length
  ·left
   rw[if_pos hi]
   have:((C.kill tok).push (.tok b e (hw+news.length) cap)).m i=some (.tok b e (hw+news.length) cap):=by simp[Ctx.push,Ctx.kill,hi,h.nx]
   rw[this]
   exact⟨_,hnew,by rw[hsize,hsz],by rw[hsize];exact hfit⟩
  ·rw[if_neg hi]
   by_cases ht:i=tok
   ·left
    rw[if_pos ht]
    have:((C.kill tok).push (.tok b e (hw+news.length) cap)).m i=none:=by
     rw[qA,mE,nu,if_neg (by rw[h.nx];exact hi),if_pos ht]
    rw[this]
    trivial
   ·right
    rw[if_neg ht]
    refine⟨rfl,?_,λow how=>setRow_other w b _ _ (hne i ow ht how)⟩
    rw[qA,mE,nu,if_neg (by rw[h.nx];exact hi),if_neg ht]
 ·rcases hC id ow hi with⟨_,rfl⟩|⟨_,t1,h1⟩
  ·rfl
  ·exact absurd he (hne id ow t1 h1)
theorem iw {t e:TypeId}{i:TypeInfo}(ht:P.underlying t=some (.slice e))(hi:P.info? e=some i)(ty:TypeId)(b ad:Option Addr)(l c c':Nat)(hl:l≤c)(w:World):
  (Builtin.append_ #[t,t] ty #[.slice b l c,.slice ad 0 c']).run P w= .ok (.slice b l c) w:=by
 cases b<;>cases ad<;>simp[Builtin.append_,run_underlying ht,sizeOf,typeInfo,hi,Builtin.lenOf,hl,Builtin.firstCells,loadCells,loadCellsFrom,storeCells]
theorem Rel.Cn {e:TypeId}{xs:List AV}{tok:Nat}{v:Value}(h:Rel P w C (.own e xs tok) [v]): ∃b cap cf,v= .slice (some ⟨b,0,none⟩) xs.length cap∧xs.length≤cap∧cap≤maxLen∧(∀(i:Nat) (x:AV),xs[i]?=some x→Rel P w C x (cf i))∧
   (∀i x,xs[i]?=some x→(cf i).length=af P e∧fits P e x)∧eR w C (af P e) (some ⟨b,0,none⟩) xs.length cf∧ ∀ow,C.m tok=some ow→ow= .tok b e (xs.length*af P e) cap:=by
 cases h with
 |own cf h1 h2 h3 h4 h5 h6 h7=>exact⟨_,_,cf,rfl,h1,h2,h3,h4,h5,h7⟩
theorem pG {e:TypeId}{i:TypeInfo}(h:P.info? e=some i):bytesOf P e=i.bytes:=by simp[bytesOf,h]
theorem DP (hr:fJ P W0 o w C A a){x y:Operand}{t u e:TypeId}{v z:AV}{xs ys:List AV}(ho:o.op= .call { callee:=.builtin .append,args:=#[x,y],argTypes:=#[t,u] })
  (hx:Is P W0 o A x v) (hy:Is P W0 o A y z) (ht:elT P t=some e) (hu:elT P u=some e) (he:0<af P e) (hz0:bw P e=true) (hb:Bld A.st v e xs) (hys:fh A.st z e ys)
  (hbytes:(xs.length+ys.length)*bytesOf P e≤140737488355328) (hmax:xs.length+ys.length≤maxLen):
  ∃r w' C' v' σ',(execOp a.eval o).run P w= .ok (.value r) w'∧App A.st v e (xs++ys) v' σ'∧Step w C w' C'∧aB P W0 w' C' σ'∧aF P w' C' v' r:=by
 obtain⟨inf,hinf,hsz⟩:=bJ he
 have htu:=cr ht
 have hrun: ∀b l c yv r w',(Builtin.append_ #[t,t] o.type #[.slice b l c,yv]).run P w= .ok r w'→a.eval x= .slice b l c→a.eval y=yv→(execOp a.eval o).run P w= .ok (.value r) w':=λb l c yv r w' h h1 h2=>by
  rw[←gy htu (cr hu) hinf]at h
  simp[execOp,ho,resolve,invoke,builtin,h1,h2,h]
 have hxv:=hx w C a hr
 have hyv:=hy w C a hr
 obtain⟨ady,capy,cfy,hye,y3,y4,y5⟩:=hys.cells hr.st hyv
 obtain⟨bx,cx,hxe,hlx⟩: ∃b c,a.eval x= .slice b xs.length c∧xs.length≤c:=by
  rcases hb with⟨rfl,rfl⟩|rfl|⟨tok,rfl,_⟩
  ·exact⟨none,0,hxv.dR,Nat.le_refl _⟩
  ·have:=hxv.aP rfl
   generalize a.eval x=v at this
   cases this with
   |lit=>exact⟨_,_,rfl,Nat.le_refl _⟩
  ·obtain⟨b,cap,cf,h1,h2,_⟩:=(hxv.aP rfl).Cn
   exact⟨_,_,h1,h2⟩
 cases hyl:ys with
 |nil=>
  subst hyl
  refine⟨_,w,C,v,A.st,hrun _ _ _ _ _ _ (iw htu hinf _ _ _ _ _ _ hlx w) hxe hye,⟨by simpa using hb,Nat.le_refl _,λ_ _ _=>rfl,.inl rfl⟩,.refl _ _,hr.st,by rw[←hxe];exact hxv⟩
 |cons y0 yr=>
  rw[←hyl]
  have hpos:0<ys.length:=by simp[hyl]
  obtain⟨by_,oy,rfl,news,n1,n2,n3,n4⟩:=y5 hpos
  have n2': ∀j u,news[j]?=some u→w.cell? ((⟨by_,oy,none⟩:Addr).add j)=some u:=λj u hj=>by rw[Addr.add_lit];exact n2 j u hj
  obtain⟨inf',z0,hinf',hiz,hzs⟩:=gQ hz0
  obtain rfl:inf'=inf:=by rw[hinf]at hinf';exact(Option.some.inj hinf').symm
  have hmax':xs.length+ys.length≤9223372036854775807:=by unfold maxLen at hmax;omega
  rw[pG hinf]at hbytes
  rcases hb with⟨rfl,rfl⟩|rfl|⟨tok,rfl,htok⟩
  ·-- a nil slice
   simp only[List.length_nil,Nat.zero_add]at hbytes hmax hmax'
   have hxe':=hxv.dR
   have hap:=run_append_nil (P:=P) w t o.type e inf' z0 htu hinf hiz ⟨by_,oy,none⟩ ys.length capy news (by rw[n1,hsz]) n2' hpos (by omega) (by omega)
   have hge:=grownCap_ge w ys.length 0 e
   have hcap:=grownCap_le_maxLen w ys.length 0 e hmax
   obtain⟨C',g1,g2,g3⟩:=xu (P:=P) (W0:=W0) hr.st.drew (e:=e) (zs:=ys) (cap:=grownCap w ys.length 0 e) (arr:=news.toArray++Builtin.zeroCells z0.cells (grownCap w ys.length 0 e-ys.length)) (cf:=cfy) hge hcap
    (by simp only[Array.size_append,List.size_toArray,size_zeroCells,n1,hzs,←Nat.add_mul];congr 1;omega)
    (λi x hx=>⟨(y3 i x hx).mono (Step.drew w C),(y4 i x hx).1,(y4 i x hx).2,λj u hj=>by
     have:=n4 i x hx j u hj
     rw[Array.getElem?_append_left (by simpa using (List.getElem?_eq_some_iff.1 this).1)]
     simpa using this⟩)
   refine⟨_,_,C',_,_,hrun _ _ _ _ _ _ hap hxe' hye,⟨.inr (.inr ⟨_,rfl,by simp⟩),by simp,λid hid _=>by rw[List.getElem?_append_left hid],.inr ⟨_,rfl,Nat.le_refl _⟩⟩,(Step.drew w C).trans g1,g2,g3⟩
  ·-- a list as long as its row
   obtain⟨adx,capx,cfx,hxq,x1,x2,x3,x4,x5⟩:=(hxv.aP rfl).tw (.inr (.inl rfl))
   have hcx:capx=xs.length:=by
    have:=hxv.aP rfl
    rw[hxq]at this
    cases this
    rfl
   subst hcx
   have hlen:(xs++ys).length=xs.length+ys.length:=by simp
   have hgetl: ∀i x,(xs++ys)[i]?=some x→(i<xs.length∧xs[i]?=some x)∨(xs.length≤i∧ys[i-xs.length]?=some x):=λi x hx=>by
    by_cases hi:i<xs.length
    ·rw[List.getElem?_append_left hi]at hx;exact .inl ⟨hi,hx⟩
    ·rw[List.getElem?_append_right (by omega)]at hx;exact .inr ⟨by omega,hx⟩
   have hge:=grownCap_ge w (xs.length+ys.length) xs.length e
   have hcap:=grownCap_le_maxLen w (xs.length+ys.length) xs.length e hmax
   have fin: ∀(olds:List Value),olds.length=xs.length*af P e→(∀i x,xs[i]?=some x→ ∀(j:Nat) (u:Value),(cfx i)[j]?=some u→olds[i*af P e+j]?=some u)→
     (Builtin.append_ #[t,t] o.type #[.slice adx xs.length xs.length,a.eval y]).run P w= .ok (.slice (some ⟨w.heap.size,0,none⟩) (xs.length+ys.length) (grownCap w (xs.length+ys.length) xs.length e)) (w.drew.alloc (.cells (olds.toArray++news.toArray++Builtin.zeroCells z0.cells (grownCap w (xs.length+ys.length) xs.length e-(xs.length+ys.length))) e))→
     ∃r w' C' v' σ',(execOp a.eval o).run P w= .ok (.value r) w'∧App A.st (.lit e xs) e (xs++ys) v' σ'∧Step w C w' C'∧aB P W0 w' C' σ'∧aF P w' C' v' r:=λolds p1 p4 hap=>by
    obtain⟨C',g1,g2,g3⟩:=xu (P:=P) (W0:=W0) hr.st.drew (e:=e) (zs:=xs++ys) (cap:=grownCap w (xs.length+ys.length) xs.length e)
     (arr:=olds.toArray++news.toArray++Builtin.zeroCells z0.cells (grownCap w (xs.length+ys.length) xs.length e-(xs.length+ys.length))) (cf:=λi=>if i<xs.length then cfx i else cfy (i-xs.length)) (by rw[hlen];exact hge) hcap
     (by simp only[Array.size_append,List.size_toArray,size_zeroCells,p1,n1,hzs,←Nat.add_mul];congr 1;omega)
     (λi x hx=>by
      rcases hgetl i x hx with⟨hi,hx'⟩|⟨hi,hx'⟩
      ·simp only[hi,if_true]
       refine⟨(x3 i x hx').mono (Step.drew w C),(x4 i x hx').1,(x4 i x hx').2,λj u hj=>?_⟩
       have:=p4 i x hx' j u hj
       have hl:=(List.getElem?_eq_some_iff.1 this).1
       rw[Array.getElem?_append_left (by simp;omega),Array.getElem?_append_left (by simpa using hl)]
       simpa using this
      ·simp only[show ¬i<xs.length by omega,if_false]
       refine⟨(y3 _ x hx').mono (Step.drew w C),(y4 _ x hx').1,(y4 _ x hx').2,λj u hj=>?_⟩
       have:=n4 _ x hx' j u hj
       have hl:=(List.getElem?_eq_some_iff.1 this).1
       have hmul:i*af P e=xs.length*af P e+(i-xs.length)*af P e:=by rw[←Nat.add_mul];congr 1;omega
       rw[Array.getElem?_append_left (by simp;omega),Array.getElem?_append_right (by simp;omega)]
       simp only[List.size_toArray,p1,List.getElem?_toArray]
       rw[show i*af P e+j-xs.length*af P e=(i-xs.length)*af P e+j by omega]
       exact this)
    rw[hlen]at g3
    exact⟨_,_,C',_,_,hrun _ _ _ _ _ _ hap hxq rfl,⟨.inr (.inr ⟨_,rfl,by simp⟩),by simp,λid hid _=>by rw[List.getElem?_append_left hid],.inr ⟨_,rfl,Nat.le_refl _⟩⟩,(Step.drew w C).trans g1,g2,g3⟩
   rw[hye]at fin
   cases adx with
   |none=>
    have hx0:xs=[]:=by
     cases xs with
     |nil=>rfl
     |cons c r=>obtain⟨b,off,e1,_⟩:=x5 (by simp);cases e1
    subst hx0
    simp only[List.length_nil,Nat.zero_add]at hbytes hmax hmax' fin
    have hap:=run_append_nil (P:=P) w t o.type e inf' z0 htu hinf hiz ⟨by_,oy,none⟩ ys.length capy news (by rw[n1,hsz]) n2' hpos (by omega) (by omega)
    exact fin [] (by simp) (by simp) (by simpa using hap)
   |some b0=>
    have hcells: ∃olds:List Value,olds.length=xs.length*af P e∧(∀(j:Nat) (u:Value),olds[j]?=some u→w.cell? (b0.add j)=some u)∧ ∀i x,xs[i]?=some x→ ∀(j:Nat) (u:Value),(cfx i)[j]?=some u→olds[i*af P e+j]?=some u:=by
     by_cases hxl:xs=[]
     ·subst hxl;exact⟨[],by simp,by simp,by simp⟩
     ·have hxp:0<xs.length:=by cases xs with|nil=>exact absurd rfl hxl|cons=>simp
      obtain⟨bx',ox',e1,x6⟩:=x5 hxp
      cases e1
      obtain⟨olds,p1,p2,p3,p4⟩:=ko x3 x4 x6
      exact⟨olds,p1,λj u hj=>by rw[Addr.add_lit];exact p2 j u hj,p4⟩
    obtain⟨olds,p1,p2,p4⟩:=hcells
    exact fin olds p1 p4 (run_append_grow (P:=P) w t o.type e inf' z0 htu hinf hiz b0 xs.length xs.length olds (by rw[p1,hsz]) p2 ⟨by_,oy,none⟩ ys.length capy news (by rw[n1,hsz]) n2' (by omega) (by omega) (growslice_fits (by omega) hbytes))
  ·-- a row of the call's own
   obtain⟨b,cap,cf,hxq,c1,c2,c3,c4,c5,c6⟩:=(hxv.aP rfl).Cn
   obtain⟨b',e',hw,cap',arr,t1,t2,t3,t4⟩:=hr.st.tok htok
   have t5:=c6 _ t1
   cases t5
   have htl:tok<A.st.length:=(List.getElem?_eq_some_iff.1 htok).1
   have hlen:(xs++ys).length=xs.length+ys.length:=by simp
   have hgetl: ∀i x,(xs++ys)[i]?=some x→(i<xs.length∧xs[i]?=some x)∨(xs.length≤i∧ys[i-xs.length]?=some x):=λi x hx=>by
    by_cases hi:i<xs.length
    ·rw[List.getElem?_append_left hi]at hx;exact .inl ⟨hi,hx⟩
    ·rw[List.getElem?_append_right (by omega)]at hx;exact .inr ⟨by omega,hx⟩
   have hxcells: ∀(i:Nat) (x:AV),xs[i]?=some x→ ∀(j:Nat) (u:Value),(cf i)[j]?=some u→arr[i*af P e+j]?=some u∧i*af P e+j<xs.length*af P e:=λi x hx j u hj=>by
    have hi:=(List.getElem?_eq_some_iff.1 hx).1
    obtain⟨b2,o2,e2,hc⟩:=c5 (by omega)
    cases e2
    have h1:=(hc i hi j u hj).1
    simp only[World.cell?,t2,Nat.zero_add,Option.isSome_none,Bool.false_eq_true,if_false]at h1
    have hjl:j<af P e:=by rw[←(c4 i x hx).1];exact(List.getElem?_eq_some_iff.1 hj).1
    have:(i+1)*af P e≤xs.length*af P e:=Nat.mul_le_mul_right _ hi
    rw[Nat.succ_mul]at this
    exact⟨h1,by omega⟩
   by_cases hroom:xs.length+ys.length≤cap
   ·-- in place
    have hfit:xs.length*af P e+news.length≤arr.size:=by rw[n1,t3,←Nat.add_mul];exact Nat.mul_le_mul_right _ hroom
    have hap:=run_append_room (P:=P) w t o.type e inf' htu hinf b xs.length cap arr t2 ⟨by_,oy,none⟩ ys.length capy news (by rw[n1,hsz]) n2' n3 hroom (by rw[hsz];exact hfit)
    rw[hsz]at hap
    replace hap:_=Result.ok _ (w.setRow b (bz arr (xs.length*af P e) news)):=hap
    obtain⟨C',g1,g2,g3,g4,g5⟩:=GS hr.st htok t1 t2 t3 hfit
    have hnewcell: ∀i,(w.setRow b (bz arr (xs.length*af P e) news)).cell? ⟨b,i,none⟩=(bz arr (xs.length*af P e) news)[i]?:=λi=>cell_setRow_same w b i arr _ e _ t2
    refine⟨_,_,C',.own e (xs++ys) A.st.length,_,hrun _ _ _ _ _ _ hap hxq hye,⟨.inr (.inr ⟨_,rfl,by simp⟩),by simp,λid hid hne=>?_,.inr ⟨_,rfl,Nat.le_refl _⟩⟩,g1,g2,?_⟩
    ·rw[List.getElem?_append_left (by simpa using hid),List.getElem?_set_ne (λe=>hne (by simp[eW,e]))]
    ·rw[←hlen]
     refine .one rfl (.own (λi=>if i<xs.length then cf i else cfy (i-xs.length)) (by rw[hlen];exact hroom) c2 (λi x hx=>?_) (λi x hx=>?_) (λ_=>⟨b,0,rfl,λi hi j u hj=>?_⟩) (by rw[g3];omega) (λow how=>?_))
     ·rcases hgetl i x hx with⟨hi,hx'⟩|⟨hi,hx'⟩
      ·rw[if_pos hi];exact(c3 i x hx').mono g1
      ·rw[if_neg (by omega)];exact(y3 _ x hx').mono g1
     ·rcases hgetl i x hx with⟨hi,hx'⟩|⟨hi,hx'⟩
      ·simp only[hi,if_true];exact c4 i x hx'
      ·simp only[show ¬i<xs.length by omega,if_false];exact y4 _ x hx'
     ·have hst: ∀k,k<xs.length*af P e+news.length→eH (w.setRow b (bz arr (xs.length*af P e) news)) C' b k:=λk hk=>
       ⟨by simpa using (Array.getElem?_eq_some_iff.1 t2).1,λid ow hm hbk=>⟨_,_,_,g5 id ow hm hbk,hk⟩⟩
      rw[hnewcell,Nat.zero_add,bC hfit]
      by_cases hix:i<xs.length
      ·simp only[hix,if_true]at hj
       obtain⟨q1,q2⟩:=hxcells i _ (List.getElem?_eq_getElem hix) j u hj
       rw[if_neg (by omega)]
       exact⟨q1,hst _ (by omega)⟩
      ·simp only[hix,if_false]at hj
       rw[hlen]at hi
       have hyi:=List.getElem?_eq_getElem (show i-xs.length<ys.length by omega)
       have hnw:=n4 _ _ hyi j u hj
       have hnl:=(List.getElem?_eq_some_iff.1 hnw).1
       have hmul:i*af P e=xs.length*af P e+(i-xs.length)*af P e:=by rw[←Nat.add_mul];congr 1;omega
       rw[if_pos (by omega),show i*af P e+j-xs.length*af P e=(i-xs.length)*af P e+j by omega]
       exact⟨hnw,hst _ (by omega)⟩
     ·rw[g4]at how
      cases how
      rw[n1,hlen,Nat.add_mul]
   ·-- a new row
    obtain⟨olds,p1,p2,p3,p4⟩:=ko (P:=P) (e:=e) (b:=b) (off:=0) c3 c4 (λi hi=>by
     obtain⟨b2,o2,e2,hc⟩:=c5 (by omega)
     cases e2
     exact hc i hi)
    have hap:=run_append_grow (P:=P) w t o.type e inf' z0 htu hinf hiz ⟨b,0,none⟩ xs.length cap olds (by rw[p1,hsz]) (λj u hj=>by rw[Addr.add_lit];exact p2 j u hj) ⟨by_,oy,none⟩ ys.length capy news (by rw[n1,hsz]) n2' (by omega) (by omega) (growslice_fits (by omega) hbytes)
    have hge:=grownCap_ge w (xs.length+ys.length) cap e
    have hcap:=grownCap_le_maxLen w (xs.length+ys.length) cap e hmax
    obtain⟨k1,k2⟩:=hr.st.kill tok htl
    obtain⟨C',g1,g2,g3⟩:=xu (P:=P) (W0:=W0) k2.drew (e:=e) (zs:=xs++ys) (cap:=grownCap w (xs.length+ys.length) cap e)
     (arr:=olds.toArray++news.toArray++Builtin.zeroCells z0.cells (grownCap w (xs.length+ys.length) cap e-(xs.length+ys.length))) (cf:=λi=>if i<xs.length then cf i else cfy (i-xs.length)) (by rw[hlen];exact hge) hcap
     (by simp only[Array.size_append,List.size_toArray,size_zeroCells,p1,n1,hzs,←Nat.add_mul];congr 1;omega)
     (λi x hx=>by
      have hs:=k1.trans (Step.drew w _)
      rcases hgetl i x hx with⟨hi,hx'⟩|⟨hi,hx'⟩
      ·simp only[hi,if_true]
       refine⟨(c3 i x hx').mono hs,(c4 i x hx').1,(c4 i x hx').2,λj u hj=>?_⟩
       have:=p4 i x hx' j u hj
       have hl:=(List.getElem?_eq_some_iff.1 this).1
       rw[Array.getElem?_append_left (by simp;omega),Array.getElem?_append_left (by simpa using hl)]
       simpa using this
      ·simp only[show ¬i<xs.length by omega,if_false]
       refine⟨(y3 _ x hx').mono hs,(y4 _ x hx').1,(y4 _ x hx').2,λj u hj=>?_⟩
       have:=n4 _ x hx' j u hj
       have hl:=(List.getElem?_eq_some_iff.1 this).1
       have hmul:i*af P e=xs.length*af P e+(i-xs.length)*af P e:=by rw[←Nat.add_mul];congr 1;omega
       rw[Array.getElem?_append_left (by simp;omega),Array.getElem?_append_right (by simp;omega)]
       simp only[List.size_toArray,p1,List.getElem?_toArray]
       rw[show i*af P e+j-xs.length*af P e=(i-xs.length)*af P e+j by omega]
       exact this)
    rw[hlen]at g3
    rw[List.length_set]at g3
    refine⟨_,_,C',_,_,hrun _ _ _ _ _ _ hap hxq hye,⟨.inr (.inr ⟨A.st.length,rfl,by simp⟩),by simp,λid hid hne=>?_,.inr ⟨_,rfl,Nat.le_refl _⟩⟩,(k1.trans (Step.drew w _)).trans g1,g2,g3⟩
    rw[List.getElem?_append_left (by simpa using hid),List.getElem?_set_ne (λe=>hne (by simp[eW,e]))]
end
end Go.Av
end
