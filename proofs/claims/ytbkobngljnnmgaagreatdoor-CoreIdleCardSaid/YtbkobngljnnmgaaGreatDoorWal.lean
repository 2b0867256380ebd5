/- What the last text of this claim rests on. No conditions. -/
import Derived.Shelf.Strings.OnBuilder
import Derived.Test.YtbkobngljnnmgaaGreatDoorProg
import Derived.Test.YtbkobngljnnmgaaGreatDoorWai
import Derived.Test.YtbkobngljnnmgaaGreatDoorWak
set_option linter.unusedSimpArgs false
set_option linter.unusedVariables false
section
namespace Go.Av
def TF (σ st:ab)(v:AV)(e:TypeId)(xs:List AV):Prop:=(v= .ar/\xs=[])\/ ∃id,v= .row e id 0 xs.length/\st[id]?=some (some (.cells e xs))/\σ.length<=id
section
variable {P :Program}{σ st:ab}{v:AV}{e:TypeId}{xs:List AV}
theorem TF.rs (h:TF σ st v e xs):ee st v e xs:=by
 rcases h with h|⟨id,rfl,h,_⟩
 .exact .inl h
 .exact .inr (.inr ⟨id,0,_,xs,rfl,h,by omega,by simp_all⟩)
theorem TF.more (h:TF σ st v e xs)(l:ab):TF σ (st++l) v e xs:=by
 rcases h with h|⟨id,h1,h2,h3⟩
 .exact .inl h
 .exact .inr ⟨id,h1,by grind,h3⟩
end
end Go.Av
end
section
namespace Go.Proofs.Tryz
open Go Go.Av
set_option maxRecDepth 10000
variable {W0 :World}
end Go.Proofs.Tryz
end
section
namespace Go.Av
open Go
section
variable {P :Program}{W0 w w':World}{C:Ctx}{σ:ab}
theorem Step.below (hB:RowKit.Below w.heap.size w w'):Step w C w' C where
 nx:=Nat.le_refl _
 dead:=λ_ _ _ h=>h
 gZ:=λb o h=>⟨by simp only[World.cell?,hB.block b h.1],Nat.lt_of_lt_of_le h.1 hB.size,h.2⟩
 os:=hB.os
 tape:=hB.tape
 output:=hB.output
 size:=hB.size
 block:=λb hb hn=>⟨hB.block b hb,hn⟩
theorem aE.Iy (h:aE P W0 w C σ){i:Nat}{ow:Own}(hm:C.m i=some ow):ow.blk<w.heap.size:=by
 have ho:=h.obj i;rw[hm]at ho;have key: ∀{b:Nat} {o:Obj},w.heap[b]?=some o->b<w.heap.size:=λhb=>(Array.getElem?_eq_some_iff.1 hb).1
 generalize (σ[i]?).join=so at ho;cases so with
 |none=>exact ho.elim
 |some so=>
  cases so<;>cases ow<;>first
   |exact False.elim ho
   |(obtain⟨_,arr,t',fr,hb,_⟩:=ho;exact key hb)
   |(obtain⟨arr,hb,_⟩:=ho;exact key hb)
   |(obtain⟨es,clock,hb,_⟩:=ho;exact key hb)
   |exact key ho
theorem mO {f : FuncId} {fn : Func} {args : List AV} {r : AV} (hf : P.funcs[f]? = some fn) (hb : fn.body.isSome = true) (hnm : (fn.name == "runtime.NumGoroutine") = false)
  (h: ∀(w:World) (C:Ctx) (vs:List Value),args.length=vs.length->(∀(i:Nat) (a:AV) (v:Value),args[i]?=some a->vs[i]?=some v->aJ P w C a v)->Calls P f vs.toArray w λe w'=>∃ v,e= .returned v/\(∀w C,aJ P w C r v)/\RowKit.Below w.heap.size w w'):ai P W0 f args r:=λσ w C vs hst hl hv=>
 .inl ⟨⟨fn,hf,hb,hnm⟩,(h w C vs hl hv).mono λe w' ⟨v,he,hr,hB⟩=>by
  have hs:Step w C w' C:=.below hB;exact⟨v,r,σ,C,he,⟨rfl,rfl⟩,hst.world hs λi ow hm=>hB.block _ (hst.Iy hm),hr w' C,hs⟩⟩
end
end Go.Av
end
section
namespace Go.Proofs.Tryz
open Go Go.Av
set_option maxRecDepth 10000
variable {W0 :World}
def Hg (l:List (List UInt8)):AV:=.sl 9 (l.map .str)
end Go.Proofs.Tryz
end
