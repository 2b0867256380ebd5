/- Texts that the last one of this claim rests on: a layer over the guide's own conditions for code; contracts of the functions that the law reaches, one by one. No conditions beside those of the given rows. -/
import Derived.Test.YtekjlnodoelblaaGreatDoorWah
import Derived.Test.YtekjlnodoelblaaGreatDoorWai
import Derived.Test.YtekjlnodoelblaaGreatDoorWaj
import Derived.Test.YtekjlnodoelblaaGreatDoorWak
import Derived.Test.YtekjlnodoelblaaGreatDoorWam
set_option linter.unusedSimpArgs false
set_option linter.unusedVariables false
section
namespace Go.Av
def RowX (σ st : Store) (v : AV) (e : TypeId) (xs : List AV) : Prop:=(v = .nils ∧ xs = []) ∨ ∃ id,v = .row e id 0 xs.length ∧ st[id]? = some (some (.cells e xs)) ∧ σ.length ≤ id
section
variable {P : Program} {σ st : Store} {v : AV} {e : TypeId} {xs : List AV}
theorem RowX.more (h : RowX σ st v e xs) (l : Store) : RowX σ (st ++ l) v e xs:=by
 rcases h with h | ⟨id,h1,h2,h3⟩
 ·exact .inl h
 ·exact .inr ⟨id,h1,by rw [List.getElem?_append_left ((List.getElem?_eq_some_iff.1 h2).1)]; exact h2,h3⟩
end
end Go.Av
namespace Go.Proofs.Tryz
open Go Go.Av
set_option maxRecDepth 10000
variable {W0 : World}

end Go.Proofs.Tryz
end
section
namespace Go.Av
open Go

section
variable {P : Program} {W0 w w' : World} {C : Ctx} {σ : Store}
theorem Step.below (hB : RowKit.Below w.heap.size w w') : Step w C w' C where
 nx:=Nat.le_refl _
 dead:=fun _ _ _ h=>h
 stable:=fun b o h=>⟨by simp only [World.cell?,hB.block b h.1],Nat.lt_of_lt_of_le h.1 hB.size,h.2⟩
 os:=hB.os
 tape:=hB.tape
 output:=hB.output
 size:=hB.size
 block:=fun b hb hn=>⟨hB.block b hb,hn⟩
theorem StRel.blk_lt (h : StRel P W0 w C σ) {i : Nat} {ow : Own} (hm : C.m i = some ow) : ow.blk < w.heap.size:=by
 have ho:=h.obj i
 rw [hm] at ho
 have key : ∀ {b : Nat} {o : Obj},w.heap[b]? = some o → b < w.heap.size:=fun hb=>(Array.getElem?_eq_some_iff.1 hb).1
 generalize (σ[i]?).join = so at ho
 cases so with
 | none=>exact ho.elim
 | some so =>
  cases so <;> cases ow <;> first
   | exact False.elim ho
   | (obtain ⟨_,arr,t',fr,hb,_⟩:=ho; exact key hb)
   | (obtain ⟨arr,hb,_⟩:=ho; exact key hb)
   | (obtain ⟨es,clock,hb,_⟩:=ho; exact key hb)
   | exact key ho
theorem pure_below {f : FuncId} {fn : Func} {args : List AV} {r : AV} (hf : P.funcs[f]? = some fn) (hb : fn.body.isSome = true) (hnm : (fn.name == "runtime.NumGoroutine") = false)
  (h : ∀ (w : World) (C : Ctx) (vs : List Value),args.length = vs.length → (∀ (i : Nat) (a : AV) (v : Value),args[i]? = some a → vs[i]? = some v → RelV P w C a v) → Calls P f vs.toArray w fun e w'=>∃ v,e = .returned v ∧ (∀ w C,RelV P w C r v) ∧ RowKit.Below w.heap.size w w') : PureFn P W0 f args r:=fun σ w C vs hst hl hv =>
 .inl ⟨⟨fn,hf,hb,hnm⟩,(h w C vs hl hv).mono fun e w' ⟨v,he,hr,hB⟩=>by
  have hs : Step w C w' C:=.below hB
  exact ⟨v,r,σ,C,he,⟨rfl,rfl⟩,hst.world hs fun i ow hm=>hB.block _ (hst.blk_lt hm),hr w' C,hs⟩⟩
end
def joinL (l : List (List UInt8)) (sep : List UInt8) : List UInt8:=Lib.join l sep
theorem joinL_nil (sep : List UInt8) : joinL [] sep = []:=rfl
theorem joinL_one (x sep : List UInt8) : joinL [x] sep = x:=Lib.join_one x sep
end Go.Av
namespace Go.Proofs.Tryz
open Go Go.Av
set_option maxRecDepth 10000
variable {W0 : World}

def strsAV (l : List (List UInt8)) : AV:=.sl 9 (l.map .str)
theorem str_join (l : List (List UInt8)) (sep : List UInt8) (hl : l.length ≤ 140737488355328) (hlen : (joinL l sep).length ≤ 140737488355328) : PureFn prog W0 137 [strsAV l,.str sep] (.str (joinL l sep)):=by
 refine pure_below func137 (by kernel_rfl) (by kernel_rfl) fun w C vs hvl hv=>?_
 obtain _ | ⟨v1,_ | ⟨v2,_ | ⟨_,_⟩⟩⟩:=vs <;> simp at hvl
 have h1:=hv 0 _ _ rfl rfl
 have h2:=hv 1 _ _ rfl rfl
 have hr : ∀ w C,RelV prog w C (.str (joinL l sep)) (.string ⟨(joinL l sep).toArray⟩):=fun w C=>.one rfl (.str (by rw [maxLen_eq]; omega))
 have e2 : v2 = .string ⟨sep.toArray⟩:=by
  have:=h2.one_inv rfl
  cases this
  rfl
 subst e2
 obtain ⟨ad,cap,cf,rfl,x1,x2,x3,x4,x5⟩:=(h1.one_inv rfl).sl_of (e:=9) (xs:=l.map .str) (.inl rfl)
 have hml : (l.map AV.str).length = l.length:=List.length_map ..
 rw [hml] at x1 x5 ⊢
 have hsz : szOf prog 9 = 1:=by kernel_rfl
 by_cases hl0 : l = []
 ·subst hl0
  exact (Any.strings_Join_none Tryz.lays156 Tryz.extra156 ad cap ⟨sep.toArray⟩ w).mono fun e w' ⟨he,hw⟩=>⟨_,he,hr,hw ▸ RowKit.Below.refl _ _⟩
 have hpos : 0 < l.length:=by cases l with | nil=>exact absurd rfl hl0 | cons=>simp
 obtain ⟨b,o,rfl,hc⟩:=x5 hpos
 have hcell : ∀ (j : Nat) (s : List UInt8),l[j]? = some s → w.cell? ⟨b,o + j,none⟩ = some (.string ⟨s.toArray⟩) ∧ b < w.heap.size:=fun j s hj=>by
  have hjs : (l.map AV.str)[j]? = some (.str s):=by rw [List.getElem?_map,hj]; rfl
  have hcf : cf j = [.string ⟨s.toArray⟩]:=by
   have:=x3 j _ hjs
   generalize cf j = z at this
   cases this
   rfl
  have:=hc j (List.getElem?_eq_some_iff.1 hj).1 0 (.string ⟨s.toArray⟩) (by rw [hcf]; rfl)
  rw [hsz,Nat.mul_one,Nat.add_zero] at this
  exact ⟨this.1,this.2.1⟩
 obtain ⟨s0,hs0⟩:=get_some hpos
 have hj:=Any.strings_Join Tryz.lays156 Tryz.extra156 b o cap (l.map fun s=>⟨s.toArray⟩) ⟨sep.toArray⟩ w (fun j x hx=>by
  rw [List.getElem?_map] at hx
  obtain ⟨s,hs,rfl⟩:=Option.map_eq_some_iff.1 hx
  exact (hcell j s hs).1) (hcell 0 s0 hs0).2 (by simpa using hl) (by simpa using x1) (by simpa [joinL,Function.comp_def] using hlen)
 simp only [List.length_map,List.map_map,Function.comp_def,List.map_id'] at hj
 exact hj.mono fun e w' ⟨he,hw⟩=>⟨_,he,hr,hw⟩
end Go.Proofs.Tryz
end
