/- Texts that the last one of this claim rests on: a layer over the guide's own conditions for code; contracts of the functions that the law reaches, one by one. No conditions beside those of the given rows. -/
import Derived.WalkKit
import Derived.Lib.SliceRun
import Derived.Test.YtekjlnodoelblaaGreatDoorWai
import Derived.Test.YtekjlnodoelblaaGreatDoorWap
import Derived.Test.YtekjlnodoelblaaGreatDoorWaw
import Derived.Test.YtekjlnodoelblaaGreatDoorWay
import Derived.Test.YtekjlnodoelblaaGreatDoorWba
import Derived.Test.YtekjlnodoelblaaGreatDoorWbb
set_option linter.unusedSimpArgs false
set_option linter.unusedVariables false
section
namespace Go.Av
open Go
theorem ConvA.keep {P : Program} {A : AState} {s e : TypeId} {id off m : Nat} {xs : List AV} {dst : Option Nat} {k : AState → Prop} (hs : elT P s = some e) (he : intT P e = some .u8) (h0 : 0 < m) (hσ : A.st[id]? = some (some (.cells e xs))) (hm : off + m ≤ xs.length)
  (hk : k ((A.put dst (.sl e ((xs.drop off).take m))).withSt (A.st.set id none))) : ConvA P s s (.row e id off m) dst A k .mk:=.inr (.inr ⟨e,id,off,m,xs,rfl,⟨rfl,hs,he⟩,h0,hσ,hm,hk⟩)
end Go.Av
namespace Go.Proofs.Tryz
open Go Go.Av
set_option maxRecDepth 10000
variable {W0 : World}

theorem shape_at : eqShape prog 36 = some [1,1]:=by kernel_rfl
@[go_sem] theorem eqAt (a b c d : Int) : eqAgg prog 36 [.int .i64 a,.int .i64 b] [.int .i64 c,.int .i64 d] = some (a == c && b == d):=by
 simp only [eqAgg_K shape_at,eqKs,eqK1,if_true,Option.map_some,Option.bind_some,Bool.and_true]
theorem at0 (x : AV) (r : List AV) : atV (x :: r) 0 = x:=rfl
theorem reach_eq9 : reachBytes = 140737488351232:=by decide
theorem l9_light (l : List Pkg) (hp : ∀ p ∈ l,PkgR p) : PureFn prog W0 26 [pkgsAV l] (.bool (lightL9 0 l)):=by
 refine fn_pure [2] [4] func26 rfl rfl ntmps26 rfl rfl (.bool _) fun hs σ=>?_
 have hl:=(small_map (hs _ (List.mem_cons_self ..))).1
 have hls:=(small_map (hs _ (List.mem_cons_self ..))).2
 simp only [go_sem,simprocAttr,↓reduceIte,pkgsAV,List.length_map]
 refine LoopVC.upto [9,10] (.of (by kernel_rfl)) l.length (fun i A=>A.env 11 = .int .i64 i ∧ Ext σ A.st ∧ lightL9 i (l.drop i) = lightL9 0 l) 0 (Nat.zero_le _) ?_ fun i B hi ⟨h8,hst,hI⟩=>?_
 ·simp only [go_sem,simprocAttr,↓reduceIte]
  simp [Ext.refl]
 simp only [go_sem,simprocAttr,↓reduceIte,h8,List.length_map]
 refine ⟨fun hc=>⟨hc,?_⟩,fun hc=>?_⟩
 ·obtain ⟨p,hpi⟩:=get_some hc
  simp only [atV_map hpi]
  have hR:=hp p (List.mem_of_getElem? hpi)
  have r1:=hR.con; have r2:=hR.brk; have r3:=hR.prov
  rw [reach_eq9] at r1 r2 r3
  have hw1 : IntKind.i64.wrap ((p.con.length : Int) + (p.brk.length : Int)) = ((p.con.length : Int) + (p.brk.length : Int)):=wrap_in (by omega)
  have hw2 : IntKind.i64.wrap ((p.con.length : Int) + (p.brk.length : Int) + (p.prov.length : Int)) = ((p.con.length : Int) + (p.brk.length : Int) + (p.prov.length : Int)):=wrap_in (by omega)
  rw [List.drop_eq_getElem_cons hc,lightL9] at hI
  have hpe : l[i] = p:=(List.getElem?_eq_some_iff.1 hpi).2
  rw [hpe] at hI
  simp only [go_sem,simprocAttr,↓reduceIte,pkgAV,atomsAV,provsAV,h8,List.length_map,hw1,hw2]
  have e3 : [clausesAV p.pre,clausesAV p.dep,clausesAV p.rcm] = [p.pre,p.dep,p.rcm].map clausesAV:=rfl
  refine ⟨fun hb=>⟨weak_bool ?_,hst.app _⟩,fun hb=>?_⟩
  ·have : lightP9 i p = false:=by
    unfold lightP9
    simp only [Bool.or_eq_true,decide_eq_true_eq] at hb
    rcases hb with hb | hb
    ·rw [decide_eq_false (show ¬ i < 40 by omega)]; rfl
    ·rw [decide_eq_false (show ¬ p.con.length + p.brk.length + p.prov.length ≤ 60 by omega),Bool.and_false]; rfl
   rw [← hI,this]; rfl
  simp only [Bool.or_eq_false_iff,decide_eq_false_iff_not] at hb
  have hP : lightP9 i p = [p.pre,p.dep,p.rcm].all lightD9:=by
   unfold lightP9
   rw [decide_eq_true (show i < 40 by omega),decide_eq_true (show p.con.length + p.brk.length + p.prov.length ≤ 60 by omega)]; rfl
  simp only [e3]
  have hds:=hls p (List.mem_of_getElem? hpi)
  refine LoopVC.ats [9,10,11] (.of (by kernel_rfl)) (fun A=>Ext σ A.st ∧ lightP9 i p = true) ?_ fun B2 ⟨hst,h6⟩=>?_
  ·refine LoopVC.upto [9,10,11,38] (.of (by kernel_rfl)) 3 (fun j A=>A.env 39 = .int .i64 j ∧ Ext σ A.st ∧ ([p.pre,p.dep,p.rcm].drop j).all lightD9 = [p.pre,p.dep,p.rcm].all lightD9) 0 (Nat.zero_le _) ?_ fun j B2 hj ⟨h39,hst,hJ⟩=>?_
   ·simp only [go_sem,simprocAttr,↓reduceIte]
    exact hst.app _
   simp only [go_sem,simprocAttr,↓reduceIte,h39]
   simp only [e3]
   refine ⟨fun hc2=>?_,fun hc2=>?_⟩
   ·have hc3 : j < [p.pre,p.dep,p.rcm].length:=by show j < 3; omega
    obtain ⟨d,hdj⟩:=get_some hc3
    have hde:=(List.getElem?_eq_some_iff.1 hdj).2
    rw [List.drop_eq_getElem_cons hc3,hde,List.all_cons] at hJ
    simp only [getD_map hdj]
    simp only [go_sem,simprocAttr,↓reduceIte,clausesAV,h39,List.length_map]
    refine ⟨hc3,?_⟩
    have hlD : lightD9 d = (decide (d.length ≤ 30) && d.all fun c=>decide (c.length ≤ 30)):=rfl
    refine ⟨fun hb=>⟨weak_bool ?_,hst⟩,fun hb=>?_⟩
    ·rw [← hI,hP,← hJ,hlD,decide_eq_false (by omega)]; rfl
    rw [decide_eq_true (show d.length ≤ 30 by omega),Bool.true_and] at hlD
    refine LoopVC.ats [9,10,11,38,39] (.of (by kernel_rfl)) (fun A=>Ext σ A.st ∧ (d.all fun c=>decide (c.length ≤ 30)) = true) ?_ fun B3 ⟨hst,h6⟩=>?_
    ·refine LoopVC.upto [9,10,11,38,39,45,46] (.of (by kernel_rfl)) d.length (fun k A=>A.env 47 = .int .i64 k ∧ Ext σ A.st ∧ ∀ c ∈ d.take k,c.length ≤ 30) 0 (Nat.zero_le _) ?_ fun k B3 hk ⟨h47,hst,hK⟩=>?_
     ·simp only [go_sem,simprocAttr,↓reduceIte]
      simp [hst]
     simp only [go_sem,simprocAttr,↓reduceIte,h47,List.length_map]
     refine ⟨fun hc4=>⟨hc4,?_⟩,fun hc4=>?_⟩
     ·obtain ⟨c,hck⟩:=get_some hc4
      simp only [atV_map hck]
      simp only [go_sem,simprocAttr,↓reduceIte,atomsAV,h47,List.length_map]
      refine ⟨fun hb=>⟨weak_bool ?_,hst⟩,fun hb=>⟨hc4,int_succ hc4 (by rw [maxLen_eq]; omega),hst,?_⟩⟩
      ·have : (d.all fun c=>decide (c.length ≤ 30)) = false:=by
        rw [List.all_eq_false]
        exact ⟨c,List.mem_of_getElem? hck,by simp; omega⟩
       rw [← hI,hP,← hJ,hlD,this]; rfl
      ·rw [take_succ_get hck]
       intro x hx
       rcases List.mem_append.1 hx with hx | hx
       ·exact hK x hx
       ·rw [List.mem_singleton.1 hx]; omega
     ·rw [List.take_of_length_le hc4] at hK
      exact ⟨hst,List.all_eq_true.2 fun c hcm=>decide_eq_true (hK c hcm)⟩
    simp only [go_sem,simprocAttr,↓reduceIte,h39]
    refine ⟨by omega,int_succ (show j < 3 by omega) (by rw [maxLen_eq]; omega),hst,?_⟩
    rw [hlD,h6,Bool.true_and] at hJ
    simpa using hJ
   ·have : j = 3:=by omega
    subst this
    exact ⟨hst,by rw [hP,← hJ]; rfl⟩
  simp only [go_sem,simprocAttr,↓reduceIte,h8]
  refine ⟨hc,int_succ hc hl,hst,?_⟩
  rw [h6,Bool.true_and] at hI
  exact hI
 ·have : i = l.length:=by omega
  subst this
  rw [List.drop_length] at hI
  exact ⟨weak_bool hI,hst⟩


theorem l9_awake (hW : TabsOk W0) : PureFn prog W0 12 [] (.bool true):=by
 refine fn_pure [0] [2,4,5000006,5000007,5000012,5000013] func12 rfl rfl ntmps12 rfl rfl (.bool _) fun hs σ=>?_
 simp only [go_sem,simprocAttr,↓reduceIte]
 refine ConvA.keep (by kernel_rfl) (by kernel_rfl) (by decide) List.getElem?_concat_length (by simp) ?_
 simp only [go_sem,simprocAttr,↓reduceIte]
 refine CallA.fn (re_Packages hW awT1) ?_
 rw [aw9_1]
 simp only [go_sem,simprocAttr,↓reduceIte,pkgsAV,atAV]
 refine ConvA.keep (xs:=awT2.map byteAV) (by kernel_rfl) (by kernel_rfl) (by decide) (show (σ ++ [none,none,some (.cells 5 (awT2.map byteAV))])[σ.length + 2]? = _ by simp) (by simp [awT2]) ?_
 simp only [go_sem,simprocAttr,↓reduceIte]
 refine CallA.fn (re_Packages hW awT2) ?_
 rw [aw9_2]
 simp only [go_sem,simprocAttr,↓reduceIte,pkgsAV,atAV,pkgAV,clausesAV,at0,Option.map_some,Option.getD_some]
end Go.Proofs.Tryz
end
section
namespace Go.Av
def textA (l : List Atom) : List UInt8:=textL (single l)
def textP (l : List Prov) : List UInt8:=textA (l.map provAtom)
end Go.Av
namespace Go.Proofs.Tryz
open Go Go.Av
set_option maxRecDepth 10000
variable {W0 : World}
theorem rl_atoms (l : List Atom) (hl : l.length ≤ 1048576) : PureFn prog W0 119 [atomsAV l] (.str (textA l)):=by
 refine fn_pure [2] [5] func119 rfl rfl ntmps119 rfl rfl (.str _) fun hs σ=>?_
 simp only [go_sem,simprocAttr,↓reduceIte,atomsAV]
 refine LoopVC.at [] (.of (by kernel_rfl)) (fun A=>∃ v,A.env 3 = v ∧ Built σ A.st v 85 (l.map clause1)) ?_ fun B ⟨v,h3,hb⟩=>?_
 ·refine LoopVC.upto [6,7] (.of (by kernel_rfl)) l.length (fun i A=>∃ v,A.env 3 = v ∧ A.env 8 = .int .i64 i ∧ Built σ A.st v 85 ((l.take i).map clause1)) 0 (Nat.zero_le _) ?_ fun i B hi ⟨v,h3,h8,hb⟩=>?_
  ·simp only [go_sem,simprocAttr,↓reduceIte]
   exact ⟨_,rfl,Built.nil (.refl _) _⟩
  simp only [go_sem,simprocAttr,↓reduceIte,h3,h8,hb.ok,hb.un,List.length_map]
  refine ⟨fun hc=>⟨hc,?_⟩,fun hc=>?_⟩
  ·obtain ⟨a,ha⟩:=get_some hc
   simp only [atV_map ha]
   simp only [go_sem,simprocAttr,↓reduceIte,atomAV,h3,h8,hb.ok,hb.un]
   refine AppA.own 1048576 (by kernel_rfl) (hb.more _).bld (.lit _ _ _) (by simp; omega) fun v' σ' ha'=>?_
   have hb':=(hb.more _).app ha'
   simp only [go_sem,simprocAttr,↓reduceIte,h3,h8,hb.ok,hb.un,hb'.ok,hb'.un]
   refine ⟨hc,_,rfl,int_succ hc (by rw [maxLen_eq]; omega),?_⟩
   rw [take_succ_get ha,List.map_append]
   exact hb'
  ·rw [List.take_of_length_le hc] at hb
   exact ⟨_,rfl,hb⟩
 simp only [go_sem,simprocAttr,↓reduceIte,h3,hb.ok,hb.un]
 refine CallA.fn ((rl_text (single l)).weak (.cons (hb.weak.trans (.sub (clauses_single l))) .nil)) ?_
 simp only [go_sem,simprocAttr,↓reduceIte]
 exact ⟨weak_str rfl,hb.ext⟩
theorem rl_provs (l : List Prov) (hl : l.length ≤ 1048576) : PureFn prog W0 120 [provsAV l] (.str (textP l)):=by
 refine fn_pure [2] [5] func120 rfl rfl ntmps120 rfl rfl (.str _) fun hs σ=>?_
 simp only [go_sem,simprocAttr,↓reduceIte,provsAV]
 refine LoopVC.at [] (.of (by kernel_rfl)) (fun A=>∃ v,A.env 3 = v ∧ Built σ A.st v 100 (l.map fun p=>atomAV (provAtom p))) ?_ fun B ⟨v,h3,hb⟩=>?_
 ·refine LoopVC.upto [7,8] (.of (by kernel_rfl)) l.length (fun i A=>∃ v,A.env 3 = v ∧ A.env 9 = .int .i64 i ∧ Built σ A.st v 100 ((l.take i).map fun p=>atomAV (provAtom p))) 0 (Nat.zero_le _) ?_ fun i B hi ⟨v,h3,h8,hb⟩=>?_
  ·simp only [go_sem,simprocAttr,↓reduceIte]
   exact ⟨_,rfl,Built.nil (.refl _) _⟩
  simp only [go_sem,simprocAttr,↓reduceIte,h3,h8,hb.ok,hb.un,List.length_map]
  refine ⟨fun hc=>⟨hc,?_⟩,fun hc=>?_⟩
  ·obtain ⟨a,ha⟩:=get_some hc
   simp only [atV_map ha]
   simp only [go_sem,simprocAttr,↓reduceIte,provAV,h3,h8,hb.ok,hb.un]
   refine JoinVC.at [3,6,7,8,9] (by kernel_rfl) (fun A=>A.st = B.st ++ [none,some (.cells 100 [atomAV (provAtom a)])]) (fun h=>?_) (fun h=>?_) fun A hst=>?_
   ·simp only [go_sem,simprocAttr,↓reduceIte,atomAV,provAtom]
    simp only [Bool.not_eq_true',beq_eq_false_iff_ne] at h
    rw [if_neg h]
   ·simp only [go_sem,simprocAttr,↓reduceIte,atomAV,provAtom]
    simp only [Bool.not_eq_false',beq_iff_eq] at h
    rw [if_pos h]
   have hb2 : Built σ A.st v 100 ((l.take i).map fun p=>atomAV (provAtom p)):=by rw [hst]; exact hb.more _
   simp only [go_sem,simprocAttr,↓reduceIte,h3,h8,hst,hb.ok,hb.un,atomAV]
   refine AppA.own 1048576 (by kernel_rfl) hb2.bld (.lit _ _ _) (by simp; omega) fun v' σ' ha'=>?_
   have hb':=hb2.app ha'
   simp only [go_sem,simprocAttr,↓reduceIte,h3,h8,hb.ok,hb.un,hb'.ok,hb'.un]
   refine ⟨hc,_,rfl,int_succ hc (by rw [maxLen_eq]; omega),?_⟩
   rw [take_succ_get ha,List.map_append]
   exact hb'
  ·rw [List.take_of_length_le hc] at hb
   exact ⟨_,rfl,hb⟩
 have hw : Weak v (atomsAV (l.map provAtom)):=by
  refine hb.weak.trans (.sub ?_)
  have:=atoms_map (l.map provAtom)
  rw [List.map_map] at this
  exact this
 simp only [go_sem,simprocAttr,↓reduceIte,h3,hb.ok,hb.un]
 refine CallA.fn ((rl_atoms (l.map provAtom) (by rw [List.length_map]; exact hl)).weak (.cons hw .nil)) ?_
 simp only [go_sem,simprocAttr,↓reduceIte]
 exact ⟨weak_str rfl,hb.ext⟩
end Go.Proofs.Tryz
end
section
namespace Go.Av
theorem good_cl {c : Clause} (h : goodCl c = true) : c ≠ [] ∧ c.length ≤ 6 ∧ ∀ a ∈ c,mayAtom a = true:=by
 unfold goodCl at h
 simp only [Bool.and_eq_true,decide_eq_true_eq,List.all_eq_true] at h
 exact ⟨fun e=>h.1.1 (by rw [e]; rfl),h.1.2,h.2⟩
end Go.Av
end
section
namespace Go.Proofs.Tryz
open Go Go.Av
set_option maxRecDepth 10000
variable {W0 : World}
theorem relEmpty (e : TypeId) (a : Option Addr) (cap : Nat) (h : cap ≤ maxLen) (w : World) (C : Ctx) : RelV prog w C (.sl e []) (.slice a 0 cap) :=
 .one rfl (Rel.sl (xs:=[]) (fun _=>[]) (Nat.zero_le _) h (fun i x h=>by simp at h) (fun i x h=>by simp at h) fun hn=>absurd hn (by simp))
theorem cl_atoms0 : PureFn prog W0 122 [atomsAV []] (atomsAV []):=by
 refine pure_below func122 (by kernel_rfl) (by kernel_rfl) fun w C vs hvl hv=>?_
 obtain _ | ⟨v1,_ | ⟨_,_⟩⟩:=vs <;> simp at hvl
 have h1:=(hv 0 _ _ rfl rfl).one_inv rfl
 cases h1
 rename_i a cap cf hc hm hr hz hs
 simp only [List.map_nil,List.length_nil] at hm
 show Calls _ _ #[Value.slice a 0 cap] _ _
 have q30 : ∀ (w : World) (a : Option Addr) (n c n' c' : Nat),(binOp .eql 30 (.slice a n c) (.slice none n' c')).run prog w = .ok (.bool a.isNone) w:=fun w a n c n' c'=>Lib.run_eql_slice_nil w _ _ a n c n' c' Tryz.underlying30
 clear hv hr hz hs
 cases a
 all_goals go_enter Tryz.func122,Tryz.ntmps122
 all_goals go_wp2
 all_goals go_ret
 ·exact ⟨_,rfl,relEmpty _ _ _ (Nat.zero_le _),RowKit.Below.refl _ w⟩
 ·exact ⟨_,rfl,relEmpty _ _ _ (Nat.zero_le _),(RowKit.Below.refl _ w).alloc (Nat.le_refl _) _⟩
theorem cl_provs0 : PureFn prog W0 123 [provsAV []] (provsAV []):=by
 refine pure_below func123 (by kernel_rfl) (by kernel_rfl) fun w C vs hvl hv=>?_
 obtain _ | ⟨v1,_ | ⟨_,_⟩⟩:=vs <;> simp at hvl
 have h1:=(hv 0 _ _ rfl rfl).one_inv rfl
 cases h1
 rename_i a cap cf hc hm hr hz hs
 simp only [List.map_nil,List.length_nil] at hm
 show Calls _ _ #[Value.slice a 0 cap] _ _
 have q30 : ∀ (w : World) (a : Option Addr) (n c n' c' : Nat),(binOp .eql 31 (.slice a n c) (.slice none n' c')).run prog w = .ok (.bool a.isNone) w:=fun w a n c n' c'=>Lib.run_eql_slice_nil w _ _ a n c n' c' Tryz.underlying31
 clear hv hr hz hs
 cases a
 all_goals go_enter Tryz.func123,Tryz.ntmps123
 all_goals go_wp2
 all_goals go_ret
 ·exact ⟨_,rfl,relEmpty _ _ _ (Nat.zero_le _),RowKit.Below.refl _ w⟩
 ·exact ⟨_,rfl,relEmpty _ _ _ (Nat.zero_le _),(RowKit.Below.refl _ w).alloc (Nat.le_refl _) _⟩
theorem cl_clause0 : PureFn prog W0 174 [atomsAV []] (atomsAV []):=by
 refine pure_below func174 (by kernel_rfl) (by kernel_rfl) fun w C vs hvl hv=>?_
 obtain _ | ⟨v1,_ | ⟨_,_⟩⟩:=vs <;> simp at hvl
 have h1:=(hv 0 _ _ rfl rfl).one_inv rfl
 cases h1
 rename_i a cap cf hc hm hr hz hs
 simp only [List.map_nil,List.length_nil] at hm
 show Calls _ _ #[Value.slice a 0 cap] _ _
 have q30 : ∀ (w : World) (a : Option Addr) (n c n' c' : Nat),(binOp .eql 85 (.slice a n c) (.slice none n' c')).run prog w = .ok (.bool a.isNone) w:=fun w a n c n' c'=>Lib.run_eql_slice_nil w _ _ a n c n' c' Tryz.underlying85
 clear hv hr hz hs
 cases a
 all_goals go_enter Tryz.func174,Tryz.ntmps174
 all_goals go_wp2
 all_goals go_ret
 ·exact ⟨_,rfl,relEmpty _ _ _ (Nat.zero_le _),RowKit.Below.refl _ w⟩
 ·exact ⟨_,rfl,relEmpty _ _ _ (Nat.zero_le _),(RowKit.Below.refl _ w).alloc (Nat.le_refl _) _⟩
theorem cl_atomsA (l : List Atom) (hl : l.length ≤ 1048576) : PureFn prog W0 122 [atomsAV l] (atomsAV l):=by
 cases l with
 | nil=>exact cl_atoms0
 | cons x c=>exact cl_atoms (x :: c) hl
theorem cl_provsA (l : List Prov) (hl : l.length ≤ 1048576) : PureFn prog W0 123 [provsAV l] (provsAV l):=by
 cases l with
 | nil=>exact cl_provs0
 | cons x c=>exact cl_provs (x :: c) hl
theorem cl_clauseA (l : List Atom) (hl : l.length ≤ 1048576) : PureFn prog W0 174 [atomsAV l] (atomsAV l):=by
 cases l with
 | nil=>exact cl_clause0
 | cons x c=>exact cl_clause (x :: c) hl
theorem va_ownA (l : List Clause) (hl : l.length ≤ 1048576) (hc : ∀ c ∈ l,c.length ≤ 1048576) : PureFn prog W0 121 [clausesAV l] (clausesAV l):=by
 refine fn_pure [2] [] func121 rfl rfl ntmps121 rfl rfl (ids_clauses _) fun hs σ=>?_
 simp only [go_sem,simprocAttr,↓reduceIte,clausesAV,List.length_map]
 refine LoopVC.at [6,7] (.of (by kernel_rfl)) (fun A=>∃ v,A.env 3 = v ∧ Built σ A.st v 85 (l.map atomsAV)) ?_ fun B ⟨v,h3,hb⟩=>?_
 ·refine LoopVC.upto [6,7] (.of (by kernel_rfl)) l.length (fun i A=>∃ v,A.env 3 = v ∧ A.env 8 = .int .i64 i ∧ Built σ A.st v 85 ((l.take i).map atomsAV)) 0 (Nat.zero_le _) ?_ fun i B hi ⟨v,h3,h8,hb⟩=>?_
  ·simp only [go_sem,simprocAttr,↓reduceIte]
   exact ⟨_,rfl,Built.nil (.refl _) _⟩
  simp only [go_sem,simprocAttr,↓reduceIte,h3,h8,hb.ok,hb.un,List.length_map]
  refine ⟨fun hlt=>⟨hlt,?_⟩,fun hlt=>?_⟩
  ·obtain ⟨c,ha⟩:=get_some hlt
   simp only [atV_map ha]
   simp only [go_sem,simprocAttr,↓reduceIte,atomsAV,h3,h8,hb.ok,hb.un]
   refine CallA.fn (cl_clauseA c (hc c (List.mem_of_getElem? ha))) ?_
   simp only [go_sem,simprocAttr,↓reduceIte,h3,h8,hb.ok,hb.un,atomsAV]
   refine AppA.own 1048576 (by kernel_rfl) hb.bld (.lit _ _ _) (by simp; omega) fun v' σ' ha'=>?_
   have hb':=hb.app ha'
   simp only [go_sem,simprocAttr,↓reduceIte,h3,h8,hb.ok,hb.un,hb'.ok,hb'.un]
   refine ⟨hlt,_,rfl,int_succ hlt (by rw [maxLen_eq]; omega),?_⟩
   rw [take_succ_get ha,List.map_append]
   exact hb'
  ·rw [List.take_of_length_le hlt] at hb
   exact ⟨_,rfl,hb⟩
 simp only [go_sem,simprocAttr,↓reduceIte,h3,hb.ok,hb.un]
 exact ⟨hb.weak,hb.ext⟩
def inW : ValN → AV
 | .text s=>.iface 9 (.str s)
 | .count n=>.iface 3 (.int .i64 n)
 | .yes b=>.iface 4 (.bool b)
 | .cls l=>.iface 29 (clausesAV l)
 | .atoms l=>.iface 30 (atomsAV l)
 | .provs l=>.iface 31 (provsAV l)
def valW (v : ValN) : AV:=.agg 104 [inW v]
theorem ids_valW (v : ValN) : IdsLt 0 (valW v):=.agg fun x hx=>by
 simp only [List.mem_singleton] at hx
 subst hx
 cases v with
 | text s=>exact .iface (.str _)
 | count n=>exact .iface (.int _ _)
 | yes b=>exact .iface (.bool _)
 | cls l=>exact .iface (ids_clauses _)
 | atoms l=>exact .iface (ids_atoms _)
 | provs l=>exact .iface (ids_provs _)
theorem va_ofClausesA (l : List Clause) (hl : l.length ≤ 1048576) (hc : ∀ c ∈ l,c.length ≤ 1048576) : PureFn prog W0 72 [clausesAV l] (valW (.cls l)):=by
 refine fn_pureM [.cell 2 104] [] func72 rfl rfl ntmps72 rfl rfl (ids_valW _) fun hs σ=>?_
 simp only [go_sem,simprocAttr,↓reduceIte]
 refine CallA.fn (va_ownA l hl hc) ?_
 simp only [go_sem,simprocAttr,↓reduceIte,clausesAV]
 refine EndM.ret ?_
 simp only [go_sem,simprocAttr,↓reduceIte]
 exact .refl _
theorem va_ofAtomsA (l : List Atom) (hl : l.length ≤ 1048576) : PureFn prog W0 73 [atomsAV l] (valW (.atoms l)):=by
 refine fn_pureM [.cell 2 104] [] func73 rfl rfl ntmps73 rfl rfl (ids_valW _) fun hs σ=>?_
 simp only [go_sem,simprocAttr,↓reduceIte]
 refine CallA.fn (cl_atomsA l hl) ?_
 simp only [go_sem,simprocAttr,↓reduceIte,atomsAV]
 refine EndM.ret ?_
 simp only [go_sem,simprocAttr,↓reduceIte]
 exact .refl _
theorem va_ofProvsA (l : List Prov) (hl : l.length ≤ 1048576) : PureFn prog W0 74 [provsAV l] (valW (.provs l)):=by
 refine fn_pureM [.cell 2 104] [] func74 rfl rfl ntmps74 rfl rfl (ids_valW _) fun hs σ=>?_
 simp only [go_sem,simprocAttr,↓reduceIte]
 refine CallA.fn (cl_provsA l hl) ?_
 simp only [go_sem,simprocAttr,↓reduceIte,provsAV]
 refine EndM.ret ?_
 simp only [go_sem,simprocAttr,↓reduceIte]
 exact .refl _
end Go.Proofs.Tryz
end
section
namespace Go.Av
def writeT : ValN → List UInt8 × Bool
 | .text s=>(s,true)
 | .count _=>([],true)
 | .yes b=>(if b = true then sYes else sNo,true)
 | .cls l=>(textL l,textL l != [] || l.length == 0)
 | .atoms l=>(textA l,textA l != [] || l.length == 0)
 | .provs l=>(textP l,textP l != [] || l.length == 0)
def ValN.fit : ValN → Prop
 | .count _=>False
 | .atoms l=>l.length ≤ 1048576
 | .provs l=>l.length ≤ 1048576
 | _=>True
end Go.Av
namespace Go.Proofs.Tryz
open Go Go.Av
set_option maxRecDepth 10000
variable {W0 : World}
theorem va_write (v : ValN) (hv : v.fit) : PureFn prog W0 69 [valW v] (.tup [.str (writeT v).1,.bool (writeT v).2]):=by
 refine fn_pure [2,3] [1] func69 rfl rfl ntmps69 rfl rfl (.tup2 (.str _) (.bool _)) fun hs σ=>?_
 cases v with
 | text s =>
  simp only [go_sem,simprocAttr,↓reduceIte,valW,inW]
  exact ⟨by simp,.refl _⟩
 | count n=>exact hv.elim
 | yes b =>
  simp only [go_sem,simprocAttr,↓reduceIte,valW,inW]
  refine ⟨by simp,by simp,by simp,fun h=>?_,fun h=>?_⟩
  ·subst h; exact .refl _
  ·subst h; exact .refl _
 | cls l =>
  simp only [go_sem,simprocAttr,↓reduceIte,valW,inW,clausesAV]
  refine ⟨by simp,by simp,by simp,by simp,CallA.fn (rl_text l) ?_⟩
  simp only [go_sem,simprocAttr,↓reduceIte,List.length_map]
  have e : ((l.length : Int) == 0) = (l.length == 0):=by rw [Bool.eq_iff_iff]; simp
  rw [e]
  exact .refl _
 | atoms l =>
  simp only [go_sem,simprocAttr,↓reduceIte,valW,inW,atomsAV]
  refine ⟨by simp,by simp,by simp,by simp,by simp,CallA.fn (rl_atoms l hv) ?_⟩
  simp only [go_sem,simprocAttr,↓reduceIte,List.length_map]
  have e : ((l.length : Int) == 0) = (l.length == 0):=by rw [Bool.eq_iff_iff]; simp
  rw [e]
  exact .refl _
 | provs l =>
  simp only [go_sem,simprocAttr,↓reduceIte,valW,inW,provsAV]
  refine ⟨by simp,by simp,by simp,by simp,by simp,by simp,CallA.fn (rl_provs l hv) ?_⟩
  simp only [go_sem,simprocAttr,↓reduceIte,List.length_map]
  have e : ((l.length : Int) == 0) = (l.length == 0):=by rw [Bool.eq_iff_iff]; simp
  rw [e]
  exact .refl _
end Go.Proofs.Tryz
end
section
namespace Go.Av
theorem Bld.subS {st : Store} {v : AV} {e : TypeId} {xs : List AV} (h : Bld st v e xs) : Sub v (.sl e xs):=by
 rcases h with ⟨rfl,rfl⟩ | rfl | ⟨t,rfl,_⟩
 ·exact .nils _
 ·exact .lit _ _
 ·exact .own _ _ _
theorem PureFn.ofCall {P : Program} {W0 : World} {f : FuncId} {args : List AV} {r : AV} (hr : IdsLt 0 r) (h : ∀ σ,ACall P W0 f args σ fun r' σ'=>Weak r' r ∧ Ext σ σ') : PureFn P W0 f args r:=fun σ w C vs hst hl hv =>
 (h σ w C vs hst hl hv).mono fun e w' ⟨v,r',σ',C',he,⟨hw,hx⟩,hs,hrv,hstep⟩=>by
  have hs2 : StRel P W0 w' (C'.upTo σ.length) σ:=by
   have:=hs.upTo (n:=σ.length) hx.le fun id te xs hid hss=>hst.ids (show σ[id]? = some (some (.cells te xs)) by
    have e:=congrArg (·[id]?) hx
    simp only [List.getElem?_take,if_pos hid] at e
    rw [← e]; exact hss)
   rwa [hx] at this
  exact ⟨v,r,σ,C'.upTo σ.length,he,⟨rfl,rfl⟩,hs2,(hrv.weak hw).upTo (idsLt_mono (Nat.zero_le _) hr),hstep.upTo (by rw [hst.nx]; exact Nat.le_refl _)⟩
end Go.Av
namespace Go.Proofs.Tryz
open Go Go.Av
set_option maxRecDepth 10000
variable {W0 : World}
def fldL (x : List UInt8 × List UInt8) : AV:=.agg 28 [.str x.1,.lit 9 [.str x.2]]
def addF (n : List UInt8) (v : ValN) : List (List UInt8 × List UInt8):=if ((writeT v).2 && !((writeT v).1 == [])) = true then [(n,(writeT v).1)] else []
theorem add_len (n : List UInt8) (v : ValN) : (addF n v).length ≤ 1:=by
 unfold addF
 split <;> simp
def stzO (w : AV) : Option SObj:=some (.cells 24 [.agg 24 [.int .i64 0,w]])
theorem re_add {σ : Store} {id : Nat} {w : AV} {l : List (List UInt8 × List UInt8)} (h : σ[id]? = some (stzO w)) (hb : Bld σ w 28 (l.map fldL)) (hl : l.length ≤ 1000) (n : List UInt8) (v : ValN) (hv : v.fit) :
  ACall prog W0 68 [.str n,valW v,.ptr 24 id 0 []] σ fun r σ'=>r = .tup [] ∧ ∃ w',σ'[id]? = some (stzO w') ∧ Bld σ' w' 28 ((l ++ addF n v).map fldL) ∧ Fr (id :: foot w) σ σ' ∧ ∀ t ∈ foot w',t ∈ foot w ∨ σ.length ≤ t:=by
 refine fn_callM [] [4] func68 rfl rfl ntmps68 rfl rfl fun hs=>?_
 have h' : σ[id]? = some (some (.cells 24 [.agg 24 [.int .i64 0,w]])):=h
 have hn:=hb.notM
 simp only [go_sem,simprocAttr,↓reduceIte,valW]
 have:=va_write (W0:=W0) v hv
 unfold valW at this
 refine CallA.fn this ?_
 simp only [go_sem,simprocAttr,↓reduceIte,look_id h',setLook_id h',okM_notM hn,unm_notM hn]
 have hid : id ∉ foot w:=hb.ne h' (by simp)
 have hlt:=(List.getElem?_eq_some_iff.1 h').1
 refine ⟨fun hc=>?_,fun hc=>?_⟩
 ·refine AppA.ownS (σ:=σ) (by simp only [go_sem,simprocAttr,↓reduceIte]) 1048576 (by kernel_rfl) hb (.lit _ _ _) (by simp; omega) fun w2 τ2 ha=>?_
  have e2 : τ2[id]? = some (some (.cells 24 [.agg 24 [.int .i64 0,w]])):=(ha.fr.old id hlt hid).trans h'
  have hb2 : Bld τ2 w2 28 ((l ++ addF n v).map fldL):=by
   unfold addF
   rw [if_pos hc,List.map_append]
   exact ha.bld
  have hn2:=hb2.notM
  have hid2 : id ∉ foot w2:=hb2.ne e2 (by simp)
  simp only [go_sem,simprocAttr,↓reduceIte,look_id e2,setLook_id e2,okM_notM hn2,unm_notM hn2,hb2.fits]
  refine EndM.normal ?_
  simp only [go_sem,simprocAttr,↓reduceIte]
  refine ⟨_,.refl _,?_,rfl,w2,List.getElem?_set_self (List.getElem?_eq_some_iff.1 e2).1,hb2.keep fun j hj=>List.getElem?_set_ne (by rintro rfl; exact hid2 hj),(ha.fr.mono fun j hj=>List.mem_cons_of_mem _ hj).set (.inl (List.mem_cons_self ..)) _,ha.foot hb⟩
  have:=ha.fr.len
  simpa using this
 ·refine EndM.normal ?_
  simp only [go_sem,simprocAttr,↓reduceIte]
  refine ⟨_,.refl _,rfl,w,h,?_,Fr.refl _ _,fun t ht=>.inl ht⟩
  unfold addF
  rw [if_neg (by rw [hc]; decide),List.append_nil]
  exact hb
def SI (σ τ : Store) (k m : Nat) (l : List (List UInt8 × List UInt8)) : Prop:=∃ w,τ[σ.length + k]? = some (stzO w) ∧ Bld τ w 28 (l.map fldL) ∧ (∀ t ∈ foot w,σ.length ≤ t) ∧ τ[σ.length]? = some (stzO .nils) ∧ Ext σ τ ∧ l.length ≤ m
theorem SI.add {σ τ : Store} {k m : Nat} {l : List (List UInt8 × List UInt8)} (h : SI σ τ k m l) (hk : 0 < k) (hm : m ≤ 1000) (n : List UInt8) (v : ValN) (hv : v.fit) :
  ACall prog W0 68 ([.str n,valW v] ++ [.ptr 24 (σ.length + k) 0 []]) τ fun r σ'=>r = .tup [] ∧ SI σ σ' k (m + 1) (l ++ addF n v):=by
 obtain ⟨w,h1,h2,h3,h4,h5,h6⟩:=h
 refine (re_add h1 h2 (by omega) n v hv).mono fun r σ' ⟨hr,w',g1,g2,g3,g4⟩=>⟨hr,w',g1,g2,fun t ht=>?_,?_,?_,?_⟩
 ·rcases g4 t ht with h | h
  ·exact h3 t h
  ·have:=h5.le; omega
 ·have hlt:=(List.getElem?_eq_some_iff.1 h4).1
  refine (g3.old _ hlt fun hm=>?_).trans h4
  rcases List.mem_cons.1 hm with e | hm
  ·omega
  ·exact absurd hm (h2.ne h4 (by simp))
 ·refine g3.toExt h5 fun j hj=>?_
  rcases List.mem_cons.1 hj with rfl | hj
  ·omega
  ·exact h3 j hj
 ·have:=add_len n v
  simp only [List.length_append]
  omega
def nPackage : List UInt8:=[80,97,99,107,97,103,101]
def nVersion : List UInt8:=[86,101,114,115,105,111,110]
def nEss : List UInt8:=[69,115,115,101,110,116,105,97,108]
def nPre : List UInt8:=[80,114,101,45,68,101,112,101,110,100,115]
def nDep : List UInt8:=[68,101,112,101,110,100,115]
def nRcm : List UInt8:=[82,101,99,111,109,109,101,110,100,115]
def nCon : List UInt8:=[67,111,110,102,108,105,99,116,115]
def nBrk : List UInt8:=[66,114,101,97,107,115]
def nProv : List UInt8:=[80,114,111,118,105,100,101,115]
def fldsP (p : Pkg) : List (List UInt8 × List UInt8) :=
 addF nPackage (.text p.name) ++ addF nVersion (.text p.ver) ++ (if p.ess = true then addF nEss (.yes true) else []) ++ addF nPre (.cls p.pre) ++ addF nDep (.cls p.dep) ++ addF nRcm (.cls p.rcm) ++ addF nCon (.atoms p.con) ++ addF nBrk (.atoms p.brk) ++ addF nProv (.provs p.prov)
def stanzaP (p : Pkg) : Stz:=if mayPkg p ≠ 0 then ⟨0,[]⟩ else ⟨0,(fldsP p).map fun x=>⟨x.1,[x.2]⟩⟩
structure LiN (l : List Clause) : Prop where
 len : l.length ≤ 1048576
 cl : ∀ c ∈ l,c.length ≤ 1048576
def StzR (g : List UInt8 × List UInt8 → AV) (p : Pkg) (σ : Store) (r : AV) (σ' : Store) : Prop:=∃ w,r = .tup [.agg 24 [.int .i64 0,w],.int .i64 (mayPkg p)] ∧ Bld σ' w 28 ((if mayPkg p ≠ 0 then [] else fldsP p).map g) ∧ (∀ t ∈ foot w,σ.length ≤ t) ∧ Ext σ σ'
theorem StzR.weak {g : List UInt8 × List UInt8 → AV} (hg : ∀ x,Sub (g x) (fldAV ⟨x.1,[x.2]⟩)) {p : Pkg} {σ σ' : Store} {r : AV} (h : StzR g p σ r σ') : Weak r (.tup [stzAV (stanzaP p),.int .i64 (mayPkg p)]) ∧ Ext σ σ':=by
 obtain ⟨w,rfl,hb,_,hx⟩:=h
 have hsub : Sub w (fldsAV (stanzaP p).fields):=by
  refine (Bld.subS hb).trans ?_
  have e : (stanzaP p).fields = (if mayPkg p ≠ 0 then [] else fldsP p).map fun x=>(⟨x.1,[x.2]⟩ : Fld):=by
   unfold stanzaP
   split <;> rfl
  rw [e]
  show Sub _ (.sl 28 (List.map fldAV _))
  rw [List.map_map]
  exact Sub.slmap _ fun x _=>hg x
 have el : (stanzaP p).line = 0:=by
  unfold stanzaP
  split <;> rfl
 refine ⟨weak_tup2 (.sub (.agg rfl fun i a b ha hb=>?_)) (.refl _),hx⟩
 match i,ha,hb with
 | 0,ha,hb=>cases ha; cases hb; rw [el]; exact .refl _
 | 1,ha,hb=>cases ha; cases hb; exact hsub
theorem re_stanzaO (p : Pkg) (hm : MayN p) (h2 : LiN p.pre) (h3 : LiN p.dep) (h4 : LiN p.rcm) (σ : Store) : ACall prog W0 31 [pkgAV p] σ fun r σ'=>StzR fldL p σ r σ':=by
 refine fn_callM [.cell 2 24,.tmp 3] [1] func31 rfl rfl ntmps31 rfl rfl fun hs=>?_
 simp only [go_sem,simprocAttr,↓reduceIte,pkgAV]
 refine CallA.fn (re_may p hm) ?_
 simp only [go_sem,simprocAttr,↓reduceIte]
 refine ⟨fun he=>?_,fun he=>?_⟩
 ·refine EndM.ret ?_
  simp only [go_sem,simprocAttr,↓reduceIte]
  exact ⟨_,.refl _,by simp,.nils,rfl,by rw [if_pos he]; exact .inl ⟨rfl,rfl⟩,by simp [foot],(Ext.refl _).app _⟩
 have S0 : SI σ (σ ++ [stzO .nils,stzO .nils]) 1 0 []:=⟨.nils,by simp,.inl ⟨rfl,rfl⟩,by simp [foot],by simp,(Ext.refl _).app _,Nat.le_refl _⟩
 refine CallA.fn (va_ofText p.name) ?_
 simp only [go_sem,simprocAttr,↓reduceIte,valAV,inV]
 refine CallA.go (σ:=σ ++ [stzO .nils,stzO .nils]) (by simp only [go_sem,simprocAttr,↓reduceIte]; rfl) (S0.add (by decide) (by decide) nPackage (.text p.name) trivial) fun r τ1 ⟨hr,S1⟩=>?_
 subst hr
 simp only [go_sem,simprocAttr,↓reduceIte]
 refine CallA.fn (va_ofText p.ver) ?_
 simp only [go_sem,simprocAttr,↓reduceIte,valAV,inV]
 refine CallA.go (σ:=τ1) (by simp only [go_sem,simprocAttr,↓reduceIte]) (S1.add (by decide) (by decide) nVersion (.text p.ver) trivial) fun r τ2 ⟨hr,S2⟩=>?_
 subst hr
 simp only [go_sem,simprocAttr,↓reduceIte]
 refine JoinVC.at [1,2,5,6,24] (by kernel_rfl) (fun A=>SI σ A.st 1 3 (addF nPackage (.text p.name) ++ addF nVersion (.text p.ver) ++ (if p.ess = true then addF nEss (.yes true) else []))) (fun h=>?_) (fun h=>?_) fun A S3=>?_
 ·simp only [go_sem,simprocAttr,↓reduceIte]
  refine CallA.fn (va_ofYes true) ?_
  simp only [go_sem,simprocAttr,↓reduceIte,valAV,inV]
  refine CallA.go (σ:=τ2) (by simp only [go_sem,simprocAttr,↓reduceIte]) (S2.add (by decide) (by decide) nEss (.yes true) trivial) fun r τ3 ⟨hr,S3⟩=>?_
  subst hr
  simp only [go_sem,simprocAttr,↓reduceIte]
  rw [if_pos h]
  simpa only [List.nil_append,List.append_assoc] using S3
 ·simp only [go_sem,simprocAttr,↓reduceIte]
  rw [if_neg (by rw [h]; decide),List.append_nil]
  obtain ⟨w,a1,a2,a3,a4,a5,a6⟩:=S2
  exact ⟨w,a1,a2,a3,a4,a5,by have:=a6; simp only [List.nil_append] at this ⊢; omega⟩
 generalize hT3 : A.st = τ3 at *
 simp only [go_sem,simprocAttr,↓reduceIte,hT3]
 refine CallA.fn (va_ofClausesA p.pre h2.len h2.cl) ?_
 simp only [go_sem,simprocAttr,↓reduceIte,valW,inW,hT3]
 refine CallA.go (σ:=τ3) (by simp only [go_sem,simprocAttr,↓reduceIte,hT3]) (S3.add (by decide) (by decide) nPre (.cls p.pre) trivial) fun r τ4 ⟨hr,S4⟩=>?_
 subst hr
 simp only [go_sem,simprocAttr,↓reduceIte,hT3]
 refine CallA.fn (va_ofClausesA p.dep h3.len h3.cl) ?_
 simp only [go_sem,simprocAttr,↓reduceIte,valW,inW,hT3]
 refine CallA.go (σ:=τ4) (by simp only [go_sem,simprocAttr,↓reduceIte,hT3]) (S4.add (by decide) (by decide) nDep (.cls p.dep) trivial) fun r τ5 ⟨hr,S5⟩=>?_
 subst hr
 simp only [go_sem,simprocAttr,↓reduceIte,hT3]
 refine CallA.fn (va_ofClausesA p.rcm h4.len h4.cl) ?_
 simp only [go_sem,simprocAttr,↓reduceIte,valW,inW,hT3]
 refine CallA.go (σ:=τ5) (by simp only [go_sem,simprocAttr,↓reduceIte,hT3]) (S5.add (by decide) (by decide) nRcm (.cls p.rcm) trivial) fun r τ6 ⟨hr,S6⟩=>?_
 subst hr
 simp only [go_sem,simprocAttr,↓reduceIte,hT3]
 refine CallA.fn (va_ofAtomsA p.con hm.con) ?_
 simp only [go_sem,simprocAttr,↓reduceIte,valW,inW,hT3]
 refine CallA.go (σ:=τ6) (by simp only [go_sem,simprocAttr,↓reduceIte,hT3]) (S6.add (by decide) (by decide) nCon (.atoms p.con) hm.con) fun r τ7 ⟨hr,S7⟩=>?_
 subst hr
 simp only [go_sem,simprocAttr,↓reduceIte,hT3]
 refine CallA.fn (va_ofAtomsA p.brk hm.brk) ?_
 simp only [go_sem,simprocAttr,↓reduceIte,valW,inW,hT3]
 refine CallA.go (σ:=τ7) (by simp only [go_sem,simprocAttr,↓reduceIte,hT3]) (S7.add (by decide) (by decide) nBrk (.atoms p.brk) hm.brk) fun r τ8 ⟨hr,S8⟩=>?_
 subst hr
 simp only [go_sem,simprocAttr,↓reduceIte,hT3]
 refine CallA.fn (va_ofProvsA p.prov hm.prov) ?_
 simp only [go_sem,simprocAttr,↓reduceIte,valW,inW,hT3]
 refine CallA.go (σ:=τ8) (by simp only [go_sem,simprocAttr,↓reduceIte,hT3]) (S8.add (by decide) (by decide) nProv (.provs p.prov) hm.prov) fun r τ9 ⟨hr,S9⟩=>?_
 subst hr
 obtain ⟨w,c1,b,ft,c0,ex,_⟩:=S9
 have c1' : τ9[σ.length + 1]? = some (some (.cells 24 [.agg 24 [.int .i64 0,w]])):=c1
 have c0' : τ9[σ.length]? = some (some (.cells 24 [.agg 24 [.int .i64 0,.nils]])):=c0
 have hn:=b.notM
 have hlt:=(List.getElem?_eq_some_iff.1 c0').1
 have hf : fitsB prog 24 (.agg 24 [.int .i64 0,w]) = true:=by kernel_rfl
 simp only [go_sem,simprocAttr,↓reduceIte,hT3,look_id c1',look_id c0',setLook_id c0',okM_notM hn,unm_notM hn,hf]
 refine EndM.ret ?_
 simp only [go_sem,simprocAttr,↓reduceIte,look_set hlt,okM_notM hn,unm_notM hn]
 have hid : ∀ j ∈ foot w,j ≠ σ.length:=fun j hj e=>b.ne c0' (by simp) (e ▸ hj)
 exact ⟨_,.refl _,by have:=ex.le; simpa using this,w,by rw [he],by rw [if_neg (by rw [he]; decide)]; exact b.keep fun j hj=>List.getElem?_set_ne (hid j hj).symm,ft,ex.set (Nat.le_refl _) _⟩
theorem fldL_sub (x : List UInt8 × List UInt8) : Sub (fldL x) (fldAV ⟨x.1,[x.2]⟩):=.agg rfl fun i a b ha hb=>by
 match i,ha,hb with
 | 0,ha,hb=>cases ha; cases hb; exact .refl _
 | 1,ha,hb=>cases ha; cases hb; exact .lit _ _
theorem re_stanza (p : Pkg) (hm : MayN p) (h2 : LiN p.pre) (h3 : LiN p.dep) (h4 : LiN p.rcm) : PureFn prog W0 31 [pkgAV p] (.tup [stzAV (stanzaP p),.int .i64 (mayPkg p)]) :=
 .ofCall (.tup2 (ids_stz _ _) (.int _ _)) fun σ=>(re_stanzaO p hm h2 h3 h4 σ).mono fun _ _ h=>h.weak fldL_sub
end Go.Proofs.Tryz
end
section
namespace Go.Proofs.Tryz
open Go Go.Av
set_option maxRecDepth 10000
variable {W0 : World}
def fld1 (x : List UInt8 × List UInt8) : AV:=fldAV ⟨x.1,[x.2]⟩
theorem ids_fld1 (x : List UInt8 × List UInt8) : IdsLt 0 (fld1 x):=.agg fun y hy=>by
 simp at hy
 rcases hy with rfl | rfl
 ·exact .str _
 ·exact .sl fun z hz=>by simp at hz; subst hz; exact .str _
theorem r9_one (n t : List UInt8) : PureFn prog W0 75 [.str n,.str t] (fld1 (n,t)):=by
 refine fn_pureM [.cell 4 28] [] func75 rfl rfl ntmps75 rfl rfl (ids_fld1 _) fun hs σ=>?_
 simp only [go_sem,simprocAttr,↓reduceIte]
 refine EndM.ret ?_
 simp only [go_sem,simprocAttr,↓reduceIte]
 exact .sub (.agg rfl fun i a b ha hb=>by
  match i,ha,hb with
  | 0,ha,hb=>cases ha; cases hb; exact .refl _
  | 1,ha,hb=>cases ha; cases hb; exact .lit _ _)
def putF (n t : List UInt8) : List (List UInt8 × List UInt8):=if (t == []) = false then [(n,t)] else []
theorem r9_put {σ : Store} {w : AV} {l : List (List UInt8 × List UInt8)} (hb : Bld σ w 28 (l.map fld1)) (hl : l.length ≤ 1000) (n t : List UInt8) :
  ACall prog W0 76 [.agg 24 [.int .i64 0,w],.str n,.str t] σ fun r σ'=>∃ w',r = .agg 24 [.int .i64 0,w'] ∧ Bld σ' w' 28 ((l ++ putF n t).map fld1) ∧ Fr (foot w) σ σ' ∧ ∀ t ∈ foot w',t ∈ foot w ∨ σ.length ≤ t:=by
 refine fn_callM [.cell 6 24] [2000015,4000002] func76 rfl rfl ntmps76 rfl rfl fun hs=>?_
 have hn:=hb.notM
 simp only [go_sem,simprocAttr,↓reduceIte,okM_notM hn,unm_notM hn]
 have c3 : (σ ++ [some (.cells 24 [.agg 24 [.int .i64 0,w]]),stzO .nils])[σ.length]? = some (some (.cells 24 [.agg 24 [.int .i64 0,w]])):=by simp
 refine JoinVC.both (fun h=>?_) fun h=>?_
 ·simp only [go_sem,simprocAttr,↓reduceIte,okM_notM hn,unm_notM hn]
  refine ⟨.of (by kernel_rfl),?_⟩
  refine CallP.fn (r9_one n t) ?_
  have hk : okM none (fldAV ⟨n,[t]⟩) = True:=eq_true trivial
  have hu : unm (fldAV ⟨n,[t]⟩) = fldAV ⟨n,[t]⟩:=rfl
  have hf : fitsB prog 28 (fldAV ⟨n,[t]⟩) = true:=by kernel_rfl
  simp only [go_sem,simprocAttr,↓reduceIte,okM_notM hn,unm_notM hn,fld1,hk,hu,hf]
  have hb1 : Bld (σ ++ [some (SObj.cells 24 [.agg 24 [.int .i64 0,w]]),stzO .nils]) w 28 (l.map fld1):=hb.keep fun j hj=>List.getElem?_append_left (hb.lt j hj)
  refine AppA.ownS (σ:=σ ++ [some (SObj.cells 24 [.agg 24 [.int .i64 0,w]]),stzO .nils]) (by simp only [go_sem,simprocAttr,↓reduceIte]; rfl) 1048576 (by kernel_rfl) hb1 (.lit _ _ _) (by simp; omega) fun w2 τ2 ha=>?_
  have hid : σ.length ∉ foot w:=fun hj=>by have:=hb.lt _ hj; omega
  have hid1 : σ.length + 1 ∉ foot w:=fun hj=>by have:=hb.lt _ hj; omega
  have e3:=(ha.fr.old σ.length (by simp) hid).trans c3
  have e4 : τ2[σ.length + 1]? = some (some (.cells 24 [.agg 24 [.int .i64 0,.nils]])):=(ha.fr.old (σ.length + 1) (by simp) hid1).trans (by simp [stzO])
  have e4' : ∀ o,(τ2.set σ.length o)[σ.length + 1]? = some (some (.cells 24 [.agg 24 [.int .i64 0,.nils]])):=fun o=>(List.getElem?_set_ne (by omega)).trans e4
  have hb2 : Bld τ2 w2 28 ((l ++ putF n t).map fld1):=by
   unfold putF
   rw [if_pos (by simpa using h),List.map_append]
   exact ha.bld
  have hn2:=hb2.notM
  have hl3:=(List.getElem?_eq_some_iff.1 e3).1
  have hl4:=(List.getElem?_eq_some_iff.1 e4).1
  have hfw : fitsB prog 24 (.agg 24 [.int .i64 0,w2]) = true:=by kernel_rfl
  simp only [go_sem,simprocAttr,↓reduceIte,look_id e3,setLook_id e3,look_set hl3,setLook_set hl3,okM_notM hn2,unm_notM hn2,hb2.fits,look_id (e4' _),setLook_id (e4' _),hfw]
  refine EndM.ret ?_
  have hl5 : σ.length + 1 < (τ2.set σ.length (some (SObj.cells 24 [.agg 24 [.int .i64 0,w2]]))).length:=by simpa using hl4
  simp only [go_sem,simprocAttr,↓reduceIte,look_set hl5,okM_notM hn2,unm_notM hn2]
  have hfoot : ∀ t ∈ foot w2,t ∈ foot w ∨ σ.length ≤ t:=fun t ht=>by
   rcases ha.foot hb1 t ht with h | h
   ·exact .inl h
   ·simp at h; exact .inr (by omega)
  have hne : ∀ j ∈ foot w2,j ≠ σ.length ∧ j ≠ σ.length + 1:=fun j hj=>⟨by rintro rfl; exact hb2.ne e3 (by simp) hj,by rintro rfl; exact hb2.ne e4 (by simp) hj⟩
  refine ⟨_,.refl _,?_,w2,rfl,hb2.keep fun j hj=>?_,((((Fr.refl (foot w) σ).app _).trans ha.fr fun j hj=>.inl hj).set (.inr (Nat.le_refl _)) _).set (.inr (Nat.le_succ _)) _,hfoot⟩
  ·rw [List.length_set,List.length_set]; omega
  ·rw [List.getElem?_set_ne (fun e=>(hne j hj).2 e.symm),List.getElem?_set_ne (fun e=>(hne j hj).1 e.symm)]
 ·simp only [go_sem,simprocAttr,↓reduceIte,okM_notM hn,unm_notM hn]
  refine EndM.ret ?_
  simp only [go_sem,simprocAttr,↓reduceIte,okM_notM hn,unm_notM hn]
  refine ⟨_,.refl _,by omega,w,rfl,?_,(Fr.refl _ _).app _,fun t ht=>.inl ht⟩
  unfold putF
  rw [if_neg (by simpa using h),List.append_nil]
  exact hb.keep fun j hj=>List.getElem?_append_left (hb.lt j hj)
theorem fld1_okM (x : List UInt8 × List UInt8) : okM none (fld1 x) = True:=eq_true trivial
theorem fld1_unm (x : List UInt8 × List UInt8) : unm (fld1 x) = fld1 x:=rfl
theorem fld1_fits (x : List UInt8 × List UInt8) : fitsB prog 28 (fld1 x) = true:=by kernel_rfl
theorem addF_put (n : List UInt8) (v : ValN) (h : ∀ k,v ≠ .count k) : addF n v = putF n (writeT v).1:=by
 unfold addF putF
 cases v with
 | count k=>exact absurd rfl (h k)
 | text s=>cases hs : (s == []) <;> simp [writeT,hs]
 | yes b=>cases b <;> simp [writeT,sYes,sNo]
 | cls l=>cases hs : (textL l == []) <;> simp_all [writeT]
 | atoms l=>cases hs : (textA l == []) <;> simp_all [writeT]
 | provs l=>cases hs : (textP l == []) <;> simp_all [writeT]
def SI9 (σ τ : Store) (m : Nat) (l : List (List UInt8 × List UInt8)) : Prop:=∃ w,τ[σ.length + 1]? = some (stzO w) ∧ Bld τ w 28 (l.map fld1) ∧ (∀ t ∈ foot w,σ.length ≤ t) ∧ τ[σ.length]? = some (stzO .nils) ∧ Ext σ τ ∧ l.length ≤ m
theorem putF_len (n t : List UInt8) : (putF n t).length ≤ 1:=by
 unfold putF
 split <;> simp
theorem put9 {σ τ : Store} {w : AV} {m : Nat} {l : List (List UInt8 × List UInt8)} (c1 : τ[σ.length + 1]? = some (stzO w)) (b : Bld τ w 28 (l.map fld1)) (ft : ∀ t ∈ foot w,σ.length ≤ t) (c0 : τ[σ.length]? = some (stzO .nils)) (ex : Ext σ τ) (ln : l.length ≤ m) (hm : m ≤ 900) (n t : List UInt8) :
  ACall prog W0 76 [.agg 24 [.int .i64 0,w],.str n,.str t] τ fun r σ'=>∃ w',r = .agg 24 [.int .i64 0,w'] ∧ σ'[σ.length + 1]? = some (some (.cells 24 [.agg 24 [.int .i64 0,w]])) ∧ SI9 σ (σ'.set (σ.length + 1) (some (.cells 24 [.agg 24 [.int .i64 0,w']]))) (m + 1) (l ++ putF n t) ∧ NotM w':=by
 refine (r9_put b (by omega) n t).mono fun r σ' ⟨w',hr,hb',hf,hft⟩=>?_
 have l1:=(List.getElem?_eq_some_iff.1 c1).1
 have l0:=(List.getElem?_eq_some_iff.1 c0).1
 have e1:=(hf.old _ l1 (b.ne c1 (by simp))).trans c1
 have e0:=(hf.old _ l0 (b.ne c0 (by simp))).trans c0
 refine ⟨w',hr,e1,⟨w',List.getElem?_set_self (List.getElem?_eq_some_iff.1 e1).1,hb'.keep fun j hj=>List.getElem?_set_ne (by rintro rfl; exact hb'.ne e1 (by simp) hj),fun t ht=>?_,(List.getElem?_set_ne (by omega)).trans e0,(hf.toExt ex ft).set (Nat.le_succ _) _,?_⟩,hb'.notM⟩
 ·rcases hft t ht with h | h
  ·exact ft t h
  ·have:=ex.le; omega
 ·have:=putF_len n t
  simp only [List.length_append]
  omega
theorem may_nv {p : Pkg} (h : mayPkg p = 0) : p.name ≠ [] ∧ p.ver ≠ []:=by
 unfold mayPkg at h
 split at h
 ·cases h
 ·rename_i hc
  refine ⟨fun e=>hc ?_,fun e=>hc ?_⟩
  ·rw [e]; rfl
  ·rw [e,show isVer [] = false by decide]; simp
theorem r9_stanzaO (p : Pkg) (hm : MayN p) (σ : Store) : ACall prog W0 32 [pkgAV p] σ fun r σ'=>StzR fld1 p σ r σ':=by
 refine fn_callM [.cell 2 24,.tmp 3] [1,12,15,25,30,35,40,46,52,2000005,4000004,2000028,4000007,2000033,4000008,2000038,4000009,2000044,4000010,2000050,4000011,2000057,4000012] func32 rfl rfl ntmps32 rfl rfl fun hs=>?_
 simp only [go_sem,simprocAttr,↓reduceIte,pkgAV]
 refine CallA.fn (r9_may p) ?_
 simp only [go_sem,simprocAttr,↓reduceIte]
 refine ⟨fun he=>?_,fun he=>?_⟩
 ·refine EndM.ret ?_
  simp only [go_sem,simprocAttr,↓reduceIte]
  exact ⟨_,.refl _,by simp,.nils,rfl,by rw [if_pos he]; exact .inl ⟨rfl,rfl⟩,by simp [foot],(Ext.refl _).app _⟩
 refine ⟨.of (by kernel_rfl),CallP.fn (r9_one nPackage p.name) ?_⟩
 simp only [go_sem,simprocAttr,↓reduceIte,fld1_okM,fld1_unm,fld1_fits]
 refine CallP.fn (r9_one nVersion p.ver) ?_
 simp only [go_sem,simprocAttr,↓reduceIte,fld1_okM,fld1_unm,fld1_fits]
 let l0 : List (List UInt8 × List UInt8):=[(nPackage,p.name),(nVersion,p.ver)]
 have S0 : SI9 σ (σ ++ [stzO .nils,stzO (.lit 28 (l0.map fld1))]) 2 l0:=⟨_,by simp,.inr (.inl rfl),by simp [foot],by simp,(Ext.refl _).app _,Nat.le_refl _⟩
 generalize hT0 : σ ++ [stzO .nils,stzO (.lit 28 (l0.map fld1))] = τ0 at *
 refine JoinVC.at [1,2,5] (by kernel_rfl) (fun A=>SI9 σ A.st 3 (l0 ++ (if p.ess = true then putF nEss sYes else []))) (fun h=>?_) (fun h=>?_) fun A S3=>?_
 ·obtain ⟨w,c1,b,ft,c0,ex,ln⟩:=S0
  have hn:=b.notM
  have hT0' : σ ++ [some (SObj.cells 24 [.agg 24 [.int .i64 0,.nils]]),some (SObj.cells 24 [.agg 24 [.int .i64 0,.lit 28 [fld1 (nPackage,p.name),fld1 (nVersion,p.ver)]]])] = τ0:=hT0
  have c1' : τ0[σ.length + 1]? = some (some (.cells 24 [.agg 24 [.int .i64 0,w]])):=c1
  simp only [go_sem,simprocAttr,↓reduceIte,hT0',look_id c1',okM_notM hn,unm_notM hn]
  refine CallA.goes (σ:=τ0) (by simp only [go_sem,simprocAttr,↓reduceIte,hT0']) (put9 c1 b ft c0 ex ln (by decide) nEss sYes) fun r τ1 ⟨w',hr,e1,S1,hn'⟩=>?_
  subst hr
  simp only [go_sem,simprocAttr,↓reduceIte,look_id e1,setLook_id e1,okM_notM hn',unm_notM hn']
  rw [if_pos h]
  exact S1
 ·simp only [go_sem,simprocAttr,↓reduceIte]
  rw [if_neg (by rw [h]; decide),List.append_nil]
  show SI9 σ (σ ++ [stzO .nils,stzO (.lit 28 (l0.map fld1))]) 3 l0
  rw [hT0]
  obtain ⟨w,c1,b,ft,c0,ex,ln⟩:=S0
  exact ⟨w,c1,b,ft,c0,ex,Nat.le_succ_of_le ln⟩
 generalize hT3 : A.st = τ3 at *
 obtain ⟨w3,c3,b3,f3,z3,x3,n3⟩:=S3
 have m3:=b3.notM
 have d3 : τ3[σ.length + 1]? = some (some (.cells 24 [.agg 24 [.int .i64 0,w3]])):=c3
 simp only [go_sem,simprocAttr,↓reduceIte,hT3,look_id d3,okM_notM m3,unm_notM m3]
 refine ⟨.of (by kernel_rfl),CallP.fn (r4_text p.pre) ?_⟩
 simp only [go_sem,simprocAttr,↓reduceIte,hT3,look_id d3,okM_notM m3,unm_notM m3]
 refine CallA.goes (σ:=τ3) (by simp only [go_sem,simprocAttr,↓reduceIte,hT3]) (put9 c3 b3 f3 z3 x3 n3 (by decide) nPre (textL p.pre)) fun r υ3 ⟨v3,hr,e3,S,q3⟩=>?_
 subst hr
 obtain ⟨w4,c4,b4,f4,z4,x4,n4⟩:=S
 generalize hT4 : υ3.set (σ.length + 1) (some (SObj.cells 24 [.agg 24 [.int .i64 0,v3]])) = τ4 at *
 have m4:=b4.notM
 have d4 : τ4[σ.length + 1]? = some (some (.cells 24 [.agg 24 [.int .i64 0,w4]])):=c4
 simp only [go_sem,simprocAttr,↓reduceIte,hT4,look_id e3,setLook_id e3,okM_notM q3,unm_notM q3,hT3,look_id d4,okM_notM m4,unm_notM m4]
 refine ⟨.of (by kernel_rfl),CallP.fn (r4_text p.dep) ?_⟩
 simp only [go_sem,simprocAttr,↓reduceIte,hT4,look_id e3,setLook_id e3,okM_notM q3,unm_notM q3,hT3,look_id d4,okM_notM m4,unm_notM m4]
 refine CallA.goes (σ:=τ4) (by simp only [go_sem,simprocAttr,↓reduceIte,hT4,look_id e3,setLook_id e3,okM_notM q3,unm_notM q3,hT3]) (put9 c4 b4 f4 z4 x4 n4 (by decide) nDep (textL p.dep)) fun r υ4 ⟨v4,hr,e4,S,q4⟩=>?_
 subst hr
 obtain ⟨w5,c5,b5,f5,z5,x5,n5⟩:=S
 generalize hT5 : υ4.set (σ.length + 1) (some (SObj.cells 24 [.agg 24 [.int .i64 0,v4]])) = τ5 at *
 have m5:=b5.notM
 have d5 : τ5[σ.length + 1]? = some (some (.cells 24 [.agg 24 [.int .i64 0,w5]])):=c5
 simp only [go_sem,simprocAttr,↓reduceIte,hT5,look_id e4,setLook_id e4,okM_notM q4,unm_notM q4,hT3,look_id d5,okM_notM m5,unm_notM m5]
 refine ⟨.of (by kernel_rfl),CallP.fn (r4_text p.rcm) ?_⟩
 simp only [go_sem,simprocAttr,↓reduceIte,hT5,look_id e4,setLook_id e4,okM_notM q4,unm_notM q4,hT3,look_id d5,okM_notM m5,unm_notM m5]
 refine CallA.goes (σ:=τ5) (by simp only [go_sem,simprocAttr,↓reduceIte,hT5,look_id e4,setLook_id e4,okM_notM q4,unm_notM q4,hT3]) (put9 c5 b5 f5 z5 x5 n5 (by decide) nRcm (textL p.rcm)) fun r υ5 ⟨v5,hr,e5,S,q5⟩=>?_
 subst hr
 obtain ⟨w6,c6,b6,f6,z6,x6,n6⟩:=S
 generalize hT6 : υ5.set (σ.length + 1) (some (SObj.cells 24 [.agg 24 [.int .i64 0,v5]])) = τ6 at *
 have m6:=b6.notM
 have d6 : τ6[σ.length + 1]? = some (some (.cells 24 [.agg 24 [.int .i64 0,w6]])):=c6
 simp only [go_sem,simprocAttr,↓reduceIte,hT6,look_id e5,setLook_id e5,okM_notM q5,unm_notM q5,hT3,look_id d6,okM_notM m6,unm_notM m6]
 refine ⟨.of (by kernel_rfl),CallP.fn (r4_singles p.con hm.con) ?_⟩
 simp only [go_sem,simprocAttr,↓reduceIte,hT6,look_id e5,setLook_id e5,okM_notM q5,unm_notM q5,hT3,look_id d6,okM_notM m6,unm_notM m6]
 refine CallP.fn (r4_text (single p.con)) ?_
 simp only [go_sem,simprocAttr,↓reduceIte,hT6,look_id e5,setLook_id e5,okM_notM q5,unm_notM q5,hT3,look_id d6,okM_notM m6,unm_notM m6]
 refine CallA.goes (σ:=τ6) (by simp only [go_sem,simprocAttr,↓reduceIte,hT6,look_id e5,setLook_id e5,okM_notM q5,unm_notM q5,hT3]) (put9 c6 b6 f6 z6 x6 n6 (by decide) nCon (textA p.con)) fun r υ6 ⟨v6,hr,e6,S,q6⟩=>?_
 subst hr
 obtain ⟨w7,c7,b7,f7,z7,x7,n7⟩:=S
 generalize hT7 : υ6.set (σ.length + 1) (some (SObj.cells 24 [.agg 24 [.int .i64 0,v6]])) = τ7 at *
 have m7:=b7.notM
 have d7 : τ7[σ.length + 1]? = some (some (.cells 24 [.agg 24 [.int .i64 0,w7]])):=c7
 simp only [go_sem,simprocAttr,↓reduceIte,hT7,look_id e6,setLook_id e6,okM_notM q6,unm_notM q6,hT3,look_id d7,okM_notM m7,unm_notM m7]
 refine ⟨.of (by kernel_rfl),CallP.fn (r4_singles p.brk hm.brk) ?_⟩
 simp only [go_sem,simprocAttr,↓reduceIte,hT7,look_id e6,setLook_id e6,okM_notM q6,unm_notM q6,hT3,look_id d7,okM_notM m7,unm_notM m7]
 refine CallP.fn (r4_text (single p.brk)) ?_
 simp only [go_sem,simprocAttr,↓reduceIte,hT7,look_id e6,setLook_id e6,okM_notM q6,unm_notM q6,hT3,look_id d7,okM_notM m7,unm_notM m7]
 refine CallA.goes (σ:=τ7) (by simp only [go_sem,simprocAttr,↓reduceIte,hT7,look_id e6,setLook_id e6,okM_notM q6,unm_notM q6,hT3]) (put9 c7 b7 f7 z7 x7 n7 (by decide) nBrk (textA p.brk)) fun r υ7 ⟨v7,hr,e7,S,q7⟩=>?_
 subst hr
 obtain ⟨w8,c8,b8,f8,z8,x8,n8⟩:=S
 generalize hT8 : υ7.set (σ.length + 1) (some (SObj.cells 24 [.agg 24 [.int .i64 0,v7]])) = τ8 at *
 have m8:=b8.notM
 have d8 : τ8[σ.length + 1]? = some (some (.cells 24 [.agg 24 [.int .i64 0,w8]])):=c8
 simp only [go_sem,simprocAttr,↓reduceIte,hT8,look_id e7,setLook_id e7,okM_notM q7,unm_notM q7,hT3,look_id d8,okM_notM m8,unm_notM m8]
 refine ⟨.of (by kernel_rfl),CallP.fn (r4_provided p.prov hm.prov) ?_⟩
 simp only [go_sem,simprocAttr,↓reduceIte,hT8,look_id e7,setLook_id e7,okM_notM q7,unm_notM q7,hT3,look_id d8,okM_notM m8,unm_notM m8]
 refine CallP.fn (r4_singles (p.prov.map provAtom) (by rw [List.length_map]; exact hm.prov)) ?_
 simp only [go_sem,simprocAttr,↓reduceIte,hT8,look_id e7,setLook_id e7,okM_notM q7,unm_notM q7,hT3,look_id d8,okM_notM m8,unm_notM m8]
 refine CallP.fn (r4_text (single (p.prov.map provAtom))) ?_
 simp only [go_sem,simprocAttr,↓reduceIte,hT8,look_id e7,setLook_id e7,okM_notM q7,unm_notM q7,hT3,look_id d8,okM_notM m8,unm_notM m8]
 refine CallA.goes (σ:=τ8) (by simp only [go_sem,simprocAttr,↓reduceIte,hT8,look_id e7,setLook_id e7,okM_notM q7,unm_notM q7,hT3]) (put9 c8 b8 f8 z8 x8 n8 (by decide) nProv (textP p.prov)) fun r υ8 ⟨v8,hr,e8,S,q8⟩=>?_
 subst hr
 obtain ⟨w9,c9,b9,f9,z9,x9,n9⟩:=S
 generalize hT9 : υ8.set (σ.length + 1) (some (SObj.cells 24 [.agg 24 [.int .i64 0,v8]])) = τ9 at *
 have m9:=b9.notM
 have d9 : τ9[σ.length + 1]? = some (some (.cells 24 [.agg 24 [.int .i64 0,w9]])):=c9
 have d0 : τ9[σ.length]? = some (some (.cells 24 [.agg 24 [.int .i64 0,.nils]])):=z9
 have hlt:=(List.getElem?_eq_some_iff.1 d0).1
 have hf : fitsB prog 24 (.agg 24 [.int .i64 0,w9]) = true:=by kernel_rfl
 simp only [go_sem,simprocAttr,↓reduceIte,hT9,look_id e8,setLook_id e8,okM_notM q8,unm_notM q8,hT3,look_id d9,okM_notM m9,unm_notM m9,look_id d0,setLook_id d0,hf]
 refine EndM.ret ?_
 simp only [go_sem,simprocAttr,↓reduceIte,look_set hlt,okM_notM m9,unm_notM m9]
 have hfl : fldsP p = l0 ++ (if p.ess = true then putF nEss sYes else []) ++ putF nPre (textL p.pre) ++ putF nDep (textL p.dep) ++ putF nRcm (textL p.rcm) ++ putF nCon (textA p.con) ++ putF nBrk (textA p.brk) ++ putF nProv (textP p.prov):=by
  obtain ⟨g1,g2⟩:=may_nv he
  unfold fldsP
  rw [addF_put _ _ (by simp),addF_put _ _ (by simp),addF_put _ _ (by simp),addF_put _ _ (by simp),addF_put _ _ (by simp),addF_put _ _ (by simp),addF_put _ _ (by simp),addF_put _ _ (by simp),addF_put _ _ (by simp)]
  have a1 : putF nPackage (writeT (.text p.name)).1 = [(nPackage,p.name)]:=by unfold putF; rw [if_pos (by simpa [writeT] using g1)]; rfl
  have a2 : putF nVersion (writeT (.text p.ver)).1 = [(nVersion,p.ver)]:=by unfold putF; rw [if_pos (by simpa [writeT] using g2)]; rfl
  rw [a1,a2]
  rfl
 rw [← hfl] at b9
 have hid : ∀ j ∈ foot w9,j ≠ σ.length:=fun j hj e=>b9.ne d0 (by simp) (e ▸ hj)
 exact ⟨_,.refl _,by have:=x9.le; simpa using this,w9,by rw [he],by rw [if_neg (by rw [he]; decide)]; exact b9.keep fun j hj=>List.getElem?_set_ne (hid j hj).symm,f9,x9.set (Nat.le_refl _) _⟩
theorem r9_stanza (p : Pkg) (hm : MayN p) : PureFn prog W0 32 [pkgAV p] (.tup [stzAV (stanzaP p),.int .i64 (mayPkg p)]) :=
 .ofCall (.tup2 (ids_stz _ _) (.int _ _)) fun σ=>(r9_stanzaO p hm σ).mono fun _ _ h=>h.weak fun _=>.refl _
end Go.Proofs.Tryz
end
section
namespace Go.Av
def lineP (n : List UInt8) (k : Int) (s : List UInt8) : List UInt8 :=
 if 0 < k ∧ s = [] then [32,46] else if 0 < k then 32 :: s else if s = [] then n ++ [58] else n ++ [58,32] ++ s
end Go.Av
namespace Go.Proofs.Tryz
open Go Go.Av
set_option maxRecDepth 10000
variable {W0 : World}
theorem sz_printed (f : Fld) (k : Int) (s : List UInt8) (h : f.name.length + s.length ≤ 16777216) : PureFn prog W0 126 [fldAV f,.int .i64 k,.str s] (.str (lineP f.name k s)):=by
 refine fn_pure [6] [3] func126 rfl rfl ntmps126 rfl rfl (.str _) fun hs σ=>?_
 have b1 : (1 + s.length ≤ maxLen) = True:=eq_true (by rw [maxLen_eq]; omega)
 have b2 : (f.name.length + 1 ≤ maxLen) = True:=eq_true (by rw [maxLen_eq]; omega)
 have b3 : (f.name.length + 2 ≤ maxLen) = True:=eq_true (by rw [maxLen_eq]; omega)
 have b4 : ((f.name ++ [58,32]).length + s.length ≤ maxLen) = True:=eq_true (by rw [maxLen_eq]; simp; omega)
 have b5 : (f.name.length + (1 + 1) + s.length ≤ maxLen) = True:=eq_true (by rw [maxLen_eq]; omega)
 have b6 : (f.name.length + 2 + s.length ≤ maxLen) = True:=eq_true (by rw [maxLen_eq]; omega)
 simp only [go_sem,simprocAttr,↓reduceIte,fldAV,b1,b2,b3,b4,b5,b6]
 unfold lineP
 refine ⟨fun h=>?_,fun h=>⟨fun h1=>?_,fun h1=>⟨fun h2=>?_,fun h2=>?_⟩⟩⟩
 ·simp only [Bool.and_eq_true,decide_eq_true_eq,beq_iff_eq] at h
  rw [if_pos h]
  exact .refl _
 ·rw [if_neg (by simp_all),if_pos h1]
  exact .refl _
 ·rw [if_neg (by simp_all),if_neg h1,if_pos h2]
  exact .refl _
 ·rw [if_neg (by simp_all),if_neg h1,if_neg h2]
  exact weak_str (by simp)
end Go.Proofs.Tryz
end
section
namespace Go.Av
def lineOk (k : Int) (s : List UInt8) : Bool:=!(decide (0 ≤ goodT s) || !(trimE s == s) || (decide (0 < k) && s == [46])) && (decide (0 < k) || trimT s == s)
end Go.Av
namespace Go.Proofs.Tryz
open Go Go.Av
set_option maxRecDepth 10000
variable {W0 : World}
theorem sz_mayLine (hW : TabsOk W0) (k : Int) (s : List UInt8) : PureFn prog W0 176 [.int .i64 k,.str s] (.bool (lineOk k s)):=by
 refine fn_pure [4] [] func176 rfl rfl ntmps176 rfl rfl (.bool _) fun hs σ=>?_
 simp only [go_sem,simprocAttr,↓reduceIte]
 refine CallA.fn (tx_good hW s) ?_
 simp only [go_sem,simprocAttr,↓reduceIte]
 refine CallP.fnG (fun _=>sz_trimEnd s) ?_
 simp only [go_sem,simprocAttr,↓reduceIte]
 refine ⟨fun h=>weak_bool (by unfold lineOk; rw [h]; rfl),fun h=>?_⟩
 refine CallP.fnG (fun _=>tx_trim hW s) ?_
 simp only [go_sem,simprocAttr,↓reduceIte]
 exact weak_bool (by unfold lineOk; rw [h]; rfl)
theorem sz_has (fs : List Fld) (n : List UInt8) : PureFn prog W0 177 [fldsAV fs,.str n] (.bool (hasF fs n)):=by
 refine fn_pure [4] [6] func177 rfl rfl ntmps177 rfl rfl (.bool _) fun hs σ=>?_
 have hl:=(small_map (hs _ (List.mem_cons_self ..))).1
 simp only [go_sem,simprocAttr,↓reduceIte,fldsAV,List.length_map]
 refine LoopVC.upto [1,7,8] (.of (by kernel_rfl)) fs.length (fun i A=>A.env 9 = .int .i64 i ∧ Ext σ A.st ∧ hasF (fs.take i) n = false) 0 (Nat.zero_le _) ?_ fun i B hi ⟨h9,hst,hI⟩=>?_
 ·simp only [go_sem,simprocAttr,↓reduceIte]
  exact ⟨.refl _,rfl⟩
 simp only [go_sem,simprocAttr,↓reduceIte,h9,List.length_map]
 refine ⟨fun hc=>⟨hc,?_⟩,fun hc=>?_⟩
 ·obtain ⟨f,hf⟩:=get_some hc
  simp only [atV_map hf]
  simp only [go_sem,simprocAttr,↓reduceIte,fldAV,h9]
  refine CallA.fn (sz_same f.name n) ?_
  simp only [go_sem,simprocAttr,↓reduceIte,h9]
  have e : hasF (fs.take (i + 1)) n = (hasF (fs.take i) n || sameT f.name n):=by
   rw [take_succ_get hf]
   unfold hasF
   rw [List.any_append,List.any_cons,List.any_nil,Bool.or_false]
  refine ⟨fun hq=>⟨weak_bool ?_,hst.app _⟩,fun hq=>⟨hc,int_succ hc hl,hst.app _,by rw [e,hI,hq]; rfl⟩⟩
  unfold hasF
  exact (List.any_eq_true.2 ⟨f,List.mem_of_getElem? hf,hq⟩).symm
 ·rw [List.take_of_length_le hc] at hI
  exact ⟨weak_bool hI.symm,hst⟩
end Go.Proofs.Tryz
end
section
namespace Go.Av
def allIx {α : Type} (q : Nat → α → Bool) : Nat → List α → Bool
 | _,[]=>true
 | i,x :: r=>q i x && allIx q (i + 1) r
def mayFieldN (f : Fld) (ahead : List Fld) : Int :=
 if ((nameN f.name : Int) == 0 || (nameN f.name : Int) != (f.name.length : Int) || (f.lines.length : Int) == 0) = true then 3
 else if allIx (fun k s=>lineOk k s) 0 f.lines = false then 3
 else if hasF ahead f.name = true then 4
 else if allIx (fun k s=>decide ((lineP f.name k s).length ≤ 1000)) 0 f.lines = false then 2
 else 0
end Go.Av
namespace Go.Proofs.Tryz
open Go Go.Av
set_option maxRecDepth 10000
variable {W0 : World}
theorem sz_mayField (hW : TabsOk W0) (f : Fld) (ahead : List Fld) (hln : f.lines.length ≤ 1048576) (hsz : ∀ s ∈ f.lines,f.name.length + s.length ≤ 16777216) : PureFn prog W0 125 [fldAV f,fldsAV ahead] (.int .i64 (mayFieldN f ahead)):=by
 refine fn_pure [4] [2] func125 rfl rfl ntmps125 rfl rfl (.int _ _) fun hs σ=>?_
 simp only [go_sem,simprocAttr,↓reduceIte,fldAV]
 refine CallA.fn (sz_name f.name) ?_
 simp only [go_sem,simprocAttr,↓reduceIte,strsAV,List.length_map]
 refine ⟨fun h=>weak_int (by unfold mayFieldN; rw [if_pos h]),fun h=>?_⟩
 refine LoopVC.at [1,2] (.of (by kernel_rfl)) (fun A=>A.st = σ ∧ allIx (fun k s=>lineOk k s) 0 f.lines = true) ?_ fun B ⟨hst,h1⟩=>?_
 ·refine LoopVC.upto [1,2,29,30] (.of (by kernel_rfl)) f.lines.length (fun i A=>A.env 31 = .int .i64 i ∧ A.st = σ ∧ allIx (fun k s=>lineOk k s) 0 f.lines = allIx (fun k s=>lineOk k s) i (f.lines.drop i)) 0 (Nat.zero_le _) ?_ fun i B hi ⟨h31,hst,hI⟩=>?_
  ·simp only [go_sem,simprocAttr,↓reduceIte]
  simp only [go_sem,simprocAttr,↓reduceIte,h31,hst,List.length_map]
  refine ⟨fun hc=>⟨hc,?_⟩,fun hc=>?_⟩
  ·obtain ⟨s,hs1⟩:=get_some hc
   simp only [atV_map hs1]
   simp only [go_sem,simprocAttr,↓reduceIte,h31,hst]
   refine CallA.fn (sz_mayLine hW i s) ?_
   simp only [go_sem,simprocAttr,↓reduceIte,h31,hst]
   rw [List.drop_eq_getElem_cons hc,(List.getElem?_eq_some_iff.1 hs1).2,allIx] at hI
   refine ⟨fun hq=>weak_int ?_,fun hq=>⟨hc,int_succ hc (by rw [maxLen_eq]; omega),by rw [hI,hq,Bool.true_and]⟩⟩
   rw [hq,Bool.false_and] at hI
   unfold mayFieldN
   rw [if_neg (by rw [h]; decide),if_pos hI]
  ·rw [List.drop_of_length_le hc,allIx] at hI
   exact hI
 simp only [go_sem,simprocAttr,↓reduceIte,hst]
 refine CallA.fn (sz_has ahead f.name) ?_
 simp only [go_sem,simprocAttr,↓reduceIte,hst]
 refine ⟨fun h2=>weak_int (by unfold mayFieldN; rw [if_neg (by rw [h]; decide),if_neg (by rw [h1]; decide),if_pos h2]),fun h2=>?_⟩
 simp only [go_sem,simprocAttr,↓reduceIte,strsAV,List.length_map]
 refine LoopVC.upto [2,46,47] (.of (by kernel_rfl)) f.lines.length (fun i A=>A.env 48 = .int .i64 i ∧ A.st = σ ∧ allIx (fun k s=>decide ((lineP f.name k s).length ≤ 1000)) 0 f.lines = allIx (fun k s=>decide ((lineP f.name k s).length ≤ 1000)) i (f.lines.drop i)) 0 (Nat.zero_le _) ?_ fun i B hi ⟨h31,hst,hI⟩=>?_
 ·simp only [go_sem,simprocAttr,↓reduceIte]
  exact hst
 simp only [go_sem,simprocAttr,↓reduceIte,h31,hst,List.length_map]
 refine ⟨fun hc=>⟨hc,?_⟩,fun hc=>weak_int ?_⟩
 ·obtain ⟨s,hs1⟩:=get_some hc
  simp only [atV_map hs1]
  refine ⟨trivial,?_⟩
  refine CallA.fn (sz_printed f i s (hsz s (List.mem_of_getElem? hs1))) ?_
  simp only [go_sem,simprocAttr,↓reduceIte,h31,hst]
  rw [List.drop_eq_getElem_cons hc,(List.getElem?_eq_some_iff.1 hs1).2,allIx] at hI
  refine ⟨fun hq=>weak_int ?_,fun hq=>⟨hc,int_succ hc (by rw [maxLen_eq]; omega),?_⟩⟩
  ·rw [decide_eq_false (by omega),Bool.false_and] at hI
   unfold mayFieldN
   rw [if_neg (by rw [h]; decide),if_neg (by rw [h1]; decide),if_neg (by rw [h2]; decide),if_pos hI]
  ·rw [hI,decide_eq_true (by omega),Bool.true_and]
 ·rw [List.drop_of_length_le hc,allIx] at hI
  unfold mayFieldN
  rw [if_neg (by rw [h]; decide),if_neg (by rw [h1]; decide),if_neg (by rw [h2]; decide),if_neg (by rw [hI]; decide)]
end Go.Proofs.Tryz
end
section
namespace Go.Av
open Go.Proofs.Tryz
def prB (c : UInt8) : Bool:=decide (32 ≤ c.toNat) && decide (c.toNat ≤ 126)
theorem good_pr : ∀ (f : Nat) {s : List UInt8} (i : Nat),(∀ c ∈ s,prB c = true) → goodF f s i = -1
 | 0,_,_,_=>rfl
 | _ + 1,[],_,_=>rfl
 | f + 1,c :: r,i,h=>by
  have hc:=h c (by simp)
  simp only [prB,Bool.and_eq_true,decide_eq_true_eq] at hc
  have h1 : sizeT (c :: r) = 1:=sizeT_ascii (by omega)
  have h2 : badC c = false:=by
   unfold badC
   rw [decide_eq_false (by omega),decide_eq_false (show ¬ c.toNat = 127 by omega)]
   rfl
  rw [goodF,h1,h2,if_neg (by simp)]
  exact good_pr f _ fun x hx=>h x (by simpa using .inr hx)
theorem goodT_pr {s : List UInt8} (h : ∀ c ∈ s,prB c = true) : goodT s = -1:=good_pr _ _ h
structure Edge (s : List UInt8) : Prop where
 hd : ∃ c t,s = c :: t ∧ clsB c ≠ 1
 tl : ∃ u c,s = u ++ [c] ∧ clsB c ≠ 1
theorem Edge.plain {s : List UInt8} (hne : s ≠ []) (h : ∀ c ∈ s,clsB c = 0) : Edge s:=by
 constructor
 ·cases s with
  | nil=>exact absurd rfl hne
  | cons c t=>exact ⟨c,t,rfl,by rw [h c (by simp)]; decide⟩
 ·rcases List.eq_nil_or_concat s with rfl | ⟨u,c,rfl⟩
  ·exact absurd rfl hne
  ·rw [List.concat_eq_append] at *
   exact ⟨u,c,rfl,by rw [h c (by simp)]; decide⟩
theorem Edge.ne {s : List UInt8} (h : Edge s) : s ≠ []:=by
 obtain ⟨c,t,rfl,_⟩:=h.hd
 simp
theorem Edge.app {s m t : List UInt8} (hs : Edge s) (ht : Edge t) : Edge (s ++ (m ++ t)):=by
 obtain ⟨c,a,rfl,h1⟩:=hs.hd
 obtain ⟨u,d,rfl,h2⟩:=ht.tl
 exact ⟨⟨c,a ++ (m ++ (u ++ [d])),rfl,h1⟩,⟨(c :: a) ++ (m ++ u),d,by simp,h2⟩⟩
theorem Edge.trimE {s : List UInt8} (h : Edge s) : trimE s = s:=by
 obtain ⟨u,c,rfl,h1⟩:=h.tl
 rw [trimE_snoc,if_neg (by simp [wsB,h1])]
theorem Edge.skip {s : List UInt8} (h : Edge s) : skipW s = s:=by
 obtain ⟨c,t,rfl,h1⟩:=h.hd
 exact skip_id h1
theorem Edge.trim {s : List UInt8} (h : Edge s) : trimT s = s:=by
 unfold trimT
 rw [h.skip,h.trimE]
theorem mayCl_good {l : List Clause} (h : mayCl l = 0) : l.length ≤ 12 ∧ ∀ c ∈ l,goodCl c = true:=by
 unfold mayCl at h
 split at h
 ·cases h
 rename_i h1
 split at h
 ·cases h
 rename_i h2
 refine ⟨by omega,fun c hc=>?_⟩
 have h3 : ¬ (6 < c.length):=fun h6=>h1 (.inr (List.any_eq_true.2 ⟨c,hc,by simpa using h6⟩))
 have h4 : ¬ ((decide (c.length = 0) || c.any fun a=>!mayAtom a) = true):=fun h6=>h2 (List.any_eq_true.2 ⟨c,hc,h6⟩)
 simp only [Bool.or_eq_true,decide_eq_true_eq,List.any_eq_true,Bool.not_eq_true',not_or,not_exists,not_and,Bool.not_eq_false] at h4
 simp only [goodCl,Bool.and_eq_true,decide_eq_true_eq,List.all_eq_true]
 exact ⟨⟨h4.1,by omega⟩,fun a ha=>h4.2 a ha⟩
theorem single_good {l : List Atom} (h : mayCl (single l) = 0) : l.length ≤ 12 ∧ ∀ a ∈ l,mayAtom a = true:=by
 obtain ⟨h1,h2⟩:=mayCl_good h
 refine ⟨by simpa [single] using h1,fun a ha=>?_⟩
 exact (good_cl (h2 [a] (List.mem_map.2 ⟨a,ha,rfl⟩))).2.2 a (by simp)
structure MayG (p : Pkg) : Prop where
 name : nameOk p.name = true
 ver : isVer p.ver = true
 pre : p.pre.length ≤ 12 ∧ ∀ c ∈ p.pre,goodCl c = true
 dep : p.dep.length ≤ 12 ∧ ∀ c ∈ p.dep,goodCl c = true
 rcm : p.rcm.length ≤ 12 ∧ ∀ c ∈ p.rcm,goodCl c = true
 con : p.con.length ≤ 12 ∧ ∀ a ∈ p.con,mayAtom a = true
 brk : p.brk.length ≤ 12 ∧ ∀ a ∈ p.brk,mayAtom a = true
 prov : p.prov.length ≤ 12 ∧ ∀ x ∈ p.prov,mayAtom (provAtom x) = true
theorem mayPkg_good {p : Pkg} (h : mayPkg p = 0) : MayG p:=by
 unfold mayPkg at h
 split at h
 ·cases h
 rename_i h1
 simp only [Bool.or_eq_true,Bool.not_eq_true',not_or,Bool.not_eq_false] at h1
 have h2:=orL_zero h
 obtain ⟨g1,g2⟩:=single_good (h2 (mayCl (single (p.prov.map provAtom))) (by simp))
 exact ⟨h1.1,h1.2,mayCl_good (h2 _ (by simp)),mayCl_good (h2 _ (by simp)),mayCl_good (h2 _ (by simp)),single_good (h2 _ (by simp)),single_good (h2 _ (by simp)),by simpa using g1,fun x hx=>g2 _ (List.mem_map.2 ⟨x,hx,rfl⟩)⟩
structure FitF (n t : List UInt8) (v : ValN) : Prop where
 edge : Edge t
 pr : ∀ c ∈ t,prB c = true
 read : readV n t = .ok v
end Go.Av
end
section
namespace Go.Av
open Go.Proofs.Tryz
def nState : List UInt8:=[83,116,97,116,101]
def nHold : List UInt8:=[72,111,108,100]
def pkgNames : List (List UInt8):=[nPackage,nVersion,nEss,nPre,nDep,nRcm,nCon,nBrk,nProv]
def allNames : List (List UInt8):=pkgNames ++ [nState,nHold]
def addV (n : List UInt8) (v : ValN) : List (Fld × ValN):=if ((writeT v).2 && !((writeT v).1 == [])) = true then [(⟨n,[(writeT v).1]⟩,v)] else []
def vfsP (p : Pkg) : List (Fld × ValN) :=
 addV nPackage (.text p.name) ++ addV nVersion (.text p.ver) ++ (if p.ess = true then addV nEss (.yes true) else []) ++ addV nPre (.cls p.pre) ++ addV nDep (.cls p.dep) ++ addV nRcm (.cls p.rcm) ++ addV nCon (.atoms p.con) ++ addV nBrk (.atoms p.brk) ++ addV nProv (.provs p.prov)
theorem addV_fst (n : List UInt8) (v : ValN) : (addV n v).map (·.1) = (addF n v).map fun x=>(⟨x.1,[x.2]⟩ : Fld):=by
 unfold addV addF
 split <;> rfl
theorem vfsP_fst (p : Pkg) : (vfsP p).map (·.1) = (fldsP p).map fun x=>(⟨x.1,[x.2]⟩ : Fld):=by
 unfold vfsP fldsP
 simp only [List.map_append,addV_fst]
 split
 ·rw [addV_fst]
 ·rfl
structure FG (y : Fld × ValN) : Prop where
 fit : ∃ t,y.1.lines = [t] ∧ FitF y.1.name t y.2
 name : y.1.name ∈ allNames
theorem addV_names (n : List UInt8) (v : ValN) : List.Sublist ((addV n v).map fun y=>y.1.name) [n]:=by
 unfold addV
 split
 ·exact List.Sublist.refl _
 ·exact List.nil_sublist _
theorem vfsP_names (p : Pkg) : List.Sublist ((vfsP p).map fun y=>y.1.name) pkgNames:=by
 unfold vfsP
 simp only [List.map_append]
 have he : List.Sublist ((if p.ess = true then addV nEss (.yes true) else []).map fun y=>y.1.name) [nEss]:=by
  split
  ·exact addV_names _ _
  ·exact List.nil_sublist _
 exact ((((((((addV_names nPackage _).append (addV_names nVersion _)).append he).append (addV_names nPre _)).append (addV_names nDep _)).append (addV_names nRcm _)).append (addV_names nCon _)).append (addV_names nBrk _)).append (addV_names nProv _)
theorem sameT_symm (a b : List UInt8) : sameT a b = sameT b a:=by
 unfold sameT
 exact decide_eq_decide.2 ⟨Eq.symm,Eq.symm⟩
theorem hasF_snoc (l : List Fld) (f : Fld) (n : List UInt8) : hasF (l ++ [f]) n = (hasF l n || sameT f.name n):=by
 unfold hasF
 rw [List.any_append,List.any_cons,List.any_nil,Bool.or_false]
end Go.Av
end
section
namespace Go.Av
open Go.Proofs.Tryz
def linB (n : List UInt8) : Nat → List (List UInt8) → List UInt8
 | _,[]=>[]
 | k,s :: r=>(lineP n k s ++ [10]) ++ linB n (k + 1) r
def printF : List Fld → List Fld → List UInt8 → List UInt8 × Int
 | _,[],out=>(out,0)
 | ahead,f :: r,out=>if mayFieldN f ahead ≠ 0 then ([],mayFieldN f ahead) else printF (ahead ++ [f]) r (out ++ linB f.name 0 f.lines)
def printS : Nat → List Stz → List UInt8 → List UInt8 × Int
 | _,[],out=>(out,0)
 | i,x :: r,out=>if x.fields.length = 0 ∨ 40 < x.fields.length then ([],12)
  else if (printF [] x.fields (if 0 < i then out ++ [10] else out)).2 ≠ 0 then ([],(printF [] x.fields (if 0 < i then out ++ [10] else out)).2)
  else printS (i + 1) r (printF [] x.fields (if 0 < i then out ++ [10] else out)).1
def printT (l : List Stz) : List UInt8 × Int :=
 if 200 < l.length then ([],12) else if (printS 0 l []).2 ≠ 0 then ([],(printS 0 l []).2) else if 65536 < (printS 0 l []).1.length then ([],2) else ((printS 0 l []).1,0)
def lnF (f : Fld) : List UInt8:=lineP f.name 0 (f.lines.headD [])
theorem nm_facts : ∀ n ∈ allNames,n ≠ [] ∧ (∀ c ∈ n,clsB c = 0) ∧ (∀ c ∈ n,prB c = true) ∧ nameN n = n.length ∧ hashH n = false:=by decide
structure LnF (y : Fld × ValN) (t : List UInt8) : Prop where
 lines : y.1.lines = [t]
 edge : Edge t
 pr : ∀ c ∈ t,prB c = true
 name : y.1.name ∈ allNames
 line : lnF y.1 = y.1.name ++ 58 :: 32 :: t
theorem FG.ln {y : Fld × ValN} (h : FG y) : ∃ t,LnF y t:=by
 obtain ⟨t,h1,h2⟩:=h.fit
 refine ⟨t,h1,h2.edge,h2.pr,h.name,?_⟩
 unfold lnF lineP
 rw [h1]
 simp [h2.edge.ne]
theorem LnF.may {y : Fld × ValN} {t : List UInt8} (h : LnF y t) {ahead : List Fld} (ha : hasF ahead y.1.name = false) : mayFieldN y.1 ahead = if (lnF y.1).length ≤ 1000 then 0 else 2:=by
 obtain ⟨h1,h2,h3,h4,h5⟩:=nm_facts _ h.name
 have hl : y.1.name.length ≠ 0:=fun e=>h1 (List.length_eq_zero_iff.1 e)
 have ho : lineOk ((0 : Nat) : Int) t = true:=by
  unfold lineOk
  rw [goodT_pr h.pr,h.edge.trimE,h.edge.trim]
  simp
 unfold mayFieldN
 rw [h.lines]
 rw [if_neg,if_neg,if_neg (by rw [ha]; decide)]
 ·simp only [allIx,Bool.and_true,decide_eq_false_iff_not]
  have e : lineP y.1.name ((0 : Nat) : Int) t = lnF y.1:=by
   unfold lnF
   rw [h.lines]
   rfl
  rw [e]
  by_cases hg : (lnF y.1).length ≤ 1000
  ·rw [if_pos hg,if_neg (fun h=>h hg)]
  ·rw [if_neg hg,if_pos hg]
 ·simp only [allIx,Bool.and_true,ho]
  decide
 ·rw [h4]
  simp [hl]
structure SG (L : List (Fld × ValN)) : Prop where
 ne : L ≠ []
 len : L.length ≤ 40
 fg : ∀ y ∈ L,FG y
 pw : L.Pairwise fun y z=>sameT y.1.name z.1.name = false
theorem len_names {L : List (Fld × ValN)} (h : List.Sublist (L.map fun y=>y.1.name) allNames) : L.length ≤ 11:=by
 have:=h.length_le
 simpa [allNames,pkgNames] using this
theorem stanzaP_ok {p : Pkg} (h : mayPkg p = 0) : stanzaP p = ⟨0,(vfsP p).map (·.1)⟩:=by
 unfold stanzaP
 rw [if_neg (by rw [h]; decide),vfsP_fst]
def stanzaE (x : EntN) : Stz:=⟨(stanzaP x.pkg).line,((stanzaP x.pkg).fields ++ [⟨nState,[if x.conf = true then sConf else sUnp]⟩]) ++ (if x.hold = true then [⟨nHold,[sYes]⟩] else [])⟩
theorem mayAll_zero {l : List Pkg} (h : mayAll l = 0) : l.length ≤ 24 ∧ ∀ p ∈ l,mayPkg p = 0:=by
 unfold mayAll at h
 split at h
 ·cases h
 rename_i h1
 split at h
 ·rename_i h2; exact absurd h h2
 rename_i h2
 exact ⟨by omega,fun p hp=>orL_zero (by omega) _ (List.mem_map.2 ⟨p,hp,rfl⟩)⟩
def printP (l : List Pkg) : List UInt8 × Int:=if mayAll l ≠ 0 then ([],mayAll l) else printT (l.map stanzaP)
end Go.Av
end
section
namespace Go.Av
def OneL (f : Fld) : Prop:=f.lines.length ≤ 1 ∧ (∀ s ∈ f.lines,f.name.length + s.length ≤ 16777216) ∧ f.name.length ≤ 16777216
theorem lin_one {f : Fld} {ahead : List Fld} (h1 : f.lines.length ≤ 1) (h0 : mayFieldN f ahead = 0) : (linB f.name 0 f.lines).length ≤ 1001:=by
 unfold mayFieldN at h0
 split at h0
 ·cases h0
 split at h0
 ·cases h0
 split at h0
 ·cases h0
 split at h0
 ·cases h0
 rename_i h
 rcases hl : f.lines with _ | ⟨s,_ | ⟨t,r⟩⟩
 ·simp [linB]
 ·rw [hl] at h
  simp only [allIx,Bool.and_true,decide_eq_false_iff_not,Classical.not_not] at h
  simp only [linB,List.append_nil,List.length_append,List.length_cons,List.length_nil]
  have : (lineP f.name ((0 : Nat) : Int) s).length ≤ 1000:=h
  have e : ((0 : Nat) : Int) = 0:=rfl
  omega
 ·rw [hl] at h1
  simp at h1
theorem linB_get {n : List UInt8} {ls : List (List UInt8)} {j k : Nat} {s : List UInt8} (h : ls[j]? = some s) : linB n k (ls.drop j) = (lineP n k s ++ [10]) ++ linB n (k + 1) (ls.drop (j + 1)):=by
 rw [List.drop_eq_getElem_cons (List.getElem?_eq_some_iff.1 h).1,(List.getElem?_eq_some_iff.1 h).2,linB]
theorem printT_err {l : List Stz} {e : Int} (h : ¬ 200 < l.length) (hP : printS 0 l [] = ([],e)) (he : e ≠ 0) : printT l = ([],e):=by
 unfold printT
 rw [if_neg h,hP,if_pos he]
end Go.Av
namespace Go.Proofs.Tryz
open Go Go.Av
set_option maxRecDepth 10000
variable {W0 : World}
theorem ids_bytes (n : Nat) (b : List UInt8) : IdsLt n (bytesAV b):=.map fun _ _=>.int _ _
theorem sz_print (hW : TabsOk W0) (l : List Stz) (hp : ∀ x ∈ l,∀ f ∈ x.fields,OneL f) : PureFn prog W0 78 [stzsAV l] (.tup [bytesAV (printT l).1,.int .i64 (printT l).2]):=by
 refine fn_pure [2,3] [6,8,46] func78 rfl rfl ntmps78 rfl rfl (.tup2 (ids_bytes _ _) (.int _ _)) fun hs σ=>?_
 simp only [go_sem,simprocAttr,↓reduceIte,stzsAV,List.length_map]
 refine ⟨fun h=>?_,fun h=>?_⟩
 ·rw [printT,if_pos (by omega)]
  exact weak_tup2 (.nils _) (.refl _)
 refine LoopVC.at [] (.of (by kernel_rfl)) (fun A=>∃ v out,A.env 4 = v ∧ Built σ A.st v 5 (out.map byteAV) ∧ printS 0 l [] = (out,0) ∧ out.length ≤ 8008200) ?_ fun B ⟨v,out,h4,hb,hP,hl⟩=>?_
 ·refine LoopVC.upto [15,16] (.of (by kernel_rfl)) l.length (fun i A=>∃ v out,A.env 4 = v ∧ A.env 17 = .int .i64 i ∧ Built σ A.st v 5 (out.map byteAV) ∧ printS 0 l [] = printS i (l.drop i) out ∧ out.length ≤ i * 40041) 0 (Nat.zero_le _) ?_ fun i B hi ⟨v,out,h4,h17,hb,hP,hl⟩=>?_
  ·simp only [go_sem,simprocAttr,↓reduceIte]
   exact ⟨_,[],rfl,Built.nil (.refl _) _,rfl,by simp⟩
  simp only [go_sem,simprocAttr,↓reduceIte,h4,h17,hb.ok,hb.un,List.length_map]
  refine ⟨fun hc=>⟨hc,?_⟩,fun hc=>?_⟩
  ·obtain ⟨x,hx⟩:=get_some hc
   simp only [atV_map hx]
   have hd : l.drop i = x :: l.drop (i + 1):=by rw [List.drop_eq_getElem_cons hc]; congr 1; exact (List.getElem?_eq_some_iff.1 hx).2
   rw [hd,printS] at hP
   simp only [go_sem,simprocAttr,↓reduceIte,stzAV,fldsAV,h4,h17,hb.ok,hb.un,List.length_map]
   refine ⟨fun hq=>?_,fun hq=>?_⟩
   ·rw [if_pos (by simp only [Bool.or_eq_true,beq_iff_eq,decide_eq_true_eq] at hq; omega)] at hP
    rw [printT_err (by omega) hP (by decide)]
    exact ⟨weak_tup2 (.nils _) (.refl _),hb.ext.app _⟩
   rw [if_neg (by simp only [Bool.or_eq_false_iff,beq_eq_false_iff_ne,decide_eq_false_iff_not] at hq; omega)] at hP
   have hq40 : x.fields.length ≤ 40:=by simp only [Bool.or_eq_false_iff,beq_eq_false_iff_ne,decide_eq_false_iff_not] at hq; omega
   generalize ho0 : (if 0 < i then out ++ [10] else out) = o0 at hP
   obtain ⟨m,hm⟩ : ∃ m,m = i * 40041 + 1:=⟨_,rfl⟩
   have hl0 : o0.length ≤ m:=by
    rw [← ho0]
    split
    ·rw [List.length_append,List.length_singleton]; omega
    ·omega
   refine JoinVC.at [6,15,16,17] (by kernel_rfl) (fun A=>∃ v,A.env 4 = v ∧ Built σ A.st v 5 (o0.map byteAV)) (fun h=>?_) (fun h=>?_) fun B2 ⟨v2,h4',hb2⟩=>?_
   ·have hb1:=hb.more [none]
    simp only [go_sem,simprocAttr,↓reduceIte,h4,hb.ok,hb.un]
    refine AppA.own 16777216 (by kernel_rfl) hb1.bld (.lit _ _ _) (by simp; omega) fun v' σ' ha'=>?_
    have hb':=hb1.app ha'
    simp only [go_sem,simprocAttr,↓reduceIte,hb'.ok,hb'.un]
    refine ⟨_,rfl,?_⟩
    have h:=of_decide_eq_true h
    rw [← ho0,if_pos (by omega),List.map_append]
    exact hb'
   ·simp only [go_sem,simprocAttr,↓reduceIte]
    refine ⟨_,h4,?_⟩
    have h:=of_decide_eq_false h
    rw [← ho0,if_neg (by omega)]
    exact hb.more _
   simp only [go_sem,simprocAttr,↓reduceIte,stzAV,fldsAV,h4',h17,hb2.ok,hb2.un,List.length_map]
   refine LoopVC.ats [15,16,17] (.of (by kernel_rfl)) (fun A=>∃ v out,A.env 4 = v ∧ Built σ A.st v 5 (out.map byteAV) ∧ printF [] x.fields o0 = (out,0) ∧ out.length ≤ (i + 1) * 40041) ?_ fun B3 ⟨v3,o3,h4,hb,hF,hl⟩=>?_
   ·refine LoopVC.upto [6,15,16,17,38,39] (.of (by kernel_rfl)) x.fields.length (fun k A=>∃ v out,A.env 4 = v ∧ A.env 40 = .int .i64 k ∧ Built σ A.st v 5 (out.map byteAV) ∧ printF [] x.fields o0 = printF (x.fields.take k) (x.fields.drop k) out ∧ out.length ≤ m + k * 1001) 0 (Nat.zero_le _) ?_ fun k B3 hk ⟨v3,o3,h4,h40,hb,hF,hl⟩=>?_
    ·simp only [go_sem,simprocAttr,↓reduceIte]
     exact ⟨_,o0,h4',hb2,rfl,by omega⟩
    simp only [go_sem,simprocAttr,↓reduceIte,h4,h40,hb.ok,hb.un,List.length_map]
    refine ⟨fun hc2=>⟨hc2,?_⟩,fun hc2=>?_⟩
    ·obtain ⟨f,hf⟩:=get_some hc2
     simp only [atV_map hf]
     have hd2 : x.fields.drop k = f :: x.fields.drop (k + 1):=by rw [List.drop_eq_getElem_cons hc2]; congr 1; exact (List.getElem?_eq_some_iff.1 hf).2
     rw [hd2] at hF
     obtain ⟨g1,g2,_⟩:=hp x (List.mem_of_getElem? hx) f (List.mem_of_getElem? hf)
     simp only [go_sem,simprocAttr,↓reduceIte,fldAV,h4,h40,hb.ok,hb.un,List.length_map]
     refine ⟨.of (by kernel_rfl),⟨by omega,hk⟩,?_⟩
     refine CallP.fn (by have:=sz_mayField hW f (x.fields.take k) (by omega) g2; unfold fldAV fldsAV at this; rw [← List.map_take]; exact this) ?_
     rw [printF] at hF
     simp only [go_sem,simprocAttr,↓reduceIte,h4,h40,hb.ok,hb.un,List.length_map]
     refine ⟨fun he=>?_,fun he=>?_⟩
     ·rw [if_pos (by simpa using he)] at hF
      rw [hF,if_pos (by simpa using he)] at hP
      rw [printT_err (by omega) hP (by simpa using he)]
      exact ⟨weak_tup2 (.nils _) (.refl _),hb.ext.app _⟩
     have he : mayFieldN f (x.fields.take k) = 0:=by simpa using he
     rw [if_neg (by rw [he]; decide)] at hF
     have hlin:=lin_one g1 he
     simp only [go_sem,simprocAttr,↓reduceIte,strsAV,h4,h40,hb.ok,hb.un,List.length_map]
     refine LoopVC.ats [6,15,16,17,38,39,40] (.of (by kernel_rfl)) (fun A=>∃ v,A.env 4 = v ∧ Built σ A.st v 5 ((o3 ++ linB f.name 0 f.lines).map byteAV)) ?_ fun B4 ⟨v4,h4,hb⟩=>?_
     ·refine LoopVC.upto [6,8,15,16,17,38,39,40,55,56] (.of (by kernel_rfl)) f.lines.length (fun j A=>∃ v o,A.env 4 = v ∧ A.env 57 = .int .i64 j ∧ Built σ A.st v 5 (o.map byteAV) ∧ o ++ linB f.name j (f.lines.drop j) = o3 ++ linB f.name 0 f.lines) 0 (Nat.zero_le _) ?_ fun j B4 hj ⟨v4,o4,h4,h57,hb,hE⟩=>?_
      ·simp only [go_sem,simprocAttr,↓reduceIte]
       exact ⟨_,o3,h4,hb.more _,rfl⟩
      simp only [go_sem,simprocAttr,↓reduceIte,h4,h57,hb.ok,hb.un,List.length_map]
      refine ⟨fun hc3=>⟨hc3,?_⟩,fun hc3=>?_⟩
      ·obtain ⟨s,hs1⟩:=get_some hc3
       simp only [atV_map hs1]
       simp only [go_sem,simprocAttr,↓reduceIte,h4,h57,hb.ok,hb.un]
       refine CallA.fn (sz_printed f j s (g2 s (List.mem_of_getElem? hs1))) ?_
       rw [linB_get hs1] at hE
       have hlen:=congrArg List.length hE
       simp only [List.length_append,List.length_singleton] at hlen
       simp only [go_sem,simprocAttr,↓reduceIte,h4,h57,hb.ok,hb.un]
       refine AppA.strS (σ:=B4.st) (by simp only [go_sem,simprocAttr,↓reduceIte]) 16777216 (by kernel_rfl) hb.bld (by rw [List.length_map]; omega) fun v5 σ5 ha=>?_
       have hb5:=hb.app ha
       simp only [go_sem,simprocAttr,↓reduceIte,h4,h57,hb5.ok,hb5.un]
       refine AppA.ownS (σ:=σ5) (by simp only [go_sem,simprocAttr,↓reduceIte]) 16777216 (by kernel_rfl) hb5.bld (.lit _ _ _) (by simp only [List.length_append,List.length_map,List.length_singleton]; omega) fun v6 σ6 ha6=>?_
       have hb6:=hb5.app ha6
       simp only [go_sem,simprocAttr,↓reduceIte,h4,h57,hb6.ok,hb6.un]
       refine ⟨hc3,v6,o4 ++ (lineP f.name j s ++ [10]),rfl,int_succ hc3 (by rw [maxLen_eq]; omega),?_,by rw [List.append_assoc]; exact hE⟩
       rw [List.map_append,List.map_append,← List.append_assoc]
       exact hb6
      ·rw [List.drop_of_length_le hc3,linB,List.append_nil] at hE
       exact ⟨v4,rfl,by rw [← hE]; exact hb⟩
     simp only [go_sem,simprocAttr,↓reduceIte,h4,h40]
     refine ⟨hc2,v4,_,rfl,int_succ hc2 (by rw [maxLen_eq]; omega),hb,by rw [take_succ_get hf]; exact hF,?_⟩
     rw [List.length_append]
     omega
    ·rw [List.drop_of_length_le hc2,printF] at hF
     exact ⟨v3,o3,rfl,hb,hF,by omega⟩
   ·simp only [go_sem,simprocAttr,↓reduceIte,h17]
    rw [hF,if_neg (by simp)] at hP
    exact ⟨hc,v3,o3,h4,int_succ hc (by rw [maxLen_eq]; omega),hb,hP,hl⟩
  ·rw [List.drop_of_length_le hc,printS] at hP
   exact ⟨v,out,rfl,hb,hP,by omega⟩
 simp only [go_sem,simprocAttr,↓reduceIte,h4,hb.ok,hb.un,hb.len,hb.lenC,List.length_map]
 have hT : printT l = if 65536 < out.length then ([],2) else (out,0):=by
  unfold printT
  rw [if_neg (by omega),hP,if_neg (by simp)]
 refine ⟨fun h=>?_,fun h=>?_⟩
 ·rw [hT,if_pos (by omega)]
  exact ⟨weak_tup2 (.nils _) (.refl _),hb.ext⟩
 ·rw [hT,if_neg (by omega)]
  exact ⟨weak_tup2 hb.weak (.refl _),hb.ext⟩
end Go.Proofs.Tryz
end
section
namespace Go.Av
theorem fieldG_name : ∀ (n : List UInt8) (i : Nat),0 < i → (fieldG i (n ++ [58]) = ((i + n.length : Nat) : Int) ↔ nameG i n = i + n.length)
 | [],i,h=>by
  rw [List.nil_append,fieldG,nameG,if_pos (by decide),if_neg (by omega)]
  simp
 | c :: r,i,h=>by
  rw [List.cons_append,fieldG,nameG]
  by_cases h1 : c.toNat = 58
  ·rw [if_pos h1,if_pos h1,if_neg (by omega),List.length_cons]
   omega
  ·rw [if_neg h1,if_neg h1]
   by_cases h2 : badN i c = true
   ·rw [if_pos h2,if_pos h2,List.length_cons]
    omega
   ·rw [if_neg h2,if_neg h2,List.length_cons,show i + (r.length + 1) = (i + 1) + r.length by omega]
    exact fieldG_name r (i + 1) (by omega)
theorem field_name (n : List UInt8) : ((fieldN (n ++ [58]) != (n.length : Int) || (n.length : Int) == 0)) = ((nameN n : Int) == 0 || (nameN n : Int) != (n.length : Int)):=by
 cases n with
 | nil=>decide
 | cons c r =>
  have hl : ¬ (((c :: r).length : Int) = 0):=by simp only [List.length_cons]; omega
  have key : fieldN (c :: r ++ [58]) = ((c :: r).length : Int) ↔ nameN (c :: r) = (c :: r).length:=by
   unfold fieldN nameN
   rw [List.cons_append,fieldG,nameG]
   by_cases h1 : c.toNat = 58
   ·rw [if_pos h1,if_pos h1,if_pos rfl,List.length_cons]
    omega
   ·rw [if_neg h1,if_neg h1]
    by_cases h2 : badN 0 c = true
    ·rw [if_pos h2,if_pos h2,List.length_cons]
     omega
    ·rw [if_neg h2,if_neg h2,List.length_cons,show r.length + 1 = (0 + 1) + r.length by omega]
     exact fieldG_name r 1 (by omega)
  rw [Bool.eq_iff_iff]
  simp only [Bool.or_eq_true,bne_iff_ne,ne_eq,beq_iff_eq,hl,or_false,key]
  omega
theorem trim_tail {s : List UInt8} (h : trimT s = s) : trimE s = s:=by
 have h1:=skipW_len s
 have h2:=trimE_len (skipW s)
 have h3 : (trimE (skipW s)).length = s.length:=congrArg List.length h
 have h4 : skipW s = s:=by
  have:=List.dropWhile_suffix (p:=wsB) (l:=s)
  exact List.IsSuffix.eq_of_length this (by unfold skipW at *; omega)
 unfold trimT at h
 rwa [h4] at h
def lineR (k : Int) (s : List UInt8) : Bool:=decide (0 ≤ goodT s) || (k == 0 && !(trimT s == s)) || (decide (0 < k) && (!(trimE s == s) || s == [46]))
theorem lineR_ok (k : Nat) (s : List UInt8) : lineOk k s = !lineR k s:=by
 unfold lineOk lineR
 by_cases hk : k = 0
 ·subst hk
  by_cases h : trimT s = s
  ·simp [h,trim_tail h]
  ·rw [show (trimT s == s) = false by simpa using h]
   simp
 ·have h0 : 0 < (k : Int):=by omega
  have h1 : ((k : Int) == 0) = false:=by simp; omega
  rw [decide_eq_true h0,h1]
  simp [Bool.or_assoc]
def fieldT (f : Fld) (ahead : List Fld) : List UInt8 × Int:=if mayFieldN f ahead = 0 then (linB f.name 0 f.lines,0) else ([],mayFieldN f ahead)
theorem fieldT_err {f : Fld} {ahead : List Fld} {e : Int} (h : mayFieldN f ahead = e) (he : e ≠ 0) : fieldT f ahead = ([],e):=by
 unfold fieldT
 rw [if_neg (by rw [h]; exact he),h]
end Go.Av
namespace Go.Proofs.Tryz
open Go Go.Av
set_option maxRecDepth 10000
variable {W0 : World}
theorem r4_field (f : Fld) (ahead : List Fld) (hp : OneL f) : PureFn prog W0 127 [fldAV f,fldsAV ahead] (.tup [.str (fieldT f ahead).1,.int .i64 (fieldT f ahead).2]):=by
 refine fn_pure [4,5] [2,9,14,18,23,29] func127 rfl rfl ntmps127 rfl rfl (.tup2 (.str _) (.int _ _)) fun hs σ=>?_
 have hl:=(small_map (hs _ (List.mem_cons_of_mem _ (List.mem_cons_self ..)))).1
 obtain ⟨g1,g2,hn⟩:=hp
 have b1 : (f.name.length + 1 ≤ maxLen) = True:=eq_true (by rw [maxLen_eq]; omega)
 simp only [go_sem,simprocAttr,↓reduceIte,fldAV,b1]
 refine ⟨.of (by kernel_rfl),CallP.fn (r4_fieldName (f.name ++ [58])) ?_⟩
 simp only [go_sem,simprocAttr,↓reduceIte,strsAV,List.length_map,field_name]
 refine ⟨fun h=>?_,fun h=>?_⟩
 ·rw [fieldT_err (e:=3) (by unfold mayFieldN; rw [if_pos h]) (by decide)]
  exact weak_tup2 (.refl _) (.refl _)
 refine LoopVC.at [1,2] (.of (by kernel_rfl)) (fun A=>A.st = σ ∧ allIx (fun k s=>lineOk k s) 0 f.lines = true) ?_ fun B ⟨hst,h1⟩=>?_
 ·refine LoopVC.upto [1,2,35,36] (.of (by kernel_rfl)) f.lines.length (fun i A=>A.env 37 = .int .i64 i ∧ A.st = σ ∧ allIx (fun k s=>lineOk k s) 0 f.lines = allIx (fun k s=>lineOk k s) i (f.lines.drop i)) 0 (Nat.zero_le _) ?_ fun i B hi ⟨h37,hst,hI⟩=>?_
  ·simp only [go_sem,simprocAttr,↓reduceIte]
  simp only [go_sem,simprocAttr,↓reduceIte,h37,hst,List.length_map]
  refine ⟨fun hc=>⟨hc,?_⟩,fun hc=>?_⟩
  ·obtain ⟨s,hs1⟩:=get_some hc
   simp only [atV_map hs1]
   simp only [go_sem,simprocAttr,↓reduceIte,h37,hst]
   refine CallA.fn (r4_Good s) ?_
   simp only [go_sem,simprocAttr,↓reduceIte,h37,hst]
   refine CallP.fnG (fun _=>r4_trim s) ?_
   simp only [go_sem,simprocAttr,↓reduceIte,h37,hst]
   refine CallP.fnG (fun _=>r4_tail s) ?_
   simp only [go_sem,simprocAttr,↓reduceIte,h37,hst]
   rw [List.drop_eq_getElem_cons hc,(List.getElem?_eq_some_iff.1 hs1).2,allIx,lineR_ok] at hI
   show (lineR i s = true → _) ∧ (lineR i s = false → _)
   refine ⟨fun hq=>?_,fun hq=>⟨hc,int_succ hc (by rw [maxLen_eq]; omega),by rw [hI,hq]; rfl⟩⟩
   rw [hq] at hI
   rw [fieldT_err (e:=3) (by unfold mayFieldN; rw [if_neg (by rw [h]; decide),if_pos (by rw [hI]; rfl)]) (by decide)]
   exact weak_tup2 (.refl _) (.refl _)
  ·rw [List.drop_of_length_le hc,allIx] at hI
   exact hI
 simp only [go_sem,simprocAttr,↓reduceIte,hst,fldsAV,List.length_map]
 refine LoopVC.at [2] (.of (by kernel_rfl)) (fun A=>Ext σ A.st ∧ hasF ahead f.name = false) ?_ fun B ⟨hst,h2⟩=>?_
 ·refine LoopVC.upto [2,70,71] (.of (by kernel_rfl)) ahead.length (fun i A=>A.env 72 = .int .i64 i ∧ Ext σ A.st ∧ hasF (ahead.take i) f.name = false) 0 (Nat.zero_le _) ?_ fun i B hi ⟨h72,hst,hI⟩=>?_
  ·simp only [go_sem,simprocAttr,↓reduceIte]
   exact ⟨by rw [hst]; exact .refl _,rfl⟩
  simp only [go_sem,simprocAttr,↓reduceIte,h72,List.length_map]
  refine ⟨fun hc=>⟨hc,?_⟩,fun hc=>?_⟩
  ·obtain ⟨g,hg⟩:=get_some hc
   simp only [atV_map hg]
   simp only [go_sem,simprocAttr,↓reduceIte,fldAV,h72]
   refine CallA.fn (r4_Same f.name g.name) ?_
   simp only [go_sem,simprocAttr,↓reduceIte,h72]
   have e : hasF (ahead.take (i + 1)) f.name = (hasF (ahead.take i) f.name || sameT f.name g.name):=by
    rw [take_succ_get hg,hasF_snoc,sameT_symm]
   refine ⟨fun hq=>?_,fun hq=>⟨hc,int_succ hc hl,hst.app _,by rw [e,hI,hq]; rfl⟩⟩
   have h2 : hasF ahead f.name = true:=List.any_eq_true.2 ⟨g,List.mem_of_getElem? hg,by rw [sameT_symm]; exact hq⟩
   rw [fieldT_err (e:=4) (by unfold mayFieldN; rw [if_neg (by rw [h]; decide),if_neg (by rw [h1]; decide),if_pos h2]) (by decide)]
   exact ⟨weak_tup2 (.refl _) (.refl _),hst.app _⟩
  ·rw [List.take_of_length_le hc] at hI
   exact ⟨hst,hI⟩
 simp only [go_sem,simprocAttr,↓reduceIte,strsAV,List.length_map]
 refine LoopVC.at [] (.of (by kernel_rfl)) (fun A=>A.env 10 = .str (linB f.name 0 f.lines) ∧ Ext σ A.st ∧ allIx (fun k s=>decide ((lineP f.name k s).length ≤ 1000)) 0 f.lines = true) ?_ fun B2 ⟨h10,hst,h3⟩=>?_
 ·refine LoopVC.upto [2,83,84] (.of (by kernel_rfl)) f.lines.length (fun i A=>∃ o,A.env 10 = .str o ∧ A.env 85 = .int .i64 i ∧ Ext σ A.st ∧ o ++ linB f.name i (f.lines.drop i) = linB f.name 0 f.lines ∧ o.length ≤ i * 1001 ∧ allIx (fun k s=>decide ((lineP f.name k s).length ≤ 1000)) 0 f.lines = allIx (fun k s=>decide ((lineP f.name k s).length ≤ 1000)) i (f.lines.drop i)) 0 (Nat.zero_le _) ?_ fun i B hi ⟨o,h10,h85,hst,hE,hol,hI⟩=>?_
  ·simp only [go_sem,simprocAttr,↓reduceIte]
   exact ⟨[],rfl,hst,rfl,by simp⟩
  simp only [go_sem,simprocAttr,↓reduceIte,h10,h85,List.length_map]
  refine ⟨fun hc=>⟨hc,?_⟩,fun hc=>?_⟩
  ·obtain ⟨s,hs1⟩:=get_some hc
   have hs2:=g2 s (List.mem_of_getElem? hs1)
   simp only [atV_map hs1]
   rw [linB_get hs1] at hE
   rw [List.drop_eq_getElem_cons hc,(List.getElem?_eq_some_iff.1 hs1).2,allIx] at hI
   have b2 : (1 + s.length ≤ maxLen) = True:=eq_true (by rw [maxLen_eq]; omega)
   have b3 : (f.name.length + 2 ≤ maxLen) = True:=eq_true (by rw [maxLen_eq]; omega)
   have b4 : ((f.name ++ [58,32]).length + s.length ≤ maxLen) = True:=eq_true (by rw [maxLen_eq]; simp; omega)
   have b5 : (f.name.length + (1 + 1) + s.length ≤ maxLen) = True:=eq_true (by rw [maxLen_eq]; omega)
   have b6 : (f.name.length + 2 + s.length ≤ maxLen) = True:=eq_true (by rw [maxLen_eq]; omega)
   have bad : 1000 < (lineP f.name i s).length → fieldT f ahead = ([],2):=fun h9=>fieldT_err (by
    rw [decide_eq_false (by omega),Bool.false_and] at hI
    unfold mayFieldN
    rw [if_neg (by rw [h]; decide),if_neg (by rw [h1]; decide),if_neg (by rw [h2]; decide),if_pos hI]) (by decide)
   have k1 : (o.length + (f.name.length + 2) ≤ maxLen) = True:=eq_true (by rw [maxLen_eq]; omega)
   have k2 : (f.name.length + (s.length + 1 + 1) + 1 ≤ maxLen) = True:=eq_true (by rw [maxLen_eq]; omega)
   have k3 : (3 ≤ maxLen) = True:=eq_true (by rw [maxLen_eq]; omega)
   have k4 : (s.length + 1 + 1 ≤ maxLen) = True:=eq_true (by rw [maxLen_eq]; omega)
   have k5 : (o.length + (f.name.length + (s.length + 1 + 1 + 1)) ≤ maxLen) = True:=eq_true (by rw [maxLen_eq]; omega)
   have k6 : (o.length + 3 ≤ maxLen) = True:=eq_true (by rw [maxLen_eq]; omega)
   have k7 : (o.length + (s.length + 1 + 1) ≤ maxLen) = True:=eq_true (by rw [maxLen_eq]; omega)
   simp only [go_sem,simprocAttr,↓reduceIte,fldAV,h10,h85,b1,b2,b3,b4,b5,b6,k1,k2,k3,k4,k5,k6,k7]
   have fin : ∀ t : List UInt8,lineP f.name i s = t → t.length ≤ 1000 → i < f.lines.length ∧ ∃ o_1,AV.str (o ++ (t ++ [10])) = AV.str o_1 ∧ AV.int IntKind.i64 (IntKind.i64.wrap ((i : Int) + 1)) = AV.int IntKind.i64 ((i + 1 : Nat) : Int) ∧ Ext σ B.st ∧ o_1 ++ linB f.name (i + 1) (f.lines.drop (i + 1)) = linB f.name 0 f.lines ∧ o_1.length ≤ (i + 1) * 1001 ∧ allIx (fun k s=>decide ((lineP f.name k s).length ≤ 1000)) 0 f.lines = allIx (fun k s=>decide ((lineP f.name k s).length ≤ 1000)) (i + 1) (f.lines.drop (i + 1)):=fun t ht h9 =>
    ⟨hc,_,rfl,int_succ hc (by rw [maxLen_eq]; omega),hst,by rw [← ht,List.append_assoc]; exact hE,by simp only [List.length_append,List.length_singleton]; omega,by rw [hI,ht,decide_eq_true h9,Bool.true_and]⟩
   refine ⟨fun h4=>⟨fun h9=>?_,fun h9=>?_⟩,?_⟩
   ·simp only [Bool.and_eq_true,beq_iff_eq] at h4
    rw [bad (by unfold lineP; rw [if_neg (by omega),if_neg (by omega),if_pos h4.2]; simp; omega)]
    exact ⟨weak_tup2 (.refl _) (.refl _),hst⟩
   ·simp only [Bool.and_eq_true,beq_iff_eq] at h4
    obtain ⟨q1,o1,q2,q3⟩:=fin (f.name ++ [58]) (by unfold lineP; rw [if_neg (by omega),if_neg (by omega),if_pos h4.2]) (by simp; omega)
    exact ⟨q1,o1,by rw [← q2]; simp,q3⟩
   ·refine fun h4=>⟨fun h0=>?_,fun h0=>absurd (by omega) h0⟩
    have hs0 : s ≠ []:=fun e=>by rw [h0,e] at h4; exact absurd h4 (by decide)
    have hlp : lineP f.name i s = f.name ++ 58 :: 32 :: s:=by unfold lineP; rw [if_neg (by omega),if_neg (by omega),if_neg hs0]; simp
    refine ⟨fun h9=>?_,fun h9=>?_⟩
    ·rw [bad (by rw [hlp]; simp; omega)]
     exact ⟨weak_tup2 (.refl _) (.refl _),hst⟩
    ·obtain ⟨q1,o1,q2,q3⟩:=fin _ hlp (by simp; omega)
     exact ⟨q1,o1,by rw [← q2]; simp,q3⟩
  ·rw [List.drop_of_length_le hc,linB,List.append_nil] at hE
   rw [List.drop_of_length_le hc,allIx] at hI
   exact ⟨by rw [hE],hst,hI⟩
 simp only [go_sem,simprocAttr,↓reduceIte,h10]
 have h0 : mayFieldN f ahead = 0:=by
  unfold mayFieldN
  rw [if_neg (by rw [h]; decide),if_neg (by rw [h1]; decide),if_neg (by rw [h2]; decide),if_neg (by rw [h3]; decide)]
 unfold fieldT
 rw [if_pos h0]
 exact ⟨weak_tup2 (.refl _) (.refl _),hst⟩
theorem r4_print (l : List Stz) (hp : ∀ x ∈ l,∀ f ∈ x.fields,OneL f) : PureFn prog W0 79 [stzsAV l] (.tup [bytesAV (printT l).1,.int .i64 (printT l).2]):=by
 refine fn_pure [2,3] [6,8,46] func79 rfl rfl ntmps79 rfl rfl (.tup2 (ids_bytes _ _) (.int _ _)) fun hs σ=>?_
 simp only [go_sem,simprocAttr,↓reduceIte,stzsAV,List.length_map]
 refine ⟨fun h=>?_,fun h=>?_⟩
 ·rw [printT,if_pos (by omega)]
  exact weak_tup2 (.nils _) (.refl _)
 refine LoopVC.at [] (.of (by kernel_rfl)) (fun A=>∃ v out,A.env 4 = v ∧ Built σ A.st v 5 (out.map byteAV) ∧ printS 0 l [] = (out,0) ∧ out.length ≤ 8008200) ?_ fun B ⟨v,out,h4,hb,hP,hl⟩=>?_
 ·refine LoopVC.upto [14,15] (.of (by kernel_rfl)) l.length (fun i A=>∃ v out,A.env 4 = v ∧ A.env 16 = .int .i64 i ∧ Built σ A.st v 5 (out.map byteAV) ∧ printS 0 l [] = printS i (l.drop i) out ∧ out.length ≤ i * 40041) 0 (Nat.zero_le _) ?_ fun i B hi ⟨v,out,h4,h17,hb,hP,hl⟩=>?_
  ·simp only [go_sem,simprocAttr,↓reduceIte]
   exact ⟨_,[],rfl,Built.nil (.refl _) _,rfl,by simp⟩
  simp only [go_sem,simprocAttr,↓reduceIte,h4,h17,hb.ok,hb.un,List.length_map]
  refine ⟨fun hc=>⟨hc,?_⟩,fun hc=>?_⟩
  ·obtain ⟨x,hx⟩:=get_some hc
   simp only [atV_map hx]
   have hd : l.drop i = x :: l.drop (i + 1):=by rw [List.drop_eq_getElem_cons hc]; congr 1; exact (List.getElem?_eq_some_iff.1 hx).2
   rw [hd,printS] at hP
   simp only [go_sem,simprocAttr,↓reduceIte,stzAV,fldsAV,h4,h17,hb.ok,hb.un,List.length_map]
   refine ⟨fun hq=>?_,fun hq=>?_⟩
   ·rw [if_pos (by simp only [Bool.or_eq_true,beq_iff_eq,decide_eq_true_eq] at hq; omega)] at hP
    rw [printT_err (by omega) hP (by decide)]
    exact ⟨weak_tup2 (.nils _) (.refl _),hb.ext.app _⟩
   rw [if_neg (by simp only [Bool.or_eq_false_iff,beq_eq_false_iff_ne,decide_eq_false_iff_not] at hq; omega)] at hP
   have hq40 : x.fields.length ≤ 40:=by simp only [Bool.or_eq_false_iff,beq_eq_false_iff_ne,decide_eq_false_iff_not] at hq; omega
   generalize ho0 : (if 0 < i then out ++ [10] else out) = o0 at hP
   obtain ⟨m,hm⟩ : ∃ m,m = i * 40041 + 1:=⟨_,rfl⟩
   have hl0 : o0.length ≤ m:=by
    rw [← ho0]
    split
    ·rw [List.length_append,List.length_singleton]; omega
    ·omega
   refine JoinVC.at [6,14,15,16] (by kernel_rfl) (fun A=>∃ v,A.env 4 = v ∧ Built σ A.st v 5 (o0.map byteAV)) (fun h=>?_) (fun h=>?_) fun B2 ⟨v2,h4',hb2⟩=>?_
   ·have hb1:=hb.more [none]
    simp only [go_sem,simprocAttr,↓reduceIte,h4,hb.ok,hb.un]
    refine AppA.own 16777216 (by kernel_rfl) hb1.bld (.lit _ _ _) (by simp; omega) fun v' σ' ha'=>?_
    have hb':=hb1.app ha'
    simp only [go_sem,simprocAttr,↓reduceIte,hb'.ok,hb'.un]
    refine ⟨_,rfl,?_⟩
    have h:=of_decide_eq_true h
    rw [← ho0,if_pos (by omega),List.map_append]
    exact hb'
   ·simp only [go_sem,simprocAttr,↓reduceIte]
    refine ⟨_,h4,?_⟩
    have h:=of_decide_eq_false h
    rw [← ho0,if_neg (by omega)]
    exact hb.more _
   simp only [go_sem,simprocAttr,↓reduceIte,stzAV,fldsAV,h4',h17,hb2.ok,hb2.un,List.length_map]
   refine LoopVC.ats [14,15,16] (.of (by kernel_rfl)) (fun A=>∃ v out,A.env 4 = v ∧ Built σ A.st v 5 (out.map byteAV) ∧ printF [] x.fields o0 = (out,0) ∧ out.length ≤ (i + 1) * 40041) ?_ fun B3 ⟨v3,o3,h4,hb,hF,hl⟩=>?_
   ·refine LoopVC.upto [6,14,15,16,37,38] (.of (by kernel_rfl)) x.fields.length (fun k A=>∃ v out,A.env 4 = v ∧ A.env 39 = .int .i64 k ∧ Built σ A.st v 5 (out.map byteAV) ∧ printF [] x.fields o0 = printF (x.fields.take k) (x.fields.drop k) out ∧ out.length ≤ m + k * 1001) 0 (Nat.zero_le _) ?_ fun k B3 hk ⟨v3,o3,h4,h40,hb,hF,hl⟩=>?_
    ·simp only [go_sem,simprocAttr,↓reduceIte]
     exact ⟨_,o0,h4',hb2,rfl,by omega⟩
    simp only [go_sem,simprocAttr,↓reduceIte,h4,h40,hb.ok,hb.un,List.length_map]
    refine ⟨fun hc2=>⟨hc2,?_⟩,fun hc2=>?_⟩
    ·obtain ⟨f,hf⟩:=get_some hc2
     simp only [atV_map hf]
     have hd2 : x.fields.drop k = f :: x.fields.drop (k + 1):=by rw [List.drop_eq_getElem_cons hc2]; congr 1; exact (List.getElem?_eq_some_iff.1 hf).2
     rw [hd2] at hF
     have hp1:=hp x (List.mem_of_getElem? hx) f (List.mem_of_getElem? hf)
     simp only [go_sem,simprocAttr,↓reduceIte,fldAV,h4,h40,hb.ok,hb.un,List.length_map]
     refine ⟨.of (by kernel_rfl),⟨by omega,hk⟩,?_⟩
     have hcall:=r4_field (W0:=W0) f (x.fields.take k) hp1
     unfold fldAV fldsAV at hcall
     rw [List.map_take] at hcall
     refine CallP.fn hcall ?_
     rw [printF] at hF
     have hfe : (fieldT f (x.fields.take k)).2 = mayFieldN f (x.fields.take k):=by
      unfold fieldT
      split
      ·rename_i h0; exact h0.symm
      ·rfl
     rw [hfe]
     simp only [go_sem,simprocAttr,↓reduceIte,h4,h40,hb.ok,hb.un,List.length_map]
     refine ⟨fun he=>?_,fun he=>?_⟩
     ·rw [if_pos (by simpa using he)] at hF
      rw [hF,if_pos (by simpa using he)] at hP
      rw [printT_err (by omega) hP (by simpa using he)]
      exact ⟨weak_tup2 (.nils _) (.refl _),hb.ext.app _⟩
     have he : mayFieldN f (x.fields.take k) = 0:=by simpa using he
     rw [if_neg (by rw [he]; decide)] at hF
     have hlin:=lin_one hp1.1 he
     have hft : (fieldT f (x.fields.take k)).1 = linB f.name 0 f.lines:=by
      unfold fieldT
      rw [if_pos he]
     rw [hft]
     have hb1:=hb.more [none]
     refine AppA.strS (σ:=B3.st ++ [none]) (by simp only [go_sem,simprocAttr,↓reduceIte]) 16777216 (by kernel_rfl) hb1.bld (by rw [List.length_map]; omega) fun v5 σ5 ha=>?_
     have hb5:=hb1.app ha
     simp only [go_sem,simprocAttr,↓reduceIte,h4,h40,hb5.ok,hb5.un]
     refine ⟨hc2,v5,o3 ++ linB f.name 0 f.lines,rfl,int_succ hc2 (by rw [maxLen_eq]; omega),by rw [List.map_append]; exact hb5,by rw [take_succ_get hf]; exact hF,?_⟩
     rw [List.length_append]
     omega
    ·rw [List.drop_of_length_le hc2,printF] at hF
     exact ⟨v3,o3,rfl,hb,hF,by omega⟩
   ·simp only [go_sem,simprocAttr,↓reduceIte,h17]
    rw [hF,if_neg (by simp)] at hP
    exact ⟨hc,v3,o3,h4,int_succ hc (by rw [maxLen_eq]; omega),hb,hP,hl⟩
  ·rw [List.drop_of_length_le hc,printS] at hP
   exact ⟨v,out,rfl,hb,hP,by omega⟩
 simp only [go_sem,simprocAttr,↓reduceIte,h4,hb.ok,hb.un,hb.len,hb.lenC,List.length_map]
 have hT : printT l = if 65536 < out.length then ([],2) else (out,0):=by
  unfold printT
  rw [if_neg (by omega),hP,if_neg (by simp)]
 refine ⟨fun h=>?_,fun h=>?_⟩
 ·rw [hT,if_pos (by omega)]
  exact ⟨weak_tup2 (.nils _) (.refl _),hb.ext⟩
 ·rw [hT,if_neg (by omega)]
  exact ⟨weak_tup2 hb.weak (.refl _),hb.ext⟩
end Go.Proofs.Tryz
end
section
namespace Go.Av
open Go.Proofs.Tryz
theorem textL_le (l : List Clause) : (textL l).length ≤ 5856:=by
 unfold textL
 split
 ·simp
 ·rename_i h
  exact joinC_len (by
   cases hg : l.all goodCl
   ·exact absurd (.inr hg) h
   ·rfl) (Nat.le_of_not_lt fun h12=>h (.inl h12))
theorem nm_len : ∀ n ∈ allNames,n.length ≤ 11:=by decide
theorem addV_one {n : List UInt8} {v : ValN} (hn : n ∈ allNames) (hv : (writeT v).1.length ≤ 5856) : ∀ y ∈ addV n v,OneL y.1:=by
 intro y hy
 unfold addV at hy
 split at hy
 ·rw [List.mem_singleton.1 hy]
  have:=nm_len n hn
  refine ⟨by simp,fun s hs=>?_,by show n.length ≤ _; omega⟩
  rw [List.mem_singleton.1 hs]
  show n.length + _ ≤ _
  omega
 ·cases hy
theorem vfsP_one {p : Pkg} (h : MayG p) : ∀ y ∈ vfsP p,OneL y.1:=by
 intro y hy
 unfold vfsP at hy
 simp only [List.mem_append] at hy
 rcases hy with (((((((hy | hy) | hy) | hy) | hy) | hy) | hy) | hy) | hy
 ·refine addV_one (by decide) ?_ y hy
  exact Nat.le_trans (nameOk_len h.name) (by decide)
 ·refine addV_one (by decide) ?_ y hy
  exact Nat.le_trans (isVer_len h.ver) (by decide)
 ·split at hy
  ·exact addV_one (by decide) (by decide) y hy
  ·cases hy
 all_goals
  refine addV_one (by decide) ?_ y hy
  exact textL_le _
theorem oneP {p : Pkg} (h : mayPkg p = 0) : ∀ f ∈ (stanzaP p).fields,OneL f:=by
 rw [stanzaP_ok h]
 intro f hf
 obtain ⟨y,hy,rfl⟩:=List.mem_map.1 hf
 exact vfsP_one (mayPkg_good h) y hy
theorem liN_good {l : List Clause} (h : l.length ≤ 12 ∧ ∀ c ∈ l,goodCl c = true) : LiN l :=
 ⟨by omega,fun c hc=>by have:=(good_cl (h.2 c hc)).2.1; omega⟩
end Go.Av
namespace Go.Proofs.Tryz
open Go Go.Av
set_option maxRecDepth 10000
variable {W0 : World}
theorem re_print (hW : TabsOk W0) (l : List Pkg) (hp : ∀ p ∈ l,MayN p) : PureFn prog W0 33 [pkgsAV l] (.tup [bytesAV (printP l).1,.int .i64 (printP l).2]):=by
 refine fn_pure [2,3] [7,8] func33 rfl rfl ntmps33 rfl rfl (.tup2 (ids_bytes _ _) (.int _ _)) fun hs σ=>?_
 simp only [go_sem,simprocAttr,↓reduceIte]
 refine CallA.fn (re_mayAll l hp) ?_
 simp only [go_sem,simprocAttr,↓reduceIte]
 unfold printP
 refine ⟨fun he=>?_,fun he=>?_⟩
 ·rw [if_pos (by simpa using he)]
  exact weak_tup2 (.nils _) (.refl _)
 have he : mayAll l = 0:=by simpa using he
 obtain ⟨hl,hm⟩:=mayAll_zero he
 rw [if_neg (by rw [he]; decide)]
 simp only [go_sem,simprocAttr,↓reduceIte,pkgsAV,List.length_map]
 refine LoopVC.at [] (.of (by kernel_rfl)) (fun A=>∃ v,A.env 5 = v ∧ Built σ A.st v 24 ((l.map stanzaP).map stzAV)) ?_ fun B ⟨v,h5,hb⟩=>?_
 ·refine LoopVC.upto [15,16] (.of (by kernel_rfl)) l.length (fun i A=>∃ v,A.env 5 = v ∧ A.env 17 = .int .i64 i ∧ Built σ A.st v 24 (((l.take i).map stanzaP).map stzAV)) 0 (Nat.zero_le _) ?_ fun i B hi ⟨v,h5,h17,hb⟩=>?_
  ·simp only [go_sem,simprocAttr,↓reduceIte]
   exact ⟨_,rfl,Built.nil (.refl _) _⟩
  simp only [go_sem,simprocAttr,↓reduceIte,h5,h17,hb.ok,hb.un,List.length_map]
  refine ⟨fun hc=>⟨hc,?_⟩,fun hc=>?_⟩
  ·obtain ⟨p,hpx⟩:=get_some hc
   have hpm:=List.mem_of_getElem? hpx
   have hg:=mayPkg_good (hm p hpm)
   simp only [atV_map hpx]
   simp only [go_sem,simprocAttr,↓reduceIte,h5,h17,hb.ok,hb.un,pkgAV]
   refine CallA.fn (re_stanza p (hp p hpm) (liN_good hg.pre) (liN_good hg.dep) (liN_good hg.rcm)) ?_
   simp only [go_sem,simprocAttr,↓reduceIte,stzAV,h5,h17,hb.ok,hb.un]
   have hb1:=hb.more [none,none]
   refine AppA.own 1048576 (by kernel_rfl) hb1.bld (.lit _ _ _) (by simp; omega) fun v' σ' ha'=>?_
   have hb':=hb1.app ha'
   simp only [go_sem,simprocAttr,↓reduceIte,h5,h17,hb'.ok,hb'.un]
   refine ⟨hc,_,rfl,int_succ hc (by rw [maxLen_eq]; omega),?_⟩
   rw [take_succ_get hpx,List.map_append,List.map_append]
   exact hb'
  ·rw [List.take_of_length_le hc] at hb
   exact ⟨v,rfl,hb⟩
 simp only [go_sem,simprocAttr,↓reduceIte,h5,hb.ok,hb.un]
 refine CallA.fn ((sz_print hW (l.map stanzaP) fun x hx=>by
  obtain ⟨p,hp1,rfl⟩:=List.mem_map.1 hx
  exact oneP (hm p hp1)).weak (.cons hb.weak .nil)) ?_
 simp only [go_sem,simprocAttr,↓reduceIte]
 exact hb.ext
theorem r9_print (hW : TabsOk W0) (l : List Pkg) (hp : ∀ p ∈ l,MayN p) : PureFn prog W0 34 [pkgsAV l] (.tup [bytesAV (printP l).1,.int .i64 (printP l).2]):=by
 refine fn_pure [2,3] [7,8] func34 rfl rfl ntmps34 rfl rfl (.tup2 (ids_bytes _ _) (.int _ _)) fun hs σ=>?_
 simp only [go_sem,simprocAttr,↓reduceIte]
 refine CallA.fn (r9_mayAll l) ?_
 simp only [go_sem,simprocAttr,↓reduceIte]
 unfold printP
 refine ⟨fun he=>?_,fun he=>?_⟩
 ·rw [if_pos (by simpa using he)]
  exact weak_tup2 (.nils _) (.refl _)
 have he : mayAll l = 0:=by simpa using he
 obtain ⟨hl,hm⟩:=mayAll_zero he
 rw [if_neg (by rw [he]; decide)]
 simp only [go_sem,simprocAttr,↓reduceIte,pkgsAV,List.length_map]
 refine LoopVC.at [] (.of (by kernel_rfl)) (fun A=>∃ v,A.env 5 = v ∧ Built σ A.st v 24 ((l.map stanzaP).map stzAV)) ?_ fun B ⟨v,h5,hb⟩=>?_
 ·refine LoopVC.upto [15,16] (.of (by kernel_rfl)) l.length (fun i A=>∃ v,A.env 5 = v ∧ A.env 17 = .int .i64 i ∧ Built σ A.st v 24 (((l.take i).map stanzaP).map stzAV)) 0 (Nat.zero_le _) ?_ fun i B hi ⟨v,h5,h17,hb⟩=>?_
  ·simp only [go_sem,simprocAttr,↓reduceIte]
   exact ⟨_,rfl,Built.nil (.refl _) _⟩
  simp only [go_sem,simprocAttr,↓reduceIte,h5,h17,hb.ok,hb.un,List.length_map]
  refine ⟨fun hc=>⟨hc,?_⟩,fun hc=>?_⟩
  ·obtain ⟨p,hpx⟩:=get_some hc
   have hpm:=List.mem_of_getElem? hpx
   have hg:=mayPkg_good (hm p hpm)
   simp only [atV_map hpx]
   simp only [go_sem,simprocAttr,↓reduceIte,h5,h17,hb.ok,hb.un,pkgAV]
   refine CallA.fn (r9_stanza p (hp p hpm)) ?_
   simp only [go_sem,simprocAttr,↓reduceIte,stzAV,h5,h17,hb.ok,hb.un]
   have hb1:=hb.more [none,none]
   refine AppA.own 1048576 (by kernel_rfl) hb1.bld (.lit _ _ _) (by simp; omega) fun v' σ' ha'=>?_
   have hb':=hb1.app ha'
   simp only [go_sem,simprocAttr,↓reduceIte,h5,h17,hb'.ok,hb'.un]
   refine ⟨hc,_,rfl,int_succ hc (by rw [maxLen_eq]; omega),?_⟩
   rw [take_succ_get hpx,List.map_append,List.map_append]
   exact hb'
  ·rw [List.take_of_length_le hc] at hb
   exact ⟨v,rfl,hb⟩
 simp only [go_sem,simprocAttr,↓reduceIte,h5,hb.ok,hb.un]
 refine CallA.fn ((r4_print (l.map stanzaP) fun x hx=>by
  obtain ⟨p,hp1,rfl⟩:=List.mem_map.1 hx
  exact oneP (hm p hp1)).weak (.cons hb.weak .nil)) ?_
 simp only [go_sem,simprocAttr,↓reduceIte]
 exact hb.ext
end Go.Proofs.Tryz
end
section
namespace Go.Proofs.Tryz
open Go Go.Av
set_option maxRecDepth 10000
variable {W0 : World}
structure PSt (σ τ : Store) (n id : Nat) (v : AV) (ys : List AV) (w : AV) (zs : List AV) : Prop where
 c : τ[id]? = some (some (.cells 24 [.agg 24 [.int .i64 0,w]]))
 bw : Bld τ w 28 zs
 bv : Built σ τ v 24 ys
 fw : ∀ t ∈ foot w,n ≤ t
 fv : ∀ t ∈ foot v,t < n
 hn : σ.length ≤ n
 ni : n ≤ id
theorem PSt.add {σ τ τ' : Store} {n id : Nat} {v w w' : AV} {ys zs zs' : List AV} (h : PSt σ τ n id v ys w zs) (ha : App τ w 28 zs' w' τ') : τ'[id]? = some (some (.cells 24 [.agg 24 [.int .i64 0,w]])) ∧ NotM w' ∧ PSt σ (τ'.set id (some (.cells 24 [.agg 24 [.int .i64 0,w']]))) n id v ys w' zs':=by
 have hfr:=ha.fr
 have hlt:=(List.getElem?_eq_some_iff.1 h.c).1
 have c':=(hfr.old id hlt (h.bw.ne h.c (by simp))).trans h.c
 have hlt':=(List.getElem?_eq_some_iff.1 c').1
 have hn:=h.hn
 have hni:=h.ni
 refine ⟨c',ha.bld.notM,List.getElem?_set_self hlt',ha.bld.keep fun j hj=>List.getElem?_set_ne (by rintro rfl; exact ha.bld.ne c' (by simp) hj),⟨h.bv.bld.keep fun j hj=>?_,(hfr.toExt h.bv.ext fun j hj=>Nat.le_trans hn (h.fw j hj)).set (by omega) _,h.bv.tok⟩,fun t ht=>?_,h.fv,hn,hni⟩
 ·have h1:=h.fv j hj
  rw [List.getElem?_set_ne (by omega),hfr.old j (h.bv.bld.lt j hj) fun hm=>by have:=h.fw j hm; omega]
 ·rcases ha.foot h.bw t ht with h1 | h1
  ·exact h.fw t h1
  ·omega
def ElS (ys : List AV) (l : List EntN) : Prop:=∀ (j : Nat) (y : AV) (x : EntN),ys[j]? = some y → l[j]? = some x → Sub y (stzAV (stanzaE x))
theorem ElS.sub {ys : List AV} {l : List EntN} (h : ElS ys l) (hl : ys.length = l.length) : Sub (.sl 24 ys) (stzsAV (l.map stanzaE)):=by
 show Sub _ (.sl 24 ((l.map stanzaE).map stzAV))
 refine .sls (by simpa using hl) fun i x y hx hy=>?_
 rw [List.map_map,List.getElem?_map,Option.map_eq_some_iff] at hy
 obtain ⟨a,ha,rfl⟩:=hy
 exact h i x a hx ha
end Go.Proofs.Tryz
end
section
namespace Go.Proofs.Tryz
open Go Go.Av
set_option maxRecDepth 10000
variable {W0 : World}
theorem r4_sameStz (l : List Stz) (h40 : ∀ x ∈ l,x.fields.length ≤ 40 ∧ ∀ f ∈ x.fields,OneL f) : PureFn prog W0 35 [stzsAV l,stzsAV l,.bool true] (.bool true):=by
 refine fn_pure [6] [8,9,11,12,80,83,85,88] func35 rfl rfl ntmps35 rfl rfl (.bool _) fun hs σ=>?_
 have hl:=(small_map (hs _ (List.mem_cons_self ..))).1
 simp only [go_sem,simprocAttr,↓reduceIte,stzsAV,List.length_map,bne_self_eq_false]
 refine LoopVC.at [] (.of (by kernel_rfl)) (fun A=>Ext σ A.st) ?_ fun B hst=>?_
 ·refine LoopVC.upto [1,2,19,20] (.of (by kernel_rfl)) l.length (fun i A=>A.env 21 = .int .i64 i ∧ Ext σ A.st) 0 (Nat.zero_le _) ?_ fun i B hi ⟨h21,hst⟩=>?_
  ·simp only [go_sem,simprocAttr,↓reduceIte]
   exact .refl _
  simp only [go_sem,simprocAttr,↓reduceIte,h21,List.length_map]
  refine ⟨fun hc=>⟨hc,?_⟩,fun hc=>hst⟩
  obtain ⟨x,hx⟩:=get_some hc
  simp only [atV_map hx]
  simp only [go_sem,simprocAttr,↓reduceIte,stzAV,fldsAV,h21,List.length_map,atV_map hx,bne_self_eq_false]
  obtain ⟨hx40,hx1⟩:=h40 x (List.mem_of_getElem? hx)
  refine ⟨hc,LoopVC.ats [1,2,19,20,21] (.of (by kernel_rfl)) (fun A=>Ext σ A.st) ?_ fun B2 hst2=>?_⟩
  ·refine LoopVC.upto [1,2,9,19,20,21,48,49] (.of (by kernel_rfl)) x.fields.length (fun k A=>A.env 50 = .int .i64 k ∧ Ext σ A.st) 0 (Nat.zero_le _) ?_ fun k B2 hk ⟨h50,hst2⟩=>?_
   ·simp only [go_sem,simprocAttr,↓reduceIte]
    exact hst.app _
   simp only [go_sem,simprocAttr,↓reduceIte,h50,List.length_map]
   refine ⟨fun hc2=>⟨hc2,?_⟩,fun hc2=>hst2⟩
   obtain ⟨f,hf⟩:=get_some hc2
   have hf1:=hx1 f (List.mem_of_getElem? hf)
   simp only [atV_map hf]
   simp only [go_sem,simprocAttr,↓reduceIte,fldAV,strsAV,h50,List.length_map,atV_map hf,bne_self_eq_false]
   refine ⟨hc2,LoopVC.ats [1,2,9,19,20,21,48,49,50] (.of (by kernel_rfl)) (fun A=>Ext σ A.st) ?_ fun B3 hst3=>?_⟩
   ·refine LoopVC.upto [1,2,9,11,12,19,20,21,48,49,50,76] (.of (by kernel_rfl)) f.lines.length (fun j A=>A.env 77 = .int .i64 j ∧ Ext σ A.st) 0 (Nat.zero_le _) ?_ fun j B3 hj ⟨h77,hst3⟩=>?_
    ·simp only [go_sem,simprocAttr,↓reduceIte]
     exact hst2.app _
    simp only [go_sem,simprocAttr,↓reduceIte,h77,List.length_map]
    refine ⟨fun hc3=>⟨.of (by kernel_rfl),?_⟩,fun hc3=>hst3⟩
    obtain ⟨s,hs1⟩:=get_some hc3
    simp only [go_sem,simprocAttr,↓reduceIte,fldAV,strsAV,h77,List.length_map,atV_map hs1,bne_self_eq_false]
    exact ⟨hc3,hc3,hc3,int_succ hc3 (by rw [maxLen_eq]; have:=hf1.1; omega),hst3⟩
   simp only [go_sem,simprocAttr,↓reduceIte,h50]
   exact ⟨hc2,int_succ hc2 (by rw [maxLen_eq]; omega),hst3⟩
  simp only [go_sem,simprocAttr,↓reduceIte,h21]
  exact ⟨hc,int_succ hc hl,hst2⟩
 simp only [go_sem,simprocAttr,↓reduceIte]
 exact hst
end Go.Proofs.Tryz
end
section
namespace Go.Av
open Go.Proofs.Tryz
theorem lightL9_liN : ∀ {i : Nat} {l : List Pkg},lightL9 i l = true → ∀ p ∈ l,LiN p.pre ∧ LiN p.dep ∧ LiN p.rcm
 | i,[],_,_,h=>by cases h
 | i,q :: r,h,p,hp=>by
  rw [lightL9,Bool.and_eq_true] at h
  rcases List.mem_cons.1 hp with rfl | hp
  ·have h1:=h.1
   unfold lightP9 at h1
   rw [Bool.and_eq_true] at h1
   have key : ∀ d ∈ [p.pre,p.dep,p.rcm],LiN d:=fun d hd=>by
    have h2:=List.all_eq_true.1 h1.2 d hd
    simp only [lightD9,Bool.and_eq_true,decide_eq_true_eq,List.all_eq_true] at h2
    exact ⟨by omega,fun c hc=>by have:=h2.2 c hc; omega⟩
   exact ⟨key _ (by simp),key _ (by simp),key _ (by simp)⟩
  ·exact lightL9_liN h.2 p hp
theorem lightL9_may {i : Nat} {l : List Pkg} (h : lightL9 i l = true) : ∀ p ∈ l,MayN p:=fun p hp=>by
 have:=lightL9_get h p hp
 exact ⟨by omega,by omega,by omega⟩
theorem stanzaP_small (p : Pkg) : (stanzaP p).fields.length ≤ 40 ∧ ∀ f ∈ (stanzaP p).fields,OneL f:=by
 by_cases h : mayPkg p = 0
 ·refine ⟨?_,oneP h⟩
  rw [stanzaP_ok h,List.length_map]
  have:=len_names ((vfsP_names p).trans (List.sublist_append_left _ [nState,nHold]))
  omega
 ·unfold stanzaP
  rw [if_pos h]
  simp
theorem allByte_map : ∀ b : List UInt8,allByte (b.map byteAV)
 | []=>trivial
 | c :: r=>⟨isByte_byteAV c,allByte_map r⟩
end Go.Av
namespace Go.Proofs.Tryz
open Go Go.Av
set_option maxRecDepth 10000
variable {W0 : World}
theorem l9_stanzas (hW : TabsOk W0) (p : Pkg) (hpR : PkgR p) (l : List Pkg) (hl : ∀ p ∈ l,PkgR p) : PureFn prog W0 8 [pkgAV p,pkgsAV l] (.bool true):=by
 refine fn_pure [4] [2,5,7] func8 rfl rfl ntmps8 rfl rfl (.bool _) fun hs σ=>?_
 simp only [go_sem,simprocAttr,↓reduceIte]
 refine CallA.fn ((l9_light [p] (by simpa using hpR)).weak (.cons (.lit _ _) .nil)) ?_
 simp only [go_sem,simprocAttr,↓reduceIte]
 refine CallP.fnG (fun _=>l9_light l hl) ?_
 simp only [go_sem,simprocAttr,↓reduceIte]
 refine ⟨fun _=>CallA.fn (l9_awake hW) ?_,fun hb=>?_⟩
 ·simp only [go_sem,simprocAttr,↓reduceIte]
 have hb1 : lightL9 0 [p] = true:=by cases h : lightL9 0 [p] <;> simp [h] at hb; rfl
 have hb2 : lightL9 0 l = true:=by cases h : lightL9 0 l <;> simp [h] at hb; rfl
 obtain ⟨k1,k2,k3⟩:=lightL9_liN hb1 p (by simp)
 have km:=lightL9_may hb1 p (by simp)
 have kl:=lightL9_may hb2
 refine CallA.fn (re_stanza p km k1 k2 k3) ?_
 simp only [go_sem,simprocAttr,↓reduceIte,stzAV,fldsAV]
 refine CallA.fn (r9_stanza p km) ?_
 simp only [go_sem,simprocAttr,↓reduceIte,stzAV,fldsAV]
 refine CallA.fn (re_print hW l kl) ?_
 simp only [go_sem,simprocAttr,↓reduceIte]
 refine CallA.fn (r9_print hW l kl) ?_
 simp only [go_sem,simprocAttr,↓reduceIte]
 refine CallA.fn ((r4_sameStz [stanzaP p] fun x hx=>by
  rw [List.mem_singleton.1 hx]
  exact stanzaP_small p).weak (.cons (.lit _ _) (.cons (.lit _ _) (.cons (.refl _) .nil)))) ?_
 simp only [go_sem,simprocAttr,↓reduceIte,bytesAV]
 refine ⟨allByte_map _,allByte_map _,CallP.fnG (fun _=>l9_awake hW) ?_⟩
 simp only [go_sem,simprocAttr,↓reduceIte]
end Go.Proofs.Tryz
end
