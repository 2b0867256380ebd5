/- Texts that the last one of this claim rests on: a layer over the guide's own conditions for code; contracts of the functions that the law reaches, one by one. No conditions beside those of the given rows. -/
import Derived.WalkKit
import Derived.Lib.SliceRun
import Derived.Test.YtekjlnodoelblaaGreatDoorWah
import Derived.Test.YtekjlnodoelblaaGreatDoorWam
import Derived.Test.YtekjlnodoelblaaGreatDoorWat
import Derived.Test.YtekjlnodoelblaaGreatDoorWav
import Derived.Test.YtekjlnodoelblaaGreatDoorWax
import Derived.Test.YtekjlnodoelblaaGreatDoorWay
set_option linter.unusedSimpArgs false
set_option linter.unusedVariables false
section
namespace Go.Av
open Go
theorem ConvA.keep {P : Program} {A : AState} {s e : TypeId} {id off m : Nat} {xs : List AV} {dst : Option Nat} {k : AState → Prop} (hs : elT P s = some e) (he : intT P e = some .u8) (h0 : 0 < m) (hσ : A.st[id]? = some (some (.cells e xs))) (hm : off + m ≤ xs.length)
  (hk : k ((A.put dst (.sl e ((xs.drop off).take m))).withSt (A.st.set id none))) : ConvA P s s (.row e id off m) dst A k .mk:=.inr (.inr ⟨e,id,off,m,xs,rfl,⟨rfl,hs,he⟩,h0,hσ,hm,hk⟩)
end Go.Av
namespace Go.Proofs.Tryz
open Go Go.Av
set_option maxRecDepth 10000
variable {W0 : World}

theorem shape_at : eqShape prog 36 = some [1,1]:=by kernel_rfl
@[go_sem] theorem eqAt (a b c d : Int) : eqAgg prog 36 [.int .i64 a,.int .i64 b] [.int .i64 c,.int .i64 d] = some (a == c && b == d):=by
 simp only [eqAgg_K shape_at,eqKs,eqK1,if_true,Option.map_some,Option.bind_some,Bool.and_true]
theorem at0 (x : AV) (r : List AV) : atV (x :: r) 0 = x:=rfl
theorem reach_eq9 : reachBytes = 140737488351232:=by decide
theorem l9_light (l : List Pkg) (hp : ∀ p ∈ l,PkgR p) : PureFn prog W0 26 [pkgsAV l] (.bool (lightL9 0 l)):=by
 refine fn_pure [2] [4] func26 rfl rfl ntmps26 rfl rfl (.bool _) fun hs σ=>?_
 have hl:=(small_map (hs _ (List.mem_cons_self ..))).1
 have hls:=(small_map (hs _ (List.mem_cons_self ..))).2
 simp only [go_sem,simprocAttr,↓reduceIte,pkgsAV,List.length_map]
 refine LoopVC.upto [9,10] (.of (by kernel_rfl)) l.length (fun i A=>A.env 11 = .int .i64 i ∧ Ext σ A.st ∧ lightL9 i (l.drop i) = lightL9 0 l) 0 (Nat.zero_le _) ?_ fun i B hi ⟨h8,hst,hI⟩=>?_
 ·simp only [go_sem,simprocAttr,↓reduceIte]
  simp [Ext.refl]
 simp only [go_sem,simprocAttr,↓reduceIte,h8,List.length_map]
 refine ⟨fun hc=>⟨hc,?_⟩,fun hc=>?_⟩
 ·obtain ⟨p,hpi⟩:=get_some hc
  simp only [atV_map hpi]
  have hR:=hp p (List.mem_of_getElem? hpi)
  have r1:=hR.con; have r2:=hR.brk; have r3:=hR.prov
  rw [reach_eq9] at r1 r2 r3
  have hw1 : IntKind.i64.wrap ((p.con.length : Int) + (p.brk.length : Int)) = ((p.con.length : Int) + (p.brk.length : Int)):=wrap_in (by omega)
  have hw2 : IntKind.i64.wrap ((p.con.length : Int) + (p.brk.length : Int) + (p.prov.length : Int)) = ((p.con.length : Int) + (p.brk.length : Int) + (p.prov.length : Int)):=wrap_in (by omega)
  rw [List.drop_eq_getElem_cons hc,lightL9] at hI
  have hpe : l[i] = p:=(List.getElem?_eq_some_iff.1 hpi).2
  rw [hpe] at hI
  simp only [go_sem,simprocAttr,↓reduceIte,pkgAV,atomsAV,provsAV,h8,List.length_map,hw1,hw2]
  have e3 : [clausesAV p.pre,clausesAV p.dep,clausesAV p.rcm] = [p.pre,p.dep,p.rcm].map clausesAV:=rfl
  refine ⟨fun hb=>⟨weak_bool ?_,hst.app _⟩,fun hb=>?_⟩
  ·have : lightP9 i p = false:=by
    unfold lightP9
    simp only [Bool.or_eq_true,decide_eq_true_eq] at hb
    rcases hb with hb | hb
    ·rw [decide_eq_false (show ¬ i < 40 by omega)]; rfl
    ·rw [decide_eq_false (show ¬ p.con.length + p.brk.length + p.prov.length ≤ 60 by omega),Bool.and_false]; rfl
   rw [← hI,this]; rfl
  simp only [Bool.or_eq_false_iff,decide_eq_false_iff_not] at hb
  have hP : lightP9 i p = [p.pre,p.dep,p.rcm].all lightD9:=by
   unfold lightP9
   rw [decide_eq_true (show i < 40 by omega),decide_eq_true (show p.con.length + p.brk.length + p.prov.length ≤ 60 by omega)]; rfl
  simp only [e3]
  have hds:=hls p (List.mem_of_getElem? hpi)
  refine LoopVC.ats [9,10,11] (.of (by kernel_rfl)) (fun A=>Ext σ A.st ∧ lightP9 i p = true) ?_ fun B2 ⟨hst,h6⟩=>?_
  ·refine LoopVC.upto [9,10,11,38] (.of (by kernel_rfl)) 3 (fun j A=>A.env 39 = .int .i64 j ∧ Ext σ A.st ∧ ([p.pre,p.dep,p.rcm].drop j).all lightD9 = [p.pre,p.dep,p.rcm].all lightD9) 0 (Nat.zero_le _) ?_ fun j B2 hj ⟨h39,hst,hJ⟩=>?_
   ·simp only [go_sem,simprocAttr,↓reduceIte]
    exact hst.app _
   simp only [go_sem,simprocAttr,↓reduceIte,h39]
   simp only [e3]
   refine ⟨fun hc2=>?_,fun hc2=>?_⟩
   ·have hc3 : j < [p.pre,p.dep,p.rcm].length:=by show j < 3; omega
    obtain ⟨d,hdj⟩:=get_some hc3
    have hde:=(List.getElem?_eq_some_iff.1 hdj).2
    rw [List.drop_eq_getElem_cons hc3,hde,List.all_cons] at hJ
    simp only [getD_map hdj]
    simp only [go_sem,simprocAttr,↓reduceIte,clausesAV,h39,List.length_map]
    refine ⟨hc3,?_⟩
    have hlD : lightD9 d = (decide (d.length ≤ 30) && d.all fun c=>decide (c.length ≤ 30)):=rfl
    refine ⟨fun hb=>⟨weak_bool ?_,hst⟩,fun hb=>?_⟩
    ·rw [← hI,hP,← hJ,hlD,decide_eq_false (by omega)]; rfl
    rw [decide_eq_true (show d.length ≤ 30 by omega),Bool.true_and] at hlD
    refine LoopVC.ats [9,10,11,38,39] (.of (by kernel_rfl)) (fun A=>Ext σ A.st ∧ (d.all fun c=>decide (c.length ≤ 30)) = true) ?_ fun B3 ⟨hst,h6⟩=>?_
    ·refine LoopVC.upto [9,10,11,38,39,45,46] (.of (by kernel_rfl)) d.length (fun k A=>A.env 47 = .int .i64 k ∧ Ext σ A.st ∧ ∀ c ∈ d.take k,c.length ≤ 30) 0 (Nat.zero_le _) ?_ fun k B3 hk ⟨h47,hst,hK⟩=>?_
     ·simp only [go_sem,simprocAttr,↓reduceIte]
      simp [hst]
     simp only [go_sem,simprocAttr,↓reduceIte,h47,List.length_map]
     refine ⟨fun hc4=>⟨hc4,?_⟩,fun hc4=>?_⟩
     ·obtain ⟨c,hck⟩:=get_some hc4
      simp only [atV_map hck]
      simp only [go_sem,simprocAttr,↓reduceIte,atomsAV,h47,List.length_map]
      refine ⟨fun hb=>⟨weak_bool ?_,hst⟩,fun hb=>⟨hc4,int_succ hc4 (by rw [maxLen_eq]; omega),hst,?_⟩⟩
      ·have : (d.all fun c=>decide (c.length ≤ 30)) = false:=by
        rw [List.all_eq_false]
        exact ⟨c,List.mem_of_getElem? hck,by simp; omega⟩
       rw [← hI,hP,← hJ,hlD,this]; rfl
      ·rw [take_succ_get hck]
       intro x hx
       rcases List.mem_append.1 hx with hx | hx
       ·exact hK x hx
       ·rw [List.mem_singleton.1 hx]; omega
     ·rw [List.take_of_length_le hc4] at hK
      exact ⟨hst,List.all_eq_true.2 fun c hcm=>decide_eq_true (hK c hcm)⟩
    simp only [go_sem,simprocAttr,↓reduceIte,h39]
    refine ⟨by omega,int_succ (show j < 3 by omega) (by rw [maxLen_eq]; omega),hst,?_⟩
    rw [hlD,h6,Bool.true_and] at hJ
    simpa using hJ
   ·have : j = 3:=by omega
    subst this
    exact ⟨hst,by rw [hP,← hJ]; rfl⟩
  simp only [go_sem,simprocAttr,↓reduceIte,h8]
  refine ⟨hc,int_succ hc hl,hst,?_⟩
  rw [h6,Bool.true_and] at hI
  exact hI
 ·have : i = l.length:=by omega
  subst this
  rw [List.drop_length] at hI
  exact ⟨weak_bool hI,hst⟩


theorem l9_awake (hW : TabsOk W0) : PureFn prog W0 12 [] (.bool true):=by
 refine fn_pure [0] [2,4,5000006,5000007,5000012,5000013] func12 rfl rfl ntmps12 rfl rfl (.bool _) fun hs σ=>?_
 simp only [go_sem,simprocAttr,↓reduceIte]
 refine ConvA.keep (by kernel_rfl) (by kernel_rfl) (by decide) List.getElem?_concat_length (by simp) ?_
 simp only [go_sem,simprocAttr,↓reduceIte]
 refine CallA.fn (re_Packages hW awT1) ?_
 rw [aw9_1]
 simp only [go_sem,simprocAttr,↓reduceIte,pkgsAV,atAV]
 refine ConvA.keep (xs:=awT2.map byteAV) (by kernel_rfl) (by kernel_rfl) (by decide) (show (σ ++ [none,none,some (.cells 5 (awT2.map byteAV))])[σ.length + 2]? = _ by simp) (by simp [awT2]) ?_
 simp only [go_sem,simprocAttr,↓reduceIte]
 refine CallA.fn (re_Packages hW awT2) ?_
 rw [aw9_2]
 simp only [go_sem,simprocAttr,↓reduceIte,pkgsAV,atAV,pkgAV,clausesAV,at0,Option.map_some,Option.getD_some]
end Go.Proofs.Tryz
end
section
namespace Go.Av
def textA (l : List Atom) : List UInt8:=textL (single l)
def textP (l : List Prov) : List UInt8:=textA (l.map provAtom)
end Go.Av
namespace Go.Proofs.Tryz
open Go Go.Av
set_option maxRecDepth 10000
variable {W0 : World}
theorem rl_atoms (l : List Atom) (hl : l.length ≤ 1048576) : PureFn prog W0 119 [atomsAV l] (.str (textA l)):=by
 refine fn_pure [2] [5] func119 rfl rfl ntmps119 rfl rfl (.str _) fun hs σ=>?_
 simp only [go_sem,simprocAttr,↓reduceIte,atomsAV]
 refine LoopVC.at [] (.of (by kernel_rfl)) (fun A=>∃ v,A.env 3 = v ∧ Built σ A.st v 85 (l.map clause1)) ?_ fun B ⟨v,h3,hb⟩=>?_
 ·refine LoopVC.upto [6,7] (.of (by kernel_rfl)) l.length (fun i A=>∃ v,A.env 3 = v ∧ A.env 8 = .int .i64 i ∧ Built σ A.st v 85 ((l.take i).map clause1)) 0 (Nat.zero_le _) ?_ fun i B hi ⟨v,h3,h8,hb⟩=>?_
  ·simp only [go_sem,simprocAttr,↓reduceIte]
   exact ⟨_,rfl,Built.nil (.refl _) _⟩
  simp only [go_sem,simprocAttr,↓reduceIte,h3,h8,hb.ok,hb.un,List.length_map]
  refine ⟨fun hc=>⟨hc,?_⟩,fun hc=>?_⟩
  ·obtain ⟨a,ha⟩:=get_some hc
   simp only [atV_map ha]
   simp only [go_sem,simprocAttr,↓reduceIte,atomAV,h3,h8,hb.ok,hb.un]
   refine AppA.own 1048576 (by kernel_rfl) (hb.more _).bld (.lit _ _ _) (by simp; omega) fun v' σ' ha'=>?_
   have hb':=(hb.more _).app ha'
   simp only [go_sem,simprocAttr,↓reduceIte,h3,h8,hb.ok,hb.un,hb'.ok,hb'.un]
   refine ⟨hc,_,rfl,int_succ hc (by rw [maxLen_eq]; omega),?_⟩
   rw [take_succ_get ha,List.map_append]
   exact hb'
  ·rw [List.take_of_length_le hc] at hb
   exact ⟨_,rfl,hb⟩
 simp only [go_sem,simprocAttr,↓reduceIte,h3,hb.ok,hb.un]
 refine CallA.fn ((rl_text (single l)).weak (.cons (hb.weak.trans (.sub (clauses_single l))) .nil)) ?_
 simp only [go_sem,simprocAttr,↓reduceIte]
 exact ⟨weak_str rfl,hb.ext⟩
theorem rl_provs (l : List Prov) (hl : l.length ≤ 1048576) : PureFn prog W0 120 [provsAV l] (.str (textP l)):=by
 refine fn_pure [2] [5] func120 rfl rfl ntmps120 rfl rfl (.str _) fun hs σ=>?_
 simp only [go_sem,simprocAttr,↓reduceIte,provsAV]
 refine LoopVC.at [] (.of (by kernel_rfl)) (fun A=>∃ v,A.env 3 = v ∧ Built σ A.st v 100 (l.map fun p=>atomAV (provAtom p))) ?_ fun B ⟨v,h3,hb⟩=>?_
 ·refine LoopVC.upto [7,8] (.of (by kernel_rfl)) l.length (fun i A=>∃ v,A.env 3 = v ∧ A.env 9 = .int .i64 i ∧ Built σ A.st v 100 ((l.take i).map fun p=>atomAV (provAtom p))) 0 (Nat.zero_le _) ?_ fun i B hi ⟨v,h3,h8,hb⟩=>?_
  ·simp only [go_sem,simprocAttr,↓reduceIte]
   exact ⟨_,rfl,Built.nil (.refl _) _⟩
  simp only [go_sem,simprocAttr,↓reduceIte,h3,h8,hb.ok,hb.un,List.length_map]
  refine ⟨fun hc=>⟨hc,?_⟩,fun hc=>?_⟩
  ·obtain ⟨a,ha⟩:=get_some hc
   simp only [atV_map ha]
   simp only [go_sem,simprocAttr,↓reduceIte,provAV,h3,h8,hb.ok,hb.un]
   refine JoinVC.at [3,6,7,8,9] (by kernel_rfl) (fun A=>A.st = B.st ++ [none,some (.cells 100 [atomAV (provAtom a)])]) (fun h=>?_) (fun h=>?_) fun A hst=>?_
   ·simp only [go_sem,simprocAttr,↓reduceIte,atomAV,provAtom]
    simp only [Bool.not_eq_true',beq_eq_false_iff_ne] at h
    rw [if_neg h]
   ·simp only [go_sem,simprocAttr,↓reduceIte,atomAV,provAtom]
    simp only [Bool.not_eq_false',beq_iff_eq] at h
    rw [if_pos h]
   have hb2 : Built σ A.st v 100 ((l.take i).map fun p=>atomAV (provAtom p)):=by rw [hst]; exact hb.more _
   simp only [go_sem,simprocAttr,↓reduceIte,h3,h8,hst,hb.ok,hb.un,atomAV]
   refine AppA.own 1048576 (by kernel_rfl) hb2.bld (.lit _ _ _) (by simp; omega) fun v' σ' ha'=>?_
   have hb':=hb2.app ha'
   simp only [go_sem,simprocAttr,↓reduceIte,h3,h8,hb.ok,hb.un,hb'.ok,hb'.un]
   refine ⟨hc,_,rfl,int_succ hc (by rw [maxLen_eq]; omega),?_⟩
   rw [take_succ_get ha,List.map_append]
   exact hb'
  ·rw [List.take_of_length_le hc] at hb
   exact ⟨_,rfl,hb⟩
 have hw : Weak v (atomsAV (l.map provAtom)):=by
  refine hb.weak.trans (.sub ?_)
  have:=atoms_map (l.map provAtom)
  rw [List.map_map] at this
  exact this
 simp only [go_sem,simprocAttr,↓reduceIte,h3,hb.ok,hb.un]
 refine CallA.fn ((rl_atoms (l.map provAtom) (by rw [List.length_map]; exact hl)).weak (.cons hw .nil)) ?_
 simp only [go_sem,simprocAttr,↓reduceIte]
 exact ⟨weak_str rfl,hb.ext⟩
end Go.Proofs.Tryz
end
section
namespace Go.Av
def wdsA (a : Atom) : List (List UInt8):=if a.rel = 0 then [a.name] else [a.name,[40],signT a.rel,a.ver,[41]]
theorem toks_plain {u r : List UInt8} {k : Nat} (h1 : k ≠ 1) (h2 : k ≠ 2) (hu : u ≠ []) (hk : ∀ c ∈ u,clsB c = k) (hr : ∀ c t,r = c :: t → clsB c ≠ k) : toks (u ++ r) = u :: toks r:=by
 cases u with
 | nil=>exact absurd rfl hu
 | cons c w =>
  have hc:=hk c (by simp)
  rw [List.cons_append,toks_go (by omega),hc,toksA_run h1 h2 (by simp) (fun x hx=>hk x (by simp [hx])) hr]
  rfl
theorem may_rel {a : Atom} (h : mayAtom a = true) : nameOk a.name = true ∧ (a.rel = 0 → a.ver = []) ∧ (a.rel ≠ 0 → 1 ≤ a.rel ∧ a.rel ≤ 5 ∧ isVer a.ver = true):=by
 unfold mayAtom at h
 rw [Bool.and_eq_true] at h
 refine ⟨h.1,fun h0=>?_,fun h0=>?_⟩
 ·have h2:=h.2
  rw [if_pos h0] at h2
  simpa using h2
 ·have h2:=h.2
  rw [if_neg h0] at h2
  simp only [Bool.and_eq_true,decide_eq_true_eq] at h2
  exact ⟨h2.1.1,h2.1.2,h2.2⟩
theorem rel_cases {r : Int} (h1 : 1 ≤ r) (h2 : r ≤ 5) : r = 1 ∨ r = 2 ∨ r = 3 ∨ r = 4 ∨ r = 5:=by omega
theorem sign_cls {r : Int} (h1 : 1 ≤ r) (h2 : r ≤ 5) : signT r ≠ [] ∧ (∀ c ∈ signT r,clsB c = 3) ∧ relT (signT r) = r:=by
 rcases rel_cases h1 h2 with rfl | rfl | rfl | rfl | rfl <;> decide
theorem toks_atom {a : Atom} (h : mayAtom a = true) {r : List UInt8} (hr : ∀ c t,r = c :: t → clsB c ≠ 0) : toks (atomT a ++ r) = wdsA a ++ toks r:=by
 obtain ⟨hn,h0,h1⟩:=may_rel h
 unfold atomT wdsA
 rw [if_pos h]
 by_cases hz : a.rel = 0
 ·rw [if_pos hz,if_pos hz,toks_plain (by omega) (by omega) (name_ne hn) (name_plain hn) hr]
  rfl
 ·rw [if_neg hz,if_neg hz]
  obtain ⟨g1,g2,g3⟩:=h1 hz
  obtain ⟨s1,s2,_⟩:=sign_cls g1 g2
  have e : (((((a.name ++ [32,40]) ++ signT a.rel) ++ [32]) ++ a.ver) ++ [41]) ++ r = a.name ++ (32 :: 40 :: (signT a.rel ++ (32 :: (a.ver ++ (41 :: r))))):=by simp
  rw [e,toks_plain (by omega) (by omega) (name_ne hn) (name_plain hn) (by rintro c t e; cases e; decide),toks_ws (by decide),toks_mark (by decide),toks_plain (k:=3) (by omega) (by omega) s1 s2 (by rintro c t e; cases e; decide),toks_ws (by decide),toks_plain (by omega) (by omega) (ver_ne g3) (ver_plain g3) (by rintro c t e; cases e; decide),toks_mark (by decide)]
  rfl
theorem atomW_wds {a : Atom} (h : mayAtom a = true) {l : List (List UInt8)} (hl : ∀ x u,l = x :: u → x ≠ [40]) : atomW (wdsA a ++ l) = some (a,l):=by
 obtain ⟨hn,h0,h1⟩:=may_rel h
 unfold wdsA
 by_cases hz : a.rel = 0
 ·have hv:=h0 hz
  obtain ⟨n,rl,v⟩:=a
  simp only at hz hv
  subst hz hv
  rw [if_pos rfl]
  cases l with
  | nil =>
   unfold atomW
   simp only [List.append_nil,wordW]
   exact if_pos h
  | cons x u =>
   unfold atomW
   simp only [List.cons_append,List.nil_append,wordW]
   rw [if_neg (hl x u rfl)]
   exact if_pos h
 ·rw [if_neg hz]
  obtain ⟨g1,g2,g3⟩:=h1 hz
  obtain ⟨_,_,s3⟩:=sign_cls g1 g2
  unfold atomW
  simp only [List.cons_append,List.nil_append,wordW,s3,if_neg hz,if_true]
  exact if_pos h
def wdsC : Clause → List (List UInt8)
 | []=>[]
 | a :: r=>match r with
  | []=>wdsA a
  | _ :: _=>wdsA a ++ [124] :: wdsC r
theorem joinL_two (x y : List UInt8) (l : List (List UInt8)) (sep : List UInt8) : joinL (x :: y :: l) sep = x ++ (sep ++ joinL (y :: l) sep):=by
 unfold joinL
 rw [Lib.join_cons,Lib.join_cons]
 simp [Lib.joinTail]
theorem toks_cl : ∀ {c : Clause} {r : List UInt8},c ≠ [] → (∀ a ∈ c,mayAtom a = true) → (∀ x t,r = x :: t → clsB x ≠ 0) → toks (clT c ++ r) = wdsC c ++ toks r
 | [],_,h,_,_=>absurd rfl h
 | [a],r,_,hm,hr=>by
  show toks (joinL [atomT a] _ ++ r) = _
  rw [joinL_one,toks_atom (hm a (by simp)) hr]
  rfl
 | a :: b :: t,r,_,hm,hr=>by
  have ih:=toks_cl (c:=b :: t) (r:=r) (by simp) (fun x hx=>hm x (by simp only [List.mem_cons] at hx ⊢; exact .inr hx)) hr
  show toks (joinL (atomT a :: atomT b :: t.map atomT) [32,124,32] ++ r) = _
  rw [joinL_two]
  have e : (atomT a ++ ([32,124,32] ++ joinL (atomT b :: t.map atomT) [32,124,32])) ++ r = atomT a ++ (32 :: 124 :: 32 :: (clT (b :: t) ++ r)):=by
   show _ = atomT a ++ (32 :: 124 :: 32 :: (joinL (atomT b :: t.map atomT) [32,124,32] ++ r))
   simp
  rw [e,toks_atom (hm a (by simp)) (by rintro c u e; cases e; decide),toks_ws (by decide),toks_mark (by decide),toks_ws (by decide),ih]
  simp [wdsC]
theorem clW_wds {f : Nat} : ∀ {c : Clause} {l : List (List UInt8)} {out : Clause},c ≠ [] → c.length ≤ f → (∀ a ∈ c,mayAtom a = true) → (l = [] ∨ ∃ u,l = [44] :: u) → clW anyOk false f (wdsC c ++ l) out = .ok (out ++ c,l):=by
 induction f with
 | zero =>
  intro c l out h hl _ _
  exact absurd (List.length_eq_zero_iff.1 (by omega)) h
 | succ f ih =>
  intro c l out h hl hm h44
  cases c with
  | nil=>exact absurd rfl h
  | cons a r =>
   have ha:=hm a (by simp)
   cases r with
   | nil =>
    show clW anyOk false (f + 1) (wdsA a ++ l) out = _
    rw [clW,atomW_wds ha (by rcases h44 with rfl | ⟨u,rfl⟩ <;> rintro x w e <;> cases e; decide)]
    simp only [anyOk,Bool.true_eq_false,if_false,Bool.false_eq_true]
    rcases h44 with rfl | ⟨u,rfl⟩
    ·rfl
    ·simp only
     rw [if_neg (by decide)]
   | cons b t =>
    have e : wdsC (a :: b :: t) ++ l = wdsA a ++ ([124] :: (wdsC (b :: t) ++ l)):=by simp [wdsC]
    rw [e,clW,atomW_wds ha (by rintro x w e; cases e; decide)]
    simp only [anyOk,Bool.true_eq_false,if_false,Bool.false_eq_true,if_true]
    rw [ih (c:=b :: t) (by simp) (by simpa using hl) (fun x hx=>hm x (by simp only [List.mem_cons] at hx ⊢; exact .inr hx)) h44]
    simp
theorem clW_one {may : Atom → Bool} {a : Atom} {l : List (List UInt8)} (ha : mayAtom a = true) (hm : may a = true) (h44 : l = [] ∨ ∃ u,l = [44] :: u) : clW may true 6 (wdsC [a] ++ l) [] = .ok ([a],l):=by
 show clW may true 6 (wdsA a ++ l) [] = _
 rw [clW,atomW_wds ha (by rcases h44 with rfl | ⟨u,rfl⟩ <;> rintro x w e <;> cases e; decide)]
 simp only [hm,Bool.true_eq_false,if_false,if_true,List.nil_append]
def wdsL : List Clause → List (List UInt8)
 | []=>[]
 | c :: r=>match r with
  | []=>wdsC c
  | _ :: _=>wdsC c ++ [44] :: wdsL r
theorem toks_cls2 : ∀ {l : List Clause},(∀ c ∈ l,c ≠ [] ∧ ∀ a ∈ c,mayAtom a = true) → toks (joinL (l.map clT) [44,32]) = wdsL l
 | [],_=>by rw [List.map_nil,joinL_nil,toks_nil]; rfl
 | [c],h=>by
  obtain ⟨h1,h2⟩:=h c (by simp)
  rw [List.map_cons,List.map_nil,joinL_one]
  have:=toks_cl (r:=[]) h1 h2 (by rintro x t e; cases e)
  rw [List.append_nil,toks_nil,List.append_nil] at this
  exact this
 | c :: d :: t,h=>by
  obtain ⟨h1,h2⟩:=h c (by simp)
  have ih:=toks_cls2 (l:=d :: t) fun x hx=>h x (by simp only [List.mem_cons] at hx ⊢; exact .inr hx)
  rw [List.map_cons,List.map_cons,joinL_two]
  rw [List.map_cons] at ih
  show toks (clT c ++ (44 :: 32 :: joinL (clT d :: t.map clT) [44,32])) = _
  rw [toks_cl h1 h2 (by rintro x u e; cases e; decide),toks_mark (by decide),toks_ws (by decide),ih]
  simp [wdsL]
theorem relLW_wds {may : Atom → Bool} {one : Bool} {f : Nat} : ∀ {l : List Clause} {out : List Clause},l ≠ [] → l.length ≤ f → (∀ c ∈ l,∀ m,(m = [] ∨ ∃ u,m = [44] :: u) → clW may one 6 (wdsC c ++ m) [] = .ok (c,m)) → relLW may one f (wdsL l) out = (out ++ l,0):=by
 induction f with
 | zero =>
  intro l out h hl _
  exact absurd (List.length_eq_zero_iff.1 (by omega)) h
 | succ f ih =>
  intro l out h hl H
  cases l with
  | nil=>exact absurd rfl h
  | cons c r =>
   cases r with
   | nil =>
    have h1:=H c (by simp) [] (.inl rfl)
    rw [List.append_nil] at h1
    show relLW may one (f + 1) (wdsC c) out = _
    rw [relLW,h1]
   | cons d t =>
    have h1:=H c (by simp) ([44] :: wdsL (d :: t)) (.inr ⟨_,rfl⟩)
    have e : wdsL (c :: d :: t) = wdsC c ++ [44] :: wdsL (d :: t):=by simp [wdsL]
    rw [e,relLW,h1]
    simp only [if_true]
    rw [ih (l:=d :: t) (by simp) (by simpa using hl) fun x hx=>H x (by simp only [List.mem_cons] at hx ⊢; exact .inr hx)]
    simp
theorem wdsA_ne (a : Atom) : wdsA a ≠ []:=by
 unfold wdsA
 split <;> simp
theorem wdsC_ne : ∀ {c : Clause},c ≠ [] → wdsC c ≠ []
 | [],h=>absurd rfl h
 | [a],_=>wdsA_ne a
 | a :: b :: t,_=>by simp [wdsC]
theorem wdsL_ne : ∀ {l : List Clause},l ≠ [] → (∀ c ∈ l,c ≠ []) → wdsL l ≠ []
 | [],h,_=>absurd rfl h
 | [c],_,h=>wdsC_ne (h c (by simp))
 | c :: d :: t,_,_=>by simp [wdsL]
theorem good_cl {c : Clause} (h : goodCl c = true) : c ≠ [] ∧ c.length ≤ 6 ∧ ∀ a ∈ c,mayAtom a = true:=by
 unfold goodCl at h
 simp only [Bool.and_eq_true,decide_eq_true_eq,List.all_eq_true] at h
 exact ⟨fun e=>h.1.1 (by rw [e]; rfl),h.1.2,h.2⟩
theorem textL_ok {l : List Clause} (h : l.length ≤ 12) (hg : ∀ c ∈ l,goodCl c = true) : textL l = joinL (l.map clT) [44,32]:=by
 unfold textL
 rw [if_neg]
 rintro (h1 | h1)
 ·omega
 ·obtain ⟨c,hc,h2⟩:=List.all_eq_false.1 h1
  exact h2 (hg c hc)
theorem rel_back {may : Atom → Bool} {one : Bool} {l : List Clause} (h : l.length ≤ 12) (hg : ∀ c ∈ l,goodCl c = true) (H : ∀ c ∈ l,∀ m,(m = [] ∨ ∃ u,m = [44] :: u) → clW may one 6 (wdsC c ++ m) [] = .ok (c,m)) : relP may one (textL l) = (l,0):=by
 rw [relP_eq,textL_ok h hg,toks_cls2 fun c hc=>⟨(good_cl (hg c hc)).1,(good_cl (hg c hc)).2.2⟩]
 unfold relPW
 cases l with
 | nil=>rfl
 | cons c r =>
  rw [if_neg (wdsL_ne (by simp) fun x hx=>(good_cl (hg x hx)).1),relLW_wds (by simp) h H]
  rfl
theorem cls_back {l : List Clause} (h : l.length ≤ 12) (hg : ∀ c ∈ l,goodCl c = true) : relP anyOk false (textL l) = (l,0) :=
 rel_back h hg fun c hc m hm=>by
  obtain ⟨h1,h2,h3⟩:=good_cl (hg c hc)
  have:=clW_wds (out:=[]) h1 h2 h3 hm
  rwa [List.nil_append] at this
theorem good_one {a : Atom} (h : mayAtom a = true) : goodCl [a] = true:=by simp [goodCl,h]
theorem ats_back {may : Atom → Bool} {l : List Atom} (h : l.length ≤ 12) (hm : ∀ a ∈ l,mayAtom a = true) (hmay : ∀ a ∈ l,may a = true) : relP may true (textA l) = (single l,0) :=
 rel_back (by simpa [single] using h) (fun c hc=>by
  obtain ⟨a,ha,rfl⟩:=List.mem_map.1 hc
  exact good_one (hm a ha)) fun c hc m h44=>by
  obtain ⟨a,ha,rfl⟩:=List.mem_map.1 hc
  exact clW_one (hm a ha) (hmay a ha) h44
theorem single_flat (l : List Atom) : (single l).flatten = l:=by
 unfold single
 induction l with
 | nil=>rfl
 | cons a r ih=>simp [ih]
theorem prov_back {l : List Prov} (h : l.length ≤ 12) (hm : ∀ p ∈ l,mayAtom (provAtom p) = true) : relP provOk true (textP l) = (single (l.map provAtom),0) ∧ (single (l.map provAtom)).map provOf = l:=by
 refine ⟨ats_back (by simpa using h) (fun a ha=>?_) fun a ha=>?_,?_⟩
 ·obtain ⟨p,hp,rfl⟩:=List.mem_map.1 ha
  exact hm p hp
 ·obtain ⟨p,hp,rfl⟩:=List.mem_map.1 ha
  unfold provOk provAtom
  simp only
  split <;> decide
 ·unfold single
  rw [List.map_map,List.map_map]
  have : ((provOf ∘ fun a=>[a]) ∘ provAtom) = id:=by
   funext p
   rfl
  rw [this,List.map_id]
end Go.Av
end
section
namespace Go.Proofs.Tryz
open Go Go.Av
set_option maxRecDepth 10000
variable {W0 : World}
theorem relEmpty (e : TypeId) (a : Option Addr) (cap : Nat) (h : cap ≤ maxLen) (w : World) (C : Ctx) : RelV prog w C (.sl e []) (.slice a 0 cap) :=
 .one rfl (Rel.sl (xs:=[]) (fun _=>[]) (Nat.zero_le _) h (fun i x h=>by simp at h) (fun i x h=>by simp at h) fun hn=>absurd hn (by simp))
theorem cl_atoms0 : PureFn prog W0 122 [atomsAV []] (atomsAV []):=by
 refine pure_below func122 (by kernel_rfl) (by kernel_rfl) fun w C vs hvl hv=>?_
 obtain _ | ⟨v1,_ | ⟨_,_⟩⟩:=vs <;> simp at hvl
 have h1:=(hv 0 _ _ rfl rfl).one_inv rfl
 cases h1
 rename_i a cap cf hc hm hr hz hs
 simp only [List.map_nil,List.length_nil] at hm
 show Calls _ _ #[Value.slice a 0 cap] _ _
 have q30 : ∀ (w : World) (a : Option Addr) (n c n' c' : Nat),(binOp .eql 30 (.slice a n c) (.slice none n' c')).run prog w = .ok (.bool a.isNone) w:=fun w a n c n' c'=>Lib.run_eql_slice_nil w _ _ a n c n' c' Tryz.underlying30
 clear hv hr hz hs
 cases a
 all_goals go_enter Tryz.func122,Tryz.ntmps122
 all_goals go_wp2
 all_goals go_ret
 ·exact ⟨_,rfl,relEmpty _ _ _ (Nat.zero_le _),RowKit.Below.refl _ w⟩
 ·exact ⟨_,rfl,relEmpty _ _ _ (Nat.zero_le _),(RowKit.Below.refl _ w).alloc (Nat.le_refl _) _⟩
theorem cl_provs0 : PureFn prog W0 123 [provsAV []] (provsAV []):=by
 refine pure_below func123 (by kernel_rfl) (by kernel_rfl) fun w C vs hvl hv=>?_
 obtain _ | ⟨v1,_ | ⟨_,_⟩⟩:=vs <;> simp at hvl
 have h1:=(hv 0 _ _ rfl rfl).one_inv rfl
 cases h1
 rename_i a cap cf hc hm hr hz hs
 simp only [List.map_nil,List.length_nil] at hm
 show Calls _ _ #[Value.slice a 0 cap] _ _
 have q30 : ∀ (w : World) (a : Option Addr) (n c n' c' : Nat),(binOp .eql 31 (.slice a n c) (.slice none n' c')).run prog w = .ok (.bool a.isNone) w:=fun w a n c n' c'=>Lib.run_eql_slice_nil w _ _ a n c n' c' Tryz.underlying31
 clear hv hr hz hs
 cases a
 all_goals go_enter Tryz.func123,Tryz.ntmps123
 all_goals go_wp2
 all_goals go_ret
 ·exact ⟨_,rfl,relEmpty _ _ _ (Nat.zero_le _),RowKit.Below.refl _ w⟩
 ·exact ⟨_,rfl,relEmpty _ _ _ (Nat.zero_le _),(RowKit.Below.refl _ w).alloc (Nat.le_refl _) _⟩
theorem cl_clause0 : PureFn prog W0 174 [atomsAV []] (atomsAV []):=by
 refine pure_below func174 (by kernel_rfl) (by kernel_rfl) fun w C vs hvl hv=>?_
 obtain _ | ⟨v1,_ | ⟨_,_⟩⟩:=vs <;> simp at hvl
 have h1:=(hv 0 _ _ rfl rfl).one_inv rfl
 cases h1
 rename_i a cap cf hc hm hr hz hs
 simp only [List.map_nil,List.length_nil] at hm
 show Calls _ _ #[Value.slice a 0 cap] _ _
 have q30 : ∀ (w : World) (a : Option Addr) (n c n' c' : Nat),(binOp .eql 85 (.slice a n c) (.slice none n' c')).run prog w = .ok (.bool a.isNone) w:=fun w a n c n' c'=>Lib.run_eql_slice_nil w _ _ a n c n' c' Tryz.underlying85
 clear hv hr hz hs
 cases a
 all_goals go_enter Tryz.func174,Tryz.ntmps174
 all_goals go_wp2
 all_goals go_ret
 ·exact ⟨_,rfl,relEmpty _ _ _ (Nat.zero_le _),RowKit.Below.refl _ w⟩
 ·exact ⟨_,rfl,relEmpty _ _ _ (Nat.zero_le _),(RowKit.Below.refl _ w).alloc (Nat.le_refl _) _⟩
theorem cl_atomsA (l : List Atom) (hl : l.length ≤ 1048576) : PureFn prog W0 122 [atomsAV l] (atomsAV l):=by
 cases l with
 | nil=>exact cl_atoms0
 | cons x c=>exact cl_atoms (x :: c) hl
theorem cl_provsA (l : List Prov) (hl : l.length ≤ 1048576) : PureFn prog W0 123 [provsAV l] (provsAV l):=by
 cases l with
 | nil=>exact cl_provs0
 | cons x c=>exact cl_provs (x :: c) hl
theorem cl_clauseA (l : List Atom) (hl : l.length ≤ 1048576) : PureFn prog W0 174 [atomsAV l] (atomsAV l):=by
 cases l with
 | nil=>exact cl_clause0
 | cons x c=>exact cl_clause (x :: c) hl
theorem va_ownA (l : List Clause) (hl : l.length ≤ 1048576) (hc : ∀ c ∈ l,c.length ≤ 1048576) : PureFn prog W0 121 [clausesAV l] (clausesAV l):=by
 refine fn_pure [2] [] func121 rfl rfl ntmps121 rfl rfl (ids_clauses _) fun hs σ=>?_
 simp only [go_sem,simprocAttr,↓reduceIte,clausesAV,List.length_map]
 refine LoopVC.at [6,7] (.of (by kernel_rfl)) (fun A=>∃ v,A.env 3 = v ∧ Built σ A.st v 85 (l.map atomsAV)) ?_ fun B ⟨v,h3,hb⟩=>?_
 ·refine LoopVC.upto [6,7] (.of (by kernel_rfl)) l.length (fun i A=>∃ v,A.env 3 = v ∧ A.env 8 = .int .i64 i ∧ Built σ A.st v 85 ((l.take i).map atomsAV)) 0 (Nat.zero_le _) ?_ fun i B hi ⟨v,h3,h8,hb⟩=>?_
  ·simp only [go_sem,simprocAttr,↓reduceIte]
   exact ⟨_,rfl,Built.nil (.refl _) _⟩
  simp only [go_sem,simprocAttr,↓reduceIte,h3,h8,hb.ok,hb.un,List.length_map]
  refine ⟨fun hlt=>⟨hlt,?_⟩,fun hlt=>?_⟩
  ·obtain ⟨c,ha⟩:=get_some hlt
   simp only [atV_map ha]
   simp only [go_sem,simprocAttr,↓reduceIte,atomsAV,h3,h8,hb.ok,hb.un]
   refine CallA.fn (cl_clauseA c (hc c (List.mem_of_getElem? ha))) ?_
   simp only [go_sem,simprocAttr,↓reduceIte,h3,h8,hb.ok,hb.un,atomsAV]
   refine AppA.own 1048576 (by kernel_rfl) hb.bld (.lit _ _ _) (by simp; omega) fun v' σ' ha'=>?_
   have hb':=hb.app ha'
   simp only [go_sem,simprocAttr,↓reduceIte,h3,h8,hb.ok,hb.un,hb'.ok,hb'.un]
   refine ⟨hlt,_,rfl,int_succ hlt (by rw [maxLen_eq]; omega),?_⟩
   rw [take_succ_get ha,List.map_append]
   exact hb'
  ·rw [List.take_of_length_le hlt] at hb
   exact ⟨_,rfl,hb⟩
 simp only [go_sem,simprocAttr,↓reduceIte,h3,hb.ok,hb.un]
 exact ⟨hb.weak,hb.ext⟩
def inW : ValN → AV
 | .text s=>.iface 9 (.str s)
 | .count n=>.iface 3 (.int .i64 n)
 | .yes b=>.iface 4 (.bool b)
 | .cls l=>.iface 29 (clausesAV l)
 | .atoms l=>.iface 30 (atomsAV l)
 | .provs l=>.iface 31 (provsAV l)
def valW (v : ValN) : AV:=.agg 104 [inW v]
theorem ids_valW (v : ValN) : IdsLt 0 (valW v):=.agg fun x hx=>by
 simp only [List.mem_singleton] at hx
 subst hx
 cases v with
 | text s=>exact .iface (.str _)
 | count n=>exact .iface (.int _ _)
 | yes b=>exact .iface (.bool _)
 | cls l=>exact .iface (ids_clauses _)
 | atoms l=>exact .iface (ids_atoms _)
 | provs l=>exact .iface (ids_provs _)
theorem va_ofClausesA (l : List Clause) (hl : l.length ≤ 1048576) (hc : ∀ c ∈ l,c.length ≤ 1048576) : PureFn prog W0 72 [clausesAV l] (valW (.cls l)):=by
 refine fn_pureM [.cell 2 104] [] func72 rfl rfl ntmps72 rfl rfl (ids_valW _) fun hs σ=>?_
 simp only [go_sem,simprocAttr,↓reduceIte]
 refine CallA.fn (va_ownA l hl hc) ?_
 simp only [go_sem,simprocAttr,↓reduceIte,clausesAV]
 refine EndM.ret ?_
 simp only [go_sem,simprocAttr,↓reduceIte]
 exact .refl _
theorem va_ofAtomsA (l : List Atom) (hl : l.length ≤ 1048576) : PureFn prog W0 73 [atomsAV l] (valW (.atoms l)):=by
 refine fn_pureM [.cell 2 104] [] func73 rfl rfl ntmps73 rfl rfl (ids_valW _) fun hs σ=>?_
 simp only [go_sem,simprocAttr,↓reduceIte]
 refine CallA.fn (cl_atomsA l hl) ?_
 simp only [go_sem,simprocAttr,↓reduceIte,atomsAV]
 refine EndM.ret ?_
 simp only [go_sem,simprocAttr,↓reduceIte]
 exact .refl _
theorem va_ofProvsA (l : List Prov) (hl : l.length ≤ 1048576) : PureFn prog W0 74 [provsAV l] (valW (.provs l)):=by
 refine fn_pureM [.cell 2 104] [] func74 rfl rfl ntmps74 rfl rfl (ids_valW _) fun hs σ=>?_
 simp only [go_sem,simprocAttr,↓reduceIte]
 refine CallA.fn (cl_provsA l hl) ?_
 simp only [go_sem,simprocAttr,↓reduceIte,provsAV]
 refine EndM.ret ?_
 simp only [go_sem,simprocAttr,↓reduceIte]
 exact .refl _
end Go.Proofs.Tryz
end
section
namespace Go.Av
def writeT : ValN → List UInt8 × Bool
 | .text s=>(s,true)
 | .count _=>([],true)
 | .yes b=>(if b = true then sYes else sNo,true)
 | .cls l=>(textL l,textL l != [] || l.length == 0)
 | .atoms l=>(textA l,textA l != [] || l.length == 0)
 | .provs l=>(textP l,textP l != [] || l.length == 0)
def ValN.fit : ValN → Prop
 | .count _=>False
 | .atoms l=>l.length ≤ 1048576
 | .provs l=>l.length ≤ 1048576
 | _=>True
end Go.Av
namespace Go.Proofs.Tryz
open Go Go.Av
set_option maxRecDepth 10000
variable {W0 : World}
theorem va_write (v : ValN) (hv : v.fit) : PureFn prog W0 69 [valW v] (.tup [.str (writeT v).1,.bool (writeT v).2]):=by
 refine fn_pure [2,3] [1] func69 rfl rfl ntmps69 rfl rfl (.tup2 (.str _) (.bool _)) fun hs σ=>?_
 cases v with
 | text s =>
  simp only [go_sem,simprocAttr,↓reduceIte,valW,inW]
  exact ⟨by simp,.refl _⟩
 | count n=>exact hv.elim
 | yes b =>
  simp only [go_sem,simprocAttr,↓reduceIte,valW,inW]
  refine ⟨by simp,by simp,by simp,fun h=>?_,fun h=>?_⟩
  ·subst h; exact .refl _
  ·subst h; exact .refl _
 | cls l =>
  simp only [go_sem,simprocAttr,↓reduceIte,valW,inW,clausesAV]
  refine ⟨by simp,by simp,by simp,by simp,CallA.fn (rl_text l) ?_⟩
  simp only [go_sem,simprocAttr,↓reduceIte,List.length_map]
  have e : ((l.length : Int) == 0) = (l.length == 0):=by rw [Bool.eq_iff_iff]; simp
  rw [e]
  exact .refl _
 | atoms l =>
  simp only [go_sem,simprocAttr,↓reduceIte,valW,inW,atomsAV]
  refine ⟨by simp,by simp,by simp,by simp,by simp,CallA.fn (rl_atoms l hv) ?_⟩
  simp only [go_sem,simprocAttr,↓reduceIte,List.length_map]
  have e : ((l.length : Int) == 0) = (l.length == 0):=by rw [Bool.eq_iff_iff]; simp
  rw [e]
  exact .refl _
 | provs l =>
  simp only [go_sem,simprocAttr,↓reduceIte,valW,inW,provsAV]
  refine ⟨by simp,by simp,by simp,by simp,by simp,by simp,CallA.fn (rl_provs l hv) ?_⟩
  simp only [go_sem,simprocAttr,↓reduceIte,List.length_map]
  have e : ((l.length : Int) == 0) = (l.length == 0):=by rw [Bool.eq_iff_iff]; simp
  rw [e]
  exact .refl _
end Go.Proofs.Tryz
end
section
namespace Go.Av
theorem Bld.subS {st : Store} {v : AV} {e : TypeId} {xs : List AV} (h : Bld st v e xs) : Sub v (.sl e xs):=by
 rcases h with ⟨rfl,rfl⟩ | rfl | ⟨t,rfl,_⟩
 ·exact .nils _
 ·exact .lit _ _
 ·exact .own _ _ _
theorem PureFn.ofCall {P : Program} {W0 : World} {f : FuncId} {args : List AV} {r : AV} (hr : IdsLt 0 r) (h : ∀ σ,ACall P W0 f args σ fun r' σ'=>Weak r' r ∧ Ext σ σ') : PureFn P W0 f args r:=fun σ w C vs hst hl hv =>
 (h σ w C vs hst hl hv).mono fun e w' ⟨v,r',σ',C',he,⟨hw,hx⟩,hs,hrv,hstep⟩=>by
  have hs2 : StRel P W0 w' (C'.upTo σ.length) σ:=by
   have:=hs.upTo (n:=σ.length) hx.le fun id te xs hid hss=>hst.ids (show σ[id]? = some (some (.cells te xs)) by
    have e:=congrArg (·[id]?) hx
    simp only [List.getElem?_take,if_pos hid] at e
    rw [← e]; exact hss)
   rwa [hx] at this
  exact ⟨v,r,σ,C'.upTo σ.length,he,⟨rfl,rfl⟩,hs2,(hrv.weak hw).upTo (idsLt_mono (Nat.zero_le _) hr),hstep.upTo (by rw [hst.nx]; exact Nat.le_refl _)⟩
end Go.Av
namespace Go.Proofs.Tryz
open Go Go.Av
set_option maxRecDepth 10000
variable {W0 : World}
def fldL (x : List UInt8 × List UInt8) : AV:=.agg 28 [.str x.1,.lit 9 [.str x.2]]
def addF (n : List UInt8) (v : ValN) : List (List UInt8 × List UInt8):=if ((writeT v).2 && !((writeT v).1 == [])) = true then [(n,(writeT v).1)] else []
theorem add_len (n : List UInt8) (v : ValN) : (addF n v).length ≤ 1:=by
 unfold addF
 split <;> simp
def stzO (w : AV) : Option SObj:=some (.cells 24 [.agg 24 [.int .i64 0,w]])
theorem re_add {σ : Store} {id : Nat} {w : AV} {l : List (List UInt8 × List UInt8)} (h : σ[id]? = some (stzO w)) (hb : Bld σ w 28 (l.map fldL)) (hl : l.length ≤ 1000) (n : List UInt8) (v : ValN) (hv : v.fit) :
  ACall prog W0 68 [.str n,valW v,.ptr 24 id 0 []] σ fun r σ'=>r = .tup [] ∧ ∃ w',σ'[id]? = some (stzO w') ∧ Bld σ' w' 28 ((l ++ addF n v).map fldL) ∧ Fr (id :: foot w) σ σ' ∧ ∀ t ∈ foot w',t ∈ foot w ∨ σ.length ≤ t:=by
 refine fn_callM [] [4] func68 rfl rfl ntmps68 rfl rfl fun hs=>?_
 have h' : σ[id]? = some (some (.cells 24 [.agg 24 [.int .i64 0,w]])):=h
 have hn:=hb.notM
 simp only [go_sem,simprocAttr,↓reduceIte,valW]
 have:=va_write (W0:=W0) v hv
 unfold valW at this
 refine CallA.fn this ?_
 simp only [go_sem,simprocAttr,↓reduceIte,look_id h',setLook_id h',okM_notM hn,unm_notM hn]
 have hid : id ∉ foot w:=hb.ne h' (by simp)
 have hlt:=(List.getElem?_eq_some_iff.1 h').1
 refine ⟨fun hc=>?_,fun hc=>?_⟩
 ·refine AppA.ownS (σ:=σ) (by simp only [go_sem,simprocAttr,↓reduceIte]) 1048576 (by kernel_rfl) hb (.lit _ _ _) (by simp; omega) fun w2 τ2 ha=>?_
  have e2 : τ2[id]? = some (some (.cells 24 [.agg 24 [.int .i64 0,w]])):=(ha.fr.old id hlt hid).trans h'
  have hb2 : Bld τ2 w2 28 ((l ++ addF n v).map fldL):=by
   unfold addF
   rw [if_pos hc,List.map_append]
   exact ha.bld
  have hn2:=hb2.notM
  have hid2 : id ∉ foot w2:=hb2.ne e2 (by simp)
  simp only [go_sem,simprocAttr,↓reduceIte,look_id e2,setLook_id e2,okM_notM hn2,unm_notM hn2,hb2.fits]
  refine EndM.normal ?_
  simp only [go_sem,simprocAttr,↓reduceIte]
  refine ⟨_,.refl _,?_,rfl,w2,List.getElem?_set_self (List.getElem?_eq_some_iff.1 e2).1,hb2.keep fun j hj=>List.getElem?_set_ne (by rintro rfl; exact hid2 hj),(ha.fr.mono fun j hj=>List.mem_cons_of_mem _ hj).set (.inl (List.mem_cons_self ..)) _,ha.foot hb⟩
  have:=ha.fr.len
  simpa using this
 ·refine EndM.normal ?_
  simp only [go_sem,simprocAttr,↓reduceIte]
  refine ⟨_,.refl _,rfl,w,h,?_,Fr.refl _ _,fun t ht=>.inl ht⟩
  unfold addF
  rw [if_neg (by rw [hc]; decide),List.append_nil]
  exact hb
def SI (σ τ : Store) (k m : Nat) (l : List (List UInt8 × List UInt8)) : Prop:=∃ w,τ[σ.length + k]? = some (stzO w) ∧ Bld τ w 28 (l.map fldL) ∧ (∀ t ∈ foot w,σ.length ≤ t) ∧ τ[σ.length]? = some (stzO .nils) ∧ Ext σ τ ∧ l.length ≤ m
theorem SI.add {σ τ : Store} {k m : Nat} {l : List (List UInt8 × List UInt8)} (h : SI σ τ k m l) (hk : 0 < k) (hm : m ≤ 1000) (n : List UInt8) (v : ValN) (hv : v.fit) :
  ACall prog W0 68 ([.str n,valW v] ++ [.ptr 24 (σ.length + k) 0 []]) τ fun r σ'=>r = .tup [] ∧ SI σ σ' k (m + 1) (l ++ addF n v):=by
 obtain ⟨w,h1,h2,h3,h4,h5,h6⟩:=h
 refine (re_add h1 h2 (by omega) n v hv).mono fun r σ' ⟨hr,w',g1,g2,g3,g4⟩=>⟨hr,w',g1,g2,fun t ht=>?_,?_,?_,?_⟩
 ·rcases g4 t ht with h | h
  ·exact h3 t h
  ·have:=h5.le; omega
 ·have hlt:=(List.getElem?_eq_some_iff.1 h4).1
  refine (g3.old _ hlt fun hm=>?_).trans h4
  rcases List.mem_cons.1 hm with e | hm
  ·omega
  ·exact absurd hm (h2.ne h4 (by simp))
 ·refine g3.toExt h5 fun j hj=>?_
  rcases List.mem_cons.1 hj with rfl | hj
  ·omega
  ·exact h3 j hj
 ·have:=add_len n v
  simp only [List.length_append]
  omega
def nPackage : List UInt8:=[80,97,99,107,97,103,101]
def nVersion : List UInt8:=[86,101,114,115,105,111,110]
def nEss : List UInt8:=[69,115,115,101,110,116,105,97,108]
def nPre : List UInt8:=[80,114,101,45,68,101,112,101,110,100,115]
def nDep : List UInt8:=[68,101,112,101,110,100,115]
def nRcm : List UInt8:=[82,101,99,111,109,109,101,110,100,115]
def nCon : List UInt8:=[67,111,110,102,108,105,99,116,115]
def nBrk : List UInt8:=[66,114,101,97,107,115]
def nProv : List UInt8:=[80,114,111,118,105,100,101,115]
def fldsP (p : Pkg) : List (List UInt8 × List UInt8) :=
 addF nPackage (.text p.name) ++ addF nVersion (.text p.ver) ++ (if p.ess = true then addF nEss (.yes true) else []) ++ addF nPre (.cls p.pre) ++ addF nDep (.cls p.dep) ++ addF nRcm (.cls p.rcm) ++ addF nCon (.atoms p.con) ++ addF nBrk (.atoms p.brk) ++ addF nProv (.provs p.prov)
def stanzaP (p : Pkg) : Stz:=if mayPkg p ≠ 0 then ⟨0,[]⟩ else ⟨0,(fldsP p).map fun x=>⟨x.1,[x.2]⟩⟩
structure LiN (l : List Clause) : Prop where
 len : l.length ≤ 1048576
 cl : ∀ c ∈ l,c.length ≤ 1048576
def StzR (g : List UInt8 × List UInt8 → AV) (p : Pkg) (σ : Store) (r : AV) (σ' : Store) : Prop:=∃ w,r = .tup [.agg 24 [.int .i64 0,w],.int .i64 (mayPkg p)] ∧ Bld σ' w 28 ((if mayPkg p ≠ 0 then [] else fldsP p).map g) ∧ (∀ t ∈ foot w,σ.length ≤ t) ∧ Ext σ σ'
theorem StzR.weak {g : List UInt8 × List UInt8 → AV} (hg : ∀ x,Sub (g x) (fldAV ⟨x.1,[x.2]⟩)) {p : Pkg} {σ σ' : Store} {r : AV} (h : StzR g p σ r σ') : Weak r (.tup [stzAV (stanzaP p),.int .i64 (mayPkg p)]) ∧ Ext σ σ':=by
 obtain ⟨w,rfl,hb,_,hx⟩:=h
 have hsub : Sub w (fldsAV (stanzaP p).fields):=by
  refine (Bld.subS hb).trans ?_
  have e : (stanzaP p).fields = (if mayPkg p ≠ 0 then [] else fldsP p).map fun x=>(⟨x.1,[x.2]⟩ : Fld):=by
   unfold stanzaP
   split <;> rfl
  rw [e]
  show Sub _ (.sl 28 (List.map fldAV _))
  rw [List.map_map]
  exact Sub.slmap _ fun x _=>hg x
 have el : (stanzaP p).line = 0:=by
  unfold stanzaP
  split <;> rfl
 refine ⟨weak_tup2 (.sub (.agg rfl fun i a b ha hb=>?_)) (.refl _),hx⟩
 match i,ha,hb with
 | 0,ha,hb=>cases ha; cases hb; rw [el]; exact .refl _
 | 1,ha,hb=>cases ha; cases hb; exact hsub
theorem re_stanzaO (p : Pkg) (hm : MayN p) (h2 : LiN p.pre) (h3 : LiN p.dep) (h4 : LiN p.rcm) (σ : Store) : ACall prog W0 31 [pkgAV p] σ fun r σ'=>StzR fldL p σ r σ':=by
 refine fn_callM [.cell 2 24,.tmp 3] [1] func31 rfl rfl ntmps31 rfl rfl fun hs=>?_
 simp only [go_sem,simprocAttr,↓reduceIte,pkgAV]
 refine CallA.fn (re_may p hm) ?_
 simp only [go_sem,simprocAttr,↓reduceIte]
 refine ⟨fun he=>?_,fun he=>?_⟩
 ·refine EndM.ret ?_
  simp only [go_sem,simprocAttr,↓reduceIte]
  exact ⟨_,.refl _,by simp,.nils,rfl,by rw [if_pos he]; exact .inl ⟨rfl,rfl⟩,by simp [foot],(Ext.refl _).app _⟩
 have S0 : SI σ (σ ++ [stzO .nils,stzO .nils]) 1 0 []:=⟨.nils,by simp,.inl ⟨rfl,rfl⟩,by simp [foot],by simp,(Ext.refl _).app _,Nat.le_refl _⟩
 refine CallA.fn (va_ofText p.name) ?_
 simp only [go_sem,simprocAttr,↓reduceIte,valAV,inV]
 refine CallA.go (σ:=σ ++ [stzO .nils,stzO .nils]) (by simp only [go_sem,simprocAttr,↓reduceIte]; rfl) (S0.add (by decide) (by decide) nPackage (.text p.name) trivial) fun r τ1 ⟨hr,S1⟩=>?_
 subst hr
 simp only [go_sem,simprocAttr,↓reduceIte]
 refine CallA.fn (va_ofText p.ver) ?_
 simp only [go_sem,simprocAttr,↓reduceIte,valAV,inV]
 refine CallA.go (σ:=τ1) (by simp only [go_sem,simprocAttr,↓reduceIte]) (S1.add (by decide) (by decide) nVersion (.text p.ver) trivial) fun r τ2 ⟨hr,S2⟩=>?_
 subst hr
 simp only [go_sem,simprocAttr,↓reduceIte]
 refine JoinVC.at [1,2,5,6,24] (by kernel_rfl) (fun A=>SI σ A.st 1 3 (addF nPackage (.text p.name) ++ addF nVersion (.text p.ver) ++ (if p.ess = true then addF nEss (.yes true) else []))) (fun h=>?_) (fun h=>?_) fun A S3=>?_
 ·simp only [go_sem,simprocAttr,↓reduceIte]
  refine CallA.fn (va_ofYes true) ?_
  simp only [go_sem,simprocAttr,↓reduceIte,valAV,inV]
  refine CallA.go (σ:=τ2) (by simp only [go_sem,simprocAttr,↓reduceIte]) (S2.add (by decide) (by decide) nEss (.yes true) trivial) fun r τ3 ⟨hr,S3⟩=>?_
  subst hr
  simp only [go_sem,simprocAttr,↓reduceIte]
  rw [if_pos h]
  simpa only [List.nil_append,List.append_assoc] using S3
 ·simp only [go_sem,simprocAttr,↓reduceIte]
  rw [if_neg (by rw [h]; decide),List.append_nil]
  obtain ⟨w,a1,a2,a3,a4,a5,a6⟩:=S2
  exact ⟨w,a1,a2,a3,a4,a5,by have:=a6; simp only [List.nil_append] at this ⊢; omega⟩
 generalize hT3 : A.st = τ3 at *
 simp only [go_sem,simprocAttr,↓reduceIte,hT3]
 refine CallA.fn (va_ofClausesA p.pre h2.len h2.cl) ?_
 simp only [go_sem,simprocAttr,↓reduceIte,valW,inW,hT3]
 refine CallA.go (σ:=τ3) (by simp only [go_sem,simprocAttr,↓reduceIte,hT3]) (S3.add (by decide) (by decide) nPre (.cls p.pre) trivial) fun r τ4 ⟨hr,S4⟩=>?_
 subst hr
 simp only [go_sem,simprocAttr,↓reduceIte,hT3]
 refine CallA.fn (va_ofClausesA p.dep h3.len h3.cl) ?_
 simp only [go_sem,simprocAttr,↓reduceIte,valW,inW,hT3]
 refine CallA.go (σ:=τ4) (by simp only [go_sem,simprocAttr,↓reduceIte,hT3]) (S4.add (by decide) (by decide) nDep (.cls p.dep) trivial) fun r τ5 ⟨hr,S5⟩=>?_
 subst hr
 simp only [go_sem,simprocAttr,↓reduceIte,hT3]
 refine CallA.fn (va_ofClausesA p.rcm h4.len h4.cl) ?_
 simp only [go_sem,simprocAttr,↓reduceIte,valW,inW,hT3]
 refine CallA.go (σ:=τ5) (by simp only [go_sem,simprocAttr,↓reduceIte,hT3]) (S5.add (by decide) (by decide) nRcm (.cls p.rcm) trivial) fun r τ6 ⟨hr,S6⟩=>?_
 subst hr
 simp only [go_sem,simprocAttr,↓reduceIte,hT3]
 refine CallA.fn (va_ofAtomsA p.con hm.con) ?_
 simp only [go_sem,simprocAttr,↓reduceIte,valW,inW,hT3]
 refine CallA.go (σ:=τ6) (by simp only [go_sem,simprocAttr,↓reduceIte,hT3]) (S6.add (by decide) (by decide) nCon (.atoms p.con) hm.con) fun r τ7 ⟨hr,S7⟩=>?_
 subst hr
 simp only [go_sem,simprocAttr,↓reduceIte,hT3]
 refine CallA.fn (va_ofAtomsA p.brk hm.brk) ?_
 simp only [go_sem,simprocAttr,↓reduceIte,valW,inW,hT3]
 refine CallA.go (σ:=τ7) (by simp only [go_sem,simprocAttr,↓reduceIte,hT3]) (S7.add (by decide) (by decide) nBrk (.atoms p.brk) hm.brk) fun r τ8 ⟨hr,S8⟩=>?_
 subst hr
 simp only [go_sem,simprocAttr,↓reduceIte,hT3]
 refine CallA.fn (va_ofProvsA p.prov hm.prov) ?_
 simp only [go_sem,simprocAttr,↓reduceIte,valW,inW,hT3]
 refine CallA.go (σ:=τ8) (by simp only [go_sem,simprocAttr,↓reduceIte,hT3]) (S8.add (by decide) (by decide) nProv (.provs p.prov) hm.prov) fun r τ9 ⟨hr,S9⟩=>?_
 subst hr
 obtain ⟨w,c1,b,ft,c0,ex,_⟩:=S9
 have c1' : τ9[σ.length + 1]? = some (some (.cells 24 [.agg 24 [.int .i64 0,w]])):=c1
 have c0' : τ9[σ.length]? = some (some (.cells 24 [.agg 24 [.int .i64 0,.nils]])):=c0
 have hn:=b.notM
 have hlt:=(List.getElem?_eq_some_iff.1 c0').1
 have hf : fitsB prog 24 (.agg 24 [.int .i64 0,w]) = true:=by kernel_rfl
 simp only [go_sem,simprocAttr,↓reduceIte,hT3,look_id c1',look_id c0',setLook_id c0',okM_notM hn,unm_notM hn,hf]
 refine EndM.ret ?_
 simp only [go_sem,simprocAttr,↓reduceIte,look_set hlt,okM_notM hn,unm_notM hn]
 have hid : ∀ j ∈ foot w,j ≠ σ.length:=fun j hj e=>b.ne c0' (by simp) (e ▸ hj)
 exact ⟨_,.refl _,by have:=ex.le; simpa using this,w,by rw [he],by rw [if_neg (by rw [he]; decide)]; exact b.keep fun j hj=>List.getElem?_set_ne (hid j hj).symm,ft,ex.set (Nat.le_refl _) _⟩
theorem fldL_sub (x : List UInt8 × List UInt8) : Sub (fldL x) (fldAV ⟨x.1,[x.2]⟩):=.agg rfl fun i a b ha hb=>by
 match i,ha,hb with
 | 0,ha,hb=>cases ha; cases hb; exact .refl _
 | 1,ha,hb=>cases ha; cases hb; exact .lit _ _
theorem re_stanza (p : Pkg) (hm : MayN p) (h2 : LiN p.pre) (h3 : LiN p.dep) (h4 : LiN p.rcm) : PureFn prog W0 31 [pkgAV p] (.tup [stzAV (stanzaP p),.int .i64 (mayPkg p)]) :=
 .ofCall (.tup2 (ids_stz _ _) (.int _ _)) fun σ=>(re_stanzaO p hm h2 h3 h4 σ).mono fun _ _ h=>h.weak fldL_sub
end Go.Proofs.Tryz
end
section
namespace Go.Av
def lineP (n : List UInt8) (k : Int) (s : List UInt8) : List UInt8 :=
 if 0 < k ∧ s = [] then [32,46] else if 0 < k then 32 :: s else if s = [] then n ++ [58] else n ++ [58,32] ++ s
end Go.Av
namespace Go.Proofs.Tryz
open Go Go.Av
set_option maxRecDepth 10000
variable {W0 : World}
end Go.Proofs.Tryz
end
section
namespace Go.Av
def lineOk (k : Int) (s : List UInt8) : Bool:=!(decide (0 ≤ goodT s) || !(trimE s == s) || (decide (0 < k) && s == [46])) && (decide (0 < k) || trimT s == s)
end Go.Av
namespace Go.Proofs.Tryz
open Go Go.Av
set_option maxRecDepth 10000
variable {W0 : World}
end Go.Proofs.Tryz
end
section
namespace Go.Av
def allIx {α : Type} (q : Nat → α → Bool) : Nat → List α → Bool
 | _,[]=>true
 | i,x :: r=>q i x && allIx q (i + 1) r
def mayFieldN (f : Fld) (ahead : List Fld) : Int :=
 if ((nameN f.name : Int) == 0 || (nameN f.name : Int) != (f.name.length : Int) || (f.lines.length : Int) == 0) = true then 3
 else if allIx (fun k s=>lineOk k s) 0 f.lines = false then 3
 else if hasF ahead f.name = true then 4
 else if allIx (fun k s=>decide ((lineP f.name k s).length ≤ 1000)) 0 f.lines = false then 2
 else 0
end Go.Av
namespace Go.Proofs.Tryz
open Go Go.Av
set_option maxRecDepth 10000
variable {W0 : World}
end Go.Proofs.Tryz
end
section
namespace Go.Av
open Go.Proofs.Tryz
def prB (c : UInt8) : Bool:=decide (32 ≤ c.toNat) && decide (c.toNat ≤ 126)
theorem good_pr : ∀ (f : Nat) {s : List UInt8} (i : Nat),(∀ c ∈ s,prB c = true) → goodF f s i = -1
 | 0,_,_,_=>rfl
 | _ + 1,[],_,_=>rfl
 | f + 1,c :: r,i,h=>by
  have hc:=h c (by simp)
  simp only [prB,Bool.and_eq_true,decide_eq_true_eq] at hc
  have h1 : sizeT (c :: r) = 1:=sizeT_ascii (by omega)
  have h2 : badC c = false:=by
   unfold badC
   rw [decide_eq_false (by omega),decide_eq_false (show ¬ c.toNat = 127 by omega)]
   rfl
  rw [goodF,h1,h2,if_neg (by simp)]
  exact good_pr f _ fun x hx=>h x (by simpa using .inr hx)
theorem goodT_pr {s : List UInt8} (h : ∀ c ∈ s,prB c = true) : goodT s = -1:=good_pr _ _ h
theorem name_pr {w : List UInt8} (h : nameOk w = true) : ∀ c ∈ w,prB c = true:=by
 intro c hc
 obtain ⟨j,hj⟩:=List.mem_iff_getElem?.1 hc
 unfold nameOk at h
 rw [Bool.and_eq_true] at h
 have:=allIdxB_iff.1 h.2 j c hj
 simp [nameCh,smallC,digitC] at this
 simp only [prB,Bool.and_eq_true,decide_eq_true_eq]
 omega
theorem dig_pr {c : UInt8} (h : digitC c = true) : prB c = true:=by
 simp [digitC] at h
 simp only [prB,Bool.and_eq_true,decide_eq_true_eq]
 omega
theorem rev_pr {c : UInt8} (h : revCh c = true) : prB c = true:=by
 simp [revCh,letterC,smallC,digitC] at h
 simp only [prB,Bool.and_eq_true,decide_eq_true_eq]
 omega
theorem up_pr {c : UInt8} (h : upCh c = true) : prB c = true:=by
 simp [upCh,letterC,smallC,digitC] at h
 simp only [prB,Bool.and_eq_true,decide_eq_true_eq]
 omega
theorem ver_pr {w : List UInt8} (h : isVer w = true) : ∀ c ∈ w,prB c = true:=by
 intro c hc
 unfold isVer verP at h
 split at h
 ·cases h
 split at h
 ·cases h
 rename_i e t he
 split at h
 ·cases h
 rename_i u r hr
 split at h
 case isFalse=>cases h
 rename_i hg
 simp only [Bool.and_eq_true,List.all_eq_true] at hg
 obtain ⟨⟨g1,g2⟩,_⟩:=hg
 have hcu : c ∈ t → prB c = true:=fun ht=>by
  unfold revP at hr
  split at hr
  ·rename_i h0
   split at hr
   ·cases hr
   ·cases hr
    rcases mem_parts (lastOf 45 t).toNat ht with h1 | h1 | h1
    ·exact up_pr (g2 c h1)
    ·rcases lastOf_cases 45 t with ⟨h2,_⟩ | ⟨i,h2,h3,_⟩
     ·omega
     ·rw [h2,Int.toNat_natCast,h3] at h1
      cases h1
      decide
    ·exact rev_pr (g1 c h1)
  ·cases hr
   exact up_pr (g2 c ht)
 unfold epochP at he
 split at he
 ·rename_i h0
  simp only at he
  split at he
  ·rename_i hd
   cases he
   rcases mem_parts (firstOf 58 w).toNat hc with h1 | h1 | h1
   ·exact dig_pr (List.all_eq_true.1 hd.2.2 c h1)
   ·rcases firstOf_cases 58 w with ⟨h2,_⟩ | ⟨i,h2,h3,_⟩
    ·omega
    ·rw [h2,Int.toNat_natCast,h3] at h1
     cases h1
     decide
   ·exact hcu h1
  ·cases he
 ·cases he
  exact hcu hc
structure Edge (s : List UInt8) : Prop where
 hd : ∃ c t,s = c :: t ∧ clsB c ≠ 1
 tl : ∃ u c,s = u ++ [c] ∧ clsB c ≠ 1
theorem Edge.plain {s : List UInt8} (hne : s ≠ []) (h : ∀ c ∈ s,clsB c = 0) : Edge s:=by
 constructor
 ·cases s with
  | nil=>exact absurd rfl hne
  | cons c t=>exact ⟨c,t,rfl,by rw [h c (by simp)]; decide⟩
 ·rcases List.eq_nil_or_concat s with rfl | ⟨u,c,rfl⟩
  ·exact absurd rfl hne
  ·rw [List.concat_eq_append] at *
   exact ⟨u,c,rfl,by rw [h c (by simp)]; decide⟩
theorem Edge.ne {s : List UInt8} (h : Edge s) : s ≠ []:=by
 obtain ⟨c,t,rfl,_⟩:=h.hd
 simp
theorem Edge.app {s m t : List UInt8} (hs : Edge s) (ht : Edge t) : Edge (s ++ (m ++ t)):=by
 obtain ⟨c,a,rfl,h1⟩:=hs.hd
 obtain ⟨u,d,rfl,h2⟩:=ht.tl
 exact ⟨⟨c,a ++ (m ++ (u ++ [d])),rfl,h1⟩,⟨(c :: a) ++ (m ++ u),d,by simp,h2⟩⟩
theorem Edge.trimE {s : List UInt8} (h : Edge s) : trimE s = s:=by
 obtain ⟨u,c,rfl,h1⟩:=h.tl
 rw [trimE_snoc,if_neg (by simp [wsB,h1])]
theorem Edge.skip {s : List UInt8} (h : Edge s) : skipW s = s:=by
 obtain ⟨c,t,rfl,h1⟩:=h.hd
 exact skip_id h1
theorem Edge.trim {s : List UInt8} (h : Edge s) : trimT s = s:=by
 unfold trimT
 rw [h.skip,h.trimE]
theorem edge_join {sep : List UInt8} : ∀ {l : List (List UInt8)},l ≠ [] → (∀ x ∈ l,Edge x) → Edge (joinL l sep)
 | [],h,_=>absurd rfl h
 | [x],_,h=>by rw [joinL_one]; exact h x (by simp)
 | x :: y :: t,_,h=>by
  rw [joinL_two]
  exact (h x (by simp)).app (edge_join (by simp) fun z hz=>h z (by simp only [List.mem_cons] at hz ⊢; exact .inr hz))
theorem mem_join {sep : List UInt8} {c : UInt8} : ∀ {l : List (List UInt8)},c ∈ joinL l sep → c ∈ sep ∨ ∃ x ∈ l,c ∈ x
 | [],h=>by rw [joinL_nil] at h; cases h
 | [x],h=>by rw [joinL_one] at h; exact .inr ⟨x,by simp,h⟩
 | x :: y :: t,h=>by
  rw [joinL_two] at h
  rcases List.mem_append.1 h with h | h
  ·exact .inr ⟨x,by simp,h⟩
  ·rcases List.mem_append.1 h with h | h
   ·exact .inl h
   ·rcases mem_join h with h | ⟨z,hz,h⟩
    ·exact .inl h
    ·exact .inr ⟨z,by simp only [List.mem_cons] at hz ⊢; exact .inr hz,h⟩
theorem edge_atom {a : Atom} (h : mayAtom a = true) : Edge (atomT a):=by
 obtain ⟨hn,h0,h1⟩:=may_rel h
 unfold atomT
 rw [if_pos h]
 have e:=Edge.plain (name_ne hn) (name_plain hn)
 split
 ·exact e
 ·rename_i hz
  rw [show (((((a.name ++ [32,40]) ++ signT a.rel) ++ [32]) ++ a.ver) ++ [41] : List UInt8) = a.name ++ (([32,40] ++ signT a.rel ++ [32] ++ a.ver) ++ [41]) by simp]
  exact e.app ⟨⟨41,[],rfl,by decide⟩,⟨[],41,rfl,by decide⟩⟩
theorem sign_pr (r : Int) : ∀ c ∈ signT r,prB c = true:=by
 unfold signT
 repeat' split
 all_goals decide
theorem pr_atom {a : Atom} (h : mayAtom a = true) : ∀ c ∈ atomT a,prB c = true:=by
 obtain ⟨hn,h0,h1⟩:=may_rel h
 intro c hc
 unfold atomT at hc
 rw [if_pos h] at hc
 split at hc
 ·exact name_pr hn c hc
 ·rename_i hz
  simp only [List.mem_append,List.mem_cons,List.not_mem_nil,or_false] at hc
  rcases hc with (((((hc | hc | hc) | hc) | hc) | hc) | hc)
  ·exact name_pr hn c hc
  ·subst hc; decide
  ·subst hc; decide
  ·exact sign_pr _ c hc
  ·subst hc; decide
  ·exact ver_pr (h1 hz).2.2 c hc
  ·subst hc; decide
theorem edge_cl {c : Clause} (h : goodCl c = true) : Edge (clT c):=by
 obtain ⟨h1,h2,h3⟩:=good_cl h
 refine edge_join (by simpa using h1) fun x hx=>?_
 obtain ⟨a,ha,rfl⟩:=List.mem_map.1 hx
 exact edge_atom (h3 a ha)
theorem pr_cl {c : Clause} (h : goodCl c = true) : ∀ x ∈ clT c,prB x = true:=by
 obtain ⟨h1,h2,h3⟩:=good_cl h
 intro x hx
 rcases mem_join hx with hx | ⟨y,hy,hx⟩
 ·exact (by decide : ∀ x ∈ ([32,124,32] : List UInt8),prB x = true) x hx
 ·obtain ⟨a,ha,rfl⟩:=List.mem_map.1 hy
  exact pr_atom (h3 a ha) x hx
theorem edge_text {l : List Clause} (hne : l ≠ []) (h : l.length ≤ 12) (hg : ∀ c ∈ l,goodCl c = true) : Edge (textL l):=by
 rw [textL_ok h hg]
 refine edge_join (by simpa using hne) fun x hx=>?_
 obtain ⟨c,hc,rfl⟩:=List.mem_map.1 hx
 exact edge_cl (hg c hc)
theorem pr_text {l : List Clause} (h : l.length ≤ 12) (hg : ∀ c ∈ l,goodCl c = true) : ∀ x ∈ textL l,prB x = true:=by
 rw [textL_ok h hg]
 intro x hx
 rcases mem_join hx with hx | ⟨y,hy,hx⟩
 ·exact (by decide : ∀ x ∈ ([44,32] : List UInt8),prB x = true) x hx
 ·obtain ⟨c,hc,rfl⟩:=List.mem_map.1 hy
  exact pr_cl (hg c hc) x hx
theorem mayCl_good {l : List Clause} (h : mayCl l = 0) : l.length ≤ 12 ∧ ∀ c ∈ l,goodCl c = true:=by
 unfold mayCl at h
 split at h
 ·cases h
 rename_i h1
 split at h
 ·cases h
 rename_i h2
 refine ⟨by omega,fun c hc=>?_⟩
 have h3 : ¬ (6 < c.length):=fun h6=>h1 (.inr (List.any_eq_true.2 ⟨c,hc,by simpa using h6⟩))
 have h4 : ¬ ((decide (c.length = 0) || c.any fun a=>!mayAtom a) = true):=fun h6=>h2 (List.any_eq_true.2 ⟨c,hc,h6⟩)
 simp only [Bool.or_eq_true,decide_eq_true_eq,List.any_eq_true,Bool.not_eq_true',not_or,not_exists,not_and,Bool.not_eq_false] at h4
 simp only [goodCl,Bool.and_eq_true,decide_eq_true_eq,List.all_eq_true]
 exact ⟨⟨h4.1,by omega⟩,fun a ha=>h4.2 a ha⟩
theorem single_good {l : List Atom} (h : mayCl (single l) = 0) : l.length ≤ 12 ∧ ∀ a ∈ l,mayAtom a = true:=by
 obtain ⟨h1,h2⟩:=mayCl_good h
 refine ⟨by simpa [single] using h1,fun a ha=>?_⟩
 exact (good_cl (h2 [a] (List.mem_map.2 ⟨a,ha,rfl⟩))).2.2 a (by simp)
structure MayG (p : Pkg) : Prop where
 name : nameOk p.name = true
 ver : isVer p.ver = true
 pre : p.pre.length ≤ 12 ∧ ∀ c ∈ p.pre,goodCl c = true
 dep : p.dep.length ≤ 12 ∧ ∀ c ∈ p.dep,goodCl c = true
 rcm : p.rcm.length ≤ 12 ∧ ∀ c ∈ p.rcm,goodCl c = true
 con : p.con.length ≤ 12 ∧ ∀ a ∈ p.con,mayAtom a = true
 brk : p.brk.length ≤ 12 ∧ ∀ a ∈ p.brk,mayAtom a = true
 prov : p.prov.length ≤ 12 ∧ ∀ x ∈ p.prov,mayAtom (provAtom x) = true
theorem mayPkg_good {p : Pkg} (h : mayPkg p = 0) : MayG p:=by
 unfold mayPkg at h
 split at h
 ·cases h
 rename_i h1
 simp only [Bool.or_eq_true,Bool.not_eq_true',not_or,Bool.not_eq_false] at h1
 have h2:=orL_zero h
 obtain ⟨g1,g2⟩:=single_good (h2 (mayCl (single (p.prov.map provAtom))) (by simp))
 exact ⟨h1.1,h1.2,mayCl_good (h2 _ (by simp)),mayCl_good (h2 _ (by simp)),mayCl_good (h2 _ (by simp)),single_good (h2 _ (by simp)),single_good (h2 _ (by simp)),by simpa using g1,fun x hx=>g2 _ (List.mem_map.2 ⟨x,hx,rfl⟩)⟩
theorem fold_one {t : List UInt8} (h : Edge t) : foldT [t] = t:=by
 unfold foldT
 simp only [List.map_cons,List.map_nil,h.trim]
 rw [List.filter_cons_of_pos (by simpa using h.ne),List.filter_nil,Lib.join_one]
structure FitF (n t : List UInt8) (v : ValN) : Prop where
 edge : Edge t
 pr : ∀ c ∈ t,prB c = true
 read : readV n t = .ok v
theorem single_all {l : List Atom} (h : ∀ a ∈ l,mayAtom a = true) : ∀ c ∈ single l,goodCl c = true:=fun c hc=>by
 obtain ⟨a,ha,rfl⟩:=List.mem_map.1 hc
 exact good_one (h a ha)
theorem fit_cls {n : List UInt8} (hk : fkind n = 2) {l : List Clause} (hne : l ≠ []) (h : l.length ≤ 12 ∧ ∀ c ∈ l,goodCl c = true) : FitF n (textL l) (.cls l):=by
 refine ⟨edge_text hne h.1 h.2,pr_text h.1 h.2,?_⟩
 unfold readV
 rw [hk,cls_back h.1 h.2]
 rfl
theorem fit_ats {n : List UInt8} (hk : fkind n = 3) {l : List Atom} (hne : l ≠ []) (h : l.length ≤ 12 ∧ ∀ a ∈ l,mayAtom a = true) : FitF n (textA l) (.atoms l):=by
 refine ⟨edge_text (by simpa [single] using hne) (by simpa [single] using h.1) (single_all h.2),pr_text (by simpa [single] using h.1) (single_all h.2),?_⟩
 unfold readV
 rw [hk,ats_back (may:=anyOk) h.1 h.2 fun _ _=>rfl]
 simp only [single_flat,if_true]
theorem fit_prov {n : List UInt8} (hk : fkind n = 4) {l : List Prov} (hne : l ≠ []) (h : l.length ≤ 12 ∧ ∀ p ∈ l,mayAtom (provAtom p) = true) : FitF n (textP l) (.provs l):=by
 have h2 : ∀ a ∈ l.map provAtom,mayAtom a = true:=fun a ha=>by
  obtain ⟨p,hp,rfl⟩:=List.mem_map.1 ha
  exact h.2 p hp
 refine ⟨edge_text (by simpa [single] using hne) (by simpa [single] using h.1) (single_all h2),pr_text (by simpa [single] using h.1) (single_all h2),?_⟩
 obtain ⟨g1,g2⟩:=prov_back h.1 h.2
 unfold readV
 rw [hk,g1]
 simp only [g2,if_true]
theorem fit_name {s : List UInt8} (h : nameOk s = true) : FitF nPackage s (.text s) :=
 ⟨.plain (name_ne h) (name_plain h),name_pr h,by
  unfold readV
  rw [show fkind nPackage = 0 by decide]
  simp only [h,if_true]⟩
theorem fit_ver {s : List UInt8} (h : isVer s = true) : FitF nVersion s (.text s) :=
 ⟨.plain (ver_ne h) (ver_plain h),ver_pr h,by
  unfold readV
  rw [show fkind nVersion = 1 by decide]
  simp only [h,if_true]⟩
theorem fit_yes {n : List UInt8} (hk : fkind n = 5) : FitF n sYes (.yes true) :=
 ⟨.plain (by decide) (by decide),by decide,by
  unfold readV
  rw [hk]
  simp only [if_true]⟩
end Go.Av
end
section
namespace Go.Av
open Go.Proofs.Tryz
def nState : List UInt8:=[83,116,97,116,101]
def nHold : List UInt8:=[72,111,108,100]
def pkgNames : List (List UInt8):=[nPackage,nVersion,nEss,nPre,nDep,nRcm,nCon,nBrk,nProv]
def allNames : List (List UInt8):=pkgNames ++ [nState,nHold]
def addV (n : List UInt8) (v : ValN) : List (Fld × ValN):=if ((writeT v).2 && !((writeT v).1 == [])) = true then [(⟨n,[(writeT v).1]⟩,v)] else []
def vfsP (p : Pkg) : List (Fld × ValN) :=
 addV nPackage (.text p.name) ++ addV nVersion (.text p.ver) ++ (if p.ess = true then addV nEss (.yes true) else []) ++ addV nPre (.cls p.pre) ++ addV nDep (.cls p.dep) ++ addV nRcm (.cls p.rcm) ++ addV nCon (.atoms p.con) ++ addV nBrk (.atoms p.brk) ++ addV nProv (.provs p.prov)
theorem addV_fst (n : List UInt8) (v : ValN) : (addV n v).map (·.1) = (addF n v).map fun x=>(⟨x.1,[x.2]⟩ : Fld):=by
 unfold addV addF
 split <;> rfl
theorem vfsP_fst (p : Pkg) : (vfsP p).map (·.1) = (fldsP p).map fun x=>(⟨x.1,[x.2]⟩ : Fld):=by
 unfold vfsP fldsP
 simp only [List.map_append,addV_fst]
 split
 ·rw [addV_fst]
 ·rfl
structure FG (y : Fld × ValN) : Prop where
 fit : ∃ t,y.1.lines = [t] ∧ FitF y.1.name t y.2
 name : y.1.name ∈ allNames
theorem addV_fg {n : List UInt8} {v : ValN} (hn : n ∈ allNames) (h : addV n v = [] ∨ FitF n (writeT v).1 v) : ∀ y ∈ addV n v,FG y:=by
 intro y hy
 rcases h with h | h
 ·rw [h] at hy; cases hy
 ·unfold addV at hy
  split at hy
  ·rw [List.mem_singleton.1 hy]
   exact ⟨⟨_,rfl,h⟩,hn⟩
  ·cases hy
theorem addV_nil_cls (n : List UInt8) : addV n (.cls []) = []:=rfl
theorem addV_nil_ats (n : List UInt8) : addV n (.atoms []) = []:=rfl
theorem addV_nil_prov (n : List UInt8) : addV n (.provs []) = []:=rfl
theorem addV_cls {n : List UInt8} (hn : n ∈ allNames) (hk : fkind n = 2) {l : List Clause} (h : l.length ≤ 12 ∧ ∀ c ∈ l,goodCl c = true) : ∀ y ∈ addV n (.cls l),FG y:=by
 by_cases hl : l = []
 ·subst hl
  rw [addV_nil_cls]
  exact fun y hy=>by cases hy
 ·exact addV_fg hn (.inr (fit_cls hk hl h))
theorem addV_ats {n : List UInt8} (hn : n ∈ allNames) (hk : fkind n = 3) {l : List Atom} (h : l.length ≤ 12 ∧ ∀ a ∈ l,mayAtom a = true) : ∀ y ∈ addV n (.atoms l),FG y:=by
 by_cases hl : l = []
 ·subst hl
  rw [addV_nil_ats]
  exact fun y hy=>by cases hy
 ·exact addV_fg hn (.inr (fit_ats hk hl h))
theorem addV_prov {n : List UInt8} (hn : n ∈ allNames) (hk : fkind n = 4) {l : List Prov} (h : l.length ≤ 12 ∧ ∀ p ∈ l,mayAtom (provAtom p) = true) : ∀ y ∈ addV n (.provs l),FG y:=by
 by_cases hl : l = []
 ·subst hl
  rw [addV_nil_prov]
  exact fun y hy=>by cases hy
 ·exact addV_fg hn (.inr (fit_prov hk hl h))
theorem vfsP_fg {p : Pkg} (h : MayG p) : ∀ y ∈ vfsP p,FG y:=by
 intro y hy
 unfold vfsP at hy
 simp only [List.mem_append] at hy
 rcases hy with (((((((hy | hy) | hy) | hy) | hy) | hy) | hy) | hy) | hy
 ·exact addV_fg (by decide) (.inr (fit_name h.name)) y hy
 ·exact addV_fg (by decide) (.inr (fit_ver h.ver)) y hy
 ·split at hy
  ·exact addV_fg (by decide) (.inr (fit_yes (by decide))) y hy
  ·cases hy
 ·exact addV_cls (by decide) (by decide) h.pre y hy
 ·exact addV_cls (by decide) (by decide) h.dep y hy
 ·exact addV_cls (by decide) (by decide) h.rcm y hy
 ·exact addV_ats (by decide) (by decide) h.con y hy
 ·exact addV_ats (by decide) (by decide) h.brk y hy
 ·exact addV_prov (by decide) (by decide) h.prov y hy
theorem addV_names (n : List UInt8) (v : ValN) : List.Sublist ((addV n v).map fun y=>y.1.name) [n]:=by
 unfold addV
 split
 ·exact List.Sublist.refl _
 ·exact List.nil_sublist _
theorem vfsP_names (p : Pkg) : List.Sublist ((vfsP p).map fun y=>y.1.name) pkgNames:=by
 unfold vfsP
 simp only [List.map_append]
 have he : List.Sublist ((if p.ess = true then addV nEss (.yes true) else []).map fun y=>y.1.name) [nEss]:=by
  split
  ·exact addV_names _ _
  ·exact List.nil_sublist _
 exact ((((((((addV_names nPackage _).append (addV_names nVersion _)).append he).append (addV_names nPre _)).append (addV_names nDep _)).append (addV_names nRcm _)).append (addV_names nCon _)).append (addV_names nBrk _)).append (addV_names nProv _)
theorem allNames_ne : allNames.Pairwise fun a b=>sameT a b = false:=by decide
theorem pw_names {L : List (Fld × ValN)} (h : List.Sublist (L.map fun y=>y.1.name) allNames) : L.Pairwise fun y z=>sameT y.1.name z.1.name = false:=by
 have:=allNames_ne.sublist h
 rwa [List.pairwise_map] at this
theorem sameT_symm (a b : List UInt8) : sameT a b = sameT b a:=by
 unfold sameT
 exact decide_eq_decide.2 ⟨Eq.symm,Eq.symm⟩
theorem hasF_snoc (l : List Fld) (f : Fld) (n : List UInt8) : hasF (l ++ [f]) n = (hasF l n || sameT f.name n):=by
 unfold hasF
 rw [List.any_append,List.any_cons,List.any_nil,Bool.or_false]
theorem readF_vf {status : Bool} : ∀ {L : List (Fld × ValN)} {seen : List Fld} {b : Nat} {x : Acc},(∀ y ∈ L,readV y.1.name (foldT y.1.lines) = .ok y.2 ∧ badSt status y.1.name y.2 = false ∧ hasF seen y.1.name = false) → L.Pairwise (fun y z=>sameT y.1.name z.1.name = false) → readF status seen (L.map (·.1)) b x = .ok (L.foldl (fun x y=>putV y.1.name y.2 x) x)
 | [],_,_,_,_,_=>rfl
 | y :: L,seen,b,x,h,hp=>by
  obtain ⟨h1,h2,h3⟩:=h y (by simp)
  obtain ⟨p1,p2⟩:=List.pairwise_cons.1 hp
  rw [List.map_cons,readF,h1]
  simp only
  rw [if_neg (by rw [h2]; decide),if_neg (by rw [h3]; decide),readF_vf (fun z hz=>?_) p2]
  ·rfl
  ·obtain ⟨g1,g2,g3⟩:=h z (by simp [hz])
   exact ⟨g1,g2,by rw [hasF_snoc,g3,p1 z hz]; rfl⟩
def stepV (n : List UInt8) (v : ValN) (x : Acc) : Acc:=if ((writeT v).2 && !((writeT v).1 == [])) = true then putV n v x else x
theorem foldl_addV (n : List UInt8) (v : ValN) (x : Acc) : (addV n v).foldl (fun x y=>putV y.1.name y.2 x) x = stepV n v x:=by
 unfold addV stepV
 split <;> rfl
theorem foldr_addV (n : List UInt8) (v : ValN) (x : Acc) : (addV n v).foldr (fun y x=>putV y.1.name y.2 x) x = stepV n v x:=by
 unfold addV stepV
 split <;> rfl
theorem step_name {x : Acc} {s : List UInt8} (h : s ≠ []) : stepV nPackage (.text s) x = { x with ent:={ x.ent with pkg:={ x.ent.pkg with name:=s } },n:=true }:=by
 unfold stepV
 rw [if_pos (by simpa [writeT] using h)]
 unfold putV
 rw [if_pos (by decide)]
 rfl
theorem step_ver {x : Acc} {s : List UInt8} (h : s ≠ []) : stepV nVersion (.text s) x = { x with ent:={ x.ent with pkg:={ x.ent.pkg with ver:=s } },v:=true }:=by
 unfold stepV
 rw [if_pos (by simpa [writeT] using h)]
 unfold putV
 rw [if_neg (by decide),if_pos (by decide)]
 rfl
theorem step_ess {x : Acc} : stepV nEss (.yes true) x = { x with ent:={ x.ent with pkg:={ x.ent.pkg with ess:=true } } }:=by
 unfold stepV
 rw [if_pos (by decide)]
 unfold putV
 rw [if_neg (by decide),if_neg (by decide),if_neg (by decide),if_neg (by decide),if_neg (by decide),if_neg (by decide),if_neg (by decide),if_neg (by decide),if_pos (by decide)]
 rfl
theorem printed_of {t : List UInt8} {b : Bool} (h : t ≠ []) : ((t != [] || b) && !(t == [])) = true:=by
 simp [h]
theorem step_cls {n : List UInt8} {l : List Clause} {x : Acc} (h : l.length ≤ 12 ∧ ∀ c ∈ l,goodCl c = true) : stepV n (.cls l) x = putV n (.cls l) x ∨ (l = [] ∧ stepV n (.cls l) x = x):=by
 by_cases hl : l = []
 ·subst hl
  exact .inr ⟨rfl,rfl⟩
 ·left
  unfold stepV
  exact if_pos (printed_of (edge_text hl h.1 h.2).ne)
theorem step_ats {n : List UInt8} {l : List Atom} {x : Acc} (h : l.length ≤ 12 ∧ ∀ c ∈ l,mayAtom c = true) : stepV n (.atoms l) x = putV n (.atoms l) x ∨ (l = [] ∧ stepV n (.atoms l) x = x):=by
 by_cases hl : l = []
 ·subst hl
  exact .inr ⟨rfl,rfl⟩
 ·left
  unfold stepV
  exact if_pos (printed_of (fit_ats (n:=nCon) (by decide) hl h).edge.ne)
theorem step_provs {n : List UInt8} {l : List Prov} {x : Acc} (h : l.length ≤ 12 ∧ ∀ c ∈ l,mayAtom (provAtom c) = true) : stepV n (.provs l) x = putV n (.provs l) x ∨ (l = [] ∧ stepV n (.provs l) x = x):=by
 by_cases hl : l = []
 ·subst hl
  exact .inr ⟨rfl,rfl⟩
 ·left
  unfold stepV
  exact if_pos (printed_of (fit_prov (n:=nProv) (by decide) hl h).edge.ne)
theorem step_pre {x : Acc} {l : List Clause} (h : l.length ≤ 12 ∧ ∀ c ∈ l,goodCl c = true) (h0 : x.ent.pkg.pre = []) : stepV nPre (.cls l) x = { x with ent:={ x.ent with pkg:={ x.ent.pkg with pre:=l } } }:=by
 rcases step_cls (n:=nPre) (x:=x) h with e | ⟨rfl,e⟩
 ·rw [e]
  unfold putV
  rw [if_neg (by decide),if_neg (by decide),if_pos (by decide)]
  rfl
 ·rw [e,← h0]
theorem step_dep {x : Acc} {l : List Clause} (h : l.length ≤ 12 ∧ ∀ c ∈ l,goodCl c = true) (h0 : x.ent.pkg.dep = []) : stepV nDep (.cls l) x = { x with ent:={ x.ent with pkg:={ x.ent.pkg with dep:=l } } }:=by
 rcases step_cls (n:=nDep) (x:=x) h with e | ⟨rfl,e⟩
 ·rw [e]
  unfold putV
  rw [if_neg (by decide),if_neg (by decide),if_neg (by decide),if_pos (by decide)]
  rfl
 ·rw [e,← h0]
theorem step_rcm {x : Acc} {l : List Clause} (h : l.length ≤ 12 ∧ ∀ c ∈ l,goodCl c = true) (h0 : x.ent.pkg.rcm = []) : stepV nRcm (.cls l) x = { x with ent:={ x.ent with pkg:={ x.ent.pkg with rcm:=l } } }:=by
 rcases step_cls (n:=nRcm) (x:=x) h with e | ⟨rfl,e⟩
 ·rw [e]
  unfold putV
  rw [if_neg (by decide),if_neg (by decide),if_neg (by decide),if_neg (by decide),if_pos (by decide)]
  rfl
 ·rw [e,← h0]
theorem step_con {x : Acc} {l : List Atom} (h : l.length ≤ 12 ∧ ∀ c ∈ l,mayAtom c = true) (h0 : x.ent.pkg.con = []) : stepV nCon (.atoms l) x = { x with ent:={ x.ent with pkg:={ x.ent.pkg with con:=l } } }:=by
 rcases step_ats (n:=nCon) (x:=x) h with e | ⟨rfl,e⟩
 ·rw [e]
  unfold putV
  rw [if_neg (by decide),if_neg (by decide),if_neg (by decide),if_neg (by decide),if_neg (by decide),if_pos (by decide)]
  rfl
 ·rw [e,← h0]
theorem step_brk {x : Acc} {l : List Atom} (h : l.length ≤ 12 ∧ ∀ c ∈ l,mayAtom c = true) (h0 : x.ent.pkg.brk = []) : stepV nBrk (.atoms l) x = { x with ent:={ x.ent with pkg:={ x.ent.pkg with brk:=l } } }:=by
 rcases step_ats (n:=nBrk) (x:=x) h with e | ⟨rfl,e⟩
 ·rw [e]
  unfold putV
  rw [if_neg (by decide),if_neg (by decide),if_neg (by decide),if_neg (by decide),if_neg (by decide),if_neg (by decide),if_pos (by decide)]
  rfl
 ·rw [e,← h0]
theorem step_prov {x : Acc} {l : List Prov} (h : l.length ≤ 12 ∧ ∀ c ∈ l,mayAtom (provAtom c) = true) (h0 : x.ent.pkg.prov = []) : stepV nProv (.provs l) x = { x with ent:={ x.ent with pkg:={ x.ent.pkg with prov:=l } } }:=by
 rcases step_provs (n:=nProv) (x:=x) h with e | ⟨rfl,e⟩
 ·rw [e]
  unfold putV
  rw [if_neg (by decide),if_neg (by decide),if_neg (by decide),if_neg (by decide),if_neg (by decide),if_neg (by decide),if_neg (by decide),if_pos (by decide)]
  rfl
 ·rw [e,← h0]
def accP (p : Pkg) : Acc:=⟨⟨p,false,false⟩,true,true,false⟩
theorem foldl_pkg {p : Pkg} (h : MayG p) : (vfsP p).foldl (fun x y=>putV y.1.name y.2 x) acc0 = accP p:=by
 have hE : ∀ x : Acc,x.ent.pkg.ess = false → (if p.ess = true then addV nEss (.yes true) else []).foldl (fun x y=>putV y.1.name y.2 x) x = { x with ent:={ x.ent with pkg:={ x.ent.pkg with ess:=p.ess } } }:=fun x hx=>by
  by_cases he : p.ess = true
  ·rw [if_pos he,foldl_addV,step_ess,he]
  ·rw [if_neg he,List.foldl_nil,show p.ess = false by simpa using he,← hx]
 unfold vfsP
 simp only [List.foldl_append,foldl_addV]
 rw [step_name (name_ne h.name),step_ver (ver_ne h.ver),hE _ rfl,step_pre h.pre rfl,step_dep h.dep rfl,step_rcm h.rcm rfl,step_con h.con rfl,step_brk h.brk rfl,step_prov h.prov rfl]
 rfl
theorem foldr_pkg {p : Pkg} (h : MayG p) : (vfsP p).foldr (fun y x=>putV y.1.name y.2 x) acc0 = accP p:=by
 have hE : ∀ x : Acc,x.ent.pkg.ess = false → (if p.ess = true then addV nEss (.yes true) else []).foldr (fun y x=>putV y.1.name y.2 x) x = { x with ent:={ x.ent with pkg:={ x.ent.pkg with ess:=p.ess } } }:=fun x hx=>by
  by_cases he : p.ess = true
  ·rw [if_pos he,foldr_addV,step_ess,he]
  ·rw [if_neg he,List.foldr_nil,show p.ess = false by simpa using he,← hx]
 unfold vfsP
 simp only [List.foldr_append,foldr_addV]
 rw [step_prov h.prov rfl,step_brk h.brk rfl,step_con h.con rfl,step_rcm h.rcm rfl,step_dep h.dep rfl,step_pre h.pre rfl,hE _ rfl,step_ver (ver_ne h.ver),step_name (name_ne h.name)]
 rfl
theorem fg_read {y : Fld × ValN} (h : FG y) : readV y.1.name (foldT y.1.lines) = .ok y.2:=by
 obtain ⟨t,h1,h2⟩:=h.fit
 rw [h1,fold_one h2.edge]
 exact h2.read
theorem readE_pkg {p : Pkg} (h : MayG p) (ln : Int) : readE ⟨ln,(vfsP p).map (·.1)⟩ false = (⟨p,false,false⟩,(0,0)):=by
 have h1:=readF_vf (status:=false) (L:=vfsP p) (seen:=[]) (b:=0) (x:=acc0) (fun y hy=>⟨fg_read (vfsP_fg h y hy),rfl,rfl⟩) (pw_names ((vfsP_names p).trans (List.sublist_append_left _ _)))
 unfold readE
 simp only [h1,foldl_pkg h,accP]
 rw [if_neg (by simp)]
def nExtra : List UInt8:=[88,45,69,120,116,114,97]
theorem readE_turned {p : Pkg} (h : MayG p) (ln : Int) (ls : List (List UInt8)) : readE ⟨ln,((vfsP p).map (·.1)).reverse ++ [⟨nExtra,ls⟩]⟩ false = (⟨p,false,false⟩,(0,0)):=by
 have hL : ((vfsP p).map (·.1)).reverse ++ [⟨nExtra,ls⟩] = ((vfsP p).reverse ++ [((⟨nExtra,ls⟩ : Fld),ValN.text (foldT ls))]).map (·.1):=by
  rw [List.map_append,List.map_reverse]
  rfl
 have hpw : ((vfsP p).reverse ++ [((⟨nExtra,ls⟩ : Fld),ValN.text (foldT ls))]).Pairwise (fun y z=>sameT y.1.name z.1.name = false):=by
  refine List.pairwise_append.2 ⟨?_,List.pairwise_singleton _ _,fun y hy z hz=>?_⟩
  ·rw [List.pairwise_reverse]
   exact (pw_names ((vfsP_names p).trans (List.sublist_append_left _ _))).imp fun {a b} h=>by rw [sameT_symm]; exact h
  ·rw [List.mem_singleton.1 hz]
   exact (by decide : ∀ n ∈ allNames,sameT n nExtra = false) _ (vfsP_fg h y (List.mem_reverse.1 hy)).name
 have h1:=readF_vf (status:=false) (seen:=[]) (b:=0) (x:=acc0) (fun y hy=>by
  refine ⟨?_,rfl,rfl⟩
  rcases List.mem_append.1 hy with hy | hy
  ·exact fg_read (vfsP_fg h y (List.mem_reverse.1 hy))
  ·rw [List.mem_singleton.1 hy]
   unfold readV
   rw [show fkind nExtra = 7 by decide]
   rfl) hpw
 rw [hL]
 unfold readE
 simp only [h1,List.foldl_append,List.foldl_cons,List.foldl_nil,List.foldl_reverse,foldr_pkg h]
 have h2 : ∀ x,putV nExtra (ValN.text (foldT ls)) x = x:=fun x=>by
  unfold putV
  rw [if_neg (by decide),if_neg (by decide),if_neg (by decide),if_neg (by decide),if_neg (by decide),if_neg (by decide),if_neg (by decide),if_neg (by decide),if_neg (by decide),if_neg (by decide),if_neg (by decide)]
 rw [h2]
 simp only [accP]
 rw [if_neg (by simp)]
end Go.Av
end
section
namespace Go.Av
open Go.Proofs.Tryz
def lnF (f : Fld) : List UInt8:=lineP f.name 0 (f.lines.headD [])
theorem nm_facts : ∀ n ∈ allNames,n ≠ [] ∧ (∀ c ∈ n,clsB c = 0) ∧ (∀ c ∈ n,prB c = true) ∧ nameN n = n.length ∧ hashH n = false:=by decide
structure LnF (y : Fld × ValN) (t : List UInt8) : Prop where
 lines : y.1.lines = [t]
 edge : Edge t
 pr : ∀ c ∈ t,prB c = true
 name : y.1.name ∈ allNames
 line : lnF y.1 = y.1.name ++ 58 :: 32 :: t
theorem FG.ln {y : Fld × ValN} (h : FG y) : ∃ t,LnF y t:=by
 obtain ⟨t,h1,h2⟩:=h.fit
 refine ⟨t,h1,h2.edge,h2.pr,h.name,?_⟩
 unfold lnF lineP
 rw [h1]
 simp [h2.edge.ne]
theorem LnF.may {y : Fld × ValN} {t : List UInt8} (h : LnF y t) {ahead : List Fld} (ha : hasF ahead y.1.name = false) : mayFieldN y.1 ahead = if (lnF y.1).length ≤ 1000 then 0 else 2:=by
 obtain ⟨h1,h2,h3,h4,h5⟩:=nm_facts _ h.name
 have hl : y.1.name.length ≠ 0:=fun e=>h1 (List.length_eq_zero_iff.1 e)
 have ho : lineOk ((0 : Nat) : Int) t = true:=by
  unfold lineOk
  rw [goodT_pr h.pr,h.edge.trimE,h.edge.trim]
  simp
 unfold mayFieldN
 rw [h.lines]
 rw [if_neg,if_neg,if_neg (by rw [ha]; decide)]
 ·simp only [allIx,Bool.and_true,decide_eq_false_iff_not]
  have e : lineP y.1.name ((0 : Nat) : Int) t = lnF y.1:=by
   unfold lnF
   rw [h.lines]
   rfl
  rw [e]
  by_cases hg : (lnF y.1).length ≤ 1000
  ·rw [if_pos hg,if_neg (fun h=>h hg)]
  ·rw [if_neg hg,if_pos hg]
 ·simp only [allIx,Bool.and_true,ho]
  decide
 ·rw [h4]
  simp [hl]
structure SG (L : List (Fld × ValN)) : Prop where
 ne : L ≠ []
 len : L.length ≤ 40
 fg : ∀ y ∈ L,FG y
 pw : L.Pairwise fun y z=>sameT y.1.name z.1.name = false
theorem len_names {L : List (Fld × ValN)} (h : List.Sublist (L.map fun y=>y.1.name) allNames) : L.length ≤ 11:=by
 have:=h.length_le
 simpa [allNames,pkgNames] using this
theorem stanzaP_ok {p : Pkg} (h : mayPkg p = 0) : stanzaP p = ⟨0,(vfsP p).map (·.1)⟩:=by
 unfold stanzaP
 rw [if_neg (by rw [h]; decide),vfsP_fst]
def stanzaE (x : EntN) : Stz:=⟨(stanzaP x.pkg).line,((stanzaP x.pkg).fields ++ [⟨nState,[if x.conf = true then sConf else sUnp]⟩]) ++ (if x.hold = true then [⟨nHold,[sYes]⟩] else [])⟩
end Go.Av
end
section
namespace Go.Av
open Go.Proofs.Tryz
theorem textL_le (l : List Clause) : (textL l).length ≤ 5856:=by
 unfold textL
 split
 ·simp
 ·rename_i h
  exact joinC_len (by
   cases hg : l.all goodCl
   ·exact absurd (.inr hg) h
   ·rfl) (Nat.le_of_not_lt fun h12=>h (.inl h12))
end Go.Av
namespace Go.Proofs.Tryz
open Go Go.Av
set_option maxRecDepth 10000
variable {W0 : World}
end Go.Proofs.Tryz
end
section
namespace Go.Proofs.Tryz
open Go Go.Av
set_option maxRecDepth 10000
variable {W0 : World}
structure PSt (σ τ : Store) (n id : Nat) (v : AV) (ys : List AV) (w : AV) (zs : List AV) : Prop where
 c : τ[id]? = some (some (.cells 24 [.agg 24 [.int .i64 0,w]]))
 bw : Bld τ w 28 zs
 bv : Built σ τ v 24 ys
 fw : ∀ t ∈ foot w,n ≤ t
 fv : ∀ t ∈ foot v,t < n
 hn : σ.length ≤ n
 ni : n ≤ id
theorem PSt.add {σ τ τ' : Store} {n id : Nat} {v w w' : AV} {ys zs zs' : List AV} (h : PSt σ τ n id v ys w zs) (ha : App τ w 28 zs' w' τ') : τ'[id]? = some (some (.cells 24 [.agg 24 [.int .i64 0,w]])) ∧ NotM w' ∧ PSt σ (τ'.set id (some (.cells 24 [.agg 24 [.int .i64 0,w']]))) n id v ys w' zs':=by
 have hfr:=ha.fr
 have hlt:=(List.getElem?_eq_some_iff.1 h.c).1
 have c':=(hfr.old id hlt (h.bw.ne h.c (by simp))).trans h.c
 have hlt':=(List.getElem?_eq_some_iff.1 c').1
 have hn:=h.hn
 have hni:=h.ni
 refine ⟨c',ha.bld.notM,List.getElem?_set_self hlt',ha.bld.keep fun j hj=>List.getElem?_set_ne (by rintro rfl; exact ha.bld.ne c' (by simp) hj),⟨h.bv.bld.keep fun j hj=>?_,(hfr.toExt h.bv.ext fun j hj=>Nat.le_trans hn (h.fw j hj)).set (by omega) _,h.bv.tok⟩,fun t ht=>?_,h.fv,hn,hni⟩
 ·have h1:=h.fv j hj
  rw [List.getElem?_set_ne (by omega),hfr.old j (h.bv.bld.lt j hj) fun hm=>by have:=h.fw j hm; omega]
 ·rcases ha.foot h.bw t ht with h1 | h1
  ·exact h.fw t h1
  ·omega
def ElS (ys : List AV) (l : List EntN) : Prop:=∀ (j : Nat) (y : AV) (x : EntN),ys[j]? = some y → l[j]? = some x → Sub y (stzAV (stanzaE x))
theorem ElS.sub {ys : List AV} {l : List EntN} (h : ElS ys l) (hl : ys.length = l.length) : Sub (.sl 24 ys) (stzsAV (l.map stanzaE)):=by
 show Sub _ (.sl 24 ((l.map stanzaE).map stzAV))
 refine .sls (by simpa using hl) fun i x y hx hy=>?_
 rw [List.map_map,List.getElem?_map,Option.map_eq_some_iff] at hy
 obtain ⟨a,ha,rfl⟩:=hy
 exact h i x a hx ha
end Go.Proofs.Tryz
end
section
namespace Go.Av
open Go.Proofs.Tryz
theorem lightL9_liN : ∀ {i : Nat} {l : List Pkg},lightL9 i l = true → ∀ p ∈ l,LiN p.pre ∧ LiN p.dep ∧ LiN p.rcm
 | i,[],_,_,h=>by cases h
 | i,q :: r,h,p,hp=>by
  rw [lightL9,Bool.and_eq_true] at h
  rcases List.mem_cons.1 hp with rfl | hp
  ·have h1:=h.1
   unfold lightP9 at h1
   rw [Bool.and_eq_true] at h1
   have key : ∀ d ∈ [p.pre,p.dep,p.rcm],LiN d:=fun d hd=>by
    have h2:=List.all_eq_true.1 h1.2 d hd
    simp only [lightD9,Bool.and_eq_true,decide_eq_true_eq,List.all_eq_true] at h2
    exact ⟨by omega,fun c hc=>by have:=h2.2 c hc; omega⟩
   exact ⟨key _ (by simp),key _ (by simp),key _ (by simp)⟩
  ·exact lightL9_liN h.2 p hp
theorem lightL9_may {i : Nat} {l : List Pkg} (h : lightL9 i l = true) : ∀ p ∈ l,MayN p:=fun p hp=>by
 have:=lightL9_get h p hp
 exact ⟨by omega,by omega,by omega⟩
end Go.Av
namespace Go.Proofs.Tryz
open Go Go.Av
set_option maxRecDepth 10000
variable {W0 : World}
end Go.Proofs.Tryz
end
section
namespace Go.Av
open Go.Proofs.Tryz
def sMore : List UInt8:=[109,111,114,101]
theorem addV_txt {n : List UInt8} {v : ValN} (hv : (writeT v).1.length ≤ 5856) : ∀ y ∈ addV n v,∀ s ∈ y.1.lines,s.length ≤ 5856:=by
 intro y hy s hs
 unfold addV at hy
 split at hy
 ·rw [List.mem_singleton.1 hy] at hs
  rw [List.mem_singleton.1 hs]
  exact hv
 ·cases hy
theorem vfsP_txt {p : Pkg} (h : MayG p) : ∀ y ∈ vfsP p,∀ s ∈ y.1.lines,s.length ≤ 5856:=by
 intro y hy
 unfold vfsP at hy
 simp only [List.mem_append] at hy
 rcases hy with (((((((hy | hy) | hy) | hy) | hy) | hy) | hy) | hy) | hy
 ·refine addV_txt ?_ y hy
  exact Nat.le_trans (nameOk_len h.name) (by decide)
 ·refine addV_txt ?_ y hy
  exact Nat.le_trans (isVer_len h.ver) (by decide)
 ·split at hy
  ·exact addV_txt (by decide) y hy
  ·cases hy
 all_goals
  refine addV_txt ?_ y hy
  exact textL_le _
theorem wide_pkg {p : Pkg} (h : MayG p) : ∀ f ∈ (vfsP p).map (·.1),f.lines.length = 1 ∧ sumL f.lines + f.lines.length ≤ 140737488355328 ∧ (fkind f.name = 7 ∨ (foldT f.lines).length ≤ 1048574):=by
 intro f hf
 obtain ⟨y,hy,rfl⟩:=List.mem_map.1 hf
 have h2:=vfsP_txt h y hy
 obtain ⟨t,ht,_⟩:=(vfsP_fg h y hy).fit
 rw [ht] at h2 ⊢
 have h3:=h2 t (by simp)
 have h4:=foldT_len [t]
 have h5 : sumL [t] = t.length:=by simp [sumL]
 rw [h5] at h4 ⊢
 simp only [List.length_singleton] at h4 ⊢
 exact ⟨trivial,by omega,.inr (by omega)⟩
end Go.Av
namespace Go.Proofs.Tryz
open Go Go.Av
set_option maxRecDepth 10000
variable {W0 : World}
structure TSt (σ τ : Store) (w : AV) (zs : List AV) : Prop where
 c : τ[σ.length + 1]? = some (some (.cells 24 [.agg 24 [.int .i64 3,w]]))
 bw : Bld τ w 28 zs
 fw : ∀ t ∈ foot w,σ.length ≤ t
 ext : Ext σ τ
theorem TSt.add {σ τ τ' : Store} {w w' : AV} {zs zs' : List AV} (h : TSt σ τ w zs) (ha : App τ w 28 zs' w' τ') : τ'[σ.length + 1]? = some (some (.cells 24 [.agg 24 [.int .i64 3,w]])) ∧ NotM w' ∧ TSt σ (τ'.set (σ.length + 1) (some (.cells 24 [.agg 24 [.int .i64 3,w']]))) w' zs':=by
 have hfr:=ha.fr
 have hlt:=(List.getElem?_eq_some_iff.1 h.c).1
 have c':=(hfr.old _ hlt (h.bw.ne h.c (by simp))).trans h.c
 refine ⟨c',ha.bld.notM,List.getElem?_set_self (List.getElem?_eq_some_iff.1 c').1,ha.bld.keep fun j hj=>List.getElem?_set_ne (by rintro rfl; exact ha.bld.ne c' (by simp) hj),fun t ht=>?_,(hfr.toExt h.ext h.fw).set (by omega) _⟩
 rcases ha.foot h.bw t ht with h1 | h1
 ·exact h.fw t h1
 ·have:=h.ext.le; omega
theorem l9_turned (hW : TabsOk W0) (p : Pkg) (hpR : PkgR p) (extra : List UInt8) (hx : extra.length ≤ 140737488351232) : PureFn prog W0 7 [pkgAV p,.str extra] (.bool true):=by
 refine fn_pure [4] [2,5,9,10,11,12,41,43,49,2000052,4000010] func7 rfl rfl ntmps7 rfl rfl (.bool _) fun hs σ=>?_
 simp only [go_sem,simprocAttr,↓reduceIte]
 refine CallA.fn ((l9_light [p] (by simpa using hpR)).weak (.cons (.lit _ _) .nil)) ?_
 simp only [go_sem,simprocAttr,↓reduceIte]
 refine ⟨fun _=>CallA.fn (l9_awake hW) ?_,fun hb=>?_⟩
 ·simp only [go_sem,simprocAttr,↓reduceIte]
 have hb1 : lightL9 0 [p] = true:=by simpa using hb
 obtain ⟨k1,k2,k3⟩:=lightL9_liN hb1 p (by simp)
 have km:=lightL9_may hb1 p (by simp)
 refine CallA.fn (re_stanza p km k1 k2 k3) ?_
 simp only [go_sem,simprocAttr,↓reduceIte,stzAV,fldsAV,List.length_map]
 refine ⟨fun he=>?_,fun he=>?_⟩
 ·have he : mayPkg p ≠ 0:=by simpa using he
  have e : (stanzaP p).fields.length = 0:=by
   unfold stanzaP
   rw [if_pos he]
   rfl
  rw [e]
  simp only [go_sem,simprocAttr,↓reduceIte]
  refine CallP.fnG (fun _=>l9_awake hW) ?_
  simp only [go_sem,simprocAttr,↓reduceIte]
 have he : mayPkg p = 0:=by simpa using he
 have hg:=mayPkg_good he
 rw [stanzaP_ok he]
 generalize hfs : (vfsP p).map (·.1) = fs
 simp only [go_sem,simprocAttr,↓reduceIte,List.length_map]
 have hfl : fs.length ≤ 11:=by
  rw [← hfs,List.length_map]
  exact len_names ((vfsP_names p).trans (List.sublist_append_left _ [nState,nHold]))
 refine LoopVC.at [1,2,5,7] (.of (by kernel_rfl)) (fun A=>∃ w,TSt σ A.st w (fs.reverse.map fldAV)) ?_ fun B ⟨w,hT⟩=>?_
 ·refine LoopVC.upto [1,2,5,7,35] (.of (by kernel_rfl)) fs.length (fun i A=>∃ w,A.env 36 = .int .i64 i ∧ TSt σ A.st w ((fs.reverse.take i).map fldAV)) 0 (Nat.zero_le _) ?_ fun i B hi ⟨w,h36,hT⟩=>?_
  ·simp only [go_sem,simprocAttr,↓reduceIte]
   exact ⟨.nils,by simp,.inl ⟨rfl,rfl⟩,by simp [foot],(Ext.refl _).app _⟩
  have hn:=hT.bw.notM
  have c:=hT.c
  simp only [go_sem,simprocAttr,↓reduceIte,h36,List.length_map]
  refine ⟨fun hc=>?_,fun hc=>?_⟩
  ·have hw1 : IntKind.i64.wrap ((fs.length : Int) - 1) = ((fs.length - 1 : Nat) : Int):=by rw [wrap_in (by omega)]; omega
   have hw2 : IntKind.i64.wrap (((fs.length - 1 : Nat) : Int) - (i : Int)) = ((fs.length - 1 - i : Nat) : Int):=by rw [wrap_in (by omega)]; omega
   obtain ⟨f,hf⟩:=get_some (show fs.length - 1 - i < fs.length by omega)
   have hfr : fs.reverse[i]? = some f:=by rw [List.getElem?_reverse hc]; exact hf
   simp only [go_sem,simprocAttr,↓reduceIte,h36,List.length_map,look_id c,okM_notM hn,unm_notM hn,hw1,hw2,atV_map hf]
   have hk : okM none (fldAV f) = True:=eq_true trivial
   have hu : unm (fldAV f) = fldAV f:=rfl
   have hf2 : fitsB prog 28 (fldAV f) = true:=by kernel_rfl
   refine ⟨.of (by kernel_rfl),by omega,by rw [hk,hu,hf2]; exact ⟨trivial,rfl⟩,?_⟩
   rw [hu]
   refine AppA.ownS (σ:=B.st) (by simp only [go_sem,simprocAttr,↓reduceIte]) 1048576 (by kernel_rfl) hT.bw (.lit _ _ _) (by simp; omega) fun w2 τ2 ha=>?_
   obtain ⟨c2,n2,hT2⟩:=hT.add ha
   simp only [go_sem,simprocAttr,↓reduceIte,h36,look_id c2,setLook_id c2,okM_notM n2,unm_notM n2,ha.bld.fits]
   refine ⟨hc,w2,int_succ hc (by rw [maxLen_eq]; omega),?_⟩
   rw [take_succ_get hfr,List.map_append]
   exact hT2
  ·rw [List.take_of_length_le (by simpa using hc)] at hT
   exact ⟨w,hT⟩
 have hn:=hT.bw.notM
 have c:=hT.c
 simp only [go_sem,simprocAttr,↓reduceIte,look_id c,okM_notM hn,unm_notM hn]
 refine AppA.ownS (σ:=B.st) (by simp only [go_sem,simprocAttr,↓reduceIte]) 1048576 (by kernel_rfl) hT.bw (.lit _ _ _) (by simp; omega) fun w2 τ2 ha=>?_
 obtain ⟨c2,n2,hT2⟩:=hT.add ha
 have hlt:=(List.getElem?_eq_some_iff.1 c2).1
 simp only [go_sem,simprocAttr,↓reduceIte,look_id c2,setLook_id c2,look_set hlt,okM_notM n2,unm_notM n2,ha.bld.fits]
 have hTs : Sub (.agg 24 [.int .i64 3,w2]) (stzAV ⟨3,fs.reverse ++ [⟨nExtra,[extra,sMore]⟩]⟩):=by
  refine .agg rfl fun i a b ha hb=>?_
  match i,ha,hb with
  | 0,ha,hb=>cases ha; cases hb; exact .refl _
  | 1,ha,hb =>
   cases ha; cases hb
   refine (Bld.subS hT2.bw).trans ?_
   show Sub _ (.sl 28 (List.map fldAV _))
   rw [List.map_append]
   refine .sls (by simp) fun i x y hx hy=>?_
   by_cases hi : i < (fs.reverse.map fldAV).length
   ·rw [List.getElem?_append_left hi] at hx hy
    rw [hx] at hy
    cases hy
    exact .refl _
   ·have hl:=(List.getElem?_eq_some_iff.1 hx).1
    simp only [List.length_append,List.length_singleton] at hl
    obtain rfl : i = (fs.reverse.map fldAV).length:=by omega
    rw [List.getElem?_concat_length] at hx
    rw [List.map_singleton,List.getElem?_concat_length] at hy
    cases hx
    cases hy
    exact .agg rfl fun i a b ha hb=>by
     match i,ha,hb with
     | 0,ha,hb=>cases ha; cases hb; exact .refl _
     | 1,ha,hb=>cases ha; cases hb; exact .lit _ _
 have hwd:=wide_pkg hg
 rw [hfs] at hwd
 have hsum : ∀ l : List Fld,(∀ f ∈ l,f ∈ fs) → (l.map fun f=>f.lines.length).sum = l.length:=fun l=>by
  induction l with
  | nil=>intro _; rfl
  | cons f r ih =>
   intro h
   rw [List.map_cons,List.sum_cons,ih fun x hx=>h x (by simp [hx]),(hwd f (h f (by simp))).1,List.length_cons]
   omega
 have w1 : StzSmW ⟨3,fs.reverse ++ [⟨nExtra,[extra,sMore]⟩]⟩:=by
  refine ⟨(by decide : (-9223372036854775808 : Int) ≤ 3),by simp; omega,?_,fun f hf=>?_⟩
  ·show (List.map _ (fs.reverse ++ [(⟨nExtra,[extra,sMore]⟩ : Fld)])).sum ≤ _
   rw [List.map_append,List.sum_append,hsum _ fun f hf=>List.mem_reverse.1 hf]
   simp; omega
  ·rcases List.mem_append.1 hf with hf | hf
   ·exact (hwd f (List.mem_reverse.1 hf)).2
   ·rw [List.mem_singleton.1 hf]
    exact ⟨by simp [sumL,sMore]; omega,.inl (show fkind nExtra = 7 by decide)⟩
 have w0 : StzSmW ⟨0,fs⟩:=⟨(by decide : (-9223372036854775808 : Int) ≤ 0),by show fs.length ≤ _; omega,by show (fs.map _).sum ≤ _; rw [hsum fs fun f hf=>hf]; omega,fun f hf=>(hwd f hf).2⟩
 have r1:=readE_turned hg 3 [extra,sMore]
 have r0:=readE_pkg hg 0
 rw [hfs] at r1 r0
 refine CallA.fn ((re_of hW _ w1).weak (.cons (.sub hTs) .nil)) ?_
 rw [r1]
 have hfx : fitsB prog 33 (pkgX p) = true:=by unfold pkgX; kernel_rfl
 simp only [go_sem,simprocAttr,↓reduceIte,atAV,pkgX_okM,pkgX_unm,hfx]
 refine CallA.fn (re_of hW _ w0) ?_
 rw [r0]
 simp only [go_sem,simprocAttr,↓reduceIte,atAV,pkgX_okM,pkgX_unm,hfx]
 have hwk : Weak (pkgX p) (pkgAV p):=.sub (pkgX_sub _)
 have h1 : decide (p = p) = true:=decide_eq_true rfl
 refine CallP.fnG (fun _=>(r9_same p p).weak (.cons (.refl _) (.cons hwk .nil))) ?_
 rw [h1]
 simp only [go_sem,simprocAttr,↓reduceIte,pkgX_okM,pkgX_unm]
 refine CallP.fnG (fun _=>(r9_same p p).weak (.cons (.refl _) (.cons hwk .nil))) ?_
 rw [h1]
 simp only [go_sem,simprocAttr,↓reduceIte]
 refine CallP.fnG (fun _=>l9_awake hW) ?_
 simp only [go_sem,simprocAttr,↓reduceIte]
 exact (hT2.ext).app _
end Go.Proofs.Tryz
end
