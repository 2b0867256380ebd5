/- Texts that the last one of this claim rests on: a layer over the guide's own conditions for code; contracts of the functions that the law reaches, one by one. No conditions beside those of the given rows. -/
import Derived.WalkKit
import Derived.Lib.SliceRun
import Derived.Test.YtekjlnodoelblaaGreatDoorWai
import Derived.Test.YtekjlnodoelblaaGreatDoorWan
import Derived.Test.YtekjlnodoelblaaGreatDoorWau
import Derived.Test.YtekjlnodoelblaaGreatDoorWaw
import Derived.Test.YtekjlnodoelblaaGreatDoorWay
import Derived.Test.YtekjlnodoelblaaGreatDoorWaz
set_option linter.unusedSimpArgs false
set_option linter.unusedVariables false
section
namespace Go.Av
open Go
theorem ConvA.keep {P : Program} {A : AState} {s e : TypeId} {id off m : Nat} {xs : List AV} {dst : Option Nat} {k : AState → Prop} (hs : elT P s = some e) (he : intT P e = some .u8) (h0 : 0 < m) (hσ : A.st[id]? = some (some (.cells e xs))) (hm : off + m ≤ xs.length)
  (hk : k ((A.put dst (.sl e ((xs.drop off).take m))).withSt (A.st.set id none))) : ConvA P s s (.row e id off m) dst A k .mk:=.inr (.inr ⟨e,id,off,m,xs,rfl,⟨rfl,hs,he⟩,h0,hσ,hm,hk⟩)
end Go.Av
namespace Go.Proofs.Tryz
open Go Go.Av
set_option maxRecDepth 10000
variable {W0 : World}

theorem shape_at : eqShape prog 36 = some [1,1]:=by kernel_rfl
@[go_sem] theorem eqAt (a b c d : Int) : eqAgg prog 36 [.int .i64 a,.int .i64 b] [.int .i64 c,.int .i64 d] = some (a == c && b == d):=by
 simp only [eqAgg_K shape_at,eqKs,eqK1,if_true,Option.map_some,Option.bind_some,Bool.and_true]
theorem at0 (x : AV) (r : List AV) : atV (x :: r) 0 = x:=rfl
theorem l9_awake (hW : TabsOk W0) : PureFn prog W0 12 [] (.bool true):=by
 refine fn_pure [0] [2,4,5000006,5000007,5000012,5000013] func12 rfl rfl ntmps12 rfl rfl (.bool _) fun hs σ=>?_
 simp only [go_sem,simprocAttr,↓reduceIte]
 refine ConvA.keep (by kernel_rfl) (by kernel_rfl) (by decide) List.getElem?_concat_length (by simp) ?_
 simp only [go_sem,simprocAttr,↓reduceIte]
 refine CallA.fn (re_Packages hW awT1) ?_
 rw [aw9_1]
 simp only [go_sem,simprocAttr,↓reduceIte,pkgsAV,atAV]
 refine ConvA.keep (xs:=awT2.map byteAV) (by kernel_rfl) (by kernel_rfl) (by decide) (show (σ ++ [none,none,some (.cells 5 (awT2.map byteAV))])[σ.length + 2]? = _ by simp) (by simp [awT2]) ?_
 simp only [go_sem,simprocAttr,↓reduceIte]
 refine CallA.fn (re_Packages hW awT2) ?_
 rw [aw9_2]
 simp only [go_sem,simprocAttr,↓reduceIte,pkgsAV,atAV,pkgAV,clausesAV,at0,Option.map_some,Option.getD_some]
theorem ofT_bytes {n : Nat} {a : AV} (h : OfT prog (n + 2) 44 a) : ∃ b,a = bytesAV b:=by
 obtain ⟨l,rfl,_⟩:=ofT_map (f:=byteAV) (e:=5) (by kernel_rfl) (fun x h=>by
  obtain ⟨k,rfl,hk⟩:=ofT_int (k:=.u8) (by kernel_rfl) h
  have h2 : 0 ≤ k ∧ k < 256:=by
   simp [Lit.wf,IntKind.wrap] at hk
   have e1 : IntKind.u8.min = 0:=by decide
   have e2 : IntKind.u8.max = 255:=by decide
   omega
  exact ⟨UInt8.ofNat k.toNat,by show _ = AV.int _ _; congr 1; simp; omega⟩) h
 exact ⟨l,rfl⟩
end Go.Proofs.Tryz
end
section
namespace Go.Av
def textA (l : List Atom) : List UInt8:=textL (single l)
def textP (l : List Prov) : List UInt8:=textA (l.map provAtom)
end Go.Av
namespace Go.Proofs.Tryz
open Go Go.Av
set_option maxRecDepth 10000
variable {W0 : World}
theorem rl_atoms (l : List Atom) (hl : l.length ≤ 1048576) : PureFn prog W0 119 [atomsAV l] (.str (textA l)):=by
 refine fn_pure [2] [5] func119 rfl rfl ntmps119 rfl rfl (.str _) fun hs σ=>?_
 simp only [go_sem,simprocAttr,↓reduceIte,atomsAV]
 refine LoopVC.at [] (.of (by kernel_rfl)) (fun A=>∃ v,A.env 3 = v ∧ Built σ A.st v 85 (l.map clause1)) ?_ fun B ⟨v,h3,hb⟩=>?_
 ·refine LoopVC.upto [6,7] (.of (by kernel_rfl)) l.length (fun i A=>∃ v,A.env 3 = v ∧ A.env 8 = .int .i64 i ∧ Built σ A.st v 85 ((l.take i).map clause1)) 0 (Nat.zero_le _) ?_ fun i B hi ⟨v,h3,h8,hb⟩=>?_
  ·simp only [go_sem,simprocAttr,↓reduceIte]
   exact ⟨_,rfl,Built.nil (.refl _) _⟩
  simp only [go_sem,simprocAttr,↓reduceIte,h3,h8,hb.ok,hb.un,List.length_map]
  refine ⟨fun hc=>⟨hc,?_⟩,fun hc=>?_⟩
  ·obtain ⟨a,ha⟩:=get_some hc
   simp only [atV_map ha]
   simp only [go_sem,simprocAttr,↓reduceIte,atomAV,h3,h8,hb.ok,hb.un]
   refine AppA.own 1048576 (by kernel_rfl) (hb.more _).bld (.lit _ _ _) (by simp; omega) fun v' σ' ha'=>?_
   have hb':=(hb.more _).app ha'
   simp only [go_sem,simprocAttr,↓reduceIte,h3,h8,hb.ok,hb.un,hb'.ok,hb'.un]
   refine ⟨hc,_,rfl,int_succ hc (by rw [maxLen_eq]; omega),?_⟩
   rw [take_succ_get ha,List.map_append]
   exact hb'
  ·rw [List.take_of_length_le hc] at hb
   exact ⟨_,rfl,hb⟩
 simp only [go_sem,simprocAttr,↓reduceIte,h3,hb.ok,hb.un]
 refine CallA.fn ((rl_text (single l)).weak (.cons (hb.weak.trans (.sub (clauses_single l))) .nil)) ?_
 simp only [go_sem,simprocAttr,↓reduceIte]
 exact ⟨weak_str rfl,hb.ext⟩
theorem rl_provs (l : List Prov) (hl : l.length ≤ 1048576) : PureFn prog W0 120 [provsAV l] (.str (textP l)):=by
 refine fn_pure [2] [5] func120 rfl rfl ntmps120 rfl rfl (.str _) fun hs σ=>?_
 simp only [go_sem,simprocAttr,↓reduceIte,provsAV]
 refine LoopVC.at [] (.of (by kernel_rfl)) (fun A=>∃ v,A.env 3 = v ∧ Built σ A.st v 100 (l.map fun p=>atomAV (provAtom p))) ?_ fun B ⟨v,h3,hb⟩=>?_
 ·refine LoopVC.upto [7,8] (.of (by kernel_rfl)) l.length (fun i A=>∃ v,A.env 3 = v ∧ A.env 9 = .int .i64 i ∧ Built σ A.st v 100 ((l.take i).map fun p=>atomAV (provAtom p))) 0 (Nat.zero_le _) ?_ fun i B hi ⟨v,h3,h8,hb⟩=>?_
  ·simp only [go_sem,simprocAttr,↓reduceIte]
   exact ⟨_,rfl,Built.nil (.refl _) _⟩
  simp only [go_sem,simprocAttr,↓reduceIte,h3,h8,hb.ok,hb.un,List.length_map]
  refine ⟨fun hc=>⟨hc,?_⟩,fun hc=>?_⟩
  ·obtain ⟨a,ha⟩:=get_some hc
   simp only [atV_map ha]
   simp only [go_sem,simprocAttr,↓reduceIte,provAV,h3,h8,hb.ok,hb.un]
   refine JoinVC.at [3,6,7,8,9] (by kernel_rfl) (fun A=>A.st = B.st ++ [none,some (.cells 100 [atomAV (provAtom a)])]) (fun h=>?_) (fun h=>?_) fun A hst=>?_
   ·simp only [go_sem,simprocAttr,↓reduceIte,atomAV,provAtom]
    simp only [Bool.not_eq_true',beq_eq_false_iff_ne] at h
    rw [if_neg h]
   ·simp only [go_sem,simprocAttr,↓reduceIte,atomAV,provAtom]
    simp only [Bool.not_eq_false',beq_iff_eq] at h
    rw [if_pos h]
   have hb2 : Built σ A.st v 100 ((l.take i).map fun p=>atomAV (provAtom p)):=by rw [hst]; exact hb.more _
   simp only [go_sem,simprocAttr,↓reduceIte,h3,h8,hst,hb.ok,hb.un,atomAV]
   refine AppA.own 1048576 (by kernel_rfl) hb2.bld (.lit _ _ _) (by simp; omega) fun v' σ' ha'=>?_
   have hb':=hb2.app ha'
   simp only [go_sem,simprocAttr,↓reduceIte,h3,h8,hb.ok,hb.un,hb'.ok,hb'.un]
   refine ⟨hc,_,rfl,int_succ hc (by rw [maxLen_eq]; omega),?_⟩
   rw [take_succ_get ha,List.map_append]
   exact hb'
  ·rw [List.take_of_length_le hc] at hb
   exact ⟨_,rfl,hb⟩
 have hw : Weak v (atomsAV (l.map provAtom)):=by
  refine hb.weak.trans (.sub ?_)
  have:=atoms_map (l.map provAtom)
  rw [List.map_map] at this
  exact this
 simp only [go_sem,simprocAttr,↓reduceIte,h3,hb.ok,hb.un]
 refine CallA.fn ((rl_atoms (l.map provAtom) (by rw [List.length_map]; exact hl)).weak (.cons hw .nil)) ?_
 simp only [go_sem,simprocAttr,↓reduceIte]
 exact ⟨weak_str rfl,hb.ext⟩
end Go.Proofs.Tryz
end
section
namespace Go.Av
def wdsA (a : Atom) : List (List UInt8):=if a.rel = 0 then [a.name] else [a.name,[40],signT a.rel,a.ver,[41]]
theorem toks_plain {u r : List UInt8} {k : Nat} (h1 : k ≠ 1) (h2 : k ≠ 2) (hu : u ≠ []) (hk : ∀ c ∈ u,clsB c = k) (hr : ∀ c t,r = c :: t → clsB c ≠ k) : toks (u ++ r) = u :: toks r:=by
 cases u with
 | nil=>exact absurd rfl hu
 | cons c w =>
  have hc:=hk c (by simp)
  rw [List.cons_append,toks_go (by omega),hc,toksA_run h1 h2 (by simp) (fun x hx=>hk x (by simp [hx])) hr]
  rfl
theorem may_rel {a : Atom} (h : mayAtom a = true) : nameOk a.name = true ∧ (a.rel = 0 → a.ver = []) ∧ (a.rel ≠ 0 → 1 ≤ a.rel ∧ a.rel ≤ 5 ∧ isVer a.ver = true):=by
 unfold mayAtom at h
 rw [Bool.and_eq_true] at h
 refine ⟨h.1,fun h0=>?_,fun h0=>?_⟩
 ·have h2:=h.2
  rw [if_pos h0] at h2
  simpa using h2
 ·have h2:=h.2
  rw [if_neg h0] at h2
  simp only [Bool.and_eq_true,decide_eq_true_eq] at h2
  exact ⟨h2.1.1,h2.1.2,h2.2⟩
theorem rel_cases {r : Int} (h1 : 1 ≤ r) (h2 : r ≤ 5) : r = 1 ∨ r = 2 ∨ r = 3 ∨ r = 4 ∨ r = 5:=by omega
theorem sign_cls {r : Int} (h1 : 1 ≤ r) (h2 : r ≤ 5) : signT r ≠ [] ∧ (∀ c ∈ signT r,clsB c = 3) ∧ relT (signT r) = r:=by
 rcases rel_cases h1 h2 with rfl | rfl | rfl | rfl | rfl <;> decide
theorem toks_atom {a : Atom} (h : mayAtom a = true) {r : List UInt8} (hr : ∀ c t,r = c :: t → clsB c ≠ 0) : toks (atomT a ++ r) = wdsA a ++ toks r:=by
 obtain ⟨hn,h0,h1⟩:=may_rel h
 unfold atomT wdsA
 rw [if_pos h]
 by_cases hz : a.rel = 0
 ·rw [if_pos hz,if_pos hz,toks_plain (by omega) (by omega) (name_ne hn) (name_plain hn) hr]
  rfl
 ·rw [if_neg hz,if_neg hz]
  obtain ⟨g1,g2,g3⟩:=h1 hz
  obtain ⟨s1,s2,_⟩:=sign_cls g1 g2
  have e : (((((a.name ++ [32,40]) ++ signT a.rel) ++ [32]) ++ a.ver) ++ [41]) ++ r = a.name ++ (32 :: 40 :: (signT a.rel ++ (32 :: (a.ver ++ (41 :: r))))):=by simp
  rw [e,toks_plain (by omega) (by omega) (name_ne hn) (name_plain hn) (by rintro c t e; cases e; decide),toks_ws (by decide),toks_mark (by decide),toks_plain (k:=3) (by omega) (by omega) s1 s2 (by rintro c t e; cases e; decide),toks_ws (by decide),toks_plain (by omega) (by omega) (ver_ne g3) (ver_plain g3) (by rintro c t e; cases e; decide),toks_mark (by decide)]
  rfl
theorem atomW_wds {a : Atom} (h : mayAtom a = true) {l : List (List UInt8)} (hl : ∀ x u,l = x :: u → x ≠ [40]) : atomW (wdsA a ++ l) = some (a,l):=by
 obtain ⟨hn,h0,h1⟩:=may_rel h
 unfold wdsA
 by_cases hz : a.rel = 0
 ·have hv:=h0 hz
  obtain ⟨n,rl,v⟩:=a
  simp only at hz hv
  subst hz hv
  rw [if_pos rfl]
  cases l with
  | nil =>
   unfold atomW
   simp only [List.append_nil,wordW]
   exact if_pos h
  | cons x u =>
   unfold atomW
   simp only [List.cons_append,List.nil_append,wordW]
   rw [if_neg (hl x u rfl)]
   exact if_pos h
 ·rw [if_neg hz]
  obtain ⟨g1,g2,g3⟩:=h1 hz
  obtain ⟨_,_,s3⟩:=sign_cls g1 g2
  unfold atomW
  simp only [List.cons_append,List.nil_append,wordW,s3,if_neg hz,if_true]
  exact if_pos h
def wdsC : Clause → List (List UInt8)
 | []=>[]
 | a :: r=>match r with
  | []=>wdsA a
  | _ :: _=>wdsA a ++ [124] :: wdsC r
theorem joinL_two (x y : List UInt8) (l : List (List UInt8)) (sep : List UInt8) : joinL (x :: y :: l) sep = x ++ (sep ++ joinL (y :: l) sep):=by
 unfold joinL
 rw [Lib.join_cons,Lib.join_cons]
 simp [Lib.joinTail]
theorem toks_cl : ∀ {c : Clause} {r : List UInt8},c ≠ [] → (∀ a ∈ c,mayAtom a = true) → (∀ x t,r = x :: t → clsB x ≠ 0) → toks (clT c ++ r) = wdsC c ++ toks r
 | [],_,h,_,_=>absurd rfl h
 | [a],r,_,hm,hr=>by
  show toks (joinL [atomT a] _ ++ r) = _
  rw [joinL_one,toks_atom (hm a (by simp)) hr]
  rfl
 | a :: b :: t,r,_,hm,hr=>by
  have ih:=toks_cl (c:=b :: t) (r:=r) (by simp) (fun x hx=>hm x (by simp only [List.mem_cons] at hx ⊢; exact .inr hx)) hr
  show toks (joinL (atomT a :: atomT b :: t.map atomT) [32,124,32] ++ r) = _
  rw [joinL_two]
  have e : (atomT a ++ ([32,124,32] ++ joinL (atomT b :: t.map atomT) [32,124,32])) ++ r = atomT a ++ (32 :: 124 :: 32 :: (clT (b :: t) ++ r)):=by
   show _ = atomT a ++ (32 :: 124 :: 32 :: (joinL (atomT b :: t.map atomT) [32,124,32] ++ r))
   simp
  rw [e,toks_atom (hm a (by simp)) (by rintro c u e; cases e; decide),toks_ws (by decide),toks_mark (by decide),toks_ws (by decide),ih]
  simp [wdsC]
theorem clW_wds {f : Nat} : ∀ {c : Clause} {l : List (List UInt8)} {out : Clause},c ≠ [] → c.length ≤ f → (∀ a ∈ c,mayAtom a = true) → (l = [] ∨ ∃ u,l = [44] :: u) → clW anyOk false f (wdsC c ++ l) out = .ok (out ++ c,l):=by
 induction f with
 | zero =>
  intro c l out h hl _ _
  exact absurd (List.length_eq_zero_iff.1 (by omega)) h
 | succ f ih =>
  intro c l out h hl hm h44
  cases c with
  | nil=>exact absurd rfl h
  | cons a r =>
   have ha:=hm a (by simp)
   cases r with
   | nil =>
    show clW anyOk false (f + 1) (wdsA a ++ l) out = _
    rw [clW,atomW_wds ha (by rcases h44 with rfl | ⟨u,rfl⟩ <;> rintro x w e <;> cases e; decide)]
    simp only [anyOk,Bool.true_eq_false,if_false,Bool.false_eq_true]
    rcases h44 with rfl | ⟨u,rfl⟩
    ·rfl
    ·simp only
     rw [if_neg (by decide)]
   | cons b t =>
    have e : wdsC (a :: b :: t) ++ l = wdsA a ++ ([124] :: (wdsC (b :: t) ++ l)):=by simp [wdsC]
    rw [e,clW,atomW_wds ha (by rintro x w e; cases e; decide)]
    simp only [anyOk,Bool.true_eq_false,if_false,Bool.false_eq_true,if_true]
    rw [ih (c:=b :: t) (by simp) (by simpa using hl) (fun x hx=>hm x (by simp only [List.mem_cons] at hx ⊢; exact .inr hx)) h44]
    simp
theorem clW_one {may : Atom → Bool} {a : Atom} {l : List (List UInt8)} (ha : mayAtom a = true) (hm : may a = true) (h44 : l = [] ∨ ∃ u,l = [44] :: u) : clW may true 6 (wdsC [a] ++ l) [] = .ok ([a],l):=by
 show clW may true 6 (wdsA a ++ l) [] = _
 rw [clW,atomW_wds ha (by rcases h44 with rfl | ⟨u,rfl⟩ <;> rintro x w e <;> cases e; decide)]
 simp only [hm,Bool.true_eq_false,if_false,if_true,List.nil_append]
def wdsL : List Clause → List (List UInt8)
 | []=>[]
 | c :: r=>match r with
  | []=>wdsC c
  | _ :: _=>wdsC c ++ [44] :: wdsL r
theorem toks_cls2 : ∀ {l : List Clause},(∀ c ∈ l,c ≠ [] ∧ ∀ a ∈ c,mayAtom a = true) → toks (joinL (l.map clT) [44,32]) = wdsL l
 | [],_=>by rw [List.map_nil,joinL_nil,toks_nil]; rfl
 | [c],h=>by
  obtain ⟨h1,h2⟩:=h c (by simp)
  rw [List.map_cons,List.map_nil,joinL_one]
  have:=toks_cl (r:=[]) h1 h2 (by rintro x t e; cases e)
  rw [List.append_nil,toks_nil,List.append_nil] at this
  exact this
 | c :: d :: t,h=>by
  obtain ⟨h1,h2⟩:=h c (by simp)
  have ih:=toks_cls2 (l:=d :: t) fun x hx=>h x (by simp only [List.mem_cons] at hx ⊢; exact .inr hx)
  rw [List.map_cons,List.map_cons,joinL_two]
  rw [List.map_cons] at ih
  show toks (clT c ++ (44 :: 32 :: joinL (clT d :: t.map clT) [44,32])) = _
  rw [toks_cl h1 h2 (by rintro x u e; cases e; decide),toks_mark (by decide),toks_ws (by decide),ih]
  simp [wdsL]
theorem relLW_wds {may : Atom → Bool} {one : Bool} {f : Nat} : ∀ {l : List Clause} {out : List Clause},l ≠ [] → l.length ≤ f → (∀ c ∈ l,∀ m,(m = [] ∨ ∃ u,m = [44] :: u) → clW may one 6 (wdsC c ++ m) [] = .ok (c,m)) → relLW may one f (wdsL l) out = (out ++ l,0):=by
 induction f with
 | zero =>
  intro l out h hl _
  exact absurd (List.length_eq_zero_iff.1 (by omega)) h
 | succ f ih =>
  intro l out h hl H
  cases l with
  | nil=>exact absurd rfl h
  | cons c r =>
   cases r with
   | nil =>
    have h1:=H c (by simp) [] (.inl rfl)
    rw [List.append_nil] at h1
    show relLW may one (f + 1) (wdsC c) out = _
    rw [relLW,h1]
   | cons d t =>
    have h1:=H c (by simp) ([44] :: wdsL (d :: t)) (.inr ⟨_,rfl⟩)
    have e : wdsL (c :: d :: t) = wdsC c ++ [44] :: wdsL (d :: t):=by simp [wdsL]
    rw [e,relLW,h1]
    simp only [if_true]
    rw [ih (l:=d :: t) (by simp) (by simpa using hl) fun x hx=>H x (by simp only [List.mem_cons] at hx ⊢; exact .inr hx)]
    simp
theorem wdsA_ne (a : Atom) : wdsA a ≠ []:=by
 unfold wdsA
 split <;> simp
theorem wdsC_ne : ∀ {c : Clause},c ≠ [] → wdsC c ≠ []
 | [],h=>absurd rfl h
 | [a],_=>wdsA_ne a
 | a :: b :: t,_=>by simp [wdsC]
theorem wdsL_ne : ∀ {l : List Clause},l ≠ [] → (∀ c ∈ l,c ≠ []) → wdsL l ≠ []
 | [],h,_=>absurd rfl h
 | [c],_,h=>wdsC_ne (h c (by simp))
 | c :: d :: t,_,_=>by simp [wdsL]
theorem good_cl {c : Clause} (h : goodCl c = true) : c ≠ [] ∧ c.length ≤ 6 ∧ ∀ a ∈ c,mayAtom a = true:=by
 unfold goodCl at h
 simp only [Bool.and_eq_true,decide_eq_true_eq,List.all_eq_true] at h
 exact ⟨fun e=>h.1.1 (by rw [e]; rfl),h.1.2,h.2⟩
theorem textL_ok {l : List Clause} (h : l.length ≤ 12) (hg : ∀ c ∈ l,goodCl c = true) : textL l = joinL (l.map clT) [44,32]:=by
 unfold textL
 rw [if_neg]
 rintro (h1 | h1)
 ·omega
 ·obtain ⟨c,hc,h2⟩:=List.all_eq_false.1 h1
  exact h2 (hg c hc)
theorem rel_back {may : Atom → Bool} {one : Bool} {l : List Clause} (h : l.length ≤ 12) (hg : ∀ c ∈ l,goodCl c = true) (H : ∀ c ∈ l,∀ m,(m = [] ∨ ∃ u,m = [44] :: u) → clW may one 6 (wdsC c ++ m) [] = .ok (c,m)) : relP may one (textL l) = (l,0):=by
 rw [relP_eq,textL_ok h hg,toks_cls2 fun c hc=>⟨(good_cl (hg c hc)).1,(good_cl (hg c hc)).2.2⟩]
 unfold relPW
 cases l with
 | nil=>rfl
 | cons c r =>
  rw [if_neg (wdsL_ne (by simp) fun x hx=>(good_cl (hg x hx)).1),relLW_wds (by simp) h H]
  rfl
theorem cls_back {l : List Clause} (h : l.length ≤ 12) (hg : ∀ c ∈ l,goodCl c = true) : relP anyOk false (textL l) = (l,0) :=
 rel_back h hg fun c hc m hm=>by
  obtain ⟨h1,h2,h3⟩:=good_cl (hg c hc)
  have:=clW_wds (out:=[]) h1 h2 h3 hm
  rwa [List.nil_append] at this
theorem good_one {a : Atom} (h : mayAtom a = true) : goodCl [a] = true:=by simp [goodCl,h]
theorem ats_back {may : Atom → Bool} {l : List Atom} (h : l.length ≤ 12) (hm : ∀ a ∈ l,mayAtom a = true) (hmay : ∀ a ∈ l,may a = true) : relP may true (textA l) = (single l,0) :=
 rel_back (by simpa [single] using h) (fun c hc=>by
  obtain ⟨a,ha,rfl⟩:=List.mem_map.1 hc
  exact good_one (hm a ha)) fun c hc m h44=>by
  obtain ⟨a,ha,rfl⟩:=List.mem_map.1 hc
  exact clW_one (hm a ha) (hmay a ha) h44
theorem single_flat (l : List Atom) : (single l).flatten = l:=by
 unfold single
 induction l with
 | nil=>rfl
 | cons a r ih=>simp [ih]
theorem prov_back {l : List Prov} (h : l.length ≤ 12) (hm : ∀ p ∈ l,mayAtom (provAtom p) = true) : relP provOk true (textP l) = (single (l.map provAtom),0) ∧ (single (l.map provAtom)).map provOf = l:=by
 refine ⟨ats_back (by simpa using h) (fun a ha=>?_) fun a ha=>?_,?_⟩
 ·obtain ⟨p,hp,rfl⟩:=List.mem_map.1 ha
  exact hm p hp
 ·obtain ⟨p,hp,rfl⟩:=List.mem_map.1 ha
  unfold provOk provAtom
  simp only
  split <;> decide
 ·unfold single
  rw [List.map_map,List.map_map]
  have : ((provOf ∘ fun a=>[a]) ∘ provAtom) = id:=by
   funext p
   rfl
  rw [this,List.map_id]
end Go.Av
end
section
namespace Go.Proofs.Tryz
open Go Go.Av
set_option maxRecDepth 10000
variable {W0 : World}
theorem relEmpty (e : TypeId) (a : Option Addr) (cap : Nat) (h : cap ≤ maxLen) (w : World) (C : Ctx) : RelV prog w C (.sl e []) (.slice a 0 cap) :=
 .one rfl (Rel.sl (xs:=[]) (fun _=>[]) (Nat.zero_le _) h (fun i x h=>by simp at h) (fun i x h=>by simp at h) fun hn=>absurd hn (by simp))
theorem cl_atoms0 : PureFn prog W0 122 [atomsAV []] (atomsAV []):=by
 refine pure_below func122 (by kernel_rfl) (by kernel_rfl) fun w C vs hvl hv=>?_
 obtain _ | ⟨v1,_ | ⟨_,_⟩⟩:=vs <;> simp at hvl
 have h1:=(hv 0 _ _ rfl rfl).one_inv rfl
 cases h1
 rename_i a cap cf hc hm hr hz hs
 simp only [List.map_nil,List.length_nil] at hm
 show Calls _ _ #[Value.slice a 0 cap] _ _
 have q30 : ∀ (w : World) (a : Option Addr) (n c n' c' : Nat),(binOp .eql 30 (.slice a n c) (.slice none n' c')).run prog w = .ok (.bool a.isNone) w:=fun w a n c n' c'=>Lib.run_eql_slice_nil w _ _ a n c n' c' Tryz.underlying30
 clear hv hr hz hs
 cases a
 all_goals go_enter Tryz.func122,Tryz.ntmps122
 all_goals go_wp2
 all_goals go_ret
 ·exact ⟨_,rfl,relEmpty _ _ _ (Nat.zero_le _),RowKit.Below.refl _ w⟩
 ·exact ⟨_,rfl,relEmpty _ _ _ (Nat.zero_le _),(RowKit.Below.refl _ w).alloc (Nat.le_refl _) _⟩
theorem cl_provs0 : PureFn prog W0 123 [provsAV []] (provsAV []):=by
 refine pure_below func123 (by kernel_rfl) (by kernel_rfl) fun w C vs hvl hv=>?_
 obtain _ | ⟨v1,_ | ⟨_,_⟩⟩:=vs <;> simp at hvl
 have h1:=(hv 0 _ _ rfl rfl).one_inv rfl
 cases h1
 rename_i a cap cf hc hm hr hz hs
 simp only [List.map_nil,List.length_nil] at hm
 show Calls _ _ #[Value.slice a 0 cap] _ _
 have q30 : ∀ (w : World) (a : Option Addr) (n c n' c' : Nat),(binOp .eql 31 (.slice a n c) (.slice none n' c')).run prog w = .ok (.bool a.isNone) w:=fun w a n c n' c'=>Lib.run_eql_slice_nil w _ _ a n c n' c' Tryz.underlying31
 clear hv hr hz hs
 cases a
 all_goals go_enter Tryz.func123,Tryz.ntmps123
 all_goals go_wp2
 all_goals go_ret
 ·exact ⟨_,rfl,relEmpty _ _ _ (Nat.zero_le _),RowKit.Below.refl _ w⟩
 ·exact ⟨_,rfl,relEmpty _ _ _ (Nat.zero_le _),(RowKit.Below.refl _ w).alloc (Nat.le_refl _) _⟩
theorem cl_clause0 : PureFn prog W0 174 [atomsAV []] (atomsAV []):=by
 refine pure_below func174 (by kernel_rfl) (by kernel_rfl) fun w C vs hvl hv=>?_
 obtain _ | ⟨v1,_ | ⟨_,_⟩⟩:=vs <;> simp at hvl
 have h1:=(hv 0 _ _ rfl rfl).one_inv rfl
 cases h1
 rename_i a cap cf hc hm hr hz hs
 simp only [List.map_nil,List.length_nil] at hm
 show Calls _ _ #[Value.slice a 0 cap] _ _
 have q30 : ∀ (w : World) (a : Option Addr) (n c n' c' : Nat),(binOp .eql 85 (.slice a n c) (.slice none n' c')).run prog w = .ok (.bool a.isNone) w:=fun w a n c n' c'=>Lib.run_eql_slice_nil w _ _ a n c n' c' Tryz.underlying85
 clear hv hr hz hs
 cases a
 all_goals go_enter Tryz.func174,Tryz.ntmps174
 all_goals go_wp2
 all_goals go_ret
 ·exact ⟨_,rfl,relEmpty _ _ _ (Nat.zero_le _),RowKit.Below.refl _ w⟩
 ·exact ⟨_,rfl,relEmpty _ _ _ (Nat.zero_le _),(RowKit.Below.refl _ w).alloc (Nat.le_refl _) _⟩
theorem cl_atomsA (l : List Atom) (hl : l.length ≤ 1048576) : PureFn prog W0 122 [atomsAV l] (atomsAV l):=by
 cases l with
 | nil=>exact cl_atoms0
 | cons x c=>exact cl_atoms (x :: c) hl
theorem cl_provsA (l : List Prov) (hl : l.length ≤ 1048576) : PureFn prog W0 123 [provsAV l] (provsAV l):=by
 cases l with
 | nil=>exact cl_provs0
 | cons x c=>exact cl_provs (x :: c) hl
theorem cl_clauseA (l : List Atom) (hl : l.length ≤ 1048576) : PureFn prog W0 174 [atomsAV l] (atomsAV l):=by
 cases l with
 | nil=>exact cl_clause0
 | cons x c=>exact cl_clause (x :: c) hl
theorem va_ownA (l : List Clause) (hl : l.length ≤ 1048576) (hc : ∀ c ∈ l,c.length ≤ 1048576) : PureFn prog W0 121 [clausesAV l] (clausesAV l):=by
 refine fn_pure [2] [] func121 rfl rfl ntmps121 rfl rfl (ids_clauses _) fun hs σ=>?_
 simp only [go_sem,simprocAttr,↓reduceIte,clausesAV,List.length_map]
 refine LoopVC.at [6,7] (.of (by kernel_rfl)) (fun A=>∃ v,A.env 3 = v ∧ Built σ A.st v 85 (l.map atomsAV)) ?_ fun B ⟨v,h3,hb⟩=>?_
 ·refine LoopVC.upto [6,7] (.of (by kernel_rfl)) l.length (fun i A=>∃ v,A.env 3 = v ∧ A.env 8 = .int .i64 i ∧ Built σ A.st v 85 ((l.take i).map atomsAV)) 0 (Nat.zero_le _) ?_ fun i B hi ⟨v,h3,h8,hb⟩=>?_
  ·simp only [go_sem,simprocAttr,↓reduceIte]
   exact ⟨_,rfl,Built.nil (.refl _) _⟩
  simp only [go_sem,simprocAttr,↓reduceIte,h3,h8,hb.ok,hb.un,List.length_map]
  refine ⟨fun hlt=>⟨hlt,?_⟩,fun hlt=>?_⟩
  ·obtain ⟨c,ha⟩:=get_some hlt
   simp only [atV_map ha]
   simp only [go_sem,simprocAttr,↓reduceIte,atomsAV,h3,h8,hb.ok,hb.un]
   refine CallA.fn (cl_clauseA c (hc c (List.mem_of_getElem? ha))) ?_
   simp only [go_sem,simprocAttr,↓reduceIte,h3,h8,hb.ok,hb.un,atomsAV]
   refine AppA.own 1048576 (by kernel_rfl) hb.bld (.lit _ _ _) (by simp; omega) fun v' σ' ha'=>?_
   have hb':=hb.app ha'
   simp only [go_sem,simprocAttr,↓reduceIte,h3,h8,hb.ok,hb.un,hb'.ok,hb'.un]
   refine ⟨hlt,_,rfl,int_succ hlt (by rw [maxLen_eq]; omega),?_⟩
   rw [take_succ_get ha,List.map_append]
   exact hb'
  ·rw [List.take_of_length_le hlt] at hb
   exact ⟨_,rfl,hb⟩
 simp only [go_sem,simprocAttr,↓reduceIte,h3,hb.ok,hb.un]
 exact ⟨hb.weak,hb.ext⟩
def inW : ValN → AV
 | .text s=>.iface 9 (.str s)
 | .count n=>.iface 3 (.int .i64 n)
 | .yes b=>.iface 4 (.bool b)
 | .cls l=>.iface 29 (clausesAV l)
 | .atoms l=>.iface 30 (atomsAV l)
 | .provs l=>.iface 31 (provsAV l)
def valW (v : ValN) : AV:=.agg 104 [inW v]
theorem ids_valW (v : ValN) : IdsLt 0 (valW v):=.agg fun x hx=>by
 simp only [List.mem_singleton] at hx
 subst hx
 cases v with
 | text s=>exact .iface (.str _)
 | count n=>exact .iface (.int _ _)
 | yes b=>exact .iface (.bool _)
 | cls l=>exact .iface (ids_clauses _)
 | atoms l=>exact .iface (ids_atoms _)
 | provs l=>exact .iface (ids_provs _)
theorem va_ofClausesA (l : List Clause) (hl : l.length ≤ 1048576) (hc : ∀ c ∈ l,c.length ≤ 1048576) : PureFn prog W0 72 [clausesAV l] (valW (.cls l)):=by
 refine fn_pureM [.cell 2 104] [] func72 rfl rfl ntmps72 rfl rfl (ids_valW _) fun hs σ=>?_
 simp only [go_sem,simprocAttr,↓reduceIte]
 refine CallA.fn (va_ownA l hl hc) ?_
 simp only [go_sem,simprocAttr,↓reduceIte,clausesAV]
 refine EndM.ret ?_
 simp only [go_sem,simprocAttr,↓reduceIte]
 exact .refl _
theorem va_ofAtomsA (l : List Atom) (hl : l.length ≤ 1048576) : PureFn prog W0 73 [atomsAV l] (valW (.atoms l)):=by
 refine fn_pureM [.cell 2 104] [] func73 rfl rfl ntmps73 rfl rfl (ids_valW _) fun hs σ=>?_
 simp only [go_sem,simprocAttr,↓reduceIte]
 refine CallA.fn (cl_atomsA l hl) ?_
 simp only [go_sem,simprocAttr,↓reduceIte,atomsAV]
 refine EndM.ret ?_
 simp only [go_sem,simprocAttr,↓reduceIte]
 exact .refl _
theorem va_ofProvsA (l : List Prov) (hl : l.length ≤ 1048576) : PureFn prog W0 74 [provsAV l] (valW (.provs l)):=by
 refine fn_pureM [.cell 2 104] [] func74 rfl rfl ntmps74 rfl rfl (ids_valW _) fun hs σ=>?_
 simp only [go_sem,simprocAttr,↓reduceIte]
 refine CallA.fn (cl_provsA l hl) ?_
 simp only [go_sem,simprocAttr,↓reduceIte,provsAV]
 refine EndM.ret ?_
 simp only [go_sem,simprocAttr,↓reduceIte]
 exact .refl _
end Go.Proofs.Tryz
end
section
namespace Go.Av
def writeT : ValN → List UInt8 × Bool
 | .text s=>(s,true)
 | .count _=>([],true)
 | .yes b=>(if b = true then sYes else sNo,true)
 | .cls l=>(textL l,textL l != [] || l.length == 0)
 | .atoms l=>(textA l,textA l != [] || l.length == 0)
 | .provs l=>(textP l,textP l != [] || l.length == 0)
def ValN.fit : ValN → Prop
 | .count _=>False
 | .atoms l=>l.length ≤ 1048576
 | .provs l=>l.length ≤ 1048576
 | _=>True
end Go.Av
namespace Go.Proofs.Tryz
open Go Go.Av
set_option maxRecDepth 10000
variable {W0 : World}
theorem va_write (v : ValN) (hv : v.fit) : PureFn prog W0 69 [valW v] (.tup [.str (writeT v).1,.bool (writeT v).2]):=by
 refine fn_pure [2,3] [1] func69 rfl rfl ntmps69 rfl rfl (.tup2 (.str _) (.bool _)) fun hs σ=>?_
 cases v with
 | text s =>
  simp only [go_sem,simprocAttr,↓reduceIte,valW,inW]
  exact ⟨by simp,.refl _⟩
 | count n=>exact hv.elim
 | yes b =>
  simp only [go_sem,simprocAttr,↓reduceIte,valW,inW]
  refine ⟨by simp,by simp,by simp,fun h=>?_,fun h=>?_⟩
  ·subst h; exact .refl _
  ·subst h; exact .refl _
 | cls l =>
  simp only [go_sem,simprocAttr,↓reduceIte,valW,inW,clausesAV]
  refine ⟨by simp,by simp,by simp,by simp,CallA.fn (rl_text l) ?_⟩
  simp only [go_sem,simprocAttr,↓reduceIte,List.length_map]
  have e : ((l.length : Int) == 0) = (l.length == 0):=by rw [Bool.eq_iff_iff]; simp
  rw [e]
  exact .refl _
 | atoms l =>
  simp only [go_sem,simprocAttr,↓reduceIte,valW,inW,atomsAV]
  refine ⟨by simp,by simp,by simp,by simp,by simp,CallA.fn (rl_atoms l hv) ?_⟩
  simp only [go_sem,simprocAttr,↓reduceIte,List.length_map]
  have e : ((l.length : Int) == 0) = (l.length == 0):=by rw [Bool.eq_iff_iff]; simp
  rw [e]
  exact .refl _
 | provs l =>
  simp only [go_sem,simprocAttr,↓reduceIte,valW,inW,provsAV]
  refine ⟨by simp,by simp,by simp,by simp,by simp,by simp,CallA.fn (rl_provs l hv) ?_⟩
  simp only [go_sem,simprocAttr,↓reduceIte,List.length_map]
  have e : ((l.length : Int) == 0) = (l.length == 0):=by rw [Bool.eq_iff_iff]; simp
  rw [e]
  exact .refl _
end Go.Proofs.Tryz
end
section
namespace Go.Av
theorem Bld.subS {st : Store} {v : AV} {e : TypeId} {xs : List AV} (h : Bld st v e xs) : Sub v (.sl e xs):=by
 rcases h with ⟨rfl,rfl⟩ | rfl | ⟨t,rfl,_⟩
 ·exact .nils _
 ·exact .lit _ _
 ·exact .own _ _ _
theorem PureFn.ofCall {P : Program} {W0 : World} {f : FuncId} {args : List AV} {r : AV} (hr : IdsLt 0 r) (h : ∀ σ,ACall P W0 f args σ fun r' σ'=>Weak r' r ∧ Ext σ σ') : PureFn P W0 f args r:=fun σ w C vs hst hl hv =>
 (h σ w C vs hst hl hv).mono fun e w' ⟨v,r',σ',C',he,⟨hw,hx⟩,hs,hrv,hstep⟩=>by
  have hs2 : StRel P W0 w' (C'.upTo σ.length) σ:=by
   have:=hs.upTo (n:=σ.length) hx.le fun id te xs hid hss=>hst.ids (show σ[id]? = some (some (.cells te xs)) by
    have e:=congrArg (·[id]?) hx
    simp only [List.getElem?_take,if_pos hid] at e
    rw [← e]; exact hss)
   rwa [hx] at this
  exact ⟨v,r,σ,C'.upTo σ.length,he,⟨rfl,rfl⟩,hs2,(hrv.weak hw).upTo (idsLt_mono (Nat.zero_le _) hr),hstep.upTo (by rw [hst.nx]; exact Nat.le_refl _)⟩
end Go.Av
namespace Go.Proofs.Tryz
open Go Go.Av
set_option maxRecDepth 10000
variable {W0 : World}
def fldL (x : List UInt8 × List UInt8) : AV:=.agg 28 [.str x.1,.lit 9 [.str x.2]]
def addF (n : List UInt8) (v : ValN) : List (List UInt8 × List UInt8):=if ((writeT v).2 && !((writeT v).1 == [])) = true then [(n,(writeT v).1)] else []
theorem add_len (n : List UInt8) (v : ValN) : (addF n v).length ≤ 1:=by
 unfold addF
 split <;> simp
def stzO (w : AV) : Option SObj:=some (.cells 24 [.agg 24 [.int .i64 0,w]])
theorem re_add {σ : Store} {id : Nat} {w : AV} {l : List (List UInt8 × List UInt8)} (h : σ[id]? = some (stzO w)) (hb : Bld σ w 28 (l.map fldL)) (hl : l.length ≤ 1000) (n : List UInt8) (v : ValN) (hv : v.fit) :
  ACall prog W0 68 [.str n,valW v,.ptr 24 id 0 []] σ fun r σ'=>r = .tup [] ∧ ∃ w',σ'[id]? = some (stzO w') ∧ Bld σ' w' 28 ((l ++ addF n v).map fldL) ∧ Fr (id :: foot w) σ σ' ∧ ∀ t ∈ foot w',t ∈ foot w ∨ σ.length ≤ t:=by
 refine fn_callM [] [4] func68 rfl rfl ntmps68 rfl rfl fun hs=>?_
 have h' : σ[id]? = some (some (.cells 24 [.agg 24 [.int .i64 0,w]])):=h
 have hn:=hb.notM
 simp only [go_sem,simprocAttr,↓reduceIte,valW]
 have:=va_write (W0:=W0) v hv
 unfold valW at this
 refine CallA.fn this ?_
 simp only [go_sem,simprocAttr,↓reduceIte,look_id h',setLook_id h',okM_notM hn,unm_notM hn]
 have hid : id ∉ foot w:=hb.ne h' (by simp)
 have hlt:=(List.getElem?_eq_some_iff.1 h').1
 refine ⟨fun hc=>?_,fun hc=>?_⟩
 ·refine AppA.ownS (σ:=σ) (by simp only [go_sem,simprocAttr,↓reduceIte]) 1048576 (by kernel_rfl) hb (.lit _ _ _) (by simp; omega) fun w2 τ2 ha=>?_
  have e2 : τ2[id]? = some (some (.cells 24 [.agg 24 [.int .i64 0,w]])):=(ha.fr.old id hlt hid).trans h'
  have hb2 : Bld τ2 w2 28 ((l ++ addF n v).map fldL):=by
   unfold addF
   rw [if_pos hc,List.map_append]
   exact ha.bld
  have hn2:=hb2.notM
  have hid2 : id ∉ foot w2:=hb2.ne e2 (by simp)
  simp only [go_sem,simprocAttr,↓reduceIte,look_id e2,setLook_id e2,okM_notM hn2,unm_notM hn2,hb2.fits]
  refine EndM.normal ?_
  simp only [go_sem,simprocAttr,↓reduceIte]
  refine ⟨_,.refl _,?_,rfl,w2,List.getElem?_set_self (List.getElem?_eq_some_iff.1 e2).1,hb2.keep fun j hj=>List.getElem?_set_ne (by rintro rfl; exact hid2 hj),(ha.fr.mono fun j hj=>List.mem_cons_of_mem _ hj).set (.inl (List.mem_cons_self ..)) _,ha.foot hb⟩
  have:=ha.fr.len
  simpa using this
 ·refine EndM.normal ?_
  simp only [go_sem,simprocAttr,↓reduceIte]
  refine ⟨_,.refl _,rfl,w,h,?_,Fr.refl _ _,fun t ht=>.inl ht⟩
  unfold addF
  rw [if_neg (by rw [hc]; decide),List.append_nil]
  exact hb
def SI (σ τ : Store) (k m : Nat) (l : List (List UInt8 × List UInt8)) : Prop:=∃ w,τ[σ.length + k]? = some (stzO w) ∧ Bld τ w 28 (l.map fldL) ∧ (∀ t ∈ foot w,σ.length ≤ t) ∧ τ[σ.length]? = some (stzO .nils) ∧ Ext σ τ ∧ l.length ≤ m
theorem SI.add {σ τ : Store} {k m : Nat} {l : List (List UInt8 × List UInt8)} (h : SI σ τ k m l) (hk : 0 < k) (hm : m ≤ 1000) (n : List UInt8) (v : ValN) (hv : v.fit) :
  ACall prog W0 68 ([.str n,valW v] ++ [.ptr 24 (σ.length + k) 0 []]) τ fun r σ'=>r = .tup [] ∧ SI σ σ' k (m + 1) (l ++ addF n v):=by
 obtain ⟨w,h1,h2,h3,h4,h5,h6⟩:=h
 refine (re_add h1 h2 (by omega) n v hv).mono fun r σ' ⟨hr,w',g1,g2,g3,g4⟩=>⟨hr,w',g1,g2,fun t ht=>?_,?_,?_,?_⟩
 ·rcases g4 t ht with h | h
  ·exact h3 t h
  ·have:=h5.le; omega
 ·have hlt:=(List.getElem?_eq_some_iff.1 h4).1
  refine (g3.old _ hlt fun hm=>?_).trans h4
  rcases List.mem_cons.1 hm with e | hm
  ·omega
  ·exact absurd hm (h2.ne h4 (by simp))
 ·refine g3.toExt h5 fun j hj=>?_
  rcases List.mem_cons.1 hj with rfl | hj
  ·omega
  ·exact h3 j hj
 ·have:=add_len n v
  simp only [List.length_append]
  omega
def nPackage : List UInt8:=[80,97,99,107,97,103,101]
def nVersion : List UInt8:=[86,101,114,115,105,111,110]
def nEss : List UInt8:=[69,115,115,101,110,116,105,97,108]
def nPre : List UInt8:=[80,114,101,45,68,101,112,101,110,100,115]
def nDep : List UInt8:=[68,101,112,101,110,100,115]
def nRcm : List UInt8:=[82,101,99,111,109,109,101,110,100,115]
def nCon : List UInt8:=[67,111,110,102,108,105,99,116,115]
def nBrk : List UInt8:=[66,114,101,97,107,115]
def nProv : List UInt8:=[80,114,111,118,105,100,101,115]
def fldsP (p : Pkg) : List (List UInt8 × List UInt8) :=
 addF nPackage (.text p.name) ++ addF nVersion (.text p.ver) ++ (if p.ess = true then addF nEss (.yes true) else []) ++ addF nPre (.cls p.pre) ++ addF nDep (.cls p.dep) ++ addF nRcm (.cls p.rcm) ++ addF nCon (.atoms p.con) ++ addF nBrk (.atoms p.brk) ++ addF nProv (.provs p.prov)
def stanzaP (p : Pkg) : Stz:=if mayPkg p ≠ 0 then ⟨0,[]⟩ else ⟨0,(fldsP p).map fun x=>⟨x.1,[x.2]⟩⟩
structure LiN (l : List Clause) : Prop where
 len : l.length ≤ 1048576
 cl : ∀ c ∈ l,c.length ≤ 1048576
def StzR (g : List UInt8 × List UInt8 → AV) (p : Pkg) (σ : Store) (r : AV) (σ' : Store) : Prop:=∃ w,r = .tup [.agg 24 [.int .i64 0,w],.int .i64 (mayPkg p)] ∧ Bld σ' w 28 ((if mayPkg p ≠ 0 then [] else fldsP p).map g) ∧ (∀ t ∈ foot w,σ.length ≤ t) ∧ Ext σ σ'
theorem StzR.weak {g : List UInt8 × List UInt8 → AV} (hg : ∀ x,Sub (g x) (fldAV ⟨x.1,[x.2]⟩)) {p : Pkg} {σ σ' : Store} {r : AV} (h : StzR g p σ r σ') : Weak r (.tup [stzAV (stanzaP p),.int .i64 (mayPkg p)]) ∧ Ext σ σ':=by
 obtain ⟨w,rfl,hb,_,hx⟩:=h
 have hsub : Sub w (fldsAV (stanzaP p).fields):=by
  refine (Bld.subS hb).trans ?_
  have e : (stanzaP p).fields = (if mayPkg p ≠ 0 then [] else fldsP p).map fun x=>(⟨x.1,[x.2]⟩ : Fld):=by
   unfold stanzaP
   split <;> rfl
  rw [e]
  show Sub _ (.sl 28 (List.map fldAV _))
  rw [List.map_map]
  exact Sub.slmap _ fun x _=>hg x
 have el : (stanzaP p).line = 0:=by
  unfold stanzaP
  split <;> rfl
 refine ⟨weak_tup2 (.sub (.agg rfl fun i a b ha hb=>?_)) (.refl _),hx⟩
 match i,ha,hb with
 | 0,ha,hb=>cases ha; cases hb; rw [el]; exact .refl _
 | 1,ha,hb=>cases ha; cases hb; exact hsub
theorem re_stanzaO (p : Pkg) (hm : MayN p) (h2 : LiN p.pre) (h3 : LiN p.dep) (h4 : LiN p.rcm) (σ : Store) : ACall prog W0 31 [pkgAV p] σ fun r σ'=>StzR fldL p σ r σ':=by
 refine fn_callM [.cell 2 24,.tmp 3] [1] func31 rfl rfl ntmps31 rfl rfl fun hs=>?_
 simp only [go_sem,simprocAttr,↓reduceIte,pkgAV]
 refine CallA.fn (re_may p hm) ?_
 simp only [go_sem,simprocAttr,↓reduceIte]
 refine ⟨fun he=>?_,fun he=>?_⟩
 ·refine EndM.ret ?_
  simp only [go_sem,simprocAttr,↓reduceIte]
  exact ⟨_,.refl _,by simp,.nils,rfl,by rw [if_pos he]; exact .inl ⟨rfl,rfl⟩,by simp [foot],(Ext.refl _).app _⟩
 have S0 : SI σ (σ ++ [stzO .nils,stzO .nils]) 1 0 []:=⟨.nils,by simp,.inl ⟨rfl,rfl⟩,by simp [foot],by simp,(Ext.refl _).app _,Nat.le_refl _⟩
 refine CallA.fn (va_ofText p.name) ?_
 simp only [go_sem,simprocAttr,↓reduceIte,valAV,inV]
 refine CallA.go (σ:=σ ++ [stzO .nils,stzO .nils]) (by simp only [go_sem,simprocAttr,↓reduceIte]; rfl) (S0.add (by decide) (by decide) nPackage (.text p.name) trivial) fun r τ1 ⟨hr,S1⟩=>?_
 subst hr
 simp only [go_sem,simprocAttr,↓reduceIte]
 refine CallA.fn (va_ofText p.ver) ?_
 simp only [go_sem,simprocAttr,↓reduceIte,valAV,inV]
 refine CallA.go (σ:=τ1) (by simp only [go_sem,simprocAttr,↓reduceIte]) (S1.add (by decide) (by decide) nVersion (.text p.ver) trivial) fun r τ2 ⟨hr,S2⟩=>?_
 subst hr
 simp only [go_sem,simprocAttr,↓reduceIte]
 refine JoinVC.at [1,2,5,6,24] (by kernel_rfl) (fun A=>SI σ A.st 1 3 (addF nPackage (.text p.name) ++ addF nVersion (.text p.ver) ++ (if p.ess = true then addF nEss (.yes true) else []))) (fun h=>?_) (fun h=>?_) fun A S3=>?_
 ·simp only [go_sem,simprocAttr,↓reduceIte]
  refine CallA.fn (va_ofYes true) ?_
  simp only [go_sem,simprocAttr,↓reduceIte,valAV,inV]
  refine CallA.go (σ:=τ2) (by simp only [go_sem,simprocAttr,↓reduceIte]) (S2.add (by decide) (by decide) nEss (.yes true) trivial) fun r τ3 ⟨hr,S3⟩=>?_
  subst hr
  simp only [go_sem,simprocAttr,↓reduceIte]
  rw [if_pos h]
  simpa only [List.nil_append,List.append_assoc] using S3
 ·simp only [go_sem,simprocAttr,↓reduceIte]
  rw [if_neg (by rw [h]; decide),List.append_nil]
  obtain ⟨w,a1,a2,a3,a4,a5,a6⟩:=S2
  exact ⟨w,a1,a2,a3,a4,a5,by have:=a6; simp only [List.nil_append] at this ⊢; omega⟩
 generalize hT3 : A.st = τ3 at *
 simp only [go_sem,simprocAttr,↓reduceIte,hT3]
 refine CallA.fn (va_ofClausesA p.pre h2.len h2.cl) ?_
 simp only [go_sem,simprocAttr,↓reduceIte,valW,inW,hT3]
 refine CallA.go (σ:=τ3) (by simp only [go_sem,simprocAttr,↓reduceIte,hT3]) (S3.add (by decide) (by decide) nPre (.cls p.pre) trivial) fun r τ4 ⟨hr,S4⟩=>?_
 subst hr
 simp only [go_sem,simprocAttr,↓reduceIte,hT3]
 refine CallA.fn (va_ofClausesA p.dep h3.len h3.cl) ?_
 simp only [go_sem,simprocAttr,↓reduceIte,valW,inW,hT3]
 refine CallA.go (σ:=τ4) (by simp only [go_sem,simprocAttr,↓reduceIte,hT3]) (S4.add (by decide) (by decide) nDep (.cls p.dep) trivial) fun r τ5 ⟨hr,S5⟩=>?_
 subst hr
 simp only [go_sem,simprocAttr,↓reduceIte,hT3]
 refine CallA.fn (va_ofClausesA p.rcm h4.len h4.cl) ?_
 simp only [go_sem,simprocAttr,↓reduceIte,valW,inW,hT3]
 refine CallA.go (σ:=τ5) (by simp only [go_sem,simprocAttr,↓reduceIte,hT3]) (S5.add (by decide) (by decide) nRcm (.cls p.rcm) trivial) fun r τ6 ⟨hr,S6⟩=>?_
 subst hr
 simp only [go_sem,simprocAttr,↓reduceIte,hT3]
 refine CallA.fn (va_ofAtomsA p.con hm.con) ?_
 simp only [go_sem,simprocAttr,↓reduceIte,valW,inW,hT3]
 refine CallA.go (σ:=τ6) (by simp only [go_sem,simprocAttr,↓reduceIte,hT3]) (S6.add (by decide) (by decide) nCon (.atoms p.con) hm.con) fun r τ7 ⟨hr,S7⟩=>?_
 subst hr
 simp only [go_sem,simprocAttr,↓reduceIte,hT3]
 refine CallA.fn (va_ofAtomsA p.brk hm.brk) ?_
 simp only [go_sem,simprocAttr,↓reduceIte,valW,inW,hT3]
 refine CallA.go (σ:=τ7) (by simp only [go_sem,simprocAttr,↓reduceIte,hT3]) (S7.add (by decide) (by decide) nBrk (.atoms p.brk) hm.brk) fun r τ8 ⟨hr,S8⟩=>?_
 subst hr
 simp only [go_sem,simprocAttr,↓reduceIte,hT3]
 refine CallA.fn (va_ofProvsA p.prov hm.prov) ?_
 simp only [go_sem,simprocAttr,↓reduceIte,valW,inW,hT3]
 refine CallA.go (σ:=τ8) (by simp only [go_sem,simprocAttr,↓reduceIte,hT3]) (S8.add (by decide) (by decide) nProv (.provs p.prov) hm.prov) fun r τ9 ⟨hr,S9⟩=>?_
 subst hr
 obtain ⟨w,c1,b,ft,c0,ex,_⟩:=S9
 have c1' : τ9[σ.length + 1]? = some (some (.cells 24 [.agg 24 [.int .i64 0,w]])):=c1
 have c0' : τ9[σ.length]? = some (some (.cells 24 [.agg 24 [.int .i64 0,.nils]])):=c0
 have hn:=b.notM
 have hlt:=(List.getElem?_eq_some_iff.1 c0').1
 have hf : fitsB prog 24 (.agg 24 [.int .i64 0,w]) = true:=by kernel_rfl
 simp only [go_sem,simprocAttr,↓reduceIte,hT3,look_id c1',look_id c0',setLook_id c0',okM_notM hn,unm_notM hn,hf]
 refine EndM.ret ?_
 simp only [go_sem,simprocAttr,↓reduceIte,look_set hlt,okM_notM hn,unm_notM hn]
 have hid : ∀ j ∈ foot w,j ≠ σ.length:=fun j hj e=>b.ne c0' (by simp) (e ▸ hj)
 exact ⟨_,.refl _,by have:=ex.le; simpa using this,w,by rw [he],by rw [if_neg (by rw [he]; decide)]; exact b.keep fun j hj=>List.getElem?_set_ne (hid j hj).symm,ft,ex.set (Nat.le_refl _) _⟩
theorem fldL_sub (x : List UInt8 × List UInt8) : Sub (fldL x) (fldAV ⟨x.1,[x.2]⟩):=.agg rfl fun i a b ha hb=>by
 match i,ha,hb with
 | 0,ha,hb=>cases ha; cases hb; exact .refl _
 | 1,ha,hb=>cases ha; cases hb; exact .lit _ _
theorem re_stanza (p : Pkg) (hm : MayN p) (h2 : LiN p.pre) (h3 : LiN p.dep) (h4 : LiN p.rcm) : PureFn prog W0 31 [pkgAV p] (.tup [stzAV (stanzaP p),.int .i64 (mayPkg p)]) :=
 .ofCall (.tup2 (ids_stz _ _) (.int _ _)) fun σ=>(re_stanzaO p hm h2 h3 h4 σ).mono fun _ _ h=>h.weak fldL_sub
end Go.Proofs.Tryz
end
section
namespace Go.Av
def lineP (n : List UInt8) (k : Int) (s : List UInt8) : List UInt8 :=
 if 0 < k ∧ s = [] then [32,46] else if 0 < k then 32 :: s else if s = [] then n ++ [58] else n ++ [58,32] ++ s
end Go.Av
namespace Go.Proofs.Tryz
open Go Go.Av
set_option maxRecDepth 10000
variable {W0 : World}
theorem sz_printed (f : Fld) (k : Int) (s : List UInt8) (h : f.name.length + s.length ≤ 16777216) : PureFn prog W0 126 [fldAV f,.int .i64 k,.str s] (.str (lineP f.name k s)):=by
 refine fn_pure [6] [3] func126 rfl rfl ntmps126 rfl rfl (.str _) fun hs σ=>?_
 have b1 : (1 + s.length ≤ maxLen) = True:=eq_true (by rw [maxLen_eq]; omega)
 have b2 : (f.name.length + 1 ≤ maxLen) = True:=eq_true (by rw [maxLen_eq]; omega)
 have b3 : (f.name.length + 2 ≤ maxLen) = True:=eq_true (by rw [maxLen_eq]; omega)
 have b4 : ((f.name ++ [58,32]).length + s.length ≤ maxLen) = True:=eq_true (by rw [maxLen_eq]; simp; omega)
 have b5 : (f.name.length + (1 + 1) + s.length ≤ maxLen) = True:=eq_true (by rw [maxLen_eq]; omega)
 have b6 : (f.name.length + 2 + s.length ≤ maxLen) = True:=eq_true (by rw [maxLen_eq]; omega)
 simp only [go_sem,simprocAttr,↓reduceIte,fldAV,b1,b2,b3,b4,b5,b6]
 unfold lineP
 refine ⟨fun h=>?_,fun h=>⟨fun h1=>?_,fun h1=>⟨fun h2=>?_,fun h2=>?_⟩⟩⟩
 ·simp only [Bool.and_eq_true,decide_eq_true_eq,beq_iff_eq] at h
  rw [if_pos h]
  exact .refl _
 ·rw [if_neg (by simp_all),if_pos h1]
  exact .refl _
 ·rw [if_neg (by simp_all),if_neg h1,if_pos h2]
  exact .refl _
 ·rw [if_neg (by simp_all),if_neg h1,if_neg h2]
  exact weak_str (by simp)
end Go.Proofs.Tryz
end
section
namespace Go.Av
def lineOk (k : Int) (s : List UInt8) : Bool:=!(decide (0 ≤ goodT s) || !(trimE s == s) || (decide (0 < k) && s == [46])) && (decide (0 < k) || trimT s == s)
end Go.Av
namespace Go.Proofs.Tryz
open Go Go.Av
set_option maxRecDepth 10000
variable {W0 : World}
theorem sz_mayLine (hW : TabsOk W0) (k : Int) (s : List UInt8) : PureFn prog W0 176 [.int .i64 k,.str s] (.bool (lineOk k s)):=by
 refine fn_pure [4] [] func176 rfl rfl ntmps176 rfl rfl (.bool _) fun hs σ=>?_
 simp only [go_sem,simprocAttr,↓reduceIte]
 refine CallA.fn (tx_good hW s) ?_
 simp only [go_sem,simprocAttr,↓reduceIte]
 refine CallP.fnG (fun _=>sz_trimEnd s) ?_
 simp only [go_sem,simprocAttr,↓reduceIte]
 refine ⟨fun h=>weak_bool (by unfold lineOk; rw [h]; rfl),fun h=>?_⟩
 refine CallP.fnG (fun _=>tx_trim hW s) ?_
 simp only [go_sem,simprocAttr,↓reduceIte]
 exact weak_bool (by unfold lineOk; rw [h]; rfl)
theorem sz_has (fs : List Fld) (n : List UInt8) : PureFn prog W0 177 [fldsAV fs,.str n] (.bool (hasF fs n)):=by
 refine fn_pure [4] [6] func177 rfl rfl ntmps177 rfl rfl (.bool _) fun hs σ=>?_
 have hl:=(small_map (hs _ (List.mem_cons_self ..))).1
 simp only [go_sem,simprocAttr,↓reduceIte,fldsAV,List.length_map]
 refine LoopVC.upto [1,7,8] (.of (by kernel_rfl)) fs.length (fun i A=>A.env 9 = .int .i64 i ∧ Ext σ A.st ∧ hasF (fs.take i) n = false) 0 (Nat.zero_le _) ?_ fun i B hi ⟨h9,hst,hI⟩=>?_
 ·simp only [go_sem,simprocAttr,↓reduceIte]
  exact ⟨.refl _,rfl⟩
 simp only [go_sem,simprocAttr,↓reduceIte,h9,List.length_map]
 refine ⟨fun hc=>⟨hc,?_⟩,fun hc=>?_⟩
 ·obtain ⟨f,hf⟩:=get_some hc
  simp only [atV_map hf]
  simp only [go_sem,simprocAttr,↓reduceIte,fldAV,h9]
  refine CallA.fn (sz_same f.name n) ?_
  simp only [go_sem,simprocAttr,↓reduceIte,h9]
  have e : hasF (fs.take (i + 1)) n = (hasF (fs.take i) n || sameT f.name n):=by
   rw [take_succ_get hf]
   unfold hasF
   rw [List.any_append,List.any_cons,List.any_nil,Bool.or_false]
  refine ⟨fun hq=>⟨weak_bool ?_,hst.app _⟩,fun hq=>⟨hc,int_succ hc hl,hst.app _,by rw [e,hI,hq]; rfl⟩⟩
  unfold hasF
  exact (List.any_eq_true.2 ⟨f,List.mem_of_getElem? hf,hq⟩).symm
 ·rw [List.take_of_length_le hc] at hI
  exact ⟨weak_bool hI.symm,hst⟩
end Go.Proofs.Tryz
end
section
namespace Go.Av
def allIx {α : Type} (q : Nat → α → Bool) : Nat → List α → Bool
 | _,[]=>true
 | i,x :: r=>q i x && allIx q (i + 1) r
def mayFieldN (f : Fld) (ahead : List Fld) : Int :=
 if ((nameN f.name : Int) == 0 || (nameN f.name : Int) != (f.name.length : Int) || (f.lines.length : Int) == 0) = true then 3
 else if allIx (fun k s=>lineOk k s) 0 f.lines = false then 3
 else if hasF ahead f.name = true then 4
 else if allIx (fun k s=>decide ((lineP f.name k s).length ≤ 1000)) 0 f.lines = false then 2
 else 0
end Go.Av
namespace Go.Proofs.Tryz
open Go Go.Av
set_option maxRecDepth 10000
variable {W0 : World}
theorem sz_mayField (hW : TabsOk W0) (f : Fld) (ahead : List Fld) (hln : f.lines.length ≤ 1048576) (hsz : ∀ s ∈ f.lines,f.name.length + s.length ≤ 16777216) : PureFn prog W0 125 [fldAV f,fldsAV ahead] (.int .i64 (mayFieldN f ahead)):=by
 refine fn_pure [4] [2] func125 rfl rfl ntmps125 rfl rfl (.int _ _) fun hs σ=>?_
 simp only [go_sem,simprocAttr,↓reduceIte,fldAV]
 refine CallA.fn (sz_name f.name) ?_
 simp only [go_sem,simprocAttr,↓reduceIte,strsAV,List.length_map]
 refine ⟨fun h=>weak_int (by unfold mayFieldN; rw [if_pos h]),fun h=>?_⟩
 refine LoopVC.at [1,2] (.of (by kernel_rfl)) (fun A=>A.st = σ ∧ allIx (fun k s=>lineOk k s) 0 f.lines = true) ?_ fun B ⟨hst,h1⟩=>?_
 ·refine LoopVC.upto [1,2,29,30] (.of (by kernel_rfl)) f.lines.length (fun i A=>A.env 31 = .int .i64 i ∧ A.st = σ ∧ allIx (fun k s=>lineOk k s) 0 f.lines = allIx (fun k s=>lineOk k s) i (f.lines.drop i)) 0 (Nat.zero_le _) ?_ fun i B hi ⟨h31,hst,hI⟩=>?_
  ·simp only [go_sem,simprocAttr,↓reduceIte]
  simp only [go_sem,simprocAttr,↓reduceIte,h31,hst,List.length_map]
  refine ⟨fun hc=>⟨hc,?_⟩,fun hc=>?_⟩
  ·obtain ⟨s,hs1⟩:=get_some hc
   simp only [atV_map hs1]
   simp only [go_sem,simprocAttr,↓reduceIte,h31,hst]
   refine CallA.fn (sz_mayLine hW i s) ?_
   simp only [go_sem,simprocAttr,↓reduceIte,h31,hst]
   rw [List.drop_eq_getElem_cons hc,(List.getElem?_eq_some_iff.1 hs1).2,allIx] at hI
   refine ⟨fun hq=>weak_int ?_,fun hq=>⟨hc,int_succ hc (by rw [maxLen_eq]; omega),by rw [hI,hq,Bool.true_and]⟩⟩
   rw [hq,Bool.false_and] at hI
   unfold mayFieldN
   rw [if_neg (by rw [h]; decide),if_pos hI]
  ·rw [List.drop_of_length_le hc,allIx] at hI
   exact hI
 simp only [go_sem,simprocAttr,↓reduceIte,hst]
 refine CallA.fn (sz_has ahead f.name) ?_
 simp only [go_sem,simprocAttr,↓reduceIte,hst]
 refine ⟨fun h2=>weak_int (by unfold mayFieldN; rw [if_neg (by rw [h]; decide),if_neg (by rw [h1]; decide),if_pos h2]),fun h2=>?_⟩
 simp only [go_sem,simprocAttr,↓reduceIte,strsAV,List.length_map]
 refine LoopVC.upto [2,46,47] (.of (by kernel_rfl)) f.lines.length (fun i A=>A.env 48 = .int .i64 i ∧ A.st = σ ∧ allIx (fun k s=>decide ((lineP f.name k s).length ≤ 1000)) 0 f.lines = allIx (fun k s=>decide ((lineP f.name k s).length ≤ 1000)) i (f.lines.drop i)) 0 (Nat.zero_le _) ?_ fun i B hi ⟨h31,hst,hI⟩=>?_
 ·simp only [go_sem,simprocAttr,↓reduceIte]
  exact hst
 simp only [go_sem,simprocAttr,↓reduceIte,h31,hst,List.length_map]
 refine ⟨fun hc=>⟨hc,?_⟩,fun hc=>weak_int ?_⟩
 ·obtain ⟨s,hs1⟩:=get_some hc
  simp only [atV_map hs1]
  refine ⟨trivial,?_⟩
  refine CallA.fn (sz_printed f i s (hsz s (List.mem_of_getElem? hs1))) ?_
  simp only [go_sem,simprocAttr,↓reduceIte,h31,hst]
  rw [List.drop_eq_getElem_cons hc,(List.getElem?_eq_some_iff.1 hs1).2,allIx] at hI
  refine ⟨fun hq=>weak_int ?_,fun hq=>⟨hc,int_succ hc (by rw [maxLen_eq]; omega),?_⟩⟩
  ·rw [decide_eq_false (by omega),Bool.false_and] at hI
   unfold mayFieldN
   rw [if_neg (by rw [h]; decide),if_neg (by rw [h1]; decide),if_neg (by rw [h2]; decide),if_pos hI]
  ·rw [hI,decide_eq_true (by omega),Bool.true_and]
 ·rw [List.drop_of_length_le hc,allIx] at hI
  unfold mayFieldN
  rw [if_neg (by rw [h]; decide),if_neg (by rw [h1]; decide),if_neg (by rw [h2]; decide),if_neg (by rw [hI]; decide)]
end Go.Proofs.Tryz
end
section
namespace Go.Av
open Go.Proofs.Tryz
def prB (c : UInt8) : Bool:=decide (32 ≤ c.toNat) && decide (c.toNat ≤ 126)
theorem good_pr : ∀ (f : Nat) {s : List UInt8} (i : Nat),(∀ c ∈ s,prB c = true) → goodF f s i = -1
 | 0,_,_,_=>rfl
 | _ + 1,[],_,_=>rfl
 | f + 1,c :: r,i,h=>by
  have hc:=h c (by simp)
  simp only [prB,Bool.and_eq_true,decide_eq_true_eq] at hc
  have h1 : sizeT (c :: r) = 1:=sizeT_ascii (by omega)
  have h2 : badC c = false:=by
   unfold badC
   rw [decide_eq_false (by omega),decide_eq_false (show ¬ c.toNat = 127 by omega)]
   rfl
  rw [goodF,h1,h2,if_neg (by simp)]
  exact good_pr f _ fun x hx=>h x (by simpa using .inr hx)
theorem goodT_pr {s : List UInt8} (h : ∀ c ∈ s,prB c = true) : goodT s = -1:=good_pr _ _ h
theorem name_pr {w : List UInt8} (h : nameOk w = true) : ∀ c ∈ w,prB c = true:=by
 intro c hc
 obtain ⟨j,hj⟩:=List.mem_iff_getElem?.1 hc
 unfold nameOk at h
 rw [Bool.and_eq_true] at h
 have:=allIdxB_iff.1 h.2 j c hj
 simp [nameCh,smallC,digitC] at this
 simp only [prB,Bool.and_eq_true,decide_eq_true_eq]
 omega
theorem dig_pr {c : UInt8} (h : digitC c = true) : prB c = true:=by
 simp [digitC] at h
 simp only [prB,Bool.and_eq_true,decide_eq_true_eq]
 omega
theorem rev_pr {c : UInt8} (h : revCh c = true) : prB c = true:=by
 simp [revCh,letterC,smallC,digitC] at h
 simp only [prB,Bool.and_eq_true,decide_eq_true_eq]
 omega
theorem up_pr {c : UInt8} (h : upCh c = true) : prB c = true:=by
 simp [upCh,letterC,smallC,digitC] at h
 simp only [prB,Bool.and_eq_true,decide_eq_true_eq]
 omega
theorem ver_pr {w : List UInt8} (h : isVer w = true) : ∀ c ∈ w,prB c = true:=by
 intro c hc
 unfold isVer verP at h
 split at h
 ·cases h
 split at h
 ·cases h
 rename_i e t he
 split at h
 ·cases h
 rename_i u r hr
 split at h
 case isFalse=>cases h
 rename_i hg
 simp only [Bool.and_eq_true,List.all_eq_true] at hg
 obtain ⟨⟨g1,g2⟩,_⟩:=hg
 have hcu : c ∈ t → prB c = true:=fun ht=>by
  unfold revP at hr
  split at hr
  ·rename_i h0
   split at hr
   ·cases hr
   ·cases hr
    rcases mem_parts (lastOf 45 t).toNat ht with h1 | h1 | h1
    ·exact up_pr (g2 c h1)
    ·rcases lastOf_cases 45 t with ⟨h2,_⟩ | ⟨i,h2,h3,_⟩
     ·omega
     ·rw [h2,Int.toNat_natCast,h3] at h1
      cases h1
      decide
    ·exact rev_pr (g1 c h1)
  ·cases hr
   exact up_pr (g2 c ht)
 unfold epochP at he
 split at he
 ·rename_i h0
  simp only at he
  split at he
  ·rename_i hd
   cases he
   rcases mem_parts (firstOf 58 w).toNat hc with h1 | h1 | h1
   ·exact dig_pr (List.all_eq_true.1 hd.2.2 c h1)
   ·rcases firstOf_cases 58 w with ⟨h2,_⟩ | ⟨i,h2,h3,_⟩
    ·omega
    ·rw [h2,Int.toNat_natCast,h3] at h1
     cases h1
     decide
   ·exact hcu h1
  ·cases he
 ·cases he
  exact hcu hc
structure Edge (s : List UInt8) : Prop where
 hd : ∃ c t,s = c :: t ∧ clsB c ≠ 1
 tl : ∃ u c,s = u ++ [c] ∧ clsB c ≠ 1
theorem Edge.plain {s : List UInt8} (hne : s ≠ []) (h : ∀ c ∈ s,clsB c = 0) : Edge s:=by
 constructor
 ·cases s with
  | nil=>exact absurd rfl hne
  | cons c t=>exact ⟨c,t,rfl,by rw [h c (by simp)]; decide⟩
 ·rcases List.eq_nil_or_concat s with rfl | ⟨u,c,rfl⟩
  ·exact absurd rfl hne
  ·rw [List.concat_eq_append] at *
   exact ⟨u,c,rfl,by rw [h c (by simp)]; decide⟩
theorem Edge.ne {s : List UInt8} (h : Edge s) : s ≠ []:=by
 obtain ⟨c,t,rfl,_⟩:=h.hd
 simp
theorem Edge.app {s m t : List UInt8} (hs : Edge s) (ht : Edge t) : Edge (s ++ (m ++ t)):=by
 obtain ⟨c,a,rfl,h1⟩:=hs.hd
 obtain ⟨u,d,rfl,h2⟩:=ht.tl
 exact ⟨⟨c,a ++ (m ++ (u ++ [d])),rfl,h1⟩,⟨(c :: a) ++ (m ++ u),d,by simp,h2⟩⟩
theorem Edge.trimE {s : List UInt8} (h : Edge s) : trimE s = s:=by
 obtain ⟨u,c,rfl,h1⟩:=h.tl
 rw [trimE_snoc,if_neg (by simp [wsB,h1])]
theorem Edge.skip {s : List UInt8} (h : Edge s) : skipW s = s:=by
 obtain ⟨c,t,rfl,h1⟩:=h.hd
 exact skip_id h1
theorem Edge.trim {s : List UInt8} (h : Edge s) : trimT s = s:=by
 unfold trimT
 rw [h.skip,h.trimE]
theorem edge_join {sep : List UInt8} : ∀ {l : List (List UInt8)},l ≠ [] → (∀ x ∈ l,Edge x) → Edge (joinL l sep)
 | [],h,_=>absurd rfl h
 | [x],_,h=>by rw [joinL_one]; exact h x (by simp)
 | x :: y :: t,_,h=>by
  rw [joinL_two]
  exact (h x (by simp)).app (edge_join (by simp) fun z hz=>h z (by simp only [List.mem_cons] at hz ⊢; exact .inr hz))
theorem mem_join {sep : List UInt8} {c : UInt8} : ∀ {l : List (List UInt8)},c ∈ joinL l sep → c ∈ sep ∨ ∃ x ∈ l,c ∈ x
 | [],h=>by rw [joinL_nil] at h; cases h
 | [x],h=>by rw [joinL_one] at h; exact .inr ⟨x,by simp,h⟩
 | x :: y :: t,h=>by
  rw [joinL_two] at h
  rcases List.mem_append.1 h with h | h
  ·exact .inr ⟨x,by simp,h⟩
  ·rcases List.mem_append.1 h with h | h
   ·exact .inl h
   ·rcases mem_join h with h | ⟨z,hz,h⟩
    ·exact .inl h
    ·exact .inr ⟨z,by simp only [List.mem_cons] at hz ⊢; exact .inr hz,h⟩
theorem edge_atom {a : Atom} (h : mayAtom a = true) : Edge (atomT a):=by
 obtain ⟨hn,h0,h1⟩:=may_rel h
 unfold atomT
 rw [if_pos h]
 have e:=Edge.plain (name_ne hn) (name_plain hn)
 split
 ·exact e
 ·rename_i hz
  rw [show (((((a.name ++ [32,40]) ++ signT a.rel) ++ [32]) ++ a.ver) ++ [41] : List UInt8) = a.name ++ (([32,40] ++ signT a.rel ++ [32] ++ a.ver) ++ [41]) by simp]
  exact e.app ⟨⟨41,[],rfl,by decide⟩,⟨[],41,rfl,by decide⟩⟩
theorem sign_pr (r : Int) : ∀ c ∈ signT r,prB c = true:=by
 unfold signT
 repeat' split
 all_goals decide
theorem pr_atom {a : Atom} (h : mayAtom a = true) : ∀ c ∈ atomT a,prB c = true:=by
 obtain ⟨hn,h0,h1⟩:=may_rel h
 intro c hc
 unfold atomT at hc
 rw [if_pos h] at hc
 split at hc
 ·exact name_pr hn c hc
 ·rename_i hz
  simp only [List.mem_append,List.mem_cons,List.not_mem_nil,or_false] at hc
  rcases hc with (((((hc | hc | hc) | hc) | hc) | hc) | hc)
  ·exact name_pr hn c hc
  ·subst hc; decide
  ·subst hc; decide
  ·exact sign_pr _ c hc
  ·subst hc; decide
  ·exact ver_pr (h1 hz).2.2 c hc
  ·subst hc; decide
theorem edge_cl {c : Clause} (h : goodCl c = true) : Edge (clT c):=by
 obtain ⟨h1,h2,h3⟩:=good_cl h
 refine edge_join (by simpa using h1) fun x hx=>?_
 obtain ⟨a,ha,rfl⟩:=List.mem_map.1 hx
 exact edge_atom (h3 a ha)
theorem pr_cl {c : Clause} (h : goodCl c = true) : ∀ x ∈ clT c,prB x = true:=by
 obtain ⟨h1,h2,h3⟩:=good_cl h
 intro x hx
 rcases mem_join hx with hx | ⟨y,hy,hx⟩
 ·exact (by decide : ∀ x ∈ ([32,124,32] : List UInt8),prB x = true) x hx
 ·obtain ⟨a,ha,rfl⟩:=List.mem_map.1 hy
  exact pr_atom (h3 a ha) x hx
theorem edge_text {l : List Clause} (hne : l ≠ []) (h : l.length ≤ 12) (hg : ∀ c ∈ l,goodCl c = true) : Edge (textL l):=by
 rw [textL_ok h hg]
 refine edge_join (by simpa using hne) fun x hx=>?_
 obtain ⟨c,hc,rfl⟩:=List.mem_map.1 hx
 exact edge_cl (hg c hc)
theorem pr_text {l : List Clause} (h : l.length ≤ 12) (hg : ∀ c ∈ l,goodCl c = true) : ∀ x ∈ textL l,prB x = true:=by
 rw [textL_ok h hg]
 intro x hx
 rcases mem_join hx with hx | ⟨y,hy,hx⟩
 ·exact (by decide : ∀ x ∈ ([44,32] : List UInt8),prB x = true) x hx
 ·obtain ⟨c,hc,rfl⟩:=List.mem_map.1 hy
  exact pr_cl (hg c hc) x hx
theorem mayCl_good {l : List Clause} (h : mayCl l = 0) : l.length ≤ 12 ∧ ∀ c ∈ l,goodCl c = true:=by
 unfold mayCl at h
 split at h
 ·cases h
 rename_i h1
 split at h
 ·cases h
 rename_i h2
 refine ⟨by omega,fun c hc=>?_⟩
 have h3 : ¬ (6 < c.length):=fun h6=>h1 (.inr (List.any_eq_true.2 ⟨c,hc,by simpa using h6⟩))
 have h4 : ¬ ((decide (c.length = 0) || c.any fun a=>!mayAtom a) = true):=fun h6=>h2 (List.any_eq_true.2 ⟨c,hc,h6⟩)
 simp only [Bool.or_eq_true,decide_eq_true_eq,List.any_eq_true,Bool.not_eq_true',not_or,not_exists,not_and,Bool.not_eq_false] at h4
 simp only [goodCl,Bool.and_eq_true,decide_eq_true_eq,List.all_eq_true]
 exact ⟨⟨h4.1,by omega⟩,fun a ha=>h4.2 a ha⟩
theorem single_good {l : List Atom} (h : mayCl (single l) = 0) : l.length ≤ 12 ∧ ∀ a ∈ l,mayAtom a = true:=by
 obtain ⟨h1,h2⟩:=mayCl_good h
 refine ⟨by simpa [single] using h1,fun a ha=>?_⟩
 exact (good_cl (h2 [a] (List.mem_map.2 ⟨a,ha,rfl⟩))).2.2 a (by simp)
structure MayG (p : Pkg) : Prop where
 name : nameOk p.name = true
 ver : isVer p.ver = true
 pre : p.pre.length ≤ 12 ∧ ∀ c ∈ p.pre,goodCl c = true
 dep : p.dep.length ≤ 12 ∧ ∀ c ∈ p.dep,goodCl c = true
 rcm : p.rcm.length ≤ 12 ∧ ∀ c ∈ p.rcm,goodCl c = true
 con : p.con.length ≤ 12 ∧ ∀ a ∈ p.con,mayAtom a = true
 brk : p.brk.length ≤ 12 ∧ ∀ a ∈ p.brk,mayAtom a = true
 prov : p.prov.length ≤ 12 ∧ ∀ x ∈ p.prov,mayAtom (provAtom x) = true
theorem mayPkg_good {p : Pkg} (h : mayPkg p = 0) : MayG p:=by
 unfold mayPkg at h
 split at h
 ·cases h
 rename_i h1
 simp only [Bool.or_eq_true,Bool.not_eq_true',not_or,Bool.not_eq_false] at h1
 have h2:=orL_zero h
 obtain ⟨g1,g2⟩:=single_good (h2 (mayCl (single (p.prov.map provAtom))) (by simp))
 exact ⟨h1.1,h1.2,mayCl_good (h2 _ (by simp)),mayCl_good (h2 _ (by simp)),mayCl_good (h2 _ (by simp)),single_good (h2 _ (by simp)),single_good (h2 _ (by simp)),by simpa using g1,fun x hx=>g2 _ (List.mem_map.2 ⟨x,hx,rfl⟩)⟩
theorem fold_one {t : List UInt8} (h : Edge t) : foldT [t] = t:=by
 unfold foldT
 simp only [List.map_cons,List.map_nil,h.trim]
 rw [List.filter_cons_of_pos (by simpa using h.ne),List.filter_nil,Lib.join_one]
structure FitF (n t : List UInt8) (v : ValN) : Prop where
 edge : Edge t
 pr : ∀ c ∈ t,prB c = true
 read : readV n t = .ok v
theorem single_all {l : List Atom} (h : ∀ a ∈ l,mayAtom a = true) : ∀ c ∈ single l,goodCl c = true:=fun c hc=>by
 obtain ⟨a,ha,rfl⟩:=List.mem_map.1 hc
 exact good_one (h a ha)
theorem fit_cls {n : List UInt8} (hk : fkind n = 2) {l : List Clause} (hne : l ≠ []) (h : l.length ≤ 12 ∧ ∀ c ∈ l,goodCl c = true) : FitF n (textL l) (.cls l):=by
 refine ⟨edge_text hne h.1 h.2,pr_text h.1 h.2,?_⟩
 unfold readV
 rw [hk,cls_back h.1 h.2]
 rfl
theorem fit_ats {n : List UInt8} (hk : fkind n = 3) {l : List Atom} (hne : l ≠ []) (h : l.length ≤ 12 ∧ ∀ a ∈ l,mayAtom a = true) : FitF n (textA l) (.atoms l):=by
 refine ⟨edge_text (by simpa [single] using hne) (by simpa [single] using h.1) (single_all h.2),pr_text (by simpa [single] using h.1) (single_all h.2),?_⟩
 unfold readV
 rw [hk,ats_back (may:=anyOk) h.1 h.2 fun _ _=>rfl]
 simp only [single_flat,if_true]
theorem fit_prov {n : List UInt8} (hk : fkind n = 4) {l : List Prov} (hne : l ≠ []) (h : l.length ≤ 12 ∧ ∀ p ∈ l,mayAtom (provAtom p) = true) : FitF n (textP l) (.provs l):=by
 have h2 : ∀ a ∈ l.map provAtom,mayAtom a = true:=fun a ha=>by
  obtain ⟨p,hp,rfl⟩:=List.mem_map.1 ha
  exact h.2 p hp
 refine ⟨edge_text (by simpa [single] using hne) (by simpa [single] using h.1) (single_all h2),pr_text (by simpa [single] using h.1) (single_all h2),?_⟩
 obtain ⟨g1,g2⟩:=prov_back h.1 h.2
 unfold readV
 rw [hk,g1]
 simp only [g2,if_true]
theorem fit_name {s : List UInt8} (h : nameOk s = true) : FitF nPackage s (.text s) :=
 ⟨.plain (name_ne h) (name_plain h),name_pr h,by
  unfold readV
  rw [show fkind nPackage = 0 by decide]
  simp only [h,if_true]⟩
theorem fit_ver {s : List UInt8} (h : isVer s = true) : FitF nVersion s (.text s) :=
 ⟨.plain (ver_ne h) (ver_plain h),ver_pr h,by
  unfold readV
  rw [show fkind nVersion = 1 by decide]
  simp only [h,if_true]⟩
theorem fit_yes {n : List UInt8} (hk : fkind n = 5) : FitF n sYes (.yes true) :=
 ⟨.plain (by decide) (by decide),by decide,by
  unfold readV
  rw [hk]
  simp only [if_true]⟩
end Go.Av
end
section
namespace Go.Av
open Go.Proofs.Tryz
def nState : List UInt8:=[83,116,97,116,101]
def nHold : List UInt8:=[72,111,108,100]
def pkgNames : List (List UInt8):=[nPackage,nVersion,nEss,nPre,nDep,nRcm,nCon,nBrk,nProv]
def allNames : List (List UInt8):=pkgNames ++ [nState,nHold]
def addV (n : List UInt8) (v : ValN) : List (Fld × ValN):=if ((writeT v).2 && !((writeT v).1 == [])) = true then [(⟨n,[(writeT v).1]⟩,v)] else []
def vfsP (p : Pkg) : List (Fld × ValN) :=
 addV nPackage (.text p.name) ++ addV nVersion (.text p.ver) ++ (if p.ess = true then addV nEss (.yes true) else []) ++ addV nPre (.cls p.pre) ++ addV nDep (.cls p.dep) ++ addV nRcm (.cls p.rcm) ++ addV nCon (.atoms p.con) ++ addV nBrk (.atoms p.brk) ++ addV nProv (.provs p.prov)
theorem addV_fst (n : List UInt8) (v : ValN) : (addV n v).map (·.1) = (addF n v).map fun x=>(⟨x.1,[x.2]⟩ : Fld):=by
 unfold addV addF
 split <;> rfl
theorem vfsP_fst (p : Pkg) : (vfsP p).map (·.1) = (fldsP p).map fun x=>(⟨x.1,[x.2]⟩ : Fld):=by
 unfold vfsP fldsP
 simp only [List.map_append,addV_fst]
 split
 ·rw [addV_fst]
 ·rfl
structure FG (y : Fld × ValN) : Prop where
 fit : ∃ t,y.1.lines = [t] ∧ FitF y.1.name t y.2
 name : y.1.name ∈ allNames
theorem addV_fg {n : List UInt8} {v : ValN} (hn : n ∈ allNames) (h : addV n v = [] ∨ FitF n (writeT v).1 v) : ∀ y ∈ addV n v,FG y:=by
 intro y hy
 rcases h with h | h
 ·rw [h] at hy; cases hy
 ·unfold addV at hy
  split at hy
  ·rw [List.mem_singleton.1 hy]
   exact ⟨⟨_,rfl,h⟩,hn⟩
  ·cases hy
theorem addV_nil_cls (n : List UInt8) : addV n (.cls []) = []:=rfl
theorem addV_nil_ats (n : List UInt8) : addV n (.atoms []) = []:=rfl
theorem addV_nil_prov (n : List UInt8) : addV n (.provs []) = []:=rfl
theorem addV_cls {n : List UInt8} (hn : n ∈ allNames) (hk : fkind n = 2) {l : List Clause} (h : l.length ≤ 12 ∧ ∀ c ∈ l,goodCl c = true) : ∀ y ∈ addV n (.cls l),FG y:=by
 by_cases hl : l = []
 ·subst hl
  rw [addV_nil_cls]
  exact fun y hy=>by cases hy
 ·exact addV_fg hn (.inr (fit_cls hk hl h))
theorem addV_ats {n : List UInt8} (hn : n ∈ allNames) (hk : fkind n = 3) {l : List Atom} (h : l.length ≤ 12 ∧ ∀ a ∈ l,mayAtom a = true) : ∀ y ∈ addV n (.atoms l),FG y:=by
 by_cases hl : l = []
 ·subst hl
  rw [addV_nil_ats]
  exact fun y hy=>by cases hy
 ·exact addV_fg hn (.inr (fit_ats hk hl h))
theorem addV_prov {n : List UInt8} (hn : n ∈ allNames) (hk : fkind n = 4) {l : List Prov} (h : l.length ≤ 12 ∧ ∀ p ∈ l,mayAtom (provAtom p) = true) : ∀ y ∈ addV n (.provs l),FG y:=by
 by_cases hl : l = []
 ·subst hl
  rw [addV_nil_prov]
  exact fun y hy=>by cases hy
 ·exact addV_fg hn (.inr (fit_prov hk hl h))
theorem vfsP_fg {p : Pkg} (h : MayG p) : ∀ y ∈ vfsP p,FG y:=by
 intro y hy
 unfold vfsP at hy
 simp only [List.mem_append] at hy
 rcases hy with (((((((hy | hy) | hy) | hy) | hy) | hy) | hy) | hy) | hy
 ·exact addV_fg (by decide) (.inr (fit_name h.name)) y hy
 ·exact addV_fg (by decide) (.inr (fit_ver h.ver)) y hy
 ·split at hy
  ·exact addV_fg (by decide) (.inr (fit_yes (by decide))) y hy
  ·cases hy
 ·exact addV_cls (by decide) (by decide) h.pre y hy
 ·exact addV_cls (by decide) (by decide) h.dep y hy
 ·exact addV_cls (by decide) (by decide) h.rcm y hy
 ·exact addV_ats (by decide) (by decide) h.con y hy
 ·exact addV_ats (by decide) (by decide) h.brk y hy
 ·exact addV_prov (by decide) (by decide) h.prov y hy
theorem addV_names (n : List UInt8) (v : ValN) : List.Sublist ((addV n v).map fun y=>y.1.name) [n]:=by
 unfold addV
 split
 ·exact List.Sublist.refl _
 ·exact List.nil_sublist _
theorem vfsP_names (p : Pkg) : List.Sublist ((vfsP p).map fun y=>y.1.name) pkgNames:=by
 unfold vfsP
 simp only [List.map_append]
 have he : List.Sublist ((if p.ess = true then addV nEss (.yes true) else []).map fun y=>y.1.name) [nEss]:=by
  split
  ·exact addV_names _ _
  ·exact List.nil_sublist _
 exact ((((((((addV_names nPackage _).append (addV_names nVersion _)).append he).append (addV_names nPre _)).append (addV_names nDep _)).append (addV_names nRcm _)).append (addV_names nCon _)).append (addV_names nBrk _)).append (addV_names nProv _)
theorem allNames_ne : allNames.Pairwise fun a b=>sameT a b = false:=by decide
theorem pw_names {L : List (Fld × ValN)} (h : List.Sublist (L.map fun y=>y.1.name) allNames) : L.Pairwise fun y z=>sameT y.1.name z.1.name = false:=by
 have:=allNames_ne.sublist h
 rwa [List.pairwise_map] at this
theorem hasF_snoc (l : List Fld) (f : Fld) (n : List UInt8) : hasF (l ++ [f]) n = (hasF l n || sameT f.name n):=by
 unfold hasF
 rw [List.any_append,List.any_cons,List.any_nil,Bool.or_false]
theorem readF_vf {status : Bool} : ∀ {L : List (Fld × ValN)} {seen : List Fld} {b : Nat} {x : Acc},(∀ y ∈ L,readV y.1.name (foldT y.1.lines) = .ok y.2 ∧ badSt status y.1.name y.2 = false ∧ hasF seen y.1.name = false) → L.Pairwise (fun y z=>sameT y.1.name z.1.name = false) → readF status seen (L.map (·.1)) b x = .ok (L.foldl (fun x y=>putV y.1.name y.2 x) x)
 | [],_,_,_,_,_=>rfl
 | y :: L,seen,b,x,h,hp=>by
  obtain ⟨h1,h2,h3⟩:=h y (by simp)
  obtain ⟨p1,p2⟩:=List.pairwise_cons.1 hp
  rw [List.map_cons,readF,h1]
  simp only
  rw [if_neg (by rw [h2]; decide),if_neg (by rw [h3]; decide),readF_vf (fun z hz=>?_) p2]
  ·rfl
  ·obtain ⟨g1,g2,g3⟩:=h z (by simp [hz])
   exact ⟨g1,g2,by rw [hasF_snoc,g3,p1 z hz]; rfl⟩
def stepV (n : List UInt8) (v : ValN) (x : Acc) : Acc:=if ((writeT v).2 && !((writeT v).1 == [])) = true then putV n v x else x
theorem foldl_addV (n : List UInt8) (v : ValN) (x : Acc) : (addV n v).foldl (fun x y=>putV y.1.name y.2 x) x = stepV n v x:=by
 unfold addV stepV
 split <;> rfl
theorem step_name {x : Acc} {s : List UInt8} (h : s ≠ []) : stepV nPackage (.text s) x = { x with ent:={ x.ent with pkg:={ x.ent.pkg with name:=s } },n:=true }:=by
 unfold stepV
 rw [if_pos (by simpa [writeT] using h)]
 unfold putV
 rw [if_pos (by decide)]
 rfl
theorem step_ver {x : Acc} {s : List UInt8} (h : s ≠ []) : stepV nVersion (.text s) x = { x with ent:={ x.ent with pkg:={ x.ent.pkg with ver:=s } },v:=true }:=by
 unfold stepV
 rw [if_pos (by simpa [writeT] using h)]
 unfold putV
 rw [if_neg (by decide),if_pos (by decide)]
 rfl
theorem step_ess {x : Acc} : stepV nEss (.yes true) x = { x with ent:={ x.ent with pkg:={ x.ent.pkg with ess:=true } } }:=by
 unfold stepV
 rw [if_pos (by decide)]
 unfold putV
 rw [if_neg (by decide),if_neg (by decide),if_neg (by decide),if_neg (by decide),if_neg (by decide),if_neg (by decide),if_neg (by decide),if_neg (by decide),if_pos (by decide)]
 rfl
theorem printed_of {t : List UInt8} {b : Bool} (h : t ≠ []) : ((t != [] || b) && !(t == [])) = true:=by
 simp [h]
theorem step_cls {n : List UInt8} {l : List Clause} {x : Acc} (h : l.length ≤ 12 ∧ ∀ c ∈ l,goodCl c = true) : stepV n (.cls l) x = putV n (.cls l) x ∨ (l = [] ∧ stepV n (.cls l) x = x):=by
 by_cases hl : l = []
 ·subst hl
  exact .inr ⟨rfl,rfl⟩
 ·left
  unfold stepV
  exact if_pos (printed_of (edge_text hl h.1 h.2).ne)
theorem step_ats {n : List UInt8} {l : List Atom} {x : Acc} (h : l.length ≤ 12 ∧ ∀ c ∈ l,mayAtom c = true) : stepV n (.atoms l) x = putV n (.atoms l) x ∨ (l = [] ∧ stepV n (.atoms l) x = x):=by
 by_cases hl : l = []
 ·subst hl
  exact .inr ⟨rfl,rfl⟩
 ·left
  unfold stepV
  exact if_pos (printed_of (fit_ats (n:=nCon) (by decide) hl h).edge.ne)
theorem step_provs {n : List UInt8} {l : List Prov} {x : Acc} (h : l.length ≤ 12 ∧ ∀ c ∈ l,mayAtom (provAtom c) = true) : stepV n (.provs l) x = putV n (.provs l) x ∨ (l = [] ∧ stepV n (.provs l) x = x):=by
 by_cases hl : l = []
 ·subst hl
  exact .inr ⟨rfl,rfl⟩
 ·left
  unfold stepV
  exact if_pos (printed_of (fit_prov (n:=nProv) (by decide) hl h).edge.ne)
theorem step_pre {x : Acc} {l : List Clause} (h : l.length ≤ 12 ∧ ∀ c ∈ l,goodCl c = true) (h0 : x.ent.pkg.pre = []) : stepV nPre (.cls l) x = { x with ent:={ x.ent with pkg:={ x.ent.pkg with pre:=l } } }:=by
 rcases step_cls (n:=nPre) (x:=x) h with e | ⟨rfl,e⟩
 ·rw [e]
  unfold putV
  rw [if_neg (by decide),if_neg (by decide),if_pos (by decide)]
  rfl
 ·rw [e,← h0]
theorem step_dep {x : Acc} {l : List Clause} (h : l.length ≤ 12 ∧ ∀ c ∈ l,goodCl c = true) (h0 : x.ent.pkg.dep = []) : stepV nDep (.cls l) x = { x with ent:={ x.ent with pkg:={ x.ent.pkg with dep:=l } } }:=by
 rcases step_cls (n:=nDep) (x:=x) h with e | ⟨rfl,e⟩
 ·rw [e]
  unfold putV
  rw [if_neg (by decide),if_neg (by decide),if_neg (by decide),if_pos (by decide)]
  rfl
 ·rw [e,← h0]
theorem step_rcm {x : Acc} {l : List Clause} (h : l.length ≤ 12 ∧ ∀ c ∈ l,goodCl c = true) (h0 : x.ent.pkg.rcm = []) : stepV nRcm (.cls l) x = { x with ent:={ x.ent with pkg:={ x.ent.pkg with rcm:=l } } }:=by
 rcases step_cls (n:=nRcm) (x:=x) h with e | ⟨rfl,e⟩
 ·rw [e]
  unfold putV
  rw [if_neg (by decide),if_neg (by decide),if_neg (by decide),if_neg (by decide),if_pos (by decide)]
  rfl
 ·rw [e,← h0]
theorem step_con {x : Acc} {l : List Atom} (h : l.length ≤ 12 ∧ ∀ c ∈ l,mayAtom c = true) (h0 : x.ent.pkg.con = []) : stepV nCon (.atoms l) x = { x with ent:={ x.ent with pkg:={ x.ent.pkg with con:=l } } }:=by
 rcases step_ats (n:=nCon) (x:=x) h with e | ⟨rfl,e⟩
 ·rw [e]
  unfold putV
  rw [if_neg (by decide),if_neg (by decide),if_neg (by decide),if_neg (by decide),if_neg (by decide),if_pos (by decide)]
  rfl
 ·rw [e,← h0]
theorem step_brk {x : Acc} {l : List Atom} (h : l.length ≤ 12 ∧ ∀ c ∈ l,mayAtom c = true) (h0 : x.ent.pkg.brk = []) : stepV nBrk (.atoms l) x = { x with ent:={ x.ent with pkg:={ x.ent.pkg with brk:=l } } }:=by
 rcases step_ats (n:=nBrk) (x:=x) h with e | ⟨rfl,e⟩
 ·rw [e]
  unfold putV
  rw [if_neg (by decide),if_neg (by decide),if_neg (by decide),if_neg (by decide),if_neg (by decide),if_neg (by decide),if_pos (by decide)]
  rfl
 ·rw [e,← h0]
theorem step_prov {x : Acc} {l : List Prov} (h : l.length ≤ 12 ∧ ∀ c ∈ l,mayAtom (provAtom c) = true) (h0 : x.ent.pkg.prov = []) : stepV nProv (.provs l) x = { x with ent:={ x.ent with pkg:={ x.ent.pkg with prov:=l } } }:=by
 rcases step_provs (n:=nProv) (x:=x) h with e | ⟨rfl,e⟩
 ·rw [e]
  unfold putV
  rw [if_neg (by decide),if_neg (by decide),if_neg (by decide),if_neg (by decide),if_neg (by decide),if_neg (by decide),if_neg (by decide),if_pos (by decide)]
  rfl
 ·rw [e,← h0]
def accP (p : Pkg) : Acc:=⟨⟨p,false,false⟩,true,true,false⟩
theorem foldl_pkg {p : Pkg} (h : MayG p) : (vfsP p).foldl (fun x y=>putV y.1.name y.2 x) acc0 = accP p:=by
 have hE : ∀ x : Acc,x.ent.pkg.ess = false → (if p.ess = true then addV nEss (.yes true) else []).foldl (fun x y=>putV y.1.name y.2 x) x = { x with ent:={ x.ent with pkg:={ x.ent.pkg with ess:=p.ess } } }:=fun x hx=>by
  by_cases he : p.ess = true
  ·rw [if_pos he,foldl_addV,step_ess,he]
  ·rw [if_neg he,List.foldl_nil,show p.ess = false by simpa using he,← hx]
 unfold vfsP
 simp only [List.foldl_append,foldl_addV]
 rw [step_name (name_ne h.name),step_ver (ver_ne h.ver),hE _ rfl,step_pre h.pre rfl,step_dep h.dep rfl,step_rcm h.rcm rfl,step_con h.con rfl,step_brk h.brk rfl,step_prov h.prov rfl]
 rfl
theorem fg_read {y : Fld × ValN} (h : FG y) : readV y.1.name (foldT y.1.lines) = .ok y.2:=by
 obtain ⟨t,h1,h2⟩:=h.fit
 rw [h1,fold_one h2.edge]
 exact h2.read
theorem readE_pkg {p : Pkg} (h : MayG p) (ln : Int) : readE ⟨ln,(vfsP p).map (·.1)⟩ false = (⟨p,false,false⟩,(0,0)):=by
 have h1:=readF_vf (status:=false) (L:=vfsP p) (seen:=[]) (b:=0) (x:=acc0) (fun y hy=>⟨fg_read (vfsP_fg h y hy),rfl,rfl⟩) (pw_names ((vfsP_names p).trans (List.sublist_append_left _ _)))
 unfold readE
 simp only [h1,foldl_pkg h,accP]
 rw [if_neg (by simp)]
end Go.Av
end
section
namespace Go.Av
open Go.Proofs.Tryz
def linB (n : List UInt8) : Nat → List (List UInt8) → List UInt8
 | _,[]=>[]
 | k,s :: r=>(lineP n k s ++ [10]) ++ linB n (k + 1) r
def printF : List Fld → List Fld → List UInt8 → List UInt8 × Int
 | _,[],out=>(out,0)
 | ahead,f :: r,out=>if mayFieldN f ahead ≠ 0 then ([],mayFieldN f ahead) else printF (ahead ++ [f]) r (out ++ linB f.name 0 f.lines)
def printS : Nat → List Stz → List UInt8 → List UInt8 × Int
 | _,[],out=>(out,0)
 | i,x :: r,out=>if x.fields.length = 0 ∨ 40 < x.fields.length then ([],12)
  else if (printF [] x.fields (if 0 < i then out ++ [10] else out)).2 ≠ 0 then ([],(printF [] x.fields (if 0 < i then out ++ [10] else out)).2)
  else printS (i + 1) r (printF [] x.fields (if 0 < i then out ++ [10] else out)).1
def printT (l : List Stz) : List UInt8 × Int :=
 if 200 < l.length then ([],12) else if (printS 0 l []).2 ≠ 0 then ([],(printS 0 l []).2) else if 65536 < (printS 0 l []).1.length then ([],2) else ((printS 0 l []).1,0)
def lnF (f : Fld) : List UInt8:=lineP f.name 0 (f.lines.headD [])
theorem nm_facts : ∀ n ∈ allNames,n ≠ [] ∧ (∀ c ∈ n,clsB c = 0) ∧ (∀ c ∈ n,prB c = true) ∧ nameN n = n.length ∧ hashH n = false:=by decide
theorem nm_field : ∀ n ∈ allNames,fieldN (n ++ [58]) = n.length:=by decide
theorem fieldG_app (r : List UInt8) : ∀ (n : List UInt8) (i : Nat),58 ∈ n → fieldG i (n ++ r) = fieldG i n
 | [],_,h=>by cases h
 | c :: n,i,h=>by
  rw [List.cons_append,fieldG,fieldG]
  by_cases hc : c.toNat = 58
  ·rw [if_pos hc,if_pos hc]
  ·rw [if_neg hc,if_neg hc]
   split
   ·rfl
   ·refine fieldG_app r n (i + 1) ?_
    rcases List.mem_cons.1 h with h | h
    ·rw [← h] at hc
     exact absurd rfl hc
    ·exact h
theorem fieldN_name {n : List UInt8} (h : n ∈ allNames) (r : List UInt8) : fieldN (n ++ 58 :: r) = n.length:=by
 have e : n ++ 58 :: r = (n ++ [58]) ++ r:=by simp
 rw [e]
 unfold fieldN
 rw [fieldG_app r (n ++ [58]) 0 (by simp)]
 exact nm_field n h
structure LnF (y : Fld × ValN) (t : List UInt8) : Prop where
 lines : y.1.lines = [t]
 edge : Edge t
 pr : ∀ c ∈ t,prB c = true
 name : y.1.name ∈ allNames
 line : lnF y.1 = y.1.name ++ 58 :: 32 :: t
theorem FG.ln {y : Fld × ValN} (h : FG y) : ∃ t,LnF y t:=by
 obtain ⟨t,h1,h2⟩:=h.fit
 refine ⟨t,h1,h2.edge,h2.pr,h.name,?_⟩
 unfold lnF lineP
 rw [h1]
 simp [h2.edge.ne]
theorem LnF.prs {y : Fld × ValN} {t : List UInt8} (h : LnF y t) : ∀ c ∈ lnF y.1,prB c = true:=by
 rw [h.line]
 intro c hc
 simp only [List.mem_append,List.mem_cons] at hc
 rcases hc with hc | rfl | rfl | hc
 ·exact (nm_facts _ h.name).2.2.1 c hc
 ·decide
 ·decide
 ·exact h.pr c hc
theorem LnF.edges {y : Fld × ValN} {t : List UInt8} (h : LnF y t) : Edge (lnF y.1):=by
 rw [h.line]
 obtain ⟨h1,h2,_⟩:=nm_facts _ h.name
 have:=(Edge.plain h1 h2).app (m:=[58,32]) h.edge
 simpa using this
theorem LnF.may {y : Fld × ValN} {t : List UInt8} (h : LnF y t) {ahead : List Fld} (ha : hasF ahead y.1.name = false) : mayFieldN y.1 ahead = if (lnF y.1).length ≤ 1000 then 0 else 2:=by
 obtain ⟨h1,h2,h3,h4,h5⟩:=nm_facts _ h.name
 have hl : y.1.name.length ≠ 0:=fun e=>h1 (List.length_eq_zero_iff.1 e)
 have ho : lineOk ((0 : Nat) : Int) t = true:=by
  unfold lineOk
  rw [goodT_pr h.pr,h.edge.trimE,h.edge.trim]
  simp
 unfold mayFieldN
 rw [h.lines]
 rw [if_neg,if_neg,if_neg (by rw [ha]; decide)]
 ·simp only [allIx,Bool.and_true,decide_eq_false_iff_not]
  have e : lineP y.1.name ((0 : Nat) : Int) t = lnF y.1:=by
   unfold lnF
   rw [h.lines]
   rfl
  rw [e]
  by_cases hg : (lnF y.1).length ≤ 1000
  ·rw [if_pos hg,if_neg (fun h=>h hg)]
  ·rw [if_neg hg,if_pos hg]
 ·simp only [allIx,Bool.and_true,ho]
  decide
 ·rw [h4]
  simp [hl]
theorem LnF.lin {y : Fld × ValN} {t : List UInt8} (h : LnF y t) : linB y.1.name 0 y.1.lines = lnF y.1 ++ [10]:=by
 rw [h.lines]
 unfold lnF
 rw [h.lines]
 simp [linB]
def endL (l : List (List UInt8)) : List UInt8:=(l.map fun u=>u ++ [10]).flatten
theorem endL_app (l m : List (List UInt8)) : endL (l ++ m) = endL l ++ endL m:=by simp [endL]
theorem endL_cons (u : List UInt8) (l : List (List UInt8)) : endL (u :: l) = u ++ 10 :: endL l:=by simp [endL]
theorem linesL_end : ∀ {l : List (List UInt8)},(∀ u ∈ l,∀ c ∈ u,c ≠ 10) → linesL (endL l) = l
 | [],_=>linesL_nil
 | u :: r,h=>by
  rw [endL_cons,linesL_app _ fun c hc=>h u (by simp) c hc,linesL_end fun v hv=>h v (by simp [hv])]
theorem printF_eq : ∀ {L : List (Fld × ValN)} {ahead : List Fld} {out : List UInt8},(∀ y ∈ L,FG y ∧ hasF ahead y.1.name = false) → L.Pairwise (fun y z=>sameT y.1.name z.1.name = false) → ((∀ y ∈ L,(lnF y.1).length ≤ 1000) ∧ printF ahead (L.map (·.1)) out = (out ++ endL (L.map fun y=>lnF y.1),0)) ∨ printF ahead (L.map (·.1)) out = ([],2)
 | [],ahead,out,_,_=>.inl ⟨by simp,by simp [printF,endL]⟩
 | y :: L,ahead,out,h,hp=>by
  obtain ⟨h1,h2⟩:=h y (by simp)
  obtain ⟨p1,p2⟩:=List.pairwise_cons.1 hp
  obtain ⟨t,ht⟩:=h1.ln
  have hm:=ht.may h2
  rw [List.map_cons,printF]
  by_cases hlen : (lnF y.1).length ≤ 1000
  ·rw [if_pos hlen] at hm
   rw [if_neg (by rw [hm]; decide),ht.lin]
   have hh : ∀ z ∈ L,FG z ∧ hasF (ahead ++ [y.1]) z.1.name = false:=fun z hz=>⟨(h z (by simp [hz])).1,by rw [hasF_snoc,(h z (by simp [hz])).2,p1 z hz]; rfl⟩
   rcases printF_eq (out:=out ++ (lnF y.1 ++ [10])) hh p2 with ⟨g1,g2⟩ | g
   ·refine .inl ⟨fun z hz=>?_,?_⟩
    ·rcases List.mem_cons.1 hz with rfl | hz
     ·exact hlen
     ·exact g1 z hz
    ·rw [g2,List.map_cons,endL_cons]
     simp
   ·exact .inr g
  ·rw [if_neg hlen] at hm
   rw [if_pos (by rw [hm]; decide),hm]
   exact .inr rfl
def linesB : Nat → List (List (Fld × ValN)) → List (List UInt8)
 | _,[]=>[]
 | i,L :: r=>((if 0 < i then [[]] else []) ++ L.map fun y=>lnF y.1) ++ linesB (i + 1) r
structure SG (L : List (Fld × ValN)) : Prop where
 ne : L ≠ []
 len : L.length ≤ 40
 fg : ∀ y ∈ L,FG y
 pw : L.Pairwise fun y z=>sameT y.1.name z.1.name = false
theorem printS_eq : ∀ {l : List (List (Fld × ValN))} {i : Nat} {out : List UInt8},(∀ L ∈ l,SG L) → ((∀ L ∈ l,∀ y ∈ L,(lnF y.1).length ≤ 1000) ∧ printS i (l.map fun L=>⟨0,L.map (·.1)⟩) out = (out ++ endL (linesB i l),0)) ∨ printS i (l.map fun L=>⟨0,L.map (·.1)⟩) out = ([],2)
 | [],i,out,_=>.inl ⟨by simp,by simp [printS,linesB,endL]⟩
 | L :: l,i,out,h=>by
  obtain ⟨h1,h2,h3,h4⟩:=h L (by simp)
  rw [List.map_cons,printS]
  have hl : L.length ≠ 0:=fun e=>h1 (List.length_eq_zero_iff.1 e)
  rw [if_neg (by simp only [List.length_map]; omega)]
  rcases printF_eq (ahead:=[]) (out:=if 0 < i then out ++ [10] else out) (fun y hy=>⟨h3 y hy,rfl⟩) h4 with ⟨g1,g2⟩ | g
  ·rw [if_neg (by rw [g2]; simp),g2]
   rcases printS_eq (l:=l) (i:=i + 1) (out:=(if 0 < i then out ++ [10] else out) ++ endL (L.map fun y=>lnF y.1)) fun M hM=>h M (by simp [hM]) with ⟨k1,k2⟩ | k
   ·refine .inl ⟨fun M hM=>?_,?_⟩
    ·rcases List.mem_cons.1 hM with rfl | hM
     ·exact g1
     ·exact k1 M hM
    ·rw [k2,linesB,endL_app,endL_app]
     congr 1
     by_cases hi : 0 < i
     ·rw [if_pos hi,if_pos hi]
      simp [endL]
     ·rw [if_neg hi,if_neg hi]
      simp [endL]
   ·exact .inr k
  ·rw [if_pos (by rw [g]; simp),g]
   exact .inr rfl
theorem linesB_ok : ∀ {l : List (List (Fld × ValN))} {i : Nat},(∀ L ∈ l,SG L) → (∀ L ∈ l,∀ y ∈ L,(lnF y.1).length ≤ 1000) → ∀ u ∈ linesB i l,(∀ c ∈ u,c ≠ 10) ∧ u.length ≤ 1000 ∧ goodT u = -1
 | [],_,_,_,u,hu=>by cases hu
 | L :: l,i,h,hl,u,hu=>by
  rw [linesB] at hu
  rcases List.mem_append.1 hu with hu | hu
  ·rcases List.mem_append.1 hu with hu | hu
   ·split at hu
    ·rw [List.mem_singleton.1 hu]
     exact ⟨by simp,by simp,rfl⟩
    ·cases hu
   ·obtain ⟨y,hy,rfl⟩:=List.mem_map.1 hu
    obtain ⟨t,ht⟩:=((h L (by simp)).fg y hy).ln
    refine ⟨fun c hc e=>?_,hl L (by simp) y hy,goodT_pr ht.prs⟩
    have:=ht.prs c hc
    rw [e] at this
    revert this
    decide
  ·exact linesB_ok (fun M hM=>h M (by simp [hM])) (fun M hM=>hl M (by simp [hM])) u hu
theorem badL_none : ∀ {l : List (List UInt8)} {i : Nat},(∀ u ∈ l,u.length ≤ 1000 ∧ goodT u = -1) → badL i l = (0,0)
 | [],_,_=>rfl
 | s :: r,i,h=>by
  obtain ⟨h1,h2⟩:=h s (by simp)
  rw [badL,if_neg (by omega),if_neg (by omega)]
  exact badL_none fun u hu=>h u (by simp [hu])
theorem take_any {y : Fld × ValN} {t : List UInt8} (h : LnF y t) (st : PS) (i : Int) : takeS st (lnF y.1) i =
  if st.op = false ∧ st.l.length = 200 then .error 12
  else if (lastFields (if st.op = true then st.l else st.l ++ [⟨i,[]⟩])).length = 40 then .error 12
  else if hasF (lastFields (if st.op = true then st.l else st.l ++ [⟨i,[]⟩])) y.1.name = true then .error 4
  else .ok ⟨updLast (addFld y.1) (if st.op = true then st.l else st.l ++ [⟨i,[]⟩]),true⟩:=by
 obtain ⟨h1,h2,h3,h4,h5⟩:=nm_facts _ h.name
 have hf:=fieldN_name h.name (32 :: t)
 rw [← h.line] at hf
 have ha : hashH (lnF y.1) = false:=by
  rw [h.line]
  cases hn : y.1.name with
  | nil=>exact absurd hn h1
  | cons c r =>
   rw [hn] at h5
   exact h5
 have hw : whiteH (lnF y.1) = false:=by
  rw [h.line]
  cases hn : y.1.name with
  | nil=>exact absurd hn h1
  | cons c r =>
   show wsB c = false
   unfold wsB
   rw [h2 c (by rw [hn]; simp)]
   rfl
 have htk : (lnF y.1).take y.1.name.length = y.1.name:=by
  rw [h.line]
  exact List.take_left'  rfl
 have hdr : trimT ((lnF y.1).drop (y.1.name.length + 1)) = t:=by
  rw [h.line]
  have : (y.1.name ++ 58 :: 32 :: t).drop (y.1.name.length + 1) = 32 :: t:=by
   rw [List.drop_append]
   simp
  rw [this]
  unfold trimT
  rw [skipW_cons,if_pos (by decide)]
  exact h.edge.trim
 have hy : (⟨y.1.name,[t]⟩ : Fld) = y.1:=by rw [← h.lines]
 unfold takeS
 rw [if_neg (by rw [ha]; decide),if_neg (by rw [h.edges.trim]; exact h.edges.ne),if_neg (by rw [hw]; decide),hf,if_neg (by omega)]
 simp only [Int.toNat_natCast,htk,hdr,hy]
theorem run_flds : ∀ {gs : List (Fld × ValN)} {u : List Stz} {ln : Int} {fs : List Fld} {i : Nat} {rest : List (List UInt8)},(∀ y ∈ gs,FG y ∧ hasF fs y.1.name = false) → gs.Pairwise (fun y z=>sameT y.1.name z.1.name = false) → fs.length + gs.length ≤ 40 → runP ⟨u ++ [⟨ln,fs⟩],true⟩ i (gs.map (fun y=>lnF y.1) ++ rest) = runP ⟨u ++ [⟨ln,fs ++ gs.map (·.1)⟩],true⟩ (i + gs.length) rest
 | [],u,ln,fs,i,rest,_,_,_=>by simp
 | y :: gs,u,ln,fs,i,rest,h,hp,hlen=>by
  obtain ⟨h1,h2⟩:=h y (by simp)
  obtain ⟨p1,p2⟩:=List.pairwise_cons.1 hp
  obtain ⟨t,ht⟩:=h1.ln
  simp only [List.length_cons] at hlen
  rw [List.map_cons,List.cons_append,runP,take_any ht]
  simp only [if_true,lastFields_snoc,updLast_snoc,Bool.true_eq_false,false_and,if_false,reduceCtorEq]
  rw [if_neg (by omega),if_neg (by rw [h2]; decide)]
  simp only [addFld]
  rw [run_flds (fun z hz=>⟨(h z (by simp [hz])).1,by rw [hasF_snoc,(h z (by simp [hz])).2,p1 z hz]; rfl⟩) p2 (by simp only [List.length_append,List.length_cons,List.length_nil]; omega)]
  simp only [List.append_assoc,List.map_cons,List.cons_append,List.nil_append,List.length_cons]
  congr 1
  omega
theorem take_nil (st : PS) (i : Int) : takeS st [] i = .ok ⟨st.l,false⟩:=rfl
theorem run_all : ∀ {l : List (List (Fld × ValN))} {u : List Stz} {op : Bool} {i k : Nat},(∀ L ∈ l,SG L) → (0 < k ∨ op = false) → u.length + l.length ≤ 200 → ∃ st zs,runP ⟨u,op⟩ i (linesB k l) = .ok st ∧ st.l = u ++ zs ∧ zs.map (·.fields) = l.map fun L=>L.map (·.1)
 | [],u,op,i,k,_,_,_=>⟨⟨u,op⟩,[],rfl,by simp,rfl⟩
 | L :: l,u,op,i,k,h,hk,hlen=>by
  obtain ⟨h1,h2,h3,h4⟩:=h L (by simp)
  simp only [List.length_cons] at hlen
  obtain _ | ⟨y,gs⟩:=L
  ·exact absurd rfl h1
  obtain ⟨p1,p2⟩:=List.pairwise_cons.1 h4
  obtain ⟨t,ht⟩:=(h3 y (by simp)).ln
  simp only [List.length_cons] at h2
  have key : ∀ j,∃ st zs,runP ⟨u,false⟩ j (((y :: gs).map fun y=>lnF y.1) ++ linesB (k + 1) l) = .ok st ∧ st.l = u ++ zs ∧ zs.map (·.fields) = (y :: gs).map (·.1) :: l.map fun L=>L.map (·.1):=fun j=>by
   rw [List.map_cons,List.cons_append,runP,take_any ht]
   simp only [Bool.false_eq_true,if_false,true_and,lastFields_snoc,updLast_snoc]
   rw [if_neg (by omega),if_neg (by simp),if_neg (by simp [hasF])]
   simp only [addFld,List.nil_append]
   rw [run_flds (fun z hz=>⟨h3 z (by simp [hz]),by simp only [hasF,List.any_cons,List.any_nil,Bool.or_false]; exact p1 z hz⟩) p2 (by simp only [List.length_cons,List.length_nil]; omega)]
   obtain ⟨st,zs,g1,g2,g3⟩:=run_all (l:=l) (u:=u ++ [⟨(j : Int) + 1,[y.1] ++ gs.map (·.1)⟩]) (op:=true) (i:=j + 1 + gs.length) (k:=k + 1) (fun M hM=>h M (by simp [hM])) (.inl (by omega)) (by simp only [List.length_append,List.length_cons,List.length_nil]; omega)
   refine ⟨st,⟨(j : Int) + 1,[y.1] ++ gs.map (·.1)⟩ :: zs,g1,by rw [g2]; simp,?_⟩
   rw [List.map_cons,g3]
   rfl
  rw [linesB,List.map_cons]
  by_cases hk0 : 0 < k
  ·rw [if_pos hk0,List.append_assoc,List.cons_append,List.nil_append,runP,take_nil]
   exact key (i + 1)
  ·rw [if_neg hk0,List.nil_append]
   have : op = false:=by
    rcases hk with h | h
    ·exact absurd h hk0
    ·exact h
   rw [this]
   exact key i
theorem print_back {l : List (List (Fld × ValN))} (h : ∀ L ∈ l,SG L) (hl : l.length ≤ 200) : printT (l.map fun L=>⟨0,L.map (·.1)⟩) = ([],2) ∨ ((printT (l.map fun L=>⟨0,L.map (·.1)⟩)).2 = 0 ∧ ∃ zs,stzT (printT (l.map fun L=>⟨0,L.map (·.1)⟩)).1 = (zs,(0,0)) ∧ zs.map (·.fields) = l.map fun L=>L.map (·.1)):=by
 unfold printT
 rw [if_neg (by simp only [List.length_map]; omega)]
 rcases printS_eq (i:=0) (out:=[]) h with ⟨g1,g2⟩ | g
 ·rw [g2]
  simp only [List.nil_append,ne_eq,not_true_eq_false,if_false]
  split
  ·exact .inl rfl
  ·rename_i hsz
   refine .inr ⟨rfl,?_⟩
   have hok:=linesB_ok (i:=0) h g1
   have hb : badL 0 (linesB 0 l) = (0,0):=badL_none fun u hu=>⟨(hok u hu).2.1,(hok u hu).2.2⟩
   have hlin : linesT (endL (linesB 0 l)) = (linesB 0 l,(0,0)):=by
    unfold linesT
    rw [if_neg hsz,linesL_end fun u hu=>(hok u hu).1,hb]
    rfl
   obtain ⟨st,zs,k1,k2,k3⟩:=run_all (l:=l) (u:=[]) (op:=false) (i:=0) (k:=0) h (.inr rfl) (by simpa using hl)
   refine ⟨zs,?_,k3⟩
   unfold stzT
   simp only [hlin]
   rw [if_neg (by simp),k1]
   simp only [k2,List.nil_append]
 ·rw [g]
  left
  rfl
theorem readL_back {α : Type} {status : Bool} {F : α → List Fld} {V : α → EntN} : ∀ {l : List α} {zs : List Stz} {out : List EntN},(∀ x ∈ l,∀ ln,readE ⟨ln,F x⟩ status = (V x,(0,0))) → zs.map (·.fields) = l.map F → readL status zs out = (out ++ l.map V,(0,0))
 | [],[],out,_,_=>by simp [readL]
 | [],_ :: _,_,_,h=>by simp at h
 | _ :: _,[],_,_,h=>by simp at h
 | x :: l,z :: zs,out,h,he=>by
  simp only [List.map_cons,List.cons.injEq] at he
  have hz : readE z status = (V x,(0,0)):=by
   have:=h x (by simp) z.line
   rw [← he.1] at this
   exact this
  rw [readL,hz,if_neg (by simp),readL_back (fun y hy=>h y (by simp [hy])) he.2]
  simp
theorem vfsP_ne {p : Pkg} (h : MayG p) : vfsP p ≠ []:=by
 have : addV nPackage (.text p.name) ≠ []:=by
  unfold addV
  rw [if_pos (by simpa [writeT] using name_ne h.name)]
  simp
 unfold vfsP
 simp [this]
theorem len_names {L : List (Fld × ValN)} (h : List.Sublist (L.map fun y=>y.1.name) allNames) : L.length ≤ 11:=by
 have:=h.length_le
 simpa [allNames,pkgNames] using this
theorem sg_pkg {p : Pkg} (h : MayG p) : SG (vfsP p):=by
 have hs:=(vfsP_names p).trans (List.sublist_append_left _ [nState,nHold])
 have:=len_names hs
 exact ⟨vfsP_ne h,by omega,vfsP_fg h,pw_names hs⟩
theorem stanzaP_ok {p : Pkg} (h : mayPkg p = 0) : stanzaP p = ⟨0,(vfsP p).map (·.1)⟩:=by
 unfold stanzaP
 rw [if_neg (by rw [h]; decide),vfsP_fst]
def stanzaE (x : EntN) : Stz:=⟨(stanzaP x.pkg).line,((stanzaP x.pkg).fields ++ [⟨nState,[if x.conf = true then sConf else sUnp]⟩]) ++ (if x.hold = true then [⟨nHold,[sYes]⟩] else [])⟩
theorem mayAll_zero {l : List Pkg} (h : mayAll l = 0) : l.length ≤ 24 ∧ ∀ p ∈ l,mayPkg p = 0:=by
 unfold mayAll at h
 split at h
 ·cases h
 rename_i h1
 split at h
 ·rename_i h2; exact absurd h h2
 rename_i h2
 exact ⟨by omega,fun p hp=>orL_zero (by omega) _ (List.mem_map.2 ⟨p,hp,rfl⟩)⟩
def printP (l : List Pkg) : List UInt8 × Int:=if mayAll l ≠ 0 then ([],mayAll l) else printT (l.map stanzaP)
theorem pkgs_back {l : List Pkg} (h : mayAll l = 0) : printP l = ([],2) ∨ ((printP l).2 = 0 ∧ pkgsT (printP l).1 = (l,(0,0))):=by
 obtain ⟨h1,h2⟩:=mayAll_zero h
 have e : l.map stanzaP = (l.map vfsP).map fun L=>⟨0,L.map (·.1)⟩:=by
  rw [List.map_map]
  exact List.map_congr_left fun p hp=>stanzaP_ok (h2 p hp)
 unfold printP
 rw [if_neg (by rw [h]; decide),e]
 rcases print_back (l:=l.map vfsP) (fun L hL=>by
  obtain ⟨p,hp,rfl⟩:=List.mem_map.1 hL
  exact sg_pkg (mayPkg_good (h2 p hp))) (by simp only [List.length_map]; omega) with g | ⟨g1,zs,g2,g3⟩
 ·exact .inl g
 ·refine .inr ⟨g1,?_⟩
  rw [List.map_map] at g3
  have hr:=readL_back (status:=false) (V:=fun p=>⟨p,false,false⟩) (out:=[]) (fun p hp ln=>readE_pkg (mayPkg_good (h2 p hp)) ln) g3
  have hm : (l.map fun p=>(⟨p,false,false⟩ : EntN)).map (·.pkg) = l:=by
   rw [List.map_map]
   exact List.map_id l
  unfold pkgsT
  rw [g2]
  simp only [hr,List.nil_append,hm,h]
  simp
theorem pkgsT_may (b : List UInt8) (h : (pkgsT b).2.1 = 0) : mayAll (pkgsT b).1 = 0:=by
 unfold pkgsT at h ⊢
 split
 ·rfl
 ·rename_i h1
  rw [if_neg h1] at h
  split
  ·rfl
  ·rename_i h2
   rw [if_neg h2] at h
   split
   ·rfl
   ·rename_i h3
    simpa using h3
theorem pkgsT_bad (b : List UInt8) (h : (pkgsT b).2.1 ≠ 0) : (pkgsT b).1 = []:=by
 unfold pkgsT at h ⊢
 split
 ·rfl
 ·rename_i h1
  rw [if_neg h1] at h
  split
  ·rfl
  ·rename_i h2
   rw [if_neg h2] at h
   split
   ·rfl
   ·rename_i h3
    rw [if_neg h3] at h
    exact absurd rfl h
end Go.Av
end
section
namespace Go.Av
def OneL (f : Fld) : Prop:=f.lines.length ≤ 1 ∧ (∀ s ∈ f.lines,f.name.length + s.length ≤ 16777216) ∧ f.name.length ≤ 16777216
theorem lin_one {f : Fld} {ahead : List Fld} (h1 : f.lines.length ≤ 1) (h0 : mayFieldN f ahead = 0) : (linB f.name 0 f.lines).length ≤ 1001:=by
 unfold mayFieldN at h0
 split at h0
 ·cases h0
 split at h0
 ·cases h0
 split at h0
 ·cases h0
 split at h0
 ·cases h0
 rename_i h
 rcases hl : f.lines with _ | ⟨s,_ | ⟨t,r⟩⟩
 ·simp [linB]
 ·rw [hl] at h
  simp only [allIx,Bool.and_true,decide_eq_false_iff_not,Classical.not_not] at h
  simp only [linB,List.append_nil,List.length_append,List.length_cons,List.length_nil]
  have : (lineP f.name ((0 : Nat) : Int) s).length ≤ 1000:=h
  have e : ((0 : Nat) : Int) = 0:=rfl
  omega
 ·rw [hl] at h1
  simp at h1
theorem linB_get {n : List UInt8} {ls : List (List UInt8)} {j k : Nat} {s : List UInt8} (h : ls[j]? = some s) : linB n k (ls.drop j) = (lineP n k s ++ [10]) ++ linB n (k + 1) (ls.drop (j + 1)):=by
 rw [List.drop_eq_getElem_cons (List.getElem?_eq_some_iff.1 h).1,(List.getElem?_eq_some_iff.1 h).2,linB]
theorem printT_err {l : List Stz} {e : Int} (h : ¬ 200 < l.length) (hP : printS 0 l [] = ([],e)) (he : e ≠ 0) : printT l = ([],e):=by
 unfold printT
 rw [if_neg h,hP,if_pos he]
end Go.Av
namespace Go.Proofs.Tryz
open Go Go.Av
set_option maxRecDepth 10000
variable {W0 : World}
theorem ids_bytes (n : Nat) (b : List UInt8) : IdsLt n (bytesAV b):=.map fun _ _=>.int _ _
theorem sz_print (hW : TabsOk W0) (l : List Stz) (hp : ∀ x ∈ l,∀ f ∈ x.fields,OneL f) : PureFn prog W0 78 [stzsAV l] (.tup [bytesAV (printT l).1,.int .i64 (printT l).2]):=by
 refine fn_pure [2,3] [6,8,46] func78 rfl rfl ntmps78 rfl rfl (.tup2 (ids_bytes _ _) (.int _ _)) fun hs σ=>?_
 simp only [go_sem,simprocAttr,↓reduceIte,stzsAV,List.length_map]
 refine ⟨fun h=>?_,fun h=>?_⟩
 ·rw [printT,if_pos (by omega)]
  exact weak_tup2 (.nils _) (.refl _)
 refine LoopVC.at [] (.of (by kernel_rfl)) (fun A=>∃ v out,A.env 4 = v ∧ Built σ A.st v 5 (out.map byteAV) ∧ printS 0 l [] = (out,0) ∧ out.length ≤ 8008200) ?_ fun B ⟨v,out,h4,hb,hP,hl⟩=>?_
 ·refine LoopVC.upto [15,16] (.of (by kernel_rfl)) l.length (fun i A=>∃ v out,A.env 4 = v ∧ A.env 17 = .int .i64 i ∧ Built σ A.st v 5 (out.map byteAV) ∧ printS 0 l [] = printS i (l.drop i) out ∧ out.length ≤ i * 40041) 0 (Nat.zero_le _) ?_ fun i B hi ⟨v,out,h4,h17,hb,hP,hl⟩=>?_
  ·simp only [go_sem,simprocAttr,↓reduceIte]
   exact ⟨_,[],rfl,Built.nil (.refl _) _,rfl,by simp⟩
  simp only [go_sem,simprocAttr,↓reduceIte,h4,h17,hb.ok,hb.un,List.length_map]
  refine ⟨fun hc=>⟨hc,?_⟩,fun hc=>?_⟩
  ·obtain ⟨x,hx⟩:=get_some hc
   simp only [atV_map hx]
   have hd : l.drop i = x :: l.drop (i + 1):=by rw [List.drop_eq_getElem_cons hc]; congr 1; exact (List.getElem?_eq_some_iff.1 hx).2
   rw [hd,printS] at hP
   simp only [go_sem,simprocAttr,↓reduceIte,stzAV,fldsAV,h4,h17,hb.ok,hb.un,List.length_map]
   refine ⟨fun hq=>?_,fun hq=>?_⟩
   ·rw [if_pos (by simp only [Bool.or_eq_true,beq_iff_eq,decide_eq_true_eq] at hq; omega)] at hP
    rw [printT_err (by omega) hP (by decide)]
    exact ⟨weak_tup2 (.nils _) (.refl _),hb.ext.app _⟩
   rw [if_neg (by simp only [Bool.or_eq_false_iff,beq_eq_false_iff_ne,decide_eq_false_iff_not] at hq; omega)] at hP
   have hq40 : x.fields.length ≤ 40:=by simp only [Bool.or_eq_false_iff,beq_eq_false_iff_ne,decide_eq_false_iff_not] at hq; omega
   generalize ho0 : (if 0 < i then out ++ [10] else out) = o0 at hP
   obtain ⟨m,hm⟩ : ∃ m,m = i * 40041 + 1:=⟨_,rfl⟩
   have hl0 : o0.length ≤ m:=by
    rw [← ho0]
    split
    ·rw [List.length_append,List.length_singleton]; omega
    ·omega
   refine JoinVC.at [6,15,16,17] (by kernel_rfl) (fun A=>∃ v,A.env 4 = v ∧ Built σ A.st v 5 (o0.map byteAV)) (fun h=>?_) (fun h=>?_) fun B2 ⟨v2,h4',hb2⟩=>?_
   ·have hb1:=hb.more [none]
    simp only [go_sem,simprocAttr,↓reduceIte,h4,hb.ok,hb.un]
    refine AppA.own 16777216 (by kernel_rfl) hb1.bld (.lit _ _ _) (by simp; omega) fun v' σ' ha'=>?_
    have hb':=hb1.app ha'
    simp only [go_sem,simprocAttr,↓reduceIte,hb'.ok,hb'.un]
    refine ⟨_,rfl,?_⟩
    have h:=of_decide_eq_true h
    rw [← ho0,if_pos (by omega),List.map_append]
    exact hb'
   ·simp only [go_sem,simprocAttr,↓reduceIte]
    refine ⟨_,h4,?_⟩
    have h:=of_decide_eq_false h
    rw [← ho0,if_neg (by omega)]
    exact hb.more _
   simp only [go_sem,simprocAttr,↓reduceIte,stzAV,fldsAV,h4',h17,hb2.ok,hb2.un,List.length_map]
   refine LoopVC.ats [15,16,17] (.of (by kernel_rfl)) (fun A=>∃ v out,A.env 4 = v ∧ Built σ A.st v 5 (out.map byteAV) ∧ printF [] x.fields o0 = (out,0) ∧ out.length ≤ (i + 1) * 40041) ?_ fun B3 ⟨v3,o3,h4,hb,hF,hl⟩=>?_
   ·refine LoopVC.upto [6,15,16,17,38,39] (.of (by kernel_rfl)) x.fields.length (fun k A=>∃ v out,A.env 4 = v ∧ A.env 40 = .int .i64 k ∧ Built σ A.st v 5 (out.map byteAV) ∧ printF [] x.fields o0 = printF (x.fields.take k) (x.fields.drop k) out ∧ out.length ≤ m + k * 1001) 0 (Nat.zero_le _) ?_ fun k B3 hk ⟨v3,o3,h4,h40,hb,hF,hl⟩=>?_
    ·simp only [go_sem,simprocAttr,↓reduceIte]
     exact ⟨_,o0,h4',hb2,rfl,by omega⟩
    simp only [go_sem,simprocAttr,↓reduceIte,h4,h40,hb.ok,hb.un,List.length_map]
    refine ⟨fun hc2=>⟨hc2,?_⟩,fun hc2=>?_⟩
    ·obtain ⟨f,hf⟩:=get_some hc2
     simp only [atV_map hf]
     have hd2 : x.fields.drop k = f :: x.fields.drop (k + 1):=by rw [List.drop_eq_getElem_cons hc2]; congr 1; exact (List.getElem?_eq_some_iff.1 hf).2
     rw [hd2] at hF
     obtain ⟨g1,g2,_⟩:=hp x (List.mem_of_getElem? hx) f (List.mem_of_getElem? hf)
     simp only [go_sem,simprocAttr,↓reduceIte,fldAV,h4,h40,hb.ok,hb.un,List.length_map]
     refine ⟨.of (by kernel_rfl),⟨by omega,hk⟩,?_⟩
     refine CallP.fn (by have:=sz_mayField hW f (x.fields.take k) (by omega) g2; unfold fldAV fldsAV at this; rw [← List.map_take]; exact this) ?_
     rw [printF] at hF
     simp only [go_sem,simprocAttr,↓reduceIte,h4,h40,hb.ok,hb.un,List.length_map]
     refine ⟨fun he=>?_,fun he=>?_⟩
     ·rw [if_pos (by simpa using he)] at hF
      rw [hF,if_pos (by simpa using he)] at hP
      rw [printT_err (by omega) hP (by simpa using he)]
      exact ⟨weak_tup2 (.nils _) (.refl _),hb.ext.app _⟩
     have he : mayFieldN f (x.fields.take k) = 0:=by simpa using he
     rw [if_neg (by rw [he]; decide)] at hF
     have hlin:=lin_one g1 he
     simp only [go_sem,simprocAttr,↓reduceIte,strsAV,h4,h40,hb.ok,hb.un,List.length_map]
     refine LoopVC.ats [6,15,16,17,38,39,40] (.of (by kernel_rfl)) (fun A=>∃ v,A.env 4 = v ∧ Built σ A.st v 5 ((o3 ++ linB f.name 0 f.lines).map byteAV)) ?_ fun B4 ⟨v4,h4,hb⟩=>?_
     ·refine LoopVC.upto [6,8,15,16,17,38,39,40,55,56] (.of (by kernel_rfl)) f.lines.length (fun j A=>∃ v o,A.env 4 = v ∧ A.env 57 = .int .i64 j ∧ Built σ A.st v 5 (o.map byteAV) ∧ o ++ linB f.name j (f.lines.drop j) = o3 ++ linB f.name 0 f.lines) 0 (Nat.zero_le _) ?_ fun j B4 hj ⟨v4,o4,h4,h57,hb,hE⟩=>?_
      ·simp only [go_sem,simprocAttr,↓reduceIte]
       exact ⟨_,o3,h4,hb.more _,rfl⟩
      simp only [go_sem,simprocAttr,↓reduceIte,h4,h57,hb.ok,hb.un,List.length_map]
      refine ⟨fun hc3=>⟨hc3,?_⟩,fun hc3=>?_⟩
      ·obtain ⟨s,hs1⟩:=get_some hc3
       simp only [atV_map hs1]
       simp only [go_sem,simprocAttr,↓reduceIte,h4,h57,hb.ok,hb.un]
       refine CallA.fn (sz_printed f j s (g2 s (List.mem_of_getElem? hs1))) ?_
       rw [linB_get hs1] at hE
       have hlen:=congrArg List.length hE
       simp only [List.length_append,List.length_singleton] at hlen
       simp only [go_sem,simprocAttr,↓reduceIte,h4,h57,hb.ok,hb.un]
       refine AppA.strS (σ:=B4.st) (by simp only [go_sem,simprocAttr,↓reduceIte]) 16777216 (by kernel_rfl) hb.bld (by rw [List.length_map]; omega) fun v5 σ5 ha=>?_
       have hb5:=hb.app ha
       simp only [go_sem,simprocAttr,↓reduceIte,h4,h57,hb5.ok,hb5.un]
       refine AppA.ownS (σ:=σ5) (by simp only [go_sem,simprocAttr,↓reduceIte]) 16777216 (by kernel_rfl) hb5.bld (.lit _ _ _) (by simp only [List.length_append,List.length_map,List.length_singleton]; omega) fun v6 σ6 ha6=>?_
       have hb6:=hb5.app ha6
       simp only [go_sem,simprocAttr,↓reduceIte,h4,h57,hb6.ok,hb6.un]
       refine ⟨hc3,v6,o4 ++ (lineP f.name j s ++ [10]),rfl,int_succ hc3 (by rw [maxLen_eq]; omega),?_,by rw [List.append_assoc]; exact hE⟩
       rw [List.map_append,List.map_append,← List.append_assoc]
       exact hb6
      ·rw [List.drop_of_length_le hc3,linB,List.append_nil] at hE
       exact ⟨v4,rfl,by rw [← hE]; exact hb⟩
     simp only [go_sem,simprocAttr,↓reduceIte,h4,h40]
     refine ⟨hc2,v4,_,rfl,int_succ hc2 (by rw [maxLen_eq]; omega),hb,by rw [take_succ_get hf]; exact hF,?_⟩
     rw [List.length_append]
     omega
    ·rw [List.drop_of_length_le hc2,printF] at hF
     exact ⟨v3,o3,rfl,hb,hF,by omega⟩
   ·simp only [go_sem,simprocAttr,↓reduceIte,h17]
    rw [hF,if_neg (by simp)] at hP
    exact ⟨hc,v3,o3,h4,int_succ hc (by rw [maxLen_eq]; omega),hb,hP,hl⟩
  ·rw [List.drop_of_length_le hc,printS] at hP
   exact ⟨v,out,rfl,hb,hP,by omega⟩
 simp only [go_sem,simprocAttr,↓reduceIte,h4,hb.ok,hb.un,hb.len,hb.lenC,List.length_map]
 have hT : printT l = if 65536 < out.length then ([],2) else (out,0):=by
  unfold printT
  rw [if_neg (by omega),hP,if_neg (by simp)]
 refine ⟨fun h=>?_,fun h=>?_⟩
 ·rw [hT,if_pos (by omega)]
  exact ⟨weak_tup2 (.nils _) (.refl _),hb.ext⟩
 ·rw [hT,if_neg (by omega)]
  exact ⟨weak_tup2 hb.weak (.refl _),hb.ext⟩
end Go.Proofs.Tryz
end
section
namespace Go.Av
open Go.Proofs.Tryz
theorem textL_le (l : List Clause) : (textL l).length ≤ 5856:=by
 unfold textL
 split
 ·simp
 ·rename_i h
  exact joinC_len (by
   cases hg : l.all goodCl
   ·exact absurd (.inr hg) h
   ·rfl) (Nat.le_of_not_lt fun h12=>h (.inl h12))
theorem nm_len : ∀ n ∈ allNames,n.length ≤ 11:=by decide
theorem addV_one {n : List UInt8} {v : ValN} (hn : n ∈ allNames) (hv : (writeT v).1.length ≤ 5856) : ∀ y ∈ addV n v,OneL y.1:=by
 intro y hy
 unfold addV at hy
 split at hy
 ·rw [List.mem_singleton.1 hy]
  have:=nm_len n hn
  refine ⟨by simp,fun s hs=>?_,by show n.length ≤ _; omega⟩
  rw [List.mem_singleton.1 hs]
  show n.length + _ ≤ _
  omega
 ·cases hy
theorem vfsP_one {p : Pkg} (h : MayG p) : ∀ y ∈ vfsP p,OneL y.1:=by
 intro y hy
 unfold vfsP at hy
 simp only [List.mem_append] at hy
 rcases hy with (((((((hy | hy) | hy) | hy) | hy) | hy) | hy) | hy) | hy
 ·refine addV_one (by decide) ?_ y hy
  exact Nat.le_trans (nameOk_len h.name) (by decide)
 ·refine addV_one (by decide) ?_ y hy
  exact Nat.le_trans (isVer_len h.ver) (by decide)
 ·split at hy
  ·exact addV_one (by decide) (by decide) y hy
  ·cases hy
 all_goals
  refine addV_one (by decide) ?_ y hy
  exact textL_le _
theorem oneP {p : Pkg} (h : mayPkg p = 0) : ∀ f ∈ (stanzaP p).fields,OneL f:=by
 rw [stanzaP_ok h]
 intro f hf
 obtain ⟨y,hy,rfl⟩:=List.mem_map.1 hf
 exact vfsP_one (mayPkg_good h) y hy
theorem liN_good {l : List Clause} (h : l.length ≤ 12 ∧ ∀ c ∈ l,goodCl c = true) : LiN l :=
 ⟨by omega,fun c hc=>by have:=(good_cl (h.2 c hc)).2.1; omega⟩
end Go.Av
namespace Go.Proofs.Tryz
open Go Go.Av
set_option maxRecDepth 10000
variable {W0 : World}
theorem re_print (hW : TabsOk W0) (l : List Pkg) (hp : ∀ p ∈ l,MayN p) : PureFn prog W0 33 [pkgsAV l] (.tup [bytesAV (printP l).1,.int .i64 (printP l).2]):=by
 refine fn_pure [2,3] [7,8] func33 rfl rfl ntmps33 rfl rfl (.tup2 (ids_bytes _ _) (.int _ _)) fun hs σ=>?_
 simp only [go_sem,simprocAttr,↓reduceIte]
 refine CallA.fn (re_mayAll l hp) ?_
 simp only [go_sem,simprocAttr,↓reduceIte]
 unfold printP
 refine ⟨fun he=>?_,fun he=>?_⟩
 ·rw [if_pos (by simpa using he)]
  exact weak_tup2 (.nils _) (.refl _)
 have he : mayAll l = 0:=by simpa using he
 obtain ⟨hl,hm⟩:=mayAll_zero he
 rw [if_neg (by rw [he]; decide)]
 simp only [go_sem,simprocAttr,↓reduceIte,pkgsAV,List.length_map]
 refine LoopVC.at [] (.of (by kernel_rfl)) (fun A=>∃ v,A.env 5 = v ∧ Built σ A.st v 24 ((l.map stanzaP).map stzAV)) ?_ fun B ⟨v,h5,hb⟩=>?_
 ·refine LoopVC.upto [15,16] (.of (by kernel_rfl)) l.length (fun i A=>∃ v,A.env 5 = v ∧ A.env 17 = .int .i64 i ∧ Built σ A.st v 24 (((l.take i).map stanzaP).map stzAV)) 0 (Nat.zero_le _) ?_ fun i B hi ⟨v,h5,h17,hb⟩=>?_
  ·simp only [go_sem,simprocAttr,↓reduceIte]
   exact ⟨_,rfl,Built.nil (.refl _) _⟩
  simp only [go_sem,simprocAttr,↓reduceIte,h5,h17,hb.ok,hb.un,List.length_map]
  refine ⟨fun hc=>⟨hc,?_⟩,fun hc=>?_⟩
  ·obtain ⟨p,hpx⟩:=get_some hc
   have hpm:=List.mem_of_getElem? hpx
   have hg:=mayPkg_good (hm p hpm)
   simp only [atV_map hpx]
   simp only [go_sem,simprocAttr,↓reduceIte,h5,h17,hb.ok,hb.un,pkgAV]
   refine CallA.fn (re_stanza p (hp p hpm) (liN_good hg.pre) (liN_good hg.dep) (liN_good hg.rcm)) ?_
   simp only [go_sem,simprocAttr,↓reduceIte,stzAV,h5,h17,hb.ok,hb.un]
   have hb1:=hb.more [none,none]
   refine AppA.own 1048576 (by kernel_rfl) hb1.bld (.lit _ _ _) (by simp; omega) fun v' σ' ha'=>?_
   have hb':=hb1.app ha'
   simp only [go_sem,simprocAttr,↓reduceIte,h5,h17,hb'.ok,hb'.un]
   refine ⟨hc,_,rfl,int_succ hc (by rw [maxLen_eq]; omega),?_⟩
   rw [take_succ_get hpx,List.map_append,List.map_append]
   exact hb'
  ·rw [List.take_of_length_le hc] at hb
   exact ⟨v,rfl,hb⟩
 simp only [go_sem,simprocAttr,↓reduceIte,h5,hb.ok,hb.un]
 refine CallA.fn ((sz_print hW (l.map stanzaP) fun x hx=>by
  obtain ⟨p,hp1,rfl⟩:=List.mem_map.1 hx
  exact oneP (hm p hp1)).weak (.cons hb.weak .nil)) ?_
 simp only [go_sem,simprocAttr,↓reduceIte]
 exact hb.ext
end Go.Proofs.Tryz
end
section
namespace Go.Proofs.Tryz
open Go Go.Av
set_option maxRecDepth 10000
variable {W0 : World}
structure PSt (σ τ : Store) (n id : Nat) (v : AV) (ys : List AV) (w : AV) (zs : List AV) : Prop where
 c : τ[id]? = some (some (.cells 24 [.agg 24 [.int .i64 0,w]]))
 bw : Bld τ w 28 zs
 bv : Built σ τ v 24 ys
 fw : ∀ t ∈ foot w,n ≤ t
 fv : ∀ t ∈ foot v,t < n
 hn : σ.length ≤ n
 ni : n ≤ id
theorem PSt.add {σ τ τ' : Store} {n id : Nat} {v w w' : AV} {ys zs zs' : List AV} (h : PSt σ τ n id v ys w zs) (ha : App τ w 28 zs' w' τ') : τ'[id]? = some (some (.cells 24 [.agg 24 [.int .i64 0,w]])) ∧ NotM w' ∧ PSt σ (τ'.set id (some (.cells 24 [.agg 24 [.int .i64 0,w']]))) n id v ys w' zs':=by
 have hfr:=ha.fr
 have hlt:=(List.getElem?_eq_some_iff.1 h.c).1
 have c':=(hfr.old id hlt (h.bw.ne h.c (by simp))).trans h.c
 have hlt':=(List.getElem?_eq_some_iff.1 c').1
 have hn:=h.hn
 have hni:=h.ni
 refine ⟨c',ha.bld.notM,List.getElem?_set_self hlt',ha.bld.keep fun j hj=>List.getElem?_set_ne (by rintro rfl; exact ha.bld.ne c' (by simp) hj),⟨h.bv.bld.keep fun j hj=>?_,(hfr.toExt h.bv.ext fun j hj=>Nat.le_trans hn (h.fw j hj)).set (by omega) _,h.bv.tok⟩,fun t ht=>?_,h.fv,hn,hni⟩
 ·have h1:=h.fv j hj
  rw [List.getElem?_set_ne (by omega),hfr.old j (h.bv.bld.lt j hj) fun hm=>by have:=h.fw j hm; omega]
 ·rcases ha.foot h.bw t ht with h1 | h1
  ·exact h.fw t h1
  ·omega
def ElS (ys : List AV) (l : List EntN) : Prop:=∀ (j : Nat) (y : AV) (x : EntN),ys[j]? = some y → l[j]? = some x → Sub y (stzAV (stanzaE x))
theorem ElS.sub {ys : List AV} {l : List EntN} (h : ElS ys l) (hl : ys.length = l.length) : Sub (.sl 24 ys) (stzsAV (l.map stanzaE)):=by
 show Sub _ (.sl 24 ((l.map stanzaE).map stzAV))
 refine .sls (by simpa using hl) fun i x y hx hy=>?_
 rw [List.map_map,List.getElem?_map,Option.map_eq_some_iff] at hy
 obtain ⟨a,ha,rfl⟩:=hy
 exact h i x a hx ha
end Go.Proofs.Tryz
end
section
namespace Go.Av
open Go.Proofs.Tryz
end Go.Av
namespace Go.Proofs.Tryz
open Go Go.Av
set_option maxRecDepth 10000
variable {W0 : World}
theorem l9_once (hW : TabsOk W0) (b : List UInt8) : PureFn prog W0 9 [bytesAV b] (.bool true):=by
 refine fn_pure [2] [4,6,10] func9 rfl rfl ntmps9 rfl rfl (.bool _) fun hs σ=>?_
 simp only [go_sem,simprocAttr,↓reduceIte]
 refine CallA.fn (re_Packages hW b) ?_
 have hbad:=pkgsT_bad b
 have hmay:=pkgsT_may b
 generalize pkgsT b = q at *
 obtain ⟨l,e⟩:=q
 simp only at hbad hmay
 simp only [go_sem,simprocAttr,↓reduceIte,atAV,pkgsAV,List.length_map]
 refine ⟨fun he=>?_,fun he=>?_⟩
 ·rw [hbad (by simpa using he)]
  simp only [go_sem,simprocAttr,↓reduceIte]
  refine CallP.fnG (fun _=>l9_awake hW) ?_
  simp only [go_sem,simprocAttr,↓reduceIte]
 have he : mayAll l = 0:=hmay (by simpa using he)
 obtain ⟨hl,hm⟩:=mayAll_zero he
 have hn : ∀ p ∈ l,MayN p:=fun p hp=>by
  have:=mayPkg_good (hm p hp)
  exact ⟨by have:=this.con.1; omega,by have:=this.brk.1; omega,by have:=this.prov.1; omega⟩
 refine LoopVC.at [3] (.of (by kernel_rfl)) (fun A=>Ext σ A.st) ?_ fun B hst=>?_
 ·refine LoopVC.upto [3,25,26] (.of (by kernel_rfl)) l.length (fun i A=>A.env 27 = .int .i64 i ∧ Ext σ A.st) 0 (Nat.zero_le _) ?_ fun i B hi ⟨h27,hst⟩=>?_
  ·simp only [go_sem,simprocAttr,↓reduceIte]
   exact (Ext.refl _).app _
  simp only [go_sem,simprocAttr,↓reduceIte,h27,List.length_map]
  refine ⟨fun hc=>⟨hc,?_⟩,fun hc=>hst⟩
  obtain ⟨p,hp⟩:=get_some hc
  have hpm:=List.mem_of_getElem? hp
  simp only [atV_map hp]
  simp only [go_sem,simprocAttr,↓reduceIte,pkgAV,h27]
  refine CallA.fn (re_may p (hn p hpm)) ?_
  rw [hm p hpm]
  simp only [go_sem,simprocAttr,↓reduceIte,h27]
  exact ⟨hc,int_succ hc (by rw [maxLen_eq]; omega),hst.app _⟩
 simp only [go_sem,simprocAttr,↓reduceIte]
 refine CallA.fn (re_print hW l hn) ?_
 rcases pkgs_back he with hz | ⟨hz1,hz2⟩
 ·rw [hz]
  simp only [go_sem,simprocAttr,↓reduceIte]
  refine CallP.fnG (fun _=>l9_awake hW) ?_
  simp only [go_sem,simprocAttr,↓reduceIte]
  exact hst
 ·rw [hz1]
  generalize (printP l).1 = c at *
  simp only [go_sem,simprocAttr,↓reduceIte]
  refine CallA.fn (re_Packages hW c) ?_
  rw [hz2]
  have h1 : decide (l = l) = true:=decide_eq_true rfl
  simp only [go_sem,simprocAttr,↓reduceIte,atAV]
  refine CallP.fnG (fun _=>r9_samePkgs l l) ?_
  rw [h1]
  simp only [go_sem,simprocAttr,↓reduceIte]
  refine CallP.fnG (fun _=>re_mayAll l hn) ?_
  rw [he]
  simp only [go_sem,simprocAttr,↓reduceIte]
  refine CallP.fnG (fun _=>l9_awake hW) ?_
  simp only [go_sem,simprocAttr,↓reduceIte]
  exact hst.app _
end Go.Proofs.Tryz
end
