/- Texts that the last one of this claim rests on: a layer over the guide's own conditions for code; contracts of the functions that the law reaches, one by one. No conditions beside those of the given rows. -/
import Derived.Lib.Join
import Derived.Shelf.GgClosure.StringsRunes
import Derived.Shelf.Unicode.DecodeAny
import Derived.Shelf.Strings.SplitShaped
import Derived.Shelf.Strings.Prefix
import Derived.Shelf.Strings.SlTrimAscii
import Derived.Shelf.Strconv.Itoa3
import Derived.Shelf.Strings.OnBuilder
import Derived.Test.YtekjlnodoelblaaGreatDoorProg
import Derived.Test.YtekjlnodoelblaaGreatDoorWag
set_option linter.unusedSimpArgs false
set_option linter.unusedVariables false
section
namespace Go.Av
def signT (r : Int) : List UInt8:=if r = 1 then [60,60] else if r = 2 then [60,61] else if r = 3 then [61] else if r = 4 then [62,61] else if r = 5 then [62,62] else []
def atomT (a : Atom) : List UInt8:=if mayAtom a = true then (if a.rel = 0 then a.name else ((((a.name ++ [32,40]) ++ signT a.rel) ++ [32]) ++ a.ver) ++ [41]) else []
theorem signT_len (r : Int) : (signT r).length ≤ 2:=by
 unfold signT
 repeat' split
 all_goals decide
theorem nameOk_len {s : List UInt8} (h : nameOk s = true) : s.length ≤ 24:=by
 unfold nameOk at h
 simp only [Bool.and_eq_true,decide_eq_true_eq] at h
 exact h.1.2
theorem isVer_len {s : List UInt8} (h : isVer s = true) : s.length ≤ 48:=by
 unfold isVer verP at h
 split at h
 ·cases h
 ·omega
theorem mayAtom_len {a : Atom} (h : mayAtom a = true) : a.name.length ≤ 24 ∧ a.ver.length ≤ 48:=by
 unfold mayAtom at h
 rw [Bool.and_eq_true] at h
 refine ⟨nameOk_len h.1,?_⟩
 have h2:=h.2
 split at h2
 ·simp only [beq_iff_eq] at h2
  rw [h2]; simp
 ·simp only [Bool.and_eq_true] at h2
  exact isVer_len h2.2
theorem atomT_len (a : Atom) : (atomT a).length ≤ 78:=by
 unfold atomT
 split
 ·rename_i h
  obtain ⟨h1,h2⟩:=mayAtom_len h
  have h3:=signT_len a.rel
  split
  ·omega
  ·simp only [List.length_append,List.length_cons,List.length_nil]
   omega
 ·simp
end Go.Av
end
section
namespace Go.Av

def clsB (c : UInt8) : Nat:=if c = 32 ∨ c = 9 then 1 else if c = 40 ∨ c = 41 ∨ c = 44 ∨ c = 124 then 2 else if c = 60 ∨ c = 62 ∨ c = 61 then 3 else 0
def emitT (was : Nat) (cur : List UInt8) : List (List UInt8):=if was ≠ 1 ∧ cur ≠ [] then [cur] else []
def toksA : Nat → List UInt8 → List UInt8 → List (List UInt8)
 | was,cur,[]=>emitT was cur
 | was,cur,c :: r=>if clsB c ≠ was ∨ clsB c = 2 then emitT was cur ++ toksA (clsB c) [c] r else toksA was (cur ++ [c]) r
def toks (s : List UInt8) : List (List UInt8):=toksA 1 [] s
def wsB (c : UInt8) : Bool:=decide (clsB c = 1)
def skipW (s : List UInt8) : List UInt8:=s.dropWhile wsB
def nonM (c : UInt8) : Bool:=decide (clsB c = 0 ∨ clsB c = 3)
def relPre (t : List UInt8) : Int:=if [60,60].isPrefixOf t = true then 1 else if [60,61].isPrefixOf t = true then 2 else if [61].isPrefixOf t = true then 3 else if [62,61].isPrefixOf t = true then 4 else if [62,62].isPrefixOf t = true then 5 else 0
def relT (w : List UInt8) : Int:=if w = [60,60] then 1 else if w = [60,61] then 2 else if w = [61] then 3 else if w = [62,61] then 4 else if w = [62,62] then 5 else 0

def atomR (s : List UInt8) : Option (Atom × List UInt8) :=
 let s1:=skipW s
 if nameOk (s1.takeWhile nonM) = true then
  match skipW (s1.dropWhile nonM) with
  | []=>some (⟨s1.takeWhile nonM,0,[]⟩,[])
  | c :: t=>if c = 40 then
    let t1:=skipW t
    let t3:=skipW (t1.drop (signT (relPre t1)).length)
    if relPre t1 ≠ 0 ∧ isVer (t3.takeWhile nonM) = true then
     match skipW (t3.dropWhile nonM) with
     | []=>none
     | d :: t5=>if d = 41 then some (⟨s1.takeWhile nonM,relPre t1,t3.takeWhile nonM⟩,t5) else none
    else none
   else some (⟨s1.takeWhile nonM,0,[]⟩,c :: t)
 else none

def wordW : List (List UInt8) → List UInt8 × List (List UInt8)
 | []=>([],[])
 | w :: r=>(w,r)
def atomW (l : List (List UInt8)) : Option (Atom × List (List UInt8)) :=
 match (wordW l).2 with
 | []=>if mayAtom ⟨(wordW l).1,0,[]⟩ = true then some (⟨(wordW l).1,0,[]⟩,[]) else none
 | x :: l2=>if x = [40] then
   let l3:=(wordW l2).2
   let l4:=(wordW l3).2
   if relT (wordW l2).1 = 0 then none else
   match l4 with
   | []=>none
   | y :: l5=>if y = [41] then (if mayAtom ⟨(wordW l).1,relT (wordW l2).1,(wordW l3).1⟩ = true then some (⟨(wordW l).1,relT (wordW l2).1,(wordW l3).1⟩,l5) else none) else none
  else if mayAtom ⟨(wordW l).1,0,[]⟩ = true then some (⟨(wordW l).1,0,[]⟩,x :: l2) else none

theorem toksA_one : ∀ (s cur : List UInt8),toksA 1 cur s = toks s
 | [],cur=>by simp [toksA,toks,emitT]
 | c :: r,cur=>by
  unfold toks
  rw [toksA,toksA]
  have e1 : emitT 1 cur = []:=by simp [emitT]
  have e2 : emitT 1 [] = []:=by simp [emitT]
  rw [e1,e2]
  by_cases h : clsB c ≠ 1 ∨ clsB c = 2
  ·rw [if_pos h,if_pos h]
  ·rw [if_neg h,if_neg h,toksA_one r (cur ++ [c]),toksA_one r ([] ++ [c])]
theorem toks_nil : toks [] = []:=by simp [toks,toksA,emitT]
theorem toks_ws {c : UInt8} {r : List UInt8} (h : clsB c = 1) : toks (c :: r) = toks r:=by
 unfold toks
 rw [toksA,if_neg (by omega),toksA_one]
 rfl
theorem toks_go {c : UInt8} {r : List UInt8} (h : clsB c ≠ 1) : toks (c :: r) = toksA (clsB c) [c] r:=by
 unfold toks
 rw [toksA,if_pos (.inl h)]
 simp [emitT]
theorem toksA_end {k : Nat} {cur r : List UInt8} (hk : k ≠ 1) (hc : cur ≠ []) (h : ∀ c t,r = c :: t → clsB c ≠ k ∨ clsB c = 2) : toksA k cur r = cur :: toks r:=by
 have e : emitT k cur = [cur]:=by simp [emitT,hk,hc]
 cases r with
 | nil=>rw [toksA,e,toks_nil]
 | cons c t =>
  rw [toksA,if_pos (h c t rfl),e]
  by_cases h1 : clsB c = 1
  ·rw [h1,toksA_one,toks_ws h1]; rfl
  ·rw [toks_go h1]; rfl
theorem toksA_run {k : Nat} (hk1 : k ≠ 1) (hk2 : k ≠ 2) : ∀ {w cur r : List UInt8},cur ≠ [] → (∀ c ∈ w,clsB c = k) → (∀ c t,r = c :: t → clsB c ≠ k) → toksA k cur (w ++ r) = (cur ++ w) :: toks r
 | [],cur,r,hc,_,hr=>by
  rw [List.nil_append,List.append_nil]
  exact toksA_end hk1 hc fun c t e=>.inl (hr c t e)
 | c :: w,cur,r,hc,hw,hr=>by
  have h1 : clsB c = k:=hw c (by simp)
  rw [List.cons_append,toksA,if_neg (by omega),toksA_run hk1 hk2 (by simp) (fun x hx=>hw x (by simp [hx])) hr,List.append_assoc]
  rfl
theorem toks_mark {c : UInt8} {r : List UInt8} (h : clsB c = 2) : toks (c :: r) = [c] :: toks r:=by
 rw [toks_go (by omega),h]
 refine toksA_end (by omega) (by simp) fun d t _=>?_
 by_cases h2 : clsB d = 2
 ·exact .inr h2
 ·exact .inl h2
theorem toks_skip : ∀ s : List UInt8,toks (skipW s) = toks s
 | []=>rfl
 | c :: r=>by
  unfold skipW
  rw [List.dropWhile_cons]
  by_cases h : clsB c = 1
  ·rw [if_pos (by simp [wsB,h]),toks_ws h]
   exact toks_skip r
  ·rw [if_neg (by simp [wsB,h])]
theorem skip_head {s : List UInt8} {c : UInt8} {t : List UInt8} (h : skipW s = c :: t) : clsB c ≠ 1:=by
 induction s with
 | nil=>simp [skipW] at h
 | cons d r ih =>
  unfold skipW at h ih
  rw [List.dropWhile_cons] at h
  split at h
  ·exact ih h
  ·rename_i hd
   cases h
   simpa [wsB] using hd
theorem skip_id {c : UInt8} {t : List UInt8} (h : clsB c ≠ 1) : skipW (c :: t) = c :: t:=by
 unfold skipW
 rw [List.dropWhile_cons,if_neg (by simp [wsB,h])]
theorem skip_skip (s : List UInt8) : skipW (skipW s) = skipW s:=by
 cases hs : skipW s with
 | nil=>rfl
 | cons c t=>exact skip_id (skip_head hs)
theorem dw_head {α : Type} {p : α → Bool} : ∀ {l : List α} {c : α} {t : List α},l.dropWhile p = c :: t → p c = false
 | [],_,_,h=>by simp at h
 | d :: r,c,t,h=>by
  rw [List.dropWhile_cons] at h
  split at h
  ·exact dw_head h
  ·rename_i hd
   cases h
   simpa using hd
theorem tw_all {α : Type} {p : α → Bool} : ∀ {l : List α} {c : α},c ∈ l.takeWhile p → p c = true
 | [],_,h=>by simp at h
 | d :: r,c,h=>by
  rw [List.takeWhile_cons] at h
  split at h
  ·rename_i hd
   rcases List.mem_cons.1 h with rfl | h
   ·exact hd
   ·exact tw_all h
  ·simp at h
def isK (k : Nat) (c : UInt8) : Bool:=decide (clsB c = k)
theorem toks_cls {d : UInt8} {u : List UInt8} {k : Nat} (hk : clsB d = k) (h1 : k ≠ 1) (h2 : k ≠ 2) : toks (d :: u) = (d :: u).takeWhile (isK k) :: toks ((d :: u).dropWhile (isK k)):=by
 have hd : isK k d = true:=by simp [isK,hk]
 rw [List.takeWhile_cons_of_pos hd,List.dropWhile_cons_of_pos hd,toks_go (by omega),hk]
 have hr:=toksA_run (k:=k) h1 h2 (w:=u.takeWhile (isK k)) (cur:=[d]) (r:=u.dropWhile (isK k)) (by simp) (fun c hc=>by simpa [isK] using tw_all hc) (fun c t e=>by simpa [isK] using dw_head e)
 rw [List.takeWhile_append_dropWhile] at hr
 exact hr
theorem toks_head {d : UInt8} {u : List UInt8} (h : clsB d ≠ 1) : ∃ x l,toks (d :: u) = (d :: x) :: l ∧ ∀ c ∈ x,clsB c = clsB d:=by
 by_cases h2 : clsB d = 2
 ·exact ⟨[],_,toks_mark h2,by simp⟩
 ·have hd : isK (clsB d) d = true:=by simp [isK]
  refine ⟨u.takeWhile (isK (clsB d)),toks ((d :: u).dropWhile (isK (clsB d))),?_,fun c hc=>by simpa [isK] using tw_all hc⟩
  rw [toks_cls rfl h h2,List.takeWhile_cons_of_pos hd]
theorem toks_word {s : List UInt8} (_hs : ∀ c t,s = c :: t → clsB c ≠ 1) (hw : ∀ c ∈ s.takeWhile nonM,clsB c = 0) (hne : s.takeWhile nonM ≠ []) : toks s = s.takeWhile nonM :: toks (s.dropWhile nonM):=by
 have hr : ∀ c t,s.dropWhile nonM = c :: t → clsB c ≠ 0:=fun c t e h0=>by
  have:=dw_head e
  simp [nonM,h0] at this
 have happ:=List.takeWhile_append_dropWhile (p:=nonM) (l:=s)
 generalize s.takeWhile nonM = w at *
 generalize s.dropWhile nonM = r at *
 cases w with
 | nil=>exact absurd rfl hne
 | cons c w =>
  have h0 : clsB c = 0:=hw c (by simp)
  rw [← happ,List.cons_append,toks_go (by omega),h0,toksA_run (by omega) (by omega) (by simp) (fun x hx=>hw x (by simp [hx])) hr]
  rfl

theorem cls_cases {c : UInt8} (h : clsB c ≠ 0) : c = 32 ∨ c = 9 ∨ c = 40 ∨ c = 41 ∨ c = 44 ∨ c = 124 ∨ c = 60 ∨ c = 62 ∨ c = 61:=by
 unfold clsB at h
 split at h
 ·rename_i h1; rcases h1 with h1 | h1 <;> simp [h1]
 ·split at h
  ·rename_i h1; rcases h1 with h1 | h1 | h1 | h1 <;> simp [h1]
  ·split at h
   ·rename_i h1; rcases h1 with h1 | h1 | h1 <;> simp [h1]
   ·exact absurd rfl h
theorem cls_plain {c : UInt8} (h : clsB c ≠ 0) : digitC c = false ∧ revCh c = false ∧ upCh c = false ∧ c ≠ 58 ∧ c ≠ 45 ∧ ∀ m,nameCh m c = false:=by
 rcases cls_cases h with rfl | rfl | rfl | rfl | rfl | rfl | rfl | rfl | rfl <;> exact ⟨by decide,by decide,by decide,by decide,by decide,fun m=>by simp [nameCh,smallC,digitC]⟩
theorem name_plain {w : List UInt8} (h : nameOk w = true) : ∀ c ∈ w,clsB c = 0:=by
 intro c hc
 obtain ⟨j,hj⟩:=List.mem_iff_getElem?.1 hc
 unfold nameOk at h
 rw [Bool.and_eq_true] at h
 have:=allIdxB_iff.1 h.2 j c hj
 refine Classical.byContradiction fun hn=>?_
 rw [(cls_plain hn).2.2.2.2.2] at this
 cases this
theorem mem_parts {α : Type} {l : List α} {c : α} (i : Nat) (h : c ∈ l) : c ∈ l.take i ∨ l[i]? = some c ∨ c ∈ l.drop (i + 1):=by
 obtain ⟨j,hj⟩:=List.mem_iff_getElem?.1 h
 rcases Nat.lt_trichotomy j i with hl | rfl | hg
 ·exact .inl (List.mem_iff_getElem?.2 ⟨j,by rw [List.getElem?_take,if_pos hl]; exact hj⟩)
 ·exact .inr (.inl hj)
 ·exact .inr (.inr (List.mem_iff_getElem?.2 ⟨j - (i + 1),by rw [List.getElem?_drop,show i + 1 + (j - (i + 1)) = j by omega]; exact hj⟩))
theorem ver_plain {w : List UInt8} (h : isVer w = true) : ∀ c ∈ w,clsB c = 0:=by
 intro c hc
 refine Classical.byContradiction fun hn=>?_
 obtain ⟨p1,p2,p3,p4,p5,_⟩:=cls_plain hn
 unfold isVer verP at h
 split at h
 ·cases h
 split at h
 ·cases h
 rename_i e t he
 split at h
 ·cases h
 rename_i u r hr
 split at h
 case isFalse=>cases h
 rename_i hg
 simp only [Bool.and_eq_true,List.all_eq_true] at hg
 obtain ⟨⟨g1,g2⟩,_⟩:=hg
 have ht : c ∈ t:=by
  unfold epochP at he
  split at he
  ·rename_i h0
   simp only at he
   split at he
   ·rename_i hd
    cases he
    rcases mem_parts (firstOf 58 w).toNat hc with h1 | h1 | h1
    ·have:=List.all_eq_true.1 hd.2.2 c h1
     rw [p1] at this
     cases this
    ·rcases firstOf_cases 58 w with ⟨h2,_⟩ | ⟨i,h2,h3,_⟩
     ·omega
     ·rw [h2,Int.toNat_natCast,h3] at h1
      cases h1
      exact absurd rfl p4
    ·exact h1
   ·cases he
  ·cases he
   exact hc
 have hcu : c ∈ u ∨ c ∈ r:=by
  unfold revP at hr
  split at hr
  ·rename_i h0
   split at hr
   ·cases hr
   ·cases hr
    rcases mem_parts (lastOf 45 t).toNat ht with h1 | h1 | h1
    ·exact .inl h1
    ·rcases lastOf_cases 45 t with ⟨h2,_⟩ | ⟨i,h2,h3,_⟩
     ·omega
     ·rw [h2,Int.toNat_natCast,h3] at h1
      cases h1
      exact absurd rfl p5
    ·exact .inr h1
  ·cases hr
   exact .inl ht
 rcases hcu with h1 | h1
 ·have:=g2 c h1
  rw [p3] at this
  cases this
 ·have:=g1 c h1
  rw [p2] at this
  cases this
theorem ver_ne {w : List UInt8} (h : isVer w = true) : w ≠ []:=fun e=>by
 rw [e] at h
 cases h
theorem name_ne {w : List UInt8} (h : nameOk w = true) : w ≠ []:=fun e=>by
 rw [e] at h
 cases h

theorem atomW_bad {l : List (List UInt8)} (h : nameOk (wordW l).1 = false) : atomW l = none:=by
 have hm : ∀ r v,mayAtom ⟨(wordW l).1,r,v⟩ = false:=fun r v=>by simp [mayAtom,h]
 unfold atomW
 split
 ·rw [hm,if_neg (by simp)]
 ·split
  ·simp only
   split
   ·rfl
   ·split
    ·rfl
    ·split
     ·rw [hm,if_neg (by simp)]
     ·rfl
  ·rw [hm,if_neg (by simp)]
theorem plain_run {s : List UInt8} {d : UInt8} {u : List UInt8} (hs : s = d :: u) (hd : clsB d = 0) : (s.takeWhile (isK 0) = s.takeWhile nonM ∧ toks s = s.takeWhile nonM :: toks (s.dropWhile nonM)) ∨ ∃ x l,toks s = s.takeWhile (isK 0) :: x :: l ∧ (∃ e y,x = e :: y ∧ clsB e = 3):=by
 have h1:=toks_cls (u:=u) hd (by omega) (by omega)
 rw [← hs] at h1
 cases hr : s.dropWhile (isK 0) with
 | nil =>
  left
  have happ:=List.takeWhile_append_dropWhile (p:=isK 0) (l:=s)
  rw [hr,List.append_nil] at happ
  have hall : ∀ c ∈ s,nonM c = true:=fun c hc=>by
   rw [← happ] at hc
   have:=tw_all hc
   simp only [isK,decide_eq_true_eq] at this
   simp [nonM,this]
  have e1 : s.takeWhile nonM = s:=by
   refine List.ext_getElem? fun i=>?_
   have:=List.takeWhile_append_dropWhile (p:=nonM) (l:=s)
   have hd : s.dropWhile nonM = []:=by
    cases hq : s.dropWhile nonM with
    | nil=>rfl
    | cons c t =>
     have h2:=dw_head hq
     have h3 : c ∈ s:=by rw [← this,hq]; simp
     rw [hall c h3] at h2
     cases h2
   rw [hd,List.append_nil] at this
   rw [this]
  have e2 : s.dropWhile nonM = []:=by
   have:=List.takeWhile_append_dropWhile (p:=nonM) (l:=s)
   rw [e1] at this
   simpa using this
  refine ⟨by rw [happ,e1],?_⟩
  rw [h1,hr,happ,e1,e2]
 | cons e y =>
  have he:=dw_head hr
  simp only [isK,decide_eq_false_iff_not] at he
  have happ:=List.takeWhile_append_dropWhile (p:=isK 0) (l:=s)
  rw [hr] at happ
  by_cases h3 : clsB e = 3
  ·right
   obtain ⟨x,l,hx,_⟩:=toks_head (u:=y) (d:=e) (by omega)
   exact ⟨e :: x,l,by rw [h1,hr,hx],e,x,rfl,h3⟩
  ·left
   have hn : nonM e = false:=by simp [nonM,he,h3]
   have hall : ∀ c ∈ s.takeWhile (isK 0),nonM c = true:=fun c hc=>by
    have:=tw_all hc
    simp only [isK,decide_eq_true_eq] at this
    simp [nonM,this]
   have e1 : s.takeWhile nonM = s.takeWhile (isK 0) ∧ s.dropWhile nonM = e :: y:=by
    have : ∀ (w : List UInt8),(∀ c ∈ w,nonM c = true) → (w ++ e :: y).takeWhile nonM = w ∧ (w ++ e :: y).dropWhile nonM = e :: y:=fun w=>by
     induction w with
     | nil=>intro _; simp [hn]
     | cons c w ih =>
      intro hw
      have hc:=hw c (by simp)
      obtain ⟨i1,i2⟩:=ih fun x hx=>hw x (by simp [hx])
      rw [List.cons_append,List.takeWhile_cons_of_pos hc,List.dropWhile_cons_of_pos hc,i1,i2]
      exact ⟨rfl,rfl⟩
    have k2:=this (s.takeWhile (isK 0)) hall
    rw [happ] at k2
    exact k2
   rw [e1.1,e1.2]
   exact ⟨rfl,by rw [h1,hr]⟩

theorem relPre_cases (t : List UInt8) : relPre t = 0 ∨ ((relPre t = 1 ∨ relPre t = 2 ∨ relPre t = 3 ∨ relPre t = 4 ∨ relPre t = 5) ∧ ∃ v,t = signT (relPre t) ++ v):=by
 have key : ∀ {x : List UInt8},x.isPrefixOf t = true → ∃ v,t = x ++ v:=fun h=>by
  obtain ⟨v,hv⟩:=List.isPrefixOf_iff_prefix.1 h
  exact ⟨v,hv.symm⟩
 unfold relPre
 split
 ·rename_i h; exact .inr ⟨by simp,key h⟩
 ·split
  ·rename_i h; exact .inr ⟨by simp,key h⟩
  ·split
   ·rename_i h; exact .inr ⟨by simp,key h⟩
   ·split
    ·rename_i h; exact .inr ⟨by simp,key h⟩
    ·split
     ·rename_i h; exact .inr ⟨by simp,key h⟩
     ·exact .inl rfl
theorem relT_cases {g : List UInt8} (h : relT g ≠ 0) : g = [60,60] ∨ g = [60,61] ∨ g = [61] ∨ g = [62,61] ∨ g = [62,62]:=by
 unfold relT at h
 repeat' split at h
 all_goals first | exact absurd rfl h | (rename_i e; simp [e])
theorem cls3 {x : List UInt8} (h : x = [60,60] ∨ x = [60,61] ∨ x = [61] ∨ x = [62,61] ∨ x = [62,62]) : ∀ c ∈ x,clsB c = 3:=by
 rcases h with rfl | rfl | rfl | rfl | rfl <;> intro c hc <;> simp at hc <;> (try rcases hc with rfl | rfl) <;> (try subst hc) <;> decide
theorem signT_cases {k : Int} (h : k = 1 ∨ k = 2 ∨ k = 3 ∨ k = 4 ∨ k = 5) : signT k = [60,60] ∨ signT k = [60,61] ∨ signT k = [61] ∨ signT k = [62,61] ∨ signT k = [62,62]:=by
 rcases h with rfl | rfl | rfl | rfl | rfl <;> decide
theorem tw_app {α : Type} {p : α → Bool} : ∀ {x v : List α},(∀ c ∈ x,p c = true) → (x ++ v).takeWhile p = x ++ v.takeWhile p ∧ (x ++ v).dropWhile p = v.dropWhile p
 | [],v,_=>⟨rfl,rfl⟩
 | c :: x,v,h=>by
  have hc:=h c (by simp)
  obtain ⟨h1,h2⟩:=tw_app (v:=v) fun d hd=>h d (List.mem_cons_of_mem _ hd)
  rw [List.cons_append,List.takeWhile_cons_of_pos hc,List.dropWhile_cons_of_pos hc,h1,h2]
  exact ⟨rfl,rfl⟩
theorem rel_none {t : List UInt8} (hs : ∀ c u,t = c :: u → clsB c ≠ 1) (h : relPre t = 0) : relT (wordW (toks t)).1 = 0:=by
 refine Classical.byContradiction fun hn=>?_
 have hg:=relT_cases hn
 have h3:=cls3 hg
 cases t with
 | nil =>
  rw [toks_nil] at hn
  exact hn rfl
 | cons d u =>
  have hd:=hs d u rfl
  obtain ⟨x,l,hx,_⟩:=toks_head (u:=u) hd
  rw [hx] at hg h3
  have hd3 : clsB d = 3:=h3 d (by simp [wordW])
  have hc:=toks_cls (u:=u) hd3 (by omega) (by omega)
  have happ:=List.takeWhile_append_dropWhile (p:=isK 3) (l:=d :: u)
  rw [hx] at hc
  have he:=(List.cons.inj hc).1
  rw [← he] at happ
  simp only [wordW] at hg
  rw [← happ] at h
  generalize (d :: u).dropWhile (isK 3) = r at h
  rcases hg with e | e | e | e | e <;> rw [e] at h <;> simp [relPre,List.isPrefixOf] at h
theorem rel_some {t : List UInt8} (h : relPre t ≠ 0) : ((wordW (toks t)).1 = signT (relPre t) ∧ relT (signT (relPre t)) = relPre t ∧ (wordW (toks t)).2 = toks (t.drop (signT (relPre t)).length)) ∨ (relT (wordW (toks t)).1 = 0 ∧ isVer ((skipW (t.drop (signT (relPre t)).length)).takeWhile nonM) = false):=by
 obtain ⟨hk,v,hv⟩:=(relPre_cases t).resolve_left h
 have hs:=signT_cases hk
 have h3:=cls3 hs
 have hr : relT (signT (relPre t)) = relPre t:=by
  rcases hk with e | e | e | e | e <;> rw [e] <;> decide
 generalize relPre t = k at hk hv hs h3 hr h
 generalize hx : signT k = x at *
 subst hv
 rw [List.drop_left]
 have hne : x ≠ []:=by rcases hs with e | e | e | e | e <;> rw [e] <;> simp
 obtain ⟨d,y,rfl⟩ : ∃ d y,x = d :: y:=by
  cases x with
  | nil=>exact absurd rfl hne
  | cons d y=>exact ⟨d,y,rfl⟩
 have hd3:=h3 d (by simp)
 have hc:=toks_cls (u:=y ++ v) hd3 (by omega) (by omega)
 rw [← List.cons_append] at hc
 obtain ⟨t1,t2⟩:=tw_app (p:=isK 3) (v:=v) (x:=d :: y) fun c hc=>by simp [isK,h3 c hc]
 rw [t1,t2] at hc
 rw [hc]
 simp only [wordW]
 cases v with
 | nil=>left; simp [hr]
 | cons e z =>
  by_cases he : clsB e = 3
  ·right
   have he' : isK 3 e = true:=by simp [isK,he]
   rw [List.takeWhile_cons_of_pos he']
   constructor
   ·refine Classical.byContradiction fun hn=>?_
    have hg:=relT_cases hn
    rcases hs with e1 | e1 | e1 | e1 | e1 <;> rw [e1] at hg hx <;> simp at hg
   ·rw [skip_id (by omega)]
    have hn : nonM e = true:=by simp [nonM,he]
    rw [List.takeWhile_cons_of_pos hn]
    cases hv : isVer (e :: z.takeWhile nonM) with
    | false=>rfl
    | true =>
     have:=ver_plain hv e (by simp)
     omega
  ·left
   have he' : ¬ isK 3 e = true:=by simp [isK,he]
   rw [List.takeWhile_cons_of_neg he',List.dropWhile_cons_of_neg he',List.append_nil]
   exact ⟨rfl,hr,rfl⟩

theorem atomW_par (w : List UInt8) (l : List (List UInt8)) : atomW (w :: [40] :: l) = if relT (wordW l).1 = 0 then none else
   match (wordW (wordW l).2).2 with
   | []=>none
   | y :: l5=>if y = [41] then (if mayAtom ⟨w,relT (wordW l).1,(wordW (wordW l).2).1⟩ = true then some (⟨w,relT (wordW l).1,(wordW (wordW l).2).1⟩,l5) else none) else none:=by
 unfold atomW
 exact if_pos rfl
theorem atom_eq (s : List UInt8) : (∀ a t,atomR s = some (a,t) → atomW (toks s) = some (a,toks t)) ∧ (atomR s = none → atomW (toks s) = none ∨ ∃ a x l,atomW (toks s) = some (a,x :: l) ∧ x ≠ [44] ∧ x ≠ [124]):=by
 rw [← toks_skip s]
 unfold atomR
 simp only
 have hsk : ∀ c t,skipW s = c :: t → clsB c ≠ 1:=fun c t h=>skip_head h
 generalize skipW s = s1 at hsk
 by_cases hn : nameOk (s1.takeWhile nonM) = true
 case neg =>
  rw [if_neg hn]
  refine ⟨fun a t h=>(by cases h),fun _=>?_⟩
  cases s1 with
  | nil=>left; rw [toks_nil]; exact atomW_bad (by decide)
  | cons d u =>
   have hd:=hsk d u rfl
   by_cases hd0 : clsB d = 0
   ·rcases plain_run rfl hd0 with ⟨_,h2⟩ | ⟨x,l,h2,e,y,rfl,h3⟩
    ·left
     rw [h2]
     exact atomW_bad (by simpa [wordW] using hn)
    ·by_cases hm : nameOk ((d :: u).takeWhile (isK 0)) = true
     ·right
      have hx : e :: y ≠ [40]:=fun h=>by
       cases h
       revert h3; decide
      refine ⟨⟨(d :: u).takeWhile (isK 0),0,[]⟩,e :: y,l,?_,fun h=>?_,fun h=>?_⟩
      ·rw [h2]
       unfold atomW
       simp only [wordW,if_neg hx]
       exact if_pos (by simp [mayAtom,hm])
      ·cases h
       revert h3; decide
      ·cases h
       revert h3; decide
     ·left
      rw [h2]
      exact atomW_bad (by simpa [wordW] using hm)
   ·left
    obtain ⟨x,l,hx,_⟩:=toks_head (u:=u) hd
    rw [hx]
    refine atomW_bad ?_
    cases hm : nameOk (wordW ((d :: x) :: l)).1 with
    | false=>rfl
    | true=>exact absurd (name_plain hm d (by simp [wordW])) hd0
 rw [if_pos hn]
 have hw:=toks_word hsk (name_plain hn) (name_ne hn)
 have hm0 : mayAtom ⟨s1.takeWhile nonM,0,[]⟩ = true:=by simp [mayAtom,hn]
 generalize s1.takeWhile nonM = w at *
 rw [hw,← toks_skip (s1.dropWhile nonM)]
 have hsk2 : ∀ c t,skipW (s1.dropWhile nonM) = c :: t → clsB c ≠ 1:=fun c t h=>skip_head h
 generalize skipW (s1.dropWhile nonM) = r at hsk2
 cases r with
 | nil =>
  refine ⟨fun a t h=>?_,fun h=>by cases h⟩
  cases h
  rw [toks_nil]
  simp only [atomW,wordW]
  exact if_pos hm0
 | cons c t =>
  simp only
  by_cases hc : c = 40
  case neg =>
   rw [if_neg hc]
   refine ⟨fun a t' h=>?_,fun h=>by cases h⟩
   cases h
   obtain ⟨x,l,hx,_⟩:=toks_head (u:=t) (hsk2 c t rfl)
   rw [hx]
   have hx4 : c :: x ≠ [40]:=fun h=>by cases h; exact hc rfl
   simp only [atomW,wordW,if_neg hx4]
   exact if_pos hm0
  subst hc
  rw [if_pos rfl,toks_mark (by decide),← toks_skip t]
  have hsk3 : ∀ c u,skipW t = c :: u → clsB c ≠ 1:=fun c u h=>skip_head h
  generalize skipW t = t1 at hsk3
  by_cases hr : relPre t1 = 0
  ·have h0:=rel_none hsk3 hr
   have e : atomW (w :: [40] :: toks t1) = none:=by
    rw [atomW_par,if_pos h0]
   rw [if_neg (by simp [hr]),e]
   exact ⟨fun a t h=>(by cases h),fun _=>.inl rfl⟩
  rcases rel_some hr with ⟨g1,g2,g3⟩ | ⟨g1,g2⟩
  case inr =>
   have e : atomW (w :: [40] :: toks t1) = none:=by
    rw [atomW_par,if_pos g1]
   rw [if_neg (by simp [g2]),e]
   exact ⟨fun a t h=>(by cases h),fun _=>.inl rfl⟩
  generalize relPre t1 = k at *
  have hk : atomW (w :: [40] :: toks t1) = match (wordW (toks (t1.drop (signT k).length))).2 with
   | []=>none
   | y :: l5=>if y = [41] then (if mayAtom ⟨w,k,(wordW (toks (t1.drop (signT k).length))).1⟩ = true then some (⟨w,k,(wordW (toks (t1.drop (signT k).length))).1⟩,l5) else none) else none:=by
   rw [← g3,atomW_par,g1,g2,if_neg hr]
  rw [hk,← toks_skip (t1.drop (signT k).length)]
  have hsk4 : ∀ c u,skipW (t1.drop (signT k).length) = c :: u → clsB c ≠ 1:=fun c u h=>skip_head h
  generalize skipW (t1.drop (signT k).length) = t3 at hsk4
  by_cases hv : isVer (t3.takeWhile nonM) = true
  ·rw [if_pos ⟨hr,hv⟩]
   rw [toks_word hsk4 (ver_plain hv) (ver_ne hv)]
   simp only [wordW]
   have hmk : mayAtom ⟨w,k,t3.takeWhile nonM⟩ = true:=by
    have hk5 : 1 ≤ k ∧ k ≤ 5:=by
     have:=g2
     unfold relT at this
     repeat' split at this
     all_goals omega
    simp [mayAtom,hn,hr,hv,hk5.1,hk5.2]
   rw [← toks_skip (t3.dropWhile nonM)]
   have hsk5 : ∀ c u,skipW (t3.dropWhile nonM) = c :: u → clsB c ≠ 1:=fun c u h=>skip_head h
   generalize skipW (t3.dropWhile nonM) = r5 at hsk5
   cases r5 with
   | nil =>
    rw [toks_nil]
    exact ⟨fun a t h=>(by cases h),fun _=>.inl rfl⟩
   | cons d t5 =>
    simp only
    by_cases hd : d = 41
    ·subst hd
     rw [if_pos rfl,toks_mark (by decide)]
     simp only [if_true]
     refine ⟨fun a t h=>?_,fun h=>by cases h⟩
     cases h
     exact if_pos hmk
    ·rw [if_neg hd]
     obtain ⟨x,l,hx,_⟩:=toks_head (u:=t5) (hsk5 d t5 rfl)
     rw [hx]
     have hx4 : d :: x ≠ [41]:=fun h=>by cases h; exact hd rfl
     simp only [if_neg hx4]
     exact ⟨fun a t h=>(by cases h),fun _=>by simp⟩
  ·rw [if_neg fun h=>hv h.2]
   refine ⟨fun a t h=>(by cases h),fun _=>.inl ?_⟩
   have hbad : ∀ v,isVer v = false → mayAtom ⟨w,k,v⟩ = false:=fun v h=>by simp [mayAtom,hr,h]
   cases t3 with
   | nil=>rw [toks_nil]; rfl
   | cons d u =>
    by_cases hd0 : clsB d = 0
    ·rcases plain_run rfl hd0 with ⟨_,h2⟩ | ⟨x,l,h2,e,y,rfl,h3⟩
     ·rw [h2]
      simp only [wordW]
      split
      ·rfl
      ·split
       ·have hb:=hbad _ (by simpa using hv)
        exact if_neg fun e=>by rw [hb] at e; cases e
       ·rfl
     ·rw [h2]
      simp only [wordW]
      rw [if_neg]
      intro h
      cases h
      revert h3; decide
    ·obtain ⟨x,l,hx,_⟩:=toks_head (u:=u) (hsk4 d u rfl)
     rw [hx]
     simp only [wordW]
     have hvx : isVer (d :: x) = false:=by
      cases hq : isVer (d :: x) with
      | false=>rfl
      | true=>exact absurd (ver_plain hq d (by simp)) hd0
     split
     ·rfl
     ·split
      ·have hb:=hbad _ hvx
       exact if_neg fun e=>by rw [hb] at e; cases e
      ·rfl
end Go.Av
end
section
namespace Go.Av

def clR (may : Atom → Bool) (one : Bool) : Nat → List UInt8 → Clause → Except Int (Clause × List UInt8)
 | 0,_,_=>.error 12
 | f + 1,s,out=>match atomR s with
  | none=>.error 3
  | some (a,t)=>if may a = false then .error 3 else if one = true then .ok (out ++ [a],skipW t) else match skipW t with
   | []=>.ok (out ++ [a],[])
   | d :: u=>if d = 124 then clR may one f u (out ++ [a]) else .ok (out ++ [a],d :: u)
def clW (may : Atom → Bool) (one : Bool) : Nat → List (List UInt8) → Clause → Except Int (Clause × List (List UInt8))
 | 0,_,_=>.error 12
 | f + 1,l,out=>match atomW l with
  | none=>.error 3
  | some (a,t)=>if may a = false then .error 3 else if one = true then .ok (out ++ [a],t) else match t with
   | []=>.ok (out ++ [a],[])
   | x :: u=>if x = [124] then clW may one f u (out ++ [a]) else .ok (out ++ [a],x :: u)
def relL (may : Atom → Bool) (one : Bool) : Nat → List UInt8 → List Clause → List Clause × Int
 | 0,_,_=>([],12)
 | f + 1,s,out=>match clR may one 6 s [] with
  | .error e=>([],e)
  | .ok (c,t)=>match t with
   | []=>(out ++ [c],0)
   | d :: u=>if d = 44 then relL may one f u (out ++ [c]) else ([],3)
def relLW (may : Atom → Bool) (one : Bool) : Nat → List (List UInt8) → List Clause → List Clause × Int
 | 0,_,_=>([],12)
 | f + 1,l,out=>match clW may one 6 l [] with
  | .error e=>([],e)
  | .ok (c,t)=>match t with
   | []=>(out ++ [c],0)
   | x :: u=>if x = [44] then relLW may one f u (out ++ [c]) else ([],3)
def relP (may : Atom → Bool) (one : Bool) (s : List UInt8) : List Clause × Int:=if skipW s = [] then ([],0) else relL may one 12 s []
def relPW (may : Atom → Bool) (one : Bool) (l : List (List UInt8)) : List Clause × Int:=if l = [] then ([],0) else relLW may one 12 l []

theorem cl_eq (may : Atom → Bool) (one : Bool) : ∀ (f : Nat) (s : List UInt8) (out : Clause),(∀ c t,clR may one f s out = .ok (c,t) → clW may one f (toks s) out = .ok (c,toks t) ∧ skipW t = t) ∧ (∀ e,clR may one f s out = .error e → clW may one f (toks s) out = .error e ∨ (e = 3 ∧ ∃ c x l,clW may one f (toks s) out = .ok (c,x :: l) ∧ x ≠ [44]))
 | 0,s,out=>by
  refine ⟨fun c t h=>by simp [clR] at h,fun e h=>.inl ?_⟩
  simp only [clR,Except.error.injEq] at h
  subst h
  rfl
 | f + 1,s,out=>by
  obtain ⟨h1,h2⟩:=atom_eq s
  rw [clR,clW]
  cases ha : atomR s with
  | none =>
   refine ⟨fun c t h=>by simp at h,fun e h=>?_⟩
   simp only [Except.error.injEq] at h
   subst h
   rcases h2 ha with h3 | ⟨a,x,l,h3,h4,h5⟩
   ·left; rw [h3]
   ·rw [h3]
    simp only
    by_cases hm : may a = false
    ·left; rw [if_pos hm]
    ·rw [if_neg hm]
     right
     refine ⟨?_,?_⟩
     ·first | rfl | trivial
     by_cases ho : one = true
     ·rw [if_pos ho]
      exact ⟨_,x,l,rfl,h4⟩
     ·rw [if_neg ho,if_neg h5]
      exact ⟨_,x,l,rfl,h4⟩
  | some at' =>
   obtain ⟨a,t⟩:=at'
   rw [h1 a t ha]
   simp only
   by_cases hm : may a = false
   ·rw [if_pos hm,if_pos hm]
    exact ⟨fun c t h=>by simp at h,fun e h=>.inl (by simpa using h)⟩
   rw [if_neg hm,if_neg hm]
   by_cases ho : one = true
   ·rw [if_pos ho,if_pos ho]
    refine ⟨fun c u h=>?_,fun e h=>by simp at h⟩
    simp only [Except.ok.injEq,Prod.mk.injEq] at h
    obtain ⟨rfl,rfl⟩:=h
    exact ⟨by rw [toks_skip],skip_skip t⟩
   rw [if_neg ho,if_neg ho,← toks_skip t]
   have hsk : ∀ c u,skipW t = c :: u → clsB c ≠ 1:=fun c u h=>skip_head h
   generalize skipW t = r at hsk
   cases r with
   | nil =>
    rw [toks_nil]
    refine ⟨fun c u h=>?_,fun e h=>by simp at h⟩
    simp only [Except.ok.injEq,Prod.mk.injEq] at h
    obtain ⟨rfl,rfl⟩:=h
    exact ⟨by rw [toks_nil],rfl⟩
   | cons d u =>
    simp only
    by_cases hd : d = 124
    ·subst hd
     rw [if_pos rfl,toks_mark (by decide)]
     simp only [if_true]
     exact cl_eq may one f u (out ++ [a])
    ·rw [if_neg hd]
     obtain ⟨x,l,hx,_⟩:=toks_head (u:=u) (hsk d u rfl)
     have hx4 : d :: x ≠ [124]:=fun h=>by cases h; exact hd rfl
     rw [hx]
     simp only [if_neg hx4]
     refine ⟨fun c v h=>?_,fun e h=>by simp at h⟩
     simp only [Except.ok.injEq,Prod.mk.injEq] at h
     obtain ⟨rfl,rfl⟩:=h
     exact ⟨by rw [hx],skip_id (hsk d u rfl)⟩
theorem rel_eq (may : Atom → Bool) (one : Bool) : ∀ (f : Nat) (s : List UInt8) (out : List Clause),relL may one f s out = relLW may one f (toks s) out
 | 0,s,out=>rfl
 | f + 1,s,out=>by
  obtain ⟨h1,h2⟩:=cl_eq may one 6 s []
  rw [relL,relLW]
  cases hc : clR may one 6 s [] with
  | error e =>
   simp only
   rcases h2 e hc with h3 | ⟨rfl,c,x,l,h3,h4⟩
   ·rw [h3]
   ·rw [h3]
    simp only [if_neg h4]
  | ok ct =>
   obtain ⟨c,t⟩:=ct
   obtain ⟨h3,h4⟩:=h1 c t hc
   rw [h3]
   simp only
   cases t with
   | nil=>rw [toks_nil]
   | cons d u =>
    have hd : clsB d ≠ 1:=skip_head h4
    simp only
    by_cases h44 : d = 44
    ·subst h44
     rw [if_pos rfl,toks_mark (by decide)]
     simp only [if_true]
     exact rel_eq may one f u _
    ·obtain ⟨x,l,hx,_⟩:=toks_head (u:=u) hd
     have hx4 : d :: x ≠ [44]:=fun h=>by cases h; exact h44 rfl
     rw [if_neg h44,hx]
     simp only [if_neg hx4]
theorem relP_eq (may : Atom → Bool) (one : Bool) (s : List UInt8) : relP may one s = relPW may one (toks s):=by
 unfold relP relPW
 have : skipW s = [] ↔ toks s = []:=by
  rw [← toks_skip s]
  cases hs : skipW s with
  | nil=>simp [toks_nil]
  | cons c t =>
   obtain ⟨x,l,hx,_⟩:=toks_head (u:=t) (skip_head hs)
   simp [hx]
 by_cases h : skipW s = []
 ·rw [if_pos h,if_pos (this.1 h)]
 ·rw [if_neg h,if_neg fun e=>h (this.2 e),rel_eq]
end Go.Av
end
section
namespace Go.Av
def trimE (s : List UInt8) : List UInt8:=(s.reverse.dropWhile wsB).reverse
def trimT (s : List UInt8) : List UInt8:=trimE (skipW s)
def lowB (c : UInt8) : UInt8:=if 65 ≤ c.toNat ∧ c.toNat ≤ 90 then c + 32 else c
def sameT (a b : List UInt8) : Bool:=decide (a.map lowB = b.map lowB)
def foldT (l : List (List UInt8)) : List UInt8:=Lib.join ((l.map trimT).filter fun t=>decide (t ≠ [])) [32]
theorem trimE_snoc (u : List UInt8) (c : UInt8) : trimE (u ++ [c]) = if wsB c = true then trimE u else u ++ [c]:=by
 unfold trimE
 rw [List.reverse_append,List.reverse_cons,List.reverse_nil,List.nil_append,List.cons_append,List.nil_append,List.dropWhile_cons]
 split
 ·rfl
 ·simp
theorem skipW_cons (c : UInt8) (r : List UInt8) : skipW (c :: r) = if wsB c = true then skipW r else c :: r:=by
 unfold skipW
 rw [List.dropWhile_cons]
theorem wsB_iff (c : UInt8) : wsB c = (c.toNat == 32 || c.toNat == 9):=by
 unfold wsB clsB
 rw [Bool.eq_iff_iff]
 simp only [decide_eq_true_eq,Bool.or_eq_true,beq_iff_eq]
 have h1 : c = 32 ↔ c.toNat = 32:=⟨fun e=>by rw [e]; rfl,fun e=>UInt8.toNat_inj.1 e⟩
 have h2 : c = 9 ↔ c.toNat = 9:=⟨fun e=>by rw [e]; rfl,fun e=>UInt8.toNat_inj.1 e⟩
 rw [← h1,← h2]
 constructor
 ·intro h
  split at h
  ·assumption
  ·split at h
   ·omega
   ·split at h <;> omega
 ·intro h
  rw [if_pos h]
theorem trimE_len (s : List UInt8) : (trimE s).length ≤ s.length:=by
 unfold trimE
 rw [List.length_reverse]
 exact Nat.le_trans (List.Sublist.length_le (List.dropWhile_sublist _)) (by simp)
theorem skipW_len (s : List UInt8) : (skipW s).length ≤ s.length:=List.Sublist.length_le (List.dropWhile_sublist _)
theorem trimT_len (s : List UInt8) : (trimT s).length ≤ s.length:=Nat.le_trans (trimE_len _) (skipW_len _)

theorem jn_snoc {l : List (List UInt8)} (x sep : List UInt8) (h : l ≠ []) : Lib.join (l ++ [x]) sep = Lib.join l sep ++ (sep ++ x):=by
 cases l with
 | nil=>exact absurd rfl h
 | cons y r =>
  rw [List.cons_append,Lib.join_cons,Lib.join_cons,Lib.joinTail,Lib.joinTail]
  simp
def foldF (l : List (List UInt8)) : List (List UInt8):=(l.map trimT).filter fun t=>decide (t ≠ [])
theorem foldF_nil {l : List (List UInt8)} : foldT l = [] ↔ foldF l = []:=by
 unfold foldT
 show Lib.join (foldF l) [32] = [] ↔ foldF l = []
 cases hf : foldF l with
 | nil=>simp [Lib.join_nil]
 | cons y r =>
  have hy : y ≠ []:=by
   have : y ∈ foldF l:=by rw [hf]; simp
   have:=(List.mem_filter.1 this).2
   simpa using this
  rw [Lib.join_cons]
  simp [hy]
theorem fold_snoc (l : List (List UInt8)) (s : List UInt8) : foldT (l ++ [s]) = if trimT s = [] then foldT l else if foldT l = [] then trimT s else foldT l ++ ([32] ++ trimT s):=by
 have e : foldF (l ++ [s]) = foldF l ++ (if trimT s = [] then [] else [trimT s]):=by
  unfold foldF
  rw [List.map_append,List.filter_append]
  congr 1
  by_cases h : trimT s = [] <;> simp [h]
 show Lib.join (foldF (l ++ [s])) [32] = _
 rw [e]
 by_cases h : trimT s = []
 ·rw [if_pos h,if_pos h,List.append_nil]; rfl
 ·rw [if_neg h,if_neg h]
  by_cases h2 : foldT l = []
  ·rw [if_pos h2,foldF_nil.1 h2,List.nil_append,Lib.join_one]
  ·rw [if_neg h2,jn_snoc _ _ fun e=>h2 (foldF_nil.2 e)]
   rfl
def sumL (l : List (List UInt8)) : Nat:=(l.map List.length).sum
theorem sumL_snoc (l : List (List UInt8)) (s : List UInt8) : sumL (l ++ [s]) = sumL l + s.length:=by simp [sumL]
theorem sumL_take (l : List (List UInt8)) : ∀ i,sumL (l.take i) ≤ sumL l:=fun i=>by
 have:=List.take_append_drop i l
 unfold sumL
 conv=>rhs; rw [← this]
 rw [List.map_append,List.sum_append]
 omega
theorem foldT_take (l : List (List UInt8)) : ∀ i,(foldT (l.take i)).length ≤ sumL (l.take i) + i
 | 0=>by simp [foldT,Lib.join_nil]
 | i + 1=>by
  have ih:=foldT_take l i
  cases hx : l[i]? with
  | none =>
   have : l.take (i + 1) = l.take i:=by rw [List.take_add_one,hx]; simp
   rw [this]
   omega
  | some s =>
   have : l.take (i + 1) = l.take i ++ [s]:=by rw [List.take_add_one,hx]; rfl
   rw [this,fold_snoc,sumL_snoc]
   have:=trimT_len s
   split
   ·omega
   ·split
    ·omega
    ·simp only [List.length_append,List.length_cons,List.length_nil]; omega
theorem foldT_len (l : List (List UInt8)) : (foldT l).length ≤ sumL l + l.length:=by
 have:=foldT_take l l.length
 rwa [List.take_of_length_le (Nat.le_refl _)] at this
end Go.Av
end
section
namespace Go.Proofs
open Go.Shelf
def Tryz.lays237_ren : Go.Shelf.Ren:=⟨fun | 237=>184 | 272=>212 | 238=>211 | 315=>238 | 273=>237 | 197=>199 | 271=>259 | 260=>223 | 120=>267 | n=>n,fun | 9=>9 | 40=>199 | 4=>4 | 3=>3 | 105=>223 | 21=>21 | 0=>0 | 5=>5 | 119=>258 | 46=>244 | 139=>261 | 138=>260 | n=>n,fun | 3=>1 | 4=>2 | n=>n⟩
theorem Tryz.lays237 : Go.Proofs.Lays.n237 Tryz.prog Tryz.lays237_ren:={
 mixed:=by kernel_rfl
 f120:=Tryz.func267.trans (congrArg some (by kernel_rfl))
 f197:=Tryz.func199.trans (congrArg some (by kernel_rfl))
 f237:=Tryz.func184.trans (congrArg some (by kernel_rfl))
 f238:=Tryz.func211.trans (congrArg some (by kernel_rfl))
 f260:=Tryz.func223.trans (congrArg some (by kernel_rfl))
 f271:=Tryz.func259.trans (congrArg some (by kernel_rfl))
 f272:=Tryz.func212.trans (congrArg some (by kernel_rfl))
 f273:=Tryz.func237.trans (congrArg some (by kernel_rfl))
 f315:=Tryz.func238.trans (congrArg some (by kernel_rfl))
 t0:=Tryz.underlying0
 a0:=Tryz.isAgg0
 z0:=Tryz.sizeOf0
 v0:=Tryz.zeroValue0
 t3:=Tryz.underlying3
 a3:=Tryz.isAgg3
 z3:=Tryz.sizeOf3
 v3:=Tryz.zeroValue3
 t4:=Tryz.underlying4
 a4:=Tryz.isAgg4
 z4:=Tryz.sizeOf4
 v4:=Tryz.zeroValue4
 t5:=Tryz.underlying5
 a5:=Tryz.isAgg5
 z5:=Tryz.sizeOf5
 v5:=Tryz.zeroValue5
 t9:=Tryz.underlying9
 a9:=Tryz.isAgg9
 z9:=Tryz.sizeOf9
 v9:=Tryz.zeroValue9
 t21:=Tryz.underlying21
 a21:=Tryz.isAgg21
 z21:=Tryz.sizeOf21
 v21:=Tryz.zeroValue21
 t40:=Tryz.underlying199
 a40:=Tryz.isAgg199
 z40:=Tryz.sizeOf199
 v40:=Tryz.zeroValue199
 t46:=Tryz.underlying244
 a46:=Tryz.isAgg244
 z46:=Tryz.sizeOf244
 v46:=Tryz.zeroValue244
 t105:=Tryz.underlying223
 a105:=Tryz.isAgg223
 z105:=Tryz.sizeOf223
 v105:=Tryz.zeroValue223
 t119:=Tryz.underlying258
 a119:=Tryz.isAgg258
 z119:=Tryz.sizeOf258
 t138:=Tryz.underlying260
 a138:=Tryz.isAgg260
 z138:=Tryz.sizeOf260
 v138:=Tryz.zeroValue260
 t139:=Tryz.underlying261
 a139:=Tryz.isAgg261
 z139:=Tryz.sizeOf261
 v139:=Tryz.zeroValue261
 g3:=by kernel_rfl
 g4:=by kernel_rfl }
def Tryz.lays197_ren : Go.Shelf.Ren:=⟨fun | 197=>199 | 260=>223 | n=>n,fun | 9=>9 | 21=>21 | 3=>3 | 4=>4 | 5=>5 | 105=>223 | 119=>258 | 0=>0 | 46=>244 | 139=>261 | 138=>260 | n=>n,fun | 3=>1 | 4=>2 | n=>n⟩
theorem Tryz.lays197 : Go.Proofs.Lays.n197 Tryz.prog Tryz.lays197_ren:={
 mixed:=by kernel_rfl
 f197:=Tryz.func199.trans (congrArg some (by kernel_rfl))
 f260:=Tryz.func223.trans (congrArg some (by kernel_rfl))
 t0:=Tryz.underlying0
 a0:=Tryz.isAgg0
 z0:=Tryz.sizeOf0
 v0:=Tryz.zeroValue0
 t3:=Tryz.underlying3
 a3:=Tryz.isAgg3
 z3:=Tryz.sizeOf3
 v3:=Tryz.zeroValue3
 t4:=Tryz.underlying4
 a4:=Tryz.isAgg4
 z4:=Tryz.sizeOf4
 v4:=Tryz.zeroValue4
 t5:=Tryz.underlying5
 a5:=Tryz.isAgg5
 z5:=Tryz.sizeOf5
 v5:=Tryz.zeroValue5
 t9:=Tryz.underlying9
 a9:=Tryz.isAgg9
 z9:=Tryz.sizeOf9
 v9:=Tryz.zeroValue9
 t21:=Tryz.underlying21
 a21:=Tryz.isAgg21
 z21:=Tryz.sizeOf21
 v21:=Tryz.zeroValue21
 t46:=Tryz.underlying244
 a46:=Tryz.isAgg244
 z46:=Tryz.sizeOf244
 v46:=Tryz.zeroValue244
 t105:=Tryz.underlying223
 a105:=Tryz.isAgg223
 z105:=Tryz.sizeOf223
 v105:=Tryz.zeroValue223
 t119:=Tryz.underlying258
 a119:=Tryz.isAgg258
 z119:=Tryz.sizeOf258
 t138:=Tryz.underlying260
 a138:=Tryz.isAgg260
 z138:=Tryz.sizeOf260
 v138:=Tryz.zeroValue260
 t139:=Tryz.underlying261
 a139:=Tryz.isAgg261
 z139:=Tryz.sizeOf261
 v139:=Tryz.zeroValue261
 g3:=by kernel_rfl
 g4:=by kernel_rfl }
def Tryz.lays146_ren : Go.Shelf.Ren:=⟨fun | 146=>155 | 221=>198 | 268=>221 | 138=>222 | 143=>204 | 195=>244 | 197=>199 | 218=>245 | 219=>203 | 260=>223 | 217=>226 | 225=>227 | 224=>228 | 267=>229 | 266=>250 | 314=>251 | n=>n,fun | 9=>9 | 31=>26 | 3=>3 | 4=>4 | 0=>0 | 105=>223 | 21=>21 | 5=>5 | 46=>244 | 119=>258 | 139=>261 | 138=>260 | 146=>270 | 51=>269 | n=>n,fun | 1=>0 | 3=>1 | 4=>2 | n=>n⟩
theorem Tryz.lays146 : Go.Proofs.LaysM.n146 Tryz.prog Tryz.lays146_ren:={
 mixed:=by kernel_rfl
 f138:=Tryz.func222.trans (congrArg some (by kernel_rfl))
 f143:=Tryz.func204.trans (congrArg some (by kernel_rfl))
 f146:=Tryz.func155.trans (congrArg some (by kernel_rfl))
 f195:=Tryz.func244.trans (congrArg some (by kernel_rfl))
 f197:=Tryz.func199.trans (congrArg some (by kernel_rfl))
 f217:=Tryz.func226.trans (congrArg some (by kernel_rfl))
 f218:=Tryz.func245.trans (congrArg some (by kernel_rfl))
 f219:=Tryz.func203.trans (congrArg some (by kernel_rfl))
 f221:=Tryz.func198.trans (congrArg some (by kernel_rfl))
 f224:=Tryz.func228.trans (congrArg some (by kernel_rfl))
 f225:=Tryz.func227.trans (congrArg some (by kernel_rfl))
 f260:=Tryz.func223.trans (congrArg some (by kernel_rfl))
 f266:=Tryz.func250.trans (congrArg some (by kernel_rfl))
 f267:=Tryz.func229.trans (congrArg some (by kernel_rfl))
 f268:=Tryz.func221.trans (congrArg some (by kernel_rfl))
 f314:=Tryz.func251.trans (congrArg some (by kernel_rfl))
 t0:=Tryz.underlying0
 a0:=Tryz.isAgg0
 z0:=Tryz.sizeOf0
 v0:=Tryz.zeroValue0
 t3:=Tryz.underlying3
 a3:=Tryz.isAgg3
 z3:=Tryz.sizeOf3
 v3:=Tryz.zeroValue3
 t4:=Tryz.underlying4
 a4:=Tryz.isAgg4
 z4:=Tryz.sizeOf4
 v4:=Tryz.zeroValue4
 t5:=Tryz.underlying5
 a5:=Tryz.isAgg5
 z5:=Tryz.sizeOf5
 v5:=Tryz.zeroValue5
 t9:=Tryz.underlying9
 a9:=Tryz.isAgg9
 z9:=Tryz.sizeOf9
 v9:=Tryz.zeroValue9
 t21:=Tryz.underlying21
 a21:=Tryz.isAgg21
 z21:=Tryz.sizeOf21
 v21:=Tryz.zeroValue21
 t31:=Tryz.underlying26
 a31:=Tryz.isAgg26
 z31:=Tryz.sizeOf26
 v31:=Tryz.zeroValue26
 t46:=Tryz.underlying244
 a46:=Tryz.isAgg244
 z46:=Tryz.sizeOf244
 v46:=Tryz.zeroValue244
 t51:=Tryz.underlying269
 a51:=Tryz.isAgg269
 z51:=Tryz.sizeOf269
 v51:=Tryz.zeroValue269
 t105:=Tryz.underlying223
 a105:=Tryz.isAgg223
 z105:=Tryz.sizeOf223
 v105:=Tryz.zeroValue223
 t119:=Tryz.underlying258
 a119:=Tryz.isAgg258
 z119:=Tryz.sizeOf258
 t138:=Tryz.underlying260
 a138:=Tryz.isAgg260
 z138:=Tryz.sizeOf260
 v138:=Tryz.zeroValue260
 t139:=Tryz.underlying261
 a139:=Tryz.isAgg261
 z139:=Tryz.sizeOf261
 v139:=Tryz.zeroValue261
 t146:=Tryz.underlying270
 a146:=Tryz.isAgg270
 z146:=Tryz.sizeOf270
 v146:=Tryz.zeroValue270
 g1:=by kernel_rfl
 g3:=by kernel_rfl
 g4:=by kernel_rfl
 i0:=by kernel_rfl
 i3:=by kernel_rfl
 i4:=by kernel_rfl
 i5:=by kernel_rfl
 i9:=by kernel_rfl
 i21:=by kernel_rfl
 i31:=by kernel_rfl
 i46:=by kernel_rfl
 i51:=by kernel_rfl
 i105:=by kernel_rfl
 i138:=by kernel_rfl
 i139:=by kernel_rfl
 i146:=by kernel_rfl
 m1:=by kernel_rfl
 s1_3:=fun w h=>Go.Proofs.cell_of_shapedOpen_int (zero:=#[.int .i64 0]) (t:=3) h (of_decide_eq_true (by kernel_rfl)) (by kernel_rfl) rfl (by kernel_rfl) (by kernel_rfl) Tryz.underlying3
 m3:=by kernel_rfl
 m4:=by kernel_rfl }
def Tryz.lays99_ren : Go.Shelf.Ren:=⟨fun | 99=>157 | 206=>200 | n=>n,fun | 9=>9 | 4=>4 | 3=>3 | n=>n,fun | n=>n⟩
theorem Tryz.lays99 : Go.Proofs.Lays.n99 Tryz.prog Tryz.lays99_ren:={
 mixed:=by kernel_rfl
 f99:=Tryz.func157.trans (congrArg some (by kernel_rfl))
 f206:=Tryz.func200.trans (congrArg some (by kernel_rfl))
 t3:=Tryz.underlying3
 a3:=Tryz.isAgg3
 z3:=Tryz.sizeOf3
 v3:=Tryz.zeroValue3
 t4:=Tryz.underlying4
 a4:=Tryz.isAgg4
 z4:=Tryz.sizeOf4
 v4:=Tryz.zeroValue4
 t9:=Tryz.underlying9
 a9:=Tryz.isAgg9
 z9:=Tryz.sizeOf9
 v9:=Tryz.zeroValue9 }
def Tryz.lays162_ren : Go.Shelf.Ren:=⟨fun | 162=>224 | 232=>246 | 227=>247 | 234=>248 | 236=>249 | 228=>263 | 271=>259 | 151=>264 | 120=>267 | 197=>199 | 152=>268 | 260=>223 | 137=>269 | 119=>270 | 224=>228 | 225=>227 | 217=>226 | 266=>250 | n=>n,fun | 9=>9 | 4=>4 | 3=>3 | 5=>5 | 117=>265 | 116=>264 | 0=>0 | 124=>268 | 21=>21 | 105=>223 | 46=>244 | 119=>258 | 139=>261 | 138=>260 | n=>n,fun | 3=>1 | 4=>2 | n=>n⟩
theorem Tryz.lays162 : Go.Proofs.Lays.n162 Tryz.prog Tryz.lays162_ren:={
 mixed:=by kernel_rfl
 f119:=Tryz.func270.trans (congrArg some (by kernel_rfl))
 f120:=Tryz.func267.trans (congrArg some (by kernel_rfl))
 f137:=Tryz.func269.trans (congrArg some (by kernel_rfl))
 f151:=Tryz.func264.trans (congrArg some (by kernel_rfl))
 f152:=Tryz.func268.trans (congrArg some (by kernel_rfl))
 f162:=Tryz.func224.trans (congrArg some (by kernel_rfl))
 f197:=Tryz.func199.trans (congrArg some (by kernel_rfl))
 f217:=Tryz.func226.trans (congrArg some (by kernel_rfl))
 f224:=Tryz.func228.trans (congrArg some (by kernel_rfl))
 f225:=Tryz.func227.trans (congrArg some (by kernel_rfl))
 f227:=Tryz.func247.trans (congrArg some (by kernel_rfl))
 f228:=Tryz.func263.trans (congrArg some (by kernel_rfl))
 f232:=Tryz.func246.trans (congrArg some (by kernel_rfl))
 f234:=Tryz.func248.trans (congrArg some (by kernel_rfl))
 f236:=Tryz.func249.trans (congrArg some (by kernel_rfl))
 f260:=Tryz.func223.trans (congrArg some (by kernel_rfl))
 f266:=Tryz.func250.trans (congrArg some (by kernel_rfl))
 f271:=Tryz.func259.trans (congrArg some (by kernel_rfl))
 t0:=Tryz.underlying0
 a0:=Tryz.isAgg0
 z0:=Tryz.sizeOf0
 v0:=Tryz.zeroValue0
 t3:=Tryz.underlying3
 a3:=Tryz.isAgg3
 z3:=Tryz.sizeOf3
 v3:=Tryz.zeroValue3
 t4:=Tryz.underlying4
 a4:=Tryz.isAgg4
 z4:=Tryz.sizeOf4
 v4:=Tryz.zeroValue4
 t5:=Tryz.underlying5
 a5:=Tryz.isAgg5
 z5:=Tryz.sizeOf5
 v5:=Tryz.zeroValue5
 t9:=Tryz.underlying9
 a9:=Tryz.isAgg9
 z9:=Tryz.sizeOf9
 v9:=Tryz.zeroValue9
 t21:=Tryz.underlying21
 a21:=Tryz.isAgg21
 z21:=Tryz.sizeOf21
 v21:=Tryz.zeroValue21
 t46:=Tryz.underlying244
 a46:=Tryz.isAgg244
 z46:=Tryz.sizeOf244
 v46:=Tryz.zeroValue244
 t105:=Tryz.underlying223
 a105:=Tryz.isAgg223
 z105:=Tryz.sizeOf223
 v105:=Tryz.zeroValue223
 t116:=Tryz.underlying264
 a116:=Tryz.isAgg264
 z116:=Tryz.sizeOf264
 t117:=Tryz.underlying265
 a117:=Tryz.isAgg265
 z117:=Tryz.sizeOf265
 v117:=Tryz.zeroValue265
 t119:=Tryz.underlying258
 a119:=Tryz.isAgg258
 z119:=Tryz.sizeOf258
 t124:=Tryz.underlying268
 a124:=Tryz.isAgg268
 z124:=Tryz.sizeOf268
 v124:=Tryz.zeroValue268
 t138:=Tryz.underlying260
 a138:=Tryz.isAgg260
 z138:=Tryz.sizeOf260
 v138:=Tryz.zeroValue260
 t139:=Tryz.underlying261
 a139:=Tryz.isAgg261
 z139:=Tryz.sizeOf261
 v139:=Tryz.zeroValue261
 g3:=by kernel_rfl
 g4:=by kernel_rfl }
end Go.Proofs
end
section
namespace Go.Proofs
open Go.Shelf
def Tryz.lays156_ren : Go.Shelf.Ren:=⟨fun | 156=>137 | 165=>186 | 166=>187 | 169=>188 | 240=>213 | 241=>214 | 276=>239 | 277=>240 | n=>n,fun | 31=>26 | 9=>9 | 3=>3 | 4=>4 | 0=>0 | 20=>20 | 72=>202 | 76=>206 | 70=>200 | 37=>44 | 75=>205 | 127=>234 | 164=>254 | 5=>5 | 80=>208 | n=>n,fun | n=>n⟩
theorem Tryz.lays156 : Go.Proofs.Lays.n156 Tryz.prog Tryz.lays156_ren:={
 mixed:=by kernel_rfl
 f156:=Tryz.func137.trans (congrArg some (by kernel_rfl))
 f165:=Tryz.func186.trans (congrArg some (by kernel_rfl))
 f166:=Tryz.func187.trans (congrArg some (by kernel_rfl))
 f169:=Tryz.func188.trans (congrArg some (by kernel_rfl))
 f240:=Tryz.func213.trans (congrArg some (by kernel_rfl))
 f241:=Tryz.func214.trans (congrArg some (by kernel_rfl))
 f276:=Tryz.func239.trans (congrArg some (by kernel_rfl))
 f277:=Tryz.func240.trans (congrArg some (by kernel_rfl))
 t0:=Tryz.underlying0
 a0:=Tryz.isAgg0
 z0:=Tryz.sizeOf0
 v0:=Tryz.zeroValue0
 t3:=Tryz.underlying3
 a3:=Tryz.isAgg3
 z3:=Tryz.sizeOf3
 v3:=Tryz.zeroValue3
 t4:=Tryz.underlying4
 a4:=Tryz.isAgg4
 z4:=Tryz.sizeOf4
 v4:=Tryz.zeroValue4
 t9:=Tryz.underlying9
 a9:=Tryz.isAgg9
 z9:=Tryz.sizeOf9
 v9:=Tryz.zeroValue9
 t20:=Tryz.underlying20
 a20:=Tryz.isAgg20
 z20:=Tryz.sizeOf20
 v20:=Tryz.zeroValue20
 t31:=Tryz.underlying26
 a31:=Tryz.isAgg26
 z31:=Tryz.sizeOf26
 v31:=Tryz.zeroValue26
 t37:=Tryz.underlying44
 a37:=Tryz.isAgg44
 z37:=Tryz.sizeOf44
 v37:=Tryz.zeroValue44
 t70:=Tryz.underlying200
 a70:=Tryz.isAgg200
 z70:=Tryz.sizeOf200
 v70:=Tryz.zeroValue200
 t72:=Tryz.underlying202
 a72:=Tryz.isAgg202
 z72:=Tryz.sizeOf202
 v72:=Tryz.zeroValue202
 t75:=Tryz.underlying205
 a75:=Tryz.isAgg205
 z75:=Tryz.sizeOf205
 v75:=Tryz.zeroValue205
 t76:=Tryz.underlying206
 a76:=Tryz.isAgg206
 z76:=Tryz.sizeOf206
 v76:=Tryz.zeroValue206
 t127:=Tryz.underlying234
 a127:=Tryz.isAgg234
 z127:=Tryz.sizeOf234
 v127:=Tryz.zeroValue234
 t164:=Tryz.underlying254
 a164:=Tryz.isAgg254
 z164:=Tryz.sizeOf254
 v164:=Tryz.zeroValue254 }
theorem Tryz.extra156 : Builder.Extra Tryz.prog Tryz.lays156_ren where
 sizeBuilder:=by kernel_rfl
 liesBuilder:=by kernel_rfl
 t5:=Tryz.underlying5
 a5:=Tryz.isAgg5
 z5:=Tryz.sizeOf5
 v5:=Tryz.zeroValue5
 infoByte:=by kernel_rfl
 cellsByte:=by kernel_rfl
 sizeByte:=by kernel_rfl
 neB5:=by decide
end Go.Proofs
end
