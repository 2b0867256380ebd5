/- Texts that the last one of this claim rests on: a layer over the guide's own conditions for code; contracts of the functions that the law reaches, one by one. No conditions beside those of the given rows. -/
import Derived.Test.YtekjlnodoelblaaGreatDoorWao
set_option linter.unusedSimpArgs false
set_option linter.unusedVariables false
section
namespace Go.Av
structure Fld where
 name : List UInt8
 lines : List (List UInt8)
 deriving DecidableEq
structure Stz where
 line : Int
 fields : List Fld
 deriving DecidableEq
structure PS where
 l : List Stz
 op : Bool

def badN (i : Nat) (c : UInt8) : Bool:=(decide (c.toNat < 33) || decide (126 < c.toNat)) || (decide (i = 0) && (decide (c.toNat = 35) || decide (c.toNat = 45)))
def fieldG : Nat → List UInt8 → Int
 | _,[]=>-1
 | i,c :: r=>if c.toNat = 58 then (if i = 0 then -1 else (i : Int)) else if badN i c = true then -1 else fieldG (i + 1) r
def fieldN (s : List UInt8) : Int:=fieldG 0 s
def nameG : Nat → List UInt8 → Nat
 | i,[]=>i
 | i,c :: r=>if c.toNat = 58 then i else if badN i c = true then 0 else nameG (i + 1) r
def nameN (s : List UInt8) : Nat:=nameG 0 s
def whiteH (s : List UInt8) : Bool:=match s with
 | []=>false
 | c :: _=>wsB c
def hashH (s : List UInt8) : Bool:=match s with
 | []=>false
 | c :: _=>decide (c.toNat = 35)
def updLast {α : Type} (g : α → α) (l : List α) : List α:=match l.getLast? with
 | some x=>l.dropLast ++ [g x]
 | none=>l
def dotT (t : List UInt8) : List UInt8:=if t = [46] then [] else t
def addLine (t : List UInt8) (x : Stz) : Stz:=⟨x.line,updLast (fun f=>⟨f.name,f.lines ++ [t]⟩) x.fields⟩
def addFld (f : Fld) (x : Stz) : Stz:=⟨x.line,x.fields ++ [f]⟩
def hasF (l : List Fld) (n : List UInt8) : Bool:=l.any fun f=>sameT f.name n
def lastFields (l : List Stz) : List Fld:=match l.getLast? with
 | some x=>x.fields
 | none=>[]
def takeS (st : PS) (s : List UInt8) (ln : Int) : Except Int PS :=
 if hashH s = true then .ok st
 else if trimT s = [] then .ok ⟨st.l,false⟩
 else if whiteH s = true then (if st.op = false then .error 3 else .ok ⟨updLast (addLine (dotT (trimE (s.drop 1)))) st.l,true⟩)
 else if fieldN s < 0 then .error 3
 else if st.op = false ∧ st.l.length = 200 then .error 12
 else
  let l:=if st.op = true then st.l else st.l ++ [⟨ln,[]⟩]
  if (lastFields l).length = 40 then .error 12
  else if hasF (lastFields l) (s.take (fieldN s).toNat) = true then .error 4
  else .ok ⟨updLast (addFld ⟨s.take (fieldN s).toNat,[trimT (s.drop ((fieldN s).toNat + 1))]⟩) l,true⟩
def runP : PS → Nat → List (List UInt8) → Except (Int × Int) PS
 | st,_,[]=>.ok st
 | st,i,s :: r=>match takeS st s (i + 1) with
  | .error e=>.error (e,i + 1)
  | .ok st'=>runP st' (i + 1) r
def stzT (b : List UInt8) : List Stz × (Int × Int) :=
 if (linesT b).2.1 ≠ 0 then ([],(linesT b).2) else match runP ⟨[],false⟩ 0 (linesT b).1 with
  | .error e=>([],e)
  | .ok st=>(st.l,(0,0))

theorem nameG_eq : ∀ (s : List UInt8) (i : Nat),(fieldG i s = -1 ∧ (nameG i s = 0 ∨ nameG i s = i + s.length)) ∨ (fieldG i s = nameG i s ∧ 0 < nameG i s ∧ nameG i s < i + s.length)
 | [],i=>.inl ⟨rfl,.inr rfl⟩
 | c :: r,i=>by
  rw [fieldG,nameG]
  by_cases h : c.toNat = 58
  ·rw [if_pos h,if_pos h]
   by_cases hi : i = 0
   ·rw [if_pos hi]; exact .inl ⟨rfl,.inl hi⟩
   ·rw [if_neg hi]; exact .inr ⟨rfl,by omega,by simp only [List.length_cons]; omega⟩
  ·rw [if_neg h,if_neg h]
   by_cases hb : badN i c = true
   ·rw [if_pos hb,if_pos hb]; exact .inl ⟨rfl,.inl rfl⟩
   ·rw [if_neg hb,if_neg hb]
    rcases nameG_eq r (i + 1) with ⟨h1,h2⟩ | ⟨h1,h2,h3⟩
    ·refine .inl ⟨h1,?_⟩
     simp only [List.length_cons]
     omega
    ·exact .inr ⟨h1,h2,by simp only [List.length_cons]; omega⟩
theorem nameN_eq (s : List UInt8) : (fieldN s = -1 ∧ (nameN s = 0 ∨ nameN s = s.length)) ∨ (fieldN s = nameN s ∧ 0 < nameN s ∧ nameN s < s.length):=by
 have:=nameG_eq s 0
 unfold fieldN nameN
 rwa [Nat.zero_add] at this
theorem updLast_snoc {α : Type} (g : α → α) (l : List α) (x : α) : updLast g (l ++ [x]) = l ++ [g x]:=by
 unfold updLast
 rw [List.getLast?_concat]
 simp
theorem lastFields_snoc (l : List Stz) (x : Stz) : lastFields (l ++ [x]) = x.fields:=by
 unfold lastFields
 rw [List.getLast?_concat]
theorem stz_snoc {α : Type} {l : List α} (h : l ≠ []) : ∃ u x,l = u ++ [x]:=by
 rcases List.eq_nil_or_concat l with e | ⟨u,x,e⟩
 ·exact absurd e h
 ·exact ⟨u,x,by rw [e,List.concat_eq_append]⟩

structure PSok (st : PS) : Prop where
 op : st.op = true → ∃ u x v f,st.l = u ++ [x] ∧ x.fields = v ++ [f]
 len : st.l.length ≤ 200
 flds : ∀ x ∈ st.l,x.fields.length ≤ 40
theorem PSok.nil : PSok ⟨[],false⟩:=⟨fun h=>(by cases h),by simp,by simp⟩
theorem takeS_ok {st st' : PS} {s : List UInt8} {ln : Int} (h : PSok st) (ht : takeS st s ln = .ok st') : PSok st':=by
 unfold takeS at ht
 split at ht
 ·cases ht; exact h
 split at ht
 ·cases ht; exact ⟨fun h=>(by cases h),h.len,h.flds⟩
 split at ht
 ·split at ht
  ·cases ht
  ·rename_i ho
   cases ht
   obtain ⟨u,x,v,f,h1,h2⟩:=h.op (by simpa using ho)
   rw [h1,updLast_snoc]
   have h3:=h.len
   rw [h1] at h3
   refine ⟨fun _=>⟨u,_,v,_,rfl,by unfold addLine; rw [h2,updLast_snoc]⟩,by simpa using h3,fun y hy=>?_⟩
   rcases List.mem_append.1 hy with hy | hy
   ·exact h.flds y (by rw [h1]; simp [hy])
   ·rw [List.mem_singleton.1 hy]
    have:=h.flds x (by rw [h1]; simp)
    unfold addLine
    rw [h2,updLast_snoc]
    rw [h2] at this
    simpa using this
 split at ht
 ·cases ht
 split at ht
 ·cases ht
 rename_i hnl
 simp only at ht
 have key : ∀ l : List Stz,(∃ u x,l = u ++ [x]) → l.length ≤ 200 → (∀ x ∈ l,x.fields.length ≤ 40) → (lastFields l).length ≠ 40 → ∀ f,PSok ⟨updLast (addFld f) l,true⟩:=fun l ⟨u,x,e⟩ h1 h2 h3 f=>by
  rw [e,updLast_snoc]
  rw [e] at h1 h2 h3
  rw [lastFields_snoc] at h3
  refine ⟨fun _=>⟨u,_,x.fields,f,rfl,rfl⟩,by simpa using h1,fun y hy=>?_⟩
  rcases List.mem_append.1 hy with hy | hy
  ·exact h2 y (by simp [hy])
  ·rw [List.mem_singleton.1 hy]
   have:=h2 x (by simp)
   unfold addFld
   simp only [List.length_append,List.length_cons,List.length_nil]
   omega
 have hl : (∃ u x,(if st.op = true then st.l else st.l ++ [⟨ln,[]⟩]) = u ++ [x]) ∧ (if st.op = true then st.l else st.l ++ [⟨ln,[]⟩]).length ≤ 200 ∧ (∀ x ∈ (if st.op = true then st.l else st.l ++ [(⟨ln,[]⟩ : Stz)]),x.fields.length ≤ 40):=by
  split
  ·rename_i ho
   obtain ⟨u,x,v,f,h1,h2⟩:=h.op ho
   exact ⟨⟨u,x,h1⟩,h.len,h.flds⟩
  ·rename_i ho
   refine ⟨⟨_,_,rfl⟩,?_,fun x hx=>?_⟩
   ·have:=h.len
    simp only [List.length_append,List.length_cons,List.length_nil]
    have : ¬ st.l.length = 200:=fun e=>hnl ⟨by simpa using ho,e⟩
    omega
   ·rcases List.mem_append.1 hx with hx | hx
    ·exact h.flds x hx
    ·rw [List.mem_singleton.1 hx]; simp
 generalize (if st.op = true then st.l else st.l ++ [(⟨ln,[]⟩ : Stz)]) = l at ht hl
 split at ht
 ·cases ht
 rename_i h40
 split at ht
 ·cases ht
 cases ht
 exact key _ hl.1 hl.2.1 hl.2.2 h40 _
theorem takeS_err {st : PS} {s : List UInt8} {ln e : Int} (ht : takeS st s ln = .error e) : e = 3 ∨ e = 4 ∨ e = 12:=by
 unfold takeS at ht
 simp only at ht
 repeat' split at ht
 all_goals first
  | (cases ht; done)
  | (cases ht; omega)
def StzB (k m : Nat) (l : List Stz) : Prop:=∀ x ∈ l,∀ f ∈ x.fields,f.lines.length ≤ k ∧ f.name.length ≤ m ∧ ∀ s ∈ f.lines,s.length ≤ m
theorem StzB.mono {k k' m : Nat} {l : List Stz} (h : StzB k m l) (hk : k ≤ k') : StzB k' m l:=fun x hx f hf=>by
 obtain ⟨h1,h2⟩:=h x hx f hf
 exact ⟨by omega,h2⟩
theorem stzB_upd {k m : Nat} {l : List Stz} {g : Stz → Stz} (h : StzB k m l) (hg : ∀ x ∈ l,∀ f ∈ (g x).fields,f.lines.length ≤ k ∧ f.name.length ≤ m ∧ ∀ s ∈ f.lines,s.length ≤ m) : StzB k m (updLast g l):=by
 rcases List.eq_nil_or_concat l with rfl | ⟨u,x,rfl⟩
 ·exact h
 ·rw [List.concat_eq_append] at *
  rw [updLast_snoc]
  intro y hy
  rcases List.mem_append.1 hy with hy | hy
  ·exact h y (by simp [hy])
  ·rw [List.mem_singleton.1 hy]
   exact hg x (by simp)
theorem takeS_lines {k m : Nat} {st st' : PS} {s : List UInt8} {ln : Int} (h : StzB k m st.l) (hs : s.length ≤ m) (ht : takeS st s ln = .ok st') : StzB (k + 1) m st'.l:=by
 have h1:=h.mono (Nat.le_succ k)
 unfold takeS at ht
 split at ht
 ·cases ht; exact h1
 split at ht
 ·cases ht; exact h1
 split at ht
 ·split at ht
  ·cases ht
  ·cases ht
   refine stzB_upd h1 fun x hx f hf=>?_
   have hx2:=h x hx
   unfold addLine at hf
   simp only at hf
   rcases List.eq_nil_or_concat x.fields with e | ⟨v,g,e⟩
   ·rw [e] at hf
    simp [updLast] at hf
   ·rw [List.concat_eq_append] at e
    rw [e,updLast_snoc] at hf
    rw [e] at hx2
    rcases List.mem_append.1 hf with hf | hf
    ·obtain ⟨a,b⟩:=hx2 f (by simp [hf])
     exact ⟨by omega,b⟩
    ·rw [List.mem_singleton.1 hf]
     obtain ⟨a,b,c⟩:=hx2 g (by simp)
     refine ⟨by simpa using a,b,fun t ht=>?_⟩
     rcases List.mem_append.1 ht with ht | ht
     ·exact c t ht
     ·rw [List.mem_singleton.1 ht]
      have h2:=trimE_len (s.drop 1)
      unfold dotT
      split
      ·simp
      ·rw [List.length_drop] at h2; omega
 split at ht
 ·cases ht
 split at ht
 ·cases ht
 simp only at ht
 have hl : StzB (k + 1) m (if st.op = true then st.l else st.l ++ [(⟨ln,[]⟩ : Stz)]):=by
  split
  ·exact h1
  ·intro x hx
   rcases List.mem_append.1 hx with hx | hx
   ·exact h1 x hx
   ·rw [List.mem_singleton.1 hx]; simp
 generalize (if st.op = true then st.l else st.l ++ [(⟨ln,[]⟩ : Stz)]) = l at ht hl
 split at ht
 ·cases ht
 split at ht
 ·cases ht
 cases ht
 refine stzB_upd hl fun x hx f hf=>?_
 rcases List.mem_append.1 hf with hf | hf
 ·exact hl x hx f hf
 ·rw [List.mem_singleton.1 hf]
  refine ⟨by simp,by rw [List.length_take]; omega,fun t ht=>?_⟩
  rw [List.mem_singleton.1 ht]
  have h2:=trimT_len (s.drop ((fieldN s).toNat + 1))
  rw [List.length_drop] at h2
  omega
theorem runP_ok : ∀ {l : List (List UInt8)} {k m i : Nat} {st st' : PS},PSok st → StzB k m st.l → (∀ s ∈ l,s.length ≤ m) → runP st i l = .ok st' → PSok st' ∧ StzB (k + l.length) m st'.l
 | [],k,m,i,st,st',h,hb,_,hr=>by
  simp only [runP,Except.ok.injEq] at hr
  subst hr
  exact ⟨h,hb⟩
 | s :: r,k,m,i,st,st',h,hb,hs,hr=>by
  rw [runP] at hr
  cases ht : takeS st s (i + 1) with
  | error e=>rw [ht] at hr; cases hr
  | ok q =>
   rw [ht] at hr
   obtain ⟨g1,g2⟩:=runP_ok (takeS_ok h ht) (takeS_lines hb (hs s (by simp)) ht) (fun t ht=>hs t (by simp [ht])) hr
   exact ⟨g1,by rw [List.length_cons,show k + (r.length + 1) = k + 1 + r.length by omega]; exact g2⟩
theorem runP_app : ∀ {l m : List (List UInt8)} {i : Nat} {st st' : PS},runP st i l = .ok st' → runP st i (l ++ m) = runP st' (i + l.length) m
 | [],m,i,st,st',h=>by
  simp only [runP,Except.ok.injEq] at h
  subst h
  rfl
 | s :: r,m,i,st,st',h=>by
  rw [List.cons_append]
  rw [runP] at h ⊢
  cases ht : takeS st s (i + 1) with
  | error e=>rw [ht] at h; cases h
  | ok q =>
   rw [ht] at h
   simp only
   rw [runP_app h,List.length_cons]
   congr 1
   omega
theorem badL_all : ∀ {l : List (List UInt8)} {i : Nat},(badL i l).1 = 0 → ∀ s ∈ l,s.length ≤ 1000 ∧ goodT s < 0
 | [],_,_,s,hs=>by cases hs
 | t :: r,i,h,s,hs=>by
  rw [badL] at h
  split at h
  ·simp at h
  ·split at h
   ·simp at h
   ·rcases List.mem_cons.1 hs with rfl | hs
    ·omega
    ·exact badL_all h s hs
theorem linesT_ok {b : List UInt8} : (linesT b).1.length ≤ 65537 ∧ ∀ s ∈ (linesT b).1,s.length ≤ 1000:=by
 unfold linesT
 split
 ·simp
 ·split
  ·simp
  ·rename_i h1 h2
   have:=linesL_len b
   exact ⟨by simp only; omega,fun s hs=>(badL_all (by simpa using h2) s hs).1⟩
end Go.Av
end
