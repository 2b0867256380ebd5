/- Texts that the last one of this claim rests on: a layer over the guide's own conditions for code; contracts of the functions that the law reaches, one by one. No conditions beside those of the given rows. -/
set_option linter.unusedSimpArgs false
set_option linter.unusedVariables false
section
namespace Go.Av

def smallC (c : UInt8) : Bool:=decide (97 ≤ c.toNat) && decide (c.toNat ≤ 122)
def digitC (c : UInt8) : Bool:=decide (48 ≤ c.toNat) && decide (c.toNat ≤ 57)
def letterC (c : UInt8) : Bool:=smallC c || (decide (65 ≤ c.toNat) && decide (c.toNat ≤ 90))

def firstOf (c : UInt8) (s : List UInt8) : Int:=match s.findIdx? (· == c) with | some i=>i | none=>-1

def lastTo (c : UInt8) (s : List UInt8) : Nat → Int
 | 0=>-1
 | i + 1=>if s[i]? = some c then i else lastTo c s i

def lastOf (c : UInt8) (s : List UInt8) : Int:=lastTo c s s.length

def rankC (c : UInt8) : Int:=if c.toNat = 126 then -1 else if letterC c then 1 + c.toNat else 300 + c.toNat
def sgn (a b : Int) : Int:=if a < b then -1 else if a > b then 1 else 0
def skipD (s : List UInt8) : List UInt8:=s.dropWhile fun c=>!digitC c
def skip0 (s : List UInt8) : List UInt8:=s.dropWhile fun c=>c == 48
def runS (s : List UInt8) : Nat:=(s.takeWhile digitC).length

theorem runS_at {s : List UInt8} {i : Nat} (hi : i ≤ s.length) (h1 : ∀ c ∈ s.take i,digitC c = true) (h2 : ∀ c,s[i]? = some c → digitC c = false) : runS s = i:=by
 induction s generalizing i with
 | nil=>simp at hi; subst hi; rfl
 | cons c r ih =>
  cases i with
  | zero =>
   have:=h2 c rfl
   simp [runS,this]
  | succ i =>
   have hc:=h1 c (by simp)
   have:=ih (i:=i) (by simpa using hi) (fun d hd=>h1 d (by simp [hd])) (fun d hd=>h2 d (by simpa using hd))
   simpa [runS,hc] using this

def rk : List UInt8 → Int
 | []=>0
 | c :: _=>if digitC c then 0 else rankC c

theorem rankC_ne (c : UInt8) : rankC c ≠ 0:=by unfold rankC; split <;> (try split) <;> omega

theorem rk_ne {s : List UInt8} (h : rk s ≠ 0) : ∃ c r,s = c :: r ∧ digitC c = false:=by
 cases s with
 | nil=>exact absurd rfl h
 | cons c r =>
  refine ⟨c,r,rfl,?_⟩
  cases hd : digitC c with
  | false=>rfl
  | true=>simp [rk,hd] at h

def signsL : List UInt8 → List UInt8 → Int
 | [],b=>if rk b = 0 then 0 else sgn 0 (rk b)
 | c :: a,b=>if rk (c :: a) = 0 ∧ rk b = 0 then 0 else if rk (c :: a) = rk b then signsL a b.tail else sgn (rk (c :: a)) (rk b)

theorem signsL_zero {a b : List UInt8} (h : rk a = 0) (h' : rk b = 0) : signsL a b = 0:=by
 cases a <;> simp [signsL,h,h']

theorem signsL_step {a b : List UInt8} (h : rk a ≠ 0) (he : rk a = rk b) : signsL a b = signsL a.tail b.tail:=by
 cases a with
 | nil=>exact absurd rfl h
 | cons c a=>rw [signsL,if_neg (fun e=>h e.1),if_pos he]; rfl

theorem sgn_ne {a b : Int} (h : a ≠ b) : sgn a b ≠ 0:=by unfold sgn; split <;> (try split) <;> omega
theorem sgn_self (a : Int) : sgn a a = 0:=by simp [sgn]
theorem sgn_eq {a b : Int} (h : sgn a b = 0) : a = b:=by
 cases Int.decEq a b with
 | isTrue h=>exact h
 | isFalse hn=>exact absurd h (sgn_ne hn)

theorem signsL_ne {a b : List UInt8} (he : rk a ≠ rk b) : signsL a b = sgn (rk a) (rk b):=by
 cases a with
 | nil =>
  have : ¬ rk b = 0:=fun e=>he (by rw [e]; rfl)
  rw [signsL,if_neg this]; rfl
 | cons c a=>rw [signsL,if_neg (fun e=>he (by rw [e.1,e.2])),if_neg he]

def lexC : List UInt8 → List UInt8 → Int
 | x :: a,y :: b=>if x = y then lexC a b else sgn x.toNat y.toNat
 | _,_=>0

def numS (s : List UInt8) : List UInt8:=skip0 (skipD s)

theorem dropWhile_le {p : UInt8 → Bool} (s : List UInt8) : (s.dropWhile p).length ≤ s.length:=by
 induction s with
 | nil=>simp
 | cons c r ih=>simp only [List.dropWhile_cons]; split <;> simp <;> omega

theorem numS_le (s : List UInt8) : (numS s).length ≤ s.length:=Nat.le_trans (dropWhile_le _) (dropWhile_le _)
theorem runS_le (s : List UInt8) : runS s ≤ s.length:=(List.takeWhile_sublist _).length_le

theorem numS_lt {s : List UInt8} (h : s ≠ []) : ((numS s).drop (runS (numS s))).length < s.length:=by
 cases s with
 | nil=>exact absurd rfl h
 | cons c r =>
  cases hd : digitC c with
  | false =>
   have : numS (c :: r) = numS r:=by simp [numS,skipD,hd]
   rw [this,List.length_drop]
   have:=numS_le r
   simp; omega
  | true =>
   have e : skipD (c :: r) = c :: r:=by simp [skipD,hd]
   by_cases h0 : c = 48
   ·have : numS (c :: r) = skip0 r:=by rw [numS,e]; simp [skip0,h0]
    rw [this,List.length_drop]
    have:=dropWhile_le (p:=fun c=>c == 48) r
    simp only [skip0,List.length_cons]; omega
   ·have : numS (c :: r) = c :: r:=by rw [numS,e]; simp [skip0,h0]
    rw [this,List.length_drop]
    have : 0 < runS (c :: r):=by simp [runS,hd]
    simp only [List.length_cons]; omega

theorem num_le (s : List UInt8) : ((numS s).drop (runS (numS s))).length ≤ s.length:=by
 rw [List.length_drop]; have:=numS_le s; omega

def partV (a b : List UInt8) : Int :=
 if _h : a = [] ∧ b = [] then 0
 else if signsL a b ≠ 0 then signsL a b
 else if runS (numS a) ≠ runS (numS b) then sgn (runS (numS a)) (runS (numS b))
 else if lexC ((numS a).take (runS (numS a))) ((numS b).take (runS (numS b))) ≠ 0 then lexC ((numS a).take (runS (numS a))) ((numS b).take (runS (numS b)))
 else partV ((numS a).drop (runS (numS a))) ((numS b).drop (runS (numS b)))
termination_by a.length + b.length
decreasing_by
 have h1:=num_le a
 have h2:=num_le b
 by_cases ha : a = []
 ·have hb : b ≠ []:=fun e=>_h ⟨ha,e⟩
  have:=numS_lt hb
  omega
 ·have:=numS_lt ha
  omega

theorem partV_lt {a b : List UInt8} (h : ¬ (a = [] ∧ b = [])) : ((numS a).drop (runS (numS a))).length + ((numS b).drop (runS (numS b))).length < a.length + b.length:=by
 have h1:=num_le a
 have h2:=num_le b
 by_cases ha : a = []
 ·have hb : b ≠ []:=fun e=>h ⟨ha,e⟩
  have:=numS_lt hb
  omega
 ·have:=numS_lt ha
  omega

theorem firstOf_cases (c : UInt8) (s : List UInt8) : (firstOf c s = -1 ∧ c ∉ s) ∨ ∃ i : Nat,firstOf c s = i ∧ s[i]? = some c ∧ i < s.length:=by
 unfold firstOf
 cases h : s.findIdx? (· == c) with
 | none =>
  refine .inl ⟨rfl,fun hm=>?_⟩
  have:=List.findIdx?_eq_none_iff.1 h c hm
  simp at this
 | some i =>
  obtain ⟨hi,he,_⟩:=List.findIdx?_eq_some_iff_getElem.1 h
  refine .inr ⟨i,rfl,?_,hi⟩
  rw [List.getElem?_eq_getElem hi]
  simpa using he

theorem lastTo_cases (c : UInt8) (s : List UInt8) : ∀ n : Nat,n ≤ s.length → (lastTo c s n = -1 ∧ ∀ j,j < n → s[j]? ≠ some c) ∨ ∃ i : Nat,lastTo c s n = i ∧ s[i]? = some c ∧ i < n
 | 0,_=>.inl ⟨rfl,fun j h=>absurd h (Nat.not_lt_zero j)⟩
 | n + 1,h=>by
  unfold lastTo
  split
  ·rename_i he; exact .inr ⟨n,rfl,he,Nat.lt_succ_self n⟩
  ·rename_i he
   rcases lastTo_cases c s n (by omega) with ⟨h1,h2⟩ | ⟨i,h1,h2,h3⟩
   ·refine .inl ⟨h1,fun j hj=>?_⟩
    rcases Nat.lt_succ_iff_lt_or_eq.1 hj with hj | rfl
    ·exact h2 j hj
    ·exact he
   ·exact .inr ⟨i,h1,h2,by omega⟩

theorem lastOf_cases (c : UInt8) (s : List UInt8) : (lastOf c s = -1 ∧ c ∉ s) ∨ ∃ i : Nat,lastOf c s = i ∧ s[i]? = some c ∧ i < s.length:=by
 rcases lastTo_cases c s s.length (Nat.le_refl _) with ⟨h1,h2⟩ | h
 ·refine .inl ⟨h1,fun hm=>?_⟩
  obtain ⟨j,hj⟩:=List.mem_iff_getElem?.1 hm
  exact h2 j (List.getElem?_eq_some_iff.1 hj).1 hj
 ·exact .inr h

def revCh (c : UInt8) : Bool:=letterC c || digitC c || (c.toNat : Int) == 43 || (c.toNat : Int) == 46 || (c.toNat : Int) == 126
def upCh (c : UInt8) : Bool:=letterC c || digitC c || (c.toNat : Int) == 43 || (c.toNat : Int) == 46 || (c.toNat : Int) == 126 || (c.toNat : Int) == 45 || (c.toNat : Int) == 58
def epochP (s : List UInt8) : Option (List UInt8 × List UInt8) :=
 if 0 ≤ firstOf 58 s then
  (let e:=s.take (firstOf 58 s).toNat
   if 1 ≤ e.length ∧ e.length ≤ 9 ∧ e.all digitC = true then some (e,s.drop ((firstOf 58 s).toNat + 1)) else none)
 else some ([48],s)

def revP (t : List UInt8) : Option (List UInt8 × List UInt8) :=
 if 0 ≤ lastOf 45 t then (if t.drop ((lastOf 45 t).toNat + 1) = [] then none else some (t.take (lastOf 45 t).toNat,t.drop ((lastOf 45 t).toNat + 1)))
 else some (t,[])

def startsD : List UInt8 → Bool
 | []=>false
 | c :: _=>digitC c

def verP (s : List UInt8) : Option (List UInt8 × List UInt8 × List UInt8) :=
 if s.length = 0 ∨ 48 < s.length then none else
 match epochP s with
 | none=>none
 | some (e,t)=>match revP t with
  | none=>none
  | some (u,r)=>if r.all revCh && u.all upCh && startsD u then some (e,u,r) else none

def isVer (s : List UInt8) : Bool:=(verP s).isSome

def cmpVer (a b : List UInt8) : Int :=
 match verP a,verP b with
 | some (e,u,r),some (f,v,s)=>if partV e f ≠ 0 then partV e f else if partV u v ≠ 0 then partV u v else partV r s
 | _,_=>0

def sameVer (a b : List UInt8) : Bool:=isVer a && isVer b && cmpVer a b == 0

def holdsV (rel : Int) (a b : List UInt8) : Bool :=
 if rel = 0 then isVer a
 else if isVer a && isVer b then
  (if rel = 1 then decide (cmpVer a b < 0) else if rel = 2 then decide (cmpVer a b ≤ 0) else if rel = 3 then cmpVer a b == 0
   else if rel = 4 then decide (0 ≤ cmpVer a b) else if rel = 5 then decide (0 < cmpVer a b) else false)
 else false

end Go.Av
end
