/- Texts that the last one of this claim rests on: a layer over the guide's own conditions for code; contracts of the functions that the law reaches, one by one. No conditions beside those of the given rows. -/
set_option linter.unusedSimpArgs false
set_option linter.unusedVariables false
section
namespace Go.Av

def j8 (c : UInt8) : Bool:=decide (97 ≤ c.toNat) && decide (c.toNat ≤ 122)
def aJ (c : UInt8) : Bool:=decide (48 ≤ c.toNat) && decide (c.toNat ≤ 57)
def cZ (c : UInt8) : Bool:=j8 c || (decide (65 ≤ c.toNat) && decide (c.toNat ≤ 90))

def aQ (c : UInt8) (s : List UInt8) : Int:=match s.findIdx? (· == c) with | some i=>i | none=>-1

def lq (c : UInt8) (s : List UInt8) : Nat → Int
 | 0=>-1
 | i + 1=>if s[i]? = some c then i else lq c s i

def lastOf (c : UInt8) (s : List UInt8) : Int:=lq c s s.length

def Ap (c : UInt8) : Int:=if c.toNat = 126 then -1 else if cZ c then 1 + c.toNat else 300 + c.toNat
def sgn (a b : Int) : Int:=if a < b then -1 else if a > b then 1 else 0
def bw (s : List UInt8) : List UInt8:=s.dropWhile fun c=>!aJ c
def jo (s : List UInt8) : List UInt8:=s.dropWhile fun c=>c == 48
def bc (s : List UInt8) : Nat:=(s.takeWhile aJ).length

theorem Hj {s : List UInt8} {i : Nat} (hi : i ≤ s.length) (h1 : ∀ c ∈ s.take i,aJ c = true) (h2 : ∀ c,s[i]? = some c → aJ c = false) : bc s = i:=by
 induction s generalizing i with
 | nil=>simp at hi; subst hi; rfl
 | cons c r ih =>
  cases i with
  | zero =>
   have:=h2 c rfl
   simp [bc,this]
  | succ i =>
   have hc:=h1 c (by simp)
   have:=ih (i:=i) (by simpa using hi) (fun d hd=>h1 d (by simp [hd])) (fun d hd=>h2 d (by simpa using hd))
   simpa [bc,hc] using this

def rk : List UInt8 → Int
 | []=>0
 | c :: _=>if aJ c then 0 else Ap c

theorem Da (c : UInt8) : Ap c ≠ 0:=by unfold Ap; split <;> (try split) <;> omega

theorem Ad {s : List UInt8} (h : rk s ≠ 0) : ∃ c r,s = c :: r ∧ aJ c = false:=by
 cases s with
 | nil=>exact absurd rfl h
 | cons c r =>
  refine ⟨c,r,rfl,?_⟩
  cases hd : aJ c with
  | false=>rfl
  | true=>simp [rk,hd] at h

def bQ : List UInt8 → List UInt8 → Int
 | [],b=>if rk b = 0 then 0 else sgn 0 (rk b)
 | c :: a,b=>if rk (c :: a) = 0 ∧ rk b = 0 then 0 else if rk (c :: a) = rk b then bQ a b.tail else sgn (rk (c :: a)) (rk b)

theorem gy {a b : List UInt8} (h : rk a = 0) (h' : rk b = 0) : bQ a b = 0:=by
 cases a <;> simp [bQ,h,h']

theorem gC {a b : List UInt8} (h : rk a ≠ 0) (he : rk a = rk b) : bQ a b = bQ a.tail b.tail:=by
 cases a with
 | nil=>exact absurd rfl h
 | cons c a=>rw [bQ,if_neg (fun e=>h e.1),if_pos he]; rfl

theorem oR {a b : Int} (h : a ≠ b) : sgn a b ≠ 0:=by unfold sgn; split <;> (try split) <;> omega
theorem r7 (a : Int) : sgn a a = 0:=by simp [sgn]
theorem ri {a b : Int} (h : sgn a b = 0) : a = b:=by
 cases Int.decEq a b with
 | isTrue h=>exact h
 | isFalse hn=>exact absurd h (oR hn)

theorem dw {a b : List UInt8} (he : rk a ≠ rk b) : bQ a b = sgn (rk a) (rk b):=by
 cases a with
 | nil =>
  have : ¬ rk b = 0:=fun e=>he (by rw [e]; rfl)
  rw [bQ,if_neg this]; rfl
 | cons c a=>rw [bQ,if_neg (fun e=>he (by rw [e.1,e.2])),if_neg he]

def gA : List UInt8 → List UInt8 → Int
 | x :: a,y :: b=>if x = y then gA a b else sgn x.toNat y.toNat
 | _,_=>0

def aR (s : List UInt8) : List UInt8:=jo (bw s)

theorem eG {p : UInt8 → Bool} (s : List UInt8) : (s.dropWhile p).length ≤ s.length:=by
 induction s with
 | nil=>simp
 | cons c r ih=>simp only [List.dropWhile_cons]; split <;> simp <;> omega

theorem Ax (s : List UInt8) : (aR s).length ≤ s.length:=Nat.le_trans (eG _) (eG _)
theorem uR (s : List UInt8) : bc s ≤ s.length:=(List.takeWhile_sublist _).length_le

theorem ku {s : List UInt8} (h : s ≠ []) : ((aR s).drop (bc (aR s))).length < s.length:=by
 cases s with
 | nil=>exact absurd rfl h
 | cons c r =>
  cases hd : aJ c with
  | false =>
   have : aR (c :: r) = aR r:=by simp [aR,bw,hd]
   rw [this,List.length_drop]
   have:=Ax r
   simp; omega
  | true =>
   have e : bw (c :: r) = c :: r:=by simp [bw,hd]
   by_cases h0 : c = 48
   ·have : aR (c :: r) = jo r:=by rw [aR,e]; simp [jo,h0]
    rw [this,List.length_drop]
    have:=eG (p:=fun c=>c == 48) r
    simp only [jo,List.length_cons]; omega
   ·have : aR (c :: r) = c :: r:=by rw [aR,e]; simp [jo,h0]
    rw [this,List.length_drop]
    have : 0 < bc (c :: r):=by simp [bc,hd]
    simp only [List.length_cons]; omega

theorem mT (s : List UInt8) : ((aR s).drop (bc (aR s))).length ≤ s.length:=by
 rw [List.length_drop]; have:=Ax s; omega

def br (a b : List UInt8) : Int :=
 if _h : a = [] ∧ b = [] then 0
 else if bQ a b ≠ 0 then bQ a b
 else if bc (aR a) ≠ bc (aR b) then sgn (bc (aR a)) (bc (aR b))
 else if gA ((aR a).take (bc (aR a))) ((aR b).take (bc (aR b))) ≠ 0 then gA ((aR a).take (bc (aR a))) ((aR b).take (bc (aR b)))
 else br ((aR a).drop (bc (aR a))) ((aR b).drop (bc (aR b)))
termination_by a.length + b.length
decreasing_by
 have h1:=mT a
 have h2:=mT b
 by_cases ha : a = []
 ·have hb : b ≠ []:=fun e=>_h ⟨ha,e⟩
  have:=ku hb
  omega
 ·have:=ku ha
  omega

theorem wO {a b : List UInt8} (h : ¬ (a = [] ∧ b = [])) : ((aR a).drop (bc (aR a))).length + ((aR b).drop (bc (aR b))).length < a.length + b.length:=by
 have h1:=mT a
 have h2:=mT b
 by_cases ha : a = []
 ·have hb : b ≠ []:=fun e=>h ⟨ha,e⟩
  have:=ku hb
  omega
 ·have:=ku ha
  omega

theorem jv (c : UInt8) (s : List UInt8) : (aQ c s = -1 ∧ c ∉ s) ∨ ∃ i : Nat,aQ c s = i ∧ s[i]? = some c ∧ i < s.length:=by
 unfold aQ
 cases h : s.findIdx? (· == c) with
 | none =>
  refine .inl ⟨rfl,fun hm=>?_⟩
  have:=List.findIdx?_eq_none_iff.1 h c hm
  simp at this
 | some i =>
  obtain ⟨hi,he,_⟩:=List.findIdx?_eq_some_iff_getElem.1 h
  refine .inr ⟨i,rfl,?_,hi⟩
  rw [List.getElem?_eq_getElem hi]
  simpa using he

theorem nL (c : UInt8) (s : List UInt8) : ∀ n : Nat,n ≤ s.length → (lq c s n = -1 ∧ ∀ j,j < n → s[j]? ≠ some c) ∨ ∃ i : Nat,lq c s n = i ∧ s[i]? = some c ∧ i < n
 | 0,_=>.inl ⟨rfl,fun j h=>absurd h (Nat.not_lt_zero j)⟩
 | n + 1,h=>by
  unfold lq
  split
  ·rename_i he; exact .inr ⟨n,rfl,he,Nat.lt_succ_self n⟩
  ·rename_i he
   rcases nL c s n (by omega) with ⟨h1,h2⟩ | ⟨i,h1,h2,h3⟩
   ·refine .inl ⟨h1,fun j hj=>?_⟩
    rcases Nat.lt_succ_iff_lt_or_eq.1 hj with hj | rfl
    ·exact h2 j hj
    ·exact he
   ·exact .inr ⟨i,h1,h2,by omega⟩

theorem uA (c : UInt8) (s : List UInt8) : (lastOf c s = -1 ∧ c ∉ s) ∨ ∃ i : Nat,lastOf c s = i ∧ s[i]? = some c ∧ i < s.length:=by
 rcases nL c s s.length (Nat.le_refl _) with ⟨h1,h2⟩ | h
 ·refine .inl ⟨h1,fun hm=>?_⟩
  obtain ⟨j,hj⟩:=List.mem_iff_getElem?.1 hm
  exact h2 j (List.getElem?_eq_some_iff.1 hj).1 hj
 ·exact .inr h

def EK (c : UInt8) : Bool:=cZ c || aJ c || (c.toNat : Int) == 43 || (c.toNat : Int) == 46 || (c.toNat : Int) == 126
def JV (c : UInt8) : Bool:=cZ c || aJ c || (c.toNat : Int) == 43 || (c.toNat : Int) == 46 || (c.toNat : Int) == 126 || (c.toNat : Int) == 45 || (c.toNat : Int) == 58
def EG (s : List UInt8) : Option (List UInt8 × List UInt8) :=
 if 0 ≤ aQ 58 s then
  (let e:=s.take (aQ 58 s).toNat
   if 1 ≤ e.length ∧ e.length ≤ 9 ∧ e.all aJ = true then some (e,s.drop ((aQ 58 s).toNat + 1)) else none)
 else some ([48],s)

def sM (t : List UInt8) : Option (List UInt8 × List UInt8) :=
 if 0 ≤ lastOf 45 t then (if t.drop ((lastOf 45 t).toNat + 1) = [] then none else some (t.take (lastOf 45 t).toNat,t.drop ((lastOf 45 t).toNat + 1)))
 else some (t,[])

def jh : List UInt8 → Bool
 | []=>false
 | c :: _=>aJ c

def iM (s : List UInt8) : Option (List UInt8 × List UInt8 × List UInt8) :=
 if s.length = 0 ∨ 48 < s.length then none else
 match EG s with
 | none=>none
 | some (e,t)=>match sM t with
  | none=>none
  | some (u,r)=>if r.all EK && u.all JV && jh u then some (e,u,r) else none

def bz (s : List UInt8) : Bool:=(iM s).isSome

def bJ (a b : List UInt8) : Int :=
 match iM a,iM b with
 | some (e,u,r),some (f,v,s)=>if br e f ≠ 0 then br e f else if br u v ≠ 0 then br u v else br r s
 | _,_=>0

def bt (a b : List UInt8) : Bool:=bz a && bz b && bJ a b == 0

def j2 (rel : Int) (a b : List UInt8) : Bool :=
 if rel = 0 then bz a
 else if bz a && bz b then
  (if rel = 1 then decide (bJ a b < 0) else if rel = 2 then decide (bJ a b ≤ 0) else if rel = 3 then bJ a b == 0
   else if rel = 4 then decide (0 ≤ bJ a b) else if rel = 5 then decide (0 < bJ a b) else false)
 else false

end Go.Av
end
