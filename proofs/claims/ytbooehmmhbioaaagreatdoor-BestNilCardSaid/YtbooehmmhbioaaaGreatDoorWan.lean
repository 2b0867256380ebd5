/- Texts that the last one of this claim rests on: a layer over the guide's own conditions for code; contracts of the functions that the law reaches, one by one. No conditions beside those of the given rows. -/
import Derived.Lib.Join
import Derived.Test.YtbooehmmhbioaaaGreatDoorWaa
import Derived.Test.YtbooehmmhbioaaaGreatDoorWah
set_option linter.unusedSimpArgs false
set_option linter.unusedVariables false
section
namespace Go.Av
def Qy (r : Int) : List UInt8:=if r = 1 then [60,60] else if r = 2 then [60,61] else if r = 3 then [61] else if r = 4 then [62,61] else if r = 5 then [62,62] else []
end Go.Av
end
section
namespace Go.Av

def yb (c : UInt8) : Nat:=if c = 32 ∨ c = 9 then 1 else if c = 40 ∨ c = 41 ∨ c = 44 ∨ c = 124 then 2 else if c = 60 ∨ c = 62 ∨ c = 61 then 3 else 0
def wsB (c : UInt8) : Bool:=decide (yb c = 1)
def jO (s : List UInt8) : List UInt8:=s.dropWhile wsB
def wg (c : UInt8) : Bool:=decide (yb c = 0 ∨ yb c = 3)
def zD (t : List UInt8) : Int:=if [60,60].isPrefixOf t = true then 1 else if [60,61].isPrefixOf t = true then 2 else if [61].isPrefixOf t = true then 3 else if [62,61].isPrefixOf t = true then 4 else if [62,62].isPrefixOf t = true then 5 else 0
def Q2 (s : List UInt8) : Option (Atom × List UInt8) :=
 let s1:=jO s
 if dH (s1.takeWhile wg) = true then
  match jO (s1.dropWhile wg) with
  | []=>some (⟨s1.takeWhile wg,0,[]⟩,[])
  | c :: t=>if c = 40 then
    let t1:=jO t
    let t3:=jO (t1.drop (Qy (zD t1)).length)
    if zD t1 ≠ 0 ∧ bz (t3.takeWhile wg) = true then
     match jO (t3.dropWhile wg) with
     | []=>none
     | d :: t5=>if d = 41 then some (⟨s1.takeWhile wg,zD t1,t3.takeWhile wg⟩,t5) else none
    else none
   else some (⟨s1.takeWhile wg,0,[]⟩,c :: t)
 else none

theorem Hy {c : UInt8} {t : List UInt8} (h : yb c ≠ 1) : jO (c :: t) = c :: t:=by
 unfold jO
 rw [List.dropWhile_cons,if_neg (by simp [wsB,h])]
theorem Fb {α : Type} {p : α → Bool} : ∀ {l : List α} {c : α},c ∈ l.takeWhile p → p c = true
 | [],_,h=>by simp at h
 | d :: r,c,h=>by
  rw [List.takeWhile_cons] at h
  split at h
  ·rename_i hd
   rcases List.mem_cons.1 h with rfl | h
   ·exact hd
   ·exact Fb h
  ·simp at h
end Go.Av
end
section
namespace Go.Av

def clR (may : Atom → Bool) (one : Bool) : Nat → List UInt8 → Clause → Except Int (Clause × List UInt8)
 | 0,_,_=>.error 12
 | f + 1,s,out=>match Q2 s with
  | none=>.error 3
  | some (a,t)=>if may a = false then .error 3 else if one = true then .ok (out ++ [a],jO t) else match jO t with
   | []=>.ok (out ++ [a],[])
   | d :: u=>if d = 124 then clR may one f u (out ++ [a]) else .ok (out ++ [a],d :: u)
def Rw (may : Atom → Bool) (one : Bool) : Nat → List UInt8 → List Clause → List Clause × Int
 | 0,_,_=>([],12)
 | f + 1,s,out=>match clR may one 6 s [] with
  | .error e=>([],e)
  | .ok (c,t)=>match t with
   | []=>(out ++ [c],0)
   | d :: u=>if d = 44 then Rw may one f u (out ++ [c]) else ([],3)
def vB (may : Atom → Bool) (one : Bool) (s : List UInt8) : List Clause × Int:=if jO s = [] then ([],0) else Rw may one 12 s []
end Go.Av
end
section
namespace Go.Av
def lk (s : List UInt8) : List UInt8:=(s.reverse.dropWhile wsB).reverse
def jT (s : List UInt8) : List UInt8:=lk (jO s)
def L0 (c : UInt8) : UInt8:=if 65 ≤ c.toNat ∧ c.toNat ≤ 90 then c + 32 else c
def JH (a b : List UInt8) : Bool:=decide (a.map L0 = b.map L0)
def k8 (l : List (List UInt8)) : List UInt8:=Lib.join ((l.map jT).filter fun t=>decide (t ≠ [])) [32]
theorem yA (u : List UInt8) (c : UInt8) : lk (u ++ [c]) = if wsB c = true then lk u else u ++ [c]:=by
 unfold lk
 rw [List.reverse_append,List.reverse_cons,List.reverse_nil,List.nil_append,List.cons_append,List.nil_append,List.dropWhile_cons]
 split
 ·rfl
 ·simp
theorem BD (s : List UInt8) : (lk s).length ≤ s.length:=by
 unfold lk
 rw [List.length_reverse]
 exact Nat.le_trans (List.Sublist.length_le (List.dropWhile_sublist _)) (by simp)
theorem Bo (s : List UInt8) : (jO s).length ≤ s.length:=List.Sublist.length_le (List.dropWhile_sublist _)
theorem Bi (s : List UInt8) : (jT s).length ≤ s.length:=Nat.le_trans (BD _) (Bo _)

theorem Hm {l : List (List UInt8)} (x sep : List UInt8) (h : l ≠ []) : Lib.join (l ++ [x]) sep = Lib.join l sep ++ (sep ++ x):=by
 cases l with
 | nil=>exact absurd rfl h
 | cons y r =>
  rw [List.cons_append,Lib.join_cons,Lib.join_cons,Lib.joinTail,Lib.joinTail]
  simp
def nq (l : List (List UInt8)) : List (List UInt8):=(l.map jT).filter fun t=>decide (t ≠ [])
theorem s9 {l : List (List UInt8)} : k8 l = [] ↔ nq l = []:=by
 unfold k8
 show Lib.join (nq l) [32] = [] ↔ nq l = []
 cases hf : nq l with
 | nil=>simp [Lib.join_nil]
 | cons y r =>
  have hy : y ≠ []:=by
   have : y ∈ nq l:=by rw [hf]; simp
   have:=(List.mem_filter.1 this).2
   simpa using this
  rw [Lib.join_cons]
  simp [hy]
theorem Cc (l : List (List UInt8)) (s : List UInt8) : k8 (l ++ [s]) = if jT s = [] then k8 l else if k8 l = [] then jT s else k8 l ++ ([32] ++ jT s):=by
 have e : nq (l ++ [s]) = nq l ++ (if jT s = [] then [] else [jT s]):=by
  unfold nq
  rw [List.map_append,List.filter_append]
  congr 1
  by_cases h : jT s = [] <;> simp [h]
 show Lib.join (nq (l ++ [s])) [32] = _
 rw [e]
 by_cases h : jT s = []
 ·rw [if_pos h,if_pos h,List.append_nil]; rfl
 ·rw [if_neg h,if_neg h]
  by_cases h2 : k8 l = []
  ·rw [if_pos h2,s9.1 h2,List.nil_append,Lib.join_one]
  ·rw [if_neg h2,Hm _ _ fun e=>h2 (s9.2 e)]
   rfl
def vy (l : List (List UInt8)) : Nat:=(l.map List.length).sum
theorem BB (l : List (List UInt8)) (s : List UInt8) : vy (l ++ [s]) = vy l + s.length:=by simp [vy]
theorem qW (l : List (List UInt8)) : ∀ i,(k8 (l.take i)).length ≤ vy (l.take i) + i
 | 0=>by simp [k8,Lib.join_nil]
 | i + 1=>by
  have ih:=qW l i
  cases hx : l[i]? with
  | none =>
   have : l.take (i + 1) = l.take i:=by rw [List.take_add_one,hx]; simp
   rw [this]
   omega
  | some s =>
   have : l.take (i + 1) = l.take i ++ [s]:=by rw [List.take_add_one,hx]; rfl
   rw [this,Cc,BB]
   have:=Bi s
   split
   ·omega
   ·split
    ·omega
    ·simp only [List.length_append,List.length_cons,List.length_nil]; omega
theorem Cn (l : List (List UInt8)) : (k8 l).length ≤ vy l + l.length:=by
 have:=qW l l.length
 rwa [List.take_of_length_le (Nat.le_refl _)] at this
end Go.Av
end
section
namespace Go.Av
set_option maxRecDepth 10000
def gV (s : List UInt8) (i lo hi : Nat) : Bool:=match s[i]? with
 | some c=>decide (lo ≤ c.toNat) && decide (c.toNat ≤ hi)
 | none=>false
def tM (s : List UInt8) : Nat:=match s with
 | []=>0
 | c :: _ =>
  if c.toNat < 128 then 1
  else if 194 ≤ c.toNat ∧ c.toNat ≤ 223 ∧ gV s 1 128 191 = true then 2
  else if (c.toNat = 224 ∧ gV s 1 160 191 = true ∧ gV s 2 128 191 = true) ∨ (c.toNat = 237 ∧ gV s 1 128 159 = true ∧ gV s 2 128 191 = true) then 3
  else if 225 ≤ c.toNat ∧ c.toNat ≤ 239 ∧ c.toNat ≠ 237 ∧ gV s 1 128 191 = true ∧ gV s 2 128 191 = true then 3
  else if (c.toNat = 240 ∧ gV s 1 144 191 = true ∧ gV s 2 128 191 = true ∧ gV s 3 128 191 = true) ∨ (c.toNat = 244 ∧ gV s 1 128 143 = true ∧ gV s 2 128 191 = true ∧ gV s 3 128 191 = true) then 4
  else if 241 ≤ c.toNat ∧ c.toNat ≤ 243 ∧ gV s 1 128 191 = true ∧ gV s 2 128 191 = true ∧ gV s 3 128 191 = true then 4
  else 0
def LV (c : UInt8) : Bool:=(decide (c.toNat < 32) && !decide (c.toNat = 9)) || decide (c.toNat = 127)
def A0 : Nat → List UInt8 → Nat → Int
 | 0,_,_=>-1
 | _ + 1,[],_=>-1
 | f + 1,c :: r,i=>if tM (c :: r) = 0 ∨ LV c = true then (i : Int) else A0 f ((c :: r).drop (tM (c :: r))) (i + tM (c :: r))
def IM (s : List UInt8) : Int:=A0 s.length s 0

theorem x9 {c : UInt8} {r : List UInt8} (h : c.toNat < 128) : tM (c :: r) = 1:=by
 unfold tM
 simp only [h,if_true]

end Go.Av
end
