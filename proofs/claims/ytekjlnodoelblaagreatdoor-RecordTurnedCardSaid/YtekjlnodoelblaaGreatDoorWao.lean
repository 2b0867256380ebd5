/- Texts that the last one of this claim rests on: a layer over the guide's own conditions for code; contracts of the functions that the law reaches, one by one. No conditions beside those of the given rows. -/
import Derived.Lib.SplitLaws
import Derived.Lib.IndexBytes
import Derived.Lib.TrimUEq
import Derived.Shelf.GgClosure.StringsTrimFunc
import Derived.Test.YtekjlnodoelblaaGreatDoorWaa
import Derived.Test.YtekjlnodoelblaaGreatDoorWai
set_option linter.unusedSimpArgs false
set_option linter.unusedVariables false
section
namespace Go.Av
set_option maxRecDepth 10000
def contB (s : List UInt8) (i lo hi : Nat) : Bool:=match s[i]? with
 | some c=>decide (lo ≤ c.toNat) && decide (c.toNat ≤ hi)
 | none=>false
def sizeT (s : List UInt8) : Nat:=match s with
 | []=>0
 | c :: _ =>
  if c.toNat < 128 then 1
  else if 194 ≤ c.toNat ∧ c.toNat ≤ 223 ∧ contB s 1 128 191 = true then 2
  else if (c.toNat = 224 ∧ contB s 1 160 191 = true ∧ contB s 2 128 191 = true) ∨ (c.toNat = 237 ∧ contB s 1 128 159 = true ∧ contB s 2 128 191 = true) then 3
  else if 225 ≤ c.toNat ∧ c.toNat ≤ 239 ∧ c.toNat ≠ 237 ∧ contB s 1 128 191 = true ∧ contB s 2 128 191 = true then 3
  else if (c.toNat = 240 ∧ contB s 1 144 191 = true ∧ contB s 2 128 191 = true ∧ contB s 3 128 191 = true) ∨ (c.toNat = 244 ∧ contB s 1 128 143 = true ∧ contB s 2 128 191 = true ∧ contB s 3 128 191 = true) then 4
  else if 241 ≤ c.toNat ∧ c.toNat ≤ 243 ∧ contB s 1 128 191 = true ∧ contB s 2 128 191 = true ∧ contB s 3 128 191 = true then 4
  else 0
def badC (c : UInt8) : Bool:=(decide (c.toNat < 32) && !decide (c.toNat = 9)) || decide (c.toNat = 127)
def goodF : Nat → List UInt8 → Nat → Int
 | 0,_,_=>-1
 | _ + 1,[],_=>-1
 | f + 1,c :: r,i=>if sizeT (c :: r) = 0 ∨ badC c = true then (i : Int) else goodF f ((c :: r).drop (sizeT (c :: r))) (i + sizeT (c :: r))
def goodT (s : List UInt8) : Int:=goodF s.length s 0

theorem cont_lt {s : List UInt8} {i lo hi : Nat} (h : contB s i lo hi = true) : i < s.length:=by
 unfold contB at h
 split at h
 ·rename_i c hc; exact (List.getElem?_eq_some_iff.1 hc).1
 ·cases h
theorem sizeT_le (s : List UInt8) : sizeT s ≤ s.length ∧ sizeT s ≤ 4:=by
 have key : ∀ {i lo hi : Nat},contB s i lo hi = true → i < s.length:=fun h=>cont_lt h
 unfold sizeT
 split
 ·simp
 ·rename_i c r
  refine ⟨?_,?_⟩
  rotate_left
  ·repeat' split
   all_goals omega
  split
  ·simp
  split
  ·rename_i h; exact key h.2.2
  split
  ·rename_i h; rcases h with h | h <;> exact key h.2.2
  split
  ·rename_i h; exact key h.2.2.2.2
  split
  ·rename_i h; rcases h with h | h <;> exact key h.2.2.2
  split
  ·rename_i h; exact key h.2.2.2.2
  ·omega
theorem sizeT_ascii {c : UInt8} {r : List UInt8} (h : c.toNat < 128) : sizeT (c :: r) = 1:=by
 unfold sizeT
 simp only [h,if_true]

theorem get_arr (s : List UInt8) (i : Nat) : (ByteArray.mk s.toArray).get! i = (s[i]?).getD 0:=by
 show s.toArray[i]! = _
 rw [getElem!_def]
 simp
 cases s[i]? <;> rfl
theorem cont_dec {s : List UInt8} (i lo hi : Nat) : (contB s i lo hi = true) = (i < s.length ∧ lo ≤ ((s[i]?).getD 0).toNat ∧ ((s[i]?).getD 0).toNat ≤ hi):=by
 unfold contB
 cases hc : s[i]? with
 | none =>
  have : ¬ i < s.length:=fun h=>by rw [List.getElem?_eq_getElem h] at hc; cases hc
  simp [this]
 | some c =>
  have hl:=(List.getElem?_eq_some_iff.1 hc).1
  simp only [Option.getD_some,Bool.and_eq_true,decide_eq_true_eq,hl,true_and]
theorem decAt_zero (s : List UInt8) (i : Nat) (h : i < s.length) : decAt s i = decAt (s.drop i) 0:=by
 have e : ∀ k,(ByteArray.mk s.toArray).get! (i + k) = (ByteArray.mk (s.drop i).toArray).get! (0 + k):=fun k=>by
  rw [get_arr,get_arr,List.getElem?_drop,Nat.zero_add]
 have l : ∀ k,(i + k < (ByteArray.mk s.toArray).size) = (0 + k < (ByteArray.mk (s.drop i).toArray).size):=fun k=>by
  show (i + k < s.toArray.size) = (0 + k < (s.drop i).toArray.size)
  rw [List.size_toArray,List.size_toArray,List.length_drop]
  exact propext ⟨fun _=>by omega,fun _=>by omega⟩
 unfold decAt Utf8.decode
 simp only [e,l]
def szN (n b0 b1 b2 b3 : Nat) : Nat :=
 if 194 ≤ b0 ∧ b0 ≤ 223 ∧ 1 < n ∧ 128 ≤ b1 ∧ b1 ≤ 191 then 2
 else if (b0 = 224 ∧ (1 < n ∧ 160 ≤ b1 ∧ b1 ≤ 191) ∧ 2 < n ∧ 128 ≤ b2 ∧ b2 ≤ 191) ∨ (b0 = 237 ∧ (1 < n ∧ 128 ≤ b1 ∧ b1 ≤ 159) ∧ 2 < n ∧ 128 ≤ b2 ∧ b2 ≤ 191) then 3
 else if 225 ≤ b0 ∧ b0 ≤ 239 ∧ b0 ≠ 237 ∧ (1 < n ∧ 128 ≤ b1 ∧ b1 ≤ 191) ∧ 2 < n ∧ 128 ≤ b2 ∧ b2 ≤ 191 then 3
 else if (b0 = 240 ∧ (1 < n ∧ 144 ≤ b1 ∧ b1 ≤ 191) ∧ (2 < n ∧ 128 ≤ b2 ∧ b2 ≤ 191) ∧ 3 < n ∧ 128 ≤ b3 ∧ b3 ≤ 191) ∨ (b0 = 244 ∧ (1 < n ∧ 128 ≤ b1 ∧ b1 ≤ 143) ∧ (2 < n ∧ 128 ≤ b2 ∧ b2 ≤ 191) ∧ 3 < n ∧ 128 ≤ b3 ∧ b3 ≤ 191) then 4
 else if 241 ≤ b0 ∧ b0 ≤ 243 ∧ (1 < n ∧ 128 ≤ b1 ∧ b1 ≤ 191) ∧ (2 < n ∧ 128 ≤ b2 ∧ b2 ≤ 191) ∧ 3 < n ∧ 128 ≤ b3 ∧ b3 ≤ 191 then 4
 else 0
def okR (x : Nat) : Prop:=x < 55296 ∨ (57344 ≤ x ∧ x ≤ 1114111)
instance (x : Nat) : Decidable (okR x):=inferInstanceAs (Decidable (_ ∨ _))
def decN (n b0 b1 b2 b3 : Nat) : Nat × Nat :=
 if b0 / 32 = 6 ∧ 1 < n ∧ b1 / 64 = 2 then (if b0 % 32 * 64 + b1 % 64 ≥ 128 then (b0 % 32 * 64 + b1 % 64,2) else (65533,1))
 else if (b0 / 16 = 14 ∧ 1 < n ∧ b1 / 64 = 2) ∧ 2 < n ∧ b2 / 64 = 2 then (if b0 % 16 * 4096 + b1 % 64 * 64 + b2 % 64 ≥ 2048 ∧ okR (b0 % 16 * 4096 + b1 % 64 * 64 + b2 % 64) then (b0 % 16 * 4096 + b1 % 64 * 64 + b2 % 64,3) else (65533,1))
 else if ((b0 / 8 = 30 ∧ 1 < n ∧ b1 / 64 = 2) ∧ 2 < n ∧ b2 / 64 = 2) ∧ 3 < n ∧ b3 / 64 = 2 then (if b0 % 8 * 262144 + b1 % 64 * 4096 + b2 % 64 * 64 + b3 % 64 ≥ 65536 ∧ okR (b0 % 8 * 262144 + b1 % 64 * 4096 + b2 % 64 * 64 + b3 % 64) then (b0 % 8 * 262144 + b1 % 64 * 4096 + b2 % 64 * 64 + b3 % 64,4) else (65533,1))
 else (65533,1)
theorem dec_num {n b0 b1 b2 b3 : Nat} (h0 : b0 < 256) (h1 : b1 < 256) (h2 : b2 < 256) (h3 : b3 < 256) : (szN n b0 b1 b2 b3 = 0 ∧ decN n b0 b1 b2 b3 = (65533,1)) ∨ ((decN n b0 b1 b2 b3).2 = szN n b0 b1 b2 b3 ∧ 128 ≤ (decN n b0 b1 b2 b3).1 ∧ 2 ≤ szN n b0 b1 b2 b3):=by
 unfold decN
 split
 ·split
  ·right
   have : szN n b0 b1 b2 b3 = 2:=if_pos (by omega)
   rw [this]
   exact ⟨rfl,by simp only; omega,by omega⟩
  ·left
   refine ⟨?_,rfl⟩
   unfold szN
   rw [if_neg (by omega),if_neg (by omega),if_neg (by omega),if_neg (by omega),if_neg (by omega)]
 ·split
  ·split
   ·rename_i hk
    unfold okR at hk
    right
    have : szN n b0 b1 b2 b3 = 3:=by
     unfold szN
     rw [if_neg (by omega)]
     by_cases hx : b0 = 224 ∨ b0 = 237
     ·rw [if_pos (by omega)]
     ·rw [if_neg (by omega),if_pos (by omega)]
    rw [this]
    exact ⟨rfl,by simp only; omega,by omega⟩
   ·rename_i hk
    unfold okR at hk
    left
    refine ⟨?_,rfl⟩
    unfold szN
    rw [if_neg (by omega),if_neg (by omega),if_neg (by omega),if_neg (by omega),if_neg (by omega)]
  ·split
   ·split
    ·rename_i hk
     unfold okR at hk
     right
     have : szN n b0 b1 b2 b3 = 4:=by
      unfold szN
      rw [if_neg (by omega),if_neg (by omega),if_neg (by omega)]
      by_cases hx : b0 = 240 ∨ b0 = 244
      ·rw [if_pos (by omega)]
      ·rw [if_neg (by omega),if_pos (by omega)]
     rw [this]
     exact ⟨rfl,by simp only; omega,by omega⟩
    ·rename_i hk
     unfold okR at hk
     left
     refine ⟨?_,rfl⟩
     unfold szN
     rw [if_neg (by omega),if_neg (by omega),if_neg (by omega),if_neg (by omega),if_neg (by omega)]
   ·left
    refine ⟨?_,rfl⟩
    unfold szN
    rw [if_neg (by omega),if_neg (by omega),if_neg (by omega),if_neg (by omega),if_neg (by omega)]
theorem size_num {c : UInt8} {r : List UInt8} (h : ¬ c.toNat < 128) : sizeT (c :: r) = szN (c :: r).length c.toNat (((c :: r)[1]?).getD 0).toNat (((c :: r)[2]?).getD 0).toNat (((c :: r)[3]?).getD 0).toNat:=by
 have e1:=cont_dec (s:=c :: r) 1
 have e2:=cont_dec (s:=c :: r) 2
 have e3:=cont_dec (s:=c :: r) 3
 unfold sizeT szN
 simp only [h,if_false]
 simp only [e1,e2,e3]
theorem decAt_num {c : UInt8} {r : List UInt8} (h : ¬ c.toNat < 128) : decAt (c :: r) 0 = decN (c :: r).length c.toNat (((c :: r)[1]?).getD 0).toNat (((c :: r)[2]?).getD 0).toNat (((c :: r)[3]?).getD 0).toNat:=by
 have hsz : (ByteArray.mk (c :: r).toArray).size = (c :: r).length:=by show (c :: r).toArray.size = _; simp
 have hc0 : ((c :: r)[0]?).getD 0 = c:=rfl
 have hv : ∀ x : Nat,(Utf8.valid (x : Int) = true) = okR x:=fun x=>by
  unfold Utf8.valid okR
  simp only [Bool.or_eq_true,Bool.and_eq_true,decide_eq_true_eq,eq_iff_iff]
  omega
 unfold decAt Utf8.decode decN
 simp only [get_arr,Nat.zero_add,hsz,hc0,Utf8.runeError,h,if_false]
 simp only [Bool.and_eq_true,decide_eq_true_eq,beq_iff_eq,hv]
theorem dec_size (c : UInt8) (r : List UInt8) : (sizeT (c :: r) = 0 → decAt (c :: r) 0 = (65533,1)) ∧ (c.toNat < 128 → decAt (c :: r) 0 = (c.toNat,1)) ∧ (128 ≤ c.toNat → 0 < sizeT (c :: r) → (decAt (c :: r) 0).2 = sizeT (c :: r) ∧ 128 ≤ (decAt (c :: r) 0).1 ∧ 2 ≤ sizeT (c :: r)):=by
 have hsz : (ByteArray.mk (c :: r).toArray).size = (c :: r).length:=by show (c :: r).toArray.size = _; simp
 have hc0 : ((c :: r)[0]?).getD 0 = c:=rfl
 by_cases h128 : c.toNat < 128
 ·refine ⟨fun h=>absurd (h.symm.trans (sizeT_ascii h128)) (by decide),fun _=>?_,fun h=>by omega⟩
  unfold decAt Utf8.decode
  simp only [get_arr,Nat.zero_add,hsz,hc0,h128,if_true]
 rw [size_num h128,decAt_num h128]
 rcases dec_num (n:=(c :: r).length) (UInt8.toNat_lt c) (UInt8.toNat_lt (((c :: r)[1]?).getD 0)) (UInt8.toNat_lt (((c :: r)[2]?).getD 0)) (UInt8.toNat_lt (((c :: r)[3]?).getD 0)) with ⟨h1,h2⟩ | h1
 ·exact ⟨fun _=>h2,fun h=>absurd h h128,fun _ h=>by omega⟩
 ·exact ⟨fun h=>by omega,fun h=>absurd h h128,fun _ _=>h1⟩
end Go.Av
end
section
namespace Go.Av
def pieces : List UInt8 → List (List UInt8)
 | []=>[[]]
 | x :: r=>if x = 10 then [] :: pieces r else match pieces r with
  | h :: t=>(x :: h) :: t
  | []=>[[x]]
def dropE (p : List (List UInt8)) : List (List UInt8):=if p.getLast? = some [] then p.dropLast else p
def linesL (b : List UInt8) : List (List UInt8):=dropE (pieces b)
def badL : Nat → List (List UInt8) → Int × Int
 | _,[]=>(0,0)
 | i,s :: r=>if 1000 < s.length then (2,i + 1) else if 0 ≤ goodT s then (3,i + 1) else badL (i + 1) r
def linesT (b : List UInt8) : List (List UInt8) × (Int × Int) :=
 if 65536 < b.length then ([],(2,0)) else if (badL 0 (linesL b)).1 ≠ 0 then ([],badL 0 (linesL b)) else (linesL b,(0,0))

theorem pieces_ne (s : List UInt8) : ∃ h t,pieces s = h :: t:=by
 cases s with
 | nil=>exact ⟨_,_,rfl⟩
 | cons x r =>
  rw [pieces]
  split
  ·exact ⟨_,_,rfl⟩
  ·split <;> exact ⟨_,_,rfl⟩
theorem pieces_plain : ∀ {u : List UInt8},(∀ c ∈ u,c ≠ 10) → pieces u = [u]
 | [],_=>rfl
 | x :: r,h=>by
  rw [pieces,if_neg (h x (by simp)),pieces_plain fun c hc=>h c (by simp [hc])]
theorem pieces_app : ∀ {u : List UInt8} (r : List UInt8),(∀ c ∈ u,c ≠ 10) → pieces (u ++ 10 :: r) = u :: pieces r
 | [],r,_=>by rw [List.nil_append,pieces,if_pos rfl]
 | x :: u,r,h=>by
  rw [List.cons_append,pieces,if_neg (h x (by simp)),pieces_app r fun c hc=>h c (by simp [hc])]
theorem split_pieces : ∀ (k : Nat) (s : List UInt8),s.count 10 = k → Lib.splitK [10] 0 k s = pieces s
 | 0,s,h=>by
  rw [Lib.splitK,pieces_plain fun c hc e=>by subst e; exact absurd hc (List.count_eq_zero.1 h)]
 | k + 1,s,h=>by
  rw [Lib.splitK,Lib.index_one]
  have hge:=Lib.indexByte_ge s 10
  by_cases hm : Lib.indexByte s 10 = -1
  ·exfalso
   have:=Lib.indexByte_none hm
   have hc : s.count 10 = 0:=List.count_eq_zero.2 fun hmem=>by
    obtain ⟨j,hj⟩:=List.mem_iff_getElem?.1 hmem
    exact this j hj
   omega
  ·obtain ⟨i,hi⟩ : ∃ i : Nat,Lib.indexByte s 10 = i:=⟨(Lib.indexByte s 10).toNat,by omega⟩
   obtain ⟨h1,h2⟩:=Lib.indexByte_some hi
   have hil:=(List.getElem?_eq_some_iff.1 h1).1
   have e : s = s.take i ++ 10 :: s.drop (i + 1):=by
    conv=>lhs; rw [← List.take_append_drop i s]
    rw [List.drop_eq_getElem_cons hil,(List.getElem?_eq_some_iff.1 h1).2]
   have hpl : ∀ c ∈ s.take i,c ≠ 10:=fun c hc e=>by
    obtain ⟨j,hj⟩:=List.mem_iff_getElem?.1 hc
    rw [List.getElem?_take] at hj
    split at hj
    ·rename_i hji
     exact h2 j hji (by rw [hj,e])
    ·cases hj
   have hcount : (s.drop (i + 1)).count 10 = k:=by
    have hc:=congrArg (List.count 10) e
    rw [List.count_append,List.count_cons_self,List.count_eq_zero.2 fun hm=>hpl 10 hm rfl] at hc
    omega
   rw [if_neg (by simpa using hm),hi]
   simp only [Int.toNat_natCast,Nat.add_zero,List.length_cons,List.length_nil,Nat.zero_add]
   rw [split_pieces k _ hcount]
   conv=>rhs; rw [e,pieces_app _ hpl]
theorem badL_app : ∀ {l m : List (List UInt8)} {i : Nat},(badL i l).1 = 0 → badL i (l ++ m) = badL (i + l.length) m
 | [],m,i,_=>rfl
 | s :: r,m,i,h=>by
  rw [badL] at h
  split at h
  ·simp at h
  ·rename_i h1
   split at h
   ·simp at h
   ·rename_i h2
    rw [List.cons_append,badL,if_neg h1,if_neg h2,badL_app h,List.length_cons]
    congr 1
    omega
theorem pieces_mem_len : ∀ {s u : List UInt8},u ∈ pieces s → u.length ≤ s.length
 | [],u,h=>by simp [pieces] at h; subst h; simp
 | x :: r,u,h=>by
  rw [pieces] at h
  split at h
  ·rcases List.mem_cons.1 h with rfl | h
   ·simp
   ·have:=pieces_mem_len h; simp; omega
  ·obtain ⟨a,t,e⟩:=pieces_ne r
   rw [e] at h
   simp only at h
   have ih : ∀ v ∈ pieces r,v.length ≤ r.length:=fun v hv=>pieces_mem_len hv
   rw [e] at ih
   rcases List.mem_cons.1 h with rfl | h
   ·have:=ih a (by simp); simp; omega
   ·have:=ih u (by simp [h]); simp; omega
theorem pieces_len (s : List UInt8) : (pieces s).length = s.count 10 + 1:=by
 induction s with
 | nil=>rfl
 | cons x r ih =>
  rw [pieces]
  split
  ·rename_i h; subst h; simp [ih]
  ·rename_i h
   obtain ⟨a,t,e⟩:=pieces_ne r
   rw [e] at ih ⊢
   simp only [List.length_cons] at ih ⊢
   rw [List.count_cons_of_ne (by simpa using h)]
   exact ih
theorem linesL_len (s : List UInt8) : (linesL s).length ≤ s.length + 1:=by
 have h1:=pieces_len s
 have h2:=List.count_le_length (a:=(10 : UInt8)) (l:=s)
 unfold linesL dropE
 split
 ·rw [List.length_dropLast]; omega
 ·omega
end Go.Av
end
section
namespace Go.Av
set_option maxRecDepth 10000
def wsR (x : Nat) : Bool:=x == 32 || x == 9
theorem wsR_byte (c : UInt8) : wsR c.toNat = wsB c:=(wsB_iff c).symm
theorem wsR_ge {x : Nat} (h : 128 ≤ x) : wsR x = false:=by
 unfold wsR
 simp only [Bool.or_eq_false_iff,beq_eq_false_iff_ne]
 omega
theorem wsB_ge {c : UInt8} (h : 128 ≤ c.toNat) : wsB c = false:=by rw [← wsR_byte]; exact wsR_ge h
theorem wsB_lt {c : UInt8} (h : wsB c = true) : c.toNat < 128:=by
 refine Classical.byContradiction fun hn=>?_
 rw [wsB_ge (by omega)] at h
 cases h
theorem dec_ge {c : UInt8} {r : List UInt8} (h : 128 ≤ c.toNat) : 128 ≤ (decAt (c :: r) 0).1:=by
 obtain ⟨h1,_,h3⟩:=dec_size c r
 by_cases hz : sizeT (c :: r) = 0
 ·rw [h1 hz]; simp only; omega
 ·exact (h3 h (by omega)).2.1
theorem dec_ws (c : UInt8) (r : List UInt8) : wsR (decAt (c :: r) 0).1 = wsB c:=by
 by_cases h : c.toNat < 128
 ·rw [(dec_size c r).2.1 h,wsR_byte]
 ·rw [wsR_ge (dec_ge (by omega)),wsB_ge (by omega)]
theorem trimE_take (s : List UInt8) : trimE s = s.take (trimE s).length:=by
 rcases List.eq_nil_or_concat s with rfl | ⟨u,c,rfl⟩
 ·rfl
 ·rw [List.concat_eq_append,trimE_snoc]
  split
  ·have ih:=trimE_take u
   have hl:=trimE_len u
   rw [List.take_append_of_le_length hl]
   exact ih
  ·rw [List.take_length]
termination_by s.length
decreasing_by all_goals simp_wf; subst_vars; simp
theorem skipW_drop (s : List UInt8) : skipW s = s.drop (s.length - (skipW s).length):=by
 induction s with
 | nil=>rfl
 | cons c r ih =>
  rw [skipW_cons]
  have hl:=skipW_len r
  split
  ·rw [List.length_cons,show r.length + 1 - (skipW r).length = (r.length - (skipW r).length) + 1 by omega,List.drop_succ_cons]
   exact ih
  ·simp
theorem left_ws (s : List UInt8) : ∀ (f pos : Nat),s.length ≤ pos + f → Lib.idxFuncFrom wsR false ⟨s.toArray⟩ f pos = if skipW (s.drop pos) = [] then -1 else ((s.length - (skipW (s.drop pos)).length : Nat) : Int)
 | 0,pos,h=>by rw [Lib.idxFuncFrom,List.drop_eq_nil_of_le (by omega)]; rfl
 | f + 1,pos,h=>by
  have hsz : (ByteArray.mk s.toArray).size = s.length:=by show s.toArray.size = _; simp
  rw [Lib.idxFuncFrom,hsz]
  by_cases hp : pos < s.length
  ·rw [if_pos hp]
   have e : Utf8.decode ⟨s.toArray⟩ pos = decAt (s.drop pos) 0:=decAt_zero s pos hp
   rw [e]
   rw [List.drop_eq_getElem_cons hp,dec_ws,skipW_cons]
   generalize hc : s[pos] = c
   by_cases hw : wsB c = true
   ·rw [hw,if_neg (by decide),if_pos rfl,(dec_size c _).2.1 (wsB_lt hw)]
    exact left_ws s f (pos + 1) (by omega)
   ·rw [if_pos (by simpa using hw),if_neg hw,if_neg (by simp)]
    simp only [List.length_cons,List.length_drop]
    congr 1
    omega
  ·rw [if_neg hp,List.drop_eq_nil_of_le (by omega)]
   rfl
theorem left_eq (s : List UInt8) : Lib.trimLeftF wsR ⟨s.toArray⟩ = ⟨(skipW s).toArray⟩:=by
 have hsz : (ByteArray.mk s.toArray).size = s.length:=by show s.toArray.size = _; simp
 have h:=left_ws s s.length 0 (by omega)
 unfold Lib.trimLeftF Lib.idxFunc
 rw [hsz,h,List.drop_zero]
 by_cases h0 : skipW s = []
 ·rw [if_pos h0,if_pos rfl,h0]
 ·rw [if_neg h0,if_neg (by omega),Int.toNat_natCast,← Lib.mk_data (ByteArray.extract _ _ _),Lib.extract_data]
  congr 2
  show List.take _ (List.drop _ s) = _
  rw [← skipW_drop,List.take_of_length_le (by have:=skipW_len s; omega)]
theorem right_ws (s : List UInt8) : ∀ (f i : Nat),i ≤ f → i ≤ s.length → Lib.OpenAt s i → (trimE (s.take i) = [] ∧ Lib.lastIdxFuncFrom wsR false ⟨s.toArray⟩ f i = -1) ∨
  ∃ k : Nat,Lib.lastIdxFuncFrom wsR false ⟨s.toArray⟩ f i = k ∧ k < s.length ∧ k + (Lib.decodeL (s.drop k)).2 = (trimE (s.take i)).length
 | 0,i,h,_,_=>by
  obtain rfl : i = 0:=by omega
  exact .inl ⟨rfl,rfl⟩
 | f + 1,i,h,hl,ho=>by
  by_cases h0 : i = 0
  ·subst h0
   exact .inl ⟨rfl,Lib.lastIdxFuncFrom_zero _ _ _ _⟩
  have hi : 0 < i:=by omega
  have hw:=Lib.fw_width s i hi hl ho
  have hlt : i - 1 < s.length:=by omega
  have hgd : s.getD (i - 1) 0 = s[i - 1]:=by simp [List.getD,hlt]
  have htk : s.take i = s.take (i - 1) ++ [s[i - 1]]:=by
   conv=>lhs; rw [show i = (i - 1) + 1 by omega]
   rw [List.take_add_one,List.getElem?_eq_getElem hlt]; rfl
  have hlen : (s.take i).length = i:=by rw [List.length_take]; omega
  have hwd:=Lib.decodeLastL_width (s.take i) (by omega)
  rw [hlen] at hwd
  have hti : trimE (s.take i) = if wsB s[i - 1] = true then trimE (s.take (i - 1)) else s.take i:=by
   conv=>lhs; rw [htk,trimE_snoc]
   rw [← htk]
  rw [Lib.lastIdxFuncFrom,if_pos hi]
  show (_ ∧ (if wsR (Lib.decodeLastL (s.take i)).1 = false then _ else _) = _) ∨ ∃ k : Nat,(if wsR (Lib.decodeLastL (s.take i)).1 = false then _ else _) = _ ∧ _
  have key : wsR (Lib.decodeLastL (s.take i)).1 = wsB s[i - 1] ∧ (wsB s[i - 1] = true → (Lib.decodeLastL (s.take i)).2 = 1):=by
   rw [← hgd]
   rcases Lib.last_cases s i hi hl with ⟨ha,hd⟩ | ⟨ha,hd⟩ | ⟨ha,st,hst,hd,hsum⟩
   ·rw [hd]; exact ⟨wsR_byte _,fun _=>rfl⟩
   ·rw [hd,wsB_ge ha]; exact ⟨rfl,fun h=>by cases h⟩
   ·rw [wsB_ge ha]
    refine ⟨?_,fun h=>by cases h⟩
    rw [hd]
    have hs2 : st < (s.take i).length:=by omega
    rw [List.drop_eq_getElem_cons hs2] at hsum ⊢
    generalize hb : (s.take i)[st] = b at hsum ⊢
    by_cases hb2 : b.toNat < 128
    ·exfalso
     have e : Lib.decodeL (b :: List.drop (st + 1) (s.take i)) = (b.toNat,1):=(dec_size b _).2.1 hb2
     rw [e] at hsum
     simp only at hsum
     have : b = s.getD (i - 1) 0:=by
      rw [← hb,hgd,List.getElem_take]
      congr 1
      omega
     rw [this] at hb2
     omega
    ·exact wsR_ge (dec_ge (by omega))
  rw [key.1]
  by_cases hws : wsB s[i - 1] = true
  ·rw [if_neg (by simp [hws]),key.2 hws,hti,if_pos hws]
   exact right_ws s f (i - 1) (by omega) (by omega) (.inr (by rw [hgd]; have:=wsB_lt hws; omega))
  ·refine .inr ⟨i - (Lib.decodeLastL (s.take i)).2,by rw [if_pos (by simpa using hws)],by omega,?_⟩
   rw [hw,hti,if_neg hws,hlen]
   omega
theorem right_eq (s : List UInt8) : Lib.trimRightF wsR ⟨s.toArray⟩ = ⟨(trimE s).toArray⟩:=by
 have hsz : (ByteArray.mk s.toArray).size = s.length:=by show s.toArray.size = _; simp
 have hr:=right_ws s s.length s.length (Nat.le_refl _) (Nat.le_refl _) (.inl rfl)
 rw [List.take_length] at hr
 have hl:=trimE_len s
 have key : Lib.rightEndF wsR ⟨s.toArray⟩ = (trimE s).length:=by
  unfold Lib.rightEndF Lib.lastIdxFunc
  rw [hsz]
  rcases hr with ⟨h1,h2⟩ | ⟨k,h1,h2,h3⟩
  ·rw [h2,if_neg (by omega),h1]; rfl
  ·rw [h1,if_pos (by omega),Int.toNat_natCast]
   have hx : ((ByteArray.mk s.toArray).extract k s.length).data.toList = s.drop k:=by
    rw [Lib.extract_data]
    show List.take _ (List.drop k s) = _
    rw [List.take_of_length_le (by rw [List.length_drop]; omega)]
   have hz : ((ByteArray.mk s.toArray).extract k s.length).size ≠ 0:=by rw [Lib.size_eq,hx,List.length_drop]; omega
   have e3 : Lib.decodeGoB ((ByteArray.mk s.toArray).extract k s.length) = Lib.decodeL (s.drop k):=by
    unfold Lib.decodeGoB
    rw [if_neg hz,← hx]
    rfl
   rw [e3]
   exact h3
 unfold Lib.trimRightF
 rw [key,← Lib.mk_data (ByteArray.extract _ _ _),Lib.extract_data]
 congr 2
 show List.take _ (List.drop 0 s) = _
 rw [List.drop_zero,Nat.sub_zero,← trimE_take]
theorem trimF_eq (s : List UInt8) : Lib.trimF wsR ⟨s.toArray⟩ = ⟨(trimT s).toArray⟩:=by
 unfold Lib.trimF trimT
 rw [left_eq,right_eq]
end Go.Av
end
