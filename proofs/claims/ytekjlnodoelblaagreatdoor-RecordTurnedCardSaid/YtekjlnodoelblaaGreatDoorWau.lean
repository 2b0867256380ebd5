/- Texts that the last one of this claim rests on: a layer over the guide's own conditions for code; contracts of the functions that the law reaches, one by one. No conditions beside those of the given rows. -/
import Derived.Test.YtekjlnodoelblaaGreatDoorWaa
import Derived.Test.YtekjlnodoelblaaGreatDoorWas
set_option linter.unusedSimpArgs false
set_option linter.unusedVariables false
section
namespace Go.Av
theorem cls_big {c : UInt8} (h : 128 ≤ c.toNat) : clsB c = 0:=by
 refine Classical.byContradiction fun hn=>?_
 rcases cls_cases hn with e | e | e | e | e | e | e | e | e <;> subst e <;> revert h <;> decide
theorem size_bytes {n b0 b1 b2 b3 : Nat} : (2 ≤ szN n b0 b1 b2 b3 → 128 ≤ b0 ∧ 128 ≤ b1) ∧ (3 ≤ szN n b0 b1 b2 b3 → 128 ≤ b2) ∧ (4 ≤ szN n b0 b1 b2 b3 → 128 ≤ b3):=by
 unfold szN
 repeat' split
 all_goals (refine ⟨fun _=>?_,fun _=>?_,fun _=>?_⟩ <;> omega)
theorem dec_bytes {c : UInt8} {r : List UInt8} (h : 128 ≤ c.toNat) : 1 ≤ (decAt (c :: r) 0).2 ∧ (decAt (c :: r) 0).2 ≤ (c :: r).length ∧ ∀ d ∈ (c :: r).take (decAt (c :: r) 0).2,128 ≤ d.toNat:=by
 obtain ⟨h1,_,h3⟩:=dec_size c r
 by_cases hz : sizeT (c :: r) = 0
 ·rw [h1 hz]
  refine ⟨by simp,by simp,fun d hd=>?_⟩
  simp at hd
  rw [hd]; exact h
 ·obtain ⟨g1,_,g3⟩:=h3 h (by omega)
  have hle:=sizeT_le (c :: r)
  rw [g1]
  refine ⟨by omega,hle.1,fun d hd=>?_⟩
  have hn : ¬ c.toNat < 128:=by omega
  have hs:=size_num (r:=r) hn
  obtain ⟨b1,b2,b3⟩:=size_bytes (n:=(c :: r).length) (b0:=c.toNat) (b1:=(((c :: r)[1]?).getD 0).toNat) (b2:=(((c :: r)[2]?).getD 0).toNat) (b3:=(((c :: r)[3]?).getD 0).toNat)
  rw [← hs] at b1 b2 b3
  obtain ⟨j,hj⟩:=List.mem_iff_getElem?.1 hd
  rw [List.getElem?_take] at hj
  split at hj
  ·rename_i hlt
   have hj4 : j < 4:=by omega
   match j,hj4,hlt,hj with
   | 0,_,_,hj=>simp at hj; rw [← hj]; exact h
   | 1,_,hlt,hj=>have:=(b1 (by omega)).2; rw [hj] at this; exact this
   | 2,_,hlt,hj=>have:=b2 (by omega); rw [hj] at this; exact this
   | 3,_,hlt,hj=>have:=b3 (by omega); rw [hj] at this; exact this
  ·cases hj
theorem dec_ge' {c : UInt8} {r : List UInt8} (h : 128 ≤ c.toNat) : 128 ≤ (decAt (c :: r) 0).1:=by
 obtain ⟨h1,_,h3⟩:=dec_size c r
 by_cases hz : sizeT (c :: r) = 0
 ·rw [h1 hz]; simp only; omega
 ·exact (h3 h (by omega)).2.1
theorem toksA_plain : ∀ {w : List UInt8} (cur r : List UInt8),(∀ c ∈ w,clsB c = 0) → toksA 0 cur (w ++ r) = toksA 0 (cur ++ w) r
 | [],cur,r,_=>by simp
 | c :: w,cur,r,h=>by
  have h1 : clsB c = 0:=h c (by simp)
  rw [List.cons_append,toksA,if_neg (by omega),toksA_plain _ _ fun d hd=>h d (by simp [hd]),List.append_assoc]
  rfl
theorem toksA_chunk {was : Nat} {cur w r : List UInt8} (hw : w ≠ []) (h : ∀ c ∈ w,clsB c = 0) : toksA was cur (w ++ r) = if was ≠ 0 then emitT was cur ++ toksA 0 w r else toksA 0 (cur ++ w) r:=by
 by_cases h0 : was = 0
 ·subst h0
  rw [if_neg (by simp),toksA_plain _ _ h]
 ·rw [if_pos h0]
  cases w with
  | nil=>exact absurd rfl hw
  | cons c w =>
   have h1 : clsB c = 0:=h c (by simp)
   rw [List.cons_append,toksA,if_pos (.inl (by omega)),h1,toksA_plain _ _ fun d hd=>h d (by simp [hd])]
   rfl
def clsR (x : Nat) : Nat:=if x = 32 ∨ x = 9 then 1 else if x = 40 ∨ x = 41 ∨ x = 44 ∨ x = 124 then 2 else if x = 60 ∨ x = 62 ∨ x = 61 then 3 else 0
theorem u8_lit {c k : UInt8} : c = k ↔ c.toNat = k.toNat:=UInt8.toNat_inj.symm
theorem clsR_byte (c : UInt8) : clsR c.toNat = clsB c:=by
 unfold clsR clsB
 simp only [u8_lit]
 rfl
theorem clsR_big {x : Nat} (h : 128 ≤ x) : clsR x = 0:=by
 unfold clsR
 rw [if_neg (by omega),if_neg (by omega),if_neg (by omega)]
theorem toks_len : ∀ {s : List UInt8} {was : Nat} {cur : List UInt8},(toksA was cur s).length ≤ s.length + 1
 | [],was,cur=>by
  rw [toksA]
  unfold emitT
  split <;> simp
 | c :: r,was,cur=>by
  rw [toksA]
  have h1:=toks_len (s:=r) (was:=clsB c) (cur:=[c])
  have h2:=toks_len (s:=r) (was:=was) (cur:=cur ++ [c])
  split
  ·rw [List.length_append,List.length_cons]
   have : (emitT was cur).length ≤ 1:=by unfold emitT; split <;> simp
   omega
  ·rw [List.length_cons]; omega
theorem toksA_sign {s : List UInt8} {pos : Nat} (hlt : pos < s.length) (was fr : Nat) (hf : fr ≤ pos) :
  pos + (decAt s pos).2 ≤ s.length ∧ 1 ≤ (decAt s pos).2 ∧ toksA was (cutL s fr pos) (s.drop pos) = if clsR (decAt s pos).1 ≠ was ∨ clsR (decAt s pos).1 = 2 then emitT was (cutL s fr pos) ++ toksA (clsR (decAt s pos).1) (cutL s pos (pos + (decAt s pos).2)) (s.drop (pos + (decAt s pos).2)) else toksA was (cutL s fr (pos + (decAt s pos).2)) (s.drop (pos + (decAt s pos).2)):=by
 have hd:=List.drop_eq_getElem_cons hlt
 have hcat : ∀ m,pos + m ≤ s.length → cutL s fr pos ++ cutL s pos (pos + m) = cutL s fr (pos + m):=fun m hm=>by
  refine List.ext_getElem? fun j=>?_
  have hl : (cutL s fr pos).length = pos - fr:=by simp [cutL]; omega
  by_cases hj : j < pos - fr
  ·rw [List.getElem?_append_left (by omega)]
   simp only [cutL,List.getElem?_take,List.getElem?_drop]
   rw [if_pos hj,if_pos (by omega)]
  ·rw [List.getElem?_append_right (by omega),hl]
   simp only [cutL,List.getElem?_take,List.getElem?_drop]
   by_cases hj2 : j < pos + m - fr
   ·rw [if_pos (by omega),if_pos hj2]
    congr 1
    omega
   ·rw [if_neg (by omega),if_neg hj2]
 rw [decAt_zero s pos hlt]
 generalize hc : s[pos] = c at hd
 rw [hd]
 have hdl : (s.drop pos).length = s.length - pos:=List.length_drop
 by_cases h8 : c.toNat < 128
 ·rw [(dec_size c _).2.1 h8]
  simp only
  rw [clsR_byte]
  have hw : cutL s pos (pos + 1) = [c]:=by
   unfold cutL
   rw [hd,show pos + 1 - pos = 1 by omega]
   rfl
  refine ⟨by omega,by omega,?_⟩
  rw [toksA,← hcat 1 (by omega),hw]
 ·obtain ⟨b1,b2,b3⟩:=dec_bytes (r:=s.drop (pos + 1)) (show 128 ≤ c.toNat by omega)
  have hge:=dec_ge' (r:=s.drop (pos + 1)) (show 128 ≤ c.toNat by omega)
  rw [← hd] at b1 b2 b3 hge ⊢
  generalize decAt (s.drop pos) 0 = d at *
  obtain ⟨x,m⟩:=d
  simp only at b1 b2 b3 hge ⊢
  rw [hdl] at b2
  rw [clsR_big hge]
  refine ⟨by omega,b1,?_⟩
  have hw : cutL s pos (pos + m) = (s.drop pos).take m:=by
   unfold cutL
   rw [show pos + m - pos = m by omega]
  have hsp : s.drop pos = (s.drop pos).take m ++ s.drop (pos + m):=by
   have:=List.take_append_drop m (s.drop pos)
   rw [List.drop_drop] at this
   exact this.symm
  conv=>lhs; rw [hsp]
  rw [toksA_chunk (fun e=>by have h0:=congrArg List.length e; rw [List.length_take,hdl] at h0; simp at h0; omega) fun d hd=>cls_big (b3 d hd),← hcat m (by omega),hw]
  by_cases h0 : was = 0
  ·rw [if_neg (by simp [h0]),if_neg (by omega),h0]
  ·rw [if_pos h0,if_pos (by omega)]
end Go.Av
end
