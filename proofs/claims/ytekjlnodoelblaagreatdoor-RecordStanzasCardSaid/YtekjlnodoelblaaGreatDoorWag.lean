/- Texts that the last one of this claim rests on: a layer over the guide's own conditions for code; contracts of the functions that the law reaches, one by one. No conditions beside those of the given rows. -/
import Derived.Test.YtekjlnodoelblaaGreatDoorWae
import Derived.Test.YtekjlnodoelblaaGreatDoorWaf
set_option linter.unusedSimpArgs false
set_option linter.unusedVariables false
section
namespace Go.Proofs.Tryz
open Go Go.Av
set_option maxRecDepth 10000
variable {W0 : World}

theorem r4_small (c : UInt8) : PureFn prog W0 113 [.int .u8 c.toNat] (.bool (smallC c)):=by
 refine fn_pure [2] [] func113 rfl rfl ntmps113 rfl rfl (.bool _) fun _ σ=>?_
 simp only [go_sem,simprocAttr,↓reduceIte]
 exact weak_bool (by rw [smallC]; congr 1 <;> exact decide_eq_decide.2 (by omega))

theorem r4_digit (c : UInt8) : PureFn prog W0 114 [.int .u8 c.toNat] (.bool (digitC c)):=by
 refine fn_pure [2] [] func114 rfl rfl ntmps114 rfl rfl (.bool _) fun _ σ=>?_
 simp only [go_sem,simprocAttr,↓reduceIte]
 exact weak_bool (by rw [digitC]; congr 1 <;> exact decide_eq_decide.2 (by omega))

theorem r4_letter (c : UInt8) : PureFn prog W0 170 [.int .u8 c.toNat] (.bool (letterC c)):=by
 refine fn_pure [2] [] func170 rfl rfl ntmps170 rfl rfl (.bool _) fun _ σ=>?_
 simp only [go_sem,simprocAttr,↓reduceIte]
 refine CallA.fn (r4_small c) ?_
 simp only [go_sem,simprocAttr,↓reduceIte]
 refine weak_bool ?_
 unfold letterC
 congr 2 <;> exact decide_eq_decide.2 (by omega)

theorem r4_sign (a b : Int) : PureFn prog W0 195 [.int .i64 a,.int .i64 b] (.int .i64 (sgn a b)):=by
 refine fn_pure [4] [] func195 rfl rfl ntmps195 rfl rfl (.int _ _) fun _ σ=>?_
 simp only [go_sem,simprocAttr,↓reduceIte]
 refine ⟨fun h=>weak_int (by simp [sgn,h]),fun h=>⟨fun h'=>weak_int (by simp [sgn,h,h']),fun h'=>weak_int (by simp [sgn,h,h'])⟩⟩

theorem r4_first (s : List UInt8) (c : UInt8) : PureFn prog W0 168 [.str s,.int .u8 c.toNat] (.int .i64 (firstOf c s)):=by
 refine fn_pure [4] [] func168 rfl rfl ntmps168 rfl rfl (.int _ _) fun hs σ=>?_
 have hsl : s.length ≤ maxLen:=small_str (hs _ (by simp))
 simp only [go_sem,simprocAttr,↓reduceIte]
 refine VC.upto [] s.length (fun i A=>A.env 0 = .str s ∧ A.env 1 = .int .u8 c.toNat ∧ A.env 7 = .int .i64 s.length ∧ A.env 8 = .int .i64 i ∧ A.st = σ ∧ ∀ j d,j < i → s[j]? = some d → ¬ d = c) 0 (Nat.zero_le _) (.here ?_) fun i A hi ⟨h0,h1,h7,h8,hst,hI⟩=>?_
 ·simp only [go_sem,simprocAttr,↓reduceIte]
 simp only [go_sem,simprocAttr,↓reduceIte,h0,h1,h7,h8,hst]
 refine ⟨fun hc=>⟨hc,fun h=>?_,fun h=>⟨hc,.here ?_⟩⟩,fun hc=>?_⟩
 ·obtain ⟨x,hx⟩:=get_some hc
  simp only [hx,Option.getD_some] at h
  subst h
  exact weak_int (firstOf_at hx hI).symm
 ·simp only [go_sem,simprocAttr,↓reduceIte,h0,h1,h7,h8,hst]
  refine ⟨int_succ hc hsl,fun j d hj hd=>?_⟩
  rcases Nat.lt_succ_iff_lt_or_eq.1 hj with hj | rfl
  ·exact hI j d hj hd
  ·simpa [hd] using h
 ·exact weak_int (firstOf_none fun j d hj=>hI j d (by have:=(List.getElem?_eq_some_iff.1 hj).1; omega) hj).symm

theorem r4_last (s : List UInt8) (c : UInt8) : PureFn prog W0 169 [.str s,.int .u8 c.toNat] (.int .i64 (lastOf c s)):=by
 refine fn_pure [4] [] func169 rfl rfl ntmps169 rfl rfl (.int _ _) fun hs σ=>?_
 have hsl : s.length ≤ 9223372036854775807:=small_str (hs _ (by simp))
 simp only [go_sem,simprocAttr,↓reduceIte]
 refine VC.falls [] (fun k A=>A.env 0 = .str s ∧ A.env 1 = .int .u8 c.toNat ∧ A.env 5 = .int .i64 ((k : Int) - 1) ∧ A.st = σ ∧ k ≤ s.length ∧ lastOf c s = lastTo c s k) s.length (.here ?_) fun k A ⟨h0,h1,h5,hst,hk,hI⟩=>?_
 ·simp only [go_sem,simprocAttr,↓reduceIte]
  simp [lastOf]
  exact wrap_in (by omega)
 simp only [go_sem,simprocAttr,↓reduceIte,h0,h1,h5,hst]
 cases k with
 | zero =>
  refine ⟨fun h=>by simp at h,fun _=>weak_int hI.symm⟩
 | succ i =>
  have e : ((i + 1 : Nat) : Int) - 1 = (i : Int):=by omega
  simp only [e]
  obtain ⟨x,hx⟩:=get_some (show i < s.length by omega)
  simp only [go_sem,simprocAttr,↓reduceIte,hx]
  have hib : (i : Int) - 1 ≤ 9223372036854775807:=by omega
  refine ⟨by omega,fun h=>weak_int ?_,fun h=>.here i (by omega) ?_⟩
  ·rw [hI,lastTo,hx,h]; simp
  ·simp only [go_sem,simprocAttr,↓reduceIte,h0,h1,h5,hst]
   refine ⟨?_,by omega,?_⟩
   ·rw [wrap_in ⟨by omega,hib⟩]
   ·rw [hI,lastTo,hx,if_neg (by simpa using h)]

theorem r4_rank (s : List UInt8) (i : Nat) : PureFn prog W0 194 [.str s,.int .i64 i] (.int .i64 (rankAt s i)):=by
 refine fn_pure [4] [] func194 rfl rfl ntmps194 rfl rfl (.int _ _) fun hs σ=>?_
 simp only [go_sem,simprocAttr,↓reduceIte]
 refine CallP.fnG (fun _=>r4_digit _) ?_
 simp only [go_sem,simprocAttr,↓reduceIte]
 refine ⟨fun h=>weak_int ?_,fun h=>?_⟩
 ·cases hi : s[i]? with
  | none=>simp [rankAt,hi]
  | some c =>
   have:=(List.getElem?_eq_some_iff.1 hi).1
   simp only [hi,Option.getD_some,Bool.or_eq_true,decide_eq_true_eq] at h
   simp [rankAt,hi,h.resolve_left (by omega)]
 simp only [Bool.or_eq_false_iff,decide_eq_false_iff_not,Nat.not_le] at h
 obtain ⟨c,hc⟩:=get_some h.1
 simp only [hc,Option.getD_some] at h ⊢
 refine ⟨by omega,fun h1=>weak_int ?_,fun h1=>?_⟩
 ·have : c.toNat = 126:=by omega
  simp [rankAt,hc,h.2,rankC,this]
 refine CallA.fn (r4_letter c) ?_
 have h126 : ¬ c.toNat = 126:=by omega
 have hc8:=c.toNat_lt
 simp only [go_sem,simprocAttr,↓reduceIte]
 refine ⟨fun h2=>weak_int ?_,fun h2=>weak_int ?_⟩
 ·rw [wrap_in (by omega)]
  simp [rankAt,hc,h.2,rankC,h126,h2]
 ·rw [wrap_in (by omega)]
  simp [rankAt,hc,h.2,rankC,h126,h2]

theorem r4_run (s : List UInt8) : PureFn prog W0 197 [.str s] (.int .i64 (runS s)):=by
 refine fn_pure [2] [] func197 rfl rfl ntmps197 rfl rfl (.int _ _) fun hs σ=>?_
 have hsl : s.length ≤ maxLen:=small_str (hs _ (by simp))
 simp only [go_sem,simprocAttr,↓reduceIte]
 refine VC.upto [] s.length (fun i A=>A.env 0 = .str s ∧ A.env 3 = .int .i64 i ∧ A.st = σ ∧ ∀ c ∈ s.take i,digitC c = true) 0 (Nat.zero_le _) (.here ?_) fun i A hi ⟨h0,h3,hst,hI⟩=>?_
 ·simp only [go_sem,simprocAttr,↓reduceIte]
  all_goals simp
 simp only [go_sem,simprocAttr,↓reduceIte,h0,h3,hst]
 refine CallP.fnG (fun _=>r4_digit _) ?_
 simp only [go_sem,simprocAttr,↓reduceIte,h0,h3,hst]
 rw [at_and,at_and_f]
 refine ⟨fun ⟨c,hc,hd⟩=>?_,fun h=>weak_int (by rw [runS_at hi hI h])⟩
 have hlt:=(List.getElem?_eq_some_iff.1 hc).1
 refine ⟨hlt,.here ?_⟩
 simp only [go_sem,simprocAttr,↓reduceIte,h0,h3,hst]
 refine ⟨int_succ hlt hsl,fun d hd'=>?_⟩
 rw [take_succ_get hc] at hd'
 rcases List.mem_append.1 hd' with h | h
 ·exact hI d h
 ·simp at h; rw [h]; exact hd

theorem r4_skip (s : List UInt8) : PureFn prog W0 196 [.str s] (.str (skip0 (skipD s))):=by
 refine fn_pure [2] [] func196 rfl rfl ntmps196 rfl rfl (.str _) fun hs σ=>?_
 simp only [go_sem,simprocAttr,↓reduceIte]
 refine LoopVC.cut (fun A=>A.env 0 = .str (skipD s) ∧ A.st = σ) (fun A ⟨h0,hst⟩=>?_) ?_
 ·simp only [go_sem,simprocAttr,↓reduceIte]
  refine VC.falls [] (fun k A=>∃ t,A.env 0 = .str t ∧ A.st = σ ∧ k = t.length ∧ skip0 t = skip0 (skipD s)) (skipD s).length (.here ⟨skipD s,h0,hst,rfl,rfl⟩) fun k A ⟨t,h0,hst,hk,hI⟩=>?_
  cases t with
  | nil =>
   simp only [go_sem,simprocAttr,↓reduceIte,h0,hst]
   exact weak_str hI
  | cons c r =>
   simp only [go_sem,simprocAttr,↓reduceIte,h0,hst]
   refine ⟨fun h=>.here r.length (by rw [hk]; exact Nat.lt_succ_self _) ⟨r,?_⟩,fun h=>weak_str ?_⟩
   ·simp only [go_sem,simprocAttr,↓reduceIte,h0,hst]
    have : c = 48:=UInt8.toNat_inj.1 (by simp; omega)
    rw [← hI,this]
    simp [skip0]
   ·rw [← hI]
    simp [skip0,show ¬ c = 48 from fun e=>h (by subst e; rfl)]
 refine VC.falls [] (fun k A=>∃ t,A.env 0 = .str t ∧ A.st = σ ∧ k = t.length ∧ skipD t = skipD s) s.length (.here ⟨s,?_⟩) fun k A ⟨t,h0,hst,hk,hI⟩=>?_
 ·simp only [go_sem,simprocAttr,↓reduceIte]
 cases t with
 | nil =>
  simp only [go_sem,Nat.reduceEqDiff,Nat.reduceLT,↓reduceIte,Int.reduceToNat,Int.reduceLE,Int.reduceLT,Int.reduceEq,Int.reduceBEq,Int.reduceBNe,Int.reduceNeg,Int.reduceAdd,Int.reduceSub,Nat.reduceBEq,Nat.reduceAdd,Nat.reduceMul,Nat.reduceSub,Nat.reduceLeDiff,h0,hst]
  refine CallP.fnG (fun _=>r4_digit _) ?_
  simp only [go_sem,simprocAttr,↓reduceIte,h0,hst]
  rw [← hI]; rfl
 | cons c r =>
  simp only [go_sem,simprocAttr,↓reduceIte,h0,hst]
  refine CallP.fnG (fun _=>r4_digit _) ?_
  simp only [go_sem,simprocAttr,↓reduceIte,h0,hst]
  refine ⟨fun h=>.here r.length (by rw [hk]; exact Nat.lt_succ_self _) ⟨r,?_⟩,fun h=>?_⟩
  ·simp only [go_sem,simprocAttr,↓reduceIte,h0,hst]
   rw [← hI]
   simp [skipD,h]
  ·rw [← hI]
   simp [skipD,h]
end Go.Proofs.Tryz
end
section
namespace Go.Proofs.Tryz
open Go Go.Av
set_option maxRecDepth 10000
variable {W0 : World}

theorem r4_part (a b : List UInt8) : PureFn prog W0 154 [.str a,.str b] (.int .i64 (partV a b)):=by
 refine fn_pure [4] [] func154 rfl rfl ntmps154 rfl rfl (.int _ _) fun hs σ=>?_
 have hal : a.length ≤ maxLen:=small_str (hs (.str a) (by simp))
 have hbl : b.length ≤ maxLen:=small_str (hs (.str b) (by simp))
 simp only [go_sem,simprocAttr,↓reduceIte]
 refine VC.falls [] (fun k A=>∃ x y,A.env 0 = .str x ∧ A.env 1 = .str y ∧ A.st = σ ∧ k = x.length + y.length ∧ partV x y = partV a b ∧ x.length ≤ maxLen ∧ y.length ≤ maxLen) (a.length + b.length) (.here ⟨a,b,?_⟩) fun k A ⟨x,y,h0,h1,hst,hk,hI,hx,hy⟩=>?_
 ·simp only [go_sem,simprocAttr,↓reduceIte]
  simp [hal,hbl]
 simp only [go_sem,simprocAttr,↓reduceIte,h0,h1,hst]
 refine ⟨fun hc=>?_,fun hc=>?_⟩
 case refine_2 =>
  have : x = [] ∧ y = []:=by cases x <;> cases y <;> simp at hc ⊢
  refine weak_int ?_
  rw [← hI,partV,dif_pos this]
 have hne : ¬ (x = [] ∧ y = []):=fun ⟨e,e'⟩=>by subst e e'; simp at hc
 refine LoopVC.cut (fun A=>A.env 0 = .str x ∧ A.env 1 = .str y ∧ A.st = σ ∧ signsL x y = 0) (fun A ⟨h0,h1,hst,hs0⟩=>?_) ?_
 case refine_2 =>
  refine VC.upto [] x.length (fun i A=>A.env 0 = .str x ∧ A.env 1 = .str y ∧ A.env 5 = .int .i64 i ∧ A.st = σ ∧ signsL (x.drop i) (y.drop i) = signsL x y) 0 (Nat.zero_le _) (.here ?_) fun i A hi ⟨h0,h1,h5,hst,hI'⟩=>?_
  ·simp only [go_sem,simprocAttr,↓reduceIte,h0,h1,hst]
   all_goals simp
  simp only [go_sem,simprocAttr,↓reduceIte,h0,h1,h5,hst]
  refine CallA.fn (r4_rank x i) ?_
  simp only [go_sem,simprocAttr,↓reduceIte,h0,h1,h5,hst]
  refine CallP.fnG (fun _=>r4_rank y i) ?_
  simp only [go_sem,simprocAttr,↓reduceIte,h0,h1,h5,hst]
  refine ⟨fun hr=>?_,fun hr=>?_⟩
  case refine_2 =>
   simp only [Bool.or_eq_false_iff,bne_eq_false_iff_eq] at hr
   rw [rankAt_drop,rankAt_drop] at hr
   rw [← hI',signsL_zero hr.1 hr.2]
  refine CallA.fn (r4_rank x i) ?_
  simp only [go_sem,simprocAttr,↓reduceIte,h0,h1,h5,hst]
  refine CallA.fn (r4_rank y i) ?_
  simp only [go_sem,simprocAttr,↓reduceIte,h0,h1,h5,hst]
  refine CallA.fn (r4_sign _ _) ?_
  simp only [go_sem,simprocAttr,↓reduceIte,h0,h1,h5,hst]
  rw [rankAt_drop,rankAt_drop] at hr ⊢
  refine ⟨fun hne'=>weak_int ?_,fun he=>?_⟩
  ·have hr1 : rk (x.drop i) ≠ rk (y.drop i):=fun e=>hne' (by rw [e,sgn_self])
   have e : signsL x y = sgn (rk (x.drop i)) (rk (y.drop i)):=by rw [← hI',signsL_ne hr1]
   rw [← hI,partV,dif_neg hne,if_pos (by rw [e]; exact hne'),e]
  ·have e:=sgn_eq he
   have hr1 : rk (x.drop i) ≠ 0:=fun h0=>by rw [← e,h0] at hr; simp at hr
   obtain ⟨c,r,hcr,_⟩:=rk_ne hr1
   have hlt : i < x.length:=by
    rcases Nat.lt_or_ge i x.length with h | h
    ·exact h
    ·rw [List.drop_eq_nil_of_le h] at hcr; cases hcr
   refine ⟨hlt,.here ?_⟩
   simp only [go_sem,simprocAttr,↓reduceIte,h0,h1,h5,hst]
   refine ⟨int_succ hlt hx,?_⟩
   rw [← hI',signsL_step hr1 e,List.tail_drop,List.tail_drop]
 simp only [go_sem,simprocAttr,↓reduceIte,h0,h1,hst]
 refine CallA.fn (r4_skip x) ?_
 simp only [go_sem,simprocAttr,↓reduceIte,h0,h1,hst]
 refine CallA.fn (r4_skip y) ?_
 simp only [go_sem,simprocAttr,↓reduceIte,h0,h1,hst]
 refine CallA.fn (r4_run _) ?_
 simp only [go_sem,simprocAttr,↓reduceIte,h0,h1,hst]
 refine CallA.fn (r4_run _) ?_
 simp only [go_sem,simprocAttr,↓reduceIte,h0,h1,hst]
 rw [show skip0 (skipD x) = numS x from rfl,show skip0 (skipD y) = numS y from rfl]
 have hnx:=numS_le x
 have hny:=numS_le y
 refine ⟨fun hm=>?_,fun hm=>?_⟩
 ·refine CallA.fn (r4_sign _ _) ?_
  simp only [go_sem,simprocAttr,↓reduceIte,h0,h1,hst]
  refine weak_int ?_
  rw [← hI,partV,dif_neg hne,if_neg (by simp [hs0]),if_pos hm]
 have hm1:=runS_le (numS x)
 have hm2:=runS_le (numS y)
 refine LoopVC.cut (fun A=>A.env 0 = .str (numS x) ∧ A.env 1 = .str (numS y) ∧ A.env 7 = .int .i64 (runS (numS x)) ∧ A.env 8 = .int .i64 (runS (numS y)) ∧ A.st = σ ∧ lexC ((numS x).take (runS (numS x))) ((numS y).take (runS (numS y))) = 0) (fun A ⟨h0,h1,h7,h8,hst,hl0⟩=>?_) ?_
 ·simp only [go_sem,simprocAttr,↓reduceIte,h0,h1,h7,h8,hst]
  refine ⟨.of (by kernel_rfl),hm1,hm2,.here (((numS x).drop (runS (numS x))).length + ((numS y).drop (runS (numS y))).length) (by rw [hk]; exact partV_lt hne) ⟨(numS x).drop (runS (numS x)),(numS y).drop (runS (numS y)),?_⟩⟩
  simp only [go_sem,simprocAttr,↓reduceIte,h0,h1,h7,h8,hst]
  refine ⟨?_,by rw [List.length_drop]; omega,by rw [List.length_drop]; omega⟩
  rw [← hI,partV.eq_def x y,dif_neg hne,if_neg (by simp [hs0]),if_neg (by simp [hm]),if_neg (by simp [hl0])]
 refine VC.upto [] (runS (numS x)) (fun i A=>A.env 0 = .str (numS x) ∧ A.env 1 = .str (numS y) ∧ A.env 7 = .int .i64 (runS (numS x)) ∧ A.env 8 = .int .i64 (runS (numS y)) ∧ A.env 53 = .int .i64 (runS (numS x)) ∧ A.env 54 = .int .i64 i ∧ A.st = σ ∧ (numS x).take i = (numS y).take i) 0 (Nat.zero_le _) (.here ?_) fun i A hi ⟨h0,h1,h7,h8,h53,h54,hst,hp⟩=>?_
 ·simp only [go_sem,simprocAttr,↓reduceIte,h0,h1,hst]
  all_goals simp
 simp only [go_sem,simprocAttr,↓reduceIte,h0,h1,h7,h8,h53,h54,hst]
 refine ⟨fun hlt=>?_,fun hge=>?_⟩
 ·obtain ⟨c,hc⟩:=get_some (show i < (numS x).length by omega)
  obtain ⟨d,hd⟩:=get_some (show i < (numS y).length by omega)
  have hc8:=c.toNat_lt
  have hd8:=d.toNat_lt
  refine ⟨.of (by kernel_rfl),by omega,by omega,?_⟩
  simp only [hc,hd,Option.getD_some]
  refine CallP.fn (r4_sign _ _) ?_
  simp only [go_sem,simprocAttr,↓reduceIte,h0,h1,h7,h8,h53,h54,hst]
  refine ⟨fun hne'=>weak_int ?_,fun he=>⟨hlt,.here ?_⟩⟩
  ·have hcd : c ≠ d:=fun e=>hne' (by rw [e,sgn_self])
   have hl : lexC ((numS x).take (runS (numS x))) ((numS y).take (runS (numS y))) = sgn c.toNat d.toNat:=by
    refine lexC_at (i:=i) ?_ ?_ ?_ hcd
    ·rw [List.getElem?_take,if_pos hlt]; exact hc
    ·rw [List.getElem?_take,if_pos (by omega)]; exact hd
    ·rw [List.take_take,List.take_take,Nat.min_eq_left (by omega),Nat.min_eq_left (by omega)]; exact hp
   rw [← hI,partV.eq_def x y,dif_neg hne,if_neg (by simp [hs0]),if_neg (by simp [hm]),if_pos (by rw [hl]; exact hne'),hl]
  ·simp only [go_sem,simprocAttr,↓reduceIte,h0,h1,h7,h8,h53,h54,hst]
   refine ⟨int_succ hlt (Nat.le_trans hm1 (Nat.le_trans hnx hx)),?_⟩
   have:=sgn_eq he
   rw [take_succ_get hc,take_succ_get hd,hp,show c = d from UInt8.toNat_inj.1 (by omega)]
 ·have : i = runS (numS x):=by omega
  rw [← hm,← this,hp,lexC_self]
def verAV : Option (List UInt8 × List UInt8 × List UInt8) → AV
 | none=>.tup [.str [],.str [],.str [],.bool false]
 | some (e,u,r)=>.tup [.str e,.str u,.str r,.bool true]

theorem verAV_ids (v : Option (List UInt8 × List UInt8 × List UInt8)) : IdsLt 0 (verAV v):=by
 cases v <;> refine .tup fun x hx=>?_ <;> simp at hx
 ·rcases hx with rfl | rfl
  ·exact .str _
  ·exact .bool _
 ·rcases hx with rfl | rfl | rfl | rfl
  ·exact .str _
  ·exact .str _
  ·exact .str _
  ·exact .bool _

theorem all_take {s : List UInt8} {f : UInt8 → Bool} {i : Nat} {c : UInt8} (h : (s.take i).all f = true) (hc : s[i]? = some c) (hf : f c = true) : (s.take (i + 1)).all f = true:=by
 rw [take_succ_get hc,List.all_append,h]; simp [hf]

theorem r4_version (s : List UInt8) : PureFn prog W0 115 [.str s] (verAV (verP s)):=by
 refine fn_pure [2,3,4,5] [] func115 rfl rfl ntmps115 rfl rfl (verAV_ids _) fun hs σ=>?_
 have hsl : s.length ≤ maxLen:=small_str (hs (.str s) (by simp))
 have none_end : verP s = none → Weak (AV.tup [.str [],.str [],.str [],.bool false]) (verAV (verP s)):=fun e=>by rw [e]; exact .refl _
 simp only [go_sem,simprocAttr,↓reduceIte]
 simp only [Bool.or_eq_true,Bool.or_eq_false_iff,decide_eq_true_eq,decide_eq_false_iff_not,beq_iff_eq,beq_eq_false_iff_ne]
 refine ⟨fun h=>none_end (by rw [verP,if_pos (by omega)]),fun h=>?_⟩
 have hlen : ¬ (s.length = 0 ∨ 48 < s.length):=by omega
 refine CallA.fn (r4_first s 58) ?_
 simp only [go_sem,simprocAttr,↓reduceIte]
 refine JoinVC.cut (fun A=>∃ e t,epochP s = some (e,t) ∧ A.env 0 = .str t ∧ A.env 6 = .str e ∧ A.env 7 = .str [] ∧ A.st = σ ∧ t.length ≤ s.length) (fun A ⟨e,t,hep,h0,h6,h7,hst,htl⟩=>?_) (fun hf=>?_) (fun hf=>?_)
 case refine_3 =>
  simp only [go_sem,simprocAttr,↓reduceIte]
  have hf' : ¬ (0 ≤ firstOf 58 s):=by simpa using hf
  refine ⟨[48],s,?_⟩
  simp [epochP,hf']
 case refine_2 =>
  obtain ⟨i,hi,hgi,hlt⟩:=(firstOf_cases 58 s).resolve_left (fun e=>by rw [e.1] at hf; simp at hf)
  rw [hi]
  have hw : IntKind.i64.wrap ((i : Int) + 1) = ((i + 1 : Nat) : Int):=wrap_succ hlt hsl
  have hep : epochP s = if 1 ≤ (s.take i).length ∧ (s.take i).length ≤ 9 ∧ (s.take i).all digitC = true then some (s.take i,s.drop (i + 1)) else none:=by
   rw [epochP,hi,if_pos (by omega)]; rfl
  have bad : ¬ (1 ≤ (s.take i).length ∧ (s.take i).length ≤ 9 ∧ (s.take i).all digitC = true) → verP s = none:=fun hb=>by
   rw [verP,if_neg hlen,hep,if_neg hb]
  simp only [go_sem,simprocAttr,↓reduceIte,hw]
  refine ⟨.of (by kernel_rfl),by omega,by omega,?_⟩
  simp only [Bool.or_eq_true,Bool.or_eq_false_iff,decide_eq_true_eq,decide_eq_false_iff_not]
  refine ⟨fun hb=>none_end (bad (by omega)),fun hb=>?_⟩
  have htk : (s.take i).length = i:=by rw [List.length_take]; omega
  refine VC.upto [] i (fun j A=>A.env 0 = .str (s.drop (i + 1)) ∧ A.env 6 = .str (s.take i) ∧ A.env 7 = .str [] ∧ A.env 43 = .int .i64 i ∧ A.env 44 = .int .i64 j ∧ A.st = σ ∧ ((s.take i).take j).all digitC = true) 0 (Nat.zero_le _) (.here ?_) fun j A hj ⟨h0,h6,h7,h43,h44,hst,hI⟩=>?_
  ·simp only [go_sem,simprocAttr,↓reduceIte]
   all_goals simp
   omega
  simp only [go_sem,simprocAttr,↓reduceIte,h0,h6,h7,h43,h44,hst]
  refine ⟨fun hlt'=>⟨by omega,?_⟩,fun hge=>⟨s.take i,s.drop (i + 1),?_⟩⟩
  ·obtain ⟨c,hc⟩:=get_some (show j < (s.take i).length by omega)
   simp only [hc,Option.getD_some]
   refine CallA.fn (r4_digit c) ?_
   simp only [go_sem,simprocAttr,↓reduceIte,h0,h6,h7,h43,h44,hst]
   refine ⟨fun hd=>none_end (bad fun hb=>?_),fun hd=>⟨hlt',.here ?_⟩⟩
   ·have:=List.all_eq_true.1 hb.2.2 c (List.mem_of_getElem? hc)
    rw [hd] at this; cases this
   ·simp only [go_sem,simprocAttr,↓reduceIte,h0,h6,h7,h43,h44,hst]
    exact ⟨int_succ hlt' (by omega),all_take hI hc hd⟩
  ·have : j = i:=by omega
   rw [this,List.take_take,Nat.min_self] at hI
   simp only [go_sem,simprocAttr,↓reduceIte,h0,h6,h7,hst]
   rw [hep,if_pos ⟨by omega,by omega,hI⟩]
   simp
 simp only [go_sem,simprocAttr,↓reduceIte,h0,h6,h7,hst]
 refine CallA.fn (r4_last t 45) ?_
 simp only [go_sem,simprocAttr,↓reduceIte,h0,h6,h7,hst]
 refine JoinVC.cut (fun A=>∃ u r,revP t = some (u,r) ∧ A.env 0 = .str u ∧ A.env 6 = .str e ∧ A.env 7 = .str r ∧ A.st = σ ∧ u.length ≤ s.length ∧ r.length ≤ s.length) (fun A ⟨u,r,hrv,h0,h6,h7,hst,hul,hrl⟩=>?_) (fun hf=>?_) (fun hf=>?_)
 case refine_3 =>
  simp only [go_sem,simprocAttr,↓reduceIte,h0,h6,h7,hst]
  have hf' : ¬ (0 ≤ lastOf 45 t):=by simpa using hf
  refine ⟨t,[],?_⟩
  simp [revP,hf',htl]
 case refine_2 =>
  obtain ⟨i,hi,hgi,hlt⟩:=(lastOf_cases 45 t).resolve_left (fun e=>by rw [e.1] at hf; simp at hf)
  rw [hi]
  have hw : IntKind.i64.wrap ((i : Int) + 1) = ((i + 1 : Nat) : Int):=wrap_succ hlt (by omega)
  have hrv : revP t = if t.drop (i + 1) = [] then none else some (t.take i,t.drop (i + 1)):=by
   rw [revP,hi,if_pos (by omega)]; rfl
  simp only [go_sem,simprocAttr,↓reduceIte,hw,h0,h6,h7,hst]
  refine ⟨.of (by kernel_rfl),by omega,by omega,fun hb=>none_end (by rw [verP,if_neg hlen,hep]; simp only [hrv,if_pos hb]),fun hb=>⟨t.take i,t.drop (i + 1),?_⟩⟩
  rw [hrv,if_neg hb]
  simp
  omega
 have hv : verP s = if r.all revCh && u.all upCh && startsD u then some (e,u,r) else none:=by
  rw [verP,if_neg hlen,hep]; simp only [hrv]
 simp only [go_sem,simprocAttr,↓reduceIte,h0,h6,h7,hst]
 refine LoopVC.cut (fun A=>A.env 0 = .str u ∧ A.env 6 = .str e ∧ A.env 7 = .str r ∧ A.st = σ ∧ r.all revCh = true) (fun A ⟨h0,h6,h7,hst,hr⟩=>?_) ?_
 case refine_2 =>
  refine VC.upto [] r.length (fun j A=>A.env 0 = .str u ∧ A.env 6 = .str e ∧ A.env 7 = .str r ∧ A.env 67 = .int .i64 r.length ∧ A.env 68 = .int .i64 j ∧ A.st = σ ∧ (r.take j).all revCh = true) 0 (Nat.zero_le _) (.here ?_) fun j A hj ⟨h0,h6,h7,h67,h68,hst,hI⟩=>?_
  ·simp only [go_sem,simprocAttr,↓reduceIte,h0,h6,h7,hst]
   all_goals simp
  simp only [go_sem,simprocAttr,↓reduceIte,h0,h6,h7,h67,h68,hst]
  refine ⟨fun hlt=>⟨hlt,?_⟩,fun hge=>by rwa [List.take_of_length_le hge] at hI⟩
  obtain ⟨c,hc⟩:=get_some hlt
  simp only [hc,Option.getD_some]
  refine CallA.fn (r4_letter c) ?_
  simp only [go_sem,simprocAttr,↓reduceIte,h0,h6,h7,h67,h68,hst]
  refine CallP.fnG (fun _=>r4_digit c) ?_
  simp only [go_sem,simprocAttr,↓reduceIte,h0,h6,h7,h67,h68,hst,revCh_not]
  refine ⟨fun hb=>none_end (by rw [hv,all_false hc hb]; rfl),fun hb=>⟨hlt,.here ?_⟩⟩
  simp only [go_sem,simprocAttr,↓reduceIte,h0,h6,h7,h67,h68,hst]
  exact ⟨int_succ hlt (by omega),all_take hI hc hb⟩
 simp only [go_sem,simprocAttr,↓reduceIte,h0,h6,h7,hst]
 refine LoopVC.cut (fun A=>A.env 0 = .str u ∧ A.env 6 = .str e ∧ A.env 7 = .str r ∧ A.st = σ ∧ u.all upCh = true) (fun A ⟨h0,h6,h7,hst,hu⟩=>?_) ?_
 case refine_2 =>
  refine VC.upto [] u.length (fun j A=>A.env 0 = .str u ∧ A.env 6 = .str e ∧ A.env 7 = .str r ∧ A.env 96 = .int .i64 u.length ∧ A.env 97 = .int .i64 j ∧ A.st = σ ∧ (u.take j).all upCh = true) 0 (Nat.zero_le _) (.here ?_) fun j A hj ⟨h0,h6,h7,h96,h97,hst,hI⟩=>?_
  ·simp only [go_sem,simprocAttr,↓reduceIte,h0,h6,h7,hst]
   all_goals simp
  simp only [go_sem,simprocAttr,↓reduceIte,h0,h6,h7,h96,h97,hst]
  refine ⟨fun hlt=>⟨hlt,?_⟩,fun hge=>by rwa [List.take_of_length_le hge] at hI⟩
  obtain ⟨c,hc⟩:=get_some hlt
  simp only [hc,Option.getD_some]
  refine CallA.fn (r4_letter c) ?_
  simp only [go_sem,simprocAttr,↓reduceIte,h0,h6,h7,h96,h97,hst]
  refine CallP.fnG (fun _=>r4_digit c) ?_
  simp only [go_sem,simprocAttr,↓reduceIte,h0,h6,h7,h96,h97,hst,upCh_not]
  refine ⟨fun hb=>none_end (by rw [hv,all_false hc hb]; simp),fun hb=>⟨hlt,.here ?_⟩⟩
  simp only [go_sem,simprocAttr,↓reduceIte,h0,h6,h7,h96,h97,hst]
  exact ⟨int_succ hlt (by omega),all_take hI hc hb⟩
 simp only [go_sem,simprocAttr,↓reduceIte,h0,h6,h7,hst]
 cases u with
 | nil =>
  simp only [go_sem,simprocAttr,↓reduceIte,h0,h6,h7,hst]
  refine CallP.fnG (fun _=>r4_digit 0) ?_
  simp only [go_sem,simprocAttr,↓reduceIte,h0,h6,h7,hst]
  exact none_end (by rw [hv]; simp [startsD])
 | cons c u' =>
  simp only [go_sem,simprocAttr,↓reduceIte,h0,h6,h7,hst]
  refine CallP.fnG (fun _=>r4_digit c) ?_
  simp only [go_sem,simprocAttr,↓reduceIte,h0,h6,h7,hst]
  refine ⟨fun hd=>none_end (by rw [hv]; simp [startsD,hd]),fun hd=>?_⟩
  rw [hv,hr,hu]
  simp only [startsD,hd,Bool.and_true,if_true]
  exact .refl _

theorem r4_is (s : List UInt8) : PureFn prog W0 56 [.str s] (.bool (isVer s)):=by
 refine fn_pure [2] [] func56 rfl rfl ntmps56 rfl rfl (.bool _) fun hs σ=>?_
 simp only [go_sem,simprocAttr,↓reduceIte]
 refine CallA.fn (r4_version s) ?_
 cases h : verP s with
 | none=>simp only [go_sem,simprocAttr,↓reduceIte,verAV]; exact weak_bool (by simp [isVer,h])
 | some v=>obtain ⟨e,u,r⟩:=v; simp only [go_sem,simprocAttr,↓reduceIte,verAV]; exact weak_bool (by simp [isVer,h])

theorem r4_compare (a b : List UInt8) : PureFn prog W0 95 [.str a,.str b] (.int .i64 (cmpVer a b)):=by
 refine fn_pure [4] [14] func95 rfl rfl ntmps95 rfl rfl (.int _ _) fun hs σ=>?_
 simp only [go_sem,simprocAttr,↓reduceIte]
 refine CallA.fn (r4_version a) ?_
 cases h : verP a with
 | none =>
  simp only [go_sem,simprocAttr,↓reduceIte,verAV]
  refine CallA.fn (r4_version b) ?_
  cases h' : verP b with
  | none=>simp only [go_sem,simprocAttr,↓reduceIte,verAV]; exact weak_int (by simp [cmpVer,h])
  | some v=>obtain ⟨f,v,t⟩:=v; simp only [go_sem,simprocAttr,↓reduceIte,verAV]; exact weak_int (by simp [cmpVer,h])
 | some v =>
  obtain ⟨e,u,r⟩:=v
  simp only [go_sem,simprocAttr,↓reduceIte,verAV]
  refine CallA.fn (r4_version b) ?_
  cases h' : verP b with
  | none=>simp only [go_sem,simprocAttr,↓reduceIte,verAV]; exact weak_int (by simp [cmpVer,h,h'])
  | some v =>
   obtain ⟨f,v,t⟩:=v
   simp only [go_sem,simprocAttr,↓reduceIte,verAV]
   refine VC.upto _ 3 (fun i A=>A.env 45 = .agg 187 [.agg 186 [.str e,.str f],.agg 186 [.str u,.str v],.agg 186 [.str r,.str t]] ∧ A.env 46 = .int .i64 i ∧ Ext σ A.st ∧ (1 ≤ i → partV e f = 0) ∧ (2 ≤ i → partV u v = 0) ∧ (3 ≤ i → partV r t = 0)) 0 (Nat.zero_le _) (.here ?_) fun i A hi ⟨h45,h46,hst,hI⟩=>?_
   ·simp only [go_sem,simprocAttr,↓reduceIte]
    simp [Ext.refl]
   obtain ⟨hI1,hI2,hI3⟩:=hI
   have hc : cmpVer a b = if partV e f ≠ 0 then partV e f else if partV u v ≠ 0 then partV u v else partV r t:=by simp only [cmpVer,h,h']
   rcases (show i = 0 ∨ i = 1 ∨ i = 2 ∨ i = 3 by omega) with rfl | rfl | rfl | rfl
   ·simp only [go_sem,simprocAttr,↓reduceIte,h45,h46]
    refine CallA.fn (r4_part e f) ?_
    simp only [go_sem,simprocAttr,↓reduceIte,h45,h46]
    refine ⟨fun hp=>⟨weak_int (by rw [hc,if_pos hp]),hst.app _⟩,fun hp=>.here ?_⟩
    simp only [go_sem,simprocAttr,↓reduceIte,h45,h46]
    exact ⟨hst.app _,by simp [hp]⟩
   ·simp only [go_sem,simprocAttr,↓reduceIte,h45,h46]
    refine CallA.fn (r4_part u v) ?_
    simp only [go_sem,simprocAttr,↓reduceIte,h45,h46]
    refine ⟨fun hp=>⟨weak_int (by rw [hc,if_neg (by simp [hI1 (by omega)]),if_pos hp]),hst.app _⟩,fun hp=>.here ?_⟩
    simp only [go_sem,simprocAttr,↓reduceIte,h45,h46]
    exact ⟨hst.app _,by simp [hp,hI1 (by omega)]⟩
   ·simp only [go_sem,simprocAttr,↓reduceIte,h45,h46]
    refine CallA.fn (r4_part r t) ?_
    simp only [go_sem,simprocAttr,↓reduceIte,h45,h46]
    refine ⟨fun hp=>⟨weak_int (by rw [hc,if_neg (by simp [hI1 (by omega)]),if_neg (by simp [hI2 (by omega)])]),hst.app _⟩,fun hp=>.here ?_⟩
    simp only [go_sem,simprocAttr,↓reduceIte,h45,h46]
    exact ⟨hst.app _,by simp [hp,hI1 (by omega),hI2 (by omega)]⟩
   ·simp only [go_sem,simprocAttr,↓reduceIte,h45,h46]
    exact ⟨weak_int (by rw [hc,if_neg (by simp [hI1 (by omega)]),if_neg (by simp [hI2 (by omega)]),hI3 (by omega)]),hst⟩

theorem r4_sameVersion (a b : List UInt8) : PureFn prog W0 47 [.str a,.str b] (.bool (sameVer a b)):=by
 refine fn_pure [4] [] func47 rfl rfl ntmps47 rfl rfl (.bool _) fun hs σ=>?_
 simp only [go_sem,simprocAttr,↓reduceIte]
 refine CallA.fn (r4_is a) ?_
 simp only [go_sem,simprocAttr,↓reduceIte]
 refine CallP.fnG (fun _=>r4_is b) ?_
 simp only [go_sem,simprocAttr,↓reduceIte]
 refine CallP.fnG (fun _=>r4_compare a b) ?_
 simp only [go_sem,simprocAttr,↓reduceIte]
 exact weak_bool rfl

def signV (rel : Int) : List UInt8:=if rel = 1 then [60,60] else if rel = 2 then [60,61] else if rel = 3 then [61] else if rel = 4 then [62,61] else if rel = 5 then [62,62] else []

theorem r4_signV (rel : Int) : PureFn prog W0 171 [.int .i64 rel] (.str (signV rel)):=by
 refine fn_pure [2] [] func171 rfl rfl ntmps171 rfl rfl (.str _) fun hs σ=>?_
 simp only [go_sem,simprocAttr,↓reduceIte]
 refine ⟨fun h1=>weak_str (by rw [signV,if_pos h1]),fun h1=>⟨fun h2=>weak_str (by rw [signV,if_neg h1,if_pos h2]),fun h2=>⟨fun h3=>weak_str (by rw [signV,if_neg h1,if_neg h2,if_pos h3]),fun h3=>⟨fun h4=>weak_str (by rw [signV,if_neg h1,if_neg h2,if_neg h3,if_pos h4]),fun h4=>⟨fun h5=>weak_str (by rw [signV,if_neg h1,if_neg h2,if_neg h3,if_neg h4,if_pos h5]),fun h5=>weak_str (by rw [signV,if_neg h1,if_neg h2,if_neg h3,if_neg h4,if_neg h5])⟩⟩⟩⟩⟩
end Go.Proofs.Tryz
end
