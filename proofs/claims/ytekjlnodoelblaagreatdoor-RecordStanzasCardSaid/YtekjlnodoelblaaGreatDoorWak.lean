/- Texts that the last one of this claim rests on: a layer over the guide's own conditions for code; contracts of the functions that the law reaches, one by one. No conditions beside those of the given rows. -/
import Derived.Test.YtekjlnodoelblaaGreatDoorWai
import Derived.Test.YtekjlnodoelblaaGreatDoorWaj
set_option linter.unusedSimpArgs false
set_option linter.unusedVariables false
section
namespace Go.Proofs.Tryz
open Go Go.Av
set_option maxRecDepth 10000
variable {W0 : World}

theorem r4_white (c : UInt8) : PureFn prog W0 100 [.int .u8 c.toNat] (.bool (wsB c)):=by
 refine fn_pure [2] [] func100 rfl rfl ntmps100 rfl rfl (.bool _) fun hs σ=>?_
 simp only [go_sem,simprocAttr,↓reduceIte]
 refine weak_bool ?_
 rw [wsB_iff]
 congr 1 <;> (rw [Bool.eq_iff_iff]; simp; try omega)
theorem r4_low (c : UInt8) : PureFn prog W0 151 [.int .u8 c.toNat] (.int .u8 (lowB c).toNat):=by
 refine fn_pure [2] [] func151 rfl rfl ntmps151 rfl rfl (.int _ _) fun hs σ=>?_
 simp only [go_sem,simprocAttr,↓reduceIte]
 have hc:=c.toNat_lt
 refine ⟨fun h=>weak_int ?_,fun h=>weak_int ?_⟩
 ·simp only [Bool.and_eq_true,decide_eq_true_eq] at h
  unfold lowB
  rw [if_pos (by omega),IntKind.wrap_u8,UInt8.toNat_add]
  simp
  try omega
 ·unfold lowB
  rw [if_neg]
  intro hn
  simp only [Bool.and_eq_false_iff,decide_eq_false_iff_not] at h
  omega
theorem r4_tail (s : List UInt8) : PureFn prog W0 101 [.str s] (.str (trimE s)):=by
 refine fn_pure [2] [] func101 rfl rfl ntmps101 rfl rfl (.str _) fun hs σ=>?_
 have hsl : s.length ≤ maxLen:=small_str (hs _ (by simp))
 simp only [go_sem,simprocAttr,↓reduceIte]
 refine VC.falls [] (fun k A=>∃ t,A.env 0 = .str t ∧ A.st = σ ∧ k = t.length ∧ t.length ≤ s.length ∧ trimE t = trimE s) s.length (.here ⟨s,?_⟩) fun k A ⟨t,h0,hst,hk,hle,hI⟩=>?_
 ·simp only [go_sem,simprocAttr,↓reduceIte]
  try simp
 rcases List.eq_nil_or_concat t with rfl | ⟨u,c,rfl⟩
 ·simp only [go_sem,simprocAttr,↓reduceIte,h0,hst]
  refine CallP.fnG (r:=.bool false) (fun h=>(Bool.false_ne_true h).elim) ?_
  simp only [go_sem,simprocAttr,↓reduceIte,h0,hst]
  exact weak_str hI
 rw [List.concat_eq_append] at *
 have hg : (u ++ [c])[u.length]? = some c:=by simp
 have hlen : (u ++ [c]).length = u.length + 1:=by simp
 have hd : decide ((0 : Int) < ((u.length + 1 : Nat) : Int)) = true:=decide_eq_true (by omega)
 have hwr : IntKind.i64.wrap (((u.length + 1 : Nat) : Int) - 1) = (u.length : Nat):=by rw [wrap_in (by rw [maxLen_eq] at hsl; omega)]; omega
 simp only [go_sem,simprocAttr,↓reduceIte,h0,hst,hd,hwr,hg]
 refine ⟨by omega,CallP.fnG (fun _=>r4_white c) ?_⟩
 simp only [go_sem,simprocAttr,↓reduceIte,h0,hst,hd,hwr,hg]
 refine ⟨fun hw=>⟨⟨by omega,by omega⟩,.here u.length (by omega) ⟨u,?_⟩⟩,fun hw=>weak_str ?_⟩
 ·simp only [go_sem,simprocAttr,↓reduceIte,h0,hst]
  rw [List.take_left]
  refine ⟨rfl,by omega,?_⟩
  rw [← hI,trimE_snoc,if_pos hw]
 ·rw [← hI,trimE_snoc,if_neg (by simp [hw])]
theorem r4_trim (s : List UInt8) : PureFn prog W0 99 [.str s] (.str (trimT s)):=by
 refine fn_pure [2] [] func99 rfl rfl ntmps99 rfl rfl (.str _) fun hs σ=>?_
 have hsl : s.length ≤ maxLen:=small_str (hs _ (by simp))
 simp only [go_sem,simprocAttr,↓reduceIte]
 refine LoopVC.cut (fun A=>A.env 0 = .str (skipW s) ∧ A.st = σ) (fun A ⟨h0,hst⟩=>?_) ?_
 ·simp only [go_sem,simprocAttr,↓reduceIte,h0,hst]
  refine CallA.fn (r4_tail _) ?_
  simp only [go_sem,simprocAttr,↓reduceIte,h0,hst]
  try exact .refl _
 refine VC.falls [] (fun k A=>∃ t,A.env 0 = .str t ∧ A.st = σ ∧ k = t.length ∧ skipW t = skipW s) s.length (.here ⟨s,?_⟩) fun k A ⟨t,h0,hst,hk,hI⟩=>?_
 ·simp only [go_sem,simprocAttr,↓reduceIte]
  try simp
 cases t with
 | nil =>
  simp only [go_sem,simprocAttr,↓reduceIte,h0,hst]
  refine CallP.fnG (r:=.bool false) (fun h=>(Bool.false_ne_true h).elim) ?_
  simp only [go_sem,simprocAttr,↓reduceIte,h0,hst]
  rw [← hI]
  rfl
 | cons c r =>
  have hd : decide ((0 : Int) < ((r.length + 1 : Nat) : Int)) = true:=decide_eq_true (by omega)
  simp only [go_sem,simprocAttr,↓reduceIte,h0,hst,hd]
  refine CallP.fnG (fun _=>r4_white c) ?_
  simp only [go_sem,simprocAttr,↓reduceIte,h0,hst,hd]
  rw [skipW_cons] at hI
  refine ⟨fun hw=>.here r.length (by rw [hk]; exact Nat.lt_succ_self _) ⟨r,?_⟩,fun hw=>?_⟩
  ·simp only [go_sem,simprocAttr,↓reduceIte,h0,hst]
   rw [if_pos hw] at hI
   exact hI
  ·rw [if_neg (by simp [hw])] at hI
   rw [hI]
theorem r4_Same (a b : List UInt8) : PureFn prog W0 90 [.str a,.str b] (.bool (sameT a b)):=by
 refine fn_pure [4] [] func90 rfl rfl ntmps90 rfl rfl (.bool _) fun hs σ=>?_
 have hsl : a.length ≤ maxLen:=small_str (hs _ (by simp))
 simp only [go_sem,simprocAttr,↓reduceIte]
 refine ⟨fun hne=>weak_bool ?_,fun heq=>?_⟩
 ·unfold sameT
  rw [decide_eq_false]
  intro e
  have:=congrArg List.length e
  rw [List.length_map,List.length_map] at this
  omega
 have hl : a.length = b.length:=by omega
 refine LoopVC.upto [0,1,12] (.of (by kernel_rfl)) a.length (fun i A=>A.env 13 = .int .i64 i ∧ A.st = σ ∧ (a.take i).map lowB = (b.take i).map lowB) 0 (Nat.zero_le _) ?_ fun i B hi ⟨h13,hst,hI⟩=>?_
 ·simp only [go_sem,simprocAttr,↓reduceIte]
  simp
 simp only [go_sem,simprocAttr,↓reduceIte,h13,hst]
 refine ⟨fun hc=>?_,fun hc=>weak_bool ?_⟩
 ·obtain ⟨x,hx⟩:=get_some hc
  obtain ⟨y,hy⟩:=get_some (show i < b.length by omega)
  simp only [go_sem,simprocAttr,↓reduceIte,h13,hst,hx,hy]
  refine ⟨.of (by kernel_rfl),hc,CallP.fn (r4_low x) ?_⟩
  simp only [go_sem,simprocAttr,↓reduceIte,h13,hst,hx,hy]
  refine ⟨by omega,CallP.fn (r4_low y) ?_⟩
  simp only [go_sem,simprocAttr,↓reduceIte,h13,hst,hx,hy]
  refine ⟨fun hne=>weak_bool ?_,fun he=>⟨hc,int_succ hc hsl,?_⟩⟩
  ·unfold sameT
   rw [decide_eq_false]
   intro e
   have:=congrArg (·[i]?) e
   simp only [List.getElem?_map,hx,hy,Option.map_some,Option.some.injEq] at this
   rw [this] at hne
   simp at hne
  ·rw [take_succ_get hx,take_succ_get hy,List.map_append,List.map_append,hI]
   have : lowB x = lowB y:=by simpa using he
   simp [this]
 ·rw [List.take_of_length_le hc,List.take_of_length_le (by omega)] at hI
  exact (decide_eq_true hI).symm
end Go.Proofs.Tryz
end
