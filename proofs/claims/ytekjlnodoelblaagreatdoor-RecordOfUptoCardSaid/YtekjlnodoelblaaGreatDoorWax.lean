/- Texts that the last one of this claim rests on: a layer over the guide's own conditions for code; contracts of the functions that the law reaches, one by one. No conditions beside those of the given rows. -/
import Derived.Test.YtekjlnodoelblaaGreatDoorWah
import Derived.Test.YtekjlnodoelblaaGreatDoorWai
import Derived.Test.YtekjlnodoelblaaGreatDoorWal
import Derived.Test.YtekjlnodoelblaaGreatDoorWam
import Derived.Test.YtekjlnodoelblaaGreatDoorWao
import Derived.Test.YtekjlnodoelblaaGreatDoorWap
import Derived.Test.YtekjlnodoelblaaGreatDoorWav
import Derived.Test.YtekjlnodoelblaaGreatDoorWaw
set_option linter.unusedSimpArgs false
set_option linter.unusedVariables false
section
namespace Go.Proofs.Tryz
open Go Go.Av
set_option maxRecDepth 10000
variable {W0 : World}

theorem rl_class (x : Nat) : PureFn prog W0 235 [.int .i32 x] (.int .i64 (clsR x)):=by
 refine fn_pure [2] [] func235 rfl rfl ntmps235 rfl rfl (.int _ _) fun hs σ=>?_
 have e32 : ((x : Int) = 32) = (x = 32):=propext (by omega)
 have hx : ∀ k : Nat,((x : Int) == (k : Int)) = decide (x = k):=fun k=>by rw [Bool.eq_iff_iff]; simp; omega
 have x1:=hx 32; have x2:=hx 9; have x3:=hx 40; have x4:=hx 41; have x5:=hx 44; have x6:=hx 124; have x7:=hx 60; have x8:=hx 62; have x9:=hx 61
 simp only [go_sem,simprocAttr,↓reduceIte]
 refine JoinVC.at [3] (by kernel_rfl) (fun A=>A.env 4 = .bool (decide (x = 32 ∨ x = 9)) ∧ A.st = σ) (fun h=>?_) (fun h=>?_) fun B ⟨h4,hst⟩=>?_
 ·simp only [go_sem,simprocAttr,↓reduceIte]
  simp at h
  rw [show x = 32 by omega]; rfl
 ·simp only [go_sem,simprocAttr,↓reduceIte]
  simp at h
  congr 1
  rw [Bool.eq_iff_iff]
  simp
  omega
 simp only [go_sem,simprocAttr,↓reduceIte,h4,hst]
 refine ⟨fun h=>weak_int ?_,fun h=>?_⟩
 ·unfold clsR; rw [if_pos h]; rfl
 refine JoinVC.at [3] (by kernel_rfl) (fun A=>A.env 7 = .bool (decide (x = 40 ∨ x = 41 ∨ x = 44 ∨ x = 124)) ∧ A.st = σ) (fun h2=>?_) (fun h2=>?_) fun B2 ⟨h7,hst2⟩=>?_
 ·simp only [go_sem,simprocAttr,↓reduceIte,hst]
  simp at h2
  rw [show x = 40 by omega]; rfl
 ·simp only [go_sem,simprocAttr,↓reduceIte,hst]
  simp at h2
  refine ⟨fun e=>?_,fun e1=>⟨fun e=>?_,fun e2=>?_⟩⟩
  all_goals
   congr 1
   rw [Bool.eq_iff_iff]
   simp
   omega
 simp only [go_sem,simprocAttr,↓reduceIte,h7,hst2]
 refine ⟨fun h3=>weak_int ?_,fun h3=>?_⟩
 ·unfold clsR; rw [if_neg h,if_pos h3]; rfl
 refine JoinVC.at [] (by kernel_rfl) (fun A=>A.env 12 = .bool (decide (x = 60 ∨ x = 62 ∨ x = 61)) ∧ A.st = σ) (fun h2=>?_) (fun h2=>?_) fun B3 ⟨h12,hst3⟩=>?_
 ·simp only [go_sem,simprocAttr,↓reduceIte,hst2]
  simp at h2
  rw [show x = 60 by omega]; rfl
 ·simp only [go_sem,simprocAttr,↓reduceIte,hst2]
  simp at h2
  refine ⟨fun e=>?_,fun e1=>?_⟩
  all_goals
   congr 1
   rw [Bool.eq_iff_iff]
   simp
   omega
 simp only [go_sem,simprocAttr,↓reduceIte,h12,hst3]
 refine ⟨fun h4=>weak_int ?_,fun h4=>weak_int ?_⟩
 ·unfold clsR; rw [if_neg h,if_neg h3,if_pos h4]; rfl
 ·unfold clsR; rw [if_neg h,if_neg h3,if_neg h4]; rfl
structure WS (st : Store) (n0 was from' : Nat) (v : AV) (l : List (List UInt8)) : Prop where
 out : st[n0]? = some (some (.cells 26 [v]))
 frm : st[n0 + 1]? = some (some (.cells 3 [.int .i64 from']))
 was : st[n0 + 2]? = some (some (.cells 3 [.int .i64 was]))
 bld : Bld st v 9 (l.map .str)
theorem rl_words1 {σ : Store} {n0 was from' : Nat} {v : AV} {l : List (List UInt8)} (h : WS σ n0 was from' v l) (hb : ∀ t ∈ foot v,n0 ≤ t) (s : List UInt8) (i : Nat) (hi : i ≤ s.length) (hf : from' ≤ i) (hsl : s.length ≤ 140737488355328) (hl : l.length ≤ 1048575) :
  ACall prog W0 234 [.int .i64 i,.ptr 3 (n0 + 2) 0 [],.ptr 3 (n0 + 1) 0 [],.ptr 26 n0 0 [],.loc 9 (.str s)] σ fun r σ'=>r = .tup [] ∧ ∃ v',WS σ' n0 was i v' (l ++ emitT was (cutL s from' i)) ∧ (∀ t ∈ foot v',n0 ≤ t) ∧ LowE n0 σ σ' ∧ ∀ j,j ≠ n0 → j ≠ n0 + 1 → j ∉ foot v → j < σ.length → σ'[j]? = σ[j]?:=by
 refine fn_callM [] [2000019,4000001] func234 rfl rfl ntmps234 rfl rfl fun hs=>?_
 simp only [go_sem,simprocAttr,↓reduceIte,look_id h.out,look_id h.frm,look_id h.was]
 have hcond : (((was : Int) != 1) && decide (from' < i)) = decide (was ≠ 1 ∧ cutL s from' i ≠ []):=by
  have hlen : (cutL s from' i).length = i - from':=by simp [cutL]; omega
  rw [Bool.eq_iff_iff]
  simp only [Bool.and_eq_true,bne_iff_ne,decide_eq_true_eq,ne_eq]
  have : cutL s from' i = [] ↔ i ≤ from':=by
   rw [← List.length_eq_zero_iff,hlen]; omega
  rw [this]
  omega
 rw [hcond]
 refine JoinVC.at [0,2] (by kernel_rfl) (fun A=>∃ v',WS A.st n0 was from' v' (l ++ emitT was (cutL s from' i)) ∧ (∀ t ∈ foot v',n0 ≤ t) ∧ LowE n0 σ A.st ∧ ∀ j,j ≠ n0 → j ≠ n0 + 1 → j ∉ foot v → j < σ.length → A.st[j]? = σ[j]?) (fun hc=>?_) (fun hc=>?_) fun B ⟨v',hw,hb',hlow,hold⟩=>?_
 ·have hc':=of_decide_eq_true hc
  have hbn:=h.bld.notM
  simp only [go_sem,simprocAttr,↓reduceIte,look_id h.out,look_id h.frm,look_id h.was,okM_notM hbn,unm_notM hbn]
  refine ⟨.of (by kernel_rfl),⟨hf,hi⟩,AppA.ownS (σ:=σ) (by simp only [go_sem,simprocAttr,↓reduceIte]) 1048576 (by kernel_rfl) h.bld (.lit _ _ _) (by simp; omega) fun v1 σ1 ha=>?_⟩
  have hn : ∀ (k : Nat) (te : TypeId) (zs : List AV),σ[k]? = some (some (.cells te zs)) → tokOf v ≠ some k:=fun k te zs hk e=>by
   rcases h.bld with ⟨rfl,_⟩ | rfl | ⟨t,rfl,ht⟩
   ·cases e
   ·cases e
   ·simp only [tokOf,Option.some.injEq] at e
    subst e
    rw [hk] at ht
    cases ht
  have kp : ∀ (k : Nat) (te : TypeId) (zs : List AV),σ[k]? = some (some (.cells te zs)) → σ1[k]? = some (some (.cells te zs)):=fun k te zs hk=>by
   rw [ha.old _ (List.getElem?_eq_some_iff.1 hk).1 (hn _ _ _ hk),hk]
  have ho:=kp _ _ _ h.out
  have hol:=(List.getElem?_eq_some_iff.1 ho).1
  have hb1:=ha.bld.notM
  have he : emitT was (cutL s from' i) = [cutL s from' i]:=if_pos hc'
  have htf : ∀ t,tokOf v = some t → t ∈ foot v:=fun t e=>by
   revert e
   cases v <;> simp [tokOf,foot]
   intro e; exact e.symm
  simp only [go_sem,simprocAttr,↓reduceIte,look_id ho,setLook_id ho,okM_notM hb1,unm_notM hb1]
  refine ⟨by rw [ha.bld.fits]; kernel_rfl,v1,⟨?_,?_,?_,?_⟩,?_,?_,?_⟩
  ·rw [List.getElem?_set_self hol]
  ·rw [List.getElem?_set_ne (by omega)]; exact kp _ _ _ h.frm
  ·rw [List.getElem?_set_ne (by omega)]; exact kp _ _ _ h.was
  ·rw [he,List.map_append]
   refine ha.bld.keep fun j hj=>List.getElem?_set_ne fun e=>?_
   exact ha.bld.ne ho (by simp) (e ▸ hj)
  ·intro t ht
   have ht':=ha.bld.tok ht
   rcases ha.tok with e | ⟨t2,e,hle⟩
   ·rw [e] at ht'
    exact hb t (htf t ht')
   ·rw [e] at ht'
    cases ht'
    have:=(List.getElem?_eq_some_iff.1 h.out).1
    omega
  ·refine LowE.set ⟨ha.len,fun j hj=>ha.old j (by have:=(List.getElem?_eq_some_iff.1 h.out).1; omega) fun e=>?_⟩ (Nat.le_refl _) _
   have:=hb j (htf j e)
   omega
  ·intro j h1 h2 h3 h4
   rw [List.getElem?_set_ne (fun e=>h1 e.symm)]
   exact ha.old j h4 fun e=>h3 (htf j e)
 ·have hc':=of_decide_eq_false hc
  simp only [go_sem,simprocAttr,↓reduceIte]
  have he : emitT was (cutL s from' i) = []:=if_neg hc'
  rw [he,List.append_nil]
  exact ⟨v,h,hb,LowE.refl _ _⟩
 simp only [go_sem,simprocAttr,↓reduceIte,look_id hw.frm,setLook_id hw.frm]
 have hfl:=(List.getElem?_eq_some_iff.1 hw.frm).1
 refine EndM.normal ⟨trivial,.tup [],.refl _,?_,rfl,v',⟨?_,?_,?_,?_⟩,hb',?_,?_⟩
 ·have:=hlow.len
  show σ.length ≤ (B.st.set _ _).length
  simpa using this
 ·exact (List.getElem?_set_ne (by omega)).trans hw.out
 ·exact List.getElem?_set_self hfl
 ·exact (List.getElem?_set_ne (by omega)).trans hw.was
 ·refine hw.bld.keep fun j hj=>List.getElem?_set_ne fun e=>?_
  exact hw.bld.ne hw.frm (by simp) (e ▸ hj)
 ·exact hlow.set (by omega) _
 ·intro j h1 h2 h3 h4
  exact (List.getElem?_set_ne (fun e=>h2 e.symm)).trans (hold j h1 h2 h3 h4)
theorem ids_strs (l : List (List UInt8)) : IdsLt 0 (strsAV l):=strs_ids 0 l
theorem rl_words (s : List UInt8) (hsl : s.length ≤ 1048574) : PureFn prog W0 208 [.str s] (strsAV (toks s)):=by
 refine fn_pureM [.tmp 2] [1] func208 rfl rfl ntmps208 rfl rfl (ids_strs _) fun hs σ=>?_
 simp only [go_sem,simprocAttr,↓reduceIte]
 refine LoopVC.at [1,3,6] (.of (by kernel_rfl)) (fun A=>∃ was fr v l,Ext σ A.st ∧ WS A.st σ.length was fr v l ∧ (∀ t ∈ foot v,σ.length ≤ t) ∧ fr ≤ s.length ∧ l.length ≤ fr ∧ toks s = l ++ emitT was (cutL s fr s.length)) ?_ fun B ⟨was,fr,v,l,hext,hw,hb,hfr,hlf,hT⟩=>?_
 ·refine LoopVC.falls [1,3,5,6,12] (.of (by kernel_rfl)) (fun k A=>∃ pos was fr v l,k = s.length - pos ∧ pos ≤ s.length ∧ fr ≤ pos ∧ Ext σ A.st ∧ WS A.st σ.length was fr v l ∧ A.st[σ.length + 3]? = some (some (.iter s pos)) ∧ (∀ t ∈ foot v,σ.length ≤ t) ∧ l.length ≤ fr ∧ toks s = l ++ toksA was (cutL s fr pos) (s.drop pos)) s.length ?_ fun k B ⟨pos,was,fr,v,l,hk,hp,hfp,hext,hw,hit,hb,hlf,hT⟩=>?_
  ·simp only [go_sem,simprocAttr,↓reduceIte]
   refine ⟨0,1,0,.nils,[],by omega,by omega,by omega,(Ext.refl _).app _,⟨by simp,by simp,by simp,.inl ⟨rfl,rfl⟩⟩,by simp,fun t ht=>by simp [foot] at ht,by simp,rfl⟩
  simp only [go_sem,simprocAttr,↓reduceIte,hit]
  refine ⟨fun hlt=>CallA.fn (rl_class _) ?_,fun hge=>?_⟩
  ·obtain ⟨s1,s2,s3⟩:=toksA_sign hlt was fr hfp
   generalize (decAt s pos).2 = m at *
   generalize hcc : clsR (decAt s pos).1 = k' at *
   have hil : σ.length + 3 < B.st.length:=(List.getElem?_eq_some_iff.1 hit).1
   have hw2 : WS (B.st.set (σ.length + 3) (some (.iter s (pos + m)))) σ.length was fr v l:=⟨(List.getElem?_set_ne (by omega)).trans hw.out,(List.getElem?_set_ne (by omega)).trans hw.frm,(List.getElem?_set_ne (by omega)).trans hw.was,hw.bld.keep fun j hj=>List.getElem?_set_ne fun e=>by
    exact hw.bld.ne hit (by simp) (e ▸ hj)⟩
   have hext2 : Ext σ (B.st.set (σ.length + 3) (some (.iter s (pos + m)))):=hext.set (by omega) _
   have hit2 : (B.st.set (σ.length + 3) (some (SObj.iter s (pos + m))))[σ.length + 3]? = some (some (.iter s (pos + m))):=List.getElem?_set_self hil
   generalize B.st.set (σ.length + 3) (some (SObj.iter s (pos + m))) = S at *
   have hcond : (((k' : Int) != (was : Int)) || ((k' : Int) == 2)) = decide (k' ≠ was ∨ k' = 2):=by
    rw [Bool.eq_iff_iff]
    simp
    omega
   simp only [go_sem,simprocAttr,↓reduceIte,look_id hw2.was,hcond]
   refine ⟨fun hc=>?_,fun hc=>?_⟩
   ·refine CallA.go (σ:=S) (by simp only [go_sem,simprocAttr,↓reduceIte]) (rl_words1 hw2 hb s pos hp hfp (by omega) (by omega)) fun r σ' ⟨q0,v',q1,q2,q3,q4⟩=>?_
    subst q0
    have hlow3 : Ext σ σ':=Ext.lowE hext2 q3 (Nat.le_refl _)
    have hS3:=(List.getElem?_eq_some_iff.1 hit2).1
    have hit3 : σ'[σ.length + 3]? = some (some (.iter s (pos + m))):=by
     rw [q4 _ (by omega) (by omega) (fun hj=>hw2.bld.ne hit2 (by simp) hj) hS3]
     exact hit2
    simp only [go_sem,simprocAttr,↓reduceIte,look_id q1.was,setLook_id q1.was]
    refine .here (s.length - (pos + m)) (by omega) ⟨pos + m,k',pos,v',l ++ emitT was (cutL s fr pos),rfl,s1,by omega,hlow3.set (by omega) _,⟨?_,?_,?_,?_⟩,?_,q2,?_,?_⟩
    ·exact (List.getElem?_set_ne (by omega)).trans q1.out
    ·exact (List.getElem?_set_ne (by omega)).trans q1.frm
    ·exact List.getElem?_set_self (List.getElem?_eq_some_iff.1 q1.was).1
    ·refine q1.bld.keep fun j hj=>List.getElem?_set_ne fun e=>?_
     exact q1.bld.ne q1.was (by simp) (e ▸ hj)
    ·exact (List.getElem?_set_ne (by omega)).trans hit3
    ·rw [List.length_append]
     unfold emitT
     split
     ·rename_i h1
      have : 0 < (cutL s fr pos).length:=List.length_pos_iff.2 h1.2
      have h2 : (cutL s fr pos).length = pos - fr:=by simp [cutL]; omega
      simp
      omega
     ·simp
      omega
    ·rw [hT,s3,if_pos (by simpa using hc),List.append_assoc]
   ·refine .here (s.length - (pos + m)) (by omega) ⟨pos + m,was,fr,v,l,rfl,s1,by omega,hext2,hw2,hit2,hb,hlf,?_⟩
    rw [hT,s3,if_neg (by simpa using hc)]
  ·obtain rfl : pos = s.length:=by omega
   refine ⟨was,fr,v,l,hext,hw,hb,hfp,hlf,?_⟩
   rw [hT,List.drop_length,toksA]
   congr 2
   exact (cutL_drop s fr).symm ▸ rfl
 simp only [go_sem,simprocAttr,↓reduceIte]
 refine CallA.go (σ:=B.st) (by simp only [go_sem,simprocAttr,↓reduceIte]) (rl_words1 hw hb s s.length (Nat.le_refl _) hfr (by omega) (by omega)) fun r σ' ⟨q0,v',q1,q2,q3,q4⟩=>?_
 subst q0
 simp only [go_sem,simprocAttr,↓reduceIte,look_id q1.out]
 refine EndM.ret ?_
 simp only [go_sem,simprocAttr,↓reduceIte]
 rw [← hT] at q1
 exact ⟨q1.bld.weak,Ext.lowE hext q3 (Nat.le_refl _)⟩
end Go.Proofs.Tryz
end
section
namespace Go.Proofs.Tryz
open Go Go.Av
set_option maxRecDepth 10000
variable {W0 : World}

theorem ve_sign (r : Int) : PureFn prog W0 206 [.int .i64 r] (.str (signT r)):=by
 refine fn_pure [2] [] func206 rfl rfl ntmps206 rfl rfl (.str _) fun hs σ=>?_
 simp only [go_sem,simprocAttr,↓reduceIte]
 refine ⟨fun h=>?_,fun h=>⟨fun h2=>?_,fun h2=>⟨fun h3=>?_,fun h3=>⟨fun h4=>?_,fun h4=>⟨fun h5=>?_,fun h5=>?_⟩⟩⟩⟩⟩
 all_goals exact weak_str (by simp [signT, *])
theorem r4_Sign (r : Int) : PureFn prog W0 171 [.int .i64 r] (.str (signT r)):=by
 refine fn_pure [2] [] func171 rfl rfl ntmps171 rfl rfl (.str _) fun hs σ=>?_
 simp only [go_sem,simprocAttr,↓reduceIte]
 refine ⟨fun h=>?_,fun h=>⟨fun h2=>?_,fun h2=>⟨fun h3=>?_,fun h3=>⟨fun h4=>?_,fun h4=>⟨fun h5=>?_,fun h5=>?_⟩⟩⟩⟩⟩
 all_goals exact weak_str (by simp [signT, *])
end Go.Proofs.Tryz
end
