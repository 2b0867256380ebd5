/- Texts that the last one of this claim rests on: a layer over the guide's own conditions for code; contracts of the functions that the law reaches, one by one. No conditions beside those of the given rows. -/
import Derived.Test.YtekjlnodoelblaaGreatDoorWah
import Derived.Test.YtekjlnodoelblaaGreatDoorWai
import Derived.Test.YtekjlnodoelblaaGreatDoorWan
import Derived.Test.YtekjlnodoelblaaGreatDoorWat
import Derived.Test.YtekjlnodoelblaaGreatDoorWav
import Derived.Test.YtekjlnodoelblaaGreatDoorWaw
set_option linter.unusedSimpArgs false
set_option linter.unusedVariables false
section
namespace Go.Av
def LstR (st : Store) (v : AV) (e : TypeId) (xs : List AV) : Prop:=v = .sl e xs ∨ ∃ id,v = .row e id 0 xs.length ∧ st[id]? = some (some (.cells e xs))
section
variable {σ st : Store} {v : AV} {e : TypeId} {xs : List AV}
theorem LstR.notM (h : LstR st v e xs) : NotM v:=by
 rcases h with rfl | ⟨_,rfl,_⟩ <;> trivial
theorem LstR.ok (h : LstR st v e xs) (g : Option Bool) : okM g v = True:=okM_notM h.notM
theorem LstR.un (h : LstR st v e xs) : unm v = v:=unm_notM h.notM
theorem LstR.len (h : LstR st v e xs) : lenV v = .int .i64 xs.length:=by
 rcases h with rfl | ⟨_,rfl,_⟩ <;> rfl
theorem LstR.ext (h : LstR σ v e xs) (hx : Ext σ st) : LstR st v e xs:=by
 rcases h with h | ⟨id,h1,h2⟩
 ·exact .inl h
 ·exact .inr ⟨id,h1,by rw [(Fr.ext (F:=[]) hx).old id (List.getElem?_eq_some_iff.1 h2).1 (by simp)]; exact h2⟩
theorem LstR.lenC (h : LstR st v e xs) (P : Program) (t : TypeId) : lenC P t v = ((elT P t).isSome = true):=by
 rcases h with rfl | ⟨_,rfl,_⟩ <;> rfl
end
end Go.Av
namespace Go.Proofs.Tryz
open Go Go.Av
set_option maxRecDepth 10000
variable {W0 : World}

end Go.Proofs.Tryz
end
section
namespace Go.Av
structure OneE (rid : Nat) (σ σ' : Store) : Prop where
 len : σ.length ≤ σ'.length
 old : ∀ j,j < σ.length → j ≠ rid → σ'[j]? = σ[j]?
theorem OneE.refl (b : Nat) (σ : Store) : OneE b σ σ:=⟨Nat.le_refl _,fun _ _ _=>rfl⟩
theorem OneE.trans {b : Nat} {σ σ' σ'' : Store} (h : OneE b σ σ') (k : OneE b σ' σ'') : OneE b σ σ'':=⟨Nat.le_trans h.len k.len,fun j hj hn=>(k.old j (Nat.lt_of_lt_of_le hj h.len) hn).trans (h.old j hj hn)⟩
theorem OneE.set {b : Nat} {σ σ' : Store} (h : OneE b σ σ') (o : Option SObj) : OneE b σ (σ'.set b o):=⟨by simpa using h.len,fun j hj hn=>by rw [List.getElem?_set_ne (fun e=>hn e.symm)]; exact h.old j hj hn⟩
theorem OneE.app {b : Nat} {σ σ' : Store} (h : OneE b σ σ') (l : Store) : OneE b σ (σ' ++ l):=⟨by have:=h.len; simp; omega,fun j hj hn=>by rw [List.getElem?_append_left (by have:=h.len; omega)]; exact h.old j hj hn⟩
theorem OneE.ext {b : Nat} {σ τ σ' : Store} (h : OneE b τ σ') (k : Ext σ τ) (hb : σ.length ≤ b) : Ext σ σ':=by
 refine List.ext_getElem? fun j=>?_
 rw [List.getElem?_take]
 split
 ·rename_i hj
  rw [h.old j (by have:=k.le; omega) (by omega),k.eq,List.getElem?_append_left hj]
 ·rw [List.getElem?_eq_none (by omega)]
theorem pickV_t (u v : AV) : pickV true u v = u:=by
 unfold pickV pickAV
 cases u <;> cases v <;> rfl
theorem atV_zero (x : AV) (xs : List AV) : atV (x :: xs) 0 = x:=rfl
def isWd (l : List (List UInt8)) (s : List UInt8) : Bool × List (List UInt8):=match l with
 | []=>(false,[])
 | x :: t=>if x = s then (true,t) else (false,x :: t)
theorem isWd_nil (s : List UInt8) : isWd [] s = (false,[]):=rfl
theorem isWd_yes (s : List UInt8) (t : List (List UInt8)) : isWd (s :: t) s = (true,t):=if_pos rfl
theorem isWd_no {x s : List UInt8} (h : ¬ x = s) (t : List (List UInt8)) : isWd (x :: t) s = (false,x :: t):=if_neg h
end Go.Av
namespace Go.Proofs.Tryz
open Go Go.Av
set_option maxRecDepth 10000
variable {W0 : World}

def rrO (l : List (List UInt8)) : Option SObj:=some (.cells 231 [.agg 231 [strsAV l]])
theorem ve_rel (s : List UInt8) : PureFn prog W0 258 [.str s] (.int .i64 (relT s)):=by
 refine fn_pure [2] [] func258 rfl rfl ntmps258 rfl rfl (.int _ _) fun hs σ=>?_
 simp only [go_sem,simprocAttr,↓reduceIte]
 refine LoopVC.upto [0] (.of (by kernel_rfl)) 5 (fun i A=>A.env 3 = .int .i64 ((i + 1 : Nat) : Int) ∧ A.st = σ ∧ ∀ k : Nat,1 ≤ k → k ≤ i → signT k ≠ s) 0 (Nat.zero_le _) ?_ fun i B hi ⟨h3,hst,hI⟩=>?_
 ·simp only [go_sem,simprocAttr,↓reduceIte]
  intro k h1 h2
  omega
 simp only [go_sem,simprocAttr,↓reduceIte,h3,hst]
 have hup : ∀ k : Nat,1 ≤ k → k ≤ 5 → signT k = s → relT s = k:=fun k h1 h5 e=>by
  have : k = 1 ∨ k = 2 ∨ k = 3 ∨ k = 4 ∨ k = 5:=by omega
  rcases this with rfl | rfl | rfl | rfl | rfl <;> subst e <;> decide
 refine ⟨fun hc=>CallA.fn (ve_sign _) ?_,fun hc=>weak_int ?_⟩
 ·have hw : IntKind.i64.wrap (((i + 1 : Nat) : Int) + 1) = ((i + 1 + 1 : Nat) : Int):=wrap_in (by omega)
  simp only [go_sem,simprocAttr,↓reduceIte,h3,hst,hw]
  refine ⟨fun he=>weak_int (hup (i + 1) (by omega) (by omega) he).symm,fun he=>⟨by omega,fun k h1 h2=>?_⟩⟩
  rcases Nat.lt_succ_iff_lt_or_eq.1 (Nat.lt_succ_of_le h2) with h | h
  ·exact hI k h1 (by omega)
  ·rw [h]; exact he
 ·have hz : relT s = 0:=by
   unfold relT
   have h1:=hI 1 (by omega) (by omega)
   have h2:=hI 2 (by omega) (by omega)
   have h3:=hI 3 (by omega) (by omega)
   have h4:=hI 4 (by omega) (by omega)
   have h5:=hI 5 (by omega) (by omega)
   rw [if_neg (fun e=>h1 (by rw [e]; rfl)),if_neg (fun e=>h2 (by rw [e]; rfl)),if_neg (fun e=>h3 (by rw [e]; rfl)),if_neg (fun e=>h4 (by rw [e]; rfl)),if_neg (fun e=>h5 (by rw [e]; rfl))]
  rw [hz]
theorem rl_is {σ : Store} {rid : Nat} {l : List (List UInt8)} (h : σ[rid]? = some (rrO l)) (s : List UInt8) (hl : l.length ≤ 1048576) :
  ACall prog W0 210 [.ptr 231 rid 0 [],.str s] σ fun r σ'=>r = .bool (isWd l s).1 ∧ OneE rid σ σ' ∧ σ'[rid]? = some (rrO (isWd l s).2):=by
 refine fn_callM [.tmp 4] [] func210 rfl rfl ntmps210 rfl rfl fun hs=>?_
 have h' : σ[rid]? = some (some (.cells 231 [.agg 231 [.sl 9 (l.map .str)]])):=h
 have hrl:=(List.getElem?_eq_some_iff.1 h').1
 cases l with
 | nil =>
  simp only [go_sem,simprocAttr,↓reduceIte,look_id h',pickV_t]
  exact EndM.ret ⟨⟨trivial,trivial⟩,_,.refl _,Nat.le_refl _,rfl,.refl _ _,h⟩
 | cons x t =>
  have hc1 : cutL (AV.str x :: t.map .str) 1 ((t.map AV.str).length + 1) = t.map .str:=cutL_cons1 _ _
  simp only [go_sem,simprocAttr,↓reduceIte,look_id h',setLook_id h',atV_zero,pickV_f,hc1]
  refine ⟨fun hne=>EndM.ret ⟨⟨trivial,trivial⟩,_,.refl _,Nat.le_refl _,?_,.refl _ _,?_⟩,fun he=>EndM.ret ⟨⟨trivial,trivial⟩,_,.refl _,by show σ.length ≤ (σ.set _ _).length; simp,?_,(OneE.refl _ _).set _,?_⟩⟩
  ·show AV.bool false = AV.bool (isWd (x :: t) s).1
   rw [isWd_no hne]
  ·show σ[rid]? = _
   rw [isWd_no hne]; exact h
  ·show AV.bool true = AV.bool (isWd (x :: t) s).1
   rw [he,isWd_yes]
  ·refine (List.getElem?_set_self hrl).trans ?_
   rw [he,isWd_yes]; rfl
theorem rl_word {σ : Store} {rid : Nat} {l : List (List UInt8)} (h : σ[rid]? = some (rrO l)) (hl : l.length ≤ 1048576) :
  ACall prog W0 257 [.ptr 231 rid 0 []] σ fun r σ'=>r = .str (wordW l).1 ∧ OneE rid σ σ' ∧ σ'[rid]? = some (rrO (wordW l).2):=by
 refine fn_callM [.tmp 2] [] func257 rfl rfl ntmps257 rfl rfl fun hs=>?_
 have h' : σ[rid]? = some (some (.cells 231 [.agg 231 [.sl 9 (l.map .str)]])):=h
 have hrl:=(List.getElem?_eq_some_iff.1 h').1
 cases l with
 | nil =>
  simp only [go_sem,simprocAttr,↓reduceIte,look_id h']
  exact EndM.ret ⟨⟨trivial,trivial⟩,_,.refl _,Nat.le_refl _,rfl,.refl _ _,h⟩
 | cons x t =>
  have hc1 : cutL (AV.str x :: t.map .str) 1 ((t.map AV.str).length + 1) = t.map .str:=cutL_cons1 _ _
  simp only [go_sem,simprocAttr,↓reduceIte,look_id h',setLook_id h',atV_zero,hc1]
  exact EndM.ret ⟨⟨trivial,trivial⟩,_,.refl _,by show σ.length ≤ (σ.set _ _).length; simp,rfl,(OneE.refl _ _).set _,List.getElem?_set_self hrl⟩
theorem wordW_len (l : List (List UInt8)) : (wordW l).2.length ≤ l.length:=by cases l <;> simp [wordW]
theorem isWd_len (l : List (List UInt8)) (s : List UInt8) : (isWd l s).2.length ≤ l.length:=by
 unfold isWd
 split
 ·simp
 ·split <;> simp
def atomP (l : List (List UInt8)) : Atom × Bool × List (List UInt8) :=
 let n:=(wordW l).1
 let l1:=(wordW l).2
 if (isWd l1 [40]).1 = true then
  let l2:=(isWd l1 [40]).2
  let r:=relT (wordW l2).1
  let l3:=(wordW l2).2
  let v:=(wordW l3).1
  let l4:=(wordW l3).2
  if r = 0 then (⟨[],0,[]⟩,false,l4)
  else if (isWd l4 [41]).1 = true then (⟨n,r,v⟩,mayAtom ⟨n,r,v⟩,(isWd l4 [41]).2) else (⟨[],0,[]⟩,false,(isWd l4 [41]).2)
 else (⟨n,0,[]⟩,mayAtom ⟨n,0,[]⟩,(isWd l1 [40]).2)
theorem atomP_len (l : List (List UInt8)) : (atomP l).2.2.length ≤ l.length:=by
 have h1:=wordW_len l
 have h2:=isWd_len (wordW l).2 [40]
 have h3:=wordW_len (isWd (wordW l).2 [40]).2
 have h4:=wordW_len (wordW (isWd (wordW l).2 [40]).2).2
 have h5:=isWd_len (wordW (wordW (isWd (wordW l).2 [40]).2).2).2 [41]
 unfold atomP
 simp only
 repeat' split
 all_goals (simp only; omega)
theorem atomP_W (l : List (List UInt8)) : atomW l = if (atomP l).2.1 = true then some ((atomP l).1,(atomP l).2.2) else none:=by
 unfold atomW atomP
 simp only
 generalize wordW l = w
 obtain ⟨n,l1⟩:=w
 simp only
 cases l1 with
 | nil =>
  simp only [isWd_nil,Bool.false_eq_true,if_false]
 | cons x l2 =>
  by_cases hx : x = [40]
  ·subst hx
   simp only [isWd_yes,if_true]
   generalize wordW l2 = w2
   obtain ⟨sg,l3⟩:=w2
   simp only
   generalize wordW l3 = w3
   obtain ⟨v,l4⟩:=w3
   simp only
   by_cases hr : relT sg = 0
   ·simp only [hr,if_true,Bool.false_eq_true,if_false]
   ·simp only [hr,if_false]
    cases l4 with
    | nil=>simp only [isWd_nil,Bool.false_eq_true,if_false]
    | cons y l5 =>
     by_cases hy : y = [41]
     ·subst hy
      simp only [isWd_yes,if_true]
     ·simp only [isWd_no hy,hy,if_false,Bool.false_eq_true]
  ·simp only [isWd_no hx,hx,if_false,Bool.false_eq_true]
theorem rl_atomR {σ : Store} {rid : Nat} {l : List (List UInt8)} (h : σ[rid]? = some (rrO l)) (hl : l.length ≤ 1048576) :
  ACall prog W0 236 [.ptr 231 rid 0 []] σ fun r σ'=>r = .tup [atomAV (atomP l).1,.bool (atomP l).2.1] ∧ OneE rid σ σ' ∧ σ'[rid]? = some (rrO (atomP l).2.2):=by
 refine fn_callM [.cell 2 100,.tmp 3] [2000022] func236 rfl rfl ntmps236 rfl rfl fun hs=>?_
 have hrl:=(List.getElem?_eq_some_iff.1 h).1
 have h0 : (σ ++ [some (SObj.cells 100 [.agg 100 [.str [],.int .i64 0,.str []]])])[rid]? = some (rrO l):=by rw [List.getElem?_append_left hrl]; exact h
 have hp0 : (σ ++ [some (SObj.cells 100 [.agg 100 [.str [],.int .i64 0,.str []]])])[σ.length]? = some (some (.cells 100 [.agg 100 [.str [],.int .i64 0,.str []]])):=by simp
 have hx0 : OneE rid σ (σ ++ [some (SObj.cells 100 [.agg 100 [.str [],.int .i64 0,.str []]])]):=(OneE.refl _ _).app _
 have hl0 : (σ ++ [some (SObj.cells 100 [.agg 100 [.str [],.int .i64 0,.str []]])]).length = σ.length + 1:=by simp
 generalize hP : (wordW l).1 = n at *
 simp only [go_sem,simprocAttr,↓reduceIte]
 refine CallA.goes (σ:=σ ++ [some (SObj.cells 100 [.agg 100 [.str [],.int .i64 0,.str []]])]) (by simp only [go_sem,simprocAttr,↓reduceIte]) (rl_word h0 hl) fun r σ1 ⟨q0,q1,q2⟩=>?_
 subst q0
 rw [hP]
 generalize hL1 : (wordW l).2 = l1 at *
 have hl1 : l1.length ≤ 1048576:=by rw [← hL1]; have:=wordW_len l; omega
 have hp1:=(q1.old σ.length (by rw [hl0]; omega) (by omega)).trans hp0
 have hx1:=hx0.trans q1
 have hlen1 : σ.length < σ1.length:=(List.getElem?_eq_some_iff.1 hp1).1
 simp only [go_sem,simprocAttr,↓reduceIte]
 have h2 : (σ1 ++ [some (SObj.cells 100 [.agg 100 [.str n,.int .i64 0,.str []]])])[rid]? = some (rrO l1):=by rw [List.getElem?_append_left (by omega)]; exact q2
 have hpa2 : (σ1 ++ [some (SObj.cells 100 [.agg 100 [.str n,.int .i64 0,.str []]])])[σ1.length]? = some (some (.cells 100 [.agg 100 [.str n,.int .i64 0,.str []]])):=by simp
 have hp2 : (σ1 ++ [some (SObj.cells 100 [.agg 100 [.str n,.int .i64 0,.str []]])])[σ.length]? = some (some (.cells 100 [.agg 100 [.str [],.int .i64 0,.str []]])):=by rw [List.getElem?_append_left hlen1]; exact hp1
 have hx2 : OneE rid σ (σ1 ++ [some (SObj.cells 100 [.agg 100 [.str n,.int .i64 0,.str []]])]):=hx1.app _
 have hpl : rid ≠ σ1.length:=by omega
 have hl2 : σ1.length < (σ1 ++ [some (SObj.cells 100 [.agg 100 [.str n,.int .i64 0,.str []]])]).length:=by simp
 generalize hS2 : σ1 ++ [some (SObj.cells 100 [.agg 100 [.str n,.int .i64 0,.str []]])] = σ2 at *
 refine CallA.goes (σ:=σ2) (by simp only [go_sem,simprocAttr,↓reduceIte,hS2]) (rl_is h2 [40] hl1) fun r σ3 ⟨e0,e1,e2⟩=>?_
 subst e0
 have hpa3:=(e1.old _ hl2 (fun e=>hpl e.symm)).trans hpa2
 have hp3:=(e1.old _ (by omega) (by omega)).trans hp2
 have hx3:=hx2.trans e1
 have hatP : atomP l = if (isWd l1 [40]).1 = true then (if relT (wordW (isWd l1 [40]).2).1 = 0 then (⟨[],0,[]⟩,false,(wordW (wordW (isWd l1 [40]).2).2).2)
  else if (isWd (wordW (wordW (isWd l1 [40]).2).2).2 [41]).1 = true then (⟨n,relT (wordW (isWd l1 [40]).2).1,(wordW (wordW (isWd l1 [40]).2).2).1⟩,mayAtom ⟨n,relT (wordW (isWd l1 [40]).2).1,(wordW (wordW (isWd l1 [40]).2).2).1⟩,(isWd (wordW (wordW (isWd l1 [40]).2).2).2 [41]).2) else (⟨[],0,[]⟩,false,(isWd (wordW (wordW (isWd l1 [40]).2).2).2 [41]).2)) else (⟨n,0,[]⟩,mayAtom ⟨n,0,[]⟩,(isWd l1 [40]).2):=by
  unfold atomP
  simp only [hP,hL1]
 have hl3 : (isWd l1 [40]).2.length ≤ 1048576:=by have:=isWd_len l1 [40]; omega
 generalize isWd l1 [40] = b1 at *
 obtain ⟨b,l3⟩:=b1
 simp only at hatP e2 hl3 ⊢
 simp only [go_sem,simprocAttr,↓reduceIte]
 refine JoinVC.at [2,4] (by kernel_rfl) (fun A=>∃ a rest,A.st[σ1.length]? = some (some (.cells 100 [atomAV a])) ∧ A.st[σ.length]? = some (some (.cells 100 [.agg 100 [.str [],.int .i64 0,.str []]])) ∧ A.st[rid]? = some (rrO rest) ∧ OneE rid σ A.st ∧ atomP l = (a,mayAtom a,rest)) (fun hb=>?_) (fun hb=>?_) fun B ⟨a,rest,g1,g2,g3,g4,g5⟩=>?_
 ·rw [if_pos hb] at hatP
  simp only [go_sem,simprocAttr,↓reduceIte]
  refine CallA.goes (σ:=σ3) (by simp only [go_sem,simprocAttr,↓reduceIte]) (rl_word e2 hl3) fun r σ4 ⟨f0,f1,f2⟩=>?_
  subst f0
  have hpa4:=(f1.old _ (by have:=e1.len; omega) (fun e=>hpl e.symm)).trans hpa3
  have hp4:=(f1.old _ (by have:=e1.len; omega) (by omega)).trans hp3
  have hx4:=hx3.trans f1
  have hl4 : (wordW l3).2.length ≤ 1048576:=by have:=wordW_len l3; omega
  have hlp4:=(List.getElem?_eq_some_iff.1 hpa4).1
  generalize wordW l3 = w3 at *
  obtain ⟨sg,l4⟩:=w3
  simp only at hatP f2 hl4 ⊢
  simp only [go_sem,simprocAttr,↓reduceIte]
  refine CallA.fn (ve_rel sg) ?_
  generalize relT sg = rr at *
  simp only [go_sem,simprocAttr,↓reduceIte,look_id hpa4,setLook_id hpa4]
  have f5 : (σ4.set σ1.length (some (.cells 100 [.agg 100 [.str n,.int .i64 rr,.str []]])))[rid]? = some (rrO l4):=(List.getElem?_set_ne (fun e=>hpl e.symm)).trans f2
  have hpa5 : (σ4.set σ1.length (some (SObj.cells 100 [.agg 100 [.str n,.int .i64 rr,.str []]])))[σ1.length]? = some (some (.cells 100 [.agg 100 [.str n,.int .i64 rr,.str []]])):=List.getElem?_set_self hlp4
  have hp5 : (σ4.set σ1.length (some (SObj.cells 100 [.agg 100 [.str n,.int .i64 rr,.str []]])))[σ.length]? = some (some (.cells 100 [.agg 100 [.str [],.int .i64 0,.str []]])):=(List.getElem?_set_ne (by omega)).trans hp4
  have hx5 : OneE rid σ (σ4.set σ1.length (some (SObj.cells 100 [.agg 100 [.str n,.int .i64 rr,.str []]]))):=⟨by have:=hx4.len; simpa using this,fun j hj hn=>(List.getElem?_set_ne (by omega)).trans (hx4.old j hj hn)⟩
  generalize hS5 : σ4.set σ1.length (some (SObj.cells 100 [.agg 100 [.str n,.int .i64 rr,.str []]])) = σ5 at *
  refine CallA.goes (σ:=σ5) (by simp only [go_sem,simprocAttr,↓reduceIte,hS5]) (rl_word f5 hl4) fun r σ6 ⟨k0,k1,k2⟩=>?_
  subst k0
  have hpa6:=(k1.old _ (List.getElem?_eq_some_iff.1 hpa5).1 (fun e=>hpl e.symm)).trans hpa5
  have hp6:=(k1.old _ (List.getElem?_eq_some_iff.1 hp5).1 (by omega)).trans hp5
  have hx6:=hx5.trans k1
  have hl6 : (wordW l4).2.length ≤ 1048576:=by have:=wordW_len l4; omega
  have hlp6:=(List.getElem?_eq_some_iff.1 hpa6).1
  generalize wordW l4 = w4 at *
  obtain ⟨v,l5⟩:=w4
  simp only at hatP k2 hl6 ⊢
  have f7 : (σ6.set σ1.length (some (.cells 100 [.agg 100 [.str n,.int .i64 rr,.str v]])))[rid]? = some (rrO l5):=(List.getElem?_set_ne (fun e=>hpl e.symm)).trans k2
  have hpa7 : (σ6.set σ1.length (some (SObj.cells 100 [.agg 100 [.str n,.int .i64 rr,.str v]])))[σ1.length]? = some (some (.cells 100 [.agg 100 [.str n,.int .i64 rr,.str v]])):=List.getElem?_set_self hlp6
  have hp7 : (σ6.set σ1.length (some (SObj.cells 100 [.agg 100 [.str n,.int .i64 rr,.str v]])))[σ.length]? = some (some (.cells 100 [.agg 100 [.str [],.int .i64 0,.str []]])):=(List.getElem?_set_ne (by omega)).trans hp6
  have hx7 : OneE rid σ (σ6.set σ1.length (some (SObj.cells 100 [.agg 100 [.str n,.int .i64 rr,.str v]]))):=⟨by have:=hx6.len; simpa using this,fun j hj hn=>(List.getElem?_set_ne (by omega)).trans (hx6.old j hj hn)⟩
  simp only [go_sem,simprocAttr,↓reduceIte,look_id hpa6,setLook_id hpa6]
  generalize hS7 : σ6.set σ1.length (some (SObj.cells 100 [.agg 100 [.str n,.int .i64 rr,.str v]])) = σ7 at *
  simp only [go_sem,simprocAttr,↓reduceIte,look_id hpa7,hS7]
  have hlp7:=(List.getElem?_eq_some_iff.1 hp7).1
  refine ⟨fun hrr=>?_,fun hrr=>⟨.bool false,?_⟩⟩
  ·refine CallA.goes (σ:=σ7) (by simp only [go_sem,simprocAttr,↓reduceIte,hS7]) (rl_is f7 [41] hl6) fun r σ8 ⟨m0,m1,m2⟩=>?_
   subst m0
   rw [if_neg hrr] at hatP
   have hpa8:=(m1.old _ (List.getElem?_eq_some_iff.1 hpa7).1 (fun e=>hpl e.symm)).trans hpa7
   have hp8:=(m1.old _ hlp7 (by omega)).trans hp7
   have hx8:=hx7.trans m1
   have hrf : (rr == 0) = false:=by simpa using hrr
   have hlp8:=(List.getElem?_eq_some_iff.1 hp8).1
   generalize isWd l5 [41] = b2 at *
   obtain ⟨bb,l6⟩:=b2
   simp only at hatP m2 ⊢
   simp only [go_sem,simprocAttr,↓reduceIte,hrf,pickV_f,look_id hp8,setLook_id hp8]
   refine ⟨fun hf=>EndM.ret ?_,fun ht=>?_⟩
   ·rw [if_neg (by rw [hf]; decide)] at hatP
    simp only [go_sem,simprocAttr,↓reduceIte,look_set hlp8]
    rw [hatP]
    refine ⟨_,.refl _,by have:=hx8.len; simpa using this,rfl,⟨by have:=hx8.len; simpa using this,fun j hj hn=>(List.getElem?_set_ne (by omega)).trans (hx8.old j hj hn)⟩,(List.getElem?_set_ne (by omega)).trans m2⟩
   ·rw [if_pos ht] at hatP
    exact ⟨⟨n,rr,v⟩,l6,hpa8,hp8,m2,hx8,hatP⟩
  ·rw [if_pos hrr] at hatP
   have hrf : (rr == 0) = true:=by simpa using hrr
   simp only [go_sem,simprocAttr,↓reduceIte,hrf,pickV_t,look_id hp7,setLook_id hp7]
   refine EndM.ret ?_
   simp only [go_sem,simprocAttr,↓reduceIte,look_set hlp7]
   rw [hatP]
   refine ⟨_,.refl _,by have:=hx7.len; simpa using this,rfl,⟨by have:=hx7.len; simpa using this,fun j hj hn=>(List.getElem?_set_ne (by omega)).trans (hx7.old j hj hn)⟩,(List.getElem?_set_ne (by omega)).trans f7⟩
 ·rw [if_neg (by rw [hb]; decide)] at hatP
  simp only [go_sem,simprocAttr,↓reduceIte]
  exact ⟨⟨n,0,[]⟩,l3,hpa3,hp3,e2,hx3,hatP⟩
 have g1' : B.st[σ1.length]? = some (some (.cells 100 [.agg 100 [.str a.name,.int .i64 a.rel,.str a.ver]])):=g1
 have hlpB:=(List.getElem?_eq_some_iff.1 g2).1
 simp only [go_sem,simprocAttr,↓reduceIte,look_id g1',look_id g2,setLook_id g2]
 refine ⟨.of (by kernel_rfl),CallP.fn (rl_mayAtom a) ?_⟩
 simp only [go_sem,simprocAttr,↓reduceIte,look_id g2,setLook_id g2]
 refine EndM.ret ?_
 simp only [go_sem,simprocAttr,↓reduceIte,look_set hlpB]
 rw [g5]
 exact ⟨_,.refl _,by have:=g4.len; simpa using this,rfl,⟨by have:=g4.len; simpa using this,fun j hj hn=>(List.getElem?_set_ne (by omega)).trans (g4.old j hj hn)⟩,(List.getElem?_set_ne (by omega)).trans g3⟩
end Go.Proofs.Tryz
end
section
namespace Go.Proofs.Tryz
open Go Go.Av
set_option maxRecDepth 10000
variable {W0 : World}

theorem rl_clause {σ : Store} {rid : Nat} {l : List (List UInt8)} (h : σ[rid]? = some (rrO l)) (hl : l.length ≤ 1048576) (may : Atom → Bool) (g : FuncId) (hg : ∀ a,PureFn prog W0 g [atomAV a] (.bool (may a))) (one : Bool) :
  ACall prog W0 209 [.ptr 231 rid 0 [],.fn g [],.bool one] σ fun r σ'=>OneE rid σ σ' ∧ match clW may one 6 l [] with | .error e=>r = .tup [atomsAV [],.int .i64 e] | .ok (c,t)=>r = .tup [atomsAV c,.int .i64 0] ∧ σ'[rid]? = some (rrO t):=by
 refine fn_callM [.tmp 6,.tmp 7] [9,2000034] func209 rfl rfl ntmps209 rfl rfl fun hs=>?_
 have hrl:=(List.getElem?_eq_some_iff.1 h).1
 simp only [go_sem,simprocAttr,↓reduceIte]
 refine LoopVC.falls [0,1,2] (.of (by kernel_rfl)) (fun k A=>∃ v c l',A.env 8 = v ∧ Bld A.st v 100 (c.map atomAV) ∧ (∀ t ∈ foot v,σ.length ≤ t) ∧ OneE rid σ A.st ∧ A.st[rid]? = some (rrO l') ∧ l'.length ≤ 1048576 ∧ k + c.length = 6 ∧ clW may one k l' c = clW may one 6 l []) 6 ?_ fun k B ⟨v,c,l',h8,hb,hbt,hx,hr,hl',hk,hI⟩=>?_
 ·simp only [go_sem,simprocAttr,↓reduceIte]
  exact ⟨.nils,[],l,rfl,.inl ⟨rfl,rfl⟩,fun t ht=>by simp [foot] at ht,.refl _ _,h,hl,rfl,rfl⟩
 have hbn:=hb.notM
 simp only [go_sem,simprocAttr,↓reduceIte,h8,okM_notM hbn,unm_notM hbn,hb.len,hb.lenC,List.length_map]
 refine ⟨fun h6=>?_,fun h6=>CallA.goes (σ:=B.st) ?_ (rl_atomR hr hl') fun r σ1 ⟨e0,e1,e2⟩=>?_⟩
 ·obtain rfl : k = 0:=by omega
  rw [clW] at hI
  rw [← hI]
  refine EndM.ret ?_
  simp only [go_sem,simprocAttr,↓reduceIte]
  exact ⟨_,weak_tup2 (.nils _) (.refl _),by have:=hx.len; omega,hx,rfl⟩
 ·rfl
 subst e0
 obtain ⟨f,rfl⟩ : ∃ f,k = f + 1:=⟨k - 1,by omega⟩
 rw [clW,atomP_W] at hI
 have hlp:=atomP_len l'
 generalize atomP l' = ap at *
 obtain ⟨a,ok,l1⟩:=ap
 simp only at hI hlp e2 ⊢
 have hx1:=hx.trans e1
 have hb1 : Bld σ1 v 100 (c.map atomAV):=hb.keep fun j hj=>e1.old j (hb.lt j hj) fun e=>by
  exact hb.ne (show B.st[rid]? = some (some _) from hr) (by simp) (e ▸ hj)
 simp only [go_sem,simprocAttr,↓reduceIte,h8,okM_notM hbn,unm_notM hbn]
 refine CallP.fnG (fun _=>hg a) ?_
 simp only [go_sem,simprocAttr,↓reduceIte,h8,okM_notM hbn,unm_notM hbn]
 refine ⟨fun hbad=>?_,fun hgood=>?_⟩
 ·have hc3 : clW may one 6 l [] = .error 3:=by
   rw [← hI]
   cases ok with
   | false=>rfl
   | true =>
    simp only [if_true]
    rw [if_pos (by simpa using hbad)]
  rw [hc3]
  refine EndM.ret ?_
  simp only [go_sem,simprocAttr,↓reduceIte]
  exact ⟨_,weak_tup2 (.nils _) (.refl _),by have:=hx1.len; omega,hx1.app _,rfl⟩
 simp only [Bool.or_eq_false_iff,Bool.not_eq_false'] at hgood
 rw [hgood.1,if_pos rfl] at hI
 simp only at hI
 rw [if_neg (by rw [hgood.2]; decide)] at hI
 have hb2 : Bld (σ1 ++ [none]) v 100 (c.map atomAV):=hb1.keep fun j hj=>List.getElem?_append_left (hb1.lt j hj)
 refine AppA.ownS (σ:=σ1 ++ [none]) (by simp only [go_sem,simprocAttr,↓reduceIte]) 1048576 (by kernel_rfl) hb2 (.lit _ _ _) (by simp; omega) fun v2 σ2 ha=>?_
 rw [show c.map atomAV ++ [atomAV a] = (c ++ [a]).map atomAV by simp] at ha
 have hS0 : (σ1 ++ [none])[rid]? = some (rrO l1):=by rw [List.getElem?_append_left (by have:=e1.len; have:=hx.len; omega)]; exact e2
 have hr2 : σ2[rid]? = some (rrO l1):=by
  rw [ha.fr.old rid (List.getElem?_eq_some_iff.1 hS0).1 (hb2.ne (show (σ1 ++ [none])[rid]? = some (some _) from hS0) (by simp))]
  exact hS0
 have hx2 : OneE rid σ σ2:=by
  have hx1':=hx1.app [none]
  refine ⟨Nat.le_trans hx1'.len ha.len,fun j hj hn=>?_⟩
  rw [ha.fr.old j (by have:=hx1'.len; omega) (fun hm=>by have:=hbt j hm; omega)]
  exact hx1'.old j hj hn
 have hbt2 : ∀ t ∈ foot v2,σ.length ≤ t:=fun t ht=>by
  rcases ha.foot hb2 t ht with h | h
  ·exact hbt t h
  ·have:=hx1.len; simp at h; omega
 have hbn2:=ha.bld.notM
 simp only [go_sem,simprocAttr,↓reduceIte,okM_notM hbn2,unm_notM hbn2]
 refine ⟨fun ho=>?_,fun ho=>⟨.bool false,?_⟩⟩
 ·rw [if_neg (by rw [ho]; decide)] at hI
  refine CallA.goes (σ:=σ2) (by simp only [go_sem,simprocAttr,↓reduceIte]) (rl_is hr2 [124] (by omega)) fun r σ3 ⟨m0,m1,m2⟩=>?_
  subst m0
  have hx3:=hx2.trans m1
  have hb3 : Bld σ3 v2 100 ((c ++ [a]).map atomAV):=ha.bld.keep fun j hj=>m1.old j (ha.bld.lt j hj) fun e=>by
   exact ha.bld.ne (show σ2[rid]? = some (some _) from hr2) (by simp) (e ▸ hj)
  have hwl:=isWd_len l1 [124]
  simp only [go_sem,simprocAttr,↓reduceIte,ho,pickV_f,okM_notM hbn2,unm_notM hbn2]
  refine ⟨fun hno=>?_,fun hyes=>?_⟩
  ·have hok : clW may one 6 l [] = .ok (c ++ [a],(isWd l1 [124]).2):=by
    rw [← hI]
    cases l1 with
    | nil=>rfl
    | cons x u =>
     by_cases hx : x = [124]
     ·subst hx
      rw [isWd_yes] at hno
      cases hno
     ·rw [isWd_no hx]
      simp only
      rw [if_neg hx]
   rw [← ho,hok]
   refine EndM.ret ?_
   simp only [go_sem,simprocAttr,↓reduceIte]
   exact ⟨_,weak_tup2 ha.bld.weak (.refl _),by have:=hx3.len; omega,hx3,rfl,m2⟩
  ·cases l1 with
   | nil=>rw [isWd_nil] at hyes; cases hyes
   | cons x u =>
    by_cases hx : x = [124]
    ·subst hx
     rw [isWd_yes] at m2 hwl
     simp only [if_true] at hI
     refine .here f (Nat.lt_succ_self f) ⟨v2,c ++ [a],u,rfl,hb3,hbt2,hx3,m2,by simp at hlp; omega,by simp; omega,by rw [← ho]; exact hI⟩
    ·rw [isWd_no hx] at hyes
     cases hyes
 ·rw [if_pos ho] at hI
  simp only [go_sem,simprocAttr,↓reduceIte,ho,pickV_t,okM_notM hbn2,unm_notM hbn2]
  rw [← ho,← hI]
  refine EndM.ret ?_
  simp only [go_sem,simprocAttr,↓reduceIte]
  exact ⟨_,weak_tup2 ha.bld.weak (.refl _),by have:=hx2.len; omega,hx2,rfl,hr2⟩
def nlz (e : TypeId) (xs : List AV) : AV:=match xs with
 | []=>.nils
 | x :: r=>.sl e (x :: r)
theorem nlz_ne {e : TypeId} {xs : List AV} (h : xs ≠ []) : nlz e xs = .sl e xs:=by
 cases xs with
 | nil=>exact absurd rfl h
 | cons x r=>rfl
theorem ids_nlz {e : TypeId} {xs : List AV} (h : IdsLt 0 (.sl e xs)) : IdsLt 0 (nlz e xs):=by
 cases xs with
 | nil=>exact .nils
 | cons x r=>exact h
def clsN (l : List Clause) : AV:=nlz 85 (l.map atomsAV)
def atomsN (l : List Atom) : AV:=nlz 100 (l.map atomAV)
def provsN (l : List Prov) : AV:=nlz 102 (l.map provAV)
theorem ids_relN (p : List Clause × Int) : IdsLt 0 (.tup [clsN p.1,.int .i64 p.2]):=.tup2 (ids_nlz (ids_clauses _)) (.int _ _)
theorem clW_rest {may : Atom → Bool} {one : Bool} : ∀ {f : Nat} {l : List (List UInt8)} {out c : Clause} {t : List (List UInt8)},clW may one f l out = .ok (c,t) → t.length ≤ l.length
 | 0,l,out,c,t,h=>by cases h
 | f + 1,l,out,c,t,h=>by
  have hlp:=atomP_len l
  rw [clW,atomP_W] at h
  generalize atomP l = ap at *
  obtain ⟨a,ok,l1⟩:=ap
  simp only at h hlp
  cases ok with
  | false=>simp at h
  | true =>
   simp only [if_true] at h
   split at h
   ·cases h
   ·split at h
    ·cases h; exact hlp
    ·split at h
     ·cases h; simp
     ·rename_i x u
      split at h
      ·have:=clW_rest h
       simp at hlp
       omega
      ·cases h; exact hlp
theorem clW_err {may : Atom → Bool} {one : Bool} : ∀ {f : Nat} {l : List (List UInt8)} {out : Clause} {e : Int},clW may one f l out = .error e → e ≠ 0
 | 0,l,out,e,h=>by
  simp only [clW,Except.error.injEq] at h
  omega
 | f + 1,l,out,e,h=>by
  rw [clW] at h
  split at h
  ·simp only [Except.error.injEq] at h
   omega
  ·split at h
   ·simp only [Except.error.injEq] at h
    omega
   ·split at h
    ·cases h
    ·split at h
     ·cases h
     ·split at h
      ·exact clW_err h
      ·cases h
theorem rl_parse (s : List UInt8) (hsl : s.length ≤ 1048574) (may : Atom → Bool) (g : FuncId) (hg : ∀ a,PureFn prog W0 g [atomAV a] (.bool (may a))) (one : Bool) :
  PureFn prog W0 181 [.str s,.fn g [],.bool one] (.tup [clsN (relPW may one (toks s)).1,.int .i64 (relPW may one (toks s)).2]):=by
 refine fn_pureM [.tmp 6,.tmp 7] [] func181 rfl rfl ntmps181 rfl rfl (ids_relN _) fun hs σ=>?_
 simp only [go_sem,simprocAttr,↓reduceIte]
 refine CallA.fn (rl_words s hsl) ?_
 have htl : (toks s).length ≤ 1048576:=by have:=toks_len (s:=s) (was:=1) (cur:=[]); unfold toks; omega
 generalize toks s = l at *
 have h0 : (σ ++ [rrO l])[σ.length]? = some (rrO l):=by simp
 simp only [go_sem,simprocAttr,↓reduceIte,strsAV,List.length_map]
 refine ⟨fun h=>EndM.ret ?_,fun h=>?_⟩
 ·have hl0 : l = []:=List.eq_nil_of_length_eq_zero (by omega)
  subst hl0
  simp only [go_sem,simprocAttr,↓reduceIte]
  exact weak_tup2 (.refl _) (.refl _)
 have hP : relPW may one l = relLW may one 12 l []:=by
  unfold relPW
  rw [if_neg (fun e=>h (by rw [e]; rfl))]
 rw [hP]
 refine LoopVC.falls [1,2,8] (.of (by kernel_rfl)) (fun k A=>∃ v out l',A.env 9 = v ∧ Bld A.st v 85 (out.map atomsAV) ∧ (∀ t ∈ foot v,σ.length ≤ t) ∧ Ext σ A.st ∧ A.st[σ.length]? = some (rrO l') ∧ l'.length ≤ 1048576 ∧ k + out.length = 12 ∧ relLW may one k l' out = relLW may one 12 l []) 12 ?_ fun k B ⟨v,out,l',h9,hb,hbt,hx,hr,hl',hk,hI⟩=>?_
 ·simp only [go_sem,simprocAttr,↓reduceIte]
  exact ⟨.nils,[],l,rfl,.inl ⟨rfl,rfl⟩,fun t ht=>by simp [foot] at ht,(Ext.refl _).app _,rfl,htl,rfl,rfl⟩
 have hbn:=hb.notM
 simp only [go_sem,simprocAttr,↓reduceIte,h9,okM_notM hbn,unm_notM hbn,hb.len,hb.lenC,List.length_map]
 refine ⟨fun h6=>?_,fun h6=>CallA.goes (σ:=B.st) (by rfl) (rl_clause hr hl' may g hg one) fun r σ1 ⟨e1,e2⟩=>?_⟩
 ·obtain rfl : k = 0:=by omega
  rw [relLW] at hI
  rw [← hI]
  refine EndM.ret ?_
  simp only [go_sem,simprocAttr,↓reduceIte]
  exact ⟨weak_tup2 (.refl _) (.refl _),hx⟩
 obtain ⟨f,rfl⟩ : ∃ f,k = f + 1:=⟨k - 1,by omega⟩
 rw [relLW] at hI
 have hx1 : Ext σ σ1:=e1.ext hx (Nat.le_refl _)
 cases hcl : clW may one 6 l' [] with
 | error e =>
  rw [hcl] at e2 hI
  simp only at e2 hI
  subst e2
  rw [← hI]
  simp only [go_sem,simprocAttr,↓reduceIte,h9,okM_notM hbn,unm_notM hbn]
  refine ⟨fun _=>EndM.ret ?_,fun h=>absurd h (clW_err hcl)⟩
  simp only [go_sem,simprocAttr,↓reduceIte]
  exact ⟨weak_tup2 (.refl _) (.refl _),hx1⟩
 | ok ct =>
  obtain ⟨c,t⟩:=ct
  have hrest:=clW_rest hcl
  rw [hcl] at e2 hI
  simp only at e2 hI
  obtain ⟨rfl,e3⟩:=e2
  have hb1 : Bld σ1 v 85 (out.map atomsAV):=hb.keep fun j hj=>e1.old j (hb.lt j hj) fun e=>by
   exact hb.ne (show B.st[σ.length]? = some (some _) from hr) (by simp) (e ▸ hj)
  simp only [go_sem,simprocAttr,↓reduceIte,h9,okM_notM hbn,unm_notM hbn]
  refine AppA.ownS (σ:=σ1) (by simp only [go_sem,simprocAttr,↓reduceIte]) 1048576 (by kernel_rfl) hb1 (.lit _ _ _) (by simp; omega) fun v2 σ2 ha=>?_
  rw [show out.map atomsAV ++ [atomsAV c] = (out ++ [c]).map atomsAV by simp] at ha
  have hr2 : σ2[σ.length]? = some (rrO t):=by
   rw [ha.fr.old _ (List.getElem?_eq_some_iff.1 e3).1 (hb1.ne (show σ1[σ.length]? = some (some _) from e3) (by simp))]
   exact e3
  have hx2 : Ext σ σ2:=by
   refine List.ext_getElem? fun j=>?_
   rw [List.getElem?_take]
   split
   ·rename_i hj
    rw [ha.fr.old j (by have:=hx1.le; omega) (fun hm=>by have:=hbt j hm; omega),hx1.eq,List.getElem?_append_left hj]
   ·rw [List.getElem?_eq_none (by omega)]
  have hbt2 : ∀ t ∈ foot v2,σ.length ≤ t:=fun t ht=>by
   rcases ha.foot hb1 t ht with h | h
   ·exact hbt t h
   ·have:=hx1.le; omega
  have hbn2:=ha.bld.notM
  have hr2' : σ2[σ.length]? = some (some (.cells 231 [.agg 231 [.sl 9 (t.map .str)]])):=hr2
  simp only [go_sem,simprocAttr,↓reduceIte,okM_notM hbn2,unm_notM hbn2,look_id hr2',List.length_map]
  refine ⟨fun ht0=>EndM.ret ?_,fun ht0=>CallA.goes (σ:=σ2) (by simp only [go_sem,simprocAttr,↓reduceIte]) (rl_is hr2 [44] (by omega)) fun r σ3 ⟨m0,m1,m2⟩=>?_⟩
  ·have ht : t = []:=List.eq_nil_of_length_eq_zero (by omega)
   rw [← hI,ht]
   simp only [go_sem,simprocAttr,↓reduceIte]
   exact ⟨weak_tup2 (by unfold clsN; rw [nlz_ne (by simp)]; exact ha.bld.weak) (.refl _),hx2⟩
  subst m0
  have hx3 : Ext σ σ3:=m1.ext hx2 (Nat.le_refl _)
  have hb3 : Bld σ3 v2 85 ((out ++ [c]).map atomsAV):=ha.bld.keep fun j hj=>m1.old j (ha.bld.lt j hj) fun e=>by
   exact ha.bld.ne (show σ2[σ.length]? = some (some _) from hr2) (by simp) (e ▸ hj)
  simp only [go_sem,simprocAttr,↓reduceIte,okM_notM hbn2,unm_notM hbn2]
  refine ⟨fun hno=>EndM.ret ?_,fun hyes=>?_⟩
  ·have hbad : relLW may one 12 l [] = ([],3):=by
    rw [← hI]
    cases t with
    | nil=>exact absurd rfl ht0
    | cons x u =>
     by_cases hx : x = [44]
     ·subst hx
      rw [isWd_yes] at hno
      cases hno
     ·simp only
      rw [if_neg hx]
   rw [hbad]
   simp only [go_sem,simprocAttr,↓reduceIte]
   exact ⟨weak_tup2 (.refl _) (.refl _),hx3⟩
  ·cases t with
   | nil=>rw [isWd_nil] at hyes; cases hyes
   | cons x u =>
    by_cases hx : x = [44]
    ·subst hx
     rw [isWd_yes] at m2
     simp only [if_true] at hI
     refine .here f (Nat.lt_succ_self f) ⟨v2,out ++ [c],u,rfl,hb3,hbt2,hx3,m2,by simp at hrest; omega,by simp; omega,hI⟩
    ·rw [isWd_no hx] at hyes
     cases hyes
end Go.Proofs.Tryz
end
section
namespace Go.Av
theorem clR_ne {may : Atom → Bool} {one : Bool} : ∀ {f : Nat} {s : List UInt8} {out c : Clause} {t : List UInt8},clR may one f s out = .ok (c,t) → c ≠ []
 | 0,s,out,c,t,h=>by cases h
 | f + 1,s,out,c,t,h=>by
  rw [clR] at h
  split at h
  ·cases h
  ·split at h
   ·cases h
   ·split at h
    ·cases h; simp
    ·split at h
     ·cases h; simp
     ·split at h
      ·exact clR_ne h
      ·cases h; simp
theorem relL_ne {may : Atom → Bool} {one : Bool} : ∀ {f : Nat} {s : List UInt8} {out : List Clause},(∀ c ∈ out,c ≠ []) → ∀ c ∈ (relL may one f s out).1,c ≠ []
 | 0,s,out,_,c,hc=>by simp [relL] at hc
 | f + 1,s,out,h,c,hc=>by
  rw [relL] at hc
  cases hcl : clR may one 6 s [] with
  | error e=>rw [hcl] at hc; simp at hc
  | ok ct =>
   obtain ⟨c',t⟩:=ct
   rw [hcl] at hc
   have h' : ∀ d ∈ out ++ [c'],d ≠ []:=fun d hd=>by
    rcases List.mem_append.1 hd with hd | hd
    ·exact h d hd
    ·rw [List.mem_singleton.1 hd]; exact clR_ne hcl
   cases t with
   | nil=>exact h' c hc
   | cons d u =>
    simp only at hc
    split at hc
    ·exact relL_ne h' c hc
    ·simp at hc
theorem relP_ne {may : Atom → Bool} {one : Bool} {s : List UInt8} : ∀ c ∈ (relP may one s).1,c ≠ []:=fun c hc=>by
 unfold relP at hc
 split at hc
 ·simp at hc
 ·exact relL_ne (by simp) c hc
theorem relL_len {may : Atom → Bool} {one : Bool} : ∀ {f : Nat} {s : List UInt8} {out : List Clause},(relL may one f s out).1.length ≤ f + out.length
 | 0,s,out=>by simp [relL]
 | f + 1,s,out=>by
  rw [relL]
  cases hcl : clR may one 6 s [] with
  | error e=>simp
  | ok ct =>
   obtain ⟨c',t⟩:=ct
   cases t with
   | nil=>simp; omega
   | cons d u =>
    simp only
    split
    ·have:=relL_len (may:=may) (one:=one) (f:=f) (s:=u) (out:=out ++ [c'])
     simp at this
     omega
    ·simp
theorem relP_len {may : Atom → Bool} {one : Bool} {s : List UInt8} : (relP may one s).1.length ≤ 12:=by
 unfold relP
 split
 ·simp
 ·exact relL_len
theorem clR_len {may : Atom → Bool} {one : Bool} : ∀ {f : Nat} {s : List UInt8} {out c : Clause} {t : List UInt8},clR may one f s out = .ok (c,t) → c.length ≤ f + out.length
 | 0,s,out,c,t,h=>by cases h
 | f + 1,s,out,c,t,h=>by
  rw [clR] at h
  split at h
  ·cases h
  ·split at h
   ·cases h
   ·split at h
    ·cases h; simp; omega
    ·split at h
     ·cases h; simp; omega
     ·split at h
      ·have:=clR_len h
       simp at this
       omega
      ·cases h; simp; omega
theorem relL_small {may : Atom → Bool} {one : Bool} : ∀ {f : Nat} {s : List UInt8} {out : List Clause},(∀ c ∈ out,c.length ≤ 6) → ∀ c ∈ (relL may one f s out).1,c.length ≤ 6
 | 0,s,out,_,c,hc=>by simp [relL] at hc
 | f + 1,s,out,h,c,hc=>by
  rw [relL] at hc
  cases hcl : clR may one 6 s [] with
  | error e=>rw [hcl] at hc; simp at hc
  | ok ct =>
   obtain ⟨c',t⟩:=ct
   rw [hcl] at hc
   have h' : ∀ d ∈ out ++ [c'],d.length ≤ 6:=fun d hd=>by
    rcases List.mem_append.1 hd with hd | hd
    ·exact h d hd
    ·rw [List.mem_singleton.1 hd]; have:=clR_len hcl; simpa using this
   cases t with
   | nil=>exact h' c hc
   | cons d u =>
    simp only at hc
    split at hc
    ·exact relL_small h' c hc
    ·simp at hc
theorem relP_small {may : Atom → Bool} {one : Bool} {s : List UInt8} : ∀ c ∈ (relP may one s).1,c.length ≤ 6:=fun c hc=>by
 unfold relP at hc
 split at hc
 ·simp at hc
 ·exact relL_small (by simp) c hc
theorem flat_take {α : Type} {l : List (List α)} {i : Nat} {c : List α} (h : l[i]? = some c) : (l.take (i + 1)).flatten = (l.take i).flatten ++ c:=by
 rw [List.take_add_one,h]; simp
theorem flatN_len {α : Type} {l : List (List α)} {k : Nat} (h : ∀ c ∈ l,c.length ≤ k) : l.flatten.length ≤ l.length * k:=by
 induction l with
 | nil=>simp
 | cons c r ih =>
  have h1:=h c (by simp)
  have h2:=ih fun d hd=>h d (by simp [hd])
  simp only [List.flatten_cons,List.length_append,List.length_cons]
  rw [Nat.succ_mul]
  omega
end Go.Av
namespace Go.Proofs.Tryz
open Go Go.Av
set_option maxRecDepth 10000
variable {W0 : World}

theorem rl_anyAtom (a : Atom) : PureFn prog W0 182 [atomAV a] (.bool (anyOk a)):=by
 refine fn_pure [2] [1] func182 rfl rfl ntmps182 rfl rfl (.bool _) fun hs σ=>?_
 simp only [go_sem,simprocAttr,↓reduceIte,atomAV]
 exact weak_bool rfl
theorem rl_provOk (a : Atom) : PureFn prog W0 183 [atomAV a] (.bool (provOk a)):=by
 refine fn_pure [2] [1] func183 rfl rfl ntmps183 rfl rfl (.bool _) fun hs σ=>?_
 simp only [go_sem,simprocAttr,↓reduceIte,atomAV]
 refine weak_bool ?_
 unfold provOk
 rw [Bool.eq_iff_iff]
 simp
theorem rl_Parse (s : List UInt8) (hsl : s.length ≤ 1048574) : PureFn prog W0 130 [.str s] (.tup [clsN (relP anyOk false s).1,.int .i64 (relP anyOk false s).2]):=by
 refine fn_pure [2,3] [] func130 rfl rfl ntmps130 rfl rfl (ids_relN _) fun hs σ=>?_
 simp only [go_sem,simprocAttr,↓reduceIte]
 refine CallA.fn (rl_parse s hsl anyOk 182 rl_anyAtom false) ?_
 rw [← relP_eq]
 have hn : okM none (clsN (relP anyOk false s).1) ∧ unm (clsN (relP anyOk false s).1) = clsN (relP anyOk false s).1:=by
  unfold clsN
  cases (relP anyOk false s).1.map atomsAV <;> exact ⟨trivial,rfl⟩
 simp only [go_sem,simprocAttr,↓reduceIte,hn.1,hn.2]
theorem rl_ParseAtoms (s : List UInt8) (hsl : s.length ≤ 1048574) : PureFn prog W0 132 [.str s] (.tup [atomsN (relP anyOk true s).1.flatten,.int .i64 (relP anyOk true s).2]):=by
 refine fn_pure [2,3] [] func132 rfl rfl ntmps132 rfl rfl (.tup2 (ids_nlz (ids_atoms _)) (.int _ _)) fun hs σ=>?_
 simp only [go_sem,simprocAttr,↓reduceIte]
 refine CallA.fn (rl_parse s hsl anyOk 182 rl_anyAtom true) ?_
 rw [← relP_eq]
 have hlen:=relP_len (may:=anyOk) (one:=true) (s:=s)
 have hsm:=relP_small (may:=anyOk) (one:=true) (s:=s)
 have hne:=relP_ne (may:=anyOk) (one:=true) (s:=s)
 generalize relP anyOk true s = p at *
 obtain ⟨l,e⟩:=p
 simp only at hlen hsm hne ⊢
 by_cases hl0 : l = []
 ·subst hl0
  simp only [go_sem,simprocAttr,↓reduceIte,clsN,List.map_nil,nlz]
  refine LoopVC.at [5] (.of (by kernel_rfl)) (fun A=>A.env 6 = .nils ∧ A.st = σ) ?_ fun B ⟨h6,hst⟩=>?_
  ·refine LoopVC.upto [5,14,15] (.of (by kernel_rfl)) 0 (fun i A=>A.env 6 = .nils ∧ A.env 16 = .int .i64 i ∧ A.st = σ) 0 (Nat.zero_le _) ?_ fun i B hi ⟨h6,h16,hst⟩=>?_
   ·simp only [go_sem,simprocAttr,↓reduceIte]
   obtain rfl : i = 0:=by omega
   simp only [go_sem,simprocAttr,↓reduceIte,h6,h16,hst]
  simp only [go_sem,simprocAttr,↓reduceIte,h6,hst]
  exact .refl _
 have hcn : clsN l = .sl 85 (l.map atomsAV):=nlz_ne (by simpa using hl0)
 have hfn : l.flatten.map atomAV ≠ []:=by
  cases l with
  | nil=>exact absurd rfl hl0
  | cons c r =>
   have:=hne c (by simp)
   simp [this]
 simp only [go_sem,simprocAttr,↓reduceIte,hcn,List.length_map]
 refine LoopVC.at [5] (.of (by kernel_rfl)) (fun A=>∃ v,A.env 6 = v ∧ Built σ A.st v 100 (l.flatten.map atomAV)) ?_ fun B ⟨v,h6,hb⟩=>?_
 ·refine LoopVC.upto [5,14,15] (.of (by kernel_rfl)) l.length (fun i A=>∃ v,A.env 6 = v ∧ A.env 16 = .int .i64 i ∧ Built σ A.st v 100 ((l.take i).flatten.map atomAV)) 0 (Nat.zero_le _) ?_ fun i B hi ⟨v,h6,h16,hb⟩=>?_
  ·simp only [go_sem,simprocAttr,↓reduceIte]
   exact ⟨_,rfl,Built.nil (.refl _) _⟩
  simp only [go_sem,simprocAttr,↓reduceIte,h6,h16,hb.ok,hb.un,List.length_map]
  refine ⟨fun hc=>⟨hc,?_⟩,fun hc=>⟨v,rfl,by rw [List.take_of_length_le hc] at hb; exact hb⟩⟩
  obtain ⟨c,hci⟩:=get_some hc
  have hfl:=flatN_len (l:=l.take i) (k:=6) fun d hd=>hsm d (List.mem_of_mem_take hd)
  have hcl:=hsm c (List.mem_of_getElem? hci)
  rw [List.length_take] at hfl
  have hmin : min i l.length * 6 ≤ 72:=by have : min i l.length ≤ 12:=by omega
                                          omega
  simp only [go_sem,simprocAttr,↓reduceIte,atV_map hci,h6,h16,hb.ok,hb.un,atomsAV]
  refine AppA.own 1048576 (by kernel_rfl) hb.bld (.sl _ _ _) (by simp only [List.length_map]; omega) fun v' σ' ha'=>?_
  simp only [go_sem,simprocAttr,↓reduceIte,h16]
  refine ⟨hc,v',rfl,int_succ hc (by rw [maxLen_eq]; omega),?_⟩
  rw [flat_take hci,List.map_append]
  exact hb.app ha'
 simp only [go_sem,simprocAttr,↓reduceIte,h6,hb.ok,hb.un]
 exact ⟨weak_tup2 (by unfold atomsN; rw [nlz_ne hfn]; exact hb.weak) (.refl _),hb.ext⟩
theorem rl_ParseProvides (s : List UInt8) (hsl : s.length ≤ 1048574) : PureFn prog W0 133 [.str s] (.tup [provsN ((relP provOk true s).1.map provOf),.int .i64 (relP provOk true s).2]):=by
 refine fn_pure [2,3] [2000031,2000006] func133 rfl rfl ntmps133 rfl rfl (.tup2 (ids_nlz (ids_provs _)) (.int _ _)) fun hs σ=>?_
 simp only [go_sem,simprocAttr,↓reduceIte]
 refine CallA.fn (rl_parse s hsl provOk 183 rl_provOk true) ?_
 rw [← relP_eq]
 have hlen:=relP_len (may:=provOk) (one:=true) (s:=s)
 have hne:=relP_ne (may:=provOk) (one:=true) (s:=s)
 generalize relP provOk true s = p at *
 obtain ⟨l,e⟩:=p
 simp only at hlen hne ⊢
 by_cases hl0 : l = []
 ·subst hl0
  simp only [go_sem,simprocAttr,↓reduceIte,clsN,List.map_nil,nlz]
  refine LoopVC.at [5] (.of (by kernel_rfl)) (fun A=>A.env 6 = .nils ∧ A.st = σ) ?_ fun B ⟨h6,hst⟩=>?_
  ·refine LoopVC.upto [5,14,15] (.of (by kernel_rfl)) 0 (fun i A=>A.env 6 = .nils ∧ A.env 16 = .int .i64 i ∧ A.st = σ) 0 (Nat.zero_le _) ?_ fun i B hi ⟨h6,h16,hst⟩=>?_
   ·simp only [go_sem,simprocAttr,↓reduceIte]
   obtain rfl : i = 0:=by omega
   simp only [go_sem,simprocAttr,↓reduceIte,h6,h16,hst]
  simp only [go_sem,simprocAttr,↓reduceIte,h6,hst]
  exact .refl _
 have hcn : clsN l = .sl 85 (l.map atomsAV):=nlz_ne (by simpa using hl0)
 have hfn : (l.map provOf).map provAV ≠ []:=by simpa using hl0
 simp only [go_sem,simprocAttr,↓reduceIte,hcn,List.length_map]
 refine LoopVC.at [5] (.of (by kernel_rfl)) (fun A=>∃ v,A.env 6 = v ∧ Built σ A.st v 102 ((l.map provOf).map provAV)) ?_ fun B ⟨v,h6,hb⟩=>?_
 ·refine LoopVC.upto [5,14,15] (.of (by kernel_rfl)) l.length (fun i A=>∃ v,A.env 6 = v ∧ A.env 16 = .int .i64 i ∧ Built σ A.st v 102 (((l.take i).map provOf).map provAV)) 0 (Nat.zero_le _) ?_ fun i B hi ⟨v,h6,h16,hb⟩=>?_
  ·simp only [go_sem,simprocAttr,↓reduceIte]
   exact ⟨_,rfl,Built.nil (.refl _) _⟩
  simp only [go_sem,simprocAttr,↓reduceIte,h6,h16,hb.ok,hb.un,List.length_map]
  refine ⟨fun hc=>⟨hc,?_⟩,fun hc=>⟨v,rfl,by rw [List.take_of_length_le hc] at hb; exact hb⟩⟩
  obtain ⟨c,hci⟩:=get_some hc
  obtain ⟨a,r,rfl⟩ : ∃ a r,c = a :: r:=by
   cases c with
   | nil=>exact absurd rfl (hne _ (List.mem_of_getElem? hci))
   | cons a r=>exact ⟨a,r,rfl⟩
  simp only [go_sem,simprocAttr,↓reduceIte,atV_map hci,h6,h16,hb.ok,hb.un,atomsAV,atV_zero,atomAV]
  refine ⟨.of (by kernel_rfl),AppA.own 1048576 (by kernel_rfl) hb.bld (.lit _ _ _) (by simp; omega) fun v' σ' ha'=>?_⟩
  simp only [go_sem,simprocAttr,↓reduceIte,h16]
  refine ⟨hc,v',rfl,int_succ hc (by rw [maxLen_eq]; omega),?_⟩
  rw [take_succ_get hci,List.map_append,List.map_append]
  exact hb.app ha'
 simp only [go_sem,simprocAttr,↓reduceIte,h6,hb.ok,hb.un]
 exact ⟨weak_tup2 (by unfold provsN; rw [nlz_ne hfn]; exact hb.weak) (.refl _),hb.ext⟩
end Go.Proofs.Tryz
end
section
namespace Go.Av
def hd0 : List UInt8 → UInt8
 | []=>0
 | c :: _=>c
end Go.Av
namespace Go.Proofs.Tryz
open Go Go.Av
set_option maxRecDepth 10000
variable {W0 : World}

end Go.Proofs.Tryz
end
section
namespace Go.Proofs.Tryz
open Go Go.Av
theorem nlz_okM (e : TypeId) (xs : List AV) : okM none (nlz e xs) ∧ unm (nlz e xs) = nlz e xs:=by
 cases xs <;> exact ⟨trivial,rfl⟩
end Go.Proofs.Tryz
namespace Go.Proofs.Tryz
open Go Go.Av
set_option maxRecDepth 10000
variable {W0 : World}

def inV : ValN → AV
 | .text s=>.iface 9 (.str s)
 | .count n=>.iface 3 (.int .i64 n)
 | .yes b=>.iface 4 (.bool b)
 | .cls l=>.iface 29 (clsN l)
 | .atoms l=>.iface 30 (atomsN l)
 | .provs l=>.iface 31 (provsN l)
def valAV (v : ValN) : AV:=.agg 104 [inV v]
def valO : Option ValN → AV
 | none=>.agg 104 [.niface]
 | some v=>valAV v
theorem ids_val (v : ValN) : IdsLt 0 (valAV v):=.agg fun x hx=>by
 simp only [List.mem_singleton] at hx
 subst hx
 cases v with
 | text s=>exact .iface (.str _)
 | count n=>exact .iface (.int _ _)
 | yes b=>exact .iface (.bool _)
 | cls l=>exact .iface (ids_nlz (ids_clauses _))
 | atoms l=>exact .iface (ids_nlz (ids_atoms _))
 | provs l=>exact .iface (ids_nlz (ids_provs _))
theorem ids_valO (v : Option ValN) : IdsLt 0 (valO v):=by
 cases v with
 | none=>exact .agg fun x hx=>by simp only [List.mem_singleton] at hx; subst hx; exact .niface
 | some v=>exact ids_val v
theorem ixStrF {α : Type} (enc : α → AV) (hp : ∀ a,NotM (enc a)) (l : List α) (q : α → Bool) (g : FuncId) (caps : List AV) (h : ∀ a ∈ l,PureFn prog W0 g ([enc a] ++ caps) (.bool (q a))) :
  PureFn prog W0 207 [.sl 9 (l.map enc),.fn g caps] (.int .i64 (idxL q l)):=by
 refine fn_pure [4] [] func207 rfl rfl ntmps207 rfl rfl (.int _ _) fun hs σ=>?_
 have hl:=(small_map (hs _ (List.mem_cons_self ..))).1
 simp only [go_sem,simprocAttr,↓reduceIte]
 refine LoopVC.upto [0,1,7] (.of (by kernel_rfl)) l.length (fun i A=>A.env 8 = .int .i64 i ∧ A.st = σ ∧ ∀ a ∈ l.take i,q a = false) 0 (Nat.zero_le _) ?_ fun i B hi ⟨h8,hst,hI⟩=>?_
 ·simp only [go_sem,simprocAttr,↓reduceIte]
  all_goals simp
 simp only [go_sem,simprocAttr,↓reduceIte,h8,hst,List.length_map]
 refine ⟨fun hc=>⟨hc,?_⟩,fun hc=>weak_int ?_⟩
 ·obtain ⟨a,ha⟩:=get_some hc
  simp only [atV_map ha,okM_notM (hp a),unm_notM (hp a),true_and]
  refine CallA.pure (h a (List.mem_of_getElem? ha)) ?_
  simp only [go_sem,simprocAttr,↓reduceIte,h8,hst]
  refine ⟨fun hq=>weak_int (idxL_at ha hq hI).symm,fun hq=>⟨hc,int_succ hc hl,?_⟩⟩
  rw [take_succ_get ha]
  intro b hb
  rcases List.mem_append.1 hb with hb | hb
  ·exact hI b hb
  ·rw [List.mem_singleton.1 hb]; exact hq
 ·rw [idxL_none]
  rwa [List.take_of_length_le hc] at hI
theorem anStrF {α : Type} (enc : α → AV) (hp : ∀ a,NotM (enc a)) (l : List α) (q : α → Bool) (g : FuncId) (caps : List AV) (h : ∀ a ∈ l,PureFn prog W0 g ([enc a] ++ caps) (.bool (q a))) :
  PureFn prog W0 179 [.sl 9 (l.map enc),.fn g caps] (.bool (l.any q)):=by
 refine fn_pure [4] [] func179 rfl rfl ntmps179 rfl rfl (.bool _) fun hs σ=>?_
 simp only [go_sem,simprocAttr,↓reduceIte]
 refine CallA.fn (ixStrF enc hp l q g caps h) ?_
 simp only [go_sem,simprocAttr,↓reduceIte]
 exact weak_bool idxL_ge

theorem cl_atoms (l : List Atom) (hl : l.length ≤ 1048576) : PureFn prog W0 122 [nlz 100 (l.map atomAV)] (nlz 100 (l.map atomAV)):=by
 refine fn_pure [2] [] func122 rfl rfl ntmps122 rfl rfl (ids_nlz (ids_map ids_atom l)) fun hs σ=>?_
 cases l with
 | nil =>
  simp only [go_sem,simprocAttr,↓reduceIte,List.map_nil,nlz]
 | cons x c =>
  simp only [go_sem,simprocAttr,↓reduceIte,List.map_cons,nlz]
  refine AppA.own 1048576 (by kernel_rfl) (.inr (.inl rfl)) (.sl _ _ _) (by simpa using hl) fun v' σ' ha'=>?_
  have hb':=(Built.app (σ:=σ) ⟨.inr (.inl rfl),.refl _,fun t h=>by cases h⟩ ha')
  simp only [go_sem,simprocAttr,↓reduceIte,hb'.ok,hb'.un]
  exact ⟨hb'.weak,hb'.ext⟩
theorem cl_provs (l : List Prov) (hl : l.length ≤ 1048576) : PureFn prog W0 123 [nlz 102 (l.map provAV)] (nlz 102 (l.map provAV)):=by
 refine fn_pure [2] [] func123 rfl rfl ntmps123 rfl rfl (ids_nlz (ids_map ids_prov l)) fun hs σ=>?_
 cases l with
 | nil =>
  simp only [go_sem,simprocAttr,↓reduceIte,List.map_nil,nlz]
 | cons x c =>
  simp only [go_sem,simprocAttr,↓reduceIte,List.map_cons,nlz]
  refine AppA.own 1048576 (by kernel_rfl) (.inr (.inl rfl)) (.sl _ _ _) (by simpa using hl) fun v' σ' ha'=>?_
  have hb':=(Built.app (σ:=σ) ⟨.inr (.inl rfl),.refl _,fun t h=>by cases h⟩ ha')
  simp only [go_sem,simprocAttr,↓reduceIte,hb'.ok,hb'.un]
  exact ⟨hb'.weak,hb'.ext⟩
theorem cl_clause (l : List Atom) (hl : l.length ≤ 1048576) : PureFn prog W0 174 [nlz 100 (l.map atomAV)] (nlz 100 (l.map atomAV)):=by
 refine fn_pure [2] [] func174 rfl rfl ntmps174 rfl rfl (ids_nlz (ids_map ids_atom l)) fun hs σ=>?_
 cases l with
 | nil =>
  simp only [go_sem,simprocAttr,↓reduceIte,List.map_nil,nlz]
 | cons x c =>
  simp only [go_sem,simprocAttr,↓reduceIte,List.map_cons,nlz]
  refine AppA.own 1048576 (by kernel_rfl) (.inr (.inl rfl)) (.sl _ _ _) (by simpa using hl) fun v' σ' ha'=>?_
  have hb':=(Built.app (σ:=σ) ⟨.inr (.inl rfl),.refl _,fun t h=>by cases h⟩ ha')
  simp only [go_sem,simprocAttr,↓reduceIte,hb'.ok,hb'.un]
  exact ⟨hb'.weak,hb'.ext⟩
theorem va_own (l : List Clause) (hl : l.length ≤ 1048576) (hc : ∀ c ∈ l,c ≠ [] ∧ c.length ≤ 1048576) : PureFn prog W0 121 [clsN l] (clsN l):=by
 refine fn_pure [2] [] func121 rfl rfl ntmps121 rfl rfl (ids_nlz (ids_clauses _)) fun hs σ=>?_
 by_cases hl0 : l = []
 ·subst hl0
  simp only [go_sem,simprocAttr,↓reduceIte,clsN,List.map_nil,nlz]
  refine LoopVC.at [6,7] (.of (by kernel_rfl)) (fun A=>A.env 3 = .nils ∧ A.st = σ) ?_ fun B ⟨h3,hst⟩=>?_
  ·refine LoopVC.upto [6,7] (.of (by kernel_rfl)) 0 (fun i A=>A.env 3 = .nils ∧ A.env 8 = .int .i64 i ∧ A.st = σ) 0 (Nat.zero_le _) ?_ fun i B hi ⟨h3,h8,hst⟩=>?_
   ·simp only [go_sem,simprocAttr,↓reduceIte]
   obtain rfl : i = 0:=by omega
   simp only [go_sem,simprocAttr,↓reduceIte,h3,h8,hst]
  simp only [go_sem,simprocAttr,↓reduceIte,h3,hst]
 have hcn : clsN l = .sl 85 (l.map atomsAV):=nlz_ne (by simpa using hl0)
 rw [hcn]
 simp only [go_sem,simprocAttr,↓reduceIte]
 refine LoopVC.at [6,7] (.of (by kernel_rfl)) (fun A=>∃ v,A.env 3 = v ∧ Built σ A.st v 85 (l.map atomsAV)) ?_ fun B ⟨v,h3,hb⟩=>?_
 ·refine LoopVC.upto [6,7] (.of (by kernel_rfl)) l.length (fun i A=>∃ v,A.env 3 = v ∧ A.env 8 = .int .i64 i ∧ Built σ A.st v 85 ((l.take i).map atomsAV)) 0 (Nat.zero_le _) ?_ fun i B hi ⟨v,h3,h8,hb⟩=>?_
  ·simp only [go_sem,simprocAttr,↓reduceIte]
   exact ⟨_,rfl,Built.nil (.refl _) _⟩
  simp only [go_sem,simprocAttr,↓reduceIte,h3,h8,hb.ok,hb.un,List.length_map]
  refine ⟨fun hlt=>⟨hlt,?_⟩,fun hlt=>?_⟩
  ·obtain ⟨c,ha⟩:=get_some hlt
   have hcc:=hc c (List.mem_of_getElem? ha)
   have hcn : nlz 100 (c.map atomAV) = atomsAV c:=nlz_ne (by simpa using hcc.1)
   have hcl:=cl_clause (W0:=W0) c hcc.2
   rw [hcn] at hcl
   simp only [atV_map ha]
   simp only [go_sem,simprocAttr,↓reduceIte,atomsAV,h3,h8,hb.ok,hb.un]
   refine CallA.fn hcl ?_
   simp only [go_sem,simprocAttr,↓reduceIte,h3,h8,hb.ok,hb.un,atomsAV]
   refine AppA.own 1048576 (by kernel_rfl) hb.bld (.lit _ _ _) (by simp; omega) fun v' σ' ha'=>?_
   have hb':=hb.app ha'
   simp only [go_sem,simprocAttr,↓reduceIte,h3,h8,hb.ok,hb.un,hb'.ok,hb'.un]
   refine ⟨hlt,_,rfl,int_succ hlt (by rw [maxLen_eq]; omega),?_⟩
   rw [take_succ_get ha,List.map_append]
   exact hb'
  ·rw [List.take_of_length_le hlt] at hb
   exact ⟨_,rfl,hb⟩
 simp only [go_sem,simprocAttr,↓reduceIte,h3,hb.ok,hb.un]
 exact ⟨hb.weak,hb.ext⟩
theorem va_ofText (s : List UInt8) : PureFn prog W0 70 [.str s] (valAV (.text s)):=by
 refine fn_pureM [.cell 2 104] [] func70 rfl rfl ntmps70 rfl rfl (ids_val _) fun hs σ=>?_
 simp only [go_sem,simprocAttr,↓reduceIte]
 refine EndM.ret ?_
 simp only [go_sem,simprocAttr,↓reduceIte]
 exact .refl _
theorem va_ofCount (n : Int) : PureFn prog W0 135 [.int .i64 n] (valAV (.count n)):=by
 refine fn_pureM [.cell 2 104] [] func135 rfl rfl ntmps135 rfl rfl (ids_val _) fun hs σ=>?_
 simp only [go_sem,simprocAttr,↓reduceIte]
 refine EndM.ret ?_
 simp only [go_sem,simprocAttr,↓reduceIte]
 exact .refl _
theorem va_ofYes (b : Bool) : PureFn prog W0 71 [.bool b] (valAV (.yes b)):=by
 refine fn_pureM [.cell 2 104] [] func71 rfl rfl ntmps71 rfl rfl (ids_val _) fun hs σ=>?_
 simp only [go_sem,simprocAttr,↓reduceIte]
 refine EndM.ret ?_
 simp only [go_sem,simprocAttr,↓reduceIte]
 exact .refl _
theorem va_ofClauses (l : List Clause) (hl : l.length ≤ 1048576) (hc : ∀ c ∈ l,c ≠ [] ∧ c.length ≤ 1048576) : PureFn prog W0 72 [clsN l] (valAV (.cls l)):=by
 refine fn_pureM [.cell 2 104] [] func72 rfl rfl ntmps72 rfl rfl (ids_val _) fun hs σ=>?_
 have hn:=nlz_okM 85 (l.map atomsAV)
 simp only [go_sem,simprocAttr,↓reduceIte,clsN,hn.1,hn.2]
 refine CallA.fn (va_own l hl hc) ?_
 simp only [go_sem,simprocAttr,↓reduceIte,clsN,hn.1,hn.2]
 refine ⟨?_,EndM.ret ?_⟩
 ·cases l <;> rfl
 simp only [go_sem,simprocAttr,↓reduceIte]
 exact .refl _
theorem va_ofAtoms (l : List Atom) (hl : l.length ≤ 1048576) : PureFn prog W0 73 [atomsN l] (valAV (.atoms l)):=by
 refine fn_pureM [.cell 2 104] [] func73 rfl rfl ntmps73 rfl rfl (ids_val _) fun hs σ=>?_
 have hn:=nlz_okM 100 (l.map atomAV)
 simp only [go_sem,simprocAttr,↓reduceIte,atomsN,hn.1,hn.2]
 refine CallA.fn (cl_atoms l hl) ?_
 simp only [go_sem,simprocAttr,↓reduceIte,hn.1,hn.2]
 refine ⟨?_,EndM.ret ?_⟩
 ·cases l <;> rfl
 simp only [go_sem,simprocAttr,↓reduceIte]
 exact .refl _
theorem va_ofProvs (l : List Prov) (hl : l.length ≤ 1048576) : PureFn prog W0 74 [provsN l] (valAV (.provs l)):=by
 refine fn_pureM [.cell 2 104] [] func74 rfl rfl ntmps74 rfl rfl (ids_val _) fun hs σ=>?_
 have hn:=nlz_okM 102 (l.map provAV)
 simp only [go_sem,simprocAttr,↓reduceIte,provsN,hn.1,hn.2]
 refine CallA.fn (cl_provs l hl) ?_
 simp only [go_sem,simprocAttr,↓reduceIte,hn.1,hn.2]
 refine ⟨?_,EndM.ret ?_⟩
 ·cases l <;> rfl
 simp only [go_sem,simprocAttr,↓reduceIte]
 exact .refl _
theorem va_only (v : ValN) (b : Bool) : PureFn prog W0 129 [valAV v,.bool b] (.tup [valO (if b = true then some v else none),.int .i64 (if b = true then 0 else 3)]):=by
 refine fn_pureM [.cell 4 104,.tmp 5] [2] func129 rfl rfl ntmps129 rfl rfl (.tup2 (ids_valO _) (.int _ _)) fun hs σ=>?_
 simp only [go_sem,simprocAttr,↓reduceIte,valAV]
 refine ⟨fun h=>EndM.ret ?_,fun h=>EndM.ret ?_⟩
 ·subst h
  simp only [go_sem,simprocAttr,↓reduceIte]
  exact .refl _
 ·subst h
  simp only [go_sem,simprocAttr,↓reduceIte]
  exact .refl _
theorem va_told (v : ValN) (e : Int) : PureFn prog W0 131 [valAV v,.int .i64 e] (.tup [valO (if e = 0 then some v else none),.int .i64 e]):=by
 refine fn_pureM [.cell 4 104,.tmp 5] [2] func131 rfl rfl ntmps131 rfl rfl (.tup2 (ids_valO _) (.int _ _)) fun hs σ=>?_
 simp only [go_sem,simprocAttr,↓reduceIte,valAV]
 refine ⟨fun h=>EndM.ret ?_,fun h=>EndM.ret ?_⟩
 ·rw [if_neg h]
  simp only [go_sem,simprocAttr,↓reduceIte]
  exact .refl _
 ·subst h
  simp only [go_sem,simprocAttr,↓reduceIte]
  exact .refl _
theorem va_field1 (s n : List UInt8) : PureFn prog W0 180 [.str s,.loc 9 (.str n)] (.bool (sameT s n)):=by
 refine fn_pure [3] [] func180 rfl rfl ntmps180 rfl rfl (.bool _) fun hs σ=>?_
 simp only [go_sem,simprocAttr,↓reduceIte]
 refine CallA.fn (sz_same s n) ?_
 simp only [go_sem,simprocAttr,↓reduceIte]
theorem va_field0 (l : List (List UInt8)) (n : List UInt8) : PureFn prog W0 178 [.sl 9 (l.map .str),.loc 9 (.str n)] (.bool (l.any fun s=>sameT s n)):=by
 refine fn_pure [3] [] func178 rfl rfl ntmps178 rfl rfl (.bool _) fun hs σ=>?_
 simp only [go_sem,simprocAttr,↓reduceIte]
 refine CallA.fn (anStrF AV.str (fun _=>trivial) l (fun s=>sameT s n) _ _ fun s hs=>va_field1 s n) ?_
 simp only [go_sem,simprocAttr,↓reduceIte]
theorem same_low {s n : List UInt8} (h : s.map lowB = s) : sameT s n = decide (lowT n = s):=by
 unfold sameT lowT
 rw [h]
 exact decide_eq_decide.2 ⟨Eq.symm,Eq.symm⟩
theorem va_field (n : List UInt8) : PureFn prog W0 128 [.str n] (.int .i64 (fkind n)):=by
 refine fn_pure [2] [1] func128 rfl rfl ntmps128 rfl rfl (.int _ _) fun hs σ=>?_
 have hf : ∀ l : List (List UInt8),PureFn prog W0 178 [.lit 9 (l.map .str),.loc 9 (.str n)] (.bool (l.any fun s=>sameT s n)):=fun l=>(va_field0 l n).weak (.cons (.lit _ _) (.cons (.refl _) .nil))
 simp only [go_sem,simprocAttr,↓reduceIte]
 unfold fkind
 refine CallA.pure (hf [sPackage]) ?_
 simp only [go_sem,simprocAttr,↓reduceIte,List.any_cons,List.any_nil,Bool.or_false,same_low (n:=n) (show sPackage.map lowB = sPackage by decide)]
 refine ⟨fun h=>by rw [if_pos h]; exact .refl _,fun h=>?_⟩
 rw [if_neg h]
 refine CallA.pure (hf [sVersion]) ?_
 simp only [go_sem,simprocAttr,↓reduceIte,List.any_cons,List.any_nil,Bool.or_false,same_low (n:=n) (show sVersion.map lowB = sVersion by decide)]
 refine ⟨fun h=>by rw [if_pos h]; exact .refl _,fun h=>?_⟩
 rw [if_neg h]
 refine CallA.pure (hf [sPre,sDep,sRcm]) ?_
 simp only [go_sem,simprocAttr,↓reduceIte,List.any_cons,List.any_nil,Bool.or_false,same_low (n:=n) (show sPre.map lowB = sPre by decide),same_low (n:=n) (show sDep.map lowB = sDep by decide),same_low (n:=n) (show sRcm.map lowB = sRcm by decide)]
 refine ⟨fun h=>by rw [if_pos (by simpa [or_assoc] using h)]; exact .refl _,fun h=>?_⟩
 rw [if_neg (by intro hn; rcases hn with e | e | e <;> simp [e] at h)]
 refine CallA.pure (hf [sCon,sBrk]) ?_
 simp only [go_sem,simprocAttr,↓reduceIte,List.any_cons,List.any_nil,Bool.or_false,same_low (n:=n) (show sCon.map lowB = sCon by decide),same_low (n:=n) (show sBrk.map lowB = sBrk by decide)]
 refine ⟨fun h=>by rw [if_pos (by simpa [or_assoc] using h)]; exact .refl _,fun h=>?_⟩
 rw [if_neg (by intro hn; rcases hn with e | e <;> simp [e] at h)]
 refine CallA.pure (hf [sProv]) ?_
 simp only [go_sem,simprocAttr,↓reduceIte,List.any_cons,List.any_nil,Bool.or_false,same_low (n:=n) (show sProv.map lowB = sProv by decide)]
 refine ⟨fun h=>by rw [if_pos h]; exact .refl _,fun h=>?_⟩
 rw [if_neg h]
 refine CallA.pure (hf [sEss,sHold,sConf]) ?_
 simp only [go_sem,simprocAttr,↓reduceIte,List.any_cons,List.any_nil,Bool.or_false,same_low (n:=n) (show sEss.map lowB = sEss by decide),same_low (n:=n) (show sHold.map lowB = sHold by decide),same_low (n:=n) (show sConf.map lowB = sConf by decide)]
 refine ⟨fun h=>by rw [if_pos (by simpa [or_assoc] using h)]; exact .refl _,fun h=>?_⟩
 rw [if_neg (by intro hn; rcases hn with e | e | e <;> simp [e] at h)]
 refine CallA.pure (hf [sPrio]) ?_
 simp only [go_sem,simprocAttr,↓reduceIte,List.any_cons,List.any_nil,Bool.or_false,same_low (n:=n) (show sPrio.map lowB = sPrio by decide)]
 refine ⟨fun h=>by rw [if_pos h]; exact .refl _,fun h=>?_⟩
 rw [if_neg h]
 exact .refl _
end Go.Proofs.Tryz
end
section
namespace Go.Proofs.Tryz
open Go Go.Av
set_option maxRecDepth 10000
variable {W0 : World}

def rvAV : Except Int ValN → AV
 | .ok v=>.tup [valAV v,.int .i64 0]
 | .error e=>.tup [valO none,.int .i64 e]
theorem ids_rv (x : Except Int ValN) : IdsLt 0 (rvAV x):=by
 cases x with
 | ok v=>exact .tup2 (ids_val _) (.int _ _)
 | error e=>exact .tup2 (ids_valO none) (.int _ _)
theorem va_read (n s : List UInt8) (hsl : fkind n = 7 ∨ s.length ≤ 1048574) : PureFn prog W0 80 [.str n,.str s] (rvAV (readV n s)):=by
 refine fn_pureM [.cell 4 104,.tmp 5] [] func80 rfl rfl ntmps80 rfl rfl (ids_rv _) fun hs σ=>?_
 have hcl:=fun c hc=>And.intro (relP_ne (may:=anyOk) (one:=false) (s:=s) c hc) (Nat.le_trans (relP_small (may:=anyOk) (one:=false) (s:=s) c hc) (by decide : 6 ≤ 1048576))
 have hl1 : (relP anyOk false s).1.length ≤ 1048576:=Nat.le_trans relP_len (by decide)
 have hl2 : (relP anyOk true s).1.flatten.length ≤ 1048576:=by
  have h1:=relP_len (may:=anyOk) (one:=true) (s:=s)
  have h2:=flatN_len (l:=(relP anyOk true s).1) (k:=6) fun d hd=>relP_small d hd
  omega
 have hl3 : ((relP provOk true s).1.map provOf).length ≤ 1048576:=by rw [List.length_map]; exact Nat.le_trans relP_len (by decide)
 simp only [go_sem,simprocAttr,↓reduceIte]
 refine CallA.fn (va_field n) ?_
 unfold readV
 generalize fkind n = fk at *
 simp only [go_sem,simprocAttr,↓reduceIte]
 refine ⟨fun h=>?_,fun h0=>⟨fun h=>?_,fun h1=>⟨fun h=>?_,fun h2=>⟨fun h=>?_,fun h3=>⟨fun h=>?_,fun h4=>⟨fun h=>?_,fun h5=>⟨fun h=>?_,fun h6=>?_⟩⟩⟩⟩⟩⟩⟩
 ·obtain rfl : fk = 0:=by omega
  refine CallA.fn (va_ofText s) ?_
  simp only [go_sem,simprocAttr,↓reduceIte,valAV,inV]
  refine CallA.fn (tx_name s) ?_
  simp only [go_sem,simprocAttr,↓reduceIte,valAV,inV]
  refine CallA.fn (va_only (.text s) _) ?_
  cases nameOk s
  ·simp only [go_sem,simprocAttr,↓reduceIte,valO,Bool.false_eq_true]
   refine EndM.ret ?_
   simp only [go_sem,simprocAttr,↓reduceIte]
   exact .refl _
  ·simp only [go_sem,simprocAttr,↓reduceIte,valO,valAV,inV]
   refine EndM.ret ?_
   simp only [go_sem,simprocAttr,↓reduceIte]
   exact .refl _
 ·obtain rfl : fk = 1:=by omega
  refine CallA.fn (ve_parse s) ?_
  unfold isVer
  cases verP s with
  | none =>
   simp only [go_sem,simprocAttr,↓reduceIte,verPAV]
   refine CallA.fn (va_ofText s) ?_
   simp only [go_sem,simprocAttr,↓reduceIte,valAV,inV]
   refine CallA.fn (va_only (.text s) _) ?_
   simp only [go_sem,simprocAttr,↓reduceIte,valO,Bool.false_eq_true,Option.isSome_none]
   refine EndM.ret ?_
   simp only [go_sem,simprocAttr,↓reduceIte]
   exact .refl _
  | some q =>
   obtain ⟨q1,q2,q3⟩:=q
   simp only [go_sem,simprocAttr,↓reduceIte,verPAV]
   refine CallA.fn (va_ofText s) ?_
   simp only [go_sem,simprocAttr,↓reduceIte,valAV,inV]
   refine CallA.fn (va_only (.text s) _) ?_
   simp only [go_sem,simprocAttr,↓reduceIte,valO,valAV,inV,Option.isSome_some]
   refine EndM.ret ?_
   simp only [go_sem,simprocAttr,↓reduceIte]
   exact .refl _
 ·obtain rfl : fk = 2:=by omega
  refine CallA.fn (rl_Parse s (hsl.resolve_left (by omega))) ?_
  generalize relP anyOk false s = q at *
  obtain ⟨l,e⟩:=q
  simp only at hcl hl1 ⊢
  have hn:=nlz_okM 85 (l.map atomsAV)
  simp only [go_sem,simprocAttr,↓reduceIte,clsN,hn.1,hn.2]
  refine CallA.fn (va_ofClauses l hl1 hcl) ?_
  simp only [go_sem,simprocAttr,↓reduceIte,valAV,inV,clsN,hn.1,hn.2]
  refine CallA.fn (va_told (.cls l) e) ?_
  by_cases he : e = 0
  ·subst he
   simp only [go_sem,simprocAttr,↓reduceIte,valO,valAV,inV,clsN]
   refine EndM.ret ?_
   simp only [go_sem,simprocAttr,↓reduceIte]
   exact .refl _
  ·simp only [go_sem,simprocAttr,↓reduceIte,he,valO]
   refine EndM.ret ?_
   simp only [go_sem,simprocAttr,↓reduceIte]
   exact .refl _
 ·obtain rfl : fk = 3:=by omega
  refine CallA.fn (rl_ParseAtoms s (hsl.resolve_left (by omega))) ?_
  generalize relP anyOk true s = q at *
  obtain ⟨l,e⟩:=q
  simp only at hl2 ⊢
  have hn:=nlz_okM 100 (l.flatten.map atomAV)
  simp only [go_sem,simprocAttr,↓reduceIte,atomsN,hn.1,hn.2]
  refine CallA.fn (va_ofAtoms l.flatten hl2) ?_
  simp only [go_sem,simprocAttr,↓reduceIte,valAV,inV,atomsN,hn.1,hn.2]
  refine CallA.fn (va_told (.atoms l.flatten) e) ?_
  by_cases he : e = 0
  ·subst he
   simp only [go_sem,simprocAttr,↓reduceIte,valO,valAV,inV,atomsN]
   refine EndM.ret ?_
   simp only [go_sem,simprocAttr,↓reduceIte]
   exact .refl _
  ·simp only [go_sem,simprocAttr,↓reduceIte,he,valO]
   refine EndM.ret ?_
   simp only [go_sem,simprocAttr,↓reduceIte]
   exact .refl _
 ·obtain rfl : fk = 4:=by omega
  refine CallA.fn (rl_ParseProvides s (hsl.resolve_left (by omega))) ?_
  generalize relP provOk true s = q at *
  obtain ⟨l,e⟩:=q
  simp only at hl3 ⊢
  have hn:=nlz_okM 102 ((l.map provOf).map provAV)
  simp only [go_sem,simprocAttr,↓reduceIte,provsN,hn.1,hn.2]
  refine CallA.fn (va_ofProvs (l.map provOf) hl3) ?_
  simp only [go_sem,simprocAttr,↓reduceIte,valAV,inV,provsN,hn.1,hn.2]
  refine CallA.fn (va_told (.provs (l.map provOf)) e) ?_
  by_cases he : e = 0
  ·subst he
   simp only [go_sem,simprocAttr,↓reduceIte,valO,valAV,inV,provsN]
   refine EndM.ret ?_
   simp only [go_sem,simprocAttr,↓reduceIte]
   exact .refl _
  ·simp only [go_sem,simprocAttr,↓reduceIte,he,valO]
   refine EndM.ret ?_
   simp only [go_sem,simprocAttr,↓reduceIte]
   exact .refl _
 ·obtain rfl : fk = 5:=by omega
  refine CallA.fn (va_ofYes _) ?_
  simp only [go_sem,simprocAttr,↓reduceIte,valAV,inV]
  refine CallA.fn (va_only (.yes _) _) ?_
  by_cases hy : s = sYes
  ·subst hy
   simp only [go_sem,simprocAttr,↓reduceIte,valO,valAV,inV]
   refine EndM.ret ?_
   simp only [go_sem,simprocAttr,↓reduceIte]
   exact .refl _
  ·by_cases hn : s = sNo
   ·subst hn
    simp only [go_sem,simprocAttr,↓reduceIte,valO,valAV,inV]
    refine EndM.ret ?_
    simp only [go_sem,simprocAttr,↓reduceIte]
    exact .refl _
   ·have e1 : (s == [121,101,115]) = false:=beq_eq_false_iff_ne.2 hy
    have e2 : (s == [110,111]) = false:=beq_eq_false_iff_ne.2 hn
    simp only [go_sem,simprocAttr,↓reduceIte,valO,valAV,inV,hy,hn,e1,e2,Bool.or_self,Bool.false_eq_true]
    refine EndM.ret ?_
    simp only [go_sem,simprocAttr,↓reduceIte]
    exact .refl _
 ·obtain rfl : fk = 6:=by omega
  refine CallA.fn (tx_number s) ?_
  unfold numAV
  cases numT s with
  | none =>
   simp only [go_sem,simprocAttr,↓reduceIte]
   refine CallA.fn (va_ofCount _) ?_
   simp only [go_sem,simprocAttr,↓reduceIte,valAV,inV]
   refine CallA.fn (va_only (.count _) _) ?_
   simp only [go_sem,simprocAttr,↓reduceIte,valO,Bool.false_eq_true]
   refine EndM.ret ?_
   simp only [go_sem,simprocAttr,↓reduceIte]
   exact .refl _
  | some m =>
   simp only [go_sem,simprocAttr,↓reduceIte]
   refine CallA.fn (va_ofCount _) ?_
   simp only [go_sem,simprocAttr,↓reduceIte,valAV,inV]
   refine CallA.fn (va_only (.count _) _) ?_
   simp only [go_sem,simprocAttr,↓reduceIte,valO,valAV,inV]
   refine EndM.ret ?_
   simp only [go_sem,simprocAttr,↓reduceIte]
   exact .refl _
 ·obtain ⟨m,rfl⟩ : ∃ m,fk = m + 7:=⟨fk - 7,by omega⟩
  refine CallA.fn (va_ofText s) ?_
  simp only [go_sem,simprocAttr,↓reduceIte,valAV,inV]
  refine EndM.ret ?_
  simp only [go_sem,simprocAttr,↓reduceIte]
  exact .refl _
end Go.Proofs.Tryz
end
section
namespace Go.Av
def txtO : Option ValN → List UInt8
 | some (.text s)=>s
 | _=>[]
def isTxt : Option ValN → Bool
 | some (.text _)=>true
 | _=>false
end Go.Av
namespace Go.Proofs.Tryz
open Go Go.Av
set_option maxRecDepth 10000
variable {W0 : World}

theorem va_text (o : Option ValN) : PureFn prog W0 82 [valO o] (.tup [.str (txtO o),.bool (isTxt o)]):=by
 refine fn_pure [2,3] [1] func82 rfl rfl ntmps82 rfl rfl (.tup2 (.str _) (.bool _)) fun hs σ=>?_
 have h1:=nlz_okM 100
 cases o with
 | none=>simp only [go_sem,simprocAttr,↓reduceIte,valO]; exact .refl _
 | some v=>cases v <;> simp only [go_sem,simprocAttr,↓reduceIte,valO,valAV,inV] <;> exact ⟨by simp,.refl _⟩
theorem va_kindT (s : List UInt8) : PureFn prog W0 215 [valAV (.text s)] (.str [116,101,120,116]):=by
 refine fn_pure [2] [1] func215 rfl rfl ntmps215 rfl rfl (.str _) fun hs σ=>?_
 simp only [go_sem,simprocAttr,↓reduceIte,valAV,inV]
 simp
theorem va_kindY (b : Bool) : PureFn prog W0 215 [valAV (.yes b)] (.str [121,101,115]):=by
 refine fn_pure [2] [1] func215 rfl rfl ntmps215 rfl rfl (.str _) fun hs σ=>?_
 simp only [go_sem,simprocAttr,↓reduceIte,valAV,inV]
 simp
theorem va_mustT (s : List UInt8) : PureFn prog W0 189 [valAV (.text s),.str [116,101,120,116]] (.tup []):=by
 refine fn_pure [] [2] func189 rfl rfl ntmps189 rfl rfl (.tup (by simp)) fun hs σ=>?_
 simp only [go_sem,simprocAttr,↓reduceIte,valAV,inV]
 refine CallA.fn (va_kindT s) ?_
 simp only [go_sem,simprocAttr,↓reduceIte]
theorem va_mustY (b : Bool) : PureFn prog W0 189 [valAV (.yes b),.str [121,101,115]] (.tup []):=by
 refine fn_pure [] [2] func189 rfl rfl ntmps189 rfl rfl (.tup (by simp)) fun hs σ=>?_
 simp only [go_sem,simprocAttr,↓reduceIte,valAV,inV]
 refine CallA.fn (va_kindY b) ?_
 simp only [go_sem,simprocAttr,↓reduceIte]
theorem va_mustText (s : List UInt8) : PureFn prog W0 141 [valAV (.text s)] (.str s):=by
 refine fn_pure [2] [1] func141 rfl rfl ntmps141 rfl rfl (.str _) fun hs σ=>?_
 simp only [go_sem,simprocAttr,↓reduceIte,valAV,inV]
 refine CallA.fn (va_mustT s) ?_
 simp only [go_sem,simprocAttr,↓reduceIte,valAV,inV]
 simp
theorem va_mustYes (b : Bool) : PureFn prog W0 145 [valAV (.yes b)] (.bool b):=by
 refine fn_pure [2] [1] func145 rfl rfl ntmps145 rfl rfl (.bool _) fun hs σ=>?_
 simp only [go_sem,simprocAttr,↓reduceIte,valAV,inV]
 refine CallA.fn (va_mustY b) ?_
 simp only [go_sem,simprocAttr,↓reduceIte,valAV,inV]
 simp
theorem va_clauses (l : List Clause) (hl : l.length ≤ 1048576) (hc : ∀ c ∈ l,c ≠ [] ∧ c.length ≤ 1048576) : PureFn prog W0 142 [valAV (.cls l)] (.tup [clsN l,.bool true]):=by
 refine fn_pure [2,3] [1] func142 rfl rfl ntmps142 rfl rfl (.tup2 (ids_nlz (ids_clauses _)) (.bool _)) fun hs σ=>?_
 have hn:=nlz_okM 85 (l.map atomsAV)
 simp only [go_sem,simprocAttr,↓reduceIte,valAV,inV,clsN,hn.1,hn.2]
 refine ⟨by simp,CallA.fn (va_own l hl hc) ?_⟩
 simp only [go_sem,simprocAttr,↓reduceIte,clsN,hn.1,hn.2]
theorem va_atoms (l : List Atom) (hl : l.length ≤ 1048576) : PureFn prog W0 143 [valAV (.atoms l)] (.tup [atomsN l,.bool true]):=by
 refine fn_pure [2,3] [1] func143 rfl rfl ntmps143 rfl rfl (.tup2 (ids_nlz (ids_atoms _)) (.bool _)) fun hs σ=>?_
 have hn:=nlz_okM 100 (l.map atomAV)
 simp only [go_sem,simprocAttr,↓reduceIte,valAV,inV,atomsN,hn.1,hn.2]
 refine ⟨by simp,CallA.fn (cl_atoms l hl) ?_⟩
 simp only [go_sem,simprocAttr,↓reduceIte,atomsN,hn.1,hn.2]
theorem va_provs (l : List Prov) (hl : l.length ≤ 1048576) : PureFn prog W0 144 [valAV (.provs l)] (.tup [provsN l,.bool true]):=by
 refine fn_pure [2,3] [1] func144 rfl rfl ntmps144 rfl rfl (.tup2 (ids_nlz (ids_provs _)) (.bool _)) fun hs σ=>?_
 have hn:=nlz_okM 102 (l.map provAV)
 simp only [go_sem,simprocAttr,↓reduceIte,valAV,inV,provsN,hn.1,hn.2]
 refine ⟨by simp,CallA.fn (cl_provs l hl) ?_⟩
 simp only [go_sem,simprocAttr,↓reduceIte,provsN,hn.1,hn.2]
end Go.Proofs.Tryz
end
section
namespace Go.Proofs.Tryz
open Go Go.Av
set_option maxRecDepth 10000
variable {W0 : World}

def pkgX (p : Pkg) : AV:=.agg 33 [.str p.name,.str p.ver,clsN p.pre,clsN p.dep,clsN p.rcm,atomsN p.con,atomsN p.brk,provsN p.prov,.bool p.ess]
def entX (x : EntN) : AV:=.agg 46 [pkgX x.pkg,.bool x.conf,.bool x.hold]
def accX (x : Acc) : AV:=.agg 118 [entX x.ent,.bool x.n,.bool x.v,.bool x.s]
def accO (x : Acc) : Option SObj:=some (.cells 118 [accX x])
def kindOk (n : List UInt8) (v : ValN) : Prop:=match fkind n,v with
 | 0,.text _ | 1,.text _ | 5,.yes _ | 6,.count _=>True
 | 2,.cls l=>l.length ≤ 1048576 ∧ ∀ c ∈ l,c ≠ [] ∧ c.length ≤ 1048576
 | 3,.atoms l=>l.length ≤ 1048576
 | 4,.provs l=>l.length ≤ 1048576
 | k,.text _=>7 ≤ k
 | _,_=>False
theorem re_putIs (s n : List UInt8) : PureFn prog W0 140 [.str s,.loc 9 (.str n)] (.bool (sameT s n)):=by
 refine fn_pure [3] [] func140 rfl rfl ntmps140 rfl rfl (.bool _) fun hs σ=>?_
 simp only [go_sem,simprocAttr,↓reduceIte]
 refine CallA.fn (sz_same s n) ?_
 simp only [go_sem,simprocAttr,↓reduceIte]
theorem kind_text {n : List UInt8} {v : ValN} (hk : kindOk n v) (h : fkind n = 0 ∨ fkind n = 1 ∨ fkind n = 7) : ∃ s,v = .text s:=by
 unfold kindOk at hk
 rcases h with h | h | h <;> rw [h] at hk <;> cases v <;> first | exact ⟨_,rfl⟩ | exact absurd hk (by simp)
theorem kind_cls {n : List UInt8} {v : ValN} (hk : kindOk n v) (h : fkind n = 2) : ∃ l,v = .cls l ∧ l.length ≤ 1048576 ∧ ∀ c ∈ l,c ≠ [] ∧ c.length ≤ 1048576:=by
 unfold kindOk at hk
 rw [h] at hk
 cases v <;> first | exact ⟨_,rfl,hk⟩ | exact absurd hk (by simp)
theorem kind_atoms {n : List UInt8} {v : ValN} (hk : kindOk n v) (h : fkind n = 3) : ∃ l,v = .atoms l ∧ l.length ≤ 1048576:=by
 unfold kindOk at hk
 rw [h] at hk
 cases v <;> first | exact ⟨_,rfl,hk⟩ | exact absurd hk (by simp)
theorem kind_provs {n : List UInt8} {v : ValN} (hk : kindOk n v) (h : fkind n = 4) : ∃ l,v = .provs l ∧ l.length ≤ 1048576:=by
 unfold kindOk at hk
 rw [h] at hk
 cases v <;> first | exact ⟨_,rfl,hk⟩ | exact absurd hk (by simp)
theorem kind_yes {n : List UInt8} {v : ValN} (hk : kindOk n v) (h : fkind n = 5) : ∃ b,v = .yes b:=by
 unfold kindOk at hk
 rw [h] at hk
 cases v <;> first | exact ⟨_,rfl⟩ | exact absurd hk (by simp)
theorem re_put {σ : Store} {xid : Nat} {x : Acc} (h : σ[xid]? = some (accO x)) (n : List UInt8) (v : ValN) (hk : kindOk n v) :
  ACall prog W0 87 [.ptr 118 xid 0 [],.str n,valAV v] σ fun r σ'=>r = .tup [] ∧ σ' = σ.set xid (accO (putV n v x)):=by
 refine fn_callM [] [4,5] func87 rfl rfl ntmps87 rfl rfl fun hs=>?_
 have h' : σ[xid]? = some (some (.cells 118 [.agg 118 [.agg 46 [.agg 33 [.str x.ent.pkg.name,.str x.ent.pkg.ver,clsN x.ent.pkg.pre,clsN x.ent.pkg.dep,clsN x.ent.pkg.rcm,atomsN x.ent.pkg.con,atomsN x.ent.pkg.brk,provsN x.ent.pkg.prov,.bool x.ent.pkg.ess],.bool x.ent.conf,.bool x.ent.hold],.bool x.n,.bool x.v,.bool x.s]])):=h
 have hxl:=(List.getElem?_eq_some_iff.1 h').1
 have hw:=fun (e : TypeId) (l : List AV)=>nlz_okM e l
 unfold putV
 simp only [go_sem,simprocAttr,↓reduceIte,valAV]
 refine CallA.pure (re_putIs sPackage n) ?_
 simp only [go_sem,simprocAttr,↓reduceIte,same_low (n:=n) (show sPackage.map lowB = sPackage by decide)]
 refine ⟨fun hn=>?_,fun hn=>?_⟩
 ·rw [if_pos hn]
  have hfk : fkind n = 0:=by unfold fkind; simp only [hn]; decide
  obtain ⟨t,rfl⟩:=kind_text hk (by rw [hfk]; decide)
  simp only [go_sem,simprocAttr,↓reduceIte,valAV,inV]
  refine CallA.fn (va_mustText t) ?_
  simp only [go_sem,simprocAttr,↓reduceIte,look_id h',setLook_id h',look_set hxl,setLook_set hxl]
  refine EndM.normal ?_
  simp only [go_sem,simprocAttr,↓reduceIte]
  exact ⟨_,.refl _,by simp,rfl,rfl⟩
 rw [if_neg hn]
 refine CallA.pure (re_putIs sVersion n) ?_
 simp only [go_sem,simprocAttr,↓reduceIte,same_low (n:=n) (show sVersion.map lowB = sVersion by decide)]
 refine ⟨fun hn=>?_,fun hn=>?_⟩
 ·rw [if_pos hn]
  have hfk : fkind n = 1:=by unfold fkind; simp only [hn]; decide
  obtain ⟨t,rfl⟩:=kind_text hk (by rw [hfk]; decide)
  simp only [go_sem,simprocAttr,↓reduceIte,valAV,inV]
  refine CallA.fn (va_mustText t) ?_
  simp only [go_sem,simprocAttr,↓reduceIte,look_id h',setLook_id h',look_set hxl,setLook_set hxl]
  refine EndM.normal ?_
  simp only [go_sem,simprocAttr,↓reduceIte]
  exact ⟨_,.refl _,by simp,rfl,rfl⟩
 rw [if_neg hn]
 refine CallA.pure (re_putIs sPre n) ?_
 simp only [go_sem,simprocAttr,↓reduceIte,same_low (n:=n) (show sPre.map lowB = sPre by decide)]
 refine ⟨fun hn=>?_,fun hn=>?_⟩
 ·rw [if_pos hn]
  have hfk : fkind n = 2:=by unfold fkind; simp only [hn]; decide
  obtain ⟨l,rfl,k1,k2⟩:=kind_cls hk hfk
  simp only [go_sem,simprocAttr,↓reduceIte,valAV,inV]
  refine CallA.fn (va_clauses l k1 k2) ?_
  simp only [go_sem,simprocAttr,↓reduceIte,clsN,(hw 85 (l.map atomsAV)).1,(hw 85 (l.map atomsAV)).2,look_id h',setLook_id h',look_set hxl,setLook_set hxl]
  refine ⟨by cases l <;> kernel_rfl,EndM.normal ?_⟩
  simp only [go_sem,simprocAttr,↓reduceIte]
  exact ⟨_,.refl _,by simp,rfl,rfl⟩
 rw [if_neg hn]
 refine CallA.pure (re_putIs sDep n) ?_
 simp only [go_sem,simprocAttr,↓reduceIte,same_low (n:=n) (show sDep.map lowB = sDep by decide)]
 refine ⟨fun hn=>?_,fun hn=>?_⟩
 ·rw [if_pos hn]
  have hfk : fkind n = 2:=by unfold fkind; simp only [hn]; decide
  obtain ⟨l,rfl,k1,k2⟩:=kind_cls hk hfk
  simp only [go_sem,simprocAttr,↓reduceIte,valAV,inV]
  refine CallA.fn (va_clauses l k1 k2) ?_
  simp only [go_sem,simprocAttr,↓reduceIte,clsN,(hw 85 (l.map atomsAV)).1,(hw 85 (l.map atomsAV)).2,look_id h',setLook_id h',look_set hxl,setLook_set hxl]
  refine ⟨by cases l <;> kernel_rfl,EndM.normal ?_⟩
  simp only [go_sem,simprocAttr,↓reduceIte]
  exact ⟨_,.refl _,by simp,rfl,rfl⟩
 rw [if_neg hn]
 refine CallA.pure (re_putIs sRcm n) ?_
 simp only [go_sem,simprocAttr,↓reduceIte,same_low (n:=n) (show sRcm.map lowB = sRcm by decide)]
 refine ⟨fun hn=>?_,fun hn=>?_⟩
 ·rw [if_pos hn]
  have hfk : fkind n = 2:=by unfold fkind; simp only [hn]; decide
  obtain ⟨l,rfl,k1,k2⟩:=kind_cls hk hfk
  simp only [go_sem,simprocAttr,↓reduceIte,valAV,inV]
  refine CallA.fn (va_clauses l k1 k2) ?_
  simp only [go_sem,simprocAttr,↓reduceIte,clsN,(hw 85 (l.map atomsAV)).1,(hw 85 (l.map atomsAV)).2,look_id h',setLook_id h',look_set hxl,setLook_set hxl]
  refine ⟨by cases l <;> kernel_rfl,EndM.normal ?_⟩
  simp only [go_sem,simprocAttr,↓reduceIte]
  exact ⟨_,.refl _,by simp,rfl,rfl⟩
 rw [if_neg hn]
 refine CallA.pure (re_putIs sCon n) ?_
 simp only [go_sem,simprocAttr,↓reduceIte,same_low (n:=n) (show sCon.map lowB = sCon by decide)]
 refine ⟨fun hn=>?_,fun hn=>?_⟩
 ·rw [if_pos hn]
  have hfk : fkind n = 3:=by unfold fkind; simp only [hn]; decide
  obtain ⟨l,rfl,k1⟩:=kind_atoms hk hfk
  simp only [go_sem,simprocAttr,↓reduceIte,valAV,inV]
  refine CallA.fn (va_atoms l k1) ?_
  simp only [go_sem,simprocAttr,↓reduceIte,atomsN,(hw 100 (l.map atomAV)).1,(hw 100 (l.map atomAV)).2,look_id h',setLook_id h',look_set hxl,setLook_set hxl]
  refine ⟨by cases l <;> kernel_rfl,EndM.normal ?_⟩
  simp only [go_sem,simprocAttr,↓reduceIte]
  exact ⟨_,.refl _,by simp,rfl,rfl⟩
 rw [if_neg hn]
 refine CallA.pure (re_putIs sBrk n) ?_
 simp only [go_sem,simprocAttr,↓reduceIte,same_low (n:=n) (show sBrk.map lowB = sBrk by decide)]
 refine ⟨fun hn=>?_,fun hn=>?_⟩
 ·rw [if_pos hn]
  have hfk : fkind n = 3:=by unfold fkind; simp only [hn]; decide
  obtain ⟨l,rfl,k1⟩:=kind_atoms hk hfk
  simp only [go_sem,simprocAttr,↓reduceIte,valAV,inV]
  refine CallA.fn (va_atoms l k1) ?_
  simp only [go_sem,simprocAttr,↓reduceIte,atomsN,(hw 100 (l.map atomAV)).1,(hw 100 (l.map atomAV)).2,look_id h',setLook_id h',look_set hxl,setLook_set hxl]
  refine ⟨by cases l <;> kernel_rfl,EndM.normal ?_⟩
  simp only [go_sem,simprocAttr,↓reduceIte]
  exact ⟨_,.refl _,by simp,rfl,rfl⟩
 rw [if_neg hn]
 refine CallA.pure (re_putIs sProv n) ?_
 simp only [go_sem,simprocAttr,↓reduceIte,same_low (n:=n) (show sProv.map lowB = sProv by decide)]
 refine ⟨fun hn=>?_,fun hn=>?_⟩
 ·rw [if_pos hn]
  have hfk : fkind n = 4:=by unfold fkind; simp only [hn]; decide
  obtain ⟨l,rfl,k1⟩:=kind_provs hk hfk
  simp only [go_sem,simprocAttr,↓reduceIte,valAV,inV]
  refine CallA.fn (va_provs l k1) ?_
  simp only [go_sem,simprocAttr,↓reduceIte,provsN,(hw 102 (l.map provAV)).1,(hw 102 (l.map provAV)).2,look_id h',setLook_id h',look_set hxl,setLook_set hxl]
  refine ⟨by cases l <;> kernel_rfl,EndM.normal ?_⟩
  simp only [go_sem,simprocAttr,↓reduceIte]
  exact ⟨_,.refl _,by simp,rfl,rfl⟩
 rw [if_neg hn]
 refine CallA.pure (re_putIs sEss n) ?_
 simp only [go_sem,simprocAttr,↓reduceIte,same_low (n:=n) (show sEss.map lowB = sEss by decide)]
 refine ⟨fun hn=>?_,fun hn=>?_⟩
 ·rw [if_pos hn]
  have hfk : fkind n = 5:=by unfold fkind; simp only [hn]; decide
  obtain ⟨b,rfl⟩:=kind_yes hk hfk
  simp only [go_sem,simprocAttr,↓reduceIte,valAV,inV]
  refine CallA.fn (va_mustYes b) ?_
  simp only [go_sem,simprocAttr,↓reduceIte,look_id h',setLook_id h',look_set hxl,setLook_set hxl]
  refine EndM.normal ?_
  simp only [go_sem,simprocAttr,↓reduceIte]
  exact ⟨_,.refl _,by simp,rfl,rfl⟩
 rw [if_neg hn]
 refine CallA.pure (re_putIs sHold n) ?_
 simp only [go_sem,simprocAttr,↓reduceIte,same_low (n:=n) (show sHold.map lowB = sHold by decide)]
 refine ⟨fun hn=>?_,fun hn=>?_⟩
 ·rw [if_pos hn]
  have hfk : fkind n = 5:=by unfold fkind; simp only [hn]; decide
  obtain ⟨b,rfl⟩:=kind_yes hk hfk
  simp only [go_sem,simprocAttr,↓reduceIte,valAV,inV]
  refine CallA.fn (va_mustYes b) ?_
  simp only [go_sem,simprocAttr,↓reduceIte,look_id h',setLook_id h',look_set hxl,setLook_set hxl]
  refine EndM.normal ?_
  simp only [go_sem,simprocAttr,↓reduceIte]
  exact ⟨_,.refl _,by simp,rfl,rfl⟩
 rw [if_neg hn]
 refine CallA.pure (re_putIs sState n) ?_
 simp only [go_sem,simprocAttr,↓reduceIte,same_low (n:=n) (show sState.map lowB = sState by decide)]
 refine ⟨fun hn=>?_,fun hn=>?_⟩
 ·rw [if_pos hn]
  have hfk : fkind n = 7:=by unfold fkind; simp only [hn]; decide
  obtain ⟨t,rfl⟩:=kind_text hk (by rw [hfk]; decide)
  simp only [go_sem,simprocAttr,↓reduceIte,valAV,inV]
  refine CallA.fn (va_mustText t) ?_
  simp only [go_sem,simprocAttr,↓reduceIte,look_id h',setLook_id h',look_set hxl,setLook_set hxl]
  refine EndM.normal ?_
  simp only [go_sem,simprocAttr,↓reduceIte]
  refine ⟨_,.refl _,by simp,rfl,?_⟩
  rw [show (t == [99,111,110,102,105,103,117,114,101,100]) = decide (t = sConf) by rw [Bool.eq_iff_iff]; simp]
  rfl
 rw [if_neg hn]
 refine EndM.normal ?_
 simp only [go_sem,simprocAttr,↓reduceIte]
 exact ⟨_,.refl _,rfl,(set_id h).symm⟩
end Go.Proofs.Tryz
end
section
namespace Go.Av
theorem sum_ge {α : Type} {g : α → Nat} : ∀ {l : List α} {a : α},a ∈ l → g a ≤ (l.map g).sum
 | b :: l,a,h=>by
  rcases List.mem_cons.1 h with rfl | h
  ·simp
  ·have:=sum_ge (g:=g) h
   simp; omega
theorem sum_le {α : Type} {g h : α → Nat} (hg : ∀ a,g a ≤ h a) : ∀ l : List α,(l.map g).sum ≤ (l.map h).sum
 | []=>by simp
 | a :: l=>by
  have:=sum_le hg l
  have:=hg a
  simp; omega
structure StzSmW (s : Stz) : Prop where
 ln : -9223372036854775808 ≤ s.line
 fl : s.fields.length ≤ 1048576
 sz : (s.fields.map fun f=>f.lines.length).sum ≤ 1048574
 fd : ∀ f ∈ s.fields,sumL f.lines + f.lines.length ≤ 140737488355328 ∧ (fkind f.name = 7 ∨ (foldT f.lines).length ≤ 1048574)
theorem st_f2 {τ : Store} {n : Nat} {x : Option (Option SObj)} (h : τ[n + 1]? = x) (o : Option SObj) : (τ.set n o)[n + 1]? = x:=(List.getElem?_set_ne (by omega)).trans h
theorem st_f3 {τ : Store} {n : Nat} (h : n < τ.length) (te : TypeId) (xs : List AV) (o : Option SObj) : ((τ.set n (some (.cells te xs))).set (n + 1) o)[n]? = some (some (.cells te xs)):=(List.getElem?_set_ne (by omega)).trans (List.getElem?_set_self h)
theorem st_f4 {τ : Store} {n : Nat} (h : n + 1 < τ.length) (te : TypeId) (xs : List AV) (o : Option SObj) : ((τ.set n o).set (n + 1) (some (.cells te xs)))[n + 1]? = some (some (.cells te xs)):=List.getElem?_set_self (by simpa using h)
theorem readV_err {n s : List UInt8} {e : Int} (h : readV n s = .error e) : e ≠ 0:=by
 unfold readV at h
 split at h
 all_goals (try split at h)
 all_goals (try split at h)
 all_goals (first | (cases h; done) | (cases h; assumption) | (cases h; decide))
end Go.Av
namespace Go.Proofs.Tryz
open Go Go.Av
set_option maxRecDepth 10000
variable {W0 : World}

theorem ixFld {α : Type} (enc : α → AV) (hp : ∀ a,NotM (enc a)) (l : List α) (q : α → Bool) (g : FuncId) (caps : List AV) (h : ∀ a ∈ l,PureFn prog W0 g ([enc a] ++ caps) (.bool (q a))) :
  PureFn prog W0 139 [.sl 28 (l.map enc),.fn g caps] (.int .i64 (idxL q l)):=by
 refine fn_pure [4] [] func139 rfl rfl ntmps139 rfl rfl (.int _ _) fun hs σ=>?_
 have hl:=(small_map (hs _ (List.mem_cons_self ..))).1
 simp only [go_sem,simprocAttr,↓reduceIte]
 refine LoopVC.upto [0,1,7] (.of (by kernel_rfl)) l.length (fun i A=>A.env 8 = .int .i64 i ∧ A.st = σ ∧ ∀ a ∈ l.take i,q a = false) 0 (Nat.zero_le _) ?_ fun i B hi ⟨h8,hst,hI⟩=>?_
 ·simp only [go_sem,simprocAttr,↓reduceIte]
  all_goals simp
 simp only [go_sem,simprocAttr,↓reduceIte,h8,hst,List.length_map]
 refine ⟨fun hc=>⟨hc,?_⟩,fun hc=>weak_int ?_⟩
 ·obtain ⟨a,ha⟩:=get_some hc
  simp only [atV_map ha,okM_notM (hp a),unm_notM (hp a),true_and]
  refine CallA.pure (h a (List.mem_of_getElem? ha)) ?_
  simp only [go_sem,simprocAttr,↓reduceIte,h8,hst]
  refine ⟨fun hq=>weak_int (idxL_at ha hq hI).symm,fun hq=>⟨hc,int_succ hc hl,?_⟩⟩
  rw [take_succ_get ha]
  intro b hb
  rcases List.mem_append.1 hb with hb | hb
  ·exact hI b hb
  ·rw [List.mem_singleton.1 hb]; exact hq
 ·rw [idxL_none]
  rwa [List.take_of_length_le hc] at hI
theorem anFld {α : Type} (enc : α → AV) (hp : ∀ a,NotM (enc a)) (l : List α) (q : α → Bool) (g : FuncId) (caps : List AV) (h : ∀ a ∈ l,PureFn prog W0 g ([enc a] ++ caps) (.bool (q a))) :
  PureFn prog W0 85 [.sl 28 (l.map enc),.fn g caps] (.bool (l.any q)):=by
 refine fn_pure [4] [] func85 rfl rfl ntmps85 rfl rfl (.bool _) fun hs σ=>?_
 simp only [go_sem,simprocAttr,↓reduceIte]
 refine CallA.fn (ixFld enc hp l q g caps h) ?_
 simp only [go_sem,simprocAttr,↓reduceIte]
 exact weak_bool idxL_ge
theorem readV_kind {n s : List UInt8} {v : ValN} (hv : readV n s = .ok v) : kindOk n v:=by
 have hc1 : (relP anyOk false s).1.length ≤ 1048576 ∧ ∀ c ∈ (relP anyOk false s).1,c ≠ [] ∧ c.length ≤ 1048576:=⟨Nat.le_trans relP_len (by decide),fun c hc=>⟨relP_ne c hc,Nat.le_trans (relP_small c hc) (by decide)⟩⟩
 have hl2 : (relP anyOk true s).1.flatten.length ≤ 1048576:=by
  have h1:=relP_len (may:=anyOk) (one:=true) (s:=s)
  have h2:=flatN_len (l:=(relP anyOk true s).1) (k:=6) fun d hd=>relP_small d hd
  omega
 have hl3 : ((relP provOk true s).1.map provOf).length ≤ 1048576:=by rw [List.length_map]; exact Nat.le_trans relP_len (by decide)
 unfold readV at hv
 unfold kindOk
 generalize fkind n = k at *
 split at hv
 all_goals (try split at hv)
 all_goals (try split at hv)
 all_goals (cases hv)
 all_goals (first | trivial | exact hc1 | exact hl2 | exact hl3 | skip)
 rename_i a0 a1 a2 a3 a4 a5 a6
 have b0 : k ≠ 0:=a0
 have b1 : k ≠ 1:=a1
 have b2 : k ≠ 2:=a2
 have b3 : k ≠ 3:=a3
 have b4 : k ≠ 4:=a4
 have b5 : k ≠ 5:=a5
 have b6 : k ≠ 6:=a6
 obtain ⟨m,rfl⟩ : ∃ m,k = m + 7:=⟨k - 7,by omega⟩
 exact Nat.le_add_left _ _
theorem txt_eq (v : ValN) : txtO (some v) = v.txt:=by cases v <;> rfl
theorem bad_eq (st : Bool) (n : List UInt8) (v : ValN) : badSt st n v = (st && sameT n sState && !(v.txt == sUnp) && !(v.txt == sConf)):=by
 unfold badSt sameT lowT
 rw [show sState.map lowB = sState by decide]
 rw [show (v.txt == sUnp) = decide (v.txt = sUnp) by rw [Bool.eq_iff_iff]; simp,show (v.txt == sConf) = decide (v.txt = sConf) by rw [Bool.eq_iff_iff]; simp]
theorem entX_okM (x : EntN) : okM none (entX x) = True:=eq_true trivial
theorem entX_unm (x : EntN) : unm (entX x) = entX x:=rfl
theorem ids_pkgX (p : Pkg) : IdsLt 0 (pkgX p):=.agg fun x hx=>by
 simp at hx
 rcases hx with rfl | rfl | rfl | rfl | rfl | rfl | rfl | rfl | rfl
 ·exact .str _
 ·exact .str _
 ·exact ids_nlz (ids_clauses _)
 ·exact ids_nlz (ids_clauses _)
 ·exact ids_nlz (ids_clauses _)
 ·exact ids_nlz (ids_atoms _)
 ·exact ids_nlz (ids_atoms _)
 ·exact ids_nlz (ids_provs _)
 ·exact .bool _
theorem ids_entX (x : EntN) : IdsLt 0 (entX x):=.agg fun y hy=>by
 simp at hy
 rcases hy with rfl | rfl | rfl
 ·exact ids_pkgX _
 ·exact .bool _
 ·exact .bool _
theorem ids_at (e : Int × Int) : IdsLt 0 (atAV e):=.agg fun y hy=>by
 simp at hy
 rcases hy with rfl | rfl <;> exact .int _ _
theorem re_line (a : Int) (b : Nat) (hb : b ≤ 1048576) (ha : -9223372036854775808 ≤ a) : PureFn prog W0 84 [.int .i64 a,.int .i64 b] (.int .i64 (lineT a b)):=by
 refine fn_pure [4] [] func84 rfl rfl ntmps84 rfl rfl (.int _ _) fun hs σ=>?_
 have hw : IntKind.i64.wrap (9223372036854775807 - (b : Int)) = 9223372036854775807 - (b : Int):=wrap_in (by omega)
 unfold lineT
 simp only [go_sem,simprocAttr,↓reduceIte,hw]
 refine ⟨fun h=>by rw [if_pos (by simpa using h)]; exact .refl _,fun h=>?_⟩
 rw [if_neg (by simpa using h),wrap_in (by omega)]
 exact .refl _
theorem re_read1 (f g : Fld) : PureFn prog W0 86 [fldAV g,.loc 28 (fldAV f)] (.bool (sameT f.name g.name)):=by
 refine fn_pure [3] [2] func86 rfl rfl ntmps86 rfl rfl (.bool _) fun hs σ=>?_
 simp only [go_sem,simprocAttr,↓reduceIte,fldAV]
 refine CallA.fn (sz_same f.name g.name) ?_
 simp only [go_sem,simprocAttr,↓reduceIte]
theorem re_read (hW : TabsOk W0) (s : Stz) (status : Bool) (h : StzSmW s) :
  PureFn prog W0 38 [stzAV s,.bool status] (.tup [entX (readE s status).1,atAV (readE s status).2]):=by
 refine fn_pureM [.cell 4 46,.cell 5 36] [2,9,23,25,97,2000010,4000006,2000011] func38 rfl rfl ntmps38 rfl rfl (.tup2 (ids_entX _) (ids_at _)) fun hs σ=>?_
 simp only [go_sem,simprocAttr,↓reduceIte,stzAV,fldsAV,List.length_map]
 obtain ⟨hln,hfl,hsz,hfd⟩:=h
 have hmem : ∀ f ∈ s.fields,f.lines.length ≤ 1048574:=fun f hf=>Nat.le_trans (sum_ge (g:=fun f : Fld=>f.lines.length) hf) hsz
 refine LoopVC.at [1,2,4,5,6] (.of (by kernel_rfl)) (fun A=>∃ x,A.st[σ.length + 2]? = some (accO x) ∧ A.st[σ.length]? = some (some (.cells 46 [entX ent0])) ∧ A.st[σ.length + 1]? = some (some (.cells 36 [atAV (0,0)])) ∧ Ext σ A.st ∧ readF status [] s.fields 0 acc0 = .ok x) ?_ fun B ⟨x,c1,c2,c3,c4,c5⟩=>?_
 ·refine LoopVC.upto [1,2,4,5,6,15,16] (.of (by kernel_rfl)) s.fields.length (fun i A=>∃ (x : Acc) (b : Nat),A.env 7 = .int .i64 b ∧ A.env 17 = .int .i64 i ∧ A.st[σ.length + 2]? = some (accO x) ∧ A.st[σ.length]? = some (some (.cells 46 [entX ent0])) ∧ A.st[σ.length + 1]? = some (some (.cells 36 [atAV (0,0)])) ∧ Ext σ A.st ∧ b + ((s.fields.drop i).map fun f=>f.lines.length).sum ≤ 1048574 ∧ readF status (s.fields.take i) (s.fields.drop i) b x = readF status [] s.fields 0 acc0) 0 (Nat.zero_le _) ?_ fun i B hi ⟨x,b,h7,h17,c1,c2,c3,c4,c6,c5⟩=>?_
  ·simp only [go_sem,simprocAttr,↓reduceIte]
   refine ⟨acc0,0,rfl,by simp; rfl,by simp; rfl,by simp; rfl,?_,?_,rfl⟩
   ·exact (Ext.refl _).app _
   ·simpa using hsz
  simp only [go_sem,simprocAttr,↓reduceIte,h7,h17]
  refine ⟨fun hc=>⟨by rw [List.length_map]; exact hc,?_⟩,fun hc=>?_⟩
  ·obtain ⟨f,hf⟩:=get_some hc
   have hfm:=hmem f (List.mem_of_getElem? hf)
   obtain ⟨hf2,hf3⟩:=hfd f (List.mem_of_getElem? hf)
   simp only [atV_map hf]
   simp only [go_sem,simprocAttr,↓reduceIte,fldAV]
   refine ⟨.of (by kernel_rfl),CallP.fn (sz_fold hW f.lines (by omega) (by omega)) ?_⟩
   simp only [go_sem,simprocAttr,↓reduceIte]
   refine CallP.fn (va_read f.name (foldT f.lines) hf3) ?_
   have hd : s.fields.drop i = f :: s.fields.drop (i + 1):=by rw [List.drop_eq_getElem_cons hc]; congr 1; exact (List.getElem?_eq_some_iff.1 hf).2
   rw [hd,readF] at c5
   cases hv : readV f.name (foldT f.lines) with
   | error e =>
    rw [hv] at c5
    simp only at c5
    have hne : e ≠ 0:=readV_err hv
    simp only [go_sem,simprocAttr,↓reduceIte,rvAV,valO]
    refine CallA.fn (va_text none) ?_
    have hb : (e == 0) = false:=beq_eq_false_iff_ne.2 hne
    simp only [go_sem,simprocAttr,↓reduceIte,hb,txtO,isTxt,Bool.false_and]
    refine CallP.fnG (r:=.bool false) (fun h=>(Bool.false_ne_true h).elim) ?_
    simp only [go_sem,simprocAttr,↓reduceIte,hb,txtO,isTxt,Bool.false_and]
    refine JoinVC.both (fun hh=>by cases hh) fun _=>?_
    simp only [go_sem,simprocAttr,↓reduceIte,hb]
    refine ⟨fun _=>?_,fun h0=>absurd h0 hne⟩
    have e1 : (B.st ++ [none,some (SObj.cells 104 [.agg 104 [.niface]])])[σ.length + 2]? = some (accO x):=by rw [List.getElem?_append_left (List.getElem?_eq_some_iff.1 c1).1]; exact c1
    have e2 : (B.st ++ [none,some (SObj.cells 104 [.agg 104 [.niface]])])[σ.length]? = some (some (.cells 46 [entX ent0])):=by rw [List.getElem?_append_left (List.getElem?_eq_some_iff.1 c2).1]; exact c2
    have e3 : (B.st ++ [none,some (SObj.cells 104 [.agg 104 [.niface]])])[σ.length + 1]? = some (some (.cells 36 [atAV (0,0)])):=by rw [List.getElem?_append_left (List.getElem?_eq_some_iff.1 c3).1]; exact c3
    have e4 : Ext σ (B.st ++ [none,some (SObj.cells 104 [.agg 104 [.niface]])]):=c4.app _
    have e5 : (B.st ++ [none,some (SObj.cells 104 [.agg 104 [.niface]])])[B.st.length + 1]? = some (some (.cells 104 [.agg 104 [.niface]])):=by simp
    have el2:=(List.getElem?_eq_some_iff.1 e2).1
    have el3:=(List.getElem?_eq_some_iff.1 e3).1
    generalize hT : B.st ++ [none,some (SObj.cells 104 [.agg 104 [.niface]])] = τ at *
    simp only [go_sem,simprocAttr,↓reduceIte,h7,hT]
    refine CallA.fn (re_line s.line b (by omega) hln) ?_
    simp only [go_sem,simprocAttr,↓reduceIte,look_id e2,setLook_id e2,look_id (st_f2 e3 _),setLook_id (st_f2 e3 _),look_id (st_f3 el2 _ _ _),look_id (st_f4 el3 _ _ _),hT]
    refine EndM.ret ?_
    simp only [go_sem,simprocAttr,↓reduceIte,look_id e2,setLook_id e2,look_id (st_f2 e3 _),setLook_id (st_f2 e3 _),look_id (st_f3 el2 _ _ _),look_id (st_f4 el3 _ _ _)]
    have hE : readE s status = (ent0,(e,lineT s.line b)):=by unfold readE; rw [← c5]
    rw [hE]
    exact ⟨.refl _,(e4.set (Nat.le_refl _) _).set (Nat.le_succ _) _⟩
   | ok v =>
    rw [hv] at c5
    simp only at c5
    simp only [go_sem,simprocAttr,↓reduceIte,rvAV,valAV]
    refine CallA.fn (va_text (some v)) ?_
    simp only [go_sem,simprocAttr,↓reduceIte,txt_eq,isTxt]
    refine CallP.fnG (fun _=>sz_same f.name sState) ?_
    simp only [go_sem,simprocAttr,↓reduceIte,txt_eq,isTxt]
    have e1 : (B.st ++ [none,some (SObj.cells 104 [.agg 104 [inV v]])])[σ.length + 2]? = some (accO x):=by rw [List.getElem?_append_left (List.getElem?_eq_some_iff.1 c1).1]; exact c1
    have e2 : (B.st ++ [none,some (SObj.cells 104 [.agg 104 [inV v]])])[σ.length]? = some (some (.cells 46 [entX ent0])):=by rw [List.getElem?_append_left (List.getElem?_eq_some_iff.1 c2).1]; exact c2
    have e3 : (B.st ++ [none,some (SObj.cells 104 [.agg 104 [inV v]])])[σ.length + 1]? = some (some (.cells 36 [atAV (0,0)])):=by rw [List.getElem?_append_left (List.getElem?_eq_some_iff.1 c3).1]; exact c3
    have e4 : Ext σ (B.st ++ [none,some (SObj.cells 104 [.agg 104 [inV v]])]):=c4.app _
    have e5 : (B.st ++ [none,some (SObj.cells 104 [.agg 104 [inV v]])])[B.st.length + 1]? = some (some (.cells 104 [.agg 104 [inV v]])):=by simp
    have el2:=(List.getElem?_eq_some_iff.1 e2).1
    have el3:=(List.getElem?_eq_some_iff.1 e3).1
    generalize hT : B.st ++ [none,some (SObj.cells 104 [.agg 104 [inV v]])] = τ at *
    refine JoinVC.both (fun hh=>?_) fun hh=>?_
    ·simp only [go_sem,simprocAttr,↓reduceIte,h7,hT]
     refine CallA.fn (re_line s.line b (by omega) hln) ?_
     simp only [go_sem,simprocAttr,↓reduceIte,look_id e2,setLook_id e2,look_id (st_f2 e3 _),setLook_id (st_f2 e3 _),look_id (st_f3 el2 _ _ _),look_id (st_f4 el3 _ _ _),hT]
     refine EndM.ret ?_
     simp only [go_sem,simprocAttr,↓reduceIte,look_id e2,setLook_id e2,look_id (st_f2 e3 _),setLook_id (st_f2 e3 _),look_id (st_f3 el2 _ _ _),look_id (st_f4 el3 _ _ _)]
     have hE : readE s status = (ent0,(3,lineT s.line b)):=by
      unfold readE
      rw [← c5,if_pos (by rw [bad_eq]; exact hh)]
     rw [hE]
     exact ⟨.refl _,(e4.set (Nat.le_refl _) _).set (Nat.le_succ _) _⟩
    ·simp only [go_sem,simprocAttr,↓reduceIte,h7,hT]
     refine ⟨⟨Nat.zero_le _,by rw [List.length_map]; omega⟩,?_⟩
     rw [← List.map_take]
     refine CallA.fn (anFld fldAV (fun _=>trivial) (s.fields.take i) (fun g=>sameT f.name g.name) _ _ fun g hg=>re_read1 f g) ?_
     simp only [go_sem,simprocAttr,↓reduceIte,h7,hT]
     have hnb : ¬ badSt status f.name v = true:=by
      rw [bad_eq]
      exact fun e=>by rw [hh] at e; cases e
     have hsym : ((s.fields.take i).any fun g=>sameT f.name g.name) = hasF (s.fields.take i) f.name:=by
      unfold hasF
      congr 1
      funext g
      unfold sameT
      exact decide_eq_decide.2 ⟨Eq.symm,Eq.symm⟩
     have hsum : b + f.lines.length + ((s.fields.drop (i + 1)).map fun f=>f.lines.length).sum ≤ 1048574:=by
      rw [hd] at c6
      simp only [List.map_cons,List.sum_cons] at c6
      omega
     refine JoinVC.both (fun hq=>?_) fun hq=>?_
     ·simp only [go_sem,simprocAttr,↓reduceIte,h7,hT,look_id e5]
      refine CallA.goes (σ:=τ) (by simp only [go_sem,simprocAttr,↓reduceIte,hT]) (re_put e1 f.name v (readV_kind hv)) fun r τ' ⟨q0,q1⟩=>?_
      subst q0
      simp only [go_sem,simprocAttr,↓reduceIte,h7,h17,strsAV,List.length_map]
      have hw : IntKind.i64.wrap ((b : Int) + (f.lines.length : Int)) = ((b + f.lines.length : Nat) : Int):=by rw [wrap_in (by omega)]; omega
      subst q1
      rw [if_neg hnb,if_neg (by rw [← hsym]; simpa using hq)] at c5
      refine ⟨hc,putV f.name v x,b + f.lines.length,by rw [hw],int_succ hc (by rw [maxLen_eq]; omega),List.getElem?_set_self (List.getElem?_eq_some_iff.1 e1).1,(List.getElem?_set_ne (by omega)).trans e2,(List.getElem?_set_ne (by omega)).trans e3,e4.set (by omega) _,hsum,?_⟩
      rw [take_succ_get hf]; exact c5
     ·simp only [go_sem,simprocAttr,↓reduceIte,h7,h17,hT,strsAV,List.length_map]
      have hw : IntKind.i64.wrap ((b : Int) + (f.lines.length : Int)) = ((b + f.lines.length : Nat) : Int):=by rw [wrap_in (by omega)]; omega
      rw [if_neg hnb,if_pos (by rw [← hsym]; simpa using hq)] at c5
      refine ⟨hc,x,b + f.lines.length,by rw [hw],int_succ hc (by rw [maxLen_eq]; omega),e1,e2,e3,e4,hsum,?_⟩
      rw [take_succ_get hf]; exact c5
  ·rw [List.drop_of_length_le hc,List.take_of_length_le hc] at c5
   exact ⟨x,c1,c2,c3,c4,c5.symm⟩
 have c1' : B.st[σ.length + 2]? = some (some (.cells 118 [.agg 118 [entX x.ent,.bool x.n,.bool x.v,.bool x.s]])):=c1
 have el2:=(List.getElem?_eq_some_iff.1 c2).1
 have el3:=(List.getElem?_eq_some_iff.1 c3).1
 simp only [go_sem,simprocAttr,↓reduceIte,look_id c1']
 refine ⟨fun hb=>⟨.of (by kernel_rfl),?_⟩,fun hb=>?_⟩
 ·simp only [go_sem,simprocAttr,↓reduceIte,look_id c2,setLook_id c2,look_id (st_f2 c3 _),setLook_id (st_f2 c3 _),look_id (st_f3 el2 _ _ _),look_id (st_f4 el3 _ _ _)]
  refine EndM.ret ?_
  simp only [go_sem,simprocAttr,↓reduceIte,look_id c2,setLook_id c2,look_id (st_f2 c3 _),setLook_id (st_f2 c3 _),look_id (st_f3 el2 _ _ _),look_id (st_f4 el3 _ _ _)]
  have hE : readE s status = (ent0,(5,s.line)):=by
   unfold readE
   rw [c5]
   simp only
   rw [if_pos (by simpa [or_assoc] using hb)]
  rw [hE]
  exact ⟨.refl _,(c4.set (Nat.le_refl _) _).set (Nat.le_succ _) _⟩
 ·have hfx : fitsB prog 46 (entX x.ent) = true:=by
   unfold entX pkgX
   kernel_rfl
  simp only [go_sem,simprocAttr,↓reduceIte,entX_okM,entX_unm,hfx,look_id c2,setLook_id c2,look_id (st_f2 c3 _),setLook_id (st_f2 c3 _),look_id (st_f3 el2 _ _ _),look_id (st_f4 el3 _ _ _)]
  refine EndM.ret ?_
  simp only [go_sem,simprocAttr,↓reduceIte,entX_okM,entX_unm,hfx,look_id c2,setLook_id c2,look_id (st_f2 c3 _),setLook_id (st_f2 c3 _),look_id (st_f3 el2 _ _ _),look_id (st_f4 el3 _ _ _)]
  have hE : readE s status = (x.ent,(0,0)):=by
   unfold readE
   rw [c5]
   simp only
   rw [if_neg (by intro hn; have : (!x.n || !x.v || status && !x.s) = true:=by simpa [or_assoc] using hn
                  rw [this] at hb; cases hb)]
  rw [hE]
  exact ⟨.refl _,(c4.set (Nat.le_refl _) _).set (Nat.le_succ _) _⟩
end Go.Proofs.Tryz
end
section
namespace Go.Av
structure StzSm (s : Stz) : Prop where
 ln : -9223372036854775808 ≤ s.line
 fl : s.fields.length ≤ 1048576
 sz : (s.fields.map fun f=>sumL f.lines + f.lines.length).sum ≤ 1048574
theorem StzSm.wide {s : Stz} (h : StzSm s) : StzSmW s:=by
 have hs:=sum_le (g:=fun f : Fld=>f.lines.length) (h:=fun f : Fld=>sumL f.lines + f.lines.length) (fun f=>by omega) s.fields
 refine ⟨h.ln,h.fl,Nat.le_trans hs h.sz,fun f hf=>?_⟩
 have:=Nat.le_trans (sum_ge (g:=fun f : Fld=>sumL f.lines + f.lines.length) hf) h.sz
 exact ⟨Nat.le_trans this (by decide),.inr (Nat.le_trans (foldT_len _) this)⟩
end Go.Av
namespace Go.Proofs.Tryz
open Go Go.Av
set_option maxRecDepth 10000
variable {W0 : World}

theorem pkgX_sub (p : Pkg) : Sub (pkgX p) (pkgAV p):=.agg rfl fun i a b ha hb=>by
 have nz : ∀ (e : TypeId) (xs : List AV),Sub (nlz e xs) (.sl e xs):=fun e xs=>by
  cases xs with
  | nil=>exact .nils _
  | cons x r=>exact .refl _
 match i,ha,hb with
 | 0,ha,hb | 1,ha,hb | 8,ha,hb=>cases ha; cases hb; exact .refl _
 | 2,ha,hb | 3,ha,hb | 4,ha,hb | 5,ha,hb | 6,ha,hb | 7,ha,hb=>cases ha; cases hb; exact nz _ _
theorem pkgsX_sub (l : List Pkg) : SubL (l.map pkgX) (l.map pkgAV):=by
 induction l with
 | nil=>exact .nil
 | cons p l ih=>exact .cons (pkgX_sub p) ih
theorem pkgX_okM (x : Pkg) : okM none (pkgX x) = True:=eq_true trivial
theorem pkgX_unm (x : Pkg) : unm (pkgX x) = pkgX x:=rfl
theorem re_of (hW : TabsOk W0) (s : Stz) (h : StzSmW s) : PureFn prog W0 13 [stzAV s] (.tup [pkgX (readE s false).1.pkg,atAV (readE s false).2]):=by
 refine fn_pureM [.cell 2 33,.cell 3 36] [1,4,5,11] func13 rfl rfl ntmps13 rfl rfl (.tup2 (ids_pkgX _) (ids_at _)) fun hs σ=>?_
 simp only [go_sem,simprocAttr,↓reduceIte,stzAV]
 refine CallA.fn (re_read hW s false h) ?_
 generalize readE s false = q at *
 obtain ⟨x,a⟩:=q
 have hfx : fitsB prog 33 (pkgX x.pkg) = true:=by unfold pkgX; kernel_rfl
 simp only [go_sem,simprocAttr,↓reduceIte,entX,atAV,pkgX_okM,pkgX_unm,hfx]
 refine ⟨.of (by kernel_rfl),EndM.ret ?_⟩
 simp only [go_sem,simprocAttr,↓reduceIte,pkgX_okM,pkgX_unm,hfx]
 done
theorem re_packages (hW : TabsOk W0) (b : List UInt8) (hst : ∀ s ∈ (stzT b).1,StzSm s) (hmn : ∀ s ∈ (stzT b).1,MayN (readE s false).1.pkg) (hlen : (stzT b).1.length ≤ 1048576) : PureFn prog W0 20 [bytesAV b] (.tup [pkgsAV (pkgsT b).1,atAV (pkgsT b).2]):=by
 refine fn_pureM [.tmp 2,.cell 3 36] [5,8,9,10] func20 rfl rfl ntmps20 rfl rfl (.tup2 (ids_pkgs _) (ids_at _)) fun hs σ=>?_
 simp only [go_sem,simprocAttr,↓reduceIte]
 refine CallA.fn (sz_parse hW b) ?_
 unfold pkgsT
 generalize stzT b = q at *
 obtain ⟨l,e⟩:=q
 simp only at hst hmn hlen ⊢
 simp only [go_sem,simprocAttr,↓reduceIte,atAV]
 refine ⟨fun he=>⟨.of (by kernel_rfl),?_⟩,fun he=>?_⟩
 ·rw [if_pos he]
  refine EndM.ret ?_
  simp only [go_sem,simprocAttr,↓reduceIte]
  exact weak_tup2 (.nils _) (.refl _)
 rw [if_neg (by simpa using he)]
 simp only [go_sem,simprocAttr,↓reduceIte,stzsAV,List.length_map]
 refine LoopVC.at [3] (.of (by kernel_rfl)) (fun A=>∃ v,∃ out : List EntN,A.env 6 = v ∧ Bld A.st v 33 ((out.map (·.pkg)).map pkgX) ∧ (∀ t ∈ foot v,σ.length + 1 ≤ t) ∧ A.st[σ.length]? = some (some (.cells 36 [atAV (0,0)])) ∧ Ext σ A.st ∧ readL false l [] = (out,(0,0)) ∧ ∀ p ∈ out.map (·.pkg),MayN p) ?_ fun B ⟨v,out,h6,hb,hbt,c1,c2,c3,c4⟩=>?_
 ·refine LoopVC.upto [3,21,22] (.of (by kernel_rfl)) l.length (fun i A=>∃ v,∃ out : List EntN,A.env 6 = v ∧ A.env 23 = .int .i64 i ∧ Bld A.st v 33 ((out.map (·.pkg)).map pkgX) ∧ (∀ t ∈ foot v,σ.length + 1 ≤ t) ∧ A.st[σ.length]? = some (some (.cells 36 [atAV (0,0)])) ∧ Ext σ A.st ∧ readL false (l.drop i) out = readL false l [] ∧ (∀ p ∈ out.map (·.pkg),MayN p) ∧ out.length = i) 0 (Nat.zero_le _) ?_ fun i B hi ⟨v,out,h6,h23,hb,hbt,c1,c2,c3,c4,c5⟩=>?_
  ·simp only [go_sem,simprocAttr,↓reduceIte]
   refine ⟨.nils,[],rfl,.inl ⟨rfl,rfl⟩,fun t ht=>by simp [foot] at ht,by simp; rfl,(Ext.refl _).app _,rfl,by simp,rfl⟩
  have hbn:=hb.notM
  simp only [go_sem,simprocAttr,↓reduceIte,h6,h23,okM_notM hbn,unm_notM hbn,List.length_map]
  refine ⟨fun hc=>⟨hc,?_⟩,fun hc=>?_⟩
  ·obtain ⟨x,hx⟩:=get_some hc
   have hxm:=List.mem_of_getElem? hx
   simp only [atV_map hx]
   simp only [go_sem,simprocAttr,↓reduceIte,stzAV,h6,okM_notM hbn,unm_notM hbn]
   refine CallA.fn (re_of hW x (hst x hxm).wide) ?_
   have hd : l.drop i = x :: l.drop (i + 1):=by rw [List.drop_eq_getElem_cons hc]; congr 1; exact (List.getElem?_eq_some_iff.1 hx).2
   rw [hd,readL] at c3
   have hmx:=hmn x hxm
   have hfx : fitsB prog 33 (pkgX (readE x false).1.pkg) = true:=by unfold pkgX; kernel_rfl
   generalize readE x false = q at *
   obtain ⟨y,ea⟩:=q
   simp only at c3 hmx hfx ⊢
   have c1n : (B.st ++ [none,none,none])[σ.length]? = some (some (.cells 36 [atAV (0,0)])):=by rw [List.getElem?_append_left (List.getElem?_eq_some_iff.1 c1).1]; exact c1
   have c2n : Ext σ (B.st ++ [none,none,none]):=c2.app _
   have hbn3 : Bld (B.st ++ [none,none,none]) v 33 ((out.map (·.pkg)).map pkgX):=hb.keep fun j hj=>List.getElem?_append_left (hb.lt j hj)
   have hln:=(List.getElem?_eq_some_iff.1 c1n).1
   simp only [go_sem,simprocAttr,↓reduceIte,atAV,pkgX_okM,pkgX_unm,hfx,h6,okM_notM hbn,unm_notM hbn,look_id c1n,setLook_id c1n]
   refine ⟨fun h0=>⟨.of (by kernel_rfl),EndM.ret ?_⟩,fun h0=>?_⟩
   ·rw [if_pos h0] at c3
    rw [← c3]
    simp only [go_sem,simprocAttr,↓reduceIte,look_set hln,h0]
    exact ⟨weak_tup2 (.nils _) (.refl _),c2n.set (Nat.le_refl _) _⟩
   ·rw [if_neg (by simpa using h0)] at c3
    generalize hS : B.st ++ [none,none,none] = τ at *
    refine AppA.ownS (σ:=τ) (by simp only [go_sem,simprocAttr,↓reduceIte,hS]) 1048576 (by kernel_rfl) hbn3 (.lit _ _ _) (by simp; omega) fun v2 τ2 ha=>?_
    rw [show (out.map (·.pkg)).map pkgX ++ [pkgX y.pkg] = ((out ++ [y]).map (·.pkg)).map pkgX by simp] at ha
    simp only [go_sem,simprocAttr,↓reduceIte,h23]
    refine ⟨hc,v2,out ++ [y],rfl,int_succ hc (by rw [maxLen_eq]; omega),ha.bld,fun t ht=>?_,?_,?_,c3,?_,by simp [c5]⟩
    ·rcases ha.foot hbn3 t ht with h | h
     ·exact hbt t h
     ·omega
    ·rw [ha.fr.old _ hln fun hm=>by have:=hbt _ hm; omega]; exact c1n
    ·refine List.ext_getElem? fun j=>?_
     rw [List.getElem?_take]
     split
     ·rename_i hj
      rw [ha.fr.old j (by have:=c2n.le; omega) (fun hm=>by have:=hbt j hm; omega),c2n.eq,List.getElem?_append_left hj]
     ·rw [List.getElem?_eq_none (by omega)]
    ·intro p hp
     simp only [List.map_append,List.map_cons,List.map_nil,List.mem_append,List.mem_singleton] at hp
     rcases hp with hp | hp
     ·exact c4 p hp
     ·rw [hp]; exact hmx
  ·rw [List.drop_of_length_le hc,readL] at c3
   exact ⟨v,out,rfl,hb,hbt,c1,c2,c3.symm,c4⟩
 have hbn:=hb.notM
 simp only [go_sem,simprocAttr,↓reduceIte,h6,okM_notM hbn,unm_notM hbn]
 have hlB:=(List.getElem?_eq_some_iff.1 c1).1
 have hwk : Weak v (pkgsAV (out.map (·.pkg))):=hb.weak.trans (.sub ((pkgsX_sub _).sl _))
 refine CallA.fn ((re_mayAll (out.map (·.pkg)) c4).weak (.cons hwk .nil)) ?_
 rw [c3]
 simp only [ne_eq,not_true_eq_false,if_false]
 simp only [go_sem,simprocAttr,↓reduceIte,h6,okM_notM hbn,unm_notM hbn,look_id c1,setLook_id c1]
 refine ⟨fun h0=>EndM.ret ?_,fun h0=>EndM.ret ?_⟩
 ·rw [if_pos h0]
  simp only [go_sem,simprocAttr,↓reduceIte,look_set hlB]
  exact ⟨weak_tup2 (.nils _) (.refl _),c2.set (Nat.le_refl _) _⟩
 ·rw [if_neg (by simpa using h0)]
  simp only [go_sem,simprocAttr,↓reduceIte,look_set hlB,okM_notM hbn,unm_notM hbn]
  exact ⟨weak_tup2 hwk (.refl _),c2.set (Nat.le_refl _) _⟩
end Go.Proofs.Tryz
end
section
namespace Go.Proofs.Tryz
open Go Go.Av
set_option maxRecDepth 10000
variable {W0 : World}

theorem putV_mayN {n : List UInt8} {v : ValN} {x : Acc} (hk : kindOk n v) (h : MayN x.ent.pkg) : MayN (putV n v x).ent.pkg:=by
 unfold putV
 by_cases hn : lowT n = sPackage
 ·rw [if_pos hn]
  exact ⟨h.con,h.brk,h.prov⟩
 rw [if_neg hn]
 clear hn
 by_cases hn : lowT n = sVersion
 ·rw [if_pos hn]
  exact ⟨h.con,h.brk,h.prov⟩
 rw [if_neg hn]
 clear hn
 by_cases hn : lowT n = sPre
 ·rw [if_pos hn]
  exact ⟨h.con,h.brk,h.prov⟩
 rw [if_neg hn]
 clear hn
 by_cases hn : lowT n = sDep
 ·rw [if_pos hn]
  exact ⟨h.con,h.brk,h.prov⟩
 rw [if_neg hn]
 clear hn
 by_cases hn : lowT n = sRcm
 ·rw [if_pos hn]
  exact ⟨h.con,h.brk,h.prov⟩
 rw [if_neg hn]
 clear hn
 by_cases hn : lowT n = sCon
 ·rw [if_pos hn]
  obtain ⟨l,rfl,hl⟩:=kind_atoms hk (by unfold fkind; simp only [hn]; decide)
  exact ⟨hl,h.brk,h.prov⟩
 rw [if_neg hn]
 clear hn
 by_cases hn : lowT n = sBrk
 ·rw [if_pos hn]
  obtain ⟨l,rfl,hl⟩:=kind_atoms hk (by unfold fkind; simp only [hn]; decide)
  exact ⟨h.con,hl,h.prov⟩
 rw [if_neg hn]
 clear hn
 by_cases hn : lowT n = sProv
 ·rw [if_pos hn]
  obtain ⟨l,rfl,hl⟩:=kind_provs hk (by unfold fkind; simp only [hn]; decide)
  exact ⟨h.con,h.brk,hl⟩
 rw [if_neg hn]
 clear hn
 by_cases hn : lowT n = sEss
 ·rw [if_pos hn]
  exact ⟨h.con,h.brk,h.prov⟩
 rw [if_neg hn]
 clear hn
 by_cases hn : lowT n = sHold
 ·rw [if_pos hn]
  exact ⟨h.con,h.brk,h.prov⟩
 rw [if_neg hn]
 clear hn
 by_cases hn : lowT n = sState
 ·rw [if_pos hn]
  exact ⟨h.con,h.brk,h.prov⟩
 rw [if_neg hn]
 clear hn
 exact h
theorem readF_mayN {st : Bool} : ∀ {l seen : List Fld} {b : Nat} {x y : Acc},readF st seen l b x = .ok y → MayN x.ent.pkg → MayN y.ent.pkg
 | [],seen,b,x,y,h,hx=>by
  rw [readF] at h
  cases h
  exact hx
 | f :: r,seen,b,x,y,h,hx=>by
  rw [readF] at h
  cases hv : readV f.name (foldT f.lines) with
  | error e=>rw [hv] at h; cases h
  | ok v =>
   rw [hv] at h
   simp only at h
   split at h
   ·cases h
   ·refine readF_mayN h ?_
    split
    ·exact hx
    ·exact putV_mayN (readV_kind hv) hx
theorem readE_mayN (s : Stz) (st : Bool) : MayN (readE s st).1.pkg:=by
 have h0 : MayN acc0.ent.pkg:=⟨by decide,by decide,by decide⟩
 unfold readE
 cases hr : readF st [] s.fields 0 acc0 with
 | error p=>exact h0
 | ok x =>
  simp only
  split
  ·exact h0
  ·exact readF_mayN hr h0
end Go.Proofs.Tryz
end
section
namespace Go.Av
def szF (f : Fld) : Nat:=1 + (sumL f.lines + f.lines.length)
def szS (x : Stz) : Nat:=1 + (x.fields.map szF).sum
def szL (l : List Stz) : Nat:=(l.map szS).sum
theorem szL_snoc (l : List Stz) (x : Stz) : szL (l ++ [x]) = szL l + szS x:=by simp [szL]
theorem szS_snoc (n : Int) (l : List Fld) (f : Fld) : szS ⟨n,l ++ [f]⟩ = szS ⟨n,l⟩ + szF f:=by simp [szS]; omega
theorem szL_upd {g : Stz → Stz} {k : Nat} (hg : ∀ x,szS (g x) ≤ szS x + k) (l : List Stz) : szL (updLast g l) ≤ szL l + k:=by
 by_cases h : l = []
 ·subst h; simp [updLast,szL]
 ·obtain ⟨u,x,rfl⟩:=stz_snoc h
  rw [updLast_snoc,szL_snoc,szL_snoc]
  have:=hg x
  omega
theorem addLine_sz (t : List UInt8) (x : Stz) : szS (addLine t x) ≤ szS x + (t.length + 1):=by
 unfold addLine
 obtain ⟨n,fs⟩:=x
 by_cases h : fs = []
 ·subst h; simp [updLast]
 ·obtain ⟨u,f,rfl⟩:=stz_snoc h
  simp only [updLast_snoc]
  rw [szS_snoc,szS_snoc]
  simp only [szF,sumL_snoc,List.length_append,List.length_cons,List.length_nil]
  omega
theorem addFld_sz (f : Fld) (x : Stz) : szS (addFld f x) = szS x + szF f:=by
 unfold addFld
 rw [szS_snoc]
theorem dot_len (t : List UInt8) : (dotT t).length ≤ t.length:=by
 unfold dotT
 split <;> simp
theorem takeS_sz {st st' : PS} {s : List UInt8} {ln : Int} (h : takeS st s ln = .ok st') : szL st'.l ≤ szL st.l + (s.length + 3):=by
 unfold takeS at h
 split at h
 ·cases h; omega
 split at h
 ·cases h; simp only; omega
 split at h
 ·split at h
  ·cases h
  ·cases h
   have h1:=dot_len (trimE (s.drop 1))
   have h2:=trimE_len (s.drop 1)
   rw [List.length_drop] at h2
   have:=szL_upd (g:=addLine (dotT (trimE (s.drop 1)))) (k:=s.length + 1) (fun x=>by have:=addLine_sz (dotT (trimE (s.drop 1))) x; omega) st.l
   simp only
   omega
 split at h
 ·cases h
 split at h
 ·cases h
 have hL0 : szL (if st.op = true then st.l else st.l ++ [⟨ln,[]⟩]) ≤ szL st.l + 1:=by
  split
  ·omega
  ·rw [szL_snoc]
   simp [szS]
 simp only at h
 generalize (if st.op = true then st.l else st.l ++ [⟨ln,[]⟩]) = L at h hL0
 split at h
 ·cases h
 split at h
 ·cases h
 ·cases h
  have h1:=trimT_len (s.drop ((fieldN s).toNat + 1))
  rw [List.length_drop] at h1
  have h2 : ∀ l,szL (updLast (addFld ⟨s.take (fieldN s).toNat,[trimT (s.drop ((fieldN s).toNat + 1))]⟩) l) ≤ szL l + (s.length + 2):=fun l=>by
   refine szL_upd (fun x=>?_) l
   rw [addFld_sz]
   simp only [szF,sumL,List.map_cons,List.map_nil,List.sum_cons,List.sum_nil,List.length_cons,List.length_nil]
   omega
  have:=h2 L
  simp only
  omega
theorem runP_sz : ∀ {l : List (List UInt8)} {i : Nat} {st st' : PS},runP st i l = .ok st' → szL st'.l ≤ szL st.l + (sumL l + 3 * l.length)
 | [],i,st,st',h=>by
  rw [runP] at h
  cases h
  omega
 | s :: r,i,st,st',h=>by
  rw [runP] at h
  cases ht : takeS st s (i + 1) with
  | error e=>rw [ht] at h; cases h
  | ok st2 =>
   rw [ht] at h
   have h1:=takeS_sz ht
   have h2:=runP_sz h
   simp only [sumL,List.map_cons,List.sum_cons,List.length_cons] at h2 ⊢
   omega
theorem pieces_sz : ∀ s : List UInt8,sumL (pieces s) + (pieces s).length = s.length + 1
 | []=>by simp [pieces,sumL]
 | x :: r=>by
  have h:=pieces_sz r
  rw [pieces]
  split
  ·simp only [sumL,List.map_cons,List.sum_cons,List.length_cons,List.length_nil] at h ⊢
   omega
  ·obtain ⟨a,t,e⟩:=pieces_ne r
   rw [e] at h ⊢
   simp only [sumL,List.map_cons,List.sum_cons,List.length_cons] at h ⊢
   omega
theorem linesL_sz (b : List UInt8) : sumL (linesL b) + (linesL b).length ≤ b.length + 1:=by
 have h:=pieces_sz b
 unfold linesL dropE
 split
 ·have h1 : sumL (pieces b).dropLast + (pieces b).dropLast.length ≤ sumL (pieces b) + (pieces b).length:=by
   have:=sumL_take (pieces b) ((pieces b).length - 1)
   rw [List.dropLast_eq_take]
   simp only [List.length_take]
   omega
  omega
 ·omega
end Go.Av
end
section
namespace Go.Av
theorem mem_upd {α : Type} {g : α → α} {l : List α} {y : α} (h : y ∈ updLast g l) : (∃ x ∈ l,y = g x) ∨ y ∈ l:=by
 by_cases hl : l = []
 ·subst hl; simp [updLast] at h
 ·obtain ⟨u,x,rfl⟩:=stz_snoc hl
  rw [updLast_snoc] at h
  rcases List.mem_append.1 h with h | h
  ·exact .inr (by simp [h])
  ·exact .inl ⟨x,by simp,by simpa using h⟩
theorem upd_ln {g : Stz → Stz} (hg : ∀ x,(g x).line = x.line) {l : List Stz} (h : ∀ x ∈ l,0 ≤ x.line) : ∀ x ∈ updLast g l,0 ≤ x.line:=fun y hy=>by
 rcases mem_upd hy with ⟨x,hx,rfl⟩ | hy
 ·rw [hg]; exact h x hx
 ·exact h y hy
theorem takeS_ln {st st' : PS} {s : List UInt8} {ln : Int} (hl : ∀ x ∈ st.l,0 ≤ x.line) (hn : 0 ≤ ln) (h : takeS st s ln = .ok st') : ∀ x ∈ st'.l,0 ≤ x.line:=by
 unfold takeS at h
 split at h
 ·cases h; exact hl
 split at h
 ·cases h; exact hl
 split at h
 ·split at h
  ·cases h
  ·cases h
   exact upd_ln (g:=addLine (dotT (trimE (s.drop 1)))) (fun _=>rfl) hl
 split at h
 ·cases h
 split at h
 ·cases h
 have hL0 : ∀ x ∈ (if st.op = true then st.l else st.l ++ [(⟨ln,[]⟩ : Stz)]),0 ≤ x.line:=by
  split
  ·exact hl
  ·intro x hx
   rcases List.mem_append.1 hx with hx | hx
   ·exact hl x hx
   ·rw [List.mem_singleton.1 hx]; exact hn
 simp only at h
 generalize (if st.op = true then st.l else st.l ++ [⟨ln,[]⟩]) = L at h hL0
 split at h
 ·cases h
 split at h
 ·cases h
 ·cases h
  exact upd_ln (g:=addFld ⟨s.take (fieldN s).toNat,[trimT (s.drop ((fieldN s).toNat + 1))]⟩) (fun _=>rfl) hL0
theorem runP_ln : ∀ {l : List (List UInt8)} {i : Nat} {st st' : PS},(∀ x ∈ st.l,0 ≤ x.line) → runP st i l = .ok st' → ∀ x ∈ st'.l,0 ≤ x.line
 | [],i,st,st',hl,h=>by
  rw [runP] at h
  cases h
  exact hl
 | s :: r,i,st,st',hl,h=>by
  rw [runP] at h
  cases ht : takeS st s (i + 1) with
  | error e=>rw [ht] at h; cases h
  | ok st2 =>
   rw [ht] at h
   exact runP_ln (takeS_ln hl (by omega) ht) h
theorem stzT_sm (b : List UInt8) : (∀ s ∈ (stzT b).1,StzSm s) ∧ (stzT b).1.length ≤ 200:=by
 unfold stzT
 split
 ·simp
 ·rename_i hne
  cases hr : runP ⟨[],false⟩ 0 (linesT b).1 with
  | error e=>simp
  | ok st =>
   have hb : b.length ≤ 65536 ∧ (linesT b).1 = linesL b:=by
    unfold linesT at hne ⊢
    split at hne
    ·exact absurd (by decide) hne
    ·rename_i h1
     rw [if_neg h1]
     split at hne
     ·rename_i h2; exact absurd h2 hne
     ·rename_i h2; rw [if_neg h2]; exact ⟨by omega,rfl⟩
   have h1:=runP_sz hr
   rw [hb.2] at h1
   have h2:=linesL_sz b
   have h3:=runP_ln (by simp) hr
   have h4 : PSok st:=(runP_ok (k:=0) (m:=1000) PSok.nil (fun x hx=>by simp at hx) (fun s hs=>(linesT_ok (b:=b)).2 s hs) hr).1
   have hsum : szL st.l ≤ 1048574:=by simp [szL] at h1 ⊢; omega
   refine ⟨fun x hx=>?_,h4.len⟩
   have hx1 : szS x ≤ szL st.l:=sum_ge (g:=szS) hx
   refine ⟨by have:=h3 x hx; omega,by have:=h4.flds x hx; omega,?_⟩
   have:=sum_le (g:=fun f : Fld=>sumL f.lines + f.lines.length) (h:=szF) (fun f=>by unfold szF; omega) x.fields
   unfold szS at hx1
   omega
end Go.Av
namespace Go.Proofs.Tryz
open Go Go.Av
set_option maxRecDepth 10000
variable {W0 : World}
theorem re_Packages (hW : TabsOk W0) (b : List UInt8) : PureFn prog W0 20 [bytesAV b] (.tup [pkgsAV (pkgsT b).1,atAV (pkgsT b).2]) :=
 re_packages hW b (stzT_sm b).1 (fun s _=>readE_mayN s false) (Nat.le_trans (stzT_sm b).2 (by decide))
end Go.Proofs.Tryz
end
