/- Texts that the last one of this claim rests on: a layer over the guide's own conditions for code; contracts of the functions that the law reaches, one by one. No conditions beside those of the given rows. -/
import Derived.Test.YtekjlnodoelblaaGreatDoorWah
import Derived.Test.YtekjlnodoelblaaGreatDoorWao
import Derived.Test.YtekjlnodoelblaaGreatDoorWaz
import Derived.Test.YtekjlnodoelblaaGreatDoorWba
set_option linter.unusedSimpArgs false
set_option linter.unusedVariables false
section
namespace Go.Av
open Go
theorem ConvA.keep {P : Program} {A : AState} {s e : TypeId} {id off m : Nat} {xs : List AV} {dst : Option Nat} {k : AState → Prop} (hs : elT P s = some e) (he : intT P e = some .u8) (h0 : 0 < m) (hσ : A.st[id]? = some (some (.cells e xs))) (hm : off + m ≤ xs.length)
  (hk : k ((A.put dst (.sl e ((xs.drop off).take m))).withSt (A.st.set id none))) : ConvA P s s (.row e id off m) dst A k .mk:=.inr (.inr ⟨e,id,off,m,xs,rfl,⟨rfl,hs,he⟩,h0,hσ,hm,hk⟩)
end Go.Av
namespace Go.Proofs.Tryz
open Go Go.Av
set_option maxRecDepth 10000
variable {W0 : World}

theorem shape_at : eqShape prog 36 = some [1,1]:=by kernel_rfl
@[go_sem] theorem eqAt (a b c d : Int) : eqAgg prog 36 [.int .i64 a,.int .i64 b] [.int .i64 c,.int .i64 d] = some (a == c && b == d):=by
 simp only [eqAgg_K shape_at,eqKs,eqK1,if_true,Option.map_some,Option.bind_some,Bool.and_true]
theorem at0 (x : AV) (r : List AV) : atV (x :: r) 0 = x:=rfl
theorem l9_awake (hW : TabsOk W0) : PureFn prog W0 12 [] (.bool true):=by
 refine fn_pure [0] [2,4,5000006,5000007,5000012,5000013] func12 rfl rfl ntmps12 rfl rfl (.bool _) fun hs σ=>?_
 simp only [go_sem,simprocAttr,↓reduceIte]
 refine ConvA.keep (by kernel_rfl) (by kernel_rfl) (by decide) List.getElem?_concat_length (by simp) ?_
 simp only [go_sem,simprocAttr,↓reduceIte]
 refine CallA.fn (re_Packages hW awT1) ?_
 rw [aw9_1]
 simp only [go_sem,simprocAttr,↓reduceIte,pkgsAV,atAV]
 refine ConvA.keep (xs:=awT2.map byteAV) (by kernel_rfl) (by kernel_rfl) (by decide) (show (σ ++ [none,none,some (.cells 5 (awT2.map byteAV))])[σ.length + 2]? = _ by simp) (by simp [awT2]) ?_
 simp only [go_sem,simprocAttr,↓reduceIte]
 refine CallA.fn (re_Packages hW awT2) ?_
 rw [aw9_2]
 simp only [go_sem,simprocAttr,↓reduceIte,pkgsAV,atAV,pkgAV,clausesAV,at0,Option.map_some,Option.getD_some]
end Go.Proofs.Tryz
end
section
namespace Go.Av
def kindS (n : List UInt8) : List UInt8:=match fkind n with
 | 2=>[99,108,97,117,115,101,115]
 | 3=>[97,116,111,109,115]
 | 4=>[112,114,111,118,105,100,101,115]
 | 5=>[121,101,115]
 | 6=>[99,111,117,110,116]
 | _=>[116,101,120,116]
theorem same_lowR {s n : List UInt8} (h : s.map lowB = s) : sameT n s = decide (lowT n = s):=by
 unfold sameT lowT
 rw [h]
end Go.Av
namespace Go.Proofs.Tryz
open Go Go.Av
set_option maxRecDepth 10000
variable {W0 : World}
theorem r9_plus (a : Int) (b : Nat) (hb : b ≤ 1048576) (ha : -9223372036854775808 ≤ a) (ha2 : a ≤ 9223372036854775807) : PureFn prog W0 91 [.int .i64 a,.int .i64 b] (.int .i64 (lineT a b)):=by
 refine fn_pure [4] [] func91 rfl rfl ntmps91 rfl rfl (.int _ _) fun hs σ=>?_
 unfold lineT
 by_cases h0 : 0 < a
 ·have hd : decide (0 < a) = true:=decide_eq_true h0
  have hw : IntKind.i64.wrap (9223372036854775807 - a) = 9223372036854775807 - a:=wrap_in (by omega)
  simp only [go_sem,simprocAttr,↓reduceIte,hd,hw]
  refine ⟨fun h=>weak_int (by rw [if_pos (by omega)]),fun h=>weak_int ?_⟩
  rw [if_neg (by omega),wrap_in (by omega)]
 ·have hd : decide (0 < a) = false:=decide_eq_false h0
  simp only [go_sem,simprocAttr,↓reduceIte,hd,pickV_f]
  refine weak_int ?_
  rw [if_neg (by omega),wrap_in (by omega)]
theorem r9_sort (n : List UInt8) : PureFn prog W0 146 [.str n] (.str (kindS n)):=by
 refine fn_pure [2] [] func146 rfl rfl ntmps146 rfl rfl (.str _) fun hs σ=>?_
 have hy : ∀ (k : Nat) (s x : List UInt8),(lowT n = s → fkind n = k) → (fkind n = k → kindS n = x) → lowT n = s → Weak (.str x) (.str (kindS n)):=fun k s x h1 h2 h=>weak_str (h2 (h1 h)).symm
 simp only [go_sem,simprocAttr,↓reduceIte]
 refine LoopVC.at [0] (.of (by kernel_rfl)) (fun A=>A.st = σ ∧ lowT n ≠ sPre ∧ lowT n ≠ sDep ∧ lowT n ≠ sRcm) ?_ fun B0 ⟨hst0,q00,q01,q02⟩=>?_
 ·refine LoopVC.upto [0,9] (.of (by kernel_rfl)) 3 (fun i A=>A.env 10 = .int .i64 i ∧ A.st = σ ∧ (0 < i → lowT n ≠ sPre) ∧ (1 < i → lowT n ≠ sDep) ∧ (2 < i → lowT n ≠ sRcm)) 0 (Nat.zero_le _) ?_ fun i A hi ⟨h10,hst,m0,m1,m2⟩=>?_
  ·simp only [go_sem,simprocAttr,↓reduceIte]
  have hi3 : i = 0 ∨ i = 1 ∨ i = 2 ∨ i = 3:=by omega
  rcases hi3 with rfl | rfl | rfl | rfl
  ·have hyes:=hy 2 sPre [99,108,97,117,115,101,115] (fun h=>by unfold fkind; simp only [h]; decide) (fun h=>by unfold kindS; rw [h]; rfl)
   simp only [go_sem,simprocAttr,↓reduceIte,h10,hst]
   refine CallA.fn (r4_Same n sPre) ?_
   simp only [go_sem,simprocAttr,↓reduceIte,same_lowR (n:=n) (show sPre.map lowB = sPre by decide),h10,hst]
   first
    | exact hyes
    | exact ⟨hyes,fun h=>by simp_all⟩
  ·have hyes:=hy 2 sDep [99,108,97,117,115,101,115] (fun h=>by unfold fkind; simp only [h]; decide) (fun h=>by unfold kindS; rw [h]; rfl)
   have p0:=m0 (by decide)
   simp only [go_sem,simprocAttr,↓reduceIte,h10,hst]
   refine CallA.fn (r4_Same n sDep) ?_
   simp only [go_sem,simprocAttr,↓reduceIte,same_lowR (n:=n) (show sDep.map lowB = sDep by decide),h10,hst]
   first
    | exact hyes
    | exact ⟨hyes,fun h=>by simp_all⟩
  ·have hyes:=hy 2 sRcm [99,108,97,117,115,101,115] (fun h=>by unfold fkind; simp only [h]; decide) (fun h=>by unfold kindS; rw [h]; rfl)
   have p0:=m0 (by decide)
   have p1:=m1 (by decide)
   simp only [go_sem,simprocAttr,↓reduceIte,h10,hst]
   refine CallA.fn (r4_Same n sRcm) ?_
   simp only [go_sem,simprocAttr,↓reduceIte,same_lowR (n:=n) (show sRcm.map lowB = sRcm by decide),h10,hst]
   first
    | exact hyes
    | exact ⟨hyes,fun h=>by simp_all⟩
  ·simp only [go_sem,simprocAttr,↓reduceIte,h10,hst]
   exact ⟨m0 (by decide),m1 (by decide),m2 (by decide)⟩
 simp only [go_sem,simprocAttr,↓reduceIte,hst0]
 refine LoopVC.at [0] (.of (by kernel_rfl)) (fun A=>A.st = σ ∧ lowT n ≠ sCon ∧ lowT n ≠ sBrk) ?_ fun B1 ⟨hst1,q10,q11⟩=>?_
 ·refine LoopVC.upto [0,17] (.of (by kernel_rfl)) 2 (fun i A=>A.env 18 = .int .i64 i ∧ A.st = σ ∧ (0 < i → lowT n ≠ sCon) ∧ (1 < i → lowT n ≠ sBrk)) 0 (Nat.zero_le _) ?_ fun i A hi ⟨h10,hst,m0,m1⟩=>?_
  ·simp only [go_sem,simprocAttr,↓reduceIte,hst0]
  have hi3 : i = 0 ∨ i = 1 ∨ i = 2:=by omega
  rcases hi3 with rfl | rfl | rfl
  ·have hyes:=hy 3 sCon [97,116,111,109,115] (fun h=>by unfold fkind; simp only [h]; decide) (fun h=>by unfold kindS; rw [h]; rfl)
   simp only [go_sem,simprocAttr,↓reduceIte,h10,hst]
   refine CallA.fn (r4_Same n sCon) ?_
   simp only [go_sem,simprocAttr,↓reduceIte,same_lowR (n:=n) (show sCon.map lowB = sCon by decide),h10,hst]
   first
    | exact hyes
    | exact ⟨hyes,fun h=>by simp_all⟩
  ·have hyes:=hy 3 sBrk [97,116,111,109,115] (fun h=>by unfold fkind; simp only [h]; decide) (fun h=>by unfold kindS; rw [h]; rfl)
   have p0:=m0 (by decide)
   simp only [go_sem,simprocAttr,↓reduceIte,h10,hst]
   refine CallA.fn (r4_Same n sBrk) ?_
   simp only [go_sem,simprocAttr,↓reduceIte,same_lowR (n:=n) (show sBrk.map lowB = sBrk by decide),h10,hst]
   first
    | exact hyes
    | exact ⟨hyes,fun h=>by simp_all⟩
  ·simp only [go_sem,simprocAttr,↓reduceIte,h10,hst]
   exact ⟨m0 (by decide),m1 (by decide)⟩
 simp only [go_sem,simprocAttr,↓reduceIte,hst1]
 refine LoopVC.at [0] (.of (by kernel_rfl)) (fun A=>A.st = σ ∧ lowT n ≠ sEss ∧ lowT n ≠ sHold ∧ lowT n ≠ sConf) ?_ fun B2 ⟨hst2,q20,q21,q22⟩=>?_
 ·refine LoopVC.upto [0,25] (.of (by kernel_rfl)) 3 (fun i A=>A.env 26 = .int .i64 i ∧ A.st = σ ∧ (0 < i → lowT n ≠ sEss) ∧ (1 < i → lowT n ≠ sHold) ∧ (2 < i → lowT n ≠ sConf)) 0 (Nat.zero_le _) ?_ fun i A hi ⟨h10,hst,m0,m1,m2⟩=>?_
  ·simp only [go_sem,simprocAttr,↓reduceIte,hst1]
  have hi3 : i = 0 ∨ i = 1 ∨ i = 2 ∨ i = 3:=by omega
  rcases hi3 with rfl | rfl | rfl | rfl
  ·have hyes:=hy 5 sEss [121,101,115] (fun h=>by unfold fkind; simp only [h]; decide) (fun h=>by unfold kindS; rw [h]; rfl)
   simp only [go_sem,simprocAttr,↓reduceIte,h10,hst]
   refine CallA.fn (r4_Same n sEss) ?_
   simp only [go_sem,simprocAttr,↓reduceIte,same_lowR (n:=n) (show sEss.map lowB = sEss by decide),h10,hst]
   first
    | exact hyes
    | exact ⟨hyes,fun h=>by simp_all⟩
  ·have hyes:=hy 5 sHold [121,101,115] (fun h=>by unfold fkind; simp only [h]; decide) (fun h=>by unfold kindS; rw [h]; rfl)
   have p0:=m0 (by decide)
   simp only [go_sem,simprocAttr,↓reduceIte,h10,hst]
   refine CallA.fn (r4_Same n sHold) ?_
   simp only [go_sem,simprocAttr,↓reduceIte,same_lowR (n:=n) (show sHold.map lowB = sHold by decide),h10,hst]
   first
    | exact hyes
    | exact ⟨hyes,fun h=>by simp_all⟩
  ·have hyes:=hy 5 sConf [121,101,115] (fun h=>by unfold fkind; simp only [h]; decide) (fun h=>by unfold kindS; rw [h]; rfl)
   have p0:=m0 (by decide)
   have p1:=m1 (by decide)
   simp only [go_sem,simprocAttr,↓reduceIte,h10,hst]
   refine CallA.fn (r4_Same n sConf) ?_
   simp only [go_sem,simprocAttr,↓reduceIte,same_lowR (n:=n) (show sConf.map lowB = sConf by decide),h10,hst]
   first
    | exact hyes
    | exact ⟨hyes,fun h=>by simp_all⟩
  ·simp only [go_sem,simprocAttr,↓reduceIte,h10,hst]
   exact ⟨m0 (by decide),m1 (by decide),m2 (by decide)⟩
 simp only [go_sem,simprocAttr,↓reduceIte,hst2]
 refine CallA.fn (r4_Same n sProv) ?_
 simp only [go_sem,simprocAttr,↓reduceIte,same_lowR (n:=n) (show sProv.map lowB = sProv by decide),hst2]
 refine ⟨hy 4 sProv [112,114,111,118,105,100,101,115] (fun h=>by unfold fkind; simp only [h]; decide) (fun h=>by unfold kindS; rw [h]; rfl),fun h1=>?_⟩
 refine CallA.fn (r4_Same n sPrio) ?_
 simp only [go_sem,simprocAttr,↓reduceIte,same_lowR (n:=n) (show sPrio.map lowB = sPrio by decide),hst2]
 refine ⟨hy 6 sPrio [99,111,117,110,116] (fun h=>by unfold fkind; simp only [h]; decide) (fun h=>by unfold kindS; rw [h]; rfl),fun h2=>weak_str ?_⟩
 have hk : fkind n = 0 ∨ fkind n = 1 ∨ fkind n = 7:=by
  unfold fkind
  by_cases z0 : lowT n = sPackage
  ·exact .inl (if_pos z0)
  ·by_cases z1 : lowT n = sVersion
   ·exact .inr (.inl (by rw [if_neg z0,if_pos z1]))
   ·right; right
    simp only [z0,z1,q00,q01,q02,q10,q11,q20,q21,q22,h1,h2,or_self,if_false]
 unfold kindS
 rcases hk with h | h | h <;> rw [h] <;> rfl
end Go.Proofs.Tryz
end
section
namespace Go.Proofs.Tryz
open Go Go.Av
set_option maxRecDepth 10000
variable {W0 : World}
def r9V (k : List UInt8) : ValN → AV
 | .text s=>.agg 126 [.str k,.str s,.int .i64 0,.bool false,clausesAV [],atomsAV [],provsAV []]
 | .count n=>.agg 126 [.str k,.str [],.int .i64 n,.bool false,clausesAV [],atomsAV [],provsAV []]
 | .yes b=>.agg 126 [.str k,.str [],.int .i64 0,.bool b,clausesAV [],atomsAV [],provsAV []]
 | .cls l=>.agg 126 [.str k,.str [],.int .i64 0,.bool false,clausesAV l,atomsAV [],provsAV []]
 | .atoms l=>.agg 126 [.str k,.str [],.int .i64 0,.bool false,clausesAV [],atomsAV l,provsAV []]
 | .provs l=>.agg 126 [.str k,.str [],.int .i64 0,.bool false,clausesAV [],atomsAV [],provsAV l]
def r9R (n s : List UInt8) : AV:=match readV n s with
 | .ok v=>.tup [r9V (kindS n) v,.int .i64 0]
 | .error e=>.tup [r9V [] (.text []),.int .i64 e]
theorem sub_v {k t : AV} {c y : AV} {x1 x2 x3 y1 y2 y3 : AV} (h1 : Sub x1 y1) (h2 : Sub x2 y2) (h3 : Sub x3 y3) : Sub (.agg 126 [k,t,c,y,x1,x2,x3]) (.agg 126 [k,t,c,y,y1,y2,y3]):=.agg rfl fun i a b ha hb=>by
 match i,ha,hb with
 | 0,ha,hb | 1,ha,hb | 2,ha,hb | 3,ha,hb=>cases ha; cases hb; exact .refl _
 | 4,ha,hb=>cases ha; cases hb; exact h1
 | 5,ha,hb=>cases ha; cases hb; exact h2
 | 6,ha,hb=>cases ha; cases hb; exact h3
theorem ids_r9V (k : List UInt8) (v : ValN) : IdsLt 0 (r9V k v):=by
 cases v <;> (refine .agg fun x hx=>?_; simp at hx; rcases hx with rfl | rfl | rfl | rfl | rfl | rfl | rfl <;> first | exact .str _ | exact .int _ _ | exact .bool _ | exact ids_clauses _ | exact ids_atoms _ | exact ids_provs _)
theorem ids_r9R (n s : List UInt8) : IdsLt 0 (r9R n s):=by
 unfold r9R
 split
 ·exact .tup2 (ids_r9V _ _) (.int _ _)
 ·exact .tup2 (ids_r9V _ _) (.int _ _)
theorem r9_read (n s : List UInt8) (hsl : s.length ≤ 1048574) : PureFn prog W0 88 [.str n,.str s] (r9R n s):=by
 refine fn_pureM [.cell 4 126,.tmp 5] [] func88 rfl rfl ntmps88 rfl rfl (ids_r9R n s) fun hs σ=>?_
 simp only [go_sem,simprocAttr,↓reduceIte]
 refine CallA.fn (r9_sort n) ?_
 unfold r9R readV kindS
 by_cases h2 : fkind n = 2
 ·rw [h2]
  simp only [go_sem,simprocAttr,↓reduceIte]
  refine CallA.fn (r4_Relation s hsl) ?_
  generalize relP anyOk false s = q at *
  obtain ⟨l,e⟩:=q
  simp only [go_sem,simprocAttr,↓reduceIte,clausesAV]
  refine ⟨fun he=>EndM.ret ?_,fun he=>EndM.ret ?_⟩
  ·rw [if_neg he]
   simp only [go_sem,simprocAttr,↓reduceIte]
   exact weak_tup2 (.sub (sub_v (.nils _) (.nils _) (.nils _))) (.refl _)
  ·rw [if_pos he]
   simp only [go_sem,simprocAttr,↓reduceIte]
   rw [he]
   exact weak_tup2 (.sub (sub_v (.refl _) (.nils _) (.nils _))) (.refl _)
 by_cases h3 : fkind n = 3
 ·rw [h3]
  simp only [go_sem,simprocAttr,↓reduceIte]
  refine ⟨fun h=>absurd h (by decide),fun _=>?_⟩
  refine CallA.fn (r4_AtomList s hsl) ?_
  generalize relP anyOk true s = q at *
  obtain ⟨l,e⟩:=q
  simp only [go_sem,simprocAttr,↓reduceIte,atomsAV]
  refine ⟨fun he=>EndM.ret ?_,fun he=>EndM.ret ?_⟩
  ·rw [if_neg he]
   simp only [go_sem,simprocAttr,↓reduceIte]
   exact weak_tup2 (.sub (sub_v (.nils _) (.nils _) (.nils _))) (.refl _)
  ·rw [if_pos he]
   simp only [go_sem,simprocAttr,↓reduceIte]
   rw [he]
   exact weak_tup2 (.sub (sub_v (.nils _) (.refl _) (.nils _))) (.refl _)
 by_cases h4 : fkind n = 4
 ·rw [h4]
  simp only [go_sem,simprocAttr,↓reduceIte]
  refine ⟨fun h=>absurd h (by decide),fun _=>⟨fun h=>absurd h (by decide),fun _=>?_⟩⟩
  refine CallA.fn (r4_ProvideList s hsl) ?_
  generalize relP provOk true s = q at *
  obtain ⟨l,e⟩:=q
  simp only [go_sem,simprocAttr,↓reduceIte,provsAV]
  refine ⟨fun he=>EndM.ret ?_,fun he=>EndM.ret ?_⟩
  ·rw [if_neg he]
   simp only [go_sem,simprocAttr,↓reduceIte]
   exact weak_tup2 (.sub (sub_v (.nils _) (.nils _) (.nils _))) (.refl _)
  ·rw [if_pos he]
   simp only [go_sem,simprocAttr,↓reduceIte]
   rw [he]
   exact weak_tup2 (.sub (sub_v (.nils _) (.nils _) (.refl _))) (.refl _)
 by_cases h5 : fkind n = 5
 ·rw [h5]
  simp only [go_sem,simprocAttr,↓reduceIte]
  refine ⟨fun h=>absurd h (by decide),fun _=>⟨fun h=>absurd h (by decide),fun _=>⟨fun h=>absurd h (by decide),fun _=>?_⟩⟩⟩
  by_cases hy : s = sYes
  ·subst hy
   refine ⟨fun h=>absurd h (by decide),fun _=>EndM.ret ?_⟩
   simp only [go_sem,simprocAttr,↓reduceIte]
   exact weak_tup2 (.sub (sub_v (.nils _) (.nils _) (.nils _))) (.refl _)
  ·by_cases hn : s = sNo
   ·subst hn
    refine ⟨fun h=>absurd h (by decide),fun _=>EndM.ret ?_⟩
    simp only [go_sem,simprocAttr,↓reduceIte]
    exact weak_tup2 (.sub (sub_v (.nils _) (.nils _) (.nils _))) (.refl _)
   ·refine ⟨fun _=>EndM.ret ?_,fun h=>absurd h (by simp [hy,hn])⟩
    rw [if_neg hy,if_neg hn]
    simp only [go_sem,simprocAttr,↓reduceIte]
    exact weak_tup2 (.sub (sub_v (.nils _) (.nils _) (.nils _))) (.refl _)
 by_cases h6 : fkind n = 6
 ·rw [h6]
  simp only [go_sem,simprocAttr,↓reduceIte]
  refine ⟨fun h=>absurd h (by decide),fun _=>⟨fun h=>absurd h (by decide),fun _=>⟨fun h=>absurd h (by decide),fun _=>⟨fun h=>absurd h (by decide),fun _=>?_⟩⟩⟩⟩
  refine CallA.fn (r4_number s) ?_
  unfold numAV
  cases numT s with
  | none =>
   simp only [go_sem,simprocAttr,↓reduceIte]
   refine EndM.ret ?_
   simp only [go_sem,simprocAttr,↓reduceIte]
   exact weak_tup2 (.sub (sub_v (.nils _) (.nils _) (.nils _))) (.refl _)
  | some m =>
   simp only [go_sem,simprocAttr,↓reduceIte]
   refine EndM.ret ?_
   simp only [go_sem,simprocAttr,↓reduceIte]
   exact weak_tup2 (.sub (sub_v (.nils _) (.nils _) (.nils _))) (.refl _)
 have hk : fkind n = 0 ∨ fkind n = 1 ∨ 7 ≤ fkind n:=by omega
 have g0 : fkind n = 0 ↔ lowT n = sPackage:=by
  unfold fkind
  by_cases z : lowT n = sPackage
  ·simp [z]
  ·rw [if_neg z]
   refine ⟨fun h=>?_,fun h=>absurd h z⟩
   repeat' split at h
   all_goals omega
 have g1 : fkind n = 1 ↔ lowT n = sVersion:=by
  unfold fkind
  by_cases z : lowT n = sPackage
  ·rw [if_pos z,z]; decide
  ·rw [if_neg z]
   by_cases z1 : lowT n = sVersion
   ·simp [z1]
   ·rw [if_neg z1]
    refine ⟨fun h=>?_,fun h=>absurd h z1⟩
    repeat' split at h
    all_goals omega
 have hsp:=same_lowR (n:=n) (show sPackage.map lowB = sPackage by decide)
 have hsv:=same_lowR (n:=n) (show sVersion.map lowB = sVersion by decide)
 by_cases z0 : lowT n = sPackage
 ·rw [g0.2 z0]
  have hd : decide (lowT n = sPackage) = true:=decide_eq_true z0
  simp only [go_sem,simprocAttr,↓reduceIte]
  refine ⟨fun h=>absurd h (by decide),fun _=>⟨fun h=>absurd h (by decide),fun _=>⟨fun h=>absurd h (by decide),fun _=>⟨fun h=>absurd h (by decide),fun _=>⟨fun h=>absurd h (by decide),fun _=>?_⟩⟩⟩⟩⟩
  refine CallA.fn (r4_Same n sPackage) ?_
  have hd2 : decide (lowT n = sVersion) = false:=decide_eq_false (by rw [z0]; decide)
  simp only [go_sem,simprocAttr,↓reduceIte,hsp,hd]
  refine CallP.fnG (fun _=>r4_name s) ?_
  cases hn : nameOk s
  ·simp only [go_sem,simprocAttr,↓reduceIte,hn,pickV_f]
   refine CallP.fnG (r:=.bool false) (fun h=>(Bool.false_ne_true h).elim) ?_
   simp only [go_sem,simprocAttr,↓reduceIte,hn,pickV_f]
   refine CallP.fnG (r:=.bool false) (fun h=>(Bool.false_ne_true h).elim) ?_
   simp only [go_sem,simprocAttr,↓reduceIte,hn,pickV_f]
   refine EndM.ret ?_
   simp only [go_sem,simprocAttr,↓reduceIte]
   exact weak_tup2 (.sub (sub_v (.nils _) (.nils _) (.nils _))) (.refl _)
  ·simp only [go_sem,simprocAttr,↓reduceIte,hn,pickV_f]
   refine CallP.fnG (fun _=>r4_Same n sVersion) ?_
   simp only [go_sem,simprocAttr,↓reduceIte,hn,hsv,hd2,pickV_f]
   refine CallP.fnG (r:=.bool false) (fun h=>(Bool.false_ne_true h).elim) ?_
   simp only [go_sem,simprocAttr,↓reduceIte,hn,pickV_f]
   refine EndM.ret ?_
   simp only [go_sem,simprocAttr,↓reduceIte]
   exact weak_tup2 (.sub (sub_v (.nils _) (.nils _) (.nils _))) (.refl _)
 have hd : decide (lowT n = sPackage) = false:=decide_eq_false z0
 by_cases z1 : lowT n = sVersion
 ·rw [g1.2 z1]
  have hd2 : decide (lowT n = sVersion) = true:=decide_eq_true z1
  simp only [go_sem,simprocAttr,↓reduceIte]
  refine ⟨fun h=>absurd h (by decide),fun _=>⟨fun h=>absurd h (by decide),fun _=>⟨fun h=>absurd h (by decide),fun _=>⟨fun h=>absurd h (by decide),fun _=>⟨fun h=>absurd h (by decide),fun _=>?_⟩⟩⟩⟩⟩
  refine CallA.fn (r4_Same n sPackage) ?_
  simp only [go_sem,simprocAttr,↓reduceIte,hsp,hd]
  refine CallP.fnG (r:=.bool false) (fun h=>(Bool.false_ne_true h).elim) ?_
  simp only [go_sem,simprocAttr,↓reduceIte,hsp,hd,pickV_f]
  refine CallP.fnG (fun _=>r4_Same n sVersion) ?_
  simp only [go_sem,simprocAttr,↓reduceIte,hsv,hd2,pickV_f]
  refine CallP.fnG (fun _=>r4_is s) ?_
  cases hn : isVer s
  ·simp only [go_sem,simprocAttr,↓reduceIte,hn,pickV_f]
   refine EndM.ret ?_
   simp only [go_sem,simprocAttr,↓reduceIte]
   exact weak_tup2 (.sub (sub_v (.nils _) (.nils _) (.nils _))) (.refl _)
  ·simp only [go_sem,simprocAttr,↓reduceIte,hn,pickV_f]
   refine EndM.ret ?_
   simp only [go_sem,simprocAttr,↓reduceIte]
   exact weak_tup2 (.sub (sub_v (.nils _) (.nils _) (.nils _))) (.refl _)
 have hd2 : decide (lowT n = sVersion) = false:=decide_eq_false z1
 obtain ⟨m,hm⟩ : ∃ m,fkind n = m + 7:=⟨fkind n - 7,by have:=mt g0.1 z0; have:=mt g1.1 z1; omega⟩
 rw [hm]
 simp only [go_sem,simprocAttr,↓reduceIte]
 refine ⟨fun h=>absurd h (by decide),fun _=>⟨fun h=>absurd h (by decide),fun _=>⟨fun h=>absurd h (by decide),fun _=>⟨fun h=>absurd h (by decide),fun _=>⟨fun h=>absurd h (by decide),fun _=>?_⟩⟩⟩⟩⟩
 refine CallA.fn (r4_Same n sPackage) ?_
 simp only [go_sem,simprocAttr,↓reduceIte,hsp,hd]
 refine CallP.fnG (r:=.bool false) (fun h=>(Bool.false_ne_true h).elim) ?_
 simp only [go_sem,simprocAttr,↓reduceIte,hsp,hd,pickV_f]
 refine CallP.fnG (fun _=>r4_Same n sVersion) ?_
 simp only [go_sem,simprocAttr,↓reduceIte,hsv,hd2,pickV_f]
 refine CallP.fnG (r:=.bool false) (fun h=>(Bool.false_ne_true h).elim) ?_
 simp only [go_sem,simprocAttr,↓reduceIte,pickV_f]
 refine EndM.ret ?_
 simp only [go_sem,simprocAttr,↓reduceIte]
 exact weak_tup2 (.sub (sub_v (.nils _) (.nils _) (.nils _))) (.refl _)
end Go.Proofs.Tryz
end
section
namespace Go.Av
def readG (status : Bool) : List Fld → List Fld → Nat → Acc → Acc × Option (Int × Nat)
 | _,[],_,x=>(x,none)
 | seen,f :: r,b,x=>match readV f.name (foldT f.lines) with
  | .error e=>(x,some (e,b))
  | .ok v=>if badSt status f.name v = true then (x,some (3,b)) else readG status (seen ++ [f]) r (b + f.lines.length) (if hasF seen f.name = true then x else putV f.name v x)
theorem readF_G (st : Bool) : ∀ (r seen : List Fld) (b : Nat) (x : Acc),readF st seen r b x = match readG st seen r b x with | (x,none)=>.ok x | (_,some e)=>.error e
 | [],_,_,_=>rfl
 | f :: r,seen,b,x=>by
  rw [readF,readG]
  cases readV f.name (foldT f.lines) with
  | error e=>rfl
  | ok v =>
   simp only
   split
   ·rfl
   ·exact readF_G st r _ _ _
theorem readG_err (st : Bool) : ∀ (r seen : List Fld) (b : Nat) (x y : Acc) (e : Int) (b' : Nat),readG st seen r b x = (y,some (e,b')) → e ≠ 0
 | [],_,_,_,_,_,_,h=>by simp [readG] at h
 | f :: r,seen,b,x,y,e,b',h=>by
  rw [readG] at h
  cases hv : readV f.name (foldT f.lines) with
  | error e1 =>
   rw [hv] at h
   simp only [Prod.mk.injEq,Option.some.injEq] at h
   obtain ⟨_,rfl,_⟩:=h
   exact readV_err hv
  | ok v =>
   rw [hv] at h
   simp only at h
   split at h
   ·simp only [Prod.mk.injEq,Option.some.injEq] at h
    obtain ⟨_,rfl,_⟩:=h
    decide
   ·exact readG_err st r _ _ _ _ _ _ h
def readR (s : Stz) (status : Bool) : Pkg × EntN × (Int × Int):=match readG status [] s.fields 0 acc0 with
 | (x,some (e,b))=>(x.ent.pkg,⟨pkg0,x.ent.conf,x.ent.hold⟩,(e,lineT s.line b))
 | (x,none)=>if x.n = false ∨ x.v = false ∨ (status = true ∧ x.s = false) then (x.ent.pkg,⟨pkg0,x.ent.conf,x.ent.hold⟩,(5,s.line)) else (x.ent.pkg,x.ent,(0,0))
theorem readR_at (s : Stz) (st : Bool) : (readR s st).2.2 = (readE s st).2:=by
 unfold readR readE
 rw [readF_G]
 generalize readG st [] s.fields 0 acc0 = q
 obtain ⟨x,_ | ⟨e,b⟩⟩:=q
 ·simp only
  split <;> rfl
 ·rfl
theorem readR_ok (s : Stz) (st : Bool) (h : (readE s st).2.1 = 0) : (readR s st).2.1 = (readE s st).1 ∧ (readR s st).1 = (readE s st).1.pkg:=by
 unfold readR
 unfold readE at h ⊢
 rw [readF_G] at h ⊢
 have he:=readG_err st s.fields [] 0 acc0
 generalize readG st [] s.fields 0 acc0 = q at *
 obtain ⟨x,_ | ⟨e,b⟩⟩:=q
 ·simp only at h ⊢
  by_cases hc : x.n = false ∨ x.v = false ∨ (st = true ∧ x.s = false)
  ·rw [if_pos hc] at h
   exact absurd (show (5 : Int) = 0 from h) (by decide)
  ·rw [if_neg hc,if_neg hc]
   exact ⟨rfl,rfl⟩
 ·exact absurd h (he _ _ _ rfl)
theorem readE_pkg0 (s : Stz) (st : Bool) (h : (readE s st).2.1 ≠ 0) : (readE s st).1 = ent0:=by
 unfold readE at h ⊢
 cases hr : readF st [] s.fields 0 acc0 with
 | error e=>rfl
 | ok x =>
  rw [hr] at h
  simp only at h ⊢
  split
  ·rfl
  ·rename_i hc
   rw [if_neg hc] at h
   exact absurd rfl h
structure AccOk (x : Acc) : Prop where
 n : x.n = true ↔ x.ent.pkg.name ≠ []
 v : x.v = true ↔ x.ent.pkg.ver ≠ []
theorem readV_pkg {n s : List UInt8} {v : ValN} (h : lowT n = sPackage) (hv : readV n s = .ok v) : v.txt ≠ []:=by
 have hk : fkind n = 0:=by unfold fkind; rw [if_pos h]
 unfold readV at hv
 rw [hk] at hv
 simp only at hv
 split at hv
 ·rename_i hn
  cases hv
  rintro rfl
  exact absurd hn (by decide)
 ·cases hv
theorem readV_ver {n s : List UInt8} {v : ValN} (h : lowT n = sVersion) (hv : readV n s = .ok v) : v.txt ≠ []:=by
 have hk : fkind n = 1:=by unfold fkind; rw [if_neg (by rw [h]; decide),if_pos h]
 unfold readV at hv
 rw [hk] at hv
 simp only at hv
 split at hv
 ·rename_i hn
  cases hv
  rintro rfl
  exact absurd hn (by decide)
 ·cases hv
theorem AccOk.put {x : Acc} {n s : List UInt8} {v : ValN} (h : AccOk x) (hv : readV n s = .ok v) : AccOk (putV n v x):=by
 unfold putV
 by_cases h0 : lowT n = sPackage
 ·rw [if_pos h0]
  exact ⟨⟨fun _=>readV_pkg h0 hv,fun _=>rfl⟩,h.v⟩
 rw [if_neg h0]
 by_cases h1 : lowT n = sVersion
 ·rw [if_pos h1]
  exact ⟨h.n,⟨fun _=>readV_ver h1 hv,fun _=>rfl⟩⟩
 rw [if_neg h1]
 by_cases h2 : lowT n = sPre
 ·rw [if_pos h2]
  exact ⟨h.n,h.v⟩
 rw [if_neg h2]
 by_cases h3 : lowT n = sDep
 ·rw [if_pos h3]
  exact ⟨h.n,h.v⟩
 rw [if_neg h3]
 by_cases h4 : lowT n = sRcm
 ·rw [if_pos h4]
  exact ⟨h.n,h.v⟩
 rw [if_neg h4]
 by_cases h5 : lowT n = sCon
 ·rw [if_pos h5]
  exact ⟨h.n,h.v⟩
 rw [if_neg h5]
 by_cases h6 : lowT n = sBrk
 ·rw [if_pos h6]
  exact ⟨h.n,h.v⟩
 rw [if_neg h6]
 by_cases h7 : lowT n = sProv
 ·rw [if_pos h7]
  exact ⟨h.n,h.v⟩
 rw [if_neg h7]
 by_cases h8 : lowT n = sEss
 ·rw [if_pos h8]
  exact ⟨h.n,h.v⟩
 rw [if_neg h8]
 by_cases h9 : lowT n = sHold
 ·rw [if_pos h9]
  exact ⟨h.n,h.v⟩
 rw [if_neg h9]
 by_cases h10 : lowT n = sState
 ·rw [if_pos h10]
  exact ⟨h.n,h.v⟩
 rw [if_neg h10]
 exact h
theorem lineT_add {a : Int} (_ha : a ≤ 9223372036854775807) (b k : Nat) : lineT (lineT a b) k = lineT a (b + k):=by
 unfold lineT
 split <;> split <;> split <;> omega
theorem lineT_le {a : Int} (b : Nat) : lineT a b ≤ 9223372036854775807:=by
 unfold lineT
 split <;> omega
theorem lineT_ge {a : Int} (h : -9223372036854775808 ≤ a) (b : Nat) : -9223372036854775808 ≤ lineT a b:=by
 unfold lineT
 split <;> omega
theorem sameT_trans {a b c : List UInt8} (h : sameT a b = true) : sameT b c = sameT a c:=by
 unfold sameT at *
 rw [of_decide_eq_true h]
end Go.Av
namespace Go.Proofs.Tryz
open Go Go.Av
set_option maxRecDepth 10000
variable {W0 : World}
structure PL where
 a : AV
 b : AV
 c : AV
 d : AV
 e : AV
 f : AV
def pkgW (p : Pkg) (L : PL) : AV:=.agg 33 [.str p.name,.str p.ver,L.a,L.b,L.c,L.d,L.e,L.f,.bool p.ess]
structure PLok (p : Pkg) (L : PL) : Prop where
 a : Sub L.a (clausesAV p.pre)
 b : Sub L.b (clausesAV p.dep)
 c : Sub L.c (clausesAV p.rcm)
 d : Sub L.d (atomsAV p.con)
 e : Sub L.e (atomsAV p.brk)
 f : Sub L.f (provsAV p.prov)
theorem pkgW_okM (p : Pkg) (L : PL) : okM none (pkgW p L) = True:=eq_true trivial
theorem pkgW_unm (p : Pkg) (L : PL) : unm (pkgW p L) = pkgW p L:=rfl
def PL0 : PL:=⟨.nils,.nils,.nils,.nils,.nils,.nils⟩
theorem PLok0 : PLok pkg0 PL0:=⟨.nils _,.nils _,.nils _,.nils _,.nils _,.nils _⟩
theorem sub_pkgW {p : Pkg} {L : PL} (h : PLok p L) : Sub (pkgW p L) (pkgAV p):=.agg rfl fun i a b ha hb=>by
 match i,ha,hb with
 | 0,ha,hb | 1,ha,hb | 8,ha,hb=>cases ha; cases hb; exact .refl _
 | 2,ha,hb=>cases ha; cases hb; exact h.a
 | 3,ha,hb=>cases ha; cases hb; exact h.b
 | 4,ha,hb=>cases ha; cases hb; exact h.c
 | 5,ha,hb=>cases ha; cases hb; exact h.d
 | 6,ha,hb=>cases ha; cases hb; exact h.e
 | 7,ha,hb=>cases ha; cases hb; exact h.f
theorem sub_entW {p : Pkg} {L : PL} (h : PLok p L) (b c : Bool) : Sub (.agg 46 [pkgW p L,.bool b,.bool c]) (entAV ⟨p,b,c⟩):=.agg rfl fun i x y ha hb=>by
 match i,ha,hb with
 | 0,ha,hb=>cases ha; cases hb; exact sub_pkgW h
 | 1,ha,hb | 2,ha,hb=>cases ha; cases hb; exact .refl _
structure RSt (σ τ : Store) (p x : AV) : Prop where
 c0 : τ[σ.length]? = some (some (.cells 33 [pkgX pkg0]))
 c1 : τ[σ.length + 1]? = some (some (.cells 46 [entX ent0]))
 c2 : τ[σ.length + 2]? = some (some (.cells 36 [atAV (0,0)]))
 c3 : τ[σ.length + 3]? = some (some (.cells 33 [p]))
 c4 : τ[σ.length + 4]? = some (some (.cells 46 [x]))
 ext : Ext σ τ
theorem RSt.fr {σ τ τ' : Store} {p x : AV} {F : List Nat} (h : RSt σ τ p x) (hf : Fr F τ τ') (hF : ∀ j ∈ F,σ.length + 5 ≤ j) : RSt σ τ' p x:=by
 have l4:=(List.getElem?_eq_some_iff.1 h.c4).1
 have key : ∀ j,j ≤ σ.length + 4 → τ'[j]? = τ[j]?:=fun j hj=>hf.old j (by omega) fun hm=>by have:=hF j hm; omega
 exact ⟨(key _ (by omega)).trans h.c0,(key _ (by omega)).trans h.c1,(key _ (by omega)).trans h.c2,(key _ (by omega)).trans h.c3,(key _ (by omega)).trans h.c4,hf.toExt h.ext fun j hj=>by have:=hF j hj; omega⟩
theorem RSt.app {σ τ : Store} {p x : AV} (h : RSt σ τ p x) (l : Store) : RSt σ (τ ++ l) p x:=h.fr (F:=[]) ((Fr.refl _ _).app l) fun j hj=>by cases hj
theorem RSt.setP {σ τ : Store} {p x : AV} (h : RSt σ τ p x) (p' : AV) : RSt σ (τ.set (σ.length + 3) (some (.cells 33 [p']))) p' x:=by
 have l4:=(List.getElem?_eq_some_iff.1 h.c4).1
 exact ⟨(List.getElem?_set_ne (by omega)).trans h.c0,(List.getElem?_set_ne (by omega)).trans h.c1,(List.getElem?_set_ne (by omega)).trans h.c2,List.getElem?_set_self (by omega),(List.getElem?_set_ne (by omega)).trans h.c4,h.ext.set (by omega) _⟩
theorem RSt.setX {σ τ : Store} {p x : AV} (h : RSt σ τ p x) (x' : AV) : RSt σ (τ.set (σ.length + 4) (some (.cells 46 [x']))) p x':=by
 have l4:=(List.getElem?_eq_some_iff.1 h.c4).1
 exact ⟨(List.getElem?_set_ne (by omega)).trans h.c0,(List.getElem?_set_ne (by omega)).trans h.c1,(List.getElem?_set_ne (by omega)).trans h.c2,(List.getElem?_set_ne (by omega)).trans h.c3,List.getElem?_set_self (by omega),h.ext.set (by omega) _⟩
structure R3 (σ τ : Store) : Prop where
 c0 : τ[σ.length]? = some (some (.cells 33 [pkgX pkg0]))
 c1 : τ[σ.length + 1]? = some (some (.cells 46 [entX ent0]))
 c2 : τ[σ.length + 2]? = some (some (.cells 36 [atAV (0,0)]))
 ext : Ext σ τ
theorem RSt.r3 {σ τ : Store} {p x : AV} (h : RSt σ τ p x) : R3 σ ((τ.set (σ.length + 3) none).set (σ.length + 4) none) :=
 ⟨(List.getElem?_set_ne (by omega)).trans ((List.getElem?_set_ne (by omega)).trans h.c0),(List.getElem?_set_ne (by omega)).trans ((List.getElem?_set_ne (by omega)).trans h.c1),(List.getElem?_set_ne (by omega)).trans ((List.getElem?_set_ne (by omega)).trans h.c2),(h.ext.set (Nat.le_add_right _ _) _).set (Nat.le_add_right _ _) _⟩
theorem RSt.c4' {σ τ : Store} {p x : AV} (h : RSt σ τ p x) : (τ.set (σ.length + 3) none)[σ.length + 4]? = some (some (.cells 46 [x])):=(List.getElem?_set_ne (by omega)).trans h.c4
theorem s3_0 {τ : Store} {L : Nat} (h : L + 2 < τ.length) (te : TypeId) (xs : List AV) (o' o'' : Option SObj) : (((τ.set L (some (.cells te xs))).set (L + 1) o').set (L + 2) o'')[L]? = some (some (.cells te xs)):=by
 rw [List.getElem?_set_ne (by omega),List.getElem?_set_ne (by omega),List.getElem?_set_self (by omega)]
theorem s3_1 {τ : Store} {L : Nat} (h : L + 2 < τ.length) (te : TypeId) (xs : List AV) (o o'' : Option SObj) : (((τ.set L o).set (L + 1) (some (.cells te xs))).set (L + 2) o'')[L + 1]? = some (some (.cells te xs)):=by
 rw [List.getElem?_set_ne (by omega),List.getElem?_set_self (by simp; omega)]
theorem s3_2 {τ : Store} {L : Nat} (h : L + 2 < τ.length) (te : TypeId) (xs : List AV) (o o' : Option SObj) : (((τ.set L o).set (L + 1) o').set (L + 2) (some (.cells te xs)))[L + 2]? = some (some (.cells te xs)):=by
 rw [List.getElem?_set_self (by simp; omega)]
theorem s3_n1 {τ : Store} {L : Nat} {x : Option (Option SObj)} (h : τ[L + 1]? = x) (o : Option SObj) : (τ.set L o)[L + 1]? = x:=(List.getElem?_set_ne (by omega)).trans h
theorem s3_n2 {τ : Store} {L : Nat} {x : Option (Option SObj)} (h : τ[L + 2]? = x) (o o' : Option SObj) : ((τ.set L o).set (L + 1) o')[L + 2]? = x:=(List.getElem?_set_ne (by omega)).trans ((List.getElem?_set_ne (by omega)).trans h)
def RI (s : Stz) (status : Bool) (σ : Store) (i : Nat) (A : AState) : Prop:=∃ (x : Acc) (b : Nat) (ns : List (List UInt8)) (sv : AV) (L : PL),
 (A.env 9 = sv ∧ A.env 10 = .bool x.s ∧ A.env 11 = .int .i64 (lineT s.line b) ∧ A.env 7 = .ptr 33 (σ.length + 3) 0 [] ∧ A.env 8 = .ptr 46 (σ.length + 4) 0 []) ∧ RSt σ A.st (pkgW x.ent.pkg L) (entX ⟨pkg0,x.ent.conf,x.ent.hold⟩) ∧ PLok x.ent.pkg L ∧ AccOk x ∧ Bld A.st sv 9 (ns.map .str) ∧ (∀ t ∈ foot sv,σ.length + 5 ≤ t) ∧ ns.length ≤ i ∧
 (∀ n,(ns.any fun m=>sameT m n) = hasF (s.fields.take i) n) ∧ b + ((s.fields.drop i).map fun f=>f.lines.length).sum ≤ 1048574 ∧ readG status (s.fields.take i) (s.fields.drop i) b x = readG status [] s.fields 0 acc0
theorem r9V_eq (k : List UInt8) (v : ValN) : ∃ c : Int,r9V k v = .agg 126 [.str k,.str v.txt,.int .i64 c,.bool v.isYes,clausesAV v.cl,atomsAV v.at,provsAV v.pr]:=by
 cases v with
 | count n=>exact ⟨n,rfl⟩
 | _=>exact ⟨0,rfl⟩
theorem r9_readS (s : Stz) (status : Bool) (hln : -9223372036854775808 ≤ s.line) (hln2 : s.line ≤ 9223372036854775807) (hfl : s.fields.length ≤ 1048576) (hsz : (s.fields.map fun f=>sumL f.lines + f.lines.length).sum ≤ 1048574) :
  PureFn prog W0 39 [stzAV s,.bool status] (.tup [pkgAV (readR s status).1,entAV (readR s status).2.1,atAV (readR s status).2.2]):=by
 refine fn_pureM [.cell 4 33,.cell 5 46,.cell 6 36] [2,13,32,34,179,2000014,4000009,2000015,6000007,6000008] func39 rfl rfl ntmps39 rfl rfl (ids_tup3 (ids_pkg _) (ids_ent _) (ids_at _)) fun hs σ=>?_
 simp only [go_sem,simprocAttr,↓reduceIte,stzAV,fldsAV,List.length_map]
 have hmem : ∀ f ∈ s.fields,sumL f.lines + f.lines.length ≤ 1048574:=fun f hf=>Nat.le_trans (sum_ge (g:=fun f : Fld=>sumL f.lines + f.lines.length) hf) hsz
 refine LoopVC.at [1,2,4,5,6] (.of (by kernel_rfl)) (fun A=>RI s status σ s.fields.length A) ?_ fun B hB=>?_
 ·refine LoopVC.upto [1,2,4,5,6,25,26] (.of (by kernel_rfl)) s.fields.length (fun i A=>A.env 27 = .int .i64 i ∧ RI s status σ i A) 0 (Nat.zero_le _) ?_ fun i B hi ⟨h27,x,b,ns,sv,L,⟨h9,h10,h11,h7,h8⟩,hR,hL,hA,hbl,hft,hnl,hns,hsm,hG⟩=>?_
  ·simp only [go_sem,simprocAttr,↓reduceIte]
   refine ⟨acc0,0,[],.nils,PL0,⟨rfl,rfl,?_,rfl,rfl⟩,?_,PLok0,?_,.inl ⟨rfl,rfl⟩,fun t ht=>by simp [foot] at ht,Nat.le_refl _,fun n=>rfl,?_,rfl⟩
   ·have h0 : lineT s.line 0 = s.line:=by unfold lineT; split <;> omega
    rw [h0]
    simp only [go_sem,simprocAttr,↓reduceIte]
   ·simp only [go_sem,simprocAttr,↓reduceIte]
    exact ⟨by simp; rfl,by simp; rfl,by simp; rfl,by simp; rfl,by simp; rfl,(Ext.refl _).app _⟩
   ·exact ⟨by decide,by decide⟩
   ·have:=sum_le (g:=fun f : Fld=>f.lines.length) (h:=fun f : Fld=>sumL f.lines + f.lines.length) (fun f=>by omega) s.fields
    simp; omega
  have hfp : fitsB prog 33 (pkgW x.ent.pkg L) = true:=by unfold pkgW; kernel_rfl
  have hfx : fitsB prog 46 (entX ⟨pkg0,x.ent.conf,x.ent.hold⟩) = true:=by unfold entX pkgX; kernel_rfl
  simp only [go_sem,simprocAttr,↓reduceIte,h27,h9,h10,h11,h7,h8]
  refine ⟨fun hc=>⟨by rw [List.length_map]; exact hc,?_⟩,fun hc=>?_⟩
  ·obtain ⟨f,hf⟩:=get_some hc
   have hfm:=hmem f (List.mem_of_getElem? hf)
   simp only [atV_map hf]
   simp only [go_sem,simprocAttr,↓reduceIte,fldAV]
   refine ⟨.of (by kernel_rfl),.no (by kernel_rfl) ?_⟩
   simp only [go_sem,simprocAttr,↓reduceIte]
   refine CallP.fn (r4_Fold f.lines (by omega)) ?_
   simp only [go_sem,simprocAttr,↓reduceIte]
   have hrl : (foldT f.lines).length ≤ 1048574:=Nat.le_trans (foldT_len _) hfm
   refine CallP.fn (r9_read f.name (foldT f.lines) hrl) ?_
   have hd : s.fields.drop i = f :: s.fields.drop (i + 1):=by rw [List.drop_eq_getElem_cons hc]; congr 1; exact (List.getElem?_eq_some_iff.1 hf).2
   rw [hd,readG] at hG
   unfold r9R
   cases hv : readV f.name (foldT f.lines) with
   | error e =>
    rw [hv] at hG
    simp only at hG
    have hne : e ≠ 0:=readV_err hv
    have hb : (e == 0) = false:=beq_eq_false_iff_ne.2 hne
    simp only [go_sem,simprocAttr,↓reduceIte,r9V,hb]
    refine CallP.fnG (r:=.bool false) (fun h=>(Bool.false_ne_true h).elim) ?_
    simp only [go_sem,simprocAttr,↓reduceIte,hb]
    have hτ:=hR.app [none,some (.cells 126 [.agg 126 [.str [],.str [],.int .i64 0,.bool false,clausesAV [],atomsAV [],provsAV []]])]
    generalize hT : B.st ++ [none,some (SObj.cells 126 [.agg 126 [.str [],.str [],.int .i64 0,.bool false,clausesAV [],atomsAV [],provsAV []]])] = τ at *
    refine JoinVC.both (fun hh=>by cases hh) fun _=>?_
    simp only [go_sem,simprocAttr,↓reduceIte,hb]
    refine ⟨fun _=>⟨.of (by kernel_rfl),?_⟩,fun h0=>absurd h0 hne⟩
    refine .of [7,8] (by kernel_rfl) (YldA.step (t:=33) (id:=σ.length + 3) (z:=pkgW x.ent.pkg L) (by simp only [go_sem,simprocAttr,↓reduceIte,h7]) (by simp only [go_sem,simprocAttr,↓reduceIte,hT]; exact hτ.c3) (YldA.step (t:=46) (id:=σ.length + 4) (z:=entX ⟨pkg0,x.ent.conf,x.ent.hold⟩) (by simp only [go_sem,simprocAttr,↓reduceIte,h8]) (by simp only [go_sem,simprocAttr,↓reduceIte,hT]; exact hτ.c4') (.done ?_)))
    have h3:=hτ.r3
    generalize hT3 : (τ.set (σ.length + 3) none).set (σ.length + 4) none = τ3 at *
    have hlt : σ.length + 2 < τ3.length:=by have:=(List.getElem?_eq_some_iff.1 h3.c2).1; omega
    simp only [go_sem,simprocAttr,↓reduceIte,hT,hT3,h7,h8,h11,look_id h3.c0,setLook_id h3.c0,look_id (s3_n1 h3.c1 _),setLook_id (s3_n1 h3.c1 _),look_id (s3_n2 h3.c2 _ _),setLook_id (s3_n2 h3.c2 _ _),pkgW_okM,pkgW_unm,entX_okM,entX_unm,hfp,hfx]
    refine EndM.ret ?_
    simp only [go_sem,simprocAttr,↓reduceIte,look_id (s3_0 hlt _ _ _ _),look_id (s3_1 hlt _ _ _ _),look_id (s3_2 hlt _ _ _ _)]
    have hRr : readR s status = (x.ent.pkg,⟨pkg0,x.ent.conf,x.ent.hold⟩,(e,lineT s.line b)):=by unfold readR; rw [← hG]
    rw [hRr]
    exact ⟨weak_tup3 (.sub (sub_pkgW hL)) (.sub (entX_sub _)) (.refl _),((h3.ext.set (Nat.le_refl _) _).set (Nat.le_add_right _ _) _).set (Nat.le_add_right _ _) _⟩
   | ok v =>
    rw [hv] at hG
    simp only at hG
    obtain ⟨c,hV⟩:=r9V_eq (kindS f.name) v
    simp only [hV]
    simp only [go_sem,simprocAttr,↓reduceIte]
    refine CallP.fnG (fun _=>r4_Same f.name sState) ?_
    simp only [go_sem,simprocAttr,↓reduceIte]
    have hτ:=hR.app [none,some (.cells 126 [.agg 126 [.str (kindS f.name),.str v.txt,.int .i64 c,.bool v.isYes,clausesAV v.cl,atomsAV v.at,provsAV v.pr]])]
    have e5 : (B.st ++ [none,some (SObj.cells 126 [.agg 126 [.str (kindS f.name),.str v.txt,.int .i64 c,.bool v.isYes,clausesAV v.cl,atomsAV v.at,provsAV v.pr]])])[B.st.length + 1]? = some (some (.cells 126 [.agg 126 [.str (kindS f.name),.str v.txt,.int .i64 c,.bool v.isYes,clausesAV v.cl,atomsAV v.at,provsAV v.pr]])):=by simp
    have hbl2 : Bld (B.st ++ [none,some (SObj.cells 126 [.agg 126 [.str (kindS f.name),.str v.txt,.int .i64 c,.bool v.isYes,clausesAV v.cl,atomsAV v.at,provsAV v.pr]])]) sv 9 (ns.map .str):=hbl.keep fun j hj=>List.getElem?_append_left (hbl.lt j hj)
    generalize hT : B.st ++ [none,some (SObj.cells 126 [.agg 126 [.str (kindS f.name),.str v.txt,.int .i64 c,.bool v.isYes,clausesAV v.cl,atomsAV v.at,provsAV v.pr]])] = τ at *
    refine JoinVC.both (fun hh=>?_) fun hh=>?_
    ·simp only [go_sem,simprocAttr,↓reduceIte,hT]
     refine ⟨.of (by kernel_rfl),?_⟩
     refine .of [7,8] (by kernel_rfl) (YldA.step (t:=33) (id:=σ.length + 3) (z:=pkgW x.ent.pkg L) (by simp only [go_sem,simprocAttr,↓reduceIte,h7]) (by simp only [go_sem,simprocAttr,↓reduceIte,hT]; exact hτ.c3) (YldA.step (t:=46) (id:=σ.length + 4) (z:=entX ⟨pkg0,x.ent.conf,x.ent.hold⟩) (by simp only [go_sem,simprocAttr,↓reduceIte,h8]) (by simp only [go_sem,simprocAttr,↓reduceIte,hT]; exact hτ.c4') (.done ?_)))
     have h3:=hτ.r3
     generalize hT3 : (τ.set (σ.length + 3) none).set (σ.length + 4) none = τ3 at *
     have hlt : σ.length + 2 < τ3.length:=by have:=(List.getElem?_eq_some_iff.1 h3.c2).1; omega
     simp only [go_sem,simprocAttr,↓reduceIte,hT,hT3,h7,h8,h11,look_id h3.c0,setLook_id h3.c0,look_id (s3_n1 h3.c1 _),setLook_id (s3_n1 h3.c1 _),look_id (s3_n2 h3.c2 _ _),setLook_id (s3_n2 h3.c2 _ _),pkgW_okM,pkgW_unm,entX_okM,entX_unm,hfp,hfx]
     refine EndM.ret ?_
     simp only [go_sem,simprocAttr,↓reduceIte,look_id (s3_0 hlt _ _ _ _),look_id (s3_1 hlt _ _ _ _),look_id (s3_2 hlt _ _ _ _)]
     have hRr : readR s status = (x.ent.pkg,⟨pkg0,x.ent.conf,x.ent.hold⟩,(3,lineT s.line b)):=by
      unfold readR
      rw [← hG,if_pos (by rw [bad_eq]; exact hh)]
     rw [hRr]
     exact ⟨weak_tup3 (.sub (sub_pkgW hL)) (.sub (entX_sub _)) (.refl _),((h3.ext.set (Nat.le_refl _) _).set (Nat.le_add_right _ _) _).set (Nat.le_add_right _ _) _⟩
    ·simp only [go_sem,simprocAttr,↓reduceIte,hT,h11,strsAV,List.length_map]
     refine CallA.fn (r9_plus (lineT s.line b) f.lines.length (by omega) (lineT_ge hln b) (lineT_le b)) ?_
     rw [lineT_add hln2]
     simp only [go_sem,simprocAttr,↓reduceIte,hT,h9,h10,h11,hbl2.lenC,hbl2.len,hbl2.ok,hbl2.un,List.length_map]
     refine LoopVC.at [1,2,4,5,6,7,8,9,10,11,13,14,25,26,27,72,73] (.of (by kernel_rfl)) (fun A=>A.env 16 = .bool (ns.any fun m=>sameT m f.name) ∧ A.st = τ) ?_ fun B2 ⟨h16,hst2⟩=>?_
     ·refine LoopVC.upto [1,2,4,5,6,7,8,9,10,11,13,14,25,26,27,72,73] (.of (by kernel_rfl)) ns.length (fun j A=>A.env 74 = .int .i64 j ∧ A.env 16 = .bool ((ns.take j).any fun m=>sameT m f.name) ∧ A.st = τ) 0 (Nat.zero_le _) ?_ fun j B2 hj ⟨h74,h16,hst2⟩=>?_
      ·simp only [go_sem,simprocAttr,↓reduceIte,hT]
       simp
      simp only [go_sem,simprocAttr,↓reduceIte,h74,h16,hst2,h9,hbl2.ok,hbl2.un,List.length_map]
      refine ⟨fun hc2=>?_,fun hc2=>?_⟩
      ·have hpos : 0 < (ns.map AV.str).length:=by rw [List.length_map]; omega
       obtain ⟨m,hm⟩:=get_some hc2
       simp only [go_sem,simprocAttr,↓reduceIte,hbl2.idxV hpos,hbl2.idxC hpos,List.length_map,atV_map hm,h74,h16,hst2]
       refine ⟨hc2,CallP.fnG (fun _=>r4_Same m f.name) ?_⟩
       simp only [go_sem,simprocAttr,↓reduceIte,h74,h16,hst2]
       refine ⟨hc2,int_succ hc2 (by rw [maxLen_eq]; omega),?_⟩
       rw [take_succ_get hm,List.any_append,List.any_cons,List.any_nil,Bool.or_false]
      ·rw [List.take_of_length_le hc2]
     have hnb : ¬ badSt status f.name v = true:=by
      rw [bad_eq]
      exact fun e=>by rw [show (status && sameT f.name sState && !(v.txt == sUnp) && !(v.txt == sConf)) = false from hh] at e; cases e
     rw [if_neg hnb] at hG
     have hsum : b + f.lines.length + ((s.fields.drop (i + 1)).map fun f=>f.lines.length).sum ≤ 1048574:=by
      rw [hd] at hsm
      simp only [List.map_cons,List.sum_cons] at hsm
      omega
     have htk:=take_succ_get hf
     have hasS : ∀ n,hasF (s.fields.take (i + 1)) n = (hasF (s.fields.take i) n || sameT f.name n):=fun n=>by
      rw [htk]
      unfold hasF
      rw [List.any_append,List.any_cons,List.any_nil,Bool.or_false]
     simp only [go_sem,simprocAttr,↓reduceIte,h16,hst2,h27,h9]
     refine ⟨fun ht=>⟨hc,int_succ hc (by rw [maxLen_eq]; omega),?_⟩,fun ht=>?_⟩
     ·have hF : hasF (s.fields.take i) f.name = true:=by rw [← hns]; exact ht
      rw [if_pos hF] at hG
      refine ⟨x,b + f.lines.length,ns,sv,L,⟨(by simp only [go_sem,simprocAttr,↓reduceIte,h9]),(by simp only [go_sem,simprocAttr,↓reduceIte,h10]),(by simp only [go_sem,simprocAttr,↓reduceIte]),(by simp only [go_sem,simprocAttr,↓reduceIte,h7]),(by simp only [go_sem,simprocAttr,↓reduceIte,h8])⟩,(by simp only [go_sem,simprocAttr,↓reduceIte,hst2]; exact hτ),hL,hA,(by simp only [go_sem,simprocAttr,↓reduceIte,hst2]; exact hbl2),hft,by omega,fun n=>?_,hsum,by rw [htk]; exact hG⟩
      rw [hns,hasS]
      cases h1 : hasF (s.fields.take i) n
      ·cases h2 : sameT f.name n
       ·rfl
       ·obtain ⟨g,hg1,hg2⟩:=List.any_eq_true.1 (show (s.fields.take i).any (fun g=>sameT g.name f.name) = true from hF)
        have : hasF (s.fields.take i) n = true:=List.any_eq_true.2 ⟨g,hg1,by rw [← sameT_trans hg2]; exact h2⟩
        rw [h1] at this
        cases this
      ·rfl
     have hF : hasF (s.fields.take i) f.name = false:=by rw [← hns]; exact ht
     rw [if_neg (by rw [hF]; decide)] at hG
     refine ⟨of_eq_true (hbl2.ok none),?_⟩
     rw [hbl2.un]
     refine AppA.ownS (σ:=τ) (by simp only [go_sem,simprocAttr,↓reduceIte,hst2]) 1048576 (by kernel_rfl) hbl2 (.lit _ _ _) (by simp; omega) fun sv2 τ2 ha=>?_
     have hτ2:=hτ.fr ha.fr hft
     have hbl3 : Bld τ2 sv2 9 ((ns ++ [f.name]).map .str):=by
      rw [List.map_append]
      exact ha.bld
     have hft2 : ∀ t ∈ foot sv2,σ.length + 5 ≤ t:=fun t ht=>by
      rcases ha.foot hbl2 t ht with h | h
      ·exact hft t h
      ·have:=(List.getElem?_eq_some_iff.1 hτ.c4).1
       omega
     have e52:=(ha.fr.old _ (List.getElem?_eq_some_iff.1 e5).1 (hbl2.ne e5 (by simp))).trans e5
     have c3u : τ2[σ.length + 3]? = some (some (.cells 33 [.agg 33 [.str x.ent.pkg.name,.str x.ent.pkg.ver,L.a,L.b,L.c,L.d,L.e,L.f,.bool x.ent.pkg.ess]])):=hτ2.c3
     have c4u : τ2[σ.length + 4]? = some (some (.cells 46 [.agg 46 [pkgX pkg0,.bool x.ent.conf,.bool x.ent.hold]])):=hτ2.c4
     have hkp : ∀ (o : Option SObj) (k : Nat),k ≤ σ.length + 4 → Bld (τ2.set k o) sv2 9 ((ns ++ [f.name]).map .str):=fun o k hk=>hbl3.keep fun j hj=>List.getElem?_set_ne (by have:=hft2 j hj; omega)
     have fin : ∀ (x' : Acc) (A' : AState) (L' : PL),putV f.name v x = x' → A'.env 9 = sv2 → A'.env 10 = .bool x'.s → A'.env 11 = .int .i64 (lineT s.line (b + f.lines.length)) → A'.env 7 = .ptr 33 (σ.length + 3) 0 [] → A'.env 8 = .ptr 46 (σ.length + 4) 0 [] →
       RSt σ A'.st (pkgW x'.ent.pkg L') (entX ⟨pkg0,x'.ent.conf,x'.ent.hold⟩) → PLok x'.ent.pkg L' → Bld A'.st sv2 9 ((ns ++ [f.name]).map .str) → RI s status σ (i + 1) A':=fun x' A' L' hx' q9 q10 q11 q7 q8 qR qL qB=>by
      subst hx'
      refine ⟨putV f.name v x,b + f.lines.length,ns ++ [f.name],sv2,L',⟨q9,q10,q11,q7,q8⟩,qR,qL,hA.put hv,qB,hft2,by simp; omega,fun n=>?_,hsum,by rw [htk]; exact hG⟩
      rw [hasS,← hns,List.any_append,List.any_cons,List.any_nil,Bool.or_false]
     simp only [go_sem,simprocAttr,↓reduceIte,hst2,h27]
     refine CallA.fn (r4_Same f.name sPackage) ?_
     simp only [go_sem,simprocAttr,↓reduceIte,same_lowR (n:=f.name) (show sPackage.map lowB = sPackage by decide),hst2,h27,look_id e52]
     refine ⟨fun hn=>?_,fun hn0=>?_⟩
     ·simp only [go_sem,simprocAttr,↓reduceIte,look_id e52,look_id c3u,setLook_id c3u,h27,h7,h8,h10]
      refine ⟨hc,int_succ hc (by rw [maxLen_eq]; omega),fin ({ x with ent:={ x.ent with pkg:={ x.ent.pkg with name:=v.txt } },n:=true }) _ L (by unfold putV; rw [if_pos hn]) (by simp only [go_sem,simprocAttr,↓reduceIte]) (by simp only [go_sem,simprocAttr,↓reduceIte,h10]) (by simp only [go_sem,simprocAttr,↓reduceIte]) (by simp only [go_sem,simprocAttr,↓reduceIte,h7]) (by simp only [go_sem,simprocAttr,↓reduceIte,h8]) (by simp only [go_sem,simprocAttr,↓reduceIte]; exact hτ2.setP _) ⟨hL.a,hL.b,hL.c,hL.d,hL.e,hL.f⟩ (by simp only [go_sem,simprocAttr,↓reduceIte]; exact hkp _ _ (by omega))⟩
     refine CallA.fn (r4_Same f.name sVersion) ?_
     simp only [go_sem,simprocAttr,↓reduceIte,same_lowR (n:=f.name) (show sVersion.map lowB = sVersion by decide),hst2,h27,look_id e52]
     refine ⟨fun hn=>?_,fun hn1=>?_⟩
     ·simp only [go_sem,simprocAttr,↓reduceIte,look_id e52,look_id c3u,setLook_id c3u,h27,h7,h8,h10]
      refine ⟨hc,int_succ hc (by rw [maxLen_eq]; omega),fin ({ x with ent:={ x.ent with pkg:={ x.ent.pkg with ver:=v.txt } },v:=true }) _ L (by unfold putV; rw [if_neg hn0,if_pos hn]) (by simp only [go_sem,simprocAttr,↓reduceIte]) (by simp only [go_sem,simprocAttr,↓reduceIte,h10]) (by simp only [go_sem,simprocAttr,↓reduceIte]) (by simp only [go_sem,simprocAttr,↓reduceIte,h7]) (by simp only [go_sem,simprocAttr,↓reduceIte,h8]) (by simp only [go_sem,simprocAttr,↓reduceIte]; exact hτ2.setP _) ⟨hL.a,hL.b,hL.c,hL.d,hL.e,hL.f⟩ (by simp only [go_sem,simprocAttr,↓reduceIte]; exact hkp _ _ (by omega))⟩
     refine CallA.fn (r4_Same f.name sPre) ?_
     simp only [go_sem,simprocAttr,↓reduceIte,same_lowR (n:=f.name) (show sPre.map lowB = sPre by decide),hst2,h27,look_id e52]
     refine ⟨fun hn=>?_,fun hn2=>?_⟩
     ·simp only [go_sem,simprocAttr,↓reduceIte,look_id e52,look_id c3u,setLook_id c3u,h27,h7,h8,h10]
      refine ⟨hc,int_succ hc (by rw [maxLen_eq]; omega),fin ({ x with ent:={ x.ent with pkg:={ x.ent.pkg with pre:=v.cl } } }) _ ⟨clausesAV v.cl,L.b,L.c,L.d,L.e,L.f⟩ (by unfold putV; rw [if_neg hn0,if_neg hn1,if_pos hn]) (by simp only [go_sem,simprocAttr,↓reduceIte]) (by simp only [go_sem,simprocAttr,↓reduceIte,h10]) (by simp only [go_sem,simprocAttr,↓reduceIte]) (by simp only [go_sem,simprocAttr,↓reduceIte,h7]) (by simp only [go_sem,simprocAttr,↓reduceIte,h8]) (by simp only [go_sem,simprocAttr,↓reduceIte]; exact hτ2.setP _) ⟨.refl _,hL.b,hL.c,hL.d,hL.e,hL.f⟩ (by simp only [go_sem,simprocAttr,↓reduceIte]; exact hkp _ _ (by omega))⟩
     refine CallA.fn (r4_Same f.name sDep) ?_
     simp only [go_sem,simprocAttr,↓reduceIte,same_lowR (n:=f.name) (show sDep.map lowB = sDep by decide),hst2,h27,look_id e52]
     refine ⟨fun hn=>?_,fun hn3=>?_⟩
     ·simp only [go_sem,simprocAttr,↓reduceIte,look_id e52,look_id c3u,setLook_id c3u,h27,h7,h8,h10]
      refine ⟨hc,int_succ hc (by rw [maxLen_eq]; omega),fin ({ x with ent:={ x.ent with pkg:={ x.ent.pkg with dep:=v.cl } } }) _ ⟨L.a,clausesAV v.cl,L.c,L.d,L.e,L.f⟩ (by unfold putV; rw [if_neg hn0,if_neg hn1,if_neg hn2,if_pos hn]) (by simp only [go_sem,simprocAttr,↓reduceIte]) (by simp only [go_sem,simprocAttr,↓reduceIte,h10]) (by simp only [go_sem,simprocAttr,↓reduceIte]) (by simp only [go_sem,simprocAttr,↓reduceIte,h7]) (by simp only [go_sem,simprocAttr,↓reduceIte,h8]) (by simp only [go_sem,simprocAttr,↓reduceIte]; exact hτ2.setP _) ⟨hL.a,.refl _,hL.c,hL.d,hL.e,hL.f⟩ (by simp only [go_sem,simprocAttr,↓reduceIte]; exact hkp _ _ (by omega))⟩
     refine CallA.fn (r4_Same f.name sRcm) ?_
     simp only [go_sem,simprocAttr,↓reduceIte,same_lowR (n:=f.name) (show sRcm.map lowB = sRcm by decide),hst2,h27,look_id e52]
     refine ⟨fun hn=>?_,fun hn4=>?_⟩
     ·simp only [go_sem,simprocAttr,↓reduceIte,look_id e52,look_id c3u,setLook_id c3u,h27,h7,h8,h10]
      refine ⟨hc,int_succ hc (by rw [maxLen_eq]; omega),fin ({ x with ent:={ x.ent with pkg:={ x.ent.pkg with rcm:=v.cl } } }) _ ⟨L.a,L.b,clausesAV v.cl,L.d,L.e,L.f⟩ (by unfold putV; rw [if_neg hn0,if_neg hn1,if_neg hn2,if_neg hn3,if_pos hn]) (by simp only [go_sem,simprocAttr,↓reduceIte]) (by simp only [go_sem,simprocAttr,↓reduceIte,h10]) (by simp only [go_sem,simprocAttr,↓reduceIte]) (by simp only [go_sem,simprocAttr,↓reduceIte,h7]) (by simp only [go_sem,simprocAttr,↓reduceIte,h8]) (by simp only [go_sem,simprocAttr,↓reduceIte]; exact hτ2.setP _) ⟨hL.a,hL.b,.refl _,hL.d,hL.e,hL.f⟩ (by simp only [go_sem,simprocAttr,↓reduceIte]; exact hkp _ _ (by omega))⟩
     refine CallA.fn (r4_Same f.name sCon) ?_
     simp only [go_sem,simprocAttr,↓reduceIte,same_lowR (n:=f.name) (show sCon.map lowB = sCon by decide),hst2,h27,look_id e52]
     refine ⟨fun hn=>?_,fun hn5=>?_⟩
     ·simp only [go_sem,simprocAttr,↓reduceIte,look_id e52,look_id c3u,setLook_id c3u,h27,h7,h8,h10]
      refine ⟨hc,int_succ hc (by rw [maxLen_eq]; omega),fin ({ x with ent:={ x.ent with pkg:={ x.ent.pkg with con:=v.at } } }) _ ⟨L.a,L.b,L.c,atomsAV v.at,L.e,L.f⟩ (by unfold putV; rw [if_neg hn0,if_neg hn1,if_neg hn2,if_neg hn3,if_neg hn4,if_pos hn]) (by simp only [go_sem,simprocAttr,↓reduceIte]) (by simp only [go_sem,simprocAttr,↓reduceIte,h10]) (by simp only [go_sem,simprocAttr,↓reduceIte]) (by simp only [go_sem,simprocAttr,↓reduceIte,h7]) (by simp only [go_sem,simprocAttr,↓reduceIte,h8]) (by simp only [go_sem,simprocAttr,↓reduceIte]; exact hτ2.setP _) ⟨hL.a,hL.b,hL.c,.refl _,hL.e,hL.f⟩ (by simp only [go_sem,simprocAttr,↓reduceIte]; exact hkp _ _ (by omega))⟩
     refine CallA.fn (r4_Same f.name sBrk) ?_
     simp only [go_sem,simprocAttr,↓reduceIte,same_lowR (n:=f.name) (show sBrk.map lowB = sBrk by decide),hst2,h27,look_id e52]
     refine ⟨fun hn=>?_,fun hn6=>?_⟩
     ·simp only [go_sem,simprocAttr,↓reduceIte,look_id e52,look_id c3u,setLook_id c3u,h27,h7,h8,h10]
      refine ⟨hc,int_succ hc (by rw [maxLen_eq]; omega),fin ({ x with ent:={ x.ent with pkg:={ x.ent.pkg with brk:=v.at } } }) _ ⟨L.a,L.b,L.c,L.d,atomsAV v.at,L.f⟩ (by unfold putV; rw [if_neg hn0,if_neg hn1,if_neg hn2,if_neg hn3,if_neg hn4,if_neg hn5,if_pos hn]) (by simp only [go_sem,simprocAttr,↓reduceIte]) (by simp only [go_sem,simprocAttr,↓reduceIte,h10]) (by simp only [go_sem,simprocAttr,↓reduceIte]) (by simp only [go_sem,simprocAttr,↓reduceIte,h7]) (by simp only [go_sem,simprocAttr,↓reduceIte,h8]) (by simp only [go_sem,simprocAttr,↓reduceIte]; exact hτ2.setP _) ⟨hL.a,hL.b,hL.c,hL.d,.refl _,hL.f⟩ (by simp only [go_sem,simprocAttr,↓reduceIte]; exact hkp _ _ (by omega))⟩
     refine CallA.fn (r4_Same f.name sProv) ?_
     simp only [go_sem,simprocAttr,↓reduceIte,same_lowR (n:=f.name) (show sProv.map lowB = sProv by decide),hst2,h27,look_id e52]
     refine ⟨fun hn=>?_,fun hn7=>?_⟩
     ·simp only [go_sem,simprocAttr,↓reduceIte,look_id e52,look_id c3u,setLook_id c3u,h27,h7,h8,h10]
      refine ⟨hc,int_succ hc (by rw [maxLen_eq]; omega),fin ({ x with ent:={ x.ent with pkg:={ x.ent.pkg with prov:=v.pr } } }) _ ⟨L.a,L.b,L.c,L.d,L.e,provsAV v.pr⟩ (by unfold putV; rw [if_neg hn0,if_neg hn1,if_neg hn2,if_neg hn3,if_neg hn4,if_neg hn5,if_neg hn6,if_pos hn]) (by simp only [go_sem,simprocAttr,↓reduceIte]) (by simp only [go_sem,simprocAttr,↓reduceIte,h10]) (by simp only [go_sem,simprocAttr,↓reduceIte]) (by simp only [go_sem,simprocAttr,↓reduceIte,h7]) (by simp only [go_sem,simprocAttr,↓reduceIte,h8]) (by simp only [go_sem,simprocAttr,↓reduceIte]; exact hτ2.setP _) ⟨hL.a,hL.b,hL.c,hL.d,hL.e,.refl _⟩ (by simp only [go_sem,simprocAttr,↓reduceIte]; exact hkp _ _ (by omega))⟩
     refine CallA.fn (r4_Same f.name sEss) ?_
     simp only [go_sem,simprocAttr,↓reduceIte,same_lowR (n:=f.name) (show sEss.map lowB = sEss by decide),hst2,h27,look_id e52]
     refine ⟨fun hn=>?_,fun hn8=>?_⟩
     ·simp only [go_sem,simprocAttr,↓reduceIte,look_id e52,look_id c3u,setLook_id c3u,h27,h7,h8,h10]
      refine ⟨hc,int_succ hc (by rw [maxLen_eq]; omega),fin ({ x with ent:={ x.ent with pkg:={ x.ent.pkg with ess:=v.isYes } } }) _ L (by unfold putV; rw [if_neg hn0,if_neg hn1,if_neg hn2,if_neg hn3,if_neg hn4,if_neg hn5,if_neg hn6,if_neg hn7,if_pos hn]) (by simp only [go_sem,simprocAttr,↓reduceIte]) (by simp only [go_sem,simprocAttr,↓reduceIte,h10]) (by simp only [go_sem,simprocAttr,↓reduceIte]) (by simp only [go_sem,simprocAttr,↓reduceIte,h7]) (by simp only [go_sem,simprocAttr,↓reduceIte,h8]) (by simp only [go_sem,simprocAttr,↓reduceIte]; exact hτ2.setP _) ⟨hL.a,hL.b,hL.c,hL.d,hL.e,hL.f⟩ (by simp only [go_sem,simprocAttr,↓reduceIte]; exact hkp _ _ (by omega))⟩
     refine CallA.fn (r4_Same f.name sState) ?_
     simp only [go_sem,simprocAttr,↓reduceIte,same_lowR (n:=f.name) (show sState.map lowB = sState by decide),hst2,h27,look_id e52]
     refine ⟨fun hn=>?_,fun hn9=>?_⟩
     ·have hcf : (v.txt == ([99,111,110,102,105,103,117,114,101,100] : List UInt8)) = decide (v.txt = sConf):=by rw [Bool.eq_iff_iff]; simp [sConf]
      refine ⟨.of (by kernel_rfl),.no (by kernel_rfl) ?_⟩
      simp only [go_sem,simprocAttr,↓reduceIte,look_id e52,look_id c4u,setLook_id c4u,h27,h7,h8,h10]
      refine ⟨hc,int_succ hc (by rw [maxLen_eq]; omega),fin ({ x with ent:={ x.ent with conf:=decide (v.txt = sConf) },s:=true }) _ L (by unfold putV; rw [if_neg hn0,if_neg hn1,if_neg hn2,if_neg hn3,if_neg hn4,if_neg hn5,if_neg hn6,if_neg hn7,if_neg hn8,if_neg (by rw [hn]; decide),if_pos hn]) (by simp only [go_sem,simprocAttr,↓reduceIte]) (by simp only [go_sem,simprocAttr,↓reduceIte,h10]) (by simp only [go_sem,simprocAttr,↓reduceIte]) (by simp only [go_sem,simprocAttr,↓reduceIte,h7]) (by simp only [go_sem,simprocAttr,↓reduceIte,h8]) (by simp only [go_sem,simprocAttr,↓reduceIte]; rw [hcf]; exact hτ2.setX _) ⟨hL.a,hL.b,hL.c,hL.d,hL.e,hL.f⟩ (by simp only [go_sem,simprocAttr,↓reduceIte]; exact hkp _ _ (by omega))⟩
     refine CallA.fn (r4_Same f.name sHold) ?_
     simp only [go_sem,simprocAttr,↓reduceIte,same_lowR (n:=f.name) (show sHold.map lowB = sHold by decide),hst2,h27,look_id e52]
     refine ⟨fun hn=>?_,fun hn10=>?_⟩
     ·simp only [go_sem,simprocAttr,↓reduceIte,look_id e52,look_id c4u,setLook_id c4u,h27,h7,h8,h10]
      refine ⟨hc,int_succ hc (by rw [maxLen_eq]; omega),fin ({ x with ent:={ x.ent with hold:=v.isYes } }) _ L (by unfold putV; rw [if_neg hn0,if_neg hn1,if_neg hn2,if_neg hn3,if_neg hn4,if_neg hn5,if_neg hn6,if_neg hn7,if_neg hn8,if_pos hn]) (by simp only [go_sem,simprocAttr,↓reduceIte]) (by simp only [go_sem,simprocAttr,↓reduceIte,h10]) (by simp only [go_sem,simprocAttr,↓reduceIte]) (by simp only [go_sem,simprocAttr,↓reduceIte,h7]) (by simp only [go_sem,simprocAttr,↓reduceIte,h8]) (by simp only [go_sem,simprocAttr,↓reduceIte]; exact hτ2.setX _) ⟨hL.a,hL.b,hL.c,hL.d,hL.e,hL.f⟩ (by simp only [go_sem,simprocAttr,↓reduceIte]; exact hkp _ _ (by omega))⟩
     refine ⟨hc,int_succ hc (by rw [maxLen_eq]; omega),fin x _ L (by unfold putV; rw [if_neg hn0,if_neg hn1,if_neg hn2,if_neg hn3,if_neg hn4,if_neg hn5,if_neg hn6,if_neg hn7,if_neg hn8,if_neg hn10,if_neg hn9]) (by simp only [go_sem,simprocAttr,↓reduceIte]) (by simp only [go_sem,simprocAttr,↓reduceIte,h10]) (by simp only [go_sem,simprocAttr,↓reduceIte]) (by simp only [go_sem,simprocAttr,↓reduceIte,h7]) (by simp only [go_sem,simprocAttr,↓reduceIte,h8]) (by simp only [go_sem,simprocAttr,↓reduceIte]; exact hτ2) hL (by simp only [go_sem,simprocAttr,↓reduceIte]; exact hbl3)⟩
  ·have hie : i = s.fields.length:=by omega
   subst hie
   exact ⟨x,b,ns,sv,L,⟨h9,h10,h11,h7,h8⟩,hR,hL,hA,hbl,hft,hnl,hns,hsm,hG⟩
 obtain ⟨x,b,ns,sv,L,⟨h9,h10,h11,h7,h8⟩,hR,hL,hA,hbl,hft,hnl,hns,hsm,hG⟩:=hB
 rw [List.drop_length,readG] at hG
 have hfp : fitsB prog 33 (pkgW x.ent.pkg L) = true:=by unfold pkgW; kernel_rfl
 have hfx : fitsB prog 46 (entX ⟨pkg0,x.ent.conf,x.ent.hold⟩) = true:=by unfold entX pkgX; kernel_rfl
 have hq : readR s status = if x.n = false ∨ x.v = false ∨ (status = true ∧ x.s = false) then (x.ent.pkg,⟨pkg0,x.ent.conf,x.ent.hold⟩,(5,s.line)) else (x.ent.pkg,x.ent,(0,0)):=by unfold readR; rw [← hG]
 have c3u : B.st[σ.length + 3]? = some (some (.cells 33 [.agg 33 [.str x.ent.pkg.name,.str x.ent.pkg.ver,L.a,L.b,L.c,L.d,L.e,L.f,.bool x.ent.pkg.ess]])):=hR.c3
 have c4u : B.st[σ.length + 4]? = some (some (.cells 46 [.agg 46 [pkgX pkg0,.bool x.ent.conf,.bool x.ent.hold]])):=hR.c4
 have hcond : (x.ent.pkg.name == [] || x.ent.pkg.ver == [] || status && !x.s) = decide (x.n = false ∨ x.v = false ∨ (status = true ∧ x.s = false)):=by
  have e1 : (x.ent.pkg.name == []) = !x.n:=by
   have:=hA.n
   cases hx : x.n
   ·rw [hx] at this; simp at this; simp [this]
   ·rw [hx] at this; simp at this; simp [this]
  have e2 : (x.ent.pkg.ver == []) = !x.v:=by
   have:=hA.v
   cases hx : x.v
   ·rw [hx] at this; simp at this; simp [this]
   ·rw [hx] at this; simp at this; simp [this]
  rw [e1,e2]
  cases x.n <;> cases x.v <;> cases x.s <;> cases status <;> rfl
 simp only [go_sem,simprocAttr,↓reduceIte,h9,h10,h11,h7,h8,look_id c3u,setLook_id c4u,look_id c4u]
 rw [hcond]
 generalize hT : B.st = τ at *
 refine ⟨fun hc=>?_,fun hc=>?_⟩
 ·rw [if_pos (of_decide_eq_true hc)] at hq
  refine ⟨.of (by kernel_rfl),?_⟩
  refine .of [7,8] (by kernel_rfl) (YldA.step (t:=33) (id:=σ.length + 3) (z:=pkgW x.ent.pkg L) (by simp only [go_sem,simprocAttr,↓reduceIte,h7]) (by simp only [go_sem,simprocAttr,↓reduceIte,hT]; exact hR.c3) (YldA.step (t:=46) (id:=σ.length + 4) (z:=entX ⟨pkg0,x.ent.conf,x.ent.hold⟩) (by simp only [go_sem,simprocAttr,↓reduceIte,h8]) (by simp only [go_sem,simprocAttr,↓reduceIte,hT]; exact hR.c4') (.done ?_)))
  have h3:=hR.r3
  generalize hT3 : (τ.set (σ.length + 3) none).set (σ.length + 4) none = τ3 at *
  have hlt : σ.length + 2 < τ3.length:=by have:=(List.getElem?_eq_some_iff.1 h3.c2).1; omega
  simp only [go_sem,simprocAttr,↓reduceIte,hT,hT3,h7,h8,h11,look_id h3.c0,setLook_id h3.c0,look_id (s3_n1 h3.c1 _),setLook_id (s3_n1 h3.c1 _),look_id (s3_n2 h3.c2 _ _),setLook_id (s3_n2 h3.c2 _ _),pkgW_okM,pkgW_unm,entX_okM,entX_unm,hfp,hfx]
  refine EndM.ret ?_
  simp only [go_sem,simprocAttr,↓reduceIte,look_id (s3_0 hlt _ _ _ _),look_id (s3_1 hlt _ _ _ _),look_id (s3_2 hlt _ _ _ _)]
  rw [hq]
  exact ⟨weak_tup3 (.sub (sub_pkgW hL)) (.sub (entX_sub _)) (.refl _),((h3.ext.set (Nat.le_refl _) _).set (Nat.le_add_right _ _) _).set (Nat.le_add_right _ _) _⟩
 ·rw [if_neg (of_decide_eq_false hc)] at hq
  have hfy : fitsB prog 46 (.agg 46 [pkgW x.ent.pkg L,.bool x.ent.conf,.bool x.ent.hold]) = true:=by unfold pkgW; kernel_rfl
  generalize hT2 : τ.set (σ.length + 4) (some (SObj.cells 46 [.agg 46 [.agg 33 [.str x.ent.pkg.name,.str x.ent.pkg.ver,L.a,L.b,L.c,L.d,L.e,L.f,.bool x.ent.pkg.ess],.bool x.ent.conf,.bool x.ent.hold]])) = τ2 at *
  have hR2 : RSt σ τ2 (pkgW x.ent.pkg L) (.agg 46 [pkgW x.ent.pkg L,.bool x.ent.conf,.bool x.ent.hold]):=by rw [← hT2]; exact hR.setX _
  have hW2 : okM none (.agg 46 [pkgW x.ent.pkg L,.bool x.ent.conf,.bool x.ent.hold]) = True:=eq_true trivial
  refine ⟨.of (by kernel_rfl),?_⟩
  refine .of [7,8] (by kernel_rfl) (YldA.step (t:=33) (id:=σ.length + 3) (z:=pkgW x.ent.pkg L) (by simp only [go_sem,simprocAttr,↓reduceIte,h7]) (by simp only [go_sem,simprocAttr,↓reduceIte,hT2]; exact hR2.c3) (YldA.step (t:=46) (id:=σ.length + 4) (z:=.agg 46 [pkgW x.ent.pkg L,.bool x.ent.conf,.bool x.ent.hold]) (by simp only [go_sem,simprocAttr,↓reduceIte,h8]) (by simp only [go_sem,simprocAttr,↓reduceIte,hT2]; exact hR2.c4') (.done ?_)))
  have h3:=hR2.r3
  generalize hT3 : (τ2.set (σ.length + 3) none).set (σ.length + 4) none = τ3 at *
  have hlt : σ.length + 2 < τ3.length:=by have:=(List.getElem?_eq_some_iff.1 h3.c2).1; omega
  simp only [go_sem,simprocAttr,↓reduceIte,hT,hT2,hT3,h7,h8,h11,look_id h3.c0,setLook_id h3.c0,look_id (s3_n1 h3.c1 _),setLook_id (s3_n1 h3.c1 _),look_id (s3_n2 h3.c2 _ _),setLook_id (s3_n2 h3.c2 _ _),pkgW_okM,pkgW_unm,entX_okM,entX_unm,hfp,hfx,hfy]
  refine EndM.ret ?_
  simp only [go_sem,simprocAttr,↓reduceIte,look_id (s3_0 hlt _ _ _ _),look_id (s3_1 hlt _ _ _ _),look_id (s3_2 hlt _ _ _ _)]
  rw [hq]
  exact ⟨weak_tup3 (.sub (sub_pkgW hL)) (.sub (sub_entW hL _ _)) (.refl _),((h3.ext.set (Nat.le_refl _) _).set (Nat.le_add_right _ _) _).set (Nat.le_add_right _ _) _⟩
end Go.Proofs.Tryz
end
section
namespace Go.Av
structure StzSm9 (s : Stz) : Prop extends StzSm s where
 ln2 : s.line ≤ 9223372036854775807
end Go.Av
namespace Go.Proofs.Tryz
open Go Go.Av
set_option maxRecDepth 10000
variable {W0 : World}
theorem pkgAV_okM (x : Pkg) : okM none (pkgAV x) = True:=eq_true trivial
theorem pkgAV_unm (x : Pkg) : unm (pkgAV x) = pkgAV x:=rfl
theorem entAV_okM (x : EntN) : okM none (entAV x) = True:=eq_true trivial
theorem entAV_unm (x : EntN) : unm (entAV x) = entAV x:=rfl
theorem r9_of (s : Stz) (h : StzSm9 s) : PureFn prog W0 14 [stzAV s] (.tup [pkgAV (readE s false).1.pkg,atAV (readE s false).2]):=by
 refine fn_pureM [.cell 2 33,.cell 3 36] [1,4,5,6] func14 rfl rfl ntmps14 rfl rfl (.tup2 (ids_pkg _) (ids_at _)) fun hs σ=>?_
 simp only [go_sem,simprocAttr,↓reduceIte,stzAV]
 refine CallA.fn (r9_readS s false h.ln h.ln2 h.fl h.sz) ?_
 rw [readR_at]
 have hok:=readR_ok s false
 have herr : (readE s false).2.1 ≠ 0 → (readE s false).1 = ent0:=readE_pkg0 s false
 generalize readR s false = q2 at *
 obtain ⟨p2,y2,e2⟩:=q2
 have hfx : fitsB prog 46 (entAV y2) = true:=by unfold entAV pkgAV; kernel_rfl
 have hfp : fitsB prog 33 (pkgAV p2) = true:=by unfold pkgAV; kernel_rfl
 generalize readE s false = q at *
 obtain ⟨y,ea⟩:=q
 simp only at hok ⊢
 simp only [go_sem,simprocAttr,↓reduceIte,atAV,entAV_okM,entAV_unm,hfx,hfp,pkgAV_okM,pkgAV_unm]
 refine ⟨fun he=>⟨.of (by kernel_rfl),EndM.ret ?_⟩,fun he=>⟨.of (by kernel_rfl),EndM.ret ?_⟩⟩
 ·rw [show y = ent0 from herr he]
  simp only [go_sem,simprocAttr,↓reduceIte]
  exact weak_tup2 (.sub (pkgX_sub pkg0)) (.refl _)
 ·rw [(hok he).2]
  simp only [go_sem,simprocAttr,↓reduceIte,pkgAV_okM,pkgAV_unm]
end Go.Proofs.Tryz
end
section
namespace Go.Proofs.Tryz
open Go Go.Av
set_option maxRecDepth 10000
variable {W0 : World}
theorem bulk_strs : ∀ l : List (List UInt8),bulkAs (l.map AV.str) = sumL l + l.length
 | []=>rfl
 | s :: r=>by
  rw [List.map_cons,bulkAs,bulkA,bulk_strs r]
  simp only [sumL,List.map_cons,List.sum_cons,List.length_cons]
  omega
theorem bulk_flds : ∀ l : List Fld,(l.map fun f=>sumL f.lines + f.lines.length).sum + l.length ≤ bulkAs (l.map fldAV)
 | []=>by simp [bulkAs]
 | f :: r=>by
  have h:=bulk_flds r
  have e : bulkA (fldAV f) = f.name.length + 1 + (sumL f.lines + f.lines.length + 1 + 0) + 1:=by
   show bulkA (.agg _ [.str f.name,.sl _ (f.lines.map .str)]) = _
   rw [bulkA,bulkAs,bulkAs,bulkAs,bulkA,bulkA,bulk_strs]
  rw [List.map_cons,List.map_cons,List.sum_cons,bulkAs,e,List.length_cons]
  omega
theorem bulk_stz (s : Stz) : (s.fields.map fun f=>sumL f.lines + f.lines.length).sum + s.fields.length + 2 ≤ bulkA (stzAV s):=by
 have e : bulkA (stzAV s) = 1 + (bulkAs (s.fields.map fldAV) + 1 + 0) + 1:=by
  show bulkA (.agg _ [.int .i64 s.line,.sl _ (s.fields.map fldAV)]) = _
  simp only [bulkA,bulkAs]
 have:=bulk_flds s.fields
 omega
theorem ofT_strs {n : Nat} {a : AV} (h : OfT prog (n + 2) 26 a) : ∃ p : List (List UInt8),a = .sl 9 (p.map AV.str):=by
 obtain ⟨ps,rfl,hl⟩:=ofT_map (f:=AV.str) (e:=9) (by kernel_rfl) (fun x hx=>by
  obtain ⟨s,rfl,_⟩:=ofT_str (by kernel_rfl) hx
  exact ⟨s,rfl⟩) h
 exact ⟨ps,rfl⟩
theorem ofT_fld {n : Nat} {a : AV} (h : OfT prog (n + 3) 28 a) : ∃ f,a = fldAV f:=by
 obtain ⟨xs,rfl,g⟩:=ofT_flds (ts:=[9,26]) (by kernel_rfl) h
 obtain _ | ⟨x1,_ | ⟨x2,_ | _⟩⟩:=xs <;> simp only [AllT,and_false,and_true] at g
 obtain ⟨h1,h2⟩:=g
 obtain ⟨s,rfl,_⟩:=ofT_str (by kernel_rfl) h1
 obtain ⟨l,rfl⟩:=ofT_strs (n:=n) h2
 exact ⟨⟨s,l⟩,rfl⟩
theorem ofT_stz {n : Nat} {a : AV} (h : OfT prog (n + 5) 24 a) : ∃ s,a = stzAV s ∧ -9223372036854775808 ≤ s.line ∧ s.line ≤ 9223372036854775807:=by
 obtain ⟨xs,rfl,g⟩:=ofT_flds (ts:=[3,22]) (by kernel_rfl) h
 obtain _ | ⟨x1,_ | ⟨x2,_ | _⟩⟩:=xs <;> simp only [AllT,and_false,and_true] at g
 obtain ⟨h1,h2⟩:=g
 obtain ⟨k,rfl,hk⟩:=ofT_int (k:=.i64) (by kernel_rfl) h1
 obtain ⟨l,rfl,_⟩:=ofT_map (f:=fldAV) (e:=28) (by kernel_rfl) (fun x hx=>ofT_fld (n:=n) hx) h2
 refine ⟨⟨k,l⟩,rfl,?_⟩
 simp [Lit.wf,IntKind.wrap] at hk
 have e1 : IntKind.i64.min = -9223372036854775808:=by decide
 have e2 : IntKind.i64.max = 9223372036854775807:=by decide
 exact ⟨by show _ ≤ k; omega,by show k ≤ _; omega⟩
theorem l9_of (hW : TabsOk W0) (s : Stz) (hsm : StzSm9 s) : PureFn prog W0 3 [stzAV s] (.bool true):=by
 refine fn_pure [2] [1,4,5,6,7,8] func3 rfl rfl ntmps3 rfl rfl (.bool _) fun hs σ=>?_
 simp only [go_sem,simprocAttr,↓reduceIte,stzAV,fldsAV,List.length_map]
 refine ⟨fun _=>CallA.fn (l9_awake hW) ?_,fun hlen=>?_⟩
 ·simp only [go_sem,simprocAttr,↓reduceIte]
 refine LoopVC.at [1] (.of (by kernel_rfl)) (fun A=>Ext σ A.st) ?_ fun B hst=>?_
 ·refine LoopVC.upto [1,15,16] (.of (by kernel_rfl)) s.fields.length (fun i A=>A.env 17 = .int .i64 i ∧ Ext σ A.st) 0 (Nat.zero_le _) ?_ fun i B hi ⟨h17,hst⟩=>?_
  ·simp only [go_sem,simprocAttr,↓reduceIte]
   exact .refl _
  simp only [go_sem,simprocAttr,↓reduceIte,h17,List.length_map]
  refine ⟨fun hc=>⟨hc,?_⟩,fun hc=>hst⟩
  obtain ⟨f,hf⟩:=get_some hc
  simp only [atV_map hf]
  simp only [go_sem,simprocAttr,↓reduceIte,fldAV,strsAV,h17,List.length_map]
  refine ⟨fun _=>CallA.fn (l9_awake hW) ?_,fun _=>⟨hc,int_succ hc (by rw [maxLen_eq]; omega),hst.app _⟩⟩
  simp only [go_sem,simprocAttr,↓reduceIte]
  exact hst.app _
 simp only [go_sem,simprocAttr,↓reduceIte,stzAV,fldsAV]
 refine CallA.fn (re_of hW s hsm.toStzSm) ?_
 have hfx : fitsB prog 33 (pkgX (readE s false).1.pkg) = true:=by unfold pkgX; kernel_rfl
 have hfy : fitsB prog 33 (pkgAV (readE s false).1.pkg) = true:=by unfold pkgAV; kernel_rfl
 simp only [go_sem,simprocAttr,↓reduceIte,atAV,pkgX_okM,pkgX_unm,hfx]
 refine CallA.fn (r9_of s hsm) ?_
 simp only [go_sem,simprocAttr,↓reduceIte,atAV,pkgX_okM,pkgX_unm,hfx,hfy,pkgAV_okM,pkgAV_unm]
 have hwk : Weak (pkgX (readE s false).1.pkg) (pkgAV (readE s false).1.pkg):=.sub (pkgX_sub _)
 refine CallA.fn ((r9_same _ _).weak (.cons hwk (.cons (.refl _) .nil))) ?_
 have h1 : decide ((readE s false).1.pkg = (readE s false).1.pkg) = true:=decide_eq_true rfl
 simp only [go_sem,simprocAttr,↓reduceIte,h1,beq_self_eq_true,pickV_f]
 simp only [go_sem,simprocAttr,↓reduceIte,Option.map_some,Option.getD_some]
 refine CallP.fnG (fun _=>l9_awake hW) ?_
 simp only [go_sem,simprocAttr,↓reduceIte]
 exact hst.app _
end Go.Proofs.Tryz
end
