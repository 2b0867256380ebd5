/- Texts that the last one of this claim rests on: a layer over the guide's own conditions for code; contracts of the functions that the law reaches, one by one. No conditions beside those of the given rows. -/
import Derived.Test.YtekjlnodoelblaaGreatDoorWah
import Derived.Test.YtekjlnodoelblaaGreatDoorWam
import Derived.Test.YtekjlnodoelblaaGreatDoorWax
import Derived.Test.YtekjlnodoelblaaGreatDoorWay
set_option linter.unusedSimpArgs false
set_option linter.unusedVariables false
section
namespace Go.Av
open Go
theorem ConvA.keep {P : Program} {A : AState} {s e : TypeId} {id off m : Nat} {xs : List AV} {dst : Option Nat} {k : AState → Prop} (hs : elT P s = some e) (he : intT P e = some .u8) (h0 : 0 < m) (hσ : A.st[id]? = some (some (.cells e xs))) (hm : off + m ≤ xs.length)
  (hk : k ((A.put dst (.sl e ((xs.drop off).take m))).withSt (A.st.set id none))) : ConvA P s s (.row e id off m) dst A k .mk:=.inr (.inr ⟨e,id,off,m,xs,rfl,⟨rfl,hs,he⟩,h0,hσ,hm,hk⟩)
end Go.Av
namespace Go.Proofs.Tryz
open Go Go.Av
set_option maxRecDepth 10000
variable {W0 : World}

theorem shape_at : eqShape prog 36 = some [1,1]:=by kernel_rfl
@[go_sem] theorem eqAt (a b c d : Int) : eqAgg prog 36 [.int .i64 a,.int .i64 b] [.int .i64 c,.int .i64 d] = some (a == c && b == d):=by
 simp only [eqAgg_K shape_at,eqKs,eqK1,if_true,Option.map_some,Option.bind_some,Bool.and_true]
theorem at0 (x : AV) (r : List AV) : atV (x :: r) 0 = x:=rfl
theorem l9_awake (hW : TabsOk W0) : PureFn prog W0 12 [] (.bool true):=by
 refine fn_pure [0] [2,4,5000006,5000007,5000012,5000013] func12 rfl rfl ntmps12 rfl rfl (.bool _) fun hs σ=>?_
 simp only [go_sem,simprocAttr,↓reduceIte]
 refine ConvA.keep (by kernel_rfl) (by kernel_rfl) (by decide) List.getElem?_concat_length (by simp) ?_
 simp only [go_sem,simprocAttr,↓reduceIte]
 refine CallA.fn (re_Packages hW awT1) ?_
 rw [aw9_1]
 simp only [go_sem,simprocAttr,↓reduceIte,pkgsAV,atAV]
 refine ConvA.keep (xs:=awT2.map byteAV) (by kernel_rfl) (by kernel_rfl) (by decide) (show (σ ++ [none,none,some (.cells 5 (awT2.map byteAV))])[σ.length + 2]? = _ by simp) (by simp [awT2]) ?_
 simp only [go_sem,simprocAttr,↓reduceIte]
 refine CallA.fn (re_Packages hW awT2) ?_
 rw [aw9_2]
 simp only [go_sem,simprocAttr,↓reduceIte,pkgsAV,atAV,pkgAV,clausesAV,at0,Option.map_some,Option.getD_some]
end Go.Proofs.Tryz
end
section
namespace Go.Proofs.Tryz
open Go Go.Av
set_option maxRecDepth 10000
variable {W0 : World}
theorem modN (n k : Int) (hk : 0 < k) (hk2 : k ≤ 1000) : ∃ m : Nat,IntKind.i64.wrap ((IntKind.u64.wrap n).tmod k) = m ∧ (m : Int) < k:=by
 have h0 : 0 ≤ IntKind.u64.wrap n:=by rw [IntKind.wrap_u64]; omega
 have h1 : 0 ≤ (IntKind.u64.wrap n).tmod k:=Int.tmod_nonneg _ h0
 have h2 : (IntKind.u64.wrap n).tmod k < k:=Int.tmod_lt_of_pos _ hk
 refine ⟨((IntKind.u64.wrap n).tmod k).toNat,?_,by omega⟩
 rw [wrap_in (by omega)]
 omega
theorem l9_many (hW : TabsOk W0) (n m : Int) : PureFn prog W0 4 [.int .i64 n,.int .i64 m] (.bool true):=by
 refine fn_pure [4] [2000047,2000005] func4 rfl rfl ntmps4 rfl rfl (.bool _) fun hs σ=>?_
 obtain ⟨a,ha,ha2⟩:=modN n 28 (by decide) (by decide)
 obtain ⟨b,hb,hb2⟩:=modN m 13 (by decide) (by decide)
 have hb3 : IntKind.i64.wrap ((b : Int) + 1) = ((b + 1 : Nat) : Int):=by rw [wrap_in (by omega)]; omega
 simp only [go_sem,simprocAttr,↓reduceIte,ha,hb,hb3]
 refine LoopVC.at [1,6,18] (.of (by kernel_rfl)) (fun A=>∃ v,∃ ps : List Pkg,A.env 5 = v ∧ Built σ A.st v 33 (ps.map pkgX) ∧ (∀ p ∈ ps,MayN p)) ?_ fun B ⟨v,ps,h5,hbu,hm⟩=>?_
 ·refine LoopVC.upto [1,6,18] (.of (by kernel_rfl)) a (fun i A=>∃ v,∃ ps : List Pkg,A.env 5 = v ∧ A.env 19 = .int .i64 i ∧ Built σ A.st v 33 (ps.map pkgX) ∧ (∀ p ∈ ps,MayN p) ∧ ps.length = i) 0 (Nat.zero_le _) ?_ fun i B hi ⟨v,ps,h5,h19,hbu,hm,hl⟩=>?_
  ·simp only [go_sem,simprocAttr,↓reduceIte]
   exact ⟨_,[],rfl,Built.nil (.refl _) _,by simp,rfl⟩
  have hcz : (((b + 1 : Nat) : Int) = 0) = False:=eq_false (by omega)
  have e1 : (i : Int).tmod ((b + 1 : Nat) : Int) = ((i % (b + 1) : Nat) : Int):=(Int.ofNat_tmod i (b + 1)).symm
  have e2 : (i : Int).tdiv ((b + 1 : Nat) : Int) = ((i / (b + 1) : Nat) : Int):=(Int.ofNat_tdiv i (b + 1)).symm
  have l1 : i % (b + 1) < 13:=Nat.lt_of_lt_of_le (Nat.mod_lt _ (by omega)) (by omega)
  have l2 : i / (b + 1) ≤ i:=Nat.div_le_self _ _
  generalize i % (b + 1) = r at *
  generalize i / (b + 1) = q at *
  have e3 : (q : Int).tmod 10 = ((q % 10 : Nat) : Int):=(Int.ofNat_tmod q 10).symm
  have e4 : (q : Int).tdiv 10 = ((q / 10 : Nat) : Int):=(Int.ofNat_tdiv q 10).symm
  have l3 : q % 10 < 10:=Nat.mod_lt _ (by omega)
  have l4 : q / 10 ≤ q:=Nat.div_le_self _ _
  generalize q % 10 = d at *
  generalize q / 10 = e at *
  have w0 : IntKind.i64.wrap (q : Int) = q:=wrap_in (by omega)
  have w1 : IntKind.i64.wrap (97 + (r : Int)) = 97 + r:=wrap_in (by omega)
  have w2 : IntKind.i64.wrap (48 + (d : Int)) = 48 + d:=wrap_in (by omega)
  have w3 : IntKind.i64.wrap (e : Int) = e:=wrap_in (by omega)
  have w4 : IntKind.i64.wrap (48 + (e : Int)) = 48 + e:=wrap_in (by omega)
  have u1 : IntKind.u8.wrap (97 + (r : Int)) = 97 + r:=by rw [IntKind.wrap_u8]; omega
  have u2 : IntKind.u8.wrap (48 + (d : Int)) = 48 + d:=by rw [IntKind.wrap_u8]; omega
  have u4 : IntKind.u8.wrap (48 + (e : Int)) = 48 + e:=by rw [IntKind.wrap_u8]; omega
  have hmx : (2 ≤ maxLen) = True:=eq_true (by rw [maxLen_eq]; omega)
  simp only [go_sem,simprocAttr,↓reduceIte,h5,h19,hbu.ok,hbu.un,hcz,e1,e2,e3,e4,w0,w1,w2,w3,w4,u1,u2,u4,hmx]
  refine ⟨fun hlt=>⟨.of (by kernel_rfl),by omega,by omega,?_⟩,fun hlt=>⟨_,_,rfl,hbu,hm⟩⟩
  refine AppA.own 1048576 (by kernel_rfl) hbu.bld (.lit _ _ _) (by simp; omega) fun v' σ' ha'=>?_
  have hb':=hbu.app ha'
  simp only [go_sem,simprocAttr,↓reduceIte,h5,h19,hb'.ok,hb'.un]
  refine ⟨hlt,_,ps ++ [⟨[112,UInt8.ofNat (97 + (r : Int)).toNat],[49,46,UInt8.ofNat (48 + (d : Int)).toNat,UInt8.ofNat (48 + (e : Int)).toNat],[],[],[],[],[],[],false⟩],rfl,int_succ hlt (by rw [maxLen_eq]; omega),?_,?_,by simp [hl]⟩
  ·rw [List.map_append]
   exact hb'
  ·intro p hp
   rcases List.mem_append.1 hp with hp | hp
   ·exact hm p hp
   ·rw [List.mem_singleton.1 hp]
    exact ⟨by simp,by simp,by simp⟩
 simp only [go_sem,simprocAttr,↓reduceIte,h5,hbu.ok,hbu.un]
 refine LoopVC.at [5,49] (.of (by kernel_rfl)) (fun A=>∃ w,∃ es : List EntN,A.env 6 = w ∧ Built B.st A.st w 46 (es.map entX) ∧ (∀ x ∈ es,MayN x.pkg)) ?_ fun B2 ⟨w,es,h6,hbw,hmw⟩=>?_
 ·refine LoopVC.upto [5,49] (.of (by kernel_rfl)) (b + 1) (fun i A=>∃ w,∃ es : List EntN,A.env 6 = w ∧ A.env 50 = .int .i64 i ∧ Built B.st A.st w 46 (es.map entX) ∧ (∀ x ∈ es,MayN x.pkg) ∧ es.length = i) 0 (Nat.zero_le _) ?_ fun i B2 hi ⟨w,es,h6,h50,hbw,hmw,hlw⟩=>?_
  ·simp only [go_sem,simprocAttr,↓reduceIte]
   exact ⟨_,[],rfl,Built.nil (.refl _) _,by simp,rfl⟩
  have w1 : IntKind.i64.wrap (97 + (i : Int)) = 97 + i:=wrap_in (by omega)
  have hmx : (2 ≤ maxLen) = True:=eq_true (by rw [maxLen_eq]; omega)
  have u1 : IntKind.u8.wrap (97 + (i : Int)) = 97 + i:=by rw [IntKind.wrap_u8]; omega
  simp only [go_sem,simprocAttr,↓reduceIte,h6,h50,hbw.ok,hbw.un,w1,u1,hmx]
  refine ⟨fun hlt=>⟨by omega,?_⟩,fun hlt=>⟨_,_,rfl,hbw,hmw⟩⟩
  refine AppA.own 1048576 (by kernel_rfl) hbw.bld (.lit _ _ _) (by simp; omega) fun v' σ' ha'=>?_
  have hb':=hbw.app ha'
  simp only [go_sem,simprocAttr,↓reduceIte,h6,h50,hb'.ok,hb'.un]
  refine ⟨hlt,_,es ++ [⟨⟨[112,UInt8.ofNat (97 + (i : Int)).toNat],[49],[],[],[],[],[],[],false⟩,false,false⟩],rfl,int_succ hlt (by rw [maxLen_eq]; omega),?_,?_,by simp [hlw]⟩
  ·rw [List.map_append]
   exact hb'
  ·intro p hp
   rcases List.mem_append.1 hp with hp | hp
   ·exact hmw p hp
   ·rw [List.mem_singleton.1 hp]
    exact ⟨by simp,by simp,by simp⟩
 have hwk : Weak v (pkgsAV ps):=hbu.weak.trans (.sub ((pkgsX_sub _).sl _))
 have hwe : Weak w (entsAV es):=hbw.weak.trans (.sub ((entsX_sub _).sl _))
 have hbv:=hbu.on hbw.ext
 simp only [go_sem,simprocAttr,↓reduceIte,h5,h6,hbu.ok,hbu.un,hbw.ok,hbw.un]
 refine CallA.fn ((re_mayAll ps hm).weak (.cons hwk .nil)) ?_
 simp only [go_sem,simprocAttr,↓reduceIte,h5,h6,hbu.ok,hbu.un,hbw.ok,hbw.un]
 refine CallA.fn ((r9_mayAll ps).weak (.cons hwk .nil)) ?_
 simp only [go_sem,simprocAttr,↓reduceIte,h5,h6,hbu.ok,hbu.un,hbw.ok,hbw.un,beq_self_eq_true]
 refine CallP.fnG (fun _=>(re_mayEnts es hmw).weak (.cons hwe .nil)) ?_
 simp only [go_sem,simprocAttr,↓reduceIte,h5,h6,hbu.ok,hbu.un,hbw.ok,hbw.un,beq_self_eq_true]
 refine CallP.fnG (fun _=>(r9_mayEnts es).weak (.cons hwe .nil)) ?_
 simp only [go_sem,simprocAttr,↓reduceIte,h5,h6,hbu.ok,hbu.un,hbw.ok,hbw.un,beq_self_eq_true]
 refine CallP.fnG (fun _=>l9_awake hW) ?_
 simp only [go_sem,simprocAttr,↓reduceIte]
 exact hbv.ext
end Go.Proofs.Tryz
end
