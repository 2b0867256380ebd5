/- Texts that the last one of this claim rests on: a layer over the guide's own conditions for code; contracts of the functions that the law reaches, one by one. No conditions beside those of the given rows. -/
import Derived.Test.YtekjlnodoelblaaGreatDoorWah
import Derived.Test.YtekjlnodoelblaaGreatDoorWai
import Derived.Test.YtekjlnodoelblaaGreatDoorWan
import Derived.Test.YtekjlnodoelblaaGreatDoorWao
set_option linter.unusedSimpArgs false
set_option linter.unusedVariables false
section
namespace Go.Av
open Go

section
variable {P : Program} {W0 w w' : World} {C : Ctx} {σ : Store}
theorem pure_world {f : FuncId} {fn : Func} {args : List AV} {r : AV} (hf : P.funcs[f]? = some fn) (hb : fn.body.isSome = true) (hnm : (fn.name == "runtime.NumGoroutine") = false)
  (h : ∀ (w : World) (C : Ctx) (vs : List Value),RowKit.Below W0.heap.size W0 w → (∀ i ow,C.m i = some ow → ow.blk < w.heap.size) → args.length = vs.length → (∀ (i : Nat) (a : AV) (v : Value),args[i]? = some a → vs[i]? = some v → RelV P w C a v) →
   Calls P f vs.toArray w fun e w'=>∃ v,e = .returned v ∧ RelV P w' C r v ∧ RowKit.Below w.heap.size w w') : PureFn P W0 f args r:=fun σ w C vs hst hl hv =>
 .inl ⟨⟨fn,hf,hb,hnm⟩,(h w C vs hst.base (fun i ow hm=>hst.blk_lt hm) hl hv).mono fun e w' ⟨v,he,hr,hB⟩=>by
  have hs : Step w C w' C:=.below hB
  exact ⟨v,r,σ,C,he,⟨rfl,rfl⟩,hst.world hs fun i ow hm=>hB.block _ (hst.blk_lt hm),hr,hs⟩⟩
theorem cell_below (hb : RowKit.Below W0.heap.size W0 w) {a : Addr} {c : Value} (h : W0.cell? a = some c) : w.cell? a = some c:=by
 by_cases hl : a.block < W0.heap.size
 ·rw [hb.cell hl,h]
 ·have : W0.heap[a.block]? = none:=Array.getElem?_eq_none (by omega)
  simp only [World.cell?,this] at h
  cases h
theorem tabs_below (hb : RowKit.Below W0.heap.size W0 w) {a b : Nat} (h : Lib.Utf8Tabs a b W0) : Lib.Utf8Tabs a b w :=
 ⟨fun c hc=>cell_below hb (h.1 c hc),fun i hi=>⟨cell_below hb (h.2 i hi).1,cell_below hb (h.2 i hi).2⟩⟩
end
end Go.Av
namespace Go.Proofs.Tryz
open Go Go.Av
set_option maxRecDepth 10000
variable {W0 : World}

structure TabsOk (W0 : World) : Prop where
 utf8 : Lib.Utf8Tabs (Tryz.lays237_ren.g 3) (Tryz.lays237_ren.g 4) W0
 len : ∃ m,W0.cell? ⟨Tryz.lays146_ren.g 1,0,none⟩ = some (.int .i64 m)

theorem str_hasPrefix (s p : List UInt8) : PureFn prog W0 157 [.str s,.str p] (.bool (p.isPrefixOf s)):=by
 refine pure_below func157 (by kernel_rfl) (by kernel_rfl) fun w C vs hvl hv=>?_
 obtain _ | ⟨v1,_ | ⟨v2,_ | ⟨_,_⟩⟩⟩:=vs <;> simp at hvl
 have h1:=hv 0 _ _ rfl rfl
 have h2:=hv 1 _ _ rfl rfl
 have e1 : v1 = .string ⟨s.toArray⟩:=by have:=h1.one_inv rfl; cases this; rfl
 have e2 : v2 = .string ⟨p.toArray⟩:=by have:=h2.one_inv rfl; cases this; rfl
 subst e1 e2
 exact (Any.strings_HasPrefix Tryz.lays99 ⟨s.toArray⟩ ⟨p.toArray⟩ w).mono fun e w' ⟨he,hw⟩=>⟨_,he,fun w C=>.one rfl (.bool _),hw ▸ RowKit.Below.refl _ _⟩
theorem str_trimRight (s : List UInt8) : PureFn prog W0 224 [.str s,.str [32,9]] (.str (trimE s)):=by
 refine pure_below func224 (by kernel_rfl) (by kernel_rfl) fun w C vs hvl hv=>?_
 obtain _ | ⟨v1,_ | ⟨v2,_ | ⟨_,_⟩⟩⟩:=vs <;> simp at hvl
 have h1:=hv 0 _ _ rfl rfl
 have h2:=hv 1 _ _ rfl rfl
 have hs : s.length ≤ maxLen:=by have:=h1.one_inv rfl; cases this; assumption
 have e1 : v1 = .string ⟨s.toArray⟩:=by have:=h1.one_inv rfl; cases this; rfl
 have e2 : v2 = .string ⟨#[32,9]⟩:=by have:=h2.one_inv rfl; cases this; rfl
 subst e1 e2
 have h:=Any.strings_TrimRight_ascii Tryz.lays162 (fun w=>by kernel_rfl) (by kernel_rfl) ⟨s.toArray⟩ ⟨#[32,9]⟩ w (by show s.toArray.size ≤ _; rw [List.size_toArray]; rw [maxLen_eq] at hs; omega) (by decide) (fun j b hj=>by
  match j,hj with
  | 0,hj=>cases hj; decide
  | 1,hj=>cases hj; decide)
 have e : Lib.trimRightS s [32,9] = trimE s:=by
  unfold Lib.trimRightS trimE
  congr 2
  funext c
  rw [wsB_iff,Bool.eq_iff_iff]
  have h1 : c = 32 ↔ c.toNat = 32:=⟨fun e=>by rw [e]; rfl,fun e=>UInt8.toNat_inj.1 e⟩
  have h2 : c = 9 ↔ c.toNat = 9:=⟨fun e=>by rw [e]; rfl,fun e=>UInt8.toNat_inj.1 e⟩
  simp [h1,h2]
 refine h.mono fun e' w' ⟨he,hw⟩=>⟨_,he,fun w C=>?_,hw⟩
 show RelV prog w C _ (.string ⟨(Lib.trimRightS s [32,9]).toArray⟩)
 rw [e]
 have:=trimE_len s
 exact .one rfl (.str (by omega))
theorem white_gives (W : World) (x : Nat) : FnGives prog 185 #[] #[encR x] (.bool (wsR x)) W:=by
 go_enter func185,ntmps185
 go_wp2
 ·rename_i h
  go_ret
  refine ⟨?_,0,rfl⟩
  have : wsR x = true:=by unfold wsR; simp; omega
  rw [this]
  rfl
 ·rename_i h
  go_ret
  refine ⟨?_,0,rfl⟩
  have : ((x : Int) == 32 || (x : Int) == 9) = wsR x:=by
   unfold wsR
   rw [Bool.eq_iff_iff]
   simp
   omega
  rw [this]
  rfl
theorem str_trim {W0 : World} (hW : TabsOk W0) (s : List UInt8) : PureFn prog W0 184 [.str s,.fn 185 []] (.str (trimT s)):=by
 refine pure_world func184 (by kernel_rfl) (by kernel_rfl) fun w C vs hb hlow hvl hv=>?_
 obtain _ | ⟨v1,_ | ⟨v2,_ | ⟨_,_⟩⟩⟩:=vs <;> simp at hvl
 have h1:=hv 0 _ _ rfl rfl
 have h2:=hv 1 _ _ rfl rfl
 have hs : s.length ≤ maxLen:=by have:=h1.one_inv rfl; cases this; assumption
 have e1 : v1 = .string ⟨s.toArray⟩:=by have:=h1.one_inv rfl; cases this; rfl
 have e2 : v2 = .func (.func 185) #[] #[]:=by
  have:=h2.one_inv rfl
  cases this with
  | fn hl _ _ =>
   rename_i vs _ _
   cases vs with
   | nil=>rfl
   | cons=>simp at hl
 subst e1 e2
 have h:=Any.strings_TrimFunc_runes Tryz.lays237 185 #[] (enters_of func185 (by kernel_rfl) rfl) wsR ⟨s.toArray⟩ w (by show s.toArray.size ≤ _; rw [List.size_toArray]; rw [maxLen_eq] at hs; omega) (tabs_below hb hW.utf8) fun W x _ _=>white_gives W x
 refine h.mono fun e' w' ⟨he,hw⟩=>⟨_,he,?_,hw⟩
 rw [trimF_eq]
 have:=trimT_len s
 exact .one rfl (.str (by omega))
theorem str_split {W0 : World} (hW : TabsOk W0) (s : List UInt8) (hs : s.length ≤ 65536) : PureFn prog W0 155 [.str s,.str [10]] (strsAV (pieces s)):=by
 refine pure_world func155 (by kernel_rfl) (by kernel_rfl) fun w C vs hb hlow hvl hv=>?_
 obtain _ | ⟨v1,_ | ⟨v2,_ | ⟨_,_⟩⟩⟩:=vs <;> simp at hvl
 have h1:=hv 0 _ _ rfl rfl
 have h2:=hv 1 _ _ rfl rfl
 have e1 : v1 = .string ⟨s.toArray⟩:=by have:=h1.one_inv rfl; cases this; rfl
 have e2 : v2 = .string ⟨#[10]⟩:=by have:=h2.one_inv rfl; cases this; rfl
 subst e1 e2
 obtain ⟨m,hm⟩:=hW.len
 have h:=Any.strings_Split { Tryz.lays146 with } Tryz.lays146.i9 ⟨s.toArray⟩ ⟨#[10]⟩ m w (by show s.toArray.size < _; rw [List.size_toArray]; omega) (cell_below hb hm) (by decide)
 have hcnt : Lib.countB ⟨s.toArray⟩ ⟨#[10]⟩ = s.count 10:=Lib.count_one 10 s
 have hsp : (Lib.splitB ⟨#[10]⟩ 0 (Lib.countB ⟨s.toArray⟩ ⟨#[10]⟩) ⟨s.toArray⟩).map (·.data.toList) = pieces s:=by
  rw [Lib.splitB_data,hcnt]
  exact split_pieces _ _ rfl
 refine h.mono fun e' w' ⟨he,hw⟩=>⟨_,he,?_,hw ▸ (RowKit.Below.refl _ _).alloc (Nat.le_refl _) _⟩
 subst hw
 have hlen:=pieces_len s
 have hct:=List.count_le_length (a:=(10 : UInt8)) (l:=s)
 have hml : ((pieces s).map AV.str).length = s.count 10 + 1:=by rw [List.length_map,hlen]
 rw [hcnt,← hml]
 have hstr : ∀ (i : Nat) (x : AV),((pieces s).map AV.str)[i]? = some x → ∃ u,x = .str u ∧ (pieces s)[i]? = some u ∧ u.length ≤ maxLen:=fun i x hx=>by
  rw [List.getElem?_map,Option.map_eq_some_iff] at hx
  obtain ⟨u,hu,rfl⟩:=hx
  have:=pieces_mem_len (List.mem_of_getElem? hu)
  exact ⟨u,rfl,hu,by rw [maxLen_eq]; omega⟩
 refine .one rfl (.sl (fun i=>match (pieces s)[i]? with | some u=>[.string ⟨u.toArray⟩] | none=>[]) (Nat.le_refl _) (by rw [hml,maxLen_eq]; omega) (fun i x hx=>?_) (fun i x hx=>?_) fun _=>⟨_,0,rfl,fun i hi j c hj=>⟨?_,?_,fun id ow hm he=>?_⟩⟩)
 ·obtain ⟨u,rfl,hu,hl⟩:=hstr i x hx
  simp only [hu]
  exact .str hl
 ·obtain ⟨u,rfl,hu,hl⟩:=hstr i x hx
  simp only [hu]
  exact ⟨by kernel_rfl,rfl,by kernel_rfl⟩
 ·obtain ⟨x,hx⟩:=get_some hi
  obtain ⟨u,rfl,hu,hl⟩:=hstr i x hx
  simp only [hu] at hj
  have hj0 : j = 0:=by cases j with | zero=>rfl | succ j=>simp at hj
  subst hj0
  simp only [List.getElem?_cons_zero,Option.some.injEq] at hj
  subst hj
  have hsz : szOf prog 9 = 1:=by kernel_rfl
  rw [hsz,Nat.mul_one,Nat.add_zero,Nat.zero_add]
  have h3:=congrArg (fun l=>l[i]?) hsp
  simp only [List.getElem?_map,hu] at h3
  obtain ⟨b,hb1,hb2⟩:=Option.map_eq_some_iff.1 h3
  have hbe : b = ⟨u.toArray⟩:=by rw [← hb2]
  subst hbe
  rw [hcnt] at hb1
  simp only [World.cell?,World.alloc,Array.getElem?_push_size]
  simp [hb1]
 ·show w.heap.size < (w.heap.push _).size
  rw [Array.size_push]
  omega
 ·have:=hlow id ow hm
  omega
theorem utf8_dec {W0 : World} (hW : TabsOk W0) (s : List UInt8) (hs : s ≠ []) : PureFn prog W0 199 [.str s] (.tup [.int .i32 (decAt s 0).1,.int .i64 (decAt s 0).2]):=by
 refine pure_world func199 (by kernel_rfl) (by kernel_rfl) fun w C vs hb hlow hvl hv=>?_
 obtain _ | ⟨v1,_ | ⟨_,_⟩⟩:=vs <;> simp at hvl
 have h1:=hv 0 _ _ rfl rfl
 have e1 : v1 = .string ⟨s.toArray⟩:=by have:=h1.one_inv rfl; cases this; rfl
 subst e1
 have h:=Any.utf8_DecodeRuneInString Tryz.lays197 ⟨s.toArray⟩ w (tabs_below hb hW.utf8)
 have e : Lib.decodeGo ⟨s.toArray⟩ = decAt s 0:=by
  unfold Lib.decodeGo
  rw [if_neg (by show s.toArray.size ≠ 0; rw [List.size_toArray]; simpa using hs)]
  rfl
 refine h.mono fun e' w' ⟨he,hw⟩=>⟨_,he,?_,hw⟩
 rw [e]
 refine .tup rfl fun i a v ha hv=>?_
 match i,ha,hv with
 | 0,ha,hv=>cases ha; cases hv; exact .one rfl (.int _ _)
 | 1,ha,hv=>cases ha; cases hv; exact .one rfl (.int _ _)
end Go.Proofs.Tryz
end
section
namespace Go.Av
section
variable {P : Program} {W0 : World} {A : AState}
theorem ConvA.str {s d e : TypeId} {u : AV} {dst : Option Nat} {k : AState → Prop} {l : List UInt8} (h : elT P s = some e ∧ intT P e = some .u8 ∧ szOf P e = 1 ∧ isStrT P d = true) (hr : ReadL A.st u e (l.map byteAV)) (hk : k ((A.put dst (.str l)).withSt A.st)) : ConvA P s d u dst A k .mk :=
 .inr (.inl ⟨l,e,hr,h,hk⟩)
theorem ConvA.bytes {s d e : TypeId} {dst : Option Nat} {k : AState → Prop} {l : List UInt8} (h : isStrT P s = true ∧ elT P d = some e ∧ intT P e = some .u8 ∧ szOf P e = 1 ∧ prim P e = true) (hk : k ((A.put dst (.row e A.st.length 0 l.length)).withSt (A.st ++ [some (.cells e (l.map byteAV))]))) : ConvA P s d (.str l) dst A k .mk :=
 .inl ⟨l,e,rfl,h,hk⟩
end
end Go.Av
namespace Go.Proofs.Tryz
open Go Go.Av
set_option maxRecDepth 10000
variable {W0 : World}

theorem tx_trim {W0 : World} (hW : TabsOk W0) (s : List UInt8) : PureFn prog W0 136 [.str s] (.str (trimT s)):=by
 refine fn_pure [2] [] func136 rfl rfl ntmps136 rfl rfl (.str _) fun hs σ=>?_
 simp only [go_sem,simprocAttr,↓reduceIte]
 refine CallA.fn (str_trim hW s) ?_
 simp only [go_sem,simprocAttr,↓reduceIte]
 try exact .refl _
theorem tx_good {W0 : World} (hW : TabsOk W0) (s : List UInt8) : PureFn prog W0 156 [.str s] (.int .i64 (goodT s)):=by
 refine fn_pure [2] [] func156 rfl rfl ntmps156 rfl rfl (.int _ _) fun hs σ=>?_
 have hsl : s.length ≤ maxLen:=small_str (hs _ (by simp))
 simp only [go_sem,simprocAttr,↓reduceIte]
 refine LoopVC.falls [0,8] (.of (by kernel_rfl)) (fun k A=>∃ pos : Nat,A.st = σ ++ [some (.iter s pos)] ∧ pos ≤ s.length ∧ s.length - pos ≤ k ∧ goodF k (s.drop pos) pos = goodT s) s.length ?_ fun k B ⟨pos,hst,hi,hk,hI⟩=>?_
 ·simp only [go_sem,simprocAttr,↓reduceIte]
  exact ⟨0,rfl,Nat.zero_le _,Nat.le_refl _,rfl⟩
 simp only [go_sem,simprocAttr,↓reduceIte,hst]
 refine ⟨fun hlt=>⟨hi,?_⟩,fun hge=>weak_int ?_⟩
 ·have hd:=List.drop_eq_getElem_cons hlt
  generalize hc : s[pos] = c at hd
  obtain ⟨f,rfl⟩ : ∃ f,k = f + 1:=⟨k - 1,by omega⟩
  have hle:=(sizeT_le (s.drop pos)).1
  rw [List.length_drop] at hle
  refine CallA.fn (utf8_dec hW (s.drop pos) (by rw [hd]; simp)) ?_
  rw [decAt_zero s pos hlt]
  obtain ⟨d1,d2,d3⟩:=dec_size c (s.drop (pos + 1))
  rw [hd] at hI hle ⊢
  rw [goodF] at hI
  generalize hz : sizeT (c :: s.drop (pos + 1)) = n at *
  generalize hdr : decAt (c :: s.drop (pos + 1)) 0 = d at *
  obtain ⟨x,m⟩:=d
  simp only at d1 d2 d3 ⊢
  have h1c : c.toNat < 128 → n = 1:=fun h=>by rw [← hz]; exact sizeT_ascii h
  have hm : n ≠ 0 → m = n:=fun h=>by
   by_cases h8 : c.toNat < 128
   ·have:=d2 h8; simp only [Prod.mk.injEq] at this; rw [this.2,h1c h8]
   ·exact (d3 (by omega) (by omega)).1
  have hb : (((x : Int) == 65533 && (m : Int) == 1 || decide ((x : Int) < 32) && (x : Int) != 9) || (x : Int) == 127) = decide (n = 0 ∨ badC c = true):=by
   rw [Bool.eq_iff_iff]
   simp only [badC,Bool.or_eq_true,Bool.and_eq_true,beq_iff_eq,bne_iff_ne,decide_eq_true_eq,Bool.not_eq_true',decide_eq_false_iff_not]
   by_cases h8 : c.toNat < 128
   ·have:=d2 h8
    simp only [Prod.mk.injEq] at this
    have:=h1c h8
    omega
   ·by_cases h0 : n = 0
    ·have:=d1 h0
     simp only [Prod.mk.injEq] at this
     omega
    ·have:=d3 (by omega) (by omega)
     omega
  simp only [go_sem,simprocAttr,↓reduceIte,hst,hb]
  refine ⟨fun h=>?_,fun h=>?_⟩
  ·rw [if_pos h] at hI
   exact weak_int hI
  ·rw [if_neg h] at hI
   have hn0 : n ≠ 0:=fun e=>h (.inl e)
   have hmn:=hm hn0
   refine .here f (Nat.lt_succ_self f) ⟨pos + m,?_⟩
   rw [← hd,List.drop_drop] at hI
   simp only [go_sem,simprocAttr,↓reduceIte,hst]
   exact ⟨by omega,by omega,by rw [hmn]; exact hI⟩
 ·obtain rfl : pos = s.length:=by omega
  rw [List.drop_length] at hI
  rw [← hI]
  cases k <;> rfl
end Go.Proofs.Tryz
end
