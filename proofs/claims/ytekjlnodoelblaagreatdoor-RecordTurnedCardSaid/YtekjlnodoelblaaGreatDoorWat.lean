/- Texts that the last one of this claim rests on: a layer over the guide's own conditions for code; contracts of the functions that the law reaches, one by one. No conditions beside those of the given rows. -/
import Derived.Test.YtekjlnodoelblaaGreatDoorWaj
import Derived.Test.YtekjlnodoelblaaGreatDoorWap
import Derived.Test.YtekjlnodoelblaaGreatDoorWaq
import Derived.Test.YtekjlnodoelblaaGreatDoorWas
set_option linter.unusedSimpArgs false
set_option linter.unusedVariables false
section
namespace Go.Av
theorem IdsLt.tup2 {n : Nat} {a b : AV} (h1 : IdsLt n a) (h2 : IdsLt n b) : IdsLt n (.tup [a,b]):=.tup fun x hx=>by
 rcases List.mem_cons.1 hx with rfl | hx
 ·exact h1
 ·rw [List.mem_singleton.1 hx]; exact h2
theorem weak_tup2 {a b a' b' : AV} (h1 : Weak a a') (h2 : Weak b b') : Weak (.tup [a,b]) (.tup [a',b']):=.tup rfl fun i x y hx hy=>by
 match i,hx,hy with
 | 0,hx,hy=>cases hx; cases hy; exact h1
 | 1,hx,hy=>cases hx; cases hy; exact h2
theorem IdsLt.map {α : Type} {n : Nat} {e : TypeId} {f : α → AV} {l : List α} (h : ∀ a ∈ l,IdsLt n (f a)) : IdsLt n (.sl e (l.map f)):=.sl fun x hx=>by
 obtain ⟨a,ha,rfl⟩:=List.mem_map.1 hx
 exact h a ha
theorem Ext.at {σ st : Store} {o : Option SObj} (h : Ext (σ ++ [o]) st) : st[σ.length]? = some o:=by
 rw [h.eq,List.getElem?_append_left (by simp)]
 simp
theorem Ext.low {σ st : Store} {o : Option SObj} (h : Ext (σ ++ [o]) st) : Ext σ st:=by
 rw [h.eq,List.append_assoc]
 exact (Ext.refl σ).app _
end Go.Av
namespace Go.Proofs.Tryz
open Go Go.Av
set_option maxRecDepth 10000
variable {W0 : World}

def bytesAV (b : List UInt8) : AV:=.sl 5 (b.map byteAV)
def atAV (e : Int × Int) : AV:=.agg 36 [.int .i64 e.1,.int .i64 e.2]
@[go_sem] theorem okM_strsAV (g : Option Bool) (l : List (List UInt8)) : okM g (strsAV l) = True:=eq_true trivial
@[go_sem] theorem unm_strsAV (l : List (List UInt8)) : unm (strsAV l) = strsAV l:=rfl
@[go_sem] theorem fitsB_strsAV (P : Program) (t : TypeId) (l : List (List UInt8)) : fitsB P t (strsAV l) = prim P t:=rfl
@[go_sem] theorem okM_bytesAV (g : Option Bool) (l : List UInt8) : okM g (bytesAV l) = True:=eq_true trivial
@[go_sem] theorem unm_bytesAV (l : List UInt8) : unm (bytesAV l) = bytesAV l:=rfl
@[go_sem] theorem fitsB_bytesAV (P : Program) (t : TypeId) (l : List UInt8) : fitsB P t (bytesAV l) = prim P t:=rfl
theorem strs_ids (n : Nat) (l : List (List UInt8)) : IdsLt n (strsAV l):=.map fun _ _=>.str _
theorem at_ids (n : Nat) (e : Int × Int) : IdsLt n (atAV e):=.agg fun x hx=>by
 rcases List.mem_cons.1 hx with rfl | hx
 ·exact .int _ _
 ·rw [List.mem_singleton.1 hx]; exact .int _ _
theorem tx_lines {W0 : World} (hW : TabsOk W0) (b : List UInt8) : PureFn prog W0 96 [bytesAV b] (.tup [strsAV (linesT b).1,atAV (linesT b).2]):=by
 refine fn_pureN [.tmp 2,.cell 3 36] [5000012] func96 rfl rfl ntmps96 rfl rfl (.tup2 (strs_ids _ _) (at_ids _ _)) fun hs σ=>?_
 have hsl:=(small_map (hs _ (List.mem_cons_self ..))).1
 simp only [go_sem,simprocAttr,↓reduceIte,bytesAV,List.length_map]
 refine ⟨fun h=>?_,fun h=>ConvA.str ⟨by kernel_rfl,by kernel_rfl,by kernel_rfl,by kernel_rfl⟩ (.sl _ _ _) ?_⟩
 ·rw [linesT,if_pos (by omega)]
  exact weak_tup2 (.nils _) (.refl _)
 have hL : linesT b = if (badL 0 (linesL b)).1 ≠ 0 then ([],badL 0 (linesL b)) else (linesL b,(0,0)):=by rw [linesT,if_neg (by omega)]
 simp only [go_sem,simprocAttr,↓reduceIte]
 refine CallA.fn (str_split hW b (by omega)) ?_
 obtain ⟨u,x,hp⟩:=stz_snoc (show pieces b ≠ [] by obtain ⟨h,t,e⟩:=pieces_ne b; rw [e]; simp)
 have hlen:=pieces_len b
 have hct:=List.count_le_length (a:=(10 : UInt8)) (l:=b)
 have hul : u.length ≤ 65536:=by rw [hp] at hlen; simp at hlen; omega
 have hLn : linesL b = if x = [] then u else u ++ [x]:=by
  unfold linesL dropE
  rw [hp,List.getLast?_concat]
  by_cases hx : x = []
  ·rw [if_pos (by rw [hx]),if_pos hx]; simp
  ·rw [if_neg (by simpa using hx),if_neg hx]
 have hg : (u ++ [x])[u.length]? = some x:=by simp
 have hw : IntKind.i64.wrap (((u.length + 1 : Nat) : Int) - 1) = (u.length : Nat):=by rw [wrap_in (by omega)]; omega
 simp only [go_sem,simprocAttr,↓reduceIte,strsAV,hp,List.length_map,hw,atV_map hg]
 have hlt : u.length < ((u ++ [x]).map AV.str).length:=by simp
 refine ⟨by omega,JoinVC.at [3] (by kernel_rfl) (fun A=>A.env 4 = strsAV (linesL b) ∧ A.st = σ ++ [some (.cells 36 [.agg 36 [.int .i64 0,.int .i64 0]])]) (fun h=>?_) (fun h=>?_) fun B ⟨h4,hst⟩=>?_⟩
 ·have hx : x = []:=by simpa using h
  simp only [go_sem,simprocAttr,↓reduceIte,hw,List.length_map]
  refine ⟨by omega,?_⟩
  rw [strsAV,hLn,if_pos hx]
  simp
 ·have hx : x ≠ []:=by simpa using h
  simp only [go_sem,simprocAttr,↓reduceIte]
  rw [strsAV,hLn,if_neg hx]
 generalize linesL b = L at *
 have hLl : L.length ≤ 65537:=by
  rw [hLn]
  split
  ·omega
  ·simp; omega
 simp only [go_sem,simprocAttr,↓reduceIte,h4,hst,strsAV,List.length_map]
 refine LoopVC.upto [3,4,26,27] (.of (by kernel_rfl)) L.length (fun i A=>A.env 28 = .int .i64 i ∧ A.st = σ ++ [some (.cells 36 [.agg 36 [.int .i64 0,.int .i64 0]])] ∧ (badL 0 (L.take i)).1 = 0) 0 (Nat.zero_le _) ?_ fun i B2 hi ⟨h28,hst2,hI⟩=>?_
 ·simp only [go_sem,simprocAttr,↓reduceIte,hst]
  rfl
 simp only [go_sem,simprocAttr,↓reduceIte,h28,hst2,List.length_map]
 refine ⟨fun hc=>⟨hc,?_⟩,fun hc=>?_⟩
 ·obtain ⟨s,hs2⟩:=get_some hc
  have hbad : badL 0 L = if 1000 < s.length then (2,(i : Int) + 1) else if 0 ≤ goodT s then (3,(i : Int) + 1) else badL (i + 1) (L.drop (i + 1)):=by
   have e:=badL_app (m:=L.drop i) hI
   rw [List.take_append_drop,List.length_take,Nat.min_eq_left hi,Nat.zero_add] at e
   rw [e,List.drop_eq_getElem_cons hc,(List.getElem?_eq_some_iff.1 hs2).2,badL]
  have hw1 : IntKind.i64.wrap ((i : Int) + 1) = (i : Int) + 1:=wrap_in (by omega)
  simp only [go_sem,simprocAttr,↓reduceIte,h28,hst2,atV_map hs2,hw1]
  refine ⟨fun h=>?_,fun h=>CallA.fn (tx_good hW s) ?_⟩
  ·rw [if_pos (by omega)] at hbad
   rw [hL,hbad]
   exact weak_tup2 (.nils _) (.refl _)
  rw [if_neg (by omega)] at hbad
  simp only [go_sem,simprocAttr,↓reduceIte,h28,hst2,hw1]
  refine ⟨fun h=>?_,fun h=>⟨hc,rfl,?_⟩⟩
  ·rw [if_pos (by omega)] at hbad
   rw [hL,hbad]
   exact weak_tup2 (.nils _) (.refl _)
  ·rw [take_succ_get hs2,badL_app hI,List.length_take,Nat.min_eq_left hi,Nat.zero_add,badL,if_neg (by omega),if_neg (by omega)]
   rfl
 ·rw [List.take_of_length_le hc] at hI
  rw [hL,if_neg (by simpa using hI),h4]
  exact .refl _
end Go.Proofs.Tryz
end
section
namespace Go.Proofs.Tryz
open Go Go.Av
set_option maxRecDepth 10000
variable {W0 : World}

theorem sz_lower (s : List UInt8) : PureFn prog W0 138 [.str s] (.str (s.map lowB)):=by
 refine fn_pure [2] [5000007,5000029] func138 rfl rfl ntmps138 rfl rfl (.str _) fun hs σ=>?_
 have hsl : s.length ≤ maxLen:=small_str (hs _ (by simp))
 simp only [go_sem,simprocAttr,↓reduceIte]
 refine ConvA.bytes (e:=5) ⟨by kernel_rfl,by kernel_rfl,by kernel_rfl,by kernel_rfl,by kernel_rfl⟩ ?_
 simp only [go_sem,simprocAttr,↓reduceIte]
 refine LoopVC.at [3] (.of (by kernel_rfl)) (fun A=>A.st = σ ++ [some (.cells 5 ((s.map lowB).map byteAV))]) ?_ fun B hst=>?_
 ·refine LoopVC.upto [3,8,9] (.of (by kernel_rfl)) s.length (fun i A=>A.env 10 = .int .i64 i ∧ A.st = σ ++ [some (.cells 5 (((s.take i).map lowB ++ s.drop i).map byteAV))]) 0 (Nat.zero_le _) ?_ fun i B hi ⟨h10,hst⟩=>?_
  ·simp only [go_sem,simprocAttr,↓reduceIte]
   simp
  have hat : B.st[σ.length]? = some (some (.cells 5 (((s.take i).map lowB ++ s.drop i).map byteAV))):=by rw [hst]; simp
  simp only [go_sem,simprocAttr,↓reduceIte,h10,look_id hat,live_id hat,setLook_id hat]
  refine ⟨fun hc=>?_,fun hc=>?_⟩
  ·obtain ⟨c,hg⟩:=get_some hc
   have hget : (((s.take i).map lowB ++ s.drop i).map byteAV)[i]? = some (byteAV c):=by
    rw [List.getElem?_map,List.getElem?_append_right (by simp; omega)]
    simp [Nat.min_eq_left hi,List.getElem?_drop,hg]
   have hset : (((s.take i).map lowB ++ s.drop i).map byteAV).set i (byteAV (lowB c)) = (((s.take (i + 1)).map lowB ++ s.drop (i + 1)).map byteAV):=by
    rw [← List.map_set,List.set_append_right _ _ (by simp; omega)]
    simp only [List.length_map,List.length_take,Nat.min_eq_left hi,Nat.sub_self]
    rw [List.drop_eq_getElem_cons hc,List.set_cons_zero,take_succ_get hg,List.map_append (f:=lowB),List.append_assoc]
    rfl
   have hcl:=c.toNat_lt
   simp only [go_sem,simprocAttr,↓reduceIte,h10,look_id hat,live_id hat,setLook_id hat,Nat.zero_add,hget,Option.bind_some,Option.isSome_some,Option.getD_some,byteAV]
   refine ⟨hc,fun h=>?_,fun h=>?_⟩
   ·simp only [Bool.and_eq_true,decide_eq_true_eq] at h
    have hlow : byteAV (lowB c) = .int .u8 (IntKind.u8.wrap (IntKind.u8.wrap ((c.toNat : Int) + 97) - 65)):=by
     unfold byteAV lowB
     rw [if_pos (by omega),IntKind.wrap_u8,IntKind.wrap_u8,UInt8.toNat_add]
     simp
     omega
    refine ⟨hc,hc,int_succ hc hsl,?_⟩
    rw [← hlow,hset,hst]
    simp
   ·refine ⟨hc,int_succ hc hsl,?_⟩
    have hlow : lowB c = c:=by
     unfold lowB
     rw [if_neg]
     intro hn
     simp only [Bool.and_eq_false_iff,decide_eq_false_iff_not] at h
     omega
    rw [hst,take_succ_get hg,List.drop_eq_getElem_cons hc,(List.getElem?_eq_some_iff.1 hg).2]
    simp [hlow]
  ·rw [hst,List.take_of_length_le hc,List.drop_eq_nil_of_le hc,List.append_nil]
 have hat : B.st[σ.length]? = some (some (.cells 5 ((s.map lowB).map byteAV))):=by rw [hst]; simp
 simp only [go_sem,simprocAttr,↓reduceIte,hst]
 refine ConvA.str (e:=5) (l:=s.map lowB) ⟨by kernel_rfl,by kernel_rfl,by kernel_rfl,by kernel_rfl⟩ (.inr (.inr ⟨σ.length,0,s.length,(s.map lowB).map byteAV,rfl,by simp only [go_sem,simprocAttr,↓reduceIte,hat],by simp,by rw [List.drop_zero,List.take_of_length_le (by simp)]⟩)) ?_
 simp only [go_sem,simprocAttr,↓reduceIte,hst]
 try simp
theorem sz_same (a b : List UInt8) : PureFn prog W0 83 [.str a,.str b] (.bool (sameT a b)):=by
 refine fn_pure [4] [] func83 rfl rfl ntmps83 rfl rfl (.bool _) fun hs σ=>?_
 simp only [go_sem,simprocAttr,↓reduceIte]
 refine CallA.fn (sz_lower a) ?_
 simp only [go_sem,simprocAttr,↓reduceIte]
 refine CallA.fn (sz_lower b) ?_
 simp only [go_sem,simprocAttr,↓reduceIte]
 refine weak_bool ?_
 unfold sameT
 rw [Bool.eq_iff_iff]
 simp
theorem sz_white (s : List UInt8) : PureFn prog W0 158 [.str s] (.bool (whiteH s)):=by
 refine fn_pure [2] [] func158 rfl rfl ntmps158 rfl rfl (.bool _) fun hs σ=>?_
 cases s with
 | nil =>
  simp only [go_sem,simprocAttr,↓reduceIte]
  exact weak_bool rfl
 | cons c r =>
  simp only [go_sem,simprocAttr,↓reduceIte]
  exact weak_bool (by show _ = wsB c; rw [wsB_iff,Bool.eq_iff_iff]; simp; omega)
theorem sz_trimEnd (s : List UInt8) : PureFn prog W0 201 [.str s] (.str (trimE s)):=by
 refine fn_pure [2] [] func201 rfl rfl ntmps201 rfl rfl (.str _) fun hs σ=>?_
 simp only [go_sem,simprocAttr,↓reduceIte]
 refine CallA.fn (str_trimRight s) ?_
 simp only [go_sem,simprocAttr,↓reduceIte]
 try exact .refl _
theorem badN_iff (i : Nat) (c : UInt8) : ((decide ((c.toNat : Int) < 33) || decide (126 < (c.toNat : Int))) || ((i : Int) == 0) && ((c.toNat : Int) == 35 || (c.toNat : Int) == 45)) = badN i c:=by
 unfold badN
 rw [Bool.eq_iff_iff]
 simp only [Bool.or_eq_true,Bool.and_eq_true,decide_eq_true_eq,beq_iff_eq]
 omega
theorem sz_name (s : List UInt8) : PureFn prog W0 175 [.str s] (.int .i64 (nameN s)):=by
 refine fn_pure [2] [] func175 rfl rfl ntmps175 rfl rfl (.int _ _) fun hs σ=>?_
 have hsl : s.length ≤ maxLen:=small_str (hs _ (by simp))
 simp only [go_sem,simprocAttr,↓reduceIte]
 refine LoopVC.falls [0,6] (.of (by kernel_rfl)) (fun k A=>∃ pos : Nat,A.st = σ ++ [some (.iter s pos)] ∧ k = s.length - pos ∧ pos ≤ s.length ∧ nameG pos (s.drop pos) = nameN s) s.length ⟨0,?_⟩ fun k B ⟨pos,hst,hk,hp,hI⟩=>?_
 ·simp only [go_sem,simprocAttr,↓reduceIte]
  exact ⟨by omega,by omega,rfl⟩
 simp only [go_sem,simprocAttr,↓reduceIte,hst]
 refine ⟨fun hlt=>?_,fun hge=>?_⟩
 ·obtain ⟨c,hg⟩:=get_some hlt
  have hd:=List.drop_eq_getElem_cons hlt
  rw [(List.getElem?_eq_some_iff.1 hg).2] at hd
  rw [hd,nameG] at hI
  rcases Nat.lt_or_ge c.toNat 128 with h8 | h8
  ·rw [decAt_ascii hg h8]
   have hb:=badN_iff pos c
   simp only [go_sem,simprocAttr,↓reduceIte,hb]
   refine ⟨fun h=>weak_int ?_,fun h=>⟨fun h2=>weak_int ?_,fun h2=>.here (s.length - (pos + 1)) (by omega) ⟨pos + 1,?_⟩⟩⟩
   ·rw [if_pos (by omega)] at hI; rw [hI]
   ·rw [if_neg (by omega),if_pos h2] at hI; rw [← hI]; rfl
   ·rw [if_neg (by omega),if_neg (by simp [h2])] at hI
    simp only [go_sem,simprocAttr,↓reduceIte,hst]
    exact ⟨by omega,hI⟩
  ·have hbig:=decAt_big hg h8
   have hbad : badN pos c = true:=by
    unfold badN
    simp
    omega
   rw [if_neg (by omega),if_pos hbad] at hI
   refine ⟨fun h=>by omega,fun _=>⟨fun _=>weak_int (by rw [← hI]; rfl),fun h=>?_⟩⟩
   simp only [Bool.or_eq_false_iff,decide_eq_false_iff_not] at h
   omega
 ·rw [List.drop_eq_nil_of_le hge] at hI
  have : pos = s.length:=by omega
  rw [← hI,nameG,this]
  exact weak_int rfl
end Go.Proofs.Tryz
end
section
namespace Go.Av
theorem pow_small {k : Nat} (h : k ≤ 8) : (10 : Int) ^ k ≤ 100000000:=by
 have : (10 : Nat) ^ k ≤ 10 ^ 8:=Nat.pow_le_pow_right (by omega) h
 have h2 : ((10 ^ k : Nat) : Int) ≤ ((10 ^ 8 : Nat) : Int):=Int.ofNat_le.2 this
 simpa using h2
end Go.Av
namespace Go.Proofs.Tryz
open Go Go.Av
set_option maxRecDepth 10000
variable {W0 : World}

def numAV (s : List UInt8) : AV:=match numT s with
 | some n=>.tup [.int .i64 n,.bool true]
 | none=>.tup [.int .i64 0,.bool false]
theorem num_none {s : List UInt8} (h : s.length = 0 ∨ 9 < s.length ∨ (1 < s.length ∧ s.head? = some 48) ∨ s.all digitC = false) : numAV s = .tup [.int .i64 0,.bool false]:=by
 unfold numAV numT
 rw [if_pos h]
theorem num_some {s : List UInt8} (h : ¬ (s.length = 0 ∨ 9 < s.length ∨ (1 < s.length ∧ s.head? = some 48) ∨ s.all digitC = false)) : numAV s = .tup [.int .i64 (numV s 0),.bool true]:=by
 unfold numAV numT
 rw [if_neg h]
theorem ids_num (s : List UInt8) : IdsLt 0 (numAV s):=by
 unfold numAV
 split <;> exact .tup2 (.int _ _) (.bool _)
theorem digit_false {s : List UInt8} {i : Nat} {c : UInt8} (h : s[i]? = some c) (hc : digitC c = false) : s.all digitC = false:=by
 cases hh : s.all digitC with
 | false=>rfl
 | true =>
  have:=List.all_eq_true.1 hh c (List.mem_of_getElem? h)
  rw [hc] at this; cases this
theorem numV_drop {s : List UInt8} {i : Nat} {c : UInt8} {n : Int} (h : s[i]? = some c) : numV (s.drop i) n = numV (s.drop (i + 1)) (10 * n + (c.toNat - 48)):=by
 obtain ⟨h1,h2⟩:=List.getElem?_eq_some_iff.1 h
 rw [List.drop_eq_getElem_cons h1,h2,numV]

theorem head48 (s : List UInt8) : (decide (1 < (s.length : Int)) && ((s[0]?.getD 0).toNat : Int) == 48) = decide (1 < s.length ∧ s.head? = some 48):=by
 rw [Bool.eq_iff_iff]
 cases s with
 | nil=>simp
 | cons c r =>
  have h1 : c = 48 ↔ c.toNat = 48:=⟨fun e=>by rw [e]; rfl,fun e=>UInt8.toNat_inj.1 e⟩
  simp [h1]
  omega
theorem tx_number (s : List UInt8) : PureFn prog W0 134 [.str s] (numAV s):=by
 refine fn_pure [2,3] [] func134 rfl rfl ntmps134 rfl rfl (ids_num s) fun hs σ=>?_
 have hsl : s.length ≤ maxLen:=small_str (hs _ (by simp))
 have h48:=head48 s
 simp only [go_sem,simprocAttr,↓reduceIte,h48]
 refine ⟨fun h=>by simp only [Bool.and_eq_true,decide_eq_true_eq] at h; omega,fun h=>?_,fun h=>?_⟩
 ·simp only [Bool.or_eq_true,decide_eq_true_eq,beq_iff_eq] at h
  rw [num_none]
  ·exact .refl _
  ·rcases h with (h | h) | h
   ·exact .inl (by omega)
   ·exact .inr (.inl (by omega))
   ·exact .inr (.inr (.inl h))
 have hc : ¬ (s.length = 0 ∨ 9 < s.length ∨ (1 < s.length ∧ s.head? = some 48)):=by
  simp only [Bool.or_eq_false_iff,decide_eq_false_iff_not,beq_eq_false_iff_ne] at h
  rintro (hx | hx | hx)
  ·omega
  ·omega
  ·exact h.2 hx
 refine LoopVC.at [] (.of (by kernel_rfl)) (fun A=>A.env 4 = .int .i64 (numV s 0) ∧ Ext σ A.st ∧ s.all digitC = true) ?_ fun B ⟨h4,hst,hall⟩=>?_
 ·refine LoopVC.falls [26] (.of (by kernel_rfl)) (fun k A=>∃ (pos : Nat) (n : Int),A.st = σ ++ [some (.iter s pos)] ∧ A.env 4 = .int .i64 n ∧ k = s.length - pos ∧ pos ≤ s.length ∧ 0 ≤ n ∧ n < 10 ^ pos ∧ numV (s.drop pos) n = numV s 0 ∧ (s.take pos).all digitC = true) s.length ⟨0,0,?_⟩ fun k B ⟨pos,n,hst,h4,hk,hp,hn0,hn1,hI,hd⟩=>?_
  ·simp only [go_sem,simprocAttr,↓reduceIte]
   exact ⟨by omega,by omega,rfl⟩
  simp only [go_sem,simprocAttr,↓reduceIte,hst,h4]
  refine ⟨fun hlt=>?_,fun hge=>?_⟩
  ·obtain ⟨c,hg⟩:=get_some hlt
   rcases Nat.lt_or_ge c.toNat 128 with h8 | h8
   ·rw [decAt_ascii hg h8]
    simp only [go_sem,simprocAttr,↓reduceIte,h4,hst]
    refine ⟨fun h=>?_,fun h=>?_⟩
    ·rw [num_none (.inr (.inr (.inr (digit_false hg ?_))))]
     ·exact .refl _
     ·simp only [Bool.or_eq_true,decide_eq_true_eq] at h
      simp [digitC]
      omega
    ·have hdc : digitC c = true:=by
      simp only [Bool.or_eq_false_iff,decide_eq_false_iff_not] at h
      simp [digitC]
      omega
     have hp8:=pow_small (k:=pos) (by omega)
     have hw1 : IntKind.i64.wrap (n * 10) = n * 10:=wrap_in (by omega)
     have hw2 : IntKind.i32.wrap ((c.toNat : Int) - 48) = (c.toNat : Int) - 48:=by
      simp only [digitC,Bool.and_eq_true,decide_eq_true_eq] at hdc
      rw [IntKind.wrap_i32]
      omega
     have hw3 : IntKind.i64.wrap ((c.toNat : Int) - 48) = (c.toNat : Int) - 48:=wrap_in (by omega)
     have hw4 : IntKind.i64.wrap (n * 10 + ((c.toNat : Int) - 48)) = 10 * n + ((c.toNat : Int) - 48):=by rw [wrap_in (by omega)]; omega
     refine .here (s.length - (pos + 1)) (by omega) ⟨pos + 1,10 * n + (c.toNat - 48),?_⟩
     simp only [go_sem,simprocAttr,↓reduceIte,h4,hst,hw1,hw2,hw3,hw4]
     simp only [digitC,Bool.and_eq_true,decide_eq_true_eq] at hdc
     refine ⟨by omega,by omega,by rw [Int.pow_succ]; omega,?_,?_⟩
     ·rw [← numV_drop hg]; exact hI
     ·rw [take_succ_get hg,List.all_append,hd]
      simp [digitC]
      omega
   ·have hbig:=decAt_big hg h8
    refine ⟨fun h=>?_,fun h=>?_⟩
    ·rw [num_none (.inr (.inr (.inr (digit_false hg ?_))))]
     ·exact .refl _
     ·simp [digitC]
      omega
    ·simp only [Bool.or_eq_false_iff,decide_eq_false_iff_not] at h
     omega
  ·have : pos = s.length:=by omega
   subst this
   rw [List.drop_length] at hI
   rw [List.take_length] at hd
   exact ⟨by rw [← hI]; rfl,(Ext.refl _).app _,hd⟩
 simp only [go_sem,simprocAttr,↓reduceIte,h4]
 rw [num_some (by rw [hall]; simpa using hc)]
 exact ⟨.refl _,hst⟩
theorem foldF_snoc (l : List (List UInt8)) (s : List UInt8) : foldF (l ++ [s]) = foldF l ++ (if trimT s = [] then [] else [trimT s]):=by
 unfold foldF
 rw [List.map_append,List.filter_append]
 congr 1
 by_cases h : trimT s = [] <;> simp [h]
theorem foldF_len (l : List (List UInt8)) : (foldF l).length ≤ l.length:=by
 unfold foldF
 exact Nat.le_trans (List.length_filter_le _ _) (by simp)
theorem sz_fold {W0 : World} (hW : TabsOk W0) (l : List (List UInt8)) (hl : l.length ≤ 1048576) (hsum : sumL l + l.length ≤ 140737488355328) : PureFn prog W0 81 [strsAV l] (.str (foldT l)):=by
 refine fn_pure [2] [] func81 rfl rfl ntmps81 rfl rfl (.str _) fun hs σ=>?_
 simp only [go_sem,simprocAttr,↓reduceIte,strsAV,List.length_map]
 refine LoopVC.at [] (.of (by kernel_rfl)) (fun A=>∃ v,A.env 3 = v ∧ Built σ A.st v 9 ((foldF l).map .str)) ?_ fun B ⟨v,h3,hb⟩=>?_
 ·refine LoopVC.upto [6,7] (.of (by kernel_rfl)) l.length (fun i A=>∃ v,A.env 3 = v ∧ A.env 8 = .int .i64 i ∧ Built σ A.st v 9 ((foldF (l.take i)).map .str)) 0 (Nat.zero_le _) ?_ fun i B hi ⟨v,h3,h8,hb⟩=>?_
  ·simp only [go_sem,simprocAttr,↓reduceIte]
   exact ⟨_,rfl,Built.nil (.refl _) _⟩
  simp only [go_sem,simprocAttr,↓reduceIte,h3,h8,hb.ok,hb.un,List.length_map]
  refine ⟨fun hc=>⟨hc,?_⟩,fun hc=>⟨v,rfl,by rw [List.take_of_length_le hc] at hb; exact hb⟩⟩
  obtain ⟨s,hsi⟩:=get_some hc
  simp only [go_sem,simprocAttr,↓reduceIte,atV_map hsi]
  refine CallA.fn (tx_trim hW s) ?_
  have hfs:=foldF_snoc (l.take i) s
  rw [← take_succ_get hsi] at hfs
  have hfl:=foldF_len (l.take i)
  rw [List.length_take] at hfl
  simp only [go_sem,simprocAttr,↓reduceIte,h3,h8,hb.ok,hb.un]
  refine ⟨fun h=>?_,fun h=>?_⟩
  ·refine AppA.own 1048577 (by kernel_rfl) hb.bld (.lit _ _ _) (by simp; omega) fun v' σ' ha'=>?_
   simp only [go_sem,simprocAttr,↓reduceIte,h8]
   refine ⟨hc,v',rfl,int_succ hc (by rw [maxLen_eq]; omega),?_⟩
   rw [hfs,if_neg h]
   simpa using hb.app ha'
  ·refine ⟨hc,v,rfl,int_succ hc (by rw [maxLen_eq]; omega),?_⟩
   rw [hfs,if_pos h,List.append_nil]
   exact hb
 simp only [go_sem,simprocAttr,↓reduceIte,h3,hb.ok,hb.un]
 have hjl : (joinL (foldF l) [32]).length ≤ 140737488355328:=Nat.le_trans (foldT_len l) hsum
 refine CallA.fn ((str_join (foldF l) [32] (by have:=foldF_len l; omega) hjl).weak (.cons hb.weak (.cons (.refl _) .nil))) ?_
 simp only [go_sem,simprocAttr,↓reduceIte]
 first | exact hb.ext | exact ⟨.refl _,hb.ext⟩
end Go.Proofs.Tryz
end
section
namespace Go.Av
structure LowE (b : Nat) (σ σ' : Store) : Prop where
 len : σ.length ≤ σ'.length
 old : ∀ j,j < b → σ'[j]? = σ[j]?
theorem LowE.refl (b : Nat) (σ : Store) : LowE b σ σ:=⟨Nat.le_refl _,fun _ _=>rfl⟩
theorem LowE.trans {b : Nat} {σ σ' σ'' : Store} (h : LowE b σ σ') (k : LowE b σ' σ'') : LowE b σ σ'':=⟨Nat.le_trans h.len k.len,fun j hj=>(k.old j hj).trans (h.old j hj)⟩
theorem LowE.set {b : Nat} {σ σ' : Store} (h : LowE b σ σ') {i : Nat} (hi : b ≤ i) (o : Option SObj) : LowE b σ (σ'.set i o):=⟨by simpa using h.len,fun j hj=>by rw [List.getElem?_set_ne (by omega)]; exact h.old j hj⟩
theorem LowE.app {b : Nat} {σ σ' : Store} (h : LowE b σ σ') (l : Store) (hb : b ≤ σ'.length) : LowE b σ (σ' ++ l):=⟨by have:=h.len; simp; omega,fun j hj=>by rw [List.getElem?_append_left (by omega)]; exact h.old j hj⟩
theorem Bld.tok {st : Store} {v : AV} {e : TypeId} {xs : List AV} (h : Bld st v e xs) {t : Nat} (ht : t ∈ foot v) : tokOf v = some t:=by
 rcases h with ⟨rfl,_⟩ | rfl | ⟨k,rfl,_⟩
 ·simp [foot] at ht
 ·simp [foot] at ht
 ·simp [foot] at ht
  rw [ht]; rfl
theorem Ext.keep {σ st : Store} {i : Nat} {x : Option SObj} (h : Ext σ st) (hi : σ[i]? = some x) : st[i]? = some x:=by
 rw [h.eq,List.getElem?_append_left (List.getElem?_eq_some_iff.1 hi).1,hi]
def fieldS (st : PS) (s : List UInt8) (ln : Int) : Except Int PS :=
 if fieldN s < 0 then .error 3
 else if st.op = false ∧ st.l.length = 200 then .error 12
 else
  let l:=if st.op = true then st.l else st.l ++ [⟨ln,[]⟩]
  if (lastFields l).length = 40 then .error 12
  else if hasF (lastFields l) (s.take (fieldN s).toNat) = true then .error 4
  else .ok ⟨updLast (addFld ⟨s.take (fieldN s).toNat,[trimT (s.drop ((fieldN s).toNat + 1))]⟩) l,true⟩
def furtherS (st : PS) (s : List UInt8) : Except Int PS:=if st.op = false then .error 3 else .ok ⟨updLast (addLine (dotT (trimE (s.drop 1)))) st.l,true⟩
theorem takeS_eq (st : PS) (s : List UInt8) (ln : Int) : takeS st s ln = if hashH s = true then .ok st else if trimT s = [] then .ok ⟨st.l,false⟩ else if whiteH s = true then furtherS st s else fieldS st s ln:=rfl
end Go.Av
namespace Go.Proofs.Tryz
open Go Go.Av
set_option maxRecDepth 10000
variable {W0 : World}

def fldAV (f : Fld) : AV:=.agg 28 [.str f.name,strsAV f.lines]
def fldsAV (l : List Fld) : AV:=.sl 28 (l.map fldAV)
def stzAV (x : Stz) : AV:=.agg 24 [.int .i64 x.line,fldsAV x.fields]
def stzsAV (l : List Stz) : AV:=.sl 24 (l.map stzAV)
@[go_sem] theorem unm_fldsAV (l : List Fld) : unm (fldsAV l) = fldsAV l:=rfl
@[go_sem] theorem fitsB_fldsAV (P : Program) (t : TypeId) (l : List Fld) : fitsB P t (fldsAV l) = prim P t:=rfl
@[go_sem] theorem okM_stzsAV (g : Option Bool) (l : List Stz) : okM g (stzsAV l) = True:=eq_true trivial
@[go_sem] theorem unm_stzsAV (l : List Stz) : unm (stzsAV l) = stzsAV l:=rfl
@[go_sem] theorem fitsB_stzsAV (P : Program) (t : TypeId) (l : List Stz) : fitsB P t (stzsAV l) = prim P t:=rfl
def rdO (L : AV) (op : Bool) : Option SObj:=some (.cells 138 [.agg 138 [L,.bool op]])
def fldR (n : List UInt8) (LV : AV) : AV:=.agg 28 [.str n,LV]
def FldsV (st : Store) (b : Nat) (FV : AV) (fs : List Fld) : Prop:=(FV = .nils ∧ fs = []) ∨ ∃ idf v f LV,FV = .row 28 idf 0 (v.length + 1) ∧ fs = v ++ [f] ∧ st[idf]? = some (some (.cells 28 (v.map fldAV ++ [fldR f.name LV]))) ∧ b ≤ idf ∧
 Bld st LV 9 (f.lines.map .str) ∧ ∀ t ∈ foot LV,b ≤ t
structure Cur (st : Store) (rid idl : Nat) (u : List Stz) (x : Int) (FV : AV) (fs : List Fld) : Prop where
 obj : st[rid]? = some (rdO (.row 24 idl 0 (u.length + 1)) true)
 row : st[idl]? = some (some (.cells 24 (u.map stzAV ++ [.agg 24 [.int .i64 x,FV]])))
 low : rid ≤ idl
 fld : FldsV st rid FV fs
def RD (st : Store) (rid : Nat) (q : PS) : Prop :=
 (q.op = false ∧ q.l = [] ∧ st[rid]? = some (rdO .nils false)) ∨
 (q.op = false ∧ q.l ≠ [] ∧ ∃ idl,rid ≤ idl ∧ st[rid]? = some (rdO (.row 24 idl 0 q.l.length) false) ∧ st[idl]? = some (some (.cells 24 (q.l.map stzAV)))) ∨
 (q.op = true ∧ ∃ idl u x FV fs,q.l = u ++ [⟨x,fs⟩] ∧ fs ≠ [] ∧ Cur st rid idl u x FV fs)
theorem RD.obj {st : Store} {rid : Nat} {q : PS} (h : RD st rid q) : ∃ L,st[rid]? = some (rdO L q.op):=by
 rcases h with ⟨h1,_,h2⟩ | ⟨h1,_,idl,_,h2,_⟩ | ⟨h1,idl,u,x,FV,fs,_,_,h2⟩
 ·exact ⟨_,by rw [h1]; exact h2⟩
 ·exact ⟨_,by rw [h1]; exact h2⟩
 ·exact ⟨_,by rw [h1]; exact h2.obj⟩

theorem sz_has_row {σ : Store} {FV : AV} {fs : List Fld} {b : Nat} (h : FldsV σ b FV fs) (hl : fs.length ≤ 1048576) (n : List UInt8) : ACall prog W0 177 [FV,.str n] σ fun r σ'=>r = .bool (hasF fs n) ∧ σ' = σ:=by
 refine fn_st [4] [6] func177 rfl rfl ntmps177 rfl rfl (.bool _) fun hs=>?_
 rcases h with ⟨rfl,rfl⟩ | ⟨idf,v,f,LV,rfl,rfl,hst,_,hb,_⟩
 ·simp only [go_sem,simprocAttr,↓reduceIte]
  refine LoopVC.falls [1,7,8] (.of (by kernel_rfl)) (fun k A=>A.env 9 = .int .i64 0 ∧ A.st = σ) 0 ?_ fun k B ⟨h9,hst⟩=>?_
  ·simp only [go_sem,simprocAttr,↓reduceIte]
  simp only [go_sem,simprocAttr,↓reduceIte,h9,hst]
  refine EndR.ret ?_
  simp only [go_sem,simprocAttr,↓reduceIte,hst]
  exact weak_bool rfl
 ·have hget : ∀ i,i < v.length + 1 → ∃ g W,(v ++ [f])[i]? = some g ∧ (v.map fldAV ++ [fldR f.name LV])[i]? = some (.agg 28 [.str g.name,W]):=fun i hi=>by
   rcases Nat.lt_succ_iff_lt_or_eq.1 hi with h | h
   ·obtain ⟨g,hg⟩:=get_some h
    exact ⟨g,strsAV g.lines,by rw [List.getElem?_append_left h,hg],by rw [List.getElem?_append_left (by simpa using h),List.getElem?_map,hg]; rfl⟩
   ·subst h
    exact ⟨f,LV,by simp,by rw [List.getElem?_append_right (by simp)]; simp [fldR]⟩
  simp only [go_sem,simprocAttr,↓reduceIte]
  refine LoopVC.upto [1,7,8] (.of (by kernel_rfl)) (v.length + 1) (fun i A=>A.env 9 = .int .i64 i ∧ Ext σ A.st ∧ hasF ((v ++ [f]).take i) n = false) 0 (Nat.zero_le _) ?_ fun i B hi ⟨h9,hst2,hI⟩=>?_
  ·simp only [go_sem,simprocAttr,↓reduceIte]
   exact ⟨.refl _,rfl⟩
  have hst3:=hst2.keep hst
  simp only [go_sem,simprocAttr,↓reduceIte,h9,live_id hst3]
  refine ⟨fun hc=>?_,fun hc=>EndR.ret ?_⟩
  ·obtain ⟨g,W,hg1,hg2⟩:=hget i hc
   simp only [go_sem,simprocAttr,↓reduceIte,h9,look_id hst3,live_id hst3,Nat.zero_add,hg2,Option.bind_some,Option.isSome_some,Option.getD_some]
   refine ⟨hc,CallA.fn (sz_same _ _) ?_⟩
   simp only [go_sem,simprocAttr,↓reduceIte,h9]
   refine ⟨fun h=>EndR.ret ?_,fun h=>⟨hc,int_succ hc (by rw [maxLen_eq]; simp at hl; omega),hst2.app _,?_⟩⟩
   ·simp only [go_sem,simprocAttr,↓reduceIte]
    refine ⟨weak_bool ?_,hst2.app _⟩
    unfold hasF
    exact (List.any_eq_true.2 ⟨g,List.mem_of_getElem? hg1,h⟩).symm
   ·rw [take_succ_get hg1]
    unfold hasF at hI ⊢
    rw [List.any_append,hI]
    simp [h]
  ·simp only [go_sem,simprocAttr,↓reduceIte]
   rw [List.take_of_length_le (by simp; omega)] at hI
   exact ⟨weak_bool hI.symm,hst2⟩
theorem sz_further {σ : Store} {rid : Nat} {q : PS} (h : RD σ rid q) (hok : PSok q) (s : List UInt8) (hs1 : s ≠ []) (hln : ∀ x ∈ q.l,∀ f ∈ x.fields,f.lines.length ≤ 1048575) :
  ACall prog W0 159 [.ptr 138 rid 0 [],.str s] σ fun r σ'=>LowE rid σ σ' ∧ ∃ e : Int,r = .int .i64 e ∧ match furtherS q s with | .error e'=>e = e' | .ok q'=>e = 0 ∧ RD σ' rid q':=by
 refine fn_call [4] [] func159 rfl rfl ntmps159 rfl rfl fun hs=>?_
 obtain ⟨L,hobj⟩:=h.obj
 have hobj' : σ[rid]? = some (some (.cells 138 [.agg 138 [L,.bool q.op]])):=hobj
 simp only [go_sem,simprocAttr,↓reduceIte,look_id hobj']
 refine ⟨fun hop=>EndR.ret ?_,fun hop=>⟨List.length_pos_iff.2 hs1,CallA.fn (sz_trimEnd _) ?_⟩⟩
 ·simp only [go_sem,simprocAttr,↓reduceIte]
  exact ⟨_,.refl _,.refl _ _,3,rfl,by unfold furtherS; rw [if_pos hop]⟩
 rcases h with ⟨h1,_⟩ | ⟨h1,_⟩ | ⟨_,idl,u,x,FV,fs,hl,hne,hc⟩
 ·rw [h1] at hop; cases hop
 ·rw [h1] at hop; cases hop
 rcases hc.fld with ⟨_,h2⟩ | ⟨idf,v,f,LV,rfl,rfl,hf,hbf,hb,hbt⟩
 ·exact absurd h2 hne
 have hfs : furtherS q s = .ok ⟨u ++ [⟨x,v ++ [⟨f.name,f.lines ++ [dotT (trimE (s.drop 1))]⟩]⟩],true⟩:=by
  unfold furtherS
  rw [if_neg (by rw [hop]; decide),hl,updLast_snoc]
  unfold addLine
  rw [updLast_snoc]
 rw [hfs]
 have hfl:=hln ⟨x,v ++ [f]⟩ (by rw [hl]; simp) f (by simp)
 generalize hT : trimE (s.drop 1) = T
 simp only [go_sem,simprocAttr,↓reduceIte]
 refine JoinVC.at [0] (by kernel_rfl) (fun A=>A.env 1 = .str (dotT T) ∧ A.st = σ) (fun hh=>?_) (fun hh=>?_) fun B ⟨h1,hst⟩=>?_
 ·simp only [go_sem,simprocAttr,↓reduceIte]
  unfold dotT
  rw [if_pos (by simpa using hh)]
 ·simp only [go_sem,simprocAttr,↓reduceIte]
  unfold dotT
  rw [if_neg (by simpa using hh)]
 have hob:=hc.obj
 have hob' : σ[rid]? = some (some (.cells 138 [.agg 138 [.row 24 idl 0 (u.length + 1),.bool true]])):=hob
 have hg1 : (u.map stzAV ++ [AV.agg 24 [.int .i64 x,.row 28 idf 0 (v.length + 1)]])[u.length]? = some (.agg 24 [.int .i64 x,.row 28 idf 0 (v.length + 1)]):=by simp
 have hg2 : (v.map fldAV ++ [AV.agg 28 [.str f.name,LV]])[v.length]? = some (.agg 28 [.str f.name,LV]):=by simp
 simp only [fldR] at hf
 have hul : u.length ≤ 200:=by have:=hok.len; rw [hl] at this; simp at this; omega
 have hvl : v.length ≤ 40:=by have:=hok.flds _ (show (⟨x,v ++ [f]⟩ : Stz) ∈ q.l by rw [hl]; simp); simp at this; omega
 have hw1 : IntKind.i64.wrap (((u.length + 1 : Nat) : Int) - 1) = (u.length : Nat):=by rw [wrap_in (by omega)]; omega
 have hw2 : IntKind.i64.wrap (((v.length + 1 : Nat) : Int) - 1) = (v.length : Nat):=by rw [wrap_in (by omega)]; omega
 have hbs:=hb.notM
 simp only [go_sem,simprocAttr,↓reduceIte,h1,hst,look_id hob',look_id hc.row,live_id hc.row,hw1,hw2,hg1,Option.bind_some,Option.isSome_some,Option.getD_some,look_id hf,live_id hf,hg2,fldR,okM_notM hbs,unm_notM hbs,Nat.zero_add]
 refine ⟨.of (by kernel_rfl),Nat.lt_succ_self _,Nat.lt_succ_self _,AppA.ownS (σ:=σ) (by simp only [go_sem,simprocAttr,↓reduceIte,hst]) 1048576 (by kernel_rfl) hb (.lit _ _ _) (by simp; omega) fun LV' σ1 ha=>?_⟩
 have hne1 : ∀ {i : Nat} {te : TypeId} {zs : List AV},σ[i]? = some (some (.cells te zs)) → tokOf LV ≠ some i:=fun hi e=>by
  rcases hb with ⟨rfl,_⟩ | rfl | ⟨t,rfl,ht⟩
  ·cases e
  ·cases e
  ·simp only [tokOf,Option.some.injEq] at e
   subst e
   rw [hi] at ht
   cases ht
 have kp : ∀ {i : Nat} {te : TypeId} {zs : List AV},σ[i]? = some (some (.cells te zs)) → σ1[i]? = some (some (.cells te zs)):=fun hi=>by
  rw [ha.old _ (List.getElem?_eq_some_iff.1 hi).1 (hne1 hi),hi]
 have hf1:=kp hf
 have hbs1:=ha.bld.notM
 simp only [go_sem,simprocAttr,↓reduceIte,look_id hf1,setLook_id hf1,hg2,Option.bind_some,Option.isSome_some,Option.getD_some,okM_notM hbs1,unm_notM hbs1]
 refine ⟨by rw [ha.bld.fits]; kernel_rfl,EndR.ret ?_⟩
 have hset : (v.map fldAV ++ [AV.agg 28 [.str f.name,LV]]).set v.length (.agg 28 [.str f.name,LV']) = v.map fldAV ++ [AV.agg 28 [.str f.name,LV']]:=by
  rw [List.set_append_right _ _ (by simp)]
  simp
 have hidr : idf ≠ rid:=fun e=>by rw [e,hob'] at hf; cases hf
 have hidl : idf ≠ idl:=fun e=>by rw [e,hc.row] at hf; cases hf
 have hrl : rid < σ.length:=(List.getElem?_eq_some_iff.1 hob').1
 have htok : ∀ j,j < rid → tokOf LV ≠ some j:=fun j hj e=>by
  have : j ∈ foot LV:=by
   revert e
   cases LV <;> simp [tokOf,foot]
   intro e; exact e.symm
  have:=hbt j this
  omega
 have hlow : LowE rid σ σ1:=⟨ha.len,fun j hj=>ha.old j (by omega) (htok j hj)⟩
 simp only [go_sem,simprocAttr,↓reduceIte]
 rw [hset]
 refine ⟨_,.refl _,by simpa using ha.len,hlow.set hbf _,0,rfl,rfl,.inr (.inr ⟨rfl,idl,u,x,_,_,rfl,by simp,?_,?_,hc.low,.inr ⟨idf,v,_,LV',rfl,rfl,?_,hbf,?_,?_⟩⟩)⟩
 ·rw [List.getElem?_set_ne hidr]; exact kp hob'
 ·rw [List.getElem?_set_ne hidl]; exact kp hc.row
 ·rw [List.getElem?_set_self (by have:=(List.getElem?_eq_some_iff.1 hf1).1; omega)]
  rfl
 ·rcases ha.bld with ⟨e1,e2⟩ | e1 | ⟨t,e1,e2⟩
  ·simp at e2
  ·right; left; rw [e1]; simp
  ·right; right
   refine ⟨t,by rw [e1]; simp,?_⟩
   rw [List.getElem?_set_ne (fun e=>by rw [← e,hf1] at e2; cases e2)]
   exact e2
 ·intro t ht
  have ht' : tokOf LV' = some t:=ha.bld.tok ht
  rcases ha.tok with e | ⟨t2,e,hle⟩
  ·have : t ∈ foot LV:=by
    have h3 : tokOf LV = some t:=by rw [← e]; exact ht'
    revert h3
    cases LV <;> simp [tokOf,foot]
    intro e; exact e.symm
   exact hbt t this
  ·rw [e] at ht'; cases ht'; omega
end Go.Proofs.Tryz
end
section
namespace Go.Av
theorem kill_len (x : AV) (σ : Store) : (killOf x σ).length = σ.length:=by
 unfold killOf
 split <;> simp
theorem kill_get {x : AV} {σ l : Store} {i : Nat} (hi : i < σ.length) (hne : rowId x ≠ some i) : (killOf x σ ++ l)[i]? = σ[i]?:=by
 rw [List.getElem?_append_left (by rw [kill_len]; exact hi)]
 unfold killOf
 split
 ·rw [List.getElem?_set_ne (fun e=>hne (by rw [← e]; rfl))]
 ·rfl
theorem kill_new (x : AV) (σ : Store) (o : Option SObj) : (killOf x σ ++ [o])[σ.length]? = some o:=by
 rw [List.getElem?_append_right (by rw [kill_len]; exact Nat.le_refl _),kill_len,Nat.sub_self]
 rfl
theorem RowSt.app {σ : Store} {v : AV} {e : TypeId} {xs : List AV} (h : RowSt σ v e xs) (l : Store) : RowSt (σ ++ l) v e xs:=by
 rcases h with h | h | ⟨id,off,m,zs,h1,h2,h3⟩
 ·exact .inl h
 ·exact .inr (.inl h)
 ·exact .inr (.inr ⟨id,off,m,zs,h1,by rw [List.getElem?_append_left ((List.getElem?_eq_some_iff.1 h2).1)]; exact h2,h3⟩)
theorem RowSt.neId {σ : Store} {v : AV} {e te : TypeId} {xs zs : List AV} {i : Nat} (h : RowSt σ v e xs) (hi : σ[i]? = some (some (.cells te zs))) (hne : te ≠ e) : rowId v ≠ some i:=by
 rcases h with ⟨rfl,_⟩ | rfl | ⟨id,off,m,ys,rfl,h2,_⟩
 ·intro e; cases e
 ·intro e; cases e
 ·intro e
  cases e
  rw [hi] at h2
  cases h2
  exact hne rfl
end Go.Av
namespace Go.Proofs.Tryz
open Go Go.Av
set_option maxRecDepth 10000
variable {W0 : World}

theorem FldsV.up {st st' : Store} {b : Nat} {FV : AV} {fs : List Fld} (h : FldsV st b FV fs) (hk : ∀ (i : Nat) (o : Option SObj),st[i]? = some o → st'[i]? = some o) : FldsV st' b FV fs:=by
 rcases h with h | ⟨idf,v,f,LV,h1,h2,h3,h4,h5,h6⟩
 ·exact .inl h
 ·refine .inr ⟨idf,v,f,LV,h1,h2,hk _ _ h3,h4,?_,h6⟩
  rcases h5 with h5 | h5 | ⟨t,h5,h7⟩
  ·exact .inl h5
  ·exact .inr (.inl h5)
  ·exact .inr (.inr ⟨t,h5,hk _ _ h7⟩)
theorem Cur.up {st st' : Store} {rid idl : Nat} {u : List Stz} {x : Int} {FV : AV} {fs : List Fld} (h : Cur st rid idl u x FV fs) (hk : ∀ (i : Nat) (o : Option SObj),st[i]? = some o → st'[i]? = some o) : Cur st' rid idl u x FV fs :=
 ⟨hk _ _ h.obj,hk _ _ h.row,h.low,h.fld.up hk⟩
theorem FldsV.len {st : Store} {b : Nat} {FV : AV} {fs : List Fld} (h : FldsV st b FV fs) : lenV FV = .int .i64 fs.length:=by
 rcases h with ⟨rfl,rfl⟩ | ⟨idf,v,f,LV,rfl,rfl,_⟩
 ·rfl
 ·simp [lenV]
theorem FldsV.notM {st : Store} {b : Nat} {FV : AV} {fs : List Fld} (h : FldsV st b FV fs) : NotM FV:=by
 rcases h with ⟨rfl,rfl⟩ | ⟨idf,v,f,LV,rfl,rfl,_⟩ <;> trivial
theorem FldsV.lenC {st : Store} {b : Nat} {FV : AV} {fs : List Fld} (h : FldsV st b FV fs) (P : Program) (t : TypeId) : lenC P t FV = ((elT P t).isSome = true):=by
 rcases h with ⟨rfl,rfl⟩ | ⟨idf,v,f,LV,rfl,rfl,_⟩ <;> rfl
theorem RD.shut {st : Store} {rid : Nat} {q : PS} (h : RD st rid q) (hop : q.op = false) : ∃ L,st[rid]? = some (rdO L false) ∧ RowSt st L 24 (q.l.map stzAV) ∧ ∀ id,rowId L = some id → rid ≤ id:=by
 rcases h with ⟨h1,h0,h2⟩ | ⟨h1,_,idl,hle,h2,h3⟩ | ⟨h1,_⟩
 ·exact ⟨.nils,h2,.inl ⟨rfl,by rw [h0]; rfl⟩,fun id h=>by cases h⟩
 ·exact ⟨_,h2,.inr (.inr ⟨idl,0,q.l.length,_,rfl,h3,by simp,by rw [List.drop_zero,List.take_of_length_le (by simp)]⟩),fun id h=>by cases h; exact hle⟩
 ·rw [h1] at hop; cases hop
theorem sz_field {W0 : World} (hW : TabsOk W0) {σ : Store} {rid : Nat} {q : PS} (h : RD σ rid q) (hok : PSok q) (s : List UInt8) (hsl : s.length ≤ 65536) (ln : Int) :
  ACall prog W0 160 [.ptr 138 rid 0 [],.str s,.int .i64 ln] σ fun r σ'=>LowE rid σ σ' ∧ ∃ e : Int,r = .int .i64 e ∧ match fieldS q s ln with | .error e'=>e = e' | .ok q'=>e = 0 ∧ RD σ' rid q':=by
 refine fn_callM [.tmp 6] [2000008,4000004,3000080,2000088,4000015] func160 rfl rfl ntmps160 rfl rfl fun hs=>?_
 obtain ⟨L,hobj⟩:=h.obj
 have hobj' : σ[rid]? = some (some (.cells 138 [.agg 138 [L,.bool q.op]])):=hobj
 have hrl : rid < σ.length:=(List.getElem?_eq_some_iff.1 hobj').1
 simp only [go_sem,simprocAttr,↓reduceIte]
 refine CallA.fn (sz_name s) ?_
 simp only [go_sem,simprocAttr,↓reduceIte]
 rcases nameN_eq s with ⟨n1,n2⟩ | ⟨n1,n2,n3⟩
 ·refine ⟨fun hh=>EndM.ret ?_,fun hh=>?_⟩
  ·simp only [go_sem,simprocAttr,↓reduceIte]
   exact ⟨_,.refl _,.refl _ _,3,rfl,by unfold fieldS; rw [n1]; rfl⟩
  ·simp at hh
   omega
 have hb : (((nameN s : Nat) : Int) == 0 || ((nameN s : Nat) : Int) == (s.length : Int)) = false:=by
  simp
  omega
 refine ⟨fun hh=>(by rw [hb] at hh; cases hh),fun _=>?_⟩
 generalize hn : nameN s = n at *
 have hw : IntKind.i64.wrap ((n : Int) + 1) = ((n + 1 : Nat) : Int):=wrap_in (by omega)
 simp only [go_sem,simprocAttr,↓reduceIte,hw]
 refine ⟨.of (by kernel_rfl),⟨Nat.zero_le _,by omega⟩,by omega,CallP.fn (tx_trim hW _) ?_⟩
 generalize hT : trimT (s.drop (n + 1)) = T at *
 have hS : σ[rid]? = some (some (.cells 138 [.agg 138 [L,.bool q.op]])):=hobj'
 obtain ⟨fo,hfo⟩ : ∃ fo : Option SObj,fo = some (.cells 28 [.agg 28 [.str (s.take n),.lit 9 [.str T]]]):=⟨_,rfl⟩
 have hE : (σ ++ [fo])[rid]? = some (some (.cells 138 [.agg 138 [L,.bool q.op]])):=by rw [List.getElem?_append_left hrl]; exact hS
 have hP : (σ ++ [fo])[σ.length]? = some fo:=by simp
 simp only [go_sem,simprocAttr,↓reduceIte,← hfo,look_id hE]
 refine JoinVC.at [0,8] (by kernel_rfl) (fun A=>∃ idl u x FV fs,Cur A.st rid idl u x FV fs ∧ A.st[σ.length]? = some fo ∧ LowE rid σ A.st ∧ σ.length < A.st.length ∧ u ++ [⟨x,fs⟩] = (if q.op = true then q.l else q.l ++ [⟨ln,[]⟩]) ∧ (q.op = false → q.l.length ≠ 200)) (fun hop=>?_) (fun hop=>?_) fun B ⟨idl,u,x,FV,fs,hc,hp,hlow,hlen,hl,h200⟩=>?_
 ·have hop' : q.op = false:=by simpa using hop
  obtain ⟨L2,hob2,hrow,hrid⟩:=RD.shut h hop'
  have hLe : L2 = L:=by
   have e:=hob2.symm.trans hobj'
   simp only [rdO,Option.some.injEq,SObj.cells.injEq,List.cons.injEq,AV.agg.injEq] at e
   exact e.2.1.2.1
  subst hLe
  rw [hop'] at hE hobj' hS
  simp only [go_sem,simprocAttr,↓reduceIte,look_id hE,setLook_id hE,hrow.ok,hrow.un,hrow.len,hrow.lenC,List.length_map]
  have hne : rowId L2 ≠ some rid:=hrow.neId hob2 (by decide)
  have hfS : ∀ e,fieldS q s ln = .error e ↔ fieldS q s ln = .error e:=fun e=>.rfl
  refine ⟨fun h200=>EndM.ret ?_,fun h200=>?_⟩
  ·simp only [go_sem,simprocAttr,↓reduceIte]
   refine ⟨_,.refl _,by simp,(LowE.refl _ _).app _ (by omega),12,rfl,?_⟩
   unfold fieldS
   rw [n1,if_neg (by omega),if_pos ⟨hop',by omega⟩]
  ·have hll:=hok.len
   refine AppA.row 1048576 (by kernel_rfl) (hrow.app _) (.lit _ _ _) (by simp; omega) (fun h=>by cases h) fun _=>?_
   have hne2 : rowId L2 ≠ some σ.length:=fun e=>by
    rcases hrow with ⟨rfl,_⟩ | rfl | ⟨id,off,m,ys,rfl,h2,_⟩
    ·cases e
    ·cases e
    ·cases e
     have:=(List.getElem?_eq_some_iff.1 h2).1
     omega
   have g1 : ∀ l,(killOf L2 (σ ++ [fo]) ++ l)[rid]? = some (some (.cells 138 [.agg 138 [L2,.bool false]])):=fun l=>by rw [kill_get (by simp; omega) hne]; exact hE
   have g2 : ∀ l,(killOf L2 (σ ++ [fo]) ++ l)[σ.length]? = some fo:=fun l=>by rw [kill_get (by simp) hne2]; exact hP
   have g3 : ∀ o,(killOf L2 (σ ++ [fo]) ++ [o])[σ.length + 1]? = some o:=fun o=>by
    have:=kill_new L2 (σ ++ [fo]) o
    simpa using this
   have hrk : ∀ o,rid < (killOf L2 (σ ++ [fo]) ++ [o]).length:=fun o=>by rw [List.length_append,kill_len]; simp; omega
   simp only [go_sem,simprocAttr,↓reduceIte,look_id (g1 _),setLook_id (g1 _),look_set (hrk _),setLook_set (hrk _),List.length_map]
   have hr1 : rid ≠ σ.length + 1:=by omega
   have hr2 : rid ≠ σ.length:=by omega
   refine ⟨σ.length + 1,q.l,ln,.nils,[],⟨?_,?_,by omega,.inl ⟨rfl,rfl⟩⟩,?_,?_,?_,?_,fun _=>by omega⟩
   ·rw [List.getElem?_set_self (by simp [kill_len]; omega)]
    rfl
   ·rw [List.getElem?_set_ne hr1]
    exact g3 _
   ·rw [List.getElem?_set_ne hr2]
    exact g2 _
   ·refine LowE.set ⟨by simp [kill_len]; omega,fun j hj=>?_⟩ (Nat.le_refl _) _
    rw [kill_get (by simp; omega) (fun e=>by have:=hrid j e; omega),List.getElem?_append_left (by omega)]
   ·simp [kill_len]
    omega
   ·rw [if_neg (by rw [hop']; decide)]
 ·have hop' : q.op = true:=by simpa using hop
  simp only [go_sem,simprocAttr,↓reduceIte]
  rcases h with ⟨h1,_⟩ | ⟨h1,_⟩ | ⟨_,idl,u,x,FV,fs,hl,hne,hc⟩
  ·rw [h1] at hop'; cases hop'
  ·rw [h1] at hop'; cases hop'
  exact ⟨idl,u,x,FV,fs,hc.up fun i o hi=>by rw [List.getElem?_append_left (List.getElem?_eq_some_iff.1 hi).1]; exact hi,(LowE.refl _ _).app _ (by omega),Nat.lt_succ_self _,by rw [if_pos hop',hl],fun h=>by rw [hop'] at h; cases h⟩
 have hfe : fieldS q s ln = if fs.length = 40 then .error 12 else if hasF fs (s.take n) = true then .error 4 else .ok ⟨u ++ [⟨x,fs ++ [⟨s.take n,[T]⟩]⟩],true⟩:=by
  unfold fieldS
  rw [n1,if_neg (by omega),if_neg (fun h=>h200 h.1 h.2),← hl]
  simp only [lastFields_snoc,updLast_snoc,Int.toNat_natCast,hT]
  rfl
 rw [hfe]
 have hull : u.length ≤ 200:=by
  have h1:=congrArg List.length hl
  have h2:=hok.len
  simp at h1
  split at h1
  ·omega
  ·simp at h1; omega
 have hfl : fs.length ≤ 40:=by
  have : (⟨x,fs⟩ : Stz) ∈ (if q.op = true then q.l else q.l ++ [⟨ln,[]⟩]):=by rw [← hl]; simp
  split at this
  ·exact hok.flds _ this
  ·rcases List.mem_append.1 this with h | h
   ·exact hok.flds _ h
   ·simp at h; rw [h.2]; simp
 have hob:=hc.obj
 have hob' : B.st[rid]? = some (some (.cells 138 [.agg 138 [.row 24 idl 0 (u.length + 1),.bool true]])):=hob
 have hg1 : (u.map stzAV ++ [AV.agg 24 [.int .i64 x,FV]])[u.length]? = some (.agg 24 [.int .i64 x,FV]):=by simp
 have hw1 : IntKind.i64.wrap (((u.length + 1 : Nat) : Int) - 1) = (u.length : Nat):=by rw [wrap_in (by omega)]; omega
 have hnm:=hc.fld.notM
 have hln:=hc.fld.len
 have hlc:=hc.fld.lenC
 simp only [go_sem,simprocAttr,↓reduceIte,look_id hob',look_id hc.row,live_id hc.row,hw1,hg1,Option.bind_some,Option.isSome_some,Option.getD_some,Nat.zero_add,okM_notM hnm,unm_notM hnm,hln,hlc]
 refine ⟨.of (by kernel_rfl),Nat.lt_succ_self _,fun h40=>EndM.ret ?_,fun h40=>⟨.of (by kernel_rfl),?_⟩⟩
 ·simp only [go_sem,simprocAttr,↓reduceIte]
  refine ⟨_,.refl _,by omega,hlow,12,rfl,?_⟩
  rw [if_pos (by omega)]
 subst hfo
 simp only [go_sem,simprocAttr,↓reduceIte,look_id hp]
 refine CallP.st (.of (sz_has_row hc.fld (by omega) (s.take n))) ?_
 simp only [go_sem,simprocAttr,↓reduceIte]
 obtain ⟨xs,hrow,hxl⟩ : ∃ xs,RowSt B.st FV 28 xs ∧ xs.length = fs.length:=by
  rcases hc.fld with ⟨rfl,rfl⟩ | ⟨idf,v,f,LV,rfl,rfl,hf,_⟩
  ·exact ⟨[],.inl ⟨rfl,rfl⟩,rfl⟩
  ·exact ⟨_,.inr (.inr ⟨idf,0,v.length + 1,_,rfl,hf,by simp,by rw [List.drop_zero,List.take_of_length_le (by simp)]⟩),by simp⟩
 have hni : rowId FV ≠ some idl:=hrow.neId hc.row (by decide)
 have hnr : rowId FV ≠ some rid:=hrow.neId hob' (by decide)
 have hidl:=(List.getElem?_eq_some_iff.1 hc.row).1
 have hridl:=(List.getElem?_eq_some_iff.1 hob').1
 refine ⟨fun h4=>EndM.ret ?_,fun h4=>⟨.of (by kernel_rfl),?_⟩⟩
 ·simp only [go_sem,simprocAttr,↓reduceIte]
  refine ⟨_,.refl _,by omega,hlow,4,rfl,?_⟩
  rw [if_neg (by omega),if_pos h4]
 simp only [go_sem,simprocAttr,↓reduceIte,look_id hc.row,hg1,Option.bind_some,Option.isSome_some,Option.getD_some,okM_notM hnm,unm_notM hnm,look_id hp]
 refine AppA.row 1048576 (by kernel_rfl) (by simp only [go_sem,simprocAttr,↓reduceIte]; exact hrow) (.lit _ _ _) (by simp; omega) (fun h=>by cases h) fun _=>?_
 have g1 : ∀ l,(killOf FV B.st ++ l)[idl]? = some (some (.cells 24 (u.map stzAV ++ [.agg 24 [.int .i64 x,FV]]))):=fun l=>by rw [kill_get hidl hni]; exact hc.row
 simp only [go_sem,simprocAttr,↓reduceIte,look_id (g1 _),setLook_id (g1 _),hg1,Option.bind_some,Option.isSome_some,Option.getD_some]
 have hset : (u.map stzAV ++ [AV.agg 24 [.int .i64 x,FV]]).set u.length (AV.agg 24 [.int .i64 x,.row 28 B.st.length 0 (xs.length + 1)]) = u.map stzAV ++ [AV.agg 24 [.int .i64 x,.row 28 B.st.length 0 (fs.length + 1)]]:=by
  rw [List.set_append_right _ _ (by simp),hxl]
  simp
 rw [hset,if_neg (by omega),if_neg (by rw [h4]; decide)]
 have hni2 : idl ≠ B.st.length:=by omega
 have hnr2 : rid ≠ idl:=fun e=>by rw [e,hc.row] at hob'; cases hob'
 have hlowN : LowE rid σ ((killOf FV B.st ++ [some (SObj.cells 28 (xs ++ [AV.agg 28 [.str (s.take n),.lit 9 [.str T]]]))]).set idl (some (SObj.cells 24 (u.map stzAV ++ [AV.agg 24 [.int .i64 x,.row 28 B.st.length 0 (fs.length + 1)]])))):=by
  refine hlow.trans (LowE.set ⟨by simp [kill_len],fun j hj=>kill_get (by omega) fun e=>?_⟩ hc.low _)
  rcases hc.fld with ⟨rfl,_⟩ | ⟨idf,v,f,LV,rfl,_,_,hb,_⟩
  ·cases e
  ·cases e; omega
 have gN : ((killOf FV B.st ++ [some (SObj.cells 28 (xs ++ [AV.agg 28 [.str (s.take n),.lit 9 [.str T]]]))]).set idl (some (SObj.cells 24 (u.map stzAV ++ [AV.agg 24 [.int .i64 x,.row 28 B.st.length 0 (fs.length + 1)]]))))[B.st.length]? = some (some (SObj.cells 28 (xs ++ [AV.agg 28 [.str (s.take n),.lit 9 [.str T]]]))):=by
  rw [List.getElem?_set_ne hni2,kill_new]
 have gR : ((killOf FV B.st ++ [some (SObj.cells 28 (xs ++ [AV.agg 28 [.str (s.take n),.lit 9 [.str T]]]))]).set idl (some (SObj.cells 24 (u.map stzAV ++ [AV.agg 24 [.int .i64 x,.row 28 B.st.length 0 (fs.length + 1)]]))))[rid]? = B.st[rid]?:=by
  rw [List.getElem?_set_ne (fun e=>hnr2 e.symm),kill_get hridl hnr]
 have gI : ((killOf FV B.st ++ [some (SObj.cells 28 (xs ++ [AV.agg 28 [.str (s.take n),.lit 9 [.str T]]]))]).set idl (some (SObj.cells 24 (u.map stzAV ++ [AV.agg 24 [.int .i64 x,.row 28 B.st.length 0 (fs.length + 1)]]))))[idl]? = some (some (SObj.cells 24 (u.map stzAV ++ [AV.agg 24 [.int .i64 x,.row 28 B.st.length 0 (fs.length + 1)]]))):=by
  rw [List.getElem?_set_self (by simp [kill_len]; omega)]
 generalize (killOf FV B.st ++ [some (SObj.cells 28 (xs ++ [AV.agg 28 [.str (s.take n),.lit 9 [.str T]]]))]).set idl (some (SObj.cells 24 (u.map stzAV ++ [AV.agg 24 [.int .i64 x,.row 28 B.st.length 0 (fs.length + 1)]]))) = S at hlowN gN gR gI ⊢
 have rdm : ∀ S' : Store,S'[rid]? = B.st[rid]? → S'[idl]? = S[idl]? → S'[B.st.length]? = some (some (.cells 28 (fs.map fldAV ++ [fldR (s.take n) (.lit 9 [.str T])]))) → RD S' rid ⟨u ++ [⟨x,fs ++ [⟨s.take n,[T]⟩]⟩],true⟩:=fun S' k1 k2 k3 =>
  .inr (.inr ⟨rfl,idl,u,x,_,_,rfl,by simp,⟨k1.trans hob,k2.trans gI,hc.low,.inr ⟨B.st.length,fs,⟨s.take n,[T]⟩,_,rfl,rfl,k3,by omega,.inr (.inl rfl),fun t ht=>by simp [foot] at ht⟩⟩⟩)
 rcases hc.fld with ⟨rfl,rfl⟩ | ⟨idf,v,f,LV,rfl,rfl,hf,_,hb,_⟩
 ·have hx0 : xs = []:=List.eq_nil_of_length_eq_zero hxl
  subst hx0
  refine EndM.ret ?_
  simp only [go_sem,simprocAttr,↓reduceIte]
  exact ⟨_,.refl _,hlowN.len,hlowN,0,rfl,rfl,rdm _ gR rfl gN⟩
 ·have hxs : xs = v.map fldAV ++ [fldR f.name LV]:=by
   rcases hrow with ⟨h,_⟩ | h | ⟨id,off,m,zs,h,h2,_,h3⟩
   ·cases h
   ·cases h
   ·cases h
    rw [hf] at h2
    cases h2
    rw [h3,List.drop_zero,List.take_of_length_le (by simp)]
  subst hxs
  have hz : (v.map fldAV ++ [fldR f.name LV] ++ [AV.agg 28 [.str (s.take n),.lit 9 [.str T]]])[v.length]? = some (fldR f.name LV):=by simp
  have hsub : Sub (fldR f.name LV) (fldAV f):=.agg rfl fun i a b ha hb'=>by
   match i,ha,hb' with
   | 0,ha,hb'=>cases ha; cases hb'; exact .refl _
   | 1,ha,hb'=>cases ha; cases hb'; exact Bld.sub1 hb
  refine EndM.via (.inl rfl) (.weak B.st.length v.length gN hz hsub (.refl _)) ?_
  have hNl:=(List.getElem?_eq_some_iff.1 gN).1
  refine ⟨⟨trivial,trivial⟩,.int .i64 0,.refl _,?_,hlowN.set (by omega) _,0,rfl,rfl,rdm _ ?_ ?_ ?_⟩
  ·have:=hlowN.len
   show σ.length ≤ (S.set _ _).length
   simpa using this
  ·show (S.set _ _)[rid]? = _
   rw [List.getElem?_set_ne (by omega)]; exact gR
  ·show (S.set _ _)[idl]? = _
   rw [List.getElem?_set_ne (fun e=>hni2 e.symm)]
  ·show (S.set _ _)[B.st.length]? = _
   rw [List.getElem?_set_self hNl]
   congr 3
   rw [List.append_assoc,List.set_append_right _ _ (by simp)]
   simp [fldR]
end Go.Proofs.Tryz
end
section
namespace Go.Proofs.Tryz
open Go Go.Av
set_option maxRecDepth 10000
variable {W0 : World}

theorem shutL {st : Store} {b idl : Nat} {u : List Stz} {x : Int} {FV : AV} {fs : List Fld} (h2 : st[idl]? = some (some (.cells 24 (u.map stzAV ++ [.agg 24 [.int .i64 x,FV]]))))
  (hlow : b ≤ idl) (h3 : FldsV st b FV fs) (hne : fs ≠ []) : ∃ st',(∀ env,FrzM prog (AState.mk env st) (AState.mk env st')) ∧ LowE b st st' ∧ (∀ j,j ≠ idl → (∀ zs,st[j]? ≠ some (some (.cells 28 zs))) → st'[j]? = st[j]?) ∧ st'[idl]? = some (some (.cells 24 ((u ++ [(⟨x,fs⟩ : Stz)]).map stzAV))):=by
 rcases h3 with ⟨_,h⟩ | ⟨idf,v,f,LV,rfl,rfl,hf,hbf,hb,hbt⟩
 ·exact absurd h hne
 have hil : idl ≠ idf:=fun e=>by rw [e,hf] at h2; cases h2
 have hz : (v.map fldAV ++ [fldR f.name LV])[v.length]? = some (fldR f.name LV):=by simp
 have hsub : Sub (fldR f.name LV) (fldAV f):=.agg rfl fun i a b ha hb'=>by
  match i,ha,hb' with
  | 0,ha,hb'=>cases ha; cases hb'; exact .refl _
  | 1,ha,hb'=>cases ha; cases hb'; exact Bld.sub1 hb
 have hset : (v.map fldAV ++ [fldR f.name LV]).set v.length (fldAV f) = (v ++ [f]).map fldAV:=by
  rw [List.set_append_right _ _ (by simp)]
  simp
 have hfl:=(List.getElem?_eq_some_iff.1 hf).1
 have hll:=(List.getElem?_eq_some_iff.1 h2).1
 have hg : (u.map stzAV ++ [AV.agg 24 [.int .i64 x,.row 28 idf 0 (v.length + 1)]])[u.length]? = some (.agg 24 [.int .i64 x,.row 28 idf 0 (v.length + 1)]):=by simp
 have e1 : (st.set idf (some (.cells 28 ((v ++ [f]).map fldAV))))[idf]? = some (some (.cells 28 ((v ++ [f]).map fldAV))):=by rw [List.getElem?_set_self hfl]
 have e2 : (st.set idf (some (.cells 28 ((v ++ [f]).map fldAV))))[idl]? = some (some (.cells 24 (u.map stzAV ++ [.agg 24 [.int .i64 x,.row 28 idf 0 (v.length + 1)]]))):=by rw [List.getElem?_set_ne (fun e=>hil e.symm)]; exact h2
 have hset2 : (u.map stzAV ++ [AV.agg 24 [.int .i64 x,.row 28 idf 0 (v.length + 1)]]).set u.length (.agg 24 [.int .i64 x,.sl 28 ((((v ++ [f]).map fldAV).drop 0).take (v.length + 1))]) = (u ++ [(⟨x,v ++ [f]⟩ : Stz)]).map stzAV:=by
  rw [List.set_append_right _ _ (by simp),List.drop_zero,List.take_of_length_le (by simp)]
  simp [stzAV,fldsAV]
 refine ⟨((st.set idf (some (.cells 28 ((v ++ [f]).map fldAV)))).set idf none).set idl (some (.cells 24 ((u ++ [(⟨x,v ++ [f]⟩ : Stz)]).map stzAV))),?_,?_,?_,?_⟩
 ·intro env
  refine .weak idf v.length hf hz hsub ?_
  rw [hset]
  refine .cell (P:=prog) (t:=22) (o:=1) idl u.length [1] e2 hg rfl e1 (by simp) (fun e=>hil e.symm) (by kernel_rfl) ?_
  show FrzM prog (AState.mk env ((List.set (List.set st _ _) _ _).set idl (some (.cells 24 ((u.map stzAV ++ _).set u.length (.agg 24 [.int .i64 x,.sl 28 ((((v ++ [f]).map fldAV).drop 0).take (v.length + 1))])))))) _
  rw [hset2]
  exact .refl _
 ·exact (((LowE.refl b st).set hbf _).set hbf _).set hlow _
 ·intro j hj hjf
  have hjf2 : idf ≠ j:=fun e=>hjf _ (by rw [← e]; exact hf)
  rw [List.getElem?_set_ne (fun e=>hj e.symm),List.getElem?_set_ne hjf2,List.getElem?_set_ne hjf2]
 ·rw [List.getElem?_set_self (by simpa using hll)]
theorem shutRD {st : Store} {rid idl : Nat} {u : List Stz} {x : Int} {FV : AV} {fs : List Fld} {op : Bool} (h1 : st[rid]? = some (rdO (.row 24 idl 0 (u.length + 1)) op)) (h2 : st[idl]? = some (some (.cells 24 (u.map stzAV ++ [.agg 24 [.int .i64 x,FV]]))))
  (hlow : rid ≤ idl) (h3 : FldsV st rid FV fs) (hne : fs ≠ []) : ∃ st',(∀ env,FrzM prog (AState.mk env st) (AState.mk env st')) ∧ LowE rid st st' ∧ st'[rid]? = st[rid]? ∧ st'[idl]? = some (some (.cells 24 ((u ++ [(⟨x,fs⟩ : Stz)]).map stzAV))):=by
 obtain ⟨st',k1,k2,k3,k4⟩:=shutL h2 hlow h3 hne
 refine ⟨st',k1,k2,k3 rid (fun e=>?_) fun zs e=>?_,k4⟩
 ·rw [e,h2] at h1; cases h1
 ·rw [e] at h1; cases h1
theorem sz_take {W0 : World} (hW : TabsOk W0) {σ : Store} {rid : Nat} {q : PS} (h : RD σ rid q) (hok : PSok q) (s : List UInt8) (hsl : s.length ≤ 65536) (ln : Int) (hln : ∀ x ∈ q.l,∀ f ∈ x.fields,f.lines.length ≤ 1048575) :
  ACall prog W0 97 [.ptr 138 rid 0 [],.str s,.int .i64 ln] σ fun r σ'=>LowE rid σ σ' ∧ ∃ e : Int,r = .int .i64 e ∧ match takeS q s ln with | .error e'=>e = e' | .ok q'=>e = 0 ∧ RD σ' rid q':=by
 refine fn_callM [.tmp 6] [] func97 rfl rfl ntmps97 rfl rfl fun hs=>?_
 obtain ⟨L,hobj⟩:=h.obj
 have hobj' : σ[rid]? = some (some (.cells 138 [.agg 138 [L,.bool q.op]])):=hobj
 have hrl : rid < σ.length:=(List.getElem?_eq_some_iff.1 hobj').1
 have hpre : [35].isPrefixOf s = hashH s:=by
  cases s with
  | nil=>rfl
  | cons c r =>
   unfold hashH
   rw [Bool.eq_iff_iff]
   have : c = 35 ↔ c.toNat = 35:=⟨fun e=>by rw [e]; rfl,fun e=>UInt8.toNat_inj.1 e⟩
   simp [List.isPrefixOf,← this]
   exact eq_comm
 rw [takeS_eq]
 simp only [go_sem,simprocAttr,↓reduceIte]
 refine CallA.fn (str_hasPrefix s [35]) ?_
 rw [hpre]
 simp only [go_sem,simprocAttr,↓reduceIte]
 refine ⟨fun hh=>EndM.ret ?_,fun hh=>CallA.fn (tx_trim hW s) ?_⟩
 ·simp only [go_sem,simprocAttr,↓reduceIte]
  rw [if_pos hh]
  exact ⟨_,.refl _,.refl _ _,0,rfl,rfl,h⟩
 rw [if_neg (by rw [hh]; decide)]
 simp only [go_sem,simprocAttr,↓reduceIte,look_id hobj',setLook_id hobj']
 refine ⟨fun ht=>?_,fun ht=>CallA.fn (sz_white s) ?_⟩
 ·rw [if_pos ht]
  have hS : ∀ o,(σ.set rid o)[rid]? = some o:=fun o=>List.getElem?_set_self hrl
  have hlow1 : ∀ o,LowE rid σ (σ.set rid o):=fun o=>(LowE.refl _ _).set (Nat.le_refl _) _
  rcases h with ⟨g1,g0,g2⟩ | ⟨g1,g0,idl,hle,g2,g3⟩ | ⟨g1,idl,u,x,FV,fs,hl,hne,hc⟩
  ·refine EndM.ret ?_
   have hL : L = .nils:=by rw [g2] at hobj; simp [rdO] at hobj; exact hobj.1.symm
   subst hL
   refine ⟨⟨trivial,trivial⟩,.int .i64 0,.refl _,(hlow1 _).len,hlow1 _,0,rfl,rfl,.inl ⟨rfl,g0,hS _⟩⟩
  ·refine EndM.ret ?_
   have hL : L = .row 24 idl 0 q.l.length:=by rw [g2] at hobj; simp [rdO] at hobj; exact hobj.1.symm
   subst hL
   have hne : rid ≠ idl:=fun e=>by rw [e,g3] at hobj'; cases hobj'
   refine ⟨⟨trivial,trivial⟩,.int .i64 0,.refl _,(hlow1 _).len,hlow1 _,0,rfl,rfl,.inr (.inl ⟨rfl,g0,idl,hle,hS _,?_⟩)⟩
   exact (List.getElem?_set_ne hne).trans g3
  ·have hL : L = .row 24 idl 0 (u.length + 1):=by have:=hc.obj; rw [this] at hobj; simp [rdO] at hobj; exact hobj.1.symm
   subst hL
   have hne1 : rid ≠ idl:=fun e=>by rw [e,hc.row] at hobj'; cases hobj'
   have hf : FldsV (σ.set rid (some (.cells 138 [.agg 138 [.row 24 idl 0 (u.length + 1),.bool false]]))) rid FV fs:=by
    rcases hc.fld with h | ⟨idf,v,f,LV,h1,h2,h3,h4,h5,h6⟩
    ·exact .inl h
    ·have : rid ≠ idf:=fun e=>by rw [e,h3] at hobj'; cases hobj'
     refine .inr ⟨idf,v,f,LV,h1,h2,(List.getElem?_set_ne this).trans h3,h4,h5.keep fun j hj=>?_,h6⟩
     refine List.getElem?_set_ne fun e=>?_
     exact h5.ne hobj' (by simp) (e ▸ hj)
   obtain ⟨st',k1,k2,k3,k4⟩:=shutRD (st:=σ.set rid (some (.cells 138 [.agg 138 [.row 24 idl 0 (u.length + 1),.bool false]]))) (hS _) ((List.getElem?_set_ne hne1).trans hc.row) hc.low hf hne
   refine EndM.via (.inl rfl) (k1 _) ⟨⟨trivial,trivial⟩,.int .i64 0,.refl _,?_,?_,0,rfl,rfl,.inr (.inl ⟨rfl,?_,idl,hc.low,?_,?_⟩)⟩
   ·exact Nat.le_trans (hlow1 _).len k2.len
   ·exact (hlow1 _).trans k2
   ·rw [hl]; simp
   ·refine k3.trans ?_
    rw [hl]
    simp only [List.length_append,List.length_cons,List.length_nil]
    exact hS _
   ·rw [hl]; exact k4
 rw [if_neg ht]
 simp only [go_sem,simprocAttr,↓reduceIte]
 refine ⟨fun hw=>?_,fun hw=>?_⟩
 ·rw [if_pos hw]
  refine CallA.goes ?_ (sz_further h hok s (fun e=>by rw [e] at hw; cases hw) hln) fun r σ' ⟨q1,e,q2,q3⟩=>?_
  ·rfl
  subst q2
  simp only [go_sem,simprocAttr,↓reduceIte]
  exact EndM.ret ⟨⟨trivial,trivial⟩,_,.refl _,q1.len,q1,e,rfl,q3⟩
 ·rw [if_neg (by rw [hw]; decide)]
  refine CallA.goes ?_ (sz_field hW h hok s hsl ln) fun r σ' ⟨q1,e,q2,q3⟩=>?_
  ·rfl
  subst q2
  simp only [go_sem,simprocAttr,↓reduceIte]
  exact EndM.ret ⟨⟨trivial,trivial⟩,_,.refl _,q1.len,q1,e,rfl,q3⟩
end Go.Proofs.Tryz
end
section
namespace Go.Av
theorem FrzM.trans {P : Program} {A B C : AState} (h : FrzM P A B) : FrzM P B C → FrzM P A C:=by
 induction h with
 | refl D=>exact fun k=>k
 | row d h1 h2 h3 _ ih=>exact fun k=>.row d h1 h2 h3 (ih k)
 | cell id0 i path h1 h2 h3 h4 h5 h6 h7 _ ih=>exact fun k=>.cell id0 i path h1 h2 h3 h4 h5 h6 h7 (ih k)
 | weak id0 i h1 h2 h3 _ ih=>exact fun k=>.weak id0 i h1 h2 h3 (ih k)
end Go.Av
namespace Go.Proofs.Tryz
open Go Go.Av
set_option maxRecDepth 10000
variable {W0 : World}

theorem ids_fld (n : Nat) (f : Fld) : IdsLt n (fldAV f):=.agg fun x hx=>by
 rcases List.mem_cons.1 hx with rfl | hx
 ·exact .str _
 ·rw [List.mem_singleton.1 hx]; exact strs_ids _ _
theorem ids_flds (n : Nat) (l : List Fld) : IdsLt n (fldsAV l):=.map fun _ _=>ids_fld _ _
theorem ids_stz (n : Nat) (x : Stz) : IdsLt n (stzAV x):=.agg fun y hx=>by
 rcases List.mem_cons.1 hx with rfl | hx
 ·exact .int _ _
 ·rw [List.mem_singleton.1 hx]; exact ids_flds _ _
theorem ids_stzs (n : Nat) (l : List Stz) : IdsLt n (stzsAV l):=.map fun _ _=>ids_stz _ _
def atO : Option SObj:=some (.cells 36 [.agg 36 [.int .i64 0,.int .i64 0]])
theorem sz_parse {W0 : World} (hW : TabsOk W0) (b : List UInt8) : PureFn prog W0 48 [bytesAV b] (.tup [stzsAV (stzT b).1,atAV (stzT b).2]):=by
 refine fn_pureM [.tmp 2,.cell 3 36] [5] func48 rfl rfl ntmps48 rfl rfl (.tup2 (ids_stzs _ _) (at_ids _ _)) fun hs σ=>?_
 simp only [go_sem,simprocAttr,↓reduceIte]
 refine CallA.fn (tx_lines hW b) ?_
 obtain ⟨hll,hls⟩:=linesT_ok (b:=b)
 generalize hLE : linesT b = LE at *
 obtain ⟨ls,e1,e2⟩:=LE
 simp only [go_sem,simprocAttr,↓reduceIte,atAV]
 refine ⟨fun he=>?_,fun he=>?_⟩
 ·refine ⟨.of (by kernel_rfl),EndM.ret ?_⟩
  simp only [go_sem,simprocAttr,↓reduceIte]
  have hT : stzT b = ([],(e1,e2)):=by
   unfold stzT
   rw [hLE,if_pos (by simpa using he)]
  rw [hT]
  exact weak_tup2 (.nils _) (.refl _)
 have hT : stzT b = match runP ⟨[],false⟩ 0 ls with | .error e=>([],e) | .ok st=>(st.l,(0,0)):=by
  unfold stzT
  rw [hLE,if_neg (by simpa using he)]
  rfl
 simp only at hll hls
 simp only [go_sem,simprocAttr,↓reduceIte,strsAV,List.length_map]
 refine LoopVC.upto [3,6,21,22] (.of (by kernel_rfl)) ls.length (fun i A=>∃ q,A.env 23 = .int .i64 i ∧ Ext σ A.st ∧ A.st[σ.length]? = some atO ∧ RD A.st (σ.length + 2) q ∧ runP ⟨[],false⟩ 0 (ls.take i) = .ok q) 0 (Nat.zero_le _) ?_ fun i B hi ⟨q,h23,hext,hat,hrd,hrun⟩=>?_
 ·simp only [go_sem,simprocAttr,↓reduceIte]
  refine ⟨⟨[],false⟩,(Ext.refl _).app _,by simp [atO],.inl ⟨rfl,rfl,?_⟩,rfl⟩
  rw [List.getElem?_append_right (by omega)]
  simp [rdO]
 have hat' : B.st[σ.length]? = some (some (.cells 36 [.agg 36 [.int .i64 0,.int .i64 0]])):=hat
 obtain ⟨hok,hbd⟩:=runP_ok (k:=0) (m:=1000) PSok.nil (fun x hx=>by cases hx) (fun s hs=>hls s (List.mem_of_mem_take hs)) hrun
 rw [List.length_take,Nat.min_eq_left hi,Nat.zero_add] at hbd
 simp only [go_sem,simprocAttr,↓reduceIte,h23,List.length_map]
 refine ⟨fun hc=>⟨hc,?_⟩,fun hc=>?_⟩
 ·obtain ⟨s,hsi⟩:=get_some hc
  have hw1 : IntKind.i64.wrap ((i : Int) + 1) = ((i + 1 : Nat) : Int):=wrap_in (by omega)
  have hsl:=hls s (List.mem_of_getElem? hsi)
  have hstep : runP ⟨[],false⟩ 0 ls = (match takeS q s ((i : Int) + 1) with | .error e=>.error (e,(i : Int) + 1) | .ok q'=>runP q' (i + 1) (ls.drop (i + 1))):=by
   have e:=runP_app (m:=ls.drop i) hrun
   rw [List.take_append_drop,List.length_take,Nat.min_eq_left hi,Nat.zero_add] at e
   rw [e,List.drop_eq_getElem_cons hc,(List.getElem?_eq_some_iff.1 hsi).2,runP]
   rfl
  simp only [go_sem,simprocAttr,↓reduceIte,h23,atV_map hsi,hw1]
  refine CallA.goes (σ:=B.st) ?_ (sz_take hW hrd hok s (by omega) ((i + 1 : Nat) : Int) fun x hx f hf=>by have:=(hbd x hx f hf).1; omega) fun r σ' ⟨q1,e,q2,q3⟩=>?_
  ·rfl
  subst q2
  have hat2 : σ'[σ.length]? = some (some (.cells 36 [.agg 36 [.int .i64 0,.int .i64 0]])):=by rw [q1.old _ (by omega)]; exact hat'
  have hext2 : Ext σ σ':=by
   refine List.ext_getElem? fun j=>?_
   rw [List.getElem?_take]
   split
   ·rename_i hj
    rw [q1.old j (by omega),hext.eq,List.getElem?_append_left hj]
   ·rw [List.getElem?_eq_none (by omega)]
  have hst2 : (((i + 1 : Nat) : Int)) = (i : Int) + 1:=rfl
  rw [hst2] at q3
  simp only [go_sem,simprocAttr,↓reduceIte,h23,hw1,look_id hat2,setLook_id hat2]
  cases ht : takeS q s ((i : Int) + 1) with
  | error e' =>
   rw [ht] at q3 hstep
   simp only at q3 hstep
   subst q3
   have hne : e ≠ 0:=by rcases takeS_err ht with h | h | h <;> omega
   refine ⟨fun _=>EndM.ret ?_,fun h=>absurd h hne⟩
   simp only [go_sem,simprocAttr,↓reduceIte,look_set (List.getElem?_eq_some_iff.1 hat2).1]
   rw [hT,hstep]
   exact ⟨weak_tup2 (.nils _) (.refl _),hext2.set (Nat.le_refl _) _⟩
  | ok q' =>
   rw [ht] at q3
   obtain ⟨rfl,q4⟩:=q3
   refine ⟨fun h=>absurd rfl h,fun _=>⟨hc,q',hext2,hat2,q4,?_⟩⟩
   have e:=runP_app (m:=[s]) hrun
   rw [← take_succ_get hsi,List.length_take,Nat.min_eq_left hi,Nat.zero_add,runP,ht] at e
   rw [e]
   rfl
 ·rw [List.take_of_length_le hc] at hrun
  rw [hrun] at hT
  simp only at hT
  rw [hT]
  obtain ⟨L,hobj⟩:=hrd.obj
  have hobj' : B.st[σ.length + 2]? = some (some (.cells 138 [.agg 138 [L,.bool q.op]])):=hobj
  simp only [go_sem,simprocAttr,↓reduceIte,look_id hobj',look_id hat',setLook_id hat']
  rw [set_id hat']
  have hrl:=(List.getElem?_eq_some_iff.1 hobj').1
  rcases hrd with ⟨g1,g0,g2⟩ | ⟨g1,g0,idl,hle,g2,g3⟩ | ⟨g1,idl,u,x,FV,fs,hl,hne,hc2⟩
  ·have hL : L = .nils:=by rw [g2] at hobj; simp [rdO] at hobj; exact hobj.1.symm
   subst hL
   refine EndM.ret ?_
   simp only [go_sem,simprocAttr,↓reduceIte,look_id hat',g0]
   exact ⟨weak_tup2 (.nils _) (.refl _),hext⟩
  ·have hL : L = .row 24 idl 0 q.l.length:=by rw [g2] at hobj; simp [rdO] at hobj; exact hobj.1.symm
   subst hL
   refine EndM.via (.inl rfl) (.row 2 rfl g3 (by simp) (.refl _)) ?_
   have hne : σ.length ≠ idl:=by omega
   have hat3 : (B.st.set idl none)[σ.length]? = some (some (.cells 36 [.agg 36 [.int .i64 0,.int .i64 0]])):=(List.getElem?_set_ne (fun e=>hne e.symm)).trans hat'
   simp only [go_sem,simprocAttr,↓reduceIte,look_id hat3]
   rw [List.take_of_length_le (by simp)]
   exact ⟨.refl _,hext.set (by omega) _⟩
  ·have hL : L = .row 24 idl 0 (u.length + 1):=by have:=hc2.obj; rw [this] at hobj; simp [rdO] at hobj; exact hobj.1.symm
   subst hL
   obtain ⟨st',k1,k2,k3,k4⟩:=shutRD (st:=B.st) hc2.obj hc2.row hc2.low hc2.fld hne
   refine EndM.via (.inl rfl) ((k1 _).trans (.row 2 rfl k4 (by simp) (.refl _))) ?_
   have hne2 : idl ≠ σ.length:=by have:=hc2.low; omega
   have hat3 : (st'.set idl none)[σ.length]? = some (some (.cells 36 [.agg 36 [.int .i64 0,.int .i64 0]])):=(List.getElem?_set_ne hne2).trans ((k2.old _ (by omega)).trans hat')
   have hext3 : Ext σ st':=by
    refine List.ext_getElem? fun j=>?_
    rw [List.getElem?_take]
    split
    ·rename_i hj
     rw [k2.old j (by omega),hext.eq,List.getElem?_append_left hj]
    ·rw [List.getElem?_eq_none (by omega)]
   simp only [go_sem,simprocAttr,↓reduceIte,look_id hat3]
   rw [List.take_of_length_le (by simp),hl]
   exact ⟨.refl _,hext3.set (by have:=hc2.low; omega) _⟩
end Go.Proofs.Tryz
end
section
namespace Go.Proofs.Tryz
open Go Go.Av
set_option maxRecDepth 10000
variable {W0 : World}

def RL (st : Store) (b : Nat) (L : AV) (q : PS) : Prop :=
 (q.op = false ∧ q.l = [] ∧ L = .nils) ∨
 (q.op = false ∧ q.l ≠ [] ∧ ∃ idl,b ≤ idl ∧ L = .row 24 idl 0 q.l.length ∧ st[idl]? = some (some (.cells 24 (q.l.map stzAV)))) ∨
 (q.op = true ∧ ∃ idl u x FV fs,q.l = u ++ [⟨x,fs⟩] ∧ fs ≠ [] ∧ L = .row 24 idl 0 (u.length + 1) ∧ st[idl]? = some (some (.cells 24 (u.map stzAV ++ [.agg 24 [.int .i64 x,FV]]))) ∧ b ≤ idl ∧ FldsV st b FV fs)
theorem RL.notM {st : Store} {b : Nat} {L : AV} {q : PS} (h : RL st b L q) : NotM L:=by
 rcases h with ⟨_,_,rfl⟩ | ⟨_,_,_,_,rfl,_⟩ | ⟨_,_,_,_,_,_,_,_,rfl,_⟩ <;> trivial
theorem RL.len {st : Store} {b : Nat} {L : AV} {q : PS} (h : RL st b L q) : lenV L = .int .i64 q.l.length:=by
 rcases h with ⟨_,h,rfl⟩ | ⟨_,_,_,_,rfl,_⟩ | ⟨_,_,_,_,_,_,h,_,rfl,_⟩
 ·rw [h]; rfl
 ·rfl
 ·rw [h]; simp [lenV]
theorem RL.lenC {st : Store} {b : Nat} {L : AV} {q : PS} (h : RL st b L q) (P : Program) (t : TypeId) : lenC P t L = ((elT P t).isSome = true):=by
 rcases h with ⟨_,_,rfl⟩ | ⟨_,_,_,_,rfl,_⟩ | ⟨_,_,_,_,_,_,_,_,rfl,_⟩ <;> rfl
theorem RL.shut {st : Store} {b : Nat} {L : AV} {q : PS} (h : RL st b L q) (hop : q.op = false) : RowSt st L 24 (q.l.map stzAV) ∧ ∀ id,rowId L = some id → b ≤ id:=by
 rcases h with ⟨h1,h0,rfl⟩ | ⟨h1,_,idl,hle,rfl,h3⟩ | ⟨h1,_⟩
 ·exact ⟨.inl ⟨rfl,by rw [h0]; rfl⟩,fun id h=>by cases h⟩
 ·exact ⟨.inr (.inr ⟨idl,0,q.l.length,_,rfl,h3,by simp,by rw [List.drop_zero,List.take_of_length_le (by simp)]⟩),fun id h=>by cases h; exact hle⟩
 ·rw [h1] at hop; cases hop
theorem Ext.lowE {b : Nat} {σ st st' : Store} (h : Ext σ st) (k : LowE b st st') (hb : σ.length ≤ b) : Ext σ st':=by
 refine List.ext_getElem? fun j=>?_
 rw [List.getElem?_take]
 split
 ·rename_i hj
  rw [k.old j (by omega),h.eq,List.getElem?_append_left hj]
 ·rw [List.getElem?_eq_none (by omega)]
end Go.Proofs.Tryz
end
