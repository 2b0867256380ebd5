/- Texts that the last one of this claim rests on: a layer over the guide's own conditions for code; contracts of the functions that the law reaches, one by one. No conditions beside those of the given rows. -/
import Derived.Lib.Bytealg
import Derived.Test.YtekjlnodoelblaaGreatDoorWad
import Derived.Test.YtekjlnodoelblaaGreatDoorWaf
import Derived.Test.YtekjlnodoelblaaGreatDoorWag
set_option linter.unusedSimpArgs false
set_option linter.unusedVariables false
section
namespace Go.Av
open Go

def idxL {α : Type} (q : α → Bool) (l : List α) : Int:=match l.findIdx? q with | some i=>i | none=>-1

theorem idxL_at {α : Type} {q : α → Bool} {l : List α} {i : Nat} {a : α} (h : l[i]? = some a) (hq : q a = true) (hn : ∀ b ∈ l.take i,q b = false) : idxL q l = i:=by
 have : l.findIdx? q = some i:=by
  obtain ⟨hi,he⟩:=List.getElem?_eq_some_iff.1 h
  refine List.findIdx?_eq_some_iff_getElem.2 ⟨hi,by rw [he]; exact hq,fun j hj=>?_⟩
  have:=hn l[j] (List.mem_of_getElem? (i:=j) (by rw [List.getElem?_take,if_pos hj]; exact List.getElem?_eq_getElem (by omega)))
  simp [this]
 rw [idxL,this]

theorem idxL_none {α : Type} {q : α → Bool} {l : List α} (hn : ∀ b ∈ l,q b = false) : idxL q l = -1:=by
 have : l.findIdx? q = none:=List.findIdx?_eq_none_iff.2 hn
 rw [idxL,this]

theorem idxL_ge {α : Type} {q : α → Bool} {l : List α} : decide (0 ≤ idxL q l) = l.any q:=by
 unfold idxL
 cases h : l.findIdx? q with
 | none =>
  have:=List.findIdx?_eq_none_iff.1 h
  have e : l.any q = false:=by rw [List.any_eq_false]; intro x hx; simp [this x hx]
  rw [e]; rfl
 | some i =>
  obtain ⟨hi,h1,_⟩:=List.findIdx?_eq_some_iff_getElem.1 h
  have e : l.any q = true:=List.any_eq_true.2 ⟨_,List.getElem_mem hi,h1⟩
  rw [e]
  simp

theorem look_set {σ : Store} {id : Nat} {te : TypeId} {xs : List AV} (h : id < σ.length) (i : Nat) (path : List Nat) : look (σ.set id (some (.cells te xs))) id i path = (xs[i]?).bind (·.at path):=by simp [look,h]
theorem look_id {σ : Store} {id : Nat} {te : TypeId} {xs : List AV} (h : σ[id]? = some (some (.cells te xs))) (i : Nat) (path : List Nat) : look σ id i path = (xs[i]?).bind (·.at path):=by simp [look,h]
theorem setLook_set {σ : Store} {id : Nat} {te : TypeId} {xs : List AV} (h : id < σ.length) (i : Nat) (path : List Nat) (v : AV) : setLook (σ.set id (some (.cells te xs))) id i path v = σ.set id (some (.cells te (xs.set i ((xs[i]?.getD .undef).setAt path v)))):=by simp [setLook,h]
theorem setLook_id {σ : Store} {id : Nat} {te : TypeId} {xs : List AV} (h : σ[id]? = some (some (.cells te xs))) (i : Nat) (path : List Nat) (v : AV) : setLook σ id i path v = σ.set id (some (.cells te (xs.set i ((xs[i]?.getD .undef).setAt path v)))):=by simp [setLook,h]
theorem set_id {σ : Store} {id : Nat} {o : Option SObj} (h : σ[id]? = some o) : σ.set id o = σ:=by
 obtain ⟨h1,h2⟩:=List.getElem?_eq_some_iff.1 h
 rw [← h2,List.set_getElem_self]

@[go_sem] theorem setAt_cons (t : TypeId) (fs : List AV) (k : Nat) (r : List Nat) (v : AV) : (AV.agg t fs).setAt (k :: r) v = .agg t (fs.set k ((fs[k]?.getD .undef).setAt r v)):=by
 cases h : fs[k]? with
 | none=>simp only [AV.setAt,h,Option.getD_none]; rw [List.set_eq_of_length_le (List.getElem?_eq_none_iff.1 h)]
 | some y=>simp only [AV.setAt,h,Option.getD_some]

theorem CallA.go {P : Program} {W0 : World} {A : AState} {g : FuncId} {caps us : List AV} {dst : Option Nat} {k : AState → Prop} {Q : AV → Store → Prop} {σ : Store} (hσ : A.st = σ) (h : ACall P W0 g (us ++ caps) σ Q) (hk : ∀ r σ',Q r σ' → k ((A.put dst r).withSt σ')) : CallA P W0 (.fn g caps) us dst A k .mk:=by
 subst hσ
 exact h.mono hk
theorem CallA.goes {P : Program} {W0 : World} {A : AState} {g : FuncId} {us : List AV} {dst : Option Nat} {k : AState → Prop} {Q : AV → Store → Prop} {σ : Store} (hσ : A.st = σ) (h : ACall P W0 g us σ Q) (hk : ∀ r σ',Q r σ' → k ((A.put dst r).withSt σ')) : CallA P W0 (.fn g []) us dst A k .mk:=.go hσ (by simpa using h) hk
theorem CallA.reads {P : Program} {W0 : World} {A : AState} {g : FuncId} {us : List AV} {dst : Option Nat} {k : AState → Prop} {r : AV} {σ : Store} (hσ : A.st = σ) (h : ACall P W0 g us σ fun r' σ'=>r' = r ∧ σ' = σ) (hk : k (A.put dst r)) : CallA P W0 (.fn g []) us dst A k .mk:=.goes hσ h fun r' σ' ⟨h1,h2⟩=>by
 subst h1 h2 hσ
 rwa [put_withSt]

theorem u8_wrap (c : UInt8) : IntKind.u8.wrap (c.toNat : Int) = c.toNat:=by
 have:=c.toNat_lt
 show (c.toNat : Int) % 256 = c.toNat
 omega
theorem encL_ascii {c : UInt8} (h : c.toNat < 128) : encL (c.toNat : Int) = [c]:=by
 have hv : Utf8.valid (c.toNat : Int) = true:=by
  simp only [Utf8.valid]
  simp
  omega
 have e : Utf8.encode (c.toNat : Int) = ⟨#[UInt8.ofNat c.toNat]⟩:=by
  unfold Utf8.encode
  rw [if_pos hv,if_pos (by simpa using h)]
  simp
 rw [encL,e]
 simp

def cmpS (a b : List UInt8) : Int:=if Op.bytesLess a b = true then -1 else if a = b then 0 else 1

def orL : List Int → Int
 | []=>0
 | x :: r=>if x ≠ 0 then x else orL r

theorem indexByte_firstOf (s : List UInt8) (c : UInt8) : Lib.indexByte s c = firstOf c s:=by
 induction s with
 | nil=>rfl
 | cons d r ih =>
  unfold Lib.indexByte
  cases h : d == c with
  | true=>simp [firstOf,List.findIdx?_cons,h]
  | false =>
   simp only [Bool.false_eq_true,if_false,ih]
   rcases firstOf_cases c r with ⟨h1,h2⟩ | ⟨i,h1,_,_⟩
   ·rw [h1]
    have : (d :: r).findIdx? (· == c) = none:=List.findIdx?_eq_none_iff.2 fun x hx=>by
     rcases List.mem_cons.1 hx with rfl | hx
     ·exact h
     ·simp; intro e; subst e; exact h2 hx
    simp [firstOf,this]
   ·have hne : ((firstOf c r) == -1) = false:=by rw [h1,beq_eq_false_iff_ne]; omega
    rw [hne]
    simp only [Bool.false_eq_true,if_false]
    have hf : r.findIdx? (· == c) = some i:=by
     unfold firstOf at h1
     split at h1
     ·rename_i j hj; rw [hj]; congr 1; omega
     ·omega
    rw [h1]
    simp [firstOf,List.findIdx?_cons,h,hf]

theorem firstOf_ge (s : List UInt8) (c : UInt8) : decide (0 ≤ firstOf c s) = s.contains c:=by
 rcases firstOf_cases c s with ⟨h1,h2⟩ | ⟨i,h1,h2,_⟩
 ·rw [h1]; simp [h2]
 ·rw [h1]
  have : c ∈ s:=List.mem_of_getElem? h2
  simp [this]

def cutA (c : UInt8) (s : List UInt8) : List UInt8:=if 0 ≤ firstOf c s then s.take (firstOf c s).toNat else s
def cutB (c : UInt8) (s : List UInt8) : List UInt8:=if 0 ≤ firstOf c s then s.drop ((firstOf c s).toNat + 1) else []
def cutAV (c : UInt8) (s : List UInt8) : AV:=.tup [.str (cutA c s),.str (cutB c s),.bool (decide (0 ≤ firstOf c s))]
theorem cutAV_ids (c : UInt8) (s : List UInt8) : IdsLt 0 (cutAV c s):=by
 refine .tup fun x hx=>?_
 simp at hx
 rcases hx with rfl | rfl | rfl <;> first | exact .str _ | exact .bool _

end Go.Av
end
section
namespace Go.Proofs.Tryz
open Go Go.Av
set_option maxRecDepth 10000
variable {W0 : World}

def atomAV (a : Atom) : AV:=.agg 100 [.str a.name,.int .i64 a.rel,.str a.ver]
def atomsAV (l : List Atom) : AV:=.sl 100 (l.map atomAV)
def clausesAV (l : List Clause) : AV:=.sl 85 (l.map atomsAV)
def provAV (p : Prov) : AV:=.agg 102 [.str p.name,.str p.ver]
def provsAV (l : List Prov) : AV:=.sl 102 (l.map provAV)
def pkgAV (p : Pkg) : AV:=.agg 33 [.str p.name,.str p.ver,clausesAV p.pre,clausesAV p.dep,clausesAV p.rcm,atomsAV p.con,atomsAV p.brk,provsAV p.prov,.bool p.ess]
def pkgsAV (l : List Pkg) : AV:=.sl 33 (l.map pkgAV)

end Go.Proofs.Tryz
end
section
namespace Go.Proofs.Tryz
open Go Go.Av
set_option maxRecDepth 10000
variable {W0 : World}

theorem ve_digit (c : UInt8) : PureFn prog W0 107 [.int .u8 c.toNat] (.bool (digitC c)):=by
 refine fn_pure [2] [] func107 rfl rfl ntmps107 rfl rfl (.bool _) fun _ σ=>?_
 simp only [go_sem,simprocAttr,↓reduceIte]
 exact weak_bool (by rw [digitC]; congr 1 <;> exact decide_eq_decide.2 (by omega))

theorem ve_letter (c : UInt8) : PureFn prog W0 164 [.int .u8 c.toNat] (.bool (letterC c)):=by
 refine fn_pure [2] [] func164 rfl rfl ntmps164 rfl rfl (.bool _) fun _ σ=>?_
 simp only [go_sem,simprocAttr,↓reduceIte]
 refine weak_bool ?_
 unfold letterC smallC
 congr 2 <;> exact decide_eq_decide.2 (by omega)

theorem ve_epochOf (s : List UInt8) : PureFn prog W0 105 [.str s] (.bool (decide (1 ≤ s.length) && decide (s.length ≤ 9) && s.all digitC)):=by
 refine fn_pure [2] [] func105 rfl rfl ntmps105 rfl rfl (.bool _) fun hs σ=>?_
 simp only [go_sem,simprocAttr,↓reduceIte]
 refine ⟨fun h=>weak_bool ?_,fun h=>?_⟩
 ·cases s with
  | nil=>rfl
  | cons c r =>
   have : ¬ ((c :: r).length ≤ 9):=by simp at h ⊢; omega
   rw [decide_eq_false this]; simp
 have hl : 1 ≤ s.length ∧ s.length ≤ 9:=by cases s <;> simp at h ⊢; omega
 refine VC.falls [] (fun k A=>∃ pos,A.env 13 = .it σ.length ∧ A.st = σ ++ [some (.iter s pos)] ∧ k = s.length - pos ∧ pos ≤ s.length ∧ (s.take pos).all digitC = true) s.length (.here ⟨0,?_⟩) fun k A ⟨pos,h13,hst,hk,hp,hI⟩=>?_
 ·simp only [go_sem,simprocAttr,↓reduceIte]
  all_goals simp
 simp only [go_sem,simprocAttr,↓reduceIte,h13,hst]
 refine ⟨fun hlt=>?_,fun hge=>?_⟩
 ·obtain ⟨c,hc⟩:=get_some hlt
  simp only [Bool.or_eq_true,Bool.or_eq_false_iff,decide_eq_true_eq,decide_eq_false_iff_not]
  have bad : digitC c = false → (decide (1 ≤ s.length) && decide (s.length ≤ 9) && s.all digitC) = false:=fun hd=>by rw [all_false hc hd,Bool.and_false]
  rcases Nat.lt_or_ge c.toNat 128 with h8 | h8
  ·rw [decAt_ascii hc h8]
   refine ⟨fun hb=>weak_bool (bad ?_).symm,fun hb=>.here (s.length - (pos + 1)) (by omega) ⟨pos + 1,?_⟩⟩
   ·simp [digitC]; omega
   ·simp only [go_sem,simprocAttr,↓reduceIte,h13,hst]
    exact ⟨by omega,all_take hI hc (by simp [digitC]; omega)⟩
  ·have:=decAt_big hc h8
   refine ⟨fun hb=>weak_bool (bad ?_).symm,fun hb=>by omega⟩
   simp [digitC]; omega
 ·have : pos = s.length:=by omega
  rw [this,List.take_length] at hI
  refine weak_bool ?_
  simp [hl,hI]
end Go.Proofs.Tryz
end
section
namespace Go.Proofs.Tryz
open Go Go.Av
set_option maxRecDepth 10000
variable {W0 : World}

theorem ixAtomC {α : Type} (enc : α → AV) (hp : ∀ a,NotM (enc a)) (l : List α) (q : α → Bool) (g : FuncId) (caps : List AV) (h : ∀ a ∈ l,PureFn prog W0 g ([enc a] ++ caps) (.bool (q a))) :
  PureFn prog W0 167 [.sl 100 (l.map enc),.fn g caps] (.int .i64 (idxL q l)):=by
 refine fn_pure [4] [] func167 rfl rfl ntmps167 rfl rfl (.int _ _) fun hs σ=>?_
 have hl:=(small_map (hs _ (List.mem_cons_self ..))).1
 simp only [go_sem,simprocAttr,↓reduceIte]
 refine LoopVC.upto [0,1,7] (.of (by kernel_rfl)) l.length (fun i A=>A.env 8 = .int .i64 i ∧ A.st = σ ∧ ∀ a ∈ l.take i,q a = false) 0 (Nat.zero_le _) ?_ fun i B hi ⟨h8,hst,hI⟩=>?_
 ·simp only [go_sem,simprocAttr,↓reduceIte]
  all_goals simp
 simp only [go_sem,simprocAttr,↓reduceIte,h8,hst,List.length_map]
 refine ⟨fun hc=>⟨hc,?_⟩,fun hc=>weak_int ?_⟩
 ·obtain ⟨a,ha⟩:=get_some hc
  simp only [atV_map ha,okM_notM (hp a),unm_notM (hp a),true_and]
  refine CallA.pure (h a (List.mem_of_getElem? ha)) ?_
  simp only [go_sem,simprocAttr,↓reduceIte,h8,hst]
  refine ⟨fun hq=>weak_int (idxL_at ha hq hI).symm,fun hq=>⟨hc,int_succ hc hl,?_⟩⟩
  rw [take_succ_get ha]
  intro b hb
  rcases List.mem_append.1 hb with hb | hb
  ·exact hI b hb
  ·rw [List.mem_singleton.1 hb]; exact hq
 ·rw [idxL_none]
  rwa [List.take_of_length_le hc] at hI
theorem ixPkg {α : Type} (enc : α → AV) (hp : ∀ a,NotM (enc a)) (l : List α) (q : α → Bool) (g : FuncId) (caps : List AV) (h : ∀ a ∈ l,PureFn prog W0 g ([enc a] ++ caps) (.bool (q a))) :
  PureFn prog W0 92 [.sl 33 (l.map enc),.fn g caps] (.int .i64 (idxL q l)):=by
 refine fn_pure [4] [] func92 rfl rfl ntmps92 rfl rfl (.int _ _) fun hs σ=>?_
 have hl:=(small_map (hs _ (List.mem_cons_self ..))).1
 simp only [go_sem,simprocAttr,↓reduceIte]
 refine LoopVC.upto [0,1,7] (.of (by kernel_rfl)) l.length (fun i A=>A.env 8 = .int .i64 i ∧ A.st = σ ∧ ∀ a ∈ l.take i,q a = false) 0 (Nat.zero_le _) ?_ fun i B hi ⟨h8,hst,hI⟩=>?_
 ·simp only [go_sem,simprocAttr,↓reduceIte]
  all_goals simp
 simp only [go_sem,simprocAttr,↓reduceIte,h8,hst,List.length_map]
 refine ⟨fun hc=>⟨hc,?_⟩,fun hc=>weak_int ?_⟩
 ·obtain ⟨a,ha⟩:=get_some hc
  simp only [atV_map ha,okM_notM (hp a),unm_notM (hp a),true_and]
  refine CallA.pure (h a (List.mem_of_getElem? ha)) ?_
  simp only [go_sem,simprocAttr,↓reduceIte,h8,hst]
  refine ⟨fun hq=>weak_int (idxL_at ha hq hI).symm,fun hq=>⟨hc,int_succ hc hl,?_⟩⟩
  rw [take_succ_get ha]
  intro b hb
  rcases List.mem_append.1 hb with hb | hb
  ·exact hI b hb
  ·rw [List.mem_singleton.1 hb]; exact hq
 ·rw [idxL_none]
  rwa [List.take_of_length_le hc] at hI
theorem ixClause {α : Type} (enc : α → AV) (hp : ∀ a,NotM (enc a)) (l : List α) (q : α → Bool) (g : FuncId) (caps : List AV) (h : ∀ a ∈ l,PureFn prog W0 g ([enc a] ++ caps) (.bool (q a))) :
  PureFn prog W0 166 [.sl 85 (l.map enc),.fn g caps] (.int .i64 (idxL q l)):=by
 refine fn_pure [4] [] func166 rfl rfl ntmps166 rfl rfl (.int _ _) fun hs σ=>?_
 have hl:=(small_map (hs _ (List.mem_cons_self ..))).1
 simp only [go_sem,simprocAttr,↓reduceIte]
 refine LoopVC.upto [0,1,7] (.of (by kernel_rfl)) l.length (fun i A=>A.env 8 = .int .i64 i ∧ A.st = σ ∧ ∀ a ∈ l.take i,q a = false) 0 (Nat.zero_le _) ?_ fun i B hi ⟨h8,hst,hI⟩=>?_
 ·simp only [go_sem,simprocAttr,↓reduceIte]
  all_goals simp
 simp only [go_sem,simprocAttr,↓reduceIte,h8,hst,List.length_map]
 refine ⟨fun hc=>⟨hc,?_⟩,fun hc=>weak_int ?_⟩
 ·obtain ⟨a,ha⟩:=get_some hc
  simp only [atV_map ha,okM_notM (hp a),unm_notM (hp a),true_and]
  refine CallA.pure (h a (List.mem_of_getElem? ha)) ?_
  simp only [go_sem,simprocAttr,↓reduceIte,h8,hst]
  refine ⟨fun hq=>weak_int (idxL_at ha hq hI).symm,fun hq=>⟨hc,int_succ hc hl,?_⟩⟩
  rw [take_succ_get ha]
  intro b hb
  rcases List.mem_append.1 hb with hb | hb
  ·exact hI b hb
  ·rw [List.mem_singleton.1 hb]; exact hq
 ·rw [idxL_none]
  rwa [List.take_of_length_le hc] at hI
end Go.Proofs.Tryz
end
section
namespace Go.Proofs.Tryz
open Go Go.Av
set_option maxRecDepth 10000
variable {W0 : World}

theorem anAtomC {α : Type} (enc : α → AV) (hp : ∀ a,NotM (enc a)) (l : List α) (q : α → Bool) (g : FuncId) (caps : List AV) (h : ∀ a ∈ l,PureFn prog W0 g ([enc a] ++ caps) (.bool (q a))) :
  PureFn prog W0 110 [.sl 100 (l.map enc),.fn g caps] (.bool (l.any q)):=by
 refine fn_pure [4] [] func110 rfl rfl ntmps110 rfl rfl (.bool _) fun hs σ=>?_
 simp only [go_sem,simprocAttr,↓reduceIte]
 refine CallA.fn (ixAtomC enc hp l q g caps h) ?_
 simp only [go_sem,simprocAttr,↓reduceIte]
 exact weak_bool idxL_ge
theorem anPkg {α : Type} (enc : α → AV) (hp : ∀ a,NotM (enc a)) (l : List α) (q : α → Bool) (g : FuncId) (caps : List AV) (h : ∀ a ∈ l,PureFn prog W0 g ([enc a] ++ caps) (.bool (q a))) :
  PureFn prog W0 43 [.sl 33 (l.map enc),.fn g caps] (.bool (l.any q)):=by
 refine fn_pure [4] [] func43 rfl rfl ntmps43 rfl rfl (.bool _) fun hs σ=>?_
 simp only [go_sem,simprocAttr,↓reduceIte]
 refine CallA.fn (ixPkg enc hp l q g caps h) ?_
 simp only [go_sem,simprocAttr,↓reduceIte]
 exact weak_bool idxL_ge
theorem anClause {α : Type} (enc : α → AV) (hp : ∀ a,NotM (enc a)) (l : List α) (q : α → Bool) (g : FuncId) (caps : List AV) (h : ∀ a ∈ l,PureFn prog W0 g ([enc a] ++ caps) (.bool (q a))) :
  PureFn prog W0 108 [.sl 85 (l.map enc),.fn g caps] (.bool (l.any q)):=by
 refine fn_pure [4] [] func108 rfl rfl ntmps108 rfl rfl (.bool _) fun hs σ=>?_
 simp only [go_sem,simprocAttr,↓reduceIte]
 refine CallA.fn (ixClause enc hp l q g caps h) ?_
 simp only [go_sem,simprocAttr,↓reduceIte]
 exact weak_bool idxL_ge

theorem ix_str (l : List (List UInt8)) (s : List UInt8) : PureFn prog W0 94 [.sl 9 (l.map .str),.str s] (.int .i64 (idxL (fun x=>s == x) l)):=by
 refine fn_pure [4] [] func94 rfl rfl ntmps94 rfl rfl (.int _ _) fun hs σ=>?_
 have hl:=(small_map (hs _ (List.mem_cons_self ..))).1
 simp only [go_sem,simprocAttr,↓reduceIte]
 refine LoopVC.upto [0,1,7] (.of (by kernel_rfl)) l.length (fun i A=>A.env 8 = .int .i64 i ∧ A.st = σ ∧ ∀ a ∈ l.take i,(s == a) = false) 0 (Nat.zero_le _) ?_ fun i B hi ⟨h8,hst,hI⟩=>?_
 ·simp only [go_sem,simprocAttr,↓reduceIte]
  all_goals simp
 simp only [go_sem,simprocAttr,↓reduceIte,h8,hst,List.length_map]
 refine ⟨fun hc=>⟨hc,?_⟩,fun hc=>weak_int ?_⟩
 ·obtain ⟨a,ha⟩:=get_some hc
  simp only [atV_map ha]
  simp only [go_sem,simprocAttr,↓reduceIte,h8,hst]
  refine ⟨fun hq=>weak_int (idxL_at (q:=fun x=>s == x) ha (by simpa using hq) hI).symm,fun hq=>⟨hc,int_succ hc hl,?_⟩⟩
  rw [take_succ_get ha]
  intro b hb
  rcases List.mem_append.1 hb with hb | hb
  ·simpa using hI b hb
  ·rw [List.mem_singleton.1 hb]; simpa using hq
 ·rw [idxL_none]
  rwa [List.take_of_length_le hc] at hI

theorem an_str (l : List (List UInt8)) (s : List UInt8) : PureFn prog W0 46 [.sl 9 (l.map .str),.str s] (.bool (l.any fun x=>s == x)):=by
 refine fn_pure [4] [] func46 rfl rfl ntmps46 rfl rfl (.bool _) fun hs σ=>?_
 simp only [go_sem,simprocAttr,↓reduceIte]
 refine CallA.fn (ix_str l s) ?_
 simp only [go_sem,simprocAttr,↓reduceIte]
 exact weak_bool idxL_ge

theorem nanInt (a : Int) : PureFn prog W0 241 [.int .i64 a] (.bool false):=by
 refine fn_pure [2] [] func241 rfl rfl ntmps241 rfl rfl (.bool _) fun hs σ=>?_
 simp only [go_sem,simprocAttr,↓reduceIte]
 exact weak_bool (by simp)

theorem cmpInt (a b : Int) : PureFn prog W0 218 [.int .i64 a,.int .i64 b] (.int .i64 (sgn a b)):=by
 refine fn_pure [4] [] func218 rfl rfl ntmps218 rfl rfl (.int _ _) fun hs σ=>?_
 simp only [go_sem,simprocAttr,↓reduceIte]
 refine CallA.fn (nanInt a) ?_
 simp only [go_sem,simprocAttr,↓reduceIte]
 refine CallA.fn (nanInt b) ?_
 simp only [go_sem,simprocAttr,↓reduceIte]
 refine ⟨fun h=>weak_int (by simp [sgn,h]),fun h=>⟨fun h'=>weak_int (by simp [sgn,h']; omega),fun h'=>weak_int (by rw [sgn,if_neg (by omega),if_neg (by omega)])⟩⟩

theorem nan_str (s : List UInt8) : PureFn prog W0 243 [.str s] (.bool false):=by
 refine fn_pure [2] [] func243 rfl rfl ntmps243 rfl rfl (.bool _) fun hs σ=>?_
 simp only [go_sem,simprocAttr,↓reduceIte]

theorem cmp_str (a b : List UInt8) : PureFn prog W0 220 [.str a,.str b] (.int .i64 (cmpS a b)):=by
 refine fn_pure [4] [] func220 rfl rfl ntmps220 rfl rfl (.int _ _) fun hs σ=>?_
 simp only [go_sem,simprocAttr,↓reduceIte]
 refine CallA.fn (nan_str a) ?_
 simp only [go_sem,simprocAttr,↓reduceIte]
 refine CallA.fn (nan_str b) ?_
 simp only [go_sem,simprocAttr,↓reduceIte]
 refine ⟨fun h=>weak_int (by simp [cmpS,h]),fun h=>⟨fun h'=>weak_int (by simp at h'; simp [cmpS,h,h'.2]),fun h'=>weak_int ?_⟩⟩
 rw [cmpS,h]
 simp at h' ⊢
 rcases h' with h' | h'
 ·rw [h] at h'; cases h'
 ·exact h'

theorem cmp_or (l : List Int) : PureFn prog W0 152 [.sl 3 (l.map (.int .i64))] (.int .i64 (orL l)):=by
 refine fn_pure [2] [] func152 rfl rfl ntmps152 rfl rfl (.int _ _) fun hs σ=>?_
 have hl:=(small_map (hs _ (List.mem_cons_self ..))).1
 simp only [go_sem,simprocAttr,↓reduceIte]
 refine LoopVC.upto [3,6,7] (.of (by kernel_rfl)) l.length (fun i A=>A.env 8 = .int .i64 i ∧ A.st = σ ∧ orL (l.drop i) = orL l) 0 (Nat.zero_le _) ?_ fun i B hi ⟨h8,hst,hI⟩=>?_
 ·simp only [go_sem,simprocAttr,↓reduceIte]
  all_goals simp
 simp only [go_sem,simprocAttr,↓reduceIte,h8,hst,List.length_map]
 refine ⟨fun hc=>⟨hc,?_⟩,fun hc=>weak_int ?_⟩
 ·obtain ⟨a,ha⟩:=get_some hc
  obtain ⟨hlt,hae⟩:=List.getElem?_eq_some_iff.1 ha
  simp only [atV_map ha]
  simp only [go_sem,simprocAttr,↓reduceIte,h8,hst]
  rw [List.drop_eq_getElem_cons hlt,hae] at hI
  refine ⟨fun hq=>weak_int (by rw [← hI,orL,if_pos hq]),fun hq=>⟨hc,int_succ hc hl,?_⟩⟩
  rw [← hI,orL,if_neg (by simpa using hq)]
 ·rw [List.drop_eq_nil_of_le hc] at hI
  exact hI

theorem ba_indexByte (s : List UInt8) (c : UInt8) : PureFn prog W0 250 [.str s,.int .u8 c.toNat] (.int .i64 (firstOf c s)):=by
 refine fn_ext (e:=Extern.BytealgIndexByte.indexByte) func250 (by kernel_rfl) (by kernel_rfl) (by kernel_rfl) (by kernel_rfl) fun w C vs hl hv=>?_
 obtain ⟨x,y,rfl⟩ : ∃ x y,vs = [x,y]:=by
  match vs,hl with
  | [x,y],_=>exact ⟨x,y,rfl⟩
 obtain ⟨hx,_⟩:=(hv 0 _ x rfl rfl).str_inv
 have hy:=(hv 1 _ y rfl rfl).int_inv
 subst hx hy
 refine ⟨_,Lib.run_indexByteString _ _ w,?_⟩
 have e : Lib.indexByte s (c.toNat : Int).toNat.toUInt8 = firstOf c s:=by rw [show (c.toNat : Int).toNat.toUInt8 = c by simp]; exact indexByte_firstOf s c
 rw [show (ByteArray.mk s.toArray).data.toList = s from rfl,e]
 exact .one rfl (.int _ _)

theorem sl_indexByte (s : List UInt8) (c : UInt8) : PureFn prog W0 226 [.str s,.int .u8 c.toNat] (.int .i64 (firstOf c s)):=by
 refine fn_pure [4] [] func226 rfl rfl ntmps226 rfl rfl (.int _ _) fun hs σ=>?_
 simp only [go_sem,simprocAttr,↓reduceIte]
 refine CallA.fn (ba_indexByte s c) ?_
 simp only [go_sem,simprocAttr,↓reduceIte]

theorem sl_index (s : List UInt8) (c : UInt8) : PureFn prog W0 203 [.str s,.str [c]] (.int .i64 (firstOf c s)):=by
 refine fn_pure [4] [] func203 rfl rfl ntmps203 rfl rfl (.int _ _) fun hs σ=>?_
 simp only [go_sem,simprocAttr,↓reduceIte]
 refine ⟨fun h=>weak_int (by rw [← h]; simp [firstOf,List.findIdx?_cons]),fun h=>CallA.fn (sl_indexByte s c) ?_⟩
 simp only [go_sem,simprocAttr,↓reduceIte]

theorem st_index (s : List UInt8) (c : UInt8) : PureFn prog W0 204 [.str s,.str [c]] (.int .i64 (firstOf c s)):=by
 refine fn_pure [4] [] func204 rfl rfl ntmps204 rfl rfl (.int _ _) fun hs σ=>?_
 simp only [go_sem,simprocAttr,↓reduceIte]
 refine CallA.fn (sl_index s c) ?_
 simp only [go_sem,simprocAttr,↓reduceIte]

theorem st_contains (s : List UInt8) (c : UInt8) : PureFn prog W0 165 [.str s,.str [c]] (.bool (s.contains c)):=by
 refine fn_pure [4] [] func165 rfl rfl ntmps165 rfl rfl (.bool _) fun hs σ=>?_
 simp only [go_sem,simprocAttr,↓reduceIte]
 refine CallA.fn (st_index s c) ?_
 simp only [go_sem,simprocAttr,↓reduceIte]
 exact weak_bool (firstOf_ge s c)

theorem sl_cut (s : List UInt8) (c : UInt8) : PureFn prog W0 162 [.str s,.str [c]] (cutAV c s):=by
 refine fn_pure [4,5,6] [] func162 rfl rfl ntmps162 rfl rfl (cutAV_ids c s) fun hs σ=>?_
 have hl : s.length ≤ maxLen:=small_str (hs _ (by simp))
 simp only [go_sem,simprocAttr,↓reduceIte]
 refine CallA.fn (sl_index s c) ?_
 simp only [go_sem,simprocAttr,↓reduceIte]
 refine ⟨fun h=>?_,fun h=>?_⟩
 ·obtain ⟨i,hi,hg,hlt⟩:=(firstOf_cases c s).resolve_left (fun e=>by rw [e.1] at h; simp at h)
  rw [hi]
  have hw : IntKind.i64.wrap ((i : Int) + 1) = ((i + 1 : Nat) : Int):=wrap_succ hlt hl
  simp only [go_sem,simprocAttr,↓reduceIte,hw]
  refine ⟨.of (by kernel_rfl),by omega,by omega,?_⟩
  rw [cutAV,cutA,cutB,hi,if_pos (by omega),if_pos (by omega),Int.toNat_natCast,decide_eq_true (by omega)]
  exact .refl _
 ·have h:=h
  simp at h
  rw [cutAV,cutA,cutB,if_neg (by omega),if_neg (by omega),decide_eq_false (by omega)]
  exact .refl _

theorem st_cut (s : List UInt8) (c : UInt8) : PureFn prog W0 103 [.str s,.str [c]] (cutAV c s):=by
 refine fn_pure [4,5,6] [] func103 rfl rfl ntmps103 rfl rfl (cutAV_ids c s) fun hs σ=>?_
 simp only [go_sem,simprocAttr,↓reduceIte]
 refine CallA.fn (sl_cut s c) ?_
 simp only [go_sem,simprocAttr,↓reduceIte,cutAV]

theorem ba_lastIndexByte (s : List UInt8) (c : UInt8) : PureFn prog W0 163 [.str s,.int .u8 c.toNat] (.int .i64 (lastOf c s)):=by
 refine fn_pure [4] [] func163 rfl rfl ntmps163 rfl rfl (.int _ _) fun hs σ=>?_
 have hsl : s.length ≤ 9223372036854775807:=small_str (hs _ (by simp))
 simp only [go_sem,simprocAttr,↓reduceIte]
 refine LoopVC.falls [0,1] (.of (by kernel_rfl)) (fun k A=>A.env 5 = .int .i64 ((k : Int) - 1) ∧ A.st = σ ∧ k ≤ s.length ∧ lastOf c s = lastTo c s k) s.length ?_ fun k B ⟨h5,hst,hk,hI⟩=>?_
 ·simp only [go_sem,simprocAttr,↓reduceIte]
  exact ⟨by rw [wrap_in (by omega)],rfl⟩
 simp only [go_sem,simprocAttr,↓reduceIte,h5,hst]
 refine ⟨fun hc=>?_,fun hc=>?_⟩
 ·obtain ⟨k,rfl⟩ : ∃ j,k = j + 1:=⟨k - 1,by omega⟩
  have e : (((k + 1 : Nat) : Int) - 1) = (k : Int):=by omega
  simp only [go_sem,simprocAttr,↓reduceIte,e]
  obtain ⟨x,hx⟩:=get_some (show k < s.length by omega)
  simp only [hx,Option.getD_some]
  refine ⟨by omega,fun h=>weak_int ?_,fun h=>.here k (by omega) ?_⟩
  ·rw [hI,lastTo,if_pos (by rw [hx]; congr 1)]
  ·simp only [go_sem,simprocAttr,↓reduceIte,hst]
   refine ⟨by rw [wrap_in (by omega)],by omega,?_⟩
   rw [hI,lastTo,if_neg (by rw [hx]; simpa using h)]
 ·have : k = 0:=by omega
  subst this
  exact weak_int (by rw [hI]; rfl)

theorem st_lastIndexByte (s : List UInt8) (c : UInt8) : PureFn prog W0 104 [.str s,.int .u8 c.toNat] (.int .i64 (lastOf c s)):=by
 refine fn_pure [4] [] func104 rfl rfl ntmps104 rfl rfl (.int _ _) fun hs σ=>?_
 simp only [go_sem,simprocAttr,↓reduceIte]
 refine CallA.fn (ba_lastIndexByte s c) ?_
 simp only [go_sem,simprocAttr,↓reduceIte]

theorem st_trimLeftByte (s : List UInt8) (c : UInt8) : PureFn prog W0 260 [.str s,.int .u8 c.toNat] (.str (s.dropWhile (· == c))):=by
 refine fn_pure [4] [] func260 rfl rfl ntmps260 rfl rfl (.str _) fun hs σ=>?_
 simp only [go_sem,simprocAttr,↓reduceIte]
 refine LoopVC.falls [1] (.of (by kernel_rfl)) (fun k A=>∃ x,A.env 0 = .str x ∧ A.st = σ ∧ k = x.length ∧ x.dropWhile (· == c) = s.dropWhile (· == c)) s.length ⟨s,?_⟩ fun k B ⟨x,h0,hst,hk,hI⟩=>?_
 ·simp only [go_sem,simprocAttr,↓reduceIte]
 cases x with
 | nil =>
  simp only [go_sem,simprocAttr,↓reduceIte,h0,hst]
  exact weak_str hI
 | cons d r =>
  simp only [go_sem,simprocAttr,↓reduceIte,h0,hst]
  refine ⟨fun h=>.here r.length (by simp [hk]) ⟨r,?_⟩,fun h=>weak_str ?_⟩
  ·simp only [go_sem,simprocAttr,↓reduceIte,hst]
   rw [← hI,List.dropWhile_cons,if_pos (by have h:=h; simp at h ⊢; exact UInt8.toNat_inj.1 (by omega))]
  ·rw [← hI,List.dropWhile_cons,if_neg (by have h:=h; simp at h ⊢; intro e; subst e; exact h rfl)]

theorem st_trimLeft (s : List UInt8) (c : UInt8) (hc : c.toNat < 128) : PureFn prog W0 242 [.str s,.str [c]] (.str (s.dropWhile (· == c))):=by
 refine fn_pure [4] [] func242 rfl rfl ntmps242 rfl rfl (.str _) fun hs σ=>?_
 cases s with
 | nil=>simp only [go_sem,simprocAttr,↓reduceIte]; exact .refl _
 | cons d r =>
  have hc' : ((c.toNat : Int) < 128):=by omega
  simp only [go_sem,simprocAttr,↓reduceIte,hc']
  refine CallA.fn (st_trimLeftByte (d :: r) c) ?_
  simp only [go_sem,simprocAttr,↓reduceIte]
end Go.Proofs.Tryz
end
section
namespace Go.Av

def rankP (c : UInt8) : Int:=if c.toNat = 126 then -1 else if letterC c then c.toNat else c.toNat + 256
def rkP : List UInt8 → Int
 | []=>0
 | c :: _=>if digitC c then 0 else rankP c

theorem letterC_le {c : UInt8} (h : letterC c = true) : 65 ≤ c.toNat ∧ c.toNat ≤ 122:=by
 simp only [letterC,smallC,Bool.or_eq_true,Bool.and_eq_true,decide_eq_true_eq] at h
 omega

theorem rk_ranges (c : UInt8) (h : digitC c = false) : (rk [c] = -1 ∧ rkP [c] = -1 ∧ c.toNat = 126) ∨ (rk [c] = 1 + c.toNat ∧ rkP [c] = c.toNat ∧ 65 ≤ c.toNat ∧ c.toNat ≤ 122) ∨ (rk [c] = 300 + c.toNat ∧ rkP [c] = 256 + c.toNat ∧ True):=by
 simp only [rk,rkP,h,Bool.false_eq_true,if_false,rankC,rankP]
 by_cases h1 : c.toNat = 126
 ·left; simp [h1]
 ·right
  simp only [h1,if_false]
  cases h2 : letterC c with
  | true=>left; simp only [if_true,true_and]; exact letterC_le h2
  | false=>right; simp only [Bool.false_eq_true,if_false,true_and,and_true]; omega

theorem rkP_all (a : List UInt8) : (rk a = 0 ∧ rkP a = 0) ∨ ∃ c r,a = c :: r ∧ digitC c = false ∧ rk a = rk [c] ∧ rkP a = rkP [c]:=by
 cases a with
 | nil=>exact .inl ⟨rfl,rfl⟩
 | cons c r =>
  cases h : digitC c with
  | true=>left; simp [rk,rkP,h]
  | false=>right; exact ⟨c,r,rfl,h,rfl,rfl⟩

theorem rkP_cmp (a b : List UInt8) : sgn (rkP a) (rkP b) = sgn (rk a) (rk b):=by
 have key : (rkP a < rkP b ↔ rk a < rk b) ∧ (rkP a > rkP b ↔ rk a > rk b):=by
  rcases rkP_all a with ⟨a1,a2⟩ | ⟨c,r,_,hc,a1,a2⟩ <;> rcases rkP_all b with ⟨b1,b2⟩ | ⟨d,r',_,hd,b1,b2⟩
  ·rw [a1,a2,b1,b2]; simp
  ·rcases rk_ranges d hd with h | h | h <;> rw [a1,a2,b1,b2,h.1,h.2.1] <;> omega
  ·rcases rk_ranges c hc with h | h | h <;> rw [a1,a2,b1,b2,h.1,h.2.1] <;> omega
  ·have hc8:=c.toNat_lt
   have hd8:=d.toNat_lt
   rcases rk_ranges c hc with h | h | h <;> rcases rk_ranges d hd with h' | h' | h' <;> rw [a1,a2,b1,b2,h.1,h.2.1,h'.1,h'.2.1] <;> omega
 unfold sgn
 simp only [key.1,key.2]

theorem sgn_zero {a b : Int} : sgn a b = 0 ↔ a = b:=⟨sgn_eq,fun h=>by rw [h,sgn_self]⟩
theorem rkP_eq (a b : List UInt8) : rkP a = rkP b ↔ rk a = rk b:=by rw [← sgn_zero,rkP_cmp,sgn_zero]
theorem rkP_zero (a : List UInt8) : rkP a = 0 ↔ rk a = 0:=rkP_eq a []

theorem skipD_rk {a : List UInt8} (h : rk a = 0) : skipD a = a:=by
 cases a with
 | nil=>rfl
 | cons c r =>
  cases hd : digitC c with
  | true=>simp [skipD,hd]
  | false=>exact absurd h (by simp [rk,hd,rankC_ne])

theorem skipD_tail {a : List UInt8} (h : rk a ≠ 0) : skipD a.tail = skipD a:=by
 obtain ⟨c,r,rfl,hd⟩:=rk_ne h
 simp [skipD,hd]

def digsP (s : List UInt8) : List UInt8:=(s.takeWhile digitC).dropWhile (· == 48)
def restP (s : List UInt8) : List UInt8:=s.dropWhile digitC

theorem digit48 : digitC 48 = true:=by decide

theorem digs_rest (s : List UInt8) : digsP s = (skip0 s).take (runS (skip0 s)) ∧ restP s = (skip0 s).drop (runS (skip0 s)):=by
 have key : ∀ s : List UInt8,s.takeWhile digitC = s.take (runS s) ∧ s.dropWhile digitC = s.drop (runS s):=fun s=>by
  induction s with
  | nil=>exact ⟨rfl,rfl⟩
  | cons c r ih =>
   cases h : digitC c with
   | true =>
    have e : runS (c :: r) = runS r + 1:=by simp [runS,h]
    rw [e,List.takeWhile_cons,List.dropWhile_cons,if_pos h,if_pos h,List.take_succ_cons,List.drop_succ_cons,ih.1,ih.2]
    exact ⟨rfl,rfl⟩
   | false =>
    have e : runS (c :: r) = 0:=by simp [runS,h]
    rw [e,List.takeWhile_cons,List.dropWhile_cons,h]
    exact ⟨rfl,rfl⟩
 induction s with
 | nil=>exact ⟨rfl,rfl⟩
 | cons c r ih =>
  by_cases h0 : c = 48
  ·subst h0
   have e1 : skip0 (48 :: r) = skip0 r:=by simp [skip0]
   rw [e1,← ih.1,← ih.2]
   refine ⟨?_,?_⟩
   ·simp [digsP,digit48]
   ·simp [restP,digit48]
  ·have e1 : skip0 (c :: r) = c :: r:=by simp [skip0,h0]
   rw [e1,← (key (c :: r)).1,← (key (c :: r)).2]
   refine ⟨?_,rfl⟩
   unfold digsP
   cases h : digitC c with
   | true=>simp [List.takeWhile_cons,h,h0]
   | false=>simp [List.takeWhile_cons,h]

theorem runS_len (s : List UInt8) : (s.take (runS s)).length = runS s:=by
 rw [List.length_take]
 have:=runS_le s
 omega

theorem cmpS_lex : ∀ (a b : List UInt8),a.length = b.length → cmpS a b = lexC a b
 | [],[],_=>rfl
 | [],_ :: _,h=>by simp at h
 | _ :: _,[],h=>by simp at h
 | x :: a,y :: b,h=>by
  have ih:=cmpS_lex a b (by simpa using h)
  unfold lexC
  by_cases hxy : x = y
  ·subst hxy
   rw [if_pos rfl,← ih]
   simp [cmpS,Op.bytesLess]
  ·rw [if_neg hxy]
   have hne : x.toNat ≠ y.toNat:=fun e=>hxy (UInt8.toNat_inj.1 e)
   have hb : (x == y) = false:=by simpa using hxy
   simp only [cmpS,Op.bytesLess,hb,Bool.false_and,Bool.or_false,List.cons.injEq,hxy,false_and,if_false,decide_eq_true_eq,UInt8.lt_iff_toNat_lt,sgn]
   by_cases hl : x.toNat < y.toNat
   ·rw [if_pos hl,if_pos (by omega)]
   ·rw [if_neg hl,if_neg (by omega),if_pos (by omega)]

def numC (x y : List UInt8) : Int:=if (digsP x).length ≠ (digsP y).length then sgn (digsP x).length (digsP y).length else cmpS (digsP x) (digsP y)

theorem restP_le (s : List UInt8) : (restP s).length ≤ s.length:=dropWhile_le s

theorem partV_step {a b : List UInt8} (h : ¬ (a = [] ∧ b = [])) : partV a b = if signsL a b ≠ 0 then signsL a b else if numC (skipD a) (skipD b) ≠ 0 then numC (skipD a) (skipD b) else partV (restP (skipD a)) (restP (skipD b)):=by
 rw [partV,dif_neg h]
 split
 ·rfl
 ·have ha:=digs_rest (skipD a)
  have hb:=digs_rest (skipD b)
  have la : (digsP (skipD a)).length = runS (numS a):=by rw [ha.1]; exact runS_len _
  have lb : (digsP (skipD b)).length = runS (numS b):=by rw [hb.1]; exact runS_len _
  have e1 : (numS a).take (runS (numS a)) = digsP (skipD a):=ha.1.symm
  have e2 : (numS b).take (runS (numS b)) = digsP (skipD b):=hb.1.symm
  have e3 : (numS a).drop (runS (numS a)) = restP (skipD a):=ha.2.symm
  have e4 : (numS b).drop (runS (numS b)) = restP (skipD b):=hb.2.symm
  rw [e1,e2,e3,e4,← la,← lb]
  by_cases hl : (digsP (skipD a)).length = (digsP (skipD b)).length
  ·have e : numC (skipD a) (skipD b) = lexC (digsP (skipD a)) (digsP (skipD b)):=by rw [numC,if_neg (by simp [hl]),cmpS_lex _ _ hl]
   rw [if_neg (by simp [hl]),e]
  ·have : sgn ((digsP (skipD a)).length : Int) (digsP (skipD b)).length ≠ 0:=fun e=>hl (by have:=sgn_eq e; omega)
   have e : numC (skipD a) (skipD b) = sgn ((digsP (skipD a)).length : Int) (digsP (skipD b)).length:=by rw [numC,if_pos hl]
   rw [if_pos (by simpa using hl),e,if_pos this]

theorem partV_fall {a b : List UInt8} (h : ¬ (a = [] ∧ b = [])) : (restP (skipD a)).length + (restP (skipD b)).length < a.length + b.length:=by
 rw [(digs_rest (skipD a)).2,(digs_rest (skipD b)).2]
 exact partV_lt h

def verPAV : Option (List UInt8 × List UInt8 × List UInt8) → AV
 | none=>.tup [.str [],.str [],.str [],.int .i64 3]
 | some (e,u,r)=>.tup [.str e,.str u,.str r,.int .i64 0]
theorem verPAV_ids (v : Option (List UInt8 × List UInt8 × List UInt8)) : IdsLt 0 (verPAV v):=by
 cases v <;> refine .tup fun x hx=>?_ <;> simp at hx <;> rcases hx with rfl | rfl | rfl | rfl <;> first | exact .str _ | exact .int _ _

def ofV (beside : List UInt8) (s : List UInt8) : Bool:=s.all fun c=>digitC c || letterC c || beside.contains c
theorem ofV_rev (s : List UInt8) : ofV [43,46,126] s = s.all revCh:=by
 unfold ofV
 congr 1
 funext c
 have h : ∀ n : Nat,n < 256 → ((c == (n.toUInt8)) = ((c.toNat : Int) == (n : Int))):=fun n hn=>by
  rw [Bool.eq_iff_iff]
  simp only [beq_iff_eq]
  constructor
  ·intro e; subst e; simp [Nat.mod_eq_of_lt hn]
  ·intro e; apply UInt8.toNat_inj.1; simp [Nat.mod_eq_of_lt hn]; omega
 have h1:=h 43 (by omega)
 have h2:=h 46 (by omega)
 have h3:=h 126 (by omega)
 simp only [List.contains_cons,List.contains_nil,Bool.or_false,revCh]
 rw [show (43 : UInt8) = (43 : Nat).toUInt8 from rfl,show (46 : UInt8) = (46 : Nat).toUInt8 from rfl,show (126 : UInt8) = (126 : Nat).toUInt8 from rfl,h1,h2,h3]
 cases digitC c <;> cases letterC c <;> simp [Bool.or_assoc]
theorem ofV_up (s : List UInt8) : ofV [43,46,126,45,58] s = s.all upCh:=by
 unfold ofV
 congr 1
 funext c
 have h : ∀ n : Nat,n < 256 → ((c == (n.toUInt8)) = ((c.toNat : Int) == (n : Int))):=fun n hn=>by
  rw [Bool.eq_iff_iff]
  simp only [beq_iff_eq]
  constructor
  ·intro e; subst e; simp [Nat.mod_eq_of_lt hn]
  ·intro e; apply UInt8.toNat_inj.1; simp [Nat.mod_eq_of_lt hn]; omega
 have h1:=h 43 (by omega)
 have h2:=h 46 (by omega)
 have h3:=h 126 (by omega)
 have h4:=h 45 (by omega)
 have h5:=h 58 (by omega)
 simp only [List.contains_cons,List.contains_nil,Bool.or_false,upCh]
 rw [show (43 : UInt8) = (43 : Nat).toUInt8 from rfl,show (46 : UInt8) = (46 : Nat).toUInt8 from rfl,show (126 : UInt8) = (126 : Nat).toUInt8 from rfl,show (45 : UInt8) = (45 : Nat).toUInt8 from rfl,show (58 : UInt8) = (58 : Nat).toUInt8 from rfl,h1,h2,h3,h4,h5]
 cases digitC c <;> cases letterC c <;> simp [Bool.or_assoc]

theorem verP_eq (s : List UInt8) : verP s = if s.length = 0 ∨ 48 < s.length then none else
  (let et:=if 0 ≤ firstOf 58 s then (s.take (firstOf 58 s).toNat,s.drop ((firstOf 58 s).toNat + 1)) else ([48],s)
   match revP et.2 with
   | none=>none
   | some (u,r)=>if (decide (1 ≤ et.1.length) && decide (et.1.length ≤ 9) && et.1.all digitC) && ofV [43,46,126] r && startsD u && ofV [43,46,126,45,58] u then some (et.1,u,r) else none):=by
 rw [verP]
 split
 ·rfl
 simp only [epochP,ofV_rev,ofV_up]
 by_cases hf : 0 ≤ firstOf 58 s
 ·simp only [hf,if_true]
  by_cases he : 1 ≤ (s.take (firstOf 58 s).toNat).length ∧ (s.take (firstOf 58 s).toNat).length ≤ 9 ∧ (s.take (firstOf 58 s).toNat).all digitC = true
  ·simp only [he,and_self,if_true,decide_true,Bool.and_self,Bool.true_and]
   cases revP (s.drop ((firstOf 58 s).toNat + 1)) with
   | none=>rfl
   | some ur =>
    obtain ⟨u,r⟩:=ur
    simp only [Bool.and_right_comm]
  ·rw [if_neg he]
   have hb : (decide (1 ≤ (s.take (firstOf 58 s).toNat).length) && decide ((s.take (firstOf 58 s).toNat).length ≤ 9) && (s.take (firstOf 58 s).toNat).all digitC) = false:=by
    cases hx : (decide (1 ≤ (s.take (firstOf 58 s).toNat).length) && decide ((s.take (firstOf 58 s).toNat).length ≤ 9) && (s.take (firstOf 58 s).toNat).all digitC) with
    | false=>rfl
    | true =>
     simp only [Bool.and_eq_true,decide_eq_true_eq] at hx
     exact absurd ⟨hx.1.1,hx.1.2,hx.2⟩ he
   simp only [hb,Bool.false_and,Bool.false_eq_true,if_false]
   cases revP (s.drop ((firstOf 58 s).toNat + 1)) with
   | none=>rfl
   | some ur=>rfl
 ·simp only [hf,if_false]
  have hb : (decide (1 ≤ ([48] : List UInt8).length) && decide (([48] : List UInt8).length ≤ 9) && ([48] : List UInt8).all digitC) = true:=by decide
  simp only [hb,Bool.true_and]
  cases revP s with
  | none=>rfl
  | some ur =>
   obtain ⟨u,r⟩:=ur
   simp only [Bool.and_right_comm]

end Go.Av
end
section
namespace Go.Proofs.Tryz
open Go Go.Av
set_option maxRecDepth 10000
variable {W0 : World}

theorem ve_rank (s : List UInt8) : PureFn prog W0 217 [.str s] (.int .i64 (rkP s)):=by
 refine fn_pure [2] [] func217 rfl rfl ntmps217 rfl rfl (.int _ _) fun hs σ=>?_
 cases s with
 | nil =>
  simp only [go_sem,simprocAttr,↓reduceIte]
  refine CallP.fnG (fun h=>by simp at h) (r:=.bool false) ?_
  simp only [go_sem,simprocAttr,↓reduceIte]
  exact .refl _
 | cons c r =>
  have h8:=c.toNat_lt
  simp only [go_sem,simprocAttr,↓reduceIte]
  refine CallP.fnG (fun _=>ve_digit c) ?_
  simp only [go_sem,simprocAttr,↓reduceIte]
  refine ⟨fun h=>weak_int (by simp [rkP,h]),fun h=>⟨fun h'=>weak_int ?_,fun h'=>CallA.fn (ve_letter c) ?_⟩⟩
  ·have : c.toNat = 126:=by omega
   simp [rkP,h,rankP,this]
  simp only [go_sem,simprocAttr,↓reduceIte]
  have hn : ¬ c.toNat = 126:=by omega
  refine ⟨fun hl=>weak_int (by simp [rkP,h,rankP,hn,hl]),fun hl=>weak_int ?_⟩
  rw [wrap_in (by omega)]
  simp [rkP,h,rankP,hn,hl]

theorem ve_digits (s : List UInt8) : PureFn prog W0 219 [.str s] (.tup [.str (digsP s),.str (restP s)]):=by
 refine fn_pure [2,3] [] func219 rfl rfl ntmps219 rfl rfl (.tup (by intro x hx; simp at hx; rcases hx with rfl | rfl <;> exact .str _)) fun hs σ=>?_
 have hsl : s.length ≤ maxLen:=small_str (hs _ (by simp))
 simp only [go_sem,simprocAttr,↓reduceIte]
 refine LoopVC.at [0] (.of (by kernel_rfl)) (fun A=>∃ i : Nat,A.env 4 = .int .i64 i ∧ A.st = σ ∧ i = runS s) ?_ fun B ⟨i,h4,hst,hi⟩=>?_
 ·refine LoopVC.upto [0] (.of (by kernel_rfl)) s.length (fun i A=>A.env 4 = .int .i64 i ∧ A.st = σ ∧ ∀ c ∈ s.take i,digitC c = true) 0 (Nat.zero_le _) ?_ fun i B hi ⟨h4,hst,hI⟩=>?_
  ·simp only [go_sem,simprocAttr,↓reduceIte]
   simp
  simp only [go_sem,simprocAttr,↓reduceIte,h4,hst]
  refine CallP.fnG (fun _=>ve_digit _) ?_
  simp only [go_sem,simprocAttr,↓reduceIte,h4,hst]
  refine ⟨fun h=>?_,fun h=>⟨i,rfl,?_⟩⟩
  ·obtain ⟨c,hc,hd⟩:=at_and.1 h
   have hlt:=(List.getElem?_eq_some_iff.1 hc).1
   refine ⟨hlt,int_succ hlt hsl,fun d hdm=>?_⟩
   rw [take_succ_get hc] at hdm
   rcases List.mem_append.1 hdm with hdm | hdm
   ·exact hI d hdm
   ·rw [List.mem_singleton.1 hdm]; exact hd
  ·exact (runS_at hi hI (at_and_f.1 h)).symm
 simp only [go_sem,simprocAttr,↓reduceIte,h4,hst]
 subst hi
 have hle:=runS_le s
 refine ⟨.of (by kernel_rfl),⟨Nat.zero_le _,hle⟩,?_⟩
 refine CallP.fn (st_trimLeft _ 48 (by decide)) ?_
 simp only [go_sem,simprocAttr,↓reduceIte,h4,hst]
 refine ⟨hle,?_⟩
 have key : ∀ s : List UInt8,s.takeWhile digitC = s.take (runS s) ∧ s.dropWhile digitC = s.drop (runS s):=fun s=>by
  induction s with
  | nil=>exact ⟨rfl,rfl⟩
  | cons c r ih =>
   cases h : digitC c with
   | true =>
    have e : runS (c :: r) = runS r + 1:=by simp [runS,h]
    rw [e,List.takeWhile_cons,List.dropWhile_cons,if_pos h,if_pos h,List.take_succ_cons,List.drop_succ_cons,ih.1,ih.2]
    exact ⟨rfl,rfl⟩
   | false =>
    have e : runS (c :: r) = 0:=by simp [runS,h]
    rw [e,List.takeWhile_cons,List.dropWhile_cons,h]
    exact ⟨rfl,rfl⟩
 rw [digsP,restP,(key s).1,(key s).2]
 exact .refl _

abbrev sidesO (x y : List UInt8) : Option SObj:=some (.cells 219 [.agg 219 [.str x,.str y]])

theorem ve_signs (σ : Store) (id : Nat) (a b : List UInt8) (hid : σ[id]? = some (sidesO a b)) (hal : a.length ≤ maxLen) (hbl : b.length ≤ maxLen) :
  ACall prog W0 192 [.ptr 219 id 0 []] σ fun r σ'=>r = .int .i64 (signsL a b) ∧ ∃ x y,σ' = σ.set id (sidesO x y) ∧ (signsL a b = 0 → x = skipD a ∧ y = skipD b):=by
 have hidl : id < σ.length:=(List.getElem?_eq_some_iff.1 hid).1
 refine fn_call [2] [] func192 rfl rfl ntmps192 rfl rfl fun hs=>?_
 simp only [go_sem,simprocAttr,↓reduceIte]
 refine LoopVC.falls [0] (.of (by kernel_rfl)) (fun k A=>∃ x y,A.st = σ.set id (sidesO x y) ∧ k = x.length + y.length ∧ signsL x y = signsL a b ∧ skipD x = skipD a ∧ skipD y = skipD b ∧ x.length ≤ maxLen ∧ y.length ≤ maxLen) (a.length + b.length) ⟨a,b,?_,rfl,rfl,rfl,rfl,hal,hbl⟩ fun k B ⟨x,y,hst,hk,hI,hx,hy,hxl,hyl⟩=>?_
 ·simp only [go_sem,simprocAttr,↓reduceIte]
  exact (set_id hid).symm
 simp only [go_sem,simprocAttr,↓reduceIte,hst,look_set hidl]
 refine ⟨.of (by kernel_rfl),CallP.fn (ve_rank x) ?_⟩
 simp only [go_sem,simprocAttr,↓reduceIte,hst,look_set hidl]
 refine CallP.fn (ve_rank y) ?_
 simp only [go_sem,simprocAttr,↓reduceIte,hst,look_set hidl]
 refine ⟨fun h=>CallA.fn (cmpInt _ _) ?_,fun h=>⟨fun h0=>EndR.ret ?_,fun h0=>?_⟩⟩
 ·simp only [go_sem,simprocAttr,↓reduceIte,hst,look_set hidl]
  refine EndR.ret ?_
  simp only [go_sem,simprocAttr,↓reduceIte,hst]
  have hne : rk x ≠ rk y:=fun e=>h ((rkP_eq x y).2 e)
  refine ⟨_,.refl _,by simp,by rw [← hI,signsL_ne hne,rkP_cmp],x,y,rfl,fun h0=>?_⟩
  rw [← hI,signsL_ne hne] at h0
  exact absurd (sgn_eq h0) hne
 ·simp only [go_sem,simprocAttr,↓reduceIte,hst]
  have hx0:=(rkP_zero x).1 h0
  have hy0 : rk y = 0:=by rw [← rkP_zero,← h]; exact h0
  refine ⟨_,.refl _,by simp,by rw [← hI,signsL_zero hx0 hy0],x,y,rfl,fun _=>⟨by rw [← hx,skipD_rk hx0],by rw [← hy,skipD_rk hy0]⟩⟩
 ·have hx0 : rk x ≠ 0:=fun e=>h0 ((rkP_zero x).2 e)
  have hxy : rk x = rk y:=(rkP_eq x y).1 h
  have hy0 : rk y ≠ 0:=by rw [← hxy]; exact hx0
  obtain ⟨c,r,rfl,hc⟩:=rk_ne hx0
  obtain ⟨d,r',rfl,hd⟩:=rk_ne hy0
  simp only [go_sem,simprocAttr,↓reduceIte,hst,look_set hidl,setLook_set hidl]
  refine ⟨.of (by kernel_rfl),.here (r.length + r'.length) (by simp [hk]; omega) ⟨r,r',?_⟩⟩
  simp only [go_sem,simprocAttr,↓reduceIte,hst,look_set hidl,setLook_set hidl]
  simp at hxl hyl
  exact ⟨by rw [← hI,signsL_step hx0 hxy]; rfl,by rw [← hx]; exact skipD_tail hx0,by rw [← hy]; exact skipD_tail hy0,by omega,by omega⟩
theorem ve_numbers (σ : Store) (id : Nat) (a b : List UInt8) (hid : σ[id]? = some (sidesO a b)) :
  ACall prog W0 193 [.ptr 219 id 0 []] σ fun r σ'=>r = .int .i64 (numC a b) ∧ σ' = σ.set id (sidesO (restP a) (restP b)):=by
 have hidl : id < σ.length:=(List.getElem?_eq_some_iff.1 hid).1
 refine fn_call [2] [] func193 rfl rfl ntmps193 rfl rfl fun hs=>?_
 simp only [go_sem,simprocAttr,↓reduceIte,look_id hid]
 refine CallA.fn (ve_digits a) ?_
 simp only [go_sem,simprocAttr,↓reduceIte,look_id hid]
 refine CallA.fn (ve_digits b) ?_
 simp only [go_sem,simprocAttr,↓reduceIte,look_id hid,setLook_id hid,look_set hidl,setLook_set hidl]
 refine ⟨fun h=>CallA.fn (cmpInt _ _) ?_,fun h=>CallA.fn (cmp_str _ _) ?_⟩
 ·simp only [go_sem,simprocAttr,↓reduceIte]
  refine EndR.ret ?_
  simp only [go_sem,simprocAttr,↓reduceIte]
  exact ⟨_,.refl _,by simp,by rw [numC,if_pos h]⟩
 ·simp only [go_sem,simprocAttr,↓reduceIte]
  refine EndR.ret ?_
  simp only [go_sem,simprocAttr,↓reduceIte]
  exact ⟨_,.refl _,by simp,by rw [numC,if_neg (by simpa using h)]⟩

theorem ve_part (a b : List UInt8) : PureFn prog W0 153 [.str a,.str b] (.int .i64 (partV a b)):=by
 refine fn_pure [4] [] func153 rfl rfl ntmps153 rfl rfl (.int _ _) fun hs σ=>?_
 have hal : a.length ≤ maxLen:=small_str (hs (.str a) (by simp))
 have hbl : b.length ≤ maxLen:=small_str (hs (.str b) (by simp))
 simp only [go_sem,simprocAttr,↓reduceIte]
 refine LoopVC.falls [5] (.of (by kernel_rfl)) (fun k A=>∃ x y,A.st = σ ++ [sidesO x y] ∧ k = x.length + y.length ∧ partV x y = partV a b ∧ x.length ≤ maxLen ∧ y.length ≤ maxLen) (a.length + b.length) ⟨a,b,?_,rfl,rfl,hal,hbl⟩ fun k B ⟨x,y,hst,hk,hI,hxl,hyl⟩=>?_
 ·simp only [go_sem,simprocAttr,↓reduceIte]
 simp only [go_sem,simprocAttr,↓reduceIte,hst]
 refine ⟨fun h=>?_,fun h=>?_⟩
 case refine_2 =>
  have : x = [] ∧ y = []:=by cases x <;> cases y <;> simp at h ⊢
  exact weak_int (by rw [← hI,partV,dif_pos this])
 have hne : ¬ (x = [] ∧ y = []):=fun ⟨e,e'⟩=>by subst e e'; simp at h
 have hid : (σ ++ [sidesO x y])[σ.length]? = some (sidesO x y):=by simp
 refine CallA.goes (by simp only [go_sem,simprocAttr,↓reduceIte,hst]) (ve_signs _ σ.length x y hid hxl hyl) fun r σ' ⟨hr,x',y',hσ,hz⟩=>?_
 subst hr hσ
 simp only [go_sem,simprocAttr,↓reduceIte,hst]
 refine ⟨fun h1=>weak_int ?_,fun h1=>?_⟩
 ·rw [← hI,partV_step hne,if_pos h1]
 obtain ⟨rfl,rfl⟩:=hz h1
 have hid : (σ ++ [sidesO (skipD x) (skipD y)])[σ.length]? = some (sidesO (skipD x) (skipD y)):=by simp
 refine CallA.goes (by simp only [go_sem,simprocAttr,↓reduceIte]) (ve_numbers _ σ.length _ _ hid) fun r σ' ⟨hr,hσ⟩=>?_
 subst hr hσ
 simp only [go_sem,simprocAttr,↓reduceIte,hst]
 have l1:=restP_le (skipD x)
 have l2:=restP_le (skipD y)
 have l3:=dropWhile_le (p:=fun c=>!digitC c) x
 have l4:=dropWhile_le (p:=fun c=>!digitC c) y
 refine ⟨fun h2=>weak_int ?_,fun h2=>.here ((restP (skipD x)).length + (restP (skipD y)).length) (by rw [hk]; exact partV_fall hne) ⟨restP (skipD x),restP (skipD y),?_⟩⟩
 ·rw [← hI,partV_step hne,if_neg (by simp [h1]),if_pos h2]
 ·simp only [go_sem,simprocAttr,↓reduceIte]
  unfold skipD at *
  exact ⟨by rw [← hI,partV_step hne,if_neg (by simp [h1]),if_neg (by unfold skipD; simp [h2])]; rfl,by omega,by omega⟩

theorem ve_of (beside s : List UInt8) (hbs : ∀ c ∈ beside,c.toNat ≤ 126) : PureFn prog W0 106 [.str s,.str beside] (.bool (ofV beside s)):=by
 refine fn_pure [4] [] func106 rfl rfl ntmps106 rfl rfl (.bool _) fun hs σ=>?_
 simp only [go_sem,simprocAttr,↓reduceIte]
 refine LoopVC.falls [1,8] (.of (by kernel_rfl)) (fun k A=>∃ pos,A.st = σ ++ [some (.iter s pos)] ∧ k = s.length - pos ∧ pos ≤ s.length ∧ ofV beside (s.take pos) = true) s.length ⟨0,?_⟩ fun k B ⟨pos,hst,hk,hp,hI⟩=>?_
 ·simp only [go_sem,simprocAttr,↓reduceIte]
  simp [ofV]
 simp only [go_sem,simprocAttr,↓reduceIte,hst]
 refine ⟨fun hlt=>?_,fun hge=>?_⟩
 ·obtain ⟨c,hc⟩:=get_some hlt
  have bad : (digitC c || letterC c || beside.contains c) = false → ofV beside s = false:=fun hd=>by
   unfold ofV; exact all_false hc hd
  rcases Nat.lt_or_ge c.toNat 128 with h8 | h8
  ·rw [decAt_ascii hc h8]
   have hcv:=u8_wrap c
   have hce:=encL_ascii h8
   simp only [go_sem,simprocAttr,↓reduceIte,hcv,hce]
   refine CallP.fnG (fun _=>ve_digit c) ?_
   simp only [go_sem,simprocAttr,↓reduceIte,hcv,hce]
   refine CallP.fnG (fun _=>ve_letter c) ?_
   simp only [go_sem,simprocAttr,↓reduceIte,hcv,hce]
   refine CallP.fnG (fun _=>st_contains beside c) ?_
   simp only [go_sem,simprocAttr,↓reduceIte,hcv,hce]
   refine ⟨fun hb=>weak_bool ?_,fun hb=>.here (s.length - (pos + 1)) (by omega) ⟨pos + 1,?_⟩⟩
   ·refine (bad ?_).symm
    simp only [Bool.or_eq_true,decide_eq_true_eq,Bool.and_eq_true,Bool.not_eq_true'] at hb
    rcases hb with hb | ⟨⟨h1,h2⟩,h3⟩
    ·have h1 : digitC c = false:=by simp [digitC]; omega
     have h2 : letterC c = false:=by simp [letterC,smallC]; omega
     have h3 : beside.contains c = false:=by
      cases hx : beside.contains c with
      | false=>rfl
      | true=>have:=hbs c (by simpa using hx); omega
     simp only [h1,h2,h3,Bool.or_false]
    ·simp only [h1,h2,h3,Bool.or_false]
   ·simp only [go_sem,simprocAttr,↓reduceIte,hst]
    refine ⟨by omega,all_take hI hc ?_⟩
    simp at hb
    have hb2:=hb.2
    cases hd : digitC c <;> cases hl : letterC c <;> cases hx : beside.contains c <;> simp_all
  ·have:=decAt_big hc h8
   have hd : decide ((126 : Int) < ((decAt s pos).1 : Int)) = true:=decide_eq_true (by omega)
   simp only [go_sem,simprocAttr,↓reduceIte,hd]
   refine CallP.fnG (fun h=>by simp at h) (r:=.bool false) ?_
   simp only [go_sem,simprocAttr,↓reduceIte,hd]
   refine CallP.fnG (fun h=>by simp at h) (r:=.bool false) ?_
   simp only [go_sem,simprocAttr,↓reduceIte,hd]
   refine CallP.fnG (fun h=>by simp at h) (r:=.bool false) ?_
   simp only [go_sem,simprocAttr,↓reduceIte,hd]
   refine weak_bool (bad ?_).symm
   have h1 : digitC c = false:=by simp [digitC]; omega
   have h2 : letterC c = false:=by simp [letterC,smallC]; omega
   have h3 : beside.contains c = false:=by
    cases hx : beside.contains c with
    | false=>rfl
    | true=>have:=hbs c (by simpa using hx); omega
   simp only [h1,h2,h3,Bool.or_false]
 ·have : pos = s.length:=by omega
  rw [this,List.take_length] at hI
  exact weak_bool hI.symm

theorem ve_parse (s : List UInt8) : PureFn prog W0 50 [.str s] (verPAV (verP s)):=by
 refine fn_pure [2,3,4,5] [] func50 rfl rfl ntmps50 rfl rfl (verPAV_ids _) fun hs σ=>?_
 have hsl : s.length ≤ maxLen:=small_str (hs _ (by simp))
 have none_end : verP s = none → Weak (AV.tup [.str [],.str [],.str [],.int .i64 3]) (verPAV (verP s)):=fun e=>by rw [e]; exact .refl _
 simp only [go_sem,simprocAttr,↓reduceIte]
 refine ⟨fun h=>none_end ?_,fun h=>?_⟩
 ·have h' : s.length = 0 ∨ 48 < s.length:=by
   simp only [Bool.or_eq_true,beq_iff_eq,decide_eq_true_eq] at h
   rcases h with h | h
   ·left; rw [h]; rfl
   ·right; omega
  rw [verP,if_pos h']
 have hlen : ¬ (s.length = 0 ∨ 48 < s.length):=by
  simp only [Bool.or_eq_false_iff,beq_eq_false_iff_ne,decide_eq_false_iff_not] at h
  rintro (h1 | h1)
  ·exact h.1 (List.length_eq_zero_iff.1 h1)
  ·exact h.2 (by omega)
 refine CallA.fn (st_cut s 58) ?_
 simp only [go_sem,simprocAttr,↓reduceIte,cutAV]
 have hv : ∀ e t : List UInt8,(e,t) = (if 0 ≤ firstOf 58 s then (s.take (firstOf 58 s).toNat,s.drop ((firstOf 58 s).toNat + 1)) else ([48],s)) → verP s = (match revP t with
   | none=>none
   | some (u,r)=>if (decide (1 ≤ e.length) && decide (e.length ≤ 9) && e.all digitC) && ofV [43,46,126] r && startsD u && ofV [43,46,126,45,58] u then some (e,u,r) else none):=fun e t he=>by
  rw [verP_eq,if_neg hlen,← he] <;> rfl
 refine JoinVC.at [4] (by kernel_rfl) (fun A=>∃ e t,A.env 2 = .str e ∧ A.env 6 = .str t ∧ A.st = σ ∧ t.length ≤ s.length ∧ (e,t) = (if 0 ≤ firstOf 58 s then (s.take (firstOf 58 s).toNat,s.drop ((firstOf 58 s).toNat + 1)) else ([48],s))) (fun hf=>?_) (fun hf=>?_) fun B ⟨e,t,h2,h6,hst,htl,het⟩=>?_
 ·have hf : 0 ≤ firstOf 58 s:=by simpa using hf
  simp only [go_sem,simprocAttr,↓reduceIte]
  exact ⟨_,_,rfl,rfl,by rw [cutB,if_pos hf]; simp,by rw [cutA,cutB,if_pos hf,if_pos hf,if_pos hf]⟩
 ·have hf : ¬ 0 ≤ firstOf 58 s:=by simpa using hf
  simp only [go_sem,simprocAttr,↓reduceIte]
  exact ⟨_,_,rfl,rfl,Nat.le_refl _,by rw [if_neg hf]⟩
 have hv:=hv e t het
 simp only [go_sem,simprocAttr,↓reduceIte,h2,h6,hst]
 refine CallA.fn (st_lastIndexByte t 45) ?_
 simp only [go_sem,simprocAttr,↓reduceIte,h2,h6,hst]
 refine JoinVC.at [] (by kernel_rfl) (fun A=>∃ u r,revP t = some (u,r) ∧ A.env 2 = .str e ∧ A.env 3 = .str u ∧ A.env 4 = .str r ∧ A.st = σ) (fun hf=>?_) (fun hf=>?_) fun B ⟨u,r,hrv,h2,h3,h4,hst⟩=>?_
 ·obtain ⟨i,hi,hgi,hlt⟩:=(lastOf_cases 45 t).resolve_left (fun e=>by rw [e.1] at hf; simp at hf)
  rw [hi]
  have hw : IntKind.i64.wrap ((i : Int) + 1) = ((i + 1 : Nat) : Int):=wrap_succ hlt (by omega)
  have hrv : revP t = if t.drop (i + 1) = [] then none else some (t.take i,t.drop (i + 1)):=by
   rw [revP,hi,if_pos (by omega)]; rfl
  simp only [go_sem,simprocAttr,↓reduceIte,hw,h2,h6,hst]
  refine ⟨.of (by kernel_rfl),by omega,by omega,fun hb=>none_end (by rw [hv]; simp only [hrv,if_pos hb]),fun hb=>⟨t.take i,t.drop (i + 1),?_⟩⟩
  rw [hrv,if_neg hb]
  simp
 ·have hf' : ¬ (0 ≤ lastOf 45 t):=by simpa using hf
  simp only [go_sem,simprocAttr,↓reduceIte,h2,h6,hst]
  exact ⟨t,[],by simp [revP,hf']⟩
 rw [hrv] at hv
 simp only at hv
 simp only [go_sem,simprocAttr,↓reduceIte,h2,h3,h4,hst]
 refine CallA.fn (ve_epochOf e) ?_
 simp only [go_sem,simprocAttr,↓reduceIte,h2,h3,h4,hst]
 refine CallP.fnG (fun _=>ve_of [43,46,126] r (by decide)) ?_
 simp only [go_sem,simprocAttr,↓reduceIte,h2,h3,h4,hst]
 have fin : ∀ b : Bool,b = (!((decide (1 ≤ e.length) && decide (e.length ≤ 9) && e.all digitC) && ofV [43,46,126] r && startsD u && ofV [43,46,126,45,58] u)) → (b = true → verP s = none) ∧ (b = false → verP s = some (e,u,r)):=fun b hb=>by
  rw [hv]
  refine ⟨fun h=>if_neg ?_,fun h=>if_pos ?_⟩
  ·rw [h] at hb
   intro hc
   rw [hc] at hb
   cases hb
  ·rw [h] at hb
   cases hc : (decide (1 ≤ e.length) && decide (e.length ≤ 9) && e.all digitC) && ofV [43,46,126] r && startsD u && ofV [43,46,126,45,58] u with
   | true=>rfl
   | false=>rw [hc] at hb; cases hb
 cases u with
 | nil =>
  simp only [go_sem,simprocAttr,↓reduceIte,h2,h3,h4,hst]
  refine CallP.fnG (fun h=>by simp at h) (r:=.bool false) ?_
  simp only [go_sem,simprocAttr,↓reduceIte,h2,h3,h4,hst]
  refine CallP.fnG (fun h=>by simp at h) (r:=.bool false) ?_
  simp only [go_sem,simprocAttr,↓reduceIte,h2,h3,h4,hst]
  exact none_end ((fin true (by simp [startsD])).1 rfl)
 | cons c u' =>
  simp only [go_sem,simprocAttr,↓reduceIte,h2,h3,h4,hst]
  refine CallP.fnG (fun _=>ve_digit c) ?_
  simp only [go_sem,simprocAttr,↓reduceIte,h2,h3,h4,hst]
  refine CallP.fnG (fun _=>ve_of [43,46,126,45,58] (c :: u') (by decide)) ?_
  simp only [go_sem,simprocAttr,↓reduceIte,h2,h3,h4,hst]
  refine ⟨fun h=>none_end ((fin _ ?_).1 h),fun h=>?_⟩
  ·simp only [startsD]
   cases (decide (1 ≤ e.length) && decide (e.length ≤ 9) && e.all digitC) <;> cases ofV [43,46,126] r <;> cases digitC c <;> cases ofV [43,46,126,45,58] (c :: u') <;> rfl
  ·rw [(fin _ (by
    simp only [startsD]
    cases (decide (1 ≤ e.length) && decide (e.length ≤ 9) && e.all digitC) <;> cases ofV [43,46,126] r <;> cases digitC c <;> cases ofV [43,46,126,45,58] (c :: u') <;> rfl)).2 h]
   exact .refl _
end Go.Proofs.Tryz
end
section
namespace Go.Proofs.Tryz
open Go Go.Av
set_option maxRecDepth 10000
variable {W0 : World}

def cmpAV (a b : List UInt8) : AV:=.tup [.int .i64 (cmpVer a b),.bool (isVer a && isVer b)]
theorem cmpAV_ids (a b : List UInt8) : IdsLt 0 (cmpAV a b):=by
 refine .tup fun x hx=>?_
 simp at hx
 rcases hx with rfl | rfl
 ·exact .int _ _
 ·exact .bool _

theorem ve_compare (a b : List UInt8) : PureFn prog W0 93 [.str a,.str b] (cmpAV a b):=by
 refine fn_pure [4,5] [] func93 rfl rfl ntmps93 rfl rfl (cmpAV_ids _ _) fun hs σ=>?_
 simp only [go_sem,simprocAttr,↓reduceIte]
 refine CallA.fn (ve_parse a) ?_
 cases h : verP a with
 | none =>
  simp only [go_sem,simprocAttr,↓reduceIte,verPAV]
  refine CallA.fn (ve_parse b) ?_
  cases h' : verP b with
  | none=>simp only [go_sem,simprocAttr,↓reduceIte,verPAV]; simp only [cmpAV,cmpVer,isVer,h,h']; exact .refl _
  | some v=>obtain ⟨f,v,t⟩:=v; simp only [go_sem,simprocAttr,↓reduceIte,verPAV]; simp only [cmpAV,cmpVer,isVer,h,h']; exact .refl _
 | some v =>
  obtain ⟨e,u,r⟩:=v
  simp only [go_sem,simprocAttr,↓reduceIte,verPAV]
  refine CallA.fn (ve_parse b) ?_
  cases h' : verP b with
  | none=>simp only [go_sem,simprocAttr,↓reduceIte,verPAV]; simp only [cmpAV,cmpVer,isVer,h,h']; exact .refl _
  | some v =>
   obtain ⟨f,v,t⟩:=v
   simp only [go_sem,simprocAttr,↓reduceIte,verPAV]
   refine CallA.fn (ve_part e f) ?_
   simp only [go_sem,simprocAttr,↓reduceIte]
   refine CallA.fn (ve_part u v) ?_
   simp only [go_sem,simprocAttr,↓reduceIte]
   refine CallA.fn (ve_part r t) ?_
   simp only [go_sem,simprocAttr,↓reduceIte]
   refine ⟨by decide,CallA.fn ((cmp_or [partV e f,partV u v,partV r t]).weak (.cons (.lit _ _) .nil)) ?_⟩
   simp only [go_sem,simprocAttr,↓reduceIte]
   have : orL [partV e f,partV u v,partV r t] = cmpVer a b:=by
    simp only [cmpVer,h,h',orL]
    by_cases h1 : partV e f = 0
    ·by_cases h2 : partV u v = 0
     ·by_cases h3 : partV r t = 0
      ·simp [h1,h2,h3]
      ·simp [h1,h2,h3]
     ·simp [h1,h2]
    ·simp [h1]
   rw [this,cmpAV]
   simp only [isVer,h,h']
   exact .refl _

theorem ve_same (a b : List UInt8) : PureFn prog W0 45 [.str a,.str b] (.bool (sameVer a b)):=by
 refine fn_pure [4] [] func45 rfl rfl ntmps45 rfl rfl (.bool _) fun hs σ=>?_
 simp only [go_sem,simprocAttr,↓reduceIte]
 refine CallA.fn (ve_compare a b) ?_
 simp only [go_sem,simprocAttr,↓reduceIte,cmpAV]
 exact weak_bool (by rw [sameVer])

theorem tx_name (s : List UInt8) : PureFn prog W0 51 [.str s] (.bool (nameOk s)):=by
 refine fn_pure [2] [] func51 rfl rfl ntmps51 rfl rfl (.bool _) fun hs σ=>?_
 have hsl : s.length ≤ maxLen:=small_str (hs _ (by simp))
 simp only [go_sem,simprocAttr,↓reduceIte]
 refine ⟨fun h=>weak_bool ?_,fun h=>?_⟩
 ·have : (decide (2 ≤ s.length) && decide (s.length ≤ 24)) = false:=by
   simp only [Bool.or_eq_true,decide_eq_true_eq] at h
   simp only [Bool.and_eq_false_iff,decide_eq_false_iff_not]
   omega
  rw [nameOk,this]; rfl
 have hlen : (decide (2 ≤ s.length) && decide (s.length ≤ 24)) = true:=by
  simp only [Bool.or_eq_false_iff,decide_eq_false_iff_not] at h
  simp only [Bool.and_eq_true,decide_eq_true_eq]
  omega
 refine LoopVC.falls [15] (.of (by kernel_rfl)) (fun k A=>∃ pos,A.st = σ ++ [some (.iter s pos)] ∧ k = s.length - pos ∧ pos ≤ s.length ∧ ∀ j c,j < pos → s[j]? = some c → nameCh j c = true) s.length ⟨0,?_⟩ fun k B ⟨pos,hst,hk,hp,hI⟩=>?_
 ·simp only [go_sem,simprocAttr,↓reduceIte]
  simp
 simp only [go_sem,simprocAttr,↓reduceIte,hst]
 refine ⟨fun hlt=>?_,fun hge=>?_⟩
 ·obtain ⟨c,hc⟩:=get_some hlt
  have bad : nameCh pos c = false → nameOk s = false:=fun hd=>by
   rw [nameOk,allIdxB_false hc hd,Bool.and_false]
  rcases Nat.lt_or_ge c.toNat 128 with h8 | h8
  ·rw [decAt_ascii hc h8]
   simp only [go_sem,simprocAttr,↓reduceIte]
   refine ⟨fun hb=>weak_bool ?_,fun hb=>.here (s.length - (pos + 1)) (by omega) ⟨pos + 1,?_⟩⟩
   ·refine (bad ?_).symm
    revert hb
    simp only [nameCh,smallC,digitC]
    simp
    omega
   ·simp only [go_sem,simprocAttr,↓reduceIte,hst]
    refine ⟨by omega,fun j d hj hd=>?_⟩
    rcases Nat.lt_succ_iff_lt_or_eq.1 hj with hj | rfl
    ·exact hI j d hj hd
    ·have e : d = c:=by rw [hd] at hc; exact Option.some.inj hc
     subst e
     revert hb
     simp only [nameCh,smallC,digitC]
     simp
     omega
  ·have:=decAt_big hc h8
   refine ⟨fun hb=>weak_bool (bad ?_).symm,fun hb=>?_⟩
   ·simp only [nameCh,smallC,digitC]
    simp
    omega
   ·simp at hb
    omega
 ·have : pos = s.length:=by omega
  have : allIdxB nameCh 0 s = true:=allIdxB_iff.2 fun j c hj=>by rw [Nat.zero_add]; exact hI j c (by have:=(List.getElem?_eq_some_iff.1 hj).1; omega) hj
  exact weak_bool (by rw [nameOk,this,hlen]; rfl)

theorem rl_mayAtom (a : Atom) : PureFn prog W0 112 [atomAV a] (.bool (mayAtom a)):=by
 refine fn_pure [2] [1] func112 rfl rfl ntmps112 rfl rfl (.bool _) fun hs σ=>?_
 simp only [go_sem,simprocAttr,↓reduceIte,atomAV]
 refine CallA.fn (tx_name a.name) ?_
 simp only [go_sem,simprocAttr,↓reduceIte,atomAV]
 have low : (!nameOk a.name || decide (a.rel < 0) || decide (5 < a.rel)) = true → mayAtom a = false:=fun h=>by
  unfold mayAtom
  cases hn : nameOk a.name with
  | false=>rfl
  | true =>
   rw [hn] at h
   simp only [Bool.not_true,Bool.false_or,Bool.or_eq_true,decide_eq_true_eq] at h
   rw [if_neg (by omega)]
   have : (decide (1 ≤ a.rel) && decide (a.rel ≤ 5)) = false:=by
    simp only [Bool.and_eq_false_iff,decide_eq_false_iff_not]; omega
   rw [this]; rfl
 have high : (!nameOk a.name || decide (a.rel < 0) || decide (5 < a.rel)) = false → mayAtom a = if a.rel = 0 then a.ver == [] else isVer a.ver:=fun h=>by
  simp only [Bool.or_eq_false_iff,Bool.not_eq_false',decide_eq_false_iff_not] at h
  rw [mayAtom,h.1.1,Bool.true_and]
  split
  ·rfl
  ·have h1 : decide (1 ≤ a.rel) = true:=decide_eq_true (by omega)
   have h2 : decide (a.rel ≤ 5) = true:=decide_eq_true (by omega)
   rw [h1,h2]; rfl
 refine ⟨fun h=>weak_bool (low h).symm,fun h=>⟨fun h0=>weak_bool (by rw [high h,if_pos h0]),fun h0=>CallA.fn (ve_parse a.ver) ?_⟩⟩
 have hm:=high h
 rw [if_neg h0] at hm
 cases h : verP a.ver with
 | none=>simp only [go_sem,simprocAttr,↓reduceIte,verPAV]; exact weak_bool (by rw [hm,isVer,h]; rfl)
 | some v=>obtain ⟨e,u,r⟩:=v; simp only [go_sem,simprocAttr,↓reduceIte,verPAV]; exact weak_bool (by rw [hm,isVer,h]; rfl)
end Go.Proofs.Tryz
end
section
namespace Go.Av

structure Built (σ st : Store) (v : AV) (e : TypeId) (xs : List AV) : Prop where
 bld : Bld st v e xs
 ext : Ext σ st
 tok : ∀ t,tokOf v = some t → σ.length ≤ t

theorem Built.nil {σ st : Store} (h : Ext σ st) (e : TypeId) : Built σ st .nils e []:=⟨.inl ⟨rfl,rfl⟩,h,fun t h=>by cases h⟩

theorem Built.app {σ st st' : Store} {v v' : AV} {e : TypeId} {xs zs : List AV} (h : Built σ st v e xs) (ha : App st v e zs v' st') : Built σ st' v' e zs:=by
 have hl:=h.ext.le
 refine ⟨ha.bld,?_,fun t ht=>?_⟩
 ·have hl':=ha.len
  refine List.ext_getElem? fun i=>?_
  rw [List.getElem?_take]
  by_cases hi : i < σ.length
  ·rw [if_pos hi,ha.old i (by omega) (fun e=>by have:=h.tok i e; omega)]
   have e:=congrArg (·[i]?) h.ext
   simpa [List.getElem?_take,hi] using e
  ·rw [if_neg hi,List.getElem?_eq_none (by omega)]
 ·rcases ha.tok with e | ⟨u,e,hu⟩
  ·exact h.tok t (by rw [← e]; exact ht)
  ·rw [e] at ht; cases ht; omega

theorem Built.more {σ st : Store} {v : AV} {e : TypeId} {xs : List AV} (h : Built σ st v e xs) (l : Store) : Built σ (st ++ l) v e xs:=by
 refine ⟨?_,h.ext.app l,h.tok⟩
 rcases h.bld with h1 | h1 | ⟨t,h1,h2⟩
 ·exact .inl h1
 ·exact .inr (.inl h1)
 ·exact .inr (.inr ⟨t,h1,by rw [List.getElem?_append_left ((List.getElem?_eq_some_iff.1 h2).1)]; exact h2⟩)

theorem Built.weak {σ st : Store} {v : AV} {e : TypeId} {xs : List AV} (h : Built σ st v e xs) : Weak v (.sl e xs):=by
 rcases h.bld with ⟨rfl,rfl⟩ | rfl | ⟨t,rfl,_⟩
 ·exact .nils _
 ·exact .lit _ _
 ·exact .own _ _ _

theorem Ext.eq {σ st : Store} (h : Ext σ st) : st = σ ++ st.drop σ.length:=by
 have:=List.take_append_drop σ.length st
 rw [h] at this
 exact this.symm
theorem Ext.trans {σ st st' : Store} (h : Ext σ st) (h' : Ext st st') : Ext σ st':=by
 rw [h'.eq]; exact h.app _
theorem Built.on {σ st st' : Store} {v : AV} {e : TypeId} {xs : List AV} (h : Built σ st v e xs) (h' : Ext st st') : Built σ st' v e xs:=by
 rw [h'.eq]; exact h.more _
theorem Built.len {σ st : Store} {v : AV} {e : TypeId} {xs : List AV} (h : Built σ st v e xs) : lenV v = .int .i64 xs.length:=by
 rcases h.bld with ⟨rfl,rfl⟩ | rfl | ⟨t,rfl,_⟩ <;> rfl
theorem Built.lenC {σ st : Store} {v : AV} {e : TypeId} {xs : List AV} (h : Built σ st v e xs) (P : Program) (t : TypeId) : lenC P t v = ((elT P t).isSome = true):=by
 rcases h.bld with ⟨rfl,rfl⟩ | rfl | ⟨t,rfl,_⟩ <;> rfl
theorem Built.notM {σ st : Store} {v : AV} {e : TypeId} {xs : List AV} (h : Built σ st v e xs) : NotM v:=by
 rcases h.bld with ⟨rfl,rfl⟩ | rfl | ⟨t,rfl,_⟩ <;> trivial
theorem Built.ok {σ st : Store} {v : AV} {e : TypeId} {xs : List AV} (h : Built σ st v e xs) (g : Option Bool) : okM g v = True:=okM_notM h.notM
theorem Built.un {σ st : Store} {v : AV} {e : TypeId} {xs : List AV} (h : Built σ st v e xs) : unm v = v:=unm_notM h.notM
attribute [go_sem] List.range'_succ List.range'_zero

theorem Sub.slmap {α : Type} {f g : α → AV} {e : TypeId} (l : List α) (h : ∀ a ∈ l,Sub (f a) (g a)) : Sub (.sl e (l.map f)) (.sl e (l.map g)):=by
 refine .sls (by simp) fun i x y hx hy=>?_
 rw [List.getElem?_map,Option.map_eq_some_iff] at hx hy
 obtain ⟨a,ha,rfl⟩:=hx
 obtain ⟨b,hb,rfl⟩:=hy
 rw [ha] at hb
 cases hb
 exact h a (List.mem_of_getElem? ha)

theorem ReadL.sl (st : Store) (e : TypeId) (ys : List AV) : ReadL st (.sl e ys) e ys:=.inl rfl
theorem ReadL.lit (st : Store) (e : TypeId) (ys : List AV) : ReadL st (.lit e ys) e ys:=.inl rfl

theorem LoopVC.ats {P : Program} {W0 : World} {n : Nat} {fz : List Nat} {A : AState} {c : Code} {id : Nat} {Q : Exit → AState → Prop} (ks : List Nat) (hks : Kept fz c .mk ks) (R : AState → Prop) (h : LoopVC P W0 n fz c .mk (blockQ id (thenQ R Q)) .mk A) (hR : ∀ B,R B → Q .normal (keep ks A B)) : LoopVC P W0 n fz c .mk (blockQ id Q) .mk A:=by
 have e : blockQ id (thenQ (Q .normal) Q) = blockQ id Q:=by
  funext e A
  cases e <;> rfl
 rw [← e]
 exact .at ks hks R h hR

def mayCl (l : List Clause) : Int :=
 if 12 < l.length ∨ l.any (fun c=>decide (6 < c.length)) = true then 12 else if l.any (fun c=>decide (c.length = 0) || c.any fun a=>!mayAtom a) = true then 3 else 0
def single (l : List Atom) : List Clause:=l.map fun a=>[a]
def provAtom (p : Prov) : Atom:=⟨p.name,if p.ver = [] then 0 else 3,p.ver⟩
def mayPkg (p : Pkg) : Int:=if (!nameOk p.name || !isVer p.ver) = true then 3 else orL [mayCl p.pre,mayCl p.dep,mayCl p.rcm,mayCl (single p.con),mayCl (single p.brk),mayCl (single (p.prov.map provAtom))]

def namesL : List Pkg → List (List UInt8) → List (List UInt8)
 | [],acc=>acc
 | p :: r,acc=>namesL r (if acc.any (fun x=>p.name == x) then acc else acc ++ [p.name])
def sameNV (p q : Pkg) : Bool:=q.name == p.name && sameVer q.ver p.ver
def dupL : List Pkg → List Pkg → Bool
 | _,[]=>false
 | bef,p :: r=>bef.any (sameNV p) || dupL (bef ++ [p]) r
def mayAll (l : List Pkg) : Int :=
 if 24 < l.length then 12 else if orL (l.map mayPkg) ≠ 0 then orL (l.map mayPkg) else if dupL [] l = true then 4 else if 10 < (namesL l []).length then 12 else 0

end Go.Av
end
section
namespace Go.Proofs.Tryz
open Go Go.Av
set_option maxRecDepth 10000
variable {W0 : World}

def clause1 (a : Atom) : AV:=.lit 100 [atomAV a]
theorem NotM.atom (a : Atom) : NotM (atomAV a):=trivial
theorem NotM.atoms (l : List Atom) : NotM (atomsAV l):=trivial
@[go_sem] theorem okM_atomsAV (g : Option Bool) (l : List Atom) : okM g (atomsAV l) = True:=eq_true trivial
@[go_sem] theorem unm_atomsAV (l : List Atom) : unm (atomsAV l) = atomsAV l:=rfl
@[go_sem] theorem fitsB_atomsAV (P : Program) (t : TypeId) (l : List Atom) : fitsB P t (atomsAV l) = prim P t:=rfl
@[go_sem] theorem okM_clausesAV (g : Option Bool) (l : List Clause) : okM g (clausesAV l) = True:=eq_true trivial
@[go_sem] theorem unm_clausesAV (l : List Clause) : unm (clausesAV l) = clausesAV l:=rfl
@[go_sem] theorem fitsB_clausesAV (P : Program) (t : TypeId) (l : List Clause) : fitsB P t (clausesAV l) = prim P t:=rfl
@[go_sem] theorem okM_provsAV (g : Option Bool) (l : List Prov) : okM g (provsAV l) = True:=eq_true trivial
@[go_sem] theorem unm_provsAV (l : List Prov) : unm (provsAV l) = provsAV l:=rfl
@[go_sem] theorem fitsB_provsAV (P : Program) (t : TypeId) (l : List Prov) : fitsB P t (provsAV l) = prim P t:=rfl
@[go_sem] theorem unm_pkgsAV (l : List Pkg) : unm (pkgsAV l) = pkgsAV l:=rfl
@[go_sem] theorem fitsB_pkgsAV (P : Program) (t : TypeId) (l : List Pkg) : fitsB P t (pkgsAV l) = prim P t:=rfl
theorem clauses_single (l : List Atom) : Sub (.sl 85 (l.map clause1)) (clausesAV (single l)):=by
 rw [clausesAV,single,List.map_map]
 exact .slmap l fun a _=>.lit _ _

theorem ids_map {α : Type} {f : α → AV} {e : TypeId} (h : ∀ a,IdsLt 0 (f a)) (l : List α) : IdsLt 0 (.sl e (l.map f)):=.sl fun x hx=>by
 obtain ⟨a,_,rfl⟩:=List.mem_map.1 hx
 exact h a
theorem ids_atom (a : Atom) : IdsLt 0 (atomAV a):=.agg fun x hx=>by
 simp at hx
 rcases hx with rfl | rfl | rfl
 ·exact .str _
 ·exact .int _ _
 ·exact .str _
theorem ids_atoms (l : List Atom) : IdsLt 0 (atomsAV l):=ids_map ids_atom l
theorem ids_clauses (l : List Clause) : IdsLt 0 (clausesAV l):=ids_map ids_atoms l
theorem ids_prov (a : Prov) : IdsLt 0 (provAV a):=.agg fun x hx=>by
 simp at hx
 rcases hx with rfl | rfl <;> exact .str _
theorem ids_provs (l : List Prov) : IdsLt 0 (provsAV l):=ids_map ids_prov l
theorem ids_pkg (p : Pkg) : IdsLt 0 (pkgAV p):=.agg fun x hx=>by
 simp at hx
 rcases hx with rfl | rfl | rfl | rfl | rfl | rfl | rfl | rfl | rfl
 ·exact .str _
 ·exact .str _
 ·exact ids_clauses _
 ·exact ids_clauses _
 ·exact ids_clauses _
 ·exact ids_atoms _
 ·exact ids_atoms _
 ·exact ids_provs _
 ·exact .bool _
theorem ids_pkgs (l : List Pkg) : IdsLt 0 (pkgsAV l):=ids_map ids_pkg l

theorem re_singles (l : List Atom) (hl : l.length ≤ 1048576) : PureFn prog W0 52 [atomsAV l] (clausesAV (single l)):=by
 refine fn_pure [2] [5] func52 rfl rfl ntmps52 rfl rfl (ids_clauses _) fun hs σ=>?_
 simp only [go_sem,simprocAttr,↓reduceIte,atomsAV]
 refine LoopVC.at [6,7] (.of (by kernel_rfl)) (fun A=>∃ v,A.env 3 = v ∧ Built σ A.st v 85 (l.map clause1)) ?_ fun B ⟨v,h3,hb⟩=>?_
 ·refine LoopVC.upto [6,7] (.of (by kernel_rfl)) l.length (fun i A=>∃ v,A.env 3 = v ∧ A.env 8 = .int .i64 i ∧ Built σ A.st v 85 ((l.take i).map clause1)) 0 (Nat.zero_le _) ?_ fun i B hi ⟨v,h3,h8,hb⟩=>?_
  ·simp only [go_sem,simprocAttr,↓reduceIte]
   exact ⟨_,rfl,Built.nil (.refl _) _⟩
  simp only [go_sem,simprocAttr,↓reduceIte,h3,h8,hb.ok,hb.un,List.length_map]
  refine ⟨fun hc=>⟨hc,?_⟩,fun hc=>?_⟩
  ·obtain ⟨a,ha⟩:=get_some hc
   simp only [atV_map ha]
   simp only [go_sem,simprocAttr,↓reduceIte,atomAV,h3,h8,hb.ok,hb.un]
   refine AppA.own 1048576 (by kernel_rfl) (hb.more _).bld (.lit _ _ _) (by simp; omega) fun v' σ' ha'=>?_
   have hb':=(hb.more _).app ha'
   simp only [go_sem,simprocAttr,↓reduceIte,h3,h8,hb.ok,hb.un,hb'.ok,hb'.un]
   refine ⟨hc,_,rfl,int_succ hc (by rw [maxLen_eq]; omega),?_⟩
   rw [take_succ_get ha,List.map_append]
   exact hb'
  ·rw [List.take_of_length_le hc] at hb
   exact ⟨_,rfl,hb⟩
 simp only [go_sem,simprocAttr,↓reduceIte,h3,hb.ok,hb.un]
 exact ⟨hb.weak.trans (.sub (clauses_single l)),hb.ext⟩
theorem atoms_map (l : List Atom) : Sub (.sl 100 (l.map atomAV)) (atomsAV l):=.refl _
theorem re_provided (l : List Prov) (hl : l.length ≤ 1048576) : PureFn prog W0 53 [provsAV l] (clausesAV (single (l.map provAtom))):=by
 refine fn_pure [2] [5] func53 rfl rfl ntmps53 rfl rfl (ids_clauses _) fun hs σ=>?_
 simp only [go_sem,simprocAttr,↓reduceIte,provsAV]
 refine LoopVC.at [7,8] (.of (by kernel_rfl)) (fun A=>∃ v,A.env 3 = v ∧ Built σ A.st v 85 (l.map fun p=>clause1 (provAtom p))) ?_ fun B ⟨v,h3,hb⟩=>?_
 ·refine LoopVC.upto [7,8] (.of (by kernel_rfl)) l.length (fun i A=>∃ v,A.env 3 = v ∧ A.env 9 = .int .i64 i ∧ Built σ A.st v 85 ((l.take i).map fun p=>clause1 (provAtom p))) 0 (Nat.zero_le _) ?_ fun i B hi ⟨v,h3,h8,hb⟩=>?_
  ·simp only [go_sem,simprocAttr,↓reduceIte]
   exact ⟨_,rfl,Built.nil (.refl _) _⟩
  simp only [go_sem,simprocAttr,↓reduceIte,h3,h8,hb.ok,hb.un,List.length_map]
  refine ⟨fun hc=>⟨hc,?_⟩,fun hc=>?_⟩
  ·obtain ⟨a,ha⟩:=get_some hc
   simp only [atV_map ha]
   simp only [go_sem,simprocAttr,↓reduceIte,provAV,h3,h8,hb.ok,hb.un]
   refine JoinVC.at [3,6,7,8,9] (by kernel_rfl) (fun A=>A.st = B.st ++ [none,some (.cells 100 [atomAV (provAtom a)])]) (fun h=>?_) (fun h=>?_) fun A hst=>?_
   ·simp only [go_sem,simprocAttr,↓reduceIte,atomAV,provAtom]
    simp only [Bool.not_eq_true',beq_eq_false_iff_ne] at h
    rw [if_neg h]
   ·simp only [go_sem,simprocAttr,↓reduceIte,atomAV,provAtom]
    simp only [Bool.not_eq_false',beq_iff_eq] at h
    rw [if_pos h]
   have hb2 : Built σ A.st v 85 ((l.take i).map fun p=>clause1 (provAtom p)):=by rw [hst]; exact hb.more _
   simp only [go_sem,simprocAttr,↓reduceIte,h3,h8,hst,hb.ok,hb.un,atomAV]
   refine AppA.own 1048576 (by kernel_rfl) hb2.bld (.lit _ _ _) (by simp; omega) fun v' σ' ha'=>?_
   have hb':=hb2.app ha'
   simp only [go_sem,simprocAttr,↓reduceIte,h3,h8,hb.ok,hb.un,hb'.ok,hb'.un]
   refine ⟨hc,_,rfl,int_succ hc (by rw [maxLen_eq]; omega),?_⟩
   rw [take_succ_get ha,List.map_append]
   exact hb'
  ·rw [List.take_of_length_le hc] at hb
   exact ⟨_,rfl,hb⟩
 simp only [go_sem,simprocAttr,↓reduceIte,h3,hb.ok,hb.un]
 refine ⟨hb.weak.trans (.sub ?_),hb.ext⟩
 have:=clauses_single (l.map provAtom)
 rw [List.map_map] at this
 exact this
theorem lenN {α : Type} (l : List α) (n : Nat) : (((n : Nat) : Int) < (l.length : Int)) ↔ n < l.length:=by omega
theorem re_long (c : Clause) : PureFn prog W0 109 [atomsAV c] (.bool (decide (6 < c.length))):=by
 refine fn_pure [2] [] func109 rfl rfl ntmps109 rfl rfl (.bool _) fun hs σ=>?_
 simp only [go_sem,simprocAttr,↓reduceIte,atomsAV,List.length_map]
 exact weak_bool (decide_eq_decide.2 (lenN c 6))
theorem re_wrong (a : Atom) : PureFn prog W0 111 [atomAV a] (.bool (!mayAtom a)):=by
 refine fn_pure [2] [1] func111 rfl rfl ntmps111 rfl rfl (.bool _) fun hs σ=>?_
 simp only [go_sem,simprocAttr,↓reduceIte,atomAV]
 refine CallA.fn (rl_mayAtom a) ?_
 simp only [go_sem,simprocAttr,↓reduceIte]
 done

theorem re_mayCl (l : List Clause) : PureFn prog W0 54 [clausesAV l] (.int .i64 (mayCl l)):=by
 refine fn_pure [2] [] func54 rfl rfl ntmps54 rfl rfl (.int _ _) fun hs σ=>?_
 have hl:=(small_map (hs _ (List.mem_cons_self ..))).1
 simp only [go_sem,simprocAttr,↓reduceIte,clausesAV,List.length_map]
 refine CallP.fnG (fun _=>anClause atomsAV NotM.atoms l (fun c=>decide (6 < c.length)) _ [] (fun a _=>re_long a)) ?_
 simp only [go_sem,simprocAttr,↓reduceIte]
 have e : (decide ((12 : Int) < l.length) || l.any fun c=>decide (6 < c.length)) = decide (12 < l.length ∨ (l.any fun c=>decide (6 < c.length)) = true):=by
  rw [Bool.decide_or,Bool.decide_eq_true]; congr 1; exact decide_eq_decide.2 (lenN l 12)
 rw [e]
 refine ⟨fun h=>weak_int (by rw [mayCl,if_pos (of_decide_eq_true h)]),fun h=>?_⟩
 have hm : mayCl l = if l.any (fun c=>decide (c.length = 0) || c.any fun a=>!mayAtom a) = true then 3 else 0:=by rw [mayCl,if_neg (of_decide_eq_false h)]
 refine LoopVC.upto [12,13] (.of (by kernel_rfl)) l.length (fun i A=>A.env 14 = .int .i64 i ∧ A.st = σ ∧ ∀ c ∈ l.take i,(decide (c.length = 0) || c.any fun a=>!mayAtom a) = false) 0 (Nat.zero_le _) ?_ fun i B hi ⟨h8,hst,hI⟩=>?_
 ·simp only [go_sem,simprocAttr,↓reduceIte]
  simp
 simp only [go_sem,simprocAttr,↓reduceIte,h8,hst,List.length_map]
 refine ⟨fun hc=>⟨hc,?_⟩,fun hc=>?_⟩
 ·obtain ⟨a,ha⟩:=get_some hc
  simp only [atV_map ha]
  simp only [go_sem,simprocAttr,↓reduceIte,atomsAV,h8,hst,List.length_map]
  refine CallP.fnG (fun _=>anAtomC atomAV NotM.atom a (fun c=>!mayAtom c) _ [] (fun a _=>re_wrong a)) ?_
  simp only [go_sem,simprocAttr,↓reduceIte,h8,hst]
  have e : ((a.length : Int) == 0) = decide (a.length = 0):=by rw [Bool.eq_iff_iff]; simp
  simp only [e]
  refine ⟨fun hb=>weak_int ?_,fun hb=>⟨hc,int_succ hc hl,?_⟩⟩
  ·rw [hm,if_pos (any_true ha hb)]
  ·rw [take_succ_get ha]
   intro c hcm
   rcases List.mem_append.1 hcm with hcm | hcm
   ·exact hI c hcm
   ·rw [List.mem_singleton.1 hcm]; exact hb
 ·refine weak_int ?_
  rw [List.take_of_length_le hc] at hI
  rw [hm,if_neg]
  intro h
  obtain ⟨c,hc1,hc2⟩:=List.any_eq_true.1 h
  rw [hI c hc1] at hc2
  cases hc2
end Go.Proofs.Tryz
end
section
namespace Go.Proofs.Tryz
open Go Go.Av
set_option maxRecDepth 10000
variable {W0 : World}

theorem getD_map {α : Type} {f : α → AV} {l : List α} {i : Nat} {a : α} {d : AV} (h : l[i]? = some a) : (l.map f)[i]?.getD d = f a:=by
 rw [List.getElem?_map,h]; rfl
structure MayN (p : Pkg) : Prop where
 con : p.con.length ≤ 1048576
 brk : p.brk.length ≤ 1048576
 prov : p.prov.length ≤ 1048576

theorem re_may (p : Pkg) (hp : MayN p) : PureFn prog W0 28 [pkgAV p] (.int .i64 (mayPkg p)):=by
 refine fn_pure [2] [1] func28 rfl rfl ntmps28 rfl rfl (.int _ _) fun hs σ=>?_
 simp only [go_sem,simprocAttr,↓reduceIte,pkgAV]
 refine CallA.fn (ve_parse p.ver) ?_
 have hpv : ∃ e u r,verPAV (verP p.ver) = .tup [.str e,.str u,.str r,.int .i64 (if isVer p.ver then 0 else 3)]:=by
  cases h : verP p.ver with
  | none=>exact ⟨_,_,_,by rw [isVer,h]; rfl⟩
  | some v=>exact ⟨_,_,_,by rw [isVer,h]; rfl⟩
 obtain ⟨e,u,r,hpv⟩:=hpv
 rw [hpv]
 simp only [go_sem,simprocAttr,↓reduceIte,pkgAV]
 refine CallA.fn (tx_name p.name) ?_
 simp only [go_sem,simprocAttr,↓reduceIte,pkgAV]
 have hb : (!nameOk p.name || (if isVer p.ver = true then (0 : Int) else 3) != 0) = (!nameOk p.name || !isVer p.ver):=by cases isVer p.ver <;> rfl
 simp only [hb]
 refine ⟨fun h=>weak_int (by rw [mayPkg,if_pos h]),fun h=>?_⟩
 have hm : mayPkg p = orL [mayCl p.pre,mayCl p.dep,mayCl p.rcm,mayCl (single p.con),mayCl (single p.brk),mayCl (single (p.prov.map provAtom))]:=by rw [mayPkg,if_neg (by rw [h]; simp)]
 refine ⟨.of (by kernel_rfl),CallP.fn (re_singles p.con hp.con) ?_⟩
 simp only [go_sem,simprocAttr,↓reduceIte]
 refine CallP.fn (re_singles p.brk hp.brk) ?_
 simp only [go_sem,simprocAttr,↓reduceIte]
 refine CallP.fn (re_provided p.prov hp.prov) ?_
 simp only [go_sem,simprocAttr,↓reduceIte]
 let ls:=[p.pre,p.dep,p.rcm,single p.con,single p.brk,single (p.prov.map provAtom)]
 have hl : orL (ls.map mayCl) = mayPkg p:=by
  rw [hm]
  simp only [ls,List.map_cons,List.map_nil]
 have e : [clausesAV p.pre,clausesAV p.dep,clausesAV p.rcm,clausesAV (single p.con),clausesAV (single p.brk),clausesAV (single (p.prov.map provAtom))] = ls.map clausesAV:=rfl
 simp only [e]
 refine LoopVC.upto [41,42] (.of (by kernel_rfl)) 6 (fun i A=>A.env 43 = .int .i64 i ∧ A.st = σ ∧ orL ((ls.map mayCl).drop i) = mayPkg p) 0 (Nat.zero_le _) ?_ fun i B hi ⟨h8,hst,hI⟩=>?_
 ·simp only [go_sem,simprocAttr,↓reduceIte]
  exact hl
 simp only [go_sem,simprocAttr,↓reduceIte,h8,hst]
 refine ⟨fun hc=>?_,fun hc=>weak_int ?_⟩
 ·have hc' : i < ls.length:=by show i < 6; omega
  obtain ⟨c,hcc⟩:=get_some hc'
  obtain ⟨hlt,hae⟩:=List.getElem?_eq_some_iff.1 hcc
  rw [List.drop_eq_getElem_cons (by simpa using hc'),List.getElem_map,hae] at hI
  simp only [atV_map hcc]
  refine ⟨by simpa using hc',trivial,CallA.fn (re_mayCl c) ?_⟩
  simp only [go_sem,simprocAttr,↓reduceIte,h8,hst]
  refine ⟨fun hq=>weak_int (by rw [← hI,orL,if_pos hq]),fun hq=>⟨by omega,int_succ (show i < 6 by omega) (by rw [maxLen_eq]; omega),?_⟩⟩
  rw [← hI,orL,if_neg (by simpa using hq)]
 ·rw [List.drop_eq_nil_of_le (by show 6 ≤ i; omega)] at hI
  exact hI

theorem re_same (p q : Pkg) : PureFn prog W0 44 [pkgAV q,.loc 33 (pkgAV p)] (.bool (sameNV p q)):=by
 refine fn_pure [3] [2] func44 rfl rfl ntmps44 rfl rfl (.bool _) fun hs σ=>?_
 simp only [go_sem,simprocAttr,↓reduceIte,pkgAV]
 refine CallP.fnG (fun _=>ve_same q.ver p.ver) ?_
 simp only [go_sem,simprocAttr,↓reduceIte]
 exact weak_bool rfl

theorem NotM.pkg (p : Pkg) : NotM (pkgAV p):=trivial
@[go_sem] theorem okM_pkgAV (g : Option Bool) (p : Pkg) : okM g (pkgAV p) = True:=eq_true trivial
@[go_sem] theorem unm_pkgAV (p : Pkg) : unm (pkgAV p) = pkgAV p:=rfl

theorem re_mayAll (l : List Pkg) (hp : ∀ p ∈ l,MayN p) : PureFn prog W0 16 [pkgsAV l] (.int .i64 (mayAll l)):=by
 refine fn_pure [2] [4,8] func16 rfl rfl ntmps16 rfl rfl (.int _ _) fun hs σ=>?_
 have hl:=(small_map (hs _ (List.mem_cons_self ..))).1
 simp only [go_sem,simprocAttr,↓reduceIte,pkgsAV,List.length_map]
 refine ⟨fun h=>weak_int (by rw [mayAll,if_pos ((lenN l 24).1 (by simpa using h))]),fun h=>?_⟩
 have h24 : ¬ 24 < l.length:=fun e=>by have:=(lenN l 24).2 e; omega
 refine LoopVC.at [0] (.of (by kernel_rfl)) (fun A=>Ext σ A.st ∧ orL (l.map mayPkg) = 0) ?_ fun B ⟨hst,h6⟩=>?_
 ·refine LoopVC.upto [0,12,13] (.of (by kernel_rfl)) l.length (fun i A=>A.env 14 = .int .i64 i ∧ Ext σ A.st ∧ orL ((l.map mayPkg).drop i) = orL (l.map mayPkg)) 0 (Nat.zero_le _) ?_ fun i B hi ⟨h8,hst,hI⟩=>?_
  ·simp only [go_sem,simprocAttr,↓reduceIte]
   simp [Ext.refl]
  simp only [go_sem,simprocAttr,↓reduceIte,h8,List.length_map]
  refine ⟨fun hc=>⟨hc,?_⟩,fun hc=>?_⟩
  ·obtain ⟨a,ha⟩:=get_some hc
   obtain ⟨hlt,hae⟩:=List.getElem?_eq_some_iff.1 ha
   rw [List.drop_eq_getElem_cons (by simpa using hc),List.getElem_map,hae] at hI
   simp only [atV_map ha]
   simp only [go_sem,simprocAttr,↓reduceIte,h8,List.length_map]
   refine ⟨by kernel_rfl,CallA.fn (re_may a (hp a (List.mem_of_getElem? ha))) ?_⟩
   simp only [go_sem,simprocAttr,↓reduceIte,h8]
   refine ⟨fun hq=>⟨weak_int ?_,hst.app _⟩,fun hq=>⟨hc,int_succ hc hl,hst.app _,?_⟩⟩
   ·rw [orL,if_pos hq] at hI
    rw [mayAll,if_neg h24,if_pos (by rw [← hI]; exact hq),hI]
   ·rw [← hI,orL,if_neg (by simpa using hq)]
  ·rw [List.drop_eq_nil_of_le (by simpa using hc)] at hI
   exact ⟨hst,hI.symm⟩
 have hm : mayAll l = if dupL [] l = true then 4 else if 10 < (namesL l []).length then 12 else 0:=by rw [mayAll,if_neg h24,if_neg (by simp [h6])]
 simp only [go_sem,simprocAttr,↓reduceIte,List.length_map]
 refine LoopVC.at [0,24,25] (.of (by kernel_rfl)) (fun A=>∃ v,A.env 6 = v ∧ Built σ A.st v 9 ((namesL l []).map .str) ∧ dupL [] l = false) ?_ fun B ⟨v,h6,hb,hd⟩=>?_
 ·refine LoopVC.upto [0,24,25] (.of (by kernel_rfl)) l.length (fun i A=>∃ v acc,A.env 6 = v ∧ A.env 26 = .int .i64 i ∧ Built σ A.st v 9 (acc.map .str) ∧ namesL (l.drop i) acc = namesL l [] ∧ dupL (l.take i) (l.drop i) = dupL [] l ∧ acc.length ≤ i) 0 (Nat.zero_le _) ?_ fun i B hi ⟨v,acc,h6,h8,hb,hn,hd,hal⟩=>?_
  ·simp only [go_sem,simprocAttr,↓reduceIte]
   exact ⟨_,[],rfl,Built.nil hst _,by simp⟩
  simp only [go_sem,simprocAttr,↓reduceIte,h6,h8,hb.ok,hb.un,List.length_map]
  refine ⟨fun hc=>⟨hc,?_⟩,fun hc=>?_⟩
  ·obtain ⟨a,ha⟩:=get_some hc
   obtain ⟨hlt,hae⟩:=List.getElem?_eq_some_iff.1 ha
   rw [List.drop_eq_getElem_cons hc,hae] at hn hd
   simp only [atV_map ha]
   simp only [go_sem,simprocAttr,↓reduceIte,h6,h8,hb.ok,hb.un,List.length_map]
   rw [← List.map_take]
   refine ⟨by kernel_rfl,⟨Nat.zero_le _,hi⟩,CallA.fn (anPkg pkgAV NotM.pkg (l.take i) (sameNV a) _ [.loc 33 (pkgAV a)] (fun q _=>re_same a q)) ?_⟩
   simp only [go_sem,simprocAttr,↓reduceIte,pkgAV,h6,h8,hb.ok,hb.un]
   rw [dupL] at hd
   refine ⟨fun hq=>⟨weak_int ?_,hb.ext.app _⟩,fun hq=>CallA.fn ((an_str acc a.name).weak (.cons hb.weak (.cons (.refl _) .nil))) ?_⟩
   ·rw [hm,← hd,hq,if_pos (by simp)]
   rw [hq,Bool.false_or,← take_succ_get ha] at hd
   simp only [go_sem,simprocAttr,↓reduceIte,pkgAV,h6,h8,hb.ok,hb.un]
   rw [namesL] at hn
   have hb2:=(hb.more [none])
   refine ⟨fun h=>?_,fun h=>⟨hc,v,acc,rfl,int_succ hc hl,hb2,?_,hd,by omega⟩⟩
   ·refine AppA.own 1048576 (by kernel_rfl) hb2.bld (.lit _ _ _) (by simp; omega) fun v' σ' ha'=>?_
    have hb':=hb2.app ha'
    simp only [go_sem,simprocAttr,↓reduceIte,h6,h8,hb'.ok,hb'.un]
    refine ⟨hc,_,acc ++ [a.name],rfl,int_succ hc hl,by simpa using hb',?_,hd,by simp; omega⟩
    rw [if_neg (by simp [h])] at hn
    exact hn
   ·rw [if_pos h] at hn
    exact hn
  ·rw [List.drop_eq_nil_of_le hc] at hn hd
   exact ⟨_,rfl,by rw [← hn]; exact hb,hd.symm⟩
 simp only [go_sem,simprocAttr,↓reduceIte,h6,hb.ok,hb.un,hb.len,hb.lenC,List.length_map]
 refine ⟨fun hq=>⟨weak_int ?_,hb.ext⟩,fun hq=>⟨weak_int ?_,hb.ext⟩⟩
 ·rw [hm,hd,if_neg (by simp),if_pos ((lenN _ 10).1 hq)]
 ·rw [hm,hd,if_neg (by simp),if_neg (fun e=>hq ((lenN _ 10).2 e))]
end Go.Proofs.Tryz
end
section
namespace Go.Av

def satP (p : Pkg) (a : Atom) : Bool :=
 mayAtom a && ((p.name == a.name && holdsV a.rel p.ver a.ver) || p.prov.any fun v=>v.name == a.name && (a.rel == 0 || holdsV a.rel v.ver a.ver))
def againstP (p q : Pkg) : Bool:=p.con.any (satP q) || p.brk.any (satP q)
def clashP (p q : Pkg) : Bool:=p.name != q.name && (againstP p q || againstP q p)
end Go.Av
end
section
namespace Go.Proofs.Tryz
open Go Go.Av
set_option maxRecDepth 10000
variable {W0 : World}

@[go_sem] theorem okM_atomAV (g : Option Bool) (p : Atom) : okM g (atomAV p) = True:=eq_true trivial
@[go_sem] theorem unm_atomAV (p : Atom) : unm (atomAV p) = atomAV p:=rfl
@[go_sem] theorem fits_atomAV (p : Atom) : fitsB prog 100 (atomAV p) = true:=by kernel_rfl
@[go_sem] theorem fits_pkgAV (p : Pkg) : fitsB prog 33 (pkgAV p) = true:=by kernel_rfl
@[go_sem] theorem okM_provAV (g : Option Bool) (p : Prov) : okM g (provAV p) = True:=eq_true trivial
@[go_sem] theorem unm_provAV (p : Prov) : unm (provAV p) = provAV p:=rfl
theorem NotM.prov (p : Prov) : NotM (provAV p):=trivial

end Go.Proofs.Tryz
end
section
namespace Go.Av
section
variable {P : Program} {W0 : World} {A : AState}

def rowId : AV → Option Nat
 | .row _ id _ _=>some id
 | _=>none

structure Rowed (σ st : Store) (v : AV) (e : TypeId) (xs : List AV) : Prop where
 row : RowSt st v e xs
 ext : Ext σ st
 low : ∀ id,rowId v = some id → σ.length ≤ id

theorem Rowed.nil {σ st : Store} (h : Ext σ st) (e : TypeId) : Rowed σ st .nils e []:=⟨.inl ⟨rfl,rfl⟩,h,fun t h=>by cases h⟩
theorem Rowed.notM {σ st : Store} {v : AV} {e : TypeId} {xs : List AV} (h : Rowed σ st v e xs) : NotM v:=by
 rcases h.row with ⟨rfl,rfl⟩ | rfl | ⟨_,_,_,_,rfl,_⟩ <;> trivial
theorem Rowed.ok {σ st : Store} {v : AV} {e : TypeId} {xs : List AV} (h : Rowed σ st v e xs) (g : Option Bool) : okM g v = True:=okM_notM h.notM
theorem Rowed.un {σ st : Store} {v : AV} {e : TypeId} {xs : List AV} (h : Rowed σ st v e xs) : unm v = v:=unm_notM h.notM
theorem RowSt.len {st : Store} {v : AV} {e : TypeId} {xs : List AV} (h : RowSt st v e xs) : lenV v = .int .i64 xs.length:=by
 rcases h with ⟨rfl,rfl⟩ | rfl | ⟨id,off,m,zs,rfl,_,h1,rfl⟩
 ·rfl
 ·rfl
 ·have : ((zs.drop off).take m).length = m:=by simp; omega
  rw [this]; rfl
theorem RowSt.lenC {st : Store} {v : AV} {e : TypeId} {xs : List AV} (h : RowSt st v e xs) (P : Program) (t : TypeId) : lenC P t v = ((elT P t).isSome = true):=by
 rcases h with ⟨rfl,rfl⟩ | rfl | ⟨id,off,m,zs,rfl,_,h1,rfl⟩ <;> rfl
theorem RowSt.read {st : Store} {v : AV} {e : TypeId} {xs : List AV} (h : RowSt st v e xs) : ReadL st v e xs:=by
 rcases h with h | rfl | h
 ·exact .inr (.inl h)
 ·exact .inl rfl
 ·exact .inr (.inr h)

theorem Rowed.more {σ st : Store} {v : AV} {e : TypeId} {xs : List AV} (h : Rowed σ st v e xs) (l : Store) : Rowed σ (st ++ l) v e xs:=by
 refine ⟨?_,h.ext.app l,h.low⟩
 rcases h.row with h1 | h1 | ⟨id,off,m,zs,h1,h2,h3⟩
 ·exact .inl h1
 ·exact .inr (.inl h1)
 ·exact .inr (.inr ⟨id,off,m,zs,h1,by rw [List.getElem?_append_left ((List.getElem?_eq_some_iff.1 h2).1)]; exact h2,h3⟩)

end
end Go.Av
end
section
namespace Go.Av

section
variable {P : Program}
end

structure Fr (F : List Nat) (σ σ' : Store) : Prop where
 len : σ.length ≤ σ'.length
 old : ∀ j,j < σ.length → j ∉ F → σ'[j]? = σ[j]?
def foot : AV → List Nat
 | .own _ _ t=>[t]
 | .row _ id _ _=>[id]
 | _=>[]
theorem Fr.refl (F : List Nat) (σ : Store) : Fr F σ σ:=⟨Nat.le_refl _,fun _ _ _=>rfl⟩
theorem Fr.ext {F : List Nat} {σ σ' : Store} (h : Ext σ σ') : Fr F σ σ':=⟨h.le,fun j hj _=>by
 have e:=congrArg (·[j]?) h
 simpa [List.getElem?_take,hj] using e⟩
theorem Fr.trans {F G : List Nat} {σ σ' σ'' : Store} (h : Fr F σ σ') (h' : Fr G σ' σ'') (hG : ∀ j ∈ G,j ∈ F ∨ σ.length ≤ j) : Fr F σ σ'':=⟨Nat.le_trans h.len h'.len,fun j hj hF=>by
 rw [h'.old j (Nat.lt_of_lt_of_le hj h.len) (fun e=>by rcases hG j e with h1 | h1; exact hF h1; omega),h.old j hj hF]⟩
theorem Fr.set {F : List Nat} {σ σ' : Store} (h : Fr F σ σ') {id : Nat} (hid : id ∈ F ∨ σ.length ≤ id) (o : Option SObj) : Fr F σ (σ'.set id o):=⟨by simpa using h.len,fun j hj hF=>by
 rw [List.getElem?_set_ne (fun e=>by subst e; rcases hid with h1 | h1; exact hF h1; omega),h.old j hj hF]⟩
theorem Fr.app {F : List Nat} {σ σ' : Store} (h : Fr F σ σ') (l : Store) : Fr F σ (σ' ++ l):=⟨by have:=h.len; simp; omega,fun j hj hF=>by
 rw [List.getElem?_append_left (by have:=h.len; omega),h.old j hj hF]⟩
theorem Fr.mono {F G : List Nat} {σ σ' : Store} (h : Fr F σ σ') (hG : ∀ j ∈ F,j ∈ G) : Fr G σ σ':=⟨h.len,fun j hj hF=>h.old j hj fun e=>hF (hG j e)⟩
theorem Fr.toExt {F : List Nat} {σ σ' : Store} (h : Fr F σ σ') {τ : Store} (ht : Ext τ σ) (hF : ∀ j ∈ F,τ.length ≤ j) : Ext τ σ':=by
 refine List.ext_getElem? fun i=>?_
 have:=ht.le
 have:=h.len
 rw [List.getElem?_take]
 by_cases hi : i < τ.length
 ·rw [if_pos hi,h.old i (by omega) (fun e=>by have:=hF i e; omega)]
  have e:=congrArg (·[i]?) ht
  simpa [List.getElem?_take,hi] using e
 ·rw [if_neg hi,List.getElem?_eq_none (by omega)]
theorem live_id {σ : Store} {id : Nat} {te : TypeId} {xs : List AV} (h : σ[id]? = some (some (.cells te xs))) : live σ id = True:=eq_true ⟨te,xs,h⟩
theorem Bld.notM {st : Store} {v : AV} {e : TypeId} {xs : List AV} (h : Bld st v e xs) : NotM v:=by
 rcases h with ⟨rfl,rfl⟩ | rfl | ⟨t,rfl,_⟩ <;> trivial
theorem Bld.ok {st : Store} {v : AV} {e : TypeId} {xs : List AV} (h : Bld st v e xs) (g : Option Bool) : okM g v = True:=okM_notM h.notM
theorem Bld.un {st : Store} {v : AV} {e : TypeId} {xs : List AV} (h : Bld st v e xs) : unm v = v:=unm_notM h.notM
theorem Bld.len {st : Store} {v : AV} {e : TypeId} {xs : List AV} (h : Bld st v e xs) : lenV v = .int .i64 xs.length:=by
 rcases h with ⟨rfl,rfl⟩ | rfl | ⟨t,rfl,_⟩ <;> rfl
theorem Bld.lenC {st : Store} {v : AV} {e : TypeId} {xs : List AV} (h : Bld st v e xs) (P : Program) (t : TypeId) : lenC P t v = ((elT P t).isSome = true):=by
 rcases h with ⟨rfl,rfl⟩ | rfl | ⟨t,rfl,_⟩ <;> rfl
theorem Bld.fits {st : Store} {v : AV} {e : TypeId} {xs : List AV} (h : Bld st v e xs) (P : Program) (t : TypeId) : fitsB P t v = prim P t:=by
 rcases h with ⟨rfl,rfl⟩ | rfl | ⟨t,rfl,_⟩ <;> rfl
theorem RowSt.fits {st : Store} {v : AV} {e : TypeId} {xs : List AV} (h : RowSt st v e xs) (P : Program) (t : TypeId) : fitsB P t v = prim P t:=by
 rcases h with ⟨rfl,rfl⟩ | rfl | ⟨_,_,_,_,rfl,_⟩ <;> rfl
theorem RowSt.notM {st : Store} {v : AV} {e : TypeId} {xs : List AV} (h : RowSt st v e xs) : NotM v:=by
 rcases h with ⟨rfl,rfl⟩ | rfl | ⟨_,_,_,_,rfl,_⟩ <;> trivial
theorem RowSt.ok {st : Store} {v : AV} {e : TypeId} {xs : List AV} (h : RowSt st v e xs) (g : Option Bool) : okM g v = True:=okM_notM h.notM
theorem RowSt.un {st : Store} {v : AV} {e : TypeId} {xs : List AV} (h : RowSt st v e xs) : unm v = v:=unm_notM h.notM
theorem AppA.ownS {P : Program} {A : AState} {σ : Store} {t u e : TypeId} {x y : AV} {xs ys : List AV} {dst : Option Nat} {k : AState → Prop} (hσ : A.st = σ) (N : Nat) (ho : appB P t u e N = true) (hb : Bld σ x e xs) (hy : ReadL σ y e ys) (hN : xs.length + ys.length ≤ N)
  (hk : ∀ v σ',App σ x e (xs ++ ys) v σ' → k ((A.put dst v).withSt σ')) : AppA P [t,u] [x,y] dst A k .mk:=by
 subst hσ
 exact .own N ho hb hy hN hk
def RowV (σ : Store) (x : AV) (e : TypeId) (xs : List AV) : Prop:=(x = .nils ∧ xs = []) ∨ ∃ id off m zs,x = .row e id off m ∧ σ[id]? = some (some (.cells e zs)) ∧ off + m ≤ zs.length ∧ xs = (zs.drop off).take m
theorem RowV.st {σ : Store} {v : AV} {e : TypeId} {xs : List AV} (h : RowV σ v e xs) : RowSt σ v e xs:=by
 rcases h with h | h
 ·exact .inl h
 ·exact .inr (.inr h)
def cutR (a b : Nat) : AV → AV
 | .row e id off _=>.row e id (off + a) (b - a)
 | v=>v
@[go_sem] theorem cutR_row (a b : Nat) (e : TypeId) (id off m : Nat) : cutR a b (.row e id off m) = .row e id (off + a) (b - a):=rfl
@[go_sem] theorem cutR_nils (a b : Nat) : cutR a b .nils = .nils:=rfl
theorem RowV.len' {σ : Store} {e : TypeId} {xs : List AV} {id off m : Nat} {zs : List AV} (h : off + m ≤ zs.length) (hx : xs = (zs.drop off).take m) : xs.length = m:=by
 rw [hx]; simp; omega
theorem RowV.cutC {P : Program} {gd : Option Bool} {σ : Store} {v : AV} {e : TypeId} {xs : List AV} (h : RowV σ v e xs) {t : TypeId} (ht : elT P t = some e) (A : AState) (lo hi : Option Operand) : sliceC P gd A t lo hi v = (0 < szOf P e ∧ Go.Av.cutC gd A lo hi xs.length):=by
 rcases h with ⟨rfl,rfl⟩ | ⟨id,off,m,zs,rfl,h1,h2,h3⟩
 ·rw [sliceC_nils,ht]
  simp only [Option.isSome_some,true_and,Option.getD_some,Go.Av.cutC,List.length_nil,Nat.le_zero]
  have : imp gd (bndV A 0 lo = 0 ∧ bndV A 0 hi = 0) = imp gd (bndV A 0 lo ≤ bndV A 0 hi ∧ bndV A 0 hi = 0):=by
   congr 1
   refine propext ⟨fun ⟨h1,h2⟩=>⟨by omega,h2⟩,fun ⟨h1,h2⟩=>⟨by omega,h2⟩⟩
  rw [this]
 ·rw [sliceC_row,ht,RowV.len' (σ:=σ) (e:=e) (id:=id) h2 h3]
  simp
theorem RowV.cut {σ : Store} {v : AV} {e : TypeId} {xs : List AV} (h : RowV σ v e xs) {a b : Nat} (hab : a ≤ b) (hb : b ≤ xs.length) : RowV σ (cutR a b v) e ((xs.drop a).take (b - a)):=by
 rcases h with ⟨rfl,rfl⟩ | ⟨id,off,m,zs,rfl,h1,h2,h3⟩
 ·exact .inl ⟨rfl,by simp⟩
 ·have hl:=RowV.len' (σ:=σ) (e:=e) (id:=id) h2 h3
  refine .inr ⟨id,off + a,b - a,zs,rfl,h1,by omega,?_⟩
  rw [h3,List.drop_take,List.drop_drop,List.take_take,Nat.min_eq_left (by omega)]
theorem RowV.keep {st st' : Store} {v : AV} {e : TypeId} {xs : List AV} (h : RowV st v e xs) (hk : ∀ j ∈ foot v,st'[j]? = st[j]?) : RowV st' v e xs:=by
 rcases h with h | ⟨id,off,m,zs,rfl,h,h2⟩
 ·exact .inl h
 ·exact .inr ⟨id,off,m,zs,rfl,by rw [hk id (by simp [foot]),h],h2⟩
theorem RowV.lt {st : Store} {v : AV} {e : TypeId} {xs : List AV} (h : RowV st v e xs) : ∀ j ∈ foot v,j < st.length:=by
 rcases h with ⟨rfl,_⟩ | ⟨id,off,m,zs,rfl,h,_⟩
 ·simp [foot]
 ·intro j hj; simp [foot] at hj; subst hj; exact (List.getElem?_eq_some_iff.1 h).1
theorem RowV.ne {st : Store} {v : AV} {e te : TypeId} {xs ys : List AV} (h : RowV st v e xs) {id : Nat} (hid : st[id]? = some (some (.cells te ys))) (ht : te ≠ e) : id ∉ foot v:=fun hj=>by
 rcases h with ⟨rfl,_⟩ | ⟨id',off,m,zs,rfl,h,_⟩
 ·simp [foot] at hj
 ·simp [foot] at hj; subst hj; rw [hid] at h; cases h; exact ht rfl
structure AppR (σ : Store) (x : AV) (e : TypeId) (zs : List AV) (v : AV) (σ' : Store) : Prop where
 row : RowV σ' v e zs
 fr : Fr (foot x) σ σ'
 foot : ∀ j ∈ foot v,j ∈ foot x ∨ σ.length ≤ j
theorem Bld.weak {st : Store} {v : AV} {e : TypeId} {xs : List AV} (h : Bld st v e xs) : Weak v (.sl e xs):=by
 rcases h with ⟨rfl,rfl⟩ | rfl | ⟨t,rfl,_⟩
 ·exact .nils _
 ·exact .lit _ _
 ·exact .own _ _ _

theorem App.fr {σ σ' : Store} {x v : AV} {e : TypeId} {zs : List AV} (h : App σ x e zs v σ') : Fr (foot x) σ σ':=⟨h.len,fun j hj hF=>h.old j hj fun e=>hF (by cases x <;> simp [tokOf] at e; subst e; simp [foot])⟩
theorem foot_tok {st : Store} {v : AV} {e : TypeId} {xs : List AV} (h : Bld st v e xs) {j : Nat} : j ∈ foot v ↔ tokOf v = some j:=by
 rcases h with ⟨rfl,rfl⟩ | rfl | ⟨t,rfl,_⟩
 ·simp [foot,tokOf]
 ·simp [foot,tokOf]
 ·simp [foot,tokOf]; exact eq_comm
theorem App.foot {σ σ' : Store} {x v : AV} {e : TypeId} {zs xs : List AV} (h : App σ x e zs v σ') (hx : Bld σ x e xs) : ∀ j ∈ foot v,j ∈ foot x ∨ σ.length ≤ j:=fun j hj=>by
 rw [foot_tok h.bld] at hj
 rw [foot_tok hx]
 rcases h.tok with e1 | ⟨t,e1,e2⟩
 ·left; rw [← e1]; exact hj
 ·right; rw [e1] at hj; cases hj; exact e2
theorem Bld.keep {st st' : Store} {v : AV} {e : TypeId} {xs : List AV} (h : Bld st v e xs) (hk : ∀ j ∈ foot v,st'[j]? = st[j]?) : Bld st' v e xs:=by
 rcases h with h | h | ⟨t,rfl,h⟩
 ·exact .inl h
 ·exact .inr (.inl h)
 ·exact .inr (.inr ⟨t,rfl,by rw [hk t (by simp [foot]),h]⟩)
theorem Bld.lt {st : Store} {v : AV} {e : TypeId} {xs : List AV} (h : Bld st v e xs) : ∀ j ∈ foot v,j < st.length:=by
 rcases h with ⟨rfl,_⟩ | rfl | ⟨t,rfl,h⟩
 ·simp [foot]
 ·simp [foot]
 ·intro j hj; simp [foot] at hj; subst hj; exact (List.getElem?_eq_some_iff.1 h).1
theorem Bld.ne {st : Store} {v : AV} {e : TypeId} {xs : List AV} (h : Bld st v e xs) {id : Nat} {o : SObj} (hid : st[id]? = some (some o)) (ho : o ≠ .tok) : id ∉ foot v:=fun hj=>by
 rcases h with ⟨rfl,_⟩ | rfl | ⟨t,rfl,h⟩
 ·simp [foot] at hj
 ·simp [foot] at hj
 ·simp [foot] at hj; subst hj; rw [hid] at h; cases h; exact ho rfl
theorem RowSt.keep {st st' : Store} {v : AV} {e : TypeId} {xs : List AV} (h : RowSt st v e xs) (hk : ∀ j ∈ foot v,st'[j]? = st[j]?) : RowSt st' v e xs:=by
 rcases h with h | h | ⟨id,off,m,zs,rfl,h,h2⟩
 ·exact .inl h
 ·exact .inr (.inl h)
 ·exact .inr (.inr ⟨id,off,m,zs,rfl,by rw [hk id (by simp [foot]),h],h2⟩)
theorem RowSt.lt {st : Store} {v : AV} {e : TypeId} {xs : List AV} (h : RowSt st v e xs) : ∀ j ∈ foot v,j < st.length:=by
 rcases h with ⟨rfl,_⟩ | rfl | ⟨id,off,m,zs,rfl,h,_⟩
 ·simp [foot]
 ·simp [foot]
 ·intro j hj; simp [foot] at hj; subst hj; exact (List.getElem?_eq_some_iff.1 h).1

def litT (M : Nat → Bool) (l : Int) : Bool:=if 0 < l then M l.natAbs else !M l.natAbs
theorem litT_neg {M : Nat → Bool} {l : Int} (h : l ≠ 0) : litT M (-l) = !litT M l:=by
 unfold litT
 rw [Int.natAbs_neg]
 by_cases h1 : 0 < l
 ·rw [if_pos h1,if_neg (by omega)]
 ·rw [if_neg h1,if_pos (by omega),Bool.not_not]

end Go.Av
end
section
namespace Go.Av

def valT (ord : List Int) (l : Int) : Int:=if l ∈ ord then 1 else if -l ∈ ord then -1 else 0
structure GoodOrd (n : Nat) (ord : List Int) : Prop where
 nd : (ord.map Int.natAbs).Nodup
 wf : ∀ l ∈ ord,l ≠ 0 ∧ l.natAbs ≤ n

theorem GoodOrd.cons {n : Nat} {ord : List Int} (h : GoodOrd n ord) {l : Int} (hl : l ∈ ord) : -l ∉ ord:=fun hn=>by
 have h0:=(h.wf l hl).1
 obtain ⟨i,hi,he⟩:=List.getElem_of_mem hl
 obtain ⟨j,hj,he'⟩:=List.getElem_of_mem hn
 have : i = j:=(List.getElem_inj (i:=i) (j:=j) (h₀:=by simpa using hi) (h₁:=by simpa using hj) h.nd).1 (by simp [he,he'])
 subst this
 rw [he] at he'
 omega
theorem valT_cases (ord : List Int) (l : Int) : (valT ord l = 1 ∧ l ∈ ord) ∨ (valT ord l = -1 ∧ l ∉ ord ∧ -l ∈ ord) ∨ (valT ord l = 0 ∧ l ∉ ord ∧ -l ∉ ord):=by
 unfold valT
 by_cases h1 : l ∈ ord
 ·left; simp [h1]
 ·by_cases h2 : -l ∈ ord
  ·right; left; simp [h1,h2]
  ·right; right; simp [h1,h2]
theorem GoodOrd.nil (n : Nat) : GoodOrd n []:=⟨by simp,by simp⟩
theorem GoodOrd.app {n : Nat} {ord : List Int} (h : GoodOrd n ord) {l : Int} (h0 : l ≠ 0) (hn : l.natAbs ≤ n) (hv : valT ord l = 0) : GoodOrd n (ord ++ [l]):=by
 refine ⟨?_,fun m hm=>?_⟩
 ·rw [List.map_append,List.nodup_append]
  refine ⟨h.nd,by simp,fun a ha b hb=>?_⟩
  obtain ⟨m,hm,rfl⟩:=List.mem_map.1 ha
  simp at hb
  subst hb
  intro e
  rcases valT_cases ord l with ⟨h1,h2⟩ | ⟨h1,h2⟩ | ⟨h1,h2,h3⟩
  ·omega
  ·omega
  ·rcases Int.natAbs_eq_natAbs_iff.1 e with e | e
   ·exact h2 (e ▸ hm)
   ·exact h3 (e ▸ hm)
 ·rcases List.mem_append.1 hm with h1 | h1
  ·exact h.wf m h1
  ·rw [List.mem_singleton.1 h1]; exact ⟨h0,hn⟩
theorem GoodOrd.take {n : Nat} {ord : List Int} (h : GoodOrd n ord) (k : Nat) : GoodOrd n (ord.take k):=⟨by rw [List.map_take]; exact List.Nodup.sublist (List.take_sublist _ _) h.nd,fun l hl=>h.wf l (List.mem_of_mem_take hl)⟩
theorem GoodOrd.sub {n : Nat} {o p : List Int} (h : GoodOrd n p) (hs : o.Sublist p) : GoodOrd n o:=⟨List.Nodup.sublist (hs.map _) h.nd,fun l hl=>h.wf l (hs.subset hl)⟩
theorem nodup_le : ∀ (n : Nat) (l : List Nat),l.Nodup → (∀ x ∈ l,x < n) → l.length ≤ n
 | 0,l,_,h=>by
  cases l with
  | nil=>simp
  | cons x l=>exact absurd (h x (by simp)) (by omega)
 | n + 1,l,hd,h=>by
  have:=nodup_le n (l.erase n) (hd.erase n) fun x hx=>by
   have h1:=(List.Nodup.mem_erase_iff hd).1 hx
   have:=h x h1.2
   have:=h1.1
   omega
  rw [List.length_erase] at this
  split at this <;> omega
theorem GoodOrd.len {n : Nat} {ord : List Int} (h : GoodOrd n ord) : ord.length ≤ n:=by
 have:=nodup_le (n + 1) (0 :: ord.map Int.natAbs) (List.nodup_cons.2 ⟨fun h0=>by
  obtain ⟨l,hl,e⟩:=List.mem_map.1 h0
  exact (h.wf l hl).1 (Int.natAbs_eq_zero.1 e),h.nd⟩) fun x hx=>by
   rcases List.mem_cons.1 hx with rfl | hx
   ·omega
   ·obtain ⟨l,hl,rfl⟩:=List.mem_map.1 hx
    have:=(h.wf l hl).2
    omega
 simp at this
 exact this

def Agr (M : Nat → Bool) (ord : List Int) : Prop:=∀ l ∈ ord,litT M l = true
theorem Agr.neg {M : Nat → Bool} {n : Nat} {ord : List Int} (h : Agr M ord) (hg : GoodOrd n ord) {l : Int} (hv : valT ord l = -1) : litT M l = false:=by
 rcases valT_cases ord l with ⟨h1,_⟩ | ⟨_,_,h2⟩ | ⟨h1,_⟩
 ·omega
 ·have h0:=(hg.wf _ h2).1
  have:=h _ h2
  rw [litT_neg (by omega)] at this
  simpa using this
 ·omega
def lostC (ord c : List Int) : Bool:=!c.any fun l=>decide (0 ≤ valT ord l)
end Go.Av
end
section
namespace Go.Proofs.Tryz
open Go Go.Av
set_option maxRecDepth 10000
variable {W0 : World}
variable {σ : Store} {tid vid n : Nat} {cv ov lv : AV} {cls : List (List Int)} {ord : List Int} {lev : List Nat}

theorem RowV.at {st : Store} {v : AV} {e : TypeId} {xs : List AV} {i : Nat} {x : AV} (h : RowV st v e xs) (hx : xs[i]? = some x) : ∃ id off m zs,v = .row e id off m ∧ st[id]? = some (some (.cells e zs)) ∧ m = xs.length ∧ zs[off + i]? = some x:=by
 rcases h with ⟨_,rfl⟩ | ⟨id,off,m,zs,rfl,h1,h2,h3⟩
 ·simp at hx
 ·refine ⟨id,off,m,zs,rfl,h1,(RowV.len' (σ:=st) (e:=e) (id:=id) h2 h3).symm,?_⟩
  rw [h3,List.getElem?_take,List.getElem?_drop] at hx
  split at hx
  ·exact hx
  ·cases hx

end Go.Proofs.Tryz
end
section
namespace Go.Proofs.Tryz
open Go Go.Av
set_option maxRecDepth 10000
variable {W0 : World}
variable {σ : Store} {tid vid n : Nat} {cv ov lv : AV} {cls : List (List Int)} {ord : List Int} {lev : List Nat}

structure Own (τ : Store) (tid : Nat) (cv : AV) (vid : Nat) (ov lv : AV) : Prop where
 tid : τ.length ≤ tid
 vid : τ.length ≤ vid
 cv : ∀ j ∈ foot cv,τ.length ≤ j
 ov : ∀ j ∈ foot ov,τ.length ≤ j
 lv : ∀ j ∈ foot lv,τ.length ≤ j

end Go.Proofs.Tryz
end
section
namespace Go.Av

def Alts (ord : List Int) (stk : List (Nat × Int)) (M : Nat → Bool) : Prop:=∃ p ∈ stk,0 < p.2 ∧ Agr M (ord.take p.1) ∧ litT M p.2 = true

def StkOk (n : Nat) (cls : List (List Int)) (ord : List Int) : Nat → List (Nat × Int) → Prop
 | lo,[]=>lo ≤ ord.length
 | lo,p :: r=>lo ≤ p.1 ∧ p.1 < ord.length ∧ p.2 ≠ 0 ∧ p.2.natAbs ≤ n ∧ valT (ord.take p.1) p.2 = 0 ∧ cls.any (lostC (ord.take p.1)) = false ∧ StkOk n cls ord (p.1 + 1) r

theorem StkOk.app {n : Nat} {cls : List (List Int)} {ord : List Int} {k : Nat} {d : Int} {o2 : List Int} : ∀ {lo : Nat} {stk : List (Nat × Int)},StkOk n cls ord lo stk → (∀ i,i ≤ ord.length → o2.take i = ord.take i) → k = ord.length → k < o2.length → d ≠ 0 → d.natAbs ≤ n → valT ord d = 0 → cls.any (lostC ord) = false → StkOk n cls o2 lo (stk ++ [(k,d)])
 | lo,[],h,ho,hk,hk2,h0,hn,hv,hc=>by
  have e : o2.take k = ord:=by rw [ho k (by omega),hk,List.take_length]
  refine ⟨by rw [hk]; exact h,hk2,h0,hn,by show valT (o2.take k) d = 0; rw [e]; exact hv,by show cls.any (lostC (o2.take k)) = false; rw [e]; exact hc,?_⟩
  show k + 1 ≤ o2.length
  omega
 | lo,p :: r,⟨h1,h2,h3,h4,h5,h6,h7⟩,ho,hk,hk2,h0,hn,hv,hc=>⟨h1,by omega,h3,h4,by rw [ho _ (by omega)]; exact h5,by rw [ho _ (by omega)]; exact h6,h7.app ho hk hk2 h0 hn hv hc⟩

theorem StkOk.le {n : Nat} {cls : List (List Int)} {ord : List Int} : ∀ {lo : Nat} {stk : List (Nat × Int)},StkOk n cls ord lo stk → lo + stk.length ≤ ord.length
 | lo,[],h=>by simp only [StkOk] at h; simpa using h
 | lo,p :: r,⟨h1,_,_,_,_,_,h7⟩=>by have:=h7.le; simp; omega

theorem Alts.take {ord : List Int} {stk : List (Nat × Int)} {M : Nat → Bool} {k : Nat} (hk : ∀ p ∈ stk,p.1 ≤ k) (h : Alts ord stk M) : Alts (ord.take k) stk M:=by
 obtain ⟨p,h1,h2,h3,h4⟩:=h
 exact ⟨p,h1,h2,by rw [List.take_take,Nat.min_eq_left (hk p h1)]; exact h3,h4⟩
theorem Alts.more {ord o2 : List Int} {stk : List (Nat × Int)} {M : Nat → Bool} (ho : ∀ p ∈ stk,o2.take p.1 = ord.take p.1) (h : Alts ord stk M) (q : List (Nat × Int)) : Alts o2 (stk ++ q) M:=by
 obtain ⟨p,h1,h2,h3,h4⟩:=h
 exact ⟨p,by simp [h1],h2,by rw [ho p h1]; exact h3,h4⟩

end Go.Av
end
section
namespace Go.Proofs.Tryz
open Go Go.Av
set_option maxRecDepth 10000
variable {W0 : World}
variable {τ σ : Store} {xid tid vid n : Nat} {cv ov lv dv : AV} {z : Int} {cls : List (List Int)} {ord dec asm : List Int} {lev lev0 : List Nat} {stk : List (Nat × Int)} {base : Nat}

structure SetOk (n : Nat) (cls : List (List Int)) : Prop where
 small : n ≤ 200
 len : cls.length ≤ 5000
 wf : ∀ c ∈ cls,c ≠ [] ∧ c.length ≤ 1048576 ∧ ∀ l ∈ c,l ≠ 0 ∧ l.natAbs ≤ n

end Go.Proofs.Tryz
end
section
namespace Go.Av

theorem orL_zero : ∀ {l : List Int},orL l = 0 → ∀ x ∈ l,x = 0
 | [],_,x,hx=>by simp at hx
 | y :: r,h,x,hx=>by
  rw [orL] at h
  split at h
  ·rename_i hy; exact absurd h hy
  ·rename_i hy
   rcases List.mem_cons.1 hx with rfl | hx
   ·exact Classical.not_not.1 hy
   ·exact orL_zero h x hx
end Go.Av
end
section
namespace Go.Av

structure OutR (σ st : Store) (v : AV) (e : TypeId) (xs : List AV) : Prop where
 row : (v = .nils ∧ xs = []) ∨ ∃ id,v = .row e id 0 xs.length ∧ st[id]? = some (some (.cells e xs)) ∧ σ.length ≤ id
 ext : Ext σ st

theorem OutR.nil {σ st : Store} (h : Ext σ st) (e : TypeId) : OutR σ st .nils e []:=⟨.inl ⟨rfl,rfl⟩,h⟩
theorem OutR.st {σ st : Store} {v : AV} {e : TypeId} {xs : List AV} (h : OutR σ st v e xs) : RowSt st v e xs:=by
 rcases h.row with h | ⟨id,rfl,h1,_⟩
 ·exact .inl h
 ·exact .inr (.inr ⟨id,0,_,xs,rfl,h1,by simp,by simp⟩)
theorem OutR.more {σ st : Store} {v : AV} {e : TypeId} {xs : List AV} (h : OutR σ st v e xs) (l : Store) : OutR σ (st ++ l) v e xs:=by
 refine ⟨?_,h.ext.app l⟩
 rcases h.row with h1 | ⟨id,h1,h2,h3⟩
 ·exact .inl h1
 ·exact .inr ⟨id,h1,by rw [List.getElem?_append_left ((List.getElem?_eq_some_iff.1 h2).1)]; exact h2,h3⟩
theorem AppA.out {P : Program} {A : AState} {σ : Store} {t u e : TypeId} {x y : AV} {xs ys : List AV} {dst : Option Nat} {k : AState → Prop} (N : Nat) (ho : appB P t u e N = true) (h : OutR σ A.st x e xs) (hy : ReadL A.st y e ys) (hN : xs.length + ys.length ≤ N)
  (hk : ∀ v st',OutR σ st' v e (xs ++ ys) → k ((A.put dst v).withSt st')) : AppA P [t,u] [x,y] dst A k .mk:=by
 have hkl : (killOf x A.st).length = A.st.length:=by unfold killOf; split <;> simp
 refine AppA.row N ho h.st hy hN (fun he=>hk _ _ (by rw [he,List.append_nil]; exact h)) fun he=>hk _ _ ⟨.inr ⟨A.st.length,by simp,?_,h.ext.le⟩,?_⟩
 ·rw [← hkl,List.getElem?_append_right (Nat.le_refl _),Nat.sub_self]
  rfl
 ·refine Ext.app ?_ _
  rcases h.row with ⟨rfl,_⟩ | ⟨id,rfl,_,h3⟩
  ·exact h.ext
  ·exact h.ext.set h3 _
theorem OutR.fld {σ1 st σ' : Store} {oid : Nat} {T e : TypeId} {ls ls' xs ws zs : List AV} {v x x' w : AV} (hl : ls'.length = ls.length) (hv : v = .row T oid 0 ls.length) (ho : OutR σ1 st v T ls) (ho1 : st[oid]? = some (some (.cells T ls))) (holo : σ1.length ≤ oid) (bx : Bld st x e xs) (bw : Bld st w e ws)
  (dj : ∀ t ∈ foot x,t ∉ foot w) (lo : ∀ t ∈ foot x ++ foot w,σ1.length ≤ t) (ha : App st x e zs x' σ') :
  σ'[oid]? = some (some (.cells T ls)) ∧ OutR σ1 (σ'.set oid (some (.cells T ls'))) v T ls' ∧ Bld (σ'.set oid (some (.cells T ls'))) x' e zs ∧ Bld (σ'.set oid (some (.cells T ls'))) w e ws ∧ (∀ t ∈ foot x',t ∉ foot w) ∧ ∀ t ∈ foot x' ++ foot w,σ1.length ≤ t:=by
 have hf:=ha.fr
 have h1 : σ'[oid]? = some (some (.cells T ls)):=by rw [hf.old oid (List.getElem?_eq_some_iff.1 ho1).1 (bx.ne ho1 (by simp)),ho1]
 have hlen:=(List.getElem?_eq_some_iff.1 h1).1
 have hx:=ho.ext.le
 refine ⟨h1,⟨.inr ⟨oid,by rw [hl]; exact hv,by simp [hlen],holo⟩,(hf.toExt ho.ext fun j hj=>lo j (by simp [hj])).set holo _⟩,ha.bld.keep fun j hj=>List.getElem?_set_ne fun e1=>?_,bw.keep fun j hj=>?_,fun t ht hw=>?_,fun t ht=>?_⟩
 ·exact ha.bld.ne h1 (by simp) (by rw [e1]; exact hj)
 ·rw [List.getElem?_set_ne (fun e1 : oid = j=>bw.ne ho1 (by simp) (by rw [e1]; exact hj)),hf.old j (bw.lt j hj) (fun e1=>dj j e1 hj)]
 ·rcases ha.foot bx t ht with h2 | h2
  ·exact dj t h2 hw
  ·have:=bw.lt t hw; omega
 ·rcases List.mem_append.1 ht with h2 | h2
  ·rcases ha.foot bx t h2 with h3 | h3
   ·exact lo t (by simp [h3])
   ·omega
  ·exact lo t (by simp [h2])
end Go.Av
end
section
namespace Go.Proofs.Tryz
open Go Go.Av
set_option maxRecDepth 10000
variable {W0 : World}

structure Rep where
 name : List UInt8
 ver : List UInt8
 can : Bool
 needs : List Nat
 never : List Nat

end Go.Proofs.Tryz
end
section
namespace Go.Av
open Go
def eqK (P : Program) (ty : TypeId) : Nat:=match P.underlying ty with | some (.int _)=>1 | some .string=>2 | some .bool=>3 | _=>0
def eqShape (P : Program) (t : TypeId) : Option (List Nat):=match P.underlying t with
 | some (.struct fl) => if fl.toList.all (fun f => f.name != "_") && (!P.stoodInHeld t && !P.eqGuardType P.depth t) then (flds P t).map fun ts => ts.map (eqK P) else none
 | _=>none
def eqK1 : Nat → AV → AV → Option Bool
 | 1,.int k a,.int k' b=>if k = k' then some (a == b) else none
 | 2,.str a,.str b=>some (a == b)
 | 3,.bool a,.bool b=>some (a == b)
 | _,_,_=>none
def eqKs : List Nat → List AV → List AV → Option Bool
 | [],[],[]=>some true
 | ty :: ts,x :: xs,y :: ys=>(eqK1 ty x y).bind fun b=>(eqKs ts xs ys).map fun c=>b && c
 | _,_,_=>none
theorem eq1_K (P : Program) (ty : TypeId) (x y : AV) : eq1 P ty x y = eqK1 (eqK P ty) x y:=by
 unfold eq1 eqK
 cases h : P.underlying ty with
 | none=>cases x <;> cases y <;> rfl
 | some u=>cases u <;> cases x <;> cases y <;> rfl
theorem eqFs_K (P : Program) : ∀ (ts : List TypeId) (xs ys : List AV),eqFs P ts xs ys = eqKs (ts.map (eqK P)) xs ys
 | [],[],[]=>rfl
 | [],[],_ :: _=>rfl
 | [],_ :: _,[]=>rfl
 | [],_ :: _,_ :: _=>rfl
 | _ :: _,[],[]=>rfl
 | _ :: _,[],_ :: _=>rfl
 | _ :: _,_ :: _,[]=>rfl
 | ty :: ts,x :: xs,y :: ys=>by
  simp only [eqFs,List.map_cons,eqKs,eq1_K,eqFs_K P ts xs ys]
theorem eqAgg_K {P : Program} {t : TypeId} {ks : List Nat} (h : eqShape P t = some ks) (fs gs : List AV) : eqAgg P t fs gs = eqKs ks fs gs:=by
 unfold eqShape at h
 unfold eqAgg
 split at h
 ·rename_i fl hu
  simp only [hu]
  split at h
  ·rename_i hc
   rw [if_pos hc]
   cases hf : flds P t with
   | none=>rw [hf] at h; cases h
   | some ts =>
    rw [hf] at h
    simp only [Option.map_some,Option.some.injEq] at h
    simp only [Option.bind_some,eqFs_K,h]
  ·cases h
 ·cases h
end Go.Av
namespace Go.Proofs.Tryz
open Go Go.Av
set_option maxRecDepth 10000
variable {W0 : World}

theorem take_eq_succ {α : Type} {a b : List α} {i : Nat} {x : α} (h : a.take i = b.take i) (hx : a[i]? = some x) (hy : b[i]? = some x) : a.take (i + 1) = b.take (i + 1):=by
 rw [take_succ_get hx,take_succ_get hy,h]
theorem ne_of_get {α : Type} {a b : List α} {i : Nat} {x y : α} (hx : a[i]? = some x) (hy : b[i]? = some y) (h : x ≠ y) : a ≠ b:=by
 rintro rfl
 rw [hx] at hy
 exact h (Option.some.inj hy)

theorem shape_atom : eqShape prog 100 = some [2,1,2]:=by kernel_rfl
theorem shape_prov : eqShape prog 102 = some [2,2]:=by kernel_rfl
@[go_sem] theorem atom_neq (a b : Atom) : binV prog .neq 100 (atomAV a) (atomAV b) = .bool (!decide (a = b)):=by
 obtain ⟨a1,a2,a3⟩:=a
 obtain ⟨b1,b2,b3⟩:=b
 simp only [atomAV,binV_aneq,eqAgg_K shape_atom,eqKs,eqK1,if_true,Option.map_some,Option.bind_some,Option.getD_some,Atom.mk.injEq,Bool.and_true]
 congr 1
 rw [Bool.eq_iff_iff]
 simp
@[go_sem] theorem atom_ceq (a b : Atom) : binC prog .neq 100 (atomAV a) (atomAV b) = True:=by
 simp [atomAV,binC_aneq,eqAgg_K shape_atom,eqKs,eqK1]
@[go_sem] theorem prov_neq (a b : Prov) : binV prog .neq 102 (provAV a) (provAV b) = .bool (!decide (a = b)):=by
 obtain ⟨a1,a2⟩:=a
 obtain ⟨b1,b2⟩:=b
 simp only [provAV,binV_aneq,eqAgg_K shape_prov,eqKs,eqK1,if_true,Option.map_some,Option.bind_some,Option.getD_some,Prov.mk.injEq,Bool.and_true]
 congr 1
 rw [Bool.eq_iff_iff]
 simp
@[go_sem] theorem prov_ceq (a b : Prov) : binC prog .neq 102 (provAV a) (provAV b) = True:=by
 simp [provAV,binC_aneq,eqAgg_K shape_prov,eqKs,eqK1]

theorem r4_sameAtoms (a b : List Atom) : PureFn prog W0 41 [atomsAV a,atomsAV b] (.bool (decide (a = b))):=by
 refine fn_pure [4] [] func41 rfl rfl ntmps41 rfl rfl (.bool _) fun hs σ=>?_
 have hl:=(small_map (hs _ (List.mem_cons_self ..))).1
 simp only [go_sem,simprocAttr,↓reduceIte,atomsAV,List.length_map]
 refine ⟨fun h=>weak_bool (decide_eq_false fun e=>h (by rw [e])).symm,fun h=>?_⟩
 have hab : a.length = b.length:=by omega
 refine LoopVC.upto [0,1,12] (.of (by kernel_rfl)) a.length (fun i A=>A.env 13 = .int .i64 i ∧ A.st = σ ∧ a.take i = b.take i) 0 (Nat.zero_le _) ?_ fun i B hi ⟨h13,hst,hI⟩=>?_
 ·simp only [go_sem,simprocAttr,↓reduceIte]
  simp
 simp only [go_sem,simprocAttr,↓reduceIte,h13,hst,List.length_map]
 refine ⟨fun hc=>?_,fun hc=>weak_bool ?_⟩
 ·obtain ⟨x,hx⟩:=get_some hc
  obtain ⟨y,hy⟩:=get_some (show i < b.length by omega)
  simp only [go_sem,simprocAttr,↓reduceIte,h13,hst,List.length_map,atV_map hx,atV_map hy]
  exact ⟨.of (by kernel_rfl),hc,by omega,fun hne=>weak_bool (decide_eq_false (ne_of_get hx hy hne)).symm,fun e=>⟨hc,int_succ hc hl,take_eq_succ hI hx (e ▸ hy)⟩⟩
 ·rw [List.take_of_length_le hc,List.take_of_length_le (by omega)] at hI
  exact (decide_eq_true hI).symm
theorem r4_sameProvides (a b : List Prov) : PureFn prog W0 42 [provsAV a,provsAV b] (.bool (decide (a = b))):=by
 refine fn_pure [4] [] func42 rfl rfl ntmps42 rfl rfl (.bool _) fun hs σ=>?_
 have hl:=(small_map (hs _ (List.mem_cons_self ..))).1
 simp only [go_sem,simprocAttr,↓reduceIte,provsAV,List.length_map]
 refine ⟨fun h=>weak_bool (decide_eq_false fun e=>h (by rw [e])).symm,fun h=>?_⟩
 have hab : a.length = b.length:=by omega
 refine LoopVC.upto [0,1,12] (.of (by kernel_rfl)) a.length (fun i A=>A.env 13 = .int .i64 i ∧ A.st = σ ∧ a.take i = b.take i) 0 (Nat.zero_le _) ?_ fun i B hi ⟨h13,hst,hI⟩=>?_
 ·simp only [go_sem,simprocAttr,↓reduceIte]
  simp
 simp only [go_sem,simprocAttr,↓reduceIte,h13,hst,List.length_map]
 refine ⟨fun hc=>?_,fun hc=>weak_bool ?_⟩
 ·obtain ⟨x,hx⟩:=get_some hc
  obtain ⟨y,hy⟩:=get_some (show i < b.length by omega)
  simp only [go_sem,simprocAttr,↓reduceIte,h13,hst,List.length_map,atV_map hx,atV_map hy]
  exact ⟨.of (by kernel_rfl),hc,by omega,fun hne=>weak_bool (decide_eq_false (ne_of_get hx hy hne)).symm,fun e=>⟨hc,int_succ hc hl,take_eq_succ hI hx (e ▸ hy)⟩⟩
 ·rw [List.take_of_length_le hc,List.take_of_length_le (by omega)] at hI
  exact (decide_eq_true hI).symm
theorem r4_sameClauses (a b : List Clause) : PureFn prog W0 40 [clausesAV a,clausesAV b] (.bool (decide (a = b))):=by
 refine fn_pure [4] [] func40 rfl rfl ntmps40 rfl rfl (.bool _) fun hs σ=>?_
 have hl:=(small_map (hs _ (List.mem_cons_self ..))).1
 simp only [go_sem,simprocAttr,↓reduceIte,clausesAV,List.length_map]
 refine ⟨fun h=>weak_bool (decide_eq_false fun e=>h (by rw [e])).symm,fun h=>?_⟩
 have hab : a.length = b.length:=by omega
 refine LoopVC.upto [0,1,12] (.of (by kernel_rfl)) a.length (fun i A=>A.env 13 = .int .i64 i ∧ A.st = σ ∧ a.take i = b.take i) 0 (Nat.zero_le _) ?_ fun i B hi ⟨h13,hst,hI⟩=>?_
 ·simp only [go_sem,simprocAttr,↓reduceIte]
  simp
 simp only [go_sem,simprocAttr,↓reduceIte,h13,hst,List.length_map]
 refine ⟨fun hc=>?_,fun hc=>weak_bool ?_⟩
 ·obtain ⟨x,hx⟩:=get_some hc
  obtain ⟨y,hy⟩:=get_some (show i < b.length by omega)
  simp only [go_sem,simprocAttr,↓reduceIte,h13,hst,List.length_map,atV_map hx,atV_map hy]
  refine ⟨.of (by kernel_rfl),hc,by omega,CallP.fn (r4_sameAtoms x y) ?_⟩
  simp only [go_sem,simprocAttr,↓reduceIte,h13,hst,List.length_map]
  exact ⟨fun hne=>weak_bool (decide_eq_false (ne_of_get hx hy hne)).symm,fun e=>⟨hc,int_succ hc hl,take_eq_succ hI hx (e ▸ hy)⟩⟩
 ·rw [List.take_of_length_le hc,List.take_of_length_le (by omega)] at hI
  exact (decide_eq_true hI).symm
theorem r9_same (p q : Pkg) : PureFn prog W0 15 [pkgAV p,pkgAV q] (.bool (decide (p = q))):=by
 refine fn_pure [4] [2,3] func15 rfl rfl ntmps15 rfl rfl (.bool _) fun hs σ=>?_
 simp only [go_sem,simprocAttr,↓reduceIte,pkgAV]
 refine CallP.fnG (fun _=>r4_sameClauses _ _) ?_
 simp only [go_sem,simprocAttr,↓reduceIte]
 refine CallP.fnG (fun _=>r4_sameClauses _ _) ?_
 simp only [go_sem,simprocAttr,↓reduceIte]
 refine CallP.fnG (fun _=>r4_sameClauses _ _) ?_
 simp only [go_sem,simprocAttr,↓reduceIte]
 refine CallP.fnG (fun _=>r4_sameAtoms _ _) ?_
 simp only [go_sem,simprocAttr,↓reduceIte]
 refine CallP.fnG (fun _=>r4_sameAtoms _ _) ?_
 simp only [go_sem,simprocAttr,↓reduceIte]
 refine CallP.fnG (fun _=>r4_sameProvides _ _) ?_
 simp only [go_sem,simprocAttr,↓reduceIte]
 refine weak_bool ?_
 obtain ⟨a1,a2,a3,a4,a5,a6,a7,a8,a9⟩:=p
 obtain ⟨b1,b2,b3,b4,b5,b6,b7,b8,b9⟩:=q
 rw [Bool.eq_iff_iff]
 simp only [Bool.and_eq_true,beq_iff_eq,decide_eq_true_eq,and_assoc,Pkg.mk.injEq]
 exact ⟨fun ⟨h1,h2,h3,h4,h5,h6,h7,h8,h9⟩=>⟨h1,h2,h4,h5,h6,h7,h8,h9,h3⟩,fun ⟨h1,h2,h4,h5,h6,h7,h8,h9,h3⟩=>⟨h1,h2,h3,h4,h5,h6,h7,h8,h9⟩⟩

end Go.Proofs.Tryz
end
