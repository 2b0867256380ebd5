/- Texts that the last one of this claim rests on: a layer over the guide's own conditions for code; contracts of the functions that the law reaches, one by one. No conditions beside those of the given rows. -/
import Derived.Lib.Bytealg
import Derived.Test.YtbooehmmhbioaaaGreatDoorWae
import Derived.Test.YtbooehmmhbioaaaGreatDoorWag
import Derived.Test.YtbooehmmhbioaaaGreatDoorWah
set_option linter.unusedSimpArgs false
set_option linter.unusedVariables false
section
namespace Go.Av
open Go

def iT {α : Type} (q : α → Bool) (l : List α) : Int:=match l.findIdx? q with | some i=>i | none=>-1

theorem fP {α : Type} {q : α → Bool} {l : List α} {i : Nat} {a : α} (h : l[i]? = some a) (hq : q a = true) (hn : ∀ b ∈ l.take i,q b = false) : iT q l = i:=by
 have : l.findIdx? q = some i:=by
  obtain ⟨hi,he⟩:=List.getElem?_eq_some_iff.1 h
  refine List.findIdx?_eq_some_iff_getElem.2 ⟨hi,by rw [he]; exact hq,fun j hj=>?_⟩
  have:=hn l[j] (List.mem_of_getElem? (i:=j) (by rw [List.getElem?_take,if_pos hj]; exact List.getElem?_eq_getElem (by omega)))
  simp [this]
 rw [iT,this]

theorem dz {α : Type} {q : α → Bool} {l : List α} (hn : ∀ b ∈ l,q b = false) : iT q l = -1:=by
 have : l.findIdx? q = none:=List.findIdx?_eq_none_iff.2 hn
 rw [iT,this]

theorem ie {α : Type} {q : α → Bool} {l : List α} : decide (0 ≤ iT q l) = l.any q:=by
 unfold iT
 cases h : l.findIdx? q with
 | none =>
  have:=List.findIdx?_eq_none_iff.1 h
  have e : l.any q = false:=by rw [List.any_eq_false]; intro x hx; simp [this x hx]
  rw [e]; rfl
 | some i =>
  obtain ⟨hi,h1,_⟩:=List.findIdx?_eq_some_iff_getElem.1 h
  have e : l.any q = true:=List.any_eq_true.2 ⟨_,List.getElem_mem hi,h1⟩
  rw [e]
  simp

theorem bM {σ : ab} {id : Nat} {te : TypeId} {xs : List AV} (h : id < σ.length) (i : Nat) (path : List Nat) : look (σ.set id (some (.cells te xs))) id i path = (xs[i]?).bind (·.at path):=by simp [look,h]
theorem an {σ : ab} {id : Nat} {te : TypeId} {xs : List AV} (h : σ[id]? = some (some (.cells te xs))) (i : Nat) (path : List Nat) : look σ id i path = (xs[i]?).bind (·.at path):=by simp [look,h]
theorem cQ {σ : ab} {id : Nat} {te : TypeId} {xs : List AV} (h : id < σ.length) (i : Nat) (path : List Nat) (v : AV) : cY (σ.set id (some (.cells te xs))) id i path v = σ.set id (some (.cells te (xs.set i ((xs[i]?.getD .undef).setAt path v)))):=by simp [cY,h]
theorem aL {σ : ab} {id : Nat} {te : TypeId} {xs : List AV} (h : σ[id]? = some (some (.cells te xs))) (i : Nat) (path : List Nat) (v : AV) : cY σ id i path v = σ.set id (some (.cells te (xs.set i ((xs[i]?.getD .undef).setAt path v)))):=by simp [cY,h]
theorem fK {σ : ab} {id : Nat} {o : Option cM} (h : σ[id]? = some o) : σ.set id o = σ:=by
 obtain ⟨h1,h2⟩:=List.getElem?_eq_some_iff.1 h
 rw [← h2,List.set_getElem_self]

@[go_sem] theorem LI (t : TypeId) (fs : List AV) (k : Nat) (r : List Nat) (v : AV) : (AV.agg t fs).setAt (k :: r) v = .agg t (fs.set k ((fs[k]?.getD .undef).setAt r v)):=by
 cases h : fs[k]? with
 | none=>simp only [AV.setAt,h,Option.getD_none]; rw [List.set_eq_of_length_le (List.getElem?_eq_none_iff.1 h)]
 | some y=>simp only [AV.setAt,h,Option.getD_some]

theorem aj.go {P : Program} {W0 : World} {A : aa} {g : FuncId} {caps us : List AV} {dst : Option Nat} {k : aa → Prop} {Q : AV → ab → Prop} {σ : ab} (hσ : A.st = σ) (h : aU P W0 g (us ++ caps) σ Q) (hk : ∀ r σ',Q r σ' → k ((A.put dst r).ag σ')) : aj P W0 (.fn g caps) us dst A k .mk:=by
 subst hσ
 exact h.mono hk
theorem aj.goes {P : Program} {W0 : World} {A : aa} {g : FuncId} {us : List AV} {dst : Option Nat} {k : aa → Prop} {Q : AV → ab → Prop} {σ : ab} (hσ : A.st = σ) (h : aU P W0 g us σ Q) (hk : ∀ r σ',Q r σ' → k ((A.put dst r).ag σ')) : aj P W0 (.fn g []) us dst A k .mk:=.go hσ (by simpa using h) hk
theorem aj.reads {P : Program} {W0 : World} {A : aa} {g : FuncId} {us : List AV} {dst : Option Nat} {k : aa → Prop} {r : AV} {σ : ab} (hσ : A.st = σ) (h : aU P W0 g us σ fun r' σ'=>r' = r ∧ σ' = σ) (hk : k (A.put dst r)) : aj P W0 (.fn g []) us dst A k .mk:=.goes hσ h fun r' σ' ⟨h1,h2⟩=>by
 subst h1 h2 hσ
 rwa [mJ]

theorem Ir (c : UInt8) : IntKind.u8.wrap (c.toNat : Int) = c.toNat:=by
 have:=c.toNat_lt
 show (c.toNat : Int) % 256 = c.toNat
 omega
theorem yI {c : UInt8} (h : c.toNat < 128) : xY (c.toNat : Int) = [c]:=by
 have hv : Utf8.valid (c.toNat : Int) = true:=by
  simp only [Utf8.valid]
  simp
  omega
 have e : Utf8.encode (c.toNat : Int) = ⟨#[UInt8.ofNat c.toNat]⟩:=by
  unfold Utf8.encode
  rw [if_pos hv,if_pos (by simpa using h)]
  simp
 rw [xY,e]
 simp

def e7 (a b : List UInt8) : Int:=if Op.bytesLess a b = true then -1 else if a = b then 0 else 1

def orL : List Int → Int
 | []=>0
 | x :: r=>if x ≠ 0 then x else orL r

theorem oq (s : List UInt8) (c : UInt8) : Lib.indexByte s c = aQ c s:=by
 induction s with
 | nil=>rfl
 | cons d r ih =>
  unfold Lib.indexByte
  cases h : d == c with
  | true=>simp [aQ,List.findIdx?_cons,h]
  | false =>
   simp only [Bool.false_eq_true,if_false,ih]
   rcases jv c r with ⟨h1,h2⟩ | ⟨i,h1,_,_⟩
   ·rw [h1]
    have : (d :: r).findIdx? (· == c) = none:=List.findIdx?_eq_none_iff.2 fun x hx=>by
     rcases List.mem_cons.1 hx with rfl | hx
     ·exact h
     ·simp; intro e; subst e; exact h2 hx
    simp [aQ,this]
   ·have hne : ((aQ c r) == -1) = false:=by rw [h1,beq_eq_false_iff_ne]; omega
    rw [hne]
    simp only [Bool.false_eq_true,if_false]
    have hf : r.findIdx? (· == c) = some i:=by
     unfold aQ at h1
     split at h1
     ·rename_i j hj; rw [hj]; congr 1; omega
     ·omega
    rw [h1]
    simp [aQ,List.findIdx?_cons,h,hf]

theorem ze (s : List UInt8) (c : UInt8) : decide (0 ≤ aQ c s) = s.contains c:=by
 rcases jv c s with ⟨h1,h2⟩ | ⟨i,h1,h2,_⟩
 ·rw [h1]; simp [h2]
 ·rw [h1]
  have : c ∈ s:=List.mem_of_getElem? h2
  simp [this]

def G6 (c : UInt8) (s : List UInt8) : List UInt8:=if 0 ≤ aQ c s then s.take (aQ c s).toNat else s
def EC (c : UInt8) (s : List UInt8) : List UInt8:=if 0 ≤ aQ c s then s.drop ((aQ c s).toNat + 1) else []
def qN (c : UInt8) (s : List UInt8) : AV:=.tup [.str (G6 c s),.str (EC c s),.bool (decide (0 ≤ aQ c s))]
theorem tp (c : UInt8) (s : List UInt8) : aN 0 (qN c s):=by
 refine .tup fun x hx=>?_
 simp at hx
 rcases hx with rfl | rfl | rfl <;> first | exact .str _ | exact .bool _

end Go.Av
end
section
namespace Go.Proofs.Tryz
open Go Go.Av
set_option maxRecDepth 10000
variable {W0 : World}

def bs (a : Atom) : AV:=.agg 81 [.str a.name,.int .i64 a.rel,.str a.ver]
def aH (l : List Atom) : AV:=.sl 81 (l.map bs)
def aC (l : List Clause) : AV:=.sl 72 (l.map aH)
def dL (p : ij) : AV:=.agg 147 [.str p.name,.str p.ver]
def dd (l : List ij) : AV:=.sl 147 (l.map dL)
def ax (p : Pkg) : AV:=.agg 54 [.str p.name,.str p.ver,aC p.pre,aC p.dep,aC p.rcm,aH p.con,aH p.brk,dd p.gr,.bool p.ess]
def bK (l : List Pkg) : AV:=.sl 54 (l.map ax)

end Go.Proofs.Tryz
end
section
namespace Go.Proofs.Tryz
open Go Go.Av
set_option maxRecDepth 10000
variable {W0 : World}

theorem nI (c : UInt8) : af prog W0 200 [.int .u8 c.toNat] (.bool (aJ c)):=by
 refine ai [2] [] func200 rfl rfl ntmps200 rfl rfl (.bool _) fun _ σ=>?_
 simp only [go_sem,simprocAttr]
 exact al (by rw [aJ]; congr 1 <;> exact decide_eq_decide.2 (by omega))

theorem ui (c : UInt8) : af prog W0 236 [.int .u8 c.toNat] (.bool (cZ c)):=by
 refine ai [2] [] func236 rfl rfl ntmps236 rfl rfl (.bool _) fun _ σ=>?_
 simp only [go_sem,simprocAttr]
 refine al ?_
 unfold cZ j8
 congr 2 <;> exact decide_eq_decide.2 (by omega)

theorem zy (s : List UInt8) : af prog W0 198 [.str s] (.bool (decide (1 ≤ s.length) && decide (s.length ≤ 9) && s.all aJ)):=by
 refine ai [2] [] func198 rfl rfl ntmps198 rfl rfl (.bool _) fun hs σ=>?_
 simp only [go_sem,simprocAttr]
 refine ⟨fun h=>al ?_,fun h=>?_⟩
 ·cases s with
  | nil=>rfl
  | cons c r =>
   have : ¬ ((c :: r).length ≤ 9):=by simp at h ⊢; omega
   rw [decide_eq_false this]; simp
 have hl : 1 ≤ s.length ∧ s.length ≤ 9:=by cases s <;> simp at h ⊢; omega
 refine VC.cF [] (fun k A=>∃ pos,A.env 13 = .it σ.length ∧ A.st = σ ++ [some (.iter s pos)] ∧ k = s.length - pos ∧ pos ≤ s.length ∧ (s.take pos).all aJ = true) s.length (.here ⟨0,?_⟩) fun k A ⟨pos,h13,hst,hk,hp,hI⟩=>?_
 ·simp only [go_sem,simprocAttr]
  all_goals simp
 simp only [go_sem,simprocAttr,h13,hst]
 refine ⟨fun hlt=>?_,fun hge=>?_⟩
 ·obtain ⟨c,hc⟩:=get_some hlt
  simp only [Bool.or_eq_true,Bool.or_eq_false_iff,decide_eq_true_eq,decide_eq_false_iff_not]
  have bad : aJ c = false → (decide (1 ≤ s.length) && decide (s.length ≤ 9) && s.all aJ) = false:=fun hd=>by rw [all_false hc hd,Bool.and_false]
  rcases Nat.lt_or_ge c.toNat 128 with h8 | h8
  ·rw [kR hc h8]
   refine ⟨fun hb=>al (bad ?_).symm,fun hb=>.here (s.length - (pos + 1)) (by omega) ⟨pos + 1,?_⟩⟩
   ·simp [aJ]; omega
   ·simp only [go_sem,simprocAttr,h13,hst]
    exact ⟨by omega,wG hI hc (by simp [aJ]; omega)⟩
  ·have:=oM hc h8
   refine ⟨fun hb=>al (bad ?_).symm,fun hb=>by omega⟩
   simp [aJ]; omega
 ·have : pos = s.length:=by omega
  rw [this,List.take_length] at hI
  refine al ?_
  simp [hl,hI]
end Go.Proofs.Tryz
end
section
namespace Go.Proofs.Tryz
open Go Go.Av
set_option maxRecDepth 10000
variable {W0 : World}

theorem Gn {α : Type} (enc : α → AV) (hp : ∀ a,cD (enc a)) (l : List α) (q : α → Bool) (g : FuncId) (caps : List AV) (h : ∀ a ∈ l,af prog W0 g ([enc a] ++ caps) (.bool (q a))) :
  af prog W0 239 [.sl 81 (l.map enc),.fn g caps] (.int .i64 (iT q l)):=by
 refine ai [4] [] func239 rfl rfl ntmps239 rfl rfl (.int _ _) fun hs σ=>?_
 have hl:=(bu (hs _ (List.mem_cons_self ..))).1
 simp only [go_sem,simprocAttr]
 refine ah.upto [0,1,7] (.of (by kernel_rfl)) l.length (fun i A=>A.env 8 = .int .i64 i ∧ A.st = σ ∧ ∀ a ∈ l.take i,q a = false) 0 (Nat.zero_le _) ?_ fun i B hi ⟨h8,hst,hI⟩=>?_
 ·simp only [go_sem,simprocAttr]
  all_goals simp
 simp only [go_sem,simprocAttr,h8,hst,List.length_map]
 refine ⟨fun hc=>⟨hc,?_⟩,fun hc=>aD ?_⟩
 ·obtain ⟨a,ha⟩:=get_some hc
  simp only [ay ha,bP (hp a),cp (hp a),true_and]
  refine aj.pure (h a (List.mem_of_getElem? ha)) ?_
  simp only [go_sem,simprocAttr,h8,hst]
  refine ⟨fun hq=>aD (fP ha hq hI).symm,fun hq=>⟨hc,aq hc hl,?_⟩⟩
  rw [ak ha]
  intro b hb
  rcases List.mem_append.1 hb with hb | hb
  ·exact hI b hb
  ·rw [List.mem_singleton.1 hb]; exact hq
 ·rw [dz]
  rwa [List.take_of_length_le hc] at hI
theorem LS {α : Type} (enc : α → AV) (hp : ∀ a,cD (enc a)) (l : List α) (q : α → Bool) (g : FuncId) (caps : List AV) (h : ∀ a ∈ l,af prog W0 g ([enc a] ++ caps) (.bool (q a))) :
  af prog W0 233 [.sl 81 (l.map enc),.fn g caps] (.int .i64 (iT q l)):=by
 refine ai [4] [] func233 rfl rfl ntmps233 rfl rfl (.int _ _) fun hs σ=>?_
 have hl:=(bu (hs _ (List.mem_cons_self ..))).1
 simp only [go_sem,simprocAttr]
 refine ah.upto [0,1,7] (.of (by kernel_rfl)) l.length (fun i A=>A.env 8 = .int .i64 i ∧ A.st = σ ∧ ∀ a ∈ l.take i,q a = false) 0 (Nat.zero_le _) ?_ fun i B hi ⟨h8,hst,hI⟩=>?_
 ·simp only [go_sem,simprocAttr]
  all_goals simp
 simp only [go_sem,simprocAttr,h8,hst,List.length_map]
 refine ⟨fun hc=>⟨hc,?_⟩,fun hc=>aD ?_⟩
 ·obtain ⟨a,ha⟩:=get_some hc
  simp only [ay ha,bP (hp a),cp (hp a),true_and]
  refine aj.pure (h a (List.mem_of_getElem? ha)) ?_
  simp only [go_sem,simprocAttr,h8,hst]
  refine ⟨fun hq=>aD (fP ha hq hI).symm,fun hq=>⟨hc,aq hc hl,?_⟩⟩
  rw [ak ha]
  intro b hb
  rcases List.mem_append.1 hb with hb | hb
  ·exact hI b hb
  ·rw [List.mem_singleton.1 hb]; exact hq
 ·rw [dz]
  rwa [List.take_of_length_le hc] at hI
theorem Sz {α : Type} (enc : α → AV) (hp : ∀ a,cD (enc a)) (l : List α) (q : α → Bool) (g : FuncId) (caps : List AV) (h : ∀ a ∈ l,af prog W0 g ([enc a] ++ caps) (.bool (q a))) :
  af prog W0 83 [.sl 54 (l.map enc),.fn g caps] (.int .i64 (iT q l)):=by
 refine ai [4] [] func83 rfl rfl ntmps83 rfl rfl (.int _ _) fun hs σ=>?_
 have hl:=(bu (hs _ (List.mem_cons_self ..))).1
 simp only [go_sem,simprocAttr]
 refine ah.upto [0,1,7] (.of (by kernel_rfl)) l.length (fun i A=>A.env 8 = .int .i64 i ∧ A.st = σ ∧ ∀ a ∈ l.take i,q a = false) 0 (Nat.zero_le _) ?_ fun i B hi ⟨h8,hst,hI⟩=>?_
 ·simp only [go_sem,simprocAttr]
  all_goals simp
 simp only [go_sem,simprocAttr,h8,hst,List.length_map]
 refine ⟨fun hc=>⟨hc,?_⟩,fun hc=>aD ?_⟩
 ·obtain ⟨a,ha⟩:=get_some hc
  simp only [ay ha,bP (hp a),cp (hp a),true_and]
  refine aj.pure (h a (List.mem_of_getElem? ha)) ?_
  simp only [go_sem,simprocAttr,h8,hst]
  refine ⟨fun hq=>aD (fP ha hq hI).symm,fun hq=>⟨hc,aq hc hl,?_⟩⟩
  rw [ak ha]
  intro b hb
  rcases List.mem_append.1 hb with hb | hb
  ·exact hI b hb
  ·rw [List.mem_singleton.1 hb]; exact hq
 ·rw [dz]
  rwa [List.take_of_length_le hc] at hI
theorem Lb {α : Type} (enc : α → AV) (hp : ∀ a,cD (enc a)) (l : List α) (q : α → Bool) (g : FuncId) (caps : List AV) (h : ∀ a ∈ l,af prog W0 g ([enc a] ++ caps) (.bool (q a))) :
  af prog W0 229 [.sl 147 (l.map enc),.fn g caps] (.int .i64 (iT q l)):=by
 refine ai [4] [] func229 rfl rfl ntmps229 rfl rfl (.int _ _) fun hs σ=>?_
 have hl:=(bu (hs _ (List.mem_cons_self ..))).1
 simp only [go_sem,simprocAttr]
 refine ah.upto [0,1,7] (.of (by kernel_rfl)) l.length (fun i A=>A.env 8 = .int .i64 i ∧ A.st = σ ∧ ∀ a ∈ l.take i,q a = false) 0 (Nat.zero_le _) ?_ fun i B hi ⟨h8,hst,hI⟩=>?_
 ·simp only [go_sem,simprocAttr]
  all_goals simp
 simp only [go_sem,simprocAttr,h8,hst,List.length_map]
 refine ⟨fun hc=>⟨hc,?_⟩,fun hc=>aD ?_⟩
 ·obtain ⟨a,ha⟩:=get_some hc
  simp only [ay ha,bP (hp a),cp (hp a),true_and]
  refine aj.pure (h a (List.mem_of_getElem? ha)) ?_
  simp only [go_sem,simprocAttr,h8,hst]
  refine ⟨fun hq=>aD (fP ha hq hI).symm,fun hq=>⟨hc,aq hc hl,?_⟩⟩
  rw [ak ha]
  intro b hb
  rcases List.mem_append.1 hb with hb | hb
  ·exact hI b hb
  ·rw [List.mem_singleton.1 hb]; exact hq
 ·rw [dz]
  rwa [List.take_of_length_le hc] at hI
theorem DB {α : Type} (enc : α → AV) (hp : ∀ a,cD (enc a)) (l : List α) (q : α → Bool) (g : FuncId) (caps : List AV) (h : ∀ a ∈ l,af prog W0 g ([enc a] ++ caps) (.bool (q a))) :
  af prog W0 238 [.sl 72 (l.map enc),.fn g caps] (.int .i64 (iT q l)):=by
 refine ai [4] [] func238 rfl rfl ntmps238 rfl rfl (.int _ _) fun hs σ=>?_
 have hl:=(bu (hs _ (List.mem_cons_self ..))).1
 simp only [go_sem,simprocAttr]
 refine ah.upto [0,1,7] (.of (by kernel_rfl)) l.length (fun i A=>A.env 8 = .int .i64 i ∧ A.st = σ ∧ ∀ a ∈ l.take i,q a = false) 0 (Nat.zero_le _) ?_ fun i B hi ⟨h8,hst,hI⟩=>?_
 ·simp only [go_sem,simprocAttr]
  all_goals simp
 simp only [go_sem,simprocAttr,h8,hst,List.length_map]
 refine ⟨fun hc=>⟨hc,?_⟩,fun hc=>aD ?_⟩
 ·obtain ⟨a,ha⟩:=get_some hc
  simp only [ay ha,bP (hp a),cp (hp a),true_and]
  refine aj.pure (h a (List.mem_of_getElem? ha)) ?_
  simp only [go_sem,simprocAttr,h8,hst]
  refine ⟨fun hq=>aD (fP ha hq hI).symm,fun hq=>⟨hc,aq hc hl,?_⟩⟩
  rw [ak ha]
  intro b hb
  rcases List.mem_append.1 hb with hb | hb
  ·exact hI b hb
  ·rw [List.mem_singleton.1 hb]; exact hq
 ·rw [dz]
  rwa [List.take_of_length_le hc] at hI
end Go.Proofs.Tryz
end
section
namespace Go.Proofs.Tryz
open Go Go.Av
set_option maxRecDepth 10000
variable {W0 : World}

theorem HO {α : Type} (enc : α → AV) (hp : ∀ a,cD (enc a)) (l : List α) (q : α → Bool) (g : FuncId) (caps : List AV) (h : ∀ a ∈ l,af prog W0 g ([enc a] ++ caps) (.bool (q a))) :
  af prog W0 203 [.sl 81 (l.map enc),.fn g caps] (.bool (l.any q)):=by
 refine ai [4] [] func203 rfl rfl ntmps203 rfl rfl (.bool _) fun hs σ=>?_
 simp only [go_sem,simprocAttr]
 refine aj.fn (Gn enc hp l q g caps h) ?_
 simp only [go_sem,simprocAttr]
 exact al ie
theorem Fy {α : Type} (enc : α → AV) (hp : ∀ a,cD (enc a)) (l : List α) (q : α → Bool) (g : FuncId) (caps : List AV) (h : ∀ a ∈ l,af prog W0 g ([enc a] ++ caps) (.bool (q a))) :
  af prog W0 193 [.sl 81 (l.map enc),.fn g caps] (.bool (l.any q)):=by
 refine ai [4] [] func193 rfl rfl ntmps193 rfl rfl (.bool _) fun hs σ=>?_
 simp only [go_sem,simprocAttr]
 refine aj.fn (LS enc hp l q g caps h) ?_
 simp only [go_sem,simprocAttr]
 exact al ie
theorem Ja {α : Type} (enc : α → AV) (hp : ∀ a,cD (enc a)) (l : List α) (q : α → Bool) (g : FuncId) (caps : List AV) (h : ∀ a ∈ l,af prog W0 g ([enc a] ++ caps) (.bool (q a))) :
  af prog W0 36 [.sl 54 (l.map enc),.fn g caps] (.bool (l.any q)):=by
 refine ai [4] [] func36 rfl rfl ntmps36 rfl rfl (.bool _) fun hs σ=>?_
 simp only [go_sem,simprocAttr]
 refine aj.fn (Sz enc hp l q g caps h) ?_
 simp only [go_sem,simprocAttr]
 exact al ie
theorem Ka {α : Type} (enc : α → AV) (hp : ∀ a,cD (enc a)) (l : List α) (q : α → Bool) (g : FuncId) (caps : List AV) (h : ∀ a ∈ l,af prog W0 g ([enc a] ++ caps) (.bool (q a))) :
  af prog W0 182 [.sl 147 (l.map enc),.fn g caps] (.bool (l.any q)):=by
 refine ai [4] [] func182 rfl rfl ntmps182 rfl rfl (.bool _) fun hs σ=>?_
 simp only [go_sem,simprocAttr]
 refine aj.fn (Lb enc hp l q g caps h) ?_
 simp only [go_sem,simprocAttr]
 exact al ie
theorem Dm {α : Type} (enc : α → AV) (hp : ∀ a,cD (enc a)) (l : List α) (q : α → Bool) (g : FuncId) (caps : List AV) (h : ∀ a ∈ l,af prog W0 g ([enc a] ++ caps) (.bool (q a))) :
  af prog W0 201 [.sl 72 (l.map enc),.fn g caps] (.bool (l.any q)):=by
 refine ai [4] [] func201 rfl rfl ntmps201 rfl rfl (.bool _) fun hs σ=>?_
 simp only [go_sem,simprocAttr]
 refine aj.fn (DB enc hp l q g caps h) ?_
 simp only [go_sem,simprocAttr]
 exact al ie

theorem JQ (l : List (List UInt8)) (s : List UInt8) : af prog W0 205 [.sl 9 (l.map .str),.str s] (.int .i64 (iT (fun x=>s == x) l)):=by
 refine ai [4] [] func205 rfl rfl ntmps205 rfl rfl (.int _ _) fun hs σ=>?_
 have hl:=(bu (hs _ (List.mem_cons_self ..))).1
 simp only [go_sem,simprocAttr]
 refine ah.upto [0,1,7] (.of (by kernel_rfl)) l.length (fun i A=>A.env 8 = .int .i64 i ∧ A.st = σ ∧ ∀ a ∈ l.take i,(s == a) = false) 0 (Nat.zero_le _) ?_ fun i B hi ⟨h8,hst,hI⟩=>?_
 ·simp only [go_sem,simprocAttr]
  all_goals simp
 simp only [go_sem,simprocAttr,h8,hst,List.length_map]
 refine ⟨fun hc=>⟨hc,?_⟩,fun hc=>aD ?_⟩
 ·obtain ⟨a,ha⟩:=get_some hc
  simp only [ay ha]
  simp only [go_sem,simprocAttr,h8,hst]
  refine ⟨fun hq=>aD (fP (q:=fun x=>s == x) ha (by simpa using hq) hI).symm,fun hq=>⟨hc,aq hc hl,?_⟩⟩
  rw [ak ha]
  intro b hb
  rcases List.mem_append.1 hb with hb | hb
  ·simpa using hI b hb
  ·rw [List.mem_singleton.1 hb]; simpa using hq
 ·rw [dz]
  rwa [List.take_of_length_le hc] at hI

theorem LA (l : List (List UInt8)) (s : List UInt8) : af prog W0 150 [.sl 9 (l.map .str),.str s] (.bool (l.any fun x=>s == x)):=by
 refine ai [4] [] func150 rfl rfl ntmps150 rfl rfl (.bool _) fun hs σ=>?_
 simp only [go_sem,simprocAttr]
 refine aj.fn (JQ l s) ?_
 simp only [go_sem,simprocAttr]
 exact al ie

theorem E6 (a : Int) : af prog W0 251 [.int .i64 a] (.bool false):=by
 refine ai [2] [] func251 rfl rfl ntmps251 rfl rfl (.bool _) fun hs σ=>?_
 simp only [go_sem,simprocAttr]
 exact al (by simp)

theorem CR (a b : Int) : af prog W0 226 [.int .i64 a,.int .i64 b] (.int .i64 (sgn a b)):=by
 refine ai [4] [] func226 rfl rfl ntmps226 rfl rfl (.int _ _) fun hs σ=>?_
 simp only [go_sem,simprocAttr]
 refine aj.fn (E6 a) ?_
 simp only [go_sem,simprocAttr]
 refine aj.fn (E6 b) ?_
 simp only [go_sem,simprocAttr]
 refine ⟨fun h=>aD (by simp [sgn,h]),fun h=>⟨fun h'=>aD (by simp [sgn,h']; omega),fun h'=>aD (by rw [sgn,if_neg (by omega),if_neg (by omega)])⟩⟩

theorem z8 (s : List UInt8) : af prog W0 156 [.str s] (.bool false):=by
 refine ai [2] [] func156 rfl rfl ntmps156 rfl rfl (.bool _) fun hs σ=>?_
 simp only [go_sem,simprocAttr]

theorem vp (a b : List UInt8) : af prog W0 95 [.str a,.str b] (.int .i64 (e7 a b)):=by
 refine ai [4] [] func95 rfl rfl ntmps95 rfl rfl (.int _ _) fun hs σ=>?_
 simp only [go_sem,simprocAttr]
 refine aj.fn (z8 a) ?_
 simp only [go_sem,simprocAttr]
 refine aj.fn (z8 b) ?_
 simp only [go_sem,simprocAttr]
 refine ⟨fun h=>aD (by simp [e7,h]),fun h=>⟨fun h'=>aD (by simp at h'; simp [e7,h,h'.2]),fun h'=>aD ?_⟩⟩
 rw [e7,h]
 simp at h' ⊢
 rcases h' with h' | h'
 ·rw [h] at h'; cases h'
 ·exact h'

theorem Ff (l : List Int) : af prog W0 94 [.sl 3 (l.map (.int .i64))] (.int .i64 (orL l)):=by
 refine ai [2] [] func94 rfl rfl ntmps94 rfl rfl (.int _ _) fun hs σ=>?_
 have hl:=(bu (hs _ (List.mem_cons_self ..))).1
 simp only [go_sem,simprocAttr]
 refine ah.upto [3,6,7] (.of (by kernel_rfl)) l.length (fun i A=>A.env 8 = .int .i64 i ∧ A.st = σ ∧ orL (l.drop i) = orL l) 0 (Nat.zero_le _) ?_ fun i B hi ⟨h8,hst,hI⟩=>?_
 ·simp only [go_sem,simprocAttr]
  all_goals simp
 simp only [go_sem,simprocAttr,h8,hst,List.length_map]
 refine ⟨fun hc=>⟨hc,?_⟩,fun hc=>aD ?_⟩
 ·obtain ⟨a,ha⟩:=get_some hc
  obtain ⟨hlt,hae⟩:=List.getElem?_eq_some_iff.1 ha
  simp only [ay ha]
  simp only [go_sem,simprocAttr,h8,hst]
  rw [List.drop_eq_getElem_cons hlt,hae] at hI
  refine ⟨fun hq=>aD (by rw [← hI,orL,if_pos hq]),fun hq=>⟨hc,aq hc hl,?_⟩⟩
  rw [← hI,orL,if_neg (by simpa using hq)]
 ·rw [List.drop_eq_nil_of_le hc] at hI
  exact hI

theorem vg (s : List UInt8) (c : UInt8) : af prog W0 277 [.str s,.int .u8 c.toNat] (.int .i64 (aQ c s)):=by
 refine KE (e:=Extern.BytealgIndexByte.indexByte) func277 (by kernel_rfl) (by kernel_rfl) (by kernel_rfl) (by kernel_rfl) fun w C vs hl hv=>?_
 obtain ⟨x,y,rfl⟩ : ∃ x y,vs = [x,y]:=by
  match vs,hl with
  | [x,y],_=>exact ⟨x,y,rfl⟩
 obtain ⟨hx,_⟩:=(hv 0 _ x rfl rfl).eW
 have hy:=(hv 1 _ y rfl rfl).bX
 subst hx hy
 refine ⟨_,Lib.run_indexByteString _ _ w,?_⟩
 have e : Lib.indexByte s (c.toNat : Int).toNat.toUInt8 = aQ c s:=by rw [show (c.toNat : Int).toNat.toUInt8 = c by simp]; exact oq s c
 rw [show (ByteArray.mk s.toArray).data.toList = s from rfl,e]
 exact .one rfl (.int _ _)

theorem uF (s : List UInt8) (c : UInt8) : af prog W0 271 [.str s,.int .u8 c.toNat] (.int .i64 (aQ c s)):=by
 refine ai [4] [] func271 rfl rfl ntmps271 rfl rfl (.int _ _) fun hs σ=>?_
 simp only [go_sem,simprocAttr]
 refine aj.fn (vg s c) ?_
 simp only [go_sem,simprocAttr]

theorem x8 (s : List UInt8) (c : UInt8) : af prog W0 261 [.str s,.str [c]] (.int .i64 (aQ c s)):=by
 refine ai [4] [] func261 rfl rfl ntmps261 rfl rfl (.int _ _) fun hs σ=>?_
 simp only [go_sem,simprocAttr]
 refine ⟨fun h=>aD (by rw [← h]; simp [aQ,List.findIdx?_cons]),fun h=>aj.fn (uF s c) ?_⟩
 simp only [go_sem,simprocAttr]

theorem Es (s : List UInt8) (c : UInt8) : af prog W0 262 [.str s,.str [c]] (.int .i64 (aQ c s)):=by
 refine ai [4] [] func262 rfl rfl ntmps262 rfl rfl (.int _ _) fun hs σ=>?_
 simp only [go_sem,simprocAttr]
 refine aj.fn (x8 s c) ?_
 simp only [go_sem,simprocAttr]

theorem xk (s : List UInt8) (c : UInt8) : af prog W0 237 [.str s,.str [c]] (.bool (s.contains c)):=by
 refine ai [4] [] func237 rfl rfl ntmps237 rfl rfl (.bool _) fun hs σ=>?_
 simp only [go_sem,simprocAttr]
 refine aj.fn (Es s c) ?_
 simp only [go_sem,simprocAttr]
 exact al (ze s c)

theorem J4 (s : List UInt8) (c : UInt8) : af prog W0 234 [.str s,.str [c]] (qN c s):=by
 refine ai [4,5,6] [] func234 rfl rfl ntmps234 rfl rfl (tp c s) fun hs σ=>?_
 have hl : s.length ≤ maxLen:=gg (hs _ (by simp))
 simp only [go_sem,simprocAttr]
 refine aj.fn (x8 s c) ?_
 simp only [go_sem,simprocAttr]
 refine ⟨fun h=>?_,fun h=>?_⟩
 ·obtain ⟨i,hi,hg,hlt⟩:=(jv c s).resolve_left (fun e=>by rw [e.1] at h; simp at h)
  rw [hi]
  have hw : IntKind.i64.wrap ((i : Int) + 1) = ((i + 1 : Nat) : Int):=lN hlt hl
  simp only [go_sem,simprocAttr,hw]
  refine ⟨.of (by kernel_rfl),by omega,by omega,?_⟩
  rw [qN,G6,EC,hi,if_pos (by omega),if_pos (by omega),Int.toNat_natCast,decide_eq_true (by omega)]
  exact .refl _
 ·have h:=h
  simp at h
  rw [qN,G6,EC,if_neg (by omega),if_neg (by omega),decide_eq_false (by omega)]
  exact .refl _

theorem Kx (s : List UInt8) (c : UInt8) : af prog W0 196 [.str s,.str [c]] (qN c s):=by
 refine ai [4,5,6] [] func196 rfl rfl ntmps196 rfl rfl (tp c s) fun hs σ=>?_
 simp only [go_sem,simprocAttr]
 refine aj.fn (J4 s c) ?_
 simp only [go_sem,simprocAttr,qN]

theorem o8 (s : List UInt8) (c : UInt8) : af prog W0 235 [.str s,.int .u8 c.toNat] (.int .i64 (lastOf c s)):=by
 refine ai [4] [] func235 rfl rfl ntmps235 rfl rfl (.int _ _) fun hs σ=>?_
 have hsl : s.length ≤ 9223372036854775807:=gg (hs _ (by simp))
 simp only [go_sem,simprocAttr]
 refine ah.cF [0,1] (.of (by kernel_rfl)) (fun k A=>A.env 5 = .int .i64 ((k : Int) - 1) ∧ A.st = σ ∧ k ≤ s.length ∧ lastOf c s = lq c s k) s.length ?_ fun k B ⟨h5,hst,hk,hI⟩=>?_
 ·simp only [go_sem,simprocAttr]
  exact ⟨by rw [aF (by omega)],rfl⟩
 simp only [go_sem,simprocAttr,h5,hst]
 refine ⟨fun hc=>?_,fun hc=>?_⟩
 ·obtain ⟨k,rfl⟩ : ∃ j,k = j + 1:=⟨k - 1,by omega⟩
  have e : (((k + 1 : Nat) : Int) - 1) = (k : Int):=by omega
  simp only [go_sem,simprocAttr,e]
  obtain ⟨x,hx⟩:=get_some (show k < s.length by omega)
  simp only [hx,Option.getD_some]
  refine ⟨by omega,fun h=>aD ?_,fun h=>.here k (by omega) ?_⟩
  ·rw [hI,lq,if_pos (by rw [hx]; congr 1)]
  ·simp only [go_sem,simprocAttr,hst]
   refine ⟨by rw [aF (by omega)],by omega,?_⟩
   rw [hI,lq,if_neg (by rw [hx]; simpa using h)]
 ·have : k = 0:=by omega
  subst this
  exact aD (by rw [hI]; rfl)

theorem pk (s : List UInt8) (c : UInt8) : af prog W0 197 [.str s,.int .u8 c.toNat] (.int .i64 (lastOf c s)):=by
 refine ai [4] [] func197 rfl rfl ntmps197 rfl rfl (.int _ _) fun hs σ=>?_
 simp only [go_sem,simprocAttr]
 refine aj.fn (o8 s c) ?_
 simp only [go_sem,simprocAttr]

theorem qb (s : List UInt8) (c : UInt8) : af prog W0 279 [.str s,.int .u8 c.toNat] (.str (s.dropWhile (· == c))):=by
 refine ai [4] [] func279 rfl rfl ntmps279 rfl rfl (.str _) fun hs σ=>?_
 simp only [go_sem,simprocAttr]
 refine ah.cF [1] (.of (by kernel_rfl)) (fun k A=>∃ x,A.env 0 = .str x ∧ A.st = σ ∧ k = x.length ∧ x.dropWhile (· == c) = s.dropWhile (· == c)) s.length ⟨s,?_⟩ fun k B ⟨x,h0,hst,hk,hI⟩=>?_
 ·simp only [go_sem,simprocAttr]
 cases x with
 | nil =>
  simp only [go_sem,simprocAttr,h0,hst]
  exact vL hI
 | cons d r =>
  simp only [go_sem,simprocAttr,h0,hst]
  refine ⟨fun h=>.here r.length (by simp [hk]) ⟨r,?_⟩,fun h=>vL ?_⟩
  ·simp only [go_sem,simprocAttr,hst]
   rw [← hI,List.dropWhile_cons,if_pos (by have h:=h; simp at h ⊢; exact UInt8.toNat_inj.1 (by omega))]
  ·rw [← hI,List.dropWhile_cons,if_neg (by have h:=h; simp at h ⊢; intro e; subst e; exact h rfl)]

theorem xL (s : List UInt8) (c : UInt8) (hc : c.toNat < 128) : af prog W0 275 [.str s,.str [c]] (.str (s.dropWhile (· == c))):=by
 refine ai [4] [] func275 rfl rfl ntmps275 rfl rfl (.str _) fun hs σ=>?_
 cases s with
 | nil=>simp only [go_sem,simprocAttr]; exact .refl _
 | cons d r =>
  have hc' : ((c.toNat : Int) < 128):=by omega
  simp only [go_sem,simprocAttr,hc']
  refine aj.fn (qb (d :: r) c) ?_
  simp only [go_sem,simprocAttr]
end Go.Proofs.Tryz
end
section
namespace Go.Av

def vR (c : UInt8) : Int:=if c.toNat = 126 then -1 else if cZ c then c.toNat else c.toNat + 256
def rkP : List UInt8 → Int
 | []=>0
 | c :: _=>if aJ c then 0 else vR c

theorem yE {c : UInt8} (h : cZ c = true) : 65 ≤ c.toNat ∧ c.toNat ≤ 122:=by
 simp only [cZ,j8,Bool.or_eq_true,Bool.and_eq_true,decide_eq_true_eq] at h
 omega

theorem lO (c : UInt8) (h : aJ c = false) : (rk [c] = -1 ∧ rkP [c] = -1 ∧ c.toNat = 126) ∨ (rk [c] = 1 + c.toNat ∧ rkP [c] = c.toNat ∧ 65 ≤ c.toNat ∧ c.toNat ≤ 122) ∨ (rk [c] = 300 + c.toNat ∧ rkP [c] = 256 + c.toNat ∧ True):=by
 simp only [rk,rkP,h,Bool.false_eq_true,if_false,Ap,vR]
 by_cases h1 : c.toNat = 126
 ·left; simp [h1]
 ·right
  simp only [h1,if_false]
  cases h2 : cZ c with
  | true=>left; simp only [if_true,true_and]; exact yE h2
  | false=>right; simp only [Bool.false_eq_true,if_false,true_and,and_true]; omega

theorem Aa (a : List UInt8) : (rk a = 0 ∧ rkP a = 0) ∨ ∃ c r,a = c :: r ∧ aJ c = false ∧ rk a = rk [c] ∧ rkP a = rkP [c]:=by
 cases a with
 | nil=>exact .inl ⟨rfl,rfl⟩
 | cons c r =>
  cases h : aJ c with
  | true=>left; simp [rk,rkP,h]
  | false=>right; exact ⟨c,r,rfl,h,rfl,rfl⟩

theorem Ah (a b : List UInt8) : sgn (rkP a) (rkP b) = sgn (rk a) (rk b):=by
 have key : (rkP a < rkP b ↔ rk a < rk b) ∧ (rkP a > rkP b ↔ rk a > rk b):=by
  rcases Aa a with ⟨a1,a2⟩ | ⟨c,r,_,hc,a1,a2⟩ <;> rcases Aa b with ⟨b1,b2⟩ | ⟨d,r',_,hd,b1,b2⟩
  ·rw [a1,a2,b1,b2]; simp
  ·rcases lO d hd with h | h | h <;> rw [a1,a2,b1,b2,h.1,h.2.1] <;> omega
  ·rcases lO c hc with h | h | h <;> rw [a1,a2,b1,b2,h.1,h.2.1] <;> omega
  ·have hc8:=c.toNat_lt
   have hd8:=d.toNat_lt
   rcases lO c hc with h | h | h <;> rcases lO d hd with h' | h' | h' <;> rw [a1,a2,b1,b2,h.1,h.2.1,h'.1,h'.2.1] <;> omega
 unfold sgn
 simp only [key.1,key.2]

theorem we {a b : Int} : sgn a b = 0 ↔ a = b:=⟨ri,fun h=>by rw [h,r7]⟩
theorem zF (a b : List UInt8) : rkP a = rkP b ↔ rk a = rk b:=by rw [← we,Ah,we]
theorem sb (a : List UInt8) : rkP a = 0 ↔ rk a = 0:=zF a []

theorem xz {a : List UInt8} (h : rk a = 0) : bw a = a:=by
 cases a with
 | nil=>rfl
 | cons c r =>
  cases hd : aJ c with
  | true=>simp [bw,hd]
  | false=>exact absurd h (by simp [rk,hd,Da])

theorem si {a : List UInt8} (h : rk a ≠ 0) : bw a.tail = bw a:=by
 obtain ⟨c,r,rfl,hd⟩:=Ad h
 simp [bw,hd]

def ew (s : List UInt8) : List UInt8:=(s.takeWhile aJ).dropWhile (· == 48)
def gO (s : List UInt8) : List UInt8:=s.dropWhile aJ

theorem AX : aJ 48 = true:=by decide

theorem lL (s : List UInt8) : ew s = (jo s).take (bc (jo s)) ∧ gO s = (jo s).drop (bc (jo s)):=by
 have key : ∀ s : List UInt8,s.takeWhile aJ = s.take (bc s) ∧ s.dropWhile aJ = s.drop (bc s):=fun s=>by
  induction s with
  | nil=>exact ⟨rfl,rfl⟩
  | cons c r ih =>
   cases h : aJ c with
   | true =>
    have e : bc (c :: r) = bc r + 1:=by simp [bc,h]
    rw [e,List.takeWhile_cons,List.dropWhile_cons,if_pos h,if_pos h,List.take_succ_cons,List.drop_succ_cons,ih.1,ih.2]
    exact ⟨rfl,rfl⟩
   | false =>
    have e : bc (c :: r) = 0:=by simp [bc,h]
    rw [e,List.takeWhile_cons,List.dropWhile_cons,h]
    exact ⟨rfl,rfl⟩
 induction s with
 | nil=>exact ⟨rfl,rfl⟩
 | cons c r ih =>
  by_cases h0 : c = 48
  ·subst h0
   have e1 : jo (48 :: r) = jo r:=by simp [jo]
   rw [e1,← ih.1,← ih.2]
   refine ⟨?_,?_⟩
   ·simp [ew,AX]
   ·simp [gO,AX]
  ·have e1 : jo (c :: r) = c :: r:=by simp [jo,h0]
   rw [e1,← (key (c :: r)).1,← (key (c :: r)).2]
   refine ⟨?_,rfl⟩
   unfold ew
   cases h : aJ c with
   | true=>simp [List.takeWhile_cons,h,h0]
   | false=>simp [List.takeWhile_cons,h]

theorem wV (s : List UInt8) : (s.take (bc s)).length = bc s:=by
 rw [List.length_take]
 have:=uR s
 omega

theorem xd : ∀ (a b : List UInt8),a.length = b.length → e7 a b = gA a b
 | [],[],_=>rfl
 | [],_ :: _,h=>by simp at h
 | _ :: _,[],h=>by simp at h
 | x :: a,y :: b,h=>by
  have ih:=xd a b (by simpa using h)
  unfold gA
  by_cases hxy : x = y
  ·subst hxy
   rw [if_pos rfl,← ih]
   simp [e7,Op.bytesLess]
  ·rw [if_neg hxy]
   have hne : x.toNat ≠ y.toNat:=fun e=>hxy (UInt8.toNat_inj.1 e)
   have hb : (x == y) = false:=by simpa using hxy
   simp only [e7,Op.bytesLess,hb,Bool.false_and,Bool.or_false,List.cons.injEq,hxy,false_and,if_false,decide_eq_true_eq,UInt8.lt_iff_toNat_lt,sgn]
   by_cases hl : x.toNat < y.toNat
   ·rw [if_pos hl,if_pos (by omega)]
   ·rw [if_neg hl,if_neg (by omega),if_pos (by omega)]

def vG (x y : List UInt8) : Int:=if (ew x).length ≠ (ew y).length then sgn (ew x).length (ew y).length else e7 (ew x) (ew y)

theorem xy (s : List UInt8) : (gO s).length ≤ s.length:=eG s

theorem mV {a b : List UInt8} (h : ¬ (a = [] ∧ b = [])) : br a b = if bQ a b ≠ 0 then bQ a b else if vG (bw a) (bw b) ≠ 0 then vG (bw a) (bw b) else br (gO (bw a)) (gO (bw b)):=by
 rw [br,dif_neg h]
 split
 ·rfl
 ·have ha:=lL (bw a)
  have hb:=lL (bw b)
  have la : (ew (bw a)).length = bc (aR a):=by rw [ha.1]; exact wV _
  have lb : (ew (bw b)).length = bc (aR b):=by rw [hb.1]; exact wV _
  have e1 : (aR a).take (bc (aR a)) = ew (bw a):=ha.1.symm
  have e2 : (aR b).take (bc (aR b)) = ew (bw b):=hb.1.symm
  have e3 : (aR a).drop (bc (aR a)) = gO (bw a):=ha.2.symm
  have e4 : (aR b).drop (bc (aR b)) = gO (bw b):=hb.2.symm
  rw [e1,e2,e3,e4,← la,← lb]
  by_cases hl : (ew (bw a)).length = (ew (bw b)).length
  ·have e : vG (bw a) (bw b) = gA (ew (bw a)) (ew (bw b)):=by rw [vG,if_neg (by simp [hl]),xd _ _ hl]
   rw [if_neg (by simp [hl]),e]
  ·have : sgn ((ew (bw a)).length : Int) (ew (bw b)).length ≠ 0:=fun e=>hl (by have:=ri e; omega)
   have e : vG (bw a) (bw b) = sgn ((ew (bw a)).length : Int) (ew (bw b)).length:=by rw [vG,if_pos hl]
   rw [if_pos (by simpa using hl),e,if_pos this]

theorem zQ {a b : List UInt8} (h : ¬ (a = [] ∧ b = [])) : (gO (bw a)).length + (gO (bw b)).length < a.length + b.length:=by
 rw [(lL (bw a)).2,(lL (bw b)).2]
 exact wO h

def eQ : Option (List UInt8 × List UInt8 × List UInt8) → AV
 | none=>.tup [.str [],.str [],.str [],.int .i64 3]
 | some (e,u,r)=>.tup [.str e,.str u,.str r,.int .i64 0]
theorem yD (v : Option (List UInt8 × List UInt8 × List UInt8)) : aN 0 (eQ v):=by
 cases v <;> refine .tup fun x hx=>?_ <;> simp at hx <;> rcases hx with rfl | rfl | rfl | rfl <;> first | exact .str _ | exact .int _ _

def ofV (beside : List UInt8) (s : List UInt8) : Bool:=s.all fun c=>aJ c || cZ c || beside.contains c
theorem GI (s : List UInt8) : ofV [43,46,126] s = s.all EK:=by
 unfold ofV
 congr 1
 funext c
 have h : ∀ n : Nat,n < 256 → ((c == (n.toUInt8)) = ((c.toNat : Int) == (n : Int))):=fun n hn=>by
  rw [Bool.eq_iff_iff]
  simp only [beq_iff_eq]
  constructor
  ·intro e; subst e; simp [Nat.mod_eq_of_lt hn]
  ·intro e; apply UInt8.toNat_inj.1; simp [Nat.mod_eq_of_lt hn]; omega
 have h1:=h 43 (by omega)
 have h2:=h 46 (by omega)
 have h3:=h 126 (by omega)
 simp only [List.contains_cons,List.contains_nil,Bool.or_false,EK]
 rw [show (43 : UInt8) = (43 : Nat).toUInt8 from rfl,show (46 : UInt8) = (46 : Nat).toUInt8 from rfl,show (126 : UInt8) = (126 : Nat).toUInt8 from rfl,h1,h2,h3]
 cases aJ c <;> cases cZ c <;> simp [Bool.or_assoc]
theorem Ln (s : List UInt8) : ofV [43,46,126,45,58] s = s.all JV:=by
 unfold ofV
 congr 1
 funext c
 have h : ∀ n : Nat,n < 256 → ((c == (n.toUInt8)) = ((c.toNat : Int) == (n : Int))):=fun n hn=>by
  rw [Bool.eq_iff_iff]
  simp only [beq_iff_eq]
  constructor
  ·intro e; subst e; simp [Nat.mod_eq_of_lt hn]
  ·intro e; apply UInt8.toNat_inj.1; simp [Nat.mod_eq_of_lt hn]; omega
 have h1:=h 43 (by omega)
 have h2:=h 46 (by omega)
 have h3:=h 126 (by omega)
 have h4:=h 45 (by omega)
 have h5:=h 58 (by omega)
 simp only [List.contains_cons,List.contains_nil,Bool.or_false,JV]
 rw [show (43 : UInt8) = (43 : Nat).toUInt8 from rfl,show (46 : UInt8) = (46 : Nat).toUInt8 from rfl,show (126 : UInt8) = (126 : Nat).toUInt8 from rfl,show (45 : UInt8) = (45 : Nat).toUInt8 from rfl,show (58 : UInt8) = (58 : Nat).toUInt8 from rfl,h1,h2,h3,h4,h5]
 cases aJ c <;> cases cZ c <;> simp [Bool.or_assoc]

theorem Hf (s : List UInt8) : iM s = if s.length = 0 ∨ 48 < s.length then none else
  (let et:=if 0 ≤ aQ 58 s then (s.take (aQ 58 s).toNat,s.drop ((aQ 58 s).toNat + 1)) else ([48],s)
   match sM et.2 with
   | none=>none
   | some (u,r)=>if (decide (1 ≤ et.1.length) && decide (et.1.length ≤ 9) && et.1.all aJ) && ofV [43,46,126] r && jh u && ofV [43,46,126,45,58] u then some (et.1,u,r) else none):=by
 rw [iM]
 split
 ·rfl
 simp only [EG,GI,Ln]
 by_cases hf : 0 ≤ aQ 58 s
 ·simp only [hf,if_true]
  by_cases he : 1 ≤ (s.take (aQ 58 s).toNat).length ∧ (s.take (aQ 58 s).toNat).length ≤ 9 ∧ (s.take (aQ 58 s).toNat).all aJ = true
  ·simp only [he,and_self,if_true,decide_true,Bool.and_self,Bool.true_and]
   cases sM (s.drop ((aQ 58 s).toNat + 1)) with
   | none=>rfl
   | some ur =>
    obtain ⟨u,r⟩:=ur
    simp only [Bool.and_right_comm]
  ·rw [if_neg he]
   have hb : (decide (1 ≤ (s.take (aQ 58 s).toNat).length) && decide ((s.take (aQ 58 s).toNat).length ≤ 9) && (s.take (aQ 58 s).toNat).all aJ) = false:=by
    cases hx : (decide (1 ≤ (s.take (aQ 58 s).toNat).length) && decide ((s.take (aQ 58 s).toNat).length ≤ 9) && (s.take (aQ 58 s).toNat).all aJ) with
    | false=>rfl
    | true =>
     simp only [Bool.and_eq_true,decide_eq_true_eq] at hx
     exact absurd ⟨hx.1.1,hx.1.2,hx.2⟩ he
   simp only [hb,Bool.false_and,Bool.false_eq_true,if_false]
   cases sM (s.drop ((aQ 58 s).toNat + 1)) with
   | none=>rfl
   | some ur=>rfl
 ·simp only [hf,if_false]
  have hb : (decide (1 ≤ ([48] : List UInt8).length) && decide (([48] : List UInt8).length ≤ 9) && ([48] : List UInt8).all aJ) = true:=by decide
  simp only [hb,Bool.true_and]
  cases sM s with
  | none=>rfl
  | some ur =>
   obtain ⟨u,r⟩:=ur
   simp only [Bool.and_right_comm]

end Go.Av
end
section
namespace Go.Proofs.Tryz
open Go Go.Av
set_option maxRecDepth 10000
variable {W0 : World}

theorem Ae (s : List UInt8) : af prog W0 264 [.str s] (.int .i64 (rkP s)):=by
 refine ai [2] [] func264 rfl rfl ntmps264 rfl rfl (.int _ _) fun hs σ=>?_
 cases s with
 | nil =>
  simp only [go_sem,simprocAttr]
  refine aB.fnG (fun h=>by simp at h) (r:=.bool false) ?_
  simp only [go_sem,simprocAttr]
  exact .refl _
 | cons c r =>
  have h8:=c.toNat_lt
  simp only [go_sem,simprocAttr]
  refine aB.fnG (fun _=>nI c) ?_
  simp only [go_sem,simprocAttr]
  refine ⟨fun h=>aD (by simp [rkP,h]),fun h=>⟨fun h'=>aD ?_,fun h'=>aj.fn (ui c) ?_⟩⟩
  ·have : c.toNat = 126:=by omega
   simp [rkP,h,vR,this]
  simp only [go_sem,simprocAttr]
  have hn : ¬ c.toNat = 126:=by omega
  refine ⟨fun hl=>aD (by simp [rkP,h,vR,hn,hl]),fun hl=>aD ?_⟩
  rw [aF (by omega)]
  simp [rkP,h,vR,hn,hl]

theorem tK (s : List UInt8) : af prog W0 265 [.str s] (.tup [.str (ew s),.str (gO s)]):=by
 refine ai [2,3] [] func265 rfl rfl ntmps265 rfl rfl (.tup (by intro x hx; simp at hx; rcases hx with rfl | rfl <;> exact .str _)) fun hs σ=>?_
 have hsl : s.length ≤ maxLen:=gg (hs _ (by simp))
 simp only [go_sem,simprocAttr]
 refine ah.at [0] (.of (by kernel_rfl)) (fun A=>∃ i : Nat,A.env 4 = .int .i64 i ∧ A.st = σ ∧ i = bc s) ?_ fun B ⟨i,h4,hst,hi⟩=>?_
 ·refine ah.upto [0] (.of (by kernel_rfl)) s.length (fun i A=>A.env 4 = .int .i64 i ∧ A.st = σ ∧ ∀ c ∈ s.take i,aJ c = true) 0 (Nat.zero_le _) ?_ fun i B hi ⟨h4,hst,hI⟩=>?_
  ·simp only [go_sem,simprocAttr]
   simp
  simp only [go_sem,simprocAttr,h4,hst]
  refine aB.fnG (fun _=>nI _) ?_
  simp only [go_sem,simprocAttr,h4,hst]
  refine ⟨fun h=>?_,fun h=>⟨i,rfl,?_⟩⟩
  ·obtain ⟨c,hc,hd⟩:=K6.1 h
   have hlt:=(List.getElem?_eq_some_iff.1 hc).1
   refine ⟨hlt,aq hlt hsl,fun d hdm=>?_⟩
   rw [ak hc] at hdm
   rcases List.mem_append.1 hdm with hdm | hdm
   ·exact hI d hdm
   ·rw [List.mem_singleton.1 hdm]; exact hd
  ·exact (Hj hi hI (EL.1 h)).symm
 simp only [go_sem,simprocAttr,h4,hst]
 subst hi
 have hle:=uR s
 refine ⟨.of (by kernel_rfl),⟨Nat.zero_le _,hle⟩,?_⟩
 refine aB.fn (xL _ 48 (by decide)) ?_
 simp only [go_sem,simprocAttr,h4,hst]
 refine ⟨hle,?_⟩
 have key : ∀ s : List UInt8,s.takeWhile aJ = s.take (bc s) ∧ s.dropWhile aJ = s.drop (bc s):=fun s=>by
  induction s with
  | nil=>exact ⟨rfl,rfl⟩
  | cons c r ih =>
   cases h : aJ c with
   | true =>
    have e : bc (c :: r) = bc r + 1:=by simp [bc,h]
    rw [e,List.takeWhile_cons,List.dropWhile_cons,if_pos h,if_pos h,List.take_succ_cons,List.drop_succ_cons,ih.1,ih.2]
    exact ⟨rfl,rfl⟩
   | false =>
    have e : bc (c :: r) = 0:=by simp [bc,h]
    rw [e,List.takeWhile_cons,List.dropWhile_cons,h]
    exact ⟨rfl,rfl⟩
 rw [ew,gO,(key s).1,(key s).2]
 exact .refl _

abbrev jz (x y : List UInt8) : Option cM:=some (.cells 269 [.agg 269 [.str x,.str y]])

theorem CY (σ : ab) (id : Nat) (a b : List UInt8) (hid : σ[id]? = some (jz a b)) (hal : a.length ≤ maxLen) (hbl : b.length ≤ maxLen) :
  aU prog W0 241 [.ptr 269 id 0 []] σ fun r σ'=>r = .int .i64 (bQ a b) ∧ ∃ x y,σ' = σ.set id (jz x y) ∧ (bQ a b = 0 → x = bw a ∧ y = bw b):=by
 have hidl : id < σ.length:=(List.getElem?_eq_some_iff.1 hid).1
 refine cB [2] [] func241 rfl rfl ntmps241 rfl rfl fun hs=>?_
 simp only [go_sem,simprocAttr]
 refine ah.cF [0] (.of (by kernel_rfl)) (fun k A=>∃ x y,A.st = σ.set id (jz x y) ∧ k = x.length + y.length ∧ bQ x y = bQ a b ∧ bw x = bw a ∧ bw y = bw b ∧ x.length ≤ maxLen ∧ y.length ≤ maxLen) (a.length + b.length) ⟨a,b,?_,rfl,rfl,rfl,rfl,hal,hbl⟩ fun k B ⟨x,y,hst,hk,hI,hx,hy,hxl,hyl⟩=>?_
 ·simp only [go_sem,simprocAttr]
  exact (fK hid).symm
 simp only [go_sem,simprocAttr,hst,bM hidl]
 refine ⟨.of (by kernel_rfl),aB.fn (Ae x) ?_⟩
 simp only [go_sem,simprocAttr,hst,bM hidl]
 refine aB.fn (Ae y) ?_
 simp only [go_sem,simprocAttr,hst,bM hidl]
 refine ⟨fun h=>aj.fn (CR _ _) ?_,fun h=>⟨fun h0=>bR.ret ?_,fun h0=>?_⟩⟩
 ·simp only [go_sem,simprocAttr,hst,bM hidl]
  refine bR.ret ?_
  simp only [go_sem,simprocAttr,hst]
  have hne : rk x ≠ rk y:=fun e=>h ((zF x y).2 e)
  refine ⟨_,.refl _,by simp,by rw [← hI,dw hne,Ah],x,y,rfl,fun h0=>?_⟩
  rw [← hI,dw hne] at h0
  exact absurd (ri h0) hne
 ·simp only [go_sem,simprocAttr,hst]
  have hx0:=(sb x).1 h0
  have hy0 : rk y = 0:=by rw [← sb,← h]; exact h0
  refine ⟨_,.refl _,by simp,by rw [← hI,gy hx0 hy0],x,y,rfl,fun _=>⟨by rw [← hx,xz hx0],by rw [← hy,xz hy0]⟩⟩
 ·have hx0 : rk x ≠ 0:=fun e=>h0 ((sb x).2 e)
  have hxy : rk x = rk y:=(zF x y).1 h
  have hy0 : rk y ≠ 0:=by rw [← hxy]; exact hx0
  obtain ⟨c,r,rfl,hc⟩:=Ad hx0
  obtain ⟨d,r',rfl,hd⟩:=Ad hy0
  simp only [go_sem,simprocAttr,hst,bM hidl,cQ hidl]
  refine ⟨.of (by kernel_rfl),.here (r.length + r'.length) (by simp [hk]; omega) ⟨r,r',?_⟩⟩
  simp only [go_sem,simprocAttr,hst,bM hidl,cQ hidl]
  simp at hxl hyl
  exact ⟨by rw [← hI,gC hx0 hxy]; rfl,by rw [← hx]; exact si hx0,by rw [← hy]; exact si hy0,by omega,by omega⟩
theorem zo (σ : ab) (id : Nat) (a b : List UInt8) (hid : σ[id]? = some (jz a b)) :
  aU prog W0 242 [.ptr 269 id 0 []] σ fun r σ'=>r = .int .i64 (vG a b) ∧ σ' = σ.set id (jz (gO a) (gO b)):=by
 have hidl : id < σ.length:=(List.getElem?_eq_some_iff.1 hid).1
 refine cB [2] [] func242 rfl rfl ntmps242 rfl rfl fun hs=>?_
 simp only [go_sem,simprocAttr,an hid]
 refine aj.fn (tK a) ?_
 simp only [go_sem,simprocAttr,an hid]
 refine aj.fn (tK b) ?_
 simp only [go_sem,simprocAttr,an hid,aL hid,bM hidl,cQ hidl]
 refine ⟨fun h=>aj.fn (CR _ _) ?_,fun h=>aj.fn (vp _ _) ?_⟩
 ·simp only [go_sem,simprocAttr]
  refine bR.ret ?_
  simp only [go_sem,simprocAttr]
  exact ⟨_,.refl _,by simp,by rw [vG,if_pos h]⟩
 ·simp only [go_sem,simprocAttr]
  refine bR.ret ?_
  simp only [go_sem,simprocAttr]
  exact ⟨_,.refl _,by simp,by rw [vG,if_neg (by simpa using h)]⟩

theorem uP (a b : List UInt8) : af prog W0 208 [.str a,.str b] (.int .i64 (br a b)):=by
 refine ai [4] [] func208 rfl rfl ntmps208 rfl rfl (.int _ _) fun hs σ=>?_
 have hal : a.length ≤ maxLen:=gg (hs (.str a) (by simp))
 have hbl : b.length ≤ maxLen:=gg (hs (.str b) (by simp))
 simp only [go_sem,simprocAttr]
 refine ah.cF [5] (.of (by kernel_rfl)) (fun k A=>∃ x y,A.st = σ ++ [jz x y] ∧ k = x.length + y.length ∧ br x y = br a b ∧ x.length ≤ maxLen ∧ y.length ≤ maxLen) (a.length + b.length) ⟨a,b,?_,rfl,rfl,hal,hbl⟩ fun k B ⟨x,y,hst,hk,hI,hxl,hyl⟩=>?_
 ·simp only [go_sem,simprocAttr]
 simp only [go_sem,simprocAttr,hst]
 refine ⟨fun h=>?_,fun h=>?_⟩
 case refine_2 =>
  have : x = [] ∧ y = []:=by cases x <;> cases y <;> simp at h ⊢
  exact aD (by rw [← hI,br,dif_pos this])
 have hne : ¬ (x = [] ∧ y = []):=fun ⟨e,e'⟩=>by subst e e'; simp at h
 have hid : (σ ++ [jz x y])[σ.length]? = some (jz x y):=by simp
 refine aj.goes (by simp only [go_sem,simprocAttr,hst]) (CY _ σ.length x y hid hxl hyl) fun r σ' ⟨hr,x',y',hσ,hz⟩=>?_
 subst hr hσ
 simp only [go_sem,simprocAttr,hst]
 refine ⟨fun h1=>aD ?_,fun h1=>?_⟩
 ·rw [← hI,mV hne,if_pos h1]
 obtain ⟨rfl,rfl⟩:=hz h1
 have hid : (σ ++ [jz (bw x) (bw y)])[σ.length]? = some (jz (bw x) (bw y)):=by simp
 refine aj.goes (by simp only [go_sem,simprocAttr]) (zo _ σ.length _ _ hid) fun r σ' ⟨hr,hσ⟩=>?_
 subst hr hσ
 simp only [go_sem,simprocAttr,hst]
 have l1:=xy (bw x)
 have l2:=xy (bw y)
 have l3:=eG (p:=fun c=>!aJ c) x
 have l4:=eG (p:=fun c=>!aJ c) y
 refine ⟨fun h2=>aD ?_,fun h2=>.here ((gO (bw x)).length + (gO (bw y)).length) (by rw [hk]; exact zQ hne) ⟨gO (bw x),gO (bw y),?_⟩⟩
 ·rw [← hI,mV hne,if_neg (by simp [h1]),if_pos h2]
 ·simp only [go_sem,simprocAttr]
  unfold bw at *
  exact ⟨by rw [← hI,mV hne,if_neg (by simp [h1]),if_neg (by unfold bw; simp [h2])]; rfl,by omega,by omega⟩

theorem JF (beside s : List UInt8) (hbs : ∀ c ∈ beside,c.toNat ≤ 126) : af prog W0 199 [.str s,.str beside] (.bool (ofV beside s)):=by
 refine ai [4] [] func199 rfl rfl ntmps199 rfl rfl (.bool _) fun hs σ=>?_
 simp only [go_sem,simprocAttr]
 refine ah.cF [1,8] (.of (by kernel_rfl)) (fun k A=>∃ pos,A.st = σ ++ [some (.iter s pos)] ∧ k = s.length - pos ∧ pos ≤ s.length ∧ ofV beside (s.take pos) = true) s.length ⟨0,?_⟩ fun k B ⟨pos,hst,hk,hp,hI⟩=>?_
 ·simp only [go_sem,simprocAttr]
  simp [ofV]
 simp only [go_sem,simprocAttr,hst]
 refine ⟨fun hlt=>?_,fun hge=>?_⟩
 ·obtain ⟨c,hc⟩:=get_some hlt
  have bad : (aJ c || cZ c || beside.contains c) = false → ofV beside s = false:=fun hd=>by
   unfold ofV; exact all_false hc hd
  rcases Nat.lt_or_ge c.toNat 128 with h8 | h8
  ·rw [kR hc h8]
   have hcv:=Ir c
   have hce:=yI h8
   simp only [go_sem,simprocAttr,hcv,hce]
   refine aB.fnG (fun _=>nI c) ?_
   simp only [go_sem,simprocAttr,hcv,hce]
   refine aB.fnG (fun _=>ui c) ?_
   simp only [go_sem,simprocAttr,hcv,hce]
   refine aB.fnG (fun _=>xk beside c) ?_
   simp only [go_sem,simprocAttr,hcv,hce]
   refine ⟨fun hb=>al ?_,fun hb=>.here (s.length - (pos + 1)) (by omega) ⟨pos + 1,?_⟩⟩
   ·refine (bad ?_).symm
    simp only [Bool.or_eq_true,decide_eq_true_eq,Bool.and_eq_true,Bool.not_eq_true'] at hb
    rcases hb with hb | ⟨⟨h1,h2⟩,h3⟩
    ·have h1 : aJ c = false:=by simp [aJ]; omega
     have h2 : cZ c = false:=by simp [cZ,j8]; omega
     have h3 : beside.contains c = false:=by
      cases hx : beside.contains c with
      | false=>rfl
      | true=>have:=hbs c (by simpa using hx); omega
     simp only [h1,h2,h3,Bool.or_false]
    ·simp only [h1,h2,h3,Bool.or_false]
   ·simp only [go_sem,simprocAttr,hst]
    refine ⟨by omega,wG hI hc ?_⟩
    simp at hb
    have hb2:=hb.2
    cases hd : aJ c <;> cases hl : cZ c <;> cases hx : beside.contains c <;> simp_all
  ·have:=oM hc h8
   have hd : decide ((126 : Int) < ((fV s pos).1 : Int)) = true:=decide_eq_true (by omega)
   simp only [go_sem,simprocAttr,hd]
   refine aB.fnG (fun h=>by simp at h) (r:=.bool false) ?_
   simp only [go_sem,simprocAttr,hd]
   refine aB.fnG (fun h=>by simp at h) (r:=.bool false) ?_
   simp only [go_sem,simprocAttr,hd]
   refine aB.fnG (fun h=>by simp at h) (r:=.bool false) ?_
   simp only [go_sem,simprocAttr,hd]
   refine al (bad ?_).symm
   have h1 : aJ c = false:=by simp [aJ]; omega
   have h2 : cZ c = false:=by simp [cZ,j8]; omega
   have h3 : beside.contains c = false:=by
    cases hx : beside.contains c with
    | false=>rfl
    | true=>have:=hbs c (by simpa using hx); omega
   simp only [h1,h2,h3,Bool.or_false]
 ·have : pos = s.length:=by omega
  rw [this,List.take_length] at hI
  exact al hI.symm

theorem iQ (s : List UInt8) : af prog W0 142 [.str s] (eQ (iM s)):=by
 refine ai [2,3,4,5] [] func142 rfl rfl ntmps142 rfl rfl (yD _) fun hs σ=>?_
 have hsl : s.length ≤ maxLen:=gg (hs _ (by simp))
 have none_end : iM s = none → cI (AV.tup [.str [],.str [],.str [],.int .i64 3]) (eQ (iM s)):=fun e=>by rw [e]; exact .refl _
 simp only [go_sem,simprocAttr]
 refine ⟨fun h=>none_end ?_,fun h=>?_⟩
 ·have h' : s.length = 0 ∨ 48 < s.length:=by
   simp only [Bool.or_eq_true,beq_iff_eq,decide_eq_true_eq] at h
   rcases h with h | h
   ·left; rw [h]; rfl
   ·right; omega
  rw [iM,if_pos h']
 have hlen : ¬ (s.length = 0 ∨ 48 < s.length):=by
  simp only [Bool.or_eq_false_iff,beq_eq_false_iff_ne,decide_eq_false_iff_not] at h
  rintro (h1 | h1)
  ·exact h.1 (List.length_eq_zero_iff.1 h1)
  ·exact h.2 (by omega)
 refine aj.fn (Kx s 58) ?_
 simp only [go_sem,simprocAttr,qN]
 have hv : ∀ e t : List UInt8,(e,t) = (if 0 ≤ aQ 58 s then (s.take (aQ 58 s).toNat,s.drop ((aQ 58 s).toNat + 1)) else ([48],s)) → iM s = (match sM t with
   | none=>none
   | some (u,r)=>if (decide (1 ≤ e.length) && decide (e.length ≤ 9) && e.all aJ) && ofV [43,46,126] r && jh u && ofV [43,46,126,45,58] u then some (e,u,r) else none):=fun e t he=>by
  rw [Hf,if_neg hlen,← he] <;> rfl
 refine cU.at [4] (by kernel_rfl) (fun A=>∃ e t,A.env 2 = .str e ∧ A.env 6 = .str t ∧ A.st = σ ∧ t.length ≤ s.length ∧ (e,t) = (if 0 ≤ aQ 58 s then (s.take (aQ 58 s).toNat,s.drop ((aQ 58 s).toNat + 1)) else ([48],s))) (fun hf=>?_) (fun hf=>?_) fun B ⟨e,t,h2,h6,hst,htl,het⟩=>?_
 ·have hf : 0 ≤ aQ 58 s:=by simpa using hf
  simp only [go_sem,simprocAttr]
  exact ⟨_,_,rfl,rfl,by rw [EC,if_pos hf]; simp,by rw [G6,EC,if_pos hf,if_pos hf,if_pos hf]⟩
 ·have hf : ¬ 0 ≤ aQ 58 s:=by simpa using hf
  simp only [go_sem,simprocAttr]
  exact ⟨_,_,rfl,rfl,Nat.le_refl _,by rw [if_neg hf]⟩
 have hv:=hv e t het
 simp only [go_sem,simprocAttr,h2,h6,hst]
 refine aj.fn (pk t 45) ?_
 simp only [go_sem,simprocAttr,h2,h6,hst]
 refine cU.at [] (by kernel_rfl) (fun A=>∃ u r,sM t = some (u,r) ∧ A.env 2 = .str e ∧ A.env 3 = .str u ∧ A.env 4 = .str r ∧ A.st = σ) (fun hf=>?_) (fun hf=>?_) fun B ⟨u,r,hrv,h2,h3,h4,hst⟩=>?_
 ·obtain ⟨i,hi,hgi,hlt⟩:=(uA 45 t).resolve_left (fun e=>by rw [e.1] at hf; simp at hf)
  rw [hi]
  have hw : IntKind.i64.wrap ((i : Int) + 1) = ((i + 1 : Nat) : Int):=lN hlt (by omega)
  have hrv : sM t = if t.drop (i + 1) = [] then none else some (t.take i,t.drop (i + 1)):=by
   rw [sM,hi,if_pos (by omega)]; rfl
  simp only [go_sem,simprocAttr,hw,h2,h6,hst]
  refine ⟨.of (by kernel_rfl),by omega,by omega,fun hb=>none_end (by rw [hv]; simp only [hrv,if_pos hb]),fun hb=>⟨t.take i,t.drop (i + 1),?_⟩⟩
  rw [hrv,if_neg hb]
  simp
 ·have hf' : ¬ (0 ≤ lastOf 45 t):=by simpa using hf
  simp only [go_sem,simprocAttr,h2,h6,hst]
  exact ⟨t,[],by simp [sM,hf']⟩
 rw [hrv] at hv
 simp only at hv
 simp only [go_sem,simprocAttr,h2,h3,h4,hst]
 refine aj.fn (zy e) ?_
 simp only [go_sem,simprocAttr,h2,h3,h4,hst]
 refine aB.fnG (fun _=>JF [43,46,126] r (by decide)) ?_
 simp only [go_sem,simprocAttr,h2,h3,h4,hst]
 have fin : ∀ b : Bool,b = (!((decide (1 ≤ e.length) && decide (e.length ≤ 9) && e.all aJ) && ofV [43,46,126] r && jh u && ofV [43,46,126,45,58] u)) → (b = true → iM s = none) ∧ (b = false → iM s = some (e,u,r)):=fun b hb=>by
  rw [hv]
  refine ⟨fun h=>if_neg ?_,fun h=>if_pos ?_⟩
  ·rw [h] at hb
   intro hc
   rw [hc] at hb
   cases hb
  ·rw [h] at hb
   cases hc : (decide (1 ≤ e.length) && decide (e.length ≤ 9) && e.all aJ) && ofV [43,46,126] r && jh u && ofV [43,46,126,45,58] u with
   | true=>rfl
   | false=>rw [hc] at hb; cases hb
 cases u with
 | nil =>
  simp only [go_sem,simprocAttr,h2,h3,h4,hst]
  refine aB.fnG (fun h=>by simp at h) (r:=.bool false) ?_
  simp only [go_sem,simprocAttr,h2,h3,h4,hst]
  refine aB.fnG (fun h=>by simp at h) (r:=.bool false) ?_
  simp only [go_sem,simprocAttr,h2,h3,h4,hst]
  exact none_end ((fin true (by simp [jh])).1 rfl)
 | cons c u' =>
  simp only [go_sem,simprocAttr,h2,h3,h4,hst]
  refine aB.fnG (fun _=>nI c) ?_
  simp only [go_sem,simprocAttr,h2,h3,h4,hst]
  refine aB.fnG (fun _=>JF [43,46,126,45,58] (c :: u') (by decide)) ?_
  simp only [go_sem,simprocAttr,h2,h3,h4,hst]
  refine ⟨fun h=>none_end ((fin _ ?_).1 h),fun h=>?_⟩
  ·simp only [jh]
   cases (decide (1 ≤ e.length) && decide (e.length ≤ 9) && e.all aJ) <;> cases ofV [43,46,126] r <;> cases aJ c <;> cases ofV [43,46,126,45,58] (c :: u') <;> rfl
  ·rw [(fin _ (by
    simp only [jh]
    cases (decide (1 ≤ e.length) && decide (e.length ≤ 9) && e.all aJ) <;> cases ofV [43,46,126] r <;> cases aJ c <;> cases ofV [43,46,126,45,58] (c :: u') <;> rfl)).2 h]
   exact .refl _
end Go.Proofs.Tryz
end
section
namespace Go.Proofs.Tryz
open Go Go.Av
set_option maxRecDepth 10000
variable {W0 : World}

def oe (a b : List UInt8) : AV:=.tup [.int .i64 (bJ a b),.bool (bz a && bz b)]
theorem BT (a b : List UInt8) : aN 0 (oe a b):=by
 refine .tup fun x hx=>?_
 simp at hx
 rcases hx with rfl | rfl
 ·exact .int _ _
 ·exact .bool _

theorem mz (a b : List UInt8) : af prog W0 157 [.str a,.str b] (oe a b):=by
 refine ai [4,5] [] func157 rfl rfl ntmps157 rfl rfl (BT _ _) fun hs σ=>?_
 simp only [go_sem,simprocAttr]
 refine aj.fn (iQ a) ?_
 cases h : iM a with
 | none =>
  simp only [go_sem,simprocAttr,eQ]
  refine aj.fn (iQ b) ?_
  cases h' : iM b with
  | none=>simp only [go_sem,simprocAttr,eQ]; simp only [oe,bJ,bz,h,h']; exact .refl _
  | some v=>obtain ⟨f,v,t⟩:=v; simp only [go_sem,simprocAttr,eQ]; simp only [oe,bJ,bz,h,h']; exact .refl _
 | some v =>
  obtain ⟨e,u,r⟩:=v
  simp only [go_sem,simprocAttr,eQ]
  refine aj.fn (iQ b) ?_
  cases h' : iM b with
  | none=>simp only [go_sem,simprocAttr,eQ]; simp only [oe,bJ,bz,h,h']; exact .refl _
  | some v =>
   obtain ⟨f,v,t⟩:=v
   simp only [go_sem,simprocAttr,eQ]
   refine aj.fn (uP e f) ?_
   simp only [go_sem,simprocAttr]
   refine aj.fn (uP u v) ?_
   simp only [go_sem,simprocAttr]
   refine aj.fn (uP r t) ?_
   simp only [go_sem,simprocAttr]
   refine ⟨by decide,aj.fn ((Ff [br e f,br u v,br r t]).cK (.cons (.lit _ _) .nil)) ?_⟩
   simp only [go_sem,simprocAttr]
   have : orL [br e f,br u v,br r t] = bJ a b:=by
    simp only [bJ,h,h',orL]
    by_cases h1 : br e f = 0
    ·by_cases h2 : br u v = 0
     ·by_cases h3 : br r t = 0
      ·simp [h1,h2,h3]
      ·simp [h1,h2,h3]
     ·simp [h1,h2]
    ·simp [h1]
   rw [this,oe]
   simp only [bz,h,h']
   exact .refl _

theorem np (a b : List UInt8) : af prog W0 103 [.str a,.str b] (.bool (bt a b)):=by
 refine ai [4] [] func103 rfl rfl ntmps103 rfl rfl (.bool _) fun hs σ=>?_
 simp only [go_sem,simprocAttr]
 refine aj.fn (mz a b) ?_
 simp only [go_sem,simprocAttr,oe]
 exact al (by rw [bt])

theorem wB (rel : Int) (a b : List UInt8) : af prog W0 181 [.int .i64 rel,.str a,.str b] (.bool (j2 rel a b)):=by
 refine ai [6] [] func181 rfl rfl ntmps181 rfl rfl (.bool _) fun hs σ=>?_
 simp only [go_sem,simprocAttr]
 refine ⟨fun h0=>aj.fn (iQ a) ?_,fun h0=>aj.fn (mz a b) ?_⟩
 ·cases h : iM a with
  | none=>simp only [go_sem,simprocAttr,eQ]; exact al (by rw [j2,if_pos h0,bz,h]; rfl)
  | some v=>obtain ⟨e,u,r⟩:=v; simp only [go_sem,simprocAttr,eQ]; exact al (by rw [j2,if_pos h0,bz,h]; rfl)
 simp only [go_sem,simprocAttr,oe]
 refine ⟨fun hb=>al (by rw [j2,if_neg h0,hb]; rfl),fun hb=>?_⟩
 have hh : j2 rel a b = (if rel = 1 then decide (bJ a b < 0) else if rel = 2 then decide (bJ a b ≤ 0) else if rel = 3 then bJ a b == 0
   else if rel = 4 then decide (0 ≤ bJ a b) else if rel = 5 then decide (0 < bJ a b) else false):=by rw [j2,if_neg h0,if_pos hb]
 refine ⟨fun h1=>al (by rw [hh,if_pos h1]),fun h1=>⟨fun h2=>al (by rw [hh,if_neg h1,if_pos h2]),fun h2=>⟨fun h3=>al (by rw [hh,if_neg h1,if_neg h2,if_pos h3]),fun h3=>⟨fun h4=>al (by rw [hh,if_neg h1,if_neg h2,if_neg h3,if_pos h4]),fun h4=>⟨fun h5=>al (by rw [hh,if_neg h1,if_neg h2,if_neg h3,if_neg h4,if_pos h5]),fun h5=>al (by rw [hh,if_neg h1,if_neg h2,if_neg h3,if_neg h4,if_neg h5])⟩⟩⟩⟩⟩

theorem u9 (s : List UInt8) : af prog W0 143 [.str s] (.bool (dH s)):=by
 refine ai [2] [] func143 rfl rfl ntmps143 rfl rfl (.bool _) fun hs σ=>?_
 have hsl : s.length ≤ maxLen:=gg (hs _ (by simp))
 simp only [go_sem,simprocAttr]
 refine ⟨fun h=>al ?_,fun h=>?_⟩
 ·have : (decide (2 ≤ s.length) && decide (s.length ≤ 24)) = false:=by
   simp only [Bool.or_eq_true,decide_eq_true_eq] at h
   simp only [Bool.and_eq_false_iff,decide_eq_false_iff_not]
   omega
  rw [dH,this]; rfl
 have hlen : (decide (2 ≤ s.length) && decide (s.length ≤ 24)) = true:=by
  simp only [Bool.or_eq_false_iff,decide_eq_false_iff_not] at h
  simp only [Bool.and_eq_true,decide_eq_true_eq]
  omega
 refine ah.cF [15] (.of (by kernel_rfl)) (fun k A=>∃ pos,A.st = σ ++ [some (.iter s pos)] ∧ k = s.length - pos ∧ pos ≤ s.length ∧ ∀ j c,j < pos → s[j]? = some c → mD j c = true) s.length ⟨0,?_⟩ fun k B ⟨pos,hst,hk,hp,hI⟩=>?_
 ·simp only [go_sem,simprocAttr]
  simp
 simp only [go_sem,simprocAttr,hst]
 refine ⟨fun hlt=>?_,fun hge=>?_⟩
 ·obtain ⟨c,hc⟩:=get_some hlt
  have bad : mD pos c = false → dH s = false:=fun hd=>by
   rw [dH,sI hc hd,Bool.and_false]
  rcases Nat.lt_or_ge c.toNat 128 with h8 | h8
  ·rw [kR hc h8]
   simp only [go_sem,simprocAttr]
   refine ⟨fun hb=>al ?_,fun hb=>.here (s.length - (pos + 1)) (by omega) ⟨pos + 1,?_⟩⟩
   ·refine (bad ?_).symm
    revert hb
    simp only [mD,j8,aJ]
    simp
    omega
   ·simp only [go_sem,simprocAttr,hst]
    refine ⟨by omega,fun j d hj hd=>?_⟩
    rcases Nat.lt_succ_iff_lt_or_eq.1 hj with hj | rfl
    ·exact hI j d hj hd
    ·have e : d = c:=by rw [hd] at hc; exact Option.some.inj hc
     subst e
     revert hb
     simp only [mD,j8,aJ]
     simp
     omega
  ·have:=oM hc h8
   refine ⟨fun hb=>al (bad ?_).symm,fun hb=>?_⟩
   ·simp only [mD,j8,aJ]
    simp
    omega
   ·simp at hb
    omega
 ·have : pos = s.length:=by omega
  have : jr mD 0 s = true:=kY.2 fun j c hj=>by rw [Nat.zero_add]; exact hI j c (by have:=(List.getElem?_eq_some_iff.1 hj).1; omega) hj
  exact al (by rw [dH,this,hlen]; rfl)

theorem rI (a : Atom) : af prog W0 180 [bs a] (.bool (cX a)):=by
 refine ai [2] [1] func180 rfl rfl ntmps180 rfl rfl (.bool _) fun hs σ=>?_
 simp only [go_sem,simprocAttr,bs]
 refine aj.fn (u9 a.name) ?_
 simp only [go_sem,simprocAttr,bs]
 have low : (!dH a.name || decide (a.rel < 0) || decide (5 < a.rel)) = true → cX a = false:=fun h=>by
  unfold cX
  cases hn : dH a.name with
  | false=>rfl
  | true =>
   rw [hn] at h
   simp only [Bool.not_true,Bool.false_or,Bool.or_eq_true,decide_eq_true_eq] at h
   rw [if_neg (by omega)]
   have : (decide (1 ≤ a.rel) && decide (a.rel ≤ 5)) = false:=by
    simp only [Bool.and_eq_false_iff,decide_eq_false_iff_not]; omega
   rw [this]; rfl
 have high : (!dH a.name || decide (a.rel < 0) || decide (5 < a.rel)) = false → cX a = if a.rel = 0 then a.ver == [] else bz a.ver:=fun h=>by
  simp only [Bool.or_eq_false_iff,Bool.not_eq_false',decide_eq_false_iff_not] at h
  rw [cX,h.1.1,Bool.true_and]
  split
  ·rfl
  ·have h1 : decide (1 ≤ a.rel) = true:=decide_eq_true (by omega)
   have h2 : decide (a.rel ≤ 5) = true:=decide_eq_true (by omega)
   rw [h1,h2]; rfl
 refine ⟨fun h=>al (low h).symm,fun h=>⟨fun h0=>al (by rw [high h,if_pos h0]),fun h0=>aj.fn (iQ a.ver) ?_⟩⟩
 have hm:=high h
 rw [if_neg h0] at hm
 cases h : iM a.ver with
 | none=>simp only [go_sem,simprocAttr,eQ]; exact al (by rw [hm,bz,h]; rfl)
 | some v=>obtain ⟨e,u,r⟩:=v; simp only [go_sem,simprocAttr,eQ]; exact al (by rw [hm,bz,h]; rfl)
end Go.Proofs.Tryz
end
section
namespace Go.Av

structure aX (σ st : ab) (v : AV) (e : TypeId) (xs : List AV) : Prop where
 bld : Bld st v e xs
 ext : Ext σ st
 tok : ∀ t,ef v = some t → σ.length ≤ t

theorem aX.nil {σ st : ab} (h : Ext σ st) (e : TypeId) : aX σ st .au e []:=⟨.inl ⟨rfl,rfl⟩,h,fun t h=>by cases h⟩

theorem aX.app {σ st st' : ab} {v v' : AV} {e : TypeId} {xs zs : List AV} (h : aX σ st v e xs) (ha : App st v e zs v' st') : aX σ st' v' e zs:=by
 have hl:=h.ext.le
 refine ⟨ha.bld,?_,fun t ht=>?_⟩
 ·have hl':=ha.len
  refine List.ext_getElem? fun i=>?_
  rw [List.getElem?_take]
  by_cases hi : i < σ.length
  ·rw [if_pos hi,ha.old i (by omega) (fun e=>by have:=h.tok i e; omega)]
   have e:=congrArg (·[i]?) h.ext
   simpa [List.getElem?_take,hi] using e
  ·rw [if_neg hi,List.getElem?_eq_none (by omega)]
 ·rcases ha.tok with e | ⟨u,e,hu⟩
  ·exact h.tok t (by rw [← e]; exact ht)
  ·rw [e] at ht; cases ht; omega

theorem aX.more {σ st : ab} {v : AV} {e : TypeId} {xs : List AV} (h : aX σ st v e xs) (l : ab) : aX σ (st ++ l) v e xs:=by
 refine ⟨?_,h.ext.app l,h.tok⟩
 rcases h.bld with h1 | h1 | ⟨t,h1,h2⟩
 ·exact .inl h1
 ·exact .inr (.inl h1)
 ·exact .inr (.inr ⟨t,h1,by rw [List.getElem?_append_left ((List.getElem?_eq_some_iff.1 h2).1)]; exact h2⟩)

theorem aX.cK {σ st : ab} {v : AV} {e : TypeId} {xs : List AV} (h : aX σ st v e xs) : cI v (.sl e xs):=by
 rcases h.bld with ⟨rfl,rfl⟩ | rfl | ⟨t,rfl,_⟩
 ·exact .au _
 ·exact .lit _ _
 ·exact .own _ _ _

theorem Ext.eq {σ st : ab} (h : Ext σ st) : st = σ ++ st.drop σ.length:=by
 have:=List.take_append_drop σ.length st
 rw [h] at this
 exact this.symm
theorem Ext.trans {σ st st' : ab} (h : Ext σ st) (h' : Ext st st') : Ext σ st':=by
 rw [h'.eq]; exact h.app _
theorem aX.on {σ st st' : ab} {v : AV} {e : TypeId} {xs : List AV} (h : aX σ st v e xs) (h' : Ext st st') : aX σ st' v e xs:=by
 rw [h'.eq]; exact h.more _
theorem aX.len {σ st : ab} {v : AV} {e : TypeId} {xs : List AV} (h : aX σ st v e xs) : oL v = .int .i64 xs.length:=by
 rcases h.bld with ⟨rfl,rfl⟩ | rfl | ⟨t,rfl,_⟩ <;> rfl
theorem aX.gT {σ st : ab} {v : AV} {e : TypeId} {xs : List AV} (h : aX σ st v e xs) (P : Program) (t : TypeId) : gT P t v = ((elT P t).isSome = true):=by
 rcases h.bld with ⟨rfl,rfl⟩ | rfl | ⟨t,rfl,_⟩ <;> rfl
theorem aX.notM {σ st : ab} {v : AV} {e : TypeId} {xs : List AV} (h : aX σ st v e xs) : cD v:=by
 rcases h.bld with ⟨rfl,rfl⟩ | rfl | ⟨t,rfl,_⟩ <;> trivial
theorem aX.ok {σ st : ab} {v : AV} {e : TypeId} {xs : List AV} (h : aX σ st v e xs) (g : Option Bool) : okM g v = True:=bP h.notM
theorem aX.un {σ st : ab} {v : AV} {e : TypeId} {xs : List AV} (h : aX σ st v e xs) : unm v = v:=cp h.notM
attribute [go_sem] List.range'_succ List.range'_zero

theorem Sub.Rl {α : Type} {f g : α → AV} {e : TypeId} (l : List α) (h : ∀ a ∈ l,Sub (f a) (g a)) : Sub (.sl e (l.map f)) (.sl e (l.map g)):=by
 refine .sls (by simp) fun i x y hx hy=>?_
 rw [List.getElem?_map,Option.map_eq_some_iff] at hx hy
 obtain ⟨a,ha,rfl⟩:=hx
 obtain ⟨b,hb,rfl⟩:=hy
 rw [ha] at hb
 cases hb
 exact h a (List.mem_of_getElem? ha)

theorem dB.sl (st : ab) (e : TypeId) (ys : List AV) : dB st (.sl e ys) e ys:=.inl rfl
theorem dB.lit (st : ab) (e : TypeId) (ys : List AV) : dB st (.lit e ys) e ys:=.inl rfl

theorem ah.ats {P : Program} {W0 : World} {n : Nat} {fz : List Nat} {A : aa} {c : Code} {id : Nat} {Q : Exit → aa → Prop} (ks : List Nat) (hks : Kept fz c .mk ks) (R : aa → Prop) (h : ah P W0 n fz c .mk (dh id (bS R Q)) .mk A) (hR : ∀ B,R B → Q .normal (ez ks A B)) : ah P W0 n fz c .mk (dh id Q) .mk A:=by
 have e : dh id (bS (Q .normal) Q) = dh id Q:=by
  funext e A
  cases e <;> rfl
 rw [← e]
 exact .at ks hks R h hR

def ee (l : List Clause) : Int :=
 if 12 < l.length ∨ l.any (fun c=>decide (6 < c.length)) = true then 12 else if l.any (fun c=>decide (c.length = 0) || c.any fun a=>!cX a) = true then 3 else 0
def single (l : List Atom) : List Clause:=l.map fun a=>[a]
def df (p : ij) : Atom:=⟨p.name,if p.ver = [] then 0 else 3,p.ver⟩
def bn (p : Pkg) : Int:=if (!dH p.name || !bz p.ver) = true then 3 else orL [ee p.pre,ee p.dep,ee p.rcm,ee (single p.con),ee (single p.brk),ee (single (p.gr.map df))]

def fw : List Pkg → List (List UInt8) → List (List UInt8)
 | [],acc=>acc
 | p :: r,acc=>fw r (if acc.any (fun x=>p.name == x) then acc else acc ++ [p.name])
def e8 (p q : Pkg) : Bool:=q.name == p.name && bt q.ver p.ver
def rW : List Pkg → List Pkg → Bool
 | _,[]=>false
 | bef,p :: r=>bef.any (e8 p) || rW (bef ++ [p]) r
def bO (l : List Pkg) : Int :=
 if 24 < l.length then 12 else if orL (l.map bn) ≠ 0 then orL (l.map bn) else if rW [] l = true then 4 else if 10 < (fw l []).length then 12 else 0

end Go.Av
end
section
namespace Go.Proofs.Tryz
open Go Go.Av
set_option maxRecDepth 10000
variable {W0 : World}

def l6 (a : Atom) : AV:=.lit 81 [bs a]
theorem cD.atom (a : Atom) : cD (bs a):=trivial
theorem cD.atoms (l : List Atom) : cD (aH l):=trivial
@[go_sem] theorem Jm (g : Option Bool) (l : List Atom) : okM g (aH l) = True:=eq_true trivial
@[go_sem] theorem Jb (l : List Atom) : unm (aH l) = aH l:=rfl
@[go_sem] theorem F6 (P : Program) (t : TypeId) (l : List Atom) : bf P t (aH l) = cb P t:=rfl
@[go_sem] theorem Fz (g : Option Bool) (l : List Clause) : okM g (aC l) = True:=eq_true trivial
@[go_sem] theorem FL (l : List Clause) : unm (aC l) = aC l:=rfl
@[go_sem] theorem CG (P : Program) (t : TypeId) (l : List Clause) : bf P t (aC l) = cb P t:=rfl
@[go_sem] theorem IQ (g : Option Bool) (l : List ij) : okM g (dd l) = True:=eq_true trivial
@[go_sem] theorem Js (l : List ij) : unm (dd l) = dd l:=rfl
@[go_sem] theorem F8 (P : Program) (t : TypeId) (l : List ij) : bf P t (dd l) = cb P t:=rfl
@[go_sem] theorem Kr (g : Option Bool) (l : List Pkg) : okM g (bK l) = True:=eq_true trivial
@[go_sem] theorem LU (l : List Pkg) : unm (bK l) = bK l:=rfl
@[go_sem] theorem Ia (P : Program) (t : TypeId) (l : List Pkg) : bf P t (bK l) = cb P t:=rfl
theorem lz (l : List Atom) : Sub (.sl 72 (l.map l6)) (aC (single l)):=by
 rw [aC,single,List.map_map]
 exact .Rl l fun a _=>.lit _ _

theorem jj {α : Type} {f : α → AV} {e : TypeId} (h : ∀ a,aN 0 (f a)) (l : List α) : aN 0 (.sl e (l.map f)):=.sl fun x hx=>by
 obtain ⟨a,_,rfl⟩:=List.mem_map.1 hx
 exact h a
theorem qL (a : Atom) : aN 0 (bs a):=.agg fun x hx=>by
 simp at hx
 rcases hx with rfl | rfl | rfl
 ·exact .str _
 ·exact .int _ _
 ·exact .str _
theorem oS (l : List Atom) : aN 0 (aH l):=jj qL l
theorem dC (l : List Clause) : aN 0 (aC l):=jj oS l
theorem ya (a : ij) : aN 0 (dL a):=.agg fun x hx=>by
 simp at hx
 rcases hx with rfl | rfl <;> exact .str _
theorem BI (l : List ij) : aN 0 (dd l):=jj ya l
theorem qp (p : Pkg) : aN 0 (ax p):=.agg fun x hx=>by
 simp at hx
 rcases hx with rfl | rfl | rfl | rfl | rfl | rfl | rfl | rfl | rfl
 ·exact .str _
 ·exact .str _
 ·exact dC _
 ·exact dC _
 ·exact dC _
 ·exact oS _
 ·exact oS _
 ·exact BI _
 ·exact .bool _
theorem oA (l : List Pkg) : aN 0 (bK l):=jj qp l

theorem ra (l : List Atom) (hl : l.length ≤ 1048576) : af prog W0 144 [aH l] (aC (single l)):=by
 refine ai [2] [5] func144 rfl rfl ntmps144 rfl rfl (dC _) fun hs σ=>?_
 simp only [go_sem,simprocAttr,aH]
 refine ah.at [6,7] (.of (by kernel_rfl)) (fun A=>∃ v,A.env 3 = v ∧ aX σ A.st v 72 (l.map l6)) ?_ fun B ⟨v,h3,hb⟩=>?_
 ·refine ah.upto [6,7] (.of (by kernel_rfl)) l.length (fun i A=>∃ v,A.env 3 = v ∧ A.env 8 = .int .i64 i ∧ aX σ A.st v 72 ((l.take i).map l6)) 0 (Nat.zero_le _) ?_ fun i B hi ⟨v,h3,h8,hb⟩=>?_
  ·simp only [go_sem,simprocAttr]
   exact ⟨_,rfl,aX.nil (.refl _) _⟩
  simp only [go_sem,simprocAttr,h3,h8,hb.ok,hb.un,List.length_map]
  refine ⟨fun hc=>⟨hc,?_⟩,fun hc=>?_⟩
  ·obtain ⟨a,ha⟩:=get_some hc
   simp only [ay ha]
   simp only [go_sem,simprocAttr,bs,h3,h8,hb.ok,hb.un]
   refine cy.own 1048576 (by kernel_rfl) (hb.more _).bld (.lit _ _ _) (by simp; omega) fun v' σ' ha'=>?_
   have hb':=(hb.more _).app ha'
   simp only [go_sem,simprocAttr,h3,h8,hb.ok,hb.un,hb'.ok,hb'.un]
   refine ⟨hc,_,rfl,aq hc (by rw [av]; omega),?_⟩
   rw [ak ha,List.map_append]
   exact hb'
  ·rw [List.take_of_length_le hc] at hb
   exact ⟨_,rfl,hb⟩
 simp only [go_sem,simprocAttr,h3,hb.ok,hb.un]
 exact ⟨hb.cK.trans (.sub (lz l)),hb.ext⟩
theorem yn (l : List ij) (hl : l.length ≤ 1048576) : af prog W0 145 [dd l] (aC (single (l.map df))):=by
 refine ai [2] [5] func145 rfl rfl ntmps145 rfl rfl (dC _) fun hs σ=>?_
 simp only [go_sem,simprocAttr,dd]
 refine ah.at [7,8] (.of (by kernel_rfl)) (fun A=>∃ v,A.env 3 = v ∧ aX σ A.st v 72 (l.map fun p=>l6 (df p))) ?_ fun B ⟨v,h3,hb⟩=>?_
 ·refine ah.upto [7,8] (.of (by kernel_rfl)) l.length (fun i A=>∃ v,A.env 3 = v ∧ A.env 9 = .int .i64 i ∧ aX σ A.st v 72 ((l.take i).map fun p=>l6 (df p))) 0 (Nat.zero_le _) ?_ fun i B hi ⟨v,h3,h8,hb⟩=>?_
  ·simp only [go_sem,simprocAttr]
   exact ⟨_,rfl,aX.nil (.refl _) _⟩
  simp only [go_sem,simprocAttr,h3,h8,hb.ok,hb.un,List.length_map]
  refine ⟨fun hc=>⟨hc,?_⟩,fun hc=>?_⟩
  ·obtain ⟨a,ha⟩:=get_some hc
   simp only [ay ha]
   simp only [go_sem,simprocAttr,dL,h3,h8,hb.ok,hb.un]
   refine cU.at [3,6,7,8,9] (by kernel_rfl) (fun A=>A.st = B.st ++ [none,some (.cells 81 [bs (df a)])]) (fun h=>?_) (fun h=>?_) fun A hst=>?_
   ·simp only [go_sem,simprocAttr,bs,df]
    simp only [Bool.not_eq_true',beq_eq_false_iff_ne] at h
    rw [if_neg h]
   ·simp only [go_sem,simprocAttr,bs,df]
    simp only [Bool.not_eq_false',beq_iff_eq] at h
    rw [if_pos h]
   have hb2 : aX σ A.st v 72 ((l.take i).map fun p=>l6 (df p)):=by rw [hst]; exact hb.more _
   simp only [go_sem,simprocAttr,h3,h8,hst,hb.ok,hb.un,bs]
   refine cy.own 1048576 (by kernel_rfl) hb2.bld (.lit _ _ _) (by simp; omega) fun v' σ' ha'=>?_
   have hb':=hb2.app ha'
   simp only [go_sem,simprocAttr,h3,h8,hb.ok,hb.un,hb'.ok,hb'.un]
   refine ⟨hc,_,rfl,aq hc (by rw [av]; omega),?_⟩
   rw [ak ha,List.map_append]
   exact hb'
  ·rw [List.take_of_length_le hc] at hb
   exact ⟨_,rfl,hb⟩
 simp only [go_sem,simprocAttr,h3,hb.ok,hb.un]
 refine ⟨hb.cK.trans (.sub ?_),hb.ext⟩
 have:=lz (l.map df)
 rw [List.map_map] at this
 exact this
theorem wk {α : Type} (l : List α) (n : Nat) : (((n : Nat) : Int) < (l.length : Int)) ↔ n < l.length:=by omega
theorem HH (c : Clause) : af prog W0 202 [aH c] (.bool (decide (6 < c.length))):=by
 refine ai [2] [] func202 rfl rfl ntmps202 rfl rfl (.bool _) fun hs σ=>?_
 simp only [go_sem,simprocAttr,aH,List.length_map]
 exact al (decide_eq_decide.2 (wk c 6))
theorem D5 (a : Atom) : af prog W0 204 [bs a] (.bool (!cX a)):=by
 refine ai [2] [1] func204 rfl rfl ntmps204 rfl rfl (.bool _) fun hs σ=>?_
 simp only [go_sem,simprocAttr,bs]
 refine aj.fn (rI a) ?_
 simp only [go_sem,simprocAttr]
 done

theorem DO (l : List Clause) : af prog W0 146 [aC l] (.int .i64 (ee l)):=by
 refine ai [2] [] func146 rfl rfl ntmps146 rfl rfl (.int _ _) fun hs σ=>?_
 have hl:=(bu (hs _ (List.mem_cons_self ..))).1
 simp only [go_sem,simprocAttr,aC,List.length_map]
 refine aB.fnG (fun _=>Dm aH cD.atoms l (fun c=>decide (6 < c.length)) _ [] (fun a _=>HH a)) ?_
 simp only [go_sem,simprocAttr]
 have e : (decide ((12 : Int) < l.length) || l.any fun c=>decide (6 < c.length)) = decide (12 < l.length ∨ (l.any fun c=>decide (6 < c.length)) = true):=by
  rw [Bool.decide_or,Bool.decide_eq_true]; congr 1; exact decide_eq_decide.2 (wk l 12)
 rw [e]
 refine ⟨fun h=>aD (by rw [ee,if_pos (of_decide_eq_true h)]),fun h=>?_⟩
 have hm : ee l = if l.any (fun c=>decide (c.length = 0) || c.any fun a=>!cX a) = true then 3 else 0:=by rw [ee,if_neg (of_decide_eq_false h)]
 refine ah.upto [12,13] (.of (by kernel_rfl)) l.length (fun i A=>A.env 14 = .int .i64 i ∧ A.st = σ ∧ ∀ c ∈ l.take i,(decide (c.length = 0) || c.any fun a=>!cX a) = false) 0 (Nat.zero_le _) ?_ fun i B hi ⟨h8,hst,hI⟩=>?_
 ·simp only [go_sem,simprocAttr]
  simp
 simp only [go_sem,simprocAttr,h8,hst,List.length_map]
 refine ⟨fun hc=>⟨hc,?_⟩,fun hc=>?_⟩
 ·obtain ⟨a,ha⟩:=get_some hc
  simp only [ay ha]
  simp only [go_sem,simprocAttr,aH,h8,hst,List.length_map]
  refine aB.fnG (fun _=>HO bs cD.atom a (fun c=>!cX c) _ [] (fun a _=>D5 a)) ?_
  simp only [go_sem,simprocAttr,h8,hst]
  have e : ((a.length : Int) == 0) = decide (a.length = 0):=by rw [Bool.eq_iff_iff]; simp
  simp only [e]
  refine ⟨fun hb=>aD ?_,fun hb=>⟨hc,aq hc hl,?_⟩⟩
  ·rw [hm,if_pos (any_true ha hb)]
  ·rw [ak ha]
   intro c hcm
   rcases List.mem_append.1 hcm with hcm | hcm
   ·exact hI c hcm
   ·rw [List.mem_singleton.1 hcm]; exact hb
 ·refine aD ?_
  rw [List.take_of_length_le hc] at hI
  rw [hm,if_neg]
  intro h
  obtain ⟨c,hc1,hc2⟩:=List.any_eq_true.1 h
  rw [hI c hc1] at hc2
  cases hc2
end Go.Proofs.Tryz
end
section
namespace Go.Proofs.Tryz
open Go Go.Av
set_option maxRecDepth 10000
variable {W0 : World}

structure oK (p : Pkg) : Prop where
 con : p.con.length ≤ 1048576
 brk : p.brk.length ≤ 1048576
 gr : p.gr.length ≤ 1048576

theorem CN (p : Pkg) (hp : oK p) : af prog W0 80 [ax p] (.int .i64 (bn p)):=by
 refine ai [2] [1] func80 rfl rfl ntmps80 rfl rfl (.int _ _) fun hs σ=>?_
 simp only [go_sem,simprocAttr,ax]
 refine aj.fn (iQ p.ver) ?_
 have hpv : ∃ e u r,eQ (iM p.ver) = .tup [.str e,.str u,.str r,.int .i64 (if bz p.ver then 0 else 3)]:=by
  cases h : iM p.ver with
  | none=>exact ⟨_,_,_,by rw [bz,h]; rfl⟩
  | some v=>exact ⟨_,_,_,by rw [bz,h]; rfl⟩
 obtain ⟨e,u,r,hpv⟩:=hpv
 rw [hpv]
 simp only [go_sem,simprocAttr,ax]
 refine aj.fn (u9 p.name) ?_
 simp only [go_sem,simprocAttr,ax]
 have hb : (!dH p.name || (if bz p.ver = true then (0 : Int) else 3) != 0) = (!dH p.name || !bz p.ver):=by cases bz p.ver <;> rfl
 simp only [hb]
 refine ⟨fun h=>aD (by rw [bn,if_pos h]),fun h=>?_⟩
 have hm : bn p = orL [ee p.pre,ee p.dep,ee p.rcm,ee (single p.con),ee (single p.brk),ee (single (p.gr.map df))]:=by rw [bn,if_neg (by rw [h]; simp)]
 refine ⟨.of (by kernel_rfl),aB.fn (ra p.con hp.con) ?_⟩
 simp only [go_sem,simprocAttr]
 refine aB.fn (ra p.brk hp.brk) ?_
 simp only [go_sem,simprocAttr]
 refine aB.fn (yn p.gr hp.gr) ?_
 simp only [go_sem,simprocAttr]
 let ls:=[p.pre,p.dep,p.rcm,single p.con,single p.brk,single (p.gr.map df)]
 have hl : orL (ls.map ee) = bn p:=by
  rw [hm]
  simp only [ls,List.map_cons,List.map_nil]
 have e : [aC p.pre,aC p.dep,aC p.rcm,aC (single p.con),aC (single p.brk),aC (single (p.gr.map df))] = ls.map aC:=rfl
 simp only [e]
 refine ah.upto [41,42] (.of (by kernel_rfl)) 6 (fun i A=>A.env 43 = .int .i64 i ∧ A.st = σ ∧ orL ((ls.map ee).drop i) = bn p) 0 (Nat.zero_le _) ?_ fun i B hi ⟨h8,hst,hI⟩=>?_
 ·simp only [go_sem,simprocAttr]
  exact hl
 simp only [go_sem,simprocAttr,h8,hst]
 refine ⟨fun hc=>?_,fun hc=>aD ?_⟩
 ·have hc' : i < ls.length:=by show i < 6; omega
  obtain ⟨c,hcc⟩:=get_some hc'
  obtain ⟨hlt,hae⟩:=List.getElem?_eq_some_iff.1 hcc
  rw [List.drop_eq_getElem_cons (by simpa using hc'),List.getElem_map,hae] at hI
  simp only [ay hcc]
  refine ⟨by simpa using hc',trivial,aj.fn (DO c) ?_⟩
  simp only [go_sem,simprocAttr,h8,hst]
  refine ⟨fun hq=>aD (by rw [← hI,orL,if_pos hq]),fun hq=>⟨by omega,aq (show i < 6 by omega) (by rw [av]; omega),?_⟩⟩
  rw [← hI,orL,if_neg (by simpa using hq)]
 ·rw [List.drop_eq_nil_of_le (by show 6 ≤ i; omega)] at hI
  exact hI

theorem HF (p q : Pkg) : af prog W0 149 [ax q,.loc 54 (ax p)] (.bool (e8 p q)):=by
 refine ai [3] [2] func149 rfl rfl ntmps149 rfl rfl (.bool _) fun hs σ=>?_
 simp only [go_sem,simprocAttr,ax]
 refine aB.fnG (fun _=>np q.ver p.ver) ?_
 simp only [go_sem,simprocAttr]
 exact al rfl

theorem cD.pkg (p : Pkg) : cD (ax p):=trivial
@[go_sem] theorem OE (g : Option Bool) (p : Pkg) : okM g (ax p) = True:=eq_true trivial
@[go_sem] theorem Pl (p : Pkg) : unm (ax p) = ax p:=rfl

theorem ud (l : List Pkg) (hp : ∀ p ∈ l,oK p) : af prog W0 90 [bK l] (.int .i64 (bO l)):=by
 refine ai [2] [4,8] func90 rfl rfl ntmps90 rfl rfl (.int _ _) fun hs σ=>?_
 have hl:=(bu (hs _ (List.mem_cons_self ..))).1
 simp only [go_sem,simprocAttr,bK,List.length_map]
 refine ⟨fun h=>aD (by rw [bO,if_pos ((wk l 24).1 (by simpa using h))]),fun h=>?_⟩
 have h24 : ¬ 24 < l.length:=fun e=>by have:=(wk l 24).2 e; omega
 refine ah.at [0] (.of (by kernel_rfl)) (fun A=>Ext σ A.st ∧ orL (l.map bn) = 0) ?_ fun B ⟨hst,h6⟩=>?_
 ·refine ah.upto [0,12,13] (.of (by kernel_rfl)) l.length (fun i A=>A.env 14 = .int .i64 i ∧ Ext σ A.st ∧ orL ((l.map bn).drop i) = orL (l.map bn)) 0 (Nat.zero_le _) ?_ fun i B hi ⟨h8,hst,hI⟩=>?_
  ·simp only [go_sem,simprocAttr]
   simp [Ext.refl]
  simp only [go_sem,simprocAttr,h8,List.length_map]
  refine ⟨fun hc=>⟨hc,?_⟩,fun hc=>?_⟩
  ·obtain ⟨a,ha⟩:=get_some hc
   obtain ⟨hlt,hae⟩:=List.getElem?_eq_some_iff.1 ha
   rw [List.drop_eq_getElem_cons (by simpa using hc),List.getElem_map,hae] at hI
   simp only [ay ha]
   simp only [go_sem,simprocAttr,h8,List.length_map]
   refine ⟨by kernel_rfl,aj.fn (CN a (hp a (List.mem_of_getElem? ha))) ?_⟩
   simp only [go_sem,simprocAttr,h8]
   refine ⟨fun hq=>⟨aD ?_,hst.app _⟩,fun hq=>⟨hc,aq hc hl,hst.app _,?_⟩⟩
   ·rw [orL,if_pos hq] at hI
    rw [bO,if_neg h24,if_pos (by rw [← hI]; exact hq),hI]
   ·rw [← hI,orL,if_neg (by simpa using hq)]
  ·rw [List.drop_eq_nil_of_le (by simpa using hc)] at hI
   exact ⟨hst,hI.symm⟩
 have hm : bO l = if rW [] l = true then 4 else if 10 < (fw l []).length then 12 else 0:=by rw [bO,if_neg h24,if_neg (by simp [h6])]
 simp only [go_sem,simprocAttr,List.length_map]
 refine ah.at [0,24,25] (.of (by kernel_rfl)) (fun A=>∃ v,A.env 6 = v ∧ aX σ A.st v 9 ((fw l []).map .str) ∧ rW [] l = false) ?_ fun B ⟨v,h6,hb,hd⟩=>?_
 ·refine ah.upto [0,24,25] (.of (by kernel_rfl)) l.length (fun i A=>∃ v acc,A.env 6 = v ∧ A.env 26 = .int .i64 i ∧ aX σ A.st v 9 (acc.map .str) ∧ fw (l.drop i) acc = fw l [] ∧ rW (l.take i) (l.drop i) = rW [] l ∧ acc.length ≤ i) 0 (Nat.zero_le _) ?_ fun i B hi ⟨v,acc,h6,h8,hb,hn,hd,hal⟩=>?_
  ·simp only [go_sem,simprocAttr]
   exact ⟨_,[],rfl,aX.nil hst _,by simp⟩
  simp only [go_sem,simprocAttr,h6,h8,hb.ok,hb.un,List.length_map]
  refine ⟨fun hc=>⟨hc,?_⟩,fun hc=>?_⟩
  ·obtain ⟨a,ha⟩:=get_some hc
   obtain ⟨hlt,hae⟩:=List.getElem?_eq_some_iff.1 ha
   rw [List.drop_eq_getElem_cons hc,hae] at hn hd
   simp only [ay ha]
   simp only [go_sem,simprocAttr,h6,h8,hb.ok,hb.un,List.length_map]
   rw [← List.map_take]
   refine ⟨by kernel_rfl,⟨Nat.zero_le _,hi⟩,aj.fn (Ja ax cD.pkg (l.take i) (e8 a) _ [.loc 54 (ax a)] (fun q _=>HF a q)) ?_⟩
   simp only [go_sem,simprocAttr,ax,h6,h8,hb.ok,hb.un]
   rw [rW] at hd
   refine ⟨fun hq=>⟨aD ?_,hb.ext.app _⟩,fun hq=>aj.fn ((LA acc a.name).cK (.cons hb.cK (.cons (.refl _) .nil))) ?_⟩
   ·rw [hm,← hd,hq,if_pos (by simp)]
   rw [hq,Bool.false_or,← ak ha] at hd
   simp only [go_sem,simprocAttr,ax,h6,h8,hb.ok,hb.un]
   rw [fw] at hn
   have hb2:=(hb.more [none])
   refine ⟨fun h=>?_,fun h=>⟨hc,v,acc,rfl,aq hc hl,hb2,?_,hd,by omega⟩⟩
   ·refine cy.own 1048576 (by kernel_rfl) hb2.bld (.lit _ _ _) (by simp; omega) fun v' σ' ha'=>?_
    have hb':=hb2.app ha'
    simp only [go_sem,simprocAttr,h6,h8,hb'.ok,hb'.un]
    refine ⟨hc,_,acc ++ [a.name],rfl,aq hc hl,by simpa using hb',?_,hd,by simp; omega⟩
    rw [if_neg (by simp [h])] at hn
    exact hn
   ·rw [if_pos h] at hn
    exact hn
  ·rw [List.drop_eq_nil_of_le hc] at hn hd
   exact ⟨_,rfl,by rw [← hn]; exact hb,hd.symm⟩
 simp only [go_sem,simprocAttr,h6,hb.ok,hb.un,hb.len,hb.gT,List.length_map]
 refine ⟨fun hq=>⟨aD ?_,hb.ext⟩,fun hq=>⟨aD ?_,hb.ext⟩⟩
 ·rw [hm,hd,if_neg (by simp),if_pos ((wk _ 10).1 hq)]
 ·rw [hm,hd,if_neg (by simp),if_neg (fun e=>hq ((wk _ 10).2 e))]
end Go.Proofs.Tryz
end
section
namespace Go.Av

def dY (p : Pkg) (a : Atom) : Bool :=
 cX a && ((p.name == a.name && j2 a.rel p.ver a.ver) || p.gr.any fun v=>v.name == a.name && (a.rel == 0 || j2 a.rel v.ver a.ver))
def nR (p q : Pkg) : Bool:=p.con.any (dY q) || p.brk.any (dY q)
def fb (p q : Pkg) : Bool:=p.name != q.name && (nR p q || nR q p)
def zG (c : Clause) (l : List Pkg) : Bool:=c.any fun a=>l.any fun p=>dY p a
def Du (l bef : List Pkg) (p : Pkg) : Bool:=bn p != 0 || bef.any (fun q=>q.name == p.name || fb p q) || (p.pre.any (fun c=>!zG c l) || p.dep.any (fun c=>!zG c l))
def wx (l : List Pkg) : List Pkg → List Pkg → Bool
 | _,[]=>false
 | bef,p :: r=>Du l bef p || wx l (bef ++ [p]) r
def iR (l : List Pkg) : Bool:=!wx l [] l

end Go.Av
end
section
namespace Go.Proofs.Tryz
open Go Go.Av
set_option maxRecDepth 10000
variable {W0 : World}

@[go_sem] theorem Lx (g : Option Bool) (p : Atom) : okM g (bs p) = True:=eq_true trivial
@[go_sem] theorem J3 (p : Atom) : unm (bs p) = bs p:=rfl
@[go_sem] theorem IJ (p : Atom) : bf prog 81 (bs p) = true:=by kernel_rfl
@[go_sem] theorem LN (p : Pkg) : bf prog 54 (ax p) = true:=by kernel_rfl
@[go_sem] theorem LC (g : Option Bool) (p : ij) : okM g (dL p) = True:=eq_true trivial
@[go_sem] theorem Kf (p : ij) : unm (dL p) = dL p:=rfl
theorem cD.gr (p : ij) : cD (dL p):=trivial

theorem GS (a : Atom) (v : ij) : af prog W0 183 [dL v,.loc 81 (bs a)] (.bool (v.name == a.name && (a.rel == 0 || j2 a.rel v.ver a.ver))):=by
 refine ai [3] [2] func183 rfl rfl ntmps183 rfl rfl (.bool _) fun hs σ=>?_
 simp only [go_sem,simprocAttr,dL,bs]
 refine aB.fnG (fun _=>wB a.rel v.ver a.ver) ?_
 simp only [go_sem,simprocAttr]

theorem EP (p : Pkg) (a : Atom) : af prog W0 133 [ax p,bs a] (.bool (dY p a)):=by
 refine ai [4] [2,3] func133 rfl rfl ntmps133 rfl rfl (.bool _) fun hs σ=>?_
 simp only [go_sem,simprocAttr,ax,bs]
 refine aj.fn (rI a) ?_
 simp only [go_sem,simprocAttr,ax,bs]
 refine ⟨fun h=>al (by rw [dY,h]; rfl),fun h=>aB.fnG (fun _=>wB a.rel p.ver a.ver) ?_⟩
 simp only [go_sem,simprocAttr,ax,bs]
 refine ⟨fun h2=>al (by rw [dY,h,h2]; rfl),fun h2=>aj.fn (Ka dL cD.gr p.gr _ _ [.loc 81 (bs a)] (fun q _=>GS a q)) ?_⟩
 simp only [go_sem,simprocAttr]
 exact al (by rw [dY,h,h2]; simp)

theorem pG (q : Pkg) (a : Atom) : af prog W0 192 [bs a,.loc 54 (ax q)] (.bool (dY q a)):=by
 refine ai [3] [2] func192 rfl rfl ntmps192 rfl rfl (.bool _) fun hs σ=>?_
 simp only [go_sem,simprocAttr]
 refine aj.fn (EP q a) ?_
 simp only [go_sem,simprocAttr]
 try exact al rfl

theorem qz (p q : Pkg) : af prog W0 136 [ax p,ax q] (.bool (nR p q)):=by
 refine ai [4] [2,3] func136 rfl rfl ntmps136 rfl rfl (.bool _) fun hs σ=>?_
 simp only [go_sem,simprocAttr,ax]
 refine aj.fn (Fy bs cD.atom p.con (dY q) _ [.loc 54 (ax q)] (fun a _=>pG q a)) ?_
 simp only [go_sem,simprocAttr,ax]
 refine aB.go (fun _=>Fy bs cD.atom p.brk (dY q) _ [.loc 54 (ax q)] (fun a _=>pG q a)) ?_
 simp only [go_sem,simprocAttr]
 try exact al rfl

theorem yj (p q : Pkg) : af prog W0 75 [ax p,ax q] (.bool (fb p q)):=by
 refine ai [4] [2,3] func75 rfl rfl ntmps75 rfl rfl (.bool _) fun hs σ=>?_
 simp only [go_sem,simprocAttr,ax]
 refine aB.fnG (fun _=>qz p q) ?_
 simp only [go_sem,simprocAttr]
 refine aB.fnG (fun _=>qz q p) ?_
 simp only [go_sem,simprocAttr]
 try exact al rfl

end Go.Proofs.Tryz
end
section
namespace Go.Av
section
variable {P : Program} {W0 : World} {A : aa}

def Jj : AV → Option Nat
 | .row _ id _ _=>some id
 | _=>none

structure ei (σ st : ab) (v : AV) (e : TypeId) (xs : List AV) : Prop where
 row : c7 st v e xs
 ext : Ext σ st
 low : ∀ id,Jj v = some id → σ.length ≤ id

theorem ei.nil {σ st : ab} (h : Ext σ st) (e : TypeId) : ei σ st .au e []:=⟨.inl ⟨rfl,rfl⟩,h,fun t h=>by cases h⟩
theorem ei.notM {σ st : ab} {v : AV} {e : TypeId} {xs : List AV} (h : ei σ st v e xs) : cD v:=by
 rcases h.row with ⟨rfl,rfl⟩ | rfl | ⟨_,_,_,_,rfl,_⟩ <;> trivial
theorem ei.ok {σ st : ab} {v : AV} {e : TypeId} {xs : List AV} (h : ei σ st v e xs) (g : Option Bool) : okM g v = True:=bP h.notM
theorem ei.un {σ st : ab} {v : AV} {e : TypeId} {xs : List AV} (h : ei σ st v e xs) : unm v = v:=cp h.notM
theorem c7.len {st : ab} {v : AV} {e : TypeId} {xs : List AV} (h : c7 st v e xs) : oL v = .int .i64 xs.length:=by
 rcases h with ⟨rfl,rfl⟩ | rfl | ⟨id,off,m,zs,rfl,_,h1,rfl⟩
 ·rfl
 ·rfl
 ·have : ((zs.drop off).take m).length = m:=by simp; omega
  rw [this]; rfl
theorem c7.gT {st : ab} {v : AV} {e : TypeId} {xs : List AV} (h : c7 st v e xs) (P : Program) (t : TypeId) : gT P t v = ((elT P t).isSome = true):=by
 rcases h with ⟨rfl,rfl⟩ | rfl | ⟨id,off,m,zs,rfl,_,h1,rfl⟩ <;> rfl
theorem c7.read {st : ab} {v : AV} {e : TypeId} {xs : List AV} (h : c7 st v e xs) : dB st v e xs:=by
 rcases h with h | rfl | h
 ·exact .inr (.inl h)
 ·exact .inl rfl
 ·exact .inr (.inr h)

theorem ei.more {σ st : ab} {v : AV} {e : TypeId} {xs : List AV} (h : ei σ st v e xs) (l : ab) : ei σ (st ++ l) v e xs:=by
 refine ⟨?_,h.ext.app l,h.low⟩
 rcases h.row with h1 | h1 | ⟨id,off,m,zs,h1,h2,h3⟩
 ·exact .inl h1
 ·exact .inr (.inl h1)
 ·exact .inr (.inr ⟨id,off,m,zs,h1,by rw [List.getElem?_append_left ((List.getElem?_eq_some_iff.1 h2).1)]; exact h2,h3⟩)

theorem ei.Ki {σ st : ab} {v : AV} {e : TypeId} {xs : List AV} (h : ei σ st v e xs) (l : ab) : Ext σ (bY v st ++ l):=by
 refine Ext.app ?_ l
 unfold bY
 split
 ·exact h.ext.set (h.low _ rfl) _
 ·exact h.ext

theorem cy.tn {σ : ab} {t u e : TypeId} {x y : AV} {xs ys : List AV} {dst : Option Nat} {k : aa → Prop} (N : Nat) (ho : uB P t u e N = true) (h : ei σ A.st x e xs) (hy : dB A.st y e ys) (hN : xs.length + ys.length ≤ N)
  (hk : ∀ v st',ei σ st' v e (xs ++ ys) → k ((A.put dst v).ag st')) : cy P [t,u] [x,y] dst A k .mk:=by
 refine cy.row N ho h.row hy hN (fun he=>hk _ _ (by rw [he,List.append_nil]; exact h)) fun he=>hk _ _ ⟨.inr (.inr ⟨A.st.length,0,_,xs ++ ys,rfl,?_,by simp,by rw [List.drop_zero,List.take_of_length_le (by simp)]⟩),h.Ki _,fun id hid=>?_⟩
 ·have : (bY x A.st).length = A.st.length:=by unfold bY; split <;> simp
  rw [← this,List.getElem?_append_right (Nat.le_refl _),Nat.sub_self]
  rfl
 ·cases hid
  exact h.ext.le

theorem ei.Rr {σ : ab} {v : AV} {e : TypeId} {xs : List AV} {d : Nat} {x : Exit} (h : ei σ A.st v e xs) (hx : x = .ret ∨ x = .normal) (hd : A.env d = v) : bR (fun A=>cI (gN A.env [d]) (.sl e xs) ∧ A.st.take σ.length = σ) x A:=by
 have fin : ∀ {B : aa},cI (gN B.env [d]) (.sl e xs) → B.st.take σ.length = σ → bR (fun A=>cI (gN A.env [d]) (.sl e xs) ∧ A.st.take σ.length = σ) x B:=fun h1 h2=>by
  rcases hx with rfl | rfl
  ·exact .ret ⟨h1,h2⟩
  ·exact .normal ⟨h1,h2⟩
 rcases h.row with ⟨rfl,rfl⟩ | rfl | ⟨id,off,m,zs,rfl,h1,h2,rfl⟩
 ·exact fin (by simp only [gN,hd]; exact .au _) h.ext
 ·exact fin (by simp only [gN,hd]; exact .lit _ _) h.ext
 ·refine bR.frz d hd h1 h2 (fin ?_ ?_)
  ·simp [gN,aa.upd,aa.ag]
   exact .refl _
  ·exact h.ext.set (h.low _ rfl) _
end
end Go.Av
end
section
namespace Go.Proofs.Tryz
open Go Go.Av
set_option maxRecDepth 10000
variable {W0 : World}

theorem H0 (σ : ab) (n : Nat) (hn : n ≤ 1048576) :
  aU prog W0 131 [.au,.int .i64 n] σ fun r σ'=>ei σ σ' r 72 []:=by
 refine cB [4] [] func131 rfl rfl ntmps131 rfl rfl fun hs=>?_
 simp only [go_sem,simprocAttr]
 refine cU.at [0,1] (by kernel_rfl) (fun A=>A.st = σ) (fun h=>absurd (of_decide_eq_true h) (by omega)) (fun _=>?_) fun B hst=>?_
 ·simp only [go_sem,simprocAttr]
 simp only [go_sem,simprocAttr,hst]
 have hw : IntKind.i64.wrap ((n : Int) - 0) = n:=by rw [Int.sub_zero,aF (by omega)]
 simp only [hw]
 refine cU.at [] (by kernel_rfl) (fun A=>ei σ A.st (A.env 0) 72 []) (fun h=>?_) (fun _=>?_) fun B hb=>?_
 ·simp only [go_sem,simprocAttr,hst]
  refine cy.zero (e:=72) 1048576 (by kernel_rfl) (kn:=.i64) (by kernel_rfl) (z:=.au) (by kernel_rfl) (by kernel_rfl) (by have:=of_decide_eq_true h; omega) hn ?_
  simp only [go_sem,simprocAttr,hst]
  exact ⟨Nat.zero_le _,.inr (.inr ⟨_,0,0,List.replicate n .au,rfl,by simp,by simp,rfl⟩),(Ext.refl _).app _,fun id h=>by cases h; exact Nat.le_refl _⟩
 ·simp only [go_sem,simprocAttr,hst]
  exact .nil (.refl _) _
 simp only [go_sem,simprocAttr,hb.ok,hb.un]
 refine bR.ret ?_
 simp only [go_sem,simprocAttr]
 exact ⟨_,.refl _,hb.ext.le,hb⟩

theorem lD {α : Type} {ls : List (List α)} {i : Nat} {l : List α} (h : ls[i]? = some l) : (ls.take (i + 1)).flatten = (ls.take i).flatten ++ l:=by
 rw [ak h,List.flatten_append]; simp

theorem ua (ls : List (List Clause)) (hls : ls.length ≤ 1048576) (hn : ls.flatten.length ≤ 1048576) :
  af prog W0 72 [.sl 50 (ls.map aC)] (aC ls.flatten):=by
 refine rO [2] [] func72 rfl rfl ntmps72 rfl rfl (dC _) fun hs σ=>?_
 have hfl : ∀ i,(ls.take i).flatten.length ≤ 1048576:=fun i=>by
  have : ls.flatten.length = (ls.take i).flatten.length + (ls.drop i).flatten.length:=by
   rw [← List.length_append,← List.flatten_append,List.take_append_drop]
  omega
 simp only [go_sem,simprocAttr,List.length_map]
 refine ah.at [0] (.of (by kernel_rfl)) (fun A=>A.env 3 = .int .i64 ls.flatten.length ∧ A.st = σ) ?_ fun B ⟨h3,hst⟩=>?_
 ·refine ah.upto [0,9,10] (.of (by kernel_rfl)) ls.length (fun i A=>A.env 11 = .int .i64 i ∧ A.st = σ ∧ A.env 3 = .int .i64 (ls.take i).flatten.length) 0 (Nat.zero_le _) ?_ fun i B hi ⟨h8,hst,h3⟩=>?_
  ·simp only [go_sem,simprocAttr]
   try simp
  simp only [go_sem,simprocAttr,h8,h3,hst,List.length_map]
  refine ⟨fun hc=>⟨hc,?_⟩,fun hc=>by rw [List.take_of_length_le hc]⟩
  obtain ⟨l,hl⟩:=get_some hc
  simp only [ay hl]
  have h1:=hfl i
  have h2:=hfl (i + 1)
  rw [lD hl,List.length_append] at h2
  have hw : IntKind.i64.wrap (((ls.take i).flatten.length : Int) + (l.length : Int)) = (((ls.take (i + 1)).flatten.length : Nat) : Int):=by
   rw [lD hl,List.length_append,aF (by omega),Int.natCast_add]
  simp only [go_sem,simprocAttr,aC,h8,h3,hst,List.length_map,hw]
  exact ⟨fun h=>absurd h (by omega),fun _=>⟨hc,aq hc (by rw [av]; omega)⟩⟩
 simp only [go_sem,simprocAttr,h3,hst]
 refine aj.goes (by simp only [go_sem,simprocAttr,hst]) (H0 σ _ hn) fun r σ' hr=>?_
 simp only [go_sem,simprocAttr,h3,hst,hr.ok,hr.un,List.length_map]
 refine ah.at [] (.of (by kernel_rfl)) (fun A=>∃ v,A.env 6 = v ∧ ei σ A.st v 72 (ls.flatten.map aH)) ?_ fun B ⟨v,h6,hb⟩=>?_
 ·refine ah.upto [25,26] (.of (by kernel_rfl)) ls.length (fun i A=>A.env 27 = .int .i64 i ∧ ∃ v,A.env 6 = v ∧ ei σ A.st v 72 ((ls.take i).flatten.map aH)) 0 (Nat.zero_le _) ?_ fun i B hi ⟨h8,v,h6,hb⟩=>?_
  ·simp only [go_sem,simprocAttr]
   exact ⟨_,rfl,hr⟩
  simp only [go_sem,simprocAttr,h8,h6,List.length_map]
  refine ⟨fun hc=>⟨hc,?_⟩,fun hc=>⟨_,rfl,by rw [List.take_of_length_le hc] at hb; exact hb⟩⟩
  obtain ⟨l,hl⟩:=get_some hc
  have h2:=hfl (i + 1)
  rw [lD hl,List.length_append] at h2
  simp only [ay hl]
  simp only [go_sem,simprocAttr,aC,h8,h6,hb.ok,hb.un,List.length_map]
  refine cy.tn 1048576 (by kernel_rfl) hb (.sl _ _ _) (by rw [List.length_map,List.length_map]; exact h2) fun v' st' hb'=>?_
  simp only [go_sem,simprocAttr,h8]
  refine ⟨hc,aq hc (by rw [av]; omega),_,rfl,?_⟩
  rw [lD hl,List.map_append]
  exact hb'
 simp only [go_sem,simprocAttr,h6,hb.ok,hb.un]
 exact ei.Rr (hb) (.inl rfl) (by simp only [go_sem,simprocAttr])
end Go.Proofs.Tryz
end
section
namespace Go.Av

theorem aj.Ml {P : Program} {W0 : World} {A : aa} {g : FuncId} {caps us : List AV} {dst : Option Nat} {k : aa → Prop} {r : AV} {σ : ab} (hσ : A.st = σ) (h : aU P W0 g (us ++ caps) σ fun r' σ'=>r' = r ∧ σ' = σ) (hk : k (A.put dst r)) : aj P W0 (.fn g caps) us dst A k .mk:=.go hσ h fun r' σ' ⟨h1,h2⟩=>by
 subst h1 h2 hσ
 rwa [mJ]

section
variable {P : Program}
@[go_sem] theorem Oz (t t' : TypeId) (id i : Nat) (path : List Nat) : cc P .neq t (.ptr t' id i path) .nil = if ep P t then .bool true else .undef:=by simp only [cc,ck,jy,AV.fI,Bool.and_true]; split <;> rfl
@[go_sem] theorem NV (t t' : TypeId) (id i : Nat) (path : List Nat) : cj P .neq t (.ptr t' id i path) .nil = (ep P t = true):=by simp only [cj,ck,jy,AV.fI,Bool.and_true]; split <;> simp_all
@[go_sem] theorem NN (t t' : TypeId) (id i : Nat) (path : List Nat) : cc P .eql t (.ptr t' id i path) .nil = if ep P t then .bool false else .undef:=by simp only [cc,ck,jy,AV.fI,Bool.and_true]; split <;> rfl
@[go_sem] theorem MD (t t' : TypeId) (id i : Nat) (path : List Nat) : cj P .eql t (.ptr t' id i path) .nil = (ep P t = true):=by simp only [cj,ck,jy,AV.fI,Bool.and_true]; split <;> simp_all
@[go_sem] theorem NK (t : TypeId) : cc P .eql t .nil .nil = if ep P t then .bool true else .undef:=by simp only [cc,ck,jy]; split <;> rfl
@[go_sem] theorem Og (t : TypeId) : cj P .eql t .nil .nil = (ep P t = true):=by simp only [cj,ck,jy]; split <;> simp_all
end

structure Fr (F : List Nat) (σ σ' : ab) : Prop where
 len : σ.length ≤ σ'.length
 old : ∀ j,j < σ.length → j ∉ F → σ'[j]? = σ[j]?
def bb : AV → List Nat
 | .own _ _ t=>[t]
 | .row _ id _ _=>[id]
 | _=>[]
theorem Fr.refl (F : List Nat) (σ : ab) : Fr F σ σ:=⟨Nat.le_refl _,fun _ _ _=>rfl⟩
theorem Fr.ext {F : List Nat} {σ σ' : ab} (h : Ext σ σ') : Fr F σ σ':=⟨h.le,fun j hj _=>by
 have e:=congrArg (·[j]?) h
 simpa [List.getElem?_take,hj] using e⟩
theorem Fr.trans {F G : List Nat} {σ σ' σ'' : ab} (h : Fr F σ σ') (h' : Fr G σ' σ'') (hG : ∀ j ∈ G,j ∈ F ∨ σ.length ≤ j) : Fr F σ σ'':=⟨Nat.le_trans h.len h'.len,fun j hj hF=>by
 rw [h'.old j (Nat.lt_of_lt_of_le hj h.len) (fun e=>by rcases hG j e with h1 | h1; exact hF h1; omega),h.old j hj hF]⟩
theorem Fr.set {F : List Nat} {σ σ' : ab} (h : Fr F σ σ') {id : Nat} (hid : id ∈ F ∨ σ.length ≤ id) (o : Option cM) : Fr F σ (σ'.set id o):=⟨by simpa using h.len,fun j hj hF=>by
 rw [List.getElem?_set_ne (fun e=>by subst e; rcases hid with h1 | h1; exact hF h1; omega),h.old j hj hF]⟩
theorem Fr.app {F : List Nat} {σ σ' : ab} (h : Fr F σ σ') (l : ab) : Fr F σ (σ' ++ l):=⟨by have:=h.len; simp; omega,fun j hj hF=>by
 rw [List.getElem?_append_left (by have:=h.len; omega),h.old j hj hF]⟩
theorem Fr.mono {F G : List Nat} {σ σ' : ab} (h : Fr F σ σ') (hG : ∀ j ∈ F,j ∈ G) : Fr G σ σ':=⟨h.len,fun j hj hF=>h.old j hj fun e=>hF (hG j e)⟩
theorem Fr.EW {F : List Nat} {σ σ' : ab} (h : Fr F σ σ') {τ : ab} (ht : Ext τ σ) (hF : ∀ j ∈ F,τ.length ≤ j) : Ext τ σ':=by
 refine List.ext_getElem? fun i=>?_
 have:=ht.le
 have:=h.len
 rw [List.getElem?_take]
 by_cases hi : i < τ.length
 ·rw [if_pos hi,h.old i (by omega) (fun e=>by have:=hF i e; omega)]
  have e:=congrArg (·[i]?) ht
  simpa [List.getElem?_take,hi] using e
 ·rw [if_neg hi,List.getElem?_eq_none (by omega)]
theorem fD {σ : ab} {id : Nat} {te : TypeId} {xs : List AV} (h : id < σ.length) : live (σ.set id (some (.cells te xs))) id = True:=eq_true ⟨te,xs,by simp [h]⟩
theorem ar {σ : ab} {id : Nat} {te : TypeId} {xs : List AV} (h : σ[id]? = some (some (.cells te xs))) : live σ id = True:=eq_true ⟨te,xs,h⟩
theorem Bld.notM {st : ab} {v : AV} {e : TypeId} {xs : List AV} (h : Bld st v e xs) : cD v:=by
 rcases h with ⟨rfl,rfl⟩ | rfl | ⟨t,rfl,_⟩ <;> trivial
theorem Bld.ok {st : ab} {v : AV} {e : TypeId} {xs : List AV} (h : Bld st v e xs) (g : Option Bool) : okM g v = True:=bP h.notM
theorem Bld.un {st : ab} {v : AV} {e : TypeId} {xs : List AV} (h : Bld st v e xs) : unm v = v:=cp h.notM
theorem Bld.len {st : ab} {v : AV} {e : TypeId} {xs : List AV} (h : Bld st v e xs) : oL v = .int .i64 xs.length:=by
 rcases h with ⟨rfl,rfl⟩ | rfl | ⟨t,rfl,_⟩ <;> rfl
theorem Bld.gT {st : ab} {v : AV} {e : TypeId} {xs : List AV} (h : Bld st v e xs) (P : Program) (t : TypeId) : gT P t v = ((elT P t).isSome = true):=by
 rcases h with ⟨rfl,rfl⟩ | rfl | ⟨t,rfl,_⟩ <;> rfl
theorem Bld.fits {st : ab} {v : AV} {e : TypeId} {xs : List AV} (h : Bld st v e xs) (P : Program) (t : TypeId) : bf P t v = cb P t:=by
 rcases h with ⟨rfl,rfl⟩ | rfl | ⟨t,rfl,_⟩ <;> rfl
theorem c7.fits {st : ab} {v : AV} {e : TypeId} {xs : List AV} (h : c7 st v e xs) (P : Program) (t : TypeId) : bf P t v = cb P t:=by
 rcases h with ⟨rfl,rfl⟩ | rfl | ⟨_,_,_,_,rfl,_⟩ <;> rfl
theorem c7.notM {st : ab} {v : AV} {e : TypeId} {xs : List AV} (h : c7 st v e xs) : cD v:=by
 rcases h with ⟨rfl,rfl⟩ | rfl | ⟨_,_,_,_,rfl,_⟩ <;> trivial
theorem c7.ok {st : ab} {v : AV} {e : TypeId} {xs : List AV} (h : c7 st v e xs) (g : Option Bool) : okM g v = True:=bP h.notM
theorem c7.un {st : ab} {v : AV} {e : TypeId} {xs : List AV} (h : c7 st v e xs) : unm v = v:=cp h.notM
theorem cy.wh {P : Program} {A : aa} {σ : ab} {t u e : TypeId} {x y : AV} {xs ys : List AV} {dst : Option Nat} {k : aa → Prop} (hσ : A.st = σ) (N : Nat) (ho : uB P t u e N = true) (hb : Bld σ x e xs) (hy : dB σ y e ys) (hN : xs.length + ys.length ≤ N)
  (hk : ∀ v σ',App σ x e (xs ++ ys) v σ' → k ((A.put dst v).ag σ')) : cy P [t,u] [x,y] dst A k .mk:=by
 subst hσ
 exact .own N ho hb hy hN hk
def fk (σ : ab) (x : AV) (e : TypeId) (xs : List AV) : Prop:=(x = .au ∧ xs = []) ∨ ∃ id off m zs,x = .row e id off m ∧ σ[id]? = some (some (.cells e zs)) ∧ off + m ≤ zs.length ∧ xs = (zs.drop off).take m
theorem fk.st {σ : ab} {v : AV} {e : TypeId} {xs : List AV} (h : fk σ v e xs) : c7 σ v e xs:=by
 rcases h with h | h
 ·exact .inl h
 ·exact .inr (.inr h)
def xc (a b : Nat) : AV → AV
 | .row e id off _=>.row e id (off + a) (b - a)
 | v=>v
@[go_sem] theorem SO (a b : Nat) (e : TypeId) (id off m : Nat) : xc a b (.row e id off m) = .row e id (off + a) (b - a):=rfl
@[go_sem] theorem Po (a b : Nat) : xc a b .au = .au:=rfl
theorem fk.Mo {σ : ab} {e : TypeId} {xs : List AV} {id off m : Nat} {zs : List AV} (h : off + m ≤ zs.length) (hx : xs = (zs.drop off).take m) : xs.length = m:=by
 rw [hx]; simp; omega
theorem fk.ml {P : Program} {gd : Option Bool} {σ : ab} {v : AV} {e : TypeId} {xs : List AV} (h : fk σ v e xs) {t : TypeId} (ht : elT P t = some e) (A : aa) (lo hi : Option Operand) : iD P gd A t lo hi v = (0 < ae P e ∧ Go.Av.ml gd A lo hi xs.length):=by
 rcases h with ⟨rfl,rfl⟩ | ⟨id,off,m,zs,rfl,h1,h2,h3⟩
 ·rw [w9,ht]
  simp only [Option.isSome_some,true_and,Option.getD_some,Go.Av.ml,List.length_nil,Nat.le_zero]
  have : imp gd (cu A 0 lo = 0 ∧ cu A 0 hi = 0) = imp gd (cu A 0 lo ≤ cu A 0 hi ∧ cu A 0 hi = 0):=by
   congr 1
   refine propext ⟨fun ⟨h1,h2⟩=>⟨by omega,h2⟩,fun ⟨h1,h2⟩=>⟨by omega,h2⟩⟩
  rw [this]
 ·rw [zL,ht,fk.Mo (σ:=σ) (e:=e) (id:=id) h2 h3]
  simp
theorem fk.cut {σ : ab} {v : AV} {e : TypeId} {xs : List AV} (h : fk σ v e xs) {a b : Nat} (hab : a ≤ b) (hb : b ≤ xs.length) : fk σ (xc a b v) e ((xs.drop a).take (b - a)):=by
 rcases h with ⟨rfl,rfl⟩ | ⟨id,off,m,zs,rfl,h1,h2,h3⟩
 ·exact .inl ⟨rfl,by simp⟩
 ·have hl:=fk.Mo (σ:=σ) (e:=e) (id:=id) h2 h3
  refine .inr ⟨id,off + a,b - a,zs,rfl,h1,by omega,?_⟩
  rw [h3,List.drop_take,List.drop_drop,List.take_take,Nat.min_eq_left (by omega)]
theorem BE (a b : Nat) (v : AV) : bb (xc a b v) = bb v:=by cases v <;> rfl
theorem fk.ez {st st' : ab} {v : AV} {e : TypeId} {xs : List AV} (h : fk st v e xs) (hk : ∀ j ∈ bb v,st'[j]? = st[j]?) : fk st' v e xs:=by
 rcases h with h | ⟨id,off,m,zs,rfl,h,h2⟩
 ·exact .inl h
 ·exact .inr ⟨id,off,m,zs,rfl,by rw [hk id (by simp [bb]),h],h2⟩
theorem fk.lt {st : ab} {v : AV} {e : TypeId} {xs : List AV} (h : fk st v e xs) : ∀ j ∈ bb v,j < st.length:=by
 rcases h with ⟨rfl,_⟩ | ⟨id,off,m,zs,rfl,h,_⟩
 ·simp [bb]
 ·intro j hj; simp [bb] at hj; subst hj; exact (List.getElem?_eq_some_iff.1 h).1
theorem fk.ne {st : ab} {v : AV} {e te : TypeId} {xs ys : List AV} (h : fk st v e xs) {id : Nat} (hid : st[id]? = some (some (.cells te ys))) (ht : te ≠ e) : id ∉ bb v:=fun hj=>by
 rcases h with ⟨rfl,_⟩ | ⟨id',off,m,zs,rfl,h,_⟩
 ·simp [bb] at hj
 ·simp [bb] at hj; subst hj; rw [hid] at h; cases h; exact ht rfl
structure UO (σ : ab) (x : AV) (e : TypeId) (zs : List AV) (v : AV) (σ' : ab) : Prop where
 row : fk σ' v e zs
 fr : Fr (bb x) σ σ'
 bb : ∀ j ∈ bb v,j ∈ bb x ∨ σ.length ≤ j
theorem Bld.cK {st : ab} {v : AV} {e : TypeId} {xs : List AV} (h : Bld st v e xs) : cI v (.sl e xs):=by
 rcases h with ⟨rfl,rfl⟩ | rfl | ⟨t,rfl,_⟩
 ·exact .au _
 ·exact .lit _ _
 ·exact .own _ _ _

theorem App.fr {σ σ' : ab} {x v : AV} {e : TypeId} {zs : List AV} (h : App σ x e zs v σ') : Fr (bb x) σ σ':=⟨h.len,fun j hj hF=>h.old j hj fun e=>hF (by cases x <;> simp [ef] at e; subst e; simp [bb])⟩
theorem vI {st : ab} {v : AV} {e : TypeId} {xs : List AV} (h : Bld st v e xs) {j : Nat} : j ∈ bb v ↔ ef v = some j:=by
 rcases h with ⟨rfl,rfl⟩ | rfl | ⟨t,rfl,_⟩
 ·simp [bb,ef]
 ·simp [bb,ef]
 ·simp [bb,ef]; exact eq_comm
theorem App.bb {σ σ' : ab} {x v : AV} {e : TypeId} {zs xs : List AV} (h : App σ x e zs v σ') (hx : Bld σ x e xs) : ∀ j ∈ bb v,j ∈ bb x ∨ σ.length ≤ j:=fun j hj=>by
 rw [vI h.bld] at hj
 rw [vI hx]
 rcases h.tok with e1 | ⟨t,e1,e2⟩
 ·left; rw [← e1]; exact hj
 ·right; rw [e1] at hj; cases hj; exact e2
theorem Bld.ez {st st' : ab} {v : AV} {e : TypeId} {xs : List AV} (h : Bld st v e xs) (hk : ∀ j ∈ bb v,st'[j]? = st[j]?) : Bld st' v e xs:=by
 rcases h with h | h | ⟨t,rfl,h⟩
 ·exact .inl h
 ·exact .inr (.inl h)
 ·exact .inr (.inr ⟨t,rfl,by rw [hk t (by simp [bb]),h]⟩)
theorem Bld.lt {st : ab} {v : AV} {e : TypeId} {xs : List AV} (h : Bld st v e xs) : ∀ j ∈ bb v,j < st.length:=by
 rcases h with ⟨rfl,_⟩ | rfl | ⟨t,rfl,h⟩
 ·simp [bb]
 ·simp [bb]
 ·intro j hj; simp [bb] at hj; subst hj; exact (List.getElem?_eq_some_iff.1 h).1
theorem Bld.ne {st : ab} {v : AV} {e : TypeId} {xs : List AV} (h : Bld st v e xs) {id : Nat} {o : cM} (hid : st[id]? = some (some o)) (ho : o ≠ .tok) : id ∉ bb v:=fun hj=>by
 rcases h with ⟨rfl,_⟩ | rfl | ⟨t,rfl,h⟩
 ·simp [bb] at hj
 ·simp [bb] at hj
 ·simp [bb] at hj; subst hj; rw [hid] at h; cases h; exact ho rfl
theorem c7.ez {st st' : ab} {v : AV} {e : TypeId} {xs : List AV} (h : c7 st v e xs) (hk : ∀ j ∈ bb v,st'[j]? = st[j]?) : c7 st' v e xs:=by
 rcases h with h | h | ⟨id,off,m,zs,rfl,h,h2⟩
 ·exact .inl h
 ·exact .inr (.inl h)
 ·exact .inr (.inr ⟨id,off,m,zs,rfl,by rw [hk id (by simp [bb]),h],h2⟩)
theorem c7.lt {st : ab} {v : AV} {e : TypeId} {xs : List AV} (h : c7 st v e xs) : ∀ j ∈ bb v,j < st.length:=by
 rcases h with ⟨rfl,_⟩ | rfl | ⟨id,off,m,zs,rfl,h,_⟩
 ·simp [bb]
 ·simp [bb]
 ·intro j hj; simp [bb] at hj; subst hj; exact (List.getElem?_eq_some_iff.1 h).1

def xK (M : Nat → Bool) (l : Int) : Bool:=if 0 < l then M l.natAbs else !M l.natAbs
def sT (M : Nat → Bool) (c : List Int) : Bool:=c.any (xK M)
def fC (M : Nat → Bool) (cls : List (List Int)) : Bool:=cls.all (sT M)
def wfL (n : Nat) (l : Int) : Bool:=decide (l ≠ 0) && decide (l.natAbs ≤ n)
def wfC (n : Nat) (c : List Int) : Bool:=c.all (wfL n)

theorem wu {M : Nat → Bool} {l : Int} (h : l ≠ 0) : xK M (-l) = !xK M l:=by
 unfold xK
 rw [Int.natAbs_neg]
 by_cases h1 : 0 < l
 ·rw [if_pos h1,if_neg (by omega)]
 ·rw [if_neg h1,if_pos (by omega),Bool.not_not]

theorem tS {M : Nat → Bool} {c d : List Int} (h : ∀ l,l ∈ c ↔ l ∈ d) : sT M c = sT M d:=by
 unfold sT
 rw [Bool.eq_iff_iff,List.any_eq_true,List.any_eq_true]
 exact ⟨fun ⟨l,h1,h2⟩=>⟨l,(h l).1 h1,h2⟩,fun ⟨l,h1,h2⟩=>⟨l,(h l).2 h1,h2⟩⟩

end Go.Av
end
section
namespace Go.Proofs.Tryz
open Go Go.Av
set_option maxRecDepth 10000
variable {W0 : World}

theorem Mc {α : Type} (enc : α → AV) (hp : ∀ a,cD (enc a)) (l : List α) (q : α → Bool) (g : FuncId) (caps : List AV) (σ : ab) (h : ∀ a ∈ l,aU prog W0 g ([enc a] ++ caps) σ fun r σ'=>r = .bool (q a) ∧ σ' = σ) :
  aU prog W0 195 [.sl 135 (l.map enc),.fn g caps] σ fun r σ'=>r = .int .i64 (iT q l) ∧ σ' = σ:=by
 refine pI [4] [] func195 rfl rfl ntmps195 rfl rfl (.int _ _) fun hs=>?_
 have hl:=(bu (hs _ (List.mem_cons_self ..))).1
 simp only [go_sem,simprocAttr]
 refine ah.upto [0,1,7] (.of (by kernel_rfl)) l.length (fun i A=>A.env 8 = .int .i64 i ∧ A.st = σ ∧ ∀ a ∈ l.take i,q a = false) 0 (Nat.zero_le _) ?_ fun i B hi ⟨h8,hst,hI⟩=>?_
 ·simp only [go_sem,simprocAttr]
  all_goals simp
 simp only [go_sem,simprocAttr,h8,hst,List.length_map]
 refine ⟨fun hc=>⟨hc,?_⟩,fun hc=>bR.ret ?_⟩
 ·obtain ⟨a,ha⟩:=get_some hc
  simp only [ay ha,bP (hp a),cp (hp a),true_and]
  refine aj.Ml (by simp only [go_sem,simprocAttr,hst]) (h a (List.mem_of_getElem? ha)) ?_
  simp only [go_sem,simprocAttr,h8,hst]
  refine ⟨fun hq=>bR.ret ?_,fun hq=>⟨hc,aq hc hl,?_⟩⟩
  ·simp only [go_sem,simprocAttr,hst]
   exact aD (fP ha hq hI).symm
  rw [ak ha]
  intro b hb
  rcases List.mem_append.1 hb with hb | hb
  ·exact hI b hb
  ·rw [List.mem_singleton.1 hb]; exact hq
 ·simp only [go_sem,simprocAttr,hst]
  rw [dz (by rwa [List.take_of_length_le hc] at hI)]
  exact .refl _
theorem KO {α : Type} (enc : α → AV) (hp : ∀ a,cD (enc a)) (l : List α) (q : α → Bool) (g : FuncId) (caps : List AV) (σ : ab) (h : ∀ a ∈ l,aU prog W0 g ([enc a] ++ caps) σ fun r σ'=>r = .bool (q a) ∧ σ' = σ) :
  aU prog W0 139 [.sl 135 (l.map enc),.fn g caps] σ fun r σ'=>r = .bool (l.any q) ∧ σ' = σ:=by
 refine pI [4] [] func139 rfl rfl ntmps139 rfl rfl (.bool _) fun hs=>?_
 simp only [go_sem,simprocAttr]
 refine aj.reads (by simp only [go_sem,simprocAttr]) (Mc enc hp l q g caps σ h) ?_
 simp only [go_sem,simprocAttr]
 refine bR.ret ?_
 simp only [go_sem,simprocAttr]
 rw [ie]
 exact .refl _

theorem lu (l : Int) (h : l.natAbs ≤ 9223372036854775807) : af prog W0 185 [.int .i64 l] (.int .u64 (l.natAbs : Nat)):=by
 refine ai [2] [] func185 rfl rfl ntmps185 rfl rfl (.int _ _) fun hs σ=>?_
 simp only [go_sem,simprocAttr]
 refine ⟨fun h0=>aD ?_,fun h0=>aD ?_⟩
 ·rw [IntKind.wrap_u64,IntKind.wrap_u64]; omega
 ·rw [IntKind.wrap_u64]; omega

def dX (c : List Int) : AV:=.sl 135 (c.map (.int .i64))
def xB (l : List (List Int)) : AV:=.sl 136 (l.map dX)
theorem cD.int64 (n : Int) : cD (AV.int .i64 n):=trivial
theorem cD.lits (c : List Int) : cD (dX c):=trivial
@[go_sem] theorem Lu (g : Option Bool) (l : List Int) : okM g (dX l) = True:=eq_true trivial
@[go_sem] theorem Lp (l : List Int) : unm (dX l) = dX l:=rfl
@[go_sem] theorem Io (P : Program) (t : TypeId) (l : List Int) : bf P t (dX l) = cb P t:=rfl
def sk (n : Nat) (cv : AV) : Option cM:=some (.cells 191 [.agg 191 [.int .i64 n,cv]])

theorem GH (σ : ab) (id n : Nat) (cv : AV) (hid : σ[id]? = some (sk n cv)) (hn : n ≤ 9223372036854775807) (l : Int) (hl : l.natAbs ≤ 9223372036854775807) :
  aU prog W0 184 [.int .i64 l,.loc 130 (.ptr 191 id 0 [])] σ fun r σ'=>r = .bool (!wfL n l) ∧ σ' = σ:=by
 refine pI [3] [] func184 rfl rfl ntmps184 rfl rfl (.bool _) fun hs=>?_
 simp only [go_sem,simprocAttr]
 refine ⟨.of (by kernel_rfl),aB.fnG (fun _=>lu l hl) ?_⟩
 simp only [go_sem,simprocAttr,an hid]
 refine bR.ret ?_
 simp only [go_sem,simprocAttr]
 refine al ?_
 have hw : IntKind.u64.wrap (n : Int) = n:=by rw [IntKind.wrap_u64]; omega
 rw [hw,wfL,Bool.not_and,← decide_not,← decide_not]
 congr 1
 ·rw [Bool.eq_iff_iff]; simp
 ·exact decide_eq_decide.2 (by omega)

theorem Kd (σ : ab) (id n : Nat) (cv : AV) (cls : List (List Int)) (hid : σ[id]? = some (sk n cv)) (hb : Bld σ cv 136 (cls.map dX)) (hn : n ≤ 9223372036854775807) (hc5 : cls.length < 5000) (c : List Int) (hc : ∀ l ∈ c,l.natAbs ≤ 9223372036854775807) :
  aU prog W0 134 [.ptr 191 id 0 [],dX c] σ fun r σ'=>r = .bool (wfC n c) ∧ σ' = σ:=by
 refine pI [4] [2] func134 rfl rfl ntmps134 rfl rfl (.bool _) fun hs=>?_
 have h5 : decide ((cls.length : Int) < 5000) = true:=decide_eq_true (by omega)
 simp only [go_sem,simprocAttr,an hid,hb.ok,hb.un,hb.len,hb.gT,List.length_map,h5]
 refine aB.st (fun _=>KO (.int .i64) cD.int64 c (fun l=>!wfL n l) _ [.loc 130 (.ptr 191 id 0 [])] σ fun l hl=>GH σ id n cv hid hn l (hc l hl)) ?_
 simp only [go_sem,simprocAttr]
 refine bR.ret ?_
 simp only [go_sem,simprocAttr]
 refine al ?_
 rw [wfC,List.all_eq_not_any_not]

theorem vP (σ : ab) (c : List Int) (h0 : c ≠ []) (hl : c.length ≤ 1048576) : aU prog W0 186 [dX c] σ fun r σ'=>r = .row 135 σ.length 0 c.length ∧ σ' = σ ++ [some (.cells 135 (c.map (.int .i64)))]:=by
 refine cB [2] [] func186 rfl rfl ntmps186 rfl rfl fun hs=>?_
 cases c with
 | nil=>exact absurd rfl h0
 | cons x c =>
  simp only [go_sem,simprocAttr,dX]
  refine cy.row 1048576 (by kernel_rfl) (.inr (.inl rfl)) (.sl _ _ _) (by simpa using hl) (fun h=>by cases h) fun _=>?_
  simp only [go_sem,simprocAttr]
  refine bR.ret ?_
  simp only [go_sem,simprocAttr]
  exact ⟨_,.refl _,by simp [bY],by simp,rfl⟩

end Go.Proofs.Tryz
end
section
namespace Go.Proofs.Tryz
open Go Go.Av
set_option maxRecDepth 10000
variable {W0 : World}

def ints (ys : List Int) : Option cM:=some (.cells 135 (ys.map (.int .i64)))
def QA (σ st : ab) (id : Nat) (xs : List Int) : Prop:=∃ ys : List Int,ys.Perm xs ∧ st = σ.set id (ints ys)

end Go.Proofs.Tryz
end
section
namespace Go.Proofs.Tryz
open Go Go.Av
set_option maxRecDepth 10000
variable {W0 : World}

def vX (σ st : ab) (id : Nat) (xs : List Int) : Prop:=(∃ ys : List Int,ys.Perm xs ∧ st[id]? = some (ints ys)) ∧ Fr [id] σ st

theorem vX.of {σ st : ab} {id : Nat} {xs : List Int} (hid : id < σ.length) (h : QA σ st id xs) : vX σ st id xs:=by
 obtain ⟨ys,hp,rfl⟩:=h
 exact ⟨⟨ys,hp,List.getElem?_set_self hid⟩,⟨by simp,fun j hj hn=>List.getElem?_set_ne fun e=>hn (by simp [e])⟩⟩

theorem vX.step {σ τ st : ab} {id : Nat} {xs ys : List Int} (h1 : Fr [id] σ τ) (hy : ys.Perm xs) (h2 : vX τ st id ys) : vX σ st id xs:=by
 obtain ⟨⟨zs,hz,hs⟩,hf⟩:=h2
 exact ⟨⟨zs,hz.trans hy,hs⟩,⟨Nat.le_trans h1.len hf.len,fun j hj hn=>by rw [hf.old j (Nat.lt_of_lt_of_le hj h1.len) hn,h1.old j hj hn]⟩⟩
end Go.Proofs.Tryz
end
section
namespace Go.Proofs.Tryz
open Go Go.Av
set_option maxRecDepth 10000
variable {W0 : World}

theorem JU (σ : ab) (n : Nat) (hn : n ≤ 200) : aU prog W0 71 [.int .i64 n] σ fun r σ'=>r = .ptr 191 σ.length 0 [] ∧ σ' = σ ++ [sk n .au]:=by
 refine cB [2] [] func71 rfl rfl ntmps71 rfl rfl fun hs=>?_
 have e1 : yd (n : Int) 200 = n:=by unfold yd; split <;> omega
 have e2 : vY 0 (n : Int) = n:=by unfold vY; split <;> omega
 simp only [go_sem,simprocAttr,e1,e2]
 refine bR.ret ?_
 simp only [go_sem,simprocAttr]
 exact ⟨_,.refl _,by simp,rfl,rfl⟩

end Go.Proofs.Tryz
end
section
namespace Go.Av

def sD (ord : List Int) (l : Int) : Int:=if l ∈ ord then 1 else if -l ∈ ord then -1 else 0
structure dr (n : Nat) (ord : List Int) : Prop where
 nd : (ord.map Int.natAbs).Nodup
 wf : ∀ l ∈ ord,l ≠ 0 ∧ l.natAbs ≤ n

theorem dr.cons {n : Nat} {ord : List Int} (h : dr n ord) {l : Int} (hl : l ∈ ord) : -l ∉ ord:=fun hn=>by
 have h0:=(h.wf l hl).1
 obtain ⟨i,hi,he⟩:=List.getElem_of_mem hl
 obtain ⟨j,hj,he'⟩:=List.getElem_of_mem hn
 have : i = j:=(List.getElem_inj (i:=i) (j:=j) (h₀:=by simpa using hi) (h₁:=by simpa using hj) h.nd).1 (by simp [he,he'])
 subst this
 rw [he] at he'
 omega
theorem ru (ord : List Int) (l : Int) : (sD ord l = 1 ∧ l ∈ ord) ∨ (sD ord l = -1 ∧ l ∉ ord ∧ -l ∈ ord) ∨ (sD ord l = 0 ∧ l ∉ ord ∧ -l ∉ ord):=by
 unfold sD
 by_cases h1 : l ∈ ord
 ·left; simp [h1]
 ·by_cases h2 : -l ∈ ord
  ·right; left; simp [h1,h2]
  ·right; right; simp [h1,h2]
theorem dr.nil (n : Nat) : dr n []:=⟨by simp,by simp⟩
theorem dr.app {n : Nat} {ord : List Int} (h : dr n ord) {l : Int} (h0 : l ≠ 0) (hn : l.natAbs ≤ n) (hv : sD ord l = 0) : dr n (ord ++ [l]):=by
 refine ⟨?_,fun m hm=>?_⟩
 ·rw [List.map_append,List.nodup_append]
  refine ⟨h.nd,by simp,fun a ha b hb=>?_⟩
  obtain ⟨m,hm,rfl⟩:=List.mem_map.1 ha
  simp at hb
  subst hb
  intro e
  rcases ru ord l with ⟨h1,h2⟩ | ⟨h1,h2⟩ | ⟨h1,h2,h3⟩
  ·omega
  ·omega
  ·rcases Int.natAbs_eq_natAbs_iff.1 e with e | e
   ·exact h2 (e ▸ hm)
   ·exact h3 (e ▸ hm)
 ·rcases List.mem_append.1 hm with h1 | h1
  ·exact h.wf m h1
  ·rw [List.mem_singleton.1 h1]; exact ⟨h0,hn⟩
theorem dr.take {n : Nat} {ord : List Int} (h : dr n ord) (k : Nat) : dr n (ord.take k):=⟨by rw [List.map_take]; exact List.Nodup.sublist (List.take_sublist _ _) h.nd,fun l hl=>h.wf l (List.mem_of_mem_take hl)⟩
theorem dr.sub {n : Nat} {o p : List Int} (h : dr n p) (hs : o.Sublist p) : dr n o:=⟨List.Nodup.sublist (hs.map _) h.nd,fun l hl=>h.wf l (hs.subset hl)⟩
theorem xF : ∀ (n : Nat) (l : List Nat),l.Nodup → (∀ x ∈ l,x < n) → l.length ≤ n
 | 0,l,_,h=>by
  cases l with
  | nil=>simp
  | cons x l=>exact absurd (h x (by simp)) (by omega)
 | n + 1,l,hd,h=>by
  have:=xF n (l.erase n) (hd.erase n) fun x hx=>by
   have h1:=(List.Nodup.mem_erase_iff hd).1 hx
   have:=h x h1.2
   have:=h1.1
   omega
  rw [List.length_erase] at this
  split at this <;> omega
theorem dr.len {n : Nat} {ord : List Int} (h : dr n ord) : ord.length ≤ n:=by
 have:=xF (n + 1) (0 :: ord.map Int.natAbs) (List.nodup_cons.2 ⟨fun h0=>by
  obtain ⟨l,hl,e⟩:=List.mem_map.1 h0
  exact (h.wf l hl).1 (Int.natAbs_eq_zero.1 e),h.nd⟩) fun x hx=>by
   rcases List.mem_cons.1 hx with rfl | hx
   ·omega
   ·obtain ⟨l,hl,rfl⟩:=List.mem_map.1 hx
    have:=(h.wf l hl).2
    omega
 simp at this
 exact this

def Agr (M : Nat → Bool) (ord : List Int) : Prop:=∀ l ∈ ord,xK M l = true
theorem Agr.neg {M : Nat → Bool} {n : Nat} {ord : List Int} (h : Agr M ord) (hg : dr n ord) {l : Int} (hv : sD ord l = -1) : xK M l = false:=by
 rcases ru ord l with ⟨h1,_⟩ | ⟨_,_,h2⟩ | ⟨h1,_⟩
 ·omega
 ·have h0:=(hg.wf _ h2).1
  have:=h _ h2
  rw [wu (by omega)] at this
  simpa using this
 ·omega
def DF (ord c : List Int) : Bool:=!c.any fun l=>decide (0 ≤ sD ord l)
end Go.Av
end
section
namespace Go.Proofs.Tryz
open Go Go.Av
set_option maxRecDepth 10000
variable {W0 : World}
variable {σ : ab} {tid vid n : Nat} {cv ov lv : AV} {cls : List (List Int)} {ord : List Int} {lev : List Nat}

theorem fk.at {st : ab} {v : AV} {e : TypeId} {xs : List AV} {i : Nat} {x : AV} (h : fk st v e xs) (hx : xs[i]? = some x) : ∃ id off m zs,v = .row e id off m ∧ st[id]? = some (some (.cells e zs)) ∧ m = xs.length ∧ zs[off + i]? = some x:=by
 rcases h with ⟨_,rfl⟩ | ⟨id,off,m,zs,rfl,h1,h2,h3⟩
 ·simp at hx
 ·refine ⟨id,off,m,zs,rfl,h1,(fk.Mo (σ:=st) (e:=e) (id:=id) h2 h3).symm,?_⟩
  rw [h3,List.getElem?_take,List.getElem?_drop] at hx
  split at hx
  ·exact hx
  ·cases hx

end Go.Proofs.Tryz
end
section
namespace Go.Proofs.Tryz
open Go Go.Av
set_option maxRecDepth 10000
variable {W0 : World}
variable {σ : ab} {tid vid n : Nat} {cv ov lv : AV} {cls : List (List Int)} {ord : List Int} {lev : List Nat}

structure Own (τ : ab) (tid : Nat) (cv : AV) (vid : Nat) (ov lv : AV) : Prop where
 tid : τ.length ≤ tid
 vid : τ.length ≤ vid
 cv : ∀ j ∈ bb cv,τ.length ≤ j
 ov : ∀ j ∈ bb ov,τ.length ≤ j
 lv : ∀ j ∈ bb lv,τ.length ≤ j

end Go.Proofs.Tryz
end
section
namespace Go.Av

def B8 (ord : List Int) (stk : List (Nat × Int)) (M : Nat → Bool) : Prop:=∃ p ∈ stk,0 < p.2 ∧ Agr M (ord.take p.1) ∧ xK M p.2 = true

def rY (n : Nat) (cls : List (List Int)) (ord : List Int) : Nat → List (Nat × Int) → Prop
 | lo,[]=>lo ≤ ord.length
 | lo,p :: r=>lo ≤ p.1 ∧ p.1 < ord.length ∧ p.2 ≠ 0 ∧ p.2.natAbs ≤ n ∧ sD (ord.take p.1) p.2 = 0 ∧ cls.any (DF (ord.take p.1)) = false ∧ rY n cls ord (p.1 + 1) r

theorem rY.app {n : Nat} {cls : List (List Int)} {ord : List Int} {k : Nat} {d : Int} {o2 : List Int} : ∀ {lo : Nat} {stk : List (Nat × Int)},rY n cls ord lo stk → (∀ i,i ≤ ord.length → o2.take i = ord.take i) → k = ord.length → k < o2.length → d ≠ 0 → d.natAbs ≤ n → sD ord d = 0 → cls.any (DF ord) = false → rY n cls o2 lo (stk ++ [(k,d)])
 | lo,[],h,ho,hk,hk2,h0,hn,hv,hc=>by
  have e : o2.take k = ord:=by rw [ho k (by omega),hk,List.take_length]
  refine ⟨by rw [hk]; exact h,hk2,h0,hn,by show sD (o2.take k) d = 0; rw [e]; exact hv,by show cls.any (DF (o2.take k)) = false; rw [e]; exact hc,?_⟩
  show k + 1 ≤ o2.length
  omega
 | lo,p :: r,⟨h1,h2,h3,h4,h5,h6,h7⟩,ho,hk,hk2,h0,hn,hv,hc=>⟨h1,by omega,h3,h4,by rw [ho _ (by omega)]; exact h5,by rw [ho _ (by omega)]; exact h6,h7.app ho hk hk2 h0 hn hv hc⟩

theorem rY.le {n : Nat} {cls : List (List Int)} {ord : List Int} : ∀ {lo : Nat} {stk : List (Nat × Int)},rY n cls ord lo stk → lo + stk.length ≤ ord.length
 | lo,[],h=>by simp only [rY] at h; simpa using h
 | lo,p :: r,⟨h1,_,_,_,_,_,h7⟩=>by have:=h7.le; simp; omega

theorem B8.take {ord : List Int} {stk : List (Nat × Int)} {M : Nat → Bool} {k : Nat} (hk : ∀ p ∈ stk,p.1 ≤ k) (h : B8 ord stk M) : B8 (ord.take k) stk M:=by
 obtain ⟨p,h1,h2,h3,h4⟩:=h
 exact ⟨p,h1,h2,by rw [List.take_take,Nat.min_eq_left (hk p h1)]; exact h3,h4⟩
theorem B8.more {ord o2 : List Int} {stk : List (Nat × Int)} {M : Nat → Bool} (ho : ∀ p ∈ stk,o2.take p.1 = ord.take p.1) (h : B8 ord stk M) (q : List (Nat × Int)) : B8 o2 (stk ++ q) M:=by
 obtain ⟨p,h1,h2,h3,h4⟩:=h
 exact ⟨p,by simp [h1],h2,by rw [ho p h1]; exact h3,h4⟩

end Go.Av
end
section
namespace Go.Proofs.Tryz
open Go Go.Av
set_option maxRecDepth 10000
variable {W0 : World}
variable {τ σ : ab} {xid tid vid n : Nat} {cv ov lv dv : AV} {z : Int} {cls : List (List Int)} {ord dec asm : List Int} {lev lev0 : List Nat} {stk : List (Nat × Int)} {base : Nat}

structure I6 (n : Nat) (cls : List (List Int)) : Prop where
 small : n ≤ 200
 len : cls.length ≤ 5000
 wf : ∀ c ∈ cls,c ≠ [] ∧ c.length ≤ 1048576 ∧ ∀ l ∈ c,l ≠ 0 ∧ l.natAbs ≤ n

theorem ID {n : Nat} {l : Int} : wfL n l = true ↔ l ≠ 0 ∧ l.natAbs ≤ n:=by simp [wfL]

end Go.Proofs.Tryz
end
section
namespace Go.Av

def eg (i : Nat) : Int:=((i + 1 : Nat) : Int)
def gw (c : Clause) : Nat → List Pkg → List Int
 | _,[]=>[]
 | i,q :: r=>(if c.any (dY q) = true then [eg i] else []) ++ gw c (i + 1) r
def sS (all : List Pkg) (i : Nat) (c : Clause) : List Int:=-eg i :: gw c 0 all
def uz (p : Pkg) (i : Nat) : Nat → List Pkg → List (List Int)
 | _,[]=>[]
 | k,q :: r=>(if (p.name == q.name || fb p q) = true then [[-eg i,-eg k]] else []) ++ uz p i (k + 1) r
def JN (all : List Pkg) (i : Nat) (p : Pkg) : List (List Int):=(p.pre ++ p.dep).map (sS all i) ++ uz p i 0 (all.take i)
def p9 (all : List Pkg) : Nat → List Pkg → List (List Int)
 | _,[]=>[]
 | i,p :: r=>JN all i p ++ p9 all (i + 1) r

theorem ta {c : Clause} : ∀ {i : Nat} {l : List Pkg} {x : Int},x ∈ gw c i l → ∃ k q,l[k]? = some q ∧ x = eg (i + k)
 | i,[],x,h=>by simp [gw] at h
 | i,q :: r,x,h=>by
  rw [gw,List.mem_append] at h
  rcases h with h | h
  ·split at h
   ·simp at h; exact ⟨0,q,rfl,by simpa using h⟩
   ·simp at h
  ·obtain ⟨k,q',h1,h2⟩:=ta h
   exact ⟨k + 1,q',by simpa using h1,by rw [h2]; congr 1; omega⟩
theorem lx {c : Clause} : ∀ (i : Nat) (l : List Pkg),(gw c i l).Nodup ∧ ∀ x ∈ gw c i l,eg i ≤ x
 | i,[]=>by simp [gw]
 | i,q :: r=>by
  obtain ⟨h1,h2⟩:=lx (c:=c) (i + 1) r
  rw [gw]
  refine ⟨List.nodup_append.2 ⟨by split <;> simp,h1,fun a ha b hb=>?_⟩,fun x hx=>?_⟩
  ·split at ha
   ·simp at ha
    have:=h2 b hb
    subst ha
    unfold eg at *
    omega
   ·simp at ha
  ·rcases List.mem_append.1 hx with h | h
   ·split at h
    ·simp at h; omega
    ·simp at h
   ·have:=h2 x h
    unfold eg at *
    omega
theorem uf {c : Clause} : ∀ (i : Nat) (l : List Pkg),(gw c i l).length ≤ l.length
 | i,[]=>by simp [gw]
 | i,q :: r=>by
  have:=uf (c:=c) (i + 1) r
  rw [gw,List.length_append]
  split <;> simp <;> omega
theorem ub {p : Pkg} {i : Nat} : ∀ (l : List Pkg) (j k : Nat) (q : Pkg),l[k]? = some q → uz p i j (l.take (k + 1)) = uz p i j (l.take k) ++ (if (p.name == q.name || fb p q) = true then [[-eg i,-eg (j + k)]] else [])
 | [],j,k,q,h=>by simp at h
 | p' :: r,j,0,q,h=>by
  simp at h; subst h
  simp [uz]
 | p' :: r,j,k + 1,q,h=>by
  rw [List.take_succ_cons,List.take_succ_cons,uz,uz,ub r (j + 1) k q (by simpa using h),List.append_assoc]
  have : j + 1 + k = j + (k + 1):=by omega
  rw [this]
theorem uh (all : List Pkg) : ∀ (l : List Pkg) (j k : Nat) (p : Pkg),l[k]? = some p → p9 all j (l.take (k + 1)) = p9 all j (l.take k) ++ JN all (j + k) p
 | [],j,k,p,h=>by simp at h
 | q :: r,j,0,p,h=>by
  simp at h; subst h
  simp [p9]
 | q :: r,j,k + 1,p,h=>by
  rw [List.take_succ_cons,List.take_succ_cons,p9,p9,uh all r (j + 1) k p (by simpa using h),List.append_assoc]
  have : j + 1 + k = j + (k + 1):=by omega
  rw [this]
theorem nt (M : Nat → Bool) (a b : List (List Int)) : fC M (a ++ b) = (fC M a && fC M b):=by simp [fC]
theorem dM {all : List Pkg} (h : bO all = 0) : all.length ≤ 24:=by
 unfold bO at h
 split at h
 ·omega
 ·omega
theorem iP : ∀ {l : List Int},orL l = 0 → ∀ x ∈ l,x = 0
 | [],_,x,hx=>by simp at hx
 | y :: r,h,x,hx=>by
  rw [orL] at h
  split at h
  ·rename_i hy; exact absurd h hy
  ·rename_i hy
   rcases List.mem_cons.1 hx with rfl | hx
   ·exact Classical.not_not.1 hy
   ·exact iP h x hx
theorem dm {all : List Pkg} (h : bO all = 0) {p : Pkg} (hp : p ∈ all) : bn p = 0:=by
 unfold bO at h
 split at h
 ·omega
 ·split at h
  ·rename_i h1; exact absurd h h1
  ·rename_i h1
   exact iP (Classical.not_not.1 h1) _ (List.mem_map.2 ⟨p,hp,rfl⟩)
theorem tm {l : List Clause} (h : ee l = 0) : l.length ≤ 12:=by
 unfold ee at h
 split at h
 ·omega
 ·rename_i h1; omega
theorem qZ {p : Pkg} (h : bn p = 0) : p.pre.length ≤ 12 ∧ p.dep.length ≤ 12:=by
 unfold bn at h
 split at h
 ·omega
 ·have:=iP h
  exact ⟨tm (this _ (by simp)),tm (this _ (by simp))⟩
theorem jG (i : Nat) : 0 < eg i:=by unfold eg; omega
theorem nj (i : Nat) : (eg i).natAbs = i + 1:=by unfold eg; omega
theorem HD {all : List Pkg} {i : Nat} (hi : i < all.length) (c : Clause) : wfC all.length (sS all i c) = true ∧ (sS all i c).Nodup ∧ (sS all i c).length ≤ all.length + 1:=by
 refine ⟨List.all_eq_true.2 fun l hl=>?_,?_,?_⟩
 ·have : l ≠ 0 ∧ l.natAbs ≤ all.length:=by
   rcases List.mem_cons.1 hl with rfl | hl
   ·have:=jG i; have:=nj i
    exact ⟨by omega,by omega⟩
   ·obtain ⟨k,q,h1,rfl⟩:=ta hl
    have h2:=(List.getElem?_eq_some_iff.1 h1).1
    have:=jG (0 + k); have:=nj (0 + k)
    exact ⟨by omega,by omega⟩
  simp [wfL,this]
 ·refine List.nodup_cons.2 ⟨fun h=>?_,(lx _ _).1⟩
  have:=(lx (c:=c) 0 all).2 _ h
  have:=jG i; have:=jG 0
  omega
 ·have:=uf (c:=c) 0 all
  simp [sS]; omega
theorem GD {n i k : Nat} (hi : i < n) (hk : k < i) : wfC n [-eg i,-eg k] = true ∧ [-eg i,-eg k].Nodup:=by
 have:=jG i; have:=nj i; have:=jG k; have:=nj k
 refine ⟨by simp [wfC,wfL]; omega,by simp; unfold eg; omega⟩
end Go.Av
end
section
namespace Go.Av

structure fS (σ st : ab) (v : AV) (e : TypeId) (xs : List AV) : Prop where
 row : (v = .au ∧ xs = []) ∨ ∃ id,v = .row e id 0 xs.length ∧ st[id]? = some (some (.cells e xs)) ∧ σ.length ≤ id
 ext : Ext σ st

theorem fS.nil {σ st : ab} (h : Ext σ st) (e : TypeId) : fS σ st .au e []:=⟨.inl ⟨rfl,rfl⟩,h⟩
theorem fS.st {σ st : ab} {v : AV} {e : TypeId} {xs : List AV} (h : fS σ st v e xs) : c7 st v e xs:=by
 rcases h.row with h | ⟨id,rfl,h1,_⟩
 ·exact .inl h
 ·exact .inr (.inr ⟨id,0,_,xs,rfl,h1,by simp,by simp⟩)
theorem fS.more {σ st : ab} {v : AV} {e : TypeId} {xs : List AV} (h : fS σ st v e xs) (l : ab) : fS σ (st ++ l) v e xs:=by
 refine ⟨?_,h.ext.app l⟩
 rcases h.row with h1 | ⟨id,h1,h2,h3⟩
 ·exact .inl h1
 ·exact .inr ⟨id,h1,by rw [List.getElem?_append_left ((List.getElem?_eq_some_iff.1 h2).1)]; exact h2,h3⟩
theorem cy.out {P : Program} {A : aa} {σ : ab} {t u e : TypeId} {x y : AV} {xs ys : List AV} {dst : Option Nat} {k : aa → Prop} (N : Nat) (ho : uB P t u e N = true) (h : fS σ A.st x e xs) (hy : dB A.st y e ys) (hN : xs.length + ys.length ≤ N)
  (hk : ∀ v st',fS σ st' v e (xs ++ ys) → k ((A.put dst v).ag st')) : cy P [t,u] [x,y] dst A k .mk:=by
 have hkl : (bY x A.st).length = A.st.length:=by unfold bY; split <;> simp
 refine cy.row N ho h.st hy hN (fun he=>hk _ _ (by rw [he,List.append_nil]; exact h)) fun he=>hk _ _ ⟨.inr ⟨A.st.length,by simp,?_,h.ext.le⟩,?_⟩
 ·rw [← hkl,List.getElem?_append_right (Nat.le_refl _),Nat.sub_self]
  rfl
 ·refine Ext.app ?_ _
  rcases h.row with ⟨rfl,_⟩ | ⟨id,rfl,_,h3⟩
  ·exact h.ext
  ·exact h.ext.set h3 _
theorem fS.Rr {A : aa} {σ : ab} {v : AV} {e : TypeId} {xs : List AV} {d : Nat} {x : Exit} {R : aa → Prop} (h : fS σ A.st v e xs) (hd : A.env d = v)
  (h0 : v = .au → xs = [] → bR R x A) (h1 : ∀ id,bR R x ((A.upd d (.sl e xs)).ag (A.st.set id none)) ∨ ¬ (σ.length ≤ id ∧ A.env d = .row e id 0 xs.length)) : bR R x A:=by
 rcases h.row with ⟨h2,h3⟩ | ⟨id,h2,h3,h4⟩
 ·exact h0 h2 h3
 ·rcases h1 id with h5 | h5
  ·exact bR.frz d (by rw [hd,h2]) h3 (by simp) (by simpa using h5)
  ·exact absurd ⟨h4,by rw [hd,h2]⟩ h5

end Go.Av
end
section
namespace Go.Proofs.Tryz
open Go Go.Av
set_option maxRecDepth 10000
variable {W0 : World}

structure Rep where
 name : List UInt8
 ver : List UInt8
 can : Bool
 UU : List Nat
 never : List Nat

def l9 (l : List Nat) : AV:=.sl 3 (l.map fun k=>.int .i64 (k : Nat))
end Go.Proofs.Tryz
end
section
namespace Go.Av
open Go
def eqK (P : Program) (ty : TypeId) : Nat:=match P.underlying ty with | some (.int _)=>1 | some .string=>2 | some .bool=>3 | _=>0
def qh (P : Program) (t : TypeId) : Option (List Nat):=match P.underlying t with
 | some (.struct fl) => if fl.toList.all (fun f => f.name != "_") && (!P.stoodInHeld t && !P.eqGuardType P.depth t) then (bp P t).map fun ts => ts.map (eqK P) else none
 | _=>none
def zf : Nat → AV → AV → Option Bool
 | 1,.int k a,.int k' b=>if k = k' then some (a == b) else none
 | 2,.str a,.str b=>some (a == b)
 | 3,.bool a,.bool b=>some (a == b)
 | _,_,_=>none
def sx : List Nat → List AV → List AV → Option Bool
 | [],[],[]=>some true
 | ty :: ts,x :: xs,y :: ys=>(zf ty x y).bind fun b=>(sx ts xs ys).map fun c=>b && c
 | _,_,_=>none
theorem Rz (P : Program) (ty : TypeId) (x y : AV) : eq1 P ty x y = zf (eqK P ty) x y:=by
 unfold eq1 eqK
 cases h : P.underlying ty with
 | none=>cases x <;> cases y <;> rfl
 | some u=>cases u <;> cases x <;> cases y <;> rfl
theorem y7 (P : Program) : ∀ (ts : List TypeId) (xs ys : List AV),px P ts xs ys = sx (ts.map (eqK P)) xs ys
 | [],[],[]=>rfl
 | [],[],_ :: _=>rfl
 | [],_ :: _,[]=>rfl
 | [],_ :: _,_ :: _=>rfl
 | _ :: _,[],[]=>rfl
 | _ :: _,[],_ :: _=>rfl
 | _ :: _,_ :: _,[]=>rfl
 | ty :: ts,x :: xs,y :: ys=>by
  simp only [px,List.map_cons,sx,Rz,y7 P ts xs ys]
theorem qo {P : Program} {t : TypeId} {ks : List Nat} (h : qh P t = some ks) (fs gs : List AV) : gu P t fs gs = sx ks fs gs:=by
 unfold qh at h
 unfold gu
 split at h
 ·rename_i fl hu
  simp only [hu]
  split at h
  ·rename_i hc
   rw [if_pos hc]
   cases hf : bp P t with
   | none=>rw [hf] at h; cases h
   | some ts =>
    rw [hf] at h
    simp only [Option.map_some,Option.some.injEq] at h
    simp only [Option.bind_some,y7,h]
  ·cases h
 ·cases h
end Go.Av
namespace Go.Proofs.Tryz
open Go Go.Av
set_option maxRecDepth 10000
variable {W0 : World}

theorem ig {α : Type} {a b : List α} {i : Nat} {x : α} (h : a.take i = b.take i) (hx : a[i]? = some x) (hy : b[i]? = some x) : a.take (i + 1) = b.take (i + 1):=by
 rw [ak hx,ak hy,h]
theorem lX {α : Type} {a b : List α} {i : Nat} {x y : α} (hx : a[i]? = some x) (hy : b[i]? = some y) (h : x ≠ y) : a ≠ b:=by
 rintro rfl
 rw [hx] at hy
 exact h (Option.some.inj hy)

theorem qA : qh prog 81 = some [2,1,2]:=by kernel_rfl
theorem sg : qh prog 147 = some [2,2]:=by kernel_rfl
@[go_sem] theorem RP (a b : Atom) : cc prog .neq 81 (bs a) (bs b) = .bool (!decide (a = b)):=by
 obtain ⟨a1,a2,a3⟩:=a
 obtain ⟨b1,b2,b3⟩:=b
 simp only [bs,tF,qo qA,sx,zf,if_true,Option.map_some,Option.bind_some,Option.getD_some,Atom.mk.injEq,Bool.and_true]
 congr 1
 rw [Bool.eq_iff_iff]
 simp
@[go_sem] theorem Rk (a b : Atom) : cj prog .neq 81 (bs a) (bs b) = True:=by
 simp [bs,uc,qo qA,sx,zf]
@[go_sem] theorem R9 (a b : ij) : cc prog .neq 147 (dL a) (dL b) = .bool (!decide (a = b)):=by
 obtain ⟨a1,a2⟩:=a
 obtain ⟨b1,b2⟩:=b
 simp only [dL,tF,qo sg,sx,zf,if_true,Option.map_some,Option.bind_some,Option.getD_some,ij.mk.injEq,Bool.and_true]
 congr 1
 rw [Bool.eq_iff_iff]
 simp
@[go_sem] theorem SN (a b : ij) : cj prog .neq 147 (dL a) (dL b) = True:=by
 simp [dL,uc,qo sg,sx,zf]

def atL (all : List Pkg) (t : List Nat) : List Pkg:=t.filterMap fun i=>all[i]?
end Go.Proofs.Tryz
end
section
namespace Go.Proofs.Tryz
open Go Go.Av
set_option maxRecDepth 10000
variable {W0 : World}

def CF (p q : Pkg) : Bool:=Op.bytesLess q.name p.name || (q.name == p.name && decide (0 ≤ bJ q.ver p.ver))
def qK (p : Pkg) (out : List Pkg) : List Pkg:=out.takeWhile (CF p) ++ p :: out.dropWhile (CF p)
def dP (l : List Pkg) : List Pkg:=l.foldl (fun o p=>qK p o) []
theorem po (p : Pkg) (o : List Pkg) : (qK p o).Perm (p :: o):=by
 unfold qK
 refine List.perm_middle.trans (.cons _ ?_)
 rw [List.takeWhile_append_dropWhile]
theorem kp (l : List Pkg) : (dP l).Perm l:=by
 have key : ∀ (l o : List Pkg),(l.foldl (fun o p=>qK p o) o).Perm (o ++ l):=fun l=>by
  induction l with
  | nil=>intro o; simp
  | cons p l ih =>
   intro o
   refine (ih _).trans ?_
   refine ((po p o).append_right l).trans ?_
   exact List.perm_middle.symm
 have h:=key l []
 rw [List.nil_append] at h
 exact h
structure fS (σ st : ab) (v : AV) (e : TypeId) (xs : List AV) : Prop where
 row : fk st v e xs
 ext : Ext σ st
 low : ∀ j ∈ bb v,σ.length ≤ j
theorem fS.tn {σ st : ab} {v : AV} {e : TypeId} {xs : List AV} (h : fS σ st v e xs) : ei σ st v e xs:=⟨h.row.st,h.ext,fun id hid=>h.low id (by cases v <;> simp [Jj] at hid; subst hid; simp [bb])⟩
theorem fS.app {σ st st' : ab} {x v : AV} {e : TypeId} {xs zs : List AV} (h : fS σ st x e xs) (ha : UO st x e zs v st') : fS σ st' v e zs:=⟨ha.row,ha.fr.EW h.ext h.low,fun j hj=>by
 rcases ha.bb j hj with h1 | h1
 ·exact h.low j h1
 ·exact Nat.le_trans h.ext.le h1⟩
theorem fS.nil {σ st : ab} (h : Ext σ st) (e : TypeId) : fS σ st .au e []:=⟨.inl ⟨rfl,rfl⟩,h,fun j hj=>by simp [bb] at hj⟩

theorem fS.more {σ st : ab} {v : AV} {e : TypeId} {xs : List AV} (h : fS σ st v e xs) (l : ab) : fS σ (st ++ l) v e xs:=⟨h.row.ez fun j hj=>by rw [List.getElem?_append_left (h.row.lt j hj)],h.ext.app l,h.low⟩

end Go.Proofs.Tryz
end
section
namespace Go.Proofs.Tryz
open Go Go.Av
set_option maxRecDepth 10000
variable {W0 : World}

def aE (all : List Pkg) (i : Nat) : Nat:=match all[i]? with
 | some p=>i + ((all.drop i).takeWhile fun q=>q.name == p.name).length
 | none=>i
def ik (all : List Pkg) : Nat → Nat → List Nat → List (List Nat)
 | 0,_,t=>if iR (atL all t) = true then [t] else []
 | f + 1,i,t=>if i = all.length then (if iR (atL all t) = true then [t] else []) else ((List.range' i (aE all i - i)).flatMap fun k=>ik all f (aE all i) (t ++ [k])) ++ ik all f (aE all i) t
inductive sj : List AV → List AV → Prop
 | nil : sj [] []
 | cons {x y : AV} {xs ys : List AV} : Sub x y → sj xs ys → sj (x :: xs) (y :: ys)
theorem sj.append {a b c d : List AV} (h : sj a b) (k : sj c d) : sj (a ++ c) (b ++ d):=by
 induction h with
 | nil=>exact k
 | cons h1 _ ih=>exact .cons h1 ih
theorem sj.get {a b : List AV} (h : sj a b) : a.length = b.length ∧ ∀ (i : Nat) (x y : AV),a[i]? = some x → b[i]? = some y → Sub x y:=by
 induction h with
 | nil=>exact ⟨rfl,fun i x y hx _=>by simp at hx⟩
 | cons h1 _ ih =>
  refine ⟨by simp [ih.1],fun i x y hx hy=>?_⟩
  cases i with
  | zero=>simp at hx hy; subst hx hy; exact h1
  | succ i=>exact ih.2 i x y (by simpa using hx) (by simpa using hy)
theorem sj.sl {a b : List AV} (h : sj a b) (e : TypeId) : Sub (.sl e a) (.sl e b):=.sls h.get.1 h.get.2
theorem AY {α : Type} {f : α → Bool} : ∀ {l : List α} {k : Nat},k ≤ (l.takeWhile f).length → (∀ x,l[k]? = some x → f x = true → k < (l.takeWhile f).length) ∧ (∀ x,l[k]? = some x → f x = false → k = (l.takeWhile f).length) ∧ (l.length ≤ k → k = (l.takeWhile f).length)
 | [],k,h=>by simp at h; subst h; simp
 | a :: l,k,h=>by
  cases hf : f a with
  | false =>
   simp [List.takeWhile_cons,hf] at h ⊢
   subst h
   simp [hf]
  | true =>
   simp [List.takeWhile_cons,hf] at h ⊢
   cases k with
   | zero=>simp [hf]
   | succ k =>
    obtain ⟨h1,h2,h3⟩:=AY (f:=f) (l:=l) (k:=k) (by omega)
    simpa using ⟨h1,h2,h3⟩
theorem k9 {all : List Pkg} {i k : Nat} {p : Pkg} (hp : all[i]? = some p) (hk : k ≤ aE all i - i) :
  (∀ q,all[i + k]? = some q → q.name = p.name → k < aE all i - i) ∧ (∀ q,all[i + k]? = some q → ¬q.name = p.name → i + k = aE all i) ∧ (all.length ≤ i + k → i + k = aE all i):=by
 have hr : aE all i = i + ((all.drop i).takeWhile fun q=>q.name == p.name).length:=by simp [aE,hp]
 rw [hr] at hk ⊢
 rw [Nat.add_sub_cancel_left] at hk ⊢
 obtain ⟨h1,h2,h3⟩:=AY hk
 refine ⟨fun q hq e=>h1 q (by rw [List.getElem?_drop]; exact hq) (by simpa using e),fun q hq e=>?_,fun hl=>?_⟩
 ·rw [← h2 q (by rw [List.getElem?_drop]; exact hq) (by simpa using e)]
 ·rw [← h3 (by rw [List.length_drop]; omega)]
theorem eA {all : List Pkg} {i : Nat} {p : Pkg} (hp : all[i]? = some p) : i < aE all i ∧ aE all i ≤ all.length:=by
 have h0:=(k9 hp (Nat.zero_le _)).1 p hp rfl
 refine ⟨by omega,?_⟩
 have hr : aE all i = i + ((all.drop i).takeWhile fun q=>q.name == p.name).length:=by simp [aE,hp]
 have h1:=(List.takeWhile_sublist (fun q : Pkg=>q.name == p.name) (l:=all.drop i)).length_le
 have h2:=(List.getElem?_eq_some_iff.1 hp).1
 rw [List.length_drop] at h1
 omega
theorem room {d m : Nat} : (d + 1) * 2 ^ m ≤ 2 ^ (d + m):=by
 rw [Nat.pow_add]
 exact Nat.mul_le_mul_right _ (Nat.lt_two_pow_self)

end Go.Proofs.Tryz
end
section
namespace Go.Proofs.Tryz
open Go Go.Av
set_option maxRecDepth 10000
variable {W0 : World}

def Jv (all : List Pkg) (j : Nat) : Option (List UInt8):=(all[j]?).map fun p=>p.name
end Go.Proofs.Tryz
end
section
namespace Go.Av

structure Aj (all : List Pkg) (S : Nat → Bool) : Prop where
 dep : ∀ (i : Nat) (p : Pkg),all[i]? = some p → S i = true → ∀ c ∈ p.pre ++ p.dep,∃ (k : Nat) (q : Pkg),all[k]? = some q ∧ c.any (dY q) = true ∧ S k = true
 con : ∀ (i : Nat) (p : Pkg) (k : Nat) (q : Pkg),all[i]? = some p → all[k]? = some q → k < i → S i = true → S k = true → p.name ≠ q.name ∧ fb p q = false

end Go.Av
end
section
namespace Go.Av

def wj {α β : Type} (f : α → β → Bool) : List α → List β → Bool
 | [],[]=>true
 | x :: xs,y :: ys=>f x y && wj f xs ys
 | _,_=>false
theorem na {α β : Type} {f : α → β → Bool} : ∀ {xs : List α} {ys : List β},wj f xs ys = true → xs.length = ys.length ∧ ∀ (i : Nat) (x : α) (y : β),xs[i]? = some x → ys[i]? = some y → f x y = true
 | [],[],_=>⟨rfl,by simp⟩
 | [],_ :: _,h=>by simp [wj] at h
 | _ :: _,[],h=>by simp [wj] at h
 | x :: xs,y :: ys,h=>by
  rw [wj,Bool.and_eq_true] at h
  obtain ⟨h1,h2⟩:=na h.2
  refine ⟨by simp [h1],fun i x' y' hx hy=>?_⟩
  cases i with
  | zero=>simp at hx hy; subst hx hy; exact h.1
  | succ i=>exact h2 i x' y' (by simpa using hx) (by simpa using hy)

def BW : Nat → AV → AV → Bool
 | 0,_,_=>false
 | n + 1,x,y=>match x,y with
  | .int k a,.int k' b=>decide (k = k') && a == b
  | .bool a,.bool b=>a == b
  | .str a,.str b=>a == b
  | .nil,.nil=>true
  | .au,.au=>true
  | .au,.sl _ []=>true
  | .sl e xs,.sl e' ys=>e == e' && wj (BW n) xs ys
  | .lit e xs,.sl e' ys=>e == e' && wj (BW n) xs ys
  | .agg t xs,.agg t' ys=>t == t' && wj (BW n) xs ys
  | _,_=>false
theorem iU : ∀ {n : Nat} {x y : AV},BW n x y = true → Sub x y
 | 0,_,_,h=>by simp [BW] at h
 | n + 1,x,y,h=>by
  unfold BW at h
  split at h
  ·simp only [Bool.and_eq_true,decide_eq_true_eq,beq_iff_eq] at h
   rw [h.1,h.2]; exact .refl _
  ·rw [beq_iff_eq.1 h]; exact .refl _
  ·rw [beq_iff_eq.1 h]; exact .refl _
  ·exact .refl _
  ·exact .refl _
  ·exact .au _
  ·rw [Bool.and_eq_true,beq_iff_eq] at h
   obtain ⟨rfl,h⟩:=h
   obtain ⟨h1,h2⟩:=na h
   exact .sls h1 fun i x y hx hy=>iU (h2 i x y hx hy)
  ·rw [Bool.and_eq_true,beq_iff_eq] at h
   obtain ⟨rfl,h⟩:=h
   obtain ⟨h1,h2⟩:=na h
   exact .trans (.lits h1 fun i x y hx hy=>iU (h2 i x y hx hy)) (.lit _ _)
  ·rw [Bool.and_eq_true,beq_iff_eq] at h
   obtain ⟨rfl,h⟩:=h
   obtain ⟨h1,h2⟩:=na h
   exact .agg h1 fun i x y hx hy=>iU (h2 i x y hx hy)
  ·cases h

end Go.Av
end
section
namespace Go.Av

def Mf (all : List Pkg) (i : Nat) : Prop:=∃ S,Aj all S ∧ S i = true
def Uy (all : List Pkg) (i j : Nat) : Prop:=∃ S,Aj all S ∧ S i = true ∧ S j = true
def UF (all : List Pkg) (i j : Nat) : Prop:=∃ S,Aj all S ∧ S i = true ∧ S j = false

structure kK (all : List Pkg) (i j : Nat) : Prop where
 ne : i ≠ j
 can : Mf all i
 not : ¬ UF all i j
structure sd (all : List Pkg) (i j : Nat) : Prop where
 ne : i ≠ j
 can : Mf all i
 Ql : Mf all j
 not : ¬ Uy all i j

theorem kK.sel {all : List Pkg} {i j : Nat} (h : kK all i j) {S : Nat → Bool} (hS : Aj all S) (hi : S i = true) : S j = true:=by
 cases hj : S j with
 | true=>rfl
 | false=>exact absurd ⟨S,hS,hi,hj⟩ h.not
theorem kK.trans {all : List Pkg} {i j k : Nat} (h : kK all i j) (h' : kK all j k) (hk : k ≠ i) : kK all i k :=
 ⟨fun e=>hk e.symm,h.can,fun ⟨_,hS,hi,hk⟩=>by rw [h'.sel hS (h.sel hS hi)] at hk; cases hk⟩
theorem kK.never {all : List Pkg} {i j k : Nat} (h : kK all i j) (h' : sd all j k) : sd all i k:=by
 refine ⟨fun e=>?_,h.can,h'.Ql,fun ⟨S,hS,hi,hk⟩=>h'.not ⟨S,hS,h.sel hS hi,hk⟩⟩
 subst e
 obtain ⟨S,hS,hi⟩:=h.can
 exact h'.not ⟨S,hS,h.sel hS hi,hi⟩
theorem sd.symm {all : List Pkg} {i j : Nat} (h : sd all i j) : sd all j i :=
 ⟨fun e=>h.ne e.symm,h.Ql,h.can,fun ⟨S,hS,hj,hi⟩=>h.not ⟨S,hS,hi,hj⟩⟩

theorem mo (p q : Pkg) : fb p q = fb q p:=by
 unfold fb
 rw [Bool.or_comm (nR p q)]
 congr 1
 rw [Bool.eq_iff_iff]
 simp only [bne_iff_ne,ne_eq]
 exact ⟨fun h e=>h e.symm,fun h e=>h e.symm⟩

end Go.Av
end
section
namespace Go.Av

theorem eT (a b : Int) : sgn b a = - sgn a b:=by
 unfold sgn
 split <;> split <;> (try split) <;> (try split) <;> omega
theorem lW (a b : List UInt8) : bQ a b = if rk a = 0 ∧ rk b = 0 then 0 else if rk a = rk b then bQ a.tail b.tail else sgn (rk a) (rk b):=by
 by_cases h1 : rk a = 0 ∧ rk b = 0
 ·rw [if_pos h1,gy h1.1 h1.2]
 ·rw [if_neg h1]
  by_cases h2 : rk a = rk b
  ·rw [if_pos h2,gC (fun e=>h1 ⟨e,by rw [← h2]; exact e⟩) h2]
  ·rw [if_neg h2,dw h2]
theorem pM : ∀ (n : Nat) (a b : List UInt8),a.length ≤ n → bQ b a = - bQ a b
 | 0,a,b,h=>by
  have : a = []:=List.eq_nil_of_length_eq_zero (by omega)
  subst this
  rw [lW b,lW []]
  have h0 : rk [] = 0:=rfl
  rw [h0]
  by_cases hb : rk b = 0
  ·simp [hb]
  ·rw [if_neg (fun e=>hb e.1),if_neg hb,if_neg (fun e=>hb e.2),if_neg (fun e=>hb e.symm),eT]
 | n + 1,a,b,h=>by
  rw [lW b,lW a]
  by_cases h1 : rk a = 0 ∧ rk b = 0
  ·rw [if_pos h1,if_pos ⟨h1.2,h1.1⟩]; rfl
  ·rw [if_neg h1,if_neg (fun e=>h1 ⟨e.2,e.1⟩)]
   by_cases h2 : rk a = rk b
   ·have ha : rk a ≠ 0:=fun e=>h1 ⟨e,by rw [← h2]; exact e⟩
    obtain ⟨c,r,rfl,_⟩:=Ad ha
    rw [if_pos h2,if_pos h2.symm]
    exact pM n r b.tail (by simpa using h)
   ·rw [if_neg h2,if_neg (fun e=>h2 e.symm),eT]
theorem tL : ∀ (a b : List UInt8),gA b a = - gA a b
 | [],b=>by cases b <;> rfl
 | x :: a,[]=>rfl
 | x :: a,y :: b=>by
  unfold gA
  by_cases h : x = y
  ·rw [if_pos h,if_pos h.symm]; exact tL a b
  ·rw [if_neg h,if_neg (fun e=>h e.symm),eT]
theorem qT {a b : List UInt8} (h : ¬ (a = [] ∧ b = [])) : br a b = if bQ a b ≠ 0 then bQ a b
  else if bc (aR a) ≠ bc (aR b) then sgn (bc (aR a)) (bc (aR b))
  else if gA ((aR a).take (bc (aR a))) ((aR b).take (bc (aR b))) ≠ 0 then gA ((aR a).take (bc (aR a))) ((aR b).take (bc (aR b)))
  else br ((aR a).drop (bc (aR a))) ((aR b).drop (bc (aR b))):=by
 rw [br,dif_neg h]
theorem q6 : ∀ (n : Nat) (a b : List UInt8),a.length + b.length ≤ n → br b a = - br a b
 | 0,a,b,h=>by
  have h1 : a = []:=List.eq_nil_of_length_eq_zero (by omega)
  have h2 : b = []:=List.eq_nil_of_length_eq_zero (by omega)
  subst h1 h2
  rw [br,dif_pos ⟨rfl,rfl⟩]; rfl
 | n + 1,a,b,h=>by
  by_cases h0 : a = [] ∧ b = []
  ·rw [br,dif_pos ⟨h0.2,h0.1⟩,br,dif_pos h0]; rfl
  ·have hlt:=wO h0
   have ih:=q6 n ((aR a).drop (bc (aR a))) ((aR b).drop (bc (aR b))) (by omega)
   rw [qT (a:=b) (b:=a) (fun e=>h0 ⟨e.2,e.1⟩),qT h0,pM _ a b (Nat.le_refl _)]
   by_cases h1 : bQ a b = 0
   ·rw [if_neg (show ¬ (- bQ a b ≠ 0) by omega),if_neg (show ¬ (bQ a b ≠ 0) by omega)]
    by_cases h2 : bc (aR a) = bc (aR b)
    ·rw [if_neg (show ¬ (bc (aR b) ≠ bc (aR a)) by omega),if_neg (show ¬ (bc (aR a) ≠ bc (aR b)) by omega),tL ((aR a).take (bc (aR a)))]
     by_cases h3 : gA ((aR a).take (bc (aR a))) ((aR b).take (bc (aR b))) = 0
     ·rw [if_neg (show ¬ (- gA ((aR a).take (bc (aR a))) ((aR b).take (bc (aR b))) ≠ 0) by omega),if_neg (show ¬ (gA ((aR a).take (bc (aR a))) ((aR b).take (bc (aR b))) ≠ 0) by omega)]; exact ih
     ·rw [if_pos (show - gA ((aR a).take (bc (aR a))) ((aR b).take (bc (aR b))) ≠ 0 by omega),if_pos h3]
    ·rw [if_pos (show bc (aR b) ≠ bc (aR a) by omega),if_pos h2,eT]
   ·rw [if_pos (show - bQ a b ≠ 0 by omega),if_pos h1]
theorem mN (a b : List UInt8) : br b a = - br a b:=q6 _ a b (Nat.le_refl _)
theorem jf (a b : List UInt8) : bJ b a = - bJ a b:=by
 unfold bJ
 rcases iM a with _ | ⟨e,u,r⟩
 ·rcases iM b with _ | ⟨f,v,s⟩ <;> rfl
 ·rcases iM b with _ | ⟨f,v,s⟩
  ·rfl
  ·show (if br f e ≠ 0 then br f e else if br v u ≠ 0 then br v u else br s r) = - (if br e f ≠ 0 then br e f else if br u v ≠ 0 then br u v else br r s)
   rw [mN e f,mN u v,mN r s]
   by_cases h1 : br e f = 0
   ·by_cases h2 : br u v = 0
    ·simp [h1,h2]
    ·rw [if_neg (show ¬ (- br e f ≠ 0) by omega),if_neg (show ¬ (br e f ≠ 0) by omega),if_pos (show - br u v ≠ 0 by omega),if_pos h2]
   ·rw [if_pos (show - br e f ≠ 0 by omega),if_pos h1]
theorem j7 (a b : List UInt8) : bt b a = bt a b:=by
 unfold bt
 rw [jf a b,Bool.and_comm (bz b)]
 congr 1
 rw [Bool.eq_iff_iff,beq_iff_eq,beq_iff_eq]
 omega
theorem xC (p q : Pkg) : e8 p q = e8 q p:=by
 unfold e8
 rw [j7]
 congr 1
 rw [Bool.eq_iff_iff,beq_iff_eq,beq_iff_eq]
 exact ⟨fun h=>h.symm,fun h=>h.symm⟩

theorem qM : ∀ (l bef : List Pkg),rW bef l = false ↔ (∀ p ∈ l,∀ q ∈ bef,e8 p q = false) ∧ l.Pairwise fun x y=>e8 y x = false
 | [],bef=>by simp [rW]
 | p :: r,bef=>by
  rw [rW,Bool.or_eq_false_iff,qM r,List.pairwise_cons,List.any_eq_false]
  constructor
  ·rintro ⟨h1,h2,h3⟩
   refine ⟨fun x hx q hq=>?_,fun x hx=>h2 x hx p (by simp),h3⟩
   rcases List.mem_cons.1 hx with rfl | hx
   ·simpa using h1 q hq
   ·exact h2 x hx q (by simp [hq])
  ·rintro ⟨h1,h2,h3⟩
   refine ⟨fun q hq=>by simpa using h1 p (by simp) q hq,fun x hx q hq=>?_,h3⟩
   rcases List.mem_append.1 hq with hq | hq
   ·exact h1 x (by simp [hx]) q hq
   ·rw [List.mem_singleton.1 hq]; exact h2 x hx
theorem qQ : ∀ (l : List Pkg) (acc : List (List UInt8)) (x : List UInt8),x ∈ fw l acc ↔ x ∈ acc ∨ ∃ p ∈ l,p.name = x
 | [],acc,x=>by simp [fw]
 | p :: r,acc,x=>by
  rw [fw,qQ r]
  by_cases h : acc.any (fun x=>p.name == x) = true
  ·rw [if_pos h]
   obtain ⟨y,hy,e⟩:=List.any_eq_true.1 h
   have e:=beq_iff_eq.1 e
   constructor
   ·rintro (h | ⟨q,hq,e⟩)
    ·exact .inl h
    ·exact .inr ⟨q,by simp [hq],e⟩
   ·rintro (h | ⟨q,hq,e'⟩)
    ·exact .inl h
    ·rcases List.mem_cons.1 hq with rfl | hq
     ·exact .inl (by rw [← e',e]; exact hy)
     ·exact .inr ⟨q,hq,e'⟩
  ·rw [if_neg h,List.mem_append,List.mem_singleton]
   constructor
   ·rintro ((h | rfl) | ⟨q,hq,e⟩)
    ·exact .inl h
    ·exact .inr ⟨p,by simp,rfl⟩
    ·exact .inr ⟨q,by simp [hq],e⟩
   ·rintro (h | ⟨q,hq,e'⟩)
    ·exact .inl (.inl h)
    ·rcases List.mem_cons.1 hq with rfl | hq
     ·exact .inl (.inr e'.symm)
     ·exact .inr ⟨q,hq,e'⟩
theorem ng : ∀ (l : List Pkg) (acc : List (List UInt8)),acc.Nodup → (fw l acc).Nodup
 | [],acc,h=>h
 | p :: r,acc,h=>by
  rw [fw]
  refine ng r _ ?_
  by_cases hm : acc.any (fun x=>p.name == x) = true
  ·rw [if_pos hm]; exact h
  ·rw [if_neg hm]
   refine List.nodup_append.2 ⟨h,by simp,fun a ha b hb e=>?_⟩
   rw [List.mem_singleton] at hb
   subst hb
   exact hm (List.any_eq_true.2 ⟨a,ha,by simp [e]⟩)
theorem tZ {α : Type} [DecidableEq α] : ∀ (l m : List α),l.Nodup → (∀ x ∈ l,x ∈ m) → l.length ≤ m.length
 | [],_,_,_=>Nat.zero_le _
 | x :: l,m,hn,h=>by
  rw [List.nodup_cons] at hn
  have hx:=h x (by simp)
  have:=tZ l (m.erase x) hn.2 fun y hy=>by
   have hne : y ≠ x:=fun e=>hn.1 (by rw [← e]; exact hy)
   exact (List.mem_erase_of_ne hne).2 (h y (by simp [hy]))
  rw [List.length_erase_of_mem hx] at this
  have:=List.length_pos_of_mem hx
  simp; omega
theorem Am : ∀ (l : List Int),orL l = 0 ↔ ∀ x ∈ l,x = 0
 | []=>by simp [orL]
 | y :: r=>by
  constructor
  ·exact iP
  ·intro h
   rw [orL,if_neg (by simp [h y (by simp)])]
   exact (Am r).2 fun x hx=>h x (by simp [hx])
end Go.Av
end
section
namespace Go.Av

structure HL (l : List Pkg) : Prop where
 may : ∀ p ∈ l,bn p = 0
 pair : l.Pairwise fun p q=>p.name ≠ q.name ∧ fb p q = false
 met : ∀ p ∈ l,∀ c ∈ p.pre ++ p.dep,∃ q ∈ l,c.any (dY q) = true

theorem wU {c : Clause} {l : List Pkg} : zG c l = true ↔ ∃ q ∈ l,c.any (dY q) = true:=by
 unfold zG
 simp only [List.any_eq_true]
 constructor
 ·rintro ⟨a,ha,q,hq,h⟩
  exact ⟨q,hq,a,ha,h⟩
 ·rintro ⟨q,hq,a,ha,h⟩
  exact ⟨a,ha,q,hq,h⟩
theorem Bh {l bef : List Pkg} {p : Pkg} : Du l bef p = false ↔ bn p = 0 ∧ (∀ q ∈ bef,q.name ≠ p.name ∧ fb p q = false) ∧ ∀ c ∈ p.pre ++ p.dep,∃ q ∈ l,c.any (dY q) = true:=by
 unfold Du
 simp only [Bool.or_eq_false_iff,bne_eq_false_iff_eq,List.any_eq_false,Bool.not_eq_true',Bool.not_eq_true,Bool.not_eq_false',List.mem_append,← wU]
 constructor
 ·rintro ⟨⟨h1,h2⟩,h3,h4⟩
  refine ⟨h1,fun q hq=>?_,fun c hc=>?_⟩
  ·have:=h2 q hq
   simp at this
   exact this
  ·rcases hc with hc | hc
   ·simpa using h3 c hc
   ·simpa using h4 c hc
 ·rintro ⟨h1,h2,h3⟩
  refine ⟨⟨h1,fun q hq=>?_⟩,fun c hc=>by simpa using h3 c (.inl hc),fun c hc=>by simpa using h3 c (.inr hc)⟩
  have:=h2 q hq
  simp [this]
theorem tw {l : List Pkg} : ∀ (r bef : List Pkg),wx l bef r = false ↔ (∀ p ∈ r,bn p = 0 ∧ ∀ c ∈ p.pre ++ p.dep,∃ q ∈ l,c.any (dY q) = true) ∧ (∀ p ∈ r,∀ q ∈ bef,q.name ≠ p.name ∧ fb p q = false) ∧ r.Pairwise fun q p=>q.name ≠ p.name ∧ fb p q = false
 | [],bef=>by simp [wx]
 | p :: r,bef=>by
  rw [wx,Bool.or_eq_false_iff,Bh,tw r,List.pairwise_cons]
  constructor
  ·rintro ⟨⟨h1,h2,h3⟩,h4,h5,h6⟩
   refine ⟨fun x hx=>?_,fun x hx q hq=>?_,fun x hx=>h5 x hx p (by simp),h6⟩
   ·rcases List.mem_cons.1 hx with rfl | hx
    ·exact ⟨h1,h3⟩
    ·exact h4 x hx
   ·rcases List.mem_cons.1 hx with rfl | hx
    ·exact h2 q hq
    ·exact h5 x hx q (by simp [hq])
  ·rintro ⟨h1,h2,h3,h4⟩
   refine ⟨⟨(h1 p (by simp)).1,fun q hq=>h2 p (by simp) q hq,(h1 p (by simp)).2⟩,fun x hx=>h1 x (by simp [hx]),fun x hx q hq=>?_,h4⟩
   rcases List.mem_append.1 hq with hq | hq
   ·exact h2 x (by simp [hx]) q hq
   ·rw [List.mem_singleton.1 hq]; exact h3 x hx
theorem xp {l : List Pkg} : iR l = true ↔ HL l:=by
 unfold iR
 rw [Bool.not_eq_true',tw]
 constructor
 ·rintro ⟨h1,_,h3⟩
  exact ⟨fun p hp=>(h1 p hp).1,h3.imp fun {a b} h=>⟨h.1,by rw [mo]; exact h.2⟩,fun p hp=>(h1 p hp).2⟩
 ·intro h
  exact ⟨fun p hp=>⟨h.may p hp,h.met p hp⟩,by simp,h.pair.imp fun {a b} h=>⟨h.1,by rw [mo]; exact h.2⟩⟩
theorem HL.perm {l m : List Pkg} (h : HL l) (hp : l.Perm m) : HL m :=
 ⟨fun p hm=>h.may p (hp.symm.subset hm),hp.pairwise h.pair fun {a b} h=>⟨fun e=>h.1 e.symm,by rw [mo]; exact h.2⟩,fun p hm c hc=>by
  obtain ⟨q,h1,h2⟩:=h.met p (hp.symm.subset hm) c hc
  exact ⟨q,hp.subset h1,h2⟩⟩

def pick (S : Nat → Bool) : Nat → List Pkg → List Pkg
 | _,[]=>[]
 | i,p :: r=>if S i = true then p :: pick S (i + 1) r else pick S (i + 1) r
end Go.Av
end
section
namespace Go.Proofs.Tryz
open Go Go.Av

def IZ (all : List Pkg) (S : Nat → Bool) (x : Clause) : Prop:=∃ (m : Nat) (q : Pkg),all[m]? = some q ∧ x.any (dY q) = true ∧ S m = true
def Jg (all : List Pkg) (S : Nat → Bool) (i : Nat) (x : Atom) : Prop:=∀ (m : Nat) (q : Pkg),all[m]? = some q → S m = true → m ≠ i → dY q x = false
structure Kh (all : List Pkg) (S : Nat → Bool) (c : Nat × Nat × Nat) : Prop where
 pre : c.2.1 = 1 → ∀ p x,all[c.1]? = some p → p.pre[c.2.2]? = some x → IZ all S x
 dep : c.2.1 = 2 → ∀ p x,all[c.1]? = some p → p.dep[c.2.2]? = some x → IZ all S x
 con : c.2.1 = 3 → ∀ p x,all[c.1]? = some p → p.con[c.2.2]? = some x → Jg all S c.1 x
 brk : c.2.1 = 4 → ∀ p x,all[c.1]? = some p → p.brk[c.2.2]? = some x → Jg all S c.1 x
structure UY (all : List Pkg) (e : List (Nat × Nat × Nat)) (S : Nat → Bool) : Prop where
 name : ∀ (a b : Nat) (p q : Pkg),all[a]? = some p → all[b]? = some q → a ≠ b → S a = true → S b = true → p.name ≠ q.name
 US : ∀ c ∈ e,S c.1 = true → Kh all S c

end Go.Proofs.Tryz
end
section
namespace Go.Proofs.Tryz
open Go Go.Av

def Hx (all : List Pkg) (c : Nat × Nat × Nat) : Clause:=match all[c.1]? with
 | some p=>(match c.2.1 with
  | 1=>(p.pre[c.2.2]?).getD []
  | 2=>(p.dep[c.2.2]?).getD []
  | 3=>((p.con[c.2.2]?).map fun x=>[x]).getD []
  | _=>((p.brk[c.2.2]?).map fun x=>[x]).getD [])
 | none=>[]
def Q5 (all : List Pkg) (cl : Clause) (m : Nat) : Bool:=match all[m]? with
 | some q=>cl.any (dY q)
 | none=>false
def jX (all : List Pkg) (cl : Clause) (n : Nat) : List Nat:=(List.range n).filter (Q5 all cl)
def zO (all : List Pkg) (c : Nat × Nat × Nat) : List Nat:=jX all (Hx all c) all.length
structure UX (all : List Pkg) (e : List (Nat × Nat × Nat)) (S : Nat → Bool) : Prop where
 name : ∀ i k,k < i → i < all.length → Jv all k = Jv all i → S i = true → S k = true → False
 con : ∀ c ∈ e,(c.2.1 = 3 ∨ c.2.1 = 4) → ∀ m ∈ zO all c,m ≠ c.1 → S c.1 = true → S m = true → False
 dep : ∀ c ∈ e,(c.2.1 = 1 ∨ c.2.1 = 2) → S c.1 = true → ∃ m ∈ zO all c,S m = true

end Go.Proofs.Tryz
end
section
namespace Go.Proofs.Tryz
open Go Go.Av
set_option maxRecDepth 10000
variable {W0 : World}

theorem tT {x y a b : AV} (h1 : cI x y) (h2 : cI a b) : cI (.tup [x,a]) (.tup [y,b]):=.tup rfl fun i u v hu hv=>by
 rcases i with _ | _ | i <;> simp at hu hv
 ·subst hu hv; exact h1
 ·subst hu hv; exact h2
end Go.Proofs.Tryz
end
