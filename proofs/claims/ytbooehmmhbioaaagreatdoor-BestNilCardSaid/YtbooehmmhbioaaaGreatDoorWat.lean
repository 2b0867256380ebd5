/- Texts that the last one of this claim rests on: a layer over the guide's own conditions for code; contracts of the functions that the law reaches, one by one. No conditions beside those of the given rows. -/
import Derived.WalkKit
import Derived.Lib.SliceRun
import Derived.Test.YtbooehmmhbioaaaGreatDoorWai
import Derived.Test.YtbooehmmhbioaaaGreatDoorWal
import Derived.Test.YtbooehmmhbioaaaGreatDoorWam
import Derived.Test.YtbooehmmhbioaaaGreatDoorWan
import Derived.Test.YtbooehmmhbioaaaGreatDoorWao
import Derived.Test.YtbooehmmhbioaaaGreatDoorWaq
import Derived.Test.YtbooehmmhbioaaaGreatDoorWar
import Derived.Test.YtbooehmmhbioaaaGreatDoorWas
set_option linter.unusedSimpArgs false
set_option linter.unusedVariables false
section
namespace Go.Av
def oX (st : ab) (v : AV) (e : TypeId) (xs : List AV) : Prop:=v = .sl e xs ∨ ∃ id,v = .row e id 0 xs.length ∧ st[id]? = some (some (.cells e xs))
section
variable {σ st : ab} {v : AV} {e : TypeId} {xs : List AV}
theorem oX.notM (h : oX st v e xs) : cD v:=by
 rcases h with rfl | ⟨_,rfl,_⟩ <;> trivial
theorem oX.ok (h : oX st v e xs) (g : Option Bool) : okM g v = True:=bP h.notM
theorem oX.un (h : oX st v e xs) : unm v = v:=cp h.notM
theorem oX.len (h : oX st v e xs) : oL v = .int .i64 xs.length:=by
 rcases h with rfl | ⟨_,rfl,_⟩ <;> rfl
theorem oX.ext (h : oX σ v e xs) (hx : Ext σ st) : oX st v e xs:=by
 rcases h with h | ⟨id,h1,h2⟩
 ·exact .inl h
 ·exact .inr ⟨id,h1,by rw [(Fr.ext (F:=[]) hx).old id (List.getElem?_eq_some_iff.1 h2).1 (by simp)]; exact h2⟩
theorem oX.gT (h : oX st v e xs) (P : Program) (t : TypeId) : gT P t v = ((elT P t).isSome = true):=by
 rcases h with rfl | ⟨_,rfl,_⟩ <;> rfl
end
end Go.Av
namespace Go.Proofs.Tryz
open Go Go.Av
set_option maxRecDepth 10000
variable {W0 : World}

end Go.Proofs.Tryz
end
section
namespace Go.Av
structure nF (rid : Nat) (σ σ' : ab) : Prop where
 len : σ.length ≤ σ'.length
 old : ∀ j,j < σ.length → j ≠ rid → σ'[j]? = σ[j]?
theorem nF.refl (b : Nat) (σ : ab) : nF b σ σ:=⟨Nat.le_refl _,fun _ _ _=>rfl⟩
theorem nF.trans {b : Nat} {σ σ' σ'' : ab} (h : nF b σ σ') (k : nF b σ' σ'') : nF b σ σ'':=⟨Nat.le_trans h.len k.len,fun j hj hn=>(k.old j (Nat.lt_of_lt_of_le hj h.len) hn).trans (h.old j hj hn)⟩
theorem nF.set {b : Nat} {σ σ' : ab} (h : nF b σ σ') (o : Option cM) : nF b σ (σ'.set b o):=⟨by simpa using h.len,fun j hj hn=>by rw [List.getElem?_set_ne (fun e=>hn e.symm)]; exact h.old j hj hn⟩
theorem nF.app {b : Nat} {σ σ' : ab} (h : nF b σ σ') (l : ab) : nF b σ (σ' ++ l):=⟨by have:=h.len; simp; omega,fun j hj hn=>by rw [List.getElem?_append_left (by have:=h.len; omega)]; exact h.old j hj hn⟩
theorem nF.ext {b : Nat} {σ τ σ' : ab} (h : nF b τ σ') (k : Ext σ τ) (hb : σ.length ≤ b) : Ext σ σ':=by
 refine List.ext_getElem? fun j=>?_
 rw [List.getElem?_take]
 split
 ·rename_i hj
  rw [h.old j (by have:=k.le; omega) (by omega),k.eq,List.getElem?_append_left hj]
 ·rw [List.getElem?_eq_none (by omega)]
theorem ve (u v : AV) : nW true u v = u:=by
 unfold nW mK
 cases u <;> cases v <;> rfl
end Go.Av
namespace Go.Proofs.Tryz
open Go Go.Av
set_option maxRecDepth 10000
variable {W0 : World}

end Go.Proofs.Tryz
end
section
namespace Go.Proofs.Tryz
open Go Go.Av
set_option maxRecDepth 10000
variable {W0 : World}

def nlz (e : TypeId) (xs : List AV) : AV:=match xs with
 | []=>.au
 | x :: r=>.sl e (x :: r)
theorem vo {e : TypeId} {xs : List AV} (h : aN 0 (.sl e xs)) : aN 0 (nlz e xs):=by
 cases xs with
 | nil=>exact .au
 | cons x r=>exact h
def KA (l : List Clause) : AV:=nlz 72 (l.map aH)
def EJ (l : List Atom) : AV:=nlz 81 (l.map bs)
def Mk (l : List ij) : AV:=nlz 147 (l.map dL)
end Go.Proofs.Tryz
end
section
namespace Go.Av
def hd0 : List UInt8 → UInt8
 | []=>0
 | c :: _=>c
end Go.Av
namespace Go.Proofs.Tryz
open Go Go.Av
set_option maxRecDepth 10000
variable {W0 : World}

end Go.Proofs.Tryz
end
section
namespace Go.Proofs.Tryz
open Go Go.Av
end Go.Proofs.Tryz
namespace Go.Proofs.Tryz
open Go Go.Av
set_option maxRecDepth 10000
variable {W0 : World}

theorem E3 (l : List Atom) (hl : l.length ≤ 1048576) : af prog W0 153 [nlz 81 (l.map bs)] (nlz 81 (l.map bs)):=by
 refine ai [2] [] func153 rfl rfl ntmps153 rfl rfl (vo (jj qL l)) fun hs σ=>?_
 cases l with
 | nil =>
  simp only [go_sem,simprocAttr,List.map_nil,nlz]
 | cons x c =>
  simp only [go_sem,simprocAttr,List.map_cons,nlz]
  refine cy.own 1048576 (by kernel_rfl) (.inr (.inl rfl)) (.sl _ _ _) (by simpa using hl) fun v' σ' ha'=>?_
  have hb':=(aX.app (σ:=σ) ⟨.inr (.inl rfl),.refl _,fun t h=>by cases h⟩ ha')
  simp only [go_sem,simprocAttr,hb'.ok,hb'.un]
  exact ⟨hb'.cK,hb'.ext⟩
theorem Dw (l : List ij) (hl : l.length ≤ 1048576) : af prog W0 154 [nlz 147 (l.map dL)] (nlz 147 (l.map dL)):=by
 refine ai [2] [] func154 rfl rfl ntmps154 rfl rfl (vo (jj ya l)) fun hs σ=>?_
 cases l with
 | nil =>
  simp only [go_sem,simprocAttr,List.map_nil,nlz]
 | cons x c =>
  simp only [go_sem,simprocAttr,List.map_cons,nlz]
  refine cy.own 1048576 (by kernel_rfl) (.inr (.inl rfl)) (.sl _ _ _) (by simpa using hl) fun v' σ' ha'=>?_
  have hb':=(aX.app (σ:=σ) ⟨.inr (.inl rfl),.refl _,fun t h=>by cases h⟩ ha')
  simp only [go_sem,simprocAttr,hb'.ok,hb'.un]
  exact ⟨hb'.cK,hb'.ext⟩
theorem Cz (l : List Atom) (hl : l.length ≤ 1048576) : af prog W0 152 [nlz 81 (l.map bs)] (nlz 81 (l.map bs)):=by
 refine ai [2] [] func152 rfl rfl ntmps152 rfl rfl (vo (jj qL l)) fun hs σ=>?_
 cases l with
 | nil =>
  simp only [go_sem,simprocAttr,List.map_nil,nlz]
 | cons x c =>
  simp only [go_sem,simprocAttr,List.map_cons,nlz]
  refine cy.own 1048576 (by kernel_rfl) (.inr (.inl rfl)) (.sl _ _ _) (by simpa using hl) fun v' σ' ha'=>?_
  have hb':=(aX.app (σ:=σ) ⟨.inr (.inl rfl),.refl _,fun t h=>by cases h⟩ ha')
  simp only [go_sem,simprocAttr,hb'.ok,hb'.un]
  exact ⟨hb'.cK,hb'.ext⟩
end Go.Proofs.Tryz
end
section
namespace Go.Proofs.Tryz
open Go Go.Av
set_option maxRecDepth 10000
variable {W0 : World}

def R6 (p : Pkg) : AV:=.agg 54 [.str p.name,.str p.ver,KA p.pre,KA p.dep,KA p.rcm,EJ p.con,EJ p.brk,Mk p.gr,.bool p.ess]
def Uf (x : aK) : AV:=.agg 56 [R6 x.pkg,.bool x.GZ,.bool x.hold]
end Go.Proofs.Tryz
end
section
namespace Go.Av
theorem E8 {α : Type} {g : α → Nat} : ∀ {l : List α} {a : α},a ∈ l → g a ≤ (l.map g).sum
 | b :: l,a,h=>by
  rcases List.mem_cons.1 h with rfl | h
  ·simp
  ·have:=E8 (g:=g) h
   simp; omega
theorem D7 {α : Type} {g h : α → Nat} (hg : ∀ a,g a ≤ h a) : ∀ l : List α,(l.map g).sum ≤ (l.map h).sum
 | []=>by simp
 | a :: l=>by
  have:=D7 hg l
  have:=hg a
  simp; omega
structure J5 (s : Stz) : Prop where
 ln : -9223372036854775808 ≤ s.line
 fl : s.fields.length ≤ 1048576
 sz : (s.fields.map fun f=>f.lines.length).sum ≤ 1048574
 fd : ∀ f ∈ s.fields,vy f.lines + f.lines.length ≤ 140737488355328 ∧ (Jn f.name = 7 ∨ (k8 f.lines).length ≤ 1048574)
end Go.Av
namespace Go.Proofs.Tryz
open Go Go.Av
set_option maxRecDepth 10000
variable {W0 : World}

end Go.Proofs.Tryz
end
section
namespace Go.Av
structure Jf (s : Stz) : Prop where
 ln : -9223372036854775808 ≤ s.line
 fl : s.fields.length ≤ 1048576
 sz : (s.fields.map fun f=>vy f.lines + f.lines.length).sum ≤ 1048574
theorem Jf.wide {s : Stz} (h : Jf s) : J5 s:=by
 have hs:=D7 (g:=fun f : Fld=>f.lines.length) (h:=fun f : Fld=>vy f.lines + f.lines.length) (fun f=>by omega) s.fields
 refine ⟨h.ln,h.fl,Nat.le_trans hs h.sz,fun f hf=>?_⟩
 have:=Nat.le_trans (E8 (g:=fun f : Fld=>vy f.lines + f.lines.length) hf) h.sz
 exact ⟨Nat.le_trans this (by decide),.inr (Nat.le_trans (Cn _) this)⟩
end Go.Av
namespace Go.Proofs.Tryz
open Go Go.Av
set_option maxRecDepth 10000
variable {W0 : World}

theorem Fl (p : Pkg) : Sub (R6 p) (ax p):=.agg rfl fun i a b ha hb=>by
 have nz : ∀ (e : TypeId) (xs : List AV),Sub (nlz e xs) (.sl e xs):=fun e xs=>by
  cases xs with
  | nil=>exact .au _
  | cons x r=>exact .refl _
 match i,ha,hb with
 | 0,ha,hb | 1,ha,hb | 8,ha,hb=>cases ha; cases hb; exact .refl _
 | 2,ha,hb | 3,ha,hb | 4,ha,hb | 5,ha,hb | 6,ha,hb | 7,ha,hb=>cases ha; cases hb; exact nz _ _
end Go.Proofs.Tryz
end
section
namespace Go.Proofs.Tryz
open Go Go.Av
set_option maxRecDepth 10000
variable {W0 : World}

def bL (x : aK) : AV:=.agg 56 [ax x.pkg,.bool x.GZ,.bool x.hold]
def bq (l : List aK) : AV:=.sl 56 (l.map bL)
theorem yP (l : List aK) (hp : ∀ x ∈ l,oK x.pkg) : af prog W0 34 [bq l] (.int .i64 (gn l)):=by
 refine ai [2] [4] func34 rfl rfl ntmps34 rfl rfl (.int _ _) fun hs σ=>?_
 have hl:=(bu (hs _ (List.mem_cons_self ..))).1
 simp only [go_sem,simprocAttr,bq,List.length_map]
 refine ⟨fun h=>aD (by rw [gn,if_pos ((wk l 10).1 (by simpa using h))]),fun h=>?_⟩
 have h10 : ¬ 10 < l.length:=fun e=>by have:=(wk l 10).2 e; omega
 refine ah.at [0] (.of (by kernel_rfl)) (fun A=>Ext σ A.st ∧ orL (l.map fun x=>bn x.pkg) = 0) ?_ fun B ⟨hst,h6⟩=>?_
 ·refine ah.upto [0,10,11] (.of (by kernel_rfl)) l.length (fun i A=>A.env 12 = .int .i64 i ∧ Ext σ A.st ∧ orL ((l.map fun x=>bn x.pkg).drop i) = orL (l.map fun x=>bn x.pkg)) 0 (Nat.zero_le _) ?_ fun i B hi ⟨h8,hst,hI⟩=>?_
  ·simp only [go_sem,simprocAttr]
   simp [Ext.refl]
  simp only [go_sem,simprocAttr,h8,List.length_map]
  refine ⟨fun hc=>⟨hc,?_⟩,fun hc=>?_⟩
  ·obtain ⟨a,ha⟩:=get_some hc
   obtain ⟨hlt,hae⟩:=List.getElem?_eq_some_iff.1 ha
   rw [List.drop_eq_getElem_cons (by simpa using hc),List.getElem_map,hae] at hI
   simp only [ay ha]
   simp only [go_sem,simprocAttr,bL,h8,List.length_map]
   refine aj.fn (CN a.pkg (hp a (List.mem_of_getElem? ha))) ?_
   simp only [go_sem,simprocAttr,h8]
   refine ⟨fun hq=>⟨aD ?_,hst.app _⟩,fun hq=>⟨hc,aq hc hl,hst.app _,?_⟩⟩
   ·rw [orL,if_pos hq] at hI
    rw [gn,if_neg h10,if_pos (by rw [← hI]; exact hq),hI]
   ·rw [← hI,orL,if_neg (by simpa using hq)]
  ·rw [List.drop_eq_nil_of_le (by simpa using hc)] at hI
   exact ⟨hst,hI.symm⟩
 have hm : gn l = if pZ l = true then 4 else 0:=by rw [gn,if_neg h10,if_neg (by simp [h6])]
 simp only [go_sem,simprocAttr,List.length_map]
 refine ah.upto [0] (.of (by kernel_rfl)) (max 1 l.length) (fun i A=>A.env 6 = .int .i64 i ∧ 1 ≤ i ∧ Ext σ A.st ∧ pZ (l.drop (i - 1)) = pZ l) 1 (Nat.le_max_left _ _) ?_ fun i A hi ⟨h6',h1,hst',hI⟩=>?_
 ·simp only [go_sem,simprocAttr]
  exact hst
 simp only [go_sem,simprocAttr,h6',List.length_map]
 refine ⟨fun hc=>?_,fun hc=>?_⟩
 ·have hc' : i < l.length:=by omega
  obtain ⟨j,rfl⟩ : ∃ j,i = j + 1:=⟨i - 1,by omega⟩
  obtain ⟨a,ha⟩:=get_some (show j < l.length by omega)
  obtain ⟨b,hb⟩:=get_some hc'
  have hw : IntKind.i64.wrap (((j + 1 : Nat) : Int) - 1) = (j : Nat):=by rw [aF (by rw [av] at hl; omega)]; omega
  simp only [hw]
  simp only [go_sem,simprocAttr,h6',List.length_map,ay ha,ay hb,bL,ax]
  have hd : l.drop j = a :: l.drop (j + 1):=by rw [List.drop_eq_getElem_cons (by omega)]; congr 1; exact (List.getElem?_eq_some_iff.1 ha).2
  have hd1 : l.drop (j + 1) = b :: l.drop (j + 1 + 1):=by rw [List.drop_eq_getElem_cons hc']; congr 1; exact (List.getElem?_eq_some_iff.1 hb).2
  have hI' : pZ (l.drop j) = pZ l:=hI
  rw [hd,hd1,pZ,← hd1] at hI'
  refine ⟨.of (by kernel_rfl),by omega,hc',fun hq=>⟨aD ?_,hst'⟩,fun hq=>⟨by omega,aq hc' hl,hst',?_⟩⟩
  ·rw [hm,← hI',hq,if_pos (by simp)]
  ·rw [← hI',hq]; simp
 ·have hn : pZ l = false:=by
   rw [← hI]
   have hlen : (l.drop (i - 1)).length ≤ 1:=by rw [List.length_drop]; omega
   generalize l.drop (i - 1) = r at hlen
   match r,hlen with
   | [],_=>rfl
   | [x],_=>rfl
  exact ⟨aD (by rw [hm,hn]; rfl),hst'⟩
end Go.Proofs.Tryz
end
section
namespace Go.Proofs.Tryz
open Go Go.Av
set_option maxRecDepth 10000
variable {W0 : World}

theorem E9 (x : aK) : Sub (Uf x) (bL x):=.agg rfl fun i a b ha hb=>by
 match i,ha,hb with
 | 0,ha,hb=>cases ha; cases hb; exact Fl _
 | 1,ha,hb | 2,ha,hb=>cases ha; cases hb; exact .refl _
theorem uy (x : aK) : aN 0 (bL x):=.agg fun y hy=>by
 simp at hy
 rcases hy with rfl | rfl | rfl
 ·exact qp _
 ·exact .bool _
 ·exact .bool _
theorem xe (l : List aK) : aN 0 (bq l):=jj uy l
end Go.Proofs.Tryz
end
section
namespace Go.Proofs.Tryz
open Go Go.Av
set_option maxRecDepth 10000
variable {W0 : World}
theorem wc (a b : List Atom) : af prog W0 87 [aH a,aH b] (.bool (decide (a = b))):=by
 refine ai [4] [] func87 rfl rfl ntmps87 rfl rfl (.bool _) fun hs σ=>?_
 have hl:=(bu (hs _ (List.mem_cons_self ..))).1
 simp only [go_sem,simprocAttr,aH,List.length_map]
 refine ⟨fun h=>al (decide_eq_false fun e=>h (by rw [e])).symm,fun h=>?_⟩
 have hab : a.length = b.length:=by omega
 refine ah.upto [0,1,12] (.of (by kernel_rfl)) a.length (fun i A=>A.env 13 = .int .i64 i ∧ A.st = σ ∧ a.take i = b.take i) 0 (Nat.zero_le _) ?_ fun i B hi ⟨h13,hst,hI⟩=>?_
 ·simp only [go_sem,simprocAttr]
  simp
 simp only [go_sem,simprocAttr,h13,hst,List.length_map]
 refine ⟨fun hc=>?_,fun hc=>al ?_⟩
 ·obtain ⟨x,hx⟩:=get_some hc
  obtain ⟨y,hy⟩:=get_some (show i < b.length by omega)
  simp only [go_sem,simprocAttr,h13,hst,List.length_map,ay hx,ay hy]
  exact ⟨.of (by kernel_rfl),hc,by omega,fun hne=>al (decide_eq_false (lX hx hy hne)).symm,fun e=>⟨hc,aq hc hl,ig hI hx (e ▸ hy)⟩⟩
 ·rw [List.take_of_length_le hc,List.take_of_length_le (by omega)] at hI
  exact (decide_eq_true hI).symm
theorem rj (a b : List Atom) : af prog W0 88 [aH a,aH b] (.bool (decide (a = b))):=by
 refine ai [4] [] func88 rfl rfl ntmps88 rfl rfl (.bool _) fun hs σ=>?_
 have hl:=(bu (hs _ (List.mem_cons_self ..))).1
 simp only [go_sem,simprocAttr,aH,List.length_map]
 refine ⟨fun h=>al (decide_eq_false fun e=>h (by rw [e])).symm,fun h=>?_⟩
 have hab : a.length = b.length:=by omega
 refine ah.upto [0,1,12] (.of (by kernel_rfl)) a.length (fun i A=>A.env 13 = .int .i64 i ∧ A.st = σ ∧ a.take i = b.take i) 0 (Nat.zero_le _) ?_ fun i B hi ⟨h13,hst,hI⟩=>?_
 ·simp only [go_sem,simprocAttr]
  simp
 simp only [go_sem,simprocAttr,h13,hst,List.length_map]
 refine ⟨fun hc=>?_,fun hc=>al ?_⟩
 ·obtain ⟨x,hx⟩:=get_some hc
  obtain ⟨y,hy⟩:=get_some (show i < b.length by omega)
  simp only [go_sem,simprocAttr,h13,hst,List.length_map,ay hx,ay hy]
  exact ⟨.of (by kernel_rfl),hc,by omega,fun hne=>al (decide_eq_false (lX hx hy hne)).symm,fun e=>⟨hc,aq hc hl,ig hI hx (e ▸ hy)⟩⟩
 ·rw [List.take_of_length_le hc,List.take_of_length_le (by omega)] at hI
  exact (decide_eq_true hI).symm
theorem yW (a b : List ij) : af prog W0 89 [dd a,dd b] (.bool (decide (a = b))):=by
 refine ai [4] [] func89 rfl rfl ntmps89 rfl rfl (.bool _) fun hs σ=>?_
 have hl:=(bu (hs _ (List.mem_cons_self ..))).1
 simp only [go_sem,simprocAttr,dd,List.length_map]
 refine ⟨fun h=>al (decide_eq_false fun e=>h (by rw [e])).symm,fun h=>?_⟩
 have hab : a.length = b.length:=by omega
 refine ah.upto [0,1,12] (.of (by kernel_rfl)) a.length (fun i A=>A.env 13 = .int .i64 i ∧ A.st = σ ∧ a.take i = b.take i) 0 (Nat.zero_le _) ?_ fun i B hi ⟨h13,hst,hI⟩=>?_
 ·simp only [go_sem,simprocAttr]
  simp
 simp only [go_sem,simprocAttr,h13,hst,List.length_map]
 refine ⟨fun hc=>?_,fun hc=>al ?_⟩
 ·obtain ⟨x,hx⟩:=get_some hc
  obtain ⟨y,hy⟩:=get_some (show i < b.length by omega)
  simp only [go_sem,simprocAttr,h13,hst,List.length_map,ay hx,ay hy]
  exact ⟨.of (by kernel_rfl),hc,by omega,fun hne=>al (decide_eq_false (lX hx hy hne)).symm,fun e=>⟨hc,aq hc hl,ig hI hx (e ▸ hy)⟩⟩
 ·rw [List.take_of_length_le hc,List.take_of_length_le (by omega)] at hI
  exact (decide_eq_true hI).symm
theorem Bl (a b : List Atom) : af prog W0 86 [aH a,aH b] (.bool (decide (a = b))):=by
 refine ai [4] [] func86 rfl rfl ntmps86 rfl rfl (.bool _) fun hs σ=>?_
 simp only [go_sem,simprocAttr,aH]
 refine aj.fn (wc a b) ?_
 simp only [go_sem,simprocAttr]
theorem Ci (a b : List Clause) (g : FuncId) (h : ∀ c ∈ a,∀ d ∈ b,af prog W0 g [aH c,aH d] (.bool (decide (c = d)))) : af prog W0 85 [aC a,aC b,.fn g []] (.bool (decide (a = b))):=by
 refine ai [6] [] func85 rfl rfl ntmps85 rfl rfl (.bool _) fun hs σ=>?_
 have hl:=(bu (hs _ (List.mem_cons_self ..))).1
 simp only [go_sem,simprocAttr,aC,List.length_map]
 refine ⟨fun h=>al (decide_eq_false fun e=>h (by rw [e])).symm,fun hne=>?_⟩
 have hab : a.length = b.length:=by omega
 refine ah.upto [1,2,15,16] (.of (by kernel_rfl)) a.length (fun i A=>A.env 17 = .int .i64 i ∧ A.st = σ ∧ a.take i = b.take i) 0 (Nat.zero_le _) ?_ fun i B hi ⟨h13,hst,hI⟩=>?_
 ·simp only [go_sem,simprocAttr]
  simp
 simp only [go_sem,simprocAttr,h13,hst,List.length_map]
 refine ⟨fun hc=>⟨hc,?_⟩,fun hc=>al ?_⟩
 ·obtain ⟨x,hx⟩:=get_some hc
  obtain ⟨y,hy⟩:=get_some (show i < b.length by omega)
  simp only [go_sem,simprocAttr,h13,hst,List.length_map,ay hx,ay hy,aH]
  refine ⟨by omega,?_⟩
  refine aj.pure (h x (List.mem_of_getElem? hx) y (List.mem_of_getElem? hy)) ?_
  simp only [go_sem,simprocAttr,h13,hst,List.length_map]
  exact ⟨fun hne=>al (decide_eq_false (lX hx hy hne)).symm,fun e=>⟨hc,aq hc hl,ig hI hx (e ▸ hy)⟩⟩
 ·rw [List.take_of_length_le hc,List.take_of_length_le (by omega)] at hI
  exact (decide_eq_true hI).symm
theorem rN (a b : List Clause) : af prog W0 84 [aC a,aC b] (.bool (decide (a = b))):=by
 refine ai [4] [] func84 rfl rfl ntmps84 rfl rfl (.bool _) fun hs σ=>?_
 simp only [go_sem,simprocAttr,aC]
 refine aj.fn (Ci a b _ fun c _ d _=>Bl c d) ?_
 simp only [go_sem,simprocAttr]
theorem yt (p q : Pkg) : af prog W0 38 [ax p,ax q] (.bool (decide (p = q))):=by
 refine ai [4] [2,3] func38 rfl rfl ntmps38 rfl rfl (.bool _) fun hs σ=>?_
 simp only [List.append_eq,List.cons_append,List.nil_append]
 simp only [go_sem,simprocAttr,ax]
 refine aB.fnG (fun _=>rN _ _) ?_
 simp only [go_sem,simprocAttr]
 refine aB.fnG (fun _=>rN _ _) ?_
 simp only [go_sem,simprocAttr]
 refine aB.fnG (fun _=>rN _ _) ?_
 simp only [go_sem,simprocAttr]
 refine aB.fnG (fun _=>rj _ _) ?_
 simp only [go_sem,simprocAttr]
 refine aB.fnG (fun _=>rj _ _) ?_
 simp only [go_sem,simprocAttr]
 refine aB.fnG (fun _=>yW _ _) ?_
 simp only [go_sem,simprocAttr]
 refine al ?_
 obtain ⟨a1,a2,a3,a4,a5,a6,a7,a8,a9⟩:=p
 obtain ⟨b1,b2,b3,b4,b5,b6,b7,b8,b9⟩:=q
 rw [Bool.eq_iff_iff]
 simp only [Bool.and_eq_true,decide_eq_true_eq,beq_iff_eq,Pkg.mk.injEq]
 constructor
 ·rintro ⟨h1,h2,h3,h4,h5,h6,h7,h8,h9⟩
  simp_all
 ·intro h
  simp_all
end Go.Proofs.Tryz
end
section
namespace Go.Av
open Go
theorem pQ.ez {P : Program} {A : aa} {s e : TypeId} {id off m : Nat} {xs : List AV} {dst : Option Nat} {k : aa → Prop} (hs : elT P s = some e) (he : eB P e = some .u8) (h0 : 0 < m) (hσ : A.st[id]? = some (some (.cells e xs))) (hm : off + m ≤ xs.length)
  (hk : k ((A.put dst (.sl e ((xs.drop off).take m))).ag (A.st.set id none))) : pQ P s s (.row e id off m) dst A k .mk:=.inr (.inr ⟨e,id,off,m,xs,rfl,⟨rfl,hs,he⟩,h0,hσ,hm,hk⟩)
end Go.Av
namespace Go.Proofs.Tryz
open Go Go.Av
set_option maxRecDepth 10000
variable {W0 : World}

end Go.Proofs.Tryz
end
section
namespace Go.Av
theorem qt {c : Clause} (h : jw c = true) : c ≠ [] ∧ c.length ≤ 6 ∧ ∀ a ∈ c,cX a = true:=by
 unfold jw at h
 simp only [Bool.and_eq_true,decide_eq_true_eq,List.all_eq_true] at h
 exact ⟨fun e=>h.1.1 (by rw [e]; rfl),h.1.2,h.2⟩
end Go.Av
end
section
namespace Go.Proofs.Tryz
open Go Go.Av
set_option maxRecDepth 10000
variable {W0 : World}
theorem jM (e : TypeId) (a : Option Addr) (cap : Nat) (h : cap ≤ maxLen) (w : World) (C : Ctx) : az prog w C (.sl e []) (.slice a 0 cap) :=
 .one rfl (Rel.sl (xs:=[]) (fun _=>[]) (Nat.zero_le _) h (fun i x h=>by simp at h) (fun i x h=>by simp at h) fun hn=>absurd hn (by simp))
theorem Bx : af prog W0 153 [aH []] (aH []):=by
 refine mA func153 (by kernel_rfl) (by kernel_rfl) fun w C vs hvl hv=>?_
 obtain _ | ⟨v1,_ | ⟨_,_⟩⟩:=vs <;> simp at hvl
 have h1:=(hv 0 _ _ rfl rfl).aA rfl
 cases h1
 rename_i a cap cf hc hm hr hz hs
 simp only [List.map_nil,List.length_nil] at hm
 show Calls _ _ #[Value.slice a 0 cap] _ _
 have q30 : ∀ (w : World) (a : Option Addr) (n c n' c' : Nat),(binOp .eql 51 (.slice a n c) (.slice none n' c')).run prog w = .ok (.bool a.isNone) w:=fun w a n c n' c'=>Lib.run_eql_slice_nil w _ _ a n c n' c' Tryz.underlying51
 clear hv hr hz hs
 cases a
 all_goals go_enter Tryz.func153,Tryz.ntmps153
 all_goals go_wp2
 all_goals go_ret
 ·exact ⟨_,rfl,jM _ _ _ (Nat.zero_le _),RowKit.Below.refl _ w⟩
 ·exact ⟨_,rfl,jM _ _ _ (Nat.zero_le _),(RowKit.Below.refl _ w).alloc (Nat.le_refl _) _⟩
theorem CA : af prog W0 154 [dd []] (dd []):=by
 refine mA func154 (by kernel_rfl) (by kernel_rfl) fun w C vs hvl hv=>?_
 obtain _ | ⟨v1,_ | ⟨_,_⟩⟩:=vs <;> simp at hvl
 have h1:=(hv 0 _ _ rfl rfl).aA rfl
 cases h1
 rename_i a cap cf hc hm hr hz hs
 simp only [List.map_nil,List.length_nil] at hm
 show Calls _ _ #[Value.slice a 0 cap] _ _
 have q30 : ∀ (w : World) (a : Option Addr) (n c n' c' : Nat),(binOp .eql 52 (.slice a n c) (.slice none n' c')).run prog w = .ok (.bool a.isNone) w:=fun w a n c n' c'=>Lib.run_eql_slice_nil w _ _ a n c n' c' Tryz.underlying52
 clear hv hr hz hs
 cases a
 all_goals go_enter Tryz.func154,Tryz.ntmps154
 all_goals go_wp2
 all_goals go_ret
 ·exact ⟨_,rfl,jM _ _ _ (Nat.zero_le _),RowKit.Below.refl _ w⟩
 ·exact ⟨_,rfl,jM _ _ _ (Nat.zero_le _),(RowKit.Below.refl _ w).alloc (Nat.le_refl _) _⟩
theorem zt : af prog W0 152 [aH []] (aH []):=by
 refine mA func152 (by kernel_rfl) (by kernel_rfl) fun w C vs hvl hv=>?_
 obtain _ | ⟨v1,_ | ⟨_,_⟩⟩:=vs <;> simp at hvl
 have h1:=(hv 0 _ _ rfl rfl).aA rfl
 cases h1
 rename_i a cap cf hc hm hr hz hs
 simp only [List.map_nil,List.length_nil] at hm
 show Calls _ _ #[Value.slice a 0 cap] _ _
 have q30 : ∀ (w : World) (a : Option Addr) (n c n' c' : Nat),(binOp .eql 72 (.slice a n c) (.slice none n' c')).run prog w = .ok (.bool a.isNone) w:=fun w a n c n' c'=>Lib.run_eql_slice_nil w _ _ a n c n' c' Tryz.underlying72
 clear hv hr hz hs
 cases a
 all_goals go_enter Tryz.func152,Tryz.ntmps152
 all_goals go_wp2
 all_goals go_ret
 ·exact ⟨_,rfl,jM _ _ _ (Nat.zero_le _),RowKit.Below.refl _ w⟩
 ·exact ⟨_,rfl,jM _ _ _ (Nat.zero_le _),(RowKit.Below.refl _ w).alloc (Nat.le_refl _) _⟩
theorem lQ (l : List Atom) (hl : l.length ≤ 1048576) : af prog W0 153 [aH l] (aH l):=by
 cases l with
 | nil=>exact Bx
 | cons x c=>exact E3 (x :: c) hl
theorem tR (l : List ij) (hl : l.length ≤ 1048576) : af prog W0 154 [dd l] (dd l):=by
 cases l with
 | nil=>exact CA
 | cons x c=>exact Dw (x :: c) hl
theorem rp (l : List Atom) (hl : l.length ≤ 1048576) : af prog W0 152 [aH l] (aH l):=by
 cases l with
 | nil=>exact zt
 | cons x c=>exact Cz (x :: c) hl
end Go.Proofs.Tryz
end
section
namespace Go.Av
def mS.fit : mS → Prop
 | .count _=>False
 | .atoms l=>l.length ≤ 1048576
 | .DG l=>l.length ≤ 1048576
 | _=>True
end Go.Av
namespace Go.Proofs.Tryz
open Go Go.Av
set_option maxRecDepth 10000
variable {W0 : World}
end Go.Proofs.Tryz
end
section
namespace Go.Av
theorem af.Mq {P : Program} {W0 : World} {f : FuncId} {args : List AV} {r : AV} (hr : aN 0 r) (h : ∀ σ,aU P W0 f args σ fun r' σ'=>cI r' r ∧ Ext σ σ') : af P W0 f args r:=fun σ w C vs hst hl hv =>
 (h σ w C vs hst hl hv).mono fun e w' ⟨v,r',σ',C',he,⟨hw,hx⟩,hs,hrv,hstep⟩=>by
  have hs2 : aw P W0 w' (C'.dp σ.length) σ:=by
   have:=hs.dp (n:=σ.length) hx.le fun id te xs hid hss=>hst.ids (show σ[id]? = some (some (.cells te xs)) by
    have e:=congrArg (·[id]?) hx
    simp only [List.getElem?_take,if_pos hid] at e
    rw [← e]; exact hss)
   rwa [hx] at this
  exact ⟨v,r,σ,C'.dp σ.length,he,⟨rfl,rfl⟩,hs2,(hrv.cK hw).dp (dJ (Nat.zero_le _) hr),hstep.dp (by rw [hst.nx]; exact Nat.le_refl _)⟩
end Go.Av
namespace Go.Proofs.Tryz
open Go Go.Av
set_option maxRecDepth 10000
variable {W0 : World}
def E1 : List UInt8:=[80,97,99,107,97,103,101]
def EE : List UInt8:=[86,101,114,115,105,111,110]
def Ul : List UInt8:=[69,115,115,101,110,116,105,97,108]
def Uh : List UInt8:=[80,114,101,45,68,101,112,101,110,100,115]
def Uz : List UInt8:=[68,101,112,101,110,100,115]
def UB : List UInt8:=[82,101,99,111,109,109,101,110,100,115]
def Ur : List UInt8:=[67,111,110,102,108,105,99,116,115]
def Uw : List UInt8:=[66,114,101,97,107,115]
def Qs : List UInt8:=[80,114,111,118,105,100,101,115]
structure LiN (l : List Clause) : Prop where
 len : l.length ≤ 1048576
 cl : ∀ c ∈ l,c.length ≤ 1048576
end Go.Proofs.Tryz
end
section
namespace Go.Av
def Au (n : List UInt8) (k : Int) (s : List UInt8) : List UInt8 :=
 if 0 < k ∧ s = [] then [32,46] else if 0 < k then 32 :: s else if s = [] then n ++ [58] else n ++ [58,32] ++ s
end Go.Av
namespace Go.Proofs.Tryz
open Go Go.Av
set_option maxRecDepth 10000
variable {W0 : World}
end Go.Proofs.Tryz
end
section
namespace Go.Av
def zM (k : Int) (s : List UInt8) : Bool:=!(decide (0 ≤ IM s) || !(lk s == s) || (decide (0 < k) && s == [46])) && (decide (0 < k) || jT s == s)
end Go.Av
namespace Go.Proofs.Tryz
open Go Go.Av
set_option maxRecDepth 10000
variable {W0 : World}
end Go.Proofs.Tryz
end
section
namespace Go.Av
def vK {α : Type} (q : Nat → α → Bool) : Nat → List α → Bool
 | _,[]=>true
 | i,x :: r=>q i x && vK q (i + 1) r
def ue (f : Fld) (ahead : List Fld) : Int :=
 if ((Fc f.name : Int) == 0 || (Fc f.name : Int) != (f.name.length : Int) || (f.lines.length : Int) == 0) = true then 3
 else if vK (fun k s=>zM k s) 0 f.lines = false then 3
 else if SJ ahead f.name = true then 4
 else if vK (fun k s=>decide ((Au f.name k s).length ≤ 1000)) 0 f.lines = false then 2
 else 0
end Go.Av
namespace Go.Proofs.Tryz
open Go Go.Av
set_option maxRecDepth 10000
variable {W0 : World}
end Go.Proofs.Tryz
end
section
namespace Go.Av
open Go.Proofs.Tryz
def prB (c : UInt8) : Bool:=decide (32 ≤ c.toNat) && decide (c.toNat ≤ 126)
theorem Az : ∀ (f : Nat) {s : List UInt8} (i : Nat),(∀ c ∈ s,prB c = true) → A0 f s i = -1
 | 0,_,_,_=>rfl
 | _ + 1,[],_,_=>rfl
 | f + 1,c :: r,i,h=>by
  have hc:=h c (by simp)
  simp only [prB,Bool.and_eq_true,decide_eq_true_eq] at hc
  have h1 : tM (c :: r) = 1:=x9 (by omega)
  have h2 : LV c = false:=by
   unfold LV
   rw [decide_eq_false (by omega),decide_eq_false (show ¬ c.toNat = 127 by omega)]
   rfl
  rw [A0,h1,h2,if_neg (by simp)]
  exact Az f _ fun x hx=>h x (by simpa using .inr hx)
theorem ES {s : List UInt8} (h : ∀ c ∈ s,prB c = true) : IM s = -1:=Az _ _ h
structure Edge (s : List UInt8) : Prop where
 hd : ∃ c t,s = c :: t ∧ yb c ≠ 1
 tl : ∃ u c,s = u ++ [c] ∧ yb c ≠ 1
theorem Edge.plain {s : List UInt8} (hne : s ≠ []) (h : ∀ c ∈ s,yb c = 0) : Edge s:=by
 constructor
 ·cases s with
  | nil=>exact absurd rfl hne
  | cons c t=>exact ⟨c,t,rfl,by rw [h c (by simp)]; decide⟩
 ·rcases List.eq_nil_or_concat s with rfl | ⟨u,c,rfl⟩
  ·exact absurd rfl hne
  ·rw [List.concat_eq_append] at *
   exact ⟨u,c,rfl,by rw [h c (by simp)]; decide⟩
theorem Edge.ne {s : List UInt8} (h : Edge s) : s ≠ []:=by
 obtain ⟨c,t,rfl,_⟩:=h.hd
 simp
theorem Edge.app {s m t : List UInt8} (hs : Edge s) (ht : Edge t) : Edge (s ++ (m ++ t)):=by
 obtain ⟨c,a,rfl,h1⟩:=hs.hd
 obtain ⟨u,d,rfl,h2⟩:=ht.tl
 exact ⟨⟨c,a ++ (m ++ (u ++ [d])),rfl,h1⟩,⟨(c :: a) ++ (m ++ u),d,by simp,h2⟩⟩
theorem Edge.lk {s : List UInt8} (h : Edge s) : lk s = s:=by
 obtain ⟨u,c,rfl,h1⟩:=h.tl
 rw [yA,if_neg (by simp [wsB,h1])]
theorem Edge.skip {s : List UInt8} (h : Edge s) : jO s = s:=by
 obtain ⟨c,t,rfl,h1⟩:=h.hd
 exact Hy h1
theorem Edge.trim {s : List UInt8} (h : Edge s) : jT s = s:=by
 unfold jT
 rw [h.skip,h.lk]
theorem kd {l : List Clause} (h : ee l = 0) : l.length ≤ 12 ∧ ∀ c ∈ l,jw c = true:=by
 unfold ee at h
 split at h
 ·cases h
 rename_i h1
 split at h
 ·cases h
 rename_i h2
 refine ⟨by omega,fun c hc=>?_⟩
 have h3 : ¬ (6 < c.length):=fun h6=>h1 (.inr (List.any_eq_true.2 ⟨c,hc,by simpa using h6⟩))
 have h4 : ¬ ((decide (c.length = 0) || c.any fun a=>!cX a) = true):=fun h6=>h2 (List.any_eq_true.2 ⟨c,hc,h6⟩)
 simp only [Bool.or_eq_true,decide_eq_true_eq,List.any_eq_true,Bool.not_eq_true',not_or,not_exists,not_and,Bool.not_eq_false] at h4
 simp only [jw,Bool.and_eq_true,decide_eq_true_eq,List.all_eq_true]
 exact ⟨⟨h4.1,by omega⟩,fun a ha=>h4.2 a ha⟩
theorem kP {l : List Atom} (h : ee (single l) = 0) : l.length ≤ 12 ∧ ∀ a ∈ l,cX a = true:=by
 obtain ⟨h1,h2⟩:=kd h
 refine ⟨by simpa [single] using h1,fun a ha=>?_⟩
 exact (qt (h2 [a] (List.mem_map.2 ⟨a,ha,rfl⟩))).2.2 a (by simp)
structure UN (p : Pkg) : Prop where
 name : dH p.name = true
 ver : bz p.ver = true
 pre : p.pre.length ≤ 12 ∧ ∀ c ∈ p.pre,jw c = true
 dep : p.dep.length ≤ 12 ∧ ∀ c ∈ p.dep,jw c = true
 rcm : p.rcm.length ≤ 12 ∧ ∀ c ∈ p.rcm,jw c = true
 con : p.con.length ≤ 12 ∧ ∀ a ∈ p.con,cX a = true
 brk : p.brk.length ≤ 12 ∧ ∀ a ∈ p.brk,cX a = true
 gr : p.gr.length ≤ 12 ∧ ∀ x ∈ p.gr,cX (df x) = true
theorem gI {p : Pkg} (h : bn p = 0) : UN p:=by
 unfold bn at h
 split at h
 ·cases h
 rename_i h1
 simp only [Bool.or_eq_true,Bool.not_eq_true',not_or,Bool.not_eq_false] at h1
 have h2:=iP h
 obtain ⟨g1,g2⟩:=kP (h2 (ee (single (p.gr.map df))) (by simp))
 exact ⟨h1.1,h1.2,kd (h2 _ (by simp)),kd (h2 _ (by simp)),kd (h2 _ (by simp)),kP (h2 _ (by simp)),kP (h2 _ (by simp)),by simpa using g1,fun x hx=>g2 _ (List.mem_map.2 ⟨x,hx,rfl⟩)⟩
structure Ub (n t : List UInt8) (v : mS) : Prop where
 sO : Edge t
 pr : ∀ c ∈ t,prB c = true
 read : Sx n t = .ok v
end Go.Av
end
section
namespace Go.Av
open Go.Proofs.Tryz
def LJ : List UInt8:=[83,116,97,116,101]
def SF : List UInt8:=[72,111,108,100]
def Ej : List (List UInt8):=[E1,EE,Ul,Uh,Uz,UB,Ur,Uw,Qs]
def qy : List (List UInt8):=Ej ++ [LJ,SF]
structure FG (y : Fld × mS) : Prop where
 fit : ∃ t,y.1.lines = [t] ∧ Ub y.1.name t y.2
 name : y.1.name ∈ qy
end Go.Av
end
section
namespace Go.Av
open Go.Proofs.Tryz
def lnF (f : Fld) : List UInt8:=Au f.name 0 (f.lines.headD [])
theorem Fw : ∀ n ∈ qy,n ≠ [] ∧ (∀ c ∈ n,yb c = 0) ∧ (∀ c ∈ n,prB c = true) ∧ Fc n = n.length ∧ RJ n = false:=by decide
structure LnF (y : Fld × mS) (t : List UInt8) : Prop where
 lines : y.1.lines = [t]
 sO : Edge t
 pr : ∀ c ∈ t,prB c = true
 name : y.1.name ∈ qy
 line : lnF y.1 = y.1.name ++ 58 :: 32 :: t
theorem FG.ln {y : Fld × mS} (h : FG y) : ∃ t,LnF y t:=by
 obtain ⟨t,h1,h2⟩:=h.fit
 refine ⟨t,h1,h2.sO,h2.pr,h.name,?_⟩
 unfold lnF Au
 rw [h1]
 simp [h2.sO.ne]
theorem LnF.may {y : Fld × mS} {t : List UInt8} (h : LnF y t) {ahead : List Fld} (ha : SJ ahead y.1.name = false) : ue y.1 ahead = if (lnF y.1).length ≤ 1000 then 0 else 2:=by
 obtain ⟨h1,h2,h3,h4,h5⟩:=Fw _ h.name
 have hl : y.1.name.length ≠ 0:=fun e=>h1 (List.length_eq_zero_iff.1 e)
 have ho : zM ((0 : Nat) : Int) t = true:=by
  unfold zM
  rw [ES h.pr,h.sO.lk,h.sO.trim]
  simp
 unfold ue
 rw [h.lines]
 rw [if_neg,if_neg,if_neg (by rw [ha]; decide)]
 ·simp only [vK,Bool.and_true,decide_eq_false_iff_not]
  have e : Au y.1.name ((0 : Nat) : Int) t = lnF y.1:=by
   unfold lnF
   rw [h.lines]
   rfl
  rw [e]
  by_cases hg : (lnF y.1).length ≤ 1000
  ·rw [if_pos hg,if_neg (fun h=>h hg)]
  ·rw [if_neg hg,if_pos hg]
 ·simp only [vK,Bool.and_true,ho]
  decide
 ·rw [h4]
  simp [hl]
structure SG (L : List (Fld × mS)) : Prop where
 ne : L ≠ []
 len : L.length ≤ 40
 fg : ∀ y ∈ L,FG y
 pw : L.Pairwise fun y z=>JH y.1.name z.1.name = false
end Go.Av
end
section
namespace Go.Av
open Go.Proofs.Tryz
theorem BU {l : List Pkg} (h1 : l.length ≤ 24) (h2 : ∀ p ∈ l,bn p = 0) (h3 : Aq l) (h4 : (fw l []).length ≤ 10) : bO l = 0:=by
 unfold bO
 rw [if_neg (by omega),if_neg,if_neg,if_neg (by omega)]
 ·rw [Bool.not_eq_true,qM]
  exact ⟨by simp,h3⟩
 ·rw [Classical.not_not,Am]
  intro x hx
  obtain ⟨p,hp,rfl⟩:=List.mem_map.1 hx
  exact h2 p hp
end Go.Av
end
section
namespace Go.Av
open Go.Proofs.Tryz
theorem wo {k : Nat} {t : List Nat} (hs : t.Pairwise (· < ·)) (hk : ∀ i ∈ t,i < k) : aO k (bD t) = t:=by
 have h2 : (aO k (bD t)).Pairwise (· < ·):=List.Pairwise.sublist List.filter_sublist List.pairwise_lt_range
 refine List.Perm.eq_of_pairwise (le:=(· < ·)) (fun a b _ _ h1 h2=>by omega) h2 hs ?_
 rw [List.perm_ext_iff_of_nodup (h2.imp fun {a b} h=>by omega) (hs.imp fun {a b} h=>by omega)]
 intro i
 rw [bG,cq,decide_eq_true_eq]
 exact ⟨fun h=>h.2,fun h=>⟨hk i h,h⟩⟩
def uj (S : Nat) : Nat:=jb (aO 32 S)
def ltB (x y : List Nat × Nat) : Bool:=lexB x.1 y.1 || (x.1 == y.1 && decide (uj y.2 < uj x.2))
def um (all : List Pkg) (s : List aK) (l : List aM) (up : Bool) : List (List Nat × Nat):=(l8 (dI all s l) (aG all s l) 0 0).map fun S=>(iN all s S up,S)
def nn (all : List Pkg) (s : List aK) (l : List aM) (up : Bool) : List (List Nat × List Nat) :=
 z6 (((ik all (all.length + 1) 0 []).filter fun t=>jX l (atL all t) s).map fun t=>(sX all s (atL all t) up,t))
def toB (x : List Nat × List Nat) : List Nat × Nat:=(x.1,bD x.2)
theorem lR (up : Bool) (a b c d e : Nat) : (wE up a b c d e).length = 5:=by
 unfold wE
 split <;> rfl
theorem wM {all : List Pkg} {t : List Nat} (h : t ∈ ik all (all.length + 1) 0 []) : t ∈ cr (cP all (all.length + 1) 0):=by
 rw [eV (by omega)] at h
 have:=(List.mem_filter.1 h).1
 simpa using this
theorem Bt {all : List Pkg} (hc : oo all) {t : List Nat} (ht : t ∈ cr (cP all (all.length + 1) 0)) : t.Pairwise (· < ·) ∧ ∀ i ∈ t,i < all.length:=by
 obtain ⟨r1,_,_⟩:=jm hc (f:=all.length + 1) (i:=0) (by omega) (by omega) (fun j p q hj=>by omega)
 obtain ⟨k1,_⟩:=qu hc (f:=all.length + 1) (i:=0) (by omega) (by omega) (fun j p q hj=>by omega)
 refine ⟨jJ k1 ht,fun i hi=>?_⟩
 obtain ⟨g,hg,hig⟩:=dW ht i hi
 obtain ⟨p,rfl,_⟩:=r1 g hg
 obtain ⟨q,hq,_⟩:=aY.1 hig
 exact (List.getElem?_eq_some_iff.1 hq).1
theorem Ab {all : List Pkg} : ∀ {f i : Nat},∀ g ∈ cP all f i,i ≤ all.length → g ≠ []
 | 0,i,g,hg,_=>by cases hg
 | f + 1,i,g,hg,hi=>by
  rw [cP] at hg
  by_cases h : i = all.length
  ·rw [if_pos h] at hg
   cases hg
  ·rw [if_neg h] at hg
   obtain ⟨p,hp⟩:=get_some (show i < all.length by omega)
   obtain ⟨b1,b2⟩:=eA hp
   rcases List.mem_cons.1 hg with rfl | hg
   ·intro e
    have:=congrArg List.length e
    simp only [List.length_range',List.length_nil] at this
    omega
   ·exact Ab g hg b2
theorem pW : ∀ {gs : List (List Nat)},oJ gs → (∀ g ∈ gs,g.Nodup) → (cr gs).Nodup
 | [],_,_=>by simp [cr]
 | g :: r,ha,hn=>by
  have ih:=pW ha.2 fun h hh=>hn h (by simp [hh])
  rw [cr,List.nodup_append]
  refine ⟨?_,ih,fun t ht u hu e=>?_⟩
  ·have : ∀ l : List Nat,l.Nodup → (l.flatMap fun i=>(cr r).map (i :: ·)).Nodup:=fun l=>by
    induction l with
    | nil=>intro _; simp
    | cons i l ih2 =>
     intro hl
     rw [List.nodup_cons] at hl
     rw [List.flatMap_cons,List.nodup_append]
     refine ⟨?_,ih2 hl.2,fun t ht u hu e=>?_⟩
     ·rw [List.Nodup,List.pairwise_map]
      exact ih.imp fun {a b} h e=>h (by simpa using e)
     ·obtain ⟨a,_,rfl⟩:=List.mem_map.1 ht
      obtain ⟨j,hj,hu⟩:=List.mem_flatMap.1 hu
      obtain ⟨b,_,rfl⟩:=List.mem_map.1 hu
      simp only [List.cons.injEq] at e
      exact hl.1 (e.1 ▸ hj)
   exact this g (hn g (by simp))
  ·obtain ⟨i,hi,ht⟩:=List.mem_flatMap.1 ht
   obtain ⟨a,_,rfl⟩:=List.mem_map.1 ht
   rw [← e] at hu
   obtain ⟨h,hh,hih⟩:=dW hu i (by simp)
   exact ha.1 i hi h hh hih
theorem zx {all : List Pkg} {s : List aK} {l : List aM} (h24 : all.length ≤ 24) (hm : ∀ p ∈ all,bn p = 0) (hc : oo all) (hU : Uni all s l) (hnv : dZ all s l = false) (up : Bool) {o : List (List Nat × Nat)} (hp : o.Perm (um all s l up)) (hs : o.Pairwise fun x y=>ltB y x = false) :
  o = (nn all s l up).map toB:=by
 obtain ⟨_,_,r3⟩:=jm hc (f:=all.length + 1) (i:=0) (by omega) (by omega) (fun j p q hj=>by omega)
 obtain ⟨_,k2⟩:=qu hc (f:=all.length + 1) (i:=0) (by omega) (by omega) (fun j p q hj=>by omega)
 generalize hW : (ik all (all.length + 1) 0 []).filter (fun t=>jX l (atL all t) s) = W
 have hWp : ∀ t ∈ W,t ∈ cr (cP all (all.length + 1) 0):=fun t ht=>by
  rw [← hW] at ht
  exact wM (List.mem_filter.1 ht).1
 have hinc : ∀ t ∈ W,t.Pairwise (· < ·) ∧ ∀ i ∈ t,i < 32:=fun t ht=>by
  obtain ⟨g1,g2⟩:=Bt hc (hWp t ht)
  exact ⟨g1,fun i hi=>by have:=g2 i hi; omega⟩
 have hWn : W.Nodup:=by
  rw [← hW,eV (by omega)]
  refine List.Pairwise.sublist List.filter_sublist (List.Pairwise.sublist List.filter_sublist ?_)
  have e2 : (cr (cP all (all.length + 1) 0)).map (([] : List Nat) ++ ·) = cr (cP all (all.length + 1) 0):=by simp
  rw [e2]
  exact pW r3 fun g hg=>(k2 g hg).imp fun {a b} h=>by omega
 have hB : nn all s l up = z6 (W.map fun t=>(sX all s (atL all t) up,t)):=by
  unfold nn
  rw [hW]
 obtain ⟨b1,b2⟩:=xJ (k:=5) (l:=W.map fun t=>(sX all s (atL all t) up,t)) (o:=[]) (by
   rw [List.nil_append,List.pairwise_map]
   exact hWn) (fun y hy=>by
   rw [List.nil_append] at hy
   obtain ⟨t,_,rfl⟩:=List.mem_map.1 hy
   exact lR _ _ _ _ _ _) .nil
 rw [List.nil_append] at b1
 change (z6 _).Perm _ at b1
 change (z6 _).Pairwise _ at b2
 rw [← hB] at b1 b2
 have hmem : ∀ x ∈ nn all s l up,x.2 ∈ W ∧ x.1.length = 5:=fun x hx=>by
  obtain ⟨t,ht,rfl⟩:=List.mem_map.1 (b1.subset hx)
  exact ⟨ht,lR _ _ _ _ _ _⟩
 have hturn : ∀ t ∈ W,uj (bD t) = jb t:=fun t ht=>by
  obtain ⟨g1,g2⟩:=hinc t ht
  unfold uj
  rw [wo g1 g2]
 have hlt : ∀ x ∈ nn all s l up,∀ y ∈ nn all s l up,ltB (toB x) (toB y) = ltP x y:=fun x hx y hy=>by
  obtain ⟨hx,_⟩:=hmem x hx
  obtain ⟨hy,_⟩:=hmem y hy
  unfold ltB ltP toB
  simp only
  rw [hturn _ hx,hturn _ hy,qF (hinc _ hx).1 (hinc _ hy).1 (hinc _ hx).2 (hinc _ hy).2]
 have hperm : o.Perm ((nn all s l up).map toB):=by
  refine hp.trans ?_
  have h1:=(ye hm hc hU hnv).map fun S=>(iN all s S up,S)
  rw [hW] at h1
  refine h1.trans (List.Perm.trans (List.Perm.of_eq ?_) (b1.map toB).symm)
  rw [List.map_map,List.map_map]
  refine List.map_congr_left fun t ht=>?_
  show (iN all s (bD t) up,bD t) = (sX all s (atL all t) up,bD t)
  rw [GL hc hU (hWp t ht)]
 have hs2 : ((nn all s l up).map toB).Pairwise fun x y=>ltB y x = false:=by
  rw [List.pairwise_map]
  refine b2.imp_of_mem fun {x y} hx hy h=>?_
  rw [hlt y hy x hx]
  cases h2 : ltP y x with
  | false=>rfl
  | true =>
   have:=tA h h2
   rw [Ij] at this
   cases this
 refine List.Perm.eq_of_pairwise (le:=fun x y=>ltB y x = false) (fun x y hx hy h1 h2=>?_) hs hs2 hperm
 obtain ⟨a,ha,rfl⟩:=List.mem_map.1 (hperm.subset hx)
 obtain ⟨b,hb,rfl⟩:=List.mem_map.1 hy
 rw [hlt b hb a ha] at h1
 rw [hlt a ha b hb] at h2
 by_cases he : a.2 = b.2
 ·have hc2 : a.1 = b.1:=by
   obtain ⟨t,_,rfl⟩:=List.mem_map.1 (b1.subset ha)
   obtain ⟨u,_,rfl⟩:=List.mem_map.1 (b1.subset hb)
   have he : t = u:=he
   rw [he]
  unfold toB
  rw [he,hc2]
 ·have:=AP (x:=b) (y:=a) ((hmem b hb).2.trans (hmem a ha).2.symm) (fun e=>he e.symm) h1
  rw [this] at h2
  cases h2
end Go.Av
end
section
namespace Go.Av
theorem fh (a b : Nat) (ha : a < 4294967296) (hb : b < 4294967296) : bits .and .u32 (a : Int) (b : Int) = ((a &&& b : Nat) : Int):=by
 have h1 : (BitVec.ofInt 32 (a : Int)).toNat = a:=by simp; omega
 have h2 : (BitVec.ofInt 32 (b : Int)).toNat = b:=by simp; omega
 show IntKind.u32.wrap ((BitVec.ofInt 32 (a : Int) &&& BitVec.ofInt 32 (b : Int)).toNat : Int) = _
 have hlt:=(BitVec.ofInt 32 (a : Int) &&& BitVec.ofInt 32 (b : Int)).isLt
 rw [IntKind.wrap_u32,BitVec.toNat_and,h1,h2]
 rw [BitVec.toNat_and,h1,h2] at hlt
 omega
theorem gH (a b : Nat) (ha : a < 4294967296) (hb : b < 4294967296) : bits .or .u32 (a : Int) (b : Int) = ((a ||| b : Nat) : Int):=by
 have h1 : (BitVec.ofInt 32 (a : Int)).toNat = a:=by simp; omega
 have h2 : (BitVec.ofInt 32 (b : Int)).toNat = b:=by simp; omega
 show IntKind.u32.wrap ((BitVec.ofInt 32 (a : Int) ||| BitVec.ofInt 32 (b : Int)).toNat : Int) = _
 have hlt:=(BitVec.ofInt 32 (a : Int) ||| BitVec.ofInt 32 (b : Int)).isLt
 rw [IntKind.wrap_u32,BitVec.toNat_or,h1,h2]
 rw [BitVec.toNat_or,h1,h2] at hlt
 omega
def bB (m k x : Nat) : Nat:=((x >>> k) &&& m) ||| (((x &&& m) <<< k) % 4294967296)
theorem jK {m k x : Nat} (hm : m < 4294967296) : bB m k x < 4294967296 :=
 Nat.or_lt_two_pow (n:=32) (Nat.lt_of_le_of_lt Nat.and_le_right hm) (Nat.mod_lt _ (by decide))
theorem B7 (m k x i : Nat) (hi : i < 32) : (bB m k x).testBit i = ((x.testBit (k + i) && m.testBit i) || (decide (k ≤ i) && (x.testBit (i - k) && m.testBit (i - k)))):=by
 unfold bB
 rw [Nat.testBit_or,Nat.testBit_and,Nat.testBit_shiftRight,show 4294967296 = 2 ^ 32 from rfl,Nat.testBit_mod_two_pow,Nat.testBit_shiftLeft,Nat.testBit_and]
 simp [hi]
def fo (x : Nat) : Nat :=
 let a:=bB 16711935 8 (bB 252645135 4 (bB 858993459 2 (bB 1431655765 1 x)))
 (a >>> 16) ||| ((a <<< 16) % 4294967296)
theorem Il (x : Nat) : fo x < 4294967296 :=
 Nat.or_lt_two_pow (n:=32) (by
  rw [Nat.shiftRight_eq_div_pow]
  have:=jK (m:=16711935) (k:=8) (x:=bB 252645135 4 (bB 858993459 2 (bB 1431655765 1 x))) (by decide)
  omega) (Nat.mod_lt _ (by decide))
theorem Rm : ∀ i,i < 32 → Nat.testBit 1431655765 i = decide (i % 2 = 0):=by decide
theorem PY : ∀ i,i < 32 → Nat.testBit 858993459 i = decide (i % 4 < 2):=by decide
theorem Qa : ∀ i,i < 32 → Nat.testBit 252645135 i = decide (i % 8 < 4):=by decide
theorem P3 : ∀ i,i < 32 → Nat.testBit 16711935 i = decide (i % 16 < 8):=by decide
theorem nC {m k : Nat} (hk : 0 < k) (hm : ∀ i,i < 32 → m.testBit i = decide (i % (2 * k) < k)) (x i : Nat) (hi : i < 32) :
  (bB m k x).testBit i = x.testBit (if i % (2 * k) < k then i + k else i - k):=by
 rw [B7 m k x i hi,hm i hi]
 by_cases h : i % (2 * k) < k
 ·by_cases h2 : k ≤ i
  ·have h3 : ¬ (i - k) % (2 * k) < k:=by
    have hd:=Nat.div_add_mod i (2 * k)
    have hq : i / (2 * k) ≠ 0:=by
     intro h0; rw [h0] at hd; omega
    obtain ⟨q,hq⟩:=Nat.exists_eq_succ_of_ne_zero hq
    have e : i - k = 2 * k * q + (i % (2 * k) + k):=by
     rw [hq,Nat.mul_succ] at hd; omega
    rw [e,Nat.mul_add_mod,Nat.mod_eq_of_lt (by omega)]
    omega
   simp [h,hm (i - k) (by omega),h3,Nat.add_comm]
  ·simp [h,h2,Nat.add_comm]
 ·have h2 : k ≤ i:=by
   rcases Nat.lt_or_ge i k with g | g
   ·rw [Nat.mod_eq_of_lt (by omega)] at h; omega
   ·exact g
  have h3 : (i - k) % (2 * k) < k:=by
   have hd:=Nat.div_add_mod i (2 * k)
   have hl:=Nat.mod_lt i (show 0 < 2 * k by omega)
   have e : i - k = 2 * k * (i / (2 * k)) + (i % (2 * k) - k):=by omega
   rw [e,Nat.mul_add_mod,Nat.mod_eq_of_lt (by omega)]
   omega
  simp [h,h2,hm (i - k) (by omega),h3]
theorem Dx (x : Nat) : ∀ i,i < 32 → (fo x).testBit i = x.testBit (31 - i):=by
 intro i hi
 have s1:=nC (m:=1431655765) (k:=1) (by decide) (fun i hi=>by rw [Rm i hi]; congr 1; simp) x
 have s2:=nC (m:=858993459) (k:=2) (by decide) PY (bB 1431655765 1 x)
 have s4:=nC (m:=252645135) (k:=4) (by decide) Qa (bB 858993459 2 (bB 1431655765 1 x))
 have s8:=nC (m:=16711935) (k:=8) (by decide) P3 (bB 252645135 4 (bB 858993459 2 (bB 1431655765 1 x)))
 have hA:=jK (m:=16711935) (k:=8) (x:=bB 252645135 4 (bB 858993459 2 (bB 1431655765 1 x))) (by decide)
 have hB : (fo x).testBit i = (bB 16711935 8 (bB 252645135 4 (bB 858993459 2 (bB 1431655765 1 x)))).testBit (if i < 16 then i + 16 else i - 16):=by
  unfold fo
  simp only
  generalize bB 16711935 8 (bB 252645135 4 (bB 858993459 2 (bB 1431655765 1 x))) = a at hA
  rw [Nat.testBit_or,Nat.testBit_shiftRight,show 4294967296 = 2 ^ 32 from rfl,Nat.testBit_mod_two_pow,Nat.testBit_shiftLeft]
  by_cases h : i < 16
  ·have : ¬ 16 ≤ i:=by omega
   simp [h,hi,this,Nat.add_comm]
  ·have h16 : 16 ≤ i:=by omega
   have : a.testBit (16 + i) = false:=Nat.testBit_lt_two_pow (Nat.lt_of_lt_of_le hA (show 2 ^ 32 ≤ 2 ^ (16 + i) from Nat.pow_le_pow_right (n:=2) (by decide) (by omega)))
   simp [h,hi,h16,this]
 rw [hB,s8 _ (by split <;> omega),s4 _ (by split <;> split <;> omega),s2 _ (by split <;> split <;> split <;> omega),s1 _ (by split <;> split <;> split <;> split <;> omega)]
 congr 1
 clear s1 s2 s4 s8 hA hB
 revert i
 decide
theorem sV {x : Nat} (hx : x < 4294967296) : uj x = fo x:=by
 apply Nat.eq_of_testBit_eq
 intro i
 unfold uj jb
 rw [cq]
 by_cases hi : i < 32
 ·rw [Dx x i hi]
  apply Bool.eq_iff_iff.2
  simp only [decide_eq_true_eq,List.mem_map]
  refine ⟨fun ⟨j,hj,e⟩=>?_,fun h=>⟨31 - i,bG.2 ⟨by omega,h⟩,by omega⟩⟩
  obtain ⟨h1,h2⟩:=bG.1 hj
  rw [show 31 - i = j by omega]
  exact h2
 ·rw [Nat.testBit_lt_two_pow (Nat.lt_of_lt_of_le (Il x) (show 2 ^ 32 ≤ 2 ^ i from Nat.pow_le_pow_right (n:=2) (by decide) (by omega)))]
  apply Bool.eq_false_iff.2
  intro h
  simp only [decide_eq_true_eq,List.mem_map] at h
  obtain ⟨j,hj,e⟩:=h
  have:=(bG.1 hj).1
  omega
end Go.Av
end
