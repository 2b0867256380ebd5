/- Texts that the last one of this claim rests on: a layer over the guide's own conditions for code; contracts of the functions that the law reaches, one by one. No conditions beside those of the given rows. -/
import Derived.WalkKit
import Derived.Sort.Grow
import Derived.Sort.Row
import Derived.Deep.RegionWith
import Derived.Test.YtbooehmmhbioaaaGreatDoorWae
import Derived.Test.YtbooehmmhbioaaaGreatDoorWai
import Derived.Test.YtbooehmmhbioaaaGreatDoorWaq
import Derived.Test.YtbooehmmhbioaaaGreatDoorWat
import Derived.Test.YtbooehmmhbioaaaGreatDoorWau
set_option linter.unusedSimpArgs false
set_option linter.unusedVariables false
section
namespace Go.Av
section
variable {P : Program}
@[go_sem] theorem MV (t t' : TypeId) (v : AV) : cc P .eql t (.loc t' v) .nil = if ep P t then .bool false else .undef:=by simp only [cc,ck,jy,AV.fI,Bool.and_true]; split <;> rfl
@[go_sem] theorem Ns (t t' : TypeId) (v : AV) : cj P .eql t (.loc t' v) .nil = (ep P t = true):=by simp only [cj,ck,jy,AV.fI,Bool.and_true]; split <;> simp_all
end
end Go.Av
namespace Go.Proofs.Tryz
open Go Go.Av
set_option maxRecDepth 10000
variable {W0 : World}
theorem mL (l : List Clause) (hl : l.length ≤ 1048576) (hc : ∀ c ∈ l,c.length ≤ 1048576) : af prog W0 151 [aC l] (aC l):=by
 refine ai [2] [] func151 rfl rfl ntmps151 rfl rfl (dC _) fun hs σ=>?_
 simp only [go_sem,simprocAttr,aC,List.length_map]
 refine ah.at [6,7] (.of (by kernel_rfl)) (fun A=>∃ v,A.env 3 = v ∧ aX σ A.st v 72 (l.map aH)) ?_ fun B ⟨v,h3,hb⟩=>?_
 ·refine ah.upto [6,7] (.of (by kernel_rfl)) l.length (fun i A=>∃ v,A.env 3 = v ∧ A.env 8 = .int .i64 i ∧ aX σ A.st v 72 ((l.take i).map aH)) 0 (Nat.zero_le _) ?_ fun i B hi ⟨v,h3,h8,hb⟩=>?_
  ·simp only [go_sem,simprocAttr]
   exact ⟨_,rfl,aX.nil (.refl _) _⟩
  simp only [go_sem,simprocAttr,h3,h8,hb.ok,hb.un,List.length_map]
  refine ⟨fun hlt=>⟨hlt,?_⟩,fun hlt=>?_⟩
  ·obtain ⟨c,ha⟩:=get_some hlt
   simp only [ay ha]
   simp only [go_sem,simprocAttr,aH,h3,h8,hb.ok,hb.un]
   refine aj.fn (rp c (hc c (List.mem_of_getElem? ha))) ?_
   simp only [go_sem,simprocAttr,h3,h8,hb.ok,hb.un,aH]
   refine cy.own 1048576 (by kernel_rfl) hb.bld (.lit _ _ _) (by simp; omega) fun v' σ' ha'=>?_
   have hb':=hb.app ha'
   simp only [go_sem,simprocAttr,h3,h8,hb.ok,hb.un,hb'.ok,hb'.un]
   refine ⟨hlt,_,rfl,aq hlt (by rw [av]; omega),?_⟩
   rw [ak ha,List.map_append]
   exact hb'
  ·rw [List.take_of_length_le hlt] at hb
   exact ⟨_,rfl,hb⟩
 simp only [go_sem,simprocAttr,h3,hb.ok,hb.un]
 exact ⟨hb.cK,hb.ext⟩
theorem iL {l : List Clause} (h : l.length ≤ 12 ∧ ∀ c ∈ l,jw c = true) : l.length ≤ 1048576 ∧ ∀ c ∈ l,c.length ≤ 1048576 :=
 ⟨by omega,fun c hc=>by have:=(qt (h.2 c hc)).2.1; omega⟩
theorem CQ (p : Pkg) (hp : bn p = 0) : af prog W0 91 [ax p] (ax p):=by
 have hg:=gI hp
 refine kJ [.cell 2 54] [] func91 rfl rfl ntmps91 rfl rfl (qp _) fun hs σ=>?_
 simp only [go_sem,simprocAttr,ax]
 have g1:=iL hg.pre
 have g2:=iL hg.dep
 have g3:=iL hg.rcm
 refine ⟨.of (by kernel_rfl),aB.fn (mL p.pre g1.1 g1.2) ?_⟩
 simp only [go_sem,simprocAttr]
 refine aB.fn (mL p.dep g2.1 g2.2) ?_
 simp only [go_sem,simprocAttr]
 refine aB.fn (mL p.rcm g3.1 g3.2) ?_
 simp only [go_sem,simprocAttr]
 refine ⟨.of (by kernel_rfl),aB.fn (lQ p.con (by have:=hg.con.1; omega)) ?_⟩
 simp only [go_sem,simprocAttr]
 refine aB.fn (lQ p.brk (by have:=hg.brk.1; omega)) ?_
 simp only [go_sem,simprocAttr]
 refine aB.fn (tR p.gr (by have:=hg.gr.1; omega)) ?_
 simp only [go_sem,simprocAttr]
def eL (l : List Pkg) : AV:=.loc 149 (.agg 149 [bK l])
@[go_sem] theorem Ut (gd : Option Bool) (l : List Pkg) : okM gd (eL l) = True:=bP trivial
@[go_sem] theorem Us (l : List Pkg) : unm (eL l) = eL l:=rfl
@[go_sem] theorem Tn (p : Pkg) : unm (ax p) = ax p:=rfl
theorem qI (l : List Pkg) : af prog W0 43 [eL l] (.int .i64 l.length):=by
 refine ai [2] [] func43 rfl rfl ntmps43 rfl rfl (.int _ _) fun hs σ=>?_
 simp only [go_sem,simprocAttr,eL,bK,List.length_map]
 try exact .refl _
theorem Jp (l : List Pkg) (i : Nat) {p : Pkg} (hi : l[i]? = some p) (hp : bn p = 0) : af prog W0 44 [eL l,.int .i64 i] (.tup [ax p,.bool true]):=by
 have hlt:=(List.getElem?_eq_some_iff.1 hi).1
 refine kJ [.cell 4 54,.tmp 5] [] func44 rfl rfl ntmps44 rfl rfl (.zd (qp _) (.bool _)) fun hs σ=>?_
 simp only [go_sem,simprocAttr,eL,bK,List.length_map]
 refine aB.fnG (fun _=>qI l) ?_
 simp only [go_sem,simprocAttr,eL,bK,List.length_map]
 refine ⟨fun h=>absurd h (by simp; omega),fun _=>⟨hlt,?_⟩⟩
 simp only [ay hi]
 simp only [go_sem,simprocAttr,ax]
 refine aj.fn (CQ p hp) ?_
 simp only [go_sem,simprocAttr,ax]
def plB (l : List Pkg) (b : Pkg → Bool) (i : Nat) : List Nat:=(List.range i).filter fun i=>match l[i]? with
 | some p=>b p
 | none=>false
theorem qR {l : List Pkg} {b : Pkg → Bool} {i : Nat} {p : Pkg} (h : l[i]? = some p) : plB l b (i + 1) = plB l b i ++ if b p then [i] else []:=by
 unfold plB
 rw [List.range_succ,List.filter_append]
 congr 1
 cases hb : b p <;> simp [h,hb]
theorem Gk (l : List Pkg) (b : Pkg → Bool) (i : Nat) : (plB l b i).length ≤ i:=by
 have:=List.length_filter_le (fun i=>match l[i]? with | some p=>b p | none=>false) (List.range i)
 rwa [List.length_range] at this
def aW (l : List Pkg) (b : Pkg → Bool) : List Nat:=plB l b l.length
theorem pf (l : List Pkg) (hl : l.length ≤ 1048576) (b : Pkg → Bool) (g : FuncId) (caps : List AV) (hg : ∀ p ∈ l,af prog W0 g ([ax p] ++ caps) (.bool (b p))) : af prog W0 105 [eL l,.fn g caps] (.sl 3 ((aW l b).map fun i=>.int .i64 (i : Nat))):=by
 refine ai [4] [] func105 rfl rfl ntmps105 rfl rfl (.sl fun x hx=>by obtain ⟨i,_,rfl⟩:=List.mem_map.1 hx; exact .int _ _) fun hs σ=>?_
 simp only [go_sem,simprocAttr]
 refine aj.fn (qI l) ?_
 simp only [go_sem,simprocAttr]
 refine ah.at [] (.of (by kernel_rfl)) (fun A=>∃ v,A.env 5 = v ∧ aX σ A.st v 3 ((aW l b).map fun i=>.int .i64 (i : Nat))) ?_ fun B ⟨v,h5,hb⟩=>?_
 ·refine ah.upto [0,1,8] (.of (by kernel_rfl)) l.length (fun i A=>∃ v,A.env 5 = v ∧ A.env 9 = .int .i64 i ∧ aX σ A.st v 3 ((plB l b i).map fun i=>.int .i64 (i : Nat))) 0 (Nat.zero_le _) ?_ fun i B hi ⟨v,h5,h9,hb⟩=>?_
  ·simp only [go_sem,simprocAttr]
   exact ⟨_,rfl,aX.nil (.refl _) _⟩
  simp only [go_sem,simprocAttr,h5,h9,hb.ok,hb.un]
  refine ⟨fun hlt=>?_,fun hlt=>?_⟩
  ·obtain ⟨p,ha⟩:=get_some hlt
   simp only [go_sem,simprocAttr,eL,bK,List.length_map,h5,h9,hb.ok,hb.un]
   simp only [ay ha]
   simp only [go_sem,simprocAttr]
   refine ⟨hlt,aj.pure (hg p (List.mem_of_getElem? ha)) ?_⟩
   have hpl:=Gk l b i
   simp only [go_sem,simprocAttr,h5,h9,hb.ok,hb.un]
   refine ⟨fun hp=>?_,fun hp=>?_⟩
   ·refine cy.own 1048576 (by kernel_rfl) hb.bld (.lit _ _ _) (by simp; omega) fun v' σ' ha'=>?_
    have hb':=hb.app ha'
    simp only [go_sem,simprocAttr,h5,h9,hb'.ok,hb'.un]
    refine ⟨hlt,_,rfl,aq hlt (by rw [av]; omega),?_⟩
    rw [qR ha,hp,if_pos rfl,List.map_append]
    exact hb'
   ·refine ⟨hlt,_,rfl,aq hlt (by rw [av]; omega),?_⟩
    rw [qR ha,hp]
    simpa using hb
  ·have e : i = l.length:=by omega
   subst e
   exact ⟨_,rfl,hb⟩
 simp only [go_sem,simprocAttr,h5,hb.ok,hb.un]
 exact ⟨hb.cK,hb.ext⟩
theorem Dk (l : List Nat) : aN 0 (l9 l):=.sl fun x hx=>by obtain ⟨i,_,rfl⟩:=List.mem_map.1 hx; exact .int _ _
theorem Dy (l : List Pkg) (hl : l.length ≤ 1048576) (n : List UInt8) : af prog W0 47 [eL l,.str n] (l9 (aW l fun p=>p.name == n)):=by
 refine ai [4] [3] func47 rfl rfl ntmps47 rfl rfl (Dk _) fun hs σ=>?_
 simp only [go_sem,simprocAttr]
 refine aj.fn (pf l hl (fun p=>p.name == n) 106 [.loc 9 (.str n)] fun p _=>?_) ?_
 ·refine ai [3] [2] func106 rfl rfl ntmps106 rfl rfl (.bool _) fun hs σ=>?_
  simp only [go_sem,simprocAttr,ax]
  try exact .refl _
 simp only [go_sem,simprocAttr,l9]
 try exact .refl _
theorem vV (l : List Pkg) (hl : l.length ≤ 1048576) (a : Atom) : af prog W0 73 [eL l,bs a] (l9 (aW l fun p=>dY p a)):=by
 refine ai [4] [3] func73 rfl rfl ntmps73 rfl rfl (Dk _) fun hs σ=>?_
 simp only [go_sem,simprocAttr,bs]
 refine aj.fn (pf l hl (fun p=>dY p a) 132 [.loc 81 (bs a)] fun p _=>?_) ?_
 ·refine ai [3] [2] func132 rfl rfl ntmps132 rfl rfl (.bool _) fun hs σ=>?_
  simp only [go_sem,simprocAttr]
  refine aj.fn (EP p a) ?_
  simp only [go_sem,simprocAttr]
  try exact .refl _
 simp only [go_sem,simprocAttr,l9]
 try exact .refl _
theorem G9 (l : List Pkg) (hl : l.length ≤ 1048576) (n v : List UInt8) : af prog W0 130 [eL l,.str n,.str v] (.tup [.int .i64 (((aW l fun p=>p.name == n && bt p.ver v).head?.getD 0 : Nat) : Int),.bool (aW l fun p=>p.name == n && bt p.ver v).head?.isSome]):=by
 refine ai [6,7] [4,5] func130 rfl rfl ntmps130 rfl rfl (.zd (.int _ _) (.bool _)) fun hs σ=>?_
 simp only [go_sem,simprocAttr]
 refine aj.fn (pf l hl (fun p=>p.name == n && bt p.ver v) 179 [.loc 9 (.str n),.loc 9 (.str v)] fun p _=>?_) ?_
 ·refine ai [4] [3] func179 rfl rfl ntmps179 rfl rfl (.bool _) fun hs σ=>?_
  simp only [go_sem,simprocAttr,ax]
  refine aB.fnG (fun _=>np p.ver v) ?_
  simp only [go_sem,simprocAttr]
  try exact .refl _
 generalize aW l _ = ps
 cases ps with
 | nil=>simp only [go_sem,simprocAttr]; try exact .refl _
 | cons i r=>simp only [go_sem,simprocAttr]; rw [show atV (AV.int IntKind.i64 i :: List.map (fun i : Nat=>AV.int IntKind.i64 (i : Int)) r) 0 = .int .i64 i from rfl]; exact .refl _
def oB (l : List Pkg) (i : Nat) : Option (List UInt8):=match l[i]? with
 | some p=>if i = 0 ∨ (l[i - 1]?.map Pkg.name) ≠ some p.name then some p.name else none
 | none=>none
def nmB (l : List Pkg) (i : Nat) : List (List UInt8):=(List.range i).filterMap (oB l)
theorem qC (l : List Pkg) (i : Nat) : nmB l (i + 1) = nmB l i ++ (oB l i).toList:=by
 unfold nmB
 rw [List.range_succ,List.filterMap_append]
 cases h : oB l i <;> simp [h]
theorem uE (l : List Pkg) (i : Nat) : (nmB l i).length ≤ i:=by
 have:=List.length_filterMap_le (oB l) (List.range i)
 rwa [List.length_range] at this
theorem ve (u v : AV) : nW true u v = u:=by
 unfold nW mK
 split <;> simp [r6]
theorem Cf (l : List (List UInt8)) : aN 0 (.sl 9 (l.map .str)):=.sl fun x hx=>by obtain ⟨i,_,rfl⟩:=List.mem_map.1 hx; exact .str _
theorem Ft (l : List Pkg) (hl : l.length ≤ 1048576) : af prog W0 46 [eL l] (.sl 9 ((nmB l l.length).map .str)):=by
 refine ai [2] [] func46 rfl rfl ntmps46 rfl rfl (Cf _) fun hs σ=>?_
 simp only [go_sem,simprocAttr]
 refine aj.fn (qI l) ?_
 simp only [go_sem,simprocAttr]
 refine ah.at [] (.of (by kernel_rfl)) (fun A=>∃ v,A.env 3 = v ∧ aX σ A.st v 9 ((nmB l l.length).map .str)) ?_ fun B ⟨v,h3,hb⟩=>?_
 ·refine ah.upto [0,6] (.of (by kernel_rfl)) l.length (fun i A=>∃ v,A.env 3 = v ∧ A.env 7 = .int .i64 i ∧ aX σ A.st v 9 ((nmB l i).map .str)) 0 (Nat.zero_le _) ?_ fun i B hi ⟨v,h3,h7,hb⟩=>?_
  ·simp only [go_sem,simprocAttr]
   exact ⟨_,rfl,aX.nil (.refl _) _⟩
  simp only [go_sem,simprocAttr,h3,h7,hb.ok,hb.un]
  refine ⟨fun hlt=>?_,fun hlt=>?_⟩
  ·obtain ⟨p,ha⟩:=get_some hlt
   have hnl:=uE l i
   rcases Nat.eq_zero_or_pos i with h0 | h0
   ·subst h0
    have e0 : atV (List.map ax l) 0 = ax p:=ay (i:=0) ha
    have hn0 : oB l 0 = some p.name:=by simp [oB,ha]
    simp only [go_sem,simprocAttr,eL,bK,List.length_map,h3,h7,hb.ok,hb.un,e0,ax,ve]
    refine ⟨.of (by kernel_rfl),hlt,?_⟩
    refine cy.own 1048576 (by kernel_rfl) hb.bld (.lit _ _ _) (by simp; omega) fun v' σ' ha'=>?_
    have hb':=hb.app ha'
    simp only [go_sem,simprocAttr,h3,h7,hb'.ok,hb'.un]
    refine ⟨hlt,_,rfl,?_⟩
    rw [show 1 = 0 + 1 from rfl,qC,hn0,List.map_append]
    exact hb'
   ·obtain ⟨q,hq⟩:=get_some (show i - 1 < l.length by omega)
    have w1 : IntKind.i64.wrap ((i : Int) - 1) = ((i - 1 : Nat) : Int):=by rw [aF (by omega)]; omega
    have z1 : ((i : Int) == 0) = false:=by simp; omega
    have z2 : ¬ ((i : Int) = 0):=by omega
    have e0 : atV (List.map ax l) i = ax p:=ay ha
    have e1 : atV (List.map ax l) ((i - 1 : Nat) : Int) = ax q:=ay hq
    have hn0 : oB l i = if q.name ≠ p.name then some p.name else none:=by
     simp [oB,ha,hq,show i ≠ 0 by omega]
    simp only [go_sem,simprocAttr,eL,bK,List.length_map,h3,h7,hb.ok,hb.un,w1,z1,z2,e0,e1,ax]
    refine ⟨.of (by kernel_rfl),by omega,hlt,fun hne=>⟨hlt,?_⟩,fun he=>⟨hlt,_,rfl,aq hlt (by rw [av]; omega),?_⟩⟩
    ·refine cy.own 1048576 (by kernel_rfl) hb.bld (.lit _ _ _) (by simp; omega) fun v' σ' ha'=>?_
     have hb':=hb.app ha'
     simp only [go_sem,simprocAttr,h3,h7,hb'.ok,hb'.un]
     refine ⟨hlt,_,rfl,aq hlt (by rw [av]; omega),?_⟩
     rw [qC,hn0,if_pos hne,List.map_append]
     exact hb'
    ·rw [qC,hn0,if_neg (fun h=>h he)]
     simpa using hb
  ·have e : i = l.length:=by omega
   subst e
   exact ⟨_,rfl,hb⟩
 simp only [go_sem,simprocAttr,h3,hb.ok,hb.un]
 exact ⟨hb.cK,hb.ext⟩
end Go.Proofs.Tryz
end
section
namespace Go.Proofs.Tryz
open Go Go.Av
set_option maxRecDepth 10000
variable {W0 : World}
theorem sJ {f : Pkg → Pkg → Int} (hw : jR (ltF f)) (σ : ab) (id n : Nat) (xs : List Pkg) (hn : n = xs.length) (hx : n < 40) (hid : σ[id]? = some (bW xs)) (g : FuncId) (caps : List AV) (hcmp : p6 W0 f xs g caps) :
  aU prog W0 92 [.row 54 id 0 n,.fn g caps] σ fun r σ'=>∃ C,C.Perm xs ∧ ct (ltF f) C ∧ σ' = σ.set id (bW C):=by
 refine cB [] [] func92 rfl rfl ntmps92 rfl rfl fun hs=>?_
 simp only [go_sem,simprocAttr]
 refine aj.goes (by simp only [go_sem,simprocAttr]) (A5 hw σ id n xs hn hx hid g caps hcmp) fun r σ1 ⟨C,p,r,hσ⟩=>?_
 simp only [go_sem,simprocAttr]
 refine bR.normal ?_
 simp only [go_sem,simprocAttr]
 exact ⟨_,.refl _,by rw [hσ]; simp,C,p,r,hσ⟩
theorem mC (a b : List UInt8) : af prog W0 96 [.str a,.str b] (.int .i64 (bJ a b)):=by
 refine ai [4] [] func96 rfl rfl ntmps96 rfl rfl (.int _ _) fun hs σ=>?_
 simp only [go_sem,simprocAttr]
 refine aj.fn (mz a b) ?_
 simp only [go_sem,simprocAttr,oe]
 try exact .refl _
theorem Ld (p q : Pkg) : af prog W0 93 [ax p,ax q] (.int .i64 (fy p q)):=by
 refine ai [4] [2,3] func93 rfl rfl ntmps93 rfl rfl (.int _ _) fun hs σ=>?_
 simp only [go_sem,simprocAttr,ax]
 refine ⟨.of (by kernel_rfl),aB.fn (vp p.name q.name) ?_⟩
 simp only [go_sem,simprocAttr]
 refine aB.fn (mC q.ver p.ver) ?_
 simp only [go_sem,simprocAttr]
 refine aB.fn ((Ff [e7 p.name q.name,bJ q.ver p.ver]).cK (.cons (.lit _ _) .nil)) ?_
 simp only [go_sem,simprocAttr]
 have e : orL [e7 p.name q.name,bJ q.ver p.ver] = fy p q:=by
  unfold fy orL orL orL
  split <;> simp_all
 rw [e]
 exact .refl _
theorem Iq {l : List Pkg} (hv : uN l) : p6 W0 sG l 93 []:=fun a ha b hb=>by
 rw [AT (hv a ha) (hv b hb)]
 simpa using Ld a b
theorem za {g : FuncId} {caps : List AV} : af prog W0 92 [.au,.fn g caps] (.tup []):=by
 have h1 : af prog W0 206 [.au,.int .i64 0,.int .i64 0,.fn g caps] (.tup []):=by
  refine ai [] [] func206 rfl rfl ntmps206 rfl rfl (.tup fun x hx=>by cases hx) fun hs σ=>?_
  simp only [go_sem,simprocAttr]
  refine ah.cF [0,1,2,3] (.of (by kernel_rfl)) (fun k E=>E.env 8 = .int .i64 1 ∧ E.st = σ) 0 ?_ fun k E ⟨h8,hst⟩=>?_
  ·simp only [go_sem,simprocAttr]
  simp only [go_sem,simprocAttr,h8,hst]
  try exact .refl _
 have h2 : af prog W0 155 [.au,.int .i64 0,.fn g caps] (.tup []):=by
  refine ai [] [] func155 rfl rfl ntmps155 rfl rfl (.tup fun x hx=>by cases hx) fun hs σ=>?_
  simp only [go_sem,simprocAttr]
  refine ah.at [0,1,2,6] (.of (by kernel_rfl)) (fun E=>E.env 7 = .int .i64 0 ∧ E.st = σ) ?_ fun E ⟨h7,hst⟩=>?_
  ·refine ah.cF [0,1,2,6] (.of (by kernel_rfl)) (fun k E=>E.env 7 = .int .i64 0 ∧ E.env 8 = .int .i64 20 ∧ E.st = σ) 0 ?_ fun k E ⟨h7,h8,hst⟩=>?_
   ·simp only [go_sem,simprocAttr]
   simp only [go_sem,simprocAttr,h7,h8,hst]
  simp only [go_sem,simprocAttr,h7,hst]
  refine aj.fn h1 ?_
  simp only [go_sem,simprocAttr,h7,hst]
  refine ah.cF [0,1,2] (.of (by kernel_rfl)) (fun k E=>E.env 6 = .int .i64 20 ∧ E.st = σ) 0 ?_ fun k E ⟨h6,hst⟩=>?_
  ·simp only [go_sem,simprocAttr,hst]
  simp only [go_sem,simprocAttr,h6,hst]
  try exact .refl _
 refine ai [] [] func92 rfl rfl ntmps92 rfl rfl (.tup fun x hx=>by cases hx) fun hs σ=>?_
 simp only [go_sem,simprocAttr]
 refine aj.fn h2 ?_
 simp only [go_sem,simprocAttr]
 try exact .refl _
def uC (v : AV) : Option cM:=some (.cells 149 [.agg 149 [v]])
structure IU (σ st : ab) (ix : Nat) (v : AV) (xs : List Pkg) : Prop where
 ext : Ext σ st
 low : σ.length ≤ ix
 at_ : st[ix]? = some (uC v)
 row : (v = .au ∧ xs = []) ∨ ∃ rid,v = .row 54 rid 0 xs.length ∧ st[rid]? = some (bW xs) ∧ σ.length ≤ rid
theorem Iu (l : List Pkg) : aN 0 (eL l):=.loc (.agg fun x hx=>by
 rw [List.mem_singleton] at hx
 subst hx
 exact oA l)
theorem IB (l : List Pkg) (hp : ∀ p ∈ l,oK p) (h0 : bO l = 0) : af prog W0 39 [bK l] (.tup [eL (dP l),.int .i64 0]):=by
 have hm : ∀ p ∈ l,bn p = 0:=fun p hp=>dm h0 hp
 have h24:=dM h0
 have hv:=(fX h0).2
 refine rL [.tmp 2,.tmp 3] [7,2000029,4000008] func39 rfl rfl ntmps39 rfl rfl (.zd (Iu _) (.int _ _)) fun hs σ=>?_
 simp only [go_sem,simprocAttr]
 refine aj.fn (ud l hp) ?_
 simp only [go_sem,simprocAttr,h0,bK,List.length_map]
 refine ah.at [5] (.of (by kernel_rfl)) (fun A=>∃ v,IU σ A.st σ.length v l) ?_ fun B ⟨v,hI⟩=>?_
 ·refine ah.upto [5,15,16] (.of (by kernel_rfl)) l.length (fun i A=>A.env 17 = .int .i64 i ∧ ∃ v,IU σ A.st σ.length v (l.take i)) 0 (Nat.zero_le _) ?_ fun i B hi ⟨h17,v,hI⟩=>?_
  ·simp only [go_sem,simprocAttr]
   exact ⟨.au,(Ext.refl _).app _,Nat.le_refl _,by simp [uC],.inl ⟨rfl,rfl⟩⟩
  simp only [go_sem,simprocAttr,h17,List.length_map]
  refine ⟨fun hlt=>?_,fun hge=>?_⟩
  ·obtain ⟨p,ha⟩:=get_some hlt
   simp only [ay ha]
   have hat:=hI.at_
   have hvn : cD v:=by rcases hI.row with ⟨rfl,_⟩ | ⟨_,rfl,_⟩ <;> trivial
   have c1 : (B.st ++ [none])[σ.length]? = some (uC v):=(List.getElem?_append_left (List.getElem?_eq_some_iff.1 hat).1).trans hat
   have hil : (l.take i).length = i:=by rw [List.length_take]; omega
   unfold uC at c1
   simp only [go_sem,simprocAttr,h17,an c1,ar c1]
   refine ⟨hlt,.of (by kernel_rfl),aB.fn (CQ p (hm p (List.mem_of_getElem? ha))) ?_⟩
   have hR : c7 (B.st ++ [none]) v 54 ((l.take i).map ax):=by
    rcases hI.row with ⟨h1,h2⟩ | ⟨rid,h1,h2,h3⟩
    ·exact .inl ⟨h1,by rw [h2]; rfl⟩
    ·refine .inr (.inr ⟨rid,0,_,_,h1,(List.getElem?_append_left (List.getElem?_eq_some_iff.1 h2).1).trans h2,by simp,?_⟩)
     rw [List.drop_zero]
     exact (List.take_of_length_le (l:=List.map ax (l.take i)) (by simp)).symm
   have hkl : (bY v (B.st ++ [none])).length = (B.st ++ [none]).length:=by unfold bY; split <;> simp
   have hk1 : (bY v (B.st ++ [none]))[σ.length]? = some (uC v):=by
    rcases hI.row with ⟨rfl,h2⟩ | ⟨rid,rfl,h2,h3⟩
    ·exact c1
    ·have hne : rid ≠ σ.length:=fun e=>by rw [e,hat] at h2; simp [uC,bW] at h2
     exact (List.getElem?_set_ne hne).trans c1
   have hfp : bf prog 54 (ax p) = true:=by kernel_rfl
   simp only [go_sem,simprocAttr,h17,bP hvn,cp hvn,hfp]
   refine cy.row 1048576 (by kernel_rfl) hR (.lit _ _ _) (by simp; omega) (fun h=>by cases h) fun _=>?_
   have c2 : (bY v (B.st ++ [none]) ++ [some (.cells 54 ((l.take i).map ax ++ [ax p]))])[σ.length]? = some (uC v):=(List.getElem?_append_left (List.getElem?_eq_some_iff.1 hk1).1).trans hk1
   unfold uC at c2
   simp only [go_sem,simprocAttr,h17,an c2,ar c2,aL c2]
   refine ⟨hlt,aq hlt (by rw [av]; omega),_,?_,Nat.le_refl _,List.getElem?_set_self (List.getElem?_eq_some_iff.1 c2).1,.inr ⟨B.st.length + 1,?_,?_,?_⟩⟩
   ·refine Ext.set (Ext.app ?_ _) (Nat.le_refl _) _
    unfold bY
    split
    ·rcases hI.row with ⟨h1,h2⟩ | ⟨rid,h1,h2,h3⟩
     ·cases h1
     ·cases h1; exact (hI.ext.app _).set h3 _
    ·exact hI.ext.app _
   ·rw [List.length_map,hil,List.length_take]
    congr 1
    omega
   ·have hne : σ.length ≠ B.st.length + 1:=by have:=hI.ext.le; omega
    rw [List.getElem?_set_ne hne,List.getElem?_append_right (by rw [hkl]; simp),hkl,bW,ak ha,List.map_append]
    simp
   ·have:=hI.ext.le; omega
  ·rw [List.take_of_length_le hge] at hI
   exact ⟨v,hI⟩
 have hat:=hI.at_
 unfold uC at hat
 rcases hI.row with ⟨rfl,rfl⟩ | ⟨rid,rfl,hr1,hr2⟩
 ·simp only [go_sem,simprocAttr,an hat,ar hat]
  refine aj.fn za ?_
  simp only [go_sem,simprocAttr,an hat,ar hat]
  refine cJ.via (.inl rfl) (.cK σ.length 0 (z':=.agg 149 [.sl 54 []]) hat rfl (.agg rfl fun i a b ha hb=>by
   match i,ha,hb with
   | 0,ha,hb=>cases ha; cases hb; exact .au _) (.pt 2 rfl (List.getElem?_set_self (List.getElem?_eq_some_iff.1 hat).1) (.refl _))) ?_
  refine ⟨⟨trivial,trivial,trivial⟩,?_,?_⟩
  ·exact .refl _
  ·exact (hI.ext.set (Nat.le_refl _) _).set (Nat.le_refl _) _
 ·simp only [go_sem,simprocAttr,an hat,ar hat]
  refine aj.goes (by simp only [go_sem,simprocAttr]) (sJ Dj _ rid l.length l rfl (by omega) hr1 _ _ (Iq hv)) fun r σ1 ⟨C,p,r,hσ⟩=>?_
  have hC : C = dP l:=HT (fX h0).1 hv (Bq (fun x hx=>hv x (p.subset hx)) r) (lU hv) p (kp l)
  have hne : rid ≠ σ.length:=fun e=>by rw [e,hat] at hr1; simp [bW] at hr1
  have hrl:=(List.getElem?_eq_some_iff.1 hr1).1
  have hat2 : σ1[σ.length]? = some (some (.cells 149 [.agg 149 [.row 54 rid 0 l.length]])):=by rw [hσ,List.getElem?_set_ne hne]; exact hat
  have hr3 : σ1[rid]? = some (some (.cells 54 (C.map ax))):=by rw [hσ]; exact List.getElem?_set_self hrl
  simp only [go_sem,simprocAttr,an hat,ar hat]
  have hlen : C.length = l.length:=p.length_eq
  refine cJ.via (.inl rfl) (.cell (t:=22) (o:=0) σ.length 0 [0] hat2 rfl rfl hr3 (by simp; omega) hne (by kernel_rfl) (.pt 2 rfl (List.getElem?_set_self (by rw [List.length_set]; exact (List.getElem?_eq_some_iff.1 hat2).1)) (.refl _))) ?_
  refine ⟨⟨trivial,trivial,trivial⟩,?_,?_⟩
  ·have e : List.take l.length (List.drop 0 (List.map ax C)) = List.map ax (dP l):=by
    rw [List.drop_zero,List.take_of_length_le (by simp; omega),hC]
   show cI (.tup [.loc 149 (.agg 149 [.sl 54 (List.take l.length (List.drop 0 (List.map ax C)))]),.int .i64 0]) _
   rw [e]
   exact .refl _
  ·have hx : Ext σ σ1:=by rw [hσ]; exact hI.ext.set hr2 _
   exact ((hx.set hr2 _).set (Nat.le_refl _) _).set (Nat.le_refl _) _
theorem yK (l : List Pkg) (hp : ∀ p ∈ l,oK p) : af prog W0 39 [bK l] (if bO l = 0 then .tup [eL (dP l),.int .i64 0] else .tup [.nil,.int .i64 (bO l)]):=by
 split
 ·rename_i h0
  exact IB l hp h0
 ·rename_i h0
  refine rL [.tmp 2,.tmp 3] [7,2000029,4000008] func39 rfl rfl ntmps39 rfl rfl (.zd .nil (.int _ _)) fun hs σ=>?_
  simp only [go_sem,simprocAttr]
  refine aj.fn (ud l hp) ?_
  simp only [go_sem,simprocAttr,h0]
  refine cJ.ret ?_
  simp only [go_sem,simprocAttr]
end Go.Proofs.Tryz
end
section
namespace Go.Proofs.Tryz
open Go Go.Av
set_option maxRecDepth 10000
variable {W0 : World}
def bT (a : aM) : AV:=.agg 83 [.int .i64 a.kind,.str a.name,.str a.ver]
def bA (l : List aM) : AV:=.sl 83 (l.map bT)
@[go_sem] theorem RQ (gd : Option Bool) (l : List aM) : okM gd (bA l) = True:=eq_true trivial
@[go_sem] theorem Q4 (l : List aM) : unm (bA l) = bA l:=rfl
@[go_sem] theorem SE (gd : Option Bool) (l : List aK) : okM gd (bq l) = True:=eq_true trivial
@[go_sem] theorem Sg (l : List aK) : unm (bq l) = bq l:=rfl
@[go_sem] theorem PV (l : List Pkg) : unm (bK l) = bK l:=rfl
theorem cD.ask (a : aM) : cD (bT a):=trivial
@[go_sem] theorem TV (gd : Option Bool) (a : aM) : okM gd (bT a) = True:=eq_true trivial
@[go_sem] theorem SU (a : aM) : unm (bT a) = bT a:=rfl
@[go_sem] theorem Tv (gd : Option Bool) (a : aK) : okM gd (bL a) = True:=eq_true trivial
@[go_sem] theorem Tg (a : aK) : unm (bL a) = bL a:=rfl
theorem AF (a : aM) : aN 0 (bT a):=.agg fun x hx=>by
 simp only [List.mem_cons,List.not_mem_nil,or_false] at hx
 rcases hx with rfl | rfl | rfl
 ·exact .int _ _
 ·exact .str _
 ·exact .str _
theorem PI {α : Type} (enc : α → AV) (hp : ∀ a,cD (enc a)) (l : List α) (q : α → Bool) (g : FuncId) (caps : List AV) (h : ∀ a ∈ l,af prog W0 g ([enc a] ++ caps) (.bool (q a))) :
  af prog W0 215 [.sl 100 (l.map enc),.fn g caps] (.int .i64 (iT q l)):=by
 refine ai [4] [] func215 rfl rfl ntmps215 rfl rfl (.int _ _) fun hs σ=>?_
 have hl:=(bu (hs _ (List.mem_cons_self ..))).1
 simp only [go_sem,simprocAttr]
 refine ah.upto [0,1,7] (.of (by kernel_rfl)) l.length (fun i A=>A.env 8 = .int .i64 i ∧ A.st = σ ∧ ∀ a ∈ l.take i,q a = false) 0 (Nat.zero_le _) ?_ fun i B hi ⟨h8,hst,hI⟩=>?_
 ·simp only [go_sem,simprocAttr]
  all_goals simp
 simp only [go_sem,simprocAttr,h8,hst,List.length_map]
 refine ⟨fun hc=>⟨hc,?_⟩,fun hc=>aD ?_⟩
 ·obtain ⟨a,ha⟩:=get_some hc
  simp only [ay ha,bP (hp a),cp (hp a),true_and]
  refine aj.pure (h a (List.mem_of_getElem? ha)) ?_
  simp only [go_sem,simprocAttr,h8,hst]
  refine ⟨fun hq=>aD (fP ha hq hI).symm,fun hq=>⟨hc,aq hc hl,?_⟩⟩
  rw [ak ha]
  intro b hb
  rcases List.mem_append.1 hb with hb | hb
  ·exact hI b hb
  ·rw [List.mem_singleton.1 hb]; exact hq
 ·rw [dz]
  rwa [List.take_of_length_le hc] at hI
theorem PO {α : Type} (enc : α → AV) (hp : ∀ a,cD (enc a)) (l : List α) (q : α → Bool) (g : FuncId) (caps : List AV) (h : ∀ a ∈ l,af prog W0 g ([enc a] ++ caps) (.bool (q a))) :
  af prog W0 161 [.sl 83 (l.map enc),.fn g caps] (.int .i64 (iT q l)):=by
 refine ai [4] [] func161 rfl rfl ntmps161 rfl rfl (.int _ _) fun hs σ=>?_
 have hl:=(bu (hs _ (List.mem_cons_self ..))).1
 simp only [go_sem,simprocAttr]
 refine ah.upto [0,1,7] (.of (by kernel_rfl)) l.length (fun i A=>A.env 8 = .int .i64 i ∧ A.st = σ ∧ ∀ a ∈ l.take i,q a = false) 0 (Nat.zero_le _) ?_ fun i B hi ⟨h8,hst,hI⟩=>?_
 ·simp only [go_sem,simprocAttr]
  all_goals simp
 simp only [go_sem,simprocAttr,h8,hst,List.length_map]
 refine ⟨fun hc=>⟨hc,?_⟩,fun hc=>aD ?_⟩
 ·obtain ⟨a,ha⟩:=get_some hc
  simp only [ay ha,bP (hp a),cp (hp a),true_and]
  refine aj.pure (h a (List.mem_of_getElem? ha)) ?_
  simp only [go_sem,simprocAttr,h8,hst]
  refine ⟨fun hq=>aD (fP ha hq hI).symm,fun hq=>⟨hc,aq hc hl,?_⟩⟩
  rw [ak ha]
  intro b hb
  rcases List.mem_append.1 hb with hb | hb
  ·exact hI b hb
  ·rw [List.mem_singleton.1 hb]; exact hq
 ·rw [dz]
  rwa [List.take_of_length_le hc] at hI
theorem RY {α : Type} (enc : α → AV) (hp : ∀ a,cD (enc a)) (l : List α) (q : α → Bool) (g : FuncId) (caps : List AV) (h : ∀ a ∈ l,af prog W0 g ([enc a] ++ caps) (.bool (q a))) :
  af prog W0 166 [.sl 100 (l.map enc),.fn g caps] (.bool (l.any q)):=by
 refine ai [4] [] func166 rfl rfl ntmps166 rfl rfl (.bool _) fun hs σ=>?_
 simp only [go_sem,simprocAttr]
 refine aj.fn (PI enc hp l q g caps h) ?_
 simp only [go_sem,simprocAttr]
 exact al ie
theorem JK {α : Type} (enc : α → AV) (hp : ∀ a,cD (enc a)) (l : List α) (q : α → Bool) (g : FuncId) (caps : List AV) (h : ∀ a ∈ l,af prog W0 g ([enc a] ++ caps) (.bool (q a))) :
  af prog W0 109 [.sl 83 (l.map enc),.fn g caps] (.bool (l.any q)):=by
 refine ai [4] [] func109 rfl rfl ntmps109 rfl rfl (.bool _) fun hs σ=>?_
 simp only [go_sem,simprocAttr]
 refine aj.fn (PO enc hp l q g caps h) ?_
 simp only [go_sem,simprocAttr]
 exact al ie
def NoB {α : Type} (q : α → Bool) (l : List α) (i : Nat) : Prop:=∀ b ∈ l.take i,q b = false
theorem NoB.zero {α : Type} (q : α → Bool) (l : List α) : NoB q l 0:=fun b hb=>by simp at hb
theorem NoB.succ {α : Type} {l : List α} {i : Nat} {a : α} {q : α → Bool} (hI : NoB q l i) (ha : l[i]? = some a) (hq : q a = false) : NoB q l (i + 1):=by
 unfold NoB
 rw [ak ha]
 intro b hb
 rcases List.mem_append.1 hb with hb | hb
 ·exact hI b hb
 ·rw [List.mem_singleton.1 hb]; exact hq
theorem NoB.all {α : Type} {l : List α} {i : Nat} {q : α → Bool} (hI : NoB q l i) (h : l.length ≤ i) : ∀ b ∈ l,q b = false:=by
 unfold NoB at hI
 rwa [List.take_of_length_le h] at hI
theorem uO (l : List aK) (n : List UInt8) : af prog W0 50 [bq l,.str n] (.tup [.int .i64 (if iT (fun x : aK=>x.pkg.name == n) l < 0 then 0 else iT (fun x : aK=>x.pkg.name == n) l),.bool (decide (0 ≤ iT (fun x : aK=>x.pkg.name == n) l))]):=by
 refine ai [4,5] [7] func50 rfl rfl ntmps50 rfl rfl (.zd (.int _ _) (.bool _)) fun hs σ=>?_
 have hl:=(bu (hs _ (List.mem_cons_self ..))).1
 simp only [go_sem,simprocAttr,bq,List.length_map]
 refine ah.upto [1,8,9] (.of (by kernel_rfl)) l.length (fun i A=>A.env 10 = .int .i64 i ∧ Ext σ A.st ∧ NoB (fun x : aK=>x.pkg.name == n) l i) 0 (Nat.zero_le _) ?_ fun i B hi ⟨h10,hst,hI⟩=>?_
 ·simp only [go_sem,simprocAttr]
  exact ⟨.refl _,.zero _ _⟩
 simp only [go_sem,simprocAttr,h10,List.length_map]
 refine ⟨fun hc=>⟨hc,?_⟩,fun hc=>?_⟩
 ·obtain ⟨a,ha⟩:=get_some hc
  simp only [ay ha]
  simp only [go_sem,simprocAttr,bL,ax,h10]
  refine ⟨fun hq=>⟨?_,hst.app _⟩,fun hq=>⟨hc,aq hc hl,hst.app _,hI.succ ha (by simpa using hq)⟩⟩
  rw [fP ha (by simpa using hq) hI,if_neg (by omega),decide_eq_true (by omega)]
  exact .refl _
 ·rw [dz (hI.all hc)]
  exact ⟨.refl _,hst⟩
theorem Af (l : List aM) (k : Int) : af prog W0 100 [bA l,.int .i64 k] (.bool (l.any fun a=>a.kind == k)):=by
 refine ai [4] [6] func100 rfl rfl ntmps100 rfl rfl (.bool _) fun hs σ=>?_
 have hl:=(bu (hs _ (List.mem_cons_self ..))).1
 simp only [go_sem,simprocAttr,bA,List.length_map]
 refine ah.upto [1,7,8] (.of (by kernel_rfl)) l.length (fun i A=>A.env 9 = .int .i64 i ∧ Ext σ A.st ∧ NoB (fun a : aM=>a.kind == k) l i) 0 (Nat.zero_le _) ?_ fun i B hi ⟨h10,hst,hI⟩=>?_
 ·simp only [go_sem,simprocAttr]
  exact ⟨.refl _,.zero _ _⟩
 simp only [go_sem,simprocAttr,h10,List.length_map]
 refine ⟨fun hc=>⟨hc,?_⟩,fun hc=>?_⟩
 ·obtain ⟨a,ha⟩:=get_some hc
  simp only [ay ha]
  simp only [go_sem,simprocAttr,bT,h10]
  refine ⟨fun hq=>⟨al ?_,hst.app _⟩,fun hq=>⟨hc,aq hc hl,hst.app _,hI.succ ha (by simpa using hq)⟩⟩
  exact (List.any_eq_true.2 ⟨a,List.mem_of_getElem? ha,by simpa using hq⟩).symm
 ·refine ⟨al ?_,hst⟩
  exact (List.any_eq_false.2 fun x hx=>by simpa using hI.all hc x hx).symm
def dU (l : List aM) : Bool:=(l.any fun a=>a.kind == 3) || l.any fun a=>a.kind == 4
theorem yT (l : List aM) : af prog W0 42 [bA l] (.bool (dU l)):=by
 refine ai [2] [] func42 rfl rfl ntmps42 rfl rfl (.bool _) fun hs σ=>?_
 simp only [go_sem,simprocAttr]
 refine aj.fn (Af l 3) ?_
 simp only [go_sem,simprocAttr]
 refine aB.fnG (fun _=>Af l 4) ?_
 simp only [go_sem,simprocAttr,dU]
 try exact .refl _
def l7 : aM:=⟨0,[],[]⟩
theorem qq {α : Type} {l : List α} {i : Nat} {a : α} {q : α → Bool} (ha : l[i]? = some a) (hq : q a = true) (hI : NoB q l i) : l.find? q = some a:=by
 obtain ⟨hi,he⟩:=List.getElem?_eq_some_iff.1 ha
 refine List.find?_eq_some_iff_getElem.2 ⟨hq,i,hi,he,fun j hj=>?_⟩
 rw [hI _ (List.mem_iff_getElem.2 ⟨j,by rw [List.length_take]; omega,by rw [List.getElem_take]⟩)]
 rfl
theorem Eh (p : Pkg) (all : List Pkg) (h24 : all.length ≤ 1048576) : af prog W0 102 [ax p,bK all] (.int .i64 (cA all p)):=by
 refine ai [4] [2,7] func102 rfl rfl ntmps102 rfl rfl (.int _ _) fun hs σ=>?_
 simp only [go_sem,simprocAttr,bK,List.length_map]
 refine ah.at [] (.of (by kernel_rfl)) (fun A=>A.env 5 = .int .i64 (cA all p) ∧ Ext σ A.st) ?_ fun B ⟨h5,hst⟩=>?_
 ·refine ah.upto [2,8,9] (.of (by kernel_rfl)) all.length (fun i A=>A.env 10 = .int .i64 i ∧ A.env 5 = .int .i64 (cA (all.take i) p) ∧ Ext σ A.st ∧ cA (all.take i) p ≤ i) 0 (Nat.zero_le _) ?_ fun i B hi ⟨h10,h5,hst,hle⟩=>?_
  ·simp only [go_sem,simprocAttr]
   simp [cA,Ext.refl]
  simp only [go_sem,simprocAttr,h10,h5,List.length_map]
  refine ⟨fun hc=>⟨hc,?_⟩,fun hc=>?_⟩
  ·obtain ⟨q,hq⟩:=get_some hc
   have hn : cA (all.take (i + 1)) p = cA (all.take i) p + if (q.name == p.name && decide (0 < bJ q.ver p.ver)) = true then 1 else 0:=by
    unfold cA
    rw [ak hq,List.filter_append,List.length_append]
    congr 1
    rw [List.filter_cons]
    split <;> rfl
   simp only [ay hq]
   simp only [go_sem,simprocAttr,ax,h10,h5]
   refine aB.fnG (fun _=>mC q.ver p.ver) ?_
   simp only [go_sem,simprocAttr,h10,h5]
   refine ⟨fun hb=>⟨hc,aq hc (by rw [av]; omega),?_,hst.app _,?_⟩,fun hb=>⟨hc,aq hc (by rw [av]; omega),?_,hst.app _,?_⟩⟩
   ·rw [hn,if_pos hb,lN (N:=1048577) (by omega) (by rw [av]; omega)]
   ·rw [hn,if_pos hb]; omega
   ·rw [hn,if_neg (by simp [hb])]; rfl
   ·rw [hn,if_neg (by simp [hb])]; omega
  ·rw [List.take_of_length_le hc]
   exact ⟨rfl,hst⟩
 simp only [go_sem,simprocAttr,h5]
 exact hst
end Go.Proofs.Tryz
end
section
namespace Go.Proofs.Tryz
open Go Go.Av
set_option maxRecDepth 10000
set_option maxHeartbeats 1000000
variable {W0 : World}
theorem CK {l : List Pkg} {b : Pkg → Bool} : (aW l b).head? = l.findIdx? b:=by
 have key : ∀ i,i ≤ l.length → (plB l b i).head? = (l.take i).findIdx? b:=by
  intro i
  induction i with
  | zero=>intro _; simp [plB]
  | succ i ih =>
   intro hi
   obtain ⟨p,hp⟩:=get_some (show i < l.length by omega)
   rw [qR hp,ak hp,List.head?_append,ih (by omega),List.findIdx?_append]
   cases (l.take i).findIdx? b with
   | some k=>rfl
   | none =>
    have : (l.take i).length = i:=by rw [List.length_take]; omega
    cases hb : b p <;> simp [hb,this]
 have:=key l.length (Nat.le_refl _)
 rwa [List.take_length] at this
theorem Ic (l : List Pkg) (n v : List UInt8) : (aW l fun p=>p.name == n && bt p.ver v).head? = oU l n v:=CK
theorem yC (all : List Pkg) (h0 : bO all = 0) : af prog W0 70 [bK all,eL (dP all)] (.bool (decide (all = dP all))):=by
 have h24:=dM h0
 have hsl : (dP all).length = all.length:=(kp all).length_eq
 refine ai [4] [6] func70 rfl rfl ntmps70 rfl rfl (.bool _) fun hs σ=>?_
 have hl:=(bu (hs _ (List.mem_cons_self ..))).1
 simp only [go_sem,simprocAttr,bK,List.length_map]
 refine ah.upto [1,9,10] (.of (by kernel_rfl)) all.length (fun i A=>A.env 11 = .int .i64 i ∧ Ext σ A.st ∧ ∀ k p,k < i → all[k]? = some p → oU (dP all) p.name p.ver = some k) 0 (Nat.zero_le _) ?_ fun i B hi ⟨h11,hst,hI⟩=>?_
 ·simp only [go_sem,simprocAttr]
  exact .refl _
 simp only [go_sem,simprocAttr,h11,List.length_map]
 refine ⟨fun hc=>⟨hc,?_⟩,fun hc=>⟨al (decide_eq_true ((pU h0).1 fun k p hk=>hI k p (by have:=(List.getElem?_eq_some_iff.1 hk).1; omega) hk)).symm,hst⟩⟩
 ·obtain ⟨p,hp⟩:=get_some hc
  simp only [ay hp]
  simp only [go_sem,simprocAttr,ax,h11]
  refine aj.fn (G9 (dP all) (by omega) p.name p.ver) ?_
  rw [Ic]
  simp only [go_sem,simprocAttr,h11]
  have hno : oU (dP all) p.name p.ver ≠ some i → all ≠ dP all:=fun h e=>h ((pU h0).2 e i p hp)
  cases hf : oU (dP all) p.name p.ver with
  | none =>
   simp only [go_sem,simprocAttr]
   exact ⟨al (decide_eq_false (hno (by rw [hf]; simp))).symm,hst.app _⟩
  | some k =>
   simp only [go_sem,simprocAttr,Option.getD_some]
   refine ⟨fun hne=>⟨al (decide_eq_false (hno (by rw [hf]; simp; omega))).symm,hst.app _⟩,fun he=>⟨hc,aq hc (by rw [av]; omega),hst.app _,fun j q hj hq=>?_⟩⟩
   rcases Nat.lt_or_ge j i with h | h
   ·exact hI j q h hq
   ·have : j = i:=by omega
    subst this
    rw [hp] at hq
    cases hq
    rw [hf]
    congr 1
    try omega
def HR (n : Nat) (cls : List (List Int)) : AV:=.loc 191 (.agg 191 [.int .i64 n,xB cls])
@[go_sem] theorem Tb (n : Nat) (cls : List (List Int)) : unm (HR n cls) = HR n cls:=rfl
def UJ (n : Nat) (cls : List (List Int)) : AV:=.loc 133 (.agg 133 [.int .i64 n,HR n cls])
def marks (n : Nat) : List Int → List Bool → Option (List Bool)
 | [],m=>some m
 | i :: r,m=>if 0 ≤ i ∧ i < n then (if (m[i.toNat]?).getD false = true then none else marks n r (m.set i.toNat true)) else none
end Go.Proofs.Tryz
end
section
namespace Go.Proofs.Tryz
open Go Go.Av
set_option maxRecDepth 10000
set_option maxHeartbeats 1000000
variable {W0 : World}
def gx (all : List Pkg) (c : Clause) : List Int:=c.flatMap fun a=>(aW all fun q=>dY q a).map eg
theorem n5 {l : List Pkg} {b : Pkg → Bool} {k : Nat} : k ∈ aW l b ↔ ∃ q,l[k]? = some q ∧ b q = true:=by
 unfold aW plB
 simp only [List.mem_filter,List.mem_range]
 constructor
 ·rintro ⟨h1,h2⟩
  obtain ⟨q,hq⟩:=get_some h1
  rw [hq] at h2
  exact ⟨q,hq,h2⟩
 ·rintro ⟨q,h1,h2⟩
  exact ⟨(List.getElem?_eq_some_iff.1 h1).1,by rw [h1]; exact h2⟩
theorem Cu {c : Clause} {all : List Pkg} {x : Int} : x ∈ gw c 0 all ↔ ∃ k q,all[k]? = some q ∧ c.any (dY q) = true ∧ x = eg k:=by
 have key : ∀ (l : List Pkg) (i : Nat),x ∈ gw c i l ↔ ∃ k q,l[k]? = some q ∧ c.any (dY q) = true ∧ x = eg (i + k):=by
  intro l
  induction l with
  | nil=>intro i; simp [gw]
  | cons p r ih =>
   intro i
   rw [gw,List.mem_append,ih]
   constructor
   ·rintro (h | ⟨k,q,h1,h2,h3⟩)
    ·split at h
     ·rename_i hs; simp at h; exact ⟨0,p,rfl,hs,by simpa using h⟩
     ·simp at h
    ·exact ⟨k + 1,q,by simpa using h1,h2,by rw [h3]; congr 1; omega⟩
   ·rintro ⟨k,q,h1,h2,h3⟩
    cases k with
    | zero=>simp at h1; subst h1; left; rw [if_pos h2]; simpa using h3
    | succ k=>exact .inr ⟨k,q,by simpa using h1,h2,by rw [h3]; congr 1; omega⟩
 simpa using key all 0
theorem tx {c : Clause} {all : List Pkg} {x : Int} : x ∈ gx all c ↔ x ∈ gw c 0 all:=by
 rw [Cu]
 unfold gx
 simp only [List.mem_flatMap,List.mem_map]
 constructor
 ·rintro ⟨a,ha,k,hk,rfl⟩
  obtain ⟨q,h1,h2⟩:=n5.1 hk
  exact ⟨k,q,h1,List.any_eq_true.2 ⟨a,ha,h2⟩,rfl⟩
 ·rintro ⟨k,q,h1,h2,rfl⟩
  obtain ⟨a,ha,h3⟩:=List.any_eq_true.1 h2
  exact ⟨a,ha,k,n5.2 ⟨q,h1,h3⟩,rfl⟩
end Go.Proofs.Tryz
end
section
namespace Go.Proofs.Tryz
open Go Go.Av Go.Sort
set_option maxRecDepth 100000
set_option maxHeartbeats 2000000
theorem K8 (a : Int) (w : World) : Calls prog 251 #[.int .i64 a] w fun e w'=>e = .returned (.bool false) ∧ w' = w:=by
 go_enter func251,ntmps251
 go_wp2
 go_ret
 exact ⟨rfl,rfl⟩
theorem L1 (a b : Int) (w : World) : Calls prog 226 #[.int .i64 a,.int .i64 b] w fun e w'=>e = .returned (.int .i64 (sgn a b)) ∧ w' = w:=by
 have h1:=fun x W=>K8 x W
 unfold sgn
 go_enter func226,ntmps226
 go_wp2_with (go_at_call 251; refine (h1 _ _).mono ?_; rintro e w' ⟨rfl,rfl⟩)
 all_goals go_ret
 all_goals simp_all
theorem JY (a : Int) (w : World) : Calls prog 227 #[.int .u32 a] w fun e w'=>e = .returned (.bool false) ∧ w' = w:=by
 go_enter func227,ntmps227
 go_wp2
 go_ret
 exact ⟨rfl,rfl⟩
theorem KI (a b : Int) (w : World) : Calls prog 171 #[.int .u32 a,.int .u32 b] w fun e w'=>e = .returned (.int .i64 (sgn a b)) ∧ w' = w:=by
 have h1:=fun x W=>JY x W
 unfold sgn
 go_enter func171,ntmps171
 go_wp2_with (go_at_call 227; refine (h1 _ _).mono ?_; rintro e w' ⟨rfl,rfl⟩)
 all_goals go_ret
 all_goals simp_all
theorem Kg (a : Int) (w : World) : Calls prog 231 #[.int .u64 a] w fun e w'=>e = .returned (.bool false) ∧ w' = w:=by
 go_enter func231,ntmps231
 go_wp2
 go_ret
 exact ⟨rfl,rfl⟩
theorem J7 (a b : Int) (w : World) : Calls prog 189 #[.int .u64 a,.int .u64 b] w fun e w'=>e = .returned (.int .i64 (sgn a b)) ∧ w' = w:=by
 have h1:=fun x W=>Kg x W
 unfold sgn
 go_enter func189,ntmps189
 go_wp2_with (go_at_call 231; refine (h1 _ _).mono ?_; rintro e w' ⟨rfl,rfl⟩)
 all_goals go_ret
 all_goals simp_all
theorem KJ (a : Int) (w : World) : Calls prog 232 #[.int .i64 a] w fun e w'=>e = .returned (.bool false) ∧ w' = w:=by
 go_enter func232,ntmps232
 go_wp2
 go_ret
 exact ⟨rfl,rfl⟩
theorem JS (a b : Int) (w : World) : Calls prog 190 #[.int .i64 a,.int .i64 b] w fun e w'=>e = .returned (.int .i64 (sgn a b)) ∧ w' = w:=by
 have h1:=fun x W=>KJ x W
 unfold sgn
 go_enter func190,ntmps190
 go_wp2_with (go_at_call 232; refine (h1 _ _).mono ?_; rintro e w' ⟨rfl,rfl⟩)
 all_goals go_ret
 all_goals simp_all
theorem Sq (l : Int) (hl : l.natAbs ≤ 1000000) (w : World) : Calls prog 185 #[.int .i64 l] w fun e w'=>e = .returned (.int .u64 (l.natAbs : Nat)) ∧ w' = w:=by
 have e1 : l < 0 → IntKind.u64.wrap (-(IntKind.u64.wrap l)) = (l.natAbs : Int):=fun h=>by simp [IntKind.wrap,IntKind.signed,IntKind.bits]; omega
 have e2 : ¬ l < 0 → IntKind.u64.wrap l = (l.natAbs : Int):=fun h=>by simp [IntKind.wrap,IntKind.signed,IntKind.bits]; omega
 go_enter func185,ntmps185
 go_wp2
 all_goals go_ret
 all_goals first | exact ⟨rfl,rfl⟩ | simp_all
theorem SR (a b : Int) (B : Nat) (w : World) (h0 : w.cell? ⟨B,0,none⟩ = some (.int .i64 a)) (h1 : w.cell? ⟨B,1,none⟩ = some (.int .i64 b)) : Calls prog 94 #[.slice (some ⟨B,0,none⟩) 2 2] w fun e w'=>e = .returned (.int .i64 (orL [a,b])) ∧ w' = w:=by
 obtain ⟨r,hr⟩ : ∃ r,r = orL [a,b]:=⟨_,rfl⟩
 rw [← hr]
 have f1 : a ≠ 0 → r = a:=fun h=>by rw [hr]; simp [orL,h]
 have f2 : a = 0 → r = b:=fun h=>by rw [hr]; by_cases hb : b = 0 <;> simp [orL,h,hb]
 clear hr
 go_enter func94,ntmps94
 go_wp2
 refine wp_loop_rounds 3 ?_
 rw [rounds_succ]
 go_wp2
 all_goals (try (rw [rounds_succ]; go_wp2))
 all_goals (try (rw [rounds_succ]; go_wp2))
 all_goals (try go_ret)
 all_goals refine ⟨?_,rfl⟩
 all_goals simp_all
theorem LL (a b : Int) (ha : a.natAbs ≤ 1000000) (hb : b.natAbs ≤ 1000000) (w : World) : Calls prog 188 #[.int .i64 a,.int .i64 b] w fun e w'=>e = .returned (.int .i64 (orL [sgn (a.natAbs : Nat) (b.natAbs : Nat),sgn a b])) ∧ ∃ q os,w' = grow (w.drewN q) os:=by
 have c1 : ∀ (W : World) (u v : Value),(W.alloc (.cells #[u,v] 3)).cell? ⟨W.heap.size,0,none⟩ = some u:=fun W u v=>by unfold World.cell?; simp only [World.alloc_heap_new]; rfl
 have c2 : ∀ (W : World) (u v : Value),(W.alloc (.cells #[u,v] 3)).cell? ⟨W.heap.size,1,none⟩ = some v:=fun W u v=>by unfold World.cell?; simp only [World.alloc_heap_new]; rfl
 go_enter func188,ntmps188
 go_wp2_with (first | (go_at_call 185; refine (Sq _ (by assumption) _).mono ?_; rintro e w' ⟨rfl,rfl⟩) | (go_at_call 189; refine (J7 _ _ _).mono ?_; rintro e w' ⟨rfl,rfl⟩) | (go_at_call 190; refine (JS _ _ _).mono ?_; rintro e w' ⟨rfl,rfl⟩) | (go_at_call 94; refine (SR _ _ _ _ (c1 _ _ _) (c2 _ _ _)).mono ?_; rintro e w' ⟨rfl,rfl⟩))
 all_goals go_ret
 exact ⟨rfl,0,_,alloc_eq_grow _ _⟩
end Go.Proofs.Tryz
end
section
namespace Go.Proofs.Tryz
open Go Go.Av Go.Sort
set_option maxRecDepth 100000
set_option maxHeartbeats 2000000
theorem oc {x m k : Nat} {K M : Int} (hx : x < 4294967296) (hm : m < 4294967296) (e1 : (x : Int) / K = ((x >>> k : Nat) : Int)) (e2 : ∀ y : Nat,(y : Int) * K % 4294967296 = ((y <<< k % 4294967296 : Nat) : Int)) (hM : M = (m : Int)) :
  bits .or .u32 (bits .and .u32 ((x : Int) / K) M) (bits .and .u32 (x : Int) M * K % 4294967296) = ((bB m k x : Nat) : Int):=by
 subst hM
 have l1 : x >>> k < 4294967296:=by rw [Nat.shiftRight_eq_div_pow]; exact Nat.lt_of_le_of_lt (Nat.div_le_self _ _) hx
 rw [e1,fh _ _ l1 hm,fh _ _ hx hm,e2,gH _ _ (Nat.lt_of_le_of_lt Nat.and_le_right hm) (Nat.mod_lt _ (by decide))]
 rfl
theorem G8 {x : Nat} (hx : x < 4294967296) : bits .or .u32 ((x : Int) / 65536) ((x : Int) * 65536 % 4294967296) = (((x >>> 16) ||| ((x <<< 16) % 4294967296) : Nat) : Int):=by
 have e1 : (x : Int) / (65536 : Int) = ((x >>> 16 : Nat) : Int):=by rw [Nat.shiftRight_eq_div_pow]; omega
 have l1 : x >>> 16 < 4294967296:=by rw [Nat.shiftRight_eq_div_pow]; exact Nat.lt_of_le_of_lt (Nat.div_le_self _ _) hx
 have e2 : (x : Int) * (65536 : Int) % (4294967296 : Int) = ((x <<< 16 % 4294967296 : Nat) : Int):=by rw [Nat.shiftLeft_eq]; omega
 rw [e1,e2,gH _ _ l1 (Nat.mod_lt _ (by decide))]
theorem K9 (x : Nat) (hx : x < 4294967296) (w : World) : Calls prog 252 #[.int .u32 x] w fun e w'=>e = .returned (.int .u32 (((bB 16711935 8 x >>> 16) ||| ((bB 16711935 8 x <<< 16) % 4294967296) : Nat) : Int)) ∧ w' = w:=by
 have h1:=oc (m:=16711935) (k:=8) (K:=256) (M:=16711935) hx (by decide) (by rw [Nat.shiftRight_eq_div_pow]; omega) (fun y=>by rw [Nat.shiftLeft_eq]; omega) rfl
 have h2:=G8 (x:=bB 16711935 8 x) (jK (by decide))
 rw [← h2,← h1]
 clear h1 h2
 go_enter func252,ntmps252
 go_wp2
 go_ret
 exact ⟨rfl,rfl⟩
theorem PZ (x : Nat) (hx : x < 4294967296) (w : World) : Calls prog 228 #[.int .u32 x] w fun e w'=>e = .returned (.int .u32 (fo x : Nat)) ∧ w' = w:=by
 have h1:=oc (m:=1431655765) (k:=1) (K:=2) (M:=1431655765) hx (by decide) (by rw [Nat.shiftRight_eq_div_pow]; omega) (fun y=>by rw [Nat.shiftLeft_eq]; omega) rfl
 have l1 : bB 1431655765 1 x < 4294967296:=jK (by decide)
 have h2:=oc (m:=858993459) (k:=2) (K:=4) (M:=858993459) l1 (by decide) (by rw [Nat.shiftRight_eq_div_pow]; omega) (fun y=>by rw [Nat.shiftLeft_eq]; omega) rfl
 have l2 : bB 858993459 2 (bB 1431655765 1 x) < 4294967296:=jK (by decide)
 have h3:=oc (m:=252645135) (k:=4) (K:=16) (M:=252645135) l2 (by decide) (by rw [Nat.shiftRight_eq_div_pow]; omega) (fun y=>by rw [Nat.shiftLeft_eq]; omega) rfl
 have l3 : bB 252645135 4 (bB 858993459 2 (bB 1431655765 1 x)) < 4294967296:=jK (by decide)
 have q:=K9 _ l3
 rw [← h3,← h2,← h1] at q
 have hr : fo x = (bB 16711935 8 (bB 252645135 4 (bB 858993459 2 (bB 1431655765 1 x))) >>> 16) ||| ((bB 16711935 8 (bB 252645135 4 (bB 858993459 2 (bB 1431655765 1 x))) <<< 16) % 4294967296):=rfl
 rw [hr]
 generalize ((bB 16711935 8 (bB 252645135 4 (bB 858993459 2 (bB 1431655765 1 x))) >>> 16) ||| ((bB 16711935 8 (bB 252645135 4 (bB 858993459 2 (bB 1431655765 1 x))) <<< 16) % 4294967296) : Nat) = r at *
 clear h1 h2 h3 hr l1 l2 l3
 go_enter func228,ntmps228
 go_wp2_with (go_at_call 252; refine (q _).mono ?_; rintro e w' ⟨rfl,rfl⟩)
 go_ret
 exact ⟨rfl,rfl⟩
theorem wQ (x : Nat) (hx : x < 4294967296) (w : World) : Calls prog 172 #[.int .u32 x] w fun e w'=>e = .returned (.int .u32 (fo x : Nat)) ∧ w' = w:=by
 have q:=PZ x hx
 generalize fo x = r at *
 go_enter func172,ntmps172
 go_wp2_with (go_at_call 228; refine (q _).mono ?_; rintro e w' ⟨rfl,rfl⟩)
 go_ret
 exact ⟨rfl,rfl⟩
theorem Kl (c d : List Int) (hc : c.length = 5) (hd : d.length = 5) (B C o : Nat) (w : World) (h1 : ∀ j x,c[j]? = some x → w.cell? ⟨B,1 + j,none⟩ = some (.int .i64 x)) (h2 : ∀ j x,d[j]? = some x → w.cell? ⟨C,1 + j,none⟩ = some (.int .i64 x)) : Calls prog 170 #[.slice (some ⟨B,1,none⟩) 5 5,.slice (some ⟨C,1,none⟩) 5 5] w fun e w'=>e = .returned (.int .i64 (orL (List.zipWith sgn c d))) ∧ w' = w:=by
 obtain ⟨c0,c1,c2,c3,c4,rfl⟩ : ∃ a b c' d e,c = [a,b,c',d,e]:=by
  match c,hc with
  | [a,b,c',d,e],_=>exact ⟨a,b,c',d,e,rfl⟩
 obtain ⟨d0,d1,d2,d3,d4,rfl⟩ : ∃ a b c' d' e,d = [a,b,c',d',e]:=by
  match d,hd with
  | [a,b,c',d',e],_=>exact ⟨a,b,c',d',e,rfl⟩
 have a0:=h1 0 _ rfl
 have a1:=h1 1 _ rfl
 have a2:=h1 2 _ rfl
 have a3:=h1 3 _ rfl
 have a4:=h1 4 _ rfl
 have b0:=h2 0 _ rfl
 have b1:=h2 1 _ rfl
 have b2:=h2 2 _ rfl
 have b3:=h2 3 _ rfl
 have b4:=h2 4 _ rfl
 clear h1 h2 hc hd
 simp only [Nat.reduceAdd] at a0 a1 a2 a3 a4 b0 b1 b2 b3 b4
 have q:=fun x y W=>L1 x y W
 simp only [List.zipWith_cons_cons,List.zipWith_nil_left]
 generalize hs0 : sgn c0 d0 = s0 at *
 generalize hs1 : sgn c1 d1 = s1 at *
 generalize hs2 : sgn c2 d2 = s2 at *
 generalize hs3 : sgn c3 d3 = s3 at *
 generalize hs4 : sgn c4 d4 = s4 at *
 have g0 : s0 ≠ 0 → orL [s0,s1,s2,s3,s4] = s0:=fun h=>by simp [orL,h]
 have g1 : s0 = 0 → s1 ≠ 0 → orL [s0,s1,s2,s3,s4] = s1:=fun h h'=>by simp [orL,h,h']
 have g2 : s0 = 0 → s1 = 0 → s2 ≠ 0 → orL [s0,s1,s2,s3,s4] = s2:=fun h h' h''=>by simp [orL,h,h',h'']
 have g3 : s0 = 0 → s1 = 0 → s2 = 0 → s3 ≠ 0 → orL [s0,s1,s2,s3,s4] = s3:=fun h h' h'' h3=>by simp [orL,h,h',h'',h3]
 have g4 : s0 = 0 → s1 = 0 → s2 = 0 → s3 = 0 → orL [s0,s1,s2,s3,s4] = s4:=fun h h' h'' h3=>by by_cases h4 : s4 = 0 <;> simp [orL,h,h',h'',h3,h4]
 generalize orL [s0,s1,s2,s3,s4] = r at *
 go_enter func170,ntmps170
 go_wp2
 refine wp_loop_rounds 6 ?_
 rw [rounds_succ]
 go_wp2_with (go_at_call 226; refine (q _ _ _).mono ?_; rintro e w' ⟨rfl,rfl⟩)
 all_goals (try (rw [rounds_succ]; go_wp2_with (go_at_call 226; refine (q _ _ _).mono ?_; rintro e w' ⟨rfl,rfl⟩)))
 all_goals (try (rw [rounds_succ]; go_wp2_with (go_at_call 226; refine (q _ _ _).mono ?_; rintro e w' ⟨rfl,rfl⟩)))
 all_goals (try (rw [rounds_succ]; go_wp2_with (go_at_call 226; refine (q _ _ _).mono ?_; rintro e w' ⟨rfl,rfl⟩)))
 all_goals (try (rw [rounds_succ]; go_wp2_with (go_at_call 226; refine (q _ _ _).mono ?_; rintro e w' ⟨rfl,rfl⟩)))
 all_goals (try (rw [rounds_succ]; go_wp2_with (go_at_call 226; refine (q _ _ _).mono ?_; rintro e w' ⟨rfl,rfl⟩)))
 all_goals (try go_ret)
 all_goals refine ⟨?_,rfl⟩
 all_goals simp_all
end Go.Proofs.Tryz
end
section
namespace Go.Proofs.Tryz
open Go Go.Av Go.Sort
set_option maxRecDepth 100000
set_option maxHeartbeats 4000000
theorem DN (s t : Nat) (hs : s < 4294967296) (ht : t < 4294967296) (c0 c1 c2 c3 c4 d0 d1 d2 d3 d4 : Int) (w : World) :
  Calls prog 121 #[.agg #[.int .u32 s,.int .i64 c0,.int .i64 c1,.int .i64 c2,.int .i64 c3,.int .i64 c4],.agg #[.int .u32 t,.int .i64 d0,.int .i64 d1,.int .i64 d2,.int .i64 d3,.int .i64 d4]] w fun e w' =>
   e = .returned (.int .i64 (orL [orL (List.zipWith sgn [c0,c1,c2,c3,c4] [d0,d1,d2,d3,d4]),sgn (fo t) (fo s)])) ∧ ∃ q os,w' = grow (w.drewN q) os:=by
 have k1 : ∀ (W : World) (u v : Value),(W.alloc (.cells #[u,v] 3)).cell? ⟨W.heap.size,0,none⟩ = some u:=fun W u v=>by unfold World.cell?; simp only [World.alloc_heap_new]; rfl
 have k2 : ∀ (W : World) (u v : Value),(W.alloc (.cells #[u,v] 3)).cell? ⟨W.heap.size,1,none⟩ = some v:=fun W u v=>by unfold World.cell?; simp only [World.alloc_heap_new]; rfl
 have r1:=wQ s hs
 have r2:=wQ t ht
 generalize fo s = rs at *
 generalize fo t = rt at *
 have q:=fun x y W=>KI x y W
 generalize hz : sgn (rt : Int) rs = z at *
 obtain ⟨W1,hW1⟩ : ∃ W1,W1 = (w.alloc (.cells #[.int .u32 s,.int .i64 c0,.int .i64 c1,.int .i64 c2,.int .i64 c3,.int .i64 c4] 116)).alloc (.cells #[.int .u32 t,.int .i64 d0,.int .i64 d1,.int .i64 d2,.int .i64 d3,.int .i64 d4] 116):=⟨_,rfl⟩
 have hh0 : W1.heap[w.heap.size]? = some (.cells #[.int .u32 s,.int .i64 c0,.int .i64 c1,.int .i64 c2,.int .i64 c3,.int .i64 c4] 116):=by
  rw [hW1]
  exact (RowKit.Below.heap_alloc _ _ _ (by simp)).trans (World.alloc_heap_new w _)
 have hh1 : W1.heap[w.heap.size + 1]? = some (.cells #[.int .u32 t,.int .i64 d0,.int .i64 d1,.int .i64 d2,.int .i64 d3,.int .i64 d4] 116):=by
  rw [hW1]
  have:=World.alloc_heap_new (w.alloc (.cells #[.int .u32 s,.int .i64 c0,.int .i64 c1,.int .i64 c2,.int .i64 c3,.int .i64 c4] 116)) (.cells #[.int .u32 t,.int .i64 d0,.int .i64 d1,.int .i64 d2,.int .i64 d3,.int .i64 d4] 116)
  rwa [World.size_alloc] at this
 have hcell : ∀ (b j : Nat) (a : Array Value) (x : Value),W1.heap[b]? = some (.cells a 116) → a[j]? = some x → W1.drew.cell? ⟨b,j,none⟩ = some x:=fun b j a x h1 h2=>by
  show (match W1.heap[b]? with | some (.cells c _ _)=>_ | _=>_) = _
  rw [h1]
  exact h2
 have g1 : Calls prog 170 #[.slice (some ⟨w.heap.size,1,none⟩) 5 5,.slice (some ⟨w.heap.size + 1,1,none⟩) 5 5] W1.drew fun e w'=>e = .returned (.int .i64 (orL (List.zipWith sgn [c0,c1,c2,c3,c4] [d0,d1,d2,d3,d4]))) ∧ w' = W1.drew:=Kl [c0,c1,c2,c3,c4] [d0,d1,d2,d3,d4] rfl rfl _ _ 0 _ (fun j x hj=>hcell _ _ _ _ hh0 (by
  match j,hj with
  | 0,hj=>cases hj; rfl
  | 1,hj=>cases hj; rfl
  | 2,hj=>cases hj; rfl
  | 3,hj=>cases hj; rfl
  | 4,hj=>cases hj; rfl)) (fun j x hj=>hcell _ _ _ _ hh1 (by
  match j,hj with
  | 0,hj=>cases hj; rfl
  | 1,hj=>cases hj; rfl
  | 2,hj=>cases hj; rfl
  | 3,hj=>cases hj; rfl
  | 4,hj=>cases hj; rfl))
 have e1 : W1.drew.cell? ⟨w.heap.size,0,none⟩ = some (.int .u32 s):=hcell _ _ _ _ hh0 rfl
 have e2 : W1.drew.cell? ⟨w.heap.size + 1,0,none⟩ = some (.int .u32 t):=hcell _ _ _ _ hh1 rfl
 have hfin : ∀ o : Obj,∃ q os,(W1.alloc o).drew = grow (w.drewN q) os:=fun o=>⟨1,_,by rw [hW1,alloc_eq_grow,alloc_eq_grow,alloc_eq_grow,grow_grow,grow_grow]; rfl⟩
 have kk1 : ∀ u v : Value,(W1.alloc (.cells #[u,v] 3)).drew.cell? ⟨W1.heap.size,0,none⟩ = some u:=fun u v=>k1 W1 u v
 have kk2 : ∀ u v : Value,(W1.alloc (.cells #[u,v] 3)).drew.cell? ⟨W1.heap.size,1,none⟩ = some v:=fun u v=>k2 W1 u v
 clear k1 k2
 clear hh0 hh1 hcell
 generalize orL (List.zipWith sgn [c0,c1,c2,c3,c4] [d0,d1,d2,d3,d4]) = y at *
 go_enter func121,ntmps121
 go_wp2
 rw [← hW1]
 clear hW1
 go_region_with (first | (go_at_call 170; refine g1.mono ?_; rintro e w' ⟨rfl,rfl⟩) | (go_at_call 172; refine (r1 _).mono ?_; rintro e w' ⟨rfl,rfl⟩) | (go_at_call 172; refine (r2 _).mono ?_; rintro e w' ⟨rfl,rfl⟩) | (go_at_call 171; refine (q _ _ _).mono ?_; rintro e w' ⟨rfl,rfl⟩) | (go_at_call 94; refine (SR _ _ _ _ (kk1 _ _) (kk2 _ _)).mono ?_; rintro e w' ⟨rfl,rfl⟩))
 all_goals (try go_wp2)
 all_goals (try go_ret)
 all_goals exact ⟨rfl,hfin _⟩
end Go.Proofs.Tryz
end
