/- Texts that the last one of this claim rests on: a layer over the guide's own conditions for code; contracts of the functions that the law reaches, one by one. No conditions beside those of the given rows. -/
import Derived.Test.YtbooehmmhbioaaaGreatDoorWae
import Derived.Test.YtbooehmmhbioaaaGreatDoorWai
import Derived.Test.YtbooehmmhbioaaaGreatDoorWam
import Derived.Test.YtbooehmmhbioaaaGreatDoorWaq
import Derived.Test.YtbooehmmhbioaaaGreatDoorWat
import Derived.Test.YtbooehmmhbioaaaGreatDoorWav
import Derived.Test.YtbooehmmhbioaaaGreatDoorWaw
set_option linter.unusedSimpArgs false
set_option linter.unusedVariables false
section
namespace Go.Av
open Go Go.Sort
theorem uM {α : Type} [Inhabited α] (enc : α → Value) (off : Nat) (d : Array α) (c : Array Value) : putCells enc off d c = putCells (fun v : Value=>v) off (d.map enc) c:=by
 unfold putCells
 apply Array.ext_getElem?
 intro k
 simp only [Array.getElem?_mapIdx,Array.size_map]
 cases c[k]? with
 | none=>rfl
 | some x =>
  simp only [Option.map_some]
  split
  ·rename_i h
   rw [getElem!_pos d (k - off) (by omega),getElem!_pos (d.map enc) (k - off) (by rw [Array.size_map]; omega),Array.getElem_map]
  ·rfl
theorem zS {α : Type} [Inhabited α] (enc : α → Value) (w : World) (b off : Nat) (d : Array α) : putRow enc w b off d = putRow (fun v : Value=>v) w b off (d.map enc):=by
 unfold putRow
 congr 1
 funext c
 exact uM enc off d c
theorem wq {w : World} {b o n : Nat} {arr : Array Value} {t : TypeId} {fr : Nat × Nat} (h : w.heap[b]? = some (.cells arr t fr)) (hf : qd fr arr.size) (ho : o < arr.size) : w.frozen? ⟨b,o,none⟩ = false:=by
 unfold World.frozen?
 simp only [h]
 rcases hf with rfl | hf
 ·simp
 ·rw [Bool.and_eq_false_iff]
  left
  exact decide_eq_false (by omega)
end Go.Av
namespace Go.Proofs.Tryz
open Go Go.Av Go.Sort
set_option maxRecDepth 100000
set_option maxHeartbeats 1000000
variable {W0 : World}
def kN (x : Int) : Int:=if x.natAbs ≤ 1000000 then x else 0
theorem Ai (x : Int) : (kN x).natAbs ≤ 1000000:=by unfold kN; split <;> omega
def cfI (x y : Int) : Int:=orL [sgn ((kN x).natAbs : Nat) ((kN y).natAbs : Nat),sgn (kN x) (kN y)]
theorem Lj (x y : Int) : cfI x y < 0 ↔ (kN x).natAbs < (kN y).natAbs ∨ (kN x).natAbs = (kN y).natAbs ∧ kN x < kN y:=by
 unfold cfI
 simp only [orL,sgn]
 repeat' split
 all_goals omega
theorem Iw : SWO (ltOf cfI):=by
 refine ⟨fun x=>?_,fun x y z h1 h2=>?_,fun x y z h1 h2=>?_⟩ <;> simp only [ltOf,decide_eq_true_eq,decide_eq_false_iff_not,Lj] at * <;> omega
theorem De (σ : ab) (id : Nat) (xs : List Int) (hid : σ[id]? = some (ints xs)) (h0 : xs ≠ []) (hx : xs.length ≤ 1000000) (hm : ∀ x ∈ xs,x.natAbs ≤ 1000000) :
  aU prog W0 187 [.row 135 id 0 xs.length,.fn 188 []] σ fun r σ'=>∃ ys : List Int,ys.Perm xs ∧ σ' = σ.set id (ints ys):=fun w C vs hst hl hv=>by
 obtain _ | ⟨v1,_ | ⟨v2,_ | ⟨_,_⟩⟩⟩:=vs <;> simp at hl
 have h1:=(hv 0 _ _ rfl rfl).aA rfl
 have h2:=(hv 1 _ _ rfl rfl).aA rfl
 have hid' : σ[id]? = some (some (.cells 135 (xs.map (.int .i64)))):=hid
 obtain ⟨b,base,room,arr,t',fr,m1,m2,mf,m3,m4,cf,m5⟩:=hst.cells hid'
 have hpos : 0 < xs.length:=List.length_pos_iff.2 h0
 have hsz : ae prog 135 = 1:=by kernel_rfl
 rw [hsz,List.length_map,Nat.mul_one] at m4
 cases h1 with
 | row hn hc hi ho =>
 rename_i a cap
 obtain ⟨b',base',room',e1,e2,e3⟩:=ho _ m1
 cases e1
 have e4:=e2 (by omega)
 subst e4
 cases h2 with
 | fn f1 f2 f3 =>
 rename_i vs
 have : vs = []:=List.length_eq_zero_iff.1 f1.symm
 subst this
 rw [Nat.zero_mul,Nat.add_zero]
 have hcl : ∀ x ∈ xs,kN x = x:=fun x hx=>if_pos (hm x hx)
 have hcell : ∀ j (h : j < xs.length),arr[base + j]? = some (.int .i64 xs[j]):=fun j h=>by
  have hj : (xs.map (AV.int .i64))[j]? = some (.int .i64 xs[j]):=by rw [List.getElem?_map,List.getElem?_eq_getElem h]; rfl
  obtain ⟨r1,r2,r3,r4⟩:=m5 j _ hj
  rw [hsz] at r4
  generalize hcf : cf j = cs at *
  cases r1
  have:=r4 0 _ rfl
  rwa [Nat.mul_one,Nat.add_zero] at this
 have hH : Holds (fun x=>Value.int .i64 (kN x)) w b base xs.toArray:=fun j hj=>by
  have hj' : j < xs.length:=by simpa using hj
  refine ⟨?_,wq (n:=0) m2 mf (by omega)⟩
  rw [getElem!_pos xs.toArray j hj,List.getElem_toArray]
  show w.cell? _ = some (Value.int .i64 (kN xs[j]))
  rw [hcl _ (List.getElem_mem hj')]
  unfold World.cell?
  simp only [m2]
  exact hcell j hj'
 refine .inl ⟨⟨_,func187,by kernel_rfl,by kernel_rfl⟩,?_⟩
 have hq:=Any.slices_SortFunc Tryz.G7 (fun x=>Value.int .i64 (kN x)) (fun x=>rfl) cfI Iw 188 #[] b base cap xs.toArray w (enters_of func188 (by kernel_rfl) rfl)
  (fun m os dk hs x y=>LL _ _ (Ai x) (Ai y) _) hH (Array.getElem?_eq_some_iff.1 m2).1 (by simp; omega)
 refine hq.mono fun e w' ⟨he,d',n,os,⟨p1,p2,p3⟩,p4,hw⟩=>?_
 have hp : d'.toList.Perm xs:=by
  have e1 : d'.extract 0 xs.toArray.size = d':=by rw [← p1]; exact Array.extract_size
  rw [e1,Array.extract_size] at p3
  simpa using p3
 unfold sortWorld at hw
 rw [zS] at hw
 have hll:=hp.length_eq
 obtain ⟨s1,s2⟩:=hst.Fj (fl:=d'.map fun x=>Value.int .i64 (kN x)) (n:=n) (os:=os) (ys:=d'.toList.map (AV.int .i64)) (k:=1) hid' m1 hsz (by simpa using hll) (by simp at hll; simp [hll]) fun i y hy=>by
  rw [List.getElem?_map] at hy
  obtain ⟨x,hx,rfl⟩:=Option.map_eq_some_iff.1 hy
  refine ⟨[.int .i64 x],.int _ _,rfl,⟨rfl,by kernel_rfl⟩,fun j c hc=>?_⟩
  obtain _ | j:=j
  ·cases hc
   rw [Nat.mul_one,Nat.add_zero,Array.getElem?_map,← Array.getElem?_toList,hx]
   exact congrArg (fun z=>some (Value.int .i64 z)) (hcl x (hp.subset (List.mem_of_getElem? hx)))
  ·simp at hc
 subst hw
 exact ⟨_,.tup [],_,C,he,⟨d'.toList,hp,rfl⟩,s2,.tup rfl (fun i a v h=>by simp at h),s1⟩
end Go.Proofs.Tryz
end
section
namespace Go.Proofs.Tryz
open Go Go.Av
set_option maxRecDepth 10000
variable {W0 : World}
theorem mI (l : List Clause) (hl : l.length ≤ 1048576) (hc : ∀ c ∈ l,c.length ≤ 1048576) : af prog W0 158 [aC l] (aC l):=by
 refine ai [2] [] func158 rfl rfl ntmps158 rfl rfl (dC _) fun hs σ=>?_
 simp only [go_sem,simprocAttr,aC,List.length_map]
 refine ah.at [6,7] (.of (by kernel_rfl)) (fun A=>∃ v,A.env 3 = v ∧ aX σ A.st v 72 (l.map aH)) ?_ fun B ⟨v,h3,hb⟩=>?_
 ·refine ah.upto [6,7] (.of (by kernel_rfl)) l.length (fun i A=>∃ v,A.env 3 = v ∧ A.env 8 = .int .i64 i ∧ aX σ A.st v 72 ((l.take i).map aH)) 0 (Nat.zero_le _) ?_ fun i B hi ⟨v,h3,h8,hb⟩=>?_
  ·simp only [go_sem,simprocAttr]
   exact ⟨_,rfl,aX.nil (.refl _) _⟩
  simp only [go_sem,simprocAttr,h3,h8,hb.ok,hb.un,List.length_map]
  refine ⟨fun hlt=>⟨hlt,?_⟩,fun hlt=>?_⟩
  ·obtain ⟨c,ha⟩:=get_some hlt
   simp only [ay ha]
   simp only [go_sem,simprocAttr,aH,h3,h8,hb.ok,hb.un]
   refine aj.fn (rp c (hc c (List.mem_of_getElem? ha))) ?_
   simp only [go_sem,simprocAttr,h3,h8,hb.ok,hb.un,aH]
   refine cy.own 1048576 (by kernel_rfl) hb.bld (.lit _ _ _) (by simp; omega) fun v' σ' ha'=>?_
   have hb':=hb.app ha'
   simp only [go_sem,simprocAttr,h3,h8,hb.ok,hb.un,hb'.ok,hb'.un]
   refine ⟨hlt,_,rfl,aq hlt (by rw [av]; omega),?_⟩
   rw [ak ha,List.map_append]
   exact hb'
  ·rw [List.take_of_length_le hlt] at hb
   exact ⟨_,rfl,hb⟩
 simp only [go_sem,simprocAttr,h3,hb.ok,hb.un]
 exact ⟨hb.cK,hb.ext⟩
theorem zI {g : FuncId} {caps : List AV} : af prog W0 98 [.au,.fn g caps] (.tup []):=by
 have h1 : af prog W0 209 [.au,.int .i64 0,.int .i64 0,.fn g caps] (.tup []):=by
  refine ai [] [] func209 rfl rfl ntmps209 rfl rfl (.tup fun x hx=>by cases hx) fun hs σ=>?_
  simp only [go_sem,simprocAttr]
  refine ah.cF [0,1,2,3] (.of (by kernel_rfl)) (fun k E=>E.env 8 = .int .i64 1 ∧ E.st = σ) 0 ?_ fun k E ⟨h8,hst⟩=>?_
  ·simp only [go_sem,simprocAttr]
  simp only [go_sem,simprocAttr,h8,hst]
  try exact .refl _
 have h2 : af prog W0 159 [.au,.int .i64 0,.fn g caps] (.tup []):=by
  refine ai [] [] func159 rfl rfl ntmps159 rfl rfl (.tup fun x hx=>by cases hx) fun hs σ=>?_
  simp only [go_sem,simprocAttr]
  refine ah.at [0,1,2,6] (.of (by kernel_rfl)) (fun E=>E.env 7 = .int .i64 0 ∧ E.st = σ) ?_ fun E ⟨h7,hst⟩=>?_
  ·refine ah.cF [0,1,2,6] (.of (by kernel_rfl)) (fun k E=>E.env 7 = .int .i64 0 ∧ E.env 8 = .int .i64 20 ∧ E.st = σ) 0 ?_ fun k E ⟨h7,h8,hst⟩=>?_
   ·simp only [go_sem,simprocAttr]
   simp only [go_sem,simprocAttr,h7,h8,hst]
  simp only [go_sem,simprocAttr,h7,hst]
  refine aj.fn h1 ?_
  simp only [go_sem,simprocAttr,h7,hst]
  refine ah.cF [0,1,2] (.of (by kernel_rfl)) (fun k E=>E.env 6 = .int .i64 20 ∧ E.st = σ) 0 ?_ fun k E ⟨h6,hst⟩=>?_
  ·simp only [go_sem,simprocAttr,hst]
  simp only [go_sem,simprocAttr,h6,hst]
  try exact .refl _
 refine ai [] [] func98 rfl rfl ntmps98 rfl rfl (.tup fun x hx=>by cases hx) fun hs σ=>?_
 simp only [go_sem,simprocAttr]
 refine aj.fn h2 ?_
 simp only [go_sem,simprocAttr]
 try exact .refl _
theorem L4 (x y : aK) : af prog W0 99 [bL x,bL y] (.int .i64 (e7 x.pkg.name y.pkg.name)):=by
 refine ai [4] [2,3] func99 rfl rfl ntmps99 rfl rfl (.int _ _) fun hs σ=>?_
 simp only [go_sem,simprocAttr,bL,ax]
 refine aj.fn (vp x.pkg.name y.pkg.name) ?_
 simp only [go_sem,simprocAttr]
 try exact .refl _
theorem Mr (x : aK) (hp : bn x.pkg = 0) : af prog W0 97 [bL x] (bL x):=by
 have hg:=gI hp
 refine kJ [.cell 2 56] [] func97 rfl rfl ntmps97 rfl rfl (uy _) fun hs σ=>?_
 simp only [go_sem,simprocAttr,bL,ax]
 have g1:=iL hg.pre
 have g2:=iL hg.dep
 have g3:=iL hg.rcm
 refine ⟨.of (by kernel_rfl),aB.fn (mI x.pkg.pre g1.1 g1.2) ?_⟩
 simp only [go_sem,simprocAttr]
 refine aB.fn (mI x.pkg.dep g2.1 g2.2) ?_
 simp only [go_sem,simprocAttr]
 refine aB.fn (mI x.pkg.rcm g3.1 g3.2) ?_
 simp only [go_sem,simprocAttr]
 refine ⟨.of (by kernel_rfl),aB.fn (lQ x.pkg.con (by have:=hg.con.1; omega)) ?_⟩
 simp only [go_sem,simprocAttr]
 refine aB.fn (lQ x.pkg.brk (by have:=hg.brk.1; omega)) ?_
 simp only [go_sem,simprocAttr]
 refine aB.fn (tR x.pkg.gr (by have:=hg.gr.1; omega)) ?_
 simp only [go_sem,simprocAttr]
def tP (l : List aK) : Prop:=∀ (i : Nat) (x y : aK),l[i]? = some x → l[i + 1]? = some y → ¬ e7 y.pkg.name x.pkg.name < 0
def gX (l : List aK) : Option cM:=some (.cells 56 (l.map bL))
theorem vf (σ : ab) (id n : Nat) (l : List aK) (hn : n = l.length) (hx : n ≤ 1048576) (hr : tP l) (hid : σ[id]? = some (gX l)) :
  aU prog W0 209 [.row 56 id 0 n,.int .i64 0,.int .i64 n,.fn 99 []] σ fun r σ'=>σ' = σ:=by
 refine cB [] [] func209 rfl rfl ntmps209 rfl rfl fun hs=>?_
 simp only [go_sem,simprocAttr]
 refine ah.cF [0,1,2,3] (.of (by kernel_rfl)) (fun k B=>∃ i : Nat,B.env 8 = .int .i64 i ∧ k = n - i ∧ 1 ≤ i ∧ B.st = σ) (n - 1) ?_ fun k B ⟨i,h8,hk,hi,hst⟩=>?_
 ·simp only [go_sem,simprocAttr]
  exact ⟨1,by trivial⟩
 unfold gX at hid
 simp only [go_sem,simprocAttr,h8,hst]
 refine ⟨fun hin=>?_,fun hin=>bR.normal ?_⟩
 ·refine ah.ats [0,1,2,3,8] (.of (by kernel_rfl)) (fun B=>B.st = σ) ?_ fun B hst=>?_
  ·refine ah.cF [0,1,2,3,8] (.of (by kernel_rfl)) (fun k B=>B.env 9 = .int .i64 i ∧ B.st = σ) 0 ?_ fun k B ⟨h9,hst⟩=>?_
   ·simp only [go_sem,simprocAttr]
    exact hst
   obtain ⟨x,hx1⟩:=get_some (show i - 1 < l.length by omega)
   obtain ⟨y,hy⟩:=get_some (show i < l.length by omega)
   have hw1 : IntKind.i64.wrap ((i : Int) - 1) = (i : Int) - 1:=aF (by omega)
   have hnn : ((i : Int) - 1).toNat = i - 1:=by omega
   have hd : decide (0 < i) = true:=decide_eq_true (by omega)
   simp only [go_sem,simprocAttr,h9,hst,an hid,ar hid,hw1,hnn,Nat.zero_add,List.getElem?_map,hx1,hy,Option.map_some]
   refine ⟨.of (by kernel_rfl),fun _=>by omega,fun _=>by omega,aB.go (fun _=>L4 y x) ?_⟩
   have hno:=hr (i - 1) x y hx1 (by rw [Nat.sub_add_cancel (by omega)]; exact hy)
   simp only [go_sem,simprocAttr,h9,hst]
   exact fun h=>absurd (by simpa using ((Bool.and_eq_true _ _).mp h).2) hno
  simp only [go_sem,simprocAttr,h8,hst]
  exact .here (n - (i + 1)) (by omega) ⟨i + 1,aq hin (by rw [av]; omega),rfl,by omega,by simp only [go_sem,simprocAttr,hst]⟩
 ·simp only [go_sem,simprocAttr,hst]
  exact ⟨_,.refl _⟩
theorem Bu (σ : ab) (id n : Nat) (l : List aK) (hn : n = l.length) (hx : n < 20) (hr : tP l) (hid : σ[id]? = some (gX l)) :
  aU prog W0 159 [.row 56 id 0 n,.int .i64 n,.fn 99 []] σ fun r σ'=>σ' = σ:=by
 refine cB [] [] func159 rfl rfl ntmps159 rfl rfl fun hs=>?_
 simp only [go_sem,simprocAttr]
 refine ah.at [0,1,2,6] (.of (by kernel_rfl)) (fun E=>E.env 7 = .int .i64 0 ∧ E.st = σ) ?_ fun E ⟨h7,hst⟩=>?_
 ·refine ah.cF [0,1,2,6] (.of (by kernel_rfl)) (fun k E=>E.env 7 = .int .i64 0 ∧ E.env 8 = .int .i64 20 ∧ E.st = σ) 0 ?_ fun k E ⟨h7,h8,hst⟩=>?_
  ·simp only [go_sem,simprocAttr]
  simp only [go_sem,simprocAttr,h7,h8,hst]
  intro h
  omega
 simp only [go_sem,simprocAttr,h7,hst]
 refine aj.goes (by simp only [go_sem,simprocAttr]; exact hst) (vf σ id n l hn (by omega) hr hid) fun r σ1 hσ=>?_
 simp only [go_sem,simprocAttr,h7,hst]
 refine ah.cF [0,1,2] (.of (by kernel_rfl)) (fun k E=>E.env 6 = .int .i64 20 ∧ E.st = σ) 0 ?_ fun k E ⟨h6,hst⟩=>?_
 ·simp only [go_sem,simprocAttr,hst]
  exact hσ
 simp only [go_sem,simprocAttr,h6,hst]
 refine ⟨fun h=>by omega,fun _=>bR.normal ?_⟩
 simp only [go_sem,simprocAttr,hst]
 exact ⟨_,.refl _⟩
theorem sB (σ : ab) (id n : Nat) (l : List aK) (hn : n = l.length) (hx : n < 20) (hr : tP l) (hid : σ[id]? = some (gX l)) :
  aU prog W0 98 [.row 56 id 0 n,.fn 99 []] σ fun r σ'=>σ' = σ:=by
 refine cB [] [] func98 rfl rfl ntmps98 rfl rfl fun hs=>?_
 simp only [go_sem,simprocAttr]
 refine aj.goes (by simp only [go_sem,simprocAttr]) (Bu σ id n l hn hx hr hid) fun r σ1 hσ=>?_
 simp only [go_sem,simprocAttr]
 refine bR.normal ?_
 simp only [go_sem,simprocAttr]
 exact ⟨_,.refl _,by rw [hσ]; exact Nat.le_refl _,hσ⟩
theorem tC (l : List aK) (hm : ∀ x ∈ l,bn x.pkg = 0) (hl : l.length < 20) (hr : tP l) : af prog W0 40 [bq l] (bq l):=by
 refine rO [2] [5] func40 rfl rfl ntmps40 rfl rfl (xe _) fun hs σ=>?_
 simp only [go_sem,simprocAttr,bq,List.length_map]
 refine ah.at [6,7] (.of (by kernel_rfl)) (fun A=>∃ v,A.env 3 = v ∧ fS σ A.st v 56 (l.map bL) ∧ ((v = .au ∧ l = []) ∨ ∃ id,v = .row 56 id 0 l.length ∧ A.st[id]? = some (gX l))) ?_ fun B ⟨v,h3,hb,hv⟩=>?_
 ·refine ah.upto [6,7] (.of (by kernel_rfl)) l.length (fun i A=>∃ v,A.env 3 = v ∧ A.env 8 = .int .i64 i ∧ fS σ A.st v 56 ((l.take i).map bL) ∧ ((v = .au ∧ l.take i = []) ∨ ∃ id,v = .row 56 id 0 i ∧ A.st[id]? = some (gX (l.take i)))) 0 (Nat.zero_le _) ?_ fun i B hi ⟨v,h3,h8,hb,hv⟩=>?_
  ·simp only [go_sem,simprocAttr]
   exact ⟨_,rfl,fS.nil (.refl _) _,.inl ⟨rfl,rfl⟩⟩
  have hok:=hb.tn.ok
  have hun:=hb.tn.un
  simp only [go_sem,simprocAttr,h3,h8,hok,hun,List.length_map]
  refine ⟨fun hc=>⟨hc,?_⟩,fun hc=>?_⟩
  ·obtain ⟨x,hx⟩:=get_some hc
   have hb':=hb.more [none]
   simp only [ay hx]
   have hfe : bf prog 56 (bL x) = true:=by kernel_rfl
   simp only [go_sem,simprocAttr,h3,h8,hok,hun,hfe]
   refine aj.fn (Mr x (hm x (List.mem_of_getElem? hx))) ?_
   simp only [go_sem,simprocAttr,h3,h8,hok,hun,hfe]
   have hil : (l.take i).length = i:=by rw [List.length_take]; omega
   refine cy.row 1048576 (by kernel_rfl) hb'.row.st (.lit _ _ _) (by simp; omega) (fun h=>by cases h) fun _=>?_
   simp only [go_sem,simprocAttr,h3,h8]
   have hkl : (bY v (B.st ++ [none])).length = B.st.length + 1:=by unfold bY; split <;> simp
   have hke : Ext σ (bY v (B.st ++ [none])):=by
    unfold bY
    split
    ·exact (hb.ext.app _).set (hb.low _ (by simp [bb])) _
    ·exact hb.ext.app _
   have hat : (bY v (B.st ++ [none]) ++ [some (cM.cells 56 (List.map bL (l.take i) ++ [bL x]))])[B.st.length + 1]? = some (gX (l.take (i + 1))):=by
    rw [List.getElem?_append_right (by omega),hkl,Nat.sub_self,ak hx]
    simp [gX]
   have hlen : (List.map bL (l.take i)).length + 1 = i + 1:=by rw [List.length_map,hil]
   have hs1 : (l.take (i + 1)).length = i + 1:=by rw [List.length_take]; omega
   refine ⟨hc,_,rfl,aq hc (by rw [av]; omega),⟨.inr ⟨B.st.length + 1,0,_,_,rfl,hat,by simp; omega,?_⟩,hke.app _,fun j hj=>?_⟩,.inr ⟨_,by rw [hlen],hat⟩⟩
   ·rw [List.drop_zero]
    exact (List.take_of_length_le (by rw [List.length_map,hs1,hlen]; exact Nat.le_refl _)).symm
   ·have h1 : j = B.st.length + 1:=by simpa [bb] using hj
    have:=hb.ext.le
    omega
  ·have e:=List.take_of_length_le hc
   rw [e] at hb hv
   refine ⟨_,rfl,hb,?_⟩
   rcases hv with hv | ⟨id,h1,h2⟩
   ·exact .inl hv
   ·exact .inr ⟨id,by rw [h1,show i = l.length by omega],h2⟩
 rcases hv with ⟨rfl,rfl⟩ | ⟨id,rfl,hid⟩
 ·simp only [go_sem,simprocAttr,h3]
  refine aj.fn zI ?_
  simp only [go_sem,simprocAttr,h3]
  refine bR.ret ?_
  simp only [go_sem,simprocAttr]
  exact ⟨.au _,hb.ext⟩
 ·simp only [go_sem,simprocAttr,h3]
  refine aj.goes (by simp only [go_sem,simprocAttr]) (sB B.st id l.length l rfl hl hr hid) fun r σ1 hσ=>?_
  simp only [go_sem,simprocAttr,h3]
  have hlo:=hb.low id (by simp [bb])
  have hid1 : σ1[id]? = some (some (.cells 56 (l.map bL))):=by rw [hσ]; exact hid
  have hx1 : Ext σ σ1:=by rw [hσ]; exact hb.ext
  refine bR.frz (e:=56) (te:=56) (id:=id) (off:=0) (m:=l.length) (xs:=l.map bL) 2 (by simp only [go_sem,simprocAttr]) (by simp only [go_sem,simprocAttr]; exact hid1) (by simp) (bR.ret ?_)
  simp only [go_sem,simprocAttr]
  rw [List.take_of_length_le (by simp)]
  exact ⟨.refl _,hx1.set hlo _⟩
end Go.Proofs.Tryz
end
section
namespace Go.Av
def iB {α : Type} (f : α → α → Bool) (l : List α) : Bool:=(l.foldl (fun (s : Bool × List α) a=>(s.1 || s.2.any (f a),s.2 ++ [a])) (false,[])).1
theorem y8 {α : Type} (f : α → α → Bool) (l : List α) : (l.foldl (fun (s : Bool × List α) a=>(s.1 || s.2.any (f a),s.2 ++ [a])) (false,[])).2 = l:=by
 have key : ∀ (l p : List α) (b : Bool),(l.foldl (fun (s : Bool × List α) a=>(s.1 || s.2.any (f a),s.2 ++ [a])) (b,p)).2 = p ++ l:=by
  intro l
  induction l with
  | nil=>simp
  | cons a r ih=>intro p b; rw [List.foldl_cons,ih]; simp
 simpa using key l [] false
theorem xg {α : Type} (f : α → α → Bool) (l : List α) (a : α) : iB f (l ++ [a]) = (iB f l || l.any (f a)):=by
 unfold iB
 rw [List.foldl_append]
 simp only [List.foldl_cons,List.foldl_nil]
 rw [y8]
theorem kU {α : Type} {f : α → α → Bool} {l : List α} {i : Nat} {a : α} (h : l[i]? = some a) : iB f (l.take (i + 1)) = (iB f (l.take i) || (l.take i).any (f a)):=by
 rw [ak h,xg]
theorem xA {α : Type} {f : α → α → Bool} {l : List α} {i : Nat} (h : iB f (l.take i) = true) : iB f l = true:=by
 have key : ∀ k,iB f (l.take (i + k)) = true:=fun k=>by
  induction k with
  | zero=>exact h
  | succ k ih =>
   by_cases hl : i + k < l.length
   ·obtain ⟨a,ha⟩:=get_some hl
    rw [← Nat.add_assoc,kU ha,ih,Bool.true_or]
   ·rw [List.take_of_length_le (by omega)] at ih ⊢
    exact ih
 have:=key l.length
 rwa [List.take_of_length_le (by omega)] at this
def D8 (k : Int) : Bool:=k == 1 || k == 2 || k == 5 || k == 6
def kb (a : aM) : Bool:=(decide (1 ≤ a.kind) && decide (a.kind ≤ 7)) && (if D8 a.kind = true then dH a.name else a.name == []) && (a.ver == [] || (a.kind == 1 && bz a.ver))
def uu (a : aM) : Bool:=a.kind == 3 || a.kind == 4 || a.kind == 7
def yz (a b : aM) : Bool:=(a.name != [] && a.name == b.name) || (uu a && uu b)
def fL (l : List aM) : Int:=if l.length = 0 ∨ 6 < l.length then 12 else if (l.any fun a=>!kb a) = true then 3 else if iB yz l = true then 4 else 0
end Go.Av
namespace Go.Proofs.Tryz
open Go Go.Av
set_option maxRecDepth 10000
variable {W0 : World}
theorem xr (a : aM) : af prog W0 82 [bT a] (.bool (uu a)):=by
 refine ai [2] [] func82 rfl rfl ntmps82 rfl rfl (.bool _) fun hs σ=>?_
 simp only [go_sem,simprocAttr,bT,uu]
 try exact .refl _
theorem sy (s : List UInt8) : af prog W0 148 [.str s] (.bool (bz s)):=by
 refine ai [2] [] func148 rfl rfl ntmps148 rfl rfl (.bool _) fun hs σ=>?_
 simp only [go_sem,simprocAttr]
 refine aj.fn (iQ s) ?_
 cases h : iM s with
 | none =>
  simp only [go_sem,simprocAttr,eQ,bz,h]
  try exact .refl _
 | some v =>
  simp only [go_sem,simprocAttr,eQ,bz,h]
  try exact .refl _
def vz (k : Int) : List UInt8 × Bool × Bool :=
 if k = 1 then ([105,110,115,116,97,108,108],true,true) else if k = 2 then ([114,101,109,111,118,101],true,false) else if k = 3 then ([117,112,103,114,97,100,101],false,false)
 else if k = 4 then ([100,105,115,116,45,117,112,103,114,97,100,101],false,false) else if k = 5 then ([104,111,108,100],true,false) else if k = 6 then ([117,110,104,111,108,100],true,false)
 else if k = 7 then ([102,105,120,45,98,114,111,107,101,110],false,false) else ([],false,false)
def E4 (h : List UInt8 × Bool × Bool) : AV:=.agg 205 [.str h.1,.bool h.2.1,.bool h.2.2]
theorem Rb (k : Int) : af prog W0 147 [.int .i64 k] (E4 (vz k)):=by
 refine kJ [.cell 2 205] [] func147 rfl rfl ntmps147 rfl rfl (by unfold E4; exact .agg fun x hx=>by simp at hx; rcases hx with rfl | rfl | rfl <;> constructor) fun hs σ=>?_
 simp only [go_sem,simprocAttr]
 refine ⟨fun h=>?_,fun h1=>⟨fun h=>?_,fun h2=>⟨fun h=>?_,fun h3=>⟨fun h=>?_,fun h4=>⟨fun h=>?_,fun h5=>⟨fun h=>?_,fun h6=>⟨fun h=>?_,fun h7=>?_⟩⟩⟩⟩⟩⟩⟩
 all_goals first | (subst h; exact .refl _) | (rw [show vz k = ([],false,false) by simp only [vz,if_neg h1,if_neg h2,if_neg h3,if_neg h4,if_neg h5,if_neg h6,if_neg h7]]; exact .refl _)
theorem Ez (a : aM) : kb a = (!((vz a.kind).1 == []) && !((vz a.kind).2.1 && !dH a.name) && !(!(vz a.kind).2.1 && a.name != []) && (a.ver == [] || ((vz a.kind).2.2 && bz a.ver))):=by
 obtain ⟨k,n,v⟩:=a
 unfold kb D8 vz
 simp only
 by_cases h1 : k = 1
 ·subst h1; simp
 by_cases h2 : k = 2
 ·subst h2; simp
 by_cases h3 : k = 3
 ·subst h3; cases n <;> simp
 by_cases h4 : k = 4
 ·subst h4; cases n <;> simp
 by_cases h5 : k = 5
 ·subst h5; simp
 by_cases h6 : k = 6
 ·subst h6; simp
 by_cases h7 : k = 7
 ·subst h7; cases n <;> simp
 have : (decide (1 ≤ k) && decide (k ≤ 7)) = false:=by rw [Bool.and_eq_false_iff,decide_eq_false_iff_not,decide_eq_false_iff_not]; omega
 simp [h1,h2,h3,h4,h5,h6,h7,this]
theorem Cb (a : aM) : af prog W0 81 [bT a] (.bool (kb a)):=by
 rw [Ez]
 refine ai [2] [1,3] func81 rfl rfl ntmps81 rfl rfl (.bool _) fun hs σ=>?_
 simp only [go_sem,simprocAttr,bT]
 refine aj.fn (Rb a.kind) ?_
 generalize vz a.kind = h
 obtain ⟨h1,h2,h3⟩:=h
 simp only [go_sem,simprocAttr,E4]
 refine ⟨fun e=>al (by simp [e]),fun e=>?_⟩
 refine aB.fnG (fun _=>u9 a.name) ?_
 simp only [go_sem,simprocAttr]
 refine ⟨fun e2=>al ?_,fun e2=>?_⟩
 ·simp only [bne] at e2 ⊢
  generalize (a.name == []) = y at *
  generalize dH a.name = x at *
  cases h2 <;> cases x <;> cases y <;> simp_all
 refine aB.fnG (fun _=>sy a.ver) ?_
 simp only [go_sem,simprocAttr]
 refine al ?_
 have e1 : (h1 == []) = false:=beq_eq_false_iff_ne.2 e
 rw [e1]
 simp only [bne] at e2 ⊢
 generalize (a.name == []) = y at *
 generalize dH a.name = x at *
 cases h2 <;> cases x <;> cases y <;> simp_all
theorem J9 (l : List aM) : af prog W0 35 [bA l] (.int .i64 (fL l)):=by
 refine ai [2] [4,6,8] func35 rfl rfl ntmps35 rfl rfl (.int _ _) fun hs σ=>?_
 have hl:=(bu (hs _ (List.mem_cons_self ..))).1
 simp only [go_sem,simprocAttr,bA,List.length_map]
 refine ⟨fun h=>?_,fun h=>?_⟩
 ·rw [fL,if_pos (by simp only [Bool.or_eq_true,beq_iff_eq,decide_eq_true_eq] at h; omega)]
  exact .refl _
 have h6 : ¬ (l.length = 0 ∨ 6 < l.length):=by simp only [Bool.or_eq_false_iff,beq_eq_false_iff_ne,decide_eq_false_iff_not] at h; omega
 refine ah.at [0] (.of (by kernel_rfl)) (fun A=>Ext σ A.st ∧ ∀ a ∈ l,kb a = true) ?_ fun B ⟨hst,hall⟩=>?_
 ·refine ah.upto [0,17,18] (.of (by kernel_rfl)) l.length (fun i A=>A.env 19 = .int .i64 i ∧ Ext σ A.st ∧ NoB (fun a : aM=>!kb a) l i) 0 (Nat.zero_le _) ?_ fun i B hi ⟨h19,hst,hI⟩=>?_
  ·simp only [go_sem,simprocAttr]
   exact ⟨.refl _,.zero _ _⟩
  simp only [go_sem,simprocAttr,h19,List.length_map]
  refine ⟨fun hc=>⟨hc,?_⟩,fun hc=>⟨hst,fun a ha=>by simpa using hI.all hc a ha⟩⟩
  obtain ⟨a,ha⟩:=get_some hc
  simp only [ay ha]
  have hfa : bf prog 83 (bT a) = true:=by kernel_rfl
  simp only [go_sem,simprocAttr,h19,hfa]
  refine aj.fn (Cb a) ?_
  simp only [go_sem,simprocAttr,h19]
  refine ⟨fun hq=>⟨?_,hst.app _⟩,fun hq=>⟨hc,aq hc hl,hst.app _,hI.succ ha (by simp [hq])⟩⟩
  rw [fL,if_neg h6,if_pos (List.any_eq_true.2 ⟨a,List.mem_of_getElem? ha,by simp [hq]⟩)]
  exact .refl _
 have h3 : ¬ (l.any fun a=>!kb a) = true:=by simpa using hall
 simp only [go_sem,simprocAttr,List.length_map]
 refine ah.upto [0,27,28] (.of (by kernel_rfl)) l.length (fun i A=>A.env 29 = .int .i64 i ∧ Ext σ A.st ∧ iB yz (l.take i) = false) 0 (Nat.zero_le _) ?_ fun i B hi ⟨h29,hst,hI⟩=>?_
 ·simp only [go_sem,simprocAttr]
  exact ⟨hst,rfl⟩
 simp only [go_sem,simprocAttr,h29,List.length_map]
 refine ⟨fun hc=>⟨hc,?_⟩,fun hc=>?_⟩
 ·obtain ⟨a,ha⟩:=get_some hc
  simp only [ay ha]
  have hil : (l.take i).length = i:=by rw [List.length_take]; omega
  have hfa : bf prog 83 (bT a) = true:=by kernel_rfl
  simp only [go_sem,simprocAttr,h29,List.length_map,hfa]
  rw [← List.map_take]
  refine ⟨⟨Nat.zero_le _,hi⟩,?_⟩
  refine ah.ats [0,27,28,29] (.of (by kernel_rfl)) (fun A=>Ext σ A.st ∧ (l.take i).any (yz a) = false) ?_ fun B2 ⟨hst,hno⟩=>?_
  ·refine ah.upto [0,6,27,28,29,36,37] (.of (by kernel_rfl)) i (fun j A=>A.env 38 = .int .i64 j ∧ Ext σ A.st ∧ NoB (yz a) (l.take i) j) 0 (Nat.zero_le _) ?_ fun j B2 hj ⟨h38,hst,hI2⟩=>?_
   ·simp only [go_sem,simprocAttr]
    exact ⟨hst.app _,.zero _ _⟩
   simp only [go_sem,simprocAttr,h38,hil,List.length_map]
   refine ⟨fun hc2=>⟨hc2,?_⟩,fun hc2=>⟨hst,List.any_eq_false.2 fun b hb=>by simpa using hI2.all (by omega) b hb⟩⟩
   obtain ⟨b,hb⟩:=get_some (show j < (l.take i).length by omega)
   simp only [ay hb]
   have hwa:=xr (W0:=W0) a
   have hwb:=xr (W0:=W0) b
   unfold bT at hwa hwb
   simp only [go_sem,simprocAttr,h38,bT]
   refine aB.fnG (fun _=>hwa) ?_
   simp only [go_sem,simprocAttr,h38]
   refine aB.fnG (fun _=>hwb) ?_
   simp only [go_sem,simprocAttr,h38]
   refine ⟨fun hq=>⟨?_,hst.app _⟩,fun hq=>⟨hc2,aq hc2 (by omega),hst.app _,hI2.succ hb (by simpa only [yz,bne] using hq)⟩⟩
   have hd : iB yz l = true:=by
    refine xA (i:=i + 1) ?_
    rw [kU ha,List.any_eq_true.2 ⟨b,List.mem_of_getElem? hb,by simpa only [yz,bne] using hq⟩,Bool.or_true]
   rw [fL,if_neg h6,if_neg h3,if_pos hd]
   exact .refl _
  simp only [go_sem,simprocAttr,h29]
  exact ⟨hc,aq hc hl,hst,by rw [kU ha,hI,hno]; rfl⟩
 ·rw [List.take_of_length_le hc] at hI
  rw [fL,if_neg h6,if_neg h3,hI]
  exact ⟨.refl _,hst⟩
end Go.Proofs.Tryz
end
section
namespace Go.Proofs.Tryz
open Go Go.Av
set_option maxRecDepth 10000
variable {W0 : World}
def uI (a : aM) : Bool:=a.kind == 1 && a.ver != []
def pg (a : aM) : Bool:=a.kind == 6 || a.kind == 2 || uI a
theorem DP (a : aM) : af prog W0 244 [bT a] (.bool (uI a)):=by
 refine ai [2] [1] func244 rfl rfl ntmps244 rfl rfl (.bool _) fun hs σ=>?_
 simp only [go_sem,simprocAttr,bT,uI,bne]
 try exact .refl _
theorem DD (a : aM) : af prog W0 213 [bT a] (.bool (pg a)):=by
 have h:=DP (W0:=W0) a
 unfold bT at h
 refine ai [2] [1] func213 rfl rfl ntmps213 rfl rfl (.bool _) fun hs σ=>?_
 simp only [go_sem,simprocAttr,bT]
 refine aB.fnG (fun _=>h) ?_
 simp only [go_sem,simprocAttr,pg]
 try exact .refl _
theorem ED (a : aM) (k : Int) : af prog W0 245 [bT a,.loc 3 (.int .i64 k)] (.bool (a.kind == k)):=by
 refine ai [3] [2] func245 rfl rfl ntmps245 rfl rfl (.bool _) fun hs σ=>?_
 simp only [go_sem,simprocAttr,bT]
 try exact .refl _
theorem GY (k : Int) : af prog W0 214 [.int .i64 k] (.fn 245 [.loc 3 (.int .i64 k)]):=by
 refine ai [2] [1] func214 rfl rfl ntmps214 rfl rfl (.fn fun x hx=>by rw [List.mem_singleton] at hx; subst hx; exact .loc (.int _ _)) fun hs σ=>?_
 simp only [go_sem,simprocAttr]
 try exact .refl _
theorem wH (l : List aM) (n : List UInt8) (q : aM → Bool) (g : FuncId) (caps : List AV) (hg : ∀ a ∈ l,af prog W0 g ([bT a] ++ caps) (.bool (q a))) : af prog W0 212 [bA l,.str n,.fn g caps] (.bool (l.any fun a=>a.name == n && q a)):=by
 refine ai [6] [8] func212 rfl rfl ntmps212 rfl rfl (.bool _) fun hs σ=>?_
 have hl:=(bu (hs _ (List.mem_cons_self ..))).1
 simp only [go_sem,simprocAttr,bA,List.length_map]
 refine ah.upto [1,2,9,10] (.of (by kernel_rfl)) l.length (fun i A=>A.env 11 = .int .i64 i ∧ Ext σ A.st ∧ NoB (fun a : aM=>a.name == n && q a) l i) 0 (Nat.zero_le _) ?_ fun i B hi ⟨h11,hst,hI⟩=>?_
 ·simp only [go_sem,simprocAttr]
  exact ⟨.refl _,.zero _ _⟩
 simp only [go_sem,simprocAttr,h11,List.length_map]
 refine ⟨fun hc=>⟨hc,?_⟩,fun hc=>?_⟩
 ·obtain ⟨a,ha⟩:=get_some hc
  simp only [ay ha]
  have hfa : bf prog 83 (bT a) = true:=by kernel_rfl
  have hga:=hg a (List.mem_of_getElem? ha)
  simp only [List.cons_append,List.nil_append,bT] at hga
  simp only [go_sem,simprocAttr,h11,hfa,bT]
  refine aB.go (fun _=>hga) ?_
  simp only [go_sem,simprocAttr,h11]
  refine ⟨fun hq=>⟨al ?_,hst.app _⟩,fun hq=>⟨hc,aq hc hl,hst.app _,hI.succ ha hq⟩⟩
  exact (List.any_eq_true.2 ⟨a,List.mem_of_getElem? ha,hq⟩).symm
 ·refine ⟨al ?_,hst⟩
  exact (List.any_eq_false.2 fun x hx=>by simpa using hI.all hc x hx).symm
theorem A6 (σ : ab) (s : List aK) (hm : ∀ x ∈ s,bn x.pkg = 0) (hl : s.length ≤ 1024) : aU prog W0 211 [bq s] σ fun r σ'=>Ext σ σ' ∧ ((r = .au ∧ s = []) ∨ ∃ id,r = .row 56 id 0 s.length ∧ σ'[id]? = some (gX s) ∧ σ.length ≤ id):=by
 refine cB [2] [5] func211 rfl rfl ntmps211 rfl rfl fun hs=>?_
 simp only [go_sem,simprocAttr,bq,List.length_map]
 refine ah.at [6,7] (.of (by kernel_rfl)) (fun A=>∃ v,A.env 3 = v ∧ fS σ A.st v 56 (s.map bL) ∧ ((v = .au ∧ s = []) ∨ ∃ id,v = .row 56 id 0 s.length ∧ A.st[id]? = some (gX s))) ?_ fun B ⟨v,h3,hb,hv⟩=>?_
 ·refine ah.upto [6,7] (.of (by kernel_rfl)) s.length (fun i A=>∃ v,A.env 3 = v ∧ A.env 8 = .int .i64 i ∧ fS σ A.st v 56 ((s.take i).map bL) ∧ ((v = .au ∧ s.take i = []) ∨ ∃ id,v = .row 56 id 0 i ∧ A.st[id]? = some (gX (s.take i)))) 0 (Nat.zero_le _) ?_ fun i B hi ⟨v,h3,h8,hb,hv⟩=>?_
  ·simp only [go_sem,simprocAttr]
   exact ⟨_,rfl,fS.nil (.refl _) _,.inl ⟨rfl,rfl⟩⟩
  have hok:=hb.tn.ok
  have hun:=hb.tn.un
  simp only [go_sem,simprocAttr,h3,h8,hok,hun,List.length_map]
  refine ⟨fun hc=>⟨hc,?_⟩,fun hc=>?_⟩
  ·obtain ⟨x,hx⟩:=get_some hc
   have hb':=hb.more [none]
   simp only [ay hx]
   have hfe : bf prog 56 (bL x) = true:=by kernel_rfl
   simp only [go_sem,simprocAttr,h3,h8,hok,hun,hfe]
   have hso:=tC (W0:=W0) [x] (fun y hy=>by rw [List.mem_singleton] at hy; subst hy; exact hm y (List.mem_of_getElem? hx)) (by simp) (fun i a b ha hb=>by simp at hb)
   unfold bq at hso
   refine aj.fn (hso.cK (.cons (.lit _ _) .nil)) ?_
   simp only [go_sem,simprocAttr,h3,h8,hok,hun,hfe]
   have hil : (s.take i).length = i:=by rw [List.length_take]; omega
   refine cy.row 1048576 (by kernel_rfl) hb'.row.st (.sl _ _ _) (by simp; omega) (fun h=>by cases h) fun _=>?_
   simp only [go_sem,simprocAttr,h3,h8]
   have hkl : (bY v (B.st ++ [none])).length = B.st.length + 1:=by unfold bY; split <;> simp
   have hke : Ext σ (bY v (B.st ++ [none])):=by
    unfold bY
    split
    ·exact (hb.ext.app _).set (hb.low _ (by simp [bb])) _
    ·exact hb.ext.app _
   have hat : (bY v (B.st ++ [none]) ++ [some (cM.cells 56 (List.map bL (s.take i) ++ [bL x]))])[B.st.length + 1]? = some (gX (s.take (i + 1))):=by
    rw [List.getElem?_append_right (by omega),hkl,Nat.sub_self,ak hx]
    simp [gX]
   have hlen : (List.map bL (s.take i)).length + 1 = i + 1:=by rw [List.length_map,hil]
   have hs1 : (s.take (i + 1)).length = i + 1:=by rw [List.length_take]; omega
   refine ⟨hc,_,rfl,aq hc (by rw [av]; omega),⟨.inr ⟨B.st.length + 1,0,_,_,rfl,hat,by simp; omega,?_⟩,hke.app _,fun j hj=>?_⟩,.inr ⟨_,by rw [hlen],hat⟩⟩
   ·rw [List.drop_zero]
    exact (List.take_of_length_le (by rw [List.length_map,hs1,hlen]; exact Nat.le_refl _)).symm
   ·have h1 : j = B.st.length + 1:=by simpa [bb] using hj
    have:=hb.ext.le
    omega
  ·have e:=List.take_of_length_le hc
   rw [e] at hb hv
   refine ⟨_,rfl,hb,?_⟩
   rcases hv with hv | ⟨id,h1,h2⟩
   ·exact .inl hv
   ·exact .inr ⟨id,by rw [h1,show i = s.length by omega],h2⟩
 rcases hv with ⟨rfl,rfl⟩ | ⟨id,rfl,hid⟩
 ·simp only [go_sem,simprocAttr,h3]
  refine bR.ret ?_
  simp only [go_sem,simprocAttr]
  exact ⟨_,.refl _,hb.ext.le,hb.ext,.inl rfl⟩
 ·simp only [go_sem,simprocAttr,h3]
  refine bR.ret ?_
  simp only [go_sem,simprocAttr]
  exact ⟨_,.refl _,hb.ext.le,hb.ext,.inr ⟨id,rfl,hid,hb.low id (by simp [bb])⟩⟩
def gM (l : List aM) (x : aK) : aK:={ x with hold:=if (l.any fun a=>a.name == x.pkg.name && pg a) = true then false else if (l.any fun a=>a.name == x.pkg.name && a.kind == 5) = true then true else x.hold }
theorem H8 (l : List aM) (s : List aK) (hm : ∀ x ∈ s,bn x.pkg = 0) (hl : s.length ≤ 1024) : af prog W0 160 [bA l,bq s] (bq (s.map (gM l))):=by
 refine rO [4] [7] func160 rfl rfl ntmps160 rfl rfl (xe _) fun hs σ=>?_
 simp only [go_sem,simprocAttr]
 refine aj.goes (by simp only [go_sem,simprocAttr]) (A6 σ s hm hl) fun r σ1 ⟨hx,hr⟩=>?_
 rcases hr with ⟨rfl,rfl⟩ | ⟨id,rfl,hid,hlo⟩
 ·simp only [go_sem,simprocAttr]
  refine ah.upto [0,5,11,12] (.of (by kernel_rfl)) 0 (fun i A=>A.env 13 = .int .i64 0 ∧ Ext σ A.st) 0 (Nat.zero_le _) ?_ fun i B hi ⟨h13,hst⟩=>?_
  ·simp only [go_sem,simprocAttr]
   exact hx
  simp only [go_sem,simprocAttr,h13]
  refine bR.ret ?_
  simp only [go_sem,simprocAttr,bq]
  exact ⟨.au _,hst⟩
 ·have hs47 : s.length ≤ maxLen:=by rw [av]; omega
  have hid1l:=(List.getElem?_eq_some_iff.1 hid).1
  simp only [go_sem,simprocAttr]
  refine ah.upto [0,5,11,12] (.of (by kernel_rfl)) s.length (fun i A=>A.env 13 = .int .i64 i ∧ Ext σ A.st ∧ ∃ l',l'.length = s.length ∧ A.st[id]? = some (gX l') ∧ (∀ k x,k < i → s[k]? = some x → l'[k]? = some (gM l x)) ∧ ∀ k,i ≤ k → l'[k]? = s[k]?) 0 (Nat.zero_le _) ?_ fun i B hi ⟨h13,hst,l',hll,hat,hI,hJ⟩=>?_
  ·simp only [go_sem,simprocAttr]
   exact ⟨hx,s,rfl,hid,fun _ _=>rfl⟩
  have hat0:=hat
  have hidl:=(List.getElem?_eq_some_iff.1 hat).1
  unfold gX at hat
  simp only [go_sem,simprocAttr,h13]
  refine ⟨fun hc=>?_,fun hc=>?_⟩
  ·obtain ⟨x,hx1⟩:=get_some hc
   have hlx : l'[i]? = some x:=by rw [hJ i (Nat.le_refl _),hx1]
   have hfe : bf prog 56 (bL x) = true:=by kernel_rfl
   have hat2 : (B.st ++ [none])[id]? = some (some (.cells 56 (l'.map bL))):=by rw [List.getElem?_append_left hidl]; exact hat
   have hl2 : id < (B.st ++ [none]).length:=by simp; omega
   have hn1:=wH (W0:=W0) l x.pkg.name pg 213 [] (fun a _=>by simpa using DD a)
   have hn2:=wH (W0:=W0) l x.pkg.name (fun a=>a.kind == 5) 245 [.loc 3 (.int .i64 5)] (fun a _=>by simpa using ED a 5)
   have hset : ∀ b : Bool,(l'.map bL).set i ((bL x).setAt [2] (.bool b)) = (l'.set i { x with hold:=b }).map bL:=fun b=>by rw [List.map_set]; rfl
   have hfin : ∀ y : aK,y = gM l x → (l'.set i y).length = s.length ∧ (∀ k z,k < i + 1 → s[k]? = some z → (l'.set i y)[k]? = some (gM l z)) ∧ ∀ k,i + 1 ≤ k → (l'.set i y)[k]? = s[k]?:=fun y hy=>by
    refine ⟨by simpa using hll,fun k z hk hz=>?_,fun k hk=>?_⟩
    ·rcases Nat.lt_succ_iff_lt_or_eq.1 hk with h | rfl
     ·rw [List.getElem?_set_ne (by omega)]; exact hI k z h hz
     ·rw [hx1] at hz; cases hz
      rw [List.getElem?_set_self (by omega),hy]
    ·rw [List.getElem?_set_ne (by omega)]; exact hJ k (by omega)
   have hsame : gM l x = x → (∀ k z,k < i + 1 → s[k]? = some z → l'[k]? = some (gM l z)):=fun h k z hk hz=>by
    rcases Nat.lt_succ_iff_lt_or_eq.1 hk with h1 | rfl
    ·exact hI k z h1 hz
    ·rw [hx1] at hz; cases hz
     rw [h]; exact hlx
   simp only [go_sem,simprocAttr,h13,an hat,ar hat,Nat.zero_add,List.getElem?_map,hlx,Option.map_some,hfe]
   refine ⟨hc,?_⟩
   simp only [go_sem,simprocAttr,bL,ax]
   refine aj.fn hn1 ?_
   simp only [go_sem,simprocAttr]
   have hlk : ∃ y,Av.look (B.st ++ [none]) id i [2] = some y:=⟨.bool x.hold,by rw [an hat2,List.getElem?_map,hlx]; rfl⟩
   obtain ⟨y0,hy0⟩:=hlk
   have hsl : ∀ b : Bool,cY (B.st ++ [none]) id i [2] (.bool b) = (B.st ++ [none]).set id (gX (l'.set i { x with hold:=b })):=fun b=>by
    rw [aL hat2,List.getElem?_map,hlx]
    exact congrArg (fun z=>(B.st ++ [none]).set id (some (.cells 56 z))) (hset b)
   have hsx : ∀ o,Ext σ ((B.st ++ [none]).set id o):=fun o=>(hst.app _).set hlo _
   refine ⟨fun hq=>?_,fun hq=>?_⟩
   ·obtain ⟨f1,f2,f3⟩:=hfin { x with hold:=false } (by unfold gM; rw [if_pos hq])
    simp only [go_sem,simprocAttr,hy0,ar hat2,Nat.zero_add,h13,hsl]
    exact ⟨hc,hc,aq hc hs47,hsx _,_,f1,List.getElem?_set_self hl2,f2,f3⟩
   ·refine aj.fn (GY 5) ?_
    simp only [go_sem,simprocAttr]
    refine aj.fn hn2 ?_
    simp only [go_sem,simprocAttr,hy0,ar hat2,Nat.zero_add,h13,hsl]
    refine ⟨fun hq2=>?_,fun hq2=>?_⟩
    ·obtain ⟨f1,f2,f3⟩:=hfin { x with hold:=true } (by unfold gM; rw [if_neg (by rw [hq]; simp),if_pos hq2])
     exact ⟨hc,hc,aq hc hs47,hsx _,_,f1,List.getElem?_set_self hl2,f2,f3⟩
    ·exact ⟨hc,aq hc hs47,hst.app _,l',hll,hat2,hsame (by unfold gM; rw [if_neg (by rw [hq]; simp),if_neg (by rw [hq2]; simp)]),fun k hk=>hJ k (by omega)⟩
  ·have e : l' = s.map (gM l):=by
    refine List.ext_getElem? fun k=>?_
    rw [List.getElem?_map]
    by_cases hk : k < s.length
    ·obtain ⟨x,hx1⟩:=get_some hk
     rw [hx1,hI k x (by omega) hx1]; rfl
    ·rw [List.getElem?_eq_none (by omega),List.getElem?_eq_none (by omega)]; rfl
   refine bR.frz (e:=56) (te:=56) (id:=id) (off:=0) (m:=s.length) (xs:=l'.map bL) 4 (by simp only [go_sem,simprocAttr]) (by simp only [go_sem,simprocAttr]; exact hat) (by simp [hll]) (bR.ret ?_)
   simp only [go_sem,simprocAttr]
   rw [List.take_of_length_le (by simp [hll]),e]
   exact ⟨.refl _,hst.set hlo _⟩
end Go.Proofs.Tryz
end
section
namespace Go.Proofs.Tryz
open Go Go.Av
set_option maxRecDepth 10000
variable {W0 : World}
def cg (a0 a1 a2 a3 a4 a5 a6 a7 a8 a9 a10 a11 a12 : AV) : Option cM:=some (.cells 96 [.agg 96 [a0,a1,a2,a3,a4,a5,a6,a7,a8,a9,a10,a11,a12]])
theorem one_pow {i : Nat} (h : i < 32) : IntKind.u32.wrap (1 * 2 ^ (min i 32)) = ((2 ^ i : Nat) : Int):=by
 have h1 : (2 ^ i : Nat) < 4294967296:=Nat.lt_of_lt_of_le (Nat.pow_lt_pow_right (by decide) h) (by decide)
 rw [Nat.min_eq_left (by omega),Int.one_mul]
 have e2 : (2 : Int) ^ i = ((2 ^ i : Nat) : Int):=by rw [Int.natCast_pow]; rfl
 rw [e2]
 generalize (2 ^ i : Nat) = m at *
 simp [IntKind.wrap,IntKind.signed,IntKind.bits]
 omega
theorem oN (i : Nat) (h : i < 32) : af prog W0 49 [.int .i64 i] (.int .u32 ((2 ^ i : Nat) : Int)):=by
 refine ai [2] [] func49 rfl rfl ntmps49 rfl rfl (.int _ _) fun hs σ=>?_
 simp only [go_sem,simprocAttr]
 refine ⟨by omega,?_⟩
 rw [one_pow h]
 exact .refl _
def iK (l : List aM) (k : Int) (n : List UInt8) : Option aM:=l.find? fun a=>a.kind == k && a.name == n
variable {a0 a1 a3 a4 a5 a6 a7 a8 a9 a10 a11 a12 : AV}
theorem kQ (σ : ab) (id : Nat) (l : List aM) (k : Int) (n : List UInt8) (hl : l.length ≤ maxLen) (hid : σ[id]? = some (cg a0 a1 (bA l) a3 a4 a5 a6 a7 a8 a9 a10 a11 a12)) :
  aU prog W0 107 [.ptr 96 id 0 [],.int .i64 k,.str n] σ fun r σ'=>r = .tup [bT ((iK l k n).getD l7),.bool (iK l k n).isSome] ∧ σ' = σ:=by
 have hidl:=(List.getElem?_eq_some_iff.1 hid).1
 refine vb [.cell 6 83,.tmp 7] [9] func107 rfl rfl ntmps107 rfl rfl (.zd (dJ (Nat.zero_le _) (AF _)) (.bool _)) fun hs=>?_
 unfold cg at hid
 have hid0 : (σ ++ [some (cM.cells 83 [bT l7])])[id]? = σ[id]?:=List.getElem?_append_left hidl
 rw [hid] at hid0
 unfold bT l7 at hid0
 simp only [go_sem,simprocAttr,an hid0,ar hid0,bA,List.length_map]
 refine ah.upto [1,2,6,13,14] (.of (by kernel_rfl)) l.length (fun i A=>A.env 15 = .int .i64 i ∧ Ext (σ ++ [some (.cells 83 [bT l7])]) A.st ∧ NoB (fun a : aM=>a.kind == k && a.name == n) l i) 0 (Nat.zero_le _) ?_ fun i B hi ⟨h15,hst,hI⟩=>?_
 ·simp only [go_sem,simprocAttr]
  exact ⟨.refl _,.zero _ _⟩
 have c1 : B.st[σ.length]? = some (some (.cells 83 [bT l7])):=by
  have e:=congrArg (·[σ.length]?) hst
  simpa [List.getElem?_take] using e
 have c2 : (B.st ++ [none])[σ.length]? = some (some (.cells 83 [bT l7])):=(List.getElem?_append_left (List.getElem?_eq_some_iff.1 c1).1).trans c1
 have hx : Ext σ B.st:=(Ext.refl σ).app _ |>.trans hst
 simp only [go_sem,simprocAttr,h15,List.length_map]
 refine ⟨fun hc=>⟨hc,?_⟩,fun hc=>?_⟩
 ·obtain ⟨a,ha⟩:=get_some hc
  simp only [ay ha]
  unfold bT at c2
  simp only [go_sem,simprocAttr,bT,h15,an c2,ar c2,aL c2,bM (List.getElem?_eq_some_iff.1 c2).1]
  refine ⟨fun hq=>cJ.ret ?_,fun hq=>⟨hc,aq hc hl,hst.app _,hI.succ ha hq⟩⟩
  have : iK l k n = some a:=qq ha hq hI
  rw [this]
  simp only [go_sem,simprocAttr,bM (List.getElem?_eq_some_iff.1 c2).1]
  exact (hx.app _).set (Nat.le_refl _) _
 ·have : iK l k n = none:=List.find?_eq_none.2 fun x hx=>by simpa using hI.all hc x hx
  rw [this]
  unfold bT at c1
  simp only [go_sem,simprocAttr,an c1,ar c1,aL c1,bM (List.getElem?_eq_some_iff.1 c1).1]
  refine cJ.ret ?_
  simp only [go_sem,simprocAttr,bM (List.getElem?_eq_some_iff.1 c1).1]
  exact ⟨.refl _,hx.set (Nat.le_refl _) _⟩
theorem mW {α : Type} (q : α → Bool) (l : List α) : (iT q l = -1 ∧ ∀ a ∈ l,q a = false) ∨ ∃ i a,l[i]? = some a ∧ q a = true ∧ (∀ b ∈ l.take i,q b = false) ∧ iT q l = (i : Nat):=by
 by_cases h : ∀ a ∈ l,q a = false
 ·exact .inl ⟨dz h,h⟩
 ·right
  have hex : ∃ a ∈ l,q a = true:=by
   refine Classical.byContradiction fun hn=>h fun a ha=>?_
   cases hq : q a with
   | false=>rfl
   | true=>exact (hn ⟨a,ha,hq⟩).elim
  have hlt : l.findIdx q < l.length:=List.findIdx_lt_length.2 hex
  obtain ⟨a,ha⟩:=get_some hlt
  have hqa : q a = true:=by
   have:=List.findIdx_getElem (w:=hlt)
   rwa [(List.getElem?_eq_some_iff.1 ha).2] at this
  have hb : ∀ b ∈ l.take (l.findIdx q),q b = false:=fun b hb=>by
   obtain ⟨m,hm⟩:=List.mem_iff_getElem?.1 hb
   rw [List.getElem?_take] at hm
   split at hm
   ·rename_i hml
    have:=List.not_of_lt_findIdx hml
    rw [(List.getElem?_eq_some_iff.1 hm).2] at this
    simpa using this
   ·cases hm
  exact ⟨_,a,ha,hqa,hb,fP ha hqa hb⟩
def bC (l : List aM) (s : List aK) (n : List UInt8) : Option aK:=(s.map (gM l)).find? fun x=>x.pkg.name == n
theorem sc (σ : ab) (id : Nat) (l : List aM) (s : List aK) (n : List UInt8) (hm : ∀ x ∈ s,bn x.pkg = 0) (hl : s.length ≤ 1024) (hid : σ[id]? = some (cg a0 (bq s) (bA l) a3 a4 a5 a6 a7 a8 a9 a10 a11 a12)) :
  aU prog W0 108 [.ptr 96 id 0 [],.str n] σ fun r σ'=>r = .tup [bL ((bC l s n).getD eN),.bool (bC l s n).isSome] ∧ σ' = σ:=by
 have hidl:=(List.getElem?_eq_some_iff.1 hid).1
 refine vb [.cell 4 56,.tmp 5] [] func108 rfl rfl ntmps108 rfl rfl (.zd (dJ (Nat.zero_le _) (uy _)) (.bool _)) fun hs=>?_
 unfold cg at hid
 have hlk : ∀ o : Option cM,(σ ++ [o])[id]? = some (some (.cells 96 [.agg 96 [a0,bq s,bA l,a3,a4,a5,a6,a7,a8,a9,a10,a11,a12]])):=fun o=>by rw [List.getElem?_append_left hidl,hid]
 simp only [go_sem,simprocAttr,an (hlk _),ar (hlk _)]
 refine ⟨.of (by kernel_rfl),aB.fn (H8 l s hm hl) ?_⟩
 simp only [go_sem,simprocAttr]
 refine aj.fn (uO (s.map (gM l)) n) ?_
 rcases mW (fun x : aK=>x.pkg.name == n) (s.map (gM l)) with ⟨hi,hall⟩ | ⟨i,a,ha,hqa,hbef,hi⟩
 ·have hf : bC l s n = none:=List.find?_eq_none.2 fun x hx=>by simpa using hall x hx
  rw [hi,hf]
  simp only [go_sem,simprocAttr]
  refine cJ.ret ?_
  simp only [go_sem,simprocAttr]
  exact tT (.sub (E9 eN)) (.refl _)
 ·have hf : bC l s n = some a:=qq ha hqa hbef
  have h0 : ¬ (i : Int) < 0:=by omega
  rw [hi,hf,if_neg h0]
  simp only [go_sem,simprocAttr,bq,ay ha]
  have hil:=(List.getElem?_eq_some_iff.1 ha).1
  have hfe : bf prog 56 (bL a) = true:=by kernel_rfl
  refine ⟨by simpa using hil,hfe,cJ.ret ?_⟩
  simp only [go_sem,simprocAttr]
  done
end Go.Proofs.Tryz
end
section
namespace Go.Proofs.Tryz
open Go Go.Av
set_option maxRecDepth 10000
variable {W0 : World}
variable {a0 a1 a3 a4 a5 a6 a7 a8 a9 a10 a11 a12 : AV}
theorem Fp (a : aM) : af prog W0 162 [bT a] (.bool (a.kind == 3)):=by
 refine ai [2] [1] func162 rfl rfl ntmps162 rfl rfl (.bool _) fun hs σ=>?_
 simp only [go_sem,simprocAttr,bT]
 try exact .refl _
theorem DA (a : aM) : af prog W0 110 [bT a] (.bool (a.kind == 3)):=by
 refine ai [2] [1] func110 rfl rfl ntmps110 rfl rfl (.bool _) fun hs σ=>?_
 simp only [go_sem,simprocAttr,bT]
 try exact .refl _
theorem Bd (l : List aM) : af prog W0 109 [bA l,.fn 162 []] (.bool (jC l)):=JK bT cD.ask l (fun a=>a.kind == 3) _ [] fun a _=>by simpa using Fp a
theorem Ck (l : List aM) : af prog W0 109 [bA l,.fn 110 []] (.bool (jC l)):=JK bT cD.ask l (fun a=>a.kind == 3) _ [] fun a _=>by simpa using DA a
def tJ (l : List aM) (s : List aK) (n : List UInt8) : Bool:=!jC l || (((bC l s n).isSome || (iK l 1 n).isSome) && !(iK l 2 n).isSome)
theorem nZ (x : aK) : bf prog 56 (bL x) = true:=by kernel_rfl
theorem kL (a : aM) : bf prog 83 (bT a) = true:=by kernel_rfl
theorem AM (σ : ab) (id : Nat) (l : List aM) (s : List aK) (n : List UInt8) (hm : ∀ x ∈ s,bn x.pkg = 0) (hs1 : s.length ≤ 1024) (hl : l.length ≤ 1024) (hid : σ[id]? = some (cg a0 (bq s) (bA l) a3 a4 a5 a6 a7 a8 a9 a10 a11 a12)) :
  aU prog W0 111 [.ptr 96 id 0 [],.str n] σ fun r σ'=>r = .bool (tJ l s n) ∧ σ' = σ:=by
 have hl47 : l.length ≤ maxLen:=by rw [av]; omega
 refine pI [4] [6,8,10] func111 rfl rfl ntmps111 rfl rfl (.bool _) fun hs=>?_
 have hid0:=hid
 unfold cg at hid0
 simp only [go_sem,simprocAttr,an hid0]
 refine aj.fn (Bd l) ?_
 simp only [go_sem,simprocAttr]
 refine aj.reads (by simp only [go_sem,simprocAttr]) (sc σ id l s n hm hs1 hid) ?_
 simp only [go_sem,simprocAttr,nZ]
 have hmo : ∀ τ,(σ ++ τ)[id]? = some (cg a0 (bq s) (bA l) a3 a4 a5 a6 a7 a8 a9 a10 a11 a12):=fun τ=>by rw [List.getElem?_append_left (List.getElem?_eq_some_iff.1 hid).1,hid]
 refine aj.reads (by simp only [go_sem,simprocAttr]) (kQ (σ ++ [none]) id l 1 n hl47 (hmo _)) ?_
 simp only [go_sem,simprocAttr,kL]
 refine aj.reads (by simp only [go_sem,simprocAttr]) (kQ (σ ++ [none,none]) id l 2 n hl47 (hmo _)) ?_
 simp only [go_sem,simprocAttr,kL]
 refine bR.ret ?_
 simp only [go_sem,simprocAttr,tJ]
 try exact .refl _
def pJ (l : List aM) (s : List aK) (n : List UInt8) : Bool:=(!(iK l 1 n).isSome && !((bC l s n).isSome && (((bC l s n).getD eN).hold || ((bC l s n).getD eN).pkg.ess))) && !(jC l && tJ l s n)
theorem HY (σ : ab) (id : Nat) (l : List aM) (s : List aK) (n : List UInt8) (hm : ∀ x ∈ s,bn x.pkg = 0) (hs1 : s.length ≤ 1024) (hl : l.length ≤ 1024) (hid : σ[id]? = some (cg a0 (bq s) (bA l) a3 a4 a5 a6 a7 a8 a9 a10 a11 a12)) :
  aU prog W0 48 [.ptr 96 id 0 [],.str n] σ fun r σ'=>r = .bool (pJ l s n) ∧ σ' = σ:=by
 have hl47 : l.length ≤ maxLen:=by rw [av]; omega
 have hmo : ∀ τ,(σ ++ τ)[id]? = some (cg a0 (bq s) (bA l) a3 a4 a5 a6 a7 a8 a9 a10 a11 a12):=fun τ=>by rw [List.getElem?_append_left (List.getElem?_eq_some_iff.1 hid).1,hid]
 refine pI [4] [5,7] func48 rfl rfl ntmps48 rfl rfl (.bool _) fun hs=>?_
 simp only [go_sem,simprocAttr]
 refine aj.reads (by simp only [go_sem,simprocAttr]) (kQ σ id l 1 n hl47 hid) ?_
 simp only [go_sem,simprocAttr,kL]
 refine aj.reads (by simp only [go_sem,simprocAttr]) (sc (σ ++ [none]) id l s n hm hs1 (hmo _)) ?_
 have hid0:=hmo [none,none]
 unfold cg at hid0
 simp only [go_sem,simprocAttr,nZ,an hid0]
 refine aj.fn (Ck l) ?_
 have he : bL ((bC l s n).getD eN) = .agg 56 [.agg 54 [.str ((bC l s n).getD eN).pkg.name,.str ((bC l s n).getD eN).pkg.ver,aC ((bC l s n).getD eN).pkg.pre,aC ((bC l s n).getD eN).pkg.dep,aC ((bC l s n).getD eN).pkg.rcm,aH ((bC l s n).getD eN).pkg.con,aH ((bC l s n).getD eN).pkg.brk,dd ((bC l s n).getD eN).pkg.gr,.bool ((bC l s n).getD eN).pkg.ess],.bool ((bC l s n).getD eN).GZ,.bool ((bC l s n).getD eN).hold]:=rfl
 simp only [go_sem,simprocAttr,he]
 refine aB.st (fun _=>AM (σ ++ [none,none]) id l s n hm hs1 hl (hmo _)) ?_
 simp only [go_sem,simprocAttr]
 refine bR.ret ?_
 simp only [go_sem,simprocAttr,pJ]
 try exact .refl _
def kM (l : List aM) (s : List aK) (p : Pkg) : Bool :=
 let ex:=(iK l 1 p.name).isSome && ((iK l 1 p.name).getD l7).ver != []
 if ((iK l 2 p.name).isSome || (ex && !bt p.ver ((iK l 1 p.name).getD l7).ver)) = true then false
 else if ((bC l s p.name).isSome && ((((bC l s p.name).getD eN).hold && !bt p.ver ((bC l s p.name).getD eN).pkg.ver) || (!ex && decide (bJ p.ver ((bC l s p.name).getD eN).pkg.ver < 0)))) = true then false
 else tJ l s p.name
theorem Ls (σ : ab) (id : Nat) (l : List aM) (s : List aK) (p : Pkg) (hm : ∀ x ∈ s,bn x.pkg = 0) (hs1 : s.length ≤ 1024) (hl : l.length ≤ 1024) (hid : σ[id]? = some (cg a0 (bq s) (bA l) a3 a4 a5 a6 a7 a8 a9 a10 a11 a12)) :
  aU prog W0 104 [.ptr 96 id 0 [],ax p] σ fun r σ'=>r = .bool (kM l s p) ∧ σ' = σ:=by
 have hl47 : l.length ≤ maxLen:=by rw [av]; omega
 have hmo : ∀ τ,(σ ++ τ)[id]? = some (cg a0 (bq s) (bA l) a3 a4 a5 a6 a7 a8 a9 a10 a11 a12):=fun τ=>by rw [List.getElem?_append_left (List.getElem?_eq_some_iff.1 hid).1,hid]
 refine pI [4] [3,5,8,10] func104 rfl rfl ntmps104 rfl rfl (.bool _) fun hs=>?_
 simp only [go_sem,simprocAttr,ax]
 refine aj.reads (by simp only [go_sem,simprocAttr]) (kQ σ id l 1 p.name hl47 hid) ?_
 have ha : bT ((iK l 1 p.name).getD l7) = .agg 83 [.int .i64 ((iK l 1 p.name).getD l7).kind,.str ((iK l 1 p.name).getD l7).name,.str ((iK l 1 p.name).getD l7).ver]:=rfl
 have he : bL ((bC l s p.name).getD eN) = .agg 56 [.agg 54 [.str ((bC l s p.name).getD eN).pkg.name,.str ((bC l s p.name).getD eN).pkg.ver,aC ((bC l s p.name).getD eN).pkg.pre,aC ((bC l s p.name).getD eN).pkg.dep,aC ((bC l s p.name).getD eN).pkg.rcm,aH ((bC l s p.name).getD eN).pkg.con,aH ((bC l s p.name).getD eN).pkg.brk,dd ((bC l s p.name).getD eN).pkg.gr,.bool ((bC l s p.name).getD eN).pkg.ess],.bool ((bC l s p.name).getD eN).GZ,.bool ((bC l s p.name).getD eN).hold]:=rfl
 simp only [go_sem,simprocAttr,kL,ha]
 refine aj.reads (by simp only [go_sem,simprocAttr]) (kQ (σ ++ [none]) id l 2 p.name hl47 (hmo _)) ?_
 simp only [go_sem,simprocAttr,kL]
 refine aB.fnG (fun _=>np p.ver ((iK l 1 p.name).getD l7).ver) ?_
 simp only [go_sem,simprocAttr]
 have hbn : ∀ v : List UInt8,(v != []) = !(v == []):=fun v=>rfl
 refine ⟨fun h1=>bR.ret ?_,fun h1=>?_⟩
 ·simp only [go_sem,simprocAttr]
  exact al (by unfold kM; simp only [hbn]; rw [h1]; rfl)
 refine aj.reads (by simp only [go_sem,simprocAttr]) (sc (σ ++ [none,none]) id l s p.name hm hs1 (hmo _)) ?_
 simp only [go_sem,simprocAttr,nZ,he]
 refine aB.fnG (fun _=>np p.ver ((bC l s p.name).getD eN).pkg.ver) ?_
 simp only [go_sem,simprocAttr]
 refine aB.fnG (fun _=>mC p.ver ((bC l s p.name).getD eN).pkg.ver) ?_
 simp only [go_sem,simprocAttr]
 refine ⟨fun h2=>bR.ret ?_,fun h2=>?_⟩
 ·simp only [go_sem,simprocAttr]
  exact al (by unfold kM; simp only [hbn]; rw [h1,h2]; rfl)
 refine aj.reads (by simp only [go_sem,simprocAttr]) (AM (σ ++ [none,none,none]) id l s p.name hm hs1 hl (hmo _)) ?_
 simp only [go_sem,simprocAttr]
 refine bR.ret ?_
 simp only [go_sem,simprocAttr]
 exact al (by unfold kM; simp only [hbn]; rw [h1,h2]; rfl)
end Go.Proofs.Tryz
end
section
namespace Go.Av
def bU (xs : List Int) : List Int:=xs.foldl (fun a x=>if a.getLast? = some x then a else a ++ [x]) []
theorem iy (xs : List Int) (x : Int) : bU (xs ++ [x]) = if (bU xs).getLast? = some x then bU xs else bU xs ++ [x]:=by
 unfold bU
 rw [List.foldl_append]
 rfl
theorem om {p : List Int → Prop} (h0 : p []) (hs : ∀ xs x,p xs → p (xs ++ [x])) (xs : List Int) : p xs:=by
 have h : ∀ ys : List Int,p ys.reverse:=fun ys=>by
  induction ys with
  | nil=>exact h0
  | cons y r ih=>rw [List.reverse_cons]; exact hs _ _ ih
 have:=h xs.reverse
 rwa [List.reverse_reverse] at this
theorem zv (xs : List Int) : (bU xs).getLast? = xs.getLast?:=by
 refine om (p:=fun xs=>(bU xs).getLast? = xs.getLast?) rfl (fun xs x ih=>?_) xs
 rw [iy,List.getLast?_concat]
 split
 ·assumption
 ·rw [List.getLast?_concat]
theorem A9 (xs : List Int) : ∀ y,y ∈ bU xs ↔ y ∈ xs:=by
 refine om (p:=fun xs=>∀ y,y ∈ bU xs ↔ y ∈ xs) (fun y=>Iff.rfl) (fun xs x ih y=>?_) xs
 rw [iy,List.mem_append,List.mem_singleton]
 split
 ·rename_i h
  rw [ih]
  refine ⟨.inl,fun h1=>?_⟩
  rcases h1 with h1 | rfl
  ·exact h1
  ·exact (ih y).1 (List.mem_of_getLast? h)
 ·rw [List.mem_append,List.mem_singleton,ih]
theorem tt (xs : List Int) : (bU xs).length ≤ xs.length:=by
 refine om (p:=fun xs=>(bU xs).length ≤ xs.length) (Nat.le_refl _) (fun xs x ih=>?_) xs
 rw [iy,List.length_append]
 split
 ·simp; omega
 ·simp; exact ih
theorem EA (xs : List Int) : ∀ (i : Nat) (a b : Int),(bU xs)[i]? = some a → (bU xs)[i + 1]? = some b → a ≠ b:=by
 refine om (p:=fun xs=>∀ (i : Nat) (a b : Int),(bU xs)[i]? = some a → (bU xs)[i + 1]? = some b → a ≠ b) (fun i a b h=>by simp [bU] at h) (fun xs x ih i a b ha hb=>?_) xs
 rw [iy] at ha hb
 split at ha
 ·rename_i h
  rw [if_pos h] at hb
  exact ih i a b ha hb
 ·rename_i h
  rw [if_neg h] at hb
  have hl:=(List.getElem?_eq_some_iff.1 hb).1
  rw [List.length_append,List.length_singleton] at hl
  rw [List.getElem?_append_left (by omega)] at ha
  by_cases hi : i + 1 < (bU xs).length
  ·rw [List.getElem?_append_left hi] at hb
   exact ih i a b ha hb
  ·have : i + 1 = (bU xs).length:=by omega
   rw [List.getElem?_append_right (by omega),this,Nat.sub_self] at hb
   cases hb
   intro e
   subst e
   refine h ?_
   rw [List.getLast?_eq_getElem?,← this,Nat.add_sub_cancel]
   exact ha
theorem rM {xs : List Int} {k : Nat} {a b : Int} (hk : 0 < k) (ha : xs[k]? = some a) (hb : xs[k - 1]? = some b) : bU (xs.take (k + 1)) = if b = a then bU (xs.take k) else bU (xs.take k) ++ [a]:=by
 rw [ak ha,iy,zv]
 have : (xs.take k).getLast? = some b:=by
  obtain ⟨j,rfl⟩ : ∃ j,k = j + 1:=⟨k - 1,by omega⟩
  rw [Nat.add_sub_cancel] at hb
  rw [ak hb,List.getLast?_concat]
 rw [this]
 simp
end Go.Av
namespace Go.Proofs.Tryz
open Go Go.Av
set_option maxRecDepth 10000
variable {W0 : World}
theorem x7 (σ : ab) (id : Nat) (xs : List Int) (hid : σ[id]? = some (some (.cells 135 (xs.map (.int .i64))))) (hx : xs.length ≤ 1048576) (h0 : xs ≠ []) :
  aU prog W0 191 [.row 135 id 0 xs.length] σ fun r σ'=>∃ zs,r = .row 135 id 0 (bU xs).length ∧ σ' = σ.set id (some (.cells 135 zs)) ∧ zs.length = xs.length ∧ zs.take (bU xs).length = (bU xs).map (.int .i64):=by
 have hidl : id < σ.length:=(List.getElem?_eq_some_iff.1 hid).1
 have h1 : 0 < xs.length:=List.length_pos_iff.2 h0
 have hone : bU (xs.take 1) = xs.take 1:=by
  cases xs with
  | nil=>rfl
  | cons x r=>simp [bU]
 have hdone : bU xs = xs → ∃ zs,(AV.row 135 id 0 xs.length) = .row 135 id 0 (bU xs).length ∧ σ = σ.set id (some (.cells 135 zs)) ∧ zs.length = xs.length ∧ zs.take (bU xs).length = (bU xs).map (.int .i64):=fun h=>by
  rw [h]
  exact ⟨_,rfl,(fK hid).symm,by simp,List.take_of_length_le (by simp)⟩
 refine cB [2] [] func191 rfl rfl ntmps191 rfl rfl fun hs=>?_
 simp only [go_sem,simprocAttr]
 refine ⟨fun _=>bR.ret ?_,fun h2=>?_⟩
 ·simp only [go_sem,simprocAttr]
  exact ⟨_,.refl _,hdone (by rwa [List.take_of_length_le (by omega)] at hone)⟩
 refine ah.cF [0] (.of (by kernel_rfl)) (fun k A=>∃ j : Nat,A.env 3 = .int .i64 j ∧ k = xs.length - j ∧ 0 < j ∧ j ≤ xs.length ∧ A.st = σ ∧ bU (xs.take j) = xs.take j) (xs.length - 1) ⟨1,?_⟩ fun k B ⟨j,h3,hk,hj,hjl,hst,hcj⟩=>?_
 ·simp only [go_sem,simprocAttr]
  exact ⟨by omega,hone⟩
 simp only [go_sem,simprocAttr,h3,hst]
 refine ⟨fun hlt=>?_,fun hge=>bR.ret ?_⟩
 ·obtain ⟨a,ha⟩:=get_some hlt
  obtain ⟨b,hb⟩:=get_some (show j - 1 < xs.length by omega)
  have hw : IntKind.i64.wrap ((j : Int) - 1) = (j : Int) - 1:=aF (by omega)
  have hn : ((j : Int) - 1).toNat = j - 1:=by omega
  have hsu:=rM hj ha hb
  simp only [go_sem,simprocAttr,h3,hst,an hid,ar hid,hw,hn,Nat.zero_add,List.getElem?_map,ha,hb,Option.map_some]
  refine ⟨.of (by kernel_rfl),hlt,by omega,fun heq=>?_,fun hne=>?_⟩
  ·have heq' : b = a:=(by simpa using heq : a = b).symm
   rw [if_pos heq',hcj] at hsu
   refine ⟨by omega,?_⟩
   refine ah.at [0] (.of (by kernel_rfl)) (fun A=>∃ zs,A.env 3 = .int .i64 (bU xs).length ∧ A.st = σ.set id (some (.cells 135 zs)) ∧ zs.length = xs.length ∧ zs.take (bU xs).length = (bU xs).map (.int .i64)) ?_ fun C ⟨zs,h3,hst,hzl,hzt⟩=>?_
   ·refine ah.upto [0,4] (.of (by kernel_rfl)) (xs.length - j) (fun i A=>0 < i ∧ A.env 5 = .int .i64 i ∧ ∃ (p : Nat) (zs : List AV),p = (bU (xs.take (j + i))).length ∧ A.env 3 = .int .i64 p ∧ A.st = σ.set id (some (.cells 135 zs)) ∧ zs.length = xs.length ∧ p < j + i ∧ zs.take p = (bU (xs.take (j + i))).map (.int .i64) ∧ ∀ m,j + i ≤ m + 1 → zs[m]? = (xs.map (.int .i64))[m]?) 1 (by omega) ?_ fun i B hi ⟨hi0,h5,p,zs,hp,h3,hst,hzl,hpj,hzt,hzr⟩=>?_
    ·simp only [go_sem,simprocAttr]
     have e1 : (xs.take j).length = j:=by rw [List.length_take]; omega
     refine ⟨_,_,rfl,?_,by rw [hst]; exact (fK hid).symm,by simp,?_,?_,fun m _=>rfl⟩
     ·rw [hsu,e1]; exact h3
     ·rw [hsu,e1]; omega
     ·rw [hsu,e1,List.map_take]
    have hidl2 : id < (σ.set id (some (.cells 135 zs))).length:=by simpa using hidl
    simp only [go_sem,simprocAttr,h5,h3,hst]
    refine ⟨fun hil=>?_,fun hil=>?_⟩
    ·obtain ⟨c,hc⟩:=get_some (show j + i < xs.length by omega)
     obtain ⟨d,hd⟩:=get_some (show j + i - 1 < xs.length by omega)
     have hsu2:=rM (show 0 < j + i by omega) hc hd
     have hzc : zs[j + i]? = some (.int .i64 c):=by rw [hzr _ (by omega),List.getElem?_map,hc]; rfl
     have hzd : zs[j + i - 1]? = some (.int .i64 d):=by rw [hzr _ (by omega),List.getElem?_map,hd]; rfl
     have hlc : Av.look (σ.set id (some (.cells 135 zs))) id (j + i) [] = some (.int .i64 c):=by rw [bM hidl,hzc]; rfl
     have hld : Av.look (σ.set id (some (.cells 135 zs))) id (j + (i - 1)) [] = some (.int .i64 d):=by rw [bM hidl,show j + (i - 1) = j + i - 1 by omega,hzd]; rfl
     have hwi : IntKind.i64.wrap ((i : Int) - 1) = (i : Int) - 1:=aF (by omega)
     have hni : ((i : Int) - 1).toNat = i - 1:=by omega
     have hwj : IntKind.i64.wrap ((i : Int) + 1) = ((i + 1 : Nat) : Int):=by rw [aF (by omega)]; omega
     simp only [go_sem,simprocAttr,h5,h3,hst,hwi,hni,hlc,hld,fD hidl]
     refine ⟨.of (by kernel_rfl),by omega,by omega,fun hcd=>?_,fun hcd=>?_⟩
     ·have hcd' : ¬ d = c:=fun e=>by simp [e] at hcd
      rw [if_neg hcd'] at hsu2
      have hpl : p < xs.length:=by omega
      obtain ⟨y,hy⟩:=Option.isSome_iff_exists.1 (show (zs[p]?).isSome = true by rw [List.getElem?_eq_getElem (by omega)]; rfl)
      have hlp : Av.look (σ.set id (some (.cells 135 zs))) id p [] = some y:=by rw [bM hidl,hy]; cases y <;> rfl
      have hwp : IntKind.i64.wrap ((p : Int) + 1) = ((p + 1 : Nat) : Int):=by rw [aF (by omega)]; omega
      simp only [go_sem,simprocAttr,h5,h3,hst,Nat.zero_add,hlc,hlp,fD hidl,cQ hidl,hwp,hwj]
      refine ⟨by omega,by omega,by omega,p + 1,zs.set p (.int .i64 c),?_,rfl,rfl,by simpa using hzl,by omega,?_,fun m hm=>?_⟩
      ·rw [show j + (i + 1) = j + i + 1 by omega,hsu2,List.length_append,← hp]; rfl
      ·rw [show j + (i + 1) = j + i + 1 by omega,hsu2,List.map_append,← hzt,ak (List.getElem?_set_self (by omega)),List.take_set_of_le (Nat.le_refl _)]
       rfl
      ·rw [List.getElem?_set_ne (by omega)]
       exact hzr m (by omega)
     ·have hcd' : d = c:=by simpa using hcd.symm
      rw [if_pos hcd'] at hsu2
      simp only [go_sem,simprocAttr,h5,h3,hst,hwj]
      refine ⟨by omega,p,zs,?_,rfl,rfl,hzl,by omega,?_,fun m hm=>hzr m (by omega)⟩
      ·rw [show j + (i + 1) = j + i + 1 by omega,hsu2,← hp]
      ·rw [show j + (i + 1) = j + i + 1 by omega,hsu2,hzt]
    ·have e9 : xs.take (j + i) = xs:=List.take_of_length_le (by omega)
     rw [e9] at hzt hp
     exact ⟨zs,by rw [← hp],rfl,hzl,by rw [← hp]; exact hzt⟩
   have hcl:=tt xs
   simp only [go_sem,simprocAttr,h3,hst]
   rw [Nat.zero_add]
   refine ⟨hcl,mB.row (v:=.int .i64 0) (by kernel_rfl) (by simp only [go_sem,simprocAttr]) (by kernel_rfl) (zs:=zs) (by simp only [go_sem,simprocAttr,hst]; simp [hidl]) (by omega) ?_⟩
   have hzc : (gW zs (bU xs).length (List.replicate (xs.length - (bU xs).length) (.int .i64 0))).take (bU xs).length = zs.take (bU xs).length:=by
    unfold gW
    rw [List.append_assoc,List.take_append_of_le_length (by simp; omega),List.take_of_length_le (by simp; omega)]
   simp only [go_sem,simprocAttr,h3,hst,List.set_set]
   refine ⟨⟨Nat.zero_le _,hcl⟩,bR.ret ?_⟩
   simp only [go_sem,simprocAttr,hst,List.set_set,Nat.sub_zero]
   exact ⟨_,.refl _,by simp,_,rfl,rfl,by rw [oE (by simp; omega)]; exact hzl,by rw [hzc,hzt]⟩
  ·have hne' : ¬ b = a:=fun e=>by simp [e] at hne
   rw [if_neg hne',hcj,← ak ha] at hsu
   exact .here (xs.length - (j + 1)) (by omega) ⟨j + 1,aq hlt (by rw [av]; omega),rfl,by omega,by omega,by simp only [go_sem,simprocAttr,hst],hsu⟩
 ·simp only [go_sem,simprocAttr,hst]
  rw [List.take_of_length_le (by omega)] at hcj
  exact ⟨_,.refl _,hdone hcj⟩
end Go.Proofs.Tryz
end
section
namespace Go.Proofs.Tryz
open Go Go.Av
set_option maxRecDepth 10000
variable {W0 : World}
theorem ER (σ : ab) (c : List Int) (h0 : c ≠ []) (hl : c.length ≤ 1000) (hc : ∀ l ∈ c,l ≠ 0 ∧ l.natAbs ≤ 1000000) :
  aU prog W0 135 [dX c] σ fun r σ'=>Ext σ σ' ∧ ((∃ d : List Int,d ≠ [] ∧ d.length ≤ c.length ∧ (∀ l,l ∈ d ↔ l ∈ c) ∧ r = .tup [dX d,.bool true]) ∨ (r = .tup [.au,.bool false] ∧ ∀ M,sT M c = true)):=by
 refine cB [2,3] [] func135 rfl rfl ntmps135 rfl rfl fun hs=>?_
 simp only [go_sem,simprocAttr]
 refine aj.goes (by simp only [go_sem,simprocAttr]) (vP σ c h0 (by omega)) fun r σ' ⟨hr,hσ⟩=>?_
 subst hr hσ
 simp only [go_sem,simprocAttr]
 have hid : (σ ++ [some (cM.cells 135 (c.map (AV.int .i64)))])[σ.length]? = some (ints c):=by simp [ints]
 refine aj.goes (by simp only [go_sem,simprocAttr]) (De _ σ.length c hid h0 (by omega) fun x hx=>(hc x hx).2) fun r τ ⟨ys,hp,hτ⟩=>?_
 simp only [go_sem,simprocAttr]
 have hyl:=hp.length_eq
 have hid : τ[σ.length]? = some (some (.cells 135 (ys.map (.int .i64)))):=by rw [hτ]; simp [ints]
 have hτl : τ.length = σ.length + 1:=by rw [hτ]; simp
 have hτe : Ext σ τ:=by rw [hτ]; exact Ext.set ((Ext.refl _).app _) (Nat.le_refl _) _
 rw [← hyl]
 have hy0 : ys ≠ []:=fun e=>h0 (by subst e; exact hp.symm.eq_nil)
 refine aj.goes (by simp only [go_sem,simprocAttr]) (x7 _ σ.length ys hid (by omega) hy0) fun r σ' ⟨zs,hr,hσ,hzl,hzt⟩=>?_
 subst hr
 have hd1 : ∀ l,l ∈ bU ys ↔ l ∈ c:=fun l=>(A9 ys l).trans hp.mem_iff
 have hdl:=tt ys
 have hdn:=EA ys
 have hd0 : bU ys ≠ []:=fun e=>by
  obtain ⟨x,hx⟩:=List.exists_mem_of_ne_nil _ h0
  have:=(hd1 x).2 hx
  rw [e] at this
  cases this
 generalize hD : bU ys = D at *
 have hid' : σ'[σ.length]? = some (some (.cells 135 zs)):=by rw [hσ]; simp [hτl]
 have hσl : σ'.length = σ.length + 1:=by rw [hσ]; simp [hτl]
 have hσe : Ext σ σ':=by rw [hσ]; exact hτe.set (Nat.le_refl _) _
 have hz : ∀ (i : Nat) (x : Int),D[i]? = some x → zs[i]? = some (.int .i64 x):=fun i x hx=>by
  have hi:=(List.getElem?_eq_some_iff.1 hx).1
  have : (zs.take D.length)[i]? = zs[i]?:=List.getElem?_take_of_lt hi
  rw [← this,hzt,List.getElem?_map,hx]; rfl
 clear hσ
 simp only [go_sem,simprocAttr]
 refine ah.at [4] (.of (by kernel_rfl)) (fun A=>A.st = σ') ?_ fun B hst=>?_
 ·refine ah.upto [4,13,14] (.of (by kernel_rfl)) D.length (fun i A=>A.env 15 = .int .i64 i ∧ A.st = σ') 0 (Nat.zero_le _) ?_ fun i B hi ⟨h15,hst⟩=>?_
  ·simp only [go_sem,simprocAttr]
   done
  by_cases hlt : i < D.length
  ·obtain ⟨a,ha⟩:=get_some hlt
   obtain ⟨b,hb⟩:=get_some (show i - 1 < D.length by omega)
   have hw : IntKind.i64.wrap ((i : Int) - 1) = (i : Int) - 1:=aF (by omega)
   have hn : ((i : Int) - 1).toNat = i - 1:=by omega
   have ham:=hc a ((hd1 a).1 (List.mem_of_getElem? ha))
   have hbm:=hc b ((hd1 b).1 (List.mem_of_getElem? hb))
   have ha0 : (a == 0) = false:=by simp [ham.1]
   simp only [go_sem,simprocAttr,h15,hst,hw,hn,Nat.zero_add,hz i a ha,hz (i - 1) b hb,Option.map_some,an hid',ar hid',ha0,Option.bind_some,Option.isSome_some,Option.getD_some]
   refine fun _=>⟨hlt,fun hg=>by omega,aB.fnG (fun _=>lu b (by omega)) ?_⟩
   simp only [go_sem,simprocAttr,h15,hst]
   refine aB.fnG (fun _=>lu a (by omega)) ?_
   simp only [go_sem,simprocAttr,h15,hst]
   refine ⟨fun hq=>?_,fun hq=>⟨hlt,aq hlt (by rw [av]; omega)⟩⟩
   refine bR.ret ?_
   simp only [go_sem,simprocAttr,hst]
   refine ⟨_,.refl _,by omega,hσe,.inr ⟨rfl,fun M=>?_⟩⟩
   simp only [Bool.and_eq_true,decide_eq_true_eq,beq_iff_eq] at hq
   obtain ⟨hi0,hab⟩:=hq
   have hne : b ≠ a:=hdn (i - 1) b a hb (by rw [Nat.sub_add_cancel (by omega)]; exact ha)
   have hneg : b = -a:=by omega
   have h1 : a ∈ c:=(hd1 a).1 (List.mem_of_getElem? ha)
   have h2 : -a ∈ c:=by rw [← hneg]; exact (hd1 b).1 (List.mem_of_getElem? hb)
   refine List.any_eq_true.2 ?_
   cases ht : xK M a with
   | true=>exact ⟨a,h1,ht⟩
   | false=>exact ⟨-a,h2,by rw [wu ham.1,ht]; rfl⟩
  ·have hd : decide ((i : Int) < (D.length : Int)) = false:=decide_eq_false (by omega)
   simp only [go_sem,simprocAttr,h15,hst,hd]
   try exact fun h=>absurd h hlt
 simp only [go_sem,simprocAttr,hst]
 refine bR.frz (e:=135) (te:=135) (id:=σ.length) (off:=0) (m:=D.length) (xs:=zs) 2 (by simp only [go_sem,simprocAttr]) (by simp only [go_sem,simprocAttr,hst]; exact hid') (by omega) (bR.ret ?_)
 simp only [go_sem,simprocAttr,hst]
 rw [hzt]
 exact ⟨_,.refl _,by simp; omega,hσe.set (Nat.le_refl _) _,.inl ⟨D,hd0,by omega,hd1,rfl⟩⟩
theorem zV (σ : ab) (id n : Nat) (cv : AV) (cls : List (List Int)) (hid : σ[id]? = some (sk n cv)) (hb : Bld σ cv 136 (cls.map dX)) (hn : n ≤ 200) (hc5 : cls.length < 5000) (c : List Int) (hw : wfC n c = true) (h0 : c ≠ []) (hl : c.length ≤ 1000) :
  aU prog W0 74 [.ptr 191 id 0 [],dX c] σ fun r σ'=>r = .bool true ∧ Fr (id :: bb cv) σ σ' ∧ ∃ cv' cls',σ'[id]? = some (sk n cv') ∧ Bld σ' cv' 136 (cls'.map dX) ∧ (∀ j ∈ bb cv',j ∈ bb cv ∨ σ.length ≤ j) ∧
   (∀ M,fC M cls' = (fC M cls && sT M c)) ∧ cls'.length ≤ cls.length + 1 ∧ ∀ d ∈ cls',d ∈ cls ∨ (d ≠ [] ∧ d.length ≤ c.length ∧ ∀ l,l ∈ d ↔ l ∈ c):=by
 refine cB [4] [] func74 rfl rfl ntmps74 rfl rfl fun hs=>?_
 have hc : ∀ l ∈ c,l ≠ 0 ∧ l.natAbs ≤ n:=fun l hl=>by
  have:=List.all_eq_true.1 hw l hl
  simpa [wfL] using this
 simp only [go_sem,simprocAttr]
 refine aj.reads (by simp only [go_sem,simprocAttr]) (Kd σ id n cv cls hid hb (by omega) hc5 c fun l hl=>by have:=(hc l hl).2; omega) ?_
 rw [hw]
 simp only [go_sem,simprocAttr]
 refine aj.goes (by simp only [go_sem,simprocAttr]) (ER σ c h0 hl fun l hl=>⟨(hc l hl).1,by have:=(hc l hl).2; omega⟩) fun r σ' ⟨hx,hr⟩=>?_
 have hidl:=(List.getElem?_eq_some_iff.1 hid).1
 have hid' : σ'[id]? = some (sk n cv):=by rw [(Fr.ext (F:=[]) hx).old id hidl (by simp),hid]
 have hb' : Bld σ' cv 136 (cls.map dX):=hb.ez fun j hj=>(Fr.ext (F:=[]) hx).old j (hb.lt j hj) (by simp)
 rcases hr with ⟨d,hd0,hdl,hp,rfl⟩ | ⟨rfl,hM⟩
 ·simp only [go_sem,simprocAttr]
  refine cU.both (fun _=>?_) (fun h=>by cases h)
  simp only [go_sem,simprocAttr,an hid',hb'.ok,hb'.un]
  refine cy.wh (σ:=σ') (by simp only [go_sem,simprocAttr]) 1048576 (by kernel_rfl) hb' (.lit _ _ _) (by simp; omega) fun v' σ'' ha=>?_
  have hf:=ha.fr
  have hidl':=(List.getElem?_eq_some_iff.1 hid').1
  have hid'' : σ''[id]? = some (sk n cv):=by rw [hf.old id hidl' (hb'.ne hid' (by simp)),hid']
  have hbv:=ha.bld
  simp only [go_sem,simprocAttr,an hid'',aL hid'',hbv.ok,hbv.un,hbv.fits]
  refine bR.ret ?_
  simp only [go_sem,simprocAttr]
  have hne : id ∉ bb v':=hbv.ne hid'' (by simp)
  refine ⟨_,.refl _,by have:=hf.len; have:=hx.le; simp; omega,rfl,?_,v',cls ++ [d],?_,?_,?_,?_,?_,?_⟩
  ·exact ((Fr.ext (F:=id :: bb cv) hx).trans (hf.mono (G:=id :: bb cv) fun j hj=>by simp [hj]) fun j hj=>.inl hj).set (.inl (by simp)) _
  ·have:=hf.len; simp [show id < σ''.length by omega]; rfl
  ·rw [List.map_append]
   exact hbv.ez fun j hj=>List.getElem?_set_ne (fun e=>hne (by rw [e]; exact hj))
  ·exact fun j hj=>(ha.bb hb' j hj).imp_right fun h=>by have:=hx.le; omega
  ·exact fun M=>by simp only [fC,List.all_append,List.all_cons,List.all_nil,Bool.and_true]; rw [tS (M:=M) hp]
  ·simp
  ·exact fun e he=>(List.mem_append.1 he).imp_right fun h=>by rw [List.mem_singleton.1 h]; exact ⟨hd0,hdl,hp⟩
 ·simp only [go_sem,simprocAttr]
  refine cU.both (fun h=>by cases h) (fun _=>?_)
  simp only [go_sem,simprocAttr]
  refine bR.ret ?_
  simp only [go_sem,simprocAttr]
  refine ⟨_,.refl _,hx.le,rfl,.ext hx,cv,cls,hid',hb',fun j hj=>.inl hj,fun M=>by rw [hM,Bool.and_true],by omega,fun d hd=>.inl hd⟩
end Go.Proofs.Tryz
end
section
namespace Go.Proofs.Tryz
open Go Go.Av
set_option maxRecDepth 10000
set_option maxHeartbeats 1000000
variable {W0 : World}
theorem EB {M : Nat → Bool} {c d : List Int} (h : ∀ l,l ∈ c ↔ l ∈ d) : sT M c = sT M d:=tS (M:=M) h
theorem js (l : List Pkg) (b : Pkg → Bool) : (aW l b).length ≤ l.length:=by
 unfold aW plB
 exact Nat.le_trans (List.length_filter_le _ _) (by simp)
theorem ir {l : List Pkg} {b : Pkg → Bool} {k : Nat} (h : k ∈ aW l b) : k < l.length:=by
 obtain ⟨q,h1,_⟩:=n5.1 h
 exact (List.getElem?_eq_some_iff.1 h1).1
theorem o6 (all : List Pkg) : ∀ c : Clause,(gx all c).length ≤ c.length * all.length
 | []=>by simp [gx]
 | a :: r=>by
  have:=o6 all r
  have h2:=js all fun q=>dY q a
  unfold gx at this ⊢
  rw [List.flatMap_cons,List.length_append,List.length_map,List.length_cons,Nat.succ_mul]
  omega
theorem yG (all : List Pkg) (c : Clause) (j : Nat) (a : Atom) (h : c[j]? = some a) : gx all (c.take (j + 1)) = gx all (c.take j) ++ (aW all fun q=>dY q a).map eg:=by
 rw [ak h]
 simp [gx]
theorem Hw {all : List Pkg} {i : Nat} (hi : i < all.length) (c : Clause) : wfC all.length (-eg i :: gx all c) = true:=by
 refine List.all_eq_true.2 fun l hl=>?_
 have h:=(HD hi c).1
 refine List.all_eq_true.1 h l ?_
 unfold sS
 rcases List.mem_cons.1 hl with rfl | hl
 ·simp
 ·exact List.mem_cons_of_mem _ (tx.1 hl)
theorem KL {all : List Pkg} {i : Nat} (c : Clause) (M : Nat → Bool) : sT M (-eg i :: gx all c) = sT M (sS all i c):=EB fun l=>by
 unfold sS
 rw [List.mem_cons,List.mem_cons,tx]
def Lr (n sid : Nat) : Option cM:=some (.cells 133 [.agg 133 [.int .i64 n,.ptr 191 sid 0 []]])
structure ji (τ st : ab) (aid sid n : Nat) (cv : AV) (cls : List (List Int)) : Prop where
 ext : Ext τ st
 alo : τ.length ≤ aid
 slo : τ.length ≤ sid
 ao : st[aid]? = some (Lr n sid)
 so : st[sid]? = some (sk n cv)
 bld : Bld st cv 136 (cls.map dX)
 clo : ∀ j ∈ bb cv,τ.length ≤ j
 ok : I6 n cls
theorem ji.more {τ st : ab} {aid sid n : Nat} {cv : AV} {cls : List (List Int)} (h : ji τ st aid sid n cv cls) (l : ab) : ji τ (st ++ l) aid sid n cv cls:=by
 have old : ∀ j,j < st.length → (st ++ l)[j]? = st[j]?:=fun j hj=>List.getElem?_append_left hj
 exact ⟨h.ext.app l,h.alo,h.slo,by rw [old _ (List.getElem?_eq_some_iff.1 h.ao).1,h.ao],by rw [old _ (List.getElem?_eq_some_iff.1 h.so).1,h.so],h.bld.ez fun j hj=>old j (h.bld.lt j hj),h.clo,h.ok⟩
theorem ji.add {τ st st' : ab} {aid sid n : Nat} {cv cv' : AV} {cls cls' : List (List Int)} {c : List Int} (h : ji τ st aid sid n cv cls) (hf : Fr (sid :: bb cv) st st') (hs : st'[sid]? = some (sk n cv')) (hb : Bld st' cv' 136 (cls'.map dX)) (hft : ∀ j ∈ bb cv',j ∈ bb cv ∨ st.length ≤ j)
  (hl : cls'.length ≤ 5000) (hd : ∀ d ∈ cls',d ∈ cls ∨ (d ≠ [] ∧ d.length ≤ c.length ∧ ∀ l,l ∈ d ↔ l ∈ c)) (hw : wfC n c = true) (hc : c.length ≤ 1048576) : ji τ st' aid sid n cv' cls':=by
 have hx:=h.ext.le
 have ne : aid ≠ sid:=fun e=>by have:=h.ao; rw [e,h.so] at this; simp [Lr,sk] at this
 refine ⟨hf.EW h.ext fun j hj=>?_,h.alo,h.slo,?_,hs,hb,fun j hj=>?_,⟨h.ok.small,hl,fun d hdm=>?_⟩⟩
 ·rcases List.mem_cons.1 hj with rfl | hj
  ·exact h.slo
  ·exact h.clo j hj
 ·rw [hf.old aid (List.getElem?_eq_some_iff.1 h.ao).1 (by simp [ne,h.bld.ne h.ao]),h.ao]
 ·rcases hft j hj with h1 | h1
  ·exact h.clo j h1
  ·omega
 ·rcases hd d hdm with h1 | ⟨h1,h2,h3⟩
  ·exact h.ok.wf d h1
  ·refine ⟨h1,by omega,fun l hl=>?_⟩
   exact ID.1 (List.all_eq_true.1 hw l ((h3 l).1 hl))
theorem Be (σ : ab) (all : List Pkg) (hp : ∀ p ∈ all,oK p) :
  aU prog W0 27 [bK all] σ fun r σ'=>Ext σ σ' ∧
   ((bO all ≠ 0 ∧ r = .tup [.nil,.int .i64 (bO all)]) ∨ (bO all = 0 ∧ all ≠ dP all ∧ r = .tup [.nil,.int .i64 1]) ∨
    (bO all = 0 ∧ all = dP all ∧ ∃ cls,r = .tup [UJ all.length cls,.int .i64 0] ∧ I6 all.length cls ∧ ∀ M,fC M cls = fC M (p9 all 0 all))):=by
 refine jQ [.tmp 2,.tmp 3] [8,13,17,2000036,2000037,2000038,2000006,2000122] func27 rfl rfl ntmps27 rfl rfl fun hs=>?_
 simp only [go_sem,simprocAttr]
 refine aj.fn (yK all hp) ?_
 by_cases h0 : bO all = 0
 ·rw [if_pos h0]
  simp only [go_sem,simprocAttr]
  refine aj.fn (yC all h0) ?_
  simp only [go_sem,simprocAttr]
  refine ⟨fun hne=>cJ.ret ?_,fun he=>?_⟩
  ·simp only [go_sem,simprocAttr]
   exact ⟨_,.refl _,.refl _,.inr (.inl ⟨h0,hne,rfl⟩)⟩
  rw [← he]
  have h24:=dM h0
  have hm:=fun p hp=>gI (dm h0 (p:=p) hp)
  simp only [go_sem,simprocAttr,bK,List.length_map]
  refine aj.goes (by simp only [go_sem,simprocAttr]) (JU σ all.length (by omega)) fun r σ1 ⟨hr,hσ⟩=>?_
  subst hr hσ
  simp only [go_sem,simprocAttr,List.length_map]
  have a0 : ji σ (σ ++ [sk all.length .au,Lr all.length σ.length]) (σ.length + 1) σ.length all.length .au [] :=
   ⟨(Ext.refl _).app _,by omega,Nat.le_refl _,by simp,by simp,.inl ⟨rfl,rfl⟩,by simp [bb],⟨by omega,by simp,by simp⟩⟩
  refine ah.at [6] (.of (by kernel_rfl)) (fun A=>∃ cv cls,ji σ A.st (σ.length + 1) σ.length all.length cv cls ∧ ∀ M,fC M cls = fC M (p9 all 0 all)) ?_ fun B ⟨cv,cls,ha,hM⟩=>?_
  ·refine ah.upto [0,4,6,39,40] (.of (by kernel_rfl)) all.length (fun i A=>A.env 41 = .int .i64 i ∧ ∃ cv cls,ji σ A.st (σ.length + 1) σ.length all.length cv cls ∧ (∀ M,fC M cls = fC M (p9 all 0 (all.take i))) ∧ cls.length ≤ i * 60) 0 (Nat.zero_le _) ?_ fun i B hi ⟨h41,cv,cls,ha,hM,hcl⟩=>?_
   ·simp only [go_sem,simprocAttr]
    exact ⟨.au,[],a0,fun M=>rfl,by simp⟩
   simp only [go_sem,simprocAttr,h41,List.length_map]
   refine ⟨fun hlt=>?_,fun hge=>?_⟩
   ·obtain ⟨p,hpi⟩:=get_some hlt
    have hpm:=qZ (dm h0 (List.mem_of_getElem? hpi))
    have hpg:=hm p (List.mem_of_getElem? hpi)
    simp only [ay hpi]
    simp only [go_sem,simprocAttr,ax,h41]
    refine ⟨hlt,aj.fn ((ua [p.pre,p.dep] (by simp) (by simp; omega)).cK (.cons (.lit _ _) .nil)) ?_⟩
    have efl : [p.pre,p.dep].flatten = p.pre ++ p.dep:=by simp
    rw [efl]
    have hpl2 : (p.pre ++ p.dep).length ≤ 24:=by simp; omega
    have hgd : ∀ c ∈ p.pre ++ p.dep,c.length ≤ 6:=fun c hc=>by
     rcases List.mem_append.1 hc with hc | hc
     ·exact (qt (hpg.pre.2 c hc)).2.1
     ·exact (qt (hpg.dep.2 c hc)).2.1
    generalize hD : p.pre ++ p.dep = D at hpl2 hgd ⊢
    clear efl
    have hwn : IntKind.i64.wrap (-(((i + 1 : Nat) : Int))) = -eg i:=by rw [aF (by omega)]; rfl
    have hws : IntKind.i64.wrap ((i : Int) + 1) = ((i + 1 : Nat) : Int):=by rw [aF (by omega)]; omega
    simp only [go_sem,simprocAttr,aC,List.length_map,h41]
    refine ah.at [0,4,6,7,8,39,40,41] (.of (by kernel_rfl)) (fun A=>∃ cv cls',ji σ A.st (σ.length + 1) σ.length all.length cv cls' ∧ (∀ M,fC M cls' = (fC M (p9 all 0 (all.take i)) && fC M (D.map (sS all i)))) ∧ cls'.length ≤ i * 60 + 24) ?_ fun B2 ⟨cv2,cls2,ha2,hM2,hcl2⟩=>?_
    ·refine ah.upto [0,4,6,7,8,39,40,41,51,52] (.of (by kernel_rfl)) D.length (fun j A=>A.env 53 = .int .i64 j ∧ ∃ cv cls',ji σ A.st (σ.length + 1) σ.length all.length cv cls' ∧ (∀ M,fC M cls' = (fC M (p9 all 0 (all.take i)) && fC M ((D.take j).map (sS all i)))) ∧ cls'.length ≤ i * 60 + j) 0 (Nat.zero_le _) ?_ fun j B2 hj ⟨h53,cv2,cls2,ha2,hM2,hcl2⟩=>?_
     ·simp only [go_sem,simprocAttr]
      exact ⟨cv,cls,ha.more _,fun M=>by rw [hM M]; simp [fC],by omega⟩
     simp only [go_sem,simprocAttr,h53,List.length_map]
     refine ⟨fun hlt2=>?_,fun hge2=>?_⟩
     ·obtain ⟨c,hc⟩:=get_some hlt2
      have hc6:=hgd c (List.mem_of_getElem? hc)
      simp only [ay hc]
      simp only [go_sem,simprocAttr,h53,hws,hwn,List.length_map,aH]
      refine ⟨hlt2,?_⟩
      refine ah.at [0,4,6,7,8,39,40,41,51,52,53] (.of (by kernel_rfl)) (fun A=>∃ v,A.env 11 = v ∧ aX B2.st A.st v 135 ((-eg i :: gx all c).map (.int .i64))) ?_ fun B3 ⟨v,h11,hv⟩=>?_
      ·refine ah.upto [0,4,6,7,8,39,40,41,51,52,53,61,62] (.of (by kernel_rfl)) c.length (fun k A=>A.env 63 = .int .i64 k ∧ ∃ v,A.env 11 = v ∧ aX B2.st A.st v 135 ((-eg i :: gx all (c.take k)).map (.int .i64))) 0 (Nat.zero_le _) ?_ fun k B3 hk ⟨h63,v,h11,hv⟩=>?_
       ·simp only [go_sem,simprocAttr]
        exact ⟨_,rfl,⟨.inr (.inl rfl),.refl _,fun t h=>by cases h⟩⟩
       simp only [go_sem,simprocAttr,h63,h11,List.length_map,hv.ok,hv.un]
       refine ⟨fun hlt3=>⟨hlt3,?_⟩,fun hge3=>?_⟩
       ·obtain ⟨a,hq⟩:=get_some hlt3
        simp only [ay hq]
        simp only [go_sem,simprocAttr,h63,h11,hv.ok,hv.un]
        refine aj.fn (vV all (by omega) a) ?_
        have hpl:=js all fun q=>dY q a
        have hlm:=o6 all (c.take k)
        rw [List.length_take] at hlm
        have hlm2 : (gx all (c.take k)).length ≤ 144:=Nat.le_trans hlm (Nat.mul_le_mul (show min k c.length ≤ 6 by omega) h24)
        simp only [go_sem,simprocAttr,h63,h11,hv.ok,hv.un,l9,List.length_map]
        refine ah.ats [0,4,6,7,8,39,40,41,51,52,53,61,62,63] (.of (by kernel_rfl)) (fun A=>∃ v,A.env 11 = v ∧ aX B2.st A.st v 135 ((-eg i :: gx all (c.take (k + 1))).map (.int .i64))) ?_ fun B4 ⟨v,h11,hv⟩=>?_
        ·refine ah.upto [0,4,6,7,8,39,40,41,51,52,53,61,62,63,69,70] (.of (by kernel_rfl)) (aW all fun q=>dY q a).length (fun m A=>A.env 71 = .int .i64 m ∧ ∃ v,A.env 11 = v ∧ aX B2.st A.st v 135 ((-eg i :: (gx all (c.take k) ++ (((aW all fun q=>dY q a)).take m).map eg)).map (.int .i64))) 0 (Nat.zero_le _) ?_ fun m B4 hm ⟨h71,v,h11,hv⟩=>?_
         ·simp only [go_sem,simprocAttr]
          exact ⟨_,rfl,by rw [List.take_zero,List.map_nil,List.append_nil,h11]; exact hv.more _⟩
         simp only [go_sem,simprocAttr,h71,h11,List.length_map,hv.ok,hv.un]
         refine ⟨fun hlt4=>⟨hlt4,?_⟩,fun hge4=>?_⟩
         ·obtain ⟨x,hx⟩:=get_some hlt4
          have hxl:=ir (List.mem_of_getElem? hx)
          have hwx : IntKind.i64.wrap ((x : Int) + 1) = eg x:=by rw [aF (by omega)]; rfl
          simp only [ay hx]
          simp only [go_sem,simprocAttr,h71,h11,hv.ok,hv.un,hwx]
          refine cy.own 1048576 (by kernel_rfl) hv.bld (.lit _ _ _) (by simp; omega) fun v' σ' ha'=>?_
          have hv':=hv.app ha'
          simp only [go_sem,simprocAttr,h71,hv'.ok,hv'.un]
          refine ⟨hlt4,aq hlt4 (by rw [av]; omega),_,rfl,?_⟩
          rw [ak hx]
          simpa using hv'
         ·rw [List.take_of_length_le hge4] at hv
          rw [yG all c k a hq]
          exact ⟨_,rfl,hv⟩
        simp only [go_sem,simprocAttr,h63,h11]
        exact ⟨hlt3,aq hlt3 (by rw [av]; omega),_,rfl,hv⟩
       ·rw [List.take_of_length_le hge3] at hv
        exact ⟨_,rfl,hv⟩
      have ha3 : ji σ B3.st (σ.length + 1) σ.length all.length cv2 cls2:=by rw [hv.ext.eq]; exact ha2.more _
      have k1:=Hw hlt c
      have k2:=o6 all c
      have k3 : (gx all c).length ≤ 144:=Nat.le_trans k2 (Nat.mul_le_mul hc6 h24)
      simp only [go_sem,simprocAttr,h11,hv.ok,hv.un,an ha3.ao]
      refine aj.goes (by simp only [go_sem,simprocAttr]) ((zV B3.st σ.length all.length cv2 cls2 ha3.so ha3.bld (by omega) (by omega) (-eg i :: gx all c) k1 (by simp) (by simp; omega)).cK (.cons (.refl _) (.cons hv.cK .nil))) fun r σ4 ⟨hr,hf,cv4,cls4,hso,hbl,hft,hM4,hcl4,hd4⟩=>?_
      have ha4:=ha3.add hf hso hbl hft (by omega) hd4 k1 (by simp; omega)
      simp only [go_sem,simprocAttr,h53]
      refine ⟨hlt2,aq hlt2 (by rw [av]; omega),cv4,cls4,ha4,fun M=>?_,by omega⟩
      rw [hM4,hM2,KL,ak hc,List.map_append,nt,Bool.and_assoc]
      simp [fC]
     ·rw [List.take_of_length_le hge2] at hM2
      exact ⟨cv2,cls2,ha2,hM2,by omega⟩
    simp only [go_sem,simprocAttr,h41,List.length_map]
    have hil2 : (all.take i).length = i:=by rw [List.length_take]; omega
    rw [← List.map_take]
    refine ⟨⟨Nat.zero_le _,hi⟩,?_⟩
    refine ah.ats [0,4,6,39,40,41] (.of (by kernel_rfl)) (fun A=>∃ cv cls',ji σ A.st (σ.length + 1) σ.length all.length cv cls' ∧ (∀ M,fC M cls' = fC M (p9 all 0 (all.take (i + 1)))) ∧ cls'.length ≤ i * 60 + 24 + i) ?_ fun B5 ⟨cv5,cls5,ha5,hM5,hcl5⟩=>?_
    ·refine ah.upto [0,4,6,7,8,39,40,41,91,92] (.of (by kernel_rfl)) i (fun k A=>A.env 93 = .int .i64 k ∧ ∃ cv cls',ji σ A.st (σ.length + 1) σ.length all.length cv cls' ∧ (∀ M,fC M cls' = (fC M cls2 && fC M (uz p i 0 ((all.take i).take k)))) ∧ cls'.length ≤ i * 60 + 24 + k) 0 (Nat.zero_le _) ?_ fun k B6 hk ⟨h93,cv6,cls6,ha6,hM6,hcl6⟩=>?_
     ·simp only [go_sem,simprocAttr]
      exact ⟨cv2,cls2,ha2,fun M=>by simp [uz,fC],by omega⟩
     simp only [go_sem,simprocAttr,h93,List.length_map]
     refine ⟨fun hlt6=>⟨hlt6,?_⟩,fun hge6=>?_⟩
     ·obtain ⟨q,hq⟩:=get_some hlt6
      simp only [ay hq]
      simp only [go_sem,simprocAttr,ax,h93,h41]
      refine aB.fnG (fun _=>yj p q) ?_
      have hcs:=ub (p:=p) (i:=i) (all.take i) 0 k q hq
      rw [Nat.zero_add] at hcs
      have hki : k < i:=by omega
      have hwk : IntKind.i64.wrap ((k : Int) + 1) = ((k + 1 : Nat) : Int):=by rw [aF (by omega)]; omega
      have hwkn : IntKind.i64.wrap (-(((k + 1 : Nat) : Int))) = -eg k:=by rw [aF (by omega)]; rfl
      simp only [go_sem,simprocAttr,h93,h41]
      refine ⟨fun hb=>?_,fun hb=>?_⟩
      ·have ha7:=ha6.more [none]
       obtain ⟨w1,w2⟩:=GD hlt hki
       simp only [go_sem,simprocAttr,h93,h41,an ha7.ao,hws,hwn,hwk,hwkn]
       refine aj.goes (by simp only [go_sem,simprocAttr]) ((zV (B6.st ++ [none]) σ.length all.length cv6 cls6 ha7.so ha7.bld (by omega) (by omega) [-eg i,-eg k] w1 (by simp) (by simp)).cK (.cons (.refl _) (.cons (.lit _ _) .nil))) fun r σ8 ⟨hr,hf,cv8,cls8,hso,hbl,hft,hM8,hcl8,hd8⟩=>?_
       have ha8:=ha7.add hf hso hbl hft (by omega) hd8 w1 (by simp)
       simp only [go_sem,simprocAttr,h93]
       refine ⟨hki,aq hki (by rw [av]; omega),cv8,cls8,ha8,fun M=>?_,by omega⟩
       rw [hM8,hM6,hcs,hb,if_pos rfl,nt,Bool.and_assoc]
       simp [fC]
      ·refine ⟨by omega,aq hki (by rw [av]; omega),cv6,cls6,ha6.more _,fun M=>?_,by omega⟩
       rw [hM6,hcs,hb]
       simp
     ·rw [List.take_of_length_le hge6] at hM6
      refine ⟨cv6,cls6,ha6,fun M=>?_,by omega⟩
      rw [hM6,hM2,uh all all 0 i p hpi,nt,JN,nt,Nat.zero_add,hD,Bool.and_assoc]
    simp only [go_sem,simprocAttr,h41]
    exact ⟨hlt,aq hlt (by rw [av]; omega),cv5,cls5,ha5,hM5,by omega⟩
   ·rw [List.take_of_length_le hge] at hM
    exact ⟨cv,cls,ha,hM⟩
  simp only [go_sem,simprocAttr]
  have hsl:=(List.getElem?_eq_some_iff.1 ha.so).1
  have hcl:=(List.getElem?_eq_some_iff.1 ha.ao).1
  have hsub : Sub (.agg 191 [.int .i64 all.length,cv]) (.agg 191 [.int .i64 all.length,xB cls]):=by
   refine .agg rfl fun i x y hx hy=>?_
   match i with
   | 0=>cases hx; cases hy; exact .refl _
   | 1 =>
    cases hx
    cases hy
    rcases ha.bld with ⟨rfl,h⟩ | rfl | ⟨t,rfl,_⟩
    ·unfold xB; rw [h]; exact .au _
    ·exact .lit _ _
    ·exact .own _ _ _
   | i + 2=>simp at hx
  refine cJ.via (.inl rfl) (.cK σ.length 0 (zs:=[.agg 191 [.int .i64 all.length,cv]]) (z':=.agg 191 [.int .i64 all.length,xB cls]) (by simp only [go_sem,simprocAttr]; exact ha.so) rfl hsub
   (.AI (σ.length + 1) 0 [1] (te:=133) (t':=191) (t:=130) (o:=1) (id:=σ.length) (zs:=[.agg 133 [.int .i64 all.length,.ptr 191 σ.length 0 []]]) (x:=.agg 191 [.int .i64 all.length,xB cls]) (by simp only [go_sem,simprocAttr]; rw [List.getElem?_set_ne (by omega)]; exact ha.ao) rfl rfl (by simp only [go_sem,simprocAttr]; rw [List.getElem?_set_self hsl]) (by omega) (by kernel_rfl)
    (.pt 2 (t:=133) (id:=σ.length + 1) (x:=.agg 133 [.int .i64 all.length,HR all.length cls]) (by simp only [go_sem,simprocAttr]) (by simp only [go_sem,simprocAttr]; rw [List.getElem?_set_self (by simpa using hcl)]; rfl) (.refl _)))) ?_
  simp only [go_sem,simprocAttr]
  refine ⟨_,.refl _,by have:=ha.ext.le; simp; omega,?_,.inr (.inr ⟨h0,cls,rfl,ha.ok,hM⟩)⟩
  exact (((ha.ext.set (Nat.le_refl _) _).set (Nat.le_refl _) _).set (by omega) _).set (by omega) _
 ·rw [if_neg h0]
  simp only [go_sem,simprocAttr]
  refine ⟨fun _=>cJ.ret ?_,fun h=>absurd h h0⟩
  simp only [go_sem,simprocAttr]
  exact ⟨_,.refl _,.refl _,.inl ⟨h0,rfl⟩⟩
end Go.Proofs.Tryz
end
section
namespace Go.Av
theorem kB {l : List Nat} (h : ∀ i ∈ l,i < 32) : bD l < 4294967296:=by
 induction l with
 | nil=>decide
 | cons a r ih =>
  have h1 : 2 ^ a < 2 ^ 32:=Nat.pow_lt_pow_right (by decide) (h a (by simp))
  have h2 : bD r < 2 ^ 32:=ih fun i hi=>h i (by simp [hi])
  exact Nat.or_lt_two_pow h1 h2
theorem lr {i : Nat} (h : i < 32) : 2 ^ i < 4294967296:=by
 have h1 : 2 ^ i < 2 ^ 32:=Nat.pow_lt_pow_right (by decide) h
 simpa using h1
theorem GJ {a b : Nat} (h1 : a < 4294967296) (h2 : b < 4294967296) : a ||| b < 4294967296:=Nat.or_lt_two_pow (n:=32) h1 h2
theorem tY {n : Nat} {f : Nat → Bool} (h : n ≤ 32) : bitsOf n f < 4294967296:=kB fun i hi=>by
 have:=List.mem_range.1 (List.mem_filter.1 hi).1
 omega
theorem oT (l : List Nat) (x : Nat) : bD (l ++ [x]) = bD l ||| 2 ^ x:=by
 refine Nat.eq_of_testBit_eq fun i=>?_
 rw [cq,Nat.testBit_or,cq,Nat.testBit_two_pow,Bool.eq_iff_iff]
 simp only [List.mem_append,List.mem_singleton,decide_eq_true_eq,Bool.or_eq_true]
 exact or_congr Iff.rfl eq_comm
theorem EO (all : List Pkg) : eI all [] = 0:=by
 refine Nat.eq_of_testBit_eq fun i=>?_
 unfold eI
 rw [fq,Nat.zero_testBit]
 unfold rT
 cases all[i]? <;> simp
end Go.Av
namespace Go.Proofs.Tryz
open Go Go.Av
set_option maxRecDepth 10000
variable {W0 : World}
theorem BC (all : List Pkg) (c : Clause) (a : Atom) : eI all (c ++ [a]) = eI all c ||| bD (aW all fun q=>dY q a):=by
 refine Nat.eq_of_testBit_eq fun i=>?_
 unfold eI
 rw [Nat.testBit_or,fq,fq,cq,Bool.eq_iff_iff]
 simp only [Bool.or_eq_true,Bool.and_eq_true,decide_eq_true_eq]
 unfold aW plB
 simp only [List.mem_filter,List.mem_range]
 unfold rT
 cases h : all[i]? with
 | none =>
  have:=List.getElem?_eq_none_iff.1 h
  simp
 | some q =>
  simp only [List.any_append,List.any_cons,List.any_nil,Bool.or_false,Bool.or_eq_true]
  constructor
  ·rintro ⟨h1,h2 | h2⟩
   ·exact .inl ⟨h1,h2⟩
   ·exact .inr ⟨h1,h2⟩
  ·rintro (⟨h1,h2⟩ | ⟨h1,h2⟩)
   ·exact ⟨h1,.inl h2⟩
   ·exact ⟨h1,.inr h2⟩
def bZ (n : Nat) : AV:=.int .u32 (n : Nat)
def dN (l : List Nat) : AV:=.sl 100 (l.map bZ)
@[go_sem] theorem SC (gd : Option Bool) (l : List Nat) : okM gd (dN l) = True:=eq_true trivial
@[go_sem] theorem PR (l : List Nat) : unm (dN l) = dN l:=rfl
theorem rF (l : List Nat) : aN 0 (dN l):=.sl fun x hx=>by
 obtain ⟨y,_,rfl⟩:=List.mem_map.1 hx
 exact .int _ _
theorem AB (all : List Pkg) (h24 : all.length ≤ 24) (l : List Clause) (hl : l.length ≤ 1048576) : af prog W0 101 [eL all,aC l] (dN (l.map (eI all))):=by
 refine ai [4] [10] func101 rfl rfl ntmps101 rfl rfl (rF _) fun hs σ=>?_
 have hcs : ∀ c ∈ l,Small (aH c):=fun c hc=>(bu (hs _ (List.mem_cons_of_mem _ (List.mem_cons_self ..)))).2 c hc
 simp only [go_sem,simprocAttr,aC,List.length_map]
 refine ah.at [] (.of (by kernel_rfl)) (fun A=>∃ v,A.env 5 = v ∧ aX σ A.st v 100 ((l.map (eI all)).map bZ)) ?_ fun B ⟨v,h5,hb⟩=>?_
 ·refine ah.upto [0,13,14] (.of (by kernel_rfl)) l.length (fun i A=>∃ v,A.env 5 = v ∧ A.env 15 = .int .i64 i ∧ aX σ A.st v 100 (((l.take i).map (eI all)).map bZ)) 0 (Nat.zero_le _) ?_ fun i B hi ⟨v,h5,h15,hb⟩=>?_
  ·simp only [go_sem,simprocAttr]
   exact ⟨_,rfl,aX.nil (.refl _) _⟩
  simp only [go_sem,simprocAttr,h5,h15,hb.ok,hb.un,List.length_map]
  refine ⟨fun hlt=>⟨hlt,?_⟩,fun hlt=>?_⟩
  ·obtain ⟨c,hc⟩:=get_some hlt
   simp only [ay hc]
   simp only [go_sem,simprocAttr,aH,h5,h15,hb.ok,hb.un,List.length_map]
   have hcl : c.length ≤ maxLen:=(bu (hcs c (List.mem_of_getElem? hc))).1
   refine ah.at [0,5,13,14,15] (.of (by kernel_rfl)) (fun A=>A.env 8 = bZ (eI all c) ∧ aX σ A.st v 100 (((l.take i).map (eI all)).map bZ)) ?_ fun B2 ⟨h8,hb2⟩=>?_
   ·refine ah.upto [0,5,13,14,15,19,20] (.of (by kernel_rfl)) c.length (fun j A=>A.env 21 = .int .i64 j ∧ A.env 8 = bZ (eI all (c.take j)) ∧ aX σ A.st v 100 (((l.take i).map (eI all)).map bZ)) 0 (Nat.zero_le _) ?_ fun j B2 hj ⟨h21,h8,hb2⟩=>?_
    ·simp only [go_sem,simprocAttr]
     exact ⟨by rw [List.take_zero,EO]; rfl,hb⟩
    simp only [go_sem,simprocAttr,h21,h8,List.length_map]
    refine ⟨fun hlt2=>⟨hlt2,?_⟩,fun hlt2=>⟨by rw [List.take_of_length_le hlt2],hb2⟩⟩
    obtain ⟨a,ha⟩:=get_some hlt2
    simp only [ay ha]
    simp only [go_sem,simprocAttr,h21,h8]
    refine aj.fn (vV all (by omega) a) ?_
    simp only [go_sem,simprocAttr,h21,h8,l9,List.length_map]
    refine ah.ats [0,5,13,14,15,19,20,21] (.of (by kernel_rfl)) (fun A=>A.env 8 = bZ (eI all (c.take (j + 1))) ∧ aX σ A.st v 100 (((l.take i).map (eI all)).map bZ)) ?_ fun B3 ⟨h8,hb3⟩=>?_
    ·refine ah.upto [0,5,13,14,15,19,20,21,27,28] (.of (by kernel_rfl)) (aW all fun q=>dY q a).length (fun m A=>A.env 29 = .int .i64 m ∧ A.env 8 = bZ (eI all (c.take j) ||| bD ((aW all fun q=>dY q a).take m)) ∧ aX σ A.st v 100 (((l.take i).map (eI all)).map bZ)) 0 (Nat.zero_le _) ?_ fun m B3 hm ⟨h29,h8,hb3⟩=>?_
     ·simp only [go_sem,simprocAttr]
      exact ⟨by rw [List.take_zero,bD,Nat.or_zero]; exact h8,hb2.more _⟩
     unfold bZ at h8
     simp only [go_sem,simprocAttr,h29,h8,List.length_map]
     have hpl:=js all fun q=>dY q a
     refine ⟨fun hlt3=>⟨hlt3,?_⟩,fun hlt3=>⟨?_,hb3⟩⟩
     ·obtain ⟨x,hx⟩:=get_some hlt3
      have hxl:=ir (List.mem_of_getElem? hx)
      simp only [ay hx]
      simp only [go_sem,simprocAttr,h29,h8]
      refine aj.fn (oN x (by omega)) ?_
      have hm1 : bD ((aW all fun q=>dY q a).take m) < 4294967296:=kB fun y hy=>by
       have:=ir (List.mem_of_mem_take hy)
       omega
      have hor:=gH (eI all (c.take j) ||| bD ((aW all fun q=>dY q a).take m)) (2 ^ x) (GJ (tY (by omega)) hm1) (lr (by omega))
      simp only [go_sem,simprocAttr,h29,h8,hor]
      refine ⟨hlt3,aq hlt3 (by rw [av]; omega),?_,hb3⟩
      rw [ak hx,oT,Nat.or_assoc]
      rfl
     ·rw [ak ha,BC,List.take_of_length_le hlt3]
      rfl
    simp only [go_sem,simprocAttr,h21,h8]
    exact ⟨hlt2,aq hlt2 hcl,hb3⟩
   unfold bZ at h8
   simp only [go_sem,simprocAttr,h5,h15,h8,hb2.ok,hb2.un]
   refine cy.own 1048576 (by kernel_rfl) hb2.bld (.lit _ _ _) (by rw [List.length_map,List.length_map,List.length_take]; simp; omega) fun v' σ' ha'=>?_
   have hb':=hb2.app ha'
   simp only [go_sem,simprocAttr,h5,h15,hb'.ok,hb'.un]
   refine ⟨hlt,_,rfl,aq hlt (by rw [av]; omega),?_⟩
   rw [ak hc,List.map_append,List.map_append]
   exact hb'
  ·rw [List.take_of_length_le hlt] at hb
   exact ⟨_,rfl,hb⟩
 simp only [go_sem,simprocAttr,h5,hb.ok,hb.un]
 exact ⟨hb.cK,hb.ext⟩
end Go.Proofs.Tryz
end
section
namespace Go.Av
open Go
theorem Bld.ixV {P : Program} {st : ab} {v x : AV} {e : TypeId} {xs : List AV} {i : Nat} (h : Bld st v e xs) (hx : xs[i]? = some x) (t : TypeId) : dG P t (i : Int) v = .loc e x:=by
 rcases h with ⟨rfl,rfl⟩ | rfl | ⟨tok,rfl,_⟩
 ·simp at hx
 ·show AV.loc e (atV xs i) = _
  rw [show atV xs (i : Int) = x by unfold atV; simp [hx]]
 ·show AV.loc e (atV xs i) = _
  rw [show atV xs (i : Int) = x by unfold atV; simp [hx]]
theorem Bld.ixC {P : Program} {st σ : ab} {v x : AV} {e : TypeId} {xs : List AV} {i : Nat} (h : Bld st v e xs) (hx : xs[i]? = some x) (t : TypeId) (gd : Option Bool) : dE P gd σ t (i : Int) v = (elT P t = some e ∧ 0 < ae P e ∧ imp gd (0 ≤ (i : Int) ∧ (i : Int).toNat < xs.length)):=by
 rcases h with ⟨rfl,rfl⟩ | rfl | ⟨tok,rfl,_⟩
 ·simp at hx
 ·rfl
 ·rfl
end Go.Av
namespace Go.Proofs.Tryz
open Go Go.Av
set_option maxRecDepth 10000
set_option maxHeartbeats 1000000
variable {W0 : World}
variable {a0 a1 a3 a4 a5 a6 a7 a8 a9 a10 a11 a12 : AV}
theorem Bz (f : Nat → Bool) (k : Nat) : bitsOf (k + 1) f = if f k = true then bitsOf k f ||| 2 ^ k else bitsOf k f:=by
 unfold bitsOf
 rw [List.range_succ,List.filter_append,List.filter_cons,List.filter_nil]
 split
 ·rw [oT]
 ·rw [List.append_nil]
def xa (s : List aK) (p : Pkg) : Bool:=match eF s p.name with
 | some x=>!bt x.pkg.ver p.ver
 | none=>false
def fG (all : List Pkg) (s : List aK) (l : List aM) (i : Nat) (p : Pkg) : AV:=.agg 102 [.bool (kM l s p),bZ (fF all i),dN ((p.pre ++ p.dep).map (eI all)),dN (p.rcm.map (eI all)),.int .i64 (cA all p),.bool (xa s p)]
theorem Ed (all : List Pkg) (s : List aK) (l : List aM) (i : Nat) (p : Pkg) : aN 0 (fG all s l i p):=.agg fun x hx=>by
 simp only [List.mem_cons,List.not_mem_nil,or_false] at hx
 rcases hx with rfl | rfl | rfl | rfl | rfl | rfl
 ·exact .bool _
 ·exact .int _ _
 ·exact rF _
 ·exact rF _
 ·exact .int _ _
 ·exact .bool _
theorem C5 (σ : ab) (id : Nat) (all : List Pkg) (l : List aM) (s : List aK) (i : Nat) (p : Pkg) (hi : all[i]? = some p) (h24 : all.length ≤ 24) (hp12 : p.pre.length ≤ 12 ∧ p.dep.length ≤ 12) (hr12 : p.rcm.length ≤ 12) (hm : ∀ x ∈ s,bn x.pkg = 0) (hs1 : s.length ≤ 1024) (hl : l.length ≤ 1024) (hb : Bld σ a0 54 (all.map ax)) (hid : σ[id]? = some (cg a0 (bq s) (bA l) a3 a4 a5 a6 a7 a8 a9 a10 a11 a12)) :
  aU prog W0 45 [.ptr 96 id 0 [],eL all,.int .i64 i] σ fun r σ'=>r = fG all s l i p ∧ σ' = σ:=by
 have hidl:=(List.getElem?_eq_some_iff.1 hid).1
 have hil:=(List.getElem?_eq_some_iff.1 hi).1
 have hmo : ∀ τ,(σ ++ τ)[id]? = some (cg a0 (bq s) (bA l) a3 a4 a5 a6 a7 a8 a9 a10 a11 a12):=fun τ=>by rw [List.getElem?_append_left hidl,hid]
 have hpc:=ua (W0:=W0) [p.pre,p.dep] (by simp) (by simp; omega)
 have efl : [p.pre,p.dep].flatten = p.pre ++ p.dep:=by simp
 rw [efl] at hpc
 refine vb [.cell 6 102] [7,10,2000008,4000002,4000007,4000010] func45 rfl rfl ntmps45 rfl rfl (dJ (Nat.zero_le _) (Ed _ _ _ _ _)) fun hs=>?_
 have hid0:=fun τ=>hmo τ
 unfold cg at hid0
 have hix : (all.map ax)[i]? = some (ax p):=by rw [List.getElem?_map,hi]; rfl
 simp only [go_sem,simprocAttr,an (hid0 _),ar (hid0 _),hb.ok,hb.un,hb.ixV hix,hb.ixC hix,List.length_map]
 refine ⟨hil,?_⟩
 have hnw:=Eh (W0:=W0) p all (by omega)
 unfold ax at hnw
 simp only [go_sem,simprocAttr,ax]
 refine ⟨.of (by kernel_rfl),aB.fn (hpc.cK (.cons (.lit _ _) .nil)) ?_⟩
 simp only [go_sem,simprocAttr]
 refine aB.fn (AB all h24 (p.pre ++ p.dep) (by simp; omega)) ?_
 simp only [go_sem,simprocAttr]
 refine aB.fn (AB all h24 p.rcm (by omega)) ?_
 simp only [go_sem,simprocAttr,an (hid0 _),ar (hid0 _),hb.ok,hb.un]
 refine aB.fn (hnw.cK (.cons (.refl _) (.cons hb.cK .nil))) ?_
 have hfs : ∀ l,bf prog 93 (dN l) = true:=fun l=>by kernel_rfl
 have hf1:=fun l=>hfs l
 unfold dN at hf1
 generalize hN : dN ((p.pre ++ p.dep).map (eI all)) = vN
 generalize hW : dN (p.rcm.map (eI all)) = vW
 have n1 : cD vN:=by rw [← hN]; trivial
 have n2 : cD vW:=by rw [← hW]; trivial
 have f1 : bf prog 93 vN = true:=by rw [← hN]; exact hfs _
 have f2 : bf prog 93 vW = true:=by rw [← hW]; exact hfs _
 simp only [go_sem,simprocAttr,an (hid0 _),ar (hid0 _),hb.ok,hb.un,bP n1,bP n2,cp n1,cp n2,f1,f2,hb.len,hb.gT,List.length_map]
 generalize hst0 : (σ ++ [some (cM.cells 102 [.agg 102 [.bool false,.int .u32 0,.au,.au,.int .i64 0,.bool false]]),none,some (cM.cells 102 [.agg 102 [.bool false,.int .u32 0,vN,vW,.int .i64 (cA all p),.bool false]])]) = st0
 refine ah.at [0,1,6,7,8] (.of (by kernel_rfl)) (fun A=>∃ τ : ab,A.st = σ ++ τ ∧ A.st[σ.length]? = some (some (.cells 102 [.agg 102 [.bool false,.int .u32 0,.au,.au,.int .i64 0,.bool false]])) ∧ A.st[σ.length + 2]? = some (some (.cells 102 [.agg 102 [.bool false,bZ (fF all i),vN,vW,.int .i64 (cA all p),.bool false]]))) ?_ fun B ⟨τ,hst,c1,c2⟩=>?_
 ·refine ah.upto [0,1,6,7,8,42,43] (.of (by kernel_rfl)) all.length (fun k A=>A.env 44 = .int .i64 k ∧ ∃ τ : ab,A.st = σ ++ τ ∧ A.st[σ.length]? = some (some (.cells 102 [.agg 102 [.bool false,.int .u32 0,.au,.au,.int .i64 0,.bool false]])) ∧ A.st[σ.length + 2]? = some (some (.cells 102 [.agg 102 [.bool false,bZ (bitsOf k (gm all i)),vN,vW,.int .i64 (cA all p),.bool false]]))) 0 (Nat.zero_le _) ?_ fun k B hk ⟨h44,τ,hst,c1,c2⟩=>?_
  ·simp only [go_sem,simprocAttr]
   refine ⟨_,hst0.symm,by rw [← hst0]; simp,by rw [← hst0]; simp; rfl⟩
  simp only [go_sem,simprocAttr,h44]
  refine ⟨fun hlt=>?_,fun hge=>?_⟩
  ·obtain ⟨q,hq⟩:=get_some hlt
   have hixq : (all.map ax)[k]? = some (ax q):=by rw [List.getElem?_map,hq]; rfl
   have hcl:=yj (W0:=W0) p q
   have hca : gm all i k = fb p q:=by unfold gm; rw [hi,hq]
   unfold ax at hcl hixq
   simp only [go_sem,simprocAttr,h44,hb.ok,hb.un,hb.ixV hixq,hb.ixC hixq,List.length_map]
   have hl0 : σ.length < B.st.length:=(List.getElem?_eq_some_iff.1 c1).1
   have hl2 : σ.length + 2 < B.st.length:=(List.getElem?_eq_some_iff.1 c2).1
   have d1 : (B.st ++ [none])[σ.length]? = some (some (.cells 102 [.agg 102 [.bool false,.int .u32 0,.au,.au,.int .i64 0,.bool false]])):=by rw [List.getElem?_append_left hl0]; exact c1
   have d2 : (B.st ++ [none])[σ.length + 2]? = some (some (.cells 102 [.agg 102 [.bool false,.int .u32 (bitsOf k (gm all i) : Nat),vN,vW,.int .i64 (cA all p),.bool false]])):=by rw [List.getElem?_append_left hl2]; exact c2
   have hst' : B.st ++ [none] = σ ++ (τ ++ [none]):=by rw [hst,List.append_assoc]
   have hor:=gH (bitsOf k (gm all i)) (2 ^ k) (tY (by omega)) (lr (by omega))
   have hsu:=Bz (gm all i) k
   rw [hca] at hsu
   refine ⟨hlt,aj.fn hcl ?_⟩
   simp only [go_sem,simprocAttr,h44]
   refine ⟨fun hc=>?_,fun hc=>?_⟩
   ·rw [if_pos hc] at hsu
    simp only [go_sem,simprocAttr,an d2,ar d2]
    refine ⟨.of (by kernel_rfl),aB.fn (oN k (by omega)) ?_⟩
    simp only [go_sem,simprocAttr,h44,an d2,ar d2,aL d2,hor]
    refine ⟨hlt,aq hlt (by rw [av]; omega),(τ ++ [none]).set 2 (some (.cells 102 [.agg 102 [.bool false,.int .u32 ((bitsOf k (gm all i) ||| 2 ^ k : Nat) : Int),vN,vW,.int .i64 (cA all p),.bool false]])),?_,?_,?_⟩
    ·rw [hst',List.set_append,if_neg (by omega),show σ.length + 2 - σ.length = 2 by omega]
    ·rw [List.getElem?_set_ne (by omega)]; exact d1
    ·rw [List.getElem?_set_self (by simp; omega),hsu]; rfl
   ·rw [if_neg (by rw [hc]; simp)] at hsu
    exact ⟨hlt,aq hlt (by rw [av]; omega),_,hst',d1,by rw [hsu]; exact d2⟩
  ·have e : k = all.length:=by omega
   subst e
   exact ⟨τ,hst,c1,c2⟩
 have hl0 : σ.length < B.st.length:=(List.getElem?_eq_some_iff.1 c1).1
 have hl2 : σ.length + 2 < B.st.length:=(List.getElem?_eq_some_iff.1 c2).1
 have hidB : B.st[id]? = some (cg a0 (bq s) (bA l) a3 a4 a5 a6 a7 a8 a9 a10 a11 a12):=by rw [hst]; exact hmo τ
 have hidB0:=hidB
 unfold cg at hidB0
 have hidl2 : id < σ.length:=hidl
 have c2':=c2
 unfold bZ at c2'
 have hmay:=fun (st' : ab) (h : st'[id]? = some (cg a0 (bq s) (bA l) a3 a4 a5 a6 a7 a8 a9 a10 a11 a12))=>Ls (W0:=W0) st' id l s p hm hs1 hl h
 unfold ax at hmay
 simp only [go_sem,simprocAttr,an hidB0,ar hidB0,ax]
 refine ⟨.of (by kernel_rfl),aB.fn (uO s p.name) ?_⟩
 rcases mW (fun x : aK=>x.pkg.name == p.name) s with ⟨hi2,hall⟩ | ⟨m,x,hx,hqx,hbef,hi2⟩
 ·have hcg : xa s p = false:=by
   unfold xa
   rw [show eF s p.name = none from List.find?_eq_none.2 fun x hx=>by simpa using hall x hx]
  rw [hi2]
  simp only [go_sem,simprocAttr]
  refine ⟨.of (by kernel_rfl),aB.fnG (r:=.bool false) (fun h=>(Bool.false_ne_true h).elim) ?_⟩
  simp only [go_sem,simprocAttr,an c2',ar c2',aL c2']
  refine aj.reads (by simp only [go_sem,simprocAttr]) (hmay (B.st.set (σ.length + 2) (some (.cells 102 [.agg 102 [.bool false,.int .u32 (fF all i : Nat),vN,vW,.int .i64 (cA all p),.bool (false)]]))) (by rw [List.getElem?_set_ne (by omega)]; exact hidB)) ?_
  simp only [go_sem,simprocAttr,bM hl2,fD hl2,cQ hl2,List.set_set]
  have e0 : (B.st.set (σ.length + 2) (some (.cells 102 [.agg 102 [.bool (kM l s p),.int .u32 (fF all i : Nat),vN,vW,.int .i64 (cA all p),.bool (false)]])))[σ.length]? = some (some (.cells 102 [.agg 102 [.bool false,.int .u32 0,.au,.au,.int .i64 0,.bool false]])):=by rw [List.getElem?_set_ne (by omega)]; exact c1
  simp only [go_sem,simprocAttr,an e0,ar e0,aL e0]
  refine cJ.ret ?_
  simp only [go_sem,simprocAttr,bM (show σ.length < (B.st.set (σ.length + 2) _).length by simpa using hl0)]
  have hxe : Ext σ B.st:=by rw [hst]; exact (Ext.refl _).app _
  refine ⟨?_,(hxe.set (by omega) _).set (Nat.le_refl _) _⟩
  unfold fG
  rw [hN,hW,hcg]
  exact .refl _
 ·have hcg : xa s p = !bt x.pkg.ver p.ver:=by
   unfold xa
   rw [show eF s p.name = some x from qq hx hqx hbef]
  have h0 : ¬ (m : Int) < 0:=by omega
  have hml:=(List.getElem?_eq_some_iff.1 hx).1
  rw [hi2,if_neg h0]
  simp only [go_sem,simprocAttr,an hidB0,ar hidB0,bq,ay hx,bL,ax,List.length_map]
  refine ⟨.of (by kernel_rfl),hml,aB.fnG (fun _=>np x.pkg.ver p.ver) ?_⟩
  simp only [go_sem,simprocAttr,an c2',ar c2',aL c2']
  refine aj.reads (by simp only [go_sem,simprocAttr]) (hmay (B.st.set (σ.length + 2) (some (.cells 102 [.agg 102 [.bool false,.int .u32 (fF all i : Nat),vN,vW,.int .i64 (cA all p),.bool (!bt x.pkg.ver p.ver)]]))) (by rw [List.getElem?_set_ne (by omega)]; exact hidB)) ?_
  simp only [go_sem,simprocAttr,bM hl2,fD hl2,cQ hl2,List.set_set]
  have e0 : (B.st.set (σ.length + 2) (some (.cells 102 [.agg 102 [.bool (kM l s p),.int .u32 (fF all i : Nat),vN,vW,.int .i64 (cA all p),.bool (!bt x.pkg.ver p.ver)]])))[σ.length]? = some (some (.cells 102 [.agg 102 [.bool false,.int .u32 0,.au,.au,.int .i64 0,.bool false]])):=by rw [List.getElem?_set_ne (by omega)]; exact c1
  simp only [go_sem,simprocAttr,an e0,ar e0,aL e0]
  refine cJ.ret ?_
  simp only [go_sem,simprocAttr,bM (show σ.length < (B.st.set (σ.length + 2) _).length by simpa using hl0)]
  have hxe : Ext σ B.st:=by rw [hst]; exact (Ext.refl _).app _
  refine ⟨?_,(hxe.set (by omega) _).set (Nat.le_refl _) _⟩
  unfold fG
  rw [hN,hW,hcg]
  exact .refl _
end Go.Proofs.Tryz
end
section
namespace Go.Av
open Go
structure fp (σ st : ab) (id : Nat) (vs : List AV) (es : List TypeId) (xss : List (List AV)) (mk : List AV → Option cM) : Prop where
 ext : Ext σ st
 low : σ.length ≤ id
 at_ : st[id]? = some (mk vs)
 ob : ∃ te x,mk vs = some (.cells te x)
 b : ∀ (k : Nat) (v : AV) (e : TypeId) (xs : List AV),vs[k]? = some v → es[k]? = some e → xss[k]? = some xs → Bld st v e xs
 f : ∀ (k : Nat) (v : AV) (t : Nat),vs[k]? = some v → ef v = some t → σ.length ≤ t
 d : ∀ (j k : Nat) (u v : AV) (t : Nat),j ≠ k → vs[j]? = some u → vs[k]? = some v → ef u = some t → ef v ≠ some t
 l1 : vs.length = es.length
 l2 : vs.length = xss.length
theorem Bld.mU {st : ab} {v : AV} {e : TypeId} {xs : List AV} {t : Nat} (h : Bld st v e xs) (ht : ef v = some t) : st[t]? = some (some .tok):=by
 rcases h with ⟨rfl,_⟩ | rfl | ⟨tok,rfl,h1⟩
 ·cases ht
 ·cases ht
 ·cases ht; exact h1
theorem fp.tok {σ st : ab} {id : Nat} {vs : List AV} {es : List TypeId} {xss : List (List AV)} {mk : List AV → Option cM} (h : fp σ st id vs es xss mk) {k t : Nat} {v : AV} (hv : vs[k]? = some v) (ht : ef v = some t) : st[t]? = some (some .tok):=by
 have hk:=(List.getElem?_eq_some_iff.1 hv).1
 have h1:=h.l1
 have h2:=h.l2
 obtain ⟨e,he⟩:=get_some (show k < es.length by omega)
 obtain ⟨xs,hx⟩:=get_some (show k < xss.length by omega)
 exact (h.b k v e xs hv he hx).mU ht
theorem fp.app {σ st st' : ab} {id : Nat} {vs : List AV} {es : List TypeId} {xss : List (List AV)} {mk : List AV → Option cM} (h : fp σ st id vs es xss mk) {k : Nat} {v v' : AV} {e : TypeId} {zs : List AV} (hv : vs[k]? = some v) (he : es[k]? = some e) (ha : App st v e zs v' st')
  (hob : ∃ te x,mk (vs.set k v') = some (.cells te x)) : fp σ (st'.set id (mk (vs.set k v'))) id (vs.set k v') es (xss.set k zs) mk:=by
 have hk:=(List.getElem?_eq_some_iff.1 hv).1
 have h1:=h.l1
 have h2:=h.l2
 have hidl:=(List.getElem?_eq_some_iff.1 h.at_).1
 have hnt : ∀ (j t : Nat) (u : AV),vs[j]? = some u → ef u = some t → t ≠ id:=fun j t u hu ht e=>by
  have:=h.tok hu ht
  rw [e,h.at_] at this
  obtain ⟨te,x,hx⟩:=h.ob
  rw [hx] at this
  cases this
 have hv'id : ∀ t,ef v' = some t → t ≠ id:=fun t ht e=>by
  rcases ha.tok with h3 | ⟨t',h3,h4⟩
  ·rw [h3] at ht; exact hnt k t v hv ht e
  ·rw [h3] at ht; cases ht; omega
 have hxe : Ext σ st':=by
  unfold Ext at *
  have hl:=h.ext
  refine List.ext_getElem? fun i=>?_
  by_cases hi : i < σ.length
  ·rw [List.getElem?_take_of_lt hi]
   have hst : st[i]? = σ[i]?:=by
    have:=congrArg (·[i]?) hl
    simp only [List.getElem?_take_of_lt hi] at this
    exact this
   have hil : i < st.length:=by
    have:=congrArg List.length hl
    rw [List.length_take] at this
    omega
   rw [ha.old i hil (fun e=>by have:=h.f k v i hv e; omega),hst]
  ·rw [List.getElem?_eq_none (by rw [List.length_take]; omega),List.getElem?_eq_none (by omega)]
 refine ⟨hxe.set h.low _,h.low,List.getElem?_set_self (Nat.lt_of_lt_of_le hidl ha.len),hob,fun j u e' xs hu hee hxs=>?_,fun j u t hu ht=>?_,fun i j u w t hne hu hw ht=>?_,by simpa using h1,by simpa using h2⟩
 ·by_cases hjk : j = k
  ·subst hjk
   rw [List.getElem?_set_self hk] at hu
   cases hu
   rw [he] at hee
   cases hee
   rw [List.getElem?_set_self (by omega)] at hxs
   cases hxs
   rcases ha.bld with h3 | h3 | ⟨t,h3,h4⟩
   ·exact .inl h3
   ·exact .inr (.inl h3)
   ·exact .inr (.inr ⟨t,h3,by rw [List.getElem?_set_ne (fun e=>hv'id t (by rw [h3]; rfl) e.symm)]; exact h4⟩)
  ·rw [List.getElem?_set_ne (fun e=>hjk e.symm)] at hu hxs
   rcases h.b j u e' xs hu hee hxs with h3 | h3 | ⟨t,h3,h4⟩
   ·exact .inl h3
   ·exact .inr (.inl h3)
   ·refine .inr (.inr ⟨t,h3,?_⟩)
    have ht : ef u = some t:=by rw [h3]; rfl
    rw [List.getElem?_set_ne (fun e=>hnt j t u hu ht e.symm),ha.old t (List.getElem?_eq_some_iff.1 h4).1 (h.d j k u v t hjk hu hv ht)]
    exact h4
 ·by_cases hjk : j = k
  ·subst hjk
   rw [List.getElem?_set_self hk] at hu
   cases hu
   rcases ha.tok with h3 | ⟨t',h3,h4⟩
   ·rw [h3] at ht; exact h.f j v t hv ht
   ·rw [h3] at ht; cases ht
    exact Nat.le_trans h.ext.le h4
  ·rw [List.getElem?_set_ne (fun e=>hjk e.symm)] at hu
   exact h.f j u t hu ht
 ·have old : ∀ (i : Nat) (u : AV) (t : Nat),vs[i]? = some u → ef u = some t → t < st.length:=fun i u t hu ht=>(List.getElem?_eq_some_iff.1 (h.tok hu ht)).1
  by_cases hik : i = k
  ·subst hik
   rw [List.getElem?_set_self hk] at hu
   cases hu
   rw [List.getElem?_set_ne hne] at hw
   rcases ha.tok with h3 | ⟨t',h3,h4⟩
   ·rw [h3] at ht; exact h.d i j v w t hne hv hw ht
   ·rw [h3] at ht; cases ht
    intro e
    have:=old j w t hw e
    omega
  ·rw [List.getElem?_set_ne (fun e=>hik e.symm)] at hu
   by_cases hjk : j = k
   ·subst hjk
    rw [List.getElem?_set_self hk] at hw
    cases hw
    rcases ha.tok with h3 | ⟨t',h3,h4⟩
    ·rw [h3]; exact h.d i j u v t hik hu hv ht
    ·rw [h3]
     intro e
     cases e
     have:=old i u t hu ht
     omega
   ·rw [List.getElem?_set_ne (fun e=>hjk e.symm)] at hw
    exact h.d i j u w t hne hu hw ht
theorem fp.more {σ st : ab} {id : Nat} {vs : List AV} {es : List TypeId} {xss : List (List AV)} {mk : List AV → Option cM} (h : fp σ st id vs es xss mk) (τ : ab) : fp σ (st ++ τ) id vs es xss mk :=
 ⟨h.ext.app τ,h.low,by rw [List.getElem?_append_left (List.getElem?_eq_some_iff.1 h.at_).1,h.at_],h.ob,fun k v e xs h1 h2 h3=>by
  have hb:=h.b k v e xs h1 h2 h3
  exact hb.ez fun j hj=>by rw [List.getElem?_append_left (hb.lt j hj)],h.f,h.d,h.l1,h.l2⟩
theorem fp.put {σ st : ab} {id : Nat} {vs : List AV} {es : List TypeId} {xss : List (List AV)} {mk mk' : List AV → Option cM} (h : fp σ st id vs es xss mk) (hob : ∃ te x,mk' vs = some (.cells te x)) : fp σ (st.set id (mk' vs)) id vs es xss mk':=by
 refine ⟨h.ext.set h.low _,h.low,List.getElem?_set_self (List.getElem?_eq_some_iff.1 h.at_).1,hob,fun k v e xs h1 h2 h3=>?_,h.f,h.d,h.l1,h.l2⟩
 rcases h.b k v e xs h1 h2 h3 with h4 | h4 | ⟨t,h4,h5⟩
 ·exact .inl h4
 ·exact .inr (.inl h4)
 ·refine .inr (.inr ⟨t,h4,?_⟩)
  rw [List.getElem?_set_ne (fun e=>?_)]
  ·exact h5
  ·obtain ⟨te,x,hx⟩:=h.ob
   rw [← e,h.at_,hx] at h5
   cases h5
end Go.Av
end
section
namespace Go.Proofs.Tryz
open Go Go.Av
set_option maxRecDepth 10000
set_option maxHeartbeats 1000000
variable {W0 : World}
theorem Hs (p q : Pkg) (x : aK) : af prog W0 37 [ax p,.loc 56 (bL x)] (.bool (decide (p = x.pkg))):=by
 have h:=yt (W0:=W0) p x.pkg
 refine ai [3] [2] func37 rfl rfl ntmps37 rfl rfl (.bool _) fun hs σ=>?_
 simp only [go_sem,simprocAttr,bL]
 refine aj.fn h ?_
 simp only [go_sem,simprocAttr]
 try exact .refl _
def dQ (s : List aK) (l : List aM) (up nv : Bool) (bud : Int) : List AV → Option cM
 | [v0,v3,v4,v5,v6]=>cg v0 (bq s) (bA l) v3 v4 v5 v6 (.bool up) (.bool nv) (.int .i64 bud) (.int .i64 0) (.bool false) .au
 | _=>none
def jg : List TypeId:=[54,37,4,102,100]
def mb (all : List Pkg) (s : List aK) (l : List aM) : Int :=
 if bO all ≠ 0 then bO all else if all ≠ dP all then 1 else if gn s ≠ 0 then gn s else if fL l ≠ 0 then fL l else if (s.any fun x=>!all.any fun p=>decide (p = x.pkg)) = true then 1 else 0
def gb (all : List Pkg) (s : List aK) (l : List aM) : Bool:=l.any fun a=>(a.kind == 5 && (eF s a.name).isNone) || (a.kind == 1 && decide ((aW all fun p=>p.name == a.name).length = 0))
def vC (all : List Pkg) (s : List aK) (l : List aM) (bud : Int) : Option cM :=
 dQ s l (dU l) (gb all s l) bud [bK all,.sl 37 ((nmB all all.length).map fun n=>l9 (aW all fun p=>p.name == n)),.sl 4 ((nmB all all.length).map fun n=>.bool (pJ l s n)),
  .sl 102 ((List.range all.length).map fun i=>fG all s l i ((all[i]?).getD vw)),dN (s.map fun x=>bD (aW all fun p=>p.name == x.pkg.name))]
theorem zZ : ∀ {s : List aK},pZ s = false → tP s
 | [],_,i,x,y,hx,_=>by simp at hx
 | [a],_,i,x,y,hx,hy=>by simp at hy
 | a :: b :: r,h,0,x,y,hx,hy=>by
  simp at hx hy
  subst hx hy
  rw [pZ,Bool.or_eq_false_iff] at h
  have h1 : Op.bytesLess a.pkg.name b.pkg.name = true:=by simpa using h.1
  have h2 : Op.bytesLess b.pkg.name a.pkg.name = false:=by
   cases h3 : Op.bytesLess b.pkg.name a.pkg.name with
   | false=>rfl
   | true=>have:=iF h1 h3; rw [eS] at this; cases this
  unfold e7
  rw [h2]
  simp only [Bool.false_eq_true,if_false]
  split <;> omega
 | a :: b :: r,h,i + 1,x,y,hx,hy=>by
  rw [pZ,Bool.or_eq_false_iff] at h
  exact zZ h.2 i x y (by simpa using hx) (by simpa using hy)
theorem Hq {s : List aK} (h : gn s = 0) : (∀ x ∈ s,bn x.pkg = 0) ∧ s.length ≤ 10 ∧ tP s:=by
 unfold gn at h
 split at h
 ·cases h
 ·rename_i h1
  split at h
  ·rename_i h2; exact absurd h h2
  ·rename_i h2
   split at h
   ·cases h
   ·rename_i h3
    exact ⟨fun x hx=>iP (Classical.not_not.1 h2) _ (List.mem_map.2 ⟨x,hx,rfl⟩),by omega,zZ (by simpa using h3)⟩
theorem Hl (l : List aM) (h0 : l ≠ []) (hl : l.length ≤ 1048576) : af prog W0 41 [bA l] (bA l):=by
 refine ai [2] [] func41 rfl rfl ntmps41 rfl rfl (.sl fun x hx=>by obtain ⟨y,_,rfl⟩:=List.mem_map.1 hx; exact AF y) fun hs σ=>?_
 cases l with
 | nil=>exact absurd rfl h0
 | cons x c =>
  simp only [go_sem,simprocAttr,bA,List.map_cons]
  refine cy.own 1048576 (by kernel_rfl) (.inr (.inl rfl)) (.sl _ _ _) (by simpa using hl) fun v' σ' ha'=>?_
  have hb':=(aX.app (σ:=σ) ⟨.inr (.inl rfl),.refl _,fun t h=>by cases h⟩ ha')
  simp only [go_sem,simprocAttr,hb'.ok,hb'.un]
  exact ⟨hb'.cK,hb'.ext⟩
theorem K4 (σ : ab) (all : List Pkg) (s : List aK) (l : List aM) (bud : Int) (hp : ∀ p ∈ all,oK p) (hsp : ∀ x ∈ s,oK x.pkg) :
  aU prog W0 11 [bK all,bq s,bA l,.int .i64 bud] σ fun r σ'=>Ext σ σ' ∧ ((mb all s l ≠ 0 ∧ r = .tup [.nil,.int .i64 (mb all s l)]) ∨ (mb all s l = 0 ∧ ∃ id,r = .tup [.ptr 96 id 0 [],.int .i64 0] ∧ σ.length ≤ id ∧ σ'[id]? = some (vC all s l bud))):=by
 refine jQ [.tmp 8,.tmp 9] [15,20,26,31,2000076,2000018,2000095,4000022,3000115,2000117,4000027,2000137,4000032,3000147,2000149,4000033] func11 rfl rfl ntmps11 rfl rfl fun hs=>?_
 simp only [go_sem,simprocAttr]
 refine aj.goes (by simp only [go_sem,simprocAttr]) (Be σ all hp) fun r σ1 ⟨hx,hr⟩=>?_
 rcases hr with ⟨h0,rfl⟩ | ⟨h0,h1,rfl⟩ | ⟨h0,h1,cls,rfl,_,_⟩
 ·have hE : mb all s l = bO all:=by unfold mb; rw [if_pos h0]
  simp only [go_sem,simprocAttr]
  refine ⟨fun _=>cJ.ret ?_,fun h=>absurd h h0⟩
  simp only [go_sem,simprocAttr]
  exact ⟨_,.refl _,hx.le,hx,.inl ⟨by rw [hE]; exact h0,by rw [hE]⟩⟩
 ·have hE : mb all s l = 1:=by unfold mb; rw [if_neg (by simp [h0]),if_pos h1]
  simp only [go_sem,simprocAttr]
  refine cJ.ret ?_
  simp only [go_sem,simprocAttr]
  exact ⟨_,.refl _,hx.le,hx,.inl ⟨by rw [hE]; decide,by rw [hE]⟩⟩
 simp only [go_sem,simprocAttr]
 refine aj.fn (yP s hsp) ?_
 simp only [go_sem,simprocAttr]
 refine ⟨fun h2=>cJ.ret ?_,fun h2=>?_⟩
 ·have hE : mb all s l = gn s:=by unfold mb; rw [if_neg (by simp [h0]),if_neg (by simp [← h1]),if_pos h2]
  simp only [go_sem,simprocAttr]
  exact ⟨_,.refl _,hx.le,hx,.inl ⟨by rw [hE]; exact h2,by rw [hE]⟩⟩
 refine aj.fn (J9 l) ?_
 simp only [go_sem,simprocAttr]
 refine ⟨fun h3=>cJ.ret ?_,fun h3=>?_⟩
 ·have hE : mb all s l = fL l:=by unfold mb; rw [if_neg (by simp [h0]),if_neg (by simp [← h1]),if_neg (by simp [h2]),if_pos h3]
  simp only [go_sem,simprocAttr]
  exact ⟨_,.refl _,hx.le,hx,.inl ⟨by rw [hE]; exact h3,by rw [hE]⟩⟩
 have hE : mb all s l = if (s.any fun x=>!all.any fun p=>decide (p = x.pkg)) = true then 1 else 0:=by unfold mb; rw [if_neg (by simp [h0]),if_neg (by simp [← h1]),if_neg (by simp [h2]),if_neg (by simp [h3])]
 obtain ⟨hm,DU,hrise⟩:=Hq h2
 have h24:=dM h0
 have hl6 : l ≠ [] ∧ l.length ≤ 6:=by
  unfold fL at h3
  split at h3
  ·cases h3
  ·rename_i h6
   exact ⟨fun e=>h6 (.inl (by rw [e]; rfl)),by omega⟩
 simp only [go_sem,simprocAttr,bq,List.length_map]
 refine ah.at [0,1,2,3] (.of (by kernel_rfl)) (fun A=>Ext σ A.st ∧ (s.any fun x=>!all.any fun p=>decide (p = x.pkg)) = false) ?_ fun B ⟨hst,hno⟩=>?_
 ·refine ah.upto [0,1,2,3,52,53] (.of (by kernel_rfl)) s.length (fun i A=>A.env 54 = .int .i64 i ∧ Ext σ A.st ∧ NoB (fun x : aK=>!all.any fun p=>decide (p = x.pkg)) s i) 0 (Nat.zero_le _) ?_ fun i B hi ⟨h54,hst,hI⟩=>?_
  ·simp only [go_sem,simprocAttr]
   exact ⟨hx,.zero _ _⟩
  simp only [go_sem,simprocAttr,h54,List.length_map]
  refine ⟨fun hc=>⟨hc,?_⟩,fun hc=>⟨hst,List.any_eq_false.2 fun x hxm=>by simpa using hI.all hc x hxm⟩⟩
  obtain ⟨x,hxx⟩:=get_some hc
  simp only [ay hxx]
  have han:=Ja (W0:=W0) ax cD.pkg all (fun p=>decide (p = x.pkg)) 37 [.loc 56 (bL x)] (fun p _=>by simpa using Hs p p x)
  simp only [go_sem,simprocAttr,h54,nZ]
  refine aj.fn han ?_
  simp only [go_sem,simprocAttr,h54]
  refine ⟨fun hq=>cJ.ret ?_,fun hq=>⟨hc,aq hc (by rw [av]; omega),hst.app _,hI.succ hxx (by simp [hq])⟩⟩
  have hE1 : mb all s l = 1:=by rw [hE,if_pos (List.any_eq_true.2 ⟨x,List.mem_of_getElem? hxx,by simp [hq]⟩)]
  simp only [go_sem,simprocAttr]
  exact ⟨_,.refl _,by have:=hst.le; omega,hst.app _,.inl ⟨by rw [hE1]; decide,by rw [hE1]⟩⟩
 have hE0 : mb all s l = 0:=by rw [hE,hno]; rfl
 simp only [go_sem,simprocAttr]
 refine aj.fn (yK all hp) ?_
 rw [if_pos h0,← h1]
 simp only [go_sem,simprocAttr]
 have hso:=tC (W0:=W0) s hm (by omega) hrise
 unfold bq at hso
 refine aj.fn hso ?_
 simp only [go_sem,simprocAttr]
 refine aj.fn (Hl l hl6.1 (by omega)) ?_
 simp only [go_sem,simprocAttr]
 refine aj.fn (yT l) ?_
 simp only [go_sem,simprocAttr]
 have hfa : bf prog 24 (bA l) = true:=by kernel_rfl
 refine ⟨hfa,aj.fn (qI all) ?_⟩
 have hS0 : fp σ (B.st ++ [dQ s l (dU l) false bud [.au,.au,.au,.au,.au]]) B.st.length [.au,.au,.au,.au,.au] jg [[],[],[],[],[]] (dQ s l (dU l) false bud):=by
  refine ⟨hst.app _,hst.le,by simp,⟨_,_,rfl⟩,fun k v e xs hv _ hxs=>?_,fun k v t hv ht=>?_,fun j k u v t _ hu _ ht=>?_,rfl,rfl⟩
  ·rcases k with _ | _ | _ | _ | _ | k <;> simp at hv hxs <;> subst hv hxs <;> exact .inl ⟨rfl,rfl⟩
  ·rcases k with _ | _ | _ | _ | _ | k <;> simp at hv <;> subst hv <;> cases ht
  ·rcases j with _ | _ | _ | _ | _ | j <;> simp at hu <;> subst hu <;> cases ht
 obtain ⟨id,hidd⟩ : ∃ id,id = B.st.length:=⟨_,rfl⟩
 rw [← hidd] at hS0
 rw [← hidd]
 simp only [go_sem,simprocAttr]
 refine ah.at [2,16,18] (.of (by kernel_rfl)) (fun A=>∃ v0,fp σ A.st id [v0,.au,.au,.au,.au] jg [all.map ax,[],[],[],[]] (dQ s l (dU l) false bud)) ?_ fun B2 ⟨v0,hS⟩=>?_
 ·refine ah.upto [2,16,18,78] (.of (by kernel_rfl)) all.length (fun i A=>A.env 79 = .int .i64 i ∧ ∃ v0,fp σ A.st id [v0,.au,.au,.au,.au] jg [(all.take i).map ax,[],[],[],[]] (dQ s l (dU l) false bud)) 0 (Nat.zero_le _) ?_ fun i B2 hi ⟨h79,v0,hS⟩=>?_
  ·simp only [go_sem,simprocAttr]
   exact ⟨_,hS0⟩
  simp only [go_sem,simprocAttr,h79]
  refine ⟨fun hc=>?_,fun hc=>?_⟩
  ·obtain ⟨p,hpi⟩:=get_some hc
   have hS1:=hS.more [none]
   have hb0:=hS1.b 0 v0 54 _ rfl rfl rfl
   have hat:=hS1.at_
   unfold dQ cg at hat
   refine aj.fn (Jp all i hpi (dm h0 (List.mem_of_getElem? hpi))) ?_
   have hfp : bf prog 54 (ax p) = true:=by kernel_rfl
   simp only [go_sem,simprocAttr,h79,hfp,an hat,ar hat,hb0.ok,hb0.un]
   refine ⟨.of (by kernel_rfl),cy.wh (σ:=B2.st ++ [none]) (by simp only [go_sem,simprocAttr]) 1048576 (by kernel_rfl) hb0 (.lit _ _ _) (by simp; omega) fun v' σ' ha=>?_⟩
   have hat':=(fp.app hS1 (k:=0) rfl rfl ha ⟨_,_,rfl⟩)
   have hidσ : σ'[id]? = (B2.st ++ [none])[id]?:=ha.old id (List.getElem?_eq_some_iff.1 hat).1 (fun e=>by have:=hb0.mU e; rw [hat] at this; cases this)
   rw [hat] at hidσ
   have hbv:=ha.bld
   simp only [go_sem,simprocAttr,h79,an hidσ,ar hidσ,aL hidσ,hbv.ok,hbv.un,hbv.fits]
   refine ⟨hc,aq hc (by rw [av]; omega),v',?_⟩
   have e1 : (all.take (i + 1)).map ax = (all.take i).map ax ++ [ax p]:=by rw [ak hpi,List.map_append]; rfl
   rw [e1]
   exact hat'
  ·rw [List.take_of_length_le (by omega)] at hS
   exact ⟨_,hS⟩
 have hb0:=hS.b 0 v0 54 _ rfl rfl rfl
 have hat:=hS.at_
 unfold dQ cg at hat
 simp only [go_sem,simprocAttr,an hat,ar hat,hb0.ok,hb0.un,hb0.len,hb0.gT,List.length_map]
 obtain ⟨fa,hfa2⟩ : ∃ fa : Nat → AV,fa = fun i=>fG all s l i ((all[i]?).getD vw):=⟨_,rfl⟩
 have hm1:=fun p hp=>gI (dm h0 (p:=p) hp)
 refine ah.at [2,16,18] (.of (by kernel_rfl)) (fun A=>∃ v5,fp σ A.st id [v0,.au,.au,v5,.au] jg [all.map ax,[],[],(List.range all.length).map fa,[]] (dQ s l (dU l) false bud)) ?_ fun B3 ⟨v5,hS⟩=>?_
 ·refine ah.upto [2,16,18,103] (.of (by kernel_rfl)) all.length (fun i A=>A.env 104 = .int .i64 i ∧ ∃ v5,fp σ A.st id [v0,.au,.au,v5,.au] jg [all.map ax,[],[],(List.range i).map fa,[]] (dQ s l (dU l) false bud)) 0 (Nat.zero_le _) ?_ fun i B3 hi ⟨h104,v5,hS⟩=>?_
  ·simp only [go_sem,simprocAttr]
   exact ⟨_,hS⟩
  simp only [go_sem,simprocAttr,h104]
  refine ⟨fun hc=>?_,fun hc=>?_⟩
  ·obtain ⟨p,hpi⟩:=get_some hc
   have hpg:=hm1 p (List.mem_of_getElem? hpi)
   have hpm:=qZ (dm h0 (List.mem_of_getElem? hpi))
   have hb0:=hS.b 0 v0 54 _ rfl rfl rfl
   have hb5:=hS.b 3 v5 102 _ rfl rfl rfl
   have hat:=hS.at_
   have hlr:=C5 (W0:=W0) B3.st id all l s i p hpi h24 hpm (by have:=hpg.rcm.1; omega) hm (by omega) (by omega) hb0 hat
   have hfi : fG all s l i p = fa i:=by rw [hfa2]; simp only [hpi,Option.getD_some]
   rw [hfi] at hlr
   have hff : bf prog 102 (fa i) = true:=by rw [← hfi]; kernel_rfl
   have hnf : cD (fa i):=by rw [← hfi]; trivial
   unfold dQ cg at hat
   simp only [go_sem,simprocAttr,h104,an hat,ar hat,hb5.ok,hb5.un]
   refine ⟨.of (by kernel_rfl),aB.st hlr ?_⟩
   simp only [go_sem,simprocAttr,h104,an hat,ar hat,hb5.ok,hb5.un,bP hnf,cp hnf,hff]
   refine cy.wh (σ:=B3.st) (by simp only [go_sem,simprocAttr]) 1048576 (by kernel_rfl) hb5 (.lit _ _ _) (by simp; omega) fun v' σ' ha=>?_
   have hat':=(fp.app hS (k:=3) rfl rfl ha ⟨_,_,rfl⟩)
   have hidσ : σ'[id]? = B3.st[id]?:=ha.old id (List.getElem?_eq_some_iff.1 hat).1 (fun e=>by have:=hb5.mU e; rw [hat] at this; cases this)
   rw [hat] at hidσ
   have hbv:=ha.bld
   simp only [go_sem,simprocAttr,h104,an hidσ,ar hidσ,aL hidσ,hbv.ok,hbv.un,hbv.fits]
   refine ⟨hc,aq hc (by rw [av]; omega),v',?_⟩
   rw [List.map_append]
   exact hat'
  ·have e : i = all.length:=by omega
   subst e
   exact ⟨_,hS⟩
 simp only [go_sem,simprocAttr]
 refine aj.fn (Ft all (by omega)) ?_
 obtain ⟨N,hN⟩ : ∃ N,N = nmB all all.length:=⟨_,rfl⟩
 rw [← hN]
 obtain ⟨fn,hfn⟩ : ∃ fn : List UInt8 → AV,fn = fun n=>l9 (aW all fun p=>p.name == n):=⟨_,rfl⟩
 obtain ⟨fl,hfl⟩ : ∃ fl : List UInt8 → AV,fl = fun n=>.bool (pJ l s n):=⟨_,rfl⟩
 have hNl : N.length ≤ 24:=by rw [hN]; exact Nat.le_trans (uE all all.length) h24
 simp only [go_sem,simprocAttr,List.length_map]
 refine ah.at [2,16,18] (.of (by kernel_rfl)) (fun A=>∃ v3 v4,fp σ A.st id [v0,v3,v4,v5,.au] jg [all.map ax,N.map fn,N.map fl,(List.range all.length).map fa,[]] (dQ s l (dU l) false bud)) ?_ fun B4 ⟨v3,v4,hS⟩=>?_
 ·refine ah.upto [2,16,18,122,123] (.of (by kernel_rfl)) N.length (fun i A=>A.env 124 = .int .i64 i ∧ ∃ v3 v4,fp σ A.st id [v0,v3,v4,v5,.au] jg [all.map ax,(N.take i).map fn,(N.take i).map fl,(List.range all.length).map fa,[]] (dQ s l (dU l) false bud)) 0 (Nat.zero_le _) ?_ fun i B4 hi ⟨h124,v3,v4,hS⟩=>?_
  ·simp only [go_sem,simprocAttr]
   exact ⟨_,_,hS⟩
  simp only [go_sem,simprocAttr,h124,List.length_map]
  refine ⟨fun hc=>⟨hc,?_⟩,fun hc=>?_⟩
  ·obtain ⟨n,hn⟩:=get_some hc
   simp only [ay hn]
   have hb3:=hS.b 1 v3 37 _ rfl rfl rfl
   have hat:=hS.at_
   have hof:=Dy (W0:=W0) all (by omega) n
   have hff : l9 (aW all fun p=>p.name == n) = fn n:=by rw [hfn]
   rw [hff] at hof
   have hft : bf prog 37 (fn n) = true:=by rw [← hff]; kernel_rfl
   have hnf : cD (fn n):=by rw [← hff]; trivial
   unfold dQ cg at hat
   simp only [go_sem,simprocAttr,h124,an hat,ar hat,hb3.ok,hb3.un]
   refine ⟨.of (by kernel_rfl),aB.fn hof ?_⟩
   simp only [go_sem,simprocAttr,h124,an hat,ar hat,hb3.ok,hb3.un,bP hnf,cp hnf,hft]
   refine cy.wh (σ:=B4.st) (by simp only [go_sem,simprocAttr]) 1048576 (by kernel_rfl) hb3 (.lit _ _ _) (by simp; omega) fun v' σ' ha=>?_
   have hS2:=(fp.app hS (k:=1) rfl rfl ha ⟨_,_,rfl⟩)
   have hidσ : σ'[id]? = B4.st[id]?:=ha.old id (List.getElem?_eq_some_iff.1 hat).1 (fun e=>by have:=hb3.mU e; rw [hat] at this; cases this)
   rw [hat] at hidσ
   have hbv:=ha.bld
   have hidl:=(List.getElem?_eq_some_iff.1 hidσ).1
   obtain ⟨st2,hst2⟩ : ∃ st2,st2 = σ'.set id (cg v0 (bq s) (bA l) v' v4 v5 .au (.bool (dU l)) (.bool false) (.int .i64 bud) (.int .i64 0) (.bool false) .au):=⟨_,rfl⟩
   have hat2 : st2[id]? = some (cg v0 (bq s) (bA l) v' v4 v5 .au (.bool (dU l)) (.bool false) (.int .i64 bud) (.int .i64 0) (.bool false) .au):=by rw [hst2]; exact List.getElem?_set_self hidl
   have hlk:=HY (W0:=W0) st2 id l s n hm (by omega) (by omega) hat2
   have hS3 : fp σ st2 id [v0,v',v4,v5,.au] jg [all.map ax,(N.take i).map fn ++ [fn n],(N.take i).map fl,(List.range all.length).map fa,[]] (dQ s l (dU l) false bud):=by rw [hst2]; exact hS2
   have hb4:=hS3.b 2 v4 4 _ rfl rfl rfl
   unfold cg at hat2 hst2
   simp only [go_sem,simprocAttr,h124,an hidσ,ar hidσ,aL hidσ,hbv.ok,hbv.un,hbv.fits]
   rw [← hst2]
   simp only [go_sem,simprocAttr,an hat2,ar hat2,hb4.ok,hb4.un]
   refine ⟨.of (by kernel_rfl),aB.st hlk ?_⟩
   simp only [go_sem,simprocAttr,h124,an hat2,ar hat2,hb4.ok,hb4.un]
   refine cy.wh (σ:=st2) (by simp only [go_sem,simprocAttr]) 1048576 (by kernel_rfl) hb4 (.lit _ _ _) (by simp; omega) fun v'' σ'' ha2=>?_
   have hS4:=(fp.app hS3 (k:=2) rfl rfl ha2 ⟨_,_,rfl⟩)
   have hidσ2 : σ''[id]? = st2[id]?:=ha2.old id (List.getElem?_eq_some_iff.1 hat2).1 (fun e=>by have:=hb4.mU e; rw [hat2] at this; cases this)
   rw [hat2] at hidσ2
   have hbv2:=ha2.bld
   simp only [go_sem,simprocAttr,h124,an hidσ2,ar hidσ2,aL hidσ2,hbv2.ok,hbv2.un,hbv2.fits]
   refine ⟨hc,aq hc (by rw [av]; omega),v',v'',?_⟩
   have e1 : (N.take (i + 1)).map fn = (N.take i).map fn ++ [fn n]:=by rw [ak hn,List.map_append]; rfl
   have e2 : (N.take (i + 1)).map fl = (N.take i).map fl ++ [.bool (pJ l s n)]:=by rw [ak hn,List.map_append,hfl]; rfl
   rw [e1,e2]
   exact hS4
  ·have e:=List.take_of_length_le hc
   rw [e] at hS
   exact ⟨_,_,hS⟩
 have hat:=hS.at_
 unfold dQ cg at hat
 simp only [go_sem,simprocAttr,an hat,ar hat,bq,List.length_map]
 obtain ⟨fm,hfm⟩ : ∃ fm : aK → Nat,fm = fun x=>bD (aW all fun p=>p.name == x.pkg.name):=⟨_,rfl⟩
 refine ah.at [2,16,18] (.of (by kernel_rfl)) (fun A=>∃ v6,fp σ A.st id [v0,v3,v4,v5,v6] jg [all.map ax,N.map fn,N.map fl,(List.range all.length).map fa,(s.map fm).map bZ] (dQ s l (dU l) false bud)) ?_ fun B5 ⟨v6,hS⟩=>?_
 ·refine ah.upto [2,16,18,156,157] (.of (by kernel_rfl)) s.length (fun i A=>A.env 158 = .int .i64 i ∧ ∃ v6,fp σ A.st id [v0,v3,v4,v5,v6] jg [all.map ax,N.map fn,N.map fl,(List.range all.length).map fa,((s.take i).map fm).map bZ] (dQ s l (dU l) false bud)) 0 (Nat.zero_le _) ?_ fun i B5 hi ⟨h158,v6,hS⟩=>?_
  ·simp only [go_sem,simprocAttr]
   exact ⟨_,hS⟩
  simp only [go_sem,simprocAttr,h158,List.length_map]
  refine ⟨fun hc=>⟨hc,?_⟩,fun hc=>?_⟩
  ·obtain ⟨x,hxx⟩:=get_some hc
   simp only [ay hxx]
   simp only [go_sem,simprocAttr,h158,bL,ax]
   refine aj.fn (Dy all (by omega) x.pkg.name) ?_
   have hpl:=js all fun p=>p.name == x.pkg.name
   simp only [go_sem,simprocAttr,h158,l9,List.length_map]
   refine ah.at [2,16,18,156,157,158] (.of (by kernel_rfl)) (fun A=>A.env 27 = bZ (fm x) ∧ fp σ A.st id [v0,v3,v4,v5,v6] jg [all.map ax,N.map fn,N.map fl,(List.range all.length).map fa,((s.take i).map fm).map bZ] (dQ s l (dU l) false bud)) ?_ fun B6 ⟨h27,hS⟩=>?_
   ·refine ah.upto [2,16,18,156,157,158,166,167] (.of (by kernel_rfl)) (aW all fun p=>p.name == x.pkg.name).length (fun m A=>A.env 168 = .int .i64 m ∧ A.env 27 = bZ (bD ((aW all fun p=>p.name == x.pkg.name).take m)) ∧ fp σ A.st id [v0,v3,v4,v5,v6] jg [all.map ax,N.map fn,N.map fl,(List.range all.length).map fa,((s.take i).map fm).map bZ] (dQ s l (dU l) false bud)) 0 (Nat.zero_le _) ?_ fun m B6 hmm ⟨h168,h27,hS⟩=>?_
    ·simp only [go_sem,simprocAttr]
     exact ⟨rfl,hS.more _⟩
    unfold bZ at h27
    simp only [go_sem,simprocAttr,h168,h27,List.length_map]
    refine ⟨fun hlt=>⟨hlt,?_⟩,fun hge=>⟨?_,hS⟩⟩
    ·obtain ⟨y,hy⟩:=get_some hlt
     have hyl:=ir (List.mem_of_getElem? hy)
     simp only [ay hy]
     simp only [go_sem,simprocAttr,h168,h27]
     refine aj.fn (oN y (by omega)) ?_
     have hm1 : bD ((aW all fun p=>p.name == x.pkg.name).take m) < 4294967296:=kB fun z hz=>by
      have:=ir (List.mem_of_mem_take hz)
      omega
     have hor:=gH (bD ((aW all fun p=>p.name == x.pkg.name).take m)) (2 ^ y) hm1 (lr (by omega))
     simp only [go_sem,simprocAttr,h168,h27,hor]
     refine ⟨hlt,aq hlt (by rw [av]; omega),?_,hS⟩
     rw [ak hy,oT]
     rfl
    ·rw [hfm,List.take_of_length_le hge]
     rfl
   have hb6:=hS.b 4 v6 100 _ rfl rfl rfl
   have hat:=hS.at_
   unfold dQ cg at hat
   unfold bZ at h27
   simp only [go_sem,simprocAttr,h158,h27,an hat,ar hat,hb6.ok,hb6.un]
   refine cy.wh (σ:=B6.st) (by simp only [go_sem,simprocAttr]) 1048576 (by kernel_rfl) hb6 (.lit _ _ _) (by simp; omega) fun v' σ' ha=>?_
   have hat':=(fp.app hS (k:=4) rfl rfl ha ⟨_,_,rfl⟩)
   have hidσ : σ'[id]? = B6.st[id]?:=ha.old id (List.getElem?_eq_some_iff.1 hat).1 (fun e=>by have:=hb6.mU e; rw [hat] at this; cases this)
   rw [hat] at hidσ
   have hbv:=ha.bld
   simp only [go_sem,simprocAttr,h158,an hidσ,ar hidσ,aL hidσ,hbv.ok,hbv.un,hbv.fits]
   refine ⟨hc,aq hc (by rw [av]; omega),v',?_⟩
   have e1 : ((s.take (i + 1)).map fm).map bZ = ((s.take i).map fm).map bZ ++ [bZ (fm x)]:=by rw [ak hxx,List.map_append,List.map_append]; rfl
   rw [e1]
   exact hat'
  ·rw [List.take_of_length_le hc] at hS
   exact ⟨_,hS⟩
 have hfind : ∀ a : aM,∃ m : Int,(if iT (fun x : aK=>x.pkg.name == a.name) s < 0 then 0 else iT (fun x : aK=>x.pkg.name == a.name) s) = m ∧ decide (0 ≤ iT (fun x : aK=>x.pkg.name == a.name) s) = (eF s a.name).isSome:=fun a=>by
  refine ⟨_,rfl,?_⟩
  rcases mW (fun x : aK=>x.pkg.name == a.name) s with ⟨hi2,hall⟩ | ⟨m,x,hxm,hqx,hbef,hi2⟩
  ·rw [hi2,show eF s a.name = none from List.find?_eq_none.2 fun x hx=>by simpa using hall x hx]
   rfl
  ·rw [hi2,show eF s a.name = some x from qq hxm hqx hbef]
   exact decide_eq_true (by omega)
 simp only [go_sem,simprocAttr,bA,List.length_map]
 refine ah.at [18] (.of (by kernel_rfl)) (fun A=>fp σ A.st id [v0,v3,v4,v5,v6] jg [all.map ax,N.map fn,N.map fl,(List.range all.length).map fa,(s.map fm).map bZ] (dQ s l (dU l) (gb all s l) bud)) ?_ fun B6 hS=>?_
 ·refine ah.upto [16,18,188,189] (.of (by kernel_rfl)) l.length (fun i A=>A.env 190 = .int .i64 i ∧ fp σ A.st id [v0,v3,v4,v5,v6] jg [all.map ax,N.map fn,N.map fl,(List.range all.length).map fa,(s.map fm).map bZ] (dQ s l (dU l) (gb all s (l.take i)) bud)) 0 (Nat.zero_le _) ?_ fun i B6 hi ⟨h190,hS⟩=>?_
  ·simp only [go_sem,simprocAttr]
   exact hS
  simp only [go_sem,simprocAttr,h190,List.length_map]
  refine ⟨fun hc=>⟨hc,?_⟩,fun hc=>?_⟩
  ·obtain ⟨a,ha⟩:=get_some hc
   simp only [ay ha]
   have hS1:=hS.more [none]
   have hat:=hS1.at_
   unfold dQ cg at hat
   obtain ⟨m,hm1,hm2⟩:=hfind a
   have hff:=uO (W0:=W0) s a.name
   rw [hm1,hm2] at hff
   unfold bq at hat hff
   have hnx : gb all s (l.take (i + 1)) = (gb all s (l.take i) || (a.kind == 5 && !(eF s a.name).isSome) || (a.kind == 1 && ((aW all fun p=>p.name == a.name).length : Int) == 0)):=by
    rw [ak ha]
    unfold gb
    rw [List.any_append,List.any_cons,List.any_nil,Bool.or_false,Bool.or_assoc]
    congr 2
    ·cases eF s a.name <;> rfl
    ·rw [Bool.eq_iff_iff]; simp
   simp only [go_sem,simprocAttr,h190,bT,an hat,ar hat]
   refine ⟨.of (by kernel_rfl),aB.fn hff ?_⟩
   simp only [go_sem,simprocAttr,h190,an hat,ar hat]
   refine aB.fnG (fun _=>Dy all (by omega) a.name) ?_
   simp only [go_sem,simprocAttr,h190,l9,List.length_map,an hat,ar hat,aL hat]
   rw [hnx]
   exact ⟨hc,aq hc (by rw [av]; omega),hS1.put (mk':=dQ s l (dU l) (gb all s (l.take i) || (a.kind == 5 && !(eF s a.name).isSome) || (a.kind == 1 && ((aW all fun p=>p.name == a.name).length : Int) == 0)) bud) ⟨_,_,rfl⟩⟩
  ·rw [List.take_of_length_le hc] at hS
   exact hS
 simp only [go_sem,simprocAttr]
 have hsub : ∀ {v : AV} {e : TypeId} {xs : List AV},Bld B6.st v e xs → Sub v (.sl e xs):=fun h=>by
  rcases h with ⟨rfl,rfl⟩ | rfl | ⟨t,rfl,_⟩
  ·exact .au _
  ·exact .lit _ _
  ·exact .own _ _ _
 have hat:=hS.at_
 have u0:=hsub (hS.b 0 v0 _ _ rfl rfl rfl)
 have u3:=hsub (hS.b 1 v3 _ _ rfl rfl rfl)
 have u4:=hsub (hS.b 2 v4 _ _ rfl rfl rfl)
 have u5:=hsub (hS.b 3 v5 _ _ rfl rfl rfl)
 have u6:=hsub (hS.b 4 v6 _ _ rfl rfl rfl)
 have hnew : vC all s l bud = some (.cells 96 [.agg 96 [.sl 54 (all.map ax),bq s,bA l,.sl 37 (N.map fn),.sl 4 (N.map fl),.sl 102 ((List.range all.length).map fa),.sl 100 ((s.map fm).map bZ),.bool (dU l),.bool (gb all s l),.int .i64 bud,.int .i64 0,.bool false,.au]]):=by
  rw [hN,hfn,hfl,hfa2,hfm]
  rfl
 have hagg : Sub (.agg 96 [v0,bq s,bA l,v3,v4,v5,v6,.bool (dU l),.bool (gb all s l),.int .i64 bud,.int .i64 0,.bool false,.au]) (.agg 96 [.sl 54 (all.map ax),bq s,bA l,.sl 37 (N.map fn),.sl 4 (N.map fl),.sl 102 ((List.range all.length).map fa),.sl 100 ((s.map fm).map bZ),.bool (dU l),.bool (gb all s l),.int .i64 bud,.int .i64 0,.bool false,.au]):=by
  refine .agg rfl fun k x y hx hy=>?_
  rcases k with _ | _ | _ | _ | _ | _ | _ | _ | _ | _ | _ | _ | _ | k <;> simp at hx hy <;> subst hx hy
  all_goals first | exact .refl _ | assumption | (simpa using u6)
 refine cJ.via (.inl rfl) (.cK id 0 (zs:=[.agg 96 [v0,bq s,bA l,v3,v4,v5,v6,.bool (dU l),.bool (gb all s l),.int .i64 bud,.int .i64 0,.bool false,.au]]) (by simp only [go_sem,simprocAttr]; exact hat) rfl hagg (.refl _)) ?_
 simp only [go_sem,simprocAttr]
 have hidl:=(List.getElem?_eq_some_iff.1 hat).1
 exact ⟨_,.refl _,by have:=hS.ext.le; simpa using this,hS.ext.set hS.low _,.inr ⟨hE0,id,rfl,hS.low,by rw [hnew]; exact List.getElem?_set_self hidl⟩⟩
end Go.Proofs.Tryz
end
section
namespace Go.Proofs.Tryz
open Go Go.Av
set_option maxRecDepth 10000
variable {W0 : World}
def du (c : List Nat) : AV:=.agg 39 (c.map fun x=>.int .i64 (x : Nat))
theorem qU (c : List Nat) : aN 0 (du c):=.agg fun x hx=>by
 obtain ⟨y,_,rfl⟩:=List.mem_map.1 hx
 exact .int _ _
theorem xO {α : Type} (q : α → Bool) {l : List α} {i : Nat} {a : α} (h : l[i]? = some a) : ((l.take (i + 1)).filter q).length = ((l.take i).filter q).length + (if q a = true then 1 else 0):=by
 rw [ak h,List.filter_append,List.length_append,List.filter_cons,List.filter_nil]
 congr 1
 split <;> rfl
theorem Fu {α : Type} (q : α → Bool) (l : List α) (i : Nat) : ((l.take i).filter q).length ≤ i:=Nat.le_trans (List.length_filter_le _ _) (by rw [List.length_take]; omega)
end Go.Proofs.Tryz
end
section
namespace Go.Proofs.Tryz
open Go Go.Av
set_option maxRecDepth 10000
variable {W0 : World}
def pS (l : List aM) (x : aK) : aK:={ x with hold:=nM (bm l x.pkg.name) x.hold }
end Go.Proofs.Tryz
end
section
namespace Go.Proofs.Tryz
open Go Go.Av
theorem zU {l : List aM} (hn : (l.map (·.name)).Nodup) (n : List UInt8) (q : aM → Bool) : (l.any fun a=>a.name == n && q a) = (match bm l n with | some a=>q a | none=>false):=by
 cases h : bm l n with
 | none =>
  have h1:=List.find?_eq_none.1 h
  refine List.any_eq_false.2 fun a ha=>?_
  have:=h1 a ha
  simp only [Bool.not_eq_true] at this
  simp [this]
 | some a =>
  obtain ⟨h1,h2⟩:=kj h
  rw [Bool.eq_iff_iff,List.any_eq_true]
  constructor
  ·rintro ⟨b,hb,hq⟩
   rw [Bool.and_eq_true,beq_iff_eq] at hq
   have:=pC hn hb
   rw [hq.1,h] at this
   cases this
   exact hq.2
  ·intro hq
   exact ⟨a,h1,by rw [h2,beq_self_eq_true,Bool.true_and]; exact hq⟩
theorem qH {l : List aM} (hn : (l.map (·.name)).Nodup) (k : Int) (n : List UInt8) : iK l k n = (match bm l n with | some a=>if a.kind = k then some a else none | none=>none):=by
 unfold iK
 cases h : bm l n with
 | none =>
  refine List.find?_eq_none.2 fun a ha=>?_
  have h1:=List.find?_eq_none.1 h a ha
  simp only [Bool.not_eq_true] at h1
  simp [h1]
 | some a =>
  obtain ⟨h1,h2⟩:=kj h
  simp only
  cases hf : l.find? (fun a=>a.kind == k && a.name == n) with
  | none =>
   have h3:=List.find?_eq_none.1 hf a h1
   rw [if_neg]
   intro e
   exact h3 (by simp [e,h2])
  | some b =>
   have h3:=List.find?_some hf
   have h4:=List.mem_of_find?_eq_some hf
   rw [Bool.and_eq_true,beq_iff_eq,beq_iff_eq] at h3
   have:=pC hn h4
   rw [h3.2,h] at this
   cases this
   rw [if_pos h3.1]
theorem lJ {l : List aM} (hn : (l.map (·.name)).Nodup) {k : Int} (hk : k ≠ 0) (n : List UInt8) : (iK l k n).isSome = (kindOf (bm l n) == k):=by
 rw [qH hn]
 cases bm l n with
 | none=>simp [kindOf]; omega
 | some a =>
  simp only [kindOf]
  by_cases h : a.kind = k
  ·rw [if_pos h]; simp [h]
  ·rw [if_neg h]; simp [h]
theorem Ht {l : List aM} (hn : (l.map (·.name)).Nodup) (x : aK) : gM l x = pS l x:=by
 unfold gM pS
 rw [zU hn x.pkg.name pg,zU hn x.pkg.name fun a=>a.kind == 5]
 congr 1
 cases bm l x.pkg.name with
 | none=>rfl
 | some a =>
  simp only [nM,pg,uI]
  by_cases h5 : a.kind = 5
  ·simp [h5]
  ·by_cases h6 : a.kind = 6
   ·simp [h6]
   ·by_cases h2 : a.kind = 2
    ·simp [h2]
    ·by_cases h1 : a.kind = 1
     ·simp [h1]
     ·simp [h1,h2,h5,h6]
theorem entry_eq {l : List aM} (hn : (l.map (·.name)).Nodup) (s : List aK) (n : List UInt8) : bC l s n = (eF s n).map (pS l):=by
 unfold bC eF
 rw [List.find?_map]
 have e : (fun x : aK=>x.pkg.name == n) ∘ gM l = fun x=>x.pkg.name == n:=funext fun x=>rfl
 rw [e]
 have e2 : gM l = pS l:=funext (Ht hn)
 rw [e2]
theorem AJ {l : List aM} (hn : (l.map (·.name)).Nodup) (s : List aK) (n : List UInt8) : tJ l s n = mg l s n:=by
 unfold tJ mg
 rw [entry_eq hn,lJ hn (by decide),lJ hn (by decide),Option.isSome_map]
theorem Im {l : List aM} (hn : (l.map (·.name)).Nodup) (s : List aK) (n : List UInt8) : pJ l s n = ll l s n:=by
 unfold pJ ll
 rw [AJ hn,entry_eq hn,lJ hn (by decide)]
 congr 2
 cases h : eF s n with
 | none=>rfl
 | some x =>
  have hxn : x.pkg.name = n:=by
   have:=List.find?_some h
   simpa using this
  simp [pS,hxn]
theorem Mb {l : List aM} (hn : (l.map (·.name)).Nodup) (s : List aK) (p : Pkg) : kM l s p = uW l s p:=by
 have hex : ((iK l 1 p.name).isSome && ((iK l 1 p.name).getD l7).ver != []) = dt (bm l p.name):=by
  rw [qH hn]
  cases bm l p.name with
  | none=>rfl
  | some a =>
   simp only [dt]
   by_cases h : a.kind = 1
   ·simp [h]
   ·simp [h]
 have hver : dt (bm l p.name) = true → ((iK l 1 p.name).getD l7).ver = ly (bm l p.name):=fun h=>by
  rw [qH hn]
  cases ha : bm l p.name with
  | none=>rfl
  | some a =>
   rw [ha] at h
   simp only [dt,Bool.and_eq_true,beq_iff_eq] at h
   simp [h.1,ly]
 unfold kM uW
 simp only
 rw [hex,AJ hn,lJ hn (by decide),entry_eq hn]
 have h1 : (dt (bm l p.name) && !bt p.ver ((iK l 1 p.name).getD l7).ver) = (dt (bm l p.name) && !bt p.ver (ly (bm l p.name))):=by
  cases he : dt (bm l p.name) with
  | false=>rfl
  | true=>rw [hver he]
 rw [h1]
 cases hf : eF s p.name with
 | none =>
  simp only [Option.map_none,Option.isSome_none,Bool.false_and]
  cases (kindOf (bm l p.name) == 2) <;> cases dt (bm l p.name) <;> cases bt p.ver (ly (bm l p.name)) <;> simp
 | some x =>
  have hxn : x.pkg.name = p.name:=by
   have:=List.find?_some hf
   simpa using this
  simp only [Option.map_some,Option.isSome_some,Option.getD_some,Bool.true_and]
  have e1 : (pS l x).hold = nM (bm l p.name) x.hold:=by unfold pS; rw [hxn]
  have e2 : (pS l x).pkg.ver = x.pkg.ver:=rfl
  simp only [e1,e2]
  generalize (kindOf (bm l p.name) == 2) = u1
  generalize dt (bm l p.name) = u2
  generalize bt p.ver (ly (bm l p.name)) = u3
  generalize nM (bm l p.name) x.hold = u4
  generalize bt p.ver x.pkg.ver = u5
  generalize decide (bJ p.ver x.pkg.ver < 0) = u6
  generalize mg l s p.name = u7
  cases u1 <;> cases u2 <;> cases u3 <;> cases u4 <;> cases u5 <;> cases u6 <;> cases u7 <;> rfl
end Go.Proofs.Tryz
end
section
namespace Go.Av
end Go.Av
namespace Go.Proofs.Tryz
open Go Go.Av
theorem s5 (all : List Pkg) (n : List UInt8) : aW all (fun p=>p.name == n) = placesOf all n:=by
 unfold aW plB placesOf
 refine List.filter_congr fun i _=>?_
 cases all[i]? <;> rfl
theorem CH (all : List Pkg) (s : List aK) (l : List aM) : gb all s l = dZ all s l:=by
 unfold gb dZ
 congr 1
 funext a
 congr 2
 rw [Bool.eq_iff_iff,decide_eq_true_eq,List.length_eq_zero_iff]
 simp only [Bool.not_eq_true',List.any_eq_false,beq_iff_eq]
 constructor
 ·intro h p hp hn
  obtain ⟨k,hk⟩:=List.mem_iff_getElem?.1 hp
  have : k ∈ aW all fun p=>p.name == a.name:=n5.2 ⟨p,hk,by simpa using hn⟩
  rw [h] at this
  cases this
 ·intro h
  refine List.eq_nil_iff_forall_not_mem.2 fun k hk=>?_
  obtain ⟨q,h1,h2⟩:=n5.1 hk
  exact h q (List.mem_of_getElem? h1) (by simpa using h2)
end Go.Proofs.Tryz
end
section
namespace Go.Proofs.Tryz
open Go Go.Av
def DQ (all : List Pkg) (i : Nat) : Prop:=i = 0 ∨ ∀ p q,all[i - 1]? = some p → all[i]? = some q → p.name ≠ q.name
theorem E0 {all : List Pkg} {i : Nat} {p : Pkg} (hp : all[i]? = some p) : ∀ q,all[aE all i]? = some q → q.name ≠ p.name:=fun q hq e=>by
 have hr : aE all i = i + ((all.drop i).takeWhile fun q=>q.name == p.name).length:=by simp [aE,hp]
 have h0:=List.takeWhile_append_dropWhile (p:=fun q : Pkg=>q.name == p.name) (l:=all.drop i)
 have h1 : (all.drop i)[((all.drop i).takeWhile fun q=>q.name == p.name).length]? = some q:=by rw [List.getElem?_drop,← hr]; exact hq
 rw [← h0] at h1
 rw [List.getElem?_append_right (by rw [h0]; exact Nat.le_refl _)] at h1
 rw [h0,Nat.sub_self] at h1
 cases hd : (all.drop i).dropWhile fun q=>q.name == p.name with
 | nil=>rw [hd] at h1; cases h1
 | cons x r =>
  rw [hd] at h1
  cases h1
  have:=List.head?_dropWhile_not (fun q : Pkg=>q.name == p.name) (all.drop i)
  rw [hd] at this
  simp [e] at this
theorem wP {all : List Pkg} : ∀ {f i : Nat},all.length < f + i → i ≤ all.length → DQ all i → kl all f i = (List.range' i (all.length - i)).filterMap (oB all)
 | 0,i,hf,hi,hs=>by omega
 | f + 1,i,hf,hi,hs=>by
  rw [kl]
  cases hp : all[i]? with
  | none =>
   have:=List.getElem?_eq_none_iff.1 hp
   rw [show all.length - i = 0 by omega]
   rfl
  | some p =>
   obtain ⟨b1,b2⟩:=eA hp
   have hil:=(List.getElem?_eq_some_iff.1 hp).1
   have hst : DQ all (aE all i):=by
    right
    intro a b ha hb e
    obtain ⟨q,hq,hqn⟩:=kc hp (k:=aE all i - 1) (by omega) (by omega)
    rw [hq] at ha
    cases ha
    exact E0 hp b hb (by rw [← e,hqn])
   have ih:=wP (all:=all) (f:=f) (i:=aE all i) (by omega) b2 hst
   simp only
   rw [ih]
   have e1 : List.range' i (all.length - i) = i :: (List.range' (i + 1) (aE all i - (i + 1)) ++ List.range' (aE all i) (all.length - aE all i)):=by
    have h1:=List.range'_append (s:=i + 1) (m:=aE all i - (i + 1)) (n:=all.length - aE all i) (step:=1)
    rw [Nat.one_mul,show i + 1 + (aE all i - (i + 1)) = aE all i by omega,show aE all i - (i + 1) + (all.length - aE all i) = all.length - (i + 1) by omega] at h1
    rw [h1,show all.length - i = (all.length - (i + 1)) + 1 by omega,List.range'_succ]
   have h0 : oB all i = some p.name:=by
    unfold oB
    rw [hp]
    simp only
    rw [if_pos]
    rcases hs with h | h
    ·exact .inl h
    ·refine .inr fun e=>?_
     cases hq : all[i - 1]? with
     | none =>
      have:=List.getElem?_eq_none_iff.1 hq
      omega
     | some q =>
      rw [hq] at e
      simp at e
      exact h q p hq hp e
   have h2 : (List.range' (i + 1) (aE all i - (i + 1))).filterMap (oB all) = []:=by
    refine List.filterMap_eq_nil_iff.2 fun k hk=>?_
    rw [List.mem_range'_1] at hk
    obtain ⟨q,hq,hqn⟩:=kc hp (k:=k) (by omega) (by omega)
    obtain ⟨q',hq',hqn'⟩:=kc hp (k:=k - 1) (by omega) (by omega)
    unfold oB
    rw [hq]
    simp only
    rw [if_neg]
    rw [hq']
    simp [hqn,hqn']
    omega
   rw [e1,List.filterMap_cons,h0,List.filterMap_append,h2,List.nil_append]
theorem pD (all : List Pkg) : nmB all all.length = kl all (all.length + 1) 0:=by
 rw [wP (by omega) (by omega) (.inl rfl)]
 unfold nmB
 rw [List.range_eq_range',Nat.sub_zero]
end Go.Proofs.Tryz
end
section
namespace Go.Av
open Go.Proofs.Tryz
theorem oh : ∀ (b S : Nat),S.testBit b = true → (∀ j,j < b → S.testBit j = false) → ∀ i,(S &&& (S - 1)).testBit i = (S.testBit i && i != b)
 | 0,S,h,_,i=>by
  have h1 : S % 2 = 1:=by simpa [Nat.testBit_zero] using h
  rw [Nat.testBit_and]
  cases i with
  | zero =>
   have h2 : (S - 1) % 2 = 0:=by omega
   have : (S - 1).testBit 0 = false:=by rw [Nat.testBit_zero]; exact decide_eq_false (by omega)
   rw [this]; simp
  | succ i =>
   rw [Nat.testBit_succ,Nat.testBit_succ,show (S - 1) / 2 = S / 2 by omega]
   simp
 | b + 1,S,h,hl,i=>by
  have h1 : S % 2 = 0:=by
   have:=hl 0 (Nat.succ_pos _)
   rw [Nat.testBit_zero] at this
   have:=of_decide_eq_false this
   omega
  rw [Nat.testBit_succ] at h
  have h0 : S / 2 ≠ 0:=fun e=>by rw [e] at h; simp at h
  have ih:=oh b (S / 2) h (fun j hj=>by rw [← Nat.testBit_succ]; exact hl _ (by omega))
  rw [Nat.testBit_and]
  cases i with
  | zero =>
   have : S.testBit 0 = false:=hl 0 (Nat.succ_pos _)
   rw [this]; simp
  | succ i =>
   rw [Nat.testBit_succ,Nat.testBit_succ,show (S - 1) / 2 = S / 2 - 1 by omega,← Nat.testBit_and,ih i]
   have : (i + 1 != b + 1) = (i != b):=by
    cases hd : (i != b) <;> simp_all
   rw [this]
theorem kZ {k S b : Nat} (hb : S.testBit b = true) (hl : ∀ j,j < b → S.testBit j = false) (hk : b < k) : aO k S = b :: aO k (S &&& (S - 1)):=by
 have hs : ∀ n,(aO k n).Pairwise (· < ·):=fun n=>List.Pairwise.sublist List.filter_sublist List.pairwise_lt_range
 have hm : ∀ i,i ∈ aO k (S &&& (S - 1)) ↔ i ∈ aO k S ∧ i ≠ b:=fun i=>by
  rw [bG,bG,oh b S hb hl i]; simp [and_assoc]
 have hc : (b :: aO k (S &&& (S - 1))).Pairwise (· < ·):=by
  rw [List.pairwise_cons]
  refine ⟨fun i hi=>?_,hs _⟩
  obtain ⟨h1,h2⟩:=(hm i).1 hi
  have h3:=(bG.1 h1).2
  rcases Nat.lt_trichotomy i b with h | h | h
  ·rw [hl i h] at h3; cases h3
  ·exact absurd h h2
  ·exact h
 refine List.Perm.eq_of_pairwise (le:=(· < ·)) (fun a b _ _ h1 h2=>by omega) (hs _) hc ?_
 rw [List.perm_ext_iff_of_nodup ((hs _).imp fun {a b} h=>by omega) (hc.imp fun {a b} h=>by omega)]
 intro i
 rw [List.mem_cons,hm]
 by_cases h : i = b
 ·subst h; simp [bG,hk,hb]
 ·simp [h]
end Go.Av
end
section
namespace Go.Proofs.Tryz
open Go Go.Av
set_option maxRecDepth 10000
variable {W0 : World}
theorem mG (S : Nat) (σ : ab) : aU prog W0 122 [bZ S] σ fun r σ'=>r = .fn 173 [.ptr 100 σ.length 0 []] ∧ σ' = σ ++ [some (.cells 100 [bZ S])]:=by
 refine cB [2] [] func122 rfl rfl ntmps122 rfl rfl fun hs=>?_
 simp only [go_sem,simprocAttr,bZ]
 exact ⟨_,.refl _,_,.refl _,by simp [aa.upd,aa.ag],rfl,rfl⟩
end Go.Proofs.Tryz
end
