/- Texts that the last one of this claim rests on: a layer over the guide's own conditions for code; contracts of the functions that the law reaches, one by one. No conditions beside those of the given rows. -/
import Derived.Test.YtbooehmmhbioaaaGreatDoorWai
import Derived.Test.YtbooehmmhbioaaaGreatDoorWax
import Derived.Test.YtbooehmmhbioaaaGreatDoorWaz
import Derived.Test.YtbooehmmhbioaaaGreatDoorWba
set_option linter.unusedSimpArgs false
set_option linter.unusedVariables false
section
namespace Go.Av
open Go
def yR (σ : ab) (x : AV) (e : TypeId) (xs : List AV) : Prop:=(x = .au ∧ xs = []) ∨ ∃ id,x = .row e id 0 xs.length ∧ σ[id]? = some (some (.cells e xs)) ∧ xs ≠ []
theorem yR.v {σ : ab} {x : AV} {e : TypeId} {xs : List AV} (h : yR σ x e xs) : fk σ x e xs:=by
 rcases h with h | ⟨id,rfl,h,_⟩
 ·exact .inl h
 ·exact .inr ⟨id,0,_,xs,rfl,h,by omega,by simp⟩
theorem yR.ez {st st' : ab} {v : AV} {e : TypeId} {xs : List AV} (h : yR st v e xs) (hk : ∀ j ∈ bb v,st'[j]? = st[j]?) : yR st' v e xs:=by
 rcases h with h | ⟨id,rfl,h,h1⟩
 ·exact .inl h
 ·exact .inr ⟨id,rfl,by rw [hk id (by simp [bb]),h],h1⟩
structure Mn (σ : ab) (x : AV) (e : TypeId) (zs : List AV) (v : AV) (σ' : ab) : Prop where
 row : yR σ' v e zs
 fr : Fr (bb x) σ σ'
 bb : ∀ j ∈ bb v,j ∈ bb x ∨ σ.length ≤ j
theorem cy.Lz {P : Program} {A : aa} {σ : ab} {t u e : TypeId} {x y : AV} {xs ys : List AV} {dst : Option Nat} {k : aa → Prop} (hσ : A.st = σ) (N : Nat) (ho : uB P t u e N = true) (hb : fk σ x e xs) (hy : dB σ y e ys) (h0 : ys ≠ []) (hN : xs.length + ys.length ≤ N)
  (hk : ∀ v σ',Mn σ x e (xs ++ ys) v σ' → k ((A.put dst v).ag σ')) : cy P [t,u] [x,y] dst A k .mk:=by
 subst hσ
 have hkl : (bY x A.st).length = A.st.length:=by unfold bY; split <;> simp
 refine cy.row N ho hb.st hy hN (fun he=>absurd he h0) fun he=>hk _ _ ⟨.inr ⟨A.st.length,by rw [List.length_append],?_,by simp [h0]⟩,?_,fun j hj=>?_⟩
 ·rw [← hkl,List.getElem?_append_right (Nat.le_refl _),Nat.sub_self]
  rfl
 ·refine Fr.app ?_ _
  unfold bY
  split
  ·exact (Fr.refl _ _).set (.inl (by simp [Go.Av.bb])) _
  ·exact .refl _ _
 ·simp [Go.Av.bb] at hj
  subst hj
  exact .inr (Nat.le_refl _)
open Go.Proofs.Tryz
theorem xN {all : List Pkg} : ∀ {f i : Nat},i ≤ all.length → ((cP all f i).map List.length).sum ≤ all.length - i
 | 0,i,_=>by simp [cP]
 | f + 1,i,hi=>by
  rw [cP]
  split
  ·simp
  ·rename_i h
   obtain ⟨p,hp⟩:=get_some (show i < all.length by omega)
   obtain ⟨b1,b2⟩:=eA hp
   have ih:=xN (f:=f) b2
   rw [List.map_cons,List.sum_cons,List.length_range']
   omega
theorem xi {all : List Pkg} (s : List aK) (l : List aM) (hc : oo all) : (aG all s l).map (·.2) = cP all (all.length + 1) 0:=by
 unfold aG
 rw [List.map_map,kr hc (by omega) (fun j p q hj=>by omega)]
 rfl
theorem G0 {l : List Nat} {n : Nat} (h : ∀ i ∈ l,i < n) : bD l < 2 ^ n:=by
 induction l with
 | nil=>exact Nat.two_pow_pos n
 | cons a r ih=>rw [bD]; exact Nat.or_lt_two_pow (Nat.pow_lt_pow_right (by decide) (h a (by simp))) (ih fun i hi=>h i (by simp [hi]))
theorem yL (all : List Pkg) (s : List aK) (l : List aM) : (aG all s l).length ≤ all.length:=by
 unfold aG
 rw [List.length_map,← pD]
 exact uE all all.length
theorem Er {all : List Pkg} (s : List aK) (l : List aM) (hc : oo all) (D : Dat) : gB D (aG all s l) 0 0 + 1 ≤ 2 * 2 ^ all.length:=by
 have hg:=xi s l hc
 have h1:=AR D (gs:=aG all s l) 0 0 fun g hgm=>Ab (all:=all) (f:=all.length + 1) (i:=0) g.2 (by rw [← hg]; exact List.mem_map_of_mem hgm) (by omega)
 have h2:=wb (aG all s l)
 have h3 : ((aG all s l).map fun g=>g.2.length).sum ≤ all.length:=by
  have : (aG all s l).map (fun g=>g.2.length) = ((aG all s l).map (·.2)).map List.length:=by rw [List.map_map]; rfl
  rw [this,hg]
  exact xN (by omega)
 have h4 : 2 ^ ((aG all s l).map fun g=>g.2.length).sum ≤ 2 ^ all.length:=Nat.pow_le_pow_right (by decide) h3
 omega
end Go.Av
namespace Go.Proofs.Tryz
open Go Go.Av
set_option maxRecDepth 10000
set_option maxHeartbeats 2000000
variable {W0 : World}
def gl (gs : List (Bool × List Nat)) : AV:=.sl 37 (gs.map fun g=>l9 g.2)
def gq (gs : List (Bool × List Nat)) : AV:=.sl 4 (gs.map fun g=>.bool g.1)
def dj (all : List Pkg) (s : List aK) (l : List aM) (bud sp : Int) (dn : Bool) (v : AV) : Option cM :=
 cg (bK all) (bq s) (bA l) (gl (aG all s l)) (gq (aG all s l)) (dq all s l) (dN (s.map (ga all))) (.bool (dU l)) (.bool (dZ all s l)) (.int .i64 bud) (.int .i64 sp) (.bool dn) v
theorem Cj {all : List Pkg} {s : List aK} {l : List aM} (hn : (l.map (·.name)).Nodup) (bud : Int) : vC all s l bud = dj all s l bud 0 false .au:=by
 have e1 : (nmB all all.length).map (fun n=>l9 (aW all fun p=>p.name == n)) = (aG all s l).map fun g=>l9 g.2:=by
  unfold aG
  rw [List.map_map,pD]
  refine List.map_congr_left fun n _=>?_
  rw [s5]
  rfl
 have e2 : (nmB all all.length).map (fun n=>AV.bool (pJ l s n)) = (aG all s l).map fun g=>.bool g.1:=by
  unfold aG
  rw [List.map_map,pD]
  refine List.map_congr_left fun n _=>?_
  rw [Im hn]
  rfl
 have e3 : (s.map fun x=>bD (aW all fun p=>p.name == x.pkg.name)) = s.map (ga all):=by
  refine List.map_congr_left fun x _=>?_
  rw [s5]
  rfl
 unfold vC dQ dj gl gq dq
 rw [e1,e2,e3,CH]
def sw (b : Br) : AV:=.agg 171 [.int .i64 (b.1 : Nat),bZ b.2.1,bZ b.2.2]
structure dx (σ : ab) (id : Nat) (all : List Pkg) (s : List aK) (l : List aM) (bud : Int) (st : List Br) (os : List Nat) (sp : Nat) (v3 v12 : AV) (τ : ab) : Prop where
 todo : fk τ v3 171 (st.map sw)
 out : yR τ v12 116 ((os.map fun S=>(iN all s S (dU l),S)).map ek)
 obj : τ[id]? = some (dj all s l bud sp false v12)
 fr : Fr [id] σ τ
 f3 : ∀ j ∈ bb v3,σ.length ≤ j
 f12 : ∀ j ∈ bb v12,σ.length ≤ j
structure I0 (all : List Pkg) (s : List aK) (l : List aM) (bud : Int) (st : List Br) (os : List Nat) (sp : Nat) : Prop where
 perm : (os ++ pz (dI all s l) (aG all s l) st).Perm (l8 (dI all s l) (aG all s l) 0 0)
 cnt : sp + ke (dI all s l) (aG all s l) st = gB (dI all s l) (aG all s l) 0 0
 len : os.length ≤ sp
 bud : bud = 0 ∨ (sp : Int) ≤ bud
 ok : ∀ b ∈ st,b.1 ≤ (aG all s l).length ∧ b.2.1 < 2 ^ all.length ∧ b.2.2 < 2 ^ all.length
 oks : ∀ S ∈ os,S < 2 ^ all.length
section
variable {σ τ : ab} {id : Nat} {all : List Pkg} {s : List aK} {l : List aM} {bud : Int} {st : List Br} {os : List Nat} {sp : Nat} {v3 v12 : AV}
theorem dx.ne3 (h : dx σ id all s l bud st os sp v3 v12 τ) : id ∉ bb v3:=by
 have:=h.obj
 unfold dj cg at this
 exact h.todo.ne this (by decide)
theorem dx.Lo (h : dx σ id all s l bud st os sp v3 v12 τ) : id ∉ bb v12:=by
 have:=h.obj
 unfold dj cg at this
 exact h.out.v.ne this (by decide)
theorem dx.more (h : dx σ id all s l bud st os sp v3 v12 τ) (J : ab) : dx σ id all s l bud st os sp v3 v12 (τ ++ J) :=
 ⟨h.todo.ez fun j hj=>by rw [List.getElem?_append_left (h.todo.lt j hj)],h.out.ez fun j hj=>by rw [List.getElem?_append_left (h.out.v.lt j hj)],by rw [List.getElem?_append_left (List.getElem?_eq_some_iff.1 h.obj).1,h.obj],h.fr.app _,h.f3,h.f12⟩
theorem dx.Rq (h : dx σ id all s l bud st os sp v3 v12 τ) (sp' : Nat) : dx σ id all s l bud st os sp' v3 v12 (τ.set id (dj all s l bud sp' false v12)) :=
 ⟨h.todo.ez fun j hj=>by rw [List.getElem?_set_ne (fun e=>h.ne3 (by rw [e]; exact hj))],h.out.ez fun j hj=>by rw [List.getElem?_set_ne (fun e=>h.Lo (by rw [e]; exact hj))],List.getElem?_set_self (List.getElem?_eq_some_iff.1 h.obj).1,h.fr.set (.inl (by simp)) _,h.f3,h.f12⟩
theorem dx.cut {n : Nat} (h : dx σ id all s l bud st os sp v3 v12 τ) (hn : n ≤ st.length) : dx σ id all s l bud (st.take n) os sp (xc 0 n v3) v12 τ :=
 ⟨by have:=h.todo.cut (a:=0) (b:=n) (Nat.zero_le _) (by rw [List.length_map]; exact hn); rwa [List.drop_zero,Nat.sub_zero,← List.map_take] at this,h.out,h.obj,h.fr,fun j hj=>h.f3 j (by rwa [BE] at hj),h.f12⟩
theorem dx.add {τ' : ab} {v : AV} {S : Nat} (h : dx σ id all s l bud st os sp v3 v12 τ) (ha : Mn τ v12 116 ((os.map fun S=>(iN all s S (dU l),S)).map ek ++ [ek (iN all s S (dU l),S)]) v τ') : dx σ id all s l bud st (os ++ [S]) sp v3 v (τ'.set id (dj all s l bud sp false v)):=by
 have hlen:=h.fr.len
 have hidl:=(List.getElem?_eq_some_iff.1 h.obj).1
 have hobj':=h.obj
 unfold dj cg at hobj'
 have hidv : id ∉ bb v:=fun hj=>by
  rcases ha.bb id hj with h1 | h1
  ·exact h.Lo h1
  ·omega
 have hf : ∀ j ∈ bb v3,τ'[j]? = τ[j]?:=fun j hj=>ha.fr.old j (h.todo.lt j hj) fun hj2=>by
  rcases h.out with ⟨rfl,_⟩ | ⟨ido,rfl,ho,_⟩
  ·simp [bb] at hj2
  ·simp [bb] at hj2
   subst hj2
   exact h.todo.ne ho (by decide) hj
 refine ⟨h.todo.ez fun j hj=>?_,?_,List.getElem?_set_self (Nat.lt_of_lt_of_le hidl ha.fr.len),?_,h.f3,fun j hj=>?_⟩
 ·rw [List.getElem?_set_ne (fun e=>h.ne3 (by rw [e]; exact hj)),hf j hj]
 ·rw [List.map_append,List.map_append]
  exact ha.row.ez fun j hj=>by rw [List.getElem?_set_ne (fun e=>hidv (by rw [e]; exact hj))]
 ·refine Fr.set (id:=id) ⟨by have:=ha.fr.len; omega,fun j hj hF=>?_⟩ (.inl (by simp)) _
  rw [ha.fr.old j (by omega) fun hj2=>by have:=h.f12 j hj2; omega,h.fr.old j hj hF]
 ·rcases ha.bb j hj with h1 | h1
  ·exact h.f12 j h1
  ·omega
theorem dx.push {τ' : ab} {v : AV} {x : Br} (h : dx σ id all s l bud st os sp v3 v12 τ) (ha : Mn τ v3 171 (st.map sw ++ [sw x]) v τ') : dx σ id all s l bud (st ++ [x]) os sp v v12 τ':=by
 have hlen:=h.fr.len
 refine ⟨by rw [List.map_append]; exact ha.row.v,h.out.ez fun j hj=>ha.fr.old j (h.out.v.lt j hj) fun hj2=>?_,by rw [ha.fr.old id (List.getElem?_eq_some_iff.1 h.obj).1 h.ne3,h.obj],?_,fun j hj=>?_,h.f12⟩
 ·rcases h.out with ⟨rfl,_⟩ | ⟨ido,rfl,ho,_⟩
  ·simp [bb] at hj
  ·simp [bb] at hj
   subst hj
   exact h.todo.ne ho (by decide) hj2
 ·exact ⟨by have:=ha.fr.len; omega,fun j hj hF=>by rw [ha.fr.old j (by omega) fun hj2=>by have:=h.f3 j hj2; omega,h.fr.old j hj hF]⟩
 ·rcases ha.bb j hj with h1 | h1
  ·exact h.f3 j h1
  ·omega
end
theorem Iy (hW : p0 W0) (σ : ab) (id : Nat) (all : List Pkg) (s : List aK) (l : List aM) (bud : Int) (hn : (l.map (·.name)).Nodup) (h0 : bO all = 0) (ho : all = dP all) (hmn : ∀ p ∈ all,oK p) (DU : s.length ≤ 10) (hb0 : 0 ≤ bud) (hbm : bud ≤ 1000000000000)
  (hid : σ[id]? = some (dj all s l bud 0 false .au)) :
  aU prog W0 57 [.ptr 96 id 0 []] σ fun r σ'=>Fr [id] σ σ' ∧
   ((0 < bud ∧ bud < gB (dI all s l) (aG all s l) 0 0 ∧ r = .int .i64 11 ∧ ∃ v,σ'[id]? = some (dj all s l bud bud false v)) ∨
    ((bud = 0 ∨ gB (dI all s l) (aG all s l) 0 0 ≤ bud) ∧ r = .int .i64 0 ∧ ∃ (v : AV) (o : List FB),σ'[id]? = some (dj all s l bud (gB (dI all s l) (aG all s l) 0 0) true v) ∧ fk σ' v 116 (o.map ek) ∧ (∀ j ∈ bb v,σ.length ≤ j) ∧ o.Perm (um all s l (dU l)) ∧ o.Pairwise fun x y=>ltB y x = false)):=by
 have hidl:=(List.getElem?_eq_some_iff.1 hid).1
 have h24:=dM h0
 have hcont : oo all:=wJ (by rw [ho]; exact lU (fX h0).2)
 have htot:=Er s l hcont (dI all s l)
 have h2n : 2 ^ all.length ≤ 16777216:=Nat.le_trans (Nat.pow_le_pow_right (n:=2) (by decide) h24) (by decide)
 refine jQ [.tmp 2] [5,8,5000010,3000069,2000072,4000011,2000140,2000003] func57 rfl rfl ntmps57 rfl rfl fun hs=>?_
 have hid':=hid
 simp only [go_sem,simprocAttr]
 refine ah.at [0] (.of (by kernel_rfl)) (fun A=>∃ os sp v3 v12,dx σ id all s l bud [] os sp v3 v12 A.st ∧ I0 all s l bud [] os sp) ?_ fun B ⟨os,sp,v3,v12,hI,hC⟩=>?_
 ·refine ah.cF [0] (.of (by kernel_rfl)) (fun k A=>∃ st os sp v3 v12,A.env 3 = v3 ∧ k = ke (dI all s l) (aG all s l) st ∧ dx σ id all s l bud st os sp v3 v12 A.st ∧ I0 all s l bud st os sp) _ ⟨[(0,0,0)],[],0,_,.au,rfl,rfl,?_⟩ fun k B ⟨st,os,sp,v3,v12,h3,hk,hI,hC⟩=>?_
  ·simp only [go_sem,simprocAttr]
   have hx0 : Ext σ (σ ++ [some (.cells 171 [sw (0,0,0)])]):=Ext.app (.refl _) _
   obtain ⟨r1,r2⟩:=Cd (D:=dI all s l) (gs:=aG all s l)
   refine ⟨⟨.inr ⟨σ.length,0,1,[sw (0,0,0)],rfl,?_,by simp,by simp⟩,.inl ⟨rfl,rfl⟩,?_,Fr.ext hx0,fun j hj=>?_,fun j hj=>by simp [bb] at hj⟩,?_,?_,by simp,?_,fun b hb=>?_,fun S hS=>by cases hS⟩
   ·rw [List.getElem?_append_right (Nat.le_refl _),Nat.sub_self]; rfl
   ·rw [List.getElem?_append_left hidl,hid]; rfl
   ·simp [bb] at hj; omega
   ·rw [r1]; exact .refl _
   ·rw [r2]; omega
   ·omega
   ·simp at hb
    subst hb
    exact ⟨Nat.zero_le _,Nat.two_pow_pos _,Nat.two_pow_pos _⟩
  have hob:=hI.obj
  unfold dj cg gl gq dq at hob
  have hspt : sp ≤ gB (dI all s l) (aG all s l) 0 0:=by have:=hC.cnt; omega
  have hw : IntKind.i64.wrap ((sp : Int) + 1) = ((sp + 1 : Nat) : Int):=by rw [aF (by omega)]; omega
  obtain ⟨τ,hτ⟩ : ∃ τ,τ = B.st.set id (dj all s l bud (sp + 1 : Nat) false v12):=⟨_,rfl⟩
  have hIτ:=hI.Rq (sp + 1)
  rw [← hτ] at hIτ
  unfold dj cg gl gq dq at hτ
  simp only [go_sem,simprocAttr,h3,hI.todo.st.ok,hI.todo.st.un,hI.todo.st.len,hI.todo.st.gT,an hob,ar hob,aL hob,hw,List.length_map]
  refine ⟨fun hpos=>⟨.of (by kernel_rfl),fun hbs=>cJ.ret ?_,fun hbs=>?_⟩,fun hneg=>?_⟩
  ·rw [Bool.and_eq_true,decide_eq_true_eq,beq_iff_eq] at hbs
   have hrl:=q8 (D:=dI all s l) (gs:=aG all s l) st
   have hcnt:=hC.cnt
   have hobj:=hI.obj
   rw [hbs.2] at hobj
   simp only [go_sem,simprocAttr]
   exact ⟨_,.refl _,hI.fr.len,hI.fr,.inl ⟨hbs.1,by omega,rfl,v12,hobj⟩⟩
  ·rw [← hτ]
   clear hτ
   obtain ⟨st',b,rfl⟩ : ∃ st' b,st = st' ++ [b]:=by
    have hne : st ≠ []:=fun e=>by subst e; simp at hpos
    exact ⟨st.dropLast,st.getLast hne,(List.dropLast_concat_getLast hne).symm⟩
   have hrl:=q8 (D:=dI all s l) (gs:=aG all s l) (st' ++ [b])
   have hcnt:=hC.cnt
   have hstl : (st' ++ [b]).length = st'.length + 1:=by simp
   have hwl : IntKind.i64.wrap (((st'.length + 1 : Nat) : Int) - 1) = (st'.length : Int):=by rw [aF (by omega)]; omega
   have hcut:=(hIτ.cut (n:=st'.length) (by omega)).more [none]
   rw [List.take_left' rfl] at hcut
   obtain ⟨hb1,hb2,hb3⟩:=hC.ok b (by simp)
   have hidx : ∃ idt off zs,v3 = .row 171 idt off (st'.length + 1) ∧ τ[idt]? = some (some (.cells 171 zs)) ∧ zs[off + st'.length]? = some (sw b):=by
    rcases hIτ.todo with ⟨_,hnil⟩ | ⟨idt,off,m,zs,rfl,hz,hle,hx⟩
    ·simp at hnil
    have hml : m = st'.length + 1:=by
     have:=congrArg List.length hx
     rw [List.length_map,hstl,List.length_take,List.length_drop] at this
     omega
    subst hml
    refine ⟨idt,off,zs,rfl,hz,?_⟩
    have h1 : ((st' ++ [b]).map sw)[st'.length]? = some (sw b):=by simp
    rw [hx,List.getElem?_take,if_pos (by omega),List.getElem?_drop] at h1
    exact h1
   obtain ⟨idt,off,zs,rfl,hzτ,hzi⟩:=hidx
   have hobu:=hcut.obj
   have hbud1 : bud = 0 ∨ ((sp + 1 : Nat) : Int) ≤ bud:=by
    rcases hC.bud with h | h
    ·exact .inl h
    ·by_cases hz : bud = 0
     ·exact .inl hz
     ·right
      have h1 : decide (0 < bud) = true:=decide_eq_true (by omega)
      rw [h1,Bool.true_and] at hbs
      have : (sp : Int) ≠ bud:=by simpa using hbs
      omega
   unfold dj cg gl gq dq at hobu
   simp only [go_sem,simprocAttr,hwl,an hzτ,ar hzτ,Int.toNat_natCast,hzi,sw,bZ,an hobu,ar hobu,List.length_map]
   refine ⟨by omega,by omega,.of (by kernel_rfl),fun hleaf=>?_,fun hnode=>?_⟩
   ·have hbud' : bud = 0 ∨ ((sp + 1 : Nat) : Int) ≤ bud:=hbud1
    have hleaf' : b.1 = (aG all s l).length:=by simpa using hleaf
    have hhl:=zg (W0:=W0) hW _ id all s l b.2.1 h24 hb2 hcut.obj
    refine aj.reads (by simp only [go_sem,simprocAttr]) hhl ?_
    simp only [go_sem,simprocAttr]
    have hcut' : dx σ id all s l bud st' os (sp + 1) (.row 171 idt off st'.length) v12 (τ ++ [none]):=by simpa [xc] using hcut
    have hleafR:=EM (D:=dI all s l) (gs:=aG all s l) (st:=st') hleaf'
    refine cU.at [0,3] (by kernel_rfl) (fun A=>∃ v,dx σ id all s l bud st' (if eo all b.2.1 = true then os ++ [b.2.1] else os) (sp + 1) (.row 171 idt off st'.length) v A.st) (fun hh=>?_) (fun hh=>?_) fun B1 ⟨v,hI1⟩=>?_
    ·rw [if_pos hh]
     have hco:=CT (W0:=W0) hW _ id all s l b.2.1 (dU l) h24 (fun p hp=>by have:=(gI (dm h0 hp)).rcm.1; omega) DU hb2 hcut.obj
     simp only [go_sem,simprocAttr,bZ,an hobu,ar hobu]
     refine ⟨.of (by kernel_rfl),aB.st hco ?_⟩
     obtain ⟨c,hc⟩ : ∃ c,c = iN all s b.2.1 (dU l):=⟨_,rfl⟩
     rw [← hc]
     have hco1 : ∀ g,okM g (du c) = True:=fun g=>bP trivial
     have hco2 : unm (du c) = du c:=rfl
     have hco3 : bf prog 39 (du c) = true:=by kernel_rfl
     have hosl : os.length ≤ sp:=hC.len
     simp only [go_sem,simprocAttr,an hobu,ar hobu,hco1,hco2,hco3,hcut'.out.v.st.ok,hcut'.out.v.st.un]
     refine cy.Lz (σ:=τ ++ [none]) (by simp only [go_sem,simprocAttr]) 1000000000 (by kernel_rfl) hcut'.out.v (.lit _ _ _) (by simp) (by simp; omega) fun v τ2 ha=>?_
     have hadd:=hcut'.add (by rw [hc] at ha; exact ha)
     have hob2 : τ2[id]? = some (dj all s l bud (sp + 1 : Nat) false v12):=by rw [ha.fr.old id (List.getElem?_eq_some_iff.1 hcut'.obj).1 hcut'.Lo,hcut'.obj]
     unfold dj cg gl gq dq at hob2
     simp only [go_sem,simprocAttr,an hob2,ar hob2,aL hob2,ha.row.v.st.ok,ha.row.v.st.un,ha.row.v.st.fits]
     exact ⟨v,hadd⟩
    ·rw [if_neg (by rw [hh]; decide)]
     simp only [go_sem,simprocAttr]
     exact ⟨v12,hcut'⟩
    ·simp only [go_sem,simprocAttr]
     have hperm:=hC.perm
     rw [hleafR.1] at hperm
     refine .here (ke (dI all s l) (aG all s l) st') (by rw [hk,hleafR.2]; omega) ⟨st',_,sp + 1,_,v,rfl,rfl,hI1,?_,by have:=hleafR.2; omega,?_,hbud',fun x hx=>hC.ok x (by simp [hx]),?_⟩
     ·by_cases hh : eo all b.2.1 = true
      ·rw [if_pos hh]
       rw [if_pos (show (dI all s l).hl b.2.1 = true from hh)] at hperm
       refine List.Perm.trans ?_ hperm
       rw [List.append_assoc]
       exact List.Perm.append_left _ List.perm_append_comm
      ·rw [if_neg hh]
       rw [if_neg (show ¬ (dI all s l).hl b.2.1 = true from hh),List.append_nil] at hperm
       exact hperm
     ·have:=hC.len
      split
      ·simp; omega
      ·omega
     ·intro S hS
      split at hS
      ·rcases List.mem_append.1 hS with h | h
       ·exact hC.oks S h
       ·simp at h; rw [h]; exact hb2
      ·exact hC.oks S hS
   ·have hblt : b.1 < (aG all s l).length:=by
     have : b.1 ≠ (aG all s l).length:=by simpa using hnode
     omega
    obtain ⟨g,hg⟩:=get_some hblt
    have hnodeR:=DS (D:=dI all s l) (st:=st') hg
    have hatw : atV ((aG all s l).map fun g=>AV.bool g.1) (b.1 : Int) = .bool g.1:=ay hg
    have hatn : atV ((aG all s l).map fun g=>l9 g.2) (b.1 : Int) = .sl 3 (g.2.map fun k=>.int .i64 (k : Nat)):=ay hg
    have hcut' : dx σ id all s l bud st' os (sp + 1) (.row 171 idt off st'.length) v12 (τ ++ [none]):=by simpa [xc] using hcut
    obtain ⟨k0,hk0⟩ : ∃ k0 : List Br,k0 = if g.1 = true then [(b.1 + 1,b.2.1,b.2.2)] else []:=⟨_,rfl⟩
    have hgl : (aG all s l).length ≤ 24:=by
     have h1:=yL all s l
     omega
    have hwb : IntKind.i64.wrap ((b.1 : Int) + 1) = ((b.1 + 1 : Nat) : Int):=by rw [aF (by omega)]; omega
    have hstl2 : st'.length ≤ 100000000:=by omega
    simp only [go_sem,simprocAttr,hatw,an hobu,ar hobu,List.length_map]
    refine ⟨.of (by kernel_rfl),hblt,cU.at [0,5] (by kernel_rfl) (fun A=>∃ v3,A.env 3 = v3 ∧ dx σ id all s l bud (st' ++ k0) os (sp + 1) v3 v12 A.st) (fun hh=>?_) (fun hh=>?_) fun B1 ⟨v3,h3',hI1⟩=>?_⟩
    ·rw [if_pos hh] at hk0
     simp only [go_sem,simprocAttr,hwb]
     refine cy.Lz (σ:=τ ++ [none]) (by simp only [go_sem,simprocAttr]) 1000000000 (by kernel_rfl) hcut'.todo (.lit _ _ _) (by simp) (by simp; omega) fun v τ2 ha=>?_
     have hpu:=hcut'.push (x:=(b.1 + 1,b.2.1,b.2.2)) ha
     simp only [go_sem,simprocAttr,ha.row.v.st.ok,ha.row.v.st.un]
     rw [hk0]
     exact ⟨v,rfl,hpu⟩
    ·rw [if_neg (by rw [hh]; decide)] at hk0
     simp only [go_sem,simprocAttr]
     rw [hk0,List.append_nil]
     exact ⟨_,rfl,hcut'⟩
    ·have hob1:=hI1.obj
     unfold dj cg gl gq dq at hob1
     have hg2 : ∃ n,g.2 = placesOf all n:=by
      have hgm:=List.mem_of_getElem? hg
      unfold aG at hgm
      obtain ⟨n,_,rfl⟩:=List.mem_map.1 hgm
      exact ⟨n,rfl⟩
     obtain ⟨n,hgn⟩:=hg2
     have hg24 : ∀ i ∈ g.2,i < all.length:=fun i hi=>by
      rw [hgn] at hi
      obtain ⟨q,hq,_⟩:=aY.1 hi
      exact (List.getElem?_eq_some_iff.1 hq).1
     have hg2l : g.2.length ≤ 24:=by
      rw [hgn]
      unfold placesOf
      exact Nat.le_trans (List.length_filter_le _ _) (by rw [List.length_range]; exact h24)
     have hk0l : k0.length ≤ 1:=by rw [hk0]; split <;> simp
     obtain ⟨P,hP⟩ : ∃ P : Nat → Bool,P = fun i=>(dI all s l).may i && !b.2.2.testBit i:=⟨_,rfl⟩
     simp only [go_sem,simprocAttr,h3',an hob1,ar hob1,hatn,List.length_map]
     refine ⟨.of (by kernel_rfl),hblt,?_⟩
     refine ah.ats [0,5,101,102] (.of (by kernel_rfl)) (fun A=>∃ v3,A.env 3 = v3 ∧ dx σ id all s l bud (st' ++ (k0 ++ (g.2.filter P).map (wz (dI all s l) b))) os (sp + 1) v3 v12 A.st) ?_ fun B2 ⟨v3,h3',hI2⟩=>?_
     ·refine ah.upto [0,5,101,102] (.of (by kernel_rfl)) g.2.length (fun i A=>A.env 103 = .int .i64 i ∧ ∃ v3,A.env 3 = v3 ∧ dx σ id all s l bud (st' ++ (k0 ++ ((g.2.take i).filter P).map (wz (dI all s l) b))) os (sp + 1) v3 v12 A.st) 0 (Nat.zero_le _) ?_ fun i B2 hi ⟨h103,v3,h3',hI2⟩=>?_
      ·simp only [go_sem,simprocAttr,h3']
       exact ⟨_,rfl,by simpa using hI1⟩
      have hob2:=hI2.obj
      unfold dj cg gl gq dq at hob2
      simp only [go_sem,simprocAttr,h103,h3']
      refine ⟨fun hlt=>?_,fun hge=>?_⟩
      ·obtain ⟨y,hy⟩:=get_some hlt
       have hyn:=hg24 y (List.mem_of_getElem? hy)
       obtain ⟨p,hp⟩:=get_some hyn
       have hatV : atV (g.2.map fun k=>AV.int .i64 (k : Nat)) (i : Int) = .int .i64 (y : Nat):=ay hy
       have hat:=o5 (s:=s) (l:=l) hp
       have hlen : ((List.range all.length).map fun i=>fG all s l i ((all[i]?).getD vw)).length = all.length:=by rw [List.length_map,List.length_range]
       have h232 : b.2.2 < 4294967296:=by omega
       have hpw : 2 ^ y < 4294967296:=lr (by omega)
       have hand:=fh b.2.2 (2 ^ y) h232 hpw
       have hor1:=gH b.2.1 (2 ^ y) (by omega) hpw
       have hcl : fF all y < 4294967296:=kB fun z hz=>by have:=(List.mem_filter.1 hz).1; rw [List.mem_range] at this; omega
       have hor2:=gH b.2.2 (fF all y) h232 hcl
       have hz : (((b.2.2 &&& 2 ^ y : Nat) : Int) == 0) = !b.2.2.testBit y:=by
        rw [← wI,Bool.eq_iff_iff]; simp
       have hPy : P y = (kM l s p && !b.2.2.testBit y):=by
        rw [hP]
        show (xm all s l y && _) = _
        unfold xm
        rw [hp]
        simp only [Mb hn]
       have hfl : (g.2.take (i + 1)).filter P = (g.2.take i).filter P ++ if P y = true then [y] else []:=by
        rw [ak hy,List.filter_append,List.filter_cons,List.filter_nil]
       have hkl : (st' ++ (k0 ++ ((g.2.take i).filter P).map (wz (dI all s l) b))).length ≤ 100000100:=by
        have:=List.length_filter_le P (g.2.take i)
        simp only [List.length_append,List.length_map,List.length_take] at *
        omega
       simp only [go_sem,simprocAttr,h103,h3',hatV,an hob2,ar hob2,hat,hlen,List.length_map]
       refine ⟨hlt,hyn,.of (by kernel_rfl),aB.fnG (fun _=>oN y (by omega)) ?_⟩
       simp only [go_sem,simprocAttr,hand,hz]
       rw [← hPy]
       have hIf:=hI2.more [none]
       refine ⟨fun hh=>?_,fun hh=>?_⟩
       ·rw [if_pos hh] at hfl
        refine ⟨.of (by kernel_rfl),?_⟩
        refine aB.fn (oN y (by omega)) ?_
        simp only [go_sem,simprocAttr,hor1,hor2,hwb,h3',hIf.todo.st.ok,hIf.todo.st.un,bZ]
        refine cy.Lz (σ:=B2.st ++ [none]) (ys:=[sw (wz (dI all s l) b y)]) (by first | rfl | simp only [go_sem,simprocAttr]) 1000000000 (by kernel_rfl) hIf.todo (.lit _ _ _) (by simp) (by rw [List.length_map]; simp only [List.length_cons,List.length_nil]; omega) fun v τ2 ha=>?_
        have hpu:=hIf.push (x:=wz (dI all s l) b y) ha
        simp only [go_sem,simprocAttr,h103,ha.row.v.st.ok,ha.row.v.st.un]
        refine ⟨hlt,aq hlt (by rw [av]; omega),v,rfl,?_⟩
        rw [hfl,List.map_append,← List.append_assoc,← List.append_assoc]
        rw [List.append_assoc st' k0]
        exact hpu
       ·rw [if_neg (by rw [hh]; decide),List.append_nil] at hfl
        simp only [go_sem,simprocAttr,h103,h3']
        rw [hfl]
        exact ⟨hlt,aq hlt (by rw [av]; omega),_,rfl,hIf⟩
      ·rw [List.take_of_length_le hge] at hI2
       exact ⟨_,rfl,hI2⟩
     ·simp only [go_sem,simprocAttr,h3']
      have hkids : k0 ++ (g.2.filter P).map (wz (dI all s l) b) = kids (dI all s l) g b:=by
       unfold kids
       rw [hk0,hP]
      rw [hkids] at hI2
      have hperm:=hC.perm
      rw [hnodeR.1] at hperm
      refine .here (ke (dI all s l) (aG all s l) (st' ++ kids (dI all s l) g b)) (by rw [hk,hnodeR.2]; omega) ⟨_,os,sp + 1,v3,v12,by simp only [go_sem,simprocAttr,h3'],rfl,hI2,hperm,by have:=hnodeR.2; omega,by have:=hC.len; omega,hbud1,fun x hx=>?_,hC.oks⟩
      rcases List.mem_append.1 hx with hx | hx
      ·exact hC.ok x (by simp [hx])
      ·rw [← hkids] at hx
       rcases List.mem_append.1 hx with hx | hx
       ·rw [hk0] at hx
        split at hx
        ·simp at hx
         subst hx
         exact ⟨hblt,hb2,hb3⟩
        ·cases hx
       ·obtain ⟨y,hy,rfl⟩:=List.mem_map.1 hx
        have hyn:=hg24 y (List.mem_filter.1 hy).1
        refine ⟨hblt,Nat.or_lt_two_pow hb2 (Nat.pow_lt_pow_right (by decide) hyn),Nat.or_lt_two_pow hb3 ?_⟩
        exact G0 fun z hz=>by have:=(List.mem_filter.1 hz).1; rw [List.mem_range] at this; exact this
  ·have hst0 : st = []:=by
    cases st with
    | nil=>rfl
    | cons a r=>exact absurd hneg (by simp)
   subst hst0
   exact ⟨os,sp,v3,v12,hI,hC⟩
 ·have hob:=hI.obj
  unfold dj cg gl gq dq at hob
  have hcnt:=hC.cnt
  rw [show ke (dI all s l) (aG all s l) [] = 0 from rfl,Nat.add_zero] at hcnt
  have hperm:=hC.perm
  rw [show pz (dI all s l) (aG all s l) [] = [] from rfl,List.append_nil] at hperm
  have hpf : (os.map fun S=>(iN all s S (dU l),S)).Perm (um all s l (dU l)):=hperm.map _
  have hfok : ∀ x ∈ (os.map fun S=>(iN all s S (dU l),S)),Ei x:=fun x hx=>by
   obtain ⟨S,hS,rfl⟩:=List.mem_map.1 hx
   have:=hC.oks S hS
   exact ⟨lR _ _ _ _ _ _,by show S < _; omega⟩
  have hbud2 : bud = 0 ∨ ((gB (dI all s l) (aG all s l) 0 0 : Nat) : Int) ≤ bud:=by rw [← hcnt]; exact hC.bud
  rcases hI.out with ⟨rfl,hnil⟩ | ⟨ido,rfl,hz,hne⟩
  ·simp only [go_sem,simprocAttr,an hob,ar hob]
   refine aj.fn wm ?_
   simp only [go_sem,simprocAttr,an hob,ar hob,aL hob]
   have hos : os = []:=by simpa using hnil
   subst hos
   refine cJ.ret ?_
   simp only [go_sem,simprocAttr]
   refine ⟨_,.refl _,by have:=hI.fr.len; simpa using this,hI.fr.set (.inl (by simp)) _,.inr ⟨hbud2,rfl,.au,[],?_,.inl ⟨rfl,rfl⟩,fun j hj=>by simp [bb] at hj,hpf,.nil⟩⟩
   rw [← hcnt,List.getElem?_set_self (List.getElem?_eq_some_iff.1 hI.obj).1]
   rfl
  ·obtain ⟨xs,hxs⟩ : ∃ xs,xs = os.map fun S=>(iN all s S (dU l),S):=⟨_,rfl⟩
   rw [← hxs] at hz hne hpf hfok hob hI
   have hxl : xs.length ≤ 1000000000:=by rw [hxs,List.length_map]; have:=hC.len; omega
   have hso:=zl (W0:=W0) B.st ido xs hz (fun e=>hne (by rw [e]; rfl)) hxl hfok
   simp only [go_sem,simprocAttr,an hob,ar hob,List.length_map]
   refine aj.goes (by simp only [go_sem,simprocAttr]) hso fun r σ1 ⟨ys,hy1,hy2,hσ1⟩=>?_
   subst hσ1
   have hidne : id ≠ ido:=fun e=>by
    have:=hI.obj
    unfold dj cg at this
    rw [e,hz] at this
    simp at this
   have hob2 : (B.st.set ido (some (.cells 116 (ys.map ek))))[id]? = some (dj all s l bud sp false (.row 116 ido 0 (xs.map ek).length)):=by rw [List.getElem?_set_ne (Ne.symm hidne),hI.obj]
   have hob2':=hob2
   unfold dj cg gl gq dq at hob2
   simp only [go_sem,simprocAttr,an hob2,ar hob2,aL hob2]
   refine cJ.ret ?_
   simp only [go_sem,simprocAttr]
   have hf12:=hI.f12 ido (by simp [bb])
   have hidol : ido < (B.st).length:=(List.getElem?_eq_some_iff.1 hz).1
   have hidl2 : id < B.st.length:=(List.getElem?_eq_some_iff.1 hI.obj).1
   refine ⟨_,.refl _,by have:=hI.fr.len; simpa using this,(hI.fr.set (.inr hf12) _).set (.inl (by simp)) _,.inr ⟨hbud2,rfl,.row 116 ido 0 (xs.map ek).length,ys,?_,?_,fun j hj=>?_,hy1.trans hpf,hy2⟩⟩
   ·rw [← hcnt,List.getElem?_set_self (by simpa using hidl2)]
    rfl
   ·refine .inr ⟨ido,0,_,ys.map ek,rfl,?_,?_,?_⟩
    ·rw [List.getElem?_set_ne hidne,List.getElem?_set_self hidol]
    ·simp [hy1.length_eq]
    ·rw [List.drop_zero,List.take_of_length_le (by simp [hy1.length_eq])]
   ·simp [bb] at hj
    subst hj
    exact hf12
end Go.Proofs.Tryz
end
section
namespace Go.Proofs.Tryz
open Go Go.Av
set_option maxRecDepth 10000
set_option maxHeartbeats 2000000
variable {W0 : World}
structure Hv (all : List Pkg) (s : List aK) (l : List aM) : Prop where
 h0 : bO all = 0
 ho : all = dP all
 hmn : ∀ p ∈ all,oK p
 DU : s.length ≤ 10
 hU : Uni all s l
def Bk (all : List Pkg) (s : List aK) (l : List aM) : Nat:=gB (dI all s l) (aG all s l) 0 0
def tH (all : List Pkg) (s : List aK) (l : List aM) : List FB:=(nn all s l (dU l)).map toB
inductive SSt | fresh | run (o : List FB) | fail
def Fm (σ : ab) (id : Nat) (all : List Pkg) (s : List aK) (l : List aM) (bud : Int) : SSt → Prop
 | .fresh=>σ[id]? = some (dj all s l bud 0 false .au)
 | .run o=>dZ all s l = false ∧ (∃ v,σ[id]? = some (dj all s l bud (Bk all s l) true v) ∧ fk σ v 116 (o.map ek)) ∧ ∀ x ∈ o,x.1.length = 5 ∧ x.2 < 2 ^ all.length
 | .fail=>dZ all s l = false ∧ 0 < bud ∧ ∃ v,σ[id]? = some (dj all s l bud bud false v)
def iX (all : List Pkg) (s : List aK) (l : List aM) (bud : Int) (st : SSt) : Option FB × Int × SSt :=
 if dZ all s l = true then (none,0,st) else match st with
  | .fail=>(none,11,.fail)
  | .fresh=>if 0 < bud ∧ bud < Bk all s l then (none,11,.fail) else ((tH all s l).head?,0,.run (tH all s l).tail)
  | .run o=>(o.head?,0,.run o.tail)
def sY (all : List Pkg) : Option FB → Int → AV
 | none,e=>.tup [bK [],du [0,0,0,0,0],.bool false,.int .i64 e]
 | some x,e=>.tup [bK (atL all (aO all.length x.2)),du x.1,.bool true,.int .i64 e]
theorem Hv.UQ {all : List Pkg} {s : List aK} {l : List aM} (h : Hv all s l) (hnv : dZ all s l = false) {o : List FB} (hp : o.Perm (um all s l (dU l))) (hs : o.Pairwise fun x y=>ltB y x = false) : o = tH all s l :=
 zx (dM h.h0) (fun p hp=>dm h.h0 hp) (wJ (by rw [h.ho]; exact lU (fX h.h0).2)) h.hU hnv _ hp hs
theorem Et (σ : ab) (id : Nat) (all : List Pkg) (s : List aK) (l : List aM) (bud : Int) (v : AV) (hb : 0 < bud) (hid : σ[id]? = some (dj all s l bud bud false v)) :
  aU prog W0 57 [.ptr 96 id 0 []] σ fun r σ'=>r = .int .i64 11 ∧ σ' = σ:=by
 have hidl:=(List.getElem?_eq_some_iff.1 hid).1
 refine aU.back (.int _ _) ?_
 refine jQ [.tmp 2] [5,8,5000010,3000069,2000072,4000011,2000140,2000003] func57 rfl rfl ntmps57 rfl rfl fun hs=>?_
 simp only [go_sem,simprocAttr]
 refine ah.at [0] (.of (by kernel_rfl)) (fun A=>False) ?_ fun B hF=>hF.elim
 refine ah.cF [0] (.of (by kernel_rfl)) (fun k A=>A.env 3 = .row 171 σ.length 0 1 ∧ Ext σ A.st) 0 ?_ fun k B ⟨h3,hx⟩=>?_
 ·simp only [go_sem,simprocAttr]
  exact Ext.app (.refl _) _
 have hob : B.st[id]? = some (dj all s l bud bud false v):=by
  have e:=congrArg (·[id]?) hx
  simp only [List.getElem?_take,if_pos hidl] at e
  rw [e,hid]
 unfold dj cg at hob
 have hc : (decide (0 < bud) && (bud == bud)) = true:=by simp [hb]
 have hd : decide (0 < bud) = true:=decide_eq_true hb
 simp only [go_sem,simprocAttr,h3,an hob,ar hob,hd]
 refine ⟨.of (by kernel_rfl),cJ.ret ?_⟩
 simp only [go_sem,simprocAttr]
 exact ⟨_,.refl _,hx.le,.refl _,hx⟩
@[go_sem] theorem OH {A : aa} (t u v w : ResultVar) : p8 A [t,u,v,w] = .tup [iG A t,iG A u,iG A v,iG A w]:=rfl
theorem uQ {n : Nat} (D : Dat) : ∀ {gs : List (Bool × List Nat)} (s c : Nat),(∀ g ∈ gs,∀ i ∈ g.2,i < n) → s < 2 ^ n → ∀ S ∈ l8 D gs s c,S < 2 ^ n
 | [],s,c,_,h,S,hS=>by
  rw [l8] at hS
  split at hS
  ·simp at hS; rw [hS]; exact h
  ·cases hS
 | g :: r,s,c,hg,h,S,hS=>by
  rw [l8] at hS
  rcases List.mem_append.1 hS with hS | hS
  ·split at hS
   ·exact uQ D s c (fun g' h'=>hg g' (by simp [h'])) h S hS
   ·cases hS
  ·obtain ⟨i,hi,hS⟩:=List.mem_flatMap.1 hS
   exact uQ D _ _ (fun g' h'=>hg g' (by simp [h'])) (Nat.or_lt_two_pow h (Nat.pow_lt_pow_right (by decide) (hg g (by simp) i (List.mem_filter.1 hi).1))) S hS
theorem Cm {all : List Pkg} (s : List aK) (l : List aM) (D : Dat) (t c : Nat) (ht : t < 2 ^ all.length) {S : Nat} (hS : S ∈ l8 D (aG all s l) t c) : S < 2 ^ all.length:=by
 refine uQ D t c (fun g hg i hi=>?_) ht S hS
 unfold aG at hg
 obtain ⟨n,_,rfl⟩:=List.mem_map.1 hg
 obtain ⟨q,hq,_⟩:=aY.1 hi
 exact (List.getElem?_eq_some_iff.1 hq).1
theorem jF (all : List Pkg) (e : Int) : cI (.tup [.au,.agg 39 [.int .i64 0,.int .i64 0,.int .i64 0,.int .i64 0,.int .i64 0],.bool false,.int .i64 e]) (sY all none e):=by
 refine .tup rfl fun i x y hx hy=>?_
 match i,hx,hy with
 | 0,hx,hy=>cases hx; cases hy; exact .au _
 | 1,hx,hy=>cases hx; cases hy; exact .refl _
 | 2,hx,hy=>cases hx; cases hy; exact .refl _
 | 3,hx,hy=>cases hx; cases hy; exact .refl _
theorem G4 (hW : p0 W0) (σ : ab) (id : Nat) (all : List Pkg) (s : List aK) (l : List aM) (bud : Int) (st : SSt) (hH : Hv all s l) (hb0 : 0 ≤ bud) (hbm : bud ≤ 1000000000000) (hst : Fm σ id all s l bud st) :
  aU prog W0 14 [.ptr 96 id 0 []] σ fun r σ'=>r = sY all (iX all s l bud st).1 (iX all s l bud st).2.1 ∧ Fr [id] σ σ' ∧ Fm σ' id all s l bud (iX all s l bud st).2.2:=by
 obtain ⟨sp,dn,v,hob,hdn,hvn⟩ : ∃ (sp : Int) (dn : Bool) (v : AV),σ[id]? = some (dj all s l bud sp dn v) ∧ (dn = true ↔ ∃ o,st = .run o) ∧ (dZ all s l = true → v = .au):=by
  cases st with
  | fresh=>exact ⟨0,false,.au,hst,by simp,fun _=>rfl⟩
  | run o=>obtain ⟨h0,⟨v,h1,_⟩,_⟩:=hst; exact ⟨_,true,v,h1,by simp,fun h=>absurd h0 (by rw [h]; decide)⟩
  | fail=>obtain ⟨h0,_,v,h1⟩:=hst; exact ⟨_,false,v,h1,by simp,fun h=>absurd h0 (by rw [h]; decide)⟩
 have hidl:=(List.getElem?_eq_some_iff.1 hob).1
 have hn:=hH.hU.asks
 refine jQ [.tmp 2,.cell 3 39,.tmp 4,.tmp 5] [7,3000059,4000011] func14 rfl rfl ntmps14 rfl rfl fun hs=>?_
 have hob1 : ∀ J,(σ ++ J)[id]? = some (dj all s l bud sp dn v):=fun J=>by rw [List.getElem?_append_left hidl,hob]
 have hob2:=hob1
 unfold dj cg at hob2
 simp only [go_sem,simprocAttr,an (hob2 _),ar (hob2 _)]
 obtain ⟨cz,hcz⟩ : ∃ cz : Option cM,cz = some (.cells 39 [.agg 39 [.int .i64 0,.int .i64 0,.int .i64 0,.int .i64 0,.int .i64 0]]):=⟨_,rfl⟩
 have hz0 : (σ ++ [cz])[σ.length]? = some cz:=by rw [List.getElem?_append_right (Nat.le_refl _),Nat.sub_self]; rfl
 have hfr0 : Fr [id] σ (σ ++ [cz]):=Fr.ext (Ext.app (.refl _) _)
 have hrv : ∀ {J : ab} {o : List FB} {w : AV},fk σ w 116 (o.map ek) → fk (σ ++ J) w 116 (o.map ek):=fun h=>h.ez fun j hj=>by rw [List.getElem?_append_left (h.lt j hj)]
 refine cU.at [0,3] (by kernel_rfl) (fun A=>A.st[σ.length]? = some cz ∧ Fr [id] σ A.st ∧ ((dZ all s l = true ∧ A.st = σ ++ [cz]) ∨ (∃ o,Fm A.st id all s l bud (.run o) ∧ iX all s l bud st = (o.head?,0,.run o.tail)))) (fun hc=>?_) (fun hc=>?_) fun B ⟨hz,hfr,hcase⟩=>?_
 ·simp only [Bool.and_eq_true,Bool.not_eq_true'] at hc
  obtain ⟨hc1,hc2⟩:=hc
  cases st with
  | fresh =>
   have hst0 : (σ ++ [cz])[id]? = some (dj all s l bud 0 false .au):=by rw [List.getElem?_append_left hidl]; exact hst
   have hfi:=Iy (W0:=W0) hW (σ ++ [cz]) id all s l bud hn hH.h0 hH.ho hH.hmn hH.DU hb0 hbm hst0
   simp only [go_sem,simprocAttr]
   refine aj.goes (by simp only [go_sem,simprocAttr]; rw [hcz]) hfi fun r σ1 ⟨hfr1,hr⟩=>?_
   have hfr2 : Fr [id] σ σ1:=⟨by have:=hfr1.len; simp at this; omega,fun j hj hF=>by rw [hfr1.old j (by simp; omega) hF,hfr0.old j hj hF]⟩
   have hz1 : σ1[σ.length]? = some cz:=by rw [hfr1.old σ.length (by simp) (by simp; omega),hz0]
   rcases hr with ⟨g1,g2,rfl,w,g3⟩ | ⟨g1,rfl,w,o,g3,g4,g5,g6,g7⟩
   ·have hnx : iX all s l bud .fresh = (none,11,.fail):=by
     unfold iX
     rw [if_neg (by rw [hc2]; decide)]
     exact if_pos ⟨g1,g2⟩
    rw [hnx]
    have hz1':=hz1
    rw [hcz] at hz1'
    simp only [go_sem,simprocAttr,an hz1',ar hz1',aL hz1',fK hz1']
    refine cJ.ret ?_
    simp only [go_sem,simprocAttr,an hz1',ar hz1',iG]
    exact ⟨_,jF all 11,hfr2.len,rfl,hfr2,hc2,g1,w,g3⟩
   ·have hob3:=g3
    have ho:=hH.UQ hc2 g6 g7
    simp only [go_sem,simprocAttr]
    refine ⟨hz1,hfr2,.inr ⟨tH all s l,⟨hc2,⟨w,g3,by rw [← ho]; exact g4⟩,fun x hx=>?_⟩,?_⟩⟩
    ·rw [← ho] at hx
     obtain ⟨S,hS,rfl⟩:=List.mem_map.1 (g6.subset hx)
     exact ⟨lR _ _ _ _ _ _,Cm s l _ 0 0 (Nat.two_pow_pos _) hS⟩
    ·unfold iX
     rw [if_neg (by rw [hc2]; decide)]
     exact if_neg (by unfold Bk; omega)
  | run o=>exact absurd (hdn.2 ⟨o,rfl⟩) (by rw [hc1]; decide)
  | fail =>
   obtain ⟨_,q1,w,q2⟩:=hst
   have hst0 : (σ ++ [cz])[id]? = some (dj all s l bud bud false w):=by rw [List.getElem?_append_left hidl]; exact q2
   have hnx : iX all s l bud .fail = (none,11,.fail):=by
    unfold iX
    rw [if_neg (by rw [hc2]; decide)]
   rw [hnx]
   have hz1':=hz0
   rw [hcz] at hz1'
   simp only [go_sem,simprocAttr]
   refine aj.reads (by simp only [go_sem,simprocAttr]; rw [hcz]) (Et (σ ++ [cz]) id all s l bud w q1 hst0) ?_
   simp only [go_sem,simprocAttr,an hz1',ar hz1',aL hz1',fK hz1']
   refine cJ.ret ?_
   simp only [go_sem,simprocAttr,an hz1',ar hz1',iG]
   rw [hcz] at hfr0 hst0
   exact ⟨_,jF all 11,by simp,rfl,hfr0,hc2,q1,w,hst0⟩
 ·have hc' : dn = true ∨ dZ all s l = true:=by
   cases dn <;> simp_all
  simp only [go_sem,simprocAttr]
  rw [← hcz]
  refine ⟨rfl,hfr0,?_⟩
  by_cases hnv : dZ all s l = true
  ·exact .inl ⟨hnv,rfl⟩
  ·have hd : dn = true:=by rcases hc' with h | h; exact h; exact absurd h hnv
   obtain ⟨o,rfl⟩:=hdn.1 hd
   obtain ⟨p1,⟨w,p2,p3⟩,p4⟩:=hst
   refine .inr ⟨o,⟨p1,⟨w,by rw [List.getElem?_append_left hidl]; exact p2,hrv p3⟩,p4⟩,?_⟩
   unfold iX
   rw [if_neg hnv]
 ·have hz1:=hz
  rw [hcz] at hz1
  rcases hcase with ⟨hnv,hBst⟩ | ⟨o,⟨p1,⟨w,p2,p3⟩,p4⟩,hnx⟩
  ·have hnx : iX all s l bud st = (none,0,st):=by unfold iX; rw [if_pos hnv]
   have hvn':=hvn hnv
   subst hvn'
   have hob3 : B.st[id]? = some (dj all s l bud sp dn .au):=by rw [hBst,List.getElem?_append_left hidl,hob]
   unfold dj cg at hob3
   rw [hnx]
   simp only [go_sem,simprocAttr,an hob3,ar hob3,hnv,an hz1,ar hz1,aL hz1,fK hz1]
   refine cJ.ret ?_
   simp only [go_sem,simprocAttr,an hz1,ar hz1,iG]
   refine ⟨_,jF all 0,by rw [hBst]; simp,rfl,hfr,?_⟩
   cases st with
   | fresh =>
    show B.st[id]? = _
    rw [hBst,List.getElem?_append_left hidl]
    exact hst
   | run o=>exact absurd hst.1 (by rw [hnv]; decide)
   | fail=>exact absurd hst.1 (by rw [hnv]; decide)
  ·have hob3:=p2
   unfold dj cg at hob3
   rw [hnx]
   simp only [go_sem,simprocAttr,an hob3,ar hob3,p3.st.ok,p3.st.un,p3.st.len,p3.st.gT,p1,List.length_map,an hz1,ar hz1,aL hz1,fK hz1]
   refine ⟨fun h0=>cJ.ret ?_,fun h0=>?_⟩
   ·have ho : o = []:=List.length_eq_zero_iff.1 (by omega)
    subst ho
    simp only [go_sem,simprocAttr,an hz1,ar hz1,iG]
    exact ⟨_,jF all 0,hfr.len,rfl,hfr,p1,⟨w,p2,p3⟩,p4⟩
   ·obtain ⟨x,r,rfl⟩ : ∃ x r,o = x :: r:=by
     cases o with
     | nil=>exact absurd rfl h0
     | cons x r=>exact ⟨x,r,rfl⟩
    have hcut:=p3.cut (a:=1) (b:=(x :: r).length) (by simp) (by simp)
    rcases p3 with ⟨rfl,hnil⟩ | ⟨ido,off,m,zs,rfl,hz2,hle,hx⟩
    ·simp at hnil
    have hml : m = r.length + 1:=by
     have:=congrArg List.length hx
     simp only [List.length_map,List.length_cons,List.length_take,List.length_drop] at this
     omega
    subst hml
    have hzi : zs[off + 0]? = some (ek x):=by
     have h1 : ((x :: r).map ek)[0]? = some (ek x):=rfl
     rw [hx,List.getElem?_take,if_pos (by omega),List.getElem?_drop] at h1
     exact h1
    have hob4 : (B.st ++ [none])[id]? = some (dj all s l bud (Bk all s l) true (.row 116 ido off (r.length + 1))):=by rw [List.getElem?_append_left (List.getElem?_eq_some_iff.1 p2).1]; exact p2
    have hob5:=hob4
    unfold dj cg at hob5
    obtain ⟨τ,hτ⟩ : ∃ τ,τ = (B.st ++ [none]).set id (dj all s l bud (Bk all s l) true (.row 116 ido (off + 1) r.length)):=⟨_,rfl⟩
    have hlid : id < (B.st ++ [none]).length:=(List.getElem?_eq_some_iff.1 hob4).1
    have hobτ : τ[id]? = some (dj all s l bud (Bk all s l) true (.row 116 ido (off + 1) r.length)):=by rw [hτ]; exact List.getElem?_set_self hlid
    have hne1 : id ≠ σ.length:=by omega
    have hzτ : τ[σ.length]? = some cz:=by rw [hτ,List.getElem?_set_ne hne1,List.getElem?_append_left (List.getElem?_eq_some_iff.1 hz).1,hz]
    have hzτ':=hzτ
    rw [hcz] at hzτ'
    obtain ⟨hx5,hx2⟩:=p4 x (by simp)
    have hwh:=D1 (W0:=W0) hW τ id all x.2 hH.h0 hH.ho hH.hmn hx2 hobτ
    have hτ':=hτ
    unfold dj cg at hτ'
    have hco1 : ∀ g,okM g (du x.1) = True:=fun g=>bP trivial
    have hco2 : unm (du x.1) = du x.1:=rfl
    have hco3 : bf prog 39 (du x.1) = true:=by kernel_rfl
    simp only [go_sem,simprocAttr,an hz2,ar hz2,hzi,ek,bZ,an hob5,ar hob5,aL hob5,List.length_cons]
    rw [← hτ']
    refine ⟨.of (by kernel_rfl),aB.st hwh ?_⟩
    simp only [go_sem,simprocAttr,hco1,hco2,hco3,an hzτ',ar hzτ',aL hzτ']
    have hl3 : σ.length < τ.length:=(List.getElem?_eq_some_iff.1 hzτ).1
    have hlk : (τ.set σ.length (some (.cells 39 [du x.1])))[σ.length]? = some (some (.cells 39 [du x.1])):=List.getElem?_set_self hl3
    have hco4 : ∀ σ',pY none σ' 39 (.loc 39 (du x.1)) = True:=fun σ'=>eq_true rfl
    have hfrτ : Fr [id] σ τ:=by rw [hτ]; exact (hfr.app _).set (.inl (by simp)) _
    refine cJ.ret ?_
    simp only [go_sem,simprocAttr,an hlk,ar hlk,iG]
    refine ⟨_,.refl _,by simpa using hfrτ.len,rfl,hfrτ.set (.inr (Nat.le_refl _)) _,p1,⟨.row 116 ido (off + 1) r.length,?_,?_⟩,fun y hy=>p4 y (List.mem_cons_of_mem _ hy)⟩
    ·rw [List.getElem?_set_ne (Ne.symm hne1)]; exact hobτ
    ·have hidne : ido ≠ id:=fun e=>by
      rw [e] at hz2
      unfold dj cg at p2
      rw [hz2] at p2
      simp at p2
     have hidne2 : ido ≠ σ.length:=fun e=>by
      rw [e,hz1] at hz2
      simp at hz2
     have hr : fk B.st (.row 116 ido (off + 1) r.length) 116 (r.map ek):=by
      have h:=hcut
      simp only [xc,List.length_cons,Nat.add_sub_cancel,List.map_cons,List.drop_succ_cons,List.drop_zero] at h
      rwa [List.take_of_length_le (by simp)] at h
     refine hr.ez fun j hj=>?_
     simp [bb] at hj
     subst hj
     rw [List.getElem?_set_ne (Ne.symm hidne2),hτ,List.getElem?_set_ne (Ne.symm hidne),List.getElem?_append_left (List.getElem?_eq_some_iff.1 hz2).1]
end Go.Proofs.Tryz
end
section
namespace Go.Proofs.Tryz
open Go Go.Av
set_option maxRecDepth 10000
variable {W0 : World}
theorem zA (fs gs : List AV) : gu prog 39 fs gs = sx [1,1,1,1,1] fs gs:=by
 have hu : prog.underlying 39 = some (.array 5 3):=by kernel_rfl
 have hc : (ae prog 3 == 1 && !prog.eqGuardType prog.depth 39) = true:=by kernel_rfl
 have hf : bp prog 39 = some [3,3,3,3,3]:=by kernel_rfl
 have hk : [3,3,3,3,3].map (eqK prog) = [1,1,1,1,1]:=by kernel_rfl
 unfold gu
 simp only [hu]
 rw [if_pos hc,hf,Option.bind_some,y7,hk]
theorem z7 {a b : List Nat} (ha : a.length = 5) (hb : b.length = 5) : gu prog 39 (a.map fun x=>.int .i64 (x : Nat)) (b.map fun x=>.int .i64 (x : Nat)) = some (decide (a = b)):=by
 rw [zA]
 match a,ha,b,hb with
 | [a0,a1,a2,a3,a4],_,[b0,b1,b2,b3,b4],_ =>
  simp only [List.map_cons,List.map_nil,sx,zf,if_true,Option.bind_some,Option.map_some,Bool.and_true,Option.some.injEq]
  rw [Bool.eq_iff_iff]
  simp [Int.ofNat_inj]
def bwA : Pkg:=⟨[97,97],[49],[],[[⟨[98,98],0,[]⟩,⟨[99,99],0,[]⟩]],[],[],[],[],false⟩
def bwB : Pkg:=⟨[98,98],[49],[],[],[],[],[],[],false⟩
def bwC : Pkg:=⟨[99,99],[49],[],[],[],[],[],[],false⟩
def bwL : List Pkg:=[bwA,bwB,bwC]
def bwQ : List aM:=[⟨1,[97,97],[]⟩]
theorem Ug : mb bwL [] bwQ = 0:=by decide +kernel
theorem Qk : dZ bwL [] bwQ = false:=by decide +kernel
theorem G1 : (tH bwL [] bwQ).head? = some ([0,0,0,2,0],3):=by decide +kernel
theorem Ef : ∀ p ∈ bwL,oK p:=fun p hp=>by
 simp [bwL] at hp
 rcases hp with rfl | rfl | rfl <;> exact ⟨by decide,by decide,by decide⟩
theorem Qm : Hv bwL [] bwQ:=⟨by decide +kernel,by decide +kernel,Ef,by decide,⟨by decide +kernel,by decide +kernel,fun x hx=>by cases hx⟩⟩
theorem Ch (hW : p0 W0) : af prog W0 10 [] (.bool true):=by
 refine .Mq (.bool _) fun σ=>?_
 refine jQ [.tmp 0] [5] func10 rfl rfl ntmps10 rfl rfl fun hs=>?_
 simp only [go_sem,simprocAttr]
 refine aj.goes (by simp only [go_sem,simprocAttr]) ((K4 σ bwL [] bwQ 0 Ef (fun x hx=>by cases hx)).cK (.cons (.sub (iU (n:=10) (by kernel_rfl))) (.cons (.au _) (.cons (.sub (iU (n:=10) (by kernel_rfl))) (.cons (.refl _) .nil))))) fun r σ1 ⟨hx,hr⟩=>?_
 rcases hr with ⟨h,_⟩ | ⟨_,id,rfl,hid,hob⟩
 ·exact absurd Ug h
 rw [Cj Qm.hU.asks] at hob
 simp only [go_sem,simprocAttr]
 have hn:=G4 hW σ1 id bwL [] bwQ 0 .fresh Qm (by decide) (by decide) hob
 have hnx : iX bwL [] bwQ 0 .fresh = (some ([0,0,0,2,0],3),0,.run (tH bwL [] bwQ).tail):=by
  unfold iX
  rw [if_neg (by rw [Qk]; decide)]
  simp only [G1]
  rfl
 rw [hnx] at hn
 refine aj.goes (by simp only [go_sem,simprocAttr]) hn fun r σ2 ⟨hr,hfr,_⟩=>?_
 subst hr
 have hpk : atL bwL (aO bwL.length 3) = [bwA,bwB]:=by decide +kernel
 have a1 : ∀ (x y : AV) (l : List AV),atV (x :: y :: l) 1 = y:=fun _ _ _=>rfl
 simp only [go_sem,simprocAttr,sY,hpk,bK,du,List.map_cons,List.map_nil,List.length_cons,List.length_nil,a1]
 simp only [go_sem,simprocAttr,ax,bwB]
 have heq : gu prog 39 [AV.int .i64 0,AV.int .i64 0,AV.int .i64 0,AV.int .i64 2,AV.int .i64 0] [AV.int .i64 0,AV.int .i64 0,AV.int .i64 0,AV.int .i64 2,AV.int .i64 0] = some true:=z7 (a:=[0,0,0,2,0]) (b:=[0,0,0,2,0]) rfl rfl
 rw [heq]
 refine ⟨rfl,cJ.ret ?_⟩
 simp only [go_sem,simprocAttr,Option.map_some,Option.getD_some]
 have hle:=hfr.len
 have hl1:=hx.le
 refine ⟨_,.refl _,by first | omega | (simp; omega),.refl _,?_⟩
 exact (hfr.EW hx fun j hj=>by simp at hj; omega).app _
end Go.Proofs.Tryz
end
section
namespace Go.Proofs.Tryz
open Go Go.Av
set_option maxRecDepth 10000
variable {W0 : World}
theorem Hu (all : List Pkg) (o : Option FB) (e : Int) : aN 0 (sY all o e):=by
 cases o with
 | none =>
  refine .tup fun x hx=>?_
  simp at hx
  rcases hx with rfl | rfl | rfl | rfl
  ·exact oA _
  ·exact qU _
  ·exact .bool _
  ·exact .int _ _
 | some y =>
  refine .tup fun x hx=>?_
  simp at hx
  rcases hx with rfl | rfl | rfl | rfl
  ·exact oA _
  ·exact qU _
  ·exact .bool _
  ·exact .int _ _
theorem Dn : af prog W0 14 [.nil] (sY [] none 1):=by
 refine kJ [.tmp 2,.cell 3 39,.tmp 4,.tmp 5] [] func14 rfl rfl ntmps14 rfl rfl (Hu _ _ _) fun hs σ=>?_
 simp only [go_sem,simprocAttr]
 exact jF [] 1
theorem Bf : af prog W0 26 [.nil] (.int .i64 0):=by
 refine ai [2] [] func26 rfl rfl ntmps26 rfl rfl (.int _ _) fun hs σ=>?_
 simp only [go_sem,simprocAttr]
 try exact .refl _
theorem HG (i : Int) : af prog W0 28 [.nil,.int .i64 i] (.int .i64 0):=by
 refine ai [4] [] func28 rfl rfl ntmps28 rfl rfl (.int _ _) fun hs σ=>?_
 simp only [go_sem,simprocAttr,ve]
 try exact .refl _
theorem Hb : af prog W0 30 [.nil] (.int .i64 0):=by
 refine ai [2] [] func30 rfl rfl ntmps30 rfl rfl (.int _ _) fun hs σ=>?_
 simp only [go_sem,simprocAttr]
 try exact .refl _
theorem Bj : af prog W0 31 [.nil,.au] (.bool false):=by
 refine ai [4] [] func31 rfl rfl ntmps31 rfl rfl (.bool _) fun hs σ=>?_
 simp only [go_sem,simprocAttr]
 try exact .refl _
theorem HM (hW : p0 W0) (i : Int) : af prog W0 8 [.int .i64 i] (.bool true):=by
 refine ai [2] [6] func8 rfl rfl ntmps8 rfl rfl (.bool _) fun hs σ=>?_
 simp only [go_sem,simprocAttr]
 refine aj.fn Dn ?_
 simp only [go_sem,simprocAttr,sY,bK,du,List.map_cons,List.map_nil,List.length_nil]
 have heq : gu prog 39 [AV.int .i64 0,AV.int .i64 0,AV.int .i64 0,AV.int .i64 0,AV.int .i64 0] [AV.int .i64 0,AV.int .i64 0,AV.int .i64 0,AV.int .i64 0,AV.int .i64 0] = some true:=z7 (a:=[0,0,0,0,0]) (b:=[0,0,0,0,0]) rfl rfl
 simp only [go_sem,simprocAttr,heq,Option.isSome_some,Option.map_some,Option.getD_some]
 refine aB.fnG (fun _=>Bf) ?_
 simp only [go_sem,simprocAttr]
 refine aB.fnG (fun _=>HG i) ?_
 simp only [go_sem,simprocAttr]
 refine aB.fnG (fun _=>Bj) ?_
 simp only [go_sem,simprocAttr]
 refine aB.fnG (fun _=>Hb) ?_
 simp only [go_sem,simprocAttr]
 refine aB.fnG (fun _=>Ch hW) ?_
 simp only [go_sem,simprocAttr]
 try exact .refl _
end Go.Proofs.Tryz
end
