/- What the last text of this claim rests on. No conditions. -/
import Derived.Test.YtbkobngljnnmgaaGreatDoorWad
import Derived.Test.YtbkobngljnnmgaaGreatDoorWah
import Derived.Test.YtbkobngljnnmgaaGreatDoorWau
import Derived.Test.YtbkobngljnnmgaaGreatDoorWav
set_option linter.unusedSimpArgs false
set_option linter.unusedVariables false
section
namespace Go.Av
open Go Go.Sort
theorem CS {α:Type} [Inhabited α] (enc:α->Value)(off:Nat)(d:Array α)(c:Array Value):putCells enc off d c=putCells (λv:Value=>v) off (d.map enc) c:=by
 grind [Sort.putCells]
theorem vE {α:Type} [Inhabited α] (enc:α->Value)(w:World)(b off:Nat)(d:Array α):putRow enc w b off d=putRow (λv:Value=>v) w b off (d.map enc):=by
 unfold putRow;congr 1;grind [CS]
theorem qT {w:World}{b o n:Nat}{arr:Array Value}{t:TypeId}{fr:Nat×Nat}(h:w.heap[b]?=some (.cells arr t fr))(hf:uq fr arr.size)(ho:o<arr.size):w.frozen? ⟨b,o,none⟩=false:=by
 unfold World.frozen?;simp only[h];rcases hf with rfl|hf
 .simp
 grind
end Go.Av
end
section
namespace Go.Proofs.Tryz
open Go Go.Av Go.Sort
set_option maxRecDepth 100000
set_option maxHeartbeats 1000000
variable {W0 :World}
def pK (x:Int):Int:=if x.natAbs<=1000000 then x else 0
theorem Ku (x:Int):(pK x).natAbs<=1000000:=by grind [pK]
def cfI (x y:Int):Int:=orL [sgn ((pK x).natAbs:Nat) ((pK y).natAbs:Nat),sgn (pK x) (pK y)]
theorem Yo (x y:Int):cfI x y<0↔(pK x).natAbs<(pK y).natAbs\/(pK x).natAbs=(pK y).natAbs/\pK x<pK y:=by
 grind [cfI,orL,sgn]
theorem Vb :SWO (ltOf cfI):=by
 refine⟨λx=>?_,λx y z h1 h2=>?_,λx y z h1 h2=>?_⟩<;>simp only[ltOf,decide_eq_true_eq,decide_eq_false_iff_not,Yo]at * <;>omega
theorem TP (σ:ab)(id:Nat)(xs:List Int)(hid:σ[id]?=some (ints xs))(h0:xs≠[])(hx:xs.length<=1000000)(hm: ∀x∈xs,x.natAbs<=1000000):
  aS prog W0 237 [.row 190 id 0 xs.length,.fn 238 []] σ λr σ'=>∃ ys:List Int,ys.Perm xs/\σ'=σ.set id (ints ys):=λw C vs hst hl hv=>by
 obtain _|⟨v1,_|⟨v2,_|⟨_,_⟩⟩⟩:=vs<;>simp at hl
 have h1:=(hv 0 _ _ rfl rfl).aH rfl;have h2:=(hv 1 _ _ rfl rfl).aH rfl;have hid':σ[id]?=some (some (.cells 190 (xs.map (.int .i64)))):=hid;obtain⟨b,base,room,arr,t',fr,m1,m2,mf,m3,m4,cf,m5⟩:=hst.cells hid';have hpos:0<xs.length:=List.length_pos_iff.2 h0;have hsz:af prog 190=1:=by kernel_rfl
 rw[hsz,List.length_map,Nat.mul_one]at m4;cases h1 with
 |row hn hc hi ho=>
 rename_i a cap;obtain⟨b',base',room',e1,e2,e3⟩:=ho _ m1;cases e1;have e4:=e2 (by omega);subst e4;cases h2 with
 |fn f1 f2 f3=>
 rename_i vs
 have:vs=[]:=List.length_eq_zero_iff.1 f1.symm;subst this;rw[Nat.zero_mul,Nat.add_zero];have hcl: ∀x∈xs,pK x=x:=λx hx=>if_pos (hm x hx)
 have hcell: ∀j (h:j<xs.length),arr[base+j]?=some (.int .i64 xs[j]):=λj h=>by
  have hj:(xs.map (AV.int .i64))[j]?=some (.int .i64 xs[j]):=by simp_all
  obtain⟨r1,r2,r3,r4⟩:=m5 j _ hj;rw[hsz]at r4;generalize hcf:cf j=cs at *;cases r1;have:=r4 0 _ rfl;simp_all
 have hH:Holds (λx=>Value.int .i64 (pK x)) w b base xs.toArray:=λj hj=>by
  have hj':j<xs.length:=by omega
  refine⟨?_,qT (n:=0) m2 mf (by omega)⟩;grind [World.cell?]
 refine .inl ⟨⟨_,func237,by kernel_rfl,by kernel_rfl⟩,?_⟩;have hq:=Any.slices_SortFunc Tryz.Ut (λx=>Value.int .i64 (pK x)) (λx=>rfl) cfI Vb 238 #[] b base cap xs.toArray w (enters_of func238 (by kernel_rfl) rfl)
  (λm os dk hs x y=>X5 _ _ (Ku x) (Ku y) _) hH (Array.getElem?_eq_some_iff.1 m2).1 (by grind)
 refine hq.mono λe w' ⟨he,d',n,os,⟨p1,p2,p3⟩,p4,hw⟩=>?_
 have hp:d'.toList.Perm xs:=by
  grind [Array.extract_size]
 unfold sortWorld at hw;rw[vE]at hw;have hll:=hp.length_eq;obtain⟨s1,s2⟩:=hst.BH (fl:=d'.map λx=>Value.int .i64 (pK x)) (n:=n) (os:=os) (ys:=d'.toList.map (AV.int .i64)) (k:=1) hid' m1 hsz (by simp_all) (by simp_all) λi y hy=>by
  rw[List.getElem?_map]at hy;obtain⟨x,hx,rfl⟩:=Option.map_eq_some_iff.1 hy;refine⟨[.int .i64 x],.int _ _,rfl,⟨rfl,by kernel_rfl⟩,λj c hc=>?_⟩;obtain _|j:=j
  .grind
  simp_all
 subst hw;exact⟨_,.tup [],_,C,he,⟨d'.toList,hp,rfl⟩,s2,.tup rfl (λi a v h=>by simp at h),s1⟩
end Go.Proofs.Tryz
end
