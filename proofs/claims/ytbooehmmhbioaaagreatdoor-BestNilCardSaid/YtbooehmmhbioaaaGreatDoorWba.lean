/- Texts that the last one of this claim rests on: a layer over the guide's own conditions for code; contracts of the functions that the law reaches, one by one. No conditions beside those of the given rows. -/
import Derived.Test.YtbooehmmhbioaaaGreatDoorWaq
set_option linter.unusedSimpArgs false
set_option linter.unusedVariables false
section
namespace Go.Av
abbrev Br:=Nat × Nat × Nat
def pz (D : Dat) (gs : List (Bool × List Nat)) (st : List Br) : List Nat:=st.flatMap fun b=>l8 D (gs.drop b.1) b.2.1 b.2.2
def ke (D : Dat) (gs : List (Bool × List Nat)) (st : List Br) : Nat:=(st.map fun b=>gB D (gs.drop b.1) b.2.1 b.2.2).sum
def wz (D : Dat) (b : Br) (i : Nat) : Br:=(b.1 + 1,b.2.1 ||| 2 ^ i,b.2.2 ||| D.kG i)
def kids (D : Dat) (g : Bool × List Nat) (b : Br) : List Br:=(if g.1 = true then [(b.1 + 1,b.2.1,b.2.2)] else []) ++ (g.2.filter fun i=>D.may i && !b.2.2.testBit i).map (wz D b)
section
variable {D : Dat} {gs : List (Bool × List Nat)} {st : List Br} {b : Br}
theorem DV : ∀ (gs : List (Bool × List Nat)) (s c : Nat),0 < gB D gs s c
 | [],_,_=>Nat.one_pos
 | _ :: _,_,_=>by rw [gB]; omega
theorem q8 : ∀ st : List Br,st.length ≤ ke D gs st
 | []=>Nat.le_refl _
 | b :: r=>by
  have h:=q8 r
  have h1:=DV (D:=D) (gs.drop b.1) b.2.1 b.2.2
  unfold ke at *
  rw [List.map_cons,List.sum_cons,List.length_cons]
  omega
theorem nN (x y : List Br) : ke D gs (x ++ y) = ke D gs x + ke D gs y:=by
 unfold ke
 rw [List.map_append,List.sum_append]
theorem nT (x y : List Br) : pz D gs (x ++ y) = pz D gs x ++ pz D gs y:=List.flatMap_append
theorem EM (h : b.1 = gs.length) : pz D gs (st ++ [b]) = pz D gs st ++ (if D.hl b.2.1 = true then [b.2.1] else []) ∧ ke D gs (st ++ [b]) = ke D gs st + 1:=by
 have e : gs.drop b.1 = []:=List.drop_eq_nil_of_le (by omega)
 rw [nT,nN]
 refine ⟨?_,?_⟩
 ·unfold pz
  rw [List.flatMap_cons,e,l8,List.flatMap_nil,List.append_nil]
 ·unfold ke
  simp [e,gB]
theorem DS {g : Bool × List Nat} (h : gs[b.1]? = some g) : pz D gs (st ++ [b]) = pz D gs (st ++ kids D g b) ∧ ke D gs (st ++ [b]) = ke D gs (st ++ kids D g b) + 1:=by
 have e : gs.drop b.1 = g :: gs.drop (b.1 + 1):=by
  have hl:=(List.getElem?_eq_some_iff.1 h)
  rw [List.drop_eq_getElem_cons hl.1,hl.2]
 rw [nT,nN,nT,nN]
 refine ⟨?_,?_⟩
 ·congr 1
  unfold kids
  rw [nT]
  unfold pz
  rw [List.flatMap_cons,e,l8,List.flatMap_nil,List.append_nil]
  congr 1
  ·split <;> simp
  ·rw [List.flatMap_map]
   rfl
 ·unfold kids
  rw [nN]
  unfold ke
  simp only [List.map_cons,List.map_nil,List.sum_cons,List.sum_nil,e,gB,List.map_map]
  have e1 : (List.map (fun b : Br=>gB D (List.drop b.fst gs) b.snd.fst b.snd.snd) (if g.1 = true then [(b.1 + 1,b.2.1,b.2.2)] else [])).sum = if g.1 = true then gB D (gs.drop (b.1 + 1)) b.2.1 b.2.2 else 0:=by
   split <;> simp
  rw [e1]
  have e2 : ((fun b : Br=>gB D (List.drop b.fst gs) b.snd.fst b.snd.snd) ∘ wz D b) = fun i=>gB D (gs.drop (b.1 + 1)) (b.2.1 ||| 2 ^ i) (b.2.2 ||| D.kG i):=rfl
  rw [e2]
  omega
theorem Cd : pz D gs [(0,0,0)] = l8 D gs 0 0 ∧ ke D gs [(0,0,0)] = gB D gs 0 0:=by
 constructor
 ·simp [pz]
 ·simp [ke]
end
end Go.Av
end
