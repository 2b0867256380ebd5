/- Texts that the last one of this claim rests on: a layer over the guide's own conditions for code; contracts of the functions that the law reaches, one by one. No conditions beside those of the given rows. -/
import Derived.Lib.Bytealg
import Derived.Test.YtljcjoglabbcoaaGreatDoorWa
import Derived.Test.YtljcjoglabbcoaaGreatDoorWk
section
namespace Go.Av
open Go

def idxL {α : Type} (q : α → Bool) (l : List α) : Int := match l.findIdx? q with | some i => i | none => -1

theorem idxL_at {α : Type} {q : α → Bool} {l : List α} {i : Nat} {a : α} (h : l[i]? = some a) (hq : q a = true) (hn : ∀ b ∈ l.take i, q b = false) : idxL q l = i := by
  have : l.findIdx? q = some i := by
    obtain ⟨hi, he⟩ := List.getElem?_eq_some_iff.1 h
    refine List.findIdx?_eq_some_iff_getElem.2 ⟨hi, by rw [he]; exact hq, fun j hj => ?_⟩
    have := hn l[j] (List.mem_of_getElem? (i := j) (by rw [List.getElem?_take, if_pos hj]; exact List.getElem?_eq_getElem (by omega)))
    simp [this]
  rw [idxL, this]

theorem idxL_none {α : Type} {q : α → Bool} {l : List α} (hn : ∀ b ∈ l, q b = false) : idxL q l = -1 := by
  have : l.findIdx? q = none := List.findIdx?_eq_none_iff.2 hn
  rw [idxL, this]

theorem idxL_ge {α : Type} {q : α → Bool} {l : List α} : decide (0 ≤ idxL q l) = l.any q := by
  unfold idxL
  cases h : l.findIdx? q with
  | none =>
    have := List.findIdx?_eq_none_iff.1 h
    have e : l.any q = false := by rw [List.any_eq_false]; intro x hx; simp [this x hx]
    rw [e]; rfl
  | some i =>
    obtain ⟨hi, h1, _⟩ := List.findIdx?_eq_some_iff_getElem.1 h
    have e : l.any q = true := List.any_eq_true.2 ⟨_, List.getElem_mem hi, h1⟩
    rw [e]
    simp

theorem look_set {σ : Store} {id : Nat} {te : TypeId} {xs : List AV} (h : id < σ.length) (i : Nat) (path : List Nat) : look (σ.set id (some (.cells te xs))) id i path = (xs[i]?).bind (·.at path) := by simp [look, h]
theorem look_id {σ : Store} {id : Nat} {te : TypeId} {xs : List AV} (h : σ[id]? = some (some (.cells te xs))) (i : Nat) (path : List Nat) : look σ id i path = (xs[i]?).bind (·.at path) := by simp [look, h]
theorem setLook_set {σ : Store} {id : Nat} {te : TypeId} {xs : List AV} (h : id < σ.length) (i : Nat) (path : List Nat) (v : AV) : setLook (σ.set id (some (.cells te xs))) id i path v = σ.set id (some (.cells te (xs.set i ((xs[i]?.getD .undef).setAt path v)))) := by simp [setLook, h]
theorem setLook_id {σ : Store} {id : Nat} {te : TypeId} {xs : List AV} (h : σ[id]? = some (some (.cells te xs))) (i : Nat) (path : List Nat) (v : AV) : setLook σ id i path v = σ.set id (some (.cells te (xs.set i ((xs[i]?.getD .undef).setAt path v)))) := by simp [setLook, h]
theorem set_id {σ : Store} {id : Nat} {o : Option SObj} (h : σ[id]? = some o) : σ.set id o = σ := by
  obtain ⟨h1, h2⟩ := List.getElem?_eq_some_iff.1 h
  rw [← h2, List.set_getElem_self]

@[go_sem] theorem setAt_cons (t : TypeId) (fs : List AV) (k : Nat) (r : List Nat) (v : AV) : (AV.agg t fs).setAt (k :: r) v = .agg t (fs.set k ((fs[k]?.getD .undef).setAt r v)) := by
  cases h : fs[k]? with
  | none => simp only [AV.setAt, h, Option.getD_none]; rw [List.set_eq_of_length_le (List.getElem?_eq_none_iff.1 h)]
  | some y => simp only [AV.setAt, h, Option.getD_some]

/-- A call from a store that is known. -/
theorem CallA.go {P : Program} {W0 : World} {A : AState} {g : FuncId} {caps us : List AV} {dst : Option Nat} {k : AState → Prop} {Q : AV → Store → Prop} {σ : Store} (hσ : A.st = σ) (h : ACall P W0 g (us ++ caps) σ Q) (hk : ∀ r σ', Q r σ' → k ((A.put dst r).withSt σ')) : CallA P W0 (.fn g caps) us dst A k .mk := by
  subst hσ
  exact h.mono hk
theorem CallA.goes {P : Program} {W0 : World} {A : AState} {g : FuncId} {us : List AV} {dst : Option Nat} {k : AState → Prop} {Q : AV → Store → Prop} {σ : Store} (hσ : A.st = σ) (h : ACall P W0 g us σ Q) (hk : ∀ r σ', Q r σ' → k ((A.put dst r).withSt σ')) : CallA P W0 (.fn g []) us dst A k .mk := .go hσ (by simpa using h) hk
/-- One that leaves the store as it was. -/
theorem CallA.reads {P : Program} {W0 : World} {A : AState} {g : FuncId} {us : List AV} {dst : Option Nat} {k : AState → Prop} {r : AV} {σ : Store} (hσ : A.st = σ) (h : ACall P W0 g us σ fun r' σ' => r' = r ∧ σ' = σ) (hk : k (A.put dst r)) : CallA P W0 (.fn g []) us dst A k .mk := .goes hσ h fun r' σ' ⟨h1, h2⟩ => by
  subst h1 h2 hσ
  rwa [put_withSt]

theorem u8_wrap (c : UInt8) : IntKind.u8.wrap (c.toNat : Int) = c.toNat := by
  have := c.toNat_lt
  show (c.toNat : Int) % 256 = c.toNat
  omega
theorem encL_ascii {c : UInt8} (h : c.toNat < 128) : encL (c.toNat : Int) = [c] := by
  have hv : Utf8.valid (c.toNat : Int) = true := by
    simp only [Utf8.valid]
    simp
    omega
  have e : Utf8.encode (c.toNat : Int) = ⟨#[UInt8.ofNat c.toNat]⟩ := by
    unfold Utf8.encode
    rw [if_pos hv, if_pos (by simpa using h)]
    simp
  rw [encL, e]
  simp

/-- Two texts, by their bytes. -/
def cmpS (a b : List UInt8) : Int := if Op.bytesLess a b = true then -1 else if a = b then 0 else 1

/-- The first that isn't 0. -/
def orL : List Int → Int
  | [] => 0
  | x :: r => if x ≠ 0 then x else orL r

theorem indexByte_firstOf (s : List UInt8) (c : UInt8) : Lib.indexByte s c = firstOf c s := by
  induction s with
  | nil => rfl
  | cons d r ih =>
    unfold Lib.indexByte
    cases h : d == c with
    | true => simp [firstOf, List.findIdx?_cons, h]
    | false =>
      simp only [Bool.false_eq_true, if_false, ih]
      rcases firstOf_cases c r with ⟨h1, h2⟩ | ⟨i, h1, _, _⟩
      · rw [h1]
        have : (d :: r).findIdx? (· == c) = none := List.findIdx?_eq_none_iff.2 fun x hx => by
          rcases List.mem_cons.1 hx with rfl | hx
          · exact h
          · simp; intro e; subst e; exact h2 hx
        simp [firstOf, this]
      · have hne : ((firstOf c r) == -1) = false := by rw [h1, beq_eq_false_iff_ne]; omega
        rw [hne]
        simp only [Bool.false_eq_true, if_false]
        have hf : r.findIdx? (· == c) = some i := by
          unfold firstOf at h1
          split at h1
          · rename_i j hj; rw [hj]; congr 1; omega
          · omega
        rw [h1]
        simp [firstOf, List.findIdx?_cons, h, hf]

theorem firstOf_ge (s : List UInt8) (c : UInt8) : decide (0 ≤ firstOf c s) = s.contains c := by
  rcases firstOf_cases c s with ⟨h1, h2⟩ | ⟨i, h1, h2, _⟩
  · rw [h1]; simp [h2]
  · rw [h1]
    have : c ∈ s := List.mem_of_getElem? h2
    simp [this]

/-- Ahead of a sign, behind it, and whether it is there. -/
def cutA (c : UInt8) (s : List UInt8) : List UInt8 := if 0 ≤ firstOf c s then s.take (firstOf c s).toNat else s
def cutB (c : UInt8) (s : List UInt8) : List UInt8 := if 0 ≤ firstOf c s then s.drop ((firstOf c s).toNat + 1) else []
def cutAV (c : UInt8) (s : List UInt8) : AV := .tup [.str (cutA c s), .str (cutB c s), .bool (decide (0 ≤ firstOf c s))]
theorem cutAV_ids (c : UInt8) (s : List UInt8) : IdsLt 0 (cutAV c s) := by
  refine .tup fun x hx => ?_
  simp at hx
  rcases hx with rfl | rfl | rfl <;> first | exact .str _ | exact .bool _

end Go.Av
end
section
namespace Go.Av

def rankP (c : UInt8) : Int := if c.toNat = 126 then -1 else if letterC c then c.toNat else c.toNat + 256
/-- A sign's rank at a text's beginning, as the program counts. -/
def rkP : List UInt8 → Int
  | [] => 0
  | c :: _ => if digitC c then 0 else rankP c

theorem letterC_le {c : UInt8} (h : letterC c = true) : 65 ≤ c.toNat ∧ c.toNat ≤ 122 := by
  simp only [letterC, smallC, Bool.or_eq_true, Bool.and_eq_true, decide_eq_true_eq] at h
  omega

theorem rk_ranges (c : UInt8) (h : digitC c = false) : (rk [c] = -1 ∧ rkP [c] = -1 ∧ c.toNat = 126) ∨ (rk [c] = 1 + c.toNat ∧ rkP [c] = c.toNat ∧ 65 ≤ c.toNat ∧ c.toNat ≤ 122) ∨ (rk [c] = 300 + c.toNat ∧ rkP [c] = 256 + c.toNat ∧ True) := by
  simp only [rk, rkP, h, Bool.false_eq_true, if_false, rankC, rankP]
  by_cases h1 : c.toNat = 126
  · left; simp [h1]
  · right
    simp only [h1, if_false]
    cases h2 : letterC c with
    | true => left; simp only [if_true, true_and]; exact letterC_le h2
    | false => right; simp only [Bool.false_eq_true, if_false, true_and, and_true]; omega

theorem rkP_all (a : List UInt8) : (rk a = 0 ∧ rkP a = 0) ∨ ∃ c r, a = c :: r ∧ digitC c = false ∧ rk a = rk [c] ∧ rkP a = rkP [c] := by
  cases a with
  | nil => exact .inl ⟨rfl, rfl⟩
  | cons c r =>
    cases h : digitC c with
    | true => left; simp [rk, rkP, h]
    | false => right; exact ⟨c, r, rfl, h, rfl, rfl⟩

theorem rkP_cmp (a b : List UInt8) : sgn (rkP a) (rkP b) = sgn (rk a) (rk b) := by
  have key : (rkP a < rkP b ↔ rk a < rk b) ∧ (rkP a > rkP b ↔ rk a > rk b) := by
    rcases rkP_all a with ⟨a1, a2⟩ | ⟨c, r, _, hc, a1, a2⟩ <;> rcases rkP_all b with ⟨b1, b2⟩ | ⟨d, r', _, hd, b1, b2⟩
    · rw [a1, a2, b1, b2]; simp
    · rcases rk_ranges d hd with h | h | h <;> rw [a1, a2, b1, b2, h.1, h.2.1] <;> omega
    · rcases rk_ranges c hc with h | h | h <;> rw [a1, a2, b1, b2, h.1, h.2.1] <;> omega
    · have hc8 := c.toNat_lt
      have hd8 := d.toNat_lt
      rcases rk_ranges c hc with h | h | h <;> rcases rk_ranges d hd with h' | h' | h' <;> rw [a1, a2, b1, b2, h.1, h.2.1, h'.1, h'.2.1] <;> omega
  unfold sgn
  simp only [key.1, key.2]

theorem sgn_zero {a b : Int} : sgn a b = 0 ↔ a = b := ⟨sgn_eq, fun h => by rw [h, sgn_self]⟩
theorem rkP_eq (a b : List UInt8) : rkP a = rkP b ↔ rk a = rk b := by rw [← sgn_zero, rkP_cmp, sgn_zero]
theorem rkP_zero (a : List UInt8) : rkP a = 0 ↔ rk a = 0 := rkP_eq a []

theorem skipD_rk {a : List UInt8} (h : rk a = 0) : skipD a = a := by
  cases a with
  | nil => rfl
  | cons c r =>
    cases hd : digitC c with
    | true => simp [skipD, hd]
    | false => exact absurd h (by simp [rk, hd, rankC_ne])

theorem skipD_tail {a : List UInt8} (h : rk a ≠ 0) : skipD a.tail = skipD a := by
  obtain ⟨c, r, rfl, hd⟩ := rk_ne h
  simp [skipD, hd]

/-- Digits at a text's beginning without noughts ahead. -/
def digsP (s : List UInt8) : List UInt8 := (s.takeWhile digitC).dropWhile (· == 48)
def restP (s : List UInt8) : List UInt8 := s.dropWhile digitC

theorem digit48 : digitC 48 = true := by decide

theorem digs_rest (s : List UInt8) : digsP s = (skip0 s).take (runS (skip0 s)) ∧ restP s = (skip0 s).drop (runS (skip0 s)) := by
  have key : ∀ s : List UInt8, s.takeWhile digitC = s.take (runS s) ∧ s.dropWhile digitC = s.drop (runS s) := fun s => by
    induction s with
    | nil => exact ⟨rfl, rfl⟩
    | cons c r ih =>
      cases h : digitC c with
      | true =>
        have e : runS (c :: r) = runS r + 1 := by simp [runS, h]
        rw [e, List.takeWhile_cons, List.dropWhile_cons, if_pos h, if_pos h, List.take_succ_cons, List.drop_succ_cons, ih.1, ih.2]
        exact ⟨rfl, rfl⟩
      | false =>
        have e : runS (c :: r) = 0 := by simp [runS, h]
        rw [e, List.takeWhile_cons, List.dropWhile_cons, h]
        exact ⟨rfl, rfl⟩
  induction s with
  | nil => exact ⟨rfl, rfl⟩
  | cons c r ih =>
    by_cases h0 : c = 48
    · subst h0
      have e1 : skip0 (48 :: r) = skip0 r := by simp [skip0]
      rw [e1, ← ih.1, ← ih.2]
      refine ⟨?_, ?_⟩
      · simp [digsP, digit48]
      · simp [restP, digit48]
    · have e1 : skip0 (c :: r) = c :: r := by simp [skip0, h0]
      rw [e1, ← (key (c :: r)).1, ← (key (c :: r)).2]
      refine ⟨?_, rfl⟩
      unfold digsP
      cases h : digitC c with
      | true => simp [List.takeWhile_cons, h, h0]
      | false => simp [List.takeWhile_cons, h]

theorem runS_len (s : List UInt8) : (s.take (runS s)).length = runS s := by
  rw [List.length_take]
  have := runS_le s
  omega

theorem cmpS_lex : ∀ (a b : List UInt8), a.length = b.length → cmpS a b = lexC a b
  | [], [], _ => rfl
  | [], _ :: _, h => by simp at h
  | _ :: _, [], h => by simp at h
  | x :: a, y :: b, h => by
    have ih := cmpS_lex a b (by simpa using h)
    unfold lexC
    by_cases hxy : x = y
    · subst hxy
      rw [if_pos rfl, ← ih]
      simp [cmpS, Op.bytesLess]
    · rw [if_neg hxy]
      have hne : x.toNat ≠ y.toNat := fun e => hxy (UInt8.toNat_inj.1 e)
      have hb : (x == y) = false := by simpa using hxy
      simp only [cmpS, Op.bytesLess, hb, Bool.false_and, Bool.or_false, List.cons.injEq, hxy, false_and, if_false, decide_eq_true_eq, UInt8.lt_iff_toNat_lt, sgn]
      by_cases hl : x.toNat < y.toNat
      · rw [if_pos hl, if_pos (by omega)]
      · rw [if_neg hl, if_neg (by omega), if_pos (by omega)]

/-- What digits at two texts' beginnings come to. -/
def numC (x y : List UInt8) : Int := if (digsP x).length ≠ (digsP y).length then sgn (digsP x).length (digsP y).length else cmpS (digsP x) (digsP y)

theorem restP_le (s : List UInt8) : (restP s).length ≤ s.length := dropWhile_le s

theorem partV_step {a b : List UInt8} (h : ¬ (a = [] ∧ b = [])) : partV a b = if signsL a b ≠ 0 then signsL a b else if numC (skipD a) (skipD b) ≠ 0 then numC (skipD a) (skipD b) else partV (restP (skipD a)) (restP (skipD b)) := by
  rw [partV, dif_neg h]
  split
  · rfl
  · have ha := digs_rest (skipD a)
    have hb := digs_rest (skipD b)
    have la : (digsP (skipD a)).length = runS (numS a) := by rw [ha.1]; exact runS_len _
    have lb : (digsP (skipD b)).length = runS (numS b) := by rw [hb.1]; exact runS_len _
    have e1 : (numS a).take (runS (numS a)) = digsP (skipD a) := ha.1.symm
    have e2 : (numS b).take (runS (numS b)) = digsP (skipD b) := hb.1.symm
    have e3 : (numS a).drop (runS (numS a)) = restP (skipD a) := ha.2.symm
    have e4 : (numS b).drop (runS (numS b)) = restP (skipD b) := hb.2.symm
    rw [e1, e2, e3, e4, ← la, ← lb]
    by_cases hl : (digsP (skipD a)).length = (digsP (skipD b)).length
    · have e : numC (skipD a) (skipD b) = lexC (digsP (skipD a)) (digsP (skipD b)) := by rw [numC, if_neg (by simp [hl]), cmpS_lex _ _ hl]
      rw [if_neg (by simp [hl]), e]
    · have : sgn ((digsP (skipD a)).length : Int) (digsP (skipD b)).length ≠ 0 := fun e => hl (by have := sgn_eq e; omega)
      have e : numC (skipD a) (skipD b) = sgn ((digsP (skipD a)).length : Int) (digsP (skipD b)).length := by rw [numC, if_pos hl]
      rw [if_pos (by simpa using hl), e, if_pos this]

theorem partV_fall {a b : List UInt8} (h : ¬ (a = [] ∧ b = [])) : (restP (skipD a)).length + (restP (skipD b)).length < a.length + b.length := by
  rw [(digs_rest (skipD a)).2, (digs_rest (skipD b)).2]
  exact partV_lt h

/-- What a version's parts read as. -/
def verPAV : Option (List UInt8 × List UInt8 × List UInt8) → AV
  | none => .tup [.str [], .str [], .str [], .int .i64 3]
  | some (e, u, r) => .tup [.str e, .str u, .str r, .int .i64 0]
theorem verPAV_ids (v : Option (List UInt8 × List UInt8 × List UInt8)) : IdsLt 0 (verPAV v) := by
  cases v <;> refine .tup fun x hx => ?_ <;> simp at hx <;> rcases hx with rfl | rfl | rfl | rfl <;> first | exact .str _ | exact .int _ _

/-- A text has signs that versions have, and such as beside alone. -/
def ofV (beside : List UInt8) (s : List UInt8) : Bool := s.all fun c => digitC c || letterC c || beside.contains c
theorem ofV_rev (s : List UInt8) : ofV [43, 46, 126] s = s.all revCh := by
  unfold ofV
  congr 1
  funext c
  have h : ∀ n : Nat, n < 256 → ((c == (n.toUInt8)) = ((c.toNat : Int) == (n : Int))) := fun n hn => by
    rw [Bool.eq_iff_iff]
    simp only [beq_iff_eq]
    constructor
    · intro e; subst e; simp [Nat.mod_eq_of_lt hn]
    · intro e; apply UInt8.toNat_inj.1; simp [Nat.mod_eq_of_lt hn]; omega
  have h1 := h 43 (by omega)
  have h2 := h 46 (by omega)
  have h3 := h 126 (by omega)
  simp only [List.contains_cons, List.contains_nil, Bool.or_false, revCh]
  rw [show (43 : UInt8) = (43 : Nat).toUInt8 from rfl, show (46 : UInt8) = (46 : Nat).toUInt8 from rfl, show (126 : UInt8) = (126 : Nat).toUInt8 from rfl, h1, h2, h3]
  cases digitC c <;> cases letterC c <;> simp [Bool.or_assoc]
theorem ofV_up (s : List UInt8) : ofV [43, 46, 126, 45, 58] s = s.all upCh := by
  unfold ofV
  congr 1
  funext c
  have h : ∀ n : Nat, n < 256 → ((c == (n.toUInt8)) = ((c.toNat : Int) == (n : Int))) := fun n hn => by
    rw [Bool.eq_iff_iff]
    simp only [beq_iff_eq]
    constructor
    · intro e; subst e; simp [Nat.mod_eq_of_lt hn]
    · intro e; apply UInt8.toNat_inj.1; simp [Nat.mod_eq_of_lt hn]; omega
  have h1 := h 43 (by omega)
  have h2 := h 46 (by omega)
  have h3 := h 126 (by omega)
  have h4 := h 45 (by omega)
  have h5 := h 58 (by omega)
  simp only [List.contains_cons, List.contains_nil, Bool.or_false, upCh]
  rw [show (43 : UInt8) = (43 : Nat).toUInt8 from rfl, show (46 : UInt8) = (46 : Nat).toUInt8 from rfl, show (126 : UInt8) = (126 : Nat).toUInt8 from rfl, show (45 : UInt8) = (45 : Nat).toUInt8 from rfl, show (58 : UInt8) = (58 : Nat).toUInt8 from rfl, h1, h2, h3, h4, h5]
  cases digitC c <;> cases letterC c <;> simp [Bool.or_assoc]

theorem verP_eq (s : List UInt8) : verP s = if s.length = 0 ∨ 48 < s.length then none else
    (let et := if 0 ≤ firstOf 58 s then (s.take (firstOf 58 s).toNat, s.drop ((firstOf 58 s).toNat + 1)) else ([48], s)
     match revP et.2 with
     | none => none
     | some (u, r) => if (decide (1 ≤ et.1.length) && decide (et.1.length ≤ 9) && et.1.all digitC) && ofV [43, 46, 126] r && startsD u && ofV [43, 46, 126, 45, 58] u then some (et.1, u, r) else none) := by
  rw [verP]
  split
  · rfl
  simp only [epochP, ofV_rev, ofV_up]
  by_cases hf : 0 ≤ firstOf 58 s
  · simp only [hf, if_true]
    by_cases he : 1 ≤ (s.take (firstOf 58 s).toNat).length ∧ (s.take (firstOf 58 s).toNat).length ≤ 9 ∧ (s.take (firstOf 58 s).toNat).all digitC = true
    · simp only [he, and_self, if_true, decide_true, Bool.and_self, Bool.true_and]
      cases revP (s.drop ((firstOf 58 s).toNat + 1)) with
      | none => rfl
      | some ur =>
        obtain ⟨u, r⟩ := ur
        simp only [Bool.and_right_comm]
    · rw [if_neg he]
      have hb : (decide (1 ≤ (s.take (firstOf 58 s).toNat).length) && decide ((s.take (firstOf 58 s).toNat).length ≤ 9) && (s.take (firstOf 58 s).toNat).all digitC) = false := by
        cases hx : (decide (1 ≤ (s.take (firstOf 58 s).toNat).length) && decide ((s.take (firstOf 58 s).toNat).length ≤ 9) && (s.take (firstOf 58 s).toNat).all digitC) with
        | false => rfl
        | true =>
          simp only [Bool.and_eq_true, decide_eq_true_eq] at hx
          exact absurd ⟨hx.1.1, hx.1.2, hx.2⟩ he
      simp only [hb, Bool.false_and, Bool.false_eq_true, if_false]
      cases revP (s.drop ((firstOf 58 s).toNat + 1)) with
      | none => rfl
      | some ur => rfl
  · simp only [hf, if_false]
    have hb : (decide (1 ≤ ([48] : List UInt8).length) && decide (([48] : List UInt8).length ≤ 9) && ([48] : List UInt8).all digitC) = true := by decide
    simp only [hb, Bool.true_and]
    cases revP s with
    | none => rfl
    | some ur =>
      obtain ⟨u, r⟩ := ur
      simp only [Bool.and_right_comm]

end Go.Av
end
section
namespace Go.Av

/-- A list that a call has built since the store was σ. -/
structure Built (σ st : Store) (v : AV) (e : TypeId) (xs : List AV) : Prop where
  bld : Bld st v e xs
  ext : Ext σ st
  tok : ∀ t, tokOf v = some t → σ.length ≤ t

theorem Built.nil {σ st : Store} (h : Ext σ st) (e : TypeId) : Built σ st .nils e [] := ⟨.inl ⟨rfl, rfl⟩, h, fun t h => by cases h⟩

theorem Built.app {σ st st' : Store} {v v' : AV} {e : TypeId} {xs zs : List AV} (h : Built σ st v e xs) (ha : App st v e zs v' st') : Built σ st' v' e zs := by
  have hl := h.ext.le
  refine ⟨ha.bld, ?_, fun t ht => ?_⟩
  · have hl' := ha.len
    refine List.ext_getElem? fun i => ?_
    rw [List.getElem?_take]
    by_cases hi : i < σ.length
    · rw [if_pos hi, ha.old i (by omega) (fun e => by have := h.tok i e; omega)]
      have e := congrArg (·[i]?) h.ext
      simpa [List.getElem?_take, hi] using e
    · rw [if_neg hi, List.getElem?_eq_none (by omega)]
  · rcases ha.tok with e | ⟨u, e, hu⟩
    · exact h.tok t (by rw [← e]; exact ht)
    · rw [e] at ht; cases ht; omega

theorem Built.more {σ st : Store} {v : AV} {e : TypeId} {xs : List AV} (h : Built σ st v e xs) (l : Store) : Built σ (st ++ l) v e xs := by
  refine ⟨?_, h.ext.app l, h.tok⟩
  rcases h.bld with h1 | h1 | ⟨t, h1, h2⟩
  · exact .inl h1
  · exact .inr (.inl h1)
  · exact .inr (.inr ⟨t, h1, by rw [List.getElem?_append_left ((List.getElem?_eq_some_iff.1 h2).1)]; exact h2⟩)

theorem Built.weak {σ st : Store} {v : AV} {e : TypeId} {xs : List AV} (h : Built σ st v e xs) : Weak v (.sl e xs) := by
  rcases h.bld with ⟨rfl, rfl⟩ | rfl | ⟨t, rfl, _⟩
  · exact .nils _
  · exact .lit _ _
  · exact .own _ _ _

theorem Ext.eq {σ st : Store} (h : Ext σ st) : st = σ ++ st.drop σ.length := by
  have := List.take_append_drop σ.length st
  rw [h] at this
  exact this.symm
theorem Ext.trans {σ st st' : Store} (h : Ext σ st) (h' : Ext st st') : Ext σ st' := by
  rw [h'.eq]; exact h.app _
theorem Built.on {σ st st' : Store} {v : AV} {e : TypeId} {xs : List AV} (h : Built σ st v e xs) (h' : Ext st st') : Built σ st' v e xs := by
  rw [h'.eq]; exact h.more _
theorem Built.len {σ st : Store} {v : AV} {e : TypeId} {xs : List AV} (h : Built σ st v e xs) : lenV v = .int .i64 xs.length := by
  rcases h.bld with ⟨rfl, rfl⟩ | rfl | ⟨t, rfl, _⟩ <;> rfl
theorem Built.lenC {σ st : Store} {v : AV} {e : TypeId} {xs : List AV} (h : Built σ st v e xs) (P : Program) (t : TypeId) : lenC P t v = ((elT P t).isSome = true) := by
  rcases h.bld with ⟨rfl, rfl⟩ | rfl | ⟨t, rfl, _⟩ <;> rfl
theorem Built.notM {σ st : Store} {v : AV} {e : TypeId} {xs : List AV} (h : Built σ st v e xs) : NotM v := by
  rcases h.bld with ⟨rfl, rfl⟩ | rfl | ⟨t, rfl, _⟩ <;> trivial
theorem Built.ok {σ st : Store} {v : AV} {e : TypeId} {xs : List AV} (h : Built σ st v e xs) (g : Option Bool) : okM g v = True := okM_notM h.notM
theorem Built.un {σ st : Store} {v : AV} {e : TypeId} {xs : List AV} (h : Built σ st v e xs) : unm v = v := unm_notM h.notM
attribute [go_sem] List.range'_succ List.range'_zero

theorem Sub.slmap {α : Type} {f g : α → AV} {e : TypeId} (l : List α) (h : ∀ a ∈ l, Sub (f a) (g a)) : Sub (.sl e (l.map f)) (.sl e (l.map g)) := by
  refine .sls (by simp) fun i x y hx hy => ?_
  rw [List.getElem?_map, Option.map_eq_some_iff] at hx hy
  obtain ⟨a, ha, rfl⟩ := hx
  obtain ⟨b, hb, rfl⟩ := hy
  rw [ha] at hb
  cases hb
  exact h a (List.mem_of_getElem? ha)

theorem ReadL.sl (st : Store) (e : TypeId) (ys : List AV) : ReadL st (.sl e ys) e ys := .inl rfl
theorem ReadL.lit (st : Store) (e : TypeId) (ys : List AV) : ReadL st (.lit e ys) e ys := .inl rfl

/-- What holds behind a loop that ends its block. -/
theorem LoopVC.ats {P : Program} {W0 : World} {n : Nat} {fz : List Nat} {A : AState} {c : Code} {id : Nat} {Q : Exit → AState → Prop} (ks : List Nat) (hks : Kept fz c .mk ks) (R : AState → Prop) (h : LoopVC P W0 n fz c .mk (blockQ id (thenQ R Q)) .mk A) (hR : ∀ B, R B → Q .normal (keep ks A B)) : LoopVC P W0 n fz c .mk (blockQ id Q) .mk A := by
  have e : blockQ id (thenQ (Q .normal) Q) = blockQ id Q := by
    funext e A
    cases e <;> rfl
  rw [← e]
  exact .at ks hks R h hR

/-- More than twelve clauses, or more than six alternatives: 12; an empty clause, or one with a wrong atom: 3. -/
def mayCl (l : List Clause) : Int :=
  if 12 < l.length ∨ l.any (fun c => decide (6 < c.length)) = true then 12 else if l.any (fun c => decide (c.length = 0) || c.any fun a => !mayAtom a) = true then 3 else 0
def single (l : List Atom) : List Clause := l.map fun a => [a]
def provAtom (p : Prov) : Atom := ⟨p.name, if p.ver = [] then 0 else 3, p.ver⟩
/-- May it be a package? 0: it may. -/
def mayPkg (p : Pkg) : Int := if (!nameOk p.name || !isVer p.ver) = true then 3 else orL [mayCl p.pre, mayCl p.dep, mayCl p.rcm, mayCl (single p.con), mayCl (single p.brk), mayCl (single (p.prov.map provAtom))]

/-- The names, each once, in the order in which they come. -/
def namesL : List Pkg → List (List UInt8) → List (List UInt8)
  | [], acc => acc
  | p :: r, acc => namesL r (if acc.any (fun x => p.name == x) then acc else acc ++ [p.name])
def sameNV (p q : Pkg) : Bool := q.name == p.name && sameVer q.ver p.ver
/-- One that stands already, behind those. -/
def dupL : List Pkg → List Pkg → Bool
  | _, [] => false
  | bef, p :: r => bef.any (sameNV p) || dupL (bef ++ [p]) r
def mayAll (l : List Pkg) : Int :=
  if 24 < l.length then 12 else if orL (l.map mayPkg) ≠ 0 then orL (l.map mayPkg) else if dupL [] l = true then 4 else if 10 < (namesL l []).length then 12 else 0

end Go.Av
end
section
namespace Go.Av

theorem any_succ {α : Type} {l : List α} {i : Nat} {x : α} (h : l[i]? = some x) (f : α → Bool) : (l.take (i + 1)).any f = ((l.take i).any f || f x) := by
  rw [take_succ_get h, List.any_append]; simp
theorem any_zero {α : Type} (l : List α) (f : α → Bool) : (l.take 0).any f = false := rfl
theorem any_end {α : Type} {l : List α} {i : Nat} (h : l.length ≤ i) (f : α → Bool) : (l.take i).any f = l.any f := by rw [List.take_of_length_le h]

/-- A package meets an atom: by its name, or by what it provides. -/
def satP (p : Pkg) (a : Atom) : Bool :=
  mayAtom a && ((p.name == a.name && holdsV a.rel p.ver a.ver) || p.prov.any fun v => v.name == a.name && (a.rel == 0 || holdsV a.rel v.ver a.ver))
def againstP (p q : Pkg) : Bool := p.con.any (satP q) || p.brk.any (satP q)
def clashP (p q : Pkg) : Bool := p.name != q.name && (againstP p q || againstP q p)
def metP (c : Clause) (l : List Pkg) : Bool := c.any fun a => l.any fun p => satP p a
/-- One package among others, of which some stand ahead of it. -/
def sickP (l bef : List Pkg) (p : Pkg) : Bool := mayPkg p != 0 || bef.any (fun q => q.name == p.name || clashP p q) || (p.pre.any (fun c => !metP c l) || p.dep.any (fun c => !metP c l))
def sickL (l : List Pkg) : List Pkg → List Pkg → Bool
  | _, [] => false
  | bef, p :: r => sickP l bef p || sickL l (bef ++ [p]) r
def healthyP (l : List Pkg) : Bool := !sickL l [] l

theorem isVer_nil : isVer [] = false := rfl
theorem holds_nil {r : Int} (b : List UInt8) : holdsV r [] b = false := by
  unfold holdsV
  rw [isVer_nil]
  split <;> rfl

end Go.Av
end
section
namespace Go.Av
section
variable {P : Program} {W0 : World} {A : AState}

def rowId : AV → Option Nat
  | .row _ id _ _ => some id
  | _ => none

/-- A row that a call has made since the store was σ, or none yet. -/
structure Rowed (σ st : Store) (v : AV) (e : TypeId) (xs : List AV) : Prop where
  row : RowSt st v e xs
  ext : Ext σ st
  low : ∀ id, rowId v = some id → σ.length ≤ id

theorem Rowed.nil {σ st : Store} (h : Ext σ st) (e : TypeId) : Rowed σ st .nils e [] := ⟨.inl ⟨rfl, rfl⟩, h, fun t h => by cases h⟩
theorem Rowed.notM {σ st : Store} {v : AV} {e : TypeId} {xs : List AV} (h : Rowed σ st v e xs) : NotM v := by
  rcases h.row with ⟨rfl, rfl⟩ | rfl | ⟨_, _, _, _, rfl, _⟩ <;> trivial
theorem Rowed.ok {σ st : Store} {v : AV} {e : TypeId} {xs : List AV} (h : Rowed σ st v e xs) (g : Option Bool) : okM g v = True := okM_notM h.notM
theorem Rowed.un {σ st : Store} {v : AV} {e : TypeId} {xs : List AV} (h : Rowed σ st v e xs) : unm v = v := unm_notM h.notM
theorem RowSt.len {st : Store} {v : AV} {e : TypeId} {xs : List AV} (h : RowSt st v e xs) : lenV v = .int .i64 xs.length := by
  rcases h with ⟨rfl, rfl⟩ | rfl | ⟨id, off, m, zs, rfl, _, h1, rfl⟩
  · rfl
  · rfl
  · have : ((zs.drop off).take m).length = m := by simp; omega
    rw [this]; rfl
theorem RowSt.lenC {st : Store} {v : AV} {e : TypeId} {xs : List AV} (h : RowSt st v e xs) (P : Program) (t : TypeId) : lenC P t v = ((elT P t).isSome = true) := by
  rcases h with ⟨rfl, rfl⟩ | rfl | ⟨id, off, m, zs, rfl, _, h1, rfl⟩ <;> rfl
theorem RowSt.read {st : Store} {v : AV} {e : TypeId} {xs : List AV} (h : RowSt st v e xs) : ReadL st v e xs := by
  rcases h with h | rfl | h
  · exact .inr (.inl h)
  · exact .inl rfl
  · exact .inr (.inr h)

theorem Rowed.more {σ st : Store} {v : AV} {e : TypeId} {xs : List AV} (h : Rowed σ st v e xs) (l : Store) : Rowed σ (st ++ l) v e xs := by
  refine ⟨?_, h.ext.app l, h.low⟩
  rcases h.row with h1 | h1 | ⟨id, off, m, zs, h1, h2, h3⟩
  · exact .inl h1
  · exact .inr (.inl h1)
  · exact .inr (.inr ⟨id, off, m, zs, h1, by rw [List.getElem?_append_left ((List.getElem?_eq_some_iff.1 h2).1)]; exact h2, h3⟩)

theorem Rowed.killed {σ st : Store} {v : AV} {e : TypeId} {xs : List AV} (h : Rowed σ st v e xs) (l : Store) : Ext σ (killOf v st ++ l) := by
  refine Ext.app ?_ l
  unfold killOf
  split
  · exact h.ext.set (h.low _ rfl) _
  · exact h.ext

theorem AppA.rowed {σ : Store} {t u e : TypeId} {x y : AV} {xs ys : List AV} {dst : Option Nat} {k : AState → Prop} (N : Nat) (ho : appB P t u e N = true) (h : Rowed σ A.st x e xs) (hy : ReadL A.st y e ys) (hN : xs.length + ys.length ≤ N)
    (hk : ∀ v st', Rowed σ st' v e (xs ++ ys) → k ((A.put dst v).withSt st')) : AppA P [t, u] [x, y] dst A k .mk := by
  refine AppA.row N ho h.row hy hN (fun he => hk _ _ (by rw [he, List.append_nil]; exact h)) fun he => hk _ _ ⟨.inr (.inr ⟨A.st.length, 0, _, xs ++ ys, rfl, ?_, by simp, by rw [List.drop_zero, List.take_of_length_le (by simp)]⟩), h.killed _, fun id hid => ?_⟩
  · have : (killOf x A.st).length = A.st.length := by unfold killOf; split <;> simp
    rw [← this, List.getElem?_append_right (Nat.le_refl _), Nat.sub_self]
    rfl
  · cases hid
    exact h.ext.le

theorem Rowed.endr {σ : Store} {v : AV} {e : TypeId} {xs : List AV} {d : Nat} {x : Exit} (h : Rowed σ A.st v e xs) (hx : x = .ret ∨ x = .normal) (hd : A.env d = v) : EndR (fun A => Weak (resOf A.env [d]) (.sl e xs) ∧ A.st.take σ.length = σ) x A := by
  have fin : ∀ {B : AState}, Weak (resOf B.env [d]) (.sl e xs) → B.st.take σ.length = σ → EndR (fun A => Weak (resOf A.env [d]) (.sl e xs) ∧ A.st.take σ.length = σ) x B := fun h1 h2 => by
    rcases hx with rfl | rfl
    · exact .ret ⟨h1, h2⟩
    · exact .normal ⟨h1, h2⟩
  rcases h.row with ⟨rfl, rfl⟩ | rfl | ⟨id, off, m, zs, rfl, h1, h2, rfl⟩
  · exact fin (by simp only [resOf, hd]; exact .nils _) h.ext
  · exact fin (by simp only [resOf, hd]; exact .lit _ _) h.ext
  · refine EndR.frz d hd h1 h2 (fin ?_ ?_)
    · simp [resOf, AState.upd, AState.withSt]
      exact .refl _
    · exact h.ext.set (h.low _ rfl) _
end
end Go.Av
end
section
namespace Go.Av

theorem CallA.readsC {P : Program} {W0 : World} {A : AState} {g : FuncId} {caps us : List AV} {dst : Option Nat} {k : AState → Prop} {r : AV} {σ : Store} (hσ : A.st = σ) (h : ACall P W0 g (us ++ caps) σ fun r' σ' => r' = r ∧ σ' = σ) (hk : k (A.put dst r)) : CallA P W0 (.fn g caps) us dst A k .mk := .go hσ h fun r' σ' ⟨h1, h2⟩ => by
  subst h1 h2 hσ
  rwa [put_withSt]

section
variable {P : Program}
@[go_sem] theorem binV_pneq (t t' : TypeId) (id i : Nat) (path : List Nat) : binV P .neq t (.ptr t' id i path) .nil = if isPtrT P t then .bool true else .undef := by simp only [binV, abin, eqAV, AV.isPtr, Bool.and_true]; split <;> rfl
@[go_sem] theorem binC_pneq (t t' : TypeId) (id i : Nat) (path : List Nat) : binC P .neq t (.ptr t' id i path) .nil = (isPtrT P t = true) := by simp only [binC, abin, eqAV, AV.isPtr, Bool.and_true]; split <;> simp_all
@[go_sem] theorem binV_peql (t t' : TypeId) (id i : Nat) (path : List Nat) : binV P .eql t (.ptr t' id i path) .nil = if isPtrT P t then .bool false else .undef := by simp only [binV, abin, eqAV, AV.isPtr, Bool.and_true]; split <;> rfl
@[go_sem] theorem binC_peql (t t' : TypeId) (id i : Nat) (path : List Nat) : binC P .eql t (.ptr t' id i path) .nil = (isPtrT P t = true) := by simp only [binC, abin, eqAV, AV.isPtr, Bool.and_true]; split <;> simp_all
@[go_sem] theorem binV_nneq (t : TypeId) : binV P .neq t .nil .nil = if isPtrT P t then .bool false else .undef := by simp only [binV, abin, eqAV]; split <;> rfl
@[go_sem] theorem binC_nneq (t : TypeId) : binC P .neq t .nil .nil = (isPtrT P t = true) := by simp only [binC, abin, eqAV]; split <;> simp_all
@[go_sem] theorem binV_neql (t : TypeId) : binV P .eql t .nil .nil = if isPtrT P t then .bool true else .undef := by simp only [binV, abin, eqAV]; split <;> rfl
@[go_sem] theorem binC_neql (t : TypeId) : binC P .eql t .nil .nil = (isPtrT P t = true) := by simp only [binC, abin, eqAV]; split <;> simp_all
end

/-- Another store, the same but for some objects, and more behind. -/
structure Fr (F : List Nat) (σ σ' : Store) : Prop where
  len : σ.length ≤ σ'.length
  old : ∀ j, j < σ.length → j ∉ F → σ'[j]? = σ[j]?
/-- The objects that a value leans on. -/
def foot : AV → List Nat
  | .own _ _ t => [t]
  | .row _ id _ _ => [id]
  | _ => []
theorem Fr.refl (F : List Nat) (σ : Store) : Fr F σ σ := ⟨Nat.le_refl _, fun _ _ _ => rfl⟩
theorem Fr.ext {F : List Nat} {σ σ' : Store} (h : Ext σ σ') : Fr F σ σ' := ⟨h.le, fun j hj _ => by
  have e := congrArg (·[j]?) h
  simpa [List.getElem?_take, hj] using e⟩
theorem Fr.trans {F G : List Nat} {σ σ' σ'' : Store} (h : Fr F σ σ') (h' : Fr G σ' σ'') (hG : ∀ j ∈ G, j ∈ F ∨ σ.length ≤ j) : Fr F σ σ'' := ⟨Nat.le_trans h.len h'.len, fun j hj hF => by
  rw [h'.old j (Nat.lt_of_lt_of_le hj h.len) (fun e => by rcases hG j e with h1 | h1; exact hF h1; omega), h.old j hj hF]⟩
theorem Fr.set {F : List Nat} {σ σ' : Store} (h : Fr F σ σ') {id : Nat} (hid : id ∈ F ∨ σ.length ≤ id) (o : Option SObj) : Fr F σ (σ'.set id o) := ⟨by simpa using h.len, fun j hj hF => by
  rw [List.getElem?_set_ne (fun e => by subst e; rcases hid with h1 | h1; exact hF h1; omega), h.old j hj hF]⟩
theorem Fr.app {F : List Nat} {σ σ' : Store} (h : Fr F σ σ') (l : Store) : Fr F σ (σ' ++ l) := ⟨by have := h.len; simp; omega, fun j hj hF => by
  rw [List.getElem?_append_left (by have := h.len; omega), h.old j hj hF]⟩
theorem Fr.mono {F G : List Nat} {σ σ' : Store} (h : Fr F σ σ') (hG : ∀ j ∈ F, j ∈ G) : Fr G σ σ' := ⟨h.len, fun j hj hF => h.old j hj fun e => hF (hG j e)⟩
theorem Fr.toExt {F : List Nat} {σ σ' : Store} (h : Fr F σ σ') {τ : Store} (ht : Ext τ σ) (hF : ∀ j ∈ F, τ.length ≤ j) : Ext τ σ' := by
  refine List.ext_getElem? fun i => ?_
  have := ht.le
  have := h.len
  rw [List.getElem?_take]
  by_cases hi : i < τ.length
  · rw [if_pos hi, h.old i (by omega) (fun e => by have := hF i e; omega)]
    have e := congrArg (·[i]?) ht
    simpa [List.getElem?_take, hi] using e
  · rw [if_neg hi, List.getElem?_eq_none (by omega)]
theorem live_set {σ : Store} {id : Nat} {te : TypeId} {xs : List AV} (h : id < σ.length) : live (σ.set id (some (.cells te xs))) id = True := eq_true ⟨te, xs, by simp [h]⟩
theorem live_id {σ : Store} {id : Nat} {te : TypeId} {xs : List AV} (h : σ[id]? = some (some (.cells te xs))) : live σ id = True := eq_true ⟨te, xs, h⟩
theorem Bld.notM {st : Store} {v : AV} {e : TypeId} {xs : List AV} (h : Bld st v e xs) : NotM v := by
  rcases h with ⟨rfl, rfl⟩ | rfl | ⟨t, rfl, _⟩ <;> trivial
theorem Bld.ok {st : Store} {v : AV} {e : TypeId} {xs : List AV} (h : Bld st v e xs) (g : Option Bool) : okM g v = True := okM_notM h.notM
theorem Bld.un {st : Store} {v : AV} {e : TypeId} {xs : List AV} (h : Bld st v e xs) : unm v = v := unm_notM h.notM
theorem Bld.len {st : Store} {v : AV} {e : TypeId} {xs : List AV} (h : Bld st v e xs) : lenV v = .int .i64 xs.length := by
  rcases h with ⟨rfl, rfl⟩ | rfl | ⟨t, rfl, _⟩ <;> rfl
theorem Bld.lenC {st : Store} {v : AV} {e : TypeId} {xs : List AV} (h : Bld st v e xs) (P : Program) (t : TypeId) : lenC P t v = ((elT P t).isSome = true) := by
  rcases h with ⟨rfl, rfl⟩ | rfl | ⟨t, rfl, _⟩ <;> rfl
theorem Bld.fits {st : Store} {v : AV} {e : TypeId} {xs : List AV} (h : Bld st v e xs) (P : Program) (t : TypeId) : fitsB P t v = prim P t := by
  rcases h with ⟨rfl, rfl⟩ | rfl | ⟨t, rfl, _⟩ <;> rfl
theorem RowSt.fits {st : Store} {v : AV} {e : TypeId} {xs : List AV} (h : RowSt st v e xs) (P : Program) (t : TypeId) : fitsB P t v = prim P t := by
  rcases h with ⟨rfl, rfl⟩ | rfl | ⟨_, _, _, _, rfl, _⟩ <;> rfl
theorem RowSt.notM {st : Store} {v : AV} {e : TypeId} {xs : List AV} (h : RowSt st v e xs) : NotM v := by
  rcases h with ⟨rfl, rfl⟩ | rfl | ⟨_, _, _, _, rfl, _⟩ <;> trivial
theorem RowSt.ok {st : Store} {v : AV} {e : TypeId} {xs : List AV} (h : RowSt st v e xs) (g : Option Bool) : okM g v = True := okM_notM h.notM
theorem RowSt.un {st : Store} {v : AV} {e : TypeId} {xs : List AV} (h : RowSt st v e xs) : unm v = v := unm_notM h.notM
theorem AppA.ownS {P : Program} {A : AState} {σ : Store} {t u e : TypeId} {x y : AV} {xs ys : List AV} {dst : Option Nat} {k : AState → Prop} (hσ : A.st = σ) (N : Nat) (ho : appB P t u e N = true) (hb : Bld σ x e xs) (hy : ReadL σ y e ys) (hN : xs.length + ys.length ≤ N)
    (hk : ∀ v σ', App σ x e (xs ++ ys) v σ' → k ((A.put dst v).withSt σ')) : AppA P [t, u] [x, y] dst A k .mk := by
  subst hσ
  exact .own N ho hb hy hN hk
theorem Bld.idxV {st : Store} {v : AV} {e : TypeId} {xs : List AV} (h : Bld st v e xs) (h0 : 0 < xs.length) (P : Program) (t : TypeId) (i : Int) : indexAddrV P t i v = .loc e (atV xs i) := by
  rcases h with ⟨rfl, rfl⟩ | rfl | ⟨t, rfl, _⟩
  · exact absurd h0 (by simp)
  · rfl
  · rfl
theorem Bld.idxC {st : Store} {v : AV} {e : TypeId} {xs : List AV} (h : Bld st v e xs) (h0 : 0 < xs.length) (P : Program) (gd : Option Bool) (σ : Store) (t : TypeId) (i : Int) : indexAddrC P gd σ t i v = (elT P t = some e ∧ 0 < szOf P e ∧ imp gd (0 ≤ i ∧ i.toNat < xs.length)) := by
  rcases h with ⟨rfl, rfl⟩ | rfl | ⟨t, rfl, _⟩
  · exact absurd h0 (by simp)
  · rfl
  · rfl
/-- A row that may be written, or none yet. -/
def RowV (σ : Store) (x : AV) (e : TypeId) (xs : List AV) : Prop := (x = .nils ∧ xs = []) ∨ ∃ id off m zs, x = .row e id off m ∧ σ[id]? = some (some (.cells e zs)) ∧ off + m ≤ zs.length ∧ xs = (zs.drop off).take m
theorem RowV.st {σ : Store} {v : AV} {e : TypeId} {xs : List AV} (h : RowV σ v e xs) : RowSt σ v e xs := by
  rcases h with h | h
  · exact .inl h
  · exact .inr (.inr h)
def cutR (a b : Nat) : AV → AV
  | .row e id off _ => .row e id (off + a) (b - a)
  | v => v
@[go_sem] theorem cutR_row (a b : Nat) (e : TypeId) (id off m : Nat) : cutR a b (.row e id off m) = .row e id (off + a) (b - a) := rfl
@[go_sem] theorem cutR_nils (a b : Nat) : cutR a b .nils = .nils := rfl
theorem RowV.len' {σ : Store} {e : TypeId} {xs : List AV} {id off m : Nat} {zs : List AV} (h : off + m ≤ zs.length) (hx : xs = (zs.drop off).take m) : xs.length = m := by
  rw [hx]; simp; omega
theorem RowV.cutV {σ : Store} {v : AV} {e : TypeId} {xs : List AV} (h : RowV σ v e xs) (A : AState) (lo hi : Option Operand) : sliceV A lo hi v = cutR (bndV A 0 lo) (bndV A xs.length hi) v := by
  rcases h with ⟨rfl, rfl⟩ | ⟨id, off, m, zs, rfl, h1, h2, h3⟩
  · rfl
  · rw [RowV.len' (σ := σ) (e := e) (id := id) h2 h3]; rfl
theorem RowV.cutC {P : Program} {gd : Option Bool} {σ : Store} {v : AV} {e : TypeId} {xs : List AV} (h : RowV σ v e xs) {t : TypeId} (ht : elT P t = some e) (A : AState) (lo hi : Option Operand) : sliceC P gd A t lo hi v = (0 < szOf P e ∧ Go.Av.cutC gd A lo hi xs.length) := by
  rcases h with ⟨rfl, rfl⟩ | ⟨id, off, m, zs, rfl, h1, h2, h3⟩
  · rw [sliceC_nils, ht]
    simp only [Option.isSome_some, true_and, Option.getD_some, Go.Av.cutC, List.length_nil, Nat.le_zero]
    have : imp gd (bndV A 0 lo = 0 ∧ bndV A 0 hi = 0) = imp gd (bndV A 0 lo ≤ bndV A 0 hi ∧ bndV A 0 hi = 0) := by
      congr 1
      refine propext ⟨fun ⟨h1, h2⟩ => ⟨by omega, h2⟩, fun ⟨h1, h2⟩ => ⟨by omega, h2⟩⟩
    rw [this]
  · rw [sliceC_row, ht, RowV.len' (σ := σ) (e := e) (id := id) h2 h3]
    simp
theorem RowV.cut {σ : Store} {v : AV} {e : TypeId} {xs : List AV} (h : RowV σ v e xs) {a b : Nat} (hab : a ≤ b) (hb : b ≤ xs.length) : RowV σ (cutR a b v) e ((xs.drop a).take (b - a)) := by
  rcases h with ⟨rfl, rfl⟩ | ⟨id, off, m, zs, rfl, h1, h2, h3⟩
  · exact .inl ⟨rfl, by simp⟩
  · have hl := RowV.len' (σ := σ) (e := e) (id := id) h2 h3
    refine .inr ⟨id, off + a, b - a, zs, rfl, h1, by omega, ?_⟩
    rw [h3, List.drop_take, List.drop_drop, List.take_take, Nat.min_eq_left (by omega)]
theorem foot_cutR (a b : Nat) (v : AV) : foot (cutR a b v) = foot v := by cases v <;> rfl
theorem RowV.keep {st st' : Store} {v : AV} {e : TypeId} {xs : List AV} (h : RowV st v e xs) (hk : ∀ j ∈ foot v, st'[j]? = st[j]?) : RowV st' v e xs := by
  rcases h with h | ⟨id, off, m, zs, rfl, h, h2⟩
  · exact .inl h
  · exact .inr ⟨id, off, m, zs, rfl, by rw [hk id (by simp [foot]), h], h2⟩
theorem RowV.lt {st : Store} {v : AV} {e : TypeId} {xs : List AV} (h : RowV st v e xs) : ∀ j ∈ foot v, j < st.length := by
  rcases h with ⟨rfl, _⟩ | ⟨id, off, m, zs, rfl, h, _⟩
  · simp [foot]
  · intro j hj; simp [foot] at hj; subst hj; exact (List.getElem?_eq_some_iff.1 h).1
theorem RowV.ne {st : Store} {v : AV} {e te : TypeId} {xs ys : List AV} (h : RowV st v e xs) {id : Nat} (hid : st[id]? = some (some (.cells te ys))) (ht : te ≠ e) : id ∉ foot v := fun hj => by
  rcases h with ⟨rfl, _⟩ | ⟨id', off, m, zs, rfl, h, _⟩
  · simp [foot] at hj
  · simp [foot] at hj; subst hj; rw [hid] at h; cases h; exact ht rfl
/-- Behind a row that is appended to. -/
structure AppR (σ : Store) (x : AV) (e : TypeId) (zs : List AV) (v : AV) (σ' : Store) : Prop where
  row : RowV σ' v e zs
  fr : Fr (foot x) σ σ'
  foot : ∀ j ∈ foot v, j ∈ foot x ∨ σ.length ≤ j
theorem AppA.rowS {P : Program} {A : AState} {σ : Store} {t u e : TypeId} {x y : AV} {xs ys : List AV} {dst : Option Nat} {k : AState → Prop} (hσ : A.st = σ) (N : Nat) (ho : appB P t u e N = true) (hb : RowV σ x e xs) (hy : ReadL σ y e ys) (hN : xs.length + ys.length ≤ N)
    (hk : ∀ v σ', AppR σ x e (xs ++ ys) v σ' → k ((A.put dst v).withSt σ')) : AppA P [t, u] [x, y] dst A k .mk := by
  subst hσ
  have hkl : (killOf x A.st).length = A.st.length := by unfold killOf; split <;> simp
  refine AppA.row N ho hb.st hy hN (fun he => hk _ _ ⟨by rw [he, List.append_nil]; exact hb, .refl _ _, fun j hj => .inl hj⟩) fun he => hk _ _ ⟨.inr ⟨A.st.length, 0, _, xs ++ ys, rfl, ?_, by simp, by rw [List.drop_zero, List.take_of_length_le (by simp)]⟩, ?_, fun j hj => ?_⟩
  · rw [← hkl, List.getElem?_append_right (Nat.le_refl _), Nat.sub_self]
    rfl
  · refine Fr.app ?_ _
    unfold killOf
    split
    · exact (Fr.refl _ _).set (.inl (by simp [Go.Av.foot])) _
    · exact .refl _ _
  · simp [Go.Av.foot] at hj
    subst hj
    exact .inr (Nat.le_refl _)
theorem Bld.weak {st : Store} {v : AV} {e : TypeId} {xs : List AV} (h : Bld st v e xs) : Weak v (.sl e xs) := by
  rcases h with ⟨rfl, rfl⟩ | rfl | ⟨t, rfl, _⟩
  · exact .nils _
  · exact .lit _ _
  · exact .own _ _ _

theorem swap_perm {α : Type} [DecidableEq α] {ys : List α} {i j : Nat} {a b : α} (hi : ys[i]? = some a) (hj : ys[j]? = some b) : ((ys.set j a).set i b).Perm ys := by
  obtain ⟨hil, hia⟩ := List.getElem?_eq_some_iff.1 hi
  obtain ⟨hjl, hjb⟩ := List.getElem?_eq_some_iff.1 hj
  refine List.perm_iff_count.2 fun c => ?_
  rw [List.count_set (by simpa using hil), List.count_set hjl, hjb]
  have h1 : (ys.set j a)[i]'(by simpa using hil) = a := by
    rw [List.getElem_set]
    split
    · rfl
    · exact hia
  rw [h1]
  have hb : b ∈ ys := List.mem_of_getElem? hj
  by_cases hab : b = c
  · subst hab
    have := List.count_pos_iff.2 hb
    by_cases hac : a = b
    · subst hac; simp; omega
    · simp [hac]; omega
  · by_cases hac : a = c
    · subst hac; simp [hab]
    · simp [hab, hac]

theorem App.fr {σ σ' : Store} {x v : AV} {e : TypeId} {zs : List AV} (h : App σ x e zs v σ') : Fr (foot x) σ σ' := ⟨h.len, fun j hj hF => h.old j hj fun e => hF (by cases x <;> simp [tokOf] at e; subst e; simp [foot])⟩
theorem foot_tok {st : Store} {v : AV} {e : TypeId} {xs : List AV} (h : Bld st v e xs) {j : Nat} : j ∈ foot v ↔ tokOf v = some j := by
  rcases h with ⟨rfl, rfl⟩ | rfl | ⟨t, rfl, _⟩
  · simp [foot, tokOf]
  · simp [foot, tokOf]
  · simp [foot, tokOf]; exact eq_comm
theorem App.foot {σ σ' : Store} {x v : AV} {e : TypeId} {zs xs : List AV} (h : App σ x e zs v σ') (hx : Bld σ x e xs) : ∀ j ∈ foot v, j ∈ foot x ∨ σ.length ≤ j := fun j hj => by
  rw [foot_tok h.bld] at hj
  rw [foot_tok hx]
  rcases h.tok with e1 | ⟨t, e1, e2⟩
  · left; rw [← e1]; exact hj
  · right; rw [e1] at hj; cases hj; exact e2
theorem Bld.keep {st st' : Store} {v : AV} {e : TypeId} {xs : List AV} (h : Bld st v e xs) (hk : ∀ j ∈ foot v, st'[j]? = st[j]?) : Bld st' v e xs := by
  rcases h with h | h | ⟨t, rfl, h⟩
  · exact .inl h
  · exact .inr (.inl h)
  · exact .inr (.inr ⟨t, rfl, by rw [hk t (by simp [foot]), h]⟩)
theorem Bld.lt {st : Store} {v : AV} {e : TypeId} {xs : List AV} (h : Bld st v e xs) : ∀ j ∈ foot v, j < st.length := by
  rcases h with ⟨rfl, _⟩ | rfl | ⟨t, rfl, h⟩
  · simp [foot]
  · simp [foot]
  · intro j hj; simp [foot] at hj; subst hj; exact (List.getElem?_eq_some_iff.1 h).1
theorem Bld.ne {st : Store} {v : AV} {e : TypeId} {xs : List AV} (h : Bld st v e xs) {id : Nat} {o : SObj} (hid : st[id]? = some (some o)) (ho : o ≠ .tok) : id ∉ foot v := fun hj => by
  rcases h with ⟨rfl, _⟩ | rfl | ⟨t, rfl, h⟩
  · simp [foot] at hj
  · simp [foot] at hj
  · simp [foot] at hj; subst hj; rw [hid] at h; cases h; exact ho rfl
theorem RowSt.keep {st st' : Store} {v : AV} {e : TypeId} {xs : List AV} (h : RowSt st v e xs) (hk : ∀ j ∈ foot v, st'[j]? = st[j]?) : RowSt st' v e xs := by
  rcases h with h | h | ⟨id, off, m, zs, rfl, h, h2⟩
  · exact .inl h
  · exact .inr (.inl h)
  · exact .inr (.inr ⟨id, off, m, zs, rfl, by rw [hk id (by simp [foot]), h], h2⟩)
theorem RowSt.lt {st : Store} {v : AV} {e : TypeId} {xs : List AV} (h : RowSt st v e xs) : ∀ j ∈ foot v, j < st.length := by
  rcases h with ⟨rfl, _⟩ | rfl | ⟨id, off, m, zs, rfl, h, _⟩
  · simp [foot]
  · simp [foot]
  · intro j hj; simp [foot] at hj; subst hj; exact (List.getElem?_eq_some_iff.1 h).1

/-- What a literal says. -/
def litT (M : Nat → Bool) (l : Int) : Bool := if 0 < l then M l.natAbs else !M l.natAbs
def claT (M : Nat → Bool) (c : List Int) : Bool := c.any (litT M)
def setT (M : Nat → Bool) (cls : List (List Int)) : Bool := cls.all (claT M)
/-- A literal that may be: of the variables 1 to n. -/
def wfL (n : Nat) (l : Int) : Bool := decide (l ≠ 0) && decide (l.natAbs ≤ n)
def wfC (n : Nat) (c : List Int) : Bool := c.all (wfL n)

theorem litT_neg {M : Nat → Bool} {l : Int} (h : l ≠ 0) : litT M (-l) = !litT M l := by
  unfold litT
  rw [Int.natAbs_neg]
  by_cases h1 : 0 < l
  · rw [if_pos h1, if_neg (by omega)]
  · rw [if_neg h1, if_pos (by omega), Bool.not_not]

theorem claT_perm {M : Nat → Bool} {c d : List Int} (h : ∀ l, l ∈ c ↔ l ∈ d) : claT M c = claT M d := by
  unfold claT
  rw [Bool.eq_iff_iff, List.any_eq_true, List.any_eq_true]
  exact ⟨fun ⟨l, h1, h2⟩ => ⟨l, (h l).1 h1, h2⟩, fun ⟨l, h1, h2⟩ => ⟨l, (h l).2 h1, h2⟩⟩

end Go.Av
end
section
namespace Go.Av

/-- What a literal is, given those that hold. -/
def valT (ord : List Int) (l : Int) : Int := if l ∈ ord then 1 else if -l ∈ ord then -1 else 0
/-- What the variables 0 to n are. -/
def vals (n : Nat) (ord : List Int) : List Int := (List.range (n + 1)).map fun i => valT ord (i : Nat)

structure GoodOrd (n : Nat) (ord : List Int) : Prop where
  nd : (ord.map Int.natAbs).Nodup
  wf : ∀ l ∈ ord, l ≠ 0 ∧ l.natAbs ≤ n

theorem GoodOrd.cons {n : Nat} {ord : List Int} (h : GoodOrd n ord) {l : Int} (hl : l ∈ ord) : -l ∉ ord := fun hn => by
  have h0 := (h.wf l hl).1
  obtain ⟨i, hi, he⟩ := List.getElem_of_mem hl
  obtain ⟨j, hj, he'⟩ := List.getElem_of_mem hn
  have : i = j := (List.getElem_inj (i := i) (j := j) (h₀ := by simpa using hi) (h₁ := by simpa using hj) h.nd).1 (by simp [he, he'])
  subst this
  rw [he] at he'
  omega
theorem valT_neg {n : Nat} {ord : List Int} (h : GoodOrd n ord) (l : Int) : valT ord (-l) = -valT ord l := by
  unfold valT
  rw [Int.neg_neg]
  by_cases h1 : l ∈ ord
  · rw [if_neg (h.cons h1), if_pos h1, if_pos h1]
  · by_cases h2 : -l ∈ ord
    · rw [if_pos h2, if_neg h1, if_pos h2, Int.neg_neg]
    · rw [if_neg h2, if_neg h1, if_neg h1, if_neg h2]; rfl
theorem vals_len (n : Nat) (ord : List Int) : (vals n ord).length = n + 1 := by simp [vals]
theorem vals_get {n : Nat} {ord : List Int} {i : Nat} (h : i ≤ n) : (vals n ord)[i]? = some (valT ord (i : Nat)) := by
  simp [vals, List.getElem?_range (show i < n + 1 by omega)]
theorem valT_cases (ord : List Int) (l : Int) : (valT ord l = 1 ∧ l ∈ ord) ∨ (valT ord l = -1 ∧ l ∉ ord ∧ -l ∈ ord) ∨ (valT ord l = 0 ∧ l ∉ ord ∧ -l ∉ ord) := by
  unfold valT
  by_cases h1 : l ∈ ord
  · left; simp [h1]
  · by_cases h2 : -l ∈ ord
    · right; left; simp [h1, h2]
    · right; right; simp [h1, h2]
theorem vals_congr {n : Nat} {o p : List Int} (h : ∀ i : Nat, i ≤ n → valT o i = valT p i) : vals n o = vals n p := by
  unfold vals
  refine List.map_congr_left fun i hi => h i ?_
  have := List.mem_range.1 hi
  omega
theorem GoodOrd.nil (n : Nat) : GoodOrd n [] := ⟨by simp, by simp⟩
theorem vals_nil (n : Nat) : vals n [] = List.replicate (n + 1) 0 := by
  refine List.ext_getElem? fun i => ?_
  rw [List.getElem?_replicate]
  by_cases h : i ≤ n
  · rw [vals_get h, if_pos (by omega)]; rfl
  · rw [if_neg (by omega), List.getElem?_eq_none (by rw [vals_len]; omega)]

theorem valT_app {n : Nat} {ord : List Int} {l : Int} (h : GoodOrd n (ord ++ [l])) (i : Nat) : valT (ord ++ [l]) i = if i = l.natAbs then (if 0 < l then 1 else -1) else valT ord i := by
  have hl := h.wf l (by simp)
  have hn : ∀ m ∈ ord, m.natAbs ≠ l.natAbs := fun m hm e => by
    have := h.nd
    rw [List.map_append, List.nodup_append] at this
    exact this.2.2 _ (List.mem_map.2 ⟨m, hm, rfl⟩) _ (by simp) e
  unfold valT
  simp only [List.mem_append, List.mem_singleton]
  by_cases hi : i = l.natAbs
  · rw [if_pos hi]
    by_cases hp : 0 < l
    · rw [if_pos hp, if_pos (.inr (by omega))]
    · rw [if_neg hp, if_neg, if_pos (.inr (by omega))]
      rintro (h1 | h1)
      · exact hn _ h1 (by omega)
      · omega
  · rw [if_neg hi]
    have e1 : ((i : Int) = l) = False := eq_false fun e => hi (by omega)
    have e2 : (-(i : Int) = l) = False := eq_false fun e => hi (by omega)
    simp only [e1, e2, or_false]
theorem GoodOrd.app {n : Nat} {ord : List Int} (h : GoodOrd n ord) {l : Int} (h0 : l ≠ 0) (hn : l.natAbs ≤ n) (hv : valT ord l = 0) : GoodOrd n (ord ++ [l]) := by
  refine ⟨?_, fun m hm => ?_⟩
  · rw [List.map_append, List.nodup_append]
    refine ⟨h.nd, by simp, fun a ha b hb => ?_⟩
    obtain ⟨m, hm, rfl⟩ := List.mem_map.1 ha
    simp at hb
    subst hb
    intro e
    rcases valT_cases ord l with ⟨h1, h2⟩ | ⟨h1, h2⟩ | ⟨h1, h2, h3⟩
    · omega
    · omega
    · rcases Int.natAbs_eq_natAbs_iff.1 e with e | e
      · exact h2 (e ▸ hm)
      · exact h3 (e ▸ hm)
  · rcases List.mem_append.1 hm with h1 | h1
    · exact h.wf m h1
    · rw [List.mem_singleton.1 h1]; exact ⟨h0, hn⟩
theorem GoodOrd.take {n : Nat} {ord : List Int} (h : GoodOrd n ord) (k : Nat) : GoodOrd n (ord.take k) := ⟨by rw [List.map_take]; exact List.Nodup.sublist (List.take_sublist _ _) h.nd, fun l hl => h.wf l (List.mem_of_mem_take hl)⟩
theorem GoodOrd.sub {n : Nat} {o p : List Int} (h : GoodOrd n p) (hs : o.Sublist p) : GoodOrd n o := ⟨List.Nodup.sublist (hs.map _) h.nd, fun l hl => h.wf l (hs.subset hl)⟩
theorem vals_app {n : Nat} {ord : List Int} {l : Int} (h : GoodOrd n (ord ++ [l])) : vals n (ord ++ [l]) = (vals n ord).set l.natAbs (if 0 < l then 1 else -1) := by
  have hl := h.wf l (by simp)
  refine List.ext_getElem? fun i => ?_
  rw [List.getElem?_set]
  by_cases hi : i ≤ n
  · rw [vals_get hi, valT_app h, vals_get hi, vals_len]
    by_cases e : l.natAbs = i
    · rw [if_pos e.symm, if_pos e, if_pos (show l.natAbs < n + 1 by omega)]
    · rw [if_neg (fun x => e x.symm), if_neg e]
  · rw [if_neg (by omega), List.getElem?_eq_none (by rw [vals_len]; omega), List.getElem?_eq_none (by rw [vals_len]; omega)]
/-- One that is taken back. -/
theorem vals_drop {n : Nat} {o p : List Int} {l : Int} (h : GoodOrd n (o ++ l :: p)) : (vals n (o ++ l :: p)).set l.natAbs 0 = vals n (o ++ p) := by
  have hl := h.wf l (by simp)
  have hn : ∀ m ∈ o ++ p, m.natAbs ≠ l.natAbs := fun m hm e => by
    have h1 := h.nd
    rw [List.map_append, List.map_cons, List.nodup_append, List.nodup_cons] at h1
    rcases List.mem_append.1 hm with h2 | h2
    · exact h1.2.2 _ (List.mem_map.2 ⟨m, h2, rfl⟩) _ (List.mem_cons_self ..) e
    · exact h1.2.1.1 (by rw [← e]; exact List.mem_map.2 ⟨m, h2, rfl⟩)
  refine List.ext_getElem? fun i => ?_
  rw [List.getElem?_set]
  by_cases hi : i ≤ n
  · rw [vals_get hi, vals_get hi, vals_len]
    by_cases e : l.natAbs = i
    · rw [if_pos e, if_pos (by omega)]
      subst e
      rcases valT_cases (o ++ p) (l.natAbs : Nat) with ⟨h1, h2⟩ | ⟨h1, h2, h3⟩ | ⟨h1, _⟩
      · exact absurd (by omega) (hn _ h2)
      · exact absurd (by omega) (hn _ h3)
      · rw [h1]
    · rw [if_neg e]
      have e1 : ((i : Int) = l) = False := eq_false fun x => e (by omega)
      have e2 : (-(i : Int) = l) = False := eq_false fun x => e (by omega)
      simp only [valT, List.mem_append, List.mem_cons, e1, e2, false_or]
  · rw [if_neg (by omega), List.getElem?_eq_none (by rw [vals_len]; omega), List.getElem?_eq_none (by rw [vals_len]; omega)]

theorem nodup_le : ∀ (n : Nat) (l : List Nat), l.Nodup → (∀ x ∈ l, x < n) → l.length ≤ n
  | 0, l, _, h => by
    cases l with
    | nil => simp
    | cons x l => exact absurd (h x (by simp)) (by omega)
  | n + 1, l, hd, h => by
    have := nodup_le n (l.erase n) (hd.erase n) fun x hx => by
      have h1 := (List.Nodup.mem_erase_iff hd).1 hx
      have := h x h1.2
      have := h1.1
      omega
    rw [List.length_erase] at this
    split at this <;> omega
theorem GoodOrd.len {n : Nat} {ord : List Int} (h : GoodOrd n ord) : ord.length ≤ n := by
  have := nodup_le (n + 1) (0 :: ord.map Int.natAbs) (List.nodup_cons.2 ⟨fun h0 => by
    obtain ⟨l, hl, e⟩ := List.mem_map.1 h0
    exact (h.wf l hl).1 (Int.natAbs_eq_zero.1 e), h.nd⟩) fun x hx => by
      rcases List.mem_cons.1 hx with rfl | hx
      · omega
      · obtain ⟨l, hl, rfl⟩ := List.mem_map.1 hx
        have := (h.wf l hl).2
        omega
  simp at this
  exact this

/-- The one literal that a clause still leaves; 0: none, or it holds. -/
def forcedL (ord : List Int) : List Int → Int → Int
  | [], out => out
  | l :: c, out => if 0 < valT ord l ∨ (valT ord l = 0 ∧ out ≠ 0) then 0 else forcedL ord c (if valT ord l = 0 then l else out)

theorem forcedL_sound {ord : List Int} : ∀ (c : List Int) (out : Int), (∀ l ∈ c, l ≠ 0) → forcedL ord c out ≠ 0 → (forcedL ord c out = out ∧ ∀ l ∈ c, valT ord l = -1) ∨ (out = 0 ∧ forcedL ord c out ∈ c ∧ valT ord (forcedL ord c out) = 0 ∧ ∀ l ∈ c, l = forcedL ord c out ∨ valT ord l = -1)
  | [], out, _, _ => .inl ⟨rfl, by simp⟩
  | l :: c, out, hc, h => by
    rw [forcedL] at h ⊢
    split at h
    · exact absurd rfl h
    rename_i hx
    rw [if_neg hx]
    have hc' : ∀ l ∈ c, l ≠ 0 := fun m hm => hc m (by simp [hm])
    rcases valT_cases ord l with ⟨h1, _⟩ | ⟨h1, _⟩ | ⟨h1, _⟩
    · exact absurd (.inl (by omega)) hx
    · rw [if_neg (by omega)] at h ⊢
      rcases forcedL_sound c out hc' h with ⟨g1, g2⟩ | ⟨g1, g2, g3, g4⟩
      · exact .inl ⟨g1, fun m hm => by rcases List.mem_cons.1 hm with rfl | hm; exact h1; exact g2 m hm⟩
      · exact .inr ⟨g1, by simp [g2], g3, fun m hm => by rcases List.mem_cons.1 hm with rfl | hm; exact .inr h1; exact g4 m hm⟩
    · have ho : out = 0 := Classical.byContradiction fun e => hx (.inr ⟨h1, e⟩)
      rw [if_pos h1] at h ⊢
      rcases forcedL_sound c l hc' h with ⟨g1, g2⟩ | ⟨g1, _⟩
      · exact .inr ⟨ho, by rw [g1]; simp, by rw [g1]; exact h1, fun m hm => by rcases List.mem_cons.1 hm with rfl | hm; exact .inl g1.symm; exact .inr (g2 m hm)⟩
      · exact absurd g1 (hc l (by simp))

/-- Those that hold, hold. -/
def Agr (M : Nat → Bool) (ord : List Int) : Prop := ∀ l ∈ ord, litT M l = true
theorem Agr.neg {M : Nat → Bool} {n : Nat} {ord : List Int} (h : Agr M ord) (hg : GoodOrd n ord) {l : Int} (hv : valT ord l = -1) : litT M l = false := by
  rcases valT_cases ord l with ⟨h1, _⟩ | ⟨_, _, h2⟩ | ⟨h1, _⟩
  · omega
  · have h0 := (hg.wf _ h2).1
    have := h _ h2
    rw [litT_neg (by omega)] at this
    simpa using this
  · omega
theorem forced_agr {M : Nat → Bool} {n : Nat} {ord c : List Int} (h : Agr M ord) (hg : GoodOrd n ord) (hc : ∀ l ∈ c, l ≠ 0) (hM : claT M c = true) (hf : forcedL ord c 0 ≠ 0) : litT M (forcedL ord c 0) = true := by
  obtain ⟨l, hl, ht⟩ := List.any_eq_true.1 hM
  rcases forcedL_sound c 0 hc hf with ⟨g1, _⟩ | ⟨_, _, _, g4⟩
  · exact absurd g1 hf
  · rcases g4 l hl with e | e
    · rw [← e]; exact ht
    · rw [h.neg hg e] at ht; cases ht

/-- A clause of which nothing can hold any more. -/
def lostC (ord c : List Int) : Bool := !c.any fun l => decide (0 ≤ valT ord l)
theorem lost_none {M : Nat → Bool} {n : Nat} {ord c : List Int} (h : Agr M ord) (hg : GoodOrd n ord) (hl : lostC ord c = true) : claT M c = false := by
  rw [claT, List.any_eq_false]
  intro l hlc ht
  have : valT ord l = -1 := by
    simp only [lostC, Bool.not_eq_true', List.any_eq_false, decide_eq_true_eq] at hl
    have := hl l hlc
    rcases valT_cases ord l with ⟨h1, _⟩ | ⟨h1, _⟩ | ⟨h1, _⟩ <;> omega
  rw [h.neg hg this] at ht
  cases ht
end Go.Av
end
section
namespace Go.Av

/-- Clauses that can hold together with assumptions, all of them of the variables 1 to n. -/
def satA (n : Nat) (cls : List (List Int)) (asm : List Int) : Prop := (∀ l ∈ asm, wfL n l = true) ∧ ∃ M, setT M cls = true ∧ Agr M asm

/-- A way that is still open: a decision that has been tried one way alone. -/
def Alts (ord : List Int) (stk : List (Nat × Int)) (M : Nat → Bool) : Prop := ∃ p ∈ stk, 0 < p.2 ∧ Agr M (ord.take p.1) ∧ litT M p.2 = true

/-- Decisions, from the place where they begin. -/
def StkOk (n : Nat) (cls : List (List Int)) (ord : List Int) : Nat → List (Nat × Int) → Prop
  | lo, [] => lo ≤ ord.length
  | lo, p :: r => lo ≤ p.1 ∧ p.1 < ord.length ∧ p.2 ≠ 0 ∧ p.2.natAbs ≤ n ∧ valT (ord.take p.1) p.2 = 0 ∧ cls.any (lostC (ord.take p.1)) = false ∧ StkOk n cls ord (p.1 + 1) r

theorem StkOk.app {n : Nat} {cls : List (List Int)} {ord : List Int} {k : Nat} {d : Int} {o2 : List Int} : ∀ {lo : Nat} {stk : List (Nat × Int)}, StkOk n cls ord lo stk → (∀ i, i ≤ ord.length → o2.take i = ord.take i) → k = ord.length → k < o2.length → d ≠ 0 → d.natAbs ≤ n → valT ord d = 0 → cls.any (lostC ord) = false → StkOk n cls o2 lo (stk ++ [(k, d)])
  | lo, [], h, ho, hk, hk2, h0, hn, hv, hc => by
    have e : o2.take k = ord := by rw [ho k (by omega), hk, List.take_length]
    refine ⟨by rw [hk]; exact h, hk2, h0, hn, by show valT (o2.take k) d = 0; rw [e]; exact hv, by show cls.any (lostC (o2.take k)) = false; rw [e]; exact hc, ?_⟩
    show k + 1 ≤ o2.length
    omega
  | lo, p :: r, ⟨h1, h2, h3, h4, h5, h6, h7⟩, ho, hk, hk2, h0, hn, hv, hc => ⟨h1, by omega, h3, h4, by rw [ho _ (by omega)]; exact h5, by rw [ho _ (by omega)]; exact h6, h7.app ho hk hk2 h0 hn hv hc⟩

theorem StkOk.le {n : Nat} {cls : List (List Int)} {ord : List Int} : ∀ {lo : Nat} {stk : List (Nat × Int)}, StkOk n cls ord lo stk → lo + stk.length ≤ ord.length
  | lo, [], h => by simp only [StkOk] at h; simpa using h
  | lo, p :: r, ⟨h1, _, _, _, _, _, h7⟩ => by have := h7.le; simp; omega

theorem StkOk.pop {n : Nat} {cls : List (List Int)} {ord : List Int} {k : Nat} {d : Int} : ∀ {lo : Nat} {stk : List (Nat × Int)}, StkOk n cls ord lo (stk ++ [(k, d)]) → StkOk n cls (ord.take k) lo stk ∧ k < ord.length ∧ d ≠ 0 ∧ d.natAbs ≤ n ∧ valT (ord.take k) d = 0 ∧ cls.any (lostC (ord.take k)) = false ∧ ∀ p ∈ stk, p.1 ≤ k
  | lo, [], ⟨h1, h2, h3, h4, h5, h6, _⟩ => ⟨by show lo ≤ (ord.take k).length; rw [List.length_take]; simp at h1 h2; omega, h2, h3, h4, h5, h6, by simp⟩
  | lo, p :: r, ⟨h1, h2, h3, h4, h5, h6, h7⟩ => by
    obtain ⟨g1, g2, g3, g4, g5, g6, g7⟩ := h7.pop
    have hp : p.1 < k := by
      have := g1.le
      rw [List.length_take] at this
      omega
    have e : (ord.take k).take p.1 = ord.take p.1 := by rw [List.take_take, Nat.min_eq_left (by omega)]
    refine ⟨⟨h1, by rw [List.length_take]; omega, h3, h4, by rw [e]; exact h5, by rw [e]; exact h6, g1⟩, g2, g3, g4, g5, g6, fun q hq => ?_⟩
    rcases List.mem_cons.1 hq with rfl | hq
    · omega
    · exact g7 q hq

/-- Every model is on the way, or on one that is still open. -/
def OpenW (cls : List (List Int)) (asm ord : List Int) (stk : List (Nat × Int)) : Prop := ∀ M, setT M cls = true → Agr M asm → Agr M ord ∨ Alts ord stk M

theorem Alts.take {ord : List Int} {stk : List (Nat × Int)} {M : Nat → Bool} {k : Nat} (hk : ∀ p ∈ stk, p.1 ≤ k) (h : Alts ord stk M) : Alts (ord.take k) stk M := by
  obtain ⟨p, h1, h2, h3, h4⟩ := h
  exact ⟨p, h1, h2, by rw [List.take_take, Nat.min_eq_left (hk p h1)]; exact h3, h4⟩
theorem Alts.more {ord o2 : List Int} {stk : List (Nat × Int)} {M : Nat → Bool} (ho : ∀ p ∈ stk, o2.take p.1 = ord.take p.1) (h : Alts ord stk M) (q : List (Nat × Int)) : Alts o2 (stk ++ q) M := by
  obtain ⟨p, h1, h2, h3, h4⟩ := h
  exact ⟨p, by simp [h1], h2, by rw [ho p h1]; exact h3, h4⟩

/-- How far the search still has to go. -/
def mu : Nat → List (Nat × Int) → Nat
  | n, [] => 3 ^ n - 1
  | 0, _ :: _ => 0
  | n + 1, p :: r => (if 0 < p.2 then 3 ^ n else 0) + mu n r

theorem mu_lt : ∀ (n : Nat) (stk : List (Nat × Int)), mu n stk < 3 ^ n
  | n, [] => by have : 0 < 3 ^ n := Nat.pow_pos (by omega); simp only [mu]; omega
  | 0, _ :: _ => by simp [mu]
  | n + 1, p :: r => by
    have := mu_lt n r
    simp only [mu, Nat.pow_succ]
    split <;> omega
theorem mu_push : ∀ (n : Nat) (stk : List (Nat × Int)) (k : Nat) (d : Int), stk.length < n → mu n (stk ++ [(k, d)]) < mu n stk
  | 0, _, _, _, h => by omega
  | n + 1, [], k, d, _ => by
    have : 0 < 3 ^ n := Nat.pow_pos (by omega)
    simp only [List.nil_append, mu, Nat.pow_succ]
    split <;> omega
  | n + 1, p :: r, k, d, h => by
    have := mu_push n r k d (by simpa using h)
    simp only [List.cons_append, mu]
    omega
theorem mu_flip : ∀ (n : Nat) (pre tr : List (Nat × Int)) (k : Nat) (d : Int), 0 < d → pre.length < n → mu n (pre ++ [(k, -d)]) < mu n (pre ++ (k, d) :: tr)
  | 0, _, _, _, _, _, h => by omega
  | n + 1, [], tr, k, d, hd, _ => by
    have : 0 < 3 ^ n := Nat.pow_pos (by omega)
    simp only [List.nil_append, mu]
    rw [if_neg (by omega), if_pos hd]
    omega
  | n + 1, p :: r, tr, k, d, hd, h => by
    have := mu_flip n r tr k d hd (by simpa using h)
    simp only [List.cons_append, mu]
    omega

/-- All that is decided holds. -/
theorem model_of {n : Nat} {ord : List Int} {cls : List (List Int)} (hg : GoodOrd n ord) (hall : ∀ v : Nat, 0 < v → v ≤ n → valT ord (v : Nat) ≠ 0) (hc : cls.any (lostC ord) = false) (hw : ∀ c ∈ cls, ∀ l ∈ c, l ≠ 0 ∧ l.natAbs ≤ n) :
    ∃ M, setT M cls = true ∧ Agr M ord ∧ ∀ v : Nat, M v = decide (0 < valT ord (v : Nat)) := by
  refine ⟨fun v => decide (0 < valT ord (v : Nat)), ?_, ?_, fun v => rfl⟩
  · rw [setT, List.all_eq_true]
    intro c hcm
    rw [List.any_eq_false] at hc
    have h1 := hc c hcm
    simp only [lostC, Bool.not_eq_true', Bool.not_eq_false] at h1
    obtain ⟨l, hl, hv⟩ := List.any_eq_true.1 h1
    have hv := of_decide_eq_true hv
    have hlw := hw c hcm l hl
    refine List.any_eq_true.2 ⟨l, hl, ?_⟩
    have h2 := hall l.natAbs (by omega) hlw.2
    unfold litT
    rcases Int.lt_or_le 0 l with h | h
    · rw [if_pos h]
      show decide (0 < valT ord (l.natAbs : Nat)) = true
      have e : ((l.natAbs : Nat) : Int) = l := by omega
      rw [e] at h2 ⊢
      exact decide_eq_true (by omega)
    · rw [if_neg (by omega)]
      show (!decide (0 < valT ord (l.natAbs : Nat))) = true
      have e : ((l.natAbs : Nat) : Int) = -l := by omega
      rw [e, valT_neg hg] at h2 ⊢
      simp
      omega
  · intro l hl
    have hlw := hg.wf l hl
    have hv : valT ord l = 1 := by rw [valT, if_pos hl]
    unfold litT
    rcases Int.lt_or_le 0 l with h | h
    · rw [if_pos h]
      show decide (0 < valT ord (l.natAbs : Nat)) = true
      have e : ((l.natAbs : Nat) : Int) = l := by omega
      rw [e, hv]; rfl
    · rw [if_neg (by omega)]
      show (!decide (0 < valT ord (l.natAbs : Nat))) = true
      have e : ((l.natAbs : Nat) : Int) = -l := by omega
      rw [e, valT_neg hg, hv]; rfl
end Go.Av
end
section
namespace Go.Av

def litN (i : Nat) : Int := ((i + 1 : Nat) : Int)
/-- One of those that meet it, from the place i on. -/
def meetL (c : Clause) : Nat → List Pkg → List Int
  | _, [] => []
  | i, q :: r => (if c.any (satP q) = true then [litN i] else []) ++ meetL c (i + 1) r
def depL (all : List Pkg) (i : Nat) (c : Clause) : List Int := -litN i :: meetL c 0 all
/-- Those ahead of it with which it can't be. -/
def conL (p : Pkg) (i : Nat) : Nat → List Pkg → List (List Int)
  | _, [] => []
  | k, q :: r => (if (p.name == q.name || clashP p q) = true then [[-litN i, -litN k]] else []) ++ conL p i (k + 1) r
/-- All clauses of one package. -/
def pkgL (all : List Pkg) (i : Nat) (p : Pkg) : List (List Int) := (p.pre ++ p.dep).map (depL all i) ++ conL p i 0 (all.take i)
def allL (all : List Pkg) : Nat → List Pkg → List (List Int)
  | _, [] => []
  | i, p :: r => pkgL all i p ++ allL all (i + 1) r

theorem meetL_mem {c : Clause} : ∀ {i : Nat} {l : List Pkg} {x : Int}, x ∈ meetL c i l → ∃ k q, l[k]? = some q ∧ x = litN (i + k)
  | i, [], x, h => by simp [meetL] at h
  | i, q :: r, x, h => by
    rw [meetL, List.mem_append] at h
    rcases h with h | h
    · split at h
      · simp at h; exact ⟨0, q, rfl, by simpa using h⟩
      · simp at h
    · obtain ⟨k, q', h1, h2⟩ := meetL_mem h
      exact ⟨k + 1, q', by simpa using h1, by rw [h2]; congr 1; omega⟩
theorem meetL_nodup {c : Clause} : ∀ (i : Nat) (l : List Pkg), (meetL c i l).Nodup ∧ ∀ x ∈ meetL c i l, litN i ≤ x
  | i, [] => by simp [meetL]
  | i, q :: r => by
    obtain ⟨h1, h2⟩ := meetL_nodup (c := c) (i + 1) r
    rw [meetL]
    refine ⟨List.nodup_append.2 ⟨by split <;> simp, h1, fun a ha b hb => ?_⟩, fun x hx => ?_⟩
    · split at ha
      · simp at ha
        have := h2 b hb
        subst ha
        unfold litN at *
        omega
      · simp at ha
    · rcases List.mem_append.1 hx with h | h
      · split at h
        · simp at h; omega
        · simp at h
      · have := h2 x h
        unfold litN at *
        omega
theorem meetL_len {c : Clause} : ∀ (i : Nat) (l : List Pkg), (meetL c i l).length ≤ l.length
  | i, [] => by simp [meetL]
  | i, q :: r => by
    have := meetL_len (c := c) (i + 1) r
    rw [meetL, List.length_append]
    split <;> simp <;> omega
theorem meetL_succ {c : Clause} : ∀ (l : List Pkg) (i k : Nat) (q : Pkg), l[k]? = some q → meetL c i (l.take (k + 1)) = meetL c i (l.take k) ++ (if c.any (satP q) = true then [litN (i + k)] else [])
  | [], i, k, q, h => by simp at h
  | p :: r, i, 0, q, h => by
    simp at h; subst h
    simp [meetL]
  | p :: r, i, k + 1, q, h => by
    rw [List.take_succ_cons, List.take_succ_cons, meetL, meetL, meetL_succ r (i + 1) k q (by simpa using h), List.append_assoc]
    have : i + 1 + k = i + (k + 1) := by omega
    rw [this]
theorem conL_succ {p : Pkg} {i : Nat} : ∀ (l : List Pkg) (j k : Nat) (q : Pkg), l[k]? = some q → conL p i j (l.take (k + 1)) = conL p i j (l.take k) ++ (if (p.name == q.name || clashP p q) = true then [[-litN i, -litN (j + k)]] else [])
  | [], j, k, q, h => by simp at h
  | p' :: r, j, 0, q, h => by
    simp at h; subst h
    simp [conL]
  | p' :: r, j, k + 1, q, h => by
    rw [List.take_succ_cons, List.take_succ_cons, conL, conL, conL_succ r (j + 1) k q (by simpa using h), List.append_assoc]
    have : j + 1 + k = j + (k + 1) := by omega
    rw [this]
theorem allL_succ (all : List Pkg) : ∀ (l : List Pkg) (j k : Nat) (p : Pkg), l[k]? = some p → allL all j (l.take (k + 1)) = allL all j (l.take k) ++ pkgL all (j + k) p
  | [], j, k, p, h => by simp at h
  | q :: r, j, 0, p, h => by
    simp at h; subst h
    simp [allL]
  | q :: r, j, k + 1, p, h => by
    rw [List.take_succ_cons, List.take_succ_cons, allL, allL, allL_succ all r (j + 1) k p (by simpa using h), List.append_assoc]
    have : j + 1 + k = j + (k + 1) := by omega
    rw [this]
theorem setT_app (M : Nat → Bool) (a b : List (List Int)) : setT M (a ++ b) = (setT M a && setT M b) := by simp [setT]
theorem mayAll_len {all : List Pkg} (h : mayAll all = 0) : all.length ≤ 24 := by
  unfold mayAll at h
  split at h
  · omega
  · omega
theorem orL_zero : ∀ {l : List Int}, orL l = 0 → ∀ x ∈ l, x = 0
  | [], _, x, hx => by simp at hx
  | y :: r, h, x, hx => by
    rw [orL] at h
    split at h
    · rename_i hy; exact absurd h hy
    · rename_i hy
      rcases List.mem_cons.1 hx with rfl | hx
      · exact Classical.not_not.1 hy
      · exact orL_zero h x hx
theorem mayAll_pkg {all : List Pkg} (h : mayAll all = 0) {p : Pkg} (hp : p ∈ all) : mayPkg p = 0 := by
  unfold mayAll at h
  split at h
  · omega
  · split at h
    · rename_i h1; exact absurd h h1
    · rename_i h1
      exact orL_zero (Classical.not_not.1 h1) _ (List.mem_map.2 ⟨p, hp, rfl⟩)
theorem mayCl_len {l : List Clause} (h : mayCl l = 0) : l.length ≤ 12 := by
  unfold mayCl at h
  split at h
  · omega
  · rename_i h1; omega
theorem mayPkg_len {p : Pkg} (h : mayPkg p = 0) : p.pre.length ≤ 12 ∧ p.dep.length ≤ 12 := by
  unfold mayPkg at h
  split at h
  · omega
  · have := orL_zero h
    exact ⟨mayCl_len (this _ (by simp)), mayCl_len (this _ (by simp))⟩
theorem litN_pos (i : Nat) : 0 < litN i := by unfold litN; omega
theorem litN_abs (i : Nat) : (litN i).natAbs = i + 1 := by unfold litN; omega
theorem depL_ok {all : List Pkg} {i : Nat} (hi : i < all.length) (c : Clause) : wfC all.length (depL all i c) = true ∧ (depL all i c).Nodup ∧ (depL all i c).length ≤ all.length + 1 := by
  refine ⟨List.all_eq_true.2 fun l hl => ?_, ?_, ?_⟩
  · have : l ≠ 0 ∧ l.natAbs ≤ all.length := by
      rcases List.mem_cons.1 hl with rfl | hl
      · have := litN_pos i; have := litN_abs i
        exact ⟨by omega, by omega⟩
      · obtain ⟨k, q, h1, rfl⟩ := meetL_mem hl
        have h2 := (List.getElem?_eq_some_iff.1 h1).1
        have := litN_pos (0 + k); have := litN_abs (0 + k)
        exact ⟨by omega, by omega⟩
    simp [wfL, this]
  · refine List.nodup_cons.2 ⟨fun h => ?_, (meetL_nodup _ _).1⟩
    have := (meetL_nodup (c := c) 0 all).2 _ h
    have := litN_pos i; have := litN_pos 0
    omega
  · have := meetL_len (c := c) 0 all
    simp [depL]; omega
theorem conP_ok {n i k : Nat} (hi : i < n) (hk : k < i) : wfC n [-litN i, -litN k] = true ∧ [-litN i, -litN k].Nodup := by
  have := litN_pos i; have := litN_abs i; have := litN_pos k; have := litN_abs k
  refine ⟨by simp [wfC, wfL]; omega, by simp; unfold litN; omega⟩
end Go.Av
end
section
namespace Go.Av

/-- A row that a call has made, the whole of it, or none yet. -/
structure OutR (σ st : Store) (v : AV) (e : TypeId) (xs : List AV) : Prop where
  row : (v = .nils ∧ xs = []) ∨ ∃ id, v = .row e id 0 xs.length ∧ st[id]? = some (some (.cells e xs)) ∧ σ.length ≤ id
  ext : Ext σ st

theorem OutR.nil {σ st : Store} (h : Ext σ st) (e : TypeId) : OutR σ st .nils e [] := ⟨.inl ⟨rfl, rfl⟩, h⟩
theorem OutR.st {σ st : Store} {v : AV} {e : TypeId} {xs : List AV} (h : OutR σ st v e xs) : RowSt st v e xs := by
  rcases h.row with h | ⟨id, rfl, h1, _⟩
  · exact .inl h
  · exact .inr (.inr ⟨id, 0, _, xs, rfl, h1, by simp, by simp⟩)
theorem OutR.more {σ st : Store} {v : AV} {e : TypeId} {xs : List AV} (h : OutR σ st v e xs) (l : Store) : OutR σ (st ++ l) v e xs := by
  refine ⟨?_, h.ext.app l⟩
  rcases h.row with h1 | ⟨id, h1, h2, h3⟩
  · exact .inl h1
  · exact .inr ⟨id, h1, by rw [List.getElem?_append_left ((List.getElem?_eq_some_iff.1 h2).1)]; exact h2, h3⟩
theorem AppA.out {P : Program} {A : AState} {σ : Store} {t u e : TypeId} {x y : AV} {xs ys : List AV} {dst : Option Nat} {k : AState → Prop} (N : Nat) (ho : appB P t u e N = true) (h : OutR σ A.st x e xs) (hy : ReadL A.st y e ys) (hN : xs.length + ys.length ≤ N)
    (hk : ∀ v st', OutR σ st' v e (xs ++ ys) → k ((A.put dst v).withSt st')) : AppA P [t, u] [x, y] dst A k .mk := by
  have hkl : (killOf x A.st).length = A.st.length := by unfold killOf; split <;> simp
  refine AppA.row N ho h.st hy hN (fun he => hk _ _ (by rw [he, List.append_nil]; exact h)) fun he => hk _ _ ⟨.inr ⟨A.st.length, by simp, ?_, h.ext.le⟩, ?_⟩
  · rw [← hkl, List.getElem?_append_right (Nat.le_refl _), Nat.sub_self]
    rfl
  · refine Ext.app ?_ _
    rcases h.row with ⟨rfl, _⟩ | ⟨id, rfl, _, h3⟩
    · exact h.ext
    · exact h.ext.set h3 _
theorem OutR.endr {A : AState} {σ : Store} {v : AV} {e : TypeId} {xs : List AV} {d : Nat} {x : Exit} {R : AState → Prop} (h : OutR σ A.st v e xs) (hd : A.env d = v)
    (h0 : v = .nils → xs = [] → EndR R x A) (h1 : ∀ id, EndR R x ((A.upd d (.sl e xs)).withSt (A.st.set id none)) ∨ ¬ (σ.length ≤ id ∧ A.env d = .row e id 0 xs.length)) : EndR R x A := by
  rcases h.row with ⟨h2, h3⟩ | ⟨id, h2, h3, h4⟩
  · exact h0 h2 h3
  · rcases h1 id with h5 | h5
    · exact EndR.frz d (by rw [hd, h2]) h3 (by simp) (by simpa using h5)
    · exact absurd ⟨h4, by rw [hd, h2]⟩ h5

/-- One field of one row is appended to. -/
theorem OutR.fld {σ1 st σ' : Store} {oid : Nat} {T e : TypeId} {ls ls' xs ws zs : List AV} {v x x' w : AV} (hl : ls'.length = ls.length) (hv : v = .row T oid 0 ls.length) (ho : OutR σ1 st v T ls) (ho1 : st[oid]? = some (some (.cells T ls))) (holo : σ1.length ≤ oid) (bx : Bld st x e xs) (bw : Bld st w e ws)
    (dj : ∀ t ∈ foot x, t ∉ foot w) (lo : ∀ t ∈ foot x ++ foot w, σ1.length ≤ t) (ha : App st x e zs x' σ') :
    σ'[oid]? = some (some (.cells T ls)) ∧ OutR σ1 (σ'.set oid (some (.cells T ls'))) v T ls' ∧ Bld (σ'.set oid (some (.cells T ls'))) x' e zs ∧ Bld (σ'.set oid (some (.cells T ls'))) w e ws ∧ (∀ t ∈ foot x', t ∉ foot w) ∧ ∀ t ∈ foot x' ++ foot w, σ1.length ≤ t := by
  have hf := ha.fr
  have h1 : σ'[oid]? = some (some (.cells T ls)) := by rw [hf.old oid (List.getElem?_eq_some_iff.1 ho1).1 (bx.ne ho1 (by simp)), ho1]
  have hlen := (List.getElem?_eq_some_iff.1 h1).1
  have hx := ho.ext.le
  refine ⟨h1, ⟨.inr ⟨oid, by rw [hl]; exact hv, by simp [hlen], holo⟩, (hf.toExt ho.ext fun j hj => lo j (by simp [hj])).set holo _⟩, ha.bld.keep fun j hj => List.getElem?_set_ne fun e1 => ?_, bw.keep fun j hj => ?_, fun t ht hw => ?_, fun t ht => ?_⟩
  · exact ha.bld.ne h1 (by simp) (by rw [e1]; exact hj)
  · rw [List.getElem?_set_ne (fun e1 : oid = j => bw.ne ho1 (by simp) (by rw [e1]; exact hj)), hf.old j (bw.lt j hj) (fun e1 => dj j e1 hj)]
  · rcases ha.foot bx t ht with h2 | h2
    · exact dj t h2 hw
    · have := bw.lt t hw; omega
  · rcases List.mem_append.1 ht with h2 | h2
    · rcases ha.foot bx t h2 with h3 | h3
      · exact lo t (by simp [h3])
      · omega
    · exact lo t (by simp [h2])
end Go.Av
end
section
namespace Go.Av

/-- A choice of places that meets all that their packages ask. -/
structure SelOk (all : List Pkg) (S : Nat → Bool) : Prop where
  dep : ∀ (i : Nat) (p : Pkg), all[i]? = some p → S i = true → ∀ c ∈ p.pre ++ p.dep, ∃ (k : Nat) (q : Pkg), all[k]? = some q ∧ c.any (satP q) = true ∧ S k = true
  con : ∀ (i : Nat) (p : Pkg) (k : Nat) (q : Pkg), all[i]? = some p → all[k]? = some q → k < i → S i = true → S k = true → p.name ≠ q.name ∧ clashP p q = false

theorem litT_pos (M : Nat → Bool) (i : Nat) : litT M (litN i) = M (i + 1) := by
  unfold litT
  rw [if_pos (litN_pos i), litN_abs]
theorem litT_not (M : Nat → Bool) (i : Nat) : litT M (-litN i) = !M (i + 1) := by
  rw [litT_neg (by have := litN_pos i; omega), litT_pos]

theorem meetL_claT {M : Nat → Bool} {c : Clause} : ∀ (i : Nat) (l : List Pkg), claT M (meetL c i l) = true ↔ ∃ (k : Nat) (q : Pkg), l[k]? = some q ∧ c.any (satP q) = true ∧ M (i + k + 1) = true
  | i, [] => by simp [meetL, claT]
  | i, q :: r => by
    have ih := meetL_claT (M := M) (c := c) (i + 1) r
    have e : claT M (meetL c i (q :: r)) = (claT M (if c.any (satP q) = true then [litN i] else []) || claT M (meetL c (i + 1) r)) := by rw [meetL, claT, List.any_append]; rfl
    rw [e, Bool.or_eq_true, ih]
    constructor
    · rintro (h | ⟨k, q', h1, h2, h3⟩)
      · split at h
        · rename_i hc
          refine ⟨0, q, rfl, hc, ?_⟩
          simpa [claT, litT_pos] using h
        · simp [claT] at h
      · exact ⟨k + 1, q', by simpa using h1, h2, by rw [show i + (k + 1) + 1 = i + 1 + k + 1 by omega]; exact h3⟩
    · rintro ⟨k, q', h1, h2, h3⟩
      cases k with
      | zero =>
        simp at h1; subst h1
        left
        rw [if_pos h2]
        simpa [claT, litT_pos] using h3
      | succ k => exact .inr ⟨k, q', by simpa using h1, h2, by rw [show i + 1 + k + 1 = i + (k + 1) + 1 by omega]; exact h3⟩

theorem depL_claT {M : Nat → Bool} {all : List Pkg} {i : Nat} {c : Clause} : claT M (depL all i c) = true ↔ (M (i + 1) = true → ∃ (k : Nat) (q : Pkg), all[k]? = some q ∧ c.any (satP q) = true ∧ M (k + 1) = true) := by
  have e : claT M (depL all i c) = (litT M (-litN i) || claT M (meetL c 0 all)) := rfl
  rw [e, litT_not, Bool.or_eq_true, meetL_claT]
  simp only [Nat.zero_add]
  cases h : M (i + 1) <;> simp

theorem conL_setT {M : Nat → Bool} {p : Pkg} {i : Nat} : ∀ (j : Nat) (l : List Pkg), setT M (conL p i j l) = true ↔ ∀ (k : Nat) (q : Pkg), l[k]? = some q → (p.name == q.name || clashP p q) = true → M (i + 1) = true → M (j + k + 1) = true → False
  | j, [] => by simp [conL, setT]
  | j, q :: r => by
    have ih := conL_setT (M := M) (p := p) (i := i) (j + 1) r
    rw [conL, setT_app, Bool.and_eq_true, ih]
    constructor
    · rintro ⟨h1, h2⟩ k q' hk hc hi hj
      cases k with
      | zero =>
        simp at hk; subst hk
        rw [if_pos hc] at h1
        simp [setT, claT, litT_not] at h1
        rcases h1 with h | h
        · rw [hi] at h; cases h
        · rw [Nat.add_zero] at hj; rw [hj] at h; cases h
      | succ k => exact h2 k q' (by simpa using hk) hc hi (by rw [show j + 1 + k + 1 = j + (k + 1) + 1 by omega]; exact hj)
    · intro h
      refine ⟨?_, fun k q' hk hc hi hj => h (k + 1) q' (by simpa using hk) hc hi (by rw [show j + (k + 1) + 1 = j + 1 + k + 1 by omega]; exact hj)⟩
      split
      · rename_i hc
        have := h 0 q rfl hc
        simp only [setT, claT, List.all_cons, List.any_cons, List.any_nil, List.all_nil, litT_not, Nat.add_zero] at this ⊢
        cases h1 : M (i + 1) <;> cases h2 : M (j + 1) <;> simp_all
      · rfl

theorem allL_setT {M : Nat → Bool} {all : List Pkg} : ∀ (j : Nat) (l : List Pkg), setT M (allL all j l) = true ↔ ∀ (k : Nat) (p : Pkg), l[k]? = some p → setT M (pkgL all (j + k) p) = true
  | j, [] => by simp [allL, setT]
  | j, p :: r => by
    have ih := allL_setT (M := M) (all := all) (j + 1) r
    rw [allL, setT_app, Bool.and_eq_true, ih]
    constructor
    · rintro ⟨h1, h2⟩ k q hk
      cases k with
      | zero => simp at hk; subst hk; exact h1
      | succ k => have := h2 k q (by simpa using hk); rw [show j + (k + 1) = j + 1 + k by omega]; exact this
    · intro h
      exact ⟨h 0 p rfl, fun k q hk => by have := h (k + 1) q (by simpa using hk); rw [show j + 1 + k = j + (k + 1) by omega]; exact this⟩

theorem setT_sel {M : Nat → Bool} {all : List Pkg} : setT M (allL all 0 all) = true ↔ SelOk all fun i => M (i + 1) := by
  rw [allL_setT]
  constructor
  · intro h
    refine ⟨fun i p hp hS c hc => ?_, fun i p k q hp hq hki hi hk => ?_⟩
    · have := h i p hp
      rw [pkgL, setT_app, Bool.and_eq_true, Nat.zero_add] at this
      have := (List.all_eq_true.1 this.1) _ (List.mem_map.2 ⟨c, hc, rfl⟩)
      exact depL_claT.1 this hS
    · have := h i p hp
      rw [pkgL, setT_app, Bool.and_eq_true, Nat.zero_add] at this
      have := (conL_setT _ _).1 this.2 k q (by rw [List.getElem?_take_of_lt hki]; exact hq)
      have h2 : ¬ (p.name == q.name || clashP p q) = true := fun e => this e hi (by simpa using hk)
      simp at h2
      exact ⟨h2.1, h2.2⟩
  · intro h k p hp
    rw [pkgL, setT_app, Bool.and_eq_true, Nat.zero_add]
    refine ⟨List.all_eq_true.2 fun x hx => ?_, (conL_setT _ _).2 fun j q hj hc hi hk => ?_⟩
    · obtain ⟨c, hc, rfl⟩ := List.mem_map.1 hx
      exact depL_claT.2 fun hS => h.dep k p hp hS c hc
    · have hjk : j < k := by
        have := (List.getElem?_eq_some_iff.1 hj).1
        rw [List.length_take] at this; omega
      rw [List.getElem?_take_of_lt hjk] at hj
      have := h.con k p j q hp hj hjk hi (by simpa using hk)
      simp [this.1, this.2] at hc

/-- What a literal asks of a choice. -/
def litS (S : Nat → Bool) (l : Int) : Prop := if 0 < l then S (l.natAbs - 1) = true else S (l.natAbs - 1) = false
theorem litS_pos (S : Nat → Bool) (i : Nat) : litS S (litN i) ↔ S i = true := by
  unfold litS; rw [if_pos (litN_pos i), litN_abs]; simp
theorem litS_not (S : Nat → Bool) (i : Nat) : litS S (-litN i) ↔ S i = false := by
  unfold litS; rw [if_neg (by have := litN_pos i; omega), Int.natAbs_neg, litN_abs]; simp

theorem satA_sel {all : List Pkg} {asm : List Int} : satA all.length (allL all 0 all) asm ↔ (∀ l ∈ asm, wfL all.length l = true) ∧ ∃ S, SelOk all S ∧ ∀ l ∈ asm, litS S l := by
  have key : ∀ (M : Nat → Bool) (l : Int), l ≠ 0 → (litT M l = true ↔ litS (fun i => M (i + 1)) l) := fun M l hl => by
    have e : l.natAbs - 1 + 1 = l.natAbs := by omega
    unfold litT litS
    simp only [e]
    split <;> simp
  unfold satA
  refine ⟨fun ⟨h, M, h1, h2⟩ => ⟨h, fun i => M (i + 1), setT_sel.1 h1, fun l hl => ?_⟩, fun ⟨h, S, h1, h2⟩ => ⟨h, fun i => S (i - 1), setT_sel.2 (by simpa using h1), fun l hl => ?_⟩⟩
  · exact (key M l (by have := h l hl; simp [wfL] at this; exact this.1)).1 (h2 l hl)
  · exact (key _ l (by have := h l hl; simp [wfL] at this; exact this.1)).2 (by simpa using h2 l hl)

theorem wfL_lit {n i : Nat} (h : i < n) : wfL n (litN i) = true := by
  have := litN_pos i; have := litN_abs i
  simp [wfL]; omega
theorem wfL_not {n i : Nat} (h : i < n) : wfL n (-litN i) = true := by
  have := litN_pos i; have := litN_abs i
  simp [wfL]; omega
end Go.Av
end
section
namespace Go.Av

def lightD (d : List Clause) : Bool := decide (d.length ≤ 14) && d.all fun c => decide (c.length ≤ 10)
def lightP (i : Nat) (p : Pkg) : Bool := decide (i < 26) && decide (p.con.length + p.brk.length + p.prov.length ≤ 40) && [p.pre, p.dep, p.rcm].all lightD
def lightL : Nat → List Pkg → Bool
  | _, [] => true
  | i, p :: r => lightP i p && lightL (i + 1) r
theorem lightL_get : ∀ {i : Nat} {l : List Pkg}, lightL i l = true → ∀ p ∈ l, p.con.length + p.brk.length + p.prov.length ≤ 40
  | _, [], _, p, hp => by simp at hp
  | i, q :: r, h, p, hp => by
    rw [lightL, Bool.and_eq_true] at h
    rcases List.mem_cons.1 hp with rfl | hp
    · have := h.1
      simp [lightP] at this
      exact this.1.2
    · exact lightL_get h.2 p hp
end Go.Av
end
section
namespace Go.Av

def all2 {α β : Type} (f : α → β → Bool) : List α → List β → Bool
  | [], [] => true
  | x :: xs, y :: ys => f x y && all2 f xs ys
  | _, _ => false
theorem all2_get {α β : Type} {f : α → β → Bool} : ∀ {xs : List α} {ys : List β}, all2 f xs ys = true → xs.length = ys.length ∧ ∀ (i : Nat) (x : α) (y : β), xs[i]? = some x → ys[i]? = some y → f x y = true
  | [], [], _ => ⟨rfl, by simp⟩
  | [], _ :: _, h => by simp [all2] at h
  | _ :: _, [], h => by simp [all2] at h
  | x :: xs, y :: ys, h => by
    rw [all2, Bool.and_eq_true] at h
    obtain ⟨h1, h2⟩ := all2_get h.2
    refine ⟨by simp [h1], fun i x' y' hx hy => ?_⟩
    cases i with
    | zero => simp at hx hy; subst hx hy; exact h.1
    | succ i => exact h2 i x' y' (by simpa using hx) (by simpa using hy)

def subB : Nat → AV → AV → Bool
  | 0, _, _ => false
  | n + 1, x, y => match x, y with
    | .int k a, .int k' b => decide (k = k') && a == b
    | .bool a, .bool b => a == b
    | .str a, .str b => a == b
    | .nil, .nil => true
    | .nils, .nils => true
    | .nils, .sl _ [] => true
    | .sl e xs, .sl e' ys => e == e' && all2 (subB n) xs ys
    | .lit e xs, .sl e' ys => e == e' && all2 (subB n) xs ys
    | .agg t xs, .agg t' ys => t == t' && all2 (subB n) xs ys
    | _, _ => false
theorem subB_sound : ∀ {n : Nat} {x y : AV}, subB n x y = true → Sub x y
  | 0, _, _, h => by simp [subB] at h
  | n + 1, x, y, h => by
    unfold subB at h
    split at h
    · simp only [Bool.and_eq_true, decide_eq_true_eq, beq_iff_eq] at h
      rw [h.1, h.2]; exact .refl _
    · rw [beq_iff_eq.1 h]; exact .refl _
    · rw [beq_iff_eq.1 h]; exact .refl _
    · exact .refl _
    · exact .refl _
    · exact .nils _
    · rw [Bool.and_eq_true, beq_iff_eq] at h
      obtain ⟨rfl, h⟩ := h
      obtain ⟨h1, h2⟩ := all2_get h
      exact .sls h1 fun i x y hx hy => subB_sound (h2 i x y hx hy)
    · rw [Bool.and_eq_true, beq_iff_eq] at h
      obtain ⟨rfl, h⟩ := h
      obtain ⟨h1, h2⟩ := all2_get h
      exact .trans (.lits h1 fun i x y hx hy => subB_sound (h2 i x y hx hy)) (.lit _ _)
    · rw [Bool.and_eq_true, beq_iff_eq] at h
      obtain ⟨rfl, h⟩ := h
      obtain ⟨h1, h2⟩ := all2_get h
      exact .agg h1 fun i x y hx hy => subB_sound (h2 i x y hx hy)
    · cases h

/-- The packages of the report that every program must know. -/
def awA : Pkg := ⟨[97, 97], [49], [], [[⟨[98, 98], 0, []⟩]], [], [], [], [], false⟩
def awB : Pkg := ⟨[98, 98], [49], [], [], [], [], [], [], false⟩
def awC : Pkg := ⟨[99, 99], [49], [], [], [], [⟨[98, 98], 0, []⟩], [], [], false⟩
def awL : List Pkg := [awA, awB, awC]
theorem aw_cls : allL awL 0 awL = [[-1, 2], [-3, -2]] := by decide +kernel
theorem aw_may : mayAll awL = 0 := by decide +kernel
end Go.Av
end
section
namespace Go.Av

def bareP (p : Pkg) : Bool := decide (p.pre.length + p.dep.length + p.con.length + p.brk.length = 0)
theorem bareP_nil {p : Pkg} (h : bareP p = true) : p.pre = [] ∧ p.dep = [] ∧ p.con = [] ∧ p.brk = [] := by
  simp only [bareP, decide_eq_true_eq] at h
  refine ⟨?_, ?_, ?_, ?_⟩ <;> exact List.eq_nil_of_length_eq_zero (by omega)
theorem sel_bare {all : List Pkg} {i : Nat} {p : Pkg} (hi : all[i]? = some p) (hb : bareP p = true) : SelOk all fun k => k == i := by
  obtain ⟨h1, h2, _, _⟩ := bareP_nil hb
  refine ⟨fun k q hk hS c hc => ?_, fun k q j r _ _ hjk hk hj => ?_⟩
  · rw [beq_iff_eq] at hS
    subst hS
    rw [hi] at hk
    cases hk
    rw [h1, h2] at hc
    cases hc
  · rw [beq_iff_eq] at hk hj
    omega
theorem mayAll_one (p : Pkg) : mayAll [p] = mayPkg p := by
  have h1 : orL ([p].map mayPkg) = mayPkg p := by
    simp only [List.map_cons, List.map_nil, orL]
    split
    · rfl
    · rename_i h; exact (Classical.not_not.1 h).symm
  have h2 : dupL [] [p] = false := rfl
  have h3 : (namesL [p] []).length = 1 := rfl
  unfold mayAll
  rw [if_neg (by simp), h1, h2, h3]
  by_cases h : mayPkg p = 0
  · simp [h]
  · simp [h]
theorem sel_one {p : Pkg} : (∃ S, SelOk [p] S ∧ S 0 = true) ↔ ∀ c ∈ p.pre ++ p.dep, c.any (satP p) = true := by
  constructor
  · rintro ⟨S, h, h0⟩ c hc
    obtain ⟨k, q, hk, h1, _⟩ := h.dep 0 p rfl h0 c hc
    cases k with
    | zero => simp at hk; subst hk; exact h1
    | succ k => simp at hk
  · intro h
    refine ⟨fun _ => true, ⟨fun k q hk _ c hc => ⟨0, p, rfl, ?_, rfl⟩, fun i p' k q hi hk hki _ _ => ?_⟩, rfl⟩
    · cases k with
      | zero => simp at hk; subst hk; exact h c hc
      | succ k => simp at hk
    · have := (List.getElem?_eq_some_iff.1 hi).1
      simp at this; omega
theorem healthy_one {p : Pkg} (hm : mayPkg p = 0) : healthyP [p] = decide (∀ c ∈ p.pre ++ p.dep, c.any (satP p) = true) := by
  have hmet : ∀ c : Clause, metP c [p] = c.any (satP p) := fun c => by
    unfold metP
    congr 1
    funext a
    simp
  rw [healthyP, sickL, sickL, sickP, hm, Bool.eq_iff_iff]
  simp only [hmet, List.any_nil, Bool.or_false, Bool.not_eq_true', decide_eq_true_eq, bne_self_eq_false, Bool.false_or, Bool.or_eq_false_iff, List.any_eq_false, Bool.not_eq_false', Bool.not_eq_true', List.mem_append]
  constructor
  · rintro ⟨h1, h2⟩ c (hc | hc)
    · simpa using h1 c hc
    · simpa using h2 c hc
  · intro h
    exact ⟨fun c hc => by simpa using h c (.inl hc), fun c hc => by simpa using h c (.inr hc)⟩
end Go.Av
end
