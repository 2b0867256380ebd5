/- Texts that the last one of this claim rests on: a layer over the guide's own conditions for code; contracts of the functions that the law reaches, one by one. No conditions beside those of the given rows. -/
import Derived.IntWalk
import Derived.Test.YtekjlnodoelblaaGreatDoorProg
import Derived.Test.YtekjlnodoelblaaGreatDoorWac
set_option linter.unusedSimpArgs false
set_option linter.unusedVariables false
section
namespace Go.Av
open Go

theorem wrap_in {n : Int} (h : -9223372036854775808 ≤ n ∧ n ≤ 9223372036854775807) : IntKind.i64.wrap n = n:=by rw [IntKind.wrap_i64]; omega
@[go_sem] theorem wrap_u8 (c : UInt8) : IntKind.i64.wrap (c.toNat : Int) = c.toNat:=wrap_in (by have:=c.toNat_lt; omega)
theorem DepOk.of {fz : List Nat} {id : Nat} {ops : Array Oper} (h : depOk fz (eM fz id) ops (mkAnc [] ops.toList) = true) : DepOk fz id ops .mk:=h
@[go_sem] theorem castS_beq (n : Nat) : (((n + 1 : Nat) : Int) == 0) = false:=by simp; omega
@[go_sem] theorem cast_lit (n : Nat) : ((no_index (OfNat.ofNat n) : Nat) : Int) = (OfNat.ofNat n : Int):=rfl
theorem maxLen_eq : maxLen = 9223372036854775807:=rfl
theorem wrap_succ {i N : Nat} (h : i < N) (hN : N ≤ maxLen) : IntKind.i64.wrap ((i : Int) + 1) = ((i + 1 : Nat) : Int):=by
 rw [maxLen_eq] at hN
 rw [wrap_in (by omega)]
 omega
theorem int_succ {i N : Nat} (h : i < N) (hN : N ≤ maxLen) : AV.int .i64 (IntKind.i64.wrap ((i : Int) + 1)) = .int .i64 ((i + 1 : Nat) : Int):=by rw [wrap_succ h hN]

theorem small_str {l : List UInt8} (h : Small (.str l)) : l.length ≤ maxLen:=by cases h; assumption
theorem small_sl {e : TypeId} {xs : List AV} (h : Small (.sl e xs)) : xs.length ≤ maxLen ∧ ∀ x ∈ xs,Small x:=by cases h; exact ⟨by assumption,by assumption⟩
theorem small_map {α : Type} {f : α → AV} {e : TypeId} {l : List α} (h : Small (.sl e (l.map f))) : l.length ≤ maxLen ∧ ∀ x ∈ l,Small (f x):=by
 obtain ⟨h1,h2⟩:=small_sl h
 exact ⟨by simpa using h1,fun x hx=>h2 _ (List.mem_map_of_mem hx)⟩

@[go_sem] theorem cutL_drop {α : Type} (l : List α) (i : Nat) : cutL l i l.length = l.drop i:=by
 unfold cutL
 rw [← List.length_drop,List.take_length]
@[go_sem] theorem cutL_take {α : Type} (l : List α) (j : Nat) : cutL l 0 j = l.take j:=by simp [cutL]
@[go_sem] theorem cutL_cons1 {α : Type} (c : α) (r : List α) : cutL (c :: r) 1 (r.length + 1) = r:=by simp [cutL]
@[go_sem] theorem nil_beq : (([] : List UInt8) == []) = true:=rfl
@[go_sem] theorem cons_beq (c : UInt8) (r : List UInt8) : ((c :: r : List UInt8) == []) = false:=rfl
@[go_sem] theorem nil_beq_cons (c : UInt8) (r : List UInt8) : (([] : List UInt8) == c :: r) = false:=rfl
attribute [go_sem] List.drop_succ_cons List.drop_zero List.length_cons List.length_nil true_implies false_implies Bool.false_eq_true Bool.true_eq_false
@[go_sem] theorem pos_succ (n : Nat) : (0 < n + 1) = True:=eq_true (Nat.succ_pos n)
@[go_sem] theorem one_le_succ (n : Nat) : (1 ≤ n + 1) = True:=eq_true (Nat.succ_pos n)
attribute [go_sem] Nat.le_refl not_true_eq_false not_false_eq_true
@[go_sem] theorem not_lt_zero' (n : Nat) : (n < 0) = False:=eq_false (Nat.not_lt_zero n)
theorem at_and {l : List UInt8} {i : Nat} {f : UInt8 → Bool} : (decide (i < l.length) && f (l[i]?.getD 0)) = true ↔ ∃ c,l[i]? = some c ∧ f c = true:=by
 cases h : l[i]? with
 | none=>have:=List.getElem?_eq_none_iff.1 h; simp; omega
 | some c=>have:=(List.getElem?_eq_some_iff.1 h).1; simp [this]
theorem at_and_f {l : List UInt8} {i : Nat} {f : UInt8 → Bool} : (decide (i < l.length) && f (l[i]?.getD 0)) = false ↔ ∀ c,l[i]? = some c → f c = false:=by
 cases h : l[i]? with
 | none=>have:=List.getElem?_eq_none_iff.1 h; simp; omega
 | some c=>have:=(List.getElem?_eq_some_iff.1 h).1; simp [this]

theorem get_app (σ l : Store) (k : Nat) : (σ ++ l)[σ.length + k]? = l[k]?:=by rw [List.getElem?_append_right (by omega)]; congr 1; omega
@[go_sem] theorem look_app (σ l : Store) (k i : Nat) (path : List Nat) : look (σ ++ l) (σ.length + k) i path = look l k i path:=by simp only [look,get_app]
@[go_sem] theorem look_app0 (σ l : Store) (i : Nat) (path : List Nat) : look (σ ++ l) σ.length i path = look l 0 i path:=look_app σ l 0 i path
@[go_sem] theorem look_here (t : TypeId) (xs : List AV) (l : Store) (i : Nat) (path : List Nat) : look (some (.cells t xs) :: l) 0 i path = (xs[i]?).bind (·.at path):=rfl
@[go_sem] theorem look_next (o : Option SObj) (l : Store) (k i : Nat) (path : List Nat) : look (o :: l) (k + 1) i path = look l k i path:=rfl
@[go_sem] theorem get_app0 (σ l : Store) : (σ ++ l)[σ.length]? = l[0]?:=get_app σ l 0
theorem decAt_ascii {s : List UInt8} {pos : Nat} {c : UInt8} (h : s[pos]? = some c) (hc : c.toNat < 128) : decAt s pos = (c.toNat,1):=by
 obtain ⟨hi,he⟩:=List.getElem?_eq_some_iff.1 h
 have h0 : ((⟨s.toArray⟩ : ByteArray).get! (pos + 0)) = c:=by
  show s.toArray[pos + 0]! = c
  simp [hi,he]
 unfold decAt Utf8.decode
 simp only [h0]
 rw [if_pos hc]
theorem decAt_big {s : List UInt8} {pos : Nat} {c : UInt8} (h : s[pos]? = some c) (hc : 128 ≤ c.toNat) : 128 ≤ (decAt s pos).1:=by
 obtain ⟨hi,he⟩:=List.getElem?_eq_some_iff.1 h
 have h0 : ((⟨s.toArray⟩ : ByteArray).get! (pos + 0)) = c:=by
  show s.toArray[pos + 0]! = c
  simp [hi,he]
 unfold decAt Utf8.decode
 simp only [h0]
 rw [if_neg (by omega)]
 repeat' split
 all_goals first | (simp [Utf8.runeError]; done) | skip
 all_goals simp_all
 all_goals omega
theorem set_app' (σ l : Store) (k : Nat) (o : Option SObj) : (σ ++ l).set (σ.length + k) o = σ ++ l.set k o:=by
 rw [List.set_append_right _ _ (by omega)]; congr 2; omega
@[go_sem] theorem set_app (σ l : Store) (k : Nat) (o : Option SObj) : (σ ++ l).set (σ.length + k) o = σ ++ l.set k o:=set_app' σ l k o
@[go_sem] theorem set_app0 (σ l : Store) (o : Option SObj) : (σ ++ l).set σ.length o = σ ++ l.set 0 o:=set_app' σ l 0 o
@[go_sem] theorem setLook_app (σ l : Store) (k i : Nat) (path : List Nat) (v : AV) : setLook (σ ++ l) (σ.length + k) i path v = σ ++ setLook l k i path v:=by
 unfold setLook
 rw [get_app]
 split
 ·exact set_app' ..
 ·rfl
@[go_sem] theorem setLook_app0 (σ l : Store) (i : Nat) (path : List Nat) (v : AV) : setLook (σ ++ l) σ.length i path v = σ ++ setLook l 0 i path v:=setLook_app σ l 0 i path v
@[go_sem] theorem setLook_here (t : TypeId) (xs : List AV) (l : Store) (i : Nat) (path : List Nat) (v : AV) : setLook (some (.cells t xs) :: l) 0 i path v = some (.cells t (xs.set i ((xs[i]?.getD .undef).setAt path v))) :: l:=rfl
@[go_sem] theorem setLook_next (o : Option SObj) (l : Store) (k i : Nat) (path : List Nat) (v : AV) : setLook (o :: l) (k + 1) i path v = o :: setLook l k i path v:=by
 show (match l[k]? with | some (some (.cells te xs))=>(o :: l).set (k + 1) (some (.cells te (xs.set i ((xs[i]?.getD .undef).setAt path v)))) | _=>o :: l) = _
 unfold setLook
 split <;> simp_all
@[go_sem] theorem at_nil (v : AV) : v.at [] = some v:=by cases v <;> rfl
@[go_sem] theorem at_cons (t : TypeId) (fs : List AV) (k : Nat) (r : List Nat) : (AV.agg t fs).at (k :: r) = (fs[k]?).bind (·.at r):=rfl
@[go_sem] theorem setAt_nil (v u : AV) : v.setAt [] u = u:=by cases v <;> rfl
attribute [go_sem] List.length_append List.append_assoc List.cons_append List.nil_append

def Ext (σ st : Store) : Prop:=st.take σ.length = σ
theorem Ext.refl (σ : Store) : Ext σ σ:=List.take_length
theorem Ext.le {σ st : Store} (h : Ext σ st) : σ.length ≤ st.length:=by
 have:=congrArg List.length h
 rw [List.length_take] at this
 omega
theorem Ext.app {σ st : Store} (h : Ext σ st) (l : Store) : Ext σ (st ++ l):=by
 unfold Ext
 rw [List.take_append_of_le_length h.le]
 exact h
theorem Ext.set {σ st : Store} (h : Ext σ st) {id : Nat} (hid : σ.length ≤ id) (o : Option SObj) : Ext σ (st.set id o):=by
 unfold Ext
 rw [List.take_set_of_le hid]
 exact h
@[go_sem] theorem take_app (σ l : Store) : (σ ++ l).take σ.length = σ:=List.take_left

theorem weak_bool {a b : Bool} (h : a = b) : Weak (.bool a) (.bool b):=by rw [h]; exact .refl _
theorem weak_int {k : IntKind} {a b : Int} (h : a = b) : Weak (.int k a) (.int k b):=by rw [h]; exact .refl _
theorem weak_str {a b : List UInt8} (h : a = b) : Weak (.str a) (.str b):=by rw [h]; exact .refl _

def NotM : AV → Prop | .maybe _ _=>False | _=>True
theorem okM_notM {gd : Option Bool} {x : AV} (h : NotM x) : okM gd x = True:=by cases x <;> first | exact h.elim | exact eq_true trivial
theorem unm_notM {x : AV} (h : NotM x) : unm x = x:=by cases x <;> first | exact h.elim | rfl
theorem atV_map {α : Type} {f : α → AV} {l : List α} {i : Nat} {a : α} (h : l[i]? = some a) : atV (l.map f) (i : Int) = f a:=by
 simp only [atV,Int.toNat_natCast,List.getElem?_map,h,Option.map_some,Option.getD_some]

theorem get_some {α : Type} {l : List α} {i : Nat} (h : i < l.length) : ∃ x,l[i]? = some x:=⟨_,List.getElem?_eq_getElem h⟩

theorem take_succ_get {α : Type} {l : List α} {i : Nat} {x : α} (h : l[i]? = some x) : l.take (i + 1) = l.take i ++ [x]:=by
 rw [List.take_add_one,h]; rfl

theorem all_false {α : Type} {f : α → Bool} {l : List α} {i : Nat} {x : α} (h : l[i]? = some x) (hf : f x = false) : l.all f = false:=by
 rw [List.all_eq_false]; exact ⟨x,List.mem_of_getElem? h,by simp [hf]⟩
theorem any_true {α : Type} {f : α → Bool} {l : List α} {i : Nat} {x : α} (h : l[i]? = some x) (hf : f x = true) : l.any f = true:=by
 rw [List.any_eq_true]; exact ⟨x,List.mem_of_getElem? h,hf⟩
end Go.Av
end
section
namespace Go.Proofs.Tryz
open Go Go.Av
@[go_sem] theorem ft_orders : prog.follows .mixedOrders = true ∧ concT prog 3 = true ∧ hasZ prog 3 = true ∧ szOf prog 3 = 1 ∧ prim prog 3 = true ∧ intT prog 3 = some .i64 ∧ hasZero prog 3 = true ∧ zeroOf prog 3 = some (.int .i64 0) ∧ zero1 prog 3 = (.int .i64 0) ∧ concT prog 4 = true ∧ hasZ prog 4 = true ∧ prim prog 4 = true:=by and_intros <;> kernel_rfl
@[go_sem] theorem ft_bo4 : isBoolT prog 4 = true ∧ zero1 prog 4 = (.bool false) ∧ szOf prog 5 = 1 ∧ prim prog 5 = true ∧ intT prog 5 = some .u8 ∧ hasZero prog 5 = true ∧ concT prog 9 = true ∧ hasZ prog 9 = true ∧ szOf prog 9 = 1 ∧ prim prog 9 = true ∧ isStrT prog 9 = true ∧ intT prog 9 = none:=by and_intros <;> kernel_rfl
@[go_sem] theorem ft_hz9 : hasZero prog 9 = true ∧ zero1 prog 9 = (.str []) ∧ prim prog 20 = true ∧ intT prog 21 = some .i32 ∧ prim prog 22 = true ∧ elT prog 22 = some 28 ∧ szOf prog 24 = 2 ∧ isStruct prog 24 = true ∧ hasZero prog 24 = true ∧ flds prog 24 = some [3,22] ∧ zeroOf prog 24 = some (.agg 24 [(.int .i64 0),.nils]) ∧ zeroIs prog 24 = true:=by and_intros <;> kernel_rfl
@[go_sem] theorem ft_zf24 : zeroFs prog 24 = [(.int .i64 0),.nils] ∧ prim prog 26 = true ∧ elT prog 26 = some 9 ∧ zeroOf prog 26 = some .nils ∧ szOf prog 28 = 2 ∧ isStruct prog 28 = true ∧ hasZero prog 28 = true ∧ flds prog 28 = some [9,26] ∧ zeroOf prog 28 = some (.agg 28 [(.str []),.nils]) ∧ zeroIs prog 28 = true ∧ zeroFs prog 28 = [(.str []),.nils] ∧ concT prog 29 = true:=by and_intros <;> kernel_rfl
@[go_sem] theorem ft_hy29 : hasZ prog 29 = true ∧ szOf prog 29 = 1 ∧ prim prog 29 = true ∧ elT prog 29 = some 85 ∧ hasZero prog 29 = true ∧ zero1 prog 29 = .nils ∧ concT prog 30 = true ∧ hasZ prog 30 = true ∧ elT prog 30 = some 100 ∧ zero1 prog 30 = .nils ∧ concT prog 31 = true ∧ hasZ prog 31 = true:=by and_intros <;> kernel_rfl
@[go_sem] theorem ft_el31 : elT prog 31 = some 102 ∧ zero1 prog 31 = .nils ∧ szOf prog 33 = 9 ∧ isStruct prog 33 = true ∧ hasZero prog 33 = true ∧ flds prog 33 = some [9,9,29,29,29,30,30,31,4] ∧ zeroOf prog 33 = some (.agg 33 [(.str []),(.str []),.nils,.nils,.nils,.nils,.nils,.nils,(.bool false)]) ∧ prim prog 34 = true ∧ isStruct prog 36 = true ∧ flds prog 36 = some [34,3] ∧ zeroOf prog 36 = some (.agg 36 [(.int .i64 0),(.int .i64 0)]) ∧ zeroIs prog 36 = true:=by and_intros <;> kernel_rfl
@[go_sem] theorem ft_zf36 : zeroFs prog 36 = [(.int .i64 0),(.int .i64 0)] ∧ elT prog 42 = some 33 ∧ elT prog 44 = some 5 ∧ isStruct prog 46 = true ∧ flds prog 46 = some [33,4,4] ∧ zeroOf prog 46 = some (.agg 46 [(.agg 33 [(.str []),(.str []),.nils,.nils,.nils,.nils,.nils,.nils,(.bool false)]),(.bool false),(.bool false)]) ∧ zeroIs prog 46 = true ∧ zeroFs prog 46 = [(.agg 33 [(.str []),(.str []),.nils,.nils,.nils,.nils,.nils,.nils,(.bool false)]),(.bool false),(.bool false)] ∧ prim prog 67 = true ∧ elT prog 67 = some 24 ∧ arrT prog 84 = some 29 ∧ flds prog 84 = some [29,29,29]:=by and_intros <;> kernel_rfl
@[go_sem] theorem ft_zi84 : zeroIs prog 84 = true ∧ zeroFs prog 84 = [.nils,.nils,.nils] ∧ szOf prog 85 = 1 ∧ prim prog 85 = true ∧ elT prog 85 = some 100 ∧ hasZero prog 85 = true ∧ elT prog 91 = some 29 ∧ szOf prog 100 = 3 ∧ isStruct prog 100 = true ∧ hasZero prog 100 = true ∧ flds prog 100 = some [9,3,9] ∧ zeroOf prog 100 = some (.agg 100 [(.str []),(.int .i64 0),(.str [])]):=by and_intros <;> kernel_rfl
@[go_sem] theorem ft_zi100 : zeroIs prog 100 = true ∧ zeroFs prog 100 = [(.str []),(.int .i64 0),(.str [])] ∧ szOf prog 102 = 2 ∧ isStruct prog 102 = true ∧ hasZero prog 102 = true ∧ flds prog 102 = some [9,9] ∧ zeroOf prog 102 = some (.agg 102 [(.str []),(.str [])]) ∧ zeroIs prog 102 = true ∧ zeroFs prog 102 = [(.str []),(.str [])] ∧ isStruct prog 104 = true ∧ flds prog 104 = some [20] ∧ zeroOf prog 104 = some (.agg 104 [.niface]):=by and_intros <;> kernel_rfl
@[go_sem] theorem ft_zi104 : zeroIs prog 104 = true ∧ zeroFs prog 104 = [.niface] ∧ isStruct prog 118 = true ∧ flds prog 118 = some [46,4,4,4] ∧ zeroOf prog 118 = some (.agg 118 [(.agg 46 [(.agg 33 [(.str []),(.str []),.nils,.nils,.nils,.nils,.nils,.nils,(.bool false)]),(.bool false),(.bool false)]),(.bool false),(.bool false),(.bool false)]) ∧ isStruct prog 138 = true ∧ flds prog 138 = some [67,4] ∧ zeroIs prog 138 = true ∧ zeroFs prog 138 = [.nils,(.bool false)] ∧ elT prog 216 = some 3 ∧ isStruct prog 219 = true ∧ flds prog 219 = some [9,9]:=by and_intros <;> kernel_rfl
@[go_sem] theorem ft_zi219 : zeroIs prog 219 = true ∧ zeroFs prog 219 = [(.str []),(.str [])] ∧ isStruct prog 231 = true ∧ flds prog 231 = some [26] ∧ zeroIs prog 231 = true ∧ zeroFs prog 231 = [.nils] ∧ concT prog 235 = true ∧ flds prog 237 = some [9,9] ∧ zeroIs prog 237 = true ∧ zeroFs prog 237 = [(.str []),(.str [])]:=by and_intros <;> kernel_rfl
end Go.Proofs.Tryz
end
