/- Texts that the last one of this claim rests on: a layer over the guide's own conditions for code; contracts of the functions that the law reaches, one by one. No conditions beside those of the given rows. -/
import Derived.Test.YtljcjoglabbcoaaGreatDoorWbs
import Derived.Test.YtljcjoglabbcoaaGreatDoorWbt
section
set_option linter.unusedSimpArgs false
set_option linter.unusedVariables false
namespace Go.Proofs.Tryz
open Go Go.Av
set_option linter.unusedSimpArgs false

theorem atL_app {l : List Pkg} {t : List Nat} {k : Nat} {x : Pkg} (h : l[k]? = some x) : atL l (t ++ [k]) = atL l t ++ [x] := by
  simp [atL, List.filterMap_append, h]
theorem drop_tw {α : Type} (f : α → Bool) : ∀ l : List α, l.drop (l.takeWhile f).length = l.dropWhile f
  | [] => rfl
  | a :: l => by
    cases h : f a with
    | false => simp [List.takeWhile_cons, List.dropWhile_cons, h]
    | true => simp [List.takeWhile_cons, List.dropWhile_cons, h, drop_tw f l]
theorem tw_mem {α : Type} (f : α → Bool) : ∀ (l : List α) (x : α), x ∈ l.takeWhile f → f x = true
  | [], _, h => by simp at h
  | a :: l, x, h => by
    cases hf : f a with
    | false => simp [List.takeWhile_cons, hf] at h
    | true =>
      simp [List.takeWhile_cons, hf] at h
      rcases h with rfl | h
      · exact hf
      · exact tw_mem f l x h
theorem run_split {l : List Pkg} {i : Nat} {p : Pkg} (hp : l[i]? = some p) : ∃ run : List Pkg, l.drop i = run ++ l.drop (runEnd l i) ∧ (∀ x ∈ run, x.name = p.name) ∧ ∀ x ∈ run, ∃ k, i ≤ k ∧ k < runEnd l i ∧ l[k]? = some x := by
  have hr : runEnd l i = i + ((l.drop i).takeWhile fun q => q.name == p.name).length := by simp [runEnd, hp]
  refine ⟨(l.drop i).takeWhile fun q => q.name == p.name, ?_, fun x hx => ?_, fun x hx => ?_⟩
  · rw [hr, ← List.drop_drop]
    have h1 := List.takeWhile_append_dropWhile (p := fun q : Pkg => q.name == p.name) (l := l.drop i)
    have h2 := drop_tw (fun q : Pkg => q.name == p.name) (l.drop i)
    rw [h2, h1]
  · have := tw_mem _ _ x hx
    simpa using this
  · obtain ⟨k, hk, e⟩ := List.getElem_of_mem hx
    refine ⟨i + k, by omega, by omega, ?_⟩
    have h1 := List.takeWhile_append_dropWhile (p := fun q : Pkg => q.name == p.name) (l := l.drop i)
    rw [← List.getElem?_drop, ← h1, List.getElem?_append_left hk, List.getElem?_eq_getElem hk, e]
theorem one_name {L : List Pkg} {n : List UInt8} (h : ∀ x ∈ L, x.name = n) (hp : L.Pairwise fun q p => q.name ≠ p.name) : L = [] ∨ ∃ x, L = [x] := by
  match L, h, hp with
  | [], _, _ => exact .inl rfl
  | [x], _, _ => exact .inr ⟨x, rfl⟩
  | x :: y :: L, h, hp =>
    have := (List.pairwise_cons.1 hp).1 y (by simp)
    exact absurd ((h x (by simp)).trans (h y (by simp)).symm) this
theorem wholes_has {l : List Pkg} : ∀ {f i : Nat} {t : List Nat} {L : List Pkg}, l.length ≤ f + i → i ≤ l.length → L.Sublist (l.drop i) → L.Pairwise (fun q p => q.name ≠ p.name) → healthyP (atL l t ++ L) = true → ∃ u ∈ wholesL l (f + 1) i t, atL l u = atL l t ++ L := by
  intro f
  induction f with
  | zero => 
    intro i t L hf hi hs hn hh
    have e : i = l.length := by omega
    subst e
    rw [List.drop_length] at hs
    have := List.eq_nil_of_sublist_nil hs
    subst this
    rw [List.append_nil] at hh ⊢
    exact ⟨t, by rw [wholesL_end, if_pos hh]; simp, rfl⟩
  | succ f ih =>
    intro i t L hf hi hs hn hh
    by_cases e : i = l.length
    · subst e
      rw [List.drop_length] at hs
      have := List.eq_nil_of_sublist_nil hs
      subst this
      rw [List.append_nil] at hh ⊢
      exact ⟨t, by rw [wholesL_end, if_pos hh]; simp, rfl⟩
    obtain ⟨p, hp⟩ := get_some (show i < l.length by omega)
    obtain ⟨b1, b2⟩ := run_bounds hp
    obtain ⟨run, r1, r2, r3⟩ := run_split hp
    rw [r1] at hs
    obtain ⟨L1, L2, rfl, s1, s2⟩ := List.sublist_append_iff.1 hs
    rw [List.pairwise_append] at hn
    rw [wholesL, if_neg e]
    rcases one_name (fun x hx => r2 x (s1.subset hx)) hn.1 with rfl | ⟨x, rfl⟩
    · obtain ⟨u, hu, eu⟩ := ih (by omega) b2 s2 hn.2.1 (by simpa using hh)
      exact ⟨u, List.mem_append_right _ hu, by simpa using eu⟩
    · obtain ⟨k, k1, k2, k3⟩ := r3 x (s1.subset (by simp))
      obtain ⟨u, hu, eu⟩ := ih (t := t ++ [k]) (by omega) b2 s2 hn.2.1 (by rw [atL_app k3]; simpa using hh)
      refine ⟨u, List.mem_append_left _ (List.mem_flatMap.2 ⟨k, by rw [List.mem_range'_1]; omega, hu⟩), ?_⟩
      rw [eu, atL_app k3]; simp
theorem wholes_ok {l : List Pkg} : ∀ {f i : Nat} {t u : List Nat}, u ∈ wholesL l f i t → i ≤ l.length → (atL l t).Sublist (l.take i) → l.length < f + i + 1 → (atL l u).Sublist l ∧ healthyP (atL l u) = true := by
  intro f
  induction f with
  | zero =>
    intro i t u hu hi hs hf
    have e : i = l.length := by omega
    subst e
    rw [wholesL_end] at hu
    split at hu
    · rw [List.mem_singleton.1 hu]
      rw [List.take_length] at hs
      exact ⟨hs, by assumption⟩
    · cases hu
  | succ f ih =>
    intro i t u hu hi hs hf
    by_cases e : i = l.length
    · subst e
      rw [wholesL_end] at hu
      split at hu
      · rw [List.mem_singleton.1 hu]
        rw [List.take_length] at hs
        exact ⟨hs, by assumption⟩
      · cases hu
    obtain ⟨p, hp⟩ := get_some (show i < l.length by omega)
    obtain ⟨b1, b2⟩ := run_bounds hp
    have hpre : ∀ {a b : Nat}, a ≤ b → (l.take a).Sublist (l.take b) := fun {a b} h => by
      have := List.take_sublist a (l.take b)
      rwa [List.take_take, Nat.min_eq_left h] at this
    rw [wholesL, if_neg e] at hu
    rcases List.mem_append.1 hu with hu | hu
    · obtain ⟨k, hk, hu⟩ := List.mem_flatMap.1 hu
      rw [List.mem_range'_1] at hk
      obtain ⟨x, hx⟩ := get_some (show k < l.length by omega)
      refine ih hu b2 ?_ (by omega)
      rw [atL_app hx]
      refine List.Sublist.trans ?_ (hpre (show k + 1 ≤ runEnd l i by omega))
      rw [take_succ_get hx]
      exact (hs.trans (hpre hk.1)).append (.refl _)
    · exact ih hu b2 (hs.trans (hpre (by omega))) (by omega)

theorem togE_iff {all : List Pkg} (h : mayAll all = 0) {i j : Nat} {p q : Pkg} (hi : all[i]? = some p) (hj : all[j]? = some q) : togE all p q = true ↔ Can2 all i j := by
  rw [can2_list h (sortP_perm all) hi hj]
  have hb : ∀ L : List Pkg, holdsP L p q = true ↔ p ∈ L ∧ q ∈ L := fun L => by simp [holdsP]
  rw [togE, List.any_eq_true]
  refine ⟨fun ⟨t, ht, hh⟩ => ?_, fun ⟨L, hs, hl, h1, h2⟩ => ?_⟩
  · obtain ⟨g1, g2⟩ := wholes_ok (l := sortP all) ht (Nat.zero_le _) (by simp [atL]) (by omega)
    exact ⟨_, g1, healthy_iff.1 g2, (hb _).1 hh⟩
  · have hpw : L.Pairwise fun q p => q.name ≠ p.name := hl.pair.imp fun h => h.1
    obtain ⟨u, hu, eu⟩ := wholes_has (l := sortP all) (f := (sortP all).length) (i := 0) (t := []) (L := L) (by omega) (Nat.zero_le _) (by simpa using hs) hpw (by simpa [atL] using healthy_iff.2 hl)
    exact ⟨u, hu, by rw [eu]; exact (hb _).2 ⟨by simp [h1], by simp [h2]⟩⟩
end Go.Proofs.Tryz
end
section
set_option linter.unusedSimpArgs false
set_option linter.unusedVariables false
namespace Go.Av
/-- Two lists that a call has built. -/
structure Two (σ st : Store) (v : AV) (e : TypeId) (xs : List AV) (w : AV) (d : TypeId) (ys : List AV) : Prop where
  a : Built σ st v e xs
  b : Built σ st w d ys
  ne : ∀ t, tokOf v = some t → tokOf w ≠ some t
theorem Built.lt {σ st : Store} {v : AV} {e : TypeId} {xs : List AV} (h : Built σ st v e xs) {t : Nat} (ht : tokOf v = some t) : t < st.length := h.bld.lt t ((foot_tok h.bld).2 ht)
theorem Built.beside {σ st st' : Store} {v v' w : AV} {e d : TypeId} {zs ys : List AV} (h : Built σ st w d ys) (ha : App st v e zs v' st') (hx : Ext σ st') (hn : ∀ t, tokOf w = some t → tokOf v ≠ some t) : Built σ st' w d ys :=
  ⟨h.bld.keep fun j hj => ha.old j (h.bld.lt j hj) (hn j ((foot_tok h.bld).1 hj)), hx, h.tok⟩
theorem Two.app1 {σ st st' : Store} {v w v' : AV} {e d : TypeId} {xs ys zs : List AV} (h : Two σ st v e xs w d ys) (ha : App st v e zs v' st') : Two σ st' v' e zs w d ys := by
  have h1 := h.a.app ha
  refine ⟨h1, h.b.beside ha h1.ext (fun t ht hv => h.ne t hv ht), fun t ht hw => ?_⟩
  rcases ha.tok with e1 | ⟨u, e1, hu⟩
  · exact h.ne t (by rw [← e1]; exact ht) hw
  · rw [e1] at ht; cases ht
    have := h.b.lt hw
    omega
theorem Two.app2 {σ st st' : Store} {v w w' : AV} {e d : TypeId} {xs ys zs : List AV} (h : Two σ st v e xs w d ys) (ha : App st w d zs w' st') : Two σ st' v e xs w' d zs := by
  have h1 := h.b.app ha
  refine ⟨h.a.beside ha h1.ext (fun t ht hv => h.ne t ht hv), h1, fun t ht hw => ?_⟩
  rcases ha.tok with e1 | ⟨u, e1, hu⟩
  · exact h.ne t ht (by rw [← e1]; exact hw)
  · rw [e1] at hw; cases hw
    have := h.a.lt ht
    omega
theorem Two.more {σ st : Store} {v w : AV} {e d : TypeId} {xs ys : List AV} (h : Two σ st v e xs w d ys) (l : Store) : Two σ (st ++ l) v e xs w d ys := ⟨h.a.more l, h.b.more l, h.ne⟩
theorem Two.nil {σ st : Store} (h : Ext σ st) (e d : TypeId) : Two σ st .nils e [] .nils d [] := ⟨.nil h e, .nil h d, fun t h => by cases h⟩
end Go.Av
namespace Go.Proofs.Tryz
open Go Go.Av
set_option maxRecDepth 10000
set_option linter.unusedSimpArgs false
set_option linter.unusedVariables false
variable {W0 : World}

def bkL (n j : Nat) : List Nat := (List.range n).filter fun k => decide (k ≠ j)
theorem bkL_succ (n j : Nat) : bkL (n + 1) j = bkL n j ++ if n = j then [] else [n] := by
  unfold bkL
  rw [List.range_succ, List.filter_append]
  by_cases h : n = j <;> simp [h]
theorem bkL_len (n j : Nat) : (bkL n j).length ≤ n := Nat.le_trans (List.length_filter_le _ _) (by simp)
theorem bkL_mem {n j k : Nat} : k ∈ bkL n j ↔ k < n ∧ k ≠ j := by simp [bkL]
theorem bkL_nodup (n j : Nat) : (bkL n j).Nodup := List.Pairwise.filter _ List.nodup_range
def fL1 (bk : List Nat) (c : Nat × Nat × Nat) (m : Nat) : List (Nat × Nat × Nat) := (List.range m).filterMap fun k => if bk[k]? = some c.1 then some (k, c.2.1, c.2.2) else none
theorem fL1_succ {bk : List Nat} {c : Nat × Nat × Nat} {m b : Nat} (hb : bk[m]? = some b) : fL1 bk c (m + 1) = fL1 bk c m ++ if b = c.1 then [(m, c.2.1, c.2.2)] else [] := by
  unfold fL1
  rw [List.range_succ, List.filterMap_append]
  by_cases h : b = c.1 <;> simp [hb, h]
theorem fL1_len (bk : List Nat) (c : Nat × Nat × Nat) (m : Nat) : (fL1 bk c m).length ≤ m := Nat.le_trans (List.length_filterMap_le _ _) (by simp)
def fL (bk : List Nat) (e : List (Nat × Nat × Nat)) : List (Nat × Nat × Nat) := e.flatMap fun c => fL1 bk c bk.length
theorem fL_succ {bk : List Nat} {e : List (Nat × Nat × Nat)} {b : Nat} {c : Nat × Nat × Nat} (hc : e[b]? = some c) : fL bk (e.take (b + 1)) = fL bk (e.take b) ++ fL1 bk c bk.length := by
  rw [take_succ_get hc, fL, fL, List.flatMap_append]
  simp
theorem fL_len (bk : List Nat) : ∀ e, (fL bk e).length ≤ e.length * bk.length
  | [] => by simp [fL]
  | c :: e => by
    have h1 := fL_len bk e
    have h2 := fL1_len bk c bk.length
    rw [fL, List.flatMap_cons, List.length_append, List.length_cons, Nat.succ_mul]
    unfold fL at h1
    omega

theorem atL_get {all : List Pkg} : ∀ {t : List Nat}, (∀ x ∈ t, x < all.length) → ∀ k : Nat, (atL all t)[k]? = (t[k]?).bind fun x => all[x]?
  | [], _, k => by simp [atL]
  | y :: t, h, k => by
    have h1 := h y (by simp)
    have ih := atL_get (t := t) (fun x hx => h x (by simp [hx]))
    obtain ⟨p, hp⟩ := get_some h1
    have e : atL all (y :: t) = p :: atL all t := by simp [atL, hp]
    rw [e]
    cases k with
    | zero => simp [hp]
    | succ k => simpa using ih k
theorem fL_mem {bk : List Nat} {e : List (Nat × Nat × Nat)} {c : Nat × Nat × Nat} : c ∈ fL bk e ↔ ∃ d ∈ e, bk[c.1]? = some d.1 ∧ c.2 = d.2 := by
  unfold fL fL1
  simp only [List.mem_flatMap, List.mem_filterMap, List.mem_range]
  constructor
  · rintro ⟨d, hd, k, hk, h⟩
    split at h
    · rename_i hb
      cases h
      exact ⟨d, hd, hb, rfl⟩
    · cases h
  · rintro ⟨d, hd, hb, h2⟩
    refine ⟨d, hd, c.1, (List.getElem?_eq_some_iff.1 hb).1, ?_⟩
    rw [if_pos hb, ← h2]
theorem idx_iff {bk : List Nat} (hn : bk.Nodup) {i m x : Nat} (hi : i ∈ bk) (hx : bk[m]? = some x) : x = i ↔ m = bk.idxOf i := by
  have h1 := List.idxOf_lt_length_of_mem hi
  have h2 : bk[bk.idxOf i]? = some i := by rw [List.getElem?_eq_getElem h1, List.getElem_idxOf]
  constructor
  · rintro rfl
    exact (List.getElem?_inj (List.getElem?_eq_some_iff.1 hx).1 hn).1 (by rw [hx, h2])
  · rintro rfl
    rw [h2] at hx
    exact (Option.some.inj hx).symm
theorem valid_fL {all : List Pkg} {bk : List Nat} {e : List (Nat × Nat × Nat)} (hb : ∀ x ∈ bk, x < all.length) (he : ∀ c ∈ e, ValidC all c) : ∀ c ∈ fL bk e, ValidC (atL all bk) c := fun c hc => by
  obtain ⟨d, hd, h1, h2⟩ := fL_mem.1 hc
  obtain ⟨p, hp, h3⟩ := he d hd
  refine ⟨p, ?_, by rw [h2]; exact h3⟩
  rw [atL_get hb, h1]
  exact hp
theorem r27_without (all : List Pkg) (e : List (Nat × Nat × Nat)) {i j : Nat} (hi : i < all.length) (h24 : all.length ≤ 24) (hl : ∀ p ∈ all, p.con.length ≤ 1000) (he : ∀ c ∈ e, ValidC all c) (hel : e.length ≤ 4000) :
    PureFn prog W0 32 [pkgsAV all, causesAV e, .int .i64 i, .int .i64 j] (.bool (if i = j then false else someA (atL all (bkL all.length j)) (fL (bkL all.length j) e) ((bkL all.length j).idxOf i))) := by
  refine fn_pure [8] [12, 16] func32 rfl rfl ntmps32 rfl rfl (.bool _) fun hs σ => ?_
  simp only [go_sem, simprocAttr, ↓reduceIte, pkgsAV, causesAV, List.length_map]
  refine ⟨fun h => ?_, fun h => ?_⟩
  · rw [if_pos h]
    exact weak_bool rfl
  rw [if_neg h]
  refine LoopVC.at [1, 2] (.of (by kernel_rfl)) (fun A => ∃ v w, A.env 9 = v ∧ A.env 10 = w ∧ Two σ A.st v 38 ((atL all (bkL all.length j)).map pkgAV) w 3 ((bkL all.length j).map fun k => .int .i64 (k : Nat))) ?_ fun B ⟨v, w, h9, h10, hb⟩ => ?_
  · refine LoopVC.upto [1, 2, 3, 24, 25] (.of (by kernel_rfl)) all.length (fun a A => A.env 26 = .int .i64 a ∧ ∃ v w, A.env 9 = v ∧ A.env 10 = w ∧ Two σ A.st v 38 ((atL all (bkL a j)).map pkgAV) w 3 ((bkL a j).map fun k => .int .i64 (k : Nat))) 0 (Nat.zero_le _) ?_ fun a B ha ⟨h26, v, w, h9, h10, hb⟩ => ?_
    · simp only [go_sem, simprocAttr, ↓reduceIte]
      exact ⟨_, _, rfl, rfl, Two.nil (.refl _) _ _⟩
    have o1 := hb.a.ok
    have o2 := hb.a.un
    have o3 := hb.b.ok
    have o4 := hb.b.un
    simp only [go_sem, simprocAttr, ↓reduceIte, h26, h9, h10, o1, o2, o3, o4, List.length_map]
    refine ⟨fun ha2 => ?_, fun ha2 => ⟨_, _, rfl, rfl, (show a = all.length by omega) ▸ hb⟩⟩
    obtain ⟨p, hp⟩ := get_some ha2
    have hb' := hb.more [none]
    have hbl := bkL_len a j
    have hal := atL_len all (bkL a j)
    simp only [go_sem, simprocAttr, ↓reduceIte, atV_map hp, pkgAV]
    refine ⟨ha2, fun hne => ?_, fun hj => ⟨ha2, int_succ ha2 (by rw [maxLen_eq]; omega), _, _, rfl, rfl, ?_⟩⟩
    · refine AppA.ownS (σ := B.st ++ [none]) (by simp only [go_sem, simprocAttr, ↓reduceIte]) 1048576 (by kernel_rfl) hb'.a.bld (.lit _ _ _) (by simp; omega) fun v1 σ1 a1 => ?_
      have t1 := hb'.app1 a1
      have p1 := t1.a.ok
      have p2 := t1.a.un
      simp only [go_sem, simprocAttr, ↓reduceIte, h26, h9, h10, o1, o2, o3, o4, p1, p2]
      refine AppA.ownS (σ := σ1) (by simp only [go_sem, simprocAttr, ↓reduceIte]) 1048576 (by kernel_rfl) t1.b.bld (.lit _ _ _) (by simp; omega) fun v2 σ2 a2 => ?_
      have t2 := t1.app2 a2
      have p3 := t2.b.ok
      have p4 := t2.b.un
      simp only [go_sem, simprocAttr, ↓reduceIte, h26, h9, h10, o1, o2, o3, o4, p1, p2, p3, p4]
      refine ⟨ha2, int_succ ha2 (by rw [maxLen_eq]; omega), _, _, rfl, rfl, ?_⟩
      rw [bkL_succ, if_neg hne, atL_app hp]
      simpa [pkgAV] using t2
    · rw [bkL_succ, if_pos hj, List.append_nil]
      exact hb'
  have o1 := hb.a.ok
  have o2 := hb.a.un
  have o3 := hb.b.ok
  have o4 := hb.b.un
  have n1 := hb.a.len
  have n2 := hb.a.lenC prog
  have n3 := hb.b.len
  have n4 := hb.b.lenC prog
  have hbl := bkL_len all.length j
  have hwv := hb.a.weak
  have hbw := hb.b.bld
  have hst := hb.a.ext
  have hbm : ∀ k, k ∈ bkL all.length j ↔ k < all.length ∧ k ≠ j := fun k => bkL_mem
  have hnd := bkL_nodup all.length j
  generalize hbk : bkL all.length j = bk at *
  have hib : i ∈ bk := (hbm i).2 ⟨hi, h⟩
  have x1 : 0 < bk.length := List.length_pos_of_mem hib
  have x2 : 0 < (bk.map fun k => AV.int .i64 (k : Nat)).length := by simpa using x1
  have n5 := hbw.idxV x2 prog
  have n6 := hbw.idxC x2 prog
  simp only [go_sem, simprocAttr, ↓reduceIte, h9, h10, o1, o2, o3, o4, List.length_map]
  refine LoopVC.at [2, 9, 10, 14] (.of (by kernel_rfl)) (fun A => ∃ u, A.env 13 = u ∧ Built σ A.st u 99 ((fL bk e).map causeAV)) ?_ fun B2 ⟨u, h13, hu⟩ => ?_
  · refine LoopVC.upto [2, 9, 10, 14, 43, 44] (.of (by kernel_rfl)) e.length (fun b A => A.env 45 = .int .i64 b ∧ ∃ u, A.env 13 = u ∧ Built σ A.st u 99 ((fL bk (e.take b)).map causeAV)) 0 (Nat.zero_le _) ?_ fun b B2 hb2 ⟨h45, u, h13, hu⟩ => ?_
    · simp only [go_sem, simprocAttr, ↓reduceIte]
      exact ⟨_, rfl, by simpa [fL] using Built.nil hst 99⟩
    have o5 := hu.ok
    have o6 := hu.un
    simp only [go_sem, simprocAttr, ↓reduceIte, h45, h13, h9, h10, o1, o2, o3, o4, o5, o6, List.length_map]
    refine ⟨fun hc1 => ?_, fun hc1 => ?_⟩
    · obtain ⟨c, hc⟩ := get_some hc1
      simp only [go_sem, simprocAttr, ↓reduceIte, atV_map hc, causeAV, h45, h13, h9, h10, o1, o2, o3, o4, o5, o6, n3, n4, List.length_map]
      refine ⟨hc1, LoopVC.ats [2, 9, 10, 14, 43, 44, 45] (.of (by kernel_rfl)) (fun A => ∃ u, A.env 13 = u ∧ Built σ A.st u 99 ((fL bk (e.take (b + 1))).map causeAV)) ?_ fun C ⟨u2, h13, hu2⟩ => ?_⟩
      · refine LoopVC.upto [2, 9, 10, 14, 16, 43, 44, 45, 49, 50] (.of (by kernel_rfl)) bk.length (fun m A => A.env 51 = .int .i64 m ∧ ∃ u, A.env 13 = u ∧ Built σ A.st u 99 ((fL bk (e.take b) ++ fL1 bk c m).map causeAV)) 0 (Nat.zero_le _) ?_ fun m C hm ⟨h51, u2, h13, hu2⟩ => ?_
        · simp only [go_sem, simprocAttr, ↓reduceIte]
          exact ⟨u, h13, by simpa [fL1] using hu.more [none]⟩
        have o7 := hu2.ok
        have o8 := hu2.un
        simp only [go_sem, simprocAttr, ↓reduceIte, h51, h13, h45, h9, h10, o1, o2, o3, o4, o7, o8, n5, n6, List.length_map]
        refine ⟨fun hm1 => ?_, fun hm1 => ?_⟩
        · obtain ⟨x, hx⟩ := get_some hm1
          simp only [go_sem, simprocAttr, ↓reduceIte, atV_map hx, h51, h13, h45, h9, h10, o1, o2, o3, o4, o7, o8]
          refine ⟨hm1, fun heq => ?_, fun hne => ⟨hm1, int_succ hm1 (by rw [maxLen_eq]; omega), _, rfl, ?_⟩⟩
          · have y1 := fL_len bk (e.take b)
            have y2 := fL1_len bk c m
            have y3 : (e.take b).length ≤ 4000 := by rw [List.length_take]; omega
            have y4 := Nat.mul_le_mul y3 (show bk.length ≤ 24 by omega)
            refine AppA.ownS (σ := C.st) (by simp only [go_sem, simprocAttr, ↓reduceIte]) 1048576 (by kernel_rfl) hu2.bld (.lit _ _ _) (by simp; omega) fun v1 σ1 a1 => ?_
            have t1 := hu2.app a1
            have p1 := t1.ok
            have p2 := t1.un
            simp only [go_sem, simprocAttr, ↓reduceIte, h51, h13, h45, h9, h10, o1, o2, o3, o4, p1, p2]
            refine ⟨hm1, int_succ hm1 (by rw [maxLen_eq]; omega), _, rfl, ?_⟩
            rw [fL1_succ hx, if_pos (by omega)]
            simpa [causeAV] using t1
          · rw [fL1_succ hx, if_neg (by omega), List.append_nil]
            exact hu2
        · have hm2 : m = bk.length := by omega
          rw [fL_succ hc, ← hm2]
          exact ⟨_, rfl, hu2⟩
      simp only [go_sem, simprocAttr, ↓reduceIte, h45, h13]
      exact ⟨hc1, int_succ hc1 (by rw [maxLen_eq]; omega), _, rfl, hu2⟩
    · rw [List.take_of_length_le hc1] at hu
      exact ⟨_, rfl, hu⟩
  have o5 := hu.ok
  have o6 := hu.un
  have hidx : bk.idxOf i < bk.length := List.idxOf_lt_length_of_mem hib
  simp only [go_sem, simprocAttr, ↓reduceIte, h9, h10, h13, o1, o2, o3, o4, o5, o6, n3, n4, List.length_map]
  refine LoopVC.at [9, 13] (.of (by kernel_rfl)) (fun A => A.env 14 = .int .i64 (bk.idxOf i : Nat) ∧ Ext σ A.st) ?_ fun B3 ⟨h14, hst3⟩ => ?_
  · refine LoopVC.upto [2, 9, 13, 71, 72] (.of (by kernel_rfl)) bk.length (fun m A => A.env 73 = .int .i64 m ∧ A.env 14 = .int .i64 ((if bk.idxOf i < m then bk.idxOf i else 0 : Nat) : Int) ∧ Ext σ A.st) 0 (Nat.zero_le _) ?_ fun m C hm ⟨h73, h14, hst3⟩ => ?_
    · simp only [go_sem, simprocAttr, ↓reduceIte]
      exact hu.ext
    simp only [go_sem, simprocAttr, ↓reduceIte, h73, h14, o3, o4, n5, n6, List.length_map]
    refine ⟨fun hm1 => ?_, fun hm1 => ?_⟩
    · obtain ⟨x, hx⟩ := get_some hm1
      have hix := idx_iff hnd hib hx
      simp only [go_sem, simprocAttr, ↓reduceIte, atV_map hx, h73, h14]
      refine ⟨hm1, fun hxi => ⟨hm1, int_succ hm1 (by rw [maxLen_eq]; omega), ?_, hst3⟩, fun hxi => ⟨hm1, int_succ hm1 (by rw [maxLen_eq]; omega), ?_, hst3⟩⟩
      · have := hix.1 hxi
        rw [if_pos (by omega), ← this]
      · have : m ≠ bk.idxOf i := fun hh => hxi (hix.2 hh)
        congr 2
        split <;> split <;> omega
    · rw [if_pos (by omega)]
      exact ⟨rfl, hst3⟩
  simp only [go_sem, simprocAttr, ↓reduceIte, h9, h13, h14, o1, o2, o5, o6]
  have hbl2 := atL_len all bk
  have hlen : (atL all bk).length = bk.length := by
    have h1 : (atL all bk)[bk.length - 1]? = (bk[bk.length - 1]?).bind fun x => all[x]? := atL_get (fun x hx => ((hbm x).1 hx).1) _
    obtain ⟨y, hy⟩ := get_some (l := bk) (show bk.length - 1 < bk.length by omega)
    obtain ⟨q, hq⟩ := get_some (((hbm y).1 (List.mem_of_getElem? hy)).1)
    rw [hy, Option.bind_some, hq] at h1
    have := (List.getElem?_eq_some_iff.1 h1).1
    omega
  have y1 := fL_len bk e
  have y4 := Nat.mul_le_mul hel (show bk.length ≤ 24 by omega)
  refine CallA.fn ((r10_Some (atL all bk) (fL bk e) (bk.idxOf i) (by omega) (by omega) (fun p hp => ?_) (valid_fL (fun x hx => ((hbm x).1 hx).1) he) (by omega)).weak (.cons hwv (.cons hu.weak (.cons (.refl _) .nil)))) ?_
  · obtain ⟨x, _, hx⟩ := List.mem_filterMap.1 hp
    exact hl p (List.mem_of_getElem? hx)
  simp only [go_sem, simprocAttr, ↓reduceIte]
  exact hst3

theorem causesA_valid {all : List Pkg} {n : Nat} : ∀ c ∈ causesA all n, ValidC all c := fun c hc => by
  unfold causesA at hc
  obtain ⟨i, hi, hc⟩ := List.mem_flatMap.1 hc
  unfold causesP at hc
  split at hc
  · rename_i p hp
    obtain ⟨d, hd, hc⟩ := List.mem_flatMap.1 hc
    unfold causesK at hc
    obtain ⟨k, hk, rfl⟩ := List.mem_map.1 hc
    rw [List.mem_range] at hk hd
    refine ⟨p, hp, ?_, by simp only; omega, hk⟩
    simp only
    rcases d with _ | d
    · simp [kindN] at hk
    · omega
  · cases hc

def needsA (all : List Pkg) (i j : Nat) : Bool := someA all (causesA all all.length) i && !(if i = j then false else someA (atL all (bkL all.length j)) (fL (bkL all.length j) (causesA all all.length)) ((bkL all.length j).idxOf i))
theorem r27_needs (all : List Pkg) (hm : ∀ p ∈ all, mayPkg p = 0) (h24 : all.length ≤ 24) {i j : Nat} (hi : i < all.length) : PureFn prog W0 13 [pkgsAV all, .int .i64 i, .int .i64 j] (.bool (needsA all i j)) := by
  have hl : ∀ p ∈ all, p.con.length ≤ 1000 := fun p hp => Nat.le_trans (kind_le (hm p hp) 3) (by omega)
  have hel := causesA_len hm all.length
  have he := causesA_valid (all := all) (n := all.length)
  refine fn_pure [6] [] func13 rfl rfl ntmps13 rfl rfl (.bool _) fun hs σ => ?_
  simp only [go_sem, simprocAttr, ↓reduceIte]
  refine CallA.fn (r10_causes all hm h24) ?_
  simp only [go_sem, simprocAttr, ↓reduceIte, causesAV]
  refine CallA.fn (r10_Some all _ i hi h24 hl he (by omega)) ?_
  simp only [go_sem, simprocAttr, ↓reduceIte]
  refine CallP.fnG (fun _ => r27_without all _ hi h24 hl he (by omega)) ?_
  simp only [go_sem, simprocAttr, ↓reduceIte]
  exact weak_bool rfl
end Go.Proofs.Tryz
end
section
set_option linter.unusedSimpArgs false
set_option linter.unusedVariables false
namespace Go.Proofs.Tryz
open Go Go.Av
set_option linter.unusedSimpArgs false
set_option linter.unusedVariables false

def ProvS (all : List Pkg) (S : Nat → Bool) (x : Clause) : Prop := ∃ (m : Nat) (q : Pkg), all[m]? = some q ∧ x.any (satP q) = true ∧ S m = true
def NoneS (all : List Pkg) (S : Nat → Bool) (i : Nat) (x : Atom) : Prop := ∀ (m : Nat) (q : Pkg), all[m]? = some q → S m = true → m ≠ i → satP q x = false
/-- What a relation asks of a choice. -/
structure CauseS (all : List Pkg) (S : Nat → Bool) (c : Nat × Nat × Nat) : Prop where
  pre : c.2.1 = 1 → ∀ p x, all[c.1]? = some p → p.pre[c.2.2]? = some x → ProvS all S x
  dep : c.2.1 = 2 → ∀ p x, all[c.1]? = some p → p.dep[c.2.2]? = some x → ProvS all S x
  con : c.2.1 = 3 → ∀ p x, all[c.1]? = some p → p.con[c.2.2]? = some x → NoneS all S c.1 x
  brk : c.2.1 = 4 → ∀ p x, all[c.1]? = some p → p.brk[c.2.2]? = some x → NoneS all S c.1 x
structure SelE (all : List Pkg) (e : List (Nat × Nat × Nat)) (S : Nat → Bool) : Prop where
  name : ∀ (a b : Nat) (p q : Pkg), all[a]? = some p → all[b]? = some q → a ≠ b → S a = true → S b = true → p.name ≠ q.name
  cause : ∀ c ∈ e, S c.1 = true → CauseS all S c

theorem selE_cause {all : List Pkg} {S : Nat → Bool} {c : Nat × Nat × Nat} {t : List Nat} (ht : ∀ j ∈ t, j < all.length) (hS : ∀ m, m < all.length → (S m = true ↔ m ∈ t)) (hc : ValidC all c) : underC all c t = true ↔ CauseS all S c := by
  have hprov : ∀ x : Clause, metP x (atL all t) = true ↔ ProvS all S x := fun x => by
    rw [metP_iff]
    constructor
    · rintro ⟨q, hq, h⟩
      obtain ⟨m, hm, hq⟩ := List.mem_filterMap.1 hq
      exact ⟨m, q, hq, h, (hS m (ht m hm)).2 hm⟩
    · rintro ⟨m, q, hq, h, hm⟩
      exact ⟨q, List.mem_filterMap.2 ⟨m, (hS m (List.getElem?_eq_some_iff.1 hq).1).1 hm, hq⟩, h⟩
  have hnone : ∀ x : Atom, (t.all fun j => decide (j = c.1) || !satO all j x) = true ↔ NoneS all S c.1 x := fun x => by
    rw [List.all_eq_true]
    constructor
    · intro h m q hq hm hne
      have := h m ((hS m (List.getElem?_eq_some_iff.1 hq).1).1 hm)
      simpa [hne, satO, hq] using this
    · intro h m hm
      obtain ⟨q, hq⟩ := get_some (ht m hm)
      by_cases e : m = c.1
      · simp [e]
      · have := h m q hq ((hS m (ht m hm)).2 hm) e
        simp [e, satO, hq, this]
  obtain ⟨i, d, k⟩ := c
  obtain ⟨p, hp, h1, h4, hk⟩ := hc
  simp only at hp h1 h4 hk hnone
  obtain rfl | rfl | rfl | rfl : d = 1 ∨ d = 2 ∨ d = 3 ∨ d = 4 := by omega
  · obtain ⟨x, hx⟩ := get_some (l := p.pre) hk
    have e : underC all (i, 1, k) t = metP x (atL all t) := by simp [underC, hp, hx]
    rw [e, hprov]
    constructor
    · intro h
      refine ⟨fun _ p' x' hp' hx' => ?_, fun h => (by cases h), fun h => (by cases h), fun h => (by cases h)⟩
      rw [show all[(i, 1, k).1]? = some p from hp] at hp'; cases hp'
      rw [show p.pre[(i, 1, k).2.2]? = some x from hx] at hx'; cases hx'
      exact h
    · intro h
      exact h.pre rfl p x hp hx
  · obtain ⟨x, hx⟩ := get_some (l := p.dep) hk
    have e : underC all (i, 2, k) t = metP x (atL all t) := by simp [underC, hp, hx]
    rw [e, hprov]
    constructor
    · intro h
      refine ⟨fun h => (by cases h), fun _ p' x' hp' hx' => ?_, fun h => (by cases h), fun h => (by cases h)⟩
      rw [show all[(i, 2, k).1]? = some p from hp] at hp'; cases hp'
      rw [show p.dep[(i, 2, k).2.2]? = some x from hx] at hx'; cases hx'
      exact h
    · intro h
      exact h.dep rfl p x hp hx
  · obtain ⟨x, hx⟩ := get_some (l := p.con) hk
    have e : underC all (i, 3, k) t = (t.all fun j => decide (j = i) || !satO all j x) := by simp [underC, hp, hx]
    rw [e, hnone]
    constructor
    · intro h
      refine ⟨fun h => (by cases h), fun h => (by cases h), fun _ p' x' hp' hx' => ?_, fun h => (by cases h)⟩
      rw [show all[(i, 3, k).1]? = some p from hp] at hp'; cases hp'
      rw [show p.con[(i, 3, k).2.2]? = some x from hx] at hx'; cases hx'
      exact h
    · intro h
      exact h.con rfl p x hp hx
  · obtain ⟨x, hx⟩ := get_some (l := p.brk) hk
    have e : underC all (i, 4, k) t = (t.all fun j => decide (j = i) || !satO all j x) := by simp [underC, hp, hx]
    rw [e, hnone]
    constructor
    · intro h
      refine ⟨fun h => (by cases h), fun h => (by cases h), fun h => (by cases h), fun _ p' x' hp' hx' => ?_⟩
      rw [show all[(i, 4, k).1]? = some p from hp] at hp'; cases hp'
      rw [show p.brk[(i, 4, k).2.2]? = some x from hx] at hx'; cases hx'
      exact h
    · intro h
      exact h.brk rfl p x hp hx

theorem nameO_ne {all : List Pkg} {a b : Nat} {p q : Pkg} (hp : all[a]? = some p) (hq : all[b]? = some q) : nameO all a ≠ nameO all b ↔ p.name ≠ q.name := by simp [nameO, hp, hq]
theorem pair_any {α : Type} {R : α → α → Prop} (hs : ∀ x y, R x y → R y x) : ∀ {l : List α}, l.Pairwise R → ∀ {a b : α}, a ∈ l → b ∈ l → a ≠ b → R a b
  | [], _, a, b, ha, _, _ => by simp at ha
  | x :: l, h, a, b, ha, hb, hab => by
    rw [List.pairwise_cons] at h
    rcases List.mem_cons.1 ha with e1 | ha'
    · rcases List.mem_cons.1 hb with e2 | hb'
      · exact absurd (e1.trans e2.symm) hab
      · rw [e1]; exact h.1 _ hb'
    · rcases List.mem_cons.1 hb with e2 | hb'
      · rw [e2]; exact hs _ _ (h.1 _ ha')
      · exact pair_any hs h.2 ha' hb' hab
theorem under_sel {all : List Pkg} {e : List (Nat × Nat × Nat)} {t : List Nat} (ht : ∀ j ∈ t, j < all.length) (he : ∀ c ∈ e, ValidC all c) (h : underP all e t = true) : SelE all e fun m => decide (m ∈ t) := by
  unfold underP at h
  rw [Bool.and_eq_true, decide_eq_true_eq, List.all_eq_true] at h
  refine ⟨fun a b p q hp hq hab ha hb => ?_, fun c hc hs => ?_⟩
  · rw [decide_eq_true_eq] at ha hb
    exact (nameO_ne hp hq).1 (pair_any (fun x y h1 e => h1 e.symm) h.1 ha hb hab)
  · have := h.2 c hc
    rw [decide_eq_true_eq] at hs
    simp only [hs, decide_true, Bool.not_true, Bool.false_or] at this
    exact (selE_cause ht (fun m _ => by simp) (he c hc)).1 this

theorem some_sound {all : List Pkg} {e : List (Nat × Nat × Nat)} {i : Nat} (hi : i < all.length) : ∀ {f k : Nat} {t : List Nat}, all.length < f + k → k ≤ all.length → (∀ j ∈ t, j < all.length) → (i < k → i ∈ t) → someL all e i f k t = true → ∃ u, underP all e u = true ∧ (∀ j ∈ u, j < all.length) ∧ i ∈ u := by
  intro f
  induction f with
  | zero => intro k t h1 h2; omega
  | succ f ih =>
    intro k t h1 h2 ht hit h
    rw [someL] at h
    split at h
    · exact ⟨t, h, ht, hit (by omega)⟩
    · split at h
      · rename_i hne hki
        exact ih (by omega) (by omega) (mem_app1 ht (by omega)) (fun _ => by simp [hki]) h
      · rename_i hne hki
        rw [Bool.or_eq_true, Bool.and_eq_true] at h
        rcases h with h | h
        · exact ih (by omega) (by omega) (mem_app1 ht (by omega)) (fun hh => List.mem_append_left _ (hit (by omega))) h.2
        · exact ih (by omega) (by omega) ht (fun hh => hit (by omega)) h
def selB (S : Nat → Bool) (k : Nat) : List Nat := (List.range k).filter S
theorem selB_succ (S : Nat → Bool) (k : Nat) : selB S (k + 1) = selB S k ++ if S k = true then [k] else [] := by
  unfold selB
  rw [List.range_succ, List.filter_append]
  cases h : S k <;> simp [h]
theorem selB_mem {S : Nat → Bool} {k m : Nat} : m ∈ selB S k ↔ m < k ∧ S m = true := by simp [selB]
theorem some_has {all : List Pkg} {e : List (Nat × Nat × Nat)} {i : Nat} (hi : i < all.length) {S : Nat → Bool} (hS : SelE all e S) (hSi : S i = true) (hu : underP all e (selB S all.length) = true) : ∀ {f k : Nat}, all.length < f + k → k ≤ all.length → someL all e i f k (selB S k) = true := by
  intro f
  induction f with
  | zero => intro k h1 h2; omega
  | succ f ih =>
    intro k h1 h2
    rw [someL]
    split
    · rename_i hk
      rw [hk]; exact hu
    · rename_i hk
      obtain ⟨p, hp⟩ := get_some (show k < all.length by omega)
      obtain ⟨q, hq⟩ := get_some hi
      have h3 := ih (k := k + 1) (by omega) (by omega)
      rw [selB_succ] at h3
      split
      · rename_i hki
        subst hki
        rwa [if_pos hSi] at h3
      · rename_i hki
        cases hs : S k with
        | false =>
          rw [hs, if_neg (by simp), List.append_nil] at h3
          rw [h3, Bool.or_true]
        | true =>
          rw [hs, if_pos rfl] at h3
          have n1 : nameO all k ≠ nameO all i := (nameO_ne hp hq).2 (hS.name k i p q hp hq hki hs hSi)
          have n2 : freeB all k (selB S k) = true := by
            unfold freeB
            rw [List.all_eq_true]
            intro j hj
            obtain ⟨j1, j2⟩ := selB_mem.1 hj
            obtain ⟨r, hr⟩ := get_some (show j < all.length by omega)
            exact decide_eq_true ((nameO_ne hr hp).2 (hS.name j k r p hr hp (by omega) j2 hs))
          rw [decide_eq_true n1, n2, h3]
          rfl
theorem sel_under {all : List Pkg} {e : List (Nat × Nat × Nat)} {S : Nat → Bool} (he : ∀ c ∈ e, ValidC all c) (hS : SelE all e S) : underP all e (selB S all.length) = true := by
  unfold underP
  rw [Bool.and_eq_true, decide_eq_true_eq, List.all_eq_true]
  refine ⟨?_, fun c hc => ?_⟩
  · have hr : (selB S all.length).Pairwise fun x y => x < y := List.Pairwise.filter _ List.pairwise_lt_range
    refine List.Pairwise.imp_of_mem (fun {a b} ha hb hab => ?_) hr
    obtain ⟨a1, a2⟩ := selB_mem.1 ha
    obtain ⟨b1, b2⟩ := selB_mem.1 hb
    obtain ⟨p, hp⟩ := get_some a1
    obtain ⟨q, hq⟩ := get_some b1
    exact (nameO_ne hp hq).2 (hS.name a b p q hp hq (by omega) a2 b2)
  · by_cases hm : c.1 ∈ selB S all.length
    · have h1 := selB_mem.1 hm
      have := (selE_cause (S := S) (t := selB S all.length) (fun j hj => (selB_mem.1 hj).1) (fun m hm => by rw [selB_mem]; exact ⟨fun h => ⟨hm, h⟩, fun h => h.2⟩) (he c hc)).2 (hS.cause c hc h1.2)
      rw [this, Bool.or_true]
    · simp [hm]
theorem someA_iff {all : List Pkg} {e : List (Nat × Nat × Nat)} {i : Nat} (hi : i < all.length) (he : ∀ c ∈ e, ValidC all c) : someA all e i = true ↔ ∃ S, SelE all e S ∧ S i = true := by
  constructor
  · intro h
    obtain ⟨u, h1, h2, h3⟩ := some_sound hi (by omega) (Nat.zero_le _) (by simp) (fun h => by omega) h
    exact ⟨_, under_sel h2 he h1, by simpa using h3⟩
  · rintro ⟨S, hS, hi2⟩
    have := some_has hi hS hi2 (sel_under he hS) (f := all.length + 1) (k := 0) (by omega) (Nat.zero_le _)
    exact this

theorem causesA_mem {all : List Pkg} {i d k : Nat} {p : Pkg} (hp : all[i]? = some p) (hd : d < 5) (hk : k < kindN p d) : (i, d, k) ∈ causesA all all.length := by
  unfold causesA
  refine List.mem_flatMap.2 ⟨i, List.mem_range.2 (List.getElem?_eq_some_iff.1 hp).1, ?_⟩
  unfold causesP
  rw [hp]
  exact List.mem_flatMap.2 ⟨d, List.mem_range.2 hd, List.mem_map.2 ⟨k, List.mem_range.2 hk, rfl⟩⟩
theorem selE_all {all : List Pkg} {S : Nat → Bool} : SelE all (causesA all all.length) S ↔ SelOk all S := by
  have key : ∀ {p : Pkg} {l : List Atom} {q : Pkg}, l.any (satP q) = true ↔ ∃ k x, l[k]? = some x ∧ satP q x = true := fun {p l q} => by
    rw [List.any_eq_true]
    constructor
    · rintro ⟨x, hx, h⟩
      obtain ⟨k, hk⟩ := List.mem_iff_getElem?.1 hx
      exact ⟨k, x, hk, h⟩
    · rintro ⟨k, x, hk, h⟩
      exact ⟨x, List.mem_of_getElem? hk, h⟩
  constructor
  · intro h
    have hag : ∀ (i k : Nat) (p q : Pkg), all[i]? = some p → all[k]? = some q → k ≠ i → S i = true → S k = true → againstP p q = false := fun i k p q hp hq hne hi hk => by
      unfold againstP
      rw [Bool.or_eq_false_iff, List.any_eq_false, List.any_eq_false]
      refine ⟨fun x hx => ?_, fun x hx => ?_⟩
      · obtain ⟨m, hm⟩ := List.mem_iff_getElem?.1 hx
        have hc := h.cause (i, 3, m) (causesA_mem hp (by omega) (List.getElem?_eq_some_iff.1 hm).1) hi
        rw [hc.con rfl p x hp hm k q hq hk hne]
        simp
      · obtain ⟨m, hm⟩ := List.mem_iff_getElem?.1 hx
        have hc := h.cause (i, 4, m) (causesA_mem hp (by omega) (List.getElem?_eq_some_iff.1 hm).1) hi
        rw [hc.brk rfl p x hp hm k q hq hk hne]
        simp
    refine ⟨fun i p hp hS c hc => ?_, fun i p k q hp hq hki hi hk => ⟨h.name i k p q hp hq (by omega) hi hk, ?_⟩⟩
    · rcases List.mem_append.1 hc with hc | hc
      · obtain ⟨m, hm⟩ := List.mem_iff_getElem?.1 hc
        exact (h.cause (i, 1, m) (causesA_mem hp (by omega) (List.getElem?_eq_some_iff.1 hm).1) hS).pre rfl p c hp hm
      · obtain ⟨m, hm⟩ := List.mem_iff_getElem?.1 hc
        exact (h.cause (i, 2, m) (causesA_mem hp (by omega) (List.getElem?_eq_some_iff.1 hm).1) hS).dep rfl p c hp hm
    · unfold clashP
      rw [hag i k p q hp hq (by omega) hi hk, hag k i q p hq hp (by omega) hk hi]
      simp
  · intro h
    have hn : ∀ (a b : Nat) (p q : Pkg), all[a]? = some p → all[b]? = some q → a ≠ b → S a = true → S b = true → p.name ≠ q.name ∧ clashP p q = false := fun a b p q hp hq hab ha hb => by
      rcases Nat.lt_or_ge b a with hlt | hge
      · exact h.con a p b q hp hq hlt ha hb
      · have := h.con b q a p hq hp (by omega) hb ha
        exact ⟨fun e => this.1 e.symm, by rw [clash_symm]; exact this.2⟩
    have hag : ∀ (i k : Nat) (p q : Pkg), all[i]? = some p → all[k]? = some q → k ≠ i → S i = true → S k = true → againstP p q = false := fun i k p q hp hq hne hi hk => by
      obtain ⟨h1, h2⟩ := hn i k p q hp hq (fun e => hne e.symm) hi hk
      unfold clashP at h2
      simp only [bne_iff_ne.2 h1, Bool.true_and, Bool.or_eq_false_iff] at h2
      exact h2.1
    refine ⟨fun a b p q hp hq hab ha hb => (hn a b p q hp hq hab ha hb).1, fun c hc hs => ⟨fun _ p x hp hx => ?_, fun _ p x hp hx => ?_, fun _ p x hp hx m q hq hm hne => ?_, fun _ p x hp hx m q hq hm hne => ?_⟩⟩
    · exact h.dep c.1 p hp hs x (List.mem_append_left _ (List.mem_of_getElem? hx))
    · exact h.dep c.1 p hp hs x (List.mem_append_right _ (List.mem_of_getElem? hx))
    · have := hag c.1 m p q hp hq hne hs hm
      unfold againstP at this
      rw [Bool.or_eq_false_iff, List.any_eq_false] at this
      simpa using this.1 x (List.mem_of_getElem? hx)
    · have := hag c.1 m p q hp hq hne hs hm
      unfold againstP at this
      rw [Bool.or_eq_false_iff, List.any_eq_false, List.any_eq_false] at this
      simpa using this.2 x (List.mem_of_getElem? hx)

theorem bk_get {n j k : Nat} {x : Nat} (h : (bkL n j)[k]? = some x) : x < n ∧ x ≠ j := bkL_mem.1 (List.mem_of_getElem? h)
/-- Without one of them: the choices that leave it out. -/
theorem selE_without {all : List Pkg} {e : List (Nat × Nat × Nat)} {i j : Nat} (hi : i < all.length) (hij : i ≠ j) (he : ∀ c ∈ e, ValidC all c) :
    (∃ S, SelE (atL all (bkL all.length j)) (fL (bkL all.length j) e) S ∧ S ((bkL all.length j).idxOf i) = true) ↔ ∃ S, SelE all e S ∧ S i = true ∧ S j = false := by
  have hbm : ∀ k, k ∈ bkL all.length j ↔ k < all.length ∧ k ≠ j := fun k => bkL_mem
  have hnd := bkL_nodup all.length j
  generalize bkL all.length j = bk at *
  have hat : ∀ k : Nat, (atL all bk)[k]? = (bk[k]?).bind fun x => all[x]? := atL_get fun x hx => ((hbm x).1 hx).1
  have hidx : ∀ x, x ∈ bk → bk[bk.idxOf x]? = some x := fun x hx => by
    rw [List.getElem?_eq_getElem (List.idxOf_lt_length_of_mem hx), List.getElem_idxOf]
  have inv : ∀ {k : Nat} {p : Pkg}, (atL all bk)[k]? = some p → ∃ x, bk[k]? = some x ∧ all[x]? = some p := fun {k p} h => by
    rw [hat, Option.bind_eq_some_iff] at h
    exact h
  have fwd : ∀ {x : Nat} {p : Pkg}, all[x]? = some p → x ≠ j → (atL all bk)[bk.idxOf x]? = some p := fun {x p} h hne => by
    rw [hat, hidx x ((hbm x).2 ⟨(List.getElem?_eq_some_iff.1 h).1, hne⟩)]
    exact h
  have idx_of : ∀ {k x : Nat}, bk[k]? = some x → bk.idxOf x = k := fun {k x} h => ((idx_iff hnd (List.mem_of_getElem? h) h).1 rfl).symm
  constructor
  · rintro ⟨S, hS, h1⟩
    refine ⟨fun x => decide (x ∈ bk) && S (bk.idxOf x), ⟨fun a b p q hp hq hab ha hb => ?_, fun c hc hs => ?_⟩, ?_, ?_⟩
    · simp only [Bool.and_eq_true, decide_eq_true_eq] at ha hb
      refine hS.name _ _ p q (fwd hp ((hbm a).1 ha.1).2) (fwd hq ((hbm b).1 hb.1).2) (fun e => hab ?_) ha.2 hb.2
      have h2 := hidx a ha.1
      rw [e, hidx b hb.1] at h2
      exact (Option.some.inj h2).symm
    · simp only [Bool.and_eq_true, decide_eq_true_eq] at hs
      have hb := hidx c.1 hs.1
      have hf : (bk.idxOf c.1, c.2.1, c.2.2) ∈ fL bk e := fL_mem.2 ⟨c, hc, hb, rfl⟩
      have hcs := hS.cause _ hf hs.2
      have pv : ∀ x, ProvS (atL all bk) S x → ProvS all (fun x => decide (x ∈ bk) && S (bk.idxOf x)) x := fun x ⟨m, q, hq, hx, hm⟩ => by
        obtain ⟨y, hy, hq⟩ := inv hq
        refine ⟨y, q, hq, hx, ?_⟩
        have := List.mem_of_getElem? hy
        simp only [this, decide_true, Bool.true_and, idx_of hy, hm]
      have nn : ∀ x, NoneS (atL all bk) S (bk.idxOf c.1) x → NoneS all (fun x => decide (x ∈ bk) && S (bk.idxOf x)) c.1 x := fun x h m q hq hm hne => by
        simp only [Bool.and_eq_true, decide_eq_true_eq] at hm
        refine h _ q (fwd hq ((hbm m).1 hm.1).2) hm.2 fun e => hne ?_
        have h2 := hidx m hm.1
        rw [e, hb] at h2
        exact (Option.some.inj h2).symm
      have hne := ((hbm c.1).1 hs.1).2
      exact ⟨fun hd p x hp hx => pv x (hcs.pre hd p x (fwd hp hne) hx), fun hd p x hp hx => pv x (hcs.dep hd p x (fwd hp hne) hx), fun hd p x hp hx => nn x (hcs.con hd p x (fwd hp hne) hx), fun hd p x hp hx => nn x (hcs.brk hd p x (fwd hp hne) hx)⟩
    · have : i ∈ bk := (hbm i).2 ⟨hi, hij⟩
      simp [this, h1]
    · have : ¬ j ∈ bk := fun h => ((hbm j).1 h).2 rfl
      simp [this]
  · rintro ⟨S, hS, h1, h2⟩
    refine ⟨fun k => match bk[k]? with | some x => S x | none => false, ⟨fun a b p q hp hq hab ha hb => ?_, fun c hc hs => ?_⟩, ?_⟩
    · obtain ⟨x, hx, hp⟩ := inv hp
      obtain ⟨y, hy, hq⟩ := inv hq
      simp only [hx] at ha
      simp only [hy] at hb
      refine hS.name x y p q hp hq (fun e => hab ?_) ha hb
      subst e
      rw [← idx_of hx, ← idx_of hy]
    · obtain ⟨d, hd, hb, h3⟩ := fL_mem.1 hc
      simp only [hb] at hs
      have hcs := hS.cause d hd hs
      have pv : ∀ x, ProvS all S x → ProvS (atL all bk) (fun k => match bk[k]? with | some x => S x | none => false) x := fun x ⟨m, q, hq, hx, hm⟩ => by
        have hmj : m ≠ j := fun e => by rw [e, h2] at hm; cases hm
        refine ⟨bk.idxOf m, q, fwd hq hmj, hx, ?_⟩
        simp only [hidx m ((hbm m).2 ⟨(List.getElem?_eq_some_iff.1 hq).1, hmj⟩), hm]
      have nn : ∀ x, NoneS all S d.1 x → NoneS (atL all bk) (fun k => match bk[k]? with | some x => S x | none => false) c.1 x := fun x h m q hq hm hne => by
        obtain ⟨y, hy, hq⟩ := inv hq
        simp only [hy] at hm
        refine h y q hq hm fun e => hne ?_
        rw [← idx_of hy, e, idx_of hb]
      have up : ∀ {p : Pkg}, (atL all bk)[c.1]? = some p → all[d.1]? = some p := fun {p} hp => by
        obtain ⟨y, hy, hp⟩ := inv hp
        rw [hb] at hy
        cases hy
        exact hp
      exact ⟨fun hd p x hp hx => pv x (hcs.pre (by rw [← h3]; exact hd) p x (up hp) (by rw [← h3]; exact hx)), fun hd p x hp hx => pv x (hcs.dep (by rw [← h3]; exact hd) p x (up hp) (by rw [← h3]; exact hx)), fun hd p x hp hx => nn x (hcs.con (by rw [← h3]; exact hd) p x (up hp) (by rw [← h3]; exact hx)), fun hd p x hp hx => nn x (hcs.brk (by rw [← h3]; exact hd) p x (up hp) (by rw [← h3]; exact hx))⟩
    · simp only [hidx i ((hbm i).2 ⟨hi, hij⟩), h1]

theorem needsA_iff {all : List Pkg} {i j : Nat} (hi : i < all.length) (hij : i ≠ j) : needsA all i j = true ↔ NeedsP all i j := by
  have he := causesA_valid (all := all) (n := all.length)
  have hbm : ∀ k, k ∈ bkL all.length j ↔ k < all.length ∧ k ≠ j := fun k => bkL_mem
  have hidx : (bkL all.length j).idxOf i < (atL all (bkL all.length j)).length := by
    have hib : i ∈ bkL all.length j := (hbm i).2 ⟨hi, hij⟩
    obtain ⟨p, hp⟩ := get_some hi
    have h1 : (atL all (bkL all.length j))[(bkL all.length j).idxOf i]? = some p := by
      rw [atL_get (fun x hx => ((hbm x).1 hx).1), List.getElem?_eq_getElem (List.idxOf_lt_length_of_mem hib), List.getElem_idxOf]
      exact hp
    exact (List.getElem?_eq_some_iff.1 h1).1
  unfold needsA
  rw [if_neg hij, Bool.and_eq_true, Bool.not_eq_true', ← Bool.not_eq_true, someA_iff hi he, someA_iff hidx (valid_fL (fun x hx => ((hbm x).1 hx).1) he), selE_without hi hij he]
  have e1 : (∃ S, SelE all (causesA all all.length) S ∧ S i = true) ↔ Can1 all i := by
    simp only [selE_all]; rfl
  have e2 : (∃ S, SelE all (causesA all all.length) S ∧ S i = true ∧ S j = false) ↔ CanN all i j := by
    simp only [selE_all]; rfl
  rw [e1, e2]
  exact ⟨fun h => ⟨hij, h.1, h.2⟩, fun h => ⟨h.2, h.3⟩⟩
end Go.Proofs.Tryz
end
