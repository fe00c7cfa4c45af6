/- The plain law of Balances' table; its cells in memory. -/
import Derived.Test.YtoijlikmigejbaaGreatCDelB
import Derived.Test.YtoijlikmigejbaaGreatCSumA
import Derived.Test.YtoijlikmigejbaaGreatCRhB
namespace Go.Proofs.YtoijlikmigejbaaGreat
open Go.RowKit Go.Proofs.YtoijlikmigejbaaGreat.Pu

/-- a party has a posting -/
def tch (m : List Post) (k : Int) : Bool := m.any fun p => p.party == k
def arrOf (m : List Post) (k : Nat) : Bal := ⟨if tch m k then k else 0, paidBy m k, backBy m k⟩
/-- the table behind some postings -/
def arr (m : List Post) : List Bal := (List.range 41).map (arrOf m)
theorem arr_len (m : List Post) : (arr m).length = 41 := by simp [arr]
theorem arr_get (m : List Post) {k : Nat} (h : k < 41) : (arr m)[k]? = some (arrOf m k) := by simp [arr, h]
theorem tch_app (m : List Post) (p : Post) (k : Int) : tch (m ++ [p]) k = (tch m k || (p.party == k)) := by simp [tch]
theorem arrOf_other {m : List Post} {p : Post} {k : Nat} (h : p.party ≠ k) : arrOf (m ++ [p]) k = arrOf m k := by
  have hb : (p.party == (k : Int)) = false := by simpa using h
  have h1 : paidOf k p = 0 := by unfold paidOf; rw [if_neg fun hh => h hh.2]
  have h2 : backOf k p = 0 := by unfold backOf; rw [if_neg fun hh => h hh.2]
  unfold arrOf
  rw [tch_app, hb, Bool.or_false, paid_app, back_app, h1, h2, Int.add_zero, Int.add_zero]
theorem arrOf_self {m : List Post} {p : Post} {k : Nat} (h : p.party = k) : arrOf (m ++ [p]) k = ⟨k, paidBy m k + (if p.kind = 2 then p.amount else 0), backBy m k + (if p.kind = 3 then p.amount else 0)⟩ := by
  have hb : (p.party == (k : Int)) = true := by simpa using h
  unfold arrOf
  rw [tch_app, hb, Bool.or_true, paid_app, back_app]
  unfold paidOf backOf
  simp [h]
theorem arr_step {m : List Post} {p : Post} {k : Nat} (h : p.party = k) (hk : k < 41) : arr (m ++ [p]) = (arr m).set k (arrOf (m ++ [p]) k) := by
  refine List.ext_getElem? fun i => ?_
  rw [List.getElem?_set, arr_len]
  by_cases e : k = i
  · subst e
    rw [if_pos rfl, if_pos hk, arr_get _ hk]
  · rw [if_neg e]
    by_cases hi : i < 41
    · rw [arr_get _ hi, arr_get _ hi, arrOf_other (by rw [h]; omega)]
    · rw [List.getElem?_eq_none (by rw [arr_len]; omega), List.getElem?_eq_none (by rw [arr_len]; omega)]
theorem sum_filter {P : Post → Bool} (f : Post → Int) : ∀ {l : List Post}, (∀ p ∈ l, P p = false → f p = 0) → sumI ((l.filter P).map f) = sumI (l.map f)
  | [], _ => rfl
  | p :: r, h => by
    have ih := sum_filter f (l := r) fun q hq => h q (List.mem_cons_of_mem _ hq)
    rw [List.filter_cons]
    cases hP : P p
    · rw [if_neg (by simp), ih]
      have := h p (List.mem_cons_self ..) hP
      simp only [List.map_cons, sumI]; omega
    · rw [if_pos rfl]
      simp only [List.map_cons, sumI]; omega
/-- what is no sale -/
def notSale (p : Post) : Bool := p.kind != 1
theorem paid_notSale (l : List Post) (k : Int) : paidBy (l.filter notSale) k = paidBy l k := sum_filter _ fun p _ hp => by
  unfold notSale at hp; unfold paidOf; rw [if_neg]; rintro ⟨e, _⟩; rw [e] at hp; cases hp
theorem back_notSale (l : List Post) (k : Int) : backBy (l.filter notSale) k = backBy l k := sum_filter _ fun p _ hp => by
  unfold notSale at hp; unfold backOf; rw [if_neg]; rintro ⟨e, _⟩; rw [e] at hp; cases hp
theorem tch_paid {m : List Post} {k : Int} (h : paidBy m k ≠ 0) : tch m k = true := by
  refine Classical.byContradiction fun hn => h ?_
  unfold paidBy
  refine sumI_zero fun p hp => ?_
  unfold paidOf
  rw [if_neg]
  rintro ⟨_, e⟩
  refine hn ?_
  unfold tch
  rw [List.any_eq_true]
  exact ⟨p, hp, by simpa using e⟩
theorem arr_filter (l : List Post) : ∀ X : List Nat, (X.map (arrOf (l.filter notSale))).filter (fun b => !(b.paid == 0)) = X.filterMap (balOf l)
  | [] => rfl
  | k :: r => by
    have ih := arr_filter l r
    have e : (arrOf (l.filter notSale) k).paid = paidBy l k := paid_notSale l k
    have e2 : (arrOf (l.filter notSale) k).back = backBy l k := back_notSale l k
    rw [List.map_cons, List.filter_cons, List.filterMap_cons, e]
    by_cases h0 : paidBy l k = 0
    · have hb : balOf l k = none := by unfold balOf; rw [if_pos h0]
      rw [hb, h0]
      simp only [beq_self_eq_true, Bool.not_true, Bool.false_eq_true, if_false]
      exact ih
    · have hb : balOf l k = some ⟨k, paidBy l k, backBy l k⟩ := by unfold balOf; rw [if_neg h0]
      have ht : arrOf (l.filter notSale) k = ⟨k, paidBy l k, backBy l k⟩ := by
        have h1 := tch_paid (m := l.filter notSale) (k := k) (by rw [paid_notSale]; exact h0)
        unfold arrOf
        rw [h1, paid_notSale, back_notSale]
        rfl
      have hb0 : (paidBy l k == 0) = false := by simpa using h0
      rw [hb, hb0, ht]
      simp only [Bool.not_false, if_true]
      rw [ih]
theorem arr_bal (l : List Post) : (arr (someL notSale l)).filter (fun b => !(b.paid == 0)) = balL l := by
  unfold someL balL
  by_cases h : (check l).2 = 0
  · rw [if_pos h, if_pos h]; exact arr_filter l _
  · rw [if_neg h, if_neg h]; rfl
theorem arr_nil : arr [] = List.replicate 41 ⟨0, 0, 0⟩ := by
  refine List.ext_getElem? fun i => ?_
  by_cases hi : i < 41
  · rw [arr_get _ hi, List.getElem?_replicate, if_pos hi]
    simp [arrOf, tch, paidBy, backBy, sumI]
  · rw [List.getElem?_eq_none (by rw [arr_len]; omega), List.getElem?_eq_none (by simp; omega)]
theorem zeros105 : (Tryz.zeroCells105).toList = List.replicate 123 (Value.int .i64 0) := by kernel_rfl
theorem row_zero (w : World) : RowB (w.alloc (.cells Tryz.zeroCells105 105)) w.heap.size (arr []) := by
  have hz : ∀ i, i < 123 → (w.alloc (.cells Tryz.zeroCells105 105)).cell? ⟨w.heap.size, i, none⟩ = some (.int .i64 0) := fun i hi => by
    refine (cell_of_row _ _ _ _ _ _ (heap_alloc_new w _)).trans ?_
    rw [← Array.getElem?_toList, zeros105, List.getElem?_replicate, if_pos hi]
  rw [arr_nil]
  refine ⟨by simp, fun i x hx => ?_, fun i x hx => ?_, fun i x hx => ?_, fun j => by simp⟩
  all_goals
    rw [List.getElem?_replicate] at hx
    split at hx
    · cases hx; exact hz _ (by omega)
    · cases hx
/-- one cell of a row set -/
theorem RowB.set1 {w : World} {rb : Nat} {d : List Bal} (h : RowB w rb d) (i f : Nat) (hf : f < 3) (hi : i < d.length) {y a : Bal} (hy : d[i]? = Option.some y)
    (v : Int) (ha0 : a.party = if f = 0 then v else y.party) (ha1 : a.paid = if f = 1 then v else y.paid) (ha2 : a.back = if f = 2 then v else y.back) : RowB (w.setCell ⟨rb, i * 3 + f, none⟩ (.int .i64 v)) rb (d.set i a) := by
  have e0 := h.c0 i y hy
  have e1 := h.c1 i y hy
  have e2 := h.c2 i y hy
  refine ⟨by simp; exact h.lt, fun j x hx => ?_, fun j x hx => ?_, fun j x hx => ?_, fun j => by rw [World.frozen?_setCell]; exact h.fz j⟩
  · rw [List.getElem?_set] at hx
    by_cases e : i = j
    · subst e
      rw [if_pos rfl, if_pos hi] at hx; cases hx
      by_cases hf0 : f = 0
      · subst hf0; rw [ha0, if_pos rfl]; exact World.cell?_setCell_same _ _ _ (u := .int .i64 y.party) e0
      · rw [ha0, if_neg hf0, World.cell?_setCell_other _ _ _ _ (by simp <;> omega)]; exact e0
    · rw [if_neg e] at hx
      rw [World.cell?_setCell_other _ _ _ _ (by simp <;> omega)]; exact h.c0 j x hx
  · rw [List.getElem?_set] at hx
    by_cases e : i = j
    · subst e
      rw [if_pos rfl, if_pos hi] at hx; cases hx
      by_cases hf0 : f = 1
      · subst hf0; rw [ha1, if_pos rfl]; exact World.cell?_setCell_same _ _ _ (u := .int .i64 y.paid) e1
      · rw [ha1, if_neg hf0, World.cell?_setCell_other _ _ _ _ (by simp <;> omega)]; exact e1
    · rw [if_neg e] at hx
      rw [World.cell?_setCell_other _ _ _ _ (by simp <;> omega)]; exact h.c1 j x hx
  · rw [List.getElem?_set] at hx
    by_cases e : i = j
    · subst e
      rw [if_pos rfl, if_pos hi] at hx; cases hx
      by_cases hf0 : f = 2
      · subst hf0; rw [ha2, if_pos rfl]; exact World.cell?_setCell_same _ _ _ (u := .int .i64 y.back) e2
      · rw [ha2, if_neg hf0, World.cell?_setCell_other _ _ _ _ (by simp <;> omega)]; exact e2
    · rw [if_neg e] at hx
      rw [World.cell?_setCell_other _ _ _ _ (by simp <;> omega)]; exact h.c2 j x hx
end Go.Proofs.YtoijlikmigejbaaGreat
