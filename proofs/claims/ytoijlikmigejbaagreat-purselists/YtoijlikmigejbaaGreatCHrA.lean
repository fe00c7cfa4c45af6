/- A book's beginnings, in plain Lean; the walk of right. -/
import Derived.Test.YtoijlikmigejbaaGreatCLawR
namespace Go.Proofs.YtoijlikmigejbaaGreat
open Go.RowKit Go.Proofs.YtoijlikmigejbaaGreat.Pu

theorem lastHour_end (l : List Post) (p : Post) : lastHour (l ++ [p]) = p.hour := by unfold lastHour; simp
theorem lastHour_take {l : List Post} (h : Book l) : ∀ j, j ≤ l.length → ∀ p ∈ l.take j, p.hour ≤ lastHour (l.take j)
  | 0, _ => fun p hp => by simp at hp
  | j + 1, hj => by
    have hq := List.getElem?_eq_getElem (show j < l.length by omega)
    have ih := lastHour_take h j (by omega)
    intro p hp
    rw [take_snoc hq] at hp ⊢
    have e : lastHour (l.take j ++ [l[j]]) = l[j].hour := lastHour_end _ _
    rw [e]
    rcases List.mem_append.1 hp with h1 | h1
    · have h2 := ih p h1
      have hr := h j _ hq
      have h3 : ¬ (0 < (l.take j).length ∧ l[j].hour < lastHour (l.take j)) := by
        intro hc
        unfold refused at hr
        split at hr
        · omega
        split at hr
        · omega
        split at hr
        · omega
        first
          | omega
          | (rw [if_pos hc] at hr; omega)
      have h4 : 0 < (l.take j).length := List.length_pos_of_mem h1
      have : ¬ l[j].hour < lastHour (l.take j) := fun hc => h3 ⟨h4, hc⟩
      omega
    · rw [List.mem_singleton.1 h1]; exact Int.le_refl _
theorem Book.hours {l : List Post} (h : Book l) : l.Pairwise (fun a b => a.hour ≤ b.hour) := by
  rw [List.pairwise_iff_getElem]
  intro i j hi hj hij
  have h1 := lastHour_take h (j + 1) (by omega) l[i] (by rw [List.mem_take_iff_getElem]; exact ⟨i, by omega, rfl⟩)
  rw [take_snoc (List.getElem?_eq_getElem hj)] at h1
  have e : lastHour (l.take j ++ [l[j]]) = l[j].hour := lastHour_end _ _
  rw [e] at h1; exact h1
theorem filter_first {α : Type} (P : α → Bool) : ∀ (l : List α), l.Pairwise (fun a b => P b = true → P a = true) → l.filter P = l.take (l.filter P).length ∧ ∀ x, l[(l.filter P).length]? = some x → P x = false
  | [], _ => ⟨rfl, fun x h => by simp at h⟩
  | a :: r, h => by
    rw [List.pairwise_cons] at h
    have ih := filter_first P r h.2
    by_cases hp : P a = true
    · rw [List.filter_cons, if_pos hp, List.length_cons, List.take_succ_cons]
      exact ⟨congrArg (a :: ·) ih.1, fun x hx => ih.2 x (by simpa using hx)⟩
    · have h0 : r.filter P = [] := List.filter_eq_nil_iff.2 fun x hx hpx => hp (h.1 x hx hpx)
      rw [List.filter_cons, if_neg hp, h0]
      refine ⟨rfl, fun x hx => ?_⟩
      simp at hx; subst hx; simpa using hp
/-- how many postings there are up to an hour -/
def uptoN (hour : Int) (l : List Post) : Nat := (someL (uptoP hour) l).length
theorem upto_book {l : List Post} (h : Book l) (hour : Int) : someL (uptoP hour) l = l.take (uptoN hour l) ∧ uptoN hour l ≤ l.length ∧ ∀ x, l[uptoN hour l]? = some x → hour < x.hour := by
  have e : someL (uptoP hour) l = l.filter (uptoP hour) := by unfold someL; rw [check_book h, if_pos rfl]
  have h1 := filter_first (uptoP hour) l ((Book.hours h).imp fun {a b} hab => by unfold uptoP; simp; omega)
  unfold uptoN
  rw [e]
  refine ⟨h1.1, List.length_filter_le _ _, fun x hx => ?_⟩
  have := h1.2 x hx
  unfold uptoP at this
  simpa using this

theorem LIn.take {l : List Post} {n cap : Nat} {ao : Option Addr} {B : Nat} {w : World} (h : LIn l n cap ao B w) {i c : Nat} (hi : i ≤ n) (hc : i ≤ c) : LIn (l.take i) i c ao B w :=
  ⟨by have := h.hn; simp; omega, by have := h.hm; omega, hc, h.hs.take i, h.hB, fun p hp => h.hk p (List.mem_of_mem_take hp), h.had⟩
theorem book_of_check {l : List Post} (h : (check l).2 = 0) : Book l := by
  refine Classical.byContradiction fun hn => ?_
  have : ∃ j, j < l.length ∧ BookTo l j ∧ ∃ p, l[j]? = some p ∧ refused (l.take j) p ≠ 0 := by
    refine Classical.byContradiction fun hno => hn ?_
    have hall : ∀ j, j ≤ l.length → BookTo l j := fun j => by
      induction j with
      | zero => intro _ k p hk; omega
      | succ j ih =>
        intro hj
        have hb := ih (by omega)
        have hq := List.getElem?_eq_getElem (show j < l.length by omega)
        refine bookTo_succ hb hq (Classical.byContradiction fun hr => hno ⟨j, by omega, hb, _, hq, hr⟩)
    exact bookTo_all (hall _ (Nat.le_refl _))
  obtain ⟨j, _, hb, p, hp, hr⟩ := this
  rw [check_bad hb hp hr] at h
  exact hr h

set_option maxRecDepth 100000 in
set_option maxHeartbeats 2000000 in
theorem pright {l : List Post} {n cap : Nat} {ao : Option Addr} {B : Nat} {w : World} (h : LIn l n cap ao B w) :
    Calls Tryz.prog 40 #[.slice ao n cap] w fun e w' => e = .returned (.bool ((check l).2 == 0)) ∧ Below w.heap.size w w' := by
  obtain ⟨ci, hci⟩ : ∃ ci, Hid ((check l).1 = ci) := ⟨_, rfl⟩
  obtain ⟨cr, hcr⟩ : ∃ cr, Hid ((check l).2 = cr) := ⟨_, rfl⟩
  rw [hcr.out]
  go_enter Tryz.func40, Tryz.ntmps40
  go_wp2_with (fail)
  go_at_call 93
  refine h.pCheck.mono ?_
  rintro e w2 ⟨rfl, hB2⟩
  rw [hci.out, hcr.out]
  go_wp2
  go_ret
  exact ⟨rfl, hB2⟩
end Go.Proofs.YtoijlikmigejbaaGreat
