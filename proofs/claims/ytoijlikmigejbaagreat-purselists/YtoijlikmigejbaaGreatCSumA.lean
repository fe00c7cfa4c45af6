/- Plain laws: sums over the parcels and the parties of a book. -/
import Derived.Test.YtoijlikmigejbaaGreatG12
namespace Go.Proofs.YtoijlikmigejbaaGreat
open Go.Proofs.YtoijlikmigejbaaGreat.Pu

theorem snoc_ind {α : Type} {P : List α → Prop} (h0 : P []) (h1 : ∀ l p, P l → P (l ++ [p])) (l : List α) : P l := by
  have h : ∀ r : List α, P r.reverse := fun r => by
    induction r with
    | nil => exact h0
    | cons p r ih => rw [List.reverse_cons]; exact h1 _ _ ih
  have := h l.reverse
  rwa [List.reverse_reverse] at this
theorem sumI_zero {α : Type} {f : α → Int} : ∀ {X : List α}, (∀ x ∈ X, f x = 0) → sumI (X.map f) = 0
  | [], _ => rfl
  | x :: r, h => by
    have h1 := sumI_zero (f := f) (X := r) fun y hy => h y (List.mem_cons_of_mem _ hy)
    have h2 := h x (List.mem_cons_self ..)
    rw [List.map_cons, sumI, h1, h2]; rfl
theorem sumI_add {α : Type} (f g : α → Int) : ∀ X : List α, sumI (X.map fun x => f x + g x) = sumI (X.map f) + sumI (X.map g)
  | [] => rfl
  | x :: r => by have := sumI_add f g r; simp only [List.map_cons, sumI]; omega
theorem sumI_sub {α : Type} (f g : α → Int) : ∀ X : List α, sumI (X.map fun x => f x - g x) = sumI (X.map f) - sumI (X.map g)
  | [] => rfl
  | x :: r => by have := sumI_sub f g r; simp only [List.map_cons, sumI]; omega
theorem sumI_congr {α : Type} {f g : α → Int} : ∀ {X : List α}, (∀ x ∈ X, f x = g x) → sumI (X.map f) = sumI (X.map g)
  | [], _ => rfl
  | x :: r, h => by
    have h1 := sumI_congr (f := f) (g := g) (X := r) fun y hy => h y (List.mem_cons_of_mem _ hy)
    have h2 := h x (List.mem_cons_self ..)
    simp only [List.map_cons, sumI, h1, h2]
theorem sumI_pick {X : List Int} (a v : Int) : X.Nodup → a ∈ X → sumI (X.map fun x => if x = a then v else 0) = v := by
  induction X with
  | nil => intro _ h; simp at h
  | cons x r ih =>
    intro hn ha
    rw [List.nodup_cons] at hn
    rw [List.map_cons, sumI]
    by_cases e : x = a
    · subst e
      rw [if_pos rfl, sumI_zero (fun y hy => if_neg (fun e => hn.1 (by rw [← e]; exact hy)))]; omega
    · rw [if_neg e, ih hn.2 (by rcases List.mem_cons.1 ha with h | h; exact absurd h.symm e; exact h)]; omega
theorem sumI_le {α : Type} {f g : α → Int} : ∀ {X : List α}, (∀ x ∈ X, f x ≤ g x) → sumI (X.map f) ≤ sumI (X.map g)
  | [], _ => Int.le_refl _
  | x :: r, h => by
    have h1 := sumI_le (f := f) (g := g) (X := r) fun y hy => h y (List.mem_cons_of_mem _ hy)
    have h2 := h x (List.mem_cons_self ..)
    simp only [List.map_cons, sumI]; omega
theorem sumI_bd {α : Type} {f : α → Int} {M : Int} (X : List α) (h : ∀ x ∈ X, 0 ≤ f x ∧ f x ≤ M) : 0 ≤ sumI (X.map f) ∧ sumI (X.map f) ≤ X.length * M := by
  induction X with
  | nil => simp [sumI]
  | cons x r ih =>
    have h1 := ih fun y hy => h y (List.mem_cons_of_mem _ hy)
    have h2 := h x (List.mem_cons_self ..)
    rw [List.map_cons, sumI, List.length_cons, Int.natCast_add, Int.add_mul]
    simp only [Int.natCast_one, Int.one_mul]
    omega
theorem asc_nodup {X : List Int} (h : X.Pairwise (· < ·)) : X.Nodup := h.imp fun h e => by omega
theorem parcels_nodup (l : List Post) : (parcels l).Nodup := asc_nodup (asc_parcels l)
theorem book_ok {l : List Post} (h : Book l) : ∀ p ∈ l, okP p = true := fun p hp => by
  obtain ⟨k, hk, rfl⟩ := List.getElem_of_mem hp
  exact (refused_ok (h k _ (List.getElem?_eq_getElem hk))).1
theorem held_nil (x : Int) : Pu.held [] x = 0 := by
  have : ∀ k, hasUpto [] x k = 0 := fun k => by
    induction k with
    | zero => rfl
    | succ k ih => rw [hasUpto, ih]; rfl
  rw [Pu.held, this]; rfl
theorem all_snoc {α : Type} {P : α → Prop} {l : List α} {p : α} (h : ∀ q ∈ l ++ [p], P q) : (∀ q ∈ l, P q) ∧ P p := ⟨fun q hq => h q (List.mem_append_left _ hq), h p (by simp)⟩

/-- what is held for the parcels is what is held altogether -/
theorem total_sum {X : List Int} (hX : X.Nodup) (l : List Post) : (∀ p ∈ l, okP p = true ∧ p.parcel ∈ X) → sumI (X.map (Pu.held l)) = total l := by
  refine snoc_ind (P := fun l => (∀ p ∈ l, okP p = true ∧ p.parcel ∈ X) → sumI (X.map (Pu.held l)) = total l) (fun _ => ?_) (fun l p ih h => ?_) l
  · rw [sumI_zero fun x _ => held_nil x]; rfl
  · obtain ⟨h1, h2, h3⟩ := all_snoc h
    have hp := okP_party h2
    have e : ∀ x ∈ X, Pu.held (l ++ [p]) x = Pu.held l x + if x = p.parcel then totOf p else 0 := fun x _ => by
      rw [held_app _ _ _ hp.1 hp.2]
      unfold soldOf hasOf totOf
      rcases okP_kind h2 with hk | hk | hk <;> by_cases hx : x = p.parcel
      all_goals simp [hk, hx]
      all_goals first | omega | (rw [if_neg (fun e => hx e.symm)]; omega)
    rw [sumI_congr e, sumI_add, ih h1, sumI_pick _ _ hX h3, total_app]
/-- what was sold is what is held and what is paid -/
theorem total_paid {l : List Post} (h : Book l) : total l + sumI ((parcels l).map fun x => hasUpto l x 41) = sumI ((parcels l).map (Pu.sold l)) := by
  have h1 := total_sum (parcels_nodup l) l fun p hp => ⟨book_ok h p hp, (mem_parcels _ l).2 ⟨p, hp, rfl⟩⟩
  rw [← h1, ← sumI_add]
  exact sumI_congr fun x _ => by unfold Pu.held; omega

/-- what a party was paid; what it gave back -/
def paidOf (who : Int) (p : Post) : Int := if p.kind = 2 ∧ p.party = who then p.amount else 0
def backOf (who : Int) (p : Post) : Int := if p.kind = 3 ∧ p.party = who then p.amount else 0
def paidBy (l : List Post) (who : Int) : Int := sumI (l.map (paidOf who))
def backBy (l : List Post) (who : Int) : Int := sumI (l.map (backOf who))
theorem paid_app (l : List Post) (p : Post) (who : Int) : paidBy (l ++ [p]) who = paidBy l who + paidOf who p := by simp [paidBy, sumI_append, sumI]
theorem back_app (l : List Post) (p : Post) (who : Int) : backBy (l ++ [p]) who = backBy l who + backOf who p := by simp [backBy, sumI_append, sumI]
theorem has_sum {X : List Int} (hX : X.Nodup) (who : Int) (l : List Post) : (∀ p ∈ l, p.parcel ∈ X) → sumI (X.map (Pu.has l who)) = paidBy l who - backBy l who := by
  refine snoc_ind (P := fun l => (∀ p ∈ l, p.parcel ∈ X) → sumI (X.map (Pu.has l who)) = paidBy l who - backBy l who) (fun _ => ?_) (fun l p ih h => ?_) l
  · rw [sumI_zero (f := Pu.has [] who) fun x _ => rfl]; rfl
  · obtain ⟨h1, h3⟩ := all_snoc h
    have e : ∀ x ∈ X, Pu.has (l ++ [p]) who x = Pu.has l who x + if x = p.parcel then paidOf who p - backOf who p else 0 := fun x _ => by
      rw [has_app]
      unfold hasOf paidOf backOf
      by_cases hx : x = p.parcel <;> by_cases hw : p.party = who <;> by_cases hk : p.kind = 2 <;> by_cases hk3 : p.kind = 3
      all_goals simp [hx, hw, hk, hk3]
      all_goals first | omega | (rw [if_neg (fun e => hx e.symm)])
    rw [sumI_congr e, sumI_add, ih h1, sumI_pick _ _ hX h3, paid_app, back_app]; omega
theorem sum_nonneg {α : Type} {f : α → Int} {X : List α} (h : ∀ x ∈ X, 0 ≤ f x) : 0 ≤ sumI (X.map f) := by
  induction X with
  | nil => simp [sumI]
  | cons x r ih =>
    have h1 := ih fun y hy => h y (List.mem_cons_of_mem _ hy)
    have h2 := h x (List.mem_cons_self ..)
    rw [List.map_cons, sumI]; omega
theorem paid_bd {l : List Post} (h : AmtOk l) (who : Int) : 0 ≤ paidBy l who ∧ paidBy l who ≤ l.length * 1000000000 := sumI_bd l fun p hp => by
  have := h p hp; unfold paidOf; split <;> omega
theorem back_bd {l : List Post} (h : AmtOk l) (who : Int) : 0 ≤ backBy l who ∧ backBy l who ≤ l.length * 1000000000 := sumI_bd l fun p hp => by
  have := h p hp; unfold backOf; split <;> omega
theorem back_le {l : List Post} (h : Book l) (who : Int) : backBy l who ≤ paidBy l who := by
  have h1 := has_sum (parcels_nodup l) who l fun p hp => (mem_parcels _ l).2 ⟨p, hp, rfl⟩
  have h2 := sum_nonneg (f := Pu.has l who) (X := parcels l) fun x _ => (Book.has_le h who x).1
  omega

/-- the balances of a book -/
def balOf (l : List Post) (k : Nat) : Option Bal := if paidBy l k = 0 then none else some ⟨k, paidBy l k, backBy l k⟩
def balL (l : List Post) : List Bal := if (check l).2 = 0 then (List.range 41).filterMap (balOf l) else []
/-- what parties have for a parcel -/
def holdOf (l : List Post) (x : Int) (k : Nat) : Option Due := if Pu.has l k x = 0 then none else some ⟨k, x, Pu.has l k x⟩
def holdL (l : List Post) (x : Int) : List Due := (List.range 41).filterMap (holdOf l x)
/-- a sum over what is kept, and over all -/
theorem sum_filterMap {α β : Type} (f : α → Option β) (g : β → Int) (h : α → Int) (hf : ∀ x, (∃ y, f x = some y ∧ g y = h x) ∨ (f x = none ∧ h x = 0)) : ∀ X : List α, sumI ((X.filterMap f).map g) = sumI (X.map h)
  | [] => rfl
  | x :: r => by
    have ih := sum_filterMap f g h hf r
    rw [List.filterMap_cons, List.map_cons, sumI]
    rcases hf x with ⟨y, e1, e2⟩ | ⟨e1, e2⟩
    · rw [e1]; simp only [List.map_cons, sumI, ih, e2]
    · rw [e1]; simp only [ih, e2]; omega
theorem sumI_swap {α β : Type} (f : α → β → Int) (X : List α) : ∀ Y : List β, sumI (X.map fun x => sumI (Y.map (f x))) = sumI (Y.map fun y => sumI (X.map fun x => f x y))
  | [] => sumI_zero fun x _ => rfl
  | y :: r => by
    have ih := sumI_swap f X r
    simp only [List.map_cons, sumI]
    rw [sumI_add, ih]
/-- what all balances have is what is paid for all parcels -/
theorem bal_hold {l : List Post} (h : Book l) : sumI ((balL l).map fun b => b.paid - b.back) = sumI ((parcels l).map fun x => sumI ((holdL l x).map (·.amount))) := by
  have h1 : balL l = (List.range 41).filterMap (balOf l) := by unfold balL; rw [check_book h, if_pos rfl]
  have hs : ∀ who, sumI ((parcels l).map (Pu.has l who)) = paidBy l who - backBy l who := fun who => has_sum (parcels_nodup l) who l fun p hp => (mem_parcels _ l).2 ⟨p, hp, rfl⟩
  rw [h1, sum_filterMap (balOf l) (fun b => b.paid - b.back) (fun k : Nat => paidBy l k - backBy l k) (fun k => by
    unfold balOf
    by_cases e : paidBy l k = 0
    · rw [if_pos e]
      refine .inr ⟨rfl, ?_⟩
      have := back_le h k
      have := (back_bd (Book.amtOk h) k).1
      omega
    · rw [if_neg e]; exact .inl ⟨_, rfl, rfl⟩) (List.range 41)]
  have e2 : ∀ x ∈ parcels l, sumI ((holdL l x).map (·.amount)) = sumI ((List.range 41).map fun k : Nat => Pu.has l k x) := fun x _ =>
    sum_filterMap (holdOf l x) (·.amount) (fun k : Nat => Pu.has l k x) (fun k => by
      unfold holdOf
      by_cases e : Pu.has l k x = 0
      · rw [if_pos e]; exact .inr ⟨rfl, e⟩
      · rw [if_neg e]; exact .inl ⟨_, rfl, rfl⟩) (List.range 41)
  rw [sumI_congr e2, sumI_swap]
  exact sumI_congr fun k _ => (hs k).symm
end Go.Proofs.YtoijlikmigejbaaGreat
