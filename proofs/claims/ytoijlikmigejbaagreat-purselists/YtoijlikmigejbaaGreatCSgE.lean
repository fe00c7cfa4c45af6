/- When settling settles everything: plain law. -/
import Derived.Test.YtoijlikmigejbaaGreatCSgD
import Derived.Test.YtoijlikmigejbaaGreatCSumA
namespace Go.Proofs.YtoijlikmigejbaaGreat
open Go.Proofs.YtoijlikmigejbaaGreat.Pu

/-- what is due for a parcel, altogether -/
def dueP (x : Int) (e : Due) : Int := if e.parcel = x then e.amount else 0
def dueSum (d : List Due) (x : Int) : Int := sumI (d.map (dueP x))
/-- the parcels of dues -/
def dparcels (d : List Due) : List Int := d.foldl (fun a x => insA x.parcel a) []
def covT (l : List Post) (d : List Due) (x : Int) : Bool := decide (Pu.sold l x < dueSum d x)
/-- the parcels for which more is due than they were sold for -/
def covL (l : List Post) (d : List Due) : List Int := (dparcels d).filter (covT l d)
theorem dparcels_mem_aux (y : Int) : ∀ (l : List Due) (a : List Int), y ∈ l.foldl (fun a p => insA p.parcel a) a ↔ y ∈ a ∨ ∃ p ∈ l, p.parcel = y
  | [], a => by simp
  | p :: r, a => by
    rw [List.foldl_cons, dparcels_mem_aux y r, mem_insA]
    constructor
    · rintro ((h | h) | ⟨q, hq, h⟩)
      · exact .inr ⟨p, List.mem_cons_self .., h.symm⟩
      · exact .inl h
      · exact .inr ⟨q, List.mem_cons_of_mem _ hq, h⟩
    · rintro (h | ⟨q, hq, h⟩)
      · exact .inl (.inr h)
      · rcases List.mem_cons.1 hq with rfl | hq
        · exact .inl (.inl h.symm)
        · exact .inr ⟨q, hq, h⟩
theorem mem_dparcels (y : Int) (d : List Due) : y ∈ dparcels d ↔ ∃ p ∈ d, p.parcel = y := by
  unfold dparcels; rw [dparcels_mem_aux]; simp
theorem asc_dparcels (d : List Due) : (dparcels d).Pairwise (· < ·) := by
  have : ∀ (l : List Due) (a : List Int), a.Pairwise (· < ·) → (l.foldl (fun a p => insA p.parcel a) a).Pairwise (· < ·) := fun l => by
    induction l with
    | nil => intro a h; exact h
    | cons p r ih => intro a h; rw [List.foldl_cons]; exact ih _ (asc_insA _ a h)
  exact this d [] List.Pairwise.nil
theorem dueSum_zero {d : List Due} {x : Int} (h : ¬ ∃ p ∈ d, p.parcel = x) : dueSum d x = 0 := sumI_zero fun p hp => if_neg fun e => h ⟨p, hp, e⟩
theorem cov_none {l : List Post} {d : List Due} (hb : Book l) (h : covL l d = []) (x : Int) : dueSum d x ≤ Pu.sold l x := by
  by_cases hx : ∃ p ∈ d, p.parcel = x
  · have h1 : ¬ covT l d x = true := fun hc => by
      have : x ∈ covL l d := List.mem_filter.2 ⟨(mem_dparcels x d).2 hx, hc⟩
      rw [h] at this; simp at this
    unfold covT at h1
    simpa using h1
  · rw [dueSum_zero hx]; exact (Book.sp hb x).2.1

theorem hasUpto_sum (l : List Post) (x : Int) : ∀ k : Nat, hasUpto l x k = sumI ((List.range k).map fun j : Nat => Pu.has l j x)
  | 0 => rfl
  | k + 1 => by
    rw [hasUpto, hasUpto_sum l x k, List.range_succ, List.map_append, sumI_append]
    simp [sumI]
theorem range_pick {a v : Int} (n : Nat) (h0 : 0 ≤ a) (h1 : a < n) : sumI ((List.range n).map fun k : Nat => if a = (k : Int) then v else 0) = v := by
  have hn : ((List.range n).map fun k : Nat => (k : Int)).Nodup := by
    rw [List.nodup_iff_pairwise_ne, List.pairwise_map]
    exact List.nodup_range.imp fun h e => h (by omega)
  have := sumI_pick (X := (List.range n).map fun k : Nat => (k : Int)) a v hn (List.mem_map.2 ⟨a.toNat, List.mem_range.2 (by omega), by omega⟩)
  rw [List.map_map] at this
  refine Eq.trans (sumI_congr fun k _ => ?_) this
  show (if a = (k : Int) then v else 0) = if (k : Int) = a then v else 0
  by_cases e : a = (k : Int)
  · rw [if_pos e, if_pos e.symm]
  · rw [if_neg e, if_neg fun h => e h.symm]
/-- what is due, as a sum -/
theorem due_takes {d : List Due} (h : d.Pairwise ltDu) (who what : Int) : gd (amtsM d) (what, who) = takes (fun _ => true) d who what := by
  by_cases hx : ∃ x ∈ d, x.party = who ∧ x.parcel = what
  · obtain ⟨x, hx, h1, h2⟩ := hx
    have := amts_get h hx
    rw [h1, h2] at this
    rw [this, takes_one h hx rfl h1 h2]
  · rw [takes_zero fun z hz _ hc => hx ⟨z, hz, hc⟩]
    refine (amts_aux d [] h).2 (what, who) fun x hx' e => ?_
    simp only [Prod.mk.injEq] at e
    exact hx ⟨x, hx', e.2, e.1⟩
theorem due_sum {d : List Due} (h : d.Pairwise ltDu) (hp : ∀ e ∈ d, 0 ≤ e.party ∧ e.party ≤ 40) (x : Int) : sumI ((List.range 41).map fun k : Nat => gd (amtsM d) (x, (k : Int))) = dueSum d x := by
  have h1 : ∀ k ∈ List.range 41, gd (amtsM d) (x, ((k : Nat) : Int)) = sumI (d.map fun e => if e.party = ((k : Nat) : Int) then dueP x e else 0) := fun k _ => by
    rw [due_takes h]
    unfold takes
    refine sumI_congr fun e _ => ?_
    unfold dueP
    by_cases a : e.party = (k : Int) <;> by_cases b : e.parcel = x <;> simp [a, b]
  rw [sumI_congr h1, sumI_swap (fun (k : Nat) (e : Due) => if e.party = (k : Int) then dueP x e else 0)]
  exact sumI_congr fun e he => range_pick 41 (hp e he).1 (by have := (hp e he).2; omega)

theorem sold_more {l : List Post} : ∀ out : List Post, (∀ q ∈ out, q.kind ≠ 1) → ∀ x, Pu.sold (l ++ out) x = Pu.sold l x := fun out => by
  refine snoc_ind (P := fun out => (∀ q ∈ out, q.kind ≠ 1) → ∀ x, Pu.sold (l ++ out) x = Pu.sold l x) (fun _ x => by rw [List.append_nil]) (fun o p ih h x => ?_) out
  obtain ⟨h1, h2⟩ := all_snoc h
  rw [← List.append_assoc, sold_app, ih h1 x]
  unfold soldOf
  rw [if_neg fun e => h2 e.1]; omega
section
variable {l : List Post} {d : List Due} {cs : List Cause} {hour : Int}
theorem out_kinds : ∀ q ∈ settleOut l d cs hour, q.kind ≠ 1 := by
  have hb : ∀ (L : List Due) (o : List Post), (∀ q ∈ o, q.kind ≠ 1) → ∀ q ∈ L.foldl (backStep l cs hour) o, q.kind ≠ 1 := fun L => by
    induction L with
    | nil => intro o h; exact h
    | cons x r ih =>
      intro o h
      rw [List.foldl_cons]
      refine ih _ ?_
      unfold backStep
      split
      · split
        · intro q hq
          rcases List.mem_append.1 hq with h1 | h1
          · exact h q h1
          · rw [List.mem_singleton.1 h1]; simp [mkP]
        · exact h
      · exact h
  have hp : ∀ (L : List Due) (o : List Post), (∀ q ∈ o, q.kind ≠ 1) → ∀ q ∈ L.foldl (payStep l cs hour) o, q.kind ≠ 1 := fun L => by
    induction L with
    | nil => intro o h; exact h
    | cons x r ih =>
      intro o h
      rw [List.foldl_cons]
      refine ih _ ?_
      unfold payStep
      split
      · split
        · intro q hq
          rcases List.mem_append.1 hq with h1 | h1
          · exact h q h1
          · rw [List.mem_singleton.1 h1]; simp [mkP]
        · exact h
      · exact h
  exact hp _ _ (hb _ _ fun q hq => by simp at hq)

/-- a parcel has a cause that is known in time, and later than all payments for it -/
def Caused (l : List Post) (cs : List Cause) (hour x : Int) : Prop := ∃ y, causeH cs hour x = some y ∧ ∀ p ∈ l, p.kind = 2 → p.parcel = x → p.known < y.known
theorem has_last {m : List Post} {who what : Int} : AmtOk m → 0 < Pu.has m who what → ∃ p ∈ m, p.kind = 2 ∧ p.parcel = what ∧ Pu.last m who what = some p := by
  refine snoc_ind (P := fun m => AmtOk m → 0 < Pu.has m who what → ∃ p ∈ m, p.kind = 2 ∧ p.parcel = what ∧ Pu.last m who what = some p) (fun _ h => ?_) (fun m p ih ha h => ?_) m
  · simp [Pu.has, sumI] at h
  · obtain ⟨h1, h2⟩ := all_snoc ha
    rw [last_app]
    by_cases hp : isPay who what p = true
    · rw [if_pos hp]
      simp only [isPay, Bool.and_eq_true, beq_iff_eq] at hp
      exact ⟨p, by simp, hp.1.1, hp.2, rfl⟩
    · rw [if_neg hp]
      rw [has_app] at h
      have : hasOf who what p ≤ 0 := by
        simp only [isPay, Bool.and_eq_true, beq_iff_eq] at hp
        unfold hasOf
        split
        · rename_i hc
          rw [if_neg fun e => hp ⟨⟨e, hc.1⟩, hc.2⟩]
          split <;> omega
        · exact Int.le_refl _
      obtain ⟨q, hq, e⟩ := ih h1 (by omega)
      exact ⟨q, List.mem_append_left _ hq, e⟩
theorem caused_back (hbk : Book l) {z : Due} (hz : 0 < Pu.has l z.party z.parcel) (hc : Caused l cs hour z.parcel) : backOn l cs hour z = true := by
  obtain ⟨y, hy, hk⟩ := hc
  obtain ⟨p, hp, h1, h2, h3⟩ := has_last (Book.amtOk hbk) hz
  unfold backOn lastK
  rw [hy, h3]
  simpa using hk p hp h1 h2
/-- nobody has too much -/
theorem settled_over (hok : SetOk l d cs hour) (hh : ∀ x ∈ parcels l, (∃ y, 0 ≤ y ∧ y ≤ 40 ∧ Pu.has l y x ≠ 0) → Caused l cs hour x) : overL (l ++ settleOut l d cs hour) d = [] := by
  rw [List.eq_nil_iff_forall_not_mem]
  intro z hz
  obtain ⟨h1, _⟩ := over_after hok hz
  obtain ⟨hb, hp⟩ := settle_parts hok
  have e1 := mem_over hz
  have e2 := mem_over h1
  have hG := (amts_bd (okD_amount hok.dues) (z.parcel, z.party)).1
  have hin := overL_in hok.book (okD_amount hok.dues) z h1
  have hon := caused_back hok.book (by omega) (hh z.parcel (has_parcel (y := z.party) (by omega)) ⟨z.party, hin.1, hin.2.1, by omega⟩)
  have ht := takes_one (strict_over l d) h1 hon rfl rfl
  have hhas := hb.has z.party z.parcel
  rcases hp.le z.party z.parcel with e | ⟨x, hx, x1, x2, x3⟩
  · omega
  · obtain ⟨e, hed, rfl, h2⟩ := mem_open.1 hx
    have h3 := amts_get (chkL_pair hok.dues) hed
    dsimp only at x1 x2 x3
    rw [x1, x2] at h3 x3 h2
    omega
theorem has_le_due (hok : SetOk l d cs hour) (ho : overL (l ++ settleOut l d cs hour) d = []) (k : Nat) (hk : k < 41) (x : Int) : Pu.has (l ++ settleOut l d cs hour) k x ≤ gd (amtsM d) (x, (k : Int)) := by
  refine Int.not_lt.1 fun hlt => ?_
  have hG := (amts_bd (okD_amount hok.dues) (x, (k : Int))).1
  have : (⟨k, x, Pu.has (l ++ settleOut l d cs hour) k x - gd (amtsM d) (x, (k : Int))⟩ : Due) ∈ overL (l ++ settleOut l d cs hour) d := by
    refine List.mem_filterMap.2 ⟨(x, (k : Int)), (mem_accL x k).2 ⟨has_parcel (y := k) (by omega), by omega, by omega, by omega⟩, ?_⟩
    unfold overD
    dsimp only
    rw [if_pos (by omega)]
  rw [ho] at this
  simp at this
theorem sumI_lt {α : Type} {f g : α → Int} {a : α} : ∀ {X : List α}, (∀ x ∈ X, f x ≤ g x) → a ∈ X → f a < g a → sumI (X.map f) < sumI (X.map g)
  | [], _, h, _ => by simp at h
  | x :: r, h, ha, hl => by
    have h2 := h x (List.mem_cons_self ..)
    simp only [List.map_cons, sumI]
    rcases List.mem_cons.1 ha with rfl | ha
    · have h1 := sumI_le (f := f) (g := g) (X := r) fun y hy => h y (List.mem_cons_of_mem _ hy)
      omega
    · have h1 := sumI_lt (f := f) (g := g) (X := r) (fun y hy => h y (List.mem_cons_of_mem _ hy)) ha hl
      omega
/-- everything is settled behind it -/
theorem settled_all (hok : SetOk l d cs hour) (hcov : covL l d = []) (hd : ∀ e ∈ d, 0 < e.amount → Caused l cs hour e.parcel)
    (hh : ∀ x ∈ parcels l, (∃ y, 0 ≤ y ∧ y ≤ 40 ∧ Pu.has l y x ≠ 0) → Caused l cs hour x) : settledB (l ++ settleOut l d cs hour) d = true := by
  have ho := settled_over hok hh
  have hop : openL (l ++ settleOut l d cs hour) d = [] := by
    rw [List.eq_nil_iff_forall_not_mem]
    intro z hz
    obtain ⟨e, hed, rfl, h2⟩ := mem_open.1 hz
    obtain ⟨hb, hp⟩ := settle_parts hok
    have hdp := chkL_pair hok.dues
    have hG := amts_get hdp hed
    have hT := takes_cases (backOn l cs hour) (strict_over l d) e.party e.parcel
    have e1 := hb.has e.party e.parcel
    have hge := hp.ge e.party e.parcel
    have hei := okD_mem hok.dues hed
    have hT0 : takes (backOn l cs hour) (overL l d) e.party e.parcel = 0 := by
      rcases hT with hT | ⟨y, hy, _, y1, y2, hT⟩
      · exact hT
      · exfalso
        have h4 := mem_over hy
        rw [y1, y2] at h4
        omega
    have hn0 := (Book.has_le hok.book e.party e.parcel).1
    have hnn := (Book.has_le hp.outs.book e.party e.parcel).1
    obtain ⟨y, hy, _⟩ := hd e hed (by omega)
    have hdone := hp.done _ (mem_open.2 ⟨e, hed, rfl, by omega⟩) (by show (causeH cs hour e.parcel).isSome = true; rw [hy]; rfl)
    dsimp only at hdone
    rcases hdone with h4 | h4
    · omega
    · have hs := sold_more (l := l) (settleOut l d cs hour) out_kinds e.parcel
      have hc := cov_none hok.book hcov e.parcel
      unfold Pu.held at h4
      rw [hasUpto_sum, hs] at h4
      rw [← due_sum hdp (fun e he => by have := okD_mem hok.dues he; omega)] at hc
      have hlt : sumI ((List.range 41).map fun k : Nat => Pu.has (l ++ settleOut l d cs hour) k e.parcel) < sumI ((List.range 41).map fun k : Nat => gd (amtsM d) (e.parcel, (k : Int))) := by
        refine sumI_lt (a := e.party.toNat) (fun k hk => has_le_due hok ho k (List.mem_range.1 hk) e.parcel) (List.mem_range.2 (by omega)) ?_
        rw [show ((e.party.toNat : Nat) : Int) = e.party by omega, hG]
        omega
      omega
  unfold settledB
  rw [ho, hop]
  rfl

/-- the law's own way to ask it -/
def causedF (l : List Post) (x hour : Int) : Bool → List Cause → Bool
  | found, [] => found
  | found, y :: r => if y.parcel = x then (if l.any (fun p => p.kind == 2 && p.parcel == x && decide (y.known ≤ p.known)) then false else causedF l x hour (decide (y.known ≤ hour)) r) else causedF l x hour found r
theorem causedF_none {x : Int} (found : Bool) : ∀ (r : List Cause), (∀ y ∈ r, y.parcel ≠ x) → causedF l x hour found r = found
  | [], _ => rfl
  | y :: r, h => by
    rw [causedF, if_neg (h y (List.mem_cons_self ..))]
    exact causedF_none found r fun z hz => h z (List.mem_cons_of_mem _ hz)
theorem causedF_some {x : Int} : ∀ (r : List Cause), r.Pairwise (fun a b => a.parcel < b.parcel) → causedF l x hour false r = true → ∃ y, causeP r x = some y ∧ y.known ≤ hour ∧ ∀ p ∈ l, p.kind = 2 → p.parcel = x → p.known < y.known
  | [], _, h => by cases h
  | y :: r, hp, h => by
    rw [List.pairwise_cons] at hp
    rw [causedF] at h
    unfold causeP
    rw [List.find?_cons]
    by_cases e : y.parcel = x
    · rw [if_pos e] at h
      have eb : (y.parcel == x) = true := by simpa using e
      rw [eb]
      split at h
      · cases h
      · rename_i hn
        rw [causedF_none _ r fun z hz => by have := hp.1 z hz; omega] at h
        refine ⟨y, rfl, by simpa using h, fun p hpl h2 h3 => ?_⟩
        rw [Bool.not_eq_true, List.any_eq_false] at hn
        have := hn p hpl
        simp only [Bool.and_eq_true, beq_iff_eq, decide_eq_true_eq, not_and] at this
        have := this ⟨h2, h3⟩
        omega
    · rw [if_neg e] at h
      have eb : (y.parcel == x) = false := by simpa using e
      rw [eb]
      exact causedF_some r hp.2 h
theorem caused_of (hc : chkL okC ltC cs = 0) {x : Int} (h : causedF l x hour false cs = true) : Caused l cs hour x := by
  obtain ⟨y, h1, h2, h3⟩ := causedF_some cs (causes_pair hc) h
  refine ⟨y, ?_, h3⟩
  rw [causeH_eq hour x (causes_pair hc), h1]
  simp only
  rw [if_pos h2]
end
end Go.Proofs.YtoijlikmigejbaaGreat
