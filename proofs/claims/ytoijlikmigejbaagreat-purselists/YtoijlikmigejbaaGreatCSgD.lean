/- The reference's way to settle, in plain Lean: what it appends is what Settle appends. -/
import Derived.Test.YtoijlikmigejbaaGreatCSgC
namespace Go.Proofs.YtoijlikmigejbaaGreat
open Go.Proofs.YtoijlikmigejbaaGreat.Pu

/-- into a strictly ascending list: where it goes -/
theorem insA_in {n : Int} {a : List Int} (h : a.Pairwise (· < ·)) (hn : n ∈ a) : insA n a = a :=
  eq_of_strict (lt := fun x y : Int => x < y) (fun a => by omega) (fun a b c => by omega) (asc_insA n a h) h fun x => by
    rw [mem_insA]
    constructor
    · rintro (rfl | h1)
      · exact hn
      · exact h1
    · exact .inr
theorem insA_at {n : Int} {a : List Int} (h : a.Pairwise (· < ·)) (j : Nat) (h1 : ∀ x ∈ a.take j, x < n) (h2 : ∀ x ∈ a.drop j, n < x) : insA n a = a.take j ++ n :: a.drop j := by
  have e := List.take_append_drop j a
  refine eq_of_strict (lt := fun x y : Int => x < y) (fun a => by omega) (fun a b c => by omega) (asc_insA n a h) ?_ fun x => ?_
  · rw [← e, List.pairwise_append] at h
    rw [List.pairwise_append, List.pairwise_cons]
    refine ⟨h.1, ⟨h2, h.2.1⟩, fun x hx y hy => ?_⟩
    rcases List.mem_cons.1 hy with rfl | hy
    · exact h1 x hx
    · exact h.2.2 x hx y hy
  · rw [mem_insA, List.mem_append, List.mem_cons]
    conv => lhs; rw [← e, List.mem_append]
    constructor
    · rintro (h | h | h) <;> simp [h]
    · rintro (h | h | h) <;> simp [h]

/-- what is due, as the reference looks it up -/
def dueF (d : List Due) (who what : Int) : Int := match d.find? (fun x => x.party == who && x.parcel == what) with
  | some x => x.amount
  | none => 0
theorem dueF_amts {d : List Due} (h : d.Pairwise ltDu) (who what : Int) : dueF d who what = gd (amtsM d) (what, who) := by
  unfold dueF
  cases hf : d.find? (fun x => x.party == who && x.parcel == what) with
  | none =>
    have h1 := (amts_aux d [] h).2 (what, who) fun x hx e => by
      have := List.find?_eq_none.1 hf x hx
      simp only [Prod.mk.injEq] at e
      simp [e.1, e.2] at this
    exact h1.symm
  | some x =>
    have h1 := List.mem_of_find?_eq_some hf
    have h2 := List.find?_some hf
    simp only [Bool.and_eq_true, beq_iff_eq] at h2
    have := amts_get h h1
    rw [h2.1, h2.2] at this
    exact this.symm
/-- what is too much at a parcel for the party k -/
def overF (l : List Post) (d : List Due) (x : Int) (k : Nat) : Option Due := if 0 < Pu.has l k x - dueF d k x then some ⟨k, x, Pu.has l k x - dueF d k x⟩ else none
theorem over_grid {l : List Post} {d : List Due} (hd : d.Pairwise ltDu) (h0 : ∀ x ∈ d, 0 ≤ x.amount ∧ x.amount ≤ 1000000000) : overL l d = (parcels l).flatMap fun x => (List.range 41).filterMap (overF l d x) := by
  unfold overL accL
  rw [List.filterMap_flatMap]
  congr 1
  funext x
  rw [List.filterMap_filterMap]
  congr 1
  funext k
  unfold overF
  rw [dueF_amts hd]
  by_cases h : Pu.has l k x = 0
  · have := (amts_bd h0 (x, (k : Int))).1
    rw [if_pos h, if_neg (by omega)]; rfl
  · rw [if_neg h]; rfl

def causeP (cs : List Cause) (what : Int) : Option Cause := cs.find? (fun y => y.parcel == what)
theorem causes_pair {cs : List Cause} (h : chkL okC ltC cs = 0) : cs.Pairwise (fun a b => a.parcel < b.parcel) := by
  rw [List.pairwise_iff_getElem]
  have hn : ∀ i (hi : i + 1 < cs.length), cs[i].parcel < cs[i + 1].parcel := fun i hi => by
    have := chkL_all h (i + 1) hi
    unfold okAt at this
    rw [List.getElem?_eq_getElem hi] at this
    simp only [Nat.add_sub_cancel, List.getElem?_eq_getElem (show i < cs.length by omega)] at this
    simp only [Bool.and_eq_true, Bool.or_eq_true] at this
    rcases this.2 with h1 | h1
    · simp at h1
    · simpa [ltC] using h1
  have hk : ∀ k i (hi : i + (k + 1) < cs.length), cs[i].parcel < cs[i + (k + 1)].parcel := fun k => by
    induction k with
    | zero => intro i hi; exact hn i hi
    | succ k ih => intro i hi; exact Int.lt_trans (ih i (by omega)) (hn (i + (k + 1)) (by omega))
  intro i j hi hj hij
  obtain ⟨k, rfl⟩ : ∃ k, j = i + (k + 1) := ⟨j - i - 1, by omega⟩
  exact hk k i hj
theorem causeH_eq (hour what : Int) : ∀ {cs : List Cause}, cs.Pairwise (fun a b => a.parcel < b.parcel) → causeH cs hour what = match causeP cs what with | some y => if y.known ≤ hour then some y else none | none => none
  | [], _ => rfl
  | y :: r, h => by
    rw [List.pairwise_cons] at h
    unfold causeH causeP
    rw [List.find?_cons, List.find?_cons]
    by_cases h1 : y.parcel = what
    · have e : (y.parcel == what) = true := by simp [h1]
      rw [e]
      by_cases h2 : y.known ≤ hour
      · have e2 : wantC what hour y = true := by unfold wantC; simp [h1, h2]
        rw [e2]; simp only; rw [if_pos h2]
      · have e2 : wantC what hour y = false := by unfold wantC; simp [h2]
        rw [e2]; simp only; rw [if_neg h2]
        rw [List.find?_eq_none]
        intro z hz
        have := h.1 z hz
        unfold wantC
        simp; omega
    · have e : (y.parcel == what) = false := by simp [h1]
      have e2 : wantC what hour y = false := by unfold wantC; simp [h1]
      rw [e, e2]
      exact causeH_eq hour what h.2

/-- a due, as the reference pays it -/
def payR (l : List Post) (cs : List Cause) (hour : Int) (out : List Post) (x : Due) : List Post :=
  match causeH cs hour x.parcel with
  | some y => if 0 < min (x.amount - Pu.has (l ++ out) x.party x.parcel) (Pu.held (l ++ out) x.parcel) then
      out ++ [mkP (maxId l + out.length + 1) hour 2 { x with amount := min (x.amount - Pu.has (l ++ out) x.party x.parcel) (Pu.held (l ++ out) x.parcel) } y] else out
  | none => out
section
variable {l : List Post} {d : List Due} {cs : List Cause} {hour : Int}
theorem backs_has : ∀ (L P : List Due) (out : List Post), (∀ who what, Pu.has (l ++ out) who what = Pu.has l who what - takes (backOn l cs hour) P who what) →
    ∀ who what, Pu.has (l ++ L.foldl (backStep l cs hour) out) who what = Pu.has l who what - takes (backOn l cs hour) (P ++ L) who what
  | [], P, out, h, who, what => by rw [List.append_nil]; exact h who what
  | x :: L, P, out, h, who, what => by
    rw [List.foldl_cons]
    have := backs_has L (P ++ [x]) (backStep l cs hour out x) (fun who what => by
      cases hon : backOn l cs hour x with
      | false => rw [backStep_off hon, h, takes_snoc, hon, if_neg (by simp)]; omega
      | true =>
        obtain ⟨y, _, _, hb⟩ := backStep_on (out := out) hon
        rw [hb, ← List.append_assoc, has_app, h, takes_snoc, hon]
        unfold hasOf mkP
        dsimp only
        by_cases hc : x.party = who ∧ x.parcel = what
        · rw [if_pos hc, if_neg (by omega), if_pos rfl, if_pos ⟨rfl, hc.1, hc.2⟩]; omega
        · rw [if_neg hc, if_neg (fun e => hc e.2)]; omega) who what
    rwa [List.append_assoc] at this
theorem payR_has {out : List Post} {x : Due} {who what : Int} (h : ¬ (x.party = who ∧ x.parcel = what)) : Pu.has (l ++ payR l cs hour out x) who what = Pu.has (l ++ out) who what := by
  unfold payR
  split
  · split
    · rw [← List.append_assoc, has_app]
      unfold hasOf mkP
      dsimp only
      rw [if_neg h]; omega
    · rfl
  · rfl
theorem payR_step (hd : d.Pairwise ltDu) {out : List Post} {x : Due} (hx : x ∈ d) (h : Pu.has (l ++ out) x.party x.parcel = Pu.has l x.party x.parcel - takes (backOn l cs hour) (overL l d) x.party x.parcel) :
    payR l cs hour out x = match openD l x with | some y => payStep l cs hour out y | none => out := by
  have hT := takes_cases (backOn l cs hour) (strict_over l d) x.party x.parcel
  have hG := amts_get hd hx
  unfold openD
  by_cases ho : 0 < x.amount - Pu.has l x.party x.parcel
  · rw [if_pos ho]
    have hT0 : takes (backOn l cs hour) (overL l d) x.party x.parcel = 0 := by
      rcases hT with hT | ⟨y, hy, _, y1, y2, hT⟩
      · exact hT
      · exfalso
        have h4 := mem_over hy
        rw [y1, y2] at h4
        omega
    rw [hT0] at h
    unfold payR payStep
    dsimp only
    rw [h, Int.sub_zero]
    cases causeH cs hour x.parcel <;> rfl
  · rw [if_neg ho]
    have hle : x.amount - Pu.has (l ++ out) x.party x.parcel ≤ 0 := by
      rcases hT with hT | ⟨y, hy, _, y1, y2, hT⟩
      · omega
      · have h4 := mem_over hy
        rw [y1, y2] at h4
        omega
    unfold payR
    split
    · rw [if_neg (by omega)]
    · rfl
theorem pays_eq (hd : d.Pairwise ltDu) : ∀ (R : List Due) (out : List Post), (∀ x ∈ R, x ∈ d) → R.Pairwise ltDu → (∀ x ∈ R, Pu.has (l ++ out) x.party x.parcel = Pu.has l x.party x.parcel - takes (backOn l cs hour) (overL l d) x.party x.parcel) →
    R.foldl (payR l cs hour) out = (R.filterMap (openD l)).foldl (payStep l cs hour) out
  | [], _, _, _, _ => rfl
  | x :: R, out, hm, hp, h => by
    rw [List.pairwise_cons] at hp
    have h1 := payR_step (cs := cs) (hour := hour) hd (hm x (List.mem_cons_self ..)) (h x (List.mem_cons_self ..))
    have ih := pays_eq hd R (payR l cs hour out x) (fun z hz => hm z (List.mem_cons_of_mem _ hz)) hp.2 (fun z hz => by
      rw [payR_has (fun hc => ltDu_ne (hp.1 z hz) hc)]; exact h z (List.mem_cons_of_mem _ hz))
    rw [List.foldl_cons, ih, h1, List.filterMap_cons]
    cases openD l x <;> rfl
/-- what the reference appends is what Settle appends -/
theorem settle_ref (hd : d.Pairwise ltDu) : d.foldl (payR l cs hour) (backs l d cs hour) = settleOut l d cs hour := by
  refine pays_eq hd d _ (fun x h => h) hd fun x hx => ?_
  have := backs_has (l := l) (cs := cs) (hour := hour) (overL l d) [] [] (fun who what => by rw [List.append_nil, takes_nil]; omega) x.party x.parcel
  rwa [List.nil_append] at this
end
end Go.Proofs.YtoijlikmigejbaaGreat
