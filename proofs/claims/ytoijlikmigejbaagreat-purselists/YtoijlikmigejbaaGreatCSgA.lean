/- What Settle appends can be appended, and leaves nothing to settle; in plain Lean. -/
import Derived.Test.YtoijlikmigejbaaGreatCHrA
namespace Go.Proofs.YtoijlikmigejbaaGreat
open Go.Proofs.YtoijlikmigejbaaGreat.Pu

/-- accounts in order -/
abbrev ltDu (a b : Due) : Prop := ltAc (a.parcel, a.party) (b.parcel, b.party)
theorem ltAc_trans {a b c : Int × Int} (h : ltAc a b) (k : ltAc b c) : ltAc a c := by unfold ltAc at *; omega
theorem ltD_acc {a b : Due} (h : ltD a b = true) : ltDu a b := by
  have h1 : Go.Proofs.ltOf cmpA (a.parcel, a.party) (b.parcel, b.party) = true := h
  rw [ltA] at h1
  simpa [ltAc] using h1
theorem chkL_pair {d : List Due} (h : chkL okD ltD d = 0) : d.Pairwise ltDu := by
  rw [List.pairwise_iff_getElem]
  have hn : ∀ i (hi : i + 1 < d.length), ltDu d[i] d[i + 1] := fun i hi => by
    have := chkL_all h (i + 1) hi
    unfold okAt at this
    rw [List.getElem?_eq_getElem hi] at this
    simp only [Nat.add_sub_cancel, List.getElem?_eq_getElem (show i < d.length by omega)] at this
    simp only [Bool.and_eq_true, Bool.or_eq_true] at this
    rcases this.2 with h1 | h1
    · simp at h1
    · exact ltD_acc h1
  have hk : ∀ k i (hi : i + (k + 1) < d.length), ltDu d[i] d[i + (k + 1)] := fun k => by
    induction k with
    | zero => intro i hi; exact hn i hi
    | succ k ih => intro i hi; exact ltAc_trans (ih i (by omega)) (hn (i + (k + 1)) (by omega))
  intro i j hi hj hij
  obtain ⟨k, rfl⟩ : ∃ k, j = i + (k + 1) := ⟨j - i - 1, by omega⟩
  exact hk k i hj
theorem ltDu_ne {a b : Due} (h : ltDu a b) : ¬ (a.party = b.party ∧ a.parcel = b.parcel) := by
  rintro ⟨h1, h2⟩
  unfold ltDu ltAc at h; dsimp only at h; omega
theorem amts_aux : ∀ (d : List Due) (m : List ((Int × Int) × Int)), d.Pairwise ltDu →
    (∀ x ∈ d, gd (d.foldl (fun m d => putM m (d.parcel, d.party) d.amount) m) (x.parcel, x.party) = x.amount) ∧
      ∀ a : Int × Int, (∀ x ∈ d, (x.parcel, x.party) ≠ a) → gd (d.foldl (fun m d => putM m (d.parcel, d.party) d.amount) m) a = gd m a
  | [], m, _ => ⟨fun x hx => by simp at hx, fun _ _ => rfl⟩
  | y :: r, m, h => by
    rw [List.pairwise_cons] at h
    have ih := amts_aux r (putM m (y.parcel, y.party) y.amount) h.2
    rw [List.foldl_cons]
    refine ⟨fun x hx => ?_, fun a ha => ?_⟩
    · rcases List.mem_cons.1 hx with e | hx
      · subst e
        rw [ih.2 _ (fun z hz e => ltDu_ne (h.1 z hz) (by injection e with e1 e2; exact ⟨e2.symm, e1.symm⟩)), gd_putM, if_pos rfl]
      · exact ih.1 x hx
    · rw [ih.2 a (fun z hz => ha z (List.mem_cons_of_mem _ hz)), gd_putM, if_neg (fun e => ha y (List.mem_cons_self ..) e.symm)]
theorem amts_get {d : List Due} (h : d.Pairwise ltDu) {x : Due} (hx : x ∈ d) : gd (amtsM d) (x.parcel, x.party) = x.amount := (amts_aux d [] h).1 x hx

/-- what is taken back -/
def takes (on : Due → Bool) (L : List Due) (who what : Int) : Int := sumI (L.map fun x => if on x = true ∧ x.party = who ∧ x.parcel = what then x.amount else 0)
theorem takes_nil (on : Due → Bool) (who what : Int) : takes on [] who what = 0 := rfl
theorem takes_snoc (on : Due → Bool) (L : List Due) (x : Due) (who what : Int) : takes on (L ++ [x]) who what = takes on L who what + if on x = true ∧ x.party = who ∧ x.parcel = what then x.amount else 0 := by
  simp [takes, sumI_append, sumI]
theorem takes_zero {on : Due → Bool} {L : List Due} {who what : Int} (h : ∀ z ∈ L, on z = true → ¬ (z.party = who ∧ z.parcel = what)) : takes on L who what = 0 := by
  induction L with
  | nil => rfl
  | cons x r ih =>
    have e : takes on (x :: r) who what = (if on x = true ∧ x.party = who ∧ x.parcel = what then x.amount else 0) + takes on r who what := rfl
    rw [e, ih fun z hz => h z (List.mem_cons_of_mem _ hz), if_neg (fun hc => h x (List.mem_cons_self ..) hc.1 hc.2)]; rfl
theorem takes_one {on : Due → Bool} {who what : Int} : ∀ {L : List Due}, L.Pairwise ltDu → ∀ {x : Due}, x ∈ L → on x = true → x.party = who → x.parcel = what → takes on L who what = x.amount
  | [], _, x, hx, _, _, _ => by simp at hx
  | y :: r, h, x, hx, ho, h1, h2 => by
    rw [List.pairwise_cons] at h
    have e : takes on (y :: r) who what = (if on y = true ∧ y.party = who ∧ y.parcel = what then y.amount else 0) + takes on r who what := rfl
    rw [e]
    rcases List.mem_cons.1 hx with e | hx
    · subst e
      rw [if_pos ⟨ho, h1, h2⟩, takes_zero (fun z hz _ hc => ltDu_ne (h.1 z hz) ⟨h1.trans hc.1.symm, h2.trans hc.2.symm⟩)]; omega
    · rw [if_neg (fun hc => ltDu_ne (h.1 x hx) ⟨hc.2.1.trans h1.symm, hc.2.2.trans h2.symm⟩), takes_one h.2 hx ho h1 h2]; omega
theorem takes_cases (on : Due → Bool) {L : List Due} (h : L.Pairwise ltDu) (who what : Int) : takes on L who what = 0 ∨ ∃ x ∈ L, on x = true ∧ x.party = who ∧ x.parcel = what ∧ takes on L who what = x.amount := by
  by_cases hx : ∃ x ∈ L, on x = true ∧ x.party = who ∧ x.parcel = what
  · obtain ⟨x, h1, h2, h3, h4⟩ := hx
    exact .inr ⟨x, h1, h2, h3, h4, takes_one h h1 h2 h3 h4⟩
  · exact .inl (takes_zero fun z hz ho hc => hx ⟨z, hz, ho, hc.1, hc.2⟩)

theorem strict_over (l : List Post) (d : List Due) : (overL l d).Pairwise ltDu := by
  unfold overL
  rw [List.pairwise_filterMap]
  refine (strict_accL l).imp ?_
  rintro ⟨a, b⟩ ⟨c, e⟩ h x hx y hy
  unfold overD at hx hy
  split at hx
  · split at hy
    · cases hx; cases hy; exact h
    · cases hy
  · cases hx
theorem mem_over {l : List Post} {d : List Due} {x : Due} (h : x ∈ overL l d) : x.amount = Pu.has l x.party x.parcel - gd (amtsM d) (x.parcel, x.party) ∧ 0 < x.amount := by
  obtain ⟨⟨a, b⟩, _, he⟩ := List.mem_filterMap.1 h
  unfold overD at he
  split at he
  · cases he; exact ⟨rfl, by assumption⟩
  · cases he
theorem strict_open {l : List Post} {d : List Due} (h : d.Pairwise ltDu) : (openL l d).Pairwise ltDu := by
  unfold openL
  rw [List.pairwise_filterMap]
  refine h.imp ?_
  intro a b h x hx y hy
  unfold openD at hx hy
  split at hx
  · split at hy
    · cases hx; cases hy; exact h
    · cases hy
  · cases hx
theorem mem_open {l : List Post} {d : List Due} {x : Due} : x ∈ openL l d ↔ ∃ e ∈ d, x = { e with amount := e.amount - Pu.has l e.party e.parcel } ∧ 0 < e.amount - Pu.has l e.party e.parcel := by
  unfold openL
  rw [List.mem_filterMap]
  constructor
  · rintro ⟨e, he, h⟩
    unfold openD at h
    split at h
    · cases h; exact ⟨e, he, rfl, by assumption⟩
    · cases h
  · rintro ⟨e, he, rfl, h⟩
    exact ⟨e, he, by unfold openD; rw [if_pos h]⟩
theorem maxI_ge {a : List Int} {x : Int} (h : x ∈ a) : x ≤ maxI a := by
  induction a with
  | nil => simp at h
  | cons y r ih =>
    rcases List.mem_cons.1 h with e | h
    · subst e; simp only [maxI]; omega
    · have := ih h; simp only [maxI]; omega
theorem maxI_nn (a : List Int) : 0 ≤ maxI a := by
  induction a with
  | nil => simp [maxI]
  | cons y r ih => simp only [maxI]; omega

/-- what was appended so far -/
structure Outs (l out : List Post) (hour : Int) : Prop where
  book : Book (l ++ out)
  hr : ∀ q ∈ out, q.hour = hour
  id : ∀ q ∈ out, q.id ≤ maxId l + out.length
theorem lastHour_outs {l out : List Post} {hour : Int} (hh : lastHour l ≤ hour) (h : ∀ q ∈ out, q.hour = hour) : lastHour (l ++ out) ≤ hour := by
  rcases List.eq_nil_or_concat out with e | ⟨a, b, e⟩
  · subst e; rw [List.append_nil]; exact hh
  · subst e
    rw [List.concat_eq_append, ← List.append_assoc, lastHour_end]
    rw [h b (by simp)]; exact Int.le_refl _
theorem Outs.put {l out : List Post} {hour : Int} (h : Outs l out hour) (hh : lastHour l ≤ hour) (hlen : l.length + out.length + 1 ≤ 400) {p : Post} (hp : p.id = maxId l + out.length + 1) (hph : p.hour = hour) (hok : okP p = true)
    (ht : refusedTail (l ++ out) p = 0) : Outs l (out ++ [p]) hour := by
  have hr : refused (l ++ out) p = 0 := by
    rw [refused_tail (by rw [List.length_append]; omega) hok ?_ ?_]
    · exact ht
    · rw [Bool.eq_false_iff]
      intro hc
      rw [List.any_eq_true] at hc
      obtain ⟨q, hq, he⟩ := hc
      rw [beq_iff_eq] at he
      rcases List.mem_append.1 hq with h1 | h1
      · have := maxI_ge (List.mem_map_of_mem (f := (·.id)) h1)
        unfold maxId at hp; omega
      · have := h.id q h1; omega
    · rintro ⟨_, h2⟩
      have := lastHour_outs hh h.hr; omega
  refine ⟨by rw [← List.append_assoc]; exact Book.app h.book hr, fun q hq => ?_, fun q hq => ?_⟩
  · rcases List.mem_append.1 hq with h1 | h1
    · exact h.hr q h1
    · rw [List.mem_singleton.1 h1]; exact hph
  · rw [List.length_append, List.length_singleton]
    rcases List.mem_append.1 hq with h1 | h1
    · have := h.id q h1; omega
    · rw [List.mem_singleton.1 h1]; omega
theorem inB_of {n a b : Int} (h1 : a ≤ n) (h2 : n ≤ b) : inB n a b = true := by simp [inB, h1, h2]
theorem okP_mk {id hour k : Int} {x : Due} {y : Cause} (hid : 1 ≤ id ∧ id ≤ 1000000) (hh : 0 ≤ hour ∧ hour ≤ 1000000) (hk : k = 2 ∨ k = 3) (hy : okC y = true) (hyk : y.known ≤ hour) (hyp : y.parcel = x.parcel) (hx : DueIn x) : okP (mkP id hour k x y) = true := by
  obtain ⟨h1, h2, h3, h4⟩ := hx
  simp only [okC, inB, Bool.and_eq_true, decide_eq_true_eq] at hy
  have e1 : inB id 1 1000000 = true := inB_of hid.1 hid.2
  have e2 : inB y.reason 1 1000000 = true := inB_of hy.1.2.1 hy.1.2.2
  have e3 : inB hour 0 1000000 = true := inB_of hh.1 hh.2
  have e4 : inB y.known 0 hour = true := inB_of hy.2.1 hyk
  have e5 : inB x.parcel 10 10000007 = true := by rw [← hyp]; exact inB_of hy.1.1.1 hy.1.1.2
  have e6 : inB x.amount 1 1000000000 = true := inB_of h3 h4
  have e7 : inB k 1 3 = true := inB_of (by omega) (by omega)
  have e8 : inB x.party 0 40 = true := inB_of h1 h2
  have e9 : (k == 1) = false := by simp; omega
  simp only [okP, mkP, e1, e2, e3, e4, e5, e6, e7, e8, e9, Bool.false_and, Bool.not_false, Bool.and_self]
theorem causeH_some {cs : List Cause} {hour what : Int} {y : Cause} (h : causeH cs hour what = some y) : y ∈ cs ∧ y.parcel = what ∧ y.known ≤ hour := by
  unfold causeH at h
  have h1 := List.mem_of_find?_eq_some h
  have h2 := List.find?_some h
  simp only [wantC, Bool.and_eq_true, beq_iff_eq, decide_eq_true_eq] at h2
  exact ⟨h1, h2.1, h2.2⟩
end Go.Proofs.YtoijlikmigejbaaGreat
