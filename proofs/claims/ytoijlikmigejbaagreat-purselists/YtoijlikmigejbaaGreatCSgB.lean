/- The two phases of Settle, in plain Lean. -/
import Derived.Test.YtoijlikmigejbaaGreatCSgA
namespace Go.Proofs.YtoijlikmigejbaaGreat
open Go.Proofs.YtoijlikmigejbaaGreat.Pu

/-- what Settle stands on -/
structure SetOk (l : List Post) (d : List Due) (cs : List Cause) (hour : Int) : Prop where
  book : Book l
  hrs : 0 ≤ hour ∧ hour ≤ 1000000
  dues : chkL okD ltD d = 0
  causes : chkL okC ltC cs = 0
  late : lastHour l ≤ hour
  len : l.length + (settleOut l d cs hour).length ≤ 400
  ids : 0 < (settleOut l d cs hour).length → maxId l + (settleOut l d cs hour).length ≤ 1000000
theorem setOk_of {l : List Post} {d : List Due} {cs : List Cause} {hour : Int} (h : settleCode l d cs hour = 0) : SetOk l d cs hour := by
  by_cases h1 : (check l).2 = 0
  case neg => rw [code1 h1] at h; exact absurd h h1
  by_cases h2 : inB hour 0 1000000 = true
  case neg => rw [code2 h1 (by simpa using h2)] at h; omega
  by_cases h3 : chkL okD ltD d = 0
  case neg => rw [code3 h1 h2 h3] at h; exact absurd h h3
  by_cases h4 : chkL okC ltC cs = 0
  case neg => rw [code4 h1 h2 h3 h4] at h; exact absurd h h4
  by_cases h5 : hour < lastHour l
  case pos => rw [code5 h1 h2 h3 h4 h5] at h; omega
  rw [code6 h1 h2 h3 h4 h5] at h
  split at h
  · omega
  · rename_i h6
    have h2' := h2
    simp only [inB, Bool.and_eq_true, decide_eq_true_eq] at h2'
    exact ⟨book_of_check h1, h2', h3, h4, by omega, by omega, fun h0 => by omega⟩
theorem code_of_setOk {l : List Post} {d : List Due} {cs : List Cause} {hour : Int} (h : SetOk l d cs hour) : settleCode l d cs hour = 0 := by
  have h1 : (check l).2 = 0 := by rw [check_book h.book]
  have h2 : inB hour 0 1000000 = true := inB_of h.hrs.1 h.hrs.2
  rw [code6 h1 h2 h.dues h.causes (by have := h.late; omega), if_neg]
  have := h.len
  have := h.ids
  omega

section
variable {l : List Post} {d : List Due} {cs : List Cause} {hour : Int}
/-- whether it is taken back -/
def backOn (l : List Post) (cs : List Cause) (hour : Int) (x : Due) : Bool := match causeH cs hour x.parcel with
  | some y => decide (lastK l x < y.known)
  | none => false
theorem backStep_off {out : List Post} {x : Due} (h : backOn l cs hour x = false) : backStep l cs hour out x = out := by
  unfold backOn at h
  unfold backStep
  cases hc : causeH cs hour x.parcel with
  | none => rfl
  | some y => rw [hc] at h; simp only [decide_eq_false_iff_not] at h; simp only; rw [if_neg h]
theorem backStep_on {out : List Post} {x : Due} (h : backOn l cs hour x = true) : ∃ y, causeH cs hour x.parcel = some y ∧ lastK l x < y.known ∧ backStep l cs hour out x = out ++ [mkP (maxId l + out.length + 1) hour 3 x y] := by
  unfold backOn at h
  unfold backStep
  cases hc : causeH cs hour x.parcel with
  | none => rw [hc] at h; cases h
  | some y => rw [hc] at h; simp only [decide_eq_true_eq] at h; exact ⟨y, rfl, h, by simp only; rw [if_pos h]⟩
theorem backStep_len (out : List Post) (x : Due) : out.length ≤ (backStep l cs hour out x).length := by
  unfold backStep; split
  · split <;> simp
  · exact Nat.le_refl _
theorem payStep_len (out : List Post) (x : Due) : out.length ≤ (payStep l cs hour out x).length := by
  unfold payStep; split
  · split <;> simp
  · exact Nat.le_refl _
theorem foldl_len {β : Type} {f : List Post → β → List Post} (h : ∀ o x, o.length ≤ (f o x).length) : ∀ (L : List β) (o : List Post), o.length ≤ (L.foldl f o).length
  | [], _ => Nat.le_refl _
  | x :: r, o => Nat.le_trans (h o x) (foldl_len h r (f o x))
theorem sold_pos {m : List Post} (h : Book m) {who : Int} (what : Int) (hw : 0 ≤ who ∧ who ≤ 40) (hh : 0 < Pu.has m who what) : Pu.sold m what ≠ 0 := by
  obtain ⟨a1, a2, a3, a4⟩ := Book.sp h what
  have := hasUpto_ge a4 who.toNat 41 (by omega)
  rw [show ((who.toNat : Nat) : Int) = who by omega] at this
  unfold Pu.held at a1; omega
theorem sold_held {m : List Post} (h : Book m) (what : Int) (hh : 0 < Pu.held m what) : Pu.sold m what ≠ 0 := by
  obtain ⟨a1, a2, a3, a4⟩ := Book.sp h what
  have h1 := hasUpto_ge a4 0 41 (by omega)
  have h2 := a4 ((0 : Nat) : Int)
  unfold Pu.held at hh; omega
theorem okC_mem (h : chkL okC ltC cs = 0) {y : Cause} (hy : y ∈ cs) : okC y = true := chkL_ok h y hy
theorem okD_mem (h : chkL okD ltD d = 0) {x : Due} (hx : x ∈ d) : 0 ≤ x.party ∧ x.party ≤ 40 ∧ 0 ≤ x.amount ∧ x.amount ≤ 1000000000 := by
  have := chkL_ok h x hx
  simp only [okD, inB, Bool.and_eq_true, decide_eq_true_eq] at this
  omega

/-- what is had behind the taking back of L -/
structure BInv (l : List Post) (cs : List Cause) (hour : Int) (out : List Post) (L : List Due) : Prop where
  outs : Outs l out hour
  kind : ∀ q ∈ out, q.kind = 3
  has : ∀ who what, Pu.has (l ++ out) who what = Pu.has l who what - takes (backOn l cs hour) L who what
theorem last_kept {m : List Post} : ∀ {out : List Post}, (∀ q ∈ out, q.kind = 3) → ∀ who what, Pu.last (m ++ out) who what = Pu.last m who what := fun {out} h who what => by
  rw [last_append]
  have : ∀ o : List Post, (∀ q ∈ o, q.kind = 3) → Pu.last o who what = none := fun o => by
    induction o with
    | nil => intro _; rfl
    | cons q r ih =>
      intro h
      rw [Pu.last, ih fun z hz => h z (List.mem_cons_of_mem _ hz)]
      have : q.kind = 3 := h q (List.mem_cons_self ..)
      simp [isPay, this]
  rw [this out h]; rfl
theorem BInv.step {out : List Post} {L R : List Due} {x : Due} (hok : SetOk l d cs hour) (h : BInv l cs hour out L) (hL : L ++ x :: R = overL l d) (hlen : l.length + (backStep l cs hour out x).length ≤ 400)
    (hids : 0 < (backStep l cs hour out x).length → maxId l + (backStep l cs hour out x).length ≤ 1000000) : BInv l cs hour (backStep l cs hour out x) (L ++ [x]) := by
  cases hon : backOn l cs hour x with
  | false =>
    rw [backStep_off hon]
    exact ⟨h.outs, h.kind, fun who what => by rw [h.has, takes_snoc, hon, if_neg (by simp)]; omega⟩
  | true =>
    obtain ⟨y, hy1, hy2, hb⟩ := backStep_on (out := out) hon
    rw [hb] at hlen hids ⊢
    rw [List.length_append, List.length_singleton] at hlen hids
    have hx : x ∈ overL l d := by rw [← hL]; simp
    have hin := overL_in hok.book (okD_amount hok.dues) x hx
    obtain ⟨ha, ha0⟩ := mem_over hx
    have hst := strict_over l d
    rw [← hL, List.pairwise_append] at hst
    have ht : takes (backOn l cs hour) L x.party x.parcel = 0 := takes_zero fun z hz _ hc => ltDu_ne (hst.2.2 z hz x (List.mem_cons_self ..)) hc
    have hhas := h.has x.party x.parcel
    rw [ht] at hhas
    obtain ⟨c1, c2, c3⟩ := causeH_some hy1
    have hG := (amts_bd (okD_amount hok.dues) (x.parcel, x.party)).1
    have hm := maxI_nn (l.map (·.id))
    have hp : okP (mkP (maxId l + out.length + 1) hour 3 x y) = true :=
      okP_mk ⟨by unfold maxId; omega, by have := hids (by omega); omega⟩ hok.hrs (.inr rfl) (okC_mem hok.causes c1) c3 c2 hin
    have hl : Pu.last (l ++ out) x.party x.parcel = Pu.last l x.party x.parcel := last_kept h.kind _ _
    have htail : refusedTail (l ++ out) (mkP (maxId l + out.length + 1) hour 3 x y) = 0 := by
      unfold refusedTail
      rw [if_neg (by simp [mkP]), if_neg (sold_pos h.outs.book (who := x.party) _ ⟨hin.1, hin.2.1⟩ (by show 0 < Pu.has (l ++ out) x.party x.parcel; omega)), if_neg (by simp [mkP]), if_neg (by show ¬ Pu.has (l ++ out) x.party x.parcel < x.amount; omega), if_neg ?_]
      show ¬ y.known ≤ ((Pu.last (l ++ out) x.party x.parcel).getD zeroP).known
      rw [hl]; unfold lastK at hy2; omega
    refine ⟨h.outs.put hok.late (by omega) rfl rfl hp htail, fun q hq => ?_, fun who what => ?_⟩
    · rcases List.mem_append.1 hq with h1 | h1
      · exact h.kind q h1
      · rw [List.mem_singleton.1 h1]; rfl
    · rw [← List.append_assoc, has_app, h.has, takes_snoc, hon]
      unfold hasOf mkP
      dsimp only
      by_cases hc : x.party = who ∧ x.parcel = what
      · rw [if_pos hc, if_neg (by omega), if_pos rfl, if_pos ⟨rfl, hc.1, hc.2⟩]; omega
      · rw [if_neg hc, if_neg (fun e => hc e.2)]; omega
theorem BInv.all (hok : SetOk l d cs hour) : ∀ (R L : List Due) (out : List Post), L ++ R = overL l d → BInv l cs hour out L → l.length + (R.foldl (backStep l cs hour) out).length ≤ 400 →
    (0 < (R.foldl (backStep l cs hour) out).length → maxId l + (R.foldl (backStep l cs hour) out).length ≤ 1000000) → BInv l cs hour (R.foldl (backStep l cs hour) out) (L ++ R)
  | [], L, out, _, h, _, _ => by rw [List.append_nil]; exact h
  | x :: R, L, out, hL, h, h1, h2 => by
    rw [List.foldl_cons] at h1 h2 ⊢
    have hm := foldl_len (f := backStep l cs hour) backStep_len R (backStep l cs hour out x)
    have h3 := BInv.step hok h hL (by omega) (fun h0 => by have := h2 (by omega); omega)
    have := BInv.all hok R (L ++ [x]) _ (by rw [← hL]; simp) h3 h1 h2
    rwa [List.append_assoc] at this
end
end Go.Proofs.YtoijlikmigejbaaGreat
