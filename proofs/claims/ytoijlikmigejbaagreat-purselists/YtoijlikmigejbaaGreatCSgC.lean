/- The paying phase of Settle, and what stands behind it, in plain Lean. -/
import Derived.Test.YtoijlikmigejbaaGreatCSgB
namespace Go.Proofs.YtoijlikmigejbaaGreat
open Go.Proofs.YtoijlikmigejbaaGreat.Pu

section
variable {l : List Post} {d : List Due} {cs : List Cause} {hour : Int}
theorem payStep_off {out : List Post} {x : Due} (h : ∀ y, causeH cs hour x.parcel = some y → ¬ 0 < min x.amount (Pu.held (l ++ out) x.parcel)) : payStep l cs hour out x = out := by
  unfold payStep
  cases hc : causeH cs hour x.parcel with
  | none => rfl
  | some y => simp only; rw [if_neg (h y hc)]
theorem payStep_on {out : List Post} {x : Due} {y : Cause} (h : causeH cs hour x.parcel = some y) (h0 : 0 < min x.amount (Pu.held (l ++ out) x.parcel)) :
    payStep l cs hour out x = out ++ [mkP (maxId l + out.length + 1) hour 2 { x with amount := min x.amount (Pu.held (l ++ out) x.parcel) } y] := by
  unfold payStep; rw [h]; simp only; rw [if_pos h0]

/-- what is had behind the paying of P; o1: what was taken back -/
structure PInv (l : List Post) (cs : List Cause) (hour : Int) (o1 out : List Post) (P : List Due) : Prop where
  outs : Outs l out hour
  ge : ∀ who what, Pu.has (l ++ o1) who what ≤ Pu.has (l ++ out) who what
  le : ∀ who what, Pu.has (l ++ out) who what = Pu.has (l ++ o1) who what ∨ ∃ x ∈ P, x.party = who ∧ x.parcel = what ∧ Pu.has (l ++ out) who what - Pu.has (l ++ o1) who what ≤ x.amount
  last : ∀ who what, Pu.has (l ++ out) who what = Pu.has (l ++ o1) who what → Pu.last (l ++ out) who what = Pu.last (l ++ o1) who what
  done : ∀ x ∈ P, (causeH cs hour x.parcel).isSome = true → Pu.has (l ++ out) x.party x.parcel - Pu.has (l ++ o1) x.party x.parcel = x.amount ∨ Pu.held (l ++ out) x.parcel = 0
theorem PInv.step {o1 out : List Post} {P R : List Due} {x : Due} (hok : SetOk l d cs hour) (h : PInv l cs hour o1 out P) (hP : P ++ x :: R = openL l d) (hlen : l.length + (payStep l cs hour out x).length ≤ 400)
    (hids : 0 < (payStep l cs hour out x).length → maxId l + (payStep l cs hour out x).length ≤ 1000000) : PInv l cs hour o1 (payStep l cs hour out x) (P ++ [x]) := by
  have hx : x ∈ openL l d := by rw [← hP]; simp
  have hin := openL_in hok.book (fun y hy => okD_mem hok.dues hy) x hx
  have hst := strict_open (l := l) (chkL_pair hok.dues)
  rw [← hP, List.pairwise_append] at hst
  have hne : ∀ z ∈ P, ¬ (z.party = x.party ∧ z.parcel = x.parcel) := fun z hz => ltDu_ne (hst.2.2 z hz x (List.mem_cons_self ..))
  have hsame : Pu.has (l ++ out) x.party x.parcel = Pu.has (l ++ o1) x.party x.parcel := by
    rcases h.le x.party x.parcel with e | ⟨z, hz, e1, e2, _⟩
    · exact e
    · exact absurd ⟨e1, e2⟩ (hne z hz)
  have hheld := (Book.sp h.outs.book x.parcel).1
  by_cases hon : ∃ y, causeH cs hour x.parcel = some y ∧ 0 < min x.amount (Pu.held (l ++ out) x.parcel)
  case neg =>
    have hoff : payStep l cs hour out x = out := payStep_off fun y hy h0 => hon ⟨y, hy, h0⟩
    rw [hoff]
    refine ⟨h.outs, h.ge, fun who what => ?_, h.last, fun z hz hs => ?_⟩
    · rcases h.le who what with e | ⟨z, hz, e⟩
      · exact .inl e
      · exact .inr ⟨z, List.mem_append_left _ hz, e⟩
    · rcases List.mem_append.1 hz with h1 | h1
      · exact h.done z h1 hs
      · rw [List.mem_singleton.1 h1] at hs ⊢
        right
        obtain ⟨y, hy⟩ := Option.isSome_iff_exists.1 hs
        have h2 : ¬ 0 < min x.amount (Pu.held (l ++ out) x.parcel) := fun h0 => hon ⟨y, hy, h0⟩
        have := hin.2.2.1
        omega
  case pos =>
    obtain ⟨y, hy, h0⟩ := hon
    rw [payStep_on hy h0] at hlen hids ⊢
    rw [List.length_append, List.length_singleton] at hlen hids
    obtain ⟨m, hm⟩ : ∃ m, min x.amount (Pu.held (l ++ out) x.parcel) = m := ⟨_, rfl⟩
    have hm1 : m ≤ x.amount := by omega
    have hm2 : m ≤ Pu.held (l ++ out) x.parcel := by omega
    have hm3 : m = x.amount ∨ m = Pu.held (l ++ out) x.parcel := by omega
    rw [hm] at h0
    rw [hm]
    clear hm
    obtain ⟨c1, c2, c3⟩ := causeH_some hy
    have hmx := maxI_nn (l.map (·.id))
    obtain ⟨id, hid⟩ : ∃ id, maxId l + (out.length : Int) + 1 = id := ⟨_, rfl⟩
    have hin' : DueIn { x with amount := m } := ⟨hin.1, hin.2.1, by show 1 ≤ m; omega, by have := hin.2.2.2; show m ≤ 1000000000; omega⟩
    have hp : okP (mkP id hour 2 { x with amount := m } y) = true :=
      okP_mk ⟨by unfold maxId at hid; omega, by have := hids (by omega); omega⟩ hok.hrs (.inl rfl) (okC_mem hok.causes c1) c3 c2 hin'
    have htail : refusedTail (l ++ out) (mkP id hour 2 { x with amount := m } y) = 0 := by
      unfold refusedTail
      rw [if_neg (by simp [mkP]), if_neg (sold_held h.outs.book _ (by show 0 < Pu.held (l ++ out) x.parcel; omega)), if_pos (by simp [mkP]), if_neg (by show ¬ Pu.held (l ++ out) x.parcel < m; omega)]
    have hhas : ∀ who what, Pu.has (l ++ (out ++ [mkP id hour 2 { x with amount := m } y])) who what = Pu.has (l ++ out) who what + if x.party = who ∧ x.parcel = what then m else 0 := fun who what => by
      rw [← List.append_assoc, has_app]
      unfold hasOf mkP
      dsimp only
      by_cases hc : x.party = who ∧ x.parcel = what
      · rw [if_pos hc, if_pos rfl, if_pos hc]
      · rw [if_neg hc, if_neg hc]
    have hhe : ∀ z, Pu.held (l ++ (out ++ [mkP id hour 2 { x with amount := m } y])) z = if z = x.parcel then Pu.held (l ++ out) x.parcel - m else Pu.held (l ++ out) z := fun z => by
      rw [← List.append_assoc]
      exact held_pay (x := { x with amount := m }) ⟨hin.1, hin.2.1⟩ z
    rw [hid]
    refine ⟨h.outs.put hok.late (by omega) (by show id = _; omega) rfl hp htail, fun who what => ?_, fun who what => ?_, fun who what he => ?_, fun z hz hs => ?_⟩
    · rw [hhas]; have := h.ge who what; split <;> omega
    · rw [hhas]
      by_cases hc : x.party = who ∧ x.parcel = what
      · rw [if_pos hc]
        obtain ⟨rfl, rfl⟩ := hc
        exact .inr ⟨x, by simp, rfl, rfl, by omega⟩
      · rw [if_neg hc]
        rcases h.le who what with e | ⟨z, hz, e1, e2, e3⟩
        · exact .inl (by omega)
        · exact .inr ⟨z, List.mem_append_left _ hz, e1, e2, by omega⟩
    · rw [hhas] at he
      by_cases hc : x.party = who ∧ x.parcel = what
      · rw [if_pos hc] at he
        have := h.ge who what
        omega
      · rw [if_neg hc] at he
        rw [← List.append_assoc, last_app, if_neg]
        · exact h.last who what (by omega)
        · simp only [isPay, mkP, Bool.and_eq_true, beq_iff_eq]
          rintro ⟨⟨_, e1⟩, e2⟩
          exact hc ⟨e1, e2⟩
    · rw [hhas, hhe]
      rcases List.mem_append.1 hz with h1 | h1
      · rw [if_neg (fun hc => hne z h1 ⟨hc.1.symm, hc.2.symm⟩)]
        rcases h.done z h1 hs with e | e
        · exact .inl (by omega)
        · right
          by_cases hc : z.parcel = x.parcel
          · rw [hc] at e; omega
          · rw [if_neg hc]; exact e
      · rw [List.mem_singleton.1 h1, if_pos ⟨rfl, rfl⟩, if_pos rfl]
        rcases hm3 with e | e
        · exact .inl (by omega)
        · exact .inr (by omega)
theorem PInv.all {o1 : List Post} (hok : SetOk l d cs hour) : ∀ (R P : List Due) (out : List Post), P ++ R = openL l d → PInv l cs hour o1 out P → l.length + (R.foldl (payStep l cs hour) out).length ≤ 400 →
    (0 < (R.foldl (payStep l cs hour) out).length → maxId l + (R.foldl (payStep l cs hour) out).length ≤ 1000000) → PInv l cs hour o1 (R.foldl (payStep l cs hour) out) (P ++ R)
  | [], P, out, _, h, _, _ => by rw [List.append_nil]; exact h
  | x :: R, P, out, hP, h, h1, h2 => by
    rw [List.foldl_cons] at h1 h2 ⊢
    have hm := foldl_len (f := payStep l cs hour) payStep_len R (payStep l cs hour out x)
    have h3 := PInv.step hok h hP (by omega) (fun h0 => by have := h2 (by omega); omega)
    have := PInv.all hok R (P ++ [x]) _ (by rw [← hP]; simp) h3 h1 h2
    rwa [List.append_assoc] at this

/-- what is appended in the first phase -/
def backs (l : List Post) (d : List Due) (cs : List Cause) (hour : Int) : List Post := (overL l d).foldl (backStep l cs hour) []
theorem settle_parts (hok : SetOk l d cs hour) : BInv l cs hour (backs l d cs hour) (overL l d) ∧ PInv l cs hour (backs l d cs hour) (settleOut l d cs hour) (openL l d) := by
  have hm := foldl_len (f := payStep l cs hour) payStep_len (openL l d) (backs l d cs hour)
  have h1 := hok.len
  have h2 := hok.ids
  have e : settleOut l d cs hour = (openL l d).foldl (payStep l cs hour) (backs l d cs hour) := rfl
  rw [e] at h1 h2 ⊢
  have hb0 : BInv l cs hour [] [] := ⟨⟨by rw [List.append_nil]; exact hok.book, fun q hq => by simp at hq, fun q hq => by simp at hq⟩, fun q hq => by simp at hq, fun who what => by rw [List.append_nil, takes_nil]; omega⟩
  have hb := BInv.all hok (overL l d) [] [] rfl hb0 (by show l.length + (backs l d cs hour).length ≤ 400; omega) (fun h0 => by have h0 : 0 < (backs l d cs hour).length := h0; have := h2 (by omega); show maxId l + ((backs l d cs hour).length : Int) ≤ 1000000; omega)
  refine ⟨hb, ?_⟩
  have hp0 : PInv l cs hour (backs l d cs hour) (backs l d cs hour) [] := ⟨hb.outs, fun _ _ => Int.le_refl _, fun _ _ => .inl rfl, fun _ _ _ => rfl, fun x hx => by simp at hx⟩
  exact PInv.all hok (openL l d) [] _ rfl hp0 h1 h2

/-- nobody has too much who had not; and of that nothing is taken back -/
theorem over_after (hok : SetOk l d cs hour) {z : Due} (hz : z ∈ overL (l ++ settleOut l d cs hour) d) : z ∈ overL l d ∧ backOn (l ++ settleOut l d cs hour) cs hour z = false := by
  obtain ⟨hb, hp⟩ := settle_parts hok
  obtain ⟨out, ho⟩ : ∃ out, settleOut l d cs hour = out := ⟨_, rfl⟩
  obtain ⟨o1, ho1⟩ : ∃ o1, backs l d cs hour = o1 := ⟨_, rfl⟩
  rw [ho, ho1] at hp
  rw [ho1] at hb
  rw [ho] at hz ⊢
  have hdp := chkL_pair hok.dues
  obtain ⟨⟨what, who⟩, hacc, he⟩ := List.mem_filterMap.1 hz
  rw [mem_accL] at hacc
  unfold overD at he
  split at he
  case isFalse => cases he
  rename_i h0
  cases he
  dsimp only at h0
  have hG := amts_bd (okD_amount hok.dues) (what, who)
  have e1 := hb.has who what
  have hT := takes_cases (backOn l cs hour) (strict_over l d) who what
  have hge := hp.ge who what
  -- nothing is paid
  have hD : Pu.has (l ++ out) who what = Pu.has (l ++ o1) who what := by
    rcases hp.le who what with e | ⟨x, hx, x1, x2, x3⟩
    · exact e
    · exfalso
      obtain ⟨e, hed, rfl, h2⟩ := mem_open.1 hx
      have h3 := amts_get hdp hed
      dsimp only at x1 x2 x3
      rw [x1, x2] at h3 x3 h2
      rcases hT with hT | ⟨y, hy, _, y1, y2, hT⟩
      · omega
      · have := (mem_over hy).2; omega
  have hT0 : takes (backOn l cs hour) (overL l d) who what = 0 := by
    rcases hT with hT | ⟨y, hy, _, y1, y2, hT⟩
    · exact hT
    · exfalso
      have h2 := (mem_over hy).1
      rw [y1, y2] at h2
      omega
  have hsame : Pu.has (l ++ out) who what = Pu.has l who what := by omega
  have hmem : (⟨who, what, Pu.has (l ++ out) who what - gd (amtsM d) (what, who)⟩ : Due) ∈ overL l d := by
    refine List.mem_filterMap.2 ⟨(what, who), (mem_accL what who).2 ⟨has_parcel (y := who) (by omega), hacc.2.1, hacc.2.2.1, by omega⟩, ?_⟩
    unfold overD
    dsimp only
    rw [if_pos (by omega), hsame]
  refine ⟨hmem, ?_⟩
  have hoff : backOn l cs hour ⟨who, what, Pu.has (l ++ out) who what - gd (amtsM d) (what, who)⟩ = false := by
    rw [Bool.eq_false_iff]
    intro hon
    have := takes_one (strict_over l d) hmem hon rfl rfl
    dsimp only at this
    omega
  have hlast : lastK (l ++ out) ⟨who, what, Pu.has (l ++ out) who what - gd (amtsM d) (what, who)⟩ = lastK l ⟨who, what, Pu.has (l ++ out) who what - gd (amtsM d) (what, who)⟩ := by
    unfold lastK
    dsimp only
    rw [hp.last who what hD, last_kept hb.kind]
  unfold backOn at hoff ⊢
  rw [hlast]
  exact hoff
theorem foldl_id {β : Type} {f : List Post → β → List Post} : ∀ (L : List β), (∀ x ∈ L, f [] x = []) → L.foldl f [] = []
  | [], _ => rfl
  | x :: r, h => by rw [List.foldl_cons, h x (List.mem_cons_self ..)]; exact foldl_id r fun y hy => h y (List.mem_cons_of_mem _ hy)
/-- settling again does nothing -/
theorem settle_again (hok : SetOk l d cs hour) : settleOut (l ++ settleOut l d cs hour) d cs hour = [] ∧ settleCode (l ++ settleOut l d cs hour) d cs hour = 0 := by
  have h1 : settleOut (l ++ settleOut l d cs hour) d cs hour = [] := by
    have hback : (overL (l ++ settleOut l d cs hour) d).foldl (backStep (l ++ settleOut l d cs hour) cs hour) [] = [] := foldl_id _ fun z hz => backStep_off (over_after hok hz).2
    obtain ⟨hb, hp⟩ := settle_parts hok
    unfold settleOut at hback ⊢
    rw [hback]
    change ((openL (l ++ settleOut l d cs hour) d).foldl (payStep (l ++ settleOut l d cs hour) cs hour) []) = []
    clear hback
    obtain ⟨out, ho⟩ : ∃ out, settleOut l d cs hour = out := ⟨_, rfl⟩
    obtain ⟨o1, ho1⟩ : ∃ o1, backs l d cs hour = o1 := ⟨_, rfl⟩
    rw [ho, ho1] at hp
    rw [ho1] at hb
    rw [ho]
    refine foldl_id _ fun x hx => payStep_off fun y hy h0 => ?_
    obtain ⟨e, hed, rfl, h2⟩ := mem_open.1 hx
    dsimp only at hy h0
    rw [List.append_nil] at h0
    have h3 := amts_get (chkL_pair hok.dues) hed
    have hG := amts_bd (okD_amount hok.dues) (e.parcel, e.party)
    have e1 := hb.has e.party e.parcel
    have hT := takes_cases (backOn l cs hour) (strict_over l d) e.party e.parcel
    have hge := hp.ge e.party e.parcel
    have hT0 : takes (backOn l cs hour) (overL l d) e.party e.parcel = 0 := by
      rcases hT with hT | ⟨y, hy, _, y1, y2, hT⟩
      · exact hT
      · exfalso
        have h4 := (mem_over hy).1
        have h5 := (mem_over hy).2
        rw [y1, y2] at h4
        omega
    have hlt : 0 < e.amount - Pu.has l e.party e.parcel := by omega
    have hdone := hp.done _ (mem_open.2 ⟨e, hed, rfl, hlt⟩) (by show (causeH cs hour e.parcel).isSome = true; rw [hy]; rfl)
    dsimp only at hdone
    rcases hdone with h4 | h4
    · omega
    · rw [h4] at h0; omega
  refine ⟨h1, code_of_setOk ⟨(settle_parts hok).2.outs.book, hok.hrs, hok.dues, hok.causes, lastHour_outs hok.late (settle_parts hok).2.outs.hr, ?_, ?_⟩⟩
  · rw [h1]; have := hok.len; simp; omega
  · rw [h1]; intro h0; simp at h0
/-- each that is appended can be -/
theorem settle_app (hok : SetOk l d cs hour) {i : Nat} {p : Post} (hp : (settleOut l d cs hour)[i]? = some p) : appCode (l ++ (settleOut l d cs hour).take i) p = 0 ∧ appQ (l ++ (settleOut l d cs hour).take i) p = l ++ (settleOut l d cs hour).take (i + 1) ∧ p.hour = hour ∧ Book (l ++ settleOut l d cs hour) := by
  have ho := (settle_parts hok).2.outs
  obtain ⟨out, he⟩ : ∃ out, settleOut l d cs hour = out := ⟨_, rfl⟩
  rw [he] at ho hp ⊢
  have hi := (List.getElem?_eq_some_iff.1 hp).1
  have e1 : (l ++ out).take (l.length + i) = l ++ out.take i := by rw [List.take_append, List.take_of_length_le (by omega)]; congr 2; omega
  have hbk : Book (l ++ out.take i) := by rw [← e1]; exact Book.take ho.book _
  have hr := ho.book (l.length + i) p (by rw [List.getElem?_append_right (by omega)]; rw [show l.length + i - l.length = i by omega]; exact hp)
  rw [e1] at hr
  have hc : appCode (l ++ out.take i) p = 0 := by rw [appCode_book hbk]; exact hr
  refine ⟨hc, ?_, ho.hr p (List.mem_of_getElem? hp), ho.book⟩
  unfold appQ
  rw [if_pos hc, take_snoc hp, List.append_assoc]
end
end Go.Proofs.YtoijlikmigejbaaGreat
