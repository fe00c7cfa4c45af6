/- Walk: the reference's Settle. -/
import Derived.Test.YtoijlikmigejbaaGreatCRgD
import Derived.Test.YtoijlikmigejbaaGreatCRgE
import Derived.Test.YtoijlikmigejbaaGreatCMemA
import Derived.Deep.CutRange
import Derived.Test.YtoijlikmigejbaaGreatG01
namespace Go.Proofs.YtoijlikmigejbaaGreat
open Go.RowKit Go.Proofs.YtoijlikmigejbaaGreat.Pu

/-- the reference's answer -/
def RSet (l : List Post) (d : List Due) (cs : List Cause) (hour : Int) (w : World) (e : Ending) (w' : World) : Prop :=
  Below w.heap.size w w' ∧ ∃ ao m cap, e = .returned (.tuple #[.slice ao m cap, .int .i64 (settleCode l d cs hour)]) ∧ m = (settleQ l d cs hour).length ∧ SlAt 8 pcells w'.heap.size w' ao (settleQ l d cs hour)
theorem RSet.no {l : List Post} {d : List Due} {cs : List Cause} {hour x : Int} {w w' : World} (hB : Below w.heap.size w w') (hx : settleCode l d cs hour = x) (h0 : x ≠ 0) : RSet l d cs hour w (.returned (.tuple #[.slice none 0 0, .int .i64 x])) w' := by
  have e : settleQ l d cs hour = [] := by unfold settleQ; rw [if_neg (by rw [hx]; exact h0)]
  exact ⟨hB, none, 0, 0, by rw [hx], by rw [e]; rfl, by rw [e]; exact .inl rfl⟩

theorem ids_bd {l : List Post} (h : Book l) : ∀ p ∈ l, 1 ≤ p.id ∧ p.id ≤ 1000000 := fun p hp => by
  obtain ⟨k, hk, rfl⟩ := List.getElem_of_mem hp
  have := (refused_ok (h k _ (List.getElem?_eq_getElem hk))).1
  simp only [okP, inB, Bool.and_eq_true, decide_eq_true_eq] at this
  omega
theorem maxId_bd {l : List Post} (h : ∀ p ∈ l, 1 ≤ p.id ∧ p.id ≤ 1000000) : 0 ≤ maxId l ∧ maxId l ≤ 1000000 :=
  maxI_bd (by omega) fun x hx => by
    obtain ⟨p, hp, rfl⟩ := List.mem_map.1 hx
    exact (h p hp).2
theorem maxId_step {l : List Post} {j : Nat} {p : Post} (h : l[j]? = some p) (hp : 0 ≤ p.id) : maxId (l.take (j + 1)) = max (maxId (l.take j)) p.id := by
  rw [take_snoc h]; unfold maxId; rw [List.map_append]; exact maxI_app _ _ hp
theorem lastHour_get {l : List Post} {k : Nat} {p : Post} (h : l[k]? = some p) (hk : l.length = k + 1) : lastHour l = p.hour := by
  unfold lastHour
  rw [List.getLast?_eq_getElem?, hk, Nat.add_sub_cancel, h]

/-- how the reference takes back -/
theorem backStep_ref {l : List Post} {cs : List Cause} {hour : Int} (h : cs.Pairwise (fun a b => a.parcel < b.parcel)) (out : List Post) (x : Due) {yv : Cause} {is b1 b2 : Bool} {q : Option Post} (e1 : (causeP cs x.parcel).getD zeroC = yv) (e2 : (causeP cs x.parcel).isSome = is)
    (e3 : decide (yv.known ≤ hour) = b1) (e4 : Pu.last l x.party x.parcel = q) (e5 : decide ((q.getD zeroP).known < yv.known) = b2) :
    backStep l cs hour out x = if is = true ∧ b1 = true ∧ b2 = true then out ++ [mkP (maxId l + out.length + 1) hour 3 x yv] else out := by
  subst e1 e2 e3 e4 e5
  unfold backStep lastK
  rw [causeH_eq _ _ h]
  cases causeP cs x.parcel with
  | none => simp
  | some y =>
    simp only [Option.getD_some, Option.isSome_some, decide_eq_true_eq, true_and]
    by_cases h1 : y.known ≤ hour
    · rw [if_pos h1]
      by_cases h2 : ((Pu.last l x.party x.parcel).getD zeroP).known < y.known
      · simp only; rw [if_pos h2, if_pos ⟨h1, h2⟩]
      · simp only; rw [if_neg h2, if_neg (fun h => h2 h.2)]
    · rw [if_neg h1, if_neg (fun h => h1 h.1)]
/-- how the reference pays -/
theorem payR_ref {l : List Post} {cs : List Cause} {hour : Int} (h : cs.Pairwise (fun a b => a.parcel < b.parcel)) (out : List Post) (x : Due) {yv : Cause} {is b1 b2 : Bool} {nm : Int} (e1 : (causeP cs x.parcel).getD zeroC = yv) (e2 : (causeP cs x.parcel).isSome = is)
    (e3 : decide (yv.known ≤ hour) = b1) (e4 : min (x.amount - Pu.has (l ++ out) x.party x.parcel) (Pu.held (l ++ out) x.parcel) = nm) (e5 : decide (0 < nm) = b2) :
    payR l cs hour out x = if is = true ∧ b1 = true ∧ b2 = true then out ++ [mkP (maxId l + out.length + 1) hour 2 { x with amount := nm } yv] else out := by
  subst e1 e2 e3 e4 e5
  unfold payR
  rw [causeH_eq _ _ h]
  cases causeP cs x.parcel with
  | none => simp
  | some y =>
    simp only [Option.getD_some, Option.isSome_some, decide_eq_true_eq, true_and]
    by_cases h1 : y.known ≤ hour
    · rw [if_pos h1]
      by_cases h2 : 0 < min (x.amount - Pu.has (l ++ out) x.party x.parcel) (Pu.held (l ++ out) x.parcel)
      · simp only; rw [if_pos h2, if_pos ⟨h1, h2⟩]
      · simp only; rw [if_neg h2, if_neg (fun h => h2 h.2)]
    · rw [if_neg h1, if_neg (fun h => h1 h.1)]

/-- what was appended to a copy of the book -/
structure NowSt (w0 : World) (sb : Nat) (ob : Option Nat) (n : Nat) (l out : List Post) (v : Value) (w : World) : Prop where
  kept : KeptBut (fun k => some k = ob) w0 w
  own : w.ownsRow sb 36 8 v (n + out.length) (flat pcells (l ++ out))
  at_ : v.ownBlock = ob ∨ ∃ g, v.ownBlock = some g ∧ w0.heap.size ≤ g
section
variable {w0 w w' : World} {sb n : Nat} {ob : Option Nat} {l out : List Post} {v : Value}
theorem NowSt.after (h : NowSt w0 sb ob n l out v w) (hB : Below w.heap.size w w') : NowSt w0 sb ob n l out v w' :=
  ⟨h.kept.trans (KeptBut.of_below (S := fun _ => False) hB) (fun _ _ h => h.elim), own_after h.own hB, h.at_⟩
theorem NowSt.app {o : Obj} {p : Post} {g cap : Nat} (h : NowSt w0 sb ob n l out v w) (hgr : (w.alloc o).grownBy w' v.ownBlock)
    (hown : w'.ownsRow sb 36 8 (.slice (some ⟨g, 0, none⟩) (n + out.length + 1) cap) (n + out.length + 1) (flat pcells (l ++ out) ++ pcells p)) (hat : v.ownBlock = some g ∨ g = (w.alloc o).heap.size) :
    NowSt w0 sb ob n l (out ++ [p]) (.slice (some ⟨g, 0, none⟩) (n + out.length + 1) cap) w' := by
  refine ⟨?_, ?_, ?_⟩
  · have h1 : KeptBut (fun k => some k = v.ownBlock) w w' := (KeptBut.of_below (S := fun k => some k = v.ownBlock) ((Below.refl _ w).alloc (Nat.le_refl _) o)).trans (KeptBut.of_grown hgr) (fun k _ h => h)
    refine h.kept.trans h1 fun k hk e => ?_
    rcases h.at_ with h2 | ⟨g', h2, h3⟩
    · rw [← h2]; exact e
    · rw [h2] at e; cases e; omega
  · rw [← List.append_assoc, flat_app, flat_one, List.length_append, List.length_singleton, ← Nat.add_assoc]; exact hown
  · rcases hat with h2 | h2
    · rcases h.at_ with h3 | ⟨g', h3, h4⟩
      · left; show some g = ob; rw [← h3, h2]
      · right; rw [h2] at h3; cases h3; exact ⟨g, rfl, h4⟩
    · exact .inr ⟨g, rfl, by rw [h2]; have := h.kept.size; simp; omega⟩
theorem NowSt.below {B : Nat} (h : NowSt w0 sb ob n l out v w) (hB : B ≤ w0.heap.size) (hob : ∀ k, ob = some k → B ≤ k) : Below B w0 w := h.kept.below hB fun k e => hob k e.symm
theorem NowSt.form {an : Nat} (h : NowSt w0 sb (some an) n l out v w) : ∃ g cap, v = .slice (some ⟨g, 0, none⟩) (n + out.length) cap ∧ n + out.length ≤ cap := by
  obtain ⟨_, ⟨h1, h2⟩ | ⟨g, cap, cur, h1, _, _, h4, _⟩⟩ := h.own
  · rcases h.at_ with h3 | ⟨g, h3, _⟩
    · rw [h1] at h3; cases h3
    · rw [h1] at h3; cases h3
  · exact ⟨g, cap, h1, h4⟩
end
theorem SlAt.dropP {B : Nat} {w : World} {b o : Nat} {a : List Post} (h : SlAt 8 pcells B w (some ⟨b, o, none⟩) a) (j : Nat) : SlAt 8 pcells B w (some ⟨b, o + j * 8, none⟩) (a.drop j) := by
  rcases h with h | ⟨b', o', h1, h2, h3⟩
  · subst h; exact .inl (by simp)
  · cases h1
    refine .inr ⟨b, o + j * 8, rfl, h2, fun i x hx k u hu => ?_⟩
    rw [List.getElem?_drop] at hx
    have := h3 (j + i) x hx k u hu
    rw [show o + j * 8 + i * 8 + k = o + (j + i) * 8 + k by omega]; exact this
theorem pbox_store {w : World} {b : Nat} {q : Post} (h : PBox w b q) (p : Post) : PBox ((((((((w.setCell ⟨b, 0, none⟩ (.int .i64 p.id)).setCell ⟨b, 1, none⟩ (.int .i64 p.hour)).setCell ⟨b, 2, none⟩ (.int .u8 p.kind)).setCell ⟨b, 3, none⟩ (.int .i64 p.party)).setCell ⟨b, 4, none⟩ (.int .i64 p.parcel)).setCell ⟨b, 5, none⟩ (.int .i64 p.amount)).setCell
    ⟨b, 6, none⟩ (.int .i64 p.reason)).setCell ⟨b, 7, none⟩ (.int .i64 p.known)) b p := by
  have h0 := h.lt
  have q0 := h.c0
  have q1 := h.c1
  have q2 := h.c2
  have q3 := h.c3
  have q4 := h.c4
  have q5 := h.c5
  have q6 := h.c6
  have q7 := h.c7
  refine ⟨?_, ?_, ?_, ?_, ?_, ?_, ?_, ?_, ?_⟩ <;> simp [go_sem, h0, q0, q1, q2, q3, q4, q5, q6, q7]
theorem backs_nn {l : List Post} {d : List Due} {cs : List Cause} {hour : Int} (hb : Book l) (hd : ∀ x ∈ d, 0 ≤ x.amount ∧ x.amount ≤ 1000000000) (who what : Int) : 0 ≤ Pu.has (l ++ backs l d cs hour) who what := by
  have h := backs_has (l := l) (cs := cs) (hour := hour) (overL l d) [] [] (fun who what => by rw [List.append_nil, takes_nil]; omega) who what
  rw [List.nil_append, show (overL l d).foldl (backStep l cs hour) [] = backs l d cs hour from rfl] at h
  have h0 := (Book.has_le hb who what).1
  rcases takes_cases (backOn l cs hour) (strict_over l d) who what with h1 | ⟨y, hy, _, y1, y2, h1⟩
  · omega
  · have h4 := mem_over hy
    rw [y1, y2] at h4
    have := (amts_bd hd (what, who)).1
    omega
theorem has_paid {l out : List Post} (h : ∀ who what, 0 ≤ Pu.has (l ++ out) who what) {id hour : Int} {x : Due} {y : Cause} (hx : 0 ≤ x.amount) (who what : Int) : 0 ≤ Pu.has (l ++ (out ++ [mkP id hour 2 x y])) who what := by
  rw [← List.append_assoc, has_app]
  have := h who what
  unfold hasOf mkP
  dsimp only
  split
  · simp; omega
  · omega
theorem overI_all {l : List Post} {d : List Due} (h : chkL okD ltD d = 0) : overI l d (parcels l).length = overL l d := by
  unfold overI; rw [List.take_length, over_grid (chkL_pair h) (okD_amount h)]

set_option maxRecDepth 100000 in
set_option maxHeartbeats 8000000 in
theorem rSettle {l : List Post} {d : List Due} {cs : List Cause} {n cap n2 cap2 n3 cap3 : Nat} {ao ao2 ao3 : Option Addr} {B : Nat} {w : World} (hour : Int) (h : SetIn l d cs hour n cap n2 cap2 n3 cap3 ao ao2 ao3 B w) (hm : n ≤ 24) :
    Calls Tryz.prog 13 #[.slice ao n cap, .slice ao2 n2 cap2, .slice ao3 n3 cap3, .int .i64 hour] w (RSet l d cs hour w) := by
  obtain ⟨hl, hd, hc⟩ := h
  replace hl := Lib.hid hl
  replace hd := Lib.hid hd
  replace hc := Lib.hid hc
  obtain ⟨ci, hci⟩ : ∃ ci, Hid ((check l).1 = ci) := ⟨_, rfl⟩
  obtain ⟨cr, hcr⟩ : ∃ cr, Hid ((check l).2 = cr) := ⟨_, rfl⟩
  obtain ⟨ch, hch⟩ : ∃ ch, Hid (inB hour 0 1000000 = ch) := ⟨_, rfl⟩
  obtain ⟨cd, hcd⟩ : ∃ cd, Hid (chkL okD ltD d = cd) := ⟨_, rfl⟩
  obtain ⟨cc, hcc⟩ : ∃ cc, Hid (chkL okC ltC cs = cc) := ⟨_, rfl⟩
  go_enter Tryz.func13, Tryz.ntmps13
  go_wp2_with (fail)
  go_at_call 66
  refine (hl.out.rCheck).mono ?_
  rintro e w1 ⟨rfl, hB1⟩
  rw [hci.out, hcr.out]
  replace hB1 := Lib.hid hB1
  by_cases h0 : cr = 0
  case neg =>
    have hcode := Lib.hid (code1 (d := d) (cs := cs) (hour := hour) (show (check l).2 ≠ 0 by rw [hcr.out]; exact h0))
    rw [hcr.out] at hcode
    go_wp2
    go_ret2
    exact RSet.no hB1.out hcode.out h0
  case pos =>
  subst h0
  have hd1 := Lib.hid (hd.out.after hB1.out)
  cases ch with
  | false =>
    have hcode := Lib.hid (code2 (d := d) (cs := cs) hcr.out hch.out)
    go_wp2_with (go_at_call 67; refine (rhour hour w1).mono ?_; rintro e w2 ⟨rfl, rfl⟩; rw [hch.out])
    go_ret2
    exact RSet.no hB1.out hcode.out (by omega)
  | true =>
  go_wp2_with (go_at_call 67; refine (rhour hour w1).mono ?_; rintro e w2 ⟨rfl, rfl⟩; rw [hch.out])
  go_at_call 42
  refine (rCheckDues hd1.out).mono ?_
  rintro e w2 ⟨rfl, hB2⟩
  rw [hcd.out]
  have hB3 := Lib.hid (hB1.out.trans (hB2.mono hB1.out.size))
  clear hB2 hd1
  by_cases h1 : cd = 0
  case neg =>
    have hcode := Lib.hid (code3 (cs := cs) hcr.out hch.out (show chkL okD ltD d ≠ 0 by rw [hcd.out]; exact h1))
    rw [hcd.out] at hcode
    go_wp2
    go_ret2
    exact RSet.no hB3.out hcode.out h1
  case pos =>
  subst h1
  have hc2 := Lib.hid (hc.out.after hB3.out)
  go_wp2_with (fail)
  go_at_call 44
  refine (rCheckCauses hc2.out).mono ?_
  rintro e w3 ⟨rfl, hB4⟩
  rw [hcc.out]
  have hB5 := Lib.hid (hB3.out.trans (hB4.mono hB3.out.size))
  clear hB4 hc2
  by_cases h2 : cc = 0
  case neg =>
    have hcode := Lib.hid (code4 hcr.out hch.out hcd.out (show chkL okC ltC cs ≠ 0 by rw [hcc.out]; exact h2))
    rw [hcc.out] at hcode
    go_wp2
    go_ret2
    exact RSet.no hB5.out hcode.out h2
  case pos =>
  subst h2
  have hlw := Lib.hid (hl.out.after hB5.out)
  have hcap := hl.out.hcap
  have Hn := Lib.hid hl.out.hn
  have Hn2 := Lib.hid hd.out.hn
  have hrng : 0 ≤ hour ∧ hour ≤ 1000000 := by have := hch.out; simp only [inB, Bool.and_eq_true, decide_eq_true_eq] at this; exact this
  have hlate : Hid (hour < lastHour l) ∨ Hid (¬ hour < lastHour l) := by by_cases hx : hour < lastHour l; · exact .inl hx
                                                                         · exact .inr hx
  rcases hlate with hlate | hlate
  · obtain ⟨k, rfl⟩ : ∃ k, n = k + 1 := by
      cases n with
      | zero =>
        have e : l = [] := List.length_eq_zero_iff.1 Hn.out.symm
        have := hlate.out
        rw [e] at this
        simp only [lastHour, List.getLast?_nil] at this
        omega
      | succ k => exact ⟨k, rfl⟩
    have hcode := Lib.hid (code5 hcr.out hch.out hcd.out hcc.out hlate.out)
    obtain ⟨p, hp⟩ := getq (l := l) (j := k) (by rw [← Hn.out]; omega)
    have hlh := lastHour_get hp (by rw [← Hn.out])
    have hlt := hlate.out
    rw [hlh] at hlt
    obtain ⟨b, o, rfl, hb0, c0, c1, c2, c3, c4, c5, c6, c7⟩ := hlw.out.hs.post hp
    have g1 : decide (hour < p.hour) = true := by simpa using hlt
    clear hlh hlt hp
    go_wp2
    go_ret2
    exact RSet.no hB5.out hcode.out (by omega)
  have hbook := Lib.hid (book_of_check hcr.out)
  have hids := Lib.hid (ids_bd hbook.out)
  have hlate0 := Lib.hid hlate.out
  go_upto_region 8 with (fail)
  go_cut [62] from 45 to 62 (fun b wx => b = .bool false ∧ wx = w3)
  case first =>
    by_cases hn0 : n = 0
    · have g0 : ¬ 0 < n := by omega
      replace hn0 := Lib.hid hn0
      go_wp2
      go_meet
      exact ⟨rfl, rfl⟩
    · obtain ⟨k, hk⟩ : ∃ k, n = k + 1 := ⟨n - 1, by omega⟩
      obtain ⟨p, hp⟩ := getq (l := l) (j := k) (by rw [← Hn.out]; omega)
      have hlh := lastHour_get hp (by rw [← Hn.out]; exact hk)
      have hlt := hlate.out
      rw [hlh] at hlt
      obtain ⟨b, o, rfl, hb0, c0, c1, c2, c3, c4, c5, c6, c7⟩ := hlw.out.hs.post hp
      have g1 : decide (hour < p.hour) = false := by simpa using hlt
      have g0 : 0 < n := by omega
      have hidx : (n : Int) - 1 = (k : Int) := by omega
      have hkn : k < n := by omega
      replace hk := Lib.hid hk
      clear hlh hlt hp hn0
      go_wp2
      go_meet
      exact ⟨rfl, rfl⟩
  case rest =>
  obtain ⟨rfl, hwc⟩ := hcut
  rw [hwc]
  clear hwc
  have hrefl := Lib.hid (Below.refl w3.heap.size w3)
  go_wp2
  go_loopw [12, 13] (fun v i wr => ∃ j : Nat, j ≤ n ∧ i = .int .i64 j ∧ v = .int .i64 (maxId (l.take j) + 1) ∧ Below w3.heap.size w3 wr) (fun _ i _ => n - (intOf i).toNat)
  case atStart => exact ⟨0, Nat.zero_le _, rfl, rfl, hrefl.out⟩
  case round =>
  obtain ⟨j, hj, rfl, rfl, hb⟩ := hrel
  by_cases hjn : j < n
  case pos =>
    obtain ⟨p, hp⟩ := getq (l := l) (j := j) (by rw [← Hn.out]; exact hjn)
    have hpid := hids.out p (List.mem_of_getElem? hp)
    have hmb := maxId_bd (l := l.take j) (fun q hq => hids.out q (List.mem_of_mem_take hq))
    have hst := maxId_step hp (by omega)
    obtain ⟨b, o, rfl, hb0, c0, c1, c2, c3, c4, c5, c6, c7⟩ := (hlw.out.below (hb.mono hlw.out.hB)).hs.post hp
    obtain ⟨m, hm'⟩ : ∃ m, maxId (l.take j) = m := ⟨_, rfl⟩
    rw [hm'] at hmb hst ⊢
    replace hst := Lib.hid hst
    replace hb := Lib.hid hb
    have hw1 : IntKind.i64.wrap (p.id + 1) = p.id + 1 := IntWalk.i64_in _ (by omega)
    clear hm' hp
    go_wp2
    go_roundw
    case rel => exact ⟨j + 1, by omega, by go_num, by rw [hst.out], hb.out⟩
    case measure => simp [intOf]; omega
  case neg =>
  obtain rfl : n = j := by omega
  have e : l.take n = l := by rw [Hn.out]; exact List.take_length
  rw [e]
  clear e hrefl hlate hids
  have hmxi := maxId_bd (ids_bd hbook.out)
  have hB0 := Lib.hid (hB5.out.trans (hb.mono hB5.out.size))
  have hlr := Lib.hid (hlw.out.after hb)
  have hdr := Lib.hid (hd.out.after hB0.out)
  have hcr' := Lib.hid (hc.out.after hB0.out)
  have hBs : B ≤ wr.heap.size := hlr.out.hB
  have hE := Lib.hid (fun W : World => show Below W.heap.size W (W.alloc (.cells #[] 36)) from (Below.refl _ _).alloc (Nat.le_refl _) _)
  have eL := Lib.hid (hlr.out.after (hE.out wr))
  have hcode := Lib.hid (code6 hcr.out hch.out hcd.out hcc.out (by have := hlate0.out; omega))
  have hpair := Lib.hid (causes_pair hcc.out)
  have hdd := Lib.hid (okD_amount hcd.out)
  have hoi := Lib.hid (overI_all (l := l) hcd.out)
  clear hb hlw hB5
  go_wp2_with (first
    | (at_builtin; refine list_append_sl0 rfl _ _ wr.heap.size l n cap ao rfl rfl rfl wr.heap.size (own_empty wr _ _) B Hn.out eL.out.hs eL.out.had (by omega) (by simp) ?_
       intro an cn W4 hown hgr
       have hG := Lib.hid ((hE.out wr).grown hgr (by simp) (fun k hk => by cases hk; exact Nat.le_refl _))
       have hl4 := Lib.hid (hlr.out.after hG.out)
       have hd4 := Lib.hid (hdr.out.after hG.out)
       have hanlt : an < W4.heap.size := (hown.lt an rfl).2
       have hanb : wr.heap.size ≤ an := own_far hown an rfl
       replace hown := Lib.hid hown
       clear hgr eL)
    | (go_at_call 68; refine (rover hl4.out (by omega) hbook hd4.out hdd).mono ?_; rintro e w5 ⟨hB5, v5, rfl, ⟨ao5, cap5, rfl⟩, hown5⟩
       rw [hoi.out] at hown5 ⊢
       replace hB5 := Lib.hid hB5
       replace hown5 := Lib.hid hown5))
  obtain ⟨sb, hsb⟩ : ∃ sb, Hid (wr.heap.size = sb) := ⟨_, rfl⟩
  rw [hsb.out] at hanb hown hBs
  have hwsb : w.heap.size ≤ sb := by rw [← hsb.out]; exact hB0.out.size
  have hsb5 : sb ≤ w5.heap.size := by have := hB5.out.size; omega
  have hnow5 : Hid (NowSt w5 sb (some an) n l [] (.slice (some ⟨an, 0, none⟩) n cn) w5) :=
    ⟨KeptBut.refl _ _, by rw [List.append_nil]; exact own_after hown.out hB5.out, .inl rfl⟩
  have hl5 := Lib.hid (hl4.out.after hB5.out)
  have hd5 := Lib.hid (hd4.out.after hB5.out)
  have hc5 := Lib.hid ((hcr'.out.after hG.out).after hB5.out)
  have hso5 := Lib.hid (SlOut.of (S := fun k => some k = some an) hown5.out (fun k h => by cases h; exact hanlt))
  have hovn : (overL l d).length ≤ 984 := by have := overL_len l d; have := Hn.out; omega
  have hovi := Lib.hid (overL_in hbook.out hdd.out)
  have hBf := Lib.hid (hB0.out.trans ((hG.out.trans (hB5.out.mono hG.out.size)).mono hB0.out.size))
  have hA5 := Lib.hid (show AmtOk (l ++ []) by rw [List.append_nil]; exact Book.amtOk hbook.out)
  obtain ⟨i0, hi, hz0, hz1, hz2⟩ := info_parts infoPost
  obtain ⟨ov, hov⟩ : ∃ ov, overL l d = ov := ⟨_, rfl⟩
  rw [hov] at hso5 hovn hovi ⊢
  replace hov := Lib.hid hov
  obtain ⟨nov, hnov⟩ : ∃ nov, ov.length = nov := ⟨_, rfl⟩
  rw [hnov] at hovn ⊢
  replace hnov := Lib.hid hnov
  obtain ⟨mi, hmi⟩ : ∃ mi, Hid (maxId l = mi) := ⟨_, rfl⟩
  rw [hmi.out] at hmxi ⊢
  clear hlr hdr hcr' hB0 hG hl4 hd4 hB5 hown5 hown hE hoi hanlt
  go_wp2
  go_loopw [12, 14, 16] (fun idv v i wk => ∃ (j : Nat) (out : List Post), j ≤ nov ∧ i = .int .i64 j ∧ idv = .int .i64 (mi + out.length + 1) ∧ Hid (out = (ov.take j).foldl (backStep l cs hour) []) ∧ out.length ≤ j ∧ Hid (NowSt w5 sb (some an) n l out v wk) ∧ Hid (AmtOk (l ++ out))) (fun _ _ i _ => nov - (intOf i).toNat)
  case atStart => exact ⟨0, [], Nat.zero_le _, rfl, congrArg (Value.int .i64) (by simp), rfl, Nat.le_refl _, hnow5, hA5⟩
  case round =>
  clear hnow5 hA5
  obtain ⟨j, out, hj, rfl, rfl, hout, holen, hst, hA⟩ := hrel
  by_cases hlt : j < nov
  case pos =>
    obtain ⟨x, hx⟩ := getq (l := ov) (j := j) (by rw [hnov.out]; exact hlt)
    have hbw := hst.out.below (B := sb) hsb5 (fun k e => by cases e; exact hanb)
    have hlk := Lib.hid (hl5.out.below (hbw.mono hBs))
    have hck := Lib.hid (hc5.out.below (hbw.mono hBs))
    obtain ⟨b, o, rfl, hb1, hb2, c0, c1, c2⟩ := hso5.out.kept hst.out.kept j x hx
    have hdx := Lib.hid (hovi.out x (List.mem_of_getElem? hx))
    have hwsz := hbw.size
    replace hx := Lib.hid hx
    obtain ⟨yv, hyv⟩ : ∃ yv, Hid ((causeP cs x.parcel).getD zeroC = yv) := ⟨_, rfl⟩
    obtain ⟨is, his⟩ : ∃ is, Hid ((causeP cs x.parcel).isSome = is) := ⟨_, rfl⟩
    obtain ⟨q, hq⟩ : ∃ q, Hid (Pu.last l x.party x.parcel = q) := ⟨_, rfl⟩
    obtain ⟨qv, hqv⟩ : ∃ qv, Hid (q.getD zeroP = qv) := ⟨_, rfl⟩
    obtain ⟨t1, ht1⟩ : ∃ t1, Hid (decide (yv.known ≤ hour) = t1) := ⟨_, rfl⟩
    obtain ⟨t2, ht2⟩ : ∃ t2, Hid (decide (qv.known < yv.known) = t2) := ⟨_, rfl⟩
    have hstep := Lib.hid (backStep_ref (b2 := t2) hpair.out out x hyv.out his.out ht1.out hq.out (by rw [hqv.out]; exact ht2.out))
    rw [hmi.out] at hstep
    clear hbw hb2
    go_upto_region 23 with (go_at_call 69; refine (rcause hck.out x.parcel).mono ?_; rintro e w6 ⟨rfl, hB6⟩; rw [hyv.out, his.out])
    have hB7 : Below wr.heap.size wr (w6.alloc (.cells #[.int .i64 yv.parcel, .int .i64 yv.reason, .int .i64 yv.known] 71)) := hB6.alloc hB6.size _
    have hY := TBox.new w6 yv.parcel yv.reason yv.known 71
    obtain ⟨w7, hw7⟩ : ∃ w7, w6.alloc (.cells #[.int .i64 yv.parcel, .int .i64 yv.reason, .int .i64 yv.known] 71) = w7 := ⟨_, rfl⟩
    obtain ⟨yb, hyb⟩ : ∃ yb, w6.heap.size = yb := ⟨_, rfl⟩
    rw [hw7] at hB7 hY ⊢
    rw [hyb] at hY ⊢
    have hylt := hY.lt
    have hst7 := Lib.hid (hst.out.after hB7)
    have hl7a := Lib.hid (hlk.out.after hB7)
    have hl7 := Lib.hid hl7a.out.drew
    have k0 := (hB7.cell (p := ⟨b, o + j * 3, none⟩) hb1).trans c0
    have k1 := (hB7.cell (p := ⟨b, o + j * 3 + 1, none⟩) hb1).trans c1
    have k2 := (hB7.cell (p := ⟨b, o + j * 3 + 2, none⟩) hb1).trans c2
    have hb7 : b < w7.heap.size := Nat.lt_of_lt_of_le hb1 hB7.size
    replace hY := Lib.hid hY
    have hst7v : Hid (∀ k, u14.ownBlock = some k → k ≠ b ∧ k ≠ yb) := fun k hk => by
      have h1 := (hst.out.own.lt k hk).2
      have h2 := (hso5.out j x hx.out)
      obtain ⟨b', o', e1, hb5, hn5, _⟩ := h2
      cases e1
      refine ⟨fun e => ?_, fun e => by rw [e, ← hyb] at h1; have := hB6.size; omega⟩
      subst e
      rcases hst.out.at_ with h3 | ⟨g, h3, h4⟩
      · rw [h3] at hk; exact hn5 hk.symm
      · rw [h3] at hk; cases hk; omega
    clear hw7 hyb hB6 c0 c1 c2 hlk hck hst hb1 hB7
    have hU := Lib.hid (fun (W : World) (hB : Below w7.heap.size w7 W) => show W.cell? ⟨b, o + j * 3, none⟩ = some (.int .i64 x.party) ∧ W.cell? ⟨b, o + j * 3 + 1, none⟩ = some (.int .i64 x.parcel) from
      ⟨(hB.cell (p := ⟨b, o + j * 3, none⟩) hb7).trans k0, (hB.cell (p := ⟨b, o + j * 3 + 1, none⟩) hb7).trans k1⟩)
    have b0 := Lib.hid (Below.refl w7.heap.size w7).drew
    have bA := Lib.hid (fun o => ((Below.refl w7.heap.size w7).alloc (Nat.le_refl _) o).drew)
    have hl7A := Lib.hid (fun o => hl7a.out.after (bA.out o))
    have hPB := Lib.hid ((PBox.new w7 zeroP 36).below (Below.refl (w7.alloc (pobj zeroP)).heap.size (w7.alloc (pobj zeroP))).drew (by simp))
    have hFB := Lib.hid (fun i : Nat => show ((w7.alloc (pobj zeroP)).drew).frozen? ⟨w7.heap.size, i, none⟩ = false from by show (w7.alloc (pobj zeroP)).frozen? _ = false; simp)
    go_cut [19] from 86 to 157 (fun p wx => ∃ zb, p = .pointer (some ⟨zb, 0, none⟩) ∧ Hid (Below w7.heap.size w7 wx) ∧ Hid (PBox wx zb qv))
    case first =>
      go_wp2
      refine wp_region_held_drew (S := (fun w' => w'.cell? ⟨b, o + j * 3, none⟩ = some (.int .i64 x.party) ∧ w'.cell? ⟨b, o + j * 3 + 1, none⟩ = some (.int .i64 x.parcel))) (by kernel_rfl) ?_ (fun hHeld0 => ?_)
      · (try dsimp only); (first
                            | with_reducible exact hU.out _ b0.out
                            | with_reducible exact hU.out _ (bA.out _)
                            | with_reducible exact hU.out _ hB9.out
                            | with_reducible exact hU.out _ (hB9.out.alloc hB9.out.size _)
                            | exact hU.out _ (by iterate 8 refine below_far ?_ (by first | exact Nat.le_refl _ | exact hB9.out.size | omega)
                                                 exact hB9.out))
      refine xtake 0 (v := ?_) rfl (by kernel_rfl) (by kernel_rfl) (by kernel_rfl) rfl ?_ ?_ (by assumption) ?_
      rotate_left
      · intro w hSw; (try dsimp only at hSw); go_simp; with_reducible rfl
      · (exact fun _ _ _ hp => hp)
      try simp only [Act.put, List.setIfInBounds_toArray, List.set_cons_zero, List.set_cons_succ]
      refine xtake 1 (v := ?_) rfl (by kernel_rfl) (by kernel_rfl) (by kernel_rfl) rfl ?_ ?_ (by assumption) ?_
      rotate_left
      · intro w hSw; (try dsimp only at hSw); go_simp; with_reducible rfl
      · (exact fun _ _ _ hp => hp)
      try simp only [Act.put, List.setIfInBounds_toArray, List.set_cons_zero, List.set_cons_succ]
      refine xtake 2 (v := ?_) rfl (by kernel_rfl) (by kernel_rfl) (by kernel_rfl) rfl ?_ ?_ (by assumption) ?_
      rotate_left
      · intro w hSw; (try dsimp only at hSw); go_simp; with_reducible rfl
      · (exact fun _ _ _ hp => hp)
      try simp only [Act.put, List.setIfInBounds_toArray, List.set_cons_zero, List.set_cons_succ]
      refine xtake 3 (v := ?_) rfl (by kernel_rfl) (by kernel_rfl) (by kernel_rfl) rfl ?_ ?_ (by assumption) ?_
      rotate_left
      · intro w hSw; (try dsimp only at hSw); go_simp; with_reducible rfl
      · (exact fun _ _ _ hp => hp)
      try simp only [Act.put, List.setIfInBounds_toArray, List.set_cons_zero, List.set_cons_succ]
      refine xtake 4 (v := ?_) rfl (by kernel_rfl) (by kernel_rfl) (by kernel_rfl) rfl ?_ ?_ (by assumption) ?_
      rotate_left
      · intro w hSw; (try dsimp only at hSw); go_simp; with_reducible rfl
      · (exact fun _ _ _ hp => hp)
      try simp only [Act.put, List.setIfInBounds_toArray, List.set_cons_zero, List.set_cons_succ]
      refine xtake 5 (v := ?_) rfl (by kernel_rfl) (by kernel_rfl) (by kernel_rfl) rfl ?_ ?_ (by assumption) ?_
      rotate_left
      · intro w hSw; (try dsimp only at hSw); go_simp; with_reducible rfl
      · (exact fun _ _ _ hp => hp)
      try simp only [Act.put, List.setIfInBounds_toArray, List.set_cons_zero, List.set_cons_succ]
      refine xtake 6 (v := ?_) rfl (by kernel_rfl) (by kernel_rfl) (by kernel_rfl) rfl ?_ ?_ (by assumption) ?_
      rotate_left
      · intro w hSw; (try dsimp only at hSw); go_simp; with_reducible rfl
      · (exact fun _ _ _ hp => hp)
      try simp only [Act.put, List.setIfInBounds_toArray, List.set_cons_zero, List.set_cons_succ]
      refine xtake 7 (v := ?_) rfl (by kernel_rfl) (by kernel_rfl) (by kernel_rfl) rfl ?_ ?_ (by assumption) ?_
      rotate_left
      · intro w hSw; (try dsimp only at hSw); go_simp; with_reducible rfl
      · (exact fun _ _ _ hp => hp)
      try simp only [Act.put, List.setIfInBounds_toArray, List.set_cons_zero, List.set_cons_succ]
      refine xtake 8 (v := ?_) rfl (by kernel_rfl) (by kernel_rfl) (by kernel_rfl) rfl ?_ ?_ (by assumption) ?_
      rotate_left
      · intro w hSw; (try dsimp only at hSw); go_simp; with_reducible rfl
      · (exact fun _ _ _ hp => hp)
      try simp only [Act.put, List.setIfInBounds_toArray, List.set_cons_zero, List.set_cons_succ]
      refine xtake 9 (v := ?_) rfl (by kernel_rfl) (by kernel_rfl) (by kernel_rfl) rfl ?_ ?_ (by assumption) ?_
      rotate_left
      · intro w hSw; (try dsimp only at hSw); go_simp; with_reducible rfl
      · (exact fun _ _ _ hp => hp)
      try simp only [Act.put, List.setIfInBounds_toArray, List.set_cons_zero, List.set_cons_succ]
      refine xtake 10 (v := ?_) rfl (by kernel_rfl) (by kernel_rfl) (by kernel_rfl) rfl ?_ ?_ (by assumption) ?_
      rotate_left
      · intro w hSw; (try dsimp only at hSw); go_simp; with_reducible rfl
      · (exact fun _ _ _ hp => hp)
      try simp only [Act.put, List.setIfInBounds_toArray, List.set_cons_zero, List.set_cons_succ]
      refine wpAnyH_ready (rs := [11, 15]) (by kernel_rfl) (by simp) ?_
      refine xcons 11 rfl (fun K hK => ?_) ?_
      focus
        (first
          | (go_simp; go_at_call 70; refine (rlast l n cap x.party x.parcel ao B _ Hn (by omega) (by first | exact hl7.out.hs | exact (hl7A.out _).hs) (by first | exact hl7.out.hB | exact (hl7A.out _).hB)).mono ?_; rintro e w8 ⟨rfl, hB8⟩; rw [hq.out, hqv.out]
             first
               | (have hB9 := Lib.hid (show Below w7.heap.size w7 w8 from b0.out.trans hB8))
               | (have hB9 := Lib.hid (show Below w7.heap.size w7 w8 from (bA.out _).trans (hB8.mono (bA.out _).size))
                  have hP8 := hPB.out.below hB8 hPB.out.lt
                  have hz8 : ∀ i, w8.frozen? ⟨w7.heap.size, i, none⟩ = false := fun i => (hB8.frozen (p := ⟨w7.heap.size, i, none⟩) hPB.out.lt).trans (hFB.out i)
                  have z0 := hP8.c0
                  have z1 := hP8.c1
                  have z2 := hP8.c2
                  have z3 := hP8.c3
                  have z4 := hP8.c4
                  have z5 := hP8.c5
                  have z6 := hP8.c6
                  have z7 := hP8.c7
                  have zl := hP8.lt
                  replace hP8 := Lib.hid hP8)
             dsimp only))
        refine hK.out _ _ ?_ (fun hHeld1 => ?_)
        · (try dsimp only); (first
                              | with_reducible exact hU.out _ b0.out
                              | with_reducible exact hU.out _ (bA.out _)
                              | with_reducible exact hU.out _ hB9.out
                              | with_reducible exact hU.out _ (hB9.out.alloc hB9.out.size _)
                              | exact hU.out _ (by iterate 8 refine below_far ?_ (by first | exact Nat.le_refl _ | exact hB9.out.size | omega)
                                                   exact hB9.out))
        clear hK K
        try simp only [Act.put, List.setIfInBounds_toArray, List.set_cons_zero, List.set_cons_succ]
        (try clear hHeld0)
        refine xtake 12 (v := ?_) rfl (by kernel_rfl) (by kernel_rfl) (by kernel_rfl) rfl ?_ ?_ (by assumption) ?_
        rotate_left
        · intro w hSw; (try dsimp only at hSw); go_simp; with_reducible rfl
        · (exact fun _ _ _ hp => hp)
        try simp only [Act.put, List.setIfInBounds_toArray, List.set_cons_zero, List.set_cons_succ]
        refine xtake 13 (v := ?_) rfl (by kernel_rfl) (by kernel_rfl) (by kernel_rfl) rfl ?_ ?_ (by assumption) ?_
        rotate_left
        · intro w hSw; (try dsimp only at hSw); go_simp; with_reducible rfl
        · (exact fun _ _ _ hp => hp)
        try simp only [Act.put, List.setIfInBounds_toArray, List.set_cons_zero, List.set_cons_succ]
        refine xtake 14 (v := ?_) rfl (by kernel_rfl) (by kernel_rfl) (by kernel_rfl) rfl ?_ ?_ (by assumption) ?_
        rotate_left
        · intro w hSw; (try dsimp only at hSw); go_simp; with_reducible rfl
        · (exact fun _ _ _ hp => hp)
        try simp only [Act.put, List.setIfInBounds_toArray, List.set_cons_zero, List.set_cons_succ]
        refine wpAnyH_ready (rs := [15]) (by kernel_rfl) (by simp) ?_
        refine xcons 15 rfl (fun K hK => ?_) ?_
        focus
          go_simp
          refine hK.out _ _ ?_ (fun hHeld2 => ?_)
          · (try dsimp only); (first
                                | with_reducible exact hU.out _ b0.out
                                | with_reducible exact hU.out _ (bA.out _)
                                | with_reducible exact hU.out _ hB9.out
                                | with_reducible exact hU.out _ (hB9.out.alloc hB9.out.size _)
                                | exact hU.out _ (by iterate 8 refine below_far ?_ (by first | exact Nat.le_refl _ | exact hB9.out.size | omega)
                                                     exact hB9.out))
          clear hK K
          try simp only [Act.put, List.setIfInBounds_toArray, List.set_cons_zero, List.set_cons_succ]
          (try clear hHeld1)
          refine wpAnyH_ready (rs := [16]) (by kernel_rfl) (by simp) ?_
          refine xcons 16 rfl (fun K hK => ?_) ?_
          focus
            go_simp
            refine hK.out _ _ ?_ (fun hHeld3 => ?_)
            · (try dsimp only); (first
                                  | with_reducible exact hU.out _ b0.out
                                  | with_reducible exact hU.out _ (bA.out _)
                                  | with_reducible exact hU.out _ hB9.out
                                  | with_reducible exact hU.out _ (hB9.out.alloc hB9.out.size _)
                                  | exact hU.out _ (by iterate 8 refine below_far ?_ (by first | exact Nat.le_refl _ | exact hB9.out.size | omega)
                                                       exact hB9.out))
            clear hK K
            try simp only [Act.put, List.setIfInBounds_toArray, List.set_cons_zero, List.set_cons_succ]
            (try clear hHeld2)
            refine xtake 17 (v := ?_) rfl (by kernel_rfl) (by kernel_rfl) (by kernel_rfl) rfl ?_ ?_ (by assumption) ?_
            rotate_left
            · intro w hSw; (try dsimp only at hSw); go_simp; with_reducible rfl
            · (exact fun _ _ _ hp => hp)
            try simp only [Act.put, List.setIfInBounds_toArray, List.set_cons_zero, List.set_cons_succ]
            refine wpAnyH_done (by kernel_rfl) ?_ _
            (revert hHeld3; intro _)
          rotate_left 1
          exact AllReadyH.nil
        rotate_left 1
        exact AllReadyH.nil
      rotate_left 1
      refine xcons 15 rfl (fun K hK => ?_) ?_
      focus
        go_simp
        refine hK.out _ _ ?_ (fun hHeld1 => ?_)
        · (try dsimp only); (first
                              | with_reducible exact hU.out _ b0.out
                              | with_reducible exact hU.out _ (bA.out _)
                              | with_reducible exact hU.out _ hB9.out
                              | with_reducible exact hU.out _ (hB9.out.alloc hB9.out.size _)
                              | exact hU.out _ (by iterate 8 refine below_far ?_ (by first | exact Nat.le_refl _ | exact hB9.out.size | omega)
                                                   exact hB9.out))
        clear hK K
        try simp only [Act.put, List.setIfInBounds_toArray, List.set_cons_zero, List.set_cons_succ]
        (try clear hHeld0)
        refine wpAnyH_ready (rs := [11]) (by kernel_rfl) (by simp) ?_
        refine xcons 11 rfl (fun K hK => ?_) ?_
        focus
          (first
            | (go_simp; go_at_call 70; refine (rlast l n cap x.party x.parcel ao B _ Hn (by omega) (by first | exact hl7.out.hs | exact (hl7A.out _).hs) (by first | exact hl7.out.hB | exact (hl7A.out _).hB)).mono ?_; rintro e w8 ⟨rfl, hB8⟩; rw [hq.out, hqv.out]
               first
                 | (have hB9 := Lib.hid (show Below w7.heap.size w7 w8 from b0.out.trans hB8))
                 | (have hB9 := Lib.hid (show Below w7.heap.size w7 w8 from (bA.out _).trans (hB8.mono (bA.out _).size))
                    have hP8 := hPB.out.below hB8 hPB.out.lt
                    have hz8 : ∀ i, w8.frozen? ⟨w7.heap.size, i, none⟩ = false := fun i => (hB8.frozen (p := ⟨w7.heap.size, i, none⟩) hPB.out.lt).trans (hFB.out i)
                    have z0 := hP8.c0
                    have z1 := hP8.c1
                    have z2 := hP8.c2
                    have z3 := hP8.c3
                    have z4 := hP8.c4
                    have z5 := hP8.c5
                    have z6 := hP8.c6
                    have z7 := hP8.c7
                    have zl := hP8.lt
                    replace hP8 := Lib.hid hP8)
               dsimp only))
          refine hK.out _ _ ?_ (fun hHeld2 => ?_)
          · (try dsimp only); (first
                                | with_reducible exact hU.out _ b0.out
                                | with_reducible exact hU.out _ (bA.out _)
                                | with_reducible exact hU.out _ hB9.out
                                | with_reducible exact hU.out _ (hB9.out.alloc hB9.out.size _)
                                | exact hU.out _ (by iterate 8 refine below_far ?_ (by first | exact Nat.le_refl _ | exact hB9.out.size | omega)
                                                     exact hB9.out))
          clear hK K
          try simp only [Act.put, List.setIfInBounds_toArray, List.set_cons_zero, List.set_cons_succ]
          (try clear hHeld1)
          refine xtake 12 (v := ?_) rfl (by kernel_rfl) (by kernel_rfl) (by kernel_rfl) rfl ?_ ?_ (by assumption) ?_
          rotate_left
          · intro w hSw; (try dsimp only at hSw); go_simp; with_reducible rfl
          · (exact fun _ _ _ hp => hp)
          try simp only [Act.put, List.setIfInBounds_toArray, List.set_cons_zero, List.set_cons_succ]
          refine xtake 13 (v := ?_) rfl (by kernel_rfl) (by kernel_rfl) (by kernel_rfl) rfl ?_ ?_ (by assumption) ?_
          rotate_left
          · intro w hSw; (try dsimp only at hSw); go_simp; with_reducible rfl
          · (exact fun _ _ _ hp => hp)
          try simp only [Act.put, List.setIfInBounds_toArray, List.set_cons_zero, List.set_cons_succ]
          refine xtake 14 (v := ?_) rfl (by kernel_rfl) (by kernel_rfl) (by kernel_rfl) rfl ?_ ?_ (by assumption) ?_
          rotate_left
          · intro w hSw; (try dsimp only at hSw); go_simp; with_reducible rfl
          · (exact fun _ _ _ hp => hp)
          try simp only [Act.put, List.setIfInBounds_toArray, List.set_cons_zero, List.set_cons_succ]
          refine wpAnyH_ready (rs := [16]) (by kernel_rfl) (by simp) ?_
          refine xcons 16 rfl (fun K hK => ?_) ?_
          focus
            go_simp
            refine hK.out _ _ ?_ (fun hHeld3 => ?_)
            · (try dsimp only); (first
                                  | with_reducible exact hU.out _ b0.out
                                  | with_reducible exact hU.out _ (bA.out _)
                                  | with_reducible exact hU.out _ hB9.out
                                  | with_reducible exact hU.out _ (hB9.out.alloc hB9.out.size _)
                                  | exact hU.out _ (by iterate 8 refine below_far ?_ (by first | exact Nat.le_refl _ | exact hB9.out.size | omega)
                                                       exact hB9.out))
            clear hK K
            try simp only [Act.put, List.setIfInBounds_toArray, List.set_cons_zero, List.set_cons_succ]
            (try clear hHeld2)
            refine xtake 17 (v := ?_) rfl (by kernel_rfl) (by kernel_rfl) (by kernel_rfl) rfl ?_ ?_ (by assumption) ?_
            rotate_left
            · intro w hSw; (try dsimp only at hSw); go_simp; with_reducible rfl
            · (exact fun _ _ _ hp => hp)
            try simp only [Act.put, List.setIfInBounds_toArray, List.set_cons_zero, List.set_cons_succ]
            refine wpAnyH_done (by kernel_rfl) ?_ _
            (revert hHeld3; intro _)
          rotate_left 1
          exact AllReadyH.nil
        rotate_left 1
        exact AllReadyH.nil
      rotate_left 1
      exact AllReadyH.nil
      · go_wp2
        go_meet
        exact ⟨w8.heap.size, rfl, hB9.out.alloc hB9.out.size _, PBox.new w8 qv 36⟩
      · go_wp2
        go_meet
        exact ⟨w7.heap.size, rfl, by
          show Below _ _ _
          iterate 8 refine below_far ?_ (Nat.le_refl _)
          exact hB9.out, pbox_store hP8.out qv⟩
    case rest =>
    obtain ⟨zb, rfl, hBc, hZ⟩ := hcut
    clear hU b0 bA hl7A hPB hFB hl7a hl7
    have hYc := Lib.hid (hY.out.below hBc.out hylt)
    have hstc := Lib.hid (hst7.out.after hBc.out)
    have k0' := (hBc.out.cell (p := ⟨b, o + j * 3, none⟩) hb7).trans k0
    have k1' := (hBc.out.cell (p := ⟨b, o + j * 3 + 1, none⟩) hb7).trans k1
    have k2' := (hBc.out.cell (p := ⟨b, o + j * 3 + 2, none⟩) hb7).trans k2
    have y1 := hYc.out.c1
    have y2 := hYc.out.c2
    have zq := hZ.out.c7
    have hbc : b < wc.heap.size := Nat.lt_of_lt_of_le hb7 hBc.out.size
    have hyc : yb < wc.heap.size := Nat.lt_of_lt_of_le hylt hBc.out.size
    have hcs : (is = false ∨ (is = true ∧ t1 = false) ∨ (is = true ∧ t1 = true ∧ t2 = false)) ∨ (is = true ∧ t1 = true ∧ t2 = true) := by cases is <;> cases t1 <;> cases t2 <;> simp
    have ht1' := ht1.out
    have ht2' := ht2.out
    clear k0 k1 k2 hst7 hY
    rcases hcs with hcs | ⟨rfl, rfl, rfl⟩
    · have hsame : Hid (out = (ov.take (j + 1)).foldl (backStep l cs hour) []) := by
        show _ = _
        rw [foldl_take hx.out, ← hout.out, hstep.out, if_neg]
        rintro ⟨e1, e2, e3⟩
        rcases hcs with h | ⟨_, h⟩ | ⟨_, _, h⟩
        · rw [h] at e1; cases e1
        · rw [h] at e2; cases e2
        · rw [h] at e3; cases e3
      clear hstep
      rcases hcs with rfl | ⟨rfl, rfl⟩ | ⟨rfl, rfl, rfl⟩
      all_goals
        go_wp2
        go_roundw
        case rel => exact ⟨j + 1, out, by omega, by go_num, rfl, hsame, by omega, hstc, hA⟩
        case measure => simp [intOf]; omega
    · have hyes : Hid (out ++ [mkP (mi + out.length + 1) hour 3 x yv] = (ov.take (j + 1)).foldl (backStep l cs hour) []) := by
        show _ = _
        rw [foldl_take hx.out, ← hout.out, hstep.out, if_pos ⟨rfl, rfl, rfl⟩]
      go_wp2
      have hcl : Hid (∀ W : World, Below wc.heap.size wc W → W.cell? ⟨b, o + j * 3, none⟩ = some (.int .i64 x.party) ∧ W.cell? ⟨b, o + j * 3 + 1, none⟩ = some (.int .i64 x.parcel) ∧ W.cell? ⟨b, o + j * 3 + 2, none⟩ = some (.int .i64 x.amount) ∧
          W.cell? ⟨yb, 1, none⟩ = some (.int .i64 yv.reason) ∧ W.cell? ⟨yb, 2, none⟩ = some (.int .i64 yv.known)) := fun W hB =>
        ⟨(hB.cell (p := ⟨b, o + j * 3, none⟩) hbc).trans k0', (hB.cell (p := ⟨b, o + j * 3 + 1, none⟩) hbc).trans k1', (hB.cell (p := ⟨b, o + j * 3 + 2, none⟩) hbc).trans k2', (hB.cell (p := ⟨yb, 1, none⟩) hyc).trans y1, (hB.cell (p := ⟨yb, 2, none⟩) hyc).trans y2⟩
      have b0 := Lib.hid (Below.refl wc.heap.size wc).drew
      have bA := Lib.hid (fun o => ((Below.refl wc.heap.size wc).alloc (Nat.le_refl _) o).drew)
      have hownA := Lib.hid (fun o => own_after hstc.out.own (bA.out o))
      have hstd := Lib.hid (hstc.out.after b0.out)
      have hsbc : sb ≤ wc.heap.size := by have := hstc.out.kept.size; omega
      refine wp_region_held_drew (S := (fun w' => w'.cell? ⟨b, o + j * 3, none⟩ = some (.int .i64 x.party) ∧ w'.cell? ⟨b, o + j * 3 + 1, none⟩ = some (.int .i64 x.parcel) ∧ w'.cell? ⟨b, o + j * 3 + 2, none⟩ = some (.int .i64 x.amount) ∧
                                        w'.cell? ⟨yb, 1, none⟩ = some (.int .i64 yv.reason) ∧ w'.cell? ⟨yb, 2, none⟩ = some (.int .i64 yv.known))) (by kernel_rfl) ?_ (fun hHeld0 => ?_)
      · (try dsimp only); (first
                            | with_reducible exact hcl.out _ b0.out
                            | with_reducible exact hcl.out _ (bA.out _)
                            | with_reducible exact hS11.out)
      refine xtake 0 (v := ?_) rfl (by kernel_rfl) (by kernel_rfl) (by kernel_rfl) rfl ?_ ?_ (by assumption) ?_
      rotate_left
      · intro w hSw; (try dsimp only at hSw); go_simp; with_reducible rfl
      · (exact fun _ _ _ hp => hp)
      try simp only [Act.put, List.setIfInBounds_toArray, List.set_cons_zero, List.set_cons_succ]
      refine xtake 1 (v := ?_) rfl (by kernel_rfl) (by kernel_rfl) (by kernel_rfl) rfl ?_ ?_ (by assumption) ?_
      rotate_left
      · intro w hSw; (try dsimp only at hSw); go_simp; with_reducible rfl
      · (exact fun _ _ _ hp => hp)
      try simp only [Act.put, List.setIfInBounds_toArray, List.set_cons_zero, List.set_cons_succ]
      refine xtake 2 (v := ?_) rfl (by kernel_rfl) (by kernel_rfl) (by kernel_rfl) rfl ?_ ?_ (by assumption) ?_
      rotate_left
      · intro w hSw; (try dsimp only at hSw); go_simp; with_reducible rfl
      · (exact fun _ _ _ hp => hp)
      try simp only [Act.put, List.setIfInBounds_toArray, List.set_cons_zero, List.set_cons_succ]
      refine xtake 3 (v := ?_) rfl (by kernel_rfl) (by kernel_rfl) (by kernel_rfl) rfl ?_ ?_ (by assumption) ?_
      rotate_left
      · intro w hSw; (try dsimp only at hSw); go_simp; with_reducible rfl
      · (exact fun _ _ _ hp => hp)
      try simp only [Act.put, List.setIfInBounds_toArray, List.set_cons_zero, List.set_cons_succ]
      refine xtake 4 (v := ?_) rfl (by kernel_rfl) (by kernel_rfl) (by kernel_rfl) rfl ?_ ?_ (by assumption) ?_
      rotate_left
      · intro w hSw; (try dsimp only at hSw); go_simp; with_reducible rfl
      · (exact fun _ _ _ hp => hp)
      try simp only [Act.put, List.setIfInBounds_toArray, List.set_cons_zero, List.set_cons_succ]
      refine xtake 5 (v := ?_) rfl (by kernel_rfl) (by kernel_rfl) (by kernel_rfl) rfl ?_ ?_ (by assumption) ?_
      rotate_left
      · intro w hSw; (try dsimp only at hSw); go_simp; with_reducible rfl
      · (exact fun _ _ _ hp => hp)
      try simp only [Act.put, List.setIfInBounds_toArray, List.set_cons_zero, List.set_cons_succ]
      refine xtake 6 (v := ?_) rfl (by kernel_rfl) (by kernel_rfl) (by kernel_rfl) rfl ?_ ?_ (by assumption) ?_
      rotate_left
      · intro w hSw; (try dsimp only at hSw); go_simp; with_reducible rfl
      · (exact fun _ _ _ hp => hp)
      try simp only [Act.put, List.setIfInBounds_toArray, List.set_cons_zero, List.set_cons_succ]
      refine xtake 7 (v := ?_) rfl (by kernel_rfl) (by kernel_rfl) (by kernel_rfl) rfl ?_ ?_ (by assumption) ?_
      rotate_left
      · intro w hSw; (try dsimp only at hSw); go_simp; with_reducible rfl
      · (exact fun _ _ _ hp => hp)
      try simp only [Act.put, List.setIfInBounds_toArray, List.set_cons_zero, List.set_cons_succ]
      refine xtake 8 (v := ?_) rfl (by kernel_rfl) (by kernel_rfl) (by kernel_rfl) rfl ?_ ?_ (by assumption) ?_
      rotate_left
      · intro w hSw; (try dsimp only at hSw); go_simp; with_reducible rfl
      · (exact fun _ _ _ hp => hp)
      try simp only [Act.put, List.setIfInBounds_toArray, List.set_cons_zero, List.set_cons_succ]
      refine xtake 9 (v := ?_) rfl (by kernel_rfl) (by kernel_rfl) (by kernel_rfl) rfl ?_ ?_ (by assumption) ?_
      rotate_left
      · intro w hSw; (try dsimp only at hSw); go_simp; with_reducible rfl
      · (exact fun _ _ _ hp => hp)
      try simp only [Act.put, List.setIfInBounds_toArray, List.set_cons_zero, List.set_cons_succ]
      refine xtake 10 (v := ?_) rfl (by kernel_rfl) (by kernel_rfl) (by kernel_rfl) rfl ?_ ?_ (by assumption) ?_
      rotate_left
      · intro w hSw; (try dsimp only at hSw); go_simp; with_reducible rfl
      · (exact fun _ _ _ hp => hp)
      try simp only [Act.put, List.setIfInBounds_toArray, List.set_cons_zero, List.set_cons_succ]
      refine xtake 11 (v := ?_) rfl (by kernel_rfl) (by kernel_rfl) (by kernel_rfl) rfl ?_ ?_ (by assumption) ?_
      rotate_left
      · intro w hSw; (try dsimp only at hSw); go_simp; with_reducible rfl
      · (exact fun _ _ _ hp => hp)
      try simp only [Act.put, List.setIfInBounds_toArray, List.set_cons_zero, List.set_cons_succ]
      refine xtake 12 (v := ?_) rfl (by kernel_rfl) (by kernel_rfl) (by kernel_rfl) rfl ?_ ?_ (by assumption) ?_
      rotate_left
      · intro w hSw; (try dsimp only at hSw); go_simp; with_reducible rfl
      · (exact fun _ _ _ hp => hp)
      try simp only [Act.put, List.setIfInBounds_toArray, List.set_cons_zero, List.set_cons_succ]
      refine xtake 13 (v := ?_) rfl (by kernel_rfl) (by kernel_rfl) (by kernel_rfl) rfl ?_ ?_ (by assumption) ?_
      rotate_left
      · intro w hSw; (try dsimp only at hSw); go_simp; with_reducible rfl
      · (exact fun _ _ _ hp => hp)
      try simp only [Act.put, List.setIfInBounds_toArray, List.set_cons_zero, List.set_cons_succ]
      refine xtake 14 (v := ?_) rfl (by kernel_rfl) (by kernel_rfl) (by kernel_rfl) rfl ?_ ?_ (by assumption) ?_
      rotate_left
      · intro w hSw; (try dsimp only at hSw); go_simp; with_reducible rfl
      · (exact fun _ _ _ hp => hp)
      try simp only [Act.put, List.setIfInBounds_toArray, List.set_cons_zero, List.set_cons_succ]
      refine xtake 15 (v := ?_) rfl (by kernel_rfl) (by kernel_rfl) (by kernel_rfl) rfl ?_ ?_ (by assumption) ?_
      rotate_left
      · intro w hSw; (try dsimp only at hSw); go_simp; with_reducible rfl
      · (exact fun _ _ _ hp => hp)
      try simp only [Act.put, List.setIfInBounds_toArray, List.set_cons_zero, List.set_cons_succ]
      refine xtake 16 (v := ?_) rfl (by kernel_rfl) (by kernel_rfl) (by kernel_rfl) rfl ?_ ?_ (by assumption) ?_
      rotate_left
      · intro w hSw; (try dsimp only at hSw); go_simp; with_reducible rfl
      · (exact fun _ _ _ hp => hp)
      try simp only [Act.put, List.setIfInBounds_toArray, List.set_cons_zero, List.set_cons_succ]
      refine xtake 17 (v := ?_) rfl (by kernel_rfl) (by kernel_rfl) (by kernel_rfl) rfl ?_ ?_ (by assumption) ?_
      rotate_left
      · intro w hSw; (try dsimp only at hSw); go_simp; with_reducible rfl
      · (exact fun _ _ _ hp => hp)
      try simp only [Act.put, List.setIfInBounds_toArray, List.set_cons_zero, List.set_cons_succ]
      refine xtake 18 (v := ?_) rfl (by kernel_rfl) (by kernel_rfl) (by kernel_rfl) rfl ?_ ?_ (by assumption) ?_
      rotate_left
      · intro w hSw; (try dsimp only at hSw); go_simp; with_reducible rfl
      · (exact fun _ _ _ hp => hp)
      try simp only [Act.put, List.setIfInBounds_toArray, List.set_cons_zero, List.set_cons_succ]
      refine xtake 19 (v := ?_) rfl (by kernel_rfl) (by kernel_rfl) (by kernel_rfl) rfl ?_ ?_ (by assumption) ?_
      rotate_left
      · intro w hSw; (try dsimp only at hSw); go_simp; with_reducible rfl
      · (exact fun _ _ _ hp => hp)
      try simp only [Act.put, List.setIfInBounds_toArray, List.set_cons_zero, List.set_cons_succ]
      refine xtake 20 (v := ?_) rfl (by kernel_rfl) (by kernel_rfl) (by kernel_rfl) rfl ?_ ?_ (by assumption) ?_
      rotate_left
      · intro w hSw; (try dsimp only at hSw); go_simp; with_reducible rfl
      · (exact fun _ _ _ hp => hp)
      try simp only [Act.put, List.setIfInBounds_toArray, List.set_cons_zero, List.set_cons_succ]
      refine xtake 21 (v := ?_) rfl (by kernel_rfl) (by kernel_rfl) (by kernel_rfl) rfl ?_ ?_ (by assumption) ?_
      rotate_left
      · intro w hSw; (try dsimp only at hSw); go_simp; with_reducible rfl
      · (exact fun _ _ _ hp => hp)
      try simp only [Act.put, List.setIfInBounds_toArray, List.set_cons_zero, List.set_cons_succ]
      refine xtake 22 (v := ?_) rfl (by kernel_rfl) (by kernel_rfl) (by kernel_rfl) rfl ?_ ?_ (by assumption) ?_
      rotate_left
      · intro w hSw; (try dsimp only at hSw); go_simp; with_reducible rfl
      · (exact fun _ _ _ hp => hp)
      try simp only [Act.put, List.setIfInBounds_toArray, List.set_cons_zero, List.set_cons_succ]
      refine wpAnyH_ready (rs := [23]) (by kernel_rfl) (by simp) ?_
      refine xcons 23 rfl (fun K hK => ?_) ?_
      focus
        go_simp
        refine hK.out _ _ ?_ (fun hHeld1 => ?_)
        · (try dsimp only); (first
                              | with_reducible exact hcl.out _ b0.out
                              | with_reducible exact hcl.out _ (bA.out _)
                              | with_reducible exact hS11.out)
        clear hK K
        try simp only [Act.put, List.setIfInBounds_toArray, List.set_cons_zero, List.set_cons_succ]
        (try clear hHeld0)
        refine wpAnyH_ready (rs := [24]) (by kernel_rfl) (by simp) ?_
        refine xcons 24 rfl (fun K hK => ?_) ?_
        focus
          (first
            | (refine step_append_lies _ (by rfl) _ _ _ (by rfl) sb 36 i0 _ 8 64 Tryz.underlying22 hi hz0 hz1 hz2 rfl (by omega) _ _ _ (by rfl) (hownA.out _) ⟨wc.heap.size, 0, none⟩ 1 1 (pcells (mkP (mi + out.length + 1) hour 3 x yv)) (by rfl) rfl
                 (World.news_of_block (cs := (pcells (mkP (mi + out.length + 1) hour 3 x yv)).toArray) (t := 36) (fr := (0, 0)) (heap_alloc_new wc _)) (pcells_cell _) (by omega) (by unfold maxLen; omega) (by omega) (by simp; omega) _ rfl ?_
               intro g cap4 w11 hown4 hgr4 hat4 hlt4
               have hW11 := Lib.hid (hstd.out.app (w := wc.drew) hgr4 hown4 hat4)
               have hS11 : Hid (w11.cell? ⟨b, o + j * 3, none⟩ = some (.int .i64 x.party) ∧ w11.cell? ⟨b, o + j * 3 + 1, none⟩ = some (.int .i64 x.parcel) ∧ w11.cell? ⟨b, o + j * 3 + 2, none⟩ = some (.int .i64 x.amount) ∧
                   w11.cell? ⟨yb, 1, none⟩ = some (.int .i64 yv.reason) ∧ w11.cell? ⟨yb, 2, none⟩ = some (.int .i64 yv.known)) := by
                 have e1 : w11.heap[b]? = ((wc.alloc (.cells (pcells (mkP (mi + out.length + 1) hour 3 x yv)).toArray 36)).drew).heap[b]? := hgr4.block b (by simp; omega) (fun e => (hst7v.out b e.symm).1 rfl)
                 have e2 : w11.heap[yb]? = ((wc.alloc (.cells (pcells (mkP (mi + out.length + 1) hour 3 x yv)).toArray 36)).drew).heap[yb]? := hgr4.block yb (by simp; omega) (fun e => (hst7v.out yb e.symm).2 rfl)
                 have h := hcl.out _ (bA.out (.cells (pcells (mkP (mi + out.length + 1) hour 3 x yv)).toArray 36))
                 exact ⟨(World.cell?_of_block e1).trans h.1, (World.cell?_of_block e1).trans h.2.1, (World.cell?_of_block e1).trans h.2.2.1, (World.cell?_of_block e2).trans h.2.2.2.1, (World.cell?_of_block e2).trans h.2.2.2.2⟩
               clear hown4 hgr4 hat4 hlt4
               dsimp only))
          refine hK.out _ _ ?_ (fun hHeld2 => ?_)
          · (try dsimp only); (first
                                | with_reducible exact hcl.out _ b0.out
                                | with_reducible exact hcl.out _ (bA.out _)
                                | with_reducible exact hS11.out)
          clear hK K
          try simp only [Act.put, List.setIfInBounds_toArray, List.set_cons_zero, List.set_cons_succ]
          (try clear hHeld1)
          refine xtake 25 (v := ?_) rfl (by kernel_rfl) (by kernel_rfl) (by kernel_rfl) rfl ?_ ?_ (by assumption) ?_
          rotate_left
          · intro w hSw; (try dsimp only at hSw); go_simp; with_reducible rfl
          · (exact fun _ _ _ hp => hp)
          try simp only [Act.put, List.setIfInBounds_toArray, List.set_cons_zero, List.set_cons_succ]
          refine wpAnyH_done (by kernel_rfl) ?_ _
          (revert hHeld2; intro _)
        rotate_left 1
        exact AllReadyH.nil
      rotate_left 1
      exact AllReadyH.nil
      have hA11 : Hid (AmtOk (l ++ (out ++ [mkP (mi + out.length + 1) hour 3 x yv]))) := by
        show AmtOk _
        rw [← List.append_assoc]; exact AmtOk.snoc hA.out (by have := hdx.out; unfold DueIn at this; unfold mkP; dsimp only; omega)
      clear hS11 hcl b0 bA hownA hstd
      go_wp2
      go_roundw
      case rel => exact ⟨j + 1, _, by omega, by go_num, by simp only [List.length_append, List.length_singleton]; exact congrArg (Value.int .i64) (by omega), hyes, by simp; omega, hW11.out, hA11⟩
      case measure => simp [intOf]; omega
  case neg =>
  obtain rfl : nov = j := by omega
  have hfull : Hid (out = backs l d cs hour) := by
    show _ = _; unfold backs; rw [hov.out, hout.out, List.take_of_length_le (by rw [hnov.out]; exact Nat.le_refl _)]
  have hlen2 : n2 ≤ 400 := by rw [Hn2.out]; exact chkL_len hcd.out
  have holen0 : out.length ≤ 984 := by omega
  have hnn0 : Hid (∀ who what, 0 ≤ Pu.has (l ++ out) who what) := by show ∀ who what, 0 ≤ Pu.has (l ++ out) who what; rw [hfull.out]; exact backs_nn hbook.out hdd.out
  clear hout hso5 hovi hov hnov hlt hj holen hovn
  go_wp2
  go_loopw [12, 14, 21] (fun idv v i wk => ∃ (j2 : Nat) (out2 : List Post), j2 ≤ n2 ∧ i = .int .i64 j2 ∧ idv = .int .i64 (mi + out2.length + 1) ∧ Hid (out2 = (d.take j2).foldl (payR l cs hour) out) ∧ out2.length ≤ 984 + j2 ∧ Hid (NowSt w5 sb (some an) n l out2 v wk) ∧ Hid (AmtOk (l ++ out2)) ∧ Hid (∀ who what, 0 ≤ Pu.has (l ++ out2) who what)) (fun _ _ i _ => n2 - (intOf i).toNat)
  case atStart => exact ⟨0, out, Nat.zero_le _, rfl, rfl, rfl, by omega, hst, hA, hnn0⟩
  case round =>
  clear hst hA hnn0
  obtain ⟨j2, out2, hj2, rfl, rfl, hout2, holen2, hst, hA, hhn⟩ := hrel
  have hbw := hst.out.below (B := sb) hsb5 (fun k e => by cases e; exact hanb)
  have hlk := Lib.hid (hl5.out.below (hbw.mono hBs))
  have hwsz := hbw.size
  obtain ⟨gw, cw, hform, hcw⟩ := hst.out.form
  subst hform
  by_cases hlt2 : j2 < n2
  case pos =>
    obtain ⟨x, hx⟩ := getq (l := d) (j := j2) (by rw [← Hn2.out]; exact hlt2)
    have hdx := okD_mem hcd.out (List.mem_of_getElem? hx)
    have hck := Lib.hid (hc5.out.below (hbw.mono hBs))
    obtain ⟨b, o, rfl, hb1, c0, c1, c2⟩ := (hd5.out.below (hbw.mono hBs)).hs.due hx
    replace hx := Lib.hid hx
    obtain ⟨yv, hyv⟩ : ∃ yv, Hid ((causeP cs x.parcel).getD zeroC = yv) := ⟨_, rfl⟩
    obtain ⟨is, his⟩ : ∃ is, Hid ((causeP cs x.parcel).isSome = is) := ⟨_, rfl⟩
    obtain ⟨t1, ht1⟩ : ∃ t1, Hid (decide (yv.known ≤ hour) = t1) := ⟨_, rfl⟩
    have hhb := has_bd x.party x.parcel hA.out
    have heb := held_bd x.parcel hA.out
    have hll : ((l ++ out2).length : Int) ≤ 2000 := by rw [List.length_append, ← Hn.out]; omega
    obtain ⟨hv, hhv⟩ : ∃ hv, Hid (Pu.has (l ++ out2) x.party x.parcel = hv) := ⟨_, rfl⟩
    obtain ⟨he, hhe⟩ : ∃ he, Hid (Pu.held (l ++ out2) x.parcel = he) := ⟨_, rfl⟩
    rw [hhv.out] at hhb
    rw [hhe.out] at heb
    have hw1 : IntKind.i64.wrap (x.amount - hv) = x.amount - hv := IntWalk.i64_in _ (by omega)
    obtain ⟨nm, hnm⟩ : ∃ nm, Hid (min (x.amount - hv) he = nm) := ⟨_, rfl⟩
    obtain ⟨t2, ht2⟩ : ∃ t2, Hid (decide (0 < nm) = t2) := ⟨_, rfl⟩
    have hnmx : Hid (0 < nm → nm ≤ 1000000000) := fun h0 => by
      have h1 := hnm.out
      have h2 := hhn.out x.party x.parcel
      rw [hhv.out] at h2
      omega
    have hstep := Lib.hid (payR_ref (b2 := t2) (nm := nm) hpair.out out2 x hyv.out his.out ht1.out (by rw [hhv.out, hhe.out]; exact hnm.out) ht2.out)
    rw [hmi.out] at hstep
    have hbsb : b < sb := Nat.lt_of_lt_of_le hb1 hBs
    replace hdx := Lib.hid hdx
    replace heb := Lib.hid heb
    replace hhb := Lib.hid hhb
    clear hbw hll
    go_upto_region 31 with (go_at_call 69; refine (rcause hck.out x.parcel).mono ?_; rintro e w6 ⟨rfl, hB6⟩; rw [hyv.out, his.out])
    have hB7 : Below wr.heap.size wr (w6.alloc (.cells #[.int .i64 yv.parcel, .int .i64 yv.reason, .int .i64 yv.known] 71)) := hB6.alloc hB6.size _
    have hY := TBox.new w6 yv.parcel yv.reason yv.known 71
    obtain ⟨w7, hw7⟩ : ∃ w7, w6.alloc (.cells #[.int .i64 yv.parcel, .int .i64 yv.reason, .int .i64 yv.known] 71) = w7 := ⟨_, rfl⟩
    obtain ⟨yb, hyb⟩ : ∃ yb, w6.heap.size = yb := ⟨_, rfl⟩
    rw [hw7] at hB7 hY ⊢
    rw [hyb] at hY ⊢
    have hst7 := Lib.hid (hst.out.after hB7)
    have hgb : Hid (gw ≠ b ∧ gw ≠ yb) := by
      have h1 := (hst.out.own.lt gw rfl).2
      have h2 := own_far hst.out.own gw rfl
      have h3 := hB6.size
      show _ ∧ _
      omega
    have hbwr : b < wr.heap.size := by omega
    have k0 := (hB7.cell (p := ⟨b, o + j2 * 3, none⟩) hbwr).trans c0
    have k1 := (hB7.cell (p := ⟨b, o + j2 * 3 + 1, none⟩) hbwr).trans c1
    have k2 := (hB7.cell (p := ⟨b, o + j2 * 3 + 2, none⟩) hbwr).trans c2
    have hwsz7 : sb ≤ w7.heap.size := by have := hB7.size; omega
    have hsl := Lib.hid (Own.slAt pcells_len (by omega) hst7.out.own)
    have hlen : Hid (n + out2.length = (l ++ out2).length) := by show _ = _; rw [List.length_append, ← Hn.out]
    have hRhas : Hid (∀ m, Calls Tryz.prog 71 #[.slice (some ⟨gw, 0, none⟩) (n + out2.length) cw, .int .i64 x.party, .int .i64 x.parcel] (w7.drewN m) fun e w' => e = .returned (.int .i64 hv) ∧ w7.drewN m = w') := fun m => by
      have := rhas (l ++ out2) (n + out2.length) cw x.party x.parcel (some ⟨gw, 0, none⟩) w7.heap.size (w7.drewN m) hlen (by omega) (hsl.out.below (below_drewN (Below.refl _ _) _)) hA.out
      rw [hhv.out] at this; exact this
    have hRheld : Hid (∀ m, Calls Tryz.prog 72 #[.slice (some ⟨gw, 0, none⟩) (n + out2.length) cw, .int .i64 x.parcel] (w7.drewN m) fun e w' => e = .returned (.int .i64 he) ∧ w7.drewN m = w') := fun m => by
      have := rheld (l ++ out2) (n + out2.length) cw x.parcel (some ⟨gw, 0, none⟩) w7.heap.size (w7.drewN m) hlen (by omega) (hsl.out.below (below_drewN (Below.refl _ _) _)) hA.out
      rw [hhe.out] at this; exact this
    replace hY := Lib.hid hY
    clear hw7 hyb hB6 c0 c1 c2 hck hst hB7
    go_wp2
    go_quiet ((first | (go_at_call 71; exact quietS (hRhas.out _)) | (go_at_call 72; exact quietS (hRheld.out _))))
    rw [hnm.out]
    have hbd := Lib.hid (below_drewN (Below.refl w7.heap.size w7) nq)
    have hYc := Lib.hid (hY.out.after hbd.out)
    have hstc := Lib.hid (hst7.out.after hbd.out)
    have k0' : (w7.drewN nq).cell? ⟨b, o + j2 * 3, none⟩ = some (.int .i64 x.party) := k0
    have k1' : (w7.drewN nq).cell? ⟨b, o + j2 * 3 + 1, none⟩ = some (.int .i64 x.parcel) := k1
    have hsz8 : (w7.drewN nq).heap.size = w7.heap.size := rfl
    obtain ⟨w8, hw8⟩ : ∃ w8, w7.drewN nq = w8 := ⟨_, rfl⟩
    rw [hw8] at hYc hstc k0' k1' hsz8 ⊢
    have y1 := hYc.out.c1
    have y2 := hYc.out.c2
    have hyc := hYc.out.lt
    have hbc : b < w8.heap.size := by omega
    have hsbc : sb ≤ w8.heap.size := by omega
    have hcs : (is = false ∨ (is = true ∧ t1 = false) ∨ (is = true ∧ t1 = true ∧ t2 = false)) ∨ (is = true ∧ t1 = true ∧ t2 = true) := by cases is <;> cases t1 <;> cases t2 <;> simp
    have ht1' := ht1.out
    have ht2' := ht2.out
    clear k0 k1 k2 hst7 hY hbd hw8 hsz8 hRhas hRheld hsl hlen hw1
    rcases hcs with hcs | ⟨rfl, rfl, rfl⟩
    · have hsame : Hid (out2 = (d.take (j2 + 1)).foldl (payR l cs hour) out) := by
        show _ = _
        rw [foldl_take hx.out, ← hout2.out, hstep.out, if_neg]
        rintro ⟨e1, e2, e3⟩
        rcases hcs with h | ⟨_, h⟩ | ⟨_, _, h⟩
        · rw [h] at e1; cases e1
        · rw [h] at e2; cases e2
        · rw [h] at e3; cases e3
      clear hstep
      rcases hcs with rfl | ⟨rfl, rfl⟩ | ⟨rfl, rfl, rfl⟩
      all_goals
        go_wp2
        go_roundw
        case rel => exact ⟨j2 + 1, out2, by omega, by go_num, rfl, hsame, by omega, hstc, hA, hhn⟩
        case measure => simp [intOf]; omega
    · have hyes : Hid (out2 ++ [mkP (mi + out2.length + 1) hour 2 ⟨x.party, x.parcel, nm⟩ yv] = (d.take (j2 + 1)).foldl (payR l cs hour) out) := by
        show _ = _
        rw [foldl_take hx.out, ← hout2.out, hstep.out, if_pos ⟨rfl, rfl, rfl⟩]
      have hnpos : Hid (0 < nm) := by show 0 < nm; simpa using ht2'
      go_wp2
      have hcl : Hid (∀ W : World, Below w8.heap.size w8 W → W.cell? ⟨b, o + j2 * 3, none⟩ = some (.int .i64 x.party) ∧ W.cell? ⟨b, o + j2 * 3 + 1, none⟩ = some (.int .i64 x.parcel) ∧ W.cell? ⟨yb, 1, none⟩ = some (.int .i64 yv.reason) ∧ W.cell? ⟨yb, 2, none⟩ = some (.int .i64 yv.known)) := fun W hB =>
        ⟨(hB.cell (p := ⟨b, o + j2 * 3, none⟩) hbc).trans k0', (hB.cell (p := ⟨b, o + j2 * 3 + 1, none⟩) hbc).trans k1', (hB.cell (p := ⟨yb, 1, none⟩) hyc).trans y1, (hB.cell (p := ⟨yb, 2, none⟩) hyc).trans y2⟩
      have b0 := Lib.hid (Below.refl w8.heap.size w8).drew
      have bA := Lib.hid (fun o => ((Below.refl w8.heap.size w8).alloc (Nat.le_refl _) o).drew)
      have hownA := Lib.hid (fun o => own_after hstc.out.own (bA.out o))
      have hstd := Lib.hid (hstc.out.after b0.out)
      refine wp_region_held_drew (S := (fun w' => w'.cell? ⟨b, o + j2 * 3, none⟩ = some (.int .i64 x.party) ∧ w'.cell? ⟨b, o + j2 * 3 + 1, none⟩ = some (.int .i64 x.parcel) ∧ w'.cell? ⟨yb, 1, none⟩ = some (.int .i64 yv.reason) ∧ w'.cell? ⟨yb, 2, none⟩ = some (.int .i64 yv.known))) (by kernel_rfl) ?_ (fun hHeld0 => ?_)
      · (try dsimp only); (first
                            | with_reducible exact hcl.out _ b0.out
                            | with_reducible exact hcl.out _ (bA.out _)
                            | with_reducible exact hS11.out)
      refine xtake 0 (v := ?_) rfl (by kernel_rfl) (by kernel_rfl) (by kernel_rfl) rfl ?_ ?_ (by assumption) ?_
      rotate_left
      · intro w hSw; (try dsimp only at hSw); go_simp; with_reducible rfl
      · (exact fun _ _ _ hp => hp)
      try simp only [Act.put, List.setIfInBounds_toArray, List.set_cons_zero, List.set_cons_succ]
      refine xtake 1 (v := ?_) rfl (by kernel_rfl) (by kernel_rfl) (by kernel_rfl) rfl ?_ ?_ (by assumption) ?_
      rotate_left
      · intro w hSw; (try dsimp only at hSw); go_simp; with_reducible rfl
      · (exact fun _ _ _ hp => hp)
      try simp only [Act.put, List.setIfInBounds_toArray, List.set_cons_zero, List.set_cons_succ]
      refine xtake 2 (v := ?_) rfl (by kernel_rfl) (by kernel_rfl) (by kernel_rfl) rfl ?_ ?_ (by assumption) ?_
      rotate_left
      · intro w hSw; (try dsimp only at hSw); go_simp; with_reducible rfl
      · (exact fun _ _ _ hp => hp)
      try simp only [Act.put, List.setIfInBounds_toArray, List.set_cons_zero, List.set_cons_succ]
      refine xtake 3 (v := ?_) rfl (by kernel_rfl) (by kernel_rfl) (by kernel_rfl) rfl ?_ ?_ (by assumption) ?_
      rotate_left
      · intro w hSw; (try dsimp only at hSw); go_simp; with_reducible rfl
      · (exact fun _ _ _ hp => hp)
      try simp only [Act.put, List.setIfInBounds_toArray, List.set_cons_zero, List.set_cons_succ]
      refine xtake 4 (v := ?_) rfl (by kernel_rfl) (by kernel_rfl) (by kernel_rfl) rfl ?_ ?_ (by assumption) ?_
      rotate_left
      · intro w hSw; (try dsimp only at hSw); go_simp; with_reducible rfl
      · (exact fun _ _ _ hp => hp)
      try simp only [Act.put, List.setIfInBounds_toArray, List.set_cons_zero, List.set_cons_succ]
      refine xtake 5 (v := ?_) rfl (by kernel_rfl) (by kernel_rfl) (by kernel_rfl) rfl ?_ ?_ (by assumption) ?_
      rotate_left
      · intro w hSw; (try dsimp only at hSw); go_simp; with_reducible rfl
      · (exact fun _ _ _ hp => hp)
      try simp only [Act.put, List.setIfInBounds_toArray, List.set_cons_zero, List.set_cons_succ]
      refine xtake 6 (v := ?_) rfl (by kernel_rfl) (by kernel_rfl) (by kernel_rfl) rfl ?_ ?_ (by assumption) ?_
      rotate_left
      · intro w hSw; (try dsimp only at hSw); go_simp; with_reducible rfl
      · (exact fun _ _ _ hp => hp)
      try simp only [Act.put, List.setIfInBounds_toArray, List.set_cons_zero, List.set_cons_succ]
      refine xtake 7 (v := ?_) rfl (by kernel_rfl) (by kernel_rfl) (by kernel_rfl) rfl ?_ ?_ (by assumption) ?_
      rotate_left
      · intro w hSw; (try dsimp only at hSw); go_simp; with_reducible rfl
      · (exact fun _ _ _ hp => hp)
      try simp only [Act.put, List.setIfInBounds_toArray, List.set_cons_zero, List.set_cons_succ]
      refine xtake 8 (v := ?_) rfl (by kernel_rfl) (by kernel_rfl) (by kernel_rfl) rfl ?_ ?_ (by assumption) ?_
      rotate_left
      · intro w hSw; (try dsimp only at hSw); go_simp; with_reducible rfl
      · (exact fun _ _ _ hp => hp)
      try simp only [Act.put, List.setIfInBounds_toArray, List.set_cons_zero, List.set_cons_succ]
      refine xtake 9 (v := ?_) rfl (by kernel_rfl) (by kernel_rfl) (by kernel_rfl) rfl ?_ ?_ (by assumption) ?_
      rotate_left
      · intro w hSw; (try dsimp only at hSw); go_simp; with_reducible rfl
      · (exact fun _ _ _ hp => hp)
      try simp only [Act.put, List.setIfInBounds_toArray, List.set_cons_zero, List.set_cons_succ]
      refine xtake 10 (v := ?_) rfl (by kernel_rfl) (by kernel_rfl) (by kernel_rfl) rfl ?_ ?_ (by assumption) ?_
      rotate_left
      · intro w hSw; (try dsimp only at hSw); go_simp; with_reducible rfl
      · (exact fun _ _ _ hp => hp)
      try simp only [Act.put, List.setIfInBounds_toArray, List.set_cons_zero, List.set_cons_succ]
      refine xtake 11 (v := ?_) rfl (by kernel_rfl) (by kernel_rfl) (by kernel_rfl) rfl ?_ ?_ (by assumption) ?_
      rotate_left
      · intro w hSw; (try dsimp only at hSw); go_simp; with_reducible rfl
      · (exact fun _ _ _ hp => hp)
      try simp only [Act.put, List.setIfInBounds_toArray, List.set_cons_zero, List.set_cons_succ]
      refine xtake 12 (v := ?_) rfl (by kernel_rfl) (by kernel_rfl) (by kernel_rfl) rfl ?_ ?_ (by assumption) ?_
      rotate_left
      · intro w hSw; (try dsimp only at hSw); go_simp; with_reducible rfl
      · (exact fun _ _ _ hp => hp)
      try simp only [Act.put, List.setIfInBounds_toArray, List.set_cons_zero, List.set_cons_succ]
      refine xtake 13 (v := ?_) rfl (by kernel_rfl) (by kernel_rfl) (by kernel_rfl) rfl ?_ ?_ (by assumption) ?_
      rotate_left
      · intro w hSw; (try dsimp only at hSw); go_simp; with_reducible rfl
      · (exact fun _ _ _ hp => hp)
      try simp only [Act.put, List.setIfInBounds_toArray, List.set_cons_zero, List.set_cons_succ]
      refine xtake 14 (v := ?_) rfl (by kernel_rfl) (by kernel_rfl) (by kernel_rfl) rfl ?_ ?_ (by assumption) ?_
      rotate_left
      · intro w hSw; (try dsimp only at hSw); go_simp; with_reducible rfl
      · (exact fun _ _ _ hp => hp)
      try simp only [Act.put, List.setIfInBounds_toArray, List.set_cons_zero, List.set_cons_succ]
      refine xtake 15 (v := ?_) rfl (by kernel_rfl) (by kernel_rfl) (by kernel_rfl) rfl ?_ ?_ (by assumption) ?_
      rotate_left
      · intro w hSw; (try dsimp only at hSw); go_simp; with_reducible rfl
      · (exact fun _ _ _ hp => hp)
      try simp only [Act.put, List.setIfInBounds_toArray, List.set_cons_zero, List.set_cons_succ]
      refine xtake 16 (v := ?_) rfl (by kernel_rfl) (by kernel_rfl) (by kernel_rfl) rfl ?_ ?_ (by assumption) ?_
      rotate_left
      · intro w hSw; (try dsimp only at hSw); go_simp; with_reducible rfl
      · (exact fun _ _ _ hp => hp)
      try simp only [Act.put, List.setIfInBounds_toArray, List.set_cons_zero, List.set_cons_succ]
      refine xtake 17 (v := ?_) rfl (by kernel_rfl) (by kernel_rfl) (by kernel_rfl) rfl ?_ ?_ (by assumption) ?_
      rotate_left
      · intro w hSw; (try dsimp only at hSw); go_simp; with_reducible rfl
      · (exact fun _ _ _ hp => hp)
      try simp only [Act.put, List.setIfInBounds_toArray, List.set_cons_zero, List.set_cons_succ]
      refine xtake 18 (v := ?_) rfl (by kernel_rfl) (by kernel_rfl) (by kernel_rfl) rfl ?_ ?_ (by assumption) ?_
      rotate_left
      · intro w hSw; (try dsimp only at hSw); go_simp; with_reducible rfl
      · (exact fun _ _ _ hp => hp)
      try simp only [Act.put, List.setIfInBounds_toArray, List.set_cons_zero, List.set_cons_succ]
      refine wpAnyH_ready (rs := [19]) (by kernel_rfl) (by simp) ?_
      refine xcons 19 rfl (fun K hK => ?_) ?_
      focus
        go_simp
        refine hK.out _ _ ?_ (fun hHeld1 => ?_)
        · (try dsimp only); (first
                              | with_reducible exact hcl.out _ b0.out
                              | with_reducible exact hcl.out _ (bA.out _)
                              | with_reducible exact hS11.out)
        clear hK K
        try simp only [Act.put, List.setIfInBounds_toArray, List.set_cons_zero, List.set_cons_succ]
        (try clear hHeld0)
        refine wpAnyH_ready (rs := [20]) (by kernel_rfl) (by simp) ?_
        refine xcons 20 rfl (fun K hK => ?_) ?_
        focus
          (first
            | (refine step_append_lies _ (by rfl) _ _ _ (by rfl) sb 36 i0 _ 8 64 Tryz.underlying22 hi hz0 hz1 hz2 rfl (by omega) _ _ _ (by rfl) (hownA.out _) ⟨w8.heap.size, 0, none⟩ 1 1 (pcells (mkP (mi + out2.length + 1) hour 2 ⟨x.party, x.parcel, nm⟩ yv)) (by rfl) rfl
                 (World.news_of_block (cs := (pcells (mkP (mi + out2.length + 1) hour 2 ⟨x.party, x.parcel, nm⟩ yv)).toArray) (t := 36) (fr := (0, 0)) (heap_alloc_new w8 _)) (pcells_cell _) (by omega) (by unfold maxLen; omega) (by omega) (by simp; omega) _ rfl ?_
               intro g cap4 w11 hown4 hgr4 hat4 hlt4
               have hW11 := Lib.hid (hstd.out.app (w := w8.drew) hgr4 hown4 hat4)
               have hS11 : Hid (w11.cell? ⟨b, o + j2 * 3, none⟩ = some (.int .i64 x.party) ∧ w11.cell? ⟨b, o + j2 * 3 + 1, none⟩ = some (.int .i64 x.parcel) ∧ w11.cell? ⟨yb, 1, none⟩ = some (.int .i64 yv.reason) ∧ w11.cell? ⟨yb, 2, none⟩ = some (.int .i64 yv.known)) := by
                 have e1 : w11.heap[b]? = ((w8.alloc (.cells (pcells (mkP (mi + out2.length + 1) hour 2 ⟨x.party, x.parcel, nm⟩ yv)).toArray 36)).drew).heap[b]? := hgr4.block b (by simp; omega) (fun e => hgb.out.1 (by cases e; rfl))
                 have e2 : w11.heap[yb]? = ((w8.alloc (.cells (pcells (mkP (mi + out2.length + 1) hour 2 ⟨x.party, x.parcel, nm⟩ yv)).toArray 36)).drew).heap[yb]? := hgr4.block yb (by simp; omega) (fun e => hgb.out.2 (by cases e; rfl))
                 have h := hcl.out _ (bA.out (.cells (pcells (mkP (mi + out2.length + 1) hour 2 ⟨x.party, x.parcel, nm⟩ yv)).toArray 36))
                 exact ⟨(World.cell?_of_block e1).trans h.1, (World.cell?_of_block e1).trans h.2.1, (World.cell?_of_block e2).trans h.2.2.1, (World.cell?_of_block e2).trans h.2.2.2⟩
               clear hown4 hgr4 hat4 hlt4
               dsimp only))
          refine hK.out _ _ ?_ (fun hHeld2 => ?_)
          · (try dsimp only); (first
                                | with_reducible exact hcl.out _ b0.out
                                | with_reducible exact hcl.out _ (bA.out _)
                                | with_reducible exact hS11.out)
          clear hK K
          try simp only [Act.put, List.setIfInBounds_toArray, List.set_cons_zero, List.set_cons_succ]
          (try clear hHeld1)
          refine xtake 21 (v := ?_) rfl (by kernel_rfl) (by kernel_rfl) (by kernel_rfl) rfl ?_ ?_ (by assumption) ?_
          rotate_left
          · intro w hSw; (try dsimp only at hSw); go_simp; with_reducible rfl
          · (exact fun _ _ _ hp => hp)
          try simp only [Act.put, List.setIfInBounds_toArray, List.set_cons_zero, List.set_cons_succ]
          refine wpAnyH_done (by kernel_rfl) ?_ _
          (revert hHeld2; intro _)
        rotate_left 1
        exact AllReadyH.nil
      rotate_left 1
      exact AllReadyH.nil
      have hA11 : Hid (AmtOk (l ++ (out2 ++ [mkP (mi + out2.length + 1) hour 2 ⟨x.party, x.parcel, nm⟩ yv]))) := by
        show AmtOk _
        rw [← List.append_assoc]; exact AmtOk.snoc hA.out (by have h1 := hnmx.out hnpos.out; have h2 := hnpos.out; unfold mkP; dsimp only; omega)
      clear hS11 hcl b0 bA hownA hstd
      go_wp2
      go_roundw
      case rel => exact ⟨j2 + 1, _, by omega, by go_num, by simp only [List.length_append, List.length_singleton]; exact congrArg (Value.int .i64) (by omega), hyes, by simp; omega, hW11.out, hA11, has_paid hhn.out (by have := hnpos.out; show 0 ≤ nm; omega)⟩
      case measure => simp [intOf]; omega
  case neg =>
    obtain rfl : n2 = j2 := by omega
    have hfin : Hid (settleOut l d cs hour = out2) := by
      show _ = _
      rw [hout2.out, List.take_of_length_le (by rw [Hn2.out]; exact Nat.le_refl _), hfull.out, settle_ref (chkL_pair hcd.out)]
    have hcode2 : Hid (settleCode l d cs hour = if 400 < n + out2.length ∨ (0 < out2.length ∧ 1000000 < mi + out2.length) then 2 else 0) := by
      show _ = _
      rw [hcode.out, hfin.out, ← Hn.out, hmi.out]
    have hBz := Lib.hid (hBf.out.trans (hbw.mono hwsb))
    have hsl : Hid (SlAt 8 pcells wr.heap.size wr (some ⟨gw, 0 + n * 8, none⟩) out2) := by
      have := SlAt.dropP (Own.slAt pcells_len (by omega) hst.out.own) n
      rwa [List.drop_left' Hn.out.symm] at this
    have hsame : Hid (∀ c, settleCode l d cs hour = c → c ≠ 0 → RSet l d cs hour w (.returned (.tuple #[.slice none 0 0, .int .i64 c])) wr) := fun c h1 h2 => RSet.no hBz.out h1 h2
    have hgood : Hid (settleCode l d cs hour = 0 → settleQ l d cs hour = out2) := fun h => by unfold settleQ; rw [if_pos h]; exact hfin.out
    obtain ⟨len, hlen⟩ : ∃ len, Hid (out2.length = len) := ⟨_, rfl⟩
    rw [hlen.out] at hcode2 hcw holen2 ⊢
    obtain ⟨nn, hnn⟩ : ∃ nn, n + len = nn := ⟨_, rfl⟩
    have hnle : n ≤ nn := by omega
    rw [hnn] at hcode2 hcw ⊢
    obtain ⟨iv, hiv⟩ : ∃ iv, mi + (len : Int) + 1 = iv := ⟨_, rfl⟩
    rw [hiv] at ⊢
    clear hst hA hbw hlk hout2 hlt2 hj2 hfull hcode hfin
    by_cases hA : 400 < nn
    case pos =>
      have hc2 : Hid (settleCode l d cs hour = 2) := by show _ = _; rw [hcode2.out, if_pos (.inl hA)]
      replace hnn := Lib.hid hnn
      replace hiv := Lib.hid hiv
      clear hcode2
      go_wp2
      go_ret2
      exact hsame.out _ hc2.out (by omega)
    case neg =>
    by_cases hB : n < nn
    case pos =>
      by_cases hC : 1000000 < iv - 1
      case pos =>
        have hc2 : Hid (settleCode l d cs hour = 2) := by show _ = _; rw [hcode2.out, if_pos (.inr (by omega))]
        have hivb : 0 ≤ iv ∧ iv ≤ 10000000 := by omega
        replace hnn := Lib.hid hnn
        replace hiv := Lib.hid hiv
        clear hcode2
        go_wp2
        go_ret2
        exact hsame.out _ hc2.out (by omega)
      case neg =>
        have hc2 : Hid (settleCode l d cs hour = 0) := by show _ = _; rw [hcode2.out, if_neg (by omega)]
        have hivb : 0 ≤ iv ∧ iv ≤ 10000000 := by omega
        have hcne : ¬ cw = n := by omega
        have hnlen : Hid (nn - n = len) := by show _ = _; omega
        replace hnn := Lib.hid hnn
        replace hiv := Lib.hid hiv
        clear hcode2
        go_wp2
        go_ret2
        refine ⟨hBz.out, _, _, _, by rw [hc2.out]; rfl, ?_, ?_⟩
        · rw [hgood.out hc2.out, hlen.out]; exact hnlen.out
        · rw [hgood.out hc2.out]; simpa using hsl.out
    case neg =>
      have hc2 : Hid (settleCode l d cs hour = 0) := by show _ = _; rw [hcode2.out, if_neg (by omega)]
      have hl0 : Hid (out2 = []) := by show _ = _; exact List.eq_nil_of_length_eq_zero (by rw [hlen.out]; omega)
      have hnlen : Hid (nn - n = 0) := by show _ = _; omega
      by_cases hcne : cw = n
      all_goals
        replace hnn := Lib.hid hnn
        replace hiv := Lib.hid hiv
        clear hcode2
        go_wp2
        go_ret2
        refine ⟨hBz.out, _, _, _, by rw [hc2.out]; rfl, ?_, ?_⟩
        · rw [hgood.out hc2.out, hl0.out]; exact hnlen.out
        · rw [hgood.out hc2.out, hl0.out]; exact .inl rfl
end Go.Proofs.YtoijlikmigejbaaGreat
