/- Walks: the reference's small functions. Walks: the reference's sums over postings. Walks: the reference's held, last, and its comparison of lists. Walks: why the reference refuses a posting. Walks: the reference's Check. -/
import Derived.Test.YtoijlikmigejbaaGreatG01
import Derived.StillTailTactics
namespace Go.Proofs.YtoijlikmigejbaaGreat
open Go.RowKit Go.Proofs.YtoijlikmigejbaaGreat.Pu

theorem rwithin (n a b : Int) (w : World) :
    Calls Tryz.prog 102 #[.int .i64 n, .int .i64 a, .int .i64 b] w fun e w' => e = .returned (.bool (inB n a b)) ∧ w = w' := by
  go_enter Tryz.func102, Tryz.ntmps102
  go_wp2
  all_goals (go_ret; simp_all [inB]; try omega)
theorem rhour (n : Int) (w : World) :
    Calls Tryz.prog 67 #[.int .i64 n] w fun e w' => e = .returned (.bool (inB n 0 1000000)) ∧ w = w' := by
  go_enter Tryz.func67, Tryz.ntmps67
  go_wp2_with (go_at_call 102; refine (rwithin _ _ _ _).mono ?_; rintro e w' ⟨rfl, rfl⟩)
  go_ret
  exact ⟨rfl, rfl⟩
theorem rparcel (n : Int) (w : World) :
    Calls Tryz.prog 101 #[.int .i64 n] w fun e w' => e = .returned (.bool (inB n 10 10000007)) ∧ w = w' := by
  go_enter Tryz.func101, Tryz.ntmps101
  go_wp2_with (go_at_call 102; refine (rwithin _ _ _ _).mono ?_; rintro e w' ⟨rfl, rfl⟩)
  go_ret
  exact ⟨rfl, rfl⟩
theorem rparty (n : Int) (w : World) :
    Calls Tryz.prog 100 #[.int .i64 n] w fun e w' => e = .returned (.bool (inB n 0 40)) ∧ w = w' := by
  go_enter Tryz.func100, Tryz.ntmps100
  go_wp2_with (go_at_call 102; refine (rwithin _ _ _ _).mono ?_; rintro e w' ⟨rfl, rfl⟩)
  go_ret
  exact ⟨rfl, rfl⟩

set_option maxHeartbeats 1000000 in
theorem rCheckPosting0 (id hour kind party parcel amount reason known : Int) (w : World) (c : Int) (hc : Hid (c = okE ⟨id, hour, kind, party, parcel, amount, reason, known⟩)) :
    Calls Tryz.prog 135 #[.agg #[.int .i64 id, .int .i64 hour, .int .u8 kind, .int .i64 party, .int .i64 parcel, .int .i64 amount, .int .i64 reason, .int .i64 known]] w
      fun e w' => e = .returned (.int .i64 c) ∧ Below w.heap.size w w' := by
  go_enter Tryz.func135, Tryz.ntmps135
  go_wp2_with (first | (go_at_call 102; refine (rwithin _ _ _ _).mono ?_; rintro e w' ⟨rfl, rfl⟩) | (go_at_call 67; refine (rhour _ _).mono ?_; rintro e w' ⟨rfl, rfl⟩) | (go_at_call 101; refine (rparcel _ _).mono ?_; rintro e w' ⟨rfl, rfl⟩) | (go_at_call 100; refine (rparty _ _).mono ?_; rintro e w' ⟨rfl, rfl⟩))
  all_goals go_ret
  all_goals (refine ⟨ret_int ?_, (Below.refl _ _).alloc (Nat.le_refl _) _⟩; rw [hc.out]; simp_all [okE, okP])
  all_goals (first | done | (simp_all [inB]; try omega))
theorem rCheckPosting (p : Post) (w : World) :
    Calls Tryz.prog 135 #[pval p] w fun e w' => e = .returned (.int .i64 (okE p)) ∧ Below w.heap.size w w' :=
  rCheckPosting0 _ _ _ _ _ _ _ _ w _ rfl
theorem rCheckPosting_ok (p : Post) (w : World) (h : okP p = true) :
    Calls Tryz.prog 135 #[pval p] w fun e w' => e = .returned (.int .i64 0) ∧ Below w.heap.size w w' :=
  rCheckPosting0 _ _ _ _ _ _ _ _ w _ (by rw [okE, h]; rfl)
theorem rCheckPosting_no (p : Post) (w : World) (h : okP p = false) :
    Calls Tryz.prog 135 #[pval p] w fun e w' => e = .returned (.int .i64 1) ∧ Below w.heap.size w w' :=
  rCheckPosting0 _ _ _ _ _ _ _ _ w _ (by rw [okE, h]; rfl)

end Go.Proofs.YtoijlikmigejbaaGreat

namespace Go.Proofs.YtoijlikmigejbaaGreat
open Go.RowKit Go.Proofs.YtoijlikmigejbaaGreat.Pu

set_option maxHeartbeats 1000000 in
theorem rsold (l : List Post) (n cap : Nat) (what : Int) (ao : Option Addr) (B : Nat) (w : World) (hn : Hid (n = l.length)) (hm : n ≤ 100000) (hs : SlAt 8 pcells B w ao l) (ha : AmtOk l) :
    Calls Tryz.prog 86 #[.slice ao n cap, .int .i64 what] w fun e w' => e = .returned (.int .i64 (sold l what)) ∧ w = w' := by
  go_enter Tryz.func86, Tryz.ntmps86
  go_wp2
  go_loop [5, 6] (fun s i => ∃ j : Nat, j ≤ n ∧ i = .int .i64 j ∧ s = .int .i64 (sold (l.take j) what)) (fun _ i => n - (intOf i).toNat)
  case atStart => exact ⟨0, Nat.zero_le _, rfl, rfl⟩
  case round =>
    obtain ⟨j, hj, rfl, rfl⟩ := hrel
    have hbd := sold_bd what (ha.take j)
    have hl : ((l.take j).length : Int) ≤ j := by have := List.length_take_le j l; omega
    by_cases hlt : j < n
    · obtain ⟨p, hp⟩ := getq (l := l) (j := j) (by rw [← hn.out]; exact hlt)
      have hstep := Lib.hid (sold_snoc hp what)
      have ham := ha.get hp
      obtain ⟨b, o, rfl, _, _, _, c2, _, c4, c5, _, _⟩ := hs.post hp
      obtain ⟨s, hse⟩ : ∃ s, s = sold (l.take j) what := ⟨_, rfl⟩
      rw [← hse] at hbd hstep ⊢
      clear hse hs ha hp
      go_wp2
      all_goals
        go_round
        case rel => exact ⟨j + 1, by omega, by go_num, by rw [hstep.out]; simp_all [soldOf]⟩
        case measure => simp [intOf]; omega
    · go_wp2
      go_ret
      exact ⟨ret_int (by rw [List.take_of_length_le (by rw [← hn.out]; omega)]), rfl⟩

set_option maxHeartbeats 1000000 in
theorem rhas (l : List Post) (n cap : Nat) (who what : Int) (ao : Option Addr) (B : Nat) (w : World) (hn : Hid (n = l.length)) (hm : n ≤ 100000) (hs : SlAt 8 pcells B w ao l) (ha : AmtOk l) :
    Calls Tryz.prog 71 #[.slice ao n cap, .int .i64 who, .int .i64 what] w fun e w' => e = .returned (.int .i64 (has l who what)) ∧ w = w' := by
  go_enter Tryz.func71, Tryz.ntmps71
  go_wp2
  go_loop [7, 8] (fun s i => ∃ j : Nat, j ≤ n ∧ i = .int .i64 j ∧ s = .int .i64 (has (l.take j) who what)) (fun _ i => n - (intOf i).toNat)
  case atStart => exact ⟨0, Nat.zero_le _, rfl, rfl⟩
  case round =>
    obtain ⟨j, hj, rfl, rfl⟩ := hrel
    have hbd := has_bd who what (ha.take j)
    have hl : ((l.take j).length : Int) ≤ j := by have := List.length_take_le j l; omega
    by_cases hlt : j < n
    · obtain ⟨p, hp⟩ := getq (l := l) (j := j) (by rw [← hn.out]; exact hlt)
      have hstep := Lib.hid (has_snoc hp who what)
      have ham := ha.get hp
      obtain ⟨b, o, rfl, _, _, _, c2, c3, c4, c5, _, _⟩ := hs.post hp
      obtain ⟨s, hse⟩ : ∃ s, s = has (l.take j) who what := ⟨_, rfl⟩
      rw [← hse] at hbd hstep ⊢
      clear hse hs ha hp
      go_wp2
      all_goals
        go_round
        case rel => exact ⟨j + 1, by omega, by go_num, by rw [hstep.out]; simp_all [hasOf]; try omega⟩
        case measure => simp [intOf]; omega
    · go_wp2
      go_ret
      exact ⟨ret_int (by rw [List.take_of_length_le (by rw [← hn.out]; omega)]), rfl⟩

end Go.Proofs.YtoijlikmigejbaaGreat

namespace Go.Proofs.YtoijlikmigejbaaGreat
open Go.RowKit Go.Proofs.YtoijlikmigejbaaGreat.Pu

set_option maxHeartbeats 1000000 in
theorem rheld (l : List Post) (n cap : Nat) (what : Int) (ao : Option Addr) (B : Nat) (w : World) (hn : Hid (n = l.length)) (hm : n ≤ 100000) (hs : SlAt 8 pcells B w ao l) (ha : AmtOk l) :
    Calls Tryz.prog 72 #[.slice ao n cap, .int .i64 what] w fun e w' => e = .returned (.int .i64 (held l what)) ∧ w = w' := by
  have hsb := sold_bd what ha
  have hll : ((l.length : Nat) : Int) ≤ 100000 := by rw [← hn.out]; omega
  obtain ⟨s0, hs0⟩ : ∃ s0, Hid (s0 = sold l what) := ⟨_, rfl⟩
  go_enter Tryz.func72, Tryz.ntmps72
  go_wp2_with (go_at_call 86; refine (rsold l _ _ _ _ B _ hn hm hs ha).mono ?_; rintro e w' ⟨rfl, rfl⟩)
  rw [← hs0.out] at hsb ⊢
  go_loop [5, 6] (fun s i => ∃ j : Nat, j ≤ 41 ∧ i = .int .i64 j ∧ s = .int .i64 (s0 - hasUpto l what j)) (fun _ i => 41 - (intOf i).toNat)
  case atStart => exact ⟨0, Nat.zero_le _, rfl, by simp [hasUpto]⟩
  case round =>
    obtain ⟨j, hj, rfl, rfl⟩ := hrel
    have hbd := hasUpto_bd what ha j
    have hbj : (j : Int) * (l.length * 1000000000) ≤ 41 * (100000 * 1000000000) := Int.mul_le_mul (by omega) (by omega) (by omega) (by omega)
    by_cases hlt : j < 41
    · have hb2 := has_bd j what ha
      have hstep : hasUpto l what (j + 1) = hasUpto l what j + has l j what := rfl
      have Hst := Lib.hid hstep
      clear hstep
      obtain ⟨u, hu⟩ : ∃ u, u = hasUpto l what j := ⟨_, rfl⟩
      have hu' := Lib.hid hu
      rw [← hu] at hbd
      rw [← hu]
      have hbd1 : -4100000000000000 ≤ u ∧ u ≤ 4100000000000000 := by omega
      have hb3 : -100000000000000 ≤ has l j what ∧ has l j what ≤ 100000000000000 := by omega
      clear hu hbd hb2 hbj
      go_wp2_with (go_at_call 71; refine (rhas l _ _ _ _ _ B _ hn hm hs ha).mono ?_; rintro e w' ⟨rfl, rfl⟩)
      go_round
      case rel => exact ⟨j + 1, by omega, by go_num, by rw [Hst.out, ← hu'.out]; congr 1; omega⟩
      case measure => simp [intOf]; omega
    · obtain rfl : j = 41 := by omega
      go_wp2
      go_ret
      exact ⟨ret_int (by rw [hs0.out]; rfl), rfl⟩

def LastRes (r : Option Post) (w : World) (e : Ending) (w' : World) : Prop := e = .returned (.tuple #[pval (r.getD zeroP), .bool r.isSome]) ∧ Below w.heap.size w w'

set_option maxHeartbeats 1000000 in
theorem rlast (l : List Post) (n cap : Nat) (who what : Int) (ao : Option Addr) (B : Nat) (w : World) (hn : Hid (n = l.length)) (hm : n ≤ 100000) (hs : SlAt 8 pcells B w ao l) (hB : B ≤ w.heap.size) :
    Calls Tryz.prog 70 #[.slice ao n cap, .int .i64 who, .int .i64 what] w (LastRes (last l who what) w) := by
  go_enter Tryz.func70, Tryz.ntmps70
  go_wp2
  go_loop [8] (fun i => ∃ j : Nat, j ≤ n ∧ i = .int .i64 ((j : Int) - 1) ∧ Hid (last (l.drop j) who what = none)) (fun i => (intOf i + 1).toNat)
  case atStart => exact ⟨n, Nat.le_refl _, rfl, by rw [hn.out]; simp [Hid, last]⟩
  case round =>
    obtain ⟨j, hj, rfl, hno⟩ := hrel
    by_cases h0 : j = 0
    · subst h0
      go_wp2
      refine bodyPost_ret (v := .tuple #[pval zeroP, .bool false]) (by simp [results, Tryz.results70, go_sem, zeroP]) rfl ⟨?_, ?_⟩
      · have := hno.out
        rw [List.drop_zero] at this
        rw [this]; rfl
      · exact (Below.refl _ _).alloc (Nat.le_refl _) _
    · obtain ⟨i, rfl⟩ : ∃ i, j = i + 1 := ⟨j - 1, by omega⟩
      obtain ⟨p, hp⟩ := getq (l := l) (j := i) (by rw [← hn.out]; omega)
      have hp' := Lib.hid hp
      obtain ⟨b, o, rfl, hb0, c0, c1, c2, c3, c4, c5, c6, c7⟩ := hs.post hp
      have hb : b < w.heap.size := Nat.lt_of_lt_of_le hb0 hB
      clear hs hp hb0
      have hei : (((i + 1 : Nat) : Int) - 1) = (i : Int) := by omega
      rw [hei]
      clear hei
      go_wp2
      · have hq : isPay who what p = true := by simp_all [isPay]
        refine bodyPost_ret (v := .tuple #[pval p, .bool true]) (by simp [results, Tryz.results70, go_sem]; exact ⟨Eq.symm ‹_›, Eq.symm ‹_›⟩) rfl ⟨?_, ?_⟩
        · rw [last_some_drop hp'.out hq hno.out]; rfl
        · exact (Below.refl _ _).alloc (Nat.le_refl _) _
      all_goals
        have hq : isPay who what p = false := by simp_all [isPay]
        exact ⟨⟨i, by omega, rfl, Lib.hid (last_none_drop hp'.out hq hno.out)⟩, by simp [intOf]⟩

/-- the reference's comparison of lists of postings -/
theorem rSamePostings (l m : List Post) (n1 c1 n2 c2 : Nat) (a1 a2 : Option Addr) (B : Nat) (w : World) (hn1 : Hid (n1 = l.length)) (hn2 : Hid (n2 = m.length)) (hm1 : n1 ≤ 100000) (hm2 : n2 ≤ 100000)
    (hs1 : SlAt 8 pcells B w a1 l) (hs2 : SlAt 8 pcells B w a2 m) (hB : B ≤ w.heap.size) (heq : Hid (l = m)) :
    Calls Tryz.prog 14 #[.slice a1 n1 c1, .slice a2 n2 c2] w fun e w' => e = .returned (.bool true) ∧ Below w.heap.size w w' := by
  have h12 : n1 = n2 := by rw [hn1.out, hn2.out, heq.out]
  subst h12
  go_enter Tryz.func14, Tryz.ntmps14
  go_wp2
  go_loopw [5] (fun i wr => ∃ j : Nat, j ≤ n1 ∧ i = .int .i64 j ∧ Below w.heap.size w wr) (fun i _ => n1 - (intOf i).toNat)
  case atStart => exact ⟨0, Nat.zero_le _, rfl, Below.refl _ _⟩
  case round =>
    obtain ⟨j, hj, rfl, hb⟩ := hrel
    by_cases hlt : j < n1
    · obtain ⟨p, hp⟩ := getq (l := l) (j := j) (by rw [← hn1.out]; exact hlt)
      obtain ⟨b, o, rfl, hb0, c0, c1, c2, c3, c4, c5, c6, c7⟩ := (hs1.below (hb.mono hB)).post hp
      obtain ⟨b', o', rfl, hb0', d0, d1, d2, d3, d4, d5, d6, d7⟩ := (hs2.below (hb.mono hB)).post (heq.out ▸ hp)
      clear hs1 hs2 hp
      go_wp2
      go_quiet (fail)
      go_wp2
      go_roundw
      case rel => exact ⟨j + 1, by omega, by go_num, below_drewN hb _⟩
      case measure => simp [intOf]; omega
    · go_wp2
      go_ret
      exact ⟨rfl, hb⟩
end Go.Proofs.YtoijlikmigejbaaGreat

namespace Go.Proofs.YtoijlikmigejbaaGreat
open Go.RowKit Go.Proofs.YtoijlikmigejbaaGreat.Pu

def RetB (c : Int) (w : World) (e : Ending) (w' : World) : Prop := e = .returned (.int .i64 c) ∧ Below w.heap.size w w'

set_option maxRecDepth 100000 in
set_option maxHeartbeats 2000000 in
theorem rrefused (l : List Post) (p : Post) (n cap : Nat) (ao : Option Addr) (B : Nat) (w : World) (hn : Hid (n = l.length)) (hm : n ≤ 100000) (hs : SlAt 8 pcells B w ao l) (ha : AmtOk l) (hB : B ≤ w.heap.size) :
    Calls Tryz.prog 115 #[.slice ao n cap, pval p] w (RetB (refused l p) w) := by
  have hB1 : Below w.heap.size w (w.alloc (.cells #[.int .i64 p.id, .int .i64 p.hour, .int .u8 p.kind, .int .i64 p.party, .int .i64 p.parcel, .int .i64 p.amount, .int .i64 p.reason, .int .i64 p.known] 36)) := (Below.refl _ _).alloc (Nat.le_refl _) _
  by_cases h1 : 400 ≤ n
  · have hr : refused l p = 2 := by unfold refused; rw [if_pos (by rw [← hn.out]; exact h1)]
    rw [hr]
    clear hr
    go_enter Tryz.func115, Tryz.ntmps115
    go_wp2
    go_ret
    exact ⟨rfl, hB1⟩
  by_cases h2 : okP p = true
  case neg =>
    have h2' : okP p = false := by simpa using h2
    have hr : refused l p = 1 := by unfold refused; rw [if_neg (by rw [← hn.out]; exact h1), if_pos (by rw [h2']; rfl)]
    rw [hr]
    have h2h := Lib.hid h2'
    clear hr h2 h2'
    go_enter Tryz.func115, Tryz.ntmps115
    go_wp2_with (go_at_call 135; refine (rCheckPosting_no p _ h2h.out).mono ?_; rintro e w1 ⟨rfl, hb1⟩)
    go_ret
    exact ⟨rfl, hB1.trans (hb1.mono (by simp))⟩
  have h2h := Lib.hid h2
  clear h2
  go_enter Tryz.func115, Tryz.ntmps115
  go_wp2_with (go_at_call 135; refine (rCheckPosting_ok p _ h2h.out).mono ?_; rintro e w1 ⟨rfl, hb1⟩)
  have hP : PBox w1 w.heap.size p := (PBox.new w p 36).below hb1 (by simp)
  have hW : Below w.heap.size w w1 := hB1.trans (hb1.mono (by simp))
  clear hB1 hb1
  go_loopw [5] (fun i wr => ∃ j : Nat, j ≤ n ∧ i = .int .i64 j ∧ Below w1.heap.size w1 wr ∧ Hid ((l.take j).any (fun q => q.id == p.id) = false)) (fun i _ => n - (intOf i).toNat)
  case atStart => exact ⟨0, Nat.zero_le _, rfl, Below.refl _ _, rfl⟩
  case round =>
    obtain ⟨j, hj, rfl, hb, hno⟩ := hrel
    have hWr : Below w.heap.size w wr := hW.trans (hb.mono hW.size)
    have hPr := hP.below hb hP.lt
    have hP' := hPr
    obtain ⟨hlt0, p0, p1, p2, p3, p4, p5, p6, p7⟩ := hPr
    by_cases hlt : j < n
    · obtain ⟨q, hq⟩ := getq (l := l) (j := j) (by rw [← hn.out]; exact hlt)
      obtain ⟨b, o, rfl, hb0, c0, _, _, _, _, _, _, _⟩ := (hs.below (hWr.mono hB)).post hq
      have hq' := Lib.hid hq
      clear hs hq p1 p2 p3 p4 p5 p6 p7
      by_cases heq : q.id = p.id
      · have hr : refused l p = 6 := by
          unfold refused
          rw [if_neg (by rw [← hn.out]; exact h1), if_neg (by rw [h2h.out]; simp), if_pos]
          exact List.any_eq_true.2 ⟨q, List.mem_of_getElem? hq'.out, by simp [heq]⟩
        rw [hr]
        clear hr
        have e1 : (q.id == p.id) = true := by simp [heq]
        clear heq
        go_wp2
        go_quiet (fail)
        go_wp2
        go_ret
        exact ⟨rfl, below_drewN hWr _⟩
      · have e1 : (q.id == p.id) = false := by simp [heq]
        clear heq
        have e2 := Lib.hid e1
        go_wp2
        go_quiet (fail)
        go_wp2
        go_roundw
        case rel => exact ⟨j + 1, by omega, by go_num, below_drewN hb _, by unfold Hid; rw [take_snoc hq'.out, List.any_append, hno.out]; simp [e2.out]⟩
        case measure => simp [intOf]; omega
    · obtain rfl : j = n := by omega
      have hno' : l.any (fun q => q.id == p.id) = false := by have := hno.out; rwa [hn.out, List.take_length] at this
      have hNo := Lib.hid hno'
      clear hno hno' hlt hj
      by_cases hn0 : 0 < j
      · obtain ⟨q, hq⟩ := getq (l := l) (j := j - 1) (by rw [← hn.out]; omega)
        have hlast : lastHour l = q.hour := by unfold lastHour; rw [List.getLast?_eq_getElem?, ← hn.out, hq]
        have hLast := Lib.hid hlast
        obtain ⟨b, o, rfl, hb0, _, c1, _, _, _, _, _, _⟩ := (hs.below (hWr.mono hB)).post hq
        clear hq hlast
        have hd0 : decide ((0 : Int) < (j : Int)) = true := by simp; omega
        by_cases htime : p.hour < q.hour
        · go_wp2
          go_quiet (fail)
          go_wp2
          go_ret
          have hr : refused l p = 7 := by
            unfold refused
            rw [if_neg (by rw [← hn.out]; exact h1), if_neg (by rw [h2h.out]; simp), if_neg (by rw [hNo.out]; simp), if_pos ⟨by rw [← hn.out]; exact hn0, by rw [hLast.out]; exact htime⟩]
          rw [hr]
          exact ⟨rfl, below_drewN hWr _⟩
        · have hr : refused l p = refusedTail l p := refused_tail (by rw [← hn.out]; exact h1) h2h.out hNo.out (by rw [hLast.out]; exact fun h => htime h.2)
          have Hr0 := Lib.hid hr
          clear hr
          by_cases hk1 : p.kind = 1
          · have kb : (p.kind == 1) = true := by simp [hk1]
            by_cases hso : 0 < sold l p.parcel
            · have hr : refusedTail l p = 6 := by unfold refusedTail; rw [if_pos hk1, if_pos hso]
              have Hr := Lib.hid (Hr0.out.trans hr)
              clear hr hk1
              go_wp2
              go_quiet (fail)
              go_wp2_with (go_at_call 86; refine (rsold l _ _ _ _ B _ hn hm (by exact hs.below (below_drewN (hWr.mono hB) _)) ha).mono ?_; rintro e w' ⟨rfl, rfl⟩)
              go_ret
              exact ⟨ret_hid Hr, (below_drewN hWr _)⟩
            · have hr : refusedTail l p = 0 := by unfold refusedTail; rw [if_pos hk1, if_neg hso]
              have Hr := Lib.hid (Hr0.out.trans hr)
              clear hr hk1
              go_wp2
              go_quiet (fail)
              go_wp2_with (go_at_call 86; refine (rsold l _ _ _ _ B _ hn hm (by exact hs.below (below_drewN (hWr.mono hB) _)) ha).mono ?_; rintro e w' ⟨rfl, rfl⟩)
              go_ret
              exact ⟨ret_hid Hr, (below_drewN hWr _)⟩
          have kb : (p.kind == 1) = false := by simp [hk1]
          by_cases hso : sold l p.parcel = 0
          · have hr : refusedTail l p = 5 := by unfold refusedTail; rw [if_neg hk1, if_pos hso]
            have sb : (sold l p.parcel == 0) = true := by simp [hso]
            have Hr := Lib.hid (Hr0.out.trans hr)
            clear hr hk1 hso
            go_wp2
            go_quiet (fail)
            go_wp2_with (go_at_call 86; refine (rsold l _ _ _ _ B _ hn hm (by exact hs.below (below_drewN (hWr.mono hB) _)) ha).mono ?_; rintro e w' ⟨rfl, rfl⟩)
            go_ret
            exact ⟨ret_hid Hr, (below_drewN hWr _)⟩
          have sb : (sold l p.parcel == 0) = false := by simp [hso]
          by_cases hk2 : p.kind = 2
          · have kc : (p.kind == 2) = true := by simp [hk2]
            by_cases hpo : held l p.parcel < p.amount
            · have hr : refusedTail l p = 70 := by unfold refusedTail; rw [if_neg hk1, if_neg hso, if_pos hk2, if_pos hpo]
              have Hr := Lib.hid (Hr0.out.trans hr)
              clear hr hk1 hso hk2
              go_wp2
              go_quiet (fail)
              go_wp2_with (go_at_call 86; refine (rsold l _ _ _ _ B _ hn hm (by exact hs.below (below_drewN (hWr.mono hB) _)) ha).mono ?_; rintro e w' ⟨rfl, rfl⟩)
              go_quiet ((go_at_call 72; exact quietA (rheld l _ _ _ _ B _ hn hm (by exact hs.below (below_drewN (hWr.mono hB) _)) ha)))
              go_wp2
              go_ret
              exact ⟨ret_hid Hr, below_drewN (below_drewN hWr _) _⟩
            · have hr : refusedTail l p = 0 := by unfold refusedTail; rw [if_neg hk1, if_neg hso, if_pos hk2, if_neg hpo]
              have Hr := Lib.hid (Hr0.out.trans hr)
              clear hr hk1 hso hk2
              go_wp2
              go_quiet (fail)
              go_wp2_with (go_at_call 86; refine (rsold l _ _ _ _ B _ hn hm (by exact hs.below (below_drewN (hWr.mono hB) _)) ha).mono ?_; rintro e w' ⟨rfl, rfl⟩)
              go_quiet ((go_at_call 72; exact quietA (rheld l _ _ _ _ B _ hn hm (by exact hs.below (below_drewN (hWr.mono hB) _)) ha)))
              go_wp2
              go_ret
              exact ⟨ret_hid Hr, below_drewN (below_drewN hWr _) _⟩
          have kc : (p.kind == 2) = false := by simp [hk2]
          by_cases hpo : has l p.party p.parcel < p.amount
          · have hr : refusedTail l p = 70 := by unfold refusedTail; rw [if_neg hk1, if_neg hso, if_neg hk2, if_pos hpo]
            have Hr := Lib.hid (Hr0.out.trans hr)
            clear hr hk1 hso hk2
            go_wp2
            go_quiet (fail)
            go_wp2_with (go_at_call 86; refine (rsold l _ _ _ _ B _ hn hm (by exact hs.below (below_drewN (hWr.mono hB) _)) ha).mono ?_; rintro e w' ⟨rfl, rfl⟩)
            go_quiet ((go_at_call 71; exact quietA (rhas l _ _ _ _ _ B _ hn hm (by exact hs.below (below_drewN (hWr.mono hB) _)) ha)))
            go_wp2
            go_ret
            exact ⟨ret_hid Hr, below_drewN (below_drewN hWr _) _⟩
          by_cases hre : p.known ≤ ((last l p.party p.parcel).getD zeroP).known
          · have hr : refusedTail l p = 71 := by unfold refusedTail; rw [if_neg hk1, if_neg hso, if_neg hk2, if_neg hpo, if_pos hre]
            have Hr := Lib.hid (Hr0.out.trans hr)
            clear hr hk1 hso hk2
            go_wp2
            go_quiet (fail)
            go_wp2_with (go_at_call 86; refine (rsold l _ _ _ _ B _ hn hm (by exact hs.below (below_drewN (hWr.mono hB) _)) ha).mono ?_; rintro e w' ⟨rfl, rfl⟩)
            go_quiet ((go_at_call 71; exact quietA (rhas l _ _ _ _ _ B _ hn hm (by exact hs.below (below_drewN (hWr.mono hB) _)) ha)))
            go_wp2_with (go_at_call 70; refine (rlast l _ _ _ _ _ B _ hn hm (by exact hs.below (below_drewN (hWr.mono hB) _)) (by exact Nat.le_trans hB (below_drewN hWr _).size)).mono ?_; rintro e w2 ⟨rfl, hb2⟩; have hP2 := (hP'.below (below_drewN (Below.refl wr.heap.size wr) _) hP'.lt).below hb2 (by exact hP'.lt); have hlt2 := hP2.lt; have q7 := hP2.c7; clear hP2)
            go_ret
            exact ⟨ret_hid Hr, ((below_drewN (hWr) _).trans (hb2.mono (by exact hWr.size))).alloc (Nat.le_of_lt hlt2) _⟩
          · have hr : refusedTail l p = 0 := by unfold refusedTail; rw [if_neg hk1, if_neg hso, if_neg hk2, if_neg hpo, if_neg hre]
            have Hr := Lib.hid (Hr0.out.trans hr)
            clear hr hk1 hso hk2
            go_wp2
            go_quiet (fail)
            go_wp2_with (go_at_call 86; refine (rsold l _ _ _ _ B _ hn hm (by exact hs.below (below_drewN (hWr.mono hB) _)) ha).mono ?_; rintro e w' ⟨rfl, rfl⟩)
            go_quiet ((go_at_call 71; exact quietA (rhas l _ _ _ _ _ B _ hn hm (by exact hs.below (below_drewN (hWr.mono hB) _)) ha)))
            go_wp2_with (go_at_call 70; refine (rlast l _ _ _ _ _ B _ hn hm (by exact hs.below (below_drewN (hWr.mono hB) _)) (by exact Nat.le_trans hB (below_drewN hWr _).size)).mono ?_; rintro e w2 ⟨rfl, hb2⟩; have hP2 := (hP'.below (below_drewN (Below.refl wr.heap.size wr) _) hP'.lt).below hb2 (by exact hP'.lt); have hlt2 := hP2.lt; have q7 := hP2.c7; clear hP2)
            go_ret
            exact ⟨ret_hid Hr, ((below_drewN (hWr) _).trans (hb2.mono (by exact hWr.size))).alloc (Nat.le_of_lt hlt2) _⟩
      · obtain rfl : j = 0 := by omega
        have hl : l = [] := List.eq_nil_of_length_eq_zero (by rw [← hn.out])
        have hso : sold l p.parcel = 0 := by rw [hl]; rfl
        have hr : refused l p = refusedTail l p := refused_tail (by rw [← hn.out]; exact h1) h2h.out hNo.out (by rw [← hn.out]; exact fun h => hn0 h.1)
        have Hr0 := Lib.hid hr
        clear hr hl
        have hd0 : decide ((0 : Int) < ((0 : Nat) : Int)) = false := by simp
        by_cases hk1 : p.kind = 1
        · have kb : (p.kind == 1) = true := by simp [hk1]
          have hr : refusedTail l p = 0 := by unfold refusedTail; rw [if_pos hk1, if_neg (by omega)]
          have Hr := Lib.hid (Hr0.out.trans hr)
          have hso' : ¬ 0 < sold l p.parcel := by omega
          clear hr hk1 hso
          go_wp2
          go_quiet (fail)
          go_wp2_with (go_at_call 86; refine (rsold l _ _ _ _ B _ hn hm (by exact hs.below (below_drewN (hWr.mono hB) _)) ha).mono ?_; rintro e w' ⟨rfl, rfl⟩)
          go_ret
          exact ⟨ret_hid Hr, below_drewN hWr _⟩
        · have kb : (p.kind == 1) = false := by simp [hk1]
          have hr : refusedTail l p = 5 := by unfold refusedTail; rw [if_neg hk1, if_pos hso]
          have Hr := Lib.hid (Hr0.out.trans hr)
          have sb : (sold l p.parcel == 0) = true := by simp [hso]
          clear hr hk1 hso
          go_wp2
          go_quiet (fail)
          go_wp2_with (go_at_call 86; refine (rsold l _ _ _ _ B _ hn hm (by exact hs.below (below_drewN (hWr.mono hB) _)) ha).mono ?_; rintro e w' ⟨rfl, rfl⟩)
          go_ret
          exact ⟨ret_hid Hr, below_drewN hWr _⟩
end Go.Proofs.YtoijlikmigejbaaGreat

namespace Go.Proofs.YtoijlikmigejbaaGreat
open Go.RowKit Go.Proofs.YtoijlikmigejbaaGreat.Pu

def RetII (c : Int × Int) (w : World) (e : Ending) (w' : World) : Prop := e = .returned (.tuple #[.int .i64 c.1, .int .i64 c.2]) ∧ Below w.heap.size w w'

set_option maxRecDepth 100000 in
set_option maxHeartbeats 2000000 in
theorem rCheck (l : List Post) (n cap : Nat) (ao : Option Addr) (B : Nat) (w : World) (hn : Hid (n = l.length)) (hm : n ≤ 100000) (hcap : n ≤ cap) (hs : SlAt 8 pcells B w ao l) (hB : B ≤ w.heap.size) :
    Calls Tryz.prog 66 #[.slice ao n cap] w (RetII (check l) w) := by
  go_enter Tryz.func66, Tryz.ntmps66
  go_wp2
  go_loopw [4, 5] (fun i x wr => ∃ j : Nat, j ≤ n ∧ i = .int .i64 j ∧ Below w.heap.size w wr ∧ Hid (BookTo l j)) (fun i _ _ => n - (intOf i).toNat)
  case atStart => exact ⟨0, Nat.zero_le _, rfl, Below.refl _ _, fun k p hk => by omega⟩
  case round =>
    obtain ⟨j, hj, rfl, hb, hbk⟩ := hrel
    by_cases hlt : j < n
    · obtain ⟨p, hp⟩ := getq (l := l) (j := j) (by rw [← hn.out]; exact hlt)
      have hs' := hs.below (hb.mono hB)
      obtain ⟨b, o, rfl, hb0, c0, c1, c2, c3, c4, c5, c6, c7⟩ := hs'.post hp
      have hp' := Lib.hid hp
      have hlen : Hid (j = (l.take j).length) := by unfold Hid; rw [List.length_take, ← hn.out]; omega
      have hjc : j ≤ cap := by omega
      have ham : AmtOk (l.take j) := hbk.out.amtOk
      have hst := hs'.take j
      clear hp hs'
      obtain ⟨c, hc⟩ : ∃ c, Hid (refused (l.take j) p = c) := ⟨_, rfl⟩
      by_cases hr : c = 0
      · subst hr
        go_wp2
        go_still_tail 8, (by kernel_rfl)
        go_wp2_with (go_at_call 115; refine (rrefused (l.take j) p _ _ _ B _ hlen (by omega) (by exact hst) ham (by exact Nat.le_trans hB hb.size)).mono ?_; rintro e w1 ⟨he, hb1⟩; rw [hc.out] at he; subst he)
        go_roundw
        case rel => exact ⟨j + 1, by omega, by go_num, hb.drew.trans (hb1.mono hb.size), Lib.hid (bookTo_succ hbk.out hp'.out hc.out)⟩
        case measure => simp [intOf]; omega
      · have hr2 : (c != 0) = true := by simp [hr]
        have hfin : check l = ((j : Int), c) := by rw [← hc.out]; exact check_bad hbk.out hp'.out (by rw [hc.out]; exact hr)
        have Hf := Lib.hid hfin
        clear hfin hr
        go_wp2
        go_still_tail 8, (by kernel_rfl)
        go_wp2_with (go_at_call 115; refine (rrefused (l.take j) p _ _ _ B _ hlen (by omega) (by exact hst) ham (by exact Nat.le_trans hB hb.size)).mono ?_; rintro e w1 ⟨he, hb1⟩; rw [hc.out] at he; subst he)
        go_ret2
        exact ⟨by rw [Hf.out]; rfl, hb.drew.trans (hb1.mono hb.size)⟩
    · obtain rfl : j = n := by omega
      have hfin : check l = (0, 0) := check_book (bookTo_all (by have := hbk.out; rwa [hn.out] at this))
      have Hf := Lib.hid hfin
      clear hfin
      go_wp2
      go_ret2
      exact ⟨by rw [Hf.out]; rfl, hb⟩
end Go.Proofs.YtoijlikmigejbaaGreat
