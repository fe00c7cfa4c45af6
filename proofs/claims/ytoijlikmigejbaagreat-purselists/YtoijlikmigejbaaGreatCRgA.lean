/- Walks: the reference's CheckDues, CheckCauses, compared, due, cause. -/
import Derived.Test.YtoijlikmigejbaaGreatG08
import Derived.Test.YtoijlikmigejbaaGreatG02
import Derived.Test.YtoijlikmigejbaaGreatG06
namespace Go.Proofs.YtoijlikmigejbaaGreat
open Go.RowKit Go.Proofs.YtoijlikmigejbaaGreat.Pu

theorem ltD_dec (a b : Due) : ltD a b = decide (a.parcel < b.parcel ∨ a.parcel = b.parcel ∧ a.party < b.party) := by
  unfold ltD cmpA orI cmpI
  by_cases h1 : a.parcel < b.parcel
  · simp [h1]
  · by_cases h2 : b.parcel < a.parcel
    · have h3 : ¬ a.parcel = b.parcel := by omega
      simp [h1, h2, h3]
    · have h3 : a.parcel = b.parcel := by omega
      by_cases h4 : a.party < b.party
      · simp [h3, h4]
      · by_cases h5 : b.party < a.party <;> simp [h3, h4, h5]
theorem ltD_no {a b : Due} (h : b.parcel < a.parcel ∨ b.parcel = a.parcel ∧ b.party ≤ a.party) : ltD a b = false := by
  rw [ltD_dec]; simp; omega
theorem ltD_yes {a b : Due} (h : a.parcel < b.parcel ∨ a.parcel = b.parcel ∧ a.party < b.party) : ltD a b = true := by
  rw [ltD_dec]; simpa using h
theorem okAt_bad {α : Type} {ok : α → Bool} {lt : α → α → Bool} {l : List α} {i : Nat} {x : α} (hx : l[i]? = some x) (h : ok x = false) : okAt ok lt l i = false := by
  unfold okAt; rw [hx]; simp [h]
theorem okAt_less {α : Type} {ok : α → Bool} {lt : α → α → Bool} {l : List α} {i : Nat} {x y : α} (hx : l[i + 1]? = some x) (hy : l[i]? = some y) (h : lt y x = false) : okAt ok lt l (i + 1) = false := by
  unfold okAt; rw [hx]; simp [hy, h]
theorem okAt_zero {α : Type} {ok : α → Bool} {lt : α → α → Bool} {l : List α} {x : α} (hx : l[0]? = some x) (h : ok x = true) : okAt ok lt l 0 = true := by
  unfold okAt; rw [hx]; simp [h]
theorem okAt_next {α : Type} {ok : α → Bool} {lt : α → α → Bool} {l : List α} {i : Nat} {x y : α} (hx : l[i + 1]? = some x) (hy : l[i]? = some y) (h : ok x = true) (hl : lt y x = true) : okAt ok lt l (i + 1) = true := by
  unfold okAt; rw [hx]; simp [hy, h, hl]

set_option maxRecDepth 100000 in
set_option maxHeartbeats 4000000 in
theorem rCheckDues {d : List Due} {n cap : Nat} {ao : Option Addr} {B : Nat} {w : World} (h : DIn d n cap ao B w) :
    Calls Tryz.prog 42 #[.slice ao n cap] w fun e w' => e = .returned (.int .i64 (chkL okD ltD d)) ∧ Below w.heap.size w w' := by
  have hB := h.hB
  have hcap := h.hcap
  have hm := h.hm
  have Hn := Lib.hid h.hn
  by_cases hlong : 400 < n
  · have hc : chkL okD ltD d = 2 := chkL_long (by rw [← Hn.out]; exact hlong)
    go_enter Tryz.func42, Tryz.ntmps42
    go_wp2
    go_ret
    exact ⟨by rw [hc]; rfl, Below.refl _ _⟩
  go_enter Tryz.func42, Tryz.ntmps42
  go_wp2
  go_loopw [3] (fun i wr => ∃ j : Nat, j ≤ n ∧ i = .int .i64 j ∧ Below w.heap.size w wr ∧ Hid (∀ i, i < j → okAt okD ltD d i = true)) (fun i _ => n - (intOf i).toNat)
  case atStart => exact ⟨0, Nat.zero_le _, rfl, Below.refl _ _, fun i hi => by omega⟩
  case round =>
    obtain ⟨j, hj, rfl, hb, hok⟩ := hrel
    by_cases hlt : j < n
    · obtain ⟨x, hx⟩ := getq (l := d) (j := j) (by rw [← Hn.out]; exact hlt)
      have hs' := h.hs.below (hb.mono hB)
      obtain ⟨b, o, rfl, hb0, c0, c1, c2⟩ := hs'.due hx
      obtain ⟨v0, hv0⟩ : ∃ v, Hid (inB x.party 0 40 = v) := ⟨_, rfl⟩
      obtain ⟨v1, hv1⟩ : ∃ v, Hid (inB x.parcel 10 10000007 = v) := ⟨_, rfl⟩
      obtain ⟨v2, hv2⟩ : ∃ v, Hid (inB x.amount 0 1000000000 = v) := ⟨_, rfl⟩
      have hokx : Hid (okD x = (v1 && v0 && v2)) := by show _ = _; unfold okD; rw [hv0.out, hv1.out, hv2.out]
      replace hx := Lib.hid hx
      replace hb := Lib.hid hb
      by_cases hall : v0 = true ∧ v1 = true ∧ v2 = true
      case neg =>
        have hbad : Hid (chkL okD ltD d = 1) := chkL_bad (by rw [← Hn.out]; omega) (i := j) (by rw [← Hn.out]; omega) (okAt_bad hx.out (by rw [hokx.out]; cases v0 <;> cases v1 <;> cases v2 <;> simp_all))
        clear hs' hokx
        cases v0 with
        | false =>
          go_wp2_with (go_at_call 100; refine (rparty x.party wr).mono ?_; rintro e w1 ⟨rfl, rfl⟩; rw [hv0.out])
          go_ret
          exact ⟨by rw [hbad.out]; rfl, hb.out⟩
        | true =>
          cases v1 with
          | false =>
            go_wp2_with (first | (go_at_call 100; refine (rparty x.party wr).mono ?_; rintro e w1 ⟨rfl, rfl⟩; rw [hv0.out]) | (go_at_call 101; refine (rparcel x.parcel wr).mono ?_; rintro e w1 ⟨rfl, rfl⟩; rw [hv1.out]))
            go_ret
            exact ⟨by rw [hbad.out]; rfl, hb.out⟩
          | true =>
            obtain rfl : v2 = false := by cases v2 <;> simp_all
            go_wp2_with (first | (go_at_call 100; refine (rparty x.party wr).mono ?_; rintro e w1 ⟨rfl, rfl⟩; rw [hv0.out]) | (go_at_call 101; refine (rparcel x.parcel wr).mono ?_; rintro e w1 ⟨rfl, rfl⟩; rw [hv1.out]) | (go_at_call 102; refine (rwithin x.amount 0 1000000000 wr).mono ?_; rintro e w1 ⟨rfl, rfl⟩; rw [hv2.out]))
            go_ret
            exact ⟨by rw [hbad.out]; rfl, hb.out⟩
      case pos =>
        obtain ⟨rfl, rfl, rfl⟩ := hall
        replace hokx : Hid (okD x = true) := hokx.out
        cases j with
        | zero =>
          rw [show o + 0 * 3 = o by omega] at c0 c1 c2
          have hok1 := Lib.hid (okAt_succ hok.out (Lib.hid (okAt_zero (lt := ltD) hx.out hokx.out)))
          clear hs'
          go_wp2_with (first | (go_at_call 100; refine (rparty x.party wr).mono ?_; rintro e w1 ⟨rfl, rfl⟩; rw [hv0.out]) | (go_at_call 101; refine (rparcel x.parcel wr).mono ?_; rintro e w1 ⟨rfl, rfl⟩; rw [hv1.out]) | (go_at_call 102; refine (rwithin x.amount 0 1000000000 wr).mono ?_; rintro e w1 ⟨rfl, rfl⟩; rw [hv2.out]))
          go_quiet (fail)
          go_wp2
          go_roundw
          case rel => exact ⟨1, by omega, rfl, below_drewN hb.out _, hok1.out⟩
          case measure => simp [intOf]; omega
        | succ i =>
          obtain ⟨y, hy⟩ := getq (l := d) (j := i) (by rw [← Hn.out]; omega)
          obtain ⟨b', o', e1, _, d0, d1, d2⟩ := hs'.due hy
          cases e1
          replace hy := Lib.hid hy
          clear hs'
          by_cases h1 : x.parcel < y.parcel
          case pos =>
            have hbad : Hid (chkL okD ltD d = 1) := chkL_bad (by rw [← Hn.out]; omega) (i := i + 1) (by rw [← Hn.out]; omega) (okAt_less hx.out hy.out (ltD_no (by omega)))
            have g1 : decide (x.parcel < y.parcel) = true := by simpa using h1
            go_wp2_with (first | (go_at_call 100; refine (rparty x.party wr).mono ?_; rintro e w1 ⟨rfl, rfl⟩; rw [hv0.out]) | (go_at_call 101; refine (rparcel x.parcel wr).mono ?_; rintro e w1 ⟨rfl, rfl⟩; rw [hv1.out]) | (go_at_call 102; refine (rwithin x.amount 0 1000000000 wr).mono ?_; rintro e w1 ⟨rfl, rfl⟩; rw [hv2.out]))
            go_quiet (fail)
            go_wp2
            go_ret
            exact ⟨by rw [hbad.out]; rfl, below_drewN hb.out _⟩
          case neg =>
          by_cases h2 : x.parcel = y.parcel
          case neg =>
            have hok1 := Lib.hid (okAt_succ hok.out (Lib.hid (okAt_next hx.out hy.out hokx.out (ltD_yes (by omega)))))
            have g1 : decide (x.parcel < y.parcel) = false := by simp; omega
            have g2 : (x.parcel == y.parcel) = false := by simpa using h2
            go_wp2_with (first | (go_at_call 100; refine (rparty x.party wr).mono ?_; rintro e w1 ⟨rfl, rfl⟩; rw [hv0.out]) | (go_at_call 101; refine (rparcel x.parcel wr).mono ?_; rintro e w1 ⟨rfl, rfl⟩; rw [hv1.out]) | (go_at_call 102; refine (rwithin x.amount 0 1000000000 wr).mono ?_; rintro e w1 ⟨rfl, rfl⟩; rw [hv2.out]))
            go_quiet (fail)
            go_wp2
            go_roundw
            case rel => exact ⟨i + 1 + 1, by omega, by go_num, below_drewN hb.out _, hok1.out⟩
            case measure => simp [intOf]; omega
          case pos =>
          by_cases h3 : x.party ≤ y.party
          case pos =>
            have hbad : Hid (chkL okD ltD d = 1) := chkL_bad (by rw [← Hn.out]; omega) (i := i + 1) (by rw [← Hn.out]; omega) (okAt_less hx.out hy.out (ltD_no (by omega)))
            have g1 : decide (x.parcel < y.parcel) = false := by simp; omega
            have g2 : (x.parcel == y.parcel) = true := by simpa using h2
            have g3 : decide (x.party ≤ y.party) = true := by simpa using h3
            rw [← h2] at d1
            replace h2 := Lib.hid h2
            go_wp2_with (first | (go_at_call 100; refine (rparty x.party wr).mono ?_; rintro e w1 ⟨rfl, rfl⟩; rw [hv0.out]) | (go_at_call 101; refine (rparcel x.parcel wr).mono ?_; rintro e w1 ⟨rfl, rfl⟩; rw [hv1.out]) | (go_at_call 102; refine (rwithin x.amount 0 1000000000 wr).mono ?_; rintro e w1 ⟨rfl, rfl⟩; rw [hv2.out]))
            go_quiet (fail)
            go_wp2
            go_ret
            exact ⟨by rw [hbad.out]; rfl, below_drewN hb.out _⟩
          case neg =>
            have hok1 := Lib.hid (okAt_succ hok.out (Lib.hid (okAt_next hx.out hy.out hokx.out (ltD_yes (by omega)))))
            have g1 : decide (x.parcel < y.parcel) = false := by simp; omega
            have g2 : (x.parcel == y.parcel) = true := by simpa using h2
            have g3 : decide (x.party ≤ y.party) = false := by simp; omega
            rw [← h2] at d1
            replace h2 := Lib.hid h2
            go_wp2_with (first | (go_at_call 100; refine (rparty x.party wr).mono ?_; rintro e w1 ⟨rfl, rfl⟩; rw [hv0.out]) | (go_at_call 101; refine (rparcel x.parcel wr).mono ?_; rintro e w1 ⟨rfl, rfl⟩; rw [hv1.out]) | (go_at_call 102; refine (rwithin x.amount 0 1000000000 wr).mono ?_; rintro e w1 ⟨rfl, rfl⟩; rw [hv2.out]))
            go_quiet (fail)
            go_wp2
            go_roundw
            case rel => exact ⟨i + 1 + 1, by omega, by go_num, below_drewN hb.out _, hok1.out⟩
            case measure => simp [intOf]; omega
    · go_wp2
      go_ret
      have : chkL okD ltD d = 0 := chkL_good (by rw [← Hn.out]; omega) (fun i hi => hok.out i (by have := Hn.out; omega))
      exact ⟨by rw [this]; rfl, hb⟩
end Go.Proofs.YtoijlikmigejbaaGreat
