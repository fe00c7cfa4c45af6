/- Walk: the law PurseHours. -/
import Derived.Test.YtoijlikmigejbaaCHrA
namespace Go.Proofs.Ytoijlikmigejbaa
open Go.RowKit Go.Proofs.Ytoijlikmigejbaa.Pu

set_option maxRecDepth 100000 in
set_option maxHeartbeats 8000000 in
theorem wHours (l : List Post) (n cap : Nat) (ao : Option Addr) (hour : Int) (w : World) (hn : n = l.length) (hL : n ≤ 100000 → LIn l n cap ao w.heap.size w) :
    Calls Try.prog 5 #[.slice ao n cap, .int .i64 hour] w (LawRes w) := by
  replace hn := Lib.hid hn
  replace hL := Lib.hid hL
  by_cases hlt : 24 < n
  case pos =>
    go_enter Try.func5, Try.ntmps5
    go_wp2_with (go_at_call 9; refine (ppurses _).mono ?_; rintro e w2 ⟨rfl, hB2⟩)
    go_ret
    exact ⟨rfl, hB2⟩
  case neg =>
  have hl := Lib.hid (hL.out (by omega))
  clear hL
  by_cases hck : (check l).2 = 0
  case neg =>
    have hr := pright hl.out
    rw [show ((check l).2 == 0) = false by simp [hck]] at hr
    replace hr := Lib.hid hr
    clear hck
    go_enter Try.func5, Try.ntmps5
    go_wp2_with (first
      | (go_at_call 18; refine hr.out.mono ?_; rintro e w2 ⟨rfl, hB2⟩)
      | (go_at_call 9; refine (ppurses _).mono ?_; rintro e w3 ⟨rfl, hB3⟩))
    go_ret
    exact ⟨rfl, hB2.trans (hB3.mono hB2.size)⟩
  case pos =>
  have hbk := Lib.hid (book_of_check hck)
  have hr := pright hl.out
  rw [show ((check l).2 == 0) = true by simp [hck]] at hr
  replace hr := Lib.hid hr
  clear hck
  obtain ⟨hu1, hu2, hu3⟩ := upto_book hbk.out hour
  obtain ⟨k, hk⟩ : ∃ k, uptoN hour l = k := ⟨_, rfl⟩
  have hk2 : (someL (uptoP hour) l).length = k := hk
  rw [hk] at hu1 hu2 hu3
  rw [← hn.out] at hu2
  replace hu1 := Lib.hid hu1
  replace hu3 := Lib.hid hu3
  replace hk := Lib.hid hk
  replace hk2 := Lib.hid hk2
  go_enter Try.func5, Try.ntmps5
  go_wp2_with (fail)
  go_at_call 18
  refine hr.out.mono ?_
  rintro e w2 ⟨rfl, hB2⟩
  replace hl := Lib.hid (hl.out.after hB2)
  have hBB := Lib.hid hB2
  clear hB2 hr
  go_wp2_with (fail)
  go_at_call 19
  refine (pUpto hl.out hour).mono ?_
  rintro e w3 ⟨hB3, ao3, cap3, rfl, hown3⟩
  rw [hk2.out] at hown3 ⊢
  rw [hu1.out] at hown3
  replace hl := Lib.hid (hl.out.after hB3)
  replace hBB := Lib.hid (hBB.out.trans (hB3.mono hBB.out.size))
  have hkt : (l.take k).length = k := by rw [List.length_take, ← hn.out]; omega
  have hl3 := Lib.hid (Own.lin hown3 hkt.symm (by omega) (fun p hp => hl.out.hk p (List.mem_of_mem_take hp)))
  have hkc := hl3.out.hcap
  have hcap := hl.out.hcap
  have hkn : ((n : Int) < k) = False := by simp; omega
  replace hkt := Lib.hid hkt
  clear hB3 hown3
  go_wp2_with (fail)
  go_at_call 14
  refine (rSamePostings (l.take k) (l.take k) k cap3 k cap ao3 ao w3.heap.size w3 hkt.out.symm hkt.out.symm (by omega) (by omega) hl3.out.hs ((hl.out.take (c := cap) hu2 (by omega)).hs.mono hl.out.hB) (Nat.le_refl _) rfl).mono ?_
  rintro e w4 ⟨rfl, hB4⟩
  replace hl := Lib.hid (hl.out.after hB4)
  replace hBB := Lib.hid (hBB.out.trans (hB4.mono hBB.out.size))
  clear hB4 hl3 hkn
  obtain ⟨mb, hmb⟩ : ∃ mb, w.heap.size = mb := ⟨_, rfl⟩
  rw [hmb] at hl hBB
  have hws : mb ≤ w4.heap.size := by have := hl.out.hB; omega
  have hrefl := Below.refl mb w4
  by_cases hkn : k < n
  case pos =>
    obtain ⟨x, hx⟩ := getq (l := l) (j := k) (by rw [← hn.out]; exact hkn)
    have hxh := hu3.out x hx
    obtain ⟨b, o, rfl, hb0, e0, e1, e2, e3, e4, e5, e6, e7⟩ := hl.out.hs.post hx
    have hd : decide (x.hour ≤ hour) = false := by simp; omega
    replace hxh := Lib.hid hxh
    replace hx := Lib.hid hx
    go_wp2
    clear e0 e1 e2 e3 e4 e5 e6 e7
    go_loopw [6] (fun i wr => ∃ j : Nat, j ≤ n + 1 ∧ i = .int .i64 j ∧ Below mb w4 wr ∧ mb ≤ wr.heap.size) (fun i _ => n + 1 - (intOf i).toNat)
    case atStart => exact ⟨0, Nat.zero_le _, rfl, hrefl, hws⟩
    case round =>
    obtain ⟨j, hj, rfl, hb, hwr⟩ := hrel
    by_cases hjn : j ≤ n
    case pos =>
      have hlj := (hl.out.below hb).take (c := j) hjn (Nat.le_refl _)
      have hr := pright hlj
      rw [check_book (Book.take hbk.out j)] at hr
      replace hr := Lib.hid hr
      replace hb := Lib.hid hb
      have hjc : j ≤ cap := by omega
      clear hlj
      go_wp2_with (go_at_call 18; refine hr.out.mono ?_; rintro e w5 ⟨rfl, hB5⟩)
      go_roundw
      case rel => exact ⟨j + 1, by omega, by go_num, hb.out.trans (hB5.mono hwr), Nat.le_trans hwr hB5.size⟩
      case measure => simp [intOf]; omega
    case neg =>
      replace hb := Lib.hid (hBB.out.trans hb)
      go_wp2_with (go_at_call 9; refine (ppurses _).mono ?_; rintro e w5 ⟨rfl, hB5⟩)
      go_ret
      exact ⟨rfl, by rw [hmb]; exact hb.out.trans (hB5.mono hwr)⟩
  case neg =>
    obtain rfl : k = n := by omega
    go_wp2
    go_loopw [6] (fun i wr => ∃ j : Nat, j ≤ k + 1 ∧ i = .int .i64 j ∧ Below mb w4 wr ∧ mb ≤ wr.heap.size) (fun i _ => k + 1 - (intOf i).toNat)
    case atStart => exact ⟨0, Nat.zero_le _, rfl, hrefl, hws⟩
    case round =>
    obtain ⟨j, hj, rfl, hb, hwr⟩ := hrel
    by_cases hjn : j ≤ k
    case pos =>
      have hlj := (hl.out.below hb).take (c := j) hjn (Nat.le_refl _)
      have hr := pright hlj
      rw [check_book (Book.take hbk.out j)] at hr
      replace hr := Lib.hid hr
      replace hb := Lib.hid hb
      have hjc : j ≤ cap := by omega
      clear hlj
      go_wp2_with (go_at_call 18; refine hr.out.mono ?_; rintro e w5 ⟨rfl, hB5⟩)
      go_roundw
      case rel => exact ⟨j + 1, by omega, by go_num, hb.out.trans (hB5.mono hwr), Nat.le_trans hwr hB5.size⟩
      case measure => simp [intOf]; omega
    case neg =>
      replace hb := Lib.hid (hBB.out.trans hb)
      go_wp2_with (go_at_call 9; refine (ppurses _).mono ?_; rintro e w5 ⟨rfl, hB5⟩)
      go_ret
      exact ⟨rfl, by rw [hmb]; exact hb.out.trans (hB5.mono hwr)⟩
end Go.Proofs.Ytoijlikmigejbaa
