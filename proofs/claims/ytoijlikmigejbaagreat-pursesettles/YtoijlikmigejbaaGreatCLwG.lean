/- Walk: the law PurseSettles. -/
import Derived.Test.YtoijlikmigejbaaGreatCRgF
namespace Go.Proofs.YtoijlikmigejbaaGreat
open Go.RowKit Go.Proofs.YtoijlikmigejbaaGreat.Pu

set_option maxRecDepth 100000 in
set_option maxHeartbeats 4000000 in
theorem wSettles (l : List Post) (d : List Due) (cs : List Cause) (hour : Int) (n cap n2 cap2 n3 cap3 : Nat) (ao ao2 ao3 : Option Addr) (w : World) (hn : n = l.length) (hL : n ≤ 100000 → LIn l n cap ao w.heap.size w)
    (_hn2 : n2 = d.length) (hL2 : n2 ≤ 100000 → DIn d n2 cap2 ao2 w.heap.size w) (_hn3 : n3 = cs.length) (hL3 : n3 ≤ 100000 → CIn cs n3 cap3 ao3 w.heap.size w) :
    Calls Tryz.prog 3 #[.slice ao n cap, .slice ao2 n2 cap2, .slice ao3 n3 cap3, .int .i64 hour] w (LawRes w) := by
  replace hn := Lib.hid hn
  replace hL := Lib.hid hL
  replace hL2 := Lib.hid hL2
  replace hL3 := Lib.hid hL3
  clear _hn2 _hn3
  have hfew := pFew n cap n2 cap2 n3 cap3 ao ao2 ao3 w
  by_cases hf : fewB n n2 n3 = true
  case neg =>
    rw [Bool.not_eq_true] at hf
    rw [hf] at hfew
    replace hfew := Lib.hid hfew
    clear hf
    go_enter Tryz.func3, Tryz.ntmps3
    go_wp2_with (first
      | (go_at_call 10; refine hfew.out.mono ?_; rintro e w2 ⟨rfl, hB2⟩)
      | (go_at_call 11; refine (ppurses _).mono ?_; rintro e w3 ⟨rfl, hB3⟩))
    go_ret
    exact ⟨rfl, hB2.trans (hB3.mono hB2.size)⟩
  case pos =>
  rw [hf] at hfew
  replace hfew := Lib.hid hfew
  obtain ⟨hf1, hf2, hf3⟩ := fewB_of hf
  clear hf
  have hst : Hid (SetIn l d cs hour n cap n2 cap2 n3 cap3 ao ao2 ao3 w.heap.size w) := ⟨hL.out (by omega), hL2.out (by omega), hL3.out (by omega)⟩
  clear hL hL2 hL3
  obtain ⟨rs, hrs⟩ : ∃ rs, Hid (settleCode l d cs hour = rs) := ⟨_, rfl⟩
  obtain ⟨Q, hQ⟩ : ∃ Q, Hid (settleQ l d cs hour = Q) := ⟨_, rfl⟩
  have hQn : Q.length ≤ 400 := by rw [← hQ.out]; exact settleQ_len ..
  go_enter Tryz.func3, Tryz.ntmps3
  go_wp2_with (first
    | (go_at_call 10; refine hfew.out.mono ?_; rintro e w2 ⟨rfl, hB2⟩
       have hst2 : Hid (SetIn l d cs hour n cap n2 cap2 n3 cap3 ao ao2 ao3 w.heap.size w2) := ⟨hst.out.l.after hB2, hst.out.d.after hB2, hst.out.c.after hB2⟩
       replace hB2 := Lib.hid hB2)
    | (go_at_call 12; refine (nSettle hour hst2.out).mono ?_; rintro e w3 ⟨hB3, a3, n3', c3, rfl, hR3⟩
       have hst3 : Hid (SetIn l d cs hour n cap n2 cap2 n3 cap3 ao ao2 ao3 w.heap.size w3) := ⟨hst2.out.l.after hB3, hst2.out.d.after hB3, hst2.out.c.after hB3⟩
       replace hB3 := Lib.hid (hB2.out.trans (hB3.mono hB2.out.size))
       rw [hrs.out]
       rw [hQ.out] at hR3
       replace hR3 := Lib.hid hR3)
    | (go_at_call 13; refine (rSettle hour hst3.out hf1).mono ?_; rintro e w4 ⟨hB4, a4, n4, c4, rfl, hn4, hS4⟩
       rw [hrs.out]
       rw [hQ.out] at hn4 hS4
       replace hR3 := Lib.hid (hR3.out.after hB4)
       have hB5 := Lib.hid (hB3.out.trans (hB4.mono hB3.out.size))
       have hn3 := Lib.hid hR3.out.n
       have hn3b := hn3.out
       have hn4b := hn4
       replace hn4 := Lib.hid hn4
       replace hn4b := Lib.hid hn4b
       replace hn3b := Lib.hid hn3b
       have hS3 := Lib.hid hR3.out.at
       replace hS4 := Lib.hid hS4
       clear hB4)
    | (go_at_call 11; refine (ppurses _).mono ?_; rintro e w5 ⟨rfl, hB6⟩
       have hB7 := Lib.hid (hB5.out.trans (hB6.mono hB5.out.size))
       have hS3' := Lib.hid (hS3.out.below hB6)
       have hS4' := Lib.hid (hS4.out.below hB6)
       have hz := hB6.size
       replace hB6 := Lib.hid hB6)
    | (go_at_call 14; refine (rSamePostings Q Q n3' c3 n4 c4 a3 a4 w4.heap.size w5 hn3 hn4 (by rw [hn3b.out]; omega) (by rw [hn4b.out]; omega) hS3'.out hS4'.out hz rfl).mono ?_; rintro e w6 ⟨rfl, hB8⟩))
  go_ret
  exact ⟨rfl, hB7.out.trans (hB8.mono hB7.out.size)⟩
end Go.Proofs.YtoijlikmigejbaaGreat
