/- Walk: the law PurseChecks. -/
import Derived.Test.YtoijlikmigejbaaG15
import Derived.Test.YtoijlikmigejbaaG01
import Derived.Test.YtoijlikmigejbaaCRefF
namespace Go.Proofs.Ytoijlikmigejbaa
open Go.RowKit Go.Proofs.Ytoijlikmigejbaa.Pu

/-- what Append returns -/
def appQ (l : List Post) (p : Post) : List Post := if appCode l p = 0 then l ++ [p] else []
theorem AppRes.form {l : List Post} {p : Post} {w w' : World} {e : Ending} (h : AppRes l p w e w') : ∃ ao n cap, e = .returned (.tuple #[.slice ao n cap, .int .i64 (appCode l p)]) ∧ n = (appQ l p).length ∧ n ≤ cap ∧
    SlAt 8 pcells w'.heap.size w' ao (appQ l p) ∧ Below w.heap.size w w' ∧ (∀ ad, ao = some ad → ∃ b o, ad = ⟨b, o, none⟩) := by
  obtain ⟨hB, ⟨h0, rfl⟩ | ⟨h0, b, cap, rfl, hown⟩⟩ := h
  · exact ⟨none, 0, 0, rfl, by unfold appQ; rw [if_neg h0]; rfl, Nat.le_refl _, .inl (by unfold appQ; rw [if_neg h0]), hB, fun ad h => by cases h⟩
  · refine ⟨_, _, cap, by rw [h0], by unfold appQ; rw [if_pos h0]; simp, ?_, by unfold appQ; rw [if_pos h0]; exact Own.slAt pcells_len (by omega) hown, hB, fun ad h => by cases h; exact ⟨_, _, rfl⟩⟩
    obtain ⟨_, hr | ⟨g, cap', cur, e1, e2, e3, e4, _⟩⟩ := hown
    · omega
    · cases e1; exact e4
/-- a law's answer -/
def LawRes (w : World) (e : Ending) (w' : World) : Prop := e = .returned (.bool true) ∧ Below w.heap.size w w'
theorem P8B {M b : Nat} {W w1 w2 : World} {p : Post} (hM : b < M) (hW : M ≤ W.heap.size) (h : Below M W w1 ∧ PBox w1 b p) (hb : Below w1.heap.size w1 w2) : Below M W w2 ∧ PBox w2 b p :=
  ⟨h.1.trans (hb.mono (Nat.le_trans hW h.1.size)), h.2.below hb (Nat.lt_of_lt_of_le hM (Nat.le_trans hW h.1.size))⟩
/-- the cells of a box, behind W -/
abbrev KP (W : World) (b : Nat) (p : Post) (w' : World) : Prop := Below W.heap.size W w' ∧ w'.cell? ⟨b, 0, none⟩ = some (.int .i64 p.id) ∧ w'.cell? ⟨b, 1, none⟩ = some (.int .i64 p.hour) ∧ w'.cell? ⟨b, 2, none⟩ = some (.int .u8 p.kind) ∧
  w'.cell? ⟨b, 3, none⟩ = some (.int .i64 p.party) ∧ w'.cell? ⟨b, 4, none⟩ = some (.int .i64 p.parcel) ∧ w'.cell? ⟨b, 5, none⟩ = some (.int .i64 p.amount) ∧ w'.cell? ⟨b, 6, none⟩ = some (.int .i64 p.reason) ∧ w'.cell? ⟨b, 7, none⟩ = some (.int .i64 p.known)
theorem KP.of {W w' : World} {b : Nat} {p : Post} (hB : Below W.heap.size W w') (h : PBox W b p) : KP W b p w' := ⟨hB, P8 (h.below hB h.lt)⟩

theorem KP.box {W w' : World} {b : Nat} {p : Post} (h : KP W b p w') (hb : b < W.heap.size) : PBox w' b p := ⟨Nat.lt_of_lt_of_le hb h.1.size, h.2.1, h.2.2.1, h.2.2.2.1, h.2.2.2.2.1, h.2.2.2.2.2.1, h.2.2.2.2.2.2.1, h.2.2.2.2.2.2.2.1, h.2.2.2.2.2.2.2.2⟩
theorem KP.next {W w1 w2 : World} {b : Nat} {p : Post} (h : KP W b p w1) (hb : b < W.heap.size) (hB : Below w1.heap.size w1 w2) : KP W b p w2 :=
  ⟨h.1.trans (hB.mono h.1.size), P8 ((h.box hb).below hB (Nat.lt_of_lt_of_le hb h.1.size))⟩

set_option maxRecDepth 100000 in
set_option maxHeartbeats 8000000 in
theorem wChecks (l : List Post) (p : Post) (n cap : Nat) (ao : Option Addr) (w : World) (hn : n = l.length) (hL : n ≤ 100000 → LIn l n cap ao w.heap.size w) (hp : 0 ≤ p.kind ∧ p.kind ≤ 255) :
    Calls Try.prog 3 #[.slice ao n cap, pval p] w (LawRes w) := by
  have hB1 : Below w.heap.size w (w.alloc (pobj p)) := (Below.refl _ _).alloc (Nat.le_refl _) _
  have hX := PBox.new w p 24
  replace hn := Lib.hid hn
  replace hL := Lib.hid hL
  by_cases hlt : 24 < n
  case pos =>
    replace hB1 := Lib.hid hB1
    clear hX
    go_enter Try.func3, Try.ntmps3
    go_wp2_with (go_at_call 9; refine (ppurses _).mono ?_; rintro e w2 ⟨rfl, hB2⟩)
    go_ret
    exact ⟨rfl, hB1.out.trans (hB2.mono hB1.out.size)⟩
  case neg =>
  have hl := Lib.hid ((hL.out (by omega)).after hB1)
  obtain ⟨W1, hW1⟩ : ∃ W1, w.alloc (pobj p) = W1 := ⟨_, rfl⟩
  obtain ⟨b, hb⟩ : ∃ b, w.heap.size = b := ⟨_, rfl⟩
  rw [hW1] at hB1 hl hX
  rw [hb] at hB1 hl hX
  replace hB1 := Lib.hid hB1
  replace hX := Lib.hid hX
  have hb1 : b < W1.heap.size := hX.out.lt
  go_enter Try.func3, Try.ntmps3
  go_wp2_with (fail)
  clear hW1
  replace hb := Lib.hid hb
  obtain ⟨ci, hci⟩ : ∃ ci, Hid ((check l).1 = ci) := ⟨_, rfl⟩
  obtain ⟨cr, hcr⟩ : ∃ cr, Hid ((check l).2 = cr) := ⟨_, rfl⟩
  go_at_call 10
  refine hl.out.pCheck.mono ?_
  rintro e w2 ⟨rfl, hB2⟩
  rw [hci.out, hcr.out]
  replace hl := Lib.hid (hl.out.after hB2)
  replace hX := Lib.hid (hX.out.below hB2 hb1)
  replace hB1 := Lib.hid (hB1.out.trans (hB2.mono (Nat.le_of_lt hb1)))
  clear hB2 hb1
  go_wp2_with (fail)
  go_at_call 11
  refine hl.out.rCheck.mono ?_
  rintro e w3 ⟨rfl, hB3⟩
  rw [hci.out, hcr.out]
  have hb2 := hX.out.lt
  replace hl := Lib.hid (hl.out.after hB3)
  replace hX := Lib.hid (hX.out.below hB3 hb2)
  replace hB1 := Lib.hid (hB1.out.trans (hB3.mono (Nat.le_of_lt hb2)))
  have q0 := hX.out.c0
  have q1 := hX.out.c1
  have q2 := hX.out.c2
  have q3 := hX.out.c3
  have q4 := hX.out.c4
  have q5 := hX.out.c5
  have q6 := hX.out.c6
  have q7 := hX.out.c7
  clear hB3 hb2
  go_wp2_with (fail)
  go_at_call 12
  refine (hl.out.pAppend p hp).mono ?_
  rintro e w4 hr
  obtain ⟨a1, n1, c1, rfl, hn1, hc1, hs1, hB4, _⟩ := hr.form
  have hb2 := hX.out.lt
  replace hl := Lib.hid (hl.out.after hB4)
  replace hX := Lib.hid (hX.out.below hB4 hb2)
  replace hB1 := Lib.hid (hB1.out.trans (hB4.mono (Nat.le_of_lt hb2)))
  obtain ⟨ar, har⟩ : ∃ ar, Hid (appCode l p = ar) := ⟨_, rfl⟩
  obtain ⟨aq, haq⟩ : ∃ aq, Hid (appQ l p = aq) := ⟨_, rfl⟩
  rw [har.out]
  rw [haq.out] at hn1 hs1
  replace hn1 := Lib.hid hn1
  replace hs1 := Lib.hid hs1
  replace q0 := hX.out.c0
  replace q1 := hX.out.c1
  replace q2 := hX.out.c2
  replace q3 := hX.out.c3
  replace q4 := hX.out.c4
  replace q5 := hX.out.c5
  replace q6 := hX.out.c6
  replace q7 := hX.out.c7
  clear hB4 hb2 hr
  go_wp2_with (fail)
  go_at_call 13
  refine (rAppend l p n cap ao _ w4 hl.out.hn hl.out.hm hl.out.hcap hl.out.hs hl.out.hB hl.out.had).mono ?_
  rintro e w5 hr
  obtain ⟨a2, n2, c2, rfl, hn2, hc2, hs2, hB5, _⟩ := hr.form
  have hb2 := hX.out.lt
  have hs1' := Lib.hid ((hs1.out.below hB5).mono hB5.size)
  replace hX := Lib.hid (hX.out.below hB5 hb2)
  replace hB1 := Lib.hid (hB1.out.trans (hB5.mono (Nat.le_of_lt hb2)))
  rw [har.out]
  rw [haq.out] at hn2 hs2
  replace hn2 := Lib.hid hn2
  replace hs2 := Lib.hid hs2
  have hqn : Hid (aq.length ≤ 100000) := by
    show _ ≤ _
    rw [← haq.out]; unfold appQ
    have := hn.out
    split <;> simp <;> omega
  clear hB5 hb2 hr hs1 q0 q1 q2 q3 q4 q5 q6 q7 hl
  go_wp2
  have hXd := KP.of (Below.refl w5.heap.size w5).drew hX.out
  have hbl := hX.out.lt
  obtain ⟨ok, hok⟩ : ∃ ok, Hid (okE p = ok) := ⟨_, rfl⟩
  replace hXd := Lib.hid hXd
  clear hX
  refine wp_region_held_drew (S := (fun w' => Below w5.heap.size w5 w' ∧ w'.cell? ⟨b, 0, none⟩ = some (.int .i64 p.id) ∧ w'.cell? ⟨b, 1, none⟩ = some (.int .i64 p.hour) ∧ w'.cell? ⟨b, 2, none⟩ = some (.int .u8 p.kind) ∧
                                    w'.cell? ⟨b, 3, none⟩ = some (.int .i64 p.party) ∧ w'.cell? ⟨b, 4, none⟩ = some (.int .i64 p.parcel) ∧ w'.cell? ⟨b, 5, none⟩ = some (.int .i64 p.amount) ∧ w'.cell? ⟨b, 6, none⟩ = some (.int .i64 p.reason) ∧ w'.cell? ⟨b, 7, none⟩ = some (.int .i64 p.known))) (by kernel_rfl) ?_ (fun hHeld0 => ?_)
  · (try dsimp only); (first
                        | exact hXd.out
                        | exact KP.next (by assumption) hbl hb6)
  refine wpAnyH_ready (rs := [0]) (by kernel_rfl) (by simp) ?_
  refine xcons 0 rfl (fun K hK => ?_) ?_
  focus
    (first
      | (go_simp; go_at_call 9; refine (ppurses _).mono ?_; rintro e w6 ⟨rfl, hb6⟩; dsimp only)
      | (go_simp; go_at_call 14; (have hSc : KP w5 b p w6 := by assumption); refine (rSamePostings aq aq n1 c1 n2 c2 a1 a2 w5.heap.size _ hn1 hn2 (by have := hn1.out; have := hqn.out; omega) (by have := hn2.out; have := hqn.out; omega) (hs1'.out.below hSc.1) (hs2.out.below hSc.1) hSc.1.size rfl).mono ?_; rintro e w6 ⟨rfl, hb6⟩; dsimp only)
      | (go_simp; go_at_call 15; refine (pCheckPosting p _ hp.1 hp.2).mono ?_; rintro e w6 ⟨rfl, hb6⟩; rw [hok.out]; dsimp only)
      | (go_simp; go_at_call 16; refine (rCheckPosting p _).mono ?_; rintro e w6 ⟨rfl, hb6⟩; rw [hok.out]; dsimp only))
    refine hK.out _ _ ?_ (fun hHeld1 => ?_)
    · (try dsimp only); (first
                          | exact hXd.out
                          | exact KP.next (by assumption) hbl hb6)
    clear hK K
    try simp only [Act.put, List.setIfInBounds_toArray, List.set_cons_zero, List.set_cons_succ]
    (try clear hHeld0)
    refine xtake 1 (v := ?_) rfl (by kernel_rfl) (by kernel_rfl) (by kernel_rfl) rfl ?_ ?_ (by assumption) ?_
    rotate_left
    · intro w hSw; (try dsimp only at hSw); go_simp; with_reducible rfl
    · (exact fun _ _ _ hp => hp)
    try simp only [Act.put, List.setIfInBounds_toArray, List.set_cons_zero, List.set_cons_succ]
    refine xtake 2 (v := ?_) rfl (by kernel_rfl) (by kernel_rfl) (by kernel_rfl) rfl ?_ ?_ (by assumption) ?_
    rotate_left
    · intro w hSw; (try dsimp only at hSw); go_simp; with_reducible rfl
    · (exact fun _ _ _ hp => hp)
    try simp only [Act.put, List.setIfInBounds_toArray, List.set_cons_zero, List.set_cons_succ]
    refine xtake 3 (v := ?_) rfl (by kernel_rfl) (by kernel_rfl) (by kernel_rfl) rfl ?_ ?_ (by assumption) ?_
    rotate_left
    · intro w hSw; (try dsimp only at hSw); go_simp; with_reducible rfl
    · (exact fun _ _ _ hp => hp)
    try simp only [Act.put, List.setIfInBounds_toArray, List.set_cons_zero, List.set_cons_succ]
    refine xtake 4 (v := ?_) rfl (by kernel_rfl) (by kernel_rfl) (by kernel_rfl) rfl ?_ ?_ (by assumption) ?_
    rotate_left
    · intro w hSw; (try dsimp only at hSw); go_simp; with_reducible rfl
    · (exact fun _ _ _ hp => hp)
    try simp only [Act.put, List.setIfInBounds_toArray, List.set_cons_zero, List.set_cons_succ]
    refine xtake 5 (v := ?_) rfl (by kernel_rfl) (by kernel_rfl) (by kernel_rfl) rfl ?_ ?_ (by assumption) ?_
    rotate_left
    · intro w hSw; (try dsimp only at hSw); go_simp; with_reducible rfl
    · (exact fun _ _ _ hp => hp)
    try simp only [Act.put, List.setIfInBounds_toArray, List.set_cons_zero, List.set_cons_succ]
    refine xtake 6 (v := ?_) rfl (by kernel_rfl) (by kernel_rfl) (by kernel_rfl) rfl ?_ ?_ (by assumption) ?_
    rotate_left
    · intro w hSw; (try dsimp only at hSw); go_simp; with_reducible rfl
    · (exact fun _ _ _ hp => hp)
    try simp only [Act.put, List.setIfInBounds_toArray, List.set_cons_zero, List.set_cons_succ]
    refine xtake 7 (v := ?_) rfl (by kernel_rfl) (by kernel_rfl) (by kernel_rfl) rfl ?_ ?_ (by assumption) ?_
    rotate_left
    · intro w hSw; (try dsimp only at hSw); go_simp; with_reducible rfl
    · (exact fun _ _ _ hp => hp)
    try simp only [Act.put, List.setIfInBounds_toArray, List.set_cons_zero, List.set_cons_succ]
    refine xtake 8 (v := ?_) rfl (by kernel_rfl) (by kernel_rfl) (by kernel_rfl) rfl ?_ ?_ (by assumption) ?_
    rotate_left
    · intro w hSw; (try dsimp only at hSw); go_simp; with_reducible rfl
    · (exact fun _ _ _ hp => hp)
    try simp only [Act.put, List.setIfInBounds_toArray, List.set_cons_zero, List.set_cons_succ]
    refine xtake 9 (v := ?_) rfl (by kernel_rfl) (by kernel_rfl) (by kernel_rfl) rfl ?_ ?_ (by assumption) ?_
    rotate_left
    · intro w hSw; (try dsimp only at hSw); go_simp; with_reducible rfl
    · (exact fun _ _ _ hp => hp)
    try simp only [Act.put, List.setIfInBounds_toArray, List.set_cons_zero, List.set_cons_succ]
    refine xtake 10 (v := ?_) rfl (by kernel_rfl) (by kernel_rfl) (by kernel_rfl) rfl ?_ ?_ (by assumption) ?_
    rotate_left
    · intro w hSw; (try dsimp only at hSw); go_simp; with_reducible rfl
    · (exact fun _ _ _ hp => hp)
    try simp only [Act.put, List.setIfInBounds_toArray, List.set_cons_zero, List.set_cons_succ]
    refine xtake 11 (v := ?_) rfl (by kernel_rfl) (by kernel_rfl) (by kernel_rfl) rfl ?_ ?_ (by assumption) ?_
    rotate_left
    · intro w hSw; (try dsimp only at hSw); go_simp; with_reducible rfl
    · (exact fun _ _ _ hp => hp)
    try simp only [Act.put, List.setIfInBounds_toArray, List.set_cons_zero, List.set_cons_succ]
    refine xtake 12 (v := ?_) rfl (by kernel_rfl) (by kernel_rfl) (by kernel_rfl) rfl ?_ ?_ (by assumption) ?_
    rotate_left
    · intro w hSw; (try dsimp only at hSw); go_simp; with_reducible rfl
    · (exact fun _ _ _ hp => hp)
    try simp only [Act.put, List.setIfInBounds_toArray, List.set_cons_zero, List.set_cons_succ]
    refine xtake 13 (v := ?_) rfl (by kernel_rfl) (by kernel_rfl) (by kernel_rfl) rfl ?_ ?_ (by assumption) ?_
    rotate_left
    · intro w hSw; (try dsimp only at hSw); go_simp; with_reducible rfl
    · (exact fun _ _ _ hp => hp)
    try simp only [Act.put, List.setIfInBounds_toArray, List.set_cons_zero, List.set_cons_succ]
    refine xtake 14 (v := ?_) rfl (by kernel_rfl) (by kernel_rfl) (by kernel_rfl) rfl ?_ ?_ (by assumption) ?_
    rotate_left
    · intro w hSw; (try dsimp only at hSw); go_simp; with_reducible rfl
    · (exact fun _ _ _ hp => hp)
    try simp only [Act.put, List.setIfInBounds_toArray, List.set_cons_zero, List.set_cons_succ]
    refine xtake 15 (v := ?_) rfl (by kernel_rfl) (by kernel_rfl) (by kernel_rfl) rfl ?_ ?_ (by assumption) ?_
    rotate_left
    · intro w hSw; (try dsimp only at hSw); go_simp; with_reducible rfl
    · (exact fun _ _ _ hp => hp)
    try simp only [Act.put, List.setIfInBounds_toArray, List.set_cons_zero, List.set_cons_succ]
    refine xtake 16 (v := ?_) rfl (by kernel_rfl) (by kernel_rfl) (by kernel_rfl) rfl ?_ ?_ (by assumption) ?_
    rotate_left
    · intro w hSw; (try dsimp only at hSw); go_simp; with_reducible rfl
    · (exact fun _ _ _ hp => hp)
    try simp only [Act.put, List.setIfInBounds_toArray, List.set_cons_zero, List.set_cons_succ]
    refine xtake 17 (v := ?_) rfl (by kernel_rfl) (by kernel_rfl) (by kernel_rfl) rfl ?_ ?_ (by assumption) ?_
    rotate_left
    · intro w hSw; (try dsimp only at hSw); go_simp; with_reducible rfl
    · (exact fun _ _ _ hp => hp)
    try simp only [Act.put, List.setIfInBounds_toArray, List.set_cons_zero, List.set_cons_succ]
    refine xtake 18 (v := ?_) rfl (by kernel_rfl) (by kernel_rfl) (by kernel_rfl) rfl ?_ ?_ (by assumption) ?_
    rotate_left
    · intro w hSw; (try dsimp only at hSw); go_simp; with_reducible rfl
    · (exact fun _ _ _ hp => hp)
    try simp only [Act.put, List.setIfInBounds_toArray, List.set_cons_zero, List.set_cons_succ]
    refine wpAnyH_ready (rs := [19]) (by kernel_rfl) (by simp) ?_
    refine xcons 19 rfl (fun K hK => ?_) ?_
    focus
      (first
        | (go_simp; go_at_call 9; refine (ppurses _).mono ?_; rintro e w6 ⟨rfl, hb6⟩; dsimp only)
        | (go_simp; go_at_call 14; (have hSc : KP w5 b p w6 := by assumption); refine (rSamePostings aq aq n1 c1 n2 c2 a1 a2 w5.heap.size _ hn1 hn2 (by have := hn1.out; have := hqn.out; omega) (by have := hn2.out; have := hqn.out; omega) (hs1'.out.below hSc.1) (hs2.out.below hSc.1) hSc.1.size rfl).mono ?_; rintro e w6 ⟨rfl, hb6⟩; dsimp only)
        | (go_simp; go_at_call 15; refine (pCheckPosting p _ hp.1 hp.2).mono ?_; rintro e w6 ⟨rfl, hb6⟩; rw [hok.out]; dsimp only)
        | (go_simp; go_at_call 16; refine (rCheckPosting p _).mono ?_; rintro e w6 ⟨rfl, hb6⟩; rw [hok.out]; dsimp only))
      refine hK.out _ _ ?_ (fun hHeld2 => ?_)
      · (try dsimp only); (first
                            | exact hXd.out
                            | exact KP.next (by assumption) hbl hb6)
      clear hK K
      try simp only [Act.put, List.setIfInBounds_toArray, List.set_cons_zero, List.set_cons_succ]
      (try clear hHeld1)
      refine xtake 20 (v := ?_) rfl (by kernel_rfl) (by kernel_rfl) (by kernel_rfl) rfl ?_ ?_ (by assumption) ?_
      rotate_left
      · intro w hSw; (try dsimp only at hSw); go_simp; with_reducible rfl
      · (exact fun _ _ _ hp => hp)
      try simp only [Act.put, List.setIfInBounds_toArray, List.set_cons_zero, List.set_cons_succ]
      refine xtake 21 (v := ?_) rfl (by kernel_rfl) (by kernel_rfl) (by kernel_rfl) rfl ?_ ?_ (by assumption) ?_
      rotate_left
      · intro w hSw; (try dsimp only at hSw); go_simp; with_reducible rfl
      · (exact fun _ _ _ hp => hp)
      try simp only [Act.put, List.setIfInBounds_toArray, List.set_cons_zero, List.set_cons_succ]
      refine xtake 22 (v := ?_) rfl (by kernel_rfl) (by kernel_rfl) (by kernel_rfl) rfl ?_ ?_ (by assumption) ?_
      rotate_left
      · intro w hSw; (try dsimp only at hSw); go_simp; with_reducible rfl
      · (exact fun _ _ _ hp => hp)
      try simp only [Act.put, List.setIfInBounds_toArray, List.set_cons_zero, List.set_cons_succ]
      refine xtake 24 (v := ?_) rfl (by kernel_rfl) (by kernel_rfl) (by kernel_rfl) rfl ?_ ?_ (by assumption) ?_
      rotate_left
      · intro w hSw; (try dsimp only at hSw); go_simp; with_reducible rfl
      · (exact fun _ _ _ hp => hp)
      try simp only [Act.put, List.setIfInBounds_toArray, List.set_cons_zero, List.set_cons_succ]
      refine wpAnyH_ready (rs := [23]) (by kernel_rfl) (by simp) ?_
      refine xcons 23 rfl (fun K hK => ?_) ?_
      focus
        (first
          | (go_simp; go_at_call 9; refine (ppurses _).mono ?_; rintro e w6 ⟨rfl, hb6⟩; dsimp only)
          | (go_simp; go_at_call 14; (have hSc : KP w5 b p w6 := by assumption); refine (rSamePostings aq aq n1 c1 n2 c2 a1 a2 w5.heap.size _ hn1 hn2 (by have := hn1.out; have := hqn.out; omega) (by have := hn2.out; have := hqn.out; omega) (hs1'.out.below hSc.1) (hs2.out.below hSc.1) hSc.1.size rfl).mono ?_; rintro e w6 ⟨rfl, hb6⟩; dsimp only)
          | (go_simp; go_at_call 15; refine (pCheckPosting p _ hp.1 hp.2).mono ?_; rintro e w6 ⟨rfl, hb6⟩; rw [hok.out]; dsimp only)
          | (go_simp; go_at_call 16; refine (rCheckPosting p _).mono ?_; rintro e w6 ⟨rfl, hb6⟩; rw [hok.out]; dsimp only))
        refine hK.out _ _ ?_ (fun hHeld3 => ?_)
        · (try dsimp only); (first
                              | exact hXd.out
                              | exact KP.next (by assumption) hbl hb6)
        clear hK K
        try simp only [Act.put, List.setIfInBounds_toArray, List.set_cons_zero, List.set_cons_succ]
        (try clear hHeld2)
        refine wpAnyH_ready (rs := [25]) (by kernel_rfl) (by simp) ?_
        refine xcons 25 rfl (fun K hK => ?_) ?_
        focus
          (first
            | (go_simp; go_at_call 9; refine (ppurses _).mono ?_; rintro e w6 ⟨rfl, hb6⟩; dsimp only)
            | (go_simp; go_at_call 14; (have hSc : KP w5 b p w6 := by assumption); refine (rSamePostings aq aq n1 c1 n2 c2 a1 a2 w5.heap.size _ hn1 hn2 (by have := hn1.out; have := hqn.out; omega) (by have := hn2.out; have := hqn.out; omega) (hs1'.out.below hSc.1) (hs2.out.below hSc.1) hSc.1.size rfl).mono ?_; rintro e w6 ⟨rfl, hb6⟩; dsimp only)
            | (go_simp; go_at_call 15; refine (pCheckPosting p _ hp.1 hp.2).mono ?_; rintro e w6 ⟨rfl, hb6⟩; rw [hok.out]; dsimp only)
            | (go_simp; go_at_call 16; refine (rCheckPosting p _).mono ?_; rintro e w6 ⟨rfl, hb6⟩; rw [hok.out]; dsimp only))
          refine hK.out _ _ ?_ (fun hHeld4 => ?_)
          · (try dsimp only); (first
                                | exact hXd.out
                                | exact KP.next (by assumption) hbl hb6)
          clear hK K
          try simp only [Act.put, List.setIfInBounds_toArray, List.set_cons_zero, List.set_cons_succ]
          (try clear hHeld3)
          refine xtake 26 (v := ?_) rfl (by kernel_rfl) (by kernel_rfl) (by kernel_rfl) rfl ?_ ?_ (by assumption) ?_
          rotate_left
          · intro w hSw; (try dsimp only at hSw); go_simp; with_reducible rfl
          · (exact fun _ _ _ hp => hp)
          try simp only [Act.put, List.setIfInBounds_toArray, List.set_cons_zero, List.set_cons_succ]
          refine xtake 27 (v := ?_) rfl (by kernel_rfl) (by kernel_rfl) (by kernel_rfl) rfl ?_ ?_ (by assumption) ?_
          rotate_left
          · intro w hSw; (try dsimp only at hSw); go_simp; with_reducible rfl
          · (exact fun _ _ _ hp => hp)
          try simp only [Act.put, List.setIfInBounds_toArray, List.set_cons_zero, List.set_cons_succ]
          refine xtake 28 (v := ?_) rfl (by kernel_rfl) (by kernel_rfl) (by kernel_rfl) rfl ?_ ?_ (by assumption) ?_
          rotate_left
          · intro w hSw; (try dsimp only at hSw); go_simp; with_reducible rfl
          · (exact fun _ _ _ hp => hp)
          try simp only [Act.put, List.setIfInBounds_toArray, List.set_cons_zero, List.set_cons_succ]
          refine wpAnyH_done (by kernel_rfl) ?_ _
          (revert hHeld4; intro _)
        rotate_left 1
        exact AllReadyH.nil
      rotate_left 1
      exact AllReadyH.nil
    rotate_left 1
    exact AllReadyH.nil
  rotate_left 1
  exact AllReadyH.nil
  all_goals
    have hSf : KP w5 b p w6 := by assumption
    have hfin := Lib.hid (hB1.out.trans (hSf.1.mono (Nat.le_of_lt hbl)))
    clear hSf
    go_wp2
    go_ret
    exact ⟨rfl, by rw [hb.out]; exact hfin.out⟩
end Go.Proofs.Ytoijlikmigejbaa
