/- Walks: causes that are listed in order. Written by gen_cause.py. Ranging over a map that is an association list in memory. -/
import Derived.Test.YtoijlikmigejbaaGreatG07
import Derived.Test.YtoijlikmigejbaaGreatG01
import Derived.Maps.RangeRun
import Derived.TacticsIn
import Derived.OwnWalkIn
namespace Go.Proofs.YtoijlikmigejbaaGreat
open Go.RowKit Go.Proofs.YtoijlikmigejbaaGreat.Pu

def okC (c : Cause) : Bool := inB c.parcel 10 10000007 && inB c.reason 1 1000000 && inB c.known 0 1000000
def ltC (a b : Cause) : Bool := decide (a.parcel < b.parcel)

set_option maxRecDepth 100000 in
set_option maxHeartbeats 1000000 in
theorem pCause1 (d : Cause) (w : World) : Calls Tryz.prog 104 #[cval d] w fun e w' => e = .returned (.bool (okC d)) ∧ Below w.heap.size w w' := by
  obtain ⟨v, hv⟩ : ∃ v, Hid (v = okC d) := ⟨_, rfl⟩
  rw [← hv.out]
  have hB : Below w.heap.size w (w.alloc (.cells #[.int .i64 d.parcel, .int .i64 d.reason, .int .i64 d.known] 71)) := (Below.refl _ _).alloc (Nat.le_refl _) _
  replace hB := Lib.hid hB
  cases h1 : inB d.parcel 10 10000007 <;> cases h2 : inB d.reason 1 1000000 <;> cases h3 : inB d.known 0 1000000
  all_goals
    have hr : Hid (okC d = (inB d.parcel 10 10000007 && inB d.reason 1 1000000 && inB d.known 0 1000000)) := rfl
    go_enter Tryz.func104, Tryz.ntmps104
    go_wp2_with (first | (go_at_call 96; refine (pisParcel _ _).mono ?_; rintro e w2 ⟨rfl, rfl⟩) | (go_at_call 57; refine (pin _ _ _ _).mono ?_; rintro e w2 ⟨rfl, rfl⟩))
    go_ret
    refine ⟨ret_bool ?_, hB.out⟩
    rw [hv.out, hr.out, h1, h2, h3]
    rfl

theorem pCause2 (a b : Cause) (w : World) : Calls Tryz.prog 105 #[cval a, cval b] w fun e w' => e = .returned (.bool (ltC a b)) ∧ Below w.heap.size w w' := by
  go_enter Tryz.func105, Tryz.ntmps105
  go_wp2
  go_ret
  exact ⟨rfl, ((Below.refl _ _).alloc (Nat.le_refl _) _).alloc (by simp) _⟩

set_option maxRecDepth 100000 in
set_option maxHeartbeats 4000000 in
theorem plistedC {l : List Cause} {n cap : Nat} {ao : Option Addr} {B : Nat} {w : World} (h : CIn l n cap ao B w) :
    Calls Tryz.prog 103 #[.slice ao n cap, .func (.func 104) #[] #[], .func (.func 105) #[] #[]] w (RetB (chkL okC ltC l) w) := by
  have hB := h.hB
  have hcap := h.hcap
  have hm := h.hm
  have Hn := Lib.hid h.hn
  by_cases hlong : 400 < n
  · have hc : chkL okC ltC l = 2 := chkL_long (by rw [← Hn.out]; exact hlong)
    go_enter Tryz.func103, Tryz.ntmps103
    go_wp2
    go_ret
    exact ⟨by rw [hc]; rfl, Below.refl _ _⟩
  go_enter Tryz.func103, Tryz.ntmps103
  go_wp2
  go_loopw [14] (fun i wr => ∃ j : Nat, j ≤ n ∧ i = .int .i64 j ∧ Below w.heap.size w wr ∧ Hid (∀ i, i < j → okAt okC ltC l i = true)) (fun i _ => n - (intOf i).toNat)
  case atStart => exact ⟨0, Nat.zero_le _, rfl, Below.refl _ _, fun i hi => by omega⟩
  case round =>
    obtain ⟨j, hj, rfl, hb, hok⟩ := hrel
    by_cases hlt : j < n
    · obtain ⟨d, hd⟩ := getq (l := l) (j := j) (by rw [← Hn.out]; exact hlt)
      have hs' := h.hs.below (hb.mono hB)
      obtain ⟨b, o, rfl, hb0, c0, c1, c2⟩ := hs'.cause hd
      have hX := TBox.new wr d.parcel d.reason d.known 71
      have hBx : Below w.heap.size w (wr.alloc (.cells #[.int .i64 d.parcel, .int .i64 d.reason, .int .i64 d.known] 71)) := hb.alloc hb.size _
      have hd' := Lib.hid hd
      obtain ⟨v, hv⟩ : ∃ v, Hid (okC d = v) := ⟨_, rfl⟩
      clear hd
      cases v with
      | false =>
        have hbad : chkL okC ltC l = 1 := chkL_bad (by rw [← Hn.out]; omega) (i := j) (by rw [← Hn.out]; omega) (by unfold okAt; rw [hd'.out]; simp [hv.out])
        replace hbad := Lib.hid hbad
        clear hs'
        go_wp2
        refine wp_world (R := fun W => TBox W wr.heap.size d.parcel d.reason d.known ∧ Below w.heap.size w W) ⟨hX, hBx⟩ ?_
        clear c0 c1 c2 hX hBx hb
        obtain ⟨xb, hxb⟩ : ∃ xb, wr.heap.size = xb := ⟨_, rfl⟩
        rw [hxb]
        clear hxb
        rintro W ⟨hX, HB⟩
        have hXd : TBox W.drew xb d.parcel d.reason d.known := ⟨hX.lt, hX.c0, hX.c1, hX.c2⟩
        have hlX := hX.lt
        have HBW := Lib.hid HB.size
        replace HB := Lib.hid HB
        clear hX
        refine wp_region_held_drew (S := (fun w' => Below W.heap.size W w' ∧ w'.cell? ⟨xb, 0, none⟩ = some (.int .i64 d.parcel) ∧ w'.cell? ⟨xb, 1, none⟩ = some (.int .i64 d.reason) ∧ w'.cell? ⟨xb, 2, none⟩ = some (.int .i64 d.known))) (by kernel_rfl) ?_ (fun hHeld0 => ?_)
        · (try dsimp only); (first
                              | exact ⟨(Below.refl _ _).drew, hXd.c0, hXd.c1, hXd.c2⟩
                              | exact T3B hlX (Nat.le_refl _) (by assumption) hb1)
        refine xtake 0 (v := ?_) rfl (by kernel_rfl) (by kernel_rfl) (by kernel_rfl) rfl ?_ ?_ (by assumption) ?_
        rotate_left
        · intro w hSw; (try dsimp only at hSw); go_simp; with_reducible rfl
        · (exact fun _ _ _ hp => hp)
        try simp only [Act.put, List.setIfInBounds_toArray, List.set_cons_zero, List.set_cons_succ]
        refine xtake 1 (v := ?_) rfl (by kernel_rfl) (by kernel_rfl) (by kernel_rfl) rfl ?_ ?_ (by assumption) ?_
        rotate_left
        · intro w hSw; (try dsimp only at hSw); go_simp; with_reducible rfl
        · (exact fun _ _ _ hp => hp)
        try simp only [Act.put, List.setIfInBounds_toArray, List.set_cons_zero, List.set_cons_succ]
        refine wpAnyH_ready (rs := [2]) (by kernel_rfl) (by simp) ?_
        refine xcons 2 rfl (fun K hK => ?_) ?_
        focus
          (first
            | (go_simp; go_at_call 104; refine (pCause1 d _).mono ?_; rintro e w2 ⟨rfl, hb1⟩; rw [hv.out]; dsimp only))
          refine hK.out _ _ ?_ (fun hHeld1 => ?_)
          · (try dsimp only); (first
                                | exact ⟨(Below.refl _ _).drew, hXd.c0, hXd.c1, hXd.c2⟩
                                | exact T3B hlX (Nat.le_refl _) (by assumption) hb1)
          clear hK K
          try simp only [Act.put, List.setIfInBounds_toArray, List.set_cons_zero, List.set_cons_succ]
          (try clear hHeld0)
          refine xtake 3 (v := ?_) rfl (by kernel_rfl) (by kernel_rfl) (by kernel_rfl) rfl ?_ ?_ (by assumption) ?_
          rotate_left
          · intro w hSw; (try dsimp only at hSw); go_simp; with_reducible rfl
          · (exact fun _ _ _ hp => hp)
          try simp only [Act.put, List.setIfInBounds_toArray, List.set_cons_zero, List.set_cons_succ]
          refine xtake 4 (v := ?_) rfl (by kernel_rfl) (by kernel_rfl) (by kernel_rfl) rfl ?_ ?_ (by assumption) ?_
          rotate_left
          · intro w hSw; (try dsimp only at hSw); go_simp; with_reducible rfl
          · (exact fun _ _ _ hp => hp)
          try simp only [Act.put, List.setIfInBounds_toArray, List.set_cons_zero, List.set_cons_succ]
          refine xskip 5 rfl (by kernel_rfl) (by kernel_rfl) (by kernel_rfl) ?_ rfl (by assumption) ?_
          · (exact fun _ _ _ hp => hp)
          try simp only [Act.put, List.setIfInBounds_toArray, List.set_cons_zero, List.set_cons_succ]
          refine xskip 6 rfl (by kernel_rfl) (by kernel_rfl) (by kernel_rfl) ?_ rfl (by assumption) ?_
          · (exact fun _ _ _ hp => hp)
          try simp only [Act.put, List.setIfInBounds_toArray, List.set_cons_zero, List.set_cons_succ]
          refine xskip 7 rfl (by kernel_rfl) (by kernel_rfl) (by kernel_rfl) ?_ rfl (by assumption) ?_
          · (exact fun _ _ _ hp => hp)
          try simp only [Act.put, List.setIfInBounds_toArray, List.set_cons_zero, List.set_cons_succ]
          refine xskip 8 rfl (by kernel_rfl) (by kernel_rfl) (by kernel_rfl) ?_ rfl (by assumption) ?_
          · (exact fun _ _ _ hp => hp)
          try simp only [Act.put, List.setIfInBounds_toArray, List.set_cons_zero, List.set_cons_succ]
          refine xskip 9 rfl (by kernel_rfl) (by kernel_rfl) (by kernel_rfl) ?_ rfl (by assumption) ?_
          · (exact fun _ _ _ hp => hp)
          try simp only [Act.put, List.setIfInBounds_toArray, List.set_cons_zero, List.set_cons_succ]
          refine xskip 10 rfl (by kernel_rfl) (by kernel_rfl) (by kernel_rfl) ?_ rfl (by assumption) ?_
          · (exact fun _ _ _ hp => hp)
          try simp only [Act.put, List.setIfInBounds_toArray, List.set_cons_zero, List.set_cons_succ]
          refine xskip 11 rfl (by kernel_rfl) (by kernel_rfl) (by kernel_rfl) ?_ rfl (by assumption) ?_
          · (exact fun _ _ _ hp => hp)
          try simp only [Act.put, List.setIfInBounds_toArray, List.set_cons_zero, List.set_cons_succ]
          refine xskip 12 rfl (by kernel_rfl) (by kernel_rfl) (by kernel_rfl) ?_ rfl (by assumption) ?_
          · (exact fun _ _ _ hp => hp)
          try simp only [Act.put, List.setIfInBounds_toArray, List.set_cons_zero, List.set_cons_succ]
          refine xskip 13 rfl (by kernel_rfl) (by kernel_rfl) (by kernel_rfl) ?_ rfl (by assumption) ?_
          · (exact fun _ _ _ hp => hp)
          try simp only [Act.put, List.setIfInBounds_toArray, List.set_cons_zero, List.set_cons_succ]
          refine xskip 14 rfl (by kernel_rfl) (by kernel_rfl) (by kernel_rfl) ?_ rfl (by assumption) ?_
          · (exact fun _ _ _ hp => hp)
          try simp only [Act.put, List.setIfInBounds_toArray, List.set_cons_zero, List.set_cons_succ]
          refine xskip 15 rfl (by kernel_rfl) (by kernel_rfl) (by kernel_rfl) ?_ rfl (by assumption) ?_
          · (exact fun _ _ _ hp => hp)
          try simp only [Act.put, List.setIfInBounds_toArray, List.set_cons_zero, List.set_cons_succ]
          refine xskip 16 rfl (by kernel_rfl) (by kernel_rfl) (by kernel_rfl) ?_ rfl (by assumption) ?_
          · (exact fun _ _ _ hp => hp)
          try simp only [Act.put, List.setIfInBounds_toArray, List.set_cons_zero, List.set_cons_succ]
          refine xskip 17 rfl (by kernel_rfl) (by kernel_rfl) (by kernel_rfl) ?_ rfl (by assumption) ?_
          · (exact fun _ _ _ hp => hp)
          try simp only [Act.put, List.setIfInBounds_toArray, List.set_cons_zero, List.set_cons_succ]
          refine xtake 18 (v := ?_) rfl (by kernel_rfl) (by kernel_rfl) (by kernel_rfl) rfl ?_ ?_ (by assumption) ?_
          rotate_left
          · intro w hSw; (try dsimp only at hSw); go_simp; with_reducible rfl
          · (exact fun _ _ _ hp => hp)
          try simp only [Act.put, List.setIfInBounds_toArray, List.set_cons_zero, List.set_cons_succ]
          refine wpAnyH_done (by kernel_rfl) ?_ _
          (revert hHeld1; intro _)
        rotate_left 1
        exact AllReadyH.nil
        rename_i hS
        have hWw := hS.1
        clear hS hb1
        go_wp2
        go_ret
        exact ⟨by rw [hbad.out]; rfl, HB.out.trans (hWw.mono HBW.out)⟩
      | true =>
        rcases Nat.eq_zero_or_pos j with hj0 | hj0
        · have hok1 : okAt okC ltC l j = true := by unfold okAt; rw [hd'.out]; simp [hv.out, hj0]
          replace hok1 := Lib.hid hok1
          have hz : decide (0 < j) = false := by simp; omega
          replace hj0 := Lib.hid hj0
          clear hs'
          go_wp2
          refine wp_world (R := fun W => TBox W wr.heap.size d.parcel d.reason d.known ∧ Below w.heap.size w W) ⟨hX, hBx⟩ ?_
          clear c0 c1 c2 hX hBx hb
          obtain ⟨xb, hxb⟩ : ∃ xb, wr.heap.size = xb := ⟨_, rfl⟩
          rw [hxb]
          clear hxb
          rintro W ⟨hX, HB⟩
          have hXd : TBox W.drew xb d.parcel d.reason d.known := ⟨hX.lt, hX.c0, hX.c1, hX.c2⟩
          have hlX := hX.lt
          have HBW := Lib.hid HB.size
          replace HB := Lib.hid HB
          clear hX
          refine wp_region_held_drew (S := (fun w' => Below W.heap.size W w' ∧ w'.cell? ⟨xb, 0, none⟩ = some (.int .i64 d.parcel) ∧ w'.cell? ⟨xb, 1, none⟩ = some (.int .i64 d.reason) ∧ w'.cell? ⟨xb, 2, none⟩ = some (.int .i64 d.known))) (by kernel_rfl) ?_ (fun hHeld0 => ?_)
          · (try dsimp only); (first
                                | exact ⟨(Below.refl _ _).drew, hXd.c0, hXd.c1, hXd.c2⟩
                                | exact T3B hlX (Nat.le_refl _) (by assumption) hb1)
          refine xtake 0 (v := ?_) rfl (by kernel_rfl) (by kernel_rfl) (by kernel_rfl) rfl ?_ ?_ (by assumption) ?_
          rotate_left
          · intro w hSw; (try dsimp only at hSw); go_simp; with_reducible rfl
          · (exact fun _ _ _ hp => hp)
          try simp only [Act.put, List.setIfInBounds_toArray, List.set_cons_zero, List.set_cons_succ]
          refine xtake 1 (v := ?_) rfl (by kernel_rfl) (by kernel_rfl) (by kernel_rfl) rfl ?_ ?_ (by assumption) ?_
          rotate_left
          · intro w hSw; (try dsimp only at hSw); go_simp; with_reducible rfl
          · (exact fun _ _ _ hp => hp)
          try simp only [Act.put, List.setIfInBounds_toArray, List.set_cons_zero, List.set_cons_succ]
          refine wpAnyH_ready (rs := [2]) (by kernel_rfl) (by simp) ?_
          refine xcons 2 rfl (fun K hK => ?_) ?_
          focus
            (first
              | (go_simp; go_at_call 104; refine (pCause1 d _).mono ?_; rintro e w2 ⟨rfl, hb1⟩; rw [hv.out]; dsimp only))
            refine hK.out _ _ ?_ (fun hHeld1 => ?_)
            · (try dsimp only); (first
                                  | exact ⟨(Below.refl _ _).drew, hXd.c0, hXd.c1, hXd.c2⟩
                                  | exact T3B hlX (Nat.le_refl _) (by assumption) hb1)
            clear hK K
            try simp only [Act.put, List.setIfInBounds_toArray, List.set_cons_zero, List.set_cons_succ]
            (try clear hHeld0)
            refine xtake 3 (v := ?_) rfl (by kernel_rfl) (by kernel_rfl) (by kernel_rfl) rfl ?_ ?_ (by assumption) ?_
            rotate_left
            · intro w hSw; (try dsimp only at hSw); go_simp; with_reducible rfl
            · (exact fun _ _ _ hp => hp)
            try simp only [Act.put, List.setIfInBounds_toArray, List.set_cons_zero, List.set_cons_succ]
            refine xtake 4 (v := ?_) rfl (by kernel_rfl) (by kernel_rfl) (by kernel_rfl) rfl ?_ ?_ (by assumption) ?_
            rotate_left
            · intro w hSw; (try dsimp only at hSw); go_simp; with_reducible rfl
            · (exact fun _ _ _ hp => hp)
            try simp only [Act.put, List.setIfInBounds_toArray, List.set_cons_zero, List.set_cons_succ]
            refine xtake 5 (v := ?_) rfl (by kernel_rfl) (by kernel_rfl) (by kernel_rfl) rfl ?_ ?_ (by assumption) ?_
            rotate_left
            · intro w hSw; (try dsimp only at hSw); go_simp; with_reducible rfl
            · (exact fun _ _ _ hp => hp)
            try simp only [Act.put, List.setIfInBounds_toArray, List.set_cons_zero, List.set_cons_succ]
            refine xtake 6 (v := ?_) rfl (by kernel_rfl) (by kernel_rfl) (by kernel_rfl) rfl ?_ ?_ (by assumption) ?_
            rotate_left
            · intro w hSw; (try dsimp only at hSw); go_simp; with_reducible rfl
            · (exact fun _ _ _ hp => hp)
            try simp only [Act.put, List.setIfInBounds_toArray, List.set_cons_zero, List.set_cons_succ]
            refine xtake 7 (v := ?_) rfl (by kernel_rfl) (by kernel_rfl) (by kernel_rfl) rfl ?_ ?_ (by assumption) ?_
            rotate_left
            · intro w hSw; (try dsimp only at hSw); go_simp; with_reducible rfl
            · (exact fun _ _ _ hp => hp)
            try simp only [Act.put, List.setIfInBounds_toArray, List.set_cons_zero, List.set_cons_succ]
            refine xskip 8 rfl (by kernel_rfl) (by kernel_rfl) (by kernel_rfl) ?_ rfl (by assumption) ?_
            · (exact fun _ _ _ hp => hp)
            try simp only [Act.put, List.setIfInBounds_toArray, List.set_cons_zero, List.set_cons_succ]
            refine xskip 9 rfl (by kernel_rfl) (by kernel_rfl) (by kernel_rfl) ?_ rfl (by assumption) ?_
            · (exact fun _ _ _ hp => hp)
            try simp only [Act.put, List.setIfInBounds_toArray, List.set_cons_zero, List.set_cons_succ]
            refine xskip 10 rfl (by kernel_rfl) (by kernel_rfl) (by kernel_rfl) ?_ rfl (by assumption) ?_
            · (exact fun _ _ _ hp => hp)
            try simp only [Act.put, List.setIfInBounds_toArray, List.set_cons_zero, List.set_cons_succ]
            refine xskip 11 rfl (by kernel_rfl) (by kernel_rfl) (by kernel_rfl) ?_ rfl (by assumption) ?_
            · (exact fun _ _ _ hp => hp)
            try simp only [Act.put, List.setIfInBounds_toArray, List.set_cons_zero, List.set_cons_succ]
            refine xskip 12 rfl (by kernel_rfl) (by kernel_rfl) (by kernel_rfl) ?_ rfl (by assumption) ?_
            · (exact fun _ _ _ hp => hp)
            try simp only [Act.put, List.setIfInBounds_toArray, List.set_cons_zero, List.set_cons_succ]
            refine xskip 13 rfl (by kernel_rfl) (by kernel_rfl) (by kernel_rfl) ?_ rfl (by assumption) ?_
            · (exact fun _ _ _ hp => hp)
            try simp only [Act.put, List.setIfInBounds_toArray, List.set_cons_zero, List.set_cons_succ]
            refine xskip 14 rfl (by kernel_rfl) (by kernel_rfl) (by kernel_rfl) ?_ rfl (by assumption) ?_
            · (exact fun _ _ _ hp => hp)
            try simp only [Act.put, List.setIfInBounds_toArray, List.set_cons_zero, List.set_cons_succ]
            refine xskip 15 rfl (by kernel_rfl) (by kernel_rfl) (by kernel_rfl) ?_ rfl (by assumption) ?_
            · (exact fun _ _ _ hp => hp)
            try simp only [Act.put, List.setIfInBounds_toArray, List.set_cons_zero, List.set_cons_succ]
            refine xskip 16 rfl (by kernel_rfl) (by kernel_rfl) (by kernel_rfl) ?_ rfl (by assumption) ?_
            · (exact fun _ _ _ hp => hp)
            try simp only [Act.put, List.setIfInBounds_toArray, List.set_cons_zero, List.set_cons_succ]
            refine xtake 17 (v := ?_) rfl (by kernel_rfl) (by kernel_rfl) (by kernel_rfl) rfl ?_ ?_ (by assumption) ?_
            rotate_left
            · intro w hSw; (try dsimp only at hSw); go_simp; with_reducible rfl
            · (exact fun _ _ _ hp => hp)
            try simp only [Act.put, List.setIfInBounds_toArray, List.set_cons_zero, List.set_cons_succ]
            refine xtake 18 (v := ?_) rfl (by kernel_rfl) (by kernel_rfl) (by kernel_rfl) rfl ?_ ?_ (by assumption) ?_
            rotate_left
            · intro w hSw; (try dsimp only at hSw); go_simp; with_reducible rfl
            · (exact fun _ _ _ hp => hp)
            try simp only [Act.put, List.setIfInBounds_toArray, List.set_cons_zero, List.set_cons_succ]
            refine wpAnyH_done (by kernel_rfl) ?_ _
            (revert hHeld1; intro _)
          rotate_left 1
          exact AllReadyH.nil
          rename_i hS
          have hWw := hS.1
          clear hS hb1
          go_wp2
          go_roundw
          case rel => exact ⟨_, by omega, by go_num, HB.out.trans (hWw.mono HBW.out), Lib.hid (okAt_succ hok.out hok1)⟩
          case measure => simp [intOf]; omega
        · obtain ⟨i, rfl⟩ : ∃ i, j = i + 1 := ⟨j - 1, by omega⟩
          obtain ⟨p, hp⟩ := getq (l := l) (j := i) (by rw [← Hn.out]; omega)
          obtain ⟨b', o', heq, _, e0, e1, e2⟩ := hs'.cause hp
          cases heq
          have hp' := Lib.hid hp
          obtain ⟨u, hu⟩ : ∃ u, Hid (ltC p d = u) := ⟨_, rfl⟩
          have hwr : IntKind.i64.wrap (i : Int) = i := IntWalk.i64_in _ (by omega)
          have hok1 : okAt okC ltC l (i + 1) = u := by unfold okAt; rw [hd'.out]; simp [hv.out, hp, hu.out]
          replace hok1 := Lib.hid hok1
          clear hp hs'
          have hbB : b < w.heap.size := by omega
          cases u with
          | false =>
            have hbad : chkL okC ltC l = 1 := chkL_bad (by rw [← Hn.out]; omega) (i := i + 1) (by rw [← Hn.out]; omega) hok1.out
            replace hbad := Lib.hid hbad
            go_wp2
            refine wp_world (R := fun W => (TBox W wr.heap.size d.parcel d.reason d.known ∧ Below w.heap.size w W) ∧ W.cell? ⟨b, o + i * 3, none⟩ = some (.int .i64 p.parcel) ∧ W.cell? ⟨b, o + i * 3 + 1, none⟩ = some (.int .i64 p.reason) ∧ W.cell? ⟨b, o + i * 3 + 2, none⟩ = some (.int .i64 p.known)) ⟨⟨hX, hBx⟩, far_cell e0, far_cell e1, far_cell e2⟩ ?_
            clear c0 c1 c2 hX hBx hb e0 e1 e2
            obtain ⟨xb, hxb⟩ : ∃ xb, wr.heap.size = xb := ⟨_, rfl⟩
            rw [hxb]
            clear hxb
            rintro W ⟨⟨hX, HB⟩, e0, e1, e2⟩
            have hXd : TBox W.drew xb d.parcel d.reason d.known := ⟨hX.lt, hX.c0, hX.c1, hX.c2⟩
            have hlX := hX.lt
            have HBW := Lib.hid HB.size
            have hbW : b < W.heap.size := Nat.lt_of_lt_of_le hbB HB.size
            replace HB := Lib.hid HB
            have i0 : (0 : Int) ≤ (i : Int) := by omega
            have i1 : (i : Int) < (n : Int) := by omega
            clear hX
            refine wp_region_held_drew (S := (fun w' => (Below W.heap.size W w' ∧ w'.cell? ⟨xb, 0, none⟩ = some (.int .i64 d.parcel) ∧ w'.cell? ⟨xb, 1, none⟩ = some (.int .i64 d.reason) ∧ w'.cell? ⟨xb, 2, none⟩ = some (.int .i64 d.known)) ∧
                                          w'.cell? ⟨b, o + i * 3, none⟩ = some (.int .i64 p.parcel) ∧ w'.cell? ⟨b, o + i * 3 + 1, none⟩ = some (.int .i64 p.reason) ∧ w'.cell? ⟨b, o + i * 3 + 2, none⟩ = some (.int .i64 p.known))) (by kernel_rfl) ?_ (fun hHeld0 => ?_)
            · (try dsimp only); (first
                                  | exact ⟨⟨(Below.refl _ _).drew, hXd.c0, hXd.c1, hXd.c2⟩, e0, e1, e2⟩
                                  | exact T6B hlX hbW (Nat.le_refl _) (by assumption) hb1)
            refine xtake 0 (v := ?_) rfl (by kernel_rfl) (by kernel_rfl) (by kernel_rfl) rfl ?_ ?_ (by assumption) ?_
            rotate_left
            · intro w hSw; (try dsimp only at hSw); go_simp; with_reducible rfl
            · (exact fun _ _ _ hp => hp)
            try simp only [Act.put, List.setIfInBounds_toArray, List.set_cons_zero, List.set_cons_succ]
            refine xtake 1 (v := ?_) rfl (by kernel_rfl) (by kernel_rfl) (by kernel_rfl) rfl ?_ ?_ (by assumption) ?_
            rotate_left
            · intro w hSw; (try dsimp only at hSw); go_simp; with_reducible rfl
            · (exact fun _ _ _ hp => hp)
            try simp only [Act.put, List.setIfInBounds_toArray, List.set_cons_zero, List.set_cons_succ]
            refine wpAnyH_ready (rs := [2]) (by kernel_rfl) (by simp) ?_
            refine xcons 2 rfl (fun K hK => ?_) ?_
            focus
              (first
                | (go_simp; go_at_call 104; refine (pCause1 d _).mono ?_; rintro e w2 ⟨rfl, hb1⟩; rw [hv.out]; dsimp only)
                | (go_simp; go_at_call 105; refine (pCause2 p d _).mono ?_; rintro e w2 ⟨rfl, hb1⟩; rw [hu.out]; dsimp only))
              refine hK.out _ _ ?_ (fun hHeld1 => ?_)
              · (try dsimp only); (first
                                    | exact ⟨⟨(Below.refl _ _).drew, hXd.c0, hXd.c1, hXd.c2⟩, e0, e1, e2⟩
                                    | exact T6B hlX hbW (Nat.le_refl _) (by assumption) hb1)
              clear hK K
              try simp only [Act.put, List.setIfInBounds_toArray, List.set_cons_zero, List.set_cons_succ]
              (try clear hHeld0)
              refine xtake 3 (v := ?_) rfl (by kernel_rfl) (by kernel_rfl) (by kernel_rfl) rfl ?_ ?_ (by assumption) ?_
              rotate_left
              · intro w hSw; (try dsimp only at hSw); go_simp; with_reducible rfl
              · (exact fun _ _ _ hp => hp)
              try simp only [Act.put, List.setIfInBounds_toArray, List.set_cons_zero, List.set_cons_succ]
              refine xtake 4 (v := ?_) rfl (by kernel_rfl) (by kernel_rfl) (by kernel_rfl) rfl ?_ ?_ (by assumption) ?_
              rotate_left
              · intro w hSw; (try dsimp only at hSw); go_simp; with_reducible rfl
              · (exact fun _ _ _ hp => hp)
              try simp only [Act.put, List.setIfInBounds_toArray, List.set_cons_zero, List.set_cons_succ]
              refine xtake 5 (v := ?_) rfl (by kernel_rfl) (by kernel_rfl) (by kernel_rfl) rfl ?_ ?_ (by assumption) ?_
              rotate_left
              · intro w hSw; (try dsimp only at hSw); go_simp; with_reducible rfl
              · (exact fun _ _ _ hp => hp)
              try simp only [Act.put, List.setIfInBounds_toArray, List.set_cons_zero, List.set_cons_succ]
              refine xtake 6 (v := ?_) rfl (by kernel_rfl) (by kernel_rfl) (by kernel_rfl) rfl ?_ ?_ (by assumption) ?_
              rotate_left
              · intro w hSw; (try dsimp only at hSw); go_simp; with_reducible rfl
              · (exact fun _ _ _ hp => hp)
              try simp only [Act.put, List.setIfInBounds_toArray, List.set_cons_zero, List.set_cons_succ]
              refine xtake 7 (v := ?_) rfl (by kernel_rfl) (by kernel_rfl) (by kernel_rfl) rfl ?_ ?_ (by assumption) ?_
              rotate_left
              · intro w hSw; (try dsimp only at hSw); go_simp; with_reducible rfl
              · (exact fun _ _ _ hp => hp)
              try simp only [Act.put, List.setIfInBounds_toArray, List.set_cons_zero, List.set_cons_succ]
              refine xtake 8 (v := ?_) rfl (by kernel_rfl) (by kernel_rfl) (by kernel_rfl) rfl ?_ ?_ (by assumption) ?_
              rotate_left
              · intro w hSw; (try dsimp only at hSw); go_simp; with_reducible rfl
              · (exact fun _ _ _ hp => hp)
              try simp only [Act.put, List.setIfInBounds_toArray, List.set_cons_zero, List.set_cons_succ]
              refine xtake 9 (v := ?_) rfl (by kernel_rfl) (by kernel_rfl) (by kernel_rfl) rfl ?_ ?_ (by assumption) ?_
              rotate_left
              · intro w hSw; (try dsimp only at hSw); go_simp; with_reducible rfl
              · (exact fun _ _ _ hp => hp)
              try simp only [Act.put, List.setIfInBounds_toArray, List.set_cons_zero, List.set_cons_succ]
              refine xtake 10 (v := ?_) rfl (by kernel_rfl) (by kernel_rfl) (by kernel_rfl) rfl ?_ ?_ (by assumption) ?_
              rotate_left
              · intro w hSw; (try dsimp only at hSw); go_simp; with_reducible rfl
              · (exact fun _ _ _ hp => hp)
              try simp only [Act.put, List.setIfInBounds_toArray, List.set_cons_zero, List.set_cons_succ]
              refine xtake 11 (v := ?_) rfl (by kernel_rfl) (by kernel_rfl) (by kernel_rfl) rfl ?_ ?_ (by assumption) ?_
              rotate_left
              · intro w hSw; (try dsimp only at hSw); go_simp; with_reducible rfl
              · (exact fun _ _ _ hp => hp)
              try simp only [Act.put, List.setIfInBounds_toArray, List.set_cons_zero, List.set_cons_succ]
              refine xtake 12 (v := ?_) rfl (by kernel_rfl) (by kernel_rfl) (by kernel_rfl) rfl ?_ ?_ (by assumption) ?_
              rotate_left
              · intro w hSw; (try dsimp only at hSw); go_simp; with_reducible rfl
              · (exact fun _ _ _ hp => hp)
              try simp only [Act.put, List.setIfInBounds_toArray, List.set_cons_zero, List.set_cons_succ]
              refine xtake 13 (v := ?_) rfl (by kernel_rfl) (by kernel_rfl) (by kernel_rfl) rfl ?_ ?_ (by assumption) ?_
              rotate_left
              · intro w hSw; (try dsimp only at hSw); go_simp; with_reducible rfl
              · (exact fun _ _ _ hp => hp)
              try simp only [Act.put, List.setIfInBounds_toArray, List.set_cons_zero, List.set_cons_succ]
              refine xtake 14 (v := ?_) rfl (by kernel_rfl) (by kernel_rfl) (by kernel_rfl) rfl ?_ ?_ (by assumption) ?_
              rotate_left
              · intro w hSw; (try dsimp only at hSw); go_simp; with_reducible rfl
              · (exact fun _ _ _ hp => hp)
              try simp only [Act.put, List.setIfInBounds_toArray, List.set_cons_zero, List.set_cons_succ]
              refine wpAnyH_ready (rs := [15]) (by kernel_rfl) (by simp) ?_
              refine xcons 15 rfl (fun K hK => ?_) ?_
              focus
                (first
                  | (go_simp; go_at_call 104; refine (pCause1 d _).mono ?_; rintro e w2 ⟨rfl, hb1⟩; rw [hv.out]; dsimp only)
                  | (go_simp; go_at_call 105; refine (pCause2 p d _).mono ?_; rintro e w2 ⟨rfl, hb1⟩; rw [hu.out]; dsimp only))
                refine hK.out _ _ ?_ (fun hHeld2 => ?_)
                · (try dsimp only); (first
                                      | exact ⟨⟨(Below.refl _ _).drew, hXd.c0, hXd.c1, hXd.c2⟩, e0, e1, e2⟩
                                      | exact T6B hlX hbW (Nat.le_refl _) (by assumption) hb1)
                clear hK K
                try simp only [Act.put, List.setIfInBounds_toArray, List.set_cons_zero, List.set_cons_succ]
                (try clear hHeld1)
                refine xtake 16 (v := ?_) rfl (by kernel_rfl) (by kernel_rfl) (by kernel_rfl) rfl ?_ ?_ (by assumption) ?_
                rotate_left
                · intro w hSw; (try dsimp only at hSw); go_simp; with_reducible rfl
                · (exact fun _ _ _ hp => hp)
                try simp only [Act.put, List.setIfInBounds_toArray, List.set_cons_zero, List.set_cons_succ]
                refine xtake 17 (v := ?_) rfl (by kernel_rfl) (by kernel_rfl) (by kernel_rfl) rfl ?_ ?_ (by assumption) ?_
                rotate_left
                · intro w hSw; (try dsimp only at hSw); go_simp; with_reducible rfl
                · (exact fun _ _ _ hp => hp)
                try simp only [Act.put, List.setIfInBounds_toArray, List.set_cons_zero, List.set_cons_succ]
                refine xtake 18 (v := ?_) rfl (by kernel_rfl) (by kernel_rfl) (by kernel_rfl) rfl ?_ ?_ (by assumption) ?_
                rotate_left
                · intro w hSw; (try dsimp only at hSw); go_simp; with_reducible rfl
                · (exact fun _ _ _ hp => hp)
                try simp only [Act.put, List.setIfInBounds_toArray, List.set_cons_zero, List.set_cons_succ]
                refine wpAnyH_done (by kernel_rfl) ?_ _
                (revert hHeld2; intro _)
              rotate_left 1
              exact AllReadyH.nil
            rotate_left 1
            exact AllReadyH.nil
            rename_i hS
            have hWw := hS.1.1
            clear hS hb1
            go_wp2
            go_ret
            exact ⟨by rw [hbad.out]; rfl, HB.out.trans (hWw.mono HBW.out)⟩
          | true =>
            go_wp2
            refine wp_world (R := fun W => (TBox W wr.heap.size d.parcel d.reason d.known ∧ Below w.heap.size w W) ∧ W.cell? ⟨b, o + i * 3, none⟩ = some (.int .i64 p.parcel) ∧ W.cell? ⟨b, o + i * 3 + 1, none⟩ = some (.int .i64 p.reason) ∧ W.cell? ⟨b, o + i * 3 + 2, none⟩ = some (.int .i64 p.known)) ⟨⟨hX, hBx⟩, far_cell e0, far_cell e1, far_cell e2⟩ ?_
            clear c0 c1 c2 hX hBx hb e0 e1 e2
            obtain ⟨xb, hxb⟩ : ∃ xb, wr.heap.size = xb := ⟨_, rfl⟩
            rw [hxb]
            clear hxb
            rintro W ⟨⟨hX, HB⟩, e0, e1, e2⟩
            have hXd : TBox W.drew xb d.parcel d.reason d.known := ⟨hX.lt, hX.c0, hX.c1, hX.c2⟩
            have hlX := hX.lt
            have HBW := Lib.hid HB.size
            have hbW : b < W.heap.size := Nat.lt_of_lt_of_le hbB HB.size
            replace HB := Lib.hid HB
            have i0 : (0 : Int) ≤ (i : Int) := by omega
            have i1 : (i : Int) < (n : Int) := by omega
            clear hX
            refine wp_region_held_drew (S := (fun w' => (Below W.heap.size W w' ∧ w'.cell? ⟨xb, 0, none⟩ = some (.int .i64 d.parcel) ∧ w'.cell? ⟨xb, 1, none⟩ = some (.int .i64 d.reason) ∧ w'.cell? ⟨xb, 2, none⟩ = some (.int .i64 d.known)) ∧
                                          w'.cell? ⟨b, o + i * 3, none⟩ = some (.int .i64 p.parcel) ∧ w'.cell? ⟨b, o + i * 3 + 1, none⟩ = some (.int .i64 p.reason) ∧ w'.cell? ⟨b, o + i * 3 + 2, none⟩ = some (.int .i64 p.known))) (by kernel_rfl) ?_ (fun hHeld0 => ?_)
            · (try dsimp only); (first
                                  | exact ⟨⟨(Below.refl _ _).drew, hXd.c0, hXd.c1, hXd.c2⟩, e0, e1, e2⟩
                                  | exact T6B hlX hbW (Nat.le_refl _) (by assumption) hb1)
            refine xtake 0 (v := ?_) rfl (by kernel_rfl) (by kernel_rfl) (by kernel_rfl) rfl ?_ ?_ (by assumption) ?_
            rotate_left
            · intro w hSw; (try dsimp only at hSw); go_simp; with_reducible rfl
            · (exact fun _ _ _ hp => hp)
            try simp only [Act.put, List.setIfInBounds_toArray, List.set_cons_zero, List.set_cons_succ]
            refine xtake 1 (v := ?_) rfl (by kernel_rfl) (by kernel_rfl) (by kernel_rfl) rfl ?_ ?_ (by assumption) ?_
            rotate_left
            · intro w hSw; (try dsimp only at hSw); go_simp; with_reducible rfl
            · (exact fun _ _ _ hp => hp)
            try simp only [Act.put, List.setIfInBounds_toArray, List.set_cons_zero, List.set_cons_succ]
            refine wpAnyH_ready (rs := [2]) (by kernel_rfl) (by simp) ?_
            refine xcons 2 rfl (fun K hK => ?_) ?_
            focus
              (first
                | (go_simp; go_at_call 104; refine (pCause1 d _).mono ?_; rintro e w2 ⟨rfl, hb1⟩; rw [hv.out]; dsimp only)
                | (go_simp; go_at_call 105; refine (pCause2 p d _).mono ?_; rintro e w2 ⟨rfl, hb1⟩; rw [hu.out]; dsimp only))
              refine hK.out _ _ ?_ (fun hHeld1 => ?_)
              · (try dsimp only); (first
                                    | exact ⟨⟨(Below.refl _ _).drew, hXd.c0, hXd.c1, hXd.c2⟩, e0, e1, e2⟩
                                    | exact T6B hlX hbW (Nat.le_refl _) (by assumption) hb1)
              clear hK K
              try simp only [Act.put, List.setIfInBounds_toArray, List.set_cons_zero, List.set_cons_succ]
              (try clear hHeld0)
              refine xtake 3 (v := ?_) rfl (by kernel_rfl) (by kernel_rfl) (by kernel_rfl) rfl ?_ ?_ (by assumption) ?_
              rotate_left
              · intro w hSw; (try dsimp only at hSw); go_simp; with_reducible rfl
              · (exact fun _ _ _ hp => hp)
              try simp only [Act.put, List.setIfInBounds_toArray, List.set_cons_zero, List.set_cons_succ]
              refine xtake 4 (v := ?_) rfl (by kernel_rfl) (by kernel_rfl) (by kernel_rfl) rfl ?_ ?_ (by assumption) ?_
              rotate_left
              · intro w hSw; (try dsimp only at hSw); go_simp; with_reducible rfl
              · (exact fun _ _ _ hp => hp)
              try simp only [Act.put, List.setIfInBounds_toArray, List.set_cons_zero, List.set_cons_succ]
              refine xtake 5 (v := ?_) rfl (by kernel_rfl) (by kernel_rfl) (by kernel_rfl) rfl ?_ ?_ (by assumption) ?_
              rotate_left
              · intro w hSw; (try dsimp only at hSw); go_simp; with_reducible rfl
              · (exact fun _ _ _ hp => hp)
              try simp only [Act.put, List.setIfInBounds_toArray, List.set_cons_zero, List.set_cons_succ]
              refine xtake 6 (v := ?_) rfl (by kernel_rfl) (by kernel_rfl) (by kernel_rfl) rfl ?_ ?_ (by assumption) ?_
              rotate_left
              · intro w hSw; (try dsimp only at hSw); go_simp; with_reducible rfl
              · (exact fun _ _ _ hp => hp)
              try simp only [Act.put, List.setIfInBounds_toArray, List.set_cons_zero, List.set_cons_succ]
              refine xtake 7 (v := ?_) rfl (by kernel_rfl) (by kernel_rfl) (by kernel_rfl) rfl ?_ ?_ (by assumption) ?_
              rotate_left
              · intro w hSw; (try dsimp only at hSw); go_simp; with_reducible rfl
              · (exact fun _ _ _ hp => hp)
              try simp only [Act.put, List.setIfInBounds_toArray, List.set_cons_zero, List.set_cons_succ]
              refine xtake 8 (v := ?_) rfl (by kernel_rfl) (by kernel_rfl) (by kernel_rfl) rfl ?_ ?_ (by assumption) ?_
              rotate_left
              · intro w hSw; (try dsimp only at hSw); go_simp; with_reducible rfl
              · (exact fun _ _ _ hp => hp)
              try simp only [Act.put, List.setIfInBounds_toArray, List.set_cons_zero, List.set_cons_succ]
              refine xtake 9 (v := ?_) rfl (by kernel_rfl) (by kernel_rfl) (by kernel_rfl) rfl ?_ ?_ (by assumption) ?_
              rotate_left
              · intro w hSw; (try dsimp only at hSw); go_simp; with_reducible rfl
              · (exact fun _ _ _ hp => hp)
              try simp only [Act.put, List.setIfInBounds_toArray, List.set_cons_zero, List.set_cons_succ]
              refine xtake 10 (v := ?_) rfl (by kernel_rfl) (by kernel_rfl) (by kernel_rfl) rfl ?_ ?_ (by assumption) ?_
              rotate_left
              · intro w hSw; (try dsimp only at hSw); go_simp; with_reducible rfl
              · (exact fun _ _ _ hp => hp)
              try simp only [Act.put, List.setIfInBounds_toArray, List.set_cons_zero, List.set_cons_succ]
              refine xtake 11 (v := ?_) rfl (by kernel_rfl) (by kernel_rfl) (by kernel_rfl) rfl ?_ ?_ (by assumption) ?_
              rotate_left
              · intro w hSw; (try dsimp only at hSw); go_simp; with_reducible rfl
              · (exact fun _ _ _ hp => hp)
              try simp only [Act.put, List.setIfInBounds_toArray, List.set_cons_zero, List.set_cons_succ]
              refine xtake 12 (v := ?_) rfl (by kernel_rfl) (by kernel_rfl) (by kernel_rfl) rfl ?_ ?_ (by assumption) ?_
              rotate_left
              · intro w hSw; (try dsimp only at hSw); go_simp; with_reducible rfl
              · (exact fun _ _ _ hp => hp)
              try simp only [Act.put, List.setIfInBounds_toArray, List.set_cons_zero, List.set_cons_succ]
              refine xtake 13 (v := ?_) rfl (by kernel_rfl) (by kernel_rfl) (by kernel_rfl) rfl ?_ ?_ (by assumption) ?_
              rotate_left
              · intro w hSw; (try dsimp only at hSw); go_simp; with_reducible rfl
              · (exact fun _ _ _ hp => hp)
              try simp only [Act.put, List.setIfInBounds_toArray, List.set_cons_zero, List.set_cons_succ]
              refine xtake 14 (v := ?_) rfl (by kernel_rfl) (by kernel_rfl) (by kernel_rfl) rfl ?_ ?_ (by assumption) ?_
              rotate_left
              · intro w hSw; (try dsimp only at hSw); go_simp; with_reducible rfl
              · (exact fun _ _ _ hp => hp)
              try simp only [Act.put, List.setIfInBounds_toArray, List.set_cons_zero, List.set_cons_succ]
              refine wpAnyH_ready (rs := [15]) (by kernel_rfl) (by simp) ?_
              refine xcons 15 rfl (fun K hK => ?_) ?_
              focus
                (first
                  | (go_simp; go_at_call 104; refine (pCause1 d _).mono ?_; rintro e w2 ⟨rfl, hb1⟩; rw [hv.out]; dsimp only)
                  | (go_simp; go_at_call 105; refine (pCause2 p d _).mono ?_; rintro e w2 ⟨rfl, hb1⟩; rw [hu.out]; dsimp only))
                refine hK.out _ _ ?_ (fun hHeld2 => ?_)
                · (try dsimp only); (first
                                      | exact ⟨⟨(Below.refl _ _).drew, hXd.c0, hXd.c1, hXd.c2⟩, e0, e1, e2⟩
                                      | exact T6B hlX hbW (Nat.le_refl _) (by assumption) hb1)
                clear hK K
                try simp only [Act.put, List.setIfInBounds_toArray, List.set_cons_zero, List.set_cons_succ]
                (try clear hHeld1)
                refine xtake 16 (v := ?_) rfl (by kernel_rfl) (by kernel_rfl) (by kernel_rfl) rfl ?_ ?_ (by assumption) ?_
                rotate_left
                · intro w hSw; (try dsimp only at hSw); go_simp; with_reducible rfl
                · (exact fun _ _ _ hp => hp)
                try simp only [Act.put, List.setIfInBounds_toArray, List.set_cons_zero, List.set_cons_succ]
                refine xtake 17 (v := ?_) rfl (by kernel_rfl) (by kernel_rfl) (by kernel_rfl) rfl ?_ ?_ (by assumption) ?_
                rotate_left
                · intro w hSw; (try dsimp only at hSw); go_simp; with_reducible rfl
                · (exact fun _ _ _ hp => hp)
                try simp only [Act.put, List.setIfInBounds_toArray, List.set_cons_zero, List.set_cons_succ]
                refine xtake 18 (v := ?_) rfl (by kernel_rfl) (by kernel_rfl) (by kernel_rfl) rfl ?_ ?_ (by assumption) ?_
                rotate_left
                · intro w hSw; (try dsimp only at hSw); go_simp; with_reducible rfl
                · (exact fun _ _ _ hp => hp)
                try simp only [Act.put, List.setIfInBounds_toArray, List.set_cons_zero, List.set_cons_succ]
                refine wpAnyH_done (by kernel_rfl) ?_ _
                (revert hHeld2; intro _)
              rotate_left 1
              exact AllReadyH.nil
            rotate_left 1
            exact AllReadyH.nil
            rename_i hS
            have hWw := hS.1.1
            clear hS hb1
            go_wp2
            go_roundw
            case rel => exact ⟨_, by omega, by go_num, HB.out.trans (hWw.mono HBW.out), Lib.hid (okAt_succ hok.out hok1)⟩
            case measure => simp [intOf]; omega
    · obtain rfl : j = n := by omega
      have hgood : chkL okC ltC l = 0 := chkL_good (by rw [← Hn.out]; omega) (by rw [← Hn.out]; exact hok.out)
      go_wp2
      go_ret
      exact ⟨by rw [hgood]; rfl, hb⟩
theorem pCheckDues {l : List Due} {n cap : Nat} {ao : Option Addr} {B : Nat} {w : World} (h : DIn l n cap ao B w) : Calls Tryz.prog 41 #[.slice ao n cap] w (RetB (chkL okD ltD l) w) := by
  go_enter Tryz.func41, Tryz.ntmps41
  go_wp2_with (go_at_call 94; refine (plistedD h).mono ?_; rintro e w1 ⟨rfl, hb⟩)
  go_ret
  exact ⟨rfl, hb⟩
theorem pCheckCauses {l : List Cause} {n cap : Nat} {ao : Option Addr} {B : Nat} {w : World} (h : CIn l n cap ao B w) : Calls Tryz.prog 43 #[.slice ao n cap] w (RetB (chkL okC ltC l) w) := by
  go_enter Tryz.func43, Tryz.ntmps43
  go_wp2_with (go_at_call 103; refine (plistedC h).mono ?_; rintro e w1 ⟨rfl, hb⟩)
  go_ret
  exact ⟨rfl, hb⟩
end Go.Proofs.YtoijlikmigejbaaGreat

namespace Go.Proofs.YtoijlikmigejbaaGreat
open Go.RowKit Go.Proofs.YtoijlikmigejbaaGreat.Pu

section
variable {K V : Type} {eK : K → Value} {eV : V → Value}
/-- what is left of a map, with its place -/
def leftM (seen : Array Nat) : List (K × V) → Nat → List (Nat × K × V)
  | [], _ => []
  | (k, v) :: r, i => if seen.contains i then leftM seen r (i + 1) else (i, k, v) :: leftM seen r (i + 1)
theorem leftM_ge (seen : Array Nat) : ∀ (m : List (K × V)) (i : Nat) (x : Nat × K × V), x ∈ leftM seen m i → i ≤ x.1
  | [], _, _, h => by simp [leftM] at h
  | (k, v) :: r, i, x, h => by
    rw [leftM] at h
    split at h
    · have := leftM_ge seen r (i + 1) x h; omega
    · rcases List.mem_cons.1 h with rfl | h
      · exact Nat.le_refl _
      · have := leftM_ge seen r (i + 1) x h; omega
theorem leftM_push_lt (seen : Array Nat) (j : Nat) : ∀ (m : List (K × V)) (i : Nat), j < i → leftM (seen.push j) m i = leftM seen m i
  | [], _, _ => rfl
  | (k, v) :: r, i, h => by
    have e : (seen.push j).contains i = seen.contains i := by simp; omega
    rw [leftM, leftM, e, leftM_push_lt seen j r (i + 1) (by omega)]
theorem leftM_push (seen : Array Nat) : ∀ (m : List (K × V)) (i : Nat) (x : Nat × K × V), x ∈ leftM seen m i → (leftM seen m i).Perm (x :: leftM (seen.push x.1) m i)
  | [], _, _, h => by simp [leftM] at h
  | (k, v) :: r, i, x, h => by
    rw [leftM] at h
    by_cases hs : seen.contains i = true
    · rw [if_pos hs] at h
      have e : (seen.push x.1).contains i = true := by simp at hs ⊢; exact .inl hs
      rw [leftM, leftM, if_pos hs, if_pos e]
      exact leftM_push seen r (i + 1) x h
    · rw [if_neg hs] at h
      rcases List.mem_cons.1 h with rfl | h'
      · have e : (seen.push i).contains i = true := by simp
        rw [leftM, leftM, if_neg hs, if_pos e, leftM_push_lt seen i r (i + 1) (by omega)]
      · have hge := leftM_ge seen r (i + 1) x h'
        have e : ¬ (seen.push x.1).contains i = true := by simp at hs ⊢; exact ⟨hs, by omega⟩
        rw [leftM, leftM, if_neg hs, if_neg e]
        exact ((leftM_push seen r (i + 1) x h').cons _).trans (.swap ..)
theorem leftM_none (m : List (K × V)) : ∀ i, (leftM #[] m i).map (·.2) = m := by
  induction m with
  | nil => intro i; rfl
  | cons kv r ih => intro i; obtain ⟨k, v⟩ := kv; rw [leftM, if_neg (by simp)]; simp [ih]
theorem leftOf_ents (seen : Array Nat) : ∀ (m : List (K × V)) (i : Nat), (ents eK eV m i).filter (fun e => !seen.contains e.born) = (leftM seen m i).map fun x => ⟨eK x.2.1, eV x.2.2, x.1⟩
  | [], _ => rfl
  | (k, v) :: r, i => by
    rw [ents, List.filter_cons, leftM]
    by_cases hs : seen.contains i = true
    · rw [if_neg (by simp at hs ⊢; exact hs), if_pos hs]; exact leftOf_ents seen r (i + 1)
    · rw [if_pos (by simp at hs ⊢; exact hs), if_neg hs, List.map_cons, leftOf_ents seen r (i + 1)]
theorem ents_born : ∀ (m : List (K × V)) (i : Nat), (ents eK eV m i).map (·.born) = List.range' i m.length
  | [], _ => rfl
  | (k, v) :: r, i => by simp [ents, ents_born r (i + 1), List.range'_succ]

/-- an iterator over a map in block b -/
structure MapIt (eK : K → Value) (eV : V → Value) (w : World) (r b : Nat) (m : List (K × V)) (seen : Array Nat) : Prop where
  iter : w.heap[r]? = some (.mapIter (some b) m.length seen m.length)
  map : w.heap[b]? = some (mapObj eK eV m)

theorem run_rangeM {P : Program} {t k e : TypeId} {w : World} {b : Nat} {m : List (K × V)} (hT : P.underlying t = some (.map k e)) (hb : w.heap[b]? = some (mapObj eK eV m)) :
    (Instr.range t (.map (some b))).run P w = .ok (.pointer (some ⟨w.heap.size, 0, none⟩)) (w.alloc (.mapIter (some b) m.length #[] m.length)) := by
  simp [Instr.range, run_underlying hT, MapKept.run_getObj_map hb, Result.andThen]
theorem MapIt.new {w : World} {b : Nat} {m : List (K × V)} (hb : w.heap[b]? = some (mapObj eK eV m)) : MapIt eK eV (w.alloc (.mapIter (some b) m.length #[] m.length)) w.heap.size b m #[] :=
  ⟨heap_alloc_new w _, (Below.heap_alloc w _ b (Array.getElem?_eq_some_iff.1 hb).1).trans hb⟩
theorem MapIt.keeps {w w' : World} {r b : Nat} {m : List (K × V)} {seen : Array Nat} (h : MapIt eK eV w r b m seen) (hr : w'.heap[r]? = w.heap[r]?) (hb : w'.heap[b]? = w.heap[b]?) : MapIt eK eV w' r b m seen := ⟨hr.trans h.iter, hb.trans h.map⟩

theorem run_nextM {P : Program} {w : World} {r b : Nat} {m : List (K × V)} {seen : Array Nat} (h : MapIt eK eV w r b m seen) (ty : TypeId) :
    (leftM seen m 0 = [] ∧ (Instr.next (.pointer (some ⟨r, 0, none⟩)) false ty).run P w = .ok (.tuple #[.bool false]) w) ∨
    ∃ x ∈ leftM seen m 0, ∃ w', (Instr.next (.pointer (some ⟨r, 0, none⟩)) false ty).run P w = .ok (.tuple #[.bool true, eK x.2.1, eV x.2.2]) w' ∧ MapIt eK eV w' r b m (seen.push x.1) ∧
      w.grownBy w' (some r) ∧ w'.heap.size = w.heap.size ∧ (Instr.entry (.pointer (some ⟨r, 0, none⟩))).run P w' = .ok (.tuple #[eK x.2.1, eV x.2.2]) w' := by
  have hne : b ≠ r := fun e => by subst e; have := h.iter; rw [h.map] at this; cases this
  have hold : ∀ x ∈ (ents eK eV m 0).toArray.toList, x.born < m.length := fun x hx => by
    have : x.born ∈ (ents eK eV m 0).map (·.born) := List.mem_map_of_mem (by simpa using hx)
    rw [ents_born] at this
    have := List.mem_range'_1.1 this; omega
  have hnd : ((ents eK eV m 0).toArray.toList.map (·.born)).Nodup := by
    rw [show (ents eK eV m 0).toArray.toList = ents eK eV m 0 from rfl, ents_born]; exact List.nodup_range'
  have hlo : (leftOf (ents eK eV m 0).toArray seen).toList = (leftM seen m 0).map fun x => ⟨eK x.2.1, eV x.2.2, x.1⟩ := by
    rw [leftOf, Array.toList_filter]; exact leftOf_ents seen m 0
  rcases run_next_at (P := P) w ty r b m.length m.length seen _ _ h.iter h.map hold (Nat.le_refl _) with ⟨h0, hr⟩ | ⟨e, he, w1, hal, hr⟩
  · refine .inl ⟨?_, hr⟩
    have : (leftOf (ents eK eV m 0).toArray seen).toList.length = 0 := by simpa using h0
    rw [hlo, List.length_map] at this
    exact List.length_eq_zero_iff.1 this
  · rw [hlo] at he
    obtain ⟨x, hx, rfl⟩ := List.mem_map.1 he
    refine .inr ⟨x, hx, _, hr, ?_⟩
    have hrl : r < w.heap.size := (Array.getElem?_eq_some_iff.1 h.iter).1
    have h1 : w1.heap = w.heap := by rcases hal with rfl | rfl <;> rfl
    have hset : ∀ (o : Obj), (Go.ChangeMaps.setBlock w1 r o).heap[r]? = some o := fun o => by simp [Go.ChangeMaps.setBlock, h1, hrl]
    have hoth : ∀ (o : Obj) (k : Nat), k ≠ r → (Go.ChangeMaps.setBlock w1 r o).heap[k]? = w.heap[k]? := fun o k hk => by
      show (w1.heap.setIfInBounds r o)[k]? = _
      rw [h1, Array.getElem?_setIfInBounds_ne (fun e => hk e.symm)]
    refine ⟨⟨hset _, (hoth _ b hne).trans h.map⟩, ?_, by simp [Go.ChangeMaps.setBlock, h1], ?_⟩
    · rcases hal with rfl | rfl <;> exact ⟨rfl, rfl, rfl, by simp [Go.ChangeMaps.setBlock], fun k _ hk => hoth _ k (fun e => hk (by rw [e]))⟩
    · exact run_entry_at _ r b m.length seen _ _ ⟨eK x.2.1, eV x.2.2, x.1⟩ (hset _) ((hoth _ b hne).trans h.map) (by
        have : (⟨eK x.2.1, eV x.2.2, x.1⟩ : MapEntry) ∈ (leftOf (ents eK eV m 0).toArray seen).toList := by rw [hlo]; exact he
        rw [leftOf, Array.toList_filter] at this
        exact (List.mem_filter.1 this).1) hnd

theorem wpList_nextM {P : Program} {w : World} {ops : Array Oper} {rest : List Oper} {o : Oper} {a : Act} {Q : Exit → Act → World → Prop} (hg : o.guard = none) (it : Operand) (hop : o.op = Op.next it false) {r b : Nat} {m : List (K × V)} {seen : Array Nat}
    (hit : a.eval it = .pointer (some ⟨r, 0, none⟩)) (h : MapIt eK eV w r b m seen) (hDone : leftM seen m 0 = [] → wpList P ops Q rest (a.put o.dst (.tuple #[.bool false])) w)
    (hMore : ∀ (x : Nat × K × V) (w' : World), x ∈ leftM seen m 0 → MapIt eK eV w' r b m (seen.push x.1) → w.grownBy w' (some r) → w'.heap.size = w.heap.size →
      (Instr.entry (.pointer (some ⟨r, 0, none⟩))).run P w' = .ok (.tuple #[eK x.2.1, eV x.2.2]) w' → wpList P ops Q rest (a.put o.dst (.tuple #[.bool true, eK x.2.1, eV x.2.2])) w') :
    wpList P ops Q (o :: rest) a w := by
  refine wpList_plain hg fun K' hK' => ?_
  unfold Oper.wp
  rcases run_nextM (P := P) h o.type with ⟨h0, hr⟩ | ⟨x, hx, w', hr, h1, h2, h3, h4⟩
  · simp [execOp, hop, hit, hr, Result.andThen]
    exact hK' _ _ (hDone h0)
  · simp [execOp, hop, hit, hr, Result.andThen]
    exact hK' _ _ (hMore x w' hx h1 h2 h3 h4)
theorem wpListIn_nextM {P : Program} {F : Fence} {nF : Nat} {w : World} {ops : Array Oper} {rest : List Oper} {o : Oper} {a : Act} {Q : Exit → Act → World → Prop} (hg : o.guard = none) (it : Operand) (hop : o.op = Op.next it false) {r b : Nat} {m : List (K × V)} {seen : Array Nat}
    (hit : a.eval it = .pointer (some ⟨r, 0, none⟩)) (h : MapIt eK eV w r b m seen) (hDone : leftM seen m 0 = [] → wpListIn F nF P ops Q rest (a.put o.dst (.tuple #[.bool false])) w)
    (hMore : ∀ (x : Nat × K × V) (w' : World), x ∈ leftM seen m 0 → MapIt eK eV w' r b m (seen.push x.1) → w.grownBy w' (some r) → w'.heap.size = w.heap.size →
      (Instr.entry (.pointer (some ⟨r, 0, none⟩))).run P w' = .ok (.tuple #[eK x.2.1, eV x.2.2]) w' → wpListIn F nF P ops Q rest (a.put o.dst (.tuple #[.bool true, eK x.2.1, eV x.2.2])) w') :
    wpListIn F nF P ops Q (o :: rest) a w := by
  refine wpListIn_plain hg fun K' hK' => ?_
  unfold Oper.wpIn
  refine ⟨by simp [Oper.about, hop], ?_⟩
  rw [Oper.semAt_plain F _ _ (by rw [hop]; intro c hc'; cases hc')]
  rcases run_nextM (P := P) h o.type with ⟨h0, hr⟩ | ⟨x, hx, w', hr, h1, h2, h3, h4⟩
  · simp [execOp, hop, hit, hr, Result.andThen]
    exact hK' _ _ (hDone h0)
  · simp [execOp, hop, hit, hr, Result.andThen]
    exact hK' _ _ (hMore x w' hx h1 h2 h3 h4)

/-- what has come is a part of the map; the rest is left -/
def Came (m : List (K × V)) (seen : Array Nat) (done : List (K × V)) : Prop := (done ++ (leftM seen m 0).map (·.2)).Perm m
theorem Came.start (m : List (K × V)) : Came m #[] [] := by unfold Came; rw [leftM_none]; exact .refl _
theorem Came.step {m : List (K × V)} {seen : Array Nat} {done : List (K × V)} (h : Came m seen done) {x : Nat × K × V} (hx : x ∈ leftM seen m 0) : Came m (seen.push x.1) (done ++ [x.2]) := by
  have h1 := ((leftM_push seen m 0 x hx).map (·.2)).append_left done
  unfold Came at h ⊢
  rw [List.append_assoc]
  exact h1.symm.trans h
theorem Came.all {m : List (K × V)} {seen : Array Nat} {done : List (K × V)} (h : Came m seen done) (h0 : leftM seen m 0 = []) : done.Perm m := by
  unfold Came at h; rw [h0] at h; simpa using h
theorem Came.lt {m : List (K × V)} {seen : Array Nat} {done : List (K × V)} (h : Came m seen done) {x : Nat × K × V} (hx : x ∈ leftM seen m 0) : done.length < m.length := by
  have h1 := h.length_eq
  have h2 := List.length_pos_of_mem hx
  simp at h1; omega
theorem leftM_dec {m : List (K × V)} {seen : Array Nat} {x : Nat × K × V} (hx : x ∈ leftM seen m 0) : (leftM (seen.push x.1) m 0).length < (leftM seen m 0).length := by
  have := (leftM_push seen m 0 x hx).length_eq
  simp at this; omega
end
end Go.Proofs.YtoijlikmigejbaaGreat
