/- Walks: the reference's CheckCauses. -/
import Derived.Test.YtoijlikmigejbaaGreatCRgA
import Derived.Test.YtoijlikmigejbaaGreatG01
namespace Go.Proofs.YtoijlikmigejbaaGreat
open Go.RowKit Go.Proofs.YtoijlikmigejbaaGreat.Pu

theorem ltC_no {a b : Cause} (h : b.parcel ≤ a.parcel) : ltC a b = false := by unfold ltC; simp; omega
theorem ltC_yes {a b : Cause} (h : a.parcel < b.parcel) : ltC a b = true := by unfold ltC; simpa using h

set_option maxRecDepth 100000 in
set_option maxHeartbeats 8000000 in
theorem rCheckCauses {d : List Cause} {n cap : Nat} {ao : Option Addr} {B : Nat} {w : World} (h : CIn d n cap ao B w) :
    Calls Tryz.prog 44 #[.slice ao n cap] w fun e w' => e = .returned (.int .i64 (chkL okC ltC d)) ∧ Below w.heap.size w w' := by
  have hB := h.hB
  have hcap := h.hcap
  have hm := h.hm
  have Hn := Lib.hid h.hn
  by_cases hlong : 400 < n
  · have hc : chkL okC ltC d = 2 := chkL_long (by rw [← Hn.out]; exact hlong)
    go_enter Tryz.func44, Tryz.ntmps44
    go_wp2
    go_ret
    exact ⟨by rw [hc]; rfl, Below.refl _ _⟩
  go_enter Tryz.func44, Tryz.ntmps44
  go_wp2
  go_loopw [3] (fun i wr => ∃ j : Nat, j ≤ n ∧ i = .int .i64 j ∧ Below w.heap.size w wr ∧ Hid (∀ i, i < j → okAt okC ltC d i = true)) (fun i _ => n - (intOf i).toNat)
  case atStart => exact ⟨0, Nat.zero_le _, rfl, Below.refl _ _, fun i hi => by omega⟩
  case round =>
    obtain ⟨j, hj, rfl, hb, hok⟩ := hrel
    by_cases hlt : j < n
    · obtain ⟨x, hx⟩ := getq (l := d) (j := j) (by rw [← Hn.out]; exact hlt)
      have hs' := h.hs.below (hb.mono hB)
      obtain ⟨b, o, rfl, hb0, c0, c1, c2⟩ := hs'.cause hx
      obtain ⟨v1, hv1⟩ : ∃ v, Hid (inB x.parcel 10 10000007 = v) := ⟨_, rfl⟩
      obtain ⟨v2, hv2⟩ : ∃ v, Hid (inB x.reason 1 1000000 = v) := ⟨_, rfl⟩
      obtain ⟨v3, hv3⟩ : ∃ v, Hid (inB x.known 0 1000000 = v) := ⟨_, rfl⟩
      have hokx : Hid (okC x = (v1 && v2 && v3)) := by show _ = _; unfold okC; rw [hv1.out, hv2.out, hv3.out]
      replace hx := Lib.hid hx
      have hblt : b < wr.heap.size := by have := hb.size; omega
      have hbd := Lib.hid hb.drew
      replace hb := Lib.hid hb
      have K3 : Hid ((wr.drew.cell? ⟨b, o + j * 3, none⟩ = some (.int .i64 x.parcel)) ∧ (wr.drew.cell? ⟨b, o + j * 3 + 1, none⟩ = some (.int .i64 x.reason)) ∧ (wr.drew.cell? ⟨b, o + j * 3 + 2, none⟩ = some (.int .i64 x.known))) := ⟨c0, c1, c2⟩
      by_cases hall : v1 = true ∧ v2 = true ∧ v3 = true
      case neg =>
        have hbad : Hid (chkL okC ltC d = 1) := chkL_bad (by rw [← Hn.out]; omega) (i := j) (by rw [← Hn.out]; omega) (okAt_bad hx.out (by rw [hokx.out]; cases v1 <;> cases v2 <;> cases v3 <;> simp_all))
        clear hs' hokx
        have hcs : v1 = false ∨ (v1 = true ∧ v2 = false) ∨ (v1 = true ∧ v2 = true ∧ v3 = false) := by cases v1 <;> cases v2 <;> cases v3 <;> simp_all
        clear hall
        go_wp2
        rcases hcs with rfl | ⟨rfl, rfl⟩ | ⟨rfl, rfl, rfl⟩
        · clear c0 c1 c2
          refine wp_region_held_drew (S := (fun w' => w'.cell? ⟨b, o + j * 3, none⟩ = some (.int .i64 x.parcel) ∧ w'.cell? ⟨b, o + j * 3 + 1, none⟩ = some (.int .i64 x.reason) ∧ w'.cell? ⟨b, o + j * 3 + 2, none⟩ = some (.int .i64 x.known))) (by kernel_rfl) ?_ (fun hHeld0 => ?_)
          · (try dsimp only); (with_reducible exact K3.out)
          refine xtake 0 (v := ?_) rfl (by kernel_rfl) (by kernel_rfl) (by kernel_rfl) rfl ?_ ?_ (by assumption) ?_
          rotate_left
          · intro w hSw; (try dsimp only at hSw); go_simp; with_reducible rfl
          · (exact fun _ _ _ hp => hp)
          try simp only [Act.put, List.setIfInBounds_toArray, List.set_cons_zero, List.set_cons_succ]
          refine xtake 1 (v := ?_) rfl (by kernel_rfl) (by kernel_rfl) (by kernel_rfl) rfl ?_ ?_ (by assumption) ?_
          rotate_left
          · intro w hSw; (try dsimp only at hSw); go_simp; with_reducible rfl
          · (exact fun _ _ _ hp => hp)
          try simp only [Act.put, List.setIfInBounds_toArray, List.set_cons_zero, List.set_cons_succ]
          refine xtake 2 (v := ?_) rfl (by kernel_rfl) (by kernel_rfl) (by kernel_rfl) rfl ?_ ?_ (by assumption) ?_
          rotate_left
          · intro w hSw; (try dsimp only at hSw); go_simp; with_reducible rfl
          · (exact fun _ _ _ hp => hp)
          try simp only [Act.put, List.setIfInBounds_toArray, List.set_cons_zero, List.set_cons_succ]
          refine xtake 3 (v := ?_) rfl (by kernel_rfl) (by kernel_rfl) (by kernel_rfl) rfl ?_ ?_ (by assumption) ?_
          rotate_left
          · intro w hSw; (try dsimp only at hSw); go_simp; with_reducible rfl
          · (exact fun _ _ _ hp => hp)
          try simp only [Act.put, List.setIfInBounds_toArray, List.set_cons_zero, List.set_cons_succ]
          refine xtake 4 (v := ?_) rfl (by kernel_rfl) (by kernel_rfl) (by kernel_rfl) rfl ?_ ?_ (by assumption) ?_
          rotate_left
          · intro w hSw; (try dsimp only at hSw); go_simp; with_reducible rfl
          · (exact fun _ _ _ hp => hp)
          try simp only [Act.put, List.setIfInBounds_toArray, List.set_cons_zero, List.set_cons_succ]
          refine wpAnyH_ready (rs := [5]) (by kernel_rfl) (by simp) ?_
          refine xcons 5 rfl (fun K hK => ?_) ?_
          focus
            (first
              | (go_simp; go_at_call 101; refine (rparcel x.parcel wr.drew).mono ?_; rintro e w1 ⟨rfl, rfl⟩; rw [hv1.out]; dsimp only)
              | (go_simp; go_at_call 102; refine (rwithin x.reason 1 1000000 wr.drew).mono ?_; rintro e w1 ⟨rfl, rfl⟩; rw [hv2.out]; dsimp only)
              | (go_simp; go_at_call 67; refine (rhour x.known wr.drew).mono ?_; rintro e w1 ⟨rfl, rfl⟩; rw [hv3.out]; dsimp only))
            refine hK.out _ _ ?_ (fun hHeld1 => ?_)
            · (try dsimp only); (with_reducible exact K3.out)
            clear hK K
            try simp only [Act.put, List.setIfInBounds_toArray, List.set_cons_zero, List.set_cons_succ]
            (try clear hHeld0)
            refine xtake 6 (v := ?_) rfl (by kernel_rfl) (by kernel_rfl) (by kernel_rfl) rfl ?_ ?_ (by assumption) ?_
            rotate_left
            · intro w hSw; (try dsimp only at hSw); go_simp; with_reducible rfl
            · (exact fun _ _ _ hp => hp)
            try simp only [Act.put, List.setIfInBounds_toArray, List.set_cons_zero, List.set_cons_succ]
            refine xtake 7 (v := ?_) rfl (by kernel_rfl) (by kernel_rfl) (by kernel_rfl) rfl ?_ ?_ (by assumption) ?_
            rotate_left
            · intro w hSw; (try dsimp only at hSw); go_simp; with_reducible rfl
            · (exact fun _ _ _ hp => hp)
            try simp only [Act.put, List.setIfInBounds_toArray, List.set_cons_zero, List.set_cons_succ]
            refine xskip 8 rfl (by kernel_rfl) (by kernel_rfl) (by kernel_rfl) ?_ rfl (by assumption) ?_
            · (exact fun _ _ _ hp => hp)
            try simp only [Act.put, List.setIfInBounds_toArray, List.set_cons_zero, List.set_cons_succ]
            refine xskip 9 rfl (by kernel_rfl) (by kernel_rfl) (by kernel_rfl) ?_ rfl (by assumption) ?_
            · (exact fun _ _ _ hp => hp)
            try simp only [Act.put, List.setIfInBounds_toArray, List.set_cons_zero, List.set_cons_succ]
            refine xskip 10 rfl (by kernel_rfl) (by kernel_rfl) (by kernel_rfl) ?_ rfl (by assumption) ?_
            · (exact fun _ _ _ hp => hp)
            try simp only [Act.put, List.setIfInBounds_toArray, List.set_cons_zero, List.set_cons_succ]
            refine xskip 11 rfl (by kernel_rfl) (by kernel_rfl) (by kernel_rfl) ?_ rfl (by assumption) ?_
            · (exact fun _ _ _ hp => hp)
            try simp only [Act.put, List.setIfInBounds_toArray, List.set_cons_zero, List.set_cons_succ]
            refine xskip 12 rfl (by kernel_rfl) (by kernel_rfl) (by kernel_rfl) ?_ rfl (by assumption) ?_
            · (exact fun _ _ _ hp => hp)
            try simp only [Act.put, List.setIfInBounds_toArray, List.set_cons_zero, List.set_cons_succ]
            refine xskip 13 rfl (by kernel_rfl) (by kernel_rfl) (by kernel_rfl) ?_ rfl (by assumption) ?_
            · (exact fun _ _ _ hp => hp)
            try simp only [Act.put, List.setIfInBounds_toArray, List.set_cons_zero, List.set_cons_succ]
            refine xskip 14 rfl (by kernel_rfl) (by kernel_rfl) (by kernel_rfl) ?_ rfl (by assumption) ?_
            · (exact fun _ _ _ hp => hp)
            try simp only [Act.put, List.setIfInBounds_toArray, List.set_cons_zero, List.set_cons_succ]
            refine xtake 15 (v := ?_) rfl (by kernel_rfl) (by kernel_rfl) (by kernel_rfl) rfl ?_ ?_ (by assumption) ?_
            rotate_left
            · intro w hSw; (try dsimp only at hSw); go_simp; with_reducible rfl
            · (exact fun _ _ _ hp => hp)
            try simp only [Act.put, List.setIfInBounds_toArray, List.set_cons_zero, List.set_cons_succ]
            refine xtake 16 (v := ?_) rfl (by kernel_rfl) (by kernel_rfl) (by kernel_rfl) rfl ?_ ?_ (by assumption) ?_
            rotate_left
            · intro w hSw; (try dsimp only at hSw); go_simp; with_reducible rfl
            · (exact fun _ _ _ hp => hp)
            try simp only [Act.put, List.setIfInBounds_toArray, List.set_cons_zero, List.set_cons_succ]
            refine xskip 17 rfl (by kernel_rfl) (by kernel_rfl) (by kernel_rfl) ?_ rfl (by assumption) ?_
            · (exact fun _ _ _ hp => hp)
            try simp only [Act.put, List.setIfInBounds_toArray, List.set_cons_zero, List.set_cons_succ]
            refine xskip 18 rfl (by kernel_rfl) (by kernel_rfl) (by kernel_rfl) ?_ rfl (by assumption) ?_
            · (exact fun _ _ _ hp => hp)
            try simp only [Act.put, List.setIfInBounds_toArray, List.set_cons_zero, List.set_cons_succ]
            refine xskip 19 rfl (by kernel_rfl) (by kernel_rfl) (by kernel_rfl) ?_ rfl (by assumption) ?_
            · (exact fun _ _ _ hp => hp)
            try simp only [Act.put, List.setIfInBounds_toArray, List.set_cons_zero, List.set_cons_succ]
            refine xskip 20 rfl (by kernel_rfl) (by kernel_rfl) (by kernel_rfl) ?_ rfl (by assumption) ?_
            · (exact fun _ _ _ hp => hp)
            try simp only [Act.put, List.setIfInBounds_toArray, List.set_cons_zero, List.set_cons_succ]
            refine xskip 21 rfl (by kernel_rfl) (by kernel_rfl) (by kernel_rfl) ?_ rfl (by assumption) ?_
            · (exact fun _ _ _ hp => hp)
            try simp only [Act.put, List.setIfInBounds_toArray, List.set_cons_zero, List.set_cons_succ]
            refine xskip 22 rfl (by kernel_rfl) (by kernel_rfl) (by kernel_rfl) ?_ rfl (by assumption) ?_
            · (exact fun _ _ _ hp => hp)
            try simp only [Act.put, List.setIfInBounds_toArray, List.set_cons_zero, List.set_cons_succ]
            refine xskip 23 rfl (by kernel_rfl) (by kernel_rfl) (by kernel_rfl) ?_ rfl (by assumption) ?_
            · (exact fun _ _ _ hp => hp)
            try simp only [Act.put, List.setIfInBounds_toArray, List.set_cons_zero, List.set_cons_succ]
            refine xtake 24 (v := ?_) rfl (by kernel_rfl) (by kernel_rfl) (by kernel_rfl) rfl ?_ ?_ (by assumption) ?_
            rotate_left
            · intro w hSw; (try dsimp only at hSw); go_simp; with_reducible rfl
            · (exact fun _ _ _ hp => hp)
            try simp only [Act.put, List.setIfInBounds_toArray, List.set_cons_zero, List.set_cons_succ]
            refine xtake 25 (v := ?_) rfl (by kernel_rfl) (by kernel_rfl) (by kernel_rfl) rfl ?_ ?_ (by assumption) ?_
            rotate_left
            · intro w hSw; (try dsimp only at hSw); go_simp; with_reducible rfl
            · (exact fun _ _ _ hp => hp)
            try simp only [Act.put, List.setIfInBounds_toArray, List.set_cons_zero, List.set_cons_succ]
            refine xskip 26 rfl (by kernel_rfl) (by kernel_rfl) (by kernel_rfl) ?_ rfl (by assumption) ?_
            · (exact fun _ _ _ hp => hp)
            try simp only [Act.put, List.setIfInBounds_toArray, List.set_cons_zero, List.set_cons_succ]
            refine xskip 27 rfl (by kernel_rfl) (by kernel_rfl) (by kernel_rfl) ?_ rfl (by assumption) ?_
            · (exact fun _ _ _ hp => hp)
            try simp only [Act.put, List.setIfInBounds_toArray, List.set_cons_zero, List.set_cons_succ]
            refine xskip 28 rfl (by kernel_rfl) (by kernel_rfl) (by kernel_rfl) ?_ rfl (by assumption) ?_
            · (exact fun _ _ _ hp => hp)
            try simp only [Act.put, List.setIfInBounds_toArray, List.set_cons_zero, List.set_cons_succ]
            refine xskip 29 rfl (by kernel_rfl) (by kernel_rfl) (by kernel_rfl) ?_ rfl (by assumption) ?_
            · (exact fun _ _ _ hp => hp)
            try simp only [Act.put, List.setIfInBounds_toArray, List.set_cons_zero, List.set_cons_succ]
            refine xskip 30 rfl (by kernel_rfl) (by kernel_rfl) (by kernel_rfl) ?_ rfl (by assumption) ?_
            · (exact fun _ _ _ hp => hp)
            try simp only [Act.put, List.setIfInBounds_toArray, List.set_cons_zero, List.set_cons_succ]
            refine xskip 31 rfl (by kernel_rfl) (by kernel_rfl) (by kernel_rfl) ?_ rfl (by assumption) ?_
            · (exact fun _ _ _ hp => hp)
            try simp only [Act.put, List.setIfInBounds_toArray, List.set_cons_zero, List.set_cons_succ]
            refine xskip 32 rfl (by kernel_rfl) (by kernel_rfl) (by kernel_rfl) ?_ rfl (by assumption) ?_
            · (exact fun _ _ _ hp => hp)
            try simp only [Act.put, List.setIfInBounds_toArray, List.set_cons_zero, List.set_cons_succ]
            refine xskip 33 rfl (by kernel_rfl) (by kernel_rfl) (by kernel_rfl) ?_ rfl (by assumption) ?_
            · (exact fun _ _ _ hp => hp)
            try simp only [Act.put, List.setIfInBounds_toArray, List.set_cons_zero, List.set_cons_succ]
            refine xskip 34 rfl (by kernel_rfl) (by kernel_rfl) (by kernel_rfl) ?_ rfl (by assumption) ?_
            · (exact fun _ _ _ hp => hp)
            try simp only [Act.put, List.setIfInBounds_toArray, List.set_cons_zero, List.set_cons_succ]
            refine xskip 35 rfl (by kernel_rfl) (by kernel_rfl) (by kernel_rfl) ?_ rfl (by assumption) ?_
            · (exact fun _ _ _ hp => hp)
            try simp only [Act.put, List.setIfInBounds_toArray, List.set_cons_zero, List.set_cons_succ]
            refine xskip 36 rfl (by kernel_rfl) (by kernel_rfl) (by kernel_rfl) ?_ rfl (by assumption) ?_
            · (exact fun _ _ _ hp => hp)
            try simp only [Act.put, List.setIfInBounds_toArray, List.set_cons_zero, List.set_cons_succ]
            refine xskip 37 rfl (by kernel_rfl) (by kernel_rfl) (by kernel_rfl) ?_ rfl (by assumption) ?_
            · (exact fun _ _ _ hp => hp)
            try simp only [Act.put, List.setIfInBounds_toArray, List.set_cons_zero, List.set_cons_succ]
            refine xskip 38 rfl (by kernel_rfl) (by kernel_rfl) (by kernel_rfl) ?_ rfl (by assumption) ?_
            · (exact fun _ _ _ hp => hp)
            try simp only [Act.put, List.setIfInBounds_toArray, List.set_cons_zero, List.set_cons_succ]
            refine xskip 39 rfl (by kernel_rfl) (by kernel_rfl) (by kernel_rfl) ?_ rfl (by assumption) ?_
            · (exact fun _ _ _ hp => hp)
            try simp only [Act.put, List.setIfInBounds_toArray, List.set_cons_zero, List.set_cons_succ]
            refine xskip 40 rfl (by kernel_rfl) (by kernel_rfl) (by kernel_rfl) ?_ rfl (by assumption) ?_
            · (exact fun _ _ _ hp => hp)
            try simp only [Act.put, List.setIfInBounds_toArray, List.set_cons_zero, List.set_cons_succ]
            refine xskip 41 rfl (by kernel_rfl) (by kernel_rfl) (by kernel_rfl) ?_ rfl (by assumption) ?_
            · (exact fun _ _ _ hp => hp)
            try simp only [Act.put, List.setIfInBounds_toArray, List.set_cons_zero, List.set_cons_succ]
            refine xtake 42 (v := ?_) rfl (by kernel_rfl) (by kernel_rfl) (by kernel_rfl) rfl ?_ ?_ (by assumption) ?_
            rotate_left
            · intro w hSw; (try dsimp only at hSw); go_simp; with_reducible rfl
            · (exact fun _ _ _ hp => hp)
            try simp only [Act.put, List.setIfInBounds_toArray, List.set_cons_zero, List.set_cons_succ]
            refine wpAnyH_done (by kernel_rfl) ?_ _
            (revert hHeld1; intro _)
          rotate_left 1
          exact AllReadyH.nil
          go_wp2
          go_ret
          exact ⟨by rw [hbad.out]; rfl, hbd.out⟩
        · clear c0 c1 c2
          refine wp_region_held_drew (S := (fun w' => w'.cell? ⟨b, o + j * 3, none⟩ = some (.int .i64 x.parcel) ∧ w'.cell? ⟨b, o + j * 3 + 1, none⟩ = some (.int .i64 x.reason) ∧ w'.cell? ⟨b, o + j * 3 + 2, none⟩ = some (.int .i64 x.known))) (by kernel_rfl) ?_ (fun hHeld0 => ?_)
          · (try dsimp only); (with_reducible exact K3.out)
          refine xtake 0 (v := ?_) rfl (by kernel_rfl) (by kernel_rfl) (by kernel_rfl) rfl ?_ ?_ (by assumption) ?_
          rotate_left
          · intro w hSw; (try dsimp only at hSw); go_simp; with_reducible rfl
          · (exact fun _ _ _ hp => hp)
          try simp only [Act.put, List.setIfInBounds_toArray, List.set_cons_zero, List.set_cons_succ]
          refine xtake 1 (v := ?_) rfl (by kernel_rfl) (by kernel_rfl) (by kernel_rfl) rfl ?_ ?_ (by assumption) ?_
          rotate_left
          · intro w hSw; (try dsimp only at hSw); go_simp; with_reducible rfl
          · (exact fun _ _ _ hp => hp)
          try simp only [Act.put, List.setIfInBounds_toArray, List.set_cons_zero, List.set_cons_succ]
          refine xtake 2 (v := ?_) rfl (by kernel_rfl) (by kernel_rfl) (by kernel_rfl) rfl ?_ ?_ (by assumption) ?_
          rotate_left
          · intro w hSw; (try dsimp only at hSw); go_simp; with_reducible rfl
          · (exact fun _ _ _ hp => hp)
          try simp only [Act.put, List.setIfInBounds_toArray, List.set_cons_zero, List.set_cons_succ]
          refine xtake 3 (v := ?_) rfl (by kernel_rfl) (by kernel_rfl) (by kernel_rfl) rfl ?_ ?_ (by assumption) ?_
          rotate_left
          · intro w hSw; (try dsimp only at hSw); go_simp; with_reducible rfl
          · (exact fun _ _ _ hp => hp)
          try simp only [Act.put, List.setIfInBounds_toArray, List.set_cons_zero, List.set_cons_succ]
          refine xtake 4 (v := ?_) rfl (by kernel_rfl) (by kernel_rfl) (by kernel_rfl) rfl ?_ ?_ (by assumption) ?_
          rotate_left
          · intro w hSw; (try dsimp only at hSw); go_simp; with_reducible rfl
          · (exact fun _ _ _ hp => hp)
          try simp only [Act.put, List.setIfInBounds_toArray, List.set_cons_zero, List.set_cons_succ]
          refine wpAnyH_ready (rs := [5]) (by kernel_rfl) (by simp) ?_
          refine xcons 5 rfl (fun K hK => ?_) ?_
          focus
            (first
              | (go_simp; go_at_call 101; refine (rparcel x.parcel wr.drew).mono ?_; rintro e w1 ⟨rfl, rfl⟩; rw [hv1.out]; dsimp only)
              | (go_simp; go_at_call 102; refine (rwithin x.reason 1 1000000 wr.drew).mono ?_; rintro e w1 ⟨rfl, rfl⟩; rw [hv2.out]; dsimp only)
              | (go_simp; go_at_call 67; refine (rhour x.known wr.drew).mono ?_; rintro e w1 ⟨rfl, rfl⟩; rw [hv3.out]; dsimp only))
            refine hK.out _ _ ?_ (fun hHeld1 => ?_)
            · (try dsimp only); (with_reducible exact K3.out)
            clear hK K
            try simp only [Act.put, List.setIfInBounds_toArray, List.set_cons_zero, List.set_cons_succ]
            (try clear hHeld0)
            refine xtake 6 (v := ?_) rfl (by kernel_rfl) (by kernel_rfl) (by kernel_rfl) rfl ?_ ?_ (by assumption) ?_
            rotate_left
            · intro w hSw; (try dsimp only at hSw); go_simp; with_reducible rfl
            · (exact fun _ _ _ hp => hp)
            try simp only [Act.put, List.setIfInBounds_toArray, List.set_cons_zero, List.set_cons_succ]
            refine xtake 7 (v := ?_) rfl (by kernel_rfl) (by kernel_rfl) (by kernel_rfl) rfl ?_ ?_ (by assumption) ?_
            rotate_left
            · intro w hSw; (try dsimp only at hSw); go_simp; with_reducible rfl
            · (exact fun _ _ _ hp => hp)
            try simp only [Act.put, List.setIfInBounds_toArray, List.set_cons_zero, List.set_cons_succ]
            refine xtake 8 (v := ?_) rfl (by kernel_rfl) (by kernel_rfl) (by kernel_rfl) rfl ?_ ?_ (by assumption) ?_
            rotate_left
            · intro w hSw; (try dsimp only at hSw); go_simp; with_reducible rfl
            · (exact fun _ _ _ hp => hp)
            try simp only [Act.put, List.setIfInBounds_toArray, List.set_cons_zero, List.set_cons_succ]
            refine xtake 9 (v := ?_) rfl (by kernel_rfl) (by kernel_rfl) (by kernel_rfl) rfl ?_ ?_ (by assumption) ?_
            rotate_left
            · intro w hSw; (try dsimp only at hSw); go_simp; with_reducible rfl
            · (exact fun _ _ _ hp => hp)
            try simp only [Act.put, List.setIfInBounds_toArray, List.set_cons_zero, List.set_cons_succ]
            refine xtake 10 (v := ?_) rfl (by kernel_rfl) (by kernel_rfl) (by kernel_rfl) rfl ?_ ?_ (by assumption) ?_
            rotate_left
            · intro w hSw; (try dsimp only at hSw); go_simp; with_reducible rfl
            · (exact fun _ _ _ hp => hp)
            try simp only [Act.put, List.setIfInBounds_toArray, List.set_cons_zero, List.set_cons_succ]
            refine xtake 11 (v := ?_) rfl (by kernel_rfl) (by kernel_rfl) (by kernel_rfl) rfl ?_ ?_ (by assumption) ?_
            rotate_left
            · intro w hSw; (try dsimp only at hSw); go_simp; with_reducible rfl
            · (exact fun _ _ _ hp => hp)
            try simp only [Act.put, List.setIfInBounds_toArray, List.set_cons_zero, List.set_cons_succ]
            refine xtake 12 (v := ?_) rfl (by kernel_rfl) (by kernel_rfl) (by kernel_rfl) rfl ?_ ?_ (by assumption) ?_
            rotate_left
            · intro w hSw; (try dsimp only at hSw); go_simp; with_reducible rfl
            · (exact fun _ _ _ hp => hp)
            try simp only [Act.put, List.setIfInBounds_toArray, List.set_cons_zero, List.set_cons_succ]
            refine wpAnyH_ready (rs := [13]) (by kernel_rfl) (by simp) ?_
            refine xcons 13 rfl (fun K hK => ?_) ?_
            focus
              (first
                | (go_simp; go_at_call 101; refine (rparcel x.parcel wr.drew).mono ?_; rintro e w1 ⟨rfl, rfl⟩; rw [hv1.out]; dsimp only)
                | (go_simp; go_at_call 102; refine (rwithin x.reason 1 1000000 wr.drew).mono ?_; rintro e w1 ⟨rfl, rfl⟩; rw [hv2.out]; dsimp only)
                | (go_simp; go_at_call 67; refine (rhour x.known wr.drew).mono ?_; rintro e w1 ⟨rfl, rfl⟩; rw [hv3.out]; dsimp only))
              refine hK.out _ _ ?_ (fun hHeld2 => ?_)
              · (try dsimp only); (with_reducible exact K3.out)
              clear hK K
              try simp only [Act.put, List.setIfInBounds_toArray, List.set_cons_zero, List.set_cons_succ]
              (try clear hHeld1)
              refine xtake 14 (v := ?_) rfl (by kernel_rfl) (by kernel_rfl) (by kernel_rfl) rfl ?_ ?_ (by assumption) ?_
              rotate_left
              · intro w hSw; (try dsimp only at hSw); go_simp; with_reducible rfl
              · (exact fun _ _ _ hp => hp)
              try simp only [Act.put, List.setIfInBounds_toArray, List.set_cons_zero, List.set_cons_succ]
              refine xtake 15 (v := ?_) rfl (by kernel_rfl) (by kernel_rfl) (by kernel_rfl) rfl ?_ ?_ (by assumption) ?_
              rotate_left
              · intro w hSw; (try dsimp only at hSw); go_simp; with_reducible rfl
              · (exact fun _ _ _ hp => hp)
              try simp only [Act.put, List.setIfInBounds_toArray, List.set_cons_zero, List.set_cons_succ]
              refine xtake 16 (v := ?_) rfl (by kernel_rfl) (by kernel_rfl) (by kernel_rfl) rfl ?_ ?_ (by assumption) ?_
              rotate_left
              · intro w hSw; (try dsimp only at hSw); go_simp; with_reducible rfl
              · (exact fun _ _ _ hp => hp)
              try simp only [Act.put, List.setIfInBounds_toArray, List.set_cons_zero, List.set_cons_succ]
              refine xskip 17 rfl (by kernel_rfl) (by kernel_rfl) (by kernel_rfl) ?_ rfl (by assumption) ?_
              · (exact fun _ _ _ hp => hp)
              try simp only [Act.put, List.setIfInBounds_toArray, List.set_cons_zero, List.set_cons_succ]
              refine xskip 18 rfl (by kernel_rfl) (by kernel_rfl) (by kernel_rfl) ?_ rfl (by assumption) ?_
              · (exact fun _ _ _ hp => hp)
              try simp only [Act.put, List.setIfInBounds_toArray, List.set_cons_zero, List.set_cons_succ]
              refine xskip 19 rfl (by kernel_rfl) (by kernel_rfl) (by kernel_rfl) ?_ rfl (by assumption) ?_
              · (exact fun _ _ _ hp => hp)
              try simp only [Act.put, List.setIfInBounds_toArray, List.set_cons_zero, List.set_cons_succ]
              refine xskip 20 rfl (by kernel_rfl) (by kernel_rfl) (by kernel_rfl) ?_ rfl (by assumption) ?_
              · (exact fun _ _ _ hp => hp)
              try simp only [Act.put, List.setIfInBounds_toArray, List.set_cons_zero, List.set_cons_succ]
              refine xskip 21 rfl (by kernel_rfl) (by kernel_rfl) (by kernel_rfl) ?_ rfl (by assumption) ?_
              · (exact fun _ _ _ hp => hp)
              try simp only [Act.put, List.setIfInBounds_toArray, List.set_cons_zero, List.set_cons_succ]
              refine xskip 22 rfl (by kernel_rfl) (by kernel_rfl) (by kernel_rfl) ?_ rfl (by assumption) ?_
              · (exact fun _ _ _ hp => hp)
              try simp only [Act.put, List.setIfInBounds_toArray, List.set_cons_zero, List.set_cons_succ]
              refine xskip 23 rfl (by kernel_rfl) (by kernel_rfl) (by kernel_rfl) ?_ rfl (by assumption) ?_
              · (exact fun _ _ _ hp => hp)
              try simp only [Act.put, List.setIfInBounds_toArray, List.set_cons_zero, List.set_cons_succ]
              refine xtake 24 (v := ?_) rfl (by kernel_rfl) (by kernel_rfl) (by kernel_rfl) rfl ?_ ?_ (by assumption) ?_
              rotate_left
              · intro w hSw; (try dsimp only at hSw); go_simp; with_reducible rfl
              · (exact fun _ _ _ hp => hp)
              try simp only [Act.put, List.setIfInBounds_toArray, List.set_cons_zero, List.set_cons_succ]
              refine xtake 25 (v := ?_) rfl (by kernel_rfl) (by kernel_rfl) (by kernel_rfl) rfl ?_ ?_ (by assumption) ?_
              rotate_left
              · intro w hSw; (try dsimp only at hSw); go_simp; with_reducible rfl
              · (exact fun _ _ _ hp => hp)
              try simp only [Act.put, List.setIfInBounds_toArray, List.set_cons_zero, List.set_cons_succ]
              refine xskip 26 rfl (by kernel_rfl) (by kernel_rfl) (by kernel_rfl) ?_ rfl (by assumption) ?_
              · (exact fun _ _ _ hp => hp)
              try simp only [Act.put, List.setIfInBounds_toArray, List.set_cons_zero, List.set_cons_succ]
              refine xskip 27 rfl (by kernel_rfl) (by kernel_rfl) (by kernel_rfl) ?_ rfl (by assumption) ?_
              · (exact fun _ _ _ hp => hp)
              try simp only [Act.put, List.setIfInBounds_toArray, List.set_cons_zero, List.set_cons_succ]
              refine xskip 28 rfl (by kernel_rfl) (by kernel_rfl) (by kernel_rfl) ?_ rfl (by assumption) ?_
              · (exact fun _ _ _ hp => hp)
              try simp only [Act.put, List.setIfInBounds_toArray, List.set_cons_zero, List.set_cons_succ]
              refine xskip 29 rfl (by kernel_rfl) (by kernel_rfl) (by kernel_rfl) ?_ rfl (by assumption) ?_
              · (exact fun _ _ _ hp => hp)
              try simp only [Act.put, List.setIfInBounds_toArray, List.set_cons_zero, List.set_cons_succ]
              refine xskip 30 rfl (by kernel_rfl) (by kernel_rfl) (by kernel_rfl) ?_ rfl (by assumption) ?_
              · (exact fun _ _ _ hp => hp)
              try simp only [Act.put, List.setIfInBounds_toArray, List.set_cons_zero, List.set_cons_succ]
              refine xskip 31 rfl (by kernel_rfl) (by kernel_rfl) (by kernel_rfl) ?_ rfl (by assumption) ?_
              · (exact fun _ _ _ hp => hp)
              try simp only [Act.put, List.setIfInBounds_toArray, List.set_cons_zero, List.set_cons_succ]
              refine xskip 32 rfl (by kernel_rfl) (by kernel_rfl) (by kernel_rfl) ?_ rfl (by assumption) ?_
              · (exact fun _ _ _ hp => hp)
              try simp only [Act.put, List.setIfInBounds_toArray, List.set_cons_zero, List.set_cons_succ]
              refine xskip 33 rfl (by kernel_rfl) (by kernel_rfl) (by kernel_rfl) ?_ rfl (by assumption) ?_
              · (exact fun _ _ _ hp => hp)
              try simp only [Act.put, List.setIfInBounds_toArray, List.set_cons_zero, List.set_cons_succ]
              refine xskip 34 rfl (by kernel_rfl) (by kernel_rfl) (by kernel_rfl) ?_ rfl (by assumption) ?_
              · (exact fun _ _ _ hp => hp)
              try simp only [Act.put, List.setIfInBounds_toArray, List.set_cons_zero, List.set_cons_succ]
              refine xskip 35 rfl (by kernel_rfl) (by kernel_rfl) (by kernel_rfl) ?_ rfl (by assumption) ?_
              · (exact fun _ _ _ hp => hp)
              try simp only [Act.put, List.setIfInBounds_toArray, List.set_cons_zero, List.set_cons_succ]
              refine xskip 36 rfl (by kernel_rfl) (by kernel_rfl) (by kernel_rfl) ?_ rfl (by assumption) ?_
              · (exact fun _ _ _ hp => hp)
              try simp only [Act.put, List.setIfInBounds_toArray, List.set_cons_zero, List.set_cons_succ]
              refine xskip 37 rfl (by kernel_rfl) (by kernel_rfl) (by kernel_rfl) ?_ rfl (by assumption) ?_
              · (exact fun _ _ _ hp => hp)
              try simp only [Act.put, List.setIfInBounds_toArray, List.set_cons_zero, List.set_cons_succ]
              refine xskip 38 rfl (by kernel_rfl) (by kernel_rfl) (by kernel_rfl) ?_ rfl (by assumption) ?_
              · (exact fun _ _ _ hp => hp)
              try simp only [Act.put, List.setIfInBounds_toArray, List.set_cons_zero, List.set_cons_succ]
              refine xskip 39 rfl (by kernel_rfl) (by kernel_rfl) (by kernel_rfl) ?_ rfl (by assumption) ?_
              · (exact fun _ _ _ hp => hp)
              try simp only [Act.put, List.setIfInBounds_toArray, List.set_cons_zero, List.set_cons_succ]
              refine xskip 40 rfl (by kernel_rfl) (by kernel_rfl) (by kernel_rfl) ?_ rfl (by assumption) ?_
              · (exact fun _ _ _ hp => hp)
              try simp only [Act.put, List.setIfInBounds_toArray, List.set_cons_zero, List.set_cons_succ]
              refine xskip 41 rfl (by kernel_rfl) (by kernel_rfl) (by kernel_rfl) ?_ rfl (by assumption) ?_
              · (exact fun _ _ _ hp => hp)
              try simp only [Act.put, List.setIfInBounds_toArray, List.set_cons_zero, List.set_cons_succ]
              refine xtake 42 (v := ?_) rfl (by kernel_rfl) (by kernel_rfl) (by kernel_rfl) rfl ?_ ?_ (by assumption) ?_
              rotate_left
              · intro w hSw; (try dsimp only at hSw); go_simp; with_reducible rfl
              · (exact fun _ _ _ hp => hp)
              try simp only [Act.put, List.setIfInBounds_toArray, List.set_cons_zero, List.set_cons_succ]
              refine wpAnyH_done (by kernel_rfl) ?_ _
              (revert hHeld2; intro _)
            rotate_left 1
            exact AllReadyH.nil
          rotate_left 1
          exact AllReadyH.nil
          go_wp2
          go_ret
          exact ⟨by rw [hbad.out]; rfl, hbd.out⟩
        · clear c0 c1 c2
          refine wp_region_held_drew (S := (fun w' => w'.cell? ⟨b, o + j * 3, none⟩ = some (.int .i64 x.parcel) ∧ w'.cell? ⟨b, o + j * 3 + 1, none⟩ = some (.int .i64 x.reason) ∧ w'.cell? ⟨b, o + j * 3 + 2, none⟩ = some (.int .i64 x.known))) (by kernel_rfl) ?_ (fun hHeld0 => ?_)
          · (try dsimp only); (with_reducible exact K3.out)
          refine xtake 0 (v := ?_) rfl (by kernel_rfl) (by kernel_rfl) (by kernel_rfl) rfl ?_ ?_ (by assumption) ?_
          rotate_left
          · intro w hSw; (try dsimp only at hSw); go_simp; with_reducible rfl
          · (exact fun _ _ _ hp => hp)
          try simp only [Act.put, List.setIfInBounds_toArray, List.set_cons_zero, List.set_cons_succ]
          refine xtake 1 (v := ?_) rfl (by kernel_rfl) (by kernel_rfl) (by kernel_rfl) rfl ?_ ?_ (by assumption) ?_
          rotate_left
          · intro w hSw; (try dsimp only at hSw); go_simp; with_reducible rfl
          · (exact fun _ _ _ hp => hp)
          try simp only [Act.put, List.setIfInBounds_toArray, List.set_cons_zero, List.set_cons_succ]
          refine xtake 2 (v := ?_) rfl (by kernel_rfl) (by kernel_rfl) (by kernel_rfl) rfl ?_ ?_ (by assumption) ?_
          rotate_left
          · intro w hSw; (try dsimp only at hSw); go_simp; with_reducible rfl
          · (exact fun _ _ _ hp => hp)
          try simp only [Act.put, List.setIfInBounds_toArray, List.set_cons_zero, List.set_cons_succ]
          refine xtake 3 (v := ?_) rfl (by kernel_rfl) (by kernel_rfl) (by kernel_rfl) rfl ?_ ?_ (by assumption) ?_
          rotate_left
          · intro w hSw; (try dsimp only at hSw); go_simp; with_reducible rfl
          · (exact fun _ _ _ hp => hp)
          try simp only [Act.put, List.setIfInBounds_toArray, List.set_cons_zero, List.set_cons_succ]
          refine xtake 4 (v := ?_) rfl (by kernel_rfl) (by kernel_rfl) (by kernel_rfl) rfl ?_ ?_ (by assumption) ?_
          rotate_left
          · intro w hSw; (try dsimp only at hSw); go_simp; with_reducible rfl
          · (exact fun _ _ _ hp => hp)
          try simp only [Act.put, List.setIfInBounds_toArray, List.set_cons_zero, List.set_cons_succ]
          refine wpAnyH_ready (rs := [5]) (by kernel_rfl) (by simp) ?_
          refine xcons 5 rfl (fun K hK => ?_) ?_
          focus
            (first
              | (go_simp; go_at_call 101; refine (rparcel x.parcel wr.drew).mono ?_; rintro e w1 ⟨rfl, rfl⟩; rw [hv1.out]; dsimp only)
              | (go_simp; go_at_call 102; refine (rwithin x.reason 1 1000000 wr.drew).mono ?_; rintro e w1 ⟨rfl, rfl⟩; rw [hv2.out]; dsimp only)
              | (go_simp; go_at_call 67; refine (rhour x.known wr.drew).mono ?_; rintro e w1 ⟨rfl, rfl⟩; rw [hv3.out]; dsimp only))
            refine hK.out _ _ ?_ (fun hHeld1 => ?_)
            · (try dsimp only); (with_reducible exact K3.out)
            clear hK K
            try simp only [Act.put, List.setIfInBounds_toArray, List.set_cons_zero, List.set_cons_succ]
            (try clear hHeld0)
            refine xtake 6 (v := ?_) rfl (by kernel_rfl) (by kernel_rfl) (by kernel_rfl) rfl ?_ ?_ (by assumption) ?_
            rotate_left
            · intro w hSw; (try dsimp only at hSw); go_simp; with_reducible rfl
            · (exact fun _ _ _ hp => hp)
            try simp only [Act.put, List.setIfInBounds_toArray, List.set_cons_zero, List.set_cons_succ]
            refine xtake 7 (v := ?_) rfl (by kernel_rfl) (by kernel_rfl) (by kernel_rfl) rfl ?_ ?_ (by assumption) ?_
            rotate_left
            · intro w hSw; (try dsimp only at hSw); go_simp; with_reducible rfl
            · (exact fun _ _ _ hp => hp)
            try simp only [Act.put, List.setIfInBounds_toArray, List.set_cons_zero, List.set_cons_succ]
            refine xtake 8 (v := ?_) rfl (by kernel_rfl) (by kernel_rfl) (by kernel_rfl) rfl ?_ ?_ (by assumption) ?_
            rotate_left
            · intro w hSw; (try dsimp only at hSw); go_simp; with_reducible rfl
            · (exact fun _ _ _ hp => hp)
            try simp only [Act.put, List.setIfInBounds_toArray, List.set_cons_zero, List.set_cons_succ]
            refine xtake 9 (v := ?_) rfl (by kernel_rfl) (by kernel_rfl) (by kernel_rfl) rfl ?_ ?_ (by assumption) ?_
            rotate_left
            · intro w hSw; (try dsimp only at hSw); go_simp; with_reducible rfl
            · (exact fun _ _ _ hp => hp)
            try simp only [Act.put, List.setIfInBounds_toArray, List.set_cons_zero, List.set_cons_succ]
            refine xtake 10 (v := ?_) rfl (by kernel_rfl) (by kernel_rfl) (by kernel_rfl) rfl ?_ ?_ (by assumption) ?_
            rotate_left
            · intro w hSw; (try dsimp only at hSw); go_simp; with_reducible rfl
            · (exact fun _ _ _ hp => hp)
            try simp only [Act.put, List.setIfInBounds_toArray, List.set_cons_zero, List.set_cons_succ]
            refine xtake 11 (v := ?_) rfl (by kernel_rfl) (by kernel_rfl) (by kernel_rfl) rfl ?_ ?_ (by assumption) ?_
            rotate_left
            · intro w hSw; (try dsimp only at hSw); go_simp; with_reducible rfl
            · (exact fun _ _ _ hp => hp)
            try simp only [Act.put, List.setIfInBounds_toArray, List.set_cons_zero, List.set_cons_succ]
            refine xtake 12 (v := ?_) rfl (by kernel_rfl) (by kernel_rfl) (by kernel_rfl) rfl ?_ ?_ (by assumption) ?_
            rotate_left
            · intro w hSw; (try dsimp only at hSw); go_simp; with_reducible rfl
            · (exact fun _ _ _ hp => hp)
            try simp only [Act.put, List.setIfInBounds_toArray, List.set_cons_zero, List.set_cons_succ]
            refine wpAnyH_ready (rs := [13]) (by kernel_rfl) (by simp) ?_
            refine xcons 13 rfl (fun K hK => ?_) ?_
            focus
              (first
                | (go_simp; go_at_call 101; refine (rparcel x.parcel wr.drew).mono ?_; rintro e w1 ⟨rfl, rfl⟩; rw [hv1.out]; dsimp only)
                | (go_simp; go_at_call 102; refine (rwithin x.reason 1 1000000 wr.drew).mono ?_; rintro e w1 ⟨rfl, rfl⟩; rw [hv2.out]; dsimp only)
                | (go_simp; go_at_call 67; refine (rhour x.known wr.drew).mono ?_; rintro e w1 ⟨rfl, rfl⟩; rw [hv3.out]; dsimp only))
              refine hK.out _ _ ?_ (fun hHeld2 => ?_)
              · (try dsimp only); (with_reducible exact K3.out)
              clear hK K
              try simp only [Act.put, List.setIfInBounds_toArray, List.set_cons_zero, List.set_cons_succ]
              (try clear hHeld1)
              refine xtake 14 (v := ?_) rfl (by kernel_rfl) (by kernel_rfl) (by kernel_rfl) rfl ?_ ?_ (by assumption) ?_
              rotate_left
              · intro w hSw; (try dsimp only at hSw); go_simp; with_reducible rfl
              · (exact fun _ _ _ hp => hp)
              try simp only [Act.put, List.setIfInBounds_toArray, List.set_cons_zero, List.set_cons_succ]
              refine xtake 15 (v := ?_) rfl (by kernel_rfl) (by kernel_rfl) (by kernel_rfl) rfl ?_ ?_ (by assumption) ?_
              rotate_left
              · intro w hSw; (try dsimp only at hSw); go_simp; with_reducible rfl
              · (exact fun _ _ _ hp => hp)
              try simp only [Act.put, List.setIfInBounds_toArray, List.set_cons_zero, List.set_cons_succ]
              refine xtake 16 (v := ?_) rfl (by kernel_rfl) (by kernel_rfl) (by kernel_rfl) rfl ?_ ?_ (by assumption) ?_
              rotate_left
              · intro w hSw; (try dsimp only at hSw); go_simp; with_reducible rfl
              · (exact fun _ _ _ hp => hp)
              try simp only [Act.put, List.setIfInBounds_toArray, List.set_cons_zero, List.set_cons_succ]
              refine xtake 17 (v := ?_) rfl (by kernel_rfl) (by kernel_rfl) (by kernel_rfl) rfl ?_ ?_ (by assumption) ?_
              rotate_left
              · intro w hSw; (try dsimp only at hSw); go_simp; with_reducible rfl
              · (exact fun _ _ _ hp => hp)
              try simp only [Act.put, List.setIfInBounds_toArray, List.set_cons_zero, List.set_cons_succ]
              refine xtake 18 (v := ?_) rfl (by kernel_rfl) (by kernel_rfl) (by kernel_rfl) rfl ?_ ?_ (by assumption) ?_
              rotate_left
              · intro w hSw; (try dsimp only at hSw); go_simp; with_reducible rfl
              · (exact fun _ _ _ hp => hp)
              try simp only [Act.put, List.setIfInBounds_toArray, List.set_cons_zero, List.set_cons_succ]
              refine xtake 19 (v := ?_) rfl (by kernel_rfl) (by kernel_rfl) (by kernel_rfl) rfl ?_ ?_ (by assumption) ?_
              rotate_left
              · intro w hSw; (try dsimp only at hSw); go_simp; with_reducible rfl
              · (exact fun _ _ _ hp => hp)
              try simp only [Act.put, List.setIfInBounds_toArray, List.set_cons_zero, List.set_cons_succ]
              refine xtake 20 (v := ?_) rfl (by kernel_rfl) (by kernel_rfl) (by kernel_rfl) rfl ?_ ?_ (by assumption) ?_
              rotate_left
              · intro w hSw; (try dsimp only at hSw); go_simp; with_reducible rfl
              · (exact fun _ _ _ hp => hp)
              try simp only [Act.put, List.setIfInBounds_toArray, List.set_cons_zero, List.set_cons_succ]
              refine xtake 21 (v := ?_) rfl (by kernel_rfl) (by kernel_rfl) (by kernel_rfl) rfl ?_ ?_ (by assumption) ?_
              rotate_left
              · intro w hSw; (try dsimp only at hSw); go_simp; with_reducible rfl
              · (exact fun _ _ _ hp => hp)
              try simp only [Act.put, List.setIfInBounds_toArray, List.set_cons_zero, List.set_cons_succ]
              refine wpAnyH_ready (rs := [22]) (by kernel_rfl) (by simp) ?_
              refine xcons 22 rfl (fun K hK => ?_) ?_
              focus
                (first
                  | (go_simp; go_at_call 101; refine (rparcel x.parcel wr.drew).mono ?_; rintro e w1 ⟨rfl, rfl⟩; rw [hv1.out]; dsimp only)
                  | (go_simp; go_at_call 102; refine (rwithin x.reason 1 1000000 wr.drew).mono ?_; rintro e w1 ⟨rfl, rfl⟩; rw [hv2.out]; dsimp only)
                  | (go_simp; go_at_call 67; refine (rhour x.known wr.drew).mono ?_; rintro e w1 ⟨rfl, rfl⟩; rw [hv3.out]; dsimp only))
                refine hK.out _ _ ?_ (fun hHeld3 => ?_)
                · (try dsimp only); (with_reducible exact K3.out)
                clear hK K
                try simp only [Act.put, List.setIfInBounds_toArray, List.set_cons_zero, List.set_cons_succ]
                (try clear hHeld2)
                refine xtake 23 (v := ?_) rfl (by kernel_rfl) (by kernel_rfl) (by kernel_rfl) rfl ?_ ?_ (by assumption) ?_
                rotate_left
                · intro w hSw; (try dsimp only at hSw); go_simp; with_reducible rfl
                · (exact fun _ _ _ hp => hp)
                try simp only [Act.put, List.setIfInBounds_toArray, List.set_cons_zero, List.set_cons_succ]
                refine xtake 24 (v := ?_) rfl (by kernel_rfl) (by kernel_rfl) (by kernel_rfl) rfl ?_ ?_ (by assumption) ?_
                rotate_left
                · intro w hSw; (try dsimp only at hSw); go_simp; with_reducible rfl
                · (exact fun _ _ _ hp => hp)
                try simp only [Act.put, List.setIfInBounds_toArray, List.set_cons_zero, List.set_cons_succ]
                refine xtake 25 (v := ?_) rfl (by kernel_rfl) (by kernel_rfl) (by kernel_rfl) rfl ?_ ?_ (by assumption) ?_
                rotate_left
                · intro w hSw; (try dsimp only at hSw); go_simp; with_reducible rfl
                · (exact fun _ _ _ hp => hp)
                try simp only [Act.put, List.setIfInBounds_toArray, List.set_cons_zero, List.set_cons_succ]
                refine xskip 26 rfl (by kernel_rfl) (by kernel_rfl) (by kernel_rfl) ?_ rfl (by assumption) ?_
                · (exact fun _ _ _ hp => hp)
                try simp only [Act.put, List.setIfInBounds_toArray, List.set_cons_zero, List.set_cons_succ]
                refine xskip 27 rfl (by kernel_rfl) (by kernel_rfl) (by kernel_rfl) ?_ rfl (by assumption) ?_
                · (exact fun _ _ _ hp => hp)
                try simp only [Act.put, List.setIfInBounds_toArray, List.set_cons_zero, List.set_cons_succ]
                refine xskip 28 rfl (by kernel_rfl) (by kernel_rfl) (by kernel_rfl) ?_ rfl (by assumption) ?_
                · (exact fun _ _ _ hp => hp)
                try simp only [Act.put, List.setIfInBounds_toArray, List.set_cons_zero, List.set_cons_succ]
                refine xskip 29 rfl (by kernel_rfl) (by kernel_rfl) (by kernel_rfl) ?_ rfl (by assumption) ?_
                · (exact fun _ _ _ hp => hp)
                try simp only [Act.put, List.setIfInBounds_toArray, List.set_cons_zero, List.set_cons_succ]
                refine xskip 30 rfl (by kernel_rfl) (by kernel_rfl) (by kernel_rfl) ?_ rfl (by assumption) ?_
                · (exact fun _ _ _ hp => hp)
                try simp only [Act.put, List.setIfInBounds_toArray, List.set_cons_zero, List.set_cons_succ]
                refine xskip 31 rfl (by kernel_rfl) (by kernel_rfl) (by kernel_rfl) ?_ rfl (by assumption) ?_
                · (exact fun _ _ _ hp => hp)
                try simp only [Act.put, List.setIfInBounds_toArray, List.set_cons_zero, List.set_cons_succ]
                refine xskip 32 rfl (by kernel_rfl) (by kernel_rfl) (by kernel_rfl) ?_ rfl (by assumption) ?_
                · (exact fun _ _ _ hp => hp)
                try simp only [Act.put, List.setIfInBounds_toArray, List.set_cons_zero, List.set_cons_succ]
                refine xskip 33 rfl (by kernel_rfl) (by kernel_rfl) (by kernel_rfl) ?_ rfl (by assumption) ?_
                · (exact fun _ _ _ hp => hp)
                try simp only [Act.put, List.setIfInBounds_toArray, List.set_cons_zero, List.set_cons_succ]
                refine xskip 34 rfl (by kernel_rfl) (by kernel_rfl) (by kernel_rfl) ?_ rfl (by assumption) ?_
                · (exact fun _ _ _ hp => hp)
                try simp only [Act.put, List.setIfInBounds_toArray, List.set_cons_zero, List.set_cons_succ]
                refine xskip 35 rfl (by kernel_rfl) (by kernel_rfl) (by kernel_rfl) ?_ rfl (by assumption) ?_
                · (exact fun _ _ _ hp => hp)
                try simp only [Act.put, List.setIfInBounds_toArray, List.set_cons_zero, List.set_cons_succ]
                refine xskip 36 rfl (by kernel_rfl) (by kernel_rfl) (by kernel_rfl) ?_ rfl (by assumption) ?_
                · (exact fun _ _ _ hp => hp)
                try simp only [Act.put, List.setIfInBounds_toArray, List.set_cons_zero, List.set_cons_succ]
                refine xskip 37 rfl (by kernel_rfl) (by kernel_rfl) (by kernel_rfl) ?_ rfl (by assumption) ?_
                · (exact fun _ _ _ hp => hp)
                try simp only [Act.put, List.setIfInBounds_toArray, List.set_cons_zero, List.set_cons_succ]
                refine xskip 38 rfl (by kernel_rfl) (by kernel_rfl) (by kernel_rfl) ?_ rfl (by assumption) ?_
                · (exact fun _ _ _ hp => hp)
                try simp only [Act.put, List.setIfInBounds_toArray, List.set_cons_zero, List.set_cons_succ]
                refine xskip 39 rfl (by kernel_rfl) (by kernel_rfl) (by kernel_rfl) ?_ rfl (by assumption) ?_
                · (exact fun _ _ _ hp => hp)
                try simp only [Act.put, List.setIfInBounds_toArray, List.set_cons_zero, List.set_cons_succ]
                refine xskip 40 rfl (by kernel_rfl) (by kernel_rfl) (by kernel_rfl) ?_ rfl (by assumption) ?_
                · (exact fun _ _ _ hp => hp)
                try simp only [Act.put, List.setIfInBounds_toArray, List.set_cons_zero, List.set_cons_succ]
                refine xskip 41 rfl (by kernel_rfl) (by kernel_rfl) (by kernel_rfl) ?_ rfl (by assumption) ?_
                · (exact fun _ _ _ hp => hp)
                try simp only [Act.put, List.setIfInBounds_toArray, List.set_cons_zero, List.set_cons_succ]
                refine xtake 42 (v := ?_) rfl (by kernel_rfl) (by kernel_rfl) (by kernel_rfl) rfl ?_ ?_ (by assumption) ?_
                rotate_left
                · intro w hSw; (try dsimp only at hSw); go_simp; with_reducible rfl
                · (exact fun _ _ _ hp => hp)
                try simp only [Act.put, List.setIfInBounds_toArray, List.set_cons_zero, List.set_cons_succ]
                refine wpAnyH_done (by kernel_rfl) ?_ _
                (revert hHeld3; intro _)
              rotate_left 1
              exact AllReadyH.nil
            rotate_left 1
            exact AllReadyH.nil
          rotate_left 1
          exact AllReadyH.nil
          go_wp2
          go_ret
          exact ⟨by rw [hbad.out]; rfl, hbd.out⟩
      case pos =>
        obtain ⟨rfl, rfl, rfl⟩ := hall
        replace hokx : Hid (okC x = true) := hokx.out
        cases j with
        | zero =>
          have hok1 := Lib.hid (okAt_succ hok.out (Lib.hid (okAt_zero (lt := ltC) hx.out hokx.out)))
          rw [show o + 0 * 3 = o by omega] at K3
          clear hs' c0 c1 c2
          go_wp2
          refine wp_region_held_drew (S := (fun w' => w'.cell? ⟨b, o, none⟩ = some (.int .i64 x.parcel) ∧ w'.cell? ⟨b, o + 1, none⟩ = some (.int .i64 x.reason) ∧ w'.cell? ⟨b, o + 2, none⟩ = some (.int .i64 x.known))) (by kernel_rfl) ?_ (fun hHeld0 => ?_)
          · (try dsimp only); (with_reducible exact K3.out)
          refine xtake 0 (v := ?_) rfl (by kernel_rfl) (by kernel_rfl) (by kernel_rfl) rfl ?_ ?_ (by assumption) ?_
          rotate_left
          · intro w hSw; (try dsimp only at hSw); go_simp; with_reducible rfl
          · (exact fun _ _ _ hp => hp)
          try simp only [Act.put, List.setIfInBounds_toArray, List.set_cons_zero, List.set_cons_succ]
          refine xtake 1 (v := ?_) rfl (by kernel_rfl) (by kernel_rfl) (by kernel_rfl) rfl ?_ ?_ (by assumption) ?_
          rotate_left
          · intro w hSw; (try dsimp only at hSw); go_simp; with_reducible rfl
          · (exact fun _ _ _ hp => hp)
          try simp only [Act.put, List.setIfInBounds_toArray, List.set_cons_zero, List.set_cons_succ]
          refine xtake 2 (v := ?_) rfl (by kernel_rfl) (by kernel_rfl) (by kernel_rfl) rfl ?_ ?_ (by assumption) ?_
          rotate_left
          · intro w hSw; (try dsimp only at hSw); go_simp; with_reducible rfl
          · (exact fun _ _ _ hp => hp)
          try simp only [Act.put, List.setIfInBounds_toArray, List.set_cons_zero, List.set_cons_succ]
          refine xtake 3 (v := ?_) rfl (by kernel_rfl) (by kernel_rfl) (by kernel_rfl) rfl ?_ ?_ (by assumption) ?_
          rotate_left
          · intro w hSw; (try dsimp only at hSw); go_simp; with_reducible rfl
          · (exact fun _ _ _ hp => hp)
          try simp only [Act.put, List.setIfInBounds_toArray, List.set_cons_zero, List.set_cons_succ]
          refine xtake 4 (v := ?_) rfl (by kernel_rfl) (by kernel_rfl) (by kernel_rfl) rfl ?_ ?_ (by assumption) ?_
          rotate_left
          · intro w hSw; (try dsimp only at hSw); go_simp; with_reducible rfl
          · (exact fun _ _ _ hp => hp)
          try simp only [Act.put, List.setIfInBounds_toArray, List.set_cons_zero, List.set_cons_succ]
          refine wpAnyH_ready (rs := [5]) (by kernel_rfl) (by simp) ?_
          refine xcons 5 rfl (fun K hK => ?_) ?_
          focus
            (first
              | (go_simp; go_at_call 101; refine (rparcel x.parcel wr.drew).mono ?_; rintro e w1 ⟨rfl, rfl⟩; rw [hv1.out]; dsimp only)
              | (go_simp; go_at_call 102; refine (rwithin x.reason 1 1000000 wr.drew).mono ?_; rintro e w1 ⟨rfl, rfl⟩; rw [hv2.out]; dsimp only)
              | (go_simp; go_at_call 67; refine (rhour x.known wr.drew).mono ?_; rintro e w1 ⟨rfl, rfl⟩; rw [hv3.out]; dsimp only))
            refine hK.out _ _ ?_ (fun hHeld1 => ?_)
            · (try dsimp only); (with_reducible exact K3.out)
            clear hK K
            try simp only [Act.put, List.setIfInBounds_toArray, List.set_cons_zero, List.set_cons_succ]
            (try clear hHeld0)
            refine xtake 6 (v := ?_) rfl (by kernel_rfl) (by kernel_rfl) (by kernel_rfl) rfl ?_ ?_ (by assumption) ?_
            rotate_left
            · intro w hSw; (try dsimp only at hSw); go_simp; with_reducible rfl
            · (exact fun _ _ _ hp => hp)
            try simp only [Act.put, List.setIfInBounds_toArray, List.set_cons_zero, List.set_cons_succ]
            refine xtake 7 (v := ?_) rfl (by kernel_rfl) (by kernel_rfl) (by kernel_rfl) rfl ?_ ?_ (by assumption) ?_
            rotate_left
            · intro w hSw; (try dsimp only at hSw); go_simp; with_reducible rfl
            · (exact fun _ _ _ hp => hp)
            try simp only [Act.put, List.setIfInBounds_toArray, List.set_cons_zero, List.set_cons_succ]
            refine xtake 8 (v := ?_) rfl (by kernel_rfl) (by kernel_rfl) (by kernel_rfl) rfl ?_ ?_ (by assumption) ?_
            rotate_left
            · intro w hSw; (try dsimp only at hSw); go_simp; with_reducible rfl
            · (exact fun _ _ _ hp => hp)
            try simp only [Act.put, List.setIfInBounds_toArray, List.set_cons_zero, List.set_cons_succ]
            refine xtake 9 (v := ?_) rfl (by kernel_rfl) (by kernel_rfl) (by kernel_rfl) rfl ?_ ?_ (by assumption) ?_
            rotate_left
            · intro w hSw; (try dsimp only at hSw); go_simp; with_reducible rfl
            · (exact fun _ _ _ hp => hp)
            try simp only [Act.put, List.setIfInBounds_toArray, List.set_cons_zero, List.set_cons_succ]
            refine xtake 10 (v := ?_) rfl (by kernel_rfl) (by kernel_rfl) (by kernel_rfl) rfl ?_ ?_ (by assumption) ?_
            rotate_left
            · intro w hSw; (try dsimp only at hSw); go_simp; with_reducible rfl
            · (exact fun _ _ _ hp => hp)
            try simp only [Act.put, List.setIfInBounds_toArray, List.set_cons_zero, List.set_cons_succ]
            refine xtake 11 (v := ?_) rfl (by kernel_rfl) (by kernel_rfl) (by kernel_rfl) rfl ?_ ?_ (by assumption) ?_
            rotate_left
            · intro w hSw; (try dsimp only at hSw); go_simp; with_reducible rfl
            · (exact fun _ _ _ hp => hp)
            try simp only [Act.put, List.setIfInBounds_toArray, List.set_cons_zero, List.set_cons_succ]
            refine xtake 12 (v := ?_) rfl (by kernel_rfl) (by kernel_rfl) (by kernel_rfl) rfl ?_ ?_ (by assumption) ?_
            rotate_left
            · intro w hSw; (try dsimp only at hSw); go_simp; with_reducible rfl
            · (exact fun _ _ _ hp => hp)
            try simp only [Act.put, List.setIfInBounds_toArray, List.set_cons_zero, List.set_cons_succ]
            refine wpAnyH_ready (rs := [13]) (by kernel_rfl) (by simp) ?_
            refine xcons 13 rfl (fun K hK => ?_) ?_
            focus
              (first
                | (go_simp; go_at_call 101; refine (rparcel x.parcel wr.drew).mono ?_; rintro e w1 ⟨rfl, rfl⟩; rw [hv1.out]; dsimp only)
                | (go_simp; go_at_call 102; refine (rwithin x.reason 1 1000000 wr.drew).mono ?_; rintro e w1 ⟨rfl, rfl⟩; rw [hv2.out]; dsimp only)
                | (go_simp; go_at_call 67; refine (rhour x.known wr.drew).mono ?_; rintro e w1 ⟨rfl, rfl⟩; rw [hv3.out]; dsimp only))
              refine hK.out _ _ ?_ (fun hHeld2 => ?_)
              · (try dsimp only); (with_reducible exact K3.out)
              clear hK K
              try simp only [Act.put, List.setIfInBounds_toArray, List.set_cons_zero, List.set_cons_succ]
              (try clear hHeld1)
              refine xtake 14 (v := ?_) rfl (by kernel_rfl) (by kernel_rfl) (by kernel_rfl) rfl ?_ ?_ (by assumption) ?_
              rotate_left
              · intro w hSw; (try dsimp only at hSw); go_simp; with_reducible rfl
              · (exact fun _ _ _ hp => hp)
              try simp only [Act.put, List.setIfInBounds_toArray, List.set_cons_zero, List.set_cons_succ]
              refine xtake 15 (v := ?_) rfl (by kernel_rfl) (by kernel_rfl) (by kernel_rfl) rfl ?_ ?_ (by assumption) ?_
              rotate_left
              · intro w hSw; (try dsimp only at hSw); go_simp; with_reducible rfl
              · (exact fun _ _ _ hp => hp)
              try simp only [Act.put, List.setIfInBounds_toArray, List.set_cons_zero, List.set_cons_succ]
              refine xtake 16 (v := ?_) rfl (by kernel_rfl) (by kernel_rfl) (by kernel_rfl) rfl ?_ ?_ (by assumption) ?_
              rotate_left
              · intro w hSw; (try dsimp only at hSw); go_simp; with_reducible rfl
              · (exact fun _ _ _ hp => hp)
              try simp only [Act.put, List.setIfInBounds_toArray, List.set_cons_zero, List.set_cons_succ]
              refine xtake 17 (v := ?_) rfl (by kernel_rfl) (by kernel_rfl) (by kernel_rfl) rfl ?_ ?_ (by assumption) ?_
              rotate_left
              · intro w hSw; (try dsimp only at hSw); go_simp; with_reducible rfl
              · (exact fun _ _ _ hp => hp)
              try simp only [Act.put, List.setIfInBounds_toArray, List.set_cons_zero, List.set_cons_succ]
              refine xtake 18 (v := ?_) rfl (by kernel_rfl) (by kernel_rfl) (by kernel_rfl) rfl ?_ ?_ (by assumption) ?_
              rotate_left
              · intro w hSw; (try dsimp only at hSw); go_simp; with_reducible rfl
              · (exact fun _ _ _ hp => hp)
              try simp only [Act.put, List.setIfInBounds_toArray, List.set_cons_zero, List.set_cons_succ]
              refine xtake 19 (v := ?_) rfl (by kernel_rfl) (by kernel_rfl) (by kernel_rfl) rfl ?_ ?_ (by assumption) ?_
              rotate_left
              · intro w hSw; (try dsimp only at hSw); go_simp; with_reducible rfl
              · (exact fun _ _ _ hp => hp)
              try simp only [Act.put, List.setIfInBounds_toArray, List.set_cons_zero, List.set_cons_succ]
              refine xtake 20 (v := ?_) rfl (by kernel_rfl) (by kernel_rfl) (by kernel_rfl) rfl ?_ ?_ (by assumption) ?_
              rotate_left
              · intro w hSw; (try dsimp only at hSw); go_simp; with_reducible rfl
              · (exact fun _ _ _ hp => hp)
              try simp only [Act.put, List.setIfInBounds_toArray, List.set_cons_zero, List.set_cons_succ]
              refine xtake 21 (v := ?_) rfl (by kernel_rfl) (by kernel_rfl) (by kernel_rfl) rfl ?_ ?_ (by assumption) ?_
              rotate_left
              · intro w hSw; (try dsimp only at hSw); go_simp; with_reducible rfl
              · (exact fun _ _ _ hp => hp)
              try simp only [Act.put, List.setIfInBounds_toArray, List.set_cons_zero, List.set_cons_succ]
              refine wpAnyH_ready (rs := [22]) (by kernel_rfl) (by simp) ?_
              refine xcons 22 rfl (fun K hK => ?_) ?_
              focus
                (first
                  | (go_simp; go_at_call 101; refine (rparcel x.parcel wr.drew).mono ?_; rintro e w1 ⟨rfl, rfl⟩; rw [hv1.out]; dsimp only)
                  | (go_simp; go_at_call 102; refine (rwithin x.reason 1 1000000 wr.drew).mono ?_; rintro e w1 ⟨rfl, rfl⟩; rw [hv2.out]; dsimp only)
                  | (go_simp; go_at_call 67; refine (rhour x.known wr.drew).mono ?_; rintro e w1 ⟨rfl, rfl⟩; rw [hv3.out]; dsimp only))
                refine hK.out _ _ ?_ (fun hHeld3 => ?_)
                · (try dsimp only); (with_reducible exact K3.out)
                clear hK K
                try simp only [Act.put, List.setIfInBounds_toArray, List.set_cons_zero, List.set_cons_succ]
                (try clear hHeld2)
                refine xtake 23 (v := ?_) rfl (by kernel_rfl) (by kernel_rfl) (by kernel_rfl) rfl ?_ ?_ (by assumption) ?_
                rotate_left
                · intro w hSw; (try dsimp only at hSw); go_simp; with_reducible rfl
                · (exact fun _ _ _ hp => hp)
                try simp only [Act.put, List.setIfInBounds_toArray, List.set_cons_zero, List.set_cons_succ]
                refine xtake 24 (v := ?_) rfl (by kernel_rfl) (by kernel_rfl) (by kernel_rfl) rfl ?_ ?_ (by assumption) ?_
                rotate_left
                · intro w hSw; (try dsimp only at hSw); go_simp; with_reducible rfl
                · (exact fun _ _ _ hp => hp)
                try simp only [Act.put, List.setIfInBounds_toArray, List.set_cons_zero, List.set_cons_succ]
                refine xtake 25 (v := ?_) rfl (by kernel_rfl) (by kernel_rfl) (by kernel_rfl) rfl ?_ ?_ (by assumption) ?_
                rotate_left
                · intro w hSw; (try dsimp only at hSw); go_simp; with_reducible rfl
                · (exact fun _ _ _ hp => hp)
                try simp only [Act.put, List.setIfInBounds_toArray, List.set_cons_zero, List.set_cons_succ]
                refine xtake 26 (v := ?_) rfl (by kernel_rfl) (by kernel_rfl) (by kernel_rfl) rfl ?_ ?_ (by assumption) ?_
                rotate_left
                · intro w hSw; (try dsimp only at hSw); go_simp; with_reducible rfl
                · (exact fun _ _ _ hp => hp)
                try simp only [Act.put, List.setIfInBounds_toArray, List.set_cons_zero, List.set_cons_succ]
                refine xtake 27 (v := ?_) rfl (by kernel_rfl) (by kernel_rfl) (by kernel_rfl) rfl ?_ ?_ (by assumption) ?_
                rotate_left
                · intro w hSw; (try dsimp only at hSw); go_simp; with_reducible rfl
                · (exact fun _ _ _ hp => hp)
                try simp only [Act.put, List.setIfInBounds_toArray, List.set_cons_zero, List.set_cons_succ]
                refine xtake 28 (v := ?_) rfl (by kernel_rfl) (by kernel_rfl) (by kernel_rfl) rfl ?_ ?_ (by assumption) ?_
                rotate_left
                · intro w hSw; (try dsimp only at hSw); go_simp; with_reducible rfl
                · (exact fun _ _ _ hp => hp)
                try simp only [Act.put, List.setIfInBounds_toArray, List.set_cons_zero, List.set_cons_succ]
                refine xskip 29 rfl (by kernel_rfl) (by kernel_rfl) (by kernel_rfl) ?_ rfl (by assumption) ?_
                · (exact fun _ _ _ hp => hp)
                try simp only [Act.put, List.setIfInBounds_toArray, List.set_cons_zero, List.set_cons_succ]
                refine xskip 30 rfl (by kernel_rfl) (by kernel_rfl) (by kernel_rfl) ?_ rfl (by assumption) ?_
                · (exact fun _ _ _ hp => hp)
                try simp only [Act.put, List.setIfInBounds_toArray, List.set_cons_zero, List.set_cons_succ]
                refine xskip 31 rfl (by kernel_rfl) (by kernel_rfl) (by kernel_rfl) ?_ rfl (by assumption) ?_
                · (exact fun _ _ _ hp => hp)
                try simp only [Act.put, List.setIfInBounds_toArray, List.set_cons_zero, List.set_cons_succ]
                refine xskip 32 rfl (by kernel_rfl) (by kernel_rfl) (by kernel_rfl) ?_ rfl (by assumption) ?_
                · (exact fun _ _ _ hp => hp)
                try simp only [Act.put, List.setIfInBounds_toArray, List.set_cons_zero, List.set_cons_succ]
                refine xskip 33 rfl (by kernel_rfl) (by kernel_rfl) (by kernel_rfl) ?_ rfl (by assumption) ?_
                · (exact fun _ _ _ hp => hp)
                try simp only [Act.put, List.setIfInBounds_toArray, List.set_cons_zero, List.set_cons_succ]
                refine xskip 34 rfl (by kernel_rfl) (by kernel_rfl) (by kernel_rfl) ?_ rfl (by assumption) ?_
                · (exact fun _ _ _ hp => hp)
                try simp only [Act.put, List.setIfInBounds_toArray, List.set_cons_zero, List.set_cons_succ]
                refine xskip 35 rfl (by kernel_rfl) (by kernel_rfl) (by kernel_rfl) ?_ rfl (by assumption) ?_
                · (exact fun _ _ _ hp => hp)
                try simp only [Act.put, List.setIfInBounds_toArray, List.set_cons_zero, List.set_cons_succ]
                refine xskip 36 rfl (by kernel_rfl) (by kernel_rfl) (by kernel_rfl) ?_ rfl (by assumption) ?_
                · (exact fun _ _ _ hp => hp)
                try simp only [Act.put, List.setIfInBounds_toArray, List.set_cons_zero, List.set_cons_succ]
                refine xskip 37 rfl (by kernel_rfl) (by kernel_rfl) (by kernel_rfl) ?_ rfl (by assumption) ?_
                · (exact fun _ _ _ hp => hp)
                try simp only [Act.put, List.setIfInBounds_toArray, List.set_cons_zero, List.set_cons_succ]
                refine xskip 38 rfl (by kernel_rfl) (by kernel_rfl) (by kernel_rfl) ?_ rfl (by assumption) ?_
                · (exact fun _ _ _ hp => hp)
                try simp only [Act.put, List.setIfInBounds_toArray, List.set_cons_zero, List.set_cons_succ]
                refine xskip 39 rfl (by kernel_rfl) (by kernel_rfl) (by kernel_rfl) ?_ rfl (by assumption) ?_
                · (exact fun _ _ _ hp => hp)
                try simp only [Act.put, List.setIfInBounds_toArray, List.set_cons_zero, List.set_cons_succ]
                refine xskip 40 rfl (by kernel_rfl) (by kernel_rfl) (by kernel_rfl) ?_ rfl (by assumption) ?_
                · (exact fun _ _ _ hp => hp)
                try simp only [Act.put, List.setIfInBounds_toArray, List.set_cons_zero, List.set_cons_succ]
                refine xtake 41 (v := ?_) rfl (by kernel_rfl) (by kernel_rfl) (by kernel_rfl) rfl ?_ ?_ (by assumption) ?_
                rotate_left
                · intro w hSw; (try dsimp only at hSw); go_simp; with_reducible rfl
                · (exact fun _ _ _ hp => hp)
                try simp only [Act.put, List.setIfInBounds_toArray, List.set_cons_zero, List.set_cons_succ]
                refine xtake 42 (v := ?_) rfl (by kernel_rfl) (by kernel_rfl) (by kernel_rfl) rfl ?_ ?_ (by assumption) ?_
                rotate_left
                · intro w hSw; (try dsimp only at hSw); go_simp; with_reducible rfl
                · (exact fun _ _ _ hp => hp)
                try simp only [Act.put, List.setIfInBounds_toArray, List.set_cons_zero, List.set_cons_succ]
                refine wpAnyH_done (by kernel_rfl) ?_ _
                (revert hHeld3; intro _)
              rotate_left 1
              exact AllReadyH.nil
            rotate_left 1
            exact AllReadyH.nil
          rotate_left 1
          exact AllReadyH.nil
          go_wp2
          go_roundw
          case rel => exact ⟨1, by omega, rfl, hbd.out, hok1.out⟩
          case measure => simp [intOf]; omega
        | succ i =>
          obtain ⟨y, hy⟩ := getq (l := d) (j := i) (by rw [← Hn.out]; omega)
          obtain ⟨b', o', e1, _, d0, d1, d2⟩ := hs'.cause hy
          cases e1
          replace hy := Lib.hid hy
          replace K3 : Hid ((wr.drew.cell? ⟨b, o + (i + 1) * 3, none⟩ = some (.int .i64 x.parcel)) ∧ (wr.drew.cell? ⟨b, o + (i + 1) * 3 + 1, none⟩ = some (.int .i64 x.reason)) ∧ (wr.drew.cell? ⟨b, o + (i + 1) * 3 + 2, none⟩ = some (.int .i64 x.known)) ∧ (wr.drew.cell? ⟨b, o + i * 3, none⟩ = some (.int .i64 y.parcel))) := ⟨K3.out.1, K3.out.2.1, K3.out.2.2, d0⟩
          clear hs' c0 c1 c2 d0 d1 d2
          have hi0 : (0 : Int) ≤ (i : Int) + 1 := by omega
          have hin : i < n := by omega
          have hwi : IntKind.i64.wrap (i : Int) = (i : Int) := IntWalk.i64_in _ (by omega)
          by_cases h1 : x.parcel ≤ y.parcel
          case pos =>
            have hbad : Hid (chkL okC ltC d = 1) := chkL_bad (by rw [← Hn.out]; omega) (i := i + 1) (by rw [← Hn.out]; omega) (okAt_less hx.out hy.out (ltC_no h1))
            have g1 : decide (x.parcel ≤ y.parcel) = true := by simpa using h1
            go_wp2
            refine wp_region_held_drew (S := (fun w' => w'.cell? ⟨b, o + (i + 1) * 3, none⟩ = some (.int .i64 x.parcel) ∧ w'.cell? ⟨b, o + (i + 1) * 3 + 1, none⟩ = some (.int .i64 x.reason) ∧ w'.cell? ⟨b, o + (i + 1) * 3 + 2, none⟩ = some (.int .i64 x.known) ∧ w'.cell? ⟨b, o + i * 3, none⟩ = some (.int .i64 y.parcel))) (by kernel_rfl) ?_ (fun hHeld0 => ?_)
            · (try dsimp only); (with_reducible exact K3.out)
            refine xtake 0 (v := ?_) rfl (by kernel_rfl) (by kernel_rfl) (by kernel_rfl) rfl ?_ ?_ (by assumption) ?_
            rotate_left
            · intro w hSw; (try dsimp only at hSw); go_simp; with_reducible rfl
            · (exact fun _ _ _ hp => hp)
            try simp only [Act.put, List.setIfInBounds_toArray, List.set_cons_zero, List.set_cons_succ]
            refine xtake 1 (v := ?_) rfl (by kernel_rfl) (by kernel_rfl) (by kernel_rfl) rfl ?_ ?_ (by assumption) ?_
            rotate_left
            · intro w hSw; (try dsimp only at hSw); go_simp; with_reducible rfl
            · (exact fun _ _ _ hp => hp)
            try simp only [Act.put, List.setIfInBounds_toArray, List.set_cons_zero, List.set_cons_succ]
            refine xtake 2 (v := ?_) rfl (by kernel_rfl) (by kernel_rfl) (by kernel_rfl) rfl ?_ ?_ (by assumption) ?_
            rotate_left
            · intro w hSw; (try dsimp only at hSw); go_simp; with_reducible rfl
            · (exact fun _ _ _ hp => hp)
            try simp only [Act.put, List.setIfInBounds_toArray, List.set_cons_zero, List.set_cons_succ]
            refine xtake 3 (v := ?_) rfl (by kernel_rfl) (by kernel_rfl) (by kernel_rfl) rfl ?_ ?_ (by assumption) ?_
            rotate_left
            · intro w hSw; (try dsimp only at hSw); go_simp; with_reducible rfl
            · (exact fun _ _ _ hp => hp)
            try simp only [Act.put, List.setIfInBounds_toArray, List.set_cons_zero, List.set_cons_succ]
            refine xtake 4 (v := ?_) rfl (by kernel_rfl) (by kernel_rfl) (by kernel_rfl) rfl ?_ ?_ (by assumption) ?_
            rotate_left
            · intro w hSw; (try dsimp only at hSw); go_simp; with_reducible rfl
            · (exact fun _ _ _ hp => hp)
            try simp only [Act.put, List.setIfInBounds_toArray, List.set_cons_zero, List.set_cons_succ]
            refine wpAnyH_ready (rs := [5]) (by kernel_rfl) (by simp) ?_
            refine xcons 5 rfl (fun K hK => ?_) ?_
            focus
              (first
                | (go_simp; go_at_call 101; refine (rparcel x.parcel wr.drew).mono ?_; rintro e w1 ⟨rfl, rfl⟩; rw [hv1.out]; dsimp only)
                | (go_simp; go_at_call 102; refine (rwithin x.reason 1 1000000 wr.drew).mono ?_; rintro e w1 ⟨rfl, rfl⟩; rw [hv2.out]; dsimp only)
                | (go_simp; go_at_call 67; refine (rhour x.known wr.drew).mono ?_; rintro e w1 ⟨rfl, rfl⟩; rw [hv3.out]; dsimp only))
              refine hK.out _ _ ?_ (fun hHeld1 => ?_)
              · (try dsimp only); (with_reducible exact K3.out)
              clear hK K
              try simp only [Act.put, List.setIfInBounds_toArray, List.set_cons_zero, List.set_cons_succ]
              (try clear hHeld0)
              refine xtake 6 (v := ?_) rfl (by kernel_rfl) (by kernel_rfl) (by kernel_rfl) rfl ?_ ?_ (by assumption) ?_
              rotate_left
              · intro w hSw; (try dsimp only at hSw); go_simp; with_reducible rfl
              · (exact fun _ _ _ hp => hp)
              try simp only [Act.put, List.setIfInBounds_toArray, List.set_cons_zero, List.set_cons_succ]
              refine xtake 7 (v := ?_) rfl (by kernel_rfl) (by kernel_rfl) (by kernel_rfl) rfl ?_ ?_ (by assumption) ?_
              rotate_left
              · intro w hSw; (try dsimp only at hSw); go_simp; with_reducible rfl
              · (exact fun _ _ _ hp => hp)
              try simp only [Act.put, List.setIfInBounds_toArray, List.set_cons_zero, List.set_cons_succ]
              refine xtake 8 (v := ?_) rfl (by kernel_rfl) (by kernel_rfl) (by kernel_rfl) rfl ?_ ?_ (by assumption) ?_
              rotate_left
              · intro w hSw; (try dsimp only at hSw); go_simp; with_reducible rfl
              · (exact fun _ _ _ hp => hp)
              try simp only [Act.put, List.setIfInBounds_toArray, List.set_cons_zero, List.set_cons_succ]
              refine xtake 9 (v := ?_) rfl (by kernel_rfl) (by kernel_rfl) (by kernel_rfl) rfl ?_ ?_ (by assumption) ?_
              rotate_left
              · intro w hSw; (try dsimp only at hSw); go_simp; with_reducible rfl
              · (exact fun _ _ _ hp => hp)
              try simp only [Act.put, List.setIfInBounds_toArray, List.set_cons_zero, List.set_cons_succ]
              refine xtake 10 (v := ?_) rfl (by kernel_rfl) (by kernel_rfl) (by kernel_rfl) rfl ?_ ?_ (by assumption) ?_
              rotate_left
              · intro w hSw; (try dsimp only at hSw); go_simp; with_reducible rfl
              · (exact fun _ _ _ hp => hp)
              try simp only [Act.put, List.setIfInBounds_toArray, List.set_cons_zero, List.set_cons_succ]
              refine xtake 11 (v := ?_) rfl (by kernel_rfl) (by kernel_rfl) (by kernel_rfl) rfl ?_ ?_ (by assumption) ?_
              rotate_left
              · intro w hSw; (try dsimp only at hSw); go_simp; with_reducible rfl
              · (exact fun _ _ _ hp => hp)
              try simp only [Act.put, List.setIfInBounds_toArray, List.set_cons_zero, List.set_cons_succ]
              refine xtake 12 (v := ?_) rfl (by kernel_rfl) (by kernel_rfl) (by kernel_rfl) rfl ?_ ?_ (by assumption) ?_
              rotate_left
              · intro w hSw; (try dsimp only at hSw); go_simp; with_reducible rfl
              · (exact fun _ _ _ hp => hp)
              try simp only [Act.put, List.setIfInBounds_toArray, List.set_cons_zero, List.set_cons_succ]
              refine wpAnyH_ready (rs := [13]) (by kernel_rfl) (by simp) ?_
              refine xcons 13 rfl (fun K hK => ?_) ?_
              focus
                (first
                  | (go_simp; go_at_call 101; refine (rparcel x.parcel wr.drew).mono ?_; rintro e w1 ⟨rfl, rfl⟩; rw [hv1.out]; dsimp only)
                  | (go_simp; go_at_call 102; refine (rwithin x.reason 1 1000000 wr.drew).mono ?_; rintro e w1 ⟨rfl, rfl⟩; rw [hv2.out]; dsimp only)
                  | (go_simp; go_at_call 67; refine (rhour x.known wr.drew).mono ?_; rintro e w1 ⟨rfl, rfl⟩; rw [hv3.out]; dsimp only))
                refine hK.out _ _ ?_ (fun hHeld2 => ?_)
                · (try dsimp only); (with_reducible exact K3.out)
                clear hK K
                try simp only [Act.put, List.setIfInBounds_toArray, List.set_cons_zero, List.set_cons_succ]
                (try clear hHeld1)
                refine xtake 14 (v := ?_) rfl (by kernel_rfl) (by kernel_rfl) (by kernel_rfl) rfl ?_ ?_ (by assumption) ?_
                rotate_left
                · intro w hSw; (try dsimp only at hSw); go_simp; with_reducible rfl
                · (exact fun _ _ _ hp => hp)
                try simp only [Act.put, List.setIfInBounds_toArray, List.set_cons_zero, List.set_cons_succ]
                refine xtake 15 (v := ?_) rfl (by kernel_rfl) (by kernel_rfl) (by kernel_rfl) rfl ?_ ?_ (by assumption) ?_
                rotate_left
                · intro w hSw; (try dsimp only at hSw); go_simp; with_reducible rfl
                · (exact fun _ _ _ hp => hp)
                try simp only [Act.put, List.setIfInBounds_toArray, List.set_cons_zero, List.set_cons_succ]
                refine xtake 16 (v := ?_) rfl (by kernel_rfl) (by kernel_rfl) (by kernel_rfl) rfl ?_ ?_ (by assumption) ?_
                rotate_left
                · intro w hSw; (try dsimp only at hSw); go_simp; with_reducible rfl
                · (exact fun _ _ _ hp => hp)
                try simp only [Act.put, List.setIfInBounds_toArray, List.set_cons_zero, List.set_cons_succ]
                refine xtake 17 (v := ?_) rfl (by kernel_rfl) (by kernel_rfl) (by kernel_rfl) rfl ?_ ?_ (by assumption) ?_
                rotate_left
                · intro w hSw; (try dsimp only at hSw); go_simp; with_reducible rfl
                · (exact fun _ _ _ hp => hp)
                try simp only [Act.put, List.setIfInBounds_toArray, List.set_cons_zero, List.set_cons_succ]
                refine xtake 18 (v := ?_) rfl (by kernel_rfl) (by kernel_rfl) (by kernel_rfl) rfl ?_ ?_ (by assumption) ?_
                rotate_left
                · intro w hSw; (try dsimp only at hSw); go_simp; with_reducible rfl
                · (exact fun _ _ _ hp => hp)
                try simp only [Act.put, List.setIfInBounds_toArray, List.set_cons_zero, List.set_cons_succ]
                refine xtake 19 (v := ?_) rfl (by kernel_rfl) (by kernel_rfl) (by kernel_rfl) rfl ?_ ?_ (by assumption) ?_
                rotate_left
                · intro w hSw; (try dsimp only at hSw); go_simp; with_reducible rfl
                · (exact fun _ _ _ hp => hp)
                try simp only [Act.put, List.setIfInBounds_toArray, List.set_cons_zero, List.set_cons_succ]
                refine xtake 20 (v := ?_) rfl (by kernel_rfl) (by kernel_rfl) (by kernel_rfl) rfl ?_ ?_ (by assumption) ?_
                rotate_left
                · intro w hSw; (try dsimp only at hSw); go_simp; with_reducible rfl
                · (exact fun _ _ _ hp => hp)
                try simp only [Act.put, List.setIfInBounds_toArray, List.set_cons_zero, List.set_cons_succ]
                refine xtake 21 (v := ?_) rfl (by kernel_rfl) (by kernel_rfl) (by kernel_rfl) rfl ?_ ?_ (by assumption) ?_
                rotate_left
                · intro w hSw; (try dsimp only at hSw); go_simp; with_reducible rfl
                · (exact fun _ _ _ hp => hp)
                try simp only [Act.put, List.setIfInBounds_toArray, List.set_cons_zero, List.set_cons_succ]
                refine wpAnyH_ready (rs := [22]) (by kernel_rfl) (by simp) ?_
                refine xcons 22 rfl (fun K hK => ?_) ?_
                focus
                  (first
                    | (go_simp; go_at_call 101; refine (rparcel x.parcel wr.drew).mono ?_; rintro e w1 ⟨rfl, rfl⟩; rw [hv1.out]; dsimp only)
                    | (go_simp; go_at_call 102; refine (rwithin x.reason 1 1000000 wr.drew).mono ?_; rintro e w1 ⟨rfl, rfl⟩; rw [hv2.out]; dsimp only)
                    | (go_simp; go_at_call 67; refine (rhour x.known wr.drew).mono ?_; rintro e w1 ⟨rfl, rfl⟩; rw [hv3.out]; dsimp only))
                  refine hK.out _ _ ?_ (fun hHeld3 => ?_)
                  · (try dsimp only); (with_reducible exact K3.out)
                  clear hK K
                  try simp only [Act.put, List.setIfInBounds_toArray, List.set_cons_zero, List.set_cons_succ]
                  (try clear hHeld2)
                  refine xtake 23 (v := ?_) rfl (by kernel_rfl) (by kernel_rfl) (by kernel_rfl) rfl ?_ ?_ (by assumption) ?_
                  rotate_left
                  · intro w hSw; (try dsimp only at hSw); go_simp; with_reducible rfl
                  · (exact fun _ _ _ hp => hp)
                  try simp only [Act.put, List.setIfInBounds_toArray, List.set_cons_zero, List.set_cons_succ]
                  refine xtake 24 (v := ?_) rfl (by kernel_rfl) (by kernel_rfl) (by kernel_rfl) rfl ?_ ?_ (by assumption) ?_
                  rotate_left
                  · intro w hSw; (try dsimp only at hSw); go_simp; with_reducible rfl
                  · (exact fun _ _ _ hp => hp)
                  try simp only [Act.put, List.setIfInBounds_toArray, List.set_cons_zero, List.set_cons_succ]
                  refine xtake 25 (v := ?_) rfl (by kernel_rfl) (by kernel_rfl) (by kernel_rfl) rfl ?_ ?_ (by assumption) ?_
                  rotate_left
                  · intro w hSw; (try dsimp only at hSw); go_simp; with_reducible rfl
                  · (exact fun _ _ _ hp => hp)
                  try simp only [Act.put, List.setIfInBounds_toArray, List.set_cons_zero, List.set_cons_succ]
                  refine xtake 26 (v := ?_) rfl (by kernel_rfl) (by kernel_rfl) (by kernel_rfl) rfl ?_ ?_ (by assumption) ?_
                  rotate_left
                  · intro w hSw; (try dsimp only at hSw); go_simp; with_reducible rfl
                  · (exact fun _ _ _ hp => hp)
                  try simp only [Act.put, List.setIfInBounds_toArray, List.set_cons_zero, List.set_cons_succ]
                  refine xtake 27 (v := ?_) rfl (by kernel_rfl) (by kernel_rfl) (by kernel_rfl) rfl ?_ ?_ (by assumption) ?_
                  rotate_left
                  · intro w hSw; (try dsimp only at hSw); go_simp; with_reducible rfl
                  · (exact fun _ _ _ hp => hp)
                  try simp only [Act.put, List.setIfInBounds_toArray, List.set_cons_zero, List.set_cons_succ]
                  refine xtake 28 (v := ?_) rfl (by kernel_rfl) (by kernel_rfl) (by kernel_rfl) rfl ?_ ?_ (by assumption) ?_
                  rotate_left
                  · intro w hSw; (try dsimp only at hSw); go_simp; with_reducible rfl
                  · (exact fun _ _ _ hp => hp)
                  try simp only [Act.put, List.setIfInBounds_toArray, List.set_cons_zero, List.set_cons_succ]
                  refine xtake 29 (v := ?_) rfl (by kernel_rfl) (by kernel_rfl) (by kernel_rfl) rfl ?_ ?_ (by assumption) ?_
                  rotate_left
                  · intro w hSw; (try dsimp only at hSw); go_simp; with_reducible rfl
                  · (exact fun _ _ _ hp => hp)
                  try simp only [Act.put, List.setIfInBounds_toArray, List.set_cons_zero, List.set_cons_succ]
                  refine xtake 30 (v := ?_) rfl (by kernel_rfl) (by kernel_rfl) (by kernel_rfl) rfl ?_ ?_ (by assumption) ?_
                  rotate_left
                  · intro w hSw; (try dsimp only at hSw); go_simp; with_reducible rfl
                  · (exact fun _ _ _ hp => hp)
                  try simp only [Act.put, List.setIfInBounds_toArray, List.set_cons_zero, List.set_cons_succ]
                  refine xtake 31 (v := ?_) rfl (by kernel_rfl) (by kernel_rfl) (by kernel_rfl) rfl ?_ ?_ (by assumption) ?_
                  rotate_left
                  · intro w hSw; (try dsimp only at hSw); go_simp; with_reducible rfl
                  · (exact fun _ _ _ hp => hp)
                  try simp only [Act.put, List.setIfInBounds_toArray, List.set_cons_zero, List.set_cons_succ]
                  refine xtake 32 (v := ?_) rfl (by kernel_rfl) (by kernel_rfl) (by kernel_rfl) rfl ?_ ?_ (by assumption) ?_
                  rotate_left
                  · intro w hSw; (try dsimp only at hSw); go_simp; with_reducible rfl
                  · (exact fun _ _ _ hp => hp)
                  try simp only [Act.put, List.setIfInBounds_toArray, List.set_cons_zero, List.set_cons_succ]
                  refine xtake 33 (v := ?_) rfl (by kernel_rfl) (by kernel_rfl) (by kernel_rfl) rfl ?_ ?_ (by assumption) ?_
                  rotate_left
                  · intro w hSw; (try dsimp only at hSw); go_simp; with_reducible rfl
                  · (exact fun _ _ _ hp => hp)
                  try simp only [Act.put, List.setIfInBounds_toArray, List.set_cons_zero, List.set_cons_succ]
                  refine xtake 34 (v := ?_) rfl (by kernel_rfl) (by kernel_rfl) (by kernel_rfl) rfl ?_ ?_ (by assumption) ?_
                  rotate_left
                  · intro w hSw; (try dsimp only at hSw); go_simp; with_reducible rfl
                  · (exact fun _ _ _ hp => hp)
                  try simp only [Act.put, List.setIfInBounds_toArray, List.set_cons_zero, List.set_cons_succ]
                  refine xtake 35 (v := ?_) rfl (by kernel_rfl) (by kernel_rfl) (by kernel_rfl) rfl ?_ ?_ (by assumption) ?_
                  rotate_left
                  · intro w hSw; (try dsimp only at hSw); go_simp; with_reducible rfl
                  · (exact fun _ _ _ hp => hp)
                  try simp only [Act.put, List.setIfInBounds_toArray, List.set_cons_zero, List.set_cons_succ]
                  refine xtake 36 (v := ?_) rfl (by kernel_rfl) (by kernel_rfl) (by kernel_rfl) rfl ?_ ?_ (by assumption) ?_
                  rotate_left
                  · intro w hSw; (try dsimp only at hSw); go_simp; with_reducible rfl
                  · (exact fun _ _ _ hp => hp)
                  try simp only [Act.put, List.setIfInBounds_toArray, List.set_cons_zero, List.set_cons_succ]
                  refine xtake 37 (v := ?_) rfl (by kernel_rfl) (by kernel_rfl) (by kernel_rfl) rfl ?_ ?_ (by assumption) ?_
                  rotate_left
                  · intro w hSw; (try dsimp only at hSw); go_simp; with_reducible rfl
                  · (exact fun _ _ _ hp => hp)
                  try simp only [Act.put, List.setIfInBounds_toArray, List.set_cons_zero, List.set_cons_succ]
                  refine xtake 38 (v := ?_) rfl (by kernel_rfl) (by kernel_rfl) (by kernel_rfl) rfl ?_ ?_ (by assumption) ?_
                  rotate_left
                  · intro w hSw; (try dsimp only at hSw); go_simp; with_reducible rfl
                  · (exact fun _ _ _ hp => hp)
                  try simp only [Act.put, List.setIfInBounds_toArray, List.set_cons_zero, List.set_cons_succ]
                  refine xtake 39 (v := ?_) rfl (by kernel_rfl) (by kernel_rfl) (by kernel_rfl) rfl ?_ ?_ (by assumption) ?_
                  rotate_left
                  · intro w hSw; (try dsimp only at hSw); go_simp; with_reducible rfl
                  · (exact fun _ _ _ hp => hp)
                  try simp only [Act.put, List.setIfInBounds_toArray, List.set_cons_zero, List.set_cons_succ]
                  refine xtake 40 (v := ?_) rfl (by kernel_rfl) (by kernel_rfl) (by kernel_rfl) rfl ?_ ?_ (by assumption) ?_
                  rotate_left
                  · intro w hSw; (try dsimp only at hSw); go_simp; with_reducible rfl
                  · (exact fun _ _ _ hp => hp)
                  try simp only [Act.put, List.setIfInBounds_toArray, List.set_cons_zero, List.set_cons_succ]
                  refine xtake 41 (v := ?_) rfl (by kernel_rfl) (by kernel_rfl) (by kernel_rfl) rfl ?_ ?_ (by assumption) ?_
                  rotate_left
                  · intro w hSw; (try dsimp only at hSw); go_simp; with_reducible rfl
                  · (exact fun _ _ _ hp => hp)
                  try simp only [Act.put, List.setIfInBounds_toArray, List.set_cons_zero, List.set_cons_succ]
                  refine xtake 42 (v := ?_) rfl (by kernel_rfl) (by kernel_rfl) (by kernel_rfl) rfl ?_ ?_ (by assumption) ?_
                  rotate_left
                  · intro w hSw; (try dsimp only at hSw); go_simp; with_reducible rfl
                  · (exact fun _ _ _ hp => hp)
                  try simp only [Act.put, List.setIfInBounds_toArray, List.set_cons_zero, List.set_cons_succ]
                  refine wpAnyH_done (by kernel_rfl) ?_ _
                  (revert hHeld3; intro _)
                rotate_left 1
                exact AllReadyH.nil
              rotate_left 1
              exact AllReadyH.nil
            rotate_left 1
            exact AllReadyH.nil
            go_wp2
            go_ret
            exact ⟨by rw [hbad.out]; rfl, hbd.out⟩
          case neg =>
            have hok1 := Lib.hid (okAt_succ hok.out (Lib.hid (okAt_next hx.out hy.out hokx.out (ltC_yes (by omega)))))
            have g1 : decide (x.parcel ≤ y.parcel) = false := by simp; omega
            go_wp2
            refine wp_region_held_drew (S := (fun w' => w'.cell? ⟨b, o + (i + 1) * 3, none⟩ = some (.int .i64 x.parcel) ∧ w'.cell? ⟨b, o + (i + 1) * 3 + 1, none⟩ = some (.int .i64 x.reason) ∧ w'.cell? ⟨b, o + (i + 1) * 3 + 2, none⟩ = some (.int .i64 x.known) ∧ w'.cell? ⟨b, o + i * 3, none⟩ = some (.int .i64 y.parcel))) (by kernel_rfl) ?_ (fun hHeld0 => ?_)
            · (try dsimp only); (with_reducible exact K3.out)
            refine xtake 0 (v := ?_) rfl (by kernel_rfl) (by kernel_rfl) (by kernel_rfl) rfl ?_ ?_ (by assumption) ?_
            rotate_left
            · intro w hSw; (try dsimp only at hSw); go_simp; with_reducible rfl
            · (exact fun _ _ _ hp => hp)
            try simp only [Act.put, List.setIfInBounds_toArray, List.set_cons_zero, List.set_cons_succ]
            refine xtake 1 (v := ?_) rfl (by kernel_rfl) (by kernel_rfl) (by kernel_rfl) rfl ?_ ?_ (by assumption) ?_
            rotate_left
            · intro w hSw; (try dsimp only at hSw); go_simp; with_reducible rfl
            · (exact fun _ _ _ hp => hp)
            try simp only [Act.put, List.setIfInBounds_toArray, List.set_cons_zero, List.set_cons_succ]
            refine xtake 2 (v := ?_) rfl (by kernel_rfl) (by kernel_rfl) (by kernel_rfl) rfl ?_ ?_ (by assumption) ?_
            rotate_left
            · intro w hSw; (try dsimp only at hSw); go_simp; with_reducible rfl
            · (exact fun _ _ _ hp => hp)
            try simp only [Act.put, List.setIfInBounds_toArray, List.set_cons_zero, List.set_cons_succ]
            refine xtake 3 (v := ?_) rfl (by kernel_rfl) (by kernel_rfl) (by kernel_rfl) rfl ?_ ?_ (by assumption) ?_
            rotate_left
            · intro w hSw; (try dsimp only at hSw); go_simp; with_reducible rfl
            · (exact fun _ _ _ hp => hp)
            try simp only [Act.put, List.setIfInBounds_toArray, List.set_cons_zero, List.set_cons_succ]
            refine xtake 4 (v := ?_) rfl (by kernel_rfl) (by kernel_rfl) (by kernel_rfl) rfl ?_ ?_ (by assumption) ?_
            rotate_left
            · intro w hSw; (try dsimp only at hSw); go_simp; with_reducible rfl
            · (exact fun _ _ _ hp => hp)
            try simp only [Act.put, List.setIfInBounds_toArray, List.set_cons_zero, List.set_cons_succ]
            refine wpAnyH_ready (rs := [5]) (by kernel_rfl) (by simp) ?_
            refine xcons 5 rfl (fun K hK => ?_) ?_
            focus
              (first
                | (go_simp; go_at_call 101; refine (rparcel x.parcel wr.drew).mono ?_; rintro e w1 ⟨rfl, rfl⟩; rw [hv1.out]; dsimp only)
                | (go_simp; go_at_call 102; refine (rwithin x.reason 1 1000000 wr.drew).mono ?_; rintro e w1 ⟨rfl, rfl⟩; rw [hv2.out]; dsimp only)
                | (go_simp; go_at_call 67; refine (rhour x.known wr.drew).mono ?_; rintro e w1 ⟨rfl, rfl⟩; rw [hv3.out]; dsimp only))
              refine hK.out _ _ ?_ (fun hHeld1 => ?_)
              · (try dsimp only); (with_reducible exact K3.out)
              clear hK K
              try simp only [Act.put, List.setIfInBounds_toArray, List.set_cons_zero, List.set_cons_succ]
              (try clear hHeld0)
              refine xtake 6 (v := ?_) rfl (by kernel_rfl) (by kernel_rfl) (by kernel_rfl) rfl ?_ ?_ (by assumption) ?_
              rotate_left
              · intro w hSw; (try dsimp only at hSw); go_simp; with_reducible rfl
              · (exact fun _ _ _ hp => hp)
              try simp only [Act.put, List.setIfInBounds_toArray, List.set_cons_zero, List.set_cons_succ]
              refine xtake 7 (v := ?_) rfl (by kernel_rfl) (by kernel_rfl) (by kernel_rfl) rfl ?_ ?_ (by assumption) ?_
              rotate_left
              · intro w hSw; (try dsimp only at hSw); go_simp; with_reducible rfl
              · (exact fun _ _ _ hp => hp)
              try simp only [Act.put, List.setIfInBounds_toArray, List.set_cons_zero, List.set_cons_succ]
              refine xtake 8 (v := ?_) rfl (by kernel_rfl) (by kernel_rfl) (by kernel_rfl) rfl ?_ ?_ (by assumption) ?_
              rotate_left
              · intro w hSw; (try dsimp only at hSw); go_simp; with_reducible rfl
              · (exact fun _ _ _ hp => hp)
              try simp only [Act.put, List.setIfInBounds_toArray, List.set_cons_zero, List.set_cons_succ]
              refine xtake 9 (v := ?_) rfl (by kernel_rfl) (by kernel_rfl) (by kernel_rfl) rfl ?_ ?_ (by assumption) ?_
              rotate_left
              · intro w hSw; (try dsimp only at hSw); go_simp; with_reducible rfl
              · (exact fun _ _ _ hp => hp)
              try simp only [Act.put, List.setIfInBounds_toArray, List.set_cons_zero, List.set_cons_succ]
              refine xtake 10 (v := ?_) rfl (by kernel_rfl) (by kernel_rfl) (by kernel_rfl) rfl ?_ ?_ (by assumption) ?_
              rotate_left
              · intro w hSw; (try dsimp only at hSw); go_simp; with_reducible rfl
              · (exact fun _ _ _ hp => hp)
              try simp only [Act.put, List.setIfInBounds_toArray, List.set_cons_zero, List.set_cons_succ]
              refine xtake 11 (v := ?_) rfl (by kernel_rfl) (by kernel_rfl) (by kernel_rfl) rfl ?_ ?_ (by assumption) ?_
              rotate_left
              · intro w hSw; (try dsimp only at hSw); go_simp; with_reducible rfl
              · (exact fun _ _ _ hp => hp)
              try simp only [Act.put, List.setIfInBounds_toArray, List.set_cons_zero, List.set_cons_succ]
              refine xtake 12 (v := ?_) rfl (by kernel_rfl) (by kernel_rfl) (by kernel_rfl) rfl ?_ ?_ (by assumption) ?_
              rotate_left
              · intro w hSw; (try dsimp only at hSw); go_simp; with_reducible rfl
              · (exact fun _ _ _ hp => hp)
              try simp only [Act.put, List.setIfInBounds_toArray, List.set_cons_zero, List.set_cons_succ]
              refine wpAnyH_ready (rs := [13]) (by kernel_rfl) (by simp) ?_
              refine xcons 13 rfl (fun K hK => ?_) ?_
              focus
                (first
                  | (go_simp; go_at_call 101; refine (rparcel x.parcel wr.drew).mono ?_; rintro e w1 ⟨rfl, rfl⟩; rw [hv1.out]; dsimp only)
                  | (go_simp; go_at_call 102; refine (rwithin x.reason 1 1000000 wr.drew).mono ?_; rintro e w1 ⟨rfl, rfl⟩; rw [hv2.out]; dsimp only)
                  | (go_simp; go_at_call 67; refine (rhour x.known wr.drew).mono ?_; rintro e w1 ⟨rfl, rfl⟩; rw [hv3.out]; dsimp only))
                refine hK.out _ _ ?_ (fun hHeld2 => ?_)
                · (try dsimp only); (with_reducible exact K3.out)
                clear hK K
                try simp only [Act.put, List.setIfInBounds_toArray, List.set_cons_zero, List.set_cons_succ]
                (try clear hHeld1)
                refine xtake 14 (v := ?_) rfl (by kernel_rfl) (by kernel_rfl) (by kernel_rfl) rfl ?_ ?_ (by assumption) ?_
                rotate_left
                · intro w hSw; (try dsimp only at hSw); go_simp; with_reducible rfl
                · (exact fun _ _ _ hp => hp)
                try simp only [Act.put, List.setIfInBounds_toArray, List.set_cons_zero, List.set_cons_succ]
                refine xtake 15 (v := ?_) rfl (by kernel_rfl) (by kernel_rfl) (by kernel_rfl) rfl ?_ ?_ (by assumption) ?_
                rotate_left
                · intro w hSw; (try dsimp only at hSw); go_simp; with_reducible rfl
                · (exact fun _ _ _ hp => hp)
                try simp only [Act.put, List.setIfInBounds_toArray, List.set_cons_zero, List.set_cons_succ]
                refine xtake 16 (v := ?_) rfl (by kernel_rfl) (by kernel_rfl) (by kernel_rfl) rfl ?_ ?_ (by assumption) ?_
                rotate_left
                · intro w hSw; (try dsimp only at hSw); go_simp; with_reducible rfl
                · (exact fun _ _ _ hp => hp)
                try simp only [Act.put, List.setIfInBounds_toArray, List.set_cons_zero, List.set_cons_succ]
                refine xtake 17 (v := ?_) rfl (by kernel_rfl) (by kernel_rfl) (by kernel_rfl) rfl ?_ ?_ (by assumption) ?_
                rotate_left
                · intro w hSw; (try dsimp only at hSw); go_simp; with_reducible rfl
                · (exact fun _ _ _ hp => hp)
                try simp only [Act.put, List.setIfInBounds_toArray, List.set_cons_zero, List.set_cons_succ]
                refine xtake 18 (v := ?_) rfl (by kernel_rfl) (by kernel_rfl) (by kernel_rfl) rfl ?_ ?_ (by assumption) ?_
                rotate_left
                · intro w hSw; (try dsimp only at hSw); go_simp; with_reducible rfl
                · (exact fun _ _ _ hp => hp)
                try simp only [Act.put, List.setIfInBounds_toArray, List.set_cons_zero, List.set_cons_succ]
                refine xtake 19 (v := ?_) rfl (by kernel_rfl) (by kernel_rfl) (by kernel_rfl) rfl ?_ ?_ (by assumption) ?_
                rotate_left
                · intro w hSw; (try dsimp only at hSw); go_simp; with_reducible rfl
                · (exact fun _ _ _ hp => hp)
                try simp only [Act.put, List.setIfInBounds_toArray, List.set_cons_zero, List.set_cons_succ]
                refine xtake 20 (v := ?_) rfl (by kernel_rfl) (by kernel_rfl) (by kernel_rfl) rfl ?_ ?_ (by assumption) ?_
                rotate_left
                · intro w hSw; (try dsimp only at hSw); go_simp; with_reducible rfl
                · (exact fun _ _ _ hp => hp)
                try simp only [Act.put, List.setIfInBounds_toArray, List.set_cons_zero, List.set_cons_succ]
                refine xtake 21 (v := ?_) rfl (by kernel_rfl) (by kernel_rfl) (by kernel_rfl) rfl ?_ ?_ (by assumption) ?_
                rotate_left
                · intro w hSw; (try dsimp only at hSw); go_simp; with_reducible rfl
                · (exact fun _ _ _ hp => hp)
                try simp only [Act.put, List.setIfInBounds_toArray, List.set_cons_zero, List.set_cons_succ]
                refine wpAnyH_ready (rs := [22]) (by kernel_rfl) (by simp) ?_
                refine xcons 22 rfl (fun K hK => ?_) ?_
                focus
                  (first
                    | (go_simp; go_at_call 101; refine (rparcel x.parcel wr.drew).mono ?_; rintro e w1 ⟨rfl, rfl⟩; rw [hv1.out]; dsimp only)
                    | (go_simp; go_at_call 102; refine (rwithin x.reason 1 1000000 wr.drew).mono ?_; rintro e w1 ⟨rfl, rfl⟩; rw [hv2.out]; dsimp only)
                    | (go_simp; go_at_call 67; refine (rhour x.known wr.drew).mono ?_; rintro e w1 ⟨rfl, rfl⟩; rw [hv3.out]; dsimp only))
                  refine hK.out _ _ ?_ (fun hHeld3 => ?_)
                  · (try dsimp only); (with_reducible exact K3.out)
                  clear hK K
                  try simp only [Act.put, List.setIfInBounds_toArray, List.set_cons_zero, List.set_cons_succ]
                  (try clear hHeld2)
                  refine xtake 23 (v := ?_) rfl (by kernel_rfl) (by kernel_rfl) (by kernel_rfl) rfl ?_ ?_ (by assumption) ?_
                  rotate_left
                  · intro w hSw; (try dsimp only at hSw); go_simp; with_reducible rfl
                  · (exact fun _ _ _ hp => hp)
                  try simp only [Act.put, List.setIfInBounds_toArray, List.set_cons_zero, List.set_cons_succ]
                  refine xtake 24 (v := ?_) rfl (by kernel_rfl) (by kernel_rfl) (by kernel_rfl) rfl ?_ ?_ (by assumption) ?_
                  rotate_left
                  · intro w hSw; (try dsimp only at hSw); go_simp; with_reducible rfl
                  · (exact fun _ _ _ hp => hp)
                  try simp only [Act.put, List.setIfInBounds_toArray, List.set_cons_zero, List.set_cons_succ]
                  refine xtake 25 (v := ?_) rfl (by kernel_rfl) (by kernel_rfl) (by kernel_rfl) rfl ?_ ?_ (by assumption) ?_
                  rotate_left
                  · intro w hSw; (try dsimp only at hSw); go_simp; with_reducible rfl
                  · (exact fun _ _ _ hp => hp)
                  try simp only [Act.put, List.setIfInBounds_toArray, List.set_cons_zero, List.set_cons_succ]
                  refine xtake 26 (v := ?_) rfl (by kernel_rfl) (by kernel_rfl) (by kernel_rfl) rfl ?_ ?_ (by assumption) ?_
                  rotate_left
                  · intro w hSw; (try dsimp only at hSw); go_simp; with_reducible rfl
                  · (exact fun _ _ _ hp => hp)
                  try simp only [Act.put, List.setIfInBounds_toArray, List.set_cons_zero, List.set_cons_succ]
                  refine xtake 27 (v := ?_) rfl (by kernel_rfl) (by kernel_rfl) (by kernel_rfl) rfl ?_ ?_ (by assumption) ?_
                  rotate_left
                  · intro w hSw; (try dsimp only at hSw); go_simp; with_reducible rfl
                  · (exact fun _ _ _ hp => hp)
                  try simp only [Act.put, List.setIfInBounds_toArray, List.set_cons_zero, List.set_cons_succ]
                  refine xtake 28 (v := ?_) rfl (by kernel_rfl) (by kernel_rfl) (by kernel_rfl) rfl ?_ ?_ (by assumption) ?_
                  rotate_left
                  · intro w hSw; (try dsimp only at hSw); go_simp; with_reducible rfl
                  · (exact fun _ _ _ hp => hp)
                  try simp only [Act.put, List.setIfInBounds_toArray, List.set_cons_zero, List.set_cons_succ]
                  refine xtake 29 (v := ?_) rfl (by kernel_rfl) (by kernel_rfl) (by kernel_rfl) rfl ?_ ?_ (by assumption) ?_
                  rotate_left
                  · intro w hSw; (try dsimp only at hSw); go_simp; with_reducible rfl
                  · (exact fun _ _ _ hp => hp)
                  try simp only [Act.put, List.setIfInBounds_toArray, List.set_cons_zero, List.set_cons_succ]
                  refine xtake 30 (v := ?_) rfl (by kernel_rfl) (by kernel_rfl) (by kernel_rfl) rfl ?_ ?_ (by assumption) ?_
                  rotate_left
                  · intro w hSw; (try dsimp only at hSw); go_simp; with_reducible rfl
                  · (exact fun _ _ _ hp => hp)
                  try simp only [Act.put, List.setIfInBounds_toArray, List.set_cons_zero, List.set_cons_succ]
                  refine xtake 31 (v := ?_) rfl (by kernel_rfl) (by kernel_rfl) (by kernel_rfl) rfl ?_ ?_ (by assumption) ?_
                  rotate_left
                  · intro w hSw; (try dsimp only at hSw); go_simp; with_reducible rfl
                  · (exact fun _ _ _ hp => hp)
                  try simp only [Act.put, List.setIfInBounds_toArray, List.set_cons_zero, List.set_cons_succ]
                  refine xtake 32 (v := ?_) rfl (by kernel_rfl) (by kernel_rfl) (by kernel_rfl) rfl ?_ ?_ (by assumption) ?_
                  rotate_left
                  · intro w hSw; (try dsimp only at hSw); go_simp; with_reducible rfl
                  · (exact fun _ _ _ hp => hp)
                  try simp only [Act.put, List.setIfInBounds_toArray, List.set_cons_zero, List.set_cons_succ]
                  refine xtake 33 (v := ?_) rfl (by kernel_rfl) (by kernel_rfl) (by kernel_rfl) rfl ?_ ?_ (by assumption) ?_
                  rotate_left
                  · intro w hSw; (try dsimp only at hSw); go_simp; with_reducible rfl
                  · (exact fun _ _ _ hp => hp)
                  try simp only [Act.put, List.setIfInBounds_toArray, List.set_cons_zero, List.set_cons_succ]
                  refine xtake 34 (v := ?_) rfl (by kernel_rfl) (by kernel_rfl) (by kernel_rfl) rfl ?_ ?_ (by assumption) ?_
                  rotate_left
                  · intro w hSw; (try dsimp only at hSw); go_simp; with_reducible rfl
                  · (exact fun _ _ _ hp => hp)
                  try simp only [Act.put, List.setIfInBounds_toArray, List.set_cons_zero, List.set_cons_succ]
                  refine xtake 35 (v := ?_) rfl (by kernel_rfl) (by kernel_rfl) (by kernel_rfl) rfl ?_ ?_ (by assumption) ?_
                  rotate_left
                  · intro w hSw; (try dsimp only at hSw); go_simp; with_reducible rfl
                  · (exact fun _ _ _ hp => hp)
                  try simp only [Act.put, List.setIfInBounds_toArray, List.set_cons_zero, List.set_cons_succ]
                  refine xtake 36 (v := ?_) rfl (by kernel_rfl) (by kernel_rfl) (by kernel_rfl) rfl ?_ ?_ (by assumption) ?_
                  rotate_left
                  · intro w hSw; (try dsimp only at hSw); go_simp; with_reducible rfl
                  · (exact fun _ _ _ hp => hp)
                  try simp only [Act.put, List.setIfInBounds_toArray, List.set_cons_zero, List.set_cons_succ]
                  refine xtake 37 (v := ?_) rfl (by kernel_rfl) (by kernel_rfl) (by kernel_rfl) rfl ?_ ?_ (by assumption) ?_
                  rotate_left
                  · intro w hSw; (try dsimp only at hSw); go_simp; with_reducible rfl
                  · (exact fun _ _ _ hp => hp)
                  try simp only [Act.put, List.setIfInBounds_toArray, List.set_cons_zero, List.set_cons_succ]
                  refine xtake 38 (v := ?_) rfl (by kernel_rfl) (by kernel_rfl) (by kernel_rfl) rfl ?_ ?_ (by assumption) ?_
                  rotate_left
                  · intro w hSw; (try dsimp only at hSw); go_simp; with_reducible rfl
                  · (exact fun _ _ _ hp => hp)
                  try simp only [Act.put, List.setIfInBounds_toArray, List.set_cons_zero, List.set_cons_succ]
                  refine xtake 39 (v := ?_) rfl (by kernel_rfl) (by kernel_rfl) (by kernel_rfl) rfl ?_ ?_ (by assumption) ?_
                  rotate_left
                  · intro w hSw; (try dsimp only at hSw); go_simp; with_reducible rfl
                  · (exact fun _ _ _ hp => hp)
                  try simp only [Act.put, List.setIfInBounds_toArray, List.set_cons_zero, List.set_cons_succ]
                  refine xtake 40 (v := ?_) rfl (by kernel_rfl) (by kernel_rfl) (by kernel_rfl) rfl ?_ ?_ (by assumption) ?_
                  rotate_left
                  · intro w hSw; (try dsimp only at hSw); go_simp; with_reducible rfl
                  · (exact fun _ _ _ hp => hp)
                  try simp only [Act.put, List.setIfInBounds_toArray, List.set_cons_zero, List.set_cons_succ]
                  refine xtake 41 (v := ?_) rfl (by kernel_rfl) (by kernel_rfl) (by kernel_rfl) rfl ?_ ?_ (by assumption) ?_
                  rotate_left
                  · intro w hSw; (try dsimp only at hSw); go_simp; with_reducible rfl
                  · (exact fun _ _ _ hp => hp)
                  try simp only [Act.put, List.setIfInBounds_toArray, List.set_cons_zero, List.set_cons_succ]
                  refine xtake 42 (v := ?_) rfl (by kernel_rfl) (by kernel_rfl) (by kernel_rfl) rfl ?_ ?_ (by assumption) ?_
                  rotate_left
                  · intro w hSw; (try dsimp only at hSw); go_simp; with_reducible rfl
                  · (exact fun _ _ _ hp => hp)
                  try simp only [Act.put, List.setIfInBounds_toArray, List.set_cons_zero, List.set_cons_succ]
                  refine wpAnyH_done (by kernel_rfl) ?_ _
                  (revert hHeld3; intro _)
                rotate_left 1
                exact AllReadyH.nil
              rotate_left 1
              exact AllReadyH.nil
            rotate_left 1
            exact AllReadyH.nil
            go_wp2
            go_roundw
            case rel => exact ⟨i + 1 + 1, by omega, by go_num, hbd.out, hok1.out⟩
            case measure => simp [intOf]; omega
    · go_wp2
      go_ret
      have : chkL okC ltC d = 0 := chkL_good (by rw [← Hn.out]; omega) (fun i hi => hok.out i (by have := Hn.out; omega))
      exact ⟨by rw [this]; rfl, hb⟩
end Go.Proofs.YtoijlikmigejbaaGreat
