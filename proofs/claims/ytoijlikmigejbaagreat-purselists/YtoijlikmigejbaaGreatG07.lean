/- Walks: comparing accounts; dues and causes that are listed in order. Walks: dues that are listed in order. -/
import Derived.Test.YtoijlikmigejbaaGreatG06
import Derived.Sort.Grow
import Derived.Test.YtoijlikmigejbaaGreatG01
namespace Go.Proofs.YtoijlikmigejbaaGreat
open Go.RowKit Go.Proofs.YtoijlikmigejbaaGreat.Pu

def cmpI (a b : Int) : Int := if a < b then -1 else if b < a then 1 else 0
def orI (a b : Int) : Int := if a = 0 then b else a
/-- accounts: by parcel, then party -/
def cmpA (a b : Int × Int) : Int := orI (cmpI a.1 b.1) (cmpI a.2 b.2)

theorem cIsNaN (x : Int) (w : World) : Calls Tryz.prog 142 #[.int .i64 x] w fun e w' => e = .returned (.bool false) ∧ w = w' := by
  go_enter Tryz.func142, Tryz.ntmps142
  go_wp2
  go_ret
  exact ⟨ret_bool (by simp), rfl⟩
set_option maxRecDepth 100000 in
theorem cCompare (a b : Int) (w : World) : Calls Tryz.prog 129 #[.int .i64 a, .int .i64 b] w fun e w' => e = .returned (.int .i64 (cmpI a b)) ∧ w = w' := by
  go_enter Tryz.func129, Tryz.ntmps129
  go_wp2_with (go_at_call 142; refine (cIsNaN _ _).mono ?_; rintro e w1 ⟨rfl, rfl⟩)
  all_goals go_ret
  all_goals refine ⟨ret_int ?_, rfl⟩
  all_goals unfold cmpI
  · rw [if_pos (by assumption)]
  · rw [if_neg (by omega), if_pos (by omega)]
  · rw [if_neg (by omega), if_neg (by omega)]
set_option maxRecDepth 100000 in
theorem cOr (a b : Int) (B : Nat) (w : World) (h0 : w.cell? ⟨B, 0, none⟩ = some (.int .i64 a)) (h1 : w.cell? ⟨B, 1, none⟩ = some (.int .i64 b)) :
    Calls Tryz.prog 128 #[.slice (some ⟨B, 0, none⟩) 2 2] w fun e w' => e = .returned (.int .i64 (orI a b)) ∧ w = w' := by
  go_enter Tryz.func128, Tryz.ntmps128
  go_wp2
  refine wp_loop_rounds 3 ?_
  rw [rounds_succ]
  go_wp2
  · go_ret
    refine ⟨ret_int ?_, rfl⟩; unfold orI; rw [if_neg (by simp_all)]
  rw [rounds_succ]
  go_wp2
  · go_ret
    refine ⟨ret_int ?_, rfl⟩; unfold orI; rw [if_pos (by simp_all)]
  rw [rounds_succ]
  go_wp2
  go_ret
  refine ⟨ret_int ?_, rfl⟩; unfold orI; rw [if_pos (by simp_all)]; simp_all

theorem abox_alloc {w : World} {b : Nat} {x y : Int} (h : ABox w b x y) (o : Obj) : ABox (w.alloc o) b x y :=
  ⟨by simp; have := h.lt; omega, by rw [World.cell?_of_block (Below.heap_alloc _ _ _ h.lt)]; exact h.c0, by rw [World.cell?_of_block (Below.heap_alloc _ _ _ h.lt)]; exact h.c1⟩
theorem A4 {w : World} {b b' : Nat} {x y x' y' : Int} (h : ABox w b x y) (h' : ABox w b' x' y') : w.cell? ⟨b, 0, none⟩ = some (.int .i64 x) ∧ w.cell? ⟨b, 1, none⟩ = some (.int .i64 y) ∧ w.cell? ⟨b', 0, none⟩ = some (.int .i64 x') ∧ w.cell? ⟨b', 1, none⟩ = some (.int .i64 y') := ⟨h.c0, h.c1, h'.c0, h'.c1⟩

set_option maxRecDepth 100000 in
set_option maxHeartbeats 2000000 in
theorem pcompareG (a b : Int × Int) (w : World) : Calls Tryz.prog 99 #[.agg #[.int .i64 a.1, .int .i64 a.2], .agg #[.int .i64 b.1, .int .i64 b.2]] w fun e w' => e = .returned (.int .i64 (cmpA a b)) ∧ ∃ q os', w' = Go.Sort.grow (w.drewN q) os' := by
  obtain ⟨a1, a2⟩ := a
  obtain ⟨b1, b2⟩ := b
  have hA := abox_alloc (ABox.new w a1 a2 90) (.cells #[.int .i64 b1, .int .i64 b2] 90)
  have hs : (w.alloc (.cells #[.int .i64 a1, .int .i64 a2] 90)).heap.size = w.heap.size + 1 := by simp
  have hB := ABox.new (w.alloc (.cells #[.int .i64 a1, .int .i64 a2] 90)) b1 b2 90
  rw [hs] at hB
  have hBe : ∃ q os', ((w.alloc (.cells #[.int .i64 a1, .int .i64 a2] 90)).alloc (.cells #[.int .i64 b1, .int .i64 b2] 90)) = Go.Sort.grow (w.drewN q) os' := ⟨0, _, by rw [Go.Sort.alloc_eq_grow, Go.Sort.alloc_eq_grow, Go.Sort.grow_grow]; rfl⟩
  dsimp only
  go_enter Tryz.func99, Tryz.ntmps99
  go_wp2
  refine wp_world (R := fun W => (ABox W w.heap.size a1 a2 ∧ ABox W (w.heap.size + 1) b1 b2) ∧ ∃ q os', W = Go.Sort.grow (w.drewN q) os') ⟨⟨hA, hB⟩, hBe⟩ ?_
  clear hA hs hB hBe
  rintro W ⟨⟨hA, hB⟩, hBe⟩
  have hlt := hA.lt
  have hlt2 := hB.lt
  have hAd : ABox W.drew w.heap.size a1 a2 := ⟨hA.lt, hA.c0, hA.c1⟩
  have hBd : ABox W.drew (w.heap.size + 1) b1 b2 := ⟨hB.lt, hB.c0, hB.c1⟩
  replace hBe := Lib.hid hBe
  clear hA hB
  refine wp_region_held_drew (S := (fun w' => w'.cell? ⟨w.heap.size, 0, none⟩ = some (.int .i64 a1) ∧ w'.cell? ⟨w.heap.size, 1, none⟩ = some (.int .i64 a2) ∧ w'.cell? ⟨w.heap.size + 1, 0, none⟩ = some (.int .i64 b1) ∧ w'.cell? ⟨w.heap.size + 1, 1, none⟩ = some (.int .i64 b2))) (by kernel_rfl) ?_ (fun hHeld0 => ?_)
  · (try dsimp only); (first
                        | exact A4 hAd hBd
                        | exact A4 (abox_alloc hAd _) (abox_alloc hBd _))
  refine xtake 0 (v := ?_) rfl (by kernel_rfl) (by kernel_rfl) (by kernel_rfl) rfl ?_ ?_ (by assumption) ?_
  rotate_left
  · intro w hSw; (try dsimp only at hSw); go_simp; with_reducible rfl
  · (exact fun _ _ _ hp => hp)
  try simp only [Act.put, List.setIfInBounds_toArray, List.set_cons_zero, List.set_cons_succ]
  refine xtake 1 (v := ?_) rfl (by kernel_rfl) (by kernel_rfl) (by kernel_rfl) rfl ?_ ?_ (by assumption) ?_
  rotate_left
  · intro w hSw; (try dsimp only at hSw); go_simp; with_reducible rfl
  · (exact fun _ _ _ hp => hp)
  try simp only [Act.put, List.setIfInBounds_toArray, List.set_cons_zero, List.set_cons_succ]
  refine xtake 2 (v := ?_) rfl (by kernel_rfl) (by kernel_rfl) (by kernel_rfl) rfl ?_ ?_ (by assumption) ?_
  rotate_left
  · intro w hSw; (try dsimp only at hSw); go_simp; with_reducible rfl
  · (exact fun _ _ _ hp => hp)
  try simp only [Act.put, List.setIfInBounds_toArray, List.set_cons_zero, List.set_cons_succ]
  refine xtake 3 (v := ?_) rfl (by kernel_rfl) (by kernel_rfl) (by kernel_rfl) rfl ?_ ?_ (by assumption) ?_
  rotate_left
  · intro w hSw; (try dsimp only at hSw); go_simp; with_reducible rfl
  · (exact fun _ _ _ hp => hp)
  try simp only [Act.put, List.setIfInBounds_toArray, List.set_cons_zero, List.set_cons_succ]
  refine xtake 5 (v := ?_) rfl (by kernel_rfl) (by kernel_rfl) (by kernel_rfl) rfl ?_ ?_ (by assumption) ?_
  rotate_left
  · intro w hSw; (try dsimp only at hSw); go_simp; with_reducible rfl
  · (exact fun _ _ _ hp => hp)
  try simp only [Act.put, List.setIfInBounds_toArray, List.set_cons_zero, List.set_cons_succ]
  refine xtake 6 (v := ?_) rfl (by kernel_rfl) (by kernel_rfl) (by kernel_rfl) rfl ?_ ?_ (by assumption) ?_
  rotate_left
  · intro w hSw; (try dsimp only at hSw); go_simp; with_reducible rfl
  · (exact fun _ _ _ hp => hp)
  try simp only [Act.put, List.setIfInBounds_toArray, List.set_cons_zero, List.set_cons_succ]
  refine xtake 7 (v := ?_) rfl (by kernel_rfl) (by kernel_rfl) (by kernel_rfl) rfl ?_ ?_ (by assumption) ?_
  rotate_left
  · intro w hSw; (try dsimp only at hSw); go_simp; with_reducible rfl
  · (exact fun _ _ _ hp => hp)
  try simp only [Act.put, List.setIfInBounds_toArray, List.set_cons_zero, List.set_cons_succ]
  refine xtake 8 (v := ?_) rfl (by kernel_rfl) (by kernel_rfl) (by kernel_rfl) rfl ?_ ?_ (by assumption) ?_
  rotate_left
  · intro w hSw; (try dsimp only at hSw); go_simp; with_reducible rfl
  · (exact fun _ _ _ hp => hp)
  try simp only [Act.put, List.setIfInBounds_toArray, List.set_cons_zero, List.set_cons_succ]
  refine wpAnyH_ready (rs := [4]) (by kernel_rfl) (by simp) ?_
  refine xcons 4 rfl (fun K hK => ?_) ?_
  focus
    (first
      | (go_simp; go_at_call 129; refine (cCompare _ _ _).mono ?_; rintro e w1 ⟨rfl, rfl⟩; dsimp only)
      | (go_simp; go_at_call 128; refine (cOr (cmpI a1 b1) (cmpI a2 b2) _ _ ?_ ?_).mono ?_; (simp); (simp); rintro e w1 ⟨rfl, rfl⟩; dsimp only))
    refine hK.out _ _ ?_ (fun hHeld1 => ?_)
    · (try dsimp only); (first
                          | exact A4 hAd hBd
                          | exact A4 (abox_alloc hAd _) (abox_alloc hBd _))
    clear hK K
    try simp only [Act.put, List.setIfInBounds_toArray, List.set_cons_zero, List.set_cons_succ]
    (try clear hHeld0)
    refine wpAnyH_ready (rs := [9]) (by kernel_rfl) (by simp) ?_
    refine xcons 9 rfl (fun K hK => ?_) ?_
    focus
      (first
        | (go_simp; go_at_call 129; refine (cCompare _ _ _).mono ?_; rintro e w1 ⟨rfl, rfl⟩; dsimp only)
        | (go_simp; go_at_call 128; refine (cOr (cmpI a1 b1) (cmpI a2 b2) _ _ ?_ ?_).mono ?_; (simp); (simp); rintro e w1 ⟨rfl, rfl⟩; dsimp only))
      refine hK.out _ _ ?_ (fun hHeld2 => ?_)
      · (try dsimp only); (first
                            | exact A4 hAd hBd
                            | exact A4 (abox_alloc hAd _) (abox_alloc hBd _))
      clear hK K
      try simp only [Act.put, List.setIfInBounds_toArray, List.set_cons_zero, List.set_cons_succ]
      (try clear hHeld1)
      refine wpAnyH_ready (rs := [10]) (by kernel_rfl) (by simp) ?_
      refine xcons 10 rfl (fun K hK => ?_) ?_
      focus
        go_simp
        refine hK.out _ _ ?_ (fun hHeld3 => ?_)
        · (try dsimp only); (first
                              | exact A4 hAd hBd
                              | exact A4 (abox_alloc hAd _) (abox_alloc hBd _))
        clear hK K
        try simp only [Act.put, List.setIfInBounds_toArray, List.set_cons_zero, List.set_cons_succ]
        (try clear hHeld2)
        refine wpAnyH_ready (rs := [11]) (by kernel_rfl) (by simp) ?_
        refine xcons 11 rfl (fun K hK => ?_) ?_
        focus
          (first
            | (go_simp; go_at_call 129; refine (cCompare _ _ _).mono ?_; rintro e w1 ⟨rfl, rfl⟩; dsimp only)
            | (go_simp; go_at_call 128; refine (cOr (cmpI a1 b1) (cmpI a2 b2) _ _ ?_ ?_).mono ?_; (simp); (simp); rintro e w1 ⟨rfl, rfl⟩; dsimp only))
          refine hK.out _ _ ?_ (fun hHeld4 => ?_)
          · (try dsimp only); (first
                                | exact A4 hAd hBd
                                | exact A4 (abox_alloc hAd _) (abox_alloc hBd _))
          clear hK K
          try simp only [Act.put, List.setIfInBounds_toArray, List.set_cons_zero, List.set_cons_succ]
          (try clear hHeld3)
          refine xtake 12 (v := ?_) rfl (by kernel_rfl) (by kernel_rfl) (by kernel_rfl) rfl ?_ ?_ (by assumption) ?_
          rotate_left
          · intro w hSw; (try dsimp only at hSw); go_simp; with_reducible rfl
          · (exact fun _ _ _ hp => hp)
          try simp only [Act.put, List.setIfInBounds_toArray, List.set_cons_zero, List.set_cons_succ]
          refine wpAnyH_done (by kernel_rfl) ?_ _
          (revert hHeld4; intro _)
        rotate_left 1
        exact AllReadyH.nil
      rotate_left 1
      exact AllReadyH.nil
    rotate_left 1
    exact AllReadyH.nil
  rotate_left 1
  exact AllReadyH.nil
  all_goals
    go_wp2
    go_ret
    refine ⟨rfl, ?_⟩
    obtain ⟨q, os', rfl⟩ := hBe.out
    exact ⟨q + 1, os' ++ _, by rw [Go.Sort.alloc_eq_grow, Go.Sort.grow_grow]; rfl⟩
theorem pcompare (a b : Int × Int) (w : World) : Calls Tryz.prog 99 #[.agg #[.int .i64 a.1, .int .i64 a.2], .agg #[.int .i64 b.1, .int .i64 b.2]] w fun e w' => e = .returned (.int .i64 (cmpA a b)) ∧ Below w.heap.size w w' :=
  (pcompareG a b w).mono fun _ _ ⟨he, q, os', hw⟩ => ⟨he, by rw [hw]; exact ⟨rfl, rfl, rfl, by simp [Go.Sort.grow], fun k hk => Go.Sort.heap_grow_old (w.drewN q) os' hk⟩⟩

theorem of_ok (d : Due) (w : World) : Calls Tryz.prog 64 #[dval d] w fun e w' => e = .returned (.agg #[.int .i64 d.parcel, .int .i64 d.party]) ∧ Below w.heap.size w w' := by
  go_enter Tryz.func64, Tryz.ntmps64
  go_wp2
  refine bodyPost_ret (v := .agg #[.int .i64 d.parcel, .int .i64 d.party]) (by simp [results, Tryz.results64, go_sem]) rfl ⟨rfl, ?_⟩
  exact ((Below.refl _ _).alloc (Nat.le_refl _) _).alloc (by simp) _
def okD (d : Due) : Bool := inB d.parcel 10 10000007 && inB d.party 0 40 && inB d.amount 0 1000000000
def ltD (a b : Due) : Bool := decide (cmpA (a.parcel, a.party) (b.parcel, b.party) < 0)

set_option maxRecDepth 100000 in
set_option maxHeartbeats 1000000 in
theorem pDue1 (d : Due) (w : World) : Calls Tryz.prog 95 #[dval d] w fun e w' => e = .returned (.bool (okD d)) ∧ Below w.heap.size w w' := by
  obtain ⟨v, hv⟩ : ∃ v, Hid (v = okD d) := ⟨_, rfl⟩
  rw [← hv.out]
  have hB : Below w.heap.size w (w.alloc (.cells #[.int .i64 d.party, .int .i64 d.parcel, .int .i64 d.amount] 63)) := (Below.refl _ _).alloc (Nat.le_refl _) _
  replace hB := Lib.hid hB
  cases h1 : inB d.parcel 10 10000007 <;> cases h2 : inB d.party 0 40 <;> cases h3 : inB d.amount 0 1000000000
  all_goals
    have hr : Hid (okD d = (inB d.parcel 10 10000007 && inB d.party 0 40 && inB d.amount 0 1000000000)) := rfl
    go_enter Tryz.func95, Tryz.ntmps95
    go_wp2_with (first | (go_at_call 96; refine (pisParcel _ _).mono ?_; rintro e w2 ⟨rfl, rfl⟩) | (go_at_call 97; refine (pisParty _ _).mono ?_; rintro e w2 ⟨rfl, rfl⟩) | (go_at_call 57; refine (pin _ _ _ _).mono ?_; rintro e w2 ⟨rfl, rfl⟩))
    go_ret
    refine ⟨ret_bool ?_, hB.out⟩
    rw [hv.out, hr.out, h1, h2, h3]
    rfl
end Go.Proofs.YtoijlikmigejbaaGreat

namespace Go.Proofs.YtoijlikmigejbaaGreat
open Go.RowKit Go.Proofs.YtoijlikmigejbaaGreat.Pu

/-- three numbers in a block of their own -/
structure TBox (w : World) (b : Nat) (x y z : Int) : Prop where
  lt : b < w.heap.size
  c0 : w.cell? ⟨b, 0, none⟩ = some (.int .i64 x)
  c1 : w.cell? ⟨b, 1, none⟩ = some (.int .i64 y)
  c2 : w.cell? ⟨b, 2, none⟩ = some (.int .i64 z)
theorem TBox.new (w : World) (x y z : Int) (t : TypeId) : TBox (w.alloc (.cells #[.int .i64 x, .int .i64 y, .int .i64 z] t)) w.heap.size x y z := ⟨by simp, by simp, by simp, by simp⟩
theorem TBox.below {w w' : World} {b : Nat} {x y z : Int} {M : Nat} (h : TBox w b x y z) (hb : Below M w w') (hM : b < M) : TBox w' b x y z :=
  ⟨Nat.lt_of_lt_of_le h.lt hb.size, (hb.cell (p := ⟨b, 0, none⟩) hM).trans h.c0, (hb.cell (p := ⟨b, 1, none⟩) hM).trans h.c1, (hb.cell (p := ⟨b, 2, none⟩) hM).trans h.c2⟩
theorem TBox.after {w w' : World} {b : Nat} {x y z : Int} (h : TBox w b x y z) (hb : Below w.heap.size w w') : TBox w' b x y z := h.below hb h.lt
theorem T6 {w : World} {b b' : Nat} {x y z x' y' z' : Int} (h : TBox w b x y z) (h' : TBox w b' x' y' z') : w.cell? ⟨b, 0, none⟩ = some (.int .i64 x) ∧ w.cell? ⟨b, 1, none⟩ = some (.int .i64 y) ∧ w.cell? ⟨b, 2, none⟩ = some (.int .i64 z) ∧
    w.cell? ⟨b', 0, none⟩ = some (.int .i64 x') ∧ w.cell? ⟨b', 1, none⟩ = some (.int .i64 y') ∧ w.cell? ⟨b', 2, none⟩ = some (.int .i64 z') := ⟨h.c0, h.c1, h.c2, h'.c0, h'.c1, h'.c2⟩

set_option maxRecDepth 100000 in
set_option maxHeartbeats 2000000 in
theorem pDue2 (a b : Due) (w : World) : Calls Tryz.prog 98 #[dval a, dval b] w fun e w' => e = .returned (.bool (ltD a b)) ∧ Below w.heap.size w w' := by
  have hs : (w.alloc (.cells #[.int .i64 a.party, .int .i64 a.parcel, .int .i64 a.amount] 63)).heap.size = w.heap.size + 1 := by simp
  have hB := TBox.new (w.alloc (.cells #[.int .i64 a.party, .int .i64 a.parcel, .int .i64 a.amount] 63)) b.party b.parcel b.amount 63
  rw [hs] at hB
  have hA := (TBox.new w a.party a.parcel a.amount 63).after ((Below.refl _ _).alloc (Nat.le_refl _) (.cells #[.int .i64 b.party, .int .i64 b.parcel, .int .i64 b.amount] 63))
  have hBe : Below w.heap.size w ((w.alloc (.cells #[.int .i64 a.party, .int .i64 a.parcel, .int .i64 a.amount] 63)).alloc (.cells #[.int .i64 b.party, .int .i64 b.parcel, .int .i64 b.amount] 63)) := ((Below.refl _ _).alloc (Nat.le_refl _) _).alloc (by simp) _
  go_enter Tryz.func98, Tryz.ntmps98
  go_wp2
  refine wp_world (R := fun W => (TBox W w.heap.size a.party a.parcel a.amount ∧ TBox W (w.heap.size + 1) b.party b.parcel b.amount) ∧ Below w.heap.size w W) ⟨⟨hA, hB⟩, hBe⟩ ?_
  clear hA hs hB hBe
  rintro W ⟨⟨hA, hB⟩, hBe⟩
  have hd := (Below.refl W.heap.size W).drew
  replace hBe := Lib.hid hBe
  refine wp_region_held_drew (S := (fun w' => w'.cell? ⟨w.heap.size, 0, none⟩ = some (.int .i64 a.party) ∧ w'.cell? ⟨w.heap.size, 1, none⟩ = some (.int .i64 a.parcel) ∧ w'.cell? ⟨w.heap.size, 2, none⟩ = some (.int .i64 a.amount) ∧
                                    w'.cell? ⟨w.heap.size + 1, 0, none⟩ = some (.int .i64 b.party) ∧ w'.cell? ⟨w.heap.size + 1, 1, none⟩ = some (.int .i64 b.parcel) ∧ w'.cell? ⟨w.heap.size + 1, 2, none⟩ = some (.int .i64 b.amount))) (by kernel_rfl) ?_ (fun hHeld0 => ?_)
  · (try dsimp only); (first
                        | exact T6 (hA.after hd) (hB.after hd)
                        | exact T6 (hA.after (hd.trans (hb1.trans (hb2.mono hb1.size)))) (hB.after (hd.trans (hb1.trans (hb2.mono hb1.size))))
                        | exact T6 (hA.after (hd.trans hb1)) (hB.after (hd.trans hb1))
                        | exact T6 (hA.after hb3) (hB.after hb3))
  refine xtake 0 (v := ?_) rfl (by kernel_rfl) (by kernel_rfl) (by kernel_rfl) rfl ?_ ?_ (by assumption) ?_
  rotate_left
  · intro w hSw; (try dsimp only at hSw); go_simp; with_reducible rfl
  · (exact fun _ _ _ hp => hp)
  try simp only [Act.put, List.setIfInBounds_toArray, List.set_cons_zero, List.set_cons_succ]
  refine xtake 2 (v := ?_) rfl (by kernel_rfl) (by kernel_rfl) (by kernel_rfl) rfl ?_ ?_ (by assumption) ?_
  rotate_left
  · intro w hSw; (try dsimp only at hSw); go_simp; with_reducible rfl
  · (exact fun _ _ _ hp => hp)
  try simp only [Act.put, List.setIfInBounds_toArray, List.set_cons_zero, List.set_cons_succ]
  refine wpAnyH_ready (rs := [1]) (by kernel_rfl) (by simp) ?_
  refine xcons 1 rfl (fun K hK => ?_) ?_
  focus
    (first
      | (go_simp; go_at_call 99; refine (pcompare (a.parcel, a.party) (b.parcel, b.party) _).mono ?_; rintro e w3 ⟨rfl, hb4⟩; have hb3 := hd.trans ((hb1.trans (hb2.mono hb1.size)).trans (hb4.mono (Nat.le_trans hb1.size hb2.size))); dsimp only)
      | (go_simp; go_at_call 64; first | (refine (of_ok a W.drew).mono ?_; rintro e w1 ⟨rfl, hb1⟩; dsimp only) | (refine (of_ok b W.drew).mono ?_; rintro e w1 ⟨rfl, hb1⟩; dsimp only) | (refine (of_ok a w1).mono ?_; rintro e w2 ⟨rfl, hb2⟩; dsimp only) | (refine (of_ok b w1).mono ?_; rintro e w2 ⟨rfl, hb2⟩; dsimp only)))
    refine hK.out _ _ ?_ (fun hHeld1 => ?_)
    · (try dsimp only); (first
                          | exact T6 (hA.after hd) (hB.after hd)
                          | exact T6 (hA.after (hd.trans (hb1.trans (hb2.mono hb1.size)))) (hB.after (hd.trans (hb1.trans (hb2.mono hb1.size))))
                          | exact T6 (hA.after (hd.trans hb1)) (hB.after (hd.trans hb1))
                          | exact T6 (hA.after hb3) (hB.after hb3))
    clear hK K
    try simp only [Act.put, List.setIfInBounds_toArray, List.set_cons_zero, List.set_cons_succ]
    (try clear hHeld0)
    refine wpAnyH_ready (rs := [3]) (by kernel_rfl) (by simp) ?_
    refine xcons 3 rfl (fun K hK => ?_) ?_
    focus
      (first
        | (go_simp; go_at_call 99; refine (pcompare (a.parcel, a.party) (b.parcel, b.party) _).mono ?_; rintro e w3 ⟨rfl, hb4⟩; have hb3 := hd.trans ((hb1.trans (hb2.mono hb1.size)).trans (hb4.mono (Nat.le_trans hb1.size hb2.size))); dsimp only)
        | (go_simp; go_at_call 64; first | (refine (of_ok a W.drew).mono ?_; rintro e w1 ⟨rfl, hb1⟩; dsimp only) | (refine (of_ok b W.drew).mono ?_; rintro e w1 ⟨rfl, hb1⟩; dsimp only) | (refine (of_ok a w1).mono ?_; rintro e w2 ⟨rfl, hb2⟩; dsimp only) | (refine (of_ok b w1).mono ?_; rintro e w2 ⟨rfl, hb2⟩; dsimp only)))
      refine hK.out _ _ ?_ (fun hHeld2 => ?_)
      · (try dsimp only); (first
                            | exact T6 (hA.after hd) (hB.after hd)
                            | exact T6 (hA.after (hd.trans (hb1.trans (hb2.mono hb1.size)))) (hB.after (hd.trans (hb1.trans (hb2.mono hb1.size))))
                            | exact T6 (hA.after (hd.trans hb1)) (hB.after (hd.trans hb1))
                            | exact T6 (hA.after hb3) (hB.after hb3))
      clear hK K
      try simp only [Act.put, List.setIfInBounds_toArray, List.set_cons_zero, List.set_cons_succ]
      (try clear hHeld1)
      refine wpAnyH_ready (rs := [4]) (by kernel_rfl) (by simp) ?_
      refine xcons 4 rfl (fun K hK => ?_) ?_
      focus
        (first
          | (go_simp; go_at_call 99; refine (pcompare (a.parcel, a.party) (b.parcel, b.party) _).mono ?_; rintro e w3 ⟨rfl, hb4⟩; have hb3 := hd.trans ((hb1.trans (hb2.mono hb1.size)).trans (hb4.mono (Nat.le_trans hb1.size hb2.size))); dsimp only)
          | (go_simp; go_at_call 64; first | (refine (of_ok a W.drew).mono ?_; rintro e w1 ⟨rfl, hb1⟩; dsimp only) | (refine (of_ok b W.drew).mono ?_; rintro e w1 ⟨rfl, hb1⟩; dsimp only) | (refine (of_ok a w1).mono ?_; rintro e w2 ⟨rfl, hb2⟩; dsimp only) | (refine (of_ok b w1).mono ?_; rintro e w2 ⟨rfl, hb2⟩; dsimp only)))
        refine hK.out _ _ ?_ (fun hHeld3 => ?_)
        · (try dsimp only); (first
                              | exact T6 (hA.after hd) (hB.after hd)
                              | exact T6 (hA.after (hd.trans (hb1.trans (hb2.mono hb1.size)))) (hB.after (hd.trans (hb1.trans (hb2.mono hb1.size))))
                              | exact T6 (hA.after (hd.trans hb1)) (hB.after (hd.trans hb1))
                              | exact T6 (hA.after hb3) (hB.after hb3))
        clear hK K
        try simp only [Act.put, List.setIfInBounds_toArray, List.set_cons_zero, List.set_cons_succ]
        (try clear hHeld2)
        refine xtake 5 (v := ?_) rfl (by kernel_rfl) (by kernel_rfl) (by kernel_rfl) rfl ?_ ?_ (by assumption) ?_
        rotate_left
        · intro w hSw; (try dsimp only at hSw); go_simp; with_reducible rfl
        · (exact fun _ _ _ hp => hp)
        try simp only [Act.put, List.setIfInBounds_toArray, List.set_cons_zero, List.set_cons_succ]
        refine xtake 6 (v := ?_) rfl (by kernel_rfl) (by kernel_rfl) (by kernel_rfl) rfl ?_ ?_ (by assumption) ?_
        rotate_left
        · intro w hSw; (try dsimp only at hSw); go_simp; with_reducible rfl
        · (exact fun _ _ _ hp => hp)
        try simp only [Act.put, List.setIfInBounds_toArray, List.set_cons_zero, List.set_cons_succ]
        refine wpAnyH_done (by kernel_rfl) ?_ _
        (revert hHeld3; intro _)
      rotate_left 1
      exact AllReadyH.nil
    rotate_left 1
    exact AllReadyH.nil
  rotate_left 1
  exact AllReadyH.nil
  all_goals
    go_wp2
    go_ret
    exact ⟨rfl, hBe.out.trans (hb3.mono hBe.out.size)⟩

/-- a list that comes in -/
structure SIn {α : Type} (k : Nat) (enc : α → List Value) (l : List α) (n cap : Nat) (ao : Option Addr) (B : Nat) (w : World) : Prop where
  hn : n = l.length
  hm : n ≤ 100000
  hcap : n ≤ cap
  hs : SlAt k enc B w ao l
  hB : B ≤ w.heap.size
theorem SIn.below {α : Type} {k : Nat} {enc : α → List Value} {l : List α} {n cap : Nat} {ao : Option Addr} {B : Nat} {w w' : World} (h : SIn k enc l n cap ao B w) (hb : Below B w w') : SIn k enc l n cap ao B w' :=
  ⟨h.hn, h.hm, h.hcap, h.hs.below hb, Nat.le_trans h.hB hb.size⟩
theorem SIn.after {α : Type} {k : Nat} {enc : α → List Value} {l : List α} {n cap : Nat} {ao : Option Addr} {B : Nat} {w w' : World} (h : SIn k enc l n cap ao B w) (hb : Below w.heap.size w w') : SIn k enc l n cap ao B w' := h.below (hb.mono h.hB)
abbrev DIn := SIn 3 dcells
abbrev CIn := SIn 3 ccells

/-- element i is right, and greater than the one before -/
def okAt {α : Type} (ok : α → Bool) (lt : α → α → Bool) (l : List α) (i : Nat) : Bool := match l[i]? with
  | some d => ok d && (decide (i = 0) || match l[i - 1]? with
    | some p => lt p d
    | none => false)
  | none => true
/-- why a list is not right -/
def chkL {α : Type} (ok : α → Bool) (lt : α → α → Bool) (l : List α) : Int := if 400 < l.length then 2 else if (List.range l.length).all (okAt ok lt l) then 0 else 1
theorem chkL_long {α : Type} {ok : α → Bool} {lt : α → α → Bool} {l : List α} (h : 400 < l.length) : chkL ok lt l = 2 := by unfold chkL; rw [if_pos h]
theorem chkL_bad {α : Type} {ok : α → Bool} {lt : α → α → Bool} {l : List α} (h : ¬ 400 < l.length) {i : Nat} (hi : i < l.length) (hb : okAt ok lt l i = false) : chkL ok lt l = 1 := by
  unfold chkL; rw [if_neg h, if_neg]
  intro ha
  rw [List.all_eq_true] at ha
  have := ha i (List.mem_range.2 hi)
  rw [hb] at this; cases this
theorem chkL_good {α : Type} {ok : α → Bool} {lt : α → α → Bool} {l : List α} (h : ¬ 400 < l.length) (ha : ∀ i, i < l.length → okAt ok lt l i = true) : chkL ok lt l = 0 := by
  unfold chkL; rw [if_neg h, if_pos (List.all_eq_true.2 fun i hi => ha i (List.mem_range.1 hi))]

/-- one box, behind W -/
theorem T3B {M b : Nat} {W w1 w2 : World} {x y z : Int} (hM : b < M) (hW : M ≤ W.heap.size) (h : Below M W w1 ∧ w1.cell? ⟨b, 0, none⟩ = some (.int .i64 x) ∧ w1.cell? ⟨b, 1, none⟩ = some (.int .i64 y) ∧ w1.cell? ⟨b, 2, none⟩ = some (.int .i64 z)) (hb : Below w1.heap.size w1 w2) :
    Below M W w2 ∧ w2.cell? ⟨b, 0, none⟩ = some (.int .i64 x) ∧ w2.cell? ⟨b, 1, none⟩ = some (.int .i64 y) ∧ w2.cell? ⟨b, 2, none⟩ = some (.int .i64 z) := by
  have hl : b < w1.heap.size := Nat.lt_of_lt_of_le hM (Nat.le_trans hW h.1.size)
  exact ⟨h.1.trans (hb.mono (Nat.le_trans hW h.1.size)), (hb.cell (p := ⟨b, 0, none⟩) hl).trans h.2.1, (hb.cell (p := ⟨b, 1, none⟩) hl).trans h.2.2.1, (hb.cell (p := ⟨b, 2, none⟩) hl).trans h.2.2.2⟩

theorem far_cell {w : World} {a : Addr} {o : Obj} {v : Value} (h : w.cell? a = some v) : (w.alloc o).cell? a = some v := by
  rw [World.cell?_alloc_some w a o (by rw [h]; rfl)]; exact h
theorem T6B {M b b' k : Nat} {W w1 w2 : World} {x y z x' y' z' : Int} (hM : b < M) (hM' : b' < M) (hW : M ≤ W.heap.size)
    (h : (Below M W w1 ∧ w1.cell? ⟨b, 0, none⟩ = some (.int .i64 x) ∧ w1.cell? ⟨b, 1, none⟩ = some (.int .i64 y) ∧ w1.cell? ⟨b, 2, none⟩ = some (.int .i64 z)) ∧ w1.cell? ⟨b', k, none⟩ = some (.int .i64 x') ∧ w1.cell? ⟨b', k + 1, none⟩ = some (.int .i64 y') ∧ w1.cell? ⟨b', k + 2, none⟩ = some (.int .i64 z')) (hb : Below w1.heap.size w1 w2) :
    (Below M W w2 ∧ w2.cell? ⟨b, 0, none⟩ = some (.int .i64 x) ∧ w2.cell? ⟨b, 1, none⟩ = some (.int .i64 y) ∧ w2.cell? ⟨b, 2, none⟩ = some (.int .i64 z)) ∧ w2.cell? ⟨b', k, none⟩ = some (.int .i64 x') ∧ w2.cell? ⟨b', k + 1, none⟩ = some (.int .i64 y') ∧ w2.cell? ⟨b', k + 2, none⟩ = some (.int .i64 z') := by
  have hl : b' < w1.heap.size := Nat.lt_of_lt_of_le hM' (Nat.le_trans hW h.1.1.size)
  exact ⟨T3B hM hW h.1 hb, (hb.cell (p := ⟨b', k, none⟩) hl).trans h.2.1, (hb.cell (p := ⟨b', k + 1, none⟩) hl).trans h.2.2.1, (hb.cell (p := ⟨b', k + 2, none⟩) hl).trans h.2.2.2⟩
theorem okAt_succ {α : Type} {ok : α → Bool} {lt : α → α → Bool} {l : List α} {j : Nat} (h : ∀ i, i < j → okAt ok lt l i = true) (h1 : Hid (okAt ok lt l j = true)) : ∀ i, i < j + 1 → okAt ok lt l i = true := fun i hi => by
  by_cases e : i = j
  · subst e; exact h1.out
  · exact h i (by omega)

set_option maxRecDepth 100000 in
set_option maxHeartbeats 4000000 in
theorem plistedD {l : List Due} {n cap : Nat} {ao : Option Addr} {B : Nat} {w : World} (h : DIn l n cap ao B w) :
    Calls Tryz.prog 94 #[.slice ao n cap, .func (.func 95) #[] #[], .func (.func 98) #[] #[]] w (RetB (chkL okD ltD l) w) := by
  have hB := h.hB
  have hcap := h.hcap
  have hm := h.hm
  have Hn := Lib.hid h.hn
  by_cases hlong : 400 < n
  · have hc : chkL okD ltD l = 2 := chkL_long (by rw [← Hn.out]; exact hlong)
    go_enter Tryz.func94, Tryz.ntmps94
    go_wp2
    go_ret
    exact ⟨by rw [hc]; rfl, Below.refl _ _⟩
  go_enter Tryz.func94, Tryz.ntmps94
  go_wp2
  go_loopw [14] (fun i wr => ∃ j : Nat, j ≤ n ∧ i = .int .i64 j ∧ Below w.heap.size w wr ∧ Hid (∀ i, i < j → okAt okD ltD l i = true)) (fun i _ => n - (intOf i).toNat)
  case atStart => exact ⟨0, Nat.zero_le _, rfl, Below.refl _ _, fun i hi => by omega⟩
  case round =>
    obtain ⟨j, hj, rfl, hb, hok⟩ := hrel
    by_cases hlt : j < n
    · obtain ⟨d, hd⟩ := getq (l := l) (j := j) (by rw [← Hn.out]; exact hlt)
      have hs' := h.hs.below (hb.mono hB)
      obtain ⟨b, o, rfl, hb0, c0, c1, c2⟩ := hs'.due hd
      have hX := TBox.new wr d.party d.parcel d.amount 63
      have hBx : Below w.heap.size w (wr.alloc (.cells #[.int .i64 d.party, .int .i64 d.parcel, .int .i64 d.amount] 63)) := hb.alloc hb.size _
      have hd' := Lib.hid hd
      obtain ⟨v, hv⟩ : ∃ v, Hid (okD d = v) := ⟨_, rfl⟩
      clear hd
      cases v with
      | false =>
        have hbad : chkL okD ltD l = 1 := chkL_bad (by rw [← Hn.out]; omega) (i := j) (by rw [← Hn.out]; omega) (by unfold okAt; rw [hd'.out]; simp [hv.out])
        replace hbad := Lib.hid hbad
        clear hs'
        go_wp2
        refine wp_world (R := fun W => TBox W wr.heap.size d.party d.parcel d.amount ∧ Below w.heap.size w W) ⟨hX, hBx⟩ ?_
        clear c0 c1 c2 hX hBx hb
        obtain ⟨xb, hxb⟩ : ∃ xb, wr.heap.size = xb := ⟨_, rfl⟩
        rw [hxb]
        clear hxb
        rintro W ⟨hX, HB⟩
        have hXd : TBox W.drew xb d.party d.parcel d.amount := ⟨hX.lt, hX.c0, hX.c1, hX.c2⟩
        have hlX := hX.lt
        have HBW := Lib.hid HB.size
        replace HB := Lib.hid HB
        clear hX
        refine wp_region_held_drew (S := (fun w' => Below W.heap.size W w' ∧ w'.cell? ⟨xb, 0, none⟩ = some (.int .i64 d.party) ∧ w'.cell? ⟨xb, 1, none⟩ = some (.int .i64 d.parcel) ∧ w'.cell? ⟨xb, 2, none⟩ = some (.int .i64 d.amount))) (by kernel_rfl) ?_ (fun hHeld0 => ?_)
        · (try dsimp only); (first
                              | exact ⟨(Below.refl _ _).drew, hXd.c0, hXd.c1, hXd.c2⟩
                              | exact T3B hlX (Nat.le_refl _) (by assumption) hb1)
        refine xtake 0 (v := ?_) rfl (by kernel_rfl) (by kernel_rfl) (by kernel_rfl) rfl ?_ ?_ (by assumption) ?_
        rotate_left
        · intro w hSw; (try dsimp only at hSw); go_simp; with_reducible rfl
        · (exact fun _ _ _ hp => hp)
        try simp only [Act.put, List.setIfInBounds_toArray, List.set_cons_zero, List.set_cons_succ]
        refine xtake 1 (v := ?_) rfl (by kernel_rfl) (by kernel_rfl) (by kernel_rfl) rfl ?_ ?_ (by assumption) ?_
        rotate_left
        · intro w hSw; (try dsimp only at hSw); go_simp; with_reducible rfl
        · (exact fun _ _ _ hp => hp)
        try simp only [Act.put, List.setIfInBounds_toArray, List.set_cons_zero, List.set_cons_succ]
        refine wpAnyH_ready (rs := [2]) (by kernel_rfl) (by simp) ?_
        refine xcons 2 rfl (fun K hK => ?_) ?_
        focus
          (first
            | (go_simp; go_at_call 95; refine (pDue1 d _).mono ?_; rintro e w2 ⟨rfl, hb1⟩; rw [hv.out]; dsimp only))
          refine hK.out _ _ ?_ (fun hHeld1 => ?_)
          · (try dsimp only); (first
                                | exact ⟨(Below.refl _ _).drew, hXd.c0, hXd.c1, hXd.c2⟩
                                | exact T3B hlX (Nat.le_refl _) (by assumption) hb1)
          clear hK K
          try simp only [Act.put, List.setIfInBounds_toArray, List.set_cons_zero, List.set_cons_succ]
          (try clear hHeld0)
          refine xtake 3 (v := ?_) rfl (by kernel_rfl) (by kernel_rfl) (by kernel_rfl) rfl ?_ ?_ (by assumption) ?_
          rotate_left
          · intro w hSw; (try dsimp only at hSw); go_simp; with_reducible rfl
          · (exact fun _ _ _ hp => hp)
          try simp only [Act.put, List.setIfInBounds_toArray, List.set_cons_zero, List.set_cons_succ]
          refine xtake 4 (v := ?_) rfl (by kernel_rfl) (by kernel_rfl) (by kernel_rfl) rfl ?_ ?_ (by assumption) ?_
          rotate_left
          · intro w hSw; (try dsimp only at hSw); go_simp; with_reducible rfl
          · (exact fun _ _ _ hp => hp)
          try simp only [Act.put, List.setIfInBounds_toArray, List.set_cons_zero, List.set_cons_succ]
          refine xskip 5 rfl (by kernel_rfl) (by kernel_rfl) (by kernel_rfl) ?_ rfl (by assumption) ?_
          · (exact fun _ _ _ hp => hp)
          try simp only [Act.put, List.setIfInBounds_toArray, List.set_cons_zero, List.set_cons_succ]
          refine xskip 6 rfl (by kernel_rfl) (by kernel_rfl) (by kernel_rfl) ?_ rfl (by assumption) ?_
          · (exact fun _ _ _ hp => hp)
          try simp only [Act.put, List.setIfInBounds_toArray, List.set_cons_zero, List.set_cons_succ]
          refine xskip 7 rfl (by kernel_rfl) (by kernel_rfl) (by kernel_rfl) ?_ rfl (by assumption) ?_
          · (exact fun _ _ _ hp => hp)
          try simp only [Act.put, List.setIfInBounds_toArray, List.set_cons_zero, List.set_cons_succ]
          refine xskip 8 rfl (by kernel_rfl) (by kernel_rfl) (by kernel_rfl) ?_ rfl (by assumption) ?_
          · (exact fun _ _ _ hp => hp)
          try simp only [Act.put, List.setIfInBounds_toArray, List.set_cons_zero, List.set_cons_succ]
          refine xskip 9 rfl (by kernel_rfl) (by kernel_rfl) (by kernel_rfl) ?_ rfl (by assumption) ?_
          · (exact fun _ _ _ hp => hp)
          try simp only [Act.put, List.setIfInBounds_toArray, List.set_cons_zero, List.set_cons_succ]
          refine xskip 10 rfl (by kernel_rfl) (by kernel_rfl) (by kernel_rfl) ?_ rfl (by assumption) ?_
          · (exact fun _ _ _ hp => hp)
          try simp only [Act.put, List.setIfInBounds_toArray, List.set_cons_zero, List.set_cons_succ]
          refine xskip 11 rfl (by kernel_rfl) (by kernel_rfl) (by kernel_rfl) ?_ rfl (by assumption) ?_
          · (exact fun _ _ _ hp => hp)
          try simp only [Act.put, List.setIfInBounds_toArray, List.set_cons_zero, List.set_cons_succ]
          refine xskip 12 rfl (by kernel_rfl) (by kernel_rfl) (by kernel_rfl) ?_ rfl (by assumption) ?_
          · (exact fun _ _ _ hp => hp)
          try simp only [Act.put, List.setIfInBounds_toArray, List.set_cons_zero, List.set_cons_succ]
          refine xskip 13 rfl (by kernel_rfl) (by kernel_rfl) (by kernel_rfl) ?_ rfl (by assumption) ?_
          · (exact fun _ _ _ hp => hp)
          try simp only [Act.put, List.setIfInBounds_toArray, List.set_cons_zero, List.set_cons_succ]
          refine xskip 14 rfl (by kernel_rfl) (by kernel_rfl) (by kernel_rfl) ?_ rfl (by assumption) ?_
          · (exact fun _ _ _ hp => hp)
          try simp only [Act.put, List.setIfInBounds_toArray, List.set_cons_zero, List.set_cons_succ]
          refine xskip 15 rfl (by kernel_rfl) (by kernel_rfl) (by kernel_rfl) ?_ rfl (by assumption) ?_
          · (exact fun _ _ _ hp => hp)
          try simp only [Act.put, List.setIfInBounds_toArray, List.set_cons_zero, List.set_cons_succ]
          refine xskip 16 rfl (by kernel_rfl) (by kernel_rfl) (by kernel_rfl) ?_ rfl (by assumption) ?_
          · (exact fun _ _ _ hp => hp)
          try simp only [Act.put, List.setIfInBounds_toArray, List.set_cons_zero, List.set_cons_succ]
          refine xskip 17 rfl (by kernel_rfl) (by kernel_rfl) (by kernel_rfl) ?_ rfl (by assumption) ?_
          · (exact fun _ _ _ hp => hp)
          try simp only [Act.put, List.setIfInBounds_toArray, List.set_cons_zero, List.set_cons_succ]
          refine xtake 18 (v := ?_) rfl (by kernel_rfl) (by kernel_rfl) (by kernel_rfl) rfl ?_ ?_ (by assumption) ?_
          rotate_left
          · intro w hSw; (try dsimp only at hSw); go_simp; with_reducible rfl
          · (exact fun _ _ _ hp => hp)
          try simp only [Act.put, List.setIfInBounds_toArray, List.set_cons_zero, List.set_cons_succ]
          refine wpAnyH_done (by kernel_rfl) ?_ _
          (revert hHeld1; intro _)
        rotate_left 1
        exact AllReadyH.nil
        rename_i hS
        have hWw := hS.1
        clear hS hb1
        go_wp2
        go_ret
        exact ⟨by rw [hbad.out]; rfl, HB.out.trans (hWw.mono HBW.out)⟩
      | true =>
        rcases Nat.eq_zero_or_pos j with hj0 | hj0
        · have hok1 : okAt okD ltD l j = true := by unfold okAt; rw [hd'.out]; simp [hv.out, hj0]
          replace hok1 := Lib.hid hok1
          have hz : decide (0 < j) = false := by simp; omega
          replace hj0 := Lib.hid hj0
          clear hs'
          go_wp2
          refine wp_world (R := fun W => TBox W wr.heap.size d.party d.parcel d.amount ∧ Below w.heap.size w W) ⟨hX, hBx⟩ ?_
          clear c0 c1 c2 hX hBx hb
          obtain ⟨xb, hxb⟩ : ∃ xb, wr.heap.size = xb := ⟨_, rfl⟩
          rw [hxb]
          clear hxb
          rintro W ⟨hX, HB⟩
          have hXd : TBox W.drew xb d.party d.parcel d.amount := ⟨hX.lt, hX.c0, hX.c1, hX.c2⟩
          have hlX := hX.lt
          have HBW := Lib.hid HB.size
          replace HB := Lib.hid HB
          clear hX
          refine wp_region_held_drew (S := (fun w' => Below W.heap.size W w' ∧ w'.cell? ⟨xb, 0, none⟩ = some (.int .i64 d.party) ∧ w'.cell? ⟨xb, 1, none⟩ = some (.int .i64 d.parcel) ∧ w'.cell? ⟨xb, 2, none⟩ = some (.int .i64 d.amount))) (by kernel_rfl) ?_ (fun hHeld0 => ?_)
          · (try dsimp only); (first
                                | exact ⟨(Below.refl _ _).drew, hXd.c0, hXd.c1, hXd.c2⟩
                                | exact T3B hlX (Nat.le_refl _) (by assumption) hb1)
          refine xtake 0 (v := ?_) rfl (by kernel_rfl) (by kernel_rfl) (by kernel_rfl) rfl ?_ ?_ (by assumption) ?_
          rotate_left
          · intro w hSw; (try dsimp only at hSw); go_simp; with_reducible rfl
          · (exact fun _ _ _ hp => hp)
          try simp only [Act.put, List.setIfInBounds_toArray, List.set_cons_zero, List.set_cons_succ]
          refine xtake 1 (v := ?_) rfl (by kernel_rfl) (by kernel_rfl) (by kernel_rfl) rfl ?_ ?_ (by assumption) ?_
          rotate_left
          · intro w hSw; (try dsimp only at hSw); go_simp; with_reducible rfl
          · (exact fun _ _ _ hp => hp)
          try simp only [Act.put, List.setIfInBounds_toArray, List.set_cons_zero, List.set_cons_succ]
          refine wpAnyH_ready (rs := [2]) (by kernel_rfl) (by simp) ?_
          refine xcons 2 rfl (fun K hK => ?_) ?_
          focus
            (first
              | (go_simp; go_at_call 95; refine (pDue1 d _).mono ?_; rintro e w2 ⟨rfl, hb1⟩; rw [hv.out]; dsimp only))
            refine hK.out _ _ ?_ (fun hHeld1 => ?_)
            · (try dsimp only); (first
                                  | exact ⟨(Below.refl _ _).drew, hXd.c0, hXd.c1, hXd.c2⟩
                                  | exact T3B hlX (Nat.le_refl _) (by assumption) hb1)
            clear hK K
            try simp only [Act.put, List.setIfInBounds_toArray, List.set_cons_zero, List.set_cons_succ]
            (try clear hHeld0)
            refine xtake 3 (v := ?_) rfl (by kernel_rfl) (by kernel_rfl) (by kernel_rfl) rfl ?_ ?_ (by assumption) ?_
            rotate_left
            · intro w hSw; (try dsimp only at hSw); go_simp; with_reducible rfl
            · (exact fun _ _ _ hp => hp)
            try simp only [Act.put, List.setIfInBounds_toArray, List.set_cons_zero, List.set_cons_succ]
            refine xtake 4 (v := ?_) rfl (by kernel_rfl) (by kernel_rfl) (by kernel_rfl) rfl ?_ ?_ (by assumption) ?_
            rotate_left
            · intro w hSw; (try dsimp only at hSw); go_simp; with_reducible rfl
            · (exact fun _ _ _ hp => hp)
            try simp only [Act.put, List.setIfInBounds_toArray, List.set_cons_zero, List.set_cons_succ]
            refine xtake 5 (v := ?_) rfl (by kernel_rfl) (by kernel_rfl) (by kernel_rfl) rfl ?_ ?_ (by assumption) ?_
            rotate_left
            · intro w hSw; (try dsimp only at hSw); go_simp; with_reducible rfl
            · (exact fun _ _ _ hp => hp)
            try simp only [Act.put, List.setIfInBounds_toArray, List.set_cons_zero, List.set_cons_succ]
            refine xtake 6 (v := ?_) rfl (by kernel_rfl) (by kernel_rfl) (by kernel_rfl) rfl ?_ ?_ (by assumption) ?_
            rotate_left
            · intro w hSw; (try dsimp only at hSw); go_simp; with_reducible rfl
            · (exact fun _ _ _ hp => hp)
            try simp only [Act.put, List.setIfInBounds_toArray, List.set_cons_zero, List.set_cons_succ]
            refine xtake 7 (v := ?_) rfl (by kernel_rfl) (by kernel_rfl) (by kernel_rfl) rfl ?_ ?_ (by assumption) ?_
            rotate_left
            · intro w hSw; (try dsimp only at hSw); go_simp; with_reducible rfl
            · (exact fun _ _ _ hp => hp)
            try simp only [Act.put, List.setIfInBounds_toArray, List.set_cons_zero, List.set_cons_succ]
            refine xskip 8 rfl (by kernel_rfl) (by kernel_rfl) (by kernel_rfl) ?_ rfl (by assumption) ?_
            · (exact fun _ _ _ hp => hp)
            try simp only [Act.put, List.setIfInBounds_toArray, List.set_cons_zero, List.set_cons_succ]
            refine xskip 9 rfl (by kernel_rfl) (by kernel_rfl) (by kernel_rfl) ?_ rfl (by assumption) ?_
            · (exact fun _ _ _ hp => hp)
            try simp only [Act.put, List.setIfInBounds_toArray, List.set_cons_zero, List.set_cons_succ]
            refine xskip 10 rfl (by kernel_rfl) (by kernel_rfl) (by kernel_rfl) ?_ rfl (by assumption) ?_
            · (exact fun _ _ _ hp => hp)
            try simp only [Act.put, List.setIfInBounds_toArray, List.set_cons_zero, List.set_cons_succ]
            refine xskip 11 rfl (by kernel_rfl) (by kernel_rfl) (by kernel_rfl) ?_ rfl (by assumption) ?_
            · (exact fun _ _ _ hp => hp)
            try simp only [Act.put, List.setIfInBounds_toArray, List.set_cons_zero, List.set_cons_succ]
            refine xskip 12 rfl (by kernel_rfl) (by kernel_rfl) (by kernel_rfl) ?_ rfl (by assumption) ?_
            · (exact fun _ _ _ hp => hp)
            try simp only [Act.put, List.setIfInBounds_toArray, List.set_cons_zero, List.set_cons_succ]
            refine xskip 13 rfl (by kernel_rfl) (by kernel_rfl) (by kernel_rfl) ?_ rfl (by assumption) ?_
            · (exact fun _ _ _ hp => hp)
            try simp only [Act.put, List.setIfInBounds_toArray, List.set_cons_zero, List.set_cons_succ]
            refine xskip 14 rfl (by kernel_rfl) (by kernel_rfl) (by kernel_rfl) ?_ rfl (by assumption) ?_
            · (exact fun _ _ _ hp => hp)
            try simp only [Act.put, List.setIfInBounds_toArray, List.set_cons_zero, List.set_cons_succ]
            refine xskip 15 rfl (by kernel_rfl) (by kernel_rfl) (by kernel_rfl) ?_ rfl (by assumption) ?_
            · (exact fun _ _ _ hp => hp)
            try simp only [Act.put, List.setIfInBounds_toArray, List.set_cons_zero, List.set_cons_succ]
            refine xskip 16 rfl (by kernel_rfl) (by kernel_rfl) (by kernel_rfl) ?_ rfl (by assumption) ?_
            · (exact fun _ _ _ hp => hp)
            try simp only [Act.put, List.setIfInBounds_toArray, List.set_cons_zero, List.set_cons_succ]
            refine xtake 17 (v := ?_) rfl (by kernel_rfl) (by kernel_rfl) (by kernel_rfl) rfl ?_ ?_ (by assumption) ?_
            rotate_left
            · intro w hSw; (try dsimp only at hSw); go_simp; with_reducible rfl
            · (exact fun _ _ _ hp => hp)
            try simp only [Act.put, List.setIfInBounds_toArray, List.set_cons_zero, List.set_cons_succ]
            refine xtake 18 (v := ?_) rfl (by kernel_rfl) (by kernel_rfl) (by kernel_rfl) rfl ?_ ?_ (by assumption) ?_
            rotate_left
            · intro w hSw; (try dsimp only at hSw); go_simp; with_reducible rfl
            · (exact fun _ _ _ hp => hp)
            try simp only [Act.put, List.setIfInBounds_toArray, List.set_cons_zero, List.set_cons_succ]
            refine wpAnyH_done (by kernel_rfl) ?_ _
            (revert hHeld1; intro _)
          rotate_left 1
          exact AllReadyH.nil
          rename_i hS
          have hWw := hS.1
          clear hS hb1
          go_wp2
          go_roundw
          case rel => exact ⟨_, by omega, by go_num, HB.out.trans (hWw.mono HBW.out), Lib.hid (okAt_succ hok.out hok1)⟩
          case measure => simp [intOf]; omega
        · obtain ⟨i, rfl⟩ : ∃ i, j = i + 1 := ⟨j - 1, by omega⟩
          obtain ⟨p, hp⟩ := getq (l := l) (j := i) (by rw [← Hn.out]; omega)
          obtain ⟨b', o', heq, _, e0, e1, e2⟩ := hs'.due hp
          cases heq
          have hp' := Lib.hid hp
          obtain ⟨u, hu⟩ : ∃ u, Hid (ltD p d = u) := ⟨_, rfl⟩
          have hwr : IntKind.i64.wrap (i : Int) = i := IntWalk.i64_in _ (by omega)
          have hok1 : okAt okD ltD l (i + 1) = u := by unfold okAt; rw [hd'.out]; simp [hv.out, hp, hu.out]
          replace hok1 := Lib.hid hok1
          clear hp hs'
          have hbB : b < w.heap.size := by omega
          cases u with
          | false =>
            have hbad : chkL okD ltD l = 1 := chkL_bad (by rw [← Hn.out]; omega) (i := i + 1) (by rw [← Hn.out]; omega) hok1.out
            replace hbad := Lib.hid hbad
            go_wp2
            refine wp_world (R := fun W => (TBox W wr.heap.size d.party d.parcel d.amount ∧ Below w.heap.size w W) ∧ W.cell? ⟨b, o + i * 3, none⟩ = some (.int .i64 p.party) ∧ W.cell? ⟨b, o + i * 3 + 1, none⟩ = some (.int .i64 p.parcel) ∧ W.cell? ⟨b, o + i * 3 + 2, none⟩ = some (.int .i64 p.amount)) ⟨⟨hX, hBx⟩, far_cell e0, far_cell e1, far_cell e2⟩ ?_
            clear c0 c1 c2 hX hBx hb e0 e1 e2
            obtain ⟨xb, hxb⟩ : ∃ xb, wr.heap.size = xb := ⟨_, rfl⟩
            rw [hxb]
            clear hxb
            rintro W ⟨⟨hX, HB⟩, e0, e1, e2⟩
            have hXd : TBox W.drew xb d.party d.parcel d.amount := ⟨hX.lt, hX.c0, hX.c1, hX.c2⟩
            have hlX := hX.lt
            have HBW := Lib.hid HB.size
            have hbW : b < W.heap.size := Nat.lt_of_lt_of_le hbB HB.size
            replace HB := Lib.hid HB
            have i0 : (0 : Int) ≤ (i : Int) := by omega
            have i1 : (i : Int) < (n : Int) := by omega
            clear hX
            refine wp_region_held_drew (S := (fun w' => (Below W.heap.size W w' ∧ w'.cell? ⟨xb, 0, none⟩ = some (.int .i64 d.party) ∧ w'.cell? ⟨xb, 1, none⟩ = some (.int .i64 d.parcel) ∧ w'.cell? ⟨xb, 2, none⟩ = some (.int .i64 d.amount)) ∧
                                          w'.cell? ⟨b, o + i * 3, none⟩ = some (.int .i64 p.party) ∧ w'.cell? ⟨b, o + i * 3 + 1, none⟩ = some (.int .i64 p.parcel) ∧ w'.cell? ⟨b, o + i * 3 + 2, none⟩ = some (.int .i64 p.amount))) (by kernel_rfl) ?_ (fun hHeld0 => ?_)
            · (try dsimp only); (first
                                  | exact ⟨⟨(Below.refl _ _).drew, hXd.c0, hXd.c1, hXd.c2⟩, e0, e1, e2⟩
                                  | exact T6B hlX hbW (Nat.le_refl _) (by assumption) hb1)
            refine xtake 0 (v := ?_) rfl (by kernel_rfl) (by kernel_rfl) (by kernel_rfl) rfl ?_ ?_ (by assumption) ?_
            rotate_left
            · intro w hSw; (try dsimp only at hSw); go_simp; with_reducible rfl
            · (exact fun _ _ _ hp => hp)
            try simp only [Act.put, List.setIfInBounds_toArray, List.set_cons_zero, List.set_cons_succ]
            refine xtake 1 (v := ?_) rfl (by kernel_rfl) (by kernel_rfl) (by kernel_rfl) rfl ?_ ?_ (by assumption) ?_
            rotate_left
            · intro w hSw; (try dsimp only at hSw); go_simp; with_reducible rfl
            · (exact fun _ _ _ hp => hp)
            try simp only [Act.put, List.setIfInBounds_toArray, List.set_cons_zero, List.set_cons_succ]
            refine wpAnyH_ready (rs := [2]) (by kernel_rfl) (by simp) ?_
            refine xcons 2 rfl (fun K hK => ?_) ?_
            focus
              (first
                | (go_simp; go_at_call 95; refine (pDue1 d _).mono ?_; rintro e w2 ⟨rfl, hb1⟩; rw [hv.out]; dsimp only)
                | (go_simp; go_at_call 98; refine (pDue2 p d _).mono ?_; rintro e w2 ⟨rfl, hb1⟩; rw [hu.out]; dsimp only))
              refine hK.out _ _ ?_ (fun hHeld1 => ?_)
              · (try dsimp only); (first
                                    | exact ⟨⟨(Below.refl _ _).drew, hXd.c0, hXd.c1, hXd.c2⟩, e0, e1, e2⟩
                                    | exact T6B hlX hbW (Nat.le_refl _) (by assumption) hb1)
              clear hK K
              try simp only [Act.put, List.setIfInBounds_toArray, List.set_cons_zero, List.set_cons_succ]
              (try clear hHeld0)
              refine xtake 3 (v := ?_) rfl (by kernel_rfl) (by kernel_rfl) (by kernel_rfl) rfl ?_ ?_ (by assumption) ?_
              rotate_left
              · intro w hSw; (try dsimp only at hSw); go_simp; with_reducible rfl
              · (exact fun _ _ _ hp => hp)
              try simp only [Act.put, List.setIfInBounds_toArray, List.set_cons_zero, List.set_cons_succ]
              refine xtake 4 (v := ?_) rfl (by kernel_rfl) (by kernel_rfl) (by kernel_rfl) rfl ?_ ?_ (by assumption) ?_
              rotate_left
              · intro w hSw; (try dsimp only at hSw); go_simp; with_reducible rfl
              · (exact fun _ _ _ hp => hp)
              try simp only [Act.put, List.setIfInBounds_toArray, List.set_cons_zero, List.set_cons_succ]
              refine xtake 5 (v := ?_) rfl (by kernel_rfl) (by kernel_rfl) (by kernel_rfl) rfl ?_ ?_ (by assumption) ?_
              rotate_left
              · intro w hSw; (try dsimp only at hSw); go_simp; with_reducible rfl
              · (exact fun _ _ _ hp => hp)
              try simp only [Act.put, List.setIfInBounds_toArray, List.set_cons_zero, List.set_cons_succ]
              refine xtake 6 (v := ?_) rfl (by kernel_rfl) (by kernel_rfl) (by kernel_rfl) rfl ?_ ?_ (by assumption) ?_
              rotate_left
              · intro w hSw; (try dsimp only at hSw); go_simp; with_reducible rfl
              · (exact fun _ _ _ hp => hp)
              try simp only [Act.put, List.setIfInBounds_toArray, List.set_cons_zero, List.set_cons_succ]
              refine xtake 7 (v := ?_) rfl (by kernel_rfl) (by kernel_rfl) (by kernel_rfl) rfl ?_ ?_ (by assumption) ?_
              rotate_left
              · intro w hSw; (try dsimp only at hSw); go_simp; with_reducible rfl
              · (exact fun _ _ _ hp => hp)
              try simp only [Act.put, List.setIfInBounds_toArray, List.set_cons_zero, List.set_cons_succ]
              refine xtake 8 (v := ?_) rfl (by kernel_rfl) (by kernel_rfl) (by kernel_rfl) rfl ?_ ?_ (by assumption) ?_
              rotate_left
              · intro w hSw; (try dsimp only at hSw); go_simp; with_reducible rfl
              · (exact fun _ _ _ hp => hp)
              try simp only [Act.put, List.setIfInBounds_toArray, List.set_cons_zero, List.set_cons_succ]
              refine xtake 9 (v := ?_) rfl (by kernel_rfl) (by kernel_rfl) (by kernel_rfl) rfl ?_ ?_ (by assumption) ?_
              rotate_left
              · intro w hSw; (try dsimp only at hSw); go_simp; with_reducible rfl
              · (exact fun _ _ _ hp => hp)
              try simp only [Act.put, List.setIfInBounds_toArray, List.set_cons_zero, List.set_cons_succ]
              refine xtake 10 (v := ?_) rfl (by kernel_rfl) (by kernel_rfl) (by kernel_rfl) rfl ?_ ?_ (by assumption) ?_
              rotate_left
              · intro w hSw; (try dsimp only at hSw); go_simp; with_reducible rfl
              · (exact fun _ _ _ hp => hp)
              try simp only [Act.put, List.setIfInBounds_toArray, List.set_cons_zero, List.set_cons_succ]
              refine xtake 11 (v := ?_) rfl (by kernel_rfl) (by kernel_rfl) (by kernel_rfl) rfl ?_ ?_ (by assumption) ?_
              rotate_left
              · intro w hSw; (try dsimp only at hSw); go_simp; with_reducible rfl
              · (exact fun _ _ _ hp => hp)
              try simp only [Act.put, List.setIfInBounds_toArray, List.set_cons_zero, List.set_cons_succ]
              refine xtake 12 (v := ?_) rfl (by kernel_rfl) (by kernel_rfl) (by kernel_rfl) rfl ?_ ?_ (by assumption) ?_
              rotate_left
              · intro w hSw; (try dsimp only at hSw); go_simp; with_reducible rfl
              · (exact fun _ _ _ hp => hp)
              try simp only [Act.put, List.setIfInBounds_toArray, List.set_cons_zero, List.set_cons_succ]
              refine xtake 13 (v := ?_) rfl (by kernel_rfl) (by kernel_rfl) (by kernel_rfl) rfl ?_ ?_ (by assumption) ?_
              rotate_left
              · intro w hSw; (try dsimp only at hSw); go_simp; with_reducible rfl
              · (exact fun _ _ _ hp => hp)
              try simp only [Act.put, List.setIfInBounds_toArray, List.set_cons_zero, List.set_cons_succ]
              refine xtake 14 (v := ?_) rfl (by kernel_rfl) (by kernel_rfl) (by kernel_rfl) rfl ?_ ?_ (by assumption) ?_
              rotate_left
              · intro w hSw; (try dsimp only at hSw); go_simp; with_reducible rfl
              · (exact fun _ _ _ hp => hp)
              try simp only [Act.put, List.setIfInBounds_toArray, List.set_cons_zero, List.set_cons_succ]
              refine wpAnyH_ready (rs := [15]) (by kernel_rfl) (by simp) ?_
              refine xcons 15 rfl (fun K hK => ?_) ?_
              focus
                (first
                  | (go_simp; go_at_call 95; refine (pDue1 d _).mono ?_; rintro e w2 ⟨rfl, hb1⟩; rw [hv.out]; dsimp only)
                  | (go_simp; go_at_call 98; refine (pDue2 p d _).mono ?_; rintro e w2 ⟨rfl, hb1⟩; rw [hu.out]; dsimp only))
                refine hK.out _ _ ?_ (fun hHeld2 => ?_)
                · (try dsimp only); (first
                                      | exact ⟨⟨(Below.refl _ _).drew, hXd.c0, hXd.c1, hXd.c2⟩, e0, e1, e2⟩
                                      | exact T6B hlX hbW (Nat.le_refl _) (by assumption) hb1)
                clear hK K
                try simp only [Act.put, List.setIfInBounds_toArray, List.set_cons_zero, List.set_cons_succ]
                (try clear hHeld1)
                refine xtake 16 (v := ?_) rfl (by kernel_rfl) (by kernel_rfl) (by kernel_rfl) rfl ?_ ?_ (by assumption) ?_
                rotate_left
                · intro w hSw; (try dsimp only at hSw); go_simp; with_reducible rfl
                · (exact fun _ _ _ hp => hp)
                try simp only [Act.put, List.setIfInBounds_toArray, List.set_cons_zero, List.set_cons_succ]
                refine xtake 17 (v := ?_) rfl (by kernel_rfl) (by kernel_rfl) (by kernel_rfl) rfl ?_ ?_ (by assumption) ?_
                rotate_left
                · intro w hSw; (try dsimp only at hSw); go_simp; with_reducible rfl
                · (exact fun _ _ _ hp => hp)
                try simp only [Act.put, List.setIfInBounds_toArray, List.set_cons_zero, List.set_cons_succ]
                refine xtake 18 (v := ?_) rfl (by kernel_rfl) (by kernel_rfl) (by kernel_rfl) rfl ?_ ?_ (by assumption) ?_
                rotate_left
                · intro w hSw; (try dsimp only at hSw); go_simp; with_reducible rfl
                · (exact fun _ _ _ hp => hp)
                try simp only [Act.put, List.setIfInBounds_toArray, List.set_cons_zero, List.set_cons_succ]
                refine wpAnyH_done (by kernel_rfl) ?_ _
                (revert hHeld2; intro _)
              rotate_left 1
              exact AllReadyH.nil
            rotate_left 1
            exact AllReadyH.nil
            rename_i hS
            have hWw := hS.1.1
            clear hS hb1
            go_wp2
            go_ret
            exact ⟨by rw [hbad.out]; rfl, HB.out.trans (hWw.mono HBW.out)⟩
          | true =>
            go_wp2
            refine wp_world (R := fun W => (TBox W wr.heap.size d.party d.parcel d.amount ∧ Below w.heap.size w W) ∧ W.cell? ⟨b, o + i * 3, none⟩ = some (.int .i64 p.party) ∧ W.cell? ⟨b, o + i * 3 + 1, none⟩ = some (.int .i64 p.parcel) ∧ W.cell? ⟨b, o + i * 3 + 2, none⟩ = some (.int .i64 p.amount)) ⟨⟨hX, hBx⟩, far_cell e0, far_cell e1, far_cell e2⟩ ?_
            clear c0 c1 c2 hX hBx hb e0 e1 e2
            obtain ⟨xb, hxb⟩ : ∃ xb, wr.heap.size = xb := ⟨_, rfl⟩
            rw [hxb]
            clear hxb
            rintro W ⟨⟨hX, HB⟩, e0, e1, e2⟩
            have hXd : TBox W.drew xb d.party d.parcel d.amount := ⟨hX.lt, hX.c0, hX.c1, hX.c2⟩
            have hlX := hX.lt
            have HBW := Lib.hid HB.size
            have hbW : b < W.heap.size := Nat.lt_of_lt_of_le hbB HB.size
            replace HB := Lib.hid HB
            have i0 : (0 : Int) ≤ (i : Int) := by omega
            have i1 : (i : Int) < (n : Int) := by omega
            clear hX
            refine wp_region_held_drew (S := (fun w' => (Below W.heap.size W w' ∧ w'.cell? ⟨xb, 0, none⟩ = some (.int .i64 d.party) ∧ w'.cell? ⟨xb, 1, none⟩ = some (.int .i64 d.parcel) ∧ w'.cell? ⟨xb, 2, none⟩ = some (.int .i64 d.amount)) ∧
                                          w'.cell? ⟨b, o + i * 3, none⟩ = some (.int .i64 p.party) ∧ w'.cell? ⟨b, o + i * 3 + 1, none⟩ = some (.int .i64 p.parcel) ∧ w'.cell? ⟨b, o + i * 3 + 2, none⟩ = some (.int .i64 p.amount))) (by kernel_rfl) ?_ (fun hHeld0 => ?_)
            · (try dsimp only); (first
                                  | exact ⟨⟨(Below.refl _ _).drew, hXd.c0, hXd.c1, hXd.c2⟩, e0, e1, e2⟩
                                  | exact T6B hlX hbW (Nat.le_refl _) (by assumption) hb1)
            refine xtake 0 (v := ?_) rfl (by kernel_rfl) (by kernel_rfl) (by kernel_rfl) rfl ?_ ?_ (by assumption) ?_
            rotate_left
            · intro w hSw; (try dsimp only at hSw); go_simp; with_reducible rfl
            · (exact fun _ _ _ hp => hp)
            try simp only [Act.put, List.setIfInBounds_toArray, List.set_cons_zero, List.set_cons_succ]
            refine xtake 1 (v := ?_) rfl (by kernel_rfl) (by kernel_rfl) (by kernel_rfl) rfl ?_ ?_ (by assumption) ?_
            rotate_left
            · intro w hSw; (try dsimp only at hSw); go_simp; with_reducible rfl
            · (exact fun _ _ _ hp => hp)
            try simp only [Act.put, List.setIfInBounds_toArray, List.set_cons_zero, List.set_cons_succ]
            refine wpAnyH_ready (rs := [2]) (by kernel_rfl) (by simp) ?_
            refine xcons 2 rfl (fun K hK => ?_) ?_
            focus
              (first
                | (go_simp; go_at_call 95; refine (pDue1 d _).mono ?_; rintro e w2 ⟨rfl, hb1⟩; rw [hv.out]; dsimp only)
                | (go_simp; go_at_call 98; refine (pDue2 p d _).mono ?_; rintro e w2 ⟨rfl, hb1⟩; rw [hu.out]; dsimp only))
              refine hK.out _ _ ?_ (fun hHeld1 => ?_)
              · (try dsimp only); (first
                                    | exact ⟨⟨(Below.refl _ _).drew, hXd.c0, hXd.c1, hXd.c2⟩, e0, e1, e2⟩
                                    | exact T6B hlX hbW (Nat.le_refl _) (by assumption) hb1)
              clear hK K
              try simp only [Act.put, List.setIfInBounds_toArray, List.set_cons_zero, List.set_cons_succ]
              (try clear hHeld0)
              refine xtake 3 (v := ?_) rfl (by kernel_rfl) (by kernel_rfl) (by kernel_rfl) rfl ?_ ?_ (by assumption) ?_
              rotate_left
              · intro w hSw; (try dsimp only at hSw); go_simp; with_reducible rfl
              · (exact fun _ _ _ hp => hp)
              try simp only [Act.put, List.setIfInBounds_toArray, List.set_cons_zero, List.set_cons_succ]
              refine xtake 4 (v := ?_) rfl (by kernel_rfl) (by kernel_rfl) (by kernel_rfl) rfl ?_ ?_ (by assumption) ?_
              rotate_left
              · intro w hSw; (try dsimp only at hSw); go_simp; with_reducible rfl
              · (exact fun _ _ _ hp => hp)
              try simp only [Act.put, List.setIfInBounds_toArray, List.set_cons_zero, List.set_cons_succ]
              refine xtake 5 (v := ?_) rfl (by kernel_rfl) (by kernel_rfl) (by kernel_rfl) rfl ?_ ?_ (by assumption) ?_
              rotate_left
              · intro w hSw; (try dsimp only at hSw); go_simp; with_reducible rfl
              · (exact fun _ _ _ hp => hp)
              try simp only [Act.put, List.setIfInBounds_toArray, List.set_cons_zero, List.set_cons_succ]
              refine xtake 6 (v := ?_) rfl (by kernel_rfl) (by kernel_rfl) (by kernel_rfl) rfl ?_ ?_ (by assumption) ?_
              rotate_left
              · intro w hSw; (try dsimp only at hSw); go_simp; with_reducible rfl
              · (exact fun _ _ _ hp => hp)
              try simp only [Act.put, List.setIfInBounds_toArray, List.set_cons_zero, List.set_cons_succ]
              refine xtake 7 (v := ?_) rfl (by kernel_rfl) (by kernel_rfl) (by kernel_rfl) rfl ?_ ?_ (by assumption) ?_
              rotate_left
              · intro w hSw; (try dsimp only at hSw); go_simp; with_reducible rfl
              · (exact fun _ _ _ hp => hp)
              try simp only [Act.put, List.setIfInBounds_toArray, List.set_cons_zero, List.set_cons_succ]
              refine xtake 8 (v := ?_) rfl (by kernel_rfl) (by kernel_rfl) (by kernel_rfl) rfl ?_ ?_ (by assumption) ?_
              rotate_left
              · intro w hSw; (try dsimp only at hSw); go_simp; with_reducible rfl
              · (exact fun _ _ _ hp => hp)
              try simp only [Act.put, List.setIfInBounds_toArray, List.set_cons_zero, List.set_cons_succ]
              refine xtake 9 (v := ?_) rfl (by kernel_rfl) (by kernel_rfl) (by kernel_rfl) rfl ?_ ?_ (by assumption) ?_
              rotate_left
              · intro w hSw; (try dsimp only at hSw); go_simp; with_reducible rfl
              · (exact fun _ _ _ hp => hp)
              try simp only [Act.put, List.setIfInBounds_toArray, List.set_cons_zero, List.set_cons_succ]
              refine xtake 10 (v := ?_) rfl (by kernel_rfl) (by kernel_rfl) (by kernel_rfl) rfl ?_ ?_ (by assumption) ?_
              rotate_left
              · intro w hSw; (try dsimp only at hSw); go_simp; with_reducible rfl
              · (exact fun _ _ _ hp => hp)
              try simp only [Act.put, List.setIfInBounds_toArray, List.set_cons_zero, List.set_cons_succ]
              refine xtake 11 (v := ?_) rfl (by kernel_rfl) (by kernel_rfl) (by kernel_rfl) rfl ?_ ?_ (by assumption) ?_
              rotate_left
              · intro w hSw; (try dsimp only at hSw); go_simp; with_reducible rfl
              · (exact fun _ _ _ hp => hp)
              try simp only [Act.put, List.setIfInBounds_toArray, List.set_cons_zero, List.set_cons_succ]
              refine xtake 12 (v := ?_) rfl (by kernel_rfl) (by kernel_rfl) (by kernel_rfl) rfl ?_ ?_ (by assumption) ?_
              rotate_left
              · intro w hSw; (try dsimp only at hSw); go_simp; with_reducible rfl
              · (exact fun _ _ _ hp => hp)
              try simp only [Act.put, List.setIfInBounds_toArray, List.set_cons_zero, List.set_cons_succ]
              refine xtake 13 (v := ?_) rfl (by kernel_rfl) (by kernel_rfl) (by kernel_rfl) rfl ?_ ?_ (by assumption) ?_
              rotate_left
              · intro w hSw; (try dsimp only at hSw); go_simp; with_reducible rfl
              · (exact fun _ _ _ hp => hp)
              try simp only [Act.put, List.setIfInBounds_toArray, List.set_cons_zero, List.set_cons_succ]
              refine xtake 14 (v := ?_) rfl (by kernel_rfl) (by kernel_rfl) (by kernel_rfl) rfl ?_ ?_ (by assumption) ?_
              rotate_left
              · intro w hSw; (try dsimp only at hSw); go_simp; with_reducible rfl
              · (exact fun _ _ _ hp => hp)
              try simp only [Act.put, List.setIfInBounds_toArray, List.set_cons_zero, List.set_cons_succ]
              refine wpAnyH_ready (rs := [15]) (by kernel_rfl) (by simp) ?_
              refine xcons 15 rfl (fun K hK => ?_) ?_
              focus
                (first
                  | (go_simp; go_at_call 95; refine (pDue1 d _).mono ?_; rintro e w2 ⟨rfl, hb1⟩; rw [hv.out]; dsimp only)
                  | (go_simp; go_at_call 98; refine (pDue2 p d _).mono ?_; rintro e w2 ⟨rfl, hb1⟩; rw [hu.out]; dsimp only))
                refine hK.out _ _ ?_ (fun hHeld2 => ?_)
                · (try dsimp only); (first
                                      | exact ⟨⟨(Below.refl _ _).drew, hXd.c0, hXd.c1, hXd.c2⟩, e0, e1, e2⟩
                                      | exact T6B hlX hbW (Nat.le_refl _) (by assumption) hb1)
                clear hK K
                try simp only [Act.put, List.setIfInBounds_toArray, List.set_cons_zero, List.set_cons_succ]
                (try clear hHeld1)
                refine xtake 16 (v := ?_) rfl (by kernel_rfl) (by kernel_rfl) (by kernel_rfl) rfl ?_ ?_ (by assumption) ?_
                rotate_left
                · intro w hSw; (try dsimp only at hSw); go_simp; with_reducible rfl
                · (exact fun _ _ _ hp => hp)
                try simp only [Act.put, List.setIfInBounds_toArray, List.set_cons_zero, List.set_cons_succ]
                refine xtake 17 (v := ?_) rfl (by kernel_rfl) (by kernel_rfl) (by kernel_rfl) rfl ?_ ?_ (by assumption) ?_
                rotate_left
                · intro w hSw; (try dsimp only at hSw); go_simp; with_reducible rfl
                · (exact fun _ _ _ hp => hp)
                try simp only [Act.put, List.setIfInBounds_toArray, List.set_cons_zero, List.set_cons_succ]
                refine xtake 18 (v := ?_) rfl (by kernel_rfl) (by kernel_rfl) (by kernel_rfl) rfl ?_ ?_ (by assumption) ?_
                rotate_left
                · intro w hSw; (try dsimp only at hSw); go_simp; with_reducible rfl
                · (exact fun _ _ _ hp => hp)
                try simp only [Act.put, List.setIfInBounds_toArray, List.set_cons_zero, List.set_cons_succ]
                refine wpAnyH_done (by kernel_rfl) ?_ _
                (revert hHeld2; intro _)
              rotate_left 1
              exact AllReadyH.nil
            rotate_left 1
            exact AllReadyH.nil
            rename_i hS
            have hWw := hS.1.1
            clear hS hb1
            go_wp2
            go_roundw
            case rel => exact ⟨_, by omega, by go_num, HB.out.trans (hWw.mono HBW.out), Lib.hid (okAt_succ hok.out hok1)⟩
            case measure => simp [intOf]; omega
    · obtain rfl : j = n := by omega
      have hgood : chkL okD ltD l = 0 := chkL_good (by rw [← Hn.out]; omega) (by rw [← Hn.out]; exact hok.out)
      go_wp2
      go_ret
      exact ⟨by rw [hgood]; rfl, hb⟩
end Go.Proofs.YtoijlikmigejbaaGreat
