/- The law PurseReasons: a clawback in a book; the walk. -/
import Derived.Test.YtoijlikmigejbaaCHrA
import Derived.Test.YtoijlikmigejbaaG01
namespace Go.Proofs.Ytoijlikmigejbaa
open Go.RowKit Go.Proofs.Ytoijlikmigejbaa.Pu

theorem last_none_has {l : List Post} (ha : AmtOk l) {y x : Int} (h : Pu.last l y x = none) : Pu.has l y x ≤ 0 := by
  induction l with
  | nil => exact Int.le_refl 0
  | cons p r ih =>
    have e : Pu.has (p :: r) y x = hasOf y x p + Pu.has r y x := rfl
    rw [Pu.last] at h
    cases hr : Pu.last r y x with
    | some q => rw [hr] at h; cases h
    | none =>
      rw [hr] at h
      have h1 := ih (fun q hq => ha q (List.mem_cons_of_mem _ hq)) hr
      have h2 := ha p (List.mem_cons_self ..)
      have h3 : hasOf y x p ≤ 0 := by
        unfold hasOf
        split
        · rename_i hc
          split
          · rename_i hk
            have hp : isPay y x p = true := by unfold isPay; simp [hk, hc.1, hc.2]
            rw [hp] at h; cases h
          · split <;> omega
        · exact Int.le_refl 0
      rw [e]; omega
theorem back_facts {l : List Post} (h : Book l) {j : Nat} {p : Post} (hp : l[j]? = some p) (hk : p.kind = 3) :
    askCode (l.take j) p.parcel p.party = 0 ∧ ∃ q, Pu.last (l.take j) p.party p.parcel = some q ∧ q.known < p.known ∧ p.amount ≤ Pu.has (l.take j) p.party p.parcel := by
  have hr := h j p hp
  have hok := (refused_ok hr).1
  have ha := okP_amount hok
  have hb := Book.take h j
  have hask : askCode (l.take j) p.parcel p.party = 0 := by
    unfold askCode
    rw [check_book hb, if_pos rfl, if_pos]
    simp only [okP, inB, Bool.and_eq_true, decide_eq_true_eq] at hok ⊢
    omega
  refine ⟨hask, ?_⟩
  unfold refused at hr
  split at hr
  · omega
  split at hr
  · omega
  split at hr
  · omega
  split at hr
  · omega
  rw [if_neg (by omega)] at hr
  split at hr
  · omega
  rw [if_neg (by omega)] at hr
  split at hr
  · omega
  rename_i hle
  split at hr
  · omega
  rename_i hkn
  cases hl : Pu.last (l.take j) p.party p.parcel with
  | none =>
    have := last_none_has (Book.amtOk hb) hl
    omega
  | some q =>
    rw [hl] at hkn
    simp only [Option.getD_some] at hkn
    exact ⟨q, rfl, by omega, by omega⟩

theorem PBox.after {w w' : World} {b : Nat} {p : Post} (h : PBox w b p) (hb : Below w.heap.size w w') : PBox w' b p := h.below hb h.lt
abbrev zobj : Obj := .cells #[.int .i64 0, .int .i64 0, .int .u8 0, .int .i64 0, .int .i64 0, .int .i64 0, .int .i64 0, .int .i64 0] 24
theorem PBox.drew {w : World} {b : Nat} {p : Post} (h : PBox w b p) : PBox w.drew b p := ⟨h.lt, h.c0, h.c1, h.c2, h.c3, h.c4, h.c5, h.c6, h.c7⟩
theorem PBox.set8 {w : World} {b : Nat} {z q : Post} (h : PBox w b z) : PBox ((((((((w.setCell ⟨b, 0, none⟩ (.int .i64 q.id)).setCell ⟨b, 1, none⟩ (.int .i64 q.hour)).setCell ⟨b, 2, none⟩ (.int .u8 q.kind)).setCell ⟨b, 3, none⟩ (.int .i64 q.party)).setCell ⟨b, 4, none⟩ (.int .i64 q.parcel)).setCell ⟨b, 5, none⟩ (.int .i64 q.amount)).setCell ⟨b, 6, none⟩ (.int .i64 q.reason)).setCell ⟨b, 7, none⟩ (.int .i64 q.known)) b q := by
  have h0 := h.c0
  have h1 := h.c1
  have h2 := h.c2
  have h3 := h.c3
  have h4 := h.c4
  have h5 := h.c5
  have h6 := h.c6
  have h7 := h.c7
  have hl := h.lt
  refine ⟨by simp; exact hl, ?_, ?_, ?_, ?_, ?_, ?_, ?_, ?_⟩ <;> simp [go_sem, h0, h1, h2, h3, h4, h5, h6, h7]
/-- two cells of a list, behind W -/
abbrev K2 (W : World) (b o : Nat) (p : Post) (w' : World) : Prop := Below W.heap.size W w' ∧ w'.cell? ⟨b, o + 3, none⟩ = some (.int .i64 p.party) ∧ w'.cell? ⟨b, o + 4, none⟩ = some (.int .i64 p.parcel)
theorem K2.of {W w' : World} {b o : Nat} {p : Post} (hb : b < W.heap.size) (h3 : W.cell? ⟨b, o + 3, none⟩ = some (.int .i64 p.party)) (h4 : W.cell? ⟨b, o + 4, none⟩ = some (.int .i64 p.parcel)) (hB : Below W.heap.size W w') : K2 W b o p w' :=
  ⟨hB, (hB.cell (p := ⟨b, o + 3, none⟩) hb).trans h3, (hB.cell (p := ⟨b, o + 4, none⟩) hb).trans h4⟩
theorem PBox.fz (w : World) (p : Post) (t : TypeId) (i : Nat) : (w.alloc (.cells #[.int .i64 p.id, .int .i64 p.hour, .int .u8 p.kind, .int .i64 p.party, .int .i64 p.parcel, .int .i64 p.amount, .int .i64 p.reason, .int .i64 p.known] t)).frozen? ⟨w.heap.size, i, none⟩ = false := by simp

set_option maxRecDepth 100000 in
set_option maxHeartbeats 8000000 in
theorem wReasons (l : List Post) (n cap : Nat) (ao : Option Addr) (w : World) (hn : n = l.length) (hL : n ≤ 100000 → LIn l n cap ao w.heap.size w) :
    Calls Try.prog 8 #[.slice ao n cap] w (LawRes w) := by
  replace hn := Lib.hid hn
  replace hL := Lib.hid hL
  by_cases hlt : 24 < n
  case pos =>
    go_enter Try.func8, Try.ntmps8
    go_wp2_with (go_at_call 9; refine (ppurses _).mono ?_; rintro e w2 ⟨rfl, hB2⟩)
    go_ret
    exact ⟨rfl, hB2⟩
  case neg =>
  have hl := Lib.hid (hL.out (by omega))
  clear hL
  by_cases hck : (check l).2 = 0
  case neg =>
    have hr := pright hl.out
    rw [show ((check l).2 == 0) = false by simp [hck]] at hr
    replace hr := Lib.hid hr
    clear hck
    go_enter Try.func8, Try.ntmps8
    go_wp2_with (first
      | (go_at_call 18; refine hr.out.mono ?_; rintro e w2 ⟨rfl, hB2⟩)
      | (go_at_call 9; refine (ppurses _).mono ?_; rintro e w3 ⟨rfl, hB3⟩))
    go_ret
    exact ⟨rfl, hB2.trans (hB3.mono hB2.size)⟩
  case pos =>
  have hbk := Lib.hid (book_of_check hck)
  have hr := pright hl.out
  rw [show ((check l).2 == 0) = true by simp [hck]] at hr
  replace hr := Lib.hid hr
  clear hck
  go_enter Try.func8, Try.ntmps8
  go_wp2_with (fail)
  go_at_call 18
  refine hr.out.mono ?_
  rintro e w2 ⟨rfl, hB2⟩
  obtain ⟨mb, hmb⟩ : ∃ mb, w.heap.size = mb := ⟨_, rfl⟩
  rw [hmb] at hl hB2
  have hws : mb ≤ w2.heap.size := by rw [← hmb]; exact hB2.size
  replace hmb := Lib.hid hmb
  have hB0 := Lib.hid hB2
  clear hB2 hr
  go_wp2
  go_loopw [3] (fun i wr => ∃ j : Nat, j ≤ n ∧ i = .int .i64 j ∧ Below mb w wr ∧ mb ≤ wr.heap.size) (fun i _ => n - (intOf i).toNat)
  case atStart => exact ⟨0, Nat.zero_le _, rfl, hB0.out, hws⟩
  case round =>
  obtain ⟨j, hj, rfl, hb, hwr⟩ := hrel
  by_cases hjn : j < n
  case neg =>
    obtain rfl : j = n := by omega
    go_wp2_with (go_at_call 9; refine (ppurses _).mono ?_; rintro e w5 ⟨rfl, hB5⟩)
    go_ret
    exact ⟨rfl, by rw [hmb.out]; exact hb.trans (hB5.mono hwr)⟩
  case pos =>
  obtain ⟨p, hp⟩ := getq (l := l) (j := j) (by rw [← hn.out]; exact hjn)
  have hlj := hl.out.below hb
  obtain ⟨b, o, rfl, hb0, e0, e1, e2, e3, e4, e5, e6, e7⟩ := hlj.hs.post hp
  have hbl : b < wr.heap.size := by omega
  have hcap := hl.out.hcap
  have hjc : j ≤ cap := by omega
  by_cases hk3 : p.kind = 3
  case neg =>
    have hkne : (p.kind != 3) = true := by simp [hk3]
    replace hk3 := Lib.hid hk3
    replace hp := Lib.hid hp
    replace hb := Lib.hid hb
    clear hlj
    go_wp2
    go_roundw
    case rel => exact ⟨j + 1, by omega, by go_num, hb.out, hwr⟩
    case measure => simp [intOf]; omega
  case pos =>
  obtain ⟨hask, q, hlast, hkn, hle⟩ := back_facts hbk.out hp hk3
  have htk := Lib.hid (hlj.take (i := j) (c := j) (by omega) (Nat.le_refl _))
  rw [hk3] at e2
  replace hk3 := Lib.hid hk3
  replace hp := Lib.hid hp
  replace hb := Lib.hid hb
  clear hlj
  go_wp2
  -- the last payment
  have hrp := Lib.hid (show LIn (l.take j) j j (some ⟨b, o, none⟩) mb wr.drew from htk.out.below (Below.refl _ _).drew)
  have hk2 : Hid (∀ W', Below wr.heap.size wr W' → K2 wr b (o + j * 8) p W') := fun W' hB => K2.of hbl e3 e4 hB
  have hrf := Lib.hid (Below.refl wr.heap.size wr).drew
  have hA := Lib.hid ((Below.refl wr.heap.size wr).alloc (Nat.le_refl _) zobj).drew
  have hrp2 := Lib.hid (show LIn (l.take j) j j (some ⟨b, o, none⟩) mb (wr.alloc zobj).drew from (htk.out.alloc _).below (Below.refl _ _).drew)
  have hz0 := Lib.hid (show PBox (wr.alloc zobj).drew wr.heap.size zeroP from PBox.drew (PBox.new wr zeroP 24))
  have hzf := Lib.hid (show ∀ i, (wr.alloc zobj).drew.frozen? ⟨wr.heap.size, i, none⟩ = false from fun i => PBox.fz wr zeroP 24 i)
  have hzs : Hid ((wr.alloc zobj).drew.heap.size = wr.heap.size + 1) := by show _ = _; show (wr.alloc zobj).heap.size = _; simp
  clear e0 e1 e2
  refine wp_region_held_drew (S := (fun w' => Below wr.heap.size wr w' ∧ w'.cell? ⟨b, o + j * 8 + 3, none⟩ = some (.int .i64 p.party) ∧ w'.cell? ⟨b, o + j * 8 + 4, none⟩ = some (.int .i64 p.parcel))) (by kernel_rfl) ?_ (fun hHeld0 => ?_)
  · (try dsimp only); ((refine hk2.out _ ?_; first | with_reducible exact hrf.out | with_reducible exact hA.out | with_reducible exact hb7.out | with_reducible exact (hb7.out.alloc hb7.out.size _) | ((iterate 8 refine below_far ?_ (Nat.le_refl _)); exact hb7.out)))
  refine xtake 0 (v := ?_) rfl (by kernel_rfl) (by kernel_rfl) (by kernel_rfl) rfl ?_ ?_ (by assumption) ?_
  rotate_left
  · intro w hSw; (try dsimp only at hSw); go_simp; with_reducible rfl
  · (exact fun _ _ _ hp => hp)
  try simp only [Act.put, List.setIfInBounds_toArray, List.set_cons_zero, List.set_cons_succ]
  refine xtake 1 (v := ?_) rfl (by kernel_rfl) (by kernel_rfl) (by kernel_rfl) rfl ?_ ?_ (by assumption) ?_
  rotate_left
  · intro w hSw; (try dsimp only at hSw); go_simp; with_reducible rfl
  · (exact fun _ _ _ hp => hp)
  try simp only [Act.put, List.setIfInBounds_toArray, List.set_cons_zero, List.set_cons_succ]
  refine xtake 2 (v := ?_) rfl (by kernel_rfl) (by kernel_rfl) (by kernel_rfl) rfl ?_ ?_ (by assumption) ?_
  rotate_left
  · intro w hSw; (try dsimp only at hSw); go_simp; with_reducible rfl
  · (exact fun _ _ _ hp => hp)
  try simp only [Act.put, List.setIfInBounds_toArray, List.set_cons_zero, List.set_cons_succ]
  refine xtake 3 (v := ?_) rfl (by kernel_rfl) (by kernel_rfl) (by kernel_rfl) rfl ?_ ?_ (by assumption) ?_
  rotate_left
  · intro w hSw; (try dsimp only at hSw); go_simp; with_reducible rfl
  · (exact fun _ _ _ hp => hp)
  try simp only [Act.put, List.setIfInBounds_toArray, List.set_cons_zero, List.set_cons_succ]
  refine xtake 4 (v := ?_) rfl (by kernel_rfl) (by kernel_rfl) (by kernel_rfl) rfl ?_ ?_ (by assumption) ?_
  rotate_left
  · intro w hSw; (try dsimp only at hSw); go_simp; with_reducible rfl
  · (exact fun _ _ _ hp => hp)
  try simp only [Act.put, List.setIfInBounds_toArray, List.set_cons_zero, List.set_cons_succ]
  refine xtake 5 (v := ?_) rfl (by kernel_rfl) (by kernel_rfl) (by kernel_rfl) rfl ?_ ?_ (by assumption) ?_
  rotate_left
  · intro w hSw; (try dsimp only at hSw); go_simp; with_reducible rfl
  · (exact fun _ _ _ hp => hp)
  try simp only [Act.put, List.setIfInBounds_toArray, List.set_cons_zero, List.set_cons_succ]
  refine xtake 6 (v := ?_) rfl (by kernel_rfl) (by kernel_rfl) (by kernel_rfl) rfl ?_ ?_ (by assumption) ?_
  rotate_left
  · intro w hSw; (try dsimp only at hSw); go_simp; with_reducible rfl
  · (exact fun _ _ _ hp => hp)
  try simp only [Act.put, List.setIfInBounds_toArray, List.set_cons_zero, List.set_cons_succ]
  refine xtake 7 (v := ?_) rfl (by kernel_rfl) (by kernel_rfl) (by kernel_rfl) rfl ?_ ?_ (by assumption) ?_
  rotate_left
  · intro w hSw; (try dsimp only at hSw); go_simp; with_reducible rfl
  · (exact fun _ _ _ hp => hp)
  try simp only [Act.put, List.setIfInBounds_toArray, List.set_cons_zero, List.set_cons_succ]
  refine xtake 8 (v := ?_) rfl (by kernel_rfl) (by kernel_rfl) (by kernel_rfl) rfl ?_ ?_ (by assumption) ?_
  rotate_left
  · intro w hSw; (try dsimp only at hSw); go_simp; with_reducible rfl
  · (exact fun _ _ _ hp => hp)
  try simp only [Act.put, List.setIfInBounds_toArray, List.set_cons_zero, List.set_cons_succ]
  refine xtake 9 (v := ?_) rfl (by kernel_rfl) (by kernel_rfl) (by kernel_rfl) rfl ?_ ?_ (by assumption) ?_
  rotate_left
  · intro w hSw; (try dsimp only at hSw); go_simp; with_reducible rfl
  · (exact fun _ _ _ hp => hp)
  try simp only [Act.put, List.setIfInBounds_toArray, List.set_cons_zero, List.set_cons_succ]
  refine xtake 10 (v := ?_) rfl (by kernel_rfl) (by kernel_rfl) (by kernel_rfl) rfl ?_ ?_ (by assumption) ?_
  rotate_left
  · intro w hSw; (try dsimp only at hSw); go_simp; with_reducible rfl
  · (exact fun _ _ _ hp => hp)
  try simp only [Act.put, List.setIfInBounds_toArray, List.set_cons_zero, List.set_cons_succ]
  refine xtake 11 (v := ?_) rfl (by kernel_rfl) (by kernel_rfl) (by kernel_rfl) rfl ?_ ?_ (by assumption) ?_
  rotate_left
  · intro w hSw; (try dsimp only at hSw); go_simp; with_reducible rfl
  · (exact fun _ _ _ hp => hp)
  try simp only [Act.put, List.setIfInBounds_toArray, List.set_cons_zero, List.set_cons_succ]
  refine xtake 12 (v := ?_) rfl (by kernel_rfl) (by kernel_rfl) (by kernel_rfl) rfl ?_ ?_ (by assumption) ?_
  rotate_left
  · intro w hSw; (try dsimp only at hSw); go_simp; with_reducible rfl
  · (exact fun _ _ _ hp => hp)
  try simp only [Act.put, List.setIfInBounds_toArray, List.set_cons_zero, List.set_cons_succ]
  refine xtake 13 (v := ?_) rfl (by kernel_rfl) (by kernel_rfl) (by kernel_rfl) rfl ?_ ?_ (by assumption) ?_
  rotate_left
  · intro w hSw; (try dsimp only at hSw); go_simp; with_reducible rfl
  · (exact fun _ _ _ hp => hp)
  try simp only [Act.put, List.setIfInBounds_toArray, List.set_cons_zero, List.set_cons_succ]
  refine wpAnyH_ready (rs := [14, 19]) (by kernel_rfl) (by simp) ?_
  refine xcons 14 rfl (fun K hK => ?_) ?_
  focus
    (first
      | (go_simp; go_at_call 23; refine (pLastPay (w := wr.drew) hrp.out p.party p.parcel).mono ?_; rintro e w6 ⟨hb6, rfl⟩; rw [hlast, hask, if_pos rfl]; have hb7 := Lib.hid (hrf.out.trans hb6); dsimp only)
      | (go_simp; go_at_call 23; refine (pLastPay (w := (wr.alloc zobj).drew) hrp2.out p.party p.parcel).mono ?_; rintro e w6 ⟨hb6, rfl⟩; rw [hlast, hask, if_pos rfl]
         have hb7 := Lib.hid (hA.out.trans (hb6.mono (by have := hzs.out; omega)))
         have hz : PBox w6 wr.heap.size zeroP := PBox.after hz0.out hb6
         have z0 := hz.c0
         have z1 := hz.c1
         have z2 := hz.c2
         have z3 := hz.c3
         have z4 := hz.c4
         have z5 := hz.c5
         have z6 := hz.c6
         have z7 := hz.c7
         have zf : ∀ i, w6.frozen? ⟨wr.heap.size, i, none⟩ = false := fun i => (hb6.frozen (p := ⟨wr.heap.size, i, none⟩) (by have := hzs.out; dsimp only; omega)).trans (hzf.out i)
         dsimp only))
    refine hK.out _ _ ?_ (fun hHeld1 => ?_)
    · (try dsimp only); ((refine hk2.out _ ?_; first | with_reducible exact hrf.out | with_reducible exact hA.out | with_reducible exact hb7.out | with_reducible exact (hb7.out.alloc hb7.out.size _) | ((iterate 8 refine below_far ?_ (Nat.le_refl _)); exact hb7.out)))
    clear hK K
    try simp only [Act.put, List.setIfInBounds_toArray, List.set_cons_zero, List.set_cons_succ]
    (try clear hHeld0)
    refine xtake 15 (v := ?_) rfl (by kernel_rfl) (by kernel_rfl) (by kernel_rfl) rfl ?_ ?_ (by assumption) ?_
    rotate_left
    · intro w hSw; (try dsimp only at hSw); go_simp; with_reducible rfl
    · (exact fun _ _ _ hp => hp)
    try simp only [Act.put, List.setIfInBounds_toArray, List.set_cons_zero, List.set_cons_succ]
    refine xtake 16 (v := ?_) rfl (by kernel_rfl) (by kernel_rfl) (by kernel_rfl) rfl ?_ ?_ (by assumption) ?_
    rotate_left
    · intro w hSw; (try dsimp only at hSw); go_simp; with_reducible rfl
    · (exact fun _ _ _ hp => hp)
    try simp only [Act.put, List.setIfInBounds_toArray, List.set_cons_zero, List.set_cons_succ]
    refine xtake 17 (v := ?_) rfl (by kernel_rfl) (by kernel_rfl) (by kernel_rfl) rfl ?_ ?_ (by assumption) ?_
    rotate_left
    · intro w hSw; (try dsimp only at hSw); go_simp; with_reducible rfl
    · (exact fun _ _ _ hp => hp)
    try simp only [Act.put, List.setIfInBounds_toArray, List.set_cons_zero, List.set_cons_succ]
    refine xtake 18 (v := ?_) rfl (by kernel_rfl) (by kernel_rfl) (by kernel_rfl) rfl ?_ ?_ (by assumption) ?_
    rotate_left
    · intro w hSw; (try dsimp only at hSw); go_simp; with_reducible rfl
    · (exact fun _ _ _ hp => hp)
    try simp only [Act.put, List.setIfInBounds_toArray, List.set_cons_zero, List.set_cons_succ]
    refine wpAnyH_ready (rs := [19]) (by kernel_rfl) (by simp) ?_
    refine xcons 19 rfl (fun K hK => ?_) ?_
    focus
      go_simp
      refine hK.out _ _ ?_ (fun hHeld2 => ?_)
      · (try dsimp only); ((refine hk2.out _ ?_; first | with_reducible exact hrf.out | with_reducible exact hA.out | with_reducible exact hb7.out | with_reducible exact (hb7.out.alloc hb7.out.size _) | ((iterate 8 refine below_far ?_ (Nat.le_refl _)); exact hb7.out)))
      clear hK K
      try simp only [Act.put, List.setIfInBounds_toArray, List.set_cons_zero, List.set_cons_succ]
      (try clear hHeld1)
      refine wpAnyH_ready (rs := [20]) (by kernel_rfl) (by simp) ?_
      refine xcons 20 rfl (fun K hK => ?_) ?_
      focus
        go_simp
        refine hK.out _ _ ?_ (fun hHeld3 => ?_)
        · (try dsimp only); ((refine hk2.out _ ?_; first | with_reducible exact hrf.out | with_reducible exact hA.out | with_reducible exact hb7.out | with_reducible exact (hb7.out.alloc hb7.out.size _) | ((iterate 8 refine below_far ?_ (Nat.le_refl _)); exact hb7.out)))
        clear hK K
        try simp only [Act.put, List.setIfInBounds_toArray, List.set_cons_zero, List.set_cons_succ]
        (try clear hHeld2)
        refine xtake 21 (v := ?_) rfl (by kernel_rfl) (by kernel_rfl) (by kernel_rfl) rfl ?_ ?_ (by assumption) ?_
        rotate_left
        · intro w hSw; (try dsimp only at hSw); go_simp; with_reducible rfl
        · (exact fun _ _ _ hp => hp)
        try simp only [Act.put, List.setIfInBounds_toArray, List.set_cons_zero, List.set_cons_succ]
        refine xtake 22 (v := ?_) rfl (by kernel_rfl) (by kernel_rfl) (by kernel_rfl) rfl ?_ ?_ (by assumption) ?_
        rotate_left
        · intro w hSw; (try dsimp only at hSw); go_simp; with_reducible rfl
        · (exact fun _ _ _ hp => hp)
        try simp only [Act.put, List.setIfInBounds_toArray, List.set_cons_zero, List.set_cons_succ]
        refine wpAnyH_done (by kernel_rfl) ?_ _
        (revert hHeld3; intro _)
      rotate_left 1
      exact AllReadyH.nil
    rotate_left 1
    exact AllReadyH.nil
  rotate_left 1
  refine xcons 19 rfl (fun K hK => ?_) ?_
  focus
    go_simp
    refine hK.out _ _ ?_ (fun hHeld1 => ?_)
    · (try dsimp only); ((refine hk2.out _ ?_; first | with_reducible exact hrf.out | with_reducible exact hA.out | with_reducible exact hb7.out | with_reducible exact (hb7.out.alloc hb7.out.size _) | ((iterate 8 refine below_far ?_ (Nat.le_refl _)); exact hb7.out)))
    clear hK K
    try simp only [Act.put, List.setIfInBounds_toArray, List.set_cons_zero, List.set_cons_succ]
    (try clear hHeld0)
    refine wpAnyH_ready (rs := [14]) (by kernel_rfl) (by simp) ?_
    refine xcons 14 rfl (fun K hK => ?_) ?_
    focus
      (first
        | (go_simp; go_at_call 23; refine (pLastPay (w := wr.drew) hrp.out p.party p.parcel).mono ?_; rintro e w6 ⟨hb6, rfl⟩; rw [hlast, hask, if_pos rfl]; have hb7 := Lib.hid (hrf.out.trans hb6); dsimp only)
        | (go_simp; go_at_call 23; refine (pLastPay (w := (wr.alloc zobj).drew) hrp2.out p.party p.parcel).mono ?_; rintro e w6 ⟨hb6, rfl⟩; rw [hlast, hask, if_pos rfl]
           have hb7 := Lib.hid (hA.out.trans (hb6.mono (by have := hzs.out; omega)))
           have hz : PBox w6 wr.heap.size zeroP := PBox.after hz0.out hb6
           have z0 := hz.c0
           have z1 := hz.c1
           have z2 := hz.c2
           have z3 := hz.c3
           have z4 := hz.c4
           have z5 := hz.c5
           have z6 := hz.c6
           have z7 := hz.c7
           have zf : ∀ i, w6.frozen? ⟨wr.heap.size, i, none⟩ = false := fun i => (hb6.frozen (p := ⟨wr.heap.size, i, none⟩) (by have := hzs.out; dsimp only; omega)).trans (hzf.out i)
           dsimp only))
      refine hK.out _ _ ?_ (fun hHeld2 => ?_)
      · (try dsimp only); ((refine hk2.out _ ?_; first | with_reducible exact hrf.out | with_reducible exact hA.out | with_reducible exact hb7.out | with_reducible exact (hb7.out.alloc hb7.out.size _) | ((iterate 8 refine below_far ?_ (Nat.le_refl _)); exact hb7.out)))
      clear hK K
      try simp only [Act.put, List.setIfInBounds_toArray, List.set_cons_zero, List.set_cons_succ]
      (try clear hHeld1)
      refine xtake 15 (v := ?_) rfl (by kernel_rfl) (by kernel_rfl) (by kernel_rfl) rfl ?_ ?_ (by assumption) ?_
      rotate_left
      · intro w hSw; (try dsimp only at hSw); go_simp; with_reducible rfl
      · (exact fun _ _ _ hp => hp)
      try simp only [Act.put, List.setIfInBounds_toArray, List.set_cons_zero, List.set_cons_succ]
      refine xtake 16 (v := ?_) rfl (by kernel_rfl) (by kernel_rfl) (by kernel_rfl) rfl ?_ ?_ (by assumption) ?_
      rotate_left
      · intro w hSw; (try dsimp only at hSw); go_simp; with_reducible rfl
      · (exact fun _ _ _ hp => hp)
      try simp only [Act.put, List.setIfInBounds_toArray, List.set_cons_zero, List.set_cons_succ]
      refine xtake 17 (v := ?_) rfl (by kernel_rfl) (by kernel_rfl) (by kernel_rfl) rfl ?_ ?_ (by assumption) ?_
      rotate_left
      · intro w hSw; (try dsimp only at hSw); go_simp; with_reducible rfl
      · (exact fun _ _ _ hp => hp)
      try simp only [Act.put, List.setIfInBounds_toArray, List.set_cons_zero, List.set_cons_succ]
      refine xtake 18 (v := ?_) rfl (by kernel_rfl) (by kernel_rfl) (by kernel_rfl) rfl ?_ ?_ (by assumption) ?_
      rotate_left
      · intro w hSw; (try dsimp only at hSw); go_simp; with_reducible rfl
      · (exact fun _ _ _ hp => hp)
      try simp only [Act.put, List.setIfInBounds_toArray, List.set_cons_zero, List.set_cons_succ]
      refine wpAnyH_ready (rs := [20]) (by kernel_rfl) (by simp) ?_
      refine xcons 20 rfl (fun K hK => ?_) ?_
      focus
        go_simp
        refine hK.out _ _ ?_ (fun hHeld3 => ?_)
        · (try dsimp only); ((refine hk2.out _ ?_; first | with_reducible exact hrf.out | with_reducible exact hA.out | with_reducible exact hb7.out | with_reducible exact (hb7.out.alloc hb7.out.size _) | ((iterate 8 refine below_far ?_ (Nat.le_refl _)); exact hb7.out)))
        clear hK K
        try simp only [Act.put, List.setIfInBounds_toArray, List.set_cons_zero, List.set_cons_succ]
        (try clear hHeld2)
        refine xtake 21 (v := ?_) rfl (by kernel_rfl) (by kernel_rfl) (by kernel_rfl) rfl ?_ ?_ (by assumption) ?_
        rotate_left
        · intro w hSw; (try dsimp only at hSw); go_simp; with_reducible rfl
        · (exact fun _ _ _ hp => hp)
        try simp only [Act.put, List.setIfInBounds_toArray, List.set_cons_zero, List.set_cons_succ]
        refine xtake 22 (v := ?_) rfl (by kernel_rfl) (by kernel_rfl) (by kernel_rfl) rfl ?_ ?_ (by assumption) ?_
        rotate_left
        · intro w hSw; (try dsimp only at hSw); go_simp; with_reducible rfl
        · (exact fun _ _ _ hp => hp)
        try simp only [Act.put, List.setIfInBounds_toArray, List.set_cons_zero, List.set_cons_succ]
        refine wpAnyH_done (by kernel_rfl) ?_ _
        (revert hHeld3; intro _)
      rotate_left 1
      exact AllReadyH.nil
    rotate_left 1
    exact AllReadyH.nil
  rotate_left 1
  exact AllReadyH.nil
  all_goals go_wp2
  · refine wp_world (R := fun W' => PBox W' w6.heap.size q ∧ Below wr.heap.size wr W') ⟨PBox.new .., hb7.out.alloc hb7.out.size _⟩ ?_
    obtain ⟨xb, hxb⟩ : ∃ xb, w6.heap.size = xb := ⟨_, rfl⟩
    rw [hxb]
    clear hxb hb6 hb7
    rintro W2 ⟨hPq, hBq⟩
    have hbl2 : b < W2.heap.size := Nat.lt_of_lt_of_le hbl hBq.size
    have hk4 : Hid (∀ W', Below W2.heap.size W2 W' → K2 W2 b (o + j * 8) p W') := fun W' hB => K2.of hbl2 ((hBq.cell (p := ⟨b, _, none⟩) hbl).trans e3) ((hBq.cell (p := ⟨b, _, none⟩) hbl).trans e4) hB
    have hrq := Lib.hid (show LIn (l.take j) j j (some ⟨b, o, none⟩) mb W2.drew from (htk.out.below (hBq.mono hwr)).below (Below.refl _ _).drew)
    have hrg := Lib.hid (Below.refl W2.heap.size W2).drew
    have hask2 := Lib.hid hask
    replace hPq := Lib.hid hPq
    replace hBq := Lib.hid hBq
    obtain ⟨hv, hhv⟩ : ∃ hv, Pu.has (l.take j) p.party p.parcel = hv := ⟨_, rfl⟩
    rw [hhv] at hle
    replace hhv := Lib.hid hhv
    replace hk2 := True.intro
    refine wp_region_held_drew (S := (fun w' => Below W2.heap.size W2 w' ∧ w'.cell? ⟨b, o + j * 8 + 3, none⟩ = some (.int .i64 p.party) ∧ w'.cell? ⟨b, o + j * 8 + 4, none⟩ = some (.int .i64 p.parcel))) (by kernel_rfl) ?_ (fun hHeld0 => ?_)
    · (try dsimp only); ((refine hk4.out _ ?_; first | with_reducible exact hrg.out | with_reducible exact hb9.out))
    refine xtake 0 (v := ?_) rfl (by kernel_rfl) (by kernel_rfl) (by kernel_rfl) rfl ?_ ?_ (by assumption) ?_
    rotate_left
    · intro w hSw; (try dsimp only at hSw); go_simp; with_reducible rfl
    · (exact fun _ _ _ hp => hp)
    try simp only [Act.put, List.setIfInBounds_toArray, List.set_cons_zero, List.set_cons_succ]
    refine xtake 1 (v := ?_) rfl (by kernel_rfl) (by kernel_rfl) (by kernel_rfl) rfl ?_ ?_ (by assumption) ?_
    rotate_left
    · intro w hSw; (try dsimp only at hSw); go_simp; with_reducible rfl
    · (exact fun _ _ _ hp => hp)
    try simp only [Act.put, List.setIfInBounds_toArray, List.set_cons_zero, List.set_cons_succ]
    refine xtake 2 (v := ?_) rfl (by kernel_rfl) (by kernel_rfl) (by kernel_rfl) rfl ?_ ?_ (by assumption) ?_
    rotate_left
    · intro w hSw; (try dsimp only at hSw); go_simp; with_reducible rfl
    · (exact fun _ _ _ hp => hp)
    try simp only [Act.put, List.setIfInBounds_toArray, List.set_cons_zero, List.set_cons_succ]
    refine xtake 3 (v := ?_) rfl (by kernel_rfl) (by kernel_rfl) (by kernel_rfl) rfl ?_ ?_ (by assumption) ?_
    rotate_left
    · intro w hSw; (try dsimp only at hSw); go_simp; with_reducible rfl
    · (exact fun _ _ _ hp => hp)
    try simp only [Act.put, List.setIfInBounds_toArray, List.set_cons_zero, List.set_cons_succ]
    refine xtake 4 (v := ?_) rfl (by kernel_rfl) (by kernel_rfl) (by kernel_rfl) rfl ?_ ?_ (by assumption) ?_
    rotate_left
    · intro w hSw; (try dsimp only at hSw); go_simp; with_reducible rfl
    · (exact fun _ _ _ hp => hp)
    try simp only [Act.put, List.setIfInBounds_toArray, List.set_cons_zero, List.set_cons_succ]
    refine xtake 5 (v := ?_) rfl (by kernel_rfl) (by kernel_rfl) (by kernel_rfl) rfl ?_ ?_ (by assumption) ?_
    rotate_left
    · intro w hSw; (try dsimp only at hSw); go_simp; with_reducible rfl
    · (exact fun _ _ _ hp => hp)
    try simp only [Act.put, List.setIfInBounds_toArray, List.set_cons_zero, List.set_cons_succ]
    refine xtake 6 (v := ?_) rfl (by kernel_rfl) (by kernel_rfl) (by kernel_rfl) rfl ?_ ?_ (by assumption) ?_
    rotate_left
    · intro w hSw; (try dsimp only at hSw); go_simp; with_reducible rfl
    · (exact fun _ _ _ hp => hp)
    try simp only [Act.put, List.setIfInBounds_toArray, List.set_cons_zero, List.set_cons_succ]
    refine xtake 7 (v := ?_) rfl (by kernel_rfl) (by kernel_rfl) (by kernel_rfl) rfl ?_ ?_ (by assumption) ?_
    rotate_left
    · intro w hSw; (try dsimp only at hSw); go_simp; with_reducible rfl
    · (exact fun _ _ _ hp => hp)
    try simp only [Act.put, List.setIfInBounds_toArray, List.set_cons_zero, List.set_cons_succ]
    refine xtake 8 (v := ?_) rfl (by kernel_rfl) (by kernel_rfl) (by kernel_rfl) rfl ?_ ?_ (by assumption) ?_
    rotate_left
    · intro w hSw; (try dsimp only at hSw); go_simp; with_reducible rfl
    · (exact fun _ _ _ hp => hp)
    try simp only [Act.put, List.setIfInBounds_toArray, List.set_cons_zero, List.set_cons_succ]
    refine xtake 9 (v := ?_) rfl (by kernel_rfl) (by kernel_rfl) (by kernel_rfl) rfl ?_ ?_ (by assumption) ?_
    rotate_left
    · intro w hSw; (try dsimp only at hSw); go_simp; with_reducible rfl
    · (exact fun _ _ _ hp => hp)
    try simp only [Act.put, List.setIfInBounds_toArray, List.set_cons_zero, List.set_cons_succ]
    refine xtake 10 (v := ?_) rfl (by kernel_rfl) (by kernel_rfl) (by kernel_rfl) rfl ?_ ?_ (by assumption) ?_
    rotate_left
    · intro w hSw; (try dsimp only at hSw); go_simp; with_reducible rfl
    · (exact fun _ _ _ hp => hp)
    try simp only [Act.put, List.setIfInBounds_toArray, List.set_cons_zero, List.set_cons_succ]
    refine xtake 11 (v := ?_) rfl (by kernel_rfl) (by kernel_rfl) (by kernel_rfl) rfl ?_ ?_ (by assumption) ?_
    rotate_left
    · intro w hSw; (try dsimp only at hSw); go_simp; with_reducible rfl
    · (exact fun _ _ _ hp => hp)
    try simp only [Act.put, List.setIfInBounds_toArray, List.set_cons_zero, List.set_cons_succ]
    refine xtake 12 (v := ?_) rfl (by kernel_rfl) (by kernel_rfl) (by kernel_rfl) rfl ?_ ?_ (by assumption) ?_
    rotate_left
    · intro w hSw; (try dsimp only at hSw); go_simp; with_reducible rfl
    · (exact fun _ _ _ hp => hp)
    try simp only [Act.put, List.setIfInBounds_toArray, List.set_cons_zero, List.set_cons_succ]
    refine xtake 13 (v := ?_) rfl (by kernel_rfl) (by kernel_rfl) (by kernel_rfl) rfl ?_ ?_ (by assumption) ?_
    rotate_left
    · intro w hSw; (try dsimp only at hSw); go_simp; with_reducible rfl
    · (exact fun _ _ _ hp => hp)
    try simp only [Act.put, List.setIfInBounds_toArray, List.set_cons_zero, List.set_cons_succ]
    refine wpAnyH_ready (rs := [14]) (by kernel_rfl) (by simp) ?_
    refine xcons 14 rfl (fun K hK => ?_) ?_
    focus
      ((go_simp; go_at_call 24; refine (pHas (w := W2.drew) hrq.out p.party p.parcel).mono ?_; rintro e w8 ⟨rfl, hb8⟩; rw [hask2.out, hhv.out]; have hb9 := Lib.hid (hrg.out.trans hb8); clear hb8; unfold numE; rw [if_pos rfl]; dsimp only))
      refine hK.out _ _ ?_ (fun hHeld1 => ?_)
      · (try dsimp only); ((refine hk4.out _ ?_; first | with_reducible exact hrg.out | with_reducible exact hb9.out))
      clear hK K
      try simp only [Act.put, List.setIfInBounds_toArray, List.set_cons_zero, List.set_cons_succ]
      (try clear hHeld0)
      refine xtake 15 (v := ?_) rfl (by kernel_rfl) (by kernel_rfl) (by kernel_rfl) rfl ?_ ?_ (by assumption) ?_
      rotate_left
      · intro w hSw; (try dsimp only at hSw); go_simp; with_reducible rfl
      · (exact fun _ _ _ hp => hp)
      try simp only [Act.put, List.setIfInBounds_toArray, List.set_cons_zero, List.set_cons_succ]
      refine xtake 16 (v := ?_) rfl (by kernel_rfl) (by kernel_rfl) (by kernel_rfl) rfl ?_ ?_ (by assumption) ?_
      rotate_left
      · intro w hSw; (try dsimp only at hSw); go_simp; with_reducible rfl
      · (exact fun _ _ _ hp => hp)
      try simp only [Act.put, List.setIfInBounds_toArray, List.set_cons_zero, List.set_cons_succ]
      refine xtake 17 (v := ?_) rfl (by kernel_rfl) (by kernel_rfl) (by kernel_rfl) rfl ?_ ?_ (by assumption) ?_
      rotate_left
      · intro w hSw; (try dsimp only at hSw); go_simp; with_reducible rfl
      · (exact fun _ _ _ hp => hp)
      try simp only [Act.put, List.setIfInBounds_toArray, List.set_cons_zero, List.set_cons_succ]
      refine xtake 18 (v := ?_) rfl (by kernel_rfl) (by kernel_rfl) (by kernel_rfl) rfl ?_ ?_ (by assumption) ?_
      rotate_left
      · intro w hSw; (try dsimp only at hSw); go_simp; with_reducible rfl
      · (exact fun _ _ _ hp => hp)
      try simp only [Act.put, List.setIfInBounds_toArray, List.set_cons_zero, List.set_cons_succ]
      refine xtake 19 (v := ?_) rfl (by kernel_rfl) (by kernel_rfl) (by kernel_rfl) rfl ?_ ?_ (by assumption) ?_
      rotate_left
      · intro w hSw; (try dsimp only at hSw); go_simp; with_reducible rfl
      · (exact fun _ _ _ hp => hp)
      try simp only [Act.put, List.setIfInBounds_toArray, List.set_cons_zero, List.set_cons_succ]
      refine wpAnyH_done (by kernel_rfl) ?_ _
      (revert hHeld1; intro _)
    rotate_left 1
    exact AllReadyH.nil
    have hP8 := PBox.below hPq.out hb9.out hPq.out.lt
    have x7 := hP8.c7
    have hlx := hP8.lt
    have hB8 := Lib.hid (hBq.out.trans (hb9.out.mono hBq.out.size))
    have f7 := (hB8.out.cell (p := ⟨b, o + j * 8 + 7, none⟩) hbl).trans e7
    have f5 := (hB8.out.cell (p := ⟨b, o + j * 8 + 5, none⟩) hbl).trans e5
    have hbl8 : b < w8.heap.size := Nat.lt_of_lt_of_le hbl hB8.out.size
    have d1 : decide (p.known ≤ q.known) = false := by simp; omega
    have d2 : decide (hv < p.amount) = false := by simp; omega
    clear hP8 hb9 hPq hBq hrq hrg hk4 e3 e4 e5 e6 e7
    go_wp2
    go_quiet (fail)
    go_wp2
    go_roundw
    case rel => exact ⟨j + 1, by omega, by go_num, below_drewN (hb.out.trans (hB8.out.mono hwr)) _, by show mb ≤ w8.heap.size; have := hB8.out.size; omega⟩
    case measure => simp [intOf]; omega
  · refine wp_world (R := fun W' => PBox W' wr.heap.size q ∧ Below wr.heap.size wr W') ⟨PBox.set8 hz, by iterate 8 refine below_far ?_ (Nat.le_refl _)
                                                                                                         exact hb7.out⟩ ?_
    obtain ⟨xb, hxb⟩ : ∃ xb, wr.heap.size = xb := ⟨_, rfl⟩
    rw [hxb]
    have hwrx := hwr
    clear hb6 hb7 hz z0 z1 z2 z3 z4 z5 z6 z7 zf hA hrp2 hz0 hzf hzs
    rw [← hxb]
    rintro W2 ⟨hPq, hBq⟩
    have hbl2 : b < W2.heap.size := Nat.lt_of_lt_of_le hbl hBq.size
    have hk4 : Hid (∀ W', Below W2.heap.size W2 W' → K2 W2 b (o + j * 8) p W') := fun W' hB => K2.of hbl2 ((hBq.cell (p := ⟨b, _, none⟩) hbl).trans e3) ((hBq.cell (p := ⟨b, _, none⟩) hbl).trans e4) hB
    have hrq := Lib.hid (show LIn (l.take j) j j (some ⟨b, o, none⟩) mb W2.drew from (htk.out.below (hBq.mono hwr)).below (Below.refl _ _).drew)
    have hrg := Lib.hid (Below.refl W2.heap.size W2).drew
    have hask2 := Lib.hid hask
    replace hPq := Lib.hid hPq
    replace hBq := Lib.hid hBq
    obtain ⟨hv, hhv⟩ : ∃ hv, Pu.has (l.take j) p.party p.parcel = hv := ⟨_, rfl⟩
    rw [hhv] at hle
    replace hhv := Lib.hid hhv
    replace hk2 := True.intro
    refine wp_region_held_drew (S := (fun w' => Below W2.heap.size W2 w' ∧ w'.cell? ⟨b, o + j * 8 + 3, none⟩ = some (.int .i64 p.party) ∧ w'.cell? ⟨b, o + j * 8 + 4, none⟩ = some (.int .i64 p.parcel))) (by kernel_rfl) ?_ (fun hHeld0 => ?_)
    · (try dsimp only); ((refine hk4.out _ ?_; first | with_reducible exact hrg.out | with_reducible exact hb9.out))
    refine xtake 0 (v := ?_) rfl (by kernel_rfl) (by kernel_rfl) (by kernel_rfl) rfl ?_ ?_ (by assumption) ?_
    rotate_left
    · intro w hSw; (try dsimp only at hSw); go_simp; with_reducible rfl
    · (exact fun _ _ _ hp => hp)
    try simp only [Act.put, List.setIfInBounds_toArray, List.set_cons_zero, List.set_cons_succ]
    refine xtake 1 (v := ?_) rfl (by kernel_rfl) (by kernel_rfl) (by kernel_rfl) rfl ?_ ?_ (by assumption) ?_
    rotate_left
    · intro w hSw; (try dsimp only at hSw); go_simp; with_reducible rfl
    · (exact fun _ _ _ hp => hp)
    try simp only [Act.put, List.setIfInBounds_toArray, List.set_cons_zero, List.set_cons_succ]
    refine xtake 2 (v := ?_) rfl (by kernel_rfl) (by kernel_rfl) (by kernel_rfl) rfl ?_ ?_ (by assumption) ?_
    rotate_left
    · intro w hSw; (try dsimp only at hSw); go_simp; with_reducible rfl
    · (exact fun _ _ _ hp => hp)
    try simp only [Act.put, List.setIfInBounds_toArray, List.set_cons_zero, List.set_cons_succ]
    refine xtake 3 (v := ?_) rfl (by kernel_rfl) (by kernel_rfl) (by kernel_rfl) rfl ?_ ?_ (by assumption) ?_
    rotate_left
    · intro w hSw; (try dsimp only at hSw); go_simp; with_reducible rfl
    · (exact fun _ _ _ hp => hp)
    try simp only [Act.put, List.setIfInBounds_toArray, List.set_cons_zero, List.set_cons_succ]
    refine xtake 4 (v := ?_) rfl (by kernel_rfl) (by kernel_rfl) (by kernel_rfl) rfl ?_ ?_ (by assumption) ?_
    rotate_left
    · intro w hSw; (try dsimp only at hSw); go_simp; with_reducible rfl
    · (exact fun _ _ _ hp => hp)
    try simp only [Act.put, List.setIfInBounds_toArray, List.set_cons_zero, List.set_cons_succ]
    refine xtake 5 (v := ?_) rfl (by kernel_rfl) (by kernel_rfl) (by kernel_rfl) rfl ?_ ?_ (by assumption) ?_
    rotate_left
    · intro w hSw; (try dsimp only at hSw); go_simp; with_reducible rfl
    · (exact fun _ _ _ hp => hp)
    try simp only [Act.put, List.setIfInBounds_toArray, List.set_cons_zero, List.set_cons_succ]
    refine xtake 6 (v := ?_) rfl (by kernel_rfl) (by kernel_rfl) (by kernel_rfl) rfl ?_ ?_ (by assumption) ?_
    rotate_left
    · intro w hSw; (try dsimp only at hSw); go_simp; with_reducible rfl
    · (exact fun _ _ _ hp => hp)
    try simp only [Act.put, List.setIfInBounds_toArray, List.set_cons_zero, List.set_cons_succ]
    refine xtake 7 (v := ?_) rfl (by kernel_rfl) (by kernel_rfl) (by kernel_rfl) rfl ?_ ?_ (by assumption) ?_
    rotate_left
    · intro w hSw; (try dsimp only at hSw); go_simp; with_reducible rfl
    · (exact fun _ _ _ hp => hp)
    try simp only [Act.put, List.setIfInBounds_toArray, List.set_cons_zero, List.set_cons_succ]
    refine xtake 8 (v := ?_) rfl (by kernel_rfl) (by kernel_rfl) (by kernel_rfl) rfl ?_ ?_ (by assumption) ?_
    rotate_left
    · intro w hSw; (try dsimp only at hSw); go_simp; with_reducible rfl
    · (exact fun _ _ _ hp => hp)
    try simp only [Act.put, List.setIfInBounds_toArray, List.set_cons_zero, List.set_cons_succ]
    refine xtake 9 (v := ?_) rfl (by kernel_rfl) (by kernel_rfl) (by kernel_rfl) rfl ?_ ?_ (by assumption) ?_
    rotate_left
    · intro w hSw; (try dsimp only at hSw); go_simp; with_reducible rfl
    · (exact fun _ _ _ hp => hp)
    try simp only [Act.put, List.setIfInBounds_toArray, List.set_cons_zero, List.set_cons_succ]
    refine xtake 10 (v := ?_) rfl (by kernel_rfl) (by kernel_rfl) (by kernel_rfl) rfl ?_ ?_ (by assumption) ?_
    rotate_left
    · intro w hSw; (try dsimp only at hSw); go_simp; with_reducible rfl
    · (exact fun _ _ _ hp => hp)
    try simp only [Act.put, List.setIfInBounds_toArray, List.set_cons_zero, List.set_cons_succ]
    refine xtake 11 (v := ?_) rfl (by kernel_rfl) (by kernel_rfl) (by kernel_rfl) rfl ?_ ?_ (by assumption) ?_
    rotate_left
    · intro w hSw; (try dsimp only at hSw); go_simp; with_reducible rfl
    · (exact fun _ _ _ hp => hp)
    try simp only [Act.put, List.setIfInBounds_toArray, List.set_cons_zero, List.set_cons_succ]
    refine xtake 12 (v := ?_) rfl (by kernel_rfl) (by kernel_rfl) (by kernel_rfl) rfl ?_ ?_ (by assumption) ?_
    rotate_left
    · intro w hSw; (try dsimp only at hSw); go_simp; with_reducible rfl
    · (exact fun _ _ _ hp => hp)
    try simp only [Act.put, List.setIfInBounds_toArray, List.set_cons_zero, List.set_cons_succ]
    refine xtake 13 (v := ?_) rfl (by kernel_rfl) (by kernel_rfl) (by kernel_rfl) rfl ?_ ?_ (by assumption) ?_
    rotate_left
    · intro w hSw; (try dsimp only at hSw); go_simp; with_reducible rfl
    · (exact fun _ _ _ hp => hp)
    try simp only [Act.put, List.setIfInBounds_toArray, List.set_cons_zero, List.set_cons_succ]
    refine wpAnyH_ready (rs := [14]) (by kernel_rfl) (by simp) ?_
    refine xcons 14 rfl (fun K hK => ?_) ?_
    focus
      ((go_simp; go_at_call 24; refine (pHas (w := W2.drew) hrq.out p.party p.parcel).mono ?_; rintro e w8 ⟨rfl, hb8⟩; rw [hask2.out, hhv.out]; have hb9 := Lib.hid (hrg.out.trans hb8); clear hb8; unfold numE; rw [if_pos rfl]; dsimp only))
      refine hK.out _ _ ?_ (fun hHeld1 => ?_)
      · (try dsimp only); ((refine hk4.out _ ?_; first | with_reducible exact hrg.out | with_reducible exact hb9.out))
      clear hK K
      try simp only [Act.put, List.setIfInBounds_toArray, List.set_cons_zero, List.set_cons_succ]
      (try clear hHeld0)
      refine xtake 15 (v := ?_) rfl (by kernel_rfl) (by kernel_rfl) (by kernel_rfl) rfl ?_ ?_ (by assumption) ?_
      rotate_left
      · intro w hSw; (try dsimp only at hSw); go_simp; with_reducible rfl
      · (exact fun _ _ _ hp => hp)
      try simp only [Act.put, List.setIfInBounds_toArray, List.set_cons_zero, List.set_cons_succ]
      refine xtake 16 (v := ?_) rfl (by kernel_rfl) (by kernel_rfl) (by kernel_rfl) rfl ?_ ?_ (by assumption) ?_
      rotate_left
      · intro w hSw; (try dsimp only at hSw); go_simp; with_reducible rfl
      · (exact fun _ _ _ hp => hp)
      try simp only [Act.put, List.setIfInBounds_toArray, List.set_cons_zero, List.set_cons_succ]
      refine xtake 17 (v := ?_) rfl (by kernel_rfl) (by kernel_rfl) (by kernel_rfl) rfl ?_ ?_ (by assumption) ?_
      rotate_left
      · intro w hSw; (try dsimp only at hSw); go_simp; with_reducible rfl
      · (exact fun _ _ _ hp => hp)
      try simp only [Act.put, List.setIfInBounds_toArray, List.set_cons_zero, List.set_cons_succ]
      refine xtake 18 (v := ?_) rfl (by kernel_rfl) (by kernel_rfl) (by kernel_rfl) rfl ?_ ?_ (by assumption) ?_
      rotate_left
      · intro w hSw; (try dsimp only at hSw); go_simp; with_reducible rfl
      · (exact fun _ _ _ hp => hp)
      try simp only [Act.put, List.setIfInBounds_toArray, List.set_cons_zero, List.set_cons_succ]
      refine xtake 19 (v := ?_) rfl (by kernel_rfl) (by kernel_rfl) (by kernel_rfl) rfl ?_ ?_ (by assumption) ?_
      rotate_left
      · intro w hSw; (try dsimp only at hSw); go_simp; with_reducible rfl
      · (exact fun _ _ _ hp => hp)
      try simp only [Act.put, List.setIfInBounds_toArray, List.set_cons_zero, List.set_cons_succ]
      refine wpAnyH_done (by kernel_rfl) ?_ _
      (revert hHeld1; intro _)
    rotate_left 1
    exact AllReadyH.nil
    have hP8 := PBox.below hPq.out hb9.out hPq.out.lt
    have x7 := hP8.c7
    have hlx := hP8.lt
    rw [hxb] at x7 hlx
    have hB8 := Lib.hid (hBq.out.trans (hb9.out.mono hBq.out.size))
    have f7 := (hB8.out.cell (p := ⟨b, o + j * 8 + 7, none⟩) hbl).trans e7
    have f5 := (hB8.out.cell (p := ⟨b, o + j * 8 + 5, none⟩) hbl).trans e5
    have hbl8 : b < w8.heap.size := Nat.lt_of_lt_of_le hbl hB8.out.size
    have d1 : decide (p.known ≤ q.known) = false := by simp; omega
    have d2 : decide (hv < p.amount) = false := by simp; omega
    clear hP8 hb9 hPq hBq hrq hrg hk4 e3 e4 e5 e6 e7
    go_wp2
    go_quiet (fail)
    go_wp2
    go_roundw
    case rel => exact ⟨j + 1, by omega, by go_num, below_drewN (hb.out.trans (hB8.out.mono hwr)) _, by show mb ≤ w8.heap.size; have := hB8.out.size; omega⟩
    case measure => simp [intOf]; omega
end Go.Proofs.Ytoijlikmigejbaa
