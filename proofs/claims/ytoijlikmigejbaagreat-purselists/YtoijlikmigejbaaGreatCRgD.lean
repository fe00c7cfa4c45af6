/- Walks: the reference's parcels, over. -/
import Derived.Test.YtoijlikmigejbaaGreatCRgC
import Derived.Test.YtoijlikmigejbaaGreatCRgB
import Derived.Test.YtoijlikmigejbaaGreatG01
namespace Go.Proofs.YtoijlikmigejbaaGreat
open Go.RowKit Go.Proofs.YtoijlikmigejbaaGreat.Pu

set_option maxRecDepth 100000 in
set_option maxHeartbeats 4000000 in
theorem rparcels {l : List Post} {n cap : Nat} {ao : Option Addr} {B : Nat} {w : World} (h : LIn l n cap ao B w) (hm : n ≤ 1000) :
    Calls Tryz.prog 84 #[.slice ao n cap] w (IRes (parcels l) w) := by
  have hB := h.hB
  have hcap := h.hcap
  have Hn := Lib.hid h.hn
  go_enter Tryz.func84, Tryz.ntmps84
  go_wp2
  have hnil : Hid (IIn [] 0 0 none w.heap.size w) := ⟨rfl, by omega, Nat.le_refl _, .inl rfl, Nat.le_refl _⟩
  go_loopw [3, 4] (fun v i wr => ∃ (j : Nat) (aw : Option Addr) (nw cw : Nat), j ≤ n ∧ i = .int .i64 j ∧ v = .slice aw nw cw ∧ IIn (parcels (l.take j)) nw cw aw wr.heap.size wr ∧ (∀ ad, aw = some ad → ∃ b o, ad = ⟨b, o, none⟩) ∧ Below w.heap.size w wr) (fun _ i _ => n - (intOf i).toNat)
  case atStart => exact ⟨0, none, 0, 0, Nat.zero_le _, rfl, rfl, hnil.out, (fun ad h => by cases h), Below.refl _ _⟩
  case round =>
    obtain ⟨j, aw, nw, cw, hj, rfl, rfl, hI, had, hb⟩ := hrel
    by_cases hlt : j < n
    · obtain ⟨p, hp⟩ := getq (l := l) (j := j) (by rw [← Hn.out]; exact hlt)
      have hs' := h.hs.below (hb.mono hB)
      obtain ⟨b, o, rfl, hb0, c0, c1, c2, c3, c4, c5, c6, c7⟩ := hs'.post hp
      have hstep := Lib.hid (parcels_snoc hp)
      have hnw : nw ≤ 1000 := by have h1 := hI.hn; have h2 := parcels_len (l.take j); rw [List.length_take] at h2; omega
      have hasc := Lib.hid (asc_parcels (l.take j))
      replace hI := Lib.hid hI
      replace had := Lib.hid had
      replace hb := Lib.hid hb
      clear hs'
      go_wp2_with (go_at_call 110; refine (rput hI.out hasc.out had.out hnw p.parcel).mono ?_; rintro e w1 ⟨hB1, a1, n1, c1', rfl, hI1, had1⟩; rw [← hstep.out] at hI1)
      go_roundw
      case rel => exact ⟨j + 1, _, _, _, by omega, by go_num, rfl, hI1, had1, hb.out.trans (hB1.mono hb.out.size)⟩
      case measure => simp [intOf]; omega
    · obtain rfl : n = j := by omega
      have e : l.take n = l := by rw [Hn.out]; exact List.take_length
      rw [e] at hI
      go_wp2
      go_ret
      exact ⟨hb, _, _, _, rfl, hI, had⟩

theorem kdDue : Kd 63 23 3 dcells := by
  obtain ⟨i0, hi, hz0, hz1, hz2⟩ := info_parts infoDue
  exact ⟨Tryz.underlying23, ⟨i0, _, hi, hz0, hz1, by omega, rfl⟩, by omega, dcells_len, dcells_cell⟩
theorem one_due (w : World) (x : Due) : SlAt 3 dcells (w.alloc (.cells #[.int .i64 x.party, .int .i64 x.parcel, .int .i64 x.amount] 63)).heap.size (w.alloc (.cells #[.int .i64 x.party, .int .i64 x.parcel, .int .i64 x.amount] 63)) (some ⟨w.heap.size, 0, none⟩) [x] :=
  Own.slAt dcells_len (by omega) (World.ownsRow_lit w #[.int .i64 x.party, .int .i64 x.parcel, .int .i64 x.amount] 1 (Nat.le_refl _) (by unfold maxLen; omega) rfl)
theorem dueF_bd {d : List Due} (h : ∀ x ∈ d, 0 ≤ x.amount ∧ x.amount ≤ 1000000000) (who what : Int) : 0 ≤ dueF d who what ∧ dueF d who what ≤ 1000000000 := by
  unfold dueF
  cases hf : d.find? (fun x => x.party == who && x.parcel == what) with
  | none => simp
  | some x => exact h x (List.mem_of_find?_eq_some hf)
/-- what is too much at the first i parcels -/
def overI (l : List Post) (d : List Due) (i : Nat) : List Due := ((parcels l).take i).flatMap fun x => (List.range 41).filterMap (overF l d x)
theorem overI_succ {l : List Post} {d : List Due} {i : Nat} {x : Int} (h : (parcels l)[i]? = some x) : overI l d (i + 1) = overI l d i ++ (List.range 41).filterMap (overF l d x) := by
  unfold overI; rw [take_snoc h, List.flatMap_append]; simp
theorem range_step {α : Type} (f : Nat → Option α) (k : Nat) : (List.range (k + 1)).filterMap f = (List.range k).filterMap f ++ (f k).toList := by
  rw [List.range_succ, List.filterMap_append]
  cases hf : f k <;> simp [hf]
theorem overI_len (l : List Post) (d : List Due) (i : Nat) : (overI l d i).length ≤ i * 41 := by
  unfold overI
  have : ∀ xs : List Int, (xs.flatMap fun x => (List.range 41).filterMap (overF l d x)).length ≤ xs.length * 41 := fun xs => by
    induction xs with
    | nil => simp
    | cons x r ih =>
      rw [List.flatMap_cons, List.length_append, List.length_cons]
      have := List.length_filterMap_le (overF l d x) (List.range 41)
      rw [List.length_range] at this; omega
  have h1 := this ((parcels l).take i)
  rw [List.length_take] at h1
  have : min i (parcels l).length * 41 ≤ i * 41 := Nat.mul_le_mul_right _ (Nat.min_le_left _ _)
  omega

set_option maxRecDepth 100000 in
set_option maxHeartbeats 8000000 in
theorem rover {l : List Post} {d : List Due} {n cap n2 cap2 : Nat} {ao ao2 : Option Addr} {B : Nat} {w : World} (h : LIn l n cap ao B w) (hm : n ≤ 1000) (hbk : Hid (Book l)) (h2 : DIn d n2 cap2 ao2 B w) (hd : Hid (∀ x ∈ d, 0 ≤ x.amount ∧ x.amount ≤ 1000000000)) :
    Calls Tryz.prog 68 #[.slice ao n cap, .slice ao2 n2 cap2] w (DuesRes (overI l d (parcels l).length) w) := by
  have hB := h.hB
  have Hn := Lib.hid h.hn
  replace h := Lib.hid h
  replace h2 := Lib.hid h2
  go_enter Tryz.func68, Tryz.ntmps68
  go_wp2_with (fail)
  go_at_call 84
  refine (rparcels h.out hm).mono ?_
  rintro e w1 ⟨hB1, ap, np, cp, rfl, hI, hadp⟩
  have hl1 := Lib.hid (h.out.after hB1)
  have hd1 := Lib.hid (h2.out.after hB1)
  have hnp : np ≤ 1000 := by have h1 := hI.hn; have h2 := parcels_len l; have := Hn.out; omega
  have hcp := hI.hcap
  have hpn := Lib.hid hI.hn
  replace hI := Lib.hid hI
  obtain ⟨sb, hsb⟩ : ∃ sb, w1.heap.size = sb := ⟨_, rfl⟩
  have hrefl := Below.refl sb w1
  rw [hsb] at hI
  have hBs : B ≤ sb := by have := hl1.out.hB; omega
  replace hB1 := Lib.hid hB1
  replace hsb := Lib.hid hsb
  clear hadp
  go_wp2
  go_loopw [5, 7] (fun v i wr => ∃ j : Nat, j ≤ np ∧ i = .int .i64 j ∧ Below sb w1 wr ∧ sb ≤ wr.heap.size ∧ Hid (wr.ownsRow sb 63 3 v (overI l d j).length (flat dcells (overI l d j)))) (fun _ i _ => np - (intOf i).toNat)
  case atStart => exact ⟨0, Nat.zero_le _, rfl, hrefl, by have := hsb.out; omega, World.ownsRow_nil _ _ _ _⟩
  case round =>
    obtain ⟨j, hj, rfl, hb, hws, hown⟩ := hrel
    by_cases hlt : j < np
    · obtain ⟨x, hx⟩ := getq (l := parcels l) (j := j) (by rw [← hpn.out]; exact hlt)
      replace hx := Lib.hid hx
      have hb0 := Lib.hid hb
      have hlo := overI_len l d j
      clear hb
      go_wp2
      go_loopw [5, 8] (fun v k wk => ∃ q : Nat, q ≤ 41 ∧ k = .int .i64 q ∧ Below sb w1 wk ∧ sb ≤ wk.heap.size ∧ Hid (wk.ownsRow sb 63 3 v (overI l d j ++ (List.range q).filterMap (overF l d x)).length (flat dcells (overI l d j ++ (List.range q).filterMap (overF l d x))))) (fun _ k _ => 41 - (intOf k).toNat)
      case atStart => exact ⟨0, Nat.zero_le _, rfl, hb0.out, hws, by show World.ownsRow _ _ _ _ _ _ _; simpa using hown.out⟩
      case round =>
      obtain ⟨q, hq, rfl, hbk', hwk, howk⟩ := hrel
      by_cases hq41 : q < 41
      case pos =>
        have hs' := hI.out.hs.below hbk'
        obtain ⟨b, o, rfl, hbl, c0⟩ := hs'.int hx.out
        have hha := Book.has_le hbk.out (q : Int) x
        have hhd := dueF_bd hd.out (q : Int) x
        obtain ⟨vh, hvh⟩ : ∃ vh, Hid (Pu.has l (q : Int) x = vh) := ⟨_, rfl⟩
        obtain ⟨vd, hvd⟩ : ∃ vd, Hid (dueF d (q : Int) x = vd) := ⟨_, rfl⟩
        rw [hvh.out] at hha
        rw [hvd.out] at hhd
        have hw1 : IntKind.i64.wrap (vh - vd) = vh - vd := IntWalk.i64_in _ (by omega)
        have hlr := Lib.hid ((hl1.out.below (hbk'.mono hBs)).drew)
        have hdr := Lib.hid ((hd1.out.below (hbk'.mono hBs)).after (Below.refl _ _).drew)
        have ham := Lib.hid (Book.amtOk hbk.out)
        have K1 : Hid (wr.drew.cell? ⟨b, o + j, none⟩ = some (.int .i64 x)) := c0
        have hblt : b < wr.drew.heap.size := Nat.lt_of_lt_of_le hbl hwk
        have hbd := Lib.hid hbk'.drew
        have howd := Lib.hid (howk.out.drew)
        have hlq : (overI l d j ++ (List.range q).filterMap (overF l d x)).length ≤ 100000 := by
          have := List.length_filterMap_le (overF l d x) (List.range q)
          rw [List.length_range] at this
          rw [List.length_append]; omega
        clear hs' c0 howk hlo hown
        go_wp2
        refine wp_region_held_drew (S := (fun w' => w'.cell? ⟨b, o + j, none⟩ = some (.int .i64 x))) (by kernel_rfl) ?_ (fun hHeld0 => ?_)
        · (try dsimp only); (first | with_reducible exact K1.out | with_reducible exact K2.out)
        refine xtake 0 (v := ?_) rfl (by kernel_rfl) (by kernel_rfl) (by kernel_rfl) rfl ?_ ?_ (by assumption) ?_
        rotate_left
        · intro w hSw; (try dsimp only at hSw); go_simp; with_reducible rfl
        · (exact fun _ _ _ hp => hp)
        try simp only [Act.put, List.setIfInBounds_toArray, List.set_cons_zero, List.set_cons_succ]
        refine xtake 1 (v := ?_) rfl (by kernel_rfl) (by kernel_rfl) (by kernel_rfl) rfl ?_ ?_ (by assumption) ?_
        rotate_left
        · intro w hSw; (try dsimp only at hSw); go_simp; with_reducible rfl
        · (exact fun _ _ _ hp => hp)
        try simp only [Act.put, List.setIfInBounds_toArray, List.set_cons_zero, List.set_cons_succ]
        refine xtake 2 (v := ?_) rfl (by kernel_rfl) (by kernel_rfl) (by kernel_rfl) rfl ?_ ?_ (by assumption) ?_
        rotate_left
        · intro w hSw; (try dsimp only at hSw); go_simp; with_reducible rfl
        · (exact fun _ _ _ hp => hp)
        try simp only [Act.put, List.setIfInBounds_toArray, List.set_cons_zero, List.set_cons_succ]
        refine xtake 3 (v := ?_) rfl (by kernel_rfl) (by kernel_rfl) (by kernel_rfl) rfl ?_ ?_ (by assumption) ?_
        rotate_left
        · intro w hSw; (try dsimp only at hSw); go_simp; with_reducible rfl
        · (exact fun _ _ _ hp => hp)
        try simp only [Act.put, List.setIfInBounds_toArray, List.set_cons_zero, List.set_cons_succ]
        refine xtake 4 (v := ?_) rfl (by kernel_rfl) (by kernel_rfl) (by kernel_rfl) rfl ?_ ?_ (by assumption) ?_
        rotate_left
        · intro w hSw; (try dsimp only at hSw); go_simp; with_reducible rfl
        · (exact fun _ _ _ hp => hp)
        try simp only [Act.put, List.setIfInBounds_toArray, List.set_cons_zero, List.set_cons_succ]
        refine xtake 5 (v := ?_) rfl (by kernel_rfl) (by kernel_rfl) (by kernel_rfl) rfl ?_ ?_ (by assumption) ?_
        rotate_left
        · intro w hSw; (try dsimp only at hSw); go_simp; with_reducible rfl
        · (exact fun _ _ _ hp => hp)
        try simp only [Act.put, List.setIfInBounds_toArray, List.set_cons_zero, List.set_cons_succ]
        refine xtake 7 (v := ?_) rfl (by kernel_rfl) (by kernel_rfl) (by kernel_rfl) rfl ?_ ?_ (by assumption) ?_
        rotate_left
        · intro w hSw; (try dsimp only at hSw); go_simp; with_reducible rfl
        · (exact fun _ _ _ hp => hp)
        try simp only [Act.put, List.setIfInBounds_toArray, List.set_cons_zero, List.set_cons_succ]
        refine xtake 8 (v := ?_) rfl (by kernel_rfl) (by kernel_rfl) (by kernel_rfl) rfl ?_ ?_ (by assumption) ?_
        rotate_left
        · intro w hSw; (try dsimp only at hSw); go_simp; with_reducible rfl
        · (exact fun _ _ _ hp => hp)
        try simp only [Act.put, List.setIfInBounds_toArray, List.set_cons_zero, List.set_cons_succ]
        refine xtake 9 (v := ?_) rfl (by kernel_rfl) (by kernel_rfl) (by kernel_rfl) rfl ?_ ?_ (by assumption) ?_
        rotate_left
        · intro w hSw; (try dsimp only at hSw); go_simp; with_reducible rfl
        · (exact fun _ _ _ hp => hp)
        try simp only [Act.put, List.setIfInBounds_toArray, List.set_cons_zero, List.set_cons_succ]
        refine xtake 10 (v := ?_) rfl (by kernel_rfl) (by kernel_rfl) (by kernel_rfl) rfl ?_ ?_ (by assumption) ?_
        rotate_left
        · intro w hSw; (try dsimp only at hSw); go_simp; with_reducible rfl
        · (exact fun _ _ _ hp => hp)
        try simp only [Act.put, List.setIfInBounds_toArray, List.set_cons_zero, List.set_cons_succ]
        refine xtake 11 (v := ?_) rfl (by kernel_rfl) (by kernel_rfl) (by kernel_rfl) rfl ?_ ?_ (by assumption) ?_
        rotate_left
        · intro w hSw; (try dsimp only at hSw); go_simp; with_reducible rfl
        · (exact fun _ _ _ hp => hp)
        try simp only [Act.put, List.setIfInBounds_toArray, List.set_cons_zero, List.set_cons_succ]
        refine xtake 12 (v := ?_) rfl (by kernel_rfl) (by kernel_rfl) (by kernel_rfl) rfl ?_ ?_ (by assumption) ?_
        rotate_left
        · intro w hSw; (try dsimp only at hSw); go_simp; with_reducible rfl
        · (exact fun _ _ _ hp => hp)
        try simp only [Act.put, List.setIfInBounds_toArray, List.set_cons_zero, List.set_cons_succ]
        refine wpAnyH_ready (rs := [6]) (by kernel_rfl) (by simp) ?_
        refine xcons 6 rfl (fun K hK => ?_) ?_
        focus
          (first
            | (go_simp; go_at_call 71; refine (rhas l n cap (q : Int) x ao B wr.drew Hn.out (by omega) hlr.out.hs ham.out).mono ?_; rintro e w2 ⟨rfl, rfl⟩; rw [hvh.out]; dsimp only)
            | (go_simp; go_at_call 116; refine (rdue hdr.out (q : Int) x).mono ?_; rintro e w2 ⟨rfl, hB2⟩; rw [hvd.out]; have K2 := Lib.hid ((hB2.cell (p := ⟨b, o + j, none⟩) hblt).trans K1.out); have hB3 := Lib.hid hB2; clear hB2; dsimp only))
          refine hK.out _ _ ?_ (fun hHeld1 => ?_)
          · (try dsimp only); (first | with_reducible exact K1.out | with_reducible exact K2.out)
          clear hK K
          try simp only [Act.put, List.setIfInBounds_toArray, List.set_cons_zero, List.set_cons_succ]
          (try clear hHeld0)
          refine wpAnyH_ready (rs := [13]) (by kernel_rfl) (by simp) ?_
          refine xcons 13 rfl (fun K hK => ?_) ?_
          focus
            (first
              | (go_simp; go_at_call 71; refine (rhas l n cap (q : Int) x ao B wr.drew Hn.out (by omega) hlr.out.hs ham.out).mono ?_; rintro e w2 ⟨rfl, rfl⟩; rw [hvh.out]; dsimp only)
              | (go_simp; go_at_call 116; refine (rdue hdr.out (q : Int) x).mono ?_; rintro e w2 ⟨rfl, hB2⟩; rw [hvd.out]; have K2 := Lib.hid ((hB2.cell (p := ⟨b, o + j, none⟩) hblt).trans K1.out); have hB3 := Lib.hid hB2; clear hB2; dsimp only))
            refine hK.out _ _ ?_ (fun hHeld2 => ?_)
            · (try dsimp only); (first | with_reducible exact K1.out | with_reducible exact K2.out)
            clear hK K
            try simp only [Act.put, List.setIfInBounds_toArray, List.set_cons_zero, List.set_cons_succ]
            (try clear hHeld1)
            refine xtake 14 (v := ?_) rfl (by kernel_rfl) (by kernel_rfl) (by kernel_rfl) rfl ?_ ?_ (by assumption) ?_
            rotate_left
            · intro w hSw; (try dsimp only at hSw); go_simp; with_reducible rfl
            · (exact fun _ _ _ hp => hp)
            try simp only [Act.put, List.setIfInBounds_toArray, List.set_cons_zero, List.set_cons_succ]
            refine xtake 15 (v := ?_) rfl (by kernel_rfl) (by kernel_rfl) (by kernel_rfl) rfl ?_ ?_ (by assumption) ?_
            rotate_left
            · intro w hSw; (try dsimp only at hSw); go_simp; with_reducible rfl
            · (exact fun _ _ _ hp => hp)
            try simp only [Act.put, List.setIfInBounds_toArray, List.set_cons_zero, List.set_cons_succ]
            refine wpAnyH_done (by kernel_rfl) ?_ _
            (revert hHeld2; intro _)
          rotate_left 1
          exact AllReadyH.nil
        rotate_left 1
        exact AllReadyH.nil
        have hc2 := K2.out
        have hHd := Lib.hid (hbd.out.trans (hB3.out.mono hwk))
        have hwk2 : sb ≤ w2.heap.size := Nat.le_trans hwk hB3.out.size
        have how2 := Lib.hid (own_after howd.out hB3.out)
        obtain ⟨ol, hol⟩ : ∃ ol, overI l d j ++ (List.range q).filterMap (overF l d x) = ol := ⟨_, rfl⟩
        have hst : Hid (overI l d j ++ (List.range (q + 1)).filterMap (overF l d x) = ol ++ (overF l d x q).toList) := by
          show _ = _; rw [range_step, ← List.append_assoc, hol]
        rw [hol] at how2 hlq
        revert ‹w2.cell? _ = _›
        intro _
        clear K1 K2 hlr hdr hbd howd hB3 hol hblt
        by_cases hpos : 0 < vh - vd
        case pos =>
          have ho : overF l d x q = some ⟨q, x, vh - vd⟩ := by unfold overF; rw [hvh.out, hvd.out, if_pos hpos]
          replace hst : Hid (overI l d j ++ (List.range (q + 1)).filterMap (overF l d x) = ol ++ [⟨q, x, vh - vd⟩]) := by show _ = _; rw [hst.out, ho]; rfl
          obtain ⟨z, hz⟩ : ∃ z, vh - vd = z := ⟨_, rfl⟩
          rw [hz] at hpos hst ⊢
          clear hz hw1 ho
          have hE := Lib.hid (show Below w2.heap.size w2 (w2.alloc (.cells #[.int .i64 q, .int .i64 x, .int .i64 z] 63)) from (Below.refl _ _).alloc (Nat.le_refl _) _)
          have hone := Lib.hid (one_due w2 ⟨q, x, z⟩)
          have how3 := Lib.hid (own_after how2.out hE.out)
          go_wp2_with (at_builtin; refine list_append_kd kdDue rfl _ _ _ [⟨q, x, z⟩] 1 1 _ rfl rfl rfl sb _ _ how3.out _ rfl hone.out (fun ad h => by cases h; exact ⟨_, _, rfl⟩) (by omega) (by simp; omega) ?_; intro v3 w3 hown3 hgr3)
          have hB4 := (hHd.out.alloc hwk2 (.cells #[.int .i64 q, .int .i64 x, .int .i64 z] 63)).grown hgr3 (by simp; omega) (own_far how3.out)
          go_roundw
          case rel =>
            refine ⟨q + 1, by omega, by go_num, hB4, Nat.le_trans hwk2 (Nat.le_trans hE.out.size hgr3.size), ?_⟩
            show World.ownsRow _ _ _ _ _ _ _
            rw [hst.out, flat_app, List.length_append]
            exact hown3
          case measure => simp [intOf]; omega
        case neg =>
          have ho : overF l d x q = none := by unfold overF; rw [hvh.out, hvd.out, if_neg hpos]
          replace hst : Hid (overI l d j ++ (List.range (q + 1)).filterMap (overF l d x) = ol ++ []) := by show _ = _; rw [hst.out, ho]; rfl
          go_wp2
          go_roundw
          case rel =>
            refine ⟨q + 1, by omega, by go_num, hHd.out, hwk2, ?_⟩
            show World.ownsRow _ _ _ _ _ _ _
            rw [hst.out, List.append_nil]
            exact how2.out
          case measure => simp [intOf]; omega
      case neg =>
        obtain rfl : 41 = q := by omega
        have hstep := Lib.hid (overI_succ (d := d) hx.out)
        rw [← hstep.out] at howk
        replace hbk' := Lib.hid hbk'
        go_wp2
        go_roundw
        case rel => exact ⟨j + 1, by omega, by go_num, hbk'.out, hwk, howk⟩
        case measure => simp [intOf]; omega
    · obtain rfl : np = j := by omega
      rw [hpn.out] at hown
      go_wp2
      go_ret
      obtain ⟨a3, c3, e3, _⟩ := own_had hown.out
      refine ⟨hB1.out.trans (hb.mono (by have := hsb.out; have := hB1.out.size; omega)), _, rfl, ⟨a3, c3, e3⟩, own_base hown.out (by have := hsb.out; have := hB1.out.size; omega)⟩
end Go.Proofs.YtoijlikmigejbaaGreat
