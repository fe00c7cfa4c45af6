/- Walks: the reference's Open, Over, Settled, Covered. -/
import Derived.Test.YtoijlikmigejbaaGreatCRhB
import Derived.Test.YtoijlikmigejbaaGreatCSgE
import Derived.Test.YtoijlikmigejbaaGreatG01
namespace Go.Proofs.YtoijlikmigejbaaGreat
open Go.RowKit Go.Proofs.YtoijlikmigejbaaGreat.Pu

def openQ (l : List Post) (d : List Due) : List Due := if compCode l d = 0 then openL l d else []
def overQ (l : List Post) (d : List Due) : List Due := if compCode l d = 0 then overL l d else []
def covQ (l : List Post) (d : List Due) : List Int := if compCode l d = 0 then covL l d else []
theorem comp_parts {l : List Post} {d : List Due} (h : compCode l d = 0) : Book l ∧ chkL okD ltD d = 0 := by
  by_cases h1 : (check l).2 = 0
  · have hb := book_of_check h1
    rw [compCode_d hb] at h
    exact ⟨hb, h⟩
  · rw [compCode_no h1] at h; exact absurd h h1

set_option maxRecDepth 100000 in
set_option maxHeartbeats 4000000 in
theorem rOpen {l : List Post} {d : List Due} {n cap n2 cap2 : Nat} {ao ao2 : Option Addr} {B : Nat} {w : World} (h : LIn l n cap ao B w) (hd : DIn d n2 cap2 ao2 B w) :
    Calls Tryz.prog 46 #[.slice ao n cap, .slice ao2 n2 cap2] w (RowE 63 3 dcells (openQ l d) (compCode l d) w) := by
  have hn := Lib.hid h.hn
  have hmm := h.hm
  have hn2 := Lib.hid hd.hn
  have hB := h.hB
  obtain ⟨cc, hcc⟩ : ∃ cc, Hid (compCode l d = cc) := ⟨_, rfl⟩
  obtain ⟨sb, hsb⟩ : ∃ sb, Hid (w.heap.size = sb) := ⟨_, rfl⟩
  rw [hsb.out] at hB
  replace h := Lib.hid h
  replace hd := Lib.hid hd
  have hsz : sb ≤ w.heap.size := by rw [hsb.out]; exact Nat.le_refl _
  go_enter Tryz.func46, Tryz.ntmps46
  go_wp2_with (fail)
  go_at_call 107
  refine (rcompared h.out hd.out).mono ?_
  rintro e w1 ⟨rfl, hB1⟩
  rw [hcc.out]
  have hl1 := Lib.hid (h.out.after hB1)
  rw [hsb.out] at hB1
  have hsz1 := hB1.size
  replace hB1 := Lib.hid hB1
  by_cases h0 : cc = 0
  case neg =>
    have hq : Hid (openQ l d = []) := by show _ = _; unfold openQ; rw [if_neg (by rw [hcc.out]; exact h0)]
    have hne : (cc == 0) = false := by simpa using h0
    replace h0 := Lib.hid h0
    go_wp2
    go_loopw [7, 8] (fun v i wr => v = .slice none 0 0 ∧ i = .int .i64 0 ∧ wr = w1) (fun _ _ _ => 0)
    case atStart => exact ⟨rfl, rfl, rfl⟩
    case round =>
      obtain ⟨rfl, rfl, rfl⟩ := hrel
      by_cases hn0 : 0 < n2
      all_goals
        go_wp2
        go_ret2
        exact ⟨by rw [hsb.out]; exact hB1.out, none, 0, by rw [hq.out, hcc.out]; rfl, by rw [hq.out]; exact World.ownsRow_nil _ _ _ _⟩
  case pos =>
  have hq : Hid (openQ l d = openL l d) := by show _ = _; unfold openQ; rw [if_pos (by rw [hcc.out]; exact h0)]
  have hbk := Lib.hid (comp_parts (hcc.out.trans h0)).1
  have hok := Lib.hid (comp_parts (hcc.out.trans h0)).2
  have ham := Lib.hid (Book.amtOk hbk.out)
  have hlen : n2 ≤ 400 := by rw [hn2.out]; exact chkL_len hok.out
  subst h0
  go_wp2
  go_loopw [7, 8] (fun v i wr => ∃ j : Nat, j ≤ n2 ∧ i = .int .i64 j ∧ Below sb w wr ∧ Hid (wr.ownsRow sb 63 3 v (openL l (d.take j)).length (flat dcells (openL l (d.take j))))) (fun _ i _ => n2 - (intOf i).toNat)
  case atStart => exact ⟨0, Nat.zero_le _, rfl, hB1.out, World.ownsRow_nil _ _ _ _⟩
  case round =>
    obtain ⟨j, hj, rfl, hb, hown⟩ := hrel
    have hlr := Lib.hid (h.out.below (hb.mono hB))
    have hdr := Lib.hid (hd.out.below (hb.mono hB))
    have hwr : sb ≤ wr.heap.size := Nat.le_trans hsz hb.size
    have hll : (openL l (d.take j)).length ≤ 400 := by have h1 := openL_len l (d.take j); rw [List.length_take] at h1; omega
    by_cases hlt : j < n2
    case pos =>
      obtain ⟨x, hx⟩ := getq (l := d) (j := j) (by rw [← hn2.out]; exact hlt)
      have hxa := okD_mem hok.out (List.mem_of_getElem? hx)
      have hst : openL l (d.take (j + 1)) = openL l (d.take j) ++ (openD l x).toList := by
        rw [take_snoc hx]; unfold openL; rw [List.filterMap_append]; cases hf : openD l x <;> simp [hf]
      obtain ⟨L, hL⟩ : ∃ L, openL l (d.take j) = L := ⟨_, rfl⟩
      rw [hL] at hst hown hll
      have hvb := Book.has_le hbk.out x.party x.parcel
      obtain ⟨hv, hhv⟩ : ∃ hv, Hid (Pu.has l x.party x.parcel = hv) := ⟨_, rfl⟩
      rw [hhv.out] at hvb
      have hst2 : Hid (openL l (d.take (j + 1)) = L ++ (if 0 < x.amount - hv then [⟨x.party, x.parcel, x.amount - hv⟩] else [])) := by
        show _ = _; rw [hst]; unfold openD; rw [hhv.out]; split <;> rfl
      obtain ⟨b, o, rfl, hb0, c0, c1, c2⟩ := hdr.out.hs.due hx
      have hbsb : b < sb := by omega
      have hw1 : IntKind.i64.wrap (x.amount - hv) = x.amount - hv := IntWalk.i64_in _ (by omega)
      replace hb := Lib.hid hb
      clear hL hst hx hdr
      have hRhas : Hid (∀ m, Calls Tryz.prog 71 #[.slice ao n cap, .int .i64 x.party, .int .i64 x.parcel] (wr.drewN m) fun e w' => e = .returned (.int .i64 hv) ∧ wr.drewN m = w') := fun m => by
        have := rhas l n cap x.party x.parcel ao B (wr.drewN m) hn hmm (hlr.out.hs.below (below_drewN (Below.refl _ _) _)) ham.out
        rw [hhv.out] at this; exact this
      go_wp2
      go_quiet ((go_at_call 71; exact quietS (hRhas.out _)))
      have hbq := Lib.hid (below_drewN hb.out nq)
      have hownq := Lib.hid (own_after hown.out (below_drewN (Below.refl _ _) nq))
      have c0' : (wr.drewN nq).cell? ⟨b, o + j * 3, none⟩ = some (.int .i64 x.party) := c0
      have c1' : (wr.drewN nq).cell? ⟨b, o + j * 3 + 1, none⟩ = some (.int .i64 x.parcel) := c1
      have hwq : sb ≤ (wr.drewN nq).heap.size := hwr
      obtain ⟨W, hW⟩ : ∃ W, wr.drewN nq = W := ⟨_, rfl⟩
      rw [hW] at hbq hownq c0' c1' hwq ⊢
      clear hW c0 c1 c2 hb hown hlr hwr
      by_cases hpos : 0 < x.amount - hv
      case neg =>
        go_wp2
        go_roundw
        case rel => exact ⟨j + 1, by omega, by go_num, hbq.out, by show World.ownsRow _ _ _ _ _ _ _; rw [hst2.out, if_neg hpos, List.append_nil]; exact hownq.out⟩
        case measure => simp [intOf]; omega
      case pos =>
        rw [if_pos hpos] at hst2
        obtain ⟨z, hz⟩ : ∃ z, x.amount - hv = z := ⟨_, rfl⟩
        rw [hz] at hpos hst2 ⊢
        clear hz hw1
        have hbW : b < W.heap.size := by omega
        have hcl : Hid (∀ W' : World, Below W.heap.size W W' → W'.cell? ⟨b, o + j * 3, none⟩ = some (.int .i64 x.party) ∧ W'.cell? ⟨b, o + j * 3 + 1, none⟩ = some (.int .i64 x.parcel)) := fun W' hB' =>
          ⟨(hB'.cell (p := ⟨b, o + j * 3, none⟩) hbW).trans c0', (hB'.cell (p := ⟨b, o + j * 3 + 1, none⟩) hbW).trans c1'⟩
        have b0 := Lib.hid (Below.refl W.heap.size W).drew
        have bA := Lib.hid (fun o => ((Below.refl W.heap.size W).alloc (Nat.le_refl _) o).drew)
        have hownA := Lib.hid (fun o => own_after hownq.out (bA.out o))
        obtain ⟨i0, hi, hz0, hz1, hz2⟩ := info_parts infoDue
        go_wp2
        refine wp_region_held_drew (S := (fun w' => w'.cell? ⟨b, o + j * 3, none⟩ = some (.int .i64 x.party) ∧ w'.cell? ⟨b, o + j * 3 + 1, none⟩ = some (.int .i64 x.parcel))) (by kernel_rfl) ?_ (fun hHeld0 => ?_)
        · (try dsimp only); (first
                              | with_reducible exact hcl.out _ b0.out
                              | with_reducible exact hcl.out _ (bA.out _)
                              | with_reducible exact hS3.out)
        refine xtake 0 (v := ?_) rfl (by kernel_rfl) (by kernel_rfl) (by kernel_rfl) rfl ?_ ?_ (by assumption) ?_
        rotate_left
        · intro w hSw; (try dsimp only at hSw); go_simp; with_reducible rfl
        · (exact fun _ _ _ hp => hp)
        try simp only [Act.put, List.setIfInBounds_toArray, List.set_cons_zero, List.set_cons_succ]
        refine xtake 1 (v := ?_) rfl (by kernel_rfl) (by kernel_rfl) (by kernel_rfl) rfl ?_ ?_ (by assumption) ?_
        rotate_left
        · intro w hSw; (try dsimp only at hSw); go_simp; with_reducible rfl
        · (exact fun _ _ _ hp => hp)
        try simp only [Act.put, List.setIfInBounds_toArray, List.set_cons_zero, List.set_cons_succ]
        refine xtake 2 (v := ?_) rfl (by kernel_rfl) (by kernel_rfl) (by kernel_rfl) rfl ?_ ?_ (by assumption) ?_
        rotate_left
        · intro w hSw; (try dsimp only at hSw); go_simp; with_reducible rfl
        · (exact fun _ _ _ hp => hp)
        try simp only [Act.put, List.setIfInBounds_toArray, List.set_cons_zero, List.set_cons_succ]
        refine xtake 3 (v := ?_) rfl (by kernel_rfl) (by kernel_rfl) (by kernel_rfl) rfl ?_ ?_ (by assumption) ?_
        rotate_left
        · intro w hSw; (try dsimp only at hSw); go_simp; with_reducible rfl
        · (exact fun _ _ _ hp => hp)
        try simp only [Act.put, List.setIfInBounds_toArray, List.set_cons_zero, List.set_cons_succ]
        refine xtake 4 (v := ?_) rfl (by kernel_rfl) (by kernel_rfl) (by kernel_rfl) rfl ?_ ?_ (by assumption) ?_
        rotate_left
        · intro w hSw; (try dsimp only at hSw); go_simp; with_reducible rfl
        · (exact fun _ _ _ hp => hp)
        try simp only [Act.put, List.setIfInBounds_toArray, List.set_cons_zero, List.set_cons_succ]
        refine xtake 5 (v := ?_) rfl (by kernel_rfl) (by kernel_rfl) (by kernel_rfl) rfl ?_ ?_ (by assumption) ?_
        rotate_left
        · intro w hSw; (try dsimp only at hSw); go_simp; with_reducible rfl
        · (exact fun _ _ _ hp => hp)
        try simp only [Act.put, List.setIfInBounds_toArray, List.set_cons_zero, List.set_cons_succ]
        refine xtake 6 (v := ?_) rfl (by kernel_rfl) (by kernel_rfl) (by kernel_rfl) rfl ?_ ?_ (by assumption) ?_
        rotate_left
        · intro w hSw; (try dsimp only at hSw); go_simp; with_reducible rfl
        · (exact fun _ _ _ hp => hp)
        try simp only [Act.put, List.setIfInBounds_toArray, List.set_cons_zero, List.set_cons_succ]
        refine xtake 7 (v := ?_) rfl (by kernel_rfl) (by kernel_rfl) (by kernel_rfl) rfl ?_ ?_ (by assumption) ?_
        rotate_left
        · intro w hSw; (try dsimp only at hSw); go_simp; with_reducible rfl
        · (exact fun _ _ _ hp => hp)
        try simp only [Act.put, List.setIfInBounds_toArray, List.set_cons_zero, List.set_cons_succ]
        refine xtake 8 (v := ?_) rfl (by kernel_rfl) (by kernel_rfl) (by kernel_rfl) rfl ?_ ?_ (by assumption) ?_
        rotate_left
        · intro w hSw; (try dsimp only at hSw); go_simp; with_reducible rfl
        · (exact fun _ _ _ hp => hp)
        try simp only [Act.put, List.setIfInBounds_toArray, List.set_cons_zero, List.set_cons_succ]
        refine xtake 9 (v := ?_) rfl (by kernel_rfl) (by kernel_rfl) (by kernel_rfl) rfl ?_ ?_ (by assumption) ?_
        rotate_left
        · intro w hSw; (try dsimp only at hSw); go_simp; with_reducible rfl
        · (exact fun _ _ _ hp => hp)
        try simp only [Act.put, List.setIfInBounds_toArray, List.set_cons_zero, List.set_cons_succ]
        refine xtake 10 (v := ?_) rfl (by kernel_rfl) (by kernel_rfl) (by kernel_rfl) rfl ?_ ?_ (by assumption) ?_
        rotate_left
        · intro w hSw; (try dsimp only at hSw); go_simp; with_reducible rfl
        · (exact fun _ _ _ hp => hp)
        try simp only [Act.put, List.setIfInBounds_toArray, List.set_cons_zero, List.set_cons_succ]
        refine xtake 11 (v := ?_) rfl (by kernel_rfl) (by kernel_rfl) (by kernel_rfl) rfl ?_ ?_ (by assumption) ?_
        rotate_left
        · intro w hSw; (try dsimp only at hSw); go_simp; with_reducible rfl
        · (exact fun _ _ _ hp => hp)
        try simp only [Act.put, List.setIfInBounds_toArray, List.set_cons_zero, List.set_cons_succ]
        refine xtake 12 (v := ?_) rfl (by kernel_rfl) (by kernel_rfl) (by kernel_rfl) rfl ?_ ?_ (by assumption) ?_
        rotate_left
        · intro w hSw; (try dsimp only at hSw); go_simp; with_reducible rfl
        · (exact fun _ _ _ hp => hp)
        try simp only [Act.put, List.setIfInBounds_toArray, List.set_cons_zero, List.set_cons_succ]
        refine wpAnyH_ready (rs := [13]) (by kernel_rfl) (by simp) ?_
        refine xcons 13 rfl (fun K hK => ?_) ?_
        focus
          go_simp
          refine hK.out _ _ ?_ (fun hHeld1 => ?_)
          · (try dsimp only); (first
                                | with_reducible exact hcl.out _ b0.out
                                | with_reducible exact hcl.out _ (bA.out _)
                                | with_reducible exact hS3.out)
          clear hK K
          try simp only [Act.put, List.setIfInBounds_toArray, List.set_cons_zero, List.set_cons_succ]
          (try clear hHeld0)
          refine wpAnyH_ready (rs := [14]) (by kernel_rfl) (by simp) ?_
          refine xcons 14 rfl (fun K hK => ?_) ?_
          focus
            (first
              | (refine step_append_lies _ (by rfl) _ _ _ (by rfl) sb 63 i0 _ 3 24 Tryz.underlying23 hi hz0 hz1 hz2 rfl (by omega) _ _ _ (by rfl) (hownA.out _) ⟨W.heap.size, 0, none⟩ 1 1 (dcells ⟨x.party, x.parcel, z⟩) (by rfl) rfl
                   (World.news_of_block (cs := (dcells ⟨x.party, x.parcel, z⟩).toArray) (t := 63) (fr := (0, 0)) (heap_alloc_new W _)) (dcells_cell _) (by omega) (by unfold maxLen; omega) (by omega) (by simp; omega) _ rfl ?_
                 intro g3 cap3 w3 hown3 hgr3 _ _
                 have hB4 := Lib.hid ((hbq.out.trans ((bA.out _).mono hwq)).grown hgr3 (by simp; omega) (own_far (hownA.out (.cells #[.int .i64 x.party, .int .i64 x.parcel, .int .i64 z] 63))))
                 have hS3 : Hid (w3.cell? ⟨b, o + j * 3, none⟩ = some (.int .i64 x.party) ∧ w3.cell? ⟨b, o + j * 3 + 1, none⟩ = some (.int .i64 x.parcel)) := by
                   have e1 : w3.heap[b]? = (W.alloc (.cells #[.int .i64 x.party, .int .i64 x.parcel, .int .i64 z] 63)).drew.heap[b]? := hgr3.block b (by simp; omega) (fun e => by have := own_far (hownA.out (.cells #[.int .i64 x.party, .int .i64 x.parcel, .int .i64 z] 63)) b e.symm; omega)
                   have h := hcl.out _ (bA.out (.cells #[.int .i64 x.party, .int .i64 x.parcel, .int .i64 z] 63))
                   exact ⟨(World.cell?_of_block e1).trans h.1, (World.cell?_of_block e1).trans h.2⟩
                 replace hown3 := Lib.hid hown3
                 clear hgr3
                 dsimp only))
            refine hK.out _ _ ?_ (fun hHeld2 => ?_)
            · (try dsimp only); (first
                                  | with_reducible exact hcl.out _ b0.out
                                  | with_reducible exact hcl.out _ (bA.out _)
                                  | with_reducible exact hS3.out)
            clear hK K
            try simp only [Act.put, List.setIfInBounds_toArray, List.set_cons_zero, List.set_cons_succ]
            (try clear hHeld1)
            refine xtake 15 (v := ?_) rfl (by kernel_rfl) (by kernel_rfl) (by kernel_rfl) rfl ?_ ?_ (by assumption) ?_
            rotate_left
            · intro w hSw; (try dsimp only at hSw); go_simp; with_reducible rfl
            · (exact fun _ _ _ hp => hp)
            try simp only [Act.put, List.setIfInBounds_toArray, List.set_cons_zero, List.set_cons_succ]
            refine wpAnyH_done (by kernel_rfl) ?_ _
            (revert hHeld2; intro _)
          rotate_left 1
          exact AllReadyH.nil
        rotate_left 1
        exact AllReadyH.nil
        clear hS3 hcl b0 bA hownA hi hz0 hz1 hz2
        go_wp2
        go_roundw
        case rel =>
          refine ⟨j + 1, by omega, by go_num, hB4.out, ?_⟩
          show World.ownsRow _ _ _ _ _ _ _
          rw [hst2.out, flat_app, List.length_append]
          exact hown3.out
        case measure => simp [intOf]; omega
    case neg =>
      obtain rfl : n2 = j := by omega
      have e : d.take n2 = d := by rw [hn2.out]; exact List.take_length
      rw [e] at hown hll
      obtain ⟨av, cv, rfl⟩ := own_form hown.out
      have hres : Hid (RowE 63 3 dcells (openQ l d) (compCode l d) w (.returned (.tuple #[.slice av (openL l d).length cv, .int .i64 0])) wr) :=
        ⟨by rw [hsb.out]; exact hb, av, cv, by rw [hq.out, hcc.out], by rw [hq.out, hsb.out]; exact hown.out⟩
      clear hown hb e hll hlr hdr
      go_wp2
      go_ret2
      exact hres.out

set_option maxRecDepth 100000 in
set_option maxHeartbeats 4000000 in
theorem rOver {l : List Post} {d : List Due} {n cap n2 cap2 : Nat} {ao ao2 : Option Addr} {B : Nat} {w : World} (h : LIn l n cap ao B w) (hd : DIn d n2 cap2 ao2 B w) (hm : n ≤ 1000) :
    Calls Tryz.prog 48 #[.slice ao n cap, .slice ao2 n2 cap2] w (RowE 63 3 dcells (overQ l d) (compCode l d) w) := by
  obtain ⟨cc, hcc⟩ : ∃ cc, Hid (compCode l d = cc) := ⟨_, rfl⟩
  replace h := Lib.hid h
  replace hd := Lib.hid hd
  by_cases h0 : cc = 0
  case neg =>
    have hq : Hid (overQ l d = []) := by show _ = _; unfold overQ; rw [if_neg (by rw [hcc.out]; exact h0)]
    have hne : (cc != 0) = true := by simpa using h0
    replace h0 := Lib.hid h0
    go_enter Tryz.func48, Tryz.ntmps48
    go_wp2_with (go_at_call 107; refine (rcompared h.out hd.out).mono ?_; rintro e w1 ⟨rfl, hB1⟩; rw [hcc.out])
    go_ret2
    exact ⟨hB1, none, 0, by rw [hq.out, hcc.out]; rfl, by rw [hq.out]; exact World.ownsRow_nil _ _ _ _⟩
  case pos =>
  have hq : Hid (overQ l d = overL l d) := by show _ = _; unfold overQ; rw [if_pos (by rw [hcc.out]; exact h0)]
  have hbk := Lib.hid (comp_parts (hcc.out.trans h0)).1
  have hok := Lib.hid (comp_parts (hcc.out.trans h0)).2
  have hdd := Lib.hid (okD_amount hok.out)
  have hoi : Hid (overI l d (parcels l).length = overL l d) := by
    show _ = _; unfold overI; rw [List.take_length, over_grid (chkL_pair hok.out) hdd.out]
  subst h0
  go_enter Tryz.func48, Tryz.ntmps48
  go_wp2_with (first
    | (go_at_call 107; refine (rcompared h.out hd.out).mono ?_; rintro e w1 ⟨rfl, hB1⟩; rw [hcc.out]
       have hl1 := Lib.hid (h.out.after hB1)
       have hd1 := Lib.hid (hd.out.after hB1))
    | (go_at_call 68; refine (rover hl1.out hm hbk hd1.out hdd).mono ?_; rintro e w2 ⟨hB2, v2, rfl, ⟨av, cv, rfl⟩, hown2⟩
       rw [hoi.out] at hown2 ⊢
       replace hown2 := Lib.hid hown2
       replace hB2 := Lib.hid hB2))
  go_ret2
  exact ⟨hB1.trans (hB2.out.mono hB1.size), av, cv, by rw [hq.out, hcc.out]; rfl, by rw [hq.out]; exact own_base hown2.out hB1.size⟩

theorem settled_ref {l : List Post} {d : List Due} (hok : chkL okD ltD d = 0) : settledB l d = (d.all (fun x => x.amount == Pu.has l x.party x.parcel) && ((overL l d).length == 0)) := by
  unfold settledB
  by_cases ho : (overL l d).length = 0
  case neg =>
    have : ((overL l d).length == 0) = false := by simpa using ho
    rw [this, Bool.and_false, Bool.and_false]
  case pos =>
  rw [ho]
  have ho := List.length_eq_zero_iff.1 ho
  simp only [beq_self_eq_true, Bool.and_true]
  by_cases ha : d.all (fun x => x.amount == Pu.has l x.party x.parcel) = true
  · rw [ha]
    have : openL l d = [] := by
      rw [List.eq_nil_iff_forall_not_mem]
      intro z hz
      obtain ⟨e, he, _, h2⟩ := mem_open.1 hz
      have := List.all_eq_true.1 ha e he
      simp only [beq_iff_eq] at this
      omega
    rw [this]; rfl
  · have hx : openL l d ≠ [] := fun hop => by
      refine ha (List.all_eq_true.2 fun e he => ?_)
      have h1 : ¬ 0 < e.amount - Pu.has l e.party e.parcel := fun h => by
        have := mem_open.2 ⟨e, he, rfl, h⟩
        rw [hop] at this; simp at this
      have h2 : ¬ gd (amtsM d) (e.parcel, e.party) < Pu.has l e.party e.parcel := fun h => by
        have hG := (amts_bd (okD_amount hok) (e.parcel, e.party)).1
        have hin := okD_mem hok he
        have : (⟨e.party, e.parcel, Pu.has l e.party e.parcel - gd (amtsM d) (e.parcel, e.party)⟩ : Due) ∈ overL l d := by
          refine List.mem_filterMap.2 ⟨(e.parcel, e.party), (mem_accL _ _).2 ⟨has_parcel (y := e.party) (by omega), hin.1, hin.2.1, by omega⟩, ?_⟩
          unfold overD
          dsimp only
          rw [if_pos (by omega)]
        rw [ho] at this
        simp at this
      rw [amts_get (chkL_pair hok) he] at h2
      simp only [beq_iff_eq]
      omega
    rw [Bool.not_eq_true] at ha
    rw [ha]
    simpa using hx

set_option maxRecDepth 100000 in
set_option maxHeartbeats 4000000 in
theorem rSettled {l : List Post} {d : List Due} {n cap n2 cap2 : Nat} {ao ao2 : Option Addr} {B : Nat} {w : World} (h : LIn l n cap ao B w) (hd : DIn d n2 cap2 ao2 B w) (hm : n ≤ 1000) :
    Calls Tryz.prog 50 #[.slice ao n cap, .slice ao2 n2 cap2] w (SettledRes l d w) := by
  have hn := Lib.hid h.hn
  have hmm := h.hm
  have hn2 := Lib.hid hd.hn
  have hB := h.hB
  obtain ⟨cc, hcc⟩ : ∃ cc, Hid (compCode l d = cc) := ⟨_, rfl⟩
  replace h := Lib.hid h
  replace hd := Lib.hid hd
  by_cases h0 : cc = 0
  case neg =>
    have hres : Hid (∀ W, Below w.heap.size w W → SettledRes l d w (.returned (.tuple #[.bool false, .int .i64 cc])) W) := fun W hB => ⟨hB, by rw [hcc.out, if_neg h0]⟩
    have hne : (cc != 0) = true := by simpa using h0
    replace h0 := Lib.hid h0
    go_enter Tryz.func50, Tryz.ntmps50
    go_wp2_with (go_at_call 107; refine (rcompared h.out hd.out).mono ?_; rintro e w1 ⟨rfl, hB1⟩; rw [hcc.out])
    go_ret2
    exact hres.out _ hB1
  case pos =>
  have hbk := Lib.hid (comp_parts (hcc.out.trans h0)).1
  have hok := Lib.hid (comp_parts (hcc.out.trans h0)).2
  have hdd := Lib.hid (okD_amount hok.out)
  have ham := Lib.hid (Book.amtOk hbk.out)
  have hoi : Hid (overI l d (parcels l).length = overL l d) := by
    show _ = _; unfold overI; rw [List.take_length, over_grid (chkL_pair hok.out) hdd.out]
  have hset := Lib.hid (settled_ref (l := l) hok.out)
  have hlen : n2 ≤ 400 := by rw [hn2.out]; exact chkL_len hok.out
  have hres : Hid (∀ b W, settledB l d = b → Below w.heap.size w W → SettledRes l d w (.returned (.tuple #[.bool b, .int .i64 0])) W) := fun b W he hB => ⟨hB, by rw [hcc.out, if_pos h0, he, h0]⟩
  subst h0
  go_enter Tryz.func50, Tryz.ntmps50
  go_wp2_with (fail)
  go_at_call 107
  refine (rcompared h.out hd.out).mono ?_
  rintro e w1 ⟨rfl, hB1⟩
  rw [hcc.out]
  have hl1 := Lib.hid (h.out.after hB1)
  have hd1 := Lib.hid (hd.out.after hB1)
  have hB2 := hl1.out.hB
  have hrefl := Lib.hid (Below.refl w1.heap.size w1)
  have hs1 := hB1.size
  replace hB1 := Lib.hid hB1
  go_wp2
  go_loopw [7] (fun i wr => ∃ j : Nat, j ≤ n2 ∧ i = .int .i64 j ∧ Below w1.heap.size w1 wr ∧ Hid (∀ i x, i < j → d[i]? = some x → x.amount = Pu.has l x.party x.parcel)) (fun i _ => n2 - (intOf i).toNat)
  case atStart => exact ⟨0, Nat.zero_le _, rfl, hrefl.out, fun i x hi => by omega⟩
  case round =>
    obtain ⟨j, hj, rfl, hb, hall⟩ := hrel
    have hlr := Lib.hid (hl1.out.after hb)
    have hdr := Lib.hid (hd1.out.after hb)
    have hbw := Lib.hid (hB1.out.trans (hb.mono hs1))
    have hwz := hbw.out.size
    by_cases hlt : j < n2
    case pos =>
      obtain ⟨x, hx⟩ := getq (l := d) (j := j) (by rw [← hn2.out]; exact hlt)
      obtain ⟨hv, hhv⟩ : ∃ hv, Hid (Pu.has l x.party x.parcel = hv) := ⟨_, rfl⟩
      obtain ⟨b, o, rfl, hb0, c0, c1, c2⟩ := hdr.out.hs.due hx
      replace hb := Lib.hid hb
      by_cases heq : x.amount = hv
      case pos =>
        have hg : (x.amount != hv) = false := by simpa using heq
        have hstep : Hid (∀ i x, i < j + 1 → d[i]? = some x → x.amount = Pu.has l x.party x.parcel) := fun i y hi hy => by
          by_cases e : i = j
          · subst e; rw [hx] at hy; cases hy; rw [hhv.out]; exact heq
          · exact hall.out i y (by omega) hy
        replace heq := Lib.hid heq
        clear hx hdr
        have hRhas : Hid (∀ m, Calls Tryz.prog 71 #[.slice ao n cap, .int .i64 x.party, .int .i64 x.parcel] (wr.drewN m) fun e w' => e = .returned (.int .i64 hv) ∧ wr.drewN m = w') := fun m => by
          have := rhas l n cap x.party x.parcel ao B (wr.drewN m) hn hmm (hlr.out.hs.below (below_drewN (Below.refl _ _) _)) ham.out
          rw [hhv.out] at this; exact this
        go_wp2
        go_quiet ((go_at_call 71; exact quietS (hRhas.out _)))
        go_wp2
        go_roundw
        case rel => exact ⟨j + 1, by omega, by go_num, below_drewN hb.out _, hstep.out⟩
        case measure => simp [intOf]; omega
      case neg =>
        have hg : (x.amount != hv) = true := by simpa using heq
        have hfin : Hid (settledB l d = false) := by
          show _ = _
          rw [hset.out]
          have : d.all (fun x => x.amount == Pu.has l x.party x.parcel) = false := by
            rw [Bool.eq_false_iff]
            intro ha
            have := List.all_eq_true.1 ha x (List.mem_of_getElem? hx)
            simp only [beq_iff_eq] at this
            rw [hhv.out] at this
            exact heq this
          rw [this, Bool.false_and]
        replace heq := Lib.hid heq
        clear hx hdr
        have hRhas : Hid (∀ m, Calls Tryz.prog 71 #[.slice ao n cap, .int .i64 x.party, .int .i64 x.parcel] (wr.drewN m) fun e w' => e = .returned (.int .i64 hv) ∧ wr.drewN m = w') := fun m => by
          have := rhas l n cap x.party x.parcel ao B (wr.drewN m) hn hmm (hlr.out.hs.below (below_drewN (Below.refl _ _) _)) ham.out
          rw [hhv.out] at this; exact this
        go_wp2
        go_quiet ((go_at_call 71; exact quietS (hRhas.out _)))
        go_wp2
        go_ret2
        exact hres.out _ _ hfin.out (below_drewN hbw.out _)
    case neg =>
      obtain rfl : n2 = j := by omega
      have hev : Hid (settledB l d = ((overL l d).length == 0)) := by
        show _ = _
        rw [hset.out]
        have : d.all (fun x => x.amount == Pu.has l x.party x.parcel) = true := List.all_eq_true.2 fun x hx => by
          obtain ⟨i, hi, rfl⟩ := List.getElem_of_mem hx
          have := hall.out i _ (by rw [hn2.out]; exact hi) (List.getElem?_eq_getElem hi)
          simpa using this
        rw [this, Bool.true_and]
      clear hb hall
      obtain ⟨m, hm'⟩ : ∃ m, Hid ((overL l d).length = m) := ⟨_, rfl⟩
      rw [hm'.out] at hev
      have hmi : (((m : Nat) : Int) == 0) = (m == 0) := by rw [Bool.eq_iff_iff]; simp only [beq_iff_eq]; omega
      obtain ⟨bb, hbb⟩ : ∃ bb, (m == 0) = bb := ⟨_, rfl⟩
      rw [hbb] at hmi hev
      clear hbb
      go_wp2_with (go_at_call 68; refine (rover hlr.out hm hbk hdr.out hdd).mono ?_; rintro e w2 ⟨hB2, v2, rfl, ⟨av, cv, rfl⟩, hown2⟩; rw [hoi.out, hm'.out]; clear hown2; replace hB2 := Lib.hid (hbw.out.trans (hB2.mono hwz)))
      go_ret2
      exact hres.out _ _ hev.out hB2.out

/-- the first j dues: what is covered too little -/
def covF (l : List Post) (d r : List Due) : List Int := r.foldl (fun a x => if covT l d x.parcel then insA x.parcel a else a) []
theorem asc_covF (l : List Post) (d r : List Due) : (covF l d r).Pairwise (· < ·) := by
  have : ∀ (r : List Due) (a : List Int), a.Pairwise (· < ·) → (r.foldl (fun a x => if covT l d x.parcel then insA x.parcel a else a) a).Pairwise (· < ·) := fun r => by
    induction r with
    | nil => intro a h; exact h
    | cons x r ih =>
      intro a h
      rw [List.foldl_cons]
      refine ih _ ?_
      split
      · exact asc_insA _ a h
      · exact h
  exact this r [] List.Pairwise.nil
theorem mem_covF (l : List Post) (d : List Due) (y : Int) (r : List Due) : y ∈ covF l d r ↔ (∃ p ∈ r, p.parcel = y) ∧ covT l d y = true := by
  have : ∀ (r : List Due) (a : List Int), y ∈ r.foldl (fun a x => if covT l d x.parcel then insA x.parcel a else a) a ↔ y ∈ a ∨ (∃ p ∈ r, p.parcel = y) ∧ covT l d y = true := fun r => by
    induction r with
    | nil => intro a; simp
    | cons x r ih =>
      intro a
      rw [List.foldl_cons, ih]
      by_cases hc : covT l d x.parcel = true
      · rw [if_pos hc, mem_insA]
        constructor
        · rintro ((h | h) | ⟨⟨p, hp, h⟩, h2⟩)
          · subst h; exact .inr ⟨⟨x, List.mem_cons_self .., rfl⟩, hc⟩
          · exact .inl h
          · exact .inr ⟨⟨p, List.mem_cons_of_mem _ hp, h⟩, h2⟩
        · rintro (h | ⟨⟨p, hp, h⟩, h2⟩)
          · exact .inl (.inr h)
          · rcases List.mem_cons.1 hp with rfl | hp
            · exact .inl (.inl h.symm)
            · exact .inr ⟨⟨p, hp, h⟩, h2⟩
      · rw [if_neg hc]
        constructor
        · rintro (h | ⟨⟨p, hp, h⟩, h2⟩)
          · exact .inl h
          · exact .inr ⟨⟨p, List.mem_cons_of_mem _ hp, h⟩, h2⟩
        · rintro (h | ⟨⟨p, hp, h⟩, h2⟩)
          · exact .inl h
          · rcases List.mem_cons.1 hp with rfl | hp
            · rw [h] at hc; exact absurd h2 hc
            · exact .inr ⟨⟨p, hp, h⟩, h2⟩
  unfold covF
  rw [this]; simp
theorem covF_all (l : List Post) (d : List Due) : covF l d d = covL l d :=
  eq_of_strict (lt := fun x y : Int => x < y) (fun a => by omega) (fun a b c => by omega) (asc_covF l d d) ((asc_dparcels d).filter _) fun x => by
    unfold covL
    rw [mem_covF, List.mem_filter, mem_dparcels]
theorem covF_snoc {l : List Post} {d r : List Due} {j : Nat} {x : Due} (h : r[j]? = some x) : covF l d (r.take (j + 1)) = if covT l d x.parcel = true then insA x.parcel (covF l d (r.take j)) else covF l d (r.take j) := by
  rw [take_snoc h]; unfold covF; rw [List.foldl_append]; rfl
theorem covF_len (l : List Post) (d r : List Due) : (covF l d r).length ≤ r.length := by
  have h1 : ∀ (n : Int) (a : List Int), (insA n a).length ≤ a.length + 1 := fun n a => by
    induction a with
    | nil => simp [insA]
    | cons x r ih =>
      rw [insA]
      split
      · simp
      · split
        · simp
        · simp only [List.length_cons]; omega
  have : ∀ (r : List Due) (a : List Int), (r.foldl (fun a x => if covT l d x.parcel then insA x.parcel a else a) a).length ≤ a.length + r.length := fun r => by
    induction r with
    | nil => intro a; simp
    | cons x r ih =>
      intro a
      rw [List.foldl_cons]
      refine Nat.le_trans (ih _) ?_
      rw [List.length_cons]
      split
      · have := h1 x.parcel a; omega
      · omega
  have h2 := this r []
  unfold covF; simpa using h2
/-- a list of ints, and a code -/
def IResE (l : List Int) (code : Int) (w : World) (e : Ending) (w' : World) : Prop := Below w.heap.size w w' ∧ ∃ ao n cap, e = .returned (.tuple #[.slice ao n cap, .int .i64 code]) ∧ IIn l n cap ao w'.heap.size w'

set_option maxRecDepth 100000 in
set_option maxHeartbeats 4000000 in
theorem rCovered {l : List Post} {d : List Due} {n cap n2 cap2 : Nat} {ao ao2 : Option Addr} {B : Nat} {w : World} (h : LIn l n cap ao B w) (hd : DIn d n2 cap2 ao2 B w) :
    Calls Tryz.prog 52 #[.slice ao n cap, .slice ao2 n2 cap2] w (IResE (covQ l d) (compCode l d) w) := by
  have hn := Lib.hid h.hn
  have hmm := h.hm
  have hn2 := Lib.hid hd.hn
  have hB := h.hB
  obtain ⟨cc, hcc⟩ : ∃ cc, Hid (compCode l d = cc) := ⟨_, rfl⟩
  have hnil := Lib.hid (fun W : World => show IIn [] 0 0 none W.heap.size W from ⟨rfl, by omega, Nat.le_refl _, .inl rfl, Nat.le_refl _⟩)
  replace h := Lib.hid h
  replace hd := Lib.hid hd
  go_enter Tryz.func52, Tryz.ntmps52
  go_wp2_with (fail)
  go_at_call 107
  refine (rcompared h.out hd.out).mono ?_
  rintro e w1 ⟨rfl, hB1⟩
  rw [hcc.out]
  have hl1 := Lib.hid (h.out.after hB1)
  have hd1 := Lib.hid (hd.out.after hB1)
  have hs1 := hB1.size
  have hrefl := Lib.hid (Below.refl w1.heap.size w1)
  replace hB1 := Lib.hid hB1
  by_cases h0 : cc = 0
  case neg =>
    have hq : Hid (covQ l d = []) := by show _ = _; unfold covQ; rw [if_neg (by rw [hcc.out]; exact h0)]
    have hne : (cc == 0) = false := by simpa using h0
    replace h0 := Lib.hid h0
    go_wp2
    go_loopw [7, 8] (fun v i wr => v = .slice none 0 0 ∧ i = .int .i64 0 ∧ wr = w1) (fun _ _ _ => 0)
    case atStart => exact ⟨rfl, rfl, rfl⟩
    case round =>
      obtain ⟨rfl, rfl, rfl⟩ := hrel
      by_cases hn0 : 0 < n2
      all_goals
        go_wp2
        go_ret2
        exact ⟨hB1.out, none, 0, 0, by rw [hcc.out]; rfl, by rw [hq.out]; exact hnil.out _⟩
  case pos =>
  have hq : Hid (covQ l d = covF l d d) := by show _ = _; unfold covQ; rw [if_pos (by rw [hcc.out]; exact h0), covF_all]
  have hbk := Lib.hid (comp_parts (hcc.out.trans h0)).1
  have hok := Lib.hid (comp_parts (hcc.out.trans h0)).2
  have ham := Lib.hid (Book.amtOk hbk.out)
  have hlen : n2 ≤ 400 := by rw [hn2.out]; exact chkL_len hok.out
  subst h0
  go_wp2
  go_loopw [7, 8] (fun v i wr => ∃ (j : Nat) (aw : Option Addr) (nw cw : Nat), j ≤ n2 ∧ i = .int .i64 j ∧ v = .slice aw nw cw ∧ IIn (covF l d (d.take j)) nw cw aw wr.heap.size wr ∧ (∀ ad, aw = some ad → ∃ b o, ad = ⟨b, o, none⟩) ∧ Below w1.heap.size w1 wr) (fun _ i _ => n2 - (intOf i).toNat)
  case atStart => exact ⟨0, none, 0, 0, Nat.zero_le _, rfl, rfl, hnil.out _, (fun ad h => by cases h), hrefl.out⟩
  case round =>
    obtain ⟨j, aw, nw, cw, hj, rfl, rfl, hI, had, hb⟩ := hrel
    have hlr := Lib.hid (hl1.out.after hb)
    have hdr := Lib.hid (hd1.out.after hb)
    have hnw : nw ≤ 400 := by have h1 := hI.hn; have h2 := covF_len l d (d.take j); rw [List.length_take] at h2; omega
    have hasc := Lib.hid (asc_covF l d (d.take j))
    replace had := Lib.hid had
    by_cases hlt : j < n2
    case pos =>
      obtain ⟨x, hx⟩ := getq (l := d) (j := j) (by rw [← hn2.out]; exact hlt)
      have hst := Lib.hid (covF_snoc (l := l) (d := d) hx)
      obtain ⟨b, o, rfl, hb0, c0, c1, c2⟩ := hdr.out.hs.due hx
      have hsp := (Book.sp hbk.out x.parcel)
      have hsp2 : 0 ≤ Pu.sold l x.parcel ∧ Pu.sold l x.parcel ≤ 1000000000 := ⟨hsp.2.1, hsp.2.2.1⟩
      obtain ⟨sv, hsv⟩ : ∃ sv, Hid (Pu.sold l x.parcel = sv) := ⟨_, rfl⟩
      rw [hsv.out] at hsp2
      replace hI := Lib.hid hI
      replace hb := Lib.hid hb
      have hr0 := Lib.hid (Below.refl wr.heap.size wr)
      clear hx hsp hj
      go_wp2
      go_loopw [9, 10] (fun s k wk => ∃ (q m : Nat), q ≤ n2 ∧ k = .int .i64 q ∧ s = .int .i64 (sumI ((d.take q).map (dueP x.parcel))) ∧ wk = wr.drewN m) (fun _ k _ => n2 - (intOf k).toNat)
      case atStart => exact ⟨0, 0, Nat.zero_le _, rfl, rfl, rfl⟩
      case round =>
      obtain ⟨q, m, hq', rfl, rfl, rfl⟩ := hrel
      have hsb := sumI_bd (f := dueP x.parcel) (M := 1000000000) (d.take q) fun e he => by
        have := okD_mem hok.out (List.mem_of_mem_take he); unfold dueP; split <;> omega
      rw [List.length_take] at hsb
      by_cases hqn : q < n2
      case pos =>
        obtain ⟨y, hy⟩ := getq (l := d) (j := q) (by rw [← hn2.out]; exact hqn)
        have hya := okD_mem hok.out (List.mem_of_getElem? hy)
        have hst1 : sumI ((d.take (q + 1)).map (dueP x.parcel)) = sumI ((d.take q).map (dueP x.parcel)) + dueP x.parcel y := by
          rw [take_snoc hy, List.map_append, sumI_append]; simp [sumI]
        obtain ⟨b', o', e1, _, d0, d1, d2⟩ := hdr.out.hs.due hy
        cases e1
        obtain ⟨s, hs⟩ : ∃ s, sumI ((d.take q).map (dueP x.parcel)) = s := ⟨_, rfl⟩
        rw [hs] at hst1 hsb ⊢
        have hsb2 : 0 ≤ s ∧ s ≤ 1000000000000 := by omega
        unfold dueP at hst1
        clear hs hsb hy
        by_cases hpp : y.parcel = x.parcel
        case pos =>
          rw [if_pos hpp] at hst1
          have g1 : (y.parcel == x.parcel) = true := by simpa using hpp
          replace hst1 := Lib.hid hst1
          have e1' : (wr.drewN m).cell? ⟨b, o + q * 3 + 1, none⟩ = some (.int .i64 y.parcel) := d1
          have e2' : (wr.drewN m).cell? ⟨b, o + j * 3 + 1, none⟩ = some (.int .i64 x.parcel) := c1
          replace hpp := Lib.hid hpp
          go_wp2
          go_quiet (fail)
          go_wp2
          go_roundw
          case rel => exact ⟨q + 1, m + nq, by omega, by go_num, by show _ = Value.int .i64 (sumI ((d.take (q + 1)).map (dueP x.parcel))); unfold dueP; rw [hst1.out], by simp⟩
          case measure => simp [intOf]; omega
        case neg =>
          rw [if_neg hpp] at hst1
          have g1 : (y.parcel == x.parcel) = false := by simpa using hpp
          replace hst1 := Lib.hid hst1
          replace hpp := Lib.hid hpp
          go_wp2
          go_quiet (fail)
          go_wp2
          go_roundw
          case rel => exact ⟨q + 1, m + nq, by omega, by go_num, by show _ = Value.int .i64 (sumI ((d.take (q + 1)).map (dueP x.parcel))); unfold dueP; rw [hst1.out]; simp, by simp⟩
          case measure => simp [intOf]; omega
      case neg =>
        obtain rfl : n2 = q := by omega
        have e : d.take n2 = d := by rw [hn2.out]; exact List.take_length
        rw [e] at hsb ⊢
        obtain ⟨s, hs⟩ : ∃ s, Hid (dueSum d x.parcel = s) := ⟨_, rfl⟩
        have hs' : sumI (d.map (dueP x.parcel)) = s := hs.out
        rw [hs'] at hsb ⊢
        clear e hs'
        have hlq := Lib.hid (hlr.out.after (below_drewN (Below.refl _ _) m))
        have hIq := Lib.hid (hI.out.after (below_drewN (Below.refl _ _) m))
        have hbq := Lib.hid (below_drewN hb.out m)
        have c1' : (wr.drewN m).cell? ⟨b, o + j * 3 + 1, none⟩ = some (.int .i64 x.parcel) := c1
        have hzq : w1.heap.size ≤ (wr.drewN m).heap.size := hbq.out.size
        obtain ⟨W, hW⟩ : ∃ W, wr.drewN m = W := ⟨_, rfl⟩
        have hzz : (wr.drewN m).heap.size = wr.heap.size := rfl
        rw [hW] at hlq hIq hbq c1' hzq hzz ⊢
        have hIq2 : Hid (IIn (covF l d (d.take j)) nw cw aw W.heap.size W) := by show IIn _ _ _ _ _ _; rw [hzz]; exact hIq.out
        clear hW hI hb hlr hdr c0 c1 c2 hr0 hIq hzz hsb
        by_cases hgt : sv < s
        case pos =>
          have hcov : covT l d x.parcel = true := by unfold covT; rw [hsv.out, hs.out]; simpa using hgt
          rw [hcov, if_pos rfl] at hst
          go_wp2_with (first
            | (go_at_call 86; refine (rsold l n cap x.parcel ao B W hn hmm hlq.out.hs ham.out).mono ?_; rintro e w3 ⟨rfl, rfl⟩; rw [hsv.out])
            | (go_at_call 110; refine (rput hIq2.out hasc had.out (by omega) x.parcel).mono ?_; rintro e w3 ⟨hB3, a3, n3, c3, rfl, hI3, had3⟩; rw [← hst.out] at hI3; replace hI3 := Lib.hid hI3; replace had3 := Lib.hid had3; have hB4 := Lib.hid (hbq.out.trans (hB3.mono hzq)); clear hB3))
          go_roundw
          case rel => exact ⟨j + 1, _, _, _, by omega, by go_num, rfl, hI3.out, had3.out, hB4.out⟩
          case measure => simp [intOf]; omega
        case neg =>
          have hcov : covT l d x.parcel = false := by unfold covT; rw [hsv.out, hs.out]; simpa using hgt
          rw [hcov, if_neg (by simp)] at hst
          go_wp2_with (go_at_call 86; refine (rsold l n cap x.parcel ao B W hn hmm hlq.out.hs ham.out).mono ?_; rintro e w3 ⟨rfl, rfl⟩; rw [hsv.out])
          go_roundw
          case rel => exact ⟨j + 1, _, _, _, by omega, by go_num, rfl, by rw [hst.out]; exact hIq2.out, had.out, hbq.out⟩
          case measure => simp [intOf]; omega
    case neg =>
      obtain rfl : n2 = j := by omega
      have e : d.take n2 = d := by rw [hn2.out]; exact List.take_length
      rw [e] at hI
      have hres : Hid (IResE (covQ l d) (compCode l d) w (.returned (.tuple #[.slice aw nw cw, .int .i64 0])) wr) :=
        ⟨hB1.out.trans (hb.mono hs1), aw, nw, cw, by rw [hcc.out], by rw [hq.out]; exact hI⟩
      clear hI hb e hlr hdr hasc
      go_wp2
      go_ret2
      exact hres.out
end Go.Proofs.YtoijlikmigejbaaGreat
