/- Walks: Open, Parcels, Holders. -/
import Derived.Test.YtoijlikmigejbaaGreatCRhD
import Derived.Test.YtoijlikmigejbaaGreatCSrtI
import Derived.Test.YtoijlikmigejbaaGreatG01
namespace Go.Proofs.YtoijlikmigejbaaGreat
open Go.RowKit Go.Shelf Go.Proofs.YtoijlikmigejbaaGreat.Pu

theorem DuesE.row {code : Int} {L : List Due} {w w' : World} {e : Ending} (h : DuesE code L w e w') : RowE 63 3 dcells (if code = 0 then L else []) code w e w' := by
  obtain ⟨hB, ⟨h0, rfl⟩ | ⟨h0, v, rfl, ⟨ao, cap, rfl⟩, hown⟩⟩ := h
  · rw [if_neg h0]; exact ⟨hB, none, 0, rfl, World.ownsRow_nil _ _ _ _⟩
  · rw [if_pos h0]; exact ⟨hB, ao, cap, by rw [h0], hown⟩

set_option maxRecDepth 100000 in
set_option maxHeartbeats 2000000 in
theorem pOpen {l : List Post} {d : List Due} {n cap n2 cap2 : Nat} {ao ao2 : Option Addr} {B : Nat} {w : World} (h : LIn l n cap ao B w) (hd : DIn d n2 cap2 ao2 B w) :
    Calls Tryz.prog 45 #[.slice ao n cap, .slice ao2 n2 cap2] w (DuesE (compCode l d) (openL l d) w) := by
  go_enter Tryz.func45, Tryz.ntmps45
  go_wp2_with (fail)
  go_at_call 106
  refine (pdues h hd).mono ?_
  rintro e w1 ⟨hB1, ⟨hcc, h3, N, c, rfl, hO⟩ | ⟨hne, rfl⟩⟩
  · have hd1 := Lib.hid (hd.after hB1)
    replace hB1 := Lib.hid hB1
    replace hO := Lib.hid hO
    replace hcc := Lib.hid hcc
    replace h3 := Lib.hid h3
    go_wp2_with (fail)
    go_at_call 65
    refine (popen hO.out.1 hO.out.2.1 hO.out.2.2 hd1.out (okD_amount h3.out)).mono ?_
    rintro e w2 ⟨hB2, v, rfl, hv, hown⟩
    replace hB2 := Lib.hid hB2
    replace hv := Lib.hid hv
    replace hown := Lib.hid hown
    clear hO hd1 h3
    go_wp2
    go_ret2
    exact ⟨hB1.out.trans (hB2.out.mono hB1.out.size), .inr ⟨hcc.out, v, rfl, hv.out, own_base hown.out hB1.out.size⟩⟩
  · obtain ⟨r, hr⟩ : ∃ r, compCode l d = r := ⟨_, rfl⟩
    have hres : Hid (DuesE (compCode l d) (openL l d) w (.returned (.tuple #[.slice none 0 0, .int .i64 r])) w1) := ⟨hB1, .inl ⟨hne, by rw [hr]⟩⟩
    rw [hr] at hne ⊢
    have hne2 : (r != 0) = true := by simp [hne]
    replace hne := Lib.hid hne
    clear hr hB1
    go_wp2
    go_ret2
    exact hres.out


theorem SlI.iin {base : Nat} {w : World} {ao : Option Addr} {n cap : Nat} {d : List Int} (h : SlI base w ao n cap d) (hm : n ≤ 100000) : IIn d n cap ao w.heap.size w ∧ ∀ ad, ao = some ad → ∃ b o, ad = ⟨b, o, none⟩ := by
  obtain ⟨rfl, rfl, rfl⟩ | ⟨g, rfl, hg, hR, hn, hc⟩ := h
  · exact ⟨⟨rfl, by omega, Nat.zero_le _, .inl rfl, Nat.le_refl _⟩, fun ad h => by cases h⟩
  · exact ⟨⟨hn, hm, hc, hR.slAt, Nat.le_refl _⟩, fun ad h => by cases h; exact ⟨_, _, rfl⟩⟩
theorem sold_parcel {l : List Post} {x : Int} (h : Pu.sold l x ≠ 0) : x ∈ parcels l := by
  refine Classical.byContradiction fun hn => h ?_
  unfold Pu.sold
  refine sumI_zero fun p hp => ?_
  unfold soldOf
  rw [if_neg]
  rintro ⟨_, e⟩
  exact hn ((mem_parcels x l).2 ⟨p, hp, e⟩)
theorem parcel_sold {l : List Post} (h : Book l) {x : Int} (hx : x ∈ parcels l) : Pu.sold l x ≠ 0 := fun h0 => by
  obtain ⟨p, hp, e⟩ := (mem_parcels x l).1 hx
  exact Book.unsold h h0 p hp e
theorem sold_keys {c : CS} {l : List Post} (hI : CInv c l) (hb : Book l) {d : List Int} (hp : d.Perm (c.sold.map (·.1))) (hs : d.Pairwise (· ≤ ·)) : d = parcels l := by
  have hnd : d.Nodup := hp.nodup_iff.2 hI.nds
  refine eq_of_strict (lt := fun x y : Int => x < y) (fun a => by omega) (fun a b c => by omega) (strictI hs hnd) (asc_parcels l) fun x => ?_
  rw [hp.mem_iff]
  have h1 : x ∈ c.sold.map (·.1) ↔ (getM c.sold x).isSome = true := by rw [getM_mem]; simp
  rw [h1, hI.sold]
  by_cases h0 : Pu.sold l x = 0
  · rw [if_pos h0]
    exact ⟨fun h => (by cases h), fun h => absurd h0 (parcel_sold hb h)⟩
  · rw [if_neg h0]
    exact ⟨fun _ => sold_parcel h0, fun _ => rfl⟩

set_option maxRecDepth 100000 in
set_option maxHeartbeats 2000000 in
theorem pParcels {l : List Post} {n cap : Nat} {ao : Option Addr} {B : Nat} {w : World} (h : LIn l n cap ao B w) :
    Calls Tryz.prog 23 #[.slice ao n cap] w (IRes (parcelsQ l) w) := by
  go_enter Tryz.func23, Tryz.ntmps23
  go_wp2_with (fail)
  go_at_call 56
  refine h.opened.mono ?_
  rintro e w1 ⟨hB1, ⟨hbook, N, c, rfl, hN, hI, hC⟩ | ⟨hnb, hne, rfl⟩⟩
  · have hq : Hid (parcelsQ l = parcels l) := by show _ = _; unfold parcelsQ; rw [if_pos (by rw [check_book hbook])]
    have hlen : c.sold.length ≤ 1000 := by
      have h1 := congrArg List.length (sold_keys hI hbook (List.mergeSort_perm (c.sold.map (·.1)) fun x y : Int => decide (x ≤ y)) (mergeSortI _))
      rw [List.length_mergeSort, List.length_map] at h1
      have h2 := parcels_len l
      have h3 := Book.len hbook
      omega
    have c3 := hC.c3
    have hb2 := hC.sold
    have hN2 := hC.lt
    have hks := Lib.hid (fun d hp hs => sold_keys hI hbook (d := d) hp hs)
    replace hB1 := Lib.hid hB1
    clear hbook hN hI hC
    go_wp2_with (first
      | (go_at_call 83; refine (pKeysI _ _).mono ?_; rintro e w2 ⟨rfl, rfl⟩)
      | (go_at_call 82
         refine (xSortedI (N + 1) c.sold _ w1.heap.size (by simp) (by simp) ((Below.heap_alloc _ _ _ (by omega)).trans hb2) hlen).mono ?_
         rintro e w2 ⟨ao2, n2, cap2, xs, rfl, hperm, hsrt, hsl, hB2⟩))
    go_ret
    obtain ⟨hi1, hi2⟩ := hsl.iin (by
      have h1 := hperm.length_eq
      rw [List.length_map] at h1
      obtain ⟨_, rfl, _⟩ | ⟨_, _, _, _, h2, _⟩ := hsl
      · omega
      · omega)
    rw [hks.out xs hperm hsrt] at hi1
    exact ⟨hB1.out.trans ((((Below.refl _ _).alloc (Nat.le_refl _) _).trans (hB2.mono (by simp))).mono hB1.out.size), _, _, _, rfl, by rw [hq.out]; exact hi1, hi2⟩
  · obtain ⟨r, hr0⟩ : ∃ r, (check l).2 = r := ⟨_, rfl⟩
    obtain ⟨i, hi⟩ : ∃ i, (check l).1 = i := ⟨_, rfl⟩
    have hq : Hid (parcelsQ l = []) := by show _ = _; unfold parcelsQ; rw [if_neg hne]
    rw [hr0] at hne
    rw [hr0, hi]
    have hne2 : (r != 0) = true := by simp [hne]
    replace hB1 := Lib.hid hB1
    clear hr0 hne hi hnb
    go_wp2
    go_ret
    exact ⟨hB1.out, none, 0, 0, rfl, by rw [hq.out]; exact ⟨rfl, by omega, Nat.le_refl _, .inl rfl, Nat.le_refl _⟩, fun ad h => by cases h⟩

/-- what parties have for a parcel, as the purse gives it -/
def holdP (l : List Post) (x : Int) : List Due := if askCode l x 0 = 0 then holdL l x else []
def hF (l : List Post) (x : Int) (a : Int × Int) : Option Due := if a.1 = x then some ⟨a.2, x, Pu.has l a.2 x⟩ else none
theorem hold_acc (l : List Post) (x : Int) : (accL l).filterMap (hF l x) = holdL l x := by
  refine eq_of_strict (lt := fun a b : Due => a.party < b.party) (fun a => by omega) (fun a b c => by omega) ?_ ?_ fun z => ?_
  · rw [List.pairwise_filterMap]
    refine (strict_accL l).imp ?_
    rintro ⟨a1, a2⟩ ⟨b1, b2⟩ hab u hu v hv
    unfold hF at hu hv
    dsimp only at hu hv
    split at hu
    · split at hv
      · cases hu; cases hv
        unfold ltAc at hab
        dsimp only at hab ⊢
        omega
      · cases hv
    · cases hu
  · unfold holdL
    rw [List.pairwise_filterMap]
    refine List.pairwise_lt_range.imp ?_
    rintro a b hab u hu v hv
    unfold holdOf at hu hv
    split at hu
    · cases hu
    · split at hv
      · cases hv
      · cases hu; cases hv; dsimp only; omega
  · unfold holdL
    rw [List.mem_filterMap, List.mem_filterMap]
    constructor
    · rintro ⟨⟨a1, a2⟩, ha, he⟩
      rw [mem_accL] at ha
      unfold hF at he
      dsimp only at he
      split at he
      · rename_i h1
        cases he
        subst h1
        refine ⟨a2.toNat, List.mem_range.2 (by omega), ?_⟩
        unfold holdOf
        rw [show ((a2.toNat : Nat) : Int) = a2 by omega, if_neg ha.2.2.2]
      · cases he
    · rintro ⟨k, hk, he⟩
      unfold holdOf at he
      split at he
      · cases he
      · rename_i h1
        cases he
        refine ⟨(x, (k : Int)), (mem_accL x k).2 ⟨has_parcel h1, by omega, by have := List.mem_range.1 hk; omega, h1⟩, ?_⟩
        unfold hF; rw [if_pos rfl]
theorem hold_same (l : List Post) (x : Int) : holdP l x = holdQ l x := by
  unfold holdP holdQ
  by_cases h1 : (check l).2 = 0
  · rw [if_pos h1]
    by_cases h2 : askCode l x 0 = 0
    · rw [if_pos h2]
    · rw [if_neg h2]
      have hb := book_of_check h1
      symm
      unfold holdL
      rw [List.filterMap_eq_nil_iff]
      intro k _
      unfold holdOf
      rw [if_pos]
      refine Classical.byContradiction fun h => h2 ?_
      obtain ⟨p, hp, e⟩ := (mem_parcels x l).1 (has_parcel (y := k) h)
      have hok := book_ok hb p hp
      simp only [okP, inB, Bool.and_eq_true, decide_eq_true_eq] at hok
      unfold askCode
      rw [if_pos h1, if_pos]
      simp only [inB, Bool.and_eq_true, decide_eq_true_eq]
      omega
  · rw [if_neg h1, if_neg]
    intro h2
    exact h1 (by rw [check_book (ask_book h2)])

set_option maxRecDepth 100000 in
set_option maxHeartbeats 4000000 in
theorem pHolders {l : List Post} {n cap : Nat} {ao : Option Addr} {B : Nat} {w : World} (h : LIn l n cap ao B w) (x : Int) :
    Calls Tryz.prog 26 #[.slice ao n cap, .int .i64 x] w (RowR 63 3 dcells (holdP l x) w) := by
  go_enter Tryz.func26, Tryz.ntmps26
  go_wp2_with (fail)
  go_at_call 73
  refine (pasked h x 0).mono ?_
  rintro e w1 ⟨hB1, ⟨hbook, hc, N, c, rfl, hN, hI, hC⟩ | ⟨hne, rfl⟩⟩
  case inr =>
    obtain ⟨r, hr0⟩ : ∃ r, askCode l x 0 = r := ⟨_, rfl⟩
    have hq : Hid (holdP l x = []) := by show _ = _; unfold holdP; rw [if_neg hne]
    rw [hr0] at hne ⊢
    have hne2 : (r != 0) = true := by simp [hne]
    replace hB1 := Lib.hid hB1
    clear hr0 hne
    go_wp2
    go_ret
    exact ⟨hB1.out, none, 0, by rw [hq.out]; rfl, by rw [hq.out]; exact World.ownsRow_nil _ _ _ _⟩
  case inl =>
  have hq : Hid (holdP l x = holdL l x) := by show _ = _; unfold holdP; rw [if_pos hc]
  have hacc := hold_acc l x
  have hacl := accL_len l
  have hbl := Book.len hbook
  have hla := hI.la
  have hae := Lib.hid (fun d hp hm => acc_eq hI hbook (d := d) hp hm)
  have hhas := Lib.hid (fun y : Int => hI.has x y)
  have hhb := Lib.hid (fun y : Int => Book.has_le hbook y x)
  have hO := Lib.hid (show Opened l N c w1 from ⟨hI, hbook, hC⟩)
  have hnd : Hid (c.has.map (·.1)).Nodup := hI.nd
  replace hacc := Lib.hid hacc
  replace hB1 := Lib.hid hB1
  clear hbook hc hN hI hC
  go_wp2_with (fail)
  go_at_call 85
  refine (paccounts N c w1 hO.out.2.2 hnd (by omega)).mono ?_
  rintro e w2 ⟨ao2, n2, cap2, dd, rfl, hn2, hc2, hl2, hst2, hmem2, hs2, hB2⟩
  obtain rfl := hae.out dd hst2 hmem2
  have hO2 := Lib.hid (hO.out.after hB2)
  have hBw := Lib.hid (hB1.out.trans (hB2.mono hB1.out.size))
  have hNl := hO2.out.2.2.lt
  have hn2b : n2 ≤ 400 := by omega
  obtain ⟨i0, hi, hz0, hz1, hz2⟩ := info_parts infoDue
  obtain ⟨M, hM⟩ : ∃ M, Hid (w2.heap.size = M) := ⟨_, rfl⟩
  have hrefl : Below M w2 w2 := by rw [← hM.out]; exact Below.refl _ _
  rw [hM.out] at hs2 hNl
  have hMz : M ≤ w2.heap.size := by rw [hM.out]; exact Nat.le_refl _
  replace hn2 := Lib.hid hn2
  replace hs2 := Lib.hid hs2
  replace hrefl := Lib.hid hrefl
  clear hB2 hO hB1 hst2 hmem2 hae hacl hnd
  go_wp2
  go_loopw [7, 21] (fun v i wr => ∃ j : Nat, j ≤ n2 ∧ i = .int .i64 j ∧ Below M w2 wr ∧ Hid (wr.ownsRow M 63 3 v (((accL l).take j).filterMap (hF l x)).length (flat dcells (((accL l).take j).filterMap (hF l x))))) (fun _ i _ => n2 - (intOf i).toNat)
  case atStart => exact ⟨0, Nat.zero_le _, rfl, hrefl.out, World.ownsRow_nil _ _ _ _⟩
  case round =>
    obtain ⟨j, hj, rfl, hb, hown⟩ := hrel
    have hwr : M ≤ wr.heap.size := Nat.le_trans hMz hb.size
    have hll : (((accL l).take j).filterMap (hF l x)).length ≤ 400 := by
      have h1 := List.length_filterMap_le (hF l x) ((accL l).take j); rw [List.length_take] at h1; omega
    by_cases hlt : j < n2
    case pos =>
      obtain ⟨⟨a1, a2⟩, ha⟩ := getq (l := accL l) (j := j) (by rw [← hn2.out]; exact hlt)
      have hst : ((accL l).take (j + 1)).filterMap (hF l x) = ((accL l).take j).filterMap (hF l x) ++ (hF l x (a1, a2)).toList := by
        rw [take_snoc ha, List.filterMap_append]; cases hf : hF l x (a1, a2) <;> simp [hf]
      obtain ⟨L, hL⟩ : ∃ L, ((accL l).take j).filterMap (hF l x) = L := ⟨_, rfl⟩
      rw [hL] at hst hown hll
      obtain ⟨b, o, rfl, hb0, c0, c1⟩ := (hs2.out.below hb).acct ha
      have hbM : b < wr.heap.size := by omega
      have hjc : j ≤ cap2 := by omega
      have hCW := Lib.hid ((hO2.out.2.2.below hb hNl).alloc (.cells #[.int .i64 a1, .int .i64 a2] 90))
      have hAb := Lib.hid (ABox.new wr a1 a2 90)
      have hBW := Lib.hid (hb.alloc hwr (.cells #[.int .i64 a1, .int .i64 a2] 90))
      have hoW := Lib.hid (own_after hown.out ((Below.refl wr.heap.size wr).alloc (Nat.le_refl _) (.cells #[.int .i64 a1, .int .i64 a2] 90)))
      have hub : Hid (∀ k, u7.ownBlock = some k → M ≤ k ∧ k < wr.heap.size) := fun k hk => ⟨own_far hown.out k hk, (hown.out.lt k hk).2⟩
      clear hL ha hb hown
      by_cases hx : a1 = x
      case neg =>
        have hg : (a1 == x) = false := by simpa using hx
        have hst2 : Hid (((accL l).take (j + 1)).filterMap (hF l x) = L) := by show _ = _; rw [hst]; unfold hF; rw [if_neg hx]; simp
        replace hx := Lib.hid hx
        clear hst
        go_wp2
        go_roundw
        case rel => exact ⟨j + 1, by omega, by go_num, hBW.out, by show World.ownsRow _ _ _ _ _ _ _; rw [hst2.out]; exact hoW.out⟩
        case measure => simp [intOf]; omega
      case pos =>
        subst hx
        have hst2 : Hid (((accL l).take (j + 1)).filterMap (hF l a1) = L ++ [⟨a2, a1, Pu.has l a2 a1⟩]) := by show _ = _; rw [hst]; unfold hF; rw [if_pos rfl]; rfl
        have hvb := hhb.out a2
        have hge := hhas.out a2
        obtain ⟨hv, hhv⟩ : ∃ hv, Hid (Pu.has l a2 a1 = hv) := ⟨_, rfl⟩
        rw [hhv.out] at hst2 hvb hge
        have hg : (a1 == a1) = true := by simp
        clear hst
        go_upto_region 9 with (fail)
        obtain ⟨ab, hab⟩ : ∃ ab, wr.heap.size = ab := ⟨_, rfl⟩
        obtain ⟨W, hW⟩ : ∃ W, wr.alloc (.cells #[.int .i64 a1, .int .i64 a2] 90) = W := ⟨_, rfl⟩
        have hsW : W.heap.size = ab + 1 := by rw [← hW, ← hab]; simp
        rw [hW] at hCW hAb hBW hoW ⊢
        rw [hab] at hAb hub hwr ⊢
        clear hW hab c0 c1 hbM
        have hl := hasLook hCW.out a1 a2 1
        rw [hge] at hl
        replace hl : (Instr.lookup 78 (.map (some (N + 3))) (.agg #[.int .i64 a1, .int .i64 a2]) false).run Tryz.prog W.drew = .ok (.int .i64 hv) W.drew := hl
        have hNW : N + 5 < W.heap.size := by omega
        have hcl : Hid (∀ W' : World, Below W.heap.size W W' → W'.cell? ⟨ab, 0, none⟩ = some (.int .i64 a1) ∧ W'.cell? ⟨ab, 1, none⟩ = some (.int .i64 a2) ∧ W'.cell? ⟨N + 5, 5, none⟩ = some (.map (some (N + 3)))) := fun W' hB' =>
          ⟨(hB'.cell (p := ⟨ab, 0, none⟩) hAb.out.lt).trans hAb.out.c0, (hB'.cell (p := ⟨ab, 1, none⟩) hAb.out.lt).trans hAb.out.c1, (hB'.cell (p := ⟨N + 5, 5, none⟩) hNW).trans hCW.out.c5⟩
        have b0 := Lib.hid (Below.refl W.heap.size W).drew
        have bA := Lib.hid (fun o => ((Below.refl W.heap.size W).alloc (Nat.le_refl _) o).drew)
        have hownA := Lib.hid (fun o => own_after hoW.out (bA.out o))
        have hMW : M ≤ W.heap.size := by omega
        have habW : ab < W.heap.size := by omega
        replace hsW := Lib.hid hsW
        replace hge := Lib.hid hge
        go_wp2
        refine wp_region_held_drew (S := (fun w' => w'.cell? ⟨ab, 0, none⟩ = some (.int .i64 a1) ∧ w'.cell? ⟨ab, 1, none⟩ = some (.int .i64 a2) ∧ w'.cell? ⟨N + 5, 5, none⟩ = some (.map (some (N + 3))))) (by kernel_rfl) ?_ (fun hHeld0 => ?_)
        · (try dsimp only); (first
                              | with_reducible exact hcl.out _ b0.out
                              | with_reducible exact hcl.out _ (bA.out _)
                              | with_reducible exact hS3.out)
        refine xtake 0 (v := ?_) rfl (by kernel_rfl) (by kernel_rfl) (by kernel_rfl) rfl ?_ ?_ (by assumption) ?_
        rotate_left
        · intro w hSw; (try dsimp only at hSw); go_simp; with_reducible rfl
        · (exact fun _ _ _ hp => hp)
        try simp only [Act.put, List.setIfInBounds_toArray, List.set_cons_zero, List.set_cons_succ]
        refine xtake 1 (v := ?_) rfl (by kernel_rfl) (by kernel_rfl) (by kernel_rfl) rfl ?_ ?_ (by assumption) ?_
        rotate_left
        · intro w hSw; (try dsimp only at hSw); go_simp; with_reducible rfl
        · (exact fun _ _ _ hp => hp)
        try simp only [Act.put, List.setIfInBounds_toArray, List.set_cons_zero, List.set_cons_succ]
        refine xtake 2 (v := ?_) rfl (by kernel_rfl) (by kernel_rfl) (by kernel_rfl) rfl ?_ ?_ (by assumption) ?_
        rotate_left
        · intro w hSw; (try dsimp only at hSw); go_simp; with_reducible rfl
        · (exact fun _ _ _ hp => hp)
        try simp only [Act.put, List.setIfInBounds_toArray, List.set_cons_zero, List.set_cons_succ]
        refine xtake 3 (v := ?_) rfl (by kernel_rfl) (by kernel_rfl) (by kernel_rfl) rfl ?_ ?_ (by assumption) ?_
        rotate_left
        · intro w hSw; (try dsimp only at hSw); go_simp; with_reducible rfl
        · (exact fun _ _ _ hp => hp)
        try simp only [Act.put, List.setIfInBounds_toArray, List.set_cons_zero, List.set_cons_succ]
        refine xtake 4 (v := ?_) rfl (by kernel_rfl) (by kernel_rfl) (by kernel_rfl) rfl ?_ ?_ (by assumption) ?_
        rotate_left
        · intro w hSw; (try dsimp only at hSw); go_simp; with_reducible rfl
        · (exact fun _ _ _ hp => hp)
        try simp only [Act.put, List.setIfInBounds_toArray, List.set_cons_zero, List.set_cons_succ]
        refine xtake 5 (v := ?_) rfl (by kernel_rfl) (by kernel_rfl) (by kernel_rfl) rfl ?_ ?_ (by assumption) ?_
        rotate_left
        · intro w hSw; (try dsimp only at hSw); go_simp; with_reducible rfl
        · (exact fun _ _ _ hp => hp)
        try simp only [Act.put, List.setIfInBounds_toArray, List.set_cons_zero, List.set_cons_succ]
        refine xtake 6 (v := ?_) rfl (by kernel_rfl) (by kernel_rfl) (by kernel_rfl) rfl ?_ ?_ (by assumption) ?_
        rotate_left
        · intro w hSw; (try dsimp only at hSw); go_simp; with_reducible rfl
        · (exact fun _ _ _ hp => hp)
        try simp only [Act.put, List.setIfInBounds_toArray, List.set_cons_zero, List.set_cons_succ]
        refine xtake 7 (v := ?_) rfl (by kernel_rfl) (by kernel_rfl) (by kernel_rfl) rfl ?_ ?_ (by assumption) ?_
        rotate_left
        · intro w hSw; (try dsimp only at hSw); go_simp; with_reducible rfl
        · (exact fun _ _ _ hp => hp)
        try simp only [Act.put, List.setIfInBounds_toArray, List.set_cons_zero, List.set_cons_succ]
        refine xtake 8 (v := ?_) rfl (by kernel_rfl) (by kernel_rfl) (by kernel_rfl) rfl ?_ ?_ (by assumption) ?_
        rotate_left
        · intro w hSw; (try dsimp only at hSw); go_simp; with_reducible rfl
        · (exact fun _ _ _ hp => hp)
        try simp only [Act.put, List.setIfInBounds_toArray, List.set_cons_zero, List.set_cons_succ]
        refine wpAnyH_ready (rs := [9]) (by kernel_rfl) (by simp) ?_
        refine xcons 9 rfl (fun K hK => ?_) ?_
        focus
          go_simp
          refine hK.out _ _ ?_ (fun hHeld1 => ?_)
          · (try dsimp only); (first
                                | with_reducible exact hcl.out _ b0.out
                                | with_reducible exact hcl.out _ (bA.out _)
                                | with_reducible exact hS3.out)
          clear hK K
          try simp only [Act.put, List.setIfInBounds_toArray, List.set_cons_zero, List.set_cons_succ]
          (try clear hHeld0)
          refine xtake 10 (v := ?_) rfl (by kernel_rfl) (by kernel_rfl) (by kernel_rfl) rfl ?_ ?_ (by assumption) ?_
          rotate_left
          · intro w hSw; (try dsimp only at hSw); go_simp; with_reducible rfl
          · (exact fun _ _ _ hp => hp)
          try simp only [Act.put, List.setIfInBounds_toArray, List.set_cons_zero, List.set_cons_succ]
          refine wpAnyH_ready (rs := [11]) (by kernel_rfl) (by simp) ?_
          refine xcons 11 rfl (fun K hK => ?_) ?_
          focus
            go_simp
            refine hK.out _ _ ?_ (fun hHeld2 => ?_)
            · (try dsimp only); (first
                                  | with_reducible exact hcl.out _ b0.out
                                  | with_reducible exact hcl.out _ (bA.out _)
                                  | with_reducible exact hS3.out)
            clear hK K
            try simp only [Act.put, List.setIfInBounds_toArray, List.set_cons_zero, List.set_cons_succ]
            (try clear hHeld1)
            refine wpAnyH_ready (rs := [12]) (by kernel_rfl) (by simp) ?_
            refine xcons 12 rfl (fun K hK => ?_) ?_
            focus
              (first
                | (refine step_append_lies _ (by rfl) _ _ _ (by rfl) M 63 i0 _ 3 24 Tryz.underlying23 hi hz0 hz1 hz2 rfl (by omega) _ _ _ (by rfl) (hownA.out _) ⟨W.heap.size, 0, none⟩ 1 1 (dcells ⟨a2, a1, hv⟩) (by rfl) rfl
                     (World.news_of_block (cs := (dcells ⟨a2, a1, hv⟩).toArray) (t := 63) (fr := (0, 0)) (heap_alloc_new W _)) (dcells_cell _) (by omega) (by unfold maxLen; omega) (by omega) (by simp; omega) _ rfl ?_
                   intro g3 cap3 w3 hown3 hgr3 _ _
                   have hB4 := Lib.hid ((hBW.out.trans ((bA.out _).mono hMW)).grown hgr3 (by simp; omega) (own_far (hownA.out (.cells #[.int .i64 a2, .int .i64 a1, .int .i64 hv] 63))))
                   have hS3 : Hid (w3.cell? ⟨ab, 0, none⟩ = some (.int .i64 a1) ∧ w3.cell? ⟨ab, 1, none⟩ = some (.int .i64 a2) ∧ w3.cell? ⟨N + 5, 5, none⟩ = some (.map (some (N + 3)))) := by
                     have e1 : w3.heap[ab]? = (W.alloc (.cells #[.int .i64 a2, .int .i64 a1, .int .i64 hv] 63)).drew.heap[ab]? := hgr3.block ab (by simp; omega) (fun e => by have := hub.out ab e.symm; omega)
                     have e2 : w3.heap[N + 5]? = (W.alloc (.cells #[.int .i64 a2, .int .i64 a1, .int .i64 hv] 63)).drew.heap[N + 5]? := hgr3.block (N + 5) (by simp; omega) (fun e => by have := hub.out (N + 5) e.symm; omega)
                     have h := hcl.out _ (bA.out (.cells #[.int .i64 a2, .int .i64 a1, .int .i64 hv] 63))
                     exact ⟨(World.cell?_of_block e1).trans h.1, (World.cell?_of_block e1).trans h.2.1, (World.cell?_of_block e2).trans h.2.2⟩
                   replace hown3 := Lib.hid hown3
                   clear hgr3
                   dsimp only))
              refine hK.out _ _ ?_ (fun hHeld3 => ?_)
              · (try dsimp only); (first
                                    | with_reducible exact hcl.out _ b0.out
                                    | with_reducible exact hcl.out _ (bA.out _)
                                    | with_reducible exact hS3.out)
              clear hK K
              try simp only [Act.put, List.setIfInBounds_toArray, List.set_cons_zero, List.set_cons_succ]
              (try clear hHeld2)
              refine xtake 13 (v := ?_) rfl (by kernel_rfl) (by kernel_rfl) (by kernel_rfl) rfl ?_ ?_ (by assumption) ?_
              rotate_left
              · intro w hSw; (try dsimp only at hSw); go_simp; with_reducible rfl
              · (exact fun _ _ _ hp => hp)
              try simp only [Act.put, List.setIfInBounds_toArray, List.set_cons_zero, List.set_cons_succ]
              refine wpAnyH_done (by kernel_rfl) ?_ _
              (revert hHeld3; intro _)
            rotate_left 1
            exact AllReadyH.nil
          rotate_left 1
          exact AllReadyH.nil
        rotate_left 1
        exact AllReadyH.nil
        clear hS3 hcl b0 bA hownA hl
        go_wp2
        go_roundw
        case rel =>
          refine ⟨j + 1, by omega, by go_num, hB4.out, ?_⟩
          show World.ownsRow _ _ _ _ _ _ _
          rw [hst2.out, flat_app, List.length_append]
          exact hown3.out
        case measure => simp [intOf]; omega
    case neg =>
      obtain rfl : n2 = j := by omega
      have e : (accL l).take n2 = accL l := by rw [hn2.out]; exact List.take_length
      rw [e, hacc.out] at hown hll
      obtain ⟨av, cv, rfl⟩ := own_form hown.out
      have hres : Hid (RowR 63 3 dcells (holdP l x) w (.returned (.slice av (holdL l x).length cv)) wr) :=
        ⟨hBw.out.trans (hb.mono (by rw [← hM.out]; exact hBw.out.size)), av, cv, by rw [hq.out], by rw [hq.out]; exact own_base hown.out (by rw [← hM.out]; exact hBw.out.size)⟩
      clear hown hb e hll
      go_wp2
      go_ret
      exact hres.out
end Go.Proofs.YtoijlikmigejbaaGreat
