/- Walk: the law PurseSums. -/
import Derived.Test.YtoijlikmigejbaaGreatCPrA
import Derived.Test.YtoijlikmigejbaaGreatCPrB
namespace Go.Proofs.YtoijlikmigejbaaGreat
open Go.RowKit Go.Proofs.YtoijlikmigejbaaGreat.Pu

theorem hasUpto_ge0 {m : List Post} {x : Int} (h : ∀ y, 0 ≤ Pu.has m y x) : ∀ q : Nat, 0 ≤ hasUpto m x q
  | 0 => Int.le_refl 0
  | q + 1 => by rw [hasUpto]; have := hasUpto_ge0 h q; have := h q; omega
theorem hasUpto_le {m : List Post} {x : Int} (h : ∀ y, 0 ≤ Pu.has m y x) (q : Nat) : ∀ k : Nat, hasUpto m x q ≤ hasUpto m x (q + k)
  | 0 => Int.le_refl _
  | k + 1 => by rw [← Nat.add_assoc, hasUpto]; have := hasUpto_le h q k; have := h ((q + k : Nat) : Int); omega
theorem hasUpto_in {m : List Post} (hb : Book m) (x : Int) {q : Nat} (hq : q ≤ 41) : 0 ≤ hasUpto m x q ∧ hasUpto m x q ≤ 1000000000 := by
  obtain ⟨a1, a2, a3, a4⟩ := Book.sp hb x
  have h1 := hasUpto_ge0 a4 q
  have h2 := hasUpto_le a4 q (41 - q)
  rw [show q + (41 - q) = 41 by omega] at h2
  unfold Pu.held at a1
  omega
theorem ask_parcel {m : List Post} (hb : Book m) {x : Int} (hx : x ∈ parcels m) {y : Int} (h0 : 0 ≤ y) (h1 : y ≤ 40) : askCode m x y = 0 := by
  obtain ⟨p, hp, e⟩ := (mem_parcels x m).1 hx
  have hok := book_ok hb p hp
  simp only [okP, inB, Bool.and_eq_true, decide_eq_true_eq] at hok
  unfold askCode
  rw [if_pos (by rw [check_book hb]), if_pos]
  simp only [inB, Bool.and_eq_true, decide_eq_true_eq]
  omega

set_option maxRecDepth 100000 in
set_option maxHeartbeats 8000000 in
theorem wSums (l : List Post) (n cap : Nat) (ao : Option Addr) (hour : Int) (w : World) (hn : n = l.length) (hL : n ≤ 100000 → LIn l n cap ao w.heap.size w) :
    Calls Tryz.prog 6 #[.slice ao n cap, .int .i64 hour] w (LawRes w) := by
  replace hn := Lib.hid hn
  replace hL := Lib.hid hL
  by_cases hlt : 24 < n
  case pos =>
    go_enter Tryz.func6, Tryz.ntmps6
    go_wp2_with (go_at_call 11; refine (ppurses _).mono ?_; rintro e w2 ⟨rfl, hB2⟩)
    go_ret
    exact ⟨rfl, hB2⟩
  case neg =>
  have hl := Lib.hid (hL.out (by omega))
  clear hL
  by_cases hck : (check l).2 = 0
  case neg =>
    have hr := pright hl.out
    rw [show ((check l).2 == 0) = false by simp [hck]] at hr
    replace hr := Lib.hid hr
    clear hck
    go_enter Tryz.func6, Tryz.ntmps6
    go_wp2_with (first
      | (go_at_call 40; refine hr.out.mono ?_; rintro e w2 ⟨rfl, hB2⟩)
      | (go_at_call 11; refine (ppurses _).mono ?_; rintro e w3 ⟨rfl, hB3⟩))
    go_ret
    exact ⟨rfl, hB2.trans (hB3.mono hB2.size)⟩
  case pos =>
  have hbk := Lib.hid (book_of_check hck)
  have hr := pright hl.out
  rw [show ((check l).2 == 0) = true by simp [hck]] at hr
  replace hr := Lib.hid hr
  clear hck
  obtain ⟨hu1, hu2, hu3⟩ := upto_book hbk.out hour
  obtain ⟨k, hk⟩ : ∃ k, uptoN hour l = k := ⟨_, rfl⟩
  have hk2 : (someL (uptoP hour) l).length = k := hk
  rw [hk] at hu1 hu2
  rw [← hn.out] at hu2
  have hbm : Book (l.take k) := Book.take hbk.out k
  have hkt : (l.take k).length = k := by rw [List.length_take, ← hn.out]; omega
  obtain ⟨m, hm⟩ : ∃ m, l.take k = m := ⟨_, rfl⟩
  have hkm : Kinds m := by rw [← hm]; exact fun p hp => hl.out.hk p (List.mem_of_mem_take hp)
  rw [hm] at hbm hkt hu1
  replace hbm := Lib.hid hbm
  replace hkt := Lib.hid hkt
  replace hu1 := Lib.hid hu1
  replace hk := Lib.hid hk
  replace hk2 := Lib.hid hk2
  replace hkm := Lib.hid hkm
  clear hu3 hm
  have hcm : Hid ((check m).2 = 0) := by show _ = _; rw [check_book hbm.out]
  have hpq : Hid (parcelsQ m = parcels m) := by show _ = _; unfold parcelsQ; rw [if_pos hcm.out]
  have htp := Lib.hid (total_paid hbm.out)
  go_enter Tryz.func6, Tryz.ntmps6
  go_wp2_with (first
    | (go_at_call 36; refine (pUpto hl2.out hour).mono ?_; rintro e w3 ⟨hB3, ao3, cap3, rfl, hown3⟩
       rw [hk2.out] at hown3 ⊢
       rw [hu1.out] at hown3
       have hl3 := Lib.hid (Own.lin hown3 hkt.out.symm (by omega) hkm.out)
       have hr3 := pright hl3.out
       rw [hcm.out] at hr3
       replace hr3 := Lib.hid hr3
       have hBB := Lib.hid (hB2.out.trans (hB3.mono hB2.out.size))
       clear hB3 hown3 hl2)
    | (go_at_call 40; (with_reducible refine hr.out.mono ?_); rintro e w2 ⟨rfl, hB2⟩
       have hl2 := Lib.hid (hl.out.after hB2)
       replace hB2 := Lib.hid hB2)
    | (go_at_call 40; (with_reducible refine hr3.out.mono ?_); rintro e w4 ⟨rfl, hB4⟩
       have hl4 := Lib.hid (hl3.out.after hB4)
       have hB5 := Lib.hid (hBB.out.trans (hB4.mono hBB.out.size))
       clear hB4 hr3)
    | (go_at_call 23; refine (pParcels hl4.out).mono ?_; rintro e w5 ⟨hB, ap, np, cp, rfl, hI, _⟩
       rw [hpq.out] at hI
       have hl5 := Lib.hid (hl4.out.after hB)
       have hB6 := Lib.hid (hB5.out.trans (hB.mono hB5.out.size))
       replace hI := Lib.hid hI
       clear hB hl4))
  have hpn := Lib.hid hI.out.hn
  have hnp : np ≤ 24 := by have h1 := parcels_len m; have := hpn.out; have := hkt.out; omega
  have hrefl := Lib.hid (Below.refl w5.heap.size w5)
  go_loopw [6, 7, 9] (fun a p i wr => ∃ j : Nat, j ≤ np ∧ i = .int .i64 j ∧ a = .int .i64 (sumI (((parcels m).take j).map (Pu.sold m))) ∧ p = .int .i64 (sumI (((parcels m).take j).map fun x => hasUpto m x 41)) ∧ Below w5.heap.size w5 wr) (fun _ _ i _ => np - (intOf i).toNat)
  case atStart => exact ⟨0, Nat.zero_le _, rfl, rfl, rfl, hrefl.out⟩
  case round =>
  obtain ⟨j, hj, rfl, rfl, rfl, hb⟩ := hrel
  have hab := sumI_bd (f := Pu.sold m) (M := 1000000000) ((parcels m).take j) fun x _ => ⟨(Book.sp hbm.out x).2.1, (Book.sp hbm.out x).2.2.1⟩
  have hpb := sumI_bd (f := fun x => hasUpto m x 41) (M := 1000000000) ((parcels m).take j) fun x _ => hasUpto_in hbm.out x (Nat.le_refl _)
  rw [List.length_take] at hab hpb
  by_cases hjn : j < np
  case pos =>
    obtain ⟨x, hx⟩ := getq (l := parcels m) (j := j) (by rw [← hpn.out]; exact hjn)
    have hxm := List.mem_of_getElem? hx
    have hask := Lib.hid (fun y h0 h1 => ask_parcel hbm.out hxm (y := y) h0 h1)
    have hs1 : Hid (sumI (((parcels m).take (j + 1)).map (Pu.sold m)) = sumI (((parcels m).take j).map (Pu.sold m)) + Pu.sold m x) := by
      show _ = _; rw [take_snoc hx, List.map_append, sumI_append]; simp [sumI]
    have hs2 : Hid (sumI (((parcels m).take (j + 1)).map fun x => hasUpto m x 41) = sumI (((parcels m).take j).map fun x => hasUpto m x 41) + hasUpto m x 41) := by
      show _ = _; rw [take_snoc hx, List.map_append, sumI_append]; simp [sumI]
    obtain ⟨A, hA⟩ : ∃ A, sumI (((parcels m).take j).map (Pu.sold m)) = A := ⟨_, rfl⟩
    obtain ⟨D, hD⟩ : ∃ D, sumI (((parcels m).take j).map fun x => hasUpto m x 41) = D := ⟨_, rfl⟩
    rw [hA] at hab hs1 ⊢
    rw [hD] at hpb hs2 ⊢
    obtain ⟨a1, a2, a3, a4⟩ := Book.sp hbm.out x
    have hsne := parcel_sold hbm.out hxm
    have heq0 : Pu.held m x + hasUpto m x 41 = Pu.sold m x := by unfold Pu.held; omega
    obtain ⟨sv, hsv⟩ : ∃ sv, Hid (Pu.sold m x = sv) := ⟨_, rfl⟩
    obtain ⟨hv, hhv⟩ : ∃ hv, Hid (Pu.held m x = hv) := ⟨_, rfl⟩
    have hsq : Hid (soldQ m x = (sv, 0)) := by show _ = _; unfold soldQ; rw [if_pos (hask.out 0 (by omega) (by omega)), if_neg hsne, hsv.out]
    have hhq : Hid (numE (askCode m x 0) (Pu.held m x) = (hv, 0)) := by show _ = _; unfold numE; rw [if_pos (hask.out 0 (by omega) (by omega)), hhv.out]
    rw [hsv.out] at a2 a3 heq0 hs1
    rw [hhv.out] at a1 heq0
    have hAb : 0 ≤ A ∧ A ≤ 24000000000 := by omega
    have hDb : 0 ≤ D ∧ D ≤ 24000000000 := by omega
    have hh1 : ¬ hv < 0 := by omega
    have hvle : hv ≤ 1000000000 := by have := hasUpto_in hbm.out x (Nat.le_refl 41); omega
    have hIr := Lib.hid (hI.out.after hb)
    have hlr := Lib.hid (hl5.out.after hb)
    have hS := pSold hlr.out x
    rw [hsq.out] at hS
    replace hS := Lib.hid hS
    obtain ⟨b, o, rfl, hb0, c0⟩ := hIr.out.hs.int hx
    replace hx := Lib.hid hx
    replace hb := Lib.hid hb
    replace heq0 := Lib.hid heq0
    clear hA hD hab hpb hsne a4 hxm
    go_wp2_with (fail)
    go_at_call 28
    refine hS.out.mono ?_
    rintro e w6 ⟨rfl, hB7⟩
    have hl6 := Lib.hid (hlr.out.after hB7)
    have hb6 := Lib.hid (hb.out.trans (hB7.mono hb.out.size))
    have hI6 := Lib.hid (hIr.out.after hB7)
    have hH := pHeldOf hl6.out x
    rw [hhq.out] at hH
    replace hH := Lib.hid hH
    clear c0 hB7 hS
    obtain ⟨b', o', e1, _, c0⟩ := hI6.out.hs.int hx.out
    cases e1
    go_wp2_with (fail)
    go_at_call 34
    refine hH.out.mono ?_
    rintro e w7 ⟨rfl, hB7⟩
    have hl7 := Lib.hid (hl6.out.after hB7)
    have hb7 := Lib.hid (hb6.out.trans (hB7.mono hb6.out.size))
    have hI7 := Lib.hid (hI6.out.after hB7)
    have hrefl7 := Lib.hid (Below.refl w7.heap.size w7)
    clear c0 hB7 hH hl6 hb6 hI6 hIr hlr hb
    go_wp2
    go_loopw [7, 14, 15] (fun p s i wr => ∃ q : Nat, q ≤ 41 ∧ i = .int .i64 q ∧ s = .int .i64 (hv + hasUpto m x q) ∧ p = .int .i64 (D + hasUpto m x q) ∧ Below w7.heap.size w7 wr) (fun _ _ i _ => 41 - (intOf i).toNat)
    case atStart => exact ⟨0, Nat.zero_le _, rfl, by simp [hasUpto], by simp [hasUpto], hrefl7.out⟩
    case round =>
    obtain ⟨q, hq, rfl, rfl, rfl, hb8⟩ := hrel
    have huq := hasUpto_in hbm.out x hq
    by_cases hq41 : q < 41
    case pos =>
      have hst : Hid (hasUpto m x (q + 1) = hasUpto m x q + Pu.has m q x) := rfl
      have hvb := Book.has_le hbm.out (q : Int) x
      obtain ⟨hq1, hhq1⟩ : ∃ v, Hid (Pu.has m (q : Int) x = v) := ⟨_, rfl⟩
      obtain ⟨u, hu⟩ : ∃ u, hasUpto m x q = u := ⟨_, rfl⟩
      have hqq : Hid (numE (askCode m x q) (Pu.has m q x) = (hq1, 0)) := by show _ = _; unfold numE; rw [if_pos (hask.out q (by omega) (by omega)), hhq1.out]
      rw [hhq1.out] at hvb hst
      rw [hu] at huq hst ⊢
      have hh2 : ¬ hq1 < 0 := by omega
      have hl8 := Lib.hid (hl7.out.after hb8)
      have hI8 := Lib.hid (hI7.out.after hb8)
      have hHs := pHas hl8.out (q : Int) x
      rw [hqq.out] at hHs
      replace hHs := Lib.hid hHs
      obtain ⟨b', o', e1, _, c0⟩ := hI8.out.hs.int hx.out
      cases e1
      replace hb8 := Lib.hid hb8
      replace hhq := Lib.hid hhq.out
      clear hu
      go_wp2_with (go_at_call 30; refine hHs.out.mono ?_; rintro e w8 ⟨rfl, hB9⟩; replace hB9 := Lib.hid (hb8.out.trans (hB9.mono hb8.out.size)))
      go_roundw
      case rel =>
        refine ⟨q + 1, by omega, by go_num, ?_, ?_, hB9.out⟩
        · rw [hst.out]; first | rw [Int.add_assoc] | (congr 1; unfold wrap64; omega)
        · rw [hst.out]; first | rw [Int.add_assoc] | (congr 1; unfold wrap64; omega)
      case measure => simp [intOf]; omega
    case neg =>
      obtain rfl : q = 41 := by omega
      have heq := heq0.out
      rw [heq]
      obtain ⟨u, hu⟩ : ∃ u, Hid (hasUpto m x 41 = u) := ⟨_, rfl⟩
      rw [hu.out] at huq hs2 ⊢
      have hg : (sv != sv) = false := by simp
      have hb9 := Lib.hid (hb7.out.trans (hb8.mono hb7.out.size))
      replace heq := Lib.hid heq
      clear hb8
      go_wp2
      go_roundw
      case rel => exact ⟨j + 1, by omega, by go_num, by rw [hs1.out], by rw [hs2.out], hb9.out⟩
      case measure => simp [intOf]; omega
  case neg =>
    obtain rfl : np = j := by omega
    have e : (parcels m).take np = parcels m := by rw [hpn.out]; exact List.take_length
    rw [e] at hab hpb ⊢
    have hl6 := Lib.hid (hl5.out.after hb)
    have hb6 := Lib.hid (hB6.out.trans (hb.mono hB6.out.size))
    have hH := pHeld hl6.out
    rw [show numE (check m).2 (total m) = (total m, 0) by unfold numE; rw [if_pos hcm.out]] at hH
    obtain ⟨A, hA⟩ : ∃ A, Hid (sumI ((parcels m).map (Pu.sold m)) = A) := ⟨_, rfl⟩
    obtain ⟨D, hD⟩ : ∃ D, Hid (sumI ((parcels m).map fun x => hasUpto m x 41) = D) := ⟨_, rfl⟩
    obtain ⟨T, hT⟩ : ∃ T, Hid (total m = T) := ⟨_, rfl⟩
    have hsum : T + D = A := by rw [← hA.out, ← hD.out, ← hT.out]; exact htp.out
    rw [hA.out] at hab ⊢
    rw [hD.out] at hpb ⊢
    rw [hT.out] at hH
    have hw1 : IntKind.i64.wrap (T + D) = T + D := IntWalk.i64_in _ (by omega)
    have hTb : -100000000000 ≤ T ∧ T ≤ 100000000000 := by omega
    have hDb : 0 ≤ D ∧ D ≤ 100000000000 := by omega
    have hg : (T + D == A) = true := by simpa using hsum
    replace hsum := Lib.hid hsum
    replace hH := Lib.hid hH
    clear hb e hab hpb hI
    go_wp2_with (first
      | (go_at_call 32; refine hH.out.mono ?_; rintro e w7 ⟨rfl, hB7⟩; replace hB7 := Lib.hid (hb6.out.trans (hB7.mono hb6.out.size)))
      | (go_at_call 11; refine (ppurses _).mono ?_; rintro e w8 ⟨rfl, hB8⟩; replace hB8 := Lib.hid (hB7.out.trans (hB8.mono hB7.out.size))))
    go_ret
    exact ⟨rfl, hB8.out⟩
end Go.Proofs.YtoijlikmigejbaaGreat
