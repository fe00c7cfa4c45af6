/- Walk: the law PurseBooks. -/
import Derived.Test.YtoijlikmigejbaaGreatCLwL
import Derived.Test.YtoijlikmigejbaaGreatCBalA
namespace Go.Proofs.YtoijlikmigejbaaGreat
open Go.RowKit Go.Proofs.YtoijlikmigejbaaGreat.Pu

def amtS (L : List Due) : Int := sumI (L.map (·.amount))
def holdS (l : List Post) (x : Int) : Int := amtS (holdL l x)
theorem hold_mem {l : List Post} (h : Book l) {x : Int} {z : Due} (hz : z ∈ holdL l x) : 0 ≤ z.amount ∧ z.amount ≤ 1000000000 := by
  unfold holdL at hz
  obtain ⟨k, _, he⟩ := List.mem_filterMap.1 hz
  unfold holdOf at he
  split at he
  · cases he
  · cases he; exact Book.has_le h k x
theorem holdL_len (l : List Post) (x : Int) : (holdL l x).length ≤ 41 := by
  unfold holdL
  have h := List.length_filterMap_le (holdOf l x) (List.range 41)
  rw [List.length_range] at h; exact h
theorem holdS_bd {l : List Post} (h : Book l) (x : Int) : 0 ≤ holdS l x ∧ holdS l x ≤ 41000000000 := by
  have h1 := sumI_bd (f := fun z : Due => z.amount) (M := 1000000000) (holdL l x) fun z hz => hold_mem h hz
  have h2 := holdL_len l x
  unfold holdS amtS; omega
theorem bal_mem {l : List Post} (h : Book l) {b : Bal} (hb : b ∈ balL l) : 0 ≤ b.back ∧ b.back ≤ b.paid ∧ b.paid ≤ l.length * 1000000000 := by
  unfold balL at hb
  rw [if_pos (by rw [check_book h])] at hb
  obtain ⟨k, _, he⟩ := List.mem_filterMap.1 hb
  unfold balOf at he
  split at he
  · cases he
  · cases he
    exact ⟨(back_bd (Book.amtOk h) k).1, back_le h k, (paid_bd (Book.amtOk h) k).2⟩
theorem balL_len (l : List Post) : (balL l).length ≤ 41 := by
  unfold balL
  split
  · have h := List.length_filterMap_le (balOf l) (List.range 41)
    rw [List.length_range] at h; exact h
  · exact Nat.zero_le _

set_option maxRecDepth 100000 in
set_option maxHeartbeats 8000000 in
theorem wBooks (l : List Post) (d : List Due) (n cap n2 cap2 : Nat) (ao ao2 : Option Addr) (w : World) (hn : n = l.length) (hL : n ≤ 100000 → LIn l n cap ao w.heap.size w)
    (hn2 : n2 = d.length) (hL2 : n2 ≤ 100000 → DIn d n2 cap2 ao2 w.heap.size w) :
    Calls Tryz.prog 9 #[.slice ao n cap, .slice ao2 n2 cap2] w (LawRes w) := by
  replace hn := Lib.hid hn
  replace hn2 := Lib.hid hn2
  replace hL := Lib.hid hL
  replace hL2 := Lib.hid hL2
  have hfew := pFew n cap n2 cap2 0 0 ao ao2 none w
  by_cases hf : fewB n n2 0 = true
  case neg =>
    rw [Bool.not_eq_true] at hf
    rw [hf] at hfew
    replace hfew := Lib.hid hfew
    clear hf
    go_enter Tryz.func9, Tryz.ntmps9
    go_wp2_with (first
      | (go_at_call 10; refine hfew.out.mono ?_; rintro e w2 ⟨rfl, hB2⟩)
      | (go_at_call 11; refine (ppurses _).mono ?_; rintro e w3 ⟨rfl, hB3⟩))
    go_ret
    exact ⟨rfl, hB2.trans (hB3.mono hB2.size)⟩
  case pos =>
  rw [hf] at hfew
  replace hfew := Lib.hid hfew
  obtain ⟨hf1, hf2, _⟩ := fewB_of hf
  clear hf
  have hl0 := Lib.hid (hL.out (by omega))
  have hd0 := Lib.hid (hL2.out (by omega))
  clear hL hL2
  obtain ⟨cc, hcc⟩ : ∃ x, Hid (compCode l d = x) := ⟨_, rfl⟩
  obtain ⟨O, hO⟩ : ∃ x, Hid ((if compCode l d = 0 then openL l d else []) = x) := ⟨_, rfl⟩
  obtain ⟨V, hV⟩ : ∃ x, Hid ((if compCode l d = 0 then overL l d else []) = x) := ⟨_, rfl⟩
  obtain ⟨nO, hnO⟩ : ∃ x, Hid (O.length = x) := ⟨_, rfl⟩
  obtain ⟨nV, hnV⟩ : ∃ x, Hid (V.length = x) := ⟨_, rfl⟩
  obtain ⟨sb, hsb⟩ : ∃ x, Hid ((if compCode l d = 0 then settledB l d else false) = x) := ⟨_, rfl⟩
  go_enter Tryz.func9, Tryz.ntmps9
  go_wp2_with (fail)
  go_at_call 10
  refine hfew.out.mono ?_
  rintro e w1 ⟨rfl, hB1⟩
  have hl1 := Lib.hid (hl0.out.after hB1)
  have hd1 := Lib.hid (hd0.out.after hB1)
  replace hB1 := Lib.hid hB1
  clear hl0 hd0
  go_wp2_with (fail)
  go_at_call 45
  refine (pOpen hl1.out hd1.out).mono ?_
  intro e w2 hr
  obtain ⟨hB, a2, c2, rfl, _⟩ := hr.row
  rw [hO.out, hnO.out, hcc.out]
  have hl2 := Lib.hid (hl1.out.after hB)
  have hd2 := Lib.hid (hd1.out.after hB)
  have hB2 := Lib.hid (hB1.out.trans (hB.mono hB1.out.size))
  clear hB hr hl1 hd1 hB1
  go_wp2_with (fail)
  go_at_call 47
  refine (pOver hl2.out hd2.out).mono ?_
  intro e w3 hr
  obtain ⟨hB, a3, c3, rfl, _⟩ := hr.row
  rw [hV.out, hnV.out, hcc.out]
  have hl3 := Lib.hid (hl2.out.after hB)
  have hd3 := Lib.hid (hd2.out.after hB)
  have hB3 := Lib.hid (hB2.out.trans (hB.mono hB2.out.size))
  clear hB hr hl2 hd2 hB2
  go_wp2_with (fail)
  go_at_call 49
  refine (pSettled hl3.out hd3.out).mono ?_
  rintro e w4 ⟨hB, rfl⟩
  rw [hsb.out, hcc.out]
  have hl4 := Lib.hid (hl3.out.after hB)
  have hB4 := Lib.hid (hB3.out.trans (hB.mono hB3.out.size))
  clear hB hl3 hd3 hB3
  by_cases hc0 : cc = 0
  case neg =>
    have hne : (cc != 0) = true := by simpa using hc0
    have hO0 : nO = 0 := by rw [← hnO.out, ← hO.out, if_neg (by rw [hcc.out]; exact hc0)]; rfl
    have hV0 : nV = 0 := by rw [← hnV.out, ← hV.out, if_neg (by rw [hcc.out]; exact hc0)]; rfl
    have hs0 : sb = false := by rw [← hsb.out, if_neg (by rw [hcc.out]; exact hc0)]
    subst hO0 hV0 hs0
    replace hc0 := Lib.hid hc0
    clear hnO hnV hO hV hsb
    go_wp2_with (go_at_call 11; refine (ppurses _).mono ?_; rintro e w5 ⟨rfl, hB5⟩)
    go_ret
    exact ⟨rfl, hB4.out.trans (hB5.mono hB4.out.size)⟩
  case pos =>
  subst hc0
  have hbk := Lib.hid (comp_parts hcc.out).1
  have hsq : Hid (sb = ((nO == 0) && (nV == 0))) := by
    show _ = _
    rw [← hsb.out, if_pos hcc.out, ← hnO.out, ← hnV.out, ← hO.out, ← hV.out, if_pos hcc.out, if_pos hcc.out]; rfl
  clear hnO hnV hO hV hsb
  go_wp2_with (fail)
  go_at_call 21
  refine (pBalances hl4.out).mono ?_
  rintro e w5 ⟨hB, a5, m5, c5, rfl, hI5⟩
  obtain ⟨T, hT⟩ : ∃ T, Hid (balL l = T) := ⟨_, rfl⟩
  rw [hT.out] at hI5
  have hl5 := Lib.hid (hl4.out.after hB)
  have hB5 := Lib.hid (hB4.out.trans (hB.mono hB4.out.size))
  have hm5 := Lib.hid hI5.hn
  have hc5 := hI5.hcap
  have hm41 : m5 ≤ 41 := by rw [hm5.out, ← hT.out]; exact balL_len l
  replace hI5 := Lib.hid hI5
  have hbm := Lib.hid (fun b (hb : b ∈ T) => bal_mem (b := b) hbk.out (by rw [hT.out]; exact hb))
  have hn24 : l.length ≤ 24 := by rw [← hn.out]; exact hf1
  have hrefl := Lib.hid (Below.refl w5.heap.size w5)
  clear hB hl4 hB4
  go_wp2
  go_loopw [11, 13] (fun s i wr => ∃ j : Nat, j ≤ m5 ∧ i = .int .i64 j ∧ s = .int .i64 (sumI ((T.take j).map fun b => b.paid - b.back)) ∧ Below w5.heap.size w5 wr) (fun _ i _ => m5 - (intOf i).toNat)
  case atStart => exact ⟨0, Nat.zero_le _, rfl, rfl, hrefl.out⟩
  case round =>
    obtain ⟨j, hj, rfl, rfl, hb⟩ := hrel
    have hsd := sumI_bd (f := fun b : Bal => b.paid - b.back) (M := 24000000000) (T.take j) fun b hb => by have := hbm.out b (List.mem_of_mem_take hb); omega
    rw [List.length_take] at hsd
    by_cases hlt : j < m5
    case pos =>
      obtain ⟨b, hbj⟩ := getq (l := T) (j := j) (by rw [← hm5.out]; exact hlt)
      have hst : Hid (sumI ((T.take (j + 1)).map fun b => b.paid - b.back) = sumI ((T.take j).map fun b => b.paid - b.back) + (b.paid - b.back)) := by
        show _ = _; rw [take_snoc hbj, List.map_append, sumI_append]; simp [sumI]
      obtain ⟨A, hA⟩ : ∃ A, sumI ((T.take j).map fun b => b.paid - b.back) = A := ⟨_, rfl⟩
      rw [hA] at hst hsd ⊢
      obtain ⟨p1, p2, p3⟩ := hbm.out b (List.mem_of_getElem? hbj)
      obtain ⟨bb, o, rfl, hb0, k0, k1, k2⟩ := (hI5.out.hs.below hb).bal hbj
      have hjc : j ≤ c5 := by omega
      have g1 : decide (b.paid < b.back) = false := by simpa using p2
      have g2 : decide (b.back < 0) = false := by simpa using p1
      have hw1 : IntKind.i64.wrap (A + b.paid) = A + b.paid := IntWalk.i64_in _ (by omega)
      have hw2 : IntKind.i64.wrap (A + b.paid - b.back) = A + b.paid - b.back := IntWalk.i64_in _ (by omega)
      replace hb := Lib.hid hb
      clear hbj hA
      go_upto_region 15 with (fail)
      go_quiet (fail)
      go_upto_region 17 with (fail)
      go_quiet (fail)
      go_wp2
      go_roundw
      case rel => exact ⟨j + 1, by omega, by go_num, by rw [hst.out, ← Int.add_sub_assoc], below_drewN hb.out _⟩
      case measure => simp [intOf]; omega
    case neg =>
    obtain rfl : m5 = j := by omega
    rw [List.take_of_length_le (by rw [hm5.out]; exact Nat.le_refl _)] at hsd
    have hbs : Hid (sumI (T.map fun b => b.paid - b.back) = sumI ((parcels l).map (holdS l))) := by show _ = _; rw [← hT.out]; exact bal_hold hbk.out
    rw [List.take_of_length_le (by rw [hm5.out]; exact Nat.le_refl _)]
    obtain ⟨A, hA⟩ : ∃ A, sumI (T.map fun b => b.paid - b.back) = A := ⟨_, rfl⟩
    rw [hA] at hbs hsd ⊢
    have hl6 := Lib.hid (hl5.out.after hb)
    have hB6 := Lib.hid (hB5.out.trans (hb.mono hB5.out.size))
    clear hb hA hl5 hB5 hrefl hbm hI5
    have hpq : parcelsQ l = parcels l := by unfold parcelsQ; rw [if_pos (by rw [check_book hbk.out])]
    go_wp2_with (fail)
    go_at_call 23
    refine (pParcels hl6.out).mono ?_
    rintro e w7 ⟨hB, ap, np, cp, rfl, hI, _⟩
    rw [hpq] at hI
    have hl7 := Lib.hid (hl6.out.after hB)
    have hB7 := Lib.hid (hB6.out.trans (hB.mono hB6.out.size))
    have hnp := Lib.hid hI.hn
    have hcp := hI.hcap
    have hnp24 : np ≤ 24 := by have h1 := parcels_len l; have := hnp.out; omega
    replace hI := Lib.hid hI
    have hrefl7 := Lib.hid (Below.refl w7.heap.size w7)
    clear hB hl6 hB6 hpq
    go_wp2
    go_loopw [11, 15] (fun s i wr => ∃ j : Nat, j ≤ np ∧ i = .int .i64 j ∧ s = .int .i64 (A - sumI (((parcels l).take j).map (holdS l))) ∧ Below w7.heap.size w7 wr) (fun _ i _ => np - (intOf i).toNat)
    case atStart => exact ⟨0, Nat.zero_le _, rfl, by simp [sumI], hrefl7.out⟩
    case round =>
      obtain ⟨j, hj, rfl, rfl, hb⟩ := hrel
      have hpd := sumI_bd (f := holdS l) (M := 41000000000) ((parcels l).take j) fun x _ => holdS_bd hbk.out x
      rw [List.length_take] at hpd
      by_cases hlt : j < np
      case pos =>
        obtain ⟨x, hx⟩ := getq (l := parcels l) (j := j) (by rw [← hnp.out]; exact hlt)
        have hst : Hid (sumI (((parcels l).take (j + 1)).map (holdS l)) = sumI (((parcels l).take j).map (holdS l)) + holdS l x) := by
          show _ = _; rw [take_snoc hx, List.map_append, sumI_append]; simp [sumI]
        obtain ⟨P, hP⟩ : ∃ P, sumI (((parcels l).take j).map (holdS l)) = P := ⟨_, rfl⟩
        rw [hP] at hst hpd ⊢
        have hxm := List.mem_of_getElem? hx
        obtain ⟨b, o, rfl, hb0, k0⟩ := (hI.out.after hb).hs.int hx
        have hjc : j ≤ cp := by omega
        have hl8 := Lib.hid (hl7.out.after hb)
        obtain ⟨H, hH⟩ : ∃ H, Hid (holdL l x = H) := ⟨_, rfl⟩
        have hHo := Lib.hid (pHolders hl8.out x)
        rw [holdP_parcel hbk.out hxm, hH.out] at hHo
        have hHl : H.length ≤ 41 := by rw [← hH.out]; exact holdL_len l x
        have hHm := Lib.hid (fun z (hz : z ∈ H) => hold_mem (z := z) hbk.out (by rw [hH.out]; exact hz))
        have hHS : Hid (holdS l x = amtS H) := by show _ = _; unfold holdS; rw [hH.out]
        replace hb := Lib.hid hb
        clear hx hP hxm
        go_wp2_with (fail)
        go_at_call 26
        refine hHo.out.mono ?_
        rintro e w9 ⟨hB9, a9, c9, rfl, hown9⟩
        have hs9 := Lib.hid (Own.slAt dcells_len (by omega) hown9)
        have hc9 : H.length ≤ c9 := by
          obtain ⟨_, hr | ⟨g, cap', cur, e1, e2, e3, e4, _⟩⟩ := hown9
          · omega
          · cases e1; exact e4
        have hb9 := Lib.hid (hb.out.trans (hB9.mono hb.out.size))
        obtain ⟨nH, hnH⟩ : ∃ nH, Hid (H.length = nH) := ⟨_, rfl⟩
        rw [hnH.out] at hHl hc9 ⊢
        have hrefl9 := Lib.hid (Below.refl w9.heap.size w9)
        clear hB9 hown9 hHo
        go_wp2
        go_loopw [11, 17] (fun s i wr => ∃ q : Nat, q ≤ nH ∧ i = .int .i64 q ∧ s = .int .i64 (A - P - amtS (H.take q)) ∧ Below w9.heap.size w9 wr) (fun _ i _ => nH - (intOf i).toNat)
        case atStart => exact ⟨0, Nat.zero_le _, rfl, by simp [amtS, sumI], hrefl9.out⟩
        case round =>
          obtain ⟨q, hq, rfl, rfl, hbq⟩ := hrel
          have hqd := sumI_bd (f := fun z : Due => z.amount) (M := 1000000000) (H.take q) fun z hz => hHm.out z (List.mem_of_mem_take hz)
          rw [List.length_take] at hqd
          by_cases hqn : q < nH
          case pos =>
            obtain ⟨z, hz⟩ := getq (l := H) (j := q) (by rw [hnH.out]; exact hqn)
            have hsq2 : Hid (amtS (H.take (q + 1)) = amtS (H.take q) + z.amount) := by
              show _ = _; unfold amtS; rw [take_snoc hz, List.map_append, sumI_append]; simp [sumI]
            change 0 ≤ amtS (H.take q) ∧ amtS (H.take q) ≤ _ at hqd
            obtain ⟨Q, hQ⟩ : ∃ Q, amtS (H.take q) = Q := ⟨_, rfl⟩
            rw [hQ] at hsq2 hqd ⊢
            have hzm := hHm.out z (List.mem_of_getElem? hz)
            obtain ⟨b2, o2, rfl, hb20, m0, m1, m2⟩ := (hs9.out.below hbq).due hz
            have hqc : q ≤ c9 := by omega
            have hw3 : IntKind.i64.wrap (A - P - Q - z.amount) = A - P - Q - z.amount := IntWalk.i64_in _ (by omega)
            replace hbq := Lib.hid hbq
            clear hz hQ
            go_wp2
            go_roundw
            case rel => exact ⟨q + 1, by omega, by go_num, by rw [hsq2.out, ← Int.sub_sub], hbq.out⟩
            case measure => simp [intOf]; omega
          case neg =>
            obtain rfl : nH = q := by omega
            have hqe : Hid (A - P - amtS (H.take nH) = A - (P + holdS l x)) := by
              show _ = _; rw [List.take_of_length_le (by rw [hnH.out]; exact Nat.le_refl _), hHS.out, Int.sub_sub]
            have hb10 := Lib.hid (hb9.out.trans (hbq.mono hb9.out.size))
            rw [hqe.out, ← hst.out]
            clear hbq hqd
            go_wp2
            go_roundw
            case rel => exact ⟨j + 1, by omega, by go_num, rfl, hb10.out⟩
            case measure => simp [intOf]; omega
      case neg =>
      obtain rfl : np = j := by omega
      have hz : A - sumI (((parcels l).take np).map (holdS l)) = 0 := by
        rw [List.take_of_length_le (by rw [hnp.out]; exact Nat.le_refl _), ← hbs.out]; omega
      have hb10 := Lib.hid (hB7.out.trans (hb.mono hB7.out.size))
      rw [hz]
      have hs2 := hsq.out
      clear hb hpd hz hbs hsd hsq
      by_cases e1 : nO = 0
      · subst e1
        by_cases e2 : nV = 0
        · subst e2
          obtain rfl : sb = true := by rw [hs2]; rfl
          clear hs2
          go_wp2_with (go_at_call 11; refine (ppurses _).mono ?_; rintro e w11 ⟨rfl, hB11⟩)
          go_ret
          exact ⟨rfl, hb10.out.trans (hB11.mono hb10.out.size)⟩
        · have e3 : ((nV : Int) == 0) = false := by simpa using e2
          obtain rfl : sb = false := by rw [hs2]; simpa using e2
          clear hs2
          replace e2 := Lib.hid e2
          go_wp2_with (go_at_call 11; refine (ppurses _).mono ?_; rintro e w11 ⟨rfl, hB11⟩)
          go_ret
          exact ⟨rfl, hb10.out.trans (hB11.mono hb10.out.size)⟩
      · have e3 : ((nO : Int) == 0) = false := by simpa using e1
        obtain rfl : sb = false := by rw [hs2]; simp [e1]
        clear hs2
        replace e1 := Lib.hid e1
        go_wp2_with (go_at_call 11; refine (ppurses _).mono ?_; rintro e w11 ⟨rfl, hB11⟩)
        go_ret
        exact ⟨rfl, hb10.out.trans (hB11.mono hb10.out.size)⟩
end Go.Proofs.YtoijlikmigejbaaGreat
