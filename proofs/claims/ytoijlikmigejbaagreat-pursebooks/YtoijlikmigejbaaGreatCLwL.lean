/- Walk: the law PurseSettled. -/
import Derived.Test.YtoijlikmigejbaaGreatCCaz
import Derived.Test.YtoijlikmigejbaaGreatCPrC
import Derived.Test.YtoijlikmigejbaaGreatCMemA
namespace Go.Proofs.YtoijlikmigejbaaGreat
open Go.RowKit Go.Proofs.YtoijlikmigejbaaGreat.Pu

theorem hold_none {l : List Post} {x : Int} (h : holdL l x = []) (y : Int) (h0 : 0 ≤ y) (h1 : y ≤ 40) : Pu.has l y x = 0 := by
  unfold holdL at h
  rw [List.filterMap_eq_nil_iff] at h
  have := h y.toNat (List.mem_range.2 (by omega))
  unfold holdOf at this
  rw [show ((y.toNat : Nat) : Int) = y by omega] at this
  split at this
  · assumption
  · cases this
theorem kinds_book {l : List Post} (h : Book l) : Kinds l := fun p hp => by
  have hok := book_ok h p hp
  simp only [okP, inB, Bool.and_eq_true, decide_eq_true_eq] at hok
  omega
theorem settle_comp {l : List Post} {d : List Due} {cs : List Cause} {hour : Int} (h : settleCode l d cs hour = 0) : compCode l d = 0 := by
  have hok := setOk_of h
  rw [compCode_d hok.book]; exact hok.dues
theorem ask_parc {m : List Post} (hb : Book m) {x : Int} (hx : x ∈ parcels m) {y : Int} (h0 : 0 ≤ y) (h1 : y ≤ 40) : askCode m x y = 0 := by
  obtain ⟨p, hp, e⟩ := (mem_parcels x m).1 hx
  have hok := book_ok hb p hp
  simp only [okP, inB, Bool.and_eq_true, decide_eq_true_eq] at hok
  unfold askCode
  rw [if_pos (by rw [check_book hb]), if_pos]
  simp only [inB, Bool.and_eq_true, decide_eq_true_eq]
  omega
theorem holdP_parcel {l : List Post} (hb : Book l) {x : Int} (hx : x ∈ parcels l) : holdP l x = holdL l x := by
  unfold holdP
  rw [if_pos (ask_parc hb hx (by omega) (by omega))]

set_option maxRecDepth 100000 in
set_option maxHeartbeats 8000000 in
theorem wSettled (l : List Post) (d : List Due) (cs : List Cause) (hour : Int) (n cap n2 cap2 n3 cap3 : Nat) (ao ao2 ao3 : Option Addr) (w : World) (hn : n = l.length) (hL : n ≤ 100000 → LIn l n cap ao w.heap.size w)
    (hn2 : n2 = d.length) (hL2 : n2 ≤ 100000 → DIn d n2 cap2 ao2 w.heap.size w) (_hn3 : n3 = cs.length) (hL3 : n3 ≤ 100000 → CIn cs n3 cap3 ao3 w.heap.size w) :
    Calls Tryz.prog 8 #[.slice ao n cap, .slice ao2 n2 cap2, .slice ao3 n3 cap3, .int .i64 hour] w (LawRes w) := by
  replace hn := Lib.hid hn
  replace hn2 := Lib.hid hn2
  replace hL := Lib.hid hL
  replace hL2 := Lib.hid hL2
  replace hL3 := Lib.hid hL3
  clear _hn3
  have hfew := pFew n cap n2 cap2 n3 cap3 ao ao2 ao3 w
  by_cases hf : fewB n n2 n3 = true
  case neg =>
    rw [Bool.not_eq_true] at hf
    rw [hf] at hfew
    replace hfew := Lib.hid hfew
    clear hf
    go_enter Tryz.func8, Tryz.ntmps8
    go_wp2_with (first
      | (go_at_call 10; refine hfew.out.mono ?_; rintro e w2 ⟨rfl, hB2⟩)
      | (go_at_call 11; refine (ppurses _).mono ?_; rintro e w3 ⟨rfl, hB3⟩))
    go_ret
    exact ⟨rfl, hB2.trans (hB3.mono hB2.size)⟩
  case pos =>
  rw [hf] at hfew
  replace hfew := Lib.hid hfew
  obtain ⟨hf1, hf2, hf3⟩ := fewB_of hf
  clear hf
  have hst : Hid (SetIn l d cs hour n cap n2 cap2 n3 cap3 ao ao2 ao3 w.heap.size w) := ⟨hL.out (by omega), hL2.out (by omega), hL3.out (by omega)⟩
  clear hL hL2 hL3
  have hnx : Hid (∀ W W', SetIn l d cs hour n cap n2 cap2 n3 cap3 ao ao2 ao3 w.heap.size W → Below W.heap.size W W' → SetIn l d cs hour n cap n2 cap2 n3 cap3 ao ao2 ao3 w.heap.size W') := fun W W' h hB => ⟨h.l.after hB, h.d.after hB, h.c.after hB⟩
  have hc2 := hst.out.d.hcap
  obtain ⟨rs, hrs⟩ : ∃ x, Hid (settleCode l d cs hour = x) := ⟨_, rfl⟩
  obtain ⟨cc, hcc⟩ : ∃ x, Hid (compCode l d = x) := ⟨_, rfl⟩
  obtain ⟨S, hS⟩ : ∃ x, Hid (settleQ l d cs hour = x) := ⟨_, rfl⟩
  obtain ⟨C, hC⟩ : ∃ x, Hid (covQ l d = x) := ⟨_, rfl⟩
  have hSn : S.length ≤ 400 := by rw [← hS.out]; exact settleQ_len l d cs hour
  go_enter Tryz.func8, Tryz.ntmps8
  go_wp2_with (fail)
  go_at_call 10
  refine hfew.out.mono ?_
  rintro e w1 ⟨rfl, hB1⟩
  have h1 := Lib.hid (hnx.out _ _ hst.out hB1)
  replace hB1 := Lib.hid hB1
  go_wp2_with (fail)
  go_at_call 12
  refine (nSettle hour h1.out).mono ?_
  rintro e w2 ⟨hB, a2, ns, cS, rfl, hR⟩
  rw [hS.out] at hR
  rw [hrs.out]
  have h2 := Lib.hid (hnx.out _ _ h1.out hB)
  have hB2 := Lib.hid (hB1.out.trans (hB.mono hB1.out.size))
  replace hR := Lib.hid hR
  clear hB h1 hB1
  go_wp2_with (fail)
  go_at_call 51
  refine (pCovered h2.out.l h2.out.d).mono ?_
  rintro e w3 ⟨hB, a3, m3, c3, rfl, hI⟩
  rw [hC.out] at hI
  rw [hcc.out]
  have h3 := Lib.hid (hnx.out _ _ h2.out hB)
  have hB3 := Lib.hid (hB2.out.trans (hB.mono hB2.out.size))
  replace hR := Lib.hid (hR.out.after hB)
  have hm3 := Lib.hid hI.hn
  clear hB h2 hB2 hI
  by_cases hr0 : rs = 0
  case neg =>
    have hne : (rs != 0) = true := by simpa using hr0
    replace hr0 := Lib.hid hr0
    go_wp2_with (go_at_call 11; refine (ppurses _).mono ?_; rintro e w4 ⟨rfl, hB4⟩)
    go_ret
    exact ⟨rfl, hB3.out.trans (hB4.mono hB3.out.size)⟩
  case pos =>
  subst hr0
  have hc0 : cc = 0 := by rw [← hcc.out]; exact settle_comp hrs.out
  subst hc0
  by_cases hm0 : 0 < m3
  case pos =>
    go_wp2_with (go_at_call 11; refine (ppurses _).mono ?_; rintro e w4 ⟨rfl, hB4⟩)
    go_ret
    exact ⟨rfl, hB3.out.trans (hB4.mono hB3.out.size)⟩
  case neg =>
  have hcov : Hid (covL l d = []) := by
    show _ = _
    have h1 := hC.out
    unfold covQ at h1
    rw [if_pos hcc.out] at h1
    rw [h1]
    exact List.eq_nil_of_length_eq_zero (by rw [← hm3.out]; omega)
  have hok := Lib.hid (setOk_of hrs.out)
  have hSo : Hid (settleOut l d cs hour = S) := by
    show _ = _; have h1 := hS.out; unfold settleQ at h1; rw [if_pos hrs.out] at h1; exact h1
  obtain rfl : m3 = 0 := by omega
  clear hm0 hm3
  have hrefl3 := Lib.hid (Below.refl w3.heap.size w3)
  go_wp2
  go_loopw [13] (fun i wr => ∃ j : Nat, j ≤ n2 ∧ i = .int .i64 j ∧ Hid (∀ e ∈ d.take j, 0 < e.amount → causedF l e.parcel hour false cs = true) ∧ Below w3.heap.size w3 wr) (fun i _ => n2 - (intOf i).toNat)
  case atStart => exact ⟨0, Nat.zero_le _, rfl, fun e he => (by simp at he), hrefl3.out⟩
  case round =>
    obtain ⟨j, hj, rfl, hst1, hb⟩ := hrel
    have h4 := Lib.hid (hnx.out _ _ h3.out hb)
    by_cases hlt : j < n2
    case pos =>
      obtain ⟨x, hx⟩ := getq (l := d) (j := j) (by rw [← hn2.out]; exact hlt)
      have hsn : (0 < x.amount → causedF l x.parcel hour false cs = true) → Hid (∀ e ∈ d.take (j + 1), 0 < e.amount → causedF l e.parcel hour false cs = true) := fun hh e he => by
        rw [take_snoc hx, List.mem_append, List.mem_singleton] at he
        rcases he with he | rfl
        · exact hst1.out e he
        · exact hh
      obtain ⟨b, o, rfl, hb0, c0, c1, c2⟩ := h4.out.d.hs.due hx
      have hjc : j ≤ cap2 := by omega
      replace hsn := Lib.hid hsn
      replace hb := Lib.hid hb
      clear hx
      by_cases ha : 0 < x.amount
      case neg =>
        have hd : decide (0 < x.amount) = false := by simpa using ha
        have hsn2 := hsn.out fun h => absurd h ha
        replace ha := Lib.hid ha
        clear hsn
        go_wp2
        go_roundw
        case rel => exact ⟨j + 1, by omega, by go_num, hsn2, hb.out⟩
        case measure => simp [intOf]; omega
      case pos =>
      have hd : decide (0 < x.amount) = true := by simpa using ha
      have hcz := Lib.hid (pcaused h4.out.l h4.out.c x.parcel hour)
      obtain ⟨t, ht⟩ : ∃ t, Hid (causedF l x.parcel hour false cs = t) := ⟨_, rfl⟩
      rw [ht.out] at hcz
      replace ha := Lib.hid ha
      cases t
      · clear hsn
        go_wp2_with (first
          | (go_at_call 53; refine hcz.out.mono ?_; rintro e w5 ⟨rfl, hB5⟩)
          | (go_at_call 11; refine (ppurses _).mono ?_; rintro e w6 ⟨rfl, hB6⟩))
        go_ret
        have hb5 := hb.out.trans (hB5.mono hb.out.size)
        exact ⟨rfl, hB3.out.trans ((hb5.trans (hB6.mono hb5.size)).mono hB3.out.size)⟩
      · have hsn2 := hsn.out fun _ => ht.out
        clear hsn
        go_wp2_with (go_at_call 53; refine hcz.out.mono ?_; rintro e w5 ⟨rfl, hB5⟩; replace hB5 := Lib.hid (hb.out.trans (hB5.mono hb.out.size)))
        go_roundw
        case rel => exact ⟨j + 1, by omega, by go_num, hsn2, hB5.out⟩
        case measure => simp [intOf]; omega
    case neg =>
    obtain rfl : n2 = j := by omega
    rw [List.take_of_length_le (by rw [hn2.out]; exact Nat.le_refl _)] at hst1
    replace hR := Lib.hid (hR.out.after hb)
    have hB4 := Lib.hid (hB3.out.trans (hb.mono hB3.out.size))
    clear hb h3 hrefl3 hB3
    go_wp2_with (fail)
    go_at_call 23
    refine (pParcels h4.out.l).mono ?_
    rintro e w5 ⟨hB, ap, np, cp, rfl, hI, _⟩
    have hpq : parcelsQ l = parcels l := by unfold parcelsQ; rw [if_pos (by rw [check_book hok.out.book])]
    rw [hpq] at hI
    have h5 := Lib.hid (hnx.out _ _ h4.out hB)
    have hB5 := Lib.hid (hB4.out.trans (hB.mono hB4.out.size))
    replace hR := Lib.hid (hR.out.after hB)
    have hnp := Lib.hid hI.hn
    have hcp := hI.hcap
    have hmp := hI.hm
    replace hI := Lib.hid hI
    have hrefl5 := Lib.hid (Below.refl w5.heap.size w5)
    clear hB h4 hB4 hpq
    go_wp2
    go_loopw [15] (fun i wr => ∃ j : Nat, j ≤ np ∧ i = .int .i64 j ∧ Hid (∀ x ∈ (parcels l).take j, holdL l x ≠ [] → causedF l x hour false cs = true) ∧ Below w5.heap.size w5 wr) (fun i _ => np - (intOf i).toNat)
    case atStart => exact ⟨0, Nat.zero_le _, rfl, fun e he => (by simp at he), hrefl5.out⟩
    case round =>
      obtain ⟨j, hj, rfl, hst2, hb⟩ := hrel
      have h6 := Lib.hid (hnx.out _ _ h5.out hb)
      by_cases hlt : j < np
      case pos =>
        obtain ⟨x, hx⟩ := getq (l := parcels l) (j := j) (by rw [← hnp.out]; exact hlt)
        have hsn : (holdL l x ≠ [] → causedF l x hour false cs = true) → Hid (∀ y ∈ (parcels l).take (j + 1), holdL l y ≠ [] → causedF l y hour false cs = true) := fun hh e he => by
          rw [take_snoc hx, List.mem_append, List.mem_singleton] at he
          rcases he with he | rfl
          · exact hst2.out e he
          · exact hh
        have hxm := List.mem_of_getElem? hx
        obtain ⟨b, o, rfl, hb0, c0⟩ := (hI.out.after hb).hs.int hx
        have hcl : Hid (∀ W, Below wr.heap.size wr W → W.cell? ⟨b, o + j, none⟩ = some (.int .i64 x)) := fun W hW => (hW.cell (p := ⟨b, o + j, none⟩) (by show b < wr.heap.size; have := hb.size; omega)).trans c0
        obtain ⟨H, hH⟩ : ∃ H, Hid (holdL l x = H) := ⟨_, rfl⟩
        have hHo := Lib.hid (pHolders h6.out.l x)
        rw [holdP_parcel hok.out.book hxm, hH.out] at hHo
        rw [hH.out] at hsn
        have hjc : j ≤ cp := by omega
        replace hsn := Lib.hid hsn
        replace hb := Lib.hid hb
        clear hx hxm
        by_cases hH0 : 0 < H.length
        case neg =>
          have hd : decide (0 < (H.length : Int)) = false := by simpa using hH0
          have hsn2 := hsn.out fun h => absurd (List.length_pos_iff.2 h) hH0
          clear hsn
          go_wp2_with (go_at_call 26; refine hHo.out.mono ?_; rintro e w6 ⟨hB6, a6, c6, rfl, _⟩; replace hB6 := Lib.hid (hb.out.trans (hB6.mono hb.out.size)))
          go_roundw
          case rel => exact ⟨j + 1, by omega, by go_num, hsn2, hB6.out⟩
          case measure => simp [intOf]; omega
        case pos =>
          have hd : decide (0 < (H.length : Int)) = true := by simpa using hH0
          have hcz := Lib.hid (fun W (hW : Below wr.heap.size wr W) => pcaused (h6.out.l.after hW) (h6.out.c.after hW) x hour)
          obtain ⟨t, ht⟩ : ∃ t, Hid (causedF l x hour false cs = t) := ⟨_, rfl⟩
          rw [ht.out] at hcz
          cases t
          · clear hsn
            go_wp2_with (first
              | (go_at_call 26; refine hHo.out.mono ?_; rintro e w6 ⟨hB6, a6, c6, rfl, _⟩; have d0 := hcl.out w6 hB6; replace hB6 := Lib.hid hB6)
              | (go_at_call 53; refine (hcz.out w6 hB6.out).mono ?_; rintro e w7 ⟨rfl, hB7⟩)
              | (go_at_call 11; refine (ppurses _).mono ?_; rintro e w8 ⟨rfl, hB8⟩))
            go_ret
            have hb6 := hb.out.trans (hB6.out.mono hb.out.size)
            have hb7 := hb6.trans (hB7.mono hb6.size)
            exact ⟨rfl, hB5.out.trans ((hb7.trans (hB8.mono hb7.size)).mono hB5.out.size)⟩
          · have hsn2 := hsn.out fun _ => ht.out
            clear hsn
            go_wp2_with (first
              | (go_at_call 26; refine hHo.out.mono ?_; rintro e w6 ⟨hB6, a6, c6, rfl, _⟩; have d0 := hcl.out w6 hB6; replace hB6 := Lib.hid hB6)
              | (go_at_call 53; refine (hcz.out w6 hB6.out).mono ?_; rintro e w7 ⟨rfl, hB7⟩
                 have hb6 := hb.out.trans (hB6.out.mono hb.out.size)
                 have hb7 := Lib.hid (hb6.trans (hB7.mono hb6.size))
                 clear hb6 hB7))
            go_roundw
            case rel => exact ⟨j + 1, by omega, by go_num, hsn2, hb7.out⟩
            case measure => simp [intOf]; omega
      case neg =>
      obtain rfl : np = j := by omega
      rw [List.take_of_length_le (by rw [hnp.out]; exact Nat.le_refl _)] at hst2
      have hall : Hid (settledB (l ++ S) d = true) := by
        show _ = _
        rw [← hSo.out]
        exact settled_all hok.out hcov.out (fun e he ha => caused_of hok.out.causes (hst1.out e he ha)) (fun x hx ⟨y, h0, h1, h2⟩ => caused_of hok.out.causes (hst2.out x hx fun hn => h2 (hold_none hn y h0 h1)))
      have hcomp : Hid (compCode (l ++ S) d = 0) := by
        show _ = _
        rw [← hSo.out, compCode_d ((settle_parts hok.out).2.outs.book)]
        exact hok.out.dues
      have hkk : Hid (Kinds (l ++ S)) := by show Kinds _; rw [← hSo.out]; exact kinds_book ((settle_parts hok.out).2.outs.book)
      have hB6 := Lib.hid (hB5.out.trans (hb.mono hB5.out.size))
      replace hR := Lib.hid (hR.out.after hb)
      have hnS := Lib.hid hR.out.n
      have hns : ns ≤ 400 := by rw [hnS.out]; exact hSn
      have hlS : Hid ((l ++ S).length = n + ns) := by show _ = _; rw [List.length_append, ← hn.out, ← hnS.out]
      have hRhi := hR.out.hi
      clear hb h5 hrefl5 hB5 hst1 hst2 hok hcov hSo hrs hcc
      have hA : Below wr.heap.size wr (wr.alloc (.cells #[] 36)) := (Below.refl _ _).alloc (Nat.le_refl _) _
      have h7 := Lib.hid (hnx.out _ _ h6.out hA)
      have hR7 := Lib.hid (hR.out.after hA)
      replace hA := Lib.hid hA
      have hBr := h6.out.l.hB
      clear hR
      go_wp2_with (first
        | (at_builtin; refine list_append_sl0 rfl _ _ wr.heap.size l n cap ao rfl rfl rfl wr.heap.size (own_empty wr _ _) w.heap.size hn.out h7.out.l.hs h7.out.l.had (by omega) (by simp) ?_
           intro aw cw W2 hown hgr
           have hG := Lib.hid (hA.out.grown hgr (by simp) (fun k hk => by cases hk; exact Nat.le_refl _))
           have hR8 := Lib.hid (hR7.out.kept (KeptBut.of_grown hgr) (fun k h1 h2 h3 => by cases h3; omega))
           replace hown := Lib.hid hown)
        | (at_builtin; refine list_append_kd kdPost rfl _ _ _ S ns cS a2 rfl rfl rfl wr.heap.size _ _ hown.out W2.heap.size hnS.out hR8.out.at hR8.out.had (by omega) (by have := hG.out.size; omega) ?_
           intro v3 W3 hown3 hgr3
           have hG3 := Lib.hid (hG.out.grown hgr3 (by have := hG.out.size; omega) (own_far hown.out))
           obtain ⟨av, cv, rfl⟩ := own_form hown3
           rw [← flat_app] at hown3
           have hl9 := Lib.hid (Own.lin hown3 hlS.out.symm (by omega) hkk.out)
           have hd9' := h6.out.d.after hG3.out
           have hd9 : Hid (DIn d n2 cap2 ao2 W3.heap.size W3) := ⟨hd9'.hn, hd9'.hm, hd9'.hcap, SlAt.mono hd9'.hs hd9'.hB, Nat.le_refl _⟩
           clear hown3 hgr3 hd9')
        | (go_at_call 49; refine (pSettled hl9.out (hd9.out)).mono ?_; rintro e w9 ⟨hB9, rfl⟩; rw [hall.out, hcomp.out]; replace hB9 := Lib.hid hB9)
        | (go_at_call 11; refine (ppurses _).mono ?_; rintro e w10 ⟨rfl, hB10⟩))
      go_ret
      have hbb := (hB6.out.trans (hG3.out.mono hB6.out.size))
      have hbc := hbb.trans (hB9.out.mono hbb.size)
      exact ⟨rfl, hbc.trans (hB10.mono hbc.size)⟩
end Go.Proofs.YtoijlikmigejbaaGreat
