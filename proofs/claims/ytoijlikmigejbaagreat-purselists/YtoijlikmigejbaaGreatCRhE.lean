/- Walk: the reference's Balances. -/
import Derived.Test.YtoijlikmigejbaaGreatCBalP
namespace Go.Proofs.YtoijlikmigejbaaGreat
open Go.RowKit Go.Proofs.YtoijlikmigejbaaGreat.Pu

theorem one_bal (w : World) (x : Bal) : SlAt 3 bcells (w.alloc (.cells #[.int .i64 x.party, .int .i64 x.paid, .int .i64 x.back] 66)).heap.size (w.alloc (.cells #[.int .i64 x.party, .int .i64 x.paid, .int .i64 x.back] 66)) (some ⟨w.heap.size, 0, none⟩) [x] :=
  Own.slAt bcells_len (by omega) (World.ownsRow_lit w #[.int .i64 x.party, .int .i64 x.paid, .int .i64 x.back] 1 (Nat.le_refl _) (by unfold maxLen; omega) rfl)
theorem row_one (w : World) (x : Bal) : RowB (w.alloc (.cells #[.int .i64 x.party, .int .i64 x.paid, .int .i64 x.back] 66)) w.heap.size [x] := by
  have hz : ∀ i v, (#[Value.int .i64 x.party, .int .i64 x.paid, .int .i64 x.back])[i]? = some v → (w.alloc (.cells #[.int .i64 x.party, .int .i64 x.paid, .int .i64 x.back] 66)).cell? ⟨w.heap.size, i, none⟩ = some v := fun i v h => (cell_of_row _ _ _ _ _ _ (heap_alloc_new w _)).trans h
  refine ⟨by simp, fun i y hy => ?_, fun i y hy => ?_, fun i y hy => ?_, fun j => by simp⟩
  all_goals
    match i, hy with
    | 0, hy => cases hy; exact hz _ _ rfl
    | i + 1, hy => cases hy
theorem balOf_len (l : List Post) (j : Nat) : ((List.range j).filterMap (balOf l)).length ≤ j := by
  have h1 := List.length_filterMap_le (balOf l) (List.range j); rw [List.length_range] at h1; exact h1
theorem balL_book {l : List Post} (h : bookB l = true) : balL l = (List.range 41).filterMap (balOf l) := by unfold balL; rw [if_pos (bookB_iff.1 h)]
theorem balL_no {l : List Post} (h : bookB l = false) : balL l = [] := by
  unfold balL; rw [if_neg]; intro hc; rw [bookB_iff.2 hc] at h; cases h

set_option maxRecDepth 100000 in
set_option maxHeartbeats 4000000 in
theorem rBalances {l : List Post} {n cap : Nat} {ao : Option Addr} {B : Nat} {w : World} (h : LIn l n cap ao B w) :
    Calls Tryz.prog 22 #[.slice ao n cap] w (RowR 66 3 bcells (balL l) w) := by
  have hn := Lib.hid h.hn
  have hmm := h.hm
  have hcap := h.hcap
  have hB := h.hB
  obtain ⟨bb, hbb⟩ : ∃ bb, Hid (bookB l = bb) := ⟨_, rfl⟩
  obtain ⟨sb, hsb⟩ : ∃ sb, Hid (w.heap.size = sb) := ⟨_, rfl⟩
  have hrefl : Below sb w w := by rw [← hsb.out]; exact Below.refl _ _
  rw [hsb.out] at hB
  replace h := Lib.hid h
  replace hrefl := Lib.hid hrefl
  have hsz : sb ≤ w.heap.size := by rw [hsb.out]; exact Nat.le_refl _
  cases bb with
  | false =>
    have hq := Lib.hid (balL_no hbb.out)
    go_enter Tryz.func22, Tryz.ntmps22
    go_wp2
    go_loopw [3, 4] (fun v i wr => v = .slice none 0 0 ∧ i = .int .i64 0 ∧ wr = w) (fun _ _ _ => 0)
    case atStart => exact ⟨rfl, rfl, rfl⟩
    case round =>
      obtain ⟨rfl, rfl, rfl⟩ := hrel
      go_wp2_with (go_at_call 81; refine (rbook h.out).mono ?_; rintro e w1 ⟨rfl, hB1⟩; rw [hbb.out])
      go_ret
      exact ⟨hB1, none, 0, by rw [hq.out]; rfl, by rw [hq.out]; exact World.ownsRow_nil _ _ _ _⟩
  | true =>
  have hq := Lib.hid (balL_book hbb.out)
  have hbk := Lib.hid (book_of_check (bookB_iff.1 hbb.out))
  have ham := Lib.hid (Book.amtOk hbk.out)
  have hlen : n ≤ 400 := by rw [hn.out]; exact Book.len hbk.out
  go_enter Tryz.func22, Tryz.ntmps22
  go_wp2
  go_loopw [3, 4] (fun v i wr => ∃ j : Nat, j ≤ 41 ∧ i = .int .i64 j ∧ Below sb w wr ∧ Hid (wr.ownsRow sb 66 3 v ((List.range j).filterMap (balOf l)).length (flat bcells ((List.range j).filterMap (balOf l))))) (fun _ i _ => 41 - (intOf i).toNat)
  case atStart => exact ⟨0, Nat.zero_le _, rfl, hrefl.out, World.ownsRow_nil _ _ _ _⟩
  case round =>
    obtain ⟨j, hj, rfl, hb, hown⟩ := hrel
    have hlr := Lib.hid (h.out.below (hb.mono hB))
    have hwr : sb ≤ wr.heap.size := Nat.le_trans hsz hb.size
    have hll := balOf_len l j
    by_cases hlt : j < 41
    case neg =>
      obtain rfl : j = 41 := by omega
      obtain ⟨av, cv, rfl⟩ := own_form hown.out
      have hres : Hid (RowR 66 3 bcells (balL l) w (.returned (.slice av ((List.range 41).filterMap (balOf l)).length cv)) wr) :=
        ⟨by rw [hsb.out]; exact hb, av, cv, by rw [hq.out], by rw [hq.out, hsb.out]; exact hown.out⟩
      clear hown hb hll
      go_wp2
      go_ret
      exact hres.out
    case pos =>
    have hst := range_step (balOf l) j
    obtain ⟨L, hL⟩ : ∃ L, (List.range j).filterMap (balOf l) = L := ⟨_, rfl⟩
    rw [hL] at hst hown hll
    replace hst := Lib.hid hst
    replace hb := Lib.hid hb
    clear hL
    go_upto_region 5 with (go_at_call 81; refine (rbook hlr.out).mono ?_; rintro e w1 ⟨rfl, hB1⟩; rw [hbb.out]; have hl1 := Lib.hid (hlr.out.after hB1); have hb1 := Lib.hid (hb.out.trans (hB1.mono hwr)); have hown1 := Lib.hid (own_after hown.out hB1); have hw1 : sb ≤ w1.heap.size := Nat.le_trans hwr hB1.size; clear hB1 hlr hb hown)
    obtain ⟨bx, hbx⟩ : ∃ bx, w1.heap.size = bx := ⟨_, rfl⟩
    have hr0 := row_one w1 ⟨j, 0, 0⟩
    have hB0 : Below w1.heap.size w1 (w1.alloc (.cells #[.int .i64 (j : Int), .int .i64 0, .int .i64 0] 66)) := (Below.refl _ _).alloc (Nat.le_refl _) _
    rw [hbx] at hr0 hB0 hw1
    replace hr0 := Lib.hid hr0
    replace hB0 := Lib.hid hB0
    go_wp2
    go_loopw [6] (fun i W => ∃ q : Nat, q ≤ n ∧ i = .int .i64 q ∧ Hid (RowB W bx [⟨j, paidBy (l.take q) j, backBy (l.take q) j⟩]) ∧ Hid (Below bx w1 W)) (fun i _ => n - (intOf i).toNat)
    case atStart => exact ⟨0, Nat.zero_le _, rfl, hr0, hB0⟩
    case round =>
      obtain ⟨q, hqn, rfl, hrow, hbq⟩ := hrel
      have hpd := paid_bd (l := l.take q) (fun p hp => ham.out p (List.mem_of_mem_take hp)) j
      have hbd := back_bd (l := l.take q) (fun p hp => ham.out p (List.mem_of_mem_take hp)) j
      rw [List.length_take] at hpd hbd
      by_cases hq2 : q < n
      case pos =>
        obtain ⟨p, hp⟩ := getq (l := l) (j := q) (by rw [← hn.out]; exact hq2)
        have hsp : Hid (paidBy (l.take (q + 1)) j = paidBy (l.take q) j + paidOf j p) := by show _ = _; rw [take_snoc hp, paid_app]
        have hsk : Hid (backBy (l.take (q + 1)) j = backBy (l.take q) j + backOf j p) := by show _ = _; rw [take_snoc hp, back_app]
        obtain ⟨pd, hpd0⟩ : ∃ pd, paidBy (l.take q) j = pd := ⟨_, rfl⟩
        obtain ⟨bd, hbd0⟩ : ∃ bd, backBy (l.take q) j = bd := ⟨_, rfl⟩
        rw [hpd0] at hpd hsp hrow
        rw [hbd0] at hbd hsk hrow
        have hpa := ham.out p (List.mem_of_getElem? hp)
        obtain ⟨b, o, rfl, hb0, c0, c1, c2, c3, c4, c5, c6, c7⟩ := (hl1.out.after (by rw [hbx]; exact hbq.out)).hs.post hp
        have hqc : q ≤ cap := by omega
        have hbB : b ≠ bx := by have := hl1.out.hB; omega
        have r1 := hrow.out.c1 0 _ rfl
        have r2 := hrow.out.c2 0 _ rfl
        have rf := hrow.out.fz
        have rl := hrow.out.lt
        have hbl : b < bx := by have := hl1.out.hB; omega
        have hnone : p.party ≠ j ∨ (p.kind ≠ 2 ∧ p.kind ≠ 3) → Hid (RowB wr bx [⟨j, paidBy (l.take (q + 1)) j, backBy (l.take (q + 1)) j⟩]) := fun hh => by
          have h1 : paidOf j p = 0 := by unfold paidOf; rw [if_neg (by omega)]
          have h2 : backOf j p = 0 := by unfold backOf; rw [if_neg (by omega)]
          show RowB _ _ _
          rw [hsp.out, hsk.out, h1, h2, Int.add_zero, Int.add_zero]
          exact hrow.out
        replace hnone := Lib.hid hnone
        clear hp hpd0 hbd0
        by_cases hw : p.party = j
        case neg =>
          have t1 : (p.party == (j : Int)) = false := by simpa using hw
          have hnx := hnone.out (.inl hw)
          replace hw := Lib.hid hw
          clear hnone
          go_wp2
          go_roundw
          case rel => exact ⟨q + 1, by omega, by go_num, hnx, hbq⟩
          case measure => simp [intOf]; omega
        case pos =>
        have t1 : (p.party == (j : Int)) = true := by simpa using hw
        by_cases k2 : p.kind = 2
        case pos =>
            have t2 : (p.kind == 2) = true := by simpa using k2
            have t3 : (p.kind == 3) = false := by rw [k2]; rfl
            have hfin : ∀ W3, RowB W3 bx [⟨j, pd + p.amount, bd⟩] → Hid (RowB W3 bx [⟨j, paidBy (l.take (q + 1)) j, backBy (l.take (q + 1)) j⟩]) := fun W3 h3 => by
              have h1 : paidOf j p = p.amount := by unfold paidOf; rw [if_pos ⟨k2, hw⟩]
              have h2 : backOf j p = 0 := by unfold backOf; rw [if_neg (by omega)]
              show RowB _ _ _
              rw [hsp.out, hsk.out, h1, h2, Int.add_zero]
              exact h3
            replace k2 := Lib.hid k2
            replace hw := Lib.hid hw
            clear hnone
            have hwv : IntKind.i64.wrap (pd + p.amount) = pd + p.amount := IntWalk.i64_in _ (by omega)
            have hfz := rf 1
            go_upto_region 10 with (fail)
            go_still_tail 9, (by kernel_rfl)
            go_upto_region 11 with (fail)
            refine wp_world (R := fun W3 => RowB W3 bx [⟨j, pd + p.amount, bd⟩] ∧ Below bx wr W3) ⟨(RowB.set1 (a := ⟨j, pd + p.amount, bd⟩) (hrow.out.after (Below.refl _ wr).drew) 0 1 (by omega) (by simp) (y := ⟨j, pd, bd⟩) rfl _ rfl rfl rfl), ((Below.refl _ _).drew).setCell (p := ⟨bx, 1, none⟩) (Nat.le_refl _) _⟩ ?_
            rintro W3 ⟨hr3, hB3⟩
            have e2 := (hB3.cell (p := ⟨b, o + q * 8 + 2, none⟩) hbl).trans c2
            have e3 := (hB3.cell (p := ⟨b, o + q * 8 + 3, none⟩) hbl).trans c3
            have hb3 := Lib.hid (hbq.out.trans hB3)
            replace hr3 := Lib.hid hr3
            clear c0 c1 c2 c3 c4 c5 c6 c7 r1 r2 rf rl hB3 hrow hbq hwv hfz
            go_wp2
            go_roundw
            case rel => exact ⟨q + 1, by omega, by go_num, hfin _ hr3.out, hb3⟩
            case measure => simp [intOf]; omega
        case neg =>
        by_cases k3 : p.kind = 3
        case pos =>
            have t2 : (p.kind == 2) = false := by simpa using k2
            have t3 : (p.kind == 3) = true := by simpa using k3
            have hfin : ∀ W3, RowB W3 bx [⟨j, pd, bd + p.amount⟩] → Hid (RowB W3 bx [⟨j, paidBy (l.take (q + 1)) j, backBy (l.take (q + 1)) j⟩]) := fun W3 h3 => by
              have h1 : paidOf j p = 0 := by unfold paidOf; rw [if_neg (by omega)]
              have h2 : backOf j p = p.amount := by unfold backOf; rw [if_pos ⟨k3, hw⟩]
              show RowB _ _ _
              rw [hsp.out, hsk.out, h1, h2, Int.add_zero]
              exact h3
            replace k2 := Lib.hid k2
            replace k3 := Lib.hid k3
            replace hw := Lib.hid hw
            clear hnone
            have hwv : IntKind.i64.wrap (bd + p.amount) = bd + p.amount := IntWalk.i64_in _ (by omega)
            have hfz := rf 2
            go_upto_region 12 with (fail)
            go_still_tail 9, (by kernel_rfl)
            go_upto_region 8 with (fail)
            refine wp_world (R := fun W3 => RowB W3 bx [⟨j, pd, bd + p.amount⟩] ∧ Below bx wr W3) ⟨(RowB.set1 (a := ⟨j, pd, bd + p.amount⟩) (hrow.out.after (Below.refl _ wr).drew) 0 2 (by omega) (by simp) (y := ⟨j, pd, bd⟩) rfl _ rfl rfl rfl), ((Below.refl _ _).drew).setCell (p := ⟨bx, 2, none⟩) (Nat.le_refl _) _⟩ ?_
            rintro W3 ⟨hr3, hB3⟩
            have e2 := (hB3.cell (p := ⟨b, o + q * 8 + 2, none⟩) hbl).trans c2
            have e3 := (hB3.cell (p := ⟨b, o + q * 8 + 3, none⟩) hbl).trans c3
            have hb3 := Lib.hid (hbq.out.trans hB3)
            replace hr3 := Lib.hid hr3
            clear c0 c1 c2 c3 c4 c5 c6 c7 r1 r2 rf rl hB3 hrow hbq hwv hfz
            go_wp2
            go_roundw
            case rel => exact ⟨q + 1, by omega, by go_num, hfin _ hr3.out, hb3⟩
            case measure => simp [intOf]; omega
        case neg =>
          have t2 : (p.kind == 2) = false := by simpa using k2
          have t3 : (p.kind == 3) = false := by simpa using k3
          have hnx := hnone.out (.inr ⟨k2, k3⟩)
          replace k2 := Lib.hid k2
          replace k3 := Lib.hid k3
          replace hw := Lib.hid hw
          clear hnone
          go_wp2
          go_roundw
          case rel => exact ⟨q + 1, by omega, by go_num, hnx, hbq⟩
          case measure => simp [intOf]; omega
      case neg =>
        obtain rfl : n = q := by omega
        rw [List.take_of_length_le (by rw [hn.out]; exact Nat.le_refl _)] at hpd hrow
        rw [List.take_of_length_le (by rw [hn.out]; exact Nat.le_refl _)] at hbd
        have hbz := Lib.hid (hb1.out.trans (hbq.out.mono hw1))
        have hownz := Lib.hid (own_after hown1.out (by rw [hbx]; exact hbq.out))
        have hzz : sb ≤ wr.heap.size := Nat.le_trans hw1 (Nat.le_of_lt hrow.out.lt)
        have hbo : Hid (balOf l j = if paidBy l j = 0 then none else some ⟨j, paidBy l j, backBy l j⟩) := rfl
        obtain ⟨pd, hpd0⟩ : ∃ pd, paidBy l j = pd := ⟨_, rfl⟩
        obtain ⟨bd, hbd0⟩ : ∃ bd, backBy l j = bd := ⟨_, rfl⟩
        rw [hpd0] at hpd hbo hrow
        rw [hbd0] at hbd hbo hrow
        have r0 := hrow.out.c0 0 _ rfl
        have r1 := hrow.out.c1 0 _ rfl
        have r2 := hrow.out.c2 0 _ rfl
        have rl := hrow.out.lt
        clear hpd0 hbd0 hown1 hb1 hbq hr0 hB0 hl1 hbx hrow
        by_cases hpos : 0 < pd
        case neg =>
          have hd : decide (0 < pd) = false := by simpa using hpos
          have hst2 : Hid ((List.range (j + 1)).filterMap (balOf l) = L) := by show _ = _; rw [hst.out, hbo.out, if_pos (by omega)]; simp
          replace hpos := Lib.hid hpos
          go_wp2
          go_roundw
          case rel => exact ⟨j + 1, by omega, by go_num, hbz.out, by show World.ownsRow _ _ _ _ _ _ _; rw [hst2.out]; exact hownz.out⟩
          case measure => simp [intOf]; omega
        case pos =>
          have hd : decide (0 < pd) = true := by simpa using hpos
          have hst2 : Hid ((List.range (j + 1)).filterMap (balOf l) = L ++ [⟨j, pd, bd⟩]) := by show _ = _; rw [hst.out, hbo.out, if_neg (by omega)]; rfl
          have hE := Lib.hid (show Below wr.heap.size wr (wr.alloc (.cells #[.int .i64 (j : Int), .int .i64 pd, .int .i64 bd] 66)) from (Below.refl _ _).alloc (Nat.le_refl _) _)
          have hone := Lib.hid (one_bal wr ⟨j, pd, bd⟩)
          have how3 := Lib.hid (own_after hownz.out hE.out)
          replace hpos := Lib.hid hpos
          go_wp2_with (at_builtin; refine list_append_kd kdBal rfl _ _ _ [⟨j, pd, bd⟩] 1 1 _ rfl rfl rfl sb _ _ how3.out _ rfl hone.out (fun ad h => by cases h; exact ⟨_, _, rfl⟩) (by omega) (by simp; omega) ?_; intro v3 w3 hown3 hgr3)
          have hB4 := (hbz.out.trans (hE.out.mono hzz)).grown hgr3 (by simp; omega) (own_far how3.out)
          go_roundw
          case rel =>
            refine ⟨j + 1, by omega, by go_num, hB4, ?_⟩
            show World.ownsRow _ _ _ _ _ _ _
            rw [hst2.out, flat_app, List.length_append]
            exact hown3
          case measure => simp [intOf]; omega
end Go.Proofs.YtoijlikmigejbaaGreat
