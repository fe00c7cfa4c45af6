/- Walk: the law PurseSettling. -/
import Derived.Test.YtoijlikmigejbaaCMemA
import Derived.Test.YtoijlikmigejbaaCSgC
namespace Go.Proofs.Ytoijlikmigejbaa
open Go.RowKit Go.Proofs.Ytoijlikmigejbaa.Pu

/-- what stays through PurseSettling -/
structure ESt (l : List Post) (d : List Due) (cs : List Cause) (n cap n2 cap2 n3 cap3 : Nat) (ao ao2 ao3 : Option Addr) (mb : Nat) (w0 w : World) : Prop where
  hl : LIn l n cap ao mb w
  hd : DIn d n2 cap2 ao2 mb w
  hc : CIn cs n3 cap3 ao3 mb w
  hb : Below mb w0 w
section
variable {l : List Post} {d : List Due} {cs : List Cause} {n cap n2 cap2 n3 cap3 : Nat} {ao ao2 ao3 : Option Addr} {mb : Nat} {w0 w w' : World}
theorem ESt.next {M : Nat} (h : ESt l d cs n cap n2 cap2 n3 cap3 ao ao2 ao3 mb w0 w) (hB : Below M w w') (hM : mb ≤ M) : ESt l d cs n cap n2 cap2 n3 cap3 ao ao2 ao3 mb w0 w' :=
  have hb := hB.mono hM
  ⟨h.hl.below hb, h.hd.below hb, h.hc.below hb, h.hb.trans hb⟩
theorem ESt.after (h : ESt l d cs n cap n2 cap2 n3 cap3 ao ao2 ao3 mb w0 w) (hB : Below w.heap.size w w') : ESt l d cs n cap n2 cap2 n3 cap3 ao ao2 ao3 mb w0 w' := h.next hB h.hl.hB
end
theorem settleQ_no {l : List Post} {d : List Due} {cs : List Cause} {hour : Int} (h : settleCode l d cs hour ≠ 0) : settleQ l d cs hour = [] := by unfold settleQ; rw [if_neg h]
theorem settleQ_ok {l : List Post} {d : List Due} {cs : List Cause} {hour : Int} (h : settleCode l d cs hour = 0) : settleQ l d cs hour = settleOut l d cs hour := by unfold settleQ; rw [if_pos h]

theorem Book.kinds {l : List Post} (h : Book l) : Kinds l := fun p hp => by
  obtain ⟨k, hk, rfl⟩ := List.getElem_of_mem hp
  have := okP_kind (refused_ok (h k _ (List.getElem?_eq_getElem hk))).1
  omega
theorem kinds_take {l Q : List Post} (h : Book (l ++ Q)) (j : Nat) : Kinds (l ++ Q.take j) := fun q hq => by
  rcases List.mem_append.1 hq with h1 | h1
  · exact Book.kinds h q (List.mem_append_left _ h1)
  · exact Book.kinds h q (List.mem_append_right _ (List.mem_of_mem_take h1))
theorem due_ext {y z : Due} (h1 : y.party = z.party) (h2 : y.parcel = z.parcel) (h3 : y.amount = z.amount) : y = z := by
  obtain ⟨a, b, c⟩ := y
  obtain ⟨a', b', c'⟩ := z
  simp only at h1 h2 h3
  rw [h1, h2, h3]
theorem found_step {Bf : List Due} {i : Nat} {y z : Due} (h : ∀ m, m < i → Bf[m]? = some z → false = true) (hy : Bf[i]? = some y) (hne : ¬ y = z) : ∀ m, m < i + 1 → Bf[m]? = some z → false = true := fun m hm hz => by
  by_cases e : m = i
  · subst e; rw [hy] at hz; cases hz; exact absurd rfl hne
  · exact h m (by omega) hz
theorem nOver {l : List Post} {d : List Due} {n cap n2 cap2 : Nat} {ao ao2 : Option Addr} {B : Nat} {w : World} (h : LIn l n cap ao B w) (hd : DIn d n2 cap2 ao2 B w) (hbk : Book l) (hc : chkL okD ltD d = 0) :
    Calls Try.prog 22 #[.slice ao n cap, .slice ao2 n2 cap2] w fun e w' => Below w.heap.size w w' ∧ ∃ ab nb cb, e = .returned (.tuple #[.slice ab nb cb, .int .i64 0]) ∧ DIn (overL l d) nb cb ab w'.heap.size w' := by
  refine (pOver h hd).mono ?_
  rintro e w' ⟨hB, ⟨h0, _⟩ | ⟨_, v, rfl, ⟨ab, cb, rfl⟩, hown⟩⟩
  · exact absurd (by rw [compCode_d hbk]; exact hc) h0
  · exact ⟨hB, ab, _, cb, rfl, SIn.own dcells_len (by omega) hown rfl (by have := overL_len l d; have := Book.len hbk; omega)⟩

set_option maxRecDepth 100000 in
set_option maxHeartbeats 8000000 in
theorem wSettling (l : List Post) (d : List Due) (cs : List Cause) (hour : Int) (n cap n2 cap2 n3 cap3 : Nat) (ao ao2 ao3 : Option Addr) (w : World) (hn : n = l.length) (hL : n ≤ 100000 → LIn l n cap ao w.heap.size w)
    (_hn2 : n2 = d.length) (hL2 : n2 ≤ 100000 → DIn d n2 cap2 ao2 w.heap.size w) (_hn3 : n3 = cs.length) (hL3 : n3 ≤ 100000 → CIn cs n3 cap3 ao3 w.heap.size w) :
    Calls Try.prog 7 #[.slice ao n cap, .slice ao2 n2 cap2, .slice ao3 n3 cap3, .int .i64 hour] w (LawRes w) := by
  replace hn := Lib.hid hn
  replace hL := Lib.hid hL
  replace hL2 := Lib.hid hL2
  replace hL3 := Lib.hid hL3
  clear _hn2 _hn3
  have hfew := pFew n cap n2 cap2 n3 cap3 ao ao2 ao3 w
  by_cases hf : fewB n n2 n3 = true
  case neg =>
    rw [Bool.not_eq_true] at hf
    rw [hf] at hfew
    replace hfew := Lib.hid hfew
    clear hf
    go_enter Try.func7, Try.ntmps7
    go_wp2_with (first
      | (go_at_call 20; refine hfew.out.mono ?_; rintro e w2 ⟨rfl, hB2⟩)
      | (go_at_call 9; refine (ppurses _).mono ?_; rintro e w3 ⟨rfl, hB3⟩))
    go_ret
    exact ⟨rfl, hB2.trans (hB3.mono hB2.size)⟩
  case pos =>
  rw [hf] at hfew
  replace hfew := Lib.hid hfew
  obtain ⟨hf1, hf2, hf3⟩ := fewB_of hf
  clear hf
  have hst : Hid (ESt l d cs n cap n2 cap2 n3 cap3 ao ao2 ao3 w.heap.size w w) := ⟨hL.out (by omega), hL2.out (by omega), hL3.out (by omega), Below.refl _ _⟩
  clear hL hL2 hL3
  obtain ⟨mb, hmb⟩ : ∃ mb, Hid (w.heap.size = mb) := ⟨_, rfl⟩
  rw [hmb.out] at hst
  go_enter Try.func7, Try.ntmps7
  go_wp2_with (fail)
  go_at_call 20
  refine hfew.out.mono ?_
  rintro e w2 ⟨rfl, hB2⟩
  replace hst := Lib.hid (hst.out.after hB2)
  clear hB2 hfew
  obtain ⟨rs, hrs⟩ : ∃ rs, Hid (settleCode l d cs hour = rs) := ⟨_, rfl⟩
  obtain ⟨Q, hQ⟩ : ∃ Q, Hid (settleQ l d cs hour = Q) := ⟨_, rfl⟩
  by_cases hr0 : rs = 0
  case neg =>
    have hQ0 : Hid (settleQ l d cs hour = []) := settleQ_no (by rw [hrs.out]; exact hr0)
    go_wp2_with (first
      | (go_at_call 21; refine (nSettle hour ⟨hst.out.hl, hst.out.hd, hst.out.hc⟩).mono ?_; rintro e W3 ⟨hB, asl, ns, cS, rfl, hRs⟩
         rw [hQ0.out] at hRs
         obtain rfl : ns = 0 := hRs.n
         rw [hrs.out]
         have hB3 := Lib.hid (hst.out.after hB).hb
         have hm3 := (hst.out.after hB).hl.hB
         clear hB hRs)
      | (go_at_call 9; refine (ppurses _).mono ?_; rintro e W4 ⟨rfl, hB4⟩))
    go_ret
    exact ⟨rfl, by rw [hmb.out]; exact hB3.out.trans (hB4.mono hm3)⟩
  case pos =>
  subst hr0
  have hok := Lib.hid (setOk_of hrs.out)
  have hQe : Hid (settleQ l d cs hour = settleOut l d cs hour) := settleQ_ok hrs.out
  clear hQ Q
  obtain ⟨Q, hQ⟩ : ∃ Q, Hid (settleOut l d cs hour = Q) := ⟨_, rfl⟩
  have hE := Lib.hid (fun W : World => show Below W.heap.size W (W.alloc (.cells #[] 24)) from (Below.refl _ _).alloc (Nat.le_refl _) _)
  go_wp2_with (first
    | (go_at_call 21; refine (nSettle hour ⟨hst.out.hl, hst.out.hd, hst.out.hc⟩).mono ?_; rintro e W3 ⟨hB, asl, ns, cS, rfl, hRs⟩
       rw [hQe.out, hQ.out] at hRs
       rw [hrs.out]
       replace hst := Lib.hid (hst.out.after hB)
       replace hRs := Lib.hid hRs
       clear hB
       have eL := Lib.hid (hst.out.hl.after (hE.out W3)))
    | (at_builtin; refine list_append_sl0 rfl _ _ W3.heap.size l n cap ao rfl rfl rfl W3.heap.size (own_empty W3 _ _) mb hn.out eL.out.hs eL.out.had (by omega) (by simp) ?_
       intro an cn W4 hown hgr
       have hG := Lib.hid ((hE.out W3).grown hgr (by simp) (fun k hk => by cases hk; exact Nat.le_refl _))
       have hRn := Lib.hid (Rw.of hown hn.out)
       replace hst := Lib.hid (hst.out.after hG.out)
       replace hRs := Lib.hid (hRs.out.after hG.out)
       clear hgr hG hown eL))
  have hbk : Hid (Book (l ++ Q)) := by show Book (l ++ Q); have := (settle_parts hok.out).2.outs.book; rwa [hQ.out] at this
  have hns := Lib.hid hRs.out.n
  have hcs := hRs.out.cap
  have lns : n + ns ≤ 400 := by have := hok.out.len; rw [hQ.out] at this; have := hn.out; have := hns.out; omega
  have hrn := Lib.hid (hRn.out.lin (by omega) hst.out.hl.hk)
  have hrefl := Lib.hid (Below.refl W4.heap.size W4)
  go_loopw [11, 12] (fun v i wr => ∃ (j : Nat) (aw : Option Addr) (cw : Nat), j ≤ ns ∧ v = .slice aw (n + j) cw ∧ i = .int .i64 j ∧ LIn (l ++ Q.take j) (n + j) cw aw wr.heap.size wr ∧ Below W4.heap.size W4 wr) (fun _ i _ => ns - (intOf i).toNat)
  case atStart => exact ⟨0, _, _, Nat.zero_le _, rfl, rfl, by rw [List.take_zero, List.append_nil]; exact hrn.out, hrefl.out⟩
  case round =>
  obtain ⟨j, aw, cw, hj, rfl, rfl, hlin, hb⟩ := hrel
  by_cases hjn : j < ns
  case pos =>
    obtain ⟨p, hp⟩ := getq (l := Q) (j := j) (by rw [← hns.out]; exact hjn)
    have hs := settle_app hok.out (i := j) (p := p) (by rw [hQ.out]; exact hp)
    rw [hQ.out] at hs
    obtain ⟨hs1, hs2, hs3, _⟩ := hs
    have hpk := Book.kinds hbk.out p (List.mem_append_right _ (List.mem_of_getElem? hp))
    replace hs1 := Lib.hid hs1
    replace hs2 := Lib.hid hs2
    replace hs3 := Lib.hid hs3
    replace hpk := Lib.hid hpk
    have hRs1 := hRs.out.after hb
    obtain ⟨b, o, rfl, hb0, c0, c1, c2, c3, c4, c5, c6, c7⟩ := hRs1.at.post hp
    replace hlin := Lib.hid hlin
    have hR1 := Lib.hid hRs1
    replace hb := Lib.hid hb
    clear hRs1
    replace hp := Lib.hid hp
    go_wp2_with (fail)
    go_at_call 12
    refine (nAppend hlin.out p hpk.out).mono ?_
    rintro e W5 ⟨hB, a5, n5, c5', rfl, hR5⟩
    rw [hs2.out] at hR5
    rw [hs1.out]
    clear c0 c1 c2 c3 c4 c5 c6 c7
    obtain ⟨b', o', e1, hb1, c0, c1, c2, c3, c4, c5, c6, c7⟩ := (hR1.out.after hB).at.post hp.out
    cases e1
    have hh : (p.hour != hour) = false := by have := hs3.out; simp [this]
    have hd5 : n5 = n + (j + 1) := by have := hR5.n; rw [this, List.length_append, List.length_take, ← hns.out, ← hn.out]; omega
    have hl5 := Lib.hid (hR5.lin (by omega) (kinds_take hbk.out _))
    rw [hd5] at hl5 ⊢
    have hb5 := Lib.hid (hb.out.trans (hB.mono hb.out.size))
    clear hR5 hB hd5
    go_wp2
    go_roundw
    case rel => exact ⟨j + 1, _, _, by omega, rfl, by go_num, hl5.out, hb5.out⟩
    case measure => simp [intOf]; omega
  case neg =>
    obtain rfl : ns = j := by omega
    rw [show Q.take ns = Q by rw [hns.out]; exact List.take_length] at hlin
    replace hlin := Lib.hid hlin
    replace hst := Lib.hid (hst.out.after hb)
    clear hb hjn hj hrefl hrn hRn hRs hcs
    have hcd := Lib.hid hok.out.dues
    have hbl := Lib.hid hok.out.book
    go_wp2_with (fail)
    go_at_call 22
    refine (nOver hst.out.hl hst.out.hd hbl.out hcd.out).mono ?_
    rintro e W5 ⟨hB, ab, nb, cb, rfl, hDb⟩
    replace hst := Lib.hid (hst.out.after hB)
    replace hlin := Lib.hid (((hlin.out.after hB).at hB.size (Nat.le_refl _)))
    replace hDb := Lib.hid hDb
    clear hB
    go_wp2_with (fail)
    go_at_call 22
    refine (nOver hlin.out (hst.out.hd.at hst.out.hl.hB (Nat.le_refl _)) hbk.out hcd.out).mono ?_
    rintro e W6 ⟨hB, af, na, ca, rfl, hDa⟩
    replace hst := Lib.hid (hst.out.after hB)
    replace hlin := Lib.hid (((hlin.out.after hB).at hB.size (Nat.le_refl _)))
    replace hDb := Lib.hid (((hDb.out.after hB).at hB.size (Nat.le_refl _)))
    replace hDa := Lib.hid hDa
    clear hB
    have hmem : Hid (∀ z ∈ overL (l ++ Q) d, z ∈ overL l d) := by
      show ∀ z ∈ overL (l ++ Q) d, z ∈ overL l d
      intro z hz; rw [← hQ.out] at hz; exact (over_after hok.out hz).1
    obtain ⟨Bf, hBf⟩ : ∃ Bf, overL l d = Bf := ⟨_, rfl⟩
    obtain ⟨Af, hAf⟩ : ∃ Af, overL (l ++ Q) d = Af := ⟨_, rfl⟩
    rw [hBf] at hmem hDb
    rw [hAf] at hmem hDa
    clear hBf hAf
    have ha1 := hDa.out.hcap
    have ha2 := Lib.hid hDa.out.hn
    have hb1 := hDb.out.hcap
    have hb2 := Lib.hid hDb.out.hn
    have hrefl := Lib.hid (Below.refl W6.heap.size W6)
    have ha3 := hDa.out.hm
    have hb3 := hDb.out.hm
    go_wp2
    go_loopw [19] (fun i wr => ∃ (j : Nat), j ≤ na ∧ i = .int .i64 j ∧ Below W6.heap.size W6 wr) (fun i _ => na - (intOf i).toNat)
    case atStart => exact ⟨0, Nat.zero_le _, rfl, hrefl.out⟩
    case round =>
    obtain ⟨j, hj, rfl, hb⟩ := hrel
    by_cases hjn : j < na
    case pos =>
      obtain ⟨z, hz⟩ := getq (l := Af) (j := j) (by rw [← ha2.out]; exact hjn)
      have hzb := Lib.hid (hmem.out z (List.mem_of_getElem? hz))
      have hDaw := Lib.hid (hDa.out.after hb)
      replace hb := Lib.hid hb
      replace hz := Lib.hid hz
      go_wp2
      go_loopw [20, 21] (fun f k ws => ∃ (b : Bool) (i : Nat), i ≤ nb ∧ f = .bool b ∧ k = .int .i64 i ∧ (∀ m, m < i → Bf[m]? = some z → b = true) ∧ Below W6.heap.size W6 ws) (fun _ k _ => nb - (intOf k).toNat)
      case atStart => exact ⟨false, 0, Nat.zero_le _, rfl, rfl, fun m hm => by omega, hb.out⟩
      case round =>
      obtain ⟨b, i, hi, rfl, rfl, hfd, hbs⟩ := hrel
      by_cases hin : i < nb
      case pos =>
        obtain ⟨y, hy⟩ := getq (l := Bf) (j := i) (by rw [← hb2.out]; exact hin)
        replace hfd := Lib.hid hfd
        obtain ⟨b1, o1, e1, hl1, c0, c1, c2⟩ := ((hDa.out.after hbs).hs).due hz.out
        obtain ⟨b2, o2, e2, hl2, d0, d1, d2⟩ := ((hDb.out.after hbs).hs).due hy
        replace hbs := Lib.hid hbs
        replace hy := Lib.hid hy
        subst e1
        subst e2
        cases b with
        | true =>
          go_wp2
          go_quiet (fail)
          go_wp2
          go_roundw
          case rel => exact ⟨true, i + 1, by omega, rfl, by go_num, fun _ _ _ => rfl, below_drewN hbs.out _⟩
          case measure => simp [intOf]; omega
        | false =>
          by_cases hyz : y = z
          case pos =>
            subst hyz
            go_wp2
            go_quiet (fail)
            go_wp2
            go_roundw
            case rel => exact ⟨true, i + 1, by omega, rfl, by go_num, fun _ _ _ => rfl, below_drewN hbs.out _⟩
            case measure => simp [intOf]; omega
          case neg =>
            by_cases h1 : y.party = z.party
            case neg =>
              have h1' : (y.party == z.party) = false := by simpa using h1
              go_wp2
              go_quiet (fail)
              go_wp2
              go_roundw
              case rel => exact ⟨false, i + 1, by omega, rfl, by go_num, found_step hfd.out hy.out hyz, below_drewN hbs.out _⟩
              case measure => simp [intOf]; omega
            case pos =>
            by_cases h2 : y.parcel = z.parcel
            case neg =>
              rw [h1] at d0
              have h1' : (y.parcel == z.parcel) = false := by simpa using h2
              clear h1
              go_wp2
              go_quiet (fail)
              go_wp2
              go_roundw
              case rel => exact ⟨false, i + 1, by omega, rfl, by go_num, found_step hfd.out hy.out hyz, below_drewN hbs.out _⟩
              case measure => simp [intOf]; omega
            case pos =>
              have h3 : ¬ y.amount = z.amount := fun h3 => hyz (due_ext h1 h2 h3)
              have h1' : (y.amount == z.amount) = false := by simpa using h3
              rw [h1] at d0
              rw [h2] at d1
              clear h1 h2
              go_wp2
              go_quiet (fail)
              go_wp2
              go_roundw
              case rel => exact ⟨false, i + 1, by omega, rfl, by go_num, found_step hfd.out hy.out hyz, below_drewN hbs.out _⟩
              case measure => simp [intOf]; omega
      case neg =>
        obtain rfl : nb = i := by omega
        obtain ⟨m, hm⟩ := List.getElem?_of_mem hzb.out
        obtain rfl : b = true := hfd m (by rw [hb2.out]; exact (List.getElem?_eq_some_iff.1 hm).1) hm
        replace hbs := Lib.hid hbs
        clear hfd hm
        go_wp2
        go_roundw
        case rel => exact ⟨j + 1, by omega, by go_num, hbs.out⟩
        case measure => simp [intOf]; omega
    case neg =>
      replace hst := Lib.hid (hst.out.after hb)
      replace hlin := Lib.hid ((hlin.out.after hb).at hb.size (Nat.le_refl _))
      have hag := settle_again hok.out
      rw [hQ.out] at hag
      have hag1 := Lib.hid hag.2
      have hag2 : Hid (settleQ (l ++ Q) d cs hour = []) := by show _ = _; rw [settleQ_ok hag.2]; exact hag.1
      clear hag hb hDa hDb hmem
      go_wp2_with (fail)
      go_at_call 21
      refine (nSettle hour ⟨hlin.out, hst.out.hd.at hst.out.hl.hB (Nat.le_refl _), hst.out.hc.at hst.out.hl.hB (Nat.le_refl _)⟩).mono ?_
      rintro e W7 ⟨hB, a7, n7, c7, rfl, hR7⟩
      rw [hag2.out] at hR7
      obtain rfl : n7 = 0 := hR7.n
      rw [hag1.out]
      replace hst := Lib.hid (hst.out.after hB)
      clear hB hR7
      go_wp2_with (go_at_call 9; refine (ppurses _).mono ?_; rintro e W8 ⟨rfl, hB8⟩)
      go_ret
      exact ⟨rfl, by rw [hmb.out]; exact (hst.out.after hB8).hb⟩
end Go.Proofs.Ytoijlikmigejbaa
