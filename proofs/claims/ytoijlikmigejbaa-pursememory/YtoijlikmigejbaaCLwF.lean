/- Walk: the law PurseMemory. -/
import Derived.Test.YtoijlikmigejbaaCMemA
namespace Go.Proofs.Ytoijlikmigejbaa
open Go.RowKit Go.Proofs.Ytoijlikmigejbaa.Pu

/-- what stays through PurseMemory -/
structure MSt (l : List Post) (p : Post) (d : List Due) (cs : List Cause) (n cap n2 cap2 n3 cap3 : Nat) (ao ao2 ao3 aw : Option Addr) (cw mb M : Nat) (w0 w : World) : Prop where
  hl : LIn l n cap ao mb w
  hd : DIn d n2 cap2 ao2 mb w
  hc : CIn cs n3 cap3 ao3 mb w
  hx : PBox w mb p
  hs : LIn l n cw aw M w
  lt : mb < M
  hb : Below mb w0 w
section
variable {l : List Post} {p : Post} {d : List Due} {cs : List Cause} {n cap n2 cap2 n3 cap3 : Nat} {ao ao2 ao3 aw : Option Addr} {cw mb M : Nat} {w0 w w' : World}
theorem MSt.next (h : MSt l p d cs n cap n2 cap2 n3 cap3 ao ao2 ao3 aw cw mb M w0 w) (hB : Below M w w') : MSt l p d cs n cap n2 cap2 n3 cap3 ao ao2 ao3 aw cw mb M w0 w' :=
  have hl := h.lt
  have hb := hB.mono (Nat.le_of_lt hl)
  ⟨h.hl.below hb, h.hd.below hb, h.hc.below hb, h.hx.below hB hl, h.hs.below hB, hl, h.hb.trans hb⟩
theorem MSt.after (h : MSt l p d cs n cap n2 cap2 n3 cap3 ao ao2 ao3 aw cw mb M w0 w) (hB : Below w.heap.size w w') : MSt l p d cs n cap n2 cap2 n3 cap3 ao ao2 ao3 aw cw mb M w0 w' := h.next (hB.mono h.hs.hB)
end

set_option maxRecDepth 100000 in
set_option maxHeartbeats 8000000 in
theorem wMemory (l : List Post) (p : Post) (d : List Due) (cs : List Cause) (hour : Int) (n cap n2 cap2 n3 cap3 : Nat) (ao ao2 ao3 : Option Addr) (w : World) (hn : n = l.length) (hL : n ≤ 100000 → LIn l n cap ao w.heap.size w)
    (hp : 0 ≤ p.kind ∧ p.kind ≤ 255) (_hn2 : n2 = d.length) (hL2 : n2 ≤ 100000 → DIn d n2 cap2 ao2 w.heap.size w) (_hn3 : n3 = cs.length) (hL3 : n3 ≤ 100000 → CIn cs n3 cap3 ao3 w.heap.size w) :
    Calls Try.prog 6 #[.slice ao n cap, pval p, .slice ao2 n2 cap2, .slice ao3 n3 cap3, .int .i64 hour] w (LawRes w) := by
  have hB1 : Below w.heap.size w (w.alloc (pobj p)) := (Below.refl _ _).alloc (Nat.le_refl _) _
  have hX := PBox.new w p 24
  replace hn := Lib.hid hn
  replace hL := Lib.hid hL
  replace hL2 := Lib.hid hL2
  replace hL3 := Lib.hid hL3
  clear _hn2 _hn3
  have hfew := pFew n cap n2 cap2 n3 cap3 ao ao2 ao3 (w.alloc (pobj p))
  by_cases hf : fewB n n2 n3 = true
  case neg =>
    rw [Bool.not_eq_true] at hf
    rw [hf] at hfew
    replace hfew := Lib.hid hfew
    replace hB1 := Lib.hid hB1
    clear hX hf
    go_enter Try.func6, Try.ntmps6
    go_wp2_with (first
      | (go_at_call 20; refine hfew.out.mono ?_; rintro e w2 ⟨rfl, hB2⟩)
      | (go_at_call 9; refine (ppurses _).mono ?_; rintro e w3 ⟨rfl, hB3⟩))
    go_ret
    have hB4 := hB1.out.trans (hB2.mono hB1.out.size)
    exact ⟨rfl, hB4.trans (hB3.mono hB4.size)⟩
  case pos =>
  rw [hf] at hfew
  replace hfew := Lib.hid hfew
  obtain ⟨hf1, hf2, hf3⟩ := fewB_of hf
  clear hf
  have hl := Lib.hid ((hL.out (by omega)).after hB1)
  have hd := Lib.hid ((hL2.out (by omega)).after hB1)
  have hc := Lib.hid ((hL3.out (by omega)).after hB1)
  clear hL hL2 hL3
  obtain ⟨W1, hW1⟩ : ∃ W1, w.alloc (pobj p) = W1 := ⟨_, rfl⟩
  obtain ⟨mb, hmb⟩ : ∃ mb, w.heap.size = mb := ⟨_, rfl⟩
  rw [hW1] at hB1 hl hd hc hX hfew
  rw [hmb] at hB1 hl hd hc hX
  replace hB1 := Lib.hid hB1
  replace hX := Lib.hid hX
  go_enter Try.func6, Try.ntmps6
  go_wp2_with (fail)
  go_at_call 20
  refine hfew.out.mono ?_
  rintro e w2 ⟨rfl, hB2⟩
  have hb1 := hX.out.lt
  replace hl := Lib.hid (hl.out.after hB2)
  replace hd := Lib.hid (hd.out.after hB2)
  replace hc := Lib.hid (hc.out.after hB2)
  replace hX := Lib.hid (hX.out.below hB2 hb1)
  replace hB1 := Lib.hid (hB1.out.trans (hB2.mono (Nat.le_of_lt hb1)))
  clear hB2 hfew hW1 hb1
  -- was
  have hw2 : mb < w2.heap.size := hX.out.lt
  have hA : Below w2.heap.size w2 (w2.alloc (.cells #[] 24)) := (Below.refl _ _).alloc (Nat.le_refl _) _
  have hl2 := Lib.hid (hl.out.after hA)
  replace hA := Lib.hid hA
  go_wp2_with (first
    | (at_builtin; refine list_append_sl0 rfl _ _ w2.heap.size l n cap ao rfl rfl rfl w2.heap.size (own_empty w2 _ _) mb hn.out hl2.out.hs hl2.out.had (by omega) (by simp) ?_
       intro aw cw W2 hown hgr
       have hG := Lib.hid (hA.out.grown hgr (by simp) (fun k hk => by cases hk; exact Nat.le_refl _))
       have hR := Lib.hid (Rw.of hown hn.out)
       have hst : Hid (MSt l p d cs n cap n2 cap2 n3 cap3 ao ao2 ao3 (some ⟨aw, 0, none⟩) cw mb W2.heap.size w W2) :=
         have hG2 := hG.out.mono (Nat.le_of_lt hw2)
         ⟨hl.out.below hG2, hd.out.below hG2, hc.out.below hG2, hX.out.below hG.out hw2, hR.out.lin (by omega) hl.out.hk, Nat.lt_of_lt_of_le hw2 hG.out.size, hB1.out.trans hG2⟩
       clear hgr hl hd hc hX hB1 hA hl2 hG hR hown hw2
       have q0 := hst.out.hx.c0
       have q1 := hst.out.hx.c1
       have q2 := hst.out.hx.c2
       have q3 := hst.out.hx.c3
       have q4 := hst.out.hx.c4
       have q5 := hst.out.hx.c5
       have q6 := hst.out.hx.c6
       have q7 := hst.out.hx.c7))
  go_at_call 12
  refine (nAppend hst.out.hl p hp).mono ?_
  rintro e W3 ⟨hB, aa, na, ca, rfl, hRa⟩
  obtain ⟨ra, hra⟩ : ∃ ra, Hid (appCode l p = ra) := ⟨_, rfl⟩
  obtain ⟨A, hA⟩ : ∃ A, Hid (appQ l p = A) := ⟨_, rfl⟩
  rw [hA.out] at hRa
  rw [hra.out]
  obtain ⟨M, hMM⟩ : ∃ M, W2.heap.size = M := ⟨_, rfl⟩
  rw [hMM] at hst hRa
  replace hst := Lib.hid (hst.out.next (by rw [← hMM]; exact hB))
  have m3 := hst.out.hs.hB
  clear q0 q1 q2 q3 q4 q5 q6 q7 hB
  replace hRa := Lib.hid hRa
  clear hMM
  clear W2
  go_wp2_with (fail)
  go_at_call 21
  refine (nSettle hour ⟨hst.out.hl, hst.out.hd, hst.out.hc⟩).mono ?_
  rintro e W4 ⟨hB, asl, ns, cS, rfl, hRs⟩
  obtain ⟨rs, hrs⟩ : ∃ rs, Hid (settleCode l d cs hour = rs) := ⟨_, rfl⟩
  obtain ⟨Q, hQ⟩ : ∃ Q, Hid (settleQ l d cs hour = Q) := ⟨_, rfl⟩
  rw [hQ.out] at hRs
  rw [hrs.out]
  replace hst := Lib.hid (hst.out.after hB)
  replace hRa := Lib.hid (hRa.out.after hB)
  replace hRs := Lib.hid hRs
  clear hB
  obtain ⟨M3, hM3⟩ : ∃ M3, W3.heap.size = M3 := ⟨_, rfl⟩
  rw [hM3] at hRa hRs m3
  have m4 := hRa.out.hi
  clear hM3
  clear W3
  go_wp2_with (fail)
  go_at_call 19
  refine (nUpto hst.out.hl hour).mono ?_
  rintro e W5 ⟨hB, au, nu, cu, rfl, hRu⟩
  obtain ⟨U, hU⟩ : ∃ U, Hid (someL (uptoP hour) l = U) := ⟨_, rfl⟩
  rw [hU.out] at hRu
  replace hst := Lib.hid (hst.out.after hB)
  replace hRa := Lib.hid (hRa.out.after hB)
  replace hRs := Lib.hid (hRs.out.after hB)
  replace hRu := Lib.hid hRu
  clear hB
  obtain ⟨M4, hM4⟩ : ∃ M4, W4.heap.size = M4 := ⟨_, rfl⟩
  rw [hM4] at hRs hRu m4
  have m5 := hRs.out.hi
  clear hM4
  clear W4
  obtain ⟨M5, hM5⟩ : ∃ M5, Hid (W5.heap.size = M5) := ⟨_, rfl⟩
  have la : na ≤ 100000 := by have := hRa.out.n; have := appQ_len l p; rw [hA.out] at this; have := hn.out; omega
  have ls : ns ≤ 100000 := by have := hRs.out.n; have := settleQ_len l d cs hour; rw [hQ.out] at this; omega
  have lu : nu ≤ 100000 := by have := hRu.out.n; have := someL_len (uptoP hour) l; rw [hU.out] at this; have := hn.out; omega
  have hE := Lib.hid (show Below W5.heap.size W5 (W5.alloc (.cells #[] 24)) from (Below.refl _ _).alloc (Nat.le_refl _) _)
  have eA := Lib.hid (hRa.out.after hE.out)
  go_wp2_with (first
    | (at_builtin; refine list_append_sl0 rfl _ _ W5.heap.size A na ca aa rfl rfl rfl W5.heap.size (own_empty W5 _ _) _ eA.out.n eA.out.at eA.out.had (by omega) (by simp) ?_
       intro gx cx W6 hown hgr
       have hG := Lib.hid (hE.out.grown hgr (by simp) (fun k hk => by cases hk; exact Nat.le_refl _))
       have hRx := Lib.hid (Rw.of hown hRa.out.n)
       replace hst := Lib.hid (hst.out.after hG.out)
       replace hRa := Lib.hid (hRa.out.after hG.out)
       replace hRs := Lib.hid (hRs.out.after hG.out)
       replace hRu := Lib.hid (hRu.out.after hG.out)
       rw [hM5.out] at m5 hRx hRu
       have m6 : M5 ≤ W6.heap.size := by rw [← hM5.out]; exact hG.out.size
       clear hown hgr hG eA hE
       have hE := Lib.hid (show Below W6.heap.size W6 (W6.alloc (.cells #[] 24)) from (Below.refl _ _).alloc (Nat.le_refl _) _)
       have eQ := Lib.hid (hRs.out.after hE.out))
    | (at_builtin; refine list_append_sl0 rfl _ _ W6.heap.size Q ns cS asl rfl rfl rfl M5 (own_base (own_empty W6 _ _) m6) _ eQ.out.n eQ.out.at eQ.out.had (by omega) (by simp; omega) ?_
       intro gy cy W7 hown hgr
       have hG := Lib.hid (hE.out.grown hgr (by simp) (fun k hk => by cases hk; exact Nat.le_refl _))
       have hRy := Lib.hid (Rw.of hown hRs.out.n)
       replace hst := Lib.hid (hst.out.after hG.out)
       replace hRa := Lib.hid (hRa.out.after hG.out)
       replace hRs := Lib.hid (hRs.out.after hG.out)
       replace hRu := Lib.hid (hRu.out.after hG.out)
       replace hRx := Lib.hid (hRx.out.after hG.out)
       replace m6 : M5 ≤ W7.heap.size := Nat.le_trans m6 hG.out.size
       clear hown hgr hG eQ hE
       have hE := Lib.hid (show Below W7.heap.size W7 (W7.alloc (.cells #[] 24)) from (Below.refl _ _).alloc (Nat.le_refl _) _)
       have eU := Lib.hid (hRu.out.after hE.out))
    | (at_builtin; refine list_append_sl0 rfl _ _ W7.heap.size U nu cu au rfl rfl rfl M5 (own_base (own_empty W7 _ _) m6) _ eU.out.n eU.out.at eU.out.had (by omega) (by simp; omega) ?_
       intro gz cz W8 hown hgr
       have hG := Lib.hid (hE.out.grown hgr (by simp) (fun k hk => by cases hk; exact Nat.le_refl _))
       have hRz := Lib.hid (Rw.of hown hRu.out.n)
       replace hst := Lib.hid (hst.out.after hG.out)
       replace hRa := Lib.hid (hRa.out.after hG.out)
       replace hRs := Lib.hid (hRs.out.after hG.out)
       replace hRu := Lib.hid (hRu.out.after hG.out)
       replace hRx := Lib.hid (hRx.out.after hG.out)
       replace hRy := Lib.hid (hRy.out.after hG.out)
       replace m6 : M5 ≤ W8.heap.size := Nat.le_trans m6 hG.out.size
       clear hown hgr hG eU hE))
  obtain ⟨hx1, h1⟩ : ∃ h, W6.heap.size = h := ⟨_, rfl⟩
  obtain ⟨hy1, h2⟩ : ∃ h, W7.heap.size = h := ⟨_, rfl⟩
  obtain ⟨hz1, h3⟩ : ∃ h, W8.heap.size = h := ⟨_, rfl⟩
  rw [h1] at hRx
  rw [h2] at hRy
  rw [h3] at hRz
  clear h1 h2 h3
  have hw0 := Lib.hid (Wp.start hRa.out)
  go_loopw [20] (fun i wr => ∃ j : Nat, j ≤ na ∧ i = .int .i64 j ∧ Wp M aa na ca W8 wr) (fun i _ => na - (intOf i).toNat)
  case atStart => exact ⟨0, Nat.zero_le _, rfl, hw0.out⟩
  case round =>
  obtain ⟨j, hj, rfl, hw⟩ := hrel
  by_cases hjn : j < na
  case pos =>
    obtain ⟨g, rfl, hg, hfz, hcs⟩ := hw.cells hjn
    have hca := hRa.out.cap
    obtain ⟨u0, c0⟩ := hcs 0 (by omega)
    obtain ⟨u1, c1⟩ := hcs 1 (by omega)
    obtain ⟨u2, c2⟩ := hcs 2 (by omega)
    obtain ⟨u3, c3⟩ := hcs 3 (by omega)
    obtain ⟨u4, c4⟩ := hcs 4 (by omega)
    obtain ⟨u5, c5⟩ := hcs 5 (by omega)
    obtain ⟨u6, c6⟩ := hcs 6 (by omega)
    obtain ⟨u7, c7⟩ := hcs 7 (by omega)
    replace hw := Lib.hid hw
    clear hcs
    rw [Nat.add_zero] at c0
    go_wp2
    go_roundw
    case rel => exact ⟨j + 1, by omega, by go_num, (((((((hw.out.set _ _).set _ _).set _ _).set _ _).set _ _).set _ _).set _ _).set _ _⟩
    case measure => simp [intOf]; omega
  case neg =>
    obtain rfl : na = j := by omega
    obtain ⟨hk, hwx⟩ := hw
    have hfar := own_far hRa.out.own
    have hup := hRa.out.far
    have hkB := Lib.hid (hk.below (B := M) (by omega) (fun k e => by have := hfar k e; omega))
    replace hst := Lib.hid (hst.out.next hkB.out)
    replace hRs := Lib.hid (hRs.out.kept hk (fun k h1 h2 e => by have := hfar k e; have := hup k e; omega))
    replace hRu := Lib.hid (hRu.out.kept hk (fun k h1 h2 e => by have := hfar k e; have := hup k e; omega))
    replace hRx := Lib.hid (hRx.out.kept hk (fun k h1 h2 e => by have := hfar k e; have := hup k e; omega))
    replace hRy := Lib.hid (hRy.out.kept hk (fun k h1 h2 e => by have := hfar k e; have := hup k e; omega))
    replace hRz := Lib.hid (hRz.out.kept hk (fun k h1 h2 e => by have := hfar k e; have := hup k e; omega))
    have m6' : M5 ≤ wr.heap.size := Nat.le_trans m6 hk.size
    clear hk hwx hkB hfar hup hw0 hRa hj hjn
    replace m6 := m6'
    clear m6'
    obtain ⟨V1, hV⟩ : ∃ V, V = wr := ⟨_, rfl⟩
    subst hV
    go_wp2
    have hw0 := Lib.hid (Wp.start hRs.out)
    go_loopw [21] (fun i wr => ∃ j : Nat, j ≤ ns ∧ i = .int .i64 j ∧ Wp M3 asl ns cS V1 wr) (fun i _ => ns - (intOf i).toNat)
    case atStart => exact ⟨0, Nat.zero_le _, rfl, hw0.out⟩
    case round =>
    obtain ⟨j, hj, rfl, hw⟩ := hrel
    by_cases hjn : j < ns
    case pos =>
      obtain ⟨g, rfl, hg, hfz, hcs⟩ := hw.cells hjn
      have hca := hRs.out.cap
      obtain ⟨u0, c0⟩ := hcs 0 (by omega)
      obtain ⟨u1, c1⟩ := hcs 1 (by omega)
      obtain ⟨u2, c2⟩ := hcs 2 (by omega)
      obtain ⟨u3, c3⟩ := hcs 3 (by omega)
      obtain ⟨u4, c4⟩ := hcs 4 (by omega)
      obtain ⟨u5, c5⟩ := hcs 5 (by omega)
      obtain ⟨u6, c6⟩ := hcs 6 (by omega)
      obtain ⟨u7, c7⟩ := hcs 7 (by omega)
      replace hw := Lib.hid hw
      clear hcs
      rw [Nat.add_zero] at c0
      go_wp2
      go_roundw
      case rel => exact ⟨j + 1, by omega, by go_num, (((((((hw.out.set _ _).set _ _).set _ _).set _ _).set _ _).set _ _).set _ _).set _ _⟩
      case measure => simp [intOf]; omega
    case neg =>
      obtain rfl : ns = j := by omega
      obtain ⟨hk, hwx⟩ := hw
      have hfar := own_far hRs.out.own
      have hup := hRs.out.far
      have hkB := Lib.hid (hk.below (B := M) (by omega) (fun k e => by have := hfar k e; omega))
      replace hst := Lib.hid (hst.out.next hkB.out)
      replace hRu := Lib.hid (hRu.out.kept hk (fun k h1 h2 e => by have := hfar k e; have := hup k e; omega))
      replace hRx := Lib.hid (hRx.out.kept hk (fun k h1 h2 e => by have := hfar k e; have := hup k e; omega))
      replace hRy := Lib.hid (hRy.out.kept hk (fun k h1 h2 e => by have := hfar k e; have := hup k e; omega))
      replace hRz := Lib.hid (hRz.out.kept hk (fun k h1 h2 e => by have := hfar k e; have := hup k e; omega))
      have m6' : M5 ≤ wr.heap.size := Nat.le_trans m6 hk.size
      clear hk hwx hkB hfar hup hw0 hRs hj hjn
      replace m6 := m6'
      clear m6'
      obtain ⟨V2, hV⟩ : ∃ V, V = wr := ⟨_, rfl⟩
      subst hV
      go_wp2
      have hw0 := Lib.hid (Wp.start hRu.out)
      go_loopw [22] (fun i wr => ∃ j : Nat, j ≤ nu ∧ i = .int .i64 j ∧ Wp M4 au nu cu V2 wr) (fun i _ => nu - (intOf i).toNat)
      case atStart => exact ⟨0, Nat.zero_le _, rfl, hw0.out⟩
      case round =>
      obtain ⟨j, hj, rfl, hw⟩ := hrel
      by_cases hjn : j < nu
      case pos =>
        obtain ⟨g, rfl, hg, hfz, hcs⟩ := hw.cells hjn
        have hca := hRu.out.cap
        obtain ⟨u0, c0⟩ := hcs 0 (by omega)
        obtain ⟨u1, c1⟩ := hcs 1 (by omega)
        obtain ⟨u2, c2⟩ := hcs 2 (by omega)
        obtain ⟨u3, c3⟩ := hcs 3 (by omega)
        obtain ⟨u4, c4⟩ := hcs 4 (by omega)
        obtain ⟨u5, c5⟩ := hcs 5 (by omega)
        obtain ⟨u6, c6⟩ := hcs 6 (by omega)
        obtain ⟨u7, c7⟩ := hcs 7 (by omega)
        replace hw := Lib.hid hw
        clear hcs
        rw [Nat.add_zero] at c0
        go_wp2
        go_roundw
        case rel => exact ⟨j + 1, by omega, by go_num, (((((((hw.out.set _ _).set _ _).set _ _).set _ _).set _ _).set _ _).set _ _).set _ _⟩
        case measure => simp [intOf]; omega
      case neg =>
        obtain rfl : nu = j := by omega
        obtain ⟨hk, hwx⟩ := hw
        have hfar := own_far hRu.out.own
        have hup := hRu.out.far
        have hkB := Lib.hid (hk.below (B := M) (by omega) (fun k e => by have := hfar k e; omega))
        replace hst := Lib.hid (hst.out.next hkB.out)
        replace hRx := Lib.hid (hRx.out.kept hk (fun k h1 h2 e => by have := hfar k e; have := hup k e; omega))
        replace hRy := Lib.hid (hRy.out.kept hk (fun k h1 h2 e => by have := hfar k e; have := hup k e; omega))
        replace hRz := Lib.hid (hRz.out.kept hk (fun k h1 h2 e => by have := hfar k e; have := hup k e; omega))
        have m6' : M5 ≤ wr.heap.size := Nat.le_trans m6 hk.size
        clear hk hwx hkB hfar hup hw0 hRu hj hjn
        replace m6 := m6'
        clear m6'
        obtain ⟨V3, hV⟩ : ∃ V, V = wr := ⟨_, rfl⟩
        subst hV
        have q0 := hst.out.hx.c0
        have q1 := hst.out.hx.c1
        have q2 := hst.out.hx.c2
        have q3 := hst.out.hx.c3
        have q4 := hst.out.hx.c4
        have q5 := hst.out.hx.c5
        have q6 := hst.out.hx.c6
        have q7 := hst.out.hx.c7
        go_wp2_with (fail)
        go_at_call 12
        refine (nAppend hst.out.hl p hp).mono ?_
        rintro e X1 ⟨hB, ab, nb, cb, rfl, hRb⟩
        rw [hA.out] at hRb
        rw [hra.out]
        replace hst := Lib.hid (hst.out.after hB)
        replace hRx := Lib.hid (hRx.out.after hB)
        replace hRy := Lib.hid (hRy.out.after hB)
        replace hRz := Lib.hid (hRz.out.after hB)
        replace hRb := Lib.hid hRb
        clear q0 q1 q2 q3 q4 q5 q6 q7 hB
        go_wp2_with (fail)
        go_at_call 21
        refine (nSettle hour ⟨hst.out.hl, hst.out.hd, hst.out.hc⟩).mono ?_
        rintro e X2 ⟨hB, at', nt, ct, rfl, hRt⟩
        rw [hQ.out] at hRt
        rw [hrs.out]
        replace hst := Lib.hid (hst.out.after hB)
        replace hRx := Lib.hid (hRx.out.after hB)
        replace hRy := Lib.hid (hRy.out.after hB)
        replace hRz := Lib.hid (hRz.out.after hB)
        replace hRb := Lib.hid (hRb.out.after hB)
        replace hRt := Lib.hid hRt
        clear hB
        go_wp2_with (fail)
        go_at_call 19
        refine (nUpto hst.out.hl hour).mono ?_
        rintro e X3 ⟨hB, av, nv, cv, rfl, hRv⟩
        rw [hU.out] at hRv
        replace hst := Lib.hid (hst.out.after hB)
        replace hRx := Lib.hid (hRx.out.after hB)
        replace hRy := Lib.hid (hRy.out.after hB)
        replace hRz := Lib.hid (hRz.out.after hB)
        replace hRb := Lib.hid (hRb.out.after hB)
        replace hRt := Lib.hid (hRt.out.after hB)
        replace hRv := Lib.hid hRv
        clear hB
        have lb : nb ≤ 100000 := by have e1 := hRb.out.n; have e2 := hRx.out.n; omega
        have lt' : nt ≤ 100000 := by have e1 := hRt.out.n; have e2 := hRy.out.n; omega
        have lv : nv ≤ 100000 := by have e1 := hRv.out.n; have e2 := hRz.out.n; omega
        go_wp2_with (first
          | (go_at_call 9; refine (ppurses _).mono ?_; rintro e Y1 ⟨rfl, hB⟩; replace hst := Lib.hid (hst.out.after hB); replace hRx := Lib.hid (hRx.out.after hB); replace hRy := Lib.hid (hRy.out.after hB); replace hRz := Lib.hid (hRz.out.after hB); replace hRb := Lib.hid (hRb.out.after hB); replace hRt := Lib.hid (hRt.out.after hB); replace hRv := Lib.hid (hRv.out.after hB); clear hB)
          | (go_at_call 14; refine (rSamePostings l l n cap n cw ao (some ⟨aw, 0, none⟩) Y1.heap.size Y1 hn.out hn.out (by omega) (by omega) (hst.out.hl.hs.mono hst.out.hl.hB) (hst.out.hs.hs.mono hst.out.hs.hB) (Nat.le_refl _) rfl).mono ?_; rintro e Y2 ⟨rfl, hB⟩; replace hst := Lib.hid (hst.out.after hB); replace hRx := Lib.hid (hRx.out.after hB); replace hRy := Lib.hid (hRy.out.after hB); replace hRz := Lib.hid (hRz.out.after hB); replace hRb := Lib.hid (hRb.out.after hB); replace hRt := Lib.hid (hRt.out.after hB); replace hRv := Lib.hid (hRv.out.after hB); clear hB)
          | (go_at_call 14; refine (rSamePostings A A nb cb na cx ab (some ⟨gx, 0, none⟩) Y2.heap.size Y2 hRb.out.n hRx.out.n (by omega) (by omega) hRb.out.at hRx.out.at (Nat.le_refl _) rfl).mono ?_; rintro e Y3 ⟨rfl, hB⟩; replace hst := Lib.hid (hst.out.after hB); replace hRx := Lib.hid (hRx.out.after hB); replace hRy := Lib.hid (hRy.out.after hB); replace hRz := Lib.hid (hRz.out.after hB); replace hRb := Lib.hid (hRb.out.after hB); replace hRt := Lib.hid (hRt.out.after hB); replace hRv := Lib.hid (hRv.out.after hB); clear hB)
          | (go_at_call 14; refine (rSamePostings Q Q nt ct ns cy at' (some ⟨gy, 0, none⟩) Y3.heap.size Y3 hRt.out.n hRy.out.n (by omega) (by omega) hRt.out.at hRy.out.at (Nat.le_refl _) rfl).mono ?_; rintro e Y4 ⟨rfl, hB⟩; replace hst := Lib.hid (hst.out.after hB); replace hRx := Lib.hid (hRx.out.after hB); replace hRy := Lib.hid (hRy.out.after hB); replace hRz := Lib.hid (hRz.out.after hB); replace hRb := Lib.hid (hRb.out.after hB); replace hRt := Lib.hid (hRt.out.after hB); replace hRv := Lib.hid (hRv.out.after hB); clear hB)
          | (go_at_call 14; refine (rSamePostings U U nv cv nu cz av (some ⟨gz, 0, none⟩) Y4.heap.size Y4 hRv.out.n hRz.out.n (by omega) (by omega) hRv.out.at hRz.out.at (Nat.le_refl _) rfl).mono ?_; rintro e Y5 ⟨rfl, hB⟩; replace hst := Lib.hid (hst.out.after hB); replace hRx := Lib.hid (hRx.out.after hB); replace hRy := Lib.hid (hRy.out.after hB); replace hRz := Lib.hid (hRz.out.after hB); replace hRb := Lib.hid (hRb.out.after hB); replace hRt := Lib.hid (hRt.out.after hB); replace hRv := Lib.hid (hRv.out.after hB); clear hB))
        go_ret
        exact ⟨rfl, by rw [hmb]; exact hst.out.hb⟩
end Go.Proofs.Ytoijlikmigejbaa
