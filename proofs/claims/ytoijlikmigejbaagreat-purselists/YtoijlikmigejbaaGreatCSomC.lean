/- Walks: the postings of a book that are wanted, each known to be one of them. -/
import Derived.Test.YtoijlikmigejbaaGreatCSomB
namespace Go.Proofs.YtoijlikmigejbaaGreat
open Go.RowKit Go.Shelf Go.Proofs.YtoijlikmigejbaaGreat.Pu
attribute [local go_sem] Oper.semAt_some

set_option maxRecDepth 100000 in
set_option maxHeartbeats 4000000 in
theorem some_sub (ob n' : Nat) (hn1 : 1 ≤ n') (Bs Bw : Nat) {l : List Post} {n cap : Nat} {ao : Option Addr} {B : Nat} {w : World} (h : LIn l n cap ao B w) (wf : FuncId) (wc : Array Value) (P : Post → Bool) (hBob : B ≤ ob) (hobw : Bw ≠ ob)
    (ew : ∀ args w, (callFunc wf args).run Tryz.prog w = .ok (.enter wf args) w) (hw : Hid (WantsO ob wf wc P w)) (hBs : Bs < w.heap.size) (hs : w.cell? ⟨Bs, 0, none⟩ = some (.slice ao n cap)) (hBw : Bw < w.heap.size) (hwc : w.cell? ⟨Bw, 0, none⟩ = some (.func (.func wf) #[] wc)) :
    SeqStopsK Fence.wide n' Tryz.prog 117 #[.pointer (some ⟨Bs, 0, none⟩), .pointer (some ⟨Bw, 0, none⟩)] (fun p : {p : Post // p ∈ someL P l} => #[pval p.1]) (KD w.heap.size ob) (fun xs => xs.map (·.1) = someL P l) (fun _ => True) l.length w := by
  intro y J Jx W hW hJ hJx hY h0
  have hL := h.after hW
  have c1 : W.cell? ⟨Bs, 0, none⟩ = some (.slice ao n cap) := (hW.cell (p := ⟨Bs, 0, none⟩) hBs).trans hs
  refine callsIn_of_wp Tryz.func117 rfl trivial ?_ rfl
  simp only [Tryz.ntmps117, List.size_toArray, List.length_cons, List.length_nil, Nat.reduceAdd, Nat.reduceSub, Array.replicate_succ, Array.replicate_zero, List.push_toArray, List.append_toArray, List.nil_append, List.cons_append]
  obtain ⟨i, hi⟩ : ∃ i, Hid ((check l).1 = i) := ⟨_, rfl⟩
  obtain ⟨r, hr⟩ : ∃ r, Hid ((check l).2 = r) := ⟨_, rfl⟩
  have hck : Hid (Calls Tryz.prog 93 #[.slice ao n cap] W (RetII (i, r) W)) := by
    have := hL.pCheck
    rw [show check l = (i, r) from Prod.ext hi.out hr.out] at this
    exact this
  have hBsW : Bs < W.heap.size := Nat.lt_of_lt_of_le hBs hW.size
  have hBwW : Bw < W.heap.size := Nat.lt_of_lt_of_le hBw hW.size
  have c2 : W.cell? ⟨Bw, 0, none⟩ = some (.func (.func wf) #[] wc) := (hW.cell (p := ⟨Bw, 0, none⟩) hBw).trans hwc
  replace hL := Lib.hid hL
  by_cases hr0 : r = 0
  case neg =>
    have hS : Hid (([] : List Post) = someL P l) := by show _ = _; unfold someL; rw [if_neg (by rw [hr.out]; exact hr0)]
    have hne : (r != 0) = true := by simp [hr0]
    replace hr0 := Lib.hid hr0
    gi_wp2_with (refine ⟨trivial, ?_⟩; gi_at_call 93; refine (callsIn_wide.2 hck.out).mono ?_; rintro e w1 ⟨rfl, hB1⟩)
    refine bodyPost_ret (results_none rfl _ _ _) rfl ?_
    exact ⟨⟨_, rfl⟩, .inl ⟨[], hS.out, AbidesFrom.below hJ h0 hB1⟩⟩
  case pos =>
    subst hr0
    have hS : Hid (l.filter P = someL P l) := by show _ = _; unfold someL; rw [if_pos hr.out]
    gi_wp2_with (refine ⟨trivial, ?_⟩; gi_at_call 93; refine (callsIn_wide.2 hck.out).mono ?_; rintro e w1 ⟨rfl, hB1⟩; have c3 := (hB1.cell (p := ⟨Bs, 0, none⟩) hBsW).trans c1)
    have hJ1 := AbidesFrom.below hJ h0 hB1
    have hW1 := BelowBut.of_below (ob := ob) (hW.trans (hB1.mono hW.size))
    replace hB1 := Lib.hid hB1
    clear c1 c2 c3 hck h0
    have hm := h.hm
    have hcap := h.hcap
    have Hn := Lib.hid h.hn
    gi_loopw [17] (fun i wr => ∃ j : Nat, j ≤ n ∧ i = .int .i64 j ∧ BelowBut w.heap.size ob w wr ∧ W.heap.size ≤ wr.heap.size ∧ ∃ ys : List {p : Post // p ∈ someL P l}, Hid (ys.map (·.1) = (l.take j).filter P) ∧ J ys wr) (fun i _ => n - (intOf i).toNat)
    case atStart => exact ⟨0, Nat.zero_le _, rfl, hW1, hB1.out.size, [], Lib.hid rfl, hJ1⟩
    case round =>
      obtain ⟨j, hj, rfl, hb, hWs, ys, hys, hJj⟩ := hrel
      by_cases hlt : j < n
      · obtain ⟨p, hp⟩ := getq (l := l) (j := j) (by rw [← Hn.out]; exact hlt)
        have hs' := h.hs.below (hb.below hBob h.hB)
        obtain ⟨b, o, rfl, hb0, e0, e1, e2, e3, e4, e5, e6, e7⟩ := hs'.post hp
        have hp' := Lib.hid hp
        have hjc : j ≤ cap := by omega
        have cw : wr.cell? ⟨Bw, 0, none⟩ = some (.func (.func wf) #[] wc) := (hb.cell (o := 0) hBw hobw).trans hwc
        have hBwr : Bw < wr.heap.size := Nat.lt_of_lt_of_le hBwW hWs
        have hcall := hw.out p (wr.alloc (pobj p)) (hb.alloc hb.size _)
        have hJa := AbidesFrom.below hJ hJj ((Below.refl _ wr).alloc (Nat.le_refl _) (pobj p))
        have hbx := PBox.new wr p 36
        have hsz : (wr.alloc (pobj p)).heap.size = wr.heap.size + 1 := by simp
        have hba := hb.alloc hb.size (pobj p)
        replace hba := Lib.hid hba
        replace hcall := Lib.hid hcall
        replace hJa := Lib.hid hJa
        replace hbx := Lib.hid hbx
        clear hp hs' hJj
        cases hP : P p with
        | false =>
          have hcall2 : Hid (Calls Tryz.prog wf (#[pval p] ++ wc) (wr.alloc (pobj p)) fun e W' => e = .returned (.bool false) ∧ Below (wr.alloc (pobj p)).heap.size (wr.alloc (pobj p)) W') := by
            have := hcall.out; rw [hP] at this; exact this
          clear hcall
          gi_wp2_with (refine ⟨trivial, ?_⟩; refine (callsIn_wide.2 hcall2.out).mono ?_; rintro e w2 ⟨rfl, hB2⟩)
          refine ⟨fun _ h => (by cases h), ?_⟩
          gi_wp2
          go_roundw
          case rel =>
            refine ⟨j + 1, by omega, by go_num, hba.out.trans (BelowBut.of_below (hB2.mono hba.out.size)), by have := hB2.size; omega, ys, ?_, AbidesFrom.below hJ hJa.out hB2⟩
            show _ = _
            rw [filter_step hp'.out, hP, hys.out]
            simp only [Bool.false_eq_true, if_false, List.append_nil]
          case measure => simp [intOf]; omega
        | true =>
          have hcall2 : Hid (Calls Tryz.prog wf (#[pval p] ++ wc) (wr.alloc (pobj p)) fun e W' => e = .returned (.bool true) ∧ Below (wr.alloc (pobj p)).heap.size (wr.alloc (pobj p)) W') := by
            have := hcall.out; rw [hP] at this; exact this
          have hlen : ys.length < l.length := by
            have h0 := congrArg List.length hys.out
            rw [List.length_map] at h0
            have h1 := List.length_filter_le P (l.take j)
            rw [List.length_take] at h1
            have := Hn.out
            omega
          have hmem : p ∈ someL P l := by rw [← hS.out, List.mem_filter]; exact ⟨List.mem_of_getElem? hp'.out, hP⟩
          replace hlen := Lib.hid hlen
          clear hcall
          gi_wp2_with (refine ⟨trivial, ?_⟩; refine (callsIn_wide.2 hcall2.out).mono ?_; rintro e w2 ⟨rfl, hB2⟩; have hb2 := hbx.out.below hB2 (by omega); have q0 := hb2.c0; have q1 := hb2.c1; have q2 := hb2.c2; have q3 := hb2.c3; have q4 := hb2.c4; have q5 := hb2.c5; have q6 := hb2.c6; have q7 := hb2.c7; obtain ⟨fn, tmps, assign, body, hy, hR⟩ := hY _ ⟨p, hmem⟩ w2 (AbidesFrom.below hJ hJa.out hB2) hlen.out)
          refine hR.mono ?_
          rintro e W3 (⟨rfl, hJ3, hk3⟩ | ⟨rfl, hJx3⟩)
          · gi_wp2
            go_roundw
            case rel =>
              refine ⟨j + 1, by omega, by go_num, (hba.out.trans (BelowBut.of_below (hB2.mono hba.out.size))).trans hk3.2, by have := hB2.size; have := hk3.2.size; omega, ys ++ [⟨p, hmem⟩], ?_, hJ3⟩
              show _ = _
              rw [filter_step hp'.out, hP, List.map_append, hys.out]
              rfl
            case measure => simp [intOf]; omega
          · gi_wp2
            refine bodyPost_ret (results_none rfl _ _ _) rfl ?_
            exact ⟨⟨_, rfl⟩, .inr ⟨_, trivial, hJx3⟩⟩
      · obtain rfl : j = n := by omega
        gi_wp2
        go_end0
        refine ⟨⟨_, rfl⟩, .inl ⟨ys, ?_, hJj⟩⟩
        rw [hys.out, List.take_of_length_le (by rw [Hn.out]; exact Nat.le_refl _)]
        exact hS.out

end Go.Proofs.YtoijlikmigejbaaGreat
