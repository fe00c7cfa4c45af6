/- Walks: sum, maps.Values, Held. Walks: the postings of a book that are wanted; Upto. Walks: dues by account. -/
import Derived.Test.YtoijlikmigejbaaGreatG09
import Derived.Test.YtoijlikmigejbaaGreatG01
namespace Go.Proofs.YtoijlikmigejbaaGreat
open Go.RowKit Go.Shelf Go.Proofs.YtoijlikmigejbaaGreat.Pu

theorem SlAt.int {B : Nat} {w : World} {ao : Option Addr} {l : List Int} {i : Nat} {x : Int} (h : SlAt 1 icells B w ao l) (hi : l[i]? = some x) : ∃ b o, ao = some ⟨b, o, none⟩ ∧ b < B ∧ w.cell? ⟨b, o + i, none⟩ = some (.int .i64 x) := by
  rcases h with h | ⟨b, o, h1, h2, h3⟩
  · subst h; simp at hi
  · exact ⟨b, o, h1, h2, by have := h3 i x hi 0 (.int .i64 x) rfl; rwa [Nat.mul_one, Nat.add_zero] at this⟩

theorem sumI_take (l : List Int) (j : Nat) (x : Int) (h : l[j]? = some x) : sumI (l.take (j + 1)) = sumI (l.take j) + x := by
  rw [take_snoc h, sumI_append]; simp [sumI]

set_option maxRecDepth 100000 in
set_option maxHeartbeats 1000000 in
theorem psum (l : List Int) (n cap : Nat) (ao : Option Addr) (w : World) (hn : Hid (n = l.length)) (hm : n ≤ 1000) (hs : SlAt 1 icells w.heap.size w ao l) (hb : Hid (∀ x ∈ l, -100000000000000 ≤ x ∧ x ≤ 100000000000000)) :
    Calls Tryz.prog 87 #[.slice ao n cap] w fun e w' => e = .returned (.int .i64 (sumI l)) ∧ w = w' := by
  go_enter Tryz.func87, Tryz.ntmps87
  go_wp2
  go_loop [3, 8] (fun s i => ∃ j : Nat, ∃ t : Int, j ≤ n ∧ i = .int .i64 j ∧ s = .int .i64 t ∧ -((j : Int) * 100000000000000) ≤ t ∧ t ≤ (j : Int) * 100000000000000 ∧ Hid (t = sumI (l.take j))) (fun _ i => n - (intOf i).toNat)
  case atStart => exact ⟨0, 0, Nat.zero_le _, rfl, rfl, by omega, by omega, rfl⟩
  case round =>
    obtain ⟨j, t, hj, rfl, rfl, h1, h2, ht⟩ := hrel
    by_cases hlt : j < n
    · obtain ⟨x, hx⟩ := getq (l := l) (j := j) (by rw [← hn.out]; exact hlt)
      obtain ⟨b, o, rfl, hb0, c0⟩ := hs.int hx
      have hxb := hb.out x (List.mem_of_getElem? hx)
      have ht2 := Lib.hid ((sumI_take l j x hx).trans (by rw [← ht.out]))
      clear hx
      go_wp2
      go_round
      case rel => exact ⟨j + 1, t + x, by omega, by go_num, by go_num, by omega, by omega, ht2.out.symm⟩
      case measure => simp [intOf]; omega
    · obtain rfl : j = n := by omega
      have hfin : t = sumI l := by rw [ht.out, List.take_of_length_le (by rw [hn.out]; exact Nat.le_refl _)]
      replace hfin := Lib.hid hfin
      go_wp2
      go_ret
      exact ⟨ret_int hfin.out, rfl⟩

theorem pValues (b : Nat) (w : World) : Calls Tryz.prog 89 #[.map (some b)] w fun e w' =>
    e = .returned (.func (.func 126) #[] #[.pointer (some ⟨w.heap.size, 0, none⟩)]) ∧ w.alloc (.cells #[.map (some b)] 77) = w' := by
  have hmf : ∀ (fn : Fn) (first cap : Array Value) (w : World), (Instr.makeFunc fn first cap).run Tryz.prog w = .ok (.func fn first cap) w := fun _ _ _ _ => rfl
  go_enter Tryz.func89, Tryz.ntmps89
  go_wp2
  go_ret
  exact ⟨rfl, rfl⟩

/-- the values of a map in memory, in some order -/
theorem pValuesCollect (b : Nat) (m : List (Int × Int)) (w : World) (Bm : Nat) (hBm : Bm < w.heap.size) (hm : w.cell? ⟨Bm, 0, none⟩ = some (.map (some b))) (hb : w.heap[b]? = some (mapObj vi vi m)) (hl : m.length ≤ 1000000) :
    Calls Tryz.prog 88 #[.func (.func 126) #[] #[.pointer (some ⟨Bm, 0, none⟩)]] w fun e w' =>
      ∃ ao cap xs, e = .returned (.slice ao xs.length cap) ∧ xs.Perm (m.map (·.2)) ∧ Own 3 1 icells w.heap.size w' ao xs.length cap xs ∧ Below w.heap.size w w' := by
  refine (callsIn_wide (n := 5)).1 ?_
  exact xCollectI 5 (by omega) _ _ (enters_of Tryz.func126 (by kernel_rfl) rfl) _ _ m.length hl w w (values_stops 3 (by omega) w.heap.size Bm b m w hBm hm hb) (Below.refl _ _)

theorem sumI_perm {a b : List Int} (h : a.Perm b) : sumI a = sumI b := by
  induction h with
  | nil => rfl
  | cons x _ ih => simp only [sumI, ih]
  | swap x y l => simp only [sumI]; omega
  | trans _ _ h1 h2 => rw [h1, h2]

set_option maxRecDepth 100000 in
set_option maxHeartbeats 2000000 in
theorem pHeld {l : List Post} {n cap : Nat} {ao : Option Addr} {B : Nat} {w : World} (h : LIn l n cap ao B w) :
    Calls Tryz.prog 32 #[.slice ao n cap] w (RetII (numE (check l).2 (total l)) w) := by
  go_enter Tryz.func32, Tryz.ntmps32
  go_wp2_with (fail)
  go_at_call 56
  refine h.opened.mono ?_
  rintro e w1 ⟨hB1, ⟨hbook, N, c, rfl, hN, hI, hC⟩ | ⟨hnb, hne, rfl⟩⟩
  · have hck : (check l).2 = 0 := by rw [check_book hbook]
    have hr : Hid (numE (check l).2 (total l) = (total l, 0)) := by show _ = _; unfold numE; rw [if_pos hck]
    have hA := Book.amtOk hbook
    have hlen : c.held.length ≤ 400 := by
      have h1 := hI.lh
      have h2 : l.length ≤ 400 := by
        rcases Nat.eq_zero_or_pos l.length with h0 | h0
        · omega
        · have hq := List.getElem?_eq_getElem (show l.length - 1 < l.length by omega)
          have := (refused_ok (hbook _ _ hq)).2
          simp at this; omega
      omega
    have hlen' : l.length ≤ 400 := by
      rcases Nat.eq_zero_or_pos l.length with h0 | h0
      · omega
      · have hq := List.getElem?_eq_getElem (show l.length - 1 < l.length by omega)
        have := (refused_ok (hbook _ _ hq)).2
        simp at this; omega
    have hbd : Hid (∀ x ∈ c.held.map (·.2), -100000000000000 ≤ x ∧ x ≤ 100000000000000) := by
      intro x hx
      obtain ⟨⟨k, v⟩, hkv, rfl⟩ := List.mem_map.1 hx
      have hg := getM_of_mem hI.ndh hkv
      have h1 := hI.held k
      unfold gd at h1
      rw [hg] at h1
      simp only [Option.getD_some] at h1
      have h2 := held_bd k hA
      dsimp only
      omega
    have c4 := hC.c4
    have hb2 := hC.held
    have hN2 := hC.lt
    have htot := Lib.hid hI.tot
    replace hB1 := Lib.hid hB1
    clear hbook hN hI hC hck hA
    go_wp2_with (first
      | (go_at_call 89; refine (pValues _ _).mono ?_; rintro e w2 ⟨rfl, rfl⟩)
      | (go_at_call 88
         refine (pValuesCollect (N + 2) c.held _ w1.heap.size (by simp) (by simp) ((Below.heap_alloc _ _ _ (by omega)).trans hb2) (by omega)).mono ?_
         rintro e w2 ⟨ao2, cap2, xs, rfl, hperm, hown, hB2⟩)
      | (go_at_call 87
         refine (psum xs _ cap2 ao2 _ rfl (by have := hperm.length_eq; simp at this; omega) (hown.slAt icells_len (by omega)) (fun x hx => hbd.out x (hperm.mem_iff.1 hx))).mono ?_
         rintro e w3 ⟨rfl, rfl⟩))
    go_ret2
    refine ⟨?_, ?_⟩
    · rw [hr.out, show total l = sumI xs from (htot.out.symm.trans (sumI_perm hperm).symm)]; rfl
    · exact hB1.out.trans ((((Below.refl _ _).alloc (Nat.le_refl _) _).trans (hB2.mono (by simp))).mono hB1.out.size)
  · obtain ⟨r, hr0⟩ : ∃ r, (check l).2 = r := ⟨_, rfl⟩
    obtain ⟨i, hi⟩ : ∃ i, (check l).1 = i := ⟨_, rfl⟩
    have hr : Hid (numE (check l).2 (total l) = (0, r)) := by show _ = _; rw [← hr0]; unfold numE; rw [if_neg hne]
    rw [hr0] at hne
    rw [hr0, hi]
    have hne2 : (r != 0) = true := by simp [hne]
    replace hB1 := Lib.hid hB1
    clear hr0 hne hi hnb
    go_wp2
    go_ret2
    exact ⟨by rw [hr.out]; rfl, hB1.out⟩
end Go.Proofs.YtoijlikmigejbaaGreat

namespace Go.Proofs.YtoijlikmigejbaaGreat
open Go.RowKit Go.Shelf Go.Proofs.YtoijlikmigejbaaGreat.Pu
attribute [local go_sem] Oper.semAt_some

/-- the postings of a book that are wanted -/
def someL (P : Post → Bool) (l : List Post) : List Post := if (check l).2 = 0 then l.filter P else []
theorem AbidesFrom.below {β : Type} {B : Nat} {J : β → World → Prop} (h : AbidesFrom B J) {s : β} {W W' : World} (hs : J s W) (hb : Below W.heap.size W W') : J s W' :=
  h s W W' none hs ⟨hb.os, hb.tape, hb.output, hb.size, fun k hk _ => hb.block k hk⟩ (fun r e => by cases e)
/-- a test of postings -/
def Wants (wf : FuncId) (wc : Array Value) (P : Post → Bool) (w : World) : Prop :=
  ∀ (p : Post) (W : World), Below w.heap.size w W → Calls Tryz.prog wf (#[pval p] ++ wc) W fun e W' => e = .returned (.bool (P p)) ∧ Below W.heap.size W W'
theorem filter_step {P : Post → Bool} {l : List Post} {j : Nat} {p : Post} (h : l[j]? = some p) : (l.take (j + 1)).filter P = (l.take j).filter P ++ (if P p then [p] else []) := by
  rw [take_snoc h, List.filter_append]; simp [List.filter_cons]

set_option maxRecDepth 100000 in
set_option maxHeartbeats 4000000 in
theorem some_stops (n' : Nat) (hn1 : 1 ≤ n') (Bs Bw : Nat) {l : List Post} {n cap : Nat} {ao : Option Addr} {B : Nat} {w : World} (h : LIn l n cap ao B w) (wf : FuncId) (wc : Array Value) (P : Post → Bool)
    (ew : ∀ args w, (callFunc wf args).run Tryz.prog w = .ok (.enter wf args) w) (hw : Hid (Wants wf wc P w)) (hBs : Bs < w.heap.size) (hs : w.cell? ⟨Bs, 0, none⟩ = some (.slice ao n cap)) (hBw : Bw < w.heap.size) (hwc : w.cell? ⟨Bw, 0, none⟩ = some (.func (.func wf) #[] wc)) :
    SeqStopsK Fence.wide n' Tryz.prog 117 #[.pointer (some ⟨Bs, 0, none⟩), .pointer (some ⟨Bw, 0, none⟩)] (fun p => #[pval p]) (KB w.heap.size) (fun xs => xs = someL P l) (fun _ => True) l.length w := by
  intro y J Jx W hW hJ hJx hY h0
  have hL := h.after hW
  have c1 : W.cell? ⟨Bs, 0, none⟩ = some (.slice ao n cap) := (hW.cell (p := ⟨Bs, 0, none⟩) hBs).trans hs
  refine callsIn_of_wp Tryz.func117 rfl trivial ?_ rfl
  simp only [Tryz.ntmps117, List.size_toArray, List.length_cons, List.length_nil, Nat.reduceAdd, Nat.reduceSub, Array.replicate_succ, Array.replicate_zero, List.push_toArray, List.append_toArray, List.nil_append, List.cons_append]
  obtain ⟨i, hi⟩ : ∃ i, Hid ((check l).1 = i) := ⟨_, rfl⟩
  obtain ⟨r, hr⟩ : ∃ r, Hid ((check l).2 = r) := ⟨_, rfl⟩
  have hck : Hid (Calls Tryz.prog 93 #[.slice ao n cap] W (RetII (i, r) W)) := by
    have := hL.pCheck
    rw [show check l = (i, r) from Prod.ext hi.out hr.out] at this
    exact this
  have hBsW : Bs < W.heap.size := Nat.lt_of_lt_of_le hBs hW.size
  have hBwW : Bw < W.heap.size := Nat.lt_of_lt_of_le hBw hW.size
  have c2 : W.cell? ⟨Bw, 0, none⟩ = some (.func (.func wf) #[] wc) := (hW.cell (p := ⟨Bw, 0, none⟩) hBw).trans hwc
  replace hL := Lib.hid hL
  by_cases hr0 : r = 0
  case neg =>
    have hS : Hid (([] : List Post) = someL P l) := by show _ = _; unfold someL; rw [if_neg (by rw [hr.out]; exact hr0)]
    have hne : (r != 0) = true := by simp [hr0]
    replace hr0 := Lib.hid hr0
    gi_wp2_with (refine ⟨trivial, ?_⟩; gi_at_call 93; refine (callsIn_wide.2 hck.out).mono ?_; rintro e w1 ⟨rfl, hB1⟩)
    refine bodyPost_ret (results_none rfl _ _ _) rfl ?_
    exact ⟨⟨_, rfl⟩, .inl ⟨[], hS.out, AbidesFrom.below hJ h0 hB1⟩⟩
  case pos =>
    subst hr0
    have hS : Hid (l.filter P = someL P l) := by show _ = _; unfold someL; rw [if_pos hr.out]
    gi_wp2_with (refine ⟨trivial, ?_⟩; gi_at_call 93; refine (callsIn_wide.2 hck.out).mono ?_; rintro e w1 ⟨rfl, hB1⟩; have c3 := (hB1.cell (p := ⟨Bs, 0, none⟩) hBsW).trans c1)
    have hJ1 := AbidesFrom.below hJ h0 hB1
    have hW1 := hW.trans (hB1.mono hW.size)
    replace hB1 := Lib.hid hB1
    clear c1 c2 c3 hck h0
    have hm := h.hm
    have hcap := h.hcap
    have Hn := Lib.hid h.hn
    gi_loopw [17] (fun i wr => ∃ j : Nat, j ≤ n ∧ i = .int .i64 j ∧ Below w.heap.size w wr ∧ W.heap.size ≤ wr.heap.size ∧ J ((l.take j).filter P) wr) (fun i _ => n - (intOf i).toNat)
    case atStart => exact ⟨0, Nat.zero_le _, rfl, hW1, hB1.out.size, hJ1⟩
    case round =>
      obtain ⟨j, hj, rfl, hb, hWs, hJj⟩ := hrel
      by_cases hlt : j < n
      · obtain ⟨p, hp⟩ := getq (l := l) (j := j) (by rw [← Hn.out]; exact hlt)
        have hs' := h.hs.below (hb.mono h.hB)
        obtain ⟨b, o, rfl, hb0, e0, e1, e2, e3, e4, e5, e6, e7⟩ := hs'.post hp
        have hp' := Lib.hid hp
        have hjc : j ≤ cap := by omega
        have cw : wr.cell? ⟨Bw, 0, none⟩ = some (.func (.func wf) #[] wc) := (hb.cell (p := ⟨Bw, 0, none⟩) hBw).trans hwc
        have hBwr : Bw < wr.heap.size := Nat.lt_of_lt_of_le hBwW hWs
        have hcall := hw.out p (wr.alloc (pobj p)) (hb.alloc hb.size _)
        have hJa := AbidesFrom.below hJ hJj ((Below.refl _ wr).alloc (Nat.le_refl _) (pobj p))
        have hbx := PBox.new wr p 36
        have hsz : (wr.alloc (pobj p)).heap.size = wr.heap.size + 1 := by simp
        have hba := hb.alloc hb.size (pobj p)
        replace hba := Lib.hid hba
        replace hcall := Lib.hid hcall
        replace hJa := Lib.hid hJa
        replace hbx := Lib.hid hbx
        clear hp hs' hJj
        cases hP : P p with
        | false =>
          have hcall2 : Hid (Calls Tryz.prog wf (#[pval p] ++ wc) (wr.alloc (pobj p)) fun e W' => e = .returned (.bool false) ∧ Below (wr.alloc (pobj p)).heap.size (wr.alloc (pobj p)) W') := by
            have := hcall.out; rw [hP] at this; exact this
          clear hcall
          gi_wp2_with (refine ⟨trivial, ?_⟩; refine (callsIn_wide.2 hcall2.out).mono ?_; rintro e w2 ⟨rfl, hB2⟩)
          refine ⟨fun _ h => (by cases h), ?_⟩
          gi_wp2
          go_roundw
          case rel =>
            refine ⟨j + 1, by omega, by go_num, hba.out.trans (hB2.mono hba.out.size), by have := hB2.size; omega, ?_⟩
            rw [filter_step hp'.out, hP]
            simp only [Bool.false_eq_true, if_false, List.append_nil]
            exact AbidesFrom.below hJ hJa.out hB2
          case measure => simp [intOf]; omega
        | true =>
          have hcall2 : Hid (Calls Tryz.prog wf (#[pval p] ++ wc) (wr.alloc (pobj p)) fun e W' => e = .returned (.bool true) ∧ Below (wr.alloc (pobj p)).heap.size (wr.alloc (pobj p)) W') := by
            have := hcall.out; rw [hP] at this; exact this
          have hlen : ((l.take j).filter P).length < l.length := by
            have h1 := List.length_filter_le P (l.take j)
            rw [List.length_take] at h1
            have := Hn.out
            omega
          replace hlen := Lib.hid hlen
          clear hcall
          gi_wp2_with (refine ⟨trivial, ?_⟩; refine (callsIn_wide.2 hcall2.out).mono ?_; rintro e w2 ⟨rfl, hB2⟩; have hb2 := hbx.out.below hB2 (by omega); have q0 := hb2.c0; have q1 := hb2.c1; have q2 := hb2.c2; have q3 := hb2.c3; have q4 := hb2.c4; have q5 := hb2.c5; have q6 := hb2.c6; have q7 := hb2.c7; obtain ⟨fn, tmps, assign, body, hy, hR⟩ := hY _ p w2 (AbidesFrom.below hJ hJa.out hB2) hlen.out)
          refine hR.mono ?_
          rintro e W3 (⟨rfl, hJ3, hk3⟩ | ⟨rfl, hJx3⟩)
          · gi_wp2
            go_roundw
            case rel =>
              refine ⟨j + 1, by omega, by go_num, (hba.out.trans (hB2.mono hba.out.size)).trans hk3.2, by have := hB2.size; have := hk3.2.size; omega, ?_⟩
              rw [filter_step hp'.out, hP]
              exact hJ3
            case measure => simp [intOf]; omega
          · gi_wp2
            refine bodyPost_ret (results_none rfl _ _ _) rfl ?_
            exact ⟨⟨_, rfl⟩, .inr ⟨_, trivial, hJx3⟩⟩
      · obtain rfl : j = n := by omega
        gi_wp2
        go_end0
        refine ⟨⟨_, rfl⟩, .inl ⟨_, hS.out, ?_⟩⟩
        rw [List.take_of_length_le (by rw [Hn.out]; exact Nat.le_refl _)] at hJj
        exact hJj

set_option maxRecDepth 100000 in
theorem psome (sv wv : Value) (w : World) (h1 : sv.oneCell' = true) (h2 : wv.oneCell' = true) (hs : ∃ ao n cap, sv = .slice ao n cap) (hw : ∃ f a c, wv = .func f a c) : Calls Tryz.prog 74 #[sv, wv] w fun e w' =>
    e = .returned (.func (.func 117) #[] #[.pointer (some ⟨w.heap.size, 0, none⟩), .pointer (some ⟨w.heap.size + 1, 0, none⟩)]) ∧ (w.alloc (.cells #[sv] 22)).alloc (.cells #[wv] 103) = w' := by
  have hmf : ∀ (fn : Fn) (first cap : Array Value) (w : World), (Instr.makeFunc fn first cap).run Tryz.prog w = .ok (.func fn first cap) w := fun _ _ _ _ => rfl
  obtain ⟨ao, n, cap, rfl⟩ := hs
  obtain ⟨f, a, c, rfl⟩ := hw
  go_enter Tryz.func74, Tryz.ntmps74
  go_wp2
  go_ret
  exact ⟨rfl, rfl⟩

/-- the postings that are wanted, in a new list -/
def SomeRes (P : Post → Bool) (l : List Post) (w : World) (e : Ending) (w' : World) : Prop :=
  Below w.heap.size w w' ∧ ∃ ao cap, e = .returned (.slice ao (someL P l).length cap) ∧ Own 36 8 pcells w.heap.size w' ao (someL P l).length cap (someL P l)

theorem someCollect {l : List Post} {n cap : Nat} {ao : Option Addr} {B : Nat} {w : World} (h : LIn l n cap ao B w) (hl : l.length ≤ 1000000) (Bs Bw : Nat) (wf : FuncId) (wc : Array Value) (P : Post → Bool)
    (ew : ∀ args w, (callFunc wf args).run Tryz.prog w = .ok (.enter wf args) w) (hw : Wants wf wc P w) (hBs : Bs < w.heap.size) (hs : w.cell? ⟨Bs, 0, none⟩ = some (.slice ao n cap)) (hBw : Bw < w.heap.size) (hwc : w.cell? ⟨Bw, 0, none⟩ = some (.func (.func wf) #[] wc)) :
    Calls Tryz.prog 90 #[.func (.func 117) #[] #[.pointer (some ⟨Bs, 0, none⟩), .pointer (some ⟨Bw, 0, none⟩)]] w (SomeRes P l w) := by
  refine ((callsIn_wide (n := 5)).1 (xCollectP 5 (by omega) _ _ (enters_of Tryz.func117 (by kernel_rfl) rfl) _ _ l.length hl w w (some_stops 3 (by omega) Bs Bw h wf wc P ew hw hBs hs hBw hwc) (Below.refl _ _))).mono ?_
  rintro e w' ⟨ao', cap', xs, rfl, rfl, hown, hB⟩
  exact ⟨hB, ao', cap', rfl, hown⟩

def uptoP (hour : Int) (p : Post) : Bool := decide (p.hour ≤ hour)
theorem wants_upto (Bh : Nat) (hour : Int) (w : World) (hB : Bh < w.heap.size) (hc : w.cell? ⟨Bh, 0, none⟩ = some (.int .i64 hour)) : Wants 91 #[.pointer (some ⟨Bh, 0, none⟩)] (uptoP hour) w := by
  intro p W hW
  have hcW := (hW.cell (p := ⟨Bh, 0, none⟩) hB).trans hc
  have hlt : Bh < W.heap.size := Nat.lt_of_lt_of_le hB hW.size
  go_enter Tryz.func91, Tryz.ntmps91
  go_wp2
  go_ret
  exact ⟨rfl, (Below.refl _ _).alloc (Nat.le_refl _) _⟩
theorem enter_upto (args : Array Value) (w : World) : (callFunc 91 args).run Tryz.prog w = .ok (.enter 91 args) w := enters_of Tryz.func91 (by kernel_rfl) rfl args w

theorem three_cells (w : World) (v1 v2 v3 : Value) (t1 t2 t3 : TypeId) : (((w.alloc (.cells #[v1] t1)).alloc (.cells #[v2] t2)).alloc (.cells #[v3] t3)).heap.size = w.heap.size + 3 ∧
    (((w.alloc (.cells #[v1] t1)).alloc (.cells #[v2] t2)).alloc (.cells #[v3] t3)).cell? ⟨w.heap.size, 0, none⟩ = some v1 ∧ (((w.alloc (.cells #[v1] t1)).alloc (.cells #[v2] t2)).alloc (.cells #[v3] t3)).cell? ⟨w.heap.size + 1, 0, none⟩ = some v2 ∧
    (((w.alloc (.cells #[v1] t1)).alloc (.cells #[v2] t2)).alloc (.cells #[v3] t3)).cell? ⟨w.heap.size + 1 + 1, 0, none⟩ = some v3 := by
  have h1 : (w.alloc (.cells #[v1] t1)).heap.size = w.heap.size + 1 := by simp
  have h2 : ((w.alloc (.cells #[v1] t1)).alloc (.cells #[v2] t2)).heap.size = w.heap.size + 1 + 1 := by simp
  have a := cell_of_row _ _ 0 _ _ _ (heap_alloc_new w (.cells #[v1] t1))
  have b := cell_of_row _ _ 0 _ _ _ (heap_alloc_new (w.alloc (.cells #[v1] t1)) (.cells #[v2] t2))
  have c := cell_of_row _ _ 0 _ _ _ (heap_alloc_new ((w.alloc (.cells #[v1] t1)).alloc (.cells #[v2] t2)) (.cells #[v3] t3))
  rw [h1] at b
  rw [h2] at c
  exact ⟨by simp, (far_cell (far_cell a)), far_cell b, c⟩

set_option maxRecDepth 100000 in
set_option maxHeartbeats 1000000 in
theorem pUpto {l : List Post} {n cap : Nat} {ao : Option Addr} {B : Nat} {w : World} (h : LIn l n cap ao B w) (hour : Int) :
    Calls Tryz.prog 36 #[.slice ao n cap, .int .i64 hour] w (SomeRes (uptoP hour) l w) := by
  have hmf : ∀ (fn : Fn) (first cap : Array Value) (w : World), (Instr.makeFunc fn first cap).run Tryz.prog w = .ok (.func fn first cap) w := fun _ _ _ _ => rfl
  have hl : l.length ≤ 1000000 := by have := h.hn; have := h.hm; omega
  have h3 := ((h.alloc (.cells #[.int .i64 hour] 3)).alloc (.cells #[.slice ao n cap] 22)).alloc (.cells #[.func (.func 91) #[] #[.pointer (some ⟨w.heap.size, 0, none⟩)]] 103)
  have hb3 := Lib.hid ((((Below.refl w.heap.size w).alloc (Nat.le_refl _) (.cells #[.int .i64 hour] 3)).alloc (by simp) (.cells #[.slice ao n cap] 22)).alloc (by simp; omega) (.cells #[.func (.func 91) #[] #[.pointer (some ⟨w.heap.size, 0, none⟩)]] 103))
  replace h3 := Lib.hid h3
  have h4 := three_cells w (.int .i64 hour) (.slice ao n cap) (.func (.func 91) #[] #[.pointer (some ⟨w.heap.size, 0, none⟩)]) 3 22 103
  replace h4 := Lib.hid h4
  go_enter Tryz.func36, Tryz.ntmps36
  go_wp2_with (go_at_call 74; refine (psome _ _ _ rfl rfl ⟨_, _, _, rfl⟩ ⟨_, _, _, rfl⟩).mono ?_; rintro e w2 ⟨rfl, rfl⟩)
  go_at_call 90
  refine (someCollect h3.out hl (w.heap.size + 1) (w.heap.size + 1 + 1) 91 #[.pointer (some ⟨w.heap.size, 0, none⟩)] (uptoP hour) enter_upto (wants_upto w.heap.size hour _ (by rw [h4.out.1]; omega) h4.out.2.1) (by rw [h4.out.1]; omega) h4.out.2.2.1 (by rw [h4.out.1]; omega) h4.out.2.2.2).mono ?_
  rintro e w2 ⟨hB2, ao2, cap2, rfl, hown⟩
  go_wp2
  go_ret
  refine ⟨hb3.out.trans (hB2.mono hb3.out.size), ao2, cap2, rfl, own_base hown hb3.out.size⟩
end Go.Proofs.YtoijlikmigejbaaGreat

namespace Go.Proofs.YtoijlikmigejbaaGreat
open Go.RowKit Go.Proofs.YtoijlikmigejbaaGreat.Pu

/-- dues by account -/
def amtsM (l : List Due) : List ((Int × Int) × Int) := l.foldl (fun m d => putM m (d.parcel, d.party) d.amount) []
theorem amtsM_snoc {l : List Due} {j : Nat} {d : Due} (h : l[j]? = some d) : amtsM (l.take (j + 1)) = putM (amtsM (l.take j)) (d.parcel, d.party) d.amount := by
  rw [take_snoc h, amtsM, List.foldl_append]; rfl
theorem TBox.cells {w : World} {b : Nat} {x y z : Int} (h : TBox w b x y z) : w.cell? ⟨b, 0, none⟩ = some (.int .i64 x) ∧ w.cell? ⟨b, 1, none⟩ = some (.int .i64 y) ∧ w.cell? ⟨b, 2, none⟩ = some (.int .i64 z) := ⟨h.c0, h.c1, h.c2⟩
theorem TBox.putO {w : World} {b k : Nat} {x y z : Int} {o : Obj} (h : TBox w b x y z) (hk : b ≠ k) : TBox (putO w k o) b x y z :=
  ⟨by rw [putO_size]; exact h.lt, (putO_cell _ _ _ (by dsimp only; exact hk)).trans h.c0, (putO_cell _ _ _ (by dsimp only; exact hk)).trans h.c1, (putO_cell _ _ _ (by dsimp only; exact hk)).trans h.c2⟩
theorem below_putO {B k : Nat} {w w' : World} {o : Obj} (h : Below B w w') (hk : B ≤ k) : Below B w (putO w' k o) :=
  ⟨h.os, h.tape, h.output, by rw [putO_size]; exact h.size, fun i hi => (putO_other _ _ _ (by omega)).trans (h.block i hi)⟩

set_option maxRecDepth 100000 in
set_option maxHeartbeats 2000000 in
theorem pamounts {l : List Due} {n cap : Nat} {ao : Option Addr} {B : Nat} {w : World} (h : DIn l n cap ao B w) :
    Calls Tryz.prog 114 #[.slice ao n cap] w fun e w' => e = .returned (.map (some w.heap.size)) ∧ w'.heap[w.heap.size]? = some (mapObj kv vi (amtsM l)) ∧ Below w.heap.size w w' := by
  have hB := h.hB
  have hcap := h.hcap
  have hm := h.hm
  have Hn := Lib.hid h.hn
  have hmm := @run_makeMap Tryz.prog
  go_enter Tryz.func114, Tryz.ntmps114
  go_wp2
  clear hmm
  have h0 : (w.alloc (.map #[] 0)).heap[w.heap.size]? = some (mapObj kv vi (amtsM (l.take 0))) := heap_alloc_new w _
  have hb1 : Below w.heap.size w (w.alloc (.map #[] 0)) := (Below.refl _ _).alloc (Nat.le_refl _) _
  obtain ⟨mb, hmb⟩ : ∃ mb, w.heap.size = mb := ⟨_, rfl⟩
  rw [hmb] at h0 hb1 hB ⊢
  replace hmb := Lib.hid hmb
  go_loopw [9] (fun i wr => ∃ j : Nat, j ≤ n ∧ i = .int .i64 j ∧ Below mb w wr ∧ Hid (wr.heap[mb]? = some (mapObj kv vi (amtsM (l.take j))))) (fun i _ => n - (intOf i).toNat)
  case atStart => exact ⟨0, Nat.zero_le _, rfl, hb1, h0⟩
  case round =>
    obtain ⟨j, hj, rfl, hb, hmap⟩ := hrel
    by_cases hlt : j < n
    · obtain ⟨d, hd⟩ := getq (l := l) (j := j) (by rw [← Hn.out]; exact hlt)
      have hs' := h.hs.below (hb.mono hB)
      obtain ⟨b, o, rfl, hb0, c0, c1, c2⟩ := hs'.due hd
      have hX := TBox.new wr d.party d.parcel d.amount 63
      have hmbl : mb < wr.heap.size := (Array.getElem?_eq_some_iff.1 hmap.out).1
      have hBx : Below mb w (wr.alloc (.cells #[.int .i64 d.party, .int .i64 d.parcel, .int .i64 d.amount] 63)) := hb.alloc (by omega) _
      have hmx := Lib.hid ((Below.heap_alloc wr (.cells #[.int .i64 d.party, .int .i64 d.parcel, .int .i64 d.amount] 63) mb hmbl).trans hmap.out)
      have hd' := Lib.hid hd
      clear hd hs'
      go_wp2
      refine wp_world (R := fun W => (TBox W wr.heap.size d.party d.parcel d.amount ∧ Below mb w W) ∧ Hid (W.heap[mb]? = some (mapObj kv vi (amtsM (l.take j)))) ∧ mb < W.heap.size) ⟨⟨hX, hBx⟩, hmx, by simp; omega⟩ ?_
      have hne : wr.heap.size ≠ mb := by omega
      clear c0 c1 c2 hX hBx hb hmx hmap hmbl
      obtain ⟨xb, hxb⟩ : ∃ xb, wr.heap.size = xb := ⟨_, rfl⟩
      rw [hxb] at hne ⊢
      clear hxb
      rintro W ⟨⟨hX, HB⟩, hmx, hml⟩
      have hXd : TBox W.drew xb d.party d.parcel d.amount := ⟨hX.lt, hX.c0, hX.c1, hX.c2⟩
      have hlX := hX.lt
      replace HB := Lib.hid HB
      clear hX
      refine wp_region_held_drew (S := (fun w' => w'.cell? ⟨xb, 0, none⟩ = some (.int .i64 d.party) ∧ w'.cell? ⟨xb, 1, none⟩ = some (.int .i64 d.parcel) ∧ w'.cell? ⟨xb, 2, none⟩ = some (.int .i64 d.amount))) (by kernel_rfl) ?_ (fun hHeld0 => ?_)
      · (try dsimp only); (first
                            | exact hXd.cells
                            | exact (hXd.below hb2 hlX).cells
                            | exact ((hXd.below hb2 hlX).putO hne).cells)
      refine xtake 0 (v := ?_) rfl (by kernel_rfl) (by kernel_rfl) (by kernel_rfl) rfl ?_ ?_ (by assumption) ?_
      rotate_left
      · intro w hSw; (try dsimp only at hSw); go_simp; with_reducible rfl
      · (exact fun _ _ _ hp => hp)
      try simp only [Act.put, List.setIfInBounds_toArray, List.set_cons_zero, List.set_cons_succ]
      refine xtake 1 (v := ?_) rfl (by kernel_rfl) (by kernel_rfl) (by kernel_rfl) rfl ?_ ?_ (by assumption) ?_
      rotate_left
      · intro w hSw; (try dsimp only at hSw); go_simp; with_reducible rfl
      · (exact fun _ _ _ hp => hp)
      try simp only [Act.put, List.setIfInBounds_toArray, List.set_cons_zero, List.set_cons_succ]
      refine xtake 3 (v := ?_) rfl (by kernel_rfl) (by kernel_rfl) (by kernel_rfl) rfl ?_ ?_ (by assumption) ?_
      rotate_left
      · intro w hSw; (try dsimp only at hSw); go_simp; with_reducible rfl
      · (exact fun _ _ _ hp => hp)
      try simp only [Act.put, List.setIfInBounds_toArray, List.set_cons_zero, List.set_cons_succ]
      refine xtake 4 (v := ?_) rfl (by kernel_rfl) (by kernel_rfl) (by kernel_rfl) rfl ?_ ?_ (by assumption) ?_
      rotate_left
      · intro w hSw; (try dsimp only at hSw); go_simp; with_reducible rfl
      · (exact fun _ _ _ hp => hp)
      try simp only [Act.put, List.setIfInBounds_toArray, List.set_cons_zero, List.set_cons_succ]
      refine wpAnyH_ready (rs := [2]) (by kernel_rfl) (by simp) ?_
      refine xcons 2 rfl (fun K hK => ?_) ?_
      focus
        (first
          | (go_simp; go_at_call 64; refine (of_ok d _).mono ?_; rintro e w2 ⟨rfl, hb2⟩; have hm2 := Lib.hid ((hb2.block mb hml).trans hmx.out); have hu := run_updateM (P := Tryz.prog) (eV := vi) acctKey Tryz.underlying78 hm2.out (d.parcel, d.party) d.amount; dsimp only))
        refine hK.out _ _ ?_ (fun hHeld1 => ?_)
        · (try dsimp only); (first
                              | exact hXd.cells
                              | exact (hXd.below hb2 hlX).cells
                              | exact ((hXd.below hb2 hlX).putO hne).cells)
        clear hK K
        try simp only [Act.put, List.setIfInBounds_toArray, List.set_cons_zero, List.set_cons_succ]
        (try clear hHeld0)
        refine wpAnyH_ready (rs := [5]) (by kernel_rfl) (by simp) ?_
        refine xcons 5 rfl (fun K hK => ?_) ?_
        focus
          go_simp
          refine hK.out _ _ ?_ (fun hHeld2 => ?_)
          · (try dsimp only); (first
                                | exact hXd.cells
                                | exact (hXd.below hb2 hlX).cells
                                | exact ((hXd.below hb2 hlX).putO hne).cells)
          clear hK K
          try simp only [Act.put, List.setIfInBounds_toArray, List.set_cons_zero, List.set_cons_succ]
          (try clear hHeld1)
          refine wpAnyH_done (by kernel_rfl) ?_ _
          (revert hHeld2; intro _)
        rotate_left 1
        exact AllReadyH.nil
      rotate_left 1
      exact AllReadyH.nil
      go_wp2
      go_roundw
      case rel =>
        refine ⟨j + 1, by omega, by go_num, below_putO (HB.out.drew.trans (hb2.mono (Nat.le_of_lt hml))) (Nat.le_refl _), ?_⟩
        show _ = _
        rw [amtsM_snoc hd'.out]
        exact putO_same _ _ _ (Nat.lt_of_lt_of_le hml hb2.size)
      case measure => simp [intOf]; omega
    · obtain rfl : j = n := by omega
      go_wp2
      go_ret
      rw [hmb.out]
      refine ⟨rfl, ?_, hb⟩
      have := hmap.out
      rw [List.take_of_length_le (by rw [Hn.out]; exact Nat.le_refl _)] at this
      exact this
end Go.Proofs.YtoijlikmigejbaaGreat
