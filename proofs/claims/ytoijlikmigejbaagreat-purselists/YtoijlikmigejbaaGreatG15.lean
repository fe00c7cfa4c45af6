/- Walks: dues, Over, Settled. The chapter's examples, in plain Lean. Walk: the chapter's examples hold. -/
import Derived.Test.YtoijlikmigejbaaGreatCSetF
namespace Go.Proofs.YtoijlikmigejbaaGreat
open Go.RowKit Go.Proofs.YtoijlikmigejbaaGreat.Pu

/-- the error of a book and of dues -/
def compCode (l : List Post) (d : List Due) : Int := if (check l).2 ≠ 0 then (check l).2 else chkL okD ltD d
theorem compCode_no {l : List Post} {d : List Due} (h : (check l).2 ≠ 0) : compCode l d = (check l).2 := by unfold compCode; rw [if_pos h]
theorem compCode_d {l : List Post} {d : List Due} (h : Book l) : compCode l d = chkL okD ltD d := by unfold compCode; rw [check_book h, if_neg (by simp)]
def DuesOf (l : List Post) (d : List Due) (w : World) (e : Ending) (w' : World) : Prop :=
  Below w.heap.size w w' ∧ ((compCode l d = 0 ∧ chkL okD ltD d = 0 ∧ ∃ N c, e = .returned (.tuple #[.pointer (some ⟨N + 5, 0, none⟩), .int .i64 0]) ∧ Opened l N c w') ∨
    (compCode l d ≠ 0 ∧ e = .returned (.tuple #[.pointer none, .int .i64 (compCode l d)])))

set_option maxRecDepth 100000 in
set_option maxHeartbeats 2000000 in
theorem pdues {l : List Post} {d : List Due} {n cap n2 cap2 : Nat} {ao ao2 : Option Addr} {B : Nat} {w : World} (h : LIn l n cap ao B w) (hd : DIn d n2 cap2 ao2 B w) :
    Calls Tryz.prog 106 #[.slice ao n cap, .slice ao2 n2 cap2] w (DuesOf l d w) := by
  go_enter Tryz.func106, Tryz.ntmps106
  go_wp2_with (fail)
  go_at_call 56
  refine h.opened.mono ?_
  rintro e w1 ⟨hB1, ⟨hbook, N, c, rfl, hN, hI, hC⟩ | ⟨hnb, hne, rfl⟩⟩
  · have hO := Lib.hid (show Opened l N c w1 from ⟨hI, hbook, hC⟩)
    have hd1 := Lib.hid (hd.after hB1)
    have hcc := Lib.hid (compCode_d (d := d) hbook)
    replace hB1 := Lib.hid hB1
    clear hbook hN hI hC
    go_wp2_with (fail)
    go_at_call 41
    refine (pCheckDues hd1.out).mono ?_
    rintro e w2 ⟨rfl, hB2⟩
    have hO2 := Lib.hid (hO.out.after hB2)
    replace hB2 := Lib.hid (hB1.out.trans (hB2.mono hB1.out.size))
    clear hO hd1 hB1
    by_cases h3 : chkL okD ltD d = 0
    · rw [h3]
      rw [h3] at hcc
      replace h3 := Lib.hid h3
      go_wp2
      go_ret2
      exact ⟨hB2.out, .inl ⟨hcc.out, h3.out, N, c, rfl, hO2.out⟩⟩
    · obtain ⟨r, hr⟩ : ∃ r, chkL okD ltD d = r := ⟨_, rfl⟩
      rw [hr] at hcc h3 ⊢
      have hne2 : (r != 0) = true := by simp [h3]
      replace h3 := Lib.hid h3
      clear hr
      go_wp2
      go_ret2
      exact ⟨hB2.out, .inr ⟨by rw [hcc.out]; exact h3.out, by rw [hcc.out]; rfl⟩⟩
  · have hcc := Lib.hid (compCode_no (d := d) hne)
    obtain ⟨i, hi⟩ : ∃ i, (check l).1 = i := ⟨_, rfl⟩
    obtain ⟨r, hr⟩ : ∃ r, (check l).2 = r := ⟨_, rfl⟩
    rw [hi, hr]
    rw [hr] at hcc hne
    have hne2 : (r != 0) = true := by simp [hne]
    replace hne := Lib.hid hne
    replace hB1 := Lib.hid hB1
    clear hi hr hnb
    go_wp2
    go_ret2
    exact ⟨hB1.out, .inr ⟨by rw [hcc.out]; exact hne.out, by rw [hcc.out]; rfl⟩⟩

/-- a list of dues, or why there is none -/
def DuesE (code : Int) (l : List Due) (w : World) (e : Ending) (w' : World) : Prop :=
  Below w.heap.size w w' ∧ ((code ≠ 0 ∧ e = .returned (.tuple #[.slice none 0 0, .int .i64 code])) ∨
    (code = 0 ∧ ∃ v, e = .returned (.tuple #[v, .int .i64 0]) ∧ (∃ ao cap, v = .slice ao l.length cap) ∧ w'.ownsRow w.heap.size 63 3 v l.length (flat dcells l)))

set_option maxRecDepth 100000 in
set_option maxHeartbeats 2000000 in
theorem pOver {l : List Post} {d : List Due} {n cap n2 cap2 : Nat} {ao ao2 : Option Addr} {B : Nat} {w : World} (h : LIn l n cap ao B w) (hd : DIn d n2 cap2 ao2 B w) :
    Calls Tryz.prog 47 #[.slice ao n cap, .slice ao2 n2 cap2] w (DuesE (compCode l d) (overL l d) w) := by
  go_enter Tryz.func47, Tryz.ntmps47
  go_wp2_with (fail)
  go_at_call 106
  refine (pdues h hd).mono ?_
  rintro e w1 ⟨hB1, ⟨hcc, h3, N, c, rfl, hO⟩ | ⟨hne, rfl⟩⟩
  · have hd1 := Lib.hid (hd.after hB1)
    replace hB1 := Lib.hid hB1
    replace hO := Lib.hid hO
    replace hcc := Lib.hid hcc
    replace h3 := Lib.hid h3
    go_wp2_with (fail)
    go_at_call 63
    refine (pover hO.out.1 hO.out.2.1 hO.out.2.2 hd1.out (okD_amount h3.out)).mono ?_
    rintro e w2 ⟨hB2, v, rfl, hv, hown⟩
    replace hB2 := Lib.hid hB2
    replace hv := Lib.hid hv
    replace hown := Lib.hid hown
    clear hO hd1 h3
    go_wp2
    go_ret2
    exact ⟨hB1.out.trans (hB2.out.mono hB1.out.size), .inr ⟨hcc.out, v, rfl, hv.out, own_base hown.out hB1.out.size⟩⟩
  · obtain ⟨r, hr⟩ : ∃ r, compCode l d = r := ⟨_, rfl⟩
    have hres : Hid (DuesE (compCode l d) (overL l d) w (.returned (.tuple #[.slice none 0 0, .int .i64 r])) w1) := ⟨hB1, .inl ⟨hne, by rw [hr]⟩⟩
    rw [hr] at hne ⊢
    have hne2 : (r != 0) = true := by simp [hne]
    replace hne := Lib.hid hne
    clear hr hB1
    go_wp2
    go_ret2
    exact hres.out

def settledB (l : List Post) (d : List Due) : Bool := ((openL l d).length == 0) && ((overL l d).length == 0)
/-- Settled's answer -/
def SettledRes (l : List Post) (d : List Due) (w : World) (e : Ending) (w' : World) : Prop :=
  Below w.heap.size w w' ∧ e = .returned (.tuple #[.bool (if compCode l d = 0 then settledB l d else false), .int .i64 (compCode l d)])

set_option maxRecDepth 100000 in
set_option maxHeartbeats 2000000 in
theorem pSettled {l : List Post} {d : List Due} {n cap n2 cap2 : Nat} {ao ao2 : Option Addr} {B : Nat} {w : World} (h : LIn l n cap ao B w) (hd : DIn d n2 cap2 ao2 B w) :
    Calls Tryz.prog 49 #[.slice ao n cap, .slice ao2 n2 cap2] w (SettledRes l d w) := by
  go_enter Tryz.func49, Tryz.ntmps49
  go_wp2_with (fail)
  go_at_call 106
  refine (pdues h hd).mono ?_
  rintro e w1 ⟨hB1, ⟨hcc, h3, N, c, rfl, hO⟩ | ⟨hne, rfl⟩⟩
  · have hd1 := Lib.hid (hd.after hB1)
    replace hB1 := Lib.hid hB1
    replace hO := Lib.hid hO
    replace hcc := Lib.hid hcc
    replace h3 := Lib.hid h3
    go_wp2_with (fail)
    go_at_call 65
    refine (popen hO.out.1 hO.out.2.1 hO.out.2.2 hd1.out (okD_amount h3.out)).mono ?_
    rintro e w2 ⟨hB2, v, rfl, ⟨ao3, cap3, rfl⟩, hown⟩
    have hO2 := Lib.hid (hO.out.after hB2)
    have hd2 := Lib.hid (hd1.out.after hB2)
    replace hB2 := Lib.hid (hB1.out.trans (hB2.mono hB1.out.size))
    clear hO hd1 hB1 hown
    obtain ⟨k, hk⟩ : ∃ k, (openL l d).length = k := ⟨_, rfl⟩
    rw [hk]
    replace hk := Lib.hid hk
    by_cases hk0 : k = 0
    · subst hk0
      go_wp2_with (fail)
      go_at_call 63
      refine (pover hO2.out.1 hO2.out.2.1 hO2.out.2.2 hd2.out (okD_amount h3.out)).mono ?_
      rintro e w3 ⟨hB3, v, rfl, ⟨ao4, cap4, rfl⟩, hown⟩
      replace hB3 := Lib.hid (hB2.out.trans (hB3.mono hB2.out.size))
      clear hO2 hd2 hown hB2
      obtain ⟨m, hm⟩ : ∃ m, (overL l d).length = m := ⟨_, rfl⟩
      rw [hm]
      replace hm := Lib.hid hm
      have hres : Hid ((if compCode l d = 0 then settledB l d else false) = (m == 0)) := by
        show _ = _; rw [if_pos hcc.out]; unfold settledB; rw [hk.out, hm.out]; rfl
      by_cases hm0 : m = 0
      · subst hm0
        go_wp2
        go_ret2
        exact ⟨hB3.out, by rw [hres.out, hcc.out]; rfl⟩
      · have hm1 : ((m : Int) == 0) = false := by simp; omega
        have hm2 : (m == 0) = false := by simp [hm0]
        replace hm0 := Lib.hid hm0
        rw [hm2] at hres
        clear hm2
        go_wp2
        go_ret2
        exact ⟨hB3.out, by rw [hres.out, hcc.out]; rfl⟩
    · have hk1 : ((k : Int) == 0) = false := by simp; omega
      have hres : Hid ((if compCode l d = 0 then settledB l d else false) = false) := by
        show _ = _; rw [if_pos hcc.out]; unfold settledB; rw [hk.out]
        have : (k == 0) = false := by simp [hk0]
        rw [this]; rfl
      replace hk0 := Lib.hid hk0
      clear hO2 hd2
      go_wp2
      go_ret2
      exact ⟨hB2.out, by rw [hres.out, hcc.out]; rfl⟩
  · obtain ⟨r, hr⟩ : ∃ r, compCode l d = r := ⟨_, rfl⟩
    have hres : Hid (SettledRes l d w (.returned (.tuple #[.bool false, .int .i64 r])) w1) := ⟨hB1, by rw [if_neg hne, hr]⟩
    rw [hr] at hne ⊢
    have hne2 : (r != 0) = true := by simp [hne]
    replace hne := Lib.hid hne
    clear hr hB1
    go_wp2
    go_ret2
    exact hres.out
end Go.Proofs.YtoijlikmigejbaaGreat

namespace Go.Proofs.YtoijlikmigejbaaGreat
open Go.RowKit Go.Proofs.YtoijlikmigejbaaGreat.Pu

def ledgerL : List Post := [⟨1, 5, 1, 0, 10, 1000, 3, 4⟩, ⟨2, 6, 2, 7, 10, 400, 4, 5⟩, ⟨3, 9, 2, 8, 10, 100, 4, 5⟩, ⟨4, 12, 3, 7, 10, 150, 9, 11⟩]
def exD : List Due := [⟨7, 10, 300⟩, ⟨9, 10, 500⟩]
def exC1 : List Cause := [⟨10, 9, 11⟩]
def exC2 : List Cause := [⟨10, 4, 5⟩]
def exS : List Post := [⟨5, 20, 3, 8, 10, 100, 9, 11⟩, ⟨6, 20, 2, 7, 10, 50, 9, 11⟩, ⟨7, 20, 2, 9, 10, 500, 9, 11⟩]
def exT : List Post := [⟨5, 20, 2, 7, 10, 50, 4, 5⟩, ⟨6, 20, 2, 9, 10, 500, 4, 5⟩]
theorem ex1 : numE (check ledgerL).2 (total ledgerL) = (650, 0) := by kernel_rfl
theorem ex2 : numE (askCode ledgerL 10 7) (Pu.has ledgerL 7 10) = (250, 0) := by kernel_rfl
theorem ex3 : someL (uptoP 8) ledgerL = [⟨1, 5, 1, 0, 10, 1000, 3, 4⟩, ⟨2, 6, 2, 7, 10, 400, 4, 5⟩] := by kernel_rfl
theorem ex4 : numE (askCode [⟨1, 5, 1, 0, 10, 1000, 3, 4⟩, ⟨2, 6, 2, 7, 10, 400, 4, 5⟩] 10 0) (Pu.held [⟨1, 5, 1, 0, 10, 1000, 3, 4⟩, ⟨2, 6, 2, 7, 10, 400, 4, 5⟩] 10) = (600, 0) := by kernel_rfl
theorem ex5 : appCode ledgerL ⟨5, 12, 3, 8, 10, 101, 9, 11⟩ = 70 := by kernel_rfl
theorem ex6 : appCode ledgerL ⟨5, 12, 3, 8, 10, 50, 4, 5⟩ = 71 := by kernel_rfl
theorem ex7 : settleCode ledgerL exD exC1 20 = 0 := by kernel_rfl
theorem ex7o : settleOut ledgerL exD exC1 20 = exS := by kernel_rfl
theorem ex8 : settleCode ledgerL exD exC2 20 = 0 := by kernel_rfl
theorem ex8o : settleOut ledgerL exD exC2 20 = exT := by kernel_rfl
theorem ex9 : compCode (ledgerL ++ exS) exD = 0 := by kernel_rfl
theorem ex9b : settledB (ledgerL ++ exS) exD = true := by kernel_rfl
theorem ledger_kinds : Kinds ledgerL := by
  intro p hp
  simp only [ledgerL, List.mem_cons, List.not_mem_nil, or_false] at hp
  rcases hp with rfl | rfl | rfl | rfl <;> decide
end Go.Proofs.YtoijlikmigejbaaGreat

namespace Go.Proofs.YtoijlikmigejbaaGreat
open Go.RowKit Go.Proofs.YtoijlikmigejbaaGreat.Pu

theorem own_row {w : World} {b T k n : Nat} {xs : List Value} (hb : w.heap[b]? = some (.cells xs.toArray T (0, 0))) (hl : xs.length = n * k) (hn : n ≤ maxLen) : w.ownsRow b T k (.slice (some ⟨b, 0, none⟩) n n) n xs :=
  ⟨hl, .inr ⟨b, n, xs.toArray, rfl, Nat.le_refl _, hb, Nat.le_refl _, hn, by simp [hl], by simp [← hl]⟩⟩
theorem Own.lin {base : Nat} {w : World} {ao : Option Addr} {n cap : Nat} {l : List Post} (h : Own 36 8 pcells base w ao n cap l) (hn : n = l.length) (hm : n ≤ 100000) (hk : Kinds l) : LIn l n cap ao w.heap.size w := by
  have hs := Own.slAt pcells_len (by omega) h
  refine ⟨hn, hm, ?_, hs, Nat.le_refl _, hk, ?_⟩
  · obtain ⟨_, hr | ⟨g, cap, cur, e1, e2, e3, e4, _⟩⟩ := h
    · rw [hr.2]; omega
    · cases e1; exact e4
  · intro ad had
    obtain ⟨_, hr | ⟨g, cap, cur, e1, e2, e3, e4, _⟩⟩ := h
    · have := hr.1; simp only [Value.slice.injEq] at this; rw [this.1] at had; cases had
    · cases e1; cases had; exact ⟨_, _, rfl⟩
theorem SIn.own {α : Type} {T k base : Nat} {enc : α → List Value} {w : World} {ao : Option Addr} {n cap : Nat} {l : List α} (hk : ∀ x, (enc x).length = k) (hk0 : 0 < k) (h : Own T k enc base w ao n cap l) (hn : n = l.length) (hm : n ≤ 100000) : SIn k enc l n cap ao w.heap.size w := by
  have hs := Own.slAt hk hk0 h
  refine ⟨hn, hm, ?_, hs, Nat.le_refl _⟩
  obtain ⟨_, hr | ⟨g, cap, cur, e1, e2, e3, e4, _⟩⟩ := h
  · rw [hr.2]; omega
  · cases e1; exact e4
theorem LIn.at {l : List Post} {n cap : Nat} {ao : Option Addr} {B B' : Nat} {w : World} (h : LIn l n cap ao B w) (hB : B ≤ B') (hB' : B' ≤ w.heap.size) : LIn l n cap ao B' w := ⟨h.hn, h.hm, h.hcap, h.hs.mono hB, hB', h.hk, h.had⟩
theorem SIn.at {α : Type} {k : Nat} {enc : α → List Value} {l : List α} {n cap : Nat} {ao : Option Addr} {B B' : Nat} {w : World} (h : SIn k enc l n cap ao B w) (hB : B ≤ B') (hB' : B' ≤ w.heap.size) : SIn k enc l n cap ao B' w := ⟨h.hn, h.hm, h.hcap, h.hs.mono hB, hB'⟩
theorem ccells_len (c : Cause) : (ccells c).length = 3 := rfl

theorem pledger (w : World) : Calls Tryz.prog 54 #[] w fun e w' => e = .returned (.slice (some ⟨w.heap.size, 0, none⟩) 4 4) ∧ w.alloc (.cells (flat pcells ledgerL).toArray 36) = w' := by
  go_enter Tryz.func54, Tryz.ntmps54
  go_wp2
  go_ret
  exact ⟨rfl, rfl⟩

theorem ex_D (w : World) : DIn exD 2 2 (some ⟨w.heap.size, 0, none⟩) (w.alloc (.cells (flat dcells exD).toArray 63)).heap.size (w.alloc (.cells (flat dcells exD).toArray 63)) :=
  SIn.own dcells_len (by omega) (own_row (heap_alloc_new w _) rfl (by unfold maxLen; omega)) rfl (by omega)
theorem ex_C (w : World) (cs : List Cause) (n : Nat) (hn : n = cs.length) (hm : n ≤ 1000) : CIn cs n n (some ⟨w.heap.size, 0, none⟩) (w.alloc (.cells (flat ccells cs).toArray 71)).heap.size (w.alloc (.cells (flat ccells cs).toArray 71)) :=
  SIn.own ccells_len (by omega) (own_row (heap_alloc_new w _) (by rw [flat_length ccells_len, hn]) (by unfold maxLen; omega)) hn (by omega)
/-- the examples hold -/
def PursesRes (w : World) (e : Ending) (w' : World) : Prop := e = .returned (.bool true) ∧ Below w.heap.size w w'
/-- what stays through the examples -/
structure Pst (w0 : World) (b : Nat) (w : World) : Prop where
  l : LIn ledgerL 4 4 (some ⟨b, 0, none⟩) w.heap.size w
  b : Below w0.heap.size w0 w
theorem Pst.after {w0 w w' : World} {b : Nat} (h : Pst w0 b w) (hB : Below w.heap.size w w') : Pst w0 b w' := ⟨(h.l.after hB).at hB.size (Nat.le_refl _), h.b.trans (hB.mono h.b.size)⟩

set_option maxRecDepth 100000 in
set_option maxHeartbeats 8000000 in
theorem ppurses (w : World) : Calls Tryz.prog 11 #[] w (PursesRes w) := by
  go_enter Tryz.func11, Tryz.ntmps11
  go_wp2_with (fail)
  go_at_call 54
  refine (pledger w).mono ?_
  rintro e w1 ⟨rfl, hw1⟩
  have hP : Hid (Pst w w.heap.size w1) := by
    have hown : w1.ownsRow w.heap.size 36 8 (.slice (some ⟨w.heap.size, 0, none⟩) 4 4) 4 (flat pcells ledgerL) := own_row (by rw [← hw1]; exact heap_alloc_new w _) rfl (by unfold maxLen; omega)
    exact ⟨Own.lin hown rfl (by omega) ledger_kinds, by rw [← hw1]; exact (Below.refl _ _).alloc (Nat.le_refl _) _⟩
  obtain ⟨b, hb⟩ : ∃ b, w.heap.size = b := ⟨_, rfl⟩
  rw [hb] at hP ⊢
  clear hw1 hb
  go_wp2_with (fail)
  go_at_call 32
  refine (pHeld hP.out.l).mono ?_
  rintro e w2 hr
  rw [ex1] at hr
  obtain ⟨rfl, hB2⟩ := hr
  replace hP := Lib.hid (hP.out.after hB2)
  clear hB2
  go_wp2_with (fail)
  go_at_call 30
  refine (pHas hP.out.l 7 10).mono ?_
  rintro e w3 hr
  rw [ex2] at hr
  obtain ⟨rfl, hB3⟩ := hr
  replace hP := Lib.hid (hP.out.after hB3)
  clear hB3
  go_wp2_with (fail)
  go_at_call 36
  refine (pUpto hP.out.l 8).mono ?_
  rintro e w4 ⟨hB4, ao4, cap4, rfl, hown4⟩
  rw [ex3] at hown4 ⊢
  have hL2 := Lib.hid (Own.lin hown4 rfl (by simp) (fun p hp => ledger_kinds p (by simp only [ledgerL, List.mem_cons, List.not_mem_nil, or_false] at hp ⊢; rcases hp with h | h <;> simp [h])))
  replace hP := Lib.hid (hP.out.after hB4)
  clear hB4 hown4
  go_wp2_with (fail)
  go_at_call 34
  refine (pHeldOf hL2.out 10).mono ?_
  rintro e w5 hr
  rw [ex4] at hr
  obtain ⟨rfl, hB5⟩ := hr
  replace hP := Lib.hid (hP.out.after hB5)
  clear hB5 hL2
  go_wp2_with (fail)
  go_at_call 55
  refine (hP.out.l.pAppend ⟨5, 12, 3, 8, 10, 101, 9, 11⟩ (by decide)).mono ?_
  rintro e w6 ⟨hB6, ⟨h1, rfl⟩ | ⟨h1, _⟩⟩
  case inr => rw [ex5] at h1; omega
  rw [ex5]
  clear h1
  replace hP := Lib.hid (hP.out.after hB6)
  clear hB6
  go_wp2_with (fail)
  go_at_call 55
  refine (hP.out.l.pAppend ⟨5, 12, 3, 8, 10, 50, 4, 5⟩ (by decide)).mono ?_
  rintro e w7 ⟨hB7, ⟨h1, rfl⟩ | ⟨h1, _⟩⟩
  case inr => rw [ex6] at h1; omega
  rw [ex6]
  clear h1
  replace hP := Lib.hid (hP.out.after hB7)
  clear hB7
  go_wp2_with (fail)
  have hD := Lib.hid (ex_D w7)
  have hC := Lib.hid (ex_C (w7.alloc (.cells (flat dcells exD).toArray 63)) exC1 1 rfl (by omega))
  rw [show (w7.alloc (.cells (flat dcells exD).toArray 63)).heap.size = w7.heap.size + 1 by simp] at hC hD
  have hB8 : Below w7.heap.size w7 ((w7.alloc (.cells (flat dcells exD).toArray 63)).alloc (.cells (flat ccells exC1).toArray 71)) := ((Below.refl _ _).alloc (Nat.le_refl _) _).alloc (by simp) _
  have hs8 : ((w7.alloc (.cells (flat dcells exD).toArray 63)).alloc (.cells (flat ccells exC1).toArray 71)).heap.size = w7.heap.size + 2 := by simp
  have hD2 := Lib.hid ((hD.out.after ((Below.refl (w7.alloc (.cells (flat dcells exD).toArray 63)).heap.size _).alloc (Nat.le_refl _) (.cells (flat ccells exC1).toArray 71))).at (B' := w7.heap.size + 2) (by omega) (by rw [hs8]; exact Nat.le_refl _))
  have hC2 := Lib.hid (hC.out.at (B' := w7.heap.size + 2) (by rw [hs8]; exact Nat.le_refl _) (by rw [hs8]; exact Nat.le_refl _))
  replace hP := Lib.hid (hP.out.after hB8)
  obtain ⟨w8, hw8⟩ : ∃ w8, (w7.alloc (.cells (flat dcells exD).toArray 63)).alloc (.cells (flat ccells exC1).toArray 71) = w8 := ⟨_, rfl⟩
  rw [hw8] at hs8 hP hD2 hC2
  obtain ⟨db, hdb⟩ : ∃ db, w7.heap.size = db := ⟨_, rfl⟩
  rw [hdb] at hD2 hC2 hs8 ⊢
  have hPl := Lib.hid (hP.out.l.at (B' := db + 2) (by omega) (by omega))
  clear hD hC hB8
  change Calls Tryz.prog 12 _ ((w7.alloc (.cells (flat dcells exD).toArray 63)).alloc (.cells (flat ccells exC1).toArray 71)) _
  rw [hw8]
  clear hw8 hdb
  refine (pSettle 20 ⟨hPl.out, hD2.out, hC2.out⟩).mono ?_
  rintro e w9 ⟨hB9, ⟨h1, _⟩ | ⟨_, v9, rfl, ⟨ao9, cap9, rfl⟩, hown9⟩⟩
  case inl => exact absurd ex7 h1
  rw [ex7o] at hown9 ⊢
  replace hP := Lib.hid (hP.out.after hB9)
  have hD9 := Lib.hid (hD2.out.after hB9)
  have hs9 : db + 2 ≤ w9.heap.size := by have := hB9.size; omega
  rw [show exS.length = 3 from rfl] at hown9 ⊢
  replace hown9 := Lib.hid (own_base hown9 (show 0 ≤ w8.heap.size from Nat.zero_le _))
  clear hB9 hD2 hC2 hPl hs8
  go_wp2_with (fail)
  have hC := Lib.hid (ex_C w9 exC2 1 rfl (by omega))
  have hBa : Below w9.heap.size w9 (w9.alloc (.cells (flat ccells exC2).toArray 71)) := (Below.refl _ _).alloc (Nat.le_refl _) _
  replace hP := Lib.hid (hP.out.after hBa)
  replace hD9 := Lib.hid (hD9.out.after hBa)
  replace hown9 := Lib.hid (own_after hown9.out hBa)
  change Calls Tryz.prog 12 _ (w9.alloc (.cells (flat ccells exC2).toArray 71)) _
  obtain ⟨wa, hwa⟩ : ∃ wa, w9.alloc (.cells (flat ccells exC2).toArray 71) = wa := ⟨_, rfl⟩
  have hsa : w9.heap.size + 1 = wa.heap.size := by rw [← hwa]; simp
  rw [hwa] at hC hP hD9 hown9 ⊢
  obtain ⟨cb, hcb⟩ : ∃ cb, w9.heap.size = cb := ⟨_, rfl⟩
  rw [hcb] at hC ⊢
  clear hwa hcb hBa
  refine (pSettle 20 ⟨hP.out.l, hD9.out.at (by omega) (Nat.le_refl _), hC.out⟩).mono ?_
  rintro e wb ⟨hBb, ⟨h1, _⟩ | ⟨_, vb, rfl, ⟨aob, capb, rfl⟩, hownb⟩⟩
  case inl => exact absurd ex8 h1
  rw [ex8o] at hownb ⊢
  replace hP := Lib.hid (hP.out.after hBb)
  replace hD9 := Lib.hid (hD9.out.after hBb)
  replace hown9 := Lib.hid (own_after hown9.out hBb)
  rw [show exT.length = 2 from rfl] at hownb ⊢
  have hsb : db + 2 ≤ wb.heap.size := by have := hBb.size; omega
  replace hownb := Lib.hid (own_base hownb (show 0 ≤ wa.heap.size from Nat.zero_le _))
  clear hBb hC hsa hs9
  obtain ⟨g9, cap9', e9⟩ := ownsRow_succ hown9.out
  obtain ⟨gb, capb', eb⟩ := ownsRow_succ hownb.out
  cases e9
  cases eb
  obtain ⟨i0, hi, hz0, hz1, hz2⟩ := info_parts infoPost
  have hBe : Below wb.heap.size wb (wb.alloc (.cells #[] 36)) := (Below.refl _ _).alloc (Nat.le_refl _) _
  have hn1 := Lib.hid ((hP.out.after hBe).l.hs.news pcells_len)
  have hlt9 := Lib.hid (hown9.out.lt g9 rfl)
  have hltb := Lib.hid (hownb.out.lt gb rfl)
  have ho9 := Lib.hid (own_after hown9.out hBe)
  go_wp2_with (first
    | (at_builtin; refine wpList_append_own_at _ rfl _ _ 22 rfl wb.heap.size 36 i0 (pval zeroP) 8 64 Tryz.underlying22 hi hz0 hz1 hz2 rfl (by decide) _ 0 [] rfl (own_empty wb _ _) ⟨b, 0, none⟩ 4 4 (flat pcells ledgerL) rfl rfl hn1.out (flat_cell pcells_cell _) (by unfold maxLen; omega) (by omega) (by simp) ?_
       intro v2 wc hown2 hgrow2 _ _
       have HB2 := Lib.hid (hBe.grown hgrow2 (by simp) (fun k hk => by cases hk; exact Nat.le_refl _))
       have ho92 := Lib.hid (own_after hown9.out HB2.out)
       have hn2 := Lib.hid (SlAt.news pcells_len (Own.slAt pcells_len (by omega) ho92.out))
       obtain ⟨g2, cap2, rfl⟩ := ownsRow_succ hown2
       replace hown2 := Lib.hid (show wc.ownsRow wb.heap.size 36 8 (.slice (some ⟨g2, 0, none⟩) 4 cap2) 4 (flat pcells ledgerL) from hown2)
       clear hgrow2)
    | (at_builtin; refine wpList_append_own_at _ rfl _ _ 22 rfl wb.heap.size 36 i0 (pval zeroP) 8 64 Tryz.underlying22 hi hz0 hz1 hz2 rfl (by decide) _ 4 (flat pcells ledgerL) rfl hown2.out ⟨g9, 0, none⟩ 3 _ (flat pcells exS) rfl rfl hn2.out (flat_cell pcells_cell _) (by unfold maxLen; omega) (by omega) (by have := HB2.out.size; omega) ?_
       intro v3 wd hown3 hgrow3 _ _
       have HB3 := Lib.hid (HB2.out.grown hgrow3 HB2.out.size (own_far hown2.out))
       obtain ⟨g3, cap3, rfl⟩ := ownsRow_succ hown3
       have hL3 : Hid (LIn (ledgerL ++ exS) 7 cap3 (some ⟨g3, 0, none⟩) wd.heap.size wd) := by
         have h1 : wd.ownsRow wb.heap.size 36 8 (.slice (some ⟨g3, 0, none⟩) 7 cap3) 7 (flat pcells (ledgerL ++ exS)) := by rw [flat_app]; exact hown3
         exact Own.lin h1 rfl (by omega) (fun p hp => by
           rcases List.mem_append.1 hp with h | h
           · exact ledger_kinds p h
           · simp only [exS, List.mem_cons, List.not_mem_nil, or_false] at h
             rcases h with rfl | rfl | rfl <;> decide)
       have hD3 := Lib.hid ((hD9.out.after HB3.out).at (B' := wd.heap.size) (by have := HB3.out.size; omega) (Nat.le_refl _))
       clear hown3 hgrow3))
  refine (pSettled hL3.out hD3.out).mono ?_
  rintro e we ⟨hBx, rfl⟩
  rw [ex9, ex9b, if_pos rfl]
  have HB4 := Lib.hid (HB3.out.trans (hBx.mono HB3.out.size))
  have ha := Lib.hid (SlAt.news pcells_len (Own.slAt pcells_len (by omega) (own_after hown9.out HB4.out)))
  have hbn := Lib.hid (SlAt.news pcells_len (Own.slAt pcells_len (by omega) (own_after hownb.out HB4.out)))
  have s2 : we.cell? ⟨g9, 2, none⟩ = some (.int .u8 3) := ha.out 2 _ rfl
  have s5 : we.cell? ⟨g9, 5, none⟩ = some (.int .i64 100) := ha.out 5 _ rfl
  have t5 : we.cell? ⟨gb, 13, none⟩ = some (.int .i64 500) := hbn.out 13 _ rfl
  have hc9 : 3 ≤ cap9 := by
    obtain ⟨_, hr | ⟨g, cap, cur, e1, e2, e3, e4, _⟩⟩ := hown9.out
    · omega
    · cases e1; exact e4
  have hcb : 2 ≤ capb := by
    obtain ⟨_, hr | ⟨g, cap, cur, e1, e2, e3, e4, _⟩⟩ := hownb.out
    · omega
    · cases e1; exact e4
  have hfin := Lib.hid (hP.out.b.trans (HB4.out.mono hP.out.b.size))
  clear hP hD9 hown9 hownb hn1 hlt9 hltb ho9 ho92 hn2 hown2 hL3 hD3 hBx ha hbn hBe HB2 HB3 HB4
  go_wp2
  go_ret
  exact ⟨rfl, hfin.out⟩
end Go.Proofs.YtoijlikmigejbaaGreat
