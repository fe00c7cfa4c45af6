/- Walks: OfParcel, Sold. -/
import Derived.Test.YtoijlikmigejbaaGreatCRhB
namespace Go.Proofs.YtoijlikmigejbaaGreat
open Go.RowKit Go.Proofs.YtoijlikmigejbaaGreat.Pu

theorem wants_ofpar (Bh : Nat) (what : Int) (w : World) (hB : Bh < w.heap.size) (hc : w.cell? ⟨Bh, 0, none⟩ = some (.int .i64 what)) : Wants 92 #[.pointer (some ⟨Bh, 0, none⟩)] (ofParP what) w := by
  intro p W hW
  have hcW := (hW.cell (p := ⟨Bh, 0, none⟩) hB).trans hc
  have hlt : Bh < W.heap.size := Nat.lt_of_lt_of_le hB hW.size
  go_enter Tryz.func92, Tryz.ntmps92
  go_wp2
  go_ret
  exact ⟨rfl, (Below.refl _ _).alloc (Nat.le_refl _) _⟩
theorem enter_ofpar (args : Array Value) (w : World) : (callFunc 92 args).run Tryz.prog w = .ok (.enter 92 args) w := enters_of Tryz.func92 (by kernel_rfl) rfl args w

set_option maxRecDepth 100000 in
set_option maxHeartbeats 1000000 in
theorem pOfParcel {l : List Post} {n cap : Nat} {ao : Option Addr} {B : Nat} {w : World} (h : LIn l n cap ao B w) (what : Int) :
    Calls Tryz.prog 38 #[.slice ao n cap, .int .i64 what] w (SomeRes (ofParP what) l w) := by
  have hmf : ∀ (fn : Fn) (first cap : Array Value) (w : World), (Instr.makeFunc fn first cap).run Tryz.prog w = .ok (.func fn first cap) w := fun _ _ _ _ => rfl
  have hl : l.length ≤ 1000000 := by have := h.hn; have := h.hm; omega
  have h3 := ((h.alloc (.cells #[.int .i64 what] 3)).alloc (.cells #[.slice ao n cap] 22)).alloc (.cells #[.func (.func 92) #[] #[.pointer (some ⟨w.heap.size, 0, none⟩)]] 103)
  have hb3 := Lib.hid ((((Below.refl w.heap.size w).alloc (Nat.le_refl _) (.cells #[.int .i64 what] 3)).alloc (by simp) (.cells #[.slice ao n cap] 22)).alloc (by simp; omega) (.cells #[.func (.func 92) #[] #[.pointer (some ⟨w.heap.size, 0, none⟩)]] 103))
  replace h3 := Lib.hid h3
  have h4 := three_cells w (.int .i64 what) (.slice ao n cap) (.func (.func 92) #[] #[.pointer (some ⟨w.heap.size, 0, none⟩)]) 3 22 103
  replace h4 := Lib.hid h4
  go_enter Tryz.func38, Tryz.ntmps38
  go_wp2_with (go_at_call 74; refine (psome _ _ _ rfl rfl ⟨_, _, _, rfl⟩ ⟨_, _, _, rfl⟩).mono ?_; rintro e w2 ⟨rfl, rfl⟩)
  go_at_call 90
  refine (someCollect h3.out hl (w.heap.size + 1) (w.heap.size + 1 + 1) 92 #[.pointer (some ⟨w.heap.size, 0, none⟩)] (ofParP what) enter_ofpar (wants_ofpar w.heap.size what _ (by rw [h4.out.1]; omega) h4.out.2.1) (by rw [h4.out.1]; omega) h4.out.2.2.1 (by rw [h4.out.1]; omega) h4.out.2.2.2).mono ?_
  rintro e w2 ⟨hB2, ao2, cap2, rfl, hown⟩
  go_wp2
  go_ret
  refine ⟨hb3.out.trans (hB2.mono hb3.out.size), ao2, cap2, rfl, own_base hown hb3.out.size⟩

set_option maxRecDepth 100000 in
set_option maxHeartbeats 2000000 in
theorem pSold {l : List Post} {n cap : Nat} {ao : Option Addr} {B : Nat} {w : World} (h : LIn l n cap ao B w) (what : Int) :
    Calls Tryz.prog 28 #[.slice ao n cap, .int .i64 what] w (RetII (soldQ l what) w) := by
  go_enter Tryz.func28, Tryz.ntmps28
  go_wp2_with (fail)
  go_at_call 73
  refine (pasked h what 0).mono ?_
  rintro e w1 ⟨hB1, ⟨hbook, hc, N, c, rfl, hN, hI, hC⟩ | ⟨hne, rfl⟩⟩
  · have hsl : getM c.sold what = if Pu.sold l what = 0 then none else some (Pu.sold l what) := hI.sold what
    obtain ⟨sv, hsv⟩ : ∃ sv, Pu.sold l what = sv := ⟨_, rfl⟩
    have hr : Hid (soldQ l what = if sv = 0 then (0, 5) else (sv, 0)) := by show _ = _; unfold soldQ; rw [if_pos hc, hsv]
    rw [hsv] at hsl
    have hl := run_lookupM (w := w1) intKey Tryz.underlying77 zeroInt hC.sold what true
    rw [hsl] at hl
    have hB := Lib.hid hB1
    have c5 := hC.c3
    clear hbook hc hN hI hC hB1 hsv hsl
    by_cases h0 : sv = 0
    · subst h0
      rw [if_pos rfl] at hl hr
      replace hl : (Instr.lookup 77 (.map (some (N + 1))) (.int .i64 what) true).run Tryz.prog w1 = .ok (.tuple #[.int .i64 0, .bool false]) w1 := hl
      go_wp2
      go_ret2
      exact ⟨by rw [hr.out]; rfl, hB.out⟩
    · rw [if_neg h0] at hl hr
      replace hl : (Instr.lookup 77 (.map (some (N + 1))) (.int .i64 what) true).run Tryz.prog w1 = .ok (.tuple #[.int .i64 sv, .bool true]) w1 := hl
      replace h0 := Lib.hid h0
      go_wp2
      go_ret2
      exact ⟨by rw [hr.out]; rfl, hB.out⟩
  · obtain ⟨r, hr0⟩ : ∃ r, askCode l what 0 = r := ⟨_, rfl⟩
    have hr : Hid (soldQ l what = (0, r)) := by show _ = _; rw [← hr0]; unfold soldQ; rw [if_neg hne]
    rw [hr0] at hne ⊢
    have hne2 : (r != 0) = true := by simp [hne]
    replace hB1 := Lib.hid hB1
    clear hr0 hne
    go_wp2
    go_ret2
    exact ⟨by rw [hr.out]; rfl, hB1.out⟩
end Go.Proofs.YtoijlikmigejbaaGreat
