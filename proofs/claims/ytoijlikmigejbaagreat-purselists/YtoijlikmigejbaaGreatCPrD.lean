/- Walk: Reasons. -/
import Derived.Test.YtoijlikmigejbaaGreatCSomB
import Derived.Test.YtoijlikmigejbaaGreatCRhB
namespace Go.Proofs.YtoijlikmigejbaaGreat
open Go.RowKit Go.Shelf Go.Proofs.YtoijlikmigejbaaGreat.Pu
attribute [local go_sem] Oper.semAt_some

theorem ownFrom_but {β : Type} {n ob B : Nat} {w0 : World} (hn : n ≤ w0.heap.size) (hB : n ≤ B) : OwnFrom B (fun (_ : β) W => BelowBut n ob w0 W) := fun _ X _ _ hs hg hr =>
  hs.trans (BelowBut.of_below ((Below.refl n X).grown hg (Nat.le_trans hn hs.size) (fun k e => Nat.le_trans hB (hr k e).1)))
theorem appended_but {W w1 : World} {n₀ B : Nat} {t e : TypeId} {size : Nat} {v v' : Value} {k m : Nat} {xs ys : List Value} {tmp : Obj}
    (hv : Boxed W B t v) (hte : t ≠ e) (hrow : W.ownsRow n₀ e size v k xs) (hn₀ : n₀ ≤ W.heap.size)
    (hown' : w1.ownsRow n₀ e size v' m ys) (hgrow : (W.alloc tmp).grownBy w1 v.ownBlock) :
    Boxed w1 B t v ∧ Boxed (w1.setCell ⟨B, 0, none⟩ v') B t v' ∧ (w1.setCell ⟨B, 0, none⟩ v').ownsRow n₀ e size v' m ys ∧ KeepsOthers W (w1.setCell ⟨B, 0, none⟩ v') ∧ BelowBut n₀ B W (w1.setCell ⟨B, 0, none⟩ v') := by
  have hv1 : Boxed w1 B t v := (hv.alloc tmp).kept hgrow (hv.not_row hte hrow)
  refine ⟨hv1, hv1.set v', hown'.kept (grownBy_setCell' w1 B v') (.inr (hv1.not_row hte hown').symm), ?_, ?_⟩
  · refine ((KeepsOthers.alloc W tmp).trans (KeepsOthers.of_grownBy hgrow fun j o ej hj => ?_)).trans (KeepsOthers.setCell _ _ _)
    rcases (hrow.alloc tmp).2 with ⟨rfl, _⟩ | ⟨g, cap, cur, rfl, _, hgb, _⟩
    · simp [Value.ownBlock] at ej
    · obtain rfl : g = j := by simpa [Value.ownBlock] using ej
      rw [hgb] at hj; cases hj; rfl
  · refine (BelowBut.of_below (((Below.refl n₀ W).alloc hn₀ tmp).grown hgrow (by simp; omega) fun j ej => ?_)).trans ?_
    · rcases hrow.2 with ⟨rfl, _⟩ | ⟨g, cap, cur, rfl, hb, _, _⟩
      · simp [Value.ownBlock] at ej
      · obtain rfl : g = j := by simpa [Value.ownBlock] using ej
        exact hb
    · have hg := grownBy_setCell' w1 B v'
      exact ⟨rfl, rfl, rfl, hg.size, fun i _ hne => heap_setCell_other w1 ⟨B, 0, none⟩ i v' hne⟩
theorem wants_reas (b1 ob : Nat) (who what : Int) (w : World) (h1 : b1 + 1 < w.heap.size) (hob : b1 + 1 < ob) (c1 : w.cell? ⟨b1, 0, none⟩ = some (.int .i64 who)) (c2 : w.cell? ⟨b1 + 1, 0, none⟩ = some (.int .i64 what)) :
    WantsO ob 75 #[.pointer (some ⟨b1, 0, none⟩), .pointer (some ⟨b1 + 1, 0, none⟩)] (reasP who what) w := by
  intro p W hW
  have g1 := (hW.cell (o := 0) (show b1 < w.heap.size by omega) (by omega)).trans c1
  have g2 := (hW.cell (o := 0) h1 (by omega)).trans c2
  have hlt : b1 + 1 < W.heap.size := Nat.lt_of_lt_of_le h1 hW.size
  have hlt0 : b1 < W.heap.size := by omega
  have hBa := Lib.hid ((Below.refl W.heap.size W).alloc (Nat.le_refl _) (pobj p))
  obtain ⟨t1, ht1⟩ : ∃ t, (p.kind != 1) = t := ⟨_, rfl⟩
  obtain ⟨t2, ht2⟩ : ∃ t, (p.party == who) = t := ⟨_, rfl⟩
  obtain ⟨t3, ht3⟩ : ∃ t, (p.parcel == what) = t := ⟨_, rfl⟩
  have hP : Hid (reasP who what p = (t1 && t2 && t3)) := by show _ = _; unfold reasP; rw [ht1, ht2, ht3]
  clear hW c1 c2 h1 hob
  cases t1
  · go_enter Tryz.func75, Tryz.ntmps75
    go_wp2
    go_ret
    exact ⟨ret_bool hP.out.symm, hBa.out⟩
  · cases t2
    · go_enter Tryz.func75, Tryz.ntmps75
      go_wp2
      go_ret
      exact ⟨ret_bool hP.out.symm, hBa.out⟩
    · cases t3
      all_goals
        go_enter Tryz.func75, Tryz.ntmps75
        go_wp2
        go_ret
        exact ⟨ret_bool hP.out.symm, hBa.out⟩

set_option maxRecDepth 100000 in
set_option maxHeartbeats 4000000 in
theorem pReasons {l : List Post} {n cap : Nat} {ao : Option Addr} {B : Nat} {w : World} (h : LIn l n cap ao B w) (who what : Int) :
    Calls Tryz.prog 15 #[.slice ao n cap, .int .i64 who, .int .i64 what] w (RowE 3 1 icells (reasQ l who what) (askCode l what who) w) := by
  have hmf : ∀ (fn : Fn) (first cap : Array Value) (w : World), (Instr.makeFunc fn first cap).run Tryz.prog w = .ok (.func fn first cap) w := fun _ _ _ _ => rfl
  refine (callsIn_wide (n := 4)).1 ?_
  have hl2 := (h.alloc (.cells #[.int .i64 who] 3)).alloc (.cells #[.int .i64 what] 3)
  obtain ⟨hx1, hx2, hx3⟩ := two_boxes w (.int .i64 who) (.int .i64 what) 3 3
  have hB0 : Below w.heap.size w ((w.alloc (.cells #[.int .i64 who] 3)).alloc (.cells #[.int .i64 what] 3)) := ((Below.refl _ _).alloc (Nat.le_refl _) _).alloc (by simp) _
  have hask := Lib.hid (pasked hl2 what who)
  refine callsIn_of_wp_marks Tryz.func15 rfl trivial ?_ rfl
  simp only [Tryz.ntmps15, List.size_toArray, List.length_cons, List.length_nil, Nat.reduceAdd, Nat.reduceSub, Array.replicate_succ, Array.replicate_zero, List.push_toArray, List.append_toArray, List.nil_append, List.cons_append]
  gi_wp2_with (fail)
  refine ⟨trivial, ?_⟩
  refine (callsIn_wide.2 hask.out).mono ?_
  clear hask
  rintro e w1 ⟨hB1, ⟨hbook, hc, N, c, rfl, hN, hI, hC⟩ | ⟨hne, rfl⟩⟩
  case inr =>
    obtain ⟨r, hr0⟩ : ∃ r, Hid (askCode l what who = r) := ⟨_, rfl⟩
    have hq : Hid (reasQ l who what = []) := by show _ = _; unfold reasQ; rw [if_neg hne]
    rw [hr0.out] at hne ⊢
    have hne2 : (r != 0) = true := by simp [hne]
    have hBB := Lib.hid (hB0.trans (hB1.mono hB0.size))
    clear hne hB1 hB0
    gi_wp2
    refine ⟨_, results_tmp2 rfl _ _ _, ?_⟩
    exact ⟨hBB.out, none, 0, by rw [hq.out, hr0.out]; rfl, by rw [hq.out]; exact World.ownsRow_nil _ _ _ _⟩
  case inl =>
  have hq : Hid (reasQ l who what = reasL l who what) := by show _ = _; unfold reasQ; rw [if_pos hc]
  have hc' := Lib.hid hc
  have hsw := hB1.size
  rw [hx3] at hsw
  have g1 : w1.cell? ⟨w.heap.size, 0, none⟩ = some (.int .i64 who) := (hB1.cell (p := ⟨w.heap.size, 0, none⟩) (by show w.heap.size < _; omega)).trans hx1.cell
  have g2 : w1.cell? ⟨w.heap.size + 1, 0, none⟩ = some (.int .i64 what) := (hB1.cell (p := ⟨w.heap.size + 1, 0, none⟩) (by show w.heap.size + 1 < _; omega)).trans hx2.cell
  have hl1 := Lib.hid (hl2.after hB1)
  have hBB := Lib.hid (hB0.trans (hB1.mono hB0.size))
  obtain ⟨z, hz⟩ : ∃ z, w.heap.size = z := ⟨_, rfl⟩
  rw [hz] at hsw g1 g2 ⊢
  replace hbook := Lib.hid hbook
  clear hx1 hx2 hx3 hB1 hB0 hl2 hN hI hC hc
  have hrs : Hid (reasL l who what = (someL (reasP who what) l).map (·.reason)) := by show _ = _; unfold reasL; rw [someL_book (bookB_iff.2 (by rw [check_book hbook.out]))]
  gi_wp2_with (refine ⟨trivial, ?_⟩; gi_at_call 74; refine (callsIn_wide.2 (psome _ _ _ rfl rfl ⟨_, _, _, rfl⟩ ⟨_, _, _, rfl⟩)).mono ?_; rintro e w3 ⟨rfl, hw3⟩)
  obtain ⟨ob, hob⟩ : ∃ ob, w1.heap.size = ob := ⟨_, rfl⟩
  have hx : Boxed (w1.alloc (.cells #[.slice none 0 0] 32)) ob 32 (.slice none 0 0) := by rw [← hob]; exact Boxed.new w1 _ _
  have hB3 : Below w1.heap.size w1 w3 := by rw [← hw3]; exact ((((Below.refl _ w1).alloc (Nat.le_refl _) _).alloc (by simp) _).alloc (by simp; omega) _)
  have hsz : w3.heap.size = ob + 3 := by rw [← hw3, ← hob]; simp
  obtain ⟨q1, q2, q3⟩ := two_boxes (w1.alloc (.cells #[.slice none 0 0] 32)) (.slice ao n cap) (.func (.func 75) #[] #[.pointer (some ⟨z, 0, none⟩), .pointer (some ⟨z + 1, 0, none⟩)]) 22 103
  rw [hw3, show (w1.alloc (.cells #[.slice none 0 0] 32)).heap.size = ob + 1 by rw [← hob]; simp] at q1 q2
  have hbx : Boxed w3 ob 32 (.slice none 0 0) := by rw [← hw3]; exact (hx.alloc _).alloc _
  have hl3 := hl1.out.after hB3
  have g1' := (hB3.cell (p := ⟨z, 0, none⟩) (by show z < _; omega)).trans g1
  have g2' := (hB3.cell (p := ⟨z + 1, 0, none⟩) (by show z + 1 < _; omega)).trans g2
  have hBn := hl1.out.hB
  have hwant := Lib.hid (wants_reas z ob who what w3 (by omega) (by omega) g1' g2')
  have hseq := some_but ob 3 (by omega) (ob + 1) (ob + 2) hl3 75 _ (reasP who what) (by omega) (by omega) (enters_of Tryz.func75 (by kernel_rfl) rfl) hwant (by omega) q1.cell (by omega) q2.cell
  have hB13 := Lib.hid (hBB.out.trans (hB3.mono hBB.out.size))
  rw [hob]
  have hl400 : l.length ≤ 100000 := by have := Book.len hbook.out; omega
  obtain ⟨i0, hi, hz0, hz1, hz2⟩ := info_parts infoInt
  clear hw3 hx q1 q2 q3 g1' g2' hl3 hB3 hBB hl1 g1 g2 h
  refine wpIn_rangeFunc_ownH rfl (by omega) (gf := 117) (lb := #[.pointer (some ⟨ob + 1, 0, none⟩), .pointer (some ⟨ob + 1 + 1, 0, none⟩)]) rfl trivial (enters_of Tryz.func117 (by kernel_rfl) rfl) hseq KD.t (KD.b (Nat.le_refl _)) (Below.refl _ _) (fun _ => rfl)
    (fun pre W => (∃ v, Boxed W ob 32 v ∧ W.ownsRow w3.heap.size 3 1 v pre.length (flat icells (pre.map (·.reason))) ∧ True) ∧ BelowBut w3.heap.size ob w3 W)
    (fun _ _ _ => False)
    (OwnFrom.and (Own.from (holdsRow_own w3.heap.size ob 32 3 1 (fun pre : List Post => pre.length) (fun pre => flat icells (pre.map (·.reason))) (fun _ _ => True)) _) (ownFrom_but (Nat.le_refl _) (Nat.le_refl _)))
    (fun _ _ _ _ _ hs _ _ => hs)
    ⟨⟨_, hbx, World.ownsRow_nil _ _ _ _, trivial⟩, .of_below (Below.refl _ _)⟩
    (fun x a' W => ∃ Bx, ob < Bx ∧ W.heap[Bx]? = some (.cells (pcells x).toArray 36 (0, 0)) ∧ a' = { tmps := #[.slice ao n cap, .int .i64 who, .int .i64 what, undef, .pointer (some ⟨z, 0, none⟩), .pointer (some ⟨z + 1, 0, none⟩), .slice none 0 0, .int .i64 0, .pointer (some ⟨N + 5, 0, none⟩), .int .i64 0, .pointer (some ⟨ob, 0, none⟩), .pointer (some ⟨Bx, 0, none⟩), .tuple #[.pointer (some ⟨N + 5, 0, none⟩), .int .i64 0], .slice ao n cap, .int .i64 what, .int .i64 who, .tuple #[.pointer (some ⟨N + 5, 0, none⟩), .int .i64 0], .pointer (some ⟨N + 5, 0, none⟩), .int .i64 0, .int .i64 0, .bool false, undef, .slice ao n cap, .func (.func 75) #[] #[.pointer (some ⟨z, 0, none⟩), .pointer (some ⟨z + 1, 0, none⟩)], .func (.func 117) #[] #[.pointer (some ⟨ob + 1, 0, none⟩), .pointer (some ⟨ob + 1 + 1, 0, none⟩)], pval x, undef, undef, undef, undef, undef, undef], defers := [] })
    (fun x a' _ X Y row hs hg hr => by
      obtain ⟨Bx, h1, h2, h3⟩ := hs
      refine ⟨Bx, h1, (hg.block Bx (Array.getElem?_eq_some_iff.1 h2).1 (fun e => ?_)).trans h2, h3⟩
      obtain ⟨_, o, ho, hc⟩ := hr Bx e.symm
      rw [h2] at ho; cases ho; cases hc) ?assign ?body ?done ?stop
  case assign =>
    rintro l pre x W K ⟨⟨v, hv, hrow, _⟩, hB⟩ hK
    gi_wp2
    exact hK _ _ ((KeepsOthers.alloc _ _).from _) ⟨KeepsWalks.alloc _ _, .of_below ((Below.refl _ W).alloc hB.size _)⟩ ⟨⟨v, hv.alloc _, hrow.alloc _, trivial⟩, hB.alloc hB.size _⟩ ⟨W.heap.size, hv.lt, heap_alloc_new W _, rfl⟩
  case body =>
    rintro l' pre x a' W hl ⟨r, hr⟩ ⟨⟨v, hv, hrow, _⟩, hB⟩ ⟨Bx, hBx, hbxx, rfl⟩ hlt
    have hc := hv.cell
    have hf := hv.frozen
    have hlv := hv.lt
    clear hr
    have x6 : W.cell? ⟨Bx, 6, none⟩ = some (.int .i64 x.reason) := (cell_of_row W Bx 6 _ _ _ hbxx).trans rfl
    have hsW := hB.size
    gi_wp2_with (first
      | (gi_at_builtin; refine wpListIn_append_own _ rfl _ _ 32 rfl w3.heap.size 3 i0 _ 1 8 Tryz.underlying32 hi hz0 hz1 hz2 rfl (by decide) _ _ _ rfl (hrow.alloc _) ⟨W.heap.size, 0, none⟩ 1 1 (icells x.reason) rfl rfl (World.news_of_block (heap_alloc_new W _)) (icells_cell _) (by unfold maxLen; omega) (by omega) (by simp; omega) ?_
         intro v' w1 hown' hgrow _
         obtain ⟨g', cap', rfl⟩ := ownsRow_succ hown'
         obtain ⟨hv1, hv2, hr2, hk2, hb2⟩ := appended_but hv (by decide) hrow hsW hown' hgrow
         have hc1 := hv1.cell
         have hf1 := hv1.frozen
         go_frame))
    refine ⟨hk2.from _, ⟨KeepsWalks.of_others hk2, hb2⟩, ⟨_, hv2, ?_, trivial⟩, hB.trans hb2⟩
    rw [List.map_append, flat_app, List.map_cons, List.map_nil, flat_one, List.length_append]
    exact hr2
  case done =>
    rintro D xs W hD rfl ⟨⟨v, hv, hrow, _⟩, hB⟩ hK
    obtain ⟨av, cv, rfl⟩ := own_form hrow
    have hc := hv.cell
    gi_wp2
    refine ⟨by simp, .inl ⟨_, _, rfl, run_takeDeferred hK, ?_⟩⟩
    refine ⟨_, results_tmp2 rfl _ _ _, ?_⟩
    have hBz : Below w.heap.size w3 W := hB.below (by omega) (by omega)
    refine ⟨hB13.out.trans (hBz.trans ?_), av, cv, ?_, ?_⟩
    · exact (belowK_b (w := w3) (Nat.le_refl _) W D _ _ hD hK rfl rfl).mono (by omega)
    · rw [hq.out, hrs.out, hc'.out, List.length_map]; rfl
    · rw [hq.out, hrs.out, List.length_map]
      exact own_base (ownsRow_putObj hrow _ hK rfl) (by omega)
  case stop =>
    rintro D c pre W _ _ h _
    exact h.elim
end Go.Proofs.YtoijlikmigejbaaGreat
