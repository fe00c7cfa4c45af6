/- Walk: Balances. -/
import Derived.Test.YtoijlikmigejbaaGreatCPrD
import Derived.Test.YtoijlikmigejbaaGreatCSomC
import Derived.Test.YtoijlikmigejbaaGreatCBalP
import Derived.RegionIn
namespace Go.Proofs.YtoijlikmigejbaaGreat
open Go.RowKit Go.Shelf Go.Proofs.YtoijlikmigejbaaGreat.Pu
attribute [local go_sem] Oper.semAt_some

set_option maxRecDepth 100000 in
set_option maxHeartbeats 2000000 in
theorem pCloneB (l : List Bal) (n cap : Nat) (ao : Option Addr) (B : Nat) (w : World) (hn : Hid (n = l.length)) (hm : n ≤ 100000) (hs : SlAt 3 bcells B w ao l) (hB : B ≤ w.heap.size) (hp : ∀ ad, ao = some ad → ∃ b o, ad = ⟨b, o, none⟩) :
    Calls Tryz.prog 79 #[.slice ao n cap] w fun e w' => ∃ ao' cap', e = .returned (.slice ao' n cap') ∧ Own 66 3 bcells w.heap.size w' ao' n cap' l ∧ Below w.heap.size w w' := by
  obtain ⟨i0, hi, hz0, hz1, hz2⟩ := info_parts infoBal
  have qT : ∀ (w : World) (a : Option Addr) (n c n' c' : Nat), (binOp .eql 41 (.slice a n c) (.slice none n' c')).run Tryz.prog w = .ok (.bool a.isNone) w := fun w a n c n' c' => Lib.run_eql_slice_nil w _ _ a n c n' c' Tryz.underlying41
  cases ao with
  | none =>
    have hl : l = [] := by
      rcases hs with h | ⟨b, o, h, _⟩
      · exact h
      · cases h
    have hn0 : n = 0 := by have := hn.out; rw [this, hl]; rfl
    go_enter Tryz.func79, Tryz.ntmps79
    go_wp2
    go_ret
    exact ⟨none, 0, by rw [hn0]; rfl, ⟨by rw [hl, hn0]; rfl, .inl ⟨by rw [hn0], hn0⟩⟩, Below.refl _ _⟩
  | some ad =>
    have had : ∃ b o, ad = ⟨b, o, none⟩ := hp ad rfl
    obtain ⟨b, o, rfl⟩ := had
    have hnews : ∀ j u, (flat bcells l)[j]? = some u → (w.alloc (.cells #[] 66)).cell? ((⟨b, o, none⟩ : Addr).add j) = some u := (hs.below (B := B) ((Below.refl _ _).alloc hB _)).news bcells_len
    go_enter Tryz.func79, Tryz.ntmps79
    go_wp2_with (at_builtin; refine wpList_append_own_at _ rfl _ _ 41 rfl w.heap.size 66 i0 _ 3 24 Tryz.underlying41 hi hz0 hz1 hz2 rfl (by decide) _ 0 [] rfl (own_empty w _ _) ⟨b, o, none⟩ n cap (flat bcells l) rfl (by rw [flat_length bcells_len, hn.out]) hnews (flat_cell bcells_cell l) (by unfold maxLen; omega) (by omega) (by simp) ?_; intro v' w1 hown hgrow hnil hloc)
    obtain ⟨ao', cap', rfl⟩ := own_form hown
    go_ret
    refine ⟨ao', cap', by rw [Nat.zero_add]; rfl, ?_, ((Below.refl _ _).alloc (Nat.le_refl _) _).grown hgrow (by simp) (fun k hk => by cases hk; exact Nat.le_refl _)⟩
    rw [Nat.zero_add, List.nil_append] at hown
    exact hown

theorem cells_of_cell {w : World} {b o : Nat} {v : Value} (h : w.cell? ⟨b, o, none⟩ = some v) : ∃ x, w.heap[b]? = some x ∧ x.isCells = true := by
  unfold World.cell? at h
  simp only at h
  cases hb : w.heap[b]? with
  | none => rw [hb] at h; cases h
  | some x => rw [hb] at h; cases x <;> first | exact ⟨_, rfl, rfl⟩ | cases h
theorem RowB.kept {W W' : World} {rb : Nat} {d : List Bal} {row : Option Nat} (h : RowB W rb d) (hg : W.grownBy W' row) (hne : row ≠ Option.some rb) : RowB W' rb d := by
  have hb : W'.heap[rb]? = W.heap[rb]? := hg.block rb h.lt (fun e => hne e.symm)
  exact ⟨Nat.lt_of_lt_of_le h.lt hg.size, fun i x hi => (World.cell?_of_block hb).trans (h.c0 i x hi), fun i x hi => (World.cell?_of_block hb).trans (h.c1 i x hi), fun i x hi => (World.cell?_of_block hb).trans (h.c2 i x hi), fun j => by have := h.fz j; unfold World.frozen? at this ⊢; rw [hb]; exact this⟩
theorem arr_own {β : Type} (B ob : Nat) (f : β → List Post) : OwnFrom B (fun s W => RowB W ob (arr (f s))) := fun s X Y row hs hg hr => hs.kept hg fun e => by
  obtain ⟨_, o, ho, hc⟩ := hr ob e
  obtain ⟨x, hx, hxc⟩ := cells_of_cell (hs.c0 0 _ (arr_get _ (by omega)))
  rw [hx] at ho; cases ho; rw [hxc] at hc; cases hc

theorem BelowBut.of_set (n ob : Nat) {o : Nat} (w : World) (v : Value) : BelowBut n ob w (w.setCell ⟨ob, o, none⟩ v) := ⟨rfl, rfl, rfl, by simp, fun i _ hne => heap_setCell_other w ⟨ob, o, none⟩ i v hne⟩
theorem putObj_size (w : World) (D : Nat) (o : Obj) : (w.putObj D o).heap.size = w.heap.size := by simp [World.putObj]
theorem slAt_putObj {α : Type} {k : Nat} {enc : α → List Value} {B : Nat} {w : World} {ao : Option Addr} {l : List α} (h : SlAt k enc B w ao l) {D : Nat} {o o' : Obj} (hD : w.heap[D]? = some o) (hc : o.isCells = false) : SlAt k enc B (w.putObj D o') ao l := by
  rcases h with h | ⟨b, f, h1, h2, h3⟩
  · exact .inl h
  · refine .inr ⟨b, f, h1, h2, fun i x hx j u hu => ?_⟩
    have h4 := h3 i x hx j u hu
    obtain ⟨y, hy, hyc⟩ := cells_of_cell h4
    have hne : b ≠ D := fun e => by subst e; rw [hD] at hy; cases hy; rw [hyc] at hc; cases hc
    exact (World.cell?_of_block (World.putObj_heap_other hne)).trans h4
theorem wants_sale (ob : Nat) (w : World) : WantsO ob 77 #[] notSale w := by
  intro p W _
  have hBa := Lib.hid ((Below.refl W.heap.size W).alloc (Nat.le_refl _) (pobj p))
  obtain ⟨t1, ht1⟩ : ∃ t, (p.kind != 1) = t := ⟨_, rfl⟩
  have hP : Hid (notSale p = t1) := ht1
  go_enter Tryz.func77, Tryz.ntmps77
  go_wp2
  go_ret
  exact ⟨ret_bool hP.out.symm, hBa.out⟩
theorem wants_paid (M : Nat) (w : World) : WantsB 80 #[] (fun b => b.paid == 0) M w := by
  intro b W _
  have hBa := Lib.hid ((Below.refl W.heap.size W).alloc (Nat.le_refl _) (.cells #[.int .i64 b.party, .int .i64 b.paid, .int .i64 b.back] 66))
  obtain ⟨t1, ht1⟩ : ∃ t, (b.paid == 0) = t := ⟨_, rfl⟩
  go_enter Tryz.func80, Tryz.ntmps80
  go_wp2
  go_ret
  exact ⟨ret_bool ht1.symm, hBa.out⟩
theorem some_parts {P : Post → Bool} {l : List Post} {p : Post} (h : p ∈ someL P l) : Book l ∧ p ∈ l ∧ P p = true := by
  unfold someL at h
  split at h
  · rename_i h1
    exact ⟨book_of_check h1, (List.mem_filter.1 h).1, (List.mem_filter.1 h).2⟩
  · cases h
/-- Balances' answer -/
def BalRes (l : List Post) (w : World) (e : Ending) (w' : World) : Prop := Below w.heap.size w w' ∧ ∃ ao n cap, e = .returned (.slice ao n cap) ∧ SIn 3 bcells (balL l) n cap ao w'.heap.size w'

set_option maxRecDepth 100000 in
set_option maxHeartbeats 4000000 in
theorem pBalances {l : List Post} {n cap : Nat} {ao : Option Addr} {B : Nat} {w : World} (h : LIn l n cap ao B w) :
    Calls Tryz.prog 21 #[.slice ao n cap] w (BalRes l w) := by
  have hmf : ∀ (fn : Fn) (first cap : Array Value) (w : World), (Instr.makeFunc fn first cap).run Tryz.prog w = .ok (.func fn first cap) w := fun _ _ _ _ => rfl
  refine (callsIn_wide (n := 4)).1 ?_
  refine callsIn_of_wp_marks Tryz.func21 rfl trivial ?_ rfl
  simp only [Tryz.ntmps21, List.size_toArray, List.length_cons, List.length_nil, Nat.reduceAdd, Nat.reduceSub, Array.replicate_succ, Array.replicate_zero, List.push_toArray, List.append_toArray, List.nil_append, List.cons_append]
  gi_wp2_with (refine ⟨trivial, ?_⟩; gi_at_call 74; refine (callsIn_wide.2 (psome _ _ _ rfl rfl ⟨_, _, _, rfl⟩ ⟨_, _, _, rfl⟩)).mono ?_; rintro e w3 ⟨rfl, hw3⟩)
  obtain ⟨ob, hob⟩ : ∃ ob, w.heap.size = ob := ⟨_, rfl⟩
  have hBn := h.hB
  have hB3 : Below w.heap.size w w3 := by rw [← hw3]; exact ((((Below.refl _ w).alloc (Nat.le_refl _) _).alloc (by simp) _).alloc (by simp; omega) _)
  have hsz : w3.heap.size = ob + 3 := by rw [← hw3, ← hob]; simp
  obtain ⟨q1, q2, q3⟩ := two_boxes (w.alloc (.cells Tryz.zeroCells105 105)) (.slice ao n cap) (.func (.func 77) #[] #[]) 22 103
  rw [hw3, show (w.alloc (.cells Tryz.zeroCells105 105)).heap.size = ob + 1 by rw [← hob]; simp] at q1 q2
  have hrow : RowB w3 ob (arr []) := by
    rw [← hw3, ← hob]
    exact (row_zero w).after ((((Below.refl _ _).alloc (Nat.le_refl _) _).alloc (by simp) _))
  have hl3 := h.after hB3
  rw [hob] at hBn ⊢
  have hwant := Lib.hid (wants_sale ob w3)
  have hseq := some_sub ob 3 (by omega) (ob + 1) (ob + 2) hl3 77 _ notSale (by omega) (by omega) (enters_of Tryz.func77 (by kernel_rfl) rfl) hwant (by omega) q1.cell (by omega) q2.cell
  replace hB3 := Lib.hid hB3
  replace hob := Lib.hid hob
  clear hw3 q1 q2 q3 hl3 h
  refine wpIn_rangeFunc_ownH rfl (by omega) (gf := 117) (lb := #[.pointer (some ⟨ob + 1, 0, none⟩), .pointer (some ⟨ob + 1 + 1, 0, none⟩)]) rfl trivial (enters_of Tryz.func117 (by kernel_rfl) rfl) hseq KD.t (KD.b (Nat.le_refl _)) (Below.refl _ _) (fun _ => rfl)
    (fun pre W => RowB W ob (arr (pre.map (·.1))) ∧ BelowBut w3.heap.size ob w3 W)
    (fun _ _ _ => False)
    (OwnFrom.and (arr_own _ ob (fun pre : List {p : Post // p ∈ someL notSale l} => pre.map (·.1))) (ownFrom_but (Nat.le_refl _) (Nat.le_refl _)))
    (fun _ _ _ _ _ hs _ _ => hs)
    ⟨hrow, .of_below (Below.refl _ _)⟩
    (fun x a' W => ∃ Bx, ob < Bx ∧ W.heap[Bx]? = some (.cells (pcells x.1).toArray 36 (0, 0)) ∧ a' = { tmps := #[.slice ao n cap, undef, .slice none 0 0, .pointer (some ⟨ob, 0, none⟩), .pointer (some ⟨Bx, 0, none⟩), undef, .slice ao n cap, .func (.func 117) #[] #[.pointer (some ⟨ob + 1, 0, none⟩), .pointer (some ⟨ob + 1 + 1, 0, none⟩)], pval x.1, undef, undef, undef, undef, undef, undef, undef, undef, undef, undef, undef, undef, undef, undef, undef, undef, undef, undef, undef, undef, undef, undef, undef, undef, undef, undef, undef, undef, undef, undef, undef, undef], defers := [] })
    (fun x a' _ X Y row hs hg hr => by
      obtain ⟨Bx, h1, h2, h3⟩ := hs
      refine ⟨Bx, h1, (hg.block Bx (Array.getElem?_eq_some_iff.1 h2).1 (fun e => ?_)).trans h2, h3⟩
      obtain ⟨_, o, ho, hc⟩ := hr Bx e.symm
      rw [h2] at ho; cases ho; cases hc) ?assign ?body ?done ?stop
  case assign =>
    rintro l' pre ⟨x, hx⟩ W K ⟨hrow, hB⟩ hK
    have hsW := hB.size
    gi_wp2
    exact hK _ _ ((KeepsOthers.alloc _ _).from _) ⟨KeepsWalks.alloc _ _, .of_below ((Below.refl _ W).alloc hB.size _)⟩ ⟨hrow.after ((Below.refl _ W).alloc (Nat.le_refl _) _), hB.alloc hB.size _⟩ ⟨W.heap.size, hrow.lt, heap_alloc_new W _, rfl⟩
  case body =>
    rintro l' pre ⟨x, hxm⟩ a' W hl ⟨r, hr⟩ ⟨hrow, hB⟩ ⟨Bx, hBx, hbxx, rfl⟩ hlt
    clear hr
    obtain ⟨hbook, hxl, hns⟩ := some_parts hxm
    have hok := book_ok hbook x hxl
    simp only [okP, inB, Bool.and_eq_true, decide_eq_true_eq] at hok
    obtain ⟨k, hk⟩ : ∃ k : Nat, x.party = k := ⟨x.party.toNat, by omega⟩
    dsimp only at hbxx
    have hsW := hB.size
    have hk41 : k < 41 := by omega
    have hob41 := hrow.lt
    have hlen := Book.len hbook
    have hne : ob ≠ Bx := by omega
    obtain ⟨m, hm⟩ : ∃ m : List Post, pre.map (·.1) = m := ⟨_, rfl⟩
    rw [hm] at hrow
    have hma : AmtOk m := by
      rw [← hm]
      intro p hp
      obtain ⟨⟨p', hp'⟩, _, rfl⟩ := List.mem_map.1 hp
      exact Book.amtOk hbook _ (some_parts hp').2.1
    have hml : m.length ≤ 400 := by rw [← hm, List.length_map]; omega
    have hpd := paid_bd hma k
    have hbd := back_bd hma k
    have hstep : Hid (arr (m ++ [x]) = (arr m).set k ⟨k, paidBy m k + (if x.kind = 2 then x.amount else 0), backBy m k + (if x.kind = 3 then x.amount else 0)⟩) := by
      show _ = _
      rw [arr_step hk hk41, arrOf_self hk]
    have hkind : x.kind = 2 ∨ x.kind = 3 := by
      have h1 : x.kind ≠ 1 := by simpa [notSale] using hns
      omega
    have hrow1 : RowB (W.setCell ⟨ob, k * 3, none⟩ (.int .i64 k)) ob ((arr m).set k ⟨k, paidBy m k, backBy m k⟩) :=
      hrow.set1 k 0 (by omega) (by rw [arr_len]; exact hk41) (arr_get m hk41) k rfl rfl rfl
    have hget1 : ((arr m).set k ⟨k, paidBy m k, backBy m k⟩)[k]? = some ⟨k, paidBy m k, backBy m k⟩ := by rw [List.getElem?_set, if_pos rfl, if_pos (by rw [arr_len]; exact hk41)]
    have hamt := Book.amtOk hbook x hxl
    obtain ⟨pd, hpd0⟩ : ∃ pd, paidBy m k = pd := ⟨_, rfl⟩
    obtain ⟨bd, hbd0⟩ : ∃ bd, backBy m k = bd := ⟨_, rfl⟩
    rw [hpd0] at hpd hstep hrow1 hget1
    rw [hbd0] at hbd hstep hrow1 hget1
    have c0 := hrow.c0 k _ (arr_get m hk41)
    have f0 := hrow.fz (k * 3)
    have d1 := hrow1.c1 k _ hget1
    have d2 := hrow1.c2 k _ hget1
    have f1 := hrow1.fz (k * 3 + 1)
    have f2 := hrow1.fz (k * 3 + 2)
    dsimp only at d1 d2
    have x2 : W.cell? ⟨Bx, 2, none⟩ = some (.int .u8 x.kind) := (cell_of_row W Bx 2 _ _ _ hbxx).trans rfl
    have x3 : W.cell? ⟨Bx, 3, none⟩ = some (.int .i64 k) := (cell_of_row W Bx 3 _ _ _ hbxx).trans (by show some (Value.int .i64 x.party) = _; rw [hk])
    have x5 : W.cell? ⟨Bx, 5, none⟩ = some (.int .i64 x.amount) := (cell_of_row W Bx 5 _ _ _ hbxx).trans rfl
    have hbx' : (W.setCell ⟨ob, k * 3, none⟩ (.int .i64 k)).heap[Bx]? = some (.cells (pcells x).toArray 36 (0, 0)) := (Below.heap_setCell _ _ _ _ (by exact fun e => hne e.symm)).trans hbxx
    have y2 : (W.setCell ⟨ob, k * 3, none⟩ (.int .i64 k)).cell? ⟨Bx, 2, none⟩ = some (.int .u8 x.kind) := (cell_of_row _ Bx 2 _ _ _ hbx').trans rfl
    have y5 : (W.setCell ⟨ob, k * 3, none⟩ (.int .i64 k)).cell? ⟨Bx, 5, none⟩ = some (.int .i64 x.amount) := (cell_of_row _ Bx 5 _ _ _ hbx').trans rfl
    replace hB := Lib.hid hB
    replace hrow1 := Lib.hid hrow1
    replace hget1 := Lib.hid hget1
    clear hrow hbxx hbx' hma hok hns hxl hk hpd0 hbd0
    have hk1 : Hid (KeepsOthers W (W.setCell ⟨ob, k * 3, none⟩ (.int .i64 k))) := KeepsOthers.setCell _ _ _
    have hb1 : Hid (BelowBut w3.heap.size ob W (W.setCell ⟨ob, k * 3, none⟩ (.int .i64 k))) := BelowBut.of_set _ _ _ _
    rcases hkind with h2 | h2
    · have t1 : (x.kind == 2) = true := by rw [h2]; rfl
      have hst2 : Hid (arr ((pre ++ [(⟨x, hxm⟩ : {p : Post // p ∈ someL notSale l})]).map (·.1)) = ((arr m).set k ⟨k, pd, bd⟩).set k ⟨k, pd + x.amount, bd⟩) := by
        show _ = _; rw [List.map_append, hm]; show arr (m ++ [x]) = _; rw [hstep.out, h2, List.set_set]; simp
      gi_wp2
      clear x2 x3 x5 c0 f0 t1 y2 d2 f2 hstep
      obtain ⟨W1, hW1⟩ : ∃ W1, W.setCell ⟨ob, k * 3, none⟩ (.int .i64 k) = W1 := ⟨_, rfl⟩
      rw [hW1] at hrow1 hk1 hb1 d1 f1 y5 ⊢
      clear hW1
      have hwv : IntKind.i64.wrap (pd + x.amount) = pd + x.amount := IntWalk.i64_in _ (by omega)
      have hk2 : Hid (KeepsOthers W (W1.setCell ⟨ob, k * 3 + 1, none⟩ (.int .i64 (IntKind.i64.wrap (pd + x.amount)))).drew) := (hk1.out.trans (KeepsOthers.setCell _ _ _)).trans (KeepsOthers.drew _)
      have hb2 : Hid (BelowBut w3.heap.size ob W (W1.setCell ⟨ob, k * 3 + 1, none⟩ (.int .i64 (IntKind.i64.wrap (pd + x.amount)))).drew) := (hb1.out.trans (BelowBut.of_set _ _ _ _)).trans (BelowBut.of_below (Below.refl _ _).drew)
      have hr2 : Hid (RowB (W1.setCell ⟨ob, k * 3 + 1, none⟩ (.int .i64 (IntKind.i64.wrap (pd + x.amount)))).drew ob (arr ((pre ++ [(⟨x, hxm⟩ : {p : Post // p ∈ someL notSale l})]).map (·.1)))) := by
        show RowB _ _ _
        rw [hst2.out, hwv]
        exact (hrow1.out.set1 (a := ⟨k, pd + x.amount, bd⟩) k 1 (by omega) (by rw [List.length_set, arr_len]; exact hk41) hget1.out (pd + x.amount) rfl rfl rfl).after (Below.refl _ _).drew
      replace h2 := Lib.hid h2
      clear hst2 hrow1 hk1 hb1 hget1 hm hwv
      gi_region
      all_goals
        gi_wp2
        exact ⟨hk2.out.from _, ⟨KeepsWalks.of_others hk2.out, hb2.out⟩, hr2.out, hB.out.trans hb2.out⟩
    · have t1 : (x.kind == 2) = false := by rw [h2]; rfl
      have hst2 : Hid (arr ((pre ++ [(⟨x, hxm⟩ : {p : Post // p ∈ someL notSale l})]).map (·.1)) = ((arr m).set k ⟨k, pd, bd⟩).set k ⟨k, pd, bd + x.amount⟩) := by
        show _ = _; rw [List.map_append, hm]; show arr (m ++ [x]) = _; rw [hstep.out, h2, List.set_set]; simp
      gi_wp2
      clear x2 x3 x5 c0 f0 t1 y2 d1 f1 hstep
      obtain ⟨W1, hW1⟩ : ∃ W1, W.setCell ⟨ob, k * 3, none⟩ (.int .i64 k) = W1 := ⟨_, rfl⟩
      rw [hW1] at hrow1 hk1 hb1 d2 f2 y5 ⊢
      clear hW1
      have hwv : IntKind.i64.wrap (bd + x.amount) = bd + x.amount := IntWalk.i64_in _ (by omega)
      have hk2 : Hid (KeepsOthers W (W1.setCell ⟨ob, k * 3 + 2, none⟩ (.int .i64 (IntKind.i64.wrap (bd + x.amount)))).drew) := (hk1.out.trans (KeepsOthers.setCell _ _ _)).trans (KeepsOthers.drew _)
      have hb2 : Hid (BelowBut w3.heap.size ob W (W1.setCell ⟨ob, k * 3 + 2, none⟩ (.int .i64 (IntKind.i64.wrap (bd + x.amount)))).drew) := (hb1.out.trans (BelowBut.of_set _ _ _ _)).trans (BelowBut.of_below (Below.refl _ _).drew)
      have hr2 : Hid (RowB (W1.setCell ⟨ob, k * 3 + 2, none⟩ (.int .i64 (IntKind.i64.wrap (bd + x.amount)))).drew ob (arr ((pre ++ [(⟨x, hxm⟩ : {p : Post // p ∈ someL notSale l})]).map (·.1)))) := by
        show RowB _ _ _
        rw [hst2.out, hwv]
        exact (hrow1.out.set1 (a := ⟨k, pd, bd + x.amount⟩) k 2 (by omega) (by rw [List.length_set, arr_len]; exact hk41) hget1.out (bd + x.amount) rfl rfl rfl).after (Below.refl _ _).drew
      replace h2 := Lib.hid h2
      clear hst2 hrow1 hk1 hb1 hget1 hm hwv
      gi_region
      all_goals
        gi_wp2
        exact ⟨hk2.out.from _, ⟨KeepsWalks.of_others hk2.out, hb2.out⟩, hr2.out, hB.out.trans hb2.out⟩
  case done =>
    rintro D xs W hD hS ⟨hrow, hB⟩ hK
    rw [hS] at hrow
    have hfl := arr_bal l
    have hD2 : D < W.heap.size := (Array.getElem?_eq_some_iff.1 hK).1
    have hsW := hB.size
    have hBz : Below ob w3 W := hB.below (by omega) (by omega)
    have hBw : Hid (Below w.heap.size w W) := hB3.out.trans (by rw [hob.out]; exact hBz)
    have hob41 := hrow.lt
    have hcl := Lib.hid (pCloneB (arr (someL notSale l)) 41 41 (some ⟨ob, 0, none⟩) W.heap.size W (Lib.hid (arr_len _).symm) (by omega) hrow.slAt (Nat.le_refl _) (fun ad e => by cases e; exact ⟨_, _, rfl⟩))
    have hbl : Hid ((balL l).length ≤ 41) := by
      show _ ≤ _
      have h1 := List.length_filter_le (fun b : Bal => !(b.paid == 0)) (arr (someL notSale l))
      rw [hfl, arr_len] at h1; exact h1
    replace hK := Lib.hid hK
    replace hfl := Lib.hid hfl
    clear hrow hB hBz hwant hseq hS
    gi_wp2_with (first
      | (refine ⟨trivial, ?_⟩; gi_at_call 79; refine (callsIn_wide.2 hcl.out).mono ?_; rintro e w4 ⟨a4, c4, rfl, hown4, hB4⟩
         have hsl4 := Lib.hid hown4.slB
         have hwp := Lib.hid (wants_paid W.heap.size w4)
         have hs4 := hB4.size
         replace hB4 := Lib.hid hB4
         clear hown4)
      | (refine ⟨trivial, ?_⟩; gi_at_call 78
         refine (callsIn_wide.2 (xDeleteSlB 80 _ (fun b => b.paid == 0) W.heap.size W.heap.size (arr (someL notSale l)) a4 41 c4 w4 hsl4.out (by omega) (Nat.le_refl _) (enters_of Tryz.func80 (by kernel_rfl) rfl) hwp hs4)).mono ?_
         rintro e w5 ⟨a5, n5, c5, rfl, hn5, hc5, hs5, hB5⟩
         rw [hfl.out] at hn5 hs5
         have hBB := Lib.hid (hB4.out.trans hB5)
         replace hn5 := Lib.hid hn5
         replace hs5 := Lib.hid hs5
         clear hB5))
    have hK5 := (hBB.out.block D hD2).trans hK.out
    refine ⟨by simp, .inl ⟨_, _, rfl, run_takeDeferred hK5, ?_⟩⟩
    refine ⟨_, results_tmp rfl _ _ _, ?_⟩
    have hBf := hBw.out.trans (hBB.out.mono hBw.out.size)
    refine ⟨hBf.trans ((belowK_b (w := w3) (Nat.le_refl _) w5 D _ _ hD hK5 rfl rfl).mono (by rw [hob.out]; omega)), a5, n5, c5, rfl, hn5.out, by have := hbl.out; have := hn5.out; omega, hc5, ?_, Nat.le_refl _⟩
    rw [putObj_size]
    exact slAt_putObj hs5.out hK5 rfl
  case stop =>
    rintro D c pre W _ _ h _
    exact h.elim
end Go.Proofs.YtoijlikmigejbaaGreat
