/- slices.AppendSeq, slices.Collect over an iterator of ints. slices.AppendSeq, slices.Collect over an iterator of accounts. Written by gen_seq.py. The iterators maps.Values, maps.Keys. slices.AppendSeq, slices.Collect over an iterator of postings. Written by gen_seq.py. -/
import Derived.Test.YtoijlikmigejbaaGreatG08
import Derived.RangeFuncNested
import Derived.RangeFuncBound
import Derived.RangeFuncCalls
import Derived.RangeFuncLeaves
import Derived.Shelf.Abstract
import Derived.TacticsInMore
import Derived.LoopNIn
import Derived.LoopIn
import Derived.Maps.AppendAt
import Derived.Sort.MapsRangeIn
namespace Go.Proofs.YtoijlikmigejbaaGreat
open Go.RowKit Go.Shelf Go.Proofs.YtoijlikmigejbaaGreat.Pu
attribute [local go_sem] Oper.semAt_some

/-- what a round that goes on keeps -/
def KB (n : Nat) (W W' : World) : Prop := KeepsWalks W W' ∧ Below n W W'
theorem KB.t {n : Nat} {A B C : World} (h : KB n A B) (k : KB n B C) : KB n A C := ⟨h.1.trans k.1, h.2.trans k.2⟩
theorem KB.b {n : Nat} {w : World} (hn : n ≤ w.heap.size) (W : World) (l : Nat) (o o' : Obj) (hl : w.heap.size ≤ l) (h : W.heap[l]? = some o) (hc : o.isCells = false) (hw : o.isWalk = false) : KB n W (W.putObj l o') :=
  ⟨walksK_b (w := w) W l o o' hl h hc hw, belowK_b hn W l o o' hl h hc hw⟩
theorem KeepsWalks.of_others {W W' : World} (h : KeepsOthers W W') : KeepsWalks W W' := ⟨h.size, fun k o hk ho => h.same k o hk (Obj.not_cells_of_walk ho)⟩

def icells (x : Int) : List Value := [.int .i64 x]
theorem icells_len (x : Int) : (icells x).length = 1 := rfl
theorem infoInt : (Tryz.prog.info? 3).map (fun i => (i.zero, i.size, i.bytes)) = some (some (.int .i64 0), 1, 8) := by kernel_rfl

set_option maxRecDepth 100000 in
set_option maxHeartbeats 4000000 in
theorem xAppendI (n : Nat) (hn : 2 ≤ n) (g : Nat) (lb : Array Value) (eg : ∀ args w, (callFunc g args).run Tryz.prog w = .ok (.enter g args) w) (S Sp : List Int → Prop) (N : Nat) (hN : N ≤ 1000000) (w w0 : World)
    (hseq : SeqStopsK Fence.wide (n - 1) Tryz.prog g lb (fun x => #[vi x]) (KB w.heap.size) S Sp N w0) (hb0 : Below w0.heap.size w0 w) :
    CallsIn Fence.wide n Tryz.prog 125 #[.slice none 0 0, .func (.func g) #[] lb] w fun e w' => ∃ ao cap xs, e = .returned (.slice ao xs.length cap) ∧ S xs ∧ Own 3 1 icells w.heap.size w' ao xs.length cap xs ∧ Below w.heap.size w w' := by
  have h1 : 1 ≤ n := by omega
  obtain ⟨i0, hi, hz0, hz1, hz2⟩ := info_parts infoInt
  refine callsIn_of_wp_marks Tryz.func125 rfl trivial ?_ rfl
  simp only [Tryz.ntmps125, List.size_toArray, List.length_cons, List.length_nil, Nat.reduceAdd, Nat.reduceSub, Array.replicate_succ, Array.replicate_zero, List.push_toArray, List.append_toArray, List.nil_append, List.cons_append]
  gi_wp2
  refine wpIn_rangeFunc_ownH rfl h1 (gf := g) (lb := lb) rfl trivial eg hseq KB.t (KB.b (by simp)) (hb0.trans (((Below.refl _ w).alloc (Nat.le_refl _) _).mono hb0.size)) (fun _ => rfl)
    (fun pre W => (∃ v, Boxed W w.heap.size 32 v ∧ W.ownsRow w.heap.size 3 1 v pre.length (flat icells pre) ∧ True) ∧ Below w.heap.size w W)
    (fun _ _ _ => False)
    (OwnFrom.and (Own.from (holdsRow_own w.heap.size w.heap.size 32 3 1 (fun pre => pre.length) (fun pre => flat icells pre) (fun _ _ => True)) _) (ownFrom_below (Nat.le_refl _) (by simp)))
    (fun _ _ _ _ _ hs _ _ => hs)
    ⟨⟨_, Boxed.new w _ _, World.ownsRow_nil _ _ _ _, trivial⟩, (Below.refl _ w).alloc (Nat.le_refl _) _⟩
    (fun x a' _ => a' = { tmps := #[.slice none 0 0, .func (.func g) #[] lb, .pointer (some ⟨w.heap.size, 0, none⟩), undef, .slice none 0 0, .int .i64 x, .func (.func g) #[] lb, .int .i64 x, undef, undef, undef, undef, undef], defers := [] })
    (fun _ _ _ _ _ _ hs _ _ => hs) ?assign ?body ?done ?stop
  case assign =>
    intro l pre x W K hI hK
    gi_wp2
    exact hK _ _ (KeepsFrom.refl _ _) ⟨KeepsWalks.refl _, Below.refl _ _⟩ hI rfl
  case body =>
    rintro l pre x a' W hl ⟨r, hr⟩ ⟨⟨v, hv, hrow, _⟩, hB⟩ rfl hlt
    have hc := hv.cell
    have hf := hv.frozen
    have hlv := hv.lt
    clear hr
    gi_wp2_with (first
      | (gi_at_builtin; refine wpListIn_append_own _ rfl _ _ 32 rfl w.heap.size 3 i0 (.int .i64 0) 1 8 Tryz.underlying32 hi hz0 hz1 hz2 rfl (by decide) _ _ _ rfl (hrow.alloc _) ⟨W.heap.size, 0, none⟩ 1 1 [.int .i64 x] rfl rfl (cell_one_new _ _ _) (by simp [Value.oneCell']) (by unfold maxLen; omega) (by omega) (by have := hB.size; simp; omega) ?_
         intro v' w1 hown' hgrow _
         obtain ⟨g', cap', rfl⟩ := ownsRow_succ hown'
         obtain ⟨hv1, hv2, hr2, hk2, hb2⟩ := hv.appended (by decide) hrow hB.size (Nat.le_refl _) hown' hgrow
         have hc1 := hv1.cell
         have hf1 := hv1.frozen
         go_frame))
    refine ⟨hk2.from _, ⟨KeepsWalks.of_others hk2, hb2⟩, ⟨_, hv2, ?_, trivial⟩, hB.trans hb2⟩
    rw [flat_app, flat_one, List.length_append]
    exact hr2
  case done =>
    rintro D xs W hD hS ⟨⟨v, hv, hrow, _⟩, hB⟩ hK
    obtain ⟨ao, cap, rfl⟩ := own_form hrow
    have hc := hv.cell
    gi_wp2
    refine ⟨by simp, .inl ⟨_, _, rfl, run_takeDeferred hK, ?_⟩⟩
    refine ⟨_, results_tmp rfl _ _ _, ao, cap, xs, rfl, hS, ?_, ?_⟩
    · exact ownsRow_putObj hrow _ hK rfl
    · exact hB.trans (belowK_b (w := w) (Nat.le_refl _) W D _ _ (by simp at hD; omega) hK rfl rfl)
  case stop =>
    rintro D c pre W _ _ h _
    exact h.elim
theorem xCollectI (n : Nat) (hn : 3 ≤ n) (g : Nat) (lb : Array Value) (eg : ∀ args w, (callFunc g args).run Tryz.prog w = .ok (.enter g args) w) (S Sp : List Int → Prop) (N : Nat) (hN : N ≤ 1000000) (w w0 : World)
    (hseq : SeqStopsK Fence.wide (n - 1 - 1) Tryz.prog g lb (fun x => #[vi x]) (KB w.heap.size) S Sp N w0) (hb0 : Below w0.heap.size w0 w) :
    CallsIn Fence.wide n Tryz.prog 88 #[.func (.func g) #[] lb] w fun e w' => ∃ ao cap xs, e = .returned (.slice ao xs.length cap) ∧ S xs ∧ Own 3 1 icells w.heap.size w' ao xs.length cap xs ∧ Below w.heap.size w w' := by
  have h1 : 1 ≤ n := by omega
  refine callsIn_of_wp Tryz.func88 rfl trivial ?_ rfl
  simp only [Tryz.ntmps88, List.size_toArray, List.length_cons, List.length_nil, Nat.reduceAdd, Nat.reduceSub, Array.replicate_succ, Array.replicate_zero, List.push_toArray, List.append_toArray, List.nil_append, List.cons_append]
  gi_wp2_with (refine ⟨trivial, ?_⟩; gi_at_call 125; refine (xAppendI (n - 1) (by omega) g lb eg S Sp N hN w w0 hseq hb0).mono ?_; rintro e w' ⟨ao, cap, xs, rfl, hS, hrow, hb⟩)
  go_ret
  exact ⟨ao, cap, xs, rfl, hS, hrow, hb⟩
end Go.Proofs.YtoijlikmigejbaaGreat

namespace Go.Proofs.YtoijlikmigejbaaGreat
open Go.RowKit Go.Shelf Go.Proofs.YtoijlikmigejbaaGreat.Pu
attribute [local go_sem] Oper.semAt_some

def acells (x : Int × Int) : List Value := [.int .i64 x.1, .int .i64 x.2]
theorem acells_len (x : Int × Int) : (acells x).length = 2 := rfl
theorem acells_cell (x : Int × Int) : ∀ u ∈ acells x, u.oneCell' = true := by
  intro u hu
  simp only [acells, List.mem_cons, List.not_mem_nil, or_false] at hu
  rcases hu with rfl | rfl <;> rfl
theorem infoAcct : (Tryz.prog.info? 90).map (fun i => (i.zero, i.size, i.bytes)) = some (some (kv (0, 0)), 2, 16) := by kernel_rfl

set_option maxRecDepth 100000 in
set_option maxHeartbeats 4000000 in
theorem xAppendA (n : Nat) (hn : 2 ≤ n) (g : Nat) (lb : Array Value) (eg : ∀ args w, (callFunc g args).run Tryz.prog w = .ok (.enter g args) w) (S Sp : List (Int × Int) → Prop) (N : Nat) (hN : N ≤ 1000000) (w w0 : World)
    (hseq : SeqStopsK Fence.wide (n - 1) Tryz.prog g lb (fun x => #[kv x]) (KB w.heap.size) S Sp N w0) (hb0 : Below w0.heap.size w0 w) :
    CallsIn Fence.wide n Tryz.prog 157 #[.slice none 0 0, .func (.func g) #[] lb] w fun e w' => ∃ ao cap xs, e = .returned (.slice ao xs.length cap) ∧ S xs ∧ Own 90 2 acells w.heap.size w' ao xs.length cap xs ∧ Below w.heap.size w w' := by
  have h1 : 1 ≤ n := by omega
  obtain ⟨i0, hi, hz0, hz1, hz2⟩ := info_parts infoAcct
  refine callsIn_of_wp_marks Tryz.func157 rfl trivial ?_ rfl
  simp only [Tryz.ntmps157, List.size_toArray, List.length_cons, List.length_nil, Nat.reduceAdd, Nat.reduceSub, Array.replicate_succ, Array.replicate_zero, List.push_toArray, List.append_toArray, List.nil_append, List.cons_append]
  gi_wp2
  refine wpIn_rangeFunc_ownH rfl h1 (gf := g) (lb := lb) rfl trivial eg hseq KB.t (KB.b (by simp)) (hb0.trans (((Below.refl _ w).alloc (Nat.le_refl _) _).mono hb0.size)) (fun _ => rfl)
    (fun pre W => (∃ v, Boxed W w.heap.size 114 v ∧ W.ownsRow w.heap.size 90 2 v pre.length (flat acells pre) ∧ True) ∧ Below w.heap.size w W)
    (fun _ _ _ => False)
    (OwnFrom.and (Own.from (holdsRow_own w.heap.size w.heap.size 114 90 2 (fun pre => pre.length) (fun pre => flat acells pre) (fun _ _ => True)) _) (ownFrom_below (Nat.le_refl _) (by simp)))
    (fun _ _ _ _ _ hs _ _ => hs)
    ⟨⟨_, Boxed.new w _ _, World.ownsRow_nil _ _ _ _, trivial⟩, (Below.refl _ w).alloc (Nat.le_refl _) _⟩
    (fun x a' W => ∃ Bx, w.heap.size < Bx ∧ W.heap[Bx]? = some (.cells (acells x).toArray 90 (0, 0)) ∧ a' = { tmps := #[.slice none 0 0, .func (.func g) #[] lb, .pointer (some ⟨w.heap.size, 0, none⟩), undef, .slice none 0 0, .pointer (some ⟨Bx, 0, none⟩), .func (.func g) #[] lb, kv x, undef, undef, undef, undef, undef], defers := [] })
    (fun x a' _ X Y row hs hg hr => by
      obtain ⟨Bx, h1, h2, h3⟩ := hs
      refine ⟨Bx, h1, (hg.block Bx (Array.getElem?_eq_some_iff.1 h2).1 (fun e => ?_)).trans h2, h3⟩
      obtain ⟨_, o, ho, hc⟩ := hr Bx e.symm
      rw [h2] at ho; cases ho; cases hc) ?assign ?body ?done ?stop
  case assign =>
    rintro l pre x W K ⟨⟨v, hv, hrow, _⟩, hB⟩ hK
    gi_wp2
    exact hK _ _ ((KeepsOthers.alloc _ _).from _) ⟨KeepsWalks.alloc _ _, (Below.refl _ W).alloc hB.size _⟩ ⟨⟨v, hv.alloc _, hrow.alloc _, trivial⟩, hB.alloc hB.size _⟩ ⟨W.heap.size, hv.lt, heap_alloc_new W _, rfl⟩
  case body =>
    rintro l pre x a' W hl ⟨r, hr⟩ ⟨⟨v, hv, hrow, _⟩, hB⟩ ⟨Bx, hBx, hbx, rfl⟩ hlt
    have hc := hv.cell
    have hf := hv.frozen
    have hlv := hv.lt
    clear hr
    have x0 : W.cell? ⟨Bx, 0, none⟩ = some (.int .i64 x.1) := (cell_of_row W Bx 0 _ _ _ hbx).trans rfl
    have x1 : W.cell? ⟨Bx, 1, none⟩ = some (.int .i64 x.2) := (cell_of_row W Bx 1 _ _ _ hbx).trans rfl
    gi_wp2_with (first
      | (gi_at_builtin; refine wpListIn_append_own _ rfl _ _ 114 rfl w.heap.size 90 i0 (kv (0, 0)) 2 16 Tryz.underlying114 hi hz0 hz1 hz2 rfl (by decide) _ _ _ rfl (hrow.alloc _) ⟨W.heap.size, 0, none⟩ 1 1 (acells x) rfl rfl (World.news_of_block (heap_alloc_new W _)) (acells_cell x) (by unfold maxLen; omega) (by omega) (by have := hB.size; simp; omega) ?_
         intro v' w1 hown' hgrow _
         obtain ⟨g', cap', rfl⟩ := ownsRow_succ hown'
         obtain ⟨hv1, hv2, hr2, hk2, hb2⟩ := hv.appended (by decide) hrow hB.size (Nat.le_refl _) hown' hgrow
         have hc1 := hv1.cell
         have hf1 := hv1.frozen
         go_frame))
    refine ⟨hk2.from _, ⟨KeepsWalks.of_others hk2, hb2⟩, ⟨_, hv2, ?_, trivial⟩, hB.trans hb2⟩
    rw [flat_app, flat_one, List.length_append]
    exact hr2
  case done =>
    rintro D xs W hD hS ⟨⟨v, hv, hrow, _⟩, hB⟩ hK
    obtain ⟨ao, cap, rfl⟩ := own_form hrow
    have hc := hv.cell
    gi_wp2
    refine ⟨by simp, .inl ⟨_, _, rfl, run_takeDeferred hK, ?_⟩⟩
    refine ⟨_, results_tmp rfl _ _ _, ao, cap, xs, rfl, hS, ?_, ?_⟩
    · exact ownsRow_putObj hrow _ hK rfl
    · exact hB.trans (belowK_b (w := w) (Nat.le_refl _) W D _ _ (by simp at hD; omega) hK rfl rfl)
  case stop =>
    rintro D c pre W _ _ h _
    exact h.elim
theorem xCollectA (n : Nat) (hn : 3 ≤ n) (g : Nat) (lb : Array Value) (eg : ∀ args w, (callFunc g args).run Tryz.prog w = .ok (.enter g args) w) (S Sp : List (Int × Int) → Prop) (N : Nat) (hN : N ≤ 1000000) (w w0 : World)
    (hseq : SeqStopsK Fence.wide (n - 1 - 1) Tryz.prog g lb (fun x => #[kv x]) (KB w.heap.size) S Sp N w0) (hb0 : Below w0.heap.size w0 w) :
    CallsIn Fence.wide n Tryz.prog 139 #[.func (.func g) #[] lb] w fun e w' => ∃ ao cap xs, e = .returned (.slice ao xs.length cap) ∧ S xs ∧ Own 90 2 acells w.heap.size w' ao xs.length cap xs ∧ Below w.heap.size w w' := by
  have h1 : 1 ≤ n := by omega
  refine callsIn_of_wp Tryz.func139 rfl trivial ?_ rfl
  simp only [Tryz.ntmps139, List.size_toArray, List.length_cons, List.length_nil, Nat.reduceAdd, Nat.reduceSub, Array.replicate_succ, Array.replicate_zero, List.push_toArray, List.append_toArray, List.nil_append, List.cons_append]
  gi_wp2_with (refine ⟨trivial, ?_⟩; gi_at_call 157; refine (xAppendA (n - 1) (by omega) g lb eg S Sp N hN w w0 hseq hb0).mono ?_; rintro e w' ⟨ao, cap, xs, rfl, hS, hrow, hb⟩)
  go_ret
  exact ⟨ao, cap, xs, rfl, hS, hrow, hb⟩
end Go.Proofs.YtoijlikmigejbaaGreat

namespace Go.Proofs.YtoijlikmigejbaaGreat
open Go.RowKit Go.Shelf Go.Proofs.YtoijlikmigejbaaGreat.Pu
attribute [local go_sem] Oper.semAt_some

/-- what is left for the iterator in block r -/
def leftW {K V : Type} (m : List (K × V)) (r : Nat) (w : World) : Nat := match w.heap[r]? with
  | some (.mapIter _ _ seen _) => (leftM seen m 0).length
  | _ => 0
theorem MapIt.left {K V : Type} {eK : K → Value} {eV : V → Value} {w : World} {r b : Nat} {m : List (K × V)} {seen : Array Nat} (h : MapIt eK eV w r b m seen) : leftW m r w = (leftM seen m 0).length := by
  unfold leftW; rw [h.iter]
theorem MapIt.walks {K V : Type} {eK : K → Value} {eV : V → Value} {w w' : World} {r b : Nat} {m : List (K × V)} {seen : Array Nat} (h : MapIt eK eV w r b m seen) (hk : KeepsWalks w w') : MapIt eK eV w' r b m seen :=
  ⟨hk.same r _ h.iter rfl, hk.same b _ h.map rfl⟩
theorem AbidesFrom.alloc {β : Type} {B : Nat} {J : β → World → Prop} (h : AbidesFrom B J) {s : β} {W : World} (hs : J s W) (o : Obj) : J s (W.alloc o) := h s W _ none hs (World.grownBy_alloc W o none) (fun r e => by cases e)

set_option maxRecDepth 100000 in
set_option maxHeartbeats 4000000 in
theorem values_stops (n : Nat) (hn : 1 ≤ n) (n0 Bm b : Nat) (m : List (Int × Int)) (w : World) (hBm : Bm < w.heap.size) (hm : w.cell? ⟨Bm, 0, none⟩ = some (.map (some b))) (hb : w.heap[b]? = some (mapObj vi vi m)) :
    SeqStopsK Fence.wide n Tryz.prog 126 #[.pointer (some ⟨Bm, 0, none⟩)] (fun x => #[vi x]) (KB n0) (fun xs => xs.Perm (m.map (·.2))) (fun _ => True) m.length w := by
  intro l J Jx W hW hJ hJx hY h0
  have hcm : W.cell? ⟨Bm, 0, none⟩ = some (.map (some b)) := (hW.cell (p := ⟨Bm, 0, none⟩) hBm).trans hm
  have hbm : W.heap[b]? = some (mapObj vi vi m) := (hW.block b (Array.getElem?_eq_some_iff.1 hb).1).trans hb
  have hrg := run_rangeM (P := Tryz.prog) (w := W) Tryz.underlying77 hbm
  refine callsIn_of_wp Tryz.func126 rfl trivial ?_ rfl
  simp only [Tryz.ntmps126, List.size_toArray, List.length_cons, List.length_nil, Nat.reduceAdd, Nat.reduceSub, Array.replicate_succ, Array.replicate_zero, List.push_toArray, List.append_toArray, List.nil_append, List.cons_append]
  gi_wp2
  have hN := MapIt.new (eK := vi) (eV := vi) hbm
  have hJ0 := AbidesFrom.alloc hJ h0 (.mapIter (some b) m.length #[] m.length)
  gi_loopw [4] (fun _ wr => ∃ seen done, MapIt vi vi wr W.heap.size b m seen ∧ Hid (Came m seen done) ∧ J (done.map (·.2)) wr) (fun _ wr => leftW m W.heap.size wr)
  case atStart => exact ⟨#[], [], hN, Came.start m, hJ0⟩
  case round =>
    obtain ⟨seen, done, hit, hC, hJd⟩ := hrel
    clear hrg hcm hbm hN hJ0 h0
    gi_wp2_with (gi_at_next; refine wpListIn_nextM (K := Int) (V := Int) (eK := vi) (eV := vi) rfl _ rfl rfl hit ?_ ?_)
    · intro hnil
      have hall := hC.out.all hnil
      gi_wp2
      go_end0
      exact ⟨⟨_, rfl⟩, .inl ⟨_, hall.map _, hJd⟩⟩
    · intro i k v w2 hx hit2 hg2 hs2 hen
      have hJ2 : J (done.map (·.2)) w2 := hJ _ _ w2 (some W.heap.size) hJd hg2 (fun r e => by cases e; exact ⟨Nat.le_refl _, _, hit.iter, rfl⟩)
      obtain ⟨fn, tmps, assign, body, hy, hR⟩ := hY (done.map (·.2)) v w2 hJ2 (by rw [List.length_map]; exact hC.out.lt hx)
      have hC2 := Lib.hid (hC.out.step hx)
      have hdec := Lib.hid (leftM_dec hx)
      have hlw := Lib.hid hit.left
      clear hit hx hg2 hs2 hJ2
      gi_wp2
      refine hR.mono ?_
      rintro e W3 (⟨rfl, hJ3, hk3⟩ | ⟨rfl, hJx3⟩)
      · gi_wp2
        have hit3 := hit2.walks hk3.1
        go_roundw
        case rel => exact ⟨_, done ++ [(k, v)], hit3, hC2, by rw [List.map_append]; exact hJ3⟩
        case measure => rw [hit3.left, hlw.out]; exact hdec.out
      · gi_wp2
        refine bodyPost_ret (results_none rfl _ _ _) rfl ?_
        exact ⟨⟨_, rfl⟩, .inr ⟨_, trivial, hJx3⟩⟩

set_option maxRecDepth 100000 in
set_option maxHeartbeats 4000000 in
theorem keys_stops (n : Nat) (hn : 1 ≤ n) (n0 Bm b : Nat) (m : List ((Int × Int) × Int)) (w : World) (hBm : Bm < w.heap.size) (hm : w.cell? ⟨Bm, 0, none⟩ = some (.map (some b))) (hb : w.heap[b]? = some (mapObj kv vi m)) :
    SeqStopsK Fence.wide n Tryz.prog 141 #[.pointer (some ⟨Bm, 0, none⟩)] (fun x => #[kv x]) (KB n0) (fun xs => xs.Perm (m.map (·.1))) (fun _ => True) m.length w := by
  intro l J Jx W hW hJ hJx hY h0
  have hcm : W.cell? ⟨Bm, 0, none⟩ = some (.map (some b)) := (hW.cell (p := ⟨Bm, 0, none⟩) hBm).trans hm
  have hbm : W.heap[b]? = some (mapObj kv vi m) := (hW.block b (Array.getElem?_eq_some_iff.1 hb).1).trans hb
  have hrg := run_rangeM (P := Tryz.prog) (w := W) Tryz.underlying78 hbm
  refine callsIn_of_wp Tryz.func141 rfl trivial ?_ rfl
  simp only [Tryz.ntmps141, List.size_toArray, List.length_cons, List.length_nil, Nat.reduceAdd, Nat.reduceSub, Array.replicate_succ, Array.replicate_zero, List.push_toArray, List.append_toArray, List.nil_append, List.cons_append]
  gi_wp2
  have hN := MapIt.new (eK := kv) (eV := vi) hbm
  have hJ0 := AbidesFrom.alloc hJ h0 (.mapIter (some b) m.length #[] m.length)
  gi_loopw [3] (fun _ wr => ∃ seen done, MapIt kv vi wr W.heap.size b m seen ∧ Hid (Came m seen done) ∧ J (done.map (·.1)) wr) (fun _ wr => leftW m W.heap.size wr)
  case atStart => exact ⟨#[], [], hN, Came.start m, hJ0⟩
  case round =>
    obtain ⟨seen, done, hit, hC, hJd⟩ := hrel
    clear hrg hcm hbm hN hJ0 h0
    gi_wp2_with (gi_at_next; refine wpListIn_nextM (K := Int × Int) (V := Int) (eK := kv) (eV := vi) rfl _ rfl rfl hit ?_ ?_)
    · intro hnil
      have hall := hC.out.all hnil
      gi_wp2
      go_end0
      exact ⟨⟨_, rfl⟩, .inl ⟨_, hall.map _, hJd⟩⟩
    · intro i k1 k2 v w2 hx hit2 hg2 hs2 hen
      have hJ2 : J (done.map (·.1)) w2 := hJ _ _ w2 (some W.heap.size) hJd hg2 (fun r e => by cases e; exact ⟨Nat.le_refl _, _, hit.iter, rfl⟩)
      have hJ2a := AbidesFrom.alloc hJ hJ2 (.cells #[.int .i64 k1, .int .i64 k2] 90)
      have hit2a := hit2.walks (KeepsWalks.alloc w2 (.cells #[.int .i64 k1, .int .i64 k2] 90))
      obtain ⟨fn, tmps, assign, body, hy, hR⟩ := hY (done.map (·.1)) (k1, k2) _ hJ2a (by rw [List.length_map]; exact hC.out.lt hx)
      have hC2 := Lib.hid (hC.out.step hx)
      have hdec := Lib.hid (leftM_dec hx)
      have hlw := Lib.hid hit.left
      clear hit hx hg2 hs2 hJ2 hJ2a hit2
      gi_wp2
      refine hR.mono ?_
      rintro e W3 (⟨rfl, hJ3, hk3⟩ | ⟨rfl, hJx3⟩)
      · gi_wp2
        have hit3 := hit2a.walks hk3.1
        go_roundw
        case rel => exact ⟨_, done ++ [((k1, k2), v)], hit3, hC2, by rw [List.map_append]; exact hJ3⟩
        case measure => rw [hit3.left, hlw.out]; exact hdec.out
      · gi_wp2
        refine bodyPost_ret (results_none rfl _ _ _) rfl ?_
        exact ⟨⟨_, rfl⟩, .inr ⟨_, trivial, hJx3⟩⟩
end Go.Proofs.YtoijlikmigejbaaGreat

namespace Go.Proofs.YtoijlikmigejbaaGreat
open Go.RowKit Go.Shelf Go.Proofs.YtoijlikmigejbaaGreat.Pu
attribute [local go_sem] Oper.semAt_some

set_option maxRecDepth 100000 in
set_option maxHeartbeats 4000000 in
theorem xAppendP (n : Nat) (hn : 2 ≤ n) (g : Nat) (lb : Array Value) (eg : ∀ args w, (callFunc g args).run Tryz.prog w = .ok (.enter g args) w) (S Sp : List Post → Prop) (N : Nat) (hN : N ≤ 1000000) (w w0 : World)
    (hseq : SeqStopsK Fence.wide (n - 1) Tryz.prog g lb (fun x => #[pval x]) (KB w.heap.size) S Sp N w0) (hb0 : Below w0.heap.size w0 w) :
    CallsIn Fence.wide n Tryz.prog 127 #[.slice none 0 0, .func (.func g) #[] lb] w fun e w' => ∃ ao cap xs, e = .returned (.slice ao xs.length cap) ∧ S xs ∧ Own 36 8 pcells w.heap.size w' ao xs.length cap xs ∧ Below w.heap.size w w' := by
  have h1 : 1 ≤ n := by omega
  obtain ⟨i0, hi, hz0, hz1, hz2⟩ := info_parts infoPost
  refine callsIn_of_wp_marks Tryz.func127 rfl trivial ?_ rfl
  simp only [Tryz.ntmps127, List.size_toArray, List.length_cons, List.length_nil, Nat.reduceAdd, Nat.reduceSub, Array.replicate_succ, Array.replicate_zero, List.push_toArray, List.append_toArray, List.nil_append, List.cons_append]
  gi_wp2
  refine wpIn_rangeFunc_ownH rfl h1 (gf := g) (lb := lb) rfl trivial eg hseq KB.t (KB.b (by simp)) (hb0.trans (((Below.refl _ w).alloc (Nat.le_refl _) _).mono hb0.size)) (fun _ => rfl)
    (fun pre W => (∃ v, Boxed W w.heap.size 22 v ∧ W.ownsRow w.heap.size 36 8 v pre.length (flat pcells pre) ∧ True) ∧ Below w.heap.size w W)
    (fun _ _ _ => False)
    (OwnFrom.and (Own.from (holdsRow_own w.heap.size w.heap.size 22 36 8 (fun pre => pre.length) (fun pre => flat pcells pre) (fun _ _ => True)) _) (ownFrom_below (Nat.le_refl _) (by simp)))
    (fun _ _ _ _ _ hs _ _ => hs)
    ⟨⟨_, Boxed.new w _ _, World.ownsRow_nil _ _ _ _, trivial⟩, (Below.refl _ w).alloc (Nat.le_refl _) _⟩
    (fun x a' W => ∃ Bx, w.heap.size < Bx ∧ W.heap[Bx]? = some (.cells (pcells x).toArray 36 (0, 0)) ∧ a' = { tmps := #[.slice none 0 0, .func (.func g) #[] lb, .pointer (some ⟨w.heap.size, 0, none⟩), undef, .slice none 0 0, .pointer (some ⟨Bx, 0, none⟩), .func (.func g) #[] lb, pval x, undef, undef, undef, undef, undef], defers := [] })
    (fun x a' _ X Y row hs hg hr => by
      obtain ⟨Bx, h1, h2, h3⟩ := hs
      refine ⟨Bx, h1, (hg.block Bx (Array.getElem?_eq_some_iff.1 h2).1 (fun e => ?_)).trans h2, h3⟩
      obtain ⟨_, o, ho, hc⟩ := hr Bx e.symm
      rw [h2] at ho; cases ho; cases hc) ?assign ?body ?done ?stop
  case assign =>
    rintro l pre x W K ⟨⟨v, hv, hrow, _⟩, hB⟩ hK
    gi_wp2
    exact hK _ _ ((KeepsOthers.alloc _ _).from _) ⟨KeepsWalks.alloc _ _, (Below.refl _ W).alloc hB.size _⟩ ⟨⟨v, hv.alloc _, hrow.alloc _, trivial⟩, hB.alloc hB.size _⟩ ⟨W.heap.size, hv.lt, heap_alloc_new W _, rfl⟩
  case body =>
    rintro l pre x a' W hl ⟨r, hr⟩ ⟨⟨v, hv, hrow, _⟩, hB⟩ ⟨Bx, hBx, hbx, rfl⟩ hlt
    have hc := hv.cell
    have hf := hv.frozen
    have hlv := hv.lt
    clear hr
    have x0 : W.cell? ⟨Bx, 0, none⟩ = some (.int .i64 x.id) := (cell_of_row W Bx 0 _ _ _ hbx).trans rfl
    have x1 : W.cell? ⟨Bx, 1, none⟩ = some (.int .i64 x.hour) := (cell_of_row W Bx 1 _ _ _ hbx).trans rfl
    have x2 : W.cell? ⟨Bx, 2, none⟩ = some (.int .u8 x.kind) := (cell_of_row W Bx 2 _ _ _ hbx).trans rfl
    have x3 : W.cell? ⟨Bx, 3, none⟩ = some (.int .i64 x.party) := (cell_of_row W Bx 3 _ _ _ hbx).trans rfl
    have x4 : W.cell? ⟨Bx, 4, none⟩ = some (.int .i64 x.parcel) := (cell_of_row W Bx 4 _ _ _ hbx).trans rfl
    have x5 : W.cell? ⟨Bx, 5, none⟩ = some (.int .i64 x.amount) := (cell_of_row W Bx 5 _ _ _ hbx).trans rfl
    have x6 : W.cell? ⟨Bx, 6, none⟩ = some (.int .i64 x.reason) := (cell_of_row W Bx 6 _ _ _ hbx).trans rfl
    have x7 : W.cell? ⟨Bx, 7, none⟩ = some (.int .i64 x.known) := (cell_of_row W Bx 7 _ _ _ hbx).trans rfl
    gi_wp2_with (first
      | (gi_at_builtin; refine wpListIn_append_own _ rfl _ _ 22 rfl w.heap.size 36 i0 (pval zeroP) 8 64 Tryz.underlying22 hi hz0 hz1 hz2 rfl (by decide) _ _ _ rfl (hrow.alloc _) ⟨W.heap.size, 0, none⟩ 1 1 (pcells x) rfl rfl (World.news_of_block (heap_alloc_new W _)) (pcells_cell x) (by unfold maxLen; omega) (by omega) (by have := hB.size; simp; omega) ?_
         intro v' w1 hown' hgrow _
         obtain ⟨g', cap', rfl⟩ := ownsRow_succ hown'
         obtain ⟨hv1, hv2, hr2, hk2, hb2⟩ := hv.appended (by decide) hrow hB.size (Nat.le_refl _) hown' hgrow
         have hc1 := hv1.cell
         have hf1 := hv1.frozen
         go_frame))
    refine ⟨hk2.from _, ⟨KeepsWalks.of_others hk2, hb2⟩, ⟨_, hv2, ?_, trivial⟩, hB.trans hb2⟩
    rw [flat_app, flat_one, List.length_append]
    exact hr2
  case done =>
    rintro D xs W hD hS ⟨⟨v, hv, hrow, _⟩, hB⟩ hK
    obtain ⟨ao, cap, rfl⟩ := own_form hrow
    have hc := hv.cell
    gi_wp2
    refine ⟨by simp, .inl ⟨_, _, rfl, run_takeDeferred hK, ?_⟩⟩
    refine ⟨_, results_tmp rfl _ _ _, ao, cap, xs, rfl, hS, ?_, ?_⟩
    · exact ownsRow_putObj hrow _ hK rfl
    · exact hB.trans (belowK_b (w := w) (Nat.le_refl _) W D _ _ (by simp at hD; omega) hK rfl rfl)
  case stop =>
    rintro D c pre W _ _ h _
    exact h.elim
theorem xCollectP (n : Nat) (hn : 3 ≤ n) (g : Nat) (lb : Array Value) (eg : ∀ args w, (callFunc g args).run Tryz.prog w = .ok (.enter g args) w) (S Sp : List Post → Prop) (N : Nat) (hN : N ≤ 1000000) (w w0 : World)
    (hseq : SeqStopsK Fence.wide (n - 1 - 1) Tryz.prog g lb (fun x => #[pval x]) (KB w.heap.size) S Sp N w0) (hb0 : Below w0.heap.size w0 w) :
    CallsIn Fence.wide n Tryz.prog 90 #[.func (.func g) #[] lb] w fun e w' => ∃ ao cap xs, e = .returned (.slice ao xs.length cap) ∧ S xs ∧ Own 36 8 pcells w.heap.size w' ao xs.length cap xs ∧ Below w.heap.size w w' := by
  have h1 : 1 ≤ n := by omega
  refine callsIn_of_wp Tryz.func90 rfl trivial ?_ rfl
  simp only [Tryz.ntmps90, List.size_toArray, List.length_cons, List.length_nil, Nat.reduceAdd, Nat.reduceSub, Array.replicate_succ, Array.replicate_zero, List.push_toArray, List.append_toArray, List.nil_append, List.cons_append]
  gi_wp2_with (refine ⟨trivial, ?_⟩; gi_at_call 127; refine (xAppendP (n - 1) (by omega) g lb eg S Sp N hN w w0 hseq hb0).mono ?_; rintro e w' ⟨ao, cap, xs, rfl, hS, hrow, hb⟩)
  go_ret
  exact ⟨ao, cap, xs, rfl, hS, hrow, hb⟩
end Go.Proofs.YtoijlikmigejbaaGreat
