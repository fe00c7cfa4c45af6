/- Walks: the accounts that have something: the first that is wanted; the test for nothing. Walks: slices.DeleteFunc at accounts. -/
import Derived.Test.YtoijlikmigejbaaGreatG10
namespace Go.Proofs.YtoijlikmigejbaaGreat
open Go.RowKit Go.Shelf Go.Proofs.YtoijlikmigejbaaGreat.Pu

/-- a test of accounts -/
def WantsA (wf : FuncId) (wc : Array Value) (P : Int × Int → Bool) (M : Nat) (w : World) : Prop :=
  ∀ (a : Int × Int) (W : World), Below M w W → Calls Tryz.prog wf (#[kv a] ++ wc) W fun e W' => e = .returned (.bool (P a)) ∧ Below W.heap.size W W'
theorem SlAt.acct {B : Nat} {w : World} {ao : Option Addr} {l : List (Int × Int)} {i : Nat} {x : Int × Int} (h : SlAt 2 acells B w ao l) (hi : l[i]? = some x) :
    ∃ b o, ao = some ⟨b, o, none⟩ ∧ b < B ∧ w.cell? ⟨b, o + i * 2, none⟩ = some (.int .i64 x.1) ∧ w.cell? ⟨b, o + i * 2 + 1, none⟩ = some (.int .i64 x.2) := by
  rcases h with h | ⟨b, o, h1, h2, h3⟩
  · subst h; simp at hi
  · exact ⟨b, o, h1, h2, h3 i x hi 0 _ rfl, h3 i x hi 1 _ rfl⟩

/-- the place of the first that is wanted; -1: there is none -/
def idxP (P : Int × Int → Bool) (d : List (Int × Int)) : Int := match d.findIdx? P with
  | some i => (i : Int)
  | none => -1
theorem idxP_hit {P : Int × Int → Bool} {d : List (Int × Int)} {j : Nat} {a : Int × Int} (ha : d[j]? = some a) (hP : P a = true) (hb : ∀ i x, i < j → d[i]? = some x → P x = false) : idxP P d = (j : Int) := by
  obtain ⟨hj, rfl⟩ := List.getElem?_eq_some_iff.1 ha
  have : d.findIdx? P = some j := by
    rw [List.findIdx?_eq_some_iff_getElem]
    exact ⟨hj, hP, fun i hi => by rw [hb i _ hi (List.getElem?_eq_getElem (by omega))]; simp⟩
  unfold idxP; rw [this]
theorem idxP_miss {P : Int × Int → Bool} {d : List (Int × Int)} (hb : ∀ i x, i < d.length → d[i]? = some x → P x = false) : idxP P d = -1 := by
  have : d.findIdx? P = none := by
    rw [List.findIdx?_eq_none_iff]
    intro x hx
    obtain ⟨i, hi, rfl⟩ := List.getElem_of_mem hx
    exact hb i _ hi (List.getElem?_eq_getElem hi)
  unfold idxP; rw [this]

set_option maxRecDepth 100000 in
set_option maxHeartbeats 1000000 in
theorem xIndexA (wf : FuncId) (wc : Array Value) (P : Int × Int → Bool) (M : Nat) (d : List (Int × Int)) (n cap : Nat) (ao : Option Addr) (w : World) (hn : Hid (n = d.length)) (hm : n ≤ 100000) (hcap : n ≤ cap) (hs : SlAt 2 acells w.heap.size w ao d)
    (ew : ∀ args w, (callFunc wf args).run Tryz.prog w = .ok (.enter wf args) w) (hw : Hid (WantsA wf wc P M w)) (hM : M ≤ w.heap.size) :
    Calls Tryz.prog 138 #[.slice ao n cap, .func (.func wf) #[] wc] w fun e w' => e = .returned (.int .i64 (idxP P d)) ∧ Below w.heap.size w w' := by
  go_enter Tryz.func138, Tryz.ntmps138
  go_wp2
  go_loopw [5, 8] (fun _ i wr => ∃ j : Nat, j ≤ n ∧ i = .int .i64 j ∧ Below w.heap.size w wr ∧ Hid (∀ i x, i < j → d[i]? = some x → P x = false)) (fun _ i _ => n - (intOf i).toNat)
  case atStart => exact ⟨0, Nat.zero_le _, rfl, Below.refl _ _, fun i x hi => by omega⟩
  case round =>
    obtain ⟨j, hj, rfl, hb, hno⟩ := hrel
    by_cases hlt : j < n
    · obtain ⟨a, ha⟩ := getq (l := d) (j := j) (by rw [← hn.out]; exact hlt)
      obtain ⟨b, o, rfl, hb0, c0, c1⟩ := (hs.below hb).acct ha
      have ha' := Lib.hid ha
      have hjc : j ≤ cap := by omega
      have hcall := hw.out a wr (hb.mono hM)
      clear ha
      cases hP : P a with
      | true =>
        rw [hP] at hcall
        have hres : Hid (idxP P d = (j : Int)) := idxP_hit ha'.out hP hno.out
        replace hcall := Lib.hid hcall
        go_wp2_with (refine hcall.out.mono ?_; rintro e w2 ⟨rfl, hB2⟩)
        go_ret
        exact ⟨by rw [hres.out]; rfl, hb.trans (hB2.mono hb.size)⟩
      | false =>
        rw [hP] at hcall
        replace hcall := Lib.hid hcall
        go_wp2_with (refine hcall.out.mono ?_; rintro e w2 ⟨rfl, hB2⟩)
        go_roundw
        case rel => exact ⟨j + 1, by omega, by go_num, hb.trans (hB2.mono hb.size), fun i x hi hx => by
            by_cases e : i = j
            · subst e; rw [ha'.out] at hx; cases hx; exact hP
            · exact hno.out i x (by omega) hx⟩
        case measure => simp [intOf]; omega
    · obtain rfl : j = n := by omega
      have hres : Hid (idxP P d = -1) := idxP_miss (by rw [← hn.out]; exact hno.out)
      go_wp2
      go_ret
      exact ⟨by rw [hres.out]; rfl, hb⟩

/-- nothing is had -/
def noneP (c : CS) (a : Int × Int) : Bool := gd c.has a == 0
set_option maxRecDepth 100000 in
set_option maxHeartbeats 2000000 in
theorem wants_none (N Bc M : Nat) (c : CS) (w : World) (hC : ChestAt w N c) (hB : Bc < M) (hN : N + 5 < M) (hM : M ≤ w.heap.size) (hc : w.cell? ⟨Bc, 0, none⟩ = some (.pointer (some ⟨N + 5, 0, none⟩))) :
    WantsA 124 #[.pointer (some ⟨Bc, 0, none⟩)] (noneP c) M w := by
  rintro ⟨x, y⟩ W hW
  have hcW := (hW.cell (p := ⟨Bc, 0, none⟩) hB).trans hc
  have hlt : Bc < W.heap.size := Nat.lt_of_lt_of_le hB (Nat.le_trans hM hW.size)
  have hCW := (hC.below hW hN).alloc (.cells #[.int .i64 x, .int .i64 y] 90)
  have hl := hasLook hCW x y
  have c5 := hCW.c5
  have hAb := ABox.new W x y 90
  have hBW : Below W.heap.size W (W.alloc (.cells #[.int .i64 x, .int .i64 y] 90)) := (Below.refl _ _).alloc (Nat.le_refl _) _
  have hcA := far_cell (o := .cells #[.int .i64 x, .int .i64 y] 90) hcW
  obtain ⟨v, hv⟩ : ∃ v, Hid (gd c.has (x, y) = v) := ⟨_, rfl⟩
  have hP : Hid (noneP c (x, y) = (v == 0)) := by show _ = _; unfold noneP; rw [hv.out]
  rw [hv.out] at hl
  have hNW : N + 5 < W.heap.size := Nat.lt_of_lt_of_le hN (Nat.le_trans hM hW.size)
  clear hCW hcW
  go_enter Tryz.func124, Tryz.ntmps124
  go_wp2
  refine wp_world (R := fun W2 => ((W2.cell? ⟨Bc, 0, none⟩ = some (.pointer (some ⟨N + 5, 0, none⟩)) ∧ W2.cell? ⟨N + 5, 5, none⟩ = some (.map (some (N + 3)))) ∧ ABox W2 W.heap.size x y ∧ Below W.heap.size W W2) ∧ Hid (∀ n, (Instr.lookup 78 (.map (some (N + 3))) (.agg #[.int .i64 x, .int .i64 y]) false).run Tryz.prog (W2.drewN n) = .ok (.int .i64 v) (W2.drewN n)))
    ⟨⟨⟨hcA, c5⟩, hAb, hBW⟩, hl⟩ ?_
  clear hl c5 hAb hBW hcA
  rintro W2 ⟨⟨⟨d0, d1⟩, hA, hBW⟩, hl⟩
  have a0 := hA.c0
  have a1 := hA.c1
  have hl2 := hl.out
  replace hBW := Lib.hid hBW
  clear hA hl
  go_quiet (fail)
  go_wp2
  go_ret
  exact ⟨ret_bool hP.out.symm, below_drewN hBW.out _⟩
end Go.Proofs.YtoijlikmigejbaaGreat

namespace Go.Proofs.YtoijlikmigejbaaGreat
open Go.RowKit Go.Shelf Go.Proofs.YtoijlikmigejbaaGreat.Pu

/-- a row of accounts that may be written -/
structure RowA (w : World) (rb : Nat) (d : List (Int × Int)) : Prop where
  lt : rb < w.heap.size
  c0 : ∀ i x, d[i]? = some x → w.cell? ⟨rb, i * 2, none⟩ = some (.int .i64 x.1)
  c1 : ∀ i x, d[i]? = some x → w.cell? ⟨rb, i * 2 + 1, none⟩ = some (.int .i64 x.2)
  fz : ∀ j, w.frozen? ⟨rb, j, none⟩ = false
theorem RowA.after {w w' : World} {rb : Nat} {d : List (Int × Int)} (h : RowA w rb d) (hb : Below w.heap.size w w') : RowA w' rb d :=
  ⟨Nat.lt_of_lt_of_le h.lt hb.size, fun i x hi => (hb.cell (p := ⟨rb, i * 2, none⟩) h.lt).trans (h.c0 i x hi), fun i x hi => (hb.cell (p := ⟨rb, i * 2 + 1, none⟩) h.lt).trans (h.c1 i x hi), fun j => (hb.frozen (p := ⟨rb, j, none⟩) h.lt).trans (h.fz j)⟩
theorem RowA.set {w : World} {rb : Nat} {d : List (Int × Int)} (h : RowA w rb d) (i : Nat) (hi : i < d.length) (a : Int × Int) :
    RowA ((w.setCell ⟨rb, i * 2, none⟩ (.int .i64 a.1)).setCell ⟨rb, i * 2 + 1, none⟩ (.int .i64 a.2)) rb (d.set i a) := by
  obtain ⟨y, hy⟩ := getq hi
  have e0 := h.c0 i y hy
  have e1 := h.c1 i y hy
  refine ⟨by simp; exact h.lt, fun j x hx => ?_, fun j x hx => ?_, fun j => by rw [World.frozen?_setCell, World.frozen?_setCell]; exact h.fz j⟩
  · rw [List.getElem?_set] at hx
    rw [World.cell?_setCell_other _ _ _ _ (by simp <;> omega)]
    by_cases e : i = j
    · subst e
      rw [if_pos rfl, if_pos hi] at hx; cases hx
      exact World.cell?_setCell_same _ _ _ e0
    · rw [if_neg e] at hx
      rw [World.cell?_setCell_other _ _ _ _ (by simp <;> omega)]; exact h.c0 j x hx
  · rw [List.getElem?_set] at hx
    by_cases e : i = j
    · subst e
      rw [if_pos rfl, if_pos hi] at hx; cases hx
      refine World.cell?_setCell_same _ _ _ (u := .int .i64 y.2) ?_
      rw [World.cell?_setCell_other _ _ _ _ (by simp)]; exact e1
    · rw [if_neg e] at hx
      rw [World.cell?_setCell_other _ _ _ _ (by simp <;> omega), World.cell?_setCell_other _ _ _ _ (by simp <;> omega)]; exact h.c1 j x hx
theorem RowA.slAt {w : World} {rb : Nat} {d : List (Int × Int)} (h : RowA w rb d) : SlAt 2 acells w.heap.size w (some ⟨rb, 0, none⟩) d := by
  refine .inr ⟨rb, 0, rfl, h.lt, fun i x hx j u hu => ?_⟩
  rw [Nat.zero_add]
  match j, hu with
  | 0, hu => cases hu; exact h.c0 i x hx
  | 1, hu => cases hu; exact h.c1 i x hx
  | j + 2, hu => simp [acells] at hu
theorem RowA.take {w : World} {rb : Nat} {d : List (Int × Int)} (h : RowA w rb d) (m : Nat) : RowA w rb (d.take m) :=
  ⟨h.lt, fun i x hi => h.c0 i x (by rw [List.getElem?_take] at hi; split at hi; exact hi; cases hi), fun i x hi => h.c1 i x (by rw [List.getElem?_take] at hi; split at hi; exact hi; cases hi), h.fz⟩
theorem setCells_below (w : World) (rb : Nat) : ∀ (vs : List Value) (o : Nat) {M : Nat} {w0 : World}, Below M w0 w → M ≤ rb → Below M w0 (w.setCells rb o vs) := by
  intro vs
  induction vs generalizing w with
  | nil => intro o M w0 h _; exact h
  | cons v r ih => intro o M w0 h hM; exact ih _ _ (h.setCell (p := ⟨rb, o, none⟩) hM v) hM
theorem setCells_cell (rb : Nat) : ∀ (vs : List Value) (w : World) (o k : Nat), k < o → (w.setCells rb o vs).cell? ⟨rb, k, none⟩ = w.cell? ⟨rb, k, none⟩
  | [], _, _, _, _ => rfl
  | v :: r, w, o, k, h => by
    rw [World.setCells, setCells_cell rb r _ (o + 1) k (by omega)]
    exact World.cell?_setCell_other _ _ _ _ (by simp <;> omega)
theorem setCells_frozen (rb : Nat) : ∀ (vs : List Value) (w : World) (o : Nat) (a : Addr), (w.setCells rb o vs).frozen? a = w.frozen? a
  | [], _, _, _ => rfl
  | v :: r, w, o, a => by
    rw [World.setCells, setCells_frozen rb r _ (o + 1) a]
    exact World.frozen?_setCell _ _ _ _
theorem setCells_size (rb : Nat) : ∀ (vs : List Value) (w : World) (o : Nat), (w.setCells rb o vs).heap.size = w.heap.size
  | [], _, _ => rfl
  | v :: r, w, o => by rw [World.setCells, setCells_size rb r _ (o + 1)]; simp

/-- the place of the first that is kept no more -/
theorem filter_take_of {P : Int × Int → Bool} {d : List (Int × Int)} {j : Nat} (hb : ∀ i x, i < j → d[i]? = some x → P x = false) : (d.take j).filter (fun a => !P a) = d.take j := by
  rw [List.filter_eq_self]
  intro a ha
  obtain ⟨i, hi, rfl⟩ := List.getElem_of_mem ha
  have hij : i < j := by simp at hi; omega
  rw [List.getElem_take, hb i _ hij (List.getElem?_eq_getElem (by simp at hi; omega))]; rfl

theorem filter_stepA {P : Int × Int → Bool} {d : List (Int × Int)} {j : Nat} {a : Int × Int} (h : d[j]? = some a) : (d.take (j + 1)).filter (fun a => !P a) = (d.take j).filter (fun a => !P a) ++ (if P a then [] else [a]) := by
  rw [take_snoc h, List.filter_append]
  cases hP : P a <;> simp [hP]
theorem set_take {α : Type} {cur : List α} {i : Nat} (hi : i < cur.length) (a : α) : (cur.set i a).take (i + 1) = cur.take i ++ [a] := by
  apply List.ext_getElem?
  intro k
  rw [List.getElem?_take, List.getElem?_append, List.getElem?_set]
  simp only [List.length_take]
  by_cases h1 : k < i
  · rw [if_pos (by omega), if_neg (by omega), if_pos (by omega), List.getElem?_take, if_pos h1]
  · by_cases h2 : k = i
    · subst h2; rw [if_pos (by omega), if_pos rfl, if_pos hi, if_neg (by omega)]
      rw [show k - min k cur.length = 0 by omega]; rfl
    · rw [if_neg (by omega), if_neg (by omega), List.getElem?_eq_none (by simp; omega)]
theorem set_drop {α : Type} {cur : List α} {i j : Nat} (h : i < j) (a : α) : (cur.set i a).drop j = cur.drop j := List.drop_set_of_lt h
theorem drop_get {α : Type} {cur d : List α} {j k : Nat} {a : α} (h : cur.drop j = d.drop j) (hk : j ≤ k) (ha : d[k]? = some a) : cur[k]? = some a := by
  have h1 : (cur.drop j)[k - j]? = (d.drop j)[k - j]? := by rw [h]
  rw [List.getElem?_drop, List.getElem?_drop, show j + (k - j) = k by omega] at h1
  rw [h1]; exact ha

theorem RowA.some {w : World} {rb : Nat} {d : List (Int × Int)} (h : RowA w rb d) {k : Nat} (hk : k < d.length * 2) : (w.cell? ⟨rb, k, none⟩).isSome = true := by
  obtain ⟨x, hx⟩ := getq (l := d) (j := k / 2) (by omega)
  rcases Nat.mod_two_eq_zero_or_one k with h2 | h2
  · have := h.c0 _ x hx; rw [show k / 2 * 2 = k by omega] at this; rw [this]; rfl
  · have := h.c1 _ x hx; rw [show k / 2 * 2 + 1 = k by omega] at this; rw [this]; rfl
theorem run_clearA (w : World) (ty : TypeId) (b o n c : Nat) (hn : 0 < n) (hc : ∀ j, j < n * 2 → (w.cell? ⟨b, o + j, none⟩).isSome = true) (hf : ∀ j, j < n * 2 → w.frozen? ⟨b, o + j, none⟩ = false) :
    ∃ zs, (Builtin.clear_ #[114] ty #[.slice (some ⟨b, o, none⟩) n c]).run Tryz.prog w = .ok (.tuple #[]) (w.setCells b o zs) := by
  have hlen : (Builtin.zeroCells #[.int .i64 0, .int .i64 0] n).toList.length = n * 2 := by simp [Builtin.zeroCells]
  have hone : ∀ v ∈ (Builtin.zeroCells #[.int .i64 0, .int .i64 0] n).toList, v.oneCell' = true := by
    intro v hv
    simp only [Builtin.zeroCells, Array.toList_map, List.mem_map] at hv
    obtain ⟨i, _, rfl⟩ := hv
    have : i % 2 = 0 ∨ i % 2 = 1 := Nat.mod_two_eq_zero_or_one i
    rcases this with h | h <;> simp [h, Value.oneCell']
  have hst := run_storeCells_cells (P := Tryz.prog) b o (Builtin.zeroCells #[.int .i64 0, .int .i64 0] n).toList 0 w (by rw [hlen]; simpa using hc) (by rw [hlen]; simpa using hf) hone
  simp only [Nat.add_zero] at hst
  obtain ⟨m, rfl⟩ : ∃ m, n = m + 1 := ⟨n - 1, by omega⟩
  exact ⟨(Builtin.zeroCells #[.int .i64 0, .int .i64 0] (m + 1)).toList, by simp [Builtin.clear_, run_underlying Tryz.underlying114, Value.cells, hst]⟩

/-- DeleteFunc's answer -/
def DelRes (rb M : Nat) (d : List (Int × Int)) (w : World) (e : Ending) (w' : World) : Prop :=
  ∃ cap', e = .returned (.slice (some ⟨rb, 0, none⟩) d.length cap') ∧ d.length ≤ cap' ∧ RowA w' rb d ∧ Below M w w'

set_option maxRecDepth 100000 in
set_option maxHeartbeats 4000000 in
theorem xDeleteA (wf : FuncId) (wc : Array Value) (P : Int × Int → Bool) (M : Nat) (d : List (Int × Int)) (n cap rb : Nat) (w : World) (hn : Hid (n = d.length)) (hm : n ≤ 100000) (hcap : n ≤ cap) (hR : RowA w rb d)
    (ew : ∀ args w, (callFunc wf args).run Tryz.prog w = .ok (.enter wf args) w) (hw : Hid (WantsA wf wc P M w)) (hM : M ≤ rb) :
    Calls Tryz.prog 121 #[.slice (some ⟨rb, 0, none⟩) n cap, .func (.func wf) #[] wc] w (DelRes rb M (d.filter fun a => !P a) w) := by
  have hlt := hR.lt
  have hix := Lib.hid (xIndexA wf wc P M d n cap (some ⟨rb, 0, none⟩) w hn hm hcap hR.slAt ew hw (by omega))
  replace hR := Lib.hid hR
  rcases hfi : d.findIdx? P with _ | i0
  · have hall := List.findIdx?_eq_none_iff.1 hfi
    have hidx : idxP P d = -1 := by unfold idxP; rw [hfi]
    rw [hidx] at hix
    have hfil : d.filter (fun a => !P a) = d := List.filter_eq_self.2 fun a ha => by rw [hall a ha]; rfl
    replace hfil := Lib.hid hfil
    clear hidx hall hfi
    go_enter Tryz.func121, Tryz.ntmps121
    go_wp2_with (go_at_call 138; refine hix.out.mono ?_; rintro e w1 ⟨rfl, hB1⟩)
    go_ret
    rw [hfil.out]
    exact ⟨cap, by rw [← hn.out]; rfl, by rw [← hn.out]; exact hcap, hR.out.after hB1, hB1.mono (by omega)⟩
  · obtain ⟨hi0, hP0, hno⟩ := List.findIdx?_eq_some_iff_getElem.1 hfi
    have hidx : idxP P d = (i0 : Int) := by unfold idxP; rw [hfi]
    rw [hidx] at hix
    have hi0n : i0 < n := by rw [hn.out]; exact hi0
    have hno' : ∀ i x, i < i0 → d[i]? = some x → P x = false := fun i x hi hx => by
      obtain ⟨h1, rfl⟩ := List.getElem?_eq_some_iff.1 hx
      have := hno i hi; simpa using this
    have hst : Hid ((d.take (i0 + 1)).filter (fun a => !P a) = d.take i0) := by
      show _ = _
      rw [filter_stepA (List.getElem?_eq_getElem hi0), filter_take_of hno', if_pos hP0, List.append_nil]
    have h1 : ((i0 : Int) == -1) = false := by simp
    clear hidx hfi hno hno' hP0
    replace hi0 := Lib.hid hi0
    go_enter Tryz.func121, Tryz.ntmps121
    go_wp2_with (go_at_call 138; refine hix.out.mono ?_; rintro e w1 ⟨rfl, hB1⟩)
    go_loopw [5, 6] (fun iv jv wr => ∃ (i j : Nat) (cur : List (Int × Int)), iv = .int .i64 i ∧ jv = .int .i64 j ∧ i < j ∧ j ≤ n ∧ Hid (cur.length = n) ∧ Hid (cur.take i = (d.take j).filter (fun a => !P a)) ∧ Hid (cur.drop j = d.drop j) ∧ Hid (RowA wr rb cur) ∧ Below M w wr) (fun _ jv _ => n - (intOf jv).toNat)
    case atStart => exact ⟨i0, i0 + 1, d, rfl, by go_num, by omega, by omega, hn.out.symm, hst.out.symm, rfl, hR.out.after hB1, hB1.mono (by omega)⟩
    case round =>
      obtain ⟨i, j, cur, rfl, rfl, hij, hj, hl, htk, hdr, hRc, hb⟩ := hrel
      have hrl := hRc.out.lt
      by_cases hltj : j < n
      · obtain ⟨a, ha⟩ := getq (l := d) (j := j) (by rw [← hn.out]; exact hltj)
        have hac := drop_get hdr.out (Nat.le_refl _) ha
        have e0 := hRc.out.c0 j a hac
        have e1 := hRc.out.c1 j a hac
        have hcall := hw.out a (wr.alloc (.cells #[.int .i64 a.1, .int .i64 a.2] 90)) (hb.alloc (by omega) _)
        have hbx := ABox.new wr a.1 a.2 90
        have hba := Lib.hid (hb.alloc (by omega) (.cells #[.int .i64 a.1, .int .i64 a.2] 90))
        have hRa := Lib.hid (hRc.out.after ((Below.refl _ wr).alloc (Nat.le_refl _) (.cells #[.int .i64 a.1, .int .i64 a.2] 90)))
        have ha' := Lib.hid ha
        have hjc : j ≤ cap := by omega
        clear ha hac
        cases hP : P a with
        | true =>
          rw [hP] at hcall
          replace hcall := Lib.hid hcall
          go_wp2_with (refine hcall.out.mono ?_; rintro e w2 ⟨rfl, hB2⟩)
          go_roundw
          case rel =>
            refine ⟨i, j + 1, cur, rfl, by go_num, by omega, by omega, hl, ?_, ?_, Lib.hid (hRa.out.after hB2), hba.out.trans (hB2.mono (by have := hba.out.size; simp; omega))⟩
            · show _ = _; rw [filter_stepA ha'.out, hP, if_pos rfl, List.append_nil]; exact htk.out
            · show _ = _; have := congrArg (List.drop 1) hdr.out; rwa [List.drop_drop, List.drop_drop] at this
          case measure => simp [intOf]; omega
        | false =>
          rw [hP] at hcall
          replace hcall := Lib.hid hcall
          obtain ⟨y, hy⟩ := getq (l := cur) (j := i) (by rw [hl.out]; omega)
          replace hy := Lib.hid hy
          have hin : i ≤ cap := by omega
          replace hbx := Lib.hid hbx
          go_wp2_with (refine hcall.out.mono ?_; rintro e w2 ⟨rfl, hB2⟩; have hR2 := hRa.out.after hB2; have q0 := (hB2.cell (p := ⟨wr.heap.size, 0, none⟩) (by simp)).trans hbx.out.c0; have q1 := (hB2.cell (p := ⟨wr.heap.size, 1, none⟩) (by simp)).trans hbx.out.c1; have e2 := hR2.c0 i y hy.out; have e3 := hR2.c1 i y hy.out; have z := hR2.fz; replace hR2 := Lib.hid hR2)
          go_roundw
          case rel =>
            refine ⟨i + 1, j + 1, cur.set i a, by go_num, by go_num, by omega, by omega, ?_, ?_, ?_, Lib.hid (hR2.out.set i (by rw [hl.out]; omega) a), ?_⟩
            · show _ = _; rw [List.length_set]; exact hl.out
            · show _ = _; rw [filter_stepA ha'.out, hP, set_take (by rw [hl.out]; omega), htk.out]; rfl
            · show _ = _; rw [set_drop (by omega)]; have := congrArg (List.drop 1) hdr.out; rwa [List.drop_drop, List.drop_drop] at this
            · exact ((hba.out.trans (hB2.mono (by have := hba.out.size; simp; omega))).setCell (p := ⟨rb, i * 2, none⟩) hM _).setCell (p := ⟨rb, i * 2 + 1, none⟩) hM _
          case measure => simp [intOf]; omega
      · obtain rfl : n = j := by omega
        have hfil : Hid (cur.take i = d.filter fun a => !P a) := by
          show _ = _
          rw [htk.out, List.take_of_length_le (by rw [hn.out]; exact Nat.le_refl _)]
        have hlen : Hid ((d.filter fun a => !P a).length = i) := by
          show _ = _
          rw [← hfil.out, List.length_take, hl.out]; omega
        have hic : i ≤ cap := by omega
        obtain ⟨zs, hcl⟩ := run_clearA wr 0 rb (i * 2) (n - i) (cap - i) (by omega) (fun k hk => RowA.some hRc.out (by rw [hl.out]; omega)) (fun k _ => hRc.out.fz _)
        go_wp2
        go_ret
        refine ⟨cap, by rw [hlen.out]; rfl, by rw [hlen.out]; omega, ?_, setCells_below wr rb zs _ hb hM⟩
        rw [← hfil.out]
        have hR2 := hRc.out.take i
        refine ⟨by rw [setCells_size]; exact hR2.lt, fun k x hk => ?_, fun k x hk => ?_, fun k => by rw [setCells_frozen]; exact hR2.fz k⟩
        · rw [setCells_cell _ _ _ _ _ (by have := (List.getElem?_eq_some_iff.1 hk).1; simp at this; omega)]; exact hR2.c0 k x hk
        · rw [setCells_cell _ _ _ _ _ (by have := (List.getElem?_eq_some_iff.1 hk).1; simp at this; omega)]; exact hR2.c1 k x hk
end Go.Proofs.YtoijlikmigejbaaGreat
