/- Walks: slices.IndexFunc, slices.DeleteFunc at Bal. -/
import Derived.Test.YtoijlikmigejbaaGreatCDelG
import Derived.Test.YtoijlikmigejbaaGreatCRhC
namespace Go.Proofs.YtoijlikmigejbaaGreat
open Go.RowKit Go.Shelf Go.Proofs.YtoijlikmigejbaaGreat.Pu

/-- a test -/
def WantsB (wf : FuncId) (wc : Array Value) (P : Bal → Bool) (M : Nat) (w : World) : Prop :=
  ∀ (a : Bal) (W : World), Below M w W → Calls Tryz.prog wf (#[.agg #[.int .i64 a.party, .int .i64 a.paid, .int .i64 a.back]] ++ wc) W fun e W' => e = .returned (.bool (P a)) ∧ Below W.heap.size W W'

set_option maxRecDepth 100000 in
set_option maxHeartbeats 1000000 in
theorem xIndexB (wf : FuncId) (wc : Array Value) (P : Bal → Bool) (M : Nat) (d : List Bal) (n cap : Nat) (ao : Option Addr) (w : World) (hn : Hid (n = d.length)) (hm : n ≤ 100000) (hcap : n ≤ cap) (hs : SlAt 3 bcells w.heap.size w ao d)
    (ew : ∀ args w, (callFunc wf args).run Tryz.prog w = .ok (.enter wf args) w) (hw : Hid (WantsB wf wc P M w)) (hM : M ≤ w.heap.size) :
    Calls Tryz.prog 118 #[.slice ao n cap, .func (.func wf) #[] wc] w fun e w' => e = .returned (.int .i64 (idxG P d)) ∧ Below w.heap.size w w' := by
  go_enter Tryz.func118, Tryz.ntmps118
  go_wp2
  go_loopw [5, 8] (fun _ i wr => ∃ j : Nat, j ≤ n ∧ i = .int .i64 j ∧ Below w.heap.size w wr ∧ Hid (∀ i x, i < j → d[i]? = some x → P x = false)) (fun _ i _ => n - (intOf i).toNat)
  case atStart => exact ⟨0, Nat.zero_le _, rfl, Below.refl _ _, fun i x hi => by omega⟩
  case round =>
    obtain ⟨j, hj, rfl, hb, hno⟩ := hrel
    by_cases hlt : j < n
    · obtain ⟨a, ha⟩ := getq (l := d) (j := j) (by rw [← hn.out]; exact hlt)
      obtain ⟨b, o, rfl, hb0, c0, c1, c2⟩ := (hs.below hb).bal ha
      have ha' := Lib.hid ha
      have hjc : j ≤ cap := by omega
      have hcall := hw.out a wr (hb.mono hM)
      clear ha
      cases hP : P a with
      | true =>
        rw [hP] at hcall
        have hres : Hid (idxG P d = (j : Int)) := idxG_hit ha'.out hP hno.out
        replace hcall := Lib.hid hcall
        go_wp2_with (refine hcall.out.mono ?_; rintro e w2 ⟨rfl, hB2⟩)
        go_ret
        exact ⟨by rw [hres.out]; rfl, hb.trans (hB2.mono hb.size)⟩
      | false =>
        rw [hP] at hcall
        replace hcall := Lib.hid hcall
        go_wp2_with (refine hcall.out.mono ?_; rintro e w2 ⟨rfl, hB2⟩)
        go_roundw
        case rel => exact ⟨j + 1, by omega, by go_num, hb.trans (hB2.mono hb.size), fun i x hi hx => by
            by_cases e : i = j
            · subst e; rw [ha'.out] at hx; cases hx; exact hP
            · exact hno.out i x (by omega) hx⟩
        case measure => simp [intOf]; omega
    · obtain rfl : j = n := by omega
      have hres : Hid (idxG P d = -1) := idxG_miss (by rw [← hn.out]; exact hno.out)
      go_wp2
      go_ret
      exact ⟨by rw [hres.out]; rfl, hb⟩

/-- a row that may be written -/
structure RowB (w : World) (rb : Nat) (d : List Bal) : Prop where
  lt : rb < w.heap.size
  c0 : ∀ i x, d[i]? = some x → w.cell? ⟨rb, i * 3, none⟩ = some (.int .i64 x.party)
  c1 : ∀ i x, d[i]? = some x → w.cell? ⟨rb, i * 3 + 1, none⟩ = some (.int .i64 x.paid)
  c2 : ∀ i x, d[i]? = some x → w.cell? ⟨rb, i * 3 + 2, none⟩ = some (.int .i64 x.back)
  fz : ∀ j, w.frozen? ⟨rb, j, none⟩ = false
theorem RowB.after {w w' : World} {rb : Nat} {d : List Bal} (h : RowB w rb d) (hb : Below w.heap.size w w') : RowB w' rb d :=
  ⟨Nat.lt_of_lt_of_le h.lt hb.size, fun i x hi => (hb.cell (p := ⟨rb, i * 3, none⟩) h.lt).trans (h.c0 i x hi), fun i x hi => (hb.cell (p := ⟨rb, i * 3 + 1, none⟩) h.lt).trans (h.c1 i x hi), fun i x hi => (hb.cell (p := ⟨rb, i * 3 + 2, none⟩) h.lt).trans (h.c2 i x hi), fun j => (hb.frozen (p := ⟨rb, j, none⟩) h.lt).trans (h.fz j)⟩
theorem RowB.set {w : World} {rb : Nat} {d : List Bal} (h : RowB w rb d) (i : Nat) (hi : i < d.length) (a : Bal) :
    RowB (((w.setCell ⟨rb, i * 3, none⟩ (.int .i64 a.party)).setCell ⟨rb, i * 3 + 1, none⟩ (.int .i64 a.paid)).setCell ⟨rb, i * 3 + 2, none⟩ (.int .i64 a.back)) rb (d.set i a) := by
  obtain ⟨y, hy⟩ := getq hi
  have e0 := h.c0 i y hy
  have e1 := h.c1 i y hy
  have e2 := h.c2 i y hy
  refine ⟨by simp; exact h.lt, fun j x hx => ?_, fun j x hx => ?_, fun j x hx => ?_, fun j => by rw [World.frozen?_setCell, World.frozen?_setCell, World.frozen?_setCell]; exact h.fz j⟩
  · rw [List.getElem?_set] at hx
    rw [World.cell?_setCell_other _ _ _ _ (by simp <;> omega), World.cell?_setCell_other _ _ _ _ (by simp <;> omega)]
    by_cases e : i = j
    · subst e
      rw [if_pos rfl, if_pos hi] at hx; cases hx
      refine World.cell?_setCell_same _ _ _ (u := .int .i64 y.party) ?_
      exact e0
    · rw [if_neg e] at hx
      rw [World.cell?_setCell_other _ _ _ _ (by simp <;> omega)]; exact h.c0 j x hx
  · rw [List.getElem?_set] at hx
    rw [World.cell?_setCell_other _ _ _ _ (by simp <;> omega)]
    by_cases e : i = j
    · subst e
      rw [if_pos rfl, if_pos hi] at hx; cases hx
      refine World.cell?_setCell_same _ _ _ (u := .int .i64 y.paid) ?_
      rw [World.cell?_setCell_other _ _ _ _ (by simp)]
      exact e1
    · rw [if_neg e] at hx
      rw [World.cell?_setCell_other _ _ _ _ (by simp <;> omega), World.cell?_setCell_other _ _ _ _ (by simp <;> omega)]; exact h.c1 j x hx
  · rw [List.getElem?_set] at hx
    by_cases e : i = j
    · subst e
      rw [if_pos rfl, if_pos hi] at hx; cases hx
      refine World.cell?_setCell_same _ _ _ (u := .int .i64 y.back) ?_
      rw [World.cell?_setCell_other _ _ _ _ (by simp), World.cell?_setCell_other _ _ _ _ (by simp)]
      exact e2
    · rw [if_neg e] at hx
      rw [World.cell?_setCell_other _ _ _ _ (by simp <;> omega), World.cell?_setCell_other _ _ _ _ (by simp <;> omega), World.cell?_setCell_other _ _ _ _ (by simp <;> omega)]; exact h.c2 j x hx
theorem RowB.slAt {w : World} {rb : Nat} {d : List Bal} (h : RowB w rb d) : SlAt 3 bcells w.heap.size w (some ⟨rb, 0, none⟩) d := by
  refine .inr ⟨rb, 0, rfl, h.lt, fun i x hx j u hu => ?_⟩
  rw [Nat.zero_add]
  match j, hu with
  | 0, hu => cases hu; exact h.c0 i x hx
  | 1, hu => cases hu; exact h.c1 i x hx
  | 2, hu => cases hu; exact h.c2 i x hx
  | j + 3, hu => simp [bcells] at hu
theorem RowB.take {w : World} {rb : Nat} {d : List Bal} (h : RowB w rb d) (m : Nat) : RowB w rb (d.take m) :=
  ⟨h.lt, fun i x hi => h.c0 i x (by rw [List.getElem?_take] at hi; split at hi; exact hi; cases hi), fun i x hi => h.c1 i x (by rw [List.getElem?_take] at hi; split at hi; exact hi; cases hi), fun i x hi => h.c2 i x (by rw [List.getElem?_take] at hi; split at hi; exact hi; cases hi), h.fz⟩
theorem RowB.some {w : World} {rb : Nat} {d : List Bal} (h : RowB w rb d) {k : Nat} (hk : k < d.length * 3) : (w.cell? ⟨rb, k, none⟩).isSome = true := by
  obtain ⟨x, hx⟩ := getq (l := d) (j := k / 3) (by omega)
  have hm : k % 3 = 0 ∨ k % 3 = 1 ∨ k % 3 = 2 := by omega
  rcases hm with h2 | h2 | h2
  · have := h.c0 _ x hx; rw [show k / 3 * 3 = k by omega] at this; rw [this]; rfl
  · have := h.c1 _ x hx; rw [show k / 3 * 3 + 1 = k by omega] at this; rw [this]; rfl
  · have := h.c2 _ x hx; rw [show k / 3 * 3 + 2 = k by omega] at this; rw [this]; rfl
theorem run_clearB (w : World) (ty : TypeId) (b o n c : Nat) (hn : 0 < n) (hc : ∀ j, j < n * 3 → (w.cell? ⟨b, o + j, none⟩).isSome = true) (hf : ∀ j, j < n * 3 → w.frozen? ⟨b, o + j, none⟩ = false) :
    ∃ zs, (Builtin.clear_ #[41] ty #[.slice (some ⟨b, o, none⟩) n c]).run Tryz.prog w = .ok (.tuple #[]) (w.setCells b o zs) := by
  have hlen : (Builtin.zeroCells #[.int .i64 0, .int .i64 0, .int .i64 0] n).toList.length = n * 3 := by simp [Builtin.zeroCells]
  have hone : ∀ v ∈ (Builtin.zeroCells #[.int .i64 0, .int .i64 0, .int .i64 0] n).toList, v.oneCell' = true := by
    intro v hv
    simp only [Builtin.zeroCells, Array.toList_map, List.mem_map] at hv
    obtain ⟨i, _, rfl⟩ := hv
    have : i % 3 = 0 ∨ i % 3 = 1 ∨ i % 3 = 2 := by omega
    rcases this with h | h | h <;> simp [h, Value.oneCell']
  have hst := run_storeCells_cells (P := Tryz.prog) b o (Builtin.zeroCells #[.int .i64 0, .int .i64 0, .int .i64 0] n).toList 0 w (by rw [hlen]; simpa using hc) (by rw [hlen]; simpa using hf) hone
  simp only [Nat.add_zero] at hst
  obtain ⟨m, rfl⟩ : ∃ m, n = m + 1 := ⟨n - 1, by omega⟩
  exact ⟨(Builtin.zeroCells #[.int .i64 0, .int .i64 0, .int .i64 0] (m + 1)).toList, by simp [Builtin.clear_, run_underlying Tryz.underlying41, Value.cells, hst]⟩

/-- DeleteFunc's answer -/
def DelResB (rb M : Nat) (d : List Bal) (w : World) (e : Ending) (w' : World) : Prop :=
  ∃ cap', e = .returned (.slice (some ⟨rb, 0, none⟩) d.length cap') ∧ d.length ≤ cap' ∧ RowB w' rb d ∧ Below M w w'

set_option maxRecDepth 100000 in
set_option maxHeartbeats 4000000 in
theorem xDeleteB (wf : FuncId) (wc : Array Value) (P : Bal → Bool) (M : Nat) (d : List Bal) (n cap rb : Nat) (w : World) (hn : Hid (n = d.length)) (hm : n ≤ 100000) (hcap : n ≤ cap) (hR : RowB w rb d)
    (ew : ∀ args w, (callFunc wf args).run Tryz.prog w = .ok (.enter wf args) w) (hw : Hid (WantsB wf wc P M w)) (hM : M ≤ rb) :
    Calls Tryz.prog 78 #[.slice (some ⟨rb, 0, none⟩) n cap, .func (.func wf) #[] wc] w (DelResB rb M (d.filter fun a => !P a) w) := by
  have hlt := hR.lt
  have hix := Lib.hid (xIndexB wf wc P M d n cap (some ⟨rb, 0, none⟩) w hn hm hcap hR.slAt ew hw (by omega))
  replace hR := Lib.hid hR
  rcases hfi : d.findIdx? P with _ | i0
  · have hall := List.findIdx?_eq_none_iff.1 hfi
    have hidx : idxG P d = -1 := by unfold idxG; rw [hfi]
    rw [hidx] at hix
    have hfil : d.filter (fun a => !P a) = d := List.filter_eq_self.2 fun a ha => by rw [hall a ha]; rfl
    replace hfil := Lib.hid hfil
    clear hidx hall hfi
    go_enter Tryz.func78, Tryz.ntmps78
    go_wp2_with (go_at_call 118; refine hix.out.mono ?_; rintro e w1 ⟨rfl, hB1⟩)
    go_ret
    rw [hfil.out]
    exact ⟨cap, by rw [← hn.out]; rfl, by rw [← hn.out]; exact hcap, hR.out.after hB1, hB1.mono (by omega)⟩
  · obtain ⟨hi0, hP0, hno⟩ := List.findIdx?_eq_some_iff_getElem.1 hfi
    have hidx : idxG P d = (i0 : Int) := by unfold idxG; rw [hfi]
    rw [hidx] at hix
    have hi0n : i0 < n := by rw [hn.out]; exact hi0
    have hno' : ∀ i x, i < i0 → d[i]? = some x → P x = false := fun i x hi hx => by
      obtain ⟨h1, rfl⟩ := List.getElem?_eq_some_iff.1 hx
      have := hno i hi; simpa using this
    have hst : Hid ((d.take (i0 + 1)).filter (fun a => !P a) = d.take i0) := by
      show _ = _
      rw [filter_stepG (List.getElem?_eq_getElem hi0), filter_takeG hno', if_pos hP0, List.append_nil]
    have h1 : ((i0 : Int) == -1) = false := by simp
    clear hidx hfi hno hno' hP0
    replace hi0 := Lib.hid hi0
    go_enter Tryz.func78, Tryz.ntmps78
    go_wp2_with (go_at_call 118; refine hix.out.mono ?_; rintro e w1 ⟨rfl, hB1⟩)
    go_loopw [5, 6] (fun iv jv wr => ∃ (i j : Nat) (cur : List Bal), iv = .int .i64 i ∧ jv = .int .i64 j ∧ i < j ∧ j ≤ n ∧ Hid (cur.length = n) ∧ Hid (cur.take i = (d.take j).filter (fun a => !P a)) ∧ Hid (cur.drop j = d.drop j) ∧ Hid (RowB wr rb cur) ∧ Below M w wr) (fun _ jv _ => n - (intOf jv).toNat)
    case atStart => exact ⟨i0, i0 + 1, d, rfl, by go_num, by omega, by omega, hn.out.symm, hst.out.symm, rfl, hR.out.after hB1, hB1.mono (by omega)⟩
    case round =>
      obtain ⟨i, j, cur, rfl, rfl, hij, hj, hl, htk, hdr, hRc, hb⟩ := hrel
      have hrl := hRc.out.lt
      by_cases hltj : j < n
      · obtain ⟨a, ha⟩ := getq (l := d) (j := j) (by rw [← hn.out]; exact hltj)
        have hac := drop_get hdr.out (Nat.le_refl _) ha
        have e0 := hRc.out.c0 j a hac
        have e1 := hRc.out.c1 j a hac
        have e2 := hRc.out.c2 j a hac
        have hcall := hw.out a (wr.alloc (.cells #[.int .i64 a.party, .int .i64 a.paid, .int .i64 a.back] 66)) (hb.alloc (by omega) _)
        have hbx := TBox.new wr a.party a.paid a.back 66
        have hba := Lib.hid (hb.alloc (by omega) (.cells #[.int .i64 a.party, .int .i64 a.paid, .int .i64 a.back] 66))
        have hRa := Lib.hid (hRc.out.after ((Below.refl _ wr).alloc (Nat.le_refl _) (.cells #[.int .i64 a.party, .int .i64 a.paid, .int .i64 a.back] 66)))
        have ha' := Lib.hid ha
        have hjc : j ≤ cap := by omega
        clear ha hac
        cases hP : P a with
        | true =>
          rw [hP] at hcall
          replace hcall := Lib.hid hcall
          go_wp2_with (refine hcall.out.mono ?_; rintro e w2 ⟨rfl, hB2⟩)
          go_roundw
          case rel =>
            refine ⟨i, j + 1, cur, rfl, by go_num, by omega, by omega, hl, ?_, ?_, Lib.hid (hRa.out.after hB2), hba.out.trans (hB2.mono (by have := hba.out.size; simp; omega))⟩
            · show _ = _; rw [filter_stepG ha'.out, hP, if_pos rfl, List.append_nil]; exact htk.out
            · show _ = _; have := congrArg (List.drop 1) hdr.out; rwa [List.drop_drop, List.drop_drop] at this
          case measure => simp [intOf]; omega
        | false =>
          rw [hP] at hcall
          replace hcall := Lib.hid hcall
          obtain ⟨y, hy⟩ := getq (l := cur) (j := i) (by rw [hl.out]; omega)
          replace hy := Lib.hid hy
          have hin : i ≤ cap := by omega
          replace hbx := Lib.hid hbx
          go_wp2_with (refine hcall.out.mono ?_; rintro e w2 ⟨rfl, hB2⟩; have hR2 := hRa.out.after hB2; have q0 := (hB2.cell (p := ⟨wr.heap.size, 0, none⟩) (by simp)).trans hbx.out.c0; have q1 := (hB2.cell (p := ⟨wr.heap.size, 1, none⟩) (by simp)).trans hbx.out.c1; have q2 := (hB2.cell (p := ⟨wr.heap.size, 2, none⟩) (by simp)).trans hbx.out.c2; have g0 := hR2.c0 i y hy.out; have g1 := hR2.c1 i y hy.out; have g2 := hR2.c2 i y hy.out; have z := hR2.fz; replace hR2 := Lib.hid hR2)
          go_roundw
          case rel =>
            refine ⟨i + 1, j + 1, cur.set i a, by go_num, by go_num, by omega, by omega, ?_, ?_, ?_, Lib.hid (hR2.out.set i (by rw [hl.out]; omega) a), ?_⟩
            · show _ = _; rw [List.length_set]; exact hl.out
            · show _ = _; rw [filter_stepG ha'.out, hP, set_take (by rw [hl.out]; omega), htk.out]; rfl
            · show _ = _; rw [set_drop (by omega)]; have := congrArg (List.drop 1) hdr.out; rwa [List.drop_drop, List.drop_drop] at this
            · exact (((hba.out.trans (hB2.mono (by have := hba.out.size; simp; omega))).setCell (p := ⟨rb, i * 3, none⟩) hM _).setCell (p := ⟨rb, i * 3 + 1, none⟩) hM _).setCell (p := ⟨rb, i * 3 + 2, none⟩) hM _
          case measure => simp [intOf]; omega
      · obtain rfl : n = j := by omega
        have hfil : Hid (cur.take i = d.filter fun a => !P a) := by
          show _ = _
          rw [htk.out, List.take_of_length_le (by rw [hn.out]; exact Nat.le_refl _)]
        have hlen : Hid ((d.filter fun a => !P a).length = i) := by
          show _ = _
          rw [← hfil.out, List.length_take, hl.out]; omega
        have hic : i ≤ cap := by omega
        obtain ⟨zs, hcl⟩ := run_clearB wr 0 rb (i * 3) (n - i) (cap - i) (by omega) (fun k hk => RowB.some hRc.out (by rw [hl.out]; omega)) (fun k _ => hRc.out.fz _)
        go_wp2
        go_ret
        refine ⟨cap, by rw [hlen.out]; rfl, by rw [hlen.out]; omega, ?_, setCells_below wr rb zs _ hb hM⟩
        rw [← hfil.out]
        have hR2 := hRc.out.take i
        refine ⟨by rw [setCells_size]; exact hR2.lt, fun k x hk => ?_, fun k x hk => ?_, fun k x hk => ?_, fun k => by rw [setCells_frozen]; exact hR2.fz k⟩
        · rw [setCells_cell _ _ _ _ _ (by have := (List.getElem?_eq_some_iff.1 hk).1; simp at this; omega)]; exact hR2.c0 k x hk
        · rw [setCells_cell _ _ _ _ _ (by have := (List.getElem?_eq_some_iff.1 hk).1; simp at this; omega)]; exact hR2.c1 k x hk
        · rw [setCells_cell _ _ _ _ _ (by have := (List.getElem?_eq_some_iff.1 hk).1; simp at this; omega)]; exact hR2.c2 k x hk

/-- a slice of its own: nil, or a row that may be written -/
def SlB (base : Nat) (w : World) (ao : Option Addr) (n cap : Nat) (d : List Bal) : Prop :=
  (ao = none ∧ n = 0 ∧ d = []) ∨ ∃ g, ao = some ⟨g, 0, none⟩ ∧ base ≤ g ∧ RowB w g d ∧ n = d.length ∧ n ≤ cap
theorem Own.slB {base : Nat} {w : World} {ao : Option Addr} {n cap : Nat} {d : List Bal} (h : Own 66 3 bcells base w ao n cap d) : SlB base w ao n cap d := by
  have hs := Own.slAt bcells_len (by omega) h
  obtain ⟨hl, h | ⟨g, cap', cur, hv, hb, hg, hn, hm, hsz, ht⟩⟩ := h
  · have h0 := h.2
    rw [h0, Nat.zero_mul, flat_length bcells_len] at hl
    have h1 := h.1
    simp only [Value.slice.injEq] at h1
    exact .inl ⟨h1.1, h0, List.length_eq_zero_iff.1 (by omega)⟩
  · simp only [Value.slice.injEq] at hv
    obtain ⟨rfl, _, rfl⟩ := hv
    rw [flat_length bcells_len] at hl
    have hlt : g < w.heap.size := (Array.getElem?_eq_some_iff.1 hg).1
    refine .inr ⟨g, rfl, hb, ⟨hlt, fun i x hi => ?_, fun i x hi => ?_, fun i x hi => ?_, fun j => ?_⟩, by omega, hn⟩
    · obtain ⟨b, o, he, _, h1, _, _⟩ := hs.bal hi
      cases he; rw [Nat.zero_add] at h1; exact h1
    · obtain ⟨b, o, he, _, _, h1, _⟩ := hs.bal hi
      cases he; rw [Nat.zero_add] at h1; exact h1
    · obtain ⟨b, o, he, _, _, _, h1⟩ := hs.bal hi
      cases he; rw [Nat.zero_add] at h1; exact h1
    · simp [World.frozen?, hg]

set_option maxRecDepth 100000 in
set_option maxHeartbeats 2000000 in
/-- DeleteFunc at nil -/
theorem xDeleteNoneB (wf : FuncId) (wc : Array Value) (P : Bal → Bool) (M : Nat) (cap : Nat) (w : World) (ew : ∀ args w, (callFunc wf args).run Tryz.prog w = .ok (.enter wf args) w) (hw : Hid (WantsB wf wc P M w)) (hM : M ≤ w.heap.size) :
    Calls Tryz.prog 78 #[.slice none 0 cap, .func (.func wf) #[] wc] w fun e w' => e = .returned (.slice none 0 cap) ∧ Below w.heap.size w w' := by
  have hix := Lib.hid (xIndexB wf wc P M [] 0 cap none w rfl (by omega) (by omega) (.inl rfl) ew hw hM)
  have hidx : idxG P [] = -1 := rfl
  rw [hidx] at hix
  go_enter Tryz.func78, Tryz.ntmps78
  go_wp2_with (go_at_call 118; refine hix.out.mono ?_; rintro e w1 ⟨rfl, hB1⟩)
  go_ret
  exact ⟨rfl, hB1⟩
theorem xDeleteSlB (wf : FuncId) (wc : Array Value) (P : Bal → Bool) (M base : Nat) (d : List Bal) (ao : Option Addr) (n cap : Nat) (w : World) (hsl : SlB base w ao n cap d) (hm : n ≤ 100000) (hMb : M ≤ base)
    (ew : ∀ args w, (callFunc wf args).run Tryz.prog w = .ok (.enter wf args) w) (hw : Hid (WantsB wf wc P M w)) (hM : M ≤ w.heap.size) :
    Calls Tryz.prog 78 #[.slice ao n cap, .func (.func wf) #[] wc] w fun e w' =>
      ∃ ao' n' cap', e = .returned (.slice ao' n' cap') ∧ n' = (d.filter fun a => !P a).length ∧ n' ≤ cap' ∧ SlAt 3 bcells w'.heap.size w' ao' (d.filter fun a => !P a) ∧ Below M w w' := by
  obtain ⟨rfl, rfl, rfl⟩ | ⟨g, rfl, hg, hR, rfl, hc⟩ := hsl
  · refine (xDeleteNoneB wf wc P M cap w ew hw hM).mono ?_
    rintro e w' ⟨rfl, hB⟩
    exact ⟨none, 0, cap, rfl, rfl, Nat.zero_le _, .inl rfl, hB.mono hM⟩
  · refine (xDeleteB wf wc P M d d.length cap g w rfl hm hc hR ew hw (by omega)).mono ?_
    rintro e w' ⟨cap', rfl, h1, hR', hB⟩
    exact ⟨_, _, cap', rfl, rfl, h1, hR'.slAt, hB⟩
end Go.Proofs.YtoijlikmigejbaaGreat
