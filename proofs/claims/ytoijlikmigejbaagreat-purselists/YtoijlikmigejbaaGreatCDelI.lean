/- Walks: slices.IndexFunc, slices.DeleteFunc at Int. -/
import Derived.Test.YtoijlikmigejbaaGreatCDelG
import Derived.Test.YtoijlikmigejbaaGreatCRgC
namespace Go.Proofs.YtoijlikmigejbaaGreat
open Go.RowKit Go.Shelf Go.Proofs.YtoijlikmigejbaaGreat.Pu

/-- a test -/
def WantsI (wf : FuncId) (wc : Array Value) (P : Int → Bool) (M : Nat) (w : World) : Prop :=
  ∀ (a : Int) (W : World), Below M w W → Calls Tryz.prog wf (#[.int .i64 a] ++ wc) W fun e W' => e = .returned (.bool (P a)) ∧ Below W.heap.size W W'

set_option maxRecDepth 100000 in
set_option maxHeartbeats 1000000 in
theorem xIndexI (wf : FuncId) (wc : Array Value) (P : Int → Bool) (M : Nat) (d : List Int) (n cap : Nat) (ao : Option Addr) (w : World) (hn : Hid (n = d.length)) (hm : n ≤ 100000) (hcap : n ≤ cap) (hs : SlAt 1 icells w.heap.size w ao d)
    (ew : ∀ args w, (callFunc wf args).run Tryz.prog w = .ok (.enter wf args) w) (hw : Hid (WantsI wf wc P M w)) (hM : M ≤ w.heap.size) :
    Calls Tryz.prog 130 #[.slice ao n cap, .func (.func wf) #[] wc] w fun e w' => e = .returned (.int .i64 (idxG P d)) ∧ Below w.heap.size w w' := by
  go_enter Tryz.func130, Tryz.ntmps130
  go_wp2
  go_loopw [5, 8] (fun _ i wr => ∃ j : Nat, j ≤ n ∧ i = .int .i64 j ∧ Below w.heap.size w wr ∧ Hid (∀ i x, i < j → d[i]? = some x → P x = false)) (fun _ i _ => n - (intOf i).toNat)
  case atStart => exact ⟨0, Nat.zero_le _, rfl, Below.refl _ _, fun i x hi => by omega⟩
  case round =>
    obtain ⟨j, hj, rfl, hb, hno⟩ := hrel
    by_cases hlt : j < n
    · obtain ⟨a, ha⟩ := getq (l := d) (j := j) (by rw [← hn.out]; exact hlt)
      obtain ⟨b, o, rfl, hb0, c0⟩ := (hs.below hb).int ha
      have ha' := Lib.hid ha
      have hjc : j ≤ cap := by omega
      have hcall := hw.out a wr (hb.mono hM)
      clear ha
      cases hP : P a with
      | true =>
        rw [hP] at hcall
        have hres : Hid (idxG P d = (j : Int)) := idxG_hit ha'.out hP hno.out
        replace hcall := Lib.hid hcall
        go_wp2_with (refine hcall.out.mono ?_; rintro e w2 ⟨rfl, hB2⟩)
        go_ret
        exact ⟨by rw [hres.out]; rfl, hb.trans (hB2.mono hb.size)⟩
      | false =>
        rw [hP] at hcall
        replace hcall := Lib.hid hcall
        go_wp2_with (refine hcall.out.mono ?_; rintro e w2 ⟨rfl, hB2⟩)
        go_roundw
        case rel => exact ⟨j + 1, by omega, by go_num, hb.trans (hB2.mono hb.size), fun i x hi hx => by
            by_cases e : i = j
            · subst e; rw [ha'.out] at hx; cases hx; exact hP
            · exact hno.out i x (by omega) hx⟩
        case measure => simp [intOf]; omega
    · obtain rfl : j = n := by omega
      have hres : Hid (idxG P d = -1) := idxG_miss (by rw [← hn.out]; exact hno.out)
      go_wp2
      go_ret
      exact ⟨by rw [hres.out]; rfl, hb⟩

/-- a row that may be written -/
structure RowI (w : World) (rb : Nat) (d : List Int) : Prop where
  lt : rb < w.heap.size
  c0 : ∀ i x, d[i]? = some x → w.cell? ⟨rb, i, none⟩ = some (.int .i64 x)
  fz : ∀ j, w.frozen? ⟨rb, j, none⟩ = false
theorem RowI.after {w w' : World} {rb : Nat} {d : List Int} (h : RowI w rb d) (hb : Below w.heap.size w w') : RowI w' rb d :=
  ⟨Nat.lt_of_lt_of_le h.lt hb.size, fun i x hi => (hb.cell (p := ⟨rb, i, none⟩) h.lt).trans (h.c0 i x hi), fun j => (hb.frozen (p := ⟨rb, j, none⟩) h.lt).trans (h.fz j)⟩
theorem RowI.set {w : World} {rb : Nat} {d : List Int} (h : RowI w rb d) (i : Nat) (hi : i < d.length) (a : Int) :
    RowI (w.setCell ⟨rb, i, none⟩ (.int .i64 a)) rb (d.set i a) := by
  obtain ⟨y, hy⟩ := getq hi
  have e0 := h.c0 i y hy
  refine ⟨by simp; exact h.lt, fun j x hx => ?_, fun j => by rw [World.frozen?_setCell]; exact h.fz j⟩
  · rw [List.getElem?_set] at hx
    by_cases e : i = j
    · subst e
      rw [if_pos rfl, if_pos hi] at hx; cases hx
      refine World.cell?_setCell_same _ _ _ (u := .int .i64 y) ?_
      exact e0
    · rw [if_neg e] at hx
      rw [World.cell?_setCell_other _ _ _ _ (by simp <;> omega)]; exact h.c0 j x hx
theorem RowI.slAt {w : World} {rb : Nat} {d : List Int} (h : RowI w rb d) : SlAt 1 icells w.heap.size w (some ⟨rb, 0, none⟩) d := by
  refine .inr ⟨rb, 0, rfl, h.lt, fun i x hx j u hu => ?_⟩
  rw [Nat.zero_add]
  match j, hu with
  | 0, hu => cases hu; rw [Nat.mul_one, Nat.add_zero]; exact h.c0 i x hx
  | j + 1, hu => simp [icells] at hu
theorem RowI.take {w : World} {rb : Nat} {d : List Int} (h : RowI w rb d) (m : Nat) : RowI w rb (d.take m) :=
  ⟨h.lt, fun i x hi => h.c0 i x (by rw [List.getElem?_take] at hi; split at hi; exact hi; cases hi), h.fz⟩
theorem RowI.some {w : World} {rb : Nat} {d : List Int} (h : RowI w rb d) {k : Nat} (hk : k < d.length) : (w.cell? ⟨rb, k, none⟩).isSome = true := by
  obtain ⟨x, hx⟩ := getq (l := d) (j := k) hk
  rw [h.c0 _ x hx]; rfl
theorem run_clearI (w : World) (ty : TypeId) (b o n c : Nat) (hn : 0 < n) (hc : ∀ j, j < n → (w.cell? ⟨b, o + j, none⟩).isSome = true) (hf : ∀ j, j < n → w.frozen? ⟨b, o + j, none⟩ = false) :
    ∃ zs, (Builtin.clear_ #[32] ty #[.slice (some ⟨b, o, none⟩) n c]).run Tryz.prog w = .ok (.tuple #[]) (w.setCells b o zs) := by
  have hlen : (Builtin.zeroCells #[.int .i64 0] n).toList.length = n := by simp [Builtin.zeroCells]
  have hone : ∀ v ∈ (Builtin.zeroCells #[.int .i64 0] n).toList, v.oneCell' = true := by
    intro v hv
    simp only [Builtin.zeroCells, Array.toList_map, List.mem_map] at hv
    obtain ⟨i, _, rfl⟩ := hv
    simp [Nat.mod_one, Value.oneCell']
  have hst := run_storeCells_cells (P := Tryz.prog) b o (Builtin.zeroCells #[.int .i64 0] n).toList 0 w (by rw [hlen]; simpa using hc) (by rw [hlen]; simpa using hf) hone
  simp only [Nat.add_zero] at hst
  obtain ⟨m, rfl⟩ : ∃ m, n = m + 1 := ⟨n - 1, by omega⟩
  exact ⟨(Builtin.zeroCells #[.int .i64 0] (m + 1)).toList, by simp [Builtin.clear_, run_underlying Tryz.underlying32, Value.cells, hst]⟩

/-- DeleteFunc's answer -/
def DelResI (rb M : Nat) (d : List Int) (w : World) (e : Ending) (w' : World) : Prop :=
  ∃ cap', e = .returned (.slice (some ⟨rb, 0, none⟩) d.length cap') ∧ d.length ≤ cap' ∧ RowI w' rb d ∧ Below M w w'

set_option maxRecDepth 100000 in
set_option maxHeartbeats 4000000 in
theorem xDeleteI (wf : FuncId) (wc : Array Value) (P : Int → Bool) (M : Nat) (d : List Int) (n cap rb : Nat) (w : World) (hn : Hid (n = d.length)) (hm : n ≤ 100000) (hcap : n ≤ cap) (hR : RowI w rb d)
    (ew : ∀ args w, (callFunc wf args).run Tryz.prog w = .ok (.enter wf args) w) (hw : Hid (WantsI wf wc P M w)) (hM : M ≤ rb) :
    Calls Tryz.prog 108 #[.slice (some ⟨rb, 0, none⟩) n cap, .func (.func wf) #[] wc] w (DelResI rb M (d.filter fun a => !P a) w) := by
  have hlt := hR.lt
  have hix := Lib.hid (xIndexI wf wc P M d n cap (some ⟨rb, 0, none⟩) w hn hm hcap hR.slAt ew hw (by omega))
  replace hR := Lib.hid hR
  rcases hfi : d.findIdx? P with _ | i0
  · have hall := List.findIdx?_eq_none_iff.1 hfi
    have hidx : idxG P d = -1 := by unfold idxG; rw [hfi]
    rw [hidx] at hix
    have hfil : d.filter (fun a => !P a) = d := List.filter_eq_self.2 fun a ha => by rw [hall a ha]; rfl
    replace hfil := Lib.hid hfil
    clear hidx hall hfi
    go_enter Tryz.func108, Tryz.ntmps108
    go_wp2_with (go_at_call 130; refine hix.out.mono ?_; rintro e w1 ⟨rfl, hB1⟩)
    go_ret
    rw [hfil.out]
    exact ⟨cap, by rw [← hn.out]; rfl, by rw [← hn.out]; exact hcap, hR.out.after hB1, hB1.mono (by omega)⟩
  · obtain ⟨hi0, hP0, hno⟩ := List.findIdx?_eq_some_iff_getElem.1 hfi
    have hidx : idxG P d = (i0 : Int) := by unfold idxG; rw [hfi]
    rw [hidx] at hix
    have hi0n : i0 < n := by rw [hn.out]; exact hi0
    have hno' : ∀ i x, i < i0 → d[i]? = some x → P x = false := fun i x hi hx => by
      obtain ⟨h1, rfl⟩ := List.getElem?_eq_some_iff.1 hx
      have := hno i hi; simpa using this
    have hst : Hid ((d.take (i0 + 1)).filter (fun a => !P a) = d.take i0) := by
      show _ = _
      rw [filter_stepG (List.getElem?_eq_getElem hi0), filter_takeG hno', if_pos hP0, List.append_nil]
    have h1 : ((i0 : Int) == -1) = false := by simp
    clear hidx hfi hno hno' hP0
    replace hi0 := Lib.hid hi0
    go_enter Tryz.func108, Tryz.ntmps108
    go_wp2_with (go_at_call 130; refine hix.out.mono ?_; rintro e w1 ⟨rfl, hB1⟩)
    go_loopw [5, 6] (fun iv jv wr => ∃ (i j : Nat) (cur : List Int), iv = .int .i64 i ∧ jv = .int .i64 j ∧ i < j ∧ j ≤ n ∧ Hid (cur.length = n) ∧ Hid (cur.take i = (d.take j).filter (fun a => !P a)) ∧ Hid (cur.drop j = d.drop j) ∧ Hid (RowI wr rb cur) ∧ Below M w wr) (fun _ jv _ => n - (intOf jv).toNat)
    case atStart => exact ⟨i0, i0 + 1, d, rfl, by go_num, by omega, by omega, hn.out.symm, hst.out.symm, rfl, hR.out.after hB1, hB1.mono (by omega)⟩
    case round =>
      obtain ⟨i, j, cur, rfl, rfl, hij, hj, hl, htk, hdr, hRc, hb⟩ := hrel
      have hrl := hRc.out.lt
      by_cases hltj : j < n
      · obtain ⟨a, ha⟩ := getq (l := d) (j := j) (by rw [← hn.out]; exact hltj)
        have hac := drop_get hdr.out (Nat.le_refl _) ha
        have e0 := hRc.out.c0 j a hac
        have hcall := hw.out a wr hb
        have hba := Lib.hid hb
        have hRa := hRc
        have ha' := Lib.hid ha
        have hjc : j ≤ cap := by omega
        clear ha hac
        cases hP : P a with
        | true =>
          rw [hP] at hcall
          replace hcall := Lib.hid hcall
          go_wp2_with (refine hcall.out.mono ?_; rintro e w2 ⟨rfl, hB2⟩)
          go_roundw
          case rel =>
            refine ⟨i, j + 1, cur, rfl, by go_num, by omega, by omega, hl, ?_, ?_, Lib.hid (hRa.out.after hB2), hba.out.trans (hB2.mono (by omega))⟩
            · show _ = _; rw [filter_stepG ha'.out, hP, if_pos rfl, List.append_nil]; exact htk.out
            · show _ = _; have := congrArg (List.drop 1) hdr.out; rwa [List.drop_drop, List.drop_drop] at this
          case measure => simp [intOf]; omega
        | false =>
          rw [hP] at hcall
          replace hcall := Lib.hid hcall
          obtain ⟨y, hy⟩ := getq (l := cur) (j := i) (by rw [hl.out]; omega)
          replace hy := Lib.hid hy
          have hin : i ≤ cap := by omega
          go_wp2_with (refine hcall.out.mono ?_; rintro e w2 ⟨rfl, hB2⟩; have hR2 := hRa.out.after hB2; have g0 := hR2.c0 i y hy.out; have z := hR2.fz; replace hR2 := Lib.hid hR2)
          go_roundw
          case rel =>
            refine ⟨i + 1, j + 1, cur.set i a, by go_num, by go_num, by omega, by omega, ?_, ?_, ?_, Lib.hid (hR2.out.set i (by rw [hl.out]; omega) a), ?_⟩
            · show _ = _; rw [List.length_set]; exact hl.out
            · show _ = _; rw [filter_stepG ha'.out, hP, set_take (by rw [hl.out]; omega), htk.out]; rfl
            · show _ = _; rw [set_drop (by omega)]; have := congrArg (List.drop 1) hdr.out; rwa [List.drop_drop, List.drop_drop] at this
            · exact (hba.out.trans (hB2.mono (by omega))).setCell (p := ⟨rb, i, none⟩) hM _
          case measure => simp [intOf]; omega
      · obtain rfl : n = j := by omega
        have hfil : Hid (cur.take i = d.filter fun a => !P a) := by
          show _ = _
          rw [htk.out, List.take_of_length_le (by rw [hn.out]; exact Nat.le_refl _)]
        have hlen : Hid ((d.filter fun a => !P a).length = i) := by
          show _ = _
          rw [← hfil.out, List.length_take, hl.out]; omega
        have hic : i ≤ cap := by omega
        obtain ⟨zs, hcl⟩ := run_clearI wr 0 rb (i) (n - i) (cap - i) (by omega) (fun k hk => RowI.some hRc.out (by rw [hl.out]; omega)) (fun k _ => hRc.out.fz _)
        go_wp2
        go_ret
        refine ⟨cap, by rw [hlen.out]; rfl, by rw [hlen.out]; omega, ?_, setCells_below wr rb zs _ hb hM⟩
        rw [← hfil.out]
        have hR2 := hRc.out.take i
        refine ⟨by rw [setCells_size]; exact hR2.lt, fun k x hk => ?_, fun k => by rw [setCells_frozen]; exact hR2.fz k⟩
        · rw [setCells_cell _ _ _ _ _ (by have := (List.getElem?_eq_some_iff.1 hk).1; simp at this; omega)]; exact hR2.c0 k x hk

/-- a slice of its own: nil, or a row that may be written -/
def SlI (base : Nat) (w : World) (ao : Option Addr) (n cap : Nat) (d : List Int) : Prop :=
  (ao = none ∧ n = 0 ∧ d = []) ∨ ∃ g, ao = some ⟨g, 0, none⟩ ∧ base ≤ g ∧ RowI w g d ∧ n = d.length ∧ n ≤ cap
theorem Own.slI {base : Nat} {w : World} {ao : Option Addr} {n cap : Nat} {d : List Int} (h : Own 3 1 icells base w ao n cap d) : SlI base w ao n cap d := by
  have hs := Own.slAt icells_len (by omega) h
  obtain ⟨hl, h | ⟨g, cap', cur, hv, hb, hg, hn, hm, hsz, ht⟩⟩ := h
  · have h0 := h.2
    rw [h0, Nat.zero_mul, flat_length icells_len] at hl
    have h1 := h.1
    simp only [Value.slice.injEq] at h1
    exact .inl ⟨h1.1, h0, List.length_eq_zero_iff.1 (by omega)⟩
  · simp only [Value.slice.injEq] at hv
    obtain ⟨rfl, _, rfl⟩ := hv
    rw [flat_length icells_len] at hl
    have hlt : g < w.heap.size := (Array.getElem?_eq_some_iff.1 hg).1
    refine .inr ⟨g, rfl, hb, ⟨hlt, fun i x hi => ?_, fun j => ?_⟩, by omega, hn⟩
    · obtain ⟨b, o, he, _, h1⟩ := hs.int hi
      cases he; rw [Nat.zero_add] at h1; exact h1
    · simp [World.frozen?, hg]

set_option maxRecDepth 100000 in
set_option maxHeartbeats 2000000 in
/-- DeleteFunc at nil -/
theorem xDeleteNoneI (wf : FuncId) (wc : Array Value) (P : Int → Bool) (M : Nat) (cap : Nat) (w : World) (ew : ∀ args w, (callFunc wf args).run Tryz.prog w = .ok (.enter wf args) w) (hw : Hid (WantsI wf wc P M w)) (hM : M ≤ w.heap.size) :
    Calls Tryz.prog 108 #[.slice none 0 cap, .func (.func wf) #[] wc] w fun e w' => e = .returned (.slice none 0 cap) ∧ Below w.heap.size w w' := by
  have hix := Lib.hid (xIndexI wf wc P M [] 0 cap none w rfl (by omega) (by omega) (.inl rfl) ew hw hM)
  have hidx : idxG P [] = -1 := rfl
  rw [hidx] at hix
  go_enter Tryz.func108, Tryz.ntmps108
  go_wp2_with (go_at_call 130; refine hix.out.mono ?_; rintro e w1 ⟨rfl, hB1⟩)
  go_ret
  exact ⟨rfl, hB1⟩
theorem xDeleteSlI (wf : FuncId) (wc : Array Value) (P : Int → Bool) (M base : Nat) (d : List Int) (ao : Option Addr) (n cap : Nat) (w : World) (hsl : SlI base w ao n cap d) (hm : n ≤ 100000) (hMb : M ≤ base)
    (ew : ∀ args w, (callFunc wf args).run Tryz.prog w = .ok (.enter wf args) w) (hw : Hid (WantsI wf wc P M w)) (hM : M ≤ w.heap.size) :
    Calls Tryz.prog 108 #[.slice ao n cap, .func (.func wf) #[] wc] w fun e w' =>
      ∃ ao' n' cap', e = .returned (.slice ao' n' cap') ∧ n' = (d.filter fun a => !P a).length ∧ n' ≤ cap' ∧ SlAt 1 icells w'.heap.size w' ao' (d.filter fun a => !P a) ∧ Below M w w' := by
  obtain ⟨rfl, rfl, rfl⟩ | ⟨g, rfl, hg, hR, rfl, hc⟩ := hsl
  · refine (xDeleteNoneI wf wc P M cap w ew hw hM).mono ?_
    rintro e w' ⟨rfl, hB⟩
    exact ⟨none, 0, cap, rfl, rfl, Nat.zero_le _, .inl rfl, hB.mono hM⟩
  · refine (xDeleteI wf wc P M d d.length cap g w rfl hm hc hR ew hw (by omega)).mono ?_
    rintro e w' ⟨cap', rfl, h1, hR', hB⟩
    exact ⟨_, _, cap', rfl, rfl, h1, hR'.slAt, hB⟩
end Go.Proofs.YtoijlikmigejbaaGreat
