/- Walks: the reference's compared, due, cause. -/
import Derived.Test.YtoijlikmigejbaaGreatCRgA
import Derived.Test.YtoijlikmigejbaaGreatCSgD
namespace Go.Proofs.YtoijlikmigejbaaGreat
open Go.RowKit Go.Proofs.YtoijlikmigejbaaGreat.Pu

set_option maxRecDepth 100000 in
set_option maxHeartbeats 2000000 in
theorem rcompared {l : List Post} {d : List Due} {n cap n2 cap2 : Nat} {ao ao2 : Option Addr} {B : Nat} {w : World} (h : LIn l n cap ao B w) (hd : DIn d n2 cap2 ao2 B w) :
    Calls Tryz.prog 107 #[.slice ao n cap, .slice ao2 n2 cap2] w fun e w' => e = .returned (.int .i64 (compCode l d)) ∧ Below w.heap.size w w' := by
  obtain ⟨ci, hci⟩ : ∃ ci, Hid ((check l).1 = ci) := ⟨_, rfl⟩
  obtain ⟨cr, hcr⟩ : ∃ cr, Hid ((check l).2 = cr) := ⟨_, rfl⟩
  obtain ⟨cd, hcd⟩ : ∃ cd, Hid (chkL okD ltD d = cd) := ⟨_, rfl⟩
  have hcc : Hid (compCode l d = if cr ≠ 0 then cr else cd) := by show _ = _; unfold compCode; rw [hcr.out, hcd.out]
  replace h := Lib.hid h
  replace hd := Lib.hid hd
  by_cases hr0 : cr = 0
  · subst hr0
    go_enter Tryz.func107, Tryz.ntmps107
    go_wp2_with (first
      | (go_at_call 66; refine (h.out.rCheck).mono ?_; rintro e w1 ⟨rfl, hB1⟩; rw [hci.out, hcr.out]
         have hd1 := Lib.hid (hd.out.after hB1))
      | (go_at_call 42; refine (rCheckDues hd1.out).mono ?_; rintro e w2 ⟨rfl, hB2⟩; rw [hcd.out]))
    go_ret
    exact ⟨by rw [hcc.out]; rfl, hB1.trans (hB2.mono hB1.size)⟩
  · go_enter Tryz.func107, Tryz.ntmps107
    go_wp2_with (go_at_call 66; refine (h.out.rCheck).mono ?_; rintro e w1 ⟨rfl, hB1⟩; rw [hci.out, hcr.out])
    go_ret
    exact ⟨by rw [hcc.out, if_pos hr0]; rfl, hB1⟩

theorem dueF_hit {d : List Due} {who what : Int} {j : Nat} {x : Due} (hx : d[j]? = some x) (hP : x.party = who ∧ x.parcel = what) (hb : ∀ i y, i < j → d[i]? = some y → ¬ (y.party = who ∧ y.parcel = what)) : dueF d who what = x.amount := by
  have : d.find? (fun x => x.party == who && x.parcel == what) = some x := by
    obtain ⟨hj, rfl⟩ := List.getElem?_eq_some_iff.1 hx
    rw [List.find?_eq_some_iff_getElem]
    refine ⟨by simp [hP.1, hP.2], j, hj, rfl, fun i hi => ?_⟩
    have := hb i d[i] hi (List.getElem?_eq_getElem (by omega))
    simp only [Bool.not_eq_true', Bool.and_eq_false_iff, beq_eq_false_iff_ne]
    omega
  unfold dueF; rw [this]
theorem dueF_miss {d : List Due} {who what : Int} (hb : ∀ i y, i < d.length → d[i]? = some y → ¬ (y.party = who ∧ y.parcel = what)) : dueF d who what = 0 := by
  have : d.find? (fun x => x.party == who && x.parcel == what) = none := by
    rw [List.find?_eq_none]
    intro y hy
    obtain ⟨i, hi, rfl⟩ := List.getElem_of_mem hy
    have := hb i _ hi (List.getElem?_eq_getElem hi)
    simp only [Bool.and_eq_true, beq_iff_eq]
    exact this
  unfold dueF; rw [this]
theorem seen_step {α : Type} {d : List α} {P : α → Prop} {j : Nat} {x : α} (h : ∀ i y, i < j → d[i]? = some y → ¬ P y) (hx : d[j]? = some x) (hn : ¬ P x) : ∀ i y, i < j + 1 → d[i]? = some y → ¬ P y := fun i y hi hy => by
  by_cases e : i = j
  · subst e; rw [hx] at hy; cases hy; exact hn
  · exact h i y (by omega) hy

set_option maxRecDepth 100000 in
set_option maxHeartbeats 2000000 in
theorem rdue {d : List Due} {n cap : Nat} {ao : Option Addr} {B : Nat} {w : World} (h : DIn d n cap ao B w) (who what : Int) :
    Calls Tryz.prog 116 #[.slice ao n cap, .int .i64 who, .int .i64 what] w fun e w' => e = .returned (.int .i64 (dueF d who what)) ∧ Below w.heap.size w w' := by
  have hB := h.hB
  have hcap := h.hcap
  have hm := h.hm
  have Hn := Lib.hid h.hn
  go_enter Tryz.func116, Tryz.ntmps116
  go_wp2
  go_loopw [7] (fun i wr => ∃ j : Nat, j ≤ n ∧ i = .int .i64 j ∧ Below w.heap.size w wr ∧ Hid (∀ i y, i < j → d[i]? = some y → ¬ (y.party = who ∧ y.parcel = what))) (fun i _ => n - (intOf i).toNat)
  case atStart => exact ⟨0, Nat.zero_le _, rfl, Below.refl _ _, fun i y hi => by omega⟩
  case round =>
    obtain ⟨j, hj, rfl, hb, hno⟩ := hrel
    by_cases hlt : j < n
    · obtain ⟨x, hx⟩ := getq (l := d) (j := j) (by rw [← Hn.out]; exact hlt)
      have hs' := h.hs.below (hb.mono hB)
      obtain ⟨b, o, rfl, hb0, c0, c1, c2⟩ := hs'.due hx
      replace hx := Lib.hid hx
      replace hb := Lib.hid hb
      clear hs'
      by_cases h1 : x.party = who
      case neg =>
        have hstep := Lib.hid (seen_step hno.out hx.out (fun e => h1 e.1))
        have g1 : (x.party == who) = false := by simpa using h1
        go_wp2
        go_roundw
        case rel => exact ⟨j + 1, by omega, by go_num, hb.out, hstep.out⟩
        case measure => simp [intOf]; omega
      case pos =>
      by_cases h2 : x.parcel = what
      case neg =>
        have hstep := Lib.hid (seen_step hno.out hx.out (fun e => h2 e.2))
        have g1 : (x.party == who) = true := by simpa using h1
        have g2 : (x.parcel == what) = false := by simpa using h2
        go_wp2
        go_roundw
        case rel => exact ⟨j + 1, by omega, by go_num, hb.out, hstep.out⟩
        case measure => simp [intOf]; omega
      case pos =>
        have hres : Hid (dueF d who what = x.amount) := dueF_hit hx.out ⟨h1, h2⟩ hno.out
        have g1 : (x.party == who) = true := by simpa using h1
        have g2 : (x.parcel == what) = true := by simpa using h2
        go_wp2
        go_ret
        exact ⟨by rw [hres.out]; rfl, hb.out⟩
    · go_wp2
      go_ret
      have : dueF d who what = 0 := dueF_miss fun i y hi => hno.out i y (by have := Hn.out; omega)
      exact ⟨by rw [this]; rfl, hb⟩

theorem causeP_hit {cs : List Cause} {what : Int} {j : Nat} {x : Cause} (hx : cs[j]? = some x) (hP : x.parcel = what) (hb : ∀ i y, i < j → cs[i]? = some y → ¬ y.parcel = what) : causeP cs what = some x := by
  unfold causeP
  obtain ⟨hj, rfl⟩ := List.getElem?_eq_some_iff.1 hx
  rw [List.find?_eq_some_iff_getElem]
  refine ⟨by simp [hP], j, hj, rfl, fun i hi => ?_⟩
  have := hb i cs[i] hi (List.getElem?_eq_getElem (by omega))
  simp [this]
theorem causeP_miss {cs : List Cause} {what : Int} (hb : ∀ i y, i < cs.length → cs[i]? = some y → ¬ y.parcel = what) : causeP cs what = none := by
  unfold causeP
  rw [List.find?_eq_none]
  intro y hy
  obtain ⟨i, hi, rfl⟩ := List.getElem_of_mem hy
  have := hb i _ hi (List.getElem?_eq_getElem hi)
  simp [this]

set_option maxRecDepth 100000 in
set_option maxHeartbeats 2000000 in
theorem rcause {cs : List Cause} {n cap : Nat} {ao : Option Addr} {B : Nat} {w : World} (h : CIn cs n cap ao B w) (what : Int) :
    Calls Tryz.prog 69 #[.slice ao n cap, .int .i64 what] w fun e w' => e = .returned (.tuple #[cval ((causeP cs what).getD zeroC), .bool (causeP cs what).isSome]) ∧ Below w.heap.size w w' := by
  have hB := h.hB
  have hcap := h.hcap
  have hm := h.hm
  have Hn := Lib.hid h.hn
  go_enter Tryz.func69, Tryz.ntmps69
  go_wp2
  have hs2 := h.hs.below (((Below.refl w.heap.size w).alloc (Nat.le_refl _) (.cells #[.int .i64 0, .int .i64 0, .int .i64 0] 71)).mono hB)
  have hBn : Below w.heap.size w (w.alloc (.cells #[.int .i64 0, .int .i64 0, .int .i64 0] 71)) := (Below.refl _ _).alloc (Nat.le_refl _) _
  replace hBn := Lib.hid hBn
  go_loop [6] (fun i => ∃ j : Nat, j ≤ n ∧ i = .int .i64 j ∧ Hid (∀ i y, i < j → cs[i]? = some y → ¬ y.parcel = what)) (fun i => n - (intOf i).toNat)
  case atStart => exact ⟨0, Nat.zero_le _, rfl, fun i y hi => by omega⟩
  case round =>
    obtain ⟨j, hj, rfl, hno⟩ := hrel
    by_cases hlt : j < n
    · obtain ⟨x, hx⟩ := getq (l := cs) (j := j) (by rw [← Hn.out]; exact hlt)
      obtain ⟨b, o, rfl, hb0, c0, c1, c2⟩ := hs2.cause hx
      replace hx := Lib.hid hx
      clear hs2
      by_cases h1 : x.parcel = what
      case neg =>
        have hstep := Lib.hid (seen_step (P := fun y : Cause => y.parcel = what) hno.out hx.out h1)
        have g1 : (x.parcel == what) = false := by simpa using h1
        go_wp2
        go_round
        case rel => exact ⟨j + 1, by omega, by go_num, hstep.out⟩
        case measure => simp [intOf]; omega
      case pos =>
        have hres : Hid (causeP cs what = some x) := causeP_hit hx.out h1 hno.out
        have g1 : (x.parcel == what) = true := by simpa using h1
        replace h1 := Lib.hid h1
        go_wp2
        refine bodyPost_ret (v := .tuple #[cval x, .bool true]) (by simp [results, Tryz.results69, go_sem]) rfl ⟨?_, ?_⟩
        · rw [hres.out]; rfl
        · exact (Below.refl _ _).alloc (Nat.le_refl _) _
    · have hres : Hid (causeP cs what = none) := causeP_miss fun i y hi => hno.out i y (by have := Hn.out; omega)
      go_wp2
      refine bodyPost_ret (v := .tuple #[cval zeroC, .bool false]) (by simp [results, Tryz.results69, go_sem, zeroC]) rfl ⟨?_, ?_⟩
      · rw [hres.out]; rfl
      · exact hBn.out
end Go.Proofs.YtoijlikmigejbaaGreat
