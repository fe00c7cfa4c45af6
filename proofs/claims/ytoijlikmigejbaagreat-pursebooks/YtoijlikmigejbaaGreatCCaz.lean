/- Walk: the law's own 'caused'. -/
import Derived.Test.YtoijlikmigejbaaGreatCSgE
import Derived.Test.YtoijlikmigejbaaGreatCRhB
namespace Go.Proofs.YtoijlikmigejbaaGreat
open Go.RowKit Go.Proofs.YtoijlikmigejbaaGreat.Pu

theorem drop_step {α : Type} {a : List α} {i : Nat} {x : α} (h : a[i]? = some x) : a.drop i = x :: a.drop (i + 1) := by
  obtain ⟨h1, h2⟩ := List.getElem?_eq_some_iff.1 h
  rw [List.drop_eq_getElem_cons h1, h2]
/-- a payment for x that is known no earlier -/
def laterP (x k : Int) (p : Post) : Bool := (p.kind == 2) && (p.parcel == x) && decide (k ≤ p.known)

set_option maxRecDepth 100000 in
set_option maxHeartbeats 4000000 in
theorem pcaused {l : List Post} {cs : List Cause} {n cap n3 cap3 : Nat} {ao ao3 : Option Addr} {B : Nat} {w : World} (hl : LIn l n cap ao B w) (hc : CIn cs n3 cap3 ao3 B w) (x hour : Int) :
    Calls Tryz.prog 53 #[.slice ao n cap, .slice ao3 n3 cap3, .int .i64 x, .int .i64 hour] w fun e w' => e = .returned (.bool (causedF l x hour false cs)) ∧ Below w.heap.size w w' := by
  have hn := Lib.hid hl.hn
  have hn3 := Lib.hid hc.hn
  have hm := hl.hm
  have hm3 := hc.hm
  have hcap := hl.hcap
  have hcap3 := hc.hcap
  have hBB := hl.hB
  replace hl := Lib.hid hl
  replace hc := Lib.hid hc
  have hrefl := Below.refl w.heap.size w
  go_enter Tryz.func53, Tryz.ntmps53
  go_wp2
  go_loopw [9, 10] (fun f i wr => ∃ (j : Nat) (fd : Bool), j ≤ n3 ∧ i = .int .i64 j ∧ f = .bool fd ∧ Hid (causedF l x hour false cs = causedF l x hour fd (cs.drop j)) ∧ Below w.heap.size w wr) (fun _ i _ => n3 - (intOf i).toNat)
  case atStart => exact ⟨0, false, Nat.zero_le _, rfl, rfl, Lib.hid rfl, hrefl⟩
  case round =>
    obtain ⟨j, fd, hj, rfl, rfl, hst, hb⟩ := hrel
    by_cases hlt : j < n3
    case neg =>
      obtain rfl : n3 = j := by omega
      have hend : Hid (causedF l x hour false cs = fd) := by show _ = _; rw [hst.out, List.drop_of_length_le (by rw [hn3.out]; exact Nat.le_refl _)]; rfl
      go_wp2
      go_ret
      exact ⟨by rw [hend.out]; rfl, hb⟩
    case pos =>
    obtain ⟨y, hy⟩ := getq (l := cs) (j := j) (by rw [← hn3.out]; exact hlt)
    have hd := drop_step hy
    have hlr := Lib.hid (hl.out.below (hb.mono hBB))
    obtain ⟨b, o, rfl, hb0, c0, c1, c2⟩ := (hc.out.below (hb.mono hBB)).hs.cause hy
    have hjc : j ≤ cap3 := by omega
    replace hb := Lib.hid hb
    by_cases hx : y.parcel = x
    case neg =>
      have hne : (y.parcel != x) = true := by simpa using hx
      have hst2 : Hid (causedF l x hour false cs = causedF l x hour fd (cs.drop (j + 1))) := by show _ = _; rw [hst.out, hd, causedF, if_neg hx]
      replace hx := Lib.hid hx
      clear hy hd
      go_wp2
      go_roundw
      case rel => exact ⟨j + 1, fd, by omega, by go_num, rfl, hst2, hb.out⟩
      case measure => simp [intOf]; omega
    case pos =>
    have hne : (y.parcel != x) = false := by simpa using hx
    have hst2 : Hid (causedF l x hour false cs = if l.any (laterP x y.known) then false else causedF l x hour (decide (y.known ≤ hour)) (cs.drop (j + 1))) := by show _ = _; rw [hst.out, hd, causedF, if_pos hx]; rfl
    replace hx := Lib.hid hx
    obtain ⟨fd2, hfd2⟩ : ∃ fd2, decide (y.known ≤ hour) = fd2 := ⟨_, rfl⟩
    rw [hfd2] at hst2
    have hcw : Hid (∀ W, Below wr.heap.size wr W → W.cell? ⟨b, o + j * 3 + 2, none⟩ = some (.int .i64 y.known)) := fun W hW => (hW.cell (p := ⟨b, o + j * 3 + 2, none⟩) (by show b < wr.heap.size; have := hb.out.size; omega)).trans c2
    have hrefl2 := Below.refl wr.heap.size wr
    clear hy hd
    go_wp2
    go_loopw [11] (fun k w2 => ∃ q : Nat, q ≤ n ∧ k = .int .i64 q ∧ Hid ((l.take q).any (laterP x y.known) = false) ∧ Below wr.heap.size wr w2) (fun k _ => n - (intOf k).toNat)
    case atStart => exact ⟨0, Nat.zero_le _, rfl, Lib.hid rfl, hrefl2⟩
    case round =>
      obtain ⟨q, hq, rfl, han, hb2⟩ := hrel
      by_cases hqn : q < n
      case neg =>
        obtain rfl : n = q := by omega
        have hend : Hid (causedF l x hour false cs = causedF l x hour fd2 (cs.drop (j + 1))) := by
          show _ = _
          have h1 := han.out
          rw [List.take_of_length_le (by rw [hn.out]; exact Nat.le_refl _)] at h1
          rw [hst2.out, h1]; rfl
        have hb3 := Lib.hid (hb.out.trans (hb2.mono hb.out.size))
        go_wp2
        go_roundw
        case rel => exact ⟨j + 1, fd2, by omega, by go_num, rfl, hend, hb3.out⟩
        case measure => simp [intOf]; omega
      case pos =>
      obtain ⟨p, hp⟩ := getq (l := l) (j := q) (by rw [← hn.out]; exact hqn)
      have hsn : (l.take (q + 1)).any (laterP x y.known) = laterP x y.known p := by
        rw [take_snoc hp, List.any_append, han.out]; simp
      obtain ⟨b', o', rfl, hb0', e0, e1, e2, e3, e4, e5, e6, e7⟩ := (hlr.out.after hb2).hs.post hp
      have cy := hcw.out wr hb2
      have hqc : q ≤ cap := by omega
      have hb3 := Lib.hid (hb.out.trans (hb2.mono hb.out.size))
      have hany : laterP x y.known p = true → causedF l x hour false cs = false := fun h => by
        rw [hst2.out, if_pos]
        rw [List.any_eq_true]
        exact ⟨p, List.mem_of_getElem? hp, h⟩
      clear hlr hcw
      have hb2' := Lib.hid hb2
      clear hb2
      by_cases k1 : p.kind = 2
      case neg =>
        have t1 : (p.kind == 2) = false := by simpa using k1
        have hP : laterP x y.known p = false := by unfold laterP; rw [t1]; rfl
        rw [hP] at hsn
        replace hsn := Lib.hid hsn
        replace k1 := Lib.hid k1
        clear hany hP hp
        go_upto_region 10 with (fail)
        go_quiet (fail)
        go_wp2
        go_roundw
        case rel => exact ⟨q + 1, by omega, by go_num, hsn, below_drewN hb2'.out _⟩
        case measure => simp [intOf]; omega
      have t1 : (p.kind == 2) = true := by simpa using k1
      replace k1 := Lib.hid k1
      by_cases k2 : p.parcel = x
      case neg =>
        have t2 : (p.parcel == x) = false := by simpa using k2
        have hP : laterP x y.known p = false := by unfold laterP; rw [t2]; simp
        rw [hP] at hsn
        replace hsn := Lib.hid hsn
        replace k2 := Lib.hid k2
        clear hany hP hp
        go_upto_region 10 with (fail)
        go_quiet (fail)
        go_wp2
        go_roundw
        case rel => exact ⟨q + 1, by omega, by go_num, hsn, below_drewN hb2'.out _⟩
        case measure => simp [intOf]; omega
      have t2 : (p.parcel == x) = true := by simpa using k2
      replace k2 := Lib.hid k2
      by_cases k3 : y.known ≤ p.known
      case neg =>
        have t3 : decide (y.known ≤ p.known) = false := by simpa using k3
        have hP : laterP x y.known p = false := by unfold laterP; rw [t3]; simp
        rw [hP] at hsn
        replace hsn := Lib.hid hsn
        replace k3 := Lib.hid k3
        clear hany hP hp
        go_upto_region 10 with (fail)
        go_quiet (fail)
        go_wp2
        go_roundw
        case rel => exact ⟨q + 1, by omega, by go_num, hsn, below_drewN hb2'.out _⟩
        case measure => simp [intOf]; omega
      case pos =>
        have t3 : decide (y.known ≤ p.known) = true := by simpa using k3
        have hP : laterP x y.known p = true := by unfold laterP; rw [t1, t2, t3]; rfl
        have hres := Lib.hid (hany hP)
        replace k3 := Lib.hid k3
        clear hany hP hp hsn
        go_upto_region 10 with (fail)
        go_quiet (fail)
        go_wp2
        go_ret
        exact ⟨by rw [hres.out]; rfl, below_drewN hb3.out _⟩
end Go.Proofs.YtoijlikmigejbaaGreat
