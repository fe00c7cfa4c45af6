/- Walks: the reference's SameInts, SameDues, SameBalances. -/
import Derived.Test.YtoijlikmigejbaaGreatCRhA
namespace Go.Proofs.YtoijlikmigejbaaGreat
open Go.RowKit Go.Proofs.YtoijlikmigejbaaGreat.Pu

def bcells (d : Bal) : List Value := [.int .i64 d.party, .int .i64 d.paid, .int .i64 d.back]
abbrev bval (d : Bal) : Value := .agg #[.int .i64 d.party, .int .i64 d.paid, .int .i64 d.back]
theorem bcells_len (x : Bal) : (bcells x).length = 3 := rfl
theorem bcells_cell (x : Bal) : ∀ u ∈ bcells x, u.oneCell' = true := by
  intro u hu
  simp only [bcells, List.mem_cons, List.not_mem_nil, or_false] at hu
  rcases hu with rfl | rfl | rfl <;> rfl
theorem infoBal : (Tryz.prog.info? 66).map (fun i => (i.zero, i.size, i.bytes)) = some (some (bval ⟨0, 0, 0⟩), 3, 24) := by kernel_rfl
theorem kdBal : Kd 66 41 3 bcells := by
  obtain ⟨i0, hi, hz0, hz1, hz2⟩ := info_parts infoBal
  exact ⟨Tryz.underlying41, ⟨i0, _, hi, hz0, hz1, by omega, rfl⟩, by omega, bcells_len, bcells_cell⟩
theorem SlAt.bal {B : Nat} {w : World} {ao : Option Addr} {l : List Bal} {i : Nat} {p : Bal} (h : SlAt 3 bcells B w ao l) (hi : l[i]? = some p) :
    ∃ b o, ao = some ⟨b, o, none⟩ ∧ b < B ∧ w.cell? ⟨b, o + i * 3, none⟩ = some (.int .i64 p.party) ∧ w.cell? ⟨b, o + i * 3 + 1, none⟩ = some (.int .i64 p.paid) ∧
      w.cell? ⟨b, o + i * 3 + 2, none⟩ = some (.int .i64 p.back) := by
  rcases h with h | ⟨b, o, h1, h2, h3⟩
  · subst h; simp at hi
  · have c := h3 i p hi
    exact ⟨b, o, h1, h2, c 0 _ rfl, c 1 _ rfl, c 2 _ rfl⟩

set_option maxRecDepth 100000 in
set_option maxHeartbeats 2000000 in
theorem rSameInts (l m : List Int) (n1 c1 n2 c2 : Nat) (a1 a2 : Option Addr) (B : Nat) (w : World) (hn1 : Hid (n1 = l.length)) (hn2 : Hid (n2 = m.length)) (hm1 : n1 ≤ 100000) (hm2 : n2 ≤ 100000)
    (hs1 : SlAt 1 icells B w a1 l) (hs2 : SlAt 1 icells B w a2 m) (hB : B ≤ w.heap.size) (heq : Hid (l = m)) :
    Calls Tryz.prog 19 #[.slice a1 n1 c1, .slice a2 n2 c2] w fun e w' => e = .returned (.bool true) ∧ Below w.heap.size w w' := by
  have h12 : n1 = n2 := by rw [hn1.out, hn2.out, heq.out]
  subst h12
  go_enter Tryz.func19, Tryz.ntmps19
  go_wp2
  go_loopw [5] (fun i wr => ∃ j : Nat, j ≤ n1 ∧ i = .int .i64 j ∧ Below w.heap.size w wr) (fun i _ => n1 - (intOf i).toNat)
  case atStart => exact ⟨0, Nat.zero_le _, rfl, Below.refl _ _⟩
  case round =>
    obtain ⟨j, hj, rfl, hb⟩ := hrel
    by_cases hlt : j < n1
    · obtain ⟨p, hp⟩ := getq (l := l) (j := j) (by rw [← hn1.out]; exact hlt)
      obtain ⟨b, o, rfl, hb0, c0⟩ := (hs1.below (hb.mono hB)).int hp
      obtain ⟨b', o', rfl, hb0', d0⟩ := (hs2.below (hb.mono hB)).int (heq.out ▸ hp)
      clear hs1 hs2 hp
      go_wp2
      go_quiet (fail)
      go_wp2
      go_roundw
      case rel => exact ⟨j + 1, by omega, by go_num, below_drewN hb _⟩
      case measure => simp [intOf]; omega
    · go_wp2
      go_ret
      exact ⟨rfl, hb⟩

set_option maxRecDepth 100000 in
set_option maxHeartbeats 2000000 in
theorem rSameDues (l m : List Due) (n1 c1 n2 c2 : Nat) (a1 a2 : Option Addr) (B : Nat) (w : World) (hn1 : Hid (n1 = l.length)) (hn2 : Hid (n2 = m.length)) (hm1 : n1 ≤ 100000) (hm2 : n2 ≤ 100000)
    (hs1 : SlAt 3 dcells B w a1 l) (hs2 : SlAt 3 dcells B w a2 m) (hB : B ≤ w.heap.size) (heq : Hid (l = m)) :
    Calls Tryz.prog 25 #[.slice a1 n1 c1, .slice a2 n2 c2] w fun e w' => e = .returned (.bool true) ∧ Below w.heap.size w w' := by
  have h12 : n1 = n2 := by rw [hn1.out, hn2.out, heq.out]
  subst h12
  go_enter Tryz.func25, Tryz.ntmps25
  go_wp2
  go_loopw [5] (fun i wr => ∃ j : Nat, j ≤ n1 ∧ i = .int .i64 j ∧ Below w.heap.size w wr) (fun i _ => n1 - (intOf i).toNat)
  case atStart => exact ⟨0, Nat.zero_le _, rfl, Below.refl _ _⟩
  case round =>
    obtain ⟨j, hj, rfl, hb⟩ := hrel
    by_cases hlt : j < n1
    · obtain ⟨p, hp⟩ := getq (l := l) (j := j) (by rw [← hn1.out]; exact hlt)
      obtain ⟨b, o, rfl, hb0, c0, c1, c2⟩ := (hs1.below (hb.mono hB)).due hp
      obtain ⟨b', o', rfl, hb0', d0, d1, d2⟩ := (hs2.below (hb.mono hB)).due (heq.out ▸ hp)
      clear hs1 hs2 hp
      go_wp2
      go_quiet (fail)
      go_wp2
      go_roundw
      case rel => exact ⟨j + 1, by omega, by go_num, below_drewN hb _⟩
      case measure => simp [intOf]; omega
    · go_wp2
      go_ret
      exact ⟨rfl, hb⟩

set_option maxRecDepth 100000 in
set_option maxHeartbeats 2000000 in
theorem rSameBalances (l m : List Bal) (n1 c1 n2 c2 : Nat) (a1 a2 : Option Addr) (B : Nat) (w : World) (hn1 : Hid (n1 = l.length)) (hn2 : Hid (n2 = m.length)) (hm1 : n1 ≤ 100000) (hm2 : n2 ≤ 100000)
    (hs1 : SlAt 3 bcells B w a1 l) (hs2 : SlAt 3 bcells B w a2 m) (hB : B ≤ w.heap.size) (heq : Hid (l = m)) :
    Calls Tryz.prog 20 #[.slice a1 n1 c1, .slice a2 n2 c2] w fun e w' => e = .returned (.bool true) ∧ Below w.heap.size w w' := by
  have h12 : n1 = n2 := by rw [hn1.out, hn2.out, heq.out]
  subst h12
  go_enter Tryz.func20, Tryz.ntmps20
  go_wp2
  go_loopw [5] (fun i wr => ∃ j : Nat, j ≤ n1 ∧ i = .int .i64 j ∧ Below w.heap.size w wr) (fun i _ => n1 - (intOf i).toNat)
  case atStart => exact ⟨0, Nat.zero_le _, rfl, Below.refl _ _⟩
  case round =>
    obtain ⟨j, hj, rfl, hb⟩ := hrel
    by_cases hlt : j < n1
    · obtain ⟨p, hp⟩ := getq (l := l) (j := j) (by rw [← hn1.out]; exact hlt)
      obtain ⟨b, o, rfl, hb0, c0, c1, c2⟩ := (hs1.below (hb.mono hB)).bal hp
      obtain ⟨b', o', rfl, hb0', d0, d1, d2⟩ := (hs2.below (hb.mono hB)).bal (heq.out ▸ hp)
      clear hs1 hs2 hp
      go_wp2
      go_quiet (fail)
      go_wp2
      go_roundw
      case rel => exact ⟨j + 1, by omega, by go_num, below_drewN hb _⟩
      case measure => simp [intOf]; omega
    · go_wp2
      go_ret
      exact ⟨rfl, hb⟩
end Go.Proofs.YtoijlikmigejbaaGreat
