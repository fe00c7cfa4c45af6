/- slices.SortFunc at accounts. Walks: the accounts that have something, in order. Walks: accounts. Plain laws of a book: nothing is held or had below 0; the accounts that have something, in order. -/
import Derived.Shelf.SlSortCmp.WholeK
import Derived.Shelf.SlGeneric
import Derived.Ground.SlsfProg
import Derived.Ground.NamesProg
import Derived.Test.YtoijlikmigejbaaG11
namespace Go.Proofs
open Go.Shelf Go.RowKit Go.Lib Go.Sort
def Try.sortA_ren : Go.Shelf.Ren := ⟨fun | 6 => 90 | 15 => 94 | 14 => 93 | 28 => 103 | 29 => 104 | 20 => 95 | 21 => 96 | 22 => 97 | 23 => 98 | 24 => 99 | 25 => 100 | 26 => 101 | 27 => 102 | 46 => 105 | 47 => 106 | 48 => 107 | 49 => 108 | 50 => 109 | 57 => 110 | n => n, fun | 22 => 116 | 24 => 90 | 25 => 110 | 3 => 3 | 39 => 34 | 0 => 0 | 53 => 141 | 55 => 143 | 4 => 4 | 46 => 135 | 45 => 134 | 50 => 126 | 5 => 5 | 9 => 9 | 66 => 144 | 70 => 148 | 76 => 150 | 77 => 151 | n => n, fun | n => n⟩
theorem Try.sortA : Go.Proofs.SlLaysF0.n6 Try.prog Try.sortA_ren := {
  mixed := by kernel_rfl
  f6 := ⟨Try.f90.name, by decide, Try.func90.trans (congrArg some (by kernel_rfl))⟩
  f14 := ⟨Try.f93.name, by decide, Try.func93.trans (congrArg some (by kernel_rfl))⟩
  f15 := Try.func94.trans (congrArg some (by kernel_rfl))
  f20 := ⟨Try.f95.name, by decide, Try.func95.trans (congrArg some (by kernel_rfl))⟩
  f21 := ⟨Try.f96.name, by decide, Try.func96.trans (congrArg some (by kernel_rfl))⟩
  f22 := ⟨Try.f97.name, by decide, Try.func97.trans (congrArg some (by kernel_rfl))⟩
  f23 := ⟨Try.f98.name, by decide, Try.func98.trans (congrArg some (by kernel_rfl))⟩
  f24 := ⟨Try.f99.name, by decide, Try.func99.trans (congrArg some (by kernel_rfl))⟩
  f25 := ⟨Try.f100.name, by decide, Try.func100.trans (congrArg some (by kernel_rfl))⟩
  f26 := ⟨Try.f101.name, by decide, Try.func101.trans (congrArg some (by kernel_rfl))⟩
  f27 := ⟨Try.f102.name, by decide, Try.func102.trans (congrArg some (by kernel_rfl))⟩
  f28 := Try.func103.trans (congrArg some (by kernel_rfl))
  f29 := Try.func104.trans (congrArg some (by kernel_rfl))
  f46 := ⟨Try.f105.name, by decide, Try.func105.trans (congrArg some (by kernel_rfl))⟩
  f47 := Try.func106.trans (congrArg some (by kernel_rfl))
  f48 := Try.func107.trans (congrArg some (by kernel_rfl))
  f49 := ⟨Try.f108.name, by decide, Try.func108.trans (congrArg some (by kernel_rfl))⟩
  f50 := ⟨Try.f109.name, by decide, Try.func109.trans (congrArg some (by kernel_rfl))⟩
  f57 := ⟨Try.f110.name, by decide, Try.func110.trans (congrArg some (by kernel_rfl))⟩
  t0 := Try.underlying0
  a0 := Try.isAgg0
  z0 := Try.sizeOf0
  v0 := Try.zeroValue0
  t3 := Try.underlying3
  a3 := Try.isAgg3
  z3 := Try.sizeOf3
  v3 := Try.zeroValue3
  t4 := Try.underlying4
  a4 := Try.isAgg4
  z4 := Try.sizeOf4
  v4 := Try.zeroValue4
  t5 := Try.underlying5
  a5 := Try.isAgg5
  z5 := Try.sizeOf5
  v5 := Try.zeroValue5
  t9 := Try.underlying9
  a9 := Try.isAgg9
  z9 := Try.sizeOf9
  v9 := Try.zeroValue9
  t22 := Try.underlying116
  a22 := Try.isAgg116
  z22 := Try.sizeOf116
  v22 := Try.zeroValue116
  t25 := Try.underlying110
  a25 := Try.isAgg110
  z25 := Try.sizeOf110
  v25 := Try.zeroValue110
  t39 := Try.underlying34
  a39 := Try.isAgg34
  z39 := Try.sizeOf34
  v39 := Try.zeroValue34
  t45 := Try.underlying134
  a45 := Try.isAgg134
  z45 := Try.sizeOf134
  v45 := Try.zeroValue134
  t46 := Try.underlying135
  a46 := Try.isAgg135
  z46 := Try.sizeOf135
  v46 := Try.zeroValue135
  t50 := Try.underlying126
  a50 := Try.isAgg126
  z50 := Try.sizeOf126
  v50 := Try.zeroValue126
  t53 := Try.underlying141
  a53 := Try.isAgg141
  z53 := Try.sizeOf141
  v53 := Try.zeroValue141
  t55 := Try.underlying143
  a55 := Try.isAgg143
  z55 := Try.sizeOf143
  v55 := Try.zeroValue143
  t66 := Try.underlying144
  a66 := Try.isAgg144
  z66 := Try.sizeOf144
  v66 := Try.zeroValue144
  t70 := Try.underlying148
  a70 := Try.isAgg148
  z70 := Try.sizeOf148
  v70 := Try.zeroValue148
  t76 := Try.underlying150
  a76 := Try.isAgg150
  z76 := Try.sizeOf150
  v76 := Try.zeroValue150
  t77 := Try.underlying151
  a77 := Try.isAgg151
  z77 := Try.sizeOf151
  v77 := Try.zeroValue151 }
end Go.Proofs

namespace Go.Proofs.Ytoijlikmigejbaa
open Go.RowKit Go.Shelf Go.Proofs.Ytoijlikmigejbaa.Pu

theorem ltA (x y : Int × Int) : Go.Proofs.ltOf cmpA x y = decide (x.1 < y.1 ∨ x.1 = y.1 ∧ x.2 < y.2) := by
  unfold Go.Proofs.ltOf cmpA orI cmpI
  by_cases h1 : x.1 < y.1
  · simp [h1]
  · by_cases h2 : y.1 < x.1
    · have h3 : ¬ x.1 = y.1 := by omega
      simp [h1, h2, h3]
    · have h3 : x.1 = y.1 := by omega
      by_cases h4 : x.2 < y.2
      · simp [h3, h4]
      · by_cases h5 : y.2 < x.2 <;> simp [h3, h4, h5]
theorem swoA : Go.Sort.SWO (Go.Proofs.ltOf cmpA) where
  irrefl x := by rw [ltA]; simp
  trans x y z h1 h2 := by rw [ltA] at *; simp only [decide_eq_true_eq] at *; omega
  ntrans x y z h1 h2 := by rw [ltA] at *; simp only [decide_eq_false_iff_not] at *; omega

theorem cmpLaysA (blk off size : Nat) (w : World) : Go.Proofs.CmpLays Try.prog 71 #[] acells 2 cmpA blk off size w := fun _ _ _ _ x y => pcompareG x y _

theorem holdsA {w : World} {rb : Nat} {d : List (Int × Int)} (h : RowA w rb d) : Go.Sort.HoldsK acells 2 w rb 0 d.toArray := by
  intro j hj
  rw [Go.Sort.size_flatK, List.size_toArray] at hj
  refine ⟨?_, h.fz _⟩
  rw [Go.Sort.get_flatK _ _ _ _ (by simpa using hj), Nat.zero_add]
  obtain ⟨x, hx⟩ := getq (l := d) (j := j / 2) (by omega)
  have hx2 : d.toArray[j / 2]! = x := by
    obtain ⟨h1, rfl⟩ := List.getElem?_eq_some_iff.1 hx
    rw [getElem!_pos _ _ (by simpa using h1)]; simp
  rw [hx2]
  rcases Nat.mod_two_eq_zero_or_one j with h2 | h2
  · have := h.c0 _ x hx; rw [show j / 2 * 2 = j by omega] at this; rw [this, h2]; rfl
  · have := h.c1 _ x hx; rw [show j / 2 * 2 + 1 = j by omega] at this; rw [this, h2]; rfl
theorem rowA_of {w : World} {rb : Nat} {d : Array (Int × Int)} (hlt : rb < w.heap.size) (h : Go.Sort.HoldsK acells 2 w rb 0 d) (hz : ∀ j, w.frozen? ⟨rb, j, none⟩ = false) : RowA w rb d.toList := by
  have hc : ∀ i x, d.toList[i]? = some x → i < d.size ∧ d[i]! = x := fun i x hx => by
    obtain ⟨h1, rfl⟩ := List.getElem?_eq_some_iff.1 hx
    exact ⟨by simpa using h1, by rw [getElem!_pos _ _ (by simpa using h1)]; simp⟩
  refine ⟨hlt, fun i x hx => ?_, fun i x hx => ?_, hz⟩
  · have := (h.cell (hc i x hx).1 (show 0 < 2 by omega)).1
    rw [(hc i x hx).2, Nat.zero_add, Nat.add_zero] at this; exact this
  · have := (h.cell (hc i x hx).1 (show 1 < 2 by omega)).1
    rw [(hc i x hx).2, Nat.zero_add] at this; exact this

/-- the sort's answer -/
def SortRes (rb : Nat) (d : List (Int × Int)) (w : World) (e : Ending) (w' : World) : Prop :=
  e = .returned (.tuple #[]) ∧ ∃ d', d'.Perm d ∧ d'.Pairwise (fun x y => Go.Proofs.ltOf cmpA y x = false) ∧ RowA w' rb d' ∧ ∀ M, M ≤ rb → Below M w w'

theorem xSortA (d : List (Int × Int)) (cap rb : Nat) (w : World) (hR : RowA w rb d) (hd : d.length ≤ 1000000) :
    Calls Try.prog 90 #[.slice (some ⟨rb, 0, none⟩) d.length cap, .func (.func 71) #[] #[]] w (SortRes rb d w) := by
  have eg : ∀ args w, (callFunc 71 args).run Try.prog w = .ok (.enter 71 args) w := enters_of Try.func71 (by kernel_rfl) rfl
  have hcon := AnyQ.slices_SortFunc Try.sortA 2 Try.isAgg90 Try.sizeOf90 acells acells_len acells_cell cmpA swoA 71 #[] rb 0 cap d.toArray w eg (cmpLaysA rb 0 _ w) (holdsA hR) hR.lt (by simp; omega)
  change Calls Try.prog 90 _ _ _ at hcon
  rw [List.size_toArray] at hcon
  refine hcon.mono ?_
  rintro e w' ⟨rfl, d', n, os, ⟨hsz, _, hperm⟩, hsort, rfl⟩
  replace hsz : d'.size = d.length := by simpa using hsz
  have hH2 : Go.Sort.HoldsK acells 2 (sortWorldK acells 2 w rb 0 n d' os) rb 0 d' :=
    Go.Sort.holdsK_grow _ _ _ _ _ _ _ (by simp [Go.Sort.putRowK, Go.Sort.putRow, Go.Sort.mapBlock, Go.Sort.ahead]; exact hR.lt) (Go.Sort.holdsK_putRowK _ _ _ _ _ _ _ (Go.Sort.holdsK_ahead _ _ _ n _ _ _ (holdsA hR)) (by simpa using hsz))
  refine ⟨rfl, d'.toList, ?_, ?_, rowA_of ?_ hH2 ?_, ?_⟩
  · have h1 : d'.extract 0 d.length = d' := by rw [← hsz]; simp
    have h2 : d.toArray.extract 0 d.length = d.toArray := by simp
    rw [h1, h2] at hperm
    simpa using hperm
  · rw [List.pairwise_iff_getElem]
    intro i j hi hj hij
    have := hsort i j (Nat.zero_le _) hij (by rw [← hsz]; simpa using hj)
    rw [getElem!_pos _ _ (by simpa using hj), getElem!_pos _ _ (by simpa using hi)] at this
    simpa using this
  · simp [sortWorldK, Go.Sort.grow, Go.Sort.putRowK, Go.Sort.putRow, Go.Sort.mapBlock, Go.Sort.ahead]; have := hR.lt; omega
  · intro j
    unfold sortWorldK
    rw [Go.Sort.frozen?_grow _ _ _ (by simp [Go.Sort.putRowK, Go.Sort.putRow, Go.Sort.mapBlock, Go.Sort.ahead]; exact hR.lt)]
    exact (Go.Sort.frozen?_mapBlock _ _ _ _).trans (hR.fz j)
  · intro M hM
    refine ⟨rfl, rfl, rfl, by simp [sortWorldK, Go.Sort.grow, Go.Sort.putRowK, Go.Sort.putRow, Go.Sort.mapBlock, Go.Sort.ahead], fun k hk => ?_⟩
    have hkl : k < w.heap.size := Nat.lt_of_lt_of_le hk (Nat.le_trans hM (Nat.le_of_lt hR.lt))
    unfold sortWorldK
    rw [Go.Sort.heap_grow_old _ _ (by simp [Go.Sort.putRowK, Go.Sort.putRow, Go.Sort.mapBlock, Go.Sort.ahead]; exact hkl)]
    simp only [Go.Sort.putRowK, Go.Sort.putRow, Go.Sort.mapBlock, Go.Sort.ahead]
    rw [Array.getElem?_modify, if_neg (by omega)]
end Go.Proofs.Ytoijlikmigejbaa

namespace Go.Proofs.Ytoijlikmigejbaa
open Go.RowKit Go.Shelf Go.Proofs.Ytoijlikmigejbaa.Pu

set_option maxHeartbeats 2000000 in
theorem xInsNone (p : Option Addr) (cap : Nat) (fv : Value) (w : World) :
    Calls Try.prog 95 #[.slice p 0 cap, .int .i64 0, .int .i64 0, fv] w fun e w' => e = .returned (.tuple #[]) ∧ w' = w := by
  go_enter Try.func95, Try.ntmps95
  go_wp2
  refine wp_loop_rounds 1 ?_
  rw [rounds_succ]
  go_wp2
  go_end0
  exact ⟨rfl, rfl⟩
set_option maxHeartbeats 2000000 in
theorem xPdqNone (p : Option Addr) (cap : Nat) (lim : Int) (fv : Value) (w : World) :
    Calls Try.prog 93 #[.slice p 0 cap, .int .i64 0, .int .i64 0, .int .i64 lim, fv] w fun e w' => e = .returned (.tuple #[]) ∧ w' = w := by
  go_enter Try.func93, Try.ntmps93
  go_wp2
  refine wp_loop_rounds 1 ?_
  rw [rounds_succ]
  go_wp2_with (go_at_call 95; refine (xInsNone p cap fv _).mono ?_; rintro e w' ⟨rfl, rfl⟩)
  (try simp only [Exit.inBlock, Exit.then]); refine bodyPost_ret (results_none rfl _ _ _) rfl ?_
  exact ⟨rfl, rfl⟩
set_option maxHeartbeats 2000000 in
/-- the sort of nothing -/
theorem xSortNone (p : Option Addr) (cap : Nat) (fv : Value) (w : World) :
    Calls Try.prog 90 #[.slice p 0 cap, fv] w fun e w' => e = .returned (.tuple #[]) ∧ w' = w := by
  have hl : ∀ W, Calls Try.prog 94 #[.int .u64 0] W fun e w' => e = .returned (.int .i64 (Lib.bitLen 0 : Nat)) ∧ w' = W := fun W => by
    have h := Any.bits_Len (SlLaysF0.n15.bits (P := Try.prog) { Try.sortA with }) 0 W (by omega) (by omega)
    exact h
  go_enter Try.func90, Try.ntmps90
  go_wp2_with (first | (go_at_call 94; refine (hl _).mono ?_; rintro e w' ⟨rfl, rfl⟩) | (go_at_call 93; refine (xPdqNone _ _ _ _ _).mono ?_; rintro e w' ⟨rfl, rfl⟩))
  go_end0
  exact ⟨rfl, rfl⟩

theorem pKeys (b : Nat) (w : World) : Calls Try.prog 85 #[.map (some b)] w fun e w' =>
    e = .returned (.func (.func 91) #[] #[.pointer (some ⟨w.heap.size, 0, none⟩)]) ∧ w.alloc (.cells #[.map (some b)] 72) = w' := by
  have hmf : ∀ (fn : Fn) (first cap : Array Value) (w : World), (Instr.makeFunc fn first cap).run Try.prog w = .ok (.func fn first cap) w := fun _ _ _ _ => rfl
  go_enter Try.func85, Try.ntmps85
  go_wp2
  go_ret
  exact ⟨rfl, rfl⟩
theorem pKeysCollect (b : Nat) (m : List ((Int × Int) × Int)) (w : World) (Bm : Nat) (hBm : Bm < w.heap.size) (hm : w.cell? ⟨Bm, 0, none⟩ = some (.map (some b))) (hb : w.heap[b]? = some (mapObj kv vi m)) (hl : m.length ≤ 1000000) :
    Calls Try.prog 89 #[.func (.func 91) #[] #[.pointer (some ⟨Bm, 0, none⟩)]] w fun e w' =>
      ∃ ao cap xs, e = .returned (.slice ao xs.length cap) ∧ xs.Perm (m.map (·.1)) ∧ Own 90 2 acells w.heap.size w' ao xs.length cap xs ∧ Below w.heap.size w w' := by
  refine (callsIn_wide (n := 5)).1 ?_
  exact xCollectA 5 (by omega) _ _ (enters_of Try.func91 (by kernel_rfl) rfl) _ _ m.length hl w w (keys_stops 3 (by omega) w.heap.size Bm b m w hBm hm hb) (Below.refl _ _)

/-- a slice of accounts of its own: nil, or a row that may be written -/
def AcSl (base : Nat) (w : World) (ao : Option Addr) (n cap : Nat) (d : List (Int × Int)) : Prop :=
  (ao = none ∧ n = 0 ∧ d = []) ∨ ∃ g, ao = some ⟨g, 0, none⟩ ∧ base ≤ g ∧ RowA w g d ∧ n = d.length ∧ n ≤ cap
theorem Own.acSl {base : Nat} {w : World} {ao : Option Addr} {n cap : Nat} {d : List (Int × Int)} (h : Own 90 2 acells base w ao n cap d) : AcSl base w ao n cap d := by
  have hs := Own.slAt acells_len (by omega) h
  obtain ⟨hl, h | ⟨g, cap', cur, hv, hb, hg, hn, hm, hsz, ht⟩⟩ := h
  · have h0 := h.2
    rw [h0, Nat.zero_mul, flat_length acells_len] at hl
    have h1 := h.1
    simp only [Value.slice.injEq] at h1
    exact .inl ⟨h1.1, h0, List.length_eq_zero_iff.1 (by omega)⟩
  · simp only [Value.slice.injEq] at hv
    obtain ⟨rfl, _, rfl⟩ := hv
    rw [flat_length acells_len] at hl
    have hlt : g < w.heap.size := (Array.getElem?_eq_some_iff.1 hg).1
    refine .inr ⟨g, rfl, hb, ⟨hlt, fun i x hi => ?_, fun i x hi => ?_, fun j => ?_⟩, by omega, hn⟩
    · obtain ⟨b, o, he, _, h1, _⟩ := hs.acct hi
      cases he; rw [Nat.zero_add] at h1; exact h1
    · obtain ⟨b, o, he, _, _, h1⟩ := hs.acct hi
      cases he; rw [Nat.zero_add] at h1; exact h1
    · simp [World.frozen?, hg]

/-- SortedFunc's answer -/
def SrtRes (m : List ((Int × Int) × Int)) (w : World) (e : Ending) (w' : World) : Prop :=
  ∃ ao n cap d, e = .returned (.slice ao n cap) ∧ d.Perm (m.map (·.1)) ∧ d.Pairwise (fun x y => Go.Proofs.ltOf cmpA y x = false) ∧ AcSl w.heap.size w' ao n cap d ∧ Below w.heap.size w w'

set_option maxRecDepth 100000 in
set_option maxHeartbeats 2000000 in
theorem xSortedA (b : Nat) (m : List ((Int × Int) × Int)) (w : World) (Bm : Nat) (hBm : Bm < w.heap.size) (hm : w.cell? ⟨Bm, 0, none⟩ = some (.map (some b))) (hb : w.heap[b]? = some (mapObj kv vi m)) (hl : m.length ≤ 1000) :
    Calls Try.prog 84 #[.func (.func 91) #[] #[.pointer (some ⟨Bm, 0, none⟩)], .func (.func 71) #[] #[]] w (SrtRes m w) := by
  have hcol := Lib.hid (pKeysCollect b m w Bm hBm hm hb (by omega))
  go_enter Try.func84, Try.ntmps84
  go_wp2_with (fail)
  go_at_call 89
  refine hcol.out.mono ?_
  rintro e w1 ⟨ao, cap, xs, rfl, hperm, hown, hB⟩
  have hlen : xs.length ≤ 1000 := by have := hperm.length_eq; simp at this; omega
  obtain ⟨rfl, h0, rfl⟩ | ⟨g, rfl, hg, hR, _, hc⟩ := hown.acSl
  · replace hB := Lib.hid hB
    replace hperm := Lib.hid hperm
    clear hown
    go_wp2_with (go_at_call 90; refine (xSortNone _ _ _ _).mono ?_; rintro e w' ⟨rfl, rfl⟩)
    go_ret
    exact ⟨none, 0, cap, [], rfl, hperm.out, List.Pairwise.nil, .inl ⟨rfl, rfl, rfl⟩, hB.out⟩
  · have hsort := Lib.hid (xSortA xs cap g w1 hR (by omega))
    replace hB := Lib.hid hB
    replace hperm := Lib.hid hperm
    obtain ⟨n, hn⟩ : ∃ n, Hid (xs.length = n) := ⟨_, rfl⟩
    rw [hn.out] at hlen hc hsort ⊢
    clear hown hR
    go_wp2_with (go_at_call 90; refine hsort.out.mono ?_; rintro e w' ⟨rfl, d', hp, hpw, hR', hBl⟩)
    go_ret
    exact ⟨_, n, cap, d', rfl, hp.trans hperm.out, hpw, .inr ⟨g, rfl, hg, hR', by rw [← hn.out]; exact hp.length_eq.symm, hc⟩, hB.out.trans (hBl _ hg)⟩
end Go.Proofs.Ytoijlikmigejbaa

namespace Go.Proofs.Ytoijlikmigejbaa
open Go.RowKit Go.Shelf Go.Proofs.Ytoijlikmigejbaa.Pu

def ltAc (x y : Int × Int) : Prop := x.1 < y.1 ∨ x.1 = y.1 ∧ x.2 < y.2
theorem strict_of {d : List (Int × Int)} (h : d.Pairwise (fun x y => Go.Proofs.ltOf cmpA y x = false)) (hn : d.Nodup) : d.Pairwise ltAc := by
  have h2 := List.pairwise_and_iff.2 ⟨h, hn⟩
  refine h2.imp ?_
  rintro ⟨a, b⟩ ⟨c, e⟩ ⟨h3, h4⟩
  rw [ltA] at h3
  unfold ltAc
  simp only [decide_eq_false_iff_not] at h3
  simp only [ne_eq, Prod.mk.injEq] at h4
  dsimp only at h3 ⊢
  omega
theorem gd_none {K : Type} [DecidableEq K] {m : List (K × Int)} {x : K} (h : x ∉ m.map (·.1)) : gd m x = 0 := by
  have : getM m x = none := by
    induction m with
    | nil => rfl
    | cons kv r ih =>
      obtain ⟨k, v⟩ := kv
      simp only [List.map_cons, List.mem_cons, not_or] at h
      rw [getM_cons, if_neg h.1]
      exact ih h.2
  unfold gd; rw [this]; rfl

/-- accounts' answer -/
def AccRes (c : CS) (w : World) (e : Ending) (w' : World) : Prop :=
  ∃ ao n cap d, e = .returned (.slice ao n cap) ∧ n = d.length ∧ n ≤ cap ∧ n ≤ c.has.length ∧ d.Pairwise ltAc ∧ (∀ a, a ∈ d ↔ gd c.has a ≠ 0) ∧ SlAt 2 acells w'.heap.size w' ao d ∧ Below w.heap.size w w'

set_option maxRecDepth 100000 in
set_option maxHeartbeats 2000000 in
/-- DeleteFunc at nil -/
theorem xDeleteNone (wf : FuncId) (wc : Array Value) (P : Int × Int → Bool) (M : Nat) (cap : Nat) (w : World)
    (ew : ∀ args w, (callFunc wf args).run Try.prog w = .ok (.enter wf args) w) (hw : Hid (WantsA wf wc P M w)) (hM : M ≤ w.heap.size) :
    Calls Try.prog 83 #[.slice none 0 cap, .func (.func wf) #[] wc] w fun e w' => e = .returned (.slice none 0 cap) ∧ Below w.heap.size w w' := by
  have hix := Lib.hid (xIndexA wf wc P M [] 0 cap none w rfl (by omega) (by omega) (.inl rfl) ew hw hM)
  have hidx : idxP P [] = -1 := rfl
  rw [hidx] at hix
  go_enter Try.func83, Try.ntmps83
  go_wp2_with (go_at_call 88; refine hix.out.mono ?_; rintro e w1 ⟨rfl, hB1⟩)
  go_ret
  exact ⟨rfl, hB1⟩

theorem xDeleteAc (wf : FuncId) (wc : Array Value) (P : Int × Int → Bool) (M base : Nat) (d : List (Int × Int)) (ao : Option Addr) (n cap : Nat) (w : World) (hsl : AcSl base w ao n cap d) (hm : n ≤ 100000) (hMb : M ≤ base)
    (ew : ∀ args w, (callFunc wf args).run Try.prog w = .ok (.enter wf args) w) (hw : Hid (WantsA wf wc P M w)) (hM : M ≤ w.heap.size) :
    Calls Try.prog 83 #[.slice ao n cap, .func (.func wf) #[] wc] w fun e w' =>
      ∃ ao' n' cap', e = .returned (.slice ao' n' cap') ∧ n' = (d.filter fun a => !P a).length ∧ n' ≤ cap' ∧ SlAt 2 acells w'.heap.size w' ao' (d.filter fun a => !P a) ∧ Below M w w' := by
  obtain ⟨rfl, rfl, rfl⟩ | ⟨g, rfl, hg, hR, rfl, hc⟩ := hsl
  · refine (xDeleteNone wf wc P M cap w ew hw hM).mono ?_
    rintro e w' ⟨rfl, hB⟩
    exact ⟨none, 0, cap, rfl, rfl, Nat.zero_le _, .inl rfl, hB.mono hM⟩
  · refine (xDeleteA wf wc P M d d.length cap g w rfl hm hc hR ew hw (by omega)).mono ?_
    rintro e w' ⟨cap', rfl, h1, hR', hB⟩
    exact ⟨_, _, cap', rfl, rfl, h1, hR'.slAt, hB⟩

theorem acc_mem {c : CS} {d : List (Int × Int)} (hp : d.Perm (c.has.map (·.1))) (a : Int × Int) : a ∈ d.filter (fun a => !noneP c a) ↔ gd c.has a ≠ 0 := by
  rw [List.mem_filter, hp.mem_iff]
  have e : (!noneP c a) = true ↔ gd c.has a ≠ 0 := by unfold noneP; simp
  rw [e]
  refine ⟨fun h => h.2, fun h => ⟨?_, h⟩⟩
  exact Classical.byContradiction fun hn => h (gd_none hn)

theorem hid_sorted {c : CS} {N : Nat} {Wb : World} (hCb : ChestAt Wb N c) (hl : c.has.length ≤ 1000) : Hid (Calls Try.prog 84 #[.func (.func 91) #[] #[.pointer (some ⟨Wb.heap.size, 0, none⟩)], .func (.func 71) #[] #[]] (Wb.alloc (.cells #[.map (some (N + 3))] 72)) (SrtRes c.has (Wb.alloc (.cells #[.map (some (N + 3))] 72)))) :=
  xSortedA (N + 3) c.has _ Wb.heap.size (by simp) (by simp) ((hCb.alloc _).has) hl

set_option maxRecDepth 100000 in
set_option maxHeartbeats 2000000 in
theorem paccounts (N : Nat) (c : CS) (w : World) (hC : ChestAt w N c) (hnd : Hid (c.has.map (·.1)).Nodup) (hl : c.has.length ≤ 1000) :
    Calls Try.prog 77 #[.pointer (some ⟨N + 5, 0, none⟩)] w (AccRes c w) := by
  have hmf : ∀ (fn : Fn) (first cap : Array Value) (w : World), (Instr.makeFunc fn first cap).run Try.prog w = .ok (.func fn first cap) w := fun _ _ _ _ => rfl
  have hCb : ChestAt (w.alloc (.cells #[.pointer (some ⟨N + 5, 0, none⟩)] 58)) N c := hC.alloc _
  have hBb : Hid (Below w.heap.size w (w.alloc (.cells #[.pointer (some ⟨N + 5, 0, none⟩)] 58))) := (Below.refl _ _).alloc (Nat.le_refl _) _
  have hlt := hC.lt
  have c5 := hCb.c5
  have hsrt := hid_sorted hCb hl
  have hc0 : Hid ((w.alloc (.cells #[.pointer (some ⟨N + 5, 0, none⟩)] 58)).cell? ⟨w.heap.size, 0, none⟩ = some (.pointer (some ⟨N + 5, 0, none⟩))) := by show _ = _; simp
  replace hCb := Lib.hid hCb
  clear hC
  go_enter Try.func77, Try.ntmps77
  go_wp2_with (fail)
  go_at_call 85
  refine (pKeys _ _).mono ?_
  rintro e w2 ⟨rfl, hw2⟩
  rw [hw2] at hsrt
  have hW2 : Hid (Below (w.heap.size + 1) (w.alloc (.cells #[.pointer (some ⟨N + 5, 0, none⟩)] 58)) w2) := by
    show Below _ _ _
    rw [← hw2]; exact (Below.refl _ _).alloc (by simp) _
  have hs2 : w2.heap.size = w.heap.size + 2 := by rw [← hw2]; simp
  clear hw2
  obtain ⟨sz, hsz⟩ : ∃ sz, (w.alloc (.cells #[.pointer (some ⟨N + 5, 0, none⟩)] 58)).heap.size = sz := ⟨_, rfl⟩
  rw [hsz] at hsrt ⊢
  clear hsz
  go_wp2_with (fail)
  go_at_call 84
  refine Calls.mono (R := SrtRes c.has w2) hsrt.out ?_
  rintro e w3 ⟨ao, n, cap, d, rfl, hperm, hpw, hsl, hB3⟩
  have hn : n = d.length := by
    rcases hsl with ⟨_, h1, h2⟩ | ⟨_, _, _, _, h1, _⟩
    · rw [h1, h2]; rfl
    · exact h1
  have hlen : n = c.has.length := by rw [hn, hperm.length_eq, List.length_map]
  have hs3 : w.heap.size + 2 ≤ w3.heap.size := by rw [← hs2]; exact hB3.size
  have hW3 : Below (w.heap.size + 1) (w.alloc (.cells #[.pointer (some ⟨N + 5, 0, none⟩)] 58)) w3 := hW2.out.trans (hB3.mono (by omega))
  have hwant := wants_none N w.heap.size (w.heap.size + 1) c w3 (hCb.out.below hW3 (by omega)) (by omega) (by omega) (by omega) ((hW3.cell (p := ⟨w.heap.size, 0, none⟩) (by simp)).trans hc0.out)
  have hdel := Lib.hid (xDeleteAc 86 _ (noneP c) (w.heap.size + 1) w2.heap.size d ao n cap w3 hsl (by omega) (by omega) (enters_of Try.func86 (by kernel_rfl) rfl) hwant (by omega))
  have hnd' : Hid d.Nodup := hperm.nodup_iff.2 hnd.out
  have hmem := Lib.hid (acc_mem hperm)
  have hst := Lib.hid (strict_of hpw hnd'.out)
  replace hW3 := Lib.hid hW3
  replace hn := Lib.hid hn
  replace hlen := Lib.hid hlen
  clear hwant hsl hpw hperm hB3 hsrt hCb hc0 hnd hW2
  go_wp2_with (fail)
  go_at_call 83
  refine hdel.out.mono ?_
  rintro e w4 ⟨ao', n', cap', rfl, hn', hc', hs', hB4⟩
  replace hn' := Lib.hid hn'
  replace hs' := Lib.hid hs'
  replace hB4 := Lib.hid hB4
  clear hdel
  go_wp2
  go_ret
  refine ⟨ao', n', cap', _, rfl, hn'.out, hc', ?_, hst.out.sublist List.filter_sublist, hmem.out, hs'.out, ?_⟩
  · rw [hn'.out, ← hlen.out, hn.out]; exact List.length_filter_le _ _
  · exact hBb.out.trans ((hW3.out.trans hB4.out).mono (by omega))
end Go.Proofs.Ytoijlikmigejbaa

namespace Go.Proofs.Ytoijlikmigejbaa
open Go.Proofs.Ytoijlikmigejbaa.Pu

/-- what is true of each book -/
def SP (l : List Post) : Prop := ∀ x, 0 ≤ Pu.held l x ∧ 0 ≤ Pu.sold l x ∧ Pu.sold l x ≤ 1000000000 ∧ ∀ y, 0 ≤ Pu.has l y x
theorem SP.nil : SP [] := fun x => by
  have h : ∀ k, hasUpto [] x k = 0 := fun k => by
    induction k with
    | zero => rfl
    | succ k ih => rw [hasUpto, ih]; rfl
  have h0 : Pu.held [] x = 0 := by rw [Pu.held, h]; rfl
  have h1 : Pu.sold [] x = 0 := rfl
  exact ⟨by omega, by omega, by omega, fun y => Int.le_refl 0⟩
theorem SP.app {l : List Post} {p : Post} (h : SP l) (hr : refused l p = 0) : SP (l ++ [p]) := by
  have hok := (refused_ok hr).1
  have ha := okP_amount hok
  have hp := okP_party hok
  unfold refused at hr
  split at hr
  · omega
  split at hr
  · omega
  split at hr
  · omega
  split at hr
  · omega
  intro x
  obtain ⟨a1, a2, a3, a4⟩ := h x
  rw [held_app l p x hp.1 hp.2, sold_app]
  obtain ⟨b1, b2, b3, b4⟩ := h p.parcel
  split at hr
  · rename_i hk
    split at hr
    · omega
    · have e : ∀ y, hasOf y x p = 0 := fun y => by unfold hasOf; rw [if_neg (show ¬ p.kind = 2 by omega), if_neg (show ¬ p.kind = 3 by omega)]; split <;> rfl
      have hs : soldOf x p = 0 ∨ (soldOf x p = p.amount ∧ p.parcel = x) := by unfold soldOf; split <;> simp_all
      refine ⟨by rw [e]; omega, by omega, ?_, fun y => by rw [has_app, e]; have := a4 y; omega⟩
      rcases hs with hs | ⟨hs, rfl⟩ <;> omega
  · rename_i hk
    have hs : soldOf x p = 0 := by unfold soldOf; rw [if_neg (by omega)]
    split at hr
    · omega
    split at hr
    · rename_i hk2
      split at hr
      · omega
      rename_i hle
      have e : ∀ y, (p.party = y ∧ p.parcel = x ∧ hasOf y x p = p.amount) ∨ (¬ (p.party = y ∧ p.parcel = x) ∧ hasOf y x p = 0) := fun y => by
        unfold hasOf
        by_cases hc : p.party = y ∧ p.parcel = x
        · rw [if_pos hc, if_pos hk2]; exact .inl ⟨hc.1, hc.2, rfl⟩
        · rw [if_neg hc]; exact .inr ⟨hc, rfl⟩
      refine ⟨?_, by omega, by omega, fun y => ?_⟩
      · rcases e p.party with ⟨_, rfl, h2⟩ | ⟨_, h2⟩
        · rw [h2]; omega
        · rw [h2]; omega
      · rw [has_app]; have := a4 y; rcases e y with ⟨_, _, h2⟩ | ⟨_, h2⟩ <;> omega
    · rename_i hk2
      have hk3 : p.kind = 3 := by rcases okP_kind hok with h | h | h <;> omega
      split at hr
      · omega
      rename_i hle
      have e : ∀ y, (p.party = y ∧ p.parcel = x ∧ hasOf y x p = - p.amount) ∨ (¬ (p.party = y ∧ p.parcel = x) ∧ hasOf y x p = 0) := fun y => by
        unfold hasOf
        by_cases hc : p.party = y ∧ p.parcel = x
        · rw [if_pos hc, if_neg hk2, if_pos hk3]; exact .inl ⟨hc.1, hc.2, rfl⟩
        · rw [if_neg hc]; exact .inr ⟨hc, rfl⟩
      refine ⟨?_, by omega, by omega, fun y => ?_⟩
      · rcases e p.party with ⟨_, rfl, h2⟩ | ⟨_, h2⟩
        · rw [h2]; omega
        · rw [h2]; omega
      · rw [has_app]; have := a4 y; rcases e y with ⟨rfl, rfl, h2⟩ | ⟨_, h2⟩ <;> omega
theorem Book.sp {l : List Post} (h : Book l) : SP l := by
  have : ∀ j, j ≤ l.length → SP (l.take j) := fun j => by
    induction j with
    | zero => intro _; exact SP.nil
    | succ j ih =>
      intro hj
      have hq := List.getElem?_eq_getElem (show j < l.length by omega)
      rw [take_snoc hq]
      exact (ih (by omega)).app (h j _ hq)
  have := this l.length (Nat.le_refl _)
  rwa [List.take_length] at this
theorem Book.len {l : List Post} (h : Book l) : l.length ≤ 400 := by
  rcases Nat.eq_zero_or_pos l.length with h0 | h0
  · omega
  · have hq := List.getElem?_eq_getElem (show l.length - 1 < l.length by omega)
    have := (refused_ok (h _ _ hq)).2
    simp at this; omega
theorem Book.app {l : List Post} {p : Post} (h : Book l) (hr : refused l p = 0) : Book (l ++ [p]) := by
  intro k q hk
  rcases Nat.lt_or_ge k l.length with h1 | h1
  · rw [List.getElem?_append_left h1] at hk
    rw [List.take_append_of_le_length (Nat.le_of_lt h1)]
    exact h k q hk
  · rw [List.getElem?_append_right h1] at hk
    have : k - l.length = 0 := by
      have := (List.getElem?_eq_some_iff.1 hk).1; simp at this; omega
    rw [this] at hk; simp at hk; subst hk
    have : k = l.length := by omega
    subst this
    simpa using hr
theorem Book.take {l : List Post} (h : Book l) (j : Nat) : Book (l.take j) := by
  intro k q hk
  rw [List.getElem?_take] at hk
  split at hk
  · rename_i hkj
    rw [List.take_take, Nat.min_eq_left (Nat.le_of_lt hkj)]
    exact h k q hk
  · cases hk
theorem hasUpto_ge {l : List Post} {x : Int} (h : ∀ y, 0 ≤ Pu.has l y x) (k : Nat) : ∀ n : Nat, k < n → Pu.has l k x ≤ hasUpto l x n
  | 0, hk => by omega
  | n + 1, hk => by
    rw [hasUpto]
    have h0 : ∀ m : Nat, 0 ≤ hasUpto l x m := fun m => by
      induction m with
      | zero => exact Int.le_refl 0
      | succ m ih => rw [hasUpto]; have := h m; omega
    by_cases e : k = n
    · subst e; have := h0 k; omega
    · have := hasUpto_ge h k n (by omega); have := h n; omega
theorem has_out {l : List Post} (h : Book l) {y : Int} (hy : ¬ (0 ≤ y ∧ y ≤ 40)) (x : Int) : Pu.has l y x = 0 := by
  have : ∀ m : List Post, (∀ p ∈ m, ¬ p.party = y) → Pu.has m y x = 0 := fun m => by
    induction m with
    | nil => intro _; rfl
    | cons p r ih =>
      intro hm
      have e : Pu.has (p :: r) y x = hasOf y x p + Pu.has r y x := rfl
      rw [e, ih fun q hq => hm q (List.mem_cons_of_mem _ hq), hasOf, if_neg (fun hc => hm p (List.mem_cons_self ..) hc.1)]; rfl
  refine this l fun p hp e => ?_
  obtain ⟨k, hk, rfl⟩ := List.getElem_of_mem hp
  have := okP_party (refused_ok (h k _ (List.getElem?_eq_getElem hk))).1
  omega
theorem Book.has_le {l : List Post} (h : Book l) (y x : Int) : 0 ≤ Pu.has l y x ∧ Pu.has l y x ≤ 1000000000 := by
  obtain ⟨a1, a2, a3, a4⟩ := Book.sp h x
  refine ⟨a4 y, ?_⟩
  by_cases hy : 0 ≤ y ∧ y ≤ 40
  · have := hasUpto_ge a4 y.toNat 41 (by omega)
    rw [show ((y.toNat : Nat) : Int) = y by omega] at this
    unfold Pu.held at a1; omega
  · rw [has_out h hy]; omega

/-- into an ascending list -/
def insA (n : Int) : List Int → List Int
  | [] => [n]
  | x :: r => if n < x then n :: x :: r else if n = x then x :: r else x :: insA n r
theorem mem_insA (n y : Int) : ∀ a : List Int, y ∈ insA n a ↔ y = n ∨ y ∈ a
  | [] => by simp [insA]
  | x :: r => by
    rw [insA]
    split
    · simp
    · split
      · rename_i h; subst h; simp
      · rw [List.mem_cons, mem_insA n y r, List.mem_cons]
        constructor
        · rintro (h | h | h) <;> simp [h]
        · rintro (h | h | h) <;> simp [h]
theorem asc_insA (n : Int) : ∀ a : List Int, a.Pairwise (· < ·) → (insA n a).Pairwise (· < ·)
  | [], _ => by simp [insA]
  | x :: r, h => by
    rw [List.pairwise_cons] at h
    rw [insA]
    split
    · rename_i hx
      rw [List.pairwise_cons]
      refine ⟨fun y hy => ?_, List.pairwise_cons.2 h⟩
      rcases List.mem_cons.1 hy with rfl | hy
      · exact hx
      · have := h.1 y hy; omega
    · split
      · exact List.pairwise_cons.2 h
      · rw [List.pairwise_cons]
        refine ⟨fun y hy => ?_, asc_insA n r h.2⟩
        rcases (mem_insA n y r).1 hy with rfl | hy
        · omega
        · exact h.1 y hy
def parcels (l : List Post) : List Int := l.foldl (fun a p => insA p.parcel a) []
theorem parcels_mem_aux (y : Int) : ∀ (l : List Post) (a : List Int), y ∈ l.foldl (fun a p => insA p.parcel a) a ↔ y ∈ a ∨ ∃ p ∈ l, p.parcel = y
  | [], a => by simp
  | p :: r, a => by
    rw [List.foldl_cons, parcels_mem_aux y r, mem_insA]
    constructor
    · rintro ((rfl | h) | ⟨q, hq, h⟩)
      · exact .inr ⟨p, List.mem_cons_self .., rfl⟩
      · exact .inl h
      · exact .inr ⟨q, List.mem_cons_of_mem _ hq, h⟩
    · rintro (h | ⟨q, hq, h⟩)
      · exact .inl (.inr h)
      · rcases List.mem_cons.1 hq with rfl | hq
        · exact .inl (.inl h.symm)
        · exact .inr ⟨q, hq, h⟩
theorem mem_parcels (y : Int) (l : List Post) : y ∈ parcels l ↔ ∃ p ∈ l, p.parcel = y := by
  unfold parcels; rw [parcels_mem_aux]; simp
theorem asc_parcels (l : List Post) : (parcels l).Pairwise (· < ·) := by
  have : ∀ (l : List Post) (a : List Int), a.Pairwise (· < ·) → (l.foldl (fun a p => insA p.parcel a) a).Pairwise (· < ·) := fun l => by
    induction l with
    | nil => intro a h; exact h
    | cons p r ih => intro a h; exact ih _ (asc_insA _ _ h)
  exact this l [] List.Pairwise.nil
theorem parcels_snoc {l : List Post} {j : Nat} {p : Post} (h : l[j]? = some p) : parcels (l.take (j + 1)) = insA p.parcel (parcels (l.take j)) := by
  rw [take_snoc h]; unfold parcels; rw [List.foldl_append]; rfl

/-- strictly ordered lists with the same members are one -/
theorem eq_of_strict {α : Type} {lt : α → α → Prop} (hirr : ∀ a, ¬ lt a a) (htr : ∀ a b c, lt a b → lt b c → lt a c) : ∀ {a b : List α}, a.Pairwise lt → b.Pairwise lt → (∀ x, x ∈ a ↔ x ∈ b) → a = b
  | [], [], _, _, _ => rfl
  | [], y :: s, _, _, h => by have := (h y).2 (List.mem_cons_self ..); simp at this
  | x :: r, [], _, _, h => by have := (h x).1 (List.mem_cons_self ..); simp at this
  | x :: r, y :: s, ha, hb, h => by
    rw [List.pairwise_cons] at ha hb
    have hxy : x = y := by
      rcases List.mem_cons.1 ((h x).1 (List.mem_cons_self ..)) with e | e
      · exact e
      rcases List.mem_cons.1 ((h y).2 (List.mem_cons_self ..)) with e2 | e2
      · exact e2.symm
      exact absurd (htr _ _ _ (hb.1 x e) (ha.1 y e2)) (hirr _)
    subst hxy
    refine congrArg (x :: ·) (eq_of_strict hirr htr ha.2 hb.2 fun z => ⟨fun hz => ?_, fun hz => ?_⟩)
    · rcases List.mem_cons.1 ((h z).1 (List.mem_cons_of_mem _ hz)) with e | e
      · subst e; exact absurd (ha.1 z hz) (hirr _)
      · exact e
    · rcases List.mem_cons.1 ((h z).2 (List.mem_cons_of_mem _ hz)) with e | e
      · subst e; exact absurd (hb.1 z hz) (hirr _)
      · exact e

/-- the accounts that have something, in order -/
def accL (l : List Post) : List (Int × Int) := (parcels l).flatMap fun x => (List.range 41).filterMap fun k : Nat => if Pu.has l k x = 0 then none else some (x, (k : Int))
theorem mem_accL {l : List Post} (x y : Int) : (x, y) ∈ accL l ↔ x ∈ parcels l ∧ 0 ≤ y ∧ y ≤ 40 ∧ Pu.has l y x ≠ 0 := by
  unfold accL
  rw [List.mem_flatMap]
  constructor
  · rintro ⟨x', hx, h⟩
    rw [List.mem_filterMap] at h
    obtain ⟨k, hk, he⟩ := h
    rw [List.mem_range] at hk
    split at he
    · cases he
    · rename_i hne; cases he; exact ⟨hx, by omega, by omega, hne⟩
  · rintro ⟨hx, h0, h1, hne⟩
    refine ⟨x, hx, List.mem_filterMap.2 ⟨y.toNat, List.mem_range.2 (by omega), ?_⟩⟩
    rw [show ((y.toNat : Nat) : Int) = y by omega, if_neg hne]
theorem strict_grid {α : Type} (lt : α → α → Prop) (f : Int → Nat → Option α) (h1 : ∀ x k k' a a', k < k' → f x k = some a → f x k' = some a' → lt a a') (h2 : ∀ x x' k k' a a', x < x' → f x k = some a → f x' k' = some a' → lt a a')
    (xs : List Int) (hx : xs.Pairwise (· < ·)) (n : Nat) : (xs.flatMap fun x => (List.range n).filterMap (f x)).Pairwise lt := by
  induction xs with
  | nil => exact List.Pairwise.nil
  | cons x r ih =>
    rw [List.pairwise_cons] at hx
    rw [List.flatMap_cons, List.pairwise_append]
    refine ⟨?_, ih hx.2, ?_⟩
    · rw [List.pairwise_filterMap]
      exact List.pairwise_lt_range.imp fun {k k'} hk a ha a' ha' => h1 x k k' a a' hk ha ha'
    · intro a ha b hb
      obtain ⟨k, _, hk⟩ := List.mem_filterMap.1 ha
      obtain ⟨x', hx', hb⟩ := List.mem_flatMap.1 hb
      obtain ⟨k', _, hk'⟩ := List.mem_filterMap.1 hb
      exact h2 x x' k k' a b (hx.1 x' hx') hk hk'
theorem strict_accL (l : List Post) : (accL l).Pairwise ltAc := by
  refine strict_grid ltAc (fun x k => if Pu.has l k x = 0 then none else some (x, (k : Int))) ?_ ?_ _ (asc_parcels l) 41
  · intro x k k' a a' hk h1 h2
    (try dsimp only at h1 h2)
    split at h1
    · cases h1
    · split at h2
      · cases h2
      · cases h1; cases h2; exact .inr ⟨rfl, by dsimp only; omega⟩
  · intro x x' k k' a a' hx h1 h2
    (try dsimp only at h1 h2)
    split at h1
    · cases h1
    · split at h2
      · cases h2
      · cases h1; cases h2; exact .inl hx
theorem has_parcel {l : List Post} {y x : Int} (h : Pu.has l y x ≠ 0) : x ∈ parcels l := by
  rw [mem_parcels]
  refine Classical.byContradiction fun hn => h ?_
  have hn' : ∀ p ∈ l, ¬ p.parcel = x := fun p hp e => hn ⟨p, hp, e⟩
  clear h hn
  induction l with
  | nil => rfl
  | cons p r ih =>
    have e : Pu.has (p :: r) y x = hasOf y x p + Pu.has r y x := rfl
    rw [e, ih fun q hq => hn' q (List.mem_cons_of_mem _ hq), hasOf, if_neg (fun hc => hn' p (List.mem_cons_self ..) hc.2)]; rfl
theorem acc_eq {c : CS} {l : List Post} (hI : CInv c l) (hb : Book l) {d : List (Int × Int)} (hp : d.Pairwise ltAc) (hm : ∀ a, a ∈ d ↔ gd c.has a ≠ 0) : d = accL l := by
  refine eq_of_strict (lt := ltAc) (fun a => by unfold ltAc; omega) (fun a b c => by unfold ltAc; omega) hp (strict_accL l) ?_
  rintro ⟨x, y⟩
  rw [hm, mem_accL, hI.has]
  constructor
  · intro h
    refine ⟨has_parcel h, ?_⟩
    have : 0 ≤ y ∧ y ≤ 40 := Classical.byContradiction fun hn => h (has_out hb hn x)
    exact ⟨this.1, this.2, h⟩
  · rintro ⟨_, _, _, h⟩; exact h
end Go.Proofs.Ytoijlikmigejbaa
