/- slices.SortFunc at accounts. Walks: the accounts that have something, in order. Walks: accounts. Plain laws of a book: nothing is held or had below 0; the accounts that have something, in order. -/
import Derived.Shelf.SlSortCmp.WholeK
import Derived.Shelf.SlGeneric
import Derived.Ground.SlsfProg
import Derived.Ground.NamesProg
import Derived.Test.YtoijlikmigejbaaGreatG11
namespace Go.Proofs
open Go.Shelf Go.RowKit Go.Lib Go.Sort
def Tryz.sortA_ren : Go.Shelf.Ren := ⟨fun | 6 => 140 | 15 => 137 | 14 => 158 | 28 => 155 | 29 => 156 | 20 => 164 | 21 => 165 | 22 => 166 | 23 => 167 | 24 => 168 | 25 => 169 | 26 => 170 | 27 => 171 | 46 => 173 | 47 => 160 | 48 => 161 | 49 => 174 | 50 => 175 | 57 => 176 | n => n, fun | 22 => 114 | 24 => 90 | 25 => 121 | 3 => 3 | 39 => 156 | 0 => 0 | 53 => 170 | 55 => 172 | 4 => 4 | 46 => 163 | 45 => 162 | 50 => 116 | 5 => 5 | 9 => 9 | 66 => 175 | 70 => 179 | 76 => 186 | 77 => 187 | n => n, fun | n => n⟩
theorem Tryz.sortA : Go.Proofs.SlLaysF0.n6 Tryz.prog Tryz.sortA_ren := {
  mixed := by kernel_rfl
  f6 := ⟨Tryz.f140.name, by decide, Tryz.func140.trans (congrArg some (by kernel_rfl))⟩
  f14 := ⟨Tryz.f158.name, by decide, Tryz.func158.trans (congrArg some (by kernel_rfl))⟩
  f15 := Tryz.func137.trans (congrArg some (by kernel_rfl))
  f20 := ⟨Tryz.f164.name, by decide, Tryz.func164.trans (congrArg some (by kernel_rfl))⟩
  f21 := ⟨Tryz.f165.name, by decide, Tryz.func165.trans (congrArg some (by kernel_rfl))⟩
  f22 := ⟨Tryz.f166.name, by decide, Tryz.func166.trans (congrArg some (by kernel_rfl))⟩
  f23 := ⟨Tryz.f167.name, by decide, Tryz.func167.trans (congrArg some (by kernel_rfl))⟩
  f24 := ⟨Tryz.f168.name, by decide, Tryz.func168.trans (congrArg some (by kernel_rfl))⟩
  f25 := ⟨Tryz.f169.name, by decide, Tryz.func169.trans (congrArg some (by kernel_rfl))⟩
  f26 := ⟨Tryz.f170.name, by decide, Tryz.func170.trans (congrArg some (by kernel_rfl))⟩
  f27 := ⟨Tryz.f171.name, by decide, Tryz.func171.trans (congrArg some (by kernel_rfl))⟩
  f28 := Tryz.func155.trans (congrArg some (by kernel_rfl))
  f29 := Tryz.func156.trans (congrArg some (by kernel_rfl))
  f46 := ⟨Tryz.f173.name, by decide, Tryz.func173.trans (congrArg some (by kernel_rfl))⟩
  f47 := Tryz.func160.trans (congrArg some (by kernel_rfl))
  f48 := Tryz.func161.trans (congrArg some (by kernel_rfl))
  f49 := ⟨Tryz.f174.name, by decide, Tryz.func174.trans (congrArg some (by kernel_rfl))⟩
  f50 := ⟨Tryz.f175.name, by decide, Tryz.func175.trans (congrArg some (by kernel_rfl))⟩
  f57 := ⟨Tryz.f176.name, by decide, Tryz.func176.trans (congrArg some (by kernel_rfl))⟩
  t0 := Tryz.underlying0
  a0 := Tryz.isAgg0
  z0 := Tryz.sizeOf0
  v0 := Tryz.zeroValue0
  t3 := Tryz.underlying3
  a3 := Tryz.isAgg3
  z3 := Tryz.sizeOf3
  v3 := Tryz.zeroValue3
  t4 := Tryz.underlying4
  a4 := Tryz.isAgg4
  z4 := Tryz.sizeOf4
  v4 := Tryz.zeroValue4
  t5 := Tryz.underlying5
  a5 := Tryz.isAgg5
  z5 := Tryz.sizeOf5
  v5 := Tryz.zeroValue5
  t9 := Tryz.underlying9
  a9 := Tryz.isAgg9
  z9 := Tryz.sizeOf9
  v9 := Tryz.zeroValue9
  t22 := Tryz.underlying114
  a22 := Tryz.isAgg114
  z22 := Tryz.sizeOf114
  v22 := Tryz.zeroValue114
  t25 := Tryz.underlying121
  a25 := Tryz.isAgg121
  z25 := Tryz.sizeOf121
  v25 := Tryz.zeroValue121
  t39 := Tryz.underlying156
  a39 := Tryz.isAgg156
  z39 := Tryz.sizeOf156
  v39 := Tryz.zeroValue156
  t45 := Tryz.underlying162
  a45 := Tryz.isAgg162
  z45 := Tryz.sizeOf162
  v45 := Tryz.zeroValue162
  t46 := Tryz.underlying163
  a46 := Tryz.isAgg163
  z46 := Tryz.sizeOf163
  v46 := Tryz.zeroValue163
  t50 := Tryz.underlying116
  a50 := Tryz.isAgg116
  z50 := Tryz.sizeOf116
  v50 := Tryz.zeroValue116
  t53 := Tryz.underlying170
  a53 := Tryz.isAgg170
  z53 := Tryz.sizeOf170
  v53 := Tryz.zeroValue170
  t55 := Tryz.underlying172
  a55 := Tryz.isAgg172
  z55 := Tryz.sizeOf172
  v55 := Tryz.zeroValue172
  t66 := Tryz.underlying175
  a66 := Tryz.isAgg175
  z66 := Tryz.sizeOf175
  v66 := Tryz.zeroValue175
  t70 := Tryz.underlying179
  a70 := Tryz.isAgg179
  z70 := Tryz.sizeOf179
  v70 := Tryz.zeroValue179
  t76 := Tryz.underlying186
  a76 := Tryz.isAgg186
  z76 := Tryz.sizeOf186
  v76 := Tryz.zeroValue186
  t77 := Tryz.underlying187
  a77 := Tryz.isAgg187
  z77 := Tryz.sizeOf187
  v77 := Tryz.zeroValue187 }
end Go.Proofs

namespace Go.Proofs.YtoijlikmigejbaaGreat
open Go.RowKit Go.Shelf Go.Proofs.YtoijlikmigejbaaGreat.Pu

theorem ltA (x y : Int × Int) : Go.Proofs.ltOf cmpA x y = decide (x.1 < y.1 ∨ x.1 = y.1 ∧ x.2 < y.2) := by
  unfold Go.Proofs.ltOf cmpA orI cmpI
  by_cases h1 : x.1 < y.1
  · simp [h1]
  · by_cases h2 : y.1 < x.1
    · have h3 : ¬ x.1 = y.1 := by omega
      simp [h1, h2, h3]
    · have h3 : x.1 = y.1 := by omega
      by_cases h4 : x.2 < y.2
      · simp [h3, h4]
      · by_cases h5 : y.2 < x.2 <;> simp [h3, h4, h5]
theorem swoA : Go.Sort.SWO (Go.Proofs.ltOf cmpA) where
  irrefl x := by rw [ltA]; simp
  trans x y z h1 h2 := by rw [ltA] at *; simp only [decide_eq_true_eq] at *; omega
  ntrans x y z h1 h2 := by rw [ltA] at *; simp only [decide_eq_false_iff_not] at *; omega

theorem cmpLaysA (blk off size : Nat) (w : World) : Go.Proofs.CmpLays Tryz.prog 99 #[] acells 2 cmpA blk off size w := fun _ _ _ _ x y => pcompareG x y _

theorem holdsA {w : World} {rb : Nat} {d : List (Int × Int)} (h : RowA w rb d) : Go.Sort.HoldsK acells 2 w rb 0 d.toArray := by
  intro j hj
  rw [Go.Sort.size_flatK, List.size_toArray] at hj
  refine ⟨?_, h.fz _⟩
  rw [Go.Sort.get_flatK _ _ _ _ (by simpa using hj), Nat.zero_add]
  obtain ⟨x, hx⟩ := getq (l := d) (j := j / 2) (by omega)
  have hx2 : d.toArray[j / 2]! = x := by
    obtain ⟨h1, rfl⟩ := List.getElem?_eq_some_iff.1 hx
    rw [getElem!_pos _ _ (by simpa using h1)]; simp
  rw [hx2]
  rcases Nat.mod_two_eq_zero_or_one j with h2 | h2
  · have := h.c0 _ x hx; rw [show j / 2 * 2 = j by omega] at this; rw [this, h2]; rfl
  · have := h.c1 _ x hx; rw [show j / 2 * 2 + 1 = j by omega] at this; rw [this, h2]; rfl
theorem rowA_of {w : World} {rb : Nat} {d : Array (Int × Int)} (hlt : rb < w.heap.size) (h : Go.Sort.HoldsK acells 2 w rb 0 d) (hz : ∀ j, w.frozen? ⟨rb, j, none⟩ = false) : RowA w rb d.toList := by
  have hc : ∀ i x, d.toList[i]? = some x → i < d.size ∧ d[i]! = x := fun i x hx => by
    obtain ⟨h1, rfl⟩ := List.getElem?_eq_some_iff.1 hx
    exact ⟨by simpa using h1, by rw [getElem!_pos _ _ (by simpa using h1)]; simp⟩
  refine ⟨hlt, fun i x hx => ?_, fun i x hx => ?_, hz⟩
  · have := (h.cell (hc i x hx).1 (show 0 < 2 by omega)).1
    rw [(hc i x hx).2, Nat.zero_add, Nat.add_zero] at this; exact this
  · have := (h.cell (hc i x hx).1 (show 1 < 2 by omega)).1
    rw [(hc i x hx).2, Nat.zero_add] at this; exact this

/-- the sort's answer -/
def SortRes (rb : Nat) (d : List (Int × Int)) (w : World) (e : Ending) (w' : World) : Prop :=
  e = .returned (.tuple #[]) ∧ ∃ d', d'.Perm d ∧ d'.Pairwise (fun x y => Go.Proofs.ltOf cmpA y x = false) ∧ RowA w' rb d' ∧ ∀ M, M ≤ rb → Below M w w'

theorem xSortA (d : List (Int × Int)) (cap rb : Nat) (w : World) (hR : RowA w rb d) (hd : d.length ≤ 1000000) :
    Calls Tryz.prog 140 #[.slice (some ⟨rb, 0, none⟩) d.length cap, .func (.func 99) #[] #[]] w (SortRes rb d w) := by
  have eg : ∀ args w, (callFunc 99 args).run Tryz.prog w = .ok (.enter 99 args) w := enters_of Tryz.func99 (by kernel_rfl) rfl
  have hcon := AnyQ.slices_SortFunc Tryz.sortA 2 Tryz.isAgg90 Tryz.sizeOf90 acells acells_len acells_cell cmpA swoA 99 #[] rb 0 cap d.toArray w eg (cmpLaysA rb 0 _ w) (holdsA hR) hR.lt (by simp; omega)
  change Calls Tryz.prog 140 _ _ _ at hcon
  rw [List.size_toArray] at hcon
  refine hcon.mono ?_
  rintro e w' ⟨rfl, d', n, os, ⟨hsz, _, hperm⟩, hsort, rfl⟩
  replace hsz : d'.size = d.length := by simpa using hsz
  have hH2 : Go.Sort.HoldsK acells 2 (sortWorldK acells 2 w rb 0 n d' os) rb 0 d' :=
    Go.Sort.holdsK_grow _ _ _ _ _ _ _ (by simp [Go.Sort.putRowK, Go.Sort.putRow, Go.Sort.mapBlock, Go.Sort.ahead]; exact hR.lt) (Go.Sort.holdsK_putRowK _ _ _ _ _ _ _ (Go.Sort.holdsK_ahead _ _ _ n _ _ _ (holdsA hR)) (by simpa using hsz))
  refine ⟨rfl, d'.toList, ?_, ?_, rowA_of ?_ hH2 ?_, ?_⟩
  · have h1 : d'.extract 0 d.length = d' := by rw [← hsz]; simp
    have h2 : d.toArray.extract 0 d.length = d.toArray := by simp
    rw [h1, h2] at hperm
    simpa using hperm
  · rw [List.pairwise_iff_getElem]
    intro i j hi hj hij
    have := hsort i j (Nat.zero_le _) hij (by rw [← hsz]; simpa using hj)
    rw [getElem!_pos _ _ (by simpa using hj), getElem!_pos _ _ (by simpa using hi)] at this
    simpa using this
  · simp [sortWorldK, Go.Sort.grow, Go.Sort.putRowK, Go.Sort.putRow, Go.Sort.mapBlock, Go.Sort.ahead]; have := hR.lt; omega
  · intro j
    unfold sortWorldK
    rw [Go.Sort.frozen?_grow _ _ _ (by simp [Go.Sort.putRowK, Go.Sort.putRow, Go.Sort.mapBlock, Go.Sort.ahead]; exact hR.lt)]
    exact (Go.Sort.frozen?_mapBlock _ _ _ _).trans (hR.fz j)
  · intro M hM
    refine ⟨rfl, rfl, rfl, by simp [sortWorldK, Go.Sort.grow, Go.Sort.putRowK, Go.Sort.putRow, Go.Sort.mapBlock, Go.Sort.ahead], fun k hk => ?_⟩
    have hkl : k < w.heap.size := Nat.lt_of_lt_of_le hk (Nat.le_trans hM (Nat.le_of_lt hR.lt))
    unfold sortWorldK
    rw [Go.Sort.heap_grow_old _ _ (by simp [Go.Sort.putRowK, Go.Sort.putRow, Go.Sort.mapBlock, Go.Sort.ahead]; exact hkl)]
    simp only [Go.Sort.putRowK, Go.Sort.putRow, Go.Sort.mapBlock, Go.Sort.ahead]
    rw [Array.getElem?_modify, if_neg (by omega)]
end Go.Proofs.YtoijlikmigejbaaGreat

namespace Go.Proofs.YtoijlikmigejbaaGreat
open Go.RowKit Go.Shelf Go.Proofs.YtoijlikmigejbaaGreat.Pu

set_option maxHeartbeats 2000000 in
theorem xInsNone (p : Option Addr) (cap : Nat) (fv : Value) (w : World) :
    Calls Tryz.prog 164 #[.slice p 0 cap, .int .i64 0, .int .i64 0, fv] w fun e w' => e = .returned (.tuple #[]) ∧ w' = w := by
  go_enter Tryz.func164, Tryz.ntmps164
  go_wp2
  refine wp_loop_rounds 1 ?_
  rw [rounds_succ]
  go_wp2
  go_end0
  exact ⟨rfl, rfl⟩
set_option maxHeartbeats 2000000 in
theorem xPdqNone (p : Option Addr) (cap : Nat) (lim : Int) (fv : Value) (w : World) :
    Calls Tryz.prog 158 #[.slice p 0 cap, .int .i64 0, .int .i64 0, .int .i64 lim, fv] w fun e w' => e = .returned (.tuple #[]) ∧ w' = w := by
  go_enter Tryz.func158, Tryz.ntmps158
  go_wp2
  refine wp_loop_rounds 1 ?_
  rw [rounds_succ]
  go_wp2_with (go_at_call 164; refine (xInsNone p cap fv _).mono ?_; rintro e w' ⟨rfl, rfl⟩)
  (try simp only [Exit.inBlock, Exit.then]); refine bodyPost_ret (results_none rfl _ _ _) rfl ?_
  exact ⟨rfl, rfl⟩
set_option maxHeartbeats 2000000 in
/-- the sort of nothing -/
theorem xSortNone (p : Option Addr) (cap : Nat) (fv : Value) (w : World) :
    Calls Tryz.prog 140 #[.slice p 0 cap, fv] w fun e w' => e = .returned (.tuple #[]) ∧ w' = w := by
  have hl : ∀ W, Calls Tryz.prog 137 #[.int .u64 0] W fun e w' => e = .returned (.int .i64 (Lib.bitLen 0 : Nat)) ∧ w' = W := fun W => by
    have h := Any.bits_Len (SlLaysF0.n15.bits (P := Tryz.prog) { Tryz.sortA with }) 0 W (by omega) (by omega)
    exact h
  go_enter Tryz.func140, Tryz.ntmps140
  go_wp2_with (first | (go_at_call 137; refine (hl _).mono ?_; rintro e w' ⟨rfl, rfl⟩) | (go_at_call 158; refine (xPdqNone _ _ _ _ _).mono ?_; rintro e w' ⟨rfl, rfl⟩))
  go_end0
  exact ⟨rfl, rfl⟩

theorem pKeys (b : Nat) (w : World) : Calls Tryz.prog 123 #[.map (some b)] w fun e w' =>
    e = .returned (.func (.func 141) #[] #[.pointer (some ⟨w.heap.size, 0, none⟩)]) ∧ w.alloc (.cells #[.map (some b)] 78) = w' := by
  have hmf : ∀ (fn : Fn) (first cap : Array Value) (w : World), (Instr.makeFunc fn first cap).run Tryz.prog w = .ok (.func fn first cap) w := fun _ _ _ _ => rfl
  go_enter Tryz.func123, Tryz.ntmps123
  go_wp2
  go_ret
  exact ⟨rfl, rfl⟩
theorem pKeysCollect (b : Nat) (m : List ((Int × Int) × Int)) (w : World) (Bm : Nat) (hBm : Bm < w.heap.size) (hm : w.cell? ⟨Bm, 0, none⟩ = some (.map (some b))) (hb : w.heap[b]? = some (mapObj kv vi m)) (hl : m.length ≤ 1000000) :
    Calls Tryz.prog 139 #[.func (.func 141) #[] #[.pointer (some ⟨Bm, 0, none⟩)]] w fun e w' =>
      ∃ ao cap xs, e = .returned (.slice ao xs.length cap) ∧ xs.Perm (m.map (·.1)) ∧ Own 90 2 acells w.heap.size w' ao xs.length cap xs ∧ Below w.heap.size w w' := by
  refine (callsIn_wide (n := 5)).1 ?_
  exact xCollectA 5 (by omega) _ _ (enters_of Tryz.func141 (by kernel_rfl) rfl) _ _ m.length hl w w (keys_stops 3 (by omega) w.heap.size Bm b m w hBm hm hb) (Below.refl _ _)

/-- a slice of accounts of its own: nil, or a row that may be written -/
def AcSl (base : Nat) (w : World) (ao : Option Addr) (n cap : Nat) (d : List (Int × Int)) : Prop :=
  (ao = none ∧ n = 0 ∧ d = []) ∨ ∃ g, ao = some ⟨g, 0, none⟩ ∧ base ≤ g ∧ RowA w g d ∧ n = d.length ∧ n ≤ cap
theorem Own.acSl {base : Nat} {w : World} {ao : Option Addr} {n cap : Nat} {d : List (Int × Int)} (h : Own 90 2 acells base w ao n cap d) : AcSl base w ao n cap d := by
  have hs := Own.slAt acells_len (by omega) h
  obtain ⟨hl, h | ⟨g, cap', cur, hv, hb, hg, hn, hm, hsz, ht⟩⟩ := h
  · have h0 := h.2
    rw [h0, Nat.zero_mul, flat_length acells_len] at hl
    have h1 := h.1
    simp only [Value.slice.injEq] at h1
    exact .inl ⟨h1.1, h0, List.length_eq_zero_iff.1 (by omega)⟩
  · simp only [Value.slice.injEq] at hv
    obtain ⟨rfl, _, rfl⟩ := hv
    rw [flat_length acells_len] at hl
    have hlt : g < w.heap.size := (Array.getElem?_eq_some_iff.1 hg).1
    refine .inr ⟨g, rfl, hb, ⟨hlt, fun i x hi => ?_, fun i x hi => ?_, fun j => ?_⟩, by omega, hn⟩
    · obtain ⟨b, o, he, _, h1, _⟩ := hs.acct hi
      cases he; rw [Nat.zero_add] at h1; exact h1
    · obtain ⟨b, o, he, _, _, h1⟩ := hs.acct hi
      cases he; rw [Nat.zero_add] at h1; exact h1
    · simp [World.frozen?, hg]

/-- SortedFunc's answer -/
def SrtRes (m : List ((Int × Int) × Int)) (w : World) (e : Ending) (w' : World) : Prop :=
  ∃ ao n cap d, e = .returned (.slice ao n cap) ∧ d.Perm (m.map (·.1)) ∧ d.Pairwise (fun x y => Go.Proofs.ltOf cmpA y x = false) ∧ AcSl w.heap.size w' ao n cap d ∧ Below w.heap.size w w'

set_option maxRecDepth 100000 in
set_option maxHeartbeats 2000000 in
theorem xSortedA (b : Nat) (m : List ((Int × Int) × Int)) (w : World) (Bm : Nat) (hBm : Bm < w.heap.size) (hm : w.cell? ⟨Bm, 0, none⟩ = some (.map (some b))) (hb : w.heap[b]? = some (mapObj kv vi m)) (hl : m.length ≤ 1000) :
    Calls Tryz.prog 122 #[.func (.func 141) #[] #[.pointer (some ⟨Bm, 0, none⟩)], .func (.func 99) #[] #[]] w (SrtRes m w) := by
  have hcol := Lib.hid (pKeysCollect b m w Bm hBm hm hb (by omega))
  go_enter Tryz.func122, Tryz.ntmps122
  go_wp2_with (fail)
  go_at_call 139
  refine hcol.out.mono ?_
  rintro e w1 ⟨ao, cap, xs, rfl, hperm, hown, hB⟩
  have hlen : xs.length ≤ 1000 := by have := hperm.length_eq; simp at this; omega
  obtain ⟨rfl, h0, rfl⟩ | ⟨g, rfl, hg, hR, _, hc⟩ := hown.acSl
  · replace hB := Lib.hid hB
    replace hperm := Lib.hid hperm
    clear hown
    go_wp2_with (go_at_call 140; refine (xSortNone _ _ _ _).mono ?_; rintro e w' ⟨rfl, rfl⟩)
    go_ret
    exact ⟨none, 0, cap, [], rfl, hperm.out, List.Pairwise.nil, .inl ⟨rfl, rfl, rfl⟩, hB.out⟩
  · have hsort := Lib.hid (xSortA xs cap g w1 hR (by omega))
    replace hB := Lib.hid hB
    replace hperm := Lib.hid hperm
    obtain ⟨n, hn⟩ : ∃ n, Hid (xs.length = n) := ⟨_, rfl⟩
    rw [hn.out] at hlen hc hsort ⊢
    clear hown hR
    go_wp2_with (go_at_call 140; refine hsort.out.mono ?_; rintro e w' ⟨rfl, d', hp, hpw, hR', hBl⟩)
    go_ret
    exact ⟨_, n, cap, d', rfl, hp.trans hperm.out, hpw, .inr ⟨g, rfl, hg, hR', by rw [← hn.out]; exact hp.length_eq.symm, hc⟩, hB.out.trans (hBl _ hg)⟩
end Go.Proofs.YtoijlikmigejbaaGreat

namespace Go.Proofs.YtoijlikmigejbaaGreat
open Go.RowKit Go.Shelf Go.Proofs.YtoijlikmigejbaaGreat.Pu

def ltAc (x y : Int × Int) : Prop := x.1 < y.1 ∨ x.1 = y.1 ∧ x.2 < y.2
theorem strict_of {d : List (Int × Int)} (h : d.Pairwise (fun x y => Go.Proofs.ltOf cmpA y x = false)) (hn : d.Nodup) : d.Pairwise ltAc := by
  have h2 := List.pairwise_and_iff.2 ⟨h, hn⟩
  refine h2.imp ?_
  rintro ⟨a, b⟩ ⟨c, e⟩ ⟨h3, h4⟩
  rw [ltA] at h3
  unfold ltAc
  simp only [decide_eq_false_iff_not] at h3
  simp only [ne_eq, Prod.mk.injEq] at h4
  dsimp only at h3 ⊢
  omega
theorem gd_none {K : Type} [DecidableEq K] {m : List (K × Int)} {x : K} (h : x ∉ m.map (·.1)) : gd m x = 0 := by
  have : getM m x = none := by
    induction m with
    | nil => rfl
    | cons kv r ih =>
      obtain ⟨k, v⟩ := kv
      simp only [List.map_cons, List.mem_cons, not_or] at h
      rw [getM_cons, if_neg h.1]
      exact ih h.2
  unfold gd; rw [this]; rfl

/-- accounts' answer -/
def AccRes (c : CS) (w : World) (e : Ending) (w' : World) : Prop :=
  ∃ ao n cap d, e = .returned (.slice ao n cap) ∧ n = d.length ∧ n ≤ cap ∧ n ≤ c.has.length ∧ d.Pairwise ltAc ∧ (∀ a, a ∈ d ↔ gd c.has a ≠ 0) ∧ SlAt 2 acells w'.heap.size w' ao d ∧ Below w.heap.size w w'

set_option maxRecDepth 100000 in
set_option maxHeartbeats 2000000 in
/-- DeleteFunc at nil -/
theorem xDeleteNone (wf : FuncId) (wc : Array Value) (P : Int × Int → Bool) (M : Nat) (cap : Nat) (w : World)
    (ew : ∀ args w, (callFunc wf args).run Tryz.prog w = .ok (.enter wf args) w) (hw : Hid (WantsA wf wc P M w)) (hM : M ≤ w.heap.size) :
    Calls Tryz.prog 121 #[.slice none 0 cap, .func (.func wf) #[] wc] w fun e w' => e = .returned (.slice none 0 cap) ∧ Below w.heap.size w w' := by
  have hix := Lib.hid (xIndexA wf wc P M [] 0 cap none w rfl (by omega) (by omega) (.inl rfl) ew hw hM)
  have hidx : idxP P [] = -1 := rfl
  rw [hidx] at hix
  go_enter Tryz.func121, Tryz.ntmps121
  go_wp2_with (go_at_call 138; refine hix.out.mono ?_; rintro e w1 ⟨rfl, hB1⟩)
  go_ret
  exact ⟨rfl, hB1⟩

theorem xDeleteAc (wf : FuncId) (wc : Array Value) (P : Int × Int → Bool) (M base : Nat) (d : List (Int × Int)) (ao : Option Addr) (n cap : Nat) (w : World) (hsl : AcSl base w ao n cap d) (hm : n ≤ 100000) (hMb : M ≤ base)
    (ew : ∀ args w, (callFunc wf args).run Tryz.prog w = .ok (.enter wf args) w) (hw : Hid (WantsA wf wc P M w)) (hM : M ≤ w.heap.size) :
    Calls Tryz.prog 121 #[.slice ao n cap, .func (.func wf) #[] wc] w fun e w' =>
      ∃ ao' n' cap', e = .returned (.slice ao' n' cap') ∧ n' = (d.filter fun a => !P a).length ∧ n' ≤ cap' ∧ SlAt 2 acells w'.heap.size w' ao' (d.filter fun a => !P a) ∧ Below M w w' := by
  obtain ⟨rfl, rfl, rfl⟩ | ⟨g, rfl, hg, hR, rfl, hc⟩ := hsl
  · refine (xDeleteNone wf wc P M cap w ew hw hM).mono ?_
    rintro e w' ⟨rfl, hB⟩
    exact ⟨none, 0, cap, rfl, rfl, Nat.zero_le _, .inl rfl, hB.mono hM⟩
  · refine (xDeleteA wf wc P M d d.length cap g w rfl hm hc hR ew hw (by omega)).mono ?_
    rintro e w' ⟨cap', rfl, h1, hR', hB⟩
    exact ⟨_, _, cap', rfl, rfl, h1, hR'.slAt, hB⟩

theorem acc_mem {c : CS} {d : List (Int × Int)} (hp : d.Perm (c.has.map (·.1))) (a : Int × Int) : a ∈ d.filter (fun a => !noneP c a) ↔ gd c.has a ≠ 0 := by
  rw [List.mem_filter, hp.mem_iff]
  have e : (!noneP c a) = true ↔ gd c.has a ≠ 0 := by unfold noneP; simp
  rw [e]
  refine ⟨fun h => h.2, fun h => ⟨?_, h⟩⟩
  exact Classical.byContradiction fun hn => h (gd_none hn)

theorem hid_sorted {c : CS} {N : Nat} {Wb : World} (hCb : ChestAt Wb N c) (hl : c.has.length ≤ 1000) : Hid (Calls Tryz.prog 122 #[.func (.func 141) #[] #[.pointer (some ⟨Wb.heap.size, 0, none⟩)], .func (.func 99) #[] #[]] (Wb.alloc (.cells #[.map (some (N + 3))] 78)) (SrtRes c.has (Wb.alloc (.cells #[.map (some (N + 3))] 78)))) :=
  xSortedA (N + 3) c.has _ Wb.heap.size (by simp) (by simp) ((hCb.alloc _).has) hl

set_option maxRecDepth 100000 in
set_option maxHeartbeats 2000000 in
theorem paccounts (N : Nat) (c : CS) (w : World) (hC : ChestAt w N c) (hnd : Hid (c.has.map (·.1)).Nodup) (hl : c.has.length ≤ 1000) :
    Calls Tryz.prog 85 #[.pointer (some ⟨N + 5, 0, none⟩)] w (AccRes c w) := by
  have hmf : ∀ (fn : Fn) (first cap : Array Value) (w : World), (Instr.makeFunc fn first cap).run Tryz.prog w = .ok (.func fn first cap) w := fun _ _ _ _ => rfl
  have hCb : ChestAt (w.alloc (.cells #[.pointer (some ⟨N + 5, 0, none⟩)] 72)) N c := hC.alloc _
  have hBb : Hid (Below w.heap.size w (w.alloc (.cells #[.pointer (some ⟨N + 5, 0, none⟩)] 72))) := (Below.refl _ _).alloc (Nat.le_refl _) _
  have hlt := hC.lt
  have c5 := hCb.c5
  have hsrt := hid_sorted hCb hl
  have hc0 : Hid ((w.alloc (.cells #[.pointer (some ⟨N + 5, 0, none⟩)] 72)).cell? ⟨w.heap.size, 0, none⟩ = some (.pointer (some ⟨N + 5, 0, none⟩))) := by show _ = _; simp
  replace hCb := Lib.hid hCb
  clear hC
  go_enter Tryz.func85, Tryz.ntmps85
  go_wp2_with (fail)
  go_at_call 123
  refine (pKeys _ _).mono ?_
  rintro e w2 ⟨rfl, hw2⟩
  rw [hw2] at hsrt
  have hW2 : Hid (Below (w.heap.size + 1) (w.alloc (.cells #[.pointer (some ⟨N + 5, 0, none⟩)] 72)) w2) := by
    show Below _ _ _
    rw [← hw2]; exact (Below.refl _ _).alloc (by simp) _
  have hs2 : w2.heap.size = w.heap.size + 2 := by rw [← hw2]; simp
  clear hw2
  obtain ⟨sz, hsz⟩ : ∃ sz, (w.alloc (.cells #[.pointer (some ⟨N + 5, 0, none⟩)] 72)).heap.size = sz := ⟨_, rfl⟩
  rw [hsz] at hsrt ⊢
  clear hsz
  go_wp2_with (fail)
  go_at_call 122
  refine Calls.mono (R := SrtRes c.has w2) hsrt.out ?_
  rintro e w3 ⟨ao, n, cap, d, rfl, hperm, hpw, hsl, hB3⟩
  have hn : n = d.length := by
    rcases hsl with ⟨_, h1, h2⟩ | ⟨_, _, _, _, h1, _⟩
    · rw [h1, h2]; rfl
    · exact h1
  have hlen : n = c.has.length := by rw [hn, hperm.length_eq, List.length_map]
  have hs3 : w.heap.size + 2 ≤ w3.heap.size := by rw [← hs2]; exact hB3.size
  have hW3 : Below (w.heap.size + 1) (w.alloc (.cells #[.pointer (some ⟨N + 5, 0, none⟩)] 72)) w3 := hW2.out.trans (hB3.mono (by omega))
  have hwant := wants_none N w.heap.size (w.heap.size + 1) c w3 (hCb.out.below hW3 (by omega)) (by omega) (by omega) (by omega) ((hW3.cell (p := ⟨w.heap.size, 0, none⟩) (by simp)).trans hc0.out)
  have hdel := Lib.hid (xDeleteAc 124 _ (noneP c) (w.heap.size + 1) w2.heap.size d ao n cap w3 hsl (by omega) (by omega) (enters_of Tryz.func124 (by kernel_rfl) rfl) hwant (by omega))
  have hnd' : Hid d.Nodup := hperm.nodup_iff.2 hnd.out
  have hmem := Lib.hid (acc_mem hperm)
  have hst := Lib.hid (strict_of hpw hnd'.out)
  replace hW3 := Lib.hid hW3
  replace hn := Lib.hid hn
  replace hlen := Lib.hid hlen
  clear hwant hsl hpw hperm hB3 hsrt hCb hc0 hnd hW2
  go_wp2_with (fail)
  go_at_call 121
  refine hdel.out.mono ?_
  rintro e w4 ⟨ao', n', cap', rfl, hn', hc', hs', hB4⟩
  replace hn' := Lib.hid hn'
  replace hs' := Lib.hid hs'
  replace hB4 := Lib.hid hB4
  clear hdel
  go_wp2
  go_ret
  refine ⟨ao', n', cap', _, rfl, hn'.out, hc', ?_, hst.out.sublist List.filter_sublist, hmem.out, hs'.out, ?_⟩
  · rw [hn'.out, ← hlen.out, hn.out]; exact List.length_filter_le _ _
  · exact hBb.out.trans ((hW3.out.trans hB4.out).mono (by omega))
end Go.Proofs.YtoijlikmigejbaaGreat

namespace Go.Proofs.YtoijlikmigejbaaGreat
open Go.Proofs.YtoijlikmigejbaaGreat.Pu

/-- what is true of each book -/
def SP (l : List Post) : Prop := ∀ x, 0 ≤ Pu.held l x ∧ 0 ≤ Pu.sold l x ∧ Pu.sold l x ≤ 1000000000 ∧ ∀ y, 0 ≤ Pu.has l y x
theorem SP.nil : SP [] := fun x => by
  have h : ∀ k, hasUpto [] x k = 0 := fun k => by
    induction k with
    | zero => rfl
    | succ k ih => rw [hasUpto, ih]; rfl
  have h0 : Pu.held [] x = 0 := by rw [Pu.held, h]; rfl
  have h1 : Pu.sold [] x = 0 := rfl
  exact ⟨by omega, by omega, by omega, fun y => Int.le_refl 0⟩
theorem SP.app {l : List Post} {p : Post} (h : SP l) (hr : refused l p = 0) : SP (l ++ [p]) := by
  have hok := (refused_ok hr).1
  have ha := okP_amount hok
  have hp := okP_party hok
  unfold refused at hr
  split at hr
  · omega
  split at hr
  · omega
  split at hr
  · omega
  split at hr
  · omega
  intro x
  obtain ⟨a1, a2, a3, a4⟩ := h x
  rw [held_app l p x hp.1 hp.2, sold_app]
  obtain ⟨b1, b2, b3, b4⟩ := h p.parcel
  split at hr
  · rename_i hk
    split at hr
    · omega
    · have e : ∀ y, hasOf y x p = 0 := fun y => by unfold hasOf; rw [if_neg (show ¬ p.kind = 2 by omega), if_neg (show ¬ p.kind = 3 by omega)]; split <;> rfl
      have hs : soldOf x p = 0 ∨ (soldOf x p = p.amount ∧ p.parcel = x) := by unfold soldOf; split <;> simp_all
      refine ⟨by rw [e]; omega, by omega, ?_, fun y => by rw [has_app, e]; have := a4 y; omega⟩
      rcases hs with hs | ⟨hs, rfl⟩ <;> omega
  · rename_i hk
    have hs : soldOf x p = 0 := by unfold soldOf; rw [if_neg (by omega)]
    split at hr
    · omega
    split at hr
    · rename_i hk2
      split at hr
      · omega
      rename_i hle
      have e : ∀ y, (p.party = y ∧ p.parcel = x ∧ hasOf y x p = p.amount) ∨ (¬ (p.party = y ∧ p.parcel = x) ∧ hasOf y x p = 0) := fun y => by
        unfold hasOf
        by_cases hc : p.party = y ∧ p.parcel = x
        · rw [if_pos hc, if_pos hk2]; exact .inl ⟨hc.1, hc.2, rfl⟩
        · rw [if_neg hc]; exact .inr ⟨hc, rfl⟩
      refine ⟨?_, by omega, by omega, fun y => ?_⟩
      · rcases e p.party with ⟨_, rfl, h2⟩ | ⟨_, h2⟩
        · rw [h2]; omega
        · rw [h2]; omega
      · rw [has_app]; have := a4 y; rcases e y with ⟨_, _, h2⟩ | ⟨_, h2⟩ <;> omega
    · rename_i hk2
      have hk3 : p.kind = 3 := by rcases okP_kind hok with h | h | h <;> omega
      split at hr
      · omega
      rename_i hle
      have e : ∀ y, (p.party = y ∧ p.parcel = x ∧ hasOf y x p = - p.amount) ∨ (¬ (p.party = y ∧ p.parcel = x) ∧ hasOf y x p = 0) := fun y => by
        unfold hasOf
        by_cases hc : p.party = y ∧ p.parcel = x
        · rw [if_pos hc, if_neg hk2, if_pos hk3]; exact .inl ⟨hc.1, hc.2, rfl⟩
        · rw [if_neg hc]; exact .inr ⟨hc, rfl⟩
      refine ⟨?_, by omega, by omega, fun y => ?_⟩
      · rcases e p.party with ⟨_, rfl, h2⟩ | ⟨_, h2⟩
        · rw [h2]; omega
        · rw [h2]; omega
      · rw [has_app]; have := a4 y; rcases e y with ⟨rfl, rfl, h2⟩ | ⟨_, h2⟩ <;> omega
theorem Book.sp {l : List Post} (h : Book l) : SP l := by
  have : ∀ j, j ≤ l.length → SP (l.take j) := fun j => by
    induction j with
    | zero => intro _; exact SP.nil
    | succ j ih =>
      intro hj
      have hq := List.getElem?_eq_getElem (show j < l.length by omega)
      rw [take_snoc hq]
      exact (ih (by omega)).app (h j _ hq)
  have := this l.length (Nat.le_refl _)
  rwa [List.take_length] at this
theorem Book.len {l : List Post} (h : Book l) : l.length ≤ 400 := by
  rcases Nat.eq_zero_or_pos l.length with h0 | h0
  · omega
  · have hq := List.getElem?_eq_getElem (show l.length - 1 < l.length by omega)
    have := (refused_ok (h _ _ hq)).2
    simp at this; omega
theorem Book.app {l : List Post} {p : Post} (h : Book l) (hr : refused l p = 0) : Book (l ++ [p]) := by
  intro k q hk
  rcases Nat.lt_or_ge k l.length with h1 | h1
  · rw [List.getElem?_append_left h1] at hk
    rw [List.take_append_of_le_length (Nat.le_of_lt h1)]
    exact h k q hk
  · rw [List.getElem?_append_right h1] at hk
    have : k - l.length = 0 := by
      have := (List.getElem?_eq_some_iff.1 hk).1; simp at this; omega
    rw [this] at hk; simp at hk; subst hk
    have : k = l.length := by omega
    subst this
    simpa using hr
theorem Book.take {l : List Post} (h : Book l) (j : Nat) : Book (l.take j) := by
  intro k q hk
  rw [List.getElem?_take] at hk
  split at hk
  · rename_i hkj
    rw [List.take_take, Nat.min_eq_left (Nat.le_of_lt hkj)]
    exact h k q hk
  · cases hk
theorem hasUpto_ge {l : List Post} {x : Int} (h : ∀ y, 0 ≤ Pu.has l y x) (k : Nat) : ∀ n : Nat, k < n → Pu.has l k x ≤ hasUpto l x n
  | 0, hk => by omega
  | n + 1, hk => by
    rw [hasUpto]
    have h0 : ∀ m : Nat, 0 ≤ hasUpto l x m := fun m => by
      induction m with
      | zero => exact Int.le_refl 0
      | succ m ih => rw [hasUpto]; have := h m; omega
    by_cases e : k = n
    · subst e; have := h0 k; omega
    · have := hasUpto_ge h k n (by omega); have := h n; omega
theorem has_out {l : List Post} (h : Book l) {y : Int} (hy : ¬ (0 ≤ y ∧ y ≤ 40)) (x : Int) : Pu.has l y x = 0 := by
  have : ∀ m : List Post, (∀ p ∈ m, ¬ p.party = y) → Pu.has m y x = 0 := fun m => by
    induction m with
    | nil => intro _; rfl
    | cons p r ih =>
      intro hm
      have e : Pu.has (p :: r) y x = hasOf y x p + Pu.has r y x := rfl
      rw [e, ih fun q hq => hm q (List.mem_cons_of_mem _ hq), hasOf, if_neg (fun hc => hm p (List.mem_cons_self ..) hc.1)]; rfl
  refine this l fun p hp e => ?_
  obtain ⟨k, hk, rfl⟩ := List.getElem_of_mem hp
  have := okP_party (refused_ok (h k _ (List.getElem?_eq_getElem hk))).1
  omega
theorem Book.has_le {l : List Post} (h : Book l) (y x : Int) : 0 ≤ Pu.has l y x ∧ Pu.has l y x ≤ 1000000000 := by
  obtain ⟨a1, a2, a3, a4⟩ := Book.sp h x
  refine ⟨a4 y, ?_⟩
  by_cases hy : 0 ≤ y ∧ y ≤ 40
  · have := hasUpto_ge a4 y.toNat 41 (by omega)
    rw [show ((y.toNat : Nat) : Int) = y by omega] at this
    unfold Pu.held at a1; omega
  · rw [has_out h hy]; omega

/-- into an ascending list -/
def insA (n : Int) : List Int → List Int
  | [] => [n]
  | x :: r => if n < x then n :: x :: r else if n = x then x :: r else x :: insA n r
theorem mem_insA (n y : Int) : ∀ a : List Int, y ∈ insA n a ↔ y = n ∨ y ∈ a
  | [] => by simp [insA]
  | x :: r => by
    rw [insA]
    split
    · simp
    · split
      · rename_i h; subst h; simp
      · rw [List.mem_cons, mem_insA n y r, List.mem_cons]
        constructor
        · rintro (h | h | h) <;> simp [h]
        · rintro (h | h | h) <;> simp [h]
theorem asc_insA (n : Int) : ∀ a : List Int, a.Pairwise (· < ·) → (insA n a).Pairwise (· < ·)
  | [], _ => by simp [insA]
  | x :: r, h => by
    rw [List.pairwise_cons] at h
    rw [insA]
    split
    · rename_i hx
      rw [List.pairwise_cons]
      refine ⟨fun y hy => ?_, List.pairwise_cons.2 h⟩
      rcases List.mem_cons.1 hy with rfl | hy
      · exact hx
      · have := h.1 y hy; omega
    · split
      · exact List.pairwise_cons.2 h
      · rw [List.pairwise_cons]
        refine ⟨fun y hy => ?_, asc_insA n r h.2⟩
        rcases (mem_insA n y r).1 hy with rfl | hy
        · omega
        · exact h.1 y hy
def parcels (l : List Post) : List Int := l.foldl (fun a p => insA p.parcel a) []
theorem parcels_mem_aux (y : Int) : ∀ (l : List Post) (a : List Int), y ∈ l.foldl (fun a p => insA p.parcel a) a ↔ y ∈ a ∨ ∃ p ∈ l, p.parcel = y
  | [], a => by simp
  | p :: r, a => by
    rw [List.foldl_cons, parcels_mem_aux y r, mem_insA]
    constructor
    · rintro ((rfl | h) | ⟨q, hq, h⟩)
      · exact .inr ⟨p, List.mem_cons_self .., rfl⟩
      · exact .inl h
      · exact .inr ⟨q, List.mem_cons_of_mem _ hq, h⟩
    · rintro (h | ⟨q, hq, h⟩)
      · exact .inl (.inr h)
      · rcases List.mem_cons.1 hq with rfl | hq
        · exact .inl (.inl h.symm)
        · exact .inr ⟨q, hq, h⟩
theorem mem_parcels (y : Int) (l : List Post) : y ∈ parcels l ↔ ∃ p ∈ l, p.parcel = y := by
  unfold parcels; rw [parcels_mem_aux]; simp
theorem asc_parcels (l : List Post) : (parcels l).Pairwise (· < ·) := by
  have : ∀ (l : List Post) (a : List Int), a.Pairwise (· < ·) → (l.foldl (fun a p => insA p.parcel a) a).Pairwise (· < ·) := fun l => by
    induction l with
    | nil => intro a h; exact h
    | cons p r ih => intro a h; exact ih _ (asc_insA _ _ h)
  exact this l [] List.Pairwise.nil
theorem parcels_snoc {l : List Post} {j : Nat} {p : Post} (h : l[j]? = some p) : parcels (l.take (j + 1)) = insA p.parcel (parcels (l.take j)) := by
  rw [take_snoc h]; unfold parcels; rw [List.foldl_append]; rfl

/-- strictly ordered lists with the same members are one -/
theorem eq_of_strict {α : Type} {lt : α → α → Prop} (hirr : ∀ a, ¬ lt a a) (htr : ∀ a b c, lt a b → lt b c → lt a c) : ∀ {a b : List α}, a.Pairwise lt → b.Pairwise lt → (∀ x, x ∈ a ↔ x ∈ b) → a = b
  | [], [], _, _, _ => rfl
  | [], y :: s, _, _, h => by have := (h y).2 (List.mem_cons_self ..); simp at this
  | x :: r, [], _, _, h => by have := (h x).1 (List.mem_cons_self ..); simp at this
  | x :: r, y :: s, ha, hb, h => by
    rw [List.pairwise_cons] at ha hb
    have hxy : x = y := by
      rcases List.mem_cons.1 ((h x).1 (List.mem_cons_self ..)) with e | e
      · exact e
      rcases List.mem_cons.1 ((h y).2 (List.mem_cons_self ..)) with e2 | e2
      · exact e2.symm
      exact absurd (htr _ _ _ (hb.1 x e) (ha.1 y e2)) (hirr _)
    subst hxy
    refine congrArg (x :: ·) (eq_of_strict hirr htr ha.2 hb.2 fun z => ⟨fun hz => ?_, fun hz => ?_⟩)
    · rcases List.mem_cons.1 ((h z).1 (List.mem_cons_of_mem _ hz)) with e | e
      · subst e; exact absurd (ha.1 z hz) (hirr _)
      · exact e
    · rcases List.mem_cons.1 ((h z).2 (List.mem_cons_of_mem _ hz)) with e | e
      · subst e; exact absurd (hb.1 z hz) (hirr _)
      · exact e

/-- the accounts that have something, in order -/
def accL (l : List Post) : List (Int × Int) := (parcels l).flatMap fun x => (List.range 41).filterMap fun k : Nat => if Pu.has l k x = 0 then none else some (x, (k : Int))
theorem mem_accL {l : List Post} (x y : Int) : (x, y) ∈ accL l ↔ x ∈ parcels l ∧ 0 ≤ y ∧ y ≤ 40 ∧ Pu.has l y x ≠ 0 := by
  unfold accL
  rw [List.mem_flatMap]
  constructor
  · rintro ⟨x', hx, h⟩
    rw [List.mem_filterMap] at h
    obtain ⟨k, hk, he⟩ := h
    rw [List.mem_range] at hk
    split at he
    · cases he
    · rename_i hne; cases he; exact ⟨hx, by omega, by omega, hne⟩
  · rintro ⟨hx, h0, h1, hne⟩
    refine ⟨x, hx, List.mem_filterMap.2 ⟨y.toNat, List.mem_range.2 (by omega), ?_⟩⟩
    rw [show ((y.toNat : Nat) : Int) = y by omega, if_neg hne]
theorem strict_grid {α : Type} (lt : α → α → Prop) (f : Int → Nat → Option α) (h1 : ∀ x k k' a a', k < k' → f x k = some a → f x k' = some a' → lt a a') (h2 : ∀ x x' k k' a a', x < x' → f x k = some a → f x' k' = some a' → lt a a')
    (xs : List Int) (hx : xs.Pairwise (· < ·)) (n : Nat) : (xs.flatMap fun x => (List.range n).filterMap (f x)).Pairwise lt := by
  induction xs with
  | nil => exact List.Pairwise.nil
  | cons x r ih =>
    rw [List.pairwise_cons] at hx
    rw [List.flatMap_cons, List.pairwise_append]
    refine ⟨?_, ih hx.2, ?_⟩
    · rw [List.pairwise_filterMap]
      exact List.pairwise_lt_range.imp fun {k k'} hk a ha a' ha' => h1 x k k' a a' hk ha ha'
    · intro a ha b hb
      obtain ⟨k, _, hk⟩ := List.mem_filterMap.1 ha
      obtain ⟨x', hx', hb⟩ := List.mem_flatMap.1 hb
      obtain ⟨k', _, hk'⟩ := List.mem_filterMap.1 hb
      exact h2 x x' k k' a b (hx.1 x' hx') hk hk'
theorem strict_accL (l : List Post) : (accL l).Pairwise ltAc := by
  refine strict_grid ltAc (fun x k => if Pu.has l k x = 0 then none else some (x, (k : Int))) ?_ ?_ _ (asc_parcels l) 41
  · intro x k k' a a' hk h1 h2
    (try dsimp only at h1 h2)
    split at h1
    · cases h1
    · split at h2
      · cases h2
      · cases h1; cases h2; exact .inr ⟨rfl, by dsimp only; omega⟩
  · intro x x' k k' a a' hx h1 h2
    (try dsimp only at h1 h2)
    split at h1
    · cases h1
    · split at h2
      · cases h2
      · cases h1; cases h2; exact .inl hx
theorem has_parcel {l : List Post} {y x : Int} (h : Pu.has l y x ≠ 0) : x ∈ parcels l := by
  rw [mem_parcels]
  refine Classical.byContradiction fun hn => h ?_
  have hn' : ∀ p ∈ l, ¬ p.parcel = x := fun p hp e => hn ⟨p, hp, e⟩
  clear h hn
  induction l with
  | nil => rfl
  | cons p r ih =>
    have e : Pu.has (p :: r) y x = hasOf y x p + Pu.has r y x := rfl
    rw [e, ih fun q hq => hn' q (List.mem_cons_of_mem _ hq), hasOf, if_neg (fun hc => hn' p (List.mem_cons_self ..) hc.2)]; rfl
theorem acc_eq {c : CS} {l : List Post} (hI : CInv c l) (hb : Book l) {d : List (Int × Int)} (hp : d.Pairwise ltAc) (hm : ∀ a, a ∈ d ↔ gd c.has a ≠ 0) : d = accL l := by
  refine eq_of_strict (lt := ltAc) (fun a => by unfold ltAc; omega) (fun a b c => by unfold ltAc; omega) hp (strict_accL l) ?_
  rintro ⟨x, y⟩
  rw [hm, mem_accL, hI.has]
  constructor
  · intro h
    refine ⟨has_parcel h, ?_⟩
    have : 0 ≤ y ∧ y ≤ 40 := Classical.byContradiction fun hn => h (has_out hb hn x)
    exact ⟨this.1, this.2, h⟩
  · rintro ⟨_, _, _, h⟩; exact h
end Go.Proofs.YtoijlikmigejbaaGreat
