/- Walks: maps.Keys, slices.Collect, slices.Sort, slices.Sorted at ints. -/
import Derived.Shelf.Sort.Plain
import Derived.Shelf.Slices.In.SortNone
import Derived.Ground.NamesProg
import Derived.Test.YtoijlikmigejbaaGreatCDelI
namespace Go.Proofs
open Go.Shelf Go.RowKit Go.Lib Go.Sort
def Tryz.sortI_ren : Go.Shelf.Ren := ⟨fun | 189 => 119 | 125 => 137 | 257 => 136 | 128 => 155 | 129 => 156 | 294 => 146 | 295 => 147 | 296 => 148 | 297 => 149 | 298 => 150 | 299 => 151 | 216 => 152 | 300 => 153 | 301 => 154 | 328 => 159 | 329 => 160 | 330 => 161 | 331 => 162 | 332 => 163 | 215 => 142 | 343 => 172 | n => n, fun | 28 => 32 | 3 => 3 | 46 => 156 | 0 => 0 | 51 => 170 | 53 => 172 | 4 => 4 | 183 => 163 | 182 => 162 | 131 => 116 | 5 => 5 | 9 => 9 | 218 => 175 | 222 => 179 | 228 => 186 | 229 => 187 | n => n, fun | n => n⟩
theorem Tryz.sortI : Go.Proofs.Lays.n189 Tryz.prog Tryz.sortI_ren := {
  mixed := by kernel_rfl
  f125 := Tryz.func137.trans (congrArg some (by kernel_rfl))
  f128 := Tryz.func155.trans (congrArg some (by kernel_rfl))
  f129 := Tryz.func156.trans (congrArg some (by kernel_rfl))
  f189 := Tryz.func119.trans (congrArg some (by kernel_rfl))
  f215 := Tryz.func142.trans (congrArg some (by kernel_rfl))
  f216 := Tryz.func152.trans (congrArg some (by kernel_rfl))
  f257 := Tryz.func136.trans (congrArg some (by kernel_rfl))
  f294 := Tryz.func146.trans (congrArg some (by kernel_rfl))
  f295 := Tryz.func147.trans (congrArg some (by kernel_rfl))
  f296 := Tryz.func148.trans (congrArg some (by kernel_rfl))
  f297 := Tryz.func149.trans (congrArg some (by kernel_rfl))
  f298 := Tryz.func150.trans (congrArg some (by kernel_rfl))
  f299 := Tryz.func151.trans (congrArg some (by kernel_rfl))
  f300 := Tryz.func153.trans (congrArg some (by kernel_rfl))
  f301 := Tryz.func154.trans (congrArg some (by kernel_rfl))
  f328 := Tryz.func159.trans (congrArg some (by kernel_rfl))
  f329 := Tryz.func160.trans (congrArg some (by kernel_rfl))
  f330 := Tryz.func161.trans (congrArg some (by kernel_rfl))
  f331 := Tryz.func162.trans (congrArg some (by kernel_rfl))
  f332 := Tryz.func163.trans (congrArg some (by kernel_rfl))
  f343 := Tryz.func172.trans (congrArg some (by kernel_rfl))
  t0 := Tryz.underlying0
  a0 := Tryz.isAgg0
  z0 := Tryz.sizeOf0
  v0 := Tryz.zeroValue0
  t3 := Tryz.underlying3
  a3 := Tryz.isAgg3
  z3 := Tryz.sizeOf3
  v3 := Tryz.zeroValue3
  t4 := Tryz.underlying4
  a4 := Tryz.isAgg4
  z4 := Tryz.sizeOf4
  v4 := Tryz.zeroValue4
  t5 := Tryz.underlying5
  a5 := Tryz.isAgg5
  z5 := Tryz.sizeOf5
  v5 := Tryz.zeroValue5
  t9 := Tryz.underlying9
  a9 := Tryz.isAgg9
  z9 := Tryz.sizeOf9
  v9 := Tryz.zeroValue9
  t28 := Tryz.underlying32
  a28 := Tryz.isAgg32
  z28 := Tryz.sizeOf32
  v28 := Tryz.zeroValue32
  t46 := Tryz.underlying156
  a46 := Tryz.isAgg156
  z46 := Tryz.sizeOf156
  v46 := Tryz.zeroValue156
  t51 := Tryz.underlying170
  a51 := Tryz.isAgg170
  z51 := Tryz.sizeOf170
  v51 := Tryz.zeroValue170
  t53 := Tryz.underlying172
  a53 := Tryz.isAgg172
  z53 := Tryz.sizeOf172
  v53 := Tryz.zeroValue172
  t131 := Tryz.underlying116
  a131 := Tryz.isAgg116
  z131 := Tryz.sizeOf116
  v131 := Tryz.zeroValue116
  t182 := Tryz.underlying162
  a182 := Tryz.isAgg162
  z182 := Tryz.sizeOf162
  v182 := Tryz.zeroValue162
  t183 := Tryz.underlying163
  a183 := Tryz.isAgg163
  z183 := Tryz.sizeOf163
  v183 := Tryz.zeroValue163
  t218 := Tryz.underlying175
  a218 := Tryz.isAgg175
  z218 := Tryz.sizeOf175
  v218 := Tryz.zeroValue175
  t222 := Tryz.underlying179
  a222 := Tryz.isAgg179
  z222 := Tryz.sizeOf179
  v222 := Tryz.zeroValue179
  t228 := Tryz.underlying186
  a228 := Tryz.isAgg186
  z228 := Tryz.sizeOf186
  v228 := Tryz.zeroValue186
  t229 := Tryz.underlying187
  a229 := Tryz.isAgg187
  z229 := Tryz.sizeOf187
  v229 := Tryz.zeroValue187 }
end Go.Proofs

namespace Go.Proofs.YtoijlikmigejbaaGreat
open Go.RowKit Go.Shelf Go.Proofs.YtoijlikmigejbaaGreat.Pu
attribute [local go_sem] Oper.semAt_some

theorem holdsI {w : World} {rb : Nat} {d : List Int} (h : RowI w rb d) : Go.Sort.Holds (Value.int .i64) w rb 0 d.toArray := by
  intro j hj
  rw [List.size_toArray] at hj
  refine ⟨?_, h.fz _⟩
  rw [Nat.zero_add, getElem!_pos _ _ (by simpa using hj)]
  exact h.c0 j _ (by simp)
theorem rowI_of {w : World} {rb : Nat} {d : List Int} (hlt : rb < w.heap.size) (h : Go.Sort.Holds (Value.int .i64) w rb 0 d.toArray) (hz : ∀ j, w.frozen? ⟨rb, j, none⟩ = false) : RowI w rb d := by
  refine ⟨hlt, fun i x hx => ?_, hz⟩
  obtain ⟨h1, rfl⟩ := List.getElem?_eq_some_iff.1 hx
  have := (h i (by simpa using h1)).1
  rw [Nat.zero_add, getElem!_pos _ _ (by simpa using h1)] at this
  simpa using this

/-- the sort's answer -/
def SortResI (rb : Nat) (d : List Int) (w : World) (e : Ending) (w' : World) : Prop :=
  e = .returned (.tuple #[]) ∧ RowI w' rb (d.mergeSort fun x y => decide (x ≤ y)) ∧ ∀ M, M ≤ rb → Below M w w'

theorem xSortI (d : List Int) (cap rb : Nat) (w : World) (hR : RowI w rb d) (hd : d.length ≤ 1000000) :
    Calls Tryz.prog 119 #[.slice (some ⟨rb, 0, none⟩) d.length cap] w (SortResI rb d w) := by
  have hcon := Any.slices_Sort_int Tryz.sortI rb 0 cap d w (holdsI hR) hR.lt (by omega)
  change Calls Tryz.prog 119 _ _ _ at hcon
  refine hcon.mono ?_
  rintro e w' ⟨rfl, n, os, rfl⟩
  obtain ⟨ys, hys⟩ : ∃ ys, (d.mergeSort fun x y => decide (x ≤ y)) = ys := ⟨_, rfl⟩
  have hlen : ys.length = d.length := by rw [← hys]; exact List.length_mergeSort _
  have hlt : rb < (Go.Sort.putRow (Value.int .i64) (Go.Sort.ahead w n) rb 0 ys.toArray).heap.size := by
    simp [Go.Sort.putRow, Go.Sort.mapBlock, Go.Sort.ahead]; exact hR.lt
  refine ⟨rfl, ?_, ?_⟩
  · rw [hys]
    refine rowI_of ?_ ?_ ?_
    · simp [Go.Sort.grow, Go.Sort.putRow, Go.Sort.mapBlock, Go.Sort.ahead]; have := hR.lt; omega
    · exact Go.Sort.holds_grow _ _ _ _ _ _ hlt (Go.Sort.holds_putRow _ _ _ _ _ _ (Go.Sort.holds_ahead _ _ n _ _ _ (holdsI hR)) (by simpa using hlen))
    · intro j
      rw [Go.Sort.frozen?_grow _ _ _ hlt]
      exact (Go.Sort.frozen?_mapBlock _ _ _ _).trans (hR.fz j)
  · intro M hM
    refine ⟨rfl, rfl, rfl, by simp [Go.Sort.grow, Go.Sort.putRow, Go.Sort.mapBlock, Go.Sort.ahead], fun k hk => ?_⟩
    have hkl : k < w.heap.size := Nat.lt_of_lt_of_le hk (Nat.le_trans hM (Nat.le_of_lt hR.lt))
    rw [Go.Sort.heap_grow_old _ _ (by simp [Go.Sort.putRow, Go.Sort.mapBlock, Go.Sort.ahead]; exact hkl)]
    simp only [Go.Sort.putRow, Go.Sort.mapBlock, Go.Sort.ahead]
    rw [Array.getElem?_modify, if_neg (by omega)]
theorem xSortNoneI (p : Option Addr) (cap : Nat) (w : World) : Calls Tryz.prog 119 #[.slice p 0 cap] w fun e w' => e = .returned (.tuple #[]) ∧ w' = w :=
  Any.slices_Sort_int_none Tryz.sortI p cap w

set_option maxRecDepth 100000 in
set_option maxHeartbeats 4000000 in
theorem keysI_stops (n : Nat) (hn : 1 ≤ n) (n0 Bm b : Nat) (m : List (Int × Int)) (w : World) (hBm : Bm < w.heap.size) (hm : w.cell? ⟨Bm, 0, none⟩ = some (.map (some b))) (hb : w.heap[b]? = some (mapObj vi vi m)) :
    SeqStopsK Fence.wide n Tryz.prog 120 #[.pointer (some ⟨Bm, 0, none⟩)] (fun x => #[vi x]) (KB n0) (fun xs => xs.Perm (m.map (·.1))) (fun _ => True) m.length w := by
  intro l J Jx W hW hJ hJx hY h0
  have hcm : W.cell? ⟨Bm, 0, none⟩ = some (.map (some b)) := (hW.cell (p := ⟨Bm, 0, none⟩) hBm).trans hm
  have hbm : W.heap[b]? = some (mapObj vi vi m) := (hW.block b (Array.getElem?_eq_some_iff.1 hb).1).trans hb
  have hrg := run_rangeM (P := Tryz.prog) (w := W) Tryz.underlying77 hbm
  refine callsIn_of_wp Tryz.func120 rfl trivial ?_ rfl
  simp only [Tryz.ntmps120, List.size_toArray, List.length_cons, List.length_nil, Nat.reduceAdd, Nat.reduceSub, Array.replicate_succ, Array.replicate_zero, List.push_toArray, List.append_toArray, List.nil_append, List.cons_append]
  gi_wp2
  have hN := MapIt.new (eK := vi) (eV := vi) hbm
  have hJ0 := AbidesFrom.alloc hJ h0 (.mapIter (some b) m.length #[] m.length)
  gi_loopw [3] (fun _ wr => ∃ seen done, MapIt vi vi wr W.heap.size b m seen ∧ Hid (Came m seen done) ∧ J (done.map (·.1)) wr) (fun _ wr => leftW m W.heap.size wr)
  case atStart => exact ⟨#[], [], hN, Came.start m, hJ0⟩
  case round =>
    obtain ⟨seen, done, hit, hC, hJd⟩ := hrel
    clear hrg hcm hbm hN hJ0 h0
    gi_wp2_with (gi_at_next; refine wpListIn_nextM (K := Int) (V := Int) (eK := vi) (eV := vi) rfl _ rfl rfl hit ?_ ?_)
    · intro hnil
      have hall := hC.out.all hnil
      gi_wp2
      go_end0
      exact ⟨⟨_, rfl⟩, .inl ⟨_, hall.map _, hJd⟩⟩
    · intro i k v w2 hx hit2 hg2 hs2 hen
      have hJ2 : J (done.map (·.1)) w2 := hJ _ _ w2 (some W.heap.size) hJd hg2 (fun r e => by cases e; exact ⟨Nat.le_refl _, _, hit.iter, rfl⟩)
      obtain ⟨fn, tmps, assign, body, hy, hR⟩ := hY (done.map (·.1)) k w2 hJ2 (by rw [List.length_map]; exact hC.out.lt hx)
      have hC2 := Lib.hid (hC.out.step hx)
      have hdec := Lib.hid (leftM_dec hx)
      have hlw := Lib.hid hit.left
      clear hit hx hg2 hs2 hJ2
      gi_wp2
      refine hR.mono ?_
      rintro e W3 (⟨rfl, hJ3, hk3⟩ | ⟨rfl, hJx3⟩)
      · gi_wp2
        have hit3 := hit2.walks hk3.1
        go_roundw
        case rel => exact ⟨_, done ++ [(k, v)], hit3, hC2, by rw [List.map_append]; exact hJ3⟩
        case measure => rw [hit3.left, hlw.out]; exact hdec.out
      · gi_wp2
        refine bodyPost_ret (results_none rfl _ _ _) rfl ?_
        exact ⟨⟨_, rfl⟩, .inr ⟨_, trivial, hJx3⟩⟩

theorem pKeysI (b : Nat) (w : World) : Calls Tryz.prog 83 #[.map (some b)] w fun e w' =>
    e = .returned (.func (.func 120) #[] #[.pointer (some ⟨w.heap.size, 0, none⟩)]) ∧ w.alloc (.cells #[.map (some b)] 77) = w' := by
  have hmf : ∀ (fn : Fn) (first cap : Array Value) (w : World), (Instr.makeFunc fn first cap).run Tryz.prog w = .ok (.func fn first cap) w := fun _ _ _ _ => rfl
  go_enter Tryz.func83, Tryz.ntmps83
  go_wp2
  go_ret
  exact ⟨rfl, rfl⟩
theorem pKeysCollectI (b : Nat) (m : List (Int × Int)) (w : World) (Bm : Nat) (hBm : Bm < w.heap.size) (hm : w.cell? ⟨Bm, 0, none⟩ = some (.map (some b))) (hb : w.heap[b]? = some (mapObj vi vi m)) (hl : m.length ≤ 1000000) :
    Calls Tryz.prog 88 #[.func (.func 120) #[] #[.pointer (some ⟨Bm, 0, none⟩)]] w fun e w' =>
      ∃ ao cap xs, e = .returned (.slice ao xs.length cap) ∧ xs.Perm (m.map (·.1)) ∧ Own 3 1 icells w.heap.size w' ao xs.length cap xs ∧ Below w.heap.size w w' := by
  refine (callsIn_wide (n := 5)).1 ?_
  exact xCollectI 5 (by omega) _ _ (enters_of Tryz.func120 (by kernel_rfl) rfl) _ _ m.length hl w w (keysI_stops 3 (by omega) w.heap.size Bm b m w hBm hm hb) (Below.refl _ _)

/-- the keys of a map, in order -/
def SrtResI (m : List (Int × Int)) (w : World) (e : Ending) (w' : World) : Prop :=
  ∃ ao n cap d, e = .returned (.slice ao n cap) ∧ d.Perm (m.map (·.1)) ∧ d.Pairwise (· ≤ ·) ∧ SlI w.heap.size w' ao n cap d ∧ Below w.heap.size w w'
theorem mergeSortI (d : List Int) : (d.mergeSort fun x y => decide (x ≤ y)).Pairwise (· ≤ ·) := by
  have := List.pairwise_mergeSort (le := fun x y : Int => decide (x ≤ y)) (fun a b c h1 h2 => by simp only [decide_eq_true_eq] at *; omega) (fun a b => by simp only [Bool.or_eq_true, decide_eq_true_eq]; omega) d
  exact this.imp fun h => by simpa using h

set_option maxRecDepth 100000 in
set_option maxHeartbeats 2000000 in
theorem xSortedI (b : Nat) (m : List (Int × Int)) (w : World) (Bm : Nat) (hBm : Bm < w.heap.size) (hm : w.cell? ⟨Bm, 0, none⟩ = some (.map (some b))) (hb : w.heap[b]? = some (mapObj vi vi m)) (hl : m.length ≤ 1000) :
    Calls Tryz.prog 82 #[.func (.func 120) #[] #[.pointer (some ⟨Bm, 0, none⟩)]] w (SrtResI m w) := by
  have hcol := Lib.hid (pKeysCollectI b m w Bm hBm hm hb (by omega))
  go_enter Tryz.func82, Tryz.ntmps82
  go_wp2_with (fail)
  go_at_call 88
  refine hcol.out.mono ?_
  rintro e w1 ⟨ao, cap, xs, rfl, hperm, hown, hB⟩
  have hlen : xs.length ≤ 1000 := by have := hperm.length_eq; simp at this; omega
  obtain ⟨rfl, h0, rfl⟩ | ⟨g, rfl, hg, hR, _, hc⟩ := hown.slI
  · replace hB := Lib.hid hB
    replace hperm := Lib.hid hperm
    clear hown
    go_wp2_with (go_at_call 119; refine (xSortNoneI _ _ _).mono ?_; rintro e w' ⟨rfl, rfl⟩)
    go_ret
    exact ⟨none, 0, cap, [], rfl, hperm.out, List.Pairwise.nil, .inl ⟨rfl, rfl, rfl⟩, hB.out⟩
  · have hsort := Lib.hid (xSortI xs cap g w1 hR (by omega))
    replace hB := Lib.hid hB
    replace hperm := Lib.hid hperm
    have hlm := Lib.hid (List.length_mergeSort (le := fun x y : Int => decide (x ≤ y)) xs)
    have hpm := Lib.hid (List.mergeSort_perm xs (fun x y : Int => decide (x ≤ y)))
    obtain ⟨n, hn⟩ : ∃ n, Hid (xs.length = n) := ⟨_, rfl⟩
    rw [hn.out] at hlen hc hsort ⊢
    clear hown hR
    go_wp2_with (go_at_call 119; refine hsort.out.mono ?_; rintro e w' ⟨rfl, hR', hBl⟩)
    go_ret
    exact ⟨_, n, cap, _, rfl, hpm.out.trans hperm.out, mergeSortI xs, .inr ⟨g, rfl, hg, hR', by rw [hlm.out, hn.out], hc⟩, hB.out.trans (hBl _ hg)⟩
theorem strictI {d : List Int} (h : d.Pairwise (· ≤ ·)) (hn : d.Nodup) : d.Pairwise (· < ·) := by
  have h2 := List.pairwise_and_iff.2 ⟨h, hn⟩
  exact h2.imp fun h => by omega
end Go.Proofs.YtoijlikmigejbaaGreat
