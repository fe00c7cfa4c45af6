/- The law PurseMost: the book of n sales, in plain Lean; the walk. -/
import Derived.Test.YtoijlikmigejbaaCLwA
namespace Go.Proofs.Ytoijlikmigejbaa
open Go.RowKit Go.Proofs.Ytoijlikmigejbaa.Pu

def mostP (i : Nat) : Post := ⟨(i : Int) + 1, i, 1, 0, 10 * ((i : Int) + 1), 1 + i, 1, 0⟩
def mostL (n : Nat) : List Post := (List.range n).map mostP
theorem mostL_succ (n : Nat) : mostL (n + 1) = mostL n ++ [mostP n] := by unfold mostL; rw [List.range_succ, List.map_append]; rfl
theorem mostL_len (n : Nat) : (mostL n).length = n := by simp [mostL]
theorem mostL_get {n k : Nat} {p : Post} (h : (mostL n)[k]? = some p) : k < n ∧ p = mostP k := by
  unfold mostL at h
  rw [List.getElem?_map] at h
  rcases Nat.lt_or_ge k n with h1 | h1
  · rw [List.getElem?_range h1] at h; cases h; exact ⟨h1, rfl⟩
  · rw [List.getElem?_eq_none (by simpa using h1)] at h; cases h
theorem mostL_take (n k : Nat) (h : k ≤ n) : (mostL n).take k = mostL k := by
  unfold mostL; rw [← List.map_take, List.take_range, Nat.min_eq_left h]
theorem mostL_sold (n : Nat) : ∀ k, k ≤ n → Pu.sold (mostL k) (10 * ((n : Int) + 1)) = 0
  | 0, _ => rfl
  | k + 1, h => by
    rw [mostL_succ, sold_app, mostL_sold n k (by omega)]
    unfold soldOf mostP
    dsimp only
    rw [if_neg (by omega)]; rfl
theorem mostL_any (n : Nat) : ∀ k, k ≤ n → (mostL k).any (fun q => q.id == (n : Int) + 1) = false
  | 0, _ => rfl
  | k + 1, h => by
    rw [mostL_succ, List.any_append, mostL_any n k (by omega)]
    unfold mostP
    simp
    omega
theorem lastHour_snoc (l : List Post) (p : Post) : lastHour (l ++ [p]) = p.hour := by unfold lastHour; simp
theorem most_step (k : Nat) (h : k < 400) : refused (mostL k) (mostP k) = 0 := by
  have hok : okP (mostP k) = true := by
    unfold okP mostP inB
    simp
    omega
  have hh : ¬ (0 < (mostL k).length ∧ (mostP k).hour < lastHour (mostL k)) := by
    cases k with
    | zero => simp [mostL]
    | succ j =>
      rw [mostL_succ, lastHour_snoc]
      unfold mostP
      dsimp only
      omega
  rw [refused_tail (by rw [mostL_len]; omega) hok (mostL_any k k (Nat.le_refl _)) hh]
  unfold refusedTail
  rw [if_pos (show (mostP k).kind = 1 from rfl), show (mostP k).parcel = 10 * ((k : Int) + 1) from rfl, mostL_sold k k (Nat.le_refl _), if_neg (by omega)]
theorem most_bookTo (n j : Nat) (hj : j ≤ 400) : BookTo (mostL n) j := by
  intro k p hk hp
  obtain ⟨hkn, rfl⟩ := mostL_get hp
  rw [mostL_take n k (by omega)]
  exact most_step k (by omega)
theorem most_book {n : Nat} (h : n ≤ 400) : Book (mostL n) := bookTo_all (by rw [mostL_len]; exact most_bookTo n n h)
theorem most_check {n : Nat} (h : n ≤ 400) : check (mostL n) = (0, 0) := check_book (most_book h)
theorem most_check2 {n : Nat} (h : 400 < n) : check (mostL n) = (400, 2) := by
  have hr : refused ((mostL n).take 400) (mostP 400) = 2 := by
    unfold refused
    rw [if_pos (by rw [mostL_take n 400 (by omega), mostL_len]; exact Nat.le_refl _)]
  have hp : (mostL n)[400]? = some (mostP 400) := by
    unfold mostL; rw [List.getElem?_map, List.getElem?_range h]; rfl
  have := check_bad (most_bookTo n 400 (Nat.le_refl _)) hp (by rw [hr]; omega)
  rw [hr] at this
  exact this
theorem most_total : ∀ n : Nat, 2 * total (mostL n) = (n : Int) * ((n : Int) + 1)
  | 0 => rfl
  | n + 1 => by
    rw [mostL_succ, total_app]
    have h1 := most_total n
    have h2 : totOf (mostP n) = 1 + n := rfl
    rw [h2, Int.mul_add, h1]
    have h3 : ((n + 1 : Nat) : Int) = (n : Int) + 1 := by omega
    have h4 : ((n : Int) + 1) * ((n : Int) + 1 + 1) = ((n : Int) + 1) * ((n : Int) + 1) + ((n : Int) + 1) := by rw [Int.mul_add ((n : Int) + 1) ((n : Int) + 1) 1, Int.mul_one]
    have h5 : ((n : Int) + 1) * ((n : Int) + 1) = (n : Int) * ((n : Int) + 1) + ((n : Int) + 1) := by rw [Int.add_mul, Int.one_mul]
    rw [h3, h4, h5]
    omega
theorem mostL_kinds (n : Nat) : Kinds (mostL n) := by
  intro p hp
  obtain ⟨k, hk, rfl⟩ := List.getElem_of_mem hp
  obtain ⟨_, e⟩ := mostL_get (List.getElem?_eq_getElem hk)
  rw [e]; exact ⟨show (0 : Int) ≤ 1 by omega, show (1 : Int) ≤ 255 by omega⟩

theorem most_prod (j : Nat) (h : j ≤ 404) : 0 ≤ (j : Int) * ((j : Int) + 1) ∧ (j : Int) * ((j : Int) + 1) ≤ 163620 := by
  have h1 : ((j * (j + 1) : Nat) : Int) = (j : Int) * ((j : Int) + 1) := by rw [Int.natCast_mul]; rfl
  have h2 : j * (j + 1) ≤ 404 * 405 := Nat.mul_le_mul h (by omega)
  omega
theorem most_n (many : Int) : ∃ u : Nat, (IntKind.u64.wrap many).tmod 10 = (u : Int) ∧ u < 10 := by
  have h : 0 ≤ IntKind.u64.wrap many := by
    simp [IntKind.wrap, IntKind.signed, IntKind.bits]
    omega
  have h1 := Int.tmod_nonneg 10 h
  have h2 := Int.tmod_lt_of_pos (IntKind.u64.wrap many) (show (0 : Int) < 10 by omega)
  exact ⟨((IntKind.u64.wrap many).tmod 10).toNat, by omega, by omega⟩

set_option maxRecDepth 100000 in
set_option maxHeartbeats 8000000 in
theorem wMost (many : Int) (w : World) : Calls Try.prog 4 #[.int .i64 many] w (LawRes w) := by
  obtain ⟨i0, hi, hz0, hz1, hz2⟩ := info_parts infoPost
  obtain ⟨u, hu, hu10⟩ := most_n many
  have hw1 : wrap64 (u : Int) = (u : Int) := IntWalk.wrap64_in _ (by omega)
  have hw2 : wrap64 (395 + (u : Int)) = ((395 + u : Nat) : Int) := by rw [IntWalk.wrap64_in _ (by omega)]; omega
  go_enter Try.func4, Try.ntmps4
  go_wp2
  obtain ⟨n, hn⟩ : ∃ n, 395 + u = n := ⟨_, rfl⟩
  rw [show (395 : Int) + (u : Int) = (n : Int) by omega]
  have hn4 : n ≤ 404 := by omega
  clear hw1 hw2 hu hu10 hn
  obtain ⟨mb, hmb⟩ : ∃ mb, w.heap.size = mb := ⟨_, rfl⟩
  have hrefl := Below.refl mb w
  replace hmb := Lib.hid hmb
  go_loopw [4, 5] (fun v i wr => ∃ j : Nat, j ≤ n ∧ i = .int .i64 j ∧ Below mb w wr ∧ mb ≤ wr.heap.size ∧ Hid (wr.ownsRow mb 24 8 v j (flat pcells (mostL j)))) (fun _ i _ => n - (intOf i).toNat)
  case atStart => exact ⟨0, Nat.zero_le _, rfl, hrefl, by have := hmb.out; omega, World.ownsRow_nil _ _ _ _⟩
  case round =>
  obtain ⟨j, hj, rfl, hb, hws, hown⟩ := hrel
  by_cases hlt : j < n
  case pos =>
    have hw1 : wrap64 ((j : Int) + 1) = (j : Int) + 1 := IntWalk.wrap64_in _ (by omega)
    have hw2 : wrap64 (10 * ((j : Int) + 1)) = 10 * ((j : Int) + 1) := IntWalk.wrap64_in _ (by omega)
    have hw3 : wrap64 (1 + (j : Int)) = 1 + (j : Int) := IntWalk.wrap64_in _ (by omega)
    have hnw := heap_alloc_new wr (.cells (pcells (mostP j)).toArray 24 (0, 0))
    have hnews := Lib.hid (World.news_of_block hnw)
    have hox := Lib.hid (hown.out.alloc (.cells (pcells (mostP j)).toArray 24 (0, 0)))
    replace hb := Lib.hid hb
    clear hnw
    go_wp2_with ((at_builtin; refine wpList_append_own_at _ rfl _ _ 22 rfl mb 24 i0 (pval zeroP) 8 64 Try.underlying22 hi hz0 hz1 hz2 rfl (by decide) _ j (flat pcells (mostL j)) rfl hox.out ⟨_, 0, none⟩ 1 1 (pcells (mostP j)) rfl rfl hnews.out (pcells_cell _) (by unfold maxLen; omega) (by omega) (by simp; omega) ?_; intro v3 w3 hown3 hgrow3 _ _))
    have hs3 := hgrow3.size
    simp at hs3
    have hB3 := Lib.hid ((hb.out.alloc hws _).grown hgrow3 (by simp; omega) (own_far hox.out))
    replace hown3 := Lib.hid hown3
    clear hgrow3
    go_wp2
    go_roundw
    case rel =>
      refine ⟨j + 1, by omega, by go_num, hB3.out, by omega, ?_⟩
      show World.ownsRow _ _ _ _ _ _ _
      rw [mostL_succ, flat_app, flat_one]
      exact hown3.out
    case measure => simp [intOf]; omega
  case neg =>
  obtain rfl : j = n := by omega
  obtain ⟨ao, cap, rfl⟩ := own_form hown.out
  have hL := Lib.hid (Own.lin hown.out (mostL_len j).symm (by omega) (mostL_kinds j))
  have hBm := Lib.hid hb
  clear hb hrefl hown hlt hj
  by_cases hbig : 400 < j
  case pos =>
    have hck := most_check2 hbig
    go_wp2_with (fail)
    go_at_call 10
    refine hL.out.pCheck.mono ?_
    rintro e w2 hr
    rw [hck] at hr
    obtain ⟨rfl, hB2⟩ := hr
    have hBB := Lib.hid (hBm.out.trans (hB2.mono hws))
    have hs2 : mb ≤ w2.heap.size := Nat.le_trans hws hB2.size
    clear hck hB2
    go_wp2_with (go_at_call 9; refine (ppurses _).mono ?_; rintro e w3 ⟨rfl, hB3⟩)
    go_ret
    exact ⟨rfl, by rw [hmb.out]; exact hBB.out.trans (hB3.mono hs2)⟩
  case neg =>
    have hck := most_check (n := j) (by omega)
    have htot : total (mostL j) = (j : Int) * ((j : Int) + 1) / 2 := by have := most_total j; omega
    go_wp2_with (fail)
    go_at_call 10
    refine hL.out.pCheck.mono ?_
    rintro e w2 hr
    rw [hck] at hr
    obtain ⟨rfl, hB2⟩ := hr
    have hL2 := Lib.hid (hL.out.after hB2)
    have hBB := Lib.hid (hBm.out.trans (hB2.mono hws))
    have hs2 : mb ≤ w2.heap.size := Nat.le_trans hws hB2.size
    clear hB2
    go_wp2_with (fail)
    go_at_call 17
    refine (pHeld hL2.out).mono ?_
    rintro e w3 hr
    rw [hck] at hr
    obtain ⟨rfl, hB3⟩ := hr
    have hBC := Lib.hid (hBB.out.trans (hB3.mono hs2))
    have hs3 : mb ≤ w3.heap.size := Nat.le_trans hs2 hB3.size
    have hw1 : wrap64 ((j : Int) + 1) = (j : Int) + 1 := IntWalk.wrap64_in _ (by omega)
    have hjj := most_prod j hn4
    have hw2 : wrap64 ((j : Int) * ((j : Int) + 1)) = (j : Int) * ((j : Int) + 1) := IntWalk.wrap64_in _ (by omega)
    have hnum : numE ((0 : Int), (0 : Int)).2 (total (mostL j)) = (total (mostL j), 0) := rfl
    rw [hnum]
    clear hck hnum hB3 hL2 hL hBB
    obtain ⟨tt, htt⟩ : ∃ tt, (j : Int) * ((j : Int) + 1) = tt := ⟨_, rfl⟩
    rw [htt] at htot hjj hw2
    rw [htot]
    have hq : Int.tdiv tt 2 = tt / 2 := Int.tdiv_eq_ediv_of_nonneg hjj.1
    have hw3 : wrap64 (tt / 2) = tt / 2 := IntWalk.wrap64_in _ (by omega)
    clear htot
    replace hjj := Lib.hid hjj
    go_wp2_with (fail)
    go_at_call 9
    refine (ppurses _).mono ?_
    rintro e w4 ⟨rfl, hB4⟩
    have hBD := Lib.hid (hBC.out.trans (hB4.mono hs3))
    clear hB4
    go_wp2
    go_ret
    exact ⟨rfl, by rw [hmb.out]; exact hBD.out⟩
end Go.Proofs.Ytoijlikmigejbaa
